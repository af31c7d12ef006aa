/-
  The end of a call: its results, and the blocks that stay. And what stood behind it in 4 texts.
  Conditions: said at the theorems.
-/
import Derived.Test.YtnnmeljlcdmljaaGreatDoorCode
set_option linter.unusedVariables false
set_option linter.unusedSimpArgs false
namespace Go.Ev
section
variable {P:Program} {nt:Nat} {env:Env} {H:Heap}
theorem Qbc {ι:Io} {D:Nat→Prop} {a:Act} {w:World} (hR:Rel ι D H w) (hE:ERel ι D nt env a):∀ {l:List ResultVar} {vs:List Value},Q39 P env H l=some vs →
  ∃ cs:List Value,Q07 ι D vs cs∧(l.mapM fun (x:ResultVar)=>(match x with | .tmp t=>pure (a.tmps.getD t undef) | .cell b t=>do loadVar t (← asAddr (a.tmps.getD b undef)):Sem Value)).run P w=.ok cs w
 | [],vs,h=>by simp [Q39] at h;subst h;exact ⟨[],Q07.nil _ _,by simp⟩
 | .tmp t::l,vs,h=>by
  simp only [Q39] at h
  replace h:=Q2 h;obtain ⟨v,hv,h⟩:=h
  replace h:=Q2 h;obtain ⟨r,hr,h⟩:=h
  simp at h;subst h
  obtain ⟨cs,h1,h2⟩:=Qbc hR hE hr
  refine ⟨_,Q07.cons (hE.get t v hv) h1,?_⟩
  simp only [List.mapM_cons,Sem.run_bind,Sem.run_pure,Result.andThen_ok,h2]
 | .cell b t::l,vs,h=>by
  simp only [Q39] at h
  replace h:=Q2 h;obtain ⟨v,hv,h⟩:=h
  split at h
  ·rename_i p
   have hp:=(hE.get b _ hv).inv_ptr.1
   have hasA:(asAddr (a.tmps.getD b undef)).run P w=.ok (ι.addr p) w:=by rw [hp];rfl
   replace h:=Q2 h;obtain ⟨i,hi,h⟩:=h
   have key:∀ (u:Value) (c:Value) (r:List Value),Q39 P env H l=some r→vs=u::r→VRel ι D u c→(loadVar t (ι.addr p)).run P w=.ok c w→∃ cs:List Value,Q07 ι D vs cs ∧
     ((ResultVar.cell b t::l).mapM fun (x:ResultVar)=>(match x with | .tmp t=>pure (a.tmps.getD t undef) | .cell b t=>do loadVar t (← asAddr (a.tmps.getD b undef)):Sem Value)).run P w=.ok cs w:=by
    intro u c r hr e hu hl
    subst e
    obtain ⟨cs,h1,h2⟩:=Qbc hR hE hr
    refine ⟨c::cs,Q07.cons hu h1,?_⟩
    simp only [List.mapM_cons,Sem.run_bind,Sem.run_pure,Result.andThen_ok,hasA,hl,h2]
   have hagg:∀ (d:TypeDesc) (l' r:List Value),P.underlying t=some d→((∃ fs,d=.struct fs)∨∃ n e,d=.array n e)→Qx H p i.size=some l'→Q39 P env H l=some r→vs=.agg l'.toArray::r→∃ cs:List Value,Q07 ι D vs cs ∧
     ((ResultVar.cell b t::l).mapM fun (x:ResultVar)=>(match x with | .tmp t=>pure (a.tmps.getD t undef) | .cell b t=>do loadVar t (← asAddr (a.tmps.getD b undef)):Sem Value)).run P w=.ok cs w:=by
    intro d l' r hu hd hl hr e
    obtain ⟨cs,h1,h2,h3,h4⟩:=hR.loadN hl
    have hrun:=run_loadCells_list (P:=P) w (ι.addr p) cs h3
    rw [h1] at hrun
    have ha:(isAgg t).run P w=.ok true w:=by
     rcases hd with ⟨fs,rfl⟩ | ⟨n,e,rfl⟩<;>simp [isAgg,run_underlying hu]
    exact key _ (.agg cs.toArray) r hr e (Q07.mkAgg h2) (by simp only [loadVar,Sem.run_bind,ha,Result.andThen_ok,if_true,sizeOf,typeInfo,run_program,hi,Sem.run_pure,hrun])
   split at h
   ·rename_i fs hu
    replace h:=Q2 h;obtain ⟨l',hl,h⟩:=h
    replace h:=Q2 h;obtain ⟨r,hr,h⟩:=h
    simp at h
    exact hagg _ l' r hu (.inl ⟨_,rfl⟩) hl hr h.symm
   ·rename_i n e hu
    replace h:=Q2 h;obtain ⟨l',hl,h⟩:=h
    replace h:=Q2 h;obtain ⟨r,hr,h⟩:=h
    simp at h
    exact hagg _ l' r hu (.inr ⟨_,_,rfl⟩) hl hr h.symm
   ·rename_i d n1 n2 hu
    replace h:=Q2 h;obtain ⟨u,hl,h⟩:=h
    replace h:=Q2 h;obtain ⟨r,hr,h⟩:=h
    simp at h
    obtain ⟨c,h1,h2,h3⟩:=hR.load hl
    have ha:(isAgg t).run P w=.ok false w:=by
     simp only [isAgg,Sem.run_bind,run_underlying hu,Result.andThen_ok]
     cases d<;>first | rfl | exact absurd rfl (n1 _) | exact absurd rfl (n2 _ _)
    exact key u c r hr h.symm h2 (by simp only [loadVar,Sem.run_bind,ha,Result.andThen_ok,Bool.false_eq_true,if_false,run_load,h1])
   ·simp at h
  ·simp at h
theorem Q87:∀ {l:List ResultVar} {vs:List Value},Q39 P env H l=some vs→Q0o (Bel H.length) env→Ql H.length H→LLt (Bel H.length) vs
 | [],vs,h,_,_=>by simp [Q39] at h;subst h;intro v hv;simp at hv
 | .tmp t::l,vs,h,hE,hc=>by
  simp only [Q39] at h
  replace h:=Q2 h;obtain ⟨v,hv,h⟩:=h
  replace h:=Q2 h;obtain ⟨r,hr,h⟩:=h
  simp at h;subst h
  intro u hu
  rcases Z2 hu with rfl | hu
  ·exact hE t _ hv
  ·exact Q87 hr hE hc u hu
 | .cell b t::l,vs,h,hE,hc=>by
  simp only [Q39] at h
  replace h:=Q2 h;obtain ⟨v,hv,h⟩:=h
  split at h
  ·rename_i p
   replace h:=Q2 h;obtain ⟨i,hi,h⟩:=h
   split at h
   ·replace h:=Q2 h;obtain ⟨l',hl,h⟩:=h
    replace h:=Q2 h;obtain ⟨r,hr,h⟩:=h
    simp at h;subst h
    intro u hu
    rcases Z2 hu with rfl | hu
    ·exact VLt.mkAgg (Q7j hl hc)
    ·exact Q87 hr hE hc u hu
   ·replace h:=Q2 h;obtain ⟨l',hl,h⟩:=h
    replace h:=Q2 h;obtain ⟨r,hr,h⟩:=h
    simp at h;subst h
    intro u hu
    rcases Z2 hu with rfl | hu
    ·exact VLt.mkAgg (Q7j hl hc)
    ·exact Q87 hr hE hc u hu
   ·replace h:=Q2 h;obtain ⟨l',hl,h⟩:=h
    replace h:=Q2 h;obtain ⟨r,hr,h⟩:=h
    simp at h;subst h
    intro u hu
    rcases Z2 hu with rfl | hu
    ·exact Qkh hl hc
    ·exact Q87 hr hE hc u hu
   ·simp at h
  ·simp at h
theorem Q9b:∀ {l:List Nat} {b j:Nat},Qha l b=some j→l[j]? = some b
 | [],b,j,h=>by simp [Qha] at h
 | x::l,b,j,h=>by
  unfold Qha at h
  split at h
  ·rename_i e;simp at h;subst h;simp [e]
  ·replace h:=Q2 h;obtain ⟨i,hi,h⟩:=h
   simp at h;subst h
   simpa using Q9b hi
theorem Qd7:∀ {l:List Nat} {b:Nat},Qha l b=none→b∉l
 | [],b,h=>by simp
 | x::l,b,h=>by
  unfold Qha at h
  split at h
  ·simp at h
  ·rename_i e
   cases hp:Qha l b with
   | some i=>rw [hp] at h;simp [Q1] at h
   | none =>
    have:=Qd7 hp
    simp only [List.mem_cons,not_or]
    exact ⟨fun h=>e h.symm,this⟩
structure MvOk (base:Nat) (H:Heap) (olds:List Nat):Prop where
 nodup:olds.Nodup
 blk:∀ b∈olds,base≤b∧∃ k,hget H b=some k∧k.cells.all (Qlc base)=true
def Io.mv (ι:Io) (base:Nat) (olds:List Nat):Io:=fun x=>if x < base then ι x else match olds[x - base]? with | some b=>ι b | none=>ι x
theorem Io.mv_lt (ι:Io) {base x:Nat} (olds:List Nat) (h:x < base):ι.mv base olds x=ι x:=by simp [Io.mv,h]
theorem Io.mv_at (ι:Io) {base j b:Nat} {olds:List Nat} (h:olds[j]? = some b):ι.mv base olds (base+j)=ι b:=by
 simp only [Io.mv,show ¬ (base+j < base) by omega,if_false,show base+j - base=j by omega,h]
theorem Qd8 {base:Nat} {olds olds':List Nat} {b x:Nat} (h:Q95 base H olds b=some (x,olds')) (ho:MvOk base H olds) :
  MvOk base H olds'∧olds <+: olds'∧∀ (ι:Io) (fin:List Nat),olds' <+: fin→ι.mv base fin x=ι b∧x < base+fin.length:=by
 unfold Q95 at h
 split at h
 ·rename_i hb
  simp at h;obtain ⟨rfl,rfl⟩:=h
  exact ⟨ho,List.prefix_refl _,fun ι fin _=>⟨Io.mv_lt ι fin hb,by omega⟩⟩
 ·rename_i hb
  split at h
  ·rename_i j hj
   simp at h;obtain ⟨rfl,rfl⟩:=h
   refine ⟨ho,List.prefix_refl _,fun ι fin hp=>?_⟩
   have hj':=Q9b hj
   obtain ⟨t,rfl⟩:=hp
   have hlt:j < olds.length:=(Z0 hj').1
   refine ⟨Io.mv_at ι (by rw [List.getElem?_append_left hlt];exact hj'),by simp;omega⟩
  ·rename_i hj
   replace h:=Q2 h;obtain ⟨k,hk,h⟩:=h
   split at h
   ·rename_i hl
    simp at h;obtain ⟨rfl,rfl⟩:=h
    refine ⟨⟨?_,?_⟩,List.prefix_append _ _,fun ι fin hp=>?_⟩
    ·rw [Zn]
     refine ⟨ho.nodup,by simp,?_⟩
     intro y hy z hz
     simp at hz;subst hz
     exact fun e=>Qd7 hj (e▸hy)
    ·intro y hy
     rcases List.mem_append.1 hy with hy | hy
     ·exact ho.blk y hy
     ·simp at hy;subst hy;exact ⟨by omega,k,hk,hl⟩
    ·obtain ⟨t,rfl⟩:=hp
     exact ⟨Io.mv_at ι (by simp),by simp⟩
   ·simp at h
theorem Qsq {v c:Value} (hl:Qt v=true) {ι:Io} {D:Nat→Prop} (hv:VRel ι D v c) (ι':Io) (E:Nat→Prop):VRel ι' E v c :=
 VRel.mono (ι:=ι') (D:=fun _=>False) (hv.re (Q0v hl _) fun _ _ h=>h.elim) (fun _ h=>h.elim) (fun _ h=>h.elim)
structure MvV (base:Nat) (H:Heap) (olds olds':List Nat) (v v':Value):Prop where
 ok:MvOk base H olds'
 pre:olds <+: olds'
 rel:∀ (ι:Io) (D:Nat→Prop) (fin:List Nat) (c:Value),olds' <+: fin→VRel ι D v c→VRel (ι.mv base fin) (Bel (base+fin.length)) v' c
theorem Qhp {base:Nat} {olds olds':List Nat} {v v':Value} (h:Q7z base H olds v=some (v',olds')) (ho:MvOk base H olds):MvV base H olds olds' v v':=by
 unfold Q7z at h
 split at h
 ·rename_i a
  replace h:=Q2 h;obtain ⟨⟨x,o'⟩,hb,h⟩:=h
  simp at h;obtain ⟨rfl,rfl⟩:=h
  obtain ⟨h1,h2,h3⟩:=Qd8 hb ho
  refine ⟨h1,h2,fun ι D fin c hp hv=>?_⟩
  obtain ⟨e,hD⟩:=hv.inv_ptr
  obtain ⟨g1,g2⟩:=h3 ι fin hp
  have:=VRel.ptr (ι:=ι.mv base fin) (D:=Bel (base+fin.length)) ⟨x,a.off,none⟩ g2
  rw [e]
  simp only [Io.addr] at this ⊢
  rw [g1] at this
  exact this
 ·rename_i a n c
  replace h:=Q2 h;obtain ⟨⟨x,o'⟩,hb,h⟩:=h
  simp at h;obtain ⟨rfl,rfl⟩:=h
  obtain ⟨h1,h2,h3⟩:=Qd8 hb ho
  refine ⟨h1,h2,fun ι D fin c hp hv=>?_⟩
  obtain ⟨g1,g2⟩:=h3 ι fin hp
  cases hv with
  | slGo _ _ _ cap hD hl hc =>
   have:=VRel.slGo (ι:=ι.mv base fin) (D:=Bel (base+fin.length)) ⟨x,a.off,none⟩ n _ cap g2 hl (by simp only [g1];exact hc)
   simp only [Io.addr] at this ⊢
   rw [g1] at this
   exact this
  | slEmpty _ b _ hD=>exact .slEmpty _ _ _ g2
 ·split at h
  ·rename_i hl
   simp at h;obtain ⟨rfl,rfl⟩:=h
   exact ⟨ho,List.prefix_refl _,fun ι D fin c hp hv=>Qsq hl hv _ _⟩
  ·simp at h
structure MvL (base:Nat) (H:Heap) (olds olds':List Nat) (vs vs':List Value):Prop where
 ok:MvOk base H olds'
 pre:olds <+: olds'
 rel:∀ (ι:Io) (D:Nat→Prop) (fin:List Nat) (cs:List Value),olds' <+: fin→Q07 ι D vs cs→Q07 (ι.mv base fin) (Bel (base+fin.length)) vs' cs
theorem MvL.nil {base:Nat} {olds:List Nat} (ho:MvOk base H olds):MvL base H olds olds [] [] :=
 ⟨ho,List.prefix_refl _,fun ι D fin cs _ h=>by
  have:cs=[]:=Z1 (by have:=h.1;simpa using this.symm)
  subst this;exact Q07.nil _ _⟩
theorem MvL.cons {base:Nat} {o1 o2 o3:List Nat} {v v':Value} {vs vs':List Value} (h:MvV base H o1 o2 v v') (g:MvL base H o2 o3 vs vs'):MvL base H o1 o3 (v::vs) (v'::vs') :=
 ⟨g.ok,h.pre.trans g.pre,fun ι D fin cs hp hl=>by
  cases cs with
  | nil=>exact absurd hl.1 (by simp)
  | cons c cs=>exact Q07.cons (h.rel ι D fin c (g.pre.trans hp) hl.head) (g.rel ι D fin cs hp hl.tail)⟩
theorem Qbd {base:Nat}:∀ {vs vs':List Value} {olds olds':List Nat},Q2t base H olds vs=some (vs',olds')→MvOk base H olds→MvL base H olds olds' vs vs'
 | [],vs',olds,olds',h,ho=>by simp [Q2t] at h;obtain ⟨rfl,rfl⟩:=h;exact MvL.nil ho
 | v::vs,vs',olds,olds',h,ho=>by
  simp only [Q2t] at h
  replace h:=Q2 h;obtain ⟨⟨x,o1⟩,h1,h⟩:=h
  replace h:=Q2 h;obtain ⟨⟨y,o2⟩,h2,h⟩:=h
  simp at h;obtain ⟨rfl,rfl⟩:=h
  have g1:=Qhp h1 ho
  exact MvL.cons g1 (Qbd h2 g1.ok)
theorem Qsr {base:Nat} {olds olds':List Nat} {v v':Value} (h:Qmu base H olds v=some (v',olds')) (ho:MvOk base H olds):MvV base H olds olds' v v':=by
 unfold Qmu at h
 split at h
 ·rename_i cs
  replace h:=Q2 h;obtain ⟨⟨x,o1⟩,h1,h⟩:=h
  simp at h;obtain ⟨rfl,rfl⟩:=h
  have g:=Qbd h1 ho
  refine ⟨g.ok,g.pre,fun ι D fin c hp hv=>?_⟩
  obtain ⟨ys,rfl,hl⟩:=hv.inv_agg
  exact Q07.mkAgg (xs:=x.toArray) (g.rel ι D fin _ hp hl)
 ·exact Qhp h ho
theorem Qbe {base:Nat}:∀ {vs vs':List Value} {olds olds':List Nat},Q59 base H olds vs=some (vs',olds')→MvOk base H olds→MvL base H olds olds' vs vs'
 | [],vs',olds,olds',h,ho=>by simp [Q59] at h;obtain ⟨rfl,rfl⟩:=h;exact MvL.nil ho
 | v::vs,vs',olds,olds',h,ho=>by
  simp only [Q59] at h
  replace h:=Q2 h;obtain ⟨⟨x,o1⟩,h1,h⟩:=h
  replace h:=Q2 h;obtain ⟨⟨y,o2⟩,h2,h⟩:=h
  simp at h;obtain ⟨rfl,rfl⟩:=h
  have g1:=Qsr h1 ho
  exact MvL.cons g1 (Qbe h2 g1.ok)
theorem Q1k {base:Nat} {olds:List Nat} (hb:base≤H.length) {x:Nat} {k:Blk} (h:hget (H.take base++olds.map (hget H)) x=some k) :
  (x < base∧hget H x=some k)∨∃ j b,x=base+j∧olds[j]? = some b∧hget H b=some k:=by
 have hlen:(H.take base).length=base:=by simp;omega
 by_cases hx:x < base
 ·rw [Q0h (by omega),Qpe hx] at h;exact .inl ⟨hx,h⟩
 ·right
  unfold hget at h
  rw [Zq (by omega),hlen,List.getElem?_map] at h
  cases ho:olds[x - base]? with
  | none=>rw [ho] at h;simp at h
  | some b =>
   rw [ho] at h
   simp only [Option.map_some] at h
   refine ⟨x - base,b,by omega,ho,?_⟩
   split at h
   ·rename_i k' he
    simp at h he;subst h;exact he
   ·simp at h
theorem Qmz {ι₀ ι:Io} {H₀:Heap} {w₀ w:World} {vs vs' cs:List Value} {olds:List Nat} (hR:Rel ι (Bel H.length) H w) (hF:Fr ι₀ H₀ w₀ ι H w) (hcl:Ql H₀.length H) (hm:Q59 H₀.length H [] vs=some (vs',olds)) (hl:Q07 ι (Bel H.length) vs cs) :
  Rel (ι.mv H₀.length olds) (Bel (H.take H₀.length++olds.map (hget H)).length) (H.take H₀.length++olds.map (hget H)) w∧Fr ι₀ H₀ w₀ (ι.mv H₀.length olds) (H.take H₀.length++olds.map (hget H)) w ∧
  Q07 (ι.mv H₀.length olds) (Bel (H.take H₀.length++olds.map (hget H)).length) vs' cs:=by
 have hok:=Qbe hm ⟨List.nodup_nil,by simp⟩
 have hlen:(H.take H₀.length++olds.map (hget H)).length=H₀.length+olds.length:=by simp;have:=hF.len;omega
 have hcells:∀ {b:Nat} {k:Blk},hget H b=some k→(b < H₀.length∨b∈olds)→∀ v∈k.cells,VLt (Bel H₀.length) v:=by
  intro b k hk hb v hv
  rcases hb with hb | hb
  ·exact hcl b hb k hk v hv
  ·obtain ⟨_,k',hk',hall⟩:=hok.ok.blk b hb
   rw [hk] at hk';simp at hk';subst hk'
   exact Qhd (Z3 hall v hv)
 have hup:∀ {v c:Value},VLt (Bel H₀.length) v→VRel ι (Bel H.length) v c→VRel (ι.mv H₀.length olds) (Bel (H₀.length+olds.length)) v c:=by
  intro v c hv hr
  exact VRel.mono (hr.re (ι':=ι) hv fun _ _ _=>rfl) (Bel.mono (by omega)) fun b hb=>Io.mv_lt ι olds hb
 rw [hlen]
 refine ⟨⟨fun x k hx=>?_,fun x x' k k' hx hx' hne hro=>?_,fun x k hx hr=>(by
  rcases Q1k hF.len hx with ⟨h1,h2⟩ | ⟨j,b,rfl,h1,h2⟩
  ·rw [Io.mv_lt ι olds h1];exact hR.nog x k h2 hr
  ·rw [Io.mv_at ι h1];exact hR.nog b k h2 hr),hR.gw⟩,⟨by rw [hlen];omega,fun b hb=>by rw [Io.mv_lt ι olds hb];exact hF.io b hb,hF.os,hF.tape,hF.output,hF.size,hF.frame,fun x k hx hr=>?_,fun x k hx hr=>?_⟩,hok.rel ι _ olds cs (List.prefix_refl _) hl⟩
 ·rcases Q1k hF.len hx with ⟨h1,h2⟩ | ⟨j,b,rfl,h1,h2⟩
  ·exact (hR.blk x k h2).of_block rfl (Io.mv_lt ι olds h1) fun i hi c hr=>hup (hcells h2 (.inl h1) _ (List.getElem_mem hi)) hr
  ·exact (hR.blk b k h2).of_block rfl (Io.mv_at ι h1) fun i hi c hr=>hup (hcells h2 (.inr (Zc h1)) _ (List.getElem_mem hi)) hr
 ·rcases Q1k hF.len hx with ⟨h1,h2⟩ | ⟨j,b,rfl,h1,h2⟩
  ·rcases Q1k hF.len hx' with ⟨g1,g2⟩ | ⟨j',b',rfl,g1,g2⟩
   ·rw [Io.mv_lt ι olds h1,Io.mv_lt ι olds g1];exact hR.inj x x' k k' h2 g2 hne hro
   ·rw [Io.mv_lt ι olds h1,Io.mv_at ι g1]
    have:=(hok.ok.blk b' (Zc g1)).1
    exact hR.inj x b' k k' h2 g2 (by omega) hro
  ·rcases Q1k hF.len hx' with ⟨g1,g2⟩ | ⟨j',b',rfl,g1,g2⟩
   ·rw [Io.mv_at ι h1,Io.mv_lt ι olds g1]
    have:=(hok.ok.blk b (Zc h1)).1
    exact hR.inj b x' k k' h2 g2 (by omega) hro
   ·rw [Io.mv_at ι h1,Io.mv_at ι g1]
    refine hR.inj b b' k k' h2 g2 (fun e=>hne ?_) hro
    subst e
    have hj:=(Z0 h1)
    have hj':=(Z0 g1)
    obtain ⟨q1,q2⟩:=hj
    obtain ⟨q3,q4⟩:=hj'
    have hnd:=List.pairwise_iff_getElem.1 hok.ok.nodup
    rcases Nat.lt_trichotomy j j' with hl | hl | hl
    ·exact absurd (q2.trans q4.symm) (hnd j j' q1 q3 hl)
    ·omega
    ·exact absurd (q4.trans q2.symm) (hnd j' j q3 q1 hl)
 ·rcases Q1k hF.len hx with ⟨h1,h2⟩ | ⟨j,b,rfl,h1,h2⟩
  ·rw [Io.mv_lt ι olds h1];exact hF.new x k h2 hr
  ·rw [Io.mv_at ι h1];exact hF.new b k h2 hr
 ·rcases Q1k hF.len hx with ⟨h1,h2⟩ | ⟨j,b,rfl,h1,h2⟩
  ·exact hF.ro x k h2 hr
  ·have:=Qs (hF.ro b k h2 hr)
   have:=(hok.ok.blk b (Zc h1)).1
   omega
theorem Qd9 {base:Nat} {olds olds':List Nat} {b x:Nat} (h:Q95 base H olds b=some (x,olds')):olds <+: olds'∧∀ fin:List Nat,olds' <+: fin→x < base+fin.length:=by
 unfold Q95 at h
 split at h
 ·simp at h;obtain ⟨rfl,rfl⟩:=h;exact ⟨List.prefix_refl _,fun fin _=>by omega⟩
 ·split at h
  ·rename_i j hj
   simp at h;obtain ⟨rfl,rfl⟩:=h
   refine ⟨List.prefix_refl _,fun fin hp=>?_⟩
   have hlt:=(Z0 (Q9b hj)).1
   have:=hp.length_le
   omega
  ·replace h:=Q2 h;obtain ⟨k,hk,h⟩:=h
   split at h
   ·simp at h;obtain ⟨rfl,rfl⟩:=h
    refine ⟨List.prefix_append _ _,fun fin hp=>?_⟩
    have:=hp.length_le
    simp at this;omega
   ·simp at h
theorem Qhq {base:Nat} {olds olds':List Nat} {v v':Value} (h:Q7z base H olds v=some (v',olds')):olds <+: olds'∧∀ fin:List Nat,olds' <+: fin→VLt (Bel (base+fin.length)) v':=by
 unfold Q7z at h
 split at h
 ·replace h:=Q2 h;obtain ⟨⟨x,o'⟩,hb,h⟩:=h
  simp at h;obtain ⟨rfl,rfl⟩:=h
  obtain ⟨g1,g2⟩:=Qd9 hb
  exact ⟨g1,fun fin hp=>.ptr _ (g2 fin hp)⟩
 ·replace h:=Q2 h;obtain ⟨⟨x,o'⟩,hb,h⟩:=h
  simp at h;obtain ⟨rfl,rfl⟩:=h
  obtain ⟨g1,g2⟩:=Qd9 hb
  exact ⟨g1,fun fin hp=>.sl _ _ _ (g2 fin hp)⟩
 ·split at h
  ·rename_i hl
   simp at h;obtain ⟨rfl,rfl⟩:=h
   exact ⟨List.prefix_refl _,fun fin _=>Q0v hl _⟩
  ·simp at h
theorem Qbf {base:Nat}:∀ {vs vs':List Value} {olds olds':List Nat},Q2t base H olds vs=some (vs',olds')→olds <+: olds'∧∀ fin:List Nat,olds' <+: fin→LLt (Bel (base+fin.length)) vs'
 | [],vs',olds,olds',h=>by simp [Q2t] at h;obtain ⟨rfl,rfl⟩:=h;exact ⟨List.prefix_refl _,fun _ _ v hv=>by simp at hv⟩
 | v::vs,vs',olds,olds',h=>by
  simp only [Q2t] at h
  replace h:=Q2 h;obtain ⟨⟨x,o1⟩,h1,h⟩:=h
  replace h:=Q2 h;obtain ⟨⟨y,o2⟩,h2,h⟩:=h
  simp at h;obtain ⟨rfl,rfl⟩:=h
  obtain ⟨g1,g2⟩:=Qhq h1
  obtain ⟨g3,g4⟩:=Qbf h2
  refine ⟨g1.trans g3,fun fin hp u hu=>?_⟩
  rcases Z2 hu with rfl | hu
  ·exact g2 fin (g3.trans hp)
  ·exact g4 fin hp u hu
theorem Qhr {base:Nat}:∀ {vs vs':List Value} {olds olds':List Nat},Q59 base H olds vs=some (vs',olds')→olds <+: olds'∧∀ fin:List Nat,olds' <+: fin→LLt (Bel (base+fin.length)) vs'
 | [],vs',olds,olds',h=>by simp [Q59] at h;obtain ⟨rfl,rfl⟩:=h;exact ⟨List.prefix_refl _,fun _ _ v hv=>by simp at hv⟩
 | v::vs,vs',olds,olds',h=>by
  simp only [Q59] at h
  replace h:=Q2 h;obtain ⟨⟨x,o1⟩,h1,h⟩:=h
  replace h:=Q2 h;obtain ⟨⟨y,o2⟩,h2,h⟩:=h
  simp at h;obtain ⟨rfl,rfl⟩:=h
  have g12:olds <+: o1∧∀ fin:List Nat,o1 <+: fin→VLt (Bel (base+fin.length)) x:=by
   unfold Qmu at h1
   split at h1
   ·replace h1:=Q2 h1;obtain ⟨⟨z,o3⟩,h3,h1⟩:=h1
    simp at h1;obtain ⟨rfl,rfl⟩:=h1
    obtain ⟨k1,k2⟩:=Qbf h3
    exact ⟨k1,fun fin hp=>VLt.mkAgg (k2 fin hp)⟩
   ·exact Qhq h1
  obtain ⟨g3,g4⟩:=Qhr h2
  refine ⟨g12.1.trans g3,fun fin hp u hu=>?_⟩
  rcases Z2 hu with rfl | hu
  ·exact g12.2 fin (g3.trans hp)
  ·exact g4 fin hp u hu
theorem Qpu {lim:Nat} {H₀:Heap} {vs vs':List Value} {olds:List Nat} (ha:Ab H₀.length H₀ H) (hc₀:Ql H₀.length H₀) (hm:Q59 H₀.length H [] vs=some (vs',olds)) :
  Ab lim H₀ (H.take H₀.length++olds.map (hget H))∧LLt (Bel (H.take H₀.length++olds.map (hget H)).length) vs':=by
 have hok:=Qbe hm ⟨List.nodup_nil,by simp⟩
 have hlen:(H.take H₀.length++olds.map (hget H)).length=H₀.length+olds.length:=by simp;have:=ha.len;omega
 have hcl:=ha.closed H₀.length (Zd _) (Zd _) hc₀
 refine ⟨⟨by rw [hlen];omega,fun _=>?_,fun m _ hm' hcm=>?_⟩,?_⟩
 ·rw [hlen]
  intro x _ k hx v hv
  rcases Q1k ha.len hx with ⟨h1,h2⟩ | ⟨j,b,rfl,h1,h2⟩
  ·exact (hcl x h1 k h2 v hv).mono (Bel.mono (by omega))
  ·obtain ⟨_,k',hk',hall⟩:=hok.ok.blk b (Zc h1)
   rw [h2] at hk';simp at hk';subst hk'
   exact (Qhd (Z3 hall v hv)).mono (Bel.mono (by omega))
 ·intro x hx' k hx v hv
  rcases Q1k ha.len hx with ⟨h1,h2⟩ | ⟨j,b,rfl,h1,h2⟩
  ·exact ha.closed m hm' hm' hcm x hx' k h2 v hv
  ·omega
 ·rw [hlen];exact (Qhr hm).2 olds (List.prefix_refl _)
end
theorem Qhs {P:Program} {c:Code} {Q:Exit→Act→World→Prop} {a:Act} {w:World} (I:Nat→Act→World→Prop) {n:Nat} (h₀:I n a w)
  (round:∀ n a w,I n a w→c.wp P (Exit.then (fun a' w'=>∃ n',n' < n∧I n' a' w') Q) a w):(Code.loop c).wp P Q a w:=by
 intro b k cs
 have key:∀ n a w,I n a w→∃ e a' w',Q e a' w'∧Arrives P (lone (b.at a (.code c::.inLoop c::k)) cs w) b k cs e a' w':=by
  intro n
  induction n using Nat.strongRecOn with
  | _ n ih =>
   intro a w hI
   obtain ⟨e,a₁,w₁,hq,harr⟩:=round n a w hI b (.inLoop c::k) cs
   cases e with
   | normal =>
    obtain ⟨n',hlt,hI₁⟩:=hq
    obtain ⟨e₂,a₂,w₂,hq₂,harr₂⟩:=ih n' hlt a₁ w₁ hI₁
    exact ⟨e₂,a₂,w₂,hq₂,.of_steps (Steps.trans harr (.one step_inLoop)) harr₂⟩
   | exit id=>exact ⟨_,a₁,w₁,hq,.pass (x:=.inLoop c) rfl (fun _ _=>.inl (by simp)) harr⟩
   | goto l=>exact ⟨_,a₁,w₁,hq,.pass (x:=.inLoop c) rfl (fun _ _=>.inl (by simp)) harr⟩
   | ret=>exact ⟨_,a₁,w₁,hq,.pass (x:=.inLoop c) rfl (fun _ _=>.inl (by simp)) harr⟩
   | panic ch=>exact ⟨_,a₁,w₁,hq,.pass (x:=.inLoop c) rfl (fun _ _=>.inl (by simp)) harr⟩
   | outgrown=>exact ⟨_,a₁,w₁,hq,.pass (x:=.inLoop c) rfl (fun _ _=>.inl (by simp)) harr⟩
 obtain ⟨e,a',w',hq,harr⟩:=key n a w h₀
 exact ⟨e,a',w',hq,.of_steps (.one step_loop) harr⟩
def Qlm (X:Cx):Prop:=∀ (β:Type) (id:Nat) (ops:Array Oper) (env:Env) (H:Heap) (K:Env→Heap→Option β) (r:β),Qb7 X ops env H K=some r →
 ∀ (ι:Io) (a:Act) (w:World),Rel ι (Bel H.length) H w→ERel ι (Bel H.length) X.nt env a→a.defers=[]→∀ Q:Exit→Act→World→Prop,
  (∀ env' ι' H' a' w',Rel ι' (Bel H'.length) H' w'→ERel ι' (Bel H'.length) X.nt env' a'→Fr ι H w ι' H' w'→Ab X.lim H H'→a'.defers=[]→K env' H'=some r→Q .normal a' w')→(Code.region id ops true).wp X.P Q a w
def Qln (X:Cx):Prop:=∀ (β:Type) (ops:Array Oper) (env:Env) (H:Heap) (K:Env→Heap→Option β) (r:β),Qb7 X ops env H K=some r→Q0o (Bel H.length) env→Ql H.length H →
  ∃ env' H',K env' H'=some r∧Q0o (Bel H'.length) env'∧Ql H'.length H'∧Ab X.lim H H'
section
variable {X:Cx} {β:Type} {r:β}
def Qss:List (Nat×Value)→List Value→Env
 | (s,_)::ks,v::vs=>(s,v)::Qss ks vs
 | _,_=>[]
theorem Q4x:∀ {ks:List (Nat×Value)} {vs:List Value} {K:Env→Option β},Q2s ks vs K=some r→K (Qss ks vs)=some r
 | [],vs,K,h=>by
  unfold Q2s Qx1 at h
  split at h
  ·exact h
  ·simp at h
 | (s,t)::ks,vs,K,h=>by
  unfold Q2s Qb3 at h
  split at h
  ·exact Q4x (K:=fun env=>K ((s,_)::env)) (Q81 h)
  ·simp at h
theorem Q5t:∀ {env:Env} {ks:List (Nat×Value)} {vs:List Value},Q2k env ks=some vs→∀ s v,Q2e (Qss ks vs) s=some v→Q2e env s=some v
 | env,[],vs,h,s,v,hs=>by simp [Q2k] at h;subst h;simp [Qss,Q2e] at hs
 | env,(s',t)::ks,vs,h,s,v,hs=>by
  simp only [Q2k] at h
  replace h:=Q2 h;obtain ⟨u,hu,h⟩:=h
  replace h:=Q2 h;obtain ⟨l,hl,h⟩:=h
  simp at h;subst h
  simp only [Qss] at hs
  rw [Q0w] at hs
  by_cases e:s'=s
  ·subst e;simp at hs;subst hs;exact hu
  ·simp [e] at hs;exact Q5t hl s v hs
theorem ERel.zip {ι:Io} {D:Nat→Prop} {nt:Nat} {env:Env} {a:Act} (h:ERel ι D nt env a) {ks:List (Nat×Value)} {vs:List Value} (hk:Q2k env ks=some vs):ERel ι D nt (Qss ks vs) a :=
 ⟨h.size,fun s v hs=>h.get s v (Q5t hk s v hs)⟩
theorem Q0o.zip {D:Nat→Prop} {env:Env} (h:Q0o D env) {ks:List (Nat×Value)} {vs:List Value} (hk:Q2k env ks=some vs):Q0o D (Qss ks vs) :=
 fun s v hs=>h s v (Q5t hk s v hs)
theorem Qlo {ι:Io} {D:Nat→Prop} {nt:Nat} {env:Env} {a:Act} {c:Operand} {b:Bool} (h:ERel ι D nt env a) (hc:ev env c=some (.bool b)):ERel ι D nt (Quk c b env) a:=by
 unfold Quk
 split
 ·exact h.lit hc
 ·exact h
theorem Qpv {D:Nat→Prop} {env:Env} {c:Operand} {b:Bool} (h:Q0o D env):Q0o D (Quk c b env):=by
 unfold Quk
 split
 ·exact h.put (.bool _)
 ·exact h
theorem Q3o (hX:Q1s X.P X.call) (hD:Qlm X):∀ (c:Code) (n:Nat) (env:Env) (H:Heap) (K:AExit→Env→Heap→Option β),Q0c X c n env H K=some r →
  ∀ (ι:Io) (a:Act) (w:World),Rel ι (Bel H.length) H w→ERel ι (Bel H.length) X.nt env a→a.defers=[]→c.wp X.P (Qxp X ι H w K r) a w
 | .skip,n,env,H,K,h,ι,a,w,hR,hE,hd=>wp_skip ⟨.normal,env,ι,H,rfl,hR,hE,Fr.refl _ _ _,Ab.refl _ _,hd,h⟩
 | .label l,n,env,H,K,h,ι,a,w,hR,hE,hd=>wp_label ⟨.normal,env,ι,H,rfl,hR,hE,Fr.refl _ _ _,Ab.refl _ _,hd,h⟩
 | .region id ops d,n,env,H,K,h,ι,a,w,hR,hE,hd=>by
  unfold Q0c at h
  cases d with
  | false =>
   simp only at h
   refine wp_region ?_
   have:=Qe7 hX (Q:=Qxp X ι H w K r) ops.toList 0 env H (fun k=>by simp) (by simp) h ι a w hR hE hd (fun env' ι' H' a' w' h1 h2 h3 h4 h5 h6=>⟨.normal,env',ι',H',rfl,h1,h2,h3,h4,h5,h6⟩)
   rw [List.range_eq_range']
   simpa using this
  | true=>exact hD β id ops env H (K .normal) r h ι a w hR hE hd _ fun env' ι' H' a' w' h1 h2 h3 h4 h5 h6=>⟨.normal,env',ι',H',rfl,h1,h2,h3,h4,h5,h6⟩
 | .seq x y,n,env,H,K,h,ι,a,w,hR,hE,hd=>by
  unfold Q0c at h
  refine wp_seq (wp_mono (Q3o hX hD x n env H _ h ι a w hR hE hd) ?_)
  rintro ex a' w' ⟨aex,env',ι',H',rfl,h1,h2,h3,h4,h5,h6⟩
  cases aex with
  | normal =>
   simp only at h6
   exact wp_mono (Q3o hX hD y _ env' H' K h6 ι' a' w' h1 h2 h5) fun e a2 w2 hg=>hg.later h3 h4
  | exit id=>exact ⟨.exit id,env',ι',H',rfl,h1,h2,h3,h4,h5,h6⟩
  | ret=>exact ⟨.ret,env',ι',H',rfl,h1,h2,h3,h4,h5,h6⟩
 | .cond c x y,n,env,H,K,h,ι,a,w,hR,hE,hd=>by
  unfold Q0c at h
  replace h:=Q2 h;obtain ⟨v,hv,h⟩:=h
  replace h:=Q8r h;obtain ⟨t,rfl,h⟩:=h
  have hc:=(Qd hE hv).inv_bool
  rcases Q0b h with ⟨rfl,h⟩ | ⟨rfl,h⟩
  ·exact wp_cond_true hc (Q3o hX hD x _ _ H K h ι a w hR (Qlo hE hv) hd)
  ·exact wp_cond_false hc (Q3o hX hD y _ _ H K h ι a w hR (Qlo hE hv) hd)
 | .block id c,n,env,H,K,h,ι,a,w,hR,hE,hd=>by
  unfold Q0c at h
  refine wp_block (wp_mono (Q3o hX hD c n env H _ h ι a w hR hE hd) ?_)
  rintro ex a' w' ⟨aex,env',ι',H',rfl,h1,h2,h3,h4,h5,h6⟩
  cases aex with
  | normal=>exact ⟨.normal,env',ι',H',rfl,h1,h2,h3,h4,h5,h6⟩
  | exit id' =>
   simp only at h6
   simp only [exOf,Exit.inBlock]
   split at h6
   ·rename_i e;rw [if_pos (Z7 e)];exact ⟨.normal,env',ι',H',rfl,h1,h2,h3,h4,h5,h6⟩
   ·rename_i e;rw [if_neg (Nat.ne_of_beq_eq_false e)];exact ⟨.exit id',env',ι',H',rfl,h1,h2,h3,h4,h5,h6⟩
  | ret=>exact ⟨.ret,env',ι',H',rfl,h1,h2,h3,h4,h5,h6⟩
 | .loop c,n,env,H,K,h,ι,a,w,hR,hE,hd=>by
  unfold Q0c at h
  replace h:=Q2 h;obtain ⟨vs,hv,h⟩:=h
  generalize hF:(fun (again:List Value→Heap→Option β) vs H=>Q2s (X.ann n) vs fun env=>Q0c X c (n+1) env H fun ex env' H'=>match ex with
   | .normal=>Q1 (Q2k env' (X.ann n)) fun vs'=>again vs' H'
   | .exit id=>K (.exit id) env' H'
   | .ret=>K .ret env' H')=F at h
  refine Qhs (fun k a' w'=>∃ vs' ι' H',Rel ι' (Bel H'.length) H' w'∧ERel ι' (Bel H'.length) X.nt (Qss (X.ann n) vs') a'∧Fr ι H w ι' H' w'∧Ab X.lim H H'∧a'.defers=[]∧Qeq F k vs' H'=some r) (n:=X.fuel) ?_ ?_
  ·exact ⟨vs,ι,H,hR,hE.zip hv,Fr.refl _ _ _,Ab.refl _ _,hd,h⟩
  ·rintro k a' w' ⟨vs',ι',H',g1,g2,g3,g4,g5,g6⟩
   cases k with
   | zero=>simp [Qeq] at g6
   | succ k =>
    simp only [Qeq] at g6
    rw [← hF] at g6
    have g7:=Q4x g6
    rw [hF] at g7
    refine wp_mono (Q3o hX hD c (n+1) _ H' _ g7 ι' a' w' g1 g2 g5) ?_
    rintro ex a2 w2 ⟨aex,env2,ι2,H2,rfl,k1,k2,k3,k4,k5,k6⟩
    cases aex with
    | normal =>
     simp only at k6
     replace k6:=Q2 k6;obtain ⟨vs2,hv2,k6⟩:=k6
     exact ⟨k,by omega,vs2,ι2,H2,k1,k2.zip hv2,g3.trans k3,g4.trans k4,k5,k6⟩
    | exit id=>exact ⟨.exit id,env2,ι2,H2,rfl,k1,k2,g3.trans k3,g4.trans k4,k5,k6⟩
    | ret=>exact ⟨.ret,env2,ι2,H2,rfl,k1,k2,g3.trans k3,g4.trans k4,k5,k6⟩
 | .exit id,n,env,H,K,h,ι,a,w,hR,hE,hd=>wp_exit ⟨.exit id,env,ι,H,rfl,hR,hE,Fr.refl _ _ _,Ab.refl _ _,hd,h⟩
 | .ret,n,env,H,K,h,ι,a,w,hR,hE,hd=>wp_ret ⟨.ret,env,ι,H,rfl,hR,hE,Fr.refl _ _ _,Ab.refl _ _,hd,h⟩
 | .rangeFunc _ _ _ _,n,env,H,K,h,ι,a,w,hR,hE,hd=>by simp [Q0c] at h
 | .scope _,n,env,H,K,h,ι,a,w,hR,hE,hd=>by simp [Q0c] at h
 | .goto _,n,env,H,K,h,ι,a,w,hR,hE,hd=>by simp [Q0c] at h
 | .refuse _,n,env,H,K,h,ι,a,w,hR,hE,hd=>by simp [Q0c] at h
theorem Q3p (hX:Q1s X.P X.call) (hD:Qln X):∀ (c:Code) (n:Nat) (env:Env) (H:Heap) (K:AExit→Env→Heap→Option β),Q0c X c n env H K=some r→Q0o (Bel H.length) env→Ql H.length H →
  ∃ ex env' H',K ex env' H'=some r∧Q0o (Bel H'.length) env'∧Ql H'.length H'∧Ab X.lim H H'
 | .skip,n,env,H,K,h,hE,hc=>⟨.normal,env,H,h,hE,hc,Ab.refl _ _⟩
 | .label l,n,env,H,K,h,hE,hc=>⟨.normal,env,H,h,hE,hc,Ab.refl _ _⟩
 | .region id ops d,n,env,H,K,h,hE,hc=>by
  unfold Q0c at h
  cases d with
  | false=>obtain ⟨e,H',h1,h2⟩:=Qe8 hX ops.toList env H h hE hc;exact ⟨.normal,e,H',h1,h2⟩
  | true=>obtain ⟨e,H',h1,h2⟩:=hD β ops env H _ r h hE hc;exact ⟨.normal,e,H',h1,h2⟩
 | .seq x y,n,env,H,K,h,hE,hc=>by
  unfold Q0c at h
  obtain ⟨ex,e,H',h1,h2,h3,h4⟩:=Q3p hX hD x n env H _ h hE hc
  cases ex with
  | normal =>
   obtain ⟨ex,e',H2,g1,g2,g3,g4⟩:=Q3p hX hD y _ e H' K h1 h2 h3
   exact ⟨ex,e',H2,g1,g2,g3,h4.trans g4⟩
  | exit id=>exact ⟨_,e,H',h1,h2,h3,h4⟩
  | ret=>exact ⟨_,e,H',h1,h2,h3,h4⟩
 | .cond c x y,n,env,H,K,h,hE,hc=>by
  unfold Q0c at h
  replace h:=Q2 h;obtain ⟨v,hv,h⟩:=h
  replace h:=Q8r h;obtain ⟨t,rfl,h⟩:=h
  rcases Q0b h with ⟨rfl,h⟩ | ⟨rfl,h⟩
  ·exact Q3p hX hD x _ _ H K h (Qpv hE) hc
  ·exact Q3p hX hD y _ _ H K h (Qpv hE) hc
 | .block id c,n,env,H,K,h,hE,hc=>by
  unfold Q0c at h
  obtain ⟨ex,e,H',h1,h2,h3,h4⟩:=Q3p hX hD c n env H _ h hE hc
  cases ex with
  | normal=>exact ⟨_,e,H',h1,h2,h3,h4⟩
  | exit id' =>
   simp only at h1
   split at h1
   ·exact ⟨_,e,H',h1,h2,h3,h4⟩
   ·exact ⟨_,e,H',h1,h2,h3,h4⟩
  | ret=>exact ⟨_,e,H',h1,h2,h3,h4⟩
 | .loop c,n,env,H,K,h,hE,hc=>by
  unfold Q0c at h
  replace h:=Q2 h;obtain ⟨vs,hv,h⟩:=h
  generalize hF:(fun (again:List Value→Heap→Option β) vs H=>Q2s (X.ann n) vs fun env=>Q0c X c (n+1) env H fun ex env' H'=>match ex with
   | .normal=>Q1 (Q2k env' (X.ann n)) fun vs'=>again vs' H'
   | .exit id=>K (.exit id) env' H'
   | .ret=>K .ret env' H')=F at h
  have hE':Q0o (Bel H.length) (Qss (X.ann n) vs):=hE.zip hv
  clear hv hE
  generalize X.fuel=k at h
  induction k generalizing vs H with
  | zero=>simp [Qeq] at h
  | succ k ih =>
   simp only [Qeq] at h
   rw [← hF] at h
   have g7:=Q4x h
   rw [hF] at g7
   obtain ⟨ex,e,H',h1,h2,h3,h4⟩:=Q3p hX hD c (n+1) _ H _ g7 hE' hc
   cases ex with
   | normal =>
    simp only at h1
    replace h1:=Q2 h1;obtain ⟨vs2,hv2,h1⟩:=h1
    obtain ⟨ex,e',H2,g1,g2,g3,g4⟩:=ih H' h3 vs2 (h2.zip hv2) h1
    exact ⟨ex,e',H2,g1,g2,g3,h4.trans g4⟩
   | exit id=>exact ⟨_,e,H',h1,h2,h3,h4⟩
   | ret=>exact ⟨_,e,H',h1,h2,h3,h4⟩
 | .exit id,n,env,H,K,h,hE,hc=>⟨.exit id,env,H,h,hE,hc,Ab.refl _ _⟩
 | .ret,n,env,H,K,h,hE,hc=>⟨.ret,env,H,h,hE,hc,Ab.refl _ _⟩
 | .rangeFunc _ _ _ _,n,env,H,K,h,hE,hc=>by simp [Q0c] at h
 | .scope _,n,env,H,K,h,hE,hc=>by simp [Q0c] at h
 | .goto _,n,env,H,K,h,hE,hc=>by simp [Q0c] at h
 | .refuse _,n,env,H,K,h,hE,hc=>by simp [Q0c] at h
end
theorem Qbg:∀ (l:List Value) (i s:Nat) (v:Value),Q2e (Q1w i l) s=some v→i≤s∧l[s - i]? = some v
 | [],i,s,v,h=>by simp [Q1w,Q2e] at h
 | x::l,i,s,v,h=>by
  simp only [Q1w] at h
  rw [Q0w] at h
  by_cases e:i=s
  ·subst e;simp at h;subst h;simp
  ·simp [e] at h
   obtain ⟨h1,h2⟩:=Qbg l (i+1) s v h
   refine ⟨by omega,?_⟩
   rw [show s - i=(s - (i+1))+1 by omega]
   simpa using h2
theorem Qht {ι:Io} {D:Nat→Prop} {vs cs:List Value} (h:Q07 ι D vs cs):VRel ι D (Q3a vs) (Q3a cs):=by
 unfold Q3a
 split
 ·rename_i v
  match cs,h with
  | [c],h=>exact h.head
  | [],h=>exact absurd h.1 (by simp)
  | c::d::r,h=>exact absurd h.1 (by simp)
 ·rename_i hne
  have:∀ c,cs≠[c]:=by
   rintro c rfl
   match vs,h,hne with
   | [v],_,hne=>exact hne v rfl
   | [],h,_=>exact absurd h.1 (by simp)
   | a::b::r,h,_=>exact absurd h.1 (by simp)
  split
  ·rename_i c;exact absurd rfl (this c)
  ·exact .tuple vs cs h.1 h.2
theorem Qlp {D:Nat→Prop} {vs:List Value} (h:LLt D vs):VLt D (Q3a vs):=by
 unfold Q3a
 split
 ·exact h _ (by simp)
 ·exact .tuple vs fun i hi=>h _ (List.getElem_mem hi)
theorem Qf9 (cs:List Value):(if h:cs.toArray.size=1 then cs.toArray[0] else .tuple cs.toArray)=Q3a cs:=by
 unfold Q3a
 split
 ·rename_i h
  match cs,h with
  | [c],_=>rfl
 ·rename_i h
  split
  ·simp at h
  ·rfl
theorem Qst {P:Program} {A:Ann} {call:FuncId→List Value→Nat→Heap→Option (Value×Heap)} (hX:Q1s P call) (hD:∀ X:Cx,X.P=P→X.call=call→Qlm X∧Qln X) {f:FuncId} {args:List Value} {lim:Nat} {H H':Heap} {v:Value}
  (h:Qhb P A call f args lim H=some (v,H')):CallF P f args lim H v H':=by
 unfold Qhb at h
 split at h
 ·simp at h
 ·rename_i fn hfn
  split at h
  ·rename_i c hb hle hnm
   have hle:=Zi hle
   generalize hXd:(⟨P,call,Qw8 (A.mode f) lim H.length,fn.ntmps,A.fuel,A.loops f⟩:Cx)=X at h
   have hXP:X.P=P:=by rw [← hXd]
   have hXc:X.call=call:=by rw [← hXd]
   have hXl:X.lim=Qw8 (A.mode f) lim H.length:=by rw [← hXd]
   have hXn:X.nt=fn.ntmps:=by rw [← hXd]
   obtain ⟨hDw,hDa⟩:=hD X hXP hXc
   have hX':Q1s X.P X.call:=by rw [hXP,hXc];exact hX
   have henv:∀ D:Nat→Prop,LLt D args→Q0o D (Q1w 0 args):=by
    intro D hl s u hs
    obtain ⟨_,h2⟩:=Qbg args 0 s u hs
    exact hl u (Zc h2)
   have habs:LLt (Bel H.length) args→Ql H.length H→VLt (Bel H'.length) v∧Ab lim H H':=by
    intro hl hc
    obtain ⟨ex,env',H2,g1,g2,g3,g4⟩:=Q3p hX' hDa c 0 _ H _ h (henv _ hl) hc
    have fin:∀ {vs:List Value},Q39 P env' H2 fn.results.toList=some vs→(Q1 (Q4d (A.mode f) H.length vs H2) fun r=>some (Q3a r.1,r.2))=some (v,H')→VLt (Bel H'.length) v∧Ab lim H H':=by
     intro vs hr hf
     replace hf:=Q2 hf;obtain ⟨⟨vs',H3⟩,hf,he⟩:=hf
     simp at he;obtain ⟨rfl,rfl⟩:=he
     have hvl:=Q87 hr g2 g3
     unfold Q4d at hf
     cases hm:A.mode f with
     | keep =>
      rw [hm] at hf;simp at hf;obtain ⟨rfl,rfl⟩:=hf
      rw [hXl,hm] at g4
      exact ⟨Qlp hvl,g4⟩
     | drop =>
      rw [hm] at hf;simp only at hf
      replace hf:=Q2 hf;obtain ⟨⟨vs2,olds⟩,hmv,he⟩:=hf
      simp at he;obtain ⟨rfl,rfl⟩:=he
      rw [hXl,hm] at g4
      obtain ⟨k1,k2⟩:=Qpu (lim:=lim) g4 hc hmv
      exact ⟨Qlp k2,k1⟩
    cases ex with
    | normal=>simp only at g1;replace g1:=Q2 g1;obtain ⟨vs,hr,g1⟩:=g1;exact fin hr g1
    | exit id=>simp at g1
    | ret=>simp only at g1;replace g1:=Q2 g1;obtain ⟨vs,hr,g1⟩:=g1;exact fin hr g1
   refine ⟨fun hl hc=>(habs hl hc).1,fun hl hc=>(habs hl hc).2,fun cargs w=>?_,fun ι w cargs hR hl=>?_⟩
   ·have hne:(fn.name == "runtime.NumGoroutine")=false:=hnm
    simp only [callFunc,Sem.run_bind,run_program,Result.andThen_ok,hfn,hne,Bool.false_eq_true,if_false,hb,Option.isNone_some,Sem.run_pure]
   ·refine calls_of_wp hfn hb ?_
    have hsz:cargs.size=args.length:=by have:=hl.1;simpa using this.symm
    have hE:ERel ι (Bel H.length) X.nt (Q1w 0 args) { tmps:=cargs++Array.replicate (fn.ntmps - cargs.size) undef,defers:=[] }:=by
     refine ⟨by simp [hXn];omega,fun s u hs=>?_⟩
     obtain ⟨_,h2⟩:=Qbg args 0 s u hs
     obtain ⟨d,h3,h4⟩:=hl.get h2
     have hlt:s < cargs.size:=by
      have:=(Z0 h2).1
      simp at this;omega
     have:(cargs++Array.replicate (fn.ntmps - cargs.size) undef).getD s undef=d:=by
      rw [Array.getD_eq_getD_getElem?,Array.getElem?_append_left hlt,← Array.getElem?_toList]
      simp only [Nat.sub_zero] at h3
      rw [h3];rfl
     rw [this];exact h4
    have hwp:=Q3o hX' hDw c 0 _ H _ h ι _ w hR hE rfl
    rw [hXP] at hwp
    refine wp_mono hwp ?_
    rintro ex a' w' ⟨aex,env',ι',H2,rfl,g1,g2,g3,g4,g5,g6⟩
    have fin:∀ {vs:List Value},Q39 P env' H2 fn.results.toList=some vs→(Q1 (Q4d (A.mode f) H.length vs H2) fun r=>some (Q3a r.1,r.2))=some (v,H') →
      a'.defers=[]∧∃ v',(results fn a'.tmps).run P w'=.ok v' w'∧∃ ι'' c',(Ending.returned v')=.returned c'∧Rel ι'' (Bel H'.length) H' w'∧VRel ι'' (Bel H'.length) v c'∧Fr ι H w ι'' H' w':=by
     intro vs hr hf
     replace hf:=Q2 hf;obtain ⟨⟨vs',H3⟩,hf,he⟩:=hf
     simp at he;obtain ⟨rfl,rfl⟩:=he
     obtain ⟨cs,k1,k2⟩:=Qbc (P:=P) g1 g2 hr
     have hres:(results fn a'.tmps).run P w'=.ok (Q3a cs) w':=by
      unfold results
      rw [Array.mapM_eq_mapM_toList]
      simp only [Sem.run_bind,Sem.run_map]
      refine (congrArg (fun x=>Result.andThen (Result.andThen x _) _) k2).trans ?_
      simp only [Result.andThen_ok,Sem.run_pure]
      rw [← Qf9]
     refine ⟨g5,Q3a cs,hres,?_⟩
     unfold Q4d at hf
     cases hm:A.mode f with
     | keep =>
      rw [hm] at hf;simp at hf;obtain ⟨rfl,rfl⟩:=hf
      exact ⟨ι',_,rfl,g1,Qht k1,g3⟩
     | drop =>
      rw [hm] at hf;simp only at hf
      replace hf:=Q2 hf;obtain ⟨⟨vs2,olds⟩,hmv,he⟩:=hf
      simp at he;obtain ⟨rfl,rfl⟩:=he
      rw [hXl,hm] at g4
      have hcl:=g4.closed H.length (Zd _) (Zd _) hR.closed
      obtain ⟨q1,q2,q3⟩:=Qmz g1 g3 hcl hmv k1
      exact ⟨_,_,rfl,q1,Qht q3,q2⟩
    cases aex with
    | normal=>simp only at g6;replace g6:=Q2 g6;obtain ⟨vs,hr,g6⟩:=g6;exact fin hr g6
    | exit id=>simp at g6
    | ret=>simp only at g6;replace g6:=Q2 g6;obtain ⟨vs,hr,g6⟩:=g6;exact fin hr g6
  ·simp at h
def Qsu (P:Program) (A:Ann):Prop:=∀ f e,A.ext f=some e→∀ args lim H v H',e args lim H=some (v,H')→CallF P f args lim H v H'
theorem Quq {P:Program} {A:Ann} (hA:Qsu P A) (hD:∀ X:Cx,X.P=P→Q1s P X.call→Qlm X∧Qln X):∀ d:Nat,Q1s P (run P A d)
 | 0=>by intro f args lim H v H' h;simp [run] at h
 | d+1=>by
  have ih:=Quq hA hD d
  intro f args lim H v H' h
  simp only [run] at h
  split at h
  ·rename_i e he;exact hA f e he args lim H v H' h
  ·exact Qst ih (fun X hP hc=>hD X hP (by rw [hc];exact ih)) h
def Qcn (acc:Array Nat) (o:Oper):Nat:=o.after.foldl (fun s e=>if Region.binds .any e then s ||| 2 ^ e.on ||| acc.getD e.on 0 else s) 0
theorem Qpw (ops:Array Oper):Region.before ops=ops.toList.foldl (fun acc o=>acc.push (Qcn acc o)) #[]:=by
 rw [Array.foldl_toList];rfl
theorem Qyu:∀ (l:List Oper) (acc:Array Nat),(l.foldl (fun acc o=>acc.push (Qcn acc o)) acc).size=acc.size+l.length∧(∀ j,j < acc.size→(l.foldl (fun acc o=>acc.push (Qcn acc o)) acc)[j]? = acc[j]?) ∧
  ∀ k o,l[k]? = some o→∃ acc':Array Nat,acc'.size=acc.size+k∧(∀ j,j < acc'.size→(l.foldl (fun acc o=>acc.push (Qcn acc o)) acc)[j]? = acc'[j]?)∧(l.foldl (fun acc o=>acc.push (Qcn acc o)) acc)[acc.size+k]? = some (Qcn acc' o)
 | [],acc=>⟨by simp,fun j _=>rfl,fun k o h=>by simp at h⟩
 | x::l,acc=>by
  obtain ⟨h1,h2,h3⟩:=Qyu l (acc.push (Qcn acc x))
  simp only [List.foldl_cons]
  refine ⟨by rw [h1];simp;omega,fun j hj=>?_,fun k o hk=>?_⟩
  ·rw [h2 j (by simp;omega),Array.getElem?_push,if_neg (by omega)]
  ·cases k with
   | zero =>
    simp at hk;subst hk
    refine ⟨acc,by simp,fun j hj=>?_,?_⟩
    ·rw [h2 j (by simp;omega),Array.getElem?_push,if_neg (by omega)]
    ·rw [Nat.add_zero,h2 acc.size (by simp),Array.getElem?_push,if_pos rfl]
   | succ k =>
    obtain ⟨acc',g1,g2,g3⟩:=h3 k o (by simpa using hk)
    refine ⟨acc',by rw [g1];simp;omega,g2,?_⟩
    rw [show acc.size+(k+1)=(acc.push (Qcn acc x)).size+k by simp;omega]
    exact g3
theorem Qhu (acc:Array Nat) (i:Nat):∀ (l:List Edge) (s:Nat),(l.foldl (fun s e=>if Region.binds .any e then s ||| 2 ^ e.on ||| acc.getD e.on 0 else s) s).testBit i=true →
  s.testBit i=true∨∃ e∈l,Region.binds .any e=true∧(e.on=i∨(acc.getD e.on 0).testBit i=true)
 | [],s,h=>.inl h
 | e::l,s,h=>by
  simp only [List.foldl_cons] at h
  rcases Qhu acc i l _ h with h | ⟨e',h1,h2⟩
  ·split at h
   ·rename_i hb
    simp only [Nat.testBit_or,Bool.or_eq_true,Nat.testBit_two_pow,Zj] at h
    rcases h with (h | h) | h
    ·exact .inl h
    ·exact .inr ⟨e,by simp,hb,.inl h⟩
    ·exact .inr ⟨e,by simp,hb,.inr h⟩
   ·exact .inl h
  ·exact .inr ⟨e',List.mem_cons_of_mem _ h1,h2⟩
theorem Qsv {ops:Array Oper} {j i:Nat} (h:Q3l (Region.before ops) j i=true):∃ o e,ops[j]? = some o∧e∈o.after.toList∧Region.binds .any e=true∧(e.on=i∨Q3l (Region.before ops) e.on i=true):=by
 obtain ⟨h1,_,h3⟩:=Qyu ops.toList #[]
 rw [← Qpw] at h1 h3
 unfold Q3l at h
 cases hj:ops[j]? with
 | none =>
  have hlt:ops.size≤j:=by
   by_cases hlt:j < ops.size
   ·rw [Array.getElem?_eq_getElem hlt] at hj;simp at hj
   ·omega
  have:(Region.before ops).getD j 0=0:=by
   rw [Array.getD_eq_getD_getElem?,Array.getElem?_eq_none (by rw [h1];simp;omega)];rfl
  rw [this] at h;simp at h
 | some o =>
  obtain ⟨acc',g1,g2,g3⟩:=h3 j o (by rw [Array.getElem?_toList];exact hj)
  simp only [List.size_toArray,Zb,Zo] at g1 g3
  have e1:(Region.before ops).getD j 0=Qcn acc' o:=by rw [Array.getD_eq_getD_getElem?,g3];rfl
  rw [e1] at h
  unfold Qcn at h
  rw [← Array.foldl_toList] at h
  rcases Qhu acc' i o.after.toList 0 h with h | ⟨e,k1,k2,k3⟩
  ·simp at h
  ·refine ⟨o,e,rfl,k1,k2,?_⟩
   rcases k3 with k3 | k3
   ·exact .inl k3
   ·right
    unfold Q3l
    by_cases hl:e.on < acc'.size
    ·have:(Region.before ops).getD e.on 0=acc'.getD e.on 0:=by rw [Array.getD_eq_getD_getElem?,Array.getD_eq_getD_getElem?,g2 _ hl]
     rw [this];exact k3
    ·rw [Array.getD_eq_getD_getElem?,Array.getElem?_eq_none (by omega)] at k3;simp at k3
section
variable {X:Cx} {β:Type} {r:β} {o:Oper} {env:Env} {H:Heap}
def Q34 (o:Oper):List Tmp:=o.op.operands.toList.filterMap fun | .tmp t=>some t | _=>none
def restr (ts:List Tmp) (env:Env):Env:=env.filter fun p=>ts.contains p.1
theorem Q9c {ts:List Tmp}:∀ {env:Env} {t:Nat},t∈ts→Q2e (restr ts env) t=Q2e env t
 | [],t,h=>rfl
 | (s,v)::env,t,h=>by
  have ih:=Q9c (ts:=ts) (env:=env) h
  unfold restr at ih ⊢
  rw [List.filter_cons]
  by_cases e:s=t
  ·subst e
   have:ts.contains s=true:=by simpa using h
   rw [if_pos this,Q0w,Q0w,if_pos rfl,if_pos rfl]
  ·rw [Q0w,if_neg e]
   split
   ·rw [Q0w,if_neg e];exact ih
   ·exact ih
theorem Q3q {ts:List Tmp}:∀ {env:Env} {t:Nat} {v:Value},Q2e (restr ts env) t=some v→t∈ts∧Q2e env t=some v
 | [],t,v,h=>by simp [restr,Q2e] at h
 | (s,u)::env,t,v,h=>by
  by_cases ht:t∈ts
  ·exact ⟨ht,by rw [← Q9c ht];exact h⟩
  ·exfalso
   unfold restr at h
   rw [List.filter_cons] at h
   have ih:=fun h=>ht (Q3q (ts:=ts) (env:=env) (t:=t) (v:=v) h).1
   split at h
   ·rename_i hc
    rw [Q0w] at h
    by_cases e:s=t
    ·subst e;exact ht (by simpa using hc)
    ·rw [if_neg e] at h;exact ih h
   ·exact ih h
theorem Q88 {x:Operand} (h:x∈o.op.operands.toList):ev (restr (Q34 o) env) x=ev env x:=by
 cases x with
 | tmp t =>
  simp only [ev]
  exact Q9c (by unfold Q34;rw [List.mem_filterMap];exact ⟨_,h,rfl⟩)
 | const v=>rfl
 | global g=>rfl
 | func f=>rfl
theorem Q89:∀ {xs:List Operand},(∀ x∈xs,x∈o.op.operands.toList)→evs (restr (Q34 o) env) xs=evs env xs
 | [],_=>rfl
 | x::xs,h=>by
  simp only [evs]
  rw [Q88 (h x (by simp)),Q89 fun y hy=>h y (List.mem_cons_of_mem _ hy)]
theorem Q4y:∀ {xs:List (Nat×Operand)},(∀ x∈xs,x.2∈o.op.operands.toList)→Q1n (restr (Q34 o) env) xs=Q1n env xs
 | [],_=>rfl
 | (i,x)::xs,h=>by
  simp only [Q1n]
  rw [Q88 (h (i,x) (by simp)),Q4y fun y hy=>h y (List.mem_cons_of_mem _ hy)]
theorem Q8a {x:Option Operand} {d:Nat} {K:Nat→Option β} (h:∀ y,x=some y→y∈o.op.operands.toList):Q17 (restr (Q34 o) env) x d K=Q17 env x d K:=by
 cases x with
 | none=>rfl
 | some y=>simp only [Q17];rw [Q88 (h y rfl)]
theorem Qn0 (K:Value→Heap→Option β):Q38 X o (restr (Q34 o) env) H K=Q38 X o env H K:=by
 have hop:∀ {op:Op},o.op=op→∀ x,x∈op.operands.toList→ev (restr (Q34 o) env) x=ev env x:=fun e x hx=>Q88 (by rw [e];exact hx)
 unfold Q38
 cases ho:o.op with
 | move x=>simp only [hop ho x (by simp [Op.operands])]
 | assign x=>simp only [hop ho x (by simp [Op.operands])]
 | pick c a b=>simp only [hop ho c (by simp [Op.operands]),hop ho a (by simp [Op.operands]),hop ho b (by simp [Op.operands])]
 | box t x=>simp only [hop ho x (by simp [Op.operands])]
 | build t ps =>
  simp only
  rw [Q4y]
  intro x hx;rw [ho];simp only [Op.operands,List.mem_map]
  exact ⟨x,hx,rfl⟩
 | buildSlice t n ps =>
  simp only
  rw [Q4y]
  intro x hx;rw [ho];simp only [Op.operands,List.mem_map]
  exact ⟨x,hx,rfl⟩
 | load t x=>simp only [hop ho x (by simp [Op.operands])]
 | store t x y=>simp only [hop ho x (by simp [Op.operands]),hop ho y (by simp [Op.operands])]
 | nilCheck x=>simp only [hop ho x (by simp [Op.operands])]
 | binOp op t x y t'=>simp only [hop ho x (by simp [Op.operands]),hop ho y (by simp [Op.operands])]
 | unOp op t x=>simp only [hop ho x (by simp [Op.operands])]
 | convert s d x=>simp only [hop ho x (by simp [Op.operands])]
 | makeFunc fn first cap =>
  cases fn with
  | func f =>
   simp only
   rw [Q89 (xs:=first.toList),Q89 (xs:=cap.toList)]
   ·intro x hx;rw [ho];simp [Op.operands];exact .inr (by simpa using hx)
   ·intro x hx;rw [ho];simp [Op.operands];exact .inl (by simpa using hx)
  | _=>rfl
 | makeSlice t x y=>simp only [hop ho x (by simp [Op.operands]),hop ho y (by simp [Op.operands])]
 | slice t x lo hi mx =>
  cases mx with
  | none =>
   simp only [hop ho x (by simp [Op.operands])]
   have b1:∀ (d:Nat) (K:Nat→Option β),Q17 (restr (Q34 o) env) hi d K=Q17 env hi d K:=fun d K=>Q8a (fun y e=>by rw [ho,e];simp [Op.operands])
   have b2:∀ (d:Nat) (K:Nat→Option β),Q17 (restr (Q34 o) env) lo d K=Q17 env lo d K:=fun d K=>Q8a (fun y e=>by rw [ho,e];simp [Op.operands])
   simp only [b1,b2]
  | some y=>rfl
 | fieldAddr t x f=>simp only [hop ho x (by simp [Op.operands])]
 | field t x f=>simp only [hop ho x (by simp [Op.operands])]
 | indexAddr t x y=>simp only [hop ho x (by simp [Op.operands]),hop ho y (by simp [Op.operands])]
 | index t x y=>simp only [hop ho x (by simp [Op.operands]),hop ho y (by simp [Op.operands])]
 | extract x i=>simp only [hop ho x (by simp [Op.operands])]
 | call c =>
  have hargs:evs (restr (Q34 o) env) c.args.toList=evs env c.args.toList:=Q89 fun x hx=>by
   rw [ho];simp only [Op.operands,Call.operands,Array.toList_append,Zh];exact .inr hx
  simp only [hargs]
  cases hc:c.callee with
  | builtin b=>rfl
  | value f =>
   simp only
   rw [hop ho f (by simp [Op.operands,Call.operands,hc])]
  | invoke x m=>rfl
 | _=>rfl
theorem Qsw {P:Program} {o:Op} {env:Env} {G H:Heap} {z:Nat} {t:Tmp} {v:Value} (h:Qsd o=some t) (hv:Q2e env t=some v) (hz:Qd3 v=some z) (g:hget G z=hget H z):Q31 P o env G=Q31 P o env H:=by
 unfold Qsd at h
 split at h
 ·rename_i ty t'
  simp at h;subst h
  unfold Q31
  simp only [Q7y (show ev env (.tmp t')=some v from hv),ev,hv,Q1]
  cases v<;>simp only [Q5c]
  rename_i p
  cases p with
  | none=>rfl
  | some p =>
   simp only [Qd3,Option.some.injEq] at hz;subst hz
   simp only
   unfold Qx Q2f
   rw [g]
 ·rename_i a b t'
  simp at h;subst h
  unfold Q31
  simp only [ev,hv,Q1]
  cases v<;>try (first | rfl | (simp [Qd3] at hz;done))
  rename_i p n c
  cases p with
  | none=>simp [Qd3] at hz
  | some p =>
   simp only [Qd3,Option.some.injEq] at hz;subst hz
   have:Q0m G p (n*1)=Q0m H p (n*1):=by
    cases n*1 with
    | zero=>rfl
    | succ q=>simp only [Q0m];unfold Qx;rw [g]
   simp only [Qf,this]
 ·simp at h
theorem Qda {P:Program} {G:Heap}:Q31 P o.op (restr (Q34 o) env) G=Q31 P o.op env G:=by
 have hop:∀ {op:Op},o.op=op→∀ x,x∈op.operands.toList→ev (restr (Q34 o) env) x=ev env x:=fun e x hx=>Q88 (by rw [e];exact hx)
 unfold Q31
 cases ho:o.op with
 | load t x=>simp only [hop ho x (by simp [Op.operands])]
 | convert s d x=>simp only [hop ho x (by simp [Op.operands])]
 | _=>rfl
def Q4g (ops:Array Oper) (o:Oper):List Tmp:=match o.guard with
 | some (g,_)=>((ops[g]?).bind (·.dst)).toList
 | none=>[]
theorem Qdb (ops:Array Oper) (o:Oper):o.looksAt ops=Q34 o++Q4g ops o:=rfl
structure LocE (ι:Io) (D:Nat→Prop) (nt:Nat) (ts:List Tmp) (env:Env) (a:Act):Prop where
 size:a.tmps.size=nt
 get:∀ s∈ts,∀ v,Q2e env s=some v→VRel ι D v (a.tmps.getD s undef)
theorem LocE.restr {ι:Io} {D:Nat→Prop} {nt:Nat} {ts:List Tmp} {env:Env} {a:Act} (h:LocE ι D nt ts env a):ERel ι D nt (restr ts env) a :=
 ⟨h.size,fun s v hs=>by obtain ⟨h1,h2⟩:=Q3q hs;exact h.get s h1 v h2⟩
def Qur (nt:Nat) (ops:Array Oper) (o:Oper) (env:Env) (t:Bool):Prop :=
 ∀ (ι:Io) (D:Nat→Prop) (a:Act),LocE ι D nt (Q4g ops o) env a→Region.wanted o (yielded ops a.tmps)=t
theorem Qjt {nt:Nat} {ops:Array Oper} {K:Bool→Env→Option β} (h:Q5m ops o env K=some r):∃ t env',K t env'=some r∧(∀ s,Q2e env' s=Q2e env s)∧Qur nt ops o env t:=by
 unfold Q5m at h
 split at h
 ·rename_i hg
  exact ⟨true,env,h,fun _=>rfl,fun ι D a hE=>by simp [Region.wanted,hg]⟩
 ·rename_i j want hg
  split at h
  ·rename_i d hd
   replace h:=Q2 h;obtain ⟨v,hv,h⟩:=h
   have hy:∀ (ι:Io) (D:Nat→Prop) (a:Act),LocE ι D nt (Q4g ops o) env a→yielded ops a.tmps j=match v with | .bool b=>some b | _=>none:=by
    intro ι D a hE
    have hr:=hE.get d (by simp [Q4g,hg,hd]) v hv
    unfold yielded
    rw [hd]
    simp only [Option.bind_some]
    by_cases hlt:d < a.tmps.size
    ·rw [Array.getElem?_eq_getElem hlt]
     have e:a.tmps.getD d undef=a.tmps[d]:=by simp [Array.getD,hlt]
     rw [e] at hr
     generalize a.tmps[d]=c at hr ⊢
     cases hr<;>rfl
    ·rw [Array.getElem?_eq_none (Nat.le_of_not_lt hlt)]
     have e:a.tmps.getD d undef=undef:=by simp [Array.getD,hlt]
     rw [e] at hr
     cases hr<;>rfl
   have hsame:∀ b,v=.bool b→∀ s,Q2e ((d,.bool b)::env) s=Q2e env s:=by
    intro b e s
    rw [Q0w]
    by_cases hs:d=s
    ·subst hs;rw [if_pos rfl,hv,e]
    ·rw [if_neg hs]
   split at h
   ·rename_i b
    rcases Q0b h with ⟨rfl,h⟩ | ⟨rfl,h⟩
    ·refine ⟨_,_,h,hsame _ rfl,fun ι D a hE=>?_⟩
     simp only [Region.wanted,hg,hy ι D a hE]
     cases want<;>rfl
    ·refine ⟨_,_,h,hsame _ rfl,fun ι D a hE=>?_⟩
     simp only [Region.wanted,hg,hy ι D a hE]
     cases want<;>rfl
   ·rename_i hnb
    refine ⟨_,_,h,fun _=>rfl,fun ι D a hE=>?_⟩
    simp only [Region.wanted,hg,hy ι D a hE]
    cases v<;>first | rfl | exact absurd rfl (hnb _)
  ·simp at h
structure St where
 inn:Env
 env:Env
 H:Heap
 t:Bool
 v:Value
structure StepOk (X:Cx) (ops:Array Oper) (o:Oper) (s s':St):Prop where
 same:∀ q,Q2e s.env q=Q2e s.inn q
 guard:Qur X.nt ops o s.inn s.t
 yes:s.t=true→OpF X o (restr (Q34 o) s.env) s.H s.v s'.H
 no:s.t=false→s.v=undef∧s'.H=s.H
 put:(o.dst=none∧s'.inn=s.env)∨∃ d,o.dst=some d∧d < X.nt∧s'.inn=(d,s.v)::s.env
theorem Q9r (hX:Q1s X.P X.call) {ops:Array Oper} {K:List (Env×Heap)→Env→Heap→Option β}:∀ (l:List Oper) (env:Env) (H:Heap) (tr:List (Env×Heap)),Q5n X ops l env H tr K=some r →
  ∃ S:Nat→St,(S 0).inn=env∧(S 0).H=H∧(S l.length).env=(S l.length).inn∧(∀ k o,l[k]? = some o→StepOk X ops o (S k) (S (k+1))) ∧
   K (((List.range (l.length+1)).map fun k=>((S k).env,(S k).H)).reverse++tr) (S l.length).inn (S l.length).H=some r
 | [],env,H,tr,h=>by
  refine ⟨fun _=>⟨env,env,H,true,undef⟩,rfl,rfl,rfl,fun k o hk=>by simp at hk,?_⟩
  unfold Q5n at h
  simpa using h
 | o::l,env,H,tr,h=>by
  unfold Q5n at h
  obtain ⟨t,env1,h,hsame,hg⟩:=Qjt (nt:=X.nt) h
  have fin:∀ (v:Value) (H':Heap) (env2:Env),(t=true→OpF X o (restr (Q34 o) env1) H v H')→(t=false→v=undef∧H'=H) →
    ((o.dst=none∧env2=env1)∨∃ d,o.dst=some d∧d < X.nt∧env2=(d,v)::env1)→Q5n X ops l env2 H' ((env1,H)::tr) K=some r →
    ∃ S:Nat→St,(S 0).inn=env∧(S 0).H=H∧(S (o::l).length).env=(S (o::l).length).inn∧(∀ k q,(o::l)[k]? = some q→StepOk X ops q (S k) (S (k+1))) ∧
     K (((List.range ((o::l).length+1)).map fun k=>((S k).env,(S k).H)).reverse++tr) (S (o::l).length).inn (S (o::l).length).H=some r:=by
   intro v H' env2 h1 h2 h3 h4
   obtain ⟨S,g1,g2,g3,g4,g5⟩:=Q9r hX l env2 H' _ h4
   refine ⟨fun k=>match k with | 0=>⟨env,env1,H,t,v⟩ | k+1=>S k,rfl,rfl,g3,fun k q hk=>?_,?_⟩
   ·cases k with
    | zero =>
     simp at hk;subst hk
     exact ⟨hsame,hg,fun e=>by simp only [g2];exact h1 e,fun e=>by simp only [g2];exact h2 e,by simp only [g1];exact h3⟩
    | succ k=>exact g4 k q (by simpa using hk)
   ·have:((List.range ((o::l).length+1)).map fun k=>(((fun k=>match k with | 0=>(⟨env,env1,H,t,v⟩:St) | k+1=>S k) k).env,((fun k=>match k with | 0=>(⟨env,env1,H,t,v⟩:St) | k+1=>S k) k).H))=(env1,H)::((List.range (l.length+1)).map fun k=>((S k).env,(S k).H)):=by
     rw [Z9,List.range_succ_eq_map,List.map_cons,List.map_map]
     rfl
    rw [this]
    simpa using g5
  cases t with
  | true =>
   simp only at h
   rw [← Qn0] at h
   obtain ⟨v,H',h,hF⟩:=Q8s hX h
   obtain ⟨env2,h,hp⟩:=Q2x h
   exact fin v H' env2 (fun _=>hF) (fun e=>by simp at e) hp h
  | false =>
   simp only at h
   obtain ⟨env2,h,hp⟩:=Q2x h
   exact fin undef H env2 (fun e=>by simp at e) (fun _=>⟨rfl,rfl⟩) hp h
theorem Qbh {x y:Value} (h:Qa x y=true):x=y:=by
 unfold Qa at h
 split at h
 ·simp at h;rw [h]
 ·simp at h;rw [h.1,h.2]
 ·rename_i a b
  simp only [beq_iff_eq] at h
  have:a=b:=by
   rw [ByteArray.toList_eq,ByteArray.toList_eq] at h
   obtain ⟨⟨x⟩⟩:=a;obtain ⟨⟨y⟩⟩:=b
   simp at h;rw [h]
  rw [this]
 ·simp at h;rw [h]
 ·simp at h;rw [h.1.1,h.1.2,h.2]
 ·rfl
 ·rfl
 ·simp at h;rw [h]
 ·simp at h
theorem Qhv:∀ {x y:List Value},Q6t x y=true→x=y
 | [],[],_=>rfl
 | [],_::_,h=>by simp [Q6t] at h
 | _::_,[],h=>by simp [Q6t] at h
 | a::x,b::y,h=>by
  simp only [Q6t,Z8] at h
  rw [Qbh h.1,Qhv h.2]
theorem Qpx {x y:Option Value} (h:Q1l x y=true):x=y:=by
 unfold Q1l at h
 split at h
 ·rfl
 ·rename_i xs ys
  have:=Qhv h
  obtain ⟨xs⟩:=xs;obtain ⟨ys⟩:=ys
  simp at this;rw [this]
 ·rw [Qbh h]
 ·simp at h
theorem Q4z {P:Program} {ops:Array Oper} {sts:List (Env×Heap)} {i:Nat} {o:Oper} {x:Option β}:∀ {ms:List Nat},Q4u P ops sts i o ms x=some r →
  x=some r∧∀ m∈ms,(Q21 P ops m i || Q6a P ops i o m)=true∨∃ s q,sts[i]? = some s∧sts[m]? = some q∧Q31 P o.op s.1 q.2=Q31 P o.op s.1 s.2
 | [],h=>⟨h,by simp⟩
 | m::ms,h=>by
  unfold Q4u at h
  split at h
  ·rename_i hq
   obtain ⟨h1,h2⟩:=Q4z h
   exact ⟨h1,fun k hk=>by
    rcases Z2 hk with rfl | hk
    ·exact .inl hq
    ·exact h2 k hk⟩
  ·split at h
   ·rename_i s q hs hq
    rcases Q0b h with ⟨e,h⟩ | ⟨_,h⟩
    ·obtain ⟨h1,h2⟩:=Q4z h
     exact ⟨h1,fun k hk=>by
      rcases Z2 hk with rfl | hk
      ·exact .inr ⟨s,q,hs,hq,Qpx e⟩
      ·exact h2 k hk⟩
    ·simp at h
   ·simp at h
theorem Q50 {P:Program} {ops:Array Oper} {sts:List (Env×Heap)} {x:Option β}:∀ {l:List Nat},stable P ops sts l x=some r →
  x=some r∧∀ i∈l,Q08 P ops i=1→∀ o,ops[i]? = some o→∀ m∈Q4t P ops i,(Q21 P ops m i || Q6a P ops i o m)=true∨∃ s q,sts[i]? = some s∧sts[m]? = some q∧Q31 P o.op s.1 q.2=Q31 P o.op s.1 s.2
 | [],h=>⟨h,by simp⟩
 | i::l,h=>by
  unfold stable at h
  split at h
  ·rename_i o hc ho
   obtain ⟨h1,h2⟩:=Q4z h
   obtain ⟨h3,h4⟩:=Q50 h1
   refine ⟨h3,fun k hk hck o' ho'=>?_⟩
   rcases Z2 hk with rfl | hk
   ·rw [ho] at ho';simp at ho';subst ho';exact h2
   ·exact h4 k hk hck o' ho'
  ·rename_i hne
   obtain ⟨h3,h4⟩:=Q50 h
   refine ⟨h3,fun k hk hck o' ho'=>?_⟩
   rcases Z2 hk with rfl | hk
   ·exact absurd ho' (hne o' (by rw [hck];rfl))
   ·exact h4 k hk hck o' ho'
end
structure Runs (X:Cx) (ops:Array Oper) (S:Nat→St):Prop where
 step:∀ k o,ops[k]? = some o→StepOk X ops o (S k) (S (k+1))
 ok:Qh9 X.P ops=true
 envLt:Q0o (Bel (S 0).H.length) (S 0).inn
 closed:Ql (S 0).H.length (S 0).H
section
variable {X:Cx} {ops:Array Oper} {S:Nat→St}
theorem Q5u {i:Nat} (h:i < ops.size):∃ o,ops[i]? = some o:=⟨ops[i],Array.getElem?_eq_getElem h⟩
theorem Q6n {i:Nat} {o:Oper} (h:ops[i]? = some o):i < ops.size:=(Array.getElem?_eq_some_iff.1 h).1
theorem Qhw {P:Program} {i:Nat} {o:Oper} (h:ops[i]? = some o):Q08 P ops i=Q24 P o.op:=by simp [Q08,h]
theorem Qsx {P:Program} {i:Nat} (h:¬ i < ops.size):Q08 P ops i=0:=by
 unfold Q08;rw [Array.getElem?_eq_none (by omega)]
theorem Qus (P:Program) (op:Op):Q24 P op≤3:=by
 unfold Q24
 split<;>first | omega | (split<;>omega)
theorem Q0o.restr {D:Nat→Prop} {env:Env} {ts:List Tmp} (h:Q0o D env):Q0o D (restr ts env):=fun s v hs=>h s v (Q3q hs).2
theorem Runs.abs (h:Runs X ops S):∀ i,i≤ops.size→Q0o (Bel (S i).H.length) (S i).inn∧Ql (S i).H.length (S i).H∧Ab X.lim (S 0).H (S i).H
 | 0,_=>⟨h.envLt,h.closed,Ab.refl _ _⟩
 | i+1,hi=>by
  obtain ⟨h1,h2,h3⟩:=h.abs i (by omega)
  obtain ⟨o,ho⟩:=Q5u (ops:=ops) (i:=i) (by omega)
  have hs:=h.step i o ho
  have hE:Q0o (Bel (S i).H.length) (S i).env:=fun s v hv=>h1 s v (by rw [← hs.same];exact hv)
  have key:Ab X.lim (S i).H (S (i+1)).H∧VLt (Bel (S (i+1)).H.length) (S i).v:=by
   cases ht:(S i).t with
   | true=>exact Qkk (hs.yes ht) hE.restr h2
   | false=>obtain ⟨e1,e2⟩:=hs.no ht;rw [e1,e2];exact ⟨Ab.refl _ _,Q7m _⟩
  exact ⟨Qg5 (hE.mono (Bel.mono key.1.len)) key.2 hs.put,key.1.all h2,h3.trans key.1⟩
theorem Runs.envLt' (h:Runs X ops S) {i:Nat} (hi:i < ops.size):Q0o (Bel (S i).H.length) (S i).env:=by
 obtain ⟨o,ho⟩:=Q5u hi
 exact fun s v hv=>(h.abs i (by omega)).1 s v (by rw [← (h.step i o ho).same];exact hv)
theorem Runs.len_succ (h:Runs X ops S) {i:Nat} (hi:i < ops.size):(S i).H.length≤(S (i+1)).H.length:=by
 obtain ⟨o,ho⟩:=Q5u hi
 have hs:=h.step i o ho
 cases ht:(S i).t with
 | true=>exact (Qkk (hs.yes ht) (h.envLt' hi).restr (h.abs i (by omega)).2.1).1.len
 | false=>rw [(hs.no ht).2];exact Zd _
theorem Runs.len_le (h:Runs X ops S) {m:Nat}:∀ {i:Nat},m≤i→i≤ops.size→(S m).H.length≤(S i).H.length
 | 0,h1,_=>by rw [Nat.le_zero.1 h1];exact Zd _
 | i+1,h1,h2=>by
  by_cases e:m=i+1
  ·subst e;exact Zd _
  ·exact Nat.le_trans (h.len_le (by omega) (by omega)) (h.len_succ (by omega))
theorem Runs.quiet (h:Runs X ops S) {i:Nat} (hi:i < ops.size) (hc:Q08 X.P ops i≠3) :
  ((S (i+1)).H=(S i).H)∨(Q08 X.P ops i=2∧(S i).t=true∧∃ vs,(S (i+1)).H=Q0d (S i).H vs):=by
 obtain ⟨o,ho⟩:=Q5u hi
 have hs:=h.step i o ho
 have hcls:=Qhw (P:=X.P) ho
 cases ht:(S i).t with
 | false=>exact .inl (hs.no ht).2
 | true =>
  have hF:=hs.yes ht
  unfold OpF at hF
  split at hF
  ·exact .inl hF.1
  ·exact .inl hF.1
  ·rename_i hc2;obtain ⟨vs,mk,_,e,_⟩:=hF;exact .inr ⟨by rw [hcls];exact hc2,rfl,vs,e⟩
  ·rename_i h0 h1 h2
   have hle:=Qus X.P o.op
   rw [hcls] at hc
   exact absurd hF (by
    intro _
    have:Q24 X.P o.op=0∨Q24 X.P o.op=1∨Q24 X.P o.op=2:=by omega
    rcases this with e | e | e
    ·exact h0 e
    ·exact h1 e
    ·exact h2 e)
theorem Runs.alloc_len (h:Runs X ops S) {i:Nat} (hi:i < ops.size) (hc:Q08 X.P ops i=2) (ht:(S i).t=true):(S (i+1)).H.length=(S i).H.length+1:=by
 obtain ⟨o,ho⟩:=Q5u hi
 have hF:=(h.step i o ho).yes ht
 have hcls:=Qhw (P:=X.P) ho
 rw [hc] at hcls
 unfold OpF at hF
 rw [← hcls] at hF
 obtain ⟨vs,mk,_,e,_⟩:=hF
 rw [e,Qy]
theorem Runs.keep (h:Runs X ops S) {m:Nat}:∀ {i:Nat},m≤i→i≤ops.size→(∀ k,m≤k→k < i→Q08 X.P ops k≠3)→∀ x,x < (S m).H.length→hget (S i).H x=hget (S m).H x
 | 0,h1,_,_,x,hx=>by rw [Nat.le_zero.1 h1]
 | i+1,h1,h2,h3,x,hx=>by
  by_cases e:m=i+1
  ·subst e;rfl
  ·have ih:=h.keep (i:=i) (by omega) (by omega) (fun k h4 h5=>h3 k h4 (by omega)) x hx
   rcases h.quiet (i:=i) (by omega) (h3 i (by omega) (by omega)) with e | ⟨_,_,vs,e⟩
   ·rw [e,ih]
   ·have:=h.len_le (m:=m) (i:=i) (by omega) (by omega)
    rw [e,Q5q (by omega),ih]
theorem Runs.made (h:Runs X ops S) {m:Nat}:∀ {e:Nat},m≤e→e≤ops.size→(∀ k,m≤k→k < e→Q08 X.P ops k≠3)→∀ x,(S m).H.length≤x→x < (S e).H.length →
  ∃ i,m≤i∧i < e∧Q08 X.P ops i=2∧(S i).t=true∧x=(S i).H.length∧hget (S (i+1)).H x=hget (S e).H x
 | 0,h1,_,_,x,hx,hx'=>by rw [Nat.le_zero.1 h1] at hx;omega
 | e+1,h1,h2,h3,x,hx,hx'=>by
  by_cases he:m=e+1
  ·subst he;omega
  ·rcases h.quiet (i:=e) (by omega) (h3 e (by omega) (by omega)) with q | ⟨hc,ht,vs,q⟩
   ·rw [q] at hx'
    obtain ⟨i,g1,g2,g3,g4,g5,g6⟩:=h.made (e:=e) (by omega) (by omega) (fun k h4 h5=>h3 k h4 (by omega)) x hx hx'
    exact ⟨i,g1,by omega,g3,g4,g5,by rw [g6,q]⟩
   ·by_cases hxe:x < (S e).H.length
    ·obtain ⟨i,g1,g2,g3,g4,g5,g6⟩:=h.made (e:=e) (by omega) (by omega) (fun k h4 h5=>h3 k h4 (by omega)) x hx hxe
     exact ⟨i,g1,by omega,g3,g4,g5,by rw [g6,q,Q5q hxe]⟩
    ·rw [q,Qy] at hx'
     exact ⟨e,by omega,by omega,hc,ht,by omega,rfl⟩
def Q5v (ops:Array Oper) (j:Nat):Option Tmp:=(ops[j]?).bind (·.dst)
theorem Runs.look (h:Runs X ops S) {q:Nat} {k:Nat}:∀ {i:Nat},k≤i→i≤ops.size→(∀ j,k≤j→j < i→Q5v ops j≠some q)→Q2e (S i).inn q=Q2e (S k).inn q
 | 0,h1,_,_=>by rw [Nat.le_zero.1 h1]
 | i+1,h1,h2,h3=>by
  by_cases e:k=i+1
  ·subst e;rfl
  ·have ih:=h.look (i:=i) (by omega) (by omega) (fun j h4 h5=>h3 j h4 (by omega))
   obtain ⟨o,ho⟩:=Q5u (ops:=ops) (i:=i) (by omega)
   have hs:=h.step i o ho
   have hne:=h3 i (by omega) (by omega)
   have hd:o.dst≠some q:=by simpa [Q5v,ho] using hne
   rcases hs.put with ⟨_,e⟩ | ⟨d,hd',_,e⟩
   ·rw [e,hs.same,ih]
   ·rw [e,Q0w,if_neg (fun e=>hd (by rw [hd',e])),hs.same,ih]
theorem Runs.wrote (h:Runs X ops S) {q:Nat} {k i:Nat} (hk:k < i) (hi:i≤ops.size) (hd:Q5v ops k=some q) (hn:∀ j,k < j→j < i→Q5v ops j≠some q):Q2e (S i).inn q=some (S k).v∧q < X.nt:=by
 obtain ⟨o,ho⟩:=Q5u (ops:=ops) (i:=k) (by omega)
 have hs:=h.step k o ho
 have hd':o.dst=some q:=by simpa [Q5v,ho] using hd
 rw [h.look (k:=k+1) (by omega) hi (fun j h1 h2=>hn j (by omega) h2)]
 rcases hs.put with ⟨e,_⟩ | ⟨d,e,hlt,e'⟩
 ·rw [e] at hd';simp at hd'
 ·rw [e] at hd';simp at hd';subst hd'
  exact ⟨by rw [e',Q0w,if_pos rfl],hlt⟩
theorem Runs.pair (h:Runs X ops S) {i j:Nat} (hij:i < j) (hj:j < ops.size):Q3l (Region.before ops) j i=true∨(¬ (Q08 X.P ops j=3∧2≤Q08 X.P ops i)∧∃ x y,ops[i]? = some x∧ops[j]? = some y∧x.apart ops y=true):=by
 have hok:=h.ok
 unfold Qh9 at hok
 simp only [List.all_eq_true,List.mem_range,Z8] at hok
 have:=(hok j hj).2 i hij
 unfold Qui at this
 rcases Bool.or_eq_true_iff.1 this with h1 | h1
 ·exact .inl h1
 ·right
  simp only [Z8,Bool.not_eq_true'] at h1
  obtain ⟨h2,h3⟩:=h1
  refine ⟨fun ⟨e1,e2⟩=>?_,?_⟩
  ·rw [e1] at h2
   have:Nat.ble 2 (Q08 X.P ops i)=true:=Nat.ble_eq_true_of_le e2
   rw [this] at h2;simp at h2
  ·split at h3
   ·rename_i x y hx hy;exact ⟨x,y,hx,hy,h3⟩
   ·simp at h3
theorem Runs.edges (h:Runs X ops S) {j:Nat} {o:Oper} (ho:ops[j]? = some o):∀ e∈o.after.toList,Region.binds .any e=true→e.on < j:=by
 have hok:=h.ok
 unfold Qh9 at hok
 simp only [List.all_eq_true,List.mem_range,Z8] at hok
 have:=(hok j (Q6n ho)).1
 unfold Qpd at this
 rw [ho] at this
 simp only [List.all_eq_true] at this
 intro e he hb
 have:=this e he
 rw [hb] at this
 have h2:e.on+1≤j:=by simpa [Nat.blt] using this
 exact h2
def Dom (X:Cx) (ops:Array Oper) (S:Nat→St) (m:Nat) (L:Nat→Prop) (x:Nat):Prop :=
 x < (S m).H.length∨∃ i,m≤i∧i < ops.size∧L i∧Q08 X.P ops i=2∧(S i).t=true∧x=(S i).H.length
structure Inv (X:Cx) (ops:Array Oper) (S:Nat→St) (ι₀:Io) (w₀:World) (L:Nat→Prop) (ι:Io) (G:Heap) (m:Nat) (a:Act) (w:World):Prop where
 mle:m≤ops.size
 stage:∀ e,e < ops.size→Q08 X.P ops e=3→(L e↔e < m)
 last:m=0∨Q08 X.P ops (m - 1)=3
 down:∀ j i,L j→Q3l (Region.before ops) j i=true→L i
 dom:∀ j,L j→j < ops.size
 len:G.length=(S ops.size).H.length
 old:∀ x,x < (S m).H.length→hget G x=hget (S m).H x
 pend:∀ i,m≤i→i < ops.size→L i→Q08 X.P ops i=2→(S i).t=true→hget G (S i).H.length=hget (S (i+1)).H (S i).H.length
 dead:∀ x,(S m).H.length≤x→x < (S ops.size).H.length→(∀ i,m≤i→i < ops.size→L i→Q08 X.P ops i=2→(S i).t=true→x≠(S i).H.length)→G[x]? = some none
 rel:Rel ι (Dom X ops S m L) G w
 fr:Fr ι₀ (S 0).H w₀ ι G w
 size:a.tmps.size=X.nt
 env:∀ q i,i≤ops.size→(∀ j,j < ops.size→Q5v ops j=some q→(L j↔j < i))→∀ v,Q2e (S i).inn q=some v→VRel ι (Dom X ops S m L) v (a.tmps.getD q undef)
 defers:a.defers=[]
variable {ι₀:Io} {w₀:World} {L:Nat→Prop} {ι:Io} {G:Heap} {m:Nat} {a:Act} {w:World}
structure Next (ops:Array Oper) (L:Nat→Prop) (i:Nat) (o:Oper):Prop where
 op:ops[i]? = some o
 not:¬ L i
 anc:∀ k,Q3l (Region.before ops) i k=true→L k
theorem Inv.loc (h:Inv X ops S ι₀ w₀ L ι G m a w) (hr:Runs X ops S) {i:Nat} {o:Oper} (hn:Next ops L i o):LocE ι (Dom X ops S m L) X.nt (o.looksAt ops) (S i).inn a:=by
 have hi:=Q6n hn.op
 refine ⟨h.size,fun s hs v hv=>h.env s i (by omega) (fun j hj hd=>?_) v hv⟩
 obtain ⟨oj,hoj⟩:=Q5u hj
 have hd':oj.dst=some s:=by simpa [Q5v,hoj] using hd
 rcases Nat.lt_trichotomy j i with hlt | rfl | hlt
 ·refine ⟨fun _=>hlt,fun _=>?_⟩
  rcases hr.pair hlt hi with hb | ⟨_,x,y,hx,hy,hap⟩
  ·exact hn.anc j hb
  ·rw [hoj] at hx;rw [hn.op] at hy;simp at hx hy;subst hx;subst hy
   exact absurd hs ((Oper.apart_spec hap).1 s hd')
 ·exact ⟨fun hL=>absurd hL hn.not,fun hlt=>by omega⟩
 ·refine ⟨fun hL=>?_,fun h=>by omega⟩
  rcases hr.pair hlt hj with hb | ⟨_,x,y,hx,hy,hap⟩
  ·exact absurd (h.down j i hL hb) hn.not
  ·rw [hn.op] at hx;rw [hoj] at hy;simp at hx hy;subst hx;subst hy
   exact absurd hs ((Oper.apart_spec hap).2.2 s hd')
def Qcc (L:Nat→Prop) (i:Nat):Nat→Prop:=fun j=>L j∨j=i
theorem Next.down' {i:Nat} {o:Oper} (hn:Next ops L i o) (hdown:∀ j k,L j→Q3l (Region.before ops) j k=true→L k):∀ j k,Qcc L i j→Q3l (Region.before ops) j k=true→Qcc L i k:=by
 rintro j k (hj | rfl) hb
 ·exact .inl (hdown j k hj hb)
 ·exact .inl (hn.anc k hb)
theorem Inv.env_put (h:Inv X ops S ι₀ w₀ L ι G m a w) (hr:Runs X ops S) {i:Nat} {o:Oper} (hn:Next ops L i o) {ι':Io} {D':Nat→Prop} {c:Value} (hc:VRel ι' D' (S i).v c)
  (hmono:∀ {v c:Value},VRel ι (Dom X ops S m L) v c→VRel ι' D' v c) :
  ∀ q k,k≤ops.size→(∀ j,j < ops.size→Q5v ops j=some q→(Qcc L i j↔j < k))→∀ v,Q2e (S k).inn q=some v→VRel ι' D' v ((a.put o.dst c).tmps.getD q undef):=by
 intro q k hk hcond v hv
 have hi:=Q6n hn.op
 by_cases hq:o.dst=some q
 ·have hdi:Q5v ops i=some q:=by simp [Q5v,hn.op,hq]
  have hik:i < k:=(hcond i hi hdi).1 (.inr rfl)
  have hno:∀ j,i < j→j < k→Q5v ops j≠some q:=by
   intro j h1 h2 hd
   have hj:j < ops.size:=by omega
   have hL:L j:=by
    rcases (hcond j hj hd).2 h2 with hL | rfl
    ·exact hL
    ·omega
   rcases hr.pair h1 hj with hb | ⟨_,x,y,hx,hy,hap⟩
   ·exact hn.not (h.down j i hL hb)
   ·rw [hn.op] at hx;simp at hx;subst hx
    have:y.dst=some q:=by simpa [Q5v,hy] using hd
    exact (Oper.apart_spec hap).2.1 q hq this
  obtain ⟨e1,e2⟩:=hr.wrote hik hk hdi hno
  rw [e1] at hv;simp at hv;subst hv
  rw [hq]
  simp only [Act.put]
  rw [Qld (by rw [h.size];exact e2),if_pos rfl]
  exact hc
 ·have hsame:(a.put o.dst c).tmps.getD q undef=a.tmps.getD q undef:=by
   cases hd:o.dst with
   | none=>rfl
   | some d =>
    have hne:d≠q:=fun e=>hq (by rw [hd,e])
    simp only [Act.put,Array.getD_eq_getD_getElem?,Array.getElem?_setIfInBounds_ne hne]
  rw [hsame]
  refine hmono (h.env q k hk (fun j hj hd=>?_) v hv)
  have hji:j≠i:=fun e=>hq (by subst e;simpa [Q5v,hn.op] using hd)
  rw [← hcond j hj hd]
  exact ⟨fun hL=>.inl hL,fun hL=>hL.resolve_right hji⟩
theorem Qag (a:Act) (dst:Option Tmp) (c:Value):(a.put dst c).tmps.size=a.tmps.size:=by cases dst<;>simp [Act.put]
theorem Inv.still (h:Inv X ops S ι₀ w₀ L ι G m a w) (hr:Runs X ops S) {i:Nat} {o:Oper} (hn:Next ops L i o) (hc3:Q08 X.P ops i≠3) (hc2:Q08 X.P ops i=2→(S i).t=false) {c:Value} (hc:VRel ι (Dom X ops S m L) (S i).v c) :
  Inv X ops S ι₀ w₀ (Qcc L i) ι G m (a.put o.dst c) w:=by
 have hi:=Q6n hn.op
 have hdom:∀ x,Dom X ops S m L x→Dom X ops S m (Qcc L i) x:=by
  rintro x (hx | ⟨k,h1,h2,h3,h4,h5,h6⟩)
  ·exact .inl hx
  ·exact .inr ⟨k,h1,h2,.inl h3,h4,h5,h6⟩
 have hback:∀ k,Qcc L i k→Q08 X.P ops k=2→(S k).t=true→L k:=by
  rintro k (hL | rfl) h2 ht
  ·exact hL
  ·rw [hc2 h2] at ht;simp at ht
 have hmono:∀ {v c:Value},VRel ι (Dom X ops S m L) v c→VRel ι (Dom X ops S m (Qcc L i)) v c:=fun hv=>hv.mono hdom fun _ _=>rfl
 refine ⟨h.mle,fun e he hce=>?_,h.last,hn.down' h.down,?_,h.len,h.old,fun k h1 h2 h3 h4 h5=>h.pend k h1 h2 (hback k h3 h4 h5) h4 h5,fun x h1 h2 h3=>h.dead x h1 h2 (fun k g1 g2 g3 g4 g5=>h3 k g1 g2 (.inl g3) g4 g5),h.rel.domain hdom,h.fr,
  by rw [Qag];exact h.size,h.env_put hr hn (hmono hc) hmono,by rw [Q3g];exact h.defers⟩
 ·have hne:e≠i:=fun e'=>hc3 (e'▸hce)
  rw [← h.stage e he hce]
  exact ⟨fun hL=>hL.resolve_right hne,fun hL=>.inl hL⟩
 ·rintro j (hL | rfl)
  ·exact h.dom j hL
  ·exact hi
theorem Inv.a_after (h:Inv X ops S ι₀ w₀ L ι G m a w) (hr:Runs X ops S) {i:Nat} {o:Oper} (hn:Next ops L i o) (hc:Q08 X.P ops i=2):m≤i:=by
 have hi:=Q6n hn.op
 by_cases hlt:m≤i
 ·exact hlt
 ·exfalso
  rcases h.last with hm | hm
  ·omega
  ·have hm1:m - 1 < ops.size:=by have:=h.mle;omega
   have hL:L (m - 1):=(h.stage (m - 1) hm1 hm).2 (by omega)
   have hne:i≠m - 1:=fun e=>by rw [e,hm] at hc;omega
   rcases hr.pair (i:=i) (j:=m - 1) (by omega) hm1 with hb | ⟨hx,_⟩
   ·exact hn.not (h.down _ _ hL hb)
   ·exact hx ⟨hm,by omega⟩
theorem Inv.make (h:Inv X ops S ι₀ w₀ L ι G m a w) (hr:Runs X ops S) {i:Nat} {o:Oper} (hn:Next ops L i o) (hc:Q08 X.P ops i=2) (ht:(S i).t=true) {vs cs rest:List Value} {ety:TypeId} {fz:Nat×Nat} {w0:World} {c:Value}
  (hH:(S (i+1)).H=Q0d (S i).H vs) (hl:Q07 ι (Dom X ops S m L) vs cs) (hcell:∀ v∈vs,isCell v=true) (hfz:Qjq fz (cs++rest).length) (e1:w0.heap=w.heap) (e2:w0.os=w.os) (e3:w0.tape=w.tape) (e4:w0.output=w.output)
  (hv:VRel (ι.set (S i).H.length ⟨w.heap.size,0,(cs++rest).length⟩) (fun b=>Dom X ops S m L b∨b=(S i).H.length) (S i).v c) :
  Inv X ops S ι₀ w₀ (Qcc L i) (ι.set (S i).H.length ⟨w.heap.size,0,(cs++rest).length⟩) (G.set (S i).H.length (some ⟨vs,false,none⟩)) m (a.put o.dst c) (w0.alloc (.cells (cs++rest).toArray ety fz)):=by
 have hi:=Q6n hn.op
 have hmi:=h.a_after hr hn hc
 have hlen:=hr.alloc_len hi hc ht
 have hmle:=hr.len_le hmi (by omega)
 have hle:=hr.len_le (m:=i+1) (i:=ops.size) (by omega) (Zd _)
 have hinj:∀ k,m≤k→k < ops.size→Q08 X.P ops k=2→(S k).t=true→k≠i→(S k).H.length≠(S i).H.length:=by
  intro k h1 h2 h3 h4 h5
  rcases Nat.lt_or_gt_of_ne h5 with hlt | hlt
  ·have:=hr.alloc_len h2 h3 h4
   have:=hr.len_le (m:=k+1) (i:=i) (by omega) (by omega)
   omega
  ·have:=hr.len_le (m:=i+1) (i:=k) (by omega) (by omega)
   omega
 have hnD:¬ Dom X ops S m L (S i).H.length:=by
  rintro (hx | ⟨k,h1,h2,h3,h4,h5,h6⟩)
  ·omega
  ·by_cases e:k=i
   ·subst e;exact hn.not h3
   ·exact hinj k h1 h2 h4 h5 e h6.symm
 have hG:G[(S i).H.length]? = some none:=h.dead _ hmle (by omega) (fun k g1 g2 g3 g4 g5 e=>hinj k g1 g2 g4 g5 (fun e'=>hn.not (e'▸g3)) e.symm)
 have hGl:(S i).H.length < G.length:=(Z0 hG).1
 have hD:∀ b,(Dom X ops S m L b∨b=(S i).H.length)→Dom X ops S m (Qcc L i) b:=by
  rintro b ((hx | ⟨k,h1,h2,h3,h4,h5,h6⟩) | rfl)
  ·exact .inl hx
  ·exact .inr ⟨k,h1,h2,.inl h3,h4,h5,h6⟩
  ·exact .inr ⟨i,hmi,hi,.inr rfl,hc,ht,rfl⟩
 have hw:w0.heap.size=w.heap.size:=by rw [e1]
 have hrel:=(h.rel.same_heap e1).fill hG hnD hl hcell rest ety fz hfz
 rw [hw] at hrel
 have hmono:∀ {v c:Value},VRel ι (Dom X ops S m L) v c→VRel (ι.set (S i).H.length ⟨w.heap.size,0,(cs++rest).length⟩) (Dom X ops S m (Qcc L i)) v c :=
  fun hr=>hr.mono (fun b hb=>hD b (.inl hb)) fun b hb=>Io.set_ne _ _ (fun e=>hnD (e▸hb))
 refine ⟨h.mle,fun e he hce=>?_,h.last,hn.down' h.down,?_,by rw [List.length_set];exact h.len,fun x hx=>?_,fun k g1 g2 g3 g4 g5=>?_,fun x g1 g2 g3=>?_,hrel.domain hD,?_,by rw [Qag];exact h.size,
  h.env_put hr hn (hv.mono hD fun _ _=>rfl) hmono,by rw [Q3g];exact h.defers⟩
 ·have hne:e≠i:=fun e'=>by rw [e'] at hce;omega
  rw [← h.stage e he hce]
  exact ⟨fun hL=>hL.resolve_right hne,fun hL=>.inl hL⟩
 ·rintro j (hL | rfl)
  ·exact h.dom j hL
  ·exact hi
 ·rw [Qm (by omega)];exact h.old x hx
 ·by_cases e:k=i
  ·subst e;rw [Q00 hGl,hH,Q29]
  ·rw [Qm (Ne.symm (hinj k g1 g2 g4 g5 e))]
   exact h.pend k g1 g2 (g3.resolve_right e) g4 g5
 ·have hne:(S i).H.length≠x:=Ne.symm (g3 i hmi hi (.inr rfl) hc ht)
  rw [List.getElem?_set_ne hne]
  exact h.dead x g1 g2 (fun k q1 q2 q3 q4 q5=>g3 k q1 q2 (.inl q3) q4 q5)
 ·have hgc:∀ {b:Nat} {k:Blk},hget (G.set (S i).H.length (some ⟨vs,false,none⟩)) b=some k→(b=(S i).H.length∧k.ro=false)∨(b≠(S i).H.length∧hget G b=some k):=by
   intro b k hb
   by_cases e:b=(S i).H.length
   ·subst e;rw [Q00 hGl] at hb;simp at hb;subst hb;exact .inl ⟨rfl,rfl⟩
   ·rw [Qm (Ne.symm e)] at hb;exact .inr ⟨e,hb⟩
  have h0:=hr.len_le (m:=0) (i:=i) (by omega) (by omega)
  refine ⟨by rw [List.length_set];exact h.fr.len,fun b hb=>by rw [Io.set_ne _ _ (by omega)];exact h.fr.io b hb,e2.trans h.fr.os,e3.trans h.fr.tape,e4.trans h.fr.output,?_,fun k hk hno=>?_,fun b k hb hro=>?_,fun b k hb hro=>?_⟩
  ·rw [World.size_alloc,hw];have:=h.fr.size;omega
  ·rw [Q1a _ _ (by rw [hw];have:=h.fr.size;omega),e1];exact h.fr.frame k hk hno
  ·rcases hgc hb with ⟨rfl,_⟩ | ⟨e,hb⟩
   ·left;rw [Io.set_same];exact h.fr.size
   ·rw [Io.set_ne _ _ e];exact h.fr.new b k hb hro
  ·rcases hgc hb with ⟨rfl,e⟩ | ⟨e,hb⟩
   ·rw [e] at hro;simp at hro
   ·exact h.fr.ro b k hb hro
theorem Inv.at_e (h:Inv X ops S ι₀ w₀ L ι G m a w) (hr:Runs X ops S) {e:Nat} {o:Oper} (hn:Next ops L e o) (hc:Q08 X.P ops e=3) :
  m≤e∧(∀ x,x < (S e).H.length→hget G x=hget (S e).H x)∧(∀ x,Dom X ops S m L x→x < (S e).H.length∨∃ i,e+1≤i∧i < ops.size∧L i∧Q08 X.P ops i=2∧(S i).t=true∧x=(S i).H.length):=by
 have he:=Q6n hn.op
 have hme:m≤e:=by
  by_cases hlt:m≤e
  ·exact hlt
  ·exact absurd ((h.stage e he hc).2 (by omega)) hn.not
 have hno:∀ k,m≤k→k < e→Q08 X.P ops k≠3:=by
  intro k h1 h2 h3
  rcases hr.pair h2 he with hb | ⟨hx,_⟩
  ·have:=(h.stage k (by omega) h3).1 (hn.anc k hb);omega
  ·exact hx ⟨hc,by omega⟩
 refine ⟨hme,fun x hx=>?_,?_⟩
 ·by_cases hxm:x < (S m).H.length
  ·rw [h.old x hxm,hr.keep hme (by omega) hno x hxm]
  ·obtain ⟨i,g1,g2,g3,g4,g5,g6⟩:=hr.made hme (by omega) hno x (by omega) hx
   have hL:L i:=by
    rcases hr.pair g2 he with hb | ⟨hx,_⟩
    ·exact hn.anc i hb
    ·exact absurd ⟨hc,by omega⟩ hx
   have:=h.pend i g1 (by omega) hL g3 g4
   rw [← g5] at this
   rw [this,g6]
 ·rintro x (hx | ⟨i,h1,h2,h3,h4,h5,h6⟩)
  ·have:=hr.len_le hme (by omega);exact .inl (by omega)
  ·rcases Nat.lt_trichotomy i e with hlt | rfl | hlt
   ·have:=hr.alloc_len h2 h4 h5
    have:=hr.len_le (m:=i+1) (i:=e) (by omega) (by omega)
    exact .inl (by omega)
   ·rw [hc] at h4;omega
   ·exact .inr ⟨i,by omega,h2,h3,h4,h5,h6⟩
theorem Inv.skip3 (h:Inv X ops S ι₀ w₀ L ι G m a w) (hr:Runs X ops S) {e:Nat} {o:Oper} (hn:Next ops L e o) (hc:Q08 X.P ops e=3) (ht:(S e).t=false) {c:Value} (hv:∀ D,VRel ι D (S e).v c) :
  Inv X ops S ι₀ w₀ (Qcc L e) ι G (e+1) (a.put o.dst c) w:=by
 have he:=Q6n hn.op
 obtain ⟨hme,hold,hdom⟩:=h.at_e hr hn hc
 have hH:(S (e+1)).H=(S e).H:=((hr.step e o hn.op).no ht).2
 have hD:∀ x,Dom X ops S m L x→Dom X ops S (e+1) (Qcc L e) x:=by
  intro x hx
  rcases hdom x hx with h1 | ⟨i,h1,h2,h3,h4,h5,h6⟩
  ·left;rw [hH];exact h1
  ·exact .inr ⟨i,h1,h2,.inl h3,h4,h5,h6⟩
 have hmono:∀ {v c:Value},VRel ι (Dom X ops S m L) v c→VRel ι (Dom X ops S (e+1) (Qcc L e)) v c:=fun hr=>hr.mono hD fun _ _=>rfl
 have hback:∀ k,Qcc L e k→Q08 X.P ops k=2→L k:=by
  rintro k (hL | rfl) h2
  ·exact hL
  ·rw [hc] at h2;omega
 refine ⟨by omega,fun k hk hck=>?_,.inr hc,hn.down' h.down,?_,h.len,fun x hx=>by rw [hH] at hx ⊢;exact hold x hx,fun k g1 g2 g3 g4 g5=>h.pend k (by omega) g2 (hback k g3 g4) g4 g5,fun x g1 g2 g3=>?_,h.rel.domain hD,h.fr,by rw [Qag];exact h.size,
  h.env_put hr hn (hv _) hmono,by rw [Q3g];exact h.defers⟩
 ·constructor
  ·rintro (hL | rfl)
   ·have:=(h.stage k hk hck).1 hL;omega
   ·omega
  ·intro hlt
   by_cases e':k=e
   ·exact .inr e'
   ·refine .inl ?_
    by_cases hkm:k < m
    ·exact (h.stage k hk hck).2 hkm
    ·exfalso
     rcases hr.pair (i:=k) (j:=e) (by omega) he with hb | ⟨hx,_⟩
     ·have:=(h.stage k hk hck).1 (hn.anc k hb);omega
     ·exact hx ⟨hc,by omega⟩
 ·rintro j (hL | rfl)
  ·exact h.dom j hL
  ·exact he
 ·refine h.dead x ?_ g2 (fun k q1 q2 q3 q4 q5 hx=>?_)
  ·have:=hr.len_le hme (by omega);rw [hH] at g1;omega
  ·rcases Nat.lt_trichotomy k e with hlt | rfl | hlt
   ·have:=hr.alloc_len q2 q4 q5
    have:=hr.len_le (m:=k+1) (i:=e) (by omega) (by omega)
    rw [hH] at g1;omega
   ·rw [hc] at q4;omega
   ·exact g3 k (by omega) q2 (.inl q3) q4 q5 hx
theorem Inv.rel_e (h:Inv X ops S ι₀ w₀ L ι G m a w) (hr:Runs X ops S) {e:Nat} {o:Oper} (hn:Next ops L e o) (hc:Q08 X.P ops e=3):Rel ι (Bel (S e).H.length) (S e).H w:=by
 have he:=Q6n hn.op
 obtain ⟨hme,hold,hdom⟩:=h.at_e hr hn hc
 have hcl:=(hr.abs e (by omega)).2.1
 have hG:∀ {b:Nat} {k:Blk},hget (S e).H b=some k→hget G b=some k:=fun hb=>by rw [hold _ (Qs hb)];exact hb
 refine ⟨fun b k hb=>?_,fun b b' k k' h1 h2=>h.rel.inj b b' k k' (hG h1) (hG h2),fun b k hb hr=>h.rel.nog b k (hG hb) hr,h.rel.gw⟩
 exact (h.rel.blk b k (hG hb)).of_block rfl rfl fun i hi c hv=>hv.re (hcl b (Qs hb) k hb _ (List.getElem_mem hi)) fun _ _ _=>rfl
theorem Inv.env_e (h:Inv X ops S ι₀ w₀ L ι G m a w) (hr:Runs X ops S) {e:Nat} {o:Oper} (hn:Next ops L e o):ERel ι (Dom X ops S m L) X.nt (restr (Q34 o) (S e).env) a:=by
 have hl:=h.loc hr hn
 refine LocE.restr ⟨hl.size,fun s hs v hv=>?_⟩
 rw [(hr.step e o hn.op).same] at hv
 exact hl.get s (by rw [Qdb];exact List.mem_append.2 (.inl hs)) v hv
theorem Inv.env_e3 (h:Inv X ops S ι₀ w₀ L ι G m a w) (hr:Runs X ops S) {e:Nat} {o:Oper} (hn:Next ops L e o):ERel ι (Bel (S e).H.length) X.nt (restr (Q34 o) (S e).env) a:=by
 have h1:=h.env_e hr hn
 exact ⟨h1.size,fun s v hv=>(h1.get s v hv).re ((hr.envLt' (Q6n hn.op)).restr s v hv) fun _ _ _=>rfl⟩
theorem Inv.eff (h:Inv X ops S ι₀ w₀ L ι G m a w) (hr:Runs X ops S) {e:Nat} {o:Oper} (hn:Next ops L e o) (hc:Q08 X.P ops e=3) {ι':Io} {w':World} {c:Value}
  (hR:Rel ι' (Bel (S (e+1)).H.length) (S (e+1)).H w') (hv:VRel ι' (Bel (S (e+1)).H.length) (S e).v c) (hf:Fr ι (S e).H w ι' (S (e+1)).H w') :
  Inv X ops S ι₀ w₀ (Qcc L e) (fun x=>if x < (S (e+1)).H.length then ι' x else ι x) ((S (e+1)).H++G.drop (S (e+1)).H.length) (e+1) (a.put o.dst c) w':=by
 have he:=Q6n hn.op
 obtain ⟨hme,hold,hdom⟩:=h.at_e hr hn hc
 have hle:(S (e+1)).H.length≤G.length:=by rw [h.len];exact hr.len_le (by omega) (Zd _)
 have hlen1:=hr.len_succ he
 have hG:∀ {b:Nat} {k:Blk},hget (S e).H b=some k→hget G b=some k:=fun hb=>by rw [hold _ (Qs hb)];exact hb
 have hlt:∀ {x:Nat},x < (S (e+1)).H.length→hget ((S (e+1)).H++G.drop (S (e+1)).H.length) x=hget (S (e+1)).H x:=fun hx=>Q0h hx
 have hge:∀ {x:Nat},(S (e+1)).H.length≤x→((S (e+1)).H++G.drop (S (e+1)).H.length)[x]? = G[x]?:=by
  intro x hx
  rw [Zq hx,Zp]
  congr 1;omega
 have hge':∀ {x:Nat},(S (e+1)).H.length≤x→hget ((S (e+1)).H++G.drop (S (e+1)).H.length) x=hget G x:=by
  intro x hx;unfold hget;rw [hge hx]
 have hpl:∀ i,e+1≤i→i < ops.size→(S (e+1)).H.length≤(S i).H.length:=fun i h1 h2=>hr.len_le h1 (by omega)
 have hD:∀ x,Dom X ops S m L x→Dom X ops S (e+1) (Qcc L e) x∧(if x < (S (e+1)).H.length then ι' x else ι x)=ι x:=by
  intro x hx
  rcases hdom x hx with h1 | ⟨i,h1,h2,h3,h4,h5,h6⟩
  ·exact ⟨.inl (by omega),by rw [if_pos (by omega)];exact hf.io x h1⟩
  ·have:=hpl i h1 h2
   exact ⟨.inr ⟨i,h1,h2,.inl h3,h4,h5,h6⟩,by rw [if_neg (by omega)]⟩
 have hmono:∀ {v c:Value},VRel ι (Dom X ops S m L) v c→VRel (fun x=>if x < (S (e+1)).H.length then ι' x else ι x) (Dom X ops S (e+1) (Qcc L e)) v c :=
  fun hr=>hr.mono (fun x hx=>(hD x hx).1) fun x hx=>(hD x hx).2
 have hmono':∀ {v c:Value},VRel ι' (Bel (S (e+1)).H.length) v c→VRel (fun x=>if x < (S (e+1)).H.length then ι' x else ι x) (Dom X ops S (e+1) (Qcc L e)) v c :=
  fun hr=>hr.mono (fun x hx=>.inl hx) fun x hx=>if_pos hx
 have hback:∀ k,Qcc L e k→Q08 X.P ops k=2→L k:=by
  rintro k (hL | rfl) h2
  ·exact hL
  ·rw [hc] at h2;omega
 have hpend:∀ {x:Nat} {k:Blk},(S (e+1)).H.length≤x→hget G x=some k→∃ i,e+1≤i∧i < ops.size∧L i∧Q08 X.P ops i=2∧(S i).t=true∧x=(S i).H.length∧k.ro=false:=by
  intro x k hx hk
  have hxG:=Qs hk
  rw [h.len] at hxG
  apply Classical.byContradiction
  intro hno
  have hdead:=h.dead x (by have:=hr.len_le hme (by omega:e≤ops.size);omega) hxG (fun i g1 g2 g3 g4 g5 hx'=>by
   rcases Nat.lt_trichotomy i e with hl | rfl | hl
   ·have:=hr.alloc_len g2 g4 g5
    have:=hr.len_le (m:=i+1) (i:=e) (by omega) (by omega)
    omega
   ·rw [hc] at g4;omega
   ·have hp:=h.pend i g1 g2 g3 g4 g5
    rw [← hx',hk] at hp
    obtain ⟨oi,hoi⟩:=Q5u g2
    have hF:=(hr.step i oi hoi).yes g5
    have hcls:=Qhw (P:=X.P) hoi
    rw [g4] at hcls
    unfold OpF at hF
    rw [← hcls] at hF
    obtain ⟨vs,mk,_,eH,_⟩:=hF
    rw [hx',eH,Q29] at hp
    simp at hp
    exact hno ⟨i,by omega,g2,g3,g4,g5,hx',by rw [hp]⟩)
  unfold hget at hk;rw [hdead] at hk;simp at hk
 have hlive:∀ {x:Nat} {k:Blk},hget ((S (e+1)).H++G.drop (S (e+1)).H.length) x=some k→(x < (S (e+1)).H.length∧hget (S (e+1)).H x=some k)∨((S (e+1)).H.length≤x∧hget G x=some k∧k.ro=false):=by
  intro x k hk
  by_cases hx:x < (S (e+1)).H.length
  ·rw [hlt hx] at hk;exact .inl ⟨hx,hk⟩
  ·rw [hge' (by omega)] at hk
   obtain ⟨i,_,_,_,_,_,_,hro⟩:=hpend (by omega) hk
   exact .inr ⟨by omega,hk,hro⟩
 have hapart:∀ {x y:Nat} {k k':Blk},x < (S (e+1)).H.length→hget (S (e+1)).H x=some k→(S (e+1)).H.length≤y→hget G y=some k'→k'.ro=false→(ι' x).blk≠(ι y).blk:=by
  intro x y k k' hx hk hy hk' hro
  have hyl:=h.rel.lt hk'
  cases hkr:k.ro with
  | false =>
   rcases hf.new x k hk hkr with h1 | ⟨b0,k0,h1,h2,h3⟩
   ·omega
   ·rw [← h3]
    have:=Qs h1
    exact h.rel.inj b0 y k0 k' (hG h1) hk' (by omega) (.inr hro)
  | true =>
   have h1:=hf.ro x k hk hkr
   have h2:=Qs h1
   rw [hf.io x h2]
   exact h.rel.inj x y k k' (hG h1) hk' (by omega) (.inr hro)
 refine ⟨by omega,fun k hk hck=>?_,.inr hc,hn.down' h.down,?_,by rw [Zf,List.length_drop,← h.len];omega,fun x hx=>hlt hx,fun k g1 g2 g3 g4 g5=>?_,fun x g1 g2 g3=>?_,⟨fun x k hk=>?_,fun x y k k' h1 h2 hne hro=>?_,fun x k hk hro=>(by
   rcases hlive hk with ⟨g1,g2⟩ | ⟨g1,g2,_⟩
   ·rw [if_pos g1];exact hR.nog x k g2 hro
   ·rw [if_neg (by omega)];exact h.rel.nog x k g2 hro),hR.gw⟩,?_,by rw [Qag];exact h.size,
  h.env_put hr hn (hmono' hv) hmono,by rw [Q3g];exact h.defers⟩
 ·constructor
  ·rintro (hL | rfl)
   ·have:=(h.stage k hk hck).1 hL;omega
   ·omega
  ·intro hlt'
   by_cases e':k=e
   ·exact .inr e'
   ·refine .inl ?_
    by_cases hkm:k < m
    ·exact (h.stage k hk hck).2 hkm
    ·exfalso
     rcases hr.pair (i:=k) (j:=e) (by omega) he with hb | ⟨hx,_⟩
     ·have:=(h.stage k hk hck).1 (hn.anc k hb);omega
     ·exact hx ⟨hc,by omega⟩
 ·rintro j (hL | rfl)
  ·exact h.dom j hL
  ·exact he
 ·rw [hge' (hpl k g1 g2)];exact h.pend k (by omega) g2 (hback k g3 g4) g4 g5
 ·rw [hge g1]
  refine h.dead x (by have:=hr.len_le hme (by omega:e≤ops.size);omega) g2 (fun k q1 q2 q3 q4 q5 hx=>?_)
  rcases Nat.lt_trichotomy k e with hl | rfl | hl
  ·have:=hr.alloc_len q2 q4 q5
   have:=hr.len_le (m:=k+1) (i:=e) (by omega) (by omega)
   omega
  ·rw [hc] at q4;omega
  ·exact g3 k (by omega) q2 (.inl q3) q4 q5 hx
 ·rcases hlive hk with ⟨h1,h2⟩ | ⟨h1,h2,hro⟩
  ·exact (hR.blk x k h2).of_block rfl (if_pos h1) fun i hi c hr=>hmono' hr
  ·refine (h.rel.blk x k h2).of_block (hf.frame _ (h.rel.lt h2) ?_) (if_neg (by omega)) fun i hi c hr=>hmono hr
   intro b k' hb hro'
   have:=Qs hb
   exact h.rel.inj b x k' k (hG hb) h2 (by omega) (.inl hro')
 ·rcases hlive h1 with ⟨g1,g2⟩ | ⟨g1,g2,hro1⟩
  ·rcases hlive h2 with ⟨q1,q2⟩ | ⟨q1,q2,hro2⟩
   ·rw [if_pos g1,if_pos q1];exact hR.inj x y k k' g2 q2 hne hro
   ·rw [if_pos g1,if_neg (by omega)];exact hapart g1 g2 q1 q2 hro2
  ·rcases hlive h2 with ⟨q1,q2⟩ | ⟨q1,q2,hro2⟩
   ·rw [if_neg (by omega),if_pos q1];exact Ne.symm (hapart q1 q2 g1 g2 hro1)
   ·rw [if_neg (by omega),if_neg (by omega)];exact h.rel.inj x y k k' g2 q2 hne hro
 ·have h0:=hr.len_le (m:=0) (i:=e) (by omega) (by omega)
  refine ⟨by simp;omega,fun b hb=>by rw [if_pos (by omega),hf.io b (by omega)];exact h.fr.io b hb,hf.os.trans h.fr.os,hf.tape.trans h.fr.tape,hf.output.trans h.fr.output,Nat.le_trans h.fr.size hf.size,fun k hk hno=>?_,fun x k hk hro=>?_,fun x k hk hro=>?_⟩
  ·rw [hf.frame k (Zm hk h.fr.size) ?_,h.fr.frame k hk hno]
   intro b k' hb hro heq
   rcases h.fr.new b k' (hG hb) hro with h1 | ⟨b0,k0,h1,h2,h3⟩
   ·omega
   ·exact hno b0 k0 h1 h2 (h3.trans heq)
  ·rcases hlive hk with ⟨g1,g2⟩ | ⟨g1,g2,_⟩
   ·rw [if_pos g1]
    rcases hf.new x k g2 hro with h1 | ⟨b0,k0,h1,h2,h3⟩
    ·exact .inl (Nat.le_trans h.fr.size h1)
    ·rw [← h3];exact h.fr.new b0 k0 (hG h1) h2
   ·rw [if_neg (by omega)];exact h.fr.new x k g2 hro
  ·rcases hlive hk with ⟨g1,g2⟩ | ⟨g1,g2,hro'⟩
   ·exact h.fr.ro x k (hG (hf.ro x k g2 hro)) hro
   ·rw [hro'] at hro;simp at hro
theorem Qpy {H G:Heap} (h:∀ x,x < H.length→hget G x=hget H x) {p:Addr} {v:Value} (hl:Q2f H p=some v):Q2f G p=some v:=by
 unfold Q2f at hl ⊢
 obtain ⟨k,hk,hv⟩:=Q2 hl
 rw [h _ (Qs hk),hk];exact hv
theorem Q9d {H G:Heap} (h:∀ x,x < H.length→hget G x=hget H x) {p:Addr} {n:Nat} {l:List Value} (hl:Qx H p n=some l):Qx G p n=some l:=by
 unfold Qx at hl ⊢
 obtain ⟨k,hk,hv⟩:=Q2 hl
 rw [h _ (Qs hk),hk];exact hv
theorem Qn1 {H G:Heap} (h:∀ x,x < H.length→hget G x=hget H x) {p:Addr} {n:Nat} {l:List Value} (hl:Q0m H p n=some l):Q0m G p n=some l:=by
 cases n with
 | zero=>exact hl
 | succ m=>exact Q9d h hl
theorem Qsy {P:Program} {op:Op} {env:Env} {H G:Heap} (h:∀ x,x < H.length→hget G x=hget H x) {v:Value} (hl:Q31 P op env H=some v):Q31 P op env G=some v:=by
 unfold Q31 at hl ⊢
 cases op with
 | load t x =>
  simp only at hl ⊢
  cases hg:Qci P t x with
  | some q=>rw [hg] at hl;exact hl
  | none =>
  rw [hg] at hl
  simp only at hl ⊢
  replace hl:=Q2 hl;obtain ⟨u,hu,hl⟩:=hl
  rw [hu];simp only [Q1]
  replace hl:=Q4f hl;obtain ⟨p,rfl,hl⟩:=hl
  simp only [Q5c]
  replace hl:=Q2 hl;obtain ⟨i,hi,hl⟩:=hl
  rw [hi];simp only
  split at hl
  ·replace hl:=Q2 hl;obtain ⟨l,h1,hl⟩:=hl
   rw [Q9d h h1];exact hl
  ·replace hl:=Q2 hl;obtain ⟨l,h1,hl⟩:=hl
   rw [Q9d h h1];exact hl
  ·exact Qpy h hl
  ·simp at hl
 | convert s d x =>
  simp only at hl ⊢
  replace hl:=Q2 hl;obtain ⟨u,hu,hl⟩:=hl
  rw [hu];simp only [Q1]
  replace hl:=Q2 hl;obtain ⟨l,h1,hl⟩:=hl
  have:Qf G 1 u=some l:=by
   unfold Qf at h1 ⊢
   split at h1
   ·exact h1
   ·exact Qn1 h h1
   ·simp at h1
  rw [this];exact hl
 | _=>simp at hl
end
section
variable {X:Cx} {ops:Array Oper} {S:Nat→St} {ι₀:Io} {w₀:World} {L:Nat→Prop} {ι:Io} {G:Heap} {m:Nat} {a:Act} {w:World}
theorem Qwg {p:Nat→Bool} {N x:Nat} (hx:x∈(List.range N).filter p) (hmax:∀ y∈(List.range N).filter p,y≤x):∃ r,((List.range N).filter p).reverse=x::r:=by
 have hs:((List.range N).filter p).Pairwise (· < ·):=List.Pairwise.filter p List.pairwise_lt_range
 generalize (List.range N).filter p=l at hx hmax hs
 cases hl:l.reverse with
 | nil=>have:l=[]:=List.reverse_eq_nil_iff.1 hl;subst this;simp at hx
 | cons y r =>
  have e:l=r.reverse++[y]:=by rw [← List.reverse_reverse l,hl];simp
  subst e
  have hy:=hmax y (by simp)
  rcases List.mem_append.1 hx with h1 | h1
  ·have:=(List.pairwise_append.1 hs).2.2 x h1 y (by simp)
   omega
  ·simp at h1;subst h1;exact ⟨r,rfl⟩
theorem Inv.stage_mem (h:Inv X ops S ι₀ w₀ L ι G m a w) {i:Nat} {o:Oper} (hn:Next ops L i o) (hc:Q08 X.P ops i≠3):m∈Q4t X.P ops i:=by
 unfold Q4t
 simp only [List.mem_cons,List.mem_map]
 have hanc:∀ e∈((List.range ops.size).filter fun e=>Nat.beq (Q08 X.P ops e) 3).filter fun e=>Q3l (Region.before ops) i e,e < m:=by
  intro e he
  simp only [List.mem_filter,List.mem_range] at he
  obtain ⟨⟨h1,h2⟩,h3⟩:=he
  exact (h.stage e h1 (Z7 h2)).1 (hn.anc e h3)
 rcases h.last with hm | hm
 ·subst hm
  left
  cases hrev:(((List.range ops.size).filter fun e=>Nat.beq (Q08 X.P ops e) 3).filter fun e=>Q3l (Region.before ops) i e).reverse with
  | nil=>rfl
  | cons e r =>
   have:e∈((List.range ops.size).filter fun e=>Nat.beq (Q08 X.P ops e) 3).filter fun e=>Q3l (Region.before ops) i e:=by
    rw [← List.mem_reverse,hrev];simp
   have:=hanc e this
   omega
 ·by_cases h0:m=0
  ·subst h0
   left
   cases hrev:(((List.range ops.size).filter fun e=>Nat.beq (Q08 X.P ops e) 3).filter fun e=>Q3l (Region.before ops) i e).reverse with
   | nil=>rfl
   | cons e r =>
    have:e∈((List.range ops.size).filter fun e=>Nat.beq (Q08 X.P ops e) 3).filter fun e=>Q3l (Region.before ops) i e:=by
     rw [← List.mem_reverse,hrev];simp
    have:=hanc e this
    omega
  ·have hm1:m - 1 < ops.size:=by have:=h.mle;omega
   have hL:L (m - 1):=(h.stage _ hm1 hm).2 (by omega)
   cases hb:Q3l (Region.before ops) i (m - 1) with
   | true =>
    left
    rw [List.filter_filter] at hanc ⊢
    have hmem:(m - 1)∈(List.range ops.size).filter fun e=>Q3l (Region.before ops) i e&&Nat.beq (Q08 X.P ops e) 3:=by
     simp only [List.mem_filter,List.mem_range,Z8]
     exact ⟨hm1,hb,by rw [hm];rfl⟩
    obtain ⟨r,hr⟩:=Qwg hmem (fun y hy=>by have:=hanc y hy;omega)
    rw [hr]
    simp only;omega
   | false =>
    right
    refine ⟨m - 1,?_,by omega⟩
    simp only [List.mem_filter,List.mem_range]
    refine ⟨⟨hm1,by rw [hm];rfl⟩,?_⟩
    have hb2:Q3l (Region.before ops) (m - 1) i=false:=by
     cases hq:Q3l (Region.before ops) (m - 1) i with
     | false=>rfl
     | true=>exact absurd (h.down _ _ hL hq) hn.not
    have hne:Nat.beq (m - 1) i=false:=by
     cases hq:Nat.beq (m - 1) i with
     | false=>rfl
     | true=>exact absurd (Z7 hq▸hL) hn.not
    rw [hb,hb2,hne];rfl
theorem Runs.const (hr:Runs X ops S) {lo:Nat}:∀ {hi:Nat},lo≤hi→hi≤ops.size→(∀ k,lo≤k→k < hi→Q08 X.P ops k < 2)→(S hi).H=(S lo).H
 | 0,h1,_,_=>by rw [Nat.le_zero.1 h1]
 | hi+1,h1,h2,h3=>by
  by_cases e:lo=hi+1
  ·subst e;rfl
  ·have ih:=hr.const (hi:=hi) (by omega) (by omega) fun k h4 h5=>h3 k h4 (by omega)
   have hc:=h3 hi (by omega) (by omega)
   rcases hr.quiet (i:=hi) (by omega) (by omega) with q | ⟨q,_⟩
   ·rw [q,ih]
   ·omega
def Q00s (X:Cx) (ops:Array Oper) (i:Nat) (o:Oper) (m:Nat):Prop :=
 ∃ t k ok,Qsd o.op=some t∧m≤k∧k < i∧Q3l (Region.before ops) i k=true∧Q08 X.P ops k=2∧ops[k]? = some ok∧ok.guard=none∧ok.dst=some t∧∀ j,k < j→j < i→Q08 X.P ops j≠3∧Q5v ops j≠some t
def Stab (X:Cx) (ops:Array Oper) (S:Nat→St):Prop :=
 ∀ i o,ops[i]? = some o→Q08 X.P ops i=1→∀ m∈Q4t X.P ops i,Q31 X.P o.op (S i).env (S m).H=Q31 X.P o.op (S i).env (S i).H∨Q00s X ops i o m
theorem Inv.step (h:Inv X ops S ι₀ w₀ L ι G m a w) (hr:Runs X ops S) (hst:Stab X ops S) {i:Nat} {o:Oper} (hn:Next ops L i o) {K:Act→World→Prop} {Q:Exit→Act→World→Prop}
  (hK:∀ ι' G' m' a' w',Inv X ops S ι₀ w₀ (Qcc L i) ι' G' m' a' w'→K a' w'):wpOp X.P ops Q i K a w:=by
 have hi:=Q6n hn.op
 have hs:=hr.step i o hn.op
 have hcls:=Qhw (P:=X.P) hn.op
 have hloc:=h.loc hr hn
 have hw:Region.wanted o (yielded ops a.tmps)=(S i).t:=hs.guard ι _ a ⟨hloc.size,fun s hs' v hv=>hloc.get s (by rw [Qdb];exact List.mem_append.2 (.inr hs')) v hv⟩
 unfold wpOp
 rw [hn.op]
 simp only
 cases ht:(S i).t with
 | false =>
  rw [if_neg (by rw [hw,ht];simp)]
  have hv:=(hs.no ht).1
  by_cases hc3:Q08 X.P ops i=3
  ·exact hK _ _ _ _ _ (h.skip3 hr hn hc3 ht (c:=undef) fun D=>by rw [hv];exact Q4a _ _)
  ·exact hK _ _ _ _ _ (h.still hr hn hc3 (fun _=>ht) (c:=undef) (by rw [hv];exact Q4a _ _))
 | true =>
  rw [if_pos (by rw [hw,ht])]
  left
  have hF:=hs.yes ht
  have hE:=h.env_e hr hn
  unfold OpF at hF
  split at hF
  ·rename_i hc
   rw [hc] at hcls
   obtain ⟨c,h1,h2⟩:=hF.2.run ι _ a w hE
   exact Q14 h1 (hK _ _ _ _ _ (h.still hr hn (by omega) (fun e=>by omega) h2))
  ·rename_i hc
   rw [hc] at hcls
   obtain ⟨_,raw,hF⟩:=hF
   have h2:=hF.rd
   rw [Qda] at h2
   have h3:Q31 X.P o.op (S i).env G=some raw:=by
    rcases hst i o hn.op hcls m (h.stage_mem hn (by omega)) with h1 | ⟨t,k,ok,ht',hmk,hki,hb,hc2,hok,hgd,hdst,hno⟩
    ·rw [h2] at h1
     exact Qsy (G:=G) h.old h1
    ·have hL:=hn.anc k hb
     have hsk:=hr.step k ok hok
     have htk:(S k).t=true:=by
      have hg0:Q4g ops ok=[]:=by unfold Q4g;rw [hgd]
      have hw0:=hsk.guard (fun _=>⟨0,0,0⟩) (fun _=>True) a ⟨h.size,fun s hs'=>by rw [hg0] at hs';simp at hs'⟩
      rw [← hw0];simp [Region.wanted,hgd]
     have hclk:=Qhw (P:=X.P) hok
     rw [hc2] at hclk
     have hFk:=hsk.yes htk
     unfold OpF at hFk
     rw [← hclk] at hFk
     obtain ⟨vs,mk,hvk,hHk,hAk⟩:=hFk
     have hp:=h.pend k hmk (by omega) hL hc2 htk
     obtain ⟨hw1,_⟩:=hr.wrote (q:=t) hki (by omega) (by simp [Q5v,hok,hdst]) (fun j h4 h5=>(hno j h4 h5).2)
     rw [hvk] at hw1
     have hw2:Q2e (S i).env t=some (mk (S k).H.length):=by rw [hs.same];exact hw1
     have hk:=hr.keep (m:=k+1) (i:=i) (by omega) (by omega) (fun j h4 h5=>(hno j (by omega) h5).1) (S k).H.length (by rw [hHk,Qy];omega)
     rw [Qsw ht' hw2 (hAk.blk _) (hp.trans hk.symm)];exact h2
   rw [← Qda] at h3
   obtain ⟨c,g1,g2⟩:=hF.run ι _ a w G h3 h.rel hE
   exact Q14 g1 (hK _ _ _ _ _ (h.still hr hn (by omega) (fun e=>by omega) g2))
  ·rename_i hc
   rw [hc] at hcls
   obtain ⟨vs,mk,hv,hH,hF⟩:=hF
   obtain ⟨cs,rest,ety,fz,w0,c,h1,h2,e1,e2,e3,e4,h3,h4⟩:=hF.run ι _ a w hE
   exact Q14 h3 (hK _ _ _ _ _ (h.make hr hn hcls ht (ety:=ety) hH h1 hF.cells h2 e1 e2 e3 e4 (by rw [hv];exact h4 _)))
  ·rename_i h0 h1 h2
   have hle:=Qus X.P o.op
   have hc:Q08 X.P ops i=3:=by
    rw [hcls]
    have:Q24 X.P o.op=0∨Q24 X.P o.op=1∨Q24 X.P o.op=2∨Q24 X.P o.op=3:=by omega
    rcases this with e | e | e | e
    ·exact absurd e h0
    ·exact absurd e h1
    ·exact absurd e h2
    ·exact e
   exact hF.run ι a w (h.rel_e hr hn hc) (h.env_e3 hr hn) K Q fun ι' w' c g1 g2 g3=>hK _ _ _ _ _ (h.eff hr hn hc g1 g2 g3)
theorem Inv.done (h:Inv X ops S ι₀ w₀ L ι G m a w) (hr:Runs X ops S) (hall:∀ i,i < ops.size→L i) :
  Rel ι (Bel (S ops.size).H.length) (S ops.size).H w∧ERel ι (Bel (S ops.size).H.length) X.nt (S ops.size).inn a∧Fr ι₀ (S 0).H w₀ ι (S ops.size).H w∧Ab X.lim (S 0).H (S ops.size).H∧a.defers=[]:=by
 obtain ⟨hE,hcl,hab⟩:=hr.abs ops.size (Zd _)
 have hno:∀ k,m≤k→k < ops.size→Q08 X.P ops k≠3:=by
  intro k h1 h2 h3
  have:=(h.stage k h2 h3).1 (hall k h2)
  omega
 have hget:∀ x,x < (S ops.size).H.length→hget G x=hget (S ops.size).H x:=by
  intro x hx
  by_cases hxm:x < (S m).H.length
  ·rw [h.old x hxm,hr.keep h.mle (Zd _) hno x hxm]
  ·obtain ⟨i,g1,g2,g3,g4,g5,g6⟩:=hr.made h.mle (Zd _) hno x (by omega) hx
   have:=h.pend i g1 g2 (hall i g2) g3 g4
   rw [← g5] at this
   rw [this,g6]
 have hG:∀ {b:Nat} {k:Blk},Ev.hget (S ops.size).H b=some k→Ev.hget G b=some k:=fun hb=>by rw [hget _ (Qs hb)];exact hb
 refine ⟨⟨fun b k hb=>?_,fun b b' k k' h1 h2=>h.rel.inj b b' k k' (hG h1) (hG h2),fun b k hb hr=>h.rel.nog b k (hG hb) hr,h.rel.gw⟩,⟨h.size,fun q v hv=>?_⟩,⟨by rw [← h.len];exact h.fr.len,h.fr.io,h.fr.os,h.fr.tape,h.fr.output,h.fr.size,h.fr.frame,fun b k hb hro=>h.fr.new b k (hG hb) hro,fun b k hb hro=>h.fr.ro b k (hG hb) hro⟩,hab,h.defers⟩
 ·exact (h.rel.blk b k (hG hb)).of_block rfl rfl fun i hi c hv=>hv.re (hcl b (Qs hb) k hb _ (List.getElem_mem hi)) fun _ _ _=>rfl
 ·exact (h.env q ops.size (Zd _) (fun j hj _=>⟨fun _=>hj,fun _=>hall j hj⟩) v hv).re (hE q v hv) fun _ _ _=>rfl
def Lof (listed:Array Bool) (j:Nat):Prop:=listed[j]? = some true
theorem Qhx:∀ (l:List Bool) (i:Nat),l[i]? = some false→(l.set i true).count false+1=l.count false
 | [],i,h=>by simp at h
 | b::l,0,h=>by simp at h;subst h;simp
 | b::l,i+1,h=>by
  have:=Qhx l i (by simpa using h)
  simp only [List.set_cons_succ,List.count_cons]
  omega
theorem Qhy {listed:Array Bool} {i:Nat} (h:i∈Region.ready .any ops listed):∃ o,ops[i]? = some o∧listed.getD i true=false∧∀ e∈o.after.toList,Region.binds .any e=true→listed.getD e.on false=true:=by
 unfold Region.ready at h
 simp only [List.mem_filter,List.mem_range,Z8,Bool.not_eq_true'] at h
 obtain ⟨h1,h2,h3⟩:=h
 obtain ⟨o,ho⟩:=Q5u h1
 rw [ho] at h3
 simp only [Option.map_some,Option.getD_some] at h3
 refine ⟨o,ho,h2,fun e he hb=>?_⟩
 have:=(Array.all_eq_true'.1 h3) e (by simpa using he)
 rw [hb] at this
 simpa using this
theorem Qsz {listed:Array Bool} {i:Nat} {o:Oper} (ho:ops[i]? = some o) (h2:listed.getD i true=false) (h3:∀ e∈o.after.toList,Region.binds .any e=true→listed.getD e.on false=true):i∈Region.ready .any ops listed:=by
 unfold Region.ready
 simp only [List.mem_filter,List.mem_range,Z8,Bool.not_eq_true']
 refine ⟨Q6n ho,h2,?_⟩
 rw [ho]
 simp only [Option.map_some,Option.getD_some]
 refine Array.all_eq_true'.2 fun e he=>?_
 cases hb:Region.binds .any e with
 | false=>simp
 | true=>simpa using h3 e (by simpa using he) hb
theorem Qn2 {listed:Array Bool} {j:Nat} (h:listed.getD j false=true):Lof listed j:=by
 unfold Lof
 rw [Array.getD_eq_getD_getElem?] at h
 cases hj:listed[j]? with
 | none=>rw [hj] at h;simp at h
 | some b=>rw [hj] at h;simp at h;rw [h]
theorem Qn3 (hr:Runs X ops S) {listed:Array Bool} (hsz:listed.size=ops.size) (hrd:Region.ready .any ops listed=[]):∀ i,i < ops.size→Lof listed i:=by
 intro i
 induction i using Nat.strongRecOn with
 | _ i ih =>
  intro hi
  cases hl:listed[i]? with
  | none=>rw [Array.getElem?_eq_getElem (by omega)] at hl;simp at hl
  | some b =>
   cases b with
   | true=>exact hl
   | false =>
    obtain ⟨o,ho⟩:=Q5u hi
    have:i∈Region.ready .any ops listed:=Qsz ho (by rw [Array.getD_eq_getD_getElem?,hl];rfl) (fun e he hb=>by
     have hlt:=hr.edges ho e he hb
     have:=ih e.on hlt (by omega)
     unfold Lof at this
     rw [Array.getD_eq_getD_getElem?,this];rfl)
    rw [hrd] at this
    simp at this
theorem Qhz (hr:Runs X ops S) (hst:Stab X ops S) {Q:Exit→Act→World→Prop}
  (hQ:∀ ι' a' w',Rel ι' (Bel (S ops.size).H.length) (S ops.size).H w'→ERel ι' (Bel (S ops.size).H.length) X.nt (S ops.size).inn a'→Fr ι₀ (S 0).H w₀ ι' (S ops.size).H w'→Ab X.lim (S 0).H (S ops.size).H→a'.defers=[]→Q .normal a' w') :
  ∀ (fuel:Nat) (listed:Array Bool) (ι:Io) (G:Heap) (m:Nat) (a:Act) (w:World),listed.size=ops.size→listed.toList.count false=fuel→Inv X ops S ι₀ w₀ (Lof listed) ι G m a w→wpAny X.P .any ops Q fuel listed a w:=by
 have fin:∀ (listed:Array Bool) (ι:Io) (G:Heap) (m:Nat) (a:Act) (w:World),listed.size=ops.size→Inv X ops S ι₀ w₀ (Lof listed) ι G m a w→Region.ready .any ops listed=[]→Q .normal a w:=by
  intro listed ι G m a w hsz h hrd
  obtain ⟨h1,h2,h3,h4,h5⟩:=h.done hr (Qn3 hr hsz hrd)
  exact hQ ι a w h1 h2 h3 h4 h5
 intro fuel
 induction fuel with
 | zero =>
  intro listed ι G m a w hsz hcnt h
  have hrd:Region.ready .any ops listed=[]:=by
   cases hrd:Region.ready .any ops listed with
   | nil=>rfl
   | cons i r =>
    obtain ⟨o,ho,h2,_⟩:=Qhy (ops:=ops) (listed:=listed) (i:=i) (by rw [hrd];simp)
    have hi:=Q6n ho
    have:listed[i]? = some false:=by
     rw [Array.getD_eq_getD_getElem?,Array.getElem?_eq_getElem (by omega)] at h2
     rw [Array.getElem?_eq_getElem (by omega)]
     simpa using h2
    have hmem:false∈listed.toList:=by rw [← Array.getElem?_toList] at this;exact Zc this
    rw [List.count_eq_zero] at hcnt
    exact absurd hmem hcnt
  exact ⟨hrd,fin listed ι G m a w hsz h hrd⟩
 | succ fuel ih =>
  intro listed ι G m a w hsz hcnt h
  refine ⟨fin listed ι G m a w hsz h,fun i hi=>?_⟩
  obtain ⟨o,ho,h2,h3⟩:=Qhy hi
  have hilt:=Q6n ho
  have hif:listed[i]? = some false:=by
   rw [Array.getD_eq_getD_getElem?,Array.getElem?_eq_getElem (by omega)] at h2
   rw [Array.getElem?_eq_getElem (by omega)]
   simpa using h2
  have hn:Next ops (Lof listed) i o:=by
   refine ⟨ho,fun hL=>?_,fun k hb=>?_⟩
   ·unfold Lof at hL;rw [hif] at hL;simp at hL
   ·obtain ⟨o',e,ho',he,hbd,hk⟩:=Qsv hb
    rw [ho] at ho';simp at ho';subst ho'
    have hL:=Qn2 (h3 e he hbd)
    rcases hk with rfl | hk
    ·exact hL
    ·exact h.down _ _ hL hk
  have hadd:Lof (listed.setIfInBounds i true)=Qcc (Lof listed) i:=by
   funext j
   apply propext
   unfold Lof Qcc
   rw [Array.getElem?_setIfInBounds]
   by_cases e:i=j
   ·subst e;simp [show i < listed.size by omega]
   ·rw [if_neg e]
    constructor
    ·exact fun h=>.inl h
    ·rintro (h | h)
     ·exact h
     ·exact absurd h.symm e
  refine h.step hr hst hn fun ι' G' m' a' w' h'=>ih _ ι' G' m' a' w' (by simpa using hsz) ?_ (by rw [hadd];exact h')
  have:=Qhx listed.toList i (by rw [Array.getElem?_toList];exact hif)
  rw [Array.toList_setIfInBounds]
  omega
theorem Qpz (hr:Runs X ops S) (hR:Rel ι₀ (Bel (S 0).H.length) (S 0).H w₀) (hE:ERel ι₀ (Bel (S 0).H.length) X.nt (S 0).inn a) (hd:a.defers=[]) :
  Inv X ops S ι₀ w₀ (Lof (Array.replicate ops.size false)) ι₀ ((S 0).H++List.replicate ((S ops.size).H.length - (S 0).H.length) none) 0 a w₀:=by
 have hL:∀ j,¬ Lof (Array.replicate ops.size false) j:=by
  intro j h
  unfold Lof at h
  rw [Array.getElem?_replicate] at h
  split at h<;>simp at h
 have hle:=hr.len_le (m:=0) (i:=ops.size) (by omega) (Zd _)
 have hdom:∀ x,Bel (S 0).H.length x→Dom X ops S 0 (Lof (Array.replicate ops.size false)) x:=fun x hx=>.inl hx
 have hget:∀ {x:Nat} {k:Blk},Ev.hget ((S 0).H++List.replicate ((S ops.size).H.length - (S 0).H.length) none) x=some k→Ev.hget (S 0).H x=some k:=by
  intro x k hk
  by_cases hx:x < (S 0).H.length
  ·rw [Q0h hx] at hk;exact hk
  ·unfold Ev.hget at hk
   rw [Zq (by omega),List.getElem?_replicate] at hk
   split at hk
   ·rename_i h1;split at h1<;>simp at h1
   ·simp at hk
 refine ⟨by omega,fun e _ _=>⟨fun h=>absurd h (hL e),fun h=>by omega⟩,.inl rfl,fun j i h=>absurd h (hL j),fun j h=>absurd h (hL j),by simp;omega,fun x hx=>Q0h hx,fun i _ _ h=>absurd h (hL i),fun x h1 h2 _=>?_,
  ⟨fun b k hk=>((hR.blk b k (hget hk)).of_block rfl rfl fun _ _ _ hv=>hv.mono hdom fun _ _=>rfl),fun b b' k k' h1 h2=>hR.inj b b' k k' (hget h1) (hget h2),fun b k hb hr=>hR.nog b k (hget hb) hr,hR.gw⟩,⟨by simp,fun _ _=>rfl,rfl,rfl,rfl,Zd _,fun _ _ _=>rfl,fun b k hk hro=>.inr ⟨b,k,hget hk,hro,rfl⟩,fun b k hk _=>hget hk⟩,
  hE.size,fun q i hi hcond v hv=>?_,hd⟩
 ·rw [Zq h1,List.getElem?_replicate,if_pos (by omega)]
 ·have hno:∀ j,0≤j→j < i→Q5v ops j≠some q:=fun j _ hj hd'=>hL j ((hcond j (by omega) hd').2 hj)
  rw [hr.look (by omega) hi hno] at hv
  exact (hE.get q v hv).mono hdom fun _ _=>rfl
end
section
variable {X:Cx}
theorem Qbi (hX:Q1s X.P X.call) {β:Type} {r:β} {ops:Array Oper} {K:List (Env×Heap)→Env→Heap→Option β}:∀ (l:List Oper) (env:Env) (H:Heap) (tr:List (Env×Heap)),Q5n X ops l env H tr K=some r→Q0o (Bel H.length) env→Ql H.length H →
  ∃ tr' env' H',K tr' env' H'=some r∧Q0o (Bel H'.length) env'∧Ql H'.length H'∧Ab X.lim H H'
 | [],env,H,tr,h,hE,hc=>⟨_,env,H,h,hE,hc,Ab.refl _ _⟩
 | o::l,env,H,tr,h,hE,hc=>by
  unfold Q5n at h
  obtain ⟨t,env1,h,hw⟩:=Q5e (nt:=X.nt) h
  have hE1:=hw.lt _ hE
  cases t with
  | true =>
   simp only at h
   obtain ⟨v,H',h,hF⟩:=Q8s hX h
   obtain ⟨hab,hvl⟩:=Qkk hF hE1 hc
   obtain ⟨env2,h,hp⟩:=Q2x h
   obtain ⟨tr',env',H2,g1,g2,g3,g4⟩:=Qbi hX l env2 H' _ h (Qg5 (hE1.mono (Bel.mono hab.len)) hvl hp) (hab.all hc)
   exact ⟨tr',env',H2,g1,g2,g3,hab.trans g4⟩
  | false =>
   simp only at h
   obtain ⟨env2,h,hp⟩:=Q2x h
   exact Qbi hX l env2 H _ h (Qg5 hE1 (Q7m _) hp) hc
theorem Qyv (hX:Q1s X.P X.call):Qln X:=by
 intro β ops env H K r h hE hc
 unfold Qb7 at h
 split at h
 ·obtain ⟨tr',env',H',h1,h2,h3,h4⟩:=Qbi hX _ _ _ _ h hE hc
  exact ⟨env',H',(Q50 h1).1,h2,h3,h4⟩
 ·simp at h
theorem Qyw (hX:Q1s X.P X.call) (hm:X.P.follows .mixedOrders=true):Qlm X:=by
 intro β id ops env H K r h ι a w hR hE hd Q hQ
 unfold Qb7 at h
 split at h
 ·rename_i hok
  obtain ⟨S,g1,g2,g3,g4,g5⟩:=Q9r hX _ _ _ _ h
  obtain ⟨g6,g7⟩:=Q50 g5
  have hN:ops.toList.length=ops.size:=by simp
  rw [hN] at g3 g6 g7
  have hr:Runs X ops S:=⟨fun k o hk=>g4 k o (by rw [Array.getElem?_toList];exact hk),hok,by rw [g1,g2];exact hE.lt,by rw [g2];exact hR.closed⟩
  have hsts:∀ k,k≤ops.size→((((List.range (ops.size+1)).map fun k=>((S k).env,(S k).H)).reverse++[]).reverse)[k]? = some ((S k).env,(S k).H):=by
   intro k hk
   simp only [List.append_nil,List.reverse_reverse,List.getElem?_map]
   rw [List.getElem?_range (by omega)];rfl
  have hst:Stab X ops S:=by
   intro i o ho hc m hm'
   have hi:=Q6n ho
   have hmle:m≤ops.size:=by
    unfold Q4t at hm'
    simp only [List.mem_cons,List.mem_map] at hm'
    rcases hm' with e | ⟨e,he,rfl⟩
    ·split at e
     ·rename_i e' r hrev
      have:e'∈(((List.range ops.size).filter fun e=>Nat.beq (Q08 X.P ops e) 3).filter fun e=>Q3l (Region.before ops) i e):=by
       rw [← List.mem_reverse,hrev];simp
      simp only [List.mem_filter,List.mem_range] at this
      omega
     ·omega
    ·simp only [List.mem_filter,List.mem_range] at he
     omega
   rcases g7 i (by simp;exact hi) hc o ho m hm' with hq | ⟨s,q,hs,hq,hrd⟩
   ·rcases Bool.or_eq_true_iff.1 hq with hq | hq
    rotate_left
    ·right
     unfold Q6a at hq
     split at hq
     ·rename_i t ht
      simp only [List.any_eq_true,List.mem_range,Z8,List.all_eq_true,Bool.or_eq_true,Bool.not_eq_true'] at hq
      obtain ⟨k,hki,⟨⟨⟨h1,h2⟩,h3⟩,h4⟩,h6⟩:=hq
      cases hok:ops[k]? with
      | none=>rw [hok] at h4;simp at h4
      | some ok =>
       rw [hok] at h4
       simp only [Z8,Option.isNone_iff_eq_none] at h4
       obtain ⟨h4,h5⟩:=h4
       cases hd:ok.dst with
       | none=>rw [hd] at h5;simp at h5
       | some d =>
        rw [hd] at h5
        have h5:=Z7 h5
        refine ⟨t,k,ok,ht,Zi h1,hki,h2,Z7 h3,hok,h4,by rw [hd,h5],fun j hj1 hj2=>?_⟩
        rcases h6 j hj2 with h7 | ⟨h7,h8⟩
        ·have:=Zi h7;omega
        ·refine ⟨fun hj3=>?_,fun hj3=>?_⟩
         ·rw [hj3] at h7;simp at h7
         ·unfold Q5v at hj3;rw [hj3] at h8;simp at h8
     ·simp at hq
    left
    have hquiet:∀ k,min m i≤k→k < max m i→Q08 X.P ops k < 2:=by
     intro k h1 h2
     by_cases hk:k < ops.size
     ·unfold Q21 at hq
      simp only [List.all_eq_true,List.mem_range] at hq
      have:=hq k hk
      have e1:Nat.ble (min m i) k=true:=Nat.ble_eq_true_of_le h1
      have e2:Nat.blt k (max m i)=true:=by simp [Nat.blt];omega
      rw [e1,e2] at this
      simp only [Bool.and_self,Zl,Bool.false_or] at this
      have h3:Q08 X.P ops k+1≤2:=by simpa [Nat.blt] using this
      omega
     ·rw [Qsx hk];omega
    have hH:(S m).H=(S i).H:=by
     rcases Nat.le_total m i with hle | hle
     ·exact (hr.const (lo:=m) (hi:=i) hle (by omega) (fun k h1 h2=>hquiet k (by omega) (by omega))).symm
     ·exact hr.const (lo:=i) (hi:=m) hle hmle (fun k h1 h2=>hquiet k (by omega) (by omega))
    rw [hH]
   ·rw [hsts i (by omega)] at hs
    rw [hsts m hmle] at hq
    simp at hs hq
    subst hs;subst hq
    exact .inl hrd
  refine wp_region_any hm ?_
  have hR':Rel ι (Bel (S 0).H.length) (S 0).H { w with drawn:=w.drawn+1 }:=by rw [g2];exact hR.same_heap rfl
  have hE':ERel ι (Bel (S 0).H.length) X.nt (S 0).inn a:=by rw [g1,g2];exact hE
  have hstart:=Qpz hr hR' hE' hd
  refine Qhz hr hst (Q:=Q) ?_ ops.size _ _ _ _ _ _ (by simp) (by simp) hstart
  intro ι' a' w' h1 h2 h3 h4 h5
  refine hQ (S ops.size).inn ι' (S ops.size).H a' w' h1 h2 ?_ (by rw [← g2];exact h4) h5 g6
  rw [g2] at h3
  exact ((Fr.refl ι H w).same_heap (w'':={ w with drawn:=w.drawn+1 }) rfl rfl rfl rfl).trans h3
 ·simp at h
end
theorem Qq0 {P:Program} {A:Ann} (hm:P.follows .mixedOrders=true) (hA:Qsu P A) (d:Nat):Q1s P (run P A d) :=
 Quq hA (fun X hP hc=>⟨Qyw (by rw [hP];exact hc) (by rw [hP];exact hm),Qyv (by rw [hP];exact hc)⟩) d
end Go.Ev
