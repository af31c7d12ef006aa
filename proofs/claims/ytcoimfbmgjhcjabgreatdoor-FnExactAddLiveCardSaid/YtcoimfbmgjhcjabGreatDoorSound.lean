/-
  The end of a call: its results, and the blocks that stay. And what stood behind it in 4 texts.
  Conditions: said at the theorems.
-/
import Derived.Test.YtcoimfbmgjhcjabGreatDoorCode
set_option linter.unusedVariables false
set_option linter.unusedSimpArgs false
namespace Go.Ev
section
variable {P:Program} {nt:Nat} {env:Env} {H:af}
theorem WX {ι:Io} {D:Nat->Prop} {a:Act} {w:World} (hR:Rel ι D H w) (hE:bt ι D nt env a):∀ {l:List ResultVar} {vs:List Value},iJ P env H l=some vs ->
  ∃ cs:List Value,aZ ι D vs cs/\(l.mapM fun (x:ResultVar)=>(match x with | .tmp t=>pure (a.tmps.getD t undef) | .cell b t=>do loadVar t (<- asAddr (a.tmps.getD b undef)):Sem Value)).run P w=.ok cs w
 | [],vs,h=>by simp [iJ] at h;subst h;exact ⟨[],aZ.nil _ _,by simp⟩
 | .tmp t::l,vs,h=>by
  simp only [iJ] at h
  replace h:=Q2 h;obtain ⟨v,hv,h⟩:=h
  replace h:=Q2 h;obtain ⟨r,hr,h⟩:=h
  simp at h;subst h
  obtain ⟨cs,h1,h2⟩:=WX hR hE hr
  refine ⟨_,aZ.cons (hE.get t v hv) h1,?_⟩
  simp only [List.mapM_cons,Sem.run_bind,Sem.run_pure,Result.andThen_ok,h2]
 | .cell b t::l,vs,h=>by
  simp only [iJ] at h
  replace h:=Q2 h;obtain ⟨v,hv,h⟩:=h
  split at h
  .rename_i p
   have hp:=(hE.get b _ hv).dH.1
   have WY:(asAddr (a.tmps.getD b undef)).run P w=.ok (ι.addr p) w:=by rw [hp];rfl
   replace h:=Q2 h;obtain ⟨i,hi,h⟩:=h
   have key:∀ (u:Value) (c:Value) (r:List Value),iJ P env H l=some r->vs=u::r->ay ι D u c->(loadVar t (ι.addr p)).run P w=.ok c w->∃ cs:List Value,aZ ι D vs cs /\
     ((ResultVar.cell b t::l).mapM fun (x:ResultVar)=>(match x with | .tmp t=>pure (a.tmps.getD t undef) | .cell b t=>do loadVar t (<- asAddr (a.tmps.getD b undef)):Sem Value)).run P w=.ok cs w:=by
    intro u c r hr e hu hl
    subst e
    obtain ⟨cs,h1,h2⟩:=WX hR hE hr
    refine ⟨c::cs,aZ.cons hu h1,?_⟩
    simp only [List.mapM_cons,Sem.run_bind,Sem.run_pure,Result.andThen_ok,WY,hl,h2]
   have nB:∀ (d:TypeDesc) (l' r:List Value),P.underlying t=some d->((∃ fs,d=.struct fs)\/∃ n e,d=.array n e)->Qx H p i.size=some l'->iJ P env H l=some r->vs=.agg l'.toArray::r->∃ cs:List Value,aZ ι D vs cs /\
     ((ResultVar.cell b t::l).mapM fun (x:ResultVar)=>(match x with | .tmp t=>pure (a.tmps.getD t undef) | .cell b t=>do loadVar t (<- asAddr (a.tmps.getD b undef)):Sem Value)).run P w=.ok cs w:=by
    intro d l' r hu hd hl hr e
    obtain ⟨cs,h1,h2,h3,h4⟩:=hR.wS hl
    have aT:=run_loadCells_list (P:=P) w (ι.addr p) cs h3
    rw [h1] at aT
    have ha:(isAgg t).run P w=.ok true w:=by
     rcases hd with ⟨fs,rfl⟩ | ⟨n,e,rfl⟩<;>simp [isAgg,run_underlying hu]
    exact key _ (.agg cs.toArray) r hr e (aZ.b_ h2) (by simp only [loadVar,Sem.run_bind,ha,Result.andThen_ok,if_true,sizeOf,typeInfo,run_program,hi,Sem.run_pure,aT])
   split at h
   .rename_i fs hu
    replace h:=Q2 h;obtain ⟨l',hl,h⟩:=h
    replace h:=Q2 h;obtain ⟨r,hr,h⟩:=h
    simp at h
    exact nB _ l' r hu (.inl ⟨_,rfl⟩) hl hr h.symm
   .rename_i n e hu
    replace h:=Q2 h;obtain ⟨l',hl,h⟩:=h
    replace h:=Q2 h;obtain ⟨r,hr,h⟩:=h
    simp at h
    exact nB _ l' r hu (.inr ⟨_,_,rfl⟩) hl hr h.symm
   .rename_i d n1 n2 hu
    replace h:=Q2 h;obtain ⟨u,hl,h⟩:=h
    replace h:=Q2 h;obtain ⟨r,hr,h⟩:=h
    simp at h
    obtain ⟨c,h1,h2,h3⟩:=hR.load hl
    have ha:(isAgg t).run P w=.ok false w:=by
     simp only [isAgg,Sem.run_bind,run_underlying hu,Result.andThen_ok]
     cases d<;>first | rfl | exact absurd rfl (n1 _) | exact absurd rfl (n2 _ _)
    exact key u c r hr h.symm h2 (by simp only [loadVar,Sem.run_bind,ha,Result.andThen_ok,Bool.false_eq_true,if_false,run_load,h1])
   .simp at h
  .simp at h
theorem Na:∀ {l:List ResultVar} {vs:List Value},iJ P env H l=some vs->dM (aL H.length) env->Qm H.length H->gT (aL H.length) vs
 | [],vs,h,_,_=>by simp [iJ] at h;subst h;intro v hv;simp at hv
 | .tmp t::l,vs,h,hE,hc=>by
  simp only [iJ] at h
  replace h:=Q2 h;obtain ⟨v,hv,h⟩:=h
  replace h:=Q2 h;obtain ⟨r,hr,h⟩:=h
  simp at h;subst h
  intro u hu
  rcases Z2 hu with rfl | hu
  .exact hE t _ hv
  .exact Na hr hE hc u hu
 | .cell b t::l,vs,h,hE,hc=>by
  simp only [iJ] at h
  replace h:=Q2 h;obtain ⟨v,hv,h⟩:=h
  split at h
  .rename_i p
   replace h:=Q2 h;obtain ⟨i,hi,h⟩:=h
   split at h
   .replace h:=Q2 h;obtain ⟨l',hl,h⟩:=h
    replace h:=Q2 h;obtain ⟨r,hr,h⟩:=h
    simp at h;subst h
    intro u hu
    rcases Z2 hu with rfl | hu
    .exact bK.b_ (Oz hl hc)
    .exact Na hr hE hc u hu
   .replace h:=Q2 h;obtain ⟨l',hl,h⟩:=h
    replace h:=Q2 h;obtain ⟨r,hr,h⟩:=h
    simp at h;subst h
    intro u hu
    rcases Z2 hu with rfl | hu
    .exact bK.b_ (Oz hl hc)
    .exact Na hr hE hc u hu
   .replace h:=Q2 h;obtain ⟨l',hl,h⟩:=h
    replace h:=Q2 h;obtain ⟨r,hr,h⟩:=h
    simp at h;subst h
    intro u hu
    rcases Z2 hu with rfl | hu
    .exact Y3 hl hc
    .exact Na hr hE hc u hu
   .simp at h
  .simp at h
theorem WZ:∀ {l:List Nat} {b j:Nat},EL l b=some j->l[j]? = some b
 | [],b,j,h=>by simp [EL] at h
 | x::l,b,j,h=>by
  unfold EL at h
  split at h
  .rename_i e;simp at h;subst h;simp [e]
  .replace h:=Q2 h;obtain ⟨i,hi,h⟩:=h
   simp at h;subst h
   simpa using WZ hi
theorem Qdp:∀ {l:List Nat} {b:Nat},EL l b=none->b∉l
 | [],b,h=>by simp
 | x::l,b,h=>by
  unfold EL at h
  split at h
  .simp at h
  .rename_i e
   cases hp:EL l b with
   | some i=>rw [hp] at h;simp [Q1] at h
   | none =>
    have:=Qdp hp
    simp only [List.mem_cons,not_or]
    exact ⟨fun h=>e h.symm,this⟩
structure mR (base:Nat) (H:af) (olds:List Nat):Prop where
 nodup:olds.Nodup
 aJ:∀ b∈olds,base<=b/\∃ k,ah H b=some k/\k.cells.all (PK base)=true
def Io.mv (ι:Io) (base:Nat) (olds:List Nat):Io:=fun x=>if x < base then ι x else match olds[x - base]? with | some b=>ι b | none=>ι x
theorem Io.fT (ι:Io) {base x:Nat} (olds:List Nat) (h:x < base):ι.mv base olds x=ι x:=by simp [Io.mv,h]
theorem Io.gK (ι:Io) {base j b:Nat} {olds:List Nat} (h:olds[j]? = some b):ι.mv base olds (base+j)=ι b:=by
 simp only [Io.mv,show ¬ (base+j < base) by omega,if_false,show base+j - base=j by omega,h]
theorem Qdq {base:Nat} {olds aP:List Nat} {b x:Nat} (h:JQ base H olds b=some (x,aP)) (ho:mR base H olds) :
  mR base H aP/\olds <+: aP/\∀ (ι:Io) (fin:List Nat),aP <+: fin->ι.mv base fin x=ι b/\x < base+fin.length:=by
 unfold JQ at h
 split at h
 .rename_i hb
  simp at h;obtain ⟨rfl,rfl⟩:=h
  exact ⟨ho,List.prefix_refl _,fun ι fin _=>⟨Io.fT ι fin hb,by omega⟩⟩
 .rename_i hb
  split at h
  .rename_i j hj
   simp at h;obtain ⟨rfl,rfl⟩:=h
   refine ⟨ho,List.prefix_refl _,fun ι fin hp=>?_⟩
   have J1:=WZ hj
   obtain ⟨t,rfl⟩:=hp
   have au:j < olds.length:=(Z0 J1).1
   refine ⟨Io.gK ι (by rw [List.getElem?_append_left au];exact J1),by simp;omega⟩
  .rename_i hj
   replace h:=Q2 h;obtain ⟨k,hk,h⟩:=h
   split at h
   .rename_i hl
    simp at h;obtain ⟨rfl,rfl⟩:=h
    refine ⟨⟨?_,?_⟩,List.prefix_append _ _,fun ι fin hp=>?_⟩
    .rw [Zn]
     refine ⟨ho.nodup,by simp,?_⟩
     intro y hy z hz
     simp at hz;subst hz
     exact fun e=>Qdp hj (e▸hy)
    .intro y hy
     rcases List.mem_append.1 hy with hy | hy
     .exact ho.aJ y hy
     .simp at hy;subst hy;exact ⟨by omega,k,hk,hl⟩
    .obtain ⟨t,rfl⟩:=hp
     exact ⟨Io.gK ι (by simp),by simp⟩
   .simp at h
theorem Qtn {v c:Value} (hl:Qu v=true) {ι:Io} {D:Nat->Prop} (hv:ay ι D v c) (ι':Io) (E:Nat->Prop):ay ι' E v c :=
 ay.mono (ι:=ι') (D:=fun _=>False) (hv.re (tw hl _) fun _ _ h=>h.elim) (fun _ h=>h.elim) (fun _ h=>h.elim)
structure W0 (base:Nat) (H:af) (olds aP:List Nat) (v v':Value):Prop where
 ok:mR base H aP
 pre:olds <+: aP
 rel:∀ (ι:Io) (D:Nat->Prop) (fin:List Nat) (c:Value),aP <+: fin->ay ι D v c->ay (ι.mv base fin) (aL (base+fin.length)) v' c
theorem Qi7 {base:Nat} {olds aP:List Nat} {v v':Value} (h:CT base H olds v=some (v',aP)) (ho:mR base H olds):W0 base H olds aP v v':=by
 unfold CT at h
 split at h
 .rename_i a
  replace h:=Q2 h;obtain ⟨⟨x,o'⟩,hb,h⟩:=h
  simp at h;obtain ⟨rfl,rfl⟩:=h
  obtain ⟨h1,h2,h3⟩:=Qdq hb ho
  refine ⟨h1,h2,fun ι D fin c hp hv=>?_⟩
  obtain ⟨e,hD⟩:=hv.dH
  obtain ⟨g1,g2⟩:=h3 ι fin hp
  have:=ay.ptr (ι:=ι.mv base fin) (D:=aL (base+fin.length)) ⟨x,a.off,none⟩ g2
  rw [e]
  simp only [Io.addr] at this ⊢
  rw [g1] at this
  exact this
 .rename_i a n c
  replace h:=Q2 h;obtain ⟨⟨x,o'⟩,hb,h⟩:=h
  simp at h;obtain ⟨rfl,rfl⟩:=h
  obtain ⟨h1,h2,h3⟩:=Qdq hb ho
  refine ⟨h1,h2,fun ι D fin c hp hv=>?_⟩
  obtain ⟨g1,g2⟩:=h3 ι fin hp
  cases hv with
  | fj _ _ _ cap hD hl hc =>
   have:=ay.fj (ι:=ι.mv base fin) (D:=aL (base+fin.length)) ⟨x,a.off,none⟩ n _ cap g2 hl (by simp only [g1];exact hc)
   simp only [Io.addr] at this ⊢
   rw [g1] at this
   exact this
  | bD _ b _ hD=>exact .bD _ _ _ g2
 .split at h
  .rename_i hl
   simp at h;obtain ⟨rfl,rfl⟩:=h
   exact ⟨ho,List.prefix_refl _,fun ι D fin c hp hv=>Qtn hl hv _ _⟩
  .simp at h
structure AO (base:Nat) (H:af) (olds aP:List Nat) (vs cy:List Value):Prop where
 ok:mR base H aP
 pre:olds <+: aP
 rel:∀ (ι:Io) (D:Nat->Prop) (fin:List Nat) (cs:List Value),aP <+: fin->aZ ι D vs cs->aZ (ι.mv base fin) (aL (base+fin.length)) cy cs
theorem AO.nil {base:Nat} {olds:List Nat} (ho:mR base H olds):AO base H olds olds [] [] :=
 ⟨ho,List.prefix_refl _,fun ι D fin cs _ h=>by
  have:cs=[]:=Z1 (by have:=h.1;simpa using this.symm)
  subst this;exact aZ.nil _ _⟩
theorem AO.cons {base:Nat} {o1 o2 o3:List Nat} {v v':Value} {vs cy:List Value} (h:W0 base H o1 o2 v v') (g:AO base H o2 o3 vs cy):AO base H o1 o3 (v::vs) (v'::cy) :=
 ⟨g.ok,h.pre.trans g.pre,fun ι D fin cs hp hl=>by
  cases cs with
  | nil=>exact absurd hl.1 (by simp)
  | cons c cs=>exact aZ.cons (h.rel ι D fin c (g.pre.trans hp) hl.head) (g.rel ι D fin cs hp hl.tail)⟩
theorem Qbr {base:Nat}:∀ {vs cy:List Value} {olds aP:List Nat},BG base H olds vs=some (cy,aP)->mR base H olds->AO base H olds aP vs cy
 | [],cy,olds,aP,h,ho=>by simp [BG] at h;obtain ⟨rfl,rfl⟩:=h;exact AO.nil ho
 | v::vs,cy,olds,aP,h,ho=>by
  simp only [BG] at h
  replace h:=Q2 h;obtain ⟨⟨x,o1⟩,h1,h⟩:=h
  replace h:=Q2 h;obtain ⟨⟨y,o2⟩,h2,h⟩:=h
  simp at h;obtain ⟨rfl,rfl⟩:=h
  have g1:=Qi7 h1 ho
  exact AO.cons g1 (Qbr h2 g1.ok)
theorem Qto {base:Nat} {olds aP:List Nat} {v v':Value} (h:JR base H olds v=some (v',aP)) (ho:mR base H olds):W0 base H olds aP v v':=by
 unfold JR at h
 split at h
 .rename_i cs
  replace h:=Q2 h;obtain ⟨⟨x,o1⟩,h1,h⟩:=h
  simp at h;obtain ⟨rfl,rfl⟩:=h
  have g:=Qbr h1 ho
  refine ⟨g.ok,g.pre,fun ι D fin c hp hv=>?_⟩
  obtain ⟨ys,rfl,hl⟩:=hv.eP
  exact aZ.b_ (xs:=x.toArray) (g.rel ι D fin _ hp hl)
 .exact Qi7 h ho
theorem W1 {base:Nat}:∀ {vs cy:List Value} {olds aP:List Nat},wK base H olds vs=some (cy,aP)->mR base H olds->AO base H olds aP vs cy
 | [],cy,olds,aP,h,ho=>by simp [wK] at h;obtain ⟨rfl,rfl⟩:=h;exact AO.nil ho
 | v::vs,cy,olds,aP,h,ho=>by
  simp only [wK] at h
  replace h:=Q2 h;obtain ⟨⟨x,o1⟩,h1,h⟩:=h
  replace h:=Q2 h;obtain ⟨⟨y,o2⟩,h2,h⟩:=h
  simp at h;obtain ⟨rfl,rfl⟩:=h
  have g1:=Qto h1 ho
  exact AO.cons g1 (W1 h2 g1.ok)
theorem Da {base:Nat} {olds:List Nat} (hb:base<=H.length) {x:Nat} {k:bx} (h:ah (H.take base++olds.map (ah H)) x=some k) :
  (x < base/\ah H x=some k)\/∃ j b,x=base+j/\olds[j]? = some b/\ah H b=some k:=by
 have hlen:(H.take base).length=base:=by simp;omega
 by_cases hx:x < base
 .rw [FB (by omega),Qq9 hx] at h;exact .inl ⟨hx,h⟩
 .right
  unfold ah at h
  rw [Zq (by omega),hlen,List.getElem?_map] at h
  cases ho:olds[x - base]? with
  | none=>rw [ho] at h;simp at h
  | some b =>
   rw [ho] at h
   simp only [Option.map_some] at h
   refine ⟨x - base,b,by omega,ho,?_⟩
   split at h
   .rename_i k' he
    simp at h he;subst h;exact he
   .simp at h
theorem Qnv {ι₀ ι:Io} {H₀:af} {w₀ w:World} {vs cy cs:List Value} {olds:List Nat} (hR:Rel ι (aL H.length) H w) (hF:Fr ι₀ H₀ w₀ ι H w) (fE:Qm H₀.length H) (hm:wK H₀.length H [] vs=some (cy,olds)) (hl:aZ ι (aL H.length) vs cs) :
  Rel (ι.mv H₀.length olds) (aL (H.take H₀.length++olds.map (ah H)).length) (H.take H₀.length++olds.map (ah H)) w/\Fr ι₀ H₀ w₀ (ι.mv H₀.length olds) (H.take H₀.length++olds.map (ah H)) w /\
  aZ (ι.mv H₀.length olds) (aL (H.take H₀.length++olds.map (ah H)).length) cy cs:=by
 have dm:=W1 hm ⟨List.nodup_nil,by simp⟩
 have hlen:(H.take H₀.length++olds.map (ah H)).length=H₀.length+olds.length:=by simp;have:=hF.len;omega
 have fq:∀ {b:Nat} {k:bx},ah H b=some k->(b < H₀.length\/b∈olds)->∀ v∈k.cells,bK (aL H₀.length) v:=by
  intro b k hk hb v hv
  rcases hb with hb | hb
  .exact fE b hb k hk v hv
  .obtain ⟨_,k',de,hall⟩:=dm.ok.aJ b hb
   rw [hk] at de;simp at de;subst de
   exact Qhv (Z3 hall v hv)
 have o7:∀ {v c:Value},bK (aL H₀.length) v->ay ι (aL H.length) v c->ay (ι.mv H₀.length olds) (aL (H₀.length+olds.length)) v c:=by
  intro v c hv hr
  exact ay.mono (hr.re (ι':=ι) hv fun _ _ _=>rfl) (aL.mono (by omega)) fun b hb=>Io.fT ι olds hb
 rw [hlen]
 refine ⟨⟨fun x k hx=>?_,fun x x' k k' hx mW aU bn=>?_,fun x k hx hr=>(by
  rcases Da hF.len hx with ⟨h1,h2⟩ | ⟨j,b,rfl,h1,h2⟩
  .rw [Io.fT ι olds h1];exact hR.iy x k h2 hr
  .rw [Io.gK ι h1];exact hR.iy b k h2 hr),hR.gw⟩,⟨by rw [hlen];omega,fun b hb=>by rw [Io.fT ι olds hb];exact hF.io b hb,hF.os,hF.tape,hF.output,hF.size,hF.frame,fun x k hx hr=>?_,fun x k hx hr=>?_⟩,dm.rel ι _ olds cs (List.prefix_refl _) hl⟩
 .rcases Da hF.len hx with ⟨h1,h2⟩ | ⟨j,b,rfl,h1,h2⟩
  .exact (hR.aJ x k h2).bw rfl (Io.fT ι olds h1) fun i hi c hr=>o7 (fq h2 (.inl h1) _ (List.getElem_mem hi)) hr
  .exact (hR.aJ b k h2).bw rfl (Io.gK ι h1) fun i hi c hr=>o7 (fq h2 (.inr (Zc h1)) _ (List.getElem_mem hi)) hr
 .rcases Da hF.len hx with ⟨h1,h2⟩ | ⟨j,b,rfl,h1,h2⟩
  .rcases Da hF.len mW with ⟨g1,g2⟩ | ⟨j',b',rfl,g1,g2⟩
   .rw [Io.fT ι olds h1,Io.fT ι olds g1];exact hR.inj x x' k k' h2 g2 aU bn
   .rw [Io.fT ι olds h1,Io.gK ι g1]
    have:=(dm.ok.aJ b' (Zc g1)).1
    exact hR.inj x b' k k' h2 g2 (by omega) bn
  .rcases Da hF.len mW with ⟨g1,g2⟩ | ⟨j',b',rfl,g1,g2⟩
   .rw [Io.gK ι h1,Io.fT ι olds g1]
    have:=(dm.ok.aJ b (Zc h1)).1
    exact hR.inj b x' k k' h2 g2 (by omega) bn
   .rw [Io.gK ι h1,Io.gK ι g1]
    refine hR.inj b b' k k' h2 g2 (fun e=>aU ?_) bn
    subst e
    have hj:=(Z0 h1)
    have J1:=(Z0 g1)
    obtain ⟨q1,q2⟩:=hj
    obtain ⟨q3,q4⟩:=J1
    have hnd:=List.pairwise_iff_getElem.1 dm.ok.nodup
    rcases Nat.lt_trichotomy j j' with hl | hl | hl
    .exact absurd (q2.trans q4.symm) (hnd j j' q1 q3 hl)
    .omega
    .exact absurd (q4.trans q2.symm) (hnd j' j q3 q1 hl)
 .rcases Da hF.len hx with ⟨h1,h2⟩ | ⟨j,b,rfl,h1,h2⟩
  .rw [Io.fT ι olds h1];exact hF.new x k h2 hr
  .rw [Io.gK ι h1];exact hF.new b k h2 hr
 .rcases Da hF.len hx with ⟨h1,h2⟩ | ⟨j,b,rfl,h1,h2⟩
  .exact hF.ro x k h2 hr
  .have:=Qt (hF.ro b k h2 hr)
   have:=(dm.ok.aJ b (Zc h1)).1
   omega
theorem Qdr {base:Nat} {olds aP:List Nat} {b x:Nat} (h:JQ base H olds b=some (x,aP)):olds <+: aP/\∀ fin:List Nat,aP <+: fin->x < base+fin.length:=by
 unfold JQ at h
 split at h
 .simp at h;obtain ⟨rfl,rfl⟩:=h;exact ⟨List.prefix_refl _,fun fin _=>by omega⟩
 .split at h
  .rename_i j hj
   simp at h;obtain ⟨rfl,rfl⟩:=h
   refine ⟨List.prefix_refl _,fun fin hp=>?_⟩
   have au:=(Z0 (WZ hj)).1
   have:=hp.length_le
   omega
  .replace h:=Q2 h;obtain ⟨k,hk,h⟩:=h
   split at h
   .simp at h;obtain ⟨rfl,rfl⟩:=h
    refine ⟨List.prefix_append _ _,fun fin hp=>?_⟩
    have:=hp.length_le
    simp at this;omega
   .simp at h
theorem Qi8 {base:Nat} {olds aP:List Nat} {v v':Value} (h:CT base H olds v=some (v',aP)):olds <+: aP/\∀ fin:List Nat,aP <+: fin->bK (aL (base+fin.length)) v':=by
 unfold CT at h
 split at h
 .replace h:=Q2 h;obtain ⟨⟨x,o'⟩,hb,h⟩:=h
  simp at h;obtain ⟨rfl,rfl⟩:=h
  obtain ⟨g1,g2⟩:=Qdr hb
  exact ⟨g1,fun fin hp=>.ptr _ (g2 fin hp)⟩
 .replace h:=Q2 h;obtain ⟨⟨x,o'⟩,hb,h⟩:=h
  simp at h;obtain ⟨rfl,rfl⟩:=h
  obtain ⟨g1,g2⟩:=Qdr hb
  exact ⟨g1,fun fin hp=>.sl _ _ _ (g2 fin hp)⟩
 .split at h
  .rename_i hl
   simp at h;obtain ⟨rfl,rfl⟩:=h
   exact ⟨List.prefix_refl _,fun fin _=>tw hl _⟩
  .simp at h
theorem Qbt {base:Nat}:∀ {vs cy:List Value} {olds aP:List Nat},BG base H olds vs=some (cy,aP)->olds <+: aP/\∀ fin:List Nat,aP <+: fin->gT (aL (base+fin.length)) cy
 | [],cy,olds,aP,h=>by simp [BG] at h;obtain ⟨rfl,rfl⟩:=h;exact ⟨List.prefix_refl _,fun _ _ v hv=>by simp at hv⟩
 | v::vs,cy,olds,aP,h=>by
  simp only [BG] at h
  replace h:=Q2 h;obtain ⟨⟨x,o1⟩,h1,h⟩:=h
  replace h:=Q2 h;obtain ⟨⟨y,o2⟩,h2,h⟩:=h
  simp at h;obtain ⟨rfl,rfl⟩:=h
  obtain ⟨g1,g2⟩:=Qi8 h1
  obtain ⟨g3,g4⟩:=Qbt h2
  refine ⟨g1.trans g3,fun fin hp u hu=>?_⟩
  rcases Z2 hu with rfl | hu
  .exact g2 fin (g3.trans hp)
  .exact g4 fin hp u hu
theorem Qi9 {base:Nat}:∀ {vs cy:List Value} {olds aP:List Nat},wK base H olds vs=some (cy,aP)->olds <+: aP/\∀ fin:List Nat,aP <+: fin->gT (aL (base+fin.length)) cy
 | [],cy,olds,aP,h=>by simp [wK] at h;obtain ⟨rfl,rfl⟩:=h;exact ⟨List.prefix_refl _,fun _ _ v hv=>by simp at hv⟩
 | v::vs,cy,olds,aP,h=>by
  simp only [wK] at h
  replace h:=Q2 h;obtain ⟨⟨x,o1⟩,h1,h⟩:=h
  replace h:=Q2 h;obtain ⟨⟨y,o2⟩,h2,h⟩:=h
  simp at h;obtain ⟨rfl,rfl⟩:=h
  have g12:olds <+: o1/\∀ fin:List Nat,o1 <+: fin->bK (aL (base+fin.length)) x:=by
   unfold JR at h1
   split at h1
   .replace h1:=Q2 h1;obtain ⟨⟨z,o3⟩,h3,h1⟩:=h1
    simp at h1;obtain ⟨rfl,rfl⟩:=h1
    obtain ⟨k1,k2⟩:=Qbt h3
    exact ⟨k1,fun fin hp=>bK.b_ (k2 fin hp)⟩
   .exact Qi8 h1
  obtain ⟨g3,g4⟩:=Qi9 h2
  refine ⟨g12.1.trans g3,fun fin hp u hu=>?_⟩
  rcases Z2 hu with rfl | hu
  .exact g12.2 fin (g3.trans hp)
  .exact g4 fin hp u hu
theorem Qqp {ai:Nat} {H₀:af} {vs cy:List Value} {olds:List Nat} (ha:Ab H₀.length H₀ H) (hc₀:Qm H₀.length H₀) (hm:wK H₀.length H [] vs=some (cy,olds)) :
  Ab ai H₀ (H.take H₀.length++olds.map (ah H))/\gT (aL (H.take H₀.length++olds.map (ah H)).length) cy:=by
 have dm:=W1 hm ⟨List.nodup_nil,by simp⟩
 have hlen:(H.take H₀.length++olds.map (ah H)).length=H₀.length+olds.length:=by simp;have:=ha.len;omega
 have fE:=ha.closed H₀.length (Zd _) (Zd _) hc₀
 refine ⟨⟨by rw [hlen];omega,fun _=>?_,fun m _ aE hcm=>?_⟩,?_⟩
 .rw [hlen]
  intro x _ k hx v hv
  rcases Da ha.len hx with ⟨h1,h2⟩ | ⟨j,b,rfl,h1,h2⟩
  .exact (fE x h1 k h2 v hv).mono (aL.mono (by omega))
  .obtain ⟨_,k',de,hall⟩:=dm.ok.aJ b (Zc h1)
   rw [h2] at de;simp at de;subst de
   exact (Qhv (Z3 hall v hv)).mono (aL.mono (by omega))
 .intro x mW k hx v hv
  rcases Da ha.len hx with ⟨h1,h2⟩ | ⟨j,b,rfl,h1,h2⟩
  .exact ha.closed m aE aE hcm x mW k h2 v hv
  .omega
 .rw [hlen];exact (Qi9 hm).2 olds (List.prefix_refl _)
end
theorem Qia {P:Program} {c:Code} {Q:Exit->Act->World->Prop} {a:Act} {w:World} (I:Nat->Act->World->Prop) {n:Nat} (h₀:I n a w)
  (round:∀ n a w,I n a w->c.wp P (Exit.then (fun a' w'=>∃ n',n' < n/\I n' a' w') Q) a w):(Code.loop c).wp P Q a w:=by
 intro b k cs
 have key:∀ n a w,I n a w->∃ e a' w',Q e a' w'/\Arrives P (lone (b.at a (.code c::.inLoop c::k)) cs w) b k cs e a' w':=by
  intro n
  induction n using Nat.strongRecOn with
  | _ n ih =>
   intro a w hI
   obtain ⟨e,a₁,w₁,hq,jW⟩:=round n a w hI b (.inLoop c::k) cs
   cases e with
   | normal =>
    obtain ⟨n',au,hI₁⟩:=hq
    obtain ⟨e₂,a₂,w₂,hq₂,Nb⟩:=ih n' au a₁ w₁ hI₁
    exact ⟨e₂,a₂,w₂,hq₂,.of_steps (Steps.trans jW (.one step_inLoop)) Nb⟩
   | exit id=>exact ⟨_,a₁,w₁,hq,.pass (x:=.inLoop c) rfl (fun _ _=>.inl (by simp)) jW⟩
   | goto l=>exact ⟨_,a₁,w₁,hq,.pass (x:=.inLoop c) rfl (fun _ _=>.inl (by simp)) jW⟩
   | ret=>exact ⟨_,a₁,w₁,hq,.pass (x:=.inLoop c) rfl (fun _ _=>.inl (by simp)) jW⟩
   | panic ch=>exact ⟨_,a₁,w₁,hq,.pass (x:=.inLoop c) rfl (fun _ _=>.inl (by simp)) jW⟩
   | outgrown=>exact ⟨_,a₁,w₁,hq,.pass (x:=.inLoop c) rfl (fun _ _=>.inl (by simp)) jW⟩
 obtain ⟨e,a',w',hq,jW⟩:=key n a w h₀
 exact ⟨e,a',w',hq,.of_steps (.one step_loop) jW⟩
def QA (X:Cx):Prop:=∀ (β:Type) (id:Nat) (ops:Array Oper) (env:Env) (H:af) (K:Env->af->Option β) (r:β),HK X ops env H K=some r ->
 ∀ (ι:Io) (a:Act) (w:World),Rel ι (aL H.length) H w->bt ι (aL H.length) X.nt env a->a.defers=[]->∀ Q:Exit->Act->World->Prop,
  (∀ ak ι' H' a' w',Rel ι' (aL H'.length) H' w'->bt ι' (aL H'.length) X.nt ak a'->Fr ι H w ι' H' w'->Ab X.ai H H'->a'.defers=[]->K ak H'=some r->Q .normal a' w')->(Code.region id ops true).wp X.P Q a w
def QB (X:Cx):Prop:=∀ (β:Type) (ops:Array Oper) (env:Env) (H:af) (K:Env->af->Option β) (r:β),HK X ops env H K=some r->dM (aL H.length) env->Qm H.length H ->
  ∃ ak H',K ak H'=some r/\dM (aL H'.length) ak/\Qm H'.length H'/\Ab X.ai H H'
section
variable {X:Cx} {β:Type} {r:β}
def Db:List (Nat×Value)->List Value->Env
 | (s,_)::ks,v::vs=>(s,v)::Db ks vs
 | _,_=>[]
theorem W2:∀ {ks:List (Nat×Value)} {vs:List Value} {K:Env->Option β},BC ks vs K=some r->K (Db ks vs)=some r
 | [],vs,K,h=>by
  unfold BC JL at h
  split at h
  .exact h
  .simp at h
 | (s,t)::ks,vs,K,h=>by
  unfold BC Au at h
  split at h
  .exact W2 (K:=fun env=>K ((s,_)::env)) (KS h)
  .simp at h
theorem W3:∀ {env:Env} {ks:List (Nat×Value)} {vs:List Value},vr env ks=some vs->∀ s v,cU (Db ks vs) s=some v->cU env s=some v
 | env,[],vs,h,s,v,hs=>by simp [vr] at h;subst h;simp [Db,cU] at hs
 | env,(s',t)::ks,vs,h,s,v,hs=>by
  simp only [vr] at h
  replace h:=Q2 h;obtain ⟨u,hu,h⟩:=h
  replace h:=Q2 h;obtain ⟨l,hl,h⟩:=h
  simp at h;subst h
  simp only [Db] at hs
  rw [vu] at hs
  by_cases e:s'=s
  .subst e;simp at hs;subst hs;exact hu
  .simp [e] at hs;exact W3 hl s v hs
theorem bt.zip {ι:Io} {D:Nat->Prop} {nt:Nat} {env:Env} {a:Act} (h:bt ι D nt env a) {ks:List (Nat×Value)} {vs:List Value} (hk:vr env ks=some vs):bt ι D nt (Db ks vs) a :=
 ⟨h.size,fun s v hs=>h.get s v (W3 hk s v hs)⟩
theorem dM.zip {D:Nat->Prop} {env:Env} (h:dM D env) {ks:List (Nat×Value)} {vs:List Value} (hk:vr env ks=some vs):dM D (Db ks vs) :=
 fun s v hs=>h s v (W3 hk s v hs)
theorem Qmh {ι:Io} {D:Nat->Prop} {nt:Nat} {env:Env} {a:Act} {c:Operand} {b:Bool} (h:bt ι D nt env a) (hc:ev env c=some (.bool b)):bt ι D nt (EK c b env) a:=by
 unfold EK
 split
 .exact h.lit hc
 .exact h
theorem Qqq {D:Nat->Prop} {env:Env} {c:Operand} {b:Bool} (h:dM D env):dM D (EK c b env):=by
 unfold EK
 split
 .exact h.put (.bool _)
 .exact h
theorem Il (hX:oX X.P X.call) (hD:QA X):∀ (c:Code) (n:Nat) (env:Env) (H:af) (K:eF->Env->af->Option β),eY X c n env H K=some r ->
  ∀ (ι:Io) (a:Act) (w:World),Rel ι (aL H.length) H w->bt ι (aL H.length) X.nt env a->a.defers=[]->c.wp X.P (K0 X ι H w K r) a w
 | .skip,n,env,H,K,h,ι,a,w,hR,hE,hd=>wp_skip ⟨.normal,env,ι,H,rfl,hR,hE,Fr.refl _ _ _,Ab.refl _ _,hd,h⟩
 | .label l,n,env,H,K,h,ι,a,w,hR,hE,hd=>wp_label ⟨.normal,env,ι,H,rfl,hR,hE,Fr.refl _ _ _,Ab.refl _ _,hd,h⟩
 | .region id ops d,n,env,H,K,h,ι,a,w,hR,hE,hd=>by
  unfold eY at h
  cases d with
  | false =>
   simp only at h
   refine wp_region ?_
   have:=R8 hX (Q:=K0 X ι H w K r) ops.toList 0 env H (fun k=>by simp) (by simp) h ι a w hR hE hd (fun ak ι' H' a' w' h1 h2 h3 h4 h5 h6=>⟨.normal,ak,ι',H',rfl,h1,h2,h3,h4,h5,h6⟩)
   rw [List.range_eq_range']
   simpa using this
  | true=>exact hD β id ops env H (K .normal) r h ι a w hR hE hd _ fun ak ι' H' a' w' h1 h2 h3 h4 h5 h6=>⟨.normal,ak,ι',H',rfl,h1,h2,h3,h4,h5,h6⟩
 | .seq x y,n,env,H,K,h,ι,a,w,hR,hE,hd=>by
  unfold eY at h
  refine wp_seq (wp_mono (Il hX hD x n env H _ h ι a w hR hE hd) ?_)
  rintro ex a' w' ⟨vV,ak,ι',H',rfl,h1,h2,h3,h4,h5,h6⟩
  cases vV with
  | normal =>
   simp only at h6
   exact wp_mono (Il hX hD y _ ak H' K h6 ι' a' w' h1 h2 h5) fun e a2 w2 hg=>hg.later h3 h4
  | exit id=>exact ⟨.exit id,ak,ι',H',rfl,h1,h2,h3,h4,h5,h6⟩
  | ret=>exact ⟨.ret,ak,ι',H',rfl,h1,h2,h3,h4,h5,h6⟩
 | .cond c x y,n,env,H,K,h,ι,a,w,hR,hE,hd=>by
  unfold eY at h
  replace h:=Q2 h;obtain ⟨v,hv,h⟩:=h
  replace h:=RW h;obtain ⟨t,rfl,h⟩:=h
  have hc:=(Qe hE hv).cN
  rcases jI h with ⟨rfl,h⟩ | ⟨rfl,h⟩
  .exact wp_cond_true hc (Il hX hD x _ _ H K h ι a w hR (Qmh hE hv) hd)
  .exact wp_cond_false hc (Il hX hD y _ _ H K h ι a w hR (Qmh hE hv) hd)
 | .block id c,n,env,H,K,h,ι,a,w,hR,hE,hd=>by
  unfold eY at h
  refine wp_block (wp_mono (Il hX hD c n env H _ h ι a w hR hE hd) ?_)
  rintro ex a' w' ⟨vV,ak,ι',H',rfl,h1,h2,h3,h4,h5,h6⟩
  cases vV with
  | normal=>exact ⟨.normal,ak,ι',H',rfl,h1,h2,h3,h4,h5,h6⟩
  | exit Ax =>
   simp only at h6
   simp only [KZ,Exit.inBlock]
   split at h6
   .rename_i e;rw [if_pos (Z7 e)];exact ⟨.normal,ak,ι',H',rfl,h1,h2,h3,h4,h5,h6⟩
   .rename_i e;rw [if_neg (Nat.ne_of_beq_eq_false e)];exact ⟨.exit Ax,ak,ι',H',rfl,h1,h2,h3,h4,h5,h6⟩
  | ret=>exact ⟨.ret,ak,ι',H',rfl,h1,h2,h3,h4,h5,h6⟩
 | .loop c,n,env,H,K,h,ι,a,w,hR,hE,hd=>by
  unfold eY at h
  replace h:=Q2 h;obtain ⟨vs,hv,h⟩:=h
  generalize hF:(fun (again:List Value->af->Option β) vs H=>BC (X.cV n) vs fun env=>eY X c (n+1) env H fun ex ak H'=>match ex with
   | .normal=>Q1 (vr ak (X.cV n)) fun cy=>again cy H'
   | .exit id=>K (.exit id) ak H'
   | .ret=>K .ret ak H')=F at h
  refine Qia (fun k a' w'=>∃ cy ι' H',Rel ι' (aL H'.length) H' w'/\bt ι' (aL H'.length) X.nt (Db (X.cV n) cy) a'/\Fr ι H w ι' H' w'/\Ab X.ai H H'/\a'.defers=[]/\CS F k cy H'=some r) (n:=X.fuel) ?_ ?_
  .exact ⟨vs,ι,H,hR,hE.zip hv,Fr.refl _ _ _,Ab.refl _ _,hd,h⟩
  .rintro k a' w' ⟨cy,ι',H',g1,g2,g3,g4,g5,g6⟩
   cases k with
   | zero=>simp [CS] at g6
   | succ k =>
    simp only [CS] at g6
    rw [<- hF] at g6
    have g7:=W2 g6
    rw [hF] at g7
    refine wp_mono (Il hX hD c (n+1) _ H' _ g7 ι' a' w' g1 g2 g5) ?_
    rintro ex a2 w2 ⟨vV,cc,ι2,H2,rfl,k1,k2,k3,k4,k5,k6⟩
    cases vV with
    | normal =>
     simp only at k6
     replace k6:=Q2 k6;obtain ⟨BN,Jz,k6⟩:=k6
     exact ⟨k,by omega,BN,ι2,H2,k1,k2.zip Jz,g3.trans k3,g4.trans k4,k5,k6⟩
    | exit id=>exact ⟨.exit id,cc,ι2,H2,rfl,k1,k2,g3.trans k3,g4.trans k4,k5,k6⟩
    | ret=>exact ⟨.ret,cc,ι2,H2,rfl,k1,k2,g3.trans k3,g4.trans k4,k5,k6⟩
 | .exit id,n,env,H,K,h,ι,a,w,hR,hE,hd=>wp_exit ⟨.exit id,env,ι,H,rfl,hR,hE,Fr.refl _ _ _,Ab.refl _ _,hd,h⟩
 | .ret,n,env,H,K,h,ι,a,w,hR,hE,hd=>wp_ret ⟨.ret,env,ι,H,rfl,hR,hE,Fr.refl _ _ _,Ab.refl _ _,hd,h⟩
 | .rangeFunc _ _ _ _,n,env,H,K,h,ι,a,w,hR,hE,hd=>by simp [eY] at h
 | .scope _,n,env,H,K,h,ι,a,w,hR,hE,hd=>by simp [eY] at h
 | .goto _,n,env,H,K,h,ι,a,w,hR,hE,hd=>by simp [eY] at h
 | .refuse _,n,env,H,K,h,ι,a,w,hR,hE,hd=>by simp [eY] at h
theorem Im (hX:oX X.P X.call) (hD:QB X):∀ (c:Code) (n:Nat) (env:Env) (H:af) (K:eF->Env->af->Option β),eY X c n env H K=some r->dM (aL H.length) env->Qm H.length H ->
  ∃ ex ak H',K ex ak H'=some r/\dM (aL H'.length) ak/\Qm H'.length H'/\Ab X.ai H H'
 | .skip,n,env,H,K,h,hE,hc=>⟨.normal,env,H,h,hE,hc,Ab.refl _ _⟩
 | .label l,n,env,H,K,h,hE,hc=>⟨.normal,env,H,h,hE,hc,Ab.refl _ _⟩
 | .region id ops d,n,env,H,K,h,hE,hc=>by
  unfold eY at h
  cases d with
  | false=>obtain ⟨e,H',h1,h2⟩:=R_ hX ops.toList env H h hE hc;exact ⟨.normal,e,H',h1,h2⟩
  | true=>obtain ⟨e,H',h1,h2⟩:=hD β ops env H _ r h hE hc;exact ⟨.normal,e,H',h1,h2⟩
 | .seq x y,n,env,H,K,h,hE,hc=>by
  unfold eY at h
  obtain ⟨ex,e,H',h1,h2,h3,h4⟩:=Im hX hD x n env H _ h hE hc
  cases ex with
  | normal =>
   obtain ⟨ex,e',H2,g1,g2,g3,g4⟩:=Im hX hD y _ e H' K h1 h2 h3
   exact ⟨ex,e',H2,g1,g2,g3,h4.trans g4⟩
  | exit id=>exact ⟨_,e,H',h1,h2,h3,h4⟩
  | ret=>exact ⟨_,e,H',h1,h2,h3,h4⟩
 | .cond c x y,n,env,H,K,h,hE,hc=>by
  unfold eY at h
  replace h:=Q2 h;obtain ⟨v,hv,h⟩:=h
  replace h:=RW h;obtain ⟨t,rfl,h⟩:=h
  rcases jI h with ⟨rfl,h⟩ | ⟨rfl,h⟩
  .exact Im hX hD x _ _ H K h (Qqq hE) hc
  .exact Im hX hD y _ _ H K h (Qqq hE) hc
 | .block id c,n,env,H,K,h,hE,hc=>by
  unfold eY at h
  obtain ⟨ex,e,H',h1,h2,h3,h4⟩:=Im hX hD c n env H _ h hE hc
  cases ex with
  | normal=>exact ⟨_,e,H',h1,h2,h3,h4⟩
  | exit Ax =>
   simp only at h1
   split at h1
   .exact ⟨_,e,H',h1,h2,h3,h4⟩
   .exact ⟨_,e,H',h1,h2,h3,h4⟩
  | ret=>exact ⟨_,e,H',h1,h2,h3,h4⟩
 | .loop c,n,env,H,K,h,hE,hc=>by
  unfold eY at h
  replace h:=Q2 h;obtain ⟨vs,hv,h⟩:=h
  generalize hF:(fun (again:List Value->af->Option β) vs H=>BC (X.cV n) vs fun env=>eY X c (n+1) env H fun ex ak H'=>match ex with
   | .normal=>Q1 (vr ak (X.cV n)) fun cy=>again cy H'
   | .exit id=>K (.exit id) ak H'
   | .ret=>K .ret ak H')=F at h
  have W4:dM (aL H.length) (Db (X.cV n) vs):=hE.zip hv
  clear hv hE
  generalize X.fuel=k at h
  induction k generalizing vs H with
  | zero=>simp [CS] at h
  | succ k ih =>
   simp only [CS] at h
   rw [<- hF] at h
   have g7:=W2 h
   rw [hF] at g7
   obtain ⟨ex,e,H',h1,h2,h3,h4⟩:=Im hX hD c (n+1) _ H _ g7 W4 hc
   cases ex with
   | normal =>
    simp only at h1
    replace h1:=Q2 h1;obtain ⟨BN,Jz,h1⟩:=h1
    obtain ⟨ex,e',H2,g1,g2,g3,g4⟩:=ih H' h3 BN (h2.zip Jz) h1
    exact ⟨ex,e',H2,g1,g2,g3,h4.trans g4⟩
   | exit id=>exact ⟨_,e,H',h1,h2,h3,h4⟩
   | ret=>exact ⟨_,e,H',h1,h2,h3,h4⟩
 | .exit id,n,env,H,K,h,hE,hc=>⟨.exit id,env,H,h,hE,hc,Ab.refl _ _⟩
 | .ret,n,env,H,K,h,hE,hc=>⟨.ret,env,H,h,hE,hc,Ab.refl _ _⟩
 | .rangeFunc _ _ _ _,n,env,H,K,h,hE,hc=>by simp [eY] at h
 | .scope _,n,env,H,K,h,hE,hc=>by simp [eY] at h
 | .goto _,n,env,H,K,h,hE,hc=>by simp [eY] at h
 | .refuse _,n,env,H,K,h,hE,hc=>by simp [eY] at h
end
theorem W5:∀ (l:List Value) (i s:Nat) (v:Value),cU (qV i l) s=some v->i<=s/\l[s - i]? = some v
 | [],i,s,v,h=>by simp [qV,cU] at h
 | x::l,i,s,v,h=>by
  simp only [qV] at h
  rw [vu] at h
  by_cases e:i=s
  .subst e;simp at h;subst h;simp
  .simp [e] at h
   obtain ⟨h1,h2⟩:=W5 l (i+1) s v h
   refine ⟨by omega,?_⟩
   rw [show s - i=(s - (i+1))+1 by omega]
   simpa using h2
theorem Qib {ι:Io} {D:Nat->Prop} {vs cs:List Value} (h:aZ ι D vs cs):ay ι D (iK vs) (iK cs):=by
 unfold iK
 split
 .rename_i v
  match cs,h with
  | [c],h=>exact h.head
  | [],h=>exact absurd h.1 (by simp)
  | c::d::r,h=>exact absurd h.1 (by simp)
 .rename_i aU
  have:∀ c,cs≠[c]:=by
   rintro c rfl
   match vs,h,aU with
   | [v],_,aU=>exact aU v rfl
   | [],h,_=>exact absurd h.1 (by simp)
   | a::b::r,h,_=>exact absurd h.1 (by simp)
  split
  .rename_i c;exact absurd rfl (this c)
  .exact .tuple vs cs h.1 h.2
theorem Qmi {D:Nat->Prop} {vs:List Value} (h:gT D vs):bK D (iK vs):=by
 unfold iK
 split
 .exact h _ (by simp)
 .exact .tuple vs fun i hi=>h _ (List.getElem_mem hi)
theorem Qft (cs:List Value):(if h:cs.toArray.size=1 then cs.toArray[0] else .tuple cs.toArray)=iK cs:=by
 unfold iK
 split
 .rename_i h
  match cs,h with
  | [c],_=>rfl
 .rename_i h
  split
  .simp at h
  .rfl
theorem Qtq {P:Program} {A:BH} {call:FuncId->List Value->Nat->af->Option (Value×af)} (hX:oX P call) (hD:∀ X:Cx,X.P=P->X.call=call->QA X/\QB X) {f:FuncId} {args:List Value} {ai:Nat} {H H':af} {v:Value}
  (h:vg P A call f args ai H=some (v,H')):iq P f args ai H v H':=by
 unfold vg at h
 split at h
 .simp at h
 .rename_i fn hfn
  split at h
  .rename_i c hb hle Ey
   have hle:=Zi hle
   generalize QC:(⟨P,call,Wc (A.mode f) ai H.length,fn.ntmps,A.fuel,A.loops f⟩:Cx)=X at h
   have W6:X.P=P:=by rw [<- QC]
   have hXc:X.call=call:=by rw [<- QC]
   have W7:X.ai=Wc (A.mode f) ai H.length:=by rw [<- QC]
   have hXn:X.nt=fn.ntmps:=by rw [<- QC]
   obtain ⟨hDw,hDa⟩:=hD X W6 hXc
   have PE:oX X.P X.call:=by rw [W6,hXc];exact hX
   have W8:∀ D:Nat->Prop,gT D args->dM D (qV 0 args):=by
    intro D hl s u hs
    obtain ⟨_,h2⟩:=W5 args 0 s u hs
    exact hl u (Zc h2)
   have Nc:gT (aL H.length) args->Qm H.length H->bK (aL H'.length) v/\Ab ai H H':=by
    intro hl hc
    obtain ⟨ex,ak,H2,g1,g2,g3,g4⟩:=Im PE hDa c 0 _ H _ h (W8 _ hl) hc
    have fin:∀ {vs:List Value},iJ P ak H2 fn.results.toList=some vs->(Q1 (vt (A.mode f) H.length vs H2) fun r=>some (iK r.1,r.2))=some (v,H')->bK (aL H'.length) v/\Ab ai H H':=by
     intro vs hr hf
     replace hf:=Q2 hf;obtain ⟨⟨cy,H3⟩,hf,he⟩:=hf
     simp at he;obtain ⟨rfl,rfl⟩:=he
     have I8:=Na hr g2 g3
     unfold vt at hf
     cases hm:A.mode f with
     | keep =>
      rw [hm] at hf;simp at hf;obtain ⟨rfl,rfl⟩:=hf
      rw [W7,hm] at g4
      exact ⟨Qmi I8,g4⟩
     | drop =>
      rw [hm] at hf;simp only at hf
      replace hf:=Q2 hf;obtain ⟨⟨BN,olds⟩,W9,he⟩:=hf
      simp at he;obtain ⟨rfl,rfl⟩:=he
      rw [W7,hm] at g4
      obtain ⟨k1,k2⟩:=Qqp (ai:=ai) g4 hc W9
      exact ⟨Qmi k2,k1⟩
    cases ex with
    | normal=>simp only at g1;replace g1:=Q2 g1;obtain ⟨vs,hr,g1⟩:=g1;exact fin hr g1
    | exit id=>simp at g1
    | ret=>simp only at g1;replace g1:=Q2 g1;obtain ⟨vs,hr,g1⟩:=g1;exact fin hr g1
   refine ⟨fun hl hc=>(Nc hl hc).1,fun hl hc=>(Nc hl hc).2,fun bT w=>?_,fun ι w bT hR hl=>?_⟩
   .have aU:(fn.name == "runtime.NumGoroutine")=false:=Ey
    simp only [callFunc,Sem.run_bind,run_program,Result.andThen_ok,hfn,aU,Bool.false_eq_true,if_false,hb,Option.isNone_some,Sem.run_pure]
   .refine calls_of_wp hfn hb ?_
    have bf:bT.size=args.length:=by have:=hl.1;simpa using this.symm
    have hE:bt ι (aL H.length) X.nt (qV 0 args) { tmps:=bT++Array.replicate (fn.ntmps - bT.size) undef,defers:=[] }:=by
     refine ⟨by simp [hXn];omega,fun s u hs=>?_⟩
     obtain ⟨_,h2⟩:=W5 args 0 s u hs
     obtain ⟨d,h3,h4⟩:=hl.get h2
     have au:s < bT.size:=by
      have:=(Z0 h2).1
      simp at this;omega
     have:(bT++Array.replicate (fn.ntmps - bT.size) undef).getD s undef=d:=by
      rw [Array.getD_eq_getD_getElem?,Array.getElem?_append_left au,<- Array.getElem?_toList]
      simp only [Nat.sub_zero] at h3
      rw [h3];rfl
     rw [this];exact h4
    have hwp:=Il PE hDw c 0 _ H _ h ι _ w hR hE rfl
    rw [W6] at hwp
    refine wp_mono hwp ?_
    rintro ex a' w' ⟨vV,ak,ι',H2,rfl,g1,g2,g3,g4,g5,g6⟩
    have fin:∀ {vs:List Value},iJ P ak H2 fn.results.toList=some vs->(Q1 (vt (A.mode f) H.length vs H2) fun r=>some (iK r.1,r.2))=some (v,H') ->
      a'.defers=[]/\∃ v',(results fn a'.tmps).run P w'=.ok v' w'/\∃ ι'' c',(Ending.returned v')=.returned c'/\Rel ι'' (aL H'.length) H' w'/\ay ι'' (aL H'.length) v c'/\Fr ι H w ι'' H' w':=by
     intro vs hr hf
     replace hf:=Q2 hf;obtain ⟨⟨cy,H3⟩,hf,he⟩:=hf
     simp at he;obtain ⟨rfl,rfl⟩:=he
     obtain ⟨cs,k1,k2⟩:=WX (P:=P) g1 g2 hr
     have Ik:(results fn a'.tmps).run P w'=.ok (iK cs) w':=by
      unfold results
      rw [Array.mapM_eq_mapM_toList]
      simp only [Sem.run_bind,Sem.run_map]
      refine (congrArg (fun x=>Result.andThen (Result.andThen x _) _) k2).trans ?_
      simp only [Result.andThen_ok,Sem.run_pure]
      rw [<- Qft]
     refine ⟨g5,iK cs,Ik,?_⟩
     unfold vt at hf
     cases hm:A.mode f with
     | keep =>
      rw [hm] at hf;simp at hf;obtain ⟨rfl,rfl⟩:=hf
      exact ⟨ι',_,rfl,g1,Qib k1,g3⟩
     | drop =>
      rw [hm] at hf;simp only at hf
      replace hf:=Q2 hf;obtain ⟨⟨BN,olds⟩,W9,he⟩:=hf
      simp at he;obtain ⟨rfl,rfl⟩:=he
      rw [W7,hm] at g4
      have fE:=g4.closed H.length (Zd _) (Zd _) hR.closed
      obtain ⟨q1,q2,q3⟩:=Qnv g1 g3 fE W9 k1
      exact ⟨_,_,rfl,q1,Qib q3,q2⟩
    cases vV with
    | normal=>simp only at g6;replace g6:=Q2 g6;obtain ⟨vs,hr,g6⟩:=g6;exact fin hr g6
    | exit id=>simp at g6
    | ret=>simp only at g6;replace g6:=Q2 g6;obtain ⟨vs,hr,g6⟩:=g6;exact fin hr g6
  .simp at h
def P6 (P:Program) (A:BH):Prop:=∀ f e,A.ext f=some e->∀ args ai H v H',e args ai H=some (v,H')->iq P f args ai H v H'
def Af (P:Program) (A:BH):Prop:=∀ g,kB g≠g->A.ext (kB g)=none/\∀ call,vg P A call g=vg P A call (kB g)
theorem Qvo {P:Program} {A:BH} (hN:Af P A) (hA:P6 P A) (hD:∀ X:Cx,X.P=P->oX P X.call->QA X/\QB X):∀ d:Nat,oX P (run P A d)
 | 0=>by intro f args ai H v H' h;simp [run] at h
 | d+1=>by
  have ih:=Qvo hN hA hD d
  intro f args ai H v H' h g hg
  simp only [run] at h
  split at h
  .rename_i e he
   have hgf:g=f:=by
    rcases hg with hg | hg
    .exact hg
    .by_cases aU:kB g=g
     .rw [<- hg,aU]
     .have:=(hN g aU).1;rw [hg,he] at this;simp at this
   rw [hgf];exact hA f e he args ai H v H' h
  .have h':vg P A (run P A d) g args ai H=some (v,H'):=by
    rcases hg with rfl | hg
    .exact h
    .by_cases aU:kB g=g
     .rw [aU] at hg;rw [hg];exact h
     .rw [(hN g aU).2,hg];exact h
   exact Qtq ih (fun X hP hc=>hD X hP (by rw [hc];exact ih)) h'
def BO (acc:Array Nat) (o:Oper):Nat:=o.after.foldl (fun s e=>if Region.binds .any e then s ||| 2 ^ e.on ||| acc.getD e.on 0 else s) 0
theorem Qqr (ops:Array Oper):Region.before ops=ops.toList.foldl (fun acc o=>acc.push (BO acc o)) #[]:=by
 rw [Array.foldl_toList];rfl
theorem Nd:∀ (l:List Oper) (acc:Array Nat),(l.foldl (fun acc o=>acc.push (BO acc o)) acc).size=acc.size+l.length/\(∀ j,j < acc.size->(l.foldl (fun acc o=>acc.push (BO acc o)) acc)[j]? = acc[j]?) /\
  ∀ k o,l[k]? = some o->∃ jA:Array Nat,jA.size=acc.size+k/\(∀ j,j < jA.size->(l.foldl (fun acc o=>acc.push (BO acc o)) acc)[j]? = jA[j]?)/\(l.foldl (fun acc o=>acc.push (BO acc o)) acc)[acc.size+k]? = some (BO jA o)
 | [],acc=>⟨by simp,fun j _=>rfl,fun k o h=>by simp at h⟩
 | x::l,acc=>by
  obtain ⟨h1,h2,h3⟩:=Nd l (acc.push (BO acc x))
  simp only [List.foldl_cons]
  refine ⟨by rw [h1];simp;omega,fun j hj=>?_,fun k o hk=>?_⟩
  .rw [h2 j (by simp;omega),Array.getElem?_push,if_neg (by omega)]
  .cases k with
   | zero =>
    simp at hk;subst hk
    refine ⟨acc,by simp,fun j hj=>?_,?_⟩
    .rw [h2 j (by simp;omega),Array.getElem?_push,if_neg (by omega)]
    .rw [Nat.add_zero,h2 acc.size (by simp),Array.getElem?_push,if_pos rfl]
   | succ k =>
    obtain ⟨jA,g1,g2,g3⟩:=h3 k o (by simpa using hk)
    refine ⟨jA,by rw [g1];simp;omega,g2,?_⟩
    rw [show acc.size+(k+1)=(acc.push (BO acc x)).size+k by simp;omega]
    exact g3
theorem Qic (acc:Array Nat) (i:Nat):∀ (l:List Edge) (s:Nat),(l.foldl (fun s e=>if Region.binds .any e then s ||| 2 ^ e.on ||| acc.getD e.on 0 else s) s).testBit i=true ->
  s.testBit i=true\/∃ e∈l,Region.binds .any e=true/\(e.on=i\/(acc.getD e.on 0).testBit i=true)
 | [],s,h=>.inl h
 | e::l,s,h=>by
  simp only [List.foldl_cons] at h
  rcases Qic acc i l _ h with h | ⟨e',h1,h2⟩
  .split at h
   .rename_i hb
    simp only [Nat.testBit_or,Bool.or_eq_true,Nat.testBit_two_pow,Zj] at h
    rcases h with (h | h) | h
    .exact .inl h
    .exact .inr ⟨e,by simp,hb,.inl h⟩
    .exact .inr ⟨e,by simp,hb,.inr h⟩
   .exact .inl h
  .exact .inr ⟨e',List.mem_cons_of_mem _ h1,h2⟩
theorem Qts {ops:Array Oper} {j i:Nat} (h:iI (Region.before ops) j i=true):∃ o e,ops[j]? = some o/\e∈o.after.toList/\Region.binds .any e=true/\(e.on=i\/iI (Region.before ops) e.on i=true):=by
 obtain ⟨h1,_,h3⟩:=Nd ops.toList #[]
 rw [<- Qqr] at h1 h3
 unfold iI at h
 cases hj:ops[j]? with
 | none =>
  have au:ops.size<=j:=by
   by_cases au:j < ops.size
   .rw [Array.getElem?_eq_getElem au] at hj;simp at hj
   .omega
  have:(Region.before ops).getD j 0=0:=by
   rw [Array.getD_eq_getD_getElem?,Array.getElem?_eq_none (by rw [h1];simp;omega)];rfl
  rw [this] at h;simp at h
 | some o =>
  obtain ⟨jA,g1,g2,g3⟩:=h3 j o (by rw [Array.getElem?_toList];exact hj)
  simp only [List.size_toArray,Zb,Zo] at g1 g3
  have e1:(Region.before ops).getD j 0=BO jA o:=by rw [Array.getD_eq_getD_getElem?,g3];rfl
  rw [e1] at h
  unfold BO at h
  rw [<- Array.foldl_toList] at h
  rcases Qic jA i o.after.toList 0 h with h | ⟨e,k1,k2,k3⟩
  .simp at h
  .refine ⟨o,e,rfl,k1,k2,?_⟩
   rcases k3 with k3 | k3
   .exact .inl k3
   .right
    unfold iI
    by_cases hl:e.on < jA.size
    .have:(Region.before ops).getD e.on 0=jA.getD e.on 0:=by rw [Array.getD_eq_getD_getElem?,Array.getD_eq_getD_getElem?,g2 _ hl]
     rw [this];exact k3
    .rw [Array.getD_eq_getD_getElem?,Array.getElem?_eq_none (by omega)] at k3;simp at k3
section
variable {X:Cx} {β:Type} {r:β} {o:Oper} {env:Env} {H:af}
def ou (o:Oper):List Tmp:=o.op.operands.toList.filterMap fun | .tmp t=>some t | _=>none
def bJ (ts:List Tmp) (env:Env):Env:=env.filter fun p=>ts.contains p.1
theorem W_ {ts:List Tmp}:∀ {env:Env} {t:Nat},t∈ts->cU (bJ ts env) t=cU env t
 | [],t,h=>rfl
 | (s,v)::env,t,h=>by
  have ih:=W_ (ts:=ts) (env:=env) h
  unfold bJ at ih ⊢
  rw [List.filter_cons]
  by_cases e:s=t
  .subst e
   have:ts.contains s=true:=by simpa using h
   rw [if_pos this,vu,vu,if_pos rfl,if_pos rfl]
  .rw [vu,if_neg e]
   split
   .rw [vu,if_neg e];exact ih
   .exact ih
theorem Xa {ts:List Tmp}:∀ {env:Env} {t:Nat} {v:Value},cU (bJ ts env) t=some v->t∈ts/\cU env t=some v
 | [],t,v,h=>by simp [bJ,cU] at h
 | (s,u)::env,t,v,h=>by
  by_cases ht:t∈ts
  .exact ⟨ht,by rw [<- W_ ht];exact h⟩
  .exfalso
   unfold bJ at h
   rw [List.filter_cons] at h
   have ih:=fun h=>ht (Xa (ts:=ts) (env:=env) (t:=t) (v:=v) h).1
   split at h
   .rename_i hc
    rw [vu] at h
    by_cases e:s=t
    .subst e;exact ht (by simpa using hc)
    .rw [if_neg e] at h;exact ih h
   .exact ih h
theorem Nf {x:Operand} (h:x∈o.op.operands.toList):ev (bJ (ou o) env) x=ev env x:=by
 cases x with
 | tmp t =>
  simp only [ev]
  exact W_ (by unfold ou;rw [List.mem_filterMap];exact ⟨_,h,rfl⟩)
 | const v=>rfl
 | global g=>rfl
 | func f=>rfl
theorem QD:∀ {xs:List Operand},(∀ x∈xs,x∈o.op.operands.toList)->eX (bJ (ou o) env) xs=eX env xs
 | [],_=>rfl
 | x::xs,h=>by
  simp only [eX]
  rw [Nf (h x (by simp)),QD fun y hy=>h y (List.mem_cons_of_mem _ hy)]
theorem Xb:∀ {xs:List (Nat×Operand)},(∀ x∈xs,x.2∈o.op.operands.toList)->oD (bJ (ou o) env) xs=oD env xs
 | [],_=>rfl
 | (i,x)::xs,h=>by
  simp only [oD]
  rw [Nf (h (i,x) (by simp)),Xb fun y hy=>h y (List.mem_cons_of_mem _ hy)]
theorem Q8l {x:Option Operand} {d:Nat} {K:Nat->Option β} (h:∀ y,x=some y->y∈o.op.operands.toList):mL (bJ (ou o) env) x d K=mL env x d K:=by
 cases x with
 | none=>rfl
 | some y=>simp only [mL];rw [Nf (h y rfl)]
theorem Qnw (K:Value->af->Option β):dx X o (bJ (ou o) env) H K=dx X o env H K:=by
 have aK:∀ {op:Op},o.op=op->∀ x,x∈op.operands.toList->ev (bJ (ou o) env) x=ev env x:=fun e x hx=>Nf (by rw [e];exact hx)
 unfold dx
 cases ho:o.op with
 | move x=>simp only [aK ho x (by simp [Op.operands])]
 | assign x=>simp only [aK ho x (by simp [Op.operands])]
 | pick c a b=>simp only [aK ho c (by simp [Op.operands]),aK ho a (by simp [Op.operands]),aK ho b (by simp [Op.operands])]
 | box t x=>simp only [aK ho x (by simp [Op.operands])]
 | build t ps =>
  simp only
  rw [Xb]
  intro x hx;rw [ho];simp only [Op.operands,List.mem_map]
  exact ⟨x,hx,rfl⟩
 | buildSlice t n ps =>
  simp only
  rw [Xb]
  intro x hx;rw [ho];simp only [Op.operands,List.mem_map]
  exact ⟨x,hx,rfl⟩
 | load t x=>simp only [aK ho x (by simp [Op.operands])]
 | store t x y=>simp only [aK ho x (by simp [Op.operands]),aK ho y (by simp [Op.operands])]
 | nilCheck x=>simp only [aK ho x (by simp [Op.operands])]
 | binOp op t x y t'=>simp only [aK ho x (by simp [Op.operands]),aK ho y (by simp [Op.operands])]
 | unOp op t x=>simp only [aK ho x (by simp [Op.operands])]
 | convert s d x=>simp only [aK ho x (by simp [Op.operands])]
 | makeFunc fn first cap =>
  cases fn with
  | func f =>
   simp only
   rw [QD (xs:=first.toList),QD (xs:=cap.toList)]
   .intro x hx;rw [ho];simp [Op.operands];exact .inr (by simpa using hx)
   .intro x hx;rw [ho];simp [Op.operands];exact .inl (by simpa using hx)
  | _=>rfl
 | makeSlice t x y=>simp only [aK ho x (by simp [Op.operands]),aK ho y (by simp [Op.operands])]
 | slice t x lo hi mx =>
  cases mx with
  | none =>
   simp only [aK ho x (by simp [Op.operands])]
   have b1:∀ (d:Nat) (K:Nat->Option β),mL (bJ (ou o) env) hi d K=mL env hi d K:=fun d K=>Q8l (fun y e=>by rw [ho,e];simp [Op.operands])
   have b2:∀ (d:Nat) (K:Nat->Option β),mL (bJ (ou o) env) lo d K=mL env lo d K:=fun d K=>Q8l (fun y e=>by rw [ho,e];simp [Op.operands])
   simp only [b1,b2]
  | some y=>rfl
 | fieldAddr t x f=>simp only [aK ho x (by simp [Op.operands])]
 | field t x f=>simp only [aK ho x (by simp [Op.operands])]
 | indexAddr t x y=>simp only [aK ho x (by simp [Op.operands]),aK ho y (by simp [Op.operands])]
 | index t x y=>simp only [aK ho x (by simp [Op.operands]),aK ho y (by simp [Op.operands])]
 | extract x i=>simp only [aK ho x (by simp [Op.operands])]
 | call c =>
  have hargs:eX (bJ (ou o) env) c.args.toList=eX env c.args.toList:=QD fun x hx=>by
   rw [ho];simp only [Op.operands,Call.operands,Array.toList_append,Zh];exact .inr hx
  simp only [hargs]
  cases hc:c.callee with
  | builtin b=>rfl
  | value f =>
   simp only
   rw [aK ho f (by simp [Op.operands,Call.operands,hc])]
  | invoke x m=>rfl
 | _=>rfl
theorem Qtt {P:Program} {o:Op} {env:Env} {G H:af} {z:Nat} {t:Tmp} {v:Value} (h:PJ o=some t) (hv:cU env t=some v) (hz:IZ v=some z) (g:ah G z=ah H z):c_ P o env G=c_ P o env H:=by
 unfold PJ at h
 split at h
 .rename_i ty t'
  simp at h;subst h
  unfold c_
  simp only [KC (show ev env (.tmp t')=some v from hv),ev,hv,Q1]
  cases v<;>simp only [e_]
  rename_i p
  cases p with
  | none=>rfl
  | some p =>
   simp only [IZ,Option.some.injEq] at hz;subst hz
   simp only
   unfold Qx gL
   rw [g]
 .rename_i a b t'
  simp at h;subst h
  unfold c_
  simp only [ev,hv,Q1]
  cases v<;>try (first | rfl | (simp [IZ] at hz;done))
  rename_i p n c
  cases p with
  | none=>simp [IZ] at hz
  | some p =>
   simp only [IZ,Option.some.injEq] at hz;subst hz
   have:fN G p (n*1)=fN H p (n*1):=by
    cases n*1 with
    | zero=>rfl
    | succ q=>simp only [fN];unfold Qx;rw [g]
   simp only [Qf,this]
 .simp at h
theorem Qds {P:Program} {G:af}:c_ P o.op (bJ (ou o) env) G=c_ P o.op env G:=by
 have aK:∀ {op:Op},o.op=op->∀ x,x∈op.operands.toList->ev (bJ (ou o) env) x=ev env x:=fun e x hx=>Nf (by rw [e];exact hx)
 unfold c_
 cases ho:o.op with
 | load t x=>simp only [aK ho x (by simp [Op.operands])]
 | convert s d x=>simp only [aK ho x (by simp [Op.operands])]
 | _=>rfl
def J2 (ops:Array Oper) (o:Oper):List Tmp:=match o.guard with
 | some (g,_)=>((ops[g]?).bind (·.dst)).toList
 | none=>[]
theorem Qdt (ops:Array Oper) (o:Oper):o.looksAt ops=ou o++J2 ops o:=rfl
structure vJ (ι:Io) (D:Nat->Prop) (nt:Nat) (ts:List Tmp) (env:Env) (a:Act):Prop where
 size:a.tmps.size=nt
 get:∀ s∈ts,∀ v,cU env s=some v->ay ι D v (a.tmps.getD s undef)
theorem vJ.bJ {ι:Io} {D:Nat->Prop} {nt:Nat} {ts:List Tmp} {env:Env} {a:Act} (h:vJ ι D nt ts env a):bt ι D nt (bJ ts env) a :=
 ⟨h.size,fun s v hs=>by obtain ⟨h1,h2⟩:=Xa hs;exact h.get s h1 v h2⟩
def Qvp (nt:Nat) (ops:Array Oper) (o:Oper) (env:Env) (t:Bool):Prop :=
 ∀ (ι:Io) (D:Nat->Prop) (a:Act),vJ ι D nt (J2 ops o) env a->Region.wanted o (yielded ops a.tmps)=t
theorem Qkg {nt:Nat} {ops:Array Oper} {K:Bool->Env->Option β} (h:DP ops o env K=some r):∃ t ak,K t ak=some r/\(∀ s,cU ak s=cU env s)/\Qvp nt ops o env t:=by
 unfold DP at h
 split at h
 .rename_i hg
  exact ⟨true,env,h,fun _=>rfl,fun ι D a hE=>by simp [Region.wanted,hg]⟩
 .rename_i j want hg
  split at h
  .rename_i d hd
   replace h:=Q2 h;obtain ⟨v,hv,h⟩:=h
   have hy:∀ (ι:Io) (D:Nat->Prop) (a:Act),vJ ι D nt (J2 ops o) env a->yielded ops a.tmps j=match v with | .bool b=>some b | _=>none:=by
    intro ι D a hE
    have hr:=hE.get d (by simp [J2,hg,hd]) v hv
    unfold yielded
    rw [hd]
    simp only [Option.bind_some]
    by_cases au:d < a.tmps.size
    .rw [Array.getElem?_eq_getElem au]
     have e:a.tmps.getD d undef=a.tmps[d]:=by simp [Array.getD,au]
     rw [e] at hr
     generalize a.tmps[d]=c at hr ⊢
     cases hr<;>rfl
    .rw [Array.getElem?_eq_none (Nat.le_of_not_lt au)]
     have e:a.tmps.getD d undef=undef:=by simp [Array.getD,au]
     rw [e] at hr
     cases hr<;>rfl
   have dF:∀ b,v=.bool b->∀ s,cU ((d,.bool b)::env) s=cU env s:=by
    intro b e s
    rw [vu]
    by_cases hs:d=s
    .subst hs;rw [if_pos rfl,hv,e]
    .rw [if_neg hs]
   split at h
   .rename_i b
    rcases jI h with ⟨rfl,h⟩ | ⟨rfl,h⟩
    .refine ⟨_,_,h,dF _ rfl,fun ι D a hE=>?_⟩
     simp only [Region.wanted,hg,hy ι D a hE]
     cases want<;>rfl
    .refine ⟨_,_,h,dF _ rfl,fun ι D a hE=>?_⟩
     simp only [Region.wanted,hg,hy ι D a hE]
     cases want<;>rfl
   .rename_i R7
    refine ⟨_,_,h,fun _=>rfl,fun ι D a hE=>?_⟩
    simp only [Region.wanted,hg,hy ι D a hE]
    cases v<;>first | rfl | exact absurd rfl (R7 _)
  .simp at h
structure St where
 dZ:Env
 env:Env
 H:af
 t:Bool
 v:Value
structure ru (X:Cx) (ops:Array Oper) (o:Oper) (s s':St):Prop where
 same:∀ q,cU s.env q=cU s.dZ q
 guard:Qvp X.nt ops o s.dZ s.t
 yes:s.t=true->jJ X o (bJ (ou o) s.env) s.H s.v s'.H
 no:s.t=false->s.v=undef/\s'.H=s.H
 put:(o.dst=none/\s'.dZ=s.env)\/∃ d,o.dst=some d/\d < X.nt/\s'.dZ=(d,s.v)::s.env
theorem Qa2 (hX:oX X.P X.call) {ops:Array Oper} {K:List (Env×af)->Env->af->Option β}:∀ (l:List Oper) (env:Env) (H:af) (tr:List (Env×af)),Aw X ops l env H tr K=some r ->
  ∃ S:Nat->St,(S 0).dZ=env/\(S 0).H=H/\(S l.length).env=(S l.length).dZ/\(∀ k o,l[k]? = some o->ru X ops o (S k) (S (k+1))) /\
   K (((List.range (l.length+1)).map fun k=>((S k).env,(S k).H)).reverse++tr) (S l.length).dZ (S l.length).H=some r
 | [],env,H,tr,h=>by
  refine ⟨fun _=>⟨env,env,H,true,undef⟩,rfl,rfl,rfl,fun k o hk=>by simp at hk,?_⟩
  unfold Aw at h
  simpa using h
 | o::l,env,H,tr,h=>by
  unfold Aw at h
  obtain ⟨t,fW,h,dF,hg⟩:=Qkg (nt:=X.nt) h
  have fin:∀ (v:Value) (H':af) (cc:Env),(t=true->jJ X o (bJ (ou o) fW) H v H')->(t=false->v=undef/\H'=H) ->
    ((o.dst=none/\cc=fW)\/∃ d,o.dst=some d/\d < X.nt/\cc=(d,v)::fW)->Aw X ops l cc H' ((fW,H)::tr) K=some r ->
    ∃ S:Nat->St,(S 0).dZ=env/\(S 0).H=H/\(S (o::l).length).env=(S (o::l).length).dZ/\(∀ k q,(o::l)[k]? = some q->ru X ops q (S k) (S (k+1))) /\
     K (((List.range ((o::l).length+1)).map fun k=>((S k).env,(S k).H)).reverse++tr) (S (o::l).length).dZ (S (o::l).length).H=some r:=by
   intro v H' cc h1 h2 h3 h4
   obtain ⟨S,g1,g2,g3,g4,g5⟩:=Qa2 hX l cc H' _ h4
   refine ⟨fun k=>match k with | 0=>⟨env,fW,H,t,v⟩ | k+1=>S k,rfl,rfl,g3,fun k q hk=>?_,?_⟩
   .cases k with
    | zero =>
     simp at hk;subst hk
     exact ⟨dF,hg,fun e=>by simp only [g2];exact h1 e,fun e=>by simp only [g2];exact h2 e,by simp only [g1];exact h3⟩
    | succ k=>exact g4 k q (by simpa using hk)
   .have:((List.range ((o::l).length+1)).map fun k=>(((fun k=>match k with | 0=>(⟨env,fW,H,t,v⟩:St) | k+1=>S k) k).env,((fun k=>match k with | 0=>(⟨env,fW,H,t,v⟩:St) | k+1=>S k) k).H))=(fW,H)::((List.range (l.length+1)).map fun k=>((S k).env,(S k).H)):=by
     rw [Z9,List.range_succ_eq_map,List.map_cons,List.map_map]
     rfl
    rw [this]
    simpa using g5
  cases t with
  | true =>
   simp only at h
   rw [<- Qnw] at h
   obtain ⟨v,H',h,hF⟩:=RX hX h
   obtain ⟨cc,h,hp⟩:=DN h
   exact fin v H' cc (fun _=>hF) (fun e=>by simp at e) hp h
  | false =>
   simp only at h
   obtain ⟨cc,h,hp⟩:=DN h
   exact fin undef H cc (fun e=>by simp at e) (fun _=>⟨rfl,rfl⟩) hp h
theorem Qbv {x y:Value} (h:Qa x y=true):x=y:=by
 unfold Qa at h
 split at h
 .simp at h;rw [h]
 .simp at h;rw [h.1,h.2]
 .rename_i a b
  simp only [beq_iff_eq] at h
  have:a=b:=by
   rw [ByteArray.toList_eq,ByteArray.toList_eq] at h
   obtain ⟨⟨x⟩⟩:=a;obtain ⟨⟨y⟩⟩:=b
   simp at h;rw [h]
  rw [this]
 .simp at h;rw [h]
 .simp at h;rw [h.1.1,h.1.2,h.2]
 .rfl
 .rfl
 .simp at h;rw [h]
 .simp at h
theorem Qid:∀ {x y:List Value},BD x y=true->x=y
 | [],[],_=>rfl
 | [],_::_,h=>by simp [BD] at h
 | _::_,[],h=>by simp [BD] at h
 | a::x,b::y,h=>by
  simp only [BD,Z8] at h
  rw [Qbv h.1,Qid h.2]
theorem Qqs {x y:Option Value} (h:jS x y=true):x=y:=by
 unfold jS at h
 split at h
 .rfl
 .rename_i xs ys
  have:=Qid h
  obtain ⟨xs⟩:=xs;obtain ⟨ys⟩:=ys
  simp at this;rw [this]
 .rw [Qbv h]
 .simp at h
theorem Xc {P:Program} {ops:Array Oper} {jy:List (Env×af)} {i:Nat} {o:Oper} {x:Option β}:∀ {ms:List Nat},HJ P ops jy i o ms x=some r ->
  x=some r/\∀ m∈ms,(JO P ops m i || JP P ops i o m)=true\/∃ s q,jy[i]? = some s/\jy[m]? = some q/\c_ P o.op s.1 q.2=c_ P o.op s.1 s.2
 | [],h=>⟨h,by simp⟩
 | m::ms,h=>by
  unfold HJ at h
  split at h
  .rename_i hq
   obtain ⟨h1,h2⟩:=Xc h
   exact ⟨h1,fun k hk=>by
    rcases Z2 hk with rfl | hk
    .exact .inl hq
    .exact h2 k hk⟩
  .split at h
   .rename_i s q hs hq
    rcases jI h with ⟨e,h⟩ | ⟨_,h⟩
    .obtain ⟨h1,h2⟩:=Xc h
     exact ⟨h1,fun k hk=>by
      rcases Z2 hk with rfl | hk
      .exact .inr ⟨s,q,hs,hq,Qqs e⟩
      .exact h2 k hk⟩
    .simp at h
   .simp at h
theorem QE {P:Program} {ops:Array Oper} {jy:List (Env×af)} {x:Option β}:∀ {l:List Nat},cv P ops jy l x=some r ->
  x=some r/\∀ i∈l,cM P ops i=1->∀ o,ops[i]? = some o->∀ m∈HH P ops i,(JO P ops m i || JP P ops i o m)=true\/∃ s q,jy[i]? = some s/\jy[m]? = some q/\c_ P o.op s.1 q.2=c_ P o.op s.1 s.2
 | [],h=>⟨h,by simp⟩
 | i::l,h=>by
  unfold cv at h
  split at h
  .rename_i o hc ho
   obtain ⟨h1,h2⟩:=Xc h
   obtain ⟨h3,h4⟩:=QE h1
   refine ⟨h3,fun k hk sK o' rj=>?_⟩
   rcases Z2 hk with rfl | hk
   .rw [ho] at rj;simp at rj;subst rj;exact h2
   .exact h4 k hk sK o' rj
  .rename_i aU
   obtain ⟨h3,h4⟩:=QE h
   refine ⟨h3,fun k hk sK o' rj=>?_⟩
   rcases Z2 hk with rfl | hk
   .exact absurd rj (aU o' (by rw [sK];rfl))
   .exact h4 k hk sK o' rj
end
structure bF (X:Cx) (ops:Array Oper) (S:Nat->St):Prop where
 step:∀ k o,ops[k]? = some o->ru X ops o (S k) (S (k+1))
 ok:Mv X.P ops=true
 Ng:dM (aL (S 0).H.length) (S 0).dZ
 closed:Qm (S 0).H.length (S 0).H
section
variable {X:Cx} {ops:Array Oper} {S:Nat->St}
theorem AP {i:Nat} (h:i < ops.size):∃ o,ops[i]? = some o:=⟨ops[i],Array.getElem?_eq_getElem h⟩
theorem oQ {i:Nat} {o:Oper} (h:ops[i]? = some o):i < ops.size:=(Array.getElem?_eq_some_iff.1 h).1
theorem Nh {P:Program} {i:Nat} {o:Oper} (h:ops[i]? = some o):cM P ops i=gq P o.op:=by simp [cM,h]
theorem Qtu {P:Program} {i:Nat} (h:¬ i < ops.size):cM P ops i=0:=by
 unfold cM;rw [Array.getElem?_eq_none (by omega)]
theorem Qvq (P:Program) (op:Op):gq P op<=3:=by
 unfold gq
 split<;>first | omega | (split<;>omega)
theorem dM.bJ {D:Nat->Prop} {env:Env} {ts:List Tmp} (h:dM D env):dM D (bJ ts env):=fun s v hs=>h s v (Xa hs).2
theorem bF.abs (h:bF X ops S):∀ i,i<=ops.size->dM (aL (S i).H.length) (S i).dZ/\Qm (S i).H.length (S i).H/\Ab X.ai (S 0).H (S i).H
 | 0,_=>⟨h.Ng,h.closed,Ab.refl _ _⟩
 | i+1,hi=>by
  obtain ⟨h1,h2,h3⟩:=h.abs i (by omega)
  obtain ⟨o,ho⟩:=AP (ops:=ops) (i:=i) (by omega)
  have hs:=h.step i o ho
  have hE:dM (aL (S i).H.length) (S i).env:=fun s v hv=>h1 s v (by rw [<- hs.same];exact hv)
  have key:Ab X.ai (S i).H (S (i+1)).H/\bK (aL (S (i+1)).H.length) (S i).v:=by
   cases ht:(S i).t with
   | true=>exact OK (hs.yes ht) hE.bJ h2
   | false=>obtain ⟨e1,e2⟩:=hs.no ht;rw [e1,e2];exact ⟨Ab.refl _ _,KI _⟩
  exact ⟨KU (hE.mono (aL.mono key.1.len)) key.2 hs.put,key.1.all h2,h3.trans key.1⟩
theorem bF.AQ (h:bF X ops S) {i:Nat} (hi:i < ops.size):dM (aL (S i).H.length) (S i).env:=by
 obtain ⟨o,ho⟩:=AP hi
 exact fun s v hv=>(h.abs i (by omega)).1 s v (by rw [<- (h.step i o ho).same];exact hv)
theorem bF.ow (h:bF X ops S) {i:Nat} (hi:i < ops.size):(S i).H.length<=(S (i+1)).H.length:=by
 obtain ⟨o,ho⟩:=AP hi
 have hs:=h.step i o ho
 cases ht:(S i).t with
 | true=>exact (OK (hs.yes ht) (h.AQ hi).bJ (h.abs i (by omega)).2.1).1.len
 | false=>rw [(hs.no ht).2];exact Zd _
theorem bF.bS (h:bF X ops S) {m:Nat}:∀ {i:Nat},m<=i->i<=ops.size->(S m).H.length<=(S i).H.length
 | 0,h1,_=>by rw [Nat.le_zero.1 h1];exact Zd _
 | i+1,h1,h2=>by
  by_cases e:m=i+1
  .subst e;exact Zd _
  .exact Nat.le_trans (h.bS (by omega) (by omega)) (h.ow (by omega))
theorem bF.quiet (h:bF X ops S) {i:Nat} (hi:i < ops.size) (hc:cM X.P ops i≠3) :
  ((S (i+1)).H=(S i).H)\/(cM X.P ops i=2/\(S i).t=true/\∃ vs,(S (i+1)).H=dr (S i).H vs):=by
 obtain ⟨o,ho⟩:=AP hi
 have hs:=h.step i o ho
 have cz:=Nh (P:=X.P) ho
 cases ht:(S i).t with
 | false=>exact .inl (hs.no ht).2
 | true =>
  have hF:=hs.yes ht
  unfold jJ at hF
  split at hF
  .exact .inl hF.1
  .exact .inl hF.1
  .rename_i w4;obtain ⟨vs,mk,_,e,_⟩:=hF;exact .inr ⟨by rw [cz];exact w4,rfl,vs,e⟩
  .rename_i h0 h1 h2
   have hle:=Qvq X.P o.op
   rw [cz] at hc
   exact absurd hF (by
    intro _
    have:gq X.P o.op=0\/gq X.P o.op=1\/gq X.P o.op=2:=by omega
    rcases this with e | e | e
    .exact h0 e
    .exact h1 e
    .exact h2 e)
theorem bF.dK (h:bF X ops S) {i:Nat} (hi:i < ops.size) (hc:cM X.P ops i=2) (ht:(S i).t=true):(S (i+1)).H.length=(S i).H.length+1:=by
 obtain ⟨o,ho⟩:=AP hi
 have hF:=(h.step i o ho).yes ht
 have cz:=Nh (P:=X.P) ho
 rw [hc] at cz
 unfold jJ at hF
 rw [<- cz] at hF
 obtain ⟨vs,mk,_,e,_⟩:=hF
 rw [e,Qy]
theorem bF.keep (h:bF X ops S) {m:Nat}:∀ {i:Nat},m<=i->i<=ops.size->(∀ k,m<=k->k < i->cM X.P ops k≠3)->∀ x,x < (S m).H.length->ah (S i).H x=ah (S m).H x
 | 0,h1,_,_,x,hx=>by rw [Nat.le_zero.1 h1]
 | i+1,h1,h2,h3,x,hx=>by
  by_cases e:m=i+1
  .subst e;rfl
  .have ih:=h.keep (i:=i) (by omega) (by omega) (fun k h4 h5=>h3 k h4 (by omega)) x hx
   rcases h.quiet (i:=i) (by omega) (h3 i (by omega) (by omega)) with e | ⟨_,_,vs,e⟩
   .rw [e,ih]
   .have:=h.bS (m:=m) (i:=i) (by omega) (by omega)
    rw [e,Wh (by omega),ih]
theorem bF.made (h:bF X ops S) {m:Nat}:∀ {e:Nat},m<=e->e<=ops.size->(∀ k,m<=k->k < e->cM X.P ops k≠3)->∀ x,(S m).H.length<=x->x < (S e).H.length ->
  ∃ i,m<=i/\i < e/\cM X.P ops i=2/\(S i).t=true/\x=(S i).H.length/\ah (S (i+1)).H x=ah (S e).H x
 | 0,h1,_,_,x,hx,mW=>by rw [Nat.le_zero.1 h1] at hx;omega
 | e+1,h1,h2,h3,x,hx,mW=>by
  by_cases he:m=e+1
  .subst he;omega
  .rcases h.quiet (i:=e) (by omega) (h3 e (by omega) (by omega)) with q | ⟨hc,ht,vs,q⟩
   .rw [q] at mW
    obtain ⟨i,g1,g2,g3,g4,g5,g6⟩:=h.made (e:=e) (by omega) (by omega) (fun k h4 h5=>h3 k h4 (by omega)) x hx mW
    exact ⟨i,g1,by omega,g3,g4,g5,by rw [g6,q]⟩
   .by_cases hxe:x < (S e).H.length
    .obtain ⟨i,g1,g2,g3,g4,g5,g6⟩:=h.made (e:=e) (by omega) (by omega) (fun k h4 h5=>h3 k h4 (by omega)) x hx hxe
     exact ⟨i,g1,by omega,g3,g4,g5,by rw [g6,q,Wh hxe]⟩
    .rw [q,Qy] at mW
     exact ⟨e,by omega,by omega,hc,ht,by omega,rfl⟩
def ox (ops:Array Oper) (j:Nat):Option Tmp:=(ops[j]?).bind (·.dst)
theorem bF.look (h:bF X ops S) {q k:Nat}:∀ {i:Nat},k<=i->i<=ops.size->(∀ j,k<=j->j < i->ox ops j≠some q)->cU (S i).dZ q=cU (S k).dZ q
 | 0,h1,_,_=>by rw [Nat.le_zero.1 h1]
 | i+1,h1,h2,h3=>by
  by_cases e:k=i+1
  .subst e;rfl
  .have ih:=h.look (i:=i) (by omega) (by omega) (fun j h4 h5=>h3 j h4 (by omega))
   obtain ⟨o,ho⟩:=AP (ops:=ops) (i:=i) (by omega)
   have hs:=h.step i o ho
   have aU:=h3 i (by omega) (by omega)
   have hd:o.dst≠some q:=by simpa [ox,ho] using aU
   rcases hs.put with ⟨_,e⟩ | ⟨d,oF,_,e⟩
   .rw [e,hs.same,ih]
   .rw [e,vu,if_neg (fun e=>hd (by rw [oF,e])),hs.same,ih]
theorem bF.wrote (h:bF X ops S) {q k i:Nat} (hk:k < i) (hi:i<=ops.size) (hd:ox ops k=some q) (hn:∀ j,k < j->j < i->ox ops j≠some q):cU (S i).dZ q=some (S k).v/\q < X.nt:=by
 obtain ⟨o,ho⟩:=AP (ops:=ops) (i:=k) (by omega)
 have hs:=h.step k o ho
 have oF:o.dst=some q:=by simpa [ox,ho] using hd
 rw [h.look (k:=k+1) (by omega) hi (fun j h1 h2=>hn j (by omega) h2)]
 rcases hs.put with ⟨e,_⟩ | ⟨d,e,au,e'⟩
 .rw [e] at oF;simp at oF
 .rw [e] at oF;simp at oF;subst oF
  exact ⟨by rw [e',vu,if_pos rfl],au⟩
theorem bF.pair (h:bF X ops S) {i j:Nat} (lg:i < j) (hj:j < ops.size):iI (Region.before ops) j i=true\/(¬ (cM X.P ops j=3/\2<=cM X.P ops i)/\∃ x y,ops[i]? = some x/\ops[j]? = some y/\x.apart ops y=true):=by
 have dm:=h.ok
 unfold Mv at dm
 simp only [List.all_eq_true,List.mem_range,Z8] at dm
 have:=(dm j hj).2 i lg
 unfold Qvg at this
 rcases Bool.or_eq_true_iff.1 this with h1 | h1
 .exact .inl h1
 .right
  simp only [Z8,Bool.not_eq_true'] at h1
  obtain ⟨h2,h3⟩:=h1
  refine ⟨fun ⟨e1,e2⟩=>?_,?_⟩
  .rw [e1] at h2
   have:Nat.ble 2 (cM X.P ops i)=true:=Nat.ble_eq_true_of_le e2
   rw [this] at h2;simp at h2
  .split at h3
   .rename_i x y hx hy;exact ⟨x,y,hx,hy,h3⟩
   .simp at h3
theorem bF.Ni (h:bF X ops S) {j:Nat} {o:Oper} (ho:ops[j]? = some o):∀ e∈o.after.toList,Region.binds .any e=true->e.on < j:=by
 have dm:=h.ok
 unfold Mv at dm
 simp only [List.all_eq_true,List.mem_range,Z8] at dm
 have:=(dm j (oQ ho)).1
 unfold Qq8 at this
 rw [ho] at this
 simp only [List.all_eq_true] at this
 intro e he hb
 have:=this e he
 rw [hb] at this
 have h2:e.on+1<=j:=by simpa [Nat.blt] using this
 exact h2
def gS (X:Cx) (ops:Array Oper) (S:Nat->St) (m:Nat) (L:Nat->Prop) (x:Nat):Prop :=
 x < (S m).H.length\/∃ i,m<=i/\i < ops.size/\L i/\cM X.P ops i=2/\(S i).t=true/\x=(S i).H.length
structure Inv (X:Cx) (ops:Array Oper) (S:Nat->St) (ι₀:Io) (w₀:World) (L:Nat->Prop) (ι:Io) (G:af) (m:Nat) (a:Act) (w:World):Prop where
 J3:m<=ops.size
 d_:∀ e,e < ops.size->cM X.P ops e=3->(L e↔e < m)
 last:m=0\/cM X.P ops (m - 1)=3
 down:∀ j i,L j->iI (Region.before ops) j i=true->L i
 QG:∀ j,L j->j < ops.size
 len:G.length=(S ops.size).H.length
 old:∀ x,x < (S m).H.length->ah G x=ah (S m).H x
 oy:∀ i,m<=i->i < ops.size->L i->cM X.P ops i=2->(S i).t=true->ah G (S i).H.length=ah (S (i+1)).H (S i).H.length
 dead:∀ x,(S m).H.length<=x->x < (S ops.size).H.length->(∀ i,m<=i->i < ops.size->L i->cM X.P ops i=2->(S i).t=true->x≠(S i).H.length)->G[x]? = some none
 rel:Rel ι (gS X ops S m L) G w
 fr:Fr ι₀ (S 0).H w₀ ι G w
 size:a.tmps.size=X.nt
 env:∀ q i,i<=ops.size->(∀ j,j < ops.size->ox ops j=some q->(L j↔j < i))->∀ v,cU (S i).dZ q=some v->ay ι (gS X ops S m L) v (a.tmps.getD q undef)
 defers:a.defers=[]
variable {ι₀:Io} {w₀:World} {L:Nat->Prop} {ι:Io} {G:af} {m:Nat} {a:Act} {w:World}
structure Next (ops:Array Oper) (L:Nat->Prop) (i:Nat) (o:Oper):Prop where
 op:ops[i]? = some o
 not:¬ L i
 BE:∀ k,iI (Region.before ops) i k=true->L k
theorem Inv.loc (h:Inv X ops S ι₀ w₀ L ι G m a w) (hr:bF X ops S) {i:Nat} {o:Oper} (hn:Next ops L i o):vJ ι (gS X ops S m L) X.nt (o.looksAt ops) (S i).dZ a:=by
 have hi:=oQ hn.op
 refine ⟨h.size,fun s hs v hv=>h.env s i (by omega) (fun j hj hd=>?_) v hv⟩
 obtain ⟨oj,Xd⟩:=AP hj
 have oF:oj.dst=some s:=by simpa [ox,Xd] using hd
 rcases Nat.lt_trichotomy j i with au | rfl | au
 .refine ⟨fun _=>au,fun _=>?_⟩
  rcases hr.pair au hi with hb | ⟨_,x,y,hx,hy,Nj⟩
  .exact hn.BE j hb
  .rw [Xd] at hx;rw [hn.op] at hy;simp at hx hy;subst hx;subst hy
   exact absurd hs ((Oper.apart_spec Nj).1 s oF)
 .exact ⟨fun hL=>absurd hL hn.not,fun au=>by omega⟩
 .refine ⟨fun hL=>?_,fun h=>by omega⟩
  rcases hr.pair au hj with hb | ⟨_,x,y,hx,hy,Nj⟩
  .exact absurd (h.down j i hL hb) hn.not
  .rw [hn.op] at hx;rw [Xd] at hy;simp at hx hy;subst hx;subst hy
   exact absurd hs ((Oper.apart_spec Nj).2.2 s oF)
def jU (L:Nat->Prop) (i:Nat):Nat->Prop:=fun j=>L j\/j=i
theorem Next.sZ {i:Nat} {o:Oper} (hn:Next ops L i o) (Nk:∀ j k,L j->iI (Region.before ops) j k=true->L k):∀ j k,jU L i j->iI (Region.before ops) j k=true->jU L i k:=by
 rintro j k (hj | rfl) hb
 .exact .inl (Nk j k hj hb)
 .exact .inl (hn.BE k hb)
theorem Inv.iW (h:Inv X ops S ι₀ w₀ L ι G m a w) (hr:bF X ops S) {i:Nat} {o:Oper} (hn:Next ops L i o) {ι':Io} {D':Nat->Prop} {c:Value} (hc:ay ι' D' (S i).v c)
  (fD:∀ {v c:Value},ay ι (gS X ops S m L) v c->ay ι' D' v c) :
  ∀ q k,k<=ops.size->(∀ j,j < ops.size->ox ops j=some q->(jU L i j↔j < k))->∀ v,cU (S k).dZ q=some v->ay ι' D' v ((a.put o.dst c).tmps.getD q undef):=by
 intro q k hk dc v hv
 have hi:=oQ hn.op
 by_cases hq:o.dst=some q
 .have hdi:ox ops i=some q:=by simp [ox,hn.op,hq]
  have hik:i < k:=(dc i hi hdi).1 (.inr rfl)
  have eJ:∀ j,i < j->j < k->ox ops j≠some q:=by
   intro j h1 h2 hd
   have hj:j < ops.size:=by omega
   have hL:L j:=by
    rcases (dc j hj hd).2 h2 with hL | rfl
    .exact hL
    .omega
   rcases hr.pair h1 hj with hb | ⟨_,x,y,hx,hy,Nj⟩
   .exact hn.not (h.down j i hL hb)
   .rw [hn.op] at hx;simp at hx;subst hx
    have:y.dst=some q:=by simpa [ox,hy] using hd
    exact (Oper.apart_spec Nj).2.1 q hq this
  obtain ⟨e1,e2⟩:=hr.wrote hik hk hdi eJ
  rw [e1] at hv;simp at hv;subst hv
  rw [hq]
  simp only [Act.put]
  rw [Qm6 (by rw [h.size];exact e2),if_pos rfl]
  exact hc
 .have dF:(a.put o.dst c).tmps.getD q undef=a.tmps.getD q undef:=by
   cases hd:o.dst with
   | none=>rfl
   | some d =>
    have aU:d≠q:=fun e=>hq (by rw [hd,e])
    simp only [Act.put,Array.getD_eq_getD_getElem?,Array.getElem?_setIfInBounds_ne aU]
  rw [dF]
  refine fD (h.env q k hk (fun j hj hd=>?_) v hv)
  have hji:j≠i:=fun e=>hq (by subst e;simpa [ox,hn.op] using hd)
  rw [<- dc j hj hd]
  exact ⟨fun hL=>.inl hL,fun hL=>hL.resolve_right hji⟩
theorem QH (a:Act) (dst:Option Tmp) (c:Value):(a.put dst c).tmps.size=a.tmps.size:=by cases dst<;>simp [Act.put]
theorem Inv.still (h:Inv X ops S ι₀ w₀ L ι G m a w) (hr:bF X ops S) {i:Nat} {o:Oper} (hn:Next ops L i o) (E0:cM X.P ops i≠3) (w4:cM X.P ops i=2->(S i).t=false) {c:Value} (hc:ay ι (gS X ops S m L) (S i).v c) :
  Inv X ops S ι₀ w₀ (jU L i) ι G m (a.put o.dst c) w:=by
 have hi:=oQ hn.op
 have kn:∀ x,gS X ops S m L x->gS X ops S m (jU L i) x:=by
  rintro x (hx | ⟨k,h1,h2,h3,h4,h5,h6⟩)
  .exact .inl hx
  .exact .inr ⟨k,h1,h2,.inl h3,h4,h5,h6⟩
 have oz:∀ k,jU L i k->cM X.P ops k=2->(S k).t=true->L k:=by
  rintro k (hL | rfl) h2 ht
  .exact hL
  .rw [w4 h2] at ht;simp at ht
 have fD:∀ {v c:Value},ay ι (gS X ops S m L) v c->ay ι (gS X ops S m (jU L i)) v c:=fun hv=>hv.mono kn fun _ _=>rfl
 refine ⟨h.J3,fun e he C_=>?_,h.last,hn.sZ h.down,?_,h.len,h.old,fun k h1 h2 h3 h4 h5=>h.oy k h1 h2 (oz k h3 h4 h5) h4 h5,fun x h1 h2 h3=>h.dead x h1 h2 (fun k g1 g2 g3 g4 g5=>h3 k g1 g2 (.inl g3) g4 g5),h.rel.domain kn,h.fr,
  by rw [QH];exact h.size,h.iW hr hn (fD hc) fD,by rw [I7];exact h.defers⟩
 .have aU:e≠i:=fun e'=>E0 (e'▸C_)
  rw [<- h.d_ e he C_]
  exact ⟨fun hL=>hL.resolve_right aU,fun hL=>.inl hL⟩
 .rintro j (hL | rfl)
  .exact h.QG j hL
  .exact hi
theorem Inv.Dc (h:Inv X ops S ι₀ w₀ L ι G m a w) (hr:bF X ops S) {i:Nat} {o:Oper} (hn:Next ops L i o) (hc:cM X.P ops i=2):m<=i:=by
 have hi:=oQ hn.op
 by_cases au:m<=i
 .exact au
 .exfalso
  rcases h.last with hm | hm
  .omega
  .have E1:m - 1 < ops.size:=by have:=h.J3;omega
   have hL:L (m - 1):=(h.d_ (m - 1) E1 hm).2 (by omega)
   have aU:i≠m - 1:=fun e=>by rw [e,hm] at hc;omega
   rcases hr.pair (i:=i) (j:=m - 1) (by omega) E1 with hb | ⟨hx,_⟩
   .exact hn.not (h.down _ _ hL hb)
   .exact hx ⟨hm,by omega⟩
theorem Inv.make (h:Inv X ops S ι₀ w₀ L ι G m a w) (hr:bF X ops S) {i:Nat} {o:Oper} (hn:Next ops L i o) (hc:cM X.P ops i=2) (ht:(S i).t=true) {vs cs rest:List Value} {fm:TypeId} {fz:Nat×Nat} {w0:World} {c:Value}
  (hH:(S (i+1)).H=dr (S i).H vs) (hl:aZ ι (gS X ops S m L) vs cs) (bL:∀ v∈vs,az v=true) (hfz:oV fz (cs++rest).length) (e1:w0.heap=w.heap) (e2:w0.os=w.os) (e3:w0.tape=w.tape) (e4:w0.output=w.output)
  (hv:ay (ι.set (S i).H.length ⟨w.heap.size,0,(cs++rest).length⟩) (fun b=>gS X ops S m L b\/b=(S i).H.length) (S i).v c) :
  Inv X ops S ι₀ w₀ (jU L i) (ι.set (S i).H.length ⟨w.heap.size,0,(cs++rest).length⟩) (G.set (S i).H.length (some ⟨vs,false,none⟩)) m (a.put o.dst c) (w0.alloc (.cells (cs++rest).toArray fm fz)):=by
 have hi:=oQ hn.op
 have oh:=h.Dc hr hn hc
 have hlen:=hr.dK hi hc ht
 have Dd:=hr.bS oh (by omega)
 have hle:=hr.bS (m:=i+1) (i:=ops.size) (by omega) (Zd _)
 have Ip:∀ k,m<=k->k < ops.size->cM X.P ops k=2->(S k).t=true->k≠i->(S k).H.length≠(S i).H.length:=by
  intro k h1 h2 h3 h4 h5
  rcases Nat.lt_or_gt_of_ne h5 with au | au
  .have:=hr.dK h2 h3 h4
   have:=hr.bS (m:=k+1) (i:=i) (by omega) (by omega)
   omega
  .have:=hr.bS (m:=i+1) (i:=k) (by omega) (by omega)
   omega
 have hnD:¬ gS X ops S m L (S i).H.length:=by
  rintro (hx | ⟨k,h1,h2,h3,h4,h5,h6⟩)
  .omega
  .by_cases e:k=i
   .subst e;exact hn.not h3
   .exact Ip k h1 h2 h4 h5 e h6.symm
 have hG:G[(S i).H.length]? = some none:=h.dead _ Dd (by omega) (fun k g1 g2 g3 g4 g5 e=>Ip k g1 g2 g4 g5 (fun e'=>hn.not (e'▸g3)) e.symm)
 have hGl:(S i).H.length < G.length:=(Z0 hG).1
 have hD:∀ b,(gS X ops S m L b\/b=(S i).H.length)->gS X ops S m (jU L i) b:=by
  rintro b ((hx | ⟨k,h1,h2,h3,h4,h5,h6⟩) | rfl)
  .exact .inl hx
  .exact .inr ⟨k,h1,h2,.inl h3,h4,h5,h6⟩
  .exact .inr ⟨i,oh,hi,.inr rfl,hc,ht,rfl⟩
 have hw:w0.heap.size=w.heap.size:=by rw [e1]
 have w5:=(h.rel.bz e1).fill hG hnD hl bL rest fm fz hfz
 rw [hw] at w5
 have fD:∀ {v c:Value},ay ι (gS X ops S m L) v c->ay (ι.set (S i).H.length ⟨w.heap.size,0,(cs++rest).length⟩) (gS X ops S m (jU L i)) v c :=
  fun hr=>hr.mono (fun b hb=>hD b (.inl hb)) fun b hb=>Io.aS _ _ (fun e=>hnD (e▸hb))
 refine ⟨h.J3,fun e he C_=>?_,h.last,hn.sZ h.down,?_,by rw [List.length_set];exact h.len,fun x hx=>?_,fun k g1 g2 g3 g4 g5=>?_,fun x g1 g2 g3=>?_,w5.domain hD,?_,by rw [QH];exact h.size,
  h.iW hr hn (hv.mono hD fun _ _=>rfl) fD,by rw [I7];exact h.defers⟩
 .have aU:e≠i:=fun e'=>by rw [e'] at C_;omega
  rw [<- h.d_ e he C_]
  exact ⟨fun hL=>hL.resolve_right aU,fun hL=>.inl hL⟩
 .rintro j (hL | rfl)
  .exact h.QG j hL
  .exact hi
 .rw [Qn (by omega)];exact h.old x hx
 .by_cases e:k=i
  .subst e;rw [tC hGl,hH,MC]
  .rw [Qn (Ne.symm (Ip k g1 g2 g4 g5 e))]
   exact h.oy k g1 g2 (g3.resolve_right e) g4 g5
 .have aU:(S i).H.length≠x:=Ne.symm (g3 i oh hi (.inr rfl) hc ht)
  rw [List.getElem?_set_ne aU]
  exact h.dead x g1 g2 (fun k q1 q2 q3 q4 q5=>g3 k q1 q2 (.inl q3) q4 q5)
 .have hgc:∀ {b:Nat} {k:bx},ah (G.set (S i).H.length (some ⟨vs,false,none⟩)) b=some k->(b=(S i).H.length/\k.ro=false)\/(b≠(S i).H.length/\ah G b=some k):=by
   intro b k hb
   by_cases e:b=(S i).H.length
   .subst e;rw [tC hGl] at hb;simp at hb;subst hb;exact .inl ⟨rfl,rfl⟩
   .rw [Qn (Ne.symm e)] at hb;exact .inr ⟨e,hb⟩
  have h0:=hr.bS (m:=0) (i:=i) (by omega) (by omega)
  refine ⟨by rw [List.length_set];exact h.fr.len,fun b hb=>by rw [Io.aS _ _ (by omega)];exact h.fr.io b hb,e2.trans h.fr.os,e3.trans h.fr.tape,e4.trans h.fr.output,?_,fun k hk eJ=>?_,fun b k hb bn=>?_,fun b k hb bn=>?_⟩
  .rw [World.size_alloc,hw];have:=h.fr.size;omega
  .rw [FE _ _ (by rw [hw];have:=h.fr.size;omega),e1];exact h.fr.frame k hk eJ
  .rcases hgc hb with ⟨rfl,_⟩ | ⟨e,hb⟩
   .left;rw [Io.aC];exact h.fr.size
   .rw [Io.aS _ _ e];exact h.fr.new b k hb bn
  .rcases hgc hb with ⟨rfl,e⟩ | ⟨e,hb⟩
   .rw [e] at bn;simp at bn
   .exact h.fr.ro b k hb bn
theorem Inv.Iq (h:Inv X ops S ι₀ w₀ L ι G m a w) (hr:bF X ops S) {e:Nat} {o:Oper} (hn:Next ops L e o) (hc:cM X.P ops e=3) :
  m<=e/\(∀ x,x < (S e).H.length->ah G x=ah (S e).H x)/\(∀ x,gS X ops S m L x->x < (S e).H.length\/∃ i,e+1<=i/\i < ops.size/\L i/\cM X.P ops i=2/\(S i).t=true/\x=(S i).H.length):=by
 have he:=oQ hn.op
 have BP:m<=e:=by
  by_cases au:m<=e
  .exact au
  .exact absurd ((h.d_ e he hc).2 (by omega)) hn.not
 have eJ:∀ k,m<=k->k < e->cM X.P ops k≠3:=by
  intro k h1 h2 h3
  rcases hr.pair h2 he with hb | ⟨hx,_⟩
  .have:=(h.d_ k (by omega) h3).1 (hn.BE k hb);omega
  .exact hx ⟨hc,by omega⟩
 refine ⟨BP,fun x hx=>?_,?_⟩
 .by_cases Nl:x < (S m).H.length
  .rw [h.old x Nl,hr.keep BP (by omega) eJ x Nl]
  .obtain ⟨i,g1,g2,g3,g4,g5,g6⟩:=hr.made BP (by omega) eJ x (by omega) hx
   have hL:L i:=by
    rcases hr.pair g2 he with hb | ⟨hx,_⟩
    .exact hn.BE i hb
    .exact absurd ⟨hc,by omega⟩ hx
   have:=h.oy i g1 (by omega) hL g3 g4
   rw [<- g5] at this
   rw [this,g6]
 .rintro x (hx | ⟨i,h1,h2,h3,h4,h5,h6⟩)
  .have:=hr.bS BP (by omega);exact .inl (by omega)
  .rcases Nat.lt_trichotomy i e with au | rfl | au
   .have:=hr.dK h2 h4 h5
    have:=hr.bS (m:=i+1) (i:=e) (by omega) (by omega)
    exact .inl (by omega)
   .rw [hc] at h4;omega
   .exact .inr ⟨i,by omega,h2,h3,h4,h5,h6⟩
theorem Inv.Nn (h:Inv X ops S ι₀ w₀ L ι G m a w) (hr:bF X ops S) {e:Nat} {o:Oper} (hn:Next ops L e o) (hc:cM X.P ops e=3) (ht:(S e).t=false) {c:Value} (hv:∀ D,ay ι D (S e).v c) :
  Inv X ops S ι₀ w₀ (jU L e) ι G (e+1) (a.put o.dst c) w:=by
 have he:=oQ hn.op
 obtain ⟨BP,hold,kn⟩:=h.Iq hr hn hc
 have hH:(S (e+1)).H=(S e).H:=((hr.step e o hn.op).no ht).2
 have hD:∀ x,gS X ops S m L x->gS X ops S (e+1) (jU L e) x:=by
  intro x hx
  rcases kn x hx with h1 | ⟨i,h1,h2,h3,h4,h5,h6⟩
  .left;rw [hH];exact h1
  .exact .inr ⟨i,h1,h2,.inl h3,h4,h5,h6⟩
 have fD:∀ {v c:Value},ay ι (gS X ops S m L) v c->ay ι (gS X ops S (e+1) (jU L e)) v c:=fun hr=>hr.mono hD fun _ _=>rfl
 have oz:∀ k,jU L e k->cM X.P ops k=2->L k:=by
  rintro k (hL | rfl) h2
  .exact hL
  .rw [hc] at h2;omega
 refine ⟨by omega,fun k hk sK=>?_,.inr hc,hn.sZ h.down,?_,h.len,fun x hx=>by rw [hH] at hx ⊢;exact hold x hx,fun k g1 g2 g3 g4 g5=>h.oy k (by omega) g2 (oz k g3 g4) g4 g5,fun x g1 g2 g3=>?_,h.rel.domain hD,h.fr,by rw [QH];exact h.size,
  h.iW hr hn (hv _) fD,by rw [I7];exact h.defers⟩
 .constructor
  .rintro (hL | rfl)
   .have:=(h.d_ k hk sK).1 hL;omega
   .omega
  .intro au
   by_cases e':k=e
   .exact .inr e'
   .refine .inl ?_
    by_cases Bg:k < m
    .exact (h.d_ k hk sK).2 Bg
    .exfalso
     rcases hr.pair (i:=k) (j:=e) (by omega) he with hb | ⟨hx,_⟩
     .have:=(h.d_ k hk sK).1 (hn.BE k hb);omega
     .exact hx ⟨hc,by omega⟩
 .rintro j (hL | rfl)
  .exact h.QG j hL
  .exact he
 .refine h.dead x ?_ g2 (fun k q1 q2 q3 q4 q5 hx=>?_)
  .have:=hr.bS BP (by omega);rw [hH] at g1;omega
  .rcases Nat.lt_trichotomy k e with au | rfl | au
   .have:=hr.dK q2 q4 q5
    have:=hr.bS (m:=k+1) (i:=e) (by omega) (by omega)
    rw [hH] at g1;omega
   .rw [hc] at q4;omega
   .exact g3 k (by omega) q2 (.inl q3) q4 q5 hx
theorem Inv.No (h:Inv X ops S ι₀ w₀ L ι G m a w) (hr:bF X ops S) {e:Nat} {o:Oper} (hn:Next ops L e o) (hc:cM X.P ops e=3):Rel ι (aL (S e).H.length) (S e).H w:=by
 have he:=oQ hn.op
 obtain ⟨BP,hold,kn⟩:=h.Iq hr hn hc
 have fE:=(hr.abs e (by omega)).2.1
 have hG:∀ {b:Nat} {k:bx},ah (S e).H b=some k->ah G b=some k:=fun hb=>by rw [hold _ (Qt hb)];exact hb
 refine ⟨fun b k hb=>?_,fun b b' k k' h1 h2=>h.rel.inj b b' k k' (hG h1) (hG h2),fun b k hb hr=>h.rel.iy b k (hG hb) hr,h.rel.gw⟩
 exact (h.rel.aJ b k (hG hb)).bw rfl rfl fun i hi c hv=>hv.re (fE b (Qt hb) k hb _ (List.getElem_mem hi)) fun _ _ _=>rfl
theorem Inv.E2 (h:Inv X ops S ι₀ w₀ L ι G m a w) (hr:bF X ops S) {e:Nat} {o:Oper} (hn:Next ops L e o):bt ι (gS X ops S m L) X.nt (bJ (ou o) (S e).env) a:=by
 have hl:=h.loc hr hn
 refine vJ.bJ ⟨hl.size,fun s hs v hv=>?_⟩
 rw [(hr.step e o hn.op).same] at hv
 exact hl.get s (by rw [Qdt];exact List.mem_append.2 (.inl hs)) v hv
theorem Inv.Ir (h:Inv X ops S ι₀ w₀ L ι G m a w) (hr:bF X ops S) {e:Nat} {o:Oper} (hn:Next ops L e o):bt ι (aL (S e).H.length) X.nt (bJ (ou o) (S e).env) a:=by
 have h1:=h.E2 hr hn
 exact ⟨h1.size,fun s v hv=>(h1.get s v hv).re ((hr.AQ (oQ hn.op)).bJ s v hv) fun _ _ _=>rfl⟩
theorem Inv.eff (h:Inv X ops S ι₀ w₀ L ι G m a w) (hr:bF X ops S) {e:Nat} {o:Oper} (hn:Next ops L e o) (hc:cM X.P ops e=3) {ι':Io} {w':World} {c:Value}
  (hR:Rel ι' (aL (S (e+1)).H.length) (S (e+1)).H w') (hv:ay ι' (aL (S (e+1)).H.length) (S e).v c) (hf:Fr ι (S e).H w ι' (S (e+1)).H w') :
  Inv X ops S ι₀ w₀ (jU L e) (fun x=>if x < (S (e+1)).H.length then ι' x else ι x) ((S (e+1)).H++G.drop (S (e+1)).H.length) (e+1) (a.put o.dst c) w':=by
 have he:=oQ hn.op
 obtain ⟨BP,hold,kn⟩:=h.Iq hr hn hc
 have hle:(S (e+1)).H.length<=G.length:=by rw [h.len];exact hr.bS (by omega) (Zd _)
 have ir:=hr.ow he
 have hG:∀ {b:Nat} {k:bx},ah (S e).H b=some k->ah G b=some k:=fun hb=>by rw [hold _ (Qt hb)];exact hb
 have au:∀ {x:Nat},x < (S (e+1)).H.length->ah ((S (e+1)).H++G.drop (S (e+1)).H.length) x=ah (S (e+1)).H x:=fun hx=>FB hx
 have tA:∀ {x:Nat},(S (e+1)).H.length<=x->((S (e+1)).H++G.drop (S (e+1)).H.length)[x]? = G[x]?:=by
  intro x hx
  rw [Zq hx,Zp]
  congr 1;omega
 have Np:∀ {x:Nat},(S (e+1)).H.length<=x->ah ((S (e+1)).H++G.drop (S (e+1)).H.length) x=ah G x:=by
  intro x hx;unfold ah;rw [tA hx]
 have iO:∀ i,e+1<=i->i < ops.size->(S (e+1)).H.length<=(S i).H.length:=fun i h1 h2=>hr.bS h1 (by omega)
 have hD:∀ x,gS X ops S m L x->gS X ops S (e+1) (jU L e) x/\(if x < (S (e+1)).H.length then ι' x else ι x)=ι x:=by
  intro x hx
  rcases kn x hx with h1 | ⟨i,h1,h2,h3,h4,h5,h6⟩
  .exact ⟨.inl (by omega),by rw [if_pos (by omega)];exact hf.io x h1⟩
  .have:=iO i h1 h2
   exact ⟨.inr ⟨i,h1,h2,.inl h3,h4,h5,h6⟩,by rw [if_neg (by omega)]⟩
 have fD:∀ {v c:Value},ay ι (gS X ops S m L) v c->ay (fun x=>if x < (S (e+1)).H.length then ι' x else ι x) (gS X ops S (e+1) (jU L e)) v c :=
  fun hr=>hr.mono (fun x hx=>(hD x hx).1) fun x hx=>(hD x hx).2
 have AS:∀ {v c:Value},ay ι' (aL (S (e+1)).H.length) v c->ay (fun x=>if x < (S (e+1)).H.length then ι' x else ι x) (gS X ops S (e+1) (jU L e)) v c :=
  fun hr=>hr.mono (fun x hx=>.inl hx) fun x hx=>if_pos hx
 have oz:∀ k,jU L e k->cM X.P ops k=2->L k:=by
  rintro k (hL | rfl) h2
  .exact hL
  .rw [hc] at h2;omega
 have Nq:∀ {x:Nat} {k:bx},(S (e+1)).H.length<=x->ah G x=some k->∃ i,e+1<=i/\i < ops.size/\L i/\cM X.P ops i=2/\(S i).t=true/\x=(S i).H.length/\k.ro=false:=by
  intro x k hx hk
  have hxG:=Qt hk
  rw [h.len] at hxG
  apply Classical.byContradiction
  intro eJ
  have EM:=h.dead x (by have:=hr.bS BP (by omega:e<=ops.size);omega) hxG (fun i g1 g2 g3 g4 g5 mW=>by
   rcases Nat.lt_trichotomy i e with hl | rfl | hl
   .have:=hr.dK g2 g4 g5
    have:=hr.bS (m:=i+1) (i:=e) (by omega) (by omega)
    omega
   .rw [hc] at g4;omega
   .have hp:=h.oy i g1 g2 g3 g4 g5
    rw [<- mW,hk] at hp
    obtain ⟨oi,hoi⟩:=AP g2
    have hF:=(hr.step i oi hoi).yes g5
    have cz:=Nh (P:=X.P) hoi
    rw [g4] at cz
    unfold jJ at hF
    rw [<- cz] at hF
    obtain ⟨vs,mk,_,eH,_⟩:=hF
    rw [mW,eH,MC] at hp
    simp at hp
    exact eJ ⟨i,by omega,g2,g3,g4,g5,mW,by rw [hp]⟩)
  unfold ah at hk;rw [EM] at hk;simp at hk
 have cO:∀ {x:Nat} {k:bx},ah ((S (e+1)).H++G.drop (S (e+1)).H.length) x=some k->(x < (S (e+1)).H.length/\ah (S (e+1)).H x=some k)\/((S (e+1)).H.length<=x/\ah G x=some k/\k.ro=false):=by
  intro x k hk
  by_cases hx:x < (S (e+1)).H.length
  .rw [au hx] at hk;exact .inl ⟨hx,hk⟩
  .rw [Np (by omega)] at hk
   obtain ⟨i,_,_,_,_,_,_,bn⟩:=Nq (by omega) hk
   exact .inr ⟨by omega,hk,bn⟩
 have AT:∀ {x y:Nat} {k k':bx},x < (S (e+1)).H.length->ah (S (e+1)).H x=some k->(S (e+1)).H.length<=y->ah G y=some k'->k'.ro=false->(ι' x).aJ≠(ι y).aJ:=by
  intro x y k k' hx hk hy de bn
  have hyl:=h.rel.lt de
  cases hkr:k.ro with
  | false =>
   rcases hf.new x k hk hkr with h1 | ⟨b0,k0,h1,h2,h3⟩
   .omega
   .rw [<- h3]
    have:=Qt h1
    exact h.rel.inj b0 y k0 k' (hG h1) de (by omega) (.inr bn)
  | true =>
   have h1:=hf.ro x k hk hkr
   have h2:=Qt h1
   rw [hf.io x h2]
   exact h.rel.inj x y k k' (hG h1) de (by omega) (.inr bn)
 refine ⟨by omega,fun k hk sK=>?_,.inr hc,hn.sZ h.down,?_,by rw [Zf,List.length_drop,<- h.len];omega,fun x hx=>au hx,fun k g1 g2 g3 g4 g5=>?_,fun x g1 g2 g3=>?_,⟨fun x k hk=>?_,fun x y k k' h1 h2 aU bn=>?_,fun x k hk bn=>(by
   rcases cO hk with ⟨g1,g2⟩ | ⟨g1,g2,_⟩
   .rw [if_pos g1];exact hR.iy x k g2 bn
   .rw [if_neg (by omega)];exact h.rel.iy x k g2 bn),hR.gw⟩,?_,by rw [QH];exact h.size,
  h.iW hr hn (AS hv) fD,by rw [I7];exact h.defers⟩
 .constructor
  .rintro (hL | rfl)
   .have:=(h.d_ k hk sK).1 hL;omega
   .omega
  .intro Nr
   by_cases e':k=e
   .exact .inr e'
   .refine .inl ?_
    by_cases Bg:k < m
    .exact (h.d_ k hk sK).2 Bg
    .exfalso
     rcases hr.pair (i:=k) (j:=e) (by omega) he with hb | ⟨hx,_⟩
     .have:=(h.d_ k hk sK).1 (hn.BE k hb);omega
     .exact hx ⟨hc,by omega⟩
 .rintro j (hL | rfl)
  .exact h.QG j hL
  .exact he
 .rw [Np (iO k g1 g2)];exact h.oy k (by omega) g2 (oz k g3 g4) g4 g5
 .rw [tA g1]
  refine h.dead x (by have:=hr.bS BP (by omega:e<=ops.size);omega) g2 (fun k q1 q2 q3 q4 q5 hx=>?_)
  rcases Nat.lt_trichotomy k e with hl | rfl | hl
  .have:=hr.dK q2 q4 q5
   have:=hr.bS (m:=k+1) (i:=e) (by omega) (by omega)
   omega
  .rw [hc] at q4;omega
  .exact g3 k (by omega) q2 (.inl q3) q4 q5 hx
 .rcases cO hk with ⟨h1,h2⟩ | ⟨h1,h2,bn⟩
  .exact (hR.aJ x k h2).bw rfl (if_pos h1) fun i hi c hr=>AS hr
  .refine (h.rel.aJ x k h2).bw (hf.frame _ (h.rel.lt h2) ?_) (if_neg (by omega)) fun i hi c hr=>fD hr
   intro b k' hb Is
   have:=Qt hb
   exact h.rel.inj b x k' k (hG hb) h2 (by omega) (.inl Is)
 .rcases cO h1 with ⟨g1,g2⟩ | ⟨g1,g2,Xe⟩
  .rcases cO h2 with ⟨q1,q2⟩ | ⟨q1,q2,Ns⟩
   .rw [if_pos g1,if_pos q1];exact hR.inj x y k k' g2 q2 aU bn
   .rw [if_pos g1,if_neg (by omega)];exact AT g1 g2 q1 q2 Ns
  .rcases cO h2 with ⟨q1,q2⟩ | ⟨q1,q2,Ns⟩
   .rw [if_neg (by omega),if_pos q1];exact Ne.symm (AT q1 q2 g1 g2 Xe)
   .rw [if_neg (by omega),if_neg (by omega)];exact h.rel.inj x y k k' g2 q2 aU bn
 .have h0:=hr.bS (m:=0) (i:=e) (by omega) (by omega)
  refine ⟨by simp;omega,fun b hb=>by rw [if_pos (by omega),hf.io b (by omega)];exact h.fr.io b hb,hf.os.trans h.fr.os,hf.tape.trans h.fr.tape,hf.output.trans h.fr.output,Nat.le_trans h.fr.size hf.size,fun k hk eJ=>?_,fun x k hk bn=>?_,fun x k hk bn=>?_⟩
  .rw [hf.frame k (Zm hk h.fr.size) ?_,h.fr.frame k hk eJ]
   intro b k' hb bn heq
   rcases h.fr.new b k' (hG hb) bn with h1 | ⟨b0,k0,h1,h2,h3⟩
   .omega
   .exact eJ b0 k0 h1 h2 (h3.trans heq)
  .rcases cO hk with ⟨g1,g2⟩ | ⟨g1,g2,_⟩
   .rw [if_pos g1]
    rcases hf.new x k g2 bn with h1 | ⟨b0,k0,h1,h2,h3⟩
    .exact .inl (Nat.le_trans h.fr.size h1)
    .rw [<- h3];exact h.fr.new b0 k0 (hG h1) h2
   .rw [if_neg (by omega)];exact h.fr.new x k g2 bn
  .rcases cO hk with ⟨g1,g2⟩ | ⟨g1,g2,Is⟩
   .exact h.fr.ro x k (hG (hf.ro x k g2 bn)) bn
   .rw [Is] at bn;simp at bn
theorem Qqt {H G:af} (h:∀ x,x < H.length->ah G x=ah H x) {p:Addr} {v:Value} (hl:gL H p=some v):gL G p=some v:=by
 unfold gL at hl ⊢
 obtain ⟨k,hk,hv⟩:=Q2 hl
 rw [h _ (Qt hk),hk];exact hv
theorem Xf {H G:af} (h:∀ x,x < H.length->ah G x=ah H x) {p:Addr} {n:Nat} {l:List Value} (hl:Qx H p n=some l):Qx G p n=some l:=by
 unfold Qx at hl ⊢
 obtain ⟨k,hk,hv⟩:=Q2 hl
 rw [h _ (Qt hk),hk];exact hv
theorem Qnx {H G:af} (h:∀ x,x < H.length->ah G x=ah H x) {p:Addr} {n:Nat} {l:List Value} (hl:fN H p n=some l):fN G p n=some l:=by
 cases n with
 | zero=>exact hl
 | succ m=>exact Xf h hl
theorem Qtv {P:Program} {op:Op} {env:Env} {H G:af} (h:∀ x,x < H.length->ah G x=ah H x) {v:Value} (hl:c_ P op env H=some v):c_ P op env G=some v:=by
 unfold c_ at hl ⊢
 cases op with
 | load t x =>
  simp only at hl ⊢
  cases hg:Bf P t x with
  | some q=>rw [hg] at hl;exact hl
  | none =>
  rw [hg] at hl
  simp only at hl ⊢
  replace hl:=Q2 hl;obtain ⟨u,hu,hl⟩:=hl
  rw [hu];simp only [Q1]
  replace hl:=I3 hl;obtain ⟨p,rfl,hl⟩:=hl
  simp only [e_]
  replace hl:=Q2 hl;obtain ⟨i,hi,hl⟩:=hl
  rw [hi];simp only
  split at hl
  .replace hl:=Q2 hl;obtain ⟨l,h1,hl⟩:=hl
   rw [Xf h h1];exact hl
  .replace hl:=Q2 hl;obtain ⟨l,h1,hl⟩:=hl
   rw [Xf h h1];exact hl
  .exact Qqt h hl
  .simp at hl
 | convert s d x =>
  simp only at hl ⊢
  replace hl:=Q2 hl;obtain ⟨u,hu,hl⟩:=hl
  rw [hu];simp only [Q1]
  replace hl:=Q2 hl;obtain ⟨l,h1,hl⟩:=hl
  have:Qf G 1 u=some l:=by
   unfold Qf at h1 ⊢
   split at h1
   .exact h1
   .exact Qnx h h1
   .simp at h1
  rw [this];exact hl
 | _=>simp at hl
end
section
variable {X:Cx} {ops:Array Oper} {S:Nat->St} {ι₀:Io} {w₀:World} {L:Nat->Prop} {ι:Io} {G:af} {m:Nat} {a:Act} {w:World}
theorem Qxf {p:Nat->Bool} {N x:Nat} (hx:x∈(List.range N).filter p) (Nt:∀ y∈(List.range N).filter p,y<=x):∃ r,((List.range N).filter p).reverse=x::r:=by
 have hs:((List.range N).filter p).Pairwise (· < ·):=List.Pairwise.filter p List.pairwise_lt_range
 generalize (List.range N).filter p=l at hx Nt hs
 cases hl:l.reverse with
 | nil=>have:l=[]:=List.reverse_eq_nil_iff.1 hl;subst this;simp at hx
 | cons y r =>
  have e:l=r.reverse++[y]:=by rw [<- List.reverse_reverse l,hl];simp
  subst e
  have hy:=Nt y (by simp)
  rcases List.mem_append.1 hx with h1 | h1
  .have:=(List.pairwise_append.1 hs).2.2 x h1 y (by simp)
   omega
  .simp at h1;subst h1;exact ⟨r,rfl⟩
theorem Inv.vK (h:Inv X ops S ι₀ w₀ L ι G m a w) {i:Nat} {o:Oper} (hn:Next ops L i o) (hc:cM X.P ops i≠3):m∈HH X.P ops i:=by
 unfold HH
 simp only [List.mem_cons,List.mem_map]
 have De:∀ e∈((List.range ops.size).filter fun e=>Nat.beq (cM X.P ops e) 3).filter fun e=>iI (Region.before ops) i e,e < m:=by
  intro e he
  simp only [List.mem_filter,List.mem_range] at he
  obtain ⟨⟨h1,h2⟩,h3⟩:=he
  exact (h.d_ e h1 (Z7 h2)).1 (hn.BE e h3)
 rcases h.last with hm | hm
 .subst hm
  left
  cases AU:(((List.range ops.size).filter fun e=>Nat.beq (cM X.P ops e) 3).filter fun e=>iI (Region.before ops) i e).reverse with
  | nil=>rfl
  | cons e r =>
   have:e∈((List.range ops.size).filter fun e=>Nat.beq (cM X.P ops e) 3).filter fun e=>iI (Region.before ops) i e:=by
    rw [<- List.mem_reverse,AU];simp
   have:=De e this
   omega
 .by_cases h0:m=0
  .subst h0
   left
   cases AU:(((List.range ops.size).filter fun e=>Nat.beq (cM X.P ops e) 3).filter fun e=>iI (Region.before ops) i e).reverse with
   | nil=>rfl
   | cons e r =>
    have:e∈((List.range ops.size).filter fun e=>Nat.beq (cM X.P ops e) 3).filter fun e=>iI (Region.before ops) i e:=by
     rw [<- List.mem_reverse,AU];simp
    have:=De e this
    omega
  .have E1:m - 1 < ops.size:=by have:=h.J3;omega
   have hL:L (m - 1):=(h.d_ _ E1 hm).2 (by omega)
   cases hb:iI (Region.before ops) i (m - 1) with
   | true =>
    left
    rw [List.filter_filter] at De ⊢
    have ki:(m - 1)∈(List.range ops.size).filter fun e=>iI (Region.before ops) i e&&Nat.beq (cM X.P ops e) 3:=by
     simp only [List.mem_filter,List.mem_range,Z8]
     exact ⟨E1,hb,by rw [hm];rfl⟩
    obtain ⟨r,hr⟩:=Qxf ki (fun y hy=>by have:=De y hy;omega)
    rw [hr]
    simp only;omega
   | false =>
    right
    refine ⟨m - 1,?_,by omega⟩
    simp only [List.mem_filter,List.mem_range]
    refine ⟨⟨E1,by rw [hm];rfl⟩,?_⟩
    have sJ:iI (Region.before ops) (m - 1) i=false:=by
     cases hq:iI (Region.before ops) (m - 1) i with
     | false=>rfl
     | true=>exact absurd (h.down _ _ hL hq) hn.not
    have aU:Nat.beq (m - 1) i=false:=by
     cases hq:Nat.beq (m - 1) i with
     | false=>rfl
     | true=>exact absurd (Z7 hq▸hL) hn.not
    rw [hb,sJ,aU];rfl
theorem bF.const (hr:bF X ops S) {lo:Nat}:∀ {hi:Nat},lo<=hi->hi<=ops.size->(∀ k,lo<=k->k < hi->cM X.P ops k < 2)->(S hi).H=(S lo).H
 | 0,h1,_,_=>by rw [Nat.le_zero.1 h1]
 | hi+1,h1,h2,h3=>by
  by_cases e:lo=hi+1
  .subst e;rfl
  .have ih:=hr.const (hi:=hi) (by omega) (by omega) fun k h4 h5=>h3 k h4 (by omega)
   have hc:=h3 hi (by omega) (by omega)
   rcases hr.quiet (i:=hi) (by omega) (by omega) with q | ⟨q,_⟩
   .rw [q,ih]
   .omega
def Xg (X:Cx) (ops:Array Oper) (i:Nat) (o:Oper) (m:Nat):Prop :=
 ∃ t k ok,PJ o.op=some t/\m<=k/\k < i/\iI (Region.before ops) i k=true/\cM X.P ops k=2/\ops[k]? = some ok/\ok.guard=none/\ok.dst=some t/\∀ j,k < j->j < i->cM X.P ops j≠3/\ox ops j≠some t
def It (X:Cx) (ops:Array Oper) (S:Nat->St):Prop :=
 ∀ i o,ops[i]? = some o->cM X.P ops i=1->∀ m∈HH X.P ops i,c_ X.P o.op (S i).env (S m).H=c_ X.P o.op (S i).env (S i).H\/Xg X ops i o m
theorem Inv.step (h:Inv X ops S ι₀ w₀ L ι G m a w) (hr:bF X ops S) (eR:It X ops S) {i:Nat} {o:Oper} (hn:Next ops L i o) {K:Act->World->Prop} {Q:Exit->Act->World->Prop}
  (hK:∀ ι' G' m' a' w',Inv X ops S ι₀ w₀ (jU L i) ι' G' m' a' w'->K a' w'):wpOp X.P ops Q i K a w:=by
 have hi:=oQ hn.op
 have hs:=hr.step i o hn.op
 have cz:=Nh (P:=X.P) hn.op
 have Nu:=h.loc hr hn
 have hw:Region.wanted o (yielded ops a.tmps)=(S i).t:=hs.guard ι _ a ⟨Nu.size,fun s bZ v hv=>Nu.get s (by rw [Qdt];exact List.mem_append.2 (.inr bZ)) v hv⟩
 unfold wpOp
 rw [hn.op]
 simp only
 cases ht:(S i).t with
 | false =>
  rw [if_neg (by rw [hw,ht];simp)]
  have hv:=(hs.no ht).1
  by_cases E0:cM X.P ops i=3
  .exact hK _ _ _ _ _ (h.Nn hr hn E0 ht (c:=undef) fun D=>by rw [hv];exact I2 _ _)
  .exact hK _ _ _ _ _ (h.still hr hn E0 (fun _=>ht) (c:=undef) (by rw [hv];exact I2 _ _))
 | true =>
  rw [if_pos (by rw [hw,ht])]
  left
  have hF:=hs.yes ht
  have hE:=h.E2 hr hn
  unfold jJ at hF
  split at hF
  .rename_i hc
   rw [hc] at cz
   obtain ⟨c,h1,h2⟩:=hF.2.run ι _ a w hE
   exact oY h1 (hK _ _ _ _ _ (h.still hr hn (by omega) (fun e=>by omega) h2))
  .rename_i hc
   rw [hc] at cz
   obtain ⟨_,raw,hF⟩:=hF
   have h2:=hF.rd
   rw [Qds] at h2
   have h3:c_ X.P o.op (S i).env G=some raw:=by
    rcases eR i o hn.op cz m (h.vK hn (by omega)) with h1 | ⟨t,k,ok,AM,Xh,Xi,hb,w4,dm,PT,Xj,eJ⟩
    .rw [h2] at h1
     exact Qtv (G:=G) h.old h1
    .have hL:=hn.BE k hb
     have hsk:=hr.step k ok dm
     have htk:(S k).t=true:=by
      have WI:J2 ops ok=[]:=by unfold J2;rw [PT]
      have RI:=hsk.guard (fun _=>⟨0,0,0⟩) (fun _=>True) a ⟨h.size,fun s bZ=>by rw [WI] at bZ;simp at bZ⟩
      rw [<- RI];simp [Region.wanted,PT]
     have mN:=Nh (P:=X.P) dm
     rw [w4] at mN
     have Xk:=hsk.yes htk
     unfold jJ at Xk
     rw [<- mN] at Xk
     obtain ⟨vs,mk,hvk,hHk,hAk⟩:=Xk
     have hp:=h.oy k Xh (by omega) hL w4 htk
     obtain ⟨P0,_⟩:=hr.wrote (q:=t) Xi (by omega) (by simp [ox,dm,Xj]) (fun j h4 h5=>(eJ j h4 h5).2)
     rw [hvk] at P0
     have hw2:cU (S i).env t=some (mk (S k).H.length):=by rw [hs.same];exact P0
     have hk:=hr.keep (m:=k+1) (i:=i) (by omega) (by omega) (fun j h4 h5=>(eJ j (by omega) h5).1) (S k).H.length (by rw [hHk,Qy];omega)
     rw [Qtt AM hw2 (hAk.aJ _) (hp.trans hk.symm)];exact h2
   rw [<- Qds] at h3
   obtain ⟨c,g1,g2⟩:=hF.run ι _ a w G h3 h.rel hE
   exact oY g1 (hK _ _ _ _ _ (h.still hr hn (by omega) (fun e=>by omega) g2))
  .rename_i hc
   rw [hc] at cz
   obtain ⟨vs,mk,hv,hH,hF⟩:=hF
   obtain ⟨cs,rest,fm,fz,w0,c,h1,h2,e1,e2,e3,e4,h3,h4⟩:=hF.run ι _ a w hE
   exact oY h3 (hK _ _ _ _ _ (h.make hr hn cz ht (fm:=fm) hH h1 hF.cells h2 e1 e2 e3 e4 (by rw [hv];exact h4 _)))
  .rename_i h0 h1 h2
   have hle:=Qvq X.P o.op
   have hc:cM X.P ops i=3:=by
    rw [cz]
    have:gq X.P o.op=0\/gq X.P o.op=1\/gq X.P o.op=2\/gq X.P o.op=3:=by omega
    rcases this with e | e | e | e
    .exact absurd e h0
    .exact absurd e h1
    .exact absurd e h2
    .exact e
   exact hF.run ι a w (h.No hr hn hc) (h.Ir hr hn) K Q fun ι' w' c g1 g2 g3=>hK _ _ _ _ _ (h.eff hr hn hc g1 g2 g3)
theorem Inv.done (h:Inv X ops S ι₀ w₀ L ι G m a w) (hr:bF X ops S) (hall:∀ i,i < ops.size->L i) :
  Rel ι (aL (S ops.size).H.length) (S ops.size).H w/\bt ι (aL (S ops.size).H.length) X.nt (S ops.size).dZ a/\Fr ι₀ (S 0).H w₀ ι (S ops.size).H w/\Ab X.ai (S 0).H (S ops.size).H/\a.defers=[]:=by
 obtain ⟨hE,fE,ld⟩:=hr.abs ops.size (Zd _)
 have eJ:∀ k,m<=k->k < ops.size->cM X.P ops k≠3:=by
  intro k h1 h2 h3
  have:=(h.d_ k h2 h3).1 (hall k h2)
  omega
 have ah:∀ x,x < (S ops.size).H.length->ah G x=ah (S ops.size).H x:=by
  intro x hx
  by_cases Nl:x < (S m).H.length
  .rw [h.old x Nl,hr.keep h.J3 (Zd _) eJ x Nl]
  .obtain ⟨i,g1,g2,g3,g4,g5,g6⟩:=hr.made h.J3 (Zd _) eJ x (by omega) hx
   have:=h.oy i g1 g2 (hall i g2) g3 g4
   rw [<- g5] at this
   rw [this,g6]
 have hG:∀ {b:Nat} {k:bx},Ev.ah (S ops.size).H b=some k->Ev.ah G b=some k:=fun hb=>by rw [ah _ (Qt hb)];exact hb
 refine ⟨⟨fun b k hb=>?_,fun b b' k k' h1 h2=>h.rel.inj b b' k k' (hG h1) (hG h2),fun b k hb hr=>h.rel.iy b k (hG hb) hr,h.rel.gw⟩,⟨h.size,fun q v hv=>?_⟩,⟨by rw [<- h.len];exact h.fr.len,h.fr.io,h.fr.os,h.fr.tape,h.fr.output,h.fr.size,h.fr.frame,fun b k hb bn=>h.fr.new b k (hG hb) bn,fun b k hb bn=>h.fr.ro b k (hG hb) bn⟩,ld,h.defers⟩
 .exact (h.rel.aJ b k (hG hb)).bw rfl rfl fun i hi c hv=>hv.re (fE b (Qt hb) k hb _ (List.getElem_mem hi)) fun _ _ _=>rfl
 .exact (h.env q ops.size (Zd _) (fun j hj _=>⟨fun _=>hj,fun _=>hall j hj⟩) v hv).re (hE q v hv) fun _ _ _=>rfl
def rz (listed:Array Bool) (j:Nat):Prop:=listed[j]? = some true
theorem Qif:∀ (l:List Bool) (i:Nat),l[i]? = some false->(l.set i true).count false+1=l.count false
 | [],i,h=>by simp at h
 | b::l,0,h=>by simp at h;subst h;simp
 | b::l,i+1,h=>by
  have:=Qif l i (by simpa using h)
  simp only [List.set_cons_succ,List.count_cons]
  omega
theorem Qig {listed:Array Bool} {i:Nat} (h:i∈Region.ready .any ops listed):∃ o,ops[i]? = some o/\listed.getD i true=false/\∀ e∈o.after.toList,Region.binds .any e=true->listed.getD e.on false=true:=by
 unfold Region.ready at h
 simp only [List.mem_filter,List.mem_range,Z8,Bool.not_eq_true'] at h
 obtain ⟨h1,h2,h3⟩:=h
 obtain ⟨o,ho⟩:=AP h1
 rw [ho] at h3
 simp only [Option.map_some,Option.getD_some] at h3
 refine ⟨o,ho,h2,fun e he hb=>?_⟩
 have:=(Array.all_eq_true'.1 h3) e (by simpa using he)
 rw [hb] at this
 simpa using this
theorem Qtw {listed:Array Bool} {i:Nat} {o:Oper} (ho:ops[i]? = some o) (h2:listed.getD i true=false) (h3:∀ e∈o.after.toList,Region.binds .any e=true->listed.getD e.on false=true):i∈Region.ready .any ops listed:=by
 unfold Region.ready
 simp only [List.mem_filter,List.mem_range,Z8,Bool.not_eq_true']
 refine ⟨oQ ho,h2,?_⟩
 rw [ho]
 simp only [Option.map_some,Option.getD_some]
 refine Array.all_eq_true'.2 fun e he=>?_
 cases hb:Region.binds .any e with
 | false=>simp
 | true=>simpa using h3 e (by simpa using he) hb
theorem Qny {listed:Array Bool} {j:Nat} (h:listed.getD j false=true):rz listed j:=by
 unfold rz
 rw [Array.getD_eq_getD_getElem?] at h
 cases hj:listed[j]? with
 | none=>rw [hj] at h;simp at h
 | some b=>rw [hj] at h;simp at h;rw [h]
theorem Qnz (hr:bF X ops S) {listed:Array Bool} (bf:listed.size=ops.size) (kX:Region.ready .any ops listed=[]):∀ i,i < ops.size->rz listed i:=by
 intro i
 induction i using Nat.strongRecOn with
 | _ i ih =>
  intro hi
  cases hl:listed[i]? with
  | none=>rw [Array.getElem?_eq_getElem (by omega)] at hl;simp at hl
  | some b =>
   cases b with
   | true=>exact hl
   | false =>
    obtain ⟨o,ho⟩:=AP hi
    have:i∈Region.ready .any ops listed:=Qtw ho (by rw [Array.getD_eq_getD_getElem?,hl];rfl) (fun e he hb=>by
     have au:=hr.Ni ho e he hb
     have:=ih e.on au (by omega)
     unfold rz at this
     rw [Array.getD_eq_getD_getElem?,this];rfl)
    rw [kX] at this
    simp at this
theorem Qih (hr:bF X ops S) (eR:It X ops S) {Q:Exit->Act->World->Prop}
  (hQ:∀ ι' a' w',Rel ι' (aL (S ops.size).H.length) (S ops.size).H w'->bt ι' (aL (S ops.size).H.length) X.nt (S ops.size).dZ a'->Fr ι₀ (S 0).H w₀ ι' (S ops.size).H w'->Ab X.ai (S 0).H (S ops.size).H->a'.defers=[]->Q .normal a' w') :
  ∀ (fuel:Nat) (listed:Array Bool) (ι:Io) (G:af) (m:Nat) (a:Act) (w:World),listed.size=ops.size->listed.toList.count false=fuel->Inv X ops S ι₀ w₀ (rz listed) ι G m a w->wpAny X.P .any ops Q fuel listed a w:=by
 have fin:∀ (listed:Array Bool) (ι:Io) (G:af) (m:Nat) (a:Act) (w:World),listed.size=ops.size->Inv X ops S ι₀ w₀ (rz listed) ι G m a w->Region.ready .any ops listed=[]->Q .normal a w:=by
  intro listed ι G m a w bf h kX
  obtain ⟨h1,h2,h3,h4,h5⟩:=h.done hr (Qnz hr bf kX)
  exact hQ ι a w h1 h2 h3 h4 h5
 intro fuel
 induction fuel with
 | zero =>
  intro listed ι G m a w bf Iu h
  have kX:Region.ready .any ops listed=[]:=by
   cases kX:Region.ready .any ops listed with
   | nil=>rfl
   | cons i r =>
    obtain ⟨o,ho,h2,_⟩:=Qig (ops:=ops) (listed:=listed) (i:=i) (by rw [kX];simp)
    have hi:=oQ ho
    have:listed[i]? = some false:=by
     rw [Array.getD_eq_getD_getElem?,Array.getElem?_eq_getElem (by omega)] at h2
     rw [Array.getElem?_eq_getElem (by omega)]
     simpa using h2
    have ki:false∈listed.toList:=by rw [<- Array.getElem?_toList] at this;exact Zc this
    rw [List.count_eq_zero] at Iu
    exact absurd ki Iu
  exact ⟨kX,fin listed ι G m a w bf h kX⟩
 | succ fuel ih =>
  intro listed ι G m a w bf Iu h
  refine ⟨fin listed ι G m a w bf h,fun i hi=>?_⟩
  obtain ⟨o,ho,h2,h3⟩:=Qig hi
  have aaf:=oQ ho
  have hif:listed[i]? = some false:=by
   rw [Array.getD_eq_getD_getElem?,Array.getElem?_eq_getElem (by omega)] at h2
   rw [Array.getElem?_eq_getElem (by omega)]
   simpa using h2
  have hn:Next ops (rz listed) i o:=by
   refine ⟨ho,fun hL=>?_,fun k hb=>?_⟩
   .unfold rz at hL;rw [hif] at hL;simp at hL
   .obtain ⟨o',e,rj,he,MM,hk⟩:=Qts hb
    rw [ho] at rj;simp at rj;subst rj
    have hL:=Qny (h3 e he MM)
    rcases hk with rfl | hk
    .exact hL
    .exact h.down _ _ hL hk
  have C9:rz (listed.setIfInBounds i true)=jU (rz listed) i:=by
   funext j
   apply propext
   unfold rz jU
   rw [Array.getElem?_setIfInBounds]
   by_cases e:i=j
   .subst e;simp [show i < listed.size by omega]
   .rw [if_neg e]
    constructor
    .exact fun h=>.inl h
    .rintro (h | h)
     .exact h
     .exact absurd h.symm e
  refine h.step hr eR hn fun ι' G' m' a' w' h'=>ih _ ι' G' m' a' w' (by simpa using bf) ?_ (by rw [C9];exact h')
  have:=Qif listed.toList i (by rw [Array.getElem?_toList];exact hif)
  rw [Array.toList_setIfInBounds]
  omega
theorem Qqu (hr:bF X ops S) (hR:Rel ι₀ (aL (S 0).H.length) (S 0).H w₀) (hE:bt ι₀ (aL (S 0).H.length) X.nt (S 0).dZ a) (hd:a.defers=[]) :
  Inv X ops S ι₀ w₀ (rz (Array.replicate ops.size false)) ι₀ ((S 0).H++List.replicate ((S ops.size).H.length - (S 0).H.length) none) 0 a w₀:=by
 have hL:∀ j,¬ rz (Array.replicate ops.size false) j:=by
  intro j h
  unfold rz at h
  rw [Array.getElem?_replicate] at h
  split at h<;>simp at h
 have hle:=hr.bS (m:=0) (i:=ops.size) (by omega) (Zd _)
 have kn:∀ x,aL (S 0).H.length x->gS X ops S 0 (rz (Array.replicate ops.size false)) x:=fun x hx=>.inl hx
 have ah:∀ {x:Nat} {k:bx},Ev.ah ((S 0).H++List.replicate ((S ops.size).H.length - (S 0).H.length) none) x=some k->Ev.ah (S 0).H x=some k:=by
  intro x k hk
  by_cases hx:x < (S 0).H.length
  .rw [FB hx] at hk;exact hk
  .unfold Ev.ah at hk
   rw [Zq (by omega),List.getElem?_replicate] at hk
   split at hk
   .rename_i h1;split at h1<;>simp at h1
   .simp at hk
 refine ⟨by omega,fun e _ _=>⟨fun h=>absurd h (hL e),fun h=>by omega⟩,.inl rfl,fun j i h=>absurd h (hL j),fun j h=>absurd h (hL j),by simp;omega,fun x hx=>FB hx,fun i _ _ h=>absurd h (hL i),fun x h1 h2 _=>?_,
  ⟨fun b k hk=>((hR.aJ b k (ah hk)).bw rfl rfl fun _ _ _ hv=>hv.mono kn fun _ _=>rfl),fun b b' k k' h1 h2=>hR.inj b b' k k' (ah h1) (ah h2),fun b k hb hr=>hR.iy b k (ah hb) hr,hR.gw⟩,⟨by simp,fun _ _=>rfl,rfl,rfl,rfl,Zd _,fun _ _ _=>rfl,fun b k hk bn=>.inr ⟨b,k,ah hk,bn,rfl⟩,fun b k hk _=>ah hk⟩,
  hE.size,fun q i hi dc v hv=>?_,hd⟩
 .rw [Zq h1,List.getElem?_replicate,if_pos (by omega)]
 .have eJ:∀ j,0<=j->j < i->ox ops j≠some q:=fun j _ hj oF=>hL j ((dc j (by omega) oF).2 hj)
  rw [hr.look (by omega) hi eJ] at hv
  exact (hE.get q v hv).mono kn fun _ _=>rfl
end
section
variable {X:Cx}
theorem Xl (hX:oX X.P X.call) {β:Type} {r:β} {ops:Array Oper} {K:List (Env×af)->Env->af->Option β}:∀ (l:List Oper) (env:Env) (H:af) (tr:List (Env×af)),Aw X ops l env H tr K=some r->dM (aL H.length) env->Qm H.length H ->
  ∃ E3 ak H',K E3 ak H'=some r/\dM (aL H'.length) ak/\Qm H'.length H'/\Ab X.ai H H'
 | [],env,H,tr,h,hE,hc=>⟨_,env,H,h,hE,hc,Ab.refl _ _⟩
 | o::l,env,H,tr,h,hE,hc=>by
  unfold Aw at h
  obtain ⟨t,fW,h,hw⟩:=R6 (nt:=X.nt) h
  have vW:=hw.lt _ hE
  cases t with
  | true =>
   simp only at h
   obtain ⟨v,H',h,hF⟩:=RX hX h
   obtain ⟨ld,I8⟩:=OK hF vW hc
   obtain ⟨cc,h,hp⟩:=DN h
   obtain ⟨E3,ak,H2,g1,g2,g3,g4⟩:=Xl hX l cc H' _ h (KU (vW.mono (aL.mono ld.len)) I8 hp) (ld.all hc)
   exact ⟨E3,ak,H2,g1,g2,g3,ld.trans g4⟩
  | false =>
   simp only at h
   obtain ⟨cc,h,hp⟩:=DN h
   exact Xl hX l cc H _ h (KU vW (KI _) hp) hc
theorem Xm (hX:oX X.P X.call):QB X:=by
 intro β ops env H K r h hE hc
 unfold HK at h
 split at h
 .obtain ⟨E3,ak,H',h1,h2,h3,h4⟩:=Xl hX _ _ _ _ h hE hc
  exact ⟨ak,H',(QE h1).1,h2,h3,h4⟩
 .simp at h
theorem Xn (hX:oX X.P X.call) (hm:X.P.follows .mixedOrders=true):QA X:=by
 intro β id ops env H K r h ι a w hR hE hd Q hQ
 unfold HK at h
 split at h
 .rename_i dm
  obtain ⟨S,g1,g2,g3,g4,g5⟩:=Qa2 hX _ _ _ _ h
  obtain ⟨g6,g7⟩:=QE g5
  have hN:ops.toList.length=ops.size:=by simp
  rw [hN] at g3 g6 g7
  have hr:bF X ops S:=⟨fun k o hk=>g4 k o (by rw [Array.getElem?_toList];exact hk),dm,by rw [g1,g2];exact hE.lt,by rw [g2];exact hR.closed⟩
  have Nv:∀ k,k<=ops.size->((((List.range (ops.size+1)).map fun k=>((S k).env,(S k).H)).reverse++[]).reverse)[k]? = some ((S k).env,(S k).H):=by
   intro k hk
   simp only [List.append_nil,List.reverse_reverse,List.getElem?_map]
   rw [List.getElem?_range (by omega)];rfl
  have eR:It X ops S:=by
   intro i o ho hc m aE
   have hi:=oQ ho
   have Dd:m<=ops.size:=by
    unfold HH at aE
    simp only [List.mem_cons,List.mem_map] at aE
    rcases aE with e | ⟨e,he,rfl⟩
    .split at e
     .rename_i e' r AU
      have:e'∈(((List.range ops.size).filter fun e=>Nat.beq (cM X.P ops e) 3).filter fun e=>iI (Region.before ops) i e):=by
       rw [<- List.mem_reverse,AU];simp
      simp only [List.mem_filter,List.mem_range] at this
      omega
     .omega
    .simp only [List.mem_filter,List.mem_range] at he
     omega
   rcases g7 i (by simp;exact hi) hc o ho m aE with hq | ⟨s,q,hs,hq,kX⟩
   .rcases Bool.or_eq_true_iff.1 hq with hq | hq
    rotate_left
    .right
     unfold JP at hq
     split at hq
     .rename_i t ht
      simp only [List.any_eq_true,List.mem_range,Z8,List.all_eq_true,Bool.or_eq_true,Bool.not_eq_true'] at hq
      obtain ⟨k,Xi,⟨⟨⟨h1,h2⟩,h3⟩,h4⟩,h6⟩:=hq
      cases dm:ops[k]? with
      | none=>rw [dm] at h4;simp at h4
      | some ok =>
       rw [dm] at h4
       simp only [Z8,Option.isNone_iff_eq_none] at h4
       obtain ⟨h4,h5⟩:=h4
       cases hd:ok.dst with
       | none=>rw [hd] at h5;simp at h5
       | some d =>
        rw [hd] at h5
        have h5:=Z7 h5
        refine ⟨t,k,ok,ht,Zi h1,Xi,h2,Z7 h3,dm,h4,by rw [hd,h5],fun j Vu vj=>?_⟩
        rcases h6 j vj with h7 | ⟨h7,h8⟩
        .have:=Zi h7;omega
        .refine ⟨fun QI=>?_,fun QI=>?_⟩
         .rw [QI] at h7;simp at h7
         .unfold ox at QI;rw [QI] at h8;simp at h8
     .simp at hq
    left
    have AV:∀ k,min m i<=k->k < max m i->cM X.P ops k < 2:=by
     intro k h1 h2
     by_cases hk:k < ops.size
     .unfold JO at hq
      simp only [List.all_eq_true,List.mem_range] at hq
      have:=hq k hk
      have e1:Nat.ble (min m i) k=true:=Nat.ble_eq_true_of_le h1
      have e2:Nat.blt k (max m i)=true:=by simp [Nat.blt];omega
      rw [e1,e2] at this
      simp only [Bool.and_self,Zl,Bool.false_or] at this
      have h3:cM X.P ops k+1<=2:=by simpa [Nat.blt] using this
      omega
     .rw [Qtu hk];omega
    have hH:(S m).H=(S i).H:=by
     rcases Nat.le_total m i with hle | hle
     .exact (hr.const (lo:=m) (hi:=i) hle (by omega) (fun k h1 h2=>AV k (by omega) (by omega))).symm
     .exact hr.const (lo:=i) (hi:=m) hle Dd (fun k h1 h2=>AV k (by omega) (by omega))
    rw [hH]
   .rw [Nv i (by omega)] at hs
    rw [Nv m Dd] at hq
    simp at hs hq
    subst hs;subst hq
    exact .inl kX
  refine wp_region_any hm ?_
  have R9:Rel ι (aL (S 0).H.length) (S 0).H { w with drawn:=w.drawn+1 }:=by rw [g2];exact hR.bz rfl
  have W4:bt ι (aL (S 0).H.length) X.nt (S 0).dZ a:=by rw [g1,g2];exact hE
  have Iv:=Qqu hr R9 W4 hd
  refine Qih hr eR (Q:=Q) ?_ ops.size _ _ _ _ _ _ (by simp) (by simp) Iv
  intro ι' a' w' h1 h2 h3 h4 h5
  refine hQ (S ops.size).dZ ι' (S ops.size).H a' w' h1 h2 ?_ (by rw [<- g2];exact h4) h5 g6
  rw [g2] at h3
  exact ((Fr.refl ι H w).bz (w'':={ w with drawn:=w.drawn+1 }) rfl rfl rfl rfl).trans h3
 .simp at h
end
theorem Qqv {P:Program} {A:BH} (hm:P.follows .mixedOrders=true) (hN:Af P A) (hA:P6 P A) (d:Nat):oX P (run P A d) :=
 Qvo hN hA (fun X hP hc=>⟨Xn (by rw [hP];exact hc) (by rw [hP];exact hm),Xm (by rw [hP];exact hc)⟩) d
end Go.Ev
