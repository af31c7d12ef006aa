/-
  The end of a call: its results, and the blocks that stay. And what stood behind it in 4 texts.
  Conditions: said at the theorems.
-/
import Derived.Test.YtcoimfbmgjhcjabGreatDoorCode
set_option linter.unusedVariables false
set_option linter.unusedSimpArgs false
namespace Go.Ev
section
variable {P:Program} {nt:Nat} {env:Env} {H:af}
theorem Wd {ι:Io} {D:Nat->Prop} {a:Act} {w:World} (hR:Rel ι D H w) (hE:bt ι D nt env a):∀ {l:List ResultVar} {vs:List Value},iI P env H l=some vs ->
  ∃ cs:List Value,aZ ι D vs cs/\(l.mapM fun (x:ResultVar)=>(match x with | .tmp t=>pure (a.tmps.getD t undef) | .cell b t=>do loadVar t (<- asAddr (a.tmps.getD b undef)):Sem Value)).run P w=.ok cs w
 | [],vs,h=>by simp [iI] at h;subst h;exact ⟨[],aZ.nil _ _,by simp⟩
 | .tmp t::l,vs,h=>by
  simp only [iI] at h
  replace h:=Q2 h;obtain ⟨v,hv,h⟩:=h
  replace h:=Q2 h;obtain ⟨r,hr,h⟩:=h
  simp at h;subst h
  obtain ⟨cs,h1,h2⟩:=Wd hR hE hr
  refine ⟨_,aZ.cons (hE.get t v hv) h1,?_⟩
  simp only [List.mapM_cons,Sem.run_bind,Sem.run_pure,Result.andThen_ok,h2]
 | .cell b t::l,vs,h=>by
  simp only [iI] at h
  replace h:=Q2 h;obtain ⟨v,hv,h⟩:=h
  split at h
  .rename_i p
   have hp:=(hE.get b _ hv).dD.1
   have We:(asAddr (a.tmps.getD b undef)).run P w=.ok (ι.addr p) w:=by rw [hp];rfl
   replace h:=Q2 h;obtain ⟨i,hi,h⟩:=h
   have key:∀ (u:Value) (c:Value) (r:List Value),iI P env H l=some r->vs=u::r->ay ι D u c->(loadVar t (ι.addr p)).run P w=.ok c w->∃ cs:List Value,aZ ι D vs cs /\
     ((ResultVar.cell b t::l).mapM fun (x:ResultVar)=>(match x with | .tmp t=>pure (a.tmps.getD t undef) | .cell b t=>do loadVar t (<- asAddr (a.tmps.getD b undef)):Sem Value)).run P w=.ok cs w:=by
    intro u c r hr e hu hl
    subst e
    obtain ⟨cs,h1,h2⟩:=Wd hR hE hr
    refine ⟨c::cs,aZ.cons hu h1,?_⟩
    simp only [List.mapM_cons,Sem.run_bind,Sem.run_pure,Result.andThen_ok,We,hl,h2]
   have nq:∀ (d:TypeDesc) (l' r:List Value),P.underlying t=some d->((∃ fs,d=.struct fs)\/∃ n e,d=.array n e)->Qx H p i.size=some l'->iI P env H l=some r->vs=.agg l'.toArray::r->∃ cs:List Value,aZ ι D vs cs /\
     ((ResultVar.cell b t::l).mapM fun (x:ResultVar)=>(match x with | .tmp t=>pure (a.tmps.getD t undef) | .cell b t=>do loadVar t (<- asAddr (a.tmps.getD b undef)):Sem Value)).run P w=.ok cs w:=by
    intro d l' r hu hd hl hr e
    obtain ⟨cs,h1,h2,h3,h4⟩:=hR.wu hl
    have aT:=run_loadCells_list (P:=P) w (ι.addr p) cs h3
    rw [h1] at aT
    have ha:(isAgg t).run P w=.ok true w:=by
     rcases hd with ⟨fs,rfl⟩ | ⟨n,e,rfl⟩<;>simp [isAgg,run_underlying hu]
    exact key _ (.agg cs.toArray) r hr e (aZ.bZ h2) (by simp only [loadVar,Sem.run_bind,ha,Result.andThen_ok,if_true,sizeOf,typeInfo,run_program,hi,Sem.run_pure,aT])
   split at h
   .rename_i fs hu
    replace h:=Q2 h;obtain ⟨l',hl,h⟩:=h
    replace h:=Q2 h;obtain ⟨r,hr,h⟩:=h
    simp at h
    exact nq _ l' r hu (.inl ⟨_,rfl⟩) hl hr h.symm
   .rename_i n e hu
    replace h:=Q2 h;obtain ⟨l',hl,h⟩:=h
    replace h:=Q2 h;obtain ⟨r,hr,h⟩:=h
    simp at h
    exact nq _ l' r hu (.inr ⟨_,_,rfl⟩) hl hr h.symm
   .rename_i d n1 n2 hu
    replace h:=Q2 h;obtain ⟨u,hl,h⟩:=h
    replace h:=Q2 h;obtain ⟨r,hr,h⟩:=h
    simp at h
    obtain ⟨c,h1,h2,h3⟩:=hR.load hl
    have ha:(isAgg t).run P w=.ok false w:=by
     simp only [isAgg,Sem.run_bind,run_underlying hu,Result.andThen_ok]
     cases d<;>first | rfl | exact absurd rfl (n1 _) | exact absurd rfl (n2 _ _)
    exact key u c r hr h.symm h2 (by simp only [loadVar,Sem.run_bind,ha,Result.andThen_ok,Bool.false_eq_true,if_false,run_load,h1])
   .simp at h
  .simp at h
theorem MF:∀ {l:List ResultVar} {vs:List Value},iI P env H l=some vs->dJ (aL H.length) env->Ql H.length H->gO (aL H.length) vs
 | [],vs,h,_,_=>by simp [iI] at h;subst h;intro v hv;simp at hv
 | .tmp t::l,vs,h,hE,hc=>by
  simp only [iI] at h
  replace h:=Q2 h;obtain ⟨v,hv,h⟩:=h
  replace h:=Q2 h;obtain ⟨r,hr,h⟩:=h
  simp at h;subst h
  intro u hu
  rcases Z2 hu with rfl | hu
  .exact hE t _ hv
  .exact MF hr hE hc u hu
 | .cell b t::l,vs,h,hE,hc=>by
  simp only [iI] at h
  replace h:=Q2 h;obtain ⟨v,hv,h⟩:=h
  split at h
  .rename_i p
   replace h:=Q2 h;obtain ⟨i,hi,h⟩:=h
   split at h
   .replace h:=Q2 h;obtain ⟨l',hl,h⟩:=h
    replace h:=Q2 h;obtain ⟨r,hr,h⟩:=h
    simp at h;subst h
    intro u hu
    rcases Z2 hu with rfl | hu
    .exact bK.bZ (N0 hl hc)
    .exact MF hr hE hc u hu
   .replace h:=Q2 h;obtain ⟨l',hl,h⟩:=h
    replace h:=Q2 h;obtain ⟨r,hr,h⟩:=h
    simp at h;subst h
    intro u hu
    rcases Z2 hu with rfl | hu
    .exact bK.bZ (N0 hl hc)
    .exact MF hr hE hc u hu
   .replace h:=Q2 h;obtain ⟨l',hl,h⟩:=h
    replace h:=Q2 h;obtain ⟨r,hr,h⟩:=h
    simp at h;subst h
    intro u hu
    rcases Z2 hu with rfl | hu
    .exact Yh hl hc
    .exact MF hr hE hc u hu
   .simp at h
  .simp at h
theorem Wg:∀ {l:List Nat} {b j:Nat},Ej l b=some j->l[j]? = some b
 | [],b,j,h=>by simp [Ej] at h
 | x::l,b,j,h=>by
  unfold Ej at h
  split at h
  .rename_i e;simp at h;subst h;simp [e]
  .replace h:=Q2 h;obtain ⟨i,hi,h⟩:=h
   simp at h;subst h
   simpa using Wg hi
theorem Qdl:∀ {l:List Nat} {b:Nat},Ej l b=none->b∉l
 | [],b,h=>by simp
 | x::l,b,h=>by
  unfold Ej at h
  split at h
  .simp at h
  .rename_i e
   cases hp:Ej l b with
   | some i=>rw [hp] at h;simp [Q1] at h
   | none =>
    have:=Qdl hp
    simp only [List.mem_cons,not_or]
    exact ⟨fun h=>e h.symm,this⟩
structure mI (base:Nat) (H:af) (olds:List Nat):Prop where
 nodup:olds.Nodup
 aI:∀ b∈olds,base<=b/\∃ k,ah H b=some k/\k.cells.all (O9 base)=true
def Io.mv (ι:Io) (base:Nat) (olds:List Nat):Io:=fun x=>if x < base then ι x else match olds[x - base]? with | some b=>ι b | none=>ι x
theorem Io.fN (ι:Io) {base x:Nat} (olds:List Nat) (h:x < base):ι.mv base olds x=ι x:=by simp [Io.mv,h]
theorem Io.gC (ι:Io) {base j b:Nat} {olds:List Nat} (h:olds[j]? = some b):ι.mv base olds (base+j)=ι b:=by
 simp only [Io.mv,show ¬ (base+j < base) by omega,if_false,show base+j - base=j by omega,h]
theorem Qdm {base:Nat} {olds aP:List Nat} {b x:Nat} (h:Jn base H olds b=some (x,aP)) (ho:mI base H olds) :
  mI base H aP/\olds <+: aP/\∀ (ι:Io) (fin:List Nat),aP <+: fin->ι.mv base fin x=ι b/\x < base+fin.length:=by
 unfold Jn at h
 split at h
 .rename_i hb
  simp at h;obtain ⟨rfl,rfl⟩:=h
  exact ⟨ho,List.prefix_refl _,fun ι fin _=>⟨Io.fN ι fin hb,by omega⟩⟩
 .rename_i hb
  split at h
  .rename_i j hj
   simp at h;obtain ⟨rfl,rfl⟩:=h
   refine ⟨ho,List.prefix_refl _,fun ι fin hp=>?_⟩
   have Jy:=Wg hj
   obtain ⟨t,rfl⟩:=hp
   have au:j < olds.length:=(Z0 Jy).1
   refine ⟨Io.gC ι (by rw [List.getElem?_append_left au];exact Jy),by simp;omega⟩
  .rename_i hj
   replace h:=Q2 h;obtain ⟨k,hk,h⟩:=h
   split at h
   .rename_i hl
    simp at h;obtain ⟨rfl,rfl⟩:=h
    refine ⟨⟨?_,?_⟩,List.prefix_append _ _,fun ι fin hp=>?_⟩
    .rw [Zn]
     refine ⟨ho.nodup,by simp,?_⟩
     intro y hy z hz
     simp at hz;subst hz
     exact fun e=>Qdl hj (e▸hy)
    .intro y hy
     rcases List.mem_append.1 hy with hy | hy
     .exact ho.aI y hy
     .simp at hy;subst hy;exact ⟨by omega,k,hk,hl⟩
    .obtain ⟨t,rfl⟩:=hp
     exact ⟨Io.gC ι (by simp),by simp⟩
   .simp at h
theorem Qtj {v c:Value} (hl:Qu v=true) {ι:Io} {D:Nat->Prop} (hv:ay ι D v c) (ι':Io) (E:Nat->Prop):ay ι' E v c :=
 ay.mono (ι:=ι') (D:=fun _=>False) (hv.re (sZ hl _) fun _ _ h=>h.elim) (fun _ h=>h.elim) (fun _ h=>h.elim)
structure Wh (base:Nat) (H:af) (olds aP:List Nat) (v v':Value):Prop where
 ok:mI base H aP
 pre:olds <+: aP
 rel:∀ (ι:Io) (D:Nat->Prop) (fin:List Nat) (c:Value),aP <+: fin->ay ι D v c->ay (ι.mv base fin) (aL (base+fin.length)) v' c
theorem Qi6 {base:Nat} {olds aP:List Nat} {v v':Value} (h:Cn base H olds v=some (v',aP)) (ho:mI base H olds):Wh base H olds aP v v':=by
 unfold Cn at h
 split at h
 .rename_i a
  replace h:=Q2 h;obtain ⟨⟨x,o'⟩,hb,h⟩:=h
  simp at h;obtain ⟨rfl,rfl⟩:=h
  obtain ⟨h1,h2,h3⟩:=Qdm hb ho
  refine ⟨h1,h2,fun ι D fin c hp hv=>?_⟩
  obtain ⟨e,hD⟩:=hv.dD
  obtain ⟨g1,g2⟩:=h3 ι fin hp
  have:=ay.ptr (ι:=ι.mv base fin) (D:=aL (base+fin.length)) ⟨x,a.off,none⟩ g2
  rw [e]
  simp only [Io.addr] at this ⊢
  rw [g1] at this
  exact this
 .rename_i a n c
  replace h:=Q2 h;obtain ⟨⟨x,o'⟩,hb,h⟩:=h
  simp at h;obtain ⟨rfl,rfl⟩:=h
  obtain ⟨h1,h2,h3⟩:=Qdm hb ho
  refine ⟨h1,h2,fun ι D fin c hp hv=>?_⟩
  obtain ⟨g1,g2⟩:=h3 ι fin hp
  cases hv with
  | e_ _ _ _ cap hD hl hc =>
   have:=ay.e_ (ι:=ι.mv base fin) (D:=aL (base+fin.length)) ⟨x,a.off,none⟩ n _ cap g2 hl (by simp only [g1];exact hc)
   simp only [Io.addr] at this ⊢
   rw [g1] at this
   exact this
  | bD _ b _ hD=>exact .bD _ _ _ g2
 .split at h
  .rename_i hl
   simp at h;obtain ⟨rfl,rfl⟩:=h
   exact ⟨ho,List.prefix_refl _,fun ι D fin c hp hv=>Qtj hl hv _ _⟩
  .simp at h
structure Al (base:Nat) (H:af) (olds aP:List Nat) (vs cy:List Value):Prop where
 ok:mI base H aP
 pre:olds <+: aP
 rel:∀ (ι:Io) (D:Nat->Prop) (fin:List Nat) (cs:List Value),aP <+: fin->aZ ι D vs cs->aZ (ι.mv base fin) (aL (base+fin.length)) cy cs
theorem Al.nil {base:Nat} {olds:List Nat} (ho:mI base H olds):Al base H olds olds [] [] :=
 ⟨ho,List.prefix_refl _,fun ι D fin cs _ h=>by
  have:cs=[]:=Z1 (by have:=h.1;simpa using this.symm)
  subst this;exact aZ.nil _ _⟩
theorem Al.cons {base:Nat} {o1 o2 o3:List Nat} {v v':Value} {vs cy:List Value} (h:Wh base H o1 o2 v v') (g:Al base H o2 o3 vs cy):Al base H o1 o3 (v::vs) (v'::cy) :=
 ⟨g.ok,h.pre.trans g.pre,fun ι D fin cs hp hl=>by
  cases cs with
  | nil=>exact absurd hl.1 (by simp)
  | cons c cs=>exact aZ.cons (h.rel ι D fin c (g.pre.trans hp) hl.head) (g.rel ι D fin cs hp hl.tail)⟩
theorem Qbp {base:Nat}:∀ {vs cy:List Value} {olds aP:List Nat},Bg base H olds vs=some (cy,aP)->mI base H olds->Al base H olds aP vs cy
 | [],cy,olds,aP,h,ho=>by simp [Bg] at h;obtain ⟨rfl,rfl⟩:=h;exact Al.nil ho
 | v::vs,cy,olds,aP,h,ho=>by
  simp only [Bg] at h
  replace h:=Q2 h;obtain ⟨⟨x,o1⟩,h1,h⟩:=h
  replace h:=Q2 h;obtain ⟨⟨y,o2⟩,h2,h⟩:=h
  simp at h;obtain ⟨rfl,rfl⟩:=h
  have g1:=Qi6 h1 ho
  exact Al.cons g1 (Qbp h2 g1.ok)
theorem Qtk {base:Nat} {olds aP:List Nat} {v v':Value} (h:Jo base H olds v=some (v',aP)) (ho:mI base H olds):Wh base H olds aP v v':=by
 unfold Jo at h
 split at h
 .rename_i cs
  replace h:=Q2 h;obtain ⟨⟨x,o1⟩,h1,h⟩:=h
  simp at h;obtain ⟨rfl,rfl⟩:=h
  have g:=Qbp h1 ho
  refine ⟨g.ok,g.pre,fun ι D fin c hp hv=>?_⟩
  obtain ⟨ys,rfl,hl⟩:=hv.eO
  exact aZ.bZ (xs:=x.toArray) (g.rel ι D fin _ hp hl)
 .exact Qi6 h ho
theorem Wi {base:Nat}:∀ {vs cy:List Value} {olds aP:List Nat},we base H olds vs=some (cy,aP)->mI base H olds->Al base H olds aP vs cy
 | [],cy,olds,aP,h,ho=>by simp [we] at h;obtain ⟨rfl,rfl⟩:=h;exact Al.nil ho
 | v::vs,cy,olds,aP,h,ho=>by
  simp only [we] at h
  replace h:=Q2 h;obtain ⟨⟨x,o1⟩,h1,h⟩:=h
  replace h:=Q2 h;obtain ⟨⟨y,o2⟩,h2,h⟩:=h
  simp at h;obtain ⟨rfl,rfl⟩:=h
  have g1:=Qtk h1 ho
  exact Al.cons g1 (Wi h2 g1.ok)
theorem CL {base:Nat} {olds:List Nat} (hb:base<=H.length) {x:Nat} {k:bx} (h:ah (H.take base++olds.map (ah H)) x=some k) :
  (x < base/\ah H x=some k)\/∃ j b,x=base+j/\olds[j]? = some b/\ah H b=some k:=by
 have hlen:(H.take base).length=base:=by simp;omega
 by_cases hx:x < base
 .rw [Fa (by omega),Qq3 hx] at h;exact .inl ⟨hx,h⟩
 .right
  unfold ah at h
  rw [Zq (by omega),hlen,List.getElem?_map] at h
  cases ho:olds[x - base]? with
  | none=>rw [ho] at h;simp at h
  | some b =>
   rw [ho] at h
   simp only [Option.map_some] at h
   refine ⟨x - base,b,by omega,ho,?_⟩
   split at h
   .rename_i k' he
    simp at h he;subst h;exact he
   .simp at h
theorem Qno {ι₀ ι:Io} {H₀:af} {w₀ w:World} {vs cy cs:List Value} {olds:List Nat} (hR:Rel ι (aL H.length) H w) (hF:Fr ι₀ H₀ w₀ ι H w) (fy:Ql H₀.length H) (hm:we H₀.length H [] vs=some (cy,olds)) (hl:aZ ι (aL H.length) vs cs) :
  Rel (ι.mv H₀.length olds) (aL (H.take H₀.length++olds.map (ah H)).length) (H.take H₀.length++olds.map (ah H)) w/\Fr ι₀ H₀ w₀ (ι.mv H₀.length olds) (H.take H₀.length++olds.map (ah H)) w /\
  aZ (ι.mv H₀.length olds) (aL (H.take H₀.length++olds.map (ah H)).length) cy cs:=by
 have dh:=Wi hm ⟨List.nodup_nil,by simp⟩
 have hlen:(H.take H₀.length++olds.map (ah H)).length=H₀.length+olds.length:=by simp;have:=hF.len;omega
 have fe:∀ {b:Nat} {k:bx},ah H b=some k->(b < H₀.length\/b∈olds)->∀ v∈k.cells,bK (aL H₀.length) v:=by
  intro b k hk hb v hv
  rcases hb with hb | hb
  .exact fy b hb k hk v hv
  .obtain ⟨_,k',cZ,hall⟩:=dh.ok.aI b hb
   rw [hk] at cZ;simp at cZ;subst cZ
   exact Qhu (Z3 hall v hv)
 have oV:∀ {v c:Value},bK (aL H₀.length) v->ay ι (aL H.length) v c->ay (ι.mv H₀.length olds) (aL (H₀.length+olds.length)) v c:=by
  intro v c hv hr
  exact ay.mono (hr.re (ι':=ι) hv fun _ _ _=>rfl) (aL.mono (by omega)) fun b hb=>Io.fN ι olds hb
 rw [hlen]
 refine ⟨⟨fun x k hx=>?_,fun x x' k k' hx mN aV bn=>?_,fun x k hx hr=>(by
  rcases CL hF.len hx with ⟨h1,h2⟩ | ⟨j,b,rfl,h1,h2⟩
  .rw [Io.fN ι olds h1];exact hR.iu x k h2 hr
  .rw [Io.gC ι h1];exact hR.iu b k h2 hr),hR.gw⟩,⟨by rw [hlen];omega,fun b hb=>by rw [Io.fN ι olds hb];exact hF.io b hb,hF.os,hF.tape,hF.output,hF.size,hF.frame,fun x k hx hr=>?_,fun x k hx hr=>?_⟩,dh.rel ι _ olds cs (List.prefix_refl _) hl⟩
 .rcases CL hF.len hx with ⟨h1,h2⟩ | ⟨j,b,rfl,h1,h2⟩
  .exact (hR.aI x k h2).bw rfl (Io.fN ι olds h1) fun i hi c hr=>oV (fe h2 (.inl h1) _ (List.getElem_mem hi)) hr
  .exact (hR.aI b k h2).bw rfl (Io.gC ι h1) fun i hi c hr=>oV (fe h2 (.inr (Zc h1)) _ (List.getElem_mem hi)) hr
 .rcases CL hF.len hx with ⟨h1,h2⟩ | ⟨j,b,rfl,h1,h2⟩
  .rcases CL hF.len mN with ⟨g1,g2⟩ | ⟨j',b',rfl,g1,g2⟩
   .rw [Io.fN ι olds h1,Io.fN ι olds g1];exact hR.inj x x' k k' h2 g2 aV bn
   .rw [Io.fN ι olds h1,Io.gC ι g1]
    have:=(dh.ok.aI b' (Zc g1)).1
    exact hR.inj x b' k k' h2 g2 (by omega) bn
  .rcases CL hF.len mN with ⟨g1,g2⟩ | ⟨j',b',rfl,g1,g2⟩
   .rw [Io.gC ι h1,Io.fN ι olds g1]
    have:=(dh.ok.aI b (Zc h1)).1
    exact hR.inj b x' k k' h2 g2 (by omega) bn
   .rw [Io.gC ι h1,Io.gC ι g1]
    refine hR.inj b b' k k' h2 g2 (fun e=>aV ?_) bn
    subst e
    have hj:=(Z0 h1)
    have Jy:=(Z0 g1)
    obtain ⟨q1,q2⟩:=hj
    obtain ⟨q3,q4⟩:=Jy
    have hnd:=List.pairwise_iff_getElem.1 dh.ok.nodup
    rcases Nat.lt_trichotomy j j' with hl | hl | hl
    .exact absurd (q2.trans q4.symm) (hnd j j' q1 q3 hl)
    .omega
    .exact absurd (q4.trans q2.symm) (hnd j' j q3 q1 hl)
 .rcases CL hF.len hx with ⟨h1,h2⟩ | ⟨j,b,rfl,h1,h2⟩
  .rw [Io.fN ι olds h1];exact hF.new x k h2 hr
  .rw [Io.gC ι h1];exact hF.new b k h2 hr
 .rcases CL hF.len hx with ⟨h1,h2⟩ | ⟨j,b,rfl,h1,h2⟩
  .exact hF.ro x k h2 hr
  .have:=Qt (hF.ro b k h2 hr)
   have:=(dh.ok.aI b (Zc h1)).1
   omega
theorem Qdn {base:Nat} {olds aP:List Nat} {b x:Nat} (h:Jn base H olds b=some (x,aP)):olds <+: aP/\∀ fin:List Nat,aP <+: fin->x < base+fin.length:=by
 unfold Jn at h
 split at h
 .simp at h;obtain ⟨rfl,rfl⟩:=h;exact ⟨List.prefix_refl _,fun fin _=>by omega⟩
 .split at h
  .rename_i j hj
   simp at h;obtain ⟨rfl,rfl⟩:=h
   refine ⟨List.prefix_refl _,fun fin hp=>?_⟩
   have au:=(Z0 (Wg hj)).1
   have:=hp.length_le
   omega
  .replace h:=Q2 h;obtain ⟨k,hk,h⟩:=h
   split at h
   .simp at h;obtain ⟨rfl,rfl⟩:=h
    refine ⟨List.prefix_append _ _,fun fin hp=>?_⟩
    have:=hp.length_le
    simp at this;omega
   .simp at h
theorem Qi7 {base:Nat} {olds aP:List Nat} {v v':Value} (h:Cn base H olds v=some (v',aP)):olds <+: aP/\∀ fin:List Nat,aP <+: fin->bK (aL (base+fin.length)) v':=by
 unfold Cn at h
 split at h
 .replace h:=Q2 h;obtain ⟨⟨x,o'⟩,hb,h⟩:=h
  simp at h;obtain ⟨rfl,rfl⟩:=h
  obtain ⟨g1,g2⟩:=Qdn hb
  exact ⟨g1,fun fin hp=>.ptr _ (g2 fin hp)⟩
 .replace h:=Q2 h;obtain ⟨⟨x,o'⟩,hb,h⟩:=h
  simp at h;obtain ⟨rfl,rfl⟩:=h
  obtain ⟨g1,g2⟩:=Qdn hb
  exact ⟨g1,fun fin hp=>.sl _ _ _ (g2 fin hp)⟩
 .split at h
  .rename_i hl
   simp at h;obtain ⟨rfl,rfl⟩:=h
   exact ⟨List.prefix_refl _,fun fin _=>sZ hl _⟩
  .simp at h
theorem Qbr {base:Nat}:∀ {vs cy:List Value} {olds aP:List Nat},Bg base H olds vs=some (cy,aP)->olds <+: aP/\∀ fin:List Nat,aP <+: fin->gO (aL (base+fin.length)) cy
 | [],cy,olds,aP,h=>by simp [Bg] at h;obtain ⟨rfl,rfl⟩:=h;exact ⟨List.prefix_refl _,fun _ _ v hv=>by simp at hv⟩
 | v::vs,cy,olds,aP,h=>by
  simp only [Bg] at h
  replace h:=Q2 h;obtain ⟨⟨x,o1⟩,h1,h⟩:=h
  replace h:=Q2 h;obtain ⟨⟨y,o2⟩,h2,h⟩:=h
  simp at h;obtain ⟨rfl,rfl⟩:=h
  obtain ⟨g1,g2⟩:=Qi7 h1
  obtain ⟨g3,g4⟩:=Qbr h2
  refine ⟨g1.trans g3,fun fin hp u hu=>?_⟩
  rcases Z2 hu with rfl | hu
  .exact g2 fin (g3.trans hp)
  .exact g4 fin hp u hu
theorem Qi8 {base:Nat}:∀ {vs cy:List Value} {olds aP:List Nat},we base H olds vs=some (cy,aP)->olds <+: aP/\∀ fin:List Nat,aP <+: fin->gO (aL (base+fin.length)) cy
 | [],cy,olds,aP,h=>by simp [we] at h;obtain ⟨rfl,rfl⟩:=h;exact ⟨List.prefix_refl _,fun _ _ v hv=>by simp at hv⟩
 | v::vs,cy,olds,aP,h=>by
  simp only [we] at h
  replace h:=Q2 h;obtain ⟨⟨x,o1⟩,h1,h⟩:=h
  replace h:=Q2 h;obtain ⟨⟨y,o2⟩,h2,h⟩:=h
  simp at h;obtain ⟨rfl,rfl⟩:=h
  have g12:olds <+: o1/\∀ fin:List Nat,o1 <+: fin->bK (aL (base+fin.length)) x:=by
   unfold Jo at h1
   split at h1
   .replace h1:=Q2 h1;obtain ⟨⟨z,o3⟩,h3,h1⟩:=h1
    simp at h1;obtain ⟨rfl,rfl⟩:=h1
    obtain ⟨k1,k2⟩:=Qbr h3
    exact ⟨k1,fun fin hp=>bK.bZ (k2 fin hp)⟩
   .exact Qi7 h1
  obtain ⟨g3,g4⟩:=Qi8 h2
  refine ⟨g12.1.trans g3,fun fin hp u hu=>?_⟩
  rcases Z2 hu with rfl | hu
  .exact g12.2 fin (g3.trans hp)
  .exact g4 fin hp u hu
theorem Qqj {ai:Nat} {H₀:af} {vs cy:List Value} {olds:List Nat} (ha:Ab H₀.length H₀ H) (hc₀:Ql H₀.length H₀) (hm:we H₀.length H [] vs=some (cy,olds)) :
  Ab ai H₀ (H.take H₀.length++olds.map (ah H))/\gO (aL (H.take H₀.length++olds.map (ah H)).length) cy:=by
 have dh:=Wi hm ⟨List.nodup_nil,by simp⟩
 have hlen:(H.take H₀.length++olds.map (ah H)).length=H₀.length+olds.length:=by simp;have:=ha.len;omega
 have fy:=ha.closed H₀.length (Zd _) (Zd _) hc₀
 refine ⟨⟨by rw [hlen];omega,fun _=>?_,fun m _ aE hcm=>?_⟩,?_⟩
 .rw [hlen]
  intro x _ k hx v hv
  rcases CL ha.len hx with ⟨h1,h2⟩ | ⟨j,b,rfl,h1,h2⟩
  .exact (fy x h1 k h2 v hv).mono (aL.mono (by omega))
  .obtain ⟨_,k',cZ,hall⟩:=dh.ok.aI b (Zc h1)
   rw [h2] at cZ;simp at cZ;subst cZ
   exact (Qhu (Z3 hall v hv)).mono (aL.mono (by omega))
 .intro x mN k hx v hv
  rcases CL ha.len hx with ⟨h1,h2⟩ | ⟨j,b,rfl,h1,h2⟩
  .exact ha.closed m aE aE hcm x mN k h2 v hv
  .omega
 .rw [hlen];exact (Qi8 hm).2 olds (List.prefix_refl _)
end
theorem Qi9 {P:Program} {c:Code} {Q:Exit->Act->World->Prop} {a:Act} {w:World} (I:Nat->Act->World->Prop) {n:Nat} (h₀:I n a w)
  (round:∀ n a w,I n a w->c.wp P (Exit.then (fun a' w'=>∃ n',n' < n/\I n' a' w') Q) a w):(Code.loop c).wp P Q a w:=by
 intro b k cs
 have key:∀ n a w,I n a w->∃ e a' w',Q e a' w'/\Arrives P (lone (b.at a (.code c::.inLoop c::k)) cs w) b k cs e a' w':=by
  intro n
  induction n using Nat.strongRecOn with
  | _ n ih =>
   intro a w hI
   obtain ⟨e,a₁,w₁,hq,jS⟩:=round n a w hI b (.inLoop c::k) cs
   cases e with
   | normal =>
    obtain ⟨n',au,hI₁⟩:=hq
    obtain ⟨e₂,a₂,w₂,hq₂,MG⟩:=ih n' au a₁ w₁ hI₁
    exact ⟨e₂,a₂,w₂,hq₂,.of_steps (Steps.trans jS (.one step_inLoop)) MG⟩
   | exit id=>exact ⟨_,a₁,w₁,hq,.pass (x:=.inLoop c) rfl (fun _ _=>.inl (by simp)) jS⟩
   | goto l=>exact ⟨_,a₁,w₁,hq,.pass (x:=.inLoop c) rfl (fun _ _=>.inl (by simp)) jS⟩
   | ret=>exact ⟨_,a₁,w₁,hq,.pass (x:=.inLoop c) rfl (fun _ _=>.inl (by simp)) jS⟩
   | panic ch=>exact ⟨_,a₁,w₁,hq,.pass (x:=.inLoop c) rfl (fun _ _=>.inl (by simp)) jS⟩
   | outgrown=>exact ⟨_,a₁,w₁,hq,.pass (x:=.inLoop c) rfl (fun _ _=>.inl (by simp)) jS⟩
 obtain ⟨e,a',w',hq,jS⟩:=key n a w h₀
 exact ⟨e,a',w',hq,.of_steps (.one step_loop) jS⟩
def PD (X:Cx):Prop:=∀ (β:Type) (id:Nat) (ops:Array Oper) (env:Env) (H:af) (K:Env->af->Option β) (r:β),G9 X ops env H K=some r ->
 ∀ (ι:Io) (a:Act) (w:World),Rel ι (aL H.length) H w->bt ι (aL H.length) X.nt env a->a.defers=[]->∀ Q:Exit->Act->World->Prop,
  (∀ ak ι' H' a' w',Rel ι' (aL H'.length) H' w'->bt ι' (aL H'.length) X.nt ak a'->Fr ι H w ι' H' w'->Ab X.ai H H'->a'.defers=[]->K ak H'=some r->Q .normal a' w')->(Code.region id ops true).wp X.P Q a w
def PE (X:Cx):Prop:=∀ (β:Type) (ops:Array Oper) (env:Env) (H:af) (K:Env->af->Option β) (r:β),G9 X ops env H K=some r->dJ (aL H.length) env->Ql H.length H ->
  ∃ ak H',K ak H'=some r/\dJ (aL H'.length) ak/\Ql H'.length H'/\Ab X.ai H H'
section
variable {X:Cx} {β:Type} {r:β}
def CN:List (Nat×Value)->List Value->Env
 | (s,_)::ks,v::vs=>(s,v)::CN ks vs
 | _,_=>[]
theorem Wj:∀ {ks:List (Nat×Value)} {vs:List Value} {K:Env->Option β},Bc ks vs K=some r->K (CN ks vs)=some r
 | [],vs,K,h=>by
  unfold Bc Ji at h
  split at h
  .exact h
  .simp at h
 | (s,t)::ks,vs,K,h=>by
  unfold Bc zT at h
  split at h
  .exact Wj (K:=fun env=>K ((s,_)::env)) (Ko h)
  .simp at h
theorem Wk:∀ {env:Env} {ks:List (Nat×Value)} {vs:List Value},u_ env ks=some vs->∀ s v,cQ (CN ks vs) s=some v->cQ env s=some v
 | env,[],vs,h,s,v,hs=>by simp [u_] at h;subst h;simp [CN,cQ] at hs
 | env,(s',t)::ks,vs,h,s,v,hs=>by
  simp only [u_] at h
  replace h:=Q2 h;obtain ⟨u,hu,h⟩:=h
  replace h:=Q2 h;obtain ⟨l,hl,h⟩:=h
  simp at h;subst h
  simp only [CN] at hs
  rw [vc] at hs
  by_cases e:s'=s
  .subst e;simp at hs;subst hs;exact hu
  .simp [e] at hs;exact Wk hl s v hs
theorem bt.zip {ι:Io} {D:Nat->Prop} {nt:Nat} {env:Env} {a:Act} (h:bt ι D nt env a) {ks:List (Nat×Value)} {vs:List Value} (hk:u_ env ks=some vs):bt ι D nt (CN ks vs) a :=
 ⟨h.size,fun s v hs=>h.get s v (Wk hk s v hs)⟩
theorem dJ.zip {D:Nat->Prop} {env:Env} (h:dJ D env) {ks:List (Nat×Value)} {vs:List Value} (hk:u_ env ks=some vs):dJ D (CN ks vs) :=
 fun s v hs=>h s v (Wk hk s v hs)
theorem Qmc {ι:Io} {D:Nat->Prop} {nt:Nat} {env:Env} {a:Act} {c:Operand} {b:Bool} (h:bt ι D nt env a) (hc:ev env c=some (.bool b)):bt ι D nt (Ei c b env) a:=by
 unfold Ei
 split
 .exact h.lit hc
 .exact h
theorem Qqk {D:Nat->Prop} {env:Env} {c:Operand} {b:Bool} (h:dJ D env):dJ D (Ei c b env):=by
 unfold Ei
 split
 .exact h.put (.bool _)
 .exact h
theorem HE (hX:oQ X.P X.call) (hD:PD X):∀ (c:Code) (n:Nat) (env:Env) (H:af) (K:eE->Env->af->Option β),eV X c n env H K=some r ->
  ∀ (ι:Io) (a:Act) (w:World),Rel ι (aL H.length) H w->bt ι (aL H.length) X.nt env a->a.defers=[]->c.wp X.P (Kt X ι H w K r) a w
 | .skip,n,env,H,K,h,ι,a,w,hR,hE,hd=>wp_skip ⟨.normal,env,ι,H,rfl,hR,hE,Fr.refl _ _ _,Ab.refl _ _,hd,h⟩
 | .label l,n,env,H,K,h,ι,a,w,hR,hE,hd=>wp_label ⟨.normal,env,ι,H,rfl,hR,hE,Fr.refl _ _ _,Ab.refl _ _,hd,h⟩
 | .region id ops d,n,env,H,K,h,ι,a,w,hR,hE,hd=>by
  unfold eV at h
  cases d with
  | false =>
   simp only at h
   refine wp_region ?_
   have:=RC hX (Q:=Kt X ι H w K r) ops.toList 0 env H (fun k=>by simp) (by simp) h ι a w hR hE hd (fun ak ι' H' a' w' h1 h2 h3 h4 h5 h6=>⟨.normal,ak,ι',H',rfl,h1,h2,h3,h4,h5,h6⟩)
   rw [List.range_eq_range']
   simpa using this
  | true=>exact hD β id ops env H (K .normal) r h ι a w hR hE hd _ fun ak ι' H' a' w' h1 h2 h3 h4 h5 h6=>⟨.normal,ak,ι',H',rfl,h1,h2,h3,h4,h5,h6⟩
 | .seq x y,n,env,H,K,h,ι,a,w,hR,hE,hd=>by
  unfold eV at h
  refine wp_seq (wp_mono (HE hX hD x n env H _ h ι a w hR hE hd) ?_)
  rintro ex a' w' ⟨vF,ak,ι',H',rfl,h1,h2,h3,h4,h5,h6⟩
  cases vF with
  | normal =>
   simp only at h6
   exact wp_mono (HE hX hD y _ ak H' K h6 ι' a' w' h1 h2 h5) fun e a2 w2 hg=>hg.later h3 h4
  | exit id=>exact ⟨.exit id,ak,ι',H',rfl,h1,h2,h3,h4,h5,h6⟩
  | ret=>exact ⟨.ret,ak,ι',H',rfl,h1,h2,h3,h4,h5,h6⟩
 | .cond c x y,n,env,H,K,h,ι,a,w,hR,hE,hd=>by
  unfold eV at h
  replace h:=Q2 h;obtain ⟨v,hv,h⟩:=h
  replace h:=Rs h;obtain ⟨t,rfl,h⟩:=h
  have hc:=(Qe hE hv).cM
  rcases jG h with ⟨rfl,h⟩ | ⟨rfl,h⟩
  .exact wp_cond_true hc (HE hX hD x _ _ H K h ι a w hR (Qmc hE hv) hd)
  .exact wp_cond_false hc (HE hX hD y _ _ H K h ι a w hR (Qmc hE hv) hd)
 | .block id c,n,env,H,K,h,ι,a,w,hR,hE,hd=>by
  unfold eV at h
  refine wp_block (wp_mono (HE hX hD c n env H _ h ι a w hR hE hd) ?_)
  rintro ex a' w' ⟨vF,ak,ι',H',rfl,h1,h2,h3,h4,h5,h6⟩
  cases vF with
  | normal=>exact ⟨.normal,ak,ι',H',rfl,h1,h2,h3,h4,h5,h6⟩
  | exit zW =>
   simp only at h6
   simp only [Ks,Exit.inBlock]
   split at h6
   .rename_i e;rw [if_pos (Z7 e)];exact ⟨.normal,ak,ι',H',rfl,h1,h2,h3,h4,h5,h6⟩
   .rename_i e;rw [if_neg (Nat.ne_of_beq_eq_false e)];exact ⟨.exit zW,ak,ι',H',rfl,h1,h2,h3,h4,h5,h6⟩
  | ret=>exact ⟨.ret,ak,ι',H',rfl,h1,h2,h3,h4,h5,h6⟩
 | .loop c,n,env,H,K,h,ι,a,w,hR,hE,hd=>by
  unfold eV at h
  replace h:=Q2 h;obtain ⟨vs,hv,h⟩:=h
  generalize hF:(fun (again:List Value->af->Option β) vs H=>Bc (X.cR n) vs fun env=>eV X c (n+1) env H fun ex ak H'=>match ex with
   | .normal=>Q1 (u_ ak (X.cR n)) fun cy=>again cy H'
   | .exit id=>K (.exit id) ak H'
   | .ret=>K .ret ak H')=F at h
  refine Qi9 (fun k a' w'=>∃ cy ι' H',Rel ι' (aL H'.length) H' w'/\bt ι' (aL H'.length) X.nt (CN (X.cR n) cy) a'/\Fr ι H w ι' H' w'/\Ab X.ai H H'/\a'.defers=[]/\Cm F k cy H'=some r) (n:=X.fuel) ?_ ?_
  .exact ⟨vs,ι,H,hR,hE.zip hv,Fr.refl _ _ _,Ab.refl _ _,hd,h⟩
  .rintro k a' w' ⟨cy,ι',H',g1,g2,g3,g4,g5,g6⟩
   cases k with
   | zero=>simp [Cm] at g6
   | succ k =>
    simp only [Cm] at g6
    rw [<- hF] at g6
    have g7:=Wj g6
    rw [hF] at g7
    refine wp_mono (HE hX hD c (n+1) _ H' _ g7 ι' a' w' g1 g2 g5) ?_
    rintro ex a2 w2 ⟨vF,b_,ι2,H2,rfl,k1,k2,k3,k4,k5,k6⟩
    cases vF with
    | normal =>
     simp only at k6
     replace k6:=Q2 k6;obtain ⟨vs2,I7,k6⟩:=k6
     exact ⟨k,by omega,vs2,ι2,H2,k1,k2.zip I7,g3.trans k3,g4.trans k4,k5,k6⟩
    | exit id=>exact ⟨.exit id,b_,ι2,H2,rfl,k1,k2,g3.trans k3,g4.trans k4,k5,k6⟩
    | ret=>exact ⟨.ret,b_,ι2,H2,rfl,k1,k2,g3.trans k3,g4.trans k4,k5,k6⟩
 | .exit id,n,env,H,K,h,ι,a,w,hR,hE,hd=>wp_exit ⟨.exit id,env,ι,H,rfl,hR,hE,Fr.refl _ _ _,Ab.refl _ _,hd,h⟩
 | .ret,n,env,H,K,h,ι,a,w,hR,hE,hd=>wp_ret ⟨.ret,env,ι,H,rfl,hR,hE,Fr.refl _ _ _,Ab.refl _ _,hd,h⟩
 | .rangeFunc _ _ _ _,n,env,H,K,h,ι,a,w,hR,hE,hd=>by simp [eV] at h
 | .scope _,n,env,H,K,h,ι,a,w,hR,hE,hd=>by simp [eV] at h
 | .goto _,n,env,H,K,h,ι,a,w,hR,hE,hd=>by simp [eV] at h
 | .refuse _,n,env,H,K,h,ι,a,w,hR,hE,hd=>by simp [eV] at h
theorem HF (hX:oQ X.P X.call) (hD:PE X):∀ (c:Code) (n:Nat) (env:Env) (H:af) (K:eE->Env->af->Option β),eV X c n env H K=some r->dJ (aL H.length) env->Ql H.length H ->
  ∃ ex ak H',K ex ak H'=some r/\dJ (aL H'.length) ak/\Ql H'.length H'/\Ab X.ai H H'
 | .skip,n,env,H,K,h,hE,hc=>⟨.normal,env,H,h,hE,hc,Ab.refl _ _⟩
 | .label l,n,env,H,K,h,hE,hc=>⟨.normal,env,H,h,hE,hc,Ab.refl _ _⟩
 | .region id ops d,n,env,H,K,h,hE,hc=>by
  unfold eV at h
  cases d with
  | false=>obtain ⟨e,H',h1,h2⟩:=RE hX ops.toList env H h hE hc;exact ⟨.normal,e,H',h1,h2⟩
  | true=>obtain ⟨e,H',h1,h2⟩:=hD β ops env H _ r h hE hc;exact ⟨.normal,e,H',h1,h2⟩
 | .seq x y,n,env,H,K,h,hE,hc=>by
  unfold eV at h
  obtain ⟨ex,e,H',h1,h2,h3,h4⟩:=HF hX hD x n env H _ h hE hc
  cases ex with
  | normal =>
   obtain ⟨ex,e',H2,g1,g2,g3,g4⟩:=HF hX hD y _ e H' K h1 h2 h3
   exact ⟨ex,e',H2,g1,g2,g3,h4.trans g4⟩
  | exit id=>exact ⟨_,e,H',h1,h2,h3,h4⟩
  | ret=>exact ⟨_,e,H',h1,h2,h3,h4⟩
 | .cond c x y,n,env,H,K,h,hE,hc=>by
  unfold eV at h
  replace h:=Q2 h;obtain ⟨v,hv,h⟩:=h
  replace h:=Rs h;obtain ⟨t,rfl,h⟩:=h
  rcases jG h with ⟨rfl,h⟩ | ⟨rfl,h⟩
  .exact HF hX hD x _ _ H K h (Qqk hE) hc
  .exact HF hX hD y _ _ H K h (Qqk hE) hc
 | .block id c,n,env,H,K,h,hE,hc=>by
  unfold eV at h
  obtain ⟨ex,e,H',h1,h2,h3,h4⟩:=HF hX hD c n env H _ h hE hc
  cases ex with
  | normal=>exact ⟨_,e,H',h1,h2,h3,h4⟩
  | exit zW =>
   simp only at h1
   split at h1
   .exact ⟨_,e,H',h1,h2,h3,h4⟩
   .exact ⟨_,e,H',h1,h2,h3,h4⟩
  | ret=>exact ⟨_,e,H',h1,h2,h3,h4⟩
 | .loop c,n,env,H,K,h,hE,hc=>by
  unfold eV at h
  replace h:=Q2 h;obtain ⟨vs,hv,h⟩:=h
  generalize hF:(fun (again:List Value->af->Option β) vs H=>Bc (X.cR n) vs fun env=>eV X c (n+1) env H fun ex ak H'=>match ex with
   | .normal=>Q1 (u_ ak (X.cR n)) fun cy=>again cy H'
   | .exit id=>K (.exit id) ak H'
   | .ret=>K .ret ak H')=F at h
  have Wl:dJ (aL H.length) (CN (X.cR n) vs):=hE.zip hv
  clear hv hE
  generalize X.fuel=k at h
  induction k generalizing vs H with
  | zero=>simp [Cm] at h
  | succ k ih =>
   simp only [Cm] at h
   rw [<- hF] at h
   have g7:=Wj h
   rw [hF] at g7
   obtain ⟨ex,e,H',h1,h2,h3,h4⟩:=HF hX hD c (n+1) _ H _ g7 Wl hc
   cases ex with
   | normal =>
    simp only at h1
    replace h1:=Q2 h1;obtain ⟨vs2,I7,h1⟩:=h1
    obtain ⟨ex,e',H2,g1,g2,g3,g4⟩:=ih H' h3 vs2 (h2.zip I7) h1
    exact ⟨ex,e',H2,g1,g2,g3,h4.trans g4⟩
   | exit id=>exact ⟨_,e,H',h1,h2,h3,h4⟩
   | ret=>exact ⟨_,e,H',h1,h2,h3,h4⟩
 | .exit id,n,env,H,K,h,hE,hc=>⟨.exit id,env,H,h,hE,hc,Ab.refl _ _⟩
 | .ret,n,env,H,K,h,hE,hc=>⟨.ret,env,H,h,hE,hc,Ab.refl _ _⟩
 | .rangeFunc _ _ _ _,n,env,H,K,h,hE,hc=>by simp [eV] at h
 | .scope _,n,env,H,K,h,hE,hc=>by simp [eV] at h
 | .goto _,n,env,H,K,h,hE,hc=>by simp [eV] at h
 | .refuse _,n,env,H,K,h,hE,hc=>by simp [eV] at h
end
theorem Wm:∀ (l:List Value) (i s:Nat) (v:Value),cQ (qL i l) s=some v->i<=s/\l[s - i]? = some v
 | [],i,s,v,h=>by simp [qL,cQ] at h
 | x::l,i,s,v,h=>by
  simp only [qL] at h
  rw [vc] at h
  by_cases e:i=s
  .subst e;simp at h;subst h;simp
  .simp [e] at h
   obtain ⟨h1,h2⟩:=Wm l (i+1) s v h
   refine ⟨by omega,?_⟩
   rw [show s - i=(s - (i+1))+1 by omega]
   simpa using h2
theorem Qia {ι:Io} {D:Nat->Prop} {vs cs:List Value} (h:aZ ι D vs cs):ay ι D (iJ vs) (iJ cs):=by
 unfold iJ
 split
 .rename_i v
  match cs,h with
  | [c],h=>exact h.head
  | [],h=>exact absurd h.1 (by simp)
  | c::d::r,h=>exact absurd h.1 (by simp)
 .rename_i aV
  have:∀ c,cs≠[c]:=by
   rintro c rfl
   match vs,h,aV with
   | [v],_,aV=>exact aV v rfl
   | [],h,_=>exact absurd h.1 (by simp)
   | a::b::r,h,_=>exact absurd h.1 (by simp)
  split
  .rename_i c;exact absurd rfl (this c)
  .exact .tuple vs cs h.1 h.2
theorem Qmd {D:Nat->Prop} {vs:List Value} (h:gO D vs):bK D (iJ vs):=by
 unfold iJ
 split
 .exact h _ (by simp)
 .exact .tuple vs fun i hi=>h _ (List.getElem_mem hi)
theorem Qfp (cs:List Value):(if h:cs.toArray.size=1 then cs.toArray[0] else .tuple cs.toArray)=iJ cs:=by
 unfold iJ
 split
 .rename_i h
  match cs,h with
  | [c],_=>rfl
 .rename_i h
  split
  .simp at h
  .rfl
theorem Qtm {P:Program} {A:Co} {call:FuncId->List Value->Nat->af->Option (Value×af)} (hX:oQ P call) (hD:∀ X:Cx,X.P=P->X.call=call->PD X/\PE X) {f:FuncId} {args:List Value} {ai:Nat} {H H':af} {v:Value}
  (h:El P A call f args ai H=some (v,H')):ig P f args ai H v H':=by
 unfold El at h
 split at h
 .simp at h
 .rename_i fn hfn
  split at h
  .rename_i c hb hle D6
   have hle:=Zi hle
   generalize PF:(⟨P,call,Vv (A.mode f) ai H.length,fn.ntmps,A.fuel,A.loops f⟩:Cx)=X at h
   have Wn:X.P=P:=by rw [<- PF]
   have hXc:X.call=call:=by rw [<- PF]
   have Wo:X.ai=Vv (A.mode f) ai H.length:=by rw [<- PF]
   have hXn:X.nt=fn.ntmps:=by rw [<- PF]
   obtain ⟨hDw,hDa⟩:=hD X Wn hXc
   have O4:oQ X.P X.call:=by rw [Wn,hXc];exact hX
   have Wp:∀ D:Nat->Prop,gO D args->dJ D (qL 0 args):=by
    intro D hl s u hs
    obtain ⟨_,h2⟩:=Wm args 0 s u hs
    exact hl u (Zc h2)
   have MH:gO (aL H.length) args->Ql H.length H->bK (aL H'.length) v/\Ab ai H H':=by
    intro hl hc
    obtain ⟨ex,ak,H2,g1,g2,g3,g4⟩:=HF O4 hDa c 0 _ H _ h (Wp _ hl) hc
    have fin:∀ {vs:List Value},iI P ak H2 fn.results.toList=some vs->(Q1 (vb (A.mode f) H.length vs H2) fun r=>some (iJ r.1,r.2))=some (v,H')->bK (aL H'.length) v/\Ab ai H H':=by
     intro vs hr hf
     replace hf:=Q2 hf;obtain ⟨⟨cy,H3⟩,hf,he⟩:=hf
     simp at he;obtain ⟨rfl,rfl⟩:=he
     have IB:=MF hr g2 g3
     unfold vb at hf
     cases hm:A.mode f with
     | keep =>
      rw [hm] at hf;simp at hf;obtain ⟨rfl,rfl⟩:=hf
      rw [Wo,hm] at g4
      exact ⟨Qmd IB,g4⟩
     | drop =>
      rw [hm] at hf;simp only at hf
      replace hf:=Q2 hf;obtain ⟨⟨vs2,olds⟩,Wq,he⟩:=hf
      simp at he;obtain ⟨rfl,rfl⟩:=he
      rw [Wo,hm] at g4
      obtain ⟨k1,k2⟩:=Qqj (ai:=ai) g4 hc Wq
      exact ⟨Qmd k2,k1⟩
    cases ex with
    | normal=>simp only at g1;replace g1:=Q2 g1;obtain ⟨vs,hr,g1⟩:=g1;exact fin hr g1
    | exit id=>simp at g1
    | ret=>simp only at g1;replace g1:=Q2 g1;obtain ⟨vs,hr,g1⟩:=g1;exact fin hr g1
   refine ⟨fun hl hc=>(MH hl hc).1,fun hl hc=>(MH hl hc).2,fun bS w=>?_,fun ι w bS hR hl=>?_⟩
   .have aV:(fn.name == "runtime.NumGoroutine")=false:=D6
    simp only [callFunc,Sem.run_bind,run_program,Result.andThen_ok,hfn,aV,Bool.false_eq_true,if_false,hb,Option.isNone_some,Sem.run_pure]
   .refine calls_of_wp hfn hb ?_
    have bf:bS.size=args.length:=by have:=hl.1;simpa using this.symm
    have hE:bt ι (aL H.length) X.nt (qL 0 args) { tmps:=bS++Array.replicate (fn.ntmps - bS.size) undef,defers:=[] }:=by
     refine ⟨by simp [hXn];omega,fun s u hs=>?_⟩
     obtain ⟨_,h2⟩:=Wm args 0 s u hs
     obtain ⟨d,h3,h4⟩:=hl.get h2
     have au:s < bS.size:=by
      have:=(Z0 h2).1
      simp at this;omega
     have:(bS++Array.replicate (fn.ntmps - bS.size) undef).getD s undef=d:=by
      rw [Array.getD_eq_getD_getElem?,Array.getElem?_append_left au,<- Array.getElem?_toList]
      simp only [Nat.sub_zero] at h3
      rw [h3];rfl
     rw [this];exact h4
    have hwp:=HE O4 hDw c 0 _ H _ h ι _ w hR hE rfl
    rw [Wn] at hwp
    refine wp_mono hwp ?_
    rintro ex a' w' ⟨vF,ak,ι',H2,rfl,g1,g2,g3,g4,g5,g6⟩
    have fin:∀ {vs:List Value},iI P ak H2 fn.results.toList=some vs->(Q1 (vb (A.mode f) H.length vs H2) fun r=>some (iJ r.1,r.2))=some (v,H') ->
      a'.defers=[]/\∃ v',(results fn a'.tmps).run P w'=.ok v' w'/\∃ ι'' c',(Ending.returned v')=.returned c'/\Rel ι'' (aL H'.length) H' w'/\ay ι'' (aL H'.length) v c'/\Fr ι H w ι'' H' w':=by
     intro vs hr hf
     replace hf:=Q2 hf;obtain ⟨⟨cy,H3⟩,hf,he⟩:=hf
     simp at he;obtain ⟨rfl,rfl⟩:=he
     obtain ⟨cs,k1,k2⟩:=Wd (P:=P) g1 g2 hr
     have HD:(results fn a'.tmps).run P w'=.ok (iJ cs) w':=by
      unfold results
      rw [Array.mapM_eq_mapM_toList]
      simp only [Sem.run_bind,Sem.run_map]
      refine (congrArg (fun x=>Result.andThen (Result.andThen x _) _) k2).trans ?_
      simp only [Result.andThen_ok,Sem.run_pure]
      rw [<- Qfp]
     refine ⟨g5,iJ cs,HD,?_⟩
     unfold vb at hf
     cases hm:A.mode f with
     | keep =>
      rw [hm] at hf;simp at hf;obtain ⟨rfl,rfl⟩:=hf
      exact ⟨ι',_,rfl,g1,Qia k1,g3⟩
     | drop =>
      rw [hm] at hf;simp only at hf
      replace hf:=Q2 hf;obtain ⟨⟨vs2,olds⟩,Wq,he⟩:=hf
      simp at he;obtain ⟨rfl,rfl⟩:=he
      rw [Wo,hm] at g4
      have fy:=g4.closed H.length (Zd _) (Zd _) hR.closed
      obtain ⟨q1,q2,q3⟩:=Qno g1 g3 fy Wq k1
      exact ⟨_,_,rfl,q1,Qia q3,q2⟩
    cases vF with
    | normal=>simp only at g6;replace g6:=Q2 g6;obtain ⟨vs,hr,g6⟩:=g6;exact fin hr g6
    | exit id=>simp at g6
    | ret=>simp only at g6;replace g6:=Q2 g6;obtain ⟨vs,hr,g6⟩:=g6;exact fin hr g6
  .simp at h
def Px (P:Program) (A:Co):Prop:=∀ f e,A.ext f=some e->∀ args ai H v H',e args ai H=some (v,H')->ig P f args ai H v H'
theorem Qvk {P:Program} {A:Co} (hA:Px P A) (hD:∀ X:Cx,X.P=P->oQ P X.call->PD X/\PE X):∀ d:Nat,oQ P (run P A d)
 | 0=>by intro f args ai H v H' h;simp [run] at h
 | d+1=>by
  have ih:=Qvk hA hD d
  intro f args ai H v H' h
  simp only [run] at h
  split at h
  .rename_i e he;exact hA f e he args ai H v H' h
  .exact Qtm ih (fun X hP hc=>hD X hP (by rw [hc];exact ih)) h
def Bm (acc:Array Nat) (o:Oper):Nat:=o.after.foldl (fun s e=>if Region.binds .any e then s ||| 2 ^ e.on ||| acc.getD e.on 0 else s) 0
theorem Qql (ops:Array Oper):Region.before ops=ops.toList.foldl (fun acc o=>acc.push (Bm acc o)) #[]:=by
 rw [Array.foldl_toList];rfl
theorem Qzu:∀ (l:List Oper) (acc:Array Nat),(l.foldl (fun acc o=>acc.push (Bm acc o)) acc).size=acc.size+l.length/\(∀ j,j < acc.size->(l.foldl (fun acc o=>acc.push (Bm acc o)) acc)[j]? = acc[j]?) /\
  ∀ k o,l[k]? = some o->∃ jy:Array Nat,jy.size=acc.size+k/\(∀ j,j < jy.size->(l.foldl (fun acc o=>acc.push (Bm acc o)) acc)[j]? = jy[j]?)/\(l.foldl (fun acc o=>acc.push (Bm acc o)) acc)[acc.size+k]? = some (Bm jy o)
 | [],acc=>⟨by simp,fun j _=>rfl,fun k o h=>by simp at h⟩
 | x::l,acc=>by
  obtain ⟨h1,h2,h3⟩:=Qzu l (acc.push (Bm acc x))
  simp only [List.foldl_cons]
  refine ⟨by rw [h1];simp;omega,fun j hj=>?_,fun k o hk=>?_⟩
  .rw [h2 j (by simp;omega),Array.getElem?_push,if_neg (by omega)]
  .cases k with
   | zero =>
    simp at hk;subst hk
    refine ⟨acc,by simp,fun j hj=>?_,?_⟩
    .rw [h2 j (by simp;omega),Array.getElem?_push,if_neg (by omega)]
    .rw [Nat.add_zero,h2 acc.size (by simp),Array.getElem?_push,if_pos rfl]
   | succ k =>
    obtain ⟨jy,g1,g2,g3⟩:=h3 k o (by simpa using hk)
    refine ⟨jy,by rw [g1];simp;omega,g2,?_⟩
    rw [show acc.size+(k+1)=(acc.push (Bm acc x)).size+k by simp;omega]
    exact g3
theorem Qib (acc:Array Nat) (i:Nat):∀ (l:List Edge) (s:Nat),(l.foldl (fun s e=>if Region.binds .any e then s ||| 2 ^ e.on ||| acc.getD e.on 0 else s) s).testBit i=true ->
  s.testBit i=true\/∃ e∈l,Region.binds .any e=true/\(e.on=i\/(acc.getD e.on 0).testBit i=true)
 | [],s,h=>.inl h
 | e::l,s,h=>by
  simp only [List.foldl_cons] at h
  rcases Qib acc i l _ h with h | ⟨e',h1,h2⟩
  .split at h
   .rename_i hb
    simp only [Nat.testBit_or,Bool.or_eq_true,Nat.testBit_two_pow,Zj] at h
    rcases h with (h | h) | h
    .exact .inl h
    .exact .inr ⟨e,by simp,hb,.inl h⟩
    .exact .inr ⟨e,by simp,hb,.inr h⟩
   .exact .inl h
  .exact .inr ⟨e',List.mem_cons_of_mem _ h1,h2⟩
theorem Qto {ops:Array Oper} {j i:Nat} (h:iH (Region.before ops) j i=true):∃ o e,ops[j]? = some o/\e∈o.after.toList/\Region.binds .any e=true/\(e.on=i\/iH (Region.before ops) e.on i=true):=by
 obtain ⟨h1,_,h3⟩:=Qzu ops.toList #[]
 rw [<- Qql] at h1 h3
 unfold iH at h
 cases hj:ops[j]? with
 | none =>
  have au:ops.size<=j:=by
   by_cases au:j < ops.size
   .rw [Array.getElem?_eq_getElem au] at hj;simp at hj
   .omega
  have:(Region.before ops).getD j 0=0:=by
   rw [Array.getD_eq_getD_getElem?,Array.getElem?_eq_none (by rw [h1];simp;omega)];rfl
  rw [this] at h;simp at h
 | some o =>
  obtain ⟨jy,g1,g2,g3⟩:=h3 j o (by rw [Array.getElem?_toList];exact hj)
  simp only [List.size_toArray,Zb,Zo] at g1 g3
  have e1:(Region.before ops).getD j 0=Bm jy o:=by rw [Array.getD_eq_getD_getElem?,g3];rfl
  rw [e1] at h
  unfold Bm at h
  rw [<- Array.foldl_toList] at h
  rcases Qib jy i o.after.toList 0 h with h | ⟨e,k1,k2,k3⟩
  .simp at h
  .refine ⟨o,e,rfl,k1,k2,?_⟩
   rcases k3 with k3 | k3
   .exact .inl k3
   .right
    unfold iH
    by_cases hl:e.on < jy.size
    .have:(Region.before ops).getD e.on 0=jy.getD e.on 0:=by rw [Array.getD_eq_getD_getElem?,Array.getD_eq_getD_getElem?,g2 _ hl]
     rw [this];exact k3
    .rw [Array.getD_eq_getD_getElem?,Array.getElem?_eq_none (by omega)] at k3;simp at k3
section
variable {X:Cx} {β:Type} {r:β} {o:Oper} {env:Env} {H:af}
def oe (o:Oper):List Tmp:=o.op.operands.toList.filterMap fun | .tmp t=>some t | _=>none
def bJ (ts:List Tmp) (env:Env):Env:=env.filter fun p=>ts.contains p.1
theorem Wr {ts:List Tmp}:∀ {env:Env} {t:Nat},t∈ts->cQ (bJ ts env) t=cQ env t
 | [],t,h=>rfl
 | (s,v)::env,t,h=>by
  have ih:=Wr (ts:=ts) (env:=env) h
  unfold bJ at ih ⊢
  rw [List.filter_cons]
  by_cases e:s=t
  .subst e
   have:ts.contains s=true:=by simpa using h
   rw [if_pos this,vc,vc,if_pos rfl,if_pos rfl]
  .rw [vc,if_neg e]
   split
   .rw [vc,if_neg e];exact ih
   .exact ih
theorem Ws {ts:List Tmp}:∀ {env:Env} {t:Nat} {v:Value},cQ (bJ ts env) t=some v->t∈ts/\cQ env t=some v
 | [],t,v,h=>by simp [bJ,cQ] at h
 | (s,u)::env,t,v,h=>by
  by_cases ht:t∈ts
  .exact ⟨ht,by rw [<- Wr ht];exact h⟩
  .exfalso
   unfold bJ at h
   rw [List.filter_cons] at h
   have ih:=fun h=>ht (Ws (ts:=ts) (env:=env) (t:=t) (v:=v) h).1
   split at h
   .rename_i hc
    rw [vc] at h
    by_cases e:s=t
    .subst e;exact ht (by simpa using hc)
    .rw [if_neg e] at h;exact ih h
   .exact ih h
theorem MI {x:Operand} (h:x∈o.op.operands.toList):ev (bJ (oe o) env) x=ev env x:=by
 cases x with
 | tmp t =>
  simp only [ev]
  exact Wr (by unfold oe;rw [List.mem_filterMap];exact ⟨_,h,rfl⟩)
 | const v=>rfl
 | global g=>rfl
 | func f=>rfl
theorem PG:∀ {xs:List Operand},(∀ x∈xs,x∈o.op.operands.toList)->eU (bJ (oe o) env) xs=eU env xs
 | [],_=>rfl
 | x::xs,h=>by
  simp only [eU]
  rw [MI (h x (by simp)),PG fun y hy=>h y (List.mem_cons_of_mem _ hy)]
theorem Wt:∀ {xs:List (Nat×Operand)},(∀ x∈xs,x.2∈o.op.operands.toList)->ox (bJ (oe o) env) xs=ox env xs
 | [],_=>rfl
 | (i,x)::xs,h=>by
  simp only [ox]
  rw [MI (h (i,x) (by simp)),Wt fun y hy=>h y (List.mem_cons_of_mem _ hy)]
theorem Q8l {x:Option Operand} {d:Nat} {K:Nat->Option β} (h:∀ y,x=some y->y∈o.op.operands.toList):mB (bJ (oe o) env) x d K=mB env x d K:=by
 cases x with
 | none=>rfl
 | some y=>simp only [mB];rw [MI (h y rfl)]
theorem Qnp (K:Value->af->Option β):dr X o (bJ (oe o) env) H K=dr X o env H K:=by
 have aK:∀ {op:Op},o.op=op->∀ x,x∈op.operands.toList->ev (bJ (oe o) env) x=ev env x:=fun e x hx=>MI (by rw [e];exact hx)
 unfold dr
 cases ho:o.op with
 | move x=>simp only [aK ho x (by simp [Op.operands])]
 | assign x=>simp only [aK ho x (by simp [Op.operands])]
 | pick c a b=>simp only [aK ho c (by simp [Op.operands]),aK ho a (by simp [Op.operands]),aK ho b (by simp [Op.operands])]
 | box t x=>simp only [aK ho x (by simp [Op.operands])]
 | build t ps =>
  simp only
  rw [Wt]
  intro x hx;rw [ho];simp only [Op.operands,List.mem_map]
  exact ⟨x,hx,rfl⟩
 | buildSlice t n ps =>
  simp only
  rw [Wt]
  intro x hx;rw [ho];simp only [Op.operands,List.mem_map]
  exact ⟨x,hx,rfl⟩
 | load t x=>simp only [aK ho x (by simp [Op.operands])]
 | store t x y=>simp only [aK ho x (by simp [Op.operands]),aK ho y (by simp [Op.operands])]
 | nilCheck x=>simp only [aK ho x (by simp [Op.operands])]
 | binOp op t x y t'=>simp only [aK ho x (by simp [Op.operands]),aK ho y (by simp [Op.operands])]
 | unOp op t x=>simp only [aK ho x (by simp [Op.operands])]
 | convert s d x=>simp only [aK ho x (by simp [Op.operands])]
 | makeFunc fn first cap =>
  cases fn with
  | func f =>
   simp only
   rw [PG (xs:=first.toList),PG (xs:=cap.toList)]
   .intro x hx;rw [ho];simp [Op.operands];exact .inr (by simpa using hx)
   .intro x hx;rw [ho];simp [Op.operands];exact .inl (by simpa using hx)
  | _=>rfl
 | makeSlice t x y=>simp only [aK ho x (by simp [Op.operands]),aK ho y (by simp [Op.operands])]
 | slice t x lo hi mx =>
  cases mx with
  | none =>
   simp only [aK ho x (by simp [Op.operands])]
   have b1:∀ (d:Nat) (K:Nat->Option β),mB (bJ (oe o) env) hi d K=mB env hi d K:=fun d K=>Q8l (fun y e=>by rw [ho,e];simp [Op.operands])
   have b2:∀ (d:Nat) (K:Nat->Option β),mB (bJ (oe o) env) lo d K=mB env lo d K:=fun d K=>Q8l (fun y e=>by rw [ho,e];simp [Op.operands])
   simp only [b1,b2]
  | some y=>rfl
 | fieldAddr t x f=>simp only [aK ho x (by simp [Op.operands])]
 | field t x f=>simp only [aK ho x (by simp [Op.operands])]
 | indexAddr t x y=>simp only [aK ho x (by simp [Op.operands]),aK ho y (by simp [Op.operands])]
 | index t x y=>simp only [aK ho x (by simp [Op.operands]),aK ho y (by simp [Op.operands])]
 | extract x i=>simp only [aK ho x (by simp [Op.operands])]
 | call c =>
  have hargs:eU (bJ (oe o) env) c.args.toList=eU env c.args.toList:=PG fun x hx=>by
   rw [ho];simp only [Op.operands,Call.operands,Array.toList_append,Zh];exact .inr hx
  simp only [hargs]
  cases hc:c.callee with
  | builtin b=>rfl
  | value f =>
   simp only
   rw [aK ho f (by simp [Op.operands,Call.operands,hc])]
  | invoke x m=>rfl
 | _=>rfl
theorem Qtp {P:Program} {o:Op} {env:Env} {G H:af} {z:Nat} {t:Tmp} {v:Value} (h:O8 o=some t) (hv:cQ env t=some v) (hz:Is v=some z) (g:ah G z=ah H z):cX P o env G=cX P o env H:=by
 unfold O8 at h
 split at h
 .rename_i ty t'
  simp at h;subst h
  unfold cX
  simp only [J8 (show ev env (.tmp t')=some v from hv),ev,hv,Q1]
  cases v<;>simp only [eX]
  rename_i p
  cases p with
  | none=>rfl
  | some p =>
   simp only [Is,Option.some.injEq] at hz;subst hz
   simp only
   unfold Qx gD
   rw [g]
 .rename_i a b t'
  simp at h;subst h
  unfold cX
  simp only [ev,hv,Q1]
  cases v<;>try (first | rfl | (simp [Is] at hz;done))
  rename_i p n c
  cases p with
  | none=>simp [Is] at hz
  | some p =>
   simp only [Is,Option.some.injEq] at hz;subst hz
   have:fJ G p (n*1)=fJ H p (n*1):=by
    cases n*1 with
    | zero=>rfl
    | succ q=>simp only [fJ];unfold Qx;rw [g]
   simp only [Qf,this]
 .simp at h
theorem Qdo {P:Program} {G:af}:cX P o.op (bJ (oe o) env) G=cX P o.op env G:=by
 have aK:∀ {op:Op},o.op=op->∀ x,x∈op.operands.toList->ev (bJ (oe o) env) x=ev env x:=fun e x hx=>MI (by rw [e];exact hx)
 unfold cX
 cases ho:o.op with
 | load t x=>simp only [aK ho x (by simp [Op.operands])]
 | convert s d x=>simp only [aK ho x (by simp [Op.operands])]
 | _=>rfl
def Jz (ops:Array Oper) (o:Oper):List Tmp:=match o.guard with
 | some (g,_)=>((ops[g]?).bind (·.dst)).toList
 | none=>[]
theorem Qdp (ops:Array Oper) (o:Oper):o.looksAt ops=oe o++Jz ops o:=rfl
structure vp (ι:Io) (D:Nat->Prop) (nt:Nat) (ts:List Tmp) (env:Env) (a:Act):Prop where
 size:a.tmps.size=nt
 get:∀ s∈ts,∀ v,cQ env s=some v->ay ι D v (a.tmps.getD s undef)
theorem vp.bJ {ι:Io} {D:Nat->Prop} {nt:Nat} {ts:List Tmp} {env:Env} {a:Act} (h:vp ι D nt ts env a):bt ι D nt (bJ ts env) a :=
 ⟨h.size,fun s v hs=>by obtain ⟨h1,h2⟩:=Ws hs;exact h.get s h1 v h2⟩
def Qvl (nt:Nat) (ops:Array Oper) (o:Oper) (env:Env) (t:Bool):Prop :=
 ∀ (ι:Io) (D:Nat->Prop) (a:Act),vp ι D nt (Jz ops o) env a->Region.wanted o (yielded ops a.tmps)=t
theorem Qkd {nt:Nat} {ops:Array Oper} {K:Bool->Env->Option β} (h:Dq ops o env K=some r):∃ t ak,K t ak=some r/\(∀ s,cQ ak s=cQ env s)/\Qvl nt ops o env t:=by
 unfold Dq at h
 split at h
 .rename_i hg
  exact ⟨true,env,h,fun _=>rfl,fun ι D a hE=>by simp [Region.wanted,hg]⟩
 .rename_i j want hg
  split at h
  .rename_i d hd
   replace h:=Q2 h;obtain ⟨v,hv,h⟩:=h
   have hy:∀ (ι:Io) (D:Nat->Prop) (a:Act),vp ι D nt (Jz ops o) env a->yielded ops a.tmps j=match v with | .bool b=>some b | _=>none:=by
    intro ι D a hE
    have hr:=hE.get d (by simp [Jz,hg,hd]) v hv
    unfold yielded
    rw [hd]
    simp only [Option.bind_some]
    by_cases au:d < a.tmps.size
    .rw [Array.getElem?_eq_getElem au]
     have e:a.tmps.getD d undef=a.tmps[d]:=by simp [Array.getD,au]
     rw [e] at hr
     generalize a.tmps[d]=c at hr ⊢
     cases hr<;>rfl
    .rw [Array.getElem?_eq_none (Nat.le_of_not_lt au)]
     have e:a.tmps.getD d undef=undef:=by simp [Array.getD,au]
     rw [e] at hr
     cases hr<;>rfl
   have dA:∀ b,v=.bool b->∀ s,cQ ((d,.bool b)::env) s=cQ env s:=by
    intro b e s
    rw [vc]
    by_cases hs:d=s
    .subst hs;rw [if_pos rfl,hv,e]
    .rw [if_neg hs]
   split at h
   .rename_i b
    rcases jG h with ⟨rfl,h⟩ | ⟨rfl,h⟩
    .refine ⟨_,_,h,dA _ rfl,fun ι D a hE=>?_⟩
     simp only [Region.wanted,hg,hy ι D a hE]
     cases want<;>rfl
    .refine ⟨_,_,h,dA _ rfl,fun ι D a hE=>?_⟩
     simp only [Region.wanted,hg,hy ι D a hE]
     cases want<;>rfl
   .rename_i RB
    refine ⟨_,_,h,fun _=>rfl,fun ι D a hE=>?_⟩
    simp only [Region.wanted,hg,hy ι D a hE]
    cases v<;>first | rfl | exact absurd rfl (RB _)
  .simp at h
structure St where
 dZ:Env
 env:Env
 H:af
 t:Bool
 v:Value
structure qU (X:Cx) (ops:Array Oper) (o:Oper) (s s':St):Prop where
 same:∀ q,cQ s.env q=cQ s.dZ q
 guard:Qvl X.nt ops o s.dZ s.t
 yes:s.t=true->jH X o (bJ (oe o) s.env) s.H s.v s'.H
 no:s.t=false->s.v=undef/\s'.H=s.H
 put:(o.dst=none/\s'.dZ=s.env)\/∃ d,o.dst=some d/\d < X.nt/\s'.dZ=(d,s.v)::s.env
theorem Qa0 (hX:oQ X.P X.call) {ops:Array Oper} {K:List (Env×af)->Env->af->Option β}:∀ (l:List Oper) (env:Env) (H:af) (tr:List (Env×af)),zV X ops l env H tr K=some r ->
  ∃ S:Nat->St,(S 0).dZ=env/\(S 0).H=H/\(S l.length).env=(S l.length).dZ/\(∀ k o,l[k]? = some o->qU X ops o (S k) (S (k+1))) /\
   K (((List.range (l.length+1)).map fun k=>((S k).env,(S k).H)).reverse++tr) (S l.length).dZ (S l.length).H=some r
 | [],env,H,tr,h=>by
  refine ⟨fun _=>⟨env,env,H,true,undef⟩,rfl,rfl,rfl,fun k o hk=>by simp at hk,?_⟩
  unfold zV at h
  simpa using h
 | o::l,env,H,tr,h=>by
  unfold zV at h
  obtain ⟨t,fQ,h,dA,hg⟩:=Qkd (nt:=X.nt) h
  have fin:∀ (v:Value) (H':af) (b_:Env),(t=true->jH X o (bJ (oe o) fQ) H v H')->(t=false->v=undef/\H'=H) ->
    ((o.dst=none/\b_=fQ)\/∃ d,o.dst=some d/\d < X.nt/\b_=(d,v)::fQ)->zV X ops l b_ H' ((fQ,H)::tr) K=some r ->
    ∃ S:Nat->St,(S 0).dZ=env/\(S 0).H=H/\(S (o::l).length).env=(S (o::l).length).dZ/\(∀ k q,(o::l)[k]? = some q->qU X ops q (S k) (S (k+1))) /\
     K (((List.range ((o::l).length+1)).map fun k=>((S k).env,(S k).H)).reverse++tr) (S (o::l).length).dZ (S (o::l).length).H=some r:=by
   intro v H' b_ h1 h2 h3 h4
   obtain ⟨S,g1,g2,g3,g4,g5⟩:=Qa0 hX l b_ H' _ h4
   refine ⟨fun k=>match k with | 0=>⟨env,fQ,H,t,v⟩ | k+1=>S k,rfl,rfl,g3,fun k q hk=>?_,?_⟩
   .cases k with
    | zero =>
     simp at hk;subst hk
     exact ⟨dA,hg,fun e=>by simp only [g2];exact h1 e,fun e=>by simp only [g2];exact h2 e,by simp only [g1];exact h3⟩
    | succ k=>exact g4 k q (by simpa using hk)
   .have:((List.range ((o::l).length+1)).map fun k=>(((fun k=>match k with | 0=>(⟨env,fQ,H,t,v⟩:St) | k+1=>S k) k).env,((fun k=>match k with | 0=>(⟨env,fQ,H,t,v⟩:St) | k+1=>S k) k).H))=(fQ,H)::((List.range (l.length+1)).map fun k=>((S k).env,(S k).H)):=by
     rw [Z9,List.range_succ_eq_map,List.map_cons,List.map_map]
     rfl
    rw [this]
    simpa using g5
  cases t with
  | true =>
   simp only at h
   rw [<- Qnp] at h
   obtain ⟨v,H',h,hF⟩:=Rt hX h
   obtain ⟨b_,h,hp⟩:=Dn h
   exact fin v H' b_ (fun _=>hF) (fun e=>by simp at e) hp h
  | false =>
   simp only at h
   obtain ⟨b_,h,hp⟩:=Dn h
   exact fin undef H b_ (fun e=>by simp at e) (fun _=>⟨rfl,rfl⟩) hp h
theorem Qbt {x y:Value} (h:Qa x y=true):x=y:=by
 unfold Qa at h
 split at h
 .simp at h;rw [h]
 .simp at h;rw [h.1,h.2]
 .rename_i a b
  simp only [beq_iff_eq] at h
  have:a=b:=by
   rw [ByteArray.toList_eq,ByteArray.toList_eq] at h
   obtain ⟨⟨x⟩⟩:=a;obtain ⟨⟨y⟩⟩:=b
   simp at h;rw [h]
  rw [this]
 .simp at h;rw [h]
 .simp at h;rw [h.1.1,h.1.2,h.2]
 .rfl
 .rfl
 .simp at h;rw [h]
 .simp at h
theorem Qic:∀ {x y:List Value},Bd x y=true->x=y
 | [],[],_=>rfl
 | [],_::_,h=>by simp [Bd] at h
 | _::_,[],h=>by simp [Bd] at h
 | a::x,b::y,h=>by
  simp only [Bd,Z8] at h
  rw [Qbt h.1,Qic h.2]
theorem Qqm {x y:Option Value} (h:jO x y=true):x=y:=by
 unfold jO at h
 split at h
 .rfl
 .rename_i xs ys
  have:=Qic h
  obtain ⟨xs⟩:=xs;obtain ⟨ys⟩:=ys
  simp at this;rw [this]
 .rw [Qbt h]
 .simp at h
theorem Wu {P:Program} {ops:Array Oper} {jv:List (Env×af)} {i:Nat} {o:Oper} {x:Option β}:∀ {ms:List Nat},G8 P ops jv i o ms x=some r ->
  x=some r/\∀ m∈ms,(Jl P ops m i || Jm P ops i o m)=true\/∃ s q,jv[i]? = some s/\jv[m]? = some q/\cX P o.op s.1 q.2=cX P o.op s.1 s.2
 | [],h=>⟨h,by simp⟩
 | m::ms,h=>by
  unfold G8 at h
  split at h
  .rename_i hq
   obtain ⟨h1,h2⟩:=Wu h
   exact ⟨h1,fun k hk=>by
    rcases Z2 hk with rfl | hk
    .exact .inl hq
    .exact h2 k hk⟩
  .split at h
   .rename_i s q hs hq
    rcases jG h with ⟨e,h⟩ | ⟨_,h⟩
    .obtain ⟨h1,h2⟩:=Wu h
     exact ⟨h1,fun k hk=>by
      rcases Z2 hk with rfl | hk
      .exact .inr ⟨s,q,hs,hq,Qqm e⟩
      .exact h2 k hk⟩
    .simp at h
   .simp at h
theorem PI {P:Program} {ops:Array Oper} {jv:List (Env×af)} {x:Option β}:∀ {l:List Nat},cv P ops jv l x=some r ->
  x=some r/\∀ i∈l,cL P ops i=1->∀ o,ops[i]? = some o->∀ m∈G7 P ops i,(Jl P ops m i || Jm P ops i o m)=true\/∃ s q,jv[i]? = some s/\jv[m]? = some q/\cX P o.op s.1 q.2=cX P o.op s.1 s.2
 | [],h=>⟨h,by simp⟩
 | i::l,h=>by
  unfold cv at h
  split at h
  .rename_i o hc ho
   obtain ⟨h1,h2⟩:=Wu h
   obtain ⟨h3,h4⟩:=PI h1
   refine ⟨h3,fun k hk sq o' qS=>?_⟩
   rcases Z2 hk with rfl | hk
   .rw [ho] at qS;simp at qS;subst qS;exact h2
   .exact h4 k hk sq o' qS
  .rename_i aV
   obtain ⟨h3,h4⟩:=PI h
   refine ⟨h3,fun k hk sq o' qS=>?_⟩
   rcases Z2 hk with rfl | hk
   .exact absurd qS (aV o' (by rw [sq];rfl))
   .exact h4 k hk sq o' qS
end
structure bF (X:Cx) (ops:Array Oper) (S:Nat->St):Prop where
 step:∀ k o,ops[k]? = some o->qU X ops o (S k) (S (k+1))
 ok:LY X.P ops=true
 MJ:dJ (aL (S 0).H.length) (S 0).dZ
 closed:Ql (S 0).H.length (S 0).H
section
variable {X:Cx} {ops:Array Oper} {S:Nat->St}
theorem Am {i:Nat} (h:i < ops.size):∃ o,ops[i]? = some o:=⟨ops[i],Array.getElem?_eq_getElem h⟩
theorem oJ {i:Nat} {o:Oper} (h:ops[i]? = some o):i < ops.size:=(Array.getElem?_eq_some_iff.1 h).1
theorem MK {P:Program} {i:Nat} {o:Oper} (h:ops[i]? = some o):cL P ops i=gb P o.op:=by simp [cL,h]
theorem Qtq {P:Program} {i:Nat} (h:¬ i < ops.size):cL P ops i=0:=by
 unfold cL;rw [Array.getElem?_eq_none (by omega)]
theorem Qvm (P:Program) (op:Op):gb P op<=3:=by
 unfold gb
 split<;>first | omega | (split<;>omega)
theorem dJ.bJ {D:Nat->Prop} {env:Env} {ts:List Tmp} (h:dJ D env):dJ D (bJ ts env):=fun s v hs=>h s v (Ws hs).2
theorem bF.abs (h:bF X ops S):∀ i,i<=ops.size->dJ (aL (S i).H.length) (S i).dZ/\Ql (S i).H.length (S i).H/\Ab X.ai (S 0).H (S i).H
 | 0,_=>⟨h.MJ,h.closed,Ab.refl _ _⟩
 | i+1,hi=>by
  obtain ⟨h1,h2,h3⟩:=h.abs i (by omega)
  obtain ⟨o,ho⟩:=Am (ops:=ops) (i:=i) (by omega)
  have hs:=h.step i o ho
  have hE:dJ (aL (S i).H.length) (S i).env:=fun s v hv=>h1 s v (by rw [<- hs.same];exact hv)
  have key:Ab X.ai (S i).H (S (i+1)).H/\bK (aL (S (i+1)).H.length) (S i).v:=by
   cases ht:(S i).t with
   | true=>exact Ob (hs.yes ht) hE.bJ h2
   | false=>obtain ⟨e1,e2⟩:=hs.no ht;rw [e1,e2];exact ⟨Ab.refl _ _,Kb _⟩
  exact ⟨Kq (hE.mono (aL.mono key.1.len)) key.2 hs.put,key.1.all h2,h3.trans key.1⟩
theorem bF.An (h:bF X ops S) {i:Nat} (hi:i < ops.size):dJ (aL (S i).H.length) (S i).env:=by
 obtain ⟨o,ho⟩:=Am hi
 exact fun s v hv=>(h.abs i (by omega)).1 s v (by rw [<- (h.step i o ho).same];exact hv)
theorem bF.og (h:bF X ops S) {i:Nat} (hi:i < ops.size):(S i).H.length<=(S (i+1)).H.length:=by
 obtain ⟨o,ho⟩:=Am hi
 have hs:=h.step i o ho
 cases ht:(S i).t with
 | true=>exact (Ob (hs.yes ht) (h.An hi).bJ (h.abs i (by omega)).2.1).1.len
 | false=>rw [(hs.no ht).2];exact Zd _
theorem bF.bR (h:bF X ops S) {m:Nat}:∀ {i:Nat},m<=i->i<=ops.size->(S m).H.length<=(S i).H.length
 | 0,h1,_=>by rw [Nat.le_zero.1 h1];exact Zd _
 | i+1,h1,h2=>by
  by_cases e:m=i+1
  .subst e;exact Zd _
  .exact Nat.le_trans (h.bR (by omega) (by omega)) (h.og (by omega))
theorem bF.quiet (h:bF X ops S) {i:Nat} (hi:i < ops.size) (hc:cL X.P ops i≠3) :
  ((S (i+1)).H=(S i).H)\/(cL X.P ops i=2/\(S i).t=true/\∃ vs,(S (i+1)).H=dj (S i).H vs):=by
 obtain ⟨o,ho⟩:=Am hi
 have hs:=h.step i o ho
 have cz:=MK (P:=X.P) ho
 cases ht:(S i).t with
 | false=>exact .inl (hs.no ht).2
 | true =>
  have hF:=hs.yes ht
  unfold jH at hF
  split at hF
  .exact .inl hF.1
  .exact .inl hF.1
  .rename_i BD;obtain ⟨vs,mk,_,e,_⟩:=hF;exact .inr ⟨by rw [cz];exact BD,rfl,vs,e⟩
  .rename_i h0 h1 h2
   have hle:=Qvm X.P o.op
   rw [cz] at hc
   exact absurd hF (by
    intro _
    have:gb X.P o.op=0\/gb X.P o.op=1\/gb X.P o.op=2:=by omega
    rcases this with e | e | e
    .exact h0 e
    .exact h1 e
    .exact h2 e)
theorem bF.dH (h:bF X ops S) {i:Nat} (hi:i < ops.size) (hc:cL X.P ops i=2) (ht:(S i).t=true):(S (i+1)).H.length=(S i).H.length+1:=by
 obtain ⟨o,ho⟩:=Am hi
 have hF:=(h.step i o ho).yes ht
 have cz:=MK (P:=X.P) ho
 rw [hc] at cz
 unfold jH at hF
 rw [<- cz] at hF
 obtain ⟨vs,mk,_,e,_⟩:=hF
 rw [e,Qy]
theorem bF.keep (h:bF X ops S) {m:Nat}:∀ {i:Nat},m<=i->i<=ops.size->(∀ k,m<=k->k < i->cL X.P ops k≠3)->∀ x,x < (S m).H.length->ah (S i).H x=ah (S m).H x
 | 0,h1,_,_,x,hx=>by rw [Nat.le_zero.1 h1]
 | i+1,h1,h2,h3,x,hx=>by
  by_cases e:m=i+1
  .subst e;rfl
  .have ih:=h.keep (i:=i) (by omega) (by omega) (fun k h4 h5=>h3 k h4 (by omega)) x hx
   rcases h.quiet (i:=i) (by omega) (h3 i (by omega) (by omega)) with e | ⟨_,_,vs,e⟩
   .rw [e,ih]
   .have:=h.bR (m:=m) (i:=i) (by omega) (by omega)
    rw [e,Vz (by omega),ih]
theorem bF.made (h:bF X ops S) {m:Nat}:∀ {e:Nat},m<=e->e<=ops.size->(∀ k,m<=k->k < e->cL X.P ops k≠3)->∀ x,(S m).H.length<=x->x < (S e).H.length ->
  ∃ i,m<=i/\i < e/\cL X.P ops i=2/\(S i).t=true/\x=(S i).H.length/\ah (S (i+1)).H x=ah (S e).H x
 | 0,h1,_,_,x,hx,mN=>by rw [Nat.le_zero.1 h1] at hx;omega
 | e+1,h1,h2,h3,x,hx,mN=>by
  by_cases he:m=e+1
  .subst he;omega
  .rcases h.quiet (i:=e) (by omega) (h3 e (by omega) (by omega)) with q | ⟨hc,ht,vs,q⟩
   .rw [q] at mN
    obtain ⟨i,g1,g2,g3,g4,g5,g6⟩:=h.made (e:=e) (by omega) (by omega) (fun k h4 h5=>h3 k h4 (by omega)) x hx mN
    exact ⟨i,g1,by omega,g3,g4,g5,by rw [g6,q]⟩
   .by_cases hxe:x < (S e).H.length
    .obtain ⟨i,g1,g2,g3,g4,g5,g6⟩:=h.made (e:=e) (by omega) (by omega) (fun k h4 h5=>h3 k h4 (by omega)) x hx hxe
     exact ⟨i,g1,by omega,g3,g4,g5,by rw [g6,q,Vz hxe]⟩
    .rw [q,Qy] at mN
     exact ⟨e,by omega,by omega,hc,ht,by omega,rfl⟩
def oh (ops:Array Oper) (j:Nat):Option Tmp:=(ops[j]?).bind (·.dst)
theorem bF.look (h:bF X ops S) {q k:Nat}:∀ {i:Nat},k<=i->i<=ops.size->(∀ j,k<=j->j < i->oh ops j≠some q)->cQ (S i).dZ q=cQ (S k).dZ q
 | 0,h1,_,_=>by rw [Nat.le_zero.1 h1]
 | i+1,h1,h2,h3=>by
  by_cases e:k=i+1
  .subst e;rfl
  .have ih:=h.look (i:=i) (by omega) (by omega) (fun j h4 h5=>h3 j h4 (by omega))
   obtain ⟨o,ho⟩:=Am (ops:=ops) (i:=i) (by omega)
   have hs:=h.step i o ho
   have aV:=h3 i (by omega) (by omega)
   have hd:o.dst≠some q:=by simpa [oh,ho] using aV
   rcases hs.put with ⟨_,e⟩ | ⟨d,oz,_,e⟩
   .rw [e,hs.same,ih]
   .rw [e,vc,if_neg (fun e=>hd (by rw [oz,e])),hs.same,ih]
theorem bF.wrote (h:bF X ops S) {q k i:Nat} (hk:k < i) (hi:i<=ops.size) (hd:oh ops k=some q) (hn:∀ j,k < j->j < i->oh ops j≠some q):cQ (S i).dZ q=some (S k).v/\q < X.nt:=by
 obtain ⟨o,ho⟩:=Am (ops:=ops) (i:=k) (by omega)
 have hs:=h.step k o ho
 have oz:o.dst=some q:=by simpa [oh,ho] using hd
 rw [h.look (k:=k+1) (by omega) hi (fun j h1 h2=>hn j (by omega) h2)]
 rcases hs.put with ⟨e,_⟩ | ⟨d,e,au,e'⟩
 .rw [e] at oz;simp at oz
 .rw [e] at oz;simp at oz;subst oz
  exact ⟨by rw [e',vc,if_pos rfl],au⟩
theorem bF.pair (h:bF X ops S) {i j:Nat} (ny:i < j) (hj:j < ops.size):iH (Region.before ops) j i=true\/(¬ (cL X.P ops j=3/\2<=cL X.P ops i)/\∃ x y,ops[i]? = some x/\ops[j]? = some y/\x.apart ops y=true):=by
 have dh:=h.ok
 unfold LY at dh
 simp only [List.all_eq_true,List.mem_range,Z8] at dh
 have:=(dh j hj).2 i ny
 unfold Qvc at this
 rcases Bool.or_eq_true_iff.1 this with h1 | h1
 .exact .inl h1
 .right
  simp only [Z8,Bool.not_eq_true'] at h1
  obtain ⟨h2,h3⟩:=h1
  refine ⟨fun ⟨e1,e2⟩=>?_,?_⟩
  .rw [e1] at h2
   have:Nat.ble 2 (cL X.P ops i)=true:=Nat.ble_eq_true_of_le e2
   rw [this] at h2;simp at h2
  .split at h3
   .rename_i x y hx hy;exact ⟨x,y,hx,hy,h3⟩
   .simp at h3
theorem bF.MM (h:bF X ops S) {j:Nat} {o:Oper} (ho:ops[j]? = some o):∀ e∈o.after.toList,Region.binds .any e=true->e.on < j:=by
 have dh:=h.ok
 unfold LY at dh
 simp only [List.all_eq_true,List.mem_range,Z8] at dh
 have:=(dh j (oJ ho)).1
 unfold Qq2 at this
 rw [ho] at this
 simp only [List.all_eq_true] at this
 intro e he hb
 have:=this e he
 rw [hb] at this
 have h2:e.on+1<=j:=by simpa [Nat.blt] using this
 exact h2
def gM (X:Cx) (ops:Array Oper) (S:Nat->St) (m:Nat) (L:Nat->Prop) (x:Nat):Prop :=
 x < (S m).H.length\/∃ i,m<=i/\i < ops.size/\L i/\cL X.P ops i=2/\(S i).t=true/\x=(S i).H.length
structure Inv (X:Cx) (ops:Array Oper) (S:Nat->St) (ι₀:Io) (w₀:World) (L:Nat->Prop) (ι:Io) (G:af) (m:Nat) (a:Act) (w:World):Prop where
 JA:m<=ops.size
 d_:∀ e,e < ops.size->cL X.P ops e=3->(L e↔e < m)
 last:m=0\/cL X.P ops (m - 1)=3
 down:∀ j i,L j->iH (Region.before ops) j i=true->L i
 PJ:∀ j,L j->j < ops.size
 len:G.length=(S ops.size).H.length
 old:∀ x,x < (S m).H.length->ah G x=ah (S m).H x
 om:∀ i,m<=i->i < ops.size->L i->cL X.P ops i=2->(S i).t=true->ah G (S i).H.length=ah (S (i+1)).H (S i).H.length
 dead:∀ x,(S m).H.length<=x->x < (S ops.size).H.length->(∀ i,m<=i->i < ops.size->L i->cL X.P ops i=2->(S i).t=true->x≠(S i).H.length)->G[x]? = some none
 rel:Rel ι (gM X ops S m L) G w
 fr:Fr ι₀ (S 0).H w₀ ι G w
 size:a.tmps.size=X.nt
 env:∀ q i,i<=ops.size->(∀ j,j < ops.size->oh ops j=some q->(L j↔j < i))->∀ v,cQ (S i).dZ q=some v->ay ι (gM X ops S m L) v (a.tmps.getD q undef)
 defers:a.defers=[]
variable {ι₀:Io} {w₀:World} {L:Nat->Prop} {ι:Io} {G:af} {m:Nat} {a:Act} {w:World}
structure Next (ops:Array Oper) (L:Nat->Prop) (i:Nat) (o:Oper):Prop where
 op:ops[i]? = some o
 not:¬ L i
 Be:∀ k,iH (Region.before ops) i k=true->L k
theorem Inv.loc (h:Inv X ops S ι₀ w₀ L ι G m a w) (hr:bF X ops S) {i:Nat} {o:Oper} (hn:Next ops L i o):vp ι (gM X ops S m L) X.nt (o.looksAt ops) (S i).dZ a:=by
 have hi:=oJ hn.op
 refine ⟨h.size,fun s hs v hv=>h.env s i (by omega) (fun j hj hd=>?_) v hv⟩
 obtain ⟨oj,Wv⟩:=Am hj
 have oz:oj.dst=some s:=by simpa [oh,Wv] using hd
 rcases Nat.lt_trichotomy j i with au | rfl | au
 .refine ⟨fun _=>au,fun _=>?_⟩
  rcases hr.pair au hi with hb | ⟨_,x,y,hx,hy,MN⟩
  .exact hn.Be j hb
  .rw [Wv] at hx;rw [hn.op] at hy;simp at hx hy;subst hx;subst hy
   exact absurd hs ((Oper.apart_spec MN).1 s oz)
 .exact ⟨fun hL=>absurd hL hn.not,fun au=>by omega⟩
 .refine ⟨fun hL=>?_,fun h=>by omega⟩
  rcases hr.pair au hj with hb | ⟨_,x,y,hx,hy,MN⟩
  .exact absurd (h.down j i hL hb) hn.not
  .rw [hn.op] at hx;rw [Wv] at hy;simp at hx hy;subst hx;subst hy
   exact absurd hs ((Oper.apart_spec MN).2.2 s oz)
def jQ (L:Nat->Prop) (i:Nat):Nat->Prop:=fun j=>L j\/j=i
theorem Next.sN {i:Nat} {o:Oper} (hn:Next ops L i o) (MO:∀ j k,L j->iH (Region.before ops) j k=true->L k):∀ j k,jQ L i j->iH (Region.before ops) j k=true->jQ L i k:=by
 rintro j k (hj | rfl) hb
 .exact .inl (MO j k hj hb)
 .exact .inl (hn.Be k hb)
theorem Inv.iV (h:Inv X ops S ι₀ w₀ L ι G m a w) (hr:bF X ops S) {i:Nat} {o:Oper} (hn:Next ops L i o) {ι':Io} {D':Nat->Prop} {c:Value} (hc:ay ι' D' (S i).v c)
  (fu:∀ {v c:Value},ay ι (gM X ops S m L) v c->ay ι' D' v c) :
  ∀ q k,k<=ops.size->(∀ j,j < ops.size->oh ops j=some q->(jQ L i j↔j < k))->∀ v,cQ (S k).dZ q=some v->ay ι' D' v ((a.put o.dst c).tmps.getD q undef):=by
 intro q k hk cY v hv
 have hi:=oJ hn.op
 by_cases hq:o.dst=some q
 .have hdi:oh ops i=some q:=by simp [oh,hn.op,hq]
  have hik:i < k:=(cY i hi hdi).1 (.inr rfl)
  have eI:∀ j,i < j->j < k->oh ops j≠some q:=by
   intro j h1 h2 hd
   have hj:j < ops.size:=by omega
   have hL:L j:=by
    rcases (cY j hj hd).2 h2 with hL | rfl
    .exact hL
    .omega
   rcases hr.pair h1 hj with hb | ⟨_,x,y,hx,hy,MN⟩
   .exact hn.not (h.down j i hL hb)
   .rw [hn.op] at hx;simp at hx;subst hx
    have:y.dst=some q:=by simpa [oh,hy] using hd
    exact (Oper.apart_spec MN).2.1 q hq this
  obtain ⟨e1,e2⟩:=hr.wrote hik hk hdi eI
  rw [e1] at hv;simp at hv;subst hv
  rw [hq]
  simp only [Act.put]
  rw [Qm1 (by rw [h.size];exact e2),if_pos rfl]
  exact hc
 .have dA:(a.put o.dst c).tmps.getD q undef=a.tmps.getD q undef:=by
   cases hd:o.dst with
   | none=>rfl
   | some d =>
    have aV:d≠q:=fun e=>hq (by rw [hd,e])
    simp only [Act.put,Array.getD_eq_getD_getElem?,Array.getElem?_setIfInBounds_ne aV]
  rw [dA]
  refine fu (h.env q k hk (fun j hj hd=>?_) v hv)
  have hji:j≠i:=fun e=>hq (by subst e;simpa [oh,hn.op] using hd)
  rw [<- cY j hj hd]
  exact ⟨fun hL=>.inl hL,fun hL=>hL.resolve_right hji⟩
theorem PK (a:Act) (dst:Option Tmp) (c:Value):(a.put dst c).tmps.size=a.tmps.size:=by cases dst<;>simp [Act.put]
theorem Inv.still (h:Inv X ops S ι₀ w₀ L ι G m a w) (hr:bF X ops S) {i:Nat} {o:Oper} (hn:Next ops L i o) (EA:cL X.P ops i≠3) (BD:cL X.P ops i=2->(S i).t=false) {c:Value} (hc:ay ι (gM X ops S m L) (S i).v c) :
  Inv X ops S ι₀ w₀ (jQ L i) ι G m (a.put o.dst c) w:=by
 have hi:=oJ hn.op
 have kg:∀ x,gM X ops S m L x->gM X ops S m (jQ L i) x:=by
  rintro x (hx | ⟨k,h1,h2,h3,h4,h5,h6⟩)
  .exact .inl hx
  .exact .inr ⟨k,h1,h2,.inl h3,h4,h5,h6⟩
 have oq:∀ k,jQ L i k->cL X.P ops k=2->(S k).t=true->L k:=by
  rintro k (hL | rfl) h2 ht
  .exact hL
  .rw [BD h2] at ht;simp at ht
 have fu:∀ {v c:Value},ay ι (gM X ops S m L) v c->ay ι (gM X ops S m (jQ L i)) v c:=fun hv=>hv.mono kg fun _ _=>rfl
 refine ⟨h.JA,fun e he CI=>?_,h.last,hn.sN h.down,?_,h.len,h.old,fun k h1 h2 h3 h4 h5=>h.om k h1 h2 (oq k h3 h4 h5) h4 h5,fun x h1 h2 h3=>h.dead x h1 h2 (fun k g1 g2 g3 g4 g5=>h3 k g1 g2 (.inl g3) g4 g5),h.rel.domain kg,h.fr,
  by rw [PK];exact h.size,h.iV hr hn (fu hc) fu,by rw [IA];exact h.defers⟩
 .have aV:e≠i:=fun e'=>EA (e'▸CI)
  rw [<- h.d_ e he CI]
  exact ⟨fun hL=>hL.resolve_right aV,fun hL=>.inl hL⟩
 .rintro j (hL | rfl)
  .exact h.PJ j hL
  .exact hi
theorem Inv.CO (h:Inv X ops S ι₀ w₀ L ι G m a w) (hr:bF X ops S) {i:Nat} {o:Oper} (hn:Next ops L i o) (hc:cL X.P ops i=2):m<=i:=by
 have hi:=oJ hn.op
 by_cases au:m<=i
 .exact au
 .exfalso
  rcases h.last with hm | hm
  .omega
  .have EB:m - 1 < ops.size:=by have:=h.JA;omega
   have hL:L (m - 1):=(h.d_ (m - 1) EB hm).2 (by omega)
   have aV:i≠m - 1:=fun e=>by rw [e,hm] at hc;omega
   rcases hr.pair (i:=i) (j:=m - 1) (by omega) EB with hb | ⟨hx,_⟩
   .exact hn.not (h.down _ _ hL hb)
   .exact hx ⟨hm,by omega⟩
theorem Inv.make (h:Inv X ops S ι₀ w₀ L ι G m a w) (hr:bF X ops S) {i:Nat} {o:Oper} (hn:Next ops L i o) (hc:cL X.P ops i=2) (ht:(S i).t=true) {vs cs rest:List Value} {fc:TypeId} {fz:Nat×Nat} {w0:World} {c:Value}
  (hH:(S (i+1)).H=dj (S i).H vs) (hl:aZ ι (gM X ops S m L) vs cs) (bL:∀ v∈vs,az v=true) (hfz:oO fz (cs++rest).length) (e1:w0.heap=w.heap) (e2:w0.os=w.os) (e3:w0.tape=w.tape) (e4:w0.output=w.output)
  (hv:ay (ι.set (S i).H.length ⟨w.heap.size,0,(cs++rest).length⟩) (fun b=>gM X ops S m L b\/b=(S i).H.length) (S i).v c) :
  Inv X ops S ι₀ w₀ (jQ L i) (ι.set (S i).H.length ⟨w.heap.size,0,(cs++rest).length⟩) (G.set (S i).H.length (some ⟨vs,false,none⟩)) m (a.put o.dst c) (w0.alloc (.cells (cs++rest).toArray fc fz)):=by
 have hi:=oJ hn.op
 have n_:=h.CO hr hn hc
 have hlen:=hr.dH hi hc ht
 have CP:=hr.bR n_ (by omega)
 have hle:=hr.bR (m:=i+1) (i:=ops.size) (by omega) (Zd _)
 have HG:∀ k,m<=k->k < ops.size->cL X.P ops k=2->(S k).t=true->k≠i->(S k).H.length≠(S i).H.length:=by
  intro k h1 h2 h3 h4 h5
  rcases Nat.lt_or_gt_of_ne h5 with au | au
  .have:=hr.dH h2 h3 h4
   have:=hr.bR (m:=k+1) (i:=i) (by omega) (by omega)
   omega
  .have:=hr.bR (m:=i+1) (i:=k) (by omega) (by omega)
   omega
 have hnD:¬ gM X ops S m L (S i).H.length:=by
  rintro (hx | ⟨k,h1,h2,h3,h4,h5,h6⟩)
  .omega
  .by_cases e:k=i
   .subst e;exact hn.not h3
   .exact HG k h1 h2 h4 h5 e h6.symm
 have hG:G[(S i).H.length]? = some none:=h.dead _ CP (by omega) (fun k g1 g2 g3 g4 g5 e=>HG k g1 g2 g4 g5 (fun e'=>hn.not (e'▸g3)) e.symm)
 have hGl:(S i).H.length < G.length:=(Z0 hG).1
 have hD:∀ b,(gM X ops S m L b\/b=(S i).H.length)->gM X ops S m (jQ L i) b:=by
  rintro b ((hx | ⟨k,h1,h2,h3,h4,h5,h6⟩) | rfl)
  .exact .inl hx
  .exact .inr ⟨k,h1,h2,.inl h3,h4,h5,h6⟩
  .exact .inr ⟨i,n_,hi,.inr rfl,hc,ht,rfl⟩
 have hw:w0.heap.size=w.heap.size:=by rw [e1]
 have wL:=(h.rel.bz e1).fill hG hnD hl bL rest fc fz hfz
 rw [hw] at wL
 have fu:∀ {v c:Value},ay ι (gM X ops S m L) v c->ay (ι.set (S i).H.length ⟨w.heap.size,0,(cs++rest).length⟩) (gM X ops S m (jQ L i)) v c :=
  fun hr=>hr.mono (fun b hb=>hD b (.inl hb)) fun b hb=>Io.aS _ _ (fun e=>hnD (e▸hb))
 refine ⟨h.JA,fun e he CI=>?_,h.last,hn.sN h.down,?_,by rw [List.length_set];exact h.len,fun x hx=>?_,fun k g1 g2 g3 g4 g5=>?_,fun x g1 g2 g3=>?_,wL.domain hD,?_,by rw [PK];exact h.size,
  h.iV hr hn (hv.mono hD fun _ _=>rfl) fu,by rw [IA];exact h.defers⟩
 .have aV:e≠i:=fun e'=>by rw [e'] at CI;omega
  rw [<- h.d_ e he CI]
  exact ⟨fun hL=>hL.resolve_right aV,fun hL=>.inl hL⟩
 .rintro j (hL | rfl)
  .exact h.PJ j hL
  .exact hi
 .rw [Qm (by omega)];exact h.old x hx
 .by_cases e:k=i
  .subst e;rw [td hGl,hH,L9]
  .rw [Qm (Ne.symm (HG k g1 g2 g4 g5 e))]
   exact h.om k g1 g2 (g3.resolve_right e) g4 g5
 .have aV:(S i).H.length≠x:=Ne.symm (g3 i n_ hi (.inr rfl) hc ht)
  rw [List.getElem?_set_ne aV]
  exact h.dead x g1 g2 (fun k q1 q2 q3 q4 q5=>g3 k q1 q2 (.inl q3) q4 q5)
 .have hgc:∀ {b:Nat} {k:bx},ah (G.set (S i).H.length (some ⟨vs,false,none⟩)) b=some k->(b=(S i).H.length/\k.ro=false)\/(b≠(S i).H.length/\ah G b=some k):=by
   intro b k hb
   by_cases e:b=(S i).H.length
   .subst e;rw [td hGl] at hb;simp at hb;subst hb;exact .inl ⟨rfl,rfl⟩
   .rw [Qm (Ne.symm e)] at hb;exact .inr ⟨e,hb⟩
  have h0:=hr.bR (m:=0) (i:=i) (by omega) (by omega)
  refine ⟨by rw [List.length_set];exact h.fr.len,fun b hb=>by rw [Io.aS _ _ (by omega)];exact h.fr.io b hb,e2.trans h.fr.os,e3.trans h.fr.tape,e4.trans h.fr.output,?_,fun k hk eI=>?_,fun b k hb bn=>?_,fun b k hb bn=>?_⟩
  .rw [World.size_alloc,hw];have:=h.fr.size;omega
  .rw [Fe _ _ (by rw [hw];have:=h.fr.size;omega),e1];exact h.fr.frame k hk eI
  .rcases hgc hb with ⟨rfl,_⟩ | ⟨e,hb⟩
   .left;rw [Io.aB];exact h.fr.size
   .rw [Io.aS _ _ e];exact h.fr.new b k hb bn
  .rcases hgc hb with ⟨rfl,e⟩ | ⟨e,hb⟩
   .rw [e] at bn;simp at bn
   .exact h.fr.ro b k hb bn
theorem Inv.HH (h:Inv X ops S ι₀ w₀ L ι G m a w) (hr:bF X ops S) {e:Nat} {o:Oper} (hn:Next ops L e o) (hc:cL X.P ops e=3) :
  m<=e/\(∀ x,x < (S e).H.length->ah G x=ah (S e).H x)/\(∀ x,gM X ops S m L x->x < (S e).H.length\/∃ i,e+1<=i/\i < ops.size/\L i/\cL X.P ops i=2/\(S i).t=true/\x=(S i).H.length):=by
 have he:=oJ hn.op
 have Bn:m<=e:=by
  by_cases au:m<=e
  .exact au
  .exact absurd ((h.d_ e he hc).2 (by omega)) hn.not
 have eI:∀ k,m<=k->k < e->cL X.P ops k≠3:=by
  intro k h1 h2 h3
  rcases hr.pair h2 he with hb | ⟨hx,_⟩
  .have:=(h.d_ k (by omega) h3).1 (hn.Be k hb);omega
  .exact hx ⟨hc,by omega⟩
 refine ⟨Bn,fun x hx=>?_,?_⟩
 .by_cases MP:x < (S m).H.length
  .rw [h.old x MP,hr.keep Bn (by omega) eI x MP]
  .obtain ⟨i,g1,g2,g3,g4,g5,g6⟩:=hr.made Bn (by omega) eI x (by omega) hx
   have hL:L i:=by
    rcases hr.pair g2 he with hb | ⟨hx,_⟩
    .exact hn.Be i hb
    .exact absurd ⟨hc,by omega⟩ hx
   have:=h.om i g1 (by omega) hL g3 g4
   rw [<- g5] at this
   rw [this,g6]
 .rintro x (hx | ⟨i,h1,h2,h3,h4,h5,h6⟩)
  .have:=hr.bR Bn (by omega);exact .inl (by omega)
  .rcases Nat.lt_trichotomy i e with au | rfl | au
   .have:=hr.dH h2 h4 h5
    have:=hr.bR (m:=i+1) (i:=e) (by omega) (by omega)
    exact .inl (by omega)
   .rw [hc] at h4;omega
   .exact .inr ⟨i,by omega,h2,h3,h4,h5,h6⟩
theorem Inv.MQ (h:Inv X ops S ι₀ w₀ L ι G m a w) (hr:bF X ops S) {e:Nat} {o:Oper} (hn:Next ops L e o) (hc:cL X.P ops e=3) (ht:(S e).t=false) {c:Value} (hv:∀ D,ay ι D (S e).v c) :
  Inv X ops S ι₀ w₀ (jQ L e) ι G (e+1) (a.put o.dst c) w:=by
 have he:=oJ hn.op
 obtain ⟨Bn,hold,kg⟩:=h.HH hr hn hc
 have hH:(S (e+1)).H=(S e).H:=((hr.step e o hn.op).no ht).2
 have hD:∀ x,gM X ops S m L x->gM X ops S (e+1) (jQ L e) x:=by
  intro x hx
  rcases kg x hx with h1 | ⟨i,h1,h2,h3,h4,h5,h6⟩
  .left;rw [hH];exact h1
  .exact .inr ⟨i,h1,h2,.inl h3,h4,h5,h6⟩
 have fu:∀ {v c:Value},ay ι (gM X ops S m L) v c->ay ι (gM X ops S (e+1) (jQ L e)) v c:=fun hr=>hr.mono hD fun _ _=>rfl
 have oq:∀ k,jQ L e k->cL X.P ops k=2->L k:=by
  rintro k (hL | rfl) h2
  .exact hL
  .rw [hc] at h2;omega
 refine ⟨by omega,fun k hk sq=>?_,.inr hc,hn.sN h.down,?_,h.len,fun x hx=>by rw [hH] at hx ⊢;exact hold x hx,fun k g1 g2 g3 g4 g5=>h.om k (by omega) g2 (oq k g3 g4) g4 g5,fun x g1 g2 g3=>?_,h.rel.domain hD,h.fr,by rw [PK];exact h.size,
  h.iV hr hn (hv _) fu,by rw [IA];exact h.defers⟩
 .constructor
  .rintro (hL | rfl)
   .have:=(h.d_ k hk sq).1 hL;omega
   .omega
  .intro au
   by_cases e':k=e
   .exact .inr e'
   .refine .inl ?_
    by_cases AO:k < m
    .exact (h.d_ k hk sq).2 AO
    .exfalso
     rcases hr.pair (i:=k) (j:=e) (by omega) he with hb | ⟨hx,_⟩
     .have:=(h.d_ k hk sq).1 (hn.Be k hb);omega
     .exact hx ⟨hc,by omega⟩
 .rintro j (hL | rfl)
  .exact h.PJ j hL
  .exact he
 .refine h.dead x ?_ g2 (fun k q1 q2 q3 q4 q5 hx=>?_)
  .have:=hr.bR Bn (by omega);rw [hH] at g1;omega
  .rcases Nat.lt_trichotomy k e with au | rfl | au
   .have:=hr.dH q2 q4 q5
    have:=hr.bR (m:=k+1) (i:=e) (by omega) (by omega)
    rw [hH] at g1;omega
   .rw [hc] at q4;omega
   .exact g3 k (by omega) q2 (.inl q3) q4 q5 hx
theorem Inv.MR (h:Inv X ops S ι₀ w₀ L ι G m a w) (hr:bF X ops S) {e:Nat} {o:Oper} (hn:Next ops L e o) (hc:cL X.P ops e=3):Rel ι (aL (S e).H.length) (S e).H w:=by
 have he:=oJ hn.op
 obtain ⟨Bn,hold,kg⟩:=h.HH hr hn hc
 have fy:=(hr.abs e (by omega)).2.1
 have hG:∀ {b:Nat} {k:bx},ah (S e).H b=some k->ah G b=some k:=fun hb=>by rw [hold _ (Qt hb)];exact hb
 refine ⟨fun b k hb=>?_,fun b b' k k' h1 h2=>h.rel.inj b b' k k' (hG h1) (hG h2),fun b k hb hr=>h.rel.iu b k (hG hb) hr,h.rel.gw⟩
 exact (h.rel.aI b k (hG hb)).bw rfl rfl fun i hi c hv=>hv.re (fy b (Qt hb) k hb _ (List.getElem_mem hi)) fun _ _ _=>rfl
theorem Inv.EC (h:Inv X ops S ι₀ w₀ L ι G m a w) (hr:bF X ops S) {e:Nat} {o:Oper} (hn:Next ops L e o):bt ι (gM X ops S m L) X.nt (bJ (oe o) (S e).env) a:=by
 have hl:=h.loc hr hn
 refine vp.bJ ⟨hl.size,fun s hs v hv=>?_⟩
 rw [(hr.step e o hn.op).same] at hv
 exact hl.get s (by rw [Qdp];exact List.mem_append.2 (.inl hs)) v hv
theorem Inv.HJ (h:Inv X ops S ι₀ w₀ L ι G m a w) (hr:bF X ops S) {e:Nat} {o:Oper} (hn:Next ops L e o):bt ι (aL (S e).H.length) X.nt (bJ (oe o) (S e).env) a:=by
 have h1:=h.EC hr hn
 exact ⟨h1.size,fun s v hv=>(h1.get s v hv).re ((hr.An (oJ hn.op)).bJ s v hv) fun _ _ _=>rfl⟩
theorem Inv.eff (h:Inv X ops S ι₀ w₀ L ι G m a w) (hr:bF X ops S) {e:Nat} {o:Oper} (hn:Next ops L e o) (hc:cL X.P ops e=3) {ι':Io} {w':World} {c:Value}
  (hR:Rel ι' (aL (S (e+1)).H.length) (S (e+1)).H w') (hv:ay ι' (aL (S (e+1)).H.length) (S e).v c) (hf:Fr ι (S e).H w ι' (S (e+1)).H w') :
  Inv X ops S ι₀ w₀ (jQ L e) (fun x=>if x < (S (e+1)).H.length then ι' x else ι x) ((S (e+1)).H++G.drop (S (e+1)).H.length) (e+1) (a.put o.dst c) w':=by
 have he:=oJ hn.op
 obtain ⟨Bn,hold,kg⟩:=h.HH hr hn hc
 have hle:(S (e+1)).H.length<=G.length:=by rw [h.len];exact hr.bR (by omega) (Zd _)
 have ij:=hr.og he
 have hG:∀ {b:Nat} {k:bx},ah (S e).H b=some k->ah G b=some k:=fun hb=>by rw [hold _ (Qt hb)];exact hb
 have au:∀ {x:Nat},x < (S (e+1)).H.length->ah ((S (e+1)).H++G.drop (S (e+1)).H.length) x=ah (S (e+1)).H x:=fun hx=>Fa hx
 have s_:∀ {x:Nat},(S (e+1)).H.length<=x->((S (e+1)).H++G.drop (S (e+1)).H.length)[x]? = G[x]?:=by
  intro x hx
  rw [Zq hx,Zp]
  congr 1;omega
 have MS:∀ {x:Nat},(S (e+1)).H.length<=x->ah ((S (e+1)).H++G.drop (S (e+1)).H.length) x=ah G x:=by
  intro x hx;unfold ah;rw [s_ hx]
 have iN:∀ i,e+1<=i->i < ops.size->(S (e+1)).H.length<=(S i).H.length:=fun i h1 h2=>hr.bR h1 (by omega)
 have hD:∀ x,gM X ops S m L x->gM X ops S (e+1) (jQ L e) x/\(if x < (S (e+1)).H.length then ι' x else ι x)=ι x:=by
  intro x hx
  rcases kg x hx with h1 | ⟨i,h1,h2,h3,h4,h5,h6⟩
  .exact ⟨.inl (by omega),by rw [if_pos (by omega)];exact hf.io x h1⟩
  .have:=iN i h1 h2
   exact ⟨.inr ⟨i,h1,h2,.inl h3,h4,h5,h6⟩,by rw [if_neg (by omega)]⟩
 have fu:∀ {v c:Value},ay ι (gM X ops S m L) v c->ay (fun x=>if x < (S (e+1)).H.length then ι' x else ι x) (gM X ops S (e+1) (jQ L e)) v c :=
  fun hr=>hr.mono (fun x hx=>(hD x hx).1) fun x hx=>(hD x hx).2
 have Ao:∀ {v c:Value},ay ι' (aL (S (e+1)).H.length) v c->ay (fun x=>if x < (S (e+1)).H.length then ι' x else ι x) (gM X ops S (e+1) (jQ L e)) v c :=
  fun hr=>hr.mono (fun x hx=>.inl hx) fun x hx=>if_pos hx
 have oq:∀ k,jQ L e k->cL X.P ops k=2->L k:=by
  rintro k (hL | rfl) h2
  .exact hL
  .rw [hc] at h2;omega
 have MT:∀ {x:Nat} {k:bx},(S (e+1)).H.length<=x->ah G x=some k->∃ i,e+1<=i/\i < ops.size/\L i/\cL X.P ops i=2/\(S i).t=true/\x=(S i).H.length/\k.ro=false:=by
  intro x k hx hk
  have hxG:=Qt hk
  rw [h.len] at hxG
  apply Classical.byContradiction
  intro eI
  have Em:=h.dead x (by have:=hr.bR Bn (by omega:e<=ops.size);omega) hxG (fun i g1 g2 g3 g4 g5 mN=>by
   rcases Nat.lt_trichotomy i e with hl | rfl | hl
   .have:=hr.dH g2 g4 g5
    have:=hr.bR (m:=i+1) (i:=e) (by omega) (by omega)
    omega
   .rw [hc] at g4;omega
   .have hp:=h.om i g1 g2 g3 g4 g5
    rw [<- mN,hk] at hp
    obtain ⟨oi,hoi⟩:=Am g2
    have hF:=(hr.step i oi hoi).yes g5
    have cz:=MK (P:=X.P) hoi
    rw [g4] at cz
    unfold jH at hF
    rw [<- cz] at hF
    obtain ⟨vs,mk,_,eH,_⟩:=hF
    rw [mN,eH,L9] at hp
    simp at hp
    exact eI ⟨i,by omega,g2,g3,g4,g5,mN,by rw [hp]⟩)
  unfold ah at hk;rw [Em] at hk;simp at hk
 have cN:∀ {x:Nat} {k:bx},ah ((S (e+1)).H++G.drop (S (e+1)).H.length) x=some k->(x < (S (e+1)).H.length/\ah (S (e+1)).H x=some k)\/((S (e+1)).H.length<=x/\ah G x=some k/\k.ro=false):=by
  intro x k hk
  by_cases hx:x < (S (e+1)).H.length
  .rw [au hx] at hk;exact .inl ⟨hx,hk⟩
  .rw [MS (by omega)] at hk
   obtain ⟨i,_,_,_,_,_,_,bn⟩:=MT (by omega) hk
   exact .inr ⟨by omega,hk,bn⟩
 have Ap:∀ {x y:Nat} {k k':bx},x < (S (e+1)).H.length->ah (S (e+1)).H x=some k->(S (e+1)).H.length<=y->ah G y=some k'->k'.ro=false->(ι' x).aI≠(ι y).aI:=by
  intro x y k k' hx hk hy cZ bn
  have hyl:=h.rel.lt cZ
  cases hkr:k.ro with
  | false =>
   rcases hf.new x k hk hkr with h1 | ⟨b0,k0,h1,h2,h3⟩
   .omega
   .rw [<- h3]
    have:=Qt h1
    exact h.rel.inj b0 y k0 k' (hG h1) cZ (by omega) (.inr bn)
  | true =>
   have h1:=hf.ro x k hk hkr
   have h2:=Qt h1
   rw [hf.io x h2]
   exact h.rel.inj x y k k' (hG h1) cZ (by omega) (.inr bn)
 refine ⟨by omega,fun k hk sq=>?_,.inr hc,hn.sN h.down,?_,by rw [Zf,List.length_drop,<- h.len];omega,fun x hx=>au hx,fun k g1 g2 g3 g4 g5=>?_,fun x g1 g2 g3=>?_,⟨fun x k hk=>?_,fun x y k k' h1 h2 aV bn=>?_,fun x k hk bn=>(by
   rcases cN hk with ⟨g1,g2⟩ | ⟨g1,g2,_⟩
   .rw [if_pos g1];exact hR.iu x k g2 bn
   .rw [if_neg (by omega)];exact h.rel.iu x k g2 bn),hR.gw⟩,?_,by rw [PK];exact h.size,
  h.iV hr hn (Ao hv) fu,by rw [IA];exact h.defers⟩
 .constructor
  .rintro (hL | rfl)
   .have:=(h.d_ k hk sq).1 hL;omega
   .omega
  .intro MU
   by_cases e':k=e
   .exact .inr e'
   .refine .inl ?_
    by_cases AO:k < m
    .exact (h.d_ k hk sq).2 AO
    .exfalso
     rcases hr.pair (i:=k) (j:=e) (by omega) he with hb | ⟨hx,_⟩
     .have:=(h.d_ k hk sq).1 (hn.Be k hb);omega
     .exact hx ⟨hc,by omega⟩
 .rintro j (hL | rfl)
  .exact h.PJ j hL
  .exact he
 .rw [MS (iN k g1 g2)];exact h.om k (by omega) g2 (oq k g3 g4) g4 g5
 .rw [s_ g1]
  refine h.dead x (by have:=hr.bR Bn (by omega:e<=ops.size);omega) g2 (fun k q1 q2 q3 q4 q5 hx=>?_)
  rcases Nat.lt_trichotomy k e with hl | rfl | hl
  .have:=hr.dH q2 q4 q5
   have:=hr.bR (m:=k+1) (i:=e) (by omega) (by omega)
   omega
  .rw [hc] at q4;omega
  .exact g3 k (by omega) q2 (.inl q3) q4 q5 hx
 .rcases cN hk with ⟨h1,h2⟩ | ⟨h1,h2,bn⟩
  .exact (hR.aI x k h2).bw rfl (if_pos h1) fun i hi c hr=>Ao hr
  .refine (h.rel.aI x k h2).bw (hf.frame _ (h.rel.lt h2) ?_) (if_neg (by omega)) fun i hi c hr=>fu hr
   intro b k' hb HK
   have:=Qt hb
   exact h.rel.inj b x k' k (hG hb) h2 (by omega) (.inl HK)
 .rcases cN h1 with ⟨g1,g2⟩ | ⟨g1,g2,Ww⟩
  .rcases cN h2 with ⟨q1,q2⟩ | ⟨q1,q2,MV⟩
   .rw [if_pos g1,if_pos q1];exact hR.inj x y k k' g2 q2 aV bn
   .rw [if_pos g1,if_neg (by omega)];exact Ap g1 g2 q1 q2 MV
  .rcases cN h2 with ⟨q1,q2⟩ | ⟨q1,q2,MV⟩
   .rw [if_neg (by omega),if_pos q1];exact Ne.symm (Ap q1 q2 g1 g2 Ww)
   .rw [if_neg (by omega),if_neg (by omega)];exact h.rel.inj x y k k' g2 q2 aV bn
 .have h0:=hr.bR (m:=0) (i:=e) (by omega) (by omega)
  refine ⟨by simp;omega,fun b hb=>by rw [if_pos (by omega),hf.io b (by omega)];exact h.fr.io b hb,hf.os.trans h.fr.os,hf.tape.trans h.fr.tape,hf.output.trans h.fr.output,Nat.le_trans h.fr.size hf.size,fun k hk eI=>?_,fun x k hk bn=>?_,fun x k hk bn=>?_⟩
  .rw [hf.frame k (Zm hk h.fr.size) ?_,h.fr.frame k hk eI]
   intro b k' hb bn heq
   rcases h.fr.new b k' (hG hb) bn with h1 | ⟨b0,k0,h1,h2,h3⟩
   .omega
   .exact eI b0 k0 h1 h2 (h3.trans heq)
  .rcases cN hk with ⟨g1,g2⟩ | ⟨g1,g2,_⟩
   .rw [if_pos g1]
    rcases hf.new x k g2 bn with h1 | ⟨b0,k0,h1,h2,h3⟩
    .exact .inl (Nat.le_trans h.fr.size h1)
    .rw [<- h3];exact h.fr.new b0 k0 (hG h1) h2
   .rw [if_neg (by omega)];exact h.fr.new x k g2 bn
  .rcases cN hk with ⟨g1,g2⟩ | ⟨g1,g2,HK⟩
   .exact h.fr.ro x k (hG (hf.ro x k g2 bn)) bn
   .rw [HK] at bn;simp at bn
theorem Qqn {H G:af} (h:∀ x,x < H.length->ah G x=ah H x) {p:Addr} {v:Value} (hl:gD H p=some v):gD G p=some v:=by
 unfold gD at hl ⊢
 obtain ⟨k,hk,hv⟩:=Q2 hl
 rw [h _ (Qt hk),hk];exact hv
theorem Wx {H G:af} (h:∀ x,x < H.length->ah G x=ah H x) {p:Addr} {n:Nat} {l:List Value} (hl:Qx H p n=some l):Qx G p n=some l:=by
 unfold Qx at hl ⊢
 obtain ⟨k,hk,hv⟩:=Q2 hl
 rw [h _ (Qt hk),hk];exact hv
theorem Qnq {H G:af} (h:∀ x,x < H.length->ah G x=ah H x) {p:Addr} {n:Nat} {l:List Value} (hl:fJ H p n=some l):fJ G p n=some l:=by
 cases n with
 | zero=>exact hl
 | succ m=>exact Wx h hl
theorem Qtr {P:Program} {op:Op} {env:Env} {H G:af} (h:∀ x,x < H.length->ah G x=ah H x) {v:Value} (hl:cX P op env H=some v):cX P op env G=some v:=by
 unfold cX at hl ⊢
 cases op with
 | load t x =>
  simp only at hl ⊢
  cases hg:AN P t x with
  | some q=>rw [hg] at hl;exact hl
  | none =>
  rw [hg] at hl
  simp only at hl ⊢
  replace hl:=Q2 hl;obtain ⟨u,hu,hl⟩:=hl
  rw [hu];simp only [Q1]
  replace hl:=Iw hl;obtain ⟨p,rfl,hl⟩:=hl
  simp only [eX]
  replace hl:=Q2 hl;obtain ⟨i,hi,hl⟩:=hl
  rw [hi];simp only
  split at hl
  .replace hl:=Q2 hl;obtain ⟨l,h1,hl⟩:=hl
   rw [Wx h h1];exact hl
  .replace hl:=Q2 hl;obtain ⟨l,h1,hl⟩:=hl
   rw [Wx h h1];exact hl
  .exact Qqn h hl
  .simp at hl
 | convert s d x =>
  simp only at hl ⊢
  replace hl:=Q2 hl;obtain ⟨u,hu,hl⟩:=hl
  rw [hu];simp only [Q1]
  replace hl:=Q2 hl;obtain ⟨l,h1,hl⟩:=hl
  have:Qf G 1 u=some l:=by
   unfold Qf at h1 ⊢
   split at h1
   .exact h1
   .exact Qnq h h1
   .simp at h1
  rw [this];exact hl
 | _=>simp at hl
end
section
variable {X:Cx} {ops:Array Oper} {S:Nat->St} {ι₀:Io} {w₀:World} {L:Nat->Prop} {ι:Io} {G:af} {m:Nat} {a:Act} {w:World}
theorem Qx7 {p:Nat->Bool} {N x:Nat} (hx:x∈(List.range N).filter p) (MW:∀ y∈(List.range N).filter p,y<=x):∃ r,((List.range N).filter p).reverse=x::r:=by
 have hs:((List.range N).filter p).Pairwise (· < ·):=List.Pairwise.filter p List.pairwise_lt_range
 generalize (List.range N).filter p=l at hx MW hs
 cases hl:l.reverse with
 | nil=>have:l=[]:=List.reverse_eq_nil_iff.1 hl;subst this;simp at hx
 | cons y r =>
  have e:l=r.reverse++[y]:=by rw [<- List.reverse_reverse l,hl];simp
  subst e
  have hy:=MW y (by simp)
  rcases List.mem_append.1 hx with h1 | h1
  .have:=(List.pairwise_append.1 hs).2.2 x h1 y (by simp)
   omega
  .simp at h1;subst h1;exact ⟨r,rfl⟩
theorem Inv.vq (h:Inv X ops S ι₀ w₀ L ι G m a w) {i:Nat} {o:Oper} (hn:Next ops L i o) (hc:cL X.P ops i≠3):m∈G7 X.P ops i:=by
 unfold G7
 simp only [List.mem_cons,List.mem_map]
 have CQ:∀ e∈((List.range ops.size).filter fun e=>Nat.beq (cL X.P ops e) 3).filter fun e=>iH (Region.before ops) i e,e < m:=by
  intro e he
  simp only [List.mem_filter,List.mem_range] at he
  obtain ⟨⟨h1,h2⟩,h3⟩:=he
  exact (h.d_ e h1 (Z7 h2)).1 (hn.Be e h3)
 rcases h.last with hm | hm
 .subst hm
  left
  cases Aq:(((List.range ops.size).filter fun e=>Nat.beq (cL X.P ops e) 3).filter fun e=>iH (Region.before ops) i e).reverse with
  | nil=>rfl
  | cons e r =>
   have:e∈((List.range ops.size).filter fun e=>Nat.beq (cL X.P ops e) 3).filter fun e=>iH (Region.before ops) i e:=by
    rw [<- List.mem_reverse,Aq];simp
   have:=CQ e this
   omega
 .by_cases h0:m=0
  .subst h0
   left
   cases Aq:(((List.range ops.size).filter fun e=>Nat.beq (cL X.P ops e) 3).filter fun e=>iH (Region.before ops) i e).reverse with
   | nil=>rfl
   | cons e r =>
    have:e∈((List.range ops.size).filter fun e=>Nat.beq (cL X.P ops e) 3).filter fun e=>iH (Region.before ops) i e:=by
     rw [<- List.mem_reverse,Aq];simp
    have:=CQ e this
    omega
  .have EB:m - 1 < ops.size:=by have:=h.JA;omega
   have hL:L (m - 1):=(h.d_ _ EB hm).2 (by omega)
   cases hb:iH (Region.before ops) i (m - 1) with
   | true =>
    left
    rw [List.filter_filter] at CQ ⊢
    have j_:(m - 1)∈(List.range ops.size).filter fun e=>iH (Region.before ops) i e&&Nat.beq (cL X.P ops e) 3:=by
     simp only [List.mem_filter,List.mem_range,Z8]
     exact ⟨EB,hb,by rw [hm];rfl⟩
    obtain ⟨r,hr⟩:=Qx7 j_ (fun y hy=>by have:=CQ y hy;omega)
    rw [hr]
    simp only;omega
   | false =>
    right
    refine ⟨m - 1,?_,by omega⟩
    simp only [List.mem_filter,List.mem_range]
    refine ⟨⟨EB,by rw [hm];rfl⟩,?_⟩
    have so:iH (Region.before ops) (m - 1) i=false:=by
     cases hq:iH (Region.before ops) (m - 1) i with
     | false=>rfl
     | true=>exact absurd (h.down _ _ hL hq) hn.not
    have aV:Nat.beq (m - 1) i=false:=by
     cases hq:Nat.beq (m - 1) i with
     | false=>rfl
     | true=>exact absurd (Z7 hq▸hL) hn.not
    rw [hb,so,aV];rfl
theorem bF.const (hr:bF X ops S) {lo:Nat}:∀ {hi:Nat},lo<=hi->hi<=ops.size->(∀ k,lo<=k->k < hi->cL X.P ops k < 2)->(S hi).H=(S lo).H
 | 0,h1,_,_=>by rw [Nat.le_zero.1 h1]
 | hi+1,h1,h2,h3=>by
  by_cases e:lo=hi+1
  .subst e;rfl
  .have ih:=hr.const (hi:=hi) (by omega) (by omega) fun k h4 h5=>h3 k h4 (by omega)
   have hc:=h3 hi (by omega) (by omega)
   rcases hr.quiet (i:=hi) (by omega) (by omega) with q | ⟨q,_⟩
   .rw [q,ih]
   .omega
def Wy (X:Cx) (ops:Array Oper) (i:Nat) (o:Oper) (m:Nat):Prop :=
 ∃ t k ok,O8 o.op=some t/\m<=k/\k < i/\iH (Region.before ops) i k=true/\cL X.P ops k=2/\ops[k]? = some ok/\ok.guard=none/\ok.dst=some t/\∀ j,k < j->j < i->cL X.P ops j≠3/\oh ops j≠some t
def HL (X:Cx) (ops:Array Oper) (S:Nat->St):Prop :=
 ∀ i o,ops[i]? = some o->cL X.P ops i=1->∀ m∈G7 X.P ops i,cX X.P o.op (S i).env (S m).H=cX X.P o.op (S i).env (S i).H\/Wy X ops i o m
theorem Inv.step (h:Inv X ops S ι₀ w₀ L ι G m a w) (hr:bF X ops S) (eP:HL X ops S) {i:Nat} {o:Oper} (hn:Next ops L i o) {K:Act->World->Prop} {Q:Exit->Act->World->Prop}
  (hK:∀ ι' G' m' a' w',Inv X ops S ι₀ w₀ (jQ L i) ι' G' m' a' w'->K a' w'):wpOp X.P ops Q i K a w:=by
 have hi:=oJ hn.op
 have hs:=hr.step i o hn.op
 have cz:=MK (P:=X.P) hn.op
 have MX:=h.loc hr hn
 have hw:Region.wanted o (yielded ops a.tmps)=(S i).t:=hs.guard ι _ a ⟨MX.size,fun s bY v hv=>MX.get s (by rw [Qdp];exact List.mem_append.2 (.inr bY)) v hv⟩
 unfold wpOp
 rw [hn.op]
 simp only
 cases ht:(S i).t with
 | false =>
  rw [if_neg (by rw [hw,ht];simp)]
  have hv:=(hs.no ht).1
  by_cases EA:cL X.P ops i=3
  .exact hK _ _ _ _ _ (h.MQ hr hn EA ht (c:=undef) fun D=>by rw [hv];exact Iv _ _)
  .exact hK _ _ _ _ _ (h.still hr hn EA (fun _=>ht) (c:=undef) (by rw [hv];exact Iv _ _))
 | true =>
  rw [if_pos (by rw [hw,ht])]
  left
  have hF:=hs.yes ht
  have hE:=h.EC hr hn
  unfold jH at hF
  split at hF
  .rename_i hc
   rw [hc] at cz
   obtain ⟨c,h1,h2⟩:=hF.2.run ι _ a w hE
   exact oR h1 (hK _ _ _ _ _ (h.still hr hn (by omega) (fun e=>by omega) h2))
  .rename_i hc
   rw [hc] at cz
   obtain ⟨_,raw,hF⟩:=hF
   have h2:=hF.rd
   rw [Qdo] at h2
   have h3:cX X.P o.op (S i).env G=some raw:=by
    rcases eP i o hn.op cz m (h.vq hn (by omega)) with h1 | ⟨t,k,ok,Aj,Wz,WA,hb,BD,dh,Pe,WB,eI⟩
    .rw [h2] at h1
     exact Qtr (G:=G) h.old h1
    .have hL:=hn.Be k hb
     have hsk:=hr.step k ok dh
     have htk:(S k).t=true:=by
      have VZ:Jz ops ok=[]:=by unfold Jz;rw [Pe]
      have Rc:=hsk.guard (fun _=>⟨0,0,0⟩) (fun _=>True) a ⟨h.size,fun s bY=>by rw [VZ] at bY;simp at bY⟩
      rw [<- Rc];simp [Region.wanted,Pe]
     have mE:=MK (P:=X.P) dh
     rw [BD] at mE
     have WC:=hsk.yes htk
     unfold jH at WC
     rw [<- mE] at WC
     obtain ⟨vs,mk,hvk,hHk,hAk⟩:=WC
     have hp:=h.om k Wz (by omega) hL BD htk
     obtain ⟨Pn,_⟩:=hr.wrote (q:=t) WA (by omega) (by simp [oh,dh,WB]) (fun j h4 h5=>(eI j h4 h5).2)
     rw [hvk] at Pn
     have hw2:cQ (S i).env t=some (mk (S k).H.length):=by rw [hs.same];exact Pn
     have hk:=hr.keep (m:=k+1) (i:=i) (by omega) (by omega) (fun j h4 h5=>(eI j (by omega) h5).1) (S k).H.length (by rw [hHk,Qy];omega)
     rw [Qtp Aj hw2 (hAk.aI _) (hp.trans hk.symm)];exact h2
   rw [<- Qdo] at h3
   obtain ⟨c,g1,g2⟩:=hF.run ι _ a w G h3 h.rel hE
   exact oR g1 (hK _ _ _ _ _ (h.still hr hn (by omega) (fun e=>by omega) g2))
  .rename_i hc
   rw [hc] at cz
   obtain ⟨vs,mk,hv,hH,hF⟩:=hF
   obtain ⟨cs,rest,fc,fz,w0,c,h1,h2,e1,e2,e3,e4,h3,h4⟩:=hF.run ι _ a w hE
   exact oR h3 (hK _ _ _ _ _ (h.make hr hn cz ht (fc:=fc) hH h1 hF.cells h2 e1 e2 e3 e4 (by rw [hv];exact h4 _)))
  .rename_i h0 h1 h2
   have hle:=Qvm X.P o.op
   have hc:cL X.P ops i=3:=by
    rw [cz]
    have:gb X.P o.op=0\/gb X.P o.op=1\/gb X.P o.op=2\/gb X.P o.op=3:=by omega
    rcases this with e | e | e | e
    .exact absurd e h0
    .exact absurd e h1
    .exact absurd e h2
    .exact e
   exact hF.run ι a w (h.MR hr hn hc) (h.HJ hr hn) K Q fun ι' w' c g1 g2 g3=>hK _ _ _ _ _ (h.eff hr hn hc g1 g2 g3)
theorem Inv.done (h:Inv X ops S ι₀ w₀ L ι G m a w) (hr:bF X ops S) (hall:∀ i,i < ops.size->L i) :
  Rel ι (aL (S ops.size).H.length) (S ops.size).H w/\bt ι (aL (S ops.size).H.length) X.nt (S ops.size).dZ a/\Fr ι₀ (S 0).H w₀ ι (S ops.size).H w/\Ab X.ai (S 0).H (S ops.size).H/\a.defers=[]:=by
 obtain ⟨hE,fy,kV⟩:=hr.abs ops.size (Zd _)
 have eI:∀ k,m<=k->k < ops.size->cL X.P ops k≠3:=by
  intro k h1 h2 h3
  have:=(h.d_ k h2 h3).1 (hall k h2)
  omega
 have ah:∀ x,x < (S ops.size).H.length->ah G x=ah (S ops.size).H x:=by
  intro x hx
  by_cases MP:x < (S m).H.length
  .rw [h.old x MP,hr.keep h.JA (Zd _) eI x MP]
  .obtain ⟨i,g1,g2,g3,g4,g5,g6⟩:=hr.made h.JA (Zd _) eI x (by omega) hx
   have:=h.om i g1 g2 (hall i g2) g3 g4
   rw [<- g5] at this
   rw [this,g6]
 have hG:∀ {b:Nat} {k:bx},Ev.ah (S ops.size).H b=some k->Ev.ah G b=some k:=fun hb=>by rw [ah _ (Qt hb)];exact hb
 refine ⟨⟨fun b k hb=>?_,fun b b' k k' h1 h2=>h.rel.inj b b' k k' (hG h1) (hG h2),fun b k hb hr=>h.rel.iu b k (hG hb) hr,h.rel.gw⟩,⟨h.size,fun q v hv=>?_⟩,⟨by rw [<- h.len];exact h.fr.len,h.fr.io,h.fr.os,h.fr.tape,h.fr.output,h.fr.size,h.fr.frame,fun b k hb bn=>h.fr.new b k (hG hb) bn,fun b k hb bn=>h.fr.ro b k (hG hb) bn⟩,kV,h.defers⟩
 .exact (h.rel.aI b k (hG hb)).bw rfl rfl fun i hi c hv=>hv.re (fy b (Qt hb) k hb _ (List.getElem_mem hi)) fun _ _ _=>rfl
 .exact (h.env q ops.size (Zd _) (fun j hj _=>⟨fun _=>hj,fun _=>hall j hj⟩) v hv).re (hE q v hv) fun _ _ _=>rfl
def qV (listed:Array Bool) (j:Nat):Prop:=listed[j]? = some true
theorem Qie:∀ (l:List Bool) (i:Nat),l[i]? = some false->(l.set i true).count false+1=l.count false
 | [],i,h=>by simp at h
 | b::l,0,h=>by simp at h;subst h;simp
 | b::l,i+1,h=>by
  have:=Qie l i (by simpa using h)
  simp only [List.set_cons_succ,List.count_cons]
  omega
theorem Qif {listed:Array Bool} {i:Nat} (h:i∈Region.ready .any ops listed):∃ o,ops[i]? = some o/\listed.getD i true=false/\∀ e∈o.after.toList,Region.binds .any e=true->listed.getD e.on false=true:=by
 unfold Region.ready at h
 simp only [List.mem_filter,List.mem_range,Z8,Bool.not_eq_true'] at h
 obtain ⟨h1,h2,h3⟩:=h
 obtain ⟨o,ho⟩:=Am h1
 rw [ho] at h3
 simp only [Option.map_some,Option.getD_some] at h3
 refine ⟨o,ho,h2,fun e he hb=>?_⟩
 have:=(Array.all_eq_true'.1 h3) e (by simpa using he)
 rw [hb] at this
 simpa using this
theorem Qts {listed:Array Bool} {i:Nat} {o:Oper} (ho:ops[i]? = some o) (h2:listed.getD i true=false) (h3:∀ e∈o.after.toList,Region.binds .any e=true->listed.getD e.on false=true):i∈Region.ready .any ops listed:=by
 unfold Region.ready
 simp only [List.mem_filter,List.mem_range,Z8,Bool.not_eq_true']
 refine ⟨oJ ho,h2,?_⟩
 rw [ho]
 simp only [Option.map_some,Option.getD_some]
 refine Array.all_eq_true'.2 fun e he=>?_
 cases hb:Region.binds .any e with
 | false=>simp
 | true=>simpa using h3 e (by simpa using he) hb
theorem Qnr {listed:Array Bool} {j:Nat} (h:listed.getD j false=true):qV listed j:=by
 unfold qV
 rw [Array.getD_eq_getD_getElem?] at h
 cases hj:listed[j]? with
 | none=>rw [hj] at h;simp at h
 | some b=>rw [hj] at h;simp at h;rw [h]
theorem Qns (hr:bF X ops S) {listed:Array Bool} (bf:listed.size=ops.size) (kQ:Region.ready .any ops listed=[]):∀ i,i < ops.size->qV listed i:=by
 intro i
 induction i using Nat.strongRecOn with
 | _ i ih =>
  intro hi
  cases hl:listed[i]? with
  | none=>rw [Array.getElem?_eq_getElem (by omega)] at hl;simp at hl
  | some b =>
   cases b with
   | true=>exact hl
   | false =>
    obtain ⟨o,ho⟩:=Am hi
    have:i∈Region.ready .any ops listed:=Qts ho (by rw [Array.getD_eq_getD_getElem?,hl];rfl) (fun e he hb=>by
     have au:=hr.MM ho e he hb
     have:=ih e.on au (by omega)
     unfold qV at this
     rw [Array.getD_eq_getD_getElem?,this];rfl)
    rw [kQ] at this
    simp at this
theorem Qig (hr:bF X ops S) (eP:HL X ops S) {Q:Exit->Act->World->Prop}
  (hQ:∀ ι' a' w',Rel ι' (aL (S ops.size).H.length) (S ops.size).H w'->bt ι' (aL (S ops.size).H.length) X.nt (S ops.size).dZ a'->Fr ι₀ (S 0).H w₀ ι' (S ops.size).H w'->Ab X.ai (S 0).H (S ops.size).H->a'.defers=[]->Q .normal a' w') :
  ∀ (fuel:Nat) (listed:Array Bool) (ι:Io) (G:af) (m:Nat) (a:Act) (w:World),listed.size=ops.size->listed.toList.count false=fuel->Inv X ops S ι₀ w₀ (qV listed) ι G m a w->wpAny X.P .any ops Q fuel listed a w:=by
 have fin:∀ (listed:Array Bool) (ι:Io) (G:af) (m:Nat) (a:Act) (w:World),listed.size=ops.size->Inv X ops S ι₀ w₀ (qV listed) ι G m a w->Region.ready .any ops listed=[]->Q .normal a w:=by
  intro listed ι G m a w bf h kQ
  obtain ⟨h1,h2,h3,h4,h5⟩:=h.done hr (Qns hr bf kQ)
  exact hQ ι a w h1 h2 h3 h4 h5
 intro fuel
 induction fuel with
 | zero =>
  intro listed ι G m a w bf HM h
  have kQ:Region.ready .any ops listed=[]:=by
   cases kQ:Region.ready .any ops listed with
   | nil=>rfl
   | cons i r =>
    obtain ⟨o,ho,h2,_⟩:=Qif (ops:=ops) (listed:=listed) (i:=i) (by rw [kQ];simp)
    have hi:=oJ ho
    have:listed[i]? = some false:=by
     rw [Array.getD_eq_getD_getElem?,Array.getElem?_eq_getElem (by omega)] at h2
     rw [Array.getElem?_eq_getElem (by omega)]
     simpa using h2
    have j_:false∈listed.toList:=by rw [<- Array.getElem?_toList] at this;exact Zc this
    rw [List.count_eq_zero] at HM
    exact absurd j_ HM
  exact ⟨kQ,fin listed ι G m a w bf h kQ⟩
 | succ fuel ih =>
  intro listed ι G m a w bf HM h
  refine ⟨fin listed ι G m a w bf h,fun i hi=>?_⟩
  obtain ⟨o,ho,h2,h3⟩:=Qif hi
  have aaf:=oJ ho
  have hif:listed[i]? = some false:=by
   rw [Array.getD_eq_getD_getElem?,Array.getElem?_eq_getElem (by omega)] at h2
   rw [Array.getElem?_eq_getElem (by omega)]
   simpa using h2
  have hn:Next ops (qV listed) i o:=by
   refine ⟨ho,fun hL=>?_,fun k hb=>?_⟩
   .unfold qV at hL;rw [hif] at hL;simp at hL
   .obtain ⟨o',e,qS,he,Mh,hk⟩:=Qto hb
    rw [ho] at qS;simp at qS;subst qS
    have hL:=Qnr (h3 e he Mh)
    rcases hk with rfl | hk
    .exact hL
    .exact h.down _ _ hL hk
  have CG:qV (listed.setIfInBounds i true)=jQ (qV listed) i:=by
   funext j
   apply propext
   unfold qV jQ
   rw [Array.getElem?_setIfInBounds]
   by_cases e:i=j
   .subst e;simp [show i < listed.size by omega]
   .rw [if_neg e]
    constructor
    .exact fun h=>.inl h
    .rintro (h | h)
     .exact h
     .exact absurd h.symm e
  refine h.step hr eP hn fun ι' G' m' a' w' h'=>ih _ ι' G' m' a' w' (by simpa using bf) ?_ (by rw [CG];exact h')
  have:=Qie listed.toList i (by rw [Array.getElem?_toList];exact hif)
  rw [Array.toList_setIfInBounds]
  omega
theorem Qqo (hr:bF X ops S) (hR:Rel ι₀ (aL (S 0).H.length) (S 0).H w₀) (hE:bt ι₀ (aL (S 0).H.length) X.nt (S 0).dZ a) (hd:a.defers=[]) :
  Inv X ops S ι₀ w₀ (qV (Array.replicate ops.size false)) ι₀ ((S 0).H++List.replicate ((S ops.size).H.length - (S 0).H.length) none) 0 a w₀:=by
 have hL:∀ j,¬ qV (Array.replicate ops.size false) j:=by
  intro j h
  unfold qV at h
  rw [Array.getElem?_replicate] at h
  split at h<;>simp at h
 have hle:=hr.bR (m:=0) (i:=ops.size) (by omega) (Zd _)
 have kg:∀ x,aL (S 0).H.length x->gM X ops S 0 (qV (Array.replicate ops.size false)) x:=fun x hx=>.inl hx
 have ah:∀ {x:Nat} {k:bx},Ev.ah ((S 0).H++List.replicate ((S ops.size).H.length - (S 0).H.length) none) x=some k->Ev.ah (S 0).H x=some k:=by
  intro x k hk
  by_cases hx:x < (S 0).H.length
  .rw [Fa hx] at hk;exact hk
  .unfold Ev.ah at hk
   rw [Zq (by omega),List.getElem?_replicate] at hk
   split at hk
   .rename_i h1;split at h1<;>simp at h1
   .simp at hk
 refine ⟨by omega,fun e _ _=>⟨fun h=>absurd h (hL e),fun h=>by omega⟩,.inl rfl,fun j i h=>absurd h (hL j),fun j h=>absurd h (hL j),by simp;omega,fun x hx=>Fa hx,fun i _ _ h=>absurd h (hL i),fun x h1 h2 _=>?_,
  ⟨fun b k hk=>((hR.aI b k (ah hk)).bw rfl rfl fun _ _ _ hv=>hv.mono kg fun _ _=>rfl),fun b b' k k' h1 h2=>hR.inj b b' k k' (ah h1) (ah h2),fun b k hb hr=>hR.iu b k (ah hb) hr,hR.gw⟩,⟨by simp,fun _ _=>rfl,rfl,rfl,rfl,Zd _,fun _ _ _=>rfl,fun b k hk bn=>.inr ⟨b,k,ah hk,bn,rfl⟩,fun b k hk _=>ah hk⟩,
  hE.size,fun q i hi cY v hv=>?_,hd⟩
 .rw [Zq h1,List.getElem?_replicate,if_pos (by omega)]
 .have eI:∀ j,0<=j->j < i->oh ops j≠some q:=fun j _ hj oz=>hL j ((cY j (by omega) oz).2 hj)
  rw [hr.look (by omega) hi eI] at hv
  exact (hE.get q v hv).mono kg fun _ _=>rfl
end
section
variable {X:Cx}
theorem WD (hX:oQ X.P X.call) {β:Type} {r:β} {ops:Array Oper} {K:List (Env×af)->Env->af->Option β}:∀ (l:List Oper) (env:Env) (H:af) (tr:List (Env×af)),zV X ops l env H tr K=some r->dJ (aL H.length) env->Ql H.length H ->
  ∃ ED ak H',K ED ak H'=some r/\dJ (aL H'.length) ak/\Ql H'.length H'/\Ab X.ai H H'
 | [],env,H,tr,h,hE,hc=>⟨_,env,H,h,hE,hc,Ab.refl _ _⟩
 | o::l,env,H,tr,h,hE,hc=>by
  unfold zV at h
  obtain ⟨t,fQ,h,hw⟩:=RA (nt:=X.nt) h
  have vG:=hw.lt _ hE
  cases t with
  | true =>
   simp only at h
   obtain ⟨v,H',h,hF⟩:=Rt hX h
   obtain ⟨kV,IB⟩:=Ob hF vG hc
   obtain ⟨b_,h,hp⟩:=Dn h
   obtain ⟨ED,ak,H2,g1,g2,g3,g4⟩:=WD hX l b_ H' _ h (Kq (vG.mono (aL.mono kV.len)) IB hp) (kV.all hc)
   exact ⟨ED,ak,H2,g1,g2,g3,kV.trans g4⟩
  | false =>
   simp only at h
   obtain ⟨b_,h,hp⟩:=Dn h
   exact WD hX l b_ H _ h (Kq vG (Kb _) hp) hc
theorem Qzv (hX:oQ X.P X.call):PE X:=by
 intro β ops env H K r h hE hc
 unfold G9 at h
 split at h
 .obtain ⟨ED,ak,H',h1,h2,h3,h4⟩:=WD hX _ _ _ _ h hE hc
  exact ⟨ak,H',(PI h1).1,h2,h3,h4⟩
 .simp at h
theorem Qzw (hX:oQ X.P X.call) (hm:X.P.follows .mixedOrders=true):PD X:=by
 intro β id ops env H K r h ι a w hR hE hd Q hQ
 unfold G9 at h
 split at h
 .rename_i dh
  obtain ⟨S,g1,g2,g3,g4,g5⟩:=Qa0 hX _ _ _ _ h
  obtain ⟨g6,g7⟩:=PI g5
  have hN:ops.toList.length=ops.size:=by simp
  rw [hN] at g3 g6 g7
  have hr:bF X ops S:=⟨fun k o hk=>g4 k o (by rw [Array.getElem?_toList];exact hk),dh,by rw [g1,g2];exact hE.lt,by rw [g2];exact hR.closed⟩
  have MY:∀ k,k<=ops.size->((((List.range (ops.size+1)).map fun k=>((S k).env,(S k).H)).reverse++[]).reverse)[k]? = some ((S k).env,(S k).H):=by
   intro k hk
   simp only [List.append_nil,List.reverse_reverse,List.getElem?_map]
   rw [List.getElem?_range (by omega)];rfl
  have eP:HL X ops S:=by
   intro i o ho hc m aE
   have hi:=oJ ho
   have CP:m<=ops.size:=by
    unfold G7 at aE
    simp only [List.mem_cons,List.mem_map] at aE
    rcases aE with e | ⟨e,he,rfl⟩
    .split at e
     .rename_i e' r Aq
      have:e'∈(((List.range ops.size).filter fun e=>Nat.beq (cL X.P ops e) 3).filter fun e=>iH (Region.before ops) i e):=by
       rw [<- List.mem_reverse,Aq];simp
      simp only [List.mem_filter,List.mem_range] at this
      omega
     .omega
    .simp only [List.mem_filter,List.mem_range] at he
     omega
   rcases g7 i (by simp;exact hi) hc o ho m aE with hq | ⟨s,q,hs,hq,kQ⟩
   .rcases Bool.or_eq_true_iff.1 hq with hq | hq
    rotate_left
    .right
     unfold Jm at hq
     split at hq
     .rename_i t ht
      simp only [List.any_eq_true,List.mem_range,Z8,List.all_eq_true,Bool.or_eq_true,Bool.not_eq_true'] at hq
      obtain ⟨k,WA,⟨⟨⟨h1,h2⟩,h3⟩,h4⟩,h6⟩:=hq
      cases dh:ops[k]? with
      | none=>rw [dh] at h4;simp at h4
      | some ok =>
       rw [dh] at h4
       simp only [Z8,Option.isNone_iff_eq_none] at h4
       obtain ⟨h4,h5⟩:=h4
       cases hd:ok.dst with
       | none=>rw [hd] at h5;simp at h5
       | some d =>
        rw [hd] at h5
        have h5:=Z7 h5
        refine ⟨t,k,ok,ht,Zi h1,WA,h2,Z7 h3,dh,h4,by rw [hd,h5],fun j UK uT=>?_⟩
        rcases h6 j uT with h7 | ⟨h7,h8⟩
        .have:=Zi h7;omega
        .refine ⟨fun PL=>?_,fun PL=>?_⟩
         .rw [PL] at h7;simp at h7
         .unfold oh at PL;rw [PL] at h8;simp at h8
     .simp at hq
    left
    have Ar:∀ k,min m i<=k->k < max m i->cL X.P ops k < 2:=by
     intro k h1 h2
     by_cases hk:k < ops.size
     .unfold Jl at hq
      simp only [List.all_eq_true,List.mem_range] at hq
      have:=hq k hk
      have e1:Nat.ble (min m i) k=true:=Nat.ble_eq_true_of_le h1
      have e2:Nat.blt k (max m i)=true:=by simp [Nat.blt];omega
      rw [e1,e2] at this
      simp only [Bool.and_self,Zl,Bool.false_or] at this
      have h3:cL X.P ops k+1<=2:=by simpa [Nat.blt] using this
      omega
     .rw [Qtq hk];omega
    have hH:(S m).H=(S i).H:=by
     rcases Nat.le_total m i with hle | hle
     .exact (hr.const (lo:=m) (hi:=i) hle (by omega) (fun k h1 h2=>Ar k (by omega) (by omega))).symm
     .exact hr.const (lo:=i) (hi:=m) hle CP (fun k h1 h2=>Ar k (by omega) (by omega))
    rw [hH]
   .rw [MY i (by omega)] at hs
    rw [MY m CP] at hq
    simp at hs hq
    subst hs;subst hq
    exact .inl kQ
  refine wp_region_any hm ?_
  have RD:Rel ι (aL (S 0).H.length) (S 0).H { w with drawn:=w.drawn+1 }:=by rw [g2];exact hR.bz rfl
  have Wl:bt ι (aL (S 0).H.length) X.nt (S 0).dZ a:=by rw [g1,g2];exact hE
  have HN:=Qqo hr RD Wl hd
  refine Qig hr eP (Q:=Q) ?_ ops.size _ _ _ _ _ _ (by simp) (by simp) HN
  intro ι' a' w' h1 h2 h3 h4 h5
  refine hQ (S ops.size).dZ ι' (S ops.size).H a' w' h1 h2 ?_ (by rw [<- g2];exact h4) h5 g6
  rw [g2] at h3
  exact ((Fr.refl ι H w).bz (w'':={ w with drawn:=w.drawn+1 }) rfl rfl rfl rfl).trans h3
 .simp at h
end
theorem Qqp {P:Program} {A:Co} (hm:P.follows .mixedOrders=true) (hA:Px P A) (d:Nat):oQ P (run P A d) :=
 Qvk hA (fun X hP hc=>⟨Qzw (by rw [hP];exact hc) (by rw [hP];exact hm),Qzv (by rw [hP];exact hc)⟩) d
end Go.Ev
