/-
  The end of a call: its results, and the blocks that stay. And what stood behind it in 4 texts.
  Conditions: said at the theorems.
-/
import Derived.Test.YtcoimfbmgjhcjaaGreatDoorCode
set_option linter.unusedVariables false
set_option linter.unusedSimpArgs false
namespace Go.Ev
section
variable {P:Program} {nt:Nat} {env:Env} {H:af}
theorem VQ {ι:Io} {D:Nat->Prop} {a:Act} {w:World} (hR:Rel ι D H w) (hE:bt ι D nt env a):∀ {l:List ResultVar} {vs:List Value},iB P env H l=some vs ->
  ∃ cs:List Value,aZ ι D vs cs/\(l.mapM fun (x:ResultVar)=>(match x with | .tmp t=>pure (a.tmps.getD t undef) | .cell b t=>do loadVar t (<- asAddr (a.tmps.getD b undef)):Sem Value)).run P w=.ok cs w
 | [],vs,h=>by simp [iB] at h;subst h;exact ⟨[],aZ.nil _ _,by simp⟩
 | .tmp t::l,vs,h=>by
  simp only [iB] at h
  replace h:=Q2 h;obtain ⟨v,hv,h⟩:=h
  replace h:=Q2 h;obtain ⟨r,hr,h⟩:=h
  simp at h;subst h
  obtain ⟨cs,h1,h2⟩:=VQ hR hE hr
  refine ⟨_,aZ.cons (hE.get t v hv) h1,?_⟩
  simp only [List.mapM_cons,Sem.run_bind,Sem.run_pure,Result.andThen_ok,h2]
 | .cell b t::l,vs,h=>by
  simp only [iB] at h
  replace h:=Q2 h;obtain ⟨v,hv,h⟩:=h
  split at h
  .rename_i p
   have hp:=(hE.get b _ hv).dA.1
   have VR:(asAddr (a.tmps.getD b undef)).run P w=.ok (ι.addr p) w:=by rw [hp];rfl
   replace h:=Q2 h;obtain ⟨i,hi,h⟩:=h
   have key:∀ (u:Value) (c:Value) (r:List Value),iB P env H l=some r->vs=u::r->ay ι D u c->(loadVar t (ι.addr p)).run P w=.ok c w->∃ cs:List Value,aZ ι D vs cs /\
     ((ResultVar.cell b t::l).mapM fun (x:ResultVar)=>(match x with | .tmp t=>pure (a.tmps.getD t undef) | .cell b t=>do loadVar t (<- asAddr (a.tmps.getD b undef)):Sem Value)).run P w=.ok cs w:=by
    intro u c r hr e hu hl
    subst e
    obtain ⟨cs,h1,h2⟩:=VQ hR hE hr
    refine ⟨c::cs,aZ.cons hu h1,?_⟩
    simp only [List.mapM_cons,Sem.run_bind,Sem.run_pure,Result.andThen_ok,VR,hl,h2]
   have mY:∀ (d:TypeDesc) (l' r:List Value),P.underlying t=some d->((∃ fs,d=.struct fs)\/∃ n e,d=.array n e)->Qx H p i.size=some l'->iB P env H l=some r->vs=.agg l'.toArray::r->∃ cs:List Value,aZ ι D vs cs /\
     ((ResultVar.cell b t::l).mapM fun (x:ResultVar)=>(match x with | .tmp t=>pure (a.tmps.getD t undef) | .cell b t=>do loadVar t (<- asAddr (a.tmps.getD b undef)):Sem Value)).run P w=.ok cs w:=by
    intro d l' r hu hd hl hr e
    obtain ⟨cs,h1,h2,h3,h4⟩:=hR.wh hl
    have aT:=run_loadCells_list (P:=P) w (ι.addr p) cs h3
    rw [h1] at aT
    have ha:(isAgg t).run P w=.ok true w:=by
     rcases hd with ⟨fs,rfl⟩ | ⟨n,e,rfl⟩<;>simp [isAgg,run_underlying hu]
    exact key _ (.agg cs.toArray) r hr e (aZ.bZ h2) (by simp only [loadVar,Sem.run_bind,ha,Result.andThen_ok,if_true,sizeOf,typeInfo,run_program,hi,Sem.run_pure,aT])
   split at h
   .rename_i fs hu
    replace h:=Q2 h;obtain ⟨l',hl,h⟩:=h
    replace h:=Q2 h;obtain ⟨r,hr,h⟩:=h
    simp at h
    exact mY _ l' r hu (.inl ⟨_,rfl⟩) hl hr h.symm
   .rename_i n e hu
    replace h:=Q2 h;obtain ⟨l',hl,h⟩:=h
    replace h:=Q2 h;obtain ⟨r,hr,h⟩:=h
    simp at h
    exact mY _ l' r hu (.inr ⟨_,_,rfl⟩) hl hr h.symm
   .rename_i d n1 n2 hu
    replace h:=Q2 h;obtain ⟨u,hl,h⟩:=h
    replace h:=Q2 h;obtain ⟨r,hr,h⟩:=h
    simp at h
    obtain ⟨c,h1,h2,h3⟩:=hR.load hl
    have ha:(isAgg t).run P w=.ok false w:=by
     simp only [isAgg,Sem.run_bind,run_underlying hu,Result.andThen_ok]
     cases d<;>first | rfl | exact absurd rfl (n1 _) | exact absurd rfl (n2 _ _)
    exact key u c r hr h.symm h2 (by simp only [loadVar,Sem.run_bind,ha,Result.andThen_ok,Bool.false_eq_true,if_false,run_load,h1])
   .simp at h
  .simp at h
theorem Mo:∀ {l:List ResultVar} {vs:List Value},iB P env H l=some vs->dH (aK H.length) env->Ql H.length H->gI (aK H.length) vs
 | [],vs,h,_,_=>by simp [iB] at h;subst h;intro v hv;simp at hv
 | .tmp t::l,vs,h,hE,hc=>by
  simp only [iB] at h
  replace h:=Q2 h;obtain ⟨v,hv,h⟩:=h
  replace h:=Q2 h;obtain ⟨r,hr,h⟩:=h
  simp at h;subst h
  intro u hu
  rcases Z2 hu with rfl | hu
  .exact hE t _ hv
  .exact Mo hr hE hc u hu
 | .cell b t::l,vs,h,hE,hc=>by
  simp only [iB] at h
  replace h:=Q2 h;obtain ⟨v,hv,h⟩:=h
  split at h
  .rename_i p
   replace h:=Q2 h;obtain ⟨i,hi,h⟩:=h
   split at h
   .replace h:=Q2 h;obtain ⟨l',hl,h⟩:=h
    replace h:=Q2 h;obtain ⟨r,hr,h⟩:=h
    simp at h;subst h
    intro u hu
    rcases Z2 hu with rfl | hu
    .exact bL.bZ (NJ hl hc)
    .exact Mo hr hE hc u hu
   .replace h:=Q2 h;obtain ⟨l',hl,h⟩:=h
    replace h:=Q2 h;obtain ⟨r,hr,h⟩:=h
    simp at h;subst h
    intro u hu
    rcases Z2 hu with rfl | hu
    .exact bL.bZ (NJ hl hc)
    .exact Mo hr hE hc u hu
   .replace h:=Q2 h;obtain ⟨l',hl,h⟩:=h
    replace h:=Q2 h;obtain ⟨r,hr,h⟩:=h
    simp at h;subst h
    intro u hu
    rcases Z2 hu with rfl | hu
    .exact XS hl hc
    .exact Mo hr hE hc u hu
   .simp at h
  .simp at h
theorem VS:∀ {l:List Nat} {b j:Nat},D_ l b=some j->l[j]? = some b
 | [],b,j,h=>by simp [D_] at h
 | x::l,b,j,h=>by
  unfold D_ at h
  split at h
  .rename_i e;simp at h;subst h;simp [e]
  .replace h:=Q2 h;obtain ⟨i,hi,h⟩:=h
   simp at h;subst h
   simpa using VS hi
theorem Qdh:∀ {l:List Nat} {b:Nat},D_ l b=none->b∉l
 | [],b,h=>by simp
 | x::l,b,h=>by
  unfold D_ at h
  split at h
  .simp at h
  .rename_i e
   cases hp:D_ l b with
   | some i=>rw [hp] at h;simp [Q1] at h
   | none =>
    have:=Qdh hp
    simp only [List.mem_cons,not_or]
    exact ⟨fun h=>e h.symm,this⟩
structure mj (base:Nat) (H:af) (olds:List Nat):Prop where
 nodup:olds.Nodup
 aI:∀ b∈olds,base<=b/\∃ k,ah H b=some k/\k.cells.all (OS base)=true
def Io.mv (ι:Io) (base:Nat) (olds:List Nat):Io:=fun x=>if x < base then ι x else match olds[x - base]? with | some b=>ι b | none=>ι x
theorem Io.fN (ι:Io) {base x:Nat} (olds:List Nat) (h:x < base):ι.mv base olds x=ι x:=by simp [Io.mv,h]
theorem Io.gx (ι:Io) {base j b:Nat} {olds:List Nat} (h:olds[j]? = some b):ι.mv base olds (base+j)=ι b:=by
 simp only [Io.mv,show ¬ (base+j < base) by omega,if_false,show base+j - base=j by omega,h]
theorem Qdi {base:Nat} {olds aP:List Nat} {b x:Nat} (h:I9 base H olds b=some (x,aP)) (ho:mj base H olds) :
  mj base H aP/\olds <+: aP/\∀ (ι:Io) (fin:List Nat),aP <+: fin->ι.mv base fin x=ι b/\x < base+fin.length:=by
 unfold I9 at h
 split at h
 .rename_i hb
  simp at h;obtain ⟨rfl,rfl⟩:=h
  exact ⟨ho,List.prefix_refl _,fun ι fin _=>⟨Io.fN ι fin hb,by omega⟩⟩
 .rename_i hb
  split at h
  .rename_i j hj
   simp at h;obtain ⟨rfl,rfl⟩:=h
   refine ⟨ho,List.prefix_refl _,fun ι fin hp=>?_⟩
   have Jj:=VS hj
   obtain ⟨t,rfl⟩:=hp
   have au:j < olds.length:=(Z0 Jj).1
   refine ⟨Io.gx ι (by rw [List.getElem?_append_left au];exact Jj),by simp;omega⟩
  .rename_i hj
   replace h:=Q2 h;obtain ⟨k,hk,h⟩:=h
   split at h
   .rename_i hl
    simp at h;obtain ⟨rfl,rfl⟩:=h
    refine ⟨⟨?_,?_⟩,List.prefix_append _ _,fun ι fin hp=>?_⟩
    .rw [Zn]
     refine ⟨ho.nodup,by simp,?_⟩
     intro y hy z hz
     simp at hz;subst hz
     exact fun e=>Qdh hj (e▸hy)
    .intro y hy
     rcases List.mem_append.1 hy with hy | hy
     .exact ho.aI y hy
     .simp at hy;subst hy;exact ⟨by omega,k,hk,hl⟩
    .obtain ⟨t,rfl⟩:=hp
     exact ⟨Io.gx ι (by simp),by simp⟩
   .simp at h
theorem Qte {v c:Value} (hl:Qu v=true) {ι:Io} {D:Nat->Prop} (hv:ay ι D v c) (ι':Io) (E:Nat->Prop):ay ι' E v c :=
 ay.mono (ι:=ι') (D:=fun _=>False) (hv.re (sO hl _) fun _ _ h=>h.elim) (fun _ h=>h.elim) (fun _ h=>h.elim)
structure VT (base:Nat) (H:af) (olds aP:List Nat) (v v':Value):Prop where
 ok:mj base H aP
 pre:olds <+: aP
 rel:∀ (ι:Io) (D:Nat->Prop) (fin:List Nat) (c:Value),aP <+: fin->ay ι D v c->ay (ι.mv base fin) (aK (base+fin.length)) v' c
theorem Qi2 {base:Nat} {olds aP:List Nat} {v v':Value} (h:B7 base H olds v=some (v',aP)) (ho:mj base H olds):VT base H olds aP v v':=by
 unfold B7 at h
 split at h
 .rename_i a
  replace h:=Q2 h;obtain ⟨⟨x,o'⟩,hb,h⟩:=h
  simp at h;obtain ⟨rfl,rfl⟩:=h
  obtain ⟨h1,h2,h3⟩:=Qdi hb ho
  refine ⟨h1,h2,fun ι D fin c hp hv=>?_⟩
  obtain ⟨e,hD⟩:=hv.dA
  obtain ⟨g1,g2⟩:=h3 ι fin hp
  have:=ay.ptr (ι:=ι.mv base fin) (D:=aK (base+fin.length)) ⟨x,a.off,none⟩ g2
  rw [e]
  simp only [Io.addr] at this ⊢
  rw [g1] at this
  exact this
 .rename_i a n c
  replace h:=Q2 h;obtain ⟨⟨x,o'⟩,hb,h⟩:=h
  simp at h;obtain ⟨rfl,rfl⟩:=h
  obtain ⟨h1,h2,h3⟩:=Qdi hb ho
  refine ⟨h1,h2,fun ι D fin c hp hv=>?_⟩
  obtain ⟨g1,g2⟩:=h3 ι fin hp
  cases hv with
  | ff _ _ _ cap hD hl hc =>
   have:=ay.ff (ι:=ι.mv base fin) (D:=aK (base+fin.length)) ⟨x,a.off,none⟩ n _ cap g2 hl (by simp only [g1];exact hc)
   simp only [Io.addr] at this ⊢
   rw [g1] at this
   exact this
  | bD _ b _ hD=>exact .bD _ _ _ g2
 .split at h
  .rename_i hl
   simp at h;obtain ⟨rfl,rfl⟩:=h
   exact ⟨ho,List.prefix_refl _,fun ι D fin c hp hv=>Qte hl hv _ _⟩
  .simp at h
structure Ac (base:Nat) (H:af) (olds aP:List Nat) (vs cz:List Value):Prop where
 ok:mj base H aP
 pre:olds <+: aP
 rel:∀ (ι:Io) (D:Nat->Prop) (fin:List Nat) (cs:List Value),aP <+: fin->aZ ι D vs cs->aZ (ι.mv base fin) (aK (base+fin.length)) cz cs
theorem Ac.nil {base:Nat} {olds:List Nat} (ho:mj base H olds):Ac base H olds olds [] [] :=
 ⟨ho,List.prefix_refl _,fun ι D fin cs _ h=>by
  have:cs=[]:=Z1 (by have:=h.1;simpa using this.symm)
  subst this;exact aZ.nil _ _⟩
theorem Ac.cons {base:Nat} {o1 o2 o3:List Nat} {v v':Value} {vs cz:List Value} (h:VT base H o1 o2 v v') (g:Ac base H o2 o3 vs cz):Ac base H o1 o3 (v::vs) (v'::cz) :=
 ⟨g.ok,h.pre.trans g.pre,fun ι D fin cs hp hl=>by
  cases cs with
  | nil=>exact absurd hl.1 (by simp)
  | cons c cs=>exact aZ.cons (h.rel ι D fin c (g.pre.trans hp) hl.head) (g.rel ι D fin cs hp hl.tail)⟩
theorem Qbl {base:Nat}:∀ {vs cz:List Value} {olds aP:List Nat},A8 base H olds vs=some (cz,aP)->mj base H olds->Ac base H olds aP vs cz
 | [],cz,olds,aP,h,ho=>by simp [A8] at h;obtain ⟨rfl,rfl⟩:=h;exact Ac.nil ho
 | v::vs,cz,olds,aP,h,ho=>by
  simp only [A8] at h
  replace h:=Q2 h;obtain ⟨⟨x,o1⟩,h1,h⟩:=h
  replace h:=Q2 h;obtain ⟨⟨y,o2⟩,h2,h⟩:=h
  simp at h;obtain ⟨rfl,rfl⟩:=h
  have g1:=Qi2 h1 ho
  exact Ac.cons g1 (Qbl h2 g1.ok)
theorem Qtf {base:Nat} {olds aP:List Nat} {v v':Value} (h:I_ base H olds v=some (v',aP)) (ho:mj base H olds):VT base H olds aP v v':=by
 unfold I_ at h
 split at h
 .rename_i cs
  replace h:=Q2 h;obtain ⟨⟨x,o1⟩,h1,h⟩:=h
  simp at h;obtain ⟨rfl,rfl⟩:=h
  have g:=Qbl h1 ho
  refine ⟨g.ok,g.pre,fun ι D fin c hp hv=>?_⟩
  obtain ⟨ys,rfl,hl⟩:=hv.eP
  exact aZ.bZ (xs:=x.toArray) (g.rel ι D fin _ hp hl)
 .exact Qi2 h ho
theorem VU {base:Nat}:∀ {vs cz:List Value} {olds aP:List Nat},vX base H olds vs=some (cz,aP)->mj base H olds->Ac base H olds aP vs cz
 | [],cz,olds,aP,h,ho=>by simp [vX] at h;obtain ⟨rfl,rfl⟩:=h;exact Ac.nil ho
 | v::vs,cz,olds,aP,h,ho=>by
  simp only [vX] at h
  replace h:=Q2 h;obtain ⟨⟨x,o1⟩,h1,h⟩:=h
  replace h:=Q2 h;obtain ⟨⟨y,o2⟩,h2,h⟩:=h
  simp at h;obtain ⟨rfl,rfl⟩:=h
  have g1:=Qtf h1 ho
  exact Ac.cons g1 (VU h2 g1.ok)
theorem Cq {base:Nat} {olds:List Nat} (hb:base<=H.length) {x:Nat} {k:bx} (h:ah (H.take base++olds.map (ah H)) x=some k) :
  (x < base/\ah H x=some k)\/∃ j b,x=base+j/\olds[j]? = some b/\ah H b=some k:=by
 have hlen:(H.take base).length=base:=by simp;omega
 by_cases hx:x < base
 .rw [E1 (by omega),Qpx hx] at h;exact .inl ⟨hx,h⟩
 .right
  unfold ah at h
  rw [Zq (by omega),hlen,List.getElem?_map] at h
  cases ho:olds[x - base]? with
  | none=>rw [ho] at h;simp at h
  | some b =>
   rw [ho] at h
   simp only [Option.map_some] at h
   refine ⟨x - base,b,by omega,ho,?_⟩
   split at h
   .rename_i k' he
    simp at h he;subst h;exact he
   .simp at h
theorem Qnh {ι₀ ι:Io} {H₀:af} {w₀ w:World} {vs cz cs:List Value} {olds:List Nat} (hR:Rel ι (aK H.length) H w) (hF:Fr ι₀ H₀ w₀ ι H w) (fB:Ql H₀.length H) (hm:vX H₀.length H [] vs=some (cz,olds)) (hl:aZ ι (aK H.length) vs cs) :
  Rel (ι.mv H₀.length olds) (aK (H.take H₀.length++olds.map (ah H)).length) (H.take H₀.length++olds.map (ah H)) w/\Fr ι₀ H₀ w₀ (ι.mv H₀.length olds) (H.take H₀.length++olds.map (ah H)) w /\
  aZ (ι.mv H₀.length olds) (aK (H.take H₀.length++olds.map (ah H)).length) cz cs:=by
 have c_:=VU hm ⟨List.nodup_nil,by simp⟩
 have hlen:(H.take H₀.length++olds.map (ah H)).length=H₀.length+olds.length:=by simp;have:=hF.len;omega
 have fj:∀ {b:Nat} {k:bx},ah H b=some k->(b < H₀.length\/b∈olds)->∀ v∈k.cells,bL (aK H₀.length) v:=by
  intro b k hk hb v hv
  rcases hb with hb | hb
  .exact fB b hb k hk v hv
  .obtain ⟨_,k',cW,hall⟩:=c_.ok.aI b hb
   rw [hk] at cW;simp at cW;subst cW
   exact Qhq (Z3 hall v hv)
 have oP:∀ {v c:Value},bL (aK H₀.length) v->ay ι (aK H.length) v c->ay (ι.mv H₀.length olds) (aK (H₀.length+olds.length)) v c:=by
  intro v c hv hr
  exact ay.mono (hr.re (ι':=ι) hv fun _ _ _=>rfl) (aK.mono (by omega)) fun b hb=>Io.fN ι olds hb
 rw [hlen]
 refine ⟨⟨fun x k hx=>?_,fun x x' k k' hx mB aV bn=>?_,fun x k hx hr=>(by
  rcases Cq hF.len hx with ⟨h1,h2⟩ | ⟨j,b,rfl,h1,h2⟩
  .rw [Io.fN ι olds h1];exact hR.h_ x k h2 hr
  .rw [Io.gx ι h1];exact hR.h_ b k h2 hr),hR.gw⟩,⟨by rw [hlen];omega,fun b hb=>by rw [Io.fN ι olds hb];exact hF.io b hb,hF.os,hF.tape,hF.output,hF.size,hF.frame,fun x k hx hr=>?_,fun x k hx hr=>?_⟩,c_.rel ι _ olds cs (List.prefix_refl _) hl⟩
 .rcases Cq hF.len hx with ⟨h1,h2⟩ | ⟨j,b,rfl,h1,h2⟩
  .exact (hR.aI x k h2).bw rfl (Io.fN ι olds h1) fun i hi c hr=>oP (fj h2 (.inl h1) _ (List.getElem_mem hi)) hr
  .exact (hR.aI b k h2).bw rfl (Io.gx ι h1) fun i hi c hr=>oP (fj h2 (.inr (Zc h1)) _ (List.getElem_mem hi)) hr
 .rcases Cq hF.len hx with ⟨h1,h2⟩ | ⟨j,b,rfl,h1,h2⟩
  .rcases Cq hF.len mB with ⟨g1,g2⟩ | ⟨j',b',rfl,g1,g2⟩
   .rw [Io.fN ι olds h1,Io.fN ι olds g1];exact hR.inj x x' k k' h2 g2 aV bn
   .rw [Io.fN ι olds h1,Io.gx ι g1]
    have:=(c_.ok.aI b' (Zc g1)).1
    exact hR.inj x b' k k' h2 g2 (by omega) bn
  .rcases Cq hF.len mB with ⟨g1,g2⟩ | ⟨j',b',rfl,g1,g2⟩
   .rw [Io.gx ι h1,Io.fN ι olds g1]
    have:=(c_.ok.aI b (Zc h1)).1
    exact hR.inj b x' k k' h2 g2 (by omega) bn
   .rw [Io.gx ι h1,Io.gx ι g1]
    refine hR.inj b b' k k' h2 g2 (fun e=>aV ?_) bn
    subst e
    have hj:=(Z0 h1)
    have Jj:=(Z0 g1)
    obtain ⟨q1,q2⟩:=hj
    obtain ⟨q3,q4⟩:=Jj
    have hnd:=List.pairwise_iff_getElem.1 c_.ok.nodup
    rcases Nat.lt_trichotomy j j' with hl | hl | hl
    .exact absurd (q2.trans q4.symm) (hnd j j' q1 q3 hl)
    .omega
    .exact absurd (q4.trans q2.symm) (hnd j' j q3 q1 hl)
 .rcases Cq hF.len hx with ⟨h1,h2⟩ | ⟨j,b,rfl,h1,h2⟩
  .rw [Io.fN ι olds h1];exact hF.new x k h2 hr
  .rw [Io.gx ι h1];exact hF.new b k h2 hr
 .rcases Cq hF.len hx with ⟨h1,h2⟩ | ⟨j,b,rfl,h1,h2⟩
  .exact hF.ro x k h2 hr
  .have:=Qt (hF.ro b k h2 hr)
   have:=(c_.ok.aI b (Zc h1)).1
   omega
theorem Qdj {base:Nat} {olds aP:List Nat} {b x:Nat} (h:I9 base H olds b=some (x,aP)):olds <+: aP/\∀ fin:List Nat,aP <+: fin->x < base+fin.length:=by
 unfold I9 at h
 split at h
 .simp at h;obtain ⟨rfl,rfl⟩:=h;exact ⟨List.prefix_refl _,fun fin _=>by omega⟩
 .split at h
  .rename_i j hj
   simp at h;obtain ⟨rfl,rfl⟩:=h
   refine ⟨List.prefix_refl _,fun fin hp=>?_⟩
   have au:=(Z0 (VS hj)).1
   have:=hp.length_le
   omega
  .replace h:=Q2 h;obtain ⟨k,hk,h⟩:=h
   split at h
   .simp at h;obtain ⟨rfl,rfl⟩:=h
    refine ⟨List.prefix_append _ _,fun fin hp=>?_⟩
    have:=hp.length_le
    simp at this;omega
   .simp at h
theorem Qi3 {base:Nat} {olds aP:List Nat} {v v':Value} (h:B7 base H olds v=some (v',aP)):olds <+: aP/\∀ fin:List Nat,aP <+: fin->bL (aK (base+fin.length)) v':=by
 unfold B7 at h
 split at h
 .replace h:=Q2 h;obtain ⟨⟨x,o'⟩,hb,h⟩:=h
  simp at h;obtain ⟨rfl,rfl⟩:=h
  obtain ⟨g1,g2⟩:=Qdj hb
  exact ⟨g1,fun fin hp=>.ptr _ (g2 fin hp)⟩
 .replace h:=Q2 h;obtain ⟨⟨x,o'⟩,hb,h⟩:=h
  simp at h;obtain ⟨rfl,rfl⟩:=h
  obtain ⟨g1,g2⟩:=Qdj hb
  exact ⟨g1,fun fin hp=>.sl _ _ _ (g2 fin hp)⟩
 .split at h
  .rename_i hl
   simp at h;obtain ⟨rfl,rfl⟩:=h
   exact ⟨List.prefix_refl _,fun fin _=>sO hl _⟩
  .simp at h
theorem Qbn {base:Nat}:∀ {vs cz:List Value} {olds aP:List Nat},A8 base H olds vs=some (cz,aP)->olds <+: aP/\∀ fin:List Nat,aP <+: fin->gI (aK (base+fin.length)) cz
 | [],cz,olds,aP,h=>by simp [A8] at h;obtain ⟨rfl,rfl⟩:=h;exact ⟨List.prefix_refl _,fun _ _ v hv=>by simp at hv⟩
 | v::vs,cz,olds,aP,h=>by
  simp only [A8] at h
  replace h:=Q2 h;obtain ⟨⟨x,o1⟩,h1,h⟩:=h
  replace h:=Q2 h;obtain ⟨⟨y,o2⟩,h2,h⟩:=h
  simp at h;obtain ⟨rfl,rfl⟩:=h
  obtain ⟨g1,g2⟩:=Qi3 h1
  obtain ⟨g3,g4⟩:=Qbn h2
  refine ⟨g1.trans g3,fun fin hp u hu=>?_⟩
  rcases Z2 hu with rfl | hu
  .exact g2 fin (g3.trans hp)
  .exact g4 fin hp u hu
theorem Qi4 {base:Nat}:∀ {vs cz:List Value} {olds aP:List Nat},vX base H olds vs=some (cz,aP)->olds <+: aP/\∀ fin:List Nat,aP <+: fin->gI (aK (base+fin.length)) cz
 | [],cz,olds,aP,h=>by simp [vX] at h;obtain ⟨rfl,rfl⟩:=h;exact ⟨List.prefix_refl _,fun _ _ v hv=>by simp at hv⟩
 | v::vs,cz,olds,aP,h=>by
  simp only [vX] at h
  replace h:=Q2 h;obtain ⟨⟨x,o1⟩,h1,h⟩:=h
  replace h:=Q2 h;obtain ⟨⟨y,o2⟩,h2,h⟩:=h
  simp at h;obtain ⟨rfl,rfl⟩:=h
  have g12:olds <+: o1/\∀ fin:List Nat,o1 <+: fin->bL (aK (base+fin.length)) x:=by
   unfold I_ at h1
   split at h1
   .replace h1:=Q2 h1;obtain ⟨⟨z,o3⟩,h3,h1⟩:=h1
    simp at h1;obtain ⟨rfl,rfl⟩:=h1
    obtain ⟨k1,k2⟩:=Qbn h3
    exact ⟨k1,fun fin hp=>bL.bZ (k2 fin hp)⟩
   .exact Qi3 h1
  obtain ⟨g3,g4⟩:=Qi4 h2
  refine ⟨g12.1.trans g3,fun fin hp u hu=>?_⟩
  rcases Z2 hu with rfl | hu
  .exact g12.2 fin (g3.trans hp)
  .exact g4 fin hp u hu
theorem Qqd {ai:Nat} {H₀:af} {vs cz:List Value} {olds:List Nat} (ha:Ab H₀.length H₀ H) (hc₀:Ql H₀.length H₀) (hm:vX H₀.length H [] vs=some (cz,olds)) :
  Ab ai H₀ (H.take H₀.length++olds.map (ah H))/\gI (aK (H.take H₀.length++olds.map (ah H)).length) cz:=by
 have c_:=VU hm ⟨List.nodup_nil,by simp⟩
 have hlen:(H.take H₀.length++olds.map (ah H)).length=H₀.length+olds.length:=by simp;have:=ha.len;omega
 have fB:=ha.closed H₀.length (Zd _) (Zd _) hc₀
 refine ⟨⟨by rw [hlen];omega,fun _=>?_,fun m _ aE hcm=>?_⟩,?_⟩
 .rw [hlen]
  intro x _ k hx v hv
  rcases Cq ha.len hx with ⟨h1,h2⟩ | ⟨j,b,rfl,h1,h2⟩
  .exact (fB x h1 k h2 v hv).mono (aK.mono (by omega))
  .obtain ⟨_,k',cW,hall⟩:=c_.ok.aI b (Zc h1)
   rw [h2] at cW;simp at cW;subst cW
   exact (Qhq (Z3 hall v hv)).mono (aK.mono (by omega))
 .intro x mB k hx v hv
  rcases Cq ha.len hx with ⟨h1,h2⟩ | ⟨j,b,rfl,h1,h2⟩
  .exact ha.closed m aE aE hcm x mB k h2 v hv
  .omega
 .rw [hlen];exact (Qi4 hm).2 olds (List.prefix_refl _)
end
theorem Qi5 {P:Program} {c:Code} {Q:Exit->Act->World->Prop} {a:Act} {w:World} (I:Nat->Act->World->Prop) {n:Nat} (h₀:I n a w)
  (round:∀ n a w,I n a w->c.wp P (Exit.then (fun a' w'=>∃ n',n' < n/\I n' a' w') Q) a w):(Code.loop c).wp P Q a w:=by
 intro b k cs
 have key:∀ n a w,I n a w->∃ e a' w',Q e a' w'/\Arrives P (lone (b.at a (.code c::.inLoop c::k)) cs w) b k cs e a' w':=by
  intro n
  induction n using Nat.strongRecOn with
  | _ n ih =>
   intro a w hI
   obtain ⟨e,a₁,w₁,hq,jJ⟩:=round n a w hI b (.inLoop c::k) cs
   cases e with
   | normal =>
    obtain ⟨n',au,hI₁⟩:=hq
    obtain ⟨e₂,a₂,w₂,hq₂,Mp⟩:=ih n' au a₁ w₁ hI₁
    exact ⟨e₂,a₂,w₂,hq₂,.of_steps (Steps.trans jJ (.one step_inLoop)) Mp⟩
   | exit id=>exact ⟨_,a₁,w₁,hq,.pass (x:=.inLoop c) rfl (fun _ _=>.inl (by simp)) jJ⟩
   | goto l=>exact ⟨_,a₁,w₁,hq,.pass (x:=.inLoop c) rfl (fun _ _=>.inl (by simp)) jJ⟩
   | ret=>exact ⟨_,a₁,w₁,hq,.pass (x:=.inLoop c) rfl (fun _ _=>.inl (by simp)) jJ⟩
   | panic ch=>exact ⟨_,a₁,w₁,hq,.pass (x:=.inLoop c) rfl (fun _ _=>.inl (by simp)) jJ⟩
   | outgrown=>exact ⟨_,a₁,w₁,hq,.pass (x:=.inLoop c) rfl (fun _ _=>.inl (by simp)) jJ⟩
 obtain ⟨e,a',w',hq,jJ⟩:=key n a w h₀
 exact ⟨e,a',w',hq,.of_steps (.one step_loop) jJ⟩
def Pe (X:Cx):Prop:=∀ (β:Type) (id:Nat) (ops:Array Oper) (env:Env) (H:af) (K:Env->af->Option β) (r:β),GZ X ops env H K=some r ->
 ∀ (ι:Io) (a:Act) (w:World),Rel ι (aK H.length) H w->bt ι (aK H.length) X.nt env a->a.defers=[]->∀ Q:Exit->Act->World->Prop,
  (∀ ak ι' H' a' w',Rel ι' (aK H'.length) H' w'->bt ι' (aK H'.length) X.nt ak a'->Fr ι H w ι' H' w'->Ab X.ai H H'->a'.defers=[]->K ak H'=some r->Q .normal a' w')->(Code.region id ops true).wp X.P Q a w
def Pf (X:Cx):Prop:=∀ (β:Type) (ops:Array Oper) (env:Env) (H:af) (K:Env->af->Option β) (r:β),GZ X ops env H K=some r->dH (aK H.length) env->Ql H.length H ->
  ∃ ak H',K ak H'=some r/\dH (aK H'.length) ak/\Ql H'.length H'/\Ab X.ai H H'
section
variable {X:Cx} {β:Type} {r:β}
def Cr:List (Nat×Value)->List Value->Env
 | (s,_)::ks,v::vs=>(s,v)::Cr ks vs
 | _,_=>[]
theorem VV:∀ {ks:List (Nat×Value)} {vs:List Value} {K:Env->Option β},A4 ks vs K=some r->K (Cr ks vs)=some r
 | [],vs,K,h=>by
  unfold A4 I4 at h
  split at h
  .exact h
  .simp at h
 | (s,t)::ks,vs,K,h=>by
  unfold A4 zJ at h
  split at h
  .exact VV (K:=fun env=>K ((s,_)::env)) (J8 h)
  .simp at h
theorem VW:∀ {env:Env} {ks:List (Nat×Value)} {vs:List Value},uP env ks=some vs->∀ s v,cO (Cr ks vs) s=some v->cO env s=some v
 | env,[],vs,h,s,v,hs=>by simp [uP] at h;subst h;simp [Cr,cO] at hs
 | env,(s',t)::ks,vs,h,s,v,hs=>by
  simp only [uP] at h
  replace h:=Q2 h;obtain ⟨u,hu,h⟩:=h
  replace h:=Q2 h;obtain ⟨l,hl,h⟩:=h
  simp at h;subst h
  simp only [Cr] at hs
  rw [uR] at hs
  by_cases e:s'=s
  .subst e;simp at hs;subst hs;exact hu
  .simp [e] at hs;exact VW hl s v hs
theorem bt.zip {ι:Io} {D:Nat->Prop} {nt:Nat} {env:Env} {a:Act} (h:bt ι D nt env a) {ks:List (Nat×Value)} {vs:List Value} (hk:uP env ks=some vs):bt ι D nt (Cr ks vs) a :=
 ⟨h.size,fun s v hs=>h.get s v (VW hk s v hs)⟩
theorem dH.zip {D:Nat->Prop} {env:Env} (h:dH D env) {ks:List (Nat×Value)} {vs:List Value} (hk:uP env ks=some vs):dH D (Cr ks vs) :=
 fun s v hs=>h s v (VW hk s v hs)
theorem Qm6 {ι:Io} {D:Nat->Prop} {nt:Nat} {env:Env} {a:Act} {c:Operand} {b:Bool} (h:bt ι D nt env a) (hc:ev env c=some (.bool b)):bt ι D nt (D9 c b env) a:=by
 unfold D9
 split
 .exact h.lit hc
 .exact h
theorem Qqe {D:Nat->Prop} {env:Env} {c:Operand} {b:Bool} (h:dH D env):dH D (D9 c b env):=by
 unfold D9
 split
 .exact h.put (.bool _)
 .exact h
theorem Hw (hX:oK X.P X.call) (hD:Pe X):∀ (c:Code) (n:Nat) (env:Env) (H:af) (K:eF->Env->af->Option β),eW X c n env H K=some r ->
  ∀ (ι:Io) (a:Act) (w:World),Rel ι (aK H.length) H w->bt ι (aK H.length) X.nt env a->a.defers=[]->c.wp X.P (Kb X ι H w K r) a w
 | .skip,n,env,H,K,h,ι,a,w,hR,hE,hd=>wp_skip ⟨.normal,env,ι,H,rfl,hR,hE,Fr.refl _ _ _,Ab.refl _ _,hd,h⟩
 | .label l,n,env,H,K,h,ι,a,w,hR,hE,hd=>wp_label ⟨.normal,env,ι,H,rfl,hR,hE,Fr.refl _ _ _,Ab.refl _ _,hd,h⟩
 | .region id ops d,n,env,H,K,h,ι,a,w,hR,hE,hd=>by
  unfold eW at h
  cases d with
  | false =>
   simp only at h
   refine wp_region ?_
   have:=Rj hX (Q:=Kb X ι H w K r) ops.toList 0 env H (fun k=>by simp) (by simp) h ι a w hR hE hd (fun ak ι' H' a' w' h1 h2 h3 h4 h5 h6=>⟨.normal,ak,ι',H',rfl,h1,h2,h3,h4,h5,h6⟩)
   rw [List.range_eq_range']
   simpa using this
  | true=>exact hD β id ops env H (K .normal) r h ι a w hR hE hd _ fun ak ι' H' a' w' h1 h2 h3 h4 h5 h6=>⟨.normal,ak,ι',H',rfl,h1,h2,h3,h4,h5,h6⟩
 | .seq x y,n,env,H,K,h,ι,a,w,hR,hE,hd=>by
  unfold eW at h
  refine wp_seq (wp_mono (Hw hX hD x n env H _ h ι a w hR hE hd) ?_)
  rintro ex a' w' ⟨vp,ak,ι',H',rfl,h1,h2,h3,h4,h5,h6⟩
  cases vp with
  | normal =>
   simp only at h6
   exact wp_mono (Hw hX hD y _ ak H' K h6 ι' a' w' h1 h2 h5) fun e a2 w2 hg=>hg.later h3 h4
  | exit id=>exact ⟨.exit id,ak,ι',H',rfl,h1,h2,h3,h4,h5,h6⟩
  | ret=>exact ⟨.ret,ak,ι',H',rfl,h1,h2,h3,h4,h5,h6⟩
 | .cond c x y,n,env,H,K,h,ι,a,w,hR,hE,hd=>by
  unfold eW at h
  replace h:=Q2 h;obtain ⟨v,hv,h⟩:=h
  replace h:=QZ h;obtain ⟨t,rfl,h⟩:=h
  have hc:=(Qe hE hv).cK
  rcases jx h with ⟨rfl,h⟩ | ⟨rfl,h⟩
  .exact wp_cond_true hc (Hw hX hD x _ _ H K h ι a w hR (Qm6 hE hv) hd)
  .exact wp_cond_false hc (Hw hX hD y _ _ H K h ι a w hR (Qm6 hE hv) hd)
 | .block id c,n,env,H,K,h,ι,a,w,hR,hE,hd=>by
  unfold eW at h
  refine wp_block (wp_mono (Hw hX hD c n env H _ h ι a w hR hE hd) ?_)
  rintro ex a' w' ⟨vp,ak,ι',H',rfl,h1,h2,h3,h4,h5,h6⟩
  cases vp with
  | normal=>exact ⟨.normal,ak,ι',H',rfl,h1,h2,h3,h4,h5,h6⟩
  | exit zM =>
   simp only at h6
   simp only [Ka,Exit.inBlock]
   split at h6
   .rename_i e;rw [if_pos (Z7 e)];exact ⟨.normal,ak,ι',H',rfl,h1,h2,h3,h4,h5,h6⟩
   .rename_i e;rw [if_neg (Nat.ne_of_beq_eq_false e)];exact ⟨.exit zM,ak,ι',H',rfl,h1,h2,h3,h4,h5,h6⟩
  | ret=>exact ⟨.ret,ak,ι',H',rfl,h1,h2,h3,h4,h5,h6⟩
 | .loop c,n,env,H,K,h,ι,a,w,hR,hE,hd=>by
  unfold eW at h
  replace h:=Q2 h;obtain ⟨vs,hv,h⟩:=h
  generalize hF:(fun (again:List Value->af->Option β) vs H=>A4 (X.cP n) vs fun env=>eW X c (n+1) env H fun ex ak H'=>match ex with
   | .normal=>Q1 (uP ak (X.cP n)) fun cz=>again cz H'
   | .exit id=>K (.exit id) ak H'
   | .ret=>K .ret ak H')=F at h
  refine Qi5 (fun k a' w'=>∃ cz ι' H',Rel ι' (aK H'.length) H' w'/\bt ι' (aK H'.length) X.nt (Cr (X.cP n) cz) a'/\Fr ι H w ι' H' w'/\Ab X.ai H H'/\a'.defers=[]/\B6 F k cz H'=some r) (n:=X.fuel) ?_ ?_
  .exact ⟨vs,ι,H,hR,hE.zip hv,Fr.refl _ _ _,Ab.refl _ _,hd,h⟩
  .rintro k a' w' ⟨cz,ι',H',g1,g2,g3,g4,g5,g6⟩
   cases k with
   | zero=>simp [B6] at g6
   | succ k =>
    simp only [B6] at g6
    rw [<- hF] at g6
    have g7:=VV g6
    rw [hF] at g7
    refine wp_mono (Hw hX hD c (n+1) _ H' _ g7 ι' a' w' g1 g2 g5) ?_
    rintro ex a2 w2 ⟨vp,b_,ι2,H2,rfl,k1,k2,k3,k4,k5,k6⟩
    cases vp with
    | normal =>
     simp only at k6
     replace k6:=Q2 k6;obtain ⟨vs2,IS,k6⟩:=k6
     exact ⟨k,by omega,vs2,ι2,H2,k1,k2.zip IS,g3.trans k3,g4.trans k4,k5,k6⟩
    | exit id=>exact ⟨.exit id,b_,ι2,H2,rfl,k1,k2,g3.trans k3,g4.trans k4,k5,k6⟩
    | ret=>exact ⟨.ret,b_,ι2,H2,rfl,k1,k2,g3.trans k3,g4.trans k4,k5,k6⟩
 | .exit id,n,env,H,K,h,ι,a,w,hR,hE,hd=>wp_exit ⟨.exit id,env,ι,H,rfl,hR,hE,Fr.refl _ _ _,Ab.refl _ _,hd,h⟩
 | .ret,n,env,H,K,h,ι,a,w,hR,hE,hd=>wp_ret ⟨.ret,env,ι,H,rfl,hR,hE,Fr.refl _ _ _,Ab.refl _ _,hd,h⟩
 | .rangeFunc _ _ _ _,n,env,H,K,h,ι,a,w,hR,hE,hd=>by simp [eW] at h
 | .scope _,n,env,H,K,h,ι,a,w,hR,hE,hd=>by simp [eW] at h
 | .goto _,n,env,H,K,h,ι,a,w,hR,hE,hd=>by simp [eW] at h
 | .refuse _,n,env,H,K,h,ι,a,w,hR,hE,hd=>by simp [eW] at h
theorem Hx (hX:oK X.P X.call) (hD:Pf X):∀ (c:Code) (n:Nat) (env:Env) (H:af) (K:eF->Env->af->Option β),eW X c n env H K=some r->dH (aK H.length) env->Ql H.length H ->
  ∃ ex ak H',K ex ak H'=some r/\dH (aK H'.length) ak/\Ql H'.length H'/\Ab X.ai H H'
 | .skip,n,env,H,K,h,hE,hc=>⟨.normal,env,H,h,hE,hc,Ab.refl _ _⟩
 | .label l,n,env,H,K,h,hE,hc=>⟨.normal,env,H,h,hE,hc,Ab.refl _ _⟩
 | .region id ops d,n,env,H,K,h,hE,hc=>by
  unfold eW at h
  cases d with
  | false=>obtain ⟨e,H',h1,h2⟩:=Rl hX ops.toList env H h hE hc;exact ⟨.normal,e,H',h1,h2⟩
  | true=>obtain ⟨e,H',h1,h2⟩:=hD β ops env H _ r h hE hc;exact ⟨.normal,e,H',h1,h2⟩
 | .seq x y,n,env,H,K,h,hE,hc=>by
  unfold eW at h
  obtain ⟨ex,e,H',h1,h2,h3,h4⟩:=Hx hX hD x n env H _ h hE hc
  cases ex with
  | normal =>
   obtain ⟨ex,e',H2,g1,g2,g3,g4⟩:=Hx hX hD y _ e H' K h1 h2 h3
   exact ⟨ex,e',H2,g1,g2,g3,h4.trans g4⟩
  | exit id=>exact ⟨_,e,H',h1,h2,h3,h4⟩
  | ret=>exact ⟨_,e,H',h1,h2,h3,h4⟩
 | .cond c x y,n,env,H,K,h,hE,hc=>by
  unfold eW at h
  replace h:=Q2 h;obtain ⟨v,hv,h⟩:=h
  replace h:=QZ h;obtain ⟨t,rfl,h⟩:=h
  rcases jx h with ⟨rfl,h⟩ | ⟨rfl,h⟩
  .exact Hx hX hD x _ _ H K h (Qqe hE) hc
  .exact Hx hX hD y _ _ H K h (Qqe hE) hc
 | .block id c,n,env,H,K,h,hE,hc=>by
  unfold eW at h
  obtain ⟨ex,e,H',h1,h2,h3,h4⟩:=Hx hX hD c n env H _ h hE hc
  cases ex with
  | normal=>exact ⟨_,e,H',h1,h2,h3,h4⟩
  | exit zM =>
   simp only at h1
   split at h1
   .exact ⟨_,e,H',h1,h2,h3,h4⟩
   .exact ⟨_,e,H',h1,h2,h3,h4⟩
  | ret=>exact ⟨_,e,H',h1,h2,h3,h4⟩
 | .loop c,n,env,H,K,h,hE,hc=>by
  unfold eW at h
  replace h:=Q2 h;obtain ⟨vs,hv,h⟩:=h
  generalize hF:(fun (again:List Value->af->Option β) vs H=>A4 (X.cP n) vs fun env=>eW X c (n+1) env H fun ex ak H'=>match ex with
   | .normal=>Q1 (uP ak (X.cP n)) fun cz=>again cz H'
   | .exit id=>K (.exit id) ak H'
   | .ret=>K .ret ak H')=F at h
  have VX:dH (aK H.length) (Cr (X.cP n) vs):=hE.zip hv
  clear hv hE
  generalize X.fuel=k at h
  induction k generalizing vs H with
  | zero=>simp [B6] at h
  | succ k ih =>
   simp only [B6] at h
   rw [<- hF] at h
   have g7:=VV h
   rw [hF] at g7
   obtain ⟨ex,e,H',h1,h2,h3,h4⟩:=Hx hX hD c (n+1) _ H _ g7 VX hc
   cases ex with
   | normal =>
    simp only at h1
    replace h1:=Q2 h1;obtain ⟨vs2,IS,h1⟩:=h1
    obtain ⟨ex,e',H2,g1,g2,g3,g4⟩:=ih H' h3 vs2 (h2.zip IS) h1
    exact ⟨ex,e',H2,g1,g2,g3,h4.trans g4⟩
   | exit id=>exact ⟨_,e,H',h1,h2,h3,h4⟩
   | ret=>exact ⟨_,e,H',h1,h2,h3,h4⟩
 | .exit id,n,env,H,K,h,hE,hc=>⟨.exit id,env,H,h,hE,hc,Ab.refl _ _⟩
 | .ret,n,env,H,K,h,hE,hc=>⟨.ret,env,H,h,hE,hc,Ab.refl _ _⟩
 | .rangeFunc _ _ _ _,n,env,H,K,h,hE,hc=>by simp [eW] at h
 | .scope _,n,env,H,K,h,hE,hc=>by simp [eW] at h
 | .goto _,n,env,H,K,h,hE,hc=>by simp [eW] at h
 | .refuse _,n,env,H,K,h,hE,hc=>by simp [eW] at h
end
theorem VY:∀ (l:List Value) (i s:Nat) (v:Value),cO (qx i l) s=some v->i<=s/\l[s - i]? = some v
 | [],i,s,v,h=>by simp [qx,cO] at h
 | x::l,i,s,v,h=>by
  simp only [qx] at h
  rw [uR] at h
  by_cases e:i=s
  .subst e;simp at h;subst h;simp
  .simp [e] at h
   obtain ⟨h1,h2⟩:=VY l (i+1) s v h
   refine ⟨by omega,?_⟩
   rw [show s - i=(s - (i+1))+1 by omega]
   simpa using h2
theorem Qi6 {ι:Io} {D:Nat->Prop} {vs cs:List Value} (h:aZ ι D vs cs):ay ι D (iC vs) (iC cs):=by
 unfold iC
 split
 .rename_i v
  match cs,h with
  | [c],h=>exact h.head
  | [],h=>exact absurd h.1 (by simp)
  | c::d::r,h=>exact absurd h.1 (by simp)
 .rename_i aV
  have:∀ c,cs≠[c]:=by
   rintro c rfl
   match vs,h,aV with
   | [v],_,aV=>exact aV v rfl
   | [],h,_=>exact absurd h.1 (by simp)
   | a::b::r,h,_=>exact absurd h.1 (by simp)
  split
  .rename_i c;exact absurd rfl (this c)
  .exact .tuple vs cs h.1 h.2
theorem Qm7 {D:Nat->Prop} {vs:List Value} (h:gI D vs):bL D (iC vs):=by
 unfold iC
 split
 .exact h _ (by simp)
 .exact .tuple vs fun i hi=>h _ (List.getElem_mem hi)
theorem Qfl (cs:List Value):(if h:cs.toArray.size=1 then cs.toArray[0] else .tuple cs.toArray)=iC cs:=by
 unfold iC
 split
 .rename_i h
  match cs,h with
  | [c],_=>rfl
 .rename_i h
  split
  .simp at h
  .rfl
theorem Qth {P:Program} {A:B8} {call:FuncId->List Value->Nat->af->Option (Value×af)} (hX:oK P call) (hD:∀ X:Cx,X.P=P->X.call=call->Pe X/\Pf X) {f:FuncId} {args:List Value} {ai:Nat} {H H':af} {v:Value}
  (h:Ea P A call f args ai H=some (v,H')):g_ P f args ai H v H':=by
 unfold Ea at h
 split at h
 .simp at h
 .rename_i fn hfn
  split at h
  .rename_i c hb hle DS
   have hle:=Zi hle
   generalize Pg:(⟨P,call,U8 (A.mode f) ai H.length,fn.ntmps,A.fuel,A.loops f⟩:Cx)=X at h
   have VZ:X.P=P:=by rw [<- Pg]
   have hXc:X.call=call:=by rw [<- Pg]
   have V0:X.ai=U8 (A.mode f) ai H.length:=by rw [<- Pg]
   have hXn:X.nt=fn.ntmps:=by rw [<- Pg]
   obtain ⟨hDw,hDa⟩:=hD X VZ hXc
   have OO:oK X.P X.call:=by rw [VZ,hXc];exact hX
   have V3:∀ D:Nat->Prop,gI D args->dH D (qx 0 args):=by
    intro D hl s u hs
    obtain ⟨_,h2⟩:=VY args 0 s u hs
    exact hl u (Zc h2)
   have Mq:gI (aK H.length) args->Ql H.length H->bL (aK H'.length) v/\Ab ai H H':=by
    intro hl hc
    obtain ⟨ex,ak,H2,g1,g2,g3,g4⟩:=Hx OO hDa c 0 _ H _ h (V3 _ hl) hc
    have fin:∀ {vs:List Value},iB P ak H2 fn.results.toList=some vs->(Q1 (uQ (A.mode f) H.length vs H2) fun r=>some (iC r.1,r.2))=some (v,H')->bL (aK H'.length) v/\Ab ai H H':=by
     intro vs hr hf
     replace hf:=Q2 hf;obtain ⟨⟨cz,H3⟩,hf,he⟩:=hf
     simp at he;obtain ⟨rfl,rfl⟩:=he
     have It:=Mo hr g2 g3
     unfold uQ at hf
     cases hm:A.mode f with
     | keep =>
      rw [hm] at hf;simp at hf;obtain ⟨rfl,rfl⟩:=hf
      rw [V0,hm] at g4
      exact ⟨Qm7 It,g4⟩
     | drop =>
      rw [hm] at hf;simp only at hf
      replace hf:=Q2 hf;obtain ⟨⟨vs2,olds⟩,V4,he⟩:=hf
      simp at he;obtain ⟨rfl,rfl⟩:=he
      rw [V0,hm] at g4
      obtain ⟨k1,k2⟩:=Qqd (ai:=ai) g4 hc V4
      exact ⟨Qm7 k2,k1⟩
    cases ex with
    | normal=>simp only at g1;replace g1:=Q2 g1;obtain ⟨vs,hr,g1⟩:=g1;exact fin hr g1
    | exit id=>simp at g1
    | ret=>simp only at g1;replace g1:=Q2 g1;obtain ⟨vs,hr,g1⟩:=g1;exact fin hr g1
   refine ⟨fun hl hc=>(Mq hl hc).1,fun hl hc=>(Mq hl hc).2,fun bS w=>?_,fun ι w bS hR hl=>?_⟩
   .have aV:(fn.name == "runtime.NumGoroutine")=false:=DS
    simp only [callFunc,Sem.run_bind,run_program,Result.andThen_ok,hfn,aV,Bool.false_eq_true,if_false,hb,Option.isNone_some,Sem.run_pure]
   .refine calls_of_wp hfn hb ?_
    have bf:bS.size=args.length:=by have:=hl.1;simpa using this.symm
    have hE:bt ι (aK H.length) X.nt (qx 0 args) { tmps:=bS++Array.replicate (fn.ntmps - bS.size) undef,defers:=[] }:=by
     refine ⟨by simp [hXn];omega,fun s u hs=>?_⟩
     obtain ⟨_,h2⟩:=VY args 0 s u hs
     obtain ⟨d,h3,h4⟩:=hl.get h2
     have au:s < bS.size:=by
      have:=(Z0 h2).1
      simp at this;omega
     have:(bS++Array.replicate (fn.ntmps - bS.size) undef).getD s undef=d:=by
      rw [Array.getD_eq_getD_getElem?,Array.getElem?_append_left au,<- Array.getElem?_toList]
      simp only [Nat.sub_zero] at h3
      rw [h3];rfl
     rw [this];exact h4
    have hwp:=Hw OO hDw c 0 _ H _ h ι _ w hR hE rfl
    rw [VZ] at hwp
    refine wp_mono hwp ?_
    rintro ex a' w' ⟨vp,ak,ι',H2,rfl,g1,g2,g3,g4,g5,g6⟩
    have fin:∀ {vs:List Value},iB P ak H2 fn.results.toList=some vs->(Q1 (uQ (A.mode f) H.length vs H2) fun r=>some (iC r.1,r.2))=some (v,H') ->
      a'.defers=[]/\∃ v',(results fn a'.tmps).run P w'=.ok v' w'/\∃ ι'' c',(Ending.returned v')=.returned c'/\Rel ι'' (aK H'.length) H' w'/\ay ι'' (aK H'.length) v c'/\Fr ι H w ι'' H' w':=by
     intro vs hr hf
     replace hf:=Q2 hf;obtain ⟨⟨cz,H3⟩,hf,he⟩:=hf
     simp at he;obtain ⟨rfl,rfl⟩:=he
     obtain ⟨cs,k1,k2⟩:=VQ (P:=P) g1 g2 hr
     have Hv:(results fn a'.tmps).run P w'=.ok (iC cs) w':=by
      unfold results
      rw [Array.mapM_eq_mapM_toList]
      simp only [Sem.run_bind,Sem.run_map]
      refine (congrArg (fun x=>Result.andThen (Result.andThen x _) _) k2).trans ?_
      simp only [Result.andThen_ok,Sem.run_pure]
      rw [<- Qfl]
     refine ⟨g5,iC cs,Hv,?_⟩
     unfold uQ at hf
     cases hm:A.mode f with
     | keep =>
      rw [hm] at hf;simp at hf;obtain ⟨rfl,rfl⟩:=hf
      exact ⟨ι',_,rfl,g1,Qi6 k1,g3⟩
     | drop =>
      rw [hm] at hf;simp only at hf
      replace hf:=Q2 hf;obtain ⟨⟨vs2,olds⟩,V4,he⟩:=hf
      simp at he;obtain ⟨rfl,rfl⟩:=he
      rw [V0,hm] at g4
      have fB:=g4.closed H.length (Zd _) (Zd _) hR.closed
      obtain ⟨q1,q2,q3⟩:=Qnh g1 g3 fB V4 k1
      exact ⟨_,_,rfl,q1,Qi6 q3,q2⟩
    cases vp with
    | normal=>simp only at g6;replace g6:=Q2 g6;obtain ⟨vs,hr,g6⟩:=g6;exact fin hr g6
    | exit id=>simp at g6
    | ret=>simp only at g6;replace g6:=Q2 g6;obtain ⟨vs,hr,g6⟩:=g6;exact fin hr g6
  .simp at h
def O_ (P:Program) (A:B8):Prop:=∀ f e,A.ext f=some e->∀ args ai H v H',e args ai H=some (v,H')->g_ P f args ai H v H'
theorem Qvf {P:Program} {A:B8} (hA:O_ P A) (hD:∀ X:Cx,X.P=P->oK P X.call->Pe X/\Pf X):∀ d:Nat,oK P (run P A d)
 | 0=>by intro f args ai H v H' h;simp [run] at h
 | d+1=>by
  have ih:=Qvf hA hD d
  intro f args ai H v H' h
  simp only [run] at h
  split at h
  .rename_i e he;exact hA f e he args ai H v H' h
  .exact Qth ih (fun X hP hc=>hD X hP (by rw [hc];exact ih)) h
def Bd (acc:Array Nat) (o:Oper):Nat:=o.after.foldl (fun s e=>if Region.binds .any e then s ||| 2 ^ e.on ||| acc.getD e.on 0 else s) 0
theorem Qqf (ops:Array Oper):Region.before ops=ops.toList.foldl (fun acc o=>acc.push (Bd acc o)) #[]:=by
 rw [Array.foldl_toList];rfl
theorem Qzj:∀ (l:List Oper) (acc:Array Nat),(l.foldl (fun acc o=>acc.push (Bd acc o)) acc).size=acc.size+l.length/\(∀ j,j < acc.size->(l.foldl (fun acc o=>acc.push (Bd acc o)) acc)[j]? = acc[j]?) /\
  ∀ k o,l[k]? = some o->∃ jm:Array Nat,jm.size=acc.size+k/\(∀ j,j < jm.size->(l.foldl (fun acc o=>acc.push (Bd acc o)) acc)[j]? = jm[j]?)/\(l.foldl (fun acc o=>acc.push (Bd acc o)) acc)[acc.size+k]? = some (Bd jm o)
 | [],acc=>⟨by simp,fun j _=>rfl,fun k o h=>by simp at h⟩
 | x::l,acc=>by
  obtain ⟨h1,h2,h3⟩:=Qzj l (acc.push (Bd acc x))
  simp only [List.foldl_cons]
  refine ⟨by rw [h1];simp;omega,fun j hj=>?_,fun k o hk=>?_⟩
  .rw [h2 j (by simp;omega),Array.getElem?_push,if_neg (by omega)]
  .cases k with
   | zero =>
    simp at hk;subst hk
    refine ⟨acc,by simp,fun j hj=>?_,?_⟩
    .rw [h2 j (by simp;omega),Array.getElem?_push,if_neg (by omega)]
    .rw [Nat.add_zero,h2 acc.size (by simp),Array.getElem?_push,if_pos rfl]
   | succ k =>
    obtain ⟨jm,g1,g2,g3⟩:=h3 k o (by simpa using hk)
    refine ⟨jm,by rw [g1];simp;omega,g2,?_⟩
    rw [show acc.size+(k+1)=(acc.push (Bd acc x)).size+k by simp;omega]
    exact g3
theorem Qi7 (acc:Array Nat) (i:Nat):∀ (l:List Edge) (s:Nat),(l.foldl (fun s e=>if Region.binds .any e then s ||| 2 ^ e.on ||| acc.getD e.on 0 else s) s).testBit i=true ->
  s.testBit i=true\/∃ e∈l,Region.binds .any e=true/\(e.on=i\/(acc.getD e.on 0).testBit i=true)
 | [],s,h=>.inl h
 | e::l,s,h=>by
  simp only [List.foldl_cons] at h
  rcases Qi7 acc i l _ h with h | ⟨e',h1,h2⟩
  .split at h
   .rename_i hb
    simp only [Nat.testBit_or,Bool.or_eq_true,Nat.testBit_two_pow,Zj] at h
    rcases h with (h | h) | h
    .exact .inl h
    .exact .inr ⟨e,by simp,hb,.inl h⟩
    .exact .inr ⟨e,by simp,hb,.inr h⟩
   .exact .inl h
  .exact .inr ⟨e',List.mem_cons_of_mem _ h1,h2⟩
theorem Qtj {ops:Array Oper} {j i:Nat} (h:iA (Region.before ops) j i=true):∃ o e,ops[j]? = some o/\e∈o.after.toList/\Region.binds .any e=true/\(e.on=i\/iA (Region.before ops) e.on i=true):=by
 obtain ⟨h1,_,h3⟩:=Qzj ops.toList #[]
 rw [<- Qqf] at h1 h3
 unfold iA at h
 cases hj:ops[j]? with
 | none =>
  have au:ops.size<=j:=by
   by_cases au:j < ops.size
   .rw [Array.getElem?_eq_getElem au] at hj;simp at hj
   .omega
  have:(Region.before ops).getD j 0=0:=by
   rw [Array.getD_eq_getD_getElem?,Array.getElem?_eq_none (by rw [h1];simp;omega)];rfl
  rw [this] at h;simp at h
 | some o =>
  obtain ⟨jm,g1,g2,g3⟩:=h3 j o (by rw [Array.getElem?_toList];exact hj)
  simp only [List.size_toArray,Zb,Zo] at g1 g3
  have e1:(Region.before ops).getD j 0=Bd jm o:=by rw [Array.getD_eq_getD_getElem?,g3];rfl
  rw [e1] at h
  unfold Bd at h
  rw [<- Array.foldl_toList] at h
  rcases Qi7 jm i o.after.toList 0 h with h | ⟨e,k1,k2,k3⟩
  .simp at h
  .refine ⟨o,e,rfl,k1,k2,?_⟩
   rcases k3 with k3 | k3
   .exact .inl k3
   .right
    unfold iA
    by_cases hl:e.on < jm.size
    .have:(Region.before ops).getD e.on 0=jm.getD e.on 0:=by rw [Array.getD_eq_getD_getElem?,Array.getD_eq_getD_getElem?,g2 _ hl]
     rw [this];exact k3
    .rw [Array.getD_eq_getD_getElem?,Array.getElem?_eq_none (by omega)] at k3;simp at k3
section
variable {X:Cx} {β:Type} {r:β} {o:Oper} {env:Env} {H:af}
def nZ (o:Oper):List Tmp:=o.op.operands.toList.filterMap fun | .tmp t=>some t | _=>none
def bK (ts:List Tmp) (env:Env):Env:=env.filter fun p=>ts.contains p.1
theorem V5 {ts:List Tmp}:∀ {env:Env} {t:Nat},t∈ts->cO (bK ts env) t=cO env t
 | [],t,h=>rfl
 | (s,v)::env,t,h=>by
  have ih:=V5 (ts:=ts) (env:=env) h
  unfold bK at ih ⊢
  rw [List.filter_cons]
  by_cases e:s=t
  .subst e
   have:ts.contains s=true:=by simpa using h
   rw [if_pos this,uR,uR,if_pos rfl,if_pos rfl]
  .rw [uR,if_neg e]
   split
   .rw [uR,if_neg e];exact ih
   .exact ih
theorem V6 {ts:List Tmp}:∀ {env:Env} {t:Nat} {v:Value},cO (bK ts env) t=some v->t∈ts/\cO env t=some v
 | [],t,v,h=>by simp [bK,cO] at h
 | (s,u)::env,t,v,h=>by
  by_cases ht:t∈ts
  .exact ⟨ht,by rw [<- V5 ht];exact h⟩
  .exfalso
   unfold bK at h
   rw [List.filter_cons] at h
   have ih:=fun h=>ht (V6 (ts:=ts) (env:=env) (t:=t) (v:=v) h).1
   split at h
   .rename_i hc
    rw [uR] at h
    by_cases e:s=t
    .subst e;exact ht (by simpa using hc)
    .rw [if_neg e] at h;exact ih h
   .exact ih h
theorem Mr {x:Operand} (h:x∈o.op.operands.toList):ev (bK (nZ o) env) x=ev env x:=by
 cases x with
 | tmp t =>
  simp only [ev]
  exact V5 (by unfold nZ;rw [List.mem_filterMap];exact ⟨_,h,rfl⟩)
 | const v=>rfl
 | global g=>rfl
 | func f=>rfl
theorem Ph:∀ {xs:List Operand},(∀ x∈xs,x∈o.op.operands.toList)->eV (bK (nZ o) env) xs=eV env xs
 | [],_=>rfl
 | x::xs,h=>by
  simp only [eV]
  rw [Mr (h x (by simp)),Ph fun y hy=>h y (List.mem_cons_of_mem _ hy)]
theorem V7:∀ {xs:List (Nat×Operand)},(∀ x∈xs,x.2∈o.op.operands.toList)->om (bK (nZ o) env) xs=om env xs
 | [],_=>rfl
 | (i,x)::xs,h=>by
  simp only [om]
  rw [Mr (h (i,x) (by simp)),V7 fun y hy=>h y (List.mem_cons_of_mem _ hy)]
theorem Q8j {x:Option Operand} {d:Nat} {K:Nat->Option β} (h:∀ y,x=some y->y∈o.op.operands.toList):l_ (bK (nZ o) env) x d K=l_ env x d K:=by
 cases x with
 | none=>rfl
 | some y=>simp only [l_];rw [Mr (h y rfl)]
theorem Qni (K:Value->af->Option β):dj X o (bK (nZ o) env) H K=dj X o env H K:=by
 have aJ:∀ {op:Op},o.op=op->∀ x,x∈op.operands.toList->ev (bK (nZ o) env) x=ev env x:=fun e x hx=>Mr (by rw [e];exact hx)
 unfold dj
 cases ho:o.op with
 | move x=>simp only [aJ ho x (by simp [Op.operands])]
 | assign x=>simp only [aJ ho x (by simp [Op.operands])]
 | pick c a b=>simp only [aJ ho c (by simp [Op.operands]),aJ ho a (by simp [Op.operands]),aJ ho b (by simp [Op.operands])]
 | box t x=>simp only [aJ ho x (by simp [Op.operands])]
 | build t ps =>
  simp only
  rw [V7]
  intro x hx;rw [ho];simp only [Op.operands,List.mem_map]
  exact ⟨x,hx,rfl⟩
 | buildSlice t n ps =>
  simp only
  rw [V7]
  intro x hx;rw [ho];simp only [Op.operands,List.mem_map]
  exact ⟨x,hx,rfl⟩
 | load t x=>simp only [aJ ho x (by simp [Op.operands])]
 | store t x y=>simp only [aJ ho x (by simp [Op.operands]),aJ ho y (by simp [Op.operands])]
 | nilCheck x=>simp only [aJ ho x (by simp [Op.operands])]
 | binOp op t x y t'=>simp only [aJ ho x (by simp [Op.operands]),aJ ho y (by simp [Op.operands])]
 | unOp op t x=>simp only [aJ ho x (by simp [Op.operands])]
 | convert s d x=>simp only [aJ ho x (by simp [Op.operands])]
 | makeFunc fn first cap =>
  cases fn with
  | func f =>
   simp only
   rw [Ph (xs:=first.toList),Ph (xs:=cap.toList)]
   .intro x hx;rw [ho];simp [Op.operands];exact .inr (by simpa using hx)
   .intro x hx;rw [ho];simp [Op.operands];exact .inl (by simpa using hx)
  | _=>rfl
 | makeSlice t x y=>simp only [aJ ho x (by simp [Op.operands]),aJ ho y (by simp [Op.operands])]
 | slice t x lo hi mx =>
  cases mx with
  | none =>
   simp only [aJ ho x (by simp [Op.operands])]
   have b1:∀ (d:Nat) (K:Nat->Option β),l_ (bK (nZ o) env) hi d K=l_ env hi d K:=fun d K=>Q8j (fun y e=>by rw [ho,e];simp [Op.operands])
   have b2:∀ (d:Nat) (K:Nat->Option β),l_ (bK (nZ o) env) lo d K=l_ env lo d K:=fun d K=>Q8j (fun y e=>by rw [ho,e];simp [Op.operands])
   simp only [b1,b2]
  | some y=>rfl
 | fieldAddr t x f=>simp only [aJ ho x (by simp [Op.operands])]
 | field t x f=>simp only [aJ ho x (by simp [Op.operands])]
 | indexAddr t x y=>simp only [aJ ho x (by simp [Op.operands]),aJ ho y (by simp [Op.operands])]
 | index t x y=>simp only [aJ ho x (by simp [Op.operands]),aJ ho y (by simp [Op.operands])]
 | extract x i=>simp only [aJ ho x (by simp [Op.operands])]
 | call c =>
  have hargs:eV (bK (nZ o) env) c.args.toList=eV env c.args.toList:=Ph fun x hx=>by
   rw [ho];simp only [Op.operands,Call.operands,Array.toList_append,Zh];exact .inr hx
  simp only [hargs]
  cases hc:c.callee with
  | builtin b=>rfl
  | value f =>
   simp only
   rw [aJ ho f (by simp [Op.operands,Call.operands,hc])]
  | invoke x m=>rfl
 | _=>rfl
theorem Qtk {P:Program} {o:Op} {env:Env} {G H:af} {z:Nat} {t:Tmp} {v:Value} (h:OR o=some t) (hv:cO env t=some v) (hz:Ii v=some z) (g:ah G z=ah H z):cU P o env G=cU P o env H:=by
 unfold OR at h
 split at h
 .rename_i ty t'
  simp at h;subst h
  unfold cU
  simp only [JT (show ev env (.tmp t')=some v from hv),ev,hv,Q1]
  cases v<;>simp only [eY]
  rename_i p
  cases p with
  | none=>rfl
  | some p =>
   simp only [Ii,Option.some.injEq] at hz;subst hz
   simp only
   unfold Qx gz
   rw [g]
 .rename_i a b t'
  simp at h;subst h
  unfold cU
  simp only [ev,hv,Q1]
  cases v<;>try (first | rfl | (simp [Ii] at hz;done))
  rename_i p n c
  cases p with
  | none=>simp [Ii] at hz
  | some p =>
   simp only [Ii,Option.some.injEq] at hz;subst hz
   have:fK G p (n*1)=fK H p (n*1):=by
    cases n*1 with
    | zero=>rfl
    | succ q=>simp only [fK];unfold Qx;rw [g]
   simp only [Qf,this]
 .simp at h
theorem Qdk {P:Program} {G:af}:cU P o.op (bK (nZ o) env) G=cU P o.op env G:=by
 have aJ:∀ {op:Op},o.op=op->∀ x,x∈op.operands.toList->ev (bK (nZ o) env) x=ev env x:=fun e x hx=>Mr (by rw [e];exact hx)
 unfold cU
 cases ho:o.op with
 | load t x=>simp only [aJ ho x (by simp [Op.operands])]
 | convert s d x=>simp only [aJ ho x (by simp [Op.operands])]
 | _=>rfl
def Jk (ops:Array Oper) (o:Oper):List Tmp:=match o.guard with
 | some (g,_)=>((ops[g]?).bind (·.dst)).toList
 | none=>[]
theorem Qdl (ops:Array Oper) (o:Oper):o.looksAt ops=nZ o++Jk ops o:=rfl
structure vb (ι:Io) (D:Nat->Prop) (nt:Nat) (ts:List Tmp) (env:Env) (a:Act):Prop where
 size:a.tmps.size=nt
 get:∀ s∈ts,∀ v,cO env s=some v->ay ι D v (a.tmps.getD s undef)
theorem vb.bK {ι:Io} {D:Nat->Prop} {nt:Nat} {ts:List Tmp} {env:Env} {a:Act} (h:vb ι D nt ts env a):bt ι D nt (bK ts env) a :=
 ⟨h.size,fun s v hs=>by obtain ⟨h1,h2⟩:=V6 hs;exact h.get s h1 v h2⟩
def Qvg (nt:Nat) (ops:Array Oper) (o:Oper) (env:Env) (t:Bool):Prop :=
 ∀ (ι:Io) (D:Nat->Prop) (a:Act),vb ι D nt (Jk ops o) env a->Region.wanted o (yielded ops a.tmps)=t
theorem Qk6 {nt:Nat} {ops:Array Oper} {K:Bool->Env->Option β} (h:C' ops o env K=some r):∃ t ak,K t ak=some r/\(∀ s,cO ak s=cO env s)/\Qvg nt ops o env t:=by
 unfold C' at h
 split at h
 .rename_i hg
  exact ⟨true,env,h,fun _=>rfl,fun ι D a hE=>by simp [Region.wanted,hg]⟩
 .rename_i j want hg
  split at h
  .rename_i d hd
   replace h:=Q2 h;obtain ⟨v,hv,h⟩:=h
   have hy:∀ (ι:Io) (D:Nat->Prop) (a:Act),vb ι D nt (Jk ops o) env a->yielded ops a.tmps j=match v with | .bool b=>some b | _=>none:=by
    intro ι D a hE
    have hr:=hE.get d (by simp [Jk,hg,hd]) v hv
    unfold yielded
    rw [hd]
    simp only [Option.bind_some]
    by_cases au:d < a.tmps.size
    .rw [Array.getElem?_eq_getElem au]
     have e:a.tmps.getD d undef=a.tmps[d]:=by simp [Array.getD,au]
     rw [e] at hr
     generalize a.tmps[d]=c at hr ⊢
     cases hr<;>rfl
    .rw [Array.getElem?_eq_none (Nat.le_of_not_lt au)]
     have e:a.tmps.getD d undef=undef:=by simp [Array.getD,au]
     rw [e] at hr
     cases hr<;>rfl
   have dy:∀ b,v=.bool b->∀ s,cO ((d,.bool b)::env) s=cO env s:=by
    intro b e s
    rw [uR]
    by_cases hs:d=s
    .subst hs;rw [if_pos rfl,hv,e]
    .rw [if_neg hs]
   split at h
   .rename_i b
    rcases jx h with ⟨rfl,h⟩ | ⟨rfl,h⟩
    .refine ⟨_,_,h,dy _ rfl,fun ι D a hE=>?_⟩
     simp only [Region.wanted,hg,hy ι D a hE]
     cases want<;>rfl
    .refine ⟨_,_,h,dy _ rfl,fun ι D a hE=>?_⟩
     simp only [Region.wanted,hg,hy ι D a hE]
     cases want<;>rfl
   .rename_i Ri
    refine ⟨_,_,h,fun _=>rfl,fun ι D a hE=>?_⟩
    simp only [Region.wanted,hg,hy ι D a hE]
    cases v<;>first | rfl | exact absurd rfl (Ri _)
  .simp at h
structure St where
 dY:Env
 env:Env
 H:af
 t:Bool
 v:Value
structure qG (X:Cx) (ops:Array Oper) (o:Oper) (s s':St):Prop where
 same:∀ q,cO s.env q=cO s.dY q
 guard:Qvg X.nt ops o s.dY s.t
 yes:s.t=true->jy X o (bK (nZ o) s.env) s.H s.v s'.H
 no:s.t=false->s.v=undef/\s'.H=s.H
 put:(o.dst=none/\s'.dY=s.env)\/∃ d,o.dst=some d/\d < X.nt/\s'.dY=(d,s.v)::s.env
theorem Q9z (hX:oK X.P X.call) {ops:Array Oper} {K:List (Env×af)->Env->af->Option β}:∀ (l:List Oper) (env:Env) (H:af) (tr:List (Env×af)),zL X ops l env H tr K=some r ->
  ∃ S:Nat->St,(S 0).dY=env/\(S 0).H=H/\(S l.length).env=(S l.length).dY/\(∀ k o,l[k]? = some o->qG X ops o (S k) (S (k+1))) /\
   K (((List.range (l.length+1)).map fun k=>((S k).env,(S k).H)).reverse++tr) (S l.length).dY (S l.length).H=some r
 | [],env,H,tr,h=>by
  refine ⟨fun _=>⟨env,env,H,true,undef⟩,rfl,rfl,rfl,fun k o hk=>by simp at hk,?_⟩
  unfold zL at h
  simpa using h
 | o::l,env,H,tr,h=>by
  unfold zL at h
  obtain ⟨t,fQ,h,dy,hg⟩:=Qk6 (nt:=X.nt) h
  have fin:∀ (v:Value) (H':af) (b_:Env),(t=true->jy X o (bK (nZ o) fQ) H v H')->(t=false->v=undef/\H'=H) ->
    ((o.dst=none/\b_=fQ)\/∃ d,o.dst=some d/\d < X.nt/\b_=(d,v)::fQ)->zL X ops l b_ H' ((fQ,H)::tr) K=some r ->
    ∃ S:Nat->St,(S 0).dY=env/\(S 0).H=H/\(S (o::l).length).env=(S (o::l).length).dY/\(∀ k q,(o::l)[k]? = some q->qG X ops q (S k) (S (k+1))) /\
     K (((List.range ((o::l).length+1)).map fun k=>((S k).env,(S k).H)).reverse++tr) (S (o::l).length).dY (S (o::l).length).H=some r:=by
   intro v H' b_ h1 h2 h3 h4
   obtain ⟨S,g1,g2,g3,g4,g5⟩:=Q9z hX l b_ H' _ h4
   refine ⟨fun k=>match k with | 0=>⟨env,fQ,H,t,v⟩ | k+1=>S k,rfl,rfl,g3,fun k q hk=>?_,?_⟩
   .cases k with
    | zero =>
     simp at hk;subst hk
     exact ⟨dy,hg,fun e=>by simp only [g2];exact h1 e,fun e=>by simp only [g2];exact h2 e,by simp only [g1];exact h3⟩
    | succ k=>exact g4 k q (by simpa using hk)
   .have:((List.range ((o::l).length+1)).map fun k=>(((fun k=>match k with | 0=>(⟨env,fQ,H,t,v⟩:St) | k+1=>S k) k).env,((fun k=>match k with | 0=>(⟨env,fQ,H,t,v⟩:St) | k+1=>S k) k).H))=(fQ,H)::((List.range (l.length+1)).map fun k=>((S k).env,(S k).H)):=by
     rw [Z9,List.range_succ_eq_map,List.map_cons,List.map_map]
     rfl
    rw [this]
    simpa using g5
  cases t with
  | true =>
   simp only at h
   rw [<- Qni] at h
   obtain ⟨v,H',h,hF⟩:=Q_ hX h
   obtain ⟨b_,h,hp⟩:=C9 h
   exact fin v H' b_ (fun _=>hF) (fun e=>by simp at e) hp h
  | false =>
   simp only at h
   obtain ⟨b_,h,hp⟩:=C9 h
   exact fin undef H b_ (fun e=>by simp at e) (fun _=>⟨rfl,rfl⟩) hp h
theorem Qbp {x y:Value} (h:Qa x y=true):x=y:=by
 unfold Qa at h
 split at h
 .simp at h;rw [h]
 .simp at h;rw [h.1,h.2]
 .rename_i a b
  simp only [beq_iff_eq] at h
  have:a=b:=by
   rw [ByteArray.toList_eq,ByteArray.toList_eq] at h
   obtain ⟨⟨x⟩⟩:=a;obtain ⟨⟨y⟩⟩:=b
   simp at h;rw [h]
  rw [this]
 .simp at h;rw [h]
 .simp at h;rw [h.1.1,h.1.2,h.2]
 .rfl
 .rfl
 .simp at h;rw [h]
 .simp at h
theorem Qi8:∀ {x y:List Value},A5 x y=true->x=y
 | [],[],_=>rfl
 | [],_::_,h=>by simp [A5] at h
 | _::_,[],h=>by simp [A5] at h
 | a::x,b::y,h=>by
  simp only [A5,Z8] at h
  rw [Qbp h.1,Qi8 h.2]
theorem Qqg {x y:Option Value} (h:jF x y=true):x=y:=by
 unfold jF at h
 split at h
 .rfl
 .rename_i xs ys
  have:=Qi8 h
  obtain ⟨xs⟩:=xs;obtain ⟨ys⟩:=ys
  simp at this;rw [this]
 .rw [Qbp h]
 .simp at h
theorem V8 {P:Program} {ops:Array Oper} {jk:List (Env×af)} {i:Nat} {o:Oper} {x:Option β}:∀ {ms:List Nat},GY P ops jk i o ms x=some r ->
  x=some r/\∀ m∈ms,(I7 P ops m i || I8 P ops i o m)=true\/∃ s q,jk[i]? = some s/\jk[m]? = some q/\cU P o.op s.1 q.2=cU P o.op s.1 s.2
 | [],h=>⟨h,by simp⟩
 | m::ms,h=>by
  unfold GY at h
  split at h
  .rename_i hq
   obtain ⟨h1,h2⟩:=V8 h
   exact ⟨h1,fun k hk=>by
    rcases Z2 hk with rfl | hk
    .exact .inl hq
    .exact h2 k hk⟩
  .split at h
   .rename_i s q hs hq
    rcases jx h with ⟨e,h⟩ | ⟨_,h⟩
    .obtain ⟨h1,h2⟩:=V8 h
     exact ⟨h1,fun k hk=>by
      rcases Z2 hk with rfl | hk
      .exact .inr ⟨s,q,hs,hq,Qqg e⟩
      .exact h2 k hk⟩
    .simp at h
   .simp at h
theorem Pj {P:Program} {ops:Array Oper} {jk:List (Env×af)} {x:Option β}:∀ {l:List Nat},cv P ops jk l x=some r ->
  x=some r/\∀ i∈l,cJ P ops i=1->∀ o,ops[i]? = some o->∀ m∈GX P ops i,(I7 P ops m i || I8 P ops i o m)=true\/∃ s q,jk[i]? = some s/\jk[m]? = some q/\cU P o.op s.1 q.2=cU P o.op s.1 s.2
 | [],h=>⟨h,by simp⟩
 | i::l,h=>by
  unfold cv at h
  split at h
  .rename_i o hc ho
   obtain ⟨h1,h2⟩:=V8 h
   obtain ⟨h3,h4⟩:=Pj h1
   refine ⟨h3,fun k hk rW o' qE=>?_⟩
   rcases Z2 hk with rfl | hk
   .rw [ho] at qE;simp at qE;subst qE;exact h2
   .exact h4 k hk rW o' qE
  .rename_i aV
   obtain ⟨h3,h4⟩:=Pj h
   refine ⟨h3,fun k hk rW o' qE=>?_⟩
   rcases Z2 hk with rfl | hk
   .exact absurd qE (aV o' (by rw [rW];rfl))
   .exact h4 k hk rW o' qE
end
structure bG (X:Cx) (ops:Array Oper) (S:Nat->St):Prop where
 step:∀ k o,ops[k]? = some o->qG X ops o (S k) (S (k+1))
 ok:LF X.P ops=true
 Ms:dH (aK (S 0).H.length) (S 0).dY
 closed:Ql (S 0).H.length (S 0).H
section
variable {X:Cx} {ops:Array Oper} {S:Nat->St}
theorem Ad {i:Nat} (h:i < ops.size):∃ o,ops[i]? = some o:=⟨ops[i],Array.getElem?_eq_getElem h⟩
theorem oD {i:Nat} {o:Oper} (h:ops[i]? = some o):i < ops.size:=(Array.getElem?_eq_some_iff.1 h).1
theorem Mt {P:Program} {i:Nat} {o:Oper} (h:ops[i]? = some o):cJ P ops i=fY P o.op:=by simp [cJ,h]
theorem Qtl {P:Program} {i:Nat} (h:¬ i < ops.size):cJ P ops i=0:=by
 unfold cJ;rw [Array.getElem?_eq_none (by omega)]
theorem Qvh (P:Program) (op:Op):fY P op<=3:=by
 unfold fY
 split<;>first | omega | (split<;>omega)
theorem dH.bK {D:Nat->Prop} {env:Env} {ts:List Tmp} (h:dH D env):dH D (bK ts env):=fun s v hs=>h s v (V6 hs).2
theorem bG.abs (h:bG X ops S):∀ i,i<=ops.size->dH (aK (S i).H.length) (S i).dY/\Ql (S i).H.length (S i).H/\Ab X.ai (S 0).H (S i).H
 | 0,_=>⟨h.Ms,h.closed,Ab.refl _ _⟩
 | i+1,hi=>by
  obtain ⟨h1,h2,h3⟩:=h.abs i (by omega)
  obtain ⟨o,ho⟩:=Ad (ops:=ops) (i:=i) (by omega)
  have hs:=h.step i o ho
  have hE:dH (aK (S i).H.length) (S i).env:=fun s v hv=>h1 s v (by rw [<- hs.same];exact hv)
  have key:Ab X.ai (S i).H (S (i+1)).H/\bL (aK (S (i+1)).H.length) (S i).v:=by
   cases ht:(S i).t with
   | true=>exact NV (hs.yes ht) hE.bK h2
   | false=>obtain ⟨e1,e2⟩:=hs.no ht;rw [e1,e2];exact ⟨Ab.refl _ _,JY _⟩
  exact ⟨J_ (hE.mono (aK.mono key.1.len)) key.2 hs.put,key.1.all h2,h3.trans key.1⟩
theorem bG.Ae (h:bG X ops S) {i:Nat} (hi:i < ops.size):dH (aK (S i).H.length) (S i).env:=by
 obtain ⟨o,ho⟩:=Ad hi
 exact fun s v hv=>(h.abs i (by omega)).1 s v (by rw [<- (h.step i o ho).same];exact hv)
theorem bG.n_ (h:bG X ops S) {i:Nat} (hi:i < ops.size):(S i).H.length<=(S (i+1)).H.length:=by
 obtain ⟨o,ho⟩:=Ad hi
 have hs:=h.step i o ho
 cases ht:(S i).t with
 | true=>exact (NV (hs.yes ht) (h.Ae hi).bK (h.abs i (by omega)).2.1).1.len
 | false=>rw [(hs.no ht).2];exact Zd _
theorem bG.bR (h:bG X ops S) {m:Nat}:∀ {i:Nat},m<=i->i<=ops.size->(S m).H.length<=(S i).H.length
 | 0,h1,_=>by rw [Nat.le_zero.1 h1];exact Zd _
 | i+1,h1,h2=>by
  by_cases e:m=i+1
  .subst e;exact Zd _
  .exact Nat.le_trans (h.bR (by omega) (by omega)) (h.n_ (by omega))
theorem bG.quiet (h:bG X ops S) {i:Nat} (hi:i < ops.size) (hc:cJ X.P ops i≠3) :
  ((S (i+1)).H=(S i).H)\/(cJ X.P ops i=2/\(S i).t=true/\∃ vs,(S (i+1)).H=de (S i).H vs):=by
 obtain ⟨o,ho⟩:=Ad hi
 have hs:=h.step i o ho
 have cA:=Mt (P:=X.P) ho
 cases ht:(S i).t with
 | false=>exact .inl (hs.no ht).2
 | true =>
  have hF:=hs.yes ht
  unfold jy at hF
  split at hF
  .exact .inl hF.1
  .exact .inl hF.1
  .rename_i Bu;obtain ⟨vs,mk,_,e,_⟩:=hF;exact .inr ⟨by rw [cA];exact Bu,rfl,vs,e⟩
  .rename_i h0 h1 h2
   have hle:=Qvh X.P o.op
   rw [cA] at hc
   exact absurd hF (by
    intro _
    have:fY X.P o.op=0\/fY X.P o.op=1\/fY X.P o.op=2:=by omega
    rcases this with e | e | e
    .exact h0 e
    .exact h1 e
    .exact h2 e)
theorem bG.dF (h:bG X ops S) {i:Nat} (hi:i < ops.size) (hc:cJ X.P ops i=2) (ht:(S i).t=true):(S (i+1)).H.length=(S i).H.length+1:=by
 obtain ⟨o,ho⟩:=Ad hi
 have hF:=(h.step i o ho).yes ht
 have cA:=Mt (P:=X.P) ho
 rw [hc] at cA
 unfold jy at hF
 rw [<- cA] at hF
 obtain ⟨vs,mk,_,e,_⟩:=hF
 rw [e,Qy]
theorem bG.keep (h:bG X ops S) {m:Nat}:∀ {i:Nat},m<=i->i<=ops.size->(∀ k,m<=k->k < i->cJ X.P ops k≠3)->∀ x,x < (S m).H.length->ah (S i).H x=ah (S m).H x
 | 0,h1,_,_,x,hx=>by rw [Nat.le_zero.1 h1]
 | i+1,h1,h2,h3,x,hx=>by
  by_cases e:m=i+1
  .subst e;rfl
  .have ih:=h.keep (i:=i) (by omega) (by omega) (fun k h4 h5=>h3 k h4 (by omega)) x hx
   rcases h.quiet (i:=i) (by omega) (h3 i (by omega) (by omega)) with e | ⟨_,_,vs,e⟩
   .rw [e,ih]
   .have:=h.bR (m:=m) (i:=i) (by omega) (by omega)
    rw [e,Vd (by omega),ih]
theorem bG.made (h:bG X ops S) {m:Nat}:∀ {e:Nat},m<=e->e<=ops.size->(∀ k,m<=k->k < e->cJ X.P ops k≠3)->∀ x,(S m).H.length<=x->x < (S e).H.length ->
  ∃ i,m<=i/\i < e/\cJ X.P ops i=2/\(S i).t=true/\x=(S i).H.length/\ah (S (i+1)).H x=ah (S e).H x
 | 0,h1,_,_,x,hx,mB=>by rw [Nat.le_zero.1 h1] at hx;omega
 | e+1,h1,h2,h3,x,hx,mB=>by
  by_cases he:m=e+1
  .subst he;omega
  .rcases h.quiet (i:=e) (by omega) (h3 e (by omega) (by omega)) with q | ⟨hc,ht,vs,q⟩
   .rw [q] at mB
    obtain ⟨i,g1,g2,g3,g4,g5,g6⟩:=h.made (e:=e) (by omega) (by omega) (fun k h4 h5=>h3 k h4 (by omega)) x hx mB
    exact ⟨i,g1,by omega,g3,g4,g5,by rw [g6,q]⟩
   .by_cases hxe:x < (S e).H.length
    .obtain ⟨i,g1,g2,g3,g4,g5,g6⟩:=h.made (e:=e) (by omega) (by omega) (fun k h4 h5=>h3 k h4 (by omega)) x hx hxe
     exact ⟨i,g1,by omega,g3,g4,g5,by rw [g6,q,Vd hxe]⟩
    .rw [q,Qy] at mB
     exact ⟨e,by omega,by omega,hc,ht,by omega,rfl⟩
def oa (ops:Array Oper) (j:Nat):Option Tmp:=(ops[j]?).bind (·.dst)
theorem bG.look (h:bG X ops S) {q k:Nat}:∀ {i:Nat},k<=i->i<=ops.size->(∀ j,k<=j->j < i->oa ops j≠some q)->cO (S i).dY q=cO (S k).dY q
 | 0,h1,_,_=>by rw [Nat.le_zero.1 h1]
 | i+1,h1,h2,h3=>by
  by_cases e:k=i+1
  .subst e;rfl
  .have ih:=h.look (i:=i) (by omega) (by omega) (fun j h4 h5=>h3 j h4 (by omega))
   obtain ⟨o,ho⟩:=Ad (ops:=ops) (i:=i) (by omega)
   have hs:=h.step i o ho
   have aV:=h3 i (by omega) (by omega)
   have hd:o.dst≠some q:=by simpa [oa,ho] using aV
   rcases hs.put with ⟨_,e⟩ | ⟨d,ot,_,e⟩
   .rw [e,hs.same,ih]
   .rw [e,uR,if_neg (fun e=>hd (by rw [ot,e])),hs.same,ih]
theorem bG.wrote (h:bG X ops S) {q k i:Nat} (hk:k < i) (hi:i<=ops.size) (hd:oa ops k=some q) (hn:∀ j,k < j->j < i->oa ops j≠some q):cO (S i).dY q=some (S k).v/\q < X.nt:=by
 obtain ⟨o,ho⟩:=Ad (ops:=ops) (i:=k) (by omega)
 have hs:=h.step k o ho
 have ot:o.dst=some q:=by simpa [oa,ho] using hd
 rw [h.look (k:=k+1) (by omega) hi (fun j h1 h2=>hn j (by omega) h2)]
 rcases hs.put with ⟨e,_⟩ | ⟨d,e,au,e'⟩
 .rw [e] at ot;simp at ot
 .rw [e] at ot;simp at ot;subst ot
  exact ⟨by rw [e',uR,if_pos rfl],au⟩
theorem bG.pair (h:bG X ops S) {i j:Nat} (nh:i < j) (hj:j < ops.size):iA (Region.before ops) j i=true\/(¬ (cJ X.P ops j=3/\2<=cJ X.P ops i)/\∃ x y,ops[i]? = some x/\ops[j]? = some y/\x.apart ops y=true):=by
 have c_:=h.ok
 unfold LF at c_
 simp only [List.all_eq_true,List.mem_range,Z8] at c_
 have:=(c_ j hj).2 i nh
 unfold Qv7 at this
 rcases Bool.or_eq_true_iff.1 this with h1 | h1
 .exact .inl h1
 .right
  simp only [Z8,Bool.not_eq_true'] at h1
  obtain ⟨h2,h3⟩:=h1
  refine ⟨fun ⟨e1,e2⟩=>?_,?_⟩
  .rw [e1] at h2
   have:Nat.ble 2 (cJ X.P ops i)=true:=Nat.ble_eq_true_of_le e2
   rw [this] at h2;simp at h2
  .split at h3
   .rename_i x y hx hy;exact ⟨x,y,hx,hy,h3⟩
   .simp at h3
theorem bG.Mu (h:bG X ops S) {j:Nat} {o:Oper} (ho:ops[j]? = some o):∀ e∈o.after.toList,Region.binds .any e=true->e.on < j:=by
 have c_:=h.ok
 unfold LF at c_
 simp only [List.all_eq_true,List.mem_range,Z8] at c_
 have:=(c_ j (oD ho)).1
 unfold Qpw at this
 rw [ho] at this
 simp only [List.all_eq_true] at this
 intro e he hb
 have:=this e he
 rw [hb] at this
 have h2:e.on+1<=j:=by simpa [Nat.blt] using this
 exact h2
def gH (X:Cx) (ops:Array Oper) (S:Nat->St) (m:Nat) (L:Nat->Prop) (x:Nat):Prop :=
 x < (S m).H.length\/∃ i,m<=i/\i < ops.size/\L i/\cJ X.P ops i=2/\(S i).t=true/\x=(S i).H.length
structure Inv (X:Cx) (ops:Array Oper) (S:Nat->St) (ι₀:Io) (w₀:World) (L:Nat->Prop) (ι:Io) (G:af) (m:Nat) (a:Act) (w:World):Prop where
 Jl:m<=ops.size
 dZ:∀ e,e < ops.size->cJ X.P ops e=3->(L e↔e < m)
 last:m=0\/cJ X.P ops (m - 1)=3
 down:∀ j i,L j->iA (Region.before ops) j i=true->L i
 Pm:∀ j,L j->j < ops.size
 len:G.length=(S ops.size).H.length
 old:∀ x,x < (S m).H.length->ah G x=ah (S m).H x
 oc:∀ i,m<=i->i < ops.size->L i->cJ X.P ops i=2->(S i).t=true->ah G (S i).H.length=ah (S (i+1)).H (S i).H.length
 dead:∀ x,(S m).H.length<=x->x < (S ops.size).H.length->(∀ i,m<=i->i < ops.size->L i->cJ X.P ops i=2->(S i).t=true->x≠(S i).H.length)->G[x]? = some none
 rel:Rel ι (gH X ops S m L) G w
 fr:Fr ι₀ (S 0).H w₀ ι G w
 size:a.tmps.size=X.nt
 env:∀ q i,i<=ops.size->(∀ j,j < ops.size->oa ops j=some q->(L j↔j < i))->∀ v,cO (S i).dY q=some v->ay ι (gH X ops S m L) v (a.tmps.getD q undef)
 defers:a.defers=[]
variable {ι₀:Io} {w₀:World} {L:Nat->Prop} {ι:Io} {G:af} {m:Nat} {a:Act} {w:World}
structure Next (ops:Array Oper) (L:Nat->Prop) (i:Nat) (o:Oper):Prop where
 op:ops[i]? = some o
 not:¬ L i
 A6:∀ k,iA (Region.before ops) i k=true->L k
theorem Inv.loc (h:Inv X ops S ι₀ w₀ L ι G m a w) (hr:bG X ops S) {i:Nat} {o:Oper} (hn:Next ops L i o):vb ι (gH X ops S m L) X.nt (o.looksAt ops) (S i).dY a:=by
 have hi:=oD hn.op
 refine ⟨h.size,fun s hs v hv=>h.env s i (by omega) (fun j hj hd=>?_) v hv⟩
 obtain ⟨oj,V9⟩:=Ad hj
 have ot:oj.dst=some s:=by simpa [oa,V9] using hd
 rcases Nat.lt_trichotomy j i with au | rfl | au
 .refine ⟨fun _=>au,fun _=>?_⟩
  rcases hr.pair au hi with hb | ⟨_,x,y,hx,hy,Mv⟩
  .exact hn.A6 j hb
  .rw [V9] at hx;rw [hn.op] at hy;simp at hx hy;subst hx;subst hy
   exact absurd hs ((Oper.apart_spec Mv).1 s ot)
 .exact ⟨fun hL=>absurd hL hn.not,fun au=>by omega⟩
 .refine ⟨fun hL=>?_,fun h=>by omega⟩
  rcases hr.pair au hj with hb | ⟨_,x,y,hx,hy,Mv⟩
  .exact absurd (h.down j i hL hb) hn.not
  .rw [hn.op] at hx;rw [V9] at hy;simp at hx hy;subst hx;subst hy
   exact absurd hs ((Oper.apart_spec Mv).2.2 s ot)
def jH (L:Nat->Prop) (i:Nat):Nat->Prop:=fun j=>L j\/j=i
theorem Next.sC {i:Nat} {o:Oper} (hn:Next ops L i o) (Mw:∀ j k,L j->iA (Region.before ops) j k=true->L k):∀ j k,jH L i j->iA (Region.before ops) j k=true->jH L i k:=by
 rintro j k (hj | rfl) hb
 .exact .inl (Mw j k hj hb)
 .exact .inl (hn.A6 k hb)
theorem Inv.iO (h:Inv X ops S ι₀ w₀ L ι G m a w) (hr:bG X ops S) {i:Nat} {o:Oper} (hn:Next ops L i o) {ι':Io} {D':Nat->Prop} {c:Value} (hc:ay ι' D' (S i).v c)
  (fA:∀ {v c:Value},ay ι (gH X ops S m L) v c->ay ι' D' v c) :
  ∀ q k,k<=ops.size->(∀ j,j < ops.size->oa ops j=some q->(jH L i j↔j < k))->∀ v,cO (S k).dY q=some v->ay ι' D' v ((a.put o.dst c).tmps.getD q undef):=by
 intro q k hk cV v hv
 have hi:=oD hn.op
 by_cases hq:o.dst=some q
 .have hdi:oa ops i=some q:=by simp [oa,hn.op,hq]
  have hik:i < k:=(cV i hi hdi).1 (.inr rfl)
  have eK:∀ j,i < j->j < k->oa ops j≠some q:=by
   intro j h1 h2 hd
   have hj:j < ops.size:=by omega
   have hL:L j:=by
    rcases (cV j hj hd).2 h2 with hL | rfl
    .exact hL
    .omega
   rcases hr.pair h1 hj with hb | ⟨_,x,y,hx,hy,Mv⟩
   .exact hn.not (h.down j i hL hb)
   .rw [hn.op] at hx;simp at hx;subst hx
    have:y.dst=some q:=by simpa [oa,hy] using hd
    exact (Oper.apart_spec Mv).2.1 q hq this
  obtain ⟨e1,e2⟩:=hr.wrote hik hk hdi eK
  rw [e1] at hv;simp at hv;subst hv
  rw [hq]
  simp only [Act.put]
  rw [Qlv (by rw [h.size];exact e2),if_pos rfl]
  exact hc
 .have dy:(a.put o.dst c).tmps.getD q undef=a.tmps.getD q undef:=by
   cases hd:o.dst with
   | none=>rfl
   | some d =>
    have aV:d≠q:=fun e=>hq (by rw [hd,e])
    simp only [Act.put,Array.getD_eq_getD_getElem?,Array.getElem?_setIfInBounds_ne aV]
  rw [dy]
  refine fA (h.env q k hk (fun j hj hd=>?_) v hv)
  have hji:j≠i:=fun e=>hq (by subst e;simpa [oa,hn.op] using hd)
  rw [<- cV j hj hd]
  exact ⟨fun hL=>.inl hL,fun hL=>hL.resolve_right hji⟩
theorem Pn (a:Act) (dst:Option Tmp) (c:Value):(a.put dst c).tmps.size=a.tmps.size:=by cases dst<;>simp [Act.put]
theorem Inv.still (h:Inv X ops S ι₀ w₀ L ι G m a w) (hr:bG X ops S) {i:Nat} {o:Oper} (hn:Next ops L i o) (Eo:cJ X.P ops i≠3) (Bu:cJ X.P ops i=2->(S i).t=false) {c:Value} (hc:ay ι (gH X ops S m L) (S i).v c) :
  Inv X ops S ι₀ w₀ (jH L i) ι G m (a.put o.dst c) w:=by
 have hi:=oD hn.op
 have jT:∀ x,gH X ops S m L x->gH X ops S m (jH L i) x:=by
  rintro x (hx | ⟨k,h1,h2,h3,h4,h5,h6⟩)
  .exact .inl hx
  .exact .inr ⟨k,h1,h2,.inl h3,h4,h5,h6⟩
 have od:∀ k,jH L i k->cJ X.P ops k=2->(S k).t=true->L k:=by
  rintro k (hL | rfl) h2 ht
  .exact hL
  .rw [Bu h2] at ht;simp at ht
 have fA:∀ {v c:Value},ay ι (gH X ops S m L) v c->ay ι (gH X ops S m (jH L i)) v c:=fun hv=>hv.mono jT fun _ _=>rfl
 refine ⟨h.Jl,fun e he Co=>?_,h.last,hn.sC h.down,?_,h.len,h.old,fun k h1 h2 h3 h4 h5=>h.oc k h1 h2 (od k h3 h4 h5) h4 h5,fun x h1 h2 h3=>h.dead x h1 h2 (fun k g1 g2 g3 g4 g5=>h3 k g1 g2 (.inl g3) g4 g5),h.rel.domain jT,h.fr,
  by rw [Pn];exact h.size,h.iO hr hn (fA hc) fA,by rw [Is];exact h.defers⟩
 .have aV:e≠i:=fun e'=>Eo (e'▸Co)
  rw [<- h.dZ e he Co]
  exact ⟨fun hL=>hL.resolve_right aV,fun hL=>.inl hL⟩
 .rintro j (hL | rfl)
  .exact h.Pm j hL
  .exact hi
theorem Inv.Cs (h:Inv X ops S ι₀ w₀ L ι G m a w) (hr:bG X ops S) {i:Nat} {o:Oper} (hn:Next ops L i o) (hc:cJ X.P ops i=2):m<=i:=by
 have hi:=oD hn.op
 by_cases au:m<=i
 .exact au
 .exfalso
  rcases h.last with hm | hm
  .omega
  .have Ep:m - 1 < ops.size:=by have:=h.Jl;omega
   have hL:L (m - 1):=(h.dZ (m - 1) Ep hm).2 (by omega)
   have aV:i≠m - 1:=fun e=>by rw [e,hm] at hc;omega
   rcases hr.pair (i:=i) (j:=m - 1) (by omega) Ep with hb | ⟨hx,_⟩
   .exact hn.not (h.down _ _ hL hb)
   .exact hx ⟨hm,by omega⟩
theorem Inv.make (h:Inv X ops S ι₀ w₀ L ι G m a w) (hr:bG X ops S) {i:Nat} {o:Oper} (hn:Next ops L i o) (hc:cJ X.P ops i=2) (ht:(S i).t=true) {vs cs rest:List Value} {fh:TypeId} {fz:Nat×Nat} {w0:World} {c:Value}
  (hH:(S (i+1)).H=de (S i).H vs) (hl:aZ ι (gH X ops S m L) vs cs) (bM:∀ v∈vs,az v=true) (hfz:oI fz (cs++rest).length) (e1:w0.heap=w.heap) (e2:w0.os=w.os) (e3:w0.tape=w.tape) (e4:w0.output=w.output)
  (hv:ay (ι.set (S i).H.length ⟨w.heap.size,0,(cs++rest).length⟩) (fun b=>gH X ops S m L b\/b=(S i).H.length) (S i).v c) :
  Inv X ops S ι₀ w₀ (jH L i) (ι.set (S i).H.length ⟨w.heap.size,0,(cs++rest).length⟩) (G.set (S i).H.length (some ⟨vs,false,none⟩)) m (a.put o.dst c) (w0.alloc (.cells (cs++rest).toArray fh fz)):=by
 have hi:=oD hn.op
 have nV:=h.Cs hr hn hc
 have hlen:=hr.dF hi hc ht
 have Ct:=hr.bR nV (by omega)
 have hle:=hr.bR (m:=i+1) (i:=ops.size) (by omega) (Zd _)
 have Hy:∀ k,m<=k->k < ops.size->cJ X.P ops k=2->(S k).t=true->k≠i->(S k).H.length≠(S i).H.length:=by
  intro k h1 h2 h3 h4 h5
  rcases Nat.lt_or_gt_of_ne h5 with au | au
  .have:=hr.dF h2 h3 h4
   have:=hr.bR (m:=k+1) (i:=i) (by omega) (by omega)
   omega
  .have:=hr.bR (m:=i+1) (i:=k) (by omega) (by omega)
   omega
 have hnD:¬ gH X ops S m L (S i).H.length:=by
  rintro (hx | ⟨k,h1,h2,h3,h4,h5,h6⟩)
  .omega
  .by_cases e:k=i
   .subst e;exact hn.not h3
   .exact Hy k h1 h2 h4 h5 e h6.symm
 have hG:G[(S i).H.length]? = some none:=h.dead _ Ct (by omega) (fun k g1 g2 g3 g4 g5 e=>Hy k g1 g2 g4 g5 (fun e'=>hn.not (e'▸g3)) e.symm)
 have hGl:(S i).H.length < G.length:=(Z0 hG).1
 have hD:∀ b,(gH X ops S m L b\/b=(S i).H.length)->gH X ops S m (jH L i) b:=by
  rintro b ((hx | ⟨k,h1,h2,h3,h4,h5,h6⟩) | rfl)
  .exact .inl hx
  .exact .inr ⟨k,h1,h2,.inl h3,h4,h5,h6⟩
  .exact .inr ⟨i,nV,hi,.inr rfl,hc,ht,rfl⟩
 have hw:w0.heap.size=w.heap.size:=by rw [e1]
 have wF:=(h.rel.bz e1).fill hG hnD hl bM rest fh fz hfz
 rw [hw] at wF
 have fA:∀ {v c:Value},ay ι (gH X ops S m L) v c->ay (ι.set (S i).H.length ⟨w.heap.size,0,(cs++rest).length⟩) (gH X ops S m (jH L i)) v c :=
  fun hr=>hr.mono (fun b hb=>hD b (.inl hb)) fun b hb=>Io.aS _ _ (fun e=>hnD (e▸hb))
 refine ⟨h.Jl,fun e he Co=>?_,h.last,hn.sC h.down,?_,by rw [List.length_set];exact h.len,fun x hx=>?_,fun k g1 g2 g3 g4 g5=>?_,fun x g1 g2 g3=>?_,wF.domain hD,?_,by rw [Pn];exact h.size,
  h.iO hr hn (hv.mono hD fun _ _=>rfl) fA,by rw [Is];exact h.defers⟩
 .have aV:e≠i:=fun e'=>by rw [e'] at Co;omega
  rw [<- h.dZ e he Co]
  exact ⟨fun hL=>hL.resolve_right aV,fun hL=>.inl hL⟩
 .rintro j (hL | rfl)
  .exact h.Pm j hL
  .exact hi
 .rw [Qm (by omega)];exact h.old x hx
 .by_cases e:k=i
  .subst e;rw [sR hGl,hH,LL]
  .rw [Qm (Ne.symm (Hy k g1 g2 g4 g5 e))]
   exact h.oc k g1 g2 (g3.resolve_right e) g4 g5
 .have aV:(S i).H.length≠x:=Ne.symm (g3 i nV hi (.inr rfl) hc ht)
  rw [List.getElem?_set_ne aV]
  exact h.dead x g1 g2 (fun k q1 q2 q3 q4 q5=>g3 k q1 q2 (.inl q3) q4 q5)
 .have hgc:∀ {b:Nat} {k:bx},ah (G.set (S i).H.length (some ⟨vs,false,none⟩)) b=some k->(b=(S i).H.length/\k.ro=false)\/(b≠(S i).H.length/\ah G b=some k):=by
   intro b k hb
   by_cases e:b=(S i).H.length
   .subst e;rw [sR hGl] at hb;simp at hb;subst hb;exact .inl ⟨rfl,rfl⟩
   .rw [Qm (Ne.symm e)] at hb;exact .inr ⟨e,hb⟩
  have h0:=hr.bR (m:=0) (i:=i) (by omega) (by omega)
  refine ⟨by rw [List.length_set];exact h.fr.len,fun b hb=>by rw [Io.aS _ _ (by omega)];exact h.fr.io b hb,e2.trans h.fr.os,e3.trans h.fr.tape,e4.trans h.fr.output,?_,fun k hk eK=>?_,fun b k hb bn=>?_,fun b k hb bn=>?_⟩
  .rw [World.size_alloc,hw];have:=h.fr.size;omega
  .rw [E4 _ _ (by rw [hw];have:=h.fr.size;omega),e1];exact h.fr.frame k hk eK
  .rcases hgc hb with ⟨rfl,_⟩ | ⟨e,hb⟩
   .left;rw [Io.aB];exact h.fr.size
   .rw [Io.aS _ _ e];exact h.fr.new b k hb bn
  .rcases hgc hb with ⟨rfl,e⟩ | ⟨e,hb⟩
   .rw [e] at bn;simp at bn
   .exact h.fr.ro b k hb bn
theorem Inv.Hz (h:Inv X ops S ι₀ w₀ L ι G m a w) (hr:bG X ops S) {e:Nat} {o:Oper} (hn:Next ops L e o) (hc:cJ X.P ops e=3) :
  m<=e/\(∀ x,x < (S e).H.length->ah G x=ah (S e).H x)/\(∀ x,gH X ops S m L x->x < (S e).H.length\/∃ i,e+1<=i/\i < ops.size/\L i/\cJ X.P ops i=2/\(S i).t=true/\x=(S i).H.length):=by
 have he:=oD hn.op
 have Be:m<=e:=by
  by_cases au:m<=e
  .exact au
  .exact absurd ((h.dZ e he hc).2 (by omega)) hn.not
 have eK:∀ k,m<=k->k < e->cJ X.P ops k≠3:=by
  intro k h1 h2 h3
  rcases hr.pair h2 he with hb | ⟨hx,_⟩
  .have:=(h.dZ k (by omega) h3).1 (hn.A6 k hb);omega
  .exact hx ⟨hc,by omega⟩
 refine ⟨Be,fun x hx=>?_,?_⟩
 .by_cases Mx:x < (S m).H.length
  .rw [h.old x Mx,hr.keep Be (by omega) eK x Mx]
  .obtain ⟨i,g1,g2,g3,g4,g5,g6⟩:=hr.made Be (by omega) eK x (by omega) hx
   have hL:L i:=by
    rcases hr.pair g2 he with hb | ⟨hx,_⟩
    .exact hn.A6 i hb
    .exact absurd ⟨hc,by omega⟩ hx
   have:=h.oc i g1 (by omega) hL g3 g4
   rw [<- g5] at this
   rw [this,g6]
 .rintro x (hx | ⟨i,h1,h2,h3,h4,h5,h6⟩)
  .have:=hr.bR Be (by omega);exact .inl (by omega)
  .rcases Nat.lt_trichotomy i e with au | rfl | au
   .have:=hr.dF h2 h4 h5
    have:=hr.bR (m:=i+1) (i:=e) (by omega) (by omega)
    exact .inl (by omega)
   .rw [hc] at h4;omega
   .exact .inr ⟨i,by omega,h2,h3,h4,h5,h6⟩
theorem Inv.My (h:Inv X ops S ι₀ w₀ L ι G m a w) (hr:bG X ops S) {e:Nat} {o:Oper} (hn:Next ops L e o) (hc:cJ X.P ops e=3) (ht:(S e).t=false) {c:Value} (hv:∀ D,ay ι D (S e).v c) :
  Inv X ops S ι₀ w₀ (jH L e) ι G (e+1) (a.put o.dst c) w:=by
 have he:=oD hn.op
 obtain ⟨Be,hold,jT⟩:=h.Hz hr hn hc
 have hH:(S (e+1)).H=(S e).H:=((hr.step e o hn.op).no ht).2
 have hD:∀ x,gH X ops S m L x->gH X ops S (e+1) (jH L e) x:=by
  intro x hx
  rcases jT x hx with h1 | ⟨i,h1,h2,h3,h4,h5,h6⟩
  .left;rw [hH];exact h1
  .exact .inr ⟨i,h1,h2,.inl h3,h4,h5,h6⟩
 have fA:∀ {v c:Value},ay ι (gH X ops S m L) v c->ay ι (gH X ops S (e+1) (jH L e)) v c:=fun hr=>hr.mono hD fun _ _=>rfl
 have od:∀ k,jH L e k->cJ X.P ops k=2->L k:=by
  rintro k (hL | rfl) h2
  .exact hL
  .rw [hc] at h2;omega
 refine ⟨by omega,fun k hk rW=>?_,.inr hc,hn.sC h.down,?_,h.len,fun x hx=>by rw [hH] at hx ⊢;exact hold x hx,fun k g1 g2 g3 g4 g5=>h.oc k (by omega) g2 (od k g3 g4) g4 g5,fun x g1 g2 g3=>?_,h.rel.domain hD,h.fr,by rw [Pn];exact h.size,
  h.iO hr hn (hv _) fA,by rw [Is];exact h.defers⟩
 .constructor
  .rintro (hL | rfl)
   .have:=(h.dZ k hk rW).1 hL;omega
   .omega
  .intro au
   by_cases e':k=e
   .exact .inr e'
   .refine .inl ?_
    by_cases AF:k < m
    .exact (h.dZ k hk rW).2 AF
    .exfalso
     rcases hr.pair (i:=k) (j:=e) (by omega) he with hb | ⟨hx,_⟩
     .have:=(h.dZ k hk rW).1 (hn.A6 k hb);omega
     .exact hx ⟨hc,by omega⟩
 .rintro j (hL | rfl)
  .exact h.Pm j hL
  .exact he
 .refine h.dead x ?_ g2 (fun k q1 q2 q3 q4 q5 hx=>?_)
  .have:=hr.bR Be (by omega);rw [hH] at g1;omega
  .rcases Nat.lt_trichotomy k e with au | rfl | au
   .have:=hr.dF q2 q4 q5
    have:=hr.bR (m:=k+1) (i:=e) (by omega) (by omega)
    rw [hH] at g1;omega
   .rw [hc] at q4;omega
   .exact g3 k (by omega) q2 (.inl q3) q4 q5 hx
theorem Inv.Mz (h:Inv X ops S ι₀ w₀ L ι G m a w) (hr:bG X ops S) {e:Nat} {o:Oper} (hn:Next ops L e o) (hc:cJ X.P ops e=3):Rel ι (aK (S e).H.length) (S e).H w:=by
 have he:=oD hn.op
 obtain ⟨Be,hold,jT⟩:=h.Hz hr hn hc
 have fB:=(hr.abs e (by omega)).2.1
 have hG:∀ {b:Nat} {k:bx},ah (S e).H b=some k->ah G b=some k:=fun hb=>by rw [hold _ (Qt hb)];exact hb
 refine ⟨fun b k hb=>?_,fun b b' k k' h1 h2=>h.rel.inj b b' k k' (hG h1) (hG h2),fun b k hb hr=>h.rel.h_ b k (hG hb) hr,h.rel.gw⟩
 exact (h.rel.aI b k (hG hb)).bw rfl rfl fun i hi c hv=>hv.re (fB b (Qt hb) k hb _ (List.getElem_mem hi)) fun _ _ _=>rfl
theorem Inv.Er (h:Inv X ops S ι₀ w₀ L ι G m a w) (hr:bG X ops S) {e:Nat} {o:Oper} (hn:Next ops L e o):bt ι (gH X ops S m L) X.nt (bK (nZ o) (S e).env) a:=by
 have hl:=h.loc hr hn
 refine vb.bK ⟨hl.size,fun s hs v hv=>?_⟩
 rw [(hr.step e o hn.op).same] at hv
 exact hl.get s (by rw [Qdl];exact List.mem_append.2 (.inl hs)) v hv
theorem Inv.HA (h:Inv X ops S ι₀ w₀ L ι G m a w) (hr:bG X ops S) {e:Nat} {o:Oper} (hn:Next ops L e o):bt ι (aK (S e).H.length) X.nt (bK (nZ o) (S e).env) a:=by
 have h1:=h.Er hr hn
 exact ⟨h1.size,fun s v hv=>(h1.get s v hv).re ((hr.Ae (oD hn.op)).bK s v hv) fun _ _ _=>rfl⟩
theorem Inv.eff (h:Inv X ops S ι₀ w₀ L ι G m a w) (hr:bG X ops S) {e:Nat} {o:Oper} (hn:Next ops L e o) (hc:cJ X.P ops e=3) {ι':Io} {w':World} {c:Value}
  (hR:Rel ι' (aK (S (e+1)).H.length) (S (e+1)).H w') (hv:ay ι' (aK (S (e+1)).H.length) (S e).v c) (hf:Fr ι (S e).H w ι' (S (e+1)).H w') :
  Inv X ops S ι₀ w₀ (jH L e) (fun x=>if x < (S (e+1)).H.length then ι' x else ι x) ((S (e+1)).H++G.drop (S (e+1)).H.length) (e+1) (a.put o.dst c) w':=by
 have he:=oD hn.op
 obtain ⟨Be,hold,jT⟩:=h.Hz hr hn hc
 have hle:(S (e+1)).H.length<=G.length:=by rw [h.len];exact hr.bR (by omega) (Zd _)
 have hJ:=hr.n_ he
 have hG:∀ {b:Nat} {k:bx},ah (S e).H b=some k->ah G b=some k:=fun hb=>by rw [hold _ (Qt hb)];exact hb
 have au:∀ {x:Nat},x < (S (e+1)).H.length->ah ((S (e+1)).H++G.drop (S (e+1)).H.length) x=ah (S (e+1)).H x:=fun hx=>E1 hx
 have sP:∀ {x:Nat},(S (e+1)).H.length<=x->((S (e+1)).H++G.drop (S (e+1)).H.length)[x]? = G[x]?:=by
  intro x hx
  rw [Zq hx,Zp]
  congr 1;omega
 have MA:∀ {x:Nat},(S (e+1)).H.length<=x->ah ((S (e+1)).H++G.drop (S (e+1)).H.length) x=ah G x:=by
  intro x hx;unfold ah;rw [sP hx]
 have iG:∀ i,e+1<=i->i < ops.size->(S (e+1)).H.length<=(S i).H.length:=fun i h1 h2=>hr.bR h1 (by omega)
 have hD:∀ x,gH X ops S m L x->gH X ops S (e+1) (jH L e) x/\(if x < (S (e+1)).H.length then ι' x else ι x)=ι x:=by
  intro x hx
  rcases jT x hx with h1 | ⟨i,h1,h2,h3,h4,h5,h6⟩
  .exact ⟨.inl (by omega),by rw [if_pos (by omega)];exact hf.io x h1⟩
  .have:=iG i h1 h2
   exact ⟨.inr ⟨i,h1,h2,.inl h3,h4,h5,h6⟩,by rw [if_neg (by omega)]⟩
 have fA:∀ {v c:Value},ay ι (gH X ops S m L) v c->ay (fun x=>if x < (S (e+1)).H.length then ι' x else ι x) (gH X ops S (e+1) (jH L e)) v c :=
  fun hr=>hr.mono (fun x hx=>(hD x hx).1) fun x hx=>(hD x hx).2
 have Af:∀ {v c:Value},ay ι' (aK (S (e+1)).H.length) v c->ay (fun x=>if x < (S (e+1)).H.length then ι' x else ι x) (gH X ops S (e+1) (jH L e)) v c :=
  fun hr=>hr.mono (fun x hx=>.inl hx) fun x hx=>if_pos hx
 have od:∀ k,jH L e k->cJ X.P ops k=2->L k:=by
  rintro k (hL | rfl) h2
  .exact hL
  .rw [hc] at h2;omega
 have MC:∀ {x:Nat} {k:bx},(S (e+1)).H.length<=x->ah G x=some k->∃ i,e+1<=i/\i < ops.size/\L i/\cJ X.P ops i=2/\(S i).t=true/\x=(S i).H.length/\k.ro=false:=by
  intro x k hx hk
  have hxG:=Qt hk
  rw [h.len] at hxG
  apply Classical.byContradiction
  intro eK
  have Eb:=h.dead x (by have:=hr.bR Be (by omega:e<=ops.size);omega) hxG (fun i g1 g2 g3 g4 g5 mB=>by
   rcases Nat.lt_trichotomy i e with hl | rfl | hl
   .have:=hr.dF g2 g4 g5
    have:=hr.bR (m:=i+1) (i:=e) (by omega) (by omega)
    omega
   .rw [hc] at g4;omega
   .have hp:=h.oc i g1 g2 g3 g4 g5
    rw [<- mB,hk] at hp
    obtain ⟨oi,hoi⟩:=Ad g2
    have hF:=(hr.step i oi hoi).yes g5
    have cA:=Mt (P:=X.P) hoi
    rw [g4] at cA
    unfold jy at hF
    rw [<- cA] at hF
    obtain ⟨vs,mk,_,eH,_⟩:=hF
    rw [mB,eH,LL] at hp
    simp at hp
    exact eK ⟨i,by omega,g2,g3,g4,g5,mB,by rw [hp]⟩)
  unfold ah at hk;rw [Eb] at hk;simp at hk
 have cL:∀ {x:Nat} {k:bx},ah ((S (e+1)).H++G.drop (S (e+1)).H.length) x=some k->(x < (S (e+1)).H.length/\ah (S (e+1)).H x=some k)\/((S (e+1)).H.length<=x/\ah G x=some k/\k.ro=false):=by
  intro x k hk
  by_cases hx:x < (S (e+1)).H.length
  .rw [au hx] at hk;exact .inl ⟨hx,hk⟩
  .rw [MA (by omega)] at hk
   obtain ⟨i,_,_,_,_,_,_,bn⟩:=MC (by omega) hk
   exact .inr ⟨by omega,hk,bn⟩
 have Ag:∀ {x y:Nat} {k k':bx},x < (S (e+1)).H.length->ah (S (e+1)).H x=some k->(S (e+1)).H.length<=y->ah G y=some k'->k'.ro=false->(ι' x).aI≠(ι y).aI:=by
  intro x y k k' hx hk hy cW bn
  have hyl:=h.rel.lt cW
  cases hkr:k.ro with
  | false =>
   rcases hf.new x k hk hkr with h1 | ⟨b0,k0,h1,h2,h3⟩
   .omega
   .rw [<- h3]
    have:=Qt h1
    exact h.rel.inj b0 y k0 k' (hG h1) cW (by omega) (.inr bn)
  | true =>
   have h1:=hf.ro x k hk hkr
   have h2:=Qt h1
   rw [hf.io x h2]
   exact h.rel.inj x y k k' (hG h1) cW (by omega) (.inr bn)
 refine ⟨by omega,fun k hk rW=>?_,.inr hc,hn.sC h.down,?_,by rw [Zf,List.length_drop,<- h.len];omega,fun x hx=>au hx,fun k g1 g2 g3 g4 g5=>?_,fun x g1 g2 g3=>?_,⟨fun x k hk=>?_,fun x y k k' h1 h2 aV bn=>?_,fun x k hk bn=>(by
   rcases cL hk with ⟨g1,g2⟩ | ⟨g1,g2,_⟩
   .rw [if_pos g1];exact hR.h_ x k g2 bn
   .rw [if_neg (by omega)];exact h.rel.h_ x k g2 bn),hR.gw⟩,?_,by rw [Pn];exact h.size,
  h.iO hr hn (Af hv) fA,by rw [Is];exact h.defers⟩
 .constructor
  .rintro (hL | rfl)
   .have:=(h.dZ k hk rW).1 hL;omega
   .omega
  .intro MD
   by_cases e':k=e
   .exact .inr e'
   .refine .inl ?_
    by_cases AF:k < m
    .exact (h.dZ k hk rW).2 AF
    .exfalso
     rcases hr.pair (i:=k) (j:=e) (by omega) he with hb | ⟨hx,_⟩
     .have:=(h.dZ k hk rW).1 (hn.A6 k hb);omega
     .exact hx ⟨hc,by omega⟩
 .rintro j (hL | rfl)
  .exact h.Pm j hL
  .exact he
 .rw [MA (iG k g1 g2)];exact h.oc k (by omega) g2 (od k g3 g4) g4 g5
 .rw [sP g1]
  refine h.dead x (by have:=hr.bR Be (by omega:e<=ops.size);omega) g2 (fun k q1 q2 q3 q4 q5 hx=>?_)
  rcases Nat.lt_trichotomy k e with hl | rfl | hl
  .have:=hr.dF q2 q4 q5
   have:=hr.bR (m:=k+1) (i:=e) (by omega) (by omega)
   omega
  .rw [hc] at q4;omega
  .exact g3 k (by omega) q2 (.inl q3) q4 q5 hx
 .rcases cL hk with ⟨h1,h2⟩ | ⟨h1,h2,bn⟩
  .exact (hR.aI x k h2).bw rfl (if_pos h1) fun i hi c hr=>Af hr
  .refine (h.rel.aI x k h2).bw (hf.frame _ (h.rel.lt h2) ?_) (if_neg (by omega)) fun i hi c hr=>fA hr
   intro b k' hb HB
   have:=Qt hb
   exact h.rel.inj b x k' k (hG hb) h2 (by omega) (.inl HB)
 .rcases cL h1 with ⟨g1,g2⟩ | ⟨g1,g2,V_⟩
  .rcases cL h2 with ⟨q1,q2⟩ | ⟨q1,q2,ME⟩
   .rw [if_pos g1,if_pos q1];exact hR.inj x y k k' g2 q2 aV bn
   .rw [if_pos g1,if_neg (by omega)];exact Ag g1 g2 q1 q2 ME
  .rcases cL h2 with ⟨q1,q2⟩ | ⟨q1,q2,ME⟩
   .rw [if_neg (by omega),if_pos q1];exact Ne.symm (Ag q1 q2 g1 g2 V_)
   .rw [if_neg (by omega),if_neg (by omega)];exact h.rel.inj x y k k' g2 q2 aV bn
 .have h0:=hr.bR (m:=0) (i:=e) (by omega) (by omega)
  refine ⟨by simp;omega,fun b hb=>by rw [if_pos (by omega),hf.io b (by omega)];exact h.fr.io b hb,hf.os.trans h.fr.os,hf.tape.trans h.fr.tape,hf.output.trans h.fr.output,Nat.le_trans h.fr.size hf.size,fun k hk eK=>?_,fun x k hk bn=>?_,fun x k hk bn=>?_⟩
  .rw [hf.frame k (Zm hk h.fr.size) ?_,h.fr.frame k hk eK]
   intro b k' hb bn heq
   rcases h.fr.new b k' (hG hb) bn with h1 | ⟨b0,k0,h1,h2,h3⟩
   .omega
   .exact eK b0 k0 h1 h2 (h3.trans heq)
  .rcases cL hk with ⟨g1,g2⟩ | ⟨g1,g2,_⟩
   .rw [if_pos g1]
    rcases hf.new x k g2 bn with h1 | ⟨b0,k0,h1,h2,h3⟩
    .exact .inl (Nat.le_trans h.fr.size h1)
    .rw [<- h3];exact h.fr.new b0 k0 (hG h1) h2
   .rw [if_neg (by omega)];exact h.fr.new x k g2 bn
  .rcases cL hk with ⟨g1,g2⟩ | ⟨g1,g2,HB⟩
   .exact h.fr.ro x k (hG (hf.ro x k g2 bn)) bn
   .rw [HB] at bn;simp at bn
theorem Qqh {H G:af} (h:∀ x,x < H.length->ah G x=ah H x) {p:Addr} {v:Value} (hl:gz H p=some v):gz G p=some v:=by
 unfold gz at hl ⊢
 obtain ⟨k,hk,hv⟩:=Q2 hl
 rw [h _ (Qt hk),hk];exact hv
theorem Wa {H G:af} (h:∀ x,x < H.length->ah G x=ah H x) {p:Addr} {n:Nat} {l:List Value} (hl:Qx H p n=some l):Qx G p n=some l:=by
 unfold Qx at hl ⊢
 obtain ⟨k,hk,hv⟩:=Q2 hl
 rw [h _ (Qt hk),hk];exact hv
theorem Qnj {H G:af} (h:∀ x,x < H.length->ah G x=ah H x) {p:Addr} {n:Nat} {l:List Value} (hl:fK H p n=some l):fK G p n=some l:=by
 cases n with
 | zero=>exact hl
 | succ m=>exact Wa h hl
theorem Qtm {P:Program} {op:Op} {env:Env} {H G:af} (h:∀ x,x < H.length->ah G x=ah H x) {v:Value} (hl:cU P op env H=some v):cU P op env G=some v:=by
 unfold cU at hl ⊢
 cases op with
 | load t x =>
  simp only at hl ⊢
  cases hg:AE P t x with
  | some q=>rw [hg] at hl;exact hl
  | none =>
  rw [hg] at hl
  simp only at hl ⊢
  replace hl:=Q2 hl;obtain ⟨u,hu,hl⟩:=hl
  rw [hu];simp only [Q1]
  replace hl:=Im hl;obtain ⟨p,rfl,hl⟩:=hl
  simp only [eY]
  replace hl:=Q2 hl;obtain ⟨i,hi,hl⟩:=hl
  rw [hi];simp only
  split at hl
  .replace hl:=Q2 hl;obtain ⟨l,h1,hl⟩:=hl
   rw [Wa h h1];exact hl
  .replace hl:=Q2 hl;obtain ⟨l,h1,hl⟩:=hl
   rw [Wa h h1];exact hl
  .exact Qqh h hl
  .simp at hl
 | convert s d x =>
  simp only at hl ⊢
  replace hl:=Q2 hl;obtain ⟨u,hu,hl⟩:=hl
  rw [hu];simp only [Q1]
  replace hl:=Q2 hl;obtain ⟨l,h1,hl⟩:=hl
  have:Qf G 1 u=some l:=by
   unfold Qf at h1 ⊢
   split at h1
   .exact h1
   .exact Qnj h h1
   .simp at h1
  rw [this];exact hl
 | _=>simp at hl
end
section
variable {X:Cx} {ops:Array Oper} {S:Nat->St} {ι₀:Io} {w₀:World} {L:Nat->Prop} {ι:Io} {G:af} {m:Nat} {a:Act} {w:World}
theorem Qwy {p:Nat->Bool} {N x:Nat} (hx:x∈(List.range N).filter p) (MF:∀ y∈(List.range N).filter p,y<=x):∃ r,((List.range N).filter p).reverse=x::r:=by
 have hs:((List.range N).filter p).Pairwise (· < ·):=List.Pairwise.filter p List.pairwise_lt_range
 generalize (List.range N).filter p=l at hx MF hs
 cases hl:l.reverse with
 | nil=>have:l=[]:=List.reverse_eq_nil_iff.1 hl;subst this;simp at hx
 | cons y r =>
  have e:l=r.reverse++[y]:=by rw [<- List.reverse_reverse l,hl];simp
  subst e
  have hy:=MF y (by simp)
  rcases List.mem_append.1 hx with h1 | h1
  .have:=(List.pairwise_append.1 hs).2.2 x h1 y (by simp)
   omega
  .simp at h1;subst h1;exact ⟨r,rfl⟩
theorem Inv.vc (h:Inv X ops S ι₀ w₀ L ι G m a w) {i:Nat} {o:Oper} (hn:Next ops L i o) (hc:cJ X.P ops i≠3):m∈GX X.P ops i:=by
 unfold GX
 simp only [List.mem_cons,List.mem_map]
 have Cv:∀ e∈((List.range ops.size).filter fun e=>Nat.beq (cJ X.P ops e) 3).filter fun e=>iA (Region.before ops) i e,e < m:=by
  intro e he
  simp only [List.mem_filter,List.mem_range] at he
  obtain ⟨⟨h1,h2⟩,h3⟩:=he
  exact (h.dZ e h1 (Z7 h2)).1 (hn.A6 e h3)
 rcases h.last with hm | hm
 .subst hm
  left
  cases Ah:(((List.range ops.size).filter fun e=>Nat.beq (cJ X.P ops e) 3).filter fun e=>iA (Region.before ops) i e).reverse with
  | nil=>rfl
  | cons e r =>
   have:e∈((List.range ops.size).filter fun e=>Nat.beq (cJ X.P ops e) 3).filter fun e=>iA (Region.before ops) i e:=by
    rw [<- List.mem_reverse,Ah];simp
   have:=Cv e this
   omega
 .by_cases h0:m=0
  .subst h0
   left
   cases Ah:(((List.range ops.size).filter fun e=>Nat.beq (cJ X.P ops e) 3).filter fun e=>iA (Region.before ops) i e).reverse with
   | nil=>rfl
   | cons e r =>
    have:e∈((List.range ops.size).filter fun e=>Nat.beq (cJ X.P ops e) 3).filter fun e=>iA (Region.before ops) i e:=by
     rw [<- List.mem_reverse,Ah];simp
    have:=Cv e this
    omega
  .have Ep:m - 1 < ops.size:=by have:=h.Jl;omega
   have hL:L (m - 1):=(h.dZ _ Ep hm).2 (by omega)
   cases hb:iA (Region.before ops) i (m - 1) with
   | true =>
    left
    rw [List.filter_filter] at Cv ⊢
    have jR:(m - 1)∈(List.range ops.size).filter fun e=>iA (Region.before ops) i e&&Nat.beq (cJ X.P ops e) 3:=by
     simp only [List.mem_filter,List.mem_range,Z8]
     exact ⟨Ep,hb,by rw [hm];rfl⟩
    obtain ⟨r,hr⟩:=Qwy jR (fun y hy=>by have:=Cv y hy;omega)
    rw [hr]
    simp only;omega
   | false =>
    right
    refine ⟨m - 1,?_,by omega⟩
    simp only [List.mem_filter,List.mem_range]
    refine ⟨⟨Ep,by rw [hm];rfl⟩,?_⟩
    have rV:iA (Region.before ops) (m - 1) i=false:=by
     cases hq:iA (Region.before ops) (m - 1) i with
     | false=>rfl
     | true=>exact absurd (h.down _ _ hL hq) hn.not
    have aV:Nat.beq (m - 1) i=false:=by
     cases hq:Nat.beq (m - 1) i with
     | false=>rfl
     | true=>exact absurd (Z7 hq▸hL) hn.not
    rw [hb,rV,aV];rfl
theorem bG.const (hr:bG X ops S) {lo:Nat}:∀ {hi:Nat},lo<=hi->hi<=ops.size->(∀ k,lo<=k->k < hi->cJ X.P ops k < 2)->(S hi).H=(S lo).H
 | 0,h1,_,_=>by rw [Nat.le_zero.1 h1]
 | hi+1,h1,h2,h3=>by
  by_cases e:lo=hi+1
  .subst e;rfl
  .have ih:=hr.const (hi:=hi) (by omega) (by omega) fun k h4 h5=>h3 k h4 (by omega)
   have hc:=h3 hi (by omega) (by omega)
   rcases hr.quiet (i:=hi) (by omega) (by omega) with q | ⟨q,_⟩
   .rw [q,ih]
   .omega
def Wb (X:Cx) (ops:Array Oper) (i:Nat) (o:Oper) (m:Nat):Prop :=
 ∃ t k ok,OR o.op=some t/\m<=k/\k < i/\iA (Region.before ops) i k=true/\cJ X.P ops k=2/\ops[k]? = some ok/\ok.guard=none/\ok.dst=some t/\∀ j,k < j->j < i->cJ X.P ops j≠3/\oa ops j≠some t
def HC (X:Cx) (ops:Array Oper) (S:Nat->St):Prop :=
 ∀ i o,ops[i]? = some o->cJ X.P ops i=1->∀ m∈GX X.P ops i,cU X.P o.op (S i).env (S m).H=cU X.P o.op (S i).env (S i).H\/Wb X ops i o m
theorem Inv.step (h:Inv X ops S ι₀ w₀ L ι G m a w) (hr:bG X ops S) (eR:HC X ops S) {i:Nat} {o:Oper} (hn:Next ops L i o) {K:Act->World->Prop} {Q:Exit->Act->World->Prop}
  (hK:∀ ι' G' m' a' w',Inv X ops S ι₀ w₀ (jH L i) ι' G' m' a' w'->K a' w'):wpOp X.P ops Q i K a w:=by
 have hi:=oD hn.op
 have hs:=hr.step i o hn.op
 have cA:=Mt (P:=X.P) hn.op
 have MG:=h.loc hr hn
 have hw:Region.wanted o (yielded ops a.tmps)=(S i).t:=hs.guard ι _ a ⟨MG.size,fun s bY v hv=>MG.get s (by rw [Qdl];exact List.mem_append.2 (.inr bY)) v hv⟩
 unfold wpOp
 rw [hn.op]
 simp only
 cases ht:(S i).t with
 | false =>
  rw [if_neg (by rw [hw,ht];simp)]
  have hv:=(hs.no ht).1
  by_cases Eo:cJ X.P ops i=3
  .exact hK _ _ _ _ _ (h.My hr hn Eo ht (c:=undef) fun D=>by rw [hv];exact Il _ _)
  .exact hK _ _ _ _ _ (h.still hr hn Eo (fun _=>ht) (c:=undef) (by rw [hv];exact Il _ _))
 | true =>
  rw [if_pos (by rw [hw,ht])]
  left
  have hF:=hs.yes ht
  have hE:=h.Er hr hn
  unfold jy at hF
  split at hF
  .rename_i hc
   rw [hc] at cA
   obtain ⟨c,h1,h2⟩:=hF.2.run ι _ a w hE
   exact oL h1 (hK _ _ _ _ _ (h.still hr hn (by omega) (fun e=>by omega) h2))
  .rename_i hc
   rw [hc] at cA
   obtain ⟨_,raw,hF⟩:=hF
   have h2:=hF.rd
   rw [Qdk] at h2
   have h3:cU X.P o.op (S i).env G=some raw:=by
    rcases eR i o hn.op cA m (h.vc hn (by omega)) with h1 | ⟨t,k,ok,z_,Wc,Wd,hb,Bu,c_,OY,We,eK⟩
    .rw [h2] at h1
     exact Qtm (G:=G) h.old h1
    .have hL:=hn.A6 k hb
     have hsk:=hr.step k ok c_
     have htk:(S k).t=true:=by
      have VD:Jk ops ok=[]:=by unfold Jk;rw [OY]
      have QJ:=hsk.guard (fun _=>⟨0,0,0⟩) (fun _=>True) a ⟨h.size,fun s bY=>by rw [VD] at bY;simp at bY⟩
      rw [<- QJ];simp [Region.wanted,OY]
     have me:=Mt (P:=X.P) c_
     rw [Bu] at me
     have Wg:=hsk.yes htk
     unfold jy at Wg
     rw [<- me] at Wg
     obtain ⟨vs,mk,hvk,hHk,hAk⟩:=Wg
     have hp:=h.oc k Wc (by omega) hL Bu htk
     obtain ⟨O4,_⟩:=hr.wrote (q:=t) Wd (by omega) (by simp [oa,c_,We]) (fun j h4 h5=>(eK j h4 h5).2)
     rw [hvk] at O4
     have hw2:cO (S i).env t=some (mk (S k).H.length):=by rw [hs.same];exact O4
     have hk:=hr.keep (m:=k+1) (i:=i) (by omega) (by omega) (fun j h4 h5=>(eK j (by omega) h5).1) (S k).H.length (by rw [hHk,Qy];omega)
     rw [Qtk z_ hw2 (hAk.aI _) (hp.trans hk.symm)];exact h2
   rw [<- Qdk] at h3
   obtain ⟨c,g1,g2⟩:=hF.run ι _ a w G h3 h.rel hE
   exact oL g1 (hK _ _ _ _ _ (h.still hr hn (by omega) (fun e=>by omega) g2))
  .rename_i hc
   rw [hc] at cA
   obtain ⟨vs,mk,hv,hH,hF⟩:=hF
   obtain ⟨cs,rest,fh,fz,w0,c,h1,h2,e1,e2,e3,e4,h3,h4⟩:=hF.run ι _ a w hE
   exact oL h3 (hK _ _ _ _ _ (h.make hr hn cA ht (fh:=fh) hH h1 hF.cells h2 e1 e2 e3 e4 (by rw [hv];exact h4 _)))
  .rename_i h0 h1 h2
   have hle:=Qvh X.P o.op
   have hc:cJ X.P ops i=3:=by
    rw [cA]
    have:fY X.P o.op=0\/fY X.P o.op=1\/fY X.P o.op=2\/fY X.P o.op=3:=by omega
    rcases this with e | e | e | e
    .exact absurd e h0
    .exact absurd e h1
    .exact absurd e h2
    .exact e
   exact hF.run ι a w (h.Mz hr hn hc) (h.HA hr hn) K Q fun ι' w' c g1 g2 g3=>hK _ _ _ _ _ (h.eff hr hn hc g1 g2 g3)
theorem Inv.done (h:Inv X ops S ι₀ w₀ L ι G m a w) (hr:bG X ops S) (hall:∀ i,i < ops.size->L i) :
  Rel ι (aK (S ops.size).H.length) (S ops.size).H w/\bt ι (aK (S ops.size).H.length) X.nt (S ops.size).dY a/\Fr ι₀ (S 0).H w₀ ι (S ops.size).H w/\Ab X.ai (S 0).H (S ops.size).H/\a.defers=[]:=by
 obtain ⟨hE,fB,kH⟩:=hr.abs ops.size (Zd _)
 have eK:∀ k,m<=k->k < ops.size->cJ X.P ops k≠3:=by
  intro k h1 h2 h3
  have:=(h.dZ k h2 h3).1 (hall k h2)
  omega
 have ah:∀ x,x < (S ops.size).H.length->ah G x=ah (S ops.size).H x:=by
  intro x hx
  by_cases Mx:x < (S m).H.length
  .rw [h.old x Mx,hr.keep h.Jl (Zd _) eK x Mx]
  .obtain ⟨i,g1,g2,g3,g4,g5,g6⟩:=hr.made h.Jl (Zd _) eK x (by omega) hx
   have:=h.oc i g1 g2 (hall i g2) g3 g4
   rw [<- g5] at this
   rw [this,g6]
 have hG:∀ {b:Nat} {k:bx},Ev.ah (S ops.size).H b=some k->Ev.ah G b=some k:=fun hb=>by rw [ah _ (Qt hb)];exact hb
 refine ⟨⟨fun b k hb=>?_,fun b b' k k' h1 h2=>h.rel.inj b b' k k' (hG h1) (hG h2),fun b k hb hr=>h.rel.h_ b k (hG hb) hr,h.rel.gw⟩,⟨h.size,fun q v hv=>?_⟩,⟨by rw [<- h.len];exact h.fr.len,h.fr.io,h.fr.os,h.fr.tape,h.fr.output,h.fr.size,h.fr.frame,fun b k hb bn=>h.fr.new b k (hG hb) bn,fun b k hb bn=>h.fr.ro b k (hG hb) bn⟩,kH,h.defers⟩
 .exact (h.rel.aI b k (hG hb)).bw rfl rfl fun i hi c hv=>hv.re (fB b (Qt hb) k hb _ (List.getElem_mem hi)) fun _ _ _=>rfl
 .exact (h.env q ops.size (Zd _) (fun j hj _=>⟨fun _=>hj,fun _=>hall j hj⟩) v hv).re (hE q v hv) fun _ _ _=>rfl
def qH (listed:Array Bool) (j:Nat):Prop:=listed[j]? = some true
theorem Qia:∀ (l:List Bool) (i:Nat),l[i]? = some false->(l.set i true).count false+1=l.count false
 | [],i,h=>by simp at h
 | b::l,0,h=>by simp at h;subst h;simp
 | b::l,i+1,h=>by
  have:=Qia l i (by simpa using h)
  simp only [List.set_cons_succ,List.count_cons]
  omega
theorem Qib {listed:Array Bool} {i:Nat} (h:i∈Region.ready .any ops listed):∃ o,ops[i]? = some o/\listed.getD i true=false/\∀ e∈o.after.toList,Region.binds .any e=true->listed.getD e.on false=true:=by
 unfold Region.ready at h
 simp only [List.mem_filter,List.mem_range,Z8,Bool.not_eq_true'] at h
 obtain ⟨h1,h2,h3⟩:=h
 obtain ⟨o,ho⟩:=Ad h1
 rw [ho] at h3
 simp only [Option.map_some,Option.getD_some] at h3
 refine ⟨o,ho,h2,fun e he hb=>?_⟩
 have:=(Array.all_eq_true'.1 h3) e (by simpa using he)
 rw [hb] at this
 simpa using this
theorem Qtn {listed:Array Bool} {i:Nat} {o:Oper} (ho:ops[i]? = some o) (h2:listed.getD i true=false) (h3:∀ e∈o.after.toList,Region.binds .any e=true->listed.getD e.on false=true):i∈Region.ready .any ops listed:=by
 unfold Region.ready
 simp only [List.mem_filter,List.mem_range,Z8,Bool.not_eq_true']
 refine ⟨oD ho,h2,?_⟩
 rw [ho]
 simp only [Option.map_some,Option.getD_some]
 refine Array.all_eq_true'.2 fun e he=>?_
 cases hb:Region.binds .any e with
 | false=>simp
 | true=>simpa using h3 e (by simpa using he) hb
theorem Qnk {listed:Array Bool} {j:Nat} (h:listed.getD j false=true):qH listed j:=by
 unfold qH
 rw [Array.getD_eq_getD_getElem?] at h
 cases hj:listed[j]? with
 | none=>rw [hj] at h;simp at h
 | some b=>rw [hj] at h;simp at h;rw [h]
theorem Qnl (hr:bG X ops S) {listed:Array Bool} (bf:listed.size=ops.size) (kB:Region.ready .any ops listed=[]):∀ i,i < ops.size->qH listed i:=by
 intro i
 induction i using Nat.strongRecOn with
 | _ i ih =>
  intro hi
  cases hl:listed[i]? with
  | none=>rw [Array.getElem?_eq_getElem (by omega)] at hl;simp at hl
  | some b =>
   cases b with
   | true=>exact hl
   | false =>
    obtain ⟨o,ho⟩:=Ad hi
    have:i∈Region.ready .any ops listed:=Qtn ho (by rw [Array.getD_eq_getD_getElem?,hl];rfl) (fun e he hb=>by
     have au:=hr.Mu ho e he hb
     have:=ih e.on au (by omega)
     unfold qH at this
     rw [Array.getD_eq_getD_getElem?,this];rfl)
    rw [kB] at this
    simp at this
theorem Qic (hr:bG X ops S) (eR:HC X ops S) {Q:Exit->Act->World->Prop}
  (hQ:∀ ι' a' w',Rel ι' (aK (S ops.size).H.length) (S ops.size).H w'->bt ι' (aK (S ops.size).H.length) X.nt (S ops.size).dY a'->Fr ι₀ (S 0).H w₀ ι' (S ops.size).H w'->Ab X.ai (S 0).H (S ops.size).H->a'.defers=[]->Q .normal a' w') :
  ∀ (fuel:Nat) (listed:Array Bool) (ι:Io) (G:af) (m:Nat) (a:Act) (w:World),listed.size=ops.size->listed.toList.count false=fuel->Inv X ops S ι₀ w₀ (qH listed) ι G m a w->wpAny X.P .any ops Q fuel listed a w:=by
 have fin:∀ (listed:Array Bool) (ι:Io) (G:af) (m:Nat) (a:Act) (w:World),listed.size=ops.size->Inv X ops S ι₀ w₀ (qH listed) ι G m a w->Region.ready .any ops listed=[]->Q .normal a w:=by
  intro listed ι G m a w bf h kB
  obtain ⟨h1,h2,h3,h4,h5⟩:=h.done hr (Qnl hr bf kB)
  exact hQ ι a w h1 h2 h3 h4 h5
 intro fuel
 induction fuel with
 | zero =>
  intro listed ι G m a w bf HD h
  have kB:Region.ready .any ops listed=[]:=by
   cases kB:Region.ready .any ops listed with
   | nil=>rfl
   | cons i r =>
    obtain ⟨o,ho,h2,_⟩:=Qib (ops:=ops) (listed:=listed) (i:=i) (by rw [kB];simp)
    have hi:=oD ho
    have:listed[i]? = some false:=by
     rw [Array.getD_eq_getD_getElem?,Array.getElem?_eq_getElem (by omega)] at h2
     rw [Array.getElem?_eq_getElem (by omega)]
     simpa using h2
    have jR:false∈listed.toList:=by rw [<- Array.getElem?_toList] at this;exact Zc this
    rw [List.count_eq_zero] at HD
    exact absurd jR HD
  exact ⟨kB,fin listed ι G m a w bf h kB⟩
 | succ fuel ih =>
  intro listed ι G m a w bf HD h
  refine ⟨fin listed ι G m a w bf h,fun i hi=>?_⟩
  obtain ⟨o,ho,h2,h3⟩:=Qib hi
  have aaf:=oD ho
  have hif:listed[i]? = some false:=by
   rw [Array.getD_eq_getD_getElem?,Array.getElem?_eq_getElem (by omega)] at h2
   rw [Array.getElem?_eq_getElem (by omega)]
   simpa using h2
  have hn:Next ops (qH listed) i o:=by
   refine ⟨ho,fun hL=>?_,fun k hb=>?_⟩
   .unfold qH at hL;rw [hif] at hL;simp at hL
   .obtain ⟨o',e,qE,he,LX,hk⟩:=Qtj hb
    rw [ho] at qE;simp at qE;subst qE
    have hL:=Qnk (h3 e he LX)
    rcases hk with rfl | hk
    .exact hL
    .exact h.down _ _ hL hk
  have Cn:qH (listed.setIfInBounds i true)=jH (qH listed) i:=by
   funext j
   apply propext
   unfold qH jH
   rw [Array.getElem?_setIfInBounds]
   by_cases e:i=j
   .subst e;simp [show i < listed.size by omega]
   .rw [if_neg e]
    constructor
    .exact fun h=>.inl h
    .rintro (h | h)
     .exact h
     .exact absurd h.symm e
  refine h.step hr eR hn fun ι' G' m' a' w' h'=>ih _ ι' G' m' a' w' (by simpa using bf) ?_ (by rw [Cn];exact h')
  have:=Qia listed.toList i (by rw [Array.getElem?_toList];exact hif)
  rw [Array.toList_setIfInBounds]
  omega
theorem Qqi (hr:bG X ops S) (hR:Rel ι₀ (aK (S 0).H.length) (S 0).H w₀) (hE:bt ι₀ (aK (S 0).H.length) X.nt (S 0).dY a) (hd:a.defers=[]) :
  Inv X ops S ι₀ w₀ (qH (Array.replicate ops.size false)) ι₀ ((S 0).H++List.replicate ((S ops.size).H.length - (S 0).H.length) none) 0 a w₀:=by
 have hL:∀ j,¬ qH (Array.replicate ops.size false) j:=by
  intro j h
  unfold qH at h
  rw [Array.getElem?_replicate] at h
  split at h<;>simp at h
 have hle:=hr.bR (m:=0) (i:=ops.size) (by omega) (Zd _)
 have jT:∀ x,aK (S 0).H.length x->gH X ops S 0 (qH (Array.replicate ops.size false)) x:=fun x hx=>.inl hx
 have ah:∀ {x:Nat} {k:bx},Ev.ah ((S 0).H++List.replicate ((S ops.size).H.length - (S 0).H.length) none) x=some k->Ev.ah (S 0).H x=some k:=by
  intro x k hk
  by_cases hx:x < (S 0).H.length
  .rw [E1 hx] at hk;exact hk
  .unfold Ev.ah at hk
   rw [Zq (by omega),List.getElem?_replicate] at hk
   split at hk
   .rename_i h1;split at h1<;>simp at h1
   .simp at hk
 refine ⟨by omega,fun e _ _=>⟨fun h=>absurd h (hL e),fun h=>by omega⟩,.inl rfl,fun j i h=>absurd h (hL j),fun j h=>absurd h (hL j),by simp;omega,fun x hx=>E1 hx,fun i _ _ h=>absurd h (hL i),fun x h1 h2 _=>?_,
  ⟨fun b k hk=>((hR.aI b k (ah hk)).bw rfl rfl fun _ _ _ hv=>hv.mono jT fun _ _=>rfl),fun b b' k k' h1 h2=>hR.inj b b' k k' (ah h1) (ah h2),fun b k hb hr=>hR.h_ b k (ah hb) hr,hR.gw⟩,⟨by simp,fun _ _=>rfl,rfl,rfl,rfl,Zd _,fun _ _ _=>rfl,fun b k hk bn=>.inr ⟨b,k,ah hk,bn,rfl⟩,fun b k hk _=>ah hk⟩,
  hE.size,fun q i hi cV v hv=>?_,hd⟩
 .rw [Zq h1,List.getElem?_replicate,if_pos (by omega)]
 .have eK:∀ j,0<=j->j < i->oa ops j≠some q:=fun j _ hj ot=>hL j ((cV j (by omega) ot).2 hj)
  rw [hr.look (by omega) hi eK] at hv
  exact (hE.get q v hv).mono jT fun _ _=>rfl
end
section
variable {X:Cx}
theorem Wh (hX:oK X.P X.call) {β:Type} {r:β} {ops:Array Oper} {K:List (Env×af)->Env->af->Option β}:∀ (l:List Oper) (env:Env) (H:af) (tr:List (Env×af)),zL X ops l env H tr K=some r->dH (aK H.length) env->Ql H.length H ->
  ∃ Es ak H',K Es ak H'=some r/\dH (aK H'.length) ak/\Ql H'.length H'/\Ab X.ai H H'
 | [],env,H,tr,h,hE,hc=>⟨_,env,H,h,hE,hc,Ab.refl _ _⟩
 | o::l,env,H,tr,h,hE,hc=>by
  unfold zL at h
  obtain ⟨t,fQ,h,hw⟩:=Rh (nt:=X.nt) h
  have vq:=hw.lt _ hE
  cases t with
  | true =>
   simp only at h
   obtain ⟨v,H',h,hF⟩:=Q_ hX h
   obtain ⟨kH,It⟩:=NV hF vq hc
   obtain ⟨b_,h,hp⟩:=C9 h
   obtain ⟨Es,ak,H2,g1,g2,g3,g4⟩:=Wh hX l b_ H' _ h (J_ (vq.mono (aK.mono kH.len)) It hp) (kH.all hc)
   exact ⟨Es,ak,H2,g1,g2,g3,kH.trans g4⟩
  | false =>
   simp only at h
   obtain ⟨b_,h,hp⟩:=C9 h
   exact Wh hX l b_ H _ h (J_ vq (JY _) hp) hc
theorem Qzk (hX:oK X.P X.call):Pf X:=by
 intro β ops env H K r h hE hc
 unfold GZ at h
 split at h
 .obtain ⟨Es,ak,H',h1,h2,h3,h4⟩:=Wh hX _ _ _ _ h hE hc
  exact ⟨ak,H',(Pj h1).1,h2,h3,h4⟩
 .simp at h
theorem Qzl (hX:oK X.P X.call) (hm:X.P.follows .mixedOrders=true):Pe X:=by
 intro β id ops env H K r h ι a w hR hE hd Q hQ
 unfold GZ at h
 split at h
 .rename_i c_
  obtain ⟨S,g1,g2,g3,g4,g5⟩:=Q9z hX _ _ _ _ h
  obtain ⟨g6,g7⟩:=Pj g5
  have hN:ops.toList.length=ops.size:=by simp
  rw [hN] at g3 g6 g7
  have hr:bG X ops S:=⟨fun k o hk=>g4 k o (by rw [Array.getElem?_toList];exact hk),c_,by rw [g1,g2];exact hE.lt,by rw [g2];exact hR.closed⟩
  have MH:∀ k,k<=ops.size->((((List.range (ops.size+1)).map fun k=>((S k).env,(S k).H)).reverse++[]).reverse)[k]? = some ((S k).env,(S k).H):=by
   intro k hk
   simp only [List.append_nil,List.reverse_reverse,List.getElem?_map]
   rw [List.getElem?_range (by omega)];rfl
  have eR:HC X ops S:=by
   intro i o ho hc m aE
   have hi:=oD ho
   have Ct:m<=ops.size:=by
    unfold GX at aE
    simp only [List.mem_cons,List.mem_map] at aE
    rcases aE with e | ⟨e,he,rfl⟩
    .split at e
     .rename_i e' r Ah
      have:e'∈(((List.range ops.size).filter fun e=>Nat.beq (cJ X.P ops e) 3).filter fun e=>iA (Region.before ops) i e):=by
       rw [<- List.mem_reverse,Ah];simp
      simp only [List.mem_filter,List.mem_range] at this
      omega
     .omega
    .simp only [List.mem_filter,List.mem_range] at he
     omega
   rcases g7 i (by simp;exact hi) hc o ho m aE with hq | ⟨s,q,hs,hq,kB⟩
   .rcases Bool.or_eq_true_iff.1 hq with hq | hq
    rotate_left
    .right
     unfold I8 at hq
     split at hq
     .rename_i t ht
      simp only [List.any_eq_true,List.mem_range,Z8,List.all_eq_true,Bool.or_eq_true,Bool.not_eq_true'] at hq
      obtain ⟨k,Wd,⟨⟨⟨h1,h2⟩,h3⟩,h4⟩,h6⟩:=hq
      cases c_:ops[k]? with
      | none=>rw [c_] at h4;simp at h4
      | some ok =>
       rw [c_] at h4
       simp only [Z8,Option.isNone_iff_eq_none] at h4
       obtain ⟨h4,h5⟩:=h4
       cases hd:ok.dst with
       | none=>rw [hd] at h5;simp at h5
       | some d =>
        rw [hd] at h5
        have h5:=Z7 h5
        refine ⟨t,k,ok,ht,Zi h1,Wd,h2,Z7 h3,c_,h4,by rw [hd,h5],fun j Ur uH=>?_⟩
        rcases h6 j uH with h7 | ⟨h7,h8⟩
        .have:=Zi h7;omega
        .refine ⟨fun Po=>?_,fun Po=>?_⟩
         .rw [Po] at h7;simp at h7
         .unfold oa at Po;rw [Po] at h8;simp at h8
     .simp at hq
    left
    have Ai:∀ k,min m i<=k->k < max m i->cJ X.P ops k < 2:=by
     intro k h1 h2
     by_cases hk:k < ops.size
     .unfold I7 at hq
      simp only [List.all_eq_true,List.mem_range] at hq
      have:=hq k hk
      have e1:Nat.ble (min m i) k=true:=Nat.ble_eq_true_of_le h1
      have e2:Nat.blt k (max m i)=true:=by simp [Nat.blt];omega
      rw [e1,e2] at this
      simp only [Bool.and_self,Zl,Bool.false_or] at this
      have h3:cJ X.P ops k+1<=2:=by simpa [Nat.blt] using this
      omega
     .rw [Qtl hk];omega
    have hH:(S m).H=(S i).H:=by
     rcases Nat.le_total m i with hle | hle
     .exact (hr.const (lo:=m) (hi:=i) hle (by omega) (fun k h1 h2=>Ai k (by omega) (by omega))).symm
     .exact hr.const (lo:=i) (hi:=m) hle Ct (fun k h1 h2=>Ai k (by omega) (by omega))
    rw [hH]
   .rw [MH i (by omega)] at hs
    rw [MH m Ct] at hq
    simp at hs hq
    subst hs;subst hq
    exact .inl kB
  refine wp_region_any hm ?_
  have Rk:Rel ι (aK (S 0).H.length) (S 0).H { w with drawn:=w.drawn+1 }:=by rw [g2];exact hR.bz rfl
  have VX:bt ι (aK (S 0).H.length) X.nt (S 0).dY a:=by rw [g1,g2];exact hE
  have HE:=Qqi hr Rk VX hd
  refine Qic hr eR (Q:=Q) ?_ ops.size _ _ _ _ _ _ (by simp) (by simp) HE
  intro ι' a' w' h1 h2 h3 h4 h5
  refine hQ (S ops.size).dY ι' (S ops.size).H a' w' h1 h2 ?_ (by rw [<- g2];exact h4) h5 g6
  rw [g2] at h3
  exact ((Fr.refl ι H w).bz (w'':={ w with drawn:=w.drawn+1 }) rfl rfl rfl rfl).trans h3
 .simp at h
end
theorem Qqj {P:Program} {A:B8} (hm:P.follows .mixedOrders=true) (hA:O_ P A) (d:Nat):oK P (run P A d) :=
 Qvf hA (fun X hP hc=>⟨Qzl (by rw [hP];exact hc) (by rw [hP];exact hm),Qzk (by rw [hP];exact hc)⟩) d
end Go.Ev
