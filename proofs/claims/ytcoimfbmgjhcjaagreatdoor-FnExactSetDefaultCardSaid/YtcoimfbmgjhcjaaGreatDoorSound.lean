/-
  The end of a call: its results, and the blocks that stay. And what stood behind it in 4 texts.
  Conditions: said at the theorems.
-/
import Derived.Test.YtcoimfbmgjhcjaaGreatDoorCode
set_option linter.unusedVariables false
set_option linter.unusedSimpArgs false
namespace Go.Ev
section
variable {P:Program} {nt:Nat} {env:Env} {H:af}
theorem VS {ι:Io} {D:Nat->Prop} {a:Act} {w:World} (hR:Rel ι D H w) (hE:bt ι D nt env a):∀ {l:List ResultVar} {vs:List Value},iB P env H l=some vs ->
  ∃ cs:List Value,aZ ι D vs cs/\(l.mapM fun (x:ResultVar)=>(match x with | .tmp t=>pure (a.tmps.getD t undef) | .cell b t=>do loadVar t (<- asAddr (a.tmps.getD b undef)):Sem Value)).run P w=.ok cs w
 | [],vs,h=>by simp [iB] at h;subst h;exact ⟨[],aZ.nil _ _,by simp⟩
 | .tmp t::l,vs,h=>by
  simp only [iB] at h
  replace h:=Q2 h;obtain ⟨v,hv,h⟩:=h
  replace h:=Q2 h;obtain ⟨r,hr,h⟩:=h
  simp at h;subst h
  obtain ⟨cs,h1,h2⟩:=VS hR hE hr
  refine ⟨_,aZ.cons (hE.get t v hv) h1,?_⟩
  simp only [List.mapM_cons,Sem.run_bind,Sem.run_pure,Result.andThen_ok,h2]
 | .cell b t::l,vs,h=>by
  simp only [iB] at h
  replace h:=Q2 h;obtain ⟨v,hv,h⟩:=h
  split at h
  .rename_i p
   have hp:=(hE.get b _ hv).dy.1
   have VT:(asAddr (a.tmps.getD b undef)).run P w=.ok (ι.addr p) w:=by rw [hp];rfl
   replace h:=Q2 h;obtain ⟨i,hi,h⟩:=h
   have key:∀ (u:Value) (c:Value) (r:List Value),iB P env H l=some r->vs=u::r->ay ι D u c->(loadVar t (ι.addr p)).run P w=.ok c w->∃ cs:List Value,aZ ι D vs cs /\
     ((ResultVar.cell b t::l).mapM fun (x:ResultVar)=>(match x with | .tmp t=>pure (a.tmps.getD t undef) | .cell b t=>do loadVar t (<- asAddr (a.tmps.getD b undef)):Sem Value)).run P w=.ok cs w:=by
    intro u c r hr e hu hl
    subst e
    obtain ⟨cs,h1,h2⟩:=VS hR hE hr
    refine ⟨c::cs,aZ.cons hu h1,?_⟩
    simp only [List.mapM_cons,Sem.run_bind,Sem.run_pure,Result.andThen_ok,VT,hl,h2]
   have mX:∀ (d:TypeDesc) (l' r:List Value),P.underlying t=some d->((∃ fs,d=.struct fs)\/∃ n e,d=.array n e)->Qx H p i.size=some l'->iB P env H l=some r->vs=.agg l'.toArray::r->∃ cs:List Value,aZ ι D vs cs /\
     ((ResultVar.cell b t::l).mapM fun (x:ResultVar)=>(match x with | .tmp t=>pure (a.tmps.getD t undef) | .cell b t=>do loadVar t (<- asAddr (a.tmps.getD b undef)):Sem Value)).run P w=.ok cs w:=by
    intro d l' r hu hd hl hr e
    obtain ⟨cs,h1,h2,h3,h4⟩:=hR.we hl
    have aT:=run_loadCells_list (P:=P) w (ι.addr p) cs h3
    rw [h1] at aT
    have ha:(isAgg t).run P w=.ok true w:=by
     rcases hd with ⟨fs,rfl⟩ | ⟨n,e,rfl⟩<;>simp [isAgg,run_underlying hu]
    exact key _ (.agg cs.toArray) r hr e (aZ.bZ h2) (by simp only [loadVar,Sem.run_bind,ha,Result.andThen_ok,if_true,sizeOf,typeInfo,run_program,hi,Sem.run_pure,aT])
   split at h
   .rename_i fs hu
    replace h:=Q2 h;obtain ⟨l',hl,h⟩:=h
    replace h:=Q2 h;obtain ⟨r,hr,h⟩:=h
    simp at h
    exact mX _ l' r hu (.inl ⟨_,rfl⟩) hl hr h.symm
   .rename_i n e hu
    replace h:=Q2 h;obtain ⟨l',hl,h⟩:=h
    replace h:=Q2 h;obtain ⟨r,hr,h⟩:=h
    simp at h
    exact mX _ l' r hu (.inr ⟨_,_,rfl⟩) hl hr h.symm
   .rename_i d n1 n2 hu
    replace h:=Q2 h;obtain ⟨u,hl,h⟩:=h
    replace h:=Q2 h;obtain ⟨r,hr,h⟩:=h
    simp at h
    obtain ⟨c,h1,h2,h3⟩:=hR.load hl
    have ha:(isAgg t).run P w=.ok false w:=by
     simp only [isAgg,Sem.run_bind,run_underlying hu,Result.andThen_ok]
     cases d<;>first | rfl | exact absurd rfl (n1 _) | exact absurd rfl (n2 _ _)
    exact key u c r hr h.symm h2 (by simp only [loadVar,Sem.run_bind,ha,Result.andThen_ok,Bool.false_eq_true,if_false,run_load,h1])
   .simp at h
  .simp at h
theorem Mq:∀ {l:List ResultVar} {vs:List Value},iB P env H l=some vs->dF (aK H.length) env->Ql H.length H->gI (aK H.length) vs
 | [],vs,h,_,_=>by simp [iB] at h;subst h;intro v hv;simp at hv
 | .tmp t::l,vs,h,hE,hc=>by
  simp only [iB] at h
  replace h:=Q2 h;obtain ⟨v,hv,h⟩:=h
  replace h:=Q2 h;obtain ⟨r,hr,h⟩:=h
  simp at h;subst h
  intro u hu
  rcases Z2 hu with rfl | hu
  .exact hE t _ hv
  .exact Mq hr hE hc u hu
 | .cell b t::l,vs,h,hE,hc=>by
  simp only [iB] at h
  replace h:=Q2 h;obtain ⟨v,hv,h⟩:=h
  split at h
  .rename_i p
   replace h:=Q2 h;obtain ⟨i,hi,h⟩:=h
   split at h
   .replace h:=Q2 h;obtain ⟨l',hl,h⟩:=h
    replace h:=Q2 h;obtain ⟨r,hr,h⟩:=h
    simp at h;subst h
    intro u hu
    rcases Z2 hu with rfl | hu
    .exact bK.bZ (NL hl hc)
    .exact Mq hr hE hc u hu
   .replace h:=Q2 h;obtain ⟨l',hl,h⟩:=h
    replace h:=Q2 h;obtain ⟨r,hr,h⟩:=h
    simp at h;subst h
    intro u hu
    rcases Z2 hu with rfl | hu
    .exact bK.bZ (NL hl hc)
    .exact Mq hr hE hc u hu
   .replace h:=Q2 h;obtain ⟨l',hl,h⟩:=h
    replace h:=Q2 h;obtain ⟨r,hr,h⟩:=h
    simp at h;subst h
    intro u hu
    rcases Z2 hu with rfl | hu
    .exact XU hl hc
    .exact Mq hr hE hc u hu
   .simp at h
  .simp at h
theorem VU:∀ {l:List Nat} {b j:Nat},Ee l b=some j->l[j]? = some b
 | [],b,j,h=>by simp [Ee] at h
 | x::l,b,j,h=>by
  unfold Ee at h
  split at h
  .rename_i e;simp at h;subst h;simp [e]
  .replace h:=Q2 h;obtain ⟨i,hi,h⟩:=h
   simp at h;subst h
   simpa using VU hi
theorem Qdh:∀ {l:List Nat} {b:Nat},Ee l b=none->b∉l
 | [],b,h=>by simp
 | x::l,b,h=>by
  unfold Ee at h
  split at h
  .simp at h
  .rename_i e
   cases hp:Ee l b with
   | some i=>rw [hp] at h;simp [Q1] at h
   | none =>
    have:=Qdh hp
    simp only [List.mem_cons,not_or]
    exact ⟨fun h=>e h.symm,this⟩
structure mh (base:Nat) (H:af) (olds:List Nat):Prop where
 nodup:olds.Nodup
 aI:∀ b∈olds,base<=b/\∃ k,ah H b=some k/\k.cells.all (OR base)=true
def Io.mv (ι:Io) (base:Nat) (olds:List Nat):Io:=fun x=>if x < base then ι x else match olds[x - base]? with | some b=>ι b | none=>ι x
theorem Io.fM (ι:Io) {base x:Nat} (olds:List Nat) (h:x < base):ι.mv base olds x=ι x:=by simp [Io.mv,h]
theorem Io.gu (ι:Io) {base j b:Nat} {olds:List Nat} (h:olds[j]? = some b):ι.mv base olds (base+j)=ι b:=by
 simp only [Io.mv,show ¬ (base+j < base) by omega,if_false,show base+j - base=j by omega,h]
theorem Qdi {base:Nat} {olds aP:List Nat} {b x:Nat} (h:I6 base H olds b=some (x,aP)) (ho:mh base H olds) :
  mh base H aP/\olds <+: aP/\∀ (ι:Io) (fin:List Nat),aP <+: fin->ι.mv base fin x=ι b/\x < base+fin.length:=by
 unfold I6 at h
 split at h
 .rename_i hb
  simp at h;obtain ⟨rfl,rfl⟩:=h
  exact ⟨ho,List.prefix_refl _,fun ι fin _=>⟨Io.fM ι fin hb,by omega⟩⟩
 .rename_i hb
  split at h
  .rename_i j hj
   simp at h;obtain ⟨rfl,rfl⟩:=h
   refine ⟨ho,List.prefix_refl _,fun ι fin hp=>?_⟩
   have Jg:=VU hj
   obtain ⟨t,rfl⟩:=hp
   have au:j < olds.length:=(Z0 Jg).1
   refine ⟨Io.gu ι (by rw [List.getElem?_append_left au];exact Jg),by simp;omega⟩
  .rename_i hj
   replace h:=Q2 h;obtain ⟨k,hk,h⟩:=h
   split at h
   .rename_i hl
    simp at h;obtain ⟨rfl,rfl⟩:=h
    refine ⟨⟨?_,?_⟩,List.prefix_append _ _,fun ι fin hp=>?_⟩
    .rw [Zn]
     refine ⟨ho.nodup,by simp,?_⟩
     intro y hy z hz
     simp at hz;subst hz
     exact fun e=>Qdh hj (e▸hy)
    .intro y hy
     rcases List.mem_append.1 hy with hy | hy
     .exact ho.aI y hy
     .simp at hy;subst hy;exact ⟨by omega,k,hk,hl⟩
    .obtain ⟨t,rfl⟩:=hp
     exact ⟨Io.gu ι (by simp),by simp⟩
   .simp at h
theorem Qtc {v c:Value} (hl:Qu v=true) {ι:Io} {D:Nat->Prop} (hv:ay ι D v c) (ι':Io) (E:Nat->Prop):ay ι' E v c :=
 ay.mono (ι:=ι') (D:=fun _=>False) (hv.re (sP hl _) fun _ _ h=>h.elim) (fun _ h=>h.elim) (fun _ h=>h.elim)
structure VV (base:Nat) (H:af) (olds aP:List Nat) (v v':Value):Prop where
 ok:mh base H aP
 pre:olds <+: aP
 rel:∀ (ι:Io) (D:Nat->Prop) (fin:List Nat) (c:Value),aP <+: fin->ay ι D v c->ay (ι.mv base fin) (aK (base+fin.length)) v' c
theorem Qi3 {base:Nat} {olds aP:List Nat} {v v':Value} (h:B_ base H olds v=some (v',aP)) (ho:mh base H olds):VV base H olds aP v v':=by
 unfold B_ at h
 split at h
 .rename_i a
  replace h:=Q2 h;obtain ⟨⟨x,o'⟩,hb,h⟩:=h
  simp at h;obtain ⟨rfl,rfl⟩:=h
  obtain ⟨h1,h2,h3⟩:=Qdi hb ho
  refine ⟨h1,h2,fun ι D fin c hp hv=>?_⟩
  obtain ⟨e,hD⟩:=hv.dy
  obtain ⟨g1,g2⟩:=h3 ι fin hp
  have:=ay.ptr (ι:=ι.mv base fin) (D:=aK (base+fin.length)) ⟨x,a.off,none⟩ g2
  rw [e]
  simp only [Io.addr] at this ⊢
  rw [g1] at this
  exact this
 .rename_i a n c
  replace h:=Q2 h;obtain ⟨⟨x,o'⟩,hb,h⟩:=h
  simp at h;obtain ⟨rfl,rfl⟩:=h
  obtain ⟨h1,h2,h3⟩:=Qdi hb ho
  refine ⟨h1,h2,fun ι D fin c hp hv=>?_⟩
  obtain ⟨g1,g2⟩:=h3 ι fin hp
  cases hv with
  | eZ _ _ _ cap hD hl hc =>
   have:=ay.eZ (ι:=ι.mv base fin) (D:=aK (base+fin.length)) ⟨x,a.off,none⟩ n _ cap g2 hl (by simp only [g1];exact hc)
   simp only [Io.addr] at this ⊢
   rw [g1] at this
   exact this
  | bD _ b _ hD=>exact .bD _ _ _ g2
 .split at h
  .rename_i hl
   simp at h;obtain ⟨rfl,rfl⟩:=h
   exact ⟨ho,List.prefix_refl _,fun ι D fin c hp hv=>Qtc hl hv _ _⟩
  .simp at h
structure z_ (base:Nat) (H:af) (olds aP:List Nat) (vs cy:List Value):Prop where
 ok:mh base H aP
 pre:olds <+: aP
 rel:∀ (ι:Io) (D:Nat->Prop) (fin:List Nat) (cs:List Value),aP <+: fin->aZ ι D vs cs->aZ (ι.mv base fin) (aK (base+fin.length)) cy cs
theorem z_.nil {base:Nat} {olds:List Nat} (ho:mh base H olds):z_ base H olds olds [] [] :=
 ⟨ho,List.prefix_refl _,fun ι D fin cs _ h=>by
  have:cs=[]:=Z1 (by have:=h.1;simpa using this.symm)
  subst this;exact aZ.nil _ _⟩
theorem z_.cons {base:Nat} {o1 o2 o3:List Nat} {v v':Value} {vs cy:List Value} (h:VV base H o1 o2 v v') (g:z_ base H o2 o3 vs cy):z_ base H o1 o3 (v::vs) (v'::cy) :=
 ⟨g.ok,h.pre.trans g.pre,fun ι D fin cs hp hl=>by
  cases cs with
  | nil=>exact absurd hl.1 (by simp)
  | cons c cs=>exact aZ.cons (h.rel ι D fin c (g.pre.trans hp) hl.head) (g.rel ι D fin cs hp hl.tail)⟩
theorem Qbl {base:Nat}:∀ {vs cy:List Value} {olds aP:List Nat},A5 base H olds vs=some (cy,aP)->mh base H olds->z_ base H olds aP vs cy
 | [],cy,olds,aP,h,ho=>by simp [A5] at h;obtain ⟨rfl,rfl⟩:=h;exact z_.nil ho
 | v::vs,cy,olds,aP,h,ho=>by
  simp only [A5] at h
  replace h:=Q2 h;obtain ⟨⟨x,o1⟩,h1,h⟩:=h
  replace h:=Q2 h;obtain ⟨⟨y,o2⟩,h2,h⟩:=h
  simp at h;obtain ⟨rfl,rfl⟩:=h
  have g1:=Qi3 h1 ho
  exact z_.cons g1 (Qbl h2 g1.ok)
theorem Qtd {base:Nat} {olds aP:List Nat} {v v':Value} (h:I7 base H olds v=some (v',aP)) (ho:mh base H olds):VV base H olds aP v v':=by
 unfold I7 at h
 split at h
 .rename_i cs
  replace h:=Q2 h;obtain ⟨⟨x,o1⟩,h1,h⟩:=h
  simp at h;obtain ⟨rfl,rfl⟩:=h
  have g:=Qbl h1 ho
  refine ⟨g.ok,g.pre,fun ι D fin c hp hv=>?_⟩
  obtain ⟨ys,rfl,hl⟩:=hv.eN
  exact aZ.bZ (xs:=x.toArray) (g.rel ι D fin _ hp hl)
 .exact Qi3 h ho
theorem VW {base:Nat}:∀ {vs cy:List Value} {olds aP:List Nat},vV base H olds vs=some (cy,aP)->mh base H olds->z_ base H olds aP vs cy
 | [],cy,olds,aP,h,ho=>by simp [vV] at h;obtain ⟨rfl,rfl⟩:=h;exact z_.nil ho
 | v::vs,cy,olds,aP,h,ho=>by
  simp only [vV] at h
  replace h:=Q2 h;obtain ⟨⟨x,o1⟩,h1,h⟩:=h
  replace h:=Q2 h;obtain ⟨⟨y,o2⟩,h2,h⟩:=h
  simp at h;obtain ⟨rfl,rfl⟩:=h
  have g1:=Qtd h1 ho
  exact z_.cons g1 (VW h2 g1.ok)
theorem Ct {base:Nat} {olds:List Nat} (hb:base<=H.length) {x:Nat} {k:bx} (h:ah (H.take base++olds.map (ah H)) x=some k) :
  (x < base/\ah H x=some k)\/∃ j b,x=base+j/\olds[j]? = some b/\ah H b=some k:=by
 have hlen:(H.take base).length=base:=by simp;omega
 by_cases hx:x < base
 .rw [E6 (by omega),Qpw hx] at h;exact .inl ⟨hx,h⟩
 .right
  unfold ah at h
  rw [Zq (by omega),hlen,List.getElem?_map] at h
  cases ho:olds[x - base]? with
  | none=>rw [ho] at h;simp at h
  | some b =>
   rw [ho] at h
   simp only [Option.map_some] at h
   refine ⟨x - base,b,by omega,ho,?_⟩
   split at h
   .rename_i k' he
    simp at h he;subst h;exact he
   .simp at h
theorem Qnh {ι₀ ι:Io} {H₀:af} {w₀ w:World} {vs cy cs:List Value} {olds:List Nat} (hR:Rel ι (aK H.length) H w) (hF:Fr ι₀ H₀ w₀ ι H w) (fq:Ql H₀.length H) (hm:vV H₀.length H [] vs=some (cy,olds)) (hl:aZ ι (aK H.length) vs cs) :
  Rel (ι.mv H₀.length olds) (aK (H.take H₀.length++olds.map (ah H)).length) (H.take H₀.length++olds.map (ah H)) w/\Fr ι₀ H₀ w₀ (ι.mv H₀.length olds) (H.take H₀.length++olds.map (ah H)) w /\
  aZ (ι.mv H₀.length olds) (aK (H.take H₀.length++olds.map (ah H)).length) cy cs:=by
 have cZ:=VW hm ⟨List.nodup_nil,by simp⟩
 have hlen:(H.take H₀.length++olds.map (ah H)).length=H₀.length+olds.length:=by simp;have:=hF.len;omega
 have fc:∀ {b:Nat} {k:bx},ah H b=some k->(b < H₀.length\/b∈olds)->∀ v∈k.cells,bK (aK H₀.length) v:=by
  intro b k hk hb v hv
  rcases hb with hb | hb
  .exact fq b hb k hk v hv
  .obtain ⟨_,k',cV,hall⟩:=cZ.ok.aI b hb
   rw [hk] at cV;simp at cV;subst cV
   exact Qhr (Z3 hall v hv)
 have oO:∀ {v c:Value},bK (aK H₀.length) v->ay ι (aK H.length) v c->ay (ι.mv H₀.length olds) (aK (H₀.length+olds.length)) v c:=by
  intro v c hv hr
  exact ay.mono (hr.re (ι':=ι) hv fun _ _ _=>rfl) (aK.mono (by omega)) fun b hb=>Io.fM ι olds hb
 rw [hlen]
 refine ⟨⟨fun x k hx=>?_,fun x x' k k' hx mA aU bn=>?_,fun x k hx hr=>(by
  rcases Ct hF.len hx with ⟨h1,h2⟩ | ⟨j,b,rfl,h1,h2⟩
  .rw [Io.fM ι olds h1];exact hR.h_ x k h2 hr
  .rw [Io.gu ι h1];exact hR.h_ b k h2 hr),hR.gw⟩,⟨by rw [hlen];omega,fun b hb=>by rw [Io.fM ι olds hb];exact hF.io b hb,hF.os,hF.tape,hF.output,hF.size,hF.frame,fun x k hx hr=>?_,fun x k hx hr=>?_⟩,cZ.rel ι _ olds cs (List.prefix_refl _) hl⟩
 .rcases Ct hF.len hx with ⟨h1,h2⟩ | ⟨j,b,rfl,h1,h2⟩
  .exact (hR.aI x k h2).bw rfl (Io.fM ι olds h1) fun i hi c hr=>oO (fc h2 (.inl h1) _ (List.getElem_mem hi)) hr
  .exact (hR.aI b k h2).bw rfl (Io.gu ι h1) fun i hi c hr=>oO (fc h2 (.inr (Zc h1)) _ (List.getElem_mem hi)) hr
 .rcases Ct hF.len hx with ⟨h1,h2⟩ | ⟨j,b,rfl,h1,h2⟩
  .rcases Ct hF.len mA with ⟨g1,g2⟩ | ⟨j',b',rfl,g1,g2⟩
   .rw [Io.fM ι olds h1,Io.fM ι olds g1];exact hR.inj x x' k k' h2 g2 aU bn
   .rw [Io.fM ι olds h1,Io.gu ι g1]
    have:=(cZ.ok.aI b' (Zc g1)).1
    exact hR.inj x b' k k' h2 g2 (by omega) bn
  .rcases Ct hF.len mA with ⟨g1,g2⟩ | ⟨j',b',rfl,g1,g2⟩
   .rw [Io.gu ι h1,Io.fM ι olds g1]
    have:=(cZ.ok.aI b (Zc h1)).1
    exact hR.inj b x' k k' h2 g2 (by omega) bn
   .rw [Io.gu ι h1,Io.gu ι g1]
    refine hR.inj b b' k k' h2 g2 (fun e=>aU ?_) bn
    subst e
    have hj:=(Z0 h1)
    have Jg:=(Z0 g1)
    obtain ⟨q1,q2⟩:=hj
    obtain ⟨q3,q4⟩:=Jg
    have hnd:=List.pairwise_iff_getElem.1 cZ.ok.nodup
    rcases Nat.lt_trichotomy j j' with hl | hl | hl
    .exact absurd (q2.trans q4.symm) (hnd j j' q1 q3 hl)
    .omega
    .exact absurd (q4.trans q2.symm) (hnd j' j q3 q1 hl)
 .rcases Ct hF.len hx with ⟨h1,h2⟩ | ⟨j,b,rfl,h1,h2⟩
  .rw [Io.fM ι olds h1];exact hF.new x k h2 hr
  .rw [Io.gu ι h1];exact hF.new b k h2 hr
 .rcases Ct hF.len hx with ⟨h1,h2⟩ | ⟨j,b,rfl,h1,h2⟩
  .exact hF.ro x k h2 hr
  .have:=Qt (hF.ro b k h2 hr)
   have:=(cZ.ok.aI b (Zc h1)).1
   omega
theorem Qdj {base:Nat} {olds aP:List Nat} {b x:Nat} (h:I6 base H olds b=some (x,aP)):olds <+: aP/\∀ fin:List Nat,aP <+: fin->x < base+fin.length:=by
 unfold I6 at h
 split at h
 .simp at h;obtain ⟨rfl,rfl⟩:=h;exact ⟨List.prefix_refl _,fun fin _=>by omega⟩
 .split at h
  .rename_i j hj
   simp at h;obtain ⟨rfl,rfl⟩:=h
   refine ⟨List.prefix_refl _,fun fin hp=>?_⟩
   have au:=(Z0 (VU hj)).1
   have:=hp.length_le
   omega
  .replace h:=Q2 h;obtain ⟨k,hk,h⟩:=h
   split at h
   .simp at h;obtain ⟨rfl,rfl⟩:=h
    refine ⟨List.prefix_append _ _,fun fin hp=>?_⟩
    have:=hp.length_le
    simp at this;omega
   .simp at h
theorem Qi4 {base:Nat} {olds aP:List Nat} {v v':Value} (h:B_ base H olds v=some (v',aP)):olds <+: aP/\∀ fin:List Nat,aP <+: fin->bK (aK (base+fin.length)) v':=by
 unfold B_ at h
 split at h
 .replace h:=Q2 h;obtain ⟨⟨x,o'⟩,hb,h⟩:=h
  simp at h;obtain ⟨rfl,rfl⟩:=h
  obtain ⟨g1,g2⟩:=Qdj hb
  exact ⟨g1,fun fin hp=>.ptr _ (g2 fin hp)⟩
 .replace h:=Q2 h;obtain ⟨⟨x,o'⟩,hb,h⟩:=h
  simp at h;obtain ⟨rfl,rfl⟩:=h
  obtain ⟨g1,g2⟩:=Qdj hb
  exact ⟨g1,fun fin hp=>.sl _ _ _ (g2 fin hp)⟩
 .split at h
  .rename_i hl
   simp at h;obtain ⟨rfl,rfl⟩:=h
   exact ⟨List.prefix_refl _,fun fin _=>sP hl _⟩
  .simp at h
theorem Qbn {base:Nat}:∀ {vs cy:List Value} {olds aP:List Nat},A5 base H olds vs=some (cy,aP)->olds <+: aP/\∀ fin:List Nat,aP <+: fin->gI (aK (base+fin.length)) cy
 | [],cy,olds,aP,h=>by simp [A5] at h;obtain ⟨rfl,rfl⟩:=h;exact ⟨List.prefix_refl _,fun _ _ v hv=>by simp at hv⟩
 | v::vs,cy,olds,aP,h=>by
  simp only [A5] at h
  replace h:=Q2 h;obtain ⟨⟨x,o1⟩,h1,h⟩:=h
  replace h:=Q2 h;obtain ⟨⟨y,o2⟩,h2,h⟩:=h
  simp at h;obtain ⟨rfl,rfl⟩:=h
  obtain ⟨g1,g2⟩:=Qi4 h1
  obtain ⟨g3,g4⟩:=Qbn h2
  refine ⟨g1.trans g3,fun fin hp u hu=>?_⟩
  rcases Z2 hu with rfl | hu
  .exact g2 fin (g3.trans hp)
  .exact g4 fin hp u hu
theorem Qi5 {base:Nat}:∀ {vs cy:List Value} {olds aP:List Nat},vV base H olds vs=some (cy,aP)->olds <+: aP/\∀ fin:List Nat,aP <+: fin->gI (aK (base+fin.length)) cy
 | [],cy,olds,aP,h=>by simp [vV] at h;obtain ⟨rfl,rfl⟩:=h;exact ⟨List.prefix_refl _,fun _ _ v hv=>by simp at hv⟩
 | v::vs,cy,olds,aP,h=>by
  simp only [vV] at h
  replace h:=Q2 h;obtain ⟨⟨x,o1⟩,h1,h⟩:=h
  replace h:=Q2 h;obtain ⟨⟨y,o2⟩,h2,h⟩:=h
  simp at h;obtain ⟨rfl,rfl⟩:=h
  have g12:olds <+: o1/\∀ fin:List Nat,o1 <+: fin->bK (aK (base+fin.length)) x:=by
   unfold I7 at h1
   split at h1
   .replace h1:=Q2 h1;obtain ⟨⟨z,o3⟩,h3,h1⟩:=h1
    simp at h1;obtain ⟨rfl,rfl⟩:=h1
    obtain ⟨k1,k2⟩:=Qbn h3
    exact ⟨k1,fun fin hp=>bK.bZ (k2 fin hp)⟩
   .exact Qi4 h1
  obtain ⟨g3,g4⟩:=Qi5 h2
  refine ⟨g12.1.trans g3,fun fin hp u hu=>?_⟩
  rcases Z2 hu with rfl | hu
  .exact g12.2 fin (g3.trans hp)
  .exact g4 fin hp u hu
theorem Qqc {ai:Nat} {H₀:af} {vs cy:List Value} {olds:List Nat} (ha:Ab H₀.length H₀ H) (hc₀:Ql H₀.length H₀) (hm:vV H₀.length H [] vs=some (cy,olds)) :
  Ab ai H₀ (H.take H₀.length++olds.map (ah H))/\gI (aK (H.take H₀.length++olds.map (ah H)).length) cy:=by
 have cZ:=VW hm ⟨List.nodup_nil,by simp⟩
 have hlen:(H.take H₀.length++olds.map (ah H)).length=H₀.length+olds.length:=by simp;have:=ha.len;omega
 have fq:=ha.closed H₀.length (Zd _) (Zd _) hc₀
 refine ⟨⟨by rw [hlen];omega,fun _=>?_,fun m _ aE hcm=>?_⟩,?_⟩
 .rw [hlen]
  intro x _ k hx v hv
  rcases Ct ha.len hx with ⟨h1,h2⟩ | ⟨j,b,rfl,h1,h2⟩
  .exact (fq x h1 k h2 v hv).mono (aK.mono (by omega))
  .obtain ⟨_,k',cV,hall⟩:=cZ.ok.aI b (Zc h1)
   rw [h2] at cV;simp at cV;subst cV
   exact (Qhr (Z3 hall v hv)).mono (aK.mono (by omega))
 .intro x mA k hx v hv
  rcases Ct ha.len hx with ⟨h1,h2⟩ | ⟨j,b,rfl,h1,h2⟩
  .exact ha.closed m aE aE hcm x mA k h2 v hv
  .omega
 .rw [hlen];exact (Qi5 hm).2 olds (List.prefix_refl _)
end
theorem Qi6 {P:Program} {c:Code} {Q:Exit->Act->World->Prop} {a:Act} {w:World} (I:Nat->Act->World->Prop) {n:Nat} (h₀:I n a w)
  (round:∀ n a w,I n a w->c.wp P (Exit.then (fun a' w'=>∃ n',n' < n/\I n' a' w') Q) a w):(Code.loop c).wp P Q a w:=by
 intro b k cs
 have key:∀ n a w,I n a w->∃ e a' w',Q e a' w'/\Arrives P (lone (b.at a (.code c::.inLoop c::k)) cs w) b k cs e a' w':=by
  intro n
  induction n using Nat.strongRecOn with
  | _ n ih =>
   intro a w hI
   obtain ⟨e,a₁,w₁,hq,jJ⟩:=round n a w hI b (.inLoop c::k) cs
   cases e with
   | normal =>
    obtain ⟨n',au,hI₁⟩:=hq
    obtain ⟨e₂,a₂,w₂,hq₂,Mr⟩:=ih n' au a₁ w₁ hI₁
    exact ⟨e₂,a₂,w₂,hq₂,.of_steps (Steps.trans jJ (.one step_inLoop)) Mr⟩
   | exit id=>exact ⟨_,a₁,w₁,hq,.pass (x:=.inLoop c) rfl (fun _ _=>.inl (by simp)) jJ⟩
   | goto l=>exact ⟨_,a₁,w₁,hq,.pass (x:=.inLoop c) rfl (fun _ _=>.inl (by simp)) jJ⟩
   | ret=>exact ⟨_,a₁,w₁,hq,.pass (x:=.inLoop c) rfl (fun _ _=>.inl (by simp)) jJ⟩
   | panic ch=>exact ⟨_,a₁,w₁,hq,.pass (x:=.inLoop c) rfl (fun _ _=>.inl (by simp)) jJ⟩
   | outgrown=>exact ⟨_,a₁,w₁,hq,.pass (x:=.inLoop c) rfl (fun _ _=>.inl (by simp)) jJ⟩
 obtain ⟨e,a',w',hq,jJ⟩:=key n a w h₀
 exact ⟨e,a',w',hq,.of_steps (.one step_loop) jJ⟩
def Pd (X:Cx):Prop:=∀ (β:Type) (id:Nat) (ops:Array Oper) (env:Env) (H:af) (K:Env->af->Option β) (r:β),GY X ops env H K=some r ->
 ∀ (ι:Io) (a:Act) (w:World),Rel ι (aK H.length) H w->bt ι (aK H.length) X.nt env a->a.defers=[]->∀ Q:Exit->Act->World->Prop,
  (∀ ak ι' H' a' w',Rel ι' (aK H'.length) H' w'->bt ι' (aK H'.length) X.nt ak a'->Fr ι H w ι' H' w'->Ab X.ai H H'->a'.defers=[]->K ak H'=some r->Q .normal a' w')->(Code.region id ops true).wp X.P Q a w
def Pe (X:Cx):Prop:=∀ (β:Type) (ops:Array Oper) (env:Env) (H:af) (K:Env->af->Option β) (r:β),GY X ops env H K=some r->dF (aK H.length) env->Ql H.length H ->
  ∃ ak H',K ak H'=some r/\dF (aK H'.length) ak/\Ql H'.length H'/\Ab X.ai H H'
section
variable {X:Cx} {β:Type} {r:β}
def Cv:List (Nat×Value)->List Value->Env
 | (s,_)::ks,v::vs=>(s,v)::Cv ks vs
 | _,_=>[]
theorem VX:∀ {ks:List (Nat×Value)} {vs:List Value} {K:Env->Option β},AZ ks vs K=some r->K (Cv ks vs)=some r
 | [],vs,K,h=>by
  unfold AZ I1 at h
  split at h
  .exact h
  .simp at h
 | (s,t)::ks,vs,K,h=>by
  unfold AZ zH at h
  split at h
  .exact VX (K:=fun env=>K ((s,_)::env)) (J5 h)
  .simp at h
theorem VY:∀ {env:Env} {ks:List (Nat×Value)} {vs:List Value},uR env ks=some vs->∀ s v,cN (Cv ks vs) s=some v->cN env s=some v
 | env,[],vs,h,s,v,hs=>by simp [uR] at h;subst h;simp [Cv,cN] at hs
 | env,(s',t)::ks,vs,h,s,v,hs=>by
  simp only [uR] at h
  replace h:=Q2 h;obtain ⟨u,hu,h⟩:=h
  replace h:=Q2 h;obtain ⟨l,hl,h⟩:=h
  simp at h;subst h
  simp only [Cv] at hs
  rw [uT] at hs
  by_cases e:s'=s
  .subst e;simp at hs;subst hs;exact hu
  .simp [e] at hs;exact VY hl s v hs
theorem bt.zip {ι:Io} {D:Nat->Prop} {nt:Nat} {env:Env} {a:Act} (h:bt ι D nt env a) {ks:List (Nat×Value)} {vs:List Value} (hk:uR env ks=some vs):bt ι D nt (Cv ks vs) a :=
 ⟨h.size,fun s v hs=>h.get s v (VY hk s v hs)⟩
theorem dF.zip {D:Nat->Prop} {env:Env} (h:dF D env) {ks:List (Nat×Value)} {vs:List Value} (hk:uR env ks=some vs):dF D (Cv ks vs) :=
 fun s v hs=>h s v (VY hk s v hs)
theorem Qm7 {ι:Io} {D:Nat->Prop} {nt:Nat} {env:Env} {a:Act} {c:Operand} {b:Bool} (h:bt ι D nt env a) (hc:ev env c=some (.bool b)):bt ι D nt (Ed c b env) a:=by
 unfold Ed
 split
 .exact h.lit hc
 .exact h
theorem Qqd {D:Nat->Prop} {env:Env} {c:Operand} {b:Bool} (h:dF D env):dF D (Ed c b env):=by
 unfold Ed
 split
 .exact h.put (.bool _)
 .exact h
theorem Hv (hX:oJ X.P X.call) (hD:Pd X):∀ (c:Code) (n:Nat) (env:Env) (H:af) (K:eD->Env->af->Option β),eU X c n env H K=some r ->
  ∀ (ι:Io) (a:Act) (w:World),Rel ι (aK H.length) H w->bt ι (aK H.length) X.nt env a->a.defers=[]->c.wp X.P (J_ X ι H w K r) a w
 | .skip,n,env,H,K,h,ι,a,w,hR,hE,hd=>wp_skip ⟨.normal,env,ι,H,rfl,hR,hE,Fr.refl _ _ _,Ab.refl _ _,hd,h⟩
 | .label l,n,env,H,K,h,ι,a,w,hR,hE,hd=>wp_label ⟨.normal,env,ι,H,rfl,hR,hE,Fr.refl _ _ _,Ab.refl _ _,hd,h⟩
 | .region id ops d,n,env,H,K,h,ι,a,w,hR,hE,hd=>by
  unfold eU at h
  cases d with
  | false =>
   simp only at h
   refine wp_region ?_
   have:=Ri hX (Q:=J_ X ι H w K r) ops.toList 0 env H (fun k=>by simp) (by simp) h ι a w hR hE hd (fun ak ι' H' a' w' h1 h2 h3 h4 h5 h6=>⟨.normal,ak,ι',H',rfl,h1,h2,h3,h4,h5,h6⟩)
   rw [List.range_eq_range']
   simpa using this
  | true=>exact hD β id ops env H (K .normal) r h ι a w hR hE hd _ fun ak ι' H' a' w' h1 h2 h3 h4 h5 h6=>⟨.normal,ak,ι',H',rfl,h1,h2,h3,h4,h5,h6⟩
 | .seq x y,n,env,H,K,h,ι,a,w,hR,hE,hd=>by
  unfold eU at h
  refine wp_seq (wp_mono (Hv hX hD x n env H _ h ι a w hR hE hd) ?_)
  rintro ex a' w' ⟨vr,ak,ι',H',rfl,h1,h2,h3,h4,h5,h6⟩
  cases vr with
  | normal =>
   simp only at h6
   exact wp_mono (Hv hX hD y _ ak H' K h6 ι' a' w' h1 h2 h5) fun e a2 w2 hg=>hg.later h3 h4
  | exit id=>exact ⟨.exit id,ak,ι',H',rfl,h1,h2,h3,h4,h5,h6⟩
  | ret=>exact ⟨.ret,ak,ι',H',rfl,h1,h2,h3,h4,h5,h6⟩
 | .cond c x y,n,env,H,K,h,ι,a,w,hR,hE,hd=>by
  unfold eU at h
  replace h:=Q2 h;obtain ⟨v,hv,h⟩:=h
  replace h:=QY h;obtain ⟨t,rfl,h⟩:=h
  have hc:=(Qe hE hv).cJ
  rcases jx h with ⟨rfl,h⟩ | ⟨rfl,h⟩
  .exact wp_cond_true hc (Hv hX hD x _ _ H K h ι a w hR (Qm7 hE hv) hd)
  .exact wp_cond_false hc (Hv hX hD y _ _ H K h ι a w hR (Qm7 hE hv) hd)
 | .block id c,n,env,H,K,h,ι,a,w,hR,hE,hd=>by
  unfold eU at h
  refine wp_block (wp_mono (Hv hX hD c n env H _ h ι a w hR hE hd) ?_)
  rintro ex a' w' ⟨vr,ak,ι',H',rfl,h1,h2,h3,h4,h5,h6⟩
  cases vr with
  | normal=>exact ⟨.normal,ak,ι',H',rfl,h1,h2,h3,h4,h5,h6⟩
  | exit zK =>
   simp only at h6
   simp only [J9,Exit.inBlock]
   split at h6
   .rename_i e;rw [if_pos (Z7 e)];exact ⟨.normal,ak,ι',H',rfl,h1,h2,h3,h4,h5,h6⟩
   .rename_i e;rw [if_neg (Nat.ne_of_beq_eq_false e)];exact ⟨.exit zK,ak,ι',H',rfl,h1,h2,h3,h4,h5,h6⟩
  | ret=>exact ⟨.ret,ak,ι',H',rfl,h1,h2,h3,h4,h5,h6⟩
 | .loop c,n,env,H,K,h,ι,a,w,hR,hE,hd=>by
  unfold eU at h
  replace h:=Q2 h;obtain ⟨vs,hv,h⟩:=h
  generalize hF:(fun (again:List Value->af->Option β) vs H=>AZ (X.cO n) vs fun env=>eU X c (n+1) env H fun ex ak H'=>match ex with
   | .normal=>Q1 (uR ak (X.cO n)) fun cy=>again cy H'
   | .exit id=>K (.exit id) ak H'
   | .ret=>K .ret ak H')=F at h
  refine Qi6 (fun k a' w'=>∃ cy ι' H',Rel ι' (aK H'.length) H' w'/\bt ι' (aK H'.length) X.nt (Cv (X.cO n) cy) a'/\Fr ι H w ι' H' w'/\Ab X.ai H H'/\a'.defers=[]/\B9 F k cy H'=some r) (n:=X.fuel) ?_ ?_
  .exact ⟨vs,ι,H,hR,hE.zip hv,Fr.refl _ _ _,Ab.refl _ _,hd,h⟩
  .rintro k a' w' ⟨cy,ι',H',g1,g2,g3,g4,g5,g6⟩
   cases k with
   | zero=>simp [B9] at g6
   | succ k =>
    simp only [B9] at g6
    rw [<- hF] at g6
    have g7:=VX g6
    rw [hF] at g7
    refine wp_mono (Hv hX hD c (n+1) _ H' _ g7 ι' a' w' g1 g2 g5) ?_
    rintro ex a2 w2 ⟨vr,b_,ι2,H2,rfl,k1,k2,k3,k4,k5,k6⟩
    cases vr with
    | normal =>
     simp only at k6
     replace k6:=Q2 k6;obtain ⟨Ba,IN,k6⟩:=k6
     exact ⟨k,by omega,Ba,ι2,H2,k1,k2.zip IN,g3.trans k3,g4.trans k4,k5,k6⟩
    | exit id=>exact ⟨.exit id,b_,ι2,H2,rfl,k1,k2,g3.trans k3,g4.trans k4,k5,k6⟩
    | ret=>exact ⟨.ret,b_,ι2,H2,rfl,k1,k2,g3.trans k3,g4.trans k4,k5,k6⟩
 | .exit id,n,env,H,K,h,ι,a,w,hR,hE,hd=>wp_exit ⟨.exit id,env,ι,H,rfl,hR,hE,Fr.refl _ _ _,Ab.refl _ _,hd,h⟩
 | .ret,n,env,H,K,h,ι,a,w,hR,hE,hd=>wp_ret ⟨.ret,env,ι,H,rfl,hR,hE,Fr.refl _ _ _,Ab.refl _ _,hd,h⟩
 | .rangeFunc _ _ _ _,n,env,H,K,h,ι,a,w,hR,hE,hd=>by simp [eU] at h
 | .scope _,n,env,H,K,h,ι,a,w,hR,hE,hd=>by simp [eU] at h
 | .goto _,n,env,H,K,h,ι,a,w,hR,hE,hd=>by simp [eU] at h
 | .refuse _,n,env,H,K,h,ι,a,w,hR,hE,hd=>by simp [eU] at h
theorem Hw (hX:oJ X.P X.call) (hD:Pe X):∀ (c:Code) (n:Nat) (env:Env) (H:af) (K:eD->Env->af->Option β),eU X c n env H K=some r->dF (aK H.length) env->Ql H.length H ->
  ∃ ex ak H',K ex ak H'=some r/\dF (aK H'.length) ak/\Ql H'.length H'/\Ab X.ai H H'
 | .skip,n,env,H,K,h,hE,hc=>⟨.normal,env,H,h,hE,hc,Ab.refl _ _⟩
 | .label l,n,env,H,K,h,hE,hc=>⟨.normal,env,H,h,hE,hc,Ab.refl _ _⟩
 | .region id ops d,n,env,H,K,h,hE,hc=>by
  unfold eU at h
  cases d with
  | false=>obtain ⟨e,H',h1,h2⟩:=Rk hX ops.toList env H h hE hc;exact ⟨.normal,e,H',h1,h2⟩
  | true=>obtain ⟨e,H',h1,h2⟩:=hD β ops env H _ r h hE hc;exact ⟨.normal,e,H',h1,h2⟩
 | .seq x y,n,env,H,K,h,hE,hc=>by
  unfold eU at h
  obtain ⟨ex,e,H',h1,h2,h3,h4⟩:=Hw hX hD x n env H _ h hE hc
  cases ex with
  | normal =>
   obtain ⟨ex,e',H2,g1,g2,g3,g4⟩:=Hw hX hD y _ e H' K h1 h2 h3
   exact ⟨ex,e',H2,g1,g2,g3,h4.trans g4⟩
  | exit id=>exact ⟨_,e,H',h1,h2,h3,h4⟩
  | ret=>exact ⟨_,e,H',h1,h2,h3,h4⟩
 | .cond c x y,n,env,H,K,h,hE,hc=>by
  unfold eU at h
  replace h:=Q2 h;obtain ⟨v,hv,h⟩:=h
  replace h:=QY h;obtain ⟨t,rfl,h⟩:=h
  rcases jx h with ⟨rfl,h⟩ | ⟨rfl,h⟩
  .exact Hw hX hD x _ _ H K h (Qqd hE) hc
  .exact Hw hX hD y _ _ H K h (Qqd hE) hc
 | .block id c,n,env,H,K,h,hE,hc=>by
  unfold eU at h
  obtain ⟨ex,e,H',h1,h2,h3,h4⟩:=Hw hX hD c n env H _ h hE hc
  cases ex with
  | normal=>exact ⟨_,e,H',h1,h2,h3,h4⟩
  | exit zK =>
   simp only at h1
   split at h1
   .exact ⟨_,e,H',h1,h2,h3,h4⟩
   .exact ⟨_,e,H',h1,h2,h3,h4⟩
  | ret=>exact ⟨_,e,H',h1,h2,h3,h4⟩
 | .loop c,n,env,H,K,h,hE,hc=>by
  unfold eU at h
  replace h:=Q2 h;obtain ⟨vs,hv,h⟩:=h
  generalize hF:(fun (again:List Value->af->Option β) vs H=>AZ (X.cO n) vs fun env=>eU X c (n+1) env H fun ex ak H'=>match ex with
   | .normal=>Q1 (uR ak (X.cO n)) fun cy=>again cy H'
   | .exit id=>K (.exit id) ak H'
   | .ret=>K .ret ak H')=F at h
  have VZ:dF (aK H.length) (Cv (X.cO n) vs):=hE.zip hv
  clear hv hE
  generalize X.fuel=k at h
  induction k generalizing vs H with
  | zero=>simp [B9] at h
  | succ k ih =>
   simp only [B9] at h
   rw [<- hF] at h
   have g7:=VX h
   rw [hF] at g7
   obtain ⟨ex,e,H',h1,h2,h3,h4⟩:=Hw hX hD c (n+1) _ H _ g7 VZ hc
   cases ex with
   | normal =>
    simp only at h1
    replace h1:=Q2 h1;obtain ⟨Ba,IN,h1⟩:=h1
    obtain ⟨ex,e',H2,g1,g2,g3,g4⟩:=ih H' h3 Ba (h2.zip IN) h1
    exact ⟨ex,e',H2,g1,g2,g3,h4.trans g4⟩
   | exit id=>exact ⟨_,e,H',h1,h2,h3,h4⟩
   | ret=>exact ⟨_,e,H',h1,h2,h3,h4⟩
 | .exit id,n,env,H,K,h,hE,hc=>⟨.exit id,env,H,h,hE,hc,Ab.refl _ _⟩
 | .ret,n,env,H,K,h,hE,hc=>⟨.ret,env,H,h,hE,hc,Ab.refl _ _⟩
 | .rangeFunc _ _ _ _,n,env,H,K,h,hE,hc=>by simp [eU] at h
 | .scope _,n,env,H,K,h,hE,hc=>by simp [eU] at h
 | .goto _,n,env,H,K,h,hE,hc=>by simp [eU] at h
 | .refuse _,n,env,H,K,h,hE,hc=>by simp [eU] at h
end
theorem V0:∀ (l:List Value) (i s:Nat) (v:Value),cN (qx i l) s=some v->i<=s/\l[s - i]? = some v
 | [],i,s,v,h=>by simp [qx,cN] at h
 | x::l,i,s,v,h=>by
  simp only [qx] at h
  rw [uT] at h
  by_cases e:i=s
  .subst e;simp at h;subst h;simp
  .simp [e] at h
   obtain ⟨h1,h2⟩:=V0 l (i+1) s v h
   refine ⟨by omega,?_⟩
   rw [show s - i=(s - (i+1))+1 by omega]
   simpa using h2
theorem Qi7 {ι:Io} {D:Nat->Prop} {vs cs:List Value} (h:aZ ι D vs cs):ay ι D (iC vs) (iC cs):=by
 unfold iC
 split
 .rename_i v
  match cs,h with
  | [c],h=>exact h.head
  | [],h=>exact absurd h.1 (by simp)
  | c::d::r,h=>exact absurd h.1 (by simp)
 .rename_i aU
  have:∀ c,cs≠[c]:=by
   rintro c rfl
   match vs,h,aU with
   | [v],_,aU=>exact aU v rfl
   | [],h,_=>exact absurd h.1 (by simp)
   | a::b::r,h,_=>exact absurd h.1 (by simp)
  split
  .rename_i c;exact absurd rfl (this c)
  .exact .tuple vs cs h.1 h.2
theorem Qm8 {D:Nat->Prop} {vs:List Value} (h:gI D vs):bK D (iC vs):=by
 unfold iC
 split
 .exact h _ (by simp)
 .exact .tuple vs fun i hi=>h _ (List.getElem_mem hi)
theorem Qfl (cs:List Value):(if h:cs.toArray.size=1 then cs.toArray[0] else .tuple cs.toArray)=iC cs:=by
 unfold iC
 split
 .rename_i h
  match cs,h with
  | [c],_=>rfl
 .rename_i h
  split
  .simp at h
  .rfl
theorem Qtf {P:Program} {A:Ca} {call:FuncId->List Value->Nat->af->Option (Value×af)} (hX:oJ P call) (hD:∀ X:Cx,X.P=P->X.call=call->Pd X/\Pe X) {f:FuncId} {args:List Value} {ai:Nat} {H H':af} {v:Value}
  (h:Ef P A call f args ai H=some (v,H')):gZ P f args ai H v H':=by
 unfold Ef at h
 split at h
 .simp at h
 .rename_i fn hfn
  split at h
  .rename_i c hb hle DX
   have hle:=Zi hle
   generalize Pf:(⟨P,call,U_ (A.mode f) ai H.length,fn.ntmps,A.fuel,A.loops f⟩:Cx)=X at h
   have V3:X.P=P:=by rw [<- Pf]
   have hXc:X.call=call:=by rw [<- Pf]
   have V4:X.ai=U_ (A.mode f) ai H.length:=by rw [<- Pf]
   have hXn:X.nt=fn.ntmps:=by rw [<- Pf]
   obtain ⟨hDw,hDa⟩:=hD X V3 hXc
   have OM:oJ X.P X.call:=by rw [V3,hXc];exact hX
   have V5:∀ D:Nat->Prop,gI D args->dF D (qx 0 args):=by
    intro D hl s u hs
    obtain ⟨_,h2⟩:=V0 args 0 s u hs
    exact hl u (Zc h2)
   have Ms:gI (aK H.length) args->Ql H.length H->bK (aK H'.length) v/\Ab ai H H':=by
    intro hl hc
    obtain ⟨ex,ak,H2,g1,g2,g3,g4⟩:=Hw OM hDa c 0 _ H _ h (V5 _ hl) hc
    have fin:∀ {vs:List Value},iB P ak H2 fn.results.toList=some vs->(Q1 (uS (A.mode f) H.length vs H2) fun r=>some (iC r.1,r.2))=some (v,H')->bK (aK H'.length) v/\Ab ai H H':=by
     intro vs hr hf
     replace hf:=Q2 hf;obtain ⟨⟨cy,H3⟩,hf,he⟩:=hf
     simp at he;obtain ⟨rfl,rfl⟩:=he
     have Is:=Mq hr g2 g3
     unfold uS at hf
     cases hm:A.mode f with
     | keep =>
      rw [hm] at hf;simp at hf;obtain ⟨rfl,rfl⟩:=hf
      rw [V4,hm] at g4
      exact ⟨Qm8 Is,g4⟩
     | drop =>
      rw [hm] at hf;simp only at hf
      replace hf:=Q2 hf;obtain ⟨⟨Ba,olds⟩,V6,he⟩:=hf
      simp at he;obtain ⟨rfl,rfl⟩:=he
      rw [V4,hm] at g4
      obtain ⟨k1,k2⟩:=Qqc (ai:=ai) g4 hc V6
      exact ⟨Qm8 k2,k1⟩
    cases ex with
    | normal=>simp only at g1;replace g1:=Q2 g1;obtain ⟨vs,hr,g1⟩:=g1;exact fin hr g1
    | exit id=>simp at g1
    | ret=>simp only at g1;replace g1:=Q2 g1;obtain ⟨vs,hr,g1⟩:=g1;exact fin hr g1
   refine ⟨fun hl hc=>(Ms hl hc).1,fun hl hc=>(Ms hl hc).2,fun bR w=>?_,fun ι w bR hR hl=>?_⟩
   .have aU:(fn.name == "runtime.NumGoroutine")=false:=DX
    simp only [callFunc,Sem.run_bind,run_program,Result.andThen_ok,hfn,aU,Bool.false_eq_true,if_false,hb,Option.isNone_some,Sem.run_pure]
   .refine calls_of_wp hfn hb ?_
    have bf:bR.size=args.length:=by have:=hl.1;simpa using this.symm
    have hE:bt ι (aK H.length) X.nt (qx 0 args) { tmps:=bR++Array.replicate (fn.ntmps - bR.size) undef,defers:=[] }:=by
     refine ⟨by simp [hXn];omega,fun s u hs=>?_⟩
     obtain ⟨_,h2⟩:=V0 args 0 s u hs
     obtain ⟨d,h3,h4⟩:=hl.get h2
     have au:s < bR.size:=by
      have:=(Z0 h2).1
      simp at this;omega
     have:(bR++Array.replicate (fn.ntmps - bR.size) undef).getD s undef=d:=by
      rw [Array.getD_eq_getD_getElem?,Array.getElem?_append_left au,<- Array.getElem?_toList]
      simp only [Nat.sub_zero] at h3
      rw [h3];rfl
     rw [this];exact h4
    have hwp:=Hv OM hDw c 0 _ H _ h ι _ w hR hE rfl
    rw [V3] at hwp
    refine wp_mono hwp ?_
    rintro ex a' w' ⟨vr,ak,ι',H2,rfl,g1,g2,g3,g4,g5,g6⟩
    have fin:∀ {vs:List Value},iB P ak H2 fn.results.toList=some vs->(Q1 (uS (A.mode f) H.length vs H2) fun r=>some (iC r.1,r.2))=some (v,H') ->
      a'.defers=[]/\∃ v',(results fn a'.tmps).run P w'=.ok v' w'/\∃ ι'' c',(Ending.returned v')=.returned c'/\Rel ι'' (aK H'.length) H' w'/\ay ι'' (aK H'.length) v c'/\Fr ι H w ι'' H' w':=by
     intro vs hr hf
     replace hf:=Q2 hf;obtain ⟨⟨cy,H3⟩,hf,he⟩:=hf
     simp at he;obtain ⟨rfl,rfl⟩:=he
     obtain ⟨cs,k1,k2⟩:=VS (P:=P) g1 g2 hr
     have Hu:(results fn a'.tmps).run P w'=.ok (iC cs) w':=by
      unfold results
      rw [Array.mapM_eq_mapM_toList]
      simp only [Sem.run_bind,Sem.run_map]
      refine (congrArg (fun x=>Result.andThen (Result.andThen x _) _) k2).trans ?_
      simp only [Result.andThen_ok,Sem.run_pure]
      rw [<- Qfl]
     refine ⟨g5,iC cs,Hu,?_⟩
     unfold uS at hf
     cases hm:A.mode f with
     | keep =>
      rw [hm] at hf;simp at hf;obtain ⟨rfl,rfl⟩:=hf
      exact ⟨ι',_,rfl,g1,Qi7 k1,g3⟩
     | drop =>
      rw [hm] at hf;simp only at hf
      replace hf:=Q2 hf;obtain ⟨⟨Ba,olds⟩,V6,he⟩:=hf
      simp at he;obtain ⟨rfl,rfl⟩:=he
      rw [V4,hm] at g4
      have fq:=g4.closed H.length (Zd _) (Zd _) hR.closed
      obtain ⟨q1,q2,q3⟩:=Qnh g1 g3 fq V6 k1
      exact ⟨_,_,rfl,q1,Qi7 q3,q2⟩
    cases vr with
    | normal=>simp only at g6;replace g6:=Q2 g6;obtain ⟨vs,hr,g6⟩:=g6;exact fin hr g6
    | exit id=>simp at g6
    | ret=>simp only at g6;replace g6:=Q2 g6;obtain ⟨vs,hr,g6⟩:=g6;exact fin hr g6
  .simp at h
def O9 (P:Program) (A:Ca):Prop:=∀ f e,A.ext f=some e->∀ args ai H v H',e args ai H=some (v,H')->gZ P f args ai H v H'
theorem Qvd {P:Program} {A:Ca} (hA:O9 P A) (hD:∀ X:Cx,X.P=P->oJ P X.call->Pd X/\Pe X):∀ d:Nat,oJ P (run P A d)
 | 0=>by intro f args ai H v H' h;simp [run] at h
 | d+1=>by
  have ih:=Qvd hA hD d
  intro f args ai H v H' h
  simp only [run] at h
  split at h
  .rename_i e he;exact hA f e he args ai H v H' h
  .exact Qtf ih (fun X hP hc=>hD X hP (by rw [hc];exact ih)) h
def Bb (acc:Array Nat) (o:Oper):Nat:=o.after.foldl (fun s e=>if Region.binds .any e then s ||| 2 ^ e.on ||| acc.getD e.on 0 else s) 0
theorem Qqe (ops:Array Oper):Region.before ops=ops.toList.foldl (fun acc o=>acc.push (Bb acc o)) #[]:=by
 rw [Array.foldl_toList];rfl
theorem Qzh:∀ (l:List Oper) (acc:Array Nat),(l.foldl (fun acc o=>acc.push (Bb acc o)) acc).size=acc.size+l.length/\(∀ j,j < acc.size->(l.foldl (fun acc o=>acc.push (Bb acc o)) acc)[j]? = acc[j]?) /\
  ∀ k o,l[k]? = some o->∃ jm:Array Nat,jm.size=acc.size+k/\(∀ j,j < jm.size->(l.foldl (fun acc o=>acc.push (Bb acc o)) acc)[j]? = jm[j]?)/\(l.foldl (fun acc o=>acc.push (Bb acc o)) acc)[acc.size+k]? = some (Bb jm o)
 | [],acc=>⟨by simp,fun j _=>rfl,fun k o h=>by simp at h⟩
 | x::l,acc=>by
  obtain ⟨h1,h2,h3⟩:=Qzh l (acc.push (Bb acc x))
  simp only [List.foldl_cons]
  refine ⟨by rw [h1];simp;omega,fun j hj=>?_,fun k o hk=>?_⟩
  .rw [h2 j (by simp;omega),Array.getElem?_push,if_neg (by omega)]
  .cases k with
   | zero =>
    simp at hk;subst hk
    refine ⟨acc,by simp,fun j hj=>?_,?_⟩
    .rw [h2 j (by simp;omega),Array.getElem?_push,if_neg (by omega)]
    .rw [Nat.add_zero,h2 acc.size (by simp),Array.getElem?_push,if_pos rfl]
   | succ k =>
    obtain ⟨jm,g1,g2,g3⟩:=h3 k o (by simpa using hk)
    refine ⟨jm,by rw [g1];simp;omega,g2,?_⟩
    rw [show acc.size+(k+1)=(acc.push (Bb acc x)).size+k by simp;omega]
    exact g3
theorem Qi8 (acc:Array Nat) (i:Nat):∀ (l:List Edge) (s:Nat),(l.foldl (fun s e=>if Region.binds .any e then s ||| 2 ^ e.on ||| acc.getD e.on 0 else s) s).testBit i=true ->
  s.testBit i=true\/∃ e∈l,Region.binds .any e=true/\(e.on=i\/(acc.getD e.on 0).testBit i=true)
 | [],s,h=>.inl h
 | e::l,s,h=>by
  simp only [List.foldl_cons] at h
  rcases Qi8 acc i l _ h with h | ⟨e',h1,h2⟩
  .split at h
   .rename_i hb
    simp only [Nat.testBit_or,Bool.or_eq_true,Nat.testBit_two_pow,Zj] at h
    rcases h with (h | h) | h
    .exact .inl h
    .exact .inr ⟨e,by simp,hb,.inl h⟩
    .exact .inr ⟨e,by simp,hb,.inr h⟩
   .exact .inl h
  .exact .inr ⟨e',List.mem_cons_of_mem _ h1,h2⟩
theorem Qth {ops:Array Oper} {j i:Nat} (h:iA (Region.before ops) j i=true):∃ o e,ops[j]? = some o/\e∈o.after.toList/\Region.binds .any e=true/\(e.on=i\/iA (Region.before ops) e.on i=true):=by
 obtain ⟨h1,_,h3⟩:=Qzh ops.toList #[]
 rw [<- Qqe] at h1 h3
 unfold iA at h
 cases hj:ops[j]? with
 | none =>
  have au:ops.size<=j:=by
   by_cases au:j < ops.size
   .rw [Array.getElem?_eq_getElem au] at hj;simp at hj
   .omega
  have:(Region.before ops).getD j 0=0:=by
   rw [Array.getD_eq_getD_getElem?,Array.getElem?_eq_none (by rw [h1];simp;omega)];rfl
  rw [this] at h;simp at h
 | some o =>
  obtain ⟨jm,g1,g2,g3⟩:=h3 j o (by rw [Array.getElem?_toList];exact hj)
  simp only [List.size_toArray,Zb,Zo] at g1 g3
  have e1:(Region.before ops).getD j 0=Bb jm o:=by rw [Array.getD_eq_getD_getElem?,g3];rfl
  rw [e1] at h
  unfold Bb at h
  rw [<- Array.foldl_toList] at h
  rcases Qi8 jm i o.after.toList 0 h with h | ⟨e,k1,k2,k3⟩
  .simp at h
  .refine ⟨o,e,rfl,k1,k2,?_⟩
   rcases k3 with k3 | k3
   .exact .inl k3
   .right
    unfold iA
    by_cases hl:e.on < jm.size
    .have:(Region.before ops).getD e.on 0=jm.getD e.on 0:=by rw [Array.getD_eq_getD_getElem?,Array.getD_eq_getD_getElem?,g2 _ hl]
     rw [this];exact k3
    .rw [Array.getD_eq_getD_getElem?,Array.getElem?_eq_none (by omega)] at k3;simp at k3
section
variable {X:Cx} {β:Type} {r:β} {o:Oper} {env:Env} {H:af}
def nX (o:Oper):List Tmp:=o.op.operands.toList.filterMap fun | .tmp t=>some t | _=>none
def bJ (ts:List Tmp) (env:Env):Env:=env.filter fun p=>ts.contains p.1
theorem V7 {ts:List Tmp}:∀ {env:Env} {t:Nat},t∈ts->cN (bJ ts env) t=cN env t
 | [],t,h=>rfl
 | (s,v)::env,t,h=>by
  have ih:=V7 (ts:=ts) (env:=env) h
  unfold bJ at ih ⊢
  rw [List.filter_cons]
  by_cases e:s=t
  .subst e
   have:ts.contains s=true:=by simpa using h
   rw [if_pos this,uT,uT,if_pos rfl,if_pos rfl]
  .rw [uT,if_neg e]
   split
   .rw [uT,if_neg e];exact ih
   .exact ih
theorem V8 {ts:List Tmp}:∀ {env:Env} {t:Nat} {v:Value},cN (bJ ts env) t=some v->t∈ts/\cN env t=some v
 | [],t,v,h=>by simp [bJ,cN] at h
 | (s,u)::env,t,v,h=>by
  by_cases ht:t∈ts
  .exact ⟨ht,by rw [<- V7 ht];exact h⟩
  .exfalso
   unfold bJ at h
   rw [List.filter_cons] at h
   have ih:=fun h=>ht (V8 (ts:=ts) (env:=env) (t:=t) (v:=v) h).1
   split at h
   .rename_i hc
    rw [uT] at h
    by_cases e:s=t
    .subst e;exact ht (by simpa using hc)
    .rw [if_neg e] at h;exact ih h
   .exact ih h
theorem Mt {x:Operand} (h:x∈o.op.operands.toList):ev (bJ (nX o) env) x=ev env x:=by
 cases x with
 | tmp t =>
  simp only [ev]
  exact V7 (by unfold nX;rw [List.mem_filterMap];exact ⟨_,h,rfl⟩)
 | const v=>rfl
 | global g=>rfl
 | func f=>rfl
theorem Pg:∀ {xs:List Operand},(∀ x∈xs,x∈o.op.operands.toList)->eT (bJ (nX o) env) xs=eT env xs
 | [],_=>rfl
 | x::xs,h=>by
  simp only [eT]
  rw [Mt (h x (by simp)),Pg fun y hy=>h y (List.mem_cons_of_mem _ hy)]
theorem V9:∀ {xs:List (Nat×Operand)},(∀ x∈xs,x.2∈o.op.operands.toList)->og (bJ (nX o) env) xs=og env xs
 | [],_=>rfl
 | (i,x)::xs,h=>by
  simp only [og]
  rw [Mt (h (i,x) (by simp)),V9 fun y hy=>h y (List.mem_cons_of_mem _ hy)]
theorem Q8i {x:Option Operand} {d:Nat} {K:Nat->Option β} (h:∀ y,x=some y->y∈o.op.operands.toList):lZ (bJ (nX o) env) x d K=lZ env x d K:=by
 cases x with
 | none=>rfl
 | some y=>simp only [lZ];rw [Mt (h y rfl)]
theorem Qni (K:Value->af->Option β):di X o (bJ (nX o) env) H K=di X o env H K:=by
 have aJ:∀ {op:Op},o.op=op->∀ x,x∈op.operands.toList->ev (bJ (nX o) env) x=ev env x:=fun e x hx=>Mt (by rw [e];exact hx)
 unfold di
 cases ho:o.op with
 | move x=>simp only [aJ ho x (by simp [Op.operands])]
 | assign x=>simp only [aJ ho x (by simp [Op.operands])]
 | pick c a b=>simp only [aJ ho c (by simp [Op.operands]),aJ ho a (by simp [Op.operands]),aJ ho b (by simp [Op.operands])]
 | box t x=>simp only [aJ ho x (by simp [Op.operands])]
 | build t ps =>
  simp only
  rw [V9]
  intro x hx;rw [ho];simp only [Op.operands,List.mem_map]
  exact ⟨x,hx,rfl⟩
 | buildSlice t n ps =>
  simp only
  rw [V9]
  intro x hx;rw [ho];simp only [Op.operands,List.mem_map]
  exact ⟨x,hx,rfl⟩
 | load t x=>simp only [aJ ho x (by simp [Op.operands])]
 | store t x y=>simp only [aJ ho x (by simp [Op.operands]),aJ ho y (by simp [Op.operands])]
 | nilCheck x=>simp only [aJ ho x (by simp [Op.operands])]
 | binOp op t x y t'=>simp only [aJ ho x (by simp [Op.operands]),aJ ho y (by simp [Op.operands])]
 | unOp op t x=>simp only [aJ ho x (by simp [Op.operands])]
 | convert s d x=>simp only [aJ ho x (by simp [Op.operands])]
 | makeFunc fn first cap =>
  cases fn with
  | func f =>
   simp only
   rw [Pg (xs:=first.toList),Pg (xs:=cap.toList)]
   .intro x hx;rw [ho];simp [Op.operands];exact .inr (by simpa using hx)
   .intro x hx;rw [ho];simp [Op.operands];exact .inl (by simpa using hx)
  | _=>rfl
 | makeSlice t x y=>simp only [aJ ho x (by simp [Op.operands]),aJ ho y (by simp [Op.operands])]
 | slice t x lo hi mx =>
  cases mx with
  | none =>
   simp only [aJ ho x (by simp [Op.operands])]
   have b1:∀ (d:Nat) (K:Nat->Option β),lZ (bJ (nX o) env) hi d K=lZ env hi d K:=fun d K=>Q8i (fun y e=>by rw [ho,e];simp [Op.operands])
   have b2:∀ (d:Nat) (K:Nat->Option β),lZ (bJ (nX o) env) lo d K=lZ env lo d K:=fun d K=>Q8i (fun y e=>by rw [ho,e];simp [Op.operands])
   simp only [b1,b2]
  | some y=>rfl
 | fieldAddr t x f=>simp only [aJ ho x (by simp [Op.operands])]
 | field t x f=>simp only [aJ ho x (by simp [Op.operands])]
 | indexAddr t x y=>simp only [aJ ho x (by simp [Op.operands]),aJ ho y (by simp [Op.operands])]
 | index t x y=>simp only [aJ ho x (by simp [Op.operands]),aJ ho y (by simp [Op.operands])]
 | extract x i=>simp only [aJ ho x (by simp [Op.operands])]
 | call c =>
  have hargs:eT (bJ (nX o) env) c.args.toList=eT env c.args.toList:=Pg fun x hx=>by
   rw [ho];simp only [Op.operands,Call.operands,Array.toList_append,Zh];exact .inr hx
  simp only [hargs]
  cases hc:c.callee with
  | builtin b=>rfl
  | value f =>
   simp only
   rw [aJ ho f (by simp [Op.operands,Call.operands,hc])]
  | invoke x m=>rfl
 | _=>rfl
theorem Qti {P:Program} {o:Op} {env:Env} {G H:af} {z:Nat} {t:Tmp} {v:Value} (h:OQ o=some t) (hv:cN env t=some v) (hz:Ih v=some z) (g:ah G z=ah H z):cT P o env G=cT P o env H:=by
 unfold OQ at h
 split at h
 .rename_i ty t'
  simp at h;subst h
  unfold cT
  simp only [JQ (show ev env (.tmp t')=some v from hv),ev,hv,Q1]
  cases v<;>simp only [eW]
  rename_i p
  cases p with
  | none=>rfl
  | some p =>
   simp only [Ih,Option.some.injEq] at hz;subst hz
   simp only
   unfold Qx gx
   rw [g]
 .rename_i a b t'
  simp at h;subst h
  unfold cT
  simp only [ev,hv,Q1]
  cases v<;>try (first | rfl | (simp [Ih] at hz;done))
  rename_i p n c
  cases p with
  | none=>simp [Ih] at hz
  | some p =>
   simp only [Ih,Option.some.injEq] at hz;subst hz
   have:fI G p (n*1)=fI H p (n*1):=by
    cases n*1 with
    | zero=>rfl
    | succ q=>simp only [fI];unfold Qx;rw [g]
   simp only [Qf,this]
 .simp at h
theorem Qdk {P:Program} {G:af}:cT P o.op (bJ (nX o) env) G=cT P o.op env G:=by
 have aJ:∀ {op:Op},o.op=op->∀ x,x∈op.operands.toList->ev (bJ (nX o) env) x=ev env x:=fun e x hx=>Mt (by rw [e];exact hx)
 unfold cT
 cases ho:o.op with
 | load t x=>simp only [aJ ho x (by simp [Op.operands])]
 | convert s d x=>simp only [aJ ho x (by simp [Op.operands])]
 | _=>rfl
def Jh (ops:Array Oper) (o:Oper):List Tmp:=match o.guard with
 | some (g,_)=>((ops[g]?).bind (·.dst)).toList
 | none=>[]
theorem Qdl (ops:Array Oper) (o:Oper):o.looksAt ops=nX o++Jh ops o:=rfl
structure vf (ι:Io) (D:Nat->Prop) (nt:Nat) (ts:List Tmp) (env:Env) (a:Act):Prop where
 size:a.tmps.size=nt
 get:∀ s∈ts,∀ v,cN env s=some v->ay ι D v (a.tmps.getD s undef)
theorem vf.bJ {ι:Io} {D:Nat->Prop} {nt:Nat} {ts:List Tmp} {env:Env} {a:Act} (h:vf ι D nt ts env a):bt ι D nt (bJ ts env) a :=
 ⟨h.size,fun s v hs=>by obtain ⟨h1,h2⟩:=V8 hs;exact h.get s h1 v h2⟩
def Qve (nt:Nat) (ops:Array Oper) (o:Oper) (env:Env) (t:Bool):Prop :=
 ∀ (ι:Io) (D:Nat->Prop) (a:Act),vf ι D nt (Jh ops o) env a->Region.wanted o (yielded ops a.tmps)=t
theorem Qk7 {nt:Nat} {ops:Array Oper} {K:Bool->Env->Option β} (h:Dc ops o env K=some r):∃ t ak,K t ak=some r/\(∀ s,cN ak s=cN env s)/\Qve nt ops o env t:=by
 unfold Dc at h
 split at h
 .rename_i hg
  exact ⟨true,env,h,fun _=>rfl,fun ι D a hE=>by simp [Region.wanted,hg]⟩
 .rename_i j want hg
  split at h
  .rename_i d hd
   replace h:=Q2 h;obtain ⟨v,hv,h⟩:=h
   have hy:∀ (ι:Io) (D:Nat->Prop) (a:Act),vf ι D nt (Jh ops o) env a->yielded ops a.tmps j=match v with | .bool b=>some b | _=>none:=by
    intro ι D a hE
    have hr:=hE.get d (by simp [Jh,hg,hd]) v hv
    unfold yielded
    rw [hd]
    simp only [Option.bind_some]
    by_cases au:d < a.tmps.size
    .rw [Array.getElem?_eq_getElem au]
     have e:a.tmps.getD d undef=a.tmps[d]:=by simp [Array.getD,au]
     rw [e] at hr
     generalize a.tmps[d]=c at hr ⊢
     cases hr<;>rfl
    .rw [Array.getElem?_eq_none (Nat.le_of_not_lt au)]
     have e:a.tmps.getD d undef=undef:=by simp [Array.getD,au]
     rw [e] at hr
     cases hr<;>rfl
   have dw:∀ b,v=.bool b->∀ s,cN ((d,.bool b)::env) s=cN env s:=by
    intro b e s
    rw [uT]
    by_cases hs:d=s
    .subst hs;rw [if_pos rfl,hv,e]
    .rw [if_neg hs]
   split at h
   .rename_i b
    rcases jx h with ⟨rfl,h⟩ | ⟨rfl,h⟩
    .refine ⟨_,_,h,dw _ rfl,fun ι D a hE=>?_⟩
     simp only [Region.wanted,hg,hy ι D a hE]
     cases want<;>rfl
    .refine ⟨_,_,h,dw _ rfl,fun ι D a hE=>?_⟩
     simp only [Region.wanted,hg,hy ι D a hE]
     cases want<;>rfl
   .rename_i Rh
    refine ⟨_,_,h,fun _=>rfl,fun ι D a hE=>?_⟩
    simp only [Region.wanted,hg,hy ι D a hE]
    cases v<;>first | rfl | exact absurd rfl (Rh _)
  .simp at h
structure St where
 dW:Env
 env:Env
 H:af
 t:Bool
 v:Value
structure qG (X:Cx) (ops:Array Oper) (o:Oper) (s s':St):Prop where
 same:∀ q,cN s.env q=cN s.dW q
 guard:Qve X.nt ops o s.dW s.t
 yes:s.t=true->jy X o (bJ (nX o) s.env) s.H s.v s'.H
 no:s.t=false->s.v=undef/\s'.H=s.H
 put:(o.dst=none/\s'.dW=s.env)\/∃ d,o.dst=some d/\d < X.nt/\s'.dW=(d,s.v)::s.env
theorem Q9y (hX:oJ X.P X.call) {ops:Array Oper} {K:List (Env×af)->Env->af->Option β}:∀ (l:List Oper) (env:Env) (H:af) (tr:List (Env×af)),zJ X ops l env H tr K=some r ->
  ∃ S:Nat->St,(S 0).dW=env/\(S 0).H=H/\(S l.length).env=(S l.length).dW/\(∀ k o,l[k]? = some o->qG X ops o (S k) (S (k+1))) /\
   K (((List.range (l.length+1)).map fun k=>((S k).env,(S k).H)).reverse++tr) (S l.length).dW (S l.length).H=some r
 | [],env,H,tr,h=>by
  refine ⟨fun _=>⟨env,env,H,true,undef⟩,rfl,rfl,rfl,fun k o hk=>by simp at hk,?_⟩
  unfold zJ at h
  simpa using h
 | o::l,env,H,tr,h=>by
  unfold zJ at h
  obtain ⟨t,fP,h,dw,hg⟩:=Qk7 (nt:=X.nt) h
  have fin:∀ (v:Value) (H':af) (b_:Env),(t=true->jy X o (bJ (nX o) fP) H v H')->(t=false->v=undef/\H'=H) ->
    ((o.dst=none/\b_=fP)\/∃ d,o.dst=some d/\d < X.nt/\b_=(d,v)::fP)->zJ X ops l b_ H' ((fP,H)::tr) K=some r ->
    ∃ S:Nat->St,(S 0).dW=env/\(S 0).H=H/\(S (o::l).length).env=(S (o::l).length).dW/\(∀ k q,(o::l)[k]? = some q->qG X ops q (S k) (S (k+1))) /\
     K (((List.range ((o::l).length+1)).map fun k=>((S k).env,(S k).H)).reverse++tr) (S (o::l).length).dW (S (o::l).length).H=some r:=by
   intro v H' b_ h1 h2 h3 h4
   obtain ⟨S,g1,g2,g3,g4,g5⟩:=Q9y hX l b_ H' _ h4
   refine ⟨fun k=>match k with | 0=>⟨env,fP,H,t,v⟩ | k+1=>S k,rfl,rfl,g3,fun k q hk=>?_,?_⟩
   .cases k with
    | zero =>
     simp at hk;subst hk
     exact ⟨dw,hg,fun e=>by simp only [g2];exact h1 e,fun e=>by simp only [g2];exact h2 e,by simp only [g1];exact h3⟩
    | succ k=>exact g4 k q (by simpa using hk)
   .have:((List.range ((o::l).length+1)).map fun k=>(((fun k=>match k with | 0=>(⟨env,fP,H,t,v⟩:St) | k+1=>S k) k).env,((fun k=>match k with | 0=>(⟨env,fP,H,t,v⟩:St) | k+1=>S k) k).H))=(fP,H)::((List.range (l.length+1)).map fun k=>((S k).env,(S k).H)):=by
     rw [Z9,List.range_succ_eq_map,List.map_cons,List.map_map]
     rfl
    rw [this]
    simpa using g5
  cases t with
  | true =>
   simp only at h
   rw [<- Qni] at h
   obtain ⟨v,H',h,hF⟩:=QZ hX h
   obtain ⟨b_,h,hp⟩:=Da h
   exact fin v H' b_ (fun _=>hF) (fun e=>by simp at e) hp h
  | false =>
   simp only at h
   obtain ⟨b_,h,hp⟩:=Da h
   exact fin undef H b_ (fun e=>by simp at e) (fun _=>⟨rfl,rfl⟩) hp h
theorem Qbp {x y:Value} (h:Qa x y=true):x=y:=by
 unfold Qa at h
 split at h
 .simp at h;rw [h]
 .simp at h;rw [h.1,h.2]
 .rename_i a b
  simp only [beq_iff_eq] at h
  have:a=b:=by
   rw [ByteArray.toList_eq,ByteArray.toList_eq] at h
   obtain ⟨⟨x⟩⟩:=a;obtain ⟨⟨y⟩⟩:=b
   simp at h;rw [h]
  rw [this]
 .simp at h;rw [h]
 .simp at h;rw [h.1.1,h.1.2,h.2]
 .rfl
 .rfl
 .simp at h;rw [h]
 .simp at h
theorem Qi9:∀ {x y:List Value},A0 x y=true->x=y
 | [],[],_=>rfl
 | [],_::_,h=>by simp [A0] at h
 | _::_,[],h=>by simp [A0] at h
 | a::x,b::y,h=>by
  simp only [A0,Z8] at h
  rw [Qbp h.1,Qi9 h.2]
theorem Qqf {x y:Option Value} (h:jF x y=true):x=y:=by
 unfold jF at h
 split at h
 .rfl
 .rename_i xs ys
  have:=Qi9 h
  obtain ⟨xs⟩:=xs;obtain ⟨ys⟩:=ys
  simp at this;rw [this]
 .rw [Qbp h]
 .simp at h
theorem V_ {P:Program} {ops:Array Oper} {jk:List (Env×af)} {i:Nat} {o:Oper} {x:Option β}:∀ {ms:List Nat},GX P ops jk i o ms x=some r ->
  x=some r/\∀ m∈ms,(I4 P ops m i || I5 P ops i o m)=true\/∃ s q,jk[i]? = some s/\jk[m]? = some q/\cT P o.op s.1 q.2=cT P o.op s.1 s.2
 | [],h=>⟨h,by simp⟩
 | m::ms,h=>by
  unfold GX at h
  split at h
  .rename_i hq
   obtain ⟨h1,h2⟩:=V_ h
   exact ⟨h1,fun k hk=>by
    rcases Z2 hk with rfl | hk
    .exact .inl hq
    .exact h2 k hk⟩
  .split at h
   .rename_i s q hs hq
    rcases jx h with ⟨e,h⟩ | ⟨_,h⟩
    .obtain ⟨h1,h2⟩:=V_ h
     exact ⟨h1,fun k hk=>by
      rcases Z2 hk with rfl | hk
      .exact .inr ⟨s,q,hs,hq,Qqf e⟩
      .exact h2 k hk⟩
    .simp at h
   .simp at h
theorem Ph {P:Program} {ops:Array Oper} {jk:List (Env×af)} {x:Option β}:∀ {l:List Nat},cv P ops jk l x=some r ->
  x=some r/\∀ i∈l,cI P ops i=1->∀ o,ops[i]? = some o->∀ m∈GV P ops i,(I4 P ops m i || I5 P ops i o m)=true\/∃ s q,jk[i]? = some s/\jk[m]? = some q/\cT P o.op s.1 q.2=cT P o.op s.1 s.2
 | [],h=>⟨h,by simp⟩
 | i::l,h=>by
  unfold cv at h
  split at h
  .rename_i o hc ho
   obtain ⟨h1,h2⟩:=V_ h
   obtain ⟨h3,h4⟩:=Ph h1
   refine ⟨h3,fun k hk rX o' qE=>?_⟩
   rcases Z2 hk with rfl | hk
   .rw [ho] at qE;simp at qE;subst qE;exact h2
   .exact h4 k hk rX o' qE
  .rename_i aU
   obtain ⟨h3,h4⟩:=Ph h
   refine ⟨h3,fun k hk rX o' qE=>?_⟩
   rcases Z2 hk with rfl | hk
   .exact absurd qE (aU o' (by rw [rX];rfl))
   .exact h4 k hk rX o' qE
end
structure bF (X:Cx) (ops:Array Oper) (S:Nat->St):Prop where
 step:∀ k o,ops[k]? = some o->qG X ops o (S k) (S (k+1))
 ok:LH X.P ops=true
 Mu:dF (aK (S 0).H.length) (S 0).dW
 closed:Ql (S 0).H.length (S 0).H
section
variable {X:Cx} {ops:Array Oper} {S:Nat->St}
theorem Aa {i:Nat} (h:i < ops.size):∃ o,ops[i]? = some o:=⟨ops[i],Array.getElem?_eq_getElem h⟩
theorem oC {i:Nat} {o:Oper} (h:ops[i]? = some o):i < ops.size:=(Array.getElem?_eq_some_iff.1 h).1
theorem Mv {P:Program} {i:Nat} {o:Oper} (h:ops[i]? = some o):cI P ops i=fX P o.op:=by simp [cI,h]
theorem Qtj {P:Program} {i:Nat} (h:¬ i < ops.size):cI P ops i=0:=by
 unfold cI;rw [Array.getElem?_eq_none (by omega)]
theorem Qvf (P:Program) (op:Op):fX P op<=3:=by
 unfold fX
 split<;>first | omega | (split<;>omega)
theorem dF.bJ {D:Nat->Prop} {env:Env} {ts:List Tmp} (h:dF D env):dF D (bJ ts env):=fun s v hs=>h s v (V8 hs).2
theorem bF.abs (h:bF X ops S):∀ i,i<=ops.size->dF (aK (S i).H.length) (S i).dW/\Ql (S i).H.length (S i).H/\Ab X.ai (S 0).H (S i).H
 | 0,_=>⟨h.Mu,h.closed,Ab.refl _ _⟩
 | i+1,hi=>by
  obtain ⟨h1,h2,h3⟩:=h.abs i (by omega)
  obtain ⟨o,ho⟩:=Aa (ops:=ops) (i:=i) (by omega)
  have hs:=h.step i o ho
  have hE:dF (aK (S i).H.length) (S i).env:=fun s v hv=>h1 s v (by rw [<- hs.same];exact hv)
  have key:Ab X.ai (S i).H (S (i+1)).H/\bK (aK (S (i+1)).H.length) (S i).v:=by
   cases ht:(S i).t with
   | true=>exact NX (hs.yes ht) hE.bJ h2
   | false=>obtain ⟨e1,e2⟩:=hs.no ht;rw [e1,e2];exact ⟨Ab.refl _ _,JV _⟩
  exact ⟨J7 (hE.mono (aK.mono key.1.len)) key.2 hs.put,key.1.all h2,h3.trans key.1⟩
theorem bF.Ac (h:bF X ops S) {i:Nat} (hi:i < ops.size):dF (aK (S i).H.length) (S i).env:=by
 obtain ⟨o,ho⟩:=Aa hi
 exact fun s v hv=>(h.abs i (by omega)).1 s v (by rw [<- (h.step i o ho).same];exact hv)
theorem bF.nY (h:bF X ops S) {i:Nat} (hi:i < ops.size):(S i).H.length<=(S (i+1)).H.length:=by
 obtain ⟨o,ho⟩:=Aa hi
 have hs:=h.step i o ho
 cases ht:(S i).t with
 | true=>exact (NX (hs.yes ht) (h.Ac hi).bJ (h.abs i (by omega)).2.1).1.len
 | false=>rw [(hs.no ht).2];exact Zd _
theorem bF.bQ (h:bF X ops S) {m:Nat}:∀ {i:Nat},m<=i->i<=ops.size->(S m).H.length<=(S i).H.length
 | 0,h1,_=>by rw [Nat.le_zero.1 h1];exact Zd _
 | i+1,h1,h2=>by
  by_cases e:m=i+1
  .subst e;exact Zd _
  .exact Nat.le_trans (h.bQ (by omega) (by omega)) (h.nY (by omega))
theorem bF.quiet (h:bF X ops S) {i:Nat} (hi:i < ops.size) (hc:cI X.P ops i≠3) :
  ((S (i+1)).H=(S i).H)\/(cI X.P ops i=2/\(S i).t=true/\∃ vs,(S (i+1)).H=dc (S i).H vs):=by
 obtain ⟨o,ho⟩:=Aa hi
 have hs:=h.step i o ho
 have cz:=Mv (P:=X.P) ho
 cases ht:(S i).t with
 | false=>exact .inl (hs.no ht).2
 | true =>
  have hF:=hs.yes ht
  unfold jy at hF
  split at hF
  .exact .inl hF.1
  .exact .inl hF.1
  .rename_i Br;obtain ⟨vs,mk,_,e,_⟩:=hF;exact .inr ⟨by rw [cz];exact Br,rfl,vs,e⟩
  .rename_i h0 h1 h2
   have hle:=Qvf X.P o.op
   rw [cz] at hc
   exact absurd hF (by
    intro _
    have:fX X.P o.op=0\/fX X.P o.op=1\/fX X.P o.op=2:=by omega
    rcases this with e | e | e
    .exact h0 e
    .exact h1 e
    .exact h2 e)
theorem bF.dB (h:bF X ops S) {i:Nat} (hi:i < ops.size) (hc:cI X.P ops i=2) (ht:(S i).t=true):(S (i+1)).H.length=(S i).H.length+1:=by
 obtain ⟨o,ho⟩:=Aa hi
 have hF:=(h.step i o ho).yes ht
 have cz:=Mv (P:=X.P) ho
 rw [hc] at cz
 unfold jy at hF
 rw [<- cz] at hF
 obtain ⟨vs,mk,_,e,_⟩:=hF
 rw [e,Qy]
theorem bF.keep (h:bF X ops S) {m:Nat}:∀ {i:Nat},m<=i->i<=ops.size->(∀ k,m<=k->k < i->cI X.P ops k≠3)->∀ x,x < (S m).H.length->ah (S i).H x=ah (S m).H x
 | 0,h1,_,_,x,hx=>by rw [Nat.le_zero.1 h1]
 | i+1,h1,h2,h3,x,hx=>by
  by_cases e:m=i+1
  .subst e;rfl
  .have ih:=h.keep (i:=i) (by omega) (by omega) (fun k h4 h5=>h3 k h4 (by omega)) x hx
   rcases h.quiet (i:=i) (by omega) (h3 i (by omega) (by omega)) with e | ⟨_,_,vs,e⟩
   .rw [e,ih]
   .have:=h.bQ (m:=m) (i:=i) (by omega) (by omega)
    rw [e,Vf (by omega),ih]
theorem bF.made (h:bF X ops S) {m:Nat}:∀ {e:Nat},m<=e->e<=ops.size->(∀ k,m<=k->k < e->cI X.P ops k≠3)->∀ x,(S m).H.length<=x->x < (S e).H.length ->
  ∃ i,m<=i/\i < e/\cI X.P ops i=2/\(S i).t=true/\x=(S i).H.length/\ah (S (i+1)).H x=ah (S e).H x
 | 0,h1,_,_,x,hx,mA=>by rw [Nat.le_zero.1 h1] at hx;omega
 | e+1,h1,h2,h3,x,hx,mA=>by
  by_cases he:m=e+1
  .subst he;omega
  .rcases h.quiet (i:=e) (by omega) (h3 e (by omega) (by omega)) with q | ⟨hc,ht,vs,q⟩
   .rw [q] at mA
    obtain ⟨i,g1,g2,g3,g4,g5,g6⟩:=h.made (e:=e) (by omega) (by omega) (fun k h4 h5=>h3 k h4 (by omega)) x hx mA
    exact ⟨i,g1,by omega,g3,g4,g5,by rw [g6,q]⟩
   .by_cases hxe:x < (S e).H.length
    .obtain ⟨i,g1,g2,g3,g4,g5,g6⟩:=h.made (e:=e) (by omega) (by omega) (fun k h4 h5=>h3 k h4 (by omega)) x hx hxe
     exact ⟨i,g1,by omega,g3,g4,g5,by rw [g6,q,Vf hxe]⟩
    .rw [q,Qy] at mA
     exact ⟨e,by omega,by omega,hc,ht,by omega,rfl⟩
def nZ (ops:Array Oper) (j:Nat):Option Tmp:=(ops[j]?).bind (·.dst)
theorem bF.look (h:bF X ops S) {q k:Nat}:∀ {i:Nat},k<=i->i<=ops.size->(∀ j,k<=j->j < i->nZ ops j≠some q)->cN (S i).dW q=cN (S k).dW q
 | 0,h1,_,_=>by rw [Nat.le_zero.1 h1]
 | i+1,h1,h2,h3=>by
  by_cases e:k=i+1
  .subst e;rfl
  .have ih:=h.look (i:=i) (by omega) (by omega) (fun j h4 h5=>h3 j h4 (by omega))
   obtain ⟨o,ho⟩:=Aa (ops:=ops) (i:=i) (by omega)
   have hs:=h.step i o ho
   have aU:=h3 i (by omega) (by omega)
   have hd:o.dst≠some q:=by simpa [nZ,ho] using aU
   rcases hs.put with ⟨_,e⟩ | ⟨d,om,_,e⟩
   .rw [e,hs.same,ih]
   .rw [e,uT,if_neg (fun e=>hd (by rw [om,e])),hs.same,ih]
theorem bF.wrote (h:bF X ops S) {q k i:Nat} (hk:k < i) (hi:i<=ops.size) (hd:nZ ops k=some q) (hn:∀ j,k < j->j < i->nZ ops j≠some q):cN (S i).dW q=some (S k).v/\q < X.nt:=by
 obtain ⟨o,ho⟩:=Aa (ops:=ops) (i:=k) (by omega)
 have hs:=h.step k o ho
 have om:o.dst=some q:=by simpa [nZ,ho] using hd
 rw [h.look (k:=k+1) (by omega) hi (fun j h1 h2=>hn j (by omega) h2)]
 rcases hs.put with ⟨e,_⟩ | ⟨d,e,au,e'⟩
 .rw [e] at om;simp at om
 .rw [e] at om;simp at om;subst om
  exact ⟨by rw [e',uT,if_pos rfl],au⟩
theorem bF.pair (h:bF X ops S) {i j:Nat} (ng:i < j) (hj:j < ops.size):iA (Region.before ops) j i=true\/(¬ (cI X.P ops j=3/\2<=cI X.P ops i)/\∃ x y,ops[i]? = some x/\ops[j]? = some y/\x.apart ops y=true):=by
 have cZ:=h.ok
 unfold LH at cZ
 simp only [List.all_eq_true,List.mem_range,Z8] at cZ
 have:=(cZ j hj).2 i ng
 unfold Qv5 at this
 rcases Bool.or_eq_true_iff.1 this with h1 | h1
 .exact .inl h1
 .right
  simp only [Z8,Bool.not_eq_true'] at h1
  obtain ⟨h2,h3⟩:=h1
  refine ⟨fun ⟨e1,e2⟩=>?_,?_⟩
  .rw [e1] at h2
   have:Nat.ble 2 (cI X.P ops i)=true:=Nat.ble_eq_true_of_le e2
   rw [this] at h2;simp at h2
  .split at h3
   .rename_i x y hx hy;exact ⟨x,y,hx,hy,h3⟩
   .simp at h3
theorem bF.Mw (h:bF X ops S) {j:Nat} {o:Oper} (ho:ops[j]? = some o):∀ e∈o.after.toList,Region.binds .any e=true->e.on < j:=by
 have cZ:=h.ok
 unfold LH at cZ
 simp only [List.all_eq_true,List.mem_range,Z8] at cZ
 have:=(cZ j (oC ho)).1
 unfold Qpv at this
 rw [ho] at this
 simp only [List.all_eq_true] at this
 intro e he hb
 have:=this e he
 rw [hb] at this
 have h2:e.on+1<=j:=by simpa [Nat.blt] using this
 exact h2
def gH (X:Cx) (ops:Array Oper) (S:Nat->St) (m:Nat) (L:Nat->Prop) (x:Nat):Prop :=
 x < (S m).H.length\/∃ i,m<=i/\i < ops.size/\L i/\cI X.P ops i=2/\(S i).t=true/\x=(S i).H.length
structure Inv (X:Cx) (ops:Array Oper) (S:Nat->St) (ι₀:Io) (w₀:World) (L:Nat->Prop) (ι:Io) (G:af) (m:Nat) (a:Act) (w:World):Prop where
 Ji:m<=ops.size
 dX:∀ e,e < ops.size->cI X.P ops e=3->(L e↔e < m)
 last:m=0\/cI X.P ops (m - 1)=3
 down:∀ j i,L j->iA (Region.before ops) j i=true->L i
 Pj:∀ j,L j->j < ops.size
 len:G.length=(S ops.size).H.length
 old:∀ x,x < (S m).H.length->ah G x=ah (S m).H x
 n_:∀ i,m<=i->i < ops.size->L i->cI X.P ops i=2->(S i).t=true->ah G (S i).H.length=ah (S (i+1)).H (S i).H.length
 dead:∀ x,(S m).H.length<=x->x < (S ops.size).H.length->(∀ i,m<=i->i < ops.size->L i->cI X.P ops i=2->(S i).t=true->x≠(S i).H.length)->G[x]? = some none
 rel:Rel ι (gH X ops S m L) G w
 fr:Fr ι₀ (S 0).H w₀ ι G w
 size:a.tmps.size=X.nt
 env:∀ q i,i<=ops.size->(∀ j,j < ops.size->nZ ops j=some q->(L j↔j < i))->∀ v,cN (S i).dW q=some v->ay ι (gH X ops S m L) v (a.tmps.getD q undef)
 defers:a.defers=[]
variable {ι₀:Io} {w₀:World} {L:Nat->Prop} {ι:Io} {G:af} {m:Nat} {a:Act} {w:World}
structure Next (ops:Array Oper) (L:Nat->Prop) (i:Nat) (o:Oper):Prop where
 op:ops[i]? = some o
 not:¬ L i
 A3:∀ k,iA (Region.before ops) i k=true->L k
theorem Inv.loc (h:Inv X ops S ι₀ w₀ L ι G m a w) (hr:bF X ops S) {i:Nat} {o:Oper} (hn:Next ops L i o):vf ι (gH X ops S m L) X.nt (o.looksAt ops) (S i).dW a:=by
 have hi:=oC hn.op
 refine ⟨h.size,fun s hs v hv=>h.env s i (by omega) (fun j hj hd=>?_) v hv⟩
 obtain ⟨oj,Wa⟩:=Aa hj
 have om:oj.dst=some s:=by simpa [nZ,Wa] using hd
 rcases Nat.lt_trichotomy j i with au | rfl | au
 .refine ⟨fun _=>au,fun _=>?_⟩
  rcases hr.pair au hi with hb | ⟨_,x,y,hx,hy,Mx⟩
  .exact hn.A3 j hb
  .rw [Wa] at hx;rw [hn.op] at hy;simp at hx hy;subst hx;subst hy
   exact absurd hs ((Oper.apart_spec Mx).1 s om)
 .exact ⟨fun hL=>absurd hL hn.not,fun au=>by omega⟩
 .refine ⟨fun hL=>?_,fun h=>by omega⟩
  rcases hr.pair au hj with hb | ⟨_,x,y,hx,hy,Mx⟩
  .exact absurd (h.down j i hL hb) hn.not
  .rw [hn.op] at hx;rw [Wa] at hy;simp at hx hy;subst hx;subst hy
   exact absurd hs ((Oper.apart_spec Mx).2.2 s om)
def jH (L:Nat->Prop) (i:Nat):Nat->Prop:=fun j=>L j\/j=i
theorem Next.sD {i:Nat} {o:Oper} (hn:Next ops L i o) (My:∀ j k,L j->iA (Region.before ops) j k=true->L k):∀ j k,jH L i j->iA (Region.before ops) j k=true->jH L i k:=by
 rintro j k (hj | rfl) hb
 .exact .inl (My j k hj hb)
 .exact .inl (hn.A3 k hb)
theorem Inv.iO (h:Inv X ops S ι₀ w₀ L ι G m a w) (hr:bF X ops S) {i:Nat} {o:Oper} (hn:Next ops L i o) {ι':Io} {D':Nat->Prop} {c:Value} (hc:ay ι' D' (S i).v c)
  (fm:∀ {v c:Value},ay ι (gH X ops S m L) v c->ay ι' D' v c) :
  ∀ q k,k<=ops.size->(∀ j,j < ops.size->nZ ops j=some q->(jH L i j↔j < k))->∀ v,cN (S k).dW q=some v->ay ι' D' v ((a.put o.dst c).tmps.getD q undef):=by
 intro q k hk cU v hv
 have hi:=oC hn.op
 by_cases hq:o.dst=some q
 .have hdi:nZ ops i=some q:=by simp [nZ,hn.op,hq]
  have hik:i < k:=(cU i hi hdi).1 (.inr rfl)
  have eG:∀ j,i < j->j < k->nZ ops j≠some q:=by
   intro j h1 h2 hd
   have hj:j < ops.size:=by omega
   have hL:L j:=by
    rcases (cU j hj hd).2 h2 with hL | rfl
    .exact hL
    .omega
   rcases hr.pair h1 hj with hb | ⟨_,x,y,hx,hy,Mx⟩
   .exact hn.not (h.down j i hL hb)
   .rw [hn.op] at hx;simp at hx;subst hx
    have:y.dst=some q:=by simpa [nZ,hy] using hd
    exact (Oper.apart_spec Mx).2.1 q hq this
  obtain ⟨e1,e2⟩:=hr.wrote hik hk hdi eG
  rw [e1] at hv;simp at hv;subst hv
  rw [hq]
  simp only [Act.put]
  rw [Qlw (by rw [h.size];exact e2),if_pos rfl]
  exact hc
 .have dw:(a.put o.dst c).tmps.getD q undef=a.tmps.getD q undef:=by
   cases hd:o.dst with
   | none=>rfl
   | some d =>
    have aU:d≠q:=fun e=>hq (by rw [hd,e])
    simp only [Act.put,Array.getD_eq_getD_getElem?,Array.getElem?_setIfInBounds_ne aU]
  rw [dw]
  refine fm (h.env q k hk (fun j hj hd=>?_) v hv)
  have hji:j≠i:=fun e=>hq (by subst e;simpa [nZ,hn.op] using hd)
  rw [<- cU j hj hd]
  exact ⟨fun hL=>.inl hL,fun hL=>hL.resolve_right hji⟩
theorem Pm (a:Act) (dst:Option Tmp) (c:Value):(a.put dst c).tmps.size=a.tmps.size:=by cases dst<;>simp [Act.put]
theorem Inv.still (h:Inv X ops S ι₀ w₀ L ι G m a w) (hr:bF X ops S) {i:Nat} {o:Oper} (hn:Next ops L i o) (Eu:cI X.P ops i≠3) (Br:cI X.P ops i=2->(S i).t=false) {c:Value} (hc:ay ι (gH X ops S m L) (S i).v c) :
  Inv X ops S ι₀ w₀ (jH L i) ι G m (a.put o.dst c) w:=by
 have hi:=oC hn.op
 have jU:∀ x,gH X ops S m L x->gH X ops S m (jH L i) x:=by
  rintro x (hx | ⟨k,h1,h2,h3,h4,h5,h6⟩)
  .exact .inl hx
  .exact .inr ⟨k,h1,h2,.inl h3,h4,h5,h6⟩
 have oa:∀ k,jH L i k->cI X.P ops k=2->(S k).t=true->L k:=by
  rintro k (hL | rfl) h2 ht
  .exact hL
  .rw [Br h2] at ht;simp at ht
 have fm:∀ {v c:Value},ay ι (gH X ops S m L) v c->ay ι (gH X ops S m (jH L i)) v c:=fun hv=>hv.mono jU fun _ _=>rfl
 refine ⟨h.Ji,fun e he Cr=>?_,h.last,hn.sD h.down,?_,h.len,h.old,fun k h1 h2 h3 h4 h5=>h.n_ k h1 h2 (oa k h3 h4 h5) h4 h5,fun x h1 h2 h3=>h.dead x h1 h2 (fun k g1 g2 g3 g4 g5=>h3 k g1 g2 (.inl g3) g4 g5),h.rel.domain jU,h.fr,
  by rw [Pm];exact h.size,h.iO hr hn (fm hc) fm,by rw [Ir];exact h.defers⟩
 .have aU:e≠i:=fun e'=>Eu (e'▸Cr)
  rw [<- h.dX e he Cr]
  exact ⟨fun hL=>hL.resolve_right aU,fun hL=>.inl hL⟩
 .rintro j (hL | rfl)
  .exact h.Pj j hL
  .exact hi
theorem Inv.Cw (h:Inv X ops S ι₀ w₀ L ι G m a w) (hr:bF X ops S) {i:Nat} {o:Oper} (hn:Next ops L i o) (hc:cI X.P ops i=2):m<=i:=by
 have hi:=oC hn.op
 by_cases au:m<=i
 .exact au
 .exfalso
  rcases h.last with hm | hm
  .omega
  .have Ew:m - 1 < ops.size:=by have:=h.Ji;omega
   have hL:L (m - 1):=(h.dX (m - 1) Ew hm).2 (by omega)
   have aU:i≠m - 1:=fun e=>by rw [e,hm] at hc;omega
   rcases hr.pair (i:=i) (j:=m - 1) (by omega) Ew with hb | ⟨hx,_⟩
   .exact hn.not (h.down _ _ hL hb)
   .exact hx ⟨hm,by omega⟩
theorem Inv.make (h:Inv X ops S ι₀ w₀ L ι G m a w) (hr:bF X ops S) {i:Nat} {o:Oper} (hn:Next ops L i o) (hc:cI X.P ops i=2) (ht:(S i).t=true) {vs cs rest:List Value} {e_:TypeId} {fz:Nat×Nat} {w0:World} {c:Value}
  (hH:(S (i+1)).H=dc (S i).H vs) (hl:aZ ι (gH X ops S m L) vs cs) (bL:∀ v∈vs,az v=true) (hfz:oH fz (cs++rest).length) (e1:w0.heap=w.heap) (e2:w0.os=w.os) (e3:w0.tape=w.tape) (e4:w0.output=w.output)
  (hv:ay (ι.set (S i).H.length ⟨w.heap.size,0,(cs++rest).length⟩) (fun b=>gH X ops S m L b\/b=(S i).H.length) (S i).v c) :
  Inv X ops S ι₀ w₀ (jH L i) (ι.set (S i).H.length ⟨w.heap.size,0,(cs++rest).length⟩) (G.set (S i).H.length (some ⟨vs,false,none⟩)) m (a.put o.dst c) (w0.alloc (.cells (cs++rest).toArray e_ fz)):=by
 have hi:=oC hn.op
 have nT:=h.Cw hr hn hc
 have hlen:=hr.dB hi hc ht
 have Cy:=hr.bQ nT (by omega)
 have hle:=hr.bQ (m:=i+1) (i:=ops.size) (by omega) (Zd _)
 have Hx:∀ k,m<=k->k < ops.size->cI X.P ops k=2->(S k).t=true->k≠i->(S k).H.length≠(S i).H.length:=by
  intro k h1 h2 h3 h4 h5
  rcases Nat.lt_or_gt_of_ne h5 with au | au
  .have:=hr.dB h2 h3 h4
   have:=hr.bQ (m:=k+1) (i:=i) (by omega) (by omega)
   omega
  .have:=hr.bQ (m:=i+1) (i:=k) (by omega) (by omega)
   omega
 have hnD:¬ gH X ops S m L (S i).H.length:=by
  rintro (hx | ⟨k,h1,h2,h3,h4,h5,h6⟩)
  .omega
  .by_cases e:k=i
   .subst e;exact hn.not h3
   .exact Hx k h1 h2 h4 h5 e h6.symm
 have hG:G[(S i).H.length]? = some none:=h.dead _ Cy (by omega) (fun k g1 g2 g3 g4 g5 e=>Hx k g1 g2 g4 g5 (fun e'=>hn.not (e'▸g3)) e.symm)
 have hGl:(S i).H.length < G.length:=(Z0 hG).1
 have hD:∀ b,(gH X ops S m L b\/b=(S i).H.length)->gH X ops S m (jH L i) b:=by
  rintro b ((hx | ⟨k,h1,h2,h3,h4,h5,h6⟩) | rfl)
  .exact .inl hx
  .exact .inr ⟨k,h1,h2,.inl h3,h4,h5,h6⟩
  .exact .inr ⟨i,nT,hi,.inr rfl,hc,ht,rfl⟩
 have hw:w0.heap.size=w.heap.size:=by rw [e1]
 have wu:=(h.rel.bz e1).fill hG hnD hl bL rest e_ fz hfz
 rw [hw] at wu
 have fm:∀ {v c:Value},ay ι (gH X ops S m L) v c->ay (ι.set (S i).H.length ⟨w.heap.size,0,(cs++rest).length⟩) (gH X ops S m (jH L i)) v c :=
  fun hr=>hr.mono (fun b hb=>hD b (.inl hb)) fun b hb=>Io.aS _ _ (fun e=>hnD (e▸hb))
 refine ⟨h.Ji,fun e he Cr=>?_,h.last,hn.sD h.down,?_,by rw [List.length_set];exact h.len,fun x hx=>?_,fun k g1 g2 g3 g4 g5=>?_,fun x g1 g2 g3=>?_,wu.domain hD,?_,by rw [Pm];exact h.size,
  h.iO hr hn (hv.mono hD fun _ _=>rfl) fm,by rw [Ir];exact h.defers⟩
 .have aU:e≠i:=fun e'=>by rw [e'] at Cr;omega
  rw [<- h.dX e he Cr]
  exact ⟨fun hL=>hL.resolve_right aU,fun hL=>.inl hL⟩
 .rintro j (hL | rfl)
  .exact h.Pj j hL
  .exact hi
 .rw [Qm (by omega)];exact h.old x hx
 .by_cases e:k=i
  .subst e;rw [sS hGl,hH,LN]
  .rw [Qm (Ne.symm (Hx k g1 g2 g4 g5 e))]
   exact h.n_ k g1 g2 (g3.resolve_right e) g4 g5
 .have aU:(S i).H.length≠x:=Ne.symm (g3 i nT hi (.inr rfl) hc ht)
  rw [List.getElem?_set_ne aU]
  exact h.dead x g1 g2 (fun k q1 q2 q3 q4 q5=>g3 k q1 q2 (.inl q3) q4 q5)
 .have hgc:∀ {b:Nat} {k:bx},ah (G.set (S i).H.length (some ⟨vs,false,none⟩)) b=some k->(b=(S i).H.length/\k.ro=false)\/(b≠(S i).H.length/\ah G b=some k):=by
   intro b k hb
   by_cases e:b=(S i).H.length
   .subst e;rw [sS hGl] at hb;simp at hb;subst hb;exact .inl ⟨rfl,rfl⟩
   .rw [Qm (Ne.symm e)] at hb;exact .inr ⟨e,hb⟩
  have h0:=hr.bQ (m:=0) (i:=i) (by omega) (by omega)
  refine ⟨by rw [List.length_set];exact h.fr.len,fun b hb=>by rw [Io.aS _ _ (by omega)];exact h.fr.io b hb,e2.trans h.fr.os,e3.trans h.fr.tape,e4.trans h.fr.output,?_,fun k hk eG=>?_,fun b k hb bn=>?_,fun b k hb bn=>?_⟩
  .rw [World.size_alloc,hw];have:=h.fr.size;omega
  .rw [E9 _ _ (by rw [hw];have:=h.fr.size;omega),e1];exact h.fr.frame k hk eG
  .rcases hgc hb with ⟨rfl,_⟩ | ⟨e,hb⟩
   .left;rw [Io.aB];exact h.fr.size
   .rw [Io.aS _ _ e];exact h.fr.new b k hb bn
  .rcases hgc hb with ⟨rfl,e⟩ | ⟨e,hb⟩
   .rw [e] at bn;simp at bn
   .exact h.fr.ro b k hb bn
theorem Inv.Hy (h:Inv X ops S ι₀ w₀ L ι G m a w) (hr:bF X ops S) {e:Nat} {o:Oper} (hn:Next ops L e o) (hc:cI X.P ops e=3) :
  m<=e/\(∀ x,x < (S e).H.length->ah G x=ah (S e).H x)/\(∀ x,gH X ops S m L x->x < (S e).H.length\/∃ i,e+1<=i/\i < ops.size/\L i/\cI X.P ops i=2/\(S i).t=true/\x=(S i).H.length):=by
 have he:=oC hn.op
 have Bc:m<=e:=by
  by_cases au:m<=e
  .exact au
  .exact absurd ((h.dX e he hc).2 (by omega)) hn.not
 have eG:∀ k,m<=k->k < e->cI X.P ops k≠3:=by
  intro k h1 h2 h3
  rcases hr.pair h2 he with hb | ⟨hx,_⟩
  .have:=(h.dX k (by omega) h3).1 (hn.A3 k hb);omega
  .exact hx ⟨hc,by omega⟩
 refine ⟨Bc,fun x hx=>?_,?_⟩
 .by_cases Mz:x < (S m).H.length
  .rw [h.old x Mz,hr.keep Bc (by omega) eG x Mz]
  .obtain ⟨i,g1,g2,g3,g4,g5,g6⟩:=hr.made Bc (by omega) eG x (by omega) hx
   have hL:L i:=by
    rcases hr.pair g2 he with hb | ⟨hx,_⟩
    .exact hn.A3 i hb
    .exact absurd ⟨hc,by omega⟩ hx
   have:=h.n_ i g1 (by omega) hL g3 g4
   rw [<- g5] at this
   rw [this,g6]
 .rintro x (hx | ⟨i,h1,h2,h3,h4,h5,h6⟩)
  .have:=hr.bQ Bc (by omega);exact .inl (by omega)
  .rcases Nat.lt_trichotomy i e with au | rfl | au
   .have:=hr.dB h2 h4 h5
    have:=hr.bQ (m:=i+1) (i:=e) (by omega) (by omega)
    exact .inl (by omega)
   .rw [hc] at h4;omega
   .exact .inr ⟨i,by omega,h2,h3,h4,h5,h6⟩
theorem Inv.MA (h:Inv X ops S ι₀ w₀ L ι G m a w) (hr:bF X ops S) {e:Nat} {o:Oper} (hn:Next ops L e o) (hc:cI X.P ops e=3) (ht:(S e).t=false) {c:Value} (hv:∀ D,ay ι D (S e).v c) :
  Inv X ops S ι₀ w₀ (jH L e) ι G (e+1) (a.put o.dst c) w:=by
 have he:=oC hn.op
 obtain ⟨Bc,hold,jU⟩:=h.Hy hr hn hc
 have hH:(S (e+1)).H=(S e).H:=((hr.step e o hn.op).no ht).2
 have hD:∀ x,gH X ops S m L x->gH X ops S (e+1) (jH L e) x:=by
  intro x hx
  rcases jU x hx with h1 | ⟨i,h1,h2,h3,h4,h5,h6⟩
  .left;rw [hH];exact h1
  .exact .inr ⟨i,h1,h2,.inl h3,h4,h5,h6⟩
 have fm:∀ {v c:Value},ay ι (gH X ops S m L) v c->ay ι (gH X ops S (e+1) (jH L e)) v c:=fun hr=>hr.mono hD fun _ _=>rfl
 have oa:∀ k,jH L e k->cI X.P ops k=2->L k:=by
  rintro k (hL | rfl) h2
  .exact hL
  .rw [hc] at h2;omega
 refine ⟨by omega,fun k hk rX=>?_,.inr hc,hn.sD h.down,?_,h.len,fun x hx=>by rw [hH] at hx ⊢;exact hold x hx,fun k g1 g2 g3 g4 g5=>h.n_ k (by omega) g2 (oa k g3 g4) g4 g5,fun x g1 g2 g3=>?_,h.rel.domain hD,h.fr,by rw [Pm];exact h.size,
  h.iO hr hn (hv _) fm,by rw [Ir];exact h.defers⟩
 .constructor
  .rintro (hL | rfl)
   .have:=(h.dX k hk rX).1 hL;omega
   .omega
  .intro au
   by_cases e':k=e
   .exact .inr e'
   .refine .inl ?_
    by_cases AD:k < m
    .exact (h.dX k hk rX).2 AD
    .exfalso
     rcases hr.pair (i:=k) (j:=e) (by omega) he with hb | ⟨hx,_⟩
     .have:=(h.dX k hk rX).1 (hn.A3 k hb);omega
     .exact hx ⟨hc,by omega⟩
 .rintro j (hL | rfl)
  .exact h.Pj j hL
  .exact he
 .refine h.dead x ?_ g2 (fun k q1 q2 q3 q4 q5 hx=>?_)
  .have:=hr.bQ Bc (by omega);rw [hH] at g1;omega
  .rcases Nat.lt_trichotomy k e with au | rfl | au
   .have:=hr.dB q2 q4 q5
    have:=hr.bQ (m:=k+1) (i:=e) (by omega) (by omega)
    rw [hH] at g1;omega
   .rw [hc] at q4;omega
   .exact g3 k (by omega) q2 (.inl q3) q4 q5 hx
theorem Inv.MC (h:Inv X ops S ι₀ w₀ L ι G m a w) (hr:bF X ops S) {e:Nat} {o:Oper} (hn:Next ops L e o) (hc:cI X.P ops e=3):Rel ι (aK (S e).H.length) (S e).H w:=by
 have he:=oC hn.op
 obtain ⟨Bc,hold,jU⟩:=h.Hy hr hn hc
 have fq:=(hr.abs e (by omega)).2.1
 have hG:∀ {b:Nat} {k:bx},ah (S e).H b=some k->ah G b=some k:=fun hb=>by rw [hold _ (Qt hb)];exact hb
 refine ⟨fun b k hb=>?_,fun b b' k k' h1 h2=>h.rel.inj b b' k k' (hG h1) (hG h2),fun b k hb hr=>h.rel.h_ b k (hG hb) hr,h.rel.gw⟩
 exact (h.rel.aI b k (hG hb)).bw rfl rfl fun i hi c hv=>hv.re (fq b (Qt hb) k hb _ (List.getElem_mem hi)) fun _ _ _=>rfl
theorem Inv.Ex (h:Inv X ops S ι₀ w₀ L ι G m a w) (hr:bF X ops S) {e:Nat} {o:Oper} (hn:Next ops L e o):bt ι (gH X ops S m L) X.nt (bJ (nX o) (S e).env) a:=by
 have hl:=h.loc hr hn
 refine vf.bJ ⟨hl.size,fun s hs v hv=>?_⟩
 rw [(hr.step e o hn.op).same] at hv
 exact hl.get s (by rw [Qdl];exact List.mem_append.2 (.inl hs)) v hv
theorem Inv.Hz (h:Inv X ops S ι₀ w₀ L ι G m a w) (hr:bF X ops S) {e:Nat} {o:Oper} (hn:Next ops L e o):bt ι (aK (S e).H.length) X.nt (bJ (nX o) (S e).env) a:=by
 have h1:=h.Ex hr hn
 exact ⟨h1.size,fun s v hv=>(h1.get s v hv).re ((hr.Ac (oC hn.op)).bJ s v hv) fun _ _ _=>rfl⟩
theorem Inv.eff (h:Inv X ops S ι₀ w₀ L ι G m a w) (hr:bF X ops S) {e:Nat} {o:Oper} (hn:Next ops L e o) (hc:cI X.P ops e=3) {ι':Io} {w':World} {c:Value}
  (hR:Rel ι' (aK (S (e+1)).H.length) (S (e+1)).H w') (hv:ay ι' (aK (S (e+1)).H.length) (S e).v c) (hf:Fr ι (S e).H w ι' (S (e+1)).H w') :
  Inv X ops S ι₀ w₀ (jH L e) (fun x=>if x < (S (e+1)).H.length then ι' x else ι x) ((S (e+1)).H++G.drop (S (e+1)).H.length) (e+1) (a.put o.dst c) w':=by
 have he:=oC hn.op
 obtain ⟨Bc,hold,jU⟩:=h.Hy hr hn hc
 have hle:(S (e+1)).H.length<=G.length:=by rw [h.len];exact hr.bQ (by omega) (Zd _)
 have g_:=hr.nY he
 have hG:∀ {b:Nat} {k:bx},ah (S e).H b=some k->ah G b=some k:=fun hb=>by rw [hold _ (Qt hb)];exact hb
 have au:∀ {x:Nat},x < (S (e+1)).H.length->ah ((S (e+1)).H++G.drop (S (e+1)).H.length) x=ah (S (e+1)).H x:=fun hx=>E6 hx
 have sQ:∀ {x:Nat},(S (e+1)).H.length<=x->((S (e+1)).H++G.drop (S (e+1)).H.length)[x]? = G[x]?:=by
  intro x hx
  rw [Zq hx,Zp]
  congr 1;omega
 have MD:∀ {x:Nat},(S (e+1)).H.length<=x->ah ((S (e+1)).H++G.drop (S (e+1)).H.length) x=ah G x:=by
  intro x hx;unfold ah;rw [sQ hx]
 have iG:∀ i,e+1<=i->i < ops.size->(S (e+1)).H.length<=(S i).H.length:=fun i h1 h2=>hr.bQ h1 (by omega)
 have hD:∀ x,gH X ops S m L x->gH X ops S (e+1) (jH L e) x/\(if x < (S (e+1)).H.length then ι' x else ι x)=ι x:=by
  intro x hx
  rcases jU x hx with h1 | ⟨i,h1,h2,h3,h4,h5,h6⟩
  .exact ⟨.inl (by omega),by rw [if_pos (by omega)];exact hf.io x h1⟩
  .have:=iG i h1 h2
   exact ⟨.inr ⟨i,h1,h2,.inl h3,h4,h5,h6⟩,by rw [if_neg (by omega)]⟩
 have fm:∀ {v c:Value},ay ι (gH X ops S m L) v c->ay (fun x=>if x < (S (e+1)).H.length then ι' x else ι x) (gH X ops S (e+1) (jH L e)) v c :=
  fun hr=>hr.mono (fun x hx=>(hD x hx).1) fun x hx=>(hD x hx).2
 have Ad:∀ {v c:Value},ay ι' (aK (S (e+1)).H.length) v c->ay (fun x=>if x < (S (e+1)).H.length then ι' x else ι x) (gH X ops S (e+1) (jH L e)) v c :=
  fun hr=>hr.mono (fun x hx=>.inl hx) fun x hx=>if_pos hx
 have oa:∀ k,jH L e k->cI X.P ops k=2->L k:=by
  rintro k (hL | rfl) h2
  .exact hL
  .rw [hc] at h2;omega
 have ME:∀ {x:Nat} {k:bx},(S (e+1)).H.length<=x->ah G x=some k->∃ i,e+1<=i/\i < ops.size/\L i/\cI X.P ops i=2/\(S i).t=true/\x=(S i).H.length/\k.ro=false:=by
  intro x k hx hk
  have hxG:=Qt hk
  rw [h.len] at hxG
  apply Classical.byContradiction
  intro eG
  have Eg:=h.dead x (by have:=hr.bQ Bc (by omega:e<=ops.size);omega) hxG (fun i g1 g2 g3 g4 g5 mA=>by
   rcases Nat.lt_trichotomy i e with hl | rfl | hl
   .have:=hr.dB g2 g4 g5
    have:=hr.bQ (m:=i+1) (i:=e) (by omega) (by omega)
    omega
   .rw [hc] at g4;omega
   .have hp:=h.n_ i g1 g2 g3 g4 g5
    rw [<- mA,hk] at hp
    obtain ⟨oi,hoi⟩:=Aa g2
    have hF:=(hr.step i oi hoi).yes g5
    have cz:=Mv (P:=X.P) hoi
    rw [g4] at cz
    unfold jy at hF
    rw [<- cz] at hF
    obtain ⟨vs,mk,_,eH,_⟩:=hF
    rw [mA,eH,LN] at hp
    simp at hp
    exact eG ⟨i,by omega,g2,g3,g4,g5,mA,by rw [hp]⟩)
  unfold ah at hk;rw [Eg] at hk;simp at hk
 have cK:∀ {x:Nat} {k:bx},ah ((S (e+1)).H++G.drop (S (e+1)).H.length) x=some k->(x < (S (e+1)).H.length/\ah (S (e+1)).H x=some k)\/((S (e+1)).H.length<=x/\ah G x=some k/\k.ro=false):=by
  intro x k hk
  by_cases hx:x < (S (e+1)).H.length
  .rw [au hx] at hk;exact .inl ⟨hx,hk⟩
  .rw [MD (by omega)] at hk
   obtain ⟨i,_,_,_,_,_,_,bn⟩:=ME (by omega) hk
   exact .inr ⟨by omega,hk,bn⟩
 have Ae:∀ {x y:Nat} {k k':bx},x < (S (e+1)).H.length->ah (S (e+1)).H x=some k->(S (e+1)).H.length<=y->ah G y=some k'->k'.ro=false->(ι' x).aI≠(ι y).aI:=by
  intro x y k k' hx hk hy cV bn
  have hyl:=h.rel.lt cV
  cases hkr:k.ro with
  | false =>
   rcases hf.new x k hk hkr with h1 | ⟨b0,k0,h1,h2,h3⟩
   .omega
   .rw [<- h3]
    have:=Qt h1
    exact h.rel.inj b0 y k0 k' (hG h1) cV (by omega) (.inr bn)
  | true =>
   have h1:=hf.ro x k hk hkr
   have h2:=Qt h1
   rw [hf.io x h2]
   exact h.rel.inj x y k k' (hG h1) cV (by omega) (.inr bn)
 refine ⟨by omega,fun k hk rX=>?_,.inr hc,hn.sD h.down,?_,by rw [Zf,List.length_drop,<- h.len];omega,fun x hx=>au hx,fun k g1 g2 g3 g4 g5=>?_,fun x g1 g2 g3=>?_,⟨fun x k hk=>?_,fun x y k k' h1 h2 aU bn=>?_,fun x k hk bn=>(by
   rcases cK hk with ⟨g1,g2⟩ | ⟨g1,g2,_⟩
   .rw [if_pos g1];exact hR.h_ x k g2 bn
   .rw [if_neg (by omega)];exact h.rel.h_ x k g2 bn),hR.gw⟩,?_,by rw [Pm];exact h.size,
  h.iO hr hn (Ad hv) fm,by rw [Ir];exact h.defers⟩
 .constructor
  .rintro (hL | rfl)
   .have:=(h.dX k hk rX).1 hL;omega
   .omega
  .intro MF
   by_cases e':k=e
   .exact .inr e'
   .refine .inl ?_
    by_cases AD:k < m
    .exact (h.dX k hk rX).2 AD
    .exfalso
     rcases hr.pair (i:=k) (j:=e) (by omega) he with hb | ⟨hx,_⟩
     .have:=(h.dX k hk rX).1 (hn.A3 k hb);omega
     .exact hx ⟨hc,by omega⟩
 .rintro j (hL | rfl)
  .exact h.Pj j hL
  .exact he
 .rw [MD (iG k g1 g2)];exact h.n_ k (by omega) g2 (oa k g3 g4) g4 g5
 .rw [sQ g1]
  refine h.dead x (by have:=hr.bQ Bc (by omega:e<=ops.size);omega) g2 (fun k q1 q2 q3 q4 q5 hx=>?_)
  rcases Nat.lt_trichotomy k e with hl | rfl | hl
  .have:=hr.dB q2 q4 q5
   have:=hr.bQ (m:=k+1) (i:=e) (by omega) (by omega)
   omega
  .rw [hc] at q4;omega
  .exact g3 k (by omega) q2 (.inl q3) q4 q5 hx
 .rcases cK hk with ⟨h1,h2⟩ | ⟨h1,h2,bn⟩
  .exact (hR.aI x k h2).bw rfl (if_pos h1) fun i hi c hr=>Ad hr
  .refine (h.rel.aI x k h2).bw (hf.frame _ (h.rel.lt h2) ?_) (if_neg (by omega)) fun i hi c hr=>fm hr
   intro b k' hb HA
   have:=Qt hb
   exact h.rel.inj b x k' k (hG hb) h2 (by omega) (.inl HA)
 .rcases cK h1 with ⟨g1,g2⟩ | ⟨g1,g2,Wb⟩
  .rcases cK h2 with ⟨q1,q2⟩ | ⟨q1,q2,MG⟩
   .rw [if_pos g1,if_pos q1];exact hR.inj x y k k' g2 q2 aU bn
   .rw [if_pos g1,if_neg (by omega)];exact Ae g1 g2 q1 q2 MG
  .rcases cK h2 with ⟨q1,q2⟩ | ⟨q1,q2,MG⟩
   .rw [if_neg (by omega),if_pos q1];exact Ne.symm (Ae q1 q2 g1 g2 Wb)
   .rw [if_neg (by omega),if_neg (by omega)];exact h.rel.inj x y k k' g2 q2 aU bn
 .have h0:=hr.bQ (m:=0) (i:=e) (by omega) (by omega)
  refine ⟨by simp;omega,fun b hb=>by rw [if_pos (by omega),hf.io b (by omega)];exact h.fr.io b hb,hf.os.trans h.fr.os,hf.tape.trans h.fr.tape,hf.output.trans h.fr.output,Nat.le_trans h.fr.size hf.size,fun k hk eG=>?_,fun x k hk bn=>?_,fun x k hk bn=>?_⟩
  .rw [hf.frame k (Zm hk h.fr.size) ?_,h.fr.frame k hk eG]
   intro b k' hb bn heq
   rcases h.fr.new b k' (hG hb) bn with h1 | ⟨b0,k0,h1,h2,h3⟩
   .omega
   .exact eG b0 k0 h1 h2 (h3.trans heq)
  .rcases cK hk with ⟨g1,g2⟩ | ⟨g1,g2,_⟩
   .rw [if_pos g1]
    rcases hf.new x k g2 bn with h1 | ⟨b0,k0,h1,h2,h3⟩
    .exact .inl (Nat.le_trans h.fr.size h1)
    .rw [<- h3];exact h.fr.new b0 k0 (hG h1) h2
   .rw [if_neg (by omega)];exact h.fr.new x k g2 bn
  .rcases cK hk with ⟨g1,g2⟩ | ⟨g1,g2,HA⟩
   .exact h.fr.ro x k (hG (hf.ro x k g2 bn)) bn
   .rw [HA] at bn;simp at bn
theorem Qqg {H G:af} (h:∀ x,x < H.length->ah G x=ah H x) {p:Addr} {v:Value} (hl:gx H p=some v):gx G p=some v:=by
 unfold gx at hl ⊢
 obtain ⟨k,hk,hv⟩:=Q2 hl
 rw [h _ (Qt hk),hk];exact hv
theorem Wc {H G:af} (h:∀ x,x < H.length->ah G x=ah H x) {p:Addr} {n:Nat} {l:List Value} (hl:Qx H p n=some l):Qx G p n=some l:=by
 unfold Qx at hl ⊢
 obtain ⟨k,hk,hv⟩:=Q2 hl
 rw [h _ (Qt hk),hk];exact hv
theorem Qnj {H G:af} (h:∀ x,x < H.length->ah G x=ah H x) {p:Addr} {n:Nat} {l:List Value} (hl:fI H p n=some l):fI G p n=some l:=by
 cases n with
 | zero=>exact hl
 | succ m=>exact Wc h hl
theorem Qtk {P:Program} {op:Op} {env:Env} {H G:af} (h:∀ x,x < H.length->ah G x=ah H x) {v:Value} (hl:cT P op env H=some v):cT P op env G=some v:=by
 unfold cT at hl ⊢
 cases op with
 | load t x =>
  simp only at hl ⊢
  cases hg:AA P t x with
  | some q=>rw [hg] at hl;exact hl
  | none =>
  rw [hg] at hl
  simp only at hl ⊢
  replace hl:=Q2 hl;obtain ⟨u,hu,hl⟩:=hl
  rw [hu];simp only [Q1]
  replace hl:=Il hl;obtain ⟨p,rfl,hl⟩:=hl
  simp only [eW]
  replace hl:=Q2 hl;obtain ⟨i,hi,hl⟩:=hl
  rw [hi];simp only
  split at hl
  .replace hl:=Q2 hl;obtain ⟨l,h1,hl⟩:=hl
   rw [Wc h h1];exact hl
  .replace hl:=Q2 hl;obtain ⟨l,h1,hl⟩:=hl
   rw [Wc h h1];exact hl
  .exact Qqg h hl
  .simp at hl
 | convert s d x =>
  simp only at hl ⊢
  replace hl:=Q2 hl;obtain ⟨u,hu,hl⟩:=hl
  rw [hu];simp only [Q1]
  replace hl:=Q2 hl;obtain ⟨l,h1,hl⟩:=hl
  have:Qf G 1 u=some l:=by
   unfold Qf at h1 ⊢
   split at h1
   .exact h1
   .exact Qnj h h1
   .simp at h1
  rw [this];exact hl
 | _=>simp at hl
end
section
variable {X:Cx} {ops:Array Oper} {S:Nat->St} {ι₀:Io} {w₀:World} {L:Nat->Prop} {ι:Io} {G:af} {m:Nat} {a:Act} {w:World}
theorem Qwv {p:Nat->Bool} {N x:Nat} (hx:x∈(List.range N).filter p) (MH:∀ y∈(List.range N).filter p,y<=x):∃ r,((List.range N).filter p).reverse=x::r:=by
 have hs:((List.range N).filter p).Pairwise (· < ·):=List.Pairwise.filter p List.pairwise_lt_range
 generalize (List.range N).filter p=l at hx MH hs
 cases hl:l.reverse with
 | nil=>have:l=[]:=List.reverse_eq_nil_iff.1 hl;subst this;simp at hx
 | cons y r =>
  have e:l=r.reverse++[y]:=by rw [<- List.reverse_reverse l,hl];simp
  subst e
  have hy:=MH y (by simp)
  rcases List.mem_append.1 hx with h1 | h1
  .have:=(List.pairwise_append.1 hs).2.2 x h1 y (by simp)
   omega
  .simp at h1;subst h1;exact ⟨r,rfl⟩
theorem Inv.vg (h:Inv X ops S ι₀ w₀ L ι G m a w) {i:Nat} {o:Oper} (hn:Next ops L i o) (hc:cI X.P ops i≠3):m∈GV X.P ops i:=by
 unfold GV
 simp only [List.mem_cons,List.mem_map]
 have Cz:∀ e∈((List.range ops.size).filter fun e=>Nat.beq (cI X.P ops e) 3).filter fun e=>iA (Region.before ops) i e,e < m:=by
  intro e he
  simp only [List.mem_filter,List.mem_range] at he
  obtain ⟨⟨h1,h2⟩,h3⟩:=he
  exact (h.dX e h1 (Z7 h2)).1 (hn.A3 e h3)
 rcases h.last with hm | hm
 .subst hm
  left
  cases Af:(((List.range ops.size).filter fun e=>Nat.beq (cI X.P ops e) 3).filter fun e=>iA (Region.before ops) i e).reverse with
  | nil=>rfl
  | cons e r =>
   have:e∈((List.range ops.size).filter fun e=>Nat.beq (cI X.P ops e) 3).filter fun e=>iA (Region.before ops) i e:=by
    rw [<- List.mem_reverse,Af];simp
   have:=Cz e this
   omega
 .by_cases h0:m=0
  .subst h0
   left
   cases Af:(((List.range ops.size).filter fun e=>Nat.beq (cI X.P ops e) 3).filter fun e=>iA (Region.before ops) i e).reverse with
   | nil=>rfl
   | cons e r =>
    have:e∈((List.range ops.size).filter fun e=>Nat.beq (cI X.P ops e) 3).filter fun e=>iA (Region.before ops) i e:=by
     rw [<- List.mem_reverse,Af];simp
    have:=Cz e this
    omega
  .have Ew:m - 1 < ops.size:=by have:=h.Ji;omega
   have hL:L (m - 1):=(h.dX _ Ew hm).2 (by omega)
   cases hb:iA (Region.before ops) i (m - 1) with
   | true =>
    left
    rw [List.filter_filter] at Cz ⊢
    have jS:(m - 1)∈(List.range ops.size).filter fun e=>iA (Region.before ops) i e&&Nat.beq (cI X.P ops e) 3:=by
     simp only [List.mem_filter,List.mem_range,Z8]
     exact ⟨Ew,hb,by rw [hm];rfl⟩
    obtain ⟨r,hr⟩:=Qwv jS (fun y hy=>by have:=Cz y hy;omega)
    rw [hr]
    simp only;omega
   | false =>
    right
    refine ⟨m - 1,?_,by omega⟩
    simp only [List.mem_filter,List.mem_range]
    refine ⟨⟨Ew,by rw [hm];rfl⟩,?_⟩
    have rW:iA (Region.before ops) (m - 1) i=false:=by
     cases hq:iA (Region.before ops) (m - 1) i with
     | false=>rfl
     | true=>exact absurd (h.down _ _ hL hq) hn.not
    have aU:Nat.beq (m - 1) i=false:=by
     cases hq:Nat.beq (m - 1) i with
     | false=>rfl
     | true=>exact absurd (Z7 hq▸hL) hn.not
    rw [hb,rW,aU];rfl
theorem bF.const (hr:bF X ops S) {lo:Nat}:∀ {hi:Nat},lo<=hi->hi<=ops.size->(∀ k,lo<=k->k < hi->cI X.P ops k < 2)->(S hi).H=(S lo).H
 | 0,h1,_,_=>by rw [Nat.le_zero.1 h1]
 | hi+1,h1,h2,h3=>by
  by_cases e:lo=hi+1
  .subst e;rfl
  .have ih:=hr.const (hi:=hi) (by omega) (by omega) fun k h4 h5=>h3 k h4 (by omega)
   have hc:=h3 hi (by omega) (by omega)
   rcases hr.quiet (i:=hi) (by omega) (by omega) with q | ⟨q,_⟩
   .rw [q,ih]
   .omega
def Wd (X:Cx) (ops:Array Oper) (i:Nat) (o:Oper) (m:Nat):Prop :=
 ∃ t k ok,OQ o.op=some t/\m<=k/\k < i/\iA (Region.before ops) i k=true/\cI X.P ops k=2/\ops[k]? = some ok/\ok.guard=none/\ok.dst=some t/\∀ j,k < j->j < i->cI X.P ops j≠3/\nZ ops j≠some t
def HB (X:Cx) (ops:Array Oper) (S:Nat->St):Prop :=
 ∀ i o,ops[i]? = some o->cI X.P ops i=1->∀ m∈GV X.P ops i,cT X.P o.op (S i).env (S m).H=cT X.P o.op (S i).env (S i).H\/Wd X ops i o m
theorem Inv.step (h:Inv X ops S ι₀ w₀ L ι G m a w) (hr:bF X ops S) (eO:HB X ops S) {i:Nat} {o:Oper} (hn:Next ops L i o) {K:Act->World->Prop} {Q:Exit->Act->World->Prop}
  (hK:∀ ι' G' m' a' w',Inv X ops S ι₀ w₀ (jH L i) ι' G' m' a' w'->K a' w'):wpOp X.P ops Q i K a w:=by
 have hi:=oC hn.op
 have hs:=hr.step i o hn.op
 have cz:=Mv (P:=X.P) hn.op
 have MI:=h.loc hr hn
 have hw:Region.wanted o (yielded ops a.tmps)=(S i).t:=hs.guard ι _ a ⟨MI.size,fun s bY v hv=>MI.get s (by rw [Qdl];exact List.mem_append.2 (.inr bY)) v hv⟩
 unfold wpOp
 rw [hn.op]
 simp only
 cases ht:(S i).t with
 | false =>
  rw [if_neg (by rw [hw,ht];simp)]
  have hv:=(hs.no ht).1
  by_cases Eu:cI X.P ops i=3
  .exact hK _ _ _ _ _ (h.MA hr hn Eu ht (c:=undef) fun D=>by rw [hv];exact Ik _ _)
  .exact hK _ _ _ _ _ (h.still hr hn Eu (fun _=>ht) (c:=undef) (by rw [hv];exact Ik _ _))
 | true =>
  rw [if_pos (by rw [hw,ht])]
  left
  have hF:=hs.yes ht
  have hE:=h.Ex hr hn
  unfold jy at hF
  split at hF
  .rename_i hc
   rw [hc] at cz
   obtain ⟨c,h1,h2⟩:=hF.2.run ι _ a w hE
   exact oK h1 (hK _ _ _ _ _ (h.still hr hn (by omega) (fun e=>by omega) h2))
  .rename_i hc
   rw [hc] at cz
   obtain ⟨_,raw,hF⟩:=hF
   have h2:=hF.rd
   rw [Qdk] at h2
   have h3:cT X.P o.op (S i).env G=some raw:=by
    rcases eO i o hn.op cz m (h.vg hn (by omega)) with h1 | ⟨t,k,ok,zY,We,Wg,hb,Br,cZ,OX,Wh,eG⟩
    .rw [h2] at h1
     exact Qtk (G:=G) h.old h1
    .have hL:=hn.A3 k hb
     have hsk:=hr.step k ok cZ
     have htk:(S k).t=true:=by
      have VF:Jh ops ok=[]:=by unfold Jh;rw [OX]
      have QI:=hsk.guard (fun _=>⟨0,0,0⟩) (fun _=>True) a ⟨h.size,fun s bY=>by rw [VF] at bY;simp at bY⟩
      rw [<- QI];simp [Region.wanted,OX]
     have mc:=Mv (P:=X.P) cZ
     rw [Br] at mc
     have Wi:=hsk.yes htk
     unfold jy at Wi
     rw [<- mc] at Wi
     obtain ⟨vs,mk,hvk,hHk,hAk⟩:=Wi
     have hp:=h.n_ k We (by omega) hL Br htk
     obtain ⟨O3,_⟩:=hr.wrote (q:=t) Wg (by omega) (by simp [nZ,cZ,Wh]) (fun j h4 h5=>(eG j h4 h5).2)
     rw [hvk] at O3
     have hw2:cN (S i).env t=some (mk (S k).H.length):=by rw [hs.same];exact O3
     have hk:=hr.keep (m:=k+1) (i:=i) (by omega) (by omega) (fun j h4 h5=>(eG j (by omega) h5).1) (S k).H.length (by rw [hHk,Qy];omega)
     rw [Qti zY hw2 (hAk.aI _) (hp.trans hk.symm)];exact h2
   rw [<- Qdk] at h3
   obtain ⟨c,g1,g2⟩:=hF.run ι _ a w G h3 h.rel hE
   exact oK g1 (hK _ _ _ _ _ (h.still hr hn (by omega) (fun e=>by omega) g2))
  .rename_i hc
   rw [hc] at cz
   obtain ⟨vs,mk,hv,hH,hF⟩:=hF
   obtain ⟨cs,rest,e_,fz,w0,c,h1,h2,e1,e2,e3,e4,h3,h4⟩:=hF.run ι _ a w hE
   exact oK h3 (hK _ _ _ _ _ (h.make hr hn cz ht (e_:=e_) hH h1 hF.cells h2 e1 e2 e3 e4 (by rw [hv];exact h4 _)))
  .rename_i h0 h1 h2
   have hle:=Qvf X.P o.op
   have hc:cI X.P ops i=3:=by
    rw [cz]
    have:fX X.P o.op=0\/fX X.P o.op=1\/fX X.P o.op=2\/fX X.P o.op=3:=by omega
    rcases this with e | e | e | e
    .exact absurd e h0
    .exact absurd e h1
    .exact absurd e h2
    .exact e
   exact hF.run ι a w (h.MC hr hn hc) (h.Hz hr hn) K Q fun ι' w' c g1 g2 g3=>hK _ _ _ _ _ (h.eff hr hn hc g1 g2 g3)
theorem Inv.done (h:Inv X ops S ι₀ w₀ L ι G m a w) (hr:bF X ops S) (hall:∀ i,i < ops.size->L i) :
  Rel ι (aK (S ops.size).H.length) (S ops.size).H w/\bt ι (aK (S ops.size).H.length) X.nt (S ops.size).dW a/\Fr ι₀ (S 0).H w₀ ι (S ops.size).H w/\Ab X.ai (S 0).H (S ops.size).H/\a.defers=[]:=by
 obtain ⟨hE,fq,kJ⟩:=hr.abs ops.size (Zd _)
 have eG:∀ k,m<=k->k < ops.size->cI X.P ops k≠3:=by
  intro k h1 h2 h3
  have:=(h.dX k h2 h3).1 (hall k h2)
  omega
 have ah:∀ x,x < (S ops.size).H.length->ah G x=ah (S ops.size).H x:=by
  intro x hx
  by_cases Mz:x < (S m).H.length
  .rw [h.old x Mz,hr.keep h.Ji (Zd _) eG x Mz]
  .obtain ⟨i,g1,g2,g3,g4,g5,g6⟩:=hr.made h.Ji (Zd _) eG x (by omega) hx
   have:=h.n_ i g1 g2 (hall i g2) g3 g4
   rw [<- g5] at this
   rw [this,g6]
 have hG:∀ {b:Nat} {k:bx},Ev.ah (S ops.size).H b=some k->Ev.ah G b=some k:=fun hb=>by rw [ah _ (Qt hb)];exact hb
 refine ⟨⟨fun b k hb=>?_,fun b b' k k' h1 h2=>h.rel.inj b b' k k' (hG h1) (hG h2),fun b k hb hr=>h.rel.h_ b k (hG hb) hr,h.rel.gw⟩,⟨h.size,fun q v hv=>?_⟩,⟨by rw [<- h.len];exact h.fr.len,h.fr.io,h.fr.os,h.fr.tape,h.fr.output,h.fr.size,h.fr.frame,fun b k hb bn=>h.fr.new b k (hG hb) bn,fun b k hb bn=>h.fr.ro b k (hG hb) bn⟩,kJ,h.defers⟩
 .exact (h.rel.aI b k (hG hb)).bw rfl rfl fun i hi c hv=>hv.re (fq b (Qt hb) k hb _ (List.getElem_mem hi)) fun _ _ _=>rfl
 .exact (h.env q ops.size (Zd _) (fun j hj _=>⟨fun _=>hj,fun _=>hall j hj⟩) v hv).re (hE q v hv) fun _ _ _=>rfl
def qH (listed:Array Bool) (j:Nat):Prop:=listed[j]? = some true
theorem Qib:∀ (l:List Bool) (i:Nat),l[i]? = some false->(l.set i true).count false+1=l.count false
 | [],i,h=>by simp at h
 | b::l,0,h=>by simp at h;subst h;simp
 | b::l,i+1,h=>by
  have:=Qib l i (by simpa using h)
  simp only [List.set_cons_succ,List.count_cons]
  omega
theorem Qic {listed:Array Bool} {i:Nat} (h:i∈Region.ready .any ops listed):∃ o,ops[i]? = some o/\listed.getD i true=false/\∀ e∈o.after.toList,Region.binds .any e=true->listed.getD e.on false=true:=by
 unfold Region.ready at h
 simp only [List.mem_filter,List.mem_range,Z8,Bool.not_eq_true'] at h
 obtain ⟨h1,h2,h3⟩:=h
 obtain ⟨o,ho⟩:=Aa h1
 rw [ho] at h3
 simp only [Option.map_some,Option.getD_some] at h3
 refine ⟨o,ho,h2,fun e he hb=>?_⟩
 have:=(Array.all_eq_true'.1 h3) e (by simpa using he)
 rw [hb] at this
 simpa using this
theorem Qtl {listed:Array Bool} {i:Nat} {o:Oper} (ho:ops[i]? = some o) (h2:listed.getD i true=false) (h3:∀ e∈o.after.toList,Region.binds .any e=true->listed.getD e.on false=true):i∈Region.ready .any ops listed:=by
 unfold Region.ready
 simp only [List.mem_filter,List.mem_range,Z8,Bool.not_eq_true']
 refine ⟨oC ho,h2,?_⟩
 rw [ho]
 simp only [Option.map_some,Option.getD_some]
 refine Array.all_eq_true'.2 fun e he=>?_
 cases hb:Region.binds .any e with
 | false=>simp
 | true=>simpa using h3 e (by simpa using he) hb
theorem Qnk {listed:Array Bool} {j:Nat} (h:listed.getD j false=true):qH listed j:=by
 unfold qH
 rw [Array.getD_eq_getD_getElem?] at h
 cases hj:listed[j]? with
 | none=>rw [hj] at h;simp at h
 | some b=>rw [hj] at h;simp at h;rw [h]
theorem Qnl (hr:bF X ops S) {listed:Array Bool} (bf:listed.size=ops.size) (kD:Region.ready .any ops listed=[]):∀ i,i < ops.size->qH listed i:=by
 intro i
 induction i using Nat.strongRecOn with
 | _ i ih =>
  intro hi
  cases hl:listed[i]? with
  | none=>rw [Array.getElem?_eq_getElem (by omega)] at hl;simp at hl
  | some b =>
   cases b with
   | true=>exact hl
   | false =>
    obtain ⟨o,ho⟩:=Aa hi
    have:i∈Region.ready .any ops listed:=Qtl ho (by rw [Array.getD_eq_getD_getElem?,hl];rfl) (fun e he hb=>by
     have au:=hr.Mw ho e he hb
     have:=ih e.on au (by omega)
     unfold qH at this
     rw [Array.getD_eq_getD_getElem?,this];rfl)
    rw [kD] at this
    simp at this
theorem Qid (hr:bF X ops S) (eO:HB X ops S) {Q:Exit->Act->World->Prop}
  (hQ:∀ ι' a' w',Rel ι' (aK (S ops.size).H.length) (S ops.size).H w'->bt ι' (aK (S ops.size).H.length) X.nt (S ops.size).dW a'->Fr ι₀ (S 0).H w₀ ι' (S ops.size).H w'->Ab X.ai (S 0).H (S ops.size).H->a'.defers=[]->Q .normal a' w') :
  ∀ (fuel:Nat) (listed:Array Bool) (ι:Io) (G:af) (m:Nat) (a:Act) (w:World),listed.size=ops.size->listed.toList.count false=fuel->Inv X ops S ι₀ w₀ (qH listed) ι G m a w->wpAny X.P .any ops Q fuel listed a w:=by
 have fin:∀ (listed:Array Bool) (ι:Io) (G:af) (m:Nat) (a:Act) (w:World),listed.size=ops.size->Inv X ops S ι₀ w₀ (qH listed) ι G m a w->Region.ready .any ops listed=[]->Q .normal a w:=by
  intro listed ι G m a w bf h kD
  obtain ⟨h1,h2,h3,h4,h5⟩:=h.done hr (Qnl hr bf kD)
  exact hQ ι a w h1 h2 h3 h4 h5
 intro fuel
 induction fuel with
 | zero =>
  intro listed ι G m a w bf HC h
  have kD:Region.ready .any ops listed=[]:=by
   cases kD:Region.ready .any ops listed with
   | nil=>rfl
   | cons i r =>
    obtain ⟨o,ho,h2,_⟩:=Qic (ops:=ops) (listed:=listed) (i:=i) (by rw [kD];simp)
    have hi:=oC ho
    have:listed[i]? = some false:=by
     rw [Array.getD_eq_getD_getElem?,Array.getElem?_eq_getElem (by omega)] at h2
     rw [Array.getElem?_eq_getElem (by omega)]
     simpa using h2
    have jS:false∈listed.toList:=by rw [<- Array.getElem?_toList] at this;exact Zc this
    rw [List.count_eq_zero] at HC
    exact absurd jS HC
  exact ⟨kD,fin listed ι G m a w bf h kD⟩
 | succ fuel ih =>
  intro listed ι G m a w bf HC h
  refine ⟨fin listed ι G m a w bf h,fun i hi=>?_⟩
  obtain ⟨o,ho,h2,h3⟩:=Qic hi
  have aaf:=oC ho
  have hif:listed[i]? = some false:=by
   rw [Array.getD_eq_getD_getElem?,Array.getElem?_eq_getElem (by omega)] at h2
   rw [Array.getElem?_eq_getElem (by omega)]
   simpa using h2
  have hn:Next ops (qH listed) i o:=by
   refine ⟨ho,fun hL=>?_,fun k hb=>?_⟩
   .unfold qH at hL;rw [hif] at hL;simp at hL
   .obtain ⟨o',e,qE,he,LZ,hk⟩:=Qth hb
    rw [ho] at qE;simp at qE;subst qE
    have hL:=Qnk (h3 e he LZ)
    rcases hk with rfl | hk
    .exact hL
    .exact h.down _ _ hL hk
  have Cq:qH (listed.setIfInBounds i true)=jH (qH listed) i:=by
   funext j
   apply propext
   unfold qH jH
   rw [Array.getElem?_setIfInBounds]
   by_cases e:i=j
   .subst e;simp [show i < listed.size by omega]
   .rw [if_neg e]
    constructor
    .exact fun h=>.inl h
    .rintro (h | h)
     .exact h
     .exact absurd h.symm e
  refine h.step hr eO hn fun ι' G' m' a' w' h'=>ih _ ι' G' m' a' w' (by simpa using bf) ?_ (by rw [Cq];exact h')
  have:=Qib listed.toList i (by rw [Array.getElem?_toList];exact hif)
  rw [Array.toList_setIfInBounds]
  omega
theorem Qqh (hr:bF X ops S) (hR:Rel ι₀ (aK (S 0).H.length) (S 0).H w₀) (hE:bt ι₀ (aK (S 0).H.length) X.nt (S 0).dW a) (hd:a.defers=[]) :
  Inv X ops S ι₀ w₀ (qH (Array.replicate ops.size false)) ι₀ ((S 0).H++List.replicate ((S ops.size).H.length - (S 0).H.length) none) 0 a w₀:=by
 have hL:∀ j,¬ qH (Array.replicate ops.size false) j:=by
  intro j h
  unfold qH at h
  rw [Array.getElem?_replicate] at h
  split at h<;>simp at h
 have hle:=hr.bQ (m:=0) (i:=ops.size) (by omega) (Zd _)
 have jU:∀ x,aK (S 0).H.length x->gH X ops S 0 (qH (Array.replicate ops.size false)) x:=fun x hx=>.inl hx
 have ah:∀ {x:Nat} {k:bx},Ev.ah ((S 0).H++List.replicate ((S ops.size).H.length - (S 0).H.length) none) x=some k->Ev.ah (S 0).H x=some k:=by
  intro x k hk
  by_cases hx:x < (S 0).H.length
  .rw [E6 hx] at hk;exact hk
  .unfold Ev.ah at hk
   rw [Zq (by omega),List.getElem?_replicate] at hk
   split at hk
   .rename_i h1;split at h1<;>simp at h1
   .simp at hk
 refine ⟨by omega,fun e _ _=>⟨fun h=>absurd h (hL e),fun h=>by omega⟩,.inl rfl,fun j i h=>absurd h (hL j),fun j h=>absurd h (hL j),by simp;omega,fun x hx=>E6 hx,fun i _ _ h=>absurd h (hL i),fun x h1 h2 _=>?_,
  ⟨fun b k hk=>((hR.aI b k (ah hk)).bw rfl rfl fun _ _ _ hv=>hv.mono jU fun _ _=>rfl),fun b b' k k' h1 h2=>hR.inj b b' k k' (ah h1) (ah h2),fun b k hb hr=>hR.h_ b k (ah hb) hr,hR.gw⟩,⟨by simp,fun _ _=>rfl,rfl,rfl,rfl,Zd _,fun _ _ _=>rfl,fun b k hk bn=>.inr ⟨b,k,ah hk,bn,rfl⟩,fun b k hk _=>ah hk⟩,
  hE.size,fun q i hi cU v hv=>?_,hd⟩
 .rw [Zq h1,List.getElem?_replicate,if_pos (by omega)]
 .have eG:∀ j,0<=j->j < i->nZ ops j≠some q:=fun j _ hj om=>hL j ((cU j (by omega) om).2 hj)
  rw [hr.look (by omega) hi eG] at hv
  exact (hE.get q v hv).mono jU fun _ _=>rfl
end
section
variable {X:Cx}
theorem Wj (hX:oJ X.P X.call) {β:Type} {r:β} {ops:Array Oper} {K:List (Env×af)->Env->af->Option β}:∀ (l:List Oper) (env:Env) (H:af) (tr:List (Env×af)),zJ X ops l env H tr K=some r->dF (aK H.length) env->Ql H.length H ->
  ∃ Ey ak H',K Ey ak H'=some r/\dF (aK H'.length) ak/\Ql H'.length H'/\Ab X.ai H H'
 | [],env,H,tr,h,hE,hc=>⟨_,env,H,h,hE,hc,Ab.refl _ _⟩
 | o::l,env,H,tr,h,hE,hc=>by
  unfold zJ at h
  obtain ⟨t,fP,h,hw⟩:=Rf (nt:=X.nt) h
  have vt:=hw.lt _ hE
  cases t with
  | true =>
   simp only at h
   obtain ⟨v,H',h,hF⟩:=QZ hX h
   obtain ⟨kJ,Is⟩:=NX hF vt hc
   obtain ⟨b_,h,hp⟩:=Da h
   obtain ⟨Ey,ak,H2,g1,g2,g3,g4⟩:=Wj hX l b_ H' _ h (J7 (vt.mono (aK.mono kJ.len)) Is hp) (kJ.all hc)
   exact ⟨Ey,ak,H2,g1,g2,g3,kJ.trans g4⟩
  | false =>
   simp only at h
   obtain ⟨b_,h,hp⟩:=Da h
   exact Wj hX l b_ H _ h (J7 vt (JV _) hp) hc
theorem Qzi (hX:oJ X.P X.call):Pe X:=by
 intro β ops env H K r h hE hc
 unfold GY at h
 split at h
 .obtain ⟨Ey,ak,H',h1,h2,h3,h4⟩:=Wj hX _ _ _ _ h hE hc
  exact ⟨ak,H',(Ph h1).1,h2,h3,h4⟩
 .simp at h
theorem Qzj (hX:oJ X.P X.call) (hm:X.P.follows .mixedOrders=true):Pd X:=by
 intro β id ops env H K r h ι a w hR hE hd Q hQ
 unfold GY at h
 split at h
 .rename_i cZ
  obtain ⟨S,g1,g2,g3,g4,g5⟩:=Q9y hX _ _ _ _ h
  obtain ⟨g6,g7⟩:=Ph g5
  have hN:ops.toList.length=ops.size:=by simp
  rw [hN] at g3 g6 g7
  have hr:bF X ops S:=⟨fun k o hk=>g4 k o (by rw [Array.getElem?_toList];exact hk),cZ,by rw [g1,g2];exact hE.lt,by rw [g2];exact hR.closed⟩
  have MJ:∀ k,k<=ops.size->((((List.range (ops.size+1)).map fun k=>((S k).env,(S k).H)).reverse++[]).reverse)[k]? = some ((S k).env,(S k).H):=by
   intro k hk
   simp only [List.append_nil,List.reverse_reverse,List.getElem?_map]
   rw [List.getElem?_range (by omega)];rfl
  have eO:HB X ops S:=by
   intro i o ho hc m aE
   have hi:=oC ho
   have Cy:m<=ops.size:=by
    unfold GV at aE
    simp only [List.mem_cons,List.mem_map] at aE
    rcases aE with e | ⟨e,he,rfl⟩
    .split at e
     .rename_i e' r Af
      have:e'∈(((List.range ops.size).filter fun e=>Nat.beq (cI X.P ops e) 3).filter fun e=>iA (Region.before ops) i e):=by
       rw [<- List.mem_reverse,Af];simp
      simp only [List.mem_filter,List.mem_range] at this
      omega
     .omega
    .simp only [List.mem_filter,List.mem_range] at he
     omega
   rcases g7 i (by simp;exact hi) hc o ho m aE with hq | ⟨s,q,hs,hq,kD⟩
   .rcases Bool.or_eq_true_iff.1 hq with hq | hq
    rotate_left
    .right
     unfold I5 at hq
     split at hq
     .rename_i t ht
      simp only [List.any_eq_true,List.mem_range,Z8,List.all_eq_true,Bool.or_eq_true,Bool.not_eq_true'] at hq
      obtain ⟨k,Wg,⟨⟨⟨h1,h2⟩,h3⟩,h4⟩,h6⟩:=hq
      cases cZ:ops[k]? with
      | none=>rw [cZ] at h4;simp at h4
      | some ok =>
       rw [cZ] at h4
       simp only [Z8,Option.isNone_iff_eq_none] at h4
       obtain ⟨h4,h5⟩:=h4
       cases hd:ok.dst with
       | none=>rw [hd] at h5;simp at h5
       | some d =>
        rw [hd] at h5
        have h5:=Z7 h5
        refine ⟨t,k,ok,ht,Zi h1,Wg,h2,Z7 h3,cZ,h4,by rw [hd,h5],fun j Uq uJ=>?_⟩
        rcases h6 j uJ with h7 | ⟨h7,h8⟩
        .have:=Zi h7;omega
        .refine ⟨fun Pn=>?_,fun Pn=>?_⟩
         .rw [Pn] at h7;simp at h7
         .unfold nZ at Pn;rw [Pn] at h8;simp at h8
     .simp at hq
    left
    have Ag:∀ k,min m i<=k->k < max m i->cI X.P ops k < 2:=by
     intro k h1 h2
     by_cases hk:k < ops.size
     .unfold I4 at hq
      simp only [List.all_eq_true,List.mem_range] at hq
      have:=hq k hk
      have e1:Nat.ble (min m i) k=true:=Nat.ble_eq_true_of_le h1
      have e2:Nat.blt k (max m i)=true:=by simp [Nat.blt];omega
      rw [e1,e2] at this
      simp only [Bool.and_self,Zl,Bool.false_or] at this
      have h3:cI X.P ops k+1<=2:=by simpa [Nat.blt] using this
      omega
     .rw [Qtj hk];omega
    have hH:(S m).H=(S i).H:=by
     rcases Nat.le_total m i with hle | hle
     .exact (hr.const (lo:=m) (hi:=i) hle (by omega) (fun k h1 h2=>Ag k (by omega) (by omega))).symm
     .exact hr.const (lo:=i) (hi:=m) hle Cy (fun k h1 h2=>Ag k (by omega) (by omega))
    rw [hH]
   .rw [MJ i (by omega)] at hs
    rw [MJ m Cy] at hq
    simp at hs hq
    subst hs;subst hq
    exact .inl kD
  refine wp_region_any hm ?_
  have Rj:Rel ι (aK (S 0).H.length) (S 0).H { w with drawn:=w.drawn+1 }:=by rw [g2];exact hR.bz rfl
  have VZ:bt ι (aK (S 0).H.length) X.nt (S 0).dW a:=by rw [g1,g2];exact hE
  have HD:=Qqh hr Rj VZ hd
  refine Qid hr eO (Q:=Q) ?_ ops.size _ _ _ _ _ _ (by simp) (by simp) HD
  intro ι' a' w' h1 h2 h3 h4 h5
  refine hQ (S ops.size).dW ι' (S ops.size).H a' w' h1 h2 ?_ (by rw [<- g2];exact h4) h5 g6
  rw [g2] at h3
  exact ((Fr.refl ι H w).bz (w'':={ w with drawn:=w.drawn+1 }) rfl rfl rfl rfl).trans h3
 .simp at h
end
theorem Qqi {P:Program} {A:Ca} (hm:P.follows .mixedOrders=true) (hA:O9 P A) (d:Nat):oJ P (run P A d) :=
 Qvd hA (fun X hP hc=>⟨Qzj (by rw [hP];exact hc) (by rw [hP];exact hm),Qzi (by rw [hP];exact hc)⟩) d
end Go.Ev
