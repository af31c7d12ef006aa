/-
  The end of a call: its results, and the blocks that stay. And what stood behind it in 4 texts.
  Conditions: said at the theorems.
-/
import Derived.Test.YtcoimfbmgjhcjabGreatDoorCode
set_option linter.unusedVariables false
set_option linter.unusedSimpArgs false
namespace Go.Ev
section
variable {P:Program} {nt:Nat} {env:Env} {H:af}
theorem Wc {ι:Io} {D:Nat->Prop} {a:Act} {w:World} (hR:Rel ι D H w) (hE:bw ι D nt env a):∀ {l:List ResultVar} {vs:List Value},iO P env H l=some vs ->
  ∃ cs:List Value,aZ ι D vs cs/\(l.mapM fun (x:ResultVar)=>(match x with | .tmp t=>pure (a.tmps.getD t undef) | .cell b t=>do loadVar t (<- asAddr (a.tmps.getD b undef)):Sem Value)).run P w=.ok cs w
 | [],vs,h=>by simp [iO] at h;subst h;exact ⟨[],aZ.nil _ _,by simp⟩
 | .tmp t::l,vs,h=>by
  simp only [iO] at h
  replace h:=Q2 h;obtain ⟨v,hv,h⟩:=h
  replace h:=Q2 h;obtain ⟨r,hr,h⟩:=h
  simp at h;subst h
  obtain ⟨cs,h1,h2⟩:=Wc hR hE hr
  refine ⟨_,aZ.cons (hE.get t v hv) h1,?_⟩
  simp only [List.mapM_cons,Sem.run_bind,Sem.run_pure,Result.andThen_ok,h2]
 | .cell b t::l,vs,h=>by
  simp only [iO] at h
  replace h:=Q2 h;obtain ⟨v,hv,h⟩:=h
  split at h
  .rename_i p
   have hp:=(hE.get b _ hv).dG.1
   have Wd:(asAddr (a.tmps.getD b undef)).run P w=.ok (ι.addr p) w:=by rw [hp];rfl
   replace h:=Q2 h;obtain ⟨i,hi,h⟩:=h
   have key:∀ (u:Value) (c:Value) (r:List Value),iO P env H l=some r->vs=u::r->ay ι D u c->(loadVar t (ι.addr p)).run P w=.ok c w->∃ cs:List Value,aZ ι D vs cs /\
     ((ResultVar.cell b t::l).mapM fun (x:ResultVar)=>(match x with | .tmp t=>pure (a.tmps.getD t undef) | .cell b t=>do loadVar t (<- asAddr (a.tmps.getD b undef)):Sem Value)).run P w=.ok cs w:=by
    intro u c r hr e hu hl
    subst e
    obtain ⟨cs,h1,h2⟩:=Wc hR hE hr
    refine ⟨c::cs,aZ.cons hu h1,?_⟩
    simp only [List.mapM_cons,Sem.run_bind,Sem.run_pure,Result.andThen_ok,Wd,hl,h2]
   have nD:∀ (d:TypeDesc) (l' r:List Value),P.underlying t=some d->((∃ fs,d=.struct fs)\/∃ n e,d=.array n e)->Qv H p i.size=some l'->iO P env H l=some r->vs=.agg l'.toArray::r->∃ cs:List Value,aZ ι D vs cs /\
     ((ResultVar.cell b t::l).mapM fun (x:ResultVar)=>(match x with | .tmp t=>pure (a.tmps.getD t undef) | .cell b t=>do loadVar t (<- asAddr (a.tmps.getD b undef)):Sem Value)).run P w=.ok cs w:=by
    intro d l' r hu hd hl hr e
    obtain ⟨cs,h1,h2,h3,h4⟩:=hR.rK hl
    have aT:=run_loadCells_list (P:=P) w (ι.addr p) cs h3
    rw [h1] at aT
    have ha:(isAgg t).run P w=.ok true w:=by
     rcases hd with ⟨fs,rfl⟩ | ⟨n,e,rfl⟩<;>simp [isAgg,run_underlying hu]
    exact key _ (.agg cs.toArray) r hr e (aZ.bZ h2) (by simp only [loadVar,Sem.run_bind,ha,Result.andThen_ok,if_true,sizeOf,typeInfo,run_program,hi,Sem.run_pure,aT])
   split at h
   .rename_i fs hu
    replace h:=Q2 h;obtain ⟨l',hl,h⟩:=h
    replace h:=Q2 h;obtain ⟨r,hr,h⟩:=h
    simp at h
    exact nD _ l' r hu (.inl ⟨_,rfl⟩) hl hr h.symm
   .rename_i n e hu
    replace h:=Q2 h;obtain ⟨l',hl,h⟩:=h
    replace h:=Q2 h;obtain ⟨r,hr,h⟩:=h
    simp at h
    exact nD _ l' r hu (.inr ⟨_,_,rfl⟩) hl hr h.symm
   .rename_i d n1 n2 hu
    replace h:=Q2 h;obtain ⟨u,hl,h⟩:=h
    replace h:=Q2 h;obtain ⟨r,hr,h⟩:=h
    simp at h
    obtain ⟨c,h1,h2,h3⟩:=hR.load hl
    have ha:(isAgg t).run P w=.ok false w:=by
     simp only [isAgg,Sem.run_bind,run_underlying hu,Result.andThen_ok]
     cases d<;>first | rfl | exact absurd rfl (n1 _) | exact absurd rfl (n2 _ _)
    exact key u c r hr h.symm h2 (by simp only [loadVar,Sem.run_bind,ha,Result.andThen_ok,Bool.false_eq_true,if_false,run_load,h1])
   .simp at h
  .simp at h
theorem MH:∀ {l:List ResultVar} {vs:List Value},iO P env H l=some vs->dM (aJ H.length) env->Ql H.length H->gP (aJ H.length) vs
 | [],vs,h,_,_=>by simp [iO] at h;subst h;intro v hv;simp at hv
 | .tmp t::l,vs,h,hE,hc=>by
  simp only [iO] at h
  replace h:=Q2 h;obtain ⟨v,hv,h⟩:=h
  replace h:=Q2 h;obtain ⟨r,hr,h⟩:=h
  simp at h;subst h
  intro u hu
  rcases Z2 hu with rfl | hu
  .exact hE t _ hv
  .exact MH hr hE hc u hu
 | .cell b t::l,vs,h,hE,hc=>by
  simp only [iO] at h
  replace h:=Q2 h;obtain ⟨v,hv,h⟩:=h
  split at h
  .rename_i p
   replace h:=Q2 h;obtain ⟨i,hi,h⟩:=h
   split at h
   .replace h:=Q2 h;obtain ⟨l',hl,h⟩:=h
    replace h:=Q2 h;obtain ⟨r,hr,h⟩:=h
    simp at h;subst h
    intro u hu
    rcases Z2 hu with rfl | hu
    .exact bO.bZ (OC hl hc)
    .exact MH hr hE hc u hu
   .replace h:=Q2 h;obtain ⟨l',hl,h⟩:=h
    replace h:=Q2 h;obtain ⟨r,hr,h⟩:=h
    simp at h;subst h
    intro u hu
    rcases Z2 hu with rfl | hu
    .exact bO.bZ (OC hl hc)
    .exact MH hr hE hc u hu
   .replace h:=Q2 h;obtain ⟨l',hl,h⟩:=h
    replace h:=Q2 h;obtain ⟨r,hr,h⟩:=h
    simp at h;subst h
    intro u hu
    rcases Z2 hu with rfl | hu
    .exact YY hl hc
    .exact MH hr hE hc u hu
   .simp at h
  .simp at h
theorem We:∀ {l:List Nat} {b j:Nat},EO l b=some j->l[j]? = some b
 | [],b,j,h=>by simp [EO] at h
 | x::l,b,j,h=>by
  unfold EO at h
  split at h
  .rename_i e;simp at h;subst h;simp [e]
  .replace h:=Q2 h;obtain ⟨i,hi,h⟩:=h
   simp at h;subst h
   simpa using We hi
theorem Qdi:∀ {l:List Nat} {b:Nat},EO l b=none->b∉l
 | [],b,h=>by simp
 | x::l,b,h=>by
  unfold EO at h
  split at h
  .simp at h
  .rename_i e
   cases hp:EO l b with
   | some i=>rw [hp] at h;simp [Q1] at h
   | none =>
    have:=Qdi hp
    simp only [List.mem_cons,not_or]
    exact ⟨fun h=>e h.symm,this⟩
structure mQ (base:Nat) (H:af) (olds:List Nat):Prop where
 nodup:olds.Nodup
 aH:∀ b∈olds,base<=b/\∃ k,ah H b=some k/\k.cells.all (PR base)=true
def Io.mv (ι:Io) (base:Nat) (olds:List Nat):Io:=fun x=>if x < base then ι x else match olds[x - base]? with | some b=>ι b | none=>ι x
theorem Io.fW (ι:Io) {base x:Nat} (olds:List Nat) (h:x < base):ι.mv base olds x=ι x:=by simp [Io.mv,h]
theorem Io.gM (ι:Io) {base j b:Nat} {olds:List Nat} (h:olds[j]? = some b):ι.mv base olds (base+j)=ι b:=by
 simp only [Io.mv,show ¬ (base+j < base) by omega,if_false,show base+j - base=j by omega,h]
theorem Qdj {base:Nat} {olds aP:List Nat} {b x:Nat} (h:JP base H olds b=some (x,aP)) (ho:mQ base H olds) :
  mQ base H aP/\olds <+: aP/\∀ (ι:Io) (fin:List Nat),aP <+: fin->ι.mv base fin x=ι b/\x < base+fin.length:=by
 unfold JP at h
 split at h
 .rename_i hb
  simp at h;obtain ⟨rfl,rfl⟩:=h
  exact ⟨ho,List.prefix_refl _,fun ι fin _=>⟨Io.fW ι fin hb,by omega⟩⟩
 .rename_i hb
  split at h
  .rename_i j hj
   simp at h;obtain ⟨rfl,rfl⟩:=h
   refine ⟨ho,List.prefix_refl _,fun ι fin hp=>?_⟩
   have JT:=We hj
   obtain ⟨t,rfl⟩:=hp
   have au:j < olds.length:=(Z0 JT).1
   refine ⟨Io.gM ι (by rw [List.getElem?_append_left au];exact JT),by simp;omega⟩
  .rename_i hj
   replace h:=Q2 h;obtain ⟨k,hk,h⟩:=h
   split at h
   .rename_i hl
    simp at h;obtain ⟨rfl,rfl⟩:=h
    refine ⟨⟨?_,?_⟩,List.prefix_append _ _,fun ι fin hp=>?_⟩
    .rw [Zn]
     refine ⟨ho.nodup,by simp,?_⟩
     intro y hy z hz
     simp at hz;subst hz
     exact fun e=>Qdi hj (e▸hy)
    .intro y hy
     rcases List.mem_append.1 hy with hy | hy
     .exact ho.aH y hy
     .simp at hy;subst hy;exact ⟨by omega,k,hk,hl⟩
    .obtain ⟨t,rfl⟩:=hp
     exact ⟨Io.gM ι (by simp),by simp⟩
   .simp at h
theorem Qtl {v c:Value} (hl:Qt v=true) {ι:Io} {D:Nat->Prop} (hv:ay ι D v c) (ι':Io) (E:Nat->Prop):ay ι' E v c :=
 ay.mono (ι:=ι') (D:=fun _=>False) (hv.re (rJ hl _) fun _ _ h=>h.elim) (fun _ h=>h.elim) (fun _ h=>h.elim)
structure Wg (base:Nat) (H:af) (olds aP:List Nat) (v v':Value):Prop where
 ok:mQ base H aP
 pre:olds <+: aP
 rel:∀ (ι:Io) (D:Nat->Prop) (fin:List Nat) (c:Value),aP <+: fin->ay ι D v c->ay (ι.mv base fin) (aJ (base+fin.length)) v' c
theorem Qi4 {base:Nat} {olds aP:List Nat} {v v':Value} (h:CO base H olds v=some (v',aP)) (ho:mQ base H olds):Wg base H olds aP v v':=by
 unfold CO at h
 split at h
 .rename_i a
  replace h:=Q2 h;obtain ⟨⟨x,o'⟩,hb,h⟩:=h
  simp at h;obtain ⟨rfl,rfl⟩:=h
  obtain ⟨h1,h2,h3⟩:=Qdj hb ho
  refine ⟨h1,h2,fun ι D fin c hp hv=>?_⟩
  obtain ⟨e,hD⟩:=hv.dG
  obtain ⟨g1,g2⟩:=h3 ι fin hp
  have:=ay.ptr (ι:=ι.mv base fin) (D:=aJ (base+fin.length)) ⟨x,a.off,none⟩ g2
  rw [e]
  simp only [Io.addr] at this ⊢
  rw [g1] at this
  exact this
 .rename_i a n c
  replace h:=Q2 h;obtain ⟨⟨x,o'⟩,hb,h⟩:=h
  simp at h;obtain ⟨rfl,rfl⟩:=h
  obtain ⟨h1,h2,h3⟩:=Qdj hb ho
  refine ⟨h1,h2,fun ι D fin c hp hv=>?_⟩
  obtain ⟨g1,g2⟩:=h3 ι fin hp
  cases hv with
  | eP _ _ _ cap hD hl hc =>
   have:=ay.eP (ι:=ι.mv base fin) (D:=aJ (base+fin.length)) ⟨x,a.off,none⟩ n _ cap g2 hl (by simp only [g1];exact hc)
   simp only [Io.addr] at this ⊢
   rw [g1] at this
   exact this
  | bC _ b _ hD=>exact .bC _ _ _ g2
 .split at h
  .rename_i hl
   simp at h;obtain ⟨rfl,rfl⟩:=h
   exact ⟨ho,List.prefix_refl _,fun ι D fin c hp hv=>Qtl hl hv _ _⟩
  .simp at h
structure An (base:Nat) (H:af) (olds aP:List Nat) (vs cB:List Value):Prop where
 ok:mQ base H aP
 pre:olds <+: aP
 rel:∀ (ι:Io) (D:Nat->Prop) (fin:List Nat) (cs:List Value),aP <+: fin->aZ ι D vs cs->aZ (ι.mv base fin) (aJ (base+fin.length)) cB cs
theorem An.nil {base:Nat} {olds:List Nat} (ho:mQ base H olds):An base H olds olds [] [] :=
 ⟨ho,List.prefix_refl _,fun ι D fin cs _ h=>by
  have:cs=[]:=Z1 (by have:=h.1;simpa using this.symm)
  subst this;exact aZ.nil _ _⟩
theorem An.cons {base:Nat} {o1 o2 o3:List Nat} {v v':Value} {vs cB:List Value} (h:Wg base H o1 o2 v v') (g:An base H o2 o3 vs cB):An base H o1 o3 (v::vs) (v'::cB) :=
 ⟨g.ok,h.pre.trans g.pre,fun ι D fin cs hp hl=>by
  cases cs with
  | nil=>exact absurd hl.1 (by simp)
  | cons c cs=>exact aZ.cons (h.rel ι D fin c (g.pre.trans hp) hl.head) (g.rel ι D fin cs hp hl.tail)⟩
theorem Qbp {base:Nat}:∀ {vs cB:List Value} {olds aP:List Nat},Bx base H olds vs=some (cB,aP)->mQ base H olds->An base H olds aP vs cB
 | [],cB,olds,aP,h,ho=>by simp [Bx] at h;obtain ⟨rfl,rfl⟩:=h;exact An.nil ho
 | v::vs,cB,olds,aP,h,ho=>by
  simp only [Bx] at h
  replace h:=Q2 h;obtain ⟨⟨x,o1⟩,h1,h⟩:=h
  replace h:=Q2 h;obtain ⟨⟨y,o2⟩,h2,h⟩:=h
  simp at h;obtain ⟨rfl,rfl⟩:=h
  have g1:=Qi4 h1 ho
  exact An.cons g1 (Qbp h2 g1.ok)
theorem Qtm {base:Nat} {olds aP:List Nat} {v v':Value} (h:JQ base H olds v=some (v',aP)) (ho:mQ base H olds):Wg base H olds aP v v':=by
 unfold JQ at h
 split at h
 .rename_i cs
  replace h:=Q2 h;obtain ⟨⟨x,o1⟩,h1,h⟩:=h
  simp at h;obtain ⟨rfl,rfl⟩:=h
  have g:=Qbp h1 ho
  refine ⟨g.ok,g.pre,fun ι D fin c hp hv=>?_⟩
  obtain ⟨ys,rfl,hl⟩:=hv.eV
  exact aZ.bZ (xs:=x.toArray) (g.rel ι D fin _ hp hl)
 .exact Qi4 h ho
theorem Wh {base:Nat}:∀ {vs cB:List Value} {olds aP:List Nat},wG base H olds vs=some (cB,aP)->mQ base H olds->An base H olds aP vs cB
 | [],cB,olds,aP,h,ho=>by simp [wG] at h;obtain ⟨rfl,rfl⟩:=h;exact An.nil ho
 | v::vs,cB,olds,aP,h,ho=>by
  simp only [wG] at h
  replace h:=Q2 h;obtain ⟨⟨x,o1⟩,h1,h⟩:=h
  replace h:=Q2 h;obtain ⟨⟨y,o2⟩,h2,h⟩:=h
  simp at h;obtain ⟨rfl,rfl⟩:=h
  have g1:=Qtm h1 ho
  exact An.cons g1 (Wh h2 g1.ok)
theorem CR {base:Nat} {olds:List Nat} (hb:base<=H.length) {x:Nat} {k:bz} (h:ah (H.take base++olds.map (ah H)) x=some k) :
  (x < base/\ah H x=some k)\/∃ j b,x=base+j/\olds[j]? = some b/\ah H b=some k:=by
 have hlen:(H.take base).length=base:=by simp;omega
 by_cases hx:x < base
 .rw [FG (by omega),Qqa hx] at h;exact .inl ⟨hx,h⟩
 .right
  unfold ah at h
  rw [Zq (by omega),hlen,List.getElem?_map] at h
  cases ho:olds[x - base]? with
  | none=>rw [ho] at h;simp at h
  | some b =>
   rw [ho] at h
   simp only [Option.map_some] at h
   refine ⟨x - base,b,by omega,ho,?_⟩
   split at h
   .rename_i k' he
    simp at h he;subst h;exact he
   .simp at h
theorem Qnr {ι₀ ι:Io} {H₀:af} {w₀ w:World} {vs cB cs:List Value} {olds:List Nat} (hR:Rel ι (aJ H.length) H w) (hF:Fr ι₀ H₀ w₀ ι H w) (fc:Ql H₀.length H) (hm:wG H₀.length H [] vs=some (cB,olds)) (hl:aZ ι (aJ H.length) vs cs) :
  Rel (ι.mv H₀.length olds) (aJ (H.take H₀.length++olds.map (ah H)).length) (H.take H₀.length++olds.map (ah H)) w/\Fr ι₀ H₀ w₀ (ι.mv H₀.length olds) (H.take H₀.length++olds.map (ah H)) w /\
  aZ (ι.mv H₀.length olds) (aJ (H.take H₀.length++olds.map (ah H)).length) cB cs:=by
 have dh:=Wh hm ⟨List.nodup_nil,by simp⟩
 have hlen:(H.take H₀.length++olds.map (ah H)).length=H₀.length+olds.length:=by simp;have:=hF.len;omega
 have fy:∀ {b:Nat} {k:bz},ah H b=some k->(b < H₀.length\/b∈olds)->∀ v∈k.cells,bO (aJ H₀.length) v:=by
  intro b k hk hb v hv
  rcases hb with hb | hb
  .exact fc b hb k hk v hv
  .obtain ⟨_,k',de,hall⟩:=dh.ok.aH b hb
   rw [hk] at de;simp at de;subst de
   exact Qhy (Z3 hall v hv)
 have pe:∀ {v c:Value},bO (aJ H₀.length) v->ay ι (aJ H.length) v c->ay (ι.mv H₀.length olds) (aJ (H₀.length+olds.length)) v c:=by
  intro v c hv hr
  exact ay.mono (hr.re (ι':=ι) hv fun _ _ _=>rfl) (aJ.mono (by omega)) fun b hb=>Io.fW ι olds hb
 rw [hlen]
 refine ⟨⟨fun x k hx=>?_,fun x x' k k' hx mX aV bh=>?_,fun x k hx hr=>(by
  rcases CR hF.len hx with ⟨h1,h2⟩ | ⟨j,b,rfl,h1,h2⟩
  .rw [Io.fW ι olds h1];exact hR.iA x k h2 hr
  .rw [Io.gM ι h1];exact hR.iA b k h2 hr),hR.gw⟩,⟨by rw [hlen];omega,fun b hb=>by rw [Io.fW ι olds hb];exact hF.io b hb,hF.os,hF.tape,hF.output,hF.size,hF.frame,fun x k hx hr=>?_,fun x k hx hr=>?_⟩,dh.rel ι _ olds cs (List.prefix_refl _) hl⟩
 .rcases CR hF.len hx with ⟨h1,h2⟩ | ⟨j,b,rfl,h1,h2⟩
  .exact (hR.aH x k h2).bx rfl (Io.fW ι olds h1) fun i hi c hr=>pe (fy h2 (.inl h1) _ (List.getElem_mem hi)) hr
  .exact (hR.aH b k h2).bx rfl (Io.gM ι h1) fun i hi c hr=>pe (fy h2 (.inr (Zc h1)) _ (List.getElem_mem hi)) hr
 .rcases CR hF.len hx with ⟨h1,h2⟩ | ⟨j,b,rfl,h1,h2⟩
  .rcases CR hF.len mX with ⟨g1,g2⟩ | ⟨j',b',rfl,g1,g2⟩
   .rw [Io.fW ι olds h1,Io.fW ι olds g1];exact hR.inj x x' k k' h2 g2 aV bh
   .rw [Io.fW ι olds h1,Io.gM ι g1]
    have:=(dh.ok.aH b' (Zc g1)).1
    exact hR.inj x b' k k' h2 g2 (by omega) bh
  .rcases CR hF.len mX with ⟨g1,g2⟩ | ⟨j',b',rfl,g1,g2⟩
   .rw [Io.gM ι h1,Io.fW ι olds g1]
    have:=(dh.ok.aH b (Zc h1)).1
    exact hR.inj b x' k k' h2 g2 (by omega) bh
   .rw [Io.gM ι h1,Io.gM ι g1]
    refine hR.inj b b' k k' h2 g2 (fun e=>aV ?_) bh
    subst e
    have hj:=(Z0 h1)
    have JT:=(Z0 g1)
    obtain ⟨q1,q2⟩:=hj
    obtain ⟨q3,q4⟩:=JT
    have hnd:=List.pairwise_iff_getElem.1 dh.ok.nodup
    rcases Nat.lt_trichotomy j j' with hl | hl | hl
    .exact absurd (q2.trans q4.symm) (hnd j j' q1 q3 hl)
    .omega
    .exact absurd (q4.trans q2.symm) (hnd j' j q3 q1 hl)
 .rcases CR hF.len hx with ⟨h1,h2⟩ | ⟨j,b,rfl,h1,h2⟩
  .rw [Io.fW ι olds h1];exact hF.new x k h2 hr
  .rw [Io.gM ι h1];exact hF.new b k h2 hr
 .rcases CR hF.len hx with ⟨h1,h2⟩ | ⟨j,b,rfl,h1,h2⟩
  .exact hF.ro x k h2 hr
  .have:=Qq (hF.ro b k h2 hr)
   have:=(dh.ok.aH b (Zc h1)).1
   omega
theorem Qdk {base:Nat} {olds aP:List Nat} {b x:Nat} (h:JP base H olds b=some (x,aP)):olds <+: aP/\∀ fin:List Nat,aP <+: fin->x < base+fin.length:=by
 unfold JP at h
 split at h
 .simp at h;obtain ⟨rfl,rfl⟩:=h;exact ⟨List.prefix_refl _,fun fin _=>by omega⟩
 .split at h
  .rename_i j hj
   simp at h;obtain ⟨rfl,rfl⟩:=h
   refine ⟨List.prefix_refl _,fun fin hp=>?_⟩
   have au:=(Z0 (We hj)).1
   have:=hp.length_le
   omega
  .replace h:=Q2 h;obtain ⟨k,hk,h⟩:=h
   split at h
   .simp at h;obtain ⟨rfl,rfl⟩:=h
    refine ⟨List.prefix_append _ _,fun fin hp=>?_⟩
    have:=hp.length_le
    simp at this;omega
   .simp at h
theorem Qi5 {base:Nat} {olds aP:List Nat} {v v':Value} (h:CO base H olds v=some (v',aP)):olds <+: aP/\∀ fin:List Nat,aP <+: fin->bO (aJ (base+fin.length)) v':=by
 unfold CO at h
 split at h
 .replace h:=Q2 h;obtain ⟨⟨x,o'⟩,hb,h⟩:=h
  simp at h;obtain ⟨rfl,rfl⟩:=h
  obtain ⟨g1,g2⟩:=Qdk hb
  exact ⟨g1,fun fin hp=>.ptr _ (g2 fin hp)⟩
 .replace h:=Q2 h;obtain ⟨⟨x,o'⟩,hb,h⟩:=h
  simp at h;obtain ⟨rfl,rfl⟩:=h
  obtain ⟨g1,g2⟩:=Qdk hb
  exact ⟨g1,fun fin hp=>.sl _ _ _ (g2 fin hp)⟩
 .split at h
  .rename_i hl
   simp at h;obtain ⟨rfl,rfl⟩:=h
   exact ⟨List.prefix_refl _,fun fin _=>rJ hl _⟩
  .simp at h
theorem Qbr {base:Nat}:∀ {vs cB:List Value} {olds aP:List Nat},Bx base H olds vs=some (cB,aP)->olds <+: aP/\∀ fin:List Nat,aP <+: fin->gP (aJ (base+fin.length)) cB
 | [],cB,olds,aP,h=>by simp [Bx] at h;obtain ⟨rfl,rfl⟩:=h;exact ⟨List.prefix_refl _,fun _ _ v hv=>by simp at hv⟩
 | v::vs,cB,olds,aP,h=>by
  simp only [Bx] at h
  replace h:=Q2 h;obtain ⟨⟨x,o1⟩,h1,h⟩:=h
  replace h:=Q2 h;obtain ⟨⟨y,o2⟩,h2,h⟩:=h
  simp at h;obtain ⟨rfl,rfl⟩:=h
  obtain ⟨g1,g2⟩:=Qi5 h1
  obtain ⟨g3,g4⟩:=Qbr h2
  refine ⟨g1.trans g3,fun fin hp u hu=>?_⟩
  rcases Z2 hu with rfl | hu
  .exact g2 fin (g3.trans hp)
  .exact g4 fin hp u hu
theorem Qi6 {base:Nat}:∀ {vs cB:List Value} {olds aP:List Nat},wG base H olds vs=some (cB,aP)->olds <+: aP/\∀ fin:List Nat,aP <+: fin->gP (aJ (base+fin.length)) cB
 | [],cB,olds,aP,h=>by simp [wG] at h;obtain ⟨rfl,rfl⟩:=h;exact ⟨List.prefix_refl _,fun _ _ v hv=>by simp at hv⟩
 | v::vs,cB,olds,aP,h=>by
  simp only [wG] at h
  replace h:=Q2 h;obtain ⟨⟨x,o1⟩,h1,h⟩:=h
  replace h:=Q2 h;obtain ⟨⟨y,o2⟩,h2,h⟩:=h
  simp at h;obtain ⟨rfl,rfl⟩:=h
  have g12:olds <+: o1/\∀ fin:List Nat,o1 <+: fin->bO (aJ (base+fin.length)) x:=by
   unfold JQ at h1
   split at h1
   .replace h1:=Q2 h1;obtain ⟨⟨z,o3⟩,h3,h1⟩:=h1
    simp at h1;obtain ⟨rfl,rfl⟩:=h1
    obtain ⟨k1,k2⟩:=Qbr h3
    exact ⟨k1,fun fin hp=>bO.bZ (k2 fin hp)⟩
   .exact Qi5 h1
  obtain ⟨g3,g4⟩:=Qi6 h2
  refine ⟨g12.1.trans g3,fun fin hp u hu=>?_⟩
  rcases Z2 hu with rfl | hu
  .exact g12.2 fin (g3.trans hp)
  .exact g4 fin hp u hu
theorem Qqj {ai:Nat} {H₀:af} {vs cB:List Value} {olds:List Nat} (ha:Ab H₀.length H₀ H) (hc₀:Ql H₀.length H₀) (hm:wG H₀.length H [] vs=some (cB,olds)) :
  Ab ai H₀ (H.take H₀.length++olds.map (ah H))/\gP (aJ (H.take H₀.length++olds.map (ah H)).length) cB:=by
 have dh:=Wh hm ⟨List.nodup_nil,by simp⟩
 have hlen:(H.take H₀.length++olds.map (ah H)).length=H₀.length+olds.length:=by simp;have:=ha.len;omega
 have fc:=ha.closed H₀.length (Zd _) (Zd _) hc₀
 refine ⟨⟨by rw [hlen];omega,fun _=>?_,fun m _ aE hcm=>?_⟩,?_⟩
 .rw [hlen]
  intro x _ k hx v hv
  rcases CR ha.len hx with ⟨h1,h2⟩ | ⟨j,b,rfl,h1,h2⟩
  .exact (fc x h1 k h2 v hv).mono (aJ.mono (by omega))
  .obtain ⟨_,k',de,hall⟩:=dh.ok.aH b (Zc h1)
   rw [h2] at de;simp at de;subst de
   exact (Qhy (Z3 hall v hv)).mono (aJ.mono (by omega))
 .intro x mX k hx v hv
  rcases CR ha.len hx with ⟨h1,h2⟩ | ⟨j,b,rfl,h1,h2⟩
  .exact ha.closed m aE aE hcm x mX k h2 v hv
  .omega
 .rw [hlen];exact (Qi6 hm).2 olds (List.prefix_refl _)
end
theorem Qi7 {P:Program} {c:Code} {Q:Exit->Act->World->Prop} {a:Act} {w:World} (I:Nat->Act->World->Prop) {n:Nat} (h₀:I n a w)
  (round:∀ n a w,I n a w->c.wp P (Exit.then (fun a' w'=>∃ n',n' < n/\I n' a' w') Q) a w):(Code.loop c).wp P Q a w:=by
 intro b k cs
 have key:∀ n a w,I n a w->∃ e a' w',Q e a' w'/\Arrives P (lone (b.at a (.code c::.inLoop c::k)) cs w) b k cs e a' w':=by
  intro n
  induction n using Nat.strongRecOn with
  | _ n ih =>
   intro a w hI
   obtain ⟨e,a₁,w₁,hq,j5⟩:=round n a w hI b (.inLoop c::k) cs
   cases e with
   | normal =>
    obtain ⟨n',au,hI₁⟩:=hq
    obtain ⟨e₂,a₂,w₂,hq₂,MI⟩:=ih n' au a₁ w₁ hI₁
    exact ⟨e₂,a₂,w₂,hq₂,.of_steps (Steps.trans j5 (.one step_inLoop)) MI⟩
   | exit id=>exact ⟨_,a₁,w₁,hq,.pass (x:=.inLoop c) rfl (fun _ _=>.inl (by simp)) j5⟩
   | goto l=>exact ⟨_,a₁,w₁,hq,.pass (x:=.inLoop c) rfl (fun _ _=>.inl (by simp)) j5⟩
   | ret=>exact ⟨_,a₁,w₁,hq,.pass (x:=.inLoop c) rfl (fun _ _=>.inl (by simp)) j5⟩
   | panic ch=>exact ⟨_,a₁,w₁,hq,.pass (x:=.inLoop c) rfl (fun _ _=>.inl (by simp)) j5⟩
   | outgrown=>exact ⟨_,a₁,w₁,hq,.pass (x:=.inLoop c) rfl (fun _ _=>.inl (by simp)) j5⟩
 obtain ⟨e,a',w',hq,j5⟩:=key n a w h₀
 exact ⟨e,a',w',hq,.of_steps (.one step_loop) j5⟩
def PZ (X:Cx):Prop:=∀ (β:Type) (id:Nat) (ops:Array Oper) (env:Env) (H:af) (K:Env->af->Option β) (r:β),HK X ops env H K=some r ->
 ∀ (ι:Io) (a:Act) (w:World),Rel ι (aJ H.length) H w->bw ι (aJ H.length) X.nt env a->a.defers=[]->∀ Q:Exit->Act->World->Prop,
  (∀ ak ι' H' a' w',Rel ι' (aJ H'.length) H' w'->bw ι' (aJ H'.length) X.nt ak a'->Fr ι H w ι' H' w'->Ab X.ai H H'->a'.defers=[]->K ak H'=some r->Q .normal a' w')->(Code.region id ops true).wp X.P Q a w
def P0 (X:Cx):Prop:=∀ (β:Type) (ops:Array Oper) (env:Env) (H:af) (K:Env->af->Option β) (r:β),HK X ops env H K=some r->dM (aJ H.length) env->Ql H.length H ->
  ∃ ak H',K ak H'=some r/\dM (aJ H'.length) ak/\Ql H'.length H'/\Ab X.ai H H'
section
variable {X:Cx} {β:Type} {r:β}
def CS:List (Nat×Value)->List Value->Env
 | (s,_)::ks,v::vs=>(s,v)::CS ks vs
 | _,_=>[]
theorem Wi:∀ {ks:List (Nat×Value)} {vs:List Value} {K:Env->Option β},Bt ks vs K=some r->K (CS ks vs)=some r
 | [],vs,K,h=>by
  unfold Bt JK at h
  split at h
  .exact h
  .simp at h
 | (s,t)::ks,vs,K,h=>by
  unfold Bt Aj at h
  split at h
  .exact Wi (K:=fun env=>K ((s,_)::env)) (KS h)
  .simp at h
theorem Wj:∀ {env:Env} {ks:List (Nat×Value)} {vs:List Value},vn env ks=some vs->∀ s v,cS (CS ks vs) s=some v->cS env s=some v
 | env,[],vs,h,s,v,hs=>by simp [vn] at h;subst h;simp [CS,cS] at hs
 | env,(s',t)::ks,vs,h,s,v,hs=>by
  simp only [vn] at h
  replace h:=Q2 h;obtain ⟨u,hu,h⟩:=h
  replace h:=Q2 h;obtain ⟨l,hl,h⟩:=h
  simp at h;subst h
  simp only [CS] at hs
  rw [vp] at hs
  by_cases e:s'=s
  .subst e;simp at hs;subst hs;exact hu
  .simp [e] at hs;exact Wj hl s v hs
theorem bw.zip {ι:Io} {D:Nat->Prop} {nt:Nat} {env:Env} {a:Act} (h:bw ι D nt env a) {ks:List (Nat×Value)} {vs:List Value} (hk:vn env ks=some vs):bw ι D nt (CS ks vs) a :=
 ⟨h.size,fun s v hs=>h.get s v (Wj hk s v hs)⟩
theorem dM.zip {D:Nat->Prop} {env:Env} (h:dM D env) {ks:List (Nat×Value)} {vs:List Value} (hk:vn env ks=some vs):dM D (CS ks vs) :=
 fun s v hs=>h s v (Wj hk s v hs)
theorem Qmc {ι:Io} {D:Nat->Prop} {nt:Nat} {env:Env} {a:Act} {c:Operand} {b:Bool} (h:bw ι D nt env a) (hc:ev env c=some (.bool b)):bw ι D nt (EN c b env) a:=by
 unfold EN
 split
 .exact h.lit hc
 .exact h
theorem Qqk {D:Nat->Prop} {env:Env} {c:Operand} {b:Bool} (h:dM D env):dM D (EN c b env):=by
 unfold EN
 split
 .exact h.put (.bool _)
 .exact h
theorem HP (hX:o5 X.P X.call) (hD:PZ X):∀ (c:Code) (n:Nat) (env:Env) (H:af) (K:eK->Env->af->Option β),ff X c n env H K=some r ->
  ∀ (ι:Io) (a:Act) (w:World),Rel ι (aJ H.length) H w->bw ι (aJ H.length) X.nt env a->a.defers=[]->c.wp X.P (K0 X ι H w K r) a w
 | .skip,n,env,H,K,h,ι,a,w,hR,hE,hd=>wp_skip ⟨.normal,env,ι,H,rfl,hR,hE,Fr.refl _ _ _,Ab.refl _ _,hd,h⟩
 | .label l,n,env,H,K,h,ι,a,w,hR,hE,hd=>wp_label ⟨.normal,env,ι,H,rfl,hR,hE,Fr.refl _ _ _,Ab.refl _ _,hd,h⟩
 | .region id ops d,n,env,H,K,h,ι,a,w,hR,hE,hd=>by
  unfold ff at h
  cases d with
  | false =>
   simp only at h
   refine wp_region ?_
   have:=R_ hX (Q:=K0 X ι H w K r) ops.toList 0 env H (fun k=>by simp) (by simp) h ι a w hR hE hd (fun ak ι' H' a' w' h1 h2 h3 h4 h5 h6=>⟨.normal,ak,ι',H',rfl,h1,h2,h3,h4,h5,h6⟩)
   rw [List.range_eq_range']
   simpa using this
  | true=>exact hD β id ops env H (K .normal) r h ι a w hR hE hd _ fun ak ι' H' a' w' h1 h2 h3 h4 h5 h6=>⟨.normal,ak,ι',H',rfl,h1,h2,h3,h4,h5,h6⟩
 | .seq x y,n,env,H,K,h,ι,a,w,hR,hE,hd=>by
  unfold ff at h
  refine wp_seq (wp_mono (HP hX hD x n env H _ h ι a w hR hE hd) ?_)
  rintro ex a' w' ⟨vR,ak,ι',H',rfl,h1,h2,h3,h4,h5,h6⟩
  cases vR with
  | normal =>
   simp only at h6
   exact wp_mono (HP hX hD y _ ak H' K h6 ι' a' w' h1 h2 h5) fun e a2 w2 hg=>hg.later h3 h4
  | exit id=>exact ⟨.exit id,ak,ι',H',rfl,h1,h2,h3,h4,h5,h6⟩
  | ret=>exact ⟨.ret,ak,ι',H',rfl,h1,h2,h3,h4,h5,h6⟩
 | .cond c x y,n,env,H,K,h,ι,a,w,hR,hE,hd=>by
  unfold ff at h
  replace h:=Q2 h;obtain ⟨v,hv,h⟩:=h
  replace h:=RY h;obtain ⟨t,rfl,h⟩:=h
  have hc:=(Qe hE hv).cO
  rcases jg h with ⟨rfl,h⟩ | ⟨rfl,h⟩
  .exact wp_cond_true hc (HP hX hD x _ _ H K h ι a w hR (Qmc hE hv) hd)
  .exact wp_cond_false hc (HP hX hD y _ _ H K h ι a w hR (Qmc hE hv) hd)
 | .block id c,n,env,H,K,h,ι,a,w,hR,hE,hd=>by
  unfold ff at h
  refine wp_block (wp_mono (HP hX hD c n env H _ h ι a w hR hE hd) ?_)
  rintro ex a' w' ⟨vR,ak,ι',H',rfl,h1,h2,h3,h4,h5,h6⟩
  cases vR with
  | normal=>exact ⟨.normal,ak,ι',H',rfl,h1,h2,h3,h4,h5,h6⟩
  | exit Am =>
   simp only at h6
   simp only [KZ,Exit.inBlock]
   split at h6
   .rename_i e;rw [if_pos (Z7 e)];exact ⟨.normal,ak,ι',H',rfl,h1,h2,h3,h4,h5,h6⟩
   .rename_i e;rw [if_neg (Nat.ne_of_beq_eq_false e)];exact ⟨.exit Am,ak,ι',H',rfl,h1,h2,h3,h4,h5,h6⟩
  | ret=>exact ⟨.ret,ak,ι',H',rfl,h1,h2,h3,h4,h5,h6⟩
 | .loop c,n,env,H,K,h,ι,a,w,hR,hE,hd=>by
  unfold ff at h
  replace h:=Q2 h;obtain ⟨vs,hv,h⟩:=h
  generalize hF:(fun (again:List Value->af->Option β) vs H=>Bt (X.cT n) vs fun env=>ff X c (n+1) env H fun ex ak H'=>match ex with
   | .normal=>Q1 (vn ak (X.cT n)) fun cB=>again cB H'
   | .exit id=>K (.exit id) ak H'
   | .ret=>K .ret ak H')=F at h
  refine Qi7 (fun k a' w'=>∃ cB ι' H',Rel ι' (aJ H'.length) H' w'/\bw ι' (aJ H'.length) X.nt (CS (X.cT n) cB) a'/\Fr ι H w ι' H' w'/\Ab X.ai H H'/\a'.defers=[]/\CN F k cB H'=some r) (n:=X.fuel) ?_ ?_
  .exact ⟨vs,ι,H,hR,hE.zip hv,Fr.refl _ _ _,Ab.refl _ _,hd,h⟩
  .rintro k a' w' ⟨cB,ι',H',g1,g2,g3,g4,g5,g6⟩
   cases k with
   | zero=>simp [CN] at g6
   | succ k =>
    simp only [CN] at g6
    rw [<- hF] at g6
    have g7:=Wi g6
    rw [hF] at g7
    refine wp_mono (HP hX hD c (n+1) _ H' _ g7 ι' a' w' g1 g2 g5) ?_
    rintro ex a2 w2 ⟨vR,cc,ι2,H2,rfl,k1,k2,k3,k4,k5,k6⟩
    cases vR with
    | normal =>
     simp only at k6
     replace k6:=Q2 k6;obtain ⟨Bz,Jy,k6⟩:=k6
     exact ⟨k,by omega,Bz,ι2,H2,k1,k2.zip Jy,g3.trans k3,g4.trans k4,k5,k6⟩
    | exit id=>exact ⟨.exit id,cc,ι2,H2,rfl,k1,k2,g3.trans k3,g4.trans k4,k5,k6⟩
    | ret=>exact ⟨.ret,cc,ι2,H2,rfl,k1,k2,g3.trans k3,g4.trans k4,k5,k6⟩
 | .exit id,n,env,H,K,h,ι,a,w,hR,hE,hd=>wp_exit ⟨.exit id,env,ι,H,rfl,hR,hE,Fr.refl _ _ _,Ab.refl _ _,hd,h⟩
 | .ret,n,env,H,K,h,ι,a,w,hR,hE,hd=>wp_ret ⟨.ret,env,ι,H,rfl,hR,hE,Fr.refl _ _ _,Ab.refl _ _,hd,h⟩
 | .rangeFunc _ _ _ _,n,env,H,K,h,ι,a,w,hR,hE,hd=>by simp [ff] at h
 | .scope _,n,env,H,K,h,ι,a,w,hR,hE,hd=>by simp [ff] at h
 | .goto _,n,env,H,K,h,ι,a,w,hR,hE,hd=>by simp [ff] at h
 | .refuse _,n,env,H,K,h,ι,a,w,hR,hE,hd=>by simp [ff] at h
theorem HQ (hX:o5 X.P X.call) (hD:P0 X):∀ (c:Code) (n:Nat) (env:Env) (H:af) (K:eK->Env->af->Option β),ff X c n env H K=some r->dM (aJ H.length) env->Ql H.length H ->
  ∃ ex ak H',K ex ak H'=some r/\dM (aJ H'.length) ak/\Ql H'.length H'/\Ab X.ai H H'
 | .skip,n,env,H,K,h,hE,hc=>⟨.normal,env,H,h,hE,hc,Ab.refl _ _⟩
 | .label l,n,env,H,K,h,hE,hc=>⟨.normal,env,H,h,hE,hc,Ab.refl _ _⟩
 | .region id ops d,n,env,H,K,h,hE,hc=>by
  unfold ff at h
  cases d with
  | false=>obtain ⟨e,H',h1,h2⟩:=Sb hX ops.toList env H h hE hc;exact ⟨.normal,e,H',h1,h2⟩
  | true=>obtain ⟨e,H',h1,h2⟩:=hD β ops env H _ r h hE hc;exact ⟨.normal,e,H',h1,h2⟩
 | .seq x y,n,env,H,K,h,hE,hc=>by
  unfold ff at h
  obtain ⟨ex,e,H',h1,h2,h3,h4⟩:=HQ hX hD x n env H _ h hE hc
  cases ex with
  | normal =>
   obtain ⟨ex,e',H2,g1,g2,g3,g4⟩:=HQ hX hD y _ e H' K h1 h2 h3
   exact ⟨ex,e',H2,g1,g2,g3,h4.trans g4⟩
  | exit id=>exact ⟨_,e,H',h1,h2,h3,h4⟩
  | ret=>exact ⟨_,e,H',h1,h2,h3,h4⟩
 | .cond c x y,n,env,H,K,h,hE,hc=>by
  unfold ff at h
  replace h:=Q2 h;obtain ⟨v,hv,h⟩:=h
  replace h:=RY h;obtain ⟨t,rfl,h⟩:=h
  rcases jg h with ⟨rfl,h⟩ | ⟨rfl,h⟩
  .exact HQ hX hD x _ _ H K h (Qqk hE) hc
  .exact HQ hX hD y _ _ H K h (Qqk hE) hc
 | .block id c,n,env,H,K,h,hE,hc=>by
  unfold ff at h
  obtain ⟨ex,e,H',h1,h2,h3,h4⟩:=HQ hX hD c n env H _ h hE hc
  cases ex with
  | normal=>exact ⟨_,e,H',h1,h2,h3,h4⟩
  | exit Am =>
   simp only at h1
   split at h1
   .exact ⟨_,e,H',h1,h2,h3,h4⟩
   .exact ⟨_,e,H',h1,h2,h3,h4⟩
  | ret=>exact ⟨_,e,H',h1,h2,h3,h4⟩
 | .loop c,n,env,H,K,h,hE,hc=>by
  unfold ff at h
  replace h:=Q2 h;obtain ⟨vs,hv,h⟩:=h
  generalize hF:(fun (again:List Value->af->Option β) vs H=>Bt (X.cT n) vs fun env=>ff X c (n+1) env H fun ex ak H'=>match ex with
   | .normal=>Q1 (vn ak (X.cT n)) fun cB=>again cB H'
   | .exit id=>K (.exit id) ak H'
   | .ret=>K .ret ak H')=F at h
  have Wk:dM (aJ H.length) (CS (X.cT n) vs):=hE.zip hv
  clear hv hE
  generalize X.fuel=k at h
  induction k generalizing vs H with
  | zero=>simp [CN] at h
  | succ k ih =>
   simp only [CN] at h
   rw [<- hF] at h
   have g7:=Wi h
   rw [hF] at g7
   obtain ⟨ex,e,H',h1,h2,h3,h4⟩:=HQ hX hD c (n+1) _ H _ g7 Wk hc
   cases ex with
   | normal =>
    simp only at h1
    replace h1:=Q2 h1;obtain ⟨Bz,Jy,h1⟩:=h1
    obtain ⟨ex,e',H2,g1,g2,g3,g4⟩:=ih H' h3 Bz (h2.zip Jy) h1
    exact ⟨ex,e',H2,g1,g2,g3,h4.trans g4⟩
   | exit id=>exact ⟨_,e,H',h1,h2,h3,h4⟩
   | ret=>exact ⟨_,e,H',h1,h2,h3,h4⟩
 | .exit id,n,env,H,K,h,hE,hc=>⟨.exit id,env,H,h,hE,hc,Ab.refl _ _⟩
 | .ret,n,env,H,K,h,hE,hc=>⟨.ret,env,H,h,hE,hc,Ab.refl _ _⟩
 | .rangeFunc _ _ _ _,n,env,H,K,h,hE,hc=>by simp [ff] at h
 | .scope _,n,env,H,K,h,hE,hc=>by simp [ff] at h
 | .goto _,n,env,H,K,h,hE,hc=>by simp [ff] at h
 | .refuse _,n,env,H,K,h,hE,hc=>by simp [ff] at h
end
theorem Wl:∀ (l:List Value) (i s:Nat) (v:Value),cS (qW i l) s=some v->i<=s/\l[s - i]? = some v
 | [],i,s,v,h=>by simp [qW,cS] at h
 | x::l,i,s,v,h=>by
  simp only [qW] at h
  rw [vp] at h
  by_cases e:i=s
  .subst e;simp at h;subst h;simp
  .simp [e] at h
   obtain ⟨h1,h2⟩:=Wl l (i+1) s v h
   refine ⟨by omega,?_⟩
   rw [show s - i=(s - (i+1))+1 by omega]
   simpa using h2
theorem Qi8 {ι:Io} {D:Nat->Prop} {vs cs:List Value} (h:aZ ι D vs cs):ay ι D (iP vs) (iP cs):=by
 unfold iP
 split
 .rename_i v
  match cs,h with
  | [c],h=>exact h.head
  | [],h=>exact absurd h.1 (by simp)
  | c::d::r,h=>exact absurd h.1 (by simp)
 .rename_i aV
  have:∀ c,cs≠[c]:=by
   rintro c rfl
   match vs,h,aV with
   | [v],_,aV=>exact aV v rfl
   | [],h,_=>exact absurd h.1 (by simp)
   | a::b::r,h,_=>exact absurd h.1 (by simp)
  split
  .rename_i c;exact absurd rfl (this c)
  .exact .tuple vs cs h.1 h.2
theorem Qmd {D:Nat->Prop} {vs:List Value} (h:gP D vs):bO D (iP vs):=by
 unfold iP
 split
 .exact h _ (by simp)
 .exact .tuple vs fun i hi=>h _ (List.getElem_mem hi)
theorem Qfm (cs:List Value):(if h:cs.toArray.size=1 then cs.toArray[0] else .tuple cs.toArray)=iP cs:=by
 unfold iP
 split
 .rename_i h
  match cs,h with
  | [c],_=>rfl
 .rename_i h
  split
  .simp at h
  .rfl
theorem Qto {P:Program} {A:CP} {call:FuncId->List Value->Nat->af->Option (Value×af)} (hX:o5 P call) (hD:∀ X:Cx,X.P=P->X.call=call->PZ X/\P0 X) {f:FuncId} {args:List Value} {ai:Nat} {H H':af} {v:Value}
  (h:EP P A call f args ai H=some (v,H')):fR P f args ai H v H':=by
 unfold EP at h
 split at h
 .simp at h
 .rename_i fn hfn
  split at h
  .rename_i c hb hle EA
   have hle:=Zi hle
   generalize P1:(⟨P,call,V9 (A.mode f) ai H.length,fn.ntmps,A.fuel,A.loops f⟩:Cx)=X at h
   have Wm:X.P=P:=by rw [<- P1]
   have hXc:X.call=call:=by rw [<- P1]
   have Wn:X.ai=V9 (A.mode f) ai H.length:=by rw [<- P1]
   have hXn:X.nt=fn.ntmps:=by rw [<- P1]
   obtain ⟨hDw,hDa⟩:=hD X Wm hXc
   have PJ:o5 X.P X.call:=by rw [Wm,hXc];exact hX
   have Wo:∀ D:Nat->Prop,gP D args->dM D (qW 0 args):=by
    intro D hl s u hs
    obtain ⟨_,h2⟩:=Wl args 0 s u hs
    exact hl u (Zc h2)
   have MJ:gP (aJ H.length) args->Ql H.length H->bO (aJ H'.length) v/\Ab ai H H':=by
    intro hl hc
    obtain ⟨ex,ak,H2,g1,g2,g3,g4⟩:=HQ PJ hDa c 0 _ H _ h (Wo _ hl) hc
    have fin:∀ {vs:List Value},iO P ak H2 fn.results.toList=some vs->(Q1 (vo (A.mode f) H.length vs H2) fun r=>some (iP r.1,r.2))=some (v,H')->bO (aJ H'.length) v/\Ab ai H H':=by
     intro vs hr hf
     replace hf:=Q2 hf;obtain ⟨⟨cB,H3⟩,hf,he⟩:=hf
     simp at he;obtain ⟨rfl,rfl⟩:=he
     have I6:=MH hr g2 g3
     unfold vo at hf
     cases hm:A.mode f with
     | keep =>
      rw [hm] at hf;simp at hf;obtain ⟨rfl,rfl⟩:=hf
      rw [Wn,hm] at g4
      exact ⟨Qmd I6,g4⟩
     | drop =>
      rw [hm] at hf;simp only at hf
      replace hf:=Q2 hf;obtain ⟨⟨Bz,olds⟩,Wp,he⟩:=hf
      simp at he;obtain ⟨rfl,rfl⟩:=he
      rw [Wn,hm] at g4
      obtain ⟨k1,k2⟩:=Qqj (ai:=ai) g4 hc Wp
      exact ⟨Qmd k2,k1⟩
    cases ex with
    | normal=>simp only at g1;replace g1:=Q2 g1;obtain ⟨vs,hr,g1⟩:=g1;exact fin hr g1
    | exit id=>simp at g1
    | ret=>simp only at g1;replace g1:=Q2 g1;obtain ⟨vs,hr,g1⟩:=g1;exact fin hr g1
   refine ⟨fun hl hc=>(MJ hl hc).1,fun hl hc=>(MJ hl hc).2,fun bB w=>?_,fun ι w bB hR hl=>?_⟩
   .have aV:(fn.name == "runtime.NumGoroutine")=false:=EA
    simp only [callFunc,Sem.run_bind,run_program,Result.andThen_ok,hfn,aV,Bool.false_eq_true,if_false,hb,Option.isNone_some,Sem.run_pure]
   .refine calls_of_wp hfn hb ?_
    have bf:bB.size=args.length:=by have:=hl.1;simpa using this.symm
    have hE:bw ι (aJ H.length) X.nt (qW 0 args) { tmps:=bB++Array.replicate (fn.ntmps - bB.size) undef,defers:=[] }:=by
     refine ⟨by simp [hXn];omega,fun s u hs=>?_⟩
     obtain ⟨_,h2⟩:=Wl args 0 s u hs
     obtain ⟨d,h3,h4⟩:=hl.get h2
     have au:s < bB.size:=by
      have:=(Z0 h2).1
      simp at this;omega
     have:(bB++Array.replicate (fn.ntmps - bB.size) undef).getD s undef=d:=by
      rw [Array.getD_eq_getD_getElem?,Array.getElem?_append_left au,<- Array.getElem?_toList]
      simp only [Nat.sub_zero] at h3
      rw [h3];rfl
     rw [this];exact h4
    have hwp:=HP PJ hDw c 0 _ H _ h ι _ w hR hE rfl
    rw [Wm] at hwp
    refine wp_mono hwp ?_
    rintro ex a' w' ⟨vR,ak,ι',H2,rfl,g1,g2,g3,g4,g5,g6⟩
    have fin:∀ {vs:List Value},iO P ak H2 fn.results.toList=some vs->(Q1 (vo (A.mode f) H.length vs H2) fun r=>some (iP r.1,r.2))=some (v,H') ->
      a'.defers=[]/\∃ v',(results fn a'.tmps).run P w'=.ok v' w'/\∃ ι'' c',(Ending.returned v')=.returned c'/\Rel ι'' (aJ H'.length) H' w'/\ay ι'' (aJ H'.length) v c'/\Fr ι H w ι'' H' w':=by
     intro vs hr hf
     replace hf:=Q2 hf;obtain ⟨⟨cB,H3⟩,hf,he⟩:=hf
     simp at he;obtain ⟨rfl,rfl⟩:=he
     obtain ⟨cs,k1,k2⟩:=Wc (P:=P) g1 g2 hr
     have HS:(results fn a'.tmps).run P w'=.ok (iP cs) w':=by
      unfold results
      rw [Array.mapM_eq_mapM_toList]
      simp only [Sem.run_bind,Sem.run_map]
      refine (congrArg (fun x=>Result.andThen (Result.andThen x _) _) k2).trans ?_
      simp only [Result.andThen_ok,Sem.run_pure]
      rw [<- Qfm]
     refine ⟨g5,iP cs,HS,?_⟩
     unfold vo at hf
     cases hm:A.mode f with
     | keep =>
      rw [hm] at hf;simp at hf;obtain ⟨rfl,rfl⟩:=hf
      exact ⟨ι',_,rfl,g1,Qi8 k1,g3⟩
     | drop =>
      rw [hm] at hf;simp only at hf
      replace hf:=Q2 hf;obtain ⟨⟨Bz,olds⟩,Wp,he⟩:=hf
      simp at he;obtain ⟨rfl,rfl⟩:=he
      rw [Wn,hm] at g4
      have fc:=g4.closed H.length (Zd _) (Zd _) hR.closed
      obtain ⟨q1,q2,q3⟩:=Qnr g1 g3 fc Wp k1
      exact ⟨_,_,rfl,q1,Qi8 q3,q2⟩
    cases vR with
    | normal=>simp only at g6;replace g6:=Q2 g6;obtain ⟨vs,hr,g6⟩:=g6;exact fin hr g6
    | exit id=>simp at g6
    | ret=>simp only at g6;replace g6:=Q2 g6;obtain ⟨vs,hr,g6⟩:=g6;exact fin hr g6
  .simp at h
def P2 (P:Program) (A:CP):Prop:=∀ f e,A.ext f=some e->∀ args ai H v H',e args ai H=some (v,H')->fR P f args ai H v H'
theorem Qvo {P:Program} {A:CP} (hA:P2 P A) (hD:∀ X:Cx,X.P=P->o5 P X.call->PZ X/\P0 X):∀ d:Nat,o5 P (run P A d)
 | 0=>by intro f args ai H v H' h;simp [run] at h
 | d+1=>by
  have ih:=Qvo hA hD d
  intro f args ai H v H' h
  simp only [run] at h
  split at h
  .rename_i e he;exact hA f e he args ai H v H' h
  .exact Qto ih (fun X hP hc=>hD X hP (by rw [hc];exact ih)) h
def BA (acc:Array Nat) (o:Oper):Nat:=o.after.foldl (fun s e=>if Region.binds .any e then s ||| 2 ^ e.on ||| acc.getD e.on 0 else s) 0
theorem Qql (ops:Array Oper):Region.before ops=ops.toList.foldl (fun acc o=>acc.push (BA acc o)) #[]:=by
 rw [Array.foldl_toList];rfl
theorem MK:∀ (l:List Oper) (acc:Array Nat),(l.foldl (fun acc o=>acc.push (BA acc o)) acc).size=acc.size+l.length/\(∀ j,j < acc.size->(l.foldl (fun acc o=>acc.push (BA acc o)) acc)[j]? = acc[j]?) /\
  ∀ k o,l[k]? = some o->∃ jI:Array Nat,jI.size=acc.size+k/\(∀ j,j < jI.size->(l.foldl (fun acc o=>acc.push (BA acc o)) acc)[j]? = jI[j]?)/\(l.foldl (fun acc o=>acc.push (BA acc o)) acc)[acc.size+k]? = some (BA jI o)
 | [],acc=>⟨by simp,fun j _=>rfl,fun k o h=>by simp at h⟩
 | x::l,acc=>by
  obtain ⟨h1,h2,h3⟩:=MK l (acc.push (BA acc x))
  simp only [List.foldl_cons]
  refine ⟨by rw [h1];simp;omega,fun j hj=>?_,fun k o hk=>?_⟩
  .rw [h2 j (by simp;omega),Array.getElem?_push,if_neg (by omega)]
  .cases k with
   | zero =>
    simp at hk;subst hk
    refine ⟨acc,by simp,fun j hj=>?_,?_⟩
    .rw [h2 j (by simp;omega),Array.getElem?_push,if_neg (by omega)]
    .rw [Nat.add_zero,h2 acc.size (by simp),Array.getElem?_push,if_pos rfl]
   | succ k =>
    obtain ⟨jI,g1,g2,g3⟩:=h3 k o (by simpa using hk)
    refine ⟨jI,by rw [g1];simp;omega,g2,?_⟩
    rw [show acc.size+(k+1)=(acc.push (BA acc x)).size+k by simp;omega]
    exact g3
theorem Qi9 (acc:Array Nat) (i:Nat):∀ (l:List Edge) (s:Nat),(l.foldl (fun s e=>if Region.binds .any e then s ||| 2 ^ e.on ||| acc.getD e.on 0 else s) s).testBit i=true ->
  s.testBit i=true\/∃ e∈l,Region.binds .any e=true/\(e.on=i\/(acc.getD e.on 0).testBit i=true)
 | [],s,h=>.inl h
 | e::l,s,h=>by
  simp only [List.foldl_cons] at h
  rcases Qi9 acc i l _ h with h | ⟨e',h1,h2⟩
  .split at h
   .rename_i hb
    simp only [Nat.testBit_or,Bool.or_eq_true,Nat.testBit_two_pow,Zj] at h
    rcases h with (h | h) | h
    .exact .inl h
    .exact .inr ⟨e,by simp,hb,.inl h⟩
    .exact .inr ⟨e,by simp,hb,.inr h⟩
   .exact .inl h
  .exact .inr ⟨e',List.mem_cons_of_mem _ h1,h2⟩
theorem Qtq {ops:Array Oper} {j i:Nat} (h:iN (Region.before ops) j i=true):∃ o e,ops[j]? = some o/\e∈o.after.toList/\Region.binds .any e=true/\(e.on=i\/iN (Region.before ops) e.on i=true):=by
 obtain ⟨h1,_,h3⟩:=MK ops.toList #[]
 rw [<- Qql] at h1 h3
 unfold iN at h
 cases hj:ops[j]? with
 | none =>
  have au:ops.size<=j:=by
   by_cases au:j < ops.size
   .rw [Array.getElem?_eq_getElem au] at hj;simp at hj
   .omega
  have:(Region.before ops).getD j 0=0:=by
   rw [Array.getD_eq_getD_getElem?,Array.getElem?_eq_none (by rw [h1];simp;omega)];rfl
  rw [this] at h;simp at h
 | some o =>
  obtain ⟨jI,g1,g2,g3⟩:=h3 j o (by rw [Array.getElem?_toList];exact hj)
  simp only [List.size_toArray,Zb,Zo] at g1 g3
  have e1:(Region.before ops).getD j 0=BA jI o:=by rw [Array.getD_eq_getD_getElem?,g3];rfl
  rw [e1] at h
  unfold BA at h
  rw [<- Array.foldl_toList] at h
  rcases Qi9 jI i o.after.toList 0 h with h | ⟨e,k1,k2,k3⟩
  .simp at h
  .refine ⟨o,e,rfl,k1,k2,?_⟩
   rcases k3 with k3 | k3
   .exact .inl k3
   .right
    unfold iN
    by_cases hl:e.on < jI.size
    .have:(Region.before ops).getD e.on 0=jI.getD e.on 0:=by rw [Array.getD_eq_getD_getElem?,Array.getD_eq_getD_getElem?,g2 _ hl]
     rw [this];exact k3
    .rw [Array.getD_eq_getD_getElem?,Array.getElem?_eq_none (by omega)] at k3;simp at k3
section
variable {X:Cx} {β:Type} {r:β} {o:Oper} {env:Env} {H:af}
def oq (o:Oper):List Tmp:=o.op.operands.toList.filterMap fun | .tmp t=>some t | _=>none
def bL (ts:List Tmp) (env:Env):Env:=env.filter fun p=>ts.contains p.1
theorem Wq {ts:List Tmp}:∀ {env:Env} {t:Nat},t∈ts->cS (bL ts env) t=cS env t
 | [],t,h=>rfl
 | (s,v)::env,t,h=>by
  have ih:=Wq (ts:=ts) (env:=env) h
  unfold bL at ih ⊢
  rw [List.filter_cons]
  by_cases e:s=t
  .subst e
   have:ts.contains s=true:=by simpa using h
   rw [if_pos this,vp,vp,if_pos rfl,if_pos rfl]
  .rw [vp,if_neg e]
   split
   .rw [vp,if_neg e];exact ih
   .exact ih
theorem Wr {ts:List Tmp}:∀ {env:Env} {t:Nat} {v:Value},cS (bL ts env) t=some v->t∈ts/\cS env t=some v
 | [],t,v,h=>by simp [bL,cS] at h
 | (s,u)::env,t,v,h=>by
  by_cases ht:t∈ts
  .exact ⟨ht,by rw [<- Wq ht];exact h⟩
  .exfalso
   unfold bL at h
   rw [List.filter_cons] at h
   have ih:=fun h=>ht (Wr (ts:=ts) (env:=env) (t:=t) (v:=v) h).1
   split at h
   .rename_i hc
    rw [vp] at h
    by_cases e:s=t
    .subst e;exact ht (by simpa using hc)
    .rw [if_neg e] at h;exact ih h
   .exact ih h
theorem MM {x:Operand} (h:x∈o.op.operands.toList):ev (bL (oq o) env) x=ev env x:=by
 cases x with
 | tmp t =>
  simp only [ev]
  exact Wq (by unfold oq;rw [List.mem_filterMap];exact ⟨_,h,rfl⟩)
 | const v=>rfl
 | global g=>rfl
 | func f=>rfl
theorem P3:∀ {xs:List Operand},(∀ x∈xs,x∈o.op.operands.toList)->e_ (bL (oq o) env) xs=e_ env xs
 | [],_=>rfl
 | x::xs,h=>by
  simp only [e_]
  rw [MM (h x (by simp)),P3 fun y hy=>h y (List.mem_cons_of_mem _ hy)]
theorem Ws:∀ {xs:List (Nat×Operand)},(∀ x∈xs,x.2∈o.op.operands.toList)->oH (bL (oq o) env) xs=oH env xs
 | [],_=>rfl
 | (i,x)::xs,h=>by
  simp only [oH]
  rw [MM (h (i,x) (by simp)),Ws fun y hy=>h y (List.mem_cons_of_mem _ hy)]
theorem Q8m {x:Option Operand} {d:Nat} {K:Nat->Option β} (h:∀ y,x=some y->y∈o.op.operands.toList):mN (bL (oq o) env) x d K=mN env x d K:=by
 cases x with
 | none=>rfl
 | some y=>simp only [mN];rw [MM (h y rfl)]
theorem Qns (K:Value->af->Option β):dx X o (bL (oq o) env) H K=dx X o env H K:=by
 have aL:∀ {op:Op},o.op=op->∀ x,x∈op.operands.toList->ev (bL (oq o) env) x=ev env x:=fun e x hx=>MM (by rw [e];exact hx)
 unfold dx
 cases ho:o.op with
 | move x=>simp only [aL ho x (by simp [Op.operands])]
 | assign x=>simp only [aL ho x (by simp [Op.operands])]
 | pick c a b=>simp only [aL ho c (by simp [Op.operands]),aL ho a (by simp [Op.operands]),aL ho b (by simp [Op.operands])]
 | box t x=>simp only [aL ho x (by simp [Op.operands])]
 | build t ps =>
  simp only
  rw [Ws]
  intro x hx;rw [ho];simp only [Op.operands,List.mem_map]
  exact ⟨x,hx,rfl⟩
 | buildSlice t n ps =>
  simp only
  rw [Ws]
  intro x hx;rw [ho];simp only [Op.operands,List.mem_map]
  exact ⟨x,hx,rfl⟩
 | load t x=>simp only [aL ho x (by simp [Op.operands])]
 | store t x y=>simp only [aL ho x (by simp [Op.operands]),aL ho y (by simp [Op.operands])]
 | nilCheck x=>simp only [aL ho x (by simp [Op.operands])]
 | binOp op t x y t'=>simp only [aL ho x (by simp [Op.operands]),aL ho y (by simp [Op.operands])]
 | unOp op t x=>simp only [aL ho x (by simp [Op.operands])]
 | convert s d x=>simp only [aL ho x (by simp [Op.operands])]
 | makeFunc fn first cap =>
  cases fn with
  | func f =>
   simp only
   rw [P3 (xs:=first.toList),P3 (xs:=cap.toList)]
   .intro x hx;rw [ho];simp [Op.operands];exact .inr (by simpa using hx)
   .intro x hx;rw [ho];simp [Op.operands];exact .inl (by simpa using hx)
  | _=>rfl
 | makeSlice t x y=>simp only [aL ho x (by simp [Op.operands]),aL ho y (by simp [Op.operands])]
 | slice t x lo hi mx =>
  cases mx with
  | none =>
   simp only [aL ho x (by simp [Op.operands])]
   have b1:∀ (d:Nat) (K:Nat->Option β),mN (bL (oq o) env) hi d K=mN env hi d K:=fun d K=>Q8m (fun y e=>by rw [ho,e];simp [Op.operands])
   have b2:∀ (d:Nat) (K:Nat->Option β),mN (bL (oq o) env) lo d K=mN env lo d K:=fun d K=>Q8m (fun y e=>by rw [ho,e];simp [Op.operands])
   simp only [b1,b2]
  | some y=>rfl
 | fieldAddr t x f=>simp only [aL ho x (by simp [Op.operands])]
 | field t x f=>simp only [aL ho x (by simp [Op.operands])]
 | indexAddr t x y=>simp only [aL ho x (by simp [Op.operands]),aL ho y (by simp [Op.operands])]
 | index t x y=>simp only [aL ho x (by simp [Op.operands]),aL ho y (by simp [Op.operands])]
 | extract x i=>simp only [aL ho x (by simp [Op.operands])]
 | call c =>
  have hargs:e_ (bL (oq o) env) c.args.toList=e_ env c.args.toList:=P3 fun x hx=>by
   rw [ho];simp only [Op.operands,Call.operands,Array.toList_append,Zh];exact .inr hx
  simp only [hargs]
  cases hc:c.callee with
  | builtin b=>rfl
  | value f =>
   simp only
   rw [aL ho f (by simp [Op.operands,Call.operands,hc])]
  | invoke x m=>rfl
 | _=>rfl
theorem Qtr {P:Program} {o:Op} {env:Env} {G H:af} {z:Nat} {t:Tmp} {v:Value} (h:PO o=some t) (hv:cS env t=some v) (hz:IY v=some z) (g:ah G z=ah H z):c_ P o env G=c_ P o env H:=by
 unfold PO at h
 split at h
 .rename_i ty t'
  simp at h;subst h
  unfold c_
  simp only [KC (show ev env (.tmp t')=some v from hv),ev,hv,Q1]
  cases v<;>simp only [fj]
  rename_i p
  cases p with
  | none=>rfl
  | some p =>
   simp only [IY,Option.some.injEq] at hz;subst hz
   simp only
   unfold Qv gQ
   rw [g]
 .rename_i a b t'
  simp at h;subst h
  unfold c_
  simp only [ev,hv,Q1]
  cases v<;>try (first | rfl | (simp [IY] at hz;done))
  rename_i p n c
  cases p with
  | none=>simp [IY] at hz
  | some p =>
   simp only [IY,Option.some.injEq] at hz;subst hz
   have:fQ G p (n*1)=fQ H p (n*1):=by
    cases n*1 with
    | zero=>rfl
    | succ q=>simp only [fQ];unfold Qv;rw [g]
   simp only [Qf,this]
 .simp at h
theorem Qdl {P:Program} {G:af}:c_ P o.op (bL (oq o) env) G=c_ P o.op env G:=by
 have aL:∀ {op:Op},o.op=op->∀ x,x∈op.operands.toList->ev (bL (oq o) env) x=ev env x:=fun e x hx=>MM (by rw [e];exact hx)
 unfold c_
 cases ho:o.op with
 | load t x=>simp only [aL ho x (by simp [Op.operands])]
 | convert s d x=>simp only [aL ho x (by simp [Op.operands])]
 | _=>rfl
def JU (ops:Array Oper) (o:Oper):List Tmp:=match o.guard with
 | some (g,_)=>((ops[g]?).bind (·.dst)).toList
 | none=>[]
theorem Qdm (ops:Array Oper) (o:Oper):o.looksAt ops=oq o++JU ops o:=rfl
structure vu (ι:Io) (D:Nat->Prop) (nt:Nat) (ts:List Tmp) (env:Env) (a:Act):Prop where
 size:a.tmps.size=nt
 get:∀ s∈ts,∀ v,cS env s=some v->ay ι D v (a.tmps.getD s undef)
theorem vu.bL {ι:Io} {D:Nat->Prop} {nt:Nat} {ts:List Tmp} {env:Env} {a:Act} (h:vu ι D nt ts env a):bw ι D nt (bL ts env) a :=
 ⟨h.size,fun s v hs=>by obtain ⟨h1,h2⟩:=Wr hs;exact h.get s h1 v h2⟩
def Qvp (nt:Nat) (ops:Array Oper) (o:Oper) (env:Env) (t:Bool):Prop :=
 ∀ (ι:Io) (D:Nat->Prop) (a:Act),vu ι D nt (JU ops o) env a->Region.wanted o (yielded ops a.tmps)=t
theorem Qkh {nt:Nat} {ops:Array Oper} {K:Bool->Env->Option β} (h:DK ops o env K=some r):∃ t ak,K t ak=some r/\(∀ s,cS ak s=cS env s)/\Qvp nt ops o env t:=by
 unfold DK at h
 split at h
 .rename_i hg
  exact ⟨true,env,h,fun _=>rfl,fun ι D a hE=>by simp [Region.wanted,hg]⟩
 .rename_i j want hg
  split at h
  .rename_i d hd
   replace h:=Q2 h;obtain ⟨v,hv,h⟩:=h
   have hy:∀ (ι:Io) (D:Nat->Prop) (a:Act),vu ι D nt (JU ops o) env a->yielded ops a.tmps j=match v with | .bool b=>some b | _=>none:=by
    intro ι D a hE
    have hr:=hE.get d (by simp [JU,hg,hd]) v hv
    unfold yielded
    rw [hd]
    simp only [Option.bind_some]
    by_cases au:d < a.tmps.size
    .rw [Array.getElem?_eq_getElem au]
     have e:a.tmps.getD d undef=a.tmps[d]:=by simp [Array.getD,au]
     rw [e] at hr
     generalize a.tmps[d]=c at hr ⊢
     cases hr<;>rfl
    .rw [Array.getElem?_eq_none (Nat.le_of_not_lt au)]
     have e:a.tmps.getD d undef=undef:=by simp [Array.getD,au]
     rw [e] at hr
     cases hr<;>rfl
   have dB:∀ b,v=.bool b->∀ s,cS ((d,.bool b)::env) s=cS env s:=by
    intro b e s
    rw [vp]
    by_cases hs:d=s
    .subst hs;rw [if_pos rfl,hv,e]
    .rw [if_neg hs]
   split at h
   .rename_i b
    rcases jg h with ⟨rfl,h⟩ | ⟨rfl,h⟩
    .refine ⟨_,_,h,dB _ rfl,fun ι D a hE=>?_⟩
     simp only [Region.wanted,hg,hy ι D a hE]
     cases want<;>rfl
    .refine ⟨_,_,h,dB _ rfl,fun ι D a hE=>?_⟩
     simp only [Region.wanted,hg,hy ι D a hE]
     cases want<;>rfl
   .rename_i R9
    refine ⟨_,_,h,fun _=>rfl,fun ι D a hE=>?_⟩
    simp only [Region.wanted,hg,hy ι D a hE]
    cases v<;>first | rfl | exact absurd rfl (R9 _)
  .simp at h
structure St where
 eg:Env
 env:Env
 H:af
 t:Bool
 v:Value
structure qZ (X:Cx) (ops:Array Oper) (o:Oper) (s s':St):Prop where
 same:∀ q,cS s.env q=cS s.eg q
 guard:Qvp X.nt ops o s.eg s.t
 yes:s.t=true->jS X o (bL (oq o) s.env) s.H s.v s'.H
 no:s.t=false->s.v=undef/\s'.H=s.H
 put:(o.dst=none/\s'.eg=s.env)\/∃ d,o.dst=some d/\d < X.nt/\s'.eg=(d,s.v)::s.env
theorem Qa4 (hX:o5 X.P X.call) {ops:Array Oper} {K:List (Env×af)->Env->af->Option β}:∀ (l:List Oper) (env:Env) (H:af) (tr:List (Env×af)),Al X ops l env H tr K=some r ->
  ∃ S:Nat->St,(S 0).eg=env/\(S 0).H=H/\(S l.length).env=(S l.length).eg/\(∀ k o,l[k]? = some o->qZ X ops o (S k) (S (k+1))) /\
   K (((List.range (l.length+1)).map fun k=>((S k).env,(S k).H)).reverse++tr) (S l.length).eg (S l.length).H=some r
 | [],env,H,tr,h=>by
  refine ⟨fun _=>⟨env,env,H,true,undef⟩,rfl,rfl,rfl,fun k o hk=>by simp at hk,?_⟩
  unfold Al at h
  simpa using h
 | o::l,env,H,tr,h=>by
  unfold Al at h
  obtain ⟨t,f_,h,dB,hg⟩:=Qkh (nt:=X.nt) h
  have fin:∀ (v:Value) (H':af) (cc:Env),(t=true->jS X o (bL (oq o) f_) H v H')->(t=false->v=undef/\H'=H) ->
    ((o.dst=none/\cc=f_)\/∃ d,o.dst=some d/\d < X.nt/\cc=(d,v)::f_)->Al X ops l cc H' ((f_,H)::tr) K=some r ->
    ∃ S:Nat->St,(S 0).eg=env/\(S 0).H=H/\(S (o::l).length).env=(S (o::l).length).eg/\(∀ k q,(o::l)[k]? = some q->qZ X ops q (S k) (S (k+1))) /\
     K (((List.range ((o::l).length+1)).map fun k=>((S k).env,(S k).H)).reverse++tr) (S (o::l).length).eg (S (o::l).length).H=some r:=by
   intro v H' cc h1 h2 h3 h4
   obtain ⟨S,g1,g2,g3,g4,g5⟩:=Qa4 hX l cc H' _ h4
   refine ⟨fun k=>match k with | 0=>⟨env,f_,H,t,v⟩ | k+1=>S k,rfl,rfl,g3,fun k q hk=>?_,?_⟩
   .cases k with
    | zero =>
     simp at hk;subst hk
     exact ⟨dB,hg,fun e=>by simp only [g2];exact h1 e,fun e=>by simp only [g2];exact h2 e,by simp only [g1];exact h3⟩
    | succ k=>exact g4 k q (by simpa using hk)
   .have:((List.range ((o::l).length+1)).map fun k=>(((fun k=>match k with | 0=>(⟨env,f_,H,t,v⟩:St) | k+1=>S k) k).env,((fun k=>match k with | 0=>(⟨env,f_,H,t,v⟩:St) | k+1=>S k) k).H))=(f_,H)::((List.range (l.length+1)).map fun k=>((S k).env,(S k).H)):=by
     rw [Z9,List.range_succ_eq_map,List.map_cons,List.map_map]
     rfl
    rw [this]
    simpa using g5
  cases t with
  | true =>
   simp only at h
   rw [<- Qns] at h
   obtain ⟨v,H',h,hF⟩:=RZ hX h
   obtain ⟨cc,h,hp⟩:=DI h
   exact fin v H' cc (fun _=>hF) (fun e=>by simp at e) hp h
  | false =>
   simp only at h
   obtain ⟨cc,h,hp⟩:=DI h
   exact fin undef H cc (fun e=>by simp at e) (fun _=>⟨rfl,rfl⟩) hp h
theorem Qbt {x y:Value} (h:Qa x y=true):x=y:=by
 unfold Qa at h
 split at h
 .simp at h;rw [h]
 .simp at h;rw [h.1,h.2]
 .rename_i a b
  simp only [beq_iff_eq] at h
  have:a=b:=by
   rw [ByteArray.toList_eq,ByteArray.toList_eq] at h
   obtain ⟨⟨x⟩⟩:=a;obtain ⟨⟨y⟩⟩:=b
   simp at h;rw [h]
  rw [this]
 .simp at h;rw [h]
 .simp at h;rw [h.1.1,h.1.2,h.2]
 .rfl
 .rfl
 .simp at h;rw [h]
 .simp at h
theorem Qia:∀ {x y:List Value},Bu x y=true->x=y
 | [],[],_=>rfl
 | [],_::_,h=>by simp [Bu] at h
 | _::_,[],h=>by simp [Bu] at h
 | a::x,b::y,h=>by
  simp only [Bu,Z8] at h
  rw [Qbt h.1,Qia h.2]
theorem Qqm {x y:Option Value} (h:jY x y=true):x=y:=by
 unfold jY at h
 split at h
 .rfl
 .rename_i xs ys
  have:=Qia h
  obtain ⟨xs⟩:=xs;obtain ⟨ys⟩:=ys
  simp at this;rw [this]
 .rw [Qbt h]
 .simp at h
theorem Wt {P:Program} {ops:Array Oper} {jH:List (Env×af)} {i:Nat} {o:Oper} {x:Option β}:∀ {ms:List Nat},HJ P ops jH i o ms x=some r ->
  x=some r/\∀ m∈ms,(JN P ops m i || JO P ops i o m)=true\/∃ s q,jH[i]? = some s/\jH[m]? = some q/\c_ P o.op s.1 q.2=c_ P o.op s.1 s.2
 | [],h=>⟨h,by simp⟩
 | m::ms,h=>by
  unfold HJ at h
  split at h
  .rename_i hq
   obtain ⟨h1,h2⟩:=Wt h
   exact ⟨h1,fun k hk=>by
    rcases Z2 hk with rfl | hk
    .exact .inl hq
    .exact h2 k hk⟩
  .split at h
   .rename_i s q hs hq
    rcases jg h with ⟨e,h⟩ | ⟨_,h⟩
    .obtain ⟨h1,h2⟩:=Wt h
     exact ⟨h1,fun k hk=>by
      rcases Z2 hk with rfl | hk
      .exact .inr ⟨s,q,hs,hq,Qqm e⟩
      .exact h2 k hk⟩
    .simp at h
   .simp at h
theorem P4 {P:Program} {ops:Array Oper} {jH:List (Env×af)} {x:Option β}:∀ {l:List Nat},cv P ops jH l x=some r ->
  x=some r/\∀ i∈l,cN P ops i=1->∀ o,ops[i]? = some o->∀ m∈HH P ops i,(JN P ops m i || JO P ops i o m)=true\/∃ s q,jH[i]? = some s/\jH[m]? = some q/\c_ P o.op s.1 q.2=c_ P o.op s.1 s.2
 | [],h=>⟨h,by simp⟩
 | i::l,h=>by
  unfold cv at h
  split at h
  .rename_i o hc ho
   obtain ⟨h1,h2⟩:=Wt h
   obtain ⟨h3,h4⟩:=P4 h1
   refine ⟨h3,fun k hk sN o' q_=>?_⟩
   rcases Z2 hk with rfl | hk
   .rw [ho] at q_;simp at q_;subst q_;exact h2
   .exact h4 k hk sN o' q_
  .rename_i aV
   obtain ⟨h3,h4⟩:=P4 h
   refine ⟨h3,fun k hk sN o' q_=>?_⟩
   rcases Z2 hk with rfl | hk
   .exact absurd q_ (aV o' (by rw [sN];rfl))
   .exact h4 k hk sN o' q_
end
structure bI (X:Cx) (ops:Array Oper) (S:Nat->St):Prop where
 step:∀ k o,ops[k]? = some o->qZ X ops o (S k) (S (k+1))
 ok:Mx X.P ops=true
 MN:dM (aJ (S 0).H.length) (S 0).eg
 closed:Ql (S 0).H.length (S 0).H
section
variable {X:Cx} {ops:Array Oper} {S:Nat->St}
theorem Ao {i:Nat} (h:i < ops.size):∃ o,ops[i]? = some o:=⟨ops[i],Array.getElem?_eq_getElem h⟩
theorem oR {i:Nat} {o:Oper} (h:ops[i]? = some o):i < ops.size:=(Array.getElem?_eq_some_iff.1 h).1
theorem MO {P:Program} {i:Nat} {o:Oper} (h:ops[i]? = some o):cN P ops i=gB P o.op:=by simp [cN,h]
theorem Qts {P:Program} {i:Nat} (h:¬ i < ops.size):cN P ops i=0:=by
 unfold cN;rw [Array.getElem?_eq_none (by omega)]
theorem Qvq (P:Program) (op:Op):gB P op<=3:=by
 unfold gB
 split<;>first | omega | (split<;>omega)
theorem dM.bL {D:Nat->Prop} {env:Env} {ts:List Tmp} (h:dM D env):dM D (bL ts env):=fun s v hs=>h s v (Wr hs).2
theorem bI.abs (h:bI X ops S):∀ i,i<=ops.size->dM (aJ (S i).H.length) (S i).eg/\Ql (S i).H.length (S i).H/\Ab X.ai (S 0).H (S i).H
 | 0,_=>⟨h.MN,h.closed,Ab.refl _ _⟩
 | i+1,hi=>by
  obtain ⟨h1,h2,h3⟩:=h.abs i (by omega)
  obtain ⟨o,ho⟩:=Ao (ops:=ops) (i:=i) (by omega)
  have hs:=h.step i o ho
  have hE:dM (aJ (S i).H.length) (S i).env:=fun s v hv=>h1 s v (by rw [<- hs.same];exact hv)
  have key:Ab X.ai (S i).H (S (i+1)).H/\bO (aJ (S (i+1)).H.length) (S i).v:=by
   cases ht:(S i).t with
   | true=>exact OP (hs.yes ht) hE.bL h2
   | false=>obtain ⟨e1,e2⟩:=hs.no ht;rw [e1,e2];exact ⟨Ab.refl _ _,KI _⟩
  exact ⟨KU (hE.mono (aJ.mono key.1.len)) key.2 hs.put,key.1.all h2,h3.trans key.1⟩
theorem bI.Ap (h:bI X ops S) {i:Nat} (hi:i < ops.size):dM (aJ (S i).H.length) (S i).env:=by
 obtain ⟨o,ho⟩:=Ao hi
 exact fun s v hv=>(h.abs i (by omega)).1 s v (by rw [<- (h.step i o ho).same];exact hv)
theorem bI.ot (h:bI X ops S) {i:Nat} (hi:i < ops.size):(S i).H.length<=(S (i+1)).H.length:=by
 obtain ⟨o,ho⟩:=Ao hi
 have hs:=h.step i o ho
 cases ht:(S i).t with
 | true=>exact (OP (hs.yes ht) (h.Ap hi).bL (h.abs i (by omega)).2.1).1.len
 | false=>rw [(hs.no ht).2];exact Zd _
theorem bI.bS (h:bI X ops S) {m:Nat}:∀ {i:Nat},m<=i->i<=ops.size->(S m).H.length<=(S i).H.length
 | 0,h1,_=>by rw [Nat.le_zero.1 h1];exact Zd _
 | i+1,h1,h2=>by
  by_cases e:m=i+1
  .subst e;exact Zd _
  .exact Nat.le_trans (h.bS (by omega) (by omega)) (h.ot (by omega))
theorem bI.quiet (h:bI X ops S) {i:Nat} (hi:i < ops.size) (hc:cN X.P ops i≠3) :
  ((S (i+1)).H=(S i).H)\/(cN X.P ops i=2/\(S i).t=true/\∃ vs,(S (i+1)).H=dn (S i).H vs):=by
 obtain ⟨o,ho⟩:=Ao hi
 have hs:=h.step i o ho
 have cC:=MO (P:=X.P) ho
 cases ht:(S i).t with
 | false=>exact .inl (hs.no ht).2
 | true =>
  have hF:=hs.yes ht
  unfold jS at hF
  split at hF
  .exact .inl hF.1
  .exact .inl hF.1
  .rename_i BV;obtain ⟨vs,mk,_,e,_⟩:=hF;exact .inr ⟨by rw [cC];exact BV,rfl,vs,e⟩
  .rename_i h0 h1 h2
   have hle:=Qvq X.P o.op
   rw [cC] at hc
   exact absurd hF (by
    intro _
    have:gB X.P o.op=0\/gB X.P o.op=1\/gB X.P o.op=2:=by omega
    rcases this with e | e | e
    .exact h0 e
    .exact h1 e
    .exact h2 e)
theorem bI.dK (h:bI X ops S) {i:Nat} (hi:i < ops.size) (hc:cN X.P ops i=2) (ht:(S i).t=true):(S (i+1)).H.length=(S i).H.length+1:=by
 obtain ⟨o,ho⟩:=Ao hi
 have hF:=(h.step i o ho).yes ht
 have cC:=MO (P:=X.P) ho
 rw [hc] at cC
 unfold jS at hF
 rw [<- cC] at hF
 obtain ⟨vs,mk,_,e,_⟩:=hF
 rw [e,Qy]
theorem bI.keep (h:bI X ops S) {m:Nat}:∀ {i:Nat},m<=i->i<=ops.size->(∀ k,m<=k->k < i->cN X.P ops k≠3)->∀ x,x < (S m).H.length->ah (S i).H x=ah (S m).H x
 | 0,h1,_,_,x,hx=>by rw [Nat.le_zero.1 h1]
 | i+1,h1,h2,h3,x,hx=>by
  by_cases e:m=i+1
  .subst e;rfl
  .have ih:=h.keep (i:=i) (by omega) (by omega) (fun k h4 h5=>h3 k h4 (by omega)) x hx
   rcases h.quiet (i:=i) (by omega) (h3 i (by omega) (by omega)) with e | ⟨_,_,vs,e⟩
   .rw [e,ih]
   .have:=h.bS (m:=m) (i:=i) (by omega) (by omega)
    rw [e,Wb (by omega),ih]
theorem bI.made (h:bI X ops S) {m:Nat}:∀ {e:Nat},m<=e->e<=ops.size->(∀ k,m<=k->k < e->cN X.P ops k≠3)->∀ x,(S m).H.length<=x->x < (S e).H.length ->
  ∃ i,m<=i/\i < e/\cN X.P ops i=2/\(S i).t=true/\x=(S i).H.length/\ah (S (i+1)).H x=ah (S e).H x
 | 0,h1,_,_,x,hx,mX=>by rw [Nat.le_zero.1 h1] at hx;omega
 | e+1,h1,h2,h3,x,hx,mX=>by
  by_cases he:m=e+1
  .subst he;omega
  .rcases h.quiet (i:=e) (by omega) (h3 e (by omega) (by omega)) with q | ⟨hc,ht,vs,q⟩
   .rw [q] at mX
    obtain ⟨i,g1,g2,g3,g4,g5,g6⟩:=h.made (e:=e) (by omega) (by omega) (fun k h4 h5=>h3 k h4 (by omega)) x hx mX
    exact ⟨i,g1,by omega,g3,g4,g5,by rw [g6,q]⟩
   .by_cases hxe:x < (S e).H.length
    .obtain ⟨i,g1,g2,g3,g4,g5,g6⟩:=h.made (e:=e) (by omega) (by omega) (fun k h4 h5=>h3 k h4 (by omega)) x hx hxe
     exact ⟨i,g1,by omega,g3,g4,g5,by rw [g6,q,Wb hxe]⟩
    .rw [q,Qy] at mX
     exact ⟨e,by omega,by omega,hc,ht,by omega,rfl⟩
def ou (ops:Array Oper) (j:Nat):Option Tmp:=(ops[j]?).bind (·.dst)
theorem bI.look (h:bI X ops S) {q k:Nat}:∀ {i:Nat},k<=i->i<=ops.size->(∀ j,k<=j->j < i->ou ops j≠some q)->cS (S i).eg q=cS (S k).eg q
 | 0,h1,_,_=>by rw [Nat.le_zero.1 h1]
 | i+1,h1,h2,h3=>by
  by_cases e:k=i+1
  .subst e;rfl
  .have ih:=h.look (i:=i) (by omega) (by omega) (fun j h4 h5=>h3 j h4 (by omega))
   obtain ⟨o,ho⟩:=Ao (ops:=ops) (i:=i) (by omega)
   have hs:=h.step i o ho
   have aV:=h3 i (by omega) (by omega)
   have hd:o.dst≠some q:=by simpa [ou,ho] using aV
   rcases hs.put with ⟨_,e⟩ | ⟨d,oI,_,e⟩
   .rw [e,hs.same,ih]
   .rw [e,vp,if_neg (fun e=>hd (by rw [oI,e])),hs.same,ih]
theorem bI.wrote (h:bI X ops S) {q k i:Nat} (hk:k < i) (hi:i<=ops.size) (hd:ou ops k=some q) (hn:∀ j,k < j->j < i->ou ops j≠some q):cS (S i).eg q=some (S k).v/\q < X.nt:=by
 obtain ⟨o,ho⟩:=Ao (ops:=ops) (i:=k) (by omega)
 have hs:=h.step k o ho
 have oI:o.dst=some q:=by simpa [ou,ho] using hd
 rw [h.look (k:=k+1) (by omega) hi (fun j h1 h2=>hn j (by omega) h2)]
 rcases hs.put with ⟨e,_⟩ | ⟨d,e,au,e'⟩
 .rw [e] at oI;simp at oI
 .rw [e] at oI;simp at oI;subst oI
  exact ⟨by rw [e',vp,if_pos rfl],au⟩
theorem bI.pair (h:bI X ops S) {i j:Nat} (mY:i < j) (hj:j < ops.size):iN (Region.before ops) j i=true\/(¬ (cN X.P ops j=3/\2<=cN X.P ops i)/\∃ x y,ops[i]? = some x/\ops[j]? = some y/\x.apart ops y=true):=by
 have dh:=h.ok
 unfold Mx at dh
 simp only [List.all_eq_true,List.mem_range,Z8] at dh
 have:=(dh j hj).2 i mY
 unfold Qvl at this
 rcases Bool.or_eq_true_iff.1 this with h1 | h1
 .exact .inl h1
 .right
  simp only [Z8,Bool.not_eq_true'] at h1
  obtain ⟨h2,h3⟩:=h1
  refine ⟨fun ⟨e1,e2⟩=>?_,?_⟩
  .rw [e1] at h2
   have:Nat.ble 2 (cN X.P ops i)=true:=Nat.ble_eq_true_of_le e2
   rw [this] at h2;simp at h2
  .split at h3
   .rename_i x y hx hy;exact ⟨x,y,hx,hy,h3⟩
   .simp at h3
theorem bI.MP (h:bI X ops S) {j:Nat} {o:Oper} (ho:ops[j]? = some o):∀ e∈o.after.toList,Region.binds .any e=true->e.on < j:=by
 have dh:=h.ok
 unfold Mx at dh
 simp only [List.all_eq_true,List.mem_range,Z8] at dh
 have:=(dh j (oR ho)).1
 unfold Qq9 at this
 rw [ho] at this
 simp only [List.all_eq_true] at this
 intro e he hb
 have:=this e he
 rw [hb] at this
 have h2:e.on+1<=j:=by simpa [Nat.blt] using this
 exact h2
def gW (X:Cx) (ops:Array Oper) (S:Nat->St) (m:Nat) (L:Nat->Prop) (x:Nat):Prop :=
 x < (S m).H.length\/∃ i,m<=i/\i < ops.size/\L i/\cN X.P ops i=2/\(S i).t=true/\x=(S i).H.length
structure Inv (X:Cx) (ops:Array Oper) (S:Nat->St) (ι₀:Io) (w₀:World) (L:Nat->Prop) (ι:Io) (G:af) (m:Nat) (a:Act) (w:World):Prop where
 JV:m<=ops.size
 eo:∀ e,e < ops.size->cN X.P ops e=3->(L e↔e < m)
 last:m=0\/cN X.P ops (m - 1)=3
 down:∀ j i,L j->iN (Region.before ops) j i=true->L i
 P5:∀ j,L j->j < ops.size
 len:G.length=(S ops.size).H.length
 old:∀ x,x < (S m).H.length->ah G x=ah (S m).H x
 ow:∀ i,m<=i->i < ops.size->L i->cN X.P ops i=2->(S i).t=true->ah G (S i).H.length=ah (S (i+1)).H (S i).H.length
 dead:∀ x,(S m).H.length<=x->x < (S ops.size).H.length->(∀ i,m<=i->i < ops.size->L i->cN X.P ops i=2->(S i).t=true->x≠(S i).H.length)->G[x]? = some none
 rel:Rel ι (gW X ops S m L) G w
 fr:Fr ι₀ (S 0).H w₀ ι G w
 size:a.tmps.size=X.nt
 env:∀ q i,i<=ops.size->(∀ j,j < ops.size->ou ops j=some q->(L j↔j < i))->∀ v,cS (S i).eg q=some v->ay ι (gW X ops S m L) v (a.tmps.getD q undef)
 defers:a.defers=[]
variable {ι₀:Io} {w₀:World} {L:Nat->Prop} {ι:Io} {G:af} {m:Nat} {a:Act} {w:World}
structure Next (ops:Array Oper) (L:Nat->Prop) (i:Nat) (o:Oper):Prop where
 op:ops[i]? = some o
 not:¬ L i
 Bv:∀ k,iN (Region.before ops) i k=true->L k
theorem Inv.loc (h:Inv X ops S ι₀ w₀ L ι G m a w) (hr:bI X ops S) {i:Nat} {o:Oper} (hn:Next ops L i o):vu ι (gW X ops S m L) X.nt (o.looksAt ops) (S i).eg a:=by
 have hi:=oR hn.op
 refine ⟨h.size,fun s hs v hv=>h.env s i (by omega) (fun j hj hd=>?_) v hv⟩
 obtain ⟨oj,Wu⟩:=Ao hj
 have oI:oj.dst=some s:=by simpa [ou,Wu] using hd
 rcases Nat.lt_trichotomy j i with au | rfl | au
 .refine ⟨fun _=>au,fun _=>?_⟩
  rcases hr.pair au hi with hb | ⟨_,x,y,hx,hy,MQ⟩
  .exact hn.Bv j hb
  .rw [Wu] at hx;rw [hn.op] at hy;simp at hx hy;subst hx;subst hy
   exact absurd hs ((Oper.apart_spec MQ).1 s oI)
 .exact ⟨fun hL=>absurd hL hn.not,fun au=>by omega⟩
 .refine ⟨fun hL=>?_,fun h=>by omega⟩
  rcases hr.pair au hj with hb | ⟨_,x,y,hx,hy,MQ⟩
  .exact absurd (h.down j i hL hb) hn.not
  .rw [hn.op] at hx;rw [Wu] at hy;simp at hx hy;subst hx;subst hy
   exact absurd hs ((Oper.apart_spec MQ).2.2 s oI)
def jZ (L:Nat->Prop) (i:Nat):Nat->Prop:=fun j=>L j\/j=i
theorem Next.sR {i:Nat} {o:Oper} (hn:Next ops L i o) (MR:∀ j k,L j->iN (Region.before ops) j k=true->L k):∀ j k,jZ L i j->iN (Region.before ops) j k=true->jZ L i k:=by
 rintro j k (hj | rfl) hb
 .exact .inl (MR j k hj hb)
 .exact .inl (hn.Bv k hb)
theorem Inv.iZ (h:Inv X ops S ι₀ w₀ L ι G m a w) (hr:bI X ops S) {i:Nat} {o:Oper} (hn:Next ops L i o) {ι':Io} {D':Nat->Prop} {c:Value} (hc:ay ι' D' (S i).v c)
  (fE:∀ {v c:Value},ay ι (gW X ops S m L) v c->ay ι' D' v c) :
  ∀ q k,k<=ops.size->(∀ j,j < ops.size->ou ops j=some q->(jZ L i j↔j < k))->∀ v,cS (S k).eg q=some v->ay ι' D' v ((a.put o.dst c).tmps.getD q undef):=by
 intro q k hk dc v hv
 have hi:=oR hn.op
 by_cases hq:o.dst=some q
 .have hdi:ou ops i=some q:=by simp [ou,hn.op,hq]
  have hik:i < k:=(dc i hi hdi).1 (.inr rfl)
  have eE:∀ j,i < j->j < k->ou ops j≠some q:=by
   intro j h1 h2 hd
   have hj:j < ops.size:=by omega
   have hL:L j:=by
    rcases (dc j hj hd).2 h2 with hL | rfl
    .exact hL
    .omega
   rcases hr.pair h1 hj with hb | ⟨_,x,y,hx,hy,MQ⟩
   .exact hn.not (h.down j i hL hb)
   .rw [hn.op] at hx;simp at hx;subst hx
    have:y.dst=some q:=by simpa [ou,hy] using hd
    exact (Oper.apart_spec MQ).2.1 q hq this
  obtain ⟨e1,e2⟩:=hr.wrote hik hk hdi eE
  rw [e1] at hv;simp at hv;subst hv
  rw [hq]
  simp only [Act.put]
  rw [Qm5 (by rw [h.size];exact e2),if_pos rfl]
  exact hc
 .have dB:(a.put o.dst c).tmps.getD q undef=a.tmps.getD q undef:=by
   cases hd:o.dst with
   | none=>rfl
   | some d =>
    have aV:d≠q:=fun e=>hq (by rw [hd,e])
    simp only [Act.put,Array.getD_eq_getD_getElem?,Array.getElem?_setIfInBounds_ne aV]
  rw [dB]
  refine fE (h.env q k hk (fun j hj hd=>?_) v hv)
  have hji:j≠i:=fun e=>hq (by subst e;simpa [ou,hn.op] using hd)
  rw [<- dc j hj hd]
  exact ⟨fun hL=>.inl hL,fun hL=>hL.resolve_right hji⟩
theorem P6 (a:Act) (dst:Option Tmp) (c:Value):(a.put dst c).tmps.size=a.tmps.size:=by cases dst<;>simp [Act.put]
theorem Inv.still (h:Inv X ops S ι₀ w₀ L ι G m a w) (hr:bI X ops S) {i:Nat} {o:Oper} (hn:Next ops L i o) (EW:cN X.P ops i≠3) (BV:cN X.P ops i=2->(S i).t=false) {c:Value} (hc:ay ι (gW X ops S m L) (S i).v c) :
  Inv X ops S ι₀ w₀ (jZ L i) ι G m (a.put o.dst c) w:=by
 have hi:=oR hn.op
 have ku:∀ x,gW X ops S m L x->gW X ops S m (jZ L i) x:=by
  rintro x (hx | ⟨k,h1,h2,h3,h4,h5,h6⟩)
  .exact .inl hx
  .exact .inr ⟨k,h1,h2,.inl h3,h4,h5,h6⟩
 have ox:∀ k,jZ L i k->cN X.P ops k=2->(S k).t=true->L k:=by
  rintro k (hL | rfl) h2 ht
  .exact hL
  .rw [BV h2] at ht;simp at ht
 have fE:∀ {v c:Value},ay ι (gW X ops S m L) v c->ay ι (gW X ops S m (jZ L i)) v c:=fun hv=>hv.mono ku fun _ _=>rfl
 refine ⟨h.JV,fun e he CT=>?_,h.last,hn.sR h.down,?_,h.len,h.old,fun k h1 h2 h3 h4 h5=>h.ow k h1 h2 (ox k h3 h4 h5) h4 h5,fun x h1 h2 h3=>h.dead x h1 h2 (fun k g1 g2 g3 g4 g5=>h3 k g1 g2 (.inl g3) g4 g5),h.rel.domain ku,h.fr,
  by rw [P6];exact h.size,h.iZ hr hn (fE hc) fE,by rw [I5];exact h.defers⟩
 .have aV:e≠i:=fun e'=>EW (e'▸CT)
  rw [<- h.eo e he CT]
  exact ⟨fun hL=>hL.resolve_right aV,fun hL=>.inl hL⟩
 .rintro j (hL | rfl)
  .exact h.P5 j hL
  .exact hi
theorem Inv.CU (h:Inv X ops S ι₀ w₀ L ι G m a w) (hr:bI X ops S) {i:Nat} {o:Oper} (hn:Next ops L i o) (hc:cN X.P ops i=2):m<=i:=by
 have hi:=oR hn.op
 by_cases au:m<=i
 .exact au
 .exfalso
  rcases h.last with hm | hm
  .omega
  .have EX:m - 1 < ops.size:=by have:=h.JV;omega
   have hL:L (m - 1):=(h.eo (m - 1) EX hm).2 (by omega)
   have aV:i≠m - 1:=fun e=>by rw [e,hm] at hc;omega
   rcases hr.pair (i:=i) (j:=m - 1) (by omega) EX with hb | ⟨hx,_⟩
   .exact hn.not (h.down _ _ hL hb)
   .exact hx ⟨hm,by omega⟩
theorem Inv.make (h:Inv X ops S ι₀ w₀ L ι G m a w) (hr:bI X ops S) {i:Nat} {o:Oper} (hn:Next ops L i o) (hc:cN X.P ops i=2) (ht:(S i).t=true) {vs cs rest:List Value} {eN:TypeId} {fz:Nat×Nat} {w0:World} {c:Value}
  (hH:(S (i+1)).H=dn (S i).H vs) (hl:aZ ι (gW X ops S m L) vs cs) (bF:∀ v∈vs,az v=true) (hfz:oY fz (cs++rest).length) (e1:w0.heap=w.heap) (e2:w0.os=w.os) (e3:w0.tape=w.tape) (e4:w0.output=w.output)
  (hv:ay (ι.set (S i).H.length ⟨w.heap.size,0,(cs++rest).length⟩) (fun b=>gW X ops S m L b\/b=(S i).H.length) (S i).v c) :
  Inv X ops S ι₀ w₀ (jZ L i) (ι.set (S i).H.length ⟨w.heap.size,0,(cs++rest).length⟩) (G.set (S i).H.length (some ⟨vs,false,none⟩)) m (a.put o.dst c) (w0.alloc (.cells (cs++rest).toArray eN fz)):=by
 have hi:=oR hn.op
 have oy:=h.CU hr hn hc
 have hlen:=hr.dK hi hc ht
 have CV:=hr.bS oy (by omega)
 have hle:=hr.bS (m:=i+1) (i:=ops.size) (by omega) (Zd _)
 have HT:∀ k,m<=k->k < ops.size->cN X.P ops k=2->(S k).t=true->k≠i->(S k).H.length≠(S i).H.length:=by
  intro k h1 h2 h3 h4 h5
  rcases Nat.lt_or_gt_of_ne h5 with au | au
  .have:=hr.dK h2 h3 h4
   have:=hr.bS (m:=k+1) (i:=i) (by omega) (by omega)
   omega
  .have:=hr.bS (m:=i+1) (i:=k) (by omega) (by omega)
   omega
 have hnD:¬ gW X ops S m L (S i).H.length:=by
  rintro (hx | ⟨k,h1,h2,h3,h4,h5,h6⟩)
  .omega
  .by_cases e:k=i
   .subst e;exact hn.not h3
   .exact HT k h1 h2 h4 h5 e h6.symm
 have hG:G[(S i).H.length]? = some none:=h.dead _ CV (by omega) (fun k g1 g2 g3 g4 g5 e=>HT k g1 g2 g4 g5 (fun e'=>hn.not (e'▸g3)) e.symm)
 have hGl:(S i).H.length < G.length:=(Z0 hG).1
 have hD:∀ b,(gW X ops S m L b\/b=(S i).H.length)->gW X ops S m (jZ L i) b:=by
  rintro b ((hx | ⟨k,h1,h2,h3,h4,h5,h6⟩) | rfl)
  .exact .inl hx
  .exact .inr ⟨k,h1,h2,.inl h3,h4,h5,h6⟩
  .exact .inr ⟨i,oy,hi,.inr rfl,hc,ht,rfl⟩
 have hw:w0.heap.size=w.heap.size:=by rw [e1]
 have wU:=(h.rel.bq e1).fill hG hnD hl bF rest eN fz hfz
 rw [hw] at wU
 have fE:∀ {v c:Value},ay ι (gW X ops S m L) v c->ay (ι.set (S i).H.length ⟨w.heap.size,0,(cs++rest).length⟩) (gW X ops S m (jZ L i)) v c :=
  fun hr=>hr.mono (fun b hb=>hD b (.inl hb)) fun b hb=>Io.aS _ _ (fun e=>hnD (e▸hb))
 refine ⟨h.JV,fun e he CT=>?_,h.last,hn.sR h.down,?_,by rw [List.length_set];exact h.len,fun x hx=>?_,fun k g1 g2 g3 g4 g5=>?_,fun x g1 g2 g3=>?_,wU.domain hD,?_,by rw [P6];exact h.size,
  h.iZ hr hn (hv.mono hD fun _ _=>rfl) fE,by rw [I5];exact h.defers⟩
 .have aV:e≠i:=fun e'=>by rw [e'] at CT;omega
  rw [<- h.eo e he CT]
  exact ⟨fun hL=>hL.resolve_right aV,fun hL=>.inl hL⟩
 .rintro j (hL | rfl)
  .exact h.P5 j hL
  .exact hi
 .rw [Qm (by omega)];exact h.old x hx
 .by_cases e:k=i
  .subst e;rw [tG hGl,hH,MD]
  .rw [Qm (Ne.symm (HT k g1 g2 g4 g5 e))]
   exact h.ow k g1 g2 (g3.resolve_right e) g4 g5
 .have aV:(S i).H.length≠x:=Ne.symm (g3 i oy hi (.inr rfl) hc ht)
  rw [List.getElem?_set_ne aV]
  exact h.dead x g1 g2 (fun k q1 q2 q3 q4 q5=>g3 k q1 q2 (.inl q3) q4 q5)
 .have hgc:∀ {b:Nat} {k:bz},ah (G.set (S i).H.length (some ⟨vs,false,none⟩)) b=some k->(b=(S i).H.length/\k.ro=false)\/(b≠(S i).H.length/\ah G b=some k):=by
   intro b k hb
   by_cases e:b=(S i).H.length
   .subst e;rw [tG hGl] at hb;simp at hb;subst hb;exact .inl ⟨rfl,rfl⟩
   .rw [Qm (Ne.symm e)] at hb;exact .inr ⟨e,hb⟩
  have h0:=hr.bS (m:=0) (i:=i) (by omega) (by omega)
  refine ⟨by rw [List.length_set];exact h.fr.len,fun b hb=>by rw [Io.aS _ _ (by omega)];exact h.fr.io b hb,e2.trans h.fr.os,e3.trans h.fr.tape,e4.trans h.fr.output,?_,fun k hk eE=>?_,fun b k hb bh=>?_,fun b k hb bh=>?_⟩
  .rw [World.size_alloc,hw];have:=h.fr.size;omega
  .rw [FJ _ _ (by rw [hw];have:=h.fr.size;omega),e1];exact h.fr.frame k hk eE
  .rcases hgc hb with ⟨rfl,_⟩ | ⟨e,hb⟩
   .left;rw [Io.aC];exact h.fr.size
   .rw [Io.aS _ _ e];exact h.fr.new b k hb bh
  .rcases hgc hb with ⟨rfl,e⟩ | ⟨e,hb⟩
   .rw [e] at bh;simp at bh
   .exact h.fr.ro b k hb bh
theorem Inv.HU (h:Inv X ops S ι₀ w₀ L ι G m a w) (hr:bI X ops S) {e:Nat} {o:Oper} (hn:Next ops L e o) (hc:cN X.P ops e=3) :
  m<=e/\(∀ x,x < (S e).H.length->ah G x=ah (S e).H x)/\(∀ x,gW X ops S m L x->x < (S e).H.length\/∃ i,e+1<=i/\i < ops.size/\L i/\cN X.P ops i=2/\(S i).t=true/\x=(S i).H.length):=by
 have he:=oR hn.op
 have BB:m<=e:=by
  by_cases au:m<=e
  .exact au
  .exact absurd ((h.eo e he hc).2 (by omega)) hn.not
 have eE:∀ k,m<=k->k < e->cN X.P ops k≠3:=by
  intro k h1 h2 h3
  rcases hr.pair h2 he with hb | ⟨hx,_⟩
  .have:=(h.eo k (by omega) h3).1 (hn.Bv k hb);omega
  .exact hx ⟨hc,by omega⟩
 refine ⟨BB,fun x hx=>?_,?_⟩
 .by_cases MS:x < (S m).H.length
  .rw [h.old x MS,hr.keep BB (by omega) eE x MS]
  .obtain ⟨i,g1,g2,g3,g4,g5,g6⟩:=hr.made BB (by omega) eE x (by omega) hx
   have hL:L i:=by
    rcases hr.pair g2 he with hb | ⟨hx,_⟩
    .exact hn.Bv i hb
    .exact absurd ⟨hc,by omega⟩ hx
   have:=h.ow i g1 (by omega) hL g3 g4
   rw [<- g5] at this
   rw [this,g6]
 .rintro x (hx | ⟨i,h1,h2,h3,h4,h5,h6⟩)
  .have:=hr.bS BB (by omega);exact .inl (by omega)
  .rcases Nat.lt_trichotomy i e with au | rfl | au
   .have:=hr.dK h2 h4 h5
    have:=hr.bS (m:=i+1) (i:=e) (by omega) (by omega)
    exact .inl (by omega)
   .rw [hc] at h4;omega
   .exact .inr ⟨i,by omega,h2,h3,h4,h5,h6⟩
theorem Inv.MT (h:Inv X ops S ι₀ w₀ L ι G m a w) (hr:bI X ops S) {e:Nat} {o:Oper} (hn:Next ops L e o) (hc:cN X.P ops e=3) (ht:(S e).t=false) {c:Value} (hv:∀ D,ay ι D (S e).v c) :
  Inv X ops S ι₀ w₀ (jZ L e) ι G (e+1) (a.put o.dst c) w:=by
 have he:=oR hn.op
 obtain ⟨BB,hold,ku⟩:=h.HU hr hn hc
 have hH:(S (e+1)).H=(S e).H:=((hr.step e o hn.op).no ht).2
 have hD:∀ x,gW X ops S m L x->gW X ops S (e+1) (jZ L e) x:=by
  intro x hx
  rcases ku x hx with h1 | ⟨i,h1,h2,h3,h4,h5,h6⟩
  .left;rw [hH];exact h1
  .exact .inr ⟨i,h1,h2,.inl h3,h4,h5,h6⟩
 have fE:∀ {v c:Value},ay ι (gW X ops S m L) v c->ay ι (gW X ops S (e+1) (jZ L e)) v c:=fun hr=>hr.mono hD fun _ _=>rfl
 have ox:∀ k,jZ L e k->cN X.P ops k=2->L k:=by
  rintro k (hL | rfl) h2
  .exact hL
  .rw [hc] at h2;omega
 refine ⟨by omega,fun k hk sN=>?_,.inr hc,hn.sR h.down,?_,h.len,fun x hx=>by rw [hH] at hx ⊢;exact hold x hx,fun k g1 g2 g3 g4 g5=>h.ow k (by omega) g2 (ox k g3 g4) g4 g5,fun x g1 g2 g3=>?_,h.rel.domain hD,h.fr,by rw [P6];exact h.size,
  h.iZ hr hn (hv _) fE,by rw [I5];exact h.defers⟩
 .constructor
  .rintro (hL | rfl)
   .have:=(h.eo k hk sN).1 hL;omega
   .omega
  .intro au
   by_cases e':k=e
   .exact .inr e'
   .refine .inl ?_
    by_cases A9:k < m
    .exact (h.eo k hk sN).2 A9
    .exfalso
     rcases hr.pair (i:=k) (j:=e) (by omega) he with hb | ⟨hx,_⟩
     .have:=(h.eo k hk sN).1 (hn.Bv k hb);omega
     .exact hx ⟨hc,by omega⟩
 .rintro j (hL | rfl)
  .exact h.P5 j hL
  .exact he
 .refine h.dead x ?_ g2 (fun k q1 q2 q3 q4 q5 hx=>?_)
  .have:=hr.bS BB (by omega);rw [hH] at g1;omega
  .rcases Nat.lt_trichotomy k e with au | rfl | au
   .have:=hr.dK q2 q4 q5
    have:=hr.bS (m:=k+1) (i:=e) (by omega) (by omega)
    rw [hH] at g1;omega
   .rw [hc] at q4;omega
   .exact g3 k (by omega) q2 (.inl q3) q4 q5 hx
theorem Inv.MU (h:Inv X ops S ι₀ w₀ L ι G m a w) (hr:bI X ops S) {e:Nat} {o:Oper} (hn:Next ops L e o) (hc:cN X.P ops e=3):Rel ι (aJ (S e).H.length) (S e).H w:=by
 have he:=oR hn.op
 obtain ⟨BB,hold,ku⟩:=h.HU hr hn hc
 have fc:=(hr.abs e (by omega)).2.1
 have hG:∀ {b:Nat} {k:bz},ah (S e).H b=some k->ah G b=some k:=fun hb=>by rw [hold _ (Qq hb)];exact hb
 refine ⟨fun b k hb=>?_,fun b b' k k' h1 h2=>h.rel.inj b b' k k' (hG h1) (hG h2),fun b k hb hr=>h.rel.iA b k (hG hb) hr,h.rel.gw⟩
 exact (h.rel.aH b k (hG hb)).bx rfl rfl fun i hi c hv=>hv.re (fc b (Qq hb) k hb _ (List.getElem_mem hi)) fun _ _ _=>rfl
theorem Inv.EY (h:Inv X ops S ι₀ w₀ L ι G m a w) (hr:bI X ops S) {e:Nat} {o:Oper} (hn:Next ops L e o):bw ι (gW X ops S m L) X.nt (bL (oq o) (S e).env) a:=by
 have hl:=h.loc hr hn
 refine vu.bL ⟨hl.size,fun s hs v hv=>?_⟩
 rw [(hr.step e o hn.op).same] at hv
 exact hl.get s (by rw [Qdm];exact List.mem_append.2 (.inl hs)) v hv
theorem Inv.HV (h:Inv X ops S ι₀ w₀ L ι G m a w) (hr:bI X ops S) {e:Nat} {o:Oper} (hn:Next ops L e o):bw ι (aJ (S e).H.length) X.nt (bL (oq o) (S e).env) a:=by
 have h1:=h.EY hr hn
 exact ⟨h1.size,fun s v hv=>(h1.get s v hv).re ((hr.Ap (oR hn.op)).bL s v hv) fun _ _ _=>rfl⟩
theorem Inv.eff (h:Inv X ops S ι₀ w₀ L ι G m a w) (hr:bI X ops S) {e:Nat} {o:Oper} (hn:Next ops L e o) (hc:cN X.P ops e=3) {ι':Io} {w':World} {c:Value}
  (hR:Rel ι' (aJ (S (e+1)).H.length) (S (e+1)).H w') (hv:ay ι' (aJ (S (e+1)).H.length) (S e).v c) (hf:Fr ι (S e).H w ι' (S (e+1)).H w') :
  Inv X ops S ι₀ w₀ (jZ L e) (fun x=>if x < (S (e+1)).H.length then ι' x else ι x) ((S (e+1)).H++G.drop (S (e+1)).H.length) (e+1) (a.put o.dst c) w':=by
 have he:=oR hn.op
 obtain ⟨BB,hold,ku⟩:=h.HU hr hn hc
 have hle:(S (e+1)).H.length<=G.length:=by rw [h.len];exact hr.bS (by omega) (Zd _)
 have iw:=hr.ot he
 have hG:∀ {b:Nat} {k:bz},ah (S e).H b=some k->ah G b=some k:=fun hb=>by rw [hold _ (Qq hb)];exact hb
 have au:∀ {x:Nat},x < (S (e+1)).H.length->ah ((S (e+1)).H++G.drop (S (e+1)).H.length) x=ah (S (e+1)).H x:=fun hx=>FG hx
 have tD:∀ {x:Nat},(S (e+1)).H.length<=x->((S (e+1)).H++G.drop (S (e+1)).H.length)[x]? = G[x]?:=by
  intro x hx
  rw [Zq hx,Zp]
  congr 1;omega
 have MV:∀ {x:Nat},(S (e+1)).H.length<=x->ah ((S (e+1)).H++G.drop (S (e+1)).H.length) x=ah G x:=by
  intro x hx;unfold ah;rw [tD hx]
 have iT:∀ i,e+1<=i->i < ops.size->(S (e+1)).H.length<=(S i).H.length:=fun i h1 h2=>hr.bS h1 (by omega)
 have hD:∀ x,gW X ops S m L x->gW X ops S (e+1) (jZ L e) x/\(if x < (S (e+1)).H.length then ι' x else ι x)=ι x:=by
  intro x hx
  rcases ku x hx with h1 | ⟨i,h1,h2,h3,h4,h5,h6⟩
  .exact ⟨.inl (by omega),by rw [if_pos (by omega)];exact hf.io x h1⟩
  .have:=iT i h1 h2
   exact ⟨.inr ⟨i,h1,h2,.inl h3,h4,h5,h6⟩,by rw [if_neg (by omega)]⟩
 have fE:∀ {v c:Value},ay ι (gW X ops S m L) v c->ay (fun x=>if x < (S (e+1)).H.length then ι' x else ι x) (gW X ops S (e+1) (jZ L e)) v c :=
  fun hr=>hr.mono (fun x hx=>(hD x hx).1) fun x hx=>(hD x hx).2
 have Aq:∀ {v c:Value},ay ι' (aJ (S (e+1)).H.length) v c->ay (fun x=>if x < (S (e+1)).H.length then ι' x else ι x) (gW X ops S (e+1) (jZ L e)) v c :=
  fun hr=>hr.mono (fun x hx=>.inl hx) fun x hx=>if_pos hx
 have ox:∀ k,jZ L e k->cN X.P ops k=2->L k:=by
  rintro k (hL | rfl) h2
  .exact hL
  .rw [hc] at h2;omega
 have MW:∀ {x:Nat} {k:bz},(S (e+1)).H.length<=x->ah G x=some k->∃ i,e+1<=i/\i < ops.size/\L i/\cN X.P ops i=2/\(S i).t=true/\x=(S i).H.length/\k.ro=false:=by
  intro x k hx hk
  have hxG:=Qq hk
  rw [h.len] at hxG
  apply Classical.byContradiction
  intro eE
  have ES:=h.dead x (by have:=hr.bS BB (by omega:e<=ops.size);omega) hxG (fun i g1 g2 g3 g4 g5 mX=>by
   rcases Nat.lt_trichotomy i e with hl | rfl | hl
   .have:=hr.dK g2 g4 g5
    have:=hr.bS (m:=i+1) (i:=e) (by omega) (by omega)
    omega
   .rw [hc] at g4;omega
   .have hp:=h.ow i g1 g2 g3 g4 g5
    rw [<- mX,hk] at hp
    obtain ⟨oi,hoi⟩:=Ao g2
    have hF:=(hr.step i oi hoi).yes g5
    have cC:=MO (P:=X.P) hoi
    rw [g4] at cC
    unfold jS at hF
    rw [<- cC] at hF
    obtain ⟨vs,mk,_,eH,_⟩:=hF
    rw [mX,eH,MD] at hp
    simp at hp
    exact eE ⟨i,by omega,g2,g3,g4,g5,mX,by rw [hp]⟩)
  unfold ah at hk;rw [ES] at hk;simp at hk
 have cP:∀ {x:Nat} {k:bz},ah ((S (e+1)).H++G.drop (S (e+1)).H.length) x=some k->(x < (S (e+1)).H.length/\ah (S (e+1)).H x=some k)\/((S (e+1)).H.length<=x/\ah G x=some k/\k.ro=false):=by
  intro x k hk
  by_cases hx:x < (S (e+1)).H.length
  .rw [au hx] at hk;exact .inl ⟨hx,hk⟩
  .rw [MV (by omega)] at hk
   obtain ⟨i,_,_,_,_,_,_,bh⟩:=MW (by omega) hk
   exact .inr ⟨by omega,hk,bh⟩
 have Ar:∀ {x y:Nat} {k k':bz},x < (S (e+1)).H.length->ah (S (e+1)).H x=some k->(S (e+1)).H.length<=y->ah G y=some k'->k'.ro=false->(ι' x).aH≠(ι y).aH:=by
  intro x y k k' hx hk hy de bh
  have hyl:=h.rel.lt de
  cases hkr:k.ro with
  | false =>
   rcases hf.new x k hk hkr with h1 | ⟨b0,k0,h1,h2,h3⟩
   .omega
   .rw [<- h3]
    have:=Qq h1
    exact h.rel.inj b0 y k0 k' (hG h1) de (by omega) (.inr bh)
  | true =>
   have h1:=hf.ro x k hk hkr
   have h2:=Qq h1
   rw [hf.io x h2]
   exact h.rel.inj x y k k' (hG h1) de (by omega) (.inr bh)
 refine ⟨by omega,fun k hk sN=>?_,.inr hc,hn.sR h.down,?_,by rw [Zf,List.length_drop,<- h.len];omega,fun x hx=>au hx,fun k g1 g2 g3 g4 g5=>?_,fun x g1 g2 g3=>?_,⟨fun x k hk=>?_,fun x y k k' h1 h2 aV bh=>?_,fun x k hk bh=>(by
   rcases cP hk with ⟨g1,g2⟩ | ⟨g1,g2,_⟩
   .rw [if_pos g1];exact hR.iA x k g2 bh
   .rw [if_neg (by omega)];exact h.rel.iA x k g2 bh),hR.gw⟩,?_,by rw [P6];exact h.size,
  h.iZ hr hn (Aq hv) fE,by rw [I5];exact h.defers⟩
 .constructor
  .rintro (hL | rfl)
   .have:=(h.eo k hk sN).1 hL;omega
   .omega
  .intro MX
   by_cases e':k=e
   .exact .inr e'
   .refine .inl ?_
    by_cases A9:k < m
    .exact (h.eo k hk sN).2 A9
    .exfalso
     rcases hr.pair (i:=k) (j:=e) (by omega) he with hb | ⟨hx,_⟩
     .have:=(h.eo k hk sN).1 (hn.Bv k hb);omega
     .exact hx ⟨hc,by omega⟩
 .rintro j (hL | rfl)
  .exact h.P5 j hL
  .exact he
 .rw [MV (iT k g1 g2)];exact h.ow k (by omega) g2 (ox k g3 g4) g4 g5
 .rw [tD g1]
  refine h.dead x (by have:=hr.bS BB (by omega:e<=ops.size);omega) g2 (fun k q1 q2 q3 q4 q5 hx=>?_)
  rcases Nat.lt_trichotomy k e with hl | rfl | hl
  .have:=hr.dK q2 q4 q5
   have:=hr.bS (m:=k+1) (i:=e) (by omega) (by omega)
   omega
  .rw [hc] at q4;omega
  .exact g3 k (by omega) q2 (.inl q3) q4 q5 hx
 .rcases cP hk with ⟨h1,h2⟩ | ⟨h1,h2,bh⟩
  .exact (hR.aH x k h2).bx rfl (if_pos h1) fun i hi c hr=>Aq hr
  .refine (h.rel.aH x k h2).bx (hf.frame _ (h.rel.lt h2) ?_) (if_neg (by omega)) fun i hi c hr=>fE hr
   intro b k' hb HW
   have:=Qq hb
   exact h.rel.inj b x k' k (hG hb) h2 (by omega) (.inl HW)
 .rcases cP h1 with ⟨g1,g2⟩ | ⟨g1,g2,Wv⟩
  .rcases cP h2 with ⟨q1,q2⟩ | ⟨q1,q2,MY⟩
   .rw [if_pos g1,if_pos q1];exact hR.inj x y k k' g2 q2 aV bh
   .rw [if_pos g1,if_neg (by omega)];exact Ar g1 g2 q1 q2 MY
  .rcases cP h2 with ⟨q1,q2⟩ | ⟨q1,q2,MY⟩
   .rw [if_neg (by omega),if_pos q1];exact Ne.symm (Ar q1 q2 g1 g2 Wv)
   .rw [if_neg (by omega),if_neg (by omega)];exact h.rel.inj x y k k' g2 q2 aV bh
 .have h0:=hr.bS (m:=0) (i:=e) (by omega) (by omega)
  refine ⟨by simp;omega,fun b hb=>by rw [if_pos (by omega),hf.io b (by omega)];exact h.fr.io b hb,hf.os.trans h.fr.os,hf.tape.trans h.fr.tape,hf.output.trans h.fr.output,Nat.le_trans h.fr.size hf.size,fun k hk eE=>?_,fun x k hk bh=>?_,fun x k hk bh=>?_⟩
  .rw [hf.frame k (Zm hk h.fr.size) ?_,h.fr.frame k hk eE]
   intro b k' hb bh heq
   rcases h.fr.new b k' (hG hb) bh with h1 | ⟨b0,k0,h1,h2,h3⟩
   .omega
   .exact eE b0 k0 h1 h2 (h3.trans heq)
  .rcases cP hk with ⟨g1,g2⟩ | ⟨g1,g2,_⟩
   .rw [if_pos g1]
    rcases hf.new x k g2 bh with h1 | ⟨b0,k0,h1,h2,h3⟩
    .exact .inl (Nat.le_trans h.fr.size h1)
    .rw [<- h3];exact h.fr.new b0 k0 (hG h1) h2
   .rw [if_neg (by omega)];exact h.fr.new x k g2 bh
  .rcases cP hk with ⟨g1,g2⟩ | ⟨g1,g2,HW⟩
   .exact h.fr.ro x k (hG (hf.ro x k g2 bh)) bh
   .rw [HW] at bh;simp at bh
theorem Qqn {H G:af} (h:∀ x,x < H.length->ah G x=ah H x) {p:Addr} {v:Value} (hl:gQ H p=some v):gQ G p=some v:=by
 unfold gQ at hl ⊢
 obtain ⟨k,hk,hv⟩:=Q2 hl
 rw [h _ (Qq hk),hk];exact hv
theorem Ww {H G:af} (h:∀ x,x < H.length->ah G x=ah H x) {p:Addr} {n:Nat} {l:List Value} (hl:Qv H p n=some l):Qv G p n=some l:=by
 unfold Qv at hl ⊢
 obtain ⟨k,hk,hv⟩:=Q2 hl
 rw [h _ (Qq hk),hk];exact hv
theorem Qnt {H G:af} (h:∀ x,x < H.length->ah G x=ah H x) {p:Addr} {n:Nat} {l:List Value} (hl:fQ H p n=some l):fQ G p n=some l:=by
 cases n with
 | zero=>exact hl
 | succ m=>exact Ww h hl
theorem Qtt {P:Program} {op:Op} {env:Env} {H G:af} (h:∀ x,x < H.length->ah G x=ah H x) {v:Value} (hl:c_ P op env H=some v):c_ P op env G=some v:=by
 unfold c_ at hl ⊢
 cases op with
 | load t x =>
  simp only at hl ⊢
  cases hg:A8 P t x with
  | some q=>rw [hg] at hl;exact hl
  | none =>
  rw [hg] at hl
  simp only at hl ⊢
  replace hl:=Q2 hl;obtain ⟨u,hu,hl⟩:=hl
  rw [hu];simp only [Q1]
  replace hl:=I1 hl;obtain ⟨p,rfl,hl⟩:=hl
  simp only [fj]
  replace hl:=Q2 hl;obtain ⟨i,hi,hl⟩:=hl
  rw [hi];simp only
  split at hl
  .replace hl:=Q2 hl;obtain ⟨l,h1,hl⟩:=hl
   rw [Ww h h1];exact hl
  .replace hl:=Q2 hl;obtain ⟨l,h1,hl⟩:=hl
   rw [Ww h h1];exact hl
  .exact Qqn h hl
  .simp at hl
 | convert s d x =>
  simp only at hl ⊢
  replace hl:=Q2 hl;obtain ⟨u,hu,hl⟩:=hl
  rw [hu];simp only [Q1]
  replace hl:=Q2 hl;obtain ⟨l,h1,hl⟩:=hl
  have:Qf G 1 u=some l:=by
   unfold Qf at h1 ⊢
   split at h1
   .exact h1
   .exact Qnt h h1
   .simp at h1
  rw [this];exact hl
 | _=>simp at hl
end
section
variable {X:Cx} {ops:Array Oper} {S:Nat->St} {ι₀:Io} {w₀:World} {L:Nat->Prop} {ι:Io} {G:af} {m:Nat} {a:Act} {w:World}
theorem Qxd {p:Nat->Bool} {N x:Nat} (hx:x∈(List.range N).filter p) (MZ:∀ y∈(List.range N).filter p,y<=x):∃ r,((List.range N).filter p).reverse=x::r:=by
 have hs:((List.range N).filter p).Pairwise (· < ·):=List.Pairwise.filter p List.pairwise_lt_range
 generalize (List.range N).filter p=l at hx MZ hs
 cases hl:l.reverse with
 | nil=>have:l=[]:=List.reverse_eq_nil_iff.1 hl;subst this;simp at hx
 | cons y r =>
  have e:l=r.reverse++[y]:=by rw [<- List.reverse_reverse l,hl];simp
  subst e
  have hy:=MZ y (by simp)
  rcases List.mem_append.1 hx with h1 | h1
  .have:=(List.pairwise_append.1 hs).2.2 x h1 y (by simp)
   omega
  .simp at h1;subst h1;exact ⟨r,rfl⟩
theorem Inv.vw (h:Inv X ops S ι₀ w₀ L ι G m a w) {i:Nat} {o:Oper} (hn:Next ops L i o) (hc:cN X.P ops i≠3):m∈HH X.P ops i:=by
 unfold HH
 simp only [List.mem_cons,List.mem_map]
 have CW:∀ e∈((List.range ops.size).filter fun e=>Nat.beq (cN X.P ops e) 3).filter fun e=>iN (Region.before ops) i e,e < m:=by
  intro e he
  simp only [List.mem_filter,List.mem_range] at he
  obtain ⟨⟨h1,h2⟩,h3⟩:=he
  exact (h.eo e h1 (Z7 h2)).1 (hn.Bv e h3)
 rcases h.last with hm | hm
 .subst hm
  left
  cases As:(((List.range ops.size).filter fun e=>Nat.beq (cN X.P ops e) 3).filter fun e=>iN (Region.before ops) i e).reverse with
  | nil=>rfl
  | cons e r =>
   have:e∈((List.range ops.size).filter fun e=>Nat.beq (cN X.P ops e) 3).filter fun e=>iN (Region.before ops) i e:=by
    rw [<- List.mem_reverse,As];simp
   have:=CW e this
   omega
 .by_cases h0:m=0
  .subst h0
   left
   cases As:(((List.range ops.size).filter fun e=>Nat.beq (cN X.P ops e) 3).filter fun e=>iN (Region.before ops) i e).reverse with
   | nil=>rfl
   | cons e r =>
    have:e∈((List.range ops.size).filter fun e=>Nat.beq (cN X.P ops e) 3).filter fun e=>iN (Region.before ops) i e:=by
     rw [<- List.mem_reverse,As];simp
    have:=CW e this
    omega
  .have EX:m - 1 < ops.size:=by have:=h.JV;omega
   have hL:L (m - 1):=(h.eo _ EX hm).2 (by omega)
   cases hb:iN (Region.before ops) i (m - 1) with
   | true =>
    left
    rw [List.filter_filter] at CW ⊢
    have kA:(m - 1)∈(List.range ops.size).filter fun e=>iN (Region.before ops) i e&&Nat.beq (cN X.P ops e) 3:=by
     simp only [List.mem_filter,List.mem_range,Z8]
     exact ⟨EX,hb,by rw [hm];rfl⟩
    obtain ⟨r,hr⟩:=Qxd kA (fun y hy=>by have:=CW y hy;omega)
    rw [hr]
    simp only;omega
   | false =>
    right
    refine ⟨m - 1,?_,by omega⟩
    simp only [List.mem_filter,List.mem_range]
    refine ⟨⟨EX,by rw [hm];rfl⟩,?_⟩
    have sM:iN (Region.before ops) (m - 1) i=false:=by
     cases hq:iN (Region.before ops) (m - 1) i with
     | false=>rfl
     | true=>exact absurd (h.down _ _ hL hq) hn.not
    have aV:Nat.beq (m - 1) i=false:=by
     cases hq:Nat.beq (m - 1) i with
     | false=>rfl
     | true=>exact absurd (Z7 hq▸hL) hn.not
    rw [hb,sM,aV];rfl
theorem bI.const (hr:bI X ops S) {lo:Nat}:∀ {hi:Nat},lo<=hi->hi<=ops.size->(∀ k,lo<=k->k < hi->cN X.P ops k < 2)->(S hi).H=(S lo).H
 | 0,h1,_,_=>by rw [Nat.le_zero.1 h1]
 | hi+1,h1,h2,h3=>by
  by_cases e:lo=hi+1
  .subst e;rfl
  .have ih:=hr.const (hi:=hi) (by omega) (by omega) fun k h4 h5=>h3 k h4 (by omega)
   have hc:=h3 hi (by omega) (by omega)
   rcases hr.quiet (i:=hi) (by omega) (by omega) with q | ⟨q,_⟩
   .rw [q,ih]
   .omega
def Wx (X:Cx) (ops:Array Oper) (i:Nat) (o:Oper) (m:Nat):Prop :=
 ∃ t k ok,PO o.op=some t/\m<=k/\k < i/\iN (Region.before ops) i k=true/\cN X.P ops k=2/\ops[k]? = some ok/\ok.guard=none/\ok.dst=some t/\∀ j,k < j->j < i->cN X.P ops j≠3/\ou ops j≠some t
def HX (X:Cx) (ops:Array Oper) (S:Nat->St):Prop :=
 ∀ i o,ops[i]? = some o->cN X.P ops i=1->∀ m∈HH X.P ops i,c_ X.P o.op (S i).env (S m).H=c_ X.P o.op (S i).env (S i).H\/Wx X ops i o m
theorem Inv.step (h:Inv X ops S ι₀ w₀ L ι G m a w) (hr:bI X ops S) (eF:HX X ops S) {i:Nat} {o:Oper} (hn:Next ops L i o) {K:Act->World->Prop} {Q:Exit->Act->World->Prop}
  (hK:∀ ι' G' m' a' w',Inv X ops S ι₀ w₀ (jZ L i) ι' G' m' a' w'->K a' w'):wpOp X.P ops Q i K a w:=by
 have hi:=oR hn.op
 have hs:=hr.step i o hn.op
 have cC:=MO (P:=X.P) hn.op
 have M0:=h.loc hr hn
 have hw:Region.wanted o (yielded ops a.tmps)=(S i).t:=hs.guard ι _ a ⟨M0.size,fun s bY v hv=>M0.get s (by rw [Qdm];exact List.mem_append.2 (.inr bY)) v hv⟩
 unfold wpOp
 rw [hn.op]
 simp only
 cases ht:(S i).t with
 | false =>
  rw [if_neg (by rw [hw,ht];simp)]
  have hv:=(hs.no ht).1
  by_cases EW:cN X.P ops i=3
  .exact hK _ _ _ _ _ (h.MT hr hn EW ht (c:=undef) fun D=>by rw [hv];exact I0 _ _)
  .exact hK _ _ _ _ _ (h.still hr hn EW (fun _=>ht) (c:=undef) (by rw [hv];exact I0 _ _))
 | true =>
  rw [if_pos (by rw [hw,ht])]
  left
  have hF:=hs.yes ht
  have hE:=h.EY hr hn
  unfold jS at hF
  split at hF
  .rename_i hc
   rw [hc] at cC
   obtain ⟨c,h1,h2⟩:=hF.2.run ι _ a w hE
   exact o6 h1 (hK _ _ _ _ _ (h.still hr hn (by omega) (fun e=>by omega) h2))
  .rename_i hc
   rw [hc] at cC
   obtain ⟨_,raw,hF⟩:=hF
   have h2:=hF.rd
   rw [Qdl] at h2
   have h3:c_ X.P o.op (S i).env G=some raw:=by
    rcases eF i o hn.op cC m (h.vw hn (by omega)) with h1 | ⟨t,k,ok,Au,Wy,Wz,hb,BV,dh,PY,WA,eE⟩
    .rw [h2] at h1
     exact Qtt (G:=G) h.old h1
    .have hL:=hn.Bv k hb
     have hsk:=hr.step k ok dh
     have htk:(S k).t=true:=by
      have WB:JU ops ok=[]:=by unfold JU;rw [PY]
      have RM:=hsk.guard (fun _=>⟨0,0,0⟩) (fun _=>True) a ⟨h.size,fun s bY=>by rw [WB] at bY;simp at bY⟩
      rw [<- RM];simp [Region.wanted,PY]
     have mR:=MO (P:=X.P) dh
     rw [BV] at mR
     have WC:=hsk.yes htk
     unfold jS at WC
     rw [<- mR] at WC
     obtain ⟨vs,mk,hvk,hHk,hAk⟩:=WC
     have hp:=h.ow k Wy (by omega) hL BV htk
     obtain ⟨P7,_⟩:=hr.wrote (q:=t) Wz (by omega) (by simp [ou,dh,WA]) (fun j h4 h5=>(eE j h4 h5).2)
     rw [hvk] at P7
     have hw2:cS (S i).env t=some (mk (S k).H.length):=by rw [hs.same];exact P7
     have hk:=hr.keep (m:=k+1) (i:=i) (by omega) (by omega) (fun j h4 h5=>(eE j (by omega) h5).1) (S k).H.length (by rw [hHk,Qy];omega)
     rw [Qtr Au hw2 (hAk.aH _) (hp.trans hk.symm)];exact h2
   rw [<- Qdl] at h3
   obtain ⟨c,g1,g2⟩:=hF.run ι _ a w G h3 h.rel hE
   exact o6 g1 (hK _ _ _ _ _ (h.still hr hn (by omega) (fun e=>by omega) g2))
  .rename_i hc
   rw [hc] at cC
   obtain ⟨vs,mk,hv,hH,hF⟩:=hF
   obtain ⟨cs,rest,eN,fz,w0,c,h1,h2,e1,e2,e3,e4,h3,h4⟩:=hF.run ι _ a w hE
   exact o6 h3 (hK _ _ _ _ _ (h.make hr hn cC ht (eN:=eN) hH h1 hF.cells h2 e1 e2 e3 e4 (by rw [hv];exact h4 _)))
  .rename_i h0 h1 h2
   have hle:=Qvq X.P o.op
   have hc:cN X.P ops i=3:=by
    rw [cC]
    have:gB X.P o.op=0\/gB X.P o.op=1\/gB X.P o.op=2\/gB X.P o.op=3:=by omega
    rcases this with e | e | e | e
    .exact absurd e h0
    .exact absurd e h1
    .exact absurd e h2
    .exact e
   exact hF.run ι a w (h.MU hr hn hc) (h.HV hr hn) K Q fun ι' w' c g1 g2 g3=>hK _ _ _ _ _ (h.eff hr hn hc g1 g2 g3)
theorem Inv.done (h:Inv X ops S ι₀ w₀ L ι G m a w) (hr:bI X ops S) (hall:∀ i,i < ops.size->L i) :
  Rel ι (aJ (S ops.size).H.length) (S ops.size).H w/\bw ι (aJ (S ops.size).H.length) X.nt (S ops.size).eg a/\Fr ι₀ (S 0).H w₀ ι (S ops.size).H w/\Ab X.ai (S 0).H (S ops.size).H/\a.defers=[]:=by
 obtain ⟨hE,fc,lq⟩:=hr.abs ops.size (Zd _)
 have eE:∀ k,m<=k->k < ops.size->cN X.P ops k≠3:=by
  intro k h1 h2 h3
  have:=(h.eo k h2 h3).1 (hall k h2)
  omega
 have ah:∀ x,x < (S ops.size).H.length->ah G x=ah (S ops.size).H x:=by
  intro x hx
  by_cases MS:x < (S m).H.length
  .rw [h.old x MS,hr.keep h.JV (Zd _) eE x MS]
  .obtain ⟨i,g1,g2,g3,g4,g5,g6⟩:=hr.made h.JV (Zd _) eE x (by omega) hx
   have:=h.ow i g1 g2 (hall i g2) g3 g4
   rw [<- g5] at this
   rw [this,g6]
 have hG:∀ {b:Nat} {k:bz},Ev.ah (S ops.size).H b=some k->Ev.ah G b=some k:=fun hb=>by rw [ah _ (Qq hb)];exact hb
 refine ⟨⟨fun b k hb=>?_,fun b b' k k' h1 h2=>h.rel.inj b b' k k' (hG h1) (hG h2),fun b k hb hr=>h.rel.iA b k (hG hb) hr,h.rel.gw⟩,⟨h.size,fun q v hv=>?_⟩,⟨by rw [<- h.len];exact h.fr.len,h.fr.io,h.fr.os,h.fr.tape,h.fr.output,h.fr.size,h.fr.frame,fun b k hb bh=>h.fr.new b k (hG hb) bh,fun b k hb bh=>h.fr.ro b k (hG hb) bh⟩,lq,h.defers⟩
 .exact (h.rel.aH b k (hG hb)).bx rfl rfl fun i hi c hv=>hv.re (fc b (Qq hb) k hb _ (List.getElem_mem hi)) fun _ _ _=>rfl
 .exact (h.env q ops.size (Zd _) (fun j hj _=>⟨fun _=>hj,fun _=>hall j hj⟩) v hv).re (hE q v hv) fun _ _ _=>rfl
def ri (listed:Array Bool) (j:Nat):Prop:=listed[j]? = some true
theorem Qic:∀ (l:List Bool) (i:Nat),l[i]? = some false->(l.set i true).count false+1=l.count false
 | [],i,h=>by simp at h
 | b::l,0,h=>by simp at h;subst h;simp
 | b::l,i+1,h=>by
  have:=Qic l i (by simpa using h)
  simp only [List.set_cons_succ,List.count_cons]
  omega
theorem Qid {listed:Array Bool} {i:Nat} (h:i∈Region.ready .any ops listed):∃ o,ops[i]? = some o/\listed.getD i true=false/\∀ e∈o.after.toList,Region.binds .any e=true->listed.getD e.on false=true:=by
 unfold Region.ready at h
 simp only [List.mem_filter,List.mem_range,Z8,Bool.not_eq_true'] at h
 obtain ⟨h1,h2,h3⟩:=h
 obtain ⟨o,ho⟩:=Ao h1
 rw [ho] at h3
 simp only [Option.map_some,Option.getD_some] at h3
 refine ⟨o,ho,h2,fun e he hb=>?_⟩
 have:=(Array.all_eq_true'.1 h3) e (by simpa using he)
 rw [hb] at this
 simpa using this
theorem Qtu {listed:Array Bool} {i:Nat} {o:Oper} (ho:ops[i]? = some o) (h2:listed.getD i true=false) (h3:∀ e∈o.after.toList,Region.binds .any e=true->listed.getD e.on false=true):i∈Region.ready .any ops listed:=by
 unfold Region.ready
 simp only [List.mem_filter,List.mem_range,Z8,Bool.not_eq_true']
 refine ⟨oR ho,h2,?_⟩
 rw [ho]
 simp only [Option.map_some,Option.getD_some]
 refine Array.all_eq_true'.2 fun e he=>?_
 cases hb:Region.binds .any e with
 | false=>simp
 | true=>simpa using h3 e (by simpa using he) hb
theorem Qnu {listed:Array Bool} {j:Nat} (h:listed.getD j false=true):ri listed j:=by
 unfold ri
 rw [Array.getD_eq_getD_getElem?] at h
 cases hj:listed[j]? with
 | none=>rw [hj] at h;simp at h
 | some b=>rw [hj] at h;simp at h;rw [h]
theorem Qnv (hr:bI X ops S) {listed:Array Bool} (bf:listed.size=ops.size) (kY:Region.ready .any ops listed=[]):∀ i,i < ops.size->ri listed i:=by
 intro i
 induction i using Nat.strongRecOn with
 | _ i ih =>
  intro hi
  cases hl:listed[i]? with
  | none=>rw [Array.getElem?_eq_getElem (by omega)] at hl;simp at hl
  | some b =>
   cases b with
   | true=>exact hl
   | false =>
    obtain ⟨o,ho⟩:=Ao hi
    have:i∈Region.ready .any ops listed:=Qtu ho (by rw [Array.getD_eq_getD_getElem?,hl];rfl) (fun e he hb=>by
     have au:=hr.MP ho e he hb
     have:=ih e.on au (by omega)
     unfold ri at this
     rw [Array.getD_eq_getD_getElem?,this];rfl)
    rw [kY] at this
    simp at this
theorem Qie (hr:bI X ops S) (eF:HX X ops S) {Q:Exit->Act->World->Prop}
  (hQ:∀ ι' a' w',Rel ι' (aJ (S ops.size).H.length) (S ops.size).H w'->bw ι' (aJ (S ops.size).H.length) X.nt (S ops.size).eg a'->Fr ι₀ (S 0).H w₀ ι' (S ops.size).H w'->Ab X.ai (S 0).H (S ops.size).H->a'.defers=[]->Q .normal a' w') :
  ∀ (fuel:Nat) (listed:Array Bool) (ι:Io) (G:af) (m:Nat) (a:Act) (w:World),listed.size=ops.size->listed.toList.count false=fuel->Inv X ops S ι₀ w₀ (ri listed) ι G m a w->wpAny X.P .any ops Q fuel listed a w:=by
 have fin:∀ (listed:Array Bool) (ι:Io) (G:af) (m:Nat) (a:Act) (w:World),listed.size=ops.size->Inv X ops S ι₀ w₀ (ri listed) ι G m a w->Region.ready .any ops listed=[]->Q .normal a w:=by
  intro listed ι G m a w bf h kY
  obtain ⟨h1,h2,h3,h4,h5⟩:=h.done hr (Qnv hr bf kY)
  exact hQ ι a w h1 h2 h3 h4 h5
 intro fuel
 induction fuel with
 | zero =>
  intro listed ι G m a w bf HY h
  have kY:Region.ready .any ops listed=[]:=by
   cases kY:Region.ready .any ops listed with
   | nil=>rfl
   | cons i r =>
    obtain ⟨o,ho,h2,_⟩:=Qid (ops:=ops) (listed:=listed) (i:=i) (by rw [kY];simp)
    have hi:=oR ho
    have:listed[i]? = some false:=by
     rw [Array.getD_eq_getD_getElem?,Array.getElem?_eq_getElem (by omega)] at h2
     rw [Array.getElem?_eq_getElem (by omega)]
     simpa using h2
    have kA:false∈listed.toList:=by rw [<- Array.getElem?_toList] at this;exact Zc this
    rw [List.count_eq_zero] at HY
    exact absurd kA HY
  exact ⟨kY,fin listed ι G m a w bf h kY⟩
 | succ fuel ih =>
  intro listed ι G m a w bf HY h
  refine ⟨fin listed ι G m a w bf h,fun i hi=>?_⟩
  obtain ⟨o,ho,h2,h3⟩:=Qid hi
  have aaf:=oR ho
  have hif:listed[i]? = some false:=by
   rw [Array.getD_eq_getD_getElem?,Array.getElem?_eq_getElem (by omega)] at h2
   rw [Array.getElem?_eq_getElem (by omega)]
   simpa using h2
  have hn:Next ops (ri listed) i o:=by
   refine ⟨ho,fun hL=>?_,fun k hb=>?_⟩
   .unfold ri at hL;rw [hif] at hL;simp at hL
   .obtain ⟨o',e,q_,he,M1,hk⟩:=Qtq hb
    rw [ho] at q_;simp at q_;subst q_
    have hL:=Qnu (h3 e he M1)
    rcases hk with rfl | hk
    .exact hL
    .exact h.down _ _ hL hk
  have Av:ri (listed.setIfInBounds i true)=jZ (ri listed) i:=by
   funext j
   apply propext
   unfold ri jZ
   rw [Array.getElem?_setIfInBounds]
   by_cases e:i=j
   .subst e;simp [show i < listed.size by omega]
   .rw [if_neg e]
    constructor
    .exact fun h=>.inl h
    .rintro (h | h)
     .exact h
     .exact absurd h.symm e
  refine h.step hr eF hn fun ι' G' m' a' w' h'=>ih _ ι' G' m' a' w' (by simpa using bf) ?_ (by rw [Av];exact h')
  have:=Qic listed.toList i (by rw [Array.getElem?_toList];exact hif)
  rw [Array.toList_setIfInBounds]
  omega
theorem Qqo (hr:bI X ops S) (hR:Rel ι₀ (aJ (S 0).H.length) (S 0).H w₀) (hE:bw ι₀ (aJ (S 0).H.length) X.nt (S 0).eg a) (hd:a.defers=[]) :
  Inv X ops S ι₀ w₀ (ri (Array.replicate ops.size false)) ι₀ ((S 0).H++List.replicate ((S ops.size).H.length - (S 0).H.length) none) 0 a w₀:=by
 have hL:∀ j,¬ ri (Array.replicate ops.size false) j:=by
  intro j h
  unfold ri at h
  rw [Array.getElem?_replicate] at h
  split at h<;>simp at h
 have hle:=hr.bS (m:=0) (i:=ops.size) (by omega) (Zd _)
 have ku:∀ x,aJ (S 0).H.length x->gW X ops S 0 (ri (Array.replicate ops.size false)) x:=fun x hx=>.inl hx
 have ah:∀ {x:Nat} {k:bz},Ev.ah ((S 0).H++List.replicate ((S ops.size).H.length - (S 0).H.length) none) x=some k->Ev.ah (S 0).H x=some k:=by
  intro x k hk
  by_cases hx:x < (S 0).H.length
  .rw [FG hx] at hk;exact hk
  .unfold Ev.ah at hk
   rw [Zq (by omega),List.getElem?_replicate] at hk
   split at hk
   .rename_i h1;split at h1<;>simp at h1
   .simp at hk
 refine ⟨by omega,fun e _ _=>⟨fun h=>absurd h (hL e),fun h=>by omega⟩,.inl rfl,fun j i h=>absurd h (hL j),fun j h=>absurd h (hL j),by simp;omega,fun x hx=>FG hx,fun i _ _ h=>absurd h (hL i),fun x h1 h2 _=>?_,
  ⟨fun b k hk=>((hR.aH b k (ah hk)).bx rfl rfl fun _ _ _ hv=>hv.mono ku fun _ _=>rfl),fun b b' k k' h1 h2=>hR.inj b b' k k' (ah h1) (ah h2),fun b k hb hr=>hR.iA b k (ah hb) hr,hR.gw⟩,⟨by simp,fun _ _=>rfl,rfl,rfl,rfl,Zd _,fun _ _ _=>rfl,fun b k hk bh=>.inr ⟨b,k,ah hk,bh,rfl⟩,fun b k hk _=>ah hk⟩,
  hE.size,fun q i hi dc v hv=>?_,hd⟩
 .rw [Zq h1,List.getElem?_replicate,if_pos (by omega)]
 .have eE:∀ j,0<=j->j < i->ou ops j≠some q:=fun j _ hj oI=>hL j ((dc j (by omega) oI).2 hj)
  rw [hr.look (by omega) hi eE] at hv
  exact (hE.get q v hv).mono ku fun _ _=>rfl
end
section
variable {X:Cx}
theorem WD (hX:o5 X.P X.call) {β:Type} {r:β} {ops:Array Oper} {K:List (Env×af)->Env->af->Option β}:∀ (l:List Oper) (env:Env) (H:af) (tr:List (Env×af)),Al X ops l env H tr K=some r->dM (aJ H.length) env->Ql H.length H ->
  ∃ EZ ak H',K EZ ak H'=some r/\dM (aJ H'.length) ak/\Ql H'.length H'/\Ab X.ai H H'
 | [],env,H,tr,h,hE,hc=>⟨_,env,H,h,hE,hc,Ab.refl _ _⟩
 | o::l,env,H,tr,h,hE,hc=>by
  unfold Al at h
  obtain ⟨t,f_,h,hw⟩:=R8 (nt:=X.nt) h
  have vS:=hw.lt _ hE
  cases t with
  | true =>
   simp only at h
   obtain ⟨v,H',h,hF⟩:=RZ hX h
   obtain ⟨lq,I6⟩:=OP hF vS hc
   obtain ⟨cc,h,hp⟩:=DI h
   obtain ⟨EZ,ak,H2,g1,g2,g3,g4⟩:=WD hX l cc H' _ h (KU (vS.mono (aJ.mono lq.len)) I6 hp) (lq.all hc)
   exact ⟨EZ,ak,H2,g1,g2,g3,lq.trans g4⟩
  | false =>
   simp only at h
   obtain ⟨cc,h,hp⟩:=DI h
   exact WD hX l cc H _ h (KU vS (KI _) hp) hc
theorem WE (hX:o5 X.P X.call):P0 X:=by
 intro β ops env H K r h hE hc
 unfold HK at h
 split at h
 .obtain ⟨EZ,ak,H',h1,h2,h3,h4⟩:=WD hX _ _ _ _ h hE hc
  exact ⟨ak,H',(P4 h1).1,h2,h3,h4⟩
 .simp at h
theorem WG (hX:o5 X.P X.call) (hm:X.P.follows .mixedOrders=true):PZ X:=by
 intro β id ops env H K r h ι a w hR hE hd Q hQ
 unfold HK at h
 split at h
 .rename_i dh
  obtain ⟨S,g1,g2,g3,g4,g5⟩:=Qa4 hX _ _ _ _ h
  obtain ⟨g6,g7⟩:=P4 g5
  have hN:ops.toList.length=ops.size:=by simp
  rw [hN] at g3 g6 g7
  have hr:bI X ops S:=⟨fun k o hk=>g4 k o (by rw [Array.getElem?_toList];exact hk),dh,by rw [g1,g2];exact hE.lt,by rw [g2];exact hR.closed⟩
  have M3:∀ k,k<=ops.size->((((List.range (ops.size+1)).map fun k=>((S k).env,(S k).H)).reverse++[]).reverse)[k]? = some ((S k).env,(S k).H):=by
   intro k hk
   simp only [List.append_nil,List.reverse_reverse,List.getElem?_map]
   rw [List.getElem?_range (by omega)];rfl
  have eF:HX X ops S:=by
   intro i o ho hc m aE
   have hi:=oR ho
   have CV:m<=ops.size:=by
    unfold HH at aE
    simp only [List.mem_cons,List.mem_map] at aE
    rcases aE with e | ⟨e,he,rfl⟩
    .split at e
     .rename_i e' r As
      have:e'∈(((List.range ops.size).filter fun e=>Nat.beq (cN X.P ops e) 3).filter fun e=>iN (Region.before ops) i e):=by
       rw [<- List.mem_reverse,As];simp
      simp only [List.mem_filter,List.mem_range] at this
      omega
     .omega
    .simp only [List.mem_filter,List.mem_range] at he
     omega
   rcases g7 i (by simp;exact hi) hc o ho m aE with hq | ⟨s,q,hs,hq,kY⟩
   .rcases Bool.or_eq_true_iff.1 hq with hq | hq
    rotate_left
    .right
     unfold JO at hq
     split at hq
     .rename_i t ht
      simp only [List.any_eq_true,List.mem_range,Z8,List.all_eq_true,Bool.or_eq_true,Bool.not_eq_true'] at hq
      obtain ⟨k,Wz,⟨⟨⟨h1,h2⟩,h3⟩,h4⟩,h6⟩:=hq
      cases dh:ops[k]? with
      | none=>rw [dh] at h4;simp at h4
      | some ok =>
       rw [dh] at h4
       simp only [Z8,Option.isNone_iff_eq_none] at h4
       obtain ⟨h4,h5⟩:=h4
       cases hd:ok.dst with
       | none=>rw [hd] at h5;simp at h5
       | some d =>
        rw [hd] at h5
        have h5:=Z7 h5
        refine ⟨t,k,ok,ht,Zi h1,Wz,h2,Z7 h3,dh,h4,by rw [hd,h5],fun j Vp vf=>?_⟩
        rcases h6 j vf with h7 | ⟨h7,h8⟩
        .have:=Zi h7;omega
        .refine ⟨fun P8=>?_,fun P8=>?_⟩
         .rw [P8] at h7;simp at h7
         .unfold ou at P8;rw [P8] at h8;simp at h8
     .simp at hq
    left
    have Aw:∀ k,min m i<=k->k < max m i->cN X.P ops k < 2:=by
     intro k h1 h2
     by_cases hk:k < ops.size
     .unfold JN at hq
      simp only [List.all_eq_true,List.mem_range] at hq
      have:=hq k hk
      have e1:Nat.ble (min m i) k=true:=Nat.ble_eq_true_of_le h1
      have e2:Nat.blt k (max m i)=true:=by simp [Nat.blt];omega
      rw [e1,e2] at this
      simp only [Bool.and_self,Zl,Bool.false_or] at this
      have h3:cN X.P ops k+1<=2:=by simpa [Nat.blt] using this
      omega
     .rw [Qts hk];omega
    have hH:(S m).H=(S i).H:=by
     rcases Nat.le_total m i with hle | hle
     .exact (hr.const (lo:=m) (hi:=i) hle (by omega) (fun k h1 h2=>Aw k (by omega) (by omega))).symm
     .exact hr.const (lo:=i) (hi:=m) hle CV (fun k h1 h2=>Aw k (by omega) (by omega))
    rw [hH]
   .rw [M3 i (by omega)] at hs
    rw [M3 m CV] at hq
    simp at hs hq
    subst hs;subst hq
    exact .inl kY
  refine wp_region_any hm ?_
  have Sa:Rel ι (aJ (S 0).H.length) (S 0).H { w with drawn:=w.drawn+1 }:=by rw [g2];exact hR.bq rfl
  have Wk:bw ι (aJ (S 0).H.length) X.nt (S 0).eg a:=by rw [g1,g2];exact hE
  have HZ:=Qqo hr Sa Wk hd
  refine Qie hr eF (Q:=Q) ?_ ops.size _ _ _ _ _ _ (by simp) (by simp) HZ
  intro ι' a' w' h1 h2 h3 h4 h5
  refine hQ (S ops.size).eg ι' (S ops.size).H a' w' h1 h2 ?_ (by rw [<- g2];exact h4) h5 g6
  rw [g2] at h3
  exact ((Fr.refl ι H w).bq (w'':={ w with drawn:=w.drawn+1 }) rfl rfl rfl rfl).trans h3
 .simp at h
end
theorem Qqp {P:Program} {A:CP} (hm:P.follows .mixedOrders=true) (hA:P2 P A) (d:Nat):o5 P (run P A d) :=
 Qvo hA (fun X hP hc=>⟨WG (by rw [hP];exact hc) (by rw [hP];exact hm),WE (by rw [hP];exact hc)⟩) d
end Go.Ev
