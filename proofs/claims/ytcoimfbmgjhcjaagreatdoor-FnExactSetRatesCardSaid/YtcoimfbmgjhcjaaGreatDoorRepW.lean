/-
  Code: the interpreter by value agrees with the first one, loops and all. And what stood behind it in 15 texts.
  Conditions: said at the theorems.
-/
import Derived.Test.YtcoimfbmgjhcjaaGreatDoorVLoop2
import Derived.Test.YtcoimfbmgjhcjaaGreatDoorVRel
import Derived.Test.YtcoimfbmgjhcjaaGreatDoorOpB
import Derived.Lib.LaidTab
import Derived.Attr
import Derived.IntWalk
import Derived.Sort.Grow
import Derived.Deep.Draws
import Derived.Lib.ItoaNum
import Derived.Below
import Derived.Lib.Repeat
import Derived.Lib.LastIndexByte
import Derived.Shelf.LaysM
import Derived.Ground.NamesProg
import Derived.Test.YtcoimfbmgjhcjaaGreatDoorProg
import Derived.WalkKit
import Derived.Shelf.Strconv.Itoa3
import Derived.Shelf.Abstract
import Derived.KernelRfl
import Derived.Shelf.Lays
import Derived.Shelf.Strings.Repeat
set_option linter.all false
namespace Go.Pv
open Go.Ev
theorem Ve {env:bA}:∀ {keep:List (Nat×Value)} {cX:bA},G6 env keep=some cX->(∀ k∈keep,∃ p,dx env k.1=some p)/\(∀ q p,dx cX q=some p->dx env q=some p/\q∈keep.map (·.1))/\∀ q∈keep.map (·.1),dx cX q=dx env q
 | [],cX,h=>by simp [G6] at h;subst h;simp [dx]
 | (q,t)::keep,cX,h=>by
  simp only [G6] at h
  replace h:=ob h;obtain ⟨p,h1,h⟩:=h
  replace h:=ob h;obtain ⟨e,h2,h⟩:=h
  simp at h;subst h
  obtain ⟨a1,a2,a3⟩:=Ve h2
  refine ⟨fun k hk=>?_,fun q' p' hp=>?_,fun q' hq=>?_⟩
  .rcases Z2 hk with rfl | hk
   .exact ⟨p,h1⟩
   .exact a1 k hk
  .simp only [dx] at hp
   cases hb:Nat.beq q q' with
   | true =>
    rw [hb] at hp;injection hp with hp;subst hp
    rw [<- Z7 hb];exact ⟨h1,by simp⟩
   | false=>rw [hb] at hp;obtain ⟨b1,b2⟩:=a2 q' p' hp;exact ⟨b1,by simp only [List.map_cons,List.mem_cons];exact .inr b2⟩
  .simp only [dx]
   cases hb:Nat.beq q q' with
   | true=>rw [<- Z7 hb];exact h1.symm
   | false =>
    simp only [List.map_cons,List.mem_cons] at hq
    rcases hq with rfl | hq
    .rw [Nat.beq_refl] at hb;simp at hb
    .exact a3 q' hq
theorem Vf {e:Env} {val:Nat->Value}:∀ {keep:List (Nat×Value)},(∀ k∈keep,cO e k.1=some (val k.1))->uP e keep=some (keep.map fun k=>val k.1)
 | [],_=>rfl
 | (q,t)::keep,h=>by
  have ih:=Vf (e:=e) (val:=val) (keep:=keep) (fun k hk=>h k (List.mem_cons_of_mem _ hk))
  simp only [uP,h (q,t) (by simp),Q1,ih,List.map_cons]
def Jb (val:Nat->Value) (keep:List (Nat×Value)):Env:=keep.map fun k=>(k.1,val k.1)
theorem OZ {val:Nat->Value}:∀ {keep:List (Nat×Value)} (q:Nat),cO (Jb val keep) q=if q∈keep.map (·.1) then some (val q) else none
 | [],q=>by simp [Jb,cO]
 | (k,t)::keep,q=>by
  simp only [Jb,List.map_cons,cO]
  cases hb:Nat.beq k q with
  | true=>have:=Z7 hb;subst this;simp
  | false =>
   have aV:q≠k:=fun e=>by subst e;rw [Nat.beq_refl] at hb;simp at hb
   have:=OZ (val:=val) (keep:=keep) q
   simp only [Jb] at this
   simp only [this,List.mem_cons,aV,false_or]
theorem Q8e {β:Type} {s:S} {env:bA} {val:Nat->Value} (hr:∀ q p,dx env q=some p->ER s p (val q)):∀ {keep:List (Nat×Value)} {K:Env->Option β},LQ env keep=true->A4 keep (keep.map fun k=>val k.1) K=K (Jb val keep)
 | [],K,_=>rfl
 | (q,t)::keep,K,h=>by
  simp only [LQ,Z8] at h
  obtain ⟨h1,h2⟩:=h
  simp only [A4,List.map_cons,zJ]
  cases hp:dx env q with
  | none=>rw [hp] at h1;simp at h1
  | some p =>
   rw [hp] at h1
   simp only at h1
   have hER:=hr q p hp
   have hAR:AR s p (val q):=by
    cases p with
    | ki cs=>rw [Qe4] at h1;simp at h1
    | _=>exact hER
   rw [Ef hAR h1,Q8e hr h2]
   rfl
theorem O0 {L:LS} {ids:List Nat} (h:LR L ids=true):∀ b∈ids,∃ B,Qi L b=some B/\B.rw=true:=by
 intro b hb
 have:=Z3 h b hb
 split at this
 .rename_i v bo hB;exact ⟨_,hB,rfl⟩
 .simp at this
section
variable {A:cI} {β γ:Type} {X:mO A β} {XE:Cx} {r:β} {Q:γ->Prop}
def EOk (W:List Nat) (cX:bA) (e0:Env) (s:S) (r:β) (KV:eF->bA->LS->Option β) (KE:eF->Env->af->Option γ) (Q:γ->Prop):Prop :=
 ∀ ex env e s',aj s s'->aD s'->cF s' env e->fG W cX env e0 e->KV ex env s'.L=some r->∃ y,KE ex e s'.H=some y/\Q y
def Qva (X:mO A β) (XE:Cx) (r:β) (Q:γ->Prop) (c:Code) (n:Nat):Prop :=
 ∀ (s:S) (env:bA) (e:Env) (KV:eF->bA->LS->Option β) (KE:eF->Env->af->Option γ),s.ai=XE.ai->aD s->cF s env e->EOk (gu c) env e s r KV KE Q->iL X c n env s.L KV=some r->∃ y,eW XE c n e s.H KE=some y/\Q y
theorem Qt5 {c:Code} {n:Nat} (hX:B_ X XE) (ihc:Qva X XE r Q c (n+1)) {s:S} {env:bA} {e:Env} {KV:eF->bA->LS->Option β} {KE:eF->Env->af->Option γ} (aH:s.ai=XE.ai) (hs:aD s) (he:cF s env e) (hK:EOk (gu c) env e s r KV KE Q)
  (h:iL X (.loop c) n env s.L KV=some r):∃ y,eW XE (.loop c) n e s.H KE=some y/\Q y:=by
 simp only [iL] at h
 simp only [eW]
 rw [<- hX.cP]
 replace h:=ob h;obtain ⟨cX,h1,h⟩:=h
 replace h:=ob h;obtain ⟨⟨iM,ids,L1⟩,h2,h⟩:=h
 simp only at h
 split at h
 .rename_i LU hnd
  simp only [Z8] at LU
  obtain ⟨nJ,sg⟩:=LU
  have hnd:=Qc2 hnd
  replace h:=ob h;obtain ⟨st0,h3,h⟩:=h
  obtain ⟨kg1,O1,kg3⟩:=Ve h1
  let uV:Nat->Value:=fun q=>(cO e q).getD undef
  have hval0:∀ q w,cO e q=some w->uV q=w:=fun q w hq=>by simp [uV,hq]
  have IN:∀ k∈X.eX n,cO e k.1=some (uV k.1):=fun k hk=>by
   obtain ⟨p,hp⟩:=kg1 k hk
   obtain ⟨w,hw,_⟩:=he.get hp
   rw [hval0 _ _ hw];exact hw
  rw [Vf IN];simp only [Q1]
  obtain ⟨sf,lf,gf,uf,kf,tf⟩:=Qfq (env:=env) (l:=(X.cP n).fzs) hs
  rw [<- lf] at h2
  obtain ⟨s1,v1,v2,an,js,hv,hv1,l1,g1,k1,t1,sr1,Ca,bd1,Vg⟩:=Qds hval0 tf (kf.env he) h2
  have Cb:aj s s1:=kf.trans k1
  have oq:s1.ai=s.ai:=Cb.ai
  have IU:sf.ai=s.ai:=kf.ai
  rw [<- l1] at h Vg
  have G7:∀ k∈X.eX n,k.1∉(X.cP n).bI.map (·.1)->k.1∉gu c:=by
   intro k hk Jc hw
   simp only [Vh,Z8] at sg
   have:=Z3 sg.1 k hk
   simp only [Bool.or_eq_true,Bool.not_eq_true'] at this
   rcases this with h | h
   .obtain ⟨x,hx,rT⟩:=List.any_eq_true.1 h
    exact Jc (List.mem_map.2 ⟨x,hx,Z7 rT⟩)
   .exact Cc h hw
  have LV:=O0 Vg
  have G8:∀ q∈(X.cP n).bI.map (·.1),q∈gu c:=by
   intro q hq
   simp only [Vh,Z8] at sg
   obtain ⟨x,hx,rfl⟩:=List.mem_map.1 hq
   exact List.contains_iff_mem.1 (Z3 sg.2 x hx)
  have G9:∀ q∈(X.cP n).bI.map (·.1),q∈(X.eX n).map (·.1):=by
   intro q hq
   obtain ⟨x,hx,rfl⟩:=List.mem_map.1 hq
   have:=Z3 nJ x hx
   obtain ⟨k,hk,zE⟩:=List.any_eq_true.1 this
   exact List.mem_map.2 ⟨k,hk,Z7 zE⟩
  have Vi:∀ q p,q∉(X.cP n).bI.map (·.1)->dx cX q=some p->ER s1 p (uV q):=by
   intro q p _ hp
   obtain ⟨b1,_⟩:=O1 q p hp
   obtain ⟨w,hw,hr⟩:=he.get b1
   rw [hval0 q w hw];exact Cb.ER hr
  have main:∀ (fuel:Nat) (st:ji (X.cP n).zN) (T:S) (val:Nat->Value) (an js:List (List Nat)) (v1 v2:List TV),aD T->aj s1 T->(∀ b B,b∉ids->Qi s1.L b=some B->Qi T.L b=some B)->(∀ b∈ids,∃ B,Qi T.L b=some B/\B.rw=true) ->
    fc (X.cP n).zN st=v1++v2->v1.length=(X.cP n).bI.length->SR T s.ai val (X.cP n).bI v1 an->(an.flatten++js.flatten).Nodup->qA T s.ai ids (X.cP n).Eg.length v2 js->(∀ k∈X.eX n,k.1∉(X.cP n).bI.map (·.1)->val k.1=uV k.1) ->
    Q8 (fun again s=>Q1 (sj ids (X.cP n).Eg.length ((fc (X.cP n).zN s).drop (X.cP n).bI.length) s1.L) fun L0=>Q1 (G_ ids (X.cP n).Eg.length ((fc (X.cP n).zN s).drop (X.cP n).bI.length) L0) fun L1 =>
     Q1 (He (X.cP n).bI ((fc (X.cP n).zN s).take (X.cP n).bI.length) cX L1) fun i =>
     match LQ i.1 (X.eX n) with
     | true=>iL X c (n+1) i.1 i.2 fun ex ak L'=>match ex with
      | .normal=>Q1 (G6 ak (X.eX n)) fun _=>Q1 (LW (X.cP n) ak L') fun r'=>match Hf r'.2.1 ids,A_ ids 0 s1.L.bl r'.2.2.bl with
       | true,true=>Q1 (mG (X.cP n).zN r'.1) fun s'=>again s'
       | _,_=>none
      | .exit id=>KV (.exit id) ak L'
      | .ret=>KV .ret ak L'
     | false=>none) fuel st=some r ->
    ∃ y,B6 (fun again vs H=>A4 (X.eX n) vs fun env=>eW XE c (n+1) env H fun ex ak H'=>match ex with
     | .normal=>Q1 (uP ak (X.eX n)) fun cz=>again cz H'
     | .exit id=>KE (.exit id) ak H'
     | .ret=>KE .ret ak H') fuel ((X.eX n).map fun k=>val k.1) T.H=some y/\Q y:=by
   clear h
   intro fuel
   induction fuel with
   | zero=>intro st T val an js v1 v2 _ _ _ _ _ _ _ _ _ _ h;simp [Q8] at h
   | succ fuel ih =>
    intro st T val an js v1 v2 hT hkT dy cL Jd hlen hsr Cd LX hinv h
    simp only [Q8] at h
    simp only [B6]
    rw [Jd,List.drop_append_of_le_length (by omega),List.drop_of_length_le (by omega),List.nil_append,List.take_append_of_le_length (by omega),Zs (by omega)] at h
    replace h:=ob h;obtain ⟨L2,h4,h⟩:=h
    replace h:=ob h;obtain ⟨L2',kG,h⟩:=h
    replace h:=ob h;obtain ⟨⟨fQ,L3⟩,h5,h⟩:=h
    simp only at h
    rw [Zn] at Cd
    obtain ⟨Cd,Vj,Vk⟩:=Cd
    obtain ⟨sX,x1,x2,x3,x4,x5,x6⟩:=Qzm t1 hT hkT hnd dy cL oq LX h4 (bq:=an.flatten++js.flatten) (fun z hz=>(List.mem_append.1 hz).elim (hsr.ai z) (LX.ai z))
    rw [<- x1] at kG
    obtain ⟨sB,e1,y2,y3,t2,y5,y6⟩:=Qa1 (T:=T) x4 (by rw [x3.ai,oq];exact LX) (fun b hb=>by
     obtain ⟨B,q1,_⟩:=LV b hb
     have au:=Qn q1
     exact ⟨Zm au x3.nb,by rw [x3.mu b au,hkT.mu b au]⟩) x2 x6 (fun z hz=>x5 z (List.mem_append.2 (.inr hz))) Vj kG
    have e2:sB.H=T.H:=y2.trans x2
    have k2:aj s1 sB:=x3.trans y3
    have O2:∀ z∈an.flatten,sB.aF z:=fun z hz=>y6 z (x5 z (List.mem_append.2 (.inl hz))) (fun hm=>Vk z hz z hm rfl)
    have n2:∀ z,T.N z->sB.N z:=fun z hz=>y5 z (x6 z hz)
    rw [<- e1] at h5
    have Vl:SR sB sB.ai val (X.cP n).bI v1 an:=by
     rw [k2.ai,oq]
     have:∀ {l:List (Nat×Bool×Ty)} {vs:List TV} {an:List (List Nat)},SR T s.ai val l vs an->(∀ z∈an.flatten,sB.aF z)->SR sB s.ai val l vs an:=by
      intro l
      induction l with
      | nil=>intro vs an h _;cases vs<;>cases an<;>simp_all [SR]
      | cons x l ih =>
       intro vs an h hL
       obtain ⟨q,o,t⟩:=x
       match vs,an,h with
       | v::vs,i::an,h=>exact ⟨h.1.frame (fun z hz au=>⟨n2 z hz,by rw [e2]⟩) (fun z _=>by rw [e2]),fun z hz=>hL z (by simp [hz]),ih h.2.2 (fun z hz=>hL z (by simp at hz ⊢;exact .inr hz))⟩
     exact this hsr O2
    have Vm:∀ q p,q∉(X.cP n).bI.map (·.1)->dx cX q=some p->ER sB p (val q):=by
     intro q p hq hp
     have jR:=(O1 q p hp).2
     obtain ⟨k,hk,rfl⟩:=List.mem_map.1 jR
     rw [hinv k hk hq];exact k2.ER (Vi k.1 p hq hp)
    obtain ⟨s3,a1,a2,a3,a4,a5,a6,a7⟩:=Qc4 t2 Vl Cd Vm h5
    split at h
    .rename_i cr
     rw [Q8e a5 cr]
     have Vn:cF s3 fQ (Jb val (X.eX n)):=by
      intro q
      rw [OZ]
      cases hp:dx fQ q with
      | none =>
       simp only
       by_cases hq:q∈(X.cP n).bI.map (·.1)
       .obtain ⟨p,zO⟩:=a7 q hq;rw [hp] at zO;simp at zO
       .rw [a6 q hq] at hp
        split
        .rename_i hm
         rw [kg3 q hm] at hp
         obtain ⟨k,hk,rfl⟩:=List.mem_map.1 hm
         obtain ⟨p,zO⟩:=kg1 k hk
         rw [hp] at zO;simp at zO
        .rfl
      | some p =>
       simp only
       have hm:q∈(X.eX n).map (·.1):=by
        by_cases hq:q∈(X.cP n).bI.map (·.1)
        .exact G9 q hq
        .rw [a6 q hq] at hp;exact (O1 q p hp).2
       rw [if_pos hm]
       exact ⟨val q,rfl,a5 q p hp⟩
     have hH3:s3.H=T.H:=a2.trans e2
     rw [<- hH3]
     rw [<- a1] at h
     have hl3:s3.ai=XE.ai:=by rw [a3.ai,k2.ai,oq];exact aH
     refine ihc _ _ _ _ _ hl3 a4 Vn (fun ex ak e' s4 k4 t4 O3 hu4 h=>?_) h
     have Ce:aj s1 s4:=(k2.trans a3).trans k4
     have Eh:fG (gu c) env ak e e':=by
      intro q hq
      rcases hu4 q hq with h6 | ⟨h6,h7⟩
      .exact .inl h6
      .have hqs:q∉(X.cP n).bI.map (·.1):=fun hm=>hq (G8 q hm)
       rw [a6 q hqs] at h6
       cases hp:dx cX q with
       | none=>rw [hp] at h6;exact .inl h6
       | some p =>
        obtain ⟨c1,c2⟩:=O1 q p hp
        right
        refine ⟨by rw [h6,hp,c1],?_⟩
        rw [h7,OZ,if_pos c2]
        obtain ⟨k,hk,rfl⟩:=List.mem_map.1 c2
        rw [hinv k hk hqs,IN k hk]
     cases ex with
     | normal =>
      simp only at h ⊢
      replace h:=ob h;obtain ⟨b_,h6,h⟩:=h
      replace h:=ob h;obtain ⟨⟨aae,LY,L4⟩,h7,h⟩:=h
      simp only at h
      obtain ⟨kh1,kh2,kh3⟩:=Ve h6
      let Cg:Nat->Value:=fun q=>(cO e' q).getD undef
      have zP:∀ q w,cO e' q=some w->Cg q=w:=fun q w hq=>by simp [Cg,hq]
      have cW:∀ k∈X.eX n,cO e' k.1=some (Cg k.1):=fun k hk=>by
       obtain ⟨p,hp⟩:=kh1 k hk
       obtain ⟨w,hw,_⟩:=O3.get hp
       rw [zP _ _ hw];exact hw
      rw [Vf cW];simp only [Q1]
      obtain ⟨s5,w1,w2,LZ,js',hw,O4,m1,m2,m3,m4,m5,m6,m7,m8⟩:=Qds zP t4 O3 h7
      split at h
      .rename_i Vo hsb
       have Vo:=Qdt Vo
       subst Vo
       replace h:=ob h;obtain ⟨st',h8,h⟩:=h
       have L5:aj s1 s5:=Ce.trans m3
       rw [<- m1] at hsb m8
       have hl4:s4.ai=s.ai:=Ce.ai.trans oq
       have:=ih st' s5 Cg LZ js' w1 w2 m4 L5 (fun b B hb hB=>by
        obtain ⟨B',q1,q2⟩:=Vp hsb b B (Qqt.1 hB) (by simpa using hb)
        have q1':=Qqt.2 q1
        obtain ⟨B0,p1,p2,p3⟩:=L5.live b B' (Qn hB) q1'
        rw [hB] at p1;injection p1 with p1;subst p1
        obtain ⟨p4,_⟩:=p3 q2
        rw [q1',p4]) (O0 m8) (by rw [L6 _ h8];exact hw) O4 (by rw [<- hl4];exact m5) m6 (by rw [<- hl4];exact m7) (fun k hk Jc=>by
        have hqw:=G7 k hk Jc
        rcases hu4 k.1 hqw with h9 | ⟨h9,Lb⟩
        .obtain ⟨p,hp⟩:=kh1 k hk
         rw [hp] at h9;simp at h9
        .rw [OZ,if_pos (List.mem_map.2 ⟨k,hk,rfl⟩)] at Lb
         rw [zP _ _ Lb];exact hinv k hk Jc) h
       rw [m2] at this;exact this
      .simp at h
     | exit id=>exact hK (.exit id) ak e' s4 (Cb.trans Ce) t4 O3 Eh h
     | ret=>exact hK .ret ak e' s4 (Cb.trans Ce) t4 O3 Eh h
    .simp at h
  have:=main A.fuel st0 s1 uV an js v1 v2 t1 (aj.refl s1) (fun b B _ h=>h) (O0 Vg) (by rw [L6 _ h3];exact hv) hv1 (by rw [<- IU];exact sr1) Ca (by rw [<- IU];exact bd1) (fun _ _ _=>rfl) h
  rw [hX.fuel]
  rw [g1,gf] at this;exact this
 .simp at h
theorem Vq {ops:Array Oper} {o:Oper} (h:o∈ops.toList) {d:Nat} (hd:o.dst=some d):d∈Qrg ops :=
 List.mem_filterMap.2 ⟨o,h,hd⟩
theorem Qws {W:List Nat} {s:S} {env:bA} {e:Env} {c:Operand} {b:Bool} (he:cF s env e) (hv:ez env c=some (.bool b)) (hW:∀ d,c=.tmp d->d∈W):cF s (O5 c b env) (D9 c b e)/\fG W env (O5 c b env) e (D9 c b e):=by
 cases c with
 | tmp d=>exact ⟨he.cons (p:=.bool b) rfl,fG.cons (hW d rfl)⟩
 | _=>exact ⟨he,fG.refl _ _ _⟩
theorem Ei (hX:B_ X XE):∀ (c:Code) (n:Nat),Qva X XE r Q c n
 | .skip,n=>fun s env e KV KE aH hs he hK h=>hK .normal _ _ _ (aj.refl _) hs he (fG.refl _ _ _) (by simpa only [iL] using h)
 | .label l,n=>fun s env e KV KE aH hs he hK h=>hK .normal _ _ _ (aj.refl _) hs he (fG.refl _ _ _) (by simpa only [iL] using h)
 | .exit id,n=>fun s env e KV KE aH hs he hK h=>hK (.exit id) _ _ _ (aj.refl _) hs he (fG.refl _ _ _) (by simpa only [iL] using h)
 | .ret,n=>fun s env e KV KE aH hs he hK h=>hK .ret _ _ _ (aj.refl _) hs he (fG.refl _ _ _) (by simpa only [iL] using h)
 | .region id ops d,n=>fun s env e KV KE aH hs he hK h=>by
  simp only [iL] at h
  simp only [eW]
  have hW:∀ (j:Nat) (d':Nat),(ops[j]?).bind (fun (x:Oper)=>x.dst)=some d'->d'∈gu (.region id ops d):=by
   intro j d' hj
   cases ho:ops[j]? with
   | none=>rw [ho] at hj;simp at hj
   | some o=>rw [ho] at hj;exact Vq (by have:=Array.mem_of_getElem? ho;simpa using this) (by simpa using hj)
  cases d with
  | false=>exact Vr hX hW env e (fun o ho d hd=>Vq ho hd) aH hs he (fG.refl _ _ _) (fun ak e' s' k' t' gA dw h=>hK .normal ak e' s' k' t' gA dw h) h
  | true=>exact Qqr hX hW (fun o ho d hd=>Vq ho hd) aH hs he (fun ak e' s' k' t' gA dw h=>hK .normal ak e' s' k' t' gA dw h) h
 | .seq a b,n=>fun s env e KV KE aH hs he hK h=>by
  simp only [iL] at h
  simp only [eW]
  have L7:∀ q,q∈gu a->q∈gu (.seq a b):=fun q hq=>by simp only [gu,Zh];exact .inl hq
  have Vs:∀ q,q∈gu b->q∈gu (.seq a b):=fun q hq=>by simp only [gu,Zh];exact .inr hq
  refine Ei hX a n _ _ _ _ _ aH hs he (fun ex ak e' s' k' t' gA dw h=>?_) h
  cases ex with
  | normal =>
   simp only at h ⊢
   exact Ei hX b _ _ _ _ _ _ (k'.ai.trans aH) t' gA (fun L8 b_ e2 s2 k2 t2 uW iF h=>hK L8 b_ e2 s2 (k'.trans k2) t2 uW ((dw.mono L7).trans (iF.mono Vs)) h) h
  | exit id=>exact hK (.exit id) ak e' s' k' t' gA (dw.mono L7) h
  | ret=>exact hK .ret ak e' s' k' t' gA (dw.mono L7) h
 | .cond c a b,n=>fun s env e KV KE aH hs he hK h=>by
  simp only [iL] at h
  simp only [eW]
  have L7:∀ q,q∈gu a->q∈gu (.cond c a b):=fun q hq=>by cases c<;>simp [gu,hq]
  have Vs:∀ q,q∈gu b->q∈gu (.cond c a b):=fun q hq=>by cases c<;>simp [gu,hq]
  have hmc:∀ d,c=.tmp d->d∈gu (.cond c a b):=fun d hd=>by subst hd;simp [gu]
  replace h:=ob h;obtain ⟨p,h1,h⟩:=h
  obtain ⟨v,e1,r1⟩:=fH he h1
  rw [e1];simp only [Q1]
  split at h
  .rename_i t
   obtain rfl:v=.bool t:=r1
   simp only [wz]
   obtain ⟨q1,q2⟩:=Qws (b:=t) he h1 hmc
   cases t with
   | true =>
    simp only [aa] at h ⊢
    exact Ei hX a n _ _ _ _ _ aH hs q1 (fun L8 b_ e2 s2 k2 t2 uW iF h=>hK L8 b_ e2 s2 k2 t2 uW (q2.trans (iF.mono L7)) h) h
   | false =>
    simp only [aa] at h ⊢
    exact Ei hX b _ _ _ _ _ _ aH hs q1 (fun L8 b_ e2 s2 k2 t2 uW iF h=>hK L8 b_ e2 s2 k2 t2 uW (q2.trans (iF.mono Vs)) h) h
  .simp at h
 | .block id c,n=>fun s env e KV KE aH hs he hK h=>by
  simp only [iL] at h
  simp only [eW]
  refine Ei hX c n _ _ _ _ _ aH hs he (fun ex ak e' s' k' t' gA dw h=>?_) h
  cases ex with
  | normal=>exact hK .normal ak e' s' k' t' gA dw h
  | exit zM =>
   simp only at h ⊢
   cases hb:Nat.beq zM id with
   | true=>rw [hb] at h;exact hK .normal ak e' s' k' t' gA dw h
   | false=>rw [hb] at h;exact hK (.exit zM) ak e' s' k' t' gA dw h
  | ret=>exact hK .ret ak e' s' k' t' gA dw h
 | .loop c,n=>fun s env e KV KE aH hs he hK h=>Qt5 hX (Ei hX c (n+1)) aH hs he hK h
 | .rangeFunc _ _ _ _,n=>fun s env e KV KE aH hs he hK h=>by simp [iL] at h
 | .scope _,n=>fun s env e KV KE aH hs he hK h=>by simp [iL] at h
 | .refuse _,n=>fun s env e KV KE aH hs he hK h=>by simp [iL] at h
 | .goto _,n=>fun s env e KV KE aH hs he hK h=>by simp [iL] at h
end
def cI.ev (A:cI):B8:=⟨A.fuel,A.jl,fun _=>.keep,A.ext⟩
theorem Je {P:Program} {s:S} {env:bA} {e:Env} (hs:aD s) (he:cF s env e):∀ {l:List ResultVar} {vs:List PV},vY P env s.L l=some vs->∃ ws,iB P e s.H l=some ws/\Qw (ER s) vs ws
 | [],vs,h=>by simp [vY] at h;subst h;exact ⟨[],rfl,trivial⟩
 | .tmp t::l,vs,h=>by
  simp only [vY] at h
  replace h:=ob h;obtain ⟨p,h1,h⟩:=h
  replace h:=ob h;obtain ⟨ps,h2,h⟩:=h
  simp at h;subst h
  obtain ⟨w,e1,r1⟩:=he.get h1
  obtain ⟨ws,e2,r2⟩:=Je hs he h2
  exact ⟨w::ws,by simp [iB,e1,e2,Q1],r1,r2⟩
 | .cell a t::l,vs,h=>by
  simp only [vY] at h
  replace h:=ob h;obtain ⟨p,h1,h⟩:=h
  obtain ⟨w,e1,r1⟩:=he.get h1
  split at h
  .rename_i b off
   split at h
   .rename_i aA rw cs hb
    replace h:=ob h;obtain ⟨i,h2,h⟩:=h
    obtain ⟨bF,m,hm,dS,rfl⟩:=r1
    have hB:=hs.aI b _ hb
    unfold BR at hB;simp only at hB
    obtain ⟨_,m',k,aE,_,hk,cC,_⟩:=hB
    rw [hm] at aE;injection aE with aE;subst aE
    have hl:=Qw.length cC
    split at h
    .rename_i fs hu
     split at h
     .rename_i hle
      have hle:=Zi hle
      replace h:=ob h;obtain ⟨ps,h3,h⟩:=h
      simp at h;subst h
      obtain ⟨ws,e2,r2⟩:=Je hs he h3
      have gB:Qx s.H ⟨m.z,off,none⟩ i.size=some ((k.cells.drop off).take i.size):=by
       unfold Qx;simp only [hk,Q1]
       have:Nat.ble (off+i.size) k.cells.length=true:=Nat.ble_eq_true_of_le (by omega)
       rw [this]
      refine ⟨.agg ((k.cells.drop off).take i.size).toArray::ws,?_,⟨_,rfl,Qw.take _ (Qw.drop _ cC)⟩,r2⟩
      simp only [iB,e1,Q1,h2,hu,gB,e2]
     .simp at h
    .rename_i nn fs hu
     split at h
     .rename_i hle
      have hle:=Zi hle
      replace h:=ob h;obtain ⟨ps,h3,h⟩:=h
      simp at h;subst h
      obtain ⟨ws,e2,r2⟩:=Je hs he h3
      have gB:Qx s.H ⟨m.z,off,none⟩ i.size=some ((k.cells.drop off).take i.size):=by
       unfold Qx;simp only [hk,Q1]
       have:Nat.ble (off+i.size) k.cells.length=true:=Nat.ble_eq_true_of_le (by omega)
       rw [this]
      refine ⟨.agg ((k.cells.drop off).take i.size).toArray::ws,?_,⟨_,rfl,Qw.take _ (Qw.drop _ cC)⟩,r2⟩
      simp only [iB,e1,Q1,h2,hu,gB,e2]
     .simp at h
    .rename_i d uX nT hu
     replace h:=ob h;obtain ⟨u,h5,h⟩:=h
     replace h:=ob h;obtain ⟨ps,h3,h⟩:=h
     simp at h;subst h
     obtain ⟨ws,e2,r2⟩:=Je hs he h3
     obtain ⟨w,g1,g2⟩:=Qw.get _ cC h5
     have gB:gz s.H ⟨m.z,off,none⟩=some w:=by
      unfold gz;simp only [hk,Q1];exact g1
     refine ⟨w::ws,?_,ER.fe g2,r2⟩
     simp only [iB,e1,Q1,h2]
     rw [hu]
     cases d<;>first | exact absurd rfl (uX _) | exact absurd rfl (nT _ _) | (simp only [gB,e2])
    .simp at h
   .simp at h
  .simp at h
theorem Qhw {s:S}:∀ {ps:List PV} {ws:List Value} {i:Nat},Qw (ER s) ps ws->cF s (L9 i ps) (qx i ws)
 | [],[],i,_=>fun q=>by simp [L9,dx,qx,cO]
 | p::ps,w::ws,i,h=>(Qhw h.2).cons h.1
theorem Qbi {s:S}:∀ {ps:List PV} {ws:List Value},Qw (ER s) ps ws->ps.all L_=true->Qw (AR s) ps ws
 | [],[],_,_=>trivial
 | p::ps,w::ws,h,g=>by
  simp only [List.all_cons,Z8] at g
  refine ⟨?_,Qbi h.2 g.2⟩
  cases p with
  | ki cs=>simp [L_] at g
  | _=>exact h.1
theorem Qt6 {s:S} {ps:List PV} {ws:List Value} (h:Qw (ER s) ps ws) (g:ps.all L_=true):ER s (Hg ps) (iC ws):=Qil (Qbi h g)
def PB (s:S):List (PM×Ty)->List Value->Nat->Prop
 | [],[],_=>True
 | (m,_)::ps,w::ws,i=>match m with
  | .ro=>PB s ps ws i
  | .cl _=>PB s ps ws i
  | .mv=>PB s ps ws (i+1)
  | .io=>(i < s.L.bl.length/\match s.μ i with
    | none=>w=.slice none 0 0
    | some m=>w=.slice (some ⟨m.z,m.sh,none⟩) m.n m.es)/\PB s ps ws (i+1)
  | .ps=>(i < s.L.bl.length/\∃ m,s.μ i=some m/\m.sh=0/\w=.pointer (some ⟨m.z,0,none⟩))/\PB s ps ws (i+1)
 | _,_,_=>False
theorem PB.keep {s s':S} (hk:aj s s'):∀ {ps:List (PM×Ty)} {ws:List Value} {i:Nat},PB s ps ws i->PB s' ps ws i
 | [],[],_,_=>trivial
 | (m,t)::ps,w::ws,i,h=>by
  cases m with
  | ro=>exact PB.keep (ps:=ps) hk h
  | cl g=>exact PB.keep (ps:=ps) hk h
  | mv=>exact PB.keep (ps:=ps) hk h
  | io=>obtain ⟨⟨h1,h2⟩,h3⟩:=h;exact ⟨⟨Zm h1 hk.nb,by rw [hk.mu i h1];exact h2⟩,h3.keep hk⟩
  | ps=>obtain ⟨⟨h1,h2⟩,h3⟩:=h;exact ⟨⟨Zm h1 hk.nb,by rw [hk.mu i h1];exact h2⟩,h3.keep hk⟩
def mQ:List (PM×Ty)->List (List Nat)->List (List Nat)
 | (.ps,_)::ps,ids::r=>ids.drop 1::mQ ps r
 | _::ps,_::r=>mQ ps r
 | _,_=>[]
theorem Hh:∀ {ps:List (PM×Ty)} {an:List (List Nat)} {z:Nat},z∈(mQ ps an).flatten->z∈an.flatten
 | [],_,z,h=>by simp [mQ] at h
 | _::_,[],z,h=>by simp [mQ] at h
 | (m,t)::ps,ids::an,z,h=>by
  rw [Ze,Zh]
  cases m with
  | ps =>
   simp only [mQ,Ze,Zh] at h
   exact h.imp (fun h=>List.mem_of_mem_drop h) (fun h=>Hh h)
  | _=>exact .inr (Hh (ps:=ps) h)
theorem Vt:∀ {ps:List (PM×Ty)} {an:List (List Nat)},an.flatten.Nodup->(mQ ps an).flatten.Nodup
 | [],_,_=>by simp [mQ]
 | (m,t)::ps,[],_=>by cases m<;>simp [mQ]
 | (m,t)::ps,ids::an,h=>by
  rw [Ze,Zn] at h
  obtain ⟨h1,h2,h3⟩:=h
  cases m with
  | ps =>
   simp only [mQ,Ze]
   rw [Zn]
   exact ⟨List.Pairwise.drop h1,Vt h2,fun a ha b hb e=>h3 a (List.mem_of_mem_drop ha) b (Hh hb) e⟩
  | _=>exact Vt (ps:=ps) h2
theorem Qdf:∀ {ps:List (PM×Ty)} {vs:List TV} {ws:List Value} {an:List (List Nat)} {s:S} {i:Nat} {env:bA} {L':LS},s.L.ct=0->aD s->cY s.N s.H s.ai (ps.map fun p=>p.1.kd) vs ws an->(∀ z∈an.flatten,s.aF z)->an.flatten.Nodup->zQ ps vs i s.L=some (env,L') ->
  ∃ s',s'.L=L'/\s'.H=s.H/\aj s s'/\aD s'/\cF s' env (qx i ws)/\PB s' ps ws s.L.bl.length/\(∀ z,s.aF z->z∉an.flatten\/z∈(mQ ps an).flatten->s'.aF z)/\uY s' s.ai (Ch ps vs s.L.bl.length) (mQ ps an)
 | [],[],[],[],s,i,env,L',_,hs,_,_,_,h=>by
  simp [zQ] at h;obtain ⟨rfl,rfl⟩:=h
  exact ⟨s,rfl,rfl,aj.refl s,hs,fun q=>by simp [dx,qx,cO],trivial,fun _ h _=>h,trivial⟩
 | (m,t)::ps,v::vs,w::ws,ids::an,s,i,env,L',me,hs,hh,hl,hn,h=>by
  obtain ⟨sk,uZ⟩:=hh
  rw [Ze,Zn] at hn
  obtain ⟨fU,gG,so⟩:=hn
  have fZ:∀ z∈an.flatten,s.aF z:=fun z hz=>hl z (by rw [Ze,Zh];exact .inr hz)
  have next:∀ (s1:S) (pv:PV),aj s s1->aD s1->s1.H=s.H->s1.L.ct=0->(∀ z,s.N z->s1.N z)->(∀ z∈an.flatten,s1.aF z)->ER s1 pv w->(Q1 (zQ ps vs (i+1) s1.L) fun r=>some ((i,pv)::r.1,r.2))=some (env,L') ->
    ∃ s',s'.L=L'/\s'.H=s.H/\aj s1 s'/\aD s'/\cF s' env (qx i (w::ws))/\PB s' ps ws s1.L.bl.length/\(∀ z,s1.aF z->z∉an.flatten\/z∈(mQ ps an).flatten->s'.aF z)/\uY s' s.ai (Ch ps vs s1.L.bl.length) (mQ ps an):=by
   clear h
   intro s1 pv k1 t1 g1 c1 n1 l1 ha h
   replace h:=ob h;obtain ⟨⟨ak,L3⟩,h2,h⟩:=h
   simp at h;obtain ⟨rfl,rfl⟩:=h
   have Hi:cY s1.N s1.H s1.ai (ps.map fun p=>p.1.kd) vs ws an:=by
    rw [k1.ai];exact uZ.frame (fun z hz _=>⟨n1 z hz,by rw [g1]⟩) (fun z _=>by rw [g1])
   obtain ⟨s2,a1,a2,a3,a4,a5,a6,a7,a8⟩:=Qdf c1 t1 Hi l1 gG h2
   exact ⟨s2,a1,a2.trans g1,a3,a4,a5.cons (a3.ER ha),a6,a7,by rw [k1.ai] at a8;exact a8⟩
  have own:∀ (u:Ty) (x:List u.T),u.iD=false->v=⟨.sl u,x⟩->oB s.N s.H s.ai u x w ids->(Q1 (zQ ps vs (i+1) (Qv s.L (.arr u x))) fun r=>some ((i,.a_ s.L.bl.length 0 none)::r.1,r.2))=some (env,L') ->
    ∃ s',s'.L=L'/\s'.H=s.H/\aj s s'/\aD s'/\cF s' env (qx i (w::ws))/\(PB s' ps ws (s.L.bl.length+1)/\(∀ z,s.aF z->z∉(ids::an).flatten\/z∈(mQ ps an).flatten->s'.aF z)/\uY s' s.ai (Ch ps vs (s.L.bl.length+1)) (mQ ps an))/\(s.L.bl.length < s'.L.bl.length/\match s'.μ s.L.bl.length with
     | none=>w=.slice none 0 0
     | some m=>w=.slice (some ⟨m.z,m.sh,none⟩) m.n m.es):=by
   clear h
   intro u x Ma hv ho h
   rcases ho with ⟨rfl,rfl,rfl⟩ | ⟨z,oo,k,ks,rfl,_,rfl,q1,q2,q3,q4,q5,q6⟩
   .obtain ⟨s1,e1,e2,e3,k1,t1,l1,n1⟩:=hs.nU u
    rw [<- e1] at h
    have hlen:s1.L.bl.length=s.L.bl.length+1:=by rw [e1,Qk]
    obtain ⟨s2,b1,b2,b3,b4,b5,b6,b7,b8⟩:=next s1 _ k1 t1 e2 (by rw [e1];exact me) n1 (fun z hz=>by rw [l1];exact fZ z hz) (ER.fe (p:=.a_ s.L.bl.length 0 none) ⟨by omega,by rw [e3];simp⟩) h
    rw [hlen] at b6 b8
    have au:s.L.bl.length < s1.L.bl.length:=by omega
    exact ⟨s2,b1,b2,k1.trans b3,b4,b5,⟨b6,fun z hz hm=>b7 z (by rw [l1];exact hz) (hm.imp (fun h=>by simpa using h) id),b8⟩,Zm au b3.nb,by rw [b3.mu _ au,e3]⟩
   .have hks:=q6.Vu Ma
    subst hks
    have hz:s.aF z:=hl z (by simp)
    obtain ⟨s1,e1,e2,e3,k1,t1,l1,o1⟩:=hs.zS (.arr u x) ⟨z,oo,u.size,x.length⟩ hz (fun s' hk hm hH O6=>by
     unfold BR;simp only [hm]
     refine ⟨trivial,trivial,k,by rw [hH];exact q1,q4,fun i hi=>?_,fun _=>⟨q2,by rw [hk.ai];exact q3⟩,fun e=>absurd e (by decide)⟩
     have:=q5.2 i hi
     have nV:=jG (k:=u.size) hi
     unfold cH at this;rw [List.drop_take,List.take_take,Nat.min_eq_left (by omega),List.drop_drop] at this
     rw [hH];exact ax.mono (fun z hz=>(O6 z).2 hz) _ this)
    rw [<- e1] at h
    have hlen:s1.L.bl.length=s.L.bl.length+1:=by rw [e1,Qk]
    obtain ⟨s2,b1,b2,b3,b4,b5,b6,b7,b8⟩:=next s1 _ k1 t1 e2 (by rw [e1];exact me) (fun z' aX=>⟨fun h=>aX.1 ((o1 z').1 h),by rw [k1.cZ];exact aX.2⟩) (fun z' aX=>(l1 z').2 ⟨fZ z' aX,fun e=>so z (by simp) z' aX e.symm⟩) (ER.fe (p:=.a_ s.L.bl.length 0 none) ⟨by omega,by rw [e3];simp⟩) h
    rw [hlen] at b6 b8
    have au:s.L.bl.length < s1.L.bl.length:=by omega
    exact ⟨s2,b1,b2,k1.trans b3,b4,b5,⟨b6,fun z' aX hm=>b7 z' ((l1 z').2 ⟨aX,fun e=>by subst e;rcases hm with hm | hm;exact hm (by simp);exact so _ (by simp) _ (Hh hm) rfl⟩) (hm.imp (fun h=>by simp only [Ze,Zh,not_or] at h;exact h.2) id),b8⟩,Zm au b3.nb,by rw [b3.mu _ au,e3]⟩
  simp only [zQ] at h
  cases m with
  | cl g =>
   obtain ⟨rfl,rfl⟩:=sk
   obtain ⟨s2,b1,b2,b3,b4,b5,b6,b7,b8⟩:=next s (.fn g [] []) (aj.refl s) hs rfl me (fun _ h=>h) fZ ⟨[],[],rfl,trivial,trivial⟩ h
   exact ⟨s2,b1,b2,b3,b4,b5,b6,fun z hz hm=>b7 z hz (hm.imp (fun h=>by simpa using h) id),b8⟩
  | ro =>
   simp only at h
   obtain ⟨cs,hv,cT⟩:=sk
   obtain ⟨s2,b1,b2,b3,b4,b5,b6,b7,b8⟩:=next s _ (aj.refl s) hs rfl me (fun _ h=>h) fZ (ER.of (Mb hv (ax.mono (fun z hz=>⟨hz,fun c h1 h2=>by omega⟩) _ cT.rep))) h
   exact ⟨s2,b1,b2,b3,b4,b5,b6,fun z hz hm=>b7 z hz (hm.imp (fun h=>by simp only [Ze,Zh,not_or] at h;exact h.2) id),b8⟩
  | mv =>
   obtain ⟨u,x,rfl,ho⟩:=sk
   simp only at h
   obtain ⟨s1,e1,e2,k1,t1,a1,n1,l1⟩:=Mc hs ho (fun z hz=>hl z (by rw [Ze,Zh];exact .inl hz))
   rw [<- e1] at h
   have hlen:s1.L.bl.length=s.L.bl.length+1:=by rw [e1,Qk]
   obtain ⟨s2,b1,b2,b3,b4,b5,b6,b7,b8⟩:=next s1 _ k1 t1 e2 (by rw [e1];exact me) n1 (fun z hz=>l1 z (fZ z hz) (fun hm=>so z hm z hz rfl)) (ER.fe a1) h
   rw [hlen] at b6 b8
   exact ⟨s2,b1,b2,k1.trans b3,b4,b5,b6,fun z hz hm=>b7 z (l1 z hz (fun hi=>by rcases hm with hm | hm;exact hm (by simp [hi]);exact so _ hi _ (Hh (ps:=ps) hm) rfl)) (hm.imp (fun h=>by simp only [Ze,Zh,not_or] at h;exact h.2) id),b8⟩
  | io =>
   obtain ⟨u,x,rfl,ho⟩:=sk
   simp only at h
   split at h
   .simp at h
   rename_i Ma
   obtain ⟨s',a1,a2,a3,a4,a5,a6,a7⟩:=own u x Ma rfl ho h
   exact ⟨s',a1,a2,a3,a4,a5,⟨a7,a6.1⟩,fun z hz hm=>a6.2.1 z hz hm,a6.2.2⟩
  | ps =>
   obtain ⟨z,k,j,rfl,rfl,q1,q2,q3,q4⟩:=sk
   simp only at h
   have hz:s.aF z:=hl z (by simp)
   obtain ⟨hzj,hnj⟩:=List.nodup_cons.1 fU
   obtain ⟨s1,e1,e2,e3,k1,t1,l1,o1⟩:=hs.zS (.cells (fV 0 v.1 v.2)) ⟨z,0,0,0⟩ hz (fun s' hk hm hH O6=>by
    unfold BR;simp only
    refine ⟨trivial,_,k,hm,rfl,by rw [hH];exact q1,zT _ ?_,q2,by rw [hk.ai];exact q3⟩
    exact ax.frame (H:=s.H) (fun z hz au=>⟨hk.NN (st:=0) au ⟨hz,fun c h1 h2=>by omega⟩,by rw [hH]⟩) _ q4.rep)
   rw [<- e1] at h
   have hlen:s1.L.bl.length=s.L.bl.length+1:=by rw [e1,Qk]
   have au:s.L.bl.length < s1.L.bl.length:=by omega
   have hN1:∀ z,s.N z->s1.N z:=fun z' aX=>⟨fun h=>aX.1 ((o1 z').1 h),by rw [k1.cZ];exact aX.2⟩
   obtain ⟨s2,b1,b2,b3,b4,b5,b6,b7,b8⟩:=next s1 _ k1 t1 e2 (by rw [e1];exact me) hN1 (fun z' aX=>(l1 z').2 ⟨fZ z' aX,fun e=>so z (by simp) z' aX e.symm⟩) (ER.fe (p:=.ptr s.L.bl.length 0) ⟨by omega,_,e3,rfl,rfl⟩) h
   rw [hlen] at b6 b8
   refine ⟨s2,b1,b2,k1.trans b3,b4,b5,⟨⟨Zm au b3.nb,_,by rw [b3.mu _ au];exact e3,rfl,rfl⟩,b6⟩,fun z' aX hm=>?_,⟨Zm au b3.nb,⟨⟨z,0,0,0⟩,k,by rw [b3.mu _ au];exact e3,rfl,by rw [b2];exact q1,q2,q3,dr.frame (N:=s.N) (H:=s.H) (G:=s2.H) (M:=s2.N) (fun y hy hy'=>⟨b3.N (by rw [e2];exact hy') (hN1 y hy),by rw [b2]⟩) v.1 q4 (fun y (_:y∈j)=>by rw [b2])⟩,fun y hy=>?_⟩,b8⟩
   .have aV:z'≠z:=by
     rintro rfl
     rcases hm with hm | hm
     .exact hm (by simp)
     .simp only [mQ,List.drop_succ_cons,List.drop_zero,Ze,Zh] at hm
      rcases hm with hm | hm
      .exact hzj hm
      .exact so _ (by simp) _ (Hh hm) rfl
    refine b7 z' ((l1 z').2 ⟨aX,aV⟩) ?_
    rcases hm with hm | hm
    .simp only [Ze,Zh,not_or] at hm;exact .inl hm.2
    .simp only [mQ,List.drop_succ_cons,List.drop_zero,Ze,Zh] at hm
     rcases hm with hm | hm
     .exact .inl (fun h=>so z' (by simp [hm]) z' h rfl)
     .exact .inr hm
   .have hyl:s.aF y:=hl y (by rw [Ze];exact List.mem_append.2 (.inl (List.mem_cons_of_mem _ (by simpa using hy))))
    refine b7 y ((l1 y).2 ⟨hyl,fun e=>hzj (by subst e;simpa using hy)⟩) (.inl (fun h=>so y (List.mem_cons_of_mem _ (by simpa using hy)) y h rfl))
theorem Vv:∀ {rs:List (Bool×Ty)} {ps:List PV} {ws:List Value} {s:S} {vs:List TV} {L':LS},aD s->Qw (ER s) ps ws->Ej rs ps s.L=some (vs,L') ->
  ∃ s1 an,s1.L=L'/\s1.H=s.H/\s1.μ=s.μ/\aj s s1/\aD s1/\(∀ z,s.aF z->s1.aF z)/\cY s1.N s1.H s.ai (rs.map fun q=>zU q.1) vs ws an/\(∀ z∈an.flatten,s1.aF z)/\an.flatten.Nodup/\(∀ z∈an.flatten,¬ s.aF z)/\vs.length=rs.length
 | [],[],[],s,vs,L',hs,he,h=>by
  simp [Ej] at h;obtain ⟨rfl,rfl⟩:=h
  exact ⟨s,[],rfl,rfl,rfl,aj.refl s,hs,fun _ h=>h,trivial,by simp,by simp,by simp,rfl⟩
 | (o,t)::rs,p::ps,w::ws,s,vs,L',hs,he,h=>by
  obtain ⟨r1,he⟩:=he
  simp only [Ej] at h
  replace h:=ob h;obtain ⟨⟨x,L2⟩,h2,h⟩:=h
  replace h:=ob h;obtain ⟨⟨cz,L3⟩,h3,h⟩:=h
  simp at h;obtain ⟨rfl,rfl⟩:=h
  simp only at h3
  cases o with
  | true =>
   obtain ⟨hx,s1,ids,l1,g1,u1,k1,t1,hh,hl,oC,hnd,ho⟩:=O7 hs r1 h2
   rw [<- l1] at h3
   obtain ⟨s2,an,a1,a2,a3,a4,a5,a6,a7,a8,a9,Jf,O8⟩:=Vv t1 (Qw.mono (fun _ _=>k1.ER) he) h3
   have aH:s1.ai=s.ai:=k1.ai
   refine ⟨s2,ids::an,a1,a2.trans g1,a3.trans u1,k1.trans a4,a5,fun z hz=>a6 z ((hl z).2 (.inl hz)),⟨hh.frame (fun z hz au=>⟨a4.N au hz,by rw [a2]⟩) (fun z _=>by rw [a2]),by rw [<- aH];exact a7⟩,?_,?_,?_,by simp [O8]⟩
   .intro z hz
    rw [Ze,Zh] at hz
    rcases hz with hz | hz
    .exact a6 z ((hl z).2 (.inr hz))
    .exact a8 z hz
   .rw [Ze,Zn]
    exact ⟨hnd,a9,fun a ha b hb e=>by subst e;exact Jf a hb ((hl a).2 (.inr ha))⟩
   .intro z hz
    rw [Ze,Zh] at hz
    rcases hz with hz | hz
    .exact oC z hz
    .exact fun h=>Jf z hz ((hl z).2 (.inl h))
  | false =>
   simp only [u9] at h2
   split at h2
   .rename_i c_
    simp only [Z8] at c_
    replace h2:=ob h2;obtain ⟨⟨y,L4⟩,h4,h2⟩:=h2
    simp at h2;obtain ⟨rfl,rfl⟩:=h2
    obtain ⟨s1,ids,l1,g1,u1,k1,t1,mR,hl,oC,hnd,o1⟩:=Hj t hs (r1.cells c_.1) h4
    rw [<- l1] at h3
    obtain ⟨s2,an,a1,a2,a3,a4,a5,a6,a7,a8,a9,Jf,O8⟩:=Vv t1 (Qw.mono (fun _ _=>k1.ER) he) h3
    have aH:s1.ai=s.ai:=k1.ai
    refine ⟨s2,ids::an,a1,a2.trans g1,a3.trans u1,k1.trans a4,a5,fun z hz=>a6 z ((hl z).2 (.inl hz)),⟨⟨_,Vw r1 c_.1 c_.2,dr.frame (fun z hz au=>⟨a4.N au hz,by rw [a2]⟩) t mR (fun z _=>by rw [a2])⟩,by rw [<- aH];exact a7⟩,?_,?_,?_,by simp [O8]⟩
    .intro z hz
     rw [Ze,Zh] at hz
     rcases hz with hz | hz
     .exact a6 z ((hl z).2 (.inr hz))
     .exact a8 z hz
    .rw [Ze,Zn]
     exact ⟨hnd,a9,fun a ha b hb e=>by subst e;exact Jf a hb ((hl a).2 (.inr ha))⟩
    .intro z hz
     rw [Ze,Zh] at hz
     rcases hz with hz | hz
     .exact oC z hz
     .exact fun h=>Jf z hz ((hl z).2 (.inl h))
   .simp at h2
 | [],_::_,_,_,_,_,_,_,h=>by simp [Ej] at h
 | _::_,[],_,_,_,_,_,_,h=>by simp [Ej] at h
theorem Hl:∀ {ps:List (PM×Ty)} {i j:Nat},j∈ig ps i->i<=j
 | [],i,j,h=>by simp [ig] at h
 | (m,t)::ps,i,j,h=>by
  cases m with
  | ro=>exact Hl (ps:=ps) h
  | cl g=>exact Hl (ps:=ps) h
  | mv=>have:=Hl (ps:=ps) (i:=i+1) h;omega
  | io=>simp only [ig,List.mem_cons] at h;rcases h with rfl | h;exact Zd _;have:=Hl h;omega
  | ps=>simp only [ig,List.mem_cons] at h;rcases h with rfl | h;exact Zd _;have:=Hl h;omega
theorem Jg:∀ {ps:List (PM×Ty)} {ws:List Value} {s:S} {i:Nat} {vs:List TV} {L':LS},aD s->PB s ps ws i->Ba ps i s.L=some (vs,L') ->
  ∃ s1 aO,s1.L=L'/\s1.H=s.H/\s1.μ=s.μ/\aj s s1/\aD s1/\(∀ z,s.aF z->s1.aF z)/\cY s1.N s1.H s.ai (sq ps) vs (zV ps ws) aO /\
   (∀ z∈aO.flatten,(s1.aF z/\¬ s.aF z)\/∃ j∈ig ps i,∃ m,s1.μ j=some m/\m.z=z) /\
   ((∀ j∈ig ps i,∃ B,Qi s1.L j=some B/\B.rw=true)->aO.flatten.Nodup)
 | [],[],s,i,vs,L',hs,_,h=>by
  simp [Ba] at h;obtain ⟨rfl,rfl⟩:=h
  exact ⟨s,[],rfl,rfl,rfl,aj.refl s,hs,fun _ h=>h,trivial,by simp,by simp⟩
 | (m,t)::ps,w::ws,s,i,vs,L',hs,hp,h=>by
  simp only [Ba] at h
  cases m with
  | ro=>exact Jg (ps:=ps) hs hp h
  | cl g=>exact Jg (ps:=ps) hs hp h
  | mv=>exact Jg (ps:=ps) hs hp h
  | io =>
   obtain ⟨⟨hi,hm⟩,zO⟩:=hp
   simp only at h
   split at h
   .rename_i u
    replace h:=ob h;obtain ⟨x,h1,h⟩:=h
    replace h:=ob h;obtain ⟨⟨cz,L3⟩,h2,h⟩:=h
    simp at h;obtain ⟨rfl,rfl⟩:=h
    obtain ⟨s1,aO,a1,a2,a3,a4,a5,a6,a7,a8,a9⟩:=Jg hs zO h2
    unfold Jh at h1
    split at h1
    .rename_i aA u' xs hb
     split at h1
     .simp at h1
     rename_i Ma
     have eK:∀ t,u'≠.os t:=fun t e=>by subst e;simp [Ty.iD] at Ma
     replace h1:=ob h1;obtain ⟨y,h4,h1⟩:=h1
     simp at h1;subst h1
     have e0:=Qq h4
     injection e0 with e0;subst e0
     have:=Qg h4;subst this
     cases aE:s.μ i with
     | none =>
      rw [aE] at hm;subst hm
      refine ⟨s1,[]::aO,a1,a2,a3,a4,a5,a6,⟨⟨u',xs,rfl,.inl ⟨rfl,El hs hb aE,rfl⟩⟩,a7⟩,fun z hz=>?_,fun hl=>?_⟩
      .rw [Ze,List.nil_append] at hz
       rcases a8 z hz with h | ⟨j,j1,j2⟩
       .exact .inl h
       .exact .inr ⟨j,by simp [ig,j1],j2⟩
      .rw [Ze,List.nil_append];exact a9 (fun j hj=>hl j (by simp [ig,hj]))
     | some m =>
      rw [aE] at hm;subst hm
      obtain ⟨b1,b2,k,b3,b4,b5,b6,b7⟩:=mg hs hb aE
      have nV:s1.μ i=some m:=by rw [a3];exact aE
      refine ⟨s1,[m.z]::aO,a1,a2,a3,a4,a5,a6,⟨⟨u',xs,rfl,.inr ⟨m.z,m.sh,k,[],rfl,by simp,by rw [b1,b2],by rw [a2];exact b3,(b6 rfl).1,(b6 rfl).2,zW hs hb aE b3,(RL.nW b4 b5).frame (fun z hz au=>⟨a4.N au hz,by rw [a2]⟩),gO.Ci eK⟩⟩,a7⟩,fun z hz=>?_,fun hl=>?_⟩
      .rw [Ze,Zh] at hz
       rcases hz with hz | hz
       .simp at hz;exact .inr ⟨i,by simp [ig],m,nV,hz.symm⟩
       .rcases a8 z hz with h | ⟨j,j1,j2⟩
        .exact .inl h
        .exact .inr ⟨j,by simp [ig,j1],j2⟩
      .rw [Ze,Zn]
       refine ⟨by simp,a9 (fun j hj=>hl j (by simp [ig,hj])),fun p hp q hq e=>?_⟩
       simp at hp;subst hp;subst e
       obtain ⟨B,c1,c2⟩:=hl i (by simp [ig])
       rcases a8 _ hq with ⟨h,_⟩ | ⟨j,j1,m',j2,j3⟩
       .exact a5.lm i B m c1 nV h
       .obtain ⟨B',d1,d2⟩:=hl j (by simp [ig,j1])
        have:=a5.inj i j B B' m m' c1 d1 c2 nV j2 j3.symm
        have:=Hl j1;omega
    .simp at h1
   .simp at h
  | ps =>
   obtain ⟨⟨hi,m,hm,dS,rfl⟩,zO⟩:=hp
   simp only at h
   replace h:=ob h;obtain ⟨⟨x,L2⟩,h1,h⟩:=h
   replace h:=ob h;obtain ⟨⟨cz,L3⟩,h2,h⟩:=h
   simp at h;obtain ⟨rfl,rfl⟩:=h
   unfold Ji at h1
   split at h1
   .rename_i aA cs hb
    replace h1:=ob h1;obtain ⟨⟨y,L4⟩,h4,h1⟩:=h1
    simp at h1;obtain ⟨rfl,rfl⟩:=h1
    have hB:=hs.aI i _ hb
    unfold BR at hB;simp only at hB
    obtain ⟨_,m',k,aE,_,hk,cC,bn,jS⟩:=hB
    rw [hm] at aE;injection aE with aE;subst aE
    obtain ⟨s1,j,l1,g1,u1,k1,t1,mR,mS,Md,Ca,o1⟩:=Hj t hs cC h4
    simp only at h2
    rw [<- l1] at h2
    obtain ⟨s2,aO,a1,a2,a3,a4,a5,a6,a7,a8,a9⟩:=Jg t1 (zO.keep k1) h2
    have aH:s1.ai=s.ai:=k1.ai
    have nV:s2.μ i=some m:=by rw [a3,u1];exact hm
    have uH:∀ z∈j,s2.aF z:=fun z hz=>a6 z ((mS z).2 (.inr hz))
    refine ⟨s2,(m.z::j)::aO,a1,a2.trans g1,a3.trans u1,k1.trans a4,a5,fun z hz=>a6 z ((mS z).2 (.inl hz)),⟨⟨m.z,k,j,rfl,rfl,by rw [a2,g1];exact hk,bn,jS,dr.frame (fun z hz au=>⟨a4.N au hz,by rw [a2]⟩) t mR (fun z _=>by rw [a2])⟩,by rw [<- aH];exact a7⟩,fun z hz=>?_,fun hl=>?_⟩
    .rw [Ze,Zh] at hz
     rcases hz with hz | hz
     .rcases Z2 hz with rfl | hz
      .exact .inr ⟨i,by simp [ig],m,nV,rfl⟩
      .exact .inl ⟨uH z hz,Md z hz⟩
     .rcases a8 z hz with ⟨h,h'⟩ | ⟨j,j1,j2⟩
      .exact .inl ⟨h,fun h0=>h' ((mS z).2 (.inl h0))⟩
      .exact .inr ⟨j,by simp [ig,j1],j2⟩
    .obtain ⟨B,c1,c2⟩:=hl i (by simp [ig])
     rw [Ze,Zn]
     refine ⟨List.nodup_cons.2 ⟨fun h=>a5.lm i B m c1 nV (uH _ h),Ca⟩,a9 (fun j hj=>hl j (by simp [ig,hj])),fun p hp q hq e=>?_⟩
     subst e
     rcases Z2 hp with rfl | hp
     .rcases a8 _ hq with ⟨h,_⟩ | ⟨j,j1,m',j2,j3⟩
      .exact a5.lm i B m c1 nV h
      .obtain ⟨B',d1,d2⟩:=hl j (by simp [ig,j1])
       have:=a5.inj i j B B' m m' c1 d1 c2 nV j2 j3.symm
       have:=Hl j1;omega
     .rcases a8 _ hq with ⟨_,h⟩ | ⟨j,j1,m',j2,rfl⟩
      .exact h ((mS _).2 (.inr hp))
      .obtain ⟨B',d1,d2⟩:=hl j (by simp [ig,j1])
       exact a5.lm j B' m' d1 j2 (uH _ hp)
   .simp at h1
structure nX (P:Program) (A:cI) (l:Ho A) (bX:FuncId->List Value->Nat->af->Option (Value×af)):Prop where
 call:∀ ai f,A.inline f=false->Cj (A.sig f) (l.call f) (bX f) ai
 inl:∀ ai (β:Type) f,A.inline f=true->∀ {γ:Type} {args:List PV} {ws:List Value} {s:S} {KV:PV->LS->Option β} {KE:Value->af->Option γ} {r:β} {Q:γ->Prop},aD s->s.ai=ai->Qw (ER s) args ws->eE s r KV KE Q->l.inl β f args s.L KV=some r ->
  ∃ y,(Q1 (bX f ws ai s.H) fun q=>KE q.1 q.2)=some y/\Q y
theorem nX.x {P:Program} {A:cI} {l:Ho A} {bX:FuncId->List Value->Nat->af->Option (Value×af)} (h:nX P A l bX) (β:Type) (ai nt:Nat) (f:FuncId):B_ (β:=β) ⟨P,l.call,l.inl β,nt,A.own f,A.loops f,A.jl f⟩ ⟨P,bX,ai,nt,A.fuel,A.jl f⟩ :=
 ⟨rfl,rfl,rfl,rfl,fun g hg=>h.call ai g hg,fun g hg=>h.inl ai β g hg⟩
theorem cY.len {N:Nat->Prop} {H:af} {ai:Nat}:∀ {ks:List Kd} {vs:List TV} {ws:List Value} {is:List (List Nat)},cY N H ai ks vs ws is->ks.length=ws.length/\∀ z∈is.flatten,z < H.length
 | [],[],[],[],_=>⟨rfl,by simp⟩
 | _::_,_::_,_::_,_::_,h=>by
  obtain ⟨a,b⟩:=cY.len h.2
  refine ⟨by simp [a],fun z hz=>?_⟩
  rw [Ze,Zh] at hz
  rcases hz with hz | hz
  .exact h.1.lt z hz
  .exact b z hz
theorem Qwt {P:Program} {A:cI} {l:Ho A} {bX:FuncId->List Value->Nat->af->Option (Value×af)} (hl:nX P A l bX) (ai:Nat) (f:FuncId):Cj (A.sig f) (Ck P A l f) (Ea P A.ev bX f) ai:=by
 intro a r h H fy ws an Hp zX hnd Hq hh
 obtain ⟨hlen,Me⟩:=hh.len
 unfold Ck at h
 unfold Ea
 split at h
 .simp at h
 .rename_i fn hfn
  rw [hfn]
  simp only
  split at h
  .rename_i c hb Vx zY
   have Vy:Nat.ble ws.length fn.ntmps=true:=by rw [<- hlen];simpa using Vx
   rw [hb,Vy,zY]
   simp only
   replace h:=ob h;obtain ⟨⟨env,L0⟩,h1,h⟩:=h
   replace h:=ob h;obtain ⟨L1,Vz,h⟩:=h
   simp only at Vz h
   let sE:S:={ μ:=fun _=>none,L:=⟨[],0⟩,H:=H,fy:=fy,Old:=fun _ _=>False,aF:=fun z=>z∈an.flatten,ai:=ai,br:=fun _=>none }
   have O9:∀ b B,Qi sE.L b=some B->False:=fun b B hB=>by have:=Qn hB;simp [sE] at this
   have sr:∀ z,bJ sE z↔z∈an.flatten:=by
    intro z;constructor
    .rintro (⟨b,B,m,h1,_⟩ | h | ⟨p,hp⟩)
     .exact (O9 b B h1).elim
     .exact h
     .simp [sE] at hp
    .exact fun h=>.inr (.inl h)
   have tE:aD sE:=⟨fun b B hB=>(O9 b B hB).elim,fun b _ B _ _ _ hB=>(O9 b B hB).elim,fun z hz=>⟨Hp z hz,fun ho=>Hq z ((sr z).1 ho) hz⟩,zX,fun b B _ hB=>(O9 b B hB).elim,fun z hz=>Me z hz,fun z p hp=>by simp [sE] at hp,fun z p hp=>by simp [sE] at hp⟩
   have hhE:cY sE.N sE.H sE.ai ((A.sig f).params.map fun p=>p.1.kd) (fc (A.sig f).eI a) ws an:=hh.frame (fun z hz _=>⟨⟨fun ho=>hz.1 ((sr z).1 ho),hz.2⟩,rfl⟩) (fun _ _=>rfl)
   obtain ⟨sF,lF,gF,kF,tF,heF,pbF,liF,cbF⟩:=Qdf (s:=sE) rfl tE hhE (fun z hz=>hz) hnd h1
   rw [<- lF] at Vz
   obtain ⟨s0,l0,g0',VA,t0,_,_⟩:=VC tF (by rw [kF.ai];exact cbF) (fun z hz=>liF z (Hh hz) (.inr hz)) (Vt hnd) Vz
   rw [<- l0] at h
   have g0:s0.H=sE.H:=g0'.trans gF
   have k0:aj sE s0:=kF.trans VA
   have he0:=VA.env heF
   have pb0:PB s0 (A.sig f).params ws 0:=pbF.keep VA
   have VD:s0.H=H:=g0
   obtain ⟨QF,hQF⟩:∃ QF:Value×af->Prop,QF=fun q=>∃ qB bq aO,q.1=iC qB/\H.length<=q.2.length/\(∀ z,z < H.length->z∉an.flatten->ah q.2 z=ah H z) /\
     (bq.flatten++aO.flatten).Nodup/\(∀ z∈bq.flatten++aO.flatten,z∈an.flatten\/H.length<=z)/\(∀ z∈bq.flatten++aO.flatten,¬ fy z) /\
     cY (fun z=>z∉bq.flatten++aO.flatten/\¬ fy z) q.2 ai ((A.sig f).results.map fun q=>zU q.1) ((fc (A.sig f).cR r).take (A.sig f).results.length) qB bq /\
     cY (fun z=>z∉bq.flatten++aO.flatten/\¬ fy z) q.2 ai (sq (A.sig f).params) ((fc (A.sig f).cR r).drop (A.sig f).results.length) (zV (A.sig f).params ws) aO:=⟨_,rfl⟩
   have:=Ei (γ:=Value×af) (Q:=QF)
    (hl.x _ ai fn.ntmps f) c 0 s0 env (qx 0 ws) _
    (fun ex env H'=>match ex with
     | .exit _=>none
     | _=>Q1 (iB P env H' fn.results.toList) fun vs=>Q1 (uQ .keep H.length vs H') fun r=>some (iC r.1,r.2)) k0.ai t0 he0
    (fun ex ak e' s1 k1 t1 VE _ h=>by
     have key:(Q1 (vY P ak s1.L fn.results.toList) fun vs=>Q1 (Ej (A.sig f).results vs s1.L) fun r_1=>Q1 (Ba (A.sig f).params 0 r_1.2) fun q=>match LR q.2 (ig (A.sig f).params 0) with
       | true=>mG (A.sig f).cR (r_1.1++q.1)
       | false=>none)=some r->∃ y,(Q1 (iB P e' s1.H fn.results.toList) fun vs=>Q1 (uQ .keep H.length vs s1.H) fun r=>some (iC r.1,r.2))=some y/\QF y:=by
      intro h
      replace h:=ob h;obtain ⟨Bb,h2,h⟩:=h
      replace h:=ob h;obtain ⟨⟨rv,L2⟩,h3,h⟩:=h
      replace h:=ob h;obtain ⟨⟨ov,L3⟩,h4,h⟩:=h
      simp only at h4 h
      split at h
      .rename_i Cl
       obtain ⟨qB,e2,r2⟩:=Je t1 VE h2
       rw [e2]
       simp only [Q1,uQ]
       obtain ⟨s2,bq,a1,a2,a3,a4,a5,a6,a7,a8,a9,Jf,O8⟩:=Vv t1 r2 h3
       rw [<- a1] at h4
       have pb2:PB s2 (A.sig f).params ws 0:=pb0.keep (k1.trans a4)
       obtain ⟨s3,aO,b1,b2,b3,b4,b5,b6,b7,b8,b9⟩:=Jg a5 pb2 h4
       rw [<- b1] at Cl
       have cL:=O0 Cl
       have hk:aj sE s3:=((k0.trans k1).trans a4).trans b4
       have hH:s3.H=s1.H:=b2.trans a2
       have su:s1.ai=ai:=(k0.trans k1).ai
       have kj:s2.ai=ai:=a4.ai.trans su
       have Em:∀ z∈bq.flatten,s3.aF z:=fun z hz=>b6 z (a8 z hz)
       have Jd:=L6 _ h
       have Hr:∀ z∈bq.flatten++aO.flatten,bJ s3 z:=by
        intro z hz
        rcases List.mem_append.1 hz with hz | hz
        .exact .inr (.inl (Em z hz))
        .rcases b8 z hz with ⟨h,_⟩ | ⟨j,j1,m,j2,j3⟩
         .exact .inr (.inl h)
         .obtain ⟨B,q1,q2⟩:=cL j j1
          exact .inl ⟨j,B,m,q1,q2,j2,j3⟩
       have hN:∀ z,s3.N z->z∉bq.flatten++aO.flatten/\¬ fy z:=fun z hz =>
        ⟨fun hm=>hz.1 (Hr z hm),fun hb=>hz.2 (by rw [hk.cZ];exact hb)⟩
       refine ⟨_,rfl,?_⟩
       rw [hQF]
       refine ⟨qB,bq,aO,rfl,?_,?_,?_,?_,?_,?_,?_⟩
       .rw [<- hH];exact hk.len
       .intro z hz VF;rw [<- hH];exact hk.fr z hz (fun ho=>VF ((sr z).1 ho))
       .rw [Zn]
        refine ⟨a9,b9 cL,fun x hx y hy e=>?_⟩
        subst e
        rcases b8 _ hy with ⟨_,h⟩ | ⟨j,j1,m,j2,rfl⟩
        .exact h (a8 _ hx)
        .obtain ⟨B,q1,q2⟩:=cL j j1
         exact b5.lm j B m q1 j2 (Em _ hx)
       .intro z hz
        rcases hk.own z (Hr z hz) with h | h
        .exact .inl ((sr z).1 h)
        .exact .inr h
       .intro z hz hb
        have:s3.fy z:=by rw [hk.cZ];exact hb
        exact (b5.cZ z this).2 (Hr z hz)
       .rw [Jd,List.take_append_of_le_length (by omega),Zs (by omega)]
        rw [su] at a7
        exact a7.frame (fun z hz au=>⟨hN z (b4.N au hz),by rw [a2]⟩) (fun z _=>by rw [a2])
       .rw [Jd,List.drop_append_of_le_length (by omega),List.drop_of_length_le (by omega),List.nil_append]
        rw [kj] at b7
        exact b7.frame (fun z hz au=>⟨hN z hz,by rw [hH]⟩) (fun z _=>by rw [hH])
      .simp at h
     cases ex with
     | exit id=>simp at h
     | normal=>exact key h
     | ret=>exact key h) h
   obtain ⟨⟨v,H'⟩,y1,yQ⟩:=this
   rw [hQF] at yQ
   obtain ⟨qB,bq,aO,y2,y3⟩:=yQ
   rw [VD] at y1
   exact ⟨v,H',qB,bq,aO,y1,y2,y3⟩
  .simp at h
theorem Qwu {P:Program} {A:cI} {l:Ho A} {bX:FuncId->List Value->Nat->af->Option (Value×af)} (hl:nX P A l bX) (ai:Nat) (β:Type) (f:FuncId) {γ:Type} {args:List PV} {ws:List Value} {s:S} {KV:PV->LS->Option β} {KE:Value->af->Option γ} {r:β} {Q:γ->Prop} (hs:aD s) (aH:s.ai=ai) (hr:Qw (ER s) args ws) (hK:eE s r KV KE Q)
  (h:Hs P A l β f args s.L KV=some r):∃ y,(Q1 (Ea P A.ev bX f ws ai s.H) fun q=>KE q.1 q.2)=some y/\Q y:=by
 have hlen:=Qw.length hr
 unfold Hs at h
 unfold Ea
 split at h
 .simp at h
 .rename_i fn hfn
  rw [hfn]
  simp only
  split at h
  .rename_i c hb Vx zY
   rw [hb,<- hlen,Vx,zY]
   simp only
   have:=Ei (γ:=Value×af) (Q:=fun q=>∃ y,KE q.1 q.2=some y/\Q y) (hl.x β ai fn.ntmps f) c 0 s (L9 0 args) (qx 0 ws) _
    (fun ex env H'=>match ex with
     | .exit _=>none
     | _=>Q1 (iB P env H' fn.results.toList) fun vs=>Q1 (uQ .keep s.H.length vs H') fun r=>some (iC r.1,r.2)) aH hs (Qhw hr)
    (fun ex ak e' s1 k1 t1 VE _ h=>by
     have key:(Q1 (vY P ak s1.L fn.results.toList) fun vs=>match vs.all L_ with
       | true=>KV (Hg vs) s1.L
       | false=>none)=some r->∃ y,(Q1 (iB P e' s1.H fn.results.toList) fun vs=>Q1 (uQ .keep s.H.length vs s1.H) fun r=>some (iC r.1,r.2))=some y/\∃ z,KE y.1 y.2=some z/\Q z:=by
      intro h
      replace h:=ob h;obtain ⟨Bb,h2,h⟩:=h
      split at h
      .rename_i VG
       obtain ⟨qB,e2,r2⟩:=Je t1 VE h2
       rw [e2]
       simp only [Q1,uQ]
       exact ⟨_,rfl,hK _ _ s1 k1 t1 (Qt6 r2 VG) h⟩
      .simp at h
     cases ex with
     | exit id=>simp at h
     | normal=>exact key h
     | ret=>exact key h) h
   obtain ⟨q,y1,z,y2,y3⟩:=this
   refine ⟨z,?_,y3⟩
   have e2:∀ (x:Option (Value×af)),x=some q->(Q1 x fun q=>KE q.1 q.2)=some z:=fun x hx=>by rw [hx];exact y2
   exact e2 _ y1
  .simp at h
structure Mf (A:cI):Prop where
 val:∀ f v,A.u_ f=some v->∃ e,A.ext f=some e/\∀ ai,Cj (A.sig f) v e ai
 non:∀ f,A.u_ f=none->A.ext f=none
 inl:∀ f,A.inline f=true->A.u_ f=none
theorem Qt7 {P:Program} {A:B8} {d:Nat} {f:FuncId} {e:List Value->Nat->af->Option (Value×af)} (h:A.ext f=some e):run P A (d+1) f=e:=by
 funext ws ai H;simp only [run,h]
theorem Qm0 {P:Program} {A:B8} {d:Nat} {f:FuncId} (h:A.ext f=none):run P A (d+1) f=Ea P A (run P A d) f:=by
 funext ws ai H;simp only [run,h]
theorem Qvb (P:Program) (A:cI) (hE:Mf A):∀ d:Nat,nX P A (aM P A d) (run P A.ev d)
 | 0=>⟨fun ai f hf a r h=>by simp [aM] at h,fun ai β f hf γ args ws s KV KE r Q hs aH hr hK h=>by simp [aM] at h⟩
 | d+1=>by
  have ih:=Qvb P A hE d
  refine ⟨fun ai f hf=>?_,fun ai β f hf γ args ws s KV KE r Q hs aH hr hK h=>?_⟩
  .cases hv:A.u_ f with
   | none =>
    rw [Qm0 (A:=A.ev) (hE.non f hv)]
    have e2:(aM P A (d+1)).call f=Ck P A (aM P A d) f:=by funext a;simp only [aM,hv]
    rw [e2]
    exact Qwt ih ai f
   | some v =>
    obtain ⟨e,he,c_⟩:=hE.val f v hv
    rw [Qt7 (A:=A.ev) he]
    have e2:(aM P A (d+1)).call f=v:=by funext a;simp only [aM,hv]
    rw [e2]
    exact c_ ai
  .rw [Qm0 (A:=A.ev) (hE.non f (hE.inl f hf))]
   exact Qwu ih ai β f hs aH hr hK h
open Go.Ev Go.Ek Go.ChangeAt Go.RowKit Go.WideShapes Go.ChangeShapes
def Qzf (x:List Int):Prop:=∀ n∈x,0<=n/\n < 256
theorem cY.one {N:Nat->Prop} {H:af} {ai:Nat} {k:Kd} {v:TV} {ws:List Value} {is:List (List Nat)} (h:cY N H ai [k] [v] ws is):∃ w i,ws=[w]/\is=[i]/\HR N H ai k v w i:=by
 cases ws with
 | nil=>cases is<;>exact absurd h id
 | cons w ws=>cases is with
  | nil=>exact absurd h id
  | cons i is=>cases ws with
   | nil=>cases is with
    | nil=>exact ⟨w,i,rfl,rfl,h.1⟩
    | cons _ _=>exact absurd h.2 id
   | cons _ _=>cases is<;>exact absurd h.2 id
structure lV (P:Program) (A:cI):Prop where
 v:Mf A
 x:O_ P A.ev
theorem lV.no {P:Program} {A:cI} (h1:∀ f,A.ext f=none) (h2:∀ f,A.u_ f=none):lV P A :=
 ⟨⟨fun f v h=>by rw [h2] at h;simp at h,fun f _=>h1 f,fun f _=>h2 f⟩,fun f e h=>by rw [show A.ev.ext f=A.ext f from rfl,h1] at h;simp at h⟩
def qC (P:Program):Nat->TypeId->Option Ty
 | 0,_=>none
 | n+1,t=>match isVar P t with
  | false=>none
  | true=>match P.underlying t with
   | some .bool=>some .bool
   | some (.int k)=>some (.int k)
   | some .string=>some .str
   | some (.slice e)=>Q1 (qC P n e) fun u=>some (.sl u)
   | some (.struct fs)=>match fs.toList with
    | f::h::r=>qD (qC P n) (f::h::r)
    | _=>none
   | _=>none
def Wf:(t:Ty)->t.T->Prop
 | .int k,x=>k.min<=x/\x<=k.max
 | .bool,_=>True
 | .str,s=>s.size<=maxLen
 | .sl t,xs=>xs.length<=maxLen/\∀ x∈xs,Wf t x
 | .os _,_=>True
 | .pair a b,x=>Wf a x.1/\Wf b x.2
structure Bc (ι:Io) (G:af) (w:World):Prop where
 ro:∀ b k,ah G b=some k->k.ro=true
 rel:∀ b k,ah G b=some k->qy ι (aK G.length) w b k
def mT (ι:Io) (G:af) (ι':Io) (G':af):Prop:=(∃ S,G'=G++S)/\∀ b,b < G.length->ι' b=ι b
theorem mT.refl (ι:Io) (G:af):mT ι G ι G:=⟨⟨[],by simp⟩,fun _ _=>rfl⟩
theorem mT.len {ι ι':Io} {G G':af} (h:mT ι G ι' G'):G.length<=G'.length:=by obtain ⟨⟨S,rfl⟩,_⟩:=h;simp
theorem mT.trans {ι ι' ι'':Io} {G G' G'':af} (h:mT ι G ι' G') (h':mT ι' G' ι'' G''):mT ι G ι'' G'':=by
 have hl:=h.len
 obtain ⟨⟨S,rfl⟩,e⟩:=h
 obtain ⟨⟨S',rfl⟩,e'⟩:=h'
 exact ⟨⟨S++S',by simp⟩,fun b hb=>(e' b (by omega)).trans (e b hb)⟩
theorem Mg {G S:af} {b:Nat} (h:b < G.length):ah (G++S) b=ah G b:=by
 unfold ah;rw [List.getElem?_append_left h]
theorem mT.rep {ι ι':Io} {G G':af} (h:mT ι G ι' G') {t:Ty} {x:t.T} {cs:List Value} (r:ax Any G t x cs):ax Any G' t x cs:=by
 obtain ⟨⟨S,rfl⟩,_⟩:=h
 exact ax.frame (fun z _ hz=>⟨trivial,Mg hz⟩) t r
theorem mT.Ht {ι ι':Io} {G G':af} (h:mT ι G ι' G') {xs ys:List Value} (r:aZ ι (aK G.length) xs ys):aZ ι' (aK G'.length) xs ys :=
 r.mono (fun b hb=>Zm hb h.len) (fun b hb=>h.2 b hb)
section
variable {H:Type} {enc:TypeId×Value->H} {P:Program} {w:World}
def Mh (enc:TypeId×Value->H) (P:Program) (w:World) (T:Ty) (t:TypeId):Prop:=∀ fuel cs x,DataW.trod enc P w 0 (fun _=>true) true fuel t cs=some x->∀ ι G,Bc ι G w ->
 ∃ ι' G' y av,Bc ι' G' w/\mT ι G ι' G'/\ax Any G' T y av/\aZ ι' (aK G'.length) av cs/\Wf T y
def Cm (G:af) (T:Ty):List T.T->List Value->Prop
 | [],iN=>iN=[]
 | y::ys,iN=>ax Any G T y (iN.take T.size)/\Cm G T ys (iN.drop T.size)
theorem Cm.at {G:af} {T:Ty}:∀ {ys:List T.T} {iN:List Value},Cm G T ys iN->(iN.length=ys.length*T.size/\(∀ v∈iN,az v=true))/\∀ i (h:i < ys.length),ax Any G T ys[i] ((iN.drop (i*T.size)).take T.size)
 | [],iN,h=>by
  have h:iN=[]:=h
  subst h
  exact ⟨⟨by simp,by simp⟩,fun i h=>by simp at h⟩
 | y::ys,iN,h=>by
  obtain ⟨h1,h2⟩:=h
  have l1:=ax.len T h1
  have c1:=ax.cell T h1
  obtain ⟨⟨l2,c2⟩,r2⟩:=Cm.at h2
  simp only [List.length_take] at l1
  simp only [List.length_drop] at l2
  have hs:=Ty.size_pos T
  refine ⟨⟨by simp only [Z9];rw [Nat.add_mul];omega,fun v hv=>?_⟩,fun i hi=>?_⟩
  .rw [<- List.take_append_drop T.size iN] at hv
   rcases List.mem_append.1 hv with hv | hv
   .exact c1 v hv
   .exact c2 v hv
  .cases i with
   | zero=>simpa using h1
   | succ i =>
    have:=r2 i (by simpa using hi)
    rw [List.drop_drop] at this
    rw [show T.size+i*T.size=(i+1)*T.size by rw [Nat.add_mul,Nat.one_mul];exact Nat.add_comm _ _] at this
    exact this
theorem Cm.ext {ι ι':Io} {G G':af} (h:mT ι G ι' G') {T:Ty}:∀ {ys:List T.T} {iN:List Value},Cm G T ys iN->Cm G' T ys iN
 | [],_,r=>r
 | _::_,_,r=>⟨h.rep r.1,Cm.ext h r.2⟩
theorem Qbj {T:Ty} {t:TypeId} (hT:Mh enc P w T t):∀ (Mi:List (List Value)),(∀ cs∈Mi,∃ fuel x,DataW.trod enc P w 0 (fun _=>true) true fuel t cs=some x)->∀ ι G,Bc ι G w ->
  ∃ ι' G' ys iN,Bc ι' G' w/\mT ι G ι' G'/\ys.length=Mi.length/\Cm G' T ys iN/\aZ ι' (aK G'.length) iN Mi.flatten/\∀ y∈ys,Wf T y
 | [],_,ι,G,hR=>⟨ι,G,[],[],hR,.refl ι G,rfl,rfl,aZ.nil _ _,by simp⟩
 | cs::Mi,h,ι,G,hR=>by
  obtain ⟨fuel,x,hx⟩:=h cs (by simp)
  obtain ⟨ι1,G1,y,av,a1,a2,a3,a4,a5⟩:=hT fuel cs x hx ι G hR
  obtain ⟨ι2,G2,ys,iN,b1,b2,b3,b4,b5,b6⟩:=Qbj hT Mi (fun c hc=>h c (by simp [hc])) ι1 G1 a1
  have hl:=ax.len T a3
  refine ⟨ι2,G2,y::ys,av++iN,b1,a2.trans b2,by simp [b3],⟨?_,?_⟩,?_,?_⟩
  .rw [<- hl,List.take_left];exact b2.rep a3
  .rw [<- hl,List.drop_left];exact b4
  .rw [Ze];exact aZ.append (b2.Ht a4) b5
  .intro z hz
   rcases Z2 hz with rfl | hz
   .exact a5
   .exact b6 z hz
theorem Qm1 {α:Type} {f:Nat->List α} {c:Nat}:∀ (m:Nat),(∀ i,i < m->(f i).length=c)->(((List.range m).map f).flatten.length=m*c)/\∀ i r,i < m->r < c->((List.range m).map f).flatten[i*c+r]? = (f i)[r]?
 | 0,_=>⟨by simp,fun i r h=>by omega⟩
 | m+1,h=>by
  obtain ⟨h1,h2⟩:=Qm1 m (fun i hi=>h i (by omega))
  have hm:=h m (by omega)
  rw [List.range_succ,List.map_append,List.flatten_append]
  simp only [List.map_cons,List.map_nil,Ze,List.flatten_nil,List.append_nil]
  refine ⟨by rw [Zf,h1,hm,Nat.add_mul];omega,fun i r hi hr=>?_⟩
  rcases Nat.lt_or_ge i m with au | sP
  .have:i*c+r < m*c:=by
    have:=Zk c (show i+1<=m by omega)
    rw [Nat.add_mul] at this;omega
   rw [List.getElem?_append_left (by omega)]
   exact h2 i r au hr
  .have:i=m:=by omega
   subst this
   rw [Zq (by omega),h1]
   congr 1;omega
theorem Qnf (hl:laidOutB P=true) {t:TypeId} (hv:isVar P t=true):rowFine P t=true:=by
 unfold laidOutB at hl
 simp only [Z8,List.all_eq_true] at hl
 unfold isVar at hv
 simp only [Z8,Zj] at hv
 exact hl.1.1 t (List.mem_range.2 hv.1)
theorem Qm2 {ι:Io} {G:af} (hR:Bc ι G w) (l:Ev.Loc) (B:Option bx) (hB:∀ k,B=some k->k.ro=true/\qy (ι.set G.length l) (aK (G.length+1)) w G.length k) :
  Bc (ι.set G.length l) (G++[B]) w/\mT ι G (ι.set G.length l) (G++[B])/\(G++[B]).length=G.length+1/\ah (G++[B]) G.length=B:=by
 have hg:ah (G++[B]) G.length=B:=by unfold ah;rw [Zq (by omega)];simp;cases B<;>rfl
 have hl:(G++[B]).length=G.length+1:=by simp
 have key:∀ b k,ah (G++[B]) b=some k->(b < G.length/\ah G b=some k)\/(b=G.length/\B=some k):=by
  intro b k hb
  have:=Pa hb
  rcases Nat.lt_or_ge b G.length with h | h
  .rw [Mg h] at hb;exact .inl ⟨h,hb⟩
  .have:b=G.length:=by omega
   subst this;rw [hg] at hb;exact .inr ⟨rfl,hb⟩
 refine ⟨⟨fun b k hb=>?_,fun b k hb=>?_⟩,⟨⟨[B],rfl⟩,fun b hb=>Io.aS _ _ (by omega)⟩,hl,hg⟩
 .rcases key b k hb with ⟨_,h⟩ | ⟨_,h⟩
  .exact hR.ro b k h
  .exact (hB k h).1
 .rw [hl]
  rcases key b k hb with ⟨h0,h⟩ | ⟨rfl,h⟩
  .have:=hR.rel b k h
   have e:(ι.set G.length l) b=ι b:=Io.aS _ _ (by omega)
   refine ⟨by rw [e];exact this.lt,by rw [e];exact this.shape,by rw [e];exact this.map,by rw [e];exact this.fit,fun i hi=>?_,fun hr=>?_⟩
   .rw [e]
    obtain ⟨c,c1,c2,c3⟩:=this.cell i hi
    exact ⟨c,c1,c2.mono (fun z hz=>Nat.lt_succ_of_lt hz) (fun z hz=>Io.aS _ _ (Nat.ne_of_lt hz)),c3⟩
   .have:=hR.ro b k h
    rw [hr] at this;simp at this
  .exact (hB k h).2
theorem Qhy {T:Ty} {t e:TypeId} (ht:P.underlying t=some (.slice e)) (hT:Mh enc P w T e) (hc:P.cellsOf e=T.size):Mh enc P w (.sl T) t:=by
 intro fuel cs x hx ι G hR
 have bf:=Ty.size_pos T
 rcases DataW.trod_slice ht hx with ⟨rfl,_⟩ | ⟨a,len,cap,elems,rest,n,rfl,rfl,_,_,AA,hcm,hel,he,hsp,_⟩
 .refine ⟨ι,G,[],[.slice none 0 0],hR,.refl ι G,?_,aZ.cons .dG (aZ.nil _ _),by simp [Wf]⟩
  unfold ax;exact .inl ⟨rfl,rfl⟩
 .rw [hc] at he hsp
  obtain ⟨jY,VH⟩:=hsp rfl
  rcases Nat.eq_zero_or_pos cap with h0 | h0
  .subst h0
   obtain rfl:len=0:=by omega
   obtain ⟨p1,p2,p3,p4⟩:=Qm2 hR (⟨0,0,0⟩:Ev.Loc) none (fun k h=>by simp at h)
   refine ⟨_,_,[],[.slice (some ⟨G.length,0,none⟩) 0 T.size],p1,p2,?_,aZ.cons (.bD _ _ _ ?_) (aZ.nil _ _),by simp [Wf]⟩
   .unfold ax;exact .inr (.inl ⟨rfl,_,_,rfl⟩)
   .show G.length < _
    omega
  . -- every element can be read
   have rd:∀ i,i < cap->∃ c y,w.cells? 0 (a.add (i*T.size)) T.size=some c/\DataW.trod enc P w 0 (fun _=>true) true n e c=some y:=by
    intro i hi
    rcases Nat.lt_or_ge i len with h | h
    .have:=he i h
     rw [Z6 (by omega),Option.bind_eq_some_iff] at this
     obtain ⟨c,c1,c2⟩:=this
     exact ⟨c,_,c1,c2⟩
    .have:=VH (i - len) (by omega)
     rw [Z6 (by omega),show len+(i - len)=i by omega,Option.bind_eq_some_iff] at this
     obtain ⟨c,c1,c2⟩:=this
     exact ⟨c,_,c1,c2⟩
   have cellAt:∀ i r,i < cap->r < T.size->∃ v,w.cell? ((a.add (i*T.size)).add r)=some v:=by
    intro i r hi hr
    obtain ⟨c,y,c1,_⟩:=rd i hi
    obtain ⟨_,l,q⟩:=World.cells?_some c1
    exact ⟨c[r]'(by omega),by rw [q r hr,Z6]⟩
   obtain ⟨v0,Pb⟩:=cellAt 0 0 h0 bf
   have e0:(a.add (0*T.size)).add 0=a:=by
    obtain ⟨ab,ao,aq⟩:=a
    rw [Nat.zero_mul];unfold Addr.add;split<;>simp_all
   rw [e0] at Pb
   obtain ⟨fh,m,hs,ho,sw⟩:=Qdx Pb
   have Cn:∀ j,a.add j=⟨a.block,a.off+j,none⟩:=by
    intro j;obtain ⟨xb,xo,xs⟩:=a;simp only at sw;subst sw;unfold Addr.add;split<;>simp_all
   have En:∀ j r,(a.add j).add r=⟨a.block,a.off+(j+r),none⟩:=by
    intro j r;rw [Cn j];unfold Addr.add;split<;>simp_all<;>omega
   have jj:a.off+cap*T.size<=m:=by
    obtain ⟨v,hv⟩:=cellAt (cap - 1) (T.size - 1) (by omega) (by omega)
    rw [En] at hv
    obtain ⟨VI,m',bY,qE,_⟩:=Qdx hv
    simp only at bY qE
    rw [hs] at bY
    obtain ⟨rfl,rfl⟩:fh=VI/\m=m':=by simpa using bY
    have:cap*T.size=(cap - 1)*T.size+T.size:=by
     rw [show cap=cap - 1+1 by omega,Nat.add_mul,Nat.one_mul];simp
    omega
   let f:Nat->List Value:=fun i=>(w.cells? 0 (a.add (i*T.size)) T.size).getD []
   have hf:∀ i,i < cap->w.cells? 0 (a.add (i*T.size)) T.size=some (f i)/\(f i).length=T.size/\∃ y,DataW.trod enc P w 0 (fun _=>true) true n e (f i)=some y:=by
    intro i hi
    obtain ⟨c,y,c1,c2⟩:=rd i hi
    have:f i=c:=by simp only [f,c1];rfl
    rw [this]
    exact ⟨c1,(World.cells?_some c1).2.1,y,c2⟩
   obtain ⟨fl,fg⟩:=Qm1 (f:=f) (c:=T.size) len (fun i hi=>(hf i (by omega)).2.1)
   obtain ⟨ι1,G1,ys,iN,a1,a2,a3,a4,a5,a6⟩:=Qbj hT ((List.range len).map f) (fun c hc=>by
    obtain ⟨i,hi,rfl⟩:=List.mem_map.1 hc
    obtain ⟨_,_,y,hy⟩:=hf i (by have:=List.mem_range.1 hi;omega)
    exact ⟨n,y,hy⟩) ι G hR
   simp only [List.length_map,List.length_range] at a3
   obtain ⟨⟨l4,c4⟩,r4⟩:=a4.at
   have hle:=Zk T.size AA
   have qt:(ι1.set G1.length ⟨a.block,a.off,m⟩) G1.length=⟨a.block,a.off,m⟩:=Io.aB _ _ _
   obtain ⟨p1,p2,p3,p4⟩:=Qm2 a1 ⟨a.block,a.off,m⟩ (some ⟨iN,true,none⟩) (fun k hk=>by
    obtain rfl:_=k:=by simpa using hk
    refine ⟨rfl,by rw [qt];exact Qk2 hs,fun _=>⟨fh,by rw [qt];exact hs⟩,fun es h=>by simp at h,by rw [qt];simp only;rw [l4,a3];omega,fun j hj=>?_,fun h=>by simp at h⟩
    simp only at hj ⊢
    rw [qt];simp only
    have Jj:j < len*T.size:=by rw [l4,a3] at hj;exact hj
    have hd:j / T.size < len:=Nat.div_lt_of_lt_mul (by rw [Nat.mul_comm];exact Jj)
    have hr:=Nat.mod_lt j bf
    have uH:j / T.size*T.size+j % T.size=j:=by rw [Nat.mul_comm];exact Nat.div_add_mod j T.size
    obtain ⟨c1,c2,_⟩:=hf (j / T.size) (by omega)
    have Eo:=(World.cells?_some c1).2.2 (j % T.size) hr
    rw [En,uH] at Eo
    have hg:=fg (j / T.size) (j % T.size) hd hr
    rw [uH] at hg
    rw [Z6 (by omega)] at Eo
    rw [Z6 (by omega),Z6 (by omega)] at hg
    refine ⟨_,Eo,?_,c4 _ (List.getElem_mem _)⟩
    have:=a5.2 j hj (by omega)
    rw [Option.some.inj hg] at this
    exact this.mono (fun z hz=>Nat.lt_succ_of_lt hz) (fun z hz=>Io.aS _ _ (Nat.ne_of_lt hz)))
   refine ⟨_,_,ys,[.slice (some ⟨G1.length,0,none⟩) len T.size],p1,a2.trans p2,?_,aZ.cons ?_ (aZ.nil _ _),⟨by omega,a6⟩⟩
   .unfold ax
    refine .inr (.inr ⟨G1.length,0,_,by rw [a3],trivial,p4,by simp only;rw [l4];omega,fun i hi=>?_⟩)
    rw [Zo]
    exact p2.rep (r4 i hi)
   .have h2:=ay.ff (ι:=ι1.set G1.length ⟨a.block,a.off,m⟩) (D:=aK (G1++[some (⟨iN,true,none⟩:bx)]).length) ⟨G1.length,0,none⟩ len T.size cap (by show G1.length < _;omega) AA (by rw [qt];simp only;omega)
    have ha:(ι1.set G1.length ⟨a.block,a.off,m⟩).addr ⟨G1.length,0,none⟩=a:=by
     unfold Io.addr;rw [qt]
     have:=Cn 0
     obtain ⟨ab,ao,aq⟩:=a
     simp only at sw;subst sw;rfl
    rw [ha] at h2
    exact h2
theorem Qhz {g:TypeId->Option Ty} (hg:∀ t T,g t=some T->Mh enc P w T t/\P.cellsOf t=T.size):∀ (fs:List Field) (T:Ty) (off:Nat) (cs:List Value),qD g fs=some T ->
  (∀ j f,fs[j]? = some f->f.offset=off+((fs.take j).map fun f=>P.cellsOf f.type).sum)->(∀ f∈fs,∃ fuel x,DataW.trod enc P w 0 (fun _=>true) true fuel f.type ((cs.drop f.offset).take (P.cellsOf f.type))=some x)->∀ ι G,Bc ι G w ->
  (∃ ι' G' y av,Bc ι' G' w/\mT ι G ι' G'/\ax Any G' T y av/\aZ ι' (aK G'.length) av ((cs.drop off).take T.size)/\Wf T y)/\(fs.map fun f=>P.cellsOf f.type).sum=T.size
 | [],T,off,cs,h,_,_,_,_,_=>by simp [qD] at h
 | [f],T,off,cs,h,ho,hr,ι,G,hR=>by
  obtain ⟨h1,h2⟩:=hg f.type T h
  obtain ⟨fuel,x,hx⟩:=hr f (by simp)
  have:=ho 0 f rfl
  simp at this
  rw [this,h2] at hx
  exact ⟨h1 fuel _ x hx ι G hR,by simp [h2]⟩
 | f::f2::fs,T,off,cs,h,ho,hr,ι,G,hR=>by
  simp only [qD] at h
  replace h:=ob h;obtain ⟨a,ha,h⟩:=h
  replace h:=ob h;obtain ⟨b,hb,h⟩:=h
  simp at h;subst h
  obtain ⟨h1,h2⟩:=hg f.type a ha
  obtain ⟨fuel,x,hx⟩:=hr f (by simp)
  have e0:=ho 0 f rfl
  simp at e0
  rw [e0,h2] at hx
  obtain ⟨ι1,G1,y,av,a1,a2,a3,a4,a5⟩:=h1 fuel _ x hx ι G hR
  obtain ⟨⟨ι2,G2,z,bv,b1,b2,b3,b4,b5⟩,hs⟩:=Qhz hg (f2::fs) b (off+a.size) cs hb (fun j f' hj=>by
   have:=ho (j+1) f' (by simpa using hj)
   simp only [List.take_succ_cons,List.map_cons,List.sum_cons] at this
   rw [this,h2];omega) (fun f' hf'=>hr f' (by simp at hf' ⊢;exact .inr hf')) ι1 G1 a1
  have hl:=ax.len a a3
  refine ⟨⟨ι2,G2,(y,z),av++bv,b1,a2.trans b2,?_,?_,a5,b5⟩,by simp only [List.map_cons,List.sum_cons] at hs ⊢;rw [hs,h2];rfl⟩
  .unfold ax
   rw [<- hl,List.take_left,List.drop_left]
   exact ⟨b2.rep a3,b3⟩
  .show aZ _ _ _ ((cs.drop off).take (a.size+b.size))
   rw [List.take_add,List.drop_drop]
   exact aZ.append (b2.Ht a4) b4
theorem Mj (hl:laidOutB P=true):∀ (n:Nat) (t:TypeId) (T:Ty),qC P n t=some T->Mh enc P w T t/\P.cellsOf t=T.size
 | 0,t,T,h=>by simp [qC] at h
 | n+1,t,T,h=>by
  unfold qC at h
  cases hv:isVar P t with
  | false=>rw [hv] at h;simp at h
  | true =>
   rw [hv] at h
   simp only at h
   have hf:=Qnf hl hv
   unfold rowFine at hf
   rw [hv] at hf
   simp only [Zl,Bool.false_or] at hf
   split at h
   .rename_i hu
    simp at h;subst h
    rw [hu] at hf
    refine ⟨fun fuel cs x hx ι G hR=>?_,by simpa [Ty.size] using hf⟩
    obtain ⟨b,rfl,_⟩:=DataW.trod_bool hu hx
    exact ⟨ι,G,b,[.bool b],hR,.refl ι G,by unfold ax;rfl,aZ.cons (.bool b) (aZ.nil _ _),trivial⟩
   .rename_i k hu
    simp at h;subst h
    rw [hu] at hf
    refine ⟨fun fuel cs x hx ι G hR=>?_,by simpa [Ty.size] using hf⟩
    obtain ⟨m,rfl,_,hw⟩:=DataW.trod_int hu hx
    exact ⟨ι,G,m,[.int k m],hR,.refl ι G,by unfold ax;rfl,aZ.cons (.int k m) (aZ.nil _ _),(Go.Lit.wf_int_iff k m).1 hw⟩
   .rename_i hu
    simp at h;subst h
    rw [hu] at hf
    refine ⟨fun fuel cs x hx ι G hR=>?_,by simpa [Ty.size] using hf⟩
    obtain ⟨s,rfl,_,hw⟩:=DataW.trod_string hu hx
    exact ⟨ι,G,s,[.string s],hR,.refl ι G,by unfold ax;rfl,aZ.cons (.str s) (aZ.nil _ _),hw⟩
   .rename_i e hu
    replace h:=ob h;obtain ⟨u,iF,h⟩:=h
    simp at h;subst h
    rw [hu] at hf
    obtain ⟨h1,h2⟩:=Mj hl n e u iF
    simp only [Z8,beq_iff_eq] at hf
    exact ⟨Qhy hu h1 h2,by rw [hf.2];rfl⟩
   .rename_i fs hu
    rw [hu] at hf
    simp only [Z8,beq_iff_eq,List.all_eq_true] at hf
    obtain ⟨⟨f1,f2⟩,f3⟩:=hf
    have hT:qD (qC P n) fs.toList=some T:=by
     split at h
     .rename_i f h2 r e;rw [e];exact h
     .simp at h
    have off:∀ j f,fs.toList[j]? = some f->f.offset=0+((fs.toList.take j).map fun f=>P.cellsOf f.type).sum:=by
     intro j f hj
     have:=f3 j (List.mem_range.2 (Z0 hj).1)
     rw [hj] at this
     simpa using this
    have Mk:(fs.toList.map fun f=>P.cellsOf f.type).sum=T.size:=by
     clear h f1 f2 f3
     have gen:∀ (l:List Field) (T:Ty),qD (qC P n) l=some T->(l.map fun f=>P.cellsOf f.type).sum=T.size:=by
      intro l
      induction l with
      | nil=>intro T h;simp [qD] at h
      | cons f l ih =>
       intro T h
       cases l with
       | nil=>simp [(Mj hl n f.type T h).2]
       | cons f2 l =>
        simp only [qD] at h
        replace h:=ob h;obtain ⟨a,ha,h⟩:=h
        replace h:=ob h;obtain ⟨b,hb,h⟩:=h
        simp at h;subst h
        have:=ih b hb
        simp only [List.map_cons,List.sum_cons] at this ⊢
        rw [this,(Mj hl n f.type a ha).2];rfl
     exact gen _ _ hT
    refine ⟨fun fuel cs x hx ι G hR=>?_,by rw [f2,Mk]⟩
    obtain ⟨xs,m,rfl,_,oq,fZ,hx⟩:=DataW.trod_struct hu hx
    have:=(Qhz (enc:=enc) (P:=P) (w:=w) (fun t T h=>Mj hl n t T h) fs.toList T 0 cs hT off (fun f hf=>by
     obtain ⟨i,hi,rfl⟩:=List.mem_iff_getElem.1 hf
     have:=hx i fs.toList[i] (by rw [<- Array.getElem?_toList];exact Z6 hi)
     rw [Z6 (by rw [fZ];simpa using hi)] at this
     exact ⟨m,_,this⟩) ι G hR).1
    rw [List.drop_zero,Zs (by rw [oq,f2,Mk];exact Zd _)] at this
    exact this
   .simp at h
theorem VJ:∀ (n:Nat) (t:TypeId) (T:Ty),qC P n t=some T->T.dz=false
 | 0,t,T,h=>by simp [qC] at h
 | n+1,t,T,h=>by
  unfold qC at h
  split at h
  .simp at h
  .split at h
   .simp at h;subst h;rfl
   .simp at h;subst h;rfl
   .simp at h;subst h;rfl
   .replace h:=ob h;obtain ⟨u,_,h⟩:=h
    simp at h;subst h;rfl
   .rename_i fs _
    have gen:∀ (l:List Field) (T:Ty),qD (qC P n) l=some T->T.dz=false:=by
     intro l
     induction l with
     | nil=>intro T h;simp [qD] at h
     | cons f l ih =>
      intro T h
      cases l with
      | nil=>exact VJ n _ _ h
      | cons f2 l =>
       simp only [qD] at h
       replace h:=ob h;obtain ⟨a,ha,h⟩:=h
       replace h:=ob h;obtain ⟨b,hb,h⟩:=h
       simp at h;subst h
       show (a.dz || b.dz)=false
       rw [VJ n _ _ ha,ih b hb];rfl
    split at h
    .exact gen _ _ h
    .simp at h
   .simp at h
theorem Qzg {n:Nat} {t:TypeId} {T:Ty} (h:qC P n t=some T) {r:Reach} {base:Nat} {v:Value} (hv:Value.okWide P w r base t v) {ι:Io} {D:Nat->Prop} {av:List Value} (ha:aZ ι D av v.cells.toList) (hl:av.length=T.size) :
  ∃ wv,Hu T av wv/\ay ι D wv v:=by
 cases n with
 | zero=>simp [qC] at h
 | succ n =>
  have one:T.size=1->(∀ a b,T≠.pair a b)->v.cells.toList=[v]->∃ wv,Hu T av wv/\ay ι D wv v:=by
   intro h1 h2 h3
   rw [h1] at hl
   obtain ⟨x,rfl⟩:=List.length_eq_one_iff.1 hl
   rw [h3] at ha
   refine ⟨x,?_,ha.head⟩
   cases T with
   | pair a b=>exact absurd rfl (h2 a b)
   | int k=>rfl
   | bool=>rfl
   | str=>rfl
   | sl u=>rfl
   | os u=>rfl
  unfold qC at h
  split at h
  .simp at h
  .split at h
   .rename_i hu;simp at h;subst h
    obtain ⟨b,rfl⟩:=okWide_bool hu hv
    exact one rfl (by simp) rfl
   .rename_i k hu;simp at h;subst h
    obtain ⟨b,rfl⟩:=okWide_int hu hv
    exact one rfl (by simp) rfl
   .rename_i hu;simp at h;subst h
    obtain ⟨b,rfl⟩:=okWide_string hu hv
    exact one rfl (by simp) rfl
   .rename_i e hu
    replace h:=ob h;obtain ⟨u,_,h⟩:=h
    simp at h;subst h
    obtain ⟨a,b,c,rfl⟩:=okWide_slice hu hv
    exact one rfl (by simp) rfl
   .rename_i fs hu
    obtain ⟨cs,rfl,_⟩:=okWide_struct hu hv
    have:∃ a b,T=.pair a b:=by
     split at h
     .rename_i f f2 r _
      simp only [qD] at h
      replace h:=ob h;obtain ⟨a,ha,h⟩:=h
      replace h:=ob h;obtain ⟨b,hb,h⟩:=h
      simp at h;exact ⟨a,b,h.symm⟩
     .simp at h
    obtain ⟨a,b,rfl⟩:=this
    exact ⟨.agg ⟨av⟩,rfl,aZ.bZ (xs:=⟨av⟩) (ys:=cs) ha⟩
   .simp at h
def tysR (P:Program):List TypeId->Option (List Ty)
 | []=>some []
 | t::r=>Q1 (qC P 8 t) fun a=>Q1 (tysR P r) fun l=>some (a::l)
theorem Qi1 (hl:laidOutB P=true):∀ (ts:List TypeId) (Ts:List Ty) (vs:List Value) (ds:List (DataW H)) (ps:List MemPlace),tysR P ts=some Ts->DataW.TrodAll enc P w 0 (fun _=>true) true ts vs ds ps ->
  ∀ {base:Nat},(∀ (j:Nat) t v,ts[j]? = some t->vs[j]? = some v->Value.okWide P w .any base t v)->∀ ι G,Bc ι G w ->
  ∃ ι' G' iM ws,Bc ι' G' w/\mT ι G ι' G'/\aZ ι' (aK G'.length) ws vs/\(∀ ai,cY Any G' ai (iM.map fun _=>Kd.fz) iM ws (iM.map fun _=>[]))/\iM.map (·.1)=Ts/\(∀ v∈iM,Wf v.1 v.2)
 | [],Ts,vs,ds,ps,h,hA,base,_,ι,G,hR=>by
  simp [tysR] at h;subst h
  cases vs with
  | nil=>exact ⟨ι,G,[],[],hR,.refl ι G,aZ.nil _ _,fun _=>trivial,rfl,by simp⟩
  | cons v vs=>cases ds<;>exact absurd hA (by simp [DataW.TrodAll])
 | t::ts,Ts,vs,ds,ps,h,hA,base,hv,ι,G,hR=>by
  simp only [tysR] at h
  replace h:=ob h;obtain ⟨T,hT,h⟩:=h
  replace h:=ob h;obtain ⟨Ts',hTs,h⟩:=h
  simp at h;subst h
  cases vs with
  | nil=>cases ds<;>exact absurd hA (by simp [DataW.TrodAll])
  | cons v vs=>cases ds with
   | nil=>exact absurd hA (by simp [DataW.TrodAll])
   | cons d ds =>
    obtain ⟨p,q,h1,h2,_⟩:=hA
    obtain ⟨fuel,hx⟩:=h1
    obtain ⟨t1,t2⟩:=Mj (enc:=enc) (w:=w) hl 8 t T hT
    obtain ⟨ι1,G1,y,av,a1,a2,a3,a4,a5⟩:=t1 fuel _ _ hx ι G hR
    obtain ⟨ι2,G2,iM,ws,b1,b2,b3,b4,b5,b6⟩:=Qi1 hl ts Ts' vs ds q hTs h2 (fun j t v hj gK=>hv (j+1) t v (by simpa using hj) (by simpa using gK)) ι1 G1 a1
    obtain ⟨wv,w1,w2⟩:=Qzg hT (hv 0 t v rfl rfl) (b2.Ht a4) (ax.len T a3)
    refine ⟨ι2,G2,⟨T,y⟩::iM,wv::ws,b1,a2.trans b2,aZ.cons w2 b3,fun ai=>⟨⟨av,w1,dr.of T (VJ 8 t T hT) (b2.rep a3)⟩,b4 ai⟩,by simp [b5],?_⟩
    intro z hz
    rcases Z2 hz with rfl | hz
    .exact a5
    .exact b6 z hz
end
theorem Qvc:∀ (vs:List TV),∃ a:ji (vs.map (·.1)),fc (vs.map (·.1)) a=vs
 | []=>⟨(),rfl⟩
 | [v]=>⟨v.2,rfl⟩
 | v::u::r=>by
  obtain ⟨a,ha⟩:=Qvc (u::r)
  exact ⟨(v.2,a),by show (⟨v.1,v.2⟩:TV)::fc _ a=v::u::r;exact congrArg (List.cons v) ha⟩
def YT (P:Program) (A:cI) (d:Nat) (f:FuncId) (Ts:List Ty):Prop :=
 A.inline f=false/\(A.sig f).params=Ts.map (fun t=>(PM.ro,t))/\(A.sig f).results=[(false,.bool)] /\
 ∀ a:ji (A.sig f).eI,(∀ v∈fc (A.sig f).eI a,Wf v.1 v.2)->∃ r,(aM P A d).call f a=some r/\fc (A.sig f).cR r=[⟨.bool,true⟩]
theorem cY.zZ {G:af} {ai:Nat} {N:Nat->Prop} (hN:∀ z,N z):∀ {iM:List TV} {ws:List Value},cY Any G ai (iM.map fun _=>Kd.fz) iM ws (iM.map fun _=>[])->cY N G ai (iM.map fun _=>Kd.fz) iM ws (iM.map fun _=>[])
 | [],[],h=>h
 | [],_::_,h=>h
 | _::_,[],h=>h
 | t::iM,v::ws,h=>⟨h.1.frame (fun z _ _=>⟨hN z,rfl⟩) (by simp),cY.zZ hN h.2⟩
theorem pv_any {H:Type} {enc:TypeId×Value->H} {P:Program} {A:cI} {d:Nat} {f:FuncId} {Ts:List Ty} (hm:P.follows .mixedOrders=true) (hl:laidOutB P=true) (hE:lV P A) (hr:YT P A d f Ts)
  {ts:List TypeId} {vs:List Value} {ds:List (DataW H)} {ps:List MemPlace} {w:World} (ht:tysR P ts=some Ts) (hA:DataW.TrodAll enc P w 0 (fun _=>true) true ts vs ds ps)
  {base:Nat} (hv:∀ (j:Nat) t v,ts[j]? = some t->vs[j]? = some v->Value.okWide P w .any base t v) (hg:GW w) :
  Calls P f vs.toArray w fun e w'=>e=.returned (.bool true)/\Below w.heap.size w w':=by
 have hX:O_ P A.ev:=hE.x
 obtain ⟨hi,hp,Hv,hr⟩:=hr
 obtain ⟨ι,G,iM,ws,b1,_,b3,b4,b5,b6⟩:=Qi1 hl ts Ts vs ds ps ht hA hv (fun _=>⟨0,0,0⟩) [] ⟨fun b k h=>by simp [ah] at h,fun b k h=>by simp [ah] at h⟩
 have hpt:(A.sig f).eI=iM.map (·.1):=by
  unfold oz.eI;rw [hp,b5,List.map_map];exact List.map_id' _
 obtain ⟨a,ha⟩:∃ a:ji (A.sig f).eI,fc (A.sig f).eI a=iM:=by rw [hpt];exact Qvc iM
 obtain ⟨r,h1,h3⟩:=hr a (by rw [ha];exact b6)
 have cG:((iM.map fun _=>([]:List Nat))).flatten=[]:=by simp
 have Ml:((A.sig f).params.map fun p=>p.1.kd)=iM.map fun _=>Kd.fz:=by
  rw [hp,<- b5];simp [PM.kd]
 have hF:=(Qvb P A hE.v d).call 0 f hi a r h1 G (fun _=>False) ws (iM.map fun _=>[]) (fun _ h=>h.elim) (Nat.zero_le _) (by rw [cG];simp) (by rw [cG];simp) (by
  rw [ha,Ml]
  exact cY.zZ (fun z=>⟨by rw [cG];simp,fun h=>h⟩) (b4 0))
 obtain ⟨v,H',qB,bq,aO,c1,c2,_,_,_,_,_,c8,_⟩:=hF
 rw [Hv,h3] at c8
 obtain ⟨wv,i,rfl,rfl,cs,e1,e2⟩:=cY.one (k:=.fz) c8
 replace e2:=e2.2
 unfold ax at e2
 have Lh:cs=[wv]:=e1
 rw [Lh] at e2
 simp at e2;subst e2
 rw [c2] at c1
 have aT:run P A.ev d f ws 0 G=some (.bool true,H'):=c1
 have hS:=Qqj hm hX d f _ _ _ _ _ aT
 have hR:Ev.Rel ι (aK G.length) G w:=⟨b1.rel,fun b b' k k' hb gJ _ h=>by rw [b1.ro b k hb,b1.ro b' k' gJ] at h;simp at h,fun b k hb hr=>(by rw [b1.ro b k hb] at hr;simp at hr),hg⟩
 refine (hS.run ι w vs.toArray hR (by simpa using b3)).mono ?_
 rintro e w' ⟨ι',c,rfl,_,hv,qR⟩
 cases hv
 exact ⟨rfl,qR.os,qR.tape,qR.output,qR.size,fun k hk=>qR.frame k hk fun b aI hb hn=>by rw [b1.ro b aI hb] at hn;simp at hn⟩
def strData {H:Type} (bs:List (List UInt8)):DataW H:=.agg (bs.map fun b=>.lit (.string b))
theorem Qff {H:Type} {enc:TypeId×Value->H} {P:Program} {w:World} {base:Nat} {sp:Nat->Bool} {held:Bool} {fuel:Nat} {t e:TypeId} {n:Nat} {cs:List Value} {bs:List (List UInt8)} {p:List MemPlace}
  (ht:P.underlying t=some (.array n e)) (he:P.underlying e=some .string) (Co:P.cellsOf e=1) (VK:P.cellsOf t=n)
  (h:DataW.trod enc P w base sp held fuel t cs=some (strData bs,p)):cs=bs.map fun b=>Value.string ⟨b.toArray⟩:=by
 cases fuel with
 | zero=>simp [DataW.trod] at h
 | succ fuel =>
  simp only [DataW.trod,ht,Co,VK,Nat.mul_one] at h
  split at h
  .rename_i hl
   obtain ⟨xs,hm,hx⟩:=Option.map_eq_some_iff.1 h
   have OW:xs.map (·.1)=bs.map fun b=>(DataW.lit (.string b):DataW H):=by
    have:=congrArg Prod.fst hx
    simpa [strData] using this
   have hxl:xs.length=n:=by simpa using Go.Lib.mapM_length hm
   have VL:bs.length=n:=by
    have:=congrArg List.length OW
    simp at this
    omega
   apply List.ext_getElem?
   intro i
   by_cases hi:i < n
   .obtain ⟨b,hb,hf⟩:=Go.Lib.mapM_at hm i i (by simp [hi])
    obtain ⟨s,hc,rfl,_⟩:=DataW.trod_string he hf
    have h1:cs[i]? = some (.string s):=by
     have:=congrArg (·[0]?) hc
     simpa [List.getElem?_take,Zp] using this
    have h2:(xs.map (·.1))[i]? = some (DataW.lit (.string s.data.toList):DataW H):=by simp [hb]
    rw [OW] at h2
    simp only [List.getElem?_map,Option.map_eq_some_iff,DataW.lit.injEq,Lit.string.injEq] at h2
    obtain ⟨b',aX,rfl⟩:=h2
    simp [h1,aX]
   .rw [List.getElem?_eq_none (by omega),List.getElem?_eq_none (by simp;omega)]
  .cases h
theorem strs_block {P:Program} {W:World} {name:String} {bs:List (List UInt8)} {rest:List (String×DataW Unit)} {g:Nat} {t e:TypeId} {n:Nat}
  (hg:P.globalNamed name=some g) (VM:(P.globals[g]?).map (·.type)=some t) (ht:P.underlying t=some (.array n e)) (he:P.underlying e=some .string) (Co:P.cellsOf e=1) (VK:P.cellsOf t=n)
  (h:laidMet P ((name,strData bs)::rest) W):g < W.heap.size/\∃ t f,W.heap[g]? = some (.cells (bs.map fun b=>Value.string ⟨b.toArray⟩).toArray t f):=by
 obtain ⟨ps,⟨g',t',cs,fuel,p,q,hg',z_,nY,hd,_,_⟩,_⟩:=h
 obtain rfl:=Option.some.inj (hg.symm.trans hg')
 obtain rfl:=Option.some.inj (VM.symm.trans z_)
 have hc:=Qff ht he Co VK hd
 unfold World.var? at nY
 rw [hg] at nY
 simp only [Option.bind_some] at nY
 split at nY
 .rename_i sN t f hb
  injection nY with nY
  subst nY
  refine ⟨?_,t,f,by rw [hb,<- hc]⟩
  rcases Nat.lt_or_ge g W.heap.size with h | h
  .exact h
  .rw [Array.getElem?_eq_none h] at hb;simp at hb
 .simp at nY
def Ok {α:Type} (e:Option α) (Q:α->Prop):Prop:=∃ a,e=some a/\Q a
theorem Ok.some {α:Type} {a:α} {Q:α->Prop} (h:Q a):Ok (some a) Q:=⟨a,rfl,h⟩
theorem Ok.bind {α β:Type} {e:Option α} {K:α->Option β} {P:α->Prop} {Q:β->Prop} (h:Ok e P) (k:∀ a,P a->Ok (K a) Q):Ok (Q1 e K) Q:=by
 obtain ⟨a,rfl,ha⟩:=h;exact k a ha
theorem Ok.aa {α:Type} {b:Bool} {x y:Option α} {Q:α->Prop} (h1:b=true->Ok x Q) (h2:b=false->Ok y Q):Ok (aa b x y) Q:=by
 cases b with
 | true=>exact h1 rfl
 | false=>exact h2 rfl
theorem Ok.mono {α:Type} {e:Option α} {P Q:α->Prop} (h:Ok e P) (k:∀ a,P a->Q a):Ok e Q:=by
 obtain ⟨a,e,ha⟩:=h;exact ⟨a,e,k a ha⟩
theorem Ok.eq {α:Type} {e:Option α} {a:α} (h:e=Option.some a) {Q:α->Prop} (hq:Q a):Ok e Q:=⟨a,h,hq⟩
theorem Ok.val {α:Type} {e:Option α} {a:α} (h:Ok e fun b=>b=a):e=Option.some a:=by obtain ⟨b,h1,rfl⟩:=h;exact h1
theorem wr {n:Int} (h1:-9223372036854775808<=n) (h2:n<=9223372036854775807):IntKind.i64.wrap n=n:=IntWalk.i64_in n ⟨h1,h2⟩
def Mm (m:Nat) (c:List Int×Int×Int):Prop:=Qzf c.1/\0<=c.2.1/\c.2.1<=m
theorem Mm.mono {m n:Nat} {c:List Int×Int×Int} (h:Mm m c) (hn:m<=n):Mm n c:=⟨h.1,h.2.1,by have:=h.2.2;omega⟩
theorem Mm.new {x:List Int} (h:Qzf x):Mm 0 (x,0,0):=⟨h,by simp,by simp⟩
theorem Q4 {α:Type} {x y:Option α}:aa true x y=x:=rfl
theorem Q5 {α:Type} {x y:Option α}:aa false x y=y:=rfl
theorem uE {α:Type} {b:Bool} {x y:α}:aa b (some x) (some y)=some (if b then x else y):=by cases b<;>rfl
theorem Qt9 {α:Type} {b:Bool} {x:Option α}:aa b x x=x:=by cases b<;>rfl
theorem Q9 {α β:Type} (a:α) (f:α->Option β):Q1 (some a) f=f a:=(rfl)
theorem lW {σ β:Type} {F:(σ->Option β)->σ->Option β} {Q:β->Prop} (I:Nat->σ->Prop)
  (step:∀ n s ag,I n s->(∀ m s',m < n->I m s'->Ok (ag s') Q)->Ok (F ag s) Q):∀ (fuel n:Nat) (s:σ),n < fuel->I n s->Ok (Q8 F fuel s) Q
 | 0,n,s,h,_=>by omega
 | fuel+1,n,s,h,hi=>step n s _ hi fun m s' hm eU=>lW I step fuel m s' (by omega) eU
def d_ {α τ β:Type} (step:α->Nat->τ->(τ->Option β)->Option β) (fin:τ->Option β):List α->Nat->τ->Option β
 | [],_,t=>fin t
 | x::r,i,t=>step x i t fun t'=>d_ step fin r (i+1) t'
theorem Qdg {σ τ α β:Type} (mk:τ->Int->σ) {F:(σ->Option β)->σ->Option β} (l:List α) (step:α->Nat->τ->(τ->Option β)->Option β) (fin:τ->Option β)
  (h1:∀ ag t (i:Nat) x,l[i]? = some x->F ag (mk t i)=step x i t fun t'=>ag (mk t' ((i+1:Nat):Int)))
  (h2:∀ ag t,F ag (mk t (l.length:Int))=fin t):∀ (fuel i:Nat) (t:τ),l.length < fuel+i->i<=l.length->Q8 F fuel (mk t i)=d_ step fin (l.drop i) i t
 | 0,i,t,h,hi=>by omega
 | fuel+1,i,t,h,hi=>by
  simp only [Q8]
  rcases Nat.lt_or_ge i l.length with au | sP
  .rw [h1 _ t i l[i] (Z6 au),List.drop_eq_getElem_cons au]
   simp only [d_]
   congr 1
   funext t'
   exact Qdg mk l step fin h1 h2 fuel (i+1) t' (by omega) (by omega)
  .have:i=l.length:=by omega
   subst this
   rw [h2,List.drop_length];rfl
theorem Qb {σ τ α β:Type} (mk:τ->Int->σ) {F:(σ->Option β)->σ->Option β} (l:List α) (step:α->Nat->τ->(τ->Option β)->Option β) (fin:τ->Option β)
  (h1:∀ ag t (i:Nat) x,l[i]? = some x->F ag (mk t i)=step x i t fun t'=>ag (mk t' ((i+1:Nat):Int)))
  (h2:∀ ag t,F ag (mk t (l.length:Int))=fin t) {fuel:Nat} (hl:l.length < fuel) (t:τ):Q8 F fuel (mk t 0)=d_ step fin l 0 t:=by
 have:=Qdg mk l step fin h1 h2 fuel 0 t (by omega) (by omega)
 simpa using this
theorem BW {α τ β:Type} {p:α->Bool} {no:Option β} {fin:τ->Option β}:∀ (l:List α) (i:Nat) (t:τ),
  d_ (fun x _ t k=>aa (p x) (k t) no) fin l i t=aa (l.all p) (fin t) no
 | [],i,t=>rfl
 | x::r,i,t=>by
  simp only [d_,List.all_cons]
  cases p x with
  | true=>simp only [Q4,Zg];exact BW r (i+1) t
  | false=>rfl
def cE {α τ:Type} (f:α->Nat->τ->τ):List α->Nat->τ->τ
 | [],_,t=>t
 | x::r,i,t=>cE f r (i+1) (f x i t)
theorem wQ {α τ β:Type} {f:α->Nat->τ->τ} {fin:τ->Option β}:∀ (l:List α) (i:Nat) (t:τ),
  d_ (fun x i t k=>k (f x i t)) fin l i t=fin (cE f l i t)
 | [],i,t=>rfl
 | x::r,i,t=>by simp only [d_,cE];exact wQ r (i+1) (f x i t)
def fL {α γ:Type} (c:α->Nat->Bool) (e:α->Nat->γ):List α->Nat->List γ
 | [],_=>[]
 | x::r,i=>if c x i then e x i::fL c e r (i+1) else fL c e r (i+1)
theorem Ue {α γ:Type} {c:α->Nat->Bool} {e:α->Nat->γ}:∀ (l:List α) (i:Nat),(fL c e l i).length<=l.length
 | [],i=>by simp [fL]
 | x::r,i=>by have:=Ue (c:=c) (e:=e) r (i+1);unfold fL;split<;>simp<;>omega
theorem Uf {α γ:Type} {c:α->Nat->Bool} {e:α->Nat->γ} {y:γ}:∀ (l:List α) (i:Nat),y∈fL c e l i->∃ (j:Nat) (x:α),l[j]? = some x/\c x (i+j)=true/\y=e x (i+j)
 | [],i,h=>by simp [fL] at h
 | x::r,i,h=>by
  have step:y∈fL c e r (i+1)->∃ (j:Nat) (z:α),(x::r)[j]? = some z/\c z (i+j)=true/\y=e z (i+j):=by
   intro h
   obtain ⟨j,z,h1,h2,h3⟩:=Uf r (i+1) h
   exact ⟨j+1,z,by simpa using h1,by rw [<- h2];congr 1;omega,by rw [h3];congr 1;omega⟩
  unfold fL at h
  split at h
  .rename_i hc
   rcases Z2 h with rfl | h
   .exact ⟨0,x,rfl,hc,rfl⟩
   .exact step h
  .exact step h
theorem DQ {α γ β:Type} {c:α->Nat->Bool} {e:α->Nat->γ} {fin:List γ->Option β} {w:Nat}:∀ (l:List α) (i:Nat) (t:List γ),(t.length+l.length)*w<=100000000 ->
  d_ (fun x i t k=>aa (c x i) (aa (Nat.ble ((t.length+[e x i].length)*w) Q7) (k (t++[e x i])) none) (k t)) fin l i t=fin (t++fL c e l i)
 | [],i,t,_=>by simp [d_,fL]
 | x::r,i,t,h=>by
  simp only [d_,fL]
  cases hc:c x i with
  | false=>simp only [Q5,Bool.false_eq_true,if_false];exact DQ r (i+1) t (Nat.le_trans (Zk w (by simp)) h)
  | true =>
   have hr:Nat.ble ((t.length+[e x i].length)*w) Q7=true:=by
    rw [Nat.ble_eq]
    have:(t.length+[e x i].length)*w<=(t.length+(x::r).length)*w:=Zk w (by simp)
    unfold Q7;omega
   simp only [Q4,hr,if_true]
   have hw:((t++[e x i]).length+r.length)*w<=100000000:=by
    refine Nat.le_trans (Zk w ?_) h
    simp;omega
   rw [DQ r (i+1) (t++[e x i]) hw]
   simp
theorem Q3 (i:Nat):((i:Int)).toNat=i:=Int.toNat_natCast i
theorem nn (i:Nat):decide (0<=(i:Int))=true:=by simp
theorem aN {i:Nat} (h:i < 9223372036854775807):IntKind.i64.wrap ((i:Int)+1)=((i+1:Nat):Int):=by
 rw [wr (by omega) (by omega)];omega
theorem bW {α:Type} {l:List α} {i:Nat} {x:α} (h:l[i]? = some x):decide ((i:Int) < ((l.length:Nat):Int))=true:=by
 have:=(Z0 h).1
 simp;omega
theorem sU {α:Type} {l:List α} {i:Nat} {x:α} (h:l[i]? = some x):Nat.blt i l.length=true:=by
 have:=(Z0 h).1
 simp [Nat.blt];omega
theorem bB (n:Nat):decide ((n:Int) < (n:Int))=false:=by simp
theorem room {n m w:Nat} (h:(n+m)*w<=100000000):Nat.ble ((n+m)*w) Q7=true:=by
 rw [Nat.ble_eq];unfold Q7;omega
theorem Qo {a b:Nat} (h:a < b):Nat.blt a b=true:=by simp [Nat.blt];omega
theorem VN (w:World) (os:Array Obj) {k:Nat} (h:k < w.heap.size):(Go.Sort.grow w os).heap[k]? = w.heap[k]?:=by
 show (w.heap++os)[k]? = _
 rw [Array.getElem?_append_left h]
theorem Rel.grow {ι:Io} {D:Nat->Prop} {H:af} {w:World} (h:Rel ι D H w) (os:Array Obj):Rel ι D H (Go.Sort.grow w os) :=
 ⟨fun b k hk=>(h.aI b k hk).bw (VN w os (h.lt hk)) rfl (fun _ _ _ x=>x),h.inj,h.h_,h.gw.cv (by show _<=(w.heap++os).size;simp) (fun k hk=>VN w os (by have:=h.gw.1;omega))⟩
theorem Fr.grow (ι:Io) (H:af) (w:World) (os:Array Obj):Fr ι H w ι H (Go.Sort.grow w os) :=
 ⟨Zd _,fun _ _=>rfl,rfl,rfl,rfl,by show _<=(w.heap++os).size;simp,fun k hk _=>VN w os hk,fun b aI h hr=>.inr ⟨b,aI,h,hr,rfl⟩,fun _ _ h _=>h⟩
theorem cY.cons_inv {N:Nat->Prop} {H:af} {ai:Nat} {k:Kd} {ks:List Kd} {v:TV} {vs:List TV} {ws:List Value} {is:List (List Nat)} (h:cY N H ai (k::ks) (v::vs) ws is):∃ w Pc i Pd,ws=w::Pc/\is=i::Pd/\HR N H ai k v w i/\cY N H ai ks vs Pc Pd:=by
 cases ws with
 | nil=>cases is<;>exact absurd h id
 | cons w ws=>cases is with
  | nil=>exact absurd h id
  | cons i is=>exact ⟨w,ws,i,is,rfl,rfl,h.1,h.2⟩
theorem cY.sy {N:Nat->Prop} {H:af} {ai:Nat} {ws:List Value} {is:List (List Nat)} (h:cY N H ai [] [] ws is):ws=[]/\is=[]:=by
 cases ws with
 | nil=>cases is with
  | nil=>exact ⟨rfl,rfl⟩
  | cons _ _=>exact absurd h id
 | cons _ _=>cases is<;>exact absurd h id
def BP (n:Int):Option ByteArray:=aa (decide (-9223372036854775808<=n)&&decide (n<=9223372036854775807)) (some ⟨(Go.Lib.itoa n).toArray⟩) none
def Gv:List Value->Nat->af->Option (Value×af)
 | [.int .i64 n],_,H=>Q1 (BP n) fun s=>some (.string s,H)
 | _,_,_=>none
def Qq7:oz:=⟨[(.ro,.int .i64)],[(false,.str)]⟩
theorem Qwv (ai:Nat):Cj Qq7 (fun n:Int=>BP n) Gv ai:=by
 rintro (n:Int) r h H fy ws an Hp zX hnd Hq hh
 obtain ⟨w0,i0,rfl,rfl,h0⟩:∃ w0 i0,ws=[w0]/\an=[i0]/\HR (fun z=>z∉an.flatten/\¬ fy z) H ai .fz ⟨.int .i64,n⟩ w0 i0:=by
  obtain ⟨w0,Pc,i0,Pd,rfl,rfl,h0,hh⟩:=cY.cons_inv hh
  obtain ⟨rfl,rfl⟩:=cY.sy hh
  exact ⟨w0,i0,rfl,rfl,h0⟩
 obtain ⟨VO,e0,o0,q0⟩:=h0
 obtain rfl:VO=[w0]:=e0
 unfold ax at q0
 injection q0 with q0
 have o0:i0=[]:=o0
 subst q0 o0
 replace h:BP n=some r:=h
 refine ⟨.string r,H,[.string r],[[]],[],by simp only [Gv,h,Q1],rfl,Zd _,fun _ _ _=>rfl,?_,by simp,by simp,⟨⟨[.string r],rfl,rfl,by unfold ax;rfl⟩,trivial⟩,trivial⟩
 simp [Qq7,Mn]
def Qm3 (P:Program) (F:FuncId):Prop :=
 ∀ (n:Int) (w:World),-9223372036854775808<=n->n<=9223372036854775807->GW w->Calls P F #[.int .i64 n] w fun e w'=>e=.returned (.string ⟨(Go.Lib.itoa n).toArray⟩)/\∃ k os,w'=Go.Sort.grow (w.drewN k) os
theorem Qq8 {P:Program} {F:FuncId} (qF:∀ (bS:Array Value) (w:World),(callFunc F bS).run P w=.ok (.enter F bS) w) (walk:Qm3 P F) :
  ∀ args ai H v H',Gv args ai H=some (v,H')->g_ P F args ai H v H':=by
 intro args ai H v H' h
 unfold Gv at h
 split at h
 .rename_i n
  replace h:=Q2 h;obtain ⟨s,h1,h⟩:=h
  simp at h;obtain ⟨rfl,rfl⟩:=h
  unfold BP aa at h1
  split at h1
  .rename_i hc
   simp only [Z8,Zj] at hc
   injection h1 with h1;subst h1
   refine ⟨fun _ _=>.str _,fun _ _=>Ab.refl ai H,qF,fun ι w bS hR hargs=>?_⟩
   obtain ⟨xs,rfl⟩:∃ xs:List Value,bS=xs.toArray:=⟨bS.toList,by simp⟩
   obtain ⟨al,ar⟩:=hargs
   simp only [List.toList_toArray] at al ar
   match xs,al,ar with
   | [y0],_,ar =>
    have r0:=ar 0 (by simp) (by simp)
    simp only [List.getElem_cons_zero] at r0
    have e0:=r0.aL
    subst e0
    refine (walk n w hc.1 hc.2 hR.gw).mono ?_
    rintro e w' ⟨rfl,k,os,rfl⟩
    have hRd:Rel ι (aK H.length) H (w.drewN k):=hR.bz (w':=w.drewN k) rfl
    exact ⟨ι,_,rfl,Rel.grow hRd os,.str _,((Fr.refl ι H w).bz (w'':=w.drewN k) rfl rfl rfl rfl).trans (Fr.grow ι _ _ os)⟩
  .simp at h1
 .simp at h
def BQ (s:ByteArray) (n:Int):Option ByteArray:=aa (decide (0<=n)&&(decide (n<=1000000)&&Nat.ble s.size 1000000)) (some ⟨(Go.Lib.repeatL s.data.toList n.toNat).toArray⟩) none
def Gw:List Value->Nat->af->Option (Value×af)
 | [.string s,.int .i64 n],_,H=>Q1 (BQ s n) fun t=>some (.string t,H)
 | _,_,_=>none
def Qve:oz:=⟨[(.ro,.str),(.ro,.int .i64)],[(false,.str)]⟩
theorem Qzh (ai:Nat):Cj Qve (fun a:ByteArray×Int=>BQ a.1 a.2) Gw ai:=by
 rintro (⟨s,t⟩:ByteArray×Int) r h H fy ws an Hp zX hnd Hq hh
 obtain ⟨w0,i0,w1,i1,rfl,rfl,h0,h1⟩:∃ w0 i0 w1 i1,ws=[w0,w1]/\an=[i0,i1]/\HR (fun z=>z∉an.flatten/\¬ fy z) H ai .fz ⟨.str,s⟩ w0 i0/\HR (fun z=>z∉an.flatten/\¬ fy z) H ai .fz ⟨.int .i64,t⟩ w1 i1:=by
  obtain ⟨w0,Pc,i0,Pd,rfl,rfl,h0,hh⟩:=cY.cons_inv hh
  obtain ⟨w1,ws2,i1,is2,rfl,rfl,h1,hh⟩:=cY.cons_inv hh
  obtain ⟨rfl,rfl⟩:=cY.sy hh
  exact ⟨w0,i0,w1,i1,rfl,rfl,h0,h1⟩
 obtain ⟨VO,e0,o0,q0⟩:=h0
 obtain ⟨cs1,e1,o1,q1⟩:=h1
 obtain rfl:VO=[w0]:=e0
 obtain rfl:cs1=[w1]:=e1
 unfold ax at q0 q1
 injection q0 with q0;injection q1 with q1
 have o0:i0=[]:=o0
 have o1:i1=[]:=o1
 subst q0 q1 o0 o1
 replace h:BQ s t=some r:=h
 refine ⟨.string r,H,[.string r],[[]],[],by simp only [Gw,h,Q1],rfl,Zd _,fun _ _ _=>rfl,?_,by simp,by simp,⟨⟨[.string r],rfl,rfl,by unfold ax;rfl⟩,trivial⟩,trivial⟩
 simp [Qve,Mn]
def Qq9 (P:Program) (F:FuncId):Prop :=
 ∀ (s:ByteArray) (n:Nat) (w:World),n<=1000000->s.size<=1000000->Calls P F #[.string s,.int .i64 n] w fun e w'=>e=.returned (.string ⟨(Go.Lib.repeatL s.data.toList n).toArray⟩)/\Go.RowKit.Below w.heap.size w w'
theorem Rel.below {ι:Io} {D:Nat->Prop} {H:af} {w w':World} (h:Rel ι D H w) (b:Go.RowKit.Below w.heap.size w w'):Rel ι D H w' :=
 ⟨fun c k hk=>(h.aI c k hk).bw (b.block _ (h.lt hk)) rfl (fun _ _ _ x=>x),h.inj,h.h_,h.gw.cv b.size (fun k hk=>b.block k (by have:=h.gw.1;omega))⟩
theorem Fr.below (ι:Io) (H:af) {w w':World} (b:Go.RowKit.Below w.heap.size w w'):Fr ι H w ι H w' :=
 ⟨Zd _,fun _ _=>rfl,b.os,b.tape,b.output,b.size,fun k hk _=>b.block k hk,fun c aI h hr=>.inr ⟨c,aI,h,hr,rfl⟩,fun _ _ h _=>h⟩
theorem Qtb {P:Program} {F:FuncId} (qF:∀ (bS:Array Value) (w:World),(callFunc F bS).run P w=.ok (.enter F bS) w) (walk:Qq9 P F) :
  ∀ args ai H v H',Gw args ai H=some (v,H')->g_ P F args ai H v H':=by
 intro args ai H v H' h
 unfold Gw at h
 split at h
 .rename_i s n
  replace h:=Q2 h;obtain ⟨t,h1,h⟩:=h
  simp at h;obtain ⟨rfl,rfl⟩:=h
  unfold BQ aa at h1
  split at h1
  .rename_i hc
   simp only [Z8,Zj] at hc
   obtain ⟨m,rfl⟩:=Int.eq_ofNat_of_zero_le hc.1
   injection h1 with h1;subst h1
   refine ⟨fun _ _=>.str _,fun _ _=>Ab.refl ai H,qF,fun ι w bS hR hargs=>?_⟩
   obtain ⟨xs,rfl⟩:∃ xs:List Value,bS=xs.toArray:=⟨bS.toList,by simp⟩
   obtain ⟨al,ar⟩:=hargs
   simp only [List.toList_toArray] at al ar
   match xs,al,ar with
   | [y0,y1],_,ar =>
    have r0:=ar 0 (by simp) (by simp)
    have r1:=ar 1 (by simp) (by simp)
    simp only [List.getElem_cons_zero,List.getElem_cons_succ] at r0 r1
    have e0:=r0.bP
    have e1:=r1.aL
    subst e0 e1
    refine (walk s m w (by omega) (Zi hc.2.2)).mono ?_
    rintro e w' ⟨rfl,hb⟩
    exact ⟨ι,_,rfl,Rel.below hR hb,.str _,Fr.below ι H hb⟩
  .simp at h1
 .simp at h
end Go.Pv
namespace Go.Proofs
open Go.Shelf
def Tryz.mh:Go.Shelf.Ren:=⟨fun | 171=>172 | 243=>186 | 246=>196 | 283=>204 | 284=>205 | 285=>206 | 286=>207 | 129=>212 | 317=>211 | 318=>213 | 319=>214 | 320=>215 | 337=>218 | 338=>219 | n=>n,fun | 3=>3 | 9=>9 | 2=>2 | 4=>4 | 171=>208 | 0=>0 | 53=>192 | 37=>198 | 5=>5 | 173=>211 | 212=>216 | 51=>189 | 20=>20 | 213=>217 | 46=>177 | 232=>223 | 233=>224 | n=>n,fun | 17=>1 | 18=>3 | 19=>4 | n=>n⟩
theorem Tryz.Aa:Go.Proofs.LaysM.n171 Tryz.prog Tryz.mh:={
 mixed:=by kernel_rfl
 f129:=Tryz.func212.trans (congrArg some (by kernel_rfl))
 f171:=Tryz.func172.trans (congrArg some (by kernel_rfl))
 f243:=Tryz.func186.trans (congrArg some (by kernel_rfl))
 f246:=Tryz.func196.trans (congrArg some (by kernel_rfl))
 f283:=Tryz.func204.trans (congrArg some (by kernel_rfl))
 f284:=Tryz.func205.trans (congrArg some (by kernel_rfl))
 f285:=Tryz.func206.trans (congrArg some (by kernel_rfl))
 f286:=Tryz.func207.trans (congrArg some (by kernel_rfl))
 f317:=Tryz.func211.trans (congrArg some (by kernel_rfl))
 f318:=Tryz.func213.trans (congrArg some (by kernel_rfl))
 f319:=Tryz.func214.trans (congrArg some (by kernel_rfl))
 f320:=Tryz.func215.trans (congrArg some (by kernel_rfl))
 f337:=Tryz.func218.trans (congrArg some (by kernel_rfl))
 f338:=Tryz.func219.trans (congrArg some (by kernel_rfl))
 t0:=Tryz.underlying0
 a0:=Tryz.isAgg0
 z0:=Tryz.sizeOf0
 v0:=Tryz.zeroValue0
 t2:=Tryz.underlying2
 a2:=Tryz.isAgg2
 z2:=Tryz.sizeOf2
 v2:=Tryz.zeroValue2
 t3:=Tryz.underlying3
 a3:=Tryz.isAgg3
 z3:=Tryz.sizeOf3
 v3:=Tryz.zeroValue3
 t4:=Tryz.underlying4
 a4:=Tryz.isAgg4
 z4:=Tryz.sizeOf4
 v4:=Tryz.zeroValue4
 t5:=Tryz.underlying5
 a5:=Tryz.isAgg5
 z5:=Tryz.sizeOf5
 v5:=Tryz.zeroValue5
 t9:=Tryz.underlying9
 a9:=Tryz.isAgg9
 z9:=Tryz.sizeOf9
 v9:=Tryz.zeroValue9
 t20:=Tryz.underlying20
 a20:=Tryz.isAgg20
 z20:=Tryz.sizeOf20
 v20:=Tryz.zeroValue20
 t37:=Tryz.underlying198
 a37:=Tryz.isAgg198
 z37:=Tryz.sizeOf198
 v37:=Tryz.zeroValue198
 t46:=Tryz.underlying177
 a46:=Tryz.isAgg177
 z46:=Tryz.sizeOf177
 v46:=Tryz.zeroValue177
 t51:=Tryz.underlying189
 a51:=Tryz.isAgg189
 z51:=Tryz.sizeOf189
 v51:=Tryz.zeroValue189
 t53:=Tryz.underlying192
 a53:=Tryz.isAgg192
 z53:=Tryz.sizeOf192
 v53:=Tryz.zeroValue192
 t171:=Tryz.underlying208
 a171:=Tryz.isAgg208
 z171:=Tryz.sizeOf208
 v171:=Tryz.zeroValue208
 t173:=Tryz.underlying211
 a173:=Tryz.isAgg211
 z173:=Tryz.sizeOf211
 v173:=Tryz.zeroValue211
 t212:=Tryz.underlying216
 a212:=Tryz.isAgg216
 z212:=Tryz.sizeOf216
 v212:=Tryz.zeroValue216
 t213:=Tryz.underlying217
 a213:=Tryz.isAgg217
 z213:=Tryz.sizeOf217
 t232:=Tryz.underlying223
 a232:=Tryz.isAgg223
 z232:=Tryz.sizeOf223
 v232:=Tryz.zeroValue223
 t233:=Tryz.underlying224
 a233:=Tryz.isAgg224
 z233:=Tryz.sizeOf224
 v233:=Tryz.zeroValue224
 g17:=by kernel_rfl
 g18:=by kernel_rfl
 g19:=by kernel_rfl
 i0:=by kernel_rfl
 i2:=by kernel_rfl
 i3:=by kernel_rfl
 i4:=by kernel_rfl
 i5:=by kernel_rfl
 i9:=by kernel_rfl
 i20:=by kernel_rfl
 i37:=by kernel_rfl
 i46:=by kernel_rfl
 i51:=by kernel_rfl
 i53:=by kernel_rfl
 i171:=by kernel_rfl
 i173:=by kernel_rfl
 i212:=by kernel_rfl
 i232:=by kernel_rfl
 i233:=by kernel_rfl
 m17:=by kernel_rfl
 m18:=by kernel_rfl
 m19:=by kernel_rfl }
end Go.Proofs
namespace Go.Proofs.YtcoimfbmgjhcjaaGreatDoor
open Go.RowKit Go.Pv Go.Shelf
theorem Qfk:Tryz.prog.globalNamed "internal/strconv.uint64pow10" = some 1:=by kernel_rfl
theorem Qqa:((Lib.pow10Tab.map fun z=>Value.int .u64 z).toArray)=(#[.int .u64 1,.int .u64 10,.int .u64 100,.int .u64 1000,.int .u64 10000,.int .u64 100000,.int .u64 1000000,.int .u64 10000000,.int .u64 100000000,.int .u64 1000000000,.int .u64 10000000000,.int .u64 100000000000,.int .u64 1000000000000,.int .u64 10000000000000,.int .u64 100000000000000,.int .u64 1000000000000000,.int .u64 10000000000000000,.int .u64 100000000000000000,.int .u64 1000000000000000000,.int .u64 10000000000000000000]:Array Value):=by kernel_rfl
theorem Qzi {w:World} (h:Go.Ev.GW w):Lib.TabIs Tryz.prog w "internal/strconv.uint64pow10" .u64 Lib.pow10Tab:=by
 obtain ⟨_,t,f,h2⟩:=h.2 (1,[.int .u64 1,.int .u64 10,.int .u64 100,.int .u64 1000,.int .u64 10000,.int .u64 100000,.int .u64 1000000,.int .u64 10000000,.int .u64 100000000,.int .u64 1000000000,.int .u64 10000000000,.int .u64 100000000000,.int .u64 1000000000000,.int .u64 10000000000000,.int .u64 100000000000000,.int .u64 1000000000000000,.int .u64 10000000000000000,.int .u64 100000000000000000,.int .u64 1000000000000000000,.int .u64 10000000000000000000]) (by unfold Go.Ev.gTabs;simp)
 unfold Lib.TabIs World.var?
 rw [Qfk,Qqa]
 simp only [Option.bind_some]
 rw [h2]
theorem Qqb {w:World} (h:Lib.TabIs Tryz.prog w "internal/strconv.uint64pow10" .u64 Lib.pow10Tab):1 < w.heap.size/\∃ t f,w.heap[1]? = some (.cells ([.int .u64 1,.int .u64 10,.int .u64 100,.int .u64 1000,.int .u64 10000,.int .u64 100000,.int .u64 1000000,.int .u64 10000000,.int .u64 100000000,.int .u64 1000000000,.int .u64 10000000000,.int .u64 100000000000,.int .u64 1000000000000,.int .u64 10000000000000,.int .u64 100000000000000,.int .u64 1000000000000000,.int .u64 10000000000000000,.int .u64 100000000000000000,.int .u64 1000000000000000000,.int .u64 10000000000000000000]:List Value).toArray t f):=by
 unfold Lib.TabIs World.var? at h
 rw [Qfk,Qqa] at h
 simp only [Option.bind_some] at h
 split at h
 .rename_i cs t f hc
  injection h with h
  have au:1 < w.heap.size:=by
   rcases Nat.lt_or_ge 1 w.heap.size with g | g
   .exact g
   .rw [Array.getElem?_eq_none g] at hc;simp at hc
  exact ⟨au,t,f,by rw [hc,h]⟩
 .simp at h
theorem Qqc:Qm3 Tryz.prog 172:=fun n w h0 h1 hg=>Any.strconv_Itoa Tryz.Aa n h0 h1 w (Qzi hg)
theorem Qtc:∀ args ai H v H',Gv args ai H=some (v,H')->Go.Ev.g_ Tryz.prog 172 args ai H v H' :=
 Qq8 (enters_of Tryz.func172 (by kernel_rfl) rfl) Qqc
end Go.Proofs.YtcoimfbmgjhcjaaGreatDoor
namespace Go.Proofs
open Go.Shelf
def Tryz.ij:Go.Shelf.Ren:=⟨fun | 105=>187 | 212=>177 | 99=>197 | 165=>198 | 166=>199 | 170=>200 | 169=>201 | 263=>193 | 264=>194 | 206=>208 | 240=>209 | 241=>210 | 276=>216 | 277=>217 | n=>n,fun | 9=>9 | 3=>3 | 4=>4 | 20=>20 | 0=>0 | 46=>177 | 109=>178 | 5=>5 | 72=>200 | 76=>204 | 51=>189 | 146=>190 | 53=>192 | 148=>193 | 70=>197 | 37=>198 | 75=>203 | 127=>213 | 164=>219 | 80=>207 | n=>n,fun | n=>n⟩
theorem Tryz.Cp:Go.Proofs.Lays.n105 Tryz.prog Tryz.ij:={
 mixed:=by kernel_rfl
 f99:=Tryz.func197.trans (congrArg some (by kernel_rfl))
 f105:=Tryz.func187.trans (congrArg some (by kernel_rfl))
 f165:=Tryz.func198.trans (congrArg some (by kernel_rfl))
 f166:=Tryz.func199.trans (congrArg some (by kernel_rfl))
 f169:=Tryz.func201.trans (congrArg some (by kernel_rfl))
 f170:=Tryz.func200.trans (congrArg some (by kernel_rfl))
 f206:=Tryz.func208.trans (congrArg some (by kernel_rfl))
 f212:=Tryz.func177.trans (congrArg some (by kernel_rfl))
 f240:=Tryz.func209.trans (congrArg some (by kernel_rfl))
 f241:=Tryz.func210.trans (congrArg some (by kernel_rfl))
 f263:=Tryz.func193.trans (congrArg some (by kernel_rfl))
 f264:=Tryz.func194.trans (congrArg some (by kernel_rfl))
 f276:=Tryz.func216.trans (congrArg some (by kernel_rfl))
 f277:=Tryz.func217.trans (congrArg some (by kernel_rfl))
 t0:=Tryz.underlying0
 a0:=Tryz.isAgg0
 z0:=Tryz.sizeOf0
 v0:=Tryz.zeroValue0
 t3:=Tryz.underlying3
 a3:=Tryz.isAgg3
 z3:=Tryz.sizeOf3
 v3:=Tryz.zeroValue3
 t4:=Tryz.underlying4
 a4:=Tryz.isAgg4
 z4:=Tryz.sizeOf4
 v4:=Tryz.zeroValue4
 t5:=Tryz.underlying5
 a5:=Tryz.isAgg5
 z5:=Tryz.sizeOf5
 v5:=Tryz.zeroValue5
 t9:=Tryz.underlying9
 a9:=Tryz.isAgg9
 z9:=Tryz.sizeOf9
 v9:=Tryz.zeroValue9
 t20:=Tryz.underlying20
 a20:=Tryz.isAgg20
 z20:=Tryz.sizeOf20
 v20:=Tryz.zeroValue20
 t37:=Tryz.underlying198
 a37:=Tryz.isAgg198
 z37:=Tryz.sizeOf198
 v37:=Tryz.zeroValue198
 t46:=Tryz.underlying177
 a46:=Tryz.isAgg177
 z46:=Tryz.sizeOf177
 v46:=Tryz.zeroValue177
 t51:=Tryz.underlying189
 a51:=Tryz.isAgg189
 z51:=Tryz.sizeOf189
 v51:=Tryz.zeroValue189
 t53:=Tryz.underlying192
 a53:=Tryz.isAgg192
 z53:=Tryz.sizeOf192
 v53:=Tryz.zeroValue192
 t70:=Tryz.underlying197
 a70:=Tryz.isAgg197
 z70:=Tryz.sizeOf197
 v70:=Tryz.zeroValue197
 t72:=Tryz.underlying200
 a72:=Tryz.isAgg200
 z72:=Tryz.sizeOf200
 v72:=Tryz.zeroValue200
 t75:=Tryz.underlying203
 a75:=Tryz.isAgg203
 z75:=Tryz.sizeOf203
 v75:=Tryz.zeroValue203
 t76:=Tryz.underlying204
 a76:=Tryz.isAgg204
 z76:=Tryz.sizeOf204
 v76:=Tryz.zeroValue204
 t109:=Tryz.underlying178
 a109:=Tryz.isAgg178
 z109:=Tryz.sizeOf178
 v109:=Tryz.zeroValue178
 t127:=Tryz.underlying213
 a127:=Tryz.isAgg213
 z127:=Tryz.sizeOf213
 v127:=Tryz.zeroValue213
 t146:=Tryz.underlying190
 a146:=Tryz.isAgg190
 z146:=Tryz.sizeOf190
 v146:=Tryz.zeroValue190
 t148:=Tryz.underlying193
 a148:=Tryz.isAgg193
 z148:=Tryz.sizeOf193
 v148:=Tryz.zeroValue193
 t164:=Tryz.underlying219
 a164:=Tryz.isAgg219
 z164:=Tryz.sizeOf219
 v164:=Tryz.zeroValue219 }
end Go.Proofs
namespace Go.Proofs.YtcoimfbmgjhcjaaGreatDoor
open Go.RowKit Go.Pv Go.Shelf
theorem VP:Builder.Extra Tryz.prog Tryz.ij where
 sizeBuilder:=by kernel_rfl
 liesBuilder:=by kernel_rfl
 t5:=Tryz.underlying5
 a5:=Tryz.isAgg5
 z5:=Tryz.sizeOf5
 v5:=Tryz.zeroValue5
 infoByte:=by kernel_rfl
 cellsByte:=by kernel_rfl
 sizeByte:=by kernel_rfl
 neB5:=by decide
theorem Qtd:Qq9 Tryz.prog 187:=fun s n w hn hs=>Any.strings_Repeat Tryz.Cp VP s n w (by omega) (by
 have:s.size*n<=1000000*1000000:=Nat.mul_le_mul hs hn
 omega)
theorem Qwx:∀ args ai H v H',Gw args ai H=some (v,H')->Go.Ev.g_ Tryz.prog 187 args ai H v H' :=
 Qtb (enters_of Tryz.func187 (by kernel_rfl) rfl) Qtd
end Go.Proofs.YtcoimfbmgjhcjaaGreatDoor
