/-
  Code: the interpreter by value agrees with the first one, loops and all. And what stood behind it in 15 texts.
  Conditions: said at the theorems.
-/
import Derived.Test.YtcoimfbmgjhcjabGreatDoorVLoop2
import Derived.Test.YtcoimfbmgjhcjabGreatDoorVRel
import Derived.Test.YtcoimfbmgjhcjabGreatDoorOpB
import Derived.Lib.LaidTab
import Derived.Attr
import Derived.IntWalk
import Derived.Sort.Grow
import Derived.Deep.Draws
import Derived.Lib.ItoaNum
import Derived.Below
import Derived.Lib.Repeat
import Derived.Lib.LastIndexByte
import Derived.Shelf.LaysM
import Derived.Ground.NamesProg
import Derived.Test.YtcoimfbmgjhcjabGreatDoorProg
import Derived.WalkKit
import Derived.Shelf.Strconv.Itoa3
import Derived.Shelf.Abstract
import Derived.KernelRfl
import Derived.Shelf.Lays
import Derived.Shelf.Strings.Repeat
set_option linter.all false
namespace Go.Pv
open Go.Ev
theorem Wi {env:bA}:∀ {keep:List (Nat×Value)} {dh:bA},HP env keep=some dh->(∀ k∈keep,∃ p,dD env k.1=some p)/\(∀ q p,dD dh q=some p->dD env q=some p/\q∈keep.map (·.1))/\∀ q∈keep.map (·.1),dD dh q=dD env q
 | [],dh,h=>by simp [HP] at h;subst h;simp [dD]
 | (q,t)::keep,dh,h=>by
  simp only [HP] at h
  replace h:=ob h;obtain ⟨p,h1,h⟩:=h
  replace h:=ob h;obtain ⟨e,h2,h⟩:=h
  simp at h;subst h
  obtain ⟨a1,a2,a3⟩:=Wi h2
  refine ⟨fun k hk=>?_,fun q' p' hp=>?_,fun q' hq=>?_⟩
  .rcases Z2 hk with rfl | hk
   .exact ⟨p,h1⟩
   .exact a1 k hk
  .simp only [dD] at hp
   cases hb:Nat.beq q q' with
   | true =>
    rw [hb] at hp;injection hp with hp;subst hp
    rw [<- Z7 hb];exact ⟨h1,by simp⟩
   | false=>rw [hb] at hp;obtain ⟨b1,b2⟩:=a2 q' p' hp;exact ⟨b1,by simp only [List.map_cons,List.mem_cons];exact .inr b2⟩
  .simp only [dD]
   cases hb:Nat.beq q q' with
   | true=>rw [<- Z7 hb];exact h1.symm
   | false =>
    simp only [List.map_cons,List.mem_cons] at hq
    rcases hq with rfl | hq
    .rw [Nat.beq_refl] at hb;simp at hb
    .exact a3 q' hq
theorem Wj {e:Env} {val:Nat->Value}:∀ {keep:List (Nat×Value)},(∀ k∈keep,cU e k.1=some (val k.1))->vr e keep=some (keep.map fun k=>val k.1)
 | [],_=>rfl
 | (q,t)::keep,h=>by
  have ih:=Wj (e:=e) (val:=val) (keep:=keep) (fun k hk=>h k (List.mem_cons_of_mem _ hk))
  simp only [vr,h (q,t) (by simp),Q1,ih,List.map_cons]
def JT (val:Nat->Value) (keep:List (Nat×Value)):Env:=keep.map fun k=>(k.1,val k.1)
theorem PU {val:Nat->Value}:∀ {keep:List (Nat×Value)} (q:Nat),cU (JT val keep) q=if q∈keep.map (·.1) then some (val q) else none
 | [],q=>by simp [JT,cU]
 | (k,t)::keep,q=>by
  simp only [JT,List.map_cons,cU]
  cases hb:Nat.beq k q with
  | true=>have:=Z7 hb;subst this;simp
  | false =>
   have aU:q≠k:=fun e=>by subst e;rw [Nat.beq_refl] at hb;simp at hb
   have:=PU (val:=val) (keep:=keep) q
   simp only [JT] at this
   simp only [this,List.mem_cons,aU,false_or]
theorem Q8g {β:Type} {s:S} {env:bA} {val:Nat->Value} (hr:∀ q p,dD env q=some p->ER s p (val q)):∀ {keep:List (Nat×Value)} {K:Env->Option β},MG env keep=true->BC keep (keep.map fun k=>val k.1) K=K (JT val keep)
 | [],K,_=>rfl
 | (q,t)::keep,K,h=>by
  simp only [MG,Z8] at h
  obtain ⟨h1,h2⟩:=h
  simp only [BC,List.map_cons,Au]
  cases hp:dD env q with
  | none=>rw [hp] at h1;simp at h1
  | some p =>
   rw [hp] at h1
   simp only at h1
   have hER:=hr q p hp
   have hAR:AR s p (val q):=by
    cases p with
    | kQ cs=>rw [Qec] at h1;simp at h1
    | _=>exact hER
   rw [ES hAR h1,Q8g hr h2]
   rfl
theorem PW {L:LS} {ids:List Nat} (h:MH L ids=true):∀ b∈ids,∃ B,Qi L b=some B/\B.rw=true:=by
 intro b hb
 have:=Z3 h b hb
 split at this
 .rename_i v bo hB;exact ⟨_,hB,rfl⟩
 .simp at this
section
variable {A:cL} {β γ:Type} {X:nj A β} {XE:Cx} {r:β} {Q:γ->Prop}
def EOk (W:List Nat) (dh:bA) (e0:Env) (s:S) (r:β) (KV:eF->bA->LS->Option β) (KE:eF->Env->af->Option γ) (Q:γ->Prop):Prop :=
 ∀ ex env e s',aj s s'->aD s'->cG s' env e->fJ W dh env e0 e->KV ex env s'.L=some r->∃ y,KE ex e s'.H=some y/\Q y
def Qvj (X:nj A β) (XE:Cx) (r:β) (Q:γ->Prop) (c:Code) (n:Nat):Prop :=
 ∀ (s:S) (env:bA) (e:Env) (KV:eF->bA->LS->Option β) (KE:eF->Env->af->Option γ),s.ai=XE.ai->aD s->cG s env e->EOk (gJ c) env e s r KV KE Q->iT X c n env s.L KV=some r->∃ y,eY XE c n e s.H KE=some y/\Q y
theorem Qte {c:Code} {n:Nat} (hX:CV X XE) (ihc:Qvj X XE r Q c (n+1)) {s:S} {env:bA} {e:Env} {KV:eF->bA->LS->Option β} {KE:eF->Env->af->Option γ} (aI:s.ai=XE.ai) (hs:aD s) (he:cG s env e) (hK:EOk (gJ c) env e s r KV KE Q)
  (h:iT X (.loop c) n env s.L KV=some r):∃ y,eY XE (.loop c) n e s.H KE=some y/\Q y:=by
 simp only [iT] at h
 simp only [eY]
 rw [<- hX.cV]
 replace h:=ob h;obtain ⟨dh,h1,h⟩:=h
 replace h:=ob h;obtain ⟨⟨iU,ids,L1⟩,h2,h⟩:=h
 simp only at h
 split at h
 .rename_i MI hnd
  simp only [Z8] at MI
  obtain ⟨nV,sO⟩:=MI
  have hnd:=Qc8 hnd
  replace h:=ob h;obtain ⟨st0,h3,h⟩:=h
  obtain ⟨kg1,PX,kg3⟩:=Wi h1
  let vB:Nat->Value:=fun q=>(cU e q).getD undef
  have hval0:∀ q w,cU e q=some w->vB q=w:=fun q w hq=>by simp [vB,hq]
  have Jw:∀ k∈X.eZ n,cU e k.1=some (vB k.1):=fun k hk=>by
   obtain ⟨p,hp⟩:=kg1 k hk
   obtain ⟨w,hw,_⟩:=he.get hp
   rw [hval0 _ _ hw];exact hw
  rw [Wj Jw];simp only [Q1]
  obtain ⟨sf,lf,gf,uf,kf,tf⟩:=Qfy (env:=env) (l:=(X.cV n).fzs) hs
  rw [<- lf] at h2
  obtain ⟨s1,v1,v2,an,js,hv,hv1,l1,g1,k1,t1,sr1,CW,bd1,Wk⟩:=Qe0 hval0 tf (kf.env he) h2
  have CX:aj s s1:=kf.trans k1
  have oE:s1.ai=s.ai:=CX.ai
  have JB:sf.ai=s.ai:=kf.ai
  rw [<- l1] at h Wk
  have HQ:∀ k∈X.eZ n,k.1∉(X.cV n).bH.map (·.1)->k.1∉gJ c:=by
   intro k hk JU hw
   simp only [Wl,Z8] at sO
   have:=Z3 sO.1 k hk
   simp only [Bool.or_eq_true,Bool.not_eq_true'] at this
   rcases this with h | h
   .obtain ⟨x,hx,sH⟩:=List.any_eq_true.1 h
    exact JU (List.mem_map.2 ⟨x,hx,Z7 sH⟩)
   .exact CY h hw
  have MJ:=PW Wk
  have HS:∀ q∈(X.cV n).bH.map (·.1),q∈gJ c:=by
   intro q hq
   simp only [Wl,Z8] at sO
   obtain ⟨x,hx,rfl⟩:=List.mem_map.1 hq
   exact List.contains_iff_mem.1 (Z3 sO.2 x hx)
  have HT:∀ q∈(X.cV n).bH.map (·.1),q∈(X.eZ n).map (·.1):=by
   intro q hq
   obtain ⟨x,hx,rfl⟩:=List.mem_map.1 hq
   have:=Z3 nV x hx
   obtain ⟨k,hk,Ak⟩:=List.any_eq_true.1 this
   exact List.mem_map.2 ⟨k,hk,Z7 Ak⟩
  have Wm:∀ q p,q∉(X.cV n).bH.map (·.1)->dD dh q=some p->ER s1 p (vB q):=by
   intro q p _ hp
   obtain ⟨b1,_⟩:=PX q p hp
   obtain ⟨w,hw,hr⟩:=he.get b1
   rw [hval0 q w hw];exact CX.ER hr
  have main:∀ (fuel:Nat) (st:jv (X.cV n).Ay) (T:S) (val:Nat->Value) (an js:List (List Nat)) (v1 v2:List TV),aD T->aj s1 T->(∀ b B,b∉ids->Qi s1.L b=some B->Qi T.L b=some B)->(∀ b∈ids,∃ B,Qi T.L b=some B/\B.rw=true) ->
    ff (X.cV n).Ay st=v1++v2->v1.length=(X.cV n).bH.length->SR T s.ai val (X.cV n).bH v1 an->(an.flatten++js.flatten).Nodup->qY T s.ai ids (X.cV n).ET.length v2 js->(∀ k∈X.eZ n,k.1∉(X.cV n).bH.map (·.1)->val k.1=vB k.1) ->
    Q8 (fun again s=>Q1 (sP ids (X.cV n).ET.length ((ff (X.cV n).Ay s).drop (X.cV n).bH.length) s1.L) fun L0=>Q1 (HU ids (X.cV n).ET.length ((ff (X.cV n).Ay s).drop (X.cV n).bH.length) L0) fun L1 =>
     Q1 (HV (X.cV n).bH ((ff (X.cV n).Ay s).take (X.cV n).bH.length) dh L1) fun i =>
     match MG i.1 (X.eZ n) with
     | true=>iT X c (n+1) i.1 i.2 fun ex ak L'=>match ex with
      | .normal=>Q1 (HP ak (X.eZ n)) fun _=>Q1 (MK (X.cV n) ak L') fun r'=>match HW r'.2.1 ids,BJ ids 0 s1.L.bl r'.2.2.bl with
       | true,true=>Q1 (nh (X.cV n).Ay r'.1) fun s'=>again s'
       | _,_=>none
      | .exit id=>KV (.exit id) ak L'
      | .ret=>KV .ret ak L'
     | false=>none) fuel st=some r ->
    ∃ y,CS (fun again vs H=>BC (X.eZ n) vs fun env=>eY XE c (n+1) env H fun ex ak H'=>match ex with
     | .normal=>Q1 (vr ak (X.eZ n)) fun cy=>again cy H'
     | .exit id=>KE (.exit id) ak H'
     | .ret=>KE .ret ak H') fuel ((X.eZ n).map fun k=>val k.1) T.H=some y/\Q y:=by
   clear h
   intro fuel
   induction fuel with
   | zero=>intro st T val an js v1 v2 _ _ _ _ _ _ _ _ _ _ h;simp [Q8] at h
   | succ fuel ih =>
    intro st T val an js v1 v2 hT hkT dF cO JV hlen hsr CZ MM hinv h
    simp only [Q8] at h
    simp only [CS]
    rw [JV,List.drop_append_of_le_length (by omega),List.drop_of_length_le (by omega),List.nil_append,List.take_append_of_le_length (by omega),Zs (by omega)] at h
    replace h:=ob h;obtain ⟨L2,h4,h⟩:=h
    replace h:=ob h;obtain ⟨L2',k_,h⟩:=h
    replace h:=ob h;obtain ⟨⟨fW,L3⟩,h5,h⟩:=h
    simp only at h
    rw [Zn] at CZ
    obtain ⟨CZ,Wn,Wo⟩:=CZ
    obtain ⟨sX,x1,x2,x3,x4,x5,x6⟩:=Wp t1 hT hkT hnd dF cO oE MM h4 (bq:=an.flatten++js.flatten) (fun z hz=>(List.mem_append.1 hz).elim (hsr.ai z) (MM.ai z))
    rw [<- x1] at k_
    obtain ⟨sB,e1,y2,y3,t2,y5,y6⟩:=Qa4 (T:=T) x4 (by rw [x3.ai,oE];exact MM) (fun b hb=>by
     obtain ⟨B,q1,_⟩:=MJ b hb
     have au:=Qo q1
     exact ⟨Zm au x3.nb,by rw [x3.mu b au,hkT.mu b au]⟩) x2 x6 (fun z hz=>x5 z (List.mem_append.2 (.inr hz))) Wn k_
    have e2:sB.H=T.H:=y2.trans x2
    have k2:aj s1 sB:=x3.trans y3
    have PY:∀ z∈an.flatten,sB.aF z:=fun z hz=>y6 z (x5 z (List.mem_append.2 (.inl hz))) (fun hm=>Wo z hz z hm rfl)
    have n2:∀ z,T.N z->sB.N z:=fun z hz=>y5 z (x6 z hz)
    rw [<- e1] at h5
    have Wq:SR sB sB.ai val (X.cV n).bH v1 an:=by
     rw [k2.ai,oE]
     have:∀ {l:List (Nat×Bool×Ty)} {vs:List TV} {an:List (List Nat)},SR T s.ai val l vs an->(∀ z∈an.flatten,sB.aF z)->SR sB s.ai val l vs an:=by
      intro l
      induction l with
      | nil=>intro vs an h _;cases vs<;>cases an<;>simp_all [SR]
      | cons x l ih =>
       intro vs an h hL
       obtain ⟨q,o,t⟩:=x
       match vs,an,h with
       | v::vs,i::an,h=>exact ⟨h.1.frame (fun z hz au=>⟨n2 z hz,by rw [e2]⟩) (fun z _=>by rw [e2]),fun z hz=>hL z (by simp [hz]),ih h.2.2 (fun z hz=>hL z (by simp at hz ⊢;exact .inr hz))⟩
     exact this hsr PY
    have Wr:∀ q p,q∉(X.cV n).bH.map (·.1)->dD dh q=some p->ER sB p (val q):=by
     intro q p hq hp
     have ki:=(PX q p hp).2
     obtain ⟨k,hk,rfl⟩:=List.mem_map.1 ki
     rw [hinv k hk hq];exact k2.ER (Wm k.1 p hq hp)
    obtain ⟨s3,a1,a2,a3,a4,a5,a6,a7⟩:=Qca t2 Wq CZ Wr h5
    split at h
    .rename_i ct
     rw [Q8g a5 ct]
     have Ws:cG s3 fW (JT val (X.eZ n)):=by
      intro q
      rw [PU]
      cases hp:dD fW q with
      | none =>
       simp only
       by_cases hq:q∈(X.cV n).bH.map (·.1)
       .obtain ⟨p,Az⟩:=a7 q hq;rw [hp] at Az;simp at Az
       .rw [a6 q hq] at hp
        split
        .rename_i hm
         rw [kg3 q hm] at hp
         obtain ⟨k,hk,rfl⟩:=List.mem_map.1 hm
         obtain ⟨p,Az⟩:=kg1 k hk
         rw [hp] at Az;simp at Az
        .rfl
      | some p =>
       simp only
       have hm:q∈(X.eZ n).map (·.1):=by
        by_cases hq:q∈(X.cV n).bH.map (·.1)
        .exact HT q hq
        .rw [a6 q hq] at hp;exact (PX q p hp).2
       rw [if_pos hm]
       exact ⟨val q,rfl,a5 q p hp⟩
     have hH3:s3.H=T.H:=a2.trans e2
     rw [<- hH3]
     rw [<- a1] at h
     have hl3:s3.ai=XE.ai:=by rw [a3.ai,k2.ai,oE];exact aI
     refine ihc _ _ _ _ _ hl3 a4 Ws (fun ex ak e' s4 k4 t4 PZ hu4 h=>?_) h
     have C1:aj s1 s4:=(k2.trans a3).trans k4
     have EU:fJ (gJ c) env ak e e':=by
      intro q hq
      rcases hu4 q hq with h6 | ⟨h6,h7⟩
      .exact .inl h6
      .have hqs:q∉(X.cV n).bH.map (·.1):=fun hm=>hq (HS q hm)
       rw [a6 q hqs] at h6
       cases hp:dD dh q with
       | none=>rw [hp] at h6;exact .inl h6
       | some p =>
        obtain ⟨c1,c2⟩:=PX q p hp
        right
        refine ⟨by rw [h6,hp,c1],?_⟩
        rw [h7,PU,if_pos c2]
        obtain ⟨k,hk,rfl⟩:=List.mem_map.1 c2
        rw [hinv k hk hqs,Jw k hk]
     cases ex with
     | normal =>
      simp only at h ⊢
      replace h:=ob h;obtain ⟨cc,h6,h⟩:=h
      replace h:=ob h;obtain ⟨⟨aae,MN,L4⟩,h7,h⟩:=h
      simp only at h
      obtain ⟨kh1,kh2,kh3⟩:=Wi h6
      let C2:Nat->Value:=fun q=>(cU e' q).getD undef
      have AA:∀ q w,cU e' q=some w->C2 q=w:=fun q w hq=>by simp [C2,hq]
      have de:∀ k∈X.eZ n,cU e' k.1=some (C2 k.1):=fun k hk=>by
       obtain ⟨p,hp⟩:=kh1 k hk
       obtain ⟨w,hw,_⟩:=PZ.get hp
       rw [AA _ _ hw];exact hw
      rw [Wj de];simp only [Q1]
      obtain ⟨s5,w1,w2,MO,js',hw,P0,m1,m2,m3,m4,m5,m6,m7,m8⟩:=Qe0 AA t4 PZ h7
      split at h
      .rename_i Wt hsb
       have Wt:=Qe1 Wt
       subst Wt
       replace h:=ob h;obtain ⟨st',h8,h⟩:=h
       have MP:aj s1 s5:=C1.trans m3
       rw [<- m1] at hsb m8
       have hl4:s4.ai=s.ai:=C1.ai.trans oE
       have:=ih st' s5 C2 MO js' w1 w2 m4 MP (fun b B hb hB=>by
        obtain ⟨B',q1,q2⟩:=Wu hsb b B (Qr5.1 hB) (by simpa using hb)
        have q1':=Qr5.2 q1
        obtain ⟨B0,p1,p2,p3⟩:=MP.live b B' (Qo hB) q1'
        rw [hB] at p1;injection p1 with p1;subst p1
        obtain ⟨p4,_⟩:=p3 q2
        rw [q1',p4]) (PW m8) (by rw [MQ _ h8];exact hw) P0 (by rw [<- hl4];exact m5) m6 (by rw [<- hl4];exact m7) (fun k hk JU=>by
        have hqw:=HQ k hk JU
        rcases hu4 k.1 hqw with h9 | ⟨h9,L8⟩
        .obtain ⟨p,hp⟩:=kh1 k hk
         rw [hp] at h9;simp at h9
        .rw [PU,if_pos (List.mem_map.2 ⟨k,hk,rfl⟩)] at L8
         rw [AA _ _ L8];exact hinv k hk JU) h
       rw [m2] at this;exact this
      .simp at h
     | exit id=>exact hK (.exit id) ak e' s4 (CX.trans C1) t4 PZ EU h
     | ret=>exact hK .ret ak e' s4 (CX.trans C1) t4 PZ EU h
    .simp at h
  have:=main A.fuel st0 s1 vB an js v1 v2 t1 (aj.refl s1) (fun b B _ h=>h) (PW Wk) (by rw [MQ _ h3];exact hv) hv1 (by rw [<- JB];exact sr1) CW (by rw [<- JB];exact bd1) (fun _ _ _=>rfl) h
  rw [hX.fuel]
  rw [g1,gf] at this;exact this
 .simp at h
theorem Wv {ops:Array Oper} {o:Oper} (h:o∈ops.toList) {d:Nat} (hd:o.dst=some d):d∈Qrs ops :=
 List.mem_filterMap.2 ⟨o,h,hd⟩
theorem Qx9 {W:List Nat} {s:S} {env:bA} {e:Env} {c:Operand} {b:Bool} (he:cG s env e) (hv:eA env c=some (.bool b)) (hW:∀ d,c=.tmp d->d∈W):cG s (P1 c b env) (EK c b e)/\fJ W env (P1 c b env) e (EK c b e):=by
 cases c with
 | tmp d=>exact ⟨he.cons (p:=.bool b) rfl,fJ.cons (hW d rfl)⟩
 | _=>exact ⟨he,fJ.refl _ _ _⟩
theorem EV (hX:CV X XE):∀ (c:Code) (n:Nat),Qvj X XE r Q c n
 | .skip,n=>fun s env e KV KE aI hs he hK h=>hK .normal _ _ _ (aj.refl _) hs he (fJ.refl _ _ _) (by simpa only [iT] using h)
 | .label l,n=>fun s env e KV KE aI hs he hK h=>hK .normal _ _ _ (aj.refl _) hs he (fJ.refl _ _ _) (by simpa only [iT] using h)
 | .exit id,n=>fun s env e KV KE aI hs he hK h=>hK (.exit id) _ _ _ (aj.refl _) hs he (fJ.refl _ _ _) (by simpa only [iT] using h)
 | .ret,n=>fun s env e KV KE aI hs he hK h=>hK .ret _ _ _ (aj.refl _) hs he (fJ.refl _ _ _) (by simpa only [iT] using h)
 | .region id ops d,n=>fun s env e KV KE aI hs he hK h=>by
  simp only [iT] at h
  simp only [eY]
  have hW:∀ (j:Nat) (d':Nat),(ops[j]?).bind (fun (x:Oper)=>x.dst)=some d'->d'∈gJ (.region id ops d):=by
   intro j d' hj
   cases ho:ops[j]? with
   | none=>rw [ho] at hj;simp at hj
   | some o=>rw [ho] at hj;exact Wv (by have:=Array.mem_of_getElem? ho;simpa using this) (by simpa using hj)
  cases d with
  | false=>exact Ww hX hW env e (fun o ho d hd=>Wv ho hd) aI hs he (fJ.refl _ _ _) (fun ak e' s' k' t' gM dB h=>hK .normal ak e' s' k' t' gM dB h) h
  | true=>exact Qr3 hX hW (fun o ho d hd=>Wv ho hd) aI hs he (fun ak e' s' k' t' gM dB h=>hK .normal ak e' s' k' t' gM dB h) h
 | .seq a b,n=>fun s env e KV KE aI hs he hK h=>by
  simp only [iT] at h
  simp only [eY]
  have MR:∀ q,q∈gJ a->q∈gJ (.seq a b):=fun q hq=>by simp only [gJ,Zh];exact .inl hq
  have Wx:∀ q,q∈gJ b->q∈gJ (.seq a b):=fun q hq=>by simp only [gJ,Zh];exact .inr hq
  refine EV hX a n _ _ _ _ _ aI hs he (fun ex ak e' s' k' t' gM dB h=>?_) h
  cases ex with
  | normal =>
   simp only at h ⊢
   exact EV hX b _ _ _ _ _ _ (k'.ai.trans aI) t' gM (fun MS cc e2 s2 k2 t2 vC iN h=>hK MS cc e2 s2 (k'.trans k2) t2 vC ((dB.mono MR).trans (iN.mono Wx)) h) h
  | exit id=>exact hK (.exit id) ak e' s' k' t' gM (dB.mono MR) h
  | ret=>exact hK .ret ak e' s' k' t' gM (dB.mono MR) h
 | .cond c a b,n=>fun s env e KV KE aI hs he hK h=>by
  simp only [iT] at h
  simp only [eY]
  have MR:∀ q,q∈gJ a->q∈gJ (.cond c a b):=fun q hq=>by cases c<;>simp [gJ,hq]
  have Wx:∀ q,q∈gJ b->q∈gJ (.cond c a b):=fun q hq=>by cases c<;>simp [gJ,hq]
  have hmc:∀ d,c=.tmp d->d∈gJ (.cond c a b):=fun d hd=>by subst hd;simp [gJ]
  replace h:=ob h;obtain ⟨p,h1,h⟩:=h
  obtain ⟨v,e1,r1⟩:=fK he h1
  rw [e1];simp only [Q1]
  split at h
  .rename_i t
   obtain rfl:v=.bool t:=r1
   simp only [wZ]
   obtain ⟨q1,q2⟩:=Qx9 (b:=t) he h1 hmc
   cases t with
   | true =>
    simp only [aa] at h ⊢
    exact EV hX a n _ _ _ _ _ aI hs q1 (fun MS cc e2 s2 k2 t2 vC iN h=>hK MS cc e2 s2 k2 t2 vC (q2.trans (iN.mono MR)) h) h
   | false =>
    simp only [aa] at h ⊢
    exact EV hX b _ _ _ _ _ _ aI hs q1 (fun MS cc e2 s2 k2 t2 vC iN h=>hK MS cc e2 s2 k2 t2 vC (q2.trans (iN.mono Wx)) h) h
  .simp at h
 | .block id c,n=>fun s env e KV KE aI hs he hK h=>by
  simp only [iT] at h
  simp only [eY]
  refine EV hX c n _ _ _ _ _ aI hs he (fun ex ak e' s' k' t' gM dB h=>?_) h
  cases ex with
  | normal=>exact hK .normal ak e' s' k' t' gM dB h
  | exit Ax =>
   simp only at h ⊢
   cases hb:Nat.beq Ax id with
   | true=>rw [hb] at h;exact hK .normal ak e' s' k' t' gM dB h
   | false=>rw [hb] at h;exact hK (.exit Ax) ak e' s' k' t' gM dB h
  | ret=>exact hK .ret ak e' s' k' t' gM dB h
 | .loop c,n=>fun s env e KV KE aI hs he hK h=>Qte hX (EV hX c (n+1)) aI hs he hK h
 | .rangeFunc _ _ _ _,n=>fun s env e KV KE aI hs he hK h=>by simp [iT] at h
 | .scope _,n=>fun s env e KV KE aI hs he hK h=>by simp [iT] at h
 | .refuse _,n=>fun s env e KV KE aI hs he hK h=>by simp [iT] at h
 | .goto _,n=>fun s env e KV KE aI hs he hK h=>by simp [iT] at h
end
def cL.ev (A:cL):BH:=⟨A.fuel,A.jz,fun _=>.keep,A.ext⟩
theorem JW {P:Program} {s:S} {env:bA} {e:Env} (hs:aD s) (he:cG s env e):∀ {l:List ResultVar} {vs:List PV},wL P env s.L l=some vs->∃ ws,iJ P e s.H l=some ws/\Qw (ER s) vs ws
 | [],vs,h=>by simp [wL] at h;subst h;exact ⟨[],rfl,trivial⟩
 | .tmp t::l,vs,h=>by
  simp only [wL] at h
  replace h:=ob h;obtain ⟨p,h1,h⟩:=h
  replace h:=ob h;obtain ⟨ps,h2,h⟩:=h
  simp at h;subst h
  obtain ⟨w,e1,r1⟩:=he.get h1
  obtain ⟨ws,e2,r2⟩:=JW hs he h2
  exact ⟨w::ws,by simp [iJ,e1,e2,Q1],r1,r2⟩
 | .cell a t::l,vs,h=>by
  simp only [wL] at h
  replace h:=ob h;obtain ⟨p,h1,h⟩:=h
  obtain ⟨w,e1,r1⟩:=he.get h1
  split at h
  .rename_i b off
   split at h
   .rename_i aB rw cs hb
    replace h:=ob h;obtain ⟨i,h2,h⟩:=h
    obtain ⟨bE,m,hm,dW,rfl⟩:=r1
    have hB:=hs.aJ b _ hb
    unfold BR at hB;simp only at hB
    obtain ⟨_,m',k,aE,_,hk,cD,_⟩:=hB
    rw [hm] at aE;injection aE with aE;subst aE
    have hl:=Qw.length cD
    split at h
    .rename_i fs hu
     split at h
     .rename_i hle
      have hle:=Zi hle
      replace h:=ob h;obtain ⟨ps,h3,h⟩:=h
      simp at h;subst h
      obtain ⟨ws,e2,r2⟩:=JW hs he h3
      have gO:Qx s.H ⟨m.z,off,none⟩ i.size=some ((k.cells.drop off).take i.size):=by
       unfold Qx;simp only [hk,Q1]
       have:Nat.ble (off+i.size) k.cells.length=true:=Nat.ble_eq_true_of_le (by omega)
       rw [this]
      refine ⟨.agg ((k.cells.drop off).take i.size).toArray::ws,?_,⟨_,rfl,Qw.take _ (Qw.drop _ cD)⟩,r2⟩
      simp only [iJ,e1,Q1,h2,hu,gO,e2]
     .simp at h
    .rename_i nn fs hu
     split at h
     .rename_i hle
      have hle:=Zi hle
      replace h:=ob h;obtain ⟨ps,h3,h⟩:=h
      simp at h;subst h
      obtain ⟨ws,e2,r2⟩:=JW hs he h3
      have gO:Qx s.H ⟨m.z,off,none⟩ i.size=some ((k.cells.drop off).take i.size):=by
       unfold Qx;simp only [hk,Q1]
       have:Nat.ble (off+i.size) k.cells.length=true:=Nat.ble_eq_true_of_le (by omega)
       rw [this]
      refine ⟨.agg ((k.cells.drop off).take i.size).toArray::ws,?_,⟨_,rfl,Qw.take _ (Qw.drop _ cD)⟩,r2⟩
      simp only [iJ,e1,Q1,h2,hu,gO,e2]
     .simp at h
    .rename_i d vD oe hu
     replace h:=ob h;obtain ⟨u,h5,h⟩:=h
     replace h:=ob h;obtain ⟨ps,h3,h⟩:=h
     simp at h;subst h
     obtain ⟨ws,e2,r2⟩:=JW hs he h3
     obtain ⟨w,g1,g2⟩:=Qw.get _ cD h5
     have gO:gL s.H ⟨m.z,off,none⟩=some w:=by
      unfold gL;simp only [hk,Q1];exact g1
     refine ⟨w::ws,?_,ER.fh g2,r2⟩
     simp only [iJ,e1,Q1,h2]
     rw [hu]
     cases d<;>first | exact absurd rfl (vD _) | exact absurd rfl (oe _ _) | (simp only [gO,e2])
    .simp at h
   .simp at h
  .simp at h
theorem Qi1 {s:S}:∀ {ps:List PV} {ws:List Value} {i:Nat},Qw (ER s) ps ws->cG s (MT i ps) (qV i ws)
 | [],[],i,_=>fun q=>by simp [MT,dD,qV,cU]
 | p::ps,w::ws,i,h=>(Qi1 h.2).cons h.1
theorem Qbo {s:S}:∀ {ps:List PV} {ws:List Value},Qw (ER s) ps ws->ps.all MU=true->Qw (AR s) ps ws
 | [],[],_,_=>trivial
 | p::ps,w::ws,h,g=>by
  simp only [List.all_cons,Z8] at g
  refine ⟨?_,Qbo h.2 g.2⟩
  cases p with
  | kQ cs=>simp [MU] at g
  | _=>exact h.1
theorem Qtf {s:S} {ps:List PV} {ws:List Value} (h:Qw (ER s) ps ws) (g:ps.all MU=true):ER s (HX ps) (iK ws):=Qiq (Qbo h g)
def PB (s:S):List (PM×Ty)->List Value->Nat->Prop
 | [],[],_=>True
 | (m,_)::ps,w::ws,i=>match m with
  | .ro=>PB s ps ws i
  | .cl _=>PB s ps ws i
  | .mv=>PB s ps ws (i+1)
  | .io=>(i < s.L.bl.length/\match s.μ i with
    | none=>w=.slice none 0 0
    | some m=>w=.slice (some ⟨m.z,m.sh,none⟩) m.n m.es)/\PB s ps ws (i+1)
  | .ps=>(i < s.L.bl.length/\∃ m,s.μ i=some m/\m.sh=0/\w=.pointer (some ⟨m.z,0,none⟩))/\PB s ps ws (i+1)
 | _,_,_=>False
theorem PB.keep {s s':S} (hk:aj s s'):∀ {ps:List (PM×Ty)} {ws:List Value} {i:Nat},PB s ps ws i->PB s' ps ws i
 | [],[],_,_=>trivial
 | (m,t)::ps,w::ws,i,h=>by
  cases m with
  | ro=>exact PB.keep (ps:=ps) hk h
  | cl g=>exact PB.keep (ps:=ps) hk h
  | mv=>exact PB.keep (ps:=ps) hk h
  | io=>obtain ⟨⟨h1,h2⟩,h3⟩:=h;exact ⟨⟨Zm h1 hk.nb,by rw [hk.mu i h1];exact h2⟩,h3.keep hk⟩
  | ps=>obtain ⟨⟨h1,h2⟩,h3⟩:=h;exact ⟨⟨Zm h1 hk.nb,by rw [hk.mu i h1];exact h2⟩,h3.keep hk⟩
def nk:List (PM×Ty)->List (List Nat)->List (List Nat)
 | (.ps,_)::ps,ids::r=>ids.drop 1::nk ps r
 | _::ps,_::r=>nk ps r
 | _,_=>[]
theorem HY:∀ {ps:List (PM×Ty)} {an:List (List Nat)} {z:Nat},z∈(nk ps an).flatten->z∈an.flatten
 | [],_,z,h=>by simp [nk] at h
 | _::_,[],z,h=>by simp [nk] at h
 | (m,t)::ps,ids::an,z,h=>by
  rw [Ze,Zh]
  cases m with
  | ps =>
   simp only [nk,Ze,Zh] at h
   exact h.imp (fun h=>List.mem_of_mem_drop h) (fun h=>HY h)
  | _=>exact .inr (HY (ps:=ps) h)
theorem Wy:∀ {ps:List (PM×Ty)} {an:List (List Nat)},an.flatten.Nodup->(nk ps an).flatten.Nodup
 | [],_,_=>by simp [nk]
 | (m,t)::ps,[],_=>by cases m<;>simp [nk]
 | (m,t)::ps,ids::an,h=>by
  rw [Ze,Zn] at h
  obtain ⟨h1,h2,h3⟩:=h
  cases m with
  | ps =>
   simp only [nk,Ze]
   rw [Zn]
   exact ⟨List.Pairwise.drop h1,Wy h2,fun a ha b hb e=>h3 a (List.mem_of_mem_drop ha) b (HY hb) e⟩
  | _=>exact Wy (ps:=ps) h2
theorem Qdn:∀ {ps:List (PM×Ty)} {vs:List TV} {ws:List Value} {an:List (List Nat)} {s:S} {i:Nat} {env:bA} {L':LS},s.L.cu=0->aD s->di s.N s.H s.ai (ps.map fun p=>p.1.kd) vs ws an->(∀ z∈an.flatten,s.aF z)->an.flatten.Nodup->AD ps vs i s.L=some (env,L') ->
  ∃ s',s'.L=L'/\s'.H=s.H/\aj s s'/\aD s'/\cG s' env (qV i ws)/\PB s' ps ws s.L.bl.length/\(∀ z,s.aF z->z∉an.flatten\/z∈(nk ps an).flatten->s'.aF z)/\vE s' s.ai (C3 ps vs s.L.bl.length) (nk ps an)
 | [],[],[],[],s,i,env,L',_,hs,_,_,_,h=>by
  simp [AD] at h;obtain ⟨rfl,rfl⟩:=h
  exact ⟨s,rfl,rfl,aj.refl s,hs,fun q=>by simp [dD,qV,cU],trivial,fun _ h _=>h,trivial⟩
 | (m,t)::ps,v::vs,w::ws,ids::an,s,i,env,L',mN,hs,hh,hl,hn,h=>by
  obtain ⟨sQ,vF⟩:=hh
  rw [Ze,Zn] at hn
  obtain ⟨gh,gR,sR⟩:=hn
  have gr:∀ z∈an.flatten,s.aF z:=fun z hz=>hl z (by rw [Ze,Zh];exact .inr hz)
  have next:∀ (s1:S) (pv:PV),aj s s1->aD s1->s1.H=s.H->s1.L.cu=0->(∀ z,s.N z->s1.N z)->(∀ z∈an.flatten,s1.aF z)->ER s1 pv w->(Q1 (AD ps vs (i+1) s1.L) fun r=>some ((i,pv)::r.1,r.2))=some (env,L') ->
    ∃ s',s'.L=L'/\s'.H=s.H/\aj s1 s'/\aD s'/\cG s' env (qV i (w::ws))/\PB s' ps ws s1.L.bl.length/\(∀ z,s1.aF z->z∉an.flatten\/z∈(nk ps an).flatten->s'.aF z)/\vE s' s.ai (C3 ps vs s1.L.bl.length) (nk ps an):=by
   clear h
   intro s1 pv k1 t1 g1 c1 n1 l1 ha h
   replace h:=ob h;obtain ⟨⟨ak,L3⟩,h2,h⟩:=h
   simp at h;obtain ⟨rfl,rfl⟩:=h
   have HZ:di s1.N s1.H s1.ai (ps.map fun p=>p.1.kd) vs ws an:=by
    rw [k1.ai];exact vF.frame (fun z hz _=>⟨n1 z hz,by rw [g1]⟩) (fun z _=>by rw [g1])
   obtain ⟨s2,a1,a2,a3,a4,a5,a6,a7,a8⟩:=Qdn c1 t1 HZ l1 gR h2
   exact ⟨s2,a1,a2.trans g1,a3,a4,a5.cons (a3.ER ha),a6,a7,by rw [k1.ai] at a8;exact a8⟩
  have own:∀ (u:Ty) (x:List u.T),u.iL=false->v=⟨.sl u,x⟩->oO s.N s.H s.ai u x w ids->(Q1 (AD ps vs (i+1) (Qv s.L (.arr u x))) fun r=>some ((i,.a_ s.L.bl.length 0 none)::r.1,r.2))=some (env,L') ->
    ∃ s',s'.L=L'/\s'.H=s.H/\aj s s'/\aD s'/\cG s' env (qV i (w::ws))/\(PB s' ps ws (s.L.bl.length+1)/\(∀ z,s.aF z->z∉(ids::an).flatten\/z∈(nk ps an).flatten->s'.aF z)/\vE s' s.ai (C3 ps vs (s.L.bl.length+1)) (nk ps an))/\(s.L.bl.length < s'.L.bl.length/\match s'.μ s.L.bl.length with
     | none=>w=.slice none 0 0
     | some m=>w=.slice (some ⟨m.z,m.sh,none⟩) m.n m.es):=by
   clear h
   intro u x MV hv ho h
   rcases ho with ⟨rfl,rfl,rfl⟩ | ⟨z,oo,k,ks,rfl,_,rfl,q1,q2,q3,q4,q5,q6⟩
   .obtain ⟨s1,e1,e2,e3,k1,t1,l1,n1⟩:=hs.og u
    rw [<- e1] at h
    have hlen:s1.L.bl.length=s.L.bl.length+1:=by rw [e1,Ql]
    obtain ⟨s2,b1,b2,b3,b4,b5,b6,b7,b8⟩:=next s1 _ k1 t1 e2 (by rw [e1];exact mN) n1 (fun z hz=>by rw [l1];exact gr z hz) (ER.fh (p:=.a_ s.L.bl.length 0 none) ⟨by omega,by rw [e3];simp⟩) h
    rw [hlen] at b6 b8
    have au:s.L.bl.length < s1.L.bl.length:=by omega
    exact ⟨s2,b1,b2,k1.trans b3,b4,b5,⟨b6,fun z hz hm=>b7 z (by rw [l1];exact hz) (hm.imp (fun h=>by simpa using h) id),b8⟩,Zm au b3.nb,by rw [b3.mu _ au,e3]⟩
   .have hks:=q6.Wz MV
    subst hks
    have hz:s.aF z:=hl z (by simp)
    obtain ⟨s1,e1,e2,e3,k1,t1,l1,o1⟩:=hs.AE (.arr u x) ⟨z,oo,u.size,x.length⟩ hz (fun s' hk hm hH P2=>by
     unfold BR;simp only [hm]
     refine ⟨trivial,trivial,k,by rw [hH];exact q1,q4,fun i hi=>?_,fun _=>⟨q2,by rw [hk.ai];exact q3⟩,fun e=>absurd e (by decide)⟩
     have:=q5.2 i hi
     have oh:=jT (k:=u.size) hi
     unfold cI at this;rw [List.drop_take,List.take_take,Nat.min_eq_left (by omega),List.drop_drop] at this
     rw [hH];exact ax.mono (fun z hz=>(P2 z).2 hz) _ this)
    rw [<- e1] at h
    have hlen:s1.L.bl.length=s.L.bl.length+1:=by rw [e1,Ql]
    obtain ⟨s2,b1,b2,b3,b4,b5,b6,b7,b8⟩:=next s1 _ k1 t1 e2 (by rw [e1];exact mN) (fun z' aX=>⟨fun h=>aX.1 ((o1 z').1 h),by rw [k1.dj];exact aX.2⟩) (fun z' aX=>(l1 z').2 ⟨gr z' aX,fun e=>sR z (by simp) z' aX e.symm⟩) (ER.fh (p:=.a_ s.L.bl.length 0 none) ⟨by omega,by rw [e3];simp⟩) h
    rw [hlen] at b6 b8
    have au:s.L.bl.length < s1.L.bl.length:=by omega
    exact ⟨s2,b1,b2,k1.trans b3,b4,b5,⟨b6,fun z' aX hm=>b7 z' ((l1 z').2 ⟨aX,fun e=>by subst e;rcases hm with hm | hm;exact hm (by simp);exact sR _ (by simp) _ (HY hm) rfl⟩) (hm.imp (fun h=>by simp only [Ze,Zh,not_or] at h;exact h.2) id),b8⟩,Zm au b3.nb,by rw [b3.mu _ au,e3]⟩
  simp only [AD] at h
  cases m with
  | cl g =>
   obtain ⟨rfl,rfl⟩:=sQ
   obtain ⟨s2,b1,b2,b3,b4,b5,b6,b7,b8⟩:=next s (.fn g [] []) (aj.refl s) hs rfl mN (fun _ h=>h) gr ⟨[],[],rfl,trivial,trivial⟩ h
   exact ⟨s2,b1,b2,b3,b4,b5,b6,fun z hz hm=>b7 z hz (hm.imp (fun h=>by simpa using h) id),b8⟩
  | ro =>
   simp only at h
   obtain ⟨cs,hv,cZ⟩:=sQ
   obtain ⟨s2,b1,b2,b3,b4,b5,b6,b7,b8⟩:=next s _ (aj.refl s) hs rfl mN (fun _ h=>h) gr (ER.of (MW hv (ax.mono (fun z hz=>⟨hz,fun c h1 h2=>by omega⟩) _ cZ.rep))) h
   exact ⟨s2,b1,b2,b3,b4,b5,b6,fun z hz hm=>b7 z hz (hm.imp (fun h=>by simp only [Ze,Zh,not_or] at h;exact h.2) id),b8⟩
  | mv =>
   obtain ⟨u,x,rfl,ho⟩:=sQ
   simp only at h
   obtain ⟨s1,e1,e2,k1,t1,a1,n1,l1⟩:=MX hs ho (fun z hz=>hl z (by rw [Ze,Zh];exact .inl hz))
   rw [<- e1] at h
   have hlen:s1.L.bl.length=s.L.bl.length+1:=by rw [e1,Ql]
   obtain ⟨s2,b1,b2,b3,b4,b5,b6,b7,b8⟩:=next s1 _ k1 t1 e2 (by rw [e1];exact mN) n1 (fun z hz=>l1 z (gr z hz) (fun hm=>sR z hm z hz rfl)) (ER.fh a1) h
   rw [hlen] at b6 b8
   exact ⟨s2,b1,b2,k1.trans b3,b4,b5,b6,fun z hz hm=>b7 z (l1 z hz (fun hi=>by rcases hm with hm | hm;exact hm (by simp [hi]);exact sR _ hi _ (HY (ps:=ps) hm) rfl)) (hm.imp (fun h=>by simp only [Ze,Zh,not_or] at h;exact h.2) id),b8⟩
  | io =>
   obtain ⟨u,x,rfl,ho⟩:=sQ
   simp only at h
   split at h
   .simp at h
   rename_i MV
   obtain ⟨s',a1,a2,a3,a4,a5,a6,a7⟩:=own u x MV rfl ho h
   exact ⟨s',a1,a2,a3,a4,a5,⟨a7,a6.1⟩,fun z hz hm=>a6.2.1 z hz hm,a6.2.2⟩
  | ps =>
   obtain ⟨z,k,j,rfl,rfl,q1,q2,q3,q4⟩:=sQ
   simp only at h
   have hz:s.aF z:=hl z (by simp)
   obtain ⟨hzj,hnj⟩:=List.nodup_cons.1 gh
   obtain ⟨s1,e1,e2,e3,k1,t1,l1,o1⟩:=hs.AE (.cells (gk 0 v.1 v.2)) ⟨z,0,0,0⟩ hz (fun s' hk hm hH P2=>by
    unfold BR;simp only
    refine ⟨trivial,_,k,hm,rfl,by rw [hH];exact q1,AF _ ?_,q2,by rw [hk.ai];exact q3⟩
    exact ax.frame (H:=s.H) (fun z hz au=>⟨hk.NN (st:=0) au ⟨hz,fun c h1 h2=>by omega⟩,by rw [hH]⟩) _ q4.rep)
   rw [<- e1] at h
   have hlen:s1.L.bl.length=s.L.bl.length+1:=by rw [e1,Ql]
   have au:s.L.bl.length < s1.L.bl.length:=by omega
   have hN1:∀ z,s.N z->s1.N z:=fun z' aX=>⟨fun h=>aX.1 ((o1 z').1 h),by rw [k1.dj];exact aX.2⟩
   obtain ⟨s2,b1,b2,b3,b4,b5,b6,b7,b8⟩:=next s1 _ k1 t1 e2 (by rw [e1];exact mN) hN1 (fun z' aX=>(l1 z').2 ⟨gr z' aX,fun e=>sR z (by simp) z' aX e.symm⟩) (ER.fh (p:=.ptr s.L.bl.length 0) ⟨by omega,_,e3,rfl,rfl⟩) h
   rw [hlen] at b6 b8
   refine ⟨s2,b1,b2,k1.trans b3,b4,b5,⟨⟨Zm au b3.nb,_,by rw [b3.mu _ au];exact e3,rfl,rfl⟩,b6⟩,fun z' aX hm=>?_,⟨Zm au b3.nb,⟨⟨z,0,0,0⟩,k,by rw [b3.mu _ au];exact e3,rfl,by rw [b2];exact q1,q2,q3,dA.frame (N:=s.N) (H:=s.H) (G:=s2.H) (M:=s2.N) (fun y hy hy'=>⟨b3.N (by rw [e2];exact hy') (hN1 y hy),by rw [b2]⟩) v.1 q4 (fun y (_:y∈j)=>by rw [b2])⟩,fun y hy=>?_⟩,b8⟩
   .have aU:z'≠z:=by
     rintro rfl
     rcases hm with hm | hm
     .exact hm (by simp)
     .simp only [nk,List.drop_succ_cons,List.drop_zero,Ze,Zh] at hm
      rcases hm with hm | hm
      .exact hzj hm
      .exact sR _ (by simp) _ (HY hm) rfl
    refine b7 z' ((l1 z').2 ⟨aX,aU⟩) ?_
    rcases hm with hm | hm
    .simp only [Ze,Zh,not_or] at hm;exact .inl hm.2
    .simp only [nk,List.drop_succ_cons,List.drop_zero,Ze,Zh] at hm
     rcases hm with hm | hm
     .exact .inl (fun h=>sR z' (by simp [hm]) z' h rfl)
     .exact .inr hm
   .have hyl:s.aF y:=hl y (by rw [Ze];exact List.mem_append.2 (.inl (List.mem_cons_of_mem _ (by simpa using hy))))
    refine b7 y ((l1 y).2 ⟨hyl,fun e=>hzj (by subst e;simpa using hy)⟩) (.inl (fun h=>sR y (List.mem_cons_of_mem _ (by simpa using hy)) y h rfl))
theorem WA:∀ {rs:List (Bool×Ty)} {ps:List PV} {ws:List Value} {s:S} {vs:List TV} {L':LS},aD s->Qw (ER s) ps ws->EW rs ps s.L=some (vs,L') ->
  ∃ s1 an,s1.L=L'/\s1.H=s.H/\s1.μ=s.μ/\aj s s1/\aD s1/\(∀ z,s.aF z->s1.aF z)/\di s1.N s1.H s.ai (rs.map fun q=>AG q.1) vs ws an/\(∀ z∈an.flatten,s1.aF z)/\an.flatten.Nodup/\(∀ z∈an.flatten,¬ s.aF z)/\vs.length=rs.length
 | [],[],[],s,vs,L',hs,he,h=>by
  simp [EW] at h;obtain ⟨rfl,rfl⟩:=h
  exact ⟨s,[],rfl,rfl,rfl,aj.refl s,hs,fun _ h=>h,trivial,by simp,by simp,by simp,rfl⟩
 | (o,t)::rs,p::ps,w::ws,s,vs,L',hs,he,h=>by
  obtain ⟨r1,he⟩:=he
  simp only [EW] at h
  replace h:=ob h;obtain ⟨⟨x,L2⟩,h2,h⟩:=h
  replace h:=ob h;obtain ⟨⟨cy,L3⟩,h3,h⟩:=h
  simp at h;obtain ⟨rfl,rfl⟩:=h
  simp only at h3
  cases o with
  | true =>
   obtain ⟨hx,s1,ids,l1,g1,u1,k1,t1,hh,hl,oP,hnd,ho⟩:=P3 hs r1 h2
   rw [<- l1] at h3
   obtain ⟨s2,an,a1,a2,a3,a4,a5,a6,a7,a8,a9,JX,P4⟩:=WA t1 (Qw.mono (fun _ _=>k1.ER) he) h3
   have aI:s1.ai=s.ai:=k1.ai
   refine ⟨s2,ids::an,a1,a2.trans g1,a3.trans u1,k1.trans a4,a5,fun z hz=>a6 z ((hl z).2 (.inl hz)),⟨hh.frame (fun z hz au=>⟨a4.N au hz,by rw [a2]⟩) (fun z _=>by rw [a2]),by rw [<- aI];exact a7⟩,?_,?_,?_,by simp [P4]⟩
   .intro z hz
    rw [Ze,Zh] at hz
    rcases hz with hz | hz
    .exact a6 z ((hl z).2 (.inr hz))
    .exact a8 z hz
   .rw [Ze,Zn]
    exact ⟨hnd,a9,fun a ha b hb e=>by subst e;exact JX a hb ((hl a).2 (.inr ha))⟩
   .intro z hz
    rw [Ze,Zh] at hz
    rcases hz with hz | hz
    .exact oP z hz
    .exact fun h=>JX z hz ((hl z).2 (.inl h))
  | false =>
   simp only [vG] at h2
   split at h2
   .rename_i dm
    simp only [Z8] at dm
    replace h2:=ob h2;obtain ⟨⟨y,L4⟩,h4,h2⟩:=h2
    simp at h2;obtain ⟨rfl,rfl⟩:=h2
    obtain ⟨s1,ids,l1,g1,u1,k1,t1,nq,hl,oP,hnd,o1⟩:=H_ t hs (r1.cells dm.1) h4
    rw [<- l1] at h3
    obtain ⟨s2,an,a1,a2,a3,a4,a5,a6,a7,a8,a9,JX,P4⟩:=WA t1 (Qw.mono (fun _ _=>k1.ER) he) h3
    have aI:s1.ai=s.ai:=k1.ai
    refine ⟨s2,ids::an,a1,a2.trans g1,a3.trans u1,k1.trans a4,a5,fun z hz=>a6 z ((hl z).2 (.inl hz)),⟨⟨_,WB r1 dm.1 dm.2,dA.frame (fun z hz au=>⟨a4.N au hz,by rw [a2]⟩) t nq (fun z _=>by rw [a2])⟩,by rw [<- aI];exact a7⟩,?_,?_,?_,by simp [P4]⟩
    .intro z hz
     rw [Ze,Zh] at hz
     rcases hz with hz | hz
     .exact a6 z ((hl z).2 (.inr hz))
     .exact a8 z hz
    .rw [Ze,Zn]
     exact ⟨hnd,a9,fun a ha b hb e=>by subst e;exact JX a hb ((hl a).2 (.inr ha))⟩
    .intro z hz
     rw [Ze,Zh] at hz
     rcases hz with hz | hz
     .exact oP z hz
     .exact fun h=>JX z hz ((hl z).2 (.inl h))
   .simp at h2
 | [],_::_,_,_,_,_,_,_,h=>by simp [EW] at h
 | _::_,[],_,_,_,_,_,_,h=>by simp [EW] at h
theorem Ia:∀ {ps:List (PM×Ty)} {i j:Nat},j∈iC ps i->i<=j
 | [],i,j,h=>by simp [iC] at h
 | (m,t)::ps,i,j,h=>by
  cases m with
  | ro=>exact Ia (ps:=ps) h
  | cl g=>exact Ia (ps:=ps) h
  | mv=>have:=Ia (ps:=ps) (i:=i+1) h;omega
  | io=>simp only [iC,List.mem_cons] at h;rcases h with rfl | h;exact Zd _;have:=Ia h;omega
  | ps=>simp only [iC,List.mem_cons] at h;rcases h with rfl | h;exact Zd _;have:=Ia h;omega
theorem JY:∀ {ps:List (PM×Ty)} {ws:List Value} {s:S} {i:Nat} {vs:List TV} {L':LS},aD s->PB s ps ws i->BK ps i s.L=some (vs,L') ->
  ∃ s1 aO,s1.L=L'/\s1.H=s.H/\s1.μ=s.μ/\aj s s1/\aD s1/\(∀ z,s.aF z->s1.aF z)/\di s1.N s1.H s.ai (sS ps) vs (AH ps ws) aO /\
   (∀ z∈aO.flatten,(s1.aF z/\¬ s.aF z)\/∃ j∈iC ps i,∃ m,s1.μ j=some m/\m.z=z) /\
   ((∀ j∈iC ps i,∃ B,Qi s1.L j=some B/\B.rw=true)->aO.flatten.Nodup)
 | [],[],s,i,vs,L',hs,_,h=>by
  simp [BK] at h;obtain ⟨rfl,rfl⟩:=h
  exact ⟨s,[],rfl,rfl,rfl,aj.refl s,hs,fun _ h=>h,trivial,by simp,by simp⟩
 | (m,t)::ps,w::ws,s,i,vs,L',hs,hp,h=>by
  simp only [BK] at h
  cases m with
  | ro=>exact JY (ps:=ps) hs hp h
  | cl g=>exact JY (ps:=ps) hs hp h
  | mv=>exact JY (ps:=ps) hs hp h
  | io =>
   obtain ⟨⟨hi,hm⟩,Az⟩:=hp
   simp only at h
   split at h
   .rename_i u
    replace h:=ob h;obtain ⟨x,h1,h⟩:=h
    replace h:=ob h;obtain ⟨⟨cy,L3⟩,h2,h⟩:=h
    simp at h;obtain ⟨rfl,rfl⟩:=h
    obtain ⟨s1,aO,a1,a2,a3,a4,a5,a6,a7,a8,a9⟩:=JY hs Az h2
    unfold JZ at h1
    split at h1
    .rename_i aB u' xs hb
     split at h1
     .simp at h1
     rename_i MV
     have eJ:∀ t,u'≠.os t:=fun t e=>by subst e;simp [Ty.iL] at MV
     replace h1:=ob h1;obtain ⟨y,h4,h1⟩:=h1
     simp at h1;subst h1
     have e0:=Qq h4
     injection e0 with e0;subst e0
     have:=Qg h4;subst this
     cases aE:s.μ i with
     | none =>
      rw [aE] at hm;subst hm
      refine ⟨s1,[]::aO,a1,a2,a3,a4,a5,a6,⟨⟨u',xs,rfl,.inl ⟨rfl,EX hs hb aE,rfl⟩⟩,a7⟩,fun z hz=>?_,fun hl=>?_⟩
      .rw [Ze,List.nil_append] at hz
       rcases a8 z hz with h | ⟨j,j1,j2⟩
       .exact .inl h
       .exact .inr ⟨j,by simp [iC,j1],j2⟩
      .rw [Ze,List.nil_append];exact a9 (fun j hj=>hl j (by simp [iC,hj]))
     | some m =>
      rw [aE] at hm;subst hm
      obtain ⟨b1,b2,k,b3,b4,b5,b6,b7⟩:=mO hs hb aE
      have oh:s1.μ i=some m:=by rw [a3];exact aE
      refine ⟨s1,[m.z]::aO,a1,a2,a3,a4,a5,a6,⟨⟨u',xs,rfl,.inr ⟨m.z,m.sh,k,[],rfl,by simp,by rw [b1,b2],by rw [a2];exact b3,(b6 rfl).1,(b6 rfl).2,AI hs hb aE b3,(RL.om b4 b5).frame (fun z hz au=>⟨a4.N au hz,by rw [a2]⟩),gY.C4 eJ⟩⟩,a7⟩,fun z hz=>?_,fun hl=>?_⟩
      .rw [Ze,Zh] at hz
       rcases hz with hz | hz
       .simp at hz;exact .inr ⟨i,by simp [iC],m,oh,hz.symm⟩
       .rcases a8 z hz with h | ⟨j,j1,j2⟩
        .exact .inl h
        .exact .inr ⟨j,by simp [iC,j1],j2⟩
      .rw [Ze,Zn]
       refine ⟨by simp,a9 (fun j hj=>hl j (by simp [iC,hj])),fun p hp q hq e=>?_⟩
       simp at hp;subst hp;subst e
       obtain ⟨B,c1,c2⟩:=hl i (by simp [iC])
       rcases a8 _ hq with ⟨h,_⟩ | ⟨j,j1,m',j2,j3⟩
       .exact a5.lm i B m c1 oh h
       .obtain ⟨B',d1,d2⟩:=hl j (by simp [iC,j1])
        have:=a5.inj i j B B' m m' c1 d1 c2 oh j2 j3.symm
        have:=Ia j1;omega
    .simp at h1
   .simp at h
  | ps =>
   obtain ⟨⟨hi,m,hm,dW,rfl⟩,Az⟩:=hp
   simp only at h
   replace h:=ob h;obtain ⟨⟨x,L2⟩,h1,h⟩:=h
   replace h:=ob h;obtain ⟨⟨cy,L3⟩,h2,h⟩:=h
   simp at h;obtain ⟨rfl,rfl⟩:=h
   unfold J0 at h1
   split at h1
   .rename_i aB cs hb
    replace h1:=ob h1;obtain ⟨⟨y,L4⟩,h4,h1⟩:=h1
    simp at h1;obtain ⟨rfl,rfl⟩:=h1
    have hB:=hs.aJ i _ hb
    unfold BR at hB;simp only at hB
    obtain ⟨_,m',k,aE,_,hk,cD,bn,kj⟩:=hB
    rw [hm] at aE;injection aE with aE;subst aE
    obtain ⟨s1,j,l1,g1,u1,k1,t1,nq,nr,MY,CW,o1⟩:=H_ t hs cD h4
    simp only at h2
    rw [<- l1] at h2
    obtain ⟨s2,aO,a1,a2,a3,a4,a5,a6,a7,a8,a9⟩:=JY t1 (Az.keep k1) h2
    have aI:s1.ai=s.ai:=k1.ai
    have oh:s2.μ i=some m:=by rw [a3,u1];exact hm
    have vj:∀ z∈j,s2.aF z:=fun z hz=>a6 z ((nr z).2 (.inr hz))
    refine ⟨s2,(m.z::j)::aO,a1,a2.trans g1,a3.trans u1,k1.trans a4,a5,fun z hz=>a6 z ((nr z).2 (.inl hz)),⟨⟨m.z,k,j,rfl,rfl,by rw [a2,g1];exact hk,bn,kj,dA.frame (fun z hz au=>⟨a4.N au hz,by rw [a2]⟩) t nq (fun z _=>by rw [a2])⟩,by rw [<- aI];exact a7⟩,fun z hz=>?_,fun hl=>?_⟩
    .rw [Ze,Zh] at hz
     rcases hz with hz | hz
     .rcases Z2 hz with rfl | hz
      .exact .inr ⟨i,by simp [iC],m,oh,rfl⟩
      .exact .inl ⟨vj z hz,MY z hz⟩
     .rcases a8 z hz with ⟨h,h'⟩ | ⟨j,j1,j2⟩
      .exact .inl ⟨h,fun h0=>h' ((nr z).2 (.inl h0))⟩
      .exact .inr ⟨j,by simp [iC,j1],j2⟩
    .obtain ⟨B,c1,c2⟩:=hl i (by simp [iC])
     rw [Ze,Zn]
     refine ⟨List.nodup_cons.2 ⟨fun h=>a5.lm i B m c1 oh (vj _ h),CW⟩,a9 (fun j hj=>hl j (by simp [iC,hj])),fun p hp q hq e=>?_⟩
     subst e
     rcases Z2 hp with rfl | hp
     .rcases a8 _ hq with ⟨h,_⟩ | ⟨j,j1,m',j2,j3⟩
      .exact a5.lm i B m c1 oh h
      .obtain ⟨B',d1,d2⟩:=hl j (by simp [iC,j1])
       have:=a5.inj i j B B' m m' c1 d1 c2 oh j2 j3.symm
       have:=Ia j1;omega
     .rcases a8 _ hq with ⟨_,h⟩ | ⟨j,j1,m',j2,rfl⟩
      .exact h ((nr _).2 (.inr hp))
      .obtain ⟨B',d1,d2⟩:=hl j (by simp [iC,j1])
       exact a5.lm j B' m' d1 j2 (vj _ hp)
   .simp at h1
structure oq (P:Program) (A:cL) (l:Ib A) (bY:FuncId->List Value->Nat->af->Option (Value×af)):Prop where
 call:∀ ai f,A.inline f=false->C5 (A.sig f) (l.call f) (bY f) ai
 inl:∀ ai (β:Type) f,A.inline f=true->∀ {γ:Type} {args:List PV} {ws:List Value} {s:S} {KV:PV->LS->Option β} {KE:Value->af->Option γ} {r:β} {Q:γ->Prop},aD s->s.ai=ai->Qw (ER s) args ws->eE s r KV KE Q->l.inl β f args s.L KV=some r ->
  ∃ y,(Q1 (bY f ws ai s.H) fun q=>KE q.1 q.2)=some y/\Q y
theorem oq.x {P:Program} {A:cL} {l:Ib A} {bY:FuncId->List Value->Nat->af->Option (Value×af)} (h:oq P A l bY) (β:Type) (ai nt:Nat) (f:FuncId):CV (β:=β) ⟨P,l.call,l.inl β,nt,A.own f,A.loops f,A.jz f⟩ ⟨P,bY,ai,nt,A.fuel,A.jz f⟩ :=
 ⟨rfl,rfl,rfl,rfl,fun g hg=>h.call ai g hg,fun g hg=>h.inl ai β g hg⟩
theorem di.len {N:Nat->Prop} {H:af} {ai:Nat}:∀ {ks:List Kd} {vs:List TV} {ws:List Value} {is:List (List Nat)},di N H ai ks vs ws is->ks.length=ws.length/\∀ z∈is.flatten,z < H.length
 | [],[],[],[],_=>⟨rfl,by simp⟩
 | _::_,_::_,_::_,_::_,h=>by
  obtain ⟨a,b⟩:=di.len h.2
  refine ⟨by simp [a],fun z hz=>?_⟩
  rw [Ze,Zh] at hz
  rcases hz with hz | hz
  .exact h.1.lt z hz
  .exact b z hz
theorem Qxa {P:Program} {A:cL} {l:Ib A} {bY:FuncId->List Value->Nat->af->Option (Value×af)} (hl:oq P A l bY) (ai:Nat) (f:FuncId):C5 (A.sig f) (C6 P A l f) (vg P A.ev bY f) ai:=by
 intro a r h H fC ws an Ic AJ hnd Ie hh
 obtain ⟨hlen,MZ⟩:=hh.len
 unfold C6 at h
 unfold vg
 split at h
 .simp at h
 .rename_i fn hfn
  rw [hfn]
  simp only
  split at h
  .rename_i c hb WC AK
   have WD:Nat.ble ws.length fn.ntmps=true:=by rw [<- hlen];simpa using WC
   rw [hb,WD,AK]
   simp only
   replace h:=ob h;obtain ⟨⟨env,L0⟩,h1,h⟩:=h
   replace h:=ob h;obtain ⟨L1,WE,h⟩:=h
   simp only at WE h
   let sE:S:={ μ:=fun _=>none,L:=⟨[],0⟩,H:=H,fC:=fC,Old:=fun _ _=>False,aF:=fun z=>z∈an.flatten,ai:=ai,br:=fun _=>none }
   have P5:∀ b B,Qi sE.L b=some B->False:=fun b B hB=>by have:=Qo hB;simp [sE] at this
   have sU:∀ z,bI sE z↔z∈an.flatten:=by
    intro z;constructor
    .rintro (⟨b,B,m,h1,_⟩ | h | ⟨p,hp⟩)
     .exact (P5 b B h1).elim
     .exact h
     .simp [sE] at hp
    .exact fun h=>.inr (.inl h)
   have tE:aD sE:=⟨fun b B hB=>(P5 b B hB).elim,fun b _ B _ _ _ hB=>(P5 b B hB).elim,fun z hz=>⟨Ic z hz,fun ho=>Ie z ((sU z).1 ho) hz⟩,AJ,fun b B _ hB=>(P5 b B hB).elim,fun z hz=>MZ z hz,fun z p hp=>by simp [sE] at hp,fun z p hp=>by simp [sE] at hp⟩
   have hhE:di sE.N sE.H sE.ai ((A.sig f).params.map fun p=>p.1.kd) (ff (A.sig f).eG a) ws an:=hh.frame (fun z hz _=>⟨⟨fun ho=>hz.1 ((sU z).1 ho),hz.2⟩,rfl⟩) (fun _ _=>rfl)
   obtain ⟨sF,lF,gF,kF,tF,heF,pbF,liF,cbF⟩:=Qdn (s:=sE) rfl tE hhE (fun z hz=>hz) hnd h1
   rw [<- lF] at WE
   obtain ⟨s0,l0,g0',WG,t0,_,_⟩:=WH tF (by rw [kF.ai];exact cbF) (fun z hz=>liF z (HY hz) (.inr hz)) (Wy hnd) WE
   rw [<- l0] at h
   have g0:s0.H=sE.H:=g0'.trans gF
   have k0:aj sE s0:=kF.trans WG
   have he0:=WG.env heF
   have pb0:PB s0 (A.sig f).params ws 0:=pbF.keep WG
   have WI:s0.H=H:=g0
   obtain ⟨QF,hQF⟩:∃ QF:Value×af->Prop,QF=fun q=>∃ qZ bq aO,q.1=iK qZ/\H.length<=q.2.length/\(∀ z,z < H.length->z∉an.flatten->ah q.2 z=ah H z) /\
     (bq.flatten++aO.flatten).Nodup/\(∀ z∈bq.flatten++aO.flatten,z∈an.flatten\/H.length<=z)/\(∀ z∈bq.flatten++aO.flatten,¬ fC z) /\
     di (fun z=>z∉bq.flatten++aO.flatten/\¬ fC z) q.2 ai ((A.sig f).results.map fun q=>AG q.1) ((ff (A.sig f).cY r).take (A.sig f).results.length) qZ bq /\
     di (fun z=>z∉bq.flatten++aO.flatten/\¬ fC z) q.2 ai (sS (A.sig f).params) ((ff (A.sig f).cY r).drop (A.sig f).results.length) (AH (A.sig f).params ws) aO:=⟨_,rfl⟩
   have:=EV (γ:=Value×af) (Q:=QF)
    (hl.x _ ai fn.ntmps f) c 0 s0 env (qV 0 ws) _
    (fun ex env H'=>match ex with
     | .exit _=>none
     | _=>Q1 (iJ P env H' fn.results.toList) fun vs=>Q1 (vt .keep H.length vs H') fun r=>some (iK r.1,r.2)) k0.ai t0 he0
    (fun ex ak e' s1 k1 t1 WJ _ h=>by
     have key:(Q1 (wL P ak s1.L fn.results.toList) fun vs=>Q1 (EW (A.sig f).results vs s1.L) fun r_1=>Q1 (BK (A.sig f).params 0 r_1.2) fun q=>match MH q.2 (iC (A.sig f).params 0) with
       | true=>nh (A.sig f).cY (r_1.1++q.1)
       | false=>none)=some r->∃ y,(Q1 (iJ P e' s1.H fn.results.toList) fun vs=>Q1 (vt .keep H.length vs s1.H) fun r=>some (iK r.1,r.2))=some y/\QF y:=by
      intro h
      replace h:=ob h;obtain ⟨BL,h2,h⟩:=h
      replace h:=ob h;obtain ⟨⟨rv,L2⟩,h3,h⟩:=h
      replace h:=ob h;obtain ⟨⟨ov,L3⟩,h4,h⟩:=h
      simp only at h4 h
      split at h
      .rename_i C7
       obtain ⟨qZ,e2,r2⟩:=JW t1 WJ h2
       rw [e2]
       simp only [Q1,vt]
       obtain ⟨s2,bq,a1,a2,a3,a4,a5,a6,a7,a8,a9,JX,P4⟩:=WA t1 r2 h3
       rw [<- a1] at h4
       have pb2:PB s2 (A.sig f).params ws 0:=pb0.keep (k1.trans a4)
       obtain ⟨s3,aO,b1,b2,b3,b4,b5,b6,b7,b8,b9⟩:=JY a5 pb2 h4
       rw [<- b1] at C7
       have cO:=PW C7
       have hk:aj sE s3:=((k0.trans k1).trans a4).trans b4
       have hH:s3.H=s1.H:=b2.trans a2
       have sV:s1.ai=ai:=(k0.trans k1).ai
       have kR:s2.ai=ai:=a4.ai.trans sV
       have EY:∀ z∈bq.flatten,s3.aF z:=fun z hz=>b6 z (a8 z hz)
       have JV:=MQ _ h
       have Ig:∀ z∈bq.flatten++aO.flatten,bI s3 z:=by
        intro z hz
        rcases List.mem_append.1 hz with hz | hz
        .exact .inr (.inl (EY z hz))
        .rcases b8 z hz with ⟨h,_⟩ | ⟨j,j1,m,j2,j3⟩
         .exact .inr (.inl h)
         .obtain ⟨B,q1,q2⟩:=cO j j1
          exact .inl ⟨j,B,m,q1,q2,j2,j3⟩
       have hN:∀ z,s3.N z->z∉bq.flatten++aO.flatten/\¬ fC z:=fun z hz =>
        ⟨fun hm=>hz.1 (Ig z hm),fun hb=>hz.2 (by rw [hk.dj];exact hb)⟩
       refine ⟨_,rfl,?_⟩
       rw [hQF]
       refine ⟨qZ,bq,aO,rfl,?_,?_,?_,?_,?_,?_,?_⟩
       .rw [<- hH];exact hk.len
       .intro z hz WK;rw [<- hH];exact hk.fr z hz (fun ho=>WK ((sU z).1 ho))
       .rw [Zn]
        refine ⟨a9,b9 cO,fun x hx y hy e=>?_⟩
        subst e
        rcases b8 _ hy with ⟨_,h⟩ | ⟨j,j1,m,j2,rfl⟩
        .exact h (a8 _ hx)
        .obtain ⟨B,q1,q2⟩:=cO j j1
         exact b5.lm j B m q1 j2 (EY _ hx)
       .intro z hz
        rcases hk.own z (Ig z hz) with h | h
        .exact .inl ((sU z).1 h)
        .exact .inr h
       .intro z hz hb
        have:s3.fC z:=by rw [hk.dj];exact hb
        exact (b5.dj z this).2 (Ig z hz)
       .rw [JV,List.take_append_of_le_length (by omega),Zs (by omega)]
        rw [sV] at a7
        exact a7.frame (fun z hz au=>⟨hN z (b4.N au hz),by rw [a2]⟩) (fun z _=>by rw [a2])
       .rw [JV,List.drop_append_of_le_length (by omega),List.drop_of_length_le (by omega),List.nil_append]
        rw [kR] at b7
        exact b7.frame (fun z hz au=>⟨hN z hz,by rw [hH]⟩) (fun z _=>by rw [hH])
      .simp at h
     cases ex with
     | exit id=>simp at h
     | normal=>exact key h
     | ret=>exact key h) h
   obtain ⟨⟨v,H'⟩,y1,yQ⟩:=this
   rw [hQF] at yQ
   obtain ⟨qZ,bq,aO,y2,y3⟩:=yQ
   rw [WI] at y1
   exact ⟨v,H',qZ,bq,aO,y1,y2,y3⟩
  .simp at h
theorem Qxb {P:Program} {A:cL} {l:Ib A} {bY:FuncId->List Value->Nat->af->Option (Value×af)} (hl:oq P A l bY) (ai:Nat) (β:Type) (f:FuncId) {γ:Type} {args:List PV} {ws:List Value} {s:S} {KV:PV->LS->Option β} {KE:Value->af->Option γ} {r:β} {Q:γ->Prop} (hs:aD s) (aI:s.ai=ai) (hr:Qw (ER s) args ws) (hK:eE s r KV KE Q)
  (h:Ih P A l β f args s.L KV=some r):∃ y,(Q1 (vg P A.ev bY f ws ai s.H) fun q=>KE q.1 q.2)=some y/\Q y:=by
 have hlen:=Qw.length hr
 unfold Ih at h
 unfold vg
 split at h
 .simp at h
 .rename_i fn hfn
  rw [hfn]
  simp only
  split at h
  .rename_i c hb WC AK
   rw [hb,<- hlen,WC,AK]
   simp only
   have:=EV (γ:=Value×af) (Q:=fun q=>∃ y,KE q.1 q.2=some y/\Q y) (hl.x β ai fn.ntmps f) c 0 s (MT 0 args) (qV 0 ws) _
    (fun ex env H'=>match ex with
     | .exit _=>none
     | _=>Q1 (iJ P env H' fn.results.toList) fun vs=>Q1 (vt .keep s.H.length vs H') fun r=>some (iK r.1,r.2)) aI hs (Qi1 hr)
    (fun ex ak e' s1 k1 t1 WJ _ h=>by
     have key:(Q1 (wL P ak s1.L fn.results.toList) fun vs=>match vs.all MU with
       | true=>KV (HX vs) s1.L
       | false=>none)=some r->∃ y,(Q1 (iJ P e' s1.H fn.results.toList) fun vs=>Q1 (vt .keep s.H.length vs s1.H) fun r=>some (iK r.1,r.2))=some y/\∃ z,KE y.1 y.2=some z/\Q z:=by
      intro h
      replace h:=ob h;obtain ⟨BL,h2,h⟩:=h
      split at h
      .rename_i WL
       obtain ⟨qZ,e2,r2⟩:=JW t1 WJ h2
       rw [e2]
       simp only [Q1,vt]
       exact ⟨_,rfl,hK _ _ s1 k1 t1 (Qtf r2 WL) h⟩
      .simp at h
     cases ex with
     | exit id=>simp at h
     | normal=>exact key h
     | ret=>exact key h) h
   obtain ⟨q,y1,z,y2,y3⟩:=this
   refine ⟨z,?_,y3⟩
   have e2:∀ (x:Option (Value×af)),x=some q->(Q1 x fun q=>KE q.1 q.2)=some z:=fun x hx=>by rw [hx];exact y2
   exact e2 _ y1
  .simp at h
structure M0 (A:cL):Prop where
 val:∀ f v,A.vH f=some v->∃ e,A.ext f=some e/\∀ ai,C5 (A.sig f) v e ai
 non:∀ f,A.vH f=none->A.ext f=none
 inl:∀ f,A.inline f=true->A.vH f=none
theorem Qtg {P:Program} {A:BH} {d:Nat} {f:FuncId} {e:List Value->Nat->af->Option (Value×af)} (h:A.ext f=some e):run P A (d+1) f=e:=by
 funext ws ai H;simp only [run,h]
theorem Qmb {P:Program} {A:BH} {d:Nat} {f:FuncId} (h:A.ext f=none):run P A (d+1) f=vg P A (run P A d) f:=by
 funext ws ai H;simp only [run,h]
theorem Qvk (P:Program) (A:cL) (hE:M0 A):∀ d:Nat,oq P A (aH P A d) (run P A.ev d)
 | 0=>⟨fun ai f hf a r h=>by simp [aH] at h,fun ai β f hf γ args ws s KV KE r Q hs aI hr hK h=>by simp [aH] at h⟩
 | d+1=>by
  have ih:=Qvk P A hE d
  refine ⟨fun ai f hf=>?_,fun ai β f hf γ args ws s KV KE r Q hs aI hr hK h=>?_⟩
  .cases hv:A.vH f with
   | none =>
    rw [Qmb (A:=A.ev) (hE.non f hv)]
    have e2:(aH P A (d+1)).call f=C6 P A (aH P A d) f:=by funext a;simp only [aH,hv]
    rw [e2]
    exact Qxa ih ai f
   | some v =>
    obtain ⟨e,he,dm⟩:=hE.val f v hv
    rw [Qtg (A:=A.ev) he]
    have e2:(aH P A (d+1)).call f=v:=by funext a;simp only [aH,hv]
    rw [e2]
    exact dm ai
  .rw [Qmb (A:=A.ev) (hE.non f (hE.inl f hf))]
   exact Qxb ih ai β f hs aI hr hK h
open Go.Ev Go.Ek Go.ChangeAt Go.RowKit Go.WideShapes Go.ChangeShapes
def M1 (x:List Int):Prop:=∀ n∈x,0<=n/\n < 256
theorem di.one {N:Nat->Prop} {H:af} {ai:Nat} {k:Kd} {v:TV} {ws:List Value} {is:List (List Nat)} (h:di N H ai [k] [v] ws is):∃ w i,ws=[w]/\is=[i]/\HR N H ai k v w i:=by
 cases ws with
 | nil=>cases is<;>exact absurd h id
 | cons w ws=>cases is with
  | nil=>exact absurd h id
  | cons i is=>cases ws with
   | nil=>cases is with
    | nil=>exact ⟨w,i,rfl,rfl,h.1⟩
    | cons _ _=>exact absurd h.2 id
   | cons _ _=>cases is<;>exact absurd h.2 id
structure mG (P:Program) (A:cL):Prop where
 v:M0 A
 x:P6 P A.ev
 n:Af P A.ev
theorem mG.no {P:Program} {A:cL} (h1:∀ f,A.ext f=none) (h2:∀ f,A.vH f=none) (h3:Af P A.ev:=by intro g h;exact absurd rfl h):mG P A :=
 ⟨⟨fun f v h=>by rw [h2] at h;simp at h,fun f _=>h1 f,fun f _=>h2 f⟩,fun f e h=>by rw [show A.ev.ext f=A.ext f from rfl,h1] at h;simp at h,h3⟩
def q_ (P:Program):Nat->TypeId->Option Ty
 | 0,_=>none
 | n+1,t=>match isVar P t with
  | false=>none
  | true=>match P.underlying t with
   | some .bool=>some .bool
   | some (.int k)=>some (.int k)
   | some .string=>some .str
   | some (.slice e)=>Q1 (q_ P n e) fun u=>some (.sl u)
   | some (.struct fs)=>match fs.toList with
    | f::h::r=>ri (q_ P n) (f::h::r)
    | _=>none
   | _=>none
def Wf:(t:Ty)->t.T->Prop
 | .int k,x=>k.min<=x/\x<=k.max
 | .bool,_=>True
 | .str,s=>s.size<=maxLen
 | .sl t,xs=>xs.length<=maxLen/\∀ x∈xs,Wf t x
 | .os _,_=>True
 | .pair a b,x=>Wf a x.1/\Wf b x.2
structure BM (ι:Io) (G:af) (w:World):Prop where
 ro:∀ b k,ah G b=some k->k.ro=true
 rel:∀ b k,ah G b=some k->qW ι (aL G.length) w b k
def nu (ι:Io) (G:af) (ι':Io) (G':af):Prop:=(∃ S,G'=G++S)/\∀ b,b < G.length->ι' b=ι b
theorem nu.refl (ι:Io) (G:af):nu ι G ι G:=⟨⟨[],by simp⟩,fun _ _=>rfl⟩
theorem nu.len {ι ι':Io} {G G':af} (h:nu ι G ι' G'):G.length<=G'.length:=by obtain ⟨⟨S,rfl⟩,_⟩:=h;simp
theorem nu.trans {ι ι' ι'':Io} {G G' G'':af} (h:nu ι G ι' G') (h':nu ι' G' ι'' G''):nu ι G ι'' G'':=by
 have hl:=h.len
 obtain ⟨⟨S,rfl⟩,e⟩:=h
 obtain ⟨⟨S',rfl⟩,e'⟩:=h'
 exact ⟨⟨S++S',by simp⟩,fun b hb=>(e' b (by omega)).trans (e b hb)⟩
theorem M3 {G S:af} {b:Nat} (h:b < G.length):ah (G++S) b=ah G b:=by
 unfold ah;rw [List.getElem?_append_left h]
theorem nu.rep {ι ι':Io} {G G':af} (h:nu ι G ι' G') {t:Ty} {x:t.T} {cs:List Value} (r:ax Any G t x cs):ax Any G' t x cs:=by
 obtain ⟨⟨S,rfl⟩,_⟩:=h
 exact ax.frame (fun z _ hz=>⟨trivial,M3 hz⟩) t r
theorem nu.Ii {ι ι':Io} {G G':af} (h:nu ι G ι' G') {xs ys:List Value} (r:aZ ι (aL G.length) xs ys):aZ ι' (aL G'.length) xs ys :=
 r.mono (fun b hb=>Zm hb h.len) (fun b hb=>h.2 b hb)
section
variable {H:Type} {enc:TypeId×Value->H} {P:Program} {w:World}
def M4 (enc:TypeId×Value->H) (P:Program) (w:World) (T:Ty) (t:TypeId):Prop:=∀ fuel cs x,DataW.trod enc P w 0 (fun _=>true) true fuel t cs=some x->∀ ι G,BM ι G w ->
 ∃ ι' G' y av,BM ι' G' w/\nu ι G ι' G'/\ax Any G' T y av/\aZ ι' (aL G'.length) av cs/\Wf T y
def C8 (G:af) (T:Ty):List T.T->List Value->Prop
 | [],iV=>iV=[]
 | y::ys,iV=>ax Any G T y (iV.take T.size)/\C8 G T ys (iV.drop T.size)
theorem C8.at {G:af} {T:Ty}:∀ {ys:List T.T} {iV:List Value},C8 G T ys iV->(iV.length=ys.length*T.size/\(∀ v∈iV,az v=true))/\∀ i (h:i < ys.length),ax Any G T ys[i] ((iV.drop (i*T.size)).take T.size)
 | [],iV,h=>by
  have h:iV=[]:=h
  subst h
  exact ⟨⟨by simp,by simp⟩,fun i h=>by simp at h⟩
 | y::ys,iV,h=>by
  obtain ⟨h1,h2⟩:=h
  have l1:=ax.len T h1
  have c1:=ax.cell T h1
  obtain ⟨⟨l2,c2⟩,r2⟩:=C8.at h2
  simp only [List.length_take] at l1
  simp only [List.length_drop] at l2
  have hs:=Ty.size_pos T
  refine ⟨⟨by simp only [Z9];rw [Nat.add_mul];omega,fun v hv=>?_⟩,fun i hi=>?_⟩
  .rw [<- List.take_append_drop T.size iV] at hv
   rcases List.mem_append.1 hv with hv | hv
   .exact c1 v hv
   .exact c2 v hv
  .cases i with
   | zero=>simpa using h1
   | succ i =>
    have:=r2 i (by simpa using hi)
    rw [List.drop_drop] at this
    rw [show T.size+i*T.size=(i+1)*T.size by rw [Nat.add_mul,Nat.one_mul];exact Nat.add_comm _ _] at this
    exact this
theorem C8.ext {ι ι':Io} {G G':af} (h:nu ι G ι' G') {T:Ty}:∀ {ys:List T.T} {iV:List Value},C8 G T ys iV->C8 G' T ys iV
 | [],_,r=>r
 | _::_,_,r=>⟨h.rep r.1,C8.ext h r.2⟩
theorem Qbp {T:Ty} {t:TypeId} (hT:M4 enc P w T t):∀ (M5:List (List Value)),(∀ cs∈M5,∃ fuel x,DataW.trod enc P w 0 (fun _=>true) true fuel t cs=some x)->∀ ι G,BM ι G w ->
  ∃ ι' G' ys iV,BM ι' G' w/\nu ι G ι' G'/\ys.length=M5.length/\C8 G' T ys iV/\aZ ι' (aL G'.length) iV M5.flatten/\∀ y∈ys,Wf T y
 | [],_,ι,G,hR=>⟨ι,G,[],[],hR,.refl ι G,rfl,rfl,aZ.nil _ _,by simp⟩
 | cs::M5,h,ι,G,hR=>by
  obtain ⟨fuel,x,hx⟩:=h cs (by simp)
  obtain ⟨ι1,G1,y,av,a1,a2,a3,a4,a5⟩:=hT fuel cs x hx ι G hR
  obtain ⟨ι2,G2,ys,iV,b1,b2,b3,b4,b5,b6⟩:=Qbp hT M5 (fun c hc=>h c (by simp [hc])) ι1 G1 a1
  have hl:=ax.len T a3
  refine ⟨ι2,G2,y::ys,av++iV,b1,a2.trans b2,by simp [b3],⟨?_,?_⟩,?_,?_⟩
  .rw [<- hl,List.take_left];exact b2.rep a3
  .rw [<- hl,List.drop_left];exact b4
  .rw [Ze];exact aZ.append (b2.Ii a4) b5
  .intro z hz
   rcases Z2 hz with rfl | hz
   .exact a5
   .exact b6 z hz
theorem Qmc {α:Type} {f:Nat->List α} {c:Nat}:∀ (m:Nat),(∀ i,i < m->(f i).length=c)->(((List.range m).map f).flatten.length=m*c)/\∀ i r,i < m->r < c->((List.range m).map f).flatten[i*c+r]? = (f i)[r]?
 | 0,_=>⟨by simp,fun i r h=>by omega⟩
 | m+1,h=>by
  obtain ⟨h1,h2⟩:=Qmc m (fun i hi=>h i (by omega))
  have hm:=h m (by omega)
  rw [List.range_succ,List.map_append,List.flatten_append]
  simp only [List.map_cons,List.map_nil,Ze,List.flatten_nil,List.append_nil]
  refine ⟨by rw [Zf,h1,hm,Nat.add_mul];omega,fun i r hi hr=>?_⟩
  rcases Nat.lt_or_ge i m with au | tA
  .have:i*c+r < m*c:=by
    have:=Zk c (show i+1<=m by omega)
    rw [Nat.add_mul] at this;omega
   rw [List.getElem?_append_left (by omega)]
   exact h2 i r au hr
  .have:i=m:=by omega
   subst this
   rw [Zq (by omega),h1]
   congr 1;omega
theorem Qnt (hl:laidOutB P=true) {t:TypeId} (hv:isVar P t=true):rowFine P t=true:=by
 unfold laidOutB at hl
 simp only [Z8,List.all_eq_true] at hl
 unfold isVar at hv
 simp only [Z8,Zj] at hv
 exact hl.1.1 t (List.mem_range.2 hv.1)
theorem Qmd {ι:Io} {G:af} (hR:BM ι G w) (l:Ev.Loc) (B:Option bx) (hB:∀ k,B=some k->k.ro=true/\qW (ι.set G.length l) (aL (G.length+1)) w G.length k) :
  BM (ι.set G.length l) (G++[B]) w/\nu ι G (ι.set G.length l) (G++[B])/\(G++[B]).length=G.length+1/\ah (G++[B]) G.length=B:=by
 have hg:ah (G++[B]) G.length=B:=by unfold ah;rw [Zq (by omega)];simp;cases B<;>rfl
 have hl:(G++[B]).length=G.length+1:=by simp
 have key:∀ b k,ah (G++[B]) b=some k->(b < G.length/\ah G b=some k)\/(b=G.length/\B=some k):=by
  intro b k hb
  have:=P7 hb
  rcases Nat.lt_or_ge b G.length with h | h
  .rw [M3 h] at hb;exact .inl ⟨h,hb⟩
  .have:b=G.length:=by omega
   subst this;rw [hg] at hb;exact .inr ⟨rfl,hb⟩
 refine ⟨⟨fun b k hb=>?_,fun b k hb=>?_⟩,⟨⟨[B],rfl⟩,fun b hb=>Io.aS _ _ (by omega)⟩,hl,hg⟩
 .rcases key b k hb with ⟨_,h⟩ | ⟨_,h⟩
  .exact hR.ro b k h
  .exact (hB k h).1
 .rw [hl]
  rcases key b k hb with ⟨h0,h⟩ | ⟨rfl,h⟩
  .have:=hR.rel b k h
   have e:(ι.set G.length l) b=ι b:=Io.aS _ _ (by omega)
   refine ⟨by rw [e];exact this.lt,by rw [e];exact this.shape,by rw [e];exact this.map,by rw [e];exact this.fit,fun i hi=>?_,fun hr=>?_⟩
   .rw [e]
    obtain ⟨c,c1,c2,c3⟩:=this.cell i hi
    exact ⟨c,c1,c2.mono (fun z hz=>Nat.lt_succ_of_lt hz) (fun z hz=>Io.aS _ _ (Nat.ne_of_lt hz)),c3⟩
   .have:=hR.ro b k h
    rw [hr] at this;simp at this
  .exact (hB k h).2
theorem Qi3 {T:Ty} {t e:TypeId} (ht:P.underlying t=some (.slice e)) (hT:M4 enc P w T e) (hc:P.cellsOf e=T.size):M4 enc P w (.sl T) t:=by
 intro fuel cs x hx ι G hR
 have bf:=Ty.size_pos T
 rcases DataW.trod_slice ht hx with ⟨rfl,_⟩ | ⟨a,len,cap,elems,rest,n,rfl,rfl,_,_,Bd,hcm,hel,he,hsp,_⟩
 .refine ⟨ι,G,[],[.slice none 0 0],hR,.refl ι G,?_,aZ.cons .dL (aZ.nil _ _),by simp [Wf]⟩
  unfold ax;exact .inl ⟨rfl,rfl⟩
 .rw [hc] at he hsp
  obtain ⟨kG,WM⟩:=hsp rfl
  rcases Nat.eq_zero_or_pos cap with h0 | h0
  .subst h0
   obtain rfl:len=0:=by omega
   obtain ⟨p1,p2,p3,p4⟩:=Qmd hR (⟨0,0,0⟩:Ev.Loc) none (fun k h=>by simp at h)
   refine ⟨_,_,[],[.slice (some ⟨G.length,0,none⟩) 0 T.size],p1,p2,?_,aZ.cons (.bD _ _ _ ?_) (aZ.nil _ _),by simp [Wf]⟩
   .unfold ax;exact .inr (.inl ⟨rfl,_,_,rfl⟩)
   .show G.length < _
    omega
  . -- every element can be read
   have rd:∀ i,i < cap->∃ c y,w.cells? 0 (a.add (i*T.size)) T.size=some c/\DataW.trod enc P w 0 (fun _=>true) true n e c=some y:=by
    intro i hi
    rcases Nat.lt_or_ge i len with h | h
    .have:=he i h
     rw [Z6 (by omega),Option.bind_eq_some_iff] at this
     obtain ⟨c,c1,c2⟩:=this
     exact ⟨c,_,c1,c2⟩
    .have:=WM (i - len) (by omega)
     rw [Z6 (by omega),show len+(i - len)=i by omega,Option.bind_eq_some_iff] at this
     obtain ⟨c,c1,c2⟩:=this
     exact ⟨c,_,c1,c2⟩
   have cellAt:∀ i r,i < cap->r < T.size->∃ v,w.cell? ((a.add (i*T.size)).add r)=some v:=by
    intro i r hi hr
    obtain ⟨c,y,c1,_⟩:=rd i hi
    obtain ⟨_,l,q⟩:=World.cells?_some c1
    exact ⟨c[r]'(by omega),by rw [q r hr,Z6]⟩
   obtain ⟨v0,P8⟩:=cellAt 0 0 h0 bf
   have e0:(a.add (0*T.size)).add 0=a:=by
    obtain ⟨ab,ao,aq⟩:=a
    rw [Nat.zero_mul];unfold Addr.add;split<;>simp_all
   rw [e0] at P8
   obtain ⟨fm,m,hs,ho,sW⟩:=Qe5 P8
   have C9:∀ j,a.add j=⟨a.block,a.off+j,none⟩:=by
    intro j;obtain ⟨xb,xo,xs⟩:=a;simp only at sW;subst sW;unfold Addr.add;split<;>simp_all
   have EZ:∀ j r,(a.add j).add r=⟨a.block,a.off+(j+r),none⟩:=by
    intro j r;rw [C9 j];unfold Addr.add;split<;>simp_all<;>omega
   have jx:a.off+cap*T.size<=m:=by
    obtain ⟨v,hv⟩:=cellAt (cap - 1) (T.size - 1) (by omega) (by omega)
    rw [EZ] at hv
    obtain ⟨WN,m',bZ,rj,_⟩:=Qe5 hv
    simp only at bZ rj
    rw [hs] at bZ
    obtain ⟨rfl,rfl⟩:fm=WN/\m=m':=by simpa using bZ
    have:cap*T.size=(cap - 1)*T.size+T.size:=by
     rw [show cap=cap - 1+1 by omega,Nat.add_mul,Nat.one_mul];simp
    omega
   let f:Nat->List Value:=fun i=>(w.cells? 0 (a.add (i*T.size)) T.size).getD []
   have hf:∀ i,i < cap->w.cells? 0 (a.add (i*T.size)) T.size=some (f i)/\(f i).length=T.size/\∃ y,DataW.trod enc P w 0 (fun _=>true) true n e (f i)=some y:=by
    intro i hi
    obtain ⟨c,y,c1,c2⟩:=rd i hi
    have:f i=c:=by simp only [f,c1];rfl
    rw [this]
    exact ⟨c1,(World.cells?_some c1).2.1,y,c2⟩
   obtain ⟨fl,fg⟩:=Qmc (f:=f) (c:=T.size) len (fun i hi=>(hf i (by omega)).2.1)
   obtain ⟨ι1,G1,ys,iV,a1,a2,a3,a4,a5,a6⟩:=Qbp hT ((List.range len).map f) (fun c hc=>by
    obtain ⟨i,hi,rfl⟩:=List.mem_map.1 hc
    obtain ⟨_,_,y,hy⟩:=hf i (by have:=List.mem_range.1 hi;omega)
    exact ⟨n,y,hy⟩) ι G hR
   simp only [List.length_map,List.length_range] at a3
   obtain ⟨⟨l4,c4⟩,r4⟩:=a4.at
   have hle:=Zk T.size Bd
   have qS:(ι1.set G1.length ⟨a.block,a.off,m⟩) G1.length=⟨a.block,a.off,m⟩:=Io.aC _ _ _
   obtain ⟨p1,p2,p3,p4⟩:=Qmd a1 ⟨a.block,a.off,m⟩ (some ⟨iV,true,none⟩) (fun k hk=>by
    obtain rfl:_=k:=by simpa using hk
    refine ⟨rfl,by rw [qS];exact Qkc hs,fun _=>⟨fm,by rw [qS];exact hs⟩,fun es h=>by simp at h,by rw [qS];simp only;rw [l4,a3];omega,fun j hj=>?_,fun h=>by simp at h⟩
    simp only at hj ⊢
    rw [qS];simp only
    have J1:j < len*T.size:=by rw [l4,a3] at hj;exact hj
    have hd:j / T.size < len:=Nat.div_lt_of_lt_mul (by rw [Nat.mul_comm];exact J1)
    have hr:=Nat.mod_lt j bf
    have vj:j / T.size*T.size+j % T.size=j:=by rw [Nat.mul_comm];exact Nat.div_add_mod j T.size
    obtain ⟨c1,c2,_⟩:=hf (j / T.size) (by omega)
    have E0:=(World.cells?_some c1).2.2 (j % T.size) hr
    rw [EZ,vj] at E0
    have hg:=fg (j / T.size) (j % T.size) hd hr
    rw [vj] at hg
    rw [Z6 (by omega)] at E0
    rw [Z6 (by omega),Z6 (by omega)] at hg
    refine ⟨_,E0,?_,c4 _ (List.getElem_mem _)⟩
    have:=a5.2 j hj (by omega)
    rw [Option.some.inj hg] at this
    exact this.mono (fun z hz=>Nat.lt_succ_of_lt hz) (fun z hz=>Io.aS _ _ (Nat.ne_of_lt hz)))
   refine ⟨_,_,ys,[.slice (some ⟨G1.length,0,none⟩) len T.size],p1,a2.trans p2,?_,aZ.cons ?_ (aZ.nil _ _),⟨by omega,a6⟩⟩
   .unfold ax
    refine .inr (.inr ⟨G1.length,0,_,by rw [a3],trivial,p4,by simp only;rw [l4];omega,fun i hi=>?_⟩)
    rw [Zo]
    exact p2.rep (r4 i hi)
   .have h2:=ay.fj (ι:=ι1.set G1.length ⟨a.block,a.off,m⟩) (D:=aL (G1++[some (⟨iV,true,none⟩:bx)]).length) ⟨G1.length,0,none⟩ len T.size cap (by show G1.length < _;omega) Bd (by rw [qS];simp only;omega)
    have ha:(ι1.set G1.length ⟨a.block,a.off,m⟩).addr ⟨G1.length,0,none⟩=a:=by
     unfold Io.addr;rw [qS]
     have:=C9 0
     obtain ⟨ab,ao,aq⟩:=a
     simp only at sW;subst sW;rfl
    rw [ha] at h2
    exact h2
theorem Qi4 {g:TypeId->Option Ty} (hg:∀ t T,g t=some T->M4 enc P w T t/\P.cellsOf t=T.size):∀ (fs:List Field) (T:Ty) (off:Nat) (cs:List Value),ri g fs=some T ->
  (∀ j f,fs[j]? = some f->f.offset=off+((fs.take j).map fun f=>P.cellsOf f.type).sum)->(∀ f∈fs,∃ fuel x,DataW.trod enc P w 0 (fun _=>true) true fuel f.type ((cs.drop f.offset).take (P.cellsOf f.type))=some x)->∀ ι G,BM ι G w ->
  (∃ ι' G' y av,BM ι' G' w/\nu ι G ι' G'/\ax Any G' T y av/\aZ ι' (aL G'.length) av ((cs.drop off).take T.size)/\Wf T y)/\(fs.map fun f=>P.cellsOf f.type).sum=T.size
 | [],T,off,cs,h,_,_,_,_,_=>by simp [ri] at h
 | [f],T,off,cs,h,ho,hr,ι,G,hR=>by
  obtain ⟨h1,h2⟩:=hg f.type T h
  obtain ⟨fuel,x,hx⟩:=hr f (by simp)
  have:=ho 0 f rfl
  simp at this
  rw [this,h2] at hx
  exact ⟨h1 fuel _ x hx ι G hR,by simp [h2]⟩
 | f::f2::fs,T,off,cs,h,ho,hr,ι,G,hR=>by
  simp only [ri] at h
  replace h:=ob h;obtain ⟨a,ha,h⟩:=h
  replace h:=ob h;obtain ⟨b,hb,h⟩:=h
  simp at h;subst h
  obtain ⟨h1,h2⟩:=hg f.type a ha
  obtain ⟨fuel,x,hx⟩:=hr f (by simp)
  have e0:=ho 0 f rfl
  simp at e0
  rw [e0,h2] at hx
  obtain ⟨ι1,G1,y,av,a1,a2,a3,a4,a5⟩:=h1 fuel _ x hx ι G hR
  obtain ⟨⟨ι2,G2,z,bv,b1,b2,b3,b4,b5⟩,hs⟩:=Qi4 hg (f2::fs) b (off+a.size) cs hb (fun j f' hj=>by
   have:=ho (j+1) f' (by simpa using hj)
   simp only [List.take_succ_cons,List.map_cons,List.sum_cons] at this
   rw [this,h2];omega) (fun f' hf'=>hr f' (by simp at hf' ⊢;exact .inr hf')) ι1 G1 a1
  have hl:=ax.len a a3
  refine ⟨⟨ι2,G2,(y,z),av++bv,b1,a2.trans b2,?_,?_,a5,b5⟩,by simp only [List.map_cons,List.sum_cons] at hs ⊢;rw [hs,h2];rfl⟩
  .unfold ax
   rw [<- hl,List.take_left,List.drop_left]
   exact ⟨b2.rep a3,b3⟩
  .show aZ _ _ _ ((cs.drop off).take (a.size+b.size))
   rw [List.take_add,List.drop_drop]
   exact aZ.append (b2.Ii a4) b4
theorem M6 (hl:laidOutB P=true):∀ (n:Nat) (t:TypeId) (T:Ty),q_ P n t=some T->M4 enc P w T t/\P.cellsOf t=T.size
 | 0,t,T,h=>by simp [q_] at h
 | n+1,t,T,h=>by
  unfold q_ at h
  cases hv:isVar P t with
  | false=>rw [hv] at h;simp at h
  | true =>
   rw [hv] at h
   simp only at h
   have hf:=Qnt hl hv
   unfold rowFine at hf
   rw [hv] at hf
   simp only [Zl,Bool.false_or] at hf
   split at h
   .rename_i hu
    simp at h;subst h
    rw [hu] at hf
    refine ⟨fun fuel cs x hx ι G hR=>?_,by simpa [Ty.size] using hf⟩
    obtain ⟨b,rfl,_⟩:=DataW.trod_bool hu hx
    exact ⟨ι,G,b,[.bool b],hR,.refl ι G,by unfold ax;rfl,aZ.cons (.bool b) (aZ.nil _ _),trivial⟩
   .rename_i k hu
    simp at h;subst h
    rw [hu] at hf
    refine ⟨fun fuel cs x hx ι G hR=>?_,by simpa [Ty.size] using hf⟩
    obtain ⟨m,rfl,_,hw⟩:=DataW.trod_int hu hx
    exact ⟨ι,G,m,[.int k m],hR,.refl ι G,by unfold ax;rfl,aZ.cons (.int k m) (aZ.nil _ _),(Go.Lit.wf_int_iff k m).1 hw⟩
   .rename_i hu
    simp at h;subst h
    rw [hu] at hf
    refine ⟨fun fuel cs x hx ι G hR=>?_,by simpa [Ty.size] using hf⟩
    obtain ⟨s,rfl,_,hw⟩:=DataW.trod_string hu hx
    exact ⟨ι,G,s,[.string s],hR,.refl ι G,by unfold ax;rfl,aZ.cons (.str s) (aZ.nil _ _),hw⟩
   .rename_i e hu
    replace h:=ob h;obtain ⟨u,iN,h⟩:=h
    simp at h;subst h
    rw [hu] at hf
    obtain ⟨h1,h2⟩:=M6 hl n e u iN
    simp only [Z8,beq_iff_eq] at hf
    exact ⟨Qi3 hu h1 h2,by rw [hf.2];rfl⟩
   .rename_i fs hu
    rw [hu] at hf
    simp only [Z8,beq_iff_eq,List.all_eq_true] at hf
    obtain ⟨⟨f1,f2⟩,f3⟩:=hf
    have hT:ri (q_ P n) fs.toList=some T:=by
     split at h
     .rename_i f h2 r e;rw [e];exact h
     .simp at h
    have off:∀ j f,fs.toList[j]? = some f->f.offset=0+((fs.toList.take j).map fun f=>P.cellsOf f.type).sum:=by
     intro j f hj
     have:=f3 j (List.mem_range.2 (Z0 hj).1)
     rw [hj] at this
     simpa using this
    have M7:(fs.toList.map fun f=>P.cellsOf f.type).sum=T.size:=by
     clear h f1 f2 f3
     have gen:∀ (l:List Field) (T:Ty),ri (q_ P n) l=some T->(l.map fun f=>P.cellsOf f.type).sum=T.size:=by
      intro l
      induction l with
      | nil=>intro T h;simp [ri] at h
      | cons f l ih =>
       intro T h
       cases l with
       | nil=>simp [(M6 hl n f.type T h).2]
       | cons f2 l =>
        simp only [ri] at h
        replace h:=ob h;obtain ⟨a,ha,h⟩:=h
        replace h:=ob h;obtain ⟨b,hb,h⟩:=h
        simp at h;subst h
        have:=ih b hb
        simp only [List.map_cons,List.sum_cons] at this ⊢
        rw [this,(M6 hl n f.type a ha).2];rfl
     exact gen _ _ hT
    refine ⟨fun fuel cs x hx ι G hR=>?_,by rw [f2,M7]⟩
    obtain ⟨xs,m,rfl,_,oE,gr,hx⟩:=DataW.trod_struct hu hx
    have:=(Qi4 (enc:=enc) (P:=P) (w:=w) (fun t T h=>M6 hl n t T h) fs.toList T 0 cs hT off (fun f hf=>by
     obtain ⟨i,hi,rfl⟩:=List.mem_iff_getElem.1 hf
     have:=hx i fs.toList[i] (by rw [<- Array.getElem?_toList];exact Z6 hi)
     rw [Z6 (by rw [gr];simpa using hi)] at this
     exact ⟨m,_,this⟩) ι G hR).1
    rw [List.drop_zero,Zs (by rw [oE,f2,M7];exact Zd _)] at this
    exact this
   .simp at h
theorem WO:∀ (n:Nat) (t:TypeId) (T:Ty),q_ P n t=some T->T.dG=false
 | 0,t,T,h=>by simp [q_] at h
 | n+1,t,T,h=>by
  unfold q_ at h
  split at h
  .simp at h
  .split at h
   .simp at h;subst h;rfl
   .simp at h;subst h;rfl
   .simp at h;subst h;rfl
   .replace h:=ob h;obtain ⟨u,_,h⟩:=h
    simp at h;subst h;rfl
   .rename_i fs _
    have gen:∀ (l:List Field) (T:Ty),ri (q_ P n) l=some T->T.dG=false:=by
     intro l
     induction l with
     | nil=>intro T h;simp [ri] at h
     | cons f l ih =>
      intro T h
      cases l with
      | nil=>exact WO n _ _ h
      | cons f2 l =>
       simp only [ri] at h
       replace h:=ob h;obtain ⟨a,ha,h⟩:=h
       replace h:=ob h;obtain ⟨b,hb,h⟩:=h
       simp at h;subst h
       show (a.dG || b.dG)=false
       rw [WO n _ _ ha,ih b hb];rfl
    split at h
    .exact gen _ _ h
    .simp at h
   .simp at h
theorem WQ {n:Nat} {t:TypeId} {T:Ty} (h:q_ P n t=some T) {r:Reach} {base:Nat} {v:Value} (hv:Value.okWide P w r base t v) {ι:Io} {D:Nat->Prop} {av:List Value} (ha:aZ ι D av v.cells.toList) (hl:av.length=T.size) :
  ∃ wv,Ij T av wv/\ay ι D wv v:=by
 cases n with
 | zero=>simp [q_] at h
 | succ n =>
  have one:T.size=1->(∀ a b,T≠.pair a b)->v.cells.toList=[v]->∃ wv,Ij T av wv/\ay ι D wv v:=by
   intro h1 h2 h3
   rw [h1] at hl
   obtain ⟨x,rfl⟩:=List.length_eq_one_iff.1 hl
   rw [h3] at ha
   refine ⟨x,?_,ha.head⟩
   cases T with
   | pair a b=>exact absurd rfl (h2 a b)
   | int k=>rfl
   | bool=>rfl
   | str=>rfl
   | sl u=>rfl
   | os u=>rfl
  unfold q_ at h
  split at h
  .simp at h
  .split at h
   .rename_i hu;simp at h;subst h
    obtain ⟨b,rfl⟩:=okWide_bool hu hv
    exact one rfl (by simp) rfl
   .rename_i k hu;simp at h;subst h
    obtain ⟨b,rfl⟩:=okWide_int hu hv
    exact one rfl (by simp) rfl
   .rename_i hu;simp at h;subst h
    obtain ⟨b,rfl⟩:=okWide_string hu hv
    exact one rfl (by simp) rfl
   .rename_i e hu
    replace h:=ob h;obtain ⟨u,_,h⟩:=h
    simp at h;subst h
    obtain ⟨a,b,c,rfl⟩:=okWide_slice hu hv
    exact one rfl (by simp) rfl
   .rename_i fs hu
    obtain ⟨cs,rfl,_⟩:=okWide_struct hu hv
    have:∃ a b,T=.pair a b:=by
     split at h
     .rename_i f f2 r _
      simp only [ri] at h
      replace h:=ob h;obtain ⟨a,ha,h⟩:=h
      replace h:=ob h;obtain ⟨b,hb,h⟩:=h
      simp at h;exact ⟨a,b,h.symm⟩
     .simp at h
    obtain ⟨a,b,rfl⟩:=this
    exact ⟨.agg ⟨av⟩,rfl,aZ.b_ (xs:=⟨av⟩) (ys:=cs) ha⟩
   .simp at h
def tysR (P:Program):List TypeId->Option (List Ty)
 | []=>some []
 | t::r=>Q1 (q_ P 8 t) fun a=>Q1 (tysR P r) fun l=>some (a::l)
theorem Qi6 (hl:laidOutB P=true):∀ (ts:List TypeId) (Ts:List Ty) (vs:List Value) (ds:List (DataW H)) (ps:List MemPlace),tysR P ts=some Ts->DataW.TrodAll enc P w 0 (fun _=>true) true ts vs ds ps ->
  ∀ {base:Nat},(∀ (j:Nat) t v,ts[j]? = some t->vs[j]? = some v->Value.okWide P w .any base t v)->∀ ι G,BM ι G w ->
  ∃ ι' G' iU ws,BM ι' G' w/\nu ι G ι' G'/\aZ ι' (aL G'.length) ws vs/\(∀ ai,di Any G' ai (iU.map fun _=>Kd.fz) iU ws (iU.map fun _=>[]))/\iU.map (·.1)=Ts/\(∀ v∈iU,Wf v.1 v.2)
 | [],Ts,vs,ds,ps,h,hA,base,_,ι,G,hR=>by
  simp [tysR] at h;subst h
  cases vs with
  | nil=>exact ⟨ι,G,[],[],hR,.refl ι G,aZ.nil _ _,fun _=>trivial,rfl,by simp⟩
  | cons v vs=>cases ds<;>exact absurd hA (by simp [DataW.TrodAll])
 | t::ts,Ts,vs,ds,ps,h,hA,base,hv,ι,G,hR=>by
  simp only [tysR] at h
  replace h:=ob h;obtain ⟨T,hT,h⟩:=h
  replace h:=ob h;obtain ⟨Ts',hTs,h⟩:=h
  simp at h;subst h
  cases vs with
  | nil=>cases ds<;>exact absurd hA (by simp [DataW.TrodAll])
  | cons v vs=>cases ds with
   | nil=>exact absurd hA (by simp [DataW.TrodAll])
   | cons d ds =>
    obtain ⟨p,q,h1,h2,_⟩:=hA
    obtain ⟨fuel,hx⟩:=h1
    obtain ⟨t1,t2⟩:=M6 (enc:=enc) (w:=w) hl 8 t T hT
    obtain ⟨ι1,G1,y,av,a1,a2,a3,a4,a5⟩:=t1 fuel _ _ hx ι G hR
    obtain ⟨ι2,G2,iU,ws,b1,b2,b3,b4,b5,b6⟩:=Qi6 hl ts Ts' vs ds q hTs h2 (fun j t v hj gV=>hv (j+1) t v (by simpa using hj) (by simpa using gV)) ι1 G1 a1
    obtain ⟨wv,w1,w2⟩:=WQ hT (hv 0 t v rfl rfl) (b2.Ii a4) (ax.len T a3)
    refine ⟨ι2,G2,⟨T,y⟩::iU,wv::ws,b1,a2.trans b2,aZ.cons w2 b3,fun ai=>⟨⟨av,w1,dA.of T (WO 8 t T hT) (b2.rep a3)⟩,b4 ai⟩,by simp [b5],?_⟩
    intro z hz
    rcases Z2 hz with rfl | hz
    .exact a5
    .exact b6 z hz
end
theorem Qvl:∀ (vs:List TV),∃ a:jv (vs.map (·.1)),ff (vs.map (·.1)) a=vs
 | []=>⟨(),rfl⟩
 | [v]=>⟨v.2,rfl⟩
 | v::u::r=>by
  obtain ⟨a,ha⟩:=Qvl (u::r)
  exact ⟨(v.2,a),by show (⟨v.1,v.2⟩:TV)::ff _ a=v::u::r;exact congrArg (List.cons v) ha⟩
def Qvm (P:Program) (A:cL) (d:Nat) (f:FuncId) (Ts:List Ty):Prop :=
 A.inline f=false/\(A.sig f).params=Ts.map (fun t=>(PM.ro,t))/\(A.sig f).results=[(false,.bool)] /\
 ∀ a:jv (A.sig f).eG,(∀ v∈ff (A.sig f).eG a,Wf v.1 v.2)->∃ r,(aH P A d).call f a=some r/\ff (A.sig f).cY r=[⟨.bool,true⟩]
theorem di.AL {G:af} {ai:Nat} {N:Nat->Prop} (hN:∀ z,N z):∀ {iU:List TV} {ws:List Value},di Any G ai (iU.map fun _=>Kd.fz) iU ws (iU.map fun _=>[])->di N G ai (iU.map fun _=>Kd.fz) iU ws (iU.map fun _=>[])
 | [],[],h=>h
 | [],_::_,h=>h
 | _::_,[],h=>h
 | t::iU,v::ws,h=>⟨h.1.frame (fun z _ _=>⟨hN z,rfl⟩) (by simp),di.AL hN h.2⟩
theorem pv_any {H:Type} {enc:TypeId×Value->H} {P:Program} {A:cL} {d:Nat} {f:FuncId} {Ts:List Ty} (hm:P.follows .mixedOrders=true) (hl:laidOutB P=true) (hE:mG P A) (hr:Qvm P A d f Ts)
  {ts:List TypeId} {vs:List Value} {ds:List (DataW H)} {ps:List MemPlace} {w:World} (ht:tysR P ts=some Ts) (hA:DataW.TrodAll enc P w 0 (fun _=>true) true ts vs ds ps)
  {base:Nat} (hv:∀ (j:Nat) t v,ts[j]? = some t->vs[j]? = some v->Value.okWide P w .any base t v) (hg:GW w) :
  Calls P f vs.toArray w fun e w'=>e=.returned (.bool true)/\Below w.heap.size w w':=by
 have hX:P6 P A.ev:=hE.x
 obtain ⟨hi,hp,Ik,hr⟩:=hr
 obtain ⟨ι,G,iU,ws,b1,_,b3,b4,b5,b6⟩:=Qi6 hl ts Ts vs ds ps ht hA hv (fun _=>⟨0,0,0⟩) [] ⟨fun b k h=>by simp [ah] at h,fun b k h=>by simp [ah] at h⟩
 have hpt:(A.sig f).eG=iU.map (·.1):=by
  unfold oM.eG;rw [hp,b5,List.map_map];exact List.map_id' _
 obtain ⟨a,ha⟩:∃ a:jv (A.sig f).eG,ff (A.sig f).eG a=iU:=by rw [hpt];exact Qvl iU
 obtain ⟨r,h1,h3⟩:=hr a (by rw [ha];exact b6)
 have cH:((iU.map fun _=>([]:List Nat))).flatten=[]:=by simp
 have M8:((A.sig f).params.map fun p=>p.1.kd)=iU.map fun _=>Kd.fz:=by
  rw [hp,<- b5];simp [PM.kd]
 have hF:=(Qvk P A hE.v d).call 0 f hi a r h1 G (fun _=>False) ws (iU.map fun _=>[]) (fun _ h=>h.elim) (Nat.zero_le _) (by rw [cH];simp) (by rw [cH];simp) (by
  rw [ha,M8]
  exact di.AL (fun z=>⟨by rw [cH];simp,fun h=>h⟩) (b4 0))
 obtain ⟨v,H',qZ,bq,aO,c1,c2,_,_,_,_,_,c8,_⟩:=hF
 rw [Ik,h3] at c8
 obtain ⟨wv,i,rfl,rfl,cs,e1,e2⟩:=di.one (k:=.fz) c8
 replace e2:=e2.2
 unfold ax at e2
 have Mc:cs=[wv]:=e1
 rw [Mc] at e2
 simp at e2;subst e2
 rw [c2] at c1
 have aT:run P A.ev d f ws 0 G=some (.bool true,H'):=c1
 have hS:=Qqv hm hE.n hX d f _ _ _ _ _ aT f (.inl rfl)
 have hR:Ev.Rel ι (aL G.length) G w:=⟨b1.rel,fun b b' k k' hb gU _ h=>by rw [b1.ro b k hb,b1.ro b' k' gU] at h;simp at h,fun b k hb hr=>(by rw [b1.ro b k hb] at hr;simp at hr),hg⟩
 refine (hS.run ι w vs.toArray hR (by simpa using b3)).mono ?_
 rintro e w' ⟨ι',c,rfl,_,hv,rJ⟩
 cases hv
 exact ⟨rfl,rJ.os,rJ.tape,rJ.output,rJ.size,fun k hk=>rJ.frame k hk fun b aJ hb hn=>by rw [b1.ro b aJ hb] at hn;simp at hn⟩
def strData {H:Type} (bs:List (List UInt8)):DataW H:=.agg (bs.map fun b=>.lit (.string b))
theorem Qfn {H:Type} {enc:TypeId×Value->H} {P:Program} {w:World} {base:Nat} {sp:Nat->Bool} {held:Bool} {fuel:Nat} {t e:TypeId} {n:Nat} {cs:List Value} {bs:List (List UInt8)} {p:List MemPlace}
  (ht:P.underlying t=some (.array n e)) (he:P.underlying e=some .string) (C_:P.cellsOf e=1) (WR:P.cellsOf t=n)
  (h:DataW.trod enc P w base sp held fuel t cs=some (strData bs,p)):cs=bs.map fun b=>Value.string ⟨b.toArray⟩:=by
 cases fuel with
 | zero=>simp [DataW.trod] at h
 | succ fuel =>
  simp only [DataW.trod,ht,C_,WR,Nat.mul_one] at h
  split at h
  .rename_i hl
   obtain ⟨xs,hm,hx⟩:=Option.map_eq_some_iff.1 h
   have PR:xs.map (·.1)=bs.map fun b=>(DataW.lit (.string b):DataW H):=by
    have:=congrArg Prod.fst hx
    simpa [strData] using this
   have hxl:xs.length=n:=by simpa using Go.Lib.mapM_length hm
   have OX:bs.length=n:=by
    have:=congrArg List.length PR
    simp at this
    omega
   apply List.ext_getElem?
   intro i
   by_cases hi:i < n
   .obtain ⟨b,hb,hf⟩:=Go.Lib.mapM_at hm i i (by simp [hi])
    obtain ⟨s,hc,rfl,_⟩:=DataW.trod_string he hf
    have h1:cs[i]? = some (.string s):=by
     have:=congrArg (·[0]?) hc
     simpa [List.getElem?_take,Zp] using this
    have h2:(xs.map (·.1))[i]? = some (DataW.lit (.string s.data.toList):DataW H):=by simp [hb]
    rw [PR] at h2
    simp only [List.getElem?_map,Option.map_eq_some_iff,DataW.lit.injEq,Lit.string.injEq] at h2
    obtain ⟨b',aX,rfl⟩:=h2
    simp [h1,aX]
   .rw [List.getElem?_eq_none (by omega),List.getElem?_eq_none (by simp;omega)]
  .cases h
theorem strs_block {P:Program} {W:World} {name:String} {bs:List (List UInt8)} {rest:List (String×DataW Unit)} {g:Nat} {t e:TypeId} {n:Nat}
  (hg:P.globalNamed name=some g) (WS:(P.globals[g]?).map (·.type)=some t) (ht:P.underlying t=some (.array n e)) (he:P.underlying e=some .string) (C_:P.cellsOf e=1) (WR:P.cellsOf t=n)
  (h:laidMet P ((name,strData bs)::rest) W):g < W.heap.size/\∃ t f,W.heap[g]? = some (.cells (bs.map fun b=>Value.string ⟨b.toArray⟩).toArray t f):=by
 obtain ⟨ps,⟨g',t',cs,fuel,p,q,hg',AM,ot,hd,_,_⟩,_⟩:=h
 obtain rfl:=Option.some.inj (hg.symm.trans hg')
 obtain rfl:=Option.some.inj (WS.symm.trans AM)
 have hc:=Qfn ht he C_ WR hd
 unfold World.var? at ot
 rw [hg] at ot
 simp only [Option.bind_some] at ot
 split at ot
 .rename_i tv t f hb
  injection ot with ot
  subst ot
  refine ⟨?_,t,f,by rw [hb,<- hc]⟩
  rcases Nat.lt_or_ge g W.heap.size with h | h
  .exact h
  .rw [Array.getElem?_eq_none h] at hb;simp at hb
 .simp at ot
def Ok {α:Type} (e:Option α) (Q:α->Prop):Prop:=∃ a,e=some a/\Q a
theorem Ok.some {α:Type} {a:α} {Q:α->Prop} (h:Q a):Ok (some a) Q:=⟨a,rfl,h⟩
theorem Ok.bind {α β:Type} {e:Option α} {K:α->Option β} {P:α->Prop} {Q:β->Prop} (h:Ok e P) (k:∀ a,P a->Ok (K a) Q):Ok (Q1 e K) Q:=by
 obtain ⟨a,rfl,ha⟩:=h;exact k a ha
theorem Ok.aa {α:Type} {b:Bool} {x y:Option α} {Q:α->Prop} (h1:b=true->Ok x Q) (h2:b=false->Ok y Q):Ok (aa b x y) Q:=by
 cases b with
 | true=>exact h1 rfl
 | false=>exact h2 rfl
theorem Ok.mono {α:Type} {e:Option α} {P Q:α->Prop} (h:Ok e P) (k:∀ a,P a->Q a):Ok e Q:=by
 obtain ⟨a,e,ha⟩:=h;exact ⟨a,e,k a ha⟩
theorem Ok.eq {α:Type} {e:Option α} {a:α} (h:e=Option.some a) {Q:α->Prop} (hq:Q a):Ok e Q:=⟨a,h,hq⟩
theorem Ok.val {α:Type} {e:Option α} {a:α} (h:Ok e fun b=>b=a):e=Option.some a:=by obtain ⟨b,h1,rfl⟩:=h;exact h1
theorem wr {n:Int} (h1:-9223372036854775808<=n) (h2:n<=9223372036854775807):IntKind.i64.wrap n=n:=IntWalk.i64_in n ⟨h1,h2⟩
def M9 (m:Nat) (c:List Int×Int×Int):Prop:=M1 c.1/\0<=c.2.1/\c.2.1<=m
theorem M9.mono {m n:Nat} {c:List Int×Int×Int} (h:M9 m c) (hn:m<=n):M9 n c:=⟨h.1,h.2.1,by have:=h.2.2;omega⟩
theorem M9.new {x:List Int} (h:M1 x):M9 0 (x,0,0):=⟨h,by simp,by simp⟩
theorem Q4 {α:Type} {x y:Option α}:aa true x y=x:=rfl
theorem Q5 {α:Type} {x y:Option α}:aa false x y=y:=rfl
theorem vf {α:Type} {b:Bool} {x y:α}:aa b (some x) (some y)=some (if b then x else y):=by cases b<;>rfl
theorem Qti {α:Type} {b:Bool} {x:Option α}:aa b x x=x:=by cases b<;>rfl
theorem Q9 {α β:Type} (a:α) (f:α->Option β):Q1 (some a) f=f a:=(rfl)
theorem mH {σ β:Type} {F:(σ->Option β)->σ->Option β} {Q:β->Prop} (I:Nat->σ->Prop)
  (step:∀ n s ag,I n s->(∀ m s',m < n->I m s'->Ok (ag s') Q)->Ok (F ag s) Q):∀ (fuel n:Nat) (s:σ),n < fuel->I n s->Ok (Q8 F fuel s) Q
 | 0,n,s,h,_=>by omega
 | fuel+1,n,s,h,hi=>step n s _ hi fun m s' hm eW=>mH I step fuel m s' (by omega) eW
def eg {α τ β:Type} (step:α->Nat->τ->(τ->Option β)->Option β) (fin:τ->Option β):List α->Nat->τ->Option β
 | [],_,t=>fin t
 | x::r,i,t=>step x i t fun t'=>eg step fin r (i+1) t'
theorem Qdo {σ τ α β:Type} (mk:τ->Int->σ) {F:(σ->Option β)->σ->Option β} (l:List α) (step:α->Nat->τ->(τ->Option β)->Option β) (fin:τ->Option β)
  (h1:∀ ag t (i:Nat) x,l[i]? = some x->F ag (mk t i)=step x i t fun t'=>ag (mk t' ((i+1:Nat):Int)))
  (h2:∀ ag t,F ag (mk t (l.length:Int))=fin t):∀ (fuel i:Nat) (t:τ),l.length < fuel+i->i<=l.length->Q8 F fuel (mk t i)=eg step fin (l.drop i) i t
 | 0,i,t,h,hi=>by omega
 | fuel+1,i,t,h,hi=>by
  simp only [Q8]
  rcases Nat.lt_or_ge i l.length with au | tA
  .rw [h1 _ t i l[i] (Z6 au),List.drop_eq_getElem_cons au]
   simp only [eg]
   congr 1
   funext t'
   exact Qdo mk l step fin h1 h2 fuel (i+1) t' (by omega) (by omega)
  .have:i=l.length:=by omega
   subst this
   rw [h2,List.drop_length];rfl
theorem Qd {σ τ α β:Type} (mk:τ->Int->σ) {F:(σ->Option β)->σ->Option β} (l:List α) (step:α->Nat->τ->(τ->Option β)->Option β) (fin:τ->Option β)
  (h1:∀ ag t (i:Nat) x,l[i]? = some x->F ag (mk t i)=step x i t fun t'=>ag (mk t' ((i+1:Nat):Int)))
  (h2:∀ ag t,F ag (mk t (l.length:Int))=fin t) {fuel:Nat} (hl:l.length < fuel) (t:τ):Q8 F fuel (mk t 0)=eg step fin l 0 t:=by
 have:=Qdo mk l step fin h1 h2 fuel 0 t (by omega) (by omega)
 simpa using this
theorem CL {α τ β:Type} {p:α->Bool} {no:Option β} {fin:τ->Option β}:∀ (l:List α) (i:Nat) (t:τ),
  eg (fun x _ t k=>aa (p x) (k t) no) fin l i t=aa (l.all p) (fin t) no
 | [],i,t=>rfl
 | x::r,i,t=>by
  simp only [eg,List.all_cons]
  cases p x with
  | true=>simp only [Q4,Zg];exact CL r (i+1) t
  | false=>rfl
def cF {α τ:Type} (f:α->Nat->τ->τ):List α->Nat->τ->τ
 | [],_,t=>t
 | x::r,i,t=>cF f r (i+1) (f x i t)
theorem xe {α τ β:Type} {f:α->Nat->τ->τ} {fin:τ->Option β}:∀ (l:List α) (i:Nat) (t:τ),
  eg (fun x i t k=>k (f x i t)) fin l i t=fin (cF f l i t)
 | [],i,t=>rfl
 | x::r,i,t=>by simp only [eg,cF];exact xe r (i+1) (f x i t)
def fR {α γ:Type} (c:α->Nat->Bool) (e:α->Nat->γ):List α->Nat->List γ
 | [],_=>[]
 | x::r,i=>if c x i then e x i::fR c e r (i+1) else fR c e r (i+1)
theorem Vh {α γ:Type} {c:α->Nat->Bool} {e:α->Nat->γ}:∀ (l:List α) (i:Nat),(fR c e l i).length<=l.length
 | [],i=>by simp [fR]
 | x::r,i=>by have:=Vh (c:=c) (e:=e) r (i+1);unfold fR;split<;>simp<;>omega
theorem Vi {α γ:Type} {c:α->Nat->Bool} {e:α->Nat->γ} {y:γ}:∀ (l:List α) (i:Nat),y∈fR c e l i->∃ (j:Nat) (x:α),l[j]? = some x/\c x (i+j)=true/\y=e x (i+j)
 | [],i,h=>by simp [fR] at h
 | x::r,i,h=>by
  have step:y∈fR c e r (i+1)->∃ (j:Nat) (z:α),(x::r)[j]? = some z/\c z (i+j)=true/\y=e z (i+j):=by
   intro h
   obtain ⟨j,z,h1,h2,h3⟩:=Vi r (i+1) h
   exact ⟨j+1,z,by simpa using h1,by rw [<- h2];congr 1;omega,by rw [h3];congr 1;omega⟩
  unfold fR at h
  split at h
  .rename_i hc
   rcases Z2 h with rfl | h
   .exact ⟨0,x,rfl,hc,rfl⟩
   .exact step h
  .exact step h
theorem Ew {α γ β:Type} {c:α->Nat->Bool} {e:α->Nat->γ} {fin:List γ->Option β} {w:Nat}:∀ (l:List α) (i:Nat) (t:List γ),(t.length+l.length)*w<=100000000 ->
  eg (fun x i t k=>aa (c x i) (aa (Nat.ble ((t.length+[e x i].length)*w) Q7) (k (t++[e x i])) none) (k t)) fin l i t=fin (t++fR c e l i)
 | [],i,t,_=>by simp [eg,fR]
 | x::r,i,t,h=>by
  simp only [eg,fR]
  cases hc:c x i with
  | false=>simp only [Q5,Bool.false_eq_true,if_false];exact Ew r (i+1) t (Nat.le_trans (Zk w (by simp)) h)
  | true =>
   have hr:Nat.ble ((t.length+[e x i].length)*w) Q7=true:=by
    rw [Nat.ble_eq]
    have:(t.length+[e x i].length)*w<=(t.length+(x::r).length)*w:=Zk w (by simp)
    unfold Q7;omega
   simp only [Q4,hr,if_true]
   have hw:((t++[e x i]).length+r.length)*w<=100000000:=by
    refine Nat.le_trans (Zk w ?_) h
    simp;omega
   rw [Ew r (i+1) (t++[e x i]) hw]
   simp
theorem Q3 (i:Nat):((i:Int)).toNat=i:=Int.toNat_natCast i
theorem nn (i:Nat):decide (0<=(i:Int))=true:=by simp
theorem aN {i:Nat} (h:i < 9223372036854775807):IntKind.i64.wrap ((i:Int)+1)=((i+1:Nat):Int):=by
 rw [wr (by omega) (by omega)];omega
theorem bX {α:Type} {l:List α} {i:Nat} {x:α} (h:l[i]? = some x):decide ((i:Int) < ((l.length:Nat):Int))=true:=by
 have:=(Z0 h).1
 simp;omega
theorem tG {α:Type} {l:List α} {i:Nat} {x:α} (h:l[i]? = some x):Nat.blt i l.length=true:=by
 have:=(Z0 h).1
 simp [Nat.blt];omega
theorem bB (n:Nat):decide ((n:Int) < (n:Int))=false:=by simp
theorem room {n m w:Nat} (h:(n+m)*w<=100000000):Nat.ble ((n+m)*w) Q7=true:=by
 rw [Nat.ble_eq];unfold Q7;omega
theorem Qk {a b:Nat} (h:a < b):Nat.blt a b=true:=by simp [Nat.blt];omega
theorem WT (w:World) (os:Array Obj) {k:Nat} (h:k < w.heap.size):(Go.Sort.grow w os).heap[k]? = w.heap[k]?:=by
 show (w.heap++os)[k]? = _
 rw [Array.getElem?_append_left h]
theorem Rel.grow {ι:Io} {D:Nat->Prop} {H:af} {w:World} (h:Rel ι D H w) (os:Array Obj):Rel ι D H (Go.Sort.grow w os) :=
 ⟨fun b k hk=>(h.aJ b k hk).bw (WT w os (h.lt hk)) rfl (fun _ _ _ x=>x),h.inj,h.iy,h.gw.cv (by show _<=(w.heap++os).size;simp) (fun k hk=>WT w os (by have:=h.gw.1;omega))⟩
theorem Fr.grow (ι:Io) (H:af) (w:World) (os:Array Obj):Fr ι H w ι H (Go.Sort.grow w os) :=
 ⟨Zd _,fun _ _=>rfl,rfl,rfl,rfl,by show _<=(w.heap++os).size;simp,fun k hk _=>WT w os hk,fun b aJ h hr=>.inr ⟨b,aJ,h,hr,rfl⟩,fun _ _ h _=>h⟩
theorem di.cons_inv {N:Nat->Prop} {H:af} {ai:Nat} {k:Kd} {ks:List Kd} {v:TV} {vs:List TV} {ws:List Value} {is:List (List Nat)} (h:di N H ai (k::ks) (v::vs) ws is):∃ w P9 i P_,ws=w::P9/\is=i::P_/\HR N H ai k v w i/\di N H ai ks vs P9 P_:=by
 cases ws with
 | nil=>cases is<;>exact absurd h id
 | cons w ws=>cases is with
  | nil=>exact absurd h id
  | cons i is=>exact ⟨w,ws,i,is,rfl,rfl,h.1,h.2⟩
theorem di.sY {N:Nat->Prop} {H:af} {ai:Nat} {ws:List Value} {is:List (List Nat)} (h:di N H ai [] [] ws is):ws=[]/\is=[]:=by
 cases ws with
 | nil=>cases is with
  | nil=>exact ⟨rfl,rfl⟩
  | cons _ _=>exact absurd h id
 | cons _ _=>cases is<;>exact absurd h id
def Cv (n:Int):Option ByteArray:=aa (decide (-9223372036854775808<=n)&&decide (n<=9223372036854775807)) (some ⟨(Go.Lib.itoa n).toArray⟩) none
def Hi:List Value->Nat->af->Option (Value×af)
 | [.int .i64 n],_,H=>Q1 (Cv n) fun s=>some (.string s,H)
 | _,_,_=>none
def Qqj:oM:=⟨[(.ro,.int .i64)],[(false,.str)]⟩
theorem Qxc (ai:Nat):C5 Qqj (fun n:Int=>Cv n) Hi ai:=by
 rintro (n:Int) r h H fC ws an Ic AJ hnd Ie hh
 obtain ⟨w0,i0,rfl,rfl,h0⟩:∃ w0 i0,ws=[w0]/\an=[i0]/\HR (fun z=>z∉an.flatten/\¬ fC z) H ai .fz ⟨.int .i64,n⟩ w0 i0:=by
  obtain ⟨w0,P9,i0,P_,rfl,rfl,h0,hh⟩:=di.cons_inv hh
  obtain ⟨rfl,rfl⟩:=di.sY hh
  exact ⟨w0,i0,rfl,rfl,h0⟩
 obtain ⟨WU,e0,o0,q0⟩:=h0
 obtain rfl:WU=[w0]:=e0
 unfold ax at q0
 injection q0 with q0
 have o0:i0=[]:=o0
 subst q0 o0
 replace h:Cv n=some r:=h
 refine ⟨.string r,H,[.string r],[[]],[],by simp only [Hi,h,Q1],rfl,Zd _,fun _ _ _=>rfl,?_,by simp,by simp,⟨⟨[.string r],rfl,rfl,by unfold ax;rfl⟩,trivial⟩,trivial⟩
 simp [Qqj,M_]
def Qme (P:Program) (F:FuncId):Prop :=
 ∀ (n:Int) (w:World),-9223372036854775808<=n->n<=9223372036854775807->GW w->Calls P F #[.int .i64 n] w fun e w'=>e=.returned (.string ⟨(Go.Lib.itoa n).toArray⟩)/\∃ k os,w'=Go.Sort.grow (w.drewN k) os
theorem Qqk {P:Program} {F:FuncId} (rm:∀ (bT:Array Value) (w:World),(callFunc F bT).run P w=.ok (.enter F bT) w) (walk:Qme P F) :
  ∀ args ai H v H',Hi args ai H=some (v,H')->iq P F args ai H v H':=by
 intro args ai H v H' h
 unfold Hi at h
 split at h
 .rename_i n
  replace h:=Q2 h;obtain ⟨s,h1,h⟩:=h
  simp at h;obtain ⟨rfl,rfl⟩:=h
  unfold Cv aa at h1
  split at h1
  .rename_i hc
   simp only [Z8,Zj] at hc
   injection h1 with h1;subst h1
   refine ⟨fun _ _=>.str _,fun _ _=>Ab.refl ai H,rm,fun ι w bT hR hargs=>?_⟩
   obtain ⟨xs,rfl⟩:∃ xs:List Value,bT=xs.toArray:=⟨bT.toList,by simp⟩
   obtain ⟨al,ar⟩:=hargs
   simp only [List.toList_toArray] at al ar
   match xs,al,ar with
   | [y0],_,ar =>
    have r0:=ar 0 (by simp) (by simp)
    simp only [List.getElem_cons_zero] at r0
    have e0:=r0.aM
    subst e0
    refine (walk n w hc.1 hc.2 hR.gw).mono ?_
    rintro e w' ⟨rfl,k,os,rfl⟩
    have hRd:Rel ι (aL H.length) H (w.drewN k):=hR.bz (w':=w.drewN k) rfl
    exact ⟨ι,_,rfl,Rel.grow hRd os,.str _,((Fr.refl ι H w).bz (w'':=w.drewN k) rfl rfl rfl rfl).trans (Fr.grow ι _ _ os)⟩
  .simp at h1
 .simp at h
def Cw (s:ByteArray) (n:Int):Option ByteArray:=aa (decide (0<=n)&&(decide (n<=1000000)&&Nat.ble s.size 1000000)) (some ⟨(Go.Lib.repeatL s.data.toList n.toNat).toArray⟩) none
def Hj:List Value->Nat->af->Option (Value×af)
 | [.string s,.int .i64 n],_,H=>Q1 (Cw s n) fun t=>some (.string t,H)
 | _,_,_=>none
def Qvn:oM:=⟨[(.ro,.str),(.ro,.int .i64)],[(false,.str)]⟩
theorem Vg (ai:Nat):C5 Qvn (fun a:ByteArray×Int=>Cw a.1 a.2) Hj ai:=by
 rintro (⟨s,t⟩:ByteArray×Int) r h H fC ws an Ic AJ hnd Ie hh
 obtain ⟨w0,i0,w1,i1,rfl,rfl,h0,h1⟩:∃ w0 i0 w1 i1,ws=[w0,w1]/\an=[i0,i1]/\HR (fun z=>z∉an.flatten/\¬ fC z) H ai .fz ⟨.str,s⟩ w0 i0/\HR (fun z=>z∉an.flatten/\¬ fC z) H ai .fz ⟨.int .i64,t⟩ w1 i1:=by
  obtain ⟨w0,P9,i0,P_,rfl,rfl,h0,hh⟩:=di.cons_inv hh
  obtain ⟨w1,ws2,i1,is2,rfl,rfl,h1,hh⟩:=di.cons_inv hh
  obtain ⟨rfl,rfl⟩:=di.sY hh
  exact ⟨w0,i0,w1,i1,rfl,rfl,h0,h1⟩
 obtain ⟨WU,e0,o0,q0⟩:=h0
 obtain ⟨cs1,e1,o1,q1⟩:=h1
 obtain rfl:WU=[w0]:=e0
 obtain rfl:cs1=[w1]:=e1
 unfold ax at q0 q1
 injection q0 with q0;injection q1 with q1
 have o0:i0=[]:=o0
 have o1:i1=[]:=o1
 subst q0 q1 o0 o1
 replace h:Cw s t=some r:=h
 refine ⟨.string r,H,[.string r],[[]],[],by simp only [Hj,h,Q1],rfl,Zd _,fun _ _ _=>rfl,?_,by simp,by simp,⟨⟨[.string r],rfl,rfl,by unfold ax;rfl⟩,trivial⟩,trivial⟩
 simp [Qvn,M_]
def Qql (P:Program) (F:FuncId):Prop :=
 ∀ (s:ByteArray) (n:Nat) (w:World),n<=1000000->s.size<=1000000->Calls P F #[.string s,.int .i64 n] w fun e w'=>e=.returned (.string ⟨(Go.Lib.repeatL s.data.toList n).toArray⟩)/\Go.RowKit.Below w.heap.size w w'
theorem Rel.below {ι:Io} {D:Nat->Prop} {H:af} {w w':World} (h:Rel ι D H w) (b:Go.RowKit.Below w.heap.size w w'):Rel ι D H w' :=
 ⟨fun c k hk=>(h.aJ c k hk).bw (b.block _ (h.lt hk)) rfl (fun _ _ _ x=>x),h.inj,h.iy,h.gw.cv b.size (fun k hk=>b.block k (by have:=h.gw.1;omega))⟩
theorem Fr.below (ι:Io) (H:af) {w w':World} (b:Go.RowKit.Below w.heap.size w w'):Fr ι H w ι H w' :=
 ⟨Zd _,fun _ _=>rfl,b.os,b.tape,b.output,b.size,fun k hk _=>b.block k hk,fun c aJ h hr=>.inr ⟨c,aJ,h,hr,rfl⟩,fun _ _ h _=>h⟩
theorem Qtk {P:Program} {F:FuncId} (rm:∀ (bT:Array Value) (w:World),(callFunc F bT).run P w=.ok (.enter F bT) w) (walk:Qql P F) :
  ∀ args ai H v H',Hj args ai H=some (v,H')->iq P F args ai H v H':=by
 intro args ai H v H' h
 unfold Hj at h
 split at h
 .rename_i s n
  replace h:=Q2 h;obtain ⟨t,h1,h⟩:=h
  simp at h;obtain ⟨rfl,rfl⟩:=h
  unfold Cw aa at h1
  split at h1
  .rename_i hc
   simp only [Z8,Zj] at hc
   obtain ⟨m,rfl⟩:=Int.eq_ofNat_of_zero_le hc.1
   injection h1 with h1;subst h1
   refine ⟨fun _ _=>.str _,fun _ _=>Ab.refl ai H,rm,fun ι w bT hR hargs=>?_⟩
   obtain ⟨xs,rfl⟩:∃ xs:List Value,bT=xs.toArray:=⟨bT.toList,by simp⟩
   obtain ⟨al,ar⟩:=hargs
   simp only [List.toList_toArray] at al ar
   match xs,al,ar with
   | [y0,y1],_,ar =>
    have r0:=ar 0 (by simp) (by simp)
    have r1:=ar 1 (by simp) (by simp)
    simp only [List.getElem_cons_zero,List.getElem_cons_succ] at r0 r1
    have e0:=r0.bR
    have e1:=r1.aM
    subst e0 e1
    refine (walk s m w (by omega) (Zi hc.2.2)).mono ?_
    rintro e w' ⟨rfl,hb⟩
    exact ⟨ι,_,rfl,Rel.below hR hb,.str _,Fr.below ι H hb⟩
  .simp at h1
 .simp at h
end Go.Pv
namespace Go.Proofs
open Go.Shelf
def Tryz.mQ:Go.Shelf.Ren:=⟨fun | 171=>190 | 243=>201 | 246=>212 | 283=>219 | 284=>220 | 285=>221 | 286=>222 | 129=>227 | 317=>226 | 318=>228 | 319=>229 | 320=>230 | 337=>233 | 338=>234 | n=>n,fun | 3=>3 | 9=>9 | 2=>2 | 4=>4 | 171=>212 | 0=>0 | 53=>196 | 37=>202 | 5=>5 | 173=>215 | 212=>220 | 51=>193 | 20=>20 | 213=>221 | 46=>184 | 232=>227 | 233=>228 | n=>n,fun | 17=>1 | 18=>3 | 19=>4 | n=>n⟩
theorem Tryz.AN:Go.Proofs.LaysM.n171 Tryz.prog Tryz.mQ:={
 mixed:=by kernel_rfl
 f129:=Tryz.func227.trans (congrArg some (by kernel_rfl))
 f171:=Tryz.func190.trans (congrArg some (by kernel_rfl))
 f243:=Tryz.func201.trans (congrArg some (by kernel_rfl))
 f246:=Tryz.func212.trans (congrArg some (by kernel_rfl))
 f283:=Tryz.func219.trans (congrArg some (by kernel_rfl))
 f284:=Tryz.func220.trans (congrArg some (by kernel_rfl))
 f285:=Tryz.func221.trans (congrArg some (by kernel_rfl))
 f286:=Tryz.func222.trans (congrArg some (by kernel_rfl))
 f317:=Tryz.func226.trans (congrArg some (by kernel_rfl))
 f318:=Tryz.func228.trans (congrArg some (by kernel_rfl))
 f319:=Tryz.func229.trans (congrArg some (by kernel_rfl))
 f320:=Tryz.func230.trans (congrArg some (by kernel_rfl))
 f337:=Tryz.func233.trans (congrArg some (by kernel_rfl))
 f338:=Tryz.func234.trans (congrArg some (by kernel_rfl))
 t0:=Tryz.underlying0
 a0:=Tryz.isAgg0
 z0:=Tryz.sizeOf0
 v0:=Tryz.zeroValue0
 t2:=Tryz.underlying2
 a2:=Tryz.isAgg2
 z2:=Tryz.sizeOf2
 v2:=Tryz.zeroValue2
 t3:=Tryz.underlying3
 a3:=Tryz.isAgg3
 z3:=Tryz.sizeOf3
 v3:=Tryz.zeroValue3
 t4:=Tryz.underlying4
 a4:=Tryz.isAgg4
 z4:=Tryz.sizeOf4
 v4:=Tryz.zeroValue4
 t5:=Tryz.underlying5
 a5:=Tryz.isAgg5
 z5:=Tryz.sizeOf5
 v5:=Tryz.zeroValue5
 t9:=Tryz.underlying9
 a9:=Tryz.isAgg9
 z9:=Tryz.sizeOf9
 v9:=Tryz.zeroValue9
 t20:=Tryz.underlying20
 a20:=Tryz.isAgg20
 z20:=Tryz.sizeOf20
 v20:=Tryz.zeroValue20
 t37:=Tryz.underlying202
 a37:=Tryz.isAgg202
 z37:=Tryz.sizeOf202
 v37:=Tryz.zeroValue202
 t46:=Tryz.underlying184
 a46:=Tryz.isAgg184
 z46:=Tryz.sizeOf184
 v46:=Tryz.zeroValue184
 t51:=Tryz.underlying193
 a51:=Tryz.isAgg193
 z51:=Tryz.sizeOf193
 v51:=Tryz.zeroValue193
 t53:=Tryz.underlying196
 a53:=Tryz.isAgg196
 z53:=Tryz.sizeOf196
 v53:=Tryz.zeroValue196
 t171:=Tryz.underlying212
 a171:=Tryz.isAgg212
 z171:=Tryz.sizeOf212
 v171:=Tryz.zeroValue212
 t173:=Tryz.underlying215
 a173:=Tryz.isAgg215
 z173:=Tryz.sizeOf215
 v173:=Tryz.zeroValue215
 t212:=Tryz.underlying220
 a212:=Tryz.isAgg220
 z212:=Tryz.sizeOf220
 v212:=Tryz.zeroValue220
 t213:=Tryz.underlying221
 a213:=Tryz.isAgg221
 z213:=Tryz.sizeOf221
 t232:=Tryz.underlying227
 a232:=Tryz.isAgg227
 z232:=Tryz.sizeOf227
 v232:=Tryz.zeroValue227
 t233:=Tryz.underlying228
 a233:=Tryz.isAgg228
 z233:=Tryz.sizeOf228
 v233:=Tryz.zeroValue228
 g17:=by kernel_rfl
 g18:=by kernel_rfl
 g19:=by kernel_rfl
 i0:=by kernel_rfl
 i2:=by kernel_rfl
 i3:=by kernel_rfl
 i4:=by kernel_rfl
 i5:=by kernel_rfl
 i9:=by kernel_rfl
 i20:=by kernel_rfl
 i37:=by kernel_rfl
 i46:=by kernel_rfl
 i51:=by kernel_rfl
 i53:=by kernel_rfl
 i171:=by kernel_rfl
 i173:=by kernel_rfl
 i212:=by kernel_rfl
 i232:=by kernel_rfl
 i233:=by kernel_rfl
 m17:=by kernel_rfl
 m18:=by kernel_rfl
 m19:=by kernel_rfl }
end Go.Proofs
namespace Go.Proofs.YtcoimfbmgjhcjabGreatDoor
open Go.RowKit Go.Pv Go.Shelf
theorem Qfs:Tryz.prog.globalNamed "internal/strconv.uint64pow10" = some 1:=by kernel_rfl
theorem Qqm:((Lib.pow10Tab.map fun z=>Value.int .u64 z).toArray)=(#[.int .u64 1,.int .u64 10,.int .u64 100,.int .u64 1000,.int .u64 10000,.int .u64 100000,.int .u64 1000000,.int .u64 10000000,.int .u64 100000000,.int .u64 1000000000,.int .u64 10000000000,.int .u64 100000000000,.int .u64 1000000000000,.int .u64 10000000000000,.int .u64 100000000000000,.int .u64 1000000000000000,.int .u64 10000000000000000,.int .u64 100000000000000000,.int .u64 1000000000000000000,.int .u64 10000000000000000000]:Array Value):=by kernel_rfl
theorem WV {w:World} (h:Go.Ev.GW w):Lib.TabIs Tryz.prog w "internal/strconv.uint64pow10" .u64 Lib.pow10Tab:=by
 obtain ⟨_,t,f,h2⟩:=h.2 (1,[.int .u64 1,.int .u64 10,.int .u64 100,.int .u64 1000,.int .u64 10000,.int .u64 100000,.int .u64 1000000,.int .u64 10000000,.int .u64 100000000,.int .u64 1000000000,.int .u64 10000000000,.int .u64 100000000000,.int .u64 1000000000000,.int .u64 10000000000000,.int .u64 100000000000000,.int .u64 1000000000000000,.int .u64 10000000000000000,.int .u64 100000000000000000,.int .u64 1000000000000000000,.int .u64 10000000000000000000]) (by unfold Go.Ev.gTabs;simp)
 unfold Lib.TabIs World.var?
 rw [Qfs,Qqm]
 simp only [Option.bind_some]
 rw [h2]
theorem Qqn {w:World} (h:Lib.TabIs Tryz.prog w "internal/strconv.uint64pow10" .u64 Lib.pow10Tab):1 < w.heap.size/\∃ t f,w.heap[1]? = some (.cells ([.int .u64 1,.int .u64 10,.int .u64 100,.int .u64 1000,.int .u64 10000,.int .u64 100000,.int .u64 1000000,.int .u64 10000000,.int .u64 100000000,.int .u64 1000000000,.int .u64 10000000000,.int .u64 100000000000,.int .u64 1000000000000,.int .u64 10000000000000,.int .u64 100000000000000,.int .u64 1000000000000000,.int .u64 10000000000000000,.int .u64 100000000000000000,.int .u64 1000000000000000000,.int .u64 10000000000000000000]:List Value).toArray t f):=by
 unfold Lib.TabIs World.var? at h
 rw [Qfs,Qqm] at h
 simp only [Option.bind_some] at h
 split at h
 .rename_i cs t f hc
  injection h with h
  have au:1 < w.heap.size:=by
   rcases Nat.lt_or_ge 1 w.heap.size with g | g
   .exact g
   .rw [Array.getElem?_eq_none g] at hc;simp at hc
  exact ⟨au,t,f,by rw [hc,h]⟩
 .simp at h
theorem Qqo:Qme Tryz.prog 190:=fun n w h0 h1 hg=>Any.strconv_Itoa Tryz.AN n h0 h1 w (WV hg)
theorem Qtl:∀ args ai H v H',Hi args ai H=some (v,H')->Go.Ev.iq Tryz.prog 190 args ai H v H' :=
 Qqk (enters_of Tryz.func190 (by kernel_rfl) rfl) Qqo
end Go.Proofs.YtcoimfbmgjhcjabGreatDoor
namespace Go.Proofs
open Go.Shelf
def Tryz.iD:Go.Shelf.Ren:=⟨fun | 105=>202 | 212=>195 | 99=>213 | 165=>214 | 166=>215 | 170=>216 | 169=>217 | 263=>208 | 264=>209 | 206=>223 | 240=>224 | 241=>225 | 276=>231 | 277=>232 | n=>n,fun | 9=>9 | 3=>3 | 4=>4 | 20=>20 | 0=>0 | 46=>184 | 109=>185 | 5=>5 | 72=>204 | 76=>208 | 51=>193 | 146=>194 | 53=>196 | 148=>197 | 70=>201 | 37=>202 | 75=>207 | 127=>217 | 164=>223 | 80=>211 | n=>n,fun | n=>n⟩
theorem Tryz.C':Go.Proofs.Lays.n105 Tryz.prog Tryz.iD:={
 mixed:=by kernel_rfl
 f99:=Tryz.func213.trans (congrArg some (by kernel_rfl))
 f105:=Tryz.func202.trans (congrArg some (by kernel_rfl))
 f165:=Tryz.func214.trans (congrArg some (by kernel_rfl))
 f166:=Tryz.func215.trans (congrArg some (by kernel_rfl))
 f169:=Tryz.func217.trans (congrArg some (by kernel_rfl))
 f170:=Tryz.func216.trans (congrArg some (by kernel_rfl))
 f206:=Tryz.func223.trans (congrArg some (by kernel_rfl))
 f212:=Tryz.func195.trans (congrArg some (by kernel_rfl))
 f240:=Tryz.func224.trans (congrArg some (by kernel_rfl))
 f241:=Tryz.func225.trans (congrArg some (by kernel_rfl))
 f263:=Tryz.func208.trans (congrArg some (by kernel_rfl))
 f264:=Tryz.func209.trans (congrArg some (by kernel_rfl))
 f276:=Tryz.func231.trans (congrArg some (by kernel_rfl))
 f277:=Tryz.func232.trans (congrArg some (by kernel_rfl))
 t0:=Tryz.underlying0
 a0:=Tryz.isAgg0
 z0:=Tryz.sizeOf0
 v0:=Tryz.zeroValue0
 t3:=Tryz.underlying3
 a3:=Tryz.isAgg3
 z3:=Tryz.sizeOf3
 v3:=Tryz.zeroValue3
 t4:=Tryz.underlying4
 a4:=Tryz.isAgg4
 z4:=Tryz.sizeOf4
 v4:=Tryz.zeroValue4
 t5:=Tryz.underlying5
 a5:=Tryz.isAgg5
 z5:=Tryz.sizeOf5
 v5:=Tryz.zeroValue5
 t9:=Tryz.underlying9
 a9:=Tryz.isAgg9
 z9:=Tryz.sizeOf9
 v9:=Tryz.zeroValue9
 t20:=Tryz.underlying20
 a20:=Tryz.isAgg20
 z20:=Tryz.sizeOf20
 v20:=Tryz.zeroValue20
 t37:=Tryz.underlying202
 a37:=Tryz.isAgg202
 z37:=Tryz.sizeOf202
 v37:=Tryz.zeroValue202
 t46:=Tryz.underlying184
 a46:=Tryz.isAgg184
 z46:=Tryz.sizeOf184
 v46:=Tryz.zeroValue184
 t51:=Tryz.underlying193
 a51:=Tryz.isAgg193
 z51:=Tryz.sizeOf193
 v51:=Tryz.zeroValue193
 t53:=Tryz.underlying196
 a53:=Tryz.isAgg196
 z53:=Tryz.sizeOf196
 v53:=Tryz.zeroValue196
 t70:=Tryz.underlying201
 a70:=Tryz.isAgg201
 z70:=Tryz.sizeOf201
 v70:=Tryz.zeroValue201
 t72:=Tryz.underlying204
 a72:=Tryz.isAgg204
 z72:=Tryz.sizeOf204
 v72:=Tryz.zeroValue204
 t75:=Tryz.underlying207
 a75:=Tryz.isAgg207
 z75:=Tryz.sizeOf207
 v75:=Tryz.zeroValue207
 t76:=Tryz.underlying208
 a76:=Tryz.isAgg208
 z76:=Tryz.sizeOf208
 v76:=Tryz.zeroValue208
 t109:=Tryz.underlying185
 a109:=Tryz.isAgg185
 z109:=Tryz.sizeOf185
 v109:=Tryz.zeroValue185
 t127:=Tryz.underlying217
 a127:=Tryz.isAgg217
 z127:=Tryz.sizeOf217
 v127:=Tryz.zeroValue217
 t146:=Tryz.underlying194
 a146:=Tryz.isAgg194
 z146:=Tryz.sizeOf194
 v146:=Tryz.zeroValue194
 t148:=Tryz.underlying197
 a148:=Tryz.isAgg197
 z148:=Tryz.sizeOf197
 v148:=Tryz.zeroValue197
 t164:=Tryz.underlying223
 a164:=Tryz.isAgg223
 z164:=Tryz.sizeOf223
 v164:=Tryz.zeroValue223 }
end Go.Proofs
namespace Go.Proofs.YtcoimfbmgjhcjabGreatDoor
open Go.RowKit Go.Pv Go.Shelf
theorem WW:Builder.Extra Tryz.prog Tryz.iD where
 sizeBuilder:=by kernel_rfl
 liesBuilder:=by kernel_rfl
 t5:=Tryz.underlying5
 a5:=Tryz.isAgg5
 z5:=Tryz.sizeOf5
 v5:=Tryz.zeroValue5
 infoByte:=by kernel_rfl
 cellsByte:=by kernel_rfl
 sizeByte:=by kernel_rfl
 neB5:=by decide
theorem Qtm:Qql Tryz.prog 202:=fun s n w hn hs=>Any.strings_Repeat Tryz.C' WW s n w (by omega) (by
 have:s.size*n<=1000000*1000000:=Nat.mul_le_mul hs hn
 omega)
theorem Qxe:∀ args ai H v H',Hj args ai H=some (v,H')->Go.Ev.iq Tryz.prog 202 args ai H v H' :=
 Qtk (enters_of Tryz.func202 (by kernel_rfl) rfl) Qtm
end Go.Proofs.YtcoimfbmgjhcjabGreatDoor
