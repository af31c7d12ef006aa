/-
  Code: the interpreter by value agrees with the first one, loops and all. And what stood behind it in 12 texts.
  Conditions: said at the theorems.
-/
import Derived.Test.YtcoimfbmgjhcjabGreatDoorVLoop2
import Derived.Test.YtcoimfbmgjhcjabGreatDoorVRel
import Derived.Test.YtcoimfbmgjhcjabGreatDoorOpB
import Derived.Lib.LaidTab
import Derived.Attr
import Derived.IntWalk
import Derived.Sort.Grow
import Derived.Deep.Draws
import Derived.Lib.ItoaNum
import Derived.Below
import Derived.Lib.Repeat
import Derived.Lib.LastIndexByte
set_option linter.all false
namespace Go.Pv
open Go.Ev
theorem Yo {env:bA}:∀ {keep:List (Nat×Value)} {dm:bA},IG env keep=some dm->(∀ k∈keep,∃ p,dF env k.1=some p)/\(∀ q p,dF dm q=some p->dF env q=some p/\q∈keep.map (·.1))/\∀ q∈keep.map (·.1),dF dm q=dF env q
 | [],dm,h=>by simp [IG] at h;subst h;simp [dF]
 | (q,t)::keep,dm,h=>by
  simp only [IG] at h
  replace h:=ob h;obtain ⟨p,h1,h⟩:=h
  replace h:=ob h;obtain ⟨e,h2,h⟩:=h
  simp at h;subst h
  obtain ⟨a1,a2,a3⟩:=Yo h2
  refine ⟨fun k hk=>?_,fun q' p' hp=>?_,fun q' hq=>?_⟩
  .rcases Z2 hk with rfl | hk
   .exact ⟨p,h1⟩
   .exact a1 k hk
  .simp only [dF] at hp
   cases hb:Nat.beq q q' with
   | true =>
    rw [hb] at hp;injection hp with hp;subst hp
    rw [<- Z7 hb];exact ⟨h1,by simp⟩
   | false=>rw [hb] at hp;obtain ⟨b1,b2⟩:=a2 q' p' hp;exact ⟨b1,by simp only [List.map_cons,List.mem_cons];exact .inr b2⟩
  .simp only [dF]
   cases hb:Nat.beq q q' with
   | true=>rw [<- Z7 hb];exact h1.symm
   | false =>
    simp only [List.map_cons,List.mem_cons] at hq
    rcases hq with rfl | hq
    .rw [Nat.beq_refl] at hb;simp at hb
    .exact a3 q' hq
theorem Yp {e:Env} {val:Nat->Value}:∀ {keep:List (Nat×Value)},(∀ k∈keep,cS e k.1=some (val k.1))->vn e keep=some (keep.map fun k=>val k.1)
 | [],_=>rfl
 | (q,t)::keep,h=>by
  have ih:=Yp (e:=e) (val:=val) (keep:=keep) (fun k hk=>h k (List.mem_cons_of_mem _ hk))
  simp only [vn,h (q,t) (by simp),Q1,ih,List.map_cons]
def Kv (val:Nat->Value) (keep:List (Nat×Value)):Env:=keep.map fun k=>(k.1,val k.1)
theorem Rs {val:Nat->Value}:∀ {keep:List (Nat×Value)} (q:Nat),cS (Kv val keep) q=if q∈keep.map (·.1) then some (val q) else none
 | [],q=>by simp [Kv,cS]
 | (k,t)::keep,q=>by
  simp only [Kv,List.map_cons,cS]
  cases hb:Nat.beq k q with
  | true=>have:=Z7 hb;subst this;simp
  | false =>
   have aV:q≠k:=fun e=>by subst e;rw [Nat.beq_refl] at hb;simp at hb
   have:=Rs (val:=val) (keep:=keep) q
   simp only [Kv] at this
   simp only [this,List.mem_cons,aV,false_or]
theorem Q8x {β:Type} {s:S} {env:bA} {val:Nat->Value} (hr:∀ q p,dF env q=some p->ER s p (val q)):∀ {keep:List (Nat×Value)} {K:Env->Option β},NZ env keep=true->Bt keep (keep.map fun k=>val k.1) K=K (Kv val keep)
 | [],K,_=>rfl
 | (q,t)::keep,K,h=>by
  simp only [NZ,Z8] at h
  obtain ⟨h1,h2⟩:=h
  simp only [Bt,List.map_cons,Aj]
  cases hp:dF env q with
  | none=>rw [hp] at h1;simp at h1
  | some p =>
   rw [hp] at h1
   simp only at h1
   have hER:=hr q p hp
   have hAR:AR s p (val q):=by
    cases p with
    | kU cs=>rw [Qea] at h1;simp at h1
    | _=>exact hER
   rw [Fj hAR h1,Q8x hr h2]
   rfl
theorem Rt {L:LS} {ids:List Nat} (h:NF L ids=true):∀ b∈ids,∃ B,Qi L b=some B/\B.rw=true:=by
 intro b hb
 have:=Z3 h b hb
 split at this
 .rename_i v bo hB;exact ⟨_,hB,rfl⟩
 .simp at this
section
variable {A:cM} {β γ:Type} {X:nq A β} {XE:Cx} {r:β} {Q:γ->Prop}
def EOk (W:List Nat) (dm:bA) (e0:Env) (s:S) (r:β) (KV:eK->bA->LS->Option β) (KE:eK->Env->af->Option γ) (Q:γ->Prop):Prop :=
 ∀ ex env e s',aj s s'->aD s'->cI s' env e->fK W dm env e0 e->KV ex env s'.L=some r->∃ y,KE ex e s'.H=some y/\Q y
def Qvy (X:nq A β) (XE:Cx) (r:β) (Q:γ->Prop) (c:Code) (n:Nat):Prop :=
 ∀ (s:S) (env:bA) (e:Env) (KV:eK->bA->LS->Option β) (KE:eK->Env->af->Option γ),s.ai=XE.ai->aD s->cI s env e->EOk (gO c) env e s r KV KE Q->jb X c n env s.L KV=some r->∃ y,ff XE c n e s.H KE=some y/\Q y
theorem Quf {c:Code} {n:Nat} (hX:C_ X XE) (ihc:Qvy X XE r Q c (n+1)) {s:S} {env:bA} {e:Env} {KV:eK->bA->LS->Option β} {KE:eK->Env->af->Option γ} (aI:s.ai=XE.ai) (hs:aD s) (he:cI s env e) (hK:EOk (gO c) env e s r KV KE Q)
  (h:jb X (.loop c) n env s.L KV=some r):∃ y,ff XE (.loop c) n e s.H KE=some y/\Q y:=by
 simp only [jb] at h
 simp only [ff]
 rw [<- hX.cT]
 replace h:=ob h;obtain ⟨dm,h1,h⟩:=h
 replace h:=ob h;obtain ⟨⟨ja,ids,L1⟩,h2,h⟩:=h
 simp only at h
 split at h
 .rename_i N6 hnd
  simp only [Z8] at N6
  obtain ⟨nX,tq⟩:=N6
  have hnd:=Qc6 hnd
  replace h:=ob h;obtain ⟨st0,h3,h⟩:=h
  obtain ⟨kg1,Ru,kg3⟩:=Yo h1
  let vP:Nat->Value:=fun q=>(cS e q).getD undef
  have hval0:∀ q w,cS e q=some w->vP q=w:=fun q w hq=>by simp [vP,hq]
  have Jv:∀ k∈X.fh n,cS e k.1=some (vP k.1):=fun k hk=>by
   obtain ⟨p,hp⟩:=kg1 k hk
   obtain ⟨w,hw,_⟩:=he.get hp
   rw [hval0 _ _ hw];exact hw
  rw [Yp Jv];simp only [Q1]
  obtain ⟨sf,lf,gf,uf,kf,tf⟩:=Qfr (env:=env) (l:=(X.cT n).fzs) hs
  rw [<- lf] at h2
  obtain ⟨s1,v1,v2,an,js,hv,hv1,l1,g1,k1,t1,sr1,C6,bd1,Yq⟩:=Qdu hval0 tf (kf.env he) h2
  have Dn:aj s s1:=kf.trans k1
  have j6:s1.ai=s.ai:=Dn.ai
  have JA:sf.ai=s.ai:=kf.ai
  rw [<- l1] at h Yq
  have IK:∀ k∈X.fh n,k.1∉(X.cT n).bN.map (·.1)->k.1∉gO c:=by
   intro k hk JX hw
   simp only [Ym,Z8] at tq
   have:=Z3 tq.1 k hk
   simp only [Bool.or_eq_true,Bool.not_eq_true'] at this
   rcases this with h | h
   .obtain ⟨x,hx,nV⟩:=List.any_eq_true.1 h
    exact JX (List.mem_map.2 ⟨x,hx,Z7 nV⟩)
   .exact C3 h hw
  have N7:=Rt Yq
  have IL:∀ q∈(X.cT n).bN.map (·.1),q∈gO c:=by
   intro q hq
   simp only [Ym,Z8] at tq
   obtain ⟨x,hx,rfl⟩:=List.mem_map.1 hq
   exact List.contains_iff_mem.1 (Z3 tq.2 x hx)
  have IM:∀ q∈(X.cT n).bN.map (·.1),q∈(X.fh n).map (·.1):=by
   intro q hq
   obtain ⟨x,hx,rfl⟩:=List.mem_map.1 hq
   have:=Z3 nX x hx
   obtain ⟨k,hk,n_⟩:=List.any_eq_true.1 this
   exact List.mem_map.2 ⟨k,hk,Z7 n_⟩
  have Yr:∀ q p,q∉(X.cT n).bN.map (·.1)->dF dm q=some p->ER s1 p (vP q):=by
   intro q p _ hp
   obtain ⟨b1,_⟩:=Ru q p hp
   obtain ⟨w,hw,hr⟩:=he.get b1
   rw [hval0 q w hw];exact Dn.ER hr
  have main:∀ (fuel:Nat) (st:jF (X.cT n).AW) (T:S) (val:Nat->Value) (an js:List (List Nat)) (v1 v2:List TV),aD T->aj s1 T->(∀ b B,b∉ids->Qi s1.L b=some B->Qi T.L b=some B)->(∀ b∈ids,∃ B,Qi T.L b=some B/\B.rw=true) ->
    fu (X.cT n).AW st=v1++v2->v1.length=(X.cT n).bN.length->SR T s.ai val (X.cT n).bN v1 an->(an.flatten++js.flatten).Nodup->rD T s.ai ids (X.cT n).Fi.length v2 js->(∀ k∈X.fh n,k.1∉(X.cT n).bN.map (·.1)->val k.1=vP k.1) ->
    Q9 (fun again s=>Q1 (tn ids (X.cT n).Fi.length ((fu (X.cT n).AW s).drop (X.cT n).bN.length) s1.L) fun L0=>Q1 (Iz ids (X.cT n).Fi.length ((fu (X.cT n).AW s).drop (X.cT n).bN.length) L0) fun L1 =>
     Q1 (IA (X.cT n).bN ((fu (X.cT n).AW s).take (X.cT n).bN.length) dm L1) fun i =>
     match NZ i.1 (X.fh n) with
     | true=>jb X c (n+1) i.1 i.2 fun ex ak L'=>match ex with
      | .normal=>Q1 (IG ak (X.fh n)) fun _=>Q1 (ND (X.cT n) ak L') fun r'=>match Ix r'.2.1 ids,BG ids 0 s1.L.bl r'.2.2.bl with
       | true,true=>Q1 (nj (X.cT n).AW r'.1) fun s'=>again s'
       | _,_=>none
      | .exit id=>KV (.exit id) ak L'
      | .ret=>KV .ret ak L'
     | false=>none) fuel st=some r ->
    ∃ y,CN (fun again vs H=>Bt (X.fh n) vs fun env=>ff XE c (n+1) env H fun ex ak H'=>match ex with
     | .normal=>Q1 (vn ak (X.fh n)) fun cB=>again cB H'
     | .exit id=>KE (.exit id) ak H'
     | .ret=>KE .ret ak H') fuel ((X.fh n).map fun k=>val k.1) T.H=some y/\Q y:=by
   clear h
   intro fuel
   induction fuel with
   | zero=>intro st T val an js v1 v2 _ _ _ _ _ _ _ _ _ _ h;simp [Q9] at h
   | succ fuel ih =>
    intro st T val an js v1 v2 hT hkT dB cP Ka hlen hsr Dp M1 hinv h
    simp only [Q9] at h
    simp only [CN]
    rw [Ka,List.drop_append_of_le_length (by omega),List.drop_of_length_le (by omega),List.nil_append,List.take_append_of_le_length (by omega),Zs (by omega)] at h
    replace h:=ob h;obtain ⟨L2,h4,h⟩:=h
    replace h:=ob h;obtain ⟨L2',lp,h⟩:=h
    replace h:=ob h;obtain ⟨⟨f_,L3⟩,h5,h⟩:=h
    simp only at h
    rw [Zn] at Dp
    obtain ⟨Dp,Ys,Yt⟩:=Dp
    obtain ⟨sX,x1,x2,x3,x4,x5,x6⟩:=XK t1 hT hkT hnd dB cP j6 M1 h4 (bt:=an.flatten++js.flatten) (fun z hz=>(List.mem_append.1 hz).elim (hsr.ai z) (M1.ai z))
    rw [<- x1] at lp
    obtain ⟨sB,e1,y2,y3,t2,y5,y6⟩:=Qa6 (T:=T) x4 (by rw [x3.ai,j6];exact M1) (fun b hb=>by
     obtain ⟨B,q1,_⟩:=N7 b hb
     have au:=Qn q1
     exact ⟨Zm au x3.nb,by rw [x3.mu b au,hkT.mu b au]⟩) x2 x6 (fun z hz=>x5 z (List.mem_append.2 (.inr hz))) Ys lp
    have e2:sB.H=T.H:=y2.trans x2
    have k2:aj s1 sB:=x3.trans y3
    have QN:∀ z∈an.flatten,sB.aF z:=fun z hz=>y6 z (x5 z (List.mem_append.2 (.inl hz))) (fun hm=>Yt z hz z hm rfl)
    have n2:∀ z,T.N z->sB.N z:=fun z hz=>y5 z (x6 z hz)
    rw [<- e1] at h5
    have Yu:SR sB sB.ai val (X.cT n).bN v1 an:=by
     rw [k2.ai,j6]
     have:∀ {l:List (Nat×Bool×Ty)} {vs:List TV} {an:List (List Nat)},SR T s.ai val l vs an->(∀ z∈an.flatten,sB.aF z)->SR sB s.ai val l vs an:=by
      intro l
      induction l with
      | nil=>intro vs an h _;cases vs<;>cases an<;>simp_all [SR]
      | cons x l ih =>
       intro vs an h hL
       obtain ⟨q,o,t⟩:=x
       match vs,an,h with
       | v::vs,i::an,h=>exact ⟨h.1.frame (fun z hz au=>⟨n2 z hz,by rw [e2]⟩) (fun z _=>by rw [e2]),fun z hz=>hL z (by simp [hz]),ih h.2.2 (fun z hz=>hL z (by simp at hz ⊢;exact .inr hz))⟩
     exact this hsr QN
    have Yv:∀ q p,q∉(X.cT n).bN.map (·.1)->dF dm q=some p->ER sB p (val q):=by
     intro q p hq hp
     have kA:=(Ru q p hp).2
     obtain ⟨k,hk,rfl⟩:=List.mem_map.1 kA
     rw [hinv k hk hq];exact k2.ER (Yr k.1 p hq hp)
    obtain ⟨s3,a1,a2,a3,a4,a5,a6,a7⟩:=Qc8 t2 Yu Dp Yv h5
    split at h
    .rename_i b_
     rw [Q8x a5 b_]
     have Yw:cI s3 f_ (Kv val (X.fh n)):=by
      intro q
      rw [Rs]
      cases hp:dF f_ q with
      | none =>
       simp only
       by_cases hq:q∈(X.cT n).bN.map (·.1)
       .obtain ⟨p,Az⟩:=a7 q hq;rw [hp] at Az;simp at Az
       .rw [a6 q hq] at hp
        split
        .rename_i hm
         rw [kg3 q hm] at hp
         obtain ⟨k,hk,rfl⟩:=List.mem_map.1 hm
         obtain ⟨p,Az⟩:=kg1 k hk
         rw [hp] at Az;simp at Az
        .rfl
      | some p =>
       simp only
       have hm:q∈(X.fh n).map (·.1):=by
        by_cases hq:q∈(X.cT n).bN.map (·.1)
        .exact IM q hq
        .rw [a6 q hq] at hp;exact (Ru q p hp).2
       rw [if_pos hm]
       exact ⟨val q,rfl,a5 q p hp⟩
     have hH3:s3.H=T.H:=a2.trans e2
     rw [<- hH3]
     rw [<- a1] at h
     have hl3:s3.ai=XE.ai:=by rw [a3.ai,k2.ai,j6];exact aI
     refine ihc _ _ _ _ _ hl3 a4 Yw (fun ex ak e' s4 k4 t4 Rv hu4 h=>?_) h
     have Dq:aj s1 s4:=(k2.trans a3).trans k4
     have Fp:fK (gO c) env ak e e':=by
      intro q hq
      rcases hu4 q hq with h6 | ⟨h6,h7⟩
      .exact .inl h6
      .have hqs:q∉(X.cT n).bN.map (·.1):=fun hm=>hq (IL q hm)
       rw [a6 q hqs] at h6
       cases hp:dF dm q with
       | none=>rw [hp] at h6;exact .inl h6
       | some p =>
        obtain ⟨c1,c2⟩:=Ru q p hp
        right
        refine ⟨by rw [h6,hp,c1],?_⟩
        rw [h7,Rs,if_pos c2]
        obtain ⟨k,hk,rfl⟩:=List.mem_map.1 c2
        rw [hinv k hk hqs,Jv k hk]
     cases ex with
     | normal =>
      simp only at h ⊢
      replace h:=ob h;obtain ⟨cc,h6,h⟩:=h
      replace h:=ob h;obtain ⟨⟨aaX,NC,L4⟩,h7,h⟩:=h
      simp only at h
      obtain ⟨kh1,kh2,kh3⟩:=Yo h6
      let Dr:Nat->Value:=fun q=>(cS e' q).getD undef
      have AY:∀ q w,cS e' q=some w->Dr q=w:=fun q w hq=>by simp [Dr,hq]
      have de:∀ k∈X.fh n,cS e' k.1=some (Dr k.1):=fun k hk=>by
       obtain ⟨p,hp⟩:=kh1 k hk
       obtain ⟨w,hw,_⟩:=Rv.get hp
       rw [AY _ _ hw];exact hw
      rw [Yp de];simp only [Q1]
      obtain ⟨s5,w1,w2,N8,js',hw,P7,m1,m2,m3,m4,m5,m6,m7,m8⟩:=Qdu AY t4 Rv h7
      split at h
      .rename_i Yx hsb
       have Yx:=Qdv Yx
       subst Yx
       replace h:=ob h;obtain ⟨st',h8,h⟩:=h
       have N9:aj s1 s5:=Dq.trans m3
       rw [<- m1] at hsb m8
       have hl4:s4.ai=s.ai:=Dq.ai.trans j6
       have:=ih st' s5 Dr N8 js' w1 w2 m4 N9 (fun b B hb hB=>by
        obtain ⟨B',q1,q2⟩:=XI hsb b B (Qr0.1 hB) (by simpa using hb)
        have q1':=Qr0.2 q1
        obtain ⟨B0,p1,p2,p3⟩:=N9.live b B' (Qn hB) q1'
        rw [hB] at p1;injection p1 with p1;subst p1
        obtain ⟨p4,_⟩:=p3 q2
        rw [q1',p4]) (Rt m8) (by rw [Nc _ h8];exact hw) P7 (by rw [<- hl4];exact m5) m6 (by rw [<- hl4];exact m7) (fun k hk JX=>by
        have hqw:=IK k hk JX
        rcases hu4 k.1 hqw with h9 | ⟨h9,Ma⟩
        .obtain ⟨p,hp⟩:=kh1 k hk
         rw [hp] at h9;simp at h9
        .rw [Rs,if_pos (List.mem_map.2 ⟨k,hk,rfl⟩)] at Ma
         rw [AY _ _ Ma];exact hinv k hk JX) h
       rw [m2] at this;exact this
      .simp at h
     | exit id=>exact hK (.exit id) ak e' s4 (Dn.trans Dq) t4 Rv Fp h
     | ret=>exact hK .ret ak e' s4 (Dn.trans Dq) t4 Rv Fp h
    .simp at h
  have:=main A.fuel st0 s1 vP an js v1 v2 t1 (aj.refl s1) (fun b B _ h=>h) (Rt Yq) (by rw [Nc _ h3];exact hv) hv1 (by rw [<- JA];exact sr1) C6 (by rw [<- JA];exact bd1) (fun _ _ _=>rfl) h
  rw [hX.fuel]
  rw [g1,gf] at this;exact this
 .simp at h
theorem Yy {ops:Array Oper} {o:Oper} (h:o∈ops.toList) {d:Nat} (hd:o.dst=some d):d∈Qrn ops :=
 List.mem_filterMap.2 ⟨o,h,hd⟩
theorem Qxw {W:List Nat} {s:S} {env:bA} {e:Env} {c:Operand} {b:Bool} (he:cI s env e) (hv:eC env c=some (.bool b)) (hW:∀ d,c=.tmp d->d∈W):cI s (Rp c b env) (EN c b e)/\fK W env (Rp c b env) e (EN c b e):=by
 cases c with
 | tmp d=>exact ⟨he.cons (p:=.bool b) rfl,fK.cons (hW d rfl)⟩
 | _=>exact ⟨he,fK.refl _ _ _⟩
theorem Fq (hX:C_ X XE):∀ (c:Code) (n:Nat),Qvy X XE r Q c n
 | .skip,n=>fun s env e KV KE aI hs he hK h=>hK .normal _ _ _ (aj.refl _) hs he (fK.refl _ _ _) (by simpa only [jb] using h)
 | .label l,n=>fun s env e KV KE aI hs he hK h=>hK .normal _ _ _ (aj.refl _) hs he (fK.refl _ _ _) (by simpa only [jb] using h)
 | .exit id,n=>fun s env e KV KE aI hs he hK h=>hK (.exit id) _ _ _ (aj.refl _) hs he (fK.refl _ _ _) (by simpa only [jb] using h)
 | .ret,n=>fun s env e KV KE aI hs he hK h=>hK .ret _ _ _ (aj.refl _) hs he (fK.refl _ _ _) (by simpa only [jb] using h)
 | .region id ops d,n=>fun s env e KV KE aI hs he hK h=>by
  simp only [jb] at h
  simp only [ff]
  have hW:∀ (j:Nat) (d':Nat),(ops[j]?).bind (fun (x:Oper)=>x.dst)=some d'->d'∈gO (.region id ops d):=by
   intro j d' hj
   cases ho:ops[j]? with
   | none=>rw [ho] at hj;simp at hj
   | some o=>rw [ho] at hj;exact Yy (by have:=Array.mem_of_getElem? ho;simpa using this) (by simpa using hj)
  cases d with
  | false=>exact Xu hX hW env e (fun o ho d hd=>Yy ho hd) aI hs he (fK.refl _ _ _) (fun ak e' s' k' t' gR dA h=>hK .normal ak e' s' k' t' gR dA h) h
  | true=>exact Qqy hX hW (fun o ho d hd=>Yy ho hd) aI hs he (fun ak e' s' k' t' gR dA h=>hK .normal ak e' s' k' t' gR dA h) h
 | .seq a b,n=>fun s env e KV KE aI hs he hK h=>by
  simp only [jb] at h
  simp only [ff]
  have N_:∀ q,q∈gO a->q∈gO (.seq a b):=fun q hq=>by simp only [gO,Zh];exact .inl hq
  have Yz:∀ q,q∈gO b->q∈gO (.seq a b):=fun q hq=>by simp only [gO,Zh];exact .inr hq
  refine Fq hX a n _ _ _ _ _ aI hs he (fun ex ak e' s' k' t' gR dA h=>?_) h
  cases ex with
  | normal =>
   simp only at h ⊢
   exact Fq hX b _ _ _ _ _ _ (k'.ai.trans aI) t' gR (fun Oa cc e2 s2 k2 t2 vG iS h=>hK Oa cc e2 s2 (k'.trans k2) t2 vG ((dA.mono N_).trans (iS.mono Yz)) h) h
  | exit id=>exact hK (.exit id) ak e' s' k' t' gR (dA.mono N_) h
  | ret=>exact hK .ret ak e' s' k' t' gR (dA.mono N_) h
 | .cond c a b,n=>fun s env e KV KE aI hs he hK h=>by
  simp only [jb] at h
  simp only [ff]
  have N_:∀ q,q∈gO a->q∈gO (.cond c a b):=fun q hq=>by cases c<;>simp [gO,hq]
  have Yz:∀ q,q∈gO b->q∈gO (.cond c a b):=fun q hq=>by cases c<;>simp [gO,hq]
  have hmc:∀ d,c=.tmp d->d∈gO (.cond c a b):=fun d hd=>by subst hd;simp [gO]
  replace h:=ob h;obtain ⟨p,h1,h⟩:=h
  obtain ⟨v,e1,r1⟩:=fM he h1
  rw [e1];simp only [Q1]
  split at h
  .rename_i t
   obtain rfl:v=.bool t:=r1
   simp only [wT]
   obtain ⟨q1,q2⟩:=Qxw (b:=t) he h1 hmc
   cases t with
   | true =>
    simp only [aa] at h ⊢
    exact Fq hX a n _ _ _ _ _ aI hs q1 (fun Oa cc e2 s2 k2 t2 vG iS h=>hK Oa cc e2 s2 k2 t2 vG (q2.trans (iS.mono N_)) h) h
   | false =>
    simp only [aa] at h ⊢
    exact Fq hX b _ _ _ _ _ _ aI hs q1 (fun Oa cc e2 s2 k2 t2 vG iS h=>hK Oa cc e2 s2 k2 t2 vG (q2.trans (iS.mono Yz)) h) h
  .simp at h
 | .block id c,n=>fun s env e KV KE aI hs he hK h=>by
  simp only [jb] at h
  simp only [ff]
  refine Fq hX c n _ _ _ _ _ aI hs he (fun ex ak e' s' k' t' gR dA h=>?_) h
  cases ex with
  | normal=>exact hK .normal ak e' s' k' t' gR dA h
  | exit Am =>
   simp only at h ⊢
   cases hb:Nat.beq Am id with
   | true=>rw [hb] at h;exact hK .normal ak e' s' k' t' gR dA h
   | false=>rw [hb] at h;exact hK (.exit Am) ak e' s' k' t' gR dA h
  | ret=>exact hK .ret ak e' s' k' t' gR dA h
 | .loop c,n=>fun s env e KV KE aI hs he hK h=>Quf hX (Fq hX c (n+1)) aI hs he hK h
 | .rangeFunc _ _ _ _,n=>fun s env e KV KE aI hs he hK h=>by simp [jb] at h
 | .scope _,n=>fun s env e KV KE aI hs he hK h=>by simp [jb] at h
 | .refuse _,n=>fun s env e KV KE aI hs he hK h=>by simp [jb] at h
 | .goto _,n=>fun s env e KV KE aI hs he hK h=>by simp [jb] at h
end
def cM.ev (A:cM):CP:=⟨A.fuel,A.jP,fun _=>.keep,A.ext⟩
theorem Kw {P:Program} {s:S} {env:bA} {e:Env} (hs:aD s) (he:cI s env e):∀ {l:List ResultVar} {vs:List PV},wK P env s.L l=some vs->∃ ws,iO P e s.H l=some ws/\Qx (ER s) vs ws
 | [],vs,h=>by simp [wK] at h;subst h;exact ⟨[],rfl,trivial⟩
 | .tmp t::l,vs,h=>by
  simp only [wK] at h
  replace h:=ob h;obtain ⟨p,h1,h⟩:=h
  replace h:=ob h;obtain ⟨ps,h2,h⟩:=h
  simp at h;subst h
  obtain ⟨w,e1,r1⟩:=he.get h1
  obtain ⟨ws,e2,r2⟩:=Kw hs he h2
  exact ⟨w::ws,by simp [iO,e1,e2,Q1],r1,r2⟩
 | .cell a t::l,vs,h=>by
  simp only [wK] at h
  replace h:=ob h;obtain ⟨p,h1,h⟩:=h
  obtain ⟨w,e1,r1⟩:=he.get h1
  split at h
  .rename_i b off
   split at h
   .rename_i aB rw cs hb
    replace h:=ob h;obtain ⟨i,h2,h⟩:=h
    obtain ⟨bG,m,hm,dH,rfl⟩:=r1
    have hB:=hs.aH b _ hb
    unfold BR at hB;simp only at hB
    obtain ⟨_,m',k,aE,_,hk,cx,_⟩:=hB
    rw [hm] at aE;injection aE with aE;subst aE
    have hl:=Qx.length cx
    split at h
    .rename_i fs hu
     split at h
     .rename_i hle
      have hle:=Zi hle
      replace h:=ob h;obtain ⟨ps,h3,h⟩:=h
      simp at h;subst h
      obtain ⟨ws,e2,r2⟩:=Kw hs he h3
      have gA:Qv s.H ⟨m.z,off,none⟩ i.size=some ((k.cells.drop off).take i.size):=by
       unfold Qv;simp only [hk,Q1]
       have:Nat.ble (off+i.size) k.cells.length=true:=Nat.ble_eq_true_of_le (by omega)
       rw [this]
      refine ⟨.agg ((k.cells.drop off).take i.size).toArray::ws,?_,⟨_,rfl,Qx.take _ (Qx.drop _ cx)⟩,r2⟩
      simp only [iO,e1,Q1,h2,hu,gA,e2]
     .simp at h
    .rename_i nn fs hu
     split at h
     .rename_i hle
      have hle:=Zi hle
      replace h:=ob h;obtain ⟨ps,h3,h⟩:=h
      simp at h;subst h
      obtain ⟨ws,e2,r2⟩:=Kw hs he h3
      have gA:Qv s.H ⟨m.z,off,none⟩ i.size=some ((k.cells.drop off).take i.size):=by
       unfold Qv;simp only [hk,Q1]
       have:Nat.ble (off+i.size) k.cells.length=true:=Nat.ble_eq_true_of_le (by omega)
       rw [this]
      refine ⟨.agg ((k.cells.drop off).take i.size).toArray::ws,?_,⟨_,rfl,Qx.take _ (Qx.drop _ cx)⟩,r2⟩
      simp only [iO,e1,Q1,h2,hu,gA,e2]
     .simp at h
    .rename_i d vK oE hu
     replace h:=ob h;obtain ⟨u,h5,h⟩:=h
     replace h:=ob h;obtain ⟨ps,h3,h⟩:=h
     simp at h;subst h
     obtain ⟨ws,e2,r2⟩:=Kw hs he h3
     obtain ⟨w,g1,g2⟩:=Qx.get _ cx h5
     have gA:gQ s.H ⟨m.z,off,none⟩=some w:=by
      unfold gQ;simp only [hk,Q1];exact g1
     refine ⟨w::ws,?_,ER.fq g2,r2⟩
     simp only [iO,e1,Q1,h2]
     rw [hu]
     cases d<;>first | exact absurd rfl (vK _) | exact absurd rfl (oE _ _) | (simp only [gA,e2])
    .simp at h
   .simp at h
  .simp at h
theorem Qj5 {s:S}:∀ {ps:List PV} {ws:List Value} {i:Nat},Qx (ER s) ps ws->cI s (N1 i ps) (qW i ws)
 | [],[],i,_=>fun q=>by simp [N1,dF,qW,cS]
 | p::ps,w::ws,i,h=>(Qj5 h.2).cons h.1
theorem Qcm {s:S}:∀ {ps:List PV} {ws:List Value},Qx (ER s) ps ws->ps.all N0=true->Qx (AR s) ps ws
 | [],[],_,_=>trivial
 | p::ps,w::ws,h,g=>by
  simp only [List.all_cons,Z8] at g
  refine ⟨?_,Qcm h.2 g.2⟩
  cases p with
  | kU cs=>simp [N0] at g
  | _=>exact h.1
theorem Qug {s:S} {ps:List PV} {ws:List Value} (h:Qx (ER s) ps ws) (g:ps.all N0=true):ER s (It ps) (iP ws):=Qim (Qcm h g)
def PB (s:S):List (PM×Ty)->List Value->Nat->Prop
 | [],[],_=>True
 | (m,_)::ps,w::ws,i=>match m with
  | .ro=>PB s ps ws i
  | .cl _=>PB s ps ws i
  | .mv=>PB s ps ws (i+1)
  | .io=>(i < s.L.bl.length/\match s.μ i with
    | none=>w=.slice none 0 0
    | some m=>w=.slice (some ⟨m.z,m.sh,none⟩) m.n m.es)/\PB s ps ws (i+1)
  | .ps=>(i < s.L.bl.length/\∃ m,s.μ i=some m/\m.sh=0/\w=.pointer (some ⟨m.z,0,none⟩))/\PB s ps ws (i+1)
 | _,_,_=>False
theorem PB.keep {s s':S} (hk:aj s s'):∀ {ps:List (PM×Ty)} {ws:List Value} {i:Nat},PB s ps ws i->PB s' ps ws i
 | [],[],_,_=>trivial
 | (m,t)::ps,w::ws,i,h=>by
  cases m with
  | ro=>exact PB.keep (ps:=ps) hk h
  | cl g=>exact PB.keep (ps:=ps) hk h
  | mv=>exact PB.keep (ps:=ps) hk h
  | io=>obtain ⟨⟨h1,h2⟩,h3⟩:=h;exact ⟨⟨Zm h1 hk.nb,by rw [hk.mu i h1];exact h2⟩,h3.keep hk⟩
  | ps=>obtain ⟨⟨h1,h2⟩,h3⟩:=h;exact ⟨⟨Zm h1 hk.nb,by rw [hk.mu i h1];exact h2⟩,h3.keep hk⟩
def nA:List (PM×Ty)->List (List Nat)->List (List Nat)
 | (.ps,_)::ps,ids::r=>ids.drop 1::nA ps r
 | _::ps,_::r=>nA ps r
 | _,_=>[]
theorem IN:∀ {ps:List (PM×Ty)} {an:List (List Nat)} {z:Nat},z∈(nA ps an).flatten->z∈an.flatten
 | [],_,z,h=>by simp [nA] at h
 | _::_,[],z,h=>by simp [nA] at h
 | (m,t)::ps,ids::an,z,h=>by
  rw [Ze,Zh]
  cases m with
  | ps =>
   simp only [nA,Ze,Zh] at h
   exact h.imp (fun h=>List.mem_of_mem_drop h) (fun h=>IN h)
  | _=>exact .inr (IN (ps:=ps) h)
theorem YA:∀ {ps:List (PM×Ty)} {an:List (List Nat)},an.flatten.Nodup->(nA ps an).flatten.Nodup
 | [],_,_=>by simp [nA]
 | (m,t)::ps,[],_=>by cases m<;>simp [nA]
 | (m,t)::ps,ids::an,h=>by
  rw [Ze,Zn] at h
  obtain ⟨h1,h2,h3⟩:=h
  cases m with
  | ps =>
   simp only [nA,Ze]
   rw [Zn]
   exact ⟨List.Pairwise.drop h1,YA h2,fun a ha b hb e=>h3 a (List.mem_of_mem_drop ha) b (IN hb) e⟩
  | _=>exact YA (ps:=ps) h2
theorem Qe4:∀ {ps:List (PM×Ty)} {vs:List TV} {ws:List Value} {an:List (List Nat)} {s:S} {i:Nat} {env:bA} {L':LS},s.L.ct=0->aD s->cV s.N s.H s.ai (ps.map fun p=>p.1.kd) vs ws an->(∀ z∈an.flatten,s.aF z)->an.flatten.Nodup->AX ps vs i s.L=some (env,L') ->
  ∃ s',s'.L=L'/\s'.H=s.H/\aj s s'/\aD s'/\cI s' env (qW i ws)/\PB s' ps ws s.L.bl.length/\(∀ z,s.aF z->z∉an.flatten\/z∈(nA ps an).flatten->s'.aF z)/\vE s' s.ai (Dj ps vs s.L.bl.length) (nA ps an)
 | [],[],[],[],s,i,env,L',_,hs,_,_,_,h=>by
  simp [AX] at h;obtain ⟨rfl,rfl⟩:=h
  exact ⟨s,rfl,rfl,aj.refl s,hs,fun q=>by simp [dF,qW,cS],trivial,fun _ h _=>h,trivial⟩
 | (m,t)::ps,v::vs,w::ws,ids::an,s,i,env,L',mR,hs,hh,hl,hn,h=>by
  obtain ⟨sZ,vz⟩:=hh
  rw [Ze,Zn] at hn
  obtain ⟨gr,gd,td⟩:=hn
  have fP:∀ z∈an.flatten,s.aF z:=fun z hz=>hl z (by rw [Ze,Zh];exact .inr hz)
  have next:∀ (s1:S) (pv:PV),aj s s1->aD s1->s1.H=s.H->s1.L.ct=0->(∀ z,s.N z->s1.N z)->(∀ z∈an.flatten,s1.aF z)->ER s1 pv w->(Q1 (AX ps vs (i+1) s1.L) fun r=>some ((i,pv)::r.1,r.2))=some (env,L') ->
    ∃ s',s'.L=L'/\s'.H=s.H/\aj s1 s'/\aD s'/\cI s' env (qW i (w::ws))/\PB s' ps ws s1.L.bl.length/\(∀ z,s1.aF z->z∉an.flatten\/z∈(nA ps an).flatten->s'.aF z)/\vE s' s.ai (Dj ps vs s1.L.bl.length) (nA ps an):=by
   clear h
   intro s1 pv k1 t1 g1 c1 n1 l1 ha h
   replace h:=ob h;obtain ⟨⟨ak,L3⟩,h2,h⟩:=h
   simp at h;obtain ⟨rfl,rfl⟩:=h
   have Ir:cV s1.N s1.H s1.ai (ps.map fun p=>p.1.kd) vs ws an:=by
    rw [k1.ai];exact vz.frame (fun z hz _=>⟨n1 z hz,by rw [g1]⟩) (fun z _=>by rw [g1])
   obtain ⟨s2,a1,a2,a3,a4,a5,a6,a7,a8⟩:=Qe4 c1 t1 Ir l1 gd h2
   exact ⟨s2,a1,a2.trans g1,a3,a4,a5.cons (a3.ER ha),a6,a7,by rw [k1.ai] at a8;exact a8⟩
  have own:∀ (u:Ty) (x:List u.T),u.iQ=false->v=⟨.sl u,x⟩->oT s.N s.H s.ai u x w ids->(Q1 (AX ps vs (i+1) (Qw s.L (.arr u x))) fun r=>some ((i,.a_ s.L.bl.length 0 none)::r.1,r.2))=some (env,L') ->
    ∃ s',s'.L=L'/\s'.H=s.H/\aj s s'/\aD s'/\cI s' env (qW i (w::ws))/\(PB s' ps ws (s.L.bl.length+1)/\(∀ z,s.aF z->z∉(ids::an).flatten\/z∈(nA ps an).flatten->s'.aF z)/\vE s' s.ai (Dj ps vs (s.L.bl.length+1)) (nA ps an))/\(s.L.bl.length < s'.L.bl.length/\match s'.μ s.L.bl.length with
     | none=>w=.slice none 0 0
     | some m=>w=.slice (some ⟨m.z,m.sh,none⟩) m.n m.es):=by
   clear h
   intro u x Ob hv ho h
   rcases ho with ⟨rfl,rfl,rfl⟩ | ⟨z,oo,k,ks,rfl,_,rfl,q1,q2,q3,q4,q5,q6⟩
   .obtain ⟨s1,e1,e2,e3,k1,t1,l1,n1⟩:=hs.oA u
    rw [<- e1] at h
    have hlen:s1.L.bl.length=s.L.bl.length+1:=by rw [e1,Qk]
    obtain ⟨s2,b1,b2,b3,b4,b5,b6,b7,b8⟩:=next s1 _ k1 t1 e2 (by rw [e1];exact mR) n1 (fun z hz=>by rw [l1];exact fP z hz) (ER.fq (p:=.a_ s.L.bl.length 0 none) ⟨by omega,by rw [e3];simp⟩) h
    rw [hlen] at b6 b8
    have au:s.L.bl.length < s1.L.bl.length:=by omega
    exact ⟨s2,b1,b2,k1.trans b3,b4,b5,⟨b6,fun z hz hm=>b7 z (by rw [l1];exact hz) (hm.imp (fun h=>by simpa using h) id),b8⟩,Zm au b3.nb,by rw [b3.mu _ au,e3]⟩
   .have hks:=q6.W5 Ob
    subst hks
    have hz:s.aF z:=hl z (by simp)
    obtain ⟨s1,e1,e2,e3,k1,t1,l1,o1⟩:=hs.AJ (.arr u x) ⟨z,oo,u.size,x.length⟩ hz (fun s' hk hm hH QI=>by
     unfold BR;simp only [hm]
     refine ⟨trivial,trivial,k,by rw [hH];exact q1,q4,fun i hi=>?_,fun _=>⟨q2,by rw [hk.ai];exact q3⟩,fun e=>absurd e (by decide)⟩
     have:=q5.2 i hi
     have oy:=j4 (k:=u.size) hi
     unfold cw at this;rw [List.drop_take,List.take_take,Nat.min_eq_left (by omega),List.drop_drop] at this
     rw [hH];exact ax.mono (fun z hz=>(QI z).2 hz) _ this)
    rw [<- e1] at h
    have hlen:s1.L.bl.length=s.L.bl.length+1:=by rw [e1,Qk]
    obtain ⟨s2,b1,b2,b3,b4,b5,b6,b7,b8⟩:=next s1 _ k1 t1 e2 (by rw [e1];exact mR) (fun z' aX=>⟨fun h=>aX.1 ((o1 z').1 h),by rw [k1.dj];exact aX.2⟩) (fun z' aX=>(l1 z').2 ⟨fP z' aX,fun e=>td z (by simp) z' aX e.symm⟩) (ER.fq (p:=.a_ s.L.bl.length 0 none) ⟨by omega,by rw [e3];simp⟩) h
    rw [hlen] at b6 b8
    have au:s.L.bl.length < s1.L.bl.length:=by omega
    exact ⟨s2,b1,b2,k1.trans b3,b4,b5,⟨b6,fun z' aX hm=>b7 z' ((l1 z').2 ⟨aX,fun e=>by subst e;rcases hm with hm | hm;exact hm (by simp);exact td _ (by simp) _ (IN hm) rfl⟩) (hm.imp (fun h=>by simp only [Ze,Zh,not_or] at h;exact h.2) id),b8⟩,Zm au b3.nb,by rw [b3.mu _ au,e3]⟩
  simp only [AX] at h
  cases m with
  | cl g =>
   obtain ⟨rfl,rfl⟩:=sZ
   obtain ⟨s2,b1,b2,b3,b4,b5,b6,b7,b8⟩:=next s (.fn g [] []) (aj.refl s) hs rfl mR (fun _ h=>h) fP ⟨[],[],rfl,trivial,trivial⟩ h
   exact ⟨s2,b1,b2,b3,b4,b5,b6,fun z hz hm=>b7 z hz (hm.imp (fun h=>by simpa using h) id),b8⟩
  | ro =>
   simp only at h
   obtain ⟨cs,hv,cZ⟩:=sZ
   obtain ⟨s2,b1,b2,b3,b4,b5,b6,b7,b8⟩:=next s _ (aj.refl s) hs rfl mR (fun _ h=>h) fP (ER.of (NI hv (ax.mono (fun z hz=>⟨hz,fun c h1 h2=>by omega⟩) _ cZ.rep))) h
   exact ⟨s2,b1,b2,b3,b4,b5,b6,fun z hz hm=>b7 z hz (hm.imp (fun h=>by simp only [Ze,Zh,not_or] at h;exact h.2) id),b8⟩
  | mv =>
   obtain ⟨u,x,rfl,ho⟩:=sZ
   simp only at h
   obtain ⟨s1,e1,e2,k1,t1,a1,n1,l1⟩:=Nf hs ho (fun z hz=>hl z (by rw [Ze,Zh];exact .inl hz))
   rw [<- e1] at h
   have hlen:s1.L.bl.length=s.L.bl.length+1:=by rw [e1,Qk]
   obtain ⟨s2,b1,b2,b3,b4,b5,b6,b7,b8⟩:=next s1 _ k1 t1 e2 (by rw [e1];exact mR) n1 (fun z hz=>l1 z (fP z hz) (fun hm=>td z hm z hz rfl)) (ER.fq a1) h
   rw [hlen] at b6 b8
   exact ⟨s2,b1,b2,k1.trans b3,b4,b5,b6,fun z hz hm=>b7 z (l1 z hz (fun hi=>by rcases hm with hm | hm;exact hm (by simp [hi]);exact td _ hi _ (IN (ps:=ps) hm) rfl)) (hm.imp (fun h=>by simp only [Ze,Zh,not_or] at h;exact h.2) id),b8⟩
  | io =>
   obtain ⟨u,x,rfl,ho⟩:=sZ
   simp only at h
   split at h
   .simp at h
   rename_i Ob
   obtain ⟨s',a1,a2,a3,a4,a5,a6,a7⟩:=own u x Ob rfl ho h
   exact ⟨s',a1,a2,a3,a4,a5,⟨a7,a6.1⟩,fun z hz hm=>a6.2.1 z hz hm,a6.2.2⟩
  | ps =>
   obtain ⟨z,k,j,rfl,rfl,q1,q2,q3,q4⟩:=sZ
   simp only at h
   have hz:s.aF z:=hl z (by simp)
   obtain ⟨hzj,hnj⟩:=List.nodup_cons.1 gr
   obtain ⟨s1,e1,e2,e3,k1,t1,l1,o1⟩:=hs.AJ (.cells (gx 0 v.1 v.2)) ⟨z,0,0,0⟩ hz (fun s' hk hm hH QI=>by
    unfold BR;simp only
    refine ⟨trivial,_,k,hm,rfl,by rw [hH];exact q1,AK _ ?_,q2,by rw [hk.ai];exact q3⟩
    exact ax.frame (H:=s.H) (fun z hz au=>⟨hk.NN (st:=0) au ⟨hz,fun c h1 h2=>by omega⟩,by rw [hH]⟩) _ q4.rep)
   rw [<- e1] at h
   have hlen:s1.L.bl.length=s.L.bl.length+1:=by rw [e1,Qk]
   have au:s.L.bl.length < s1.L.bl.length:=by omega
   have hN1:∀ z,s.N z->s1.N z:=fun z' aX=>⟨fun h=>aX.1 ((o1 z').1 h),by rw [k1.dj];exact aX.2⟩
   obtain ⟨s2,b1,b2,b3,b4,b5,b6,b7,b8⟩:=next s1 _ k1 t1 e2 (by rw [e1];exact mR) hN1 (fun z' aX=>(l1 z').2 ⟨fP z' aX,fun e=>td z (by simp) z' aX e.symm⟩) (ER.fq (p:=.ptr s.L.bl.length 0) ⟨by omega,_,e3,rfl,rfl⟩) h
   rw [hlen] at b6 b8
   refine ⟨s2,b1,b2,k1.trans b3,b4,b5,⟨⟨Zm au b3.nb,_,by rw [b3.mu _ au];exact e3,rfl,rfl⟩,b6⟩,fun z' aX hm=>?_,⟨Zm au b3.nb,⟨⟨z,0,0,0⟩,k,by rw [b3.mu _ au];exact e3,rfl,by rw [b2];exact q1,q2,q3,dz.frame (N:=s.N) (H:=s.H) (G:=s2.H) (M:=s2.N) (fun y hy hy'=>⟨b3.N (by rw [e2];exact hy') (hN1 y hy),by rw [b2]⟩) v.1 q4 (fun y (_:y∈j)=>by rw [b2])⟩,fun y hy=>?_⟩,b8⟩
   .have aV:z'≠z:=by
     rintro rfl
     rcases hm with hm | hm
     .exact hm (by simp)
     .simp only [nA,List.drop_succ_cons,List.drop_zero,Ze,Zh] at hm
      rcases hm with hm | hm
      .exact hzj hm
      .exact td _ (by simp) _ (IN hm) rfl
    refine b7 z' ((l1 z').2 ⟨aX,aV⟩) ?_
    rcases hm with hm | hm
    .simp only [Ze,Zh,not_or] at hm;exact .inl hm.2
    .simp only [nA,List.drop_succ_cons,List.drop_zero,Ze,Zh] at hm
     rcases hm with hm | hm
     .exact .inl (fun h=>td z' (by simp [hm]) z' h rfl)
     .exact .inr hm
   .have hyl:s.aF y:=hl y (by rw [Ze];exact List.mem_append.2 (.inl (List.mem_cons_of_mem _ (by simpa using hy))))
    refine b7 y ((l1 y).2 ⟨hyl,fun e=>hzj (by subst e;simpa using hy)⟩) (.inl (fun h=>td y (List.mem_cons_of_mem _ (by simpa using hy)) y h rfl))
theorem YB:∀ {rs:List (Bool×Ty)} {ps:List PV} {ws:List Value} {s:S} {vs:List TV} {L':LS},aD s->Qx (ER s) ps ws->Fm rs ps s.L=some (vs,L') ->
  ∃ s1 an,s1.L=L'/\s1.H=s.H/\s1.μ=s.μ/\aj s s1/\aD s1/\(∀ z,s.aF z->s1.aF z)/\cV s1.N s1.H s.ai (rs.map fun q=>AF q.1) vs ws an/\(∀ z∈an.flatten,s1.aF z)/\an.flatten.Nodup/\(∀ z∈an.flatten,¬ s.aF z)/\vs.length=rs.length
 | [],[],[],s,vs,L',hs,he,h=>by
  simp [Fm] at h;obtain ⟨rfl,rfl⟩:=h
  exact ⟨s,[],rfl,rfl,rfl,aj.refl s,hs,fun _ h=>h,trivial,by simp,by simp,by simp,rfl⟩
 | (o,t)::rs,p::ps,w::ws,s,vs,L',hs,he,h=>by
  obtain ⟨r1,he⟩:=he
  simp only [Fm] at h
  replace h:=ob h;obtain ⟨⟨x,L2⟩,h2,h⟩:=h
  replace h:=ob h;obtain ⟨⟨cB,L3⟩,h3,h⟩:=h
  simp at h;obtain ⟨rfl,rfl⟩:=h
  simp only at h3
  cases o with
  | true =>
   obtain ⟨hx,s1,ids,l1,g1,u1,k1,t1,hh,hl,oU,hnd,ho⟩:=QH hs r1 h2
   rw [<- l1] at h3
   obtain ⟨s2,an,a1,a2,a3,a4,a5,a6,a7,a8,a9,Kx,Rw⟩:=YB t1 (Qx.mono (fun _ _=>k1.ER) he) h3
   have aI:s1.ai=s.ai:=k1.ai
   refine ⟨s2,ids::an,a1,a2.trans g1,a3.trans u1,k1.trans a4,a5,fun z hz=>a6 z ((hl z).2 (.inl hz)),⟨hh.frame (fun z hz au=>⟨a4.N au hz,by rw [a2]⟩) (fun z _=>by rw [a2]),by rw [<- aI];exact a7⟩,?_,?_,?_,by simp [Rw]⟩
   .intro z hz
    rw [Ze,Zh] at hz
    rcases hz with hz | hz
    .exact a6 z ((hl z).2 (.inr hz))
    .exact a8 z hz
   .rw [Ze,Zn]
    exact ⟨hnd,a9,fun a ha b hb e=>by subst e;exact Kx a hb ((hl a).2 (.inr ha))⟩
   .intro z hz
    rw [Ze,Zh] at hz
    rcases hz with hz | hz
    .exact oU z hz
    .exact fun h=>Kx z hz ((hl z).2 (.inl h))
  | false =>
   simp only [vC] at h2
   split at h2
   .rename_i dh
    simp only [Z8] at dh
    replace h2:=ob h2;obtain ⟨⟨y,L4⟩,h4,h2⟩:=h2
    simp at h2;obtain ⟨rfl,rfl⟩:=h2
    obtain ⟨s1,ids,l1,g1,u1,k1,t1,nr,hl,oU,hnd,o1⟩:=Ik t hs (r1.cells dh.1) h4
    rw [<- l1] at h3
    obtain ⟨s2,an,a1,a2,a3,a4,a5,a6,a7,a8,a9,Kx,Rw⟩:=YB t1 (Qx.mono (fun _ _=>k1.ER) he) h3
    have aI:s1.ai=s.ai:=k1.ai
    refine ⟨s2,ids::an,a1,a2.trans g1,a3.trans u1,k1.trans a4,a5,fun z hz=>a6 z ((hl z).2 (.inl hz)),⟨⟨_,W8 r1 dh.1 dh.2,dz.frame (fun z hz au=>⟨a4.N au hz,by rw [a2]⟩) t nr (fun z _=>by rw [a2])⟩,by rw [<- aI];exact a7⟩,?_,?_,?_,by simp [Rw]⟩
    .intro z hz
     rw [Ze,Zh] at hz
     rcases hz with hz | hz
     .exact a6 z ((hl z).2 (.inr hz))
     .exact a8 z hz
    .rw [Ze,Zn]
     exact ⟨hnd,a9,fun a ha b hb e=>by subst e;exact Kx a hb ((hl a).2 (.inr ha))⟩
    .intro z hz
     rw [Ze,Zh] at hz
     rcases hz with hz | hz
     .exact oU z hz
     .exact fun h=>Kx z hz ((hl z).2 (.inl h))
   .simp at h2
 | [],_::_,_,_,_,_,_,_,h=>by simp [Fm] at h
 | _::_,[],_,_,_,_,_,_,h=>by simp [Fm] at h
theorem IP:∀ {ps:List (PM×Ty)} {i j:Nat},j∈iG ps i->i<=j
 | [],i,j,h=>by simp [iG] at h
 | (m,t)::ps,i,j,h=>by
  cases m with
  | ro=>exact IP (ps:=ps) h
  | cl g=>exact IP (ps:=ps) h
  | mv=>have:=IP (ps:=ps) (i:=i+1) h;omega
  | io=>simp only [iG,List.mem_cons] at h;rcases h with rfl | h;exact Zd _;have:=IP h;omega
  | ps=>simp only [iG,List.mem_cons] at h;rcases h with rfl | h;exact Zd _;have:=IP h;omega
theorem Ky:∀ {ps:List (PM×Ty)} {ws:List Value} {s:S} {i:Nat} {vs:List TV} {L':LS},aD s->PB s ps ws i->BL ps i s.L=some (vs,L') ->
  ∃ s1 aO,s1.L=L'/\s1.H=s.H/\s1.μ=s.μ/\aj s s1/\aD s1/\(∀ z,s.aF z->s1.aF z)/\cV s1.N s1.H s.ai (sY ps) vs (AH ps ws) aO /\
   (∀ z∈aO.flatten,(s1.aF z/\¬ s.aF z)\/∃ j∈iG ps i,∃ m,s1.μ j=some m/\m.z=z) /\
   ((∀ j∈iG ps i,∃ B,Qi s1.L j=some B/\B.rw=true)->aO.flatten.Nodup)
 | [],[],s,i,vs,L',hs,_,h=>by
  simp [BL] at h;obtain ⟨rfl,rfl⟩:=h
  exact ⟨s,[],rfl,rfl,rfl,aj.refl s,hs,fun _ h=>h,trivial,by simp,by simp⟩
 | (m,t)::ps,w::ws,s,i,vs,L',hs,hp,h=>by
  simp only [BL] at h
  cases m with
  | ro=>exact Ky (ps:=ps) hs hp h
  | cl g=>exact Ky (ps:=ps) hs hp h
  | mv=>exact Ky (ps:=ps) hs hp h
  | io =>
   obtain ⟨⟨hi,hm⟩,Az⟩:=hp
   simp only at h
   split at h
   .rename_i u
    replace h:=ob h;obtain ⟨x,h1,h⟩:=h
    replace h:=ob h;obtain ⟨⟨cB,L3⟩,h2,h⟩:=h
    simp at h;obtain ⟨rfl,rfl⟩:=h
    obtain ⟨s1,aO,a1,a2,a3,a4,a5,a6,a7,a8,a9⟩:=Ky hs Az h2
    unfold J4 at h1
    split at h1
    .rename_i aB u' xs hb
     split at h1
     .simp at h1
     rename_i Ob
     have eE:∀ t,u'≠.os t:=fun t e=>by subst e;simp [Ty.iQ] at Ob
     replace h1:=ob h1;obtain ⟨y,h4,h1⟩:=h1
     simp at h1;subst h1
     have e0:=Qr h4
     injection e0 with e0;subst e0
     have:=Qg h4;subst this
     cases aE:s.μ i with
     | none =>
      rw [aE] at hm;subst hm
      refine ⟨s1,[]::aO,a1,a2,a3,a4,a5,a6,⟨⟨u',xs,rfl,.inl ⟨rfl,E2 hs hb aE,rfl⟩⟩,a7⟩,fun z hz=>?_,fun hl=>?_⟩
      .rw [Ze,List.nil_append] at hz
       rcases a8 z hz with h | ⟨j,j1,j2⟩
       .exact .inl h
       .exact .inr ⟨j,by simp [iG,j1],j2⟩
      .rw [Ze,List.nil_append];exact a9 (fun j hj=>hl j (by simp [iG,hj]))
     | some m =>
      rw [aE] at hm;subst hm
      obtain ⟨b1,b2,k,b3,b4,b5,b6,b7⟩:=mS hs hb aE
      have oy:s1.μ i=some m:=by rw [a3];exact aE
      refine ⟨s1,[m.z]::aO,a1,a2,a3,a4,a5,a6,⟨⟨u',xs,rfl,.inr ⟨m.z,m.sh,k,[],rfl,by simp,by rw [b1,b2],by rw [a2];exact b3,(b6 rfl).1,(b6 rfl).2,AE hs hb aE b3,(RL.oD b4 b5).frame (fun z hz au=>⟨a4.N au hz,by rw [a2]⟩),gS.AG eE⟩⟩,a7⟩,fun z hz=>?_,fun hl=>?_⟩
      .rw [Ze,Zh] at hz
       rcases hz with hz | hz
       .simp at hz;exact .inr ⟨i,by simp [iG],m,oy,hz.symm⟩
       .rcases a8 z hz with h | ⟨j,j1,j2⟩
        .exact .inl h
        .exact .inr ⟨j,by simp [iG,j1],j2⟩
      .rw [Ze,Zn]
       refine ⟨by simp,a9 (fun j hj=>hl j (by simp [iG,hj])),fun p hp q hq e=>?_⟩
       simp at hp;subst hp;subst e
       obtain ⟨B,c1,c2⟩:=hl i (by simp [iG])
       rcases a8 _ hq with ⟨h,_⟩ | ⟨j,j1,m',j2,j3⟩
       .exact a5.lm i B m c1 oy h
       .obtain ⟨B',d1,d2⟩:=hl j (by simp [iG,j1])
        have:=a5.inj i j B B' m m' c1 d1 c2 oy j2 j3.symm
        have:=IP j1;omega
    .simp at h1
   .simp at h
  | ps =>
   obtain ⟨⟨hi,m,hm,dH,rfl⟩,Az⟩:=hp
   simp only at h
   replace h:=ob h;obtain ⟨⟨x,L2⟩,h1,h⟩:=h
   replace h:=ob h;obtain ⟨⟨cB,L3⟩,h2,h⟩:=h
   simp at h;obtain ⟨rfl,rfl⟩:=h
   unfold J5 at h1
   split at h1
   .rename_i aB cs hb
    replace h1:=ob h1;obtain ⟨⟨y,L4⟩,h4,h1⟩:=h1
    simp at h1;obtain ⟨rfl,rfl⟩:=h1
    have hB:=hs.aH i _ hb
    unfold BR at hB;simp only at hB
    obtain ⟨_,m',k,aE,_,hk,cx,bh,kB⟩:=hB
    rw [hm] at aE;injection aE with aE;subst aE
    obtain ⟨s1,j,l1,g1,u1,k1,t1,nr,nv,Ni,C6,o1⟩:=Ik t hs cx h4
    simp only at h2
    rw [<- l1] at h2
    obtain ⟨s2,aO,a1,a2,a3,a4,a5,a6,a7,a8,a9⟩:=Ky t1 (Az.keep k1) h2
    have aI:s1.ai=s.ai:=k1.ai
    have oy:s2.μ i=some m:=by rw [a3,u1];exact hm
    have vf:∀ z∈j,s2.aF z:=fun z hz=>a6 z ((nv z).2 (.inr hz))
    refine ⟨s2,(m.z::j)::aO,a1,a2.trans g1,a3.trans u1,k1.trans a4,a5,fun z hz=>a6 z ((nv z).2 (.inl hz)),⟨⟨m.z,k,j,rfl,rfl,by rw [a2,g1];exact hk,bh,kB,dz.frame (fun z hz au=>⟨a4.N au hz,by rw [a2]⟩) t nr (fun z _=>by rw [a2])⟩,by rw [<- aI];exact a7⟩,fun z hz=>?_,fun hl=>?_⟩
    .rw [Ze,Zh] at hz
     rcases hz with hz | hz
     .rcases Z2 hz with rfl | hz
      .exact .inr ⟨i,by simp [iG],m,oy,rfl⟩
      .exact .inl ⟨vf z hz,Ni z hz⟩
     .rcases a8 z hz with ⟨h,h'⟩ | ⟨j,j1,j2⟩
      .exact .inl ⟨h,fun h0=>h' ((nv z).2 (.inl h0))⟩
      .exact .inr ⟨j,by simp [iG,j1],j2⟩
    .obtain ⟨B,c1,c2⟩:=hl i (by simp [iG])
     rw [Ze,Zn]
     refine ⟨List.nodup_cons.2 ⟨fun h=>a5.lm i B m c1 oy (vf _ h),C6⟩,a9 (fun j hj=>hl j (by simp [iG,hj])),fun p hp q hq e=>?_⟩
     subst e
     rcases Z2 hp with rfl | hp
     .rcases a8 _ hq with ⟨h,_⟩ | ⟨j,j1,m',j2,j3⟩
      .exact a5.lm i B m c1 oy h
      .obtain ⟨B',d1,d2⟩:=hl j (by simp [iG,j1])
       have:=a5.inj i j B B' m m' c1 d1 c2 oy j2 j3.symm
       have:=IP j1;omega
     .rcases a8 _ hq with ⟨_,h⟩ | ⟨j,j1,m',j2,rfl⟩
      .exact h ((nv _).2 (.inr hp))
      .obtain ⟨B',d1,d2⟩:=hl j (by simp [iG,j1])
       exact a5.lm j B' m' d1 j2 (vf _ hp)
   .simp at h1
structure oF (P:Program) (A:cM) (l:II A) (bX:FuncId->List Value->Nat->af->Option (Value×af)):Prop where
 call:∀ ai f,A.inline f=false->wX (A.sig f) (l.call f) (bX f) ai
 inl:∀ ai (β:Type) f,A.inline f=true->∀ {γ:Type} {args:List PV} {ws:List Value} {s:S} {KV:PV->LS->Option β} {KE:Value->af->Option γ} {r:β} {Q:γ->Prop},aD s->s.ai=ai->Qx (ER s) args ws->eJ s r KV KE Q->l.inl β f args s.L KV=some r ->
  ∃ y,(Q1 (bX f ws ai s.H) fun q=>KE q.1 q.2)=some y/\Q y
theorem oF.x {P:Program} {A:cM} {l:II A} {bX:FuncId->List Value->Nat->af->Option (Value×af)} (h:oF P A l bX) (β:Type) (ai nt:Nat) (f:FuncId):C_ (β:=β) ⟨P,l.call,l.inl β,nt,A.own f,A.loops f,A.jP f⟩ ⟨P,bX,ai,nt,A.fuel,A.jP f⟩ :=
 ⟨rfl,rfl,rfl,rfl,fun g hg=>h.call ai g hg,fun g hg=>h.inl ai β g hg⟩
theorem cV.len {N:Nat->Prop} {H:af} {ai:Nat}:∀ {ks:List Kd} {vs:List TV} {ws:List Value} {is:List (List Nat)},cV N H ai ks vs ws is->ks.length=ws.length/\∀ z∈is.flatten,z < H.length
 | [],[],[],[],_=>⟨rfl,by simp⟩
 | _::_,_::_,_::_,_::_,h=>by
  obtain ⟨a,b⟩:=cV.len h.2
  refine ⟨by simp [a],fun z hz=>?_⟩
  rw [Ze,Zh] at hz
  rcases hz with hz | hz
  .exact h.1.lt z hz
  .exact b z hz
theorem Qxx {P:Program} {A:cM} {l:II A} {bX:FuncId->List Value->Nat->af->Option (Value×af)} (hl:oF P A l bX) (ai:Nat) (f:FuncId):wX (A.sig f) (Dk P A l f) (EP P A.ev bX f) ai:=by
 intro a r h H eY ws an Ds tu hnd AZ hh
 obtain ⟨hlen,Oc⟩:=hh.len
 unfold Dk at h
 unfold EP
 split at h
 .simp at h
 .rename_i fn hfn
  rw [hfn]
  simp only
  split at h
  .rename_i c hb YC A0
   have YD:Nat.ble ws.length fn.ntmps=true:=by rw [<- hlen];simpa using YC
   rw [hb,YD,A0]
   simp only
   replace h:=ob h;obtain ⟨⟨env,L0⟩,h1,h⟩:=h
   replace h:=ob h;obtain ⟨L1,YE,h⟩:=h
   simp only at YE h
   let sE:S:={ μ:=fun _=>none,L:=⟨[],0⟩,H:=H,eY:=eY,Old:=fun _ _=>False,aF:=fun z=>z∈an.flatten,ai:=ai,br:=fun _=>none }
   have Rx:∀ b B,Qi sE.L b=some B->False:=fun b B hB=>by have:=Qn hB;simp [sE] at this
   have tv:∀ z,bM sE z↔z∈an.flatten:=by
    intro z;constructor
    .rintro (⟨b,B,m,h1,_⟩ | h | ⟨p,hp⟩)
     .exact (Rx b B h1).elim
     .exact h
     .simp [sE] at hp
    .exact fun h=>.inr (.inl h)
   have tE:aD sE:=⟨fun b B hB=>(Rx b B hB).elim,fun b _ B _ _ _ hB=>(Rx b B hB).elim,fun z hz=>⟨Ds z hz,fun ho=>AZ z ((tv z).1 ho) hz⟩,tu,fun b B _ hB=>(Rx b B hB).elim,fun z hz=>Oc z hz,fun z p hp=>by simp [sE] at hp,fun z p hp=>by simp [sE] at hp⟩
   have hhE:cV sE.N sE.H sE.ai ((A.sig f).params.map fun p=>p.1.kd) (fu (A.sig f).eL a) ws an:=hh.frame (fun z hz _=>⟨⟨fun ho=>hz.1 ((tv z).1 ho),hz.2⟩,rfl⟩) (fun _ _=>rfl)
   obtain ⟨sF,lF,gF,kF,tF,heF,pbF,liF,cbF⟩:=Qe4 (s:=sE) rfl tE hhE (fun z hz=>hz) hnd h1
   rw [<- lF] at YE
   obtain ⟨s0,l0,g0',YF,t0,_,_⟩:=Xc tF (by rw [kF.ai];exact cbF) (fun z hz=>liF z (IN hz) (.inr hz)) (YA hnd) YE
   rw [<- l0] at h
   have g0:s0.H=sE.H:=g0'.trans gF
   have k0:aj sE s0:=kF.trans YF
   have he0:=YF.env heF
   have pb0:PB s0 (A.sig f).params ws 0:=pbF.keep YF
   have WB:s0.H=H:=g0
   obtain ⟨QF,hQF⟩:∃ QF:Value×af->Prop,QF=fun q=>∃ ru bt aO,q.1=iP ru/\H.length<=q.2.length/\(∀ z,z < H.length->z∉an.flatten->ah q.2 z=ah H z) /\
     (bt.flatten++aO.flatten).Nodup/\(∀ z∈bt.flatten++aO.flatten,z∈an.flatten\/H.length<=z)/\(∀ z∈bt.flatten++aO.flatten,¬ eY z) /\
     cV (fun z=>z∉bt.flatten++aO.flatten/\¬ eY z) q.2 ai ((A.sig f).results.map fun q=>AF q.1) ((fu (A.sig f).cX r).take (A.sig f).results.length) ru bt /\
     cV (fun z=>z∉bt.flatten++aO.flatten/\¬ eY z) q.2 ai (sY (A.sig f).params) ((fu (A.sig f).cX r).drop (A.sig f).results.length) (AH (A.sig f).params ws) aO:=⟨_,rfl⟩
   have:=Fq (γ:=Value×af) (Q:=QF)
    (hl.x _ ai fn.ntmps f) c 0 s0 env (qW 0 ws) _
    (fun ex env H'=>match ex with
     | .exit _=>none
     | _=>Q1 (iO P env H' fn.results.toList) fun vs=>Q1 (vo .keep H.length vs H') fun r=>some (iP r.1,r.2)) k0.ai t0 he0
    (fun ex ak e' s1 k1 t1 YG _ h=>by
     have key:(Q1 (wK P ak s1.L fn.results.toList) fun vs=>Q1 (Fm (A.sig f).results vs s1.L) fun r_1=>Q1 (BL (A.sig f).params 0 r_1.2) fun q=>match NF q.2 (iG (A.sig f).params 0) with
       | true=>nj (A.sig f).cX (r_1.1++q.1)
       | false=>none)=some r->∃ y,(Q1 (iO P e' s1.H fn.results.toList) fun vs=>Q1 (vo .keep H.length vs s1.H) fun r=>some (iP r.1,r.2))=some y/\QF y:=by
      intro h
      replace h:=ob h;obtain ⟨BF,h2,h⟩:=h
      replace h:=ob h;obtain ⟨⟨rv,L2⟩,h3,h⟩:=h
      replace h:=ob h;obtain ⟨⟨ov,L3⟩,h4,h⟩:=h
      simp only at h4 h
      split at h
      .rename_i De
       obtain ⟨ru,e2,r2⟩:=Kw t1 YG h2
       rw [e2]
       simp only [Q1,vo]
       obtain ⟨s2,bt,a1,a2,a3,a4,a5,a6,a7,a8,a9,Kx,Rw⟩:=YB t1 r2 h3
       rw [<- a1] at h4
       have pb2:PB s2 (A.sig f).params ws 0:=pb0.keep (k1.trans a4)
       obtain ⟨s3,aO,b1,b2,b3,b4,b5,b6,b7,b8,b9⟩:=Ky a5 pb2 h4
       rw [<- b1] at De
       have cP:=Rt De
       have hk:aj sE s3:=((k0.trans k1).trans a4).trans b4
       have hH:s3.H=s1.H:=b2.trans a2
       have tj:s1.ai=ai:=(k0.trans k1).ai
       have kW:s2.ai=ai:=a4.ai.trans tj
       have Fs:∀ z∈bt.flatten,s3.aF z:=fun z hz=>b6 z (a8 z hz)
       have Ka:=Nc _ h
       have IQ:∀ z∈bt.flatten++aO.flatten,bM s3 z:=by
        intro z hz
        rcases List.mem_append.1 hz with hz | hz
        .exact .inr (.inl (Fs z hz))
        .rcases b8 z hz with ⟨h,_⟩ | ⟨j,j1,m,j2,j3⟩
         .exact .inr (.inl h)
         .obtain ⟨B,q1,q2⟩:=cP j j1
          exact .inl ⟨j,B,m,q1,q2,j2,j3⟩
       have hN:∀ z,s3.N z->z∉bt.flatten++aO.flatten/\¬ eY z:=fun z hz =>
        ⟨fun hm=>hz.1 (IQ z hm),fun hb=>hz.2 (by rw [hk.dj];exact hb)⟩
       refine ⟨_,rfl,?_⟩
       rw [hQF]
       refine ⟨ru,bt,aO,rfl,?_,?_,?_,?_,?_,?_,?_⟩
       .rw [<- hH];exact hk.len
       .intro z hz XL;rw [<- hH];exact hk.fr z hz (fun ho=>XL ((tv z).1 ho))
       .rw [Zn]
        refine ⟨a9,b9 cP,fun x hx y hy e=>?_⟩
        subst e
        rcases b8 _ hy with ⟨_,h⟩ | ⟨j,j1,m,j2,rfl⟩
        .exact h (a8 _ hx)
        .obtain ⟨B,q1,q2⟩:=cP j j1
         exact b5.lm j B m q1 j2 (Fs _ hx)
       .intro z hz
        rcases hk.own z (IQ z hz) with h | h
        .exact .inl ((tv z).1 h)
        .exact .inr h
       .intro z hz hb
        have:s3.eY z:=by rw [hk.dj];exact hb
        exact (b5.dj z this).2 (IQ z hz)
       .rw [Ka,List.take_append_of_le_length (by omega),Zs (by omega)]
        rw [tj] at a7
        exact a7.frame (fun z hz au=>⟨hN z (b4.N au hz),by rw [a2]⟩) (fun z _=>by rw [a2])
       .rw [Ka,List.drop_append_of_le_length (by omega),List.drop_of_length_le (by omega),List.nil_append]
        rw [kW] at b7
        exact b7.frame (fun z hz au=>⟨hN z hz,by rw [hH]⟩) (fun z _=>by rw [hH])
      .simp at h
     cases ex with
     | exit id=>simp at h
     | normal=>exact key h
     | ret=>exact key h) h
   obtain ⟨⟨v,H'⟩,y1,yQ⟩:=this
   rw [hQF] at yQ
   obtain ⟨ru,bt,aO,y2,y3⟩:=yQ
   rw [WB] at y1
   exact ⟨v,H',ru,bt,aO,y1,y2,y3⟩
  .simp at h
theorem Qxy {P:Program} {A:cM} {l:II A} {bX:FuncId->List Value->Nat->af->Option (Value×af)} (hl:oF P A l bX) (ai:Nat) (β:Type) (f:FuncId) {γ:Type} {args:List PV} {ws:List Value} {s:S} {KV:PV->LS->Option β} {KE:Value->af->Option γ} {r:β} {Q:γ->Prop} (hs:aD s) (aI:s.ai=ai) (hr:Qx (ER s) args ws) (hK:eJ s r KV KE Q)
  (h:IJ P A l β f args s.L KV=some r):∃ y,(Q1 (EP P A.ev bX f ws ai s.H) fun q=>KE q.1 q.2)=some y/\Q y:=by
 have hlen:=Qx.length hr
 unfold IJ at h
 unfold EP
 split at h
 .simp at h
 .rename_i fn hfn
  rw [hfn]
  simp only
  split at h
  .rename_i c hb YC A0
   rw [hb,<- hlen,YC,A0]
   simp only
   have:=Fq (γ:=Value×af) (Q:=fun q=>∃ y,KE q.1 q.2=some y/\Q y) (hl.x β ai fn.ntmps f) c 0 s (N1 0 args) (qW 0 ws) _
    (fun ex env H'=>match ex with
     | .exit _=>none
     | _=>Q1 (iO P env H' fn.results.toList) fun vs=>Q1 (vo .keep s.H.length vs H') fun r=>some (iP r.1,r.2)) aI hs (Qj5 hr)
    (fun ex ak e' s1 k1 t1 YG _ h=>by
     have key:(Q1 (wK P ak s1.L fn.results.toList) fun vs=>match vs.all N0 with
       | true=>KV (It vs) s1.L
       | false=>none)=some r->∃ y,(Q1 (iO P e' s1.H fn.results.toList) fun vs=>Q1 (vo .keep s.H.length vs s1.H) fun r=>some (iP r.1,r.2))=some y/\∃ z,KE y.1 y.2=some z/\Q z:=by
      intro h
      replace h:=ob h;obtain ⟨BF,h2,h⟩:=h
      split at h
      .rename_i YH
       obtain ⟨ru,e2,r2⟩:=Kw t1 YG h2
       rw [e2]
       simp only [Q1,vo]
       exact ⟨_,rfl,hK _ _ s1 k1 t1 (Qug r2 YH) h⟩
      .simp at h
     cases ex with
     | exit id=>simp at h
     | normal=>exact key h
     | ret=>exact key h) h
   obtain ⟨q,y1,z,y2,y3⟩:=this
   refine ⟨z,?_,y3⟩
   have e2:∀ (x:Option (Value×af)),x=some q->(Q1 x fun q=>KE q.1 q.2)=some z:=fun x hx=>by rw [hx];exact y2
   exact e2 _ y1
  .simp at h
structure Od (A:cM):Prop where
 val:∀ f v,A.vN f=some v->∃ e,A.ext f=some e/\∀ ai,wX (A.sig f) v e ai
 non:∀ f,A.vN f=none->A.ext f=none
 inl:∀ f,A.inline f=true->A.vN f=none
theorem Quh {P:Program} {A:CP} {d:Nat} {f:FuncId} {e:List Value->Nat->af->Option (Value×af)} (h:A.ext f=some e):run P A (d+1) f=e:=by
 funext ws ai H;simp only [run,h]
theorem Qmj {P:Program} {A:CP} {d:Nat} {f:FuncId} (h:A.ext f=none):run P A (d+1) f=EP P A (run P A d) f:=by
 funext ws ai H;simp only [run,h]
theorem Qvz (P:Program) (A:cM) (hE:Od A):∀ d:Nat,oF P A (aK P A d) (run P A.ev d)
 | 0=>⟨fun ai f hf a r h=>by simp [aK] at h,fun ai β f hf γ args ws s KV KE r Q hs aI hr hK h=>by simp [aK] at h⟩
 | d+1=>by
  have ih:=Qvz P A hE d
  refine ⟨fun ai f hf=>?_,fun ai β f hf γ args ws s KV KE r Q hs aI hr hK h=>?_⟩
  .cases hv:A.vN f with
   | none =>
    rw [Qmj (A:=A.ev) (hE.non f hv)]
    have e2:(aK P A (d+1)).call f=Dk P A (aK P A d) f:=by funext a;simp only [aK,hv]
    rw [e2]
    exact Qxx ih ai f
   | some v =>
    obtain ⟨e,he,dh⟩:=hE.val f v hv
    rw [Quh (A:=A.ev) he]
    have e2:(aK P A (d+1)).call f=v:=by funext a;simp only [aK,hv]
    rw [e2]
    exact dh ai
  .rw [Qmj (A:=A.ev) (hE.non f (hE.inl f hf))]
   exact Qxy ih ai β f hs aI hr hK h
open Go.Ev Go.Ek Go.ChangeAt Go.RowKit Go.WideShapes Go.ChangeShapes
def Oe (x:List Int):Prop:=∀ n∈x,0<=n/\n < 256
theorem cV.one {N:Nat->Prop} {H:af} {ai:Nat} {k:Kd} {v:TV} {ws:List Value} {is:List (List Nat)} (h:cV N H ai [k] [v] ws is):∃ w i,ws=[w]/\is=[i]/\HR N H ai k v w i:=by
 cases ws with
 | nil=>cases is<;>exact absurd h id
 | cons w ws=>cases is with
  | nil=>exact absurd h id
  | cons i is=>cases ws with
   | nil=>cases is with
    | nil=>exact ⟨w,i,rfl,rfl,h.1⟩
    | cons _ _=>exact absurd h.2 id
   | cons _ _=>cases is<;>exact absurd h.2 id
structure mH (P:Program) (A:cM):Prop where
 v:Od A
 x:P2 P A.ev
theorem mH.no {P:Program} {A:cM} (h1:∀ f,A.ext f=none) (h2:∀ f,A.vN f=none):mH P A :=
 ⟨⟨fun f v h=>by rw [h2] at h;simp at h,fun f _=>h1 f,fun f _=>h2 f⟩,fun f e h=>by rw [show A.ev.ext f=A.ext f from rfl,h1] at h;simp at h⟩
def rH (P:Program):Nat->TypeId->Option Ty
 | 0,_=>none
 | n+1,t=>match isVar P t with
  | false=>none
  | true=>match P.underlying t with
   | some .bool=>some .bool
   | some (.int k)=>some (.int k)
   | some .string=>some .str
   | some (.slice e)=>Q1 (rH P n e) fun u=>some (.sl u)
   | some (.struct fs)=>match fs.toList with
    | f::h::r=>rG (rH P n) (f::h::r)
    | _=>none
   | _=>none
def Wf:(t:Ty)->t.T->Prop
 | .int k,x=>k.min<=x/\x<=k.max
 | .bool,_=>True
 | .str,s=>s.size<=maxLen
 | .sl t,xs=>xs.length<=maxLen/\∀ x∈xs,Wf t x
 | .os _,_=>True
 | .pair a b,x=>Wf a x.1/\Wf b x.2
structure BM (ι:Io) (G:af) (w:World):Prop where
 ro:∀ b k,ah G b=some k->k.ro=true
 rel:∀ b k,ah G b=some k->qX ι (aJ G.length) w b k
def nB (ι:Io) (G:af) (ι':Io) (G':af):Prop:=(∃ S,G'=G++S)/\∀ b,b < G.length->ι' b=ι b
theorem nB.refl (ι:Io) (G:af):nB ι G ι G:=⟨⟨[],by simp⟩,fun _ _=>rfl⟩
theorem nB.len {ι ι':Io} {G G':af} (h:nB ι G ι' G'):G.length<=G'.length:=by obtain ⟨⟨S,rfl⟩,_⟩:=h;simp
theorem nB.trans {ι ι' ι'':Io} {G G' G'':af} (h:nB ι G ι' G') (h':nB ι' G' ι'' G''):nB ι G ι'' G'':=by
 have hl:=h.len
 obtain ⟨⟨S,rfl⟩,e⟩:=h
 obtain ⟨⟨S',rfl⟩,e'⟩:=h'
 exact ⟨⟨S++S',by simp⟩,fun b hb=>(e' b (by omega)).trans (e b hb)⟩
theorem NW {G S:af} {b:Nat} (h:b < G.length):ah (G++S) b=ah G b:=by
 unfold ah;rw [List.getElem?_append_left h]
theorem nB.rep {ι ι':Io} {G G':af} (h:nB ι G ι' G') {t:Ty} {x:t.T} {cs:List Value} (r:ax Any G t x cs):ax Any G' t x cs:=by
 obtain ⟨⟨S,rfl⟩,_⟩:=h
 exact ax.frame (fun z _ hz=>⟨trivial,NW hz⟩) t r
theorem nB.IS {ι ι':Io} {G G':af} (h:nB ι G ι' G') {xs ys:List Value} (r:aZ ι (aJ G.length) xs ys):aZ ι' (aJ G'.length) xs ys :=
 r.mono (fun b hb=>Zm hb h.len) (fun b hb=>h.2 b hb)
section
variable {H:Type} {enc:TypeId×Value->H} {P:Program} {w:World}
def Of (enc:TypeId×Value->H) (P:Program) (w:World) (T:Ty) (t:TypeId):Prop:=∀ fuel cs x,DataW.trod enc P w 0 (fun _=>true) true fuel t cs=some x->∀ ι G,BM ι G w ->
 ∃ ι' G' y av,BM ι' G' w/\nB ι G ι' G'/\ax Any G' T y av/\aZ ι' (aJ G'.length) av cs/\Wf T y
def Dt (G:af) (T:Ty):List T.T->List Value->Prop
 | [],jc=>jc=[]
 | y::ys,jc=>ax Any G T y (jc.take T.size)/\Dt G T ys (jc.drop T.size)
theorem Dt.at {G:af} {T:Ty}:∀ {ys:List T.T} {jc:List Value},Dt G T ys jc->(jc.length=ys.length*T.size/\(∀ v∈jc,az v=true))/\∀ i (h:i < ys.length),ax Any G T ys[i] ((jc.drop (i*T.size)).take T.size)
 | [],jc,h=>by
  have h:jc=[]:=h
  subst h
  exact ⟨⟨by simp,by simp⟩,fun i h=>by simp at h⟩
 | y::ys,jc,h=>by
  obtain ⟨h1,h2⟩:=h
  have l1:=ax.len T h1
  have c1:=ax.cell T h1
  obtain ⟨⟨l2,c2⟩,r2⟩:=Dt.at h2
  simp only [List.length_take] at l1
  simp only [List.length_drop] at l2
  have hs:=Ty.size_pos T
  refine ⟨⟨by simp only [Z9];rw [Nat.add_mul];omega,fun v hv=>?_⟩,fun i hi=>?_⟩
  .rw [<- List.take_append_drop T.size jc] at hv
   rcases List.mem_append.1 hv with hv | hv
   .exact c1 v hv
   .exact c2 v hv
  .cases i with
   | zero=>simpa using h1
   | succ i =>
    have:=r2 i (by simpa using hi)
    rw [List.drop_drop] at this
    rw [show T.size+i*T.size=(i+1)*T.size by rw [Nat.add_mul,Nat.one_mul];exact Nat.add_comm _ _] at this
    exact this
theorem Dt.ext {ι ι':Io} {G G':af} (h:nB ι G ι' G') {T:Ty}:∀ {ys:List T.T} {jc:List Value},Dt G T ys jc->Dt G' T ys jc
 | [],_,r=>r
 | _::_,_,r=>⟨h.rep r.1,Dt.ext h r.2⟩
theorem Qcn {T:Ty} {t:TypeId} (hT:Of enc P w T t):∀ (Og:List (List Value)),(∀ cs∈Og,∃ fuel x,DataW.trod enc P w 0 (fun _=>true) true fuel t cs=some x)->∀ ι G,BM ι G w ->
  ∃ ι' G' ys jc,BM ι' G' w/\nB ι G ι' G'/\ys.length=Og.length/\Dt G' T ys jc/\aZ ι' (aJ G'.length) jc Og.flatten/\∀ y∈ys,Wf T y
 | [],_,ι,G,hR=>⟨ι,G,[],[],hR,.refl ι G,rfl,rfl,aZ.nil _ _,by simp⟩
 | cs::Og,h,ι,G,hR=>by
  obtain ⟨fuel,x,hx⟩:=h cs (by simp)
  obtain ⟨ι1,G1,y,av,a1,a2,a3,a4,a5⟩:=hT fuel cs x hx ι G hR
  obtain ⟨ι2,G2,ys,jc,b1,b2,b3,b4,b5,b6⟩:=Qcn hT Og (fun c hc=>h c (by simp [hc])) ι1 G1 a1
  have hl:=ax.len T a3
  refine ⟨ι2,G2,y::ys,av++jc,b1,a2.trans b2,by simp [b3],⟨?_,?_⟩,?_,?_⟩
  .rw [<- hl,List.take_left];exact b2.rep a3
  .rw [<- hl,List.drop_left];exact b4
  .rw [Ze];exact aZ.append (b2.IS a4) b5
  .intro z hz
   rcases Z2 hz with rfl | hz
   .exact a5
   .exact b6 z hz
theorem Qmk {α:Type} {f:Nat->List α} {c:Nat}:∀ (m:Nat),(∀ i,i < m->(f i).length=c)->(((List.range m).map f).flatten.length=m*c)/\∀ i r,i < m->r < c->((List.range m).map f).flatten[i*c+r]? = (f i)[r]?
 | 0,_=>⟨by simp,fun i r h=>by omega⟩
 | m+1,h=>by
  obtain ⟨h1,h2⟩:=Qmk m (fun i hi=>h i (by omega))
  have hm:=h m (by omega)
  rw [List.range_succ,List.map_append,List.flatten_append]
  simp only [List.map_cons,List.map_nil,Ze,List.flatten_nil,List.append_nil]
  refine ⟨by rw [Zf,h1,hm,Nat.add_mul];omega,fun i r hi hr=>?_⟩
  rcases Nat.lt_or_ge i m with au | tD
  .have:i*c+r < m*c:=by
    have:=Zk c (show i+1<=m by omega)
    rw [Nat.add_mul] at this;omega
   rw [List.getElem?_append_left (by omega)]
   exact h2 i r au hr
  .have:i=m:=by omega
   subst this
   rw [Zq (by omega),h1]
   congr 1;omega
theorem Qob (hl:laidOutB P=true) {t:TypeId} (hv:isVar P t=true):rowFine P t=true:=by
 unfold laidOutB at hl
 simp only [Z8,List.all_eq_true] at hl
 unfold isVar at hv
 simp only [Z8,Zj] at hv
 exact hl.1.1 t (List.mem_range.2 hv.1)
theorem Qml {ι:Io} {G:af} (hR:BM ι G w) (l:Ev.Loc) (B:Option bz) (hB:∀ k,B=some k->k.ro=true/\qX (ι.set G.length l) (aJ (G.length+1)) w G.length k) :
  BM (ι.set G.length l) (G++[B]) w/\nB ι G (ι.set G.length l) (G++[B])/\(G++[B]).length=G.length+1/\ah (G++[B]) G.length=B:=by
 have hg:ah (G++[B]) G.length=B:=by unfold ah;rw [Zq (by omega)];simp;cases B<;>rfl
 have hl:(G++[B]).length=G.length+1:=by simp
 have key:∀ b k,ah (G++[B]) b=some k->(b < G.length/\ah G b=some k)\/(b=G.length/\B=some k):=by
  intro b k hb
  have:=Rl hb
  rcases Nat.lt_or_ge b G.length with h | h
  .rw [NW h] at hb;exact .inl ⟨h,hb⟩
  .have:b=G.length:=by omega
   subst this;rw [hg] at hb;exact .inr ⟨rfl,hb⟩
 refine ⟨⟨fun b k hb=>?_,fun b k hb=>?_⟩,⟨⟨[B],rfl⟩,fun b hb=>Io.aS _ _ (by omega)⟩,hl,hg⟩
 .rcases key b k hb with ⟨_,h⟩ | ⟨_,h⟩
  .exact hR.ro b k h
  .exact (hB k h).1
 .rw [hl]
  rcases key b k hb with ⟨h0,h⟩ | ⟨rfl,h⟩
  .have:=hR.rel b k h
   have e:(ι.set G.length l) b=ι b:=Io.aS _ _ (by omega)
   refine ⟨by rw [e];exact this.lt,by rw [e];exact this.shape,by rw [e];exact this.map,by rw [e];exact this.fit,fun i hi=>?_,fun hr=>?_⟩
   .rw [e]
    obtain ⟨c,c1,c2,c3⟩:=this.cell i hi
    exact ⟨c,c1,c2.mono (fun z hz=>Nat.lt_succ_of_lt hz) (fun z hz=>Io.aS _ _ (Nat.ne_of_lt hz)),c3⟩
   .have:=hR.ro b k h
    rw [hr] at this;simp at this
  .exact (hB k h).2
theorem Qj7 {T:Ty} {t e:TypeId} (ht:P.underlying t=some (.slice e)) (hT:Of enc P w T e) (hc:P.cellsOf e=T.size):Of enc P w (.sl T) t:=by
 intro fuel cs x hx ι G hR
 have bf:=Ty.size_pos T
 rcases DataW.trod_slice ht hx with ⟨rfl,_⟩ | ⟨a,len,cap,elems,rest,n,rfl,rfl,_,_,A6,hcm,hel,he,hsp,_⟩
 .refine ⟨ι,G,[],[.slice none 0 0],hR,.refl ι G,?_,aZ.cons .dL (aZ.nil _ _),by simp [Wf]⟩
  unfold ax;exact .inl ⟨rfl,rfl⟩
 .rw [hc] at he hsp
  obtain ⟨kI,Xh⟩:=hsp rfl
  rcases Nat.eq_zero_or_pos cap with h0 | h0
  .subst h0
   obtain rfl:len=0:=by omega
   obtain ⟨p1,p2,p3,p4⟩:=Qml hR (⟨0,0,0⟩:Ev.Loc) none (fun k h=>by simp at h)
   refine ⟨_,_,[],[.slice (some ⟨G.length,0,none⟩) 0 T.size],p1,p2,?_,aZ.cons (.bC _ _ _ ?_) (aZ.nil _ _),by simp [Wf]⟩
   .unfold ax;exact .inr (.inl ⟨rfl,_,_,rfl⟩)
   .show G.length < _
    omega
  . -- every element can be read
   have rd:∀ i,i < cap->∃ c y,w.cells? 0 (a.add (i*T.size)) T.size=some c/\DataW.trod enc P w 0 (fun _=>true) true n e c=some y:=by
    intro i hi
    rcases Nat.lt_or_ge i len with h | h
    .have:=he i h
     rw [Z6 (by omega),Option.bind_eq_some_iff] at this
     obtain ⟨c,c1,c2⟩:=this
     exact ⟨c,_,c1,c2⟩
    .have:=Xh (i - len) (by omega)
     rw [Z6 (by omega),show len+(i - len)=i by omega,Option.bind_eq_some_iff] at this
     obtain ⟨c,c1,c2⟩:=this
     exact ⟨c,_,c1,c2⟩
   have cellAt:∀ i r,i < cap->r < T.size->∃ v,w.cell? ((a.add (i*T.size)).add r)=some v:=by
    intro i r hi hr
    obtain ⟨c,y,c1,_⟩:=rd i hi
    obtain ⟨_,l,q⟩:=World.cells?_some c1
    exact ⟨c[r]'(by omega),by rw [q r hr,Z6]⟩
   obtain ⟨v0,QU⟩:=cellAt 0 0 h0 bf
   have e0:(a.add (0*T.size)).add 0=a:=by
    obtain ⟨ab,ao,aq⟩:=a
    rw [Nat.zero_mul];unfold Addr.add;split<;>simp_all
   rw [e0] at QU
   obtain ⟨eN,m,hs,ho,tw⟩:=Qe0 QU
   have Av:∀ j,a.add j=⟨a.block,a.off+j,none⟩:=by
    intro j;obtain ⟨xb,xo,xs⟩:=a;simp only at tw;subst tw;unfold Addr.add;split<;>simp_all
   have Ft:∀ j r,(a.add j).add r=⟨a.block,a.off+(j+r),none⟩:=by
    intro j r;rw [Av j];unfold Addr.add;split<;>simp_all<;>omega
   have jG:a.off+cap*T.size<=m:=by
    obtain ⟨v,hv⟩:=cellAt (cap - 1) (T.size - 1) (by omega) (by omega)
    rw [Ft] at hv
    obtain ⟨YI,m',bY,q_,_⟩:=Qe0 hv
    simp only at bY q_
    rw [hs] at bY
    obtain ⟨rfl,rfl⟩:eN=YI/\m=m':=by simpa using bY
    have:cap*T.size=(cap - 1)*T.size+T.size:=by
     rw [show cap=cap - 1+1 by omega,Nat.add_mul,Nat.one_mul];simp
    omega
   let f:Nat->List Value:=fun i=>(w.cells? 0 (a.add (i*T.size)) T.size).getD []
   have hf:∀ i,i < cap->w.cells? 0 (a.add (i*T.size)) T.size=some (f i)/\(f i).length=T.size/\∃ y,DataW.trod enc P w 0 (fun _=>true) true n e (f i)=some y:=by
    intro i hi
    obtain ⟨c,y,c1,c2⟩:=rd i hi
    have:f i=c:=by simp only [f,c1];rfl
    rw [this]
    exact ⟨c1,(World.cells?_some c1).2.1,y,c2⟩
   obtain ⟨fl,fg⟩:=Qmk (f:=f) (c:=T.size) len (fun i hi=>(hf i (by omega)).2.1)
   obtain ⟨ι1,G1,ys,jc,a1,a2,a3,a4,a5,a6⟩:=Qcn hT ((List.range len).map f) (fun c hc=>by
    obtain ⟨i,hi,rfl⟩:=List.mem_map.1 hc
    obtain ⟨_,_,y,hy⟩:=hf i (by have:=List.mem_range.1 hi;omega)
    exact ⟨n,y,hy⟩) ι G hR
   simp only [List.length_map,List.length_range] at a3
   obtain ⟨⟨l4,c4⟩,r4⟩:=a4.at
   have hle:=Zk T.size A6
   have mK:(ι1.set G1.length ⟨a.block,a.off,m⟩) G1.length=⟨a.block,a.off,m⟩:=Io.aC _ _ _
   obtain ⟨p1,p2,p3,p4⟩:=Qml a1 ⟨a.block,a.off,m⟩ (some ⟨jc,true,none⟩) (fun k hk=>by
    obtain rfl:_=k:=by simpa using hk
    refine ⟨rfl,by rw [mK];exact Qke hs,fun _=>⟨eN,by rw [mK];exact hs⟩,fun es h=>by simp at h,by rw [mK];simp only;rw [l4,a3];omega,fun j hj=>?_,fun h=>by simp at h⟩
    simp only at hj ⊢
    rw [mK];simp only
    have JT:j < len*T.size:=by rw [l4,a3] at hj;exact hj
    have hd:j / T.size < len:=Nat.div_lt_of_lt_mul (by rw [Nat.mul_comm];exact JT)
    have hr:=Nat.mod_lt j bf
    have vf:j / T.size*T.size+j % T.size=j:=by rw [Nat.mul_comm];exact Nat.div_add_mod j T.size
    obtain ⟨c1,c2,_⟩:=hf (j / T.size) (by omega)
    have EW:=(World.cells?_some c1).2.2 (j % T.size) hr
    rw [Ft,vf] at EW
    have hg:=fg (j / T.size) (j % T.size) hd hr
    rw [vf] at hg
    rw [Z6 (by omega)] at EW
    rw [Z6 (by omega),Z6 (by omega)] at hg
    refine ⟨_,EW,?_,c4 _ (List.getElem_mem _)⟩
    have:=a5.2 j hj (by omega)
    rw [Option.some.inj hg] at this
    exact this.mono (fun z hz=>Nat.lt_succ_of_lt hz) (fun z hz=>Io.aS _ _ (Nat.ne_of_lt hz)))
   refine ⟨_,_,ys,[.slice (some ⟨G1.length,0,none⟩) len T.size],p1,a2.trans p2,?_,aZ.cons ?_ (aZ.nil _ _),⟨by omega,a6⟩⟩
   .unfold ax
    refine .inr (.inr ⟨G1.length,0,_,by rw [a3],trivial,p4,by simp only;rw [l4];omega,fun i hi=>?_⟩)
    rw [Zo]
    exact p2.rep (r4 i hi)
   .have h2:=ay.eP (ι:=ι1.set G1.length ⟨a.block,a.off,m⟩) (D:=aJ (G1++[some (⟨jc,true,none⟩:bz)]).length) ⟨G1.length,0,none⟩ len T.size cap (by show G1.length < _;omega) A6 (by rw [mK];simp only;omega)
    have ha:(ι1.set G1.length ⟨a.block,a.off,m⟩).addr ⟨G1.length,0,none⟩=a:=by
     unfold Io.addr;rw [mK]
     have:=Av 0
     obtain ⟨ab,ao,aq⟩:=a
     simp only at tw;subst tw;rfl
    rw [ha] at h2
    exact h2
theorem Qj8 {g:TypeId->Option Ty} (hg:∀ t T,g t=some T->Of enc P w T t/\P.cellsOf t=T.size):∀ (fs:List Field) (T:Ty) (off:Nat) (cs:List Value),rG g fs=some T ->
  (∀ j f,fs[j]? = some f->f.offset=off+((fs.take j).map fun f=>P.cellsOf f.type).sum)->(∀ f∈fs,∃ fuel x,DataW.trod enc P w 0 (fun _=>true) true fuel f.type ((cs.drop f.offset).take (P.cellsOf f.type))=some x)->∀ ι G,BM ι G w ->
  (∃ ι' G' y av,BM ι' G' w/\nB ι G ι' G'/\ax Any G' T y av/\aZ ι' (aJ G'.length) av ((cs.drop off).take T.size)/\Wf T y)/\(fs.map fun f=>P.cellsOf f.type).sum=T.size
 | [],T,off,cs,h,_,_,_,_,_=>by simp [rG] at h
 | [f],T,off,cs,h,ho,hr,ι,G,hR=>by
  obtain ⟨h1,h2⟩:=hg f.type T h
  obtain ⟨fuel,x,hx⟩:=hr f (by simp)
  have:=ho 0 f rfl
  simp at this
  rw [this,h2] at hx
  exact ⟨h1 fuel _ x hx ι G hR,by simp [h2]⟩
 | f::f2::fs,T,off,cs,h,ho,hr,ι,G,hR=>by
  simp only [rG] at h
  replace h:=ob h;obtain ⟨a,ha,h⟩:=h
  replace h:=ob h;obtain ⟨b,hb,h⟩:=h
  simp at h;subst h
  obtain ⟨h1,h2⟩:=hg f.type a ha
  obtain ⟨fuel,x,hx⟩:=hr f (by simp)
  have e0:=ho 0 f rfl
  simp at e0
  rw [e0,h2] at hx
  obtain ⟨ι1,G1,y,av,a1,a2,a3,a4,a5⟩:=h1 fuel _ x hx ι G hR
  obtain ⟨⟨ι2,G2,z,bv,b1,b2,b3,b4,b5⟩,hs⟩:=Qj8 hg (f2::fs) b (off+a.size) cs hb (fun j f' hj=>by
   have:=ho (j+1) f' (by simpa using hj)
   simp only [List.take_succ_cons,List.map_cons,List.sum_cons] at this
   rw [this,h2];omega) (fun f' hf'=>hr f' (by simp at hf' ⊢;exact .inr hf')) ι1 G1 a1
  have hl:=ax.len a a3
  refine ⟨⟨ι2,G2,(y,z),av++bv,b1,a2.trans b2,?_,?_,a5,b5⟩,by simp only [List.map_cons,List.sum_cons] at hs ⊢;rw [hs,h2];rfl⟩
  .unfold ax
   rw [<- hl,List.take_left,List.drop_left]
   exact ⟨b2.rep a3,b3⟩
  .show aZ _ _ _ ((cs.drop off).take (a.size+b.size))
   rw [List.take_add,List.drop_drop]
   exact aZ.append (b2.IS a4) b4
theorem Oh (hl:laidOutB P=true):∀ (n:Nat) (t:TypeId) (T:Ty),rH P n t=some T->Of enc P w T t/\P.cellsOf t=T.size
 | 0,t,T,h=>by simp [rH] at h
 | n+1,t,T,h=>by
  unfold rH at h
  cases hv:isVar P t with
  | false=>rw [hv] at h;simp at h
  | true =>
   rw [hv] at h
   simp only at h
   have hf:=Qob hl hv
   unfold rowFine at hf
   rw [hv] at hf
   simp only [Zl,Bool.false_or] at hf
   split at h
   .rename_i hu
    simp at h;subst h
    rw [hu] at hf
    refine ⟨fun fuel cs x hx ι G hR=>?_,by simpa [Ty.size] using hf⟩
    obtain ⟨b,rfl,_⟩:=DataW.trod_bool hu hx
    exact ⟨ι,G,b,[.bool b],hR,.refl ι G,by unfold ax;rfl,aZ.cons (.bool b) (aZ.nil _ _),trivial⟩
   .rename_i k hu
    simp at h;subst h
    rw [hu] at hf
    refine ⟨fun fuel cs x hx ι G hR=>?_,by simpa [Ty.size] using hf⟩
    obtain ⟨m,rfl,_,hw⟩:=DataW.trod_int hu hx
    exact ⟨ι,G,m,[.int k m],hR,.refl ι G,by unfold ax;rfl,aZ.cons (.int k m) (aZ.nil _ _),(Go.Lit.wf_int_iff k m).1 hw⟩
   .rename_i hu
    simp at h;subst h
    rw [hu] at hf
    refine ⟨fun fuel cs x hx ι G hR=>?_,by simpa [Ty.size] using hf⟩
    obtain ⟨s,rfl,_,hw⟩:=DataW.trod_string hu hx
    exact ⟨ι,G,s,[.string s],hR,.refl ι G,by unfold ax;rfl,aZ.cons (.str s) (aZ.nil _ _),hw⟩
   .rename_i e hu
    replace h:=ob h;obtain ⟨u,iS,h⟩:=h
    simp at h;subst h
    rw [hu] at hf
    obtain ⟨h1,h2⟩:=Oh hl n e u iS
    simp only [Z8,beq_iff_eq] at hf
    exact ⟨Qj7 hu h1 h2,by rw [hf.2];rfl⟩
   .rename_i fs hu
    rw [hu] at hf
    simp only [Z8,beq_iff_eq,List.all_eq_true] at hf
    obtain ⟨⟨f1,f2⟩,f3⟩:=hf
    have hT:rG (rH P n) fs.toList=some T:=by
     split at h
     .rename_i f h2 r e;rw [e];exact h
     .simp at h
    have off:∀ j f,fs.toList[j]? = some f->f.offset=0+((fs.toList.take j).map fun f=>P.cellsOf f.type).sum:=by
     intro j f hj
     have:=f3 j (List.mem_range.2 (Z0 hj).1)
     rw [hj] at this
     simpa using this
    have Oi:(fs.toList.map fun f=>P.cellsOf f.type).sum=T.size:=by
     clear h f1 f2 f3
     have gen:∀ (l:List Field) (T:Ty),rG (rH P n) l=some T->(l.map fun f=>P.cellsOf f.type).sum=T.size:=by
      intro l
      induction l with
      | nil=>intro T h;simp [rG] at h
      | cons f l ih =>
       intro T h
       cases l with
       | nil=>simp [(Oh hl n f.type T h).2]
       | cons f2 l =>
        simp only [rG] at h
        replace h:=ob h;obtain ⟨a,ha,h⟩:=h
        replace h:=ob h;obtain ⟨b,hb,h⟩:=h
        simp at h;subst h
        have:=ih b hb
        simp only [List.map_cons,List.sum_cons] at this ⊢
        rw [this,(Oh hl n f.type a ha).2];rfl
     exact gen _ _ hT
    refine ⟨fun fuel cs x hx ι G hR=>?_,by rw [f2,Oi]⟩
    obtain ⟨xs,m,rfl,_,j6,fP,hx⟩:=DataW.trod_struct hu hx
    have:=(Qj8 (enc:=enc) (P:=P) (w:=w) (fun t T h=>Oh hl n t T h) fs.toList T 0 cs hT off (fun f hf=>by
     obtain ⟨i,hi,rfl⟩:=List.mem_iff_getElem.1 hf
     have:=hx i fs.toList[i] (by rw [<- Array.getElem?_toList];exact Z6 hi)
     rw [Z6 (by rw [fP];simpa using hi)] at this
     exact ⟨m,_,this⟩) ι G hR).1
    rw [List.drop_zero,Zs (by rw [j6,f2,Oi];exact Zd _)] at this
    exact this
   .simp at h
theorem YJ:∀ (n:Nat) (t:TypeId) (T:Ty),rH P n t=some T->T.dD=false
 | 0,t,T,h=>by simp [rH] at h
 | n+1,t,T,h=>by
  unfold rH at h
  split at h
  .simp at h
  .split at h
   .simp at h;subst h;rfl
   .simp at h;subst h;rfl
   .simp at h;subst h;rfl
   .replace h:=ob h;obtain ⟨u,_,h⟩:=h
    simp at h;subst h;rfl
   .rename_i fs _
    have gen:∀ (l:List Field) (T:Ty),rG (rH P n) l=some T->T.dD=false:=by
     intro l
     induction l with
     | nil=>intro T h;simp [rG] at h
     | cons f l ih =>
      intro T h
      cases l with
      | nil=>exact YJ n _ _ h
      | cons f2 l =>
       simp only [rG] at h
       replace h:=ob h;obtain ⟨a,ha,h⟩:=h
       replace h:=ob h;obtain ⟨b,hb,h⟩:=h
       simp at h;subst h
       show (a.dD || b.dD)=false
       rw [YJ n _ _ ha,ih b hb];rfl
    split at h
    .exact gen _ _ h
    .simp at h
   .simp at h
theorem YK {n:Nat} {t:TypeId} {T:Ty} (h:rH P n t=some T) {r:Reach} {base:Nat} {v:Value} (hv:Value.okWide P w r base t v) {ι:Io} {D:Nat->Prop} {av:List Value} (ha:aZ ι D av v.cells.toList) (hl:av.length=T.size) :
  ∃ wv,Ii T av wv/\ay ι D wv v:=by
 cases n with
 | zero=>simp [rH] at h
 | succ n =>
  have one:T.size=1->(∀ a b,T≠.pair a b)->v.cells.toList=[v]->∃ wv,Ii T av wv/\ay ι D wv v:=by
   intro h1 h2 h3
   rw [h1] at hl
   obtain ⟨x,rfl⟩:=List.length_eq_one_iff.1 hl
   rw [h3] at ha
   refine ⟨x,?_,ha.head⟩
   cases T with
   | pair a b=>exact absurd rfl (h2 a b)
   | int k=>rfl
   | bool=>rfl
   | str=>rfl
   | sl u=>rfl
   | os u=>rfl
  unfold rH at h
  split at h
  .simp at h
  .split at h
   .rename_i hu;simp at h;subst h
    obtain ⟨b,rfl⟩:=okWide_bool hu hv
    exact one rfl (by simp) rfl
   .rename_i k hu;simp at h;subst h
    obtain ⟨b,rfl⟩:=okWide_int hu hv
    exact one rfl (by simp) rfl
   .rename_i hu;simp at h;subst h
    obtain ⟨b,rfl⟩:=okWide_string hu hv
    exact one rfl (by simp) rfl
   .rename_i e hu
    replace h:=ob h;obtain ⟨u,_,h⟩:=h
    simp at h;subst h
    obtain ⟨a,b,c,rfl⟩:=okWide_slice hu hv
    exact one rfl (by simp) rfl
   .rename_i fs hu
    obtain ⟨cs,rfl,_⟩:=okWide_struct hu hv
    have:∃ a b,T=.pair a b:=by
     split at h
     .rename_i f f2 r _
      simp only [rG] at h
      replace h:=ob h;obtain ⟨a,ha,h⟩:=h
      replace h:=ob h;obtain ⟨b,hb,h⟩:=h
      simp at h;exact ⟨a,b,h.symm⟩
     .simp at h
    obtain ⟨a,b,rfl⟩:=this
    exact ⟨.agg ⟨av⟩,rfl,aZ.bZ (xs:=⟨av⟩) (ys:=cs) ha⟩
   .simp at h
def tysR (P:Program):List TypeId->Option (List Ty)
 | []=>some []
 | t::r=>Q1 (rH P 8 t) fun a=>Q1 (tysR P r) fun l=>some (a::l)
theorem Qja (hl:laidOutB P=true):∀ (ts:List TypeId) (Ts:List Ty) (vs:List Value) (ds:List (DataW H)) (ps:List MemPlace),tysR P ts=some Ts->DataW.TrodAll enc P w 0 (fun _=>true) true ts vs ds ps ->
  ∀ {base:Nat},(∀ (j:Nat) t v,ts[j]? = some t->vs[j]? = some v->Value.okWide P w .any base t v)->∀ ι G,BM ι G w ->
  ∃ ι' G' ja ws,BM ι' G' w/\nB ι G ι' G'/\aZ ι' (aJ G'.length) ws vs/\(∀ ai,cV Any G' ai (ja.map fun _=>Kd.fz) ja ws (ja.map fun _=>[]))/\ja.map (·.1)=Ts/\(∀ v∈ja,Wf v.1 v.2)
 | [],Ts,vs,ds,ps,h,hA,base,_,ι,G,hR=>by
  simp [tysR] at h;subst h
  cases vs with
  | nil=>exact ⟨ι,G,[],[],hR,.refl ι G,aZ.nil _ _,fun _=>trivial,rfl,by simp⟩
  | cons v vs=>cases ds<;>exact absurd hA (by simp [DataW.TrodAll])
 | t::ts,Ts,vs,ds,ps,h,hA,base,hv,ι,G,hR=>by
  simp only [tysR] at h
  replace h:=ob h;obtain ⟨T,hT,h⟩:=h
  replace h:=ob h;obtain ⟨Ts',hTs,h⟩:=h
  simp at h;subst h
  cases vs with
  | nil=>cases ds<;>exact absurd hA (by simp [DataW.TrodAll])
  | cons v vs=>cases ds with
   | nil=>exact absurd hA (by simp [DataW.TrodAll])
   | cons d ds =>
    obtain ⟨p,q,h1,h2,_⟩:=hA
    obtain ⟨fuel,hx⟩:=h1
    obtain ⟨t1,t2⟩:=Oh (enc:=enc) (w:=w) hl 8 t T hT
    obtain ⟨ι1,G1,y,av,a1,a2,a3,a4,a5⟩:=t1 fuel _ _ hx ι G hR
    obtain ⟨ι2,G2,ja,ws,b1,b2,b3,b4,b5,b6⟩:=Qja hl ts Ts' vs ds q hTs h2 (fun j t v hj gY=>hv (j+1) t v (by simpa using hj) (by simpa using gY)) ι1 G1 a1
    obtain ⟨wv,w1,w2⟩:=YK hT (hv 0 t v rfl rfl) (b2.IS a4) (ax.len T a3)
    refine ⟨ι2,G2,⟨T,y⟩::ja,wv::ws,b1,a2.trans b2,aZ.cons w2 b3,fun ai=>⟨⟨av,w1,dz.of T (YJ 8 t T hT) (b2.rep a3)⟩,b4 ai⟩,by simp [b5],?_⟩
    intro z hz
    rcases Z2 hz with rfl | hz
    .exact a5
    .exact b6 z hz
end
theorem Qw0:∀ (vs:List TV),∃ a:jF (vs.map (·.1)),fu (vs.map (·.1)) a=vs
 | []=>⟨(),rfl⟩
 | [v]=>⟨v.2,rfl⟩
 | v::u::r=>by
  obtain ⟨a,ha⟩:=Qw0 (u::r)
  exact ⟨(v.2,a),by show (⟨v.1,v.2⟩:TV)::fu _ a=v::u::r;exact congrArg (List.cons v) ha⟩
def Qw1 (P:Program) (A:cM) (d:Nat) (f:FuncId) (Ts:List Ty):Prop :=
 A.inline f=false/\(A.sig f).params=Ts.map (fun t=>(PM.ro,t))/\(A.sig f).results=[(false,.bool)] /\
 ∀ a:jF (A.sig f).eL,(∀ v∈fu (A.sig f).eL a,Wf v.1 v.2)->∃ r,(aK P A d).call f a=some r/\fu (A.sig f).cX r=[⟨.bool,true⟩]
theorem cV.A3 {G:af} {ai:Nat} {N:Nat->Prop} (hN:∀ z,N z):∀ {ja:List TV} {ws:List Value},cV Any G ai (ja.map fun _=>Kd.fz) ja ws (ja.map fun _=>[])->cV N G ai (ja.map fun _=>Kd.fz) ja ws (ja.map fun _=>[])
 | [],[],h=>h
 | [],_::_,h=>h
 | _::_,[],h=>h
 | t::ja,v::ws,h=>⟨h.1.frame (fun z _ _=>⟨hN z,rfl⟩) (by simp),cV.A3 hN h.2⟩
theorem pv_any {H:Type} {enc:TypeId×Value->H} {P:Program} {A:cM} {d:Nat} {f:FuncId} {Ts:List Ty} (hm:P.follows .mixedOrders=true) (hl:laidOutB P=true) (hE:mH P A) (hr:Qw1 P A d f Ts)
  {ts:List TypeId} {vs:List Value} {ds:List (DataW H)} {ps:List MemPlace} {w:World} (ht:tysR P ts=some Ts) (hA:DataW.TrodAll enc P w 0 (fun _=>true) true ts vs ds ps)
  {base:Nat} (hv:∀ (j:Nat) t v,ts[j]? = some t->vs[j]? = some v->Value.okWide P w .any base t v) (hg:GW w) :
  Calls P f vs.toArray w fun e w'=>e=.returned (.bool true)/\Below w.heap.size w w':=by
 have hX:P2 P A.ev:=hE.x
 obtain ⟨hi,hp,HS,hr⟩:=hr
 obtain ⟨ι,G,ja,ws,b1,_,b3,b4,b5,b6⟩:=Qja hl ts Ts vs ds ps ht hA hv (fun _=>⟨0,0,0⟩) [] ⟨fun b k h=>by simp [ah] at h,fun b k h=>by simp [ah] at h⟩
 have hpt:(A.sig f).eL=ja.map (·.1):=by
  unfold nT.eL;rw [hp,b5,List.map_map];exact List.map_id' _
 obtain ⟨a,ha⟩:∃ a:jF (A.sig f).eL,fu (A.sig f).eL a=ja:=by rw [hpt];exact Qw0 ja
 obtain ⟨r,h1,h3⟩:=hr a (by rw [ha];exact b6)
 have cJ:((ja.map fun _=>([]:List Nat))).flatten=[]:=by simp
 have Oj:((A.sig f).params.map fun p=>p.1.kd)=ja.map fun _=>Kd.fz:=by
  rw [hp,<- b5];simp [PM.kd]
 have hF:=(Qvz P A hE.v d).call 0 f hi a r h1 G (fun _=>False) ws (ja.map fun _=>[]) (fun _ h=>h.elim) (Nat.zero_le _) (by rw [cJ];simp) (by rw [cJ];simp) (by
  rw [ha,Oj]
  exact cV.A3 (fun z=>⟨by rw [cJ];simp,fun h=>h⟩) (b4 0))
 obtain ⟨v,H',ru,bt,aO,c1,c2,_,_,_,_,_,c8,_⟩:=hF
 rw [HS,h3] at c8
 obtain ⟨wv,i,rfl,rfl,cs,e1,e2⟩:=cV.one (k:=.fz) c8
 replace e2:=e2.2
 unfold ax at e2
 have Mf:cs=[wv]:=e1
 rw [Mf] at e2
 simp at e2;subst e2
 rw [c2] at c1
 have aT:run P A.ev d f ws 0 G=some (.bool true,H'):=c1
 have hS:=Qqp hm hX d f _ _ _ _ _ aT
 have hR:Ev.Rel ι (aJ G.length) G w:=⟨b1.rel,fun b b' k k' hb gX _ h=>by rw [b1.ro b k hb,b1.ro b' k' gX] at h;simp at h,fun b k hb hr=>(by rw [b1.ro b k hb] at hr;simp at hr),hg⟩
 refine (hS.run ι w vs.toArray hR (by simpa using b3)).mono ?_
 rintro e w' ⟨ι',c,rfl,_,hv,rL⟩
 cases hv
 exact ⟨rfl,rL.os,rL.tape,rL.output,rL.size,fun k hk=>rL.frame k hk fun b aH hb hn=>by rw [b1.ro b aH hb] at hn;simp at hn⟩
def strData {H:Type} (bs:List (List UInt8)):DataW H:=.agg (bs.map fun b=>.lit (.string b))
theorem Qg7 {H:Type} {enc:TypeId×Value->H} {P:Program} {w:World} {base:Nat} {sp:Nat->Bool} {held:Bool} {fuel:Nat} {t e:TypeId} {n:Nat} {cs:List Value} {bs:List (List UInt8)} {p:List MemPlace}
  (ht:P.underlying t=some (.array n e)) (he:P.underlying e=some .string) (CT:P.cellsOf e=1) (YL:P.cellsOf t=n)
  (h:DataW.trod enc P w base sp held fuel t cs=some (strData bs,p)):cs=bs.map fun b=>Value.string ⟨b.toArray⟩:=by
 cases fuel with
 | zero=>simp [DataW.trod] at h
 | succ fuel =>
  simp only [DataW.trod,ht,CT,YL,Nat.mul_one] at h
  split at h
  .rename_i hl
   obtain ⟨xs,hm,hx⟩:=Option.map_eq_some_iff.1 h
   have PW:xs.map (·.1)=bs.map fun b=>(DataW.lit (.string b):DataW H):=by
    have:=congrArg Prod.fst hx
    simpa [strData] using this
   have hxl:xs.length=n:=by simpa using Go.Lib.mapM_length hm
   have WY:bs.length=n:=by
    have:=congrArg List.length PW
    simp at this
    omega
   apply List.ext_getElem?
   intro i
   by_cases hi:i < n
   .obtain ⟨b,hb,hf⟩:=Go.Lib.mapM_at hm i i (by simp [hi])
    obtain ⟨s,hc,rfl,_⟩:=DataW.trod_string he hf
    have h1:cs[i]? = some (.string s):=by
     have:=congrArg (·[0]?) hc
     simpa [List.getElem?_take,Zp] using this
    have h2:(xs.map (·.1))[i]? = some (DataW.lit (.string s.data.toList):DataW H):=by simp [hb]
    rw [PW] at h2
    simp only [List.getElem?_map,Option.map_eq_some_iff,DataW.lit.injEq,Lit.string.injEq] at h2
    obtain ⟨b',aX,rfl⟩:=h2
    simp [h1,aX]
   .rw [List.getElem?_eq_none (by omega),List.getElem?_eq_none (by simp;omega)]
  .cases h
theorem strs_block {P:Program} {W:World} {name:String} {bs:List (List UInt8)} {rest:List (String×DataW Unit)} {g:Nat} {t e:TypeId} {n:Nat}
  (hg:P.globalNamed name=some g) (X6:(P.globals[g]?).map (·.type)=some t) (ht:P.underlying t=some (.array n e)) (he:P.underlying e=some .string) (CT:P.cellsOf e=1) (YL:P.cellsOf t=n)
  (h:laidMet P ((name,strData bs)::rest) W):g < W.heap.size/\∃ t f,W.heap[g]? = some (.cells (bs.map fun b=>Value.string ⟨b.toArray⟩).toArray t f):=by
 obtain ⟨ps,⟨g',t',cs,fuel,p,q,hg',Au,oG,hd,_,_⟩,_⟩:=h
 obtain rfl:=Option.some.inj (hg.symm.trans hg')
 obtain rfl:=Option.some.inj (X6.symm.trans Au)
 have hc:=Qg7 ht he CT YL hd
 unfold World.var? at oG
 rw [hg] at oG
 simp only [Option.bind_some] at oG
 split at oG
 .rename_i tC t f hb
  injection oG with oG
  subst oG
  refine ⟨?_,t,f,by rw [hb,<- hc]⟩
  rcases Nat.lt_or_ge g W.heap.size with h | h
  .exact h
  .rw [Array.getElem?_eq_none h] at hb;simp at hb
 .simp at oG
def Ok {α:Type} (e:Option α) (Q:α->Prop):Prop:=∃ a,e=some a/\Q a
theorem Ok.some {α:Type} {a:α} {Q:α->Prop} (h:Q a):Ok (some a) Q:=⟨a,rfl,h⟩
theorem Ok.bind {α β:Type} {e:Option α} {K:α->Option β} {P:α->Prop} {Q:β->Prop} (h:Ok e P) (k:∀ a,P a->Ok (K a) Q):Ok (Q1 e K) Q:=by
 obtain ⟨a,rfl,ha⟩:=h;exact k a ha
theorem Ok.aa {α:Type} {b:Bool} {x y:Option α} {Q:α->Prop} (h1:b=true->Ok x Q) (h2:b=false->Ok y Q):Ok (aa b x y) Q:=by
 cases b with
 | true=>exact h1 rfl
 | false=>exact h2 rfl
theorem Ok.mono {α:Type} {e:Option α} {P Q:α->Prop} (h:Ok e P) (k:∀ a,P a->Q a):Ok e Q:=by
 obtain ⟨a,e,ha⟩:=h;exact ⟨a,e,k a ha⟩
theorem Ok.eq {α:Type} {e:Option α} {a:α} (h:e=Option.some a) {Q:α->Prop} (hq:Q a):Ok e Q:=⟨a,h,hq⟩
theorem Ok.val {α:Type} {e:Option α} {a:α} (h:Ok e fun b=>b=a):e=Option.some a:=by obtain ⟨b,h1,rfl⟩:=h;exact h1
theorem wr {n:Int} (h1:-9223372036854775808<=n) (h2:n<=9223372036854775807):IntKind.i64.wrap n=n:=IntWalk.i64_in n ⟨h1,h2⟩
def Ol (m:Nat) (c:List Int×Int×Int):Prop:=Oe c.1/\0<=c.2.1/\c.2.1<=m
theorem Ol.mono {m n:Nat} {c:List Int×Int×Int} (h:Ol m c) (hn:m<=n):Ol n c:=⟨h.1,h.2.1,by have:=h.2.2;omega⟩
theorem Ol.new {x:List Int} (h:Oe x):Ol 0 (x,0,0):=⟨h,by simp,by simp⟩
theorem Q4 {α:Type} {x y:Option α}:aa true x y=x:=rfl
theorem Q5 {α:Type} {x y:Option α}:aa false x y=y:=rfl
theorem u_ {α:Type} {b:Bool} {x y:α}:aa b (some x) (some y)=some (if b then x else y):=by cases b<;>rfl
theorem Quj {α:Type} {b:Bool} {x:Option α}:aa b x x=x:=by cases b<;>rfl
theorem Q8 {α β:Type} (a:α) (f:α->Option β):Q1 (some a) f=f a:=(rfl)
theorem mI {σ β:Type} {F:(σ->Option β)->σ->Option β} {Q:β->Prop} (I:Nat->σ->Prop)
  (step:∀ n s ag,I n s->(∀ m s',m < n->I m s'->Ok (ag s') Q)->Ok (F ag s) Q):∀ (fuel n:Nat) (s:σ),n < fuel->I n s->Ok (Q9 F fuel s) Q
 | 0,n,s,h,_=>by omega
 | fuel+1,n,s,h,hi=>step n s _ hi fun m s' hm eZ=>mI I step fuel m s' (by omega) eZ
def er {α τ β:Type} (step:α->Nat->τ->(τ->Option β)->Option β) (fin:τ->Option β):List α->Nat->τ->Option β
 | [],_,t=>fin t
 | x::r,i,t=>step x i t fun t'=>er step fin r (i+1) t'
theorem Qe5 {σ τ α β:Type} (mk:τ->Int->σ) {F:(σ->Option β)->σ->Option β} (l:List α) (step:α->Nat->τ->(τ->Option β)->Option β) (fin:τ->Option β)
  (h1:∀ ag t (i:Nat) x,l[i]? = some x->F ag (mk t i)=step x i t fun t'=>ag (mk t' ((i+1:Nat):Int)))
  (h2:∀ ag t,F ag (mk t (l.length:Int))=fin t):∀ (fuel i:Nat) (t:τ),l.length < fuel+i->i<=l.length->Q9 F fuel (mk t i)=er step fin (l.drop i) i t
 | 0,i,t,h,hi=>by omega
 | fuel+1,i,t,h,hi=>by
  simp only [Q9]
  rcases Nat.lt_or_ge i l.length with au | tD
  .rw [h1 _ t i l[i] (Z6 au),List.drop_eq_getElem_cons au]
   simp only [er]
   congr 1
   funext t'
   exact Qe5 mk l step fin h1 h2 fuel (i+1) t' (by omega) (by omega)
  .have:i=l.length:=by omega
   subst this
   rw [h2,List.drop_length];rfl
theorem Qc {σ τ α β:Type} (mk:τ->Int->σ) {F:(σ->Option β)->σ->Option β} (l:List α) (step:α->Nat->τ->(τ->Option β)->Option β) (fin:τ->Option β)
  (h1:∀ ag t (i:Nat) x,l[i]? = some x->F ag (mk t i)=step x i t fun t'=>ag (mk t' ((i+1:Nat):Int)))
  (h2:∀ ag t,F ag (mk t (l.length:Int))=fin t) {fuel:Nat} (hl:l.length < fuel) (t:τ):Q9 F fuel (mk t 0)=er step fin l 0 t:=by
 have:=Qe5 mk l step fin h1 h2 fuel 0 t (by omega) (by omega)
 simpa using this
theorem CD {α τ β:Type} {p:α->Bool} {no:Option β} {fin:τ->Option β}:∀ (l:List α) (i:Nat) (t:τ),
  er (fun x _ t k=>aa (p x) (k t) no) fin l i t=aa (l.all p) (fin t) no
 | [],i,t=>rfl
 | x::r,i,t=>by
  simp only [er,List.all_cons]
  cases p x with
  | true=>simp only [Q4,Zg];exact CD r (i+1) t
  | false=>rfl
def cH {α τ:Type} (f:α->Nat->τ->τ):List α->Nat->τ->τ
 | [],_,t=>t
 | x::r,i,t=>cH f r (i+1) (f x i t)
theorem w7 {α τ β:Type} {f:α->Nat->τ->τ} {fin:τ->Option β}:∀ (l:List α) (i:Nat) (t:τ),
  er (fun x i t k=>k (f x i t)) fin l i t=fin (cH f l i t)
 | [],i,t=>rfl
 | x::r,i,t=>by simp only [er,cH];exact w7 r (i+1) (f x i t)
def fG {α γ:Type} (c:α->Nat->Bool) (e:α->Nat->γ):List α->Nat->List γ
 | [],_=>[]
 | x::r,i=>if c x i then e x i::fG c e r (i+1) else fG c e r (i+1)
theorem Vd {α γ:Type} {c:α->Nat->Bool} {e:α->Nat->γ}:∀ (l:List α) (i:Nat),(fG c e l i).length<=l.length
 | [],i=>by simp [fG]
 | x::r,i=>by have:=Vd (c:=c) (e:=e) r (i+1);unfold fG;split<;>simp<;>omega
theorem Ve {α γ:Type} {c:α->Nat->Bool} {e:α->Nat->γ} {y:γ}:∀ (l:List α) (i:Nat),y∈fG c e l i->∃ (j:Nat) (x:α),l[j]? = some x/\c x (i+j)=true/\y=e x (i+j)
 | [],i,h=>by simp [fG] at h
 | x::r,i,h=>by
  have step:y∈fG c e r (i+1)->∃ (j:Nat) (z:α),(x::r)[j]? = some z/\c z (i+j)=true/\y=e z (i+j):=by
   intro h
   obtain ⟨j,z,h1,h2,h3⟩:=Ve r (i+1) h
   exact ⟨j+1,z,by simpa using h1,by rw [<- h2];congr 1;omega,by rw [h3];congr 1;omega⟩
  unfold fG at h
  split at h
  .rename_i hc
   rcases Z2 h with rfl | h
   .exact ⟨0,x,rfl,hc,rfl⟩
   .exact step h
  .exact step h
theorem B8 {α γ β:Type} {c:α->Nat->Bool} {e:α->Nat->γ} {fin:List γ->Option β} {w:Nat}:∀ (l:List α) (i:Nat) (t:List γ),(t.length+l.length)*w<=100000000 ->
  er (fun x i t k=>aa (c x i) (aa (Nat.ble ((t.length+[e x i].length)*w) Q7) (k (t++[e x i])) none) (k t)) fin l i t=fin (t++fG c e l i)
 | [],i,t,_=>by simp [er,fG]
 | x::r,i,t,h=>by
  simp only [er,fG]
  cases hc:c x i with
  | false=>simp only [Q5,Bool.false_eq_true,if_false];exact B8 r (i+1) t (Nat.le_trans (Zk w (by simp)) h)
  | true =>
   have hr:Nat.ble ((t.length+[e x i].length)*w) Q7=true:=by
    rw [Nat.ble_eq]
    have:(t.length+[e x i].length)*w<=(t.length+(x::r).length)*w:=Zk w (by simp)
    unfold Q7;omega
   simp only [Q4,hr,if_true]
   have hw:((t++[e x i]).length+r.length)*w<=100000000:=by
    refine Nat.le_trans (Zk w ?_) h
    simp;omega
   rw [B8 r (i+1) (t++[e x i]) hw]
   simp
theorem Q3 (i:Nat):((i:Int)).toNat=i:=Int.toNat_natCast i
theorem nn (i:Nat):decide (0<=(i:Int))=true:=by simp
theorem aN {i:Nat} (h:i < 9223372036854775807):IntKind.i64.wrap ((i:Int)+1)=((i+1:Nat):Int):=by
 rw [wr (by omega) (by omega)];omega
theorem bV {α:Type} {l:List α} {i:Nat} {x:α} (h:l[i]? = some x):decide ((i:Int) < ((l.length:Nat):Int))=true:=by
 have:=(Z0 h).1
 simp;omega
theorem tJ {α:Type} {l:List α} {i:Nat} {x:α} (h:l[i]? = some x):Nat.blt i l.length=true:=by
 have:=(Z0 h).1
 simp [Nat.blt];omega
theorem bD (n:Nat):decide ((n:Int) < (n:Int))=false:=by simp
theorem room {n m w:Nat} (h:(n+m)*w<=100000000):Nat.ble ((n+m)*w) Q7=true:=by
 rw [Nat.ble_eq];unfold Q7;omega
theorem Qo {a b:Nat} (h:a < b):Nat.blt a b=true:=by simp [Nat.blt];omega
def DM (k:Nat) (zs:List Value):List Value->Nat->af->Option (Value×af)
 | [.slice (some a) n c,.int .i64 i,.int .i64 j],ai,H =>
  match decide (0<=i)&&(decide (i < j)&&(Nat.ble j.toNat n&&(Nat.beq c k&&Nat.ble n 9223372036854775807))) with
  | true=>Q1 (Qv H ⟨a.block,a.off+j.toNat*k,none⟩ ((n - j.toNat)*k)) fun cs=>Q1 (kZ H ai ⟨a.block,a.off+i.toNat*k,none⟩ cs) fun H1 =>
   Q1 (kZ H1 ai ⟨a.block,a.off+(i.toNat+(n - j.toNat))*k,none⟩ (List.replicate (j.toNat - i.toNat) zs).flatten) fun H2=>some (.slice (some a) (i.toNat+(n - j.toNat)) k,H2)
  | false=>none
 | _,_,_=>none
def I9 (t:Ty) (a:List t.T×Int×Int):Option (List t.T) :=
 aa (decide (0<=a.2.1)&&(decide (a.2.1 < a.2.2)&&(decide (a.2.2<=(a.1.length:Int))&&Nat.ble a.1.length 9223372036854775807))) (some (a.1.take a.2.1.toNat++a.1.drop a.2.2.toNat)) none
def Sd (t:Ty):nT:=⟨[(.mv,.sl t),(.ro,.int .i64),(.ro,.int .i64)],[(true,.sl t)]⟩
theorem Qe6 {H:af} {ai z p:Nat} {vs:List Value} {k:bz} (hk:ah H z=some k) (bh:k.ro=false) (hl:ai<=z) (hc:∀ v∈vs,az v=true) (hp:p+vs.length<=k.cells.length):kZ H ai ⟨z,p,none⟩ vs=some (H.set z (some ⟨lay k.cells p vs,false,k.mp⟩)):=by
 unfold kZ
 simp only [hk,Q1]
 rw [bh,List.all_eq_true.2 hc,show (vs.all Qt || Nat.ble ai z)=true by rw [Nat.ble_eq_true_of_le hl,Bool.or_true],Nat.ble_eq_true_of_le hp]
 obtain ⟨kc,kr,km⟩:=k
 simp only at bh;subst bh;rfl
theorem Om {N:Nat->Prop} {H:af} {ai:Nat} {i:Int} {w:Value} {ids:List Nat} (h:HR N H ai .fz ⟨.int .i64,i⟩ w ids):ids=[]/\w=.int .i64 i:=by
 obtain ⟨cs,h1,h2,h3⟩:=h
 refine ⟨h2,?_⟩
 have h1:cs=[w]:=h1
 unfold ax at h3
 rw [h1] at h3;simpa using h3
theorem cV.three {N:Nat->Prop} {H:af} {ai:Nat} {k0 k1 k2:Kd} {v0 v1 v2:TV} {ws:List Value} {is:List (List Nat)} (h:cV N H ai [k0,k1,k2] [v0,v1,v2] ws is) :
  ∃ w0 w1 w2 i0 i1 i2,ws=[w0,w1,w2]/\is=[i0,i1,i2]/\HR N H ai k0 v0 w0 i0/\HR N H ai k1 v1 w1 i1/\HR N H ai k2 v2 w2 i2:=by
 cases ws with
 | nil=>exact absurd h id
 | cons w0 ws =>
  cases is with
  | nil=>exact absurd h id
  | cons i0 is =>
   cases ws with
   | nil=>exact absurd h.2 id
   | cons w1 ws =>
    cases is with
    | nil=>exact absurd h.2 id
    | cons i1 is =>
     cases ws with
     | nil=>exact absurd h.2.2 id
     | cons w2 ws =>
      cases is with
      | nil=>exact absurd h.2.2 id
      | cons i2 is =>
       cases ws with
       | nil =>
        cases is with
        | nil=>exact ⟨w0,w1,w2,i0,i1,i2,rfl,rfl,h.1,h.2.1,h.2.2.1⟩
        | cons _ _=>exact absurd h.2.2.2 id
       | cons _ _=>cases is<;>exact absurd h.2.2.2 id
theorem Se {t:Ty} (ht:t.flat=true) {zs:List Value} (hz:zs.length=t.size) (I7:∀ v∈zs,Qt v=true) (hzp:∀ v∈zs,Qa v v=true) (ai:Nat):wX (Sd t) (I9 t) (DM t.size zs) ai:=by
 intro a r h H eY ws an Ds tu hnd AZ hh
 obtain ⟨l,i,j,rfl⟩:∃ (l:List t.T) (i j:Int),a=((l,i,j):List t.T×Int×Int):=⟨a.1,a.2.1,a.2.2,rfl⟩
 unfold I9 at h
 rcases jg h with ⟨hc,h⟩ | ⟨_,h⟩
 case inr=>simp at h
 simp only [Z8,Zj] at hc
 obtain ⟨c1,c2,c3,c4⟩:=hc
 have c4':=Zi c4
 injection h with h;subst h
 obtain ⟨w0,w1,w2,i0,i1,i2,rfl,rfl,h0,h1,h2⟩:=cV.three (k0:=.os) (k1:=.fz) (k2:=.fz) (v0:=⟨.sl t,l⟩) (v1:=⟨.int .i64,i⟩) (v2:=⟨.int .i64,j⟩) hh
 obtain ⟨rfl,rfl⟩:=Om h1
 obtain ⟨rfl,rfl⟩:=Om h2
 obtain ⟨u,x,e,ho⟩:=h0
 injection e with e1 e2
 injection e1 with e1;subst e1
 replace e2:=eq_of_heq e2;subst e2
 replace c1:0<=i:=c1
 replace c2:i < j:=c2
 replace c3:j<=(l.length:Int):=c3
 replace c4:Nat.ble l.length 9223372036854775807=true:=c4
 replace c4':l.length<=9223372036854775807:=c4'
 rcases ho with ⟨_,rfl,_⟩ | ⟨z,o,k,ks,rfl,_,rfl,q1,q2,q3,q4,q5,q6⟩
 .simp at c3;omega
 obtain rfl:=q6.flat ht
 have eE:∀ u,t≠.os u:=by intro u e;subst e;simp [Ty.flat] at ht
 obtain ⟨I,rfl⟩:=Int.eq_ofNat_of_zero_le c1
 obtain ⟨J,rfl⟩:=Int.eq_ofNat_of_zero_le (show 0<=j by omega)
 have hIJ:I < J:=by omega
 have hJ:J<=l.length:=by omega
 have hk:=Ty.size_pos t
 obtain ⟨f1,f2⟩:=q4
 have m1:J*t.size+(l.length - J)*t.size=l.length*t.size:=by rw [<- Nat.add_mul];congr 1;omega
 have m2:I*t.size+(l.length - J)*t.size=(I+(l.length - J))*t.size:=by rw [<- Nat.add_mul]
 have m3:(I+(l.length - J))*t.size+(J - I)*t.size=l.length*t.size:=by rw [<- Nat.add_mul];congr 1;omega
 let cs:=cw k.cells (o+J*t.size) ((l.length - J)*t.size)
 have cx:cs.length=(l.length - J)*t.size:=Dg _ _ _ (by omega)
 have On:RL (fun z'=>z'∉[[z],[],[]].flatten/\¬ eY z') H t (l.drop J) cs:=by
  have:=q5.drop J hJ
  have e:((k.cells.drop o).take (l.length*t.size)).drop (J*t.size)=cs:=by
   show _=(k.cells.drop (o+J*t.size)).take ((l.length - J)*t.size)
   rw [List.drop_take,List.drop_drop];congr 1;omega
  rw [e] at this;exact this
 have Oo:∀ v∈cs,Qa v v=true:=On.plain
 have bF:∀ v∈cs,az v=true:=by
  intro v hv
  have:=Oo v hv
  cases v<;>first | rfl | simp [Qa] at this
 have Du:∀ n:Nat,((List.replicate n zs).flatten).length=n*t.size:=by intro n;simp [hz]
 have A4:∀ (n:Nat) (v:Value),v∈(List.replicate n zs).flatten->v∈zs:=by
  intro n v hv
  simp only [List.mem_flatten,List.mem_replicate] at hv
  obtain ⟨y,⟨_,rfl⟩,hv⟩:=hv;exact hv
 have j6:Qv H ⟨z,o+J*t.size,none⟩ ((l.length - J)*t.size)=some cs:=by
  unfold Qv;simp only [q1,Q1]
  rw [Nat.ble_eq_true_of_le (by omega)];rfl
 have Ba:=Qe6 (p:=o+I*t.size) q1 q2 q3 bF (by omega)
 have DL:ah (H.set z (some ⟨lay k.cells (o+I*t.size) cs,false,k.mp⟩)) z=some ⟨lay k.cells (o+I*t.size) cs,false,k.mp⟩:=Rq (Qq q1)
 have Oq:(lay k.cells (o+I*t.size) cs).length=k.cells.length:=Ib _ _ _ (by omega)
 have YM:=Qe6 (p:=o+(I+(l.length - J))*t.size) (vs:=(List.replicate (J - I) zs).flatten) DL rfl q3 (fun v hv=>Fy (I7 v (A4 _ v hv))) (by rw [Du,Oq];omega)
 have ll2:(lay (lay k.cells (o+I*t.size) cs) (o+(I+(l.length - J))*t.size) (List.replicate (J - I) zs).flatten).length=k.cells.length:=by rw [Ib _ _ _ (by rw [Du,Oq];omega),Oq]
 have mK:(H.set z (some ⟨lay k.cells (o+I*t.size) cs,false,k.mp⟩)).set z (some ⟨lay (lay k.cells (o+I*t.size) cs) (o+(I+(l.length - J))*t.size) (List.replicate (J - I) zs).flatten,false,k.mp⟩)=H.set z (some ⟨lay (lay k.cells (o+I*t.size) cs) (o+(I+(l.length - J))*t.size) (List.replicate (J - I) zs).flatten,false,k.mp⟩):=by simp
 simp only at YM
 rw [mK] at YM
 refine ⟨.slice (some ⟨z,o,none⟩) (I+(l.length - J)) t.size,H.set z (some ⟨lay (lay k.cells (o+I*t.size) cs) (o+(I+(l.length - J))*t.size) (List.replicate (J - I) zs).flatten,false,k.mp⟩),[.slice (some ⟨z,o,none⟩) (I+(l.length - J)) t.size],[[z]],[],?_,rfl,by simp,?_,?_,?_,?_,⟨⟨t,_,rfl,.inr ⟨z,o,⟨lay (lay k.cells (o+I*t.size) cs) (o+(I+(l.length - J))*t.size) (List.replicate (J - I) zs).flatten,false,k.mp⟩,[],rfl,by simp,?_,Rq (Qq q1),rfl,q3,?_,?_,gS.AG eE⟩⟩,trivial⟩,trivial⟩
 .have hb:(decide ((0:Int)<=(I:Int))&&(decide ((I:Int) < (J:Int))&&(Nat.ble (J:Int).toNat l.length&&(Nat.beq t.size t.size&&Nat.ble l.length 9223372036854775807))))=true:=by
   rw [Z5 (by omega),Z5 (by omega),Int.toNat_natCast,Nat.ble_eq_true_of_le hJ,Nat.beq_refl,c4];rfl
  simp only [DM]
  rw [hb]
  simp only [Int.toNat_natCast]
  rw [j6];simp only [Q1]
  rw [Ba];simp only
  rw [YM]
 .intro y hy hn
  simp at hn
  exact Qh (fun e=>hn e.symm)
 .simp [Sd,J1]
 .intro y hy;left;simpa using hy
 .intro y hy;exact AZ y (by simpa using hy)
 .congr 1;simp;omega
 .have e:(l.take (I:Int).toNat++l.drop (J:Int).toNat).length*t.size=(I+(l.length - J))*t.size:=by congr 1;simp;omega
  rw [e]
  have g0:Fit o (l.length*t.size) k.cells:=⟨f1,f2⟩
  have g1:Fit o (l.length*t.size) (lay k.cells (o+I*t.size) cs):=g0.lay (by omega) Oo
  have g2:Fit o (l.length*t.size) (lay (lay k.cells (o+I*t.size) cs) (o+(I+(l.length - J))*t.size) (List.replicate (J - I) zs).flatten):=g1.lay (by rw [Du,Oq];omega) (fun v hv=>hzp v (A4 _ v hv))
  have g3:=g2.sub (p:=0) (q:=(I+(l.length - J))*t.size) (by omega)
  simpa using g3
 .have e:(l.take (I:Int).toNat++l.drop (J:Int).toNat).length*t.size=(I+(l.length - J))*t.size:=by congr 1;simp;omega
  rw [e]
  have e1:cw (lay (lay k.cells (o+I*t.size) cs) (o+(I+(l.length - J))*t.size) (List.replicate (J - I) zs).flatten) o ((I+(l.length - J))*t.size)=(cw k.cells o (l.length*t.size)).take (I*t.size)++cs:=by
   rw [Qca _ _ _ (by rw [Du,Oq];omega) _ _ (.inl (Zd _)),Qdx _ _ _ _ _ (by omega) (by omega) (by omega)]
   unfold lay
   rw [show o+I*t.size - o=I*t.size by omega]
   have vc:(cw k.cells o ((I+(l.length - J))*t.size)).length=(I+(l.length - J))*t.size:=Dg _ _ _ (by omega)
   rw [List.drop_of_length_le (by rw [vc];omega),List.append_nil]
   congr 1
   unfold cw
   rw [List.take_take,List.take_take,Nat.min_eq_left (by omega),Nat.min_eq_left (by omega)]
  have hR:RL (fun z'=>z'∉[[z],[],[]].flatten/\¬ eY z') H t (l.take I++l.drop J) ((cw k.cells o (l.length*t.size)).take (I*t.size)++cs):=RL.append (q5.take I (by omega)) On
  show RL _ _ t (l.take (I:Int).toNat++l.drop (J:Int).toNat) (cw _ o _)
  rw [e1,Int.toNat_natCast,Int.toNat_natCast]
  exact ⟨hR.1,fun q hq=>ax.flat _ ht (hR.2 q hq)⟩
def ZI (P:Program) (F:FuncId) (k:Nat) (zs:List Value):Prop :=
 ∀ (b off n cap i j:Nat) (cs:List Value) (w:World),i < j->j<=n->n<=cap->n<=9223372036854775807->cs.length=(n - j)*k->(∀ t u,cs[t]? = some u->w.cell? ⟨b,off+j*k+t,none⟩=some u)->(∀ u∈cs,u.oneCell'=true) ->
  (∃ eN m,w.shape? b=some (eN,m)/\off+n*k<=m)->(∀ t,t < n*k->w.frozen? ⟨b,off+t,none⟩=false) ->
  Calls P F #[.slice (some ⟨b,off,none⟩) n cap,.int .i64 i,.int .i64 j] w fun e w'=>e=.returned (.slice (some ⟨b,off,none⟩) (i+(n - j)) cap) /\
   w'=(w.drew.setCells b (off+i*k) cs).setCells b (off+(i+(n - j))*k) (List.replicate (j - i) zs).flatten
theorem Quk {P:Program} {F:FuncId} {k:Nat} {zs:List Value} (jQ:∀ (bB:Array Value) (w:World),(callFunc F bB).run P w=.ok (.enter F bB) w) (hk:0 < k) (hz:zs.length=k) (I7:∀ v∈zs,Qt v=true) (walk:ZI P F k zs) :
  ∀ args ai H v H',DM k zs args ai H=some (v,H')->fR P F args ai H v H':=by
 intro args ai H v H' h
 unfold DM at h
 split at h
 .rename_i a n c i j
  split at h
  .rename_i hc
   simp only [Z8,Zj] at hc
   obtain ⟨c1,c2,c3,c4,c5⟩:=hc
   have c3:=Zi c3
   have c4:=Z7 c4
   have c5:=Zi c5
   subst c4
   obtain ⟨I,rfl⟩:=Int.eq_ofNat_of_zero_le c1
   obtain ⟨J,rfl⟩:=Int.eq_ofNat_of_zero_le (show 0<=j by omega)
   simp only [Int.toNat_natCast] at h c3
   replace h:=Q2 h;obtain ⟨cs,h1,h⟩:=h
   replace h:=Q2 h;obtain ⟨H1,h2,h⟩:=h
   replace h:=Q2 h;obtain ⟨H2,h3,h⟩:=h
   simp at h;obtain ⟨rfl,rfl⟩:=h
   have hIJ:I < J:=by omega
   have A4:∀ (n:Nat) (v:Value),v∈(List.replicate n zs).flatten->Qt v=true:=by
    intro n v hv
    simp only [List.mem_flatten,List.mem_replicate] at hv
    obtain ⟨y,⟨_,rfl⟩,hv⟩:=hv;exact I7 v hv
   have j6:=RV h2
   have fP:=RV h3
   have m1:J*c+(n - J)*c=n*c:=by rw [<- Nat.add_mul];congr 1;omega
   have m2:I*c+(n - J)*c=(I+(n - J))*c:=by rw [<- Nat.add_mul]
   have m3:(I+(n - J))*c+(J - I)*c=n*c:=by rw [<- Nat.add_mul];congr 1;omega
   refine ⟨fun hl _=>?_,fun hl fc=>?_,jQ,fun ι w bB hR hargs=>?_⟩
   .have:=hl _ (List.mem_cons_self)
    cases this with
    | sl _ _ _ hb=>exact .sl _ _ _ (by rw [aJ] at hb ⊢;omega)
   .have gA:gP (aJ H.length) cs:=by
     obtain ⟨k,rP,hx⟩:=Q2 h1
     split at hx
     .simp at hx;subst hx
      intro v hv
      exact fc _ (Qq rP) _ rP v (List.mem_of_mem_drop (List.mem_of_mem_take hv))
     .simp at hx
    refine (OE h2 gA).trans ?_
    have:=OE h3 (fun v hv=>rJ (A4 _ v hv) _)
    exact this
   .obtain ⟨xs,rfl⟩:∃ xs:List Value,bB=xs.toArray:=⟨bB.toList,by simp⟩
    obtain ⟨al,ar⟩:=hargs
    simp only [List.toList_toArray] at al ar
    match xs,al,ar with
    | [y0,y1,y2],_,ar =>
    have r0:=ar 0 (by simp) (by simp)
    have r1:=ar 1 (by simp) (by simp)
    have r2:=ar 2 (by simp) (by simp)
    simp only [List.getElem_cons_zero,List.getElem_cons_succ] at r0 r1 r2
    cases r1
    cases r2
    cases r0 with
    | bC=>omega
    | eP _ _ _ cap hD wS iH =>
     obtain ⟨ds,d1,d2,d3,d4⟩:=hR.rK h1
     obtain ⟨kb,YN,hx⟩:=Q2 h1
     have DD:=hR.aH _ _ YN
     simp only at YN DD
     have bh:kb.ro=false:=by
      obtain ⟨k2,n_,nV⟩:=Q2 h2
      simp only at n_
      rw [YN] at n_;injection n_ with n_;subst n_
      split at nV
      .rename_i hr _ _ _;exact hr
      .simp at nV
     have hle:a.off+n*c<=kb.cells.length:=by
      split at hx
      .rename_i hb
       have:=Zi hb
       simp only at this;omega
      .simp at hx
     have aaa:n*c<=cap*c:=Zk _ wS
     have b_:=DD.fit
     have Av:∀ q:Nat,(ι.addr ⟨a.block,q,none⟩)=⟨(ι a.block).aH,(ι a.block).off+q,none⟩:=fun q=>rfl
     obtain ⟨eN,fZ⟩:=DD.shape (by have:=Nat.mul_pos (show 0 < n by omega) hk;omega)
     have hw:=walk (ι a.block).aH ((ι a.block).off+a.off) n cap I J ds w hIJ c3 wS c5 d1 (fun t u hu=>by
       have:=d3 t u hu
       rw [IW] at this
       simp only at this
       rw [show (ι a.block).off+a.off+J*c+t=(ι a.block).off+(a.off+J*c)+t by omega];exact this) (fun u hu=>by
       rw [OH]
       obtain ⟨q,hq,rfl⟩:=List.mem_iff_getElem.1 hu
       exact (ay.az (d2.2 q (by rw [d2.1];exact hq) hq))▸d4 _ (List.getElem_mem (by rw [d2.1];exact hq))) ⟨eN,_,fZ,by omega⟩ (fun t ht=>DD.o9 bh _ (by omega) (by omega))
     have YO:Rel ι (aJ H.length) H w.drew:=hR.bq (w':=w.drew) rfl
     obtain ⟨_,s2,s3⟩:=YO.store (P:=P) h2 d2
     obtain ⟨_,s5,s6⟩:=s2.store (P:=P) h3 (cs:=(List.replicate (J - I) zs).flatten) ⟨rfl,fun q q1 q2=>JR (A4 _ _ (List.getElem_mem q1)) ι _⟩
     simp only at s2 s3 s5 s6
     have e0:ι.addr a=⟨(ι a.block).aH,(ι a.block).off+a.off,none⟩:=rfl
     rw [e0]
     refine hw.mono ?_
     rintro e w' ⟨rfl,rfl⟩
     rw [show (ι a.block).off+a.off+I*c=(ι a.block).off+(a.off+I*c) by omega,show (ι a.block).off+a.off+(I+(n - J))*c=(ι a.block).off+(a.off+(I+(n - J))*c) by omega]
     refine ⟨ι,_,rfl,by rw [fP,j6];exact s5,?_,(Fr.drew ι H w).trans (s3.trans s6)⟩
     rw [fP,j6]
     have:=ay.eP (ι:=ι) (D:=aJ H.length) a (I+(n - J)) c cap hD (by omega) iH
     exact this
  .simp at h
 .simp at h
theorem YP (w:World) (os:Array Obj) {k:Nat} (h:k < w.heap.size):(Go.Sort.grow w os).heap[k]? = w.heap[k]?:=by
 show (w.heap++os)[k]? = _
 rw [Array.getElem?_append_left h]
theorem Rel.grow {ι:Io} {D:Nat->Prop} {H:af} {w:World} (h:Rel ι D H w) (os:Array Obj):Rel ι D H (Go.Sort.grow w os) :=
 ⟨fun b k hk=>(h.aH b k hk).bx (YP w os (h.lt hk)) rfl (fun _ _ _ x=>x),h.inj,h.iA,h.gw.cv (by show _<=(w.heap++os).size;simp) (fun k hk=>YP w os (by have:=h.gw.1;omega))⟩
theorem Fr.grow (ι:Io) (H:af) (w:World) (os:Array Obj):Fr ι H w ι H (Go.Sort.grow w os) :=
 ⟨Zd _,fun _ _=>rfl,rfl,rfl,rfl,by show _<=(w.heap++os).size;simp,fun k hk _=>YP w os hk,fun b aH h hr=>.inr ⟨b,aH,h,hr,rfl⟩,fun _ _ h _=>h⟩
theorem cV.cons_inv {N:Nat->Prop} {H:af} {ai:Nat} {k:Kd} {ks:List Kd} {v:TV} {vs:List TV} {ws:List Value} {is:List (List Nat)} (h:cV N H ai (k::ks) (v::vs) ws is):∃ w Ry i Rz,ws=w::Ry/\is=i::Rz/\HR N H ai k v w i/\cV N H ai ks vs Ry Rz:=by
 cases ws with
 | nil=>cases is<;>exact absurd h id
 | cons w ws=>cases is with
  | nil=>exact absurd h id
  | cons i is=>exact ⟨w,ws,i,is,rfl,rfl,h.1,h.2⟩
theorem cV.tA {N:Nat->Prop} {H:af} {ai:Nat} {ws:List Value} {is:List (List Nat)} (h:cV N H ai [] [] ws is):ws=[]/\is=[]:=by
 cases ws with
 | nil=>cases is with
  | nil=>exact ⟨rfl,rfl⟩
  | cons _ _=>exact absurd h id
 | cons _ _=>cases is<;>exact absurd h id
def Co (n:Int):Option ByteArray:=aa (decide (-9223372036854775808<=n)&&decide (n<=9223372036854775807)) (some ⟨(Go.Lib.itoa n).toArray⟩) none
def FP:List Value->Nat->af->Option (Value×af)
 | [.int .i64 n],_,H=>Q1 (Co n) fun s=>some (.string s,H)
 | _,_,_=>none
def Qrt:nT:=⟨[(.ro,.int .i64)],[(false,.str)]⟩
theorem Qxz (ai:Nat):wX Qrt (fun n:Int=>Co n) FP ai:=by
 rintro (n:Int) r h H eY ws an Ds tu hnd AZ hh
 obtain ⟨w0,i0,rfl,rfl,h0⟩:∃ w0 i0,ws=[w0]/\an=[i0]/\HR (fun z=>z∉an.flatten/\¬ eY z) H ai .fz ⟨.int .i64,n⟩ w0 i0:=by
  obtain ⟨w0,Ry,i0,Rz,rfl,rfl,h0,hh⟩:=cV.cons_inv hh
  obtain ⟨rfl,rfl⟩:=cV.tA hh
  exact ⟨w0,i0,rfl,rfl,h0⟩
 obtain ⟨YQ,e0,o0,q0⟩:=h0
 obtain rfl:YQ=[w0]:=e0
 unfold ax at q0
 injection q0 with q0
 have o0:i0=[]:=o0
 subst q0 o0
 replace h:Co n=some r:=h
 refine ⟨.string r,H,[.string r],[[]],[],by simp only [FP,h,Q1],rfl,Zd _,fun _ _ _=>rfl,?_,by simp,by simp,⟨⟨[.string r],rfl,rfl,by unfold ax;rfl⟩,trivial⟩,trivial⟩
 simp [Qrt,J1]
def ZG (P:Program) (F:FuncId):Prop :=
 ∀ (n:Int) (w:World),-9223372036854775808<=n->n<=9223372036854775807->GW w->Calls P F #[.int .i64 n] w fun e w'=>e=.returned (.string ⟨(Go.Lib.itoa n).toArray⟩)/\∃ k os,w'=Go.Sort.grow (w.drewN k) os
theorem Qru {P:Program} {F:FuncId} (jQ:∀ (bB:Array Value) (w:World),(callFunc F bB).run P w=.ok (.enter F bB) w) (walk:ZG P F) :
  ∀ args ai H v H',FP args ai H=some (v,H')->fR P F args ai H v H':=by
 intro args ai H v H' h
 unfold FP at h
 split at h
 .rename_i n
  replace h:=Q2 h;obtain ⟨s,h1,h⟩:=h
  simp at h;obtain ⟨rfl,rfl⟩:=h
  unfold Co aa at h1
  split at h1
  .rename_i hc
   simp only [Z8,Zj] at hc
   injection h1 with h1;subst h1
   refine ⟨fun _ _=>.str _,fun _ _=>Ab.refl ai H,jQ,fun ι w bB hR hargs=>?_⟩
   obtain ⟨xs,rfl⟩:∃ xs:List Value,bB=xs.toArray:=⟨bB.toList,by simp⟩
   obtain ⟨al,ar⟩:=hargs
   simp only [List.toList_toArray] at al ar
   match xs,al,ar with
   | [y0],_,ar =>
    have r0:=ar 0 (by simp) (by simp)
    simp only [List.getElem_cons_zero] at r0
    have e0:=r0.aM
    subst e0
    refine (walk n w hc.1 hc.2 hR.gw).mono ?_
    rintro e w' ⟨rfl,k,os,rfl⟩
    have YO:Rel ι (aJ H.length) H (w.drewN k):=hR.bq (w':=w.drewN k) rfl
    exact ⟨ι,_,rfl,Rel.grow YO os,.str _,((Fr.refl ι H w).bq (w'':=w.drewN k) rfl rfl rfl rfl).trans (Fr.grow ι _ _ os)⟩
  .simp at h1
 .simp at h
def Cp (s:ByteArray) (n:Int):Option ByteArray:=aa (decide (0<=n)&&(decide (n<=1000000)&&Nat.ble s.size 1000000)) (some ⟨(Go.Lib.repeatL s.data.toList n.toNat).toArray⟩) none
def FQ:List Value->Nat->af->Option (Value×af)
 | [.string s,.int .i64 n],_,H=>Q1 (Cp s n) fun t=>some (.string t,H)
 | _,_,_=>none
def Qw3:nT:=⟨[(.ro,.str),(.ro,.int .i64)],[(false,.str)]⟩
theorem Vc (ai:Nat):wX Qw3 (fun a:ByteArray×Int=>Cp a.1 a.2) FQ ai:=by
 rintro (⟨s,t⟩:ByteArray×Int) r h H eY ws an Ds tu hnd AZ hh
 obtain ⟨w0,i0,w1,i1,rfl,rfl,h0,h1⟩:∃ w0 i0 w1 i1,ws=[w0,w1]/\an=[i0,i1]/\HR (fun z=>z∉an.flatten/\¬ eY z) H ai .fz ⟨.str,s⟩ w0 i0/\HR (fun z=>z∉an.flatten/\¬ eY z) H ai .fz ⟨.int .i64,t⟩ w1 i1:=by
  obtain ⟨w0,Ry,i0,Rz,rfl,rfl,h0,hh⟩:=cV.cons_inv hh
  obtain ⟨w1,ws2,i1,is2,rfl,rfl,h1,hh⟩:=cV.cons_inv hh
  obtain ⟨rfl,rfl⟩:=cV.tA hh
  exact ⟨w0,i0,w1,i1,rfl,rfl,h0,h1⟩
 obtain ⟨YQ,e0,o0,q0⟩:=h0
 obtain ⟨cs1,e1,o1,q1⟩:=h1
 obtain rfl:YQ=[w0]:=e0
 obtain rfl:cs1=[w1]:=e1
 unfold ax at q0 q1
 injection q0 with q0;injection q1 with q1
 have o0:i0=[]:=o0
 have o1:i1=[]:=o1
 subst q0 q1 o0 o1
 replace h:Cp s t=some r:=h
 refine ⟨.string r,H,[.string r],[[]],[],by simp only [FQ,h,Q1],rfl,Zd _,fun _ _ _=>rfl,?_,by simp,by simp,⟨⟨[.string r],rfl,rfl,by unfold ax;rfl⟩,trivial⟩,trivial⟩
 simp [Qw3,J1]
def ZH (P:Program) (F:FuncId):Prop :=
 ∀ (s:ByteArray) (n:Nat) (w:World),n<=1000000->s.size<=1000000->Calls P F #[.string s,.int .i64 n] w fun e w'=>e=.returned (.string ⟨(Go.Lib.repeatL s.data.toList n).toArray⟩)/\Go.RowKit.Below w.heap.size w w'
theorem Rel.below {ι:Io} {D:Nat->Prop} {H:af} {w w':World} (h:Rel ι D H w) (b:Go.RowKit.Below w.heap.size w w'):Rel ι D H w' :=
 ⟨fun c k hk=>(h.aH c k hk).bx (b.block _ (h.lt hk)) rfl (fun _ _ _ x=>x),h.inj,h.iA,h.gw.cv b.size (fun k hk=>b.block k (by have:=h.gw.1;omega))⟩
theorem Fr.below (ι:Io) (H:af) {w w':World} (b:Go.RowKit.Below w.heap.size w w'):Fr ι H w ι H w' :=
 ⟨Zd _,fun _ _=>rfl,b.os,b.tape,b.output,b.size,fun k hk _=>b.block k hk,fun c aH h hr=>.inr ⟨c,aH,h,hr,rfl⟩,fun _ _ h _=>h⟩
theorem Qum {P:Program} {F:FuncId} (jQ:∀ (bB:Array Value) (w:World),(callFunc F bB).run P w=.ok (.enter F bB) w) (walk:ZH P F) :
  ∀ args ai H v H',FQ args ai H=some (v,H')->fR P F args ai H v H':=by
 intro args ai H v H' h
 unfold FQ at h
 split at h
 .rename_i s n
  replace h:=Q2 h;obtain ⟨t,h1,h⟩:=h
  simp at h;obtain ⟨rfl,rfl⟩:=h
  unfold Cp aa at h1
  split at h1
  .rename_i hc
   simp only [Z8,Zj] at hc
   obtain ⟨m,rfl⟩:=Int.eq_ofNat_of_zero_le hc.1
   injection h1 with h1;subst h1
   refine ⟨fun _ _=>.str _,fun _ _=>Ab.refl ai H,jQ,fun ι w bB hR hargs=>?_⟩
   obtain ⟨xs,rfl⟩:∃ xs:List Value,bB=xs.toArray:=⟨bB.toList,by simp⟩
   obtain ⟨al,ar⟩:=hargs
   simp only [List.toList_toArray] at al ar
   match xs,al,ar with
   | [y0,y1],_,ar =>
    have r0:=ar 0 (by simp) (by simp)
    have r1:=ar 1 (by simp) (by simp)
    simp only [List.getElem_cons_zero,List.getElem_cons_succ] at r0 r1
    have e0:=r0.bR
    have e1:=r1.aM
    subst e0 e1
    refine (walk s m w (by omega) (Zi hc.2.2)).mono ?_
    rintro e w' ⟨rfl,hb⟩
    exact ⟨ι,_,rfl,Rel.below hR hb,.str _,Fr.below ι H hb⟩
  .simp at h1
 .simp at h
end Go.Pv
