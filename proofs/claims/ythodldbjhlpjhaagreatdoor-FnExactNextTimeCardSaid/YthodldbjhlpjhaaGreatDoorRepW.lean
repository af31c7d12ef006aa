/-
  Code: the interpreter by value agrees with the first one, loops and all. And what stood behind it in 15 texts.
  Conditions: said at the theorems.
-/
import Derived.Test.YthodldbjhlpjhaaGreatDoorVLoop2
import Derived.Test.YthodldbjhlpjhaaGreatDoorVRel
import Derived.Test.YthodldbjhlpjhaaGreatDoorOpB
import Derived.Lib.LaidTab
import Derived.Attr
import Derived.IntWalk
import Derived.Sort.Grow
import Derived.Deep.Draws
import Derived.Lib.ItoaNum
import Derived.Below
import Derived.Lib.Repeat
import Derived.Lib.LastIndexByte
import Derived.Shelf.LaysM
import Derived.Ground.NamesProg
import Derived.Test.YthodldbjhlpjhaaGreatDoorProg
import Derived.WalkKit
import Derived.Shelf.Strconv.Itoa3
import Derived.Shelf.Abstract
import Derived.KernelRfl
import Derived.Shelf.Lays
import Derived.Shelf.Strings.Repeat
set_option linter.all false
namespace Go.Pv
open Go.Ev
theorem Q41 {env:PEnv}:∀ {keep:List (Nat×Value)} {env0:PEnv},keepEnv env keep=some env0→(∀ k∈keep,∃ p,pget env k.1=some p)∧(∀ q p,pget env0 q=some p→pget env q=some p∧q∈keep.map (·.1))∧∀ q∈keep.map (·.1),pget env0 q=pget env q
 | [],env0,h=>by simp [keepEnv] at h;subst h;simp [pget]
 | (q,t)::keep,env0,h=>by
  simp only [keepEnv] at h
  replace h:=ob h;obtain ⟨p,h1,h⟩:=h
  replace h:=ob h;obtain ⟨e,h2,h⟩:=h
  simp at h;subst h
  obtain ⟨a1,a2,a3⟩:=Q41 h2
  refine ⟨fun k hk=>?_,fun q' p' hp=>?_,fun q' hq=>?_⟩
  ·rcases List.mem_cons.1 hk with rfl | hk
   ·exact ⟨p,h1⟩
   ·exact a1 k hk
  ·simp only [pget] at hp
   cases hb:Nat.beq q q' with
   | true =>
    rw [hb] at hp;injection hp with hp;subst hp
    rw [← Nat.eq_of_beq_eq_true hb];exact ⟨h1,by simp⟩
   | false=>rw [hb] at hp;obtain ⟨b1,b2⟩:=a2 q' p' hp;exact ⟨b1,by simp only [List.map_cons,List.mem_cons];exact .inr b2⟩
  ·simp only [pget]
   cases hb:Nat.beq q q' with
   | true=>rw [← Nat.eq_of_beq_eq_true hb];exact h1.symm
   | false =>
    simp only [List.map_cons,List.mem_cons] at hq
    rcases hq with rfl | hq
    ·rw [Nat.beq_refl] at hb;simp at hb
    ·exact a3 q' hq
theorem Q42 {e:Env} {val:Nat→Value}:∀ {keep:List (Nat×Value)},(∀ k∈keep,eget e k.1=some (val k.1))→getKeep e keep=some (keep.map fun k=>val k.1)
 | [],_=>rfl
 | (q,t)::keep,h=>by
  have ih:=Q42 (e:=e) (val:=val) (keep:=keep) (fun k hk=>h k (List.mem_cons_of_mem _ hk))
  simp only [getKeep,h (q,t) (by simp),obind,ih,List.map_cons]
def headEnv (val:Nat→Value) (keep:List (Nat×Value)):Env:=keep.map fun k=>(k.1,val k.1)
theorem Q2g {val:Nat→Value}:∀ {keep:List (Nat×Value)} (q:Nat),eget (headEnv val keep) q=if q∈keep.map (·.1) then some (val q) else none
 | [],q=>by simp [headEnv,eget]
 | (k,t)::keep,q=>by
  simp only [headEnv,List.map_cons,eget]
  cases hb:Nat.beq k q with
  | true=>have:=Nat.eq_of_beq_eq_true hb;subst this;simp
  | false =>
   have hne:q≠k:=fun e=>by subst e;rw [Nat.beq_refl] at hb;simp at hb
   have:=Q2g (val:=val) (keep:=keep) q
   simp only [headEnv] at this
   simp only [this,List.mem_cons,hne,false_or]
theorem Q4t {β:Type} {s:S} {env:PEnv} {val:Nat→Value} (hr:∀ q p,pget env q=some p→ER s p (val q)):∀ {keep:List (Nat×Value)} {K:Env→Option β},fitKeep env keep=true→bindVals keep (keep.map fun k=>val k.1) K=K (headEnv val keep)
 | [],K,_=>rfl
 | (q,t)::keep,K,h=>by
  simp only [fitKeep,Bool.and_eq_true] at h
  obtain ⟨h1,h2⟩:=h
  simp only [bindVals,List.map_cons,vCons]
  cases hp:pget env q with
  | none=>rw [hp] at h1;simp at h1
  | some p =>
   rw [hp] at h1
   simp only at h1
   have hER:=hr q p hp
   have hAR:AR s p (val q):=by
    cases p with
    | tup cs=>rw [Q93] at h1;simp at h1
    | _=>exact hER
   rw [Q1f hAR h1,Q4t hr h2]
   rfl
theorem Q3e {L:LS} {ids:List Nat} (h:liveRw L ids=true):∀ b∈ids,∃ B,lget L b=some B∧B.rw=true:=by
 intro b hb
 have:=List.all_eq_true.1 h b hb
 split at this
 ·rename_i v bo hB;exact ⟨_,hB,rfl⟩
 ·simp at this
section
variable {A:AnnV} {β γ:Type} {X:CxV A β} {XE:Cx} {r:β} {Q:γ→Prop}
def EOk (W:List Nat) (env0:PEnv) (e0:Env) (s:S) (r:β) (KV:AExit→PEnv→LS→Option β) (KE:AExit→Env→Heap→Option γ) (Q:γ→Prop):Prop :=
 ∀ ex env e s',Keep s s'→StR s'→EnvR s' env e→Unch W env0 env e0 e→KV ex env s'.L=some r→∃ y,KE ex e s'.H=some y∧Q y
def BodyOk (X:CxV A β) (XE:Cx) (r:β) (Q:γ→Prop) (c:Code) (n:Nat):Prop :=
 ∀ (s:S) (env:PEnv) (e:Env) (KV:AExit→PEnv→LS→Option β) (KE:AExit→Env→Heap→Option γ),s.lim=XE.lim→StR s→EnvR s env e→EOk (wslots c) env e s r KV KE Q→vcode X c n env s.L KV=some r→∃ y,evCode XE c n e s.H KE=some y∧Q y
theorem Qk8 {c:Code} {n:Nat} (hX:XOk X XE) (ihc:BodyOk X XE r Q c (n+1)) {s:S} {env:PEnv} {e:Env} {KV:AExit→PEnv→LS→Option β} {KE:AExit→Env→Heap→Option γ} (hlim:s.lim=XE.lim) (hs:StR s) (he:EnvR s env e) (hK:EOk (wslots c) env e s r KV KE Q)
  (h:vcode X (.loop c) n env s.L KV=some r):∃ y,evCode XE (.loop c) n e s.H KE=some y∧Q y:=by
 simp only [vcode] at h
 simp only [evCode]
 rw [← hX.ann]
 replace h:=ob h;obtain ⟨env0,h1,h⟩:=h
 replace h:=ob h;obtain ⟨⟨tvs,ids,L1⟩,h2,h⟩:=h
 simp only at h
 split at h
 ·rename_i hchk hnd
  simp only [Bool.and_eq_true] at hchk
  obtain ⟨hin,hkept⟩:=hchk
  have hnd:=Q7j hnd
  replace h:=ob h;obtain ⟨st0,h3,h⟩:=h
  obtain ⟨kg1,kg2,kg3⟩:=Q41 h1
  let val0:Nat→Value:=fun q=>(eget e q).getD undef
  have hval0:∀ q w,eget e q=some w→val0 q=w:=fun q w hq=>by simp [val0,hq]
  have hk0:∀ k∈X.eann n,eget e k.1=some (val0 k.1):=fun k hk=>by
   obtain ⟨p,hp⟩:=kg1 k hk
   obtain ⟨w,hw,_⟩:=he.get hp
   rw [hval0 _ _ hw];exact hw
  rw [Q42 hk0];simp only [obind]
  obtain ⟨sf,lf,gf,uf,kf,tf⟩:=Qah (env:=env) (l:=(X.ann n).fzs) hs
  rw [← lf] at h2
  obtain ⟨s1,v1,v2,idss,js,hv,hv1,l1,g1,k1,t1,sr1,nd1,bd1,lv1⟩:=Q8u hval0 tf (kf.env he) h2
  have hks1:Keep s s1:=kf.trans k1
  have hl1:s1.lim=s.lim:=hks1.lim
  have hlf:sf.lim=s.lim:=kf.lim
  rw [← l1] at h lv1
  have hkeptW:∀ k∈X.eann n,k.1∉(X.ann n).slots.map (·.1)→k.1∉wslots c:=by
   intro k hk hns hw
   simp only [keptOk,Bool.and_eq_true] at hkept
   have:=List.all_eq_true.1 hkept.1 k hk
   simp only [Bool.or_eq_true,Bool.not_eq_true'] at this
   rcases this with h | h
   ·obtain ⟨x,hx,hx2⟩:=List.any_eq_true.1 h
    exact hns (List.mem_map.2 ⟨x,hx,Nat.eq_of_beq_eq_true hx2⟩)
   ·exact Qz h hw
  have hliv1:=Q3e lv1
  have hslotW:∀ q∈(X.ann n).slots.map (·.1),q∈wslots c:=by
   intro q hq
   simp only [keptOk,Bool.and_eq_true] at hkept
   obtain ⟨x,hx,rfl⟩:=List.mem_map.1 hq
   exact List.contains_iff_mem.1 (List.all_eq_true.1 hkept.2 x hx)
  have hslotK:∀ q∈(X.ann n).slots.map (·.1),q∈(X.eann n).map (·.1):=by
   intro q hq
   obtain ⟨x,hx,rfl⟩:=List.mem_map.1 hq
   have:=List.all_eq_true.1 hin x hx
   obtain ⟨k,hk,hk2⟩:=List.any_eq_true.1 this
   exact List.mem_map.2 ⟨k,hk,Nat.eq_of_beq_eq_true hk2⟩
  have inv0:∀ q p,q∉(X.ann n).slots.map (·.1)→pget env0 q=some p→ER s1 p (val0 q):=by
   intro q p _ hp
   obtain ⟨b1,_⟩:=kg2 q p hp
   obtain ⟨w,hw,hr⟩:=he.get b1
   rw [hval0 q w hw];exact hks1.ER hr
  have main:∀ (fuel:Nat) (st:TupT (X.ann n).tys) (T:S) (val:Nat→Value) (idss js:List (List Nat)) (v1 v2:List TV),StR T→Keep s1 T→(∀ b B,b∉ids→lget s1.L b=some B→lget T.L b=some B)→(∀ b∈ids,∃ B,lget T.L b=some B∧B.rw=true) →
    unT (X.ann n).tys st=v1++v2→v1.length=(X.ann n).slots.length→SR T s.lim val (X.ann n).slots v1 idss→(idss.flatten++js.flatten).Nodup→BDs T s.lim ids (X.ann n).cbs.length v2 js→(∀ k∈X.eann n,k.1∉(X.ann n).slots.map (·.1)→val k.1=val0 k.1) →
    iterP (fun again s=>obind (inBlks ids (X.ann n).cbs.length ((unT (X.ann n).tys s).drop (X.ann n).slots.length) s1.L) fun L0=>obind (fillBlks ids (X.ann n).cbs.length ((unT (X.ann n).tys s).drop (X.ann n).slots.length) L0) fun L1 =>
     obind (inSlots (X.ann n).slots ((unT (X.ann n).tys s).take (X.ann n).slots.length) env0 L1) fun i =>
     match fitKeep i.1 (X.eann n) with
     | true=>vcode X c (n+1) i.1 i.2 fun ex env' L'=>match ex with
      | .normal=>obind (keepEnv env' (X.eann n)) fun _=>obind (outAll (X.ann n) env' L') fun r'=>match sameIds r'.2.1 ids,sameBut ids 0 s1.L.bl r'.2.2.bl with
       | true,true=>obind (mkT (X.ann n).tys r'.1) fun s'=>again s'
       | _,_=>none
      | .exit id=>KV (.exit id) env' L'
      | .ret=>KV .ret env' L'
     | false=>none) fuel st=some r →
    ∃ y,iterN (fun again vs H=>bindVals (X.eann n) vs fun env=>evCode XE c (n+1) env H fun ex env' H'=>match ex with
     | .normal=>obind (getKeep env' (X.eann n)) fun vs'=>again vs' H'
     | .exit id=>KE (.exit id) env' H'
     | .ret=>KE .ret env' H') fuel ((X.eann n).map fun k=>val k.1) T.H=some y∧Q y:=by
   clear h
   intro fuel
   induction fuel with
   | zero=>intro st T val idss js v1 v2 _ _ _ _ _ _ _ _ _ _ h;simp [iterP] at h
   | succ fuel ih =>
    intro st T val idss js v1 v2 hT hkT hsame hlive hun hlen hsr hnd2 hbd hinv h
    simp only [iterP] at h
    simp only [iterN]
    rw [hun,List.drop_append_of_le_length (by omega),List.drop_of_length_le (by omega),List.nil_append,List.take_append_of_le_length (by omega),List.take_of_length_le (by omega)] at h
    replace h:=ob h;obtain ⟨L2,h4,h⟩:=h
    replace h:=ob h;obtain ⟨L2',h4',h⟩:=h
    replace h:=ob h;obtain ⟨⟨env1,L3⟩,h5,h⟩:=h
    simp only at h
    rw [List.nodup_append] at hnd2
    obtain ⟨hnd2,hnd3,hnd4⟩:=hnd2
    obtain ⟨sX,x1,x2,x3,x4,x5,x6⟩:=Qor t1 hT hkT hnd hsame hlive hl1 hbd h4 (rids:=idss.flatten++js.flatten) (fun z hz=>(List.mem_append.1 hz).elim (hsr.lim z) (hbd.lim z))
    rw [← x1] at h4'
    obtain ⟨sB,e1,y2,y3,t2,y5,y6⟩:=Q60 (T:=T) x4 (by rw [x3.lim,hl1];exact hbd) (fun b hb=>by
     obtain ⟨B,q1,_⟩:=hliv1 b hb
     have hlt:=Qe q1
     exact ⟨Nat.lt_of_lt_of_le hlt x3.nb,by rw [x3.mu b hlt,hkT.mu b hlt]⟩) x2 x6 (fun z hz=>x5 z (List.mem_append.2 (.inr hz))) hnd3 h4'
    have e2:sB.H=T.H:=y2.trans x2
    have k2:Keep s1 sB:=x3.trans y3
    have li2:∀ z∈idss.flatten,sB.Lim z:=fun z hz=>y6 z (x5 z (List.mem_append.2 (.inl hz))) (fun hm=>hnd4 z hz z hm rfl)
    have n2:∀ z,T.N z→sB.N z:=fun z hz=>y5 z (x6 z hz)
    rw [← e1] at h5
    have hsrB:SR sB sB.lim val (X.ann n).slots v1 idss:=by
     rw [k2.lim,hl1]
     have:∀ {l:List (Nat×Bool×Ty)} {vs:List TV} {idss:List (List Nat)},SR T s.lim val l vs idss→(∀ z∈idss.flatten,sB.Lim z)→SR sB s.lim val l vs idss:=by
      intro l
      induction l with
      | nil=>intro vs idss h _;cases vs<;>cases idss<;>simp_all [SR]
      | cons x l ih =>
       intro vs idss h hL
       obtain ⟨q,o,t⟩:=x
       match vs,idss,h with
       | v::vs,i::idss,h=>exact ⟨h.1.frame (fun z hz hlt=>⟨n2 z hz,by rw [e2]⟩) (fun z _=>by rw [e2]),fun z hz=>hL z (by simp [hz]),ih h.2.2 (fun z hz=>hL z (by simp at hz ⊢;exact .inr hz))⟩
     exact this hsr li2
    have invB:∀ q p,q∉(X.ann n).slots.map (·.1)→pget env0 q=some p→ER sB p (val q):=by
     intro q p hq hp
     have hmem:=(kg2 q p hp).2
     obtain ⟨k,hk,rfl⟩:=List.mem_map.1 hmem
     rw [hinv k hk hq];exact k2.ER (inv0 k.1 p hq hp)
    obtain ⟨s3,a1,a2,a3,a4,a5,a6,a7⟩:=Q7l t2 hsrB hnd2 invB h5
    split at h
    ·rename_i hfit
     rw [Q4t a5 hfit]
     have hEnv:EnvR s3 env1 (headEnv val (X.eann n)):=by
      intro q
      rw [Q2g]
      cases hp:pget env1 q with
      | none =>
       simp only
       by_cases hq:q∈(X.ann n).slots.map (·.1)
       ·obtain ⟨p,hp2⟩:=a7 q hq;rw [hp] at hp2;simp at hp2
       ·rw [a6 q hq] at hp
        split
        ·rename_i hm
         rw [kg3 q hm] at hp
         obtain ⟨k,hk,rfl⟩:=List.mem_map.1 hm
         obtain ⟨p,hp2⟩:=kg1 k hk
         rw [hp] at hp2;simp at hp2
        ·rfl
      | some p =>
       simp only
       have hm:q∈(X.eann n).map (·.1):=by
        by_cases hq:q∈(X.ann n).slots.map (·.1)
        ·exact hslotK q hq
        ·rw [a6 q hq] at hp;exact (kg2 q p hp).2
       rw [if_pos hm]
       exact ⟨val q,rfl,a5 q p hp⟩
     have hH3:s3.H=T.H:=a2.trans e2
     rw [← hH3]
     rw [← a1] at h
     have hl3:s3.lim=XE.lim:=by rw [a3.lim,k2.lim,hl1];exact hlim
     refine ihc _ _ _ _ _ hl3 a4 hEnv (fun ex env' e' s4 k4 t4 he4 hu4 h=>?_) h
     have hks4:Keep s1 s4:=(k2.trans a3).trans k4
     have hUnch:Unch (wslots c) env env' e e':=by
      intro q hq
      rcases hu4 q hq with h6 | ⟨h6,h7⟩
      ·exact .inl h6
      ·have hqs:q∉(X.ann n).slots.map (·.1):=fun hm=>hq (hslotW q hm)
       rw [a6 q hqs] at h6
       cases hp:pget env0 q with
       | none=>rw [hp] at h6;exact .inl h6
       | some p =>
        obtain ⟨c1,c2⟩:=kg2 q p hp
        right
        refine ⟨by rw [h6,hp,c1],?_⟩
        rw [h7,Q2g,if_pos c2]
        obtain ⟨k,hk,rfl⟩:=List.mem_map.1 c2
        rw [hinv k hk hqs,hk0 k hk]
     cases ex with
     | normal =>
      simp only at h ⊢
      replace h:=ob h;obtain ⟨env2,h6,h⟩:=h
      replace h:=ob h;obtain ⟨⟨tvs',ids',L4⟩,h7,h⟩:=h
      simp only at h
      obtain ⟨kh1,kh2,kh3⟩:=Q41 h6
      let val':Nat→Value:=fun q=>(eget e' q).getD undef
      have hval':∀ q w,eget e' q=some w→val' q=w:=fun q w hq=>by simp [val',hq]
      have hk':∀ k∈X.eann n,eget e' k.1=some (val' k.1):=fun k hk=>by
       obtain ⟨p,hp⟩:=kh1 k hk
       obtain ⟨w,hw,_⟩:=he4.get hp
       rw [hval' _ _ hw];exact hw
      rw [Q42 hk'];simp only [obind]
      obtain ⟨s5,w1,w2,idss',js',hw,hw1,m1,m2,m3,m4,m5,m6,m7,m8⟩:=Q8u hval' t4 he4 h7
      split at h
      ·rename_i hsi hsb
       have hsi:=Q8v hsi
       subst hsi
       replace h:=ob h;obtain ⟨st',h8,h⟩:=h
       have hks5:Keep s1 s5:=hks4.trans m3
       rw [← m1] at hsb m8
       have hl4:s4.lim=s.lim:=hks4.lim.trans hl1
       have:=ih st' s5 val' idss' js' w1 w2 m4 hks5 (fun b B hb hB=>by
        obtain ⟨B',q1,q2⟩:=Q45 hsb b B (Qif.1 hB) (by simpa using hb)
        have q1':=Qif.2 q1
        obtain ⟨B0,p1,p2,p3⟩:=hks5.live b B' (Qe hB) q1'
        rw [hB] at p1;injection p1 with p1;subst p1
        obtain ⟨p4,_⟩:=p3 q2
        rw [q1',p4]) (Q3e m8) (by rw [Q7a _ h8];exact hw) hw1 (by rw [← hl4];exact m5) m6 (by rw [← hl4];exact m7) (fun k hk hns=>by
        have hqw:=hkeptW k hk hns
        rcases hu4 k.1 hqw with h9 | ⟨h9,h10⟩
        ·obtain ⟨p,hp⟩:=kh1 k hk
         rw [hp] at h9;simp at h9
        ·rw [Q2g,if_pos (List.mem_map.2 ⟨k,hk,rfl⟩)] at h10
         rw [hval' _ _ h10];exact hinv k hk hns) h
       rw [m2] at this;exact this
      ·simp at h
     | exit id=>exact hK (.exit id) env' e' s4 (hks1.trans hks4) t4 he4 hUnch h
     | ret=>exact hK .ret env' e' s4 (hks1.trans hks4) t4 he4 hUnch h
    ·simp at h
  have:=main A.fuel st0 s1 val0 idss js v1 v2 t1 (Keep.refl s1) (fun b B _ h=>h) (Q3e lv1) (by rw [Q7a _ h3];exact hv) hv1 (by rw [← hlf];exact sr1) nd1 (by rw [← hlf];exact bd1) (fun _ _ _=>rfl) h
  rw [hX.fuel]
  rw [g1,gf] at this;exact this
 ·simp at h
theorem Q43 {ops:Array Oper} {o:Oper} (h:o∈ops.toList) {d:Nat} (hd:o.dst=some d):d∈opSlots ops :=
 List.mem_filterMap.2 ⟨o,h,hd⟩
theorem Qmq {W:List Nat} {s:S} {env:PEnv} {e:Env} {c:Operand} {b:Bool} (he:EnvR s env e) (hv:pev env c=some (.bool b)) (hW:∀ d,c=.tmp d→d∈W):EnvR s (plitE c b env) (litE c b e)∧Unch W env (plitE c b env) e (litE c b e):=by
 cases c with
 | tmp d=>exact ⟨he.cons (p:=.bool b) rfl,Unch.cons (hW d rfl)⟩
 | _=>exact ⟨he,Unch.refl _ _ _⟩
theorem Q1c (hX:XOk X XE):∀ (c:Code) (n:Nat),BodyOk X XE r Q c n
 | .skip,n=>fun s env e KV KE hlim hs he hK h=>hK .normal _ _ _ (Keep.refl _) hs he (Unch.refl _ _ _) (by simpa only [vcode] using h)
 | .label l,n=>fun s env e KV KE hlim hs he hK h=>hK .normal _ _ _ (Keep.refl _) hs he (Unch.refl _ _ _) (by simpa only [vcode] using h)
 | .exit id,n=>fun s env e KV KE hlim hs he hK h=>hK (.exit id) _ _ _ (Keep.refl _) hs he (Unch.refl _ _ _) (by simpa only [vcode] using h)
 | .ret,n=>fun s env e KV KE hlim hs he hK h=>hK .ret _ _ _ (Keep.refl _) hs he (Unch.refl _ _ _) (by simpa only [vcode] using h)
 | .region id ops d,n=>fun s env e KV KE hlim hs he hK h=>by
  simp only [vcode] at h
  simp only [evCode]
  have hW:∀ (j:Nat) (d':Nat),(ops[j]?).bind (fun (x:Oper)=>x.dst)=some d'→d'∈wslots (.region id ops d):=by
   intro j d' hj
   cases ho:ops[j]? with
   | none=>rw [ho] at hj;simp at hj
   | some o=>rw [ho] at hj;exact Q43 (by have:=Array.mem_of_getElem? ho;simpa using this) (by simpa using hj)
  cases d with
  | false=>exact Qag hX hW env e (fun o ho d hd=>Q43 ho hd) hlim hs he (Unch.refl _ _ _) (fun env' e' s' k' t' he' hu' h=>hK .normal env' e' s' k' t' he' hu' h) h
  | true=>exact Qid hX hW (fun o ho d hd=>Q43 ho hd) hlim hs he (fun env' e' s' k' t' he' hu' h=>hK .normal env' e' s' k' t' he' hu' h) h
 | .seq a b,n=>fun s env e KV KE hlim hs he hK h=>by
  simp only [vcode] at h
  simp only [evCode]
  have hma:∀ q,q∈wslots a→q∈wslots (.seq a b):=fun q hq=>by simp only [wslots,List.mem_append];exact .inl hq
  have hmb:∀ q,q∈wslots b→q∈wslots (.seq a b):=fun q hq=>by simp only [wslots,List.mem_append];exact .inr hq
  refine Q1c hX a n _ _ _ _ _ hlim hs he (fun ex env' e' s' k' t' he' hu' h=>?_) h
  cases ex with
  | normal =>
   simp only at h ⊢
   exact Q1c hX b _ _ _ _ _ _ (k'.lim.trans hlim) t' he' (fun ex2 env2 e2 s2 k2 t2 he2 hu2 h=>hK ex2 env2 e2 s2 (k'.trans k2) t2 he2 ((hu'.mono hma).trans (hu2.mono hmb)) h) h
  | exit id=>exact hK (.exit id) env' e' s' k' t' he' (hu'.mono hma) h
  | ret=>exact hK .ret env' e' s' k' t' he' (hu'.mono hma) h
 | .cond c a b,n=>fun s env e KV KE hlim hs he hK h=>by
  simp only [vcode] at h
  simp only [evCode]
  have hma:∀ q,q∈wslots a→q∈wslots (.cond c a b):=fun q hq=>by cases c<;>simp [wslots,hq]
  have hmb:∀ q,q∈wslots b→q∈wslots (.cond c a b):=fun q hq=>by cases c<;>simp [wslots,hq]
  have hmc:∀ d,c=.tmp d→d∈wslots (.cond c a b):=fun d hd=>by subst hd;simp [wslots]
  replace h:=ob h;obtain ⟨p,h1,h⟩:=h
  obtain ⟨v,e1,r1⟩:=Qm he h1
  rw [e1];simp only [obind]
  split at h
  ·rename_i t
   obtain rfl:v=.bool t:=r1
   simp only [vBool]
   obtain ⟨q1,q2⟩:=Qmq (b:=t) he h1 hmc
   cases t with
   | true =>
    simp only [oif] at h ⊢
    exact Q1c hX a n _ _ _ _ _ hlim hs q1 (fun ex2 env2 e2 s2 k2 t2 he2 hu2 h=>hK ex2 env2 e2 s2 k2 t2 he2 (q2.trans (hu2.mono hma)) h) h
   | false =>
    simp only [oif] at h ⊢
    exact Q1c hX b _ _ _ _ _ _ hlim hs q1 (fun ex2 env2 e2 s2 k2 t2 he2 hu2 h=>hK ex2 env2 e2 s2 k2 t2 he2 (q2.trans (hu2.mono hmb)) h) h
  ·simp at h
 | .block id c,n=>fun s env e KV KE hlim hs he hK h=>by
  simp only [vcode] at h
  simp only [evCode]
  refine Q1c hX c n _ _ _ _ _ hlim hs he (fun ex env' e' s' k' t' he' hu' h=>?_) h
  cases ex with
  | normal=>exact hK .normal env' e' s' k' t' he' hu' h
  | exit id' =>
   simp only at h ⊢
   cases hb:Nat.beq id' id with
   | true=>rw [hb] at h;exact hK .normal env' e' s' k' t' he' hu' h
   | false=>rw [hb] at h;exact hK (.exit id') env' e' s' k' t' he' hu' h
  | ret=>exact hK .ret env' e' s' k' t' he' hu' h
 | .loop c,n=>fun s env e KV KE hlim hs he hK h=>Qk8 hX (Q1c hX c (n+1)) hlim hs he hK h
 | .rangeFunc _ _ _ _,n=>fun s env e KV KE hlim hs he hK h=>by simp [vcode] at h
 | .scope _,n=>fun s env e KV KE hlim hs he hK h=>by simp [vcode] at h
 | .refuse _,n=>fun s env e KV KE hlim hs he hK h=>by simp [vcode] at h
 | .goto _,n=>fun s env e KV KE hlim hs he hK h=>by simp [vcode] at h
end
def AnnV.ev (A:AnnV):Ann:=⟨A.fuel,A.eloops,fun _=>.keep,A.ext⟩
theorem Q3f {P:Program} {s:S} {env:PEnv} {e:Env} (hs:StR s) (he:EnvR s env e):∀ {l:List ResultVar} {vs:List PV},resV P env s.L l=some vs→∃ ws,evRes P e s.H l=some ws∧All2 (ER s) vs ws
 | [],vs,h=>by simp [resV] at h;subst h;exact ⟨[],rfl,trivial⟩
 | .tmp t::l,vs,h=>by
  simp only [resV] at h
  replace h:=ob h;obtain ⟨p,h1,h⟩:=h
  replace h:=ob h;obtain ⟨ps,h2,h⟩:=h
  simp at h;subst h
  obtain ⟨w,e1,r1⟩:=he.get h1
  obtain ⟨ws,e2,r2⟩:=Q3f hs he h2
  exact ⟨w::ws,by simp [evRes,e1,e2,obind],r1,r2⟩
 | .cell a t::l,vs,h=>by
  simp only [resV] at h
  replace h:=ob h;obtain ⟨p,h1,h⟩:=h
  obtain ⟨w,e1,r1⟩:=he.get h1
  split at h
  ·rename_i b off
   split at h
   ·rename_i ver rw cs hb
    replace h:=ob h;obtain ⟨i,h2,h⟩:=h
    obtain ⟨hlb,m,hm,hsh,rfl⟩:=r1
    have hB:=hs.blk b _ hb
    unfold BR at hB;simp only at hB
    obtain ⟨_,m',k,hm',_,hk,hcs,_⟩:=hB
    rw [hm] at hm';injection hm' with hm';subst hm'
    have hl:=All2.length hcs
    split at h
    ·rename_i fs hu
     split at h
     ·rename_i hle
      have hle:=Nat.le_of_ble_eq_true hle
      replace h:=ob h;obtain ⟨ps,h3,h⟩:=h
      simp at h;subst h
      obtain ⟨ws,e2,r2⟩:=Q3f hs he h3
      have hld:hloadN s.H ⟨m.z,off,none⟩ i.size=some ((k.cells.drop off).take i.size):=by
       unfold hloadN;simp only [hk,obind]
       have:Nat.ble (off+i.size) k.cells.length=true:=Nat.ble_eq_true_of_le (by omega)
       rw [this]
      refine ⟨.agg ((k.cells.drop off).take i.size).toArray::ws,?_,⟨_,rfl,All2.take _ (All2.drop _ hcs)⟩,r2⟩
      simp only [evRes,e1,obind,h2,hu,hld,e2]
     ·simp at h
    ·rename_i nn fs hu
     split at h
     ·rename_i hle
      have hle:=Nat.le_of_ble_eq_true hle
      replace h:=ob h;obtain ⟨ps,h3,h⟩:=h
      simp at h;subst h
      obtain ⟨ws,e2,r2⟩:=Q3f hs he h3
      have hld:hloadN s.H ⟨m.z,off,none⟩ i.size=some ((k.cells.drop off).take i.size):=by
       unfold hloadN;simp only [hk,obind]
       have:Nat.ble (off+i.size) k.cells.length=true:=Nat.ble_eq_true_of_le (by omega)
       rw [this]
      refine ⟨.agg ((k.cells.drop off).take i.size).toArray::ws,?_,⟨_,rfl,All2.take _ (All2.drop _ hcs)⟩,r2⟩
      simp only [evRes,e1,obind,h2,hu,hld,e2]
     ·simp at h
    ·rename_i d hd1 hd2 hu
     replace h:=ob h;obtain ⟨u,h5,h⟩:=h
     replace h:=ob h;obtain ⟨ps,h3,h⟩:=h
     simp at h;subst h
     obtain ⟨ws,e2,r2⟩:=Q3f hs he h3
     obtain ⟨w,g1,g2⟩:=All2.get _ hcs h5
     have hld:hload s.H ⟨m.z,off,none⟩=some w:=by
      unfold hload;simp only [hk,obind];exact g1
     refine ⟨w::ws,?_,ER.of0 g2,r2⟩
     simp only [evRes,e1,obind,h2]
     rw [hu]
     cases d<;>first | exact absurd rfl (hd1 _) | exact absurd rfl (hd2 _ _) | (simp only [hld,e2])
    ·simp at h
   ·simp at h
  ·simp at h
theorem Qby {s:S}:∀ {ps:List PV} {ws:List Value} {i:Nat},All2 (ER s) ps ws→EnvR s (pargs i ps) (argsEnv i ws)
 | [],[],i,_=>fun q=>by simp [pargs,pget,argsEnv,eget]
 | p::ps,w::ws,i,h=>(Qby h.2).cons h.1
theorem Q71 {s:S}:∀ {ps:List PV} {ws:List Value},All2 (ER s) ps ws→ps.all notTup=true→All2 (AR s) ps ws
 | [],[],_,_=>trivial
 | p::ps,w::ws,h,g=>by
  simp only [List.all_cons,Bool.and_eq_true] at g
  refine ⟨?_,Q71 h.2 g.2⟩
  cases p with
  | tup cs=>simp [notTup] at g
  | _=>exact h.1
theorem Qk9 {s:S} {ps:List PV} {ws:List Value} (h:All2 (ER s) ps ws) (g:ps.all notTup=true):ER s (onePV ps) (oneOf ws):=Qck (Q71 h g)
def PB (s:S):List (PM×Ty)→List Value→Nat→Prop
 | [],[],_=>True
 | (m,_)::ps,w::ws,i=>match m with
  | .ro=>PB s ps ws i
  | .cl _=>PB s ps ws i
  | .mv=>PB s ps ws (i+1)
  | .io=>(i < s.L.bl.length∧match s.μ i with
    | none=>w=.slice none 0 0
    | some m=>w=.slice (some ⟨m.z,m.sh,none⟩) m.n m.es)∧PB s ps ws (i+1)
  | .ps=>(i < s.L.bl.length∧∃ m,s.μ i=some m∧m.sh=0∧w=.pointer (some ⟨m.z,0,none⟩))∧PB s ps ws (i+1)
 | _,_,_=>False
theorem PB.keep {s s':S} (hk:Keep s s'):∀ {ps:List (PM×Ty)} {ws:List Value} {i:Nat},PB s ps ws i→PB s' ps ws i
 | [],[],_,_=>trivial
 | (m,t)::ps,w::ws,i,h=>by
  cases m with
  | ro=>exact PB.keep (ps:=ps) hk h
  | cl g=>exact PB.keep (ps:=ps) hk h
  | mv=>exact PB.keep (ps:=ps) hk h
  | io=>obtain ⟨⟨h1,h2⟩,h3⟩:=h;exact ⟨⟨Nat.lt_of_lt_of_le h1 hk.nb,by rw [hk.mu i h1];exact h2⟩,h3.keep hk⟩
  | ps=>obtain ⟨⟨h1,h2⟩,h3⟩:=h;exact ⟨⟨Nat.lt_of_lt_of_le h1 hk.nb,by rw [hk.mu i h1];exact h2⟩,h3.keep hk⟩
def tailsA:List (PM×Ty)→List (List Nat)→List (List Nat)
 | (.ps,_)::ps,ids::r=>ids.drop 1::tailsA ps r
 | _::ps,_::r=>tailsA ps r
 | _,_=>[]
theorem Q0y:∀ {ps:List (PM×Ty)} {idss:List (List Nat)} {z:Nat},z∈(tailsA ps idss).flatten→z∈idss.flatten
 | [],_,z,h=>by simp [tailsA] at h
 | _::_,[],z,h=>by simp [tailsA] at h
 | (m,t)::ps,ids::idss,z,h=>by
  rw [List.flatten_cons,List.mem_append]
  cases m with
  | ps =>
   simp only [tailsA,List.flatten_cons,List.mem_append] at h
   exact h.imp (fun h=>List.mem_of_mem_drop h) (fun h=>Q0y h)
  | _=>exact .inr (Q0y (ps:=ps) h)
theorem Q30:∀ {ps:List (PM×Ty)} {idss:List (List Nat)},idss.flatten.Nodup→(tailsA ps idss).flatten.Nodup
 | [],_,_=>by simp [tailsA]
 | (m,t)::ps,[],_=>by cases m<;>simp [tailsA]
 | (m,t)::ps,ids::idss,h=>by
  rw [List.flatten_cons,List.nodup_append] at h
  obtain ⟨h1,h2,h3⟩:=h
  cases m with
  | ps =>
   simp only [tailsA,List.flatten_cons]
   rw [List.nodup_append]
   exact ⟨List.Pairwise.drop h1,Q30 h2,fun a ha b hb e=>h3 a (List.mem_of_mem_drop ha) b (Q0y hb) e⟩
  | _=>exact Q30 (ps:=ps) h2
theorem Q8h:∀ {ps:List (PM×Ty)} {vs:List TV} {ws:List Value} {idss:List (List Nat)} {s:S} {i:Nat} {env:PEnv} {L':LS},s.L.clk=0→StR s→HRs s.N s.H s.lim (ps.map fun p=>p.1.kd) vs ws idss→(∀ z∈idss.flatten,s.Lim z)→idss.flatten.Nodup→inArgs ps vs i s.L=some (env,L') →
  ∃ s',s'.L=L'∧s'.H=s.H∧Keep s s'∧StR s'∧EnvR s' env (argsEnv i ws)∧PB s' ps ws s.L.bl.length∧(∀ z,s.Lim z→z∉idss.flatten∨z∈(tailsA ps idss).flatten→s'.Lim z)∧CBs s' s.lim (psArgs ps vs s.L.bl.length) (tailsA ps idss)
 | [],[],[],[],s,i,env,L',_,hs,_,_,_,h=>by
  simp [inArgs] at h;obtain ⟨rfl,rfl⟩:=h
  exact ⟨s,rfl,rfl,Keep.refl s,hs,fun q=>by simp [pget,argsEnv,eget],trivial,fun _ h _=>h,trivial⟩
 | (m,t)::ps,v::vs,w::ws,ids::idss,s,i,env,L',hclk,hs,hh,hl,hn,h=>by
  obtain ⟨hh1,hh2⟩:=hh
  rw [List.flatten_cons,List.nodup_append] at hn
  obtain ⟨hn1,hn2,hn3⟩:=hn
  have hl2:∀ z∈idss.flatten,s.Lim z:=fun z hz=>hl z (by rw [List.flatten_cons,List.mem_append];exact .inr hz)
  have next:∀ (s1:S) (pv:PV),Keep s s1→StR s1→s1.H=s.H→s1.L.clk=0→(∀ z,s.N z→s1.N z)→(∀ z∈idss.flatten,s1.Lim z)→ER s1 pv w→(obind (inArgs ps vs (i+1) s1.L) fun r=>some ((i,pv)::r.1,r.2))=some (env,L') →
    ∃ s',s'.L=L'∧s'.H=s.H∧Keep s1 s'∧StR s'∧EnvR s' env (argsEnv i (w::ws))∧PB s' ps ws s1.L.bl.length∧(∀ z,s1.Lim z→z∉idss.flatten∨z∈(tailsA ps idss).flatten→s'.Lim z)∧CBs s' s.lim (psArgs ps vs s1.L.bl.length) (tailsA ps idss):=by
   clear h
   intro s1 pv k1 t1 g1 c1 n1 l1 ha h
   replace h:=ob h;obtain ⟨⟨env',L3⟩,h2,h⟩:=h
   simp at h;obtain ⟨rfl,rfl⟩:=h
   have hh2':HRs s1.N s1.H s1.lim (ps.map fun p=>p.1.kd) vs ws idss:=by
    rw [k1.lim];exact hh2.frame (fun z hz _=>⟨n1 z hz,by rw [g1]⟩) (fun z _=>by rw [g1])
   obtain ⟨s2,a1,a2,a3,a4,a5,a6,a7,a8⟩:=Q8h c1 t1 hh2' l1 hn2 h2
   exact ⟨s2,a1,a2.trans g1,a3,a4,a5.cons (a3.ER ha),a6,a7,by rw [k1.lim] at a8;exact a8⟩
  have own:∀ (u:Ty) (x:List u.T),u.isOs=false→v=⟨.sl u,x⟩→OwnS s.N s.H s.lim u x w ids→(obind (inArgs ps vs (i+1) (lpush s.L (.arr u x))) fun r=>some ((i,.osl s.L.bl.length 0 none)::r.1,r.2))=some (env,L') →
    ∃ s',s'.L=L'∧s'.H=s.H∧Keep s s'∧StR s'∧EnvR s' env (argsEnv i (w::ws))∧(PB s' ps ws (s.L.bl.length+1)∧(∀ z,s.Lim z→z∉(ids::idss).flatten∨z∈(tailsA ps idss).flatten→s'.Lim z)∧CBs s' s.lim (psArgs ps vs (s.L.bl.length+1)) (tailsA ps idss))∧(s.L.bl.length < s'.L.bl.length∧match s'.μ s.L.bl.length with
     | none=>w=.slice none 0 0
     | some m=>w=.slice (some ⟨m.z,m.sh,none⟩) m.n m.es):=by
   clear h
   intro u x hos hv ho h
   rcases ho with ⟨rfl,rfl,rfl⟩ | ⟨z,oo,k,ks,rfl,_,rfl,q1,q2,q3,q4,q5,q6⟩
   ·obtain ⟨s1,e1,e2,e3,k1,t1,l1,n1⟩:=hs.push0 u
    rw [← e1] at h
    have hlen:s1.L.bl.length=s.L.bl.length+1:=by rw [e1,Qc]
    obtain ⟨s2,b1,b2,b3,b4,b5,b6,b7,b8⟩:=next s1 _ k1 t1 e2 (by rw [e1];exact hclk) n1 (fun z hz=>by rw [l1];exact hl2 z hz) (ER.of0 (p:=.osl s.L.bl.length 0 none) ⟨by omega,by rw [e3];simp⟩) h
    rw [hlen] at b6 b8
    have hlt:s.L.bl.length < s1.L.bl.length:=by omega
    exact ⟨s2,b1,b2,k1.trans b3,b4,b5,⟨b6,fun z hz hm=>b7 z (by rw [l1];exact hz) (hm.imp (fun h=>by simpa using h) id),b8⟩,Nat.lt_of_lt_of_le hlt b3.nb,by rw [b3.mu _ hlt,e3]⟩
   ·have hks:=q6.noOs hos
    subst hks
    have hz:s.Lim z:=hl z (by simp)
    obtain ⟨s1,e1,e2,e3,k1,t1,l1,o1⟩:=hs.adopt (.arr u x) ⟨z,oo,u.size,x.length⟩ hz (fun s' hk hm hH hNi=>by
     unfold BR;simp only [hm]
     refine ⟨trivial,trivial,k,by rw [hH];exact q1,q4,fun i hi=>?_,fun _=>⟨q2,by rw [hk.lim];exact q3⟩,fun e=>absurd e (by decide)⟩
     have:=q5.2 i hi
     have hmi:=Q0l (k:=u.size) hi
     unfold seg at this;rw [List.drop_take,List.take_take,Nat.min_eq_left (by omega),List.drop_drop] at this
     rw [hH];exact Rep.mono (fun z hz=>(hNi z).2 hz) _ this)
    rw [← e1] at h
    have hlen:s1.L.bl.length=s.L.bl.length+1:=by rw [e1,Qc]
    obtain ⟨s2,b1,b2,b3,b4,b5,b6,b7,b8⟩:=next s1 _ k1 t1 e2 (by rw [e1];exact hclk) (fun z' hz'=>⟨fun h=>hz'.1 ((o1 z').1 h),by rw [k1.ban];exact hz'.2⟩) (fun z' hz'=>(l1 z').2 ⟨hl2 z' hz',fun e=>hn3 z (by simp) z' hz' e.symm⟩) (ER.of0 (p:=.osl s.L.bl.length 0 none) ⟨by omega,by rw [e3];simp⟩) h
    rw [hlen] at b6 b8
    have hlt:s.L.bl.length < s1.L.bl.length:=by omega
    exact ⟨s2,b1,b2,k1.trans b3,b4,b5,⟨b6,fun z' hz' hm=>b7 z' ((l1 z').2 ⟨hz',fun e=>by subst e;rcases hm with hm | hm;exact hm (by simp);exact hn3 _ (by simp) _ (Q0y hm) rfl⟩) (hm.imp (fun h=>by simp only [List.flatten_cons,List.mem_append,not_or] at h;exact h.2) id),b8⟩,Nat.lt_of_lt_of_le hlt b3.nb,by rw [b3.mu _ hlt,e3]⟩
  simp only [inArgs] at h
  cases m with
  | cl g =>
   obtain ⟨rfl,rfl⟩:=hh1
   obtain ⟨s2,b1,b2,b3,b4,b5,b6,b7,b8⟩:=next s (.fn g [] []) (Keep.refl s) hs rfl hclk (fun _ h=>h) hl2 ⟨[],[],rfl,trivial,trivial⟩ h
   exact ⟨s2,b1,b2,b3,b4,b5,b6,fun z hz hm=>b7 z hz (hm.imp (fun h=>by simpa using h) id),b8⟩
  | ro =>
   simp only at h
   obtain ⟨cs,hv,hrep⟩:=hh1
   obtain ⟨s2,b1,b2,b3,b4,b5,b6,b7,b8⟩:=next s _ (Keep.refl s) hs rfl hclk (fun _ h=>h) hl2 (ER.of (Q55 hv (Rep.mono (fun z hz=>⟨hz,fun c h1 h2=>by omega⟩) _ hrep.rep))) h
   exact ⟨s2,b1,b2,b3,b4,b5,b6,fun z hz hm=>b7 z hz (hm.imp (fun h=>by simp only [List.flatten_cons,List.mem_append,not_or] at h;exact h.2) id),b8⟩
  | mv =>
   obtain ⟨u,x,rfl,ho⟩:=hh1
   simp only at h
   obtain ⟨s1,e1,e2,k1,t1,a1,n1,l1⟩:=Q33 hs ho (fun z hz=>hl z (by rw [List.flatten_cons,List.mem_append];exact .inl hz))
   rw [← e1] at h
   have hlen:s1.L.bl.length=s.L.bl.length+1:=by rw [e1,Qc]
   obtain ⟨s2,b1,b2,b3,b4,b5,b6,b7,b8⟩:=next s1 _ k1 t1 e2 (by rw [e1];exact hclk) n1 (fun z hz=>l1 z (hl2 z hz) (fun hm=>hn3 z hm z hz rfl)) (ER.of0 a1) h
   rw [hlen] at b6 b8
   exact ⟨s2,b1,b2,k1.trans b3,b4,b5,b6,fun z hz hm=>b7 z (l1 z hz (fun hi=>by rcases hm with hm | hm;exact hm (by simp [hi]);exact hn3 _ hi _ (Q0y (ps:=ps) hm) rfl)) (hm.imp (fun h=>by simp only [List.flatten_cons,List.mem_append,not_or] at h;exact h.2) id),b8⟩
  | io =>
   obtain ⟨u,x,rfl,ho⟩:=hh1
   simp only at h
   split at h
   ·simp at h
   rename_i hos
   obtain ⟨s',a1,a2,a3,a4,a5,a6,a7⟩:=own u x hos rfl ho h
   exact ⟨s',a1,a2,a3,a4,a5,⟨a7,a6.1⟩,fun z hz hm=>a6.2.1 z hz hm,a6.2.2⟩
  | ps =>
   obtain ⟨z,k,j,rfl,rfl,q1,q2,q3,q4⟩:=hh1
   simp only at h
   have hz:s.Lim z:=hl z (by simp)
   obtain ⟨hzj,hnj⟩:=List.nodup_cons.1 hn1
   obtain ⟨s1,e1,e2,e3,k1,t1,l1,o1⟩:=hs.adopt (.cells (reify 0 v.1 v.2)) ⟨z,0,0,0⟩ hz (fun s' hk hm hH hNi=>by
    unfold BR;simp only
    refine ⟨trivial,_,k,hm,rfl,by rw [hH];exact q1,Q0g _ ?_,q2,by rw [hk.lim];exact q3⟩
    exact Rep.frame (H:=s.H) (fun z hz hlt=>⟨hk.NN (st:=0) hlt ⟨hz,fun c h1 h2=>by omega⟩,by rw [hH]⟩) _ q4.rep)
   rw [← e1] at h
   have hlen:s1.L.bl.length=s.L.bl.length+1:=by rw [e1,Qc]
   have hlt:s.L.bl.length < s1.L.bl.length:=by omega
   have hN1:∀ z,s.N z→s1.N z:=fun z' hz'=>⟨fun h=>hz'.1 ((o1 z').1 h),by rw [k1.ban];exact hz'.2⟩
   obtain ⟨s2,b1,b2,b3,b4,b5,b6,b7,b8⟩:=next s1 _ k1 t1 e2 (by rw [e1];exact hclk) hN1 (fun z' hz'=>(l1 z').2 ⟨hl2 z' hz',fun e=>hn3 z (by simp) z' hz' e.symm⟩) (ER.of0 (p:=.ptr s.L.bl.length 0) ⟨by omega,_,e3,rfl,rfl⟩) h
   rw [hlen] at b6 b8
   refine ⟨s2,b1,b2,k1.trans b3,b4,b5,⟨⟨Nat.lt_of_lt_of_le hlt b3.nb,_,by rw [b3.mu _ hlt];exact e3,rfl,rfl⟩,b6⟩,fun z' hz' hm=>?_,⟨Nat.lt_of_lt_of_le hlt b3.nb,⟨⟨z,0,0,0⟩,k,by rw [b3.mu _ hlt];exact e3,rfl,by rw [b2];exact q1,q2,q3,RepO.frame (N:=s.N) (H:=s.H) (G:=s2.H) (M:=s2.N) (fun y hy hy'=>⟨b3.N (by rw [e2];exact hy') (hN1 y hy),by rw [b2]⟩) v.1 q4 (fun y (_:y∈j)=>by rw [b2])⟩,fun y hy=>?_⟩,b8⟩
   ·have hne:z'≠z:=by
     rintro rfl
     rcases hm with hm | hm
     ·exact hm (by simp)
     ·simp only [tailsA,List.drop_succ_cons,List.drop_zero,List.flatten_cons,List.mem_append] at hm
      rcases hm with hm | hm
      ·exact hzj hm
      ·exact hn3 _ (by simp) _ (Q0y hm) rfl
    refine b7 z' ((l1 z').2 ⟨hz',hne⟩) ?_
    rcases hm with hm | hm
    ·simp only [List.flatten_cons,List.mem_append,not_or] at hm;exact .inl hm.2
    ·simp only [tailsA,List.drop_succ_cons,List.drop_zero,List.flatten_cons,List.mem_append] at hm
     rcases hm with hm | hm
     ·exact .inl (fun h=>hn3 z' (by simp [hm]) z' h rfl)
     ·exact .inr hm
   ·have hyl:s.Lim y:=hl y (by rw [List.flatten_cons];exact List.mem_append.2 (.inl (List.mem_cons_of_mem _ (by simpa using hy))))
    refine b7 y ((l1 y).2 ⟨hyl,fun e=>hzj (by subst e;simpa using hy)⟩) (.inl (fun h=>hn3 y (List.mem_cons_of_mem _ (by simpa using hy)) y h rfl))
theorem Q5k:∀ {rs:List (Bool×Ty)} {ps:List PV} {ws:List Value} {s:S} {vs:List TV} {L':LS},StR s→All2 (ER s) ps ws→outRes rs ps s.L=some (vs,L') →
  ∃ s1 idss,s1.L=L'∧s1.H=s.H∧s1.μ=s.μ∧Keep s s1∧StR s1∧(∀ z,s.Lim z→s1.Lim z)∧HRs s1.N s1.H s.lim (rs.map fun q=>kdR q.1) vs ws idss∧(∀ z∈idss.flatten,s1.Lim z)∧idss.flatten.Nodup∧(∀ z∈idss.flatten,¬ s.Lim z)∧vs.length=rs.length
 | [],[],[],s,vs,L',hs,he,h=>by
  simp [outRes] at h;obtain ⟨rfl,rfl⟩:=h
  exact ⟨s,[],rfl,rfl,rfl,Keep.refl s,hs,fun _ h=>h,trivial,by simp,by simp,by simp,rfl⟩
 | (o,t)::rs,p::ps,w::ws,s,vs,L',hs,he,h=>by
  obtain ⟨r1,he⟩:=he
  simp only [outRes] at h
  replace h:=ob h;obtain ⟨⟨x,L2⟩,h2,h⟩:=h
  replace h:=ob h;obtain ⟨⟨vs',L3⟩,h3,h⟩:=h
  simp at h;obtain ⟨rfl,rfl⟩:=h
  simp only at h3
  cases o with
  | true =>
   obtain ⟨hx,s1,ids,l1,g1,u1,k1,t1,hh,hl,hnl,hnd,ho⟩:=Q3h hs r1 h2
   rw [← l1] at h3
   obtain ⟨s2,idss,a1,a2,a3,a4,a5,a6,a7,a8,a9,a10,a11⟩:=Q5k t1 (All2.mono (fun _ _=>k1.ER) he) h3
   have hlim:s1.lim=s.lim:=k1.lim
   refine ⟨s2,ids::idss,a1,a2.trans g1,a3.trans u1,k1.trans a4,a5,fun z hz=>a6 z ((hl z).2 (.inl hz)),⟨hh.frame (fun z hz hlt=>⟨a4.N hlt hz,by rw [a2]⟩) (fun z _=>by rw [a2]),by rw [← hlim];exact a7⟩,?_,?_,?_,by simp [a11]⟩
   ·intro z hz
    rw [List.flatten_cons,List.mem_append] at hz
    rcases hz with hz | hz
    ·exact a6 z ((hl z).2 (.inr hz))
    ·exact a8 z hz
   ·rw [List.flatten_cons,List.nodup_append]
    exact ⟨hnd,a9,fun a ha b hb e=>by subst e;exact a10 a hb ((hl a).2 (.inr ha))⟩
   ·intro z hz
    rw [List.flatten_cons,List.mem_append] at hz
    rcases hz with hz | hz
    ·exact hnl z hz
    ·exact fun h=>a10 z hz ((hl z).2 (.inl h))
  | false =>
   simp only [outOne] at h2
   split at h2
   ·rename_i hok
    simp only [Bool.and_eq_true] at hok
    replace h2:=ob h2;obtain ⟨⟨y,L4⟩,h4,h2⟩:=h2
    simp at h2;obtain ⟨rfl,rfl⟩:=h2
    obtain ⟨s1,ids,l1,g1,u1,k1,t1,rr1,hl,hnl,hnd,o1⟩:=Q1r t hs (r1.cells hok.1) h4
    rw [← l1] at h3
    obtain ⟨s2,idss,a1,a2,a3,a4,a5,a6,a7,a8,a9,a10,a11⟩:=Q5k t1 (All2.mono (fun _ _=>k1.ER) he) h3
    have hlim:s1.lim=s.lim:=k1.lim
    refine ⟨s2,ids::idss,a1,a2.trans g1,a3.trans u1,k1.trans a4,a5,fun z hz=>a6 z ((hl z).2 (.inl hz)),⟨⟨_,Qad r1 hok.1 hok.2,RepO.frame (fun z hz hlt=>⟨a4.N hlt hz,by rw [a2]⟩) t rr1 (fun z _=>by rw [a2])⟩,by rw [← hlim];exact a7⟩,?_,?_,?_,by simp [a11]⟩
    ·intro z hz
     rw [List.flatten_cons,List.mem_append] at hz
     rcases hz with hz | hz
     ·exact a6 z ((hl z).2 (.inr hz))
     ·exact a8 z hz
    ·rw [List.flatten_cons,List.nodup_append]
     exact ⟨hnd,a9,fun a ha b hb e=>by subst e;exact a10 a hb ((hl a).2 (.inr ha))⟩
    ·intro z hz
     rw [List.flatten_cons,List.mem_append] at hz
     rcases hz with hz | hz
     ·exact hnl z hz
     ·exact fun h=>a10 z hz ((hl z).2 (.inl h))
   ·simp at h2
 | [],_::_,_,_,_,_,_,_,h=>by simp [outRes] at h
 | _::_,[],_,_,_,_,_,_,h=>by simp [outRes] at h
theorem Q1n:∀ {ps:List (PM×Ty)} {i j:Nat},j∈outIdx ps i→i≤j
 | [],i,j,h=>by simp [outIdx] at h
 | (m,t)::ps,i,j,h=>by
  cases m with
  | ro=>exact Q1n (ps:=ps) h
  | cl g=>exact Q1n (ps:=ps) h
  | mv=>have:=Q1n (ps:=ps) (i:=i+1) h;omega
  | io=>simp only [outIdx,List.mem_cons] at h;rcases h with rfl | h;exact Nat.le_refl _;have:=Q1n h;omega
  | ps=>simp only [outIdx,List.mem_cons] at h;rcases h with rfl | h;exact Nat.le_refl _;have:=Q1n h;omega
theorem Q0z:∀ {ps:List (PM×Ty)} {ws:List Value} {s:S} {i:Nat} {vs:List TV} {L':LS},StR s→PB s ps ws i→outOuts ps i s.L=some (vs,L') →
  ∃ s1 oids,s1.L=L'∧s1.H=s.H∧s1.μ=s.μ∧Keep s s1∧StR s1∧(∀ z,s.Lim z→s1.Lim z)∧HRs s1.N s1.H s.lim (outKd ps) vs (outVs ps ws) oids ∧
   (∀ z∈oids.flatten,(s1.Lim z∧¬ s.Lim z)∨∃ j∈outIdx ps i,∃ m,s1.μ j=some m∧m.z=z) ∧
   ((∀ j∈outIdx ps i,∃ B,lget s1.L j=some B∧B.rw=true)→oids.flatten.Nodup)
 | [],[],s,i,vs,L',hs,_,h=>by
  simp [outOuts] at h;obtain ⟨rfl,rfl⟩:=h
  exact ⟨s,[],rfl,rfl,rfl,Keep.refl s,hs,fun _ h=>h,trivial,by simp,by simp⟩
 | (m,t)::ps,w::ws,s,i,vs,L',hs,hp,h=>by
  simp only [outOuts] at h
  cases m with
  | ro=>exact Q0z (ps:=ps) hs hp h
  | cl g=>exact Q0z (ps:=ps) hs hp h
  | mv=>exact Q0z (ps:=ps) hs hp h
  | io =>
   obtain ⟨⟨hi,hm⟩,hp2⟩:=hp
   simp only at h
   split at h
   ·rename_i u
    replace h:=ob h;obtain ⟨x,h1,h⟩:=h
    replace h:=ob h;obtain ⟨⟨vs',L3⟩,h2,h⟩:=h
    simp at h;obtain ⟨rfl,rfl⟩:=h
    obtain ⟨s1,oids,a1,a2,a3,a4,a5,a6,a7,a8,a9⟩:=Q0z hs hp2 h2
    unfold outAb at h1
    split at h1
    ·rename_i ver u' xs hb
     split at h1
     ·simp at h1
     rename_i hos
     have hno:∀ t,u'≠.os t:=fun t e=>by subst e;simp [Ty.isOs] at hos
     replace h1:=ob h1;obtain ⟨y,h4,h1⟩:=h1
     simp at h1;subst h1
     have e0:=Qf h4
     injection e0 with e0;subst e0
     have:=Q9 h4;subst this
     cases hm':s.μ i with
     | none =>
      rw [hm'] at hm;subst hm
      refine ⟨s1,[]::oids,a1,a2,a3,a4,a5,a6,⟨⟨u',xs,rfl,.inl ⟨rfl,Q36 hs hb hm',rfl⟩⟩,a7⟩,fun z hz=>?_,fun hl=>?_⟩
      ·rw [List.flatten_cons,List.nil_append] at hz
       rcases a8 z hz with h | ⟨j,j1,j2⟩
       ·exact .inl h
       ·exact .inr ⟨j,by simp [outIdx,j1],j2⟩
      ·rw [List.flatten_cons,List.nil_append];exact a9 (fun j hj=>hl j (by simp [outIdx,hj]))
     | some m =>
      rw [hm'] at hm;subst hm
      obtain ⟨b1,b2,k,b3,b4,b5,b6,b7⟩:=Qw hs hb hm'
      have hmi:s1.μ i=some m:=by rw [a3];exact hm'
      refine ⟨s1,[m.z]::oids,a1,a2,a3,a4,a5,a6,⟨⟨u',xs,rfl,.inr ⟨m.z,m.sh,k,[],rfl,by simp,by rw [b1,b2],by rw [a2];exact b3,(b6 rfl).1,(b6 rfl).2,Q1s hs hb hm' b3,(RL.ofBlk b4 b5).frame (fun z hz hlt=>⟨a4.N hlt hz,by rw [a2]⟩),InR.ofNo hno⟩⟩,a7⟩,fun z hz=>?_,fun hl=>?_⟩
      ·rw [List.flatten_cons,List.mem_append] at hz
       rcases hz with hz | hz
       ·simp at hz;exact .inr ⟨i,by simp [outIdx],m,hmi,hz.symm⟩
       ·rcases a8 z hz with h | ⟨j,j1,j2⟩
        ·exact .inl h
        ·exact .inr ⟨j,by simp [outIdx,j1],j2⟩
      ·rw [List.flatten_cons,List.nodup_append]
       refine ⟨by simp,a9 (fun j hj=>hl j (by simp [outIdx,hj])),fun p hp q hq e=>?_⟩
       simp at hp;subst hp;subst e
       obtain ⟨B,c1,c2⟩:=hl i (by simp [outIdx])
       rcases a8 _ hq with ⟨h,_⟩ | ⟨j,j1,m',j2,j3⟩
       ·exact a5.lm i B m c1 hmi h
       ·obtain ⟨B',d1,d2⟩:=hl j (by simp [outIdx,j1])
        have:=a5.inj i j B B' m m' c1 d1 c2 hmi j2 j3.symm
        have:=Q1n j1;omega
    ·simp at h1
   ·simp at h
  | ps =>
   obtain ⟨⟨hi,m,hm,hsh,rfl⟩,hp2⟩:=hp
   simp only at h
   replace h:=ob h;obtain ⟨⟨x,L2⟩,h1,h⟩:=h
   replace h:=ob h;obtain ⟨⟨vs',L3⟩,h2,h⟩:=h
   simp at h;obtain ⟨rfl,rfl⟩:=h
   unfold outCo at h1
   split at h1
   ·rename_i ver cs hb
    replace h1:=ob h1;obtain ⟨⟨y,L4⟩,h4,h1⟩:=h1
    simp at h1;obtain ⟨rfl,rfl⟩:=h1
    have hB:=hs.blk i _ hb
    unfold BR at hB;simp only at hB
    obtain ⟨_,m',k,hm',_,hk,hcs,hro,hlm⟩:=hB
    rw [hm] at hm';injection hm' with hm';subst hm'
    obtain ⟨s1,j,l1,g1,u1,k1,t1,rr1,li1,nl1,nd1,o1⟩:=Q1r t hs hcs h4
    simp only at h2
    rw [← l1] at h2
    obtain ⟨s2,oids,a1,a2,a3,a4,a5,a6,a7,a8,a9⟩:=Q0z t1 (hp2.keep k1) h2
    have hlim:s1.lim=s.lim:=k1.lim
    have hmi:s2.μ i=some m:=by rw [a3,u1];exact hm
    have hj2:∀ z∈j,s2.Lim z:=fun z hz=>a6 z ((li1 z).2 (.inr hz))
    refine ⟨s2,(m.z::j)::oids,a1,a2.trans g1,a3.trans u1,k1.trans a4,a5,fun z hz=>a6 z ((li1 z).2 (.inl hz)),⟨⟨m.z,k,j,rfl,rfl,by rw [a2,g1];exact hk,hro,hlm,RepO.frame (fun z hz hlt=>⟨a4.N hlt hz,by rw [a2]⟩) t rr1 (fun z _=>by rw [a2])⟩,by rw [← hlim];exact a7⟩,fun z hz=>?_,fun hl=>?_⟩
    ·rw [List.flatten_cons,List.mem_append] at hz
     rcases hz with hz | hz
     ·rcases List.mem_cons.1 hz with rfl | hz
      ·exact .inr ⟨i,by simp [outIdx],m,hmi,rfl⟩
      ·exact .inl ⟨hj2 z hz,nl1 z hz⟩
     ·rcases a8 z hz with ⟨h,h'⟩ | ⟨j,j1,j2⟩
      ·exact .inl ⟨h,fun h0=>h' ((li1 z).2 (.inl h0))⟩
      ·exact .inr ⟨j,by simp [outIdx,j1],j2⟩
    ·obtain ⟨B,c1,c2⟩:=hl i (by simp [outIdx])
     rw [List.flatten_cons,List.nodup_append]
     refine ⟨List.nodup_cons.2 ⟨fun h=>a5.lm i B m c1 hmi (hj2 _ h),nd1⟩,a9 (fun j hj=>hl j (by simp [outIdx,hj])),fun p hp q hq e=>?_⟩
     subst e
     rcases List.mem_cons.1 hp with rfl | hp
     ·rcases a8 _ hq with ⟨h,_⟩ | ⟨j,j1,m',j2,j3⟩
      ·exact a5.lm i B m c1 hmi h
      ·obtain ⟨B',d1,d2⟩:=hl j (by simp [outIdx,j1])
       have:=a5.inj i j B B' m m' c1 d1 c2 hmi j2 j3.symm
       have:=Q1n j1;omega
     ·rcases a8 _ hq with ⟨_,h⟩ | ⟨j,j1,m',j2,rfl⟩
      ·exact h ((li1 _).2 (.inr hp))
      ·obtain ⟨B',d1,d2⟩:=hl j (by simp [outIdx,j1])
       exact a5.lm j B' m' d1 j2 (hj2 _ hp)
   ·simp at h1
structure LevOk (P:Program) (A:AnnV) (l:Lev A) (callE:FuncId→List Value→Nat→Heap→Option (Value×Heap)):Prop where
 call:∀ lim f,A.inline f=false→FnOk (A.sig f) (l.call f) (callE f) lim
 inl:∀ lim (β:Type) f,A.inline f=true→∀ {γ:Type} {args:List PV} {ws:List Value} {s:S} {KV:PV→LS→Option β} {KE:Value→Heap→Option γ} {r:β} {Q:γ→Prop},StR s→s.lim=lim→All2 (ER s) args ws→KOk s r KV KE Q→l.inl β f args s.L KV=some r →
  ∃ y,(obind (callE f ws lim s.H) fun q=>KE q.1 q.2)=some y∧Q y
theorem LevOk.x {P:Program} {A:AnnV} {l:Lev A} {callE:FuncId→List Value→Nat→Heap→Option (Value×Heap)} (h:LevOk P A l callE) (β:Type) (lim nt:Nat) (f:FuncId):XOk (β:=β) ⟨P,l.call,l.inl β,nt,A.own f,A.loops f,A.eloops f⟩ ⟨P,callE,lim,nt,A.fuel,A.eloops f⟩ :=
 ⟨rfl,rfl,rfl,rfl,fun g hg=>h.call lim g hg,fun g hg=>h.inl lim β g hg⟩
theorem HRs.len {N:Nat→Prop} {H:Heap} {lim:Nat}:∀ {ks:List Kd} {vs:List TV} {ws:List Value} {is:List (List Nat)},HRs N H lim ks vs ws is→ks.length=ws.length∧∀ z∈is.flatten,z < H.length
 | [],[],[],[],_=>⟨rfl,by simp⟩
 | _::_,_::_,_::_,_::_,h=>by
  obtain ⟨a,b⟩:=HRs.len h.2
  refine ⟨by simp [a],fun z hz=>?_⟩
  rw [List.flatten_cons,List.mem_append] at hz
  rcases hz with hz | hz
  ·exact h.1.lt z hz
  ·exact b z hz
theorem Qmr {P:Program} {A:AnnV} {l:Lev A} {callE:FuncId→List Value→Nat→Heap→Option (Value×Heap)} (hl:LevOk P A l callE) (lim:Nat) (f:FuncId):FnOk (A.sig f) (runF P A l f) (runFn P A.ev callE f) lim:=by
 intro a r h H Ban ws idss hBan hlimH hnd hdis hh
 obtain ⟨hlen,hidlt⟩:=hh.len
 unfold runF at h
 unfold runFn
 split at h
 ·simp at h
 ·rename_i fn hfn
  rw [hfn]
  simp only
  split at h
  ·rename_i c hb hnt hname
   have hble:Nat.ble ws.length fn.ntmps=true:=by rw [← hlen];simpa using hnt
   rw [hb,hble,hname]
   simp only
   replace h:=ob h;obtain ⟨⟨env,L0⟩,h1,h⟩:=h
   replace h:=ob h;obtain ⟨L1,h1b,h⟩:=h
   simp only at h1b h
   let sE:S:={ μ:=fun _=>none,L:=⟨[],0⟩,H:=H,Ban:=Ban,Old:=fun _ _=>False,Lim:=fun z=>z∈idss.flatten,lim:=lim,Kid:=fun _=>none }
   have hlE:∀ b B,lget sE.L b=some B→False:=fun b B hB=>by have:=Qe hB;simp [sE] at this
   have hownE:∀ z,Own sE z↔z∈idss.flatten:=by
    intro z;constructor
    ·rintro (⟨b,B,m,h1,_⟩ | h | ⟨p,hp⟩)
     ·exact (hlE b B h1).elim
     ·exact h
     ·simp [sE] at hp
    ·exact fun h=>.inr (.inl h)
   have tE:StR sE:=⟨fun b B hB=>(hlE b B hB).elim,fun b _ B _ _ _ hB=>(hlE b B hB).elim,fun z hz=>⟨hBan z hz,fun ho=>hdis z ((hownE z).1 ho) hz⟩,hlimH,fun b B _ hB=>(hlE b B hB).elim,fun z hz=>hidlt z hz,fun z p hp=>by simp [sE] at hp,fun z p hp=>by simp [sE] at hp⟩
   have hhE:HRs sE.N sE.H sE.lim ((A.sig f).params.map fun p=>p.1.kd) (unT (A.sig f).ptys a) ws idss:=hh.frame (fun z hz _=>⟨⟨fun ho=>hz.1 ((hownE z).1 ho),hz.2⟩,rfl⟩) (fun _ _=>rfl)
   obtain ⟨sF,lF,gF,kF,tF,heF,pbF,liF,cbF⟩:=Q8h (s:=sE) rfl tE hhE (fun z hz=>hz) hnd h1
   rw [← lF] at h1b
   obtain ⟨s0,l0,g0',k0',t0,_,_⟩:=Q7d tF (by rw [kF.lim];exact cbF) (fun z hz=>liF z (Q0y hz) (.inr hz)) (Q30 hnd) h1b
   rw [← l0] at h
   have g0:s0.H=sE.H:=g0'.trans gF
   have k0:Keep sE s0:=kF.trans k0'
   have he0:=k0'.env heF
   have pb0:PB s0 (A.sig f).params ws 0:=pbF.keep k0'
   have hg0:s0.H=H:=g0
   obtain ⟨QF,hQF⟩:∃ QF:Value×Heap→Prop,QF=fun q=>∃ rvs rids oids,q.1=oneOf rvs∧H.length≤q.2.length∧(∀ z,z < H.length→z∉idss.flatten→hget q.2 z=hget H z) ∧
     (rids.flatten++oids.flatten).Nodup∧(∀ z∈rids.flatten++oids.flatten,z∈idss.flatten∨H.length≤z)∧(∀ z∈rids.flatten++oids.flatten,¬ Ban z) ∧
     HRs (fun z=>z∉rids.flatten++oids.flatten∧¬ Ban z) q.2 lim ((A.sig f).results.map fun q=>kdR q.1) ((unT (A.sig f).rtys r).take (A.sig f).results.length) rvs rids ∧
     HRs (fun z=>z∉rids.flatten++oids.flatten∧¬ Ban z) q.2 lim (outKd (A.sig f).params) ((unT (A.sig f).rtys r).drop (A.sig f).results.length) (outVs (A.sig f).params ws) oids:=⟨_,rfl⟩
   have:=Q1c (γ:=Value×Heap) (Q:=QF)
    (hl.x _ lim fn.ntmps f) c 0 s0 env (argsEnv 0 ws) _
    (fun ex env H'=>match ex with
     | .exit _=>none
     | _=>obind (evRes P env H' fn.results.toList) fun vs=>obind (finish .keep H.length vs H') fun r=>some (oneOf r.1,r.2)) k0.lim t0 he0
    (fun ex env' e' s1 k1 t1 he1 _ h=>by
     have key:(obind (resV P env' s1.L fn.results.toList) fun vs=>obind (outRes (A.sig f).results vs s1.L) fun r_1=>obind (outOuts (A.sig f).params 0 r_1.2) fun q=>match liveRw q.2 (outIdx (A.sig f).params 0) with
       | true=>mkT (A.sig f).rtys (r_1.1++q.1)
       | false=>none)=some r→∃ y,(obind (evRes P e' s1.H fn.results.toList) fun vs=>obind (finish .keep H.length vs s1.H) fun r=>some (oneOf r.1,r.2))=some y∧QF y:=by
      intro h
      replace h:=ob h;obtain ⟨pvs,h2,h⟩:=h
      replace h:=ob h;obtain ⟨⟨rv,L2⟩,h3,h⟩:=h
      replace h:=ob h;obtain ⟨⟨ov,L3⟩,h4,h⟩:=h
      simp only at h4 h
      split at h
      ·rename_i hlv
       obtain ⟨rvs,e2,r2⟩:=Q3f t1 he1 h2
       rw [e2]
       simp only [obind,finish]
       obtain ⟨s2,rids,a1,a2,a3,a4,a5,a6,a7,a8,a9,a10,a11⟩:=Q5k t1 r2 h3
       rw [← a1] at h4
       have pb2:PB s2 (A.sig f).params ws 0:=pb0.keep (k1.trans a4)
       obtain ⟨s3,oids,b1,b2,b3,b4,b5,b6,b7,b8,b9⟩:=Q0z a5 pb2 h4
       rw [← b1] at hlv
       have hlive:=Q3e hlv
       have hk:Keep sE s3:=((k0.trans k1).trans a4).trans b4
       have hH:s3.H=s1.H:=b2.trans a2
       have hlim1:s1.lim=lim:=(k0.trans k1).lim
       have hlim2:s2.lim=lim:=a4.lim.trans hlim1
       have hLim3:∀ z∈rids.flatten,s3.Lim z:=fun z hz=>b6 z (a8 z hz)
       have hun:=Q7a _ h
       have hOwn:∀ z∈rids.flatten++oids.flatten,Own s3 z:=by
        intro z hz
        rcases List.mem_append.1 hz with hz | hz
        ·exact .inr (.inl (hLim3 z hz))
        ·rcases b8 z hz with ⟨h,_⟩ | ⟨j,j1,m,j2,j3⟩
         ·exact .inr (.inl h)
         ·obtain ⟨B,q1,q2⟩:=hlive j j1
          exact .inl ⟨j,B,m,q1,q2,j2,j3⟩
       have hN:∀ z,s3.N z→z∉rids.flatten++oids.flatten∧¬ Ban z:=fun z hz =>
        ⟨fun hm=>hz.1 (hOwn z hm),fun hb=>hz.2 (by rw [hk.ban];exact hb)⟩
       refine ⟨_,rfl,?_⟩
       rw [hQF]
       refine ⟨rvs,rids,oids,rfl,?_,?_,?_,?_,?_,?_,?_⟩
       ·rw [← hH];exact hk.len
       ·intro z hz hni;rw [← hH];exact hk.fr z hz (fun ho=>hni ((hownE z).1 ho))
       ·rw [List.nodup_append]
        refine ⟨a9,b9 hlive,fun x hx y hy e=>?_⟩
        subst e
        rcases b8 _ hy with ⟨_,h⟩ | ⟨j,j1,m,j2,rfl⟩
        ·exact h (a8 _ hx)
        ·obtain ⟨B,q1,q2⟩:=hlive j j1
         exact b5.lm j B m q1 j2 (hLim3 _ hx)
       ·intro z hz
        rcases hk.own z (hOwn z hz) with h | h
        ·exact .inl ((hownE z).1 h)
        ·exact .inr h
       ·intro z hz hb
        have:s3.Ban z:=by rw [hk.ban];exact hb
        exact (b5.ban z this).2 (hOwn z hz)
       ·rw [hun,List.take_append_of_le_length (by omega),List.take_of_length_le (by omega)]
        rw [hlim1] at a7
        exact a7.frame (fun z hz hlt=>⟨hN z (b4.N hlt hz),by rw [a2]⟩) (fun z _=>by rw [a2])
       ·rw [hun,List.drop_append_of_le_length (by omega),List.drop_of_length_le (by omega),List.nil_append]
        rw [hlim2] at b7
        exact b7.frame (fun z hz hlt=>⟨hN z hz,by rw [hH]⟩) (fun z _=>by rw [hH])
      ·simp at h
     cases ex with
     | exit id=>simp at h
     | normal=>exact key h
     | ret=>exact key h) h
   obtain ⟨⟨v,H'⟩,y1,yQ⟩:=this
   rw [hQF] at yQ
   obtain ⟨rvs,rids,oids,y2,y3⟩:=yQ
   rw [hg0] at y1
   exact ⟨v,H',rvs,rids,oids,y1,y2,y3⟩
  ·simp at h
theorem Qms {P:Program} {A:AnnV} {l:Lev A} {callE:FuncId→List Value→Nat→Heap→Option (Value×Heap)} (hl:LevOk P A l callE) (lim:Nat) (β:Type) (f:FuncId) {γ:Type} {args:List PV} {ws:List Value} {s:S} {KV:PV→LS→Option β} {KE:Value→Heap→Option γ} {r:β} {Q:γ→Prop} (hs:StR s) (hlim:s.lim=lim) (hr:All2 (ER s) args ws) (hK:KOk s r KV KE Q)
  (h:runI P A l β f args s.L KV=some r):∃ y,(obind (runFn P A.ev callE f ws lim s.H) fun q=>KE q.1 q.2)=some y∧Q y:=by
 have hlen:=All2.length hr
 unfold runI at h
 unfold runFn
 split at h
 ·simp at h
 ·rename_i fn hfn
  rw [hfn]
  simp only
  split at h
  ·rename_i c hb hnt hname
   rw [hb,← hlen,hnt,hname]
   simp only
   have:=Q1c (γ:=Value×Heap) (Q:=fun q=>∃ y,KE q.1 q.2=some y∧Q y) (hl.x β lim fn.ntmps f) c 0 s (pargs 0 args) (argsEnv 0 ws) _
    (fun ex env H'=>match ex with
     | .exit _=>none
     | _=>obind (evRes P env H' fn.results.toList) fun vs=>obind (finish .keep s.H.length vs H') fun r=>some (oneOf r.1,r.2)) hlim hs (Qby hr)
    (fun ex env' e' s1 k1 t1 he1 _ h=>by
     have key:(obind (resV P env' s1.L fn.results.toList) fun vs=>match vs.all notTup with
       | true=>KV (onePV vs) s1.L
       | false=>none)=some r→∃ y,(obind (evRes P e' s1.H fn.results.toList) fun vs=>obind (finish .keep s.H.length vs s1.H) fun r=>some (oneOf r.1,r.2))=some y∧∃ z,KE y.1 y.2=some z∧Q z:=by
      intro h
      replace h:=ob h;obtain ⟨pvs,h2,h⟩:=h
      split at h
      ·rename_i hnt'
       obtain ⟨rvs,e2,r2⟩:=Q3f t1 he1 h2
       rw [e2]
       simp only [obind,finish]
       exact ⟨_,rfl,hK _ _ s1 k1 t1 (Qk9 r2 hnt') h⟩
      ·simp at h
     cases ex with
     | exit id=>simp at h
     | normal=>exact key h
     | ret=>exact key h) h
   obtain ⟨q,y1,z,y2,y3⟩:=this
   refine ⟨z,?_,y3⟩
   have e2:∀ (x:Option (Value×Heap)),x=some q→(obind x fun q=>KE q.1 q.2)=some z:=fun x hx=>by rw [hx];exact y2
   exact e2 _ y1
  ·simp at h
structure ExtV (A:AnnV):Prop where
 val:∀ f v,A.vext f=some v→∃ e,A.ext f=some e∧∀ lim,FnOk (A.sig f) v e lim
 non:∀ f,A.vext f=none→A.ext f=none
 inl:∀ f,A.inline f=true→A.vext f=none
theorem Qka {P:Program} {A:Ann} {d:Nat} {f:FuncId} {e:List Value→Nat→Heap→Option (Value×Heap)} (h:A.ext f=some e):run P A (d+1) f=e:=by
 funext ws lim H;simp only [run,h]
theorem Qez {P:Program} {A:Ann} {d:Nat} {f:FuncId} (h:A.ext f=none):run P A (d+1) f=runFn P A (run P A d) f:=by
 funext ws lim H;simp only [run,h]
theorem Qll (P:Program) (A:AnnV) (hE:ExtV A):∀ d:Nat,LevOk P A (lev P A d) (run P A.ev d)
 | 0=>⟨fun lim f hf a r h=>by simp [lev] at h,fun lim β f hf γ args ws s KV KE r Q hs hlim hr hK h=>by simp [lev] at h⟩
 | d+1=>by
  have ih:=Qll P A hE d
  refine ⟨fun lim f hf=>?_,fun lim β f hf γ args ws s KV KE r Q hs hlim hr hK h=>?_⟩
  ·cases hv:A.vext f with
   | none =>
    rw [Qez (A:=A.ev) (hE.non f hv)]
    have e2:(lev P A (d+1)).call f=runF P A (lev P A d) f:=by funext a;simp only [lev,hv]
    rw [e2]
    exact Qmr ih lim f
   | some v =>
    obtain ⟨e,he,hok⟩:=hE.val f v hv
    rw [Qka (A:=A.ev) he]
    have e2:(lev P A (d+1)).call f=v:=by funext a;simp only [lev,hv]
    rw [e2]
    exact hok lim
  ·rw [Qez (A:=A.ev) (hE.non f (hE.inl f hf))]
   exact Qms ih lim β f hs hlim hr hK h
open Go.Ev Go.Ek Go.ChangeAt Go.RowKit Go.WideShapes Go.ChangeShapes
def Bytes (x:List Int):Prop:=∀ n∈x,0≤n∧n < 256
theorem HRs.one {N:Nat→Prop} {H:Heap} {lim:Nat} {k:Kd} {v:TV} {ws:List Value} {is:List (List Nat)} (h:HRs N H lim [k] [v] ws is):∃ w i,ws=[w]∧is=[i]∧HR N H lim k v w i:=by
 cases ws with
 | nil=>cases is<;>exact absurd h id
 | cons w ws=>cases is with
  | nil=>exact absurd h id
  | cons i is=>cases ws with
   | nil=>cases is with
    | nil=>exact ⟨w,i,rfl,rfl,h.1⟩
    | cons _ _=>exact absurd h.2 id
   | cons _ _=>cases is<;>exact absurd h.2 id
structure ExtAll (P:Program) (A:AnnV):Prop where
 v:ExtV A
 x:ExtOk P A.ev
theorem ExtAll.no {P:Program} {A:AnnV} (h1:∀ f,A.ext f=none) (h2:∀ f,A.vext f=none):ExtAll P A :=
 ⟨⟨fun f v h=>by rw [h2] at h;simp at h,fun f _=>h1 f,fun f _=>h2 f⟩,fun f e h=>by rw [show A.ev.ext f=A.ext f from rfl,h1] at h;simp at h⟩
def tyR (P:Program):Nat→TypeId→Option Ty
 | 0,_=>none
 | n+1,t=>match isVar P t with
  | false=>none
  | true=>match P.underlying t with
   | some .bool=>some .bool
   | some (.int k)=>some (.int k)
   | some .string=>some .str
   | some (.slice e)=>obind (tyR P n e) fun u=>some (.sl u)
   | some (.struct fs)=>match fs.toList with
    | f::h::r=>tyFs (tyR P n) (f::h::r)
    | _=>none
   | _=>none
def Wf:(t:Ty)→t.T→Prop
 | .int k,x=>k.min≤x∧x≤k.max
 | .bool,_=>True
 | .str,s=>s.size≤maxLen
 | .sl t,xs=>xs.length≤maxLen∧∀ x∈xs,Wf t x
 | .os _,_=>True
 | .pair a b,x=>Wf a x.1∧Wf b x.2
structure RoR (ι:Io) (G:Heap) (w:World):Prop where
 ro:∀ b k,hget G b=some k→k.ro=true
 rel:∀ b k,hget G b=some k→BRel ι (Bel G.length) w b k
def ExtR (ι:Io) (G:Heap) (ι':Io) (G':Heap):Prop:=(∃ S,G'=G++S)∧∀ b,b < G.length→ι' b=ι b
theorem ExtR.refl (ι:Io) (G:Heap):ExtR ι G ι G:=⟨⟨[],by simp⟩,fun _ _=>rfl⟩
theorem ExtR.len {ι ι':Io} {G G':Heap} (h:ExtR ι G ι' G'):G.length≤G'.length:=by obtain ⟨⟨S,rfl⟩,_⟩:=h;simp
theorem ExtR.trans {ι ι' ι'':Io} {G G' G'':Heap} (h:ExtR ι G ι' G') (h':ExtR ι' G' ι'' G''):ExtR ι G ι'' G'':=by
 have hl:=h.len
 obtain ⟨⟨S,rfl⟩,e⟩:=h
 obtain ⟨⟨S',rfl⟩,e'⟩:=h'
 exact ⟨⟨S++S',by simp⟩,fun b hb=>(e' b (by omega)).trans (e b hb)⟩
theorem Q4u {G S:Heap} {b:Nat} (h:b < G.length):hget (G++S) b=hget G b:=by
 unfold hget;rw [List.getElem?_append_left h]
theorem ExtR.rep {ι ι':Io} {G G':Heap} (h:ExtR ι G ι' G') {t:Ty} {x:t.T} {cs:List Value} (r:Rep Any G t x cs):Rep Any G' t x cs:=by
 obtain ⟨⟨S,rfl⟩,_⟩:=h
 exact Rep.frame (fun z _ hz=>⟨trivial,Q4u hz⟩) t r
theorem ExtR.lrel {ι ι':Io} {G G':Heap} (h:ExtR ι G ι' G') {xs ys:List Value} (r:LRel ι (Bel G.length) xs ys):LRel ι' (Bel G'.length) xs ys :=
 r.mono (fun b hb=>Nat.lt_of_lt_of_le hb h.len) (fun b hb=>h.2 b hb)
section
variable {H:Type} {enc:TypeId×Value→H} {P:Program} {w:World}
def Treads (enc:TypeId×Value→H) (P:Program) (w:World) (T:Ty) (t:TypeId):Prop:=∀ fuel cs x,DataW.trod enc P w 0 (fun _=>true) true fuel t cs=some x→∀ ι G,RoR ι G w →
 ∃ ι' G' y av,RoR ι' G' w∧ExtR ι G ι' G'∧Rep Any G' T y av∧LRel ι' (Bel G'.length) av cs∧Wf T y
def RepL (G:Heap) (T:Ty):List T.T→List Value→Prop
 | [],avs=>avs=[]
 | y::ys,avs=>Rep Any G T y (avs.take T.size)∧RepL G T ys (avs.drop T.size)
theorem RepL.at {G:Heap} {T:Ty}:∀ {ys:List T.T} {avs:List Value},RepL G T ys avs→(avs.length=ys.length*T.size∧(∀ v∈avs,isCell v=true))∧∀ i (h:i < ys.length),Rep Any G T ys[i] ((avs.drop (i*T.size)).take T.size)
 | [],avs,h=>by
  have h:avs=[]:=h
  subst h
  exact ⟨⟨by simp,by simp⟩,fun i h=>by simp at h⟩
 | y::ys,avs,h=>by
  obtain ⟨h1,h2⟩:=h
  have l1:=Rep.len T h1
  have c1:=Rep.cell T h1
  obtain ⟨⟨l2,c2⟩,r2⟩:=RepL.at h2
  simp only [List.length_take] at l1
  simp only [List.length_drop] at l2
  have hs:=Ty.size_pos T
  refine ⟨⟨by simp only [List.length_cons];rw [Nat.add_mul];omega,fun v hv=>?_⟩,fun i hi=>?_⟩
  ·rw [← List.take_append_drop T.size avs] at hv
   rcases List.mem_append.1 hv with hv | hv
   ·exact c1 v hv
   ·exact c2 v hv
  ·cases i with
   | zero=>simpa using h1
   | succ i =>
    have:=r2 i (by simpa using hi)
    rw [List.drop_drop] at this
    rw [show T.size+i*T.size=(i+1)*T.size by rw [Nat.add_mul,Nat.one_mul];exact Nat.add_comm _ _] at this
    exact this
theorem RepL.ext {ι ι':Io} {G G':Heap} (h:ExtR ι G ι' G') {T:Ty}:∀ {ys:List T.T} {avs:List Value},RepL G T ys avs→RepL G' T ys avs
 | [],_,r=>r
 | _::_,_,r=>⟨h.rep r.1,RepL.ext h r.2⟩
theorem Q72 {T:Ty} {t:TypeId} (hT:Treads enc P w T t):∀ (css:List (List Value)),(∀ cs∈css,∃ fuel x,DataW.trod enc P w 0 (fun _=>true) true fuel t cs=some x)→∀ ι G,RoR ι G w →
  ∃ ι' G' ys avs,RoR ι' G' w∧ExtR ι G ι' G'∧ys.length=css.length∧RepL G' T ys avs∧LRel ι' (Bel G'.length) avs css.flatten∧∀ y∈ys,Wf T y
 | [],_,ι,G,hR=>⟨ι,G,[],[],hR,.refl ι G,rfl,rfl,LRel.nil _ _,by simp⟩
 | cs::css,h,ι,G,hR=>by
  obtain ⟨fuel,x,hx⟩:=h cs (by simp)
  obtain ⟨ι1,G1,y,av,a1,a2,a3,a4,a5⟩:=hT fuel cs x hx ι G hR
  obtain ⟨ι2,G2,ys,avs,b1,b2,b3,b4,b5,b6⟩:=Q72 hT css (fun c hc=>h c (by simp [hc])) ι1 G1 a1
  have hl:=Rep.len T a3
  refine ⟨ι2,G2,y::ys,av++avs,b1,a2.trans b2,by simp [b3],⟨?_,?_⟩,?_,?_⟩
  ·rw [← hl,List.take_left];exact b2.rep a3
  ·rw [← hl,List.drop_left];exact b4
  ·rw [List.flatten_cons];exact LRel.append (b2.lrel a4) b5
  ·intro z hz
   rcases List.mem_cons.1 hz with rfl | hz
   ·exact a5
   ·exact b6 z hz
theorem Qf0 {α:Type} {f:Nat→List α} {c:Nat}:∀ (m:Nat),(∀ i,i < m→(f i).length=c)→(((List.range m).map f).flatten.length=m*c)∧∀ i r,i < m→r < c→((List.range m).map f).flatten[i*c+r]? = (f i)[r]?
 | 0,_=>⟨by simp,fun i r h=>by omega⟩
 | m+1,h=>by
  obtain ⟨h1,h2⟩:=Qf0 m (fun i hi=>h i (by omega))
  have hm:=h m (by omega)
  rw [List.range_succ,List.map_append,List.flatten_append]
  simp only [List.map_cons,List.map_nil,List.flatten_cons,List.flatten_nil,List.append_nil]
  refine ⟨by rw [List.length_append,h1,hm,Nat.add_mul];omega,fun i r hi hr=>?_⟩
  rcases Nat.lt_or_ge i m with hlt | hge
  ·have:i*c+r < m*c:=by
    have:=Nat.mul_le_mul_right c (show i+1≤m by omega)
    rw [Nat.add_mul] at this;omega
   rw [List.getElem?_append_left (by omega)]
   exact h2 i r hlt hr
  ·have:i=m:=by omega
   subst this
   rw [List.getElem?_append_right (by omega),h1]
   congr 1;omega
theorem Qg4 (hl:laidOutB P=true) {t:TypeId} (hv:isVar P t=true):rowFine P t=true:=by
 unfold laidOutB at hl
 simp only [Bool.and_eq_true,List.all_eq_true] at hl
 unfold isVar at hv
 simp only [Bool.and_eq_true,decide_eq_true_eq] at hv
 exact hl.1.1 t (List.mem_range.2 hv.1)
theorem Qf1 {ι:Io} {G:Heap} (hR:RoR ι G w) (l:Ev.Loc) (B:Option Blk) (hB:∀ k,B=some k→k.ro=true∧BRel (ι.set G.length l) (Bel (G.length+1)) w G.length k) :
  RoR (ι.set G.length l) (G++[B]) w∧ExtR ι G (ι.set G.length l) (G++[B])∧(G++[B]).length=G.length+1∧hget (G++[B]) G.length=B:=by
 have hg:hget (G++[B]) G.length=B:=by unfold hget;rw [List.getElem?_append_right (by omega)];simp;cases B<;>rfl
 have hl:(G++[B]).length=G.length+1:=by simp
 have key:∀ b k,hget (G++[B]) b=some k→(b < G.length∧hget G b=some k)∨(b=G.length∧B=some k):=by
  intro b k hb
  have:=Q1x hb
  rcases Nat.lt_or_ge b G.length with h | h
  ·rw [Q4u h] at hb;exact .inl ⟨h,hb⟩
  ·have:b=G.length:=by omega
   subst this;rw [hg] at hb;exact .inr ⟨rfl,hb⟩
 refine ⟨⟨fun b k hb=>?_,fun b k hb=>?_⟩,⟨⟨[B],rfl⟩,fun b hb=>Io.set_ne _ _ (by omega)⟩,hl,hg⟩
 ·rcases key b k hb with ⟨_,h⟩ | ⟨_,h⟩
  ·exact hR.ro b k h
  ·exact (hB k h).1
 ·rw [hl]
  rcases key b k hb with ⟨h0,h⟩ | ⟨rfl,h⟩
  ·have:=hR.rel b k h
   have e:(ι.set G.length l) b=ι b:=Io.set_ne _ _ (by omega)
   refine ⟨by rw [e];exact this.lt,by rw [e];exact this.shape,by rw [e];exact this.map,by rw [e];exact this.fit,fun i hi=>?_,fun hr=>?_⟩
   ·rw [e]
    obtain ⟨c,c1,c2,c3⟩:=this.cell i hi
    exact ⟨c,c1,c2.mono (fun z hz=>Nat.lt_succ_of_lt hz) (fun z hz=>Io.set_ne _ _ (Nat.ne_of_lt hz)),c3⟩
   ·have:=hR.ro b k h
    rw [hr] at this;simp at this
  ·exact (hB k h).2
theorem Qbz {T:Ty} {t e:TypeId} (ht:P.underlying t=some (.slice e)) (hT:Treads enc P w T e) (hc:P.cellsOf e=T.size):Treads enc P w (.sl T) t:=by
 intro fuel cs x hx ι G hR
 have hsz:=Ty.size_pos T
 rcases DataW.trod_slice ht hx with ⟨rfl,_⟩ | ⟨a,len,cap,elems,rest,n,rfl,rfl,_,_,hlc,hcm,hel,he,hsp,_⟩
 ·refine ⟨ι,G,[],[.slice none 0 0],hR,.refl ι G,?_,LRel.cons .slNil (LRel.nil _ _),by simp [Wf]⟩
  unfold Rep;exact .inl ⟨rfl,rfl⟩
 ·rw [hc] at he hsp
  obtain ⟨hrl,hre⟩:=hsp rfl
  rcases Nat.eq_zero_or_pos cap with h0 | h0
  ·subst h0
   obtain rfl:len=0:=by omega
   obtain ⟨p1,p2,p3,p4⟩:=Qf1 hR (⟨0,0,0⟩:Ev.Loc) none (fun k h=>by simp at h)
   refine ⟨_,_,[],[.slice (some ⟨G.length,0,none⟩) 0 T.size],p1,p2,?_,LRel.cons (.slEmpty _ _ _ ?_) (LRel.nil _ _),by simp [Wf]⟩
   ·unfold Rep;exact .inr (.inl ⟨rfl,_,_,rfl⟩)
   ·show G.length < _
    omega
  · -- every element can be read
   have rd:∀ i,i < cap→∃ c y,w.cells? 0 (a.add (i*T.size)) T.size=some c∧DataW.trod enc P w 0 (fun _=>true) true n e c=some y:=by
    intro i hi
    rcases Nat.lt_or_ge i len with h | h
    ·have:=he i h
     rw [List.getElem?_eq_getElem (by omega),Option.bind_eq_some_iff] at this
     obtain ⟨c,c1,c2⟩:=this
     exact ⟨c,_,c1,c2⟩
    ·have:=hre (i - len) (by omega)
     rw [List.getElem?_eq_getElem (by omega),show len+(i - len)=i by omega,Option.bind_eq_some_iff] at this
     obtain ⟨c,c1,c2⟩:=this
     exact ⟨c,_,c1,c2⟩
   have cellAt:∀ i r,i < cap→r < T.size→∃ v,w.cell? ((a.add (i*T.size)).add r)=some v:=by
    intro i r hi hr
    obtain ⟨c,y,c1,_⟩:=rd i hi
    obtain ⟨_,l,q⟩:=World.cells?_some c1
    exact ⟨c[r]'(by omega),by rw [q r hr,List.getElem?_eq_getElem]⟩
   obtain ⟨v0,hv0⟩:=cellAt 0 0 h0 hsz
   have e0:(a.add (0*T.size)).add 0=a:=by
    obtain ⟨ab,ao,aq⟩:=a
    rw [Nat.zero_mul];unfold Addr.add;split<;>simp_all
   rw [e0] at hv0
   obtain ⟨ety,m,hs,ho,hspot⟩:=Q8z hv0
   have hadd:∀ j,a.add j=⟨a.block,a.off+j,none⟩:=by
    intro j;obtain ⟨xb,xo,xs⟩:=a;simp only at hspot;subst hspot;unfold Addr.add;split<;>simp_all
   have hadd2:∀ j r,(a.add j).add r=⟨a.block,a.off+(j+r),none⟩:=by
    intro j r;rw [hadd j];unfold Addr.add;split<;>simp_all<;>omega
   have hlast:a.off+cap*T.size≤m:=by
    obtain ⟨v,hv⟩:=cellAt (cap - 1) (T.size - 1) (by omega) (by omega)
    rw [hadd2] at hv
    obtain ⟨ety',m',hs',ho',_⟩:=Q8z hv
    simp only at hs' ho'
    rw [hs] at hs'
    obtain ⟨rfl,rfl⟩:ety=ety'∧m=m':=by simpa using hs'
    have:cap*T.size=(cap - 1)*T.size+T.size:=by
     rw [show cap=cap - 1+1 by omega,Nat.add_mul,Nat.one_mul];simp
    omega
   let f:Nat→List Value:=fun i=>(w.cells? 0 (a.add (i*T.size)) T.size).getD []
   have hf:∀ i,i < cap→w.cells? 0 (a.add (i*T.size)) T.size=some (f i)∧(f i).length=T.size∧∃ y,DataW.trod enc P w 0 (fun _=>true) true n e (f i)=some y:=by
    intro i hi
    obtain ⟨c,y,c1,c2⟩:=rd i hi
    have:f i=c:=by simp only [f,c1];rfl
    rw [this]
    exact ⟨c1,(World.cells?_some c1).2.1,y,c2⟩
   obtain ⟨fl,fg⟩:=Qf0 (f:=f) (c:=T.size) len (fun i hi=>(hf i (by omega)).2.1)
   obtain ⟨ι1,G1,ys,avs,a1,a2,a3,a4,a5,a6⟩:=Q72 hT ((List.range len).map f) (fun c hc=>by
    obtain ⟨i,hi,rfl⟩:=List.mem_map.1 hc
    obtain ⟨_,_,y,hy⟩:=hf i (by have:=List.mem_range.1 hi;omega)
    exact ⟨n,y,hy⟩) ι G hR
   simp only [List.length_map,List.length_range] at a3
   obtain ⟨⟨l4,c4⟩,r4⟩:=a4.at
   have hle:=Nat.mul_le_mul_right T.size hlc
   have hset:(ι1.set G1.length ⟨a.block,a.off,m⟩) G1.length=⟨a.block,a.off,m⟩:=Io.set_same _ _ _
   obtain ⟨p1,p2,p3,p4⟩:=Qf1 a1 ⟨a.block,a.off,m⟩ (some ⟨avs,true,none⟩) (fun k hk=>by
    obtain rfl:_=k:=by simpa using hk
    refine ⟨rfl,by rw [hset];exact Qdm hs,fun _=>⟨ety,by rw [hset];exact hs⟩,fun es h=>by simp at h,by rw [hset];simp only;rw [l4,a3];omega,fun j hj=>?_,fun h=>by simp at h⟩
    simp only at hj ⊢
    rw [hset];simp only
    have hj':j < len*T.size:=by rw [l4,a3] at hj;exact hj
    have hd:j / T.size < len:=Nat.div_lt_of_lt_mul (by rw [Nat.mul_comm];exact hj')
    have hr:=Nat.mod_lt j hsz
    have hj2:j / T.size*T.size+j % T.size=j:=by rw [Nat.mul_comm];exact Nat.div_add_mod j T.size
    obtain ⟨c1,c2,_⟩:=hf (j / T.size) (by omega)
    have hc3:=(World.cells?_some c1).2.2 (j % T.size) hr
    rw [hadd2,hj2] at hc3
    have hg:=fg (j / T.size) (j % T.size) hd hr
    rw [hj2] at hg
    rw [List.getElem?_eq_getElem (by omega)] at hc3
    rw [List.getElem?_eq_getElem (by omega),List.getElem?_eq_getElem (by omega)] at hg
    refine ⟨_,hc3,?_,c4 _ (List.getElem_mem _)⟩
    have:=a5.2 j hj (by omega)
    rw [Option.some.inj hg] at this
    exact this.mono (fun z hz=>Nat.lt_succ_of_lt hz) (fun z hz=>Io.set_ne _ _ (Nat.ne_of_lt hz)))
   refine ⟨_,_,ys,[.slice (some ⟨G1.length,0,none⟩) len T.size],p1,a2.trans p2,?_,LRel.cons ?_ (LRel.nil _ _),⟨by omega,a6⟩⟩
   ·unfold Rep
    refine .inr (.inr ⟨G1.length,0,_,by rw [a3],trivial,p4,by simp only;rw [l4];omega,fun i hi=>?_⟩)
    rw [Nat.zero_add]
    exact p2.rep (r4 i hi)
   ·have h2:=VRel.slGo (ι:=ι1.set G1.length ⟨a.block,a.off,m⟩) (D:=Bel (G1++[some (⟨avs,true,none⟩:Blk)]).length) ⟨G1.length,0,none⟩ len T.size cap (by show G1.length < _;omega) hlc (by rw [hset];simp only;omega)
    have ha:(ι1.set G1.length ⟨a.block,a.off,m⟩).addr ⟨G1.length,0,none⟩=a:=by
     unfold Io.addr;rw [hset]
     have:=hadd 0
     obtain ⟨ab,ao,aq⟩:=a
     simp only at hspot;subst hspot;rfl
    rw [ha] at h2
    exact h2
theorem Qc0 {g:TypeId→Option Ty} (hg:∀ t T,g t=some T→Treads enc P w T t∧P.cellsOf t=T.size):∀ (fs:List Field) (T:Ty) (off:Nat) (cs:List Value),tyFs g fs=some T →
  (∀ j f,fs[j]? = some f→f.offset=off+((fs.take j).map fun f=>P.cellsOf f.type).sum)→(∀ f∈fs,∃ fuel x,DataW.trod enc P w 0 (fun _=>true) true fuel f.type ((cs.drop f.offset).take (P.cellsOf f.type))=some x)→∀ ι G,RoR ι G w →
  (∃ ι' G' y av,RoR ι' G' w∧ExtR ι G ι' G'∧Rep Any G' T y av∧LRel ι' (Bel G'.length) av ((cs.drop off).take T.size)∧Wf T y)∧(fs.map fun f=>P.cellsOf f.type).sum=T.size
 | [],T,off,cs,h,_,_,_,_,_=>by simp [tyFs] at h
 | [f],T,off,cs,h,ho,hr,ι,G,hR=>by
  obtain ⟨h1,h2⟩:=hg f.type T h
  obtain ⟨fuel,x,hx⟩:=hr f (by simp)
  have:=ho 0 f rfl
  simp at this
  rw [this,h2] at hx
  exact ⟨h1 fuel _ x hx ι G hR,by simp [h2]⟩
 | f::f2::fs,T,off,cs,h,ho,hr,ι,G,hR=>by
  simp only [tyFs] at h
  replace h:=ob h;obtain ⟨a,ha,h⟩:=h
  replace h:=ob h;obtain ⟨b,hb,h⟩:=h
  simp at h;subst h
  obtain ⟨h1,h2⟩:=hg f.type a ha
  obtain ⟨fuel,x,hx⟩:=hr f (by simp)
  have e0:=ho 0 f rfl
  simp at e0
  rw [e0,h2] at hx
  obtain ⟨ι1,G1,y,av,a1,a2,a3,a4,a5⟩:=h1 fuel _ x hx ι G hR
  obtain ⟨⟨ι2,G2,z,bv,b1,b2,b3,b4,b5⟩,hs⟩:=Qc0 hg (f2::fs) b (off+a.size) cs hb (fun j f' hj=>by
   have:=ho (j+1) f' (by simpa using hj)
   simp only [List.take_succ_cons,List.map_cons,List.sum_cons] at this
   rw [this,h2];omega) (fun f' hf'=>hr f' (by simp at hf' ⊢;exact .inr hf')) ι1 G1 a1
  have hl:=Rep.len a a3
  refine ⟨⟨ι2,G2,(y,z),av++bv,b1,a2.trans b2,?_,?_,a5,b5⟩,by simp only [List.map_cons,List.sum_cons] at hs ⊢;rw [hs,h2];rfl⟩
  ·unfold Rep
   rw [← hl,List.take_left,List.drop_left]
   exact ⟨b2.rep a3,b3⟩
  ·show LRel _ _ _ ((cs.drop off).take (a.size+b.size))
   rw [List.take_add,List.drop_drop]
   exact LRel.append (b2.lrel a4) b4
theorem Qc1 (hl:laidOutB P=true):∀ (n:Nat) (t:TypeId) (T:Ty),tyR P n t=some T→Treads enc P w T t∧P.cellsOf t=T.size
 | 0,t,T,h=>by simp [tyR] at h
 | n+1,t,T,h=>by
  unfold tyR at h
  cases hv:isVar P t with
  | false=>rw [hv] at h;simp at h
  | true =>
   rw [hv] at h
   simp only at h
   have hf:=Qg4 hl hv
   unfold rowFine at hf
   rw [hv] at hf
   simp only [Bool.not_true,Bool.false_or] at hf
   split at h
   ·rename_i hu
    simp at h;subst h
    rw [hu] at hf
    refine ⟨fun fuel cs x hx ι G hR=>?_,by simpa [Ty.size] using hf⟩
    obtain ⟨b,rfl,_⟩:=DataW.trod_bool hu hx
    exact ⟨ι,G,b,[.bool b],hR,.refl ι G,by unfold Rep;rfl,LRel.cons (.bool b) (LRel.nil _ _),trivial⟩
   ·rename_i k hu
    simp at h;subst h
    rw [hu] at hf
    refine ⟨fun fuel cs x hx ι G hR=>?_,by simpa [Ty.size] using hf⟩
    obtain ⟨m,rfl,_,hw⟩:=DataW.trod_int hu hx
    exact ⟨ι,G,m,[.int k m],hR,.refl ι G,by unfold Rep;rfl,LRel.cons (.int k m) (LRel.nil _ _),(Go.Lit.wf_int_iff k m).1 hw⟩
   ·rename_i hu
    simp at h;subst h
    rw [hu] at hf
    refine ⟨fun fuel cs x hx ι G hR=>?_,by simpa [Ty.size] using hf⟩
    obtain ⟨s,rfl,_,hw⟩:=DataW.trod_string hu hx
    exact ⟨ι,G,s,[.string s],hR,.refl ι G,by unfold Rep;rfl,LRel.cons (.str s) (LRel.nil _ _),hw⟩
   ·rename_i e hu
    replace h:=ob h;obtain ⟨u,hu2,h⟩:=h
    simp at h;subst h
    rw [hu] at hf
    obtain ⟨h1,h2⟩:=Qc1 hl n e u hu2
    simp only [Bool.and_eq_true,beq_iff_eq] at hf
    exact ⟨Qbz hu h1 h2,by rw [hf.2];rfl⟩
   ·rename_i fs hu
    rw [hu] at hf
    simp only [Bool.and_eq_true,beq_iff_eq,List.all_eq_true] at hf
    obtain ⟨⟨f1,f2⟩,f3⟩:=hf
    have hT:tyFs (tyR P n) fs.toList=some T:=by
     split at h
     ·rename_i f h2 r e;rw [e];exact h
     ·simp at h
    have off:∀ j f,fs.toList[j]? = some f→f.offset=0+((fs.toList.take j).map fun f=>P.cellsOf f.type).sum:=by
     intro j f hj
     have:=f3 j (List.mem_range.2 (List.getElem?_eq_some_iff.1 hj).1)
     rw [hj] at this
     simpa using this
    have hsum:(fs.toList.map fun f=>P.cellsOf f.type).sum=T.size:=by
     clear h f1 f2 f3
     have gen:∀ (l:List Field) (T:Ty),tyFs (tyR P n) l=some T→(l.map fun f=>P.cellsOf f.type).sum=T.size:=by
      intro l
      induction l with
      | nil=>intro T h;simp [tyFs] at h
      | cons f l ih =>
       intro T h
       cases l with
       | nil=>simp [(Qc1 hl n f.type T h).2]
       | cons f2 l =>
        simp only [tyFs] at h
        replace h:=ob h;obtain ⟨a,ha,h⟩:=h
        replace h:=ob h;obtain ⟨b,hb,h⟩:=h
        simp at h;subst h
        have:=ih b hb
        simp only [List.map_cons,List.sum_cons] at this ⊢
        rw [this,(Qc1 hl n f.type a ha).2];rfl
     exact gen _ _ hT
    refine ⟨fun fuel cs x hx ι G hR=>?_,by rw [f2,hsum]⟩
    obtain ⟨xs,m,rfl,_,hl1,hl2,hx⟩:=DataW.trod_struct hu hx
    have:=(Qc0 (enc:=enc) (P:=P) (w:=w) (fun t T h=>Qc1 hl n t T h) fs.toList T 0 cs hT off (fun f hf=>by
     obtain ⟨i,hi,rfl⟩:=List.mem_iff_getElem.1 hf
     have:=hx i fs.toList[i] (by rw [← Array.getElem?_toList];exact List.getElem?_eq_getElem hi)
     rw [List.getElem?_eq_getElem (by rw [hl2];simpa using hi)] at this
     exact ⟨m,_,this⟩) ι G hR).1
    rw [List.drop_zero,List.take_of_length_le (by rw [hl1,f2,hsum];exact Nat.le_refl _)] at this
    exact this
   ·simp at h
theorem Qa6:∀ (n:Nat) (t:TypeId) (T:Ty),tyR P n t=some T→T.hasOs=false
 | 0,t,T,h=>by simp [tyR] at h
 | n+1,t,T,h=>by
  unfold tyR at h
  split at h
  ·simp at h
  ·split at h
   ·simp at h;subst h;rfl
   ·simp at h;subst h;rfl
   ·simp at h;subst h;rfl
   ·replace h:=ob h;obtain ⟨u,_,h⟩:=h
    simp at h;subst h;rfl
   ·rename_i fs _
    have gen:∀ (l:List Field) (T:Ty),tyFs (tyR P n) l=some T→T.hasOs=false:=by
     intro l
     induction l with
     | nil=>intro T h;simp [tyFs] at h
     | cons f l ih =>
      intro T h
      cases l with
      | nil=>exact Qa6 n _ _ h
      | cons f2 l =>
       simp only [tyFs] at h
       replace h:=ob h;obtain ⟨a,ha,h⟩:=h
       replace h:=ob h;obtain ⟨b,hb,h⟩:=h
       simp at h;subst h
       show (a.hasOs || b.hasOs)=false
       rw [Qa6 n _ _ ha,ih b hb];rfl
    split at h
    ·exact gen _ _ h
    ·simp at h
   ·simp at h
theorem Qol {n:Nat} {t:TypeId} {T:Ty} (h:tyR P n t=some T) {r:Reach} {base:Nat} {v:Value} (hv:Value.okWide P w r base t v) {ι:Io} {D:Nat→Prop} {av:List Value} (ha:LRel ι D av v.cells.toList) (hl:av.length=T.size) :
  ∃ wv,IsVal T av wv∧VRel ι D wv v:=by
 cases n with
 | zero=>simp [tyR] at h
 | succ n =>
  have one:T.size=1→(∀ a b,T≠.pair a b)→v.cells.toList=[v]→∃ wv,IsVal T av wv∧VRel ι D wv v:=by
   intro h1 h2 h3
   rw [h1] at hl
   obtain ⟨x,rfl⟩:=List.length_eq_one_iff.1 hl
   rw [h3] at ha
   refine ⟨x,?_,ha.head⟩
   cases T with
   | pair a b=>exact absurd rfl (h2 a b)
   | int k=>rfl
   | bool=>rfl
   | str=>rfl
   | sl u=>rfl
   | os u=>rfl
  unfold tyR at h
  split at h
  ·simp at h
  ·split at h
   ·rename_i hu;simp at h;subst h
    obtain ⟨b,rfl⟩:=okWide_bool hu hv
    exact one rfl (by simp) rfl
   ·rename_i k hu;simp at h;subst h
    obtain ⟨b,rfl⟩:=okWide_int hu hv
    exact one rfl (by simp) rfl
   ·rename_i hu;simp at h;subst h
    obtain ⟨b,rfl⟩:=okWide_string hu hv
    exact one rfl (by simp) rfl
   ·rename_i e hu
    replace h:=ob h;obtain ⟨u,_,h⟩:=h
    simp at h;subst h
    obtain ⟨a,b,c,rfl⟩:=okWide_slice hu hv
    exact one rfl (by simp) rfl
   ·rename_i fs hu
    obtain ⟨cs,rfl,_⟩:=okWide_struct hu hv
    have:∃ a b,T=.pair a b:=by
     split at h
     ·rename_i f f2 r _
      simp only [tyFs] at h
      replace h:=ob h;obtain ⟨a,ha,h⟩:=h
      replace h:=ob h;obtain ⟨b,hb,h⟩:=h
      simp at h;exact ⟨a,b,h.symm⟩
     ·simp at h
    obtain ⟨a,b,rfl⟩:=this
    exact ⟨.agg ⟨av⟩,rfl,LRel.mkAgg (xs:=⟨av⟩) (ys:=cs) ha⟩
   ·simp at h
def tysR (P:Program):List TypeId→Option (List Ty)
 | []=>some []
 | t::r=>obind (tyR P 8 t) fun a=>obind (tysR P r) fun l=>some (a::l)
theorem Qc2 (hl:laidOutB P=true):∀ (ts:List TypeId) (Ts:List Ty) (vs:List Value) (ds:List (DataW H)) (ps:List MemPlace),tysR P ts=some Ts→DataW.TrodAll enc P w 0 (fun _=>true) true ts vs ds ps →
  ∀ {base:Nat},(∀ (j:Nat) t v,ts[j]? = some t→vs[j]? = some v→Value.okWide P w .any base t v)→∀ ι G,RoR ι G w →
  ∃ ι' G' tvs ws,RoR ι' G' w∧ExtR ι G ι' G'∧LRel ι' (Bel G'.length) ws vs∧(∀ lim,HRs Any G' lim (tvs.map fun _=>Kd.fz) tvs ws (tvs.map fun _=>[]))∧tvs.map (·.1)=Ts∧(∀ v∈tvs,Wf v.1 v.2)
 | [],Ts,vs,ds,ps,h,hA,base,_,ι,G,hR=>by
  simp [tysR] at h;subst h
  cases vs with
  | nil=>exact ⟨ι,G,[],[],hR,.refl ι G,LRel.nil _ _,fun _=>trivial,rfl,by simp⟩
  | cons v vs=>cases ds<;>exact absurd hA (by simp [DataW.TrodAll])
 | t::ts,Ts,vs,ds,ps,h,hA,base,hv,ι,G,hR=>by
  simp only [tysR] at h
  replace h:=ob h;obtain ⟨T,hT,h⟩:=h
  replace h:=ob h;obtain ⟨Ts',hTs,h⟩:=h
  simp at h;subst h
  cases vs with
  | nil=>cases ds<;>exact absurd hA (by simp [DataW.TrodAll])
  | cons v vs=>cases ds with
   | nil=>exact absurd hA (by simp [DataW.TrodAll])
   | cons d ds =>
    obtain ⟨p,q,h1,h2,_⟩:=hA
    obtain ⟨fuel,hx⟩:=h1
    obtain ⟨t1,t2⟩:=Qc1 (enc:=enc) (w:=w) hl 8 t T hT
    obtain ⟨ι1,G1,y,av,a1,a2,a3,a4,a5⟩:=t1 fuel _ _ hx ι G hR
    obtain ⟨ι2,G2,tvs,ws,b1,b2,b3,b4,b5,b6⟩:=Qc2 hl ts Ts' vs ds q hTs h2 (fun j t v hj hv'=>hv (j+1) t v (by simpa using hj) (by simpa using hv')) ι1 G1 a1
    obtain ⟨wv,w1,w2⟩:=Qol hT (hv 0 t v rfl rfl) (b2.lrel a4) (Rep.len T a3)
    refine ⟨ι2,G2,⟨T,y⟩::tvs,wv::ws,b1,a2.trans b2,LRel.cons w2 b3,fun lim=>⟨⟨av,w1,RepO.of T (Qa6 8 t T hT) (b2.rep a3)⟩,b4 lim⟩,by simp [b5],?_⟩
    intro z hz
    rcases List.mem_cons.1 hz with rfl | hz
    ·exact a5
    ·exact b6 z hz
end
theorem Qlm:∀ (vs:List TV),∃ a:TupT (vs.map (·.1)),unT (vs.map (·.1)) a=vs
 | []=>⟨(),rfl⟩
 | [v]=>⟨v.2,rfl⟩
 | v::u::r=>by
  obtain ⟨a,ha⟩:=Qlm (u::r)
  exact ⟨(v.2,a),by show (⟨v.1,v.2⟩:TV)::unT _ a=v::u::r;exact congrArg (List.cons v) ha⟩
def LawAny (P:Program) (A:AnnV) (d:Nat) (f:FuncId) (Ts:List Ty):Prop :=
 A.inline f=false∧(A.sig f).params=Ts.map (fun t=>(PM.ro,t))∧(A.sig f).results=[(false,.bool)] ∧
 ∀ a:TupT (A.sig f).ptys,(∀ v∈unT (A.sig f).ptys a,Wf v.1 v.2)→∃ r,(lev P A d).call f a=some r∧unT (A.sig f).rtys r=[⟨.bool,true⟩]
theorem HRs.any_fz {G:Heap} {lim:Nat} {N:Nat→Prop} (hN:∀ z,N z):∀ {tvs:List TV} {ws:List Value},HRs Any G lim (tvs.map fun _=>Kd.fz) tvs ws (tvs.map fun _=>[])→HRs N G lim (tvs.map fun _=>Kd.fz) tvs ws (tvs.map fun _=>[])
 | [],[],h=>h
 | [],_::_,h=>h
 | _::_,[],h=>h
 | t::tvs,v::ws,h=>⟨h.1.frame (fun z _ _=>⟨hN z,rfl⟩) (by simp),HRs.any_fz hN h.2⟩
theorem pv_any {H:Type} {enc:TypeId×Value→H} {P:Program} {A:AnnV} {d:Nat} {f:FuncId} {Ts:List Ty} (hm:P.follows .mixedOrders=true) (hl:laidOutB P=true) (hE:ExtAll P A) (hr:LawAny P A d f Ts)
  {ts:List TypeId} {vs:List Value} {ds:List (DataW H)} {ps:List MemPlace} {w:World} (ht:tysR P ts=some Ts) (hA:DataW.TrodAll enc P w 0 (fun _=>true) true ts vs ds ps)
  {base:Nat} (hv:∀ (j:Nat) t v,ts[j]? = some t→vs[j]? = some v→Value.okWide P w .any base t v) (hg:GW w) :
  Calls P f vs.toArray w fun e w'=>e=.returned (.bool true)∧Below w.heap.size w w':=by
 have hX:ExtOk P A.ev:=hE.x
 obtain ⟨hi,hp,hres,hr⟩:=hr
 obtain ⟨ι,G,tvs,ws,b1,_,b3,b4,b5,b6⟩:=Qc2 hl ts Ts vs ds ps ht hA hv (fun _=>⟨0,0,0⟩) [] ⟨fun b k h=>by simp [hget] at h,fun b k h=>by simp [hget] at h⟩
 have hpt:(A.sig f).ptys=tvs.map (·.1):=by
  unfold Sig.ptys;rw [hp,b5,List.map_map];exact List.map_id' _
 obtain ⟨a,ha⟩:∃ a:TupT (A.sig f).ptys,unT (A.sig f).ptys a=tvs:=by rw [hpt];exact Qlm tvs
 obtain ⟨r,h1,h3⟩:=hr a (by rw [ha];exact b6)
 have hfl:((tvs.map fun _=>([]:List Nat))).flatten=[]:=by simp
 have hkd:((A.sig f).params.map fun p=>p.1.kd)=tvs.map fun _=>Kd.fz:=by
  rw [hp,← b5];simp [PM.kd]
 have hF:=(Qll P A hE.v d).call 0 f hi a r h1 G (fun _=>False) ws (tvs.map fun _=>[]) (fun _ h=>h.elim) (Nat.zero_le _) (by rw [hfl];simp) (by rw [hfl];simp) (by
  rw [ha,hkd]
  exact HRs.any_fz (fun z=>⟨by rw [hfl];simp,fun h=>h⟩) (b4 0))
 obtain ⟨v,H',rvs,rids,oids,c1,c2,_,_,_,_,_,c8,_⟩:=hF
 rw [hres,h3] at c8
 obtain ⟨wv,i,rfl,rfl,cs,e1,e2⟩:=HRs.one (k:=.fz) c8
 replace e2:=e2.2
 unfold Rep at e2
 have e1':cs=[wv]:=e1
 rw [e1'] at e2
 simp at e2;subst e2
 rw [c2] at c1
 have hrun:run P A.ev d f ws 0 G=some (.bool true,H'):=c1
 have hS:=Qi5 hm hX d f _ _ _ _ _ hrun
 have hR:Ev.Rel ι (Bel G.length) G w:=⟨b1.rel,fun b b' k k' hb hb' _ h=>by rw [b1.ro b k hb,b1.ro b' k' hb'] at h;simp at h,fun b k hb hr=>(by rw [b1.ro b k hb] at hr;simp at hr),hg⟩
 refine (hS.run ι w vs.toArray hR (by simpa using b3)).mono ?_
 rintro e w' ⟨ι',c,rfl,_,hv,hfr⟩
 cases hv
 exact ⟨rfl,hfr.os,hfr.tape,hfr.output,hfr.size,fun k hk=>hfr.frame k hk fun b blk hb hn=>by rw [b1.ro b blk hb] at hn;simp at hn⟩
def strData {H:Type} (bs:List (List UInt8)):DataW H:=.agg (bs.map fun b=>.lit (.string b))
theorem Qa7 {H:Type} {enc:TypeId×Value→H} {P:Program} {w:World} {base:Nat} {sp:Nat→Bool} {held:Bool} {fuel:Nat} {t e:TypeId} {n:Nat} {cs:List Value} {bs:List (List UInt8)} {p:List MemPlace}
  (ht:P.underlying t=some (.array n e)) (he:P.underlying e=some .string) (hce:P.cellsOf e=1) (hct:P.cellsOf t=n)
  (h:DataW.trod enc P w base sp held fuel t cs=some (strData bs,p)):cs=bs.map fun b=>Value.string ⟨b.toArray⟩:=by
 cases fuel with
 | zero=>simp [DataW.trod] at h
 | succ fuel =>
  simp only [DataW.trod,ht,hce,hct,Nat.mul_one] at h
  split at h
  ·rename_i hl
   obtain ⟨xs,hm,hx⟩:=Option.map_eq_some_iff.1 h
   have hxs:xs.map (·.1)=bs.map fun b=>(DataW.lit (.string b):DataW H):=by
    have:=congrArg Prod.fst hx
    simpa [strData] using this
   have hxl:xs.length=n:=by simpa using Go.Lib.mapM_length hm
   have hzl:bs.length=n:=by
    have:=congrArg List.length hxs
    simp at this
    omega
   apply List.ext_getElem?
   intro i
   by_cases hi:i < n
   ·obtain ⟨b,hb,hf⟩:=Go.Lib.mapM_at hm i i (by simp [hi])
    obtain ⟨s,hc,rfl,_⟩:=DataW.trod_string he hf
    have h1:cs[i]? = some (.string s):=by
     have:=congrArg (·[0]?) hc
     simpa [List.getElem?_take,List.getElem?_drop] using this
    have h2:(xs.map (·.1))[i]? = some (DataW.lit (.string s.data.toList):DataW H):=by simp [hb]
    rw [hxs] at h2
    simp only [List.getElem?_map,Option.map_eq_some_iff,DataW.lit.injEq,Lit.string.injEq] at h2
    obtain ⟨b',hz',rfl⟩:=h2
    simp [h1,hz']
   ·rw [List.getElem?_eq_none (by omega),List.getElem?_eq_none (by simp;omega)]
  ·cases h
theorem strs_block {P:Program} {W:World} {name:String} {bs:List (List UInt8)} {rest:List (String×DataW Unit)} {g:Nat} {t e:TypeId} {n:Nat}
  (hg:P.globalNamed name=some g) (hty:(P.globals[g]?).map (·.type)=some t) (ht:P.underlying t=some (.array n e)) (he:P.underlying e=some .string) (hce:P.cellsOf e=1) (hct:P.cellsOf t=n)
  (h:laidMet P ((name,strData bs)::rest) W):g < W.heap.size∧∃ t f,W.heap[g]? = some (.cells (bs.map fun b=>Value.string ⟨b.toArray⟩).toArray t f):=by
 obtain ⟨ps,⟨g',t',cs,fuel,p,q,hg',ht',hvar,hd,_,_⟩,_⟩:=h
 obtain rfl:=Option.some.inj (hg.symm.trans hg')
 obtain rfl:=Option.some.inj (hty.symm.trans ht')
 have hc:=Qa7 ht he hce hct hd
 unfold World.var? at hvar
 rw [hg] at hvar
 simp only [Option.bind_some] at hvar
 split at hvar
 ·rename_i cs' t f hb
  injection hvar with hvar
  subst hvar
  refine ⟨?_,t,f,by rw [hb,← hc]⟩
  rcases Nat.lt_or_ge g W.heap.size with h | h
  ·exact h
  ·rw [Array.getElem?_eq_none h] at hb;simp at hb
 ·simp at hvar
def Ok {α:Type} (e:Option α) (Q:α→Prop):Prop:=∃ a,e=some a∧Q a
theorem Ok.some {α:Type} {a:α} {Q:α→Prop} (h:Q a):Ok (some a) Q:=⟨a,rfl,h⟩
theorem Ok.bind {α β:Type} {e:Option α} {K:α→Option β} {P:α→Prop} {Q:β→Prop} (h:Ok e P) (k:∀ a,P a→Ok (K a) Q):Ok (obind e K) Q:=by
 obtain ⟨a,rfl,ha⟩:=h;exact k a ha
theorem Ok.oif {α:Type} {b:Bool} {x y:Option α} {Q:α→Prop} (h1:b=true→Ok x Q) (h2:b=false→Ok y Q):Ok (oif b x y) Q:=by
 cases b with
 | true=>exact h1 rfl
 | false=>exact h2 rfl
theorem Ok.mono {α:Type} {e:Option α} {P Q:α→Prop} (h:Ok e P) (k:∀ a,P a→Q a):Ok e Q:=by
 obtain ⟨a,e,ha⟩:=h;exact ⟨a,e,k a ha⟩
theorem Ok.eq {α:Type} {e:Option α} {a:α} (h:e=Option.some a) {Q:α→Prop} (hq:Q a):Ok e Q:=⟨a,h,hq⟩
theorem Ok.val {α:Type} {e:Option α} {a:α} (h:Ok e fun b=>b=a):e=Option.some a:=by obtain ⟨b,h1,rfl⟩:=h;exact h1
theorem wr {n:Int} (h1:-9223372036854775808≤n) (h2:n≤9223372036854775807):IntKind.i64.wrap n=n:=IntWalk.i64_in n ⟨h1,h2⟩
def CurOk (m:Nat) (c:List Int×Int×Int):Prop:=Bytes c.1∧0≤c.2.1∧c.2.1≤m
theorem CurOk.mono {m n:Nat} {c:List Int×Int×Int} (h:CurOk m c) (hn:m≤n):CurOk n c:=⟨h.1,h.2.1,by have:=h.2.2;omega⟩
theorem CurOk.new {x:List Int} (h:Bytes x):CurOk 0 (x,0,0):=⟨h,by simp,by simp⟩
theorem Q2 {α:Type} {x y:Option α}:oif true x y=x:=rfl
theorem Q4 {α:Type} {x y:Option α}:oif false x y=y:=rfl
theorem Q26 {α:Type} {b:Bool} {x y:α}:oif b (some x) (some y)=some (if b then x else y):=by cases b<;>rfl
theorem Qkb {α:Type} {b:Bool} {x:Option α}:oif b x x=x:=by cases b<;>rfl
theorem Q6 {α β:Type} (a:α) (f:α→Option β):obind (some a) f=f a:=(rfl)
theorem Q0c {σ β:Type} {F:(σ→Option β)→σ→Option β} {Q:β→Prop} (I:Nat→σ→Prop)
  (step:∀ n s ag,I n s→(∀ m s',m < n→I m s'→Ok (ag s') Q)→Ok (F ag s) Q):∀ (fuel n:Nat) (s:σ),n < fuel→I n s→Ok (iterP F fuel s) Q
 | 0,n,s,h,_=>by omega
 | fuel+1,n,s,h,hi=>step n s _ hi fun m s' hm hi'=>Q0c I step fuel m s' (by omega) hi'
def rangeR {α τ β:Type} (step:α→Nat→τ→(τ→Option β)→Option β) (fin:τ→Option β):List α→Nat→τ→Option β
 | [],_,t=>fin t
 | x::r,i,t=>step x i t fun t'=>rangeR step fin r (i+1) t'
theorem Q8i {σ τ α β:Type} (mk:τ→Int→σ) {F:(σ→Option β)→σ→Option β} (l:List α) (step:α→Nat→τ→(τ→Option β)→Option β) (fin:τ→Option β)
  (h1:∀ ag t (i:Nat) x,l[i]? = some x→F ag (mk t i)=step x i t fun t'=>ag (mk t' ((i+1:Nat):Int)))
  (h2:∀ ag t,F ag (mk t (l.length:Int))=fin t):∀ (fuel i:Nat) (t:τ),l.length < fuel+i→i≤l.length→iterP F fuel (mk t i)=rangeR step fin (l.drop i) i t
 | 0,i,t,h,hi=>by omega
 | fuel+1,i,t,h,hi=>by
  simp only [iterP]
  rcases Nat.lt_or_ge i l.length with hlt | hge
  ·rw [h1 _ t i l[i] (List.getElem?_eq_getElem hlt),List.drop_eq_getElem_cons hlt]
   simp only [rangeR]
   congr 1
   funext t'
   exact Q8i mk l step fin h1 h2 fuel (i+1) t' (by omega) (by omega)
  ·have:i=l.length:=by omega
   subst this
   rw [h2,List.drop_length];rfl
theorem Q7 {σ τ α β:Type} (mk:τ→Int→σ) {F:(σ→Option β)→σ→Option β} (l:List α) (step:α→Nat→τ→(τ→Option β)→Option β) (fin:τ→Option β)
  (h1:∀ ag t (i:Nat) x,l[i]? = some x→F ag (mk t i)=step x i t fun t'=>ag (mk t' ((i+1:Nat):Int)))
  (h2:∀ ag t,F ag (mk t (l.length:Int))=fin t) {fuel:Nat} (hl:l.length < fuel) (t:τ):iterP F fuel (mk t 0)=rangeR step fin l 0 t:=by
 have:=Q8i mk l step fin h1 h2 fuel 0 t (by omega) (by omega)
 simpa using this
theorem Q0j {α τ β:Type} {p:α→Bool} {no:Option β} {fin:τ→Option β}:∀ (l:List α) (i:Nat) (t:τ),
  rangeR (fun x _ t k=>oif (p x) (k t) no) fin l i t=oif (l.all p) (fin t) no
 | [],i,t=>rfl
 | x::r,i,t=>by
  simp only [rangeR,List.all_cons]
  cases p x with
  | true=>simp only [Q2,Bool.true_and];exact Q0j r (i+1) t
  | false=>rfl
def foldI {α τ:Type} (f:α→Nat→τ→τ):List α→Nat→τ→τ
 | [],_,t=>t
 | x::r,i,t=>foldI f r (i+1) (f x i t)
theorem Qs {α τ β:Type} {f:α→Nat→τ→τ} {fin:τ→Option β}:∀ (l:List α) (i:Nat) (t:τ),
  rangeR (fun x i t k=>k (f x i t)) fin l i t=fin (foldI f l i t)
 | [],i,t=>rfl
 | x::r,i,t=>by simp only [rangeR,foldI];exact Qs r (i+1) (f x i t)
def selI {α γ:Type} (c:α→Nat→Bool) (e:α→Nat→γ):List α→Nat→List γ
 | [],_=>[]
 | x::r,i=>if c x i then e x i::selI c e r (i+1) else selI c e r (i+1)
theorem Qa8 {α γ:Type} {c:α→Nat→Bool} {e:α→Nat→γ}:∀ (l:List α) (i:Nat),(selI c e l i).length≤l.length
 | [],i=>by simp [selI]
 | x::r,i=>by have:=Qa8 (c:=c) (e:=e) r (i+1);unfold selI;split<;>simp<;>omega
theorem Qa9 {α γ:Type} {c:α→Nat→Bool} {e:α→Nat→γ} {y:γ}:∀ (l:List α) (i:Nat),y∈selI c e l i→∃ (j:Nat) (x:α),l[j]? = some x∧c x (i+j)=true∧y=e x (i+j)
 | [],i,h=>by simp [selI] at h
 | x::r,i,h=>by
  have step:y∈selI c e r (i+1)→∃ (j:Nat) (z:α),(x::r)[j]? = some z∧c z (i+j)=true∧y=e z (i+j):=by
   intro h
   obtain ⟨j,z,h1,h2,h3⟩:=Qa9 r (i+1) h
   exact ⟨j+1,z,by simpa using h1,by rw [← h2];congr 1;omega,by rw [h3];congr 1;omega⟩
  unfold selI at h
  split at h
  ·rename_i hc
   rcases List.mem_cons.1 h with rfl | h
   ·exact ⟨0,x,rfl,hc,rfl⟩
   ·exact step h
  ·exact step h
theorem Q0p {α γ β:Type} {c:α→Nat→Bool} {e:α→Nat→γ} {fin:List γ→Option β} {w:Nat}:∀ (l:List α) (i:Nat) (t:List γ),(t.length+l.length)*w≤100000000 →
  rangeR (fun x i t k=>oif (c x i) (oif (Nat.ble ((t.length+[e x i].length)*w) roomMax) (k (t++[e x i])) none) (k t)) fin l i t=fin (t++selI c e l i)
 | [],i,t,_=>by simp [rangeR,selI]
 | x::r,i,t,h=>by
  simp only [rangeR,selI]
  cases hc:c x i with
  | false=>simp only [Q4,Bool.false_eq_true,if_false];exact Q0p r (i+1) t (Nat.le_trans (Nat.mul_le_mul_right w (by simp)) h)
  | true =>
   have hr:Nat.ble ((t.length+[e x i].length)*w) roomMax=true:=by
    rw [Nat.ble_eq]
    have:(t.length+[e x i].length)*w≤(t.length+(x::r).length)*w:=Nat.mul_le_mul_right w (by simp)
    unfold roomMax;omega
   simp only [Q2,hr,if_true]
   have hw:((t++[e x i]).length+r.length)*w≤100000000:=by
    refine Nat.le_trans (Nat.mul_le_mul_right w ?_) h
    simp;omega
   rw [Q0p r (i+1) (t++[e x i]) hw]
   simp
theorem Q3 (i:Nat):((i:Int)).toNat=i:=Int.toNat_natCast i
theorem nn (i:Nat):decide (0≤(i:Int))=true:=by simp
theorem wr1 {i:Nat} (h:i < 9223372036854775807):IntKind.i64.wrap ((i:Int)+1)=((i+1:Nat):Int):=by
 rw [wr (by omega) (by omega)];omega
theorem ltl {α:Type} {l:List α} {i:Nat} {x:α} (h:l[i]? = some x):decide ((i:Int) < ((l.length:Nat):Int))=true:=by
 have:=(List.getElem?_eq_some_iff.1 h).1
 simp;omega
theorem Qg5 {α:Type} {l:List α} {i:Nat} {x:α} (h:l[i]? = some x):Nat.blt i l.length=true:=by
 have:=(List.getElem?_eq_some_iff.1 h).1
 simp [Nat.blt];omega
theorem ltn (n:Nat):decide ((n:Int) < (n:Int))=false:=by simp
theorem room {n m w:Nat} (h:(n+m)*w≤100000000):Nat.ble ((n+m)*w) roomMax=true:=by
 rw [Nat.ble_eq];unfold roomMax;omega
theorem Qt {a b:Nat} (h:a < b):Nat.blt a b=true:=by simp [Nat.blt];omega
theorem Qaa (w:World) (os:Array Obj) {k:Nat} (h:k < w.heap.size):(Go.Sort.grow w os).heap[k]? = w.heap[k]?:=by
 show (w.heap++os)[k]? = _
 rw [Array.getElem?_append_left h]
theorem Rel.grow {ι:Io} {D:Nat→Prop} {H:Heap} {w:World} (h:Rel ι D H w) (os:Array Obj):Rel ι D H (Go.Sort.grow w os) :=
 ⟨fun b k hk=>(h.blk b k hk).of_block (Qaa w os (h.lt hk)) rfl (fun _ _ _ x=>x),h.inj,h.nog,h.gw.stable (by show _≤(w.heap++os).size;simp) (fun k hk=>Qaa w os (by have:=h.gw.1;omega))⟩
theorem Fr.grow (ι:Io) (H:Heap) (w:World) (os:Array Obj):Fr ι H w ι H (Go.Sort.grow w os) :=
 ⟨Nat.le_refl _,fun _ _=>rfl,rfl,rfl,rfl,by show _≤(w.heap++os).size;simp,fun k hk _=>Qaa w os hk,fun b blk h hr=>.inr ⟨b,blk,h,hr,rfl⟩,fun _ _ h _=>h⟩
theorem HRs.cons_inv {N:Nat→Prop} {H:Heap} {lim:Nat} {k:Kd} {ks:List Kd} {v:TV} {vs:List TV} {ws:List Value} {is:List (List Nat)} (h:HRs N H lim (k::ks) (v::vs) ws is):∃ w ws' i is',ws=w::ws'∧is=i::is'∧HR N H lim k v w i∧HRs N H lim ks vs ws' is':=by
 cases ws with
 | nil=>cases is<;>exact absurd h id
 | cons w ws=>cases is with
  | nil=>exact absurd h id
  | cons i is=>exact ⟨w,ws,i,is,rfl,rfl,h.1,h.2⟩
theorem HRs.nil_inv {N:Nat→Prop} {H:Heap} {lim:Nat} {ws:List Value} {is:List (List Nat)} (h:HRs N H lim [] [] ws is):ws=[]∧is=[]:=by
 cases ws with
 | nil=>cases is with
  | nil=>exact ⟨rfl,rfl⟩
  | cons _ _=>exact absurd h id
 | cons _ _=>cases is<;>exact absurd h id
def itoaV (n:Int):Option ByteArray:=oif (decide (-9223372036854775808≤n)&&decide (n≤9223372036854775807)) (some ⟨(Go.Lib.itoa n).toArray⟩) none
def itoaX:List Value→Nat→Heap→Option (Value×Heap)
 | [.int .i64 n],_,H=>obind (itoaV n) fun s=>some (.string s,H)
 | _,_,_=>none
def itoaSig:Sig:=⟨[(.ro,.int .i64)],[(false,.str)]⟩
theorem Qmt (lim:Nat):FnOk itoaSig (fun n:Int=>itoaV n) itoaX lim:=by
 rintro (n:Int) r h H Ban ws idss hBan hlimH hnd hdis hh
 obtain ⟨w0,i0,rfl,rfl,h0⟩:∃ w0 i0,ws=[w0]∧idss=[i0]∧HR (fun z=>z∉idss.flatten∧¬ Ban z) H lim .fz ⟨.int .i64,n⟩ w0 i0:=by
  obtain ⟨w0,ws',i0,is',rfl,rfl,h0,hh⟩:=HRs.cons_inv hh
  obtain ⟨rfl,rfl⟩:=HRs.nil_inv hh
  exact ⟨w0,i0,rfl,rfl,h0⟩
 obtain ⟨cs0,e0,o0,q0⟩:=h0
 obtain rfl:cs0=[w0]:=e0
 unfold Rep at q0
 injection q0 with q0
 have o0:i0=[]:=o0
 subst q0 o0
 replace h:itoaV n=some r:=h
 refine ⟨.string r,H,[.string r],[[]],[],by simp only [itoaX,h,obind],rfl,Nat.le_refl _,fun _ _ _=>rfl,?_,by simp,by simp,⟨⟨[.string r],rfl,rfl,by unfold Rep;rfl⟩,trivial⟩,trivial⟩
 simp [itoaSig,outIds]
def ItoaWalk (P:Program) (F:FuncId):Prop :=
 ∀ (n:Int) (w:World),-9223372036854775808≤n→n≤9223372036854775807→GW w→Calls P F #[.int .i64 n] w fun e w'=>e=.returned (.string ⟨(Go.Lib.itoa n).toArray⟩)∧∃ k os,w'=Go.Sort.grow (w.drewN k) os
theorem Qhv {P:Program} {F:FuncId} (henter:∀ (cargs:Array Value) (w:World),(callFunc F cargs).run P w=.ok (.enter F cargs) w) (walk:ItoaWalk P F) :
  ∀ args lim H v H',itoaX args lim H=some (v,H')→CallF P F args lim H v H':=by
 intro args lim H v H' h
 unfold itoaX at h
 split at h
 ·rename_i n
  replace h:=Q1 h;obtain ⟨s,h1,h⟩:=h
  simp at h;obtain ⟨rfl,rfl⟩:=h
  unfold itoaV oif at h1
  split at h1
  ·rename_i hc
   simp only [Bool.and_eq_true,decide_eq_true_eq] at hc
   injection h1 with h1;subst h1
   refine ⟨fun _ _=>.str _,fun _ _=>Ab.refl lim H,henter,fun ι w cargs hR hargs=>?_⟩
   obtain ⟨xs,rfl⟩:∃ xs:List Value,cargs=xs.toArray:=⟨cargs.toList,by simp⟩
   obtain ⟨al,ar⟩:=hargs
   simp only [List.toList_toArray] at al ar
   match xs,al,ar with
   | [y0],_,ar =>
    have r0:=ar 0 (by simp) (by simp)
    simp only [List.getElem_cons_zero] at r0
    have e0:=r0.inv_int
    subst e0
    refine (walk n w hc.1 hc.2 hR.gw).mono ?_
    rintro e w' ⟨rfl,k,os,rfl⟩
    have hRd:Rel ι (Bel H.length) H (w.drewN k):=hR.same_heap (w':=w.drewN k) rfl
    exact ⟨ι,_,rfl,Rel.grow hRd os,.str _,((Fr.refl ι H w).same_heap (w'':=w.drewN k) rfl rfl rfl rfl).trans (Fr.grow ι _ _ os)⟩
  ·simp at h1
 ·simp at h
def repV (s:ByteArray) (n:Int):Option ByteArray:=oif (decide (0≤n)&&(decide (n≤1000000)&&Nat.ble s.size 1000000)) (some ⟨(Go.Lib.repeatL s.data.toList n.toNat).toArray⟩) none
def repX:List Value→Nat→Heap→Option (Value×Heap)
 | [.string s,.int .i64 n],_,H=>obind (repV s n) fun t=>some (.string t,H)
 | _,_,_=>none
def repSig:Sig:=⟨[(.ro,.str),(.ro,.int .i64)],[(false,.str)]⟩
theorem Qom (lim:Nat):FnOk repSig (fun a:ByteArray×Int=>repV a.1 a.2) repX lim:=by
 rintro (⟨s,t⟩:ByteArray×Int) r h H Ban ws idss hBan hlimH hnd hdis hh
 obtain ⟨w0,i0,w1,i1,rfl,rfl,h0,h1⟩:∃ w0 i0 w1 i1,ws=[w0,w1]∧idss=[i0,i1]∧HR (fun z=>z∉idss.flatten∧¬ Ban z) H lim .fz ⟨.str,s⟩ w0 i0∧HR (fun z=>z∉idss.flatten∧¬ Ban z) H lim .fz ⟨.int .i64,t⟩ w1 i1:=by
  obtain ⟨w0,ws',i0,is',rfl,rfl,h0,hh⟩:=HRs.cons_inv hh
  obtain ⟨w1,ws2,i1,is2,rfl,rfl,h1,hh⟩:=HRs.cons_inv hh
  obtain ⟨rfl,rfl⟩:=HRs.nil_inv hh
  exact ⟨w0,i0,w1,i1,rfl,rfl,h0,h1⟩
 obtain ⟨cs0,e0,o0,q0⟩:=h0
 obtain ⟨cs1,e1,o1,q1⟩:=h1
 obtain rfl:cs0=[w0]:=e0
 obtain rfl:cs1=[w1]:=e1
 unfold Rep at q0 q1
 injection q0 with q0;injection q1 with q1
 have o0:i0=[]:=o0
 have o1:i1=[]:=o1
 subst q0 q1 o0 o1
 replace h:repV s t=some r:=h
 refine ⟨.string r,H,[.string r],[[]],[],by simp only [repX,h,obind],rfl,Nat.le_refl _,fun _ _ _=>rfl,?_,by simp,by simp,⟨⟨[.string r],rfl,rfl,by unfold Rep;rfl⟩,trivial⟩,trivial⟩
 simp [repSig,outIds]
def RepWalk (P:Program) (F:FuncId):Prop :=
 ∀ (s:ByteArray) (n:Nat) (w:World),n≤1000000→s.size≤1000000→Calls P F #[.string s,.int .i64 n] w fun e w'=>e=.returned (.string ⟨(Go.Lib.repeatL s.data.toList n).toArray⟩)∧Go.RowKit.Below w.heap.size w w'
theorem Rel.below {ι:Io} {D:Nat→Prop} {H:Heap} {w w':World} (h:Rel ι D H w) (b:Go.RowKit.Below w.heap.size w w'):Rel ι D H w' :=
 ⟨fun c k hk=>(h.blk c k hk).of_block (b.block _ (h.lt hk)) rfl (fun _ _ _ x=>x),h.inj,h.nog,h.gw.stable b.size (fun k hk=>b.block k (by have:=h.gw.1;omega))⟩
theorem Fr.below (ι:Io) (H:Heap) {w w':World} (b:Go.RowKit.Below w.heap.size w w'):Fr ι H w ι H w' :=
 ⟨Nat.le_refl _,fun _ _=>rfl,b.os,b.tape,b.output,b.size,fun k hk _=>b.block k hk,fun c blk h hr=>.inr ⟨c,blk,h,hr,rfl⟩,fun _ _ h _=>h⟩
theorem Qkc {P:Program} {F:FuncId} (henter:∀ (cargs:Array Value) (w:World),(callFunc F cargs).run P w=.ok (.enter F cargs) w) (walk:RepWalk P F) :
  ∀ args lim H v H',repX args lim H=some (v,H')→CallF P F args lim H v H':=by
 intro args lim H v H' h
 unfold repX at h
 split at h
 ·rename_i s n
  replace h:=Q1 h;obtain ⟨t,h1,h⟩:=h
  simp at h;obtain ⟨rfl,rfl⟩:=h
  unfold repV oif at h1
  split at h1
  ·rename_i hc
   simp only [Bool.and_eq_true,decide_eq_true_eq] at hc
   obtain ⟨m,rfl⟩:=Int.eq_ofNat_of_zero_le hc.1
   injection h1 with h1;subst h1
   refine ⟨fun _ _=>.str _,fun _ _=>Ab.refl lim H,henter,fun ι w cargs hR hargs=>?_⟩
   obtain ⟨xs,rfl⟩:∃ xs:List Value,cargs=xs.toArray:=⟨cargs.toList,by simp⟩
   obtain ⟨al,ar⟩:=hargs
   simp only [List.toList_toArray] at al ar
   match xs,al,ar with
   | [y0,y1],_,ar =>
    have r0:=ar 0 (by simp) (by simp)
    have r1:=ar 1 (by simp) (by simp)
    simp only [List.getElem_cons_zero,List.getElem_cons_succ] at r0 r1
    have e0:=r0.inv_str
    have e1:=r1.inv_int
    subst e0 e1
    refine (walk s m w (by omega) (Nat.le_of_ble_eq_true hc.2.2)).mono ?_
    rintro e w' ⟨rfl,hb⟩
    exact ⟨ι,_,rfl,Rel.below hR hb,.str _,Fr.below ι H hb⟩
  ·simp at h1
 ·simp at h
end Go.Pv
namespace Go.Proofs
open Go.Shelf
def Tryz.laysM171_ren:Go.Shelf.Ren:=⟨fun | 171=>116 | 243=>147 | 246=>167 | 283=>178 | 284=>179 | 285=>180 | 286=>181 | 129=>186 | 317=>185 | 318=>187 | 319=>188 | 320=>189 | 337=>192 | 338=>193 | n=>n,fun | 3=>3 | 9=>9 | 2=>2 | 4=>4 | 171=>183 | 0=>0 | 53=>166 | 37=>173 | 5=>5 | 173=>186 | 212=>191 | 51=>163 | 20=>20 | 213=>192 | 46=>143 | 232=>198 | 233=>199 | n=>n,fun | 17=>1 | 18=>3 | 19=>4 | n=>n⟩
theorem Tryz.laysM171:Go.Proofs.LaysM.n171 Tryz.prog Tryz.laysM171_ren:={
 mixed:=by kernel_rfl
 f129:=Tryz.func186.trans (congrArg some (by kernel_rfl))
 f171:=Tryz.func116.trans (congrArg some (by kernel_rfl))
 f243:=Tryz.func147.trans (congrArg some (by kernel_rfl))
 f246:=Tryz.func167.trans (congrArg some (by kernel_rfl))
 f283:=Tryz.func178.trans (congrArg some (by kernel_rfl))
 f284:=Tryz.func179.trans (congrArg some (by kernel_rfl))
 f285:=Tryz.func180.trans (congrArg some (by kernel_rfl))
 f286:=Tryz.func181.trans (congrArg some (by kernel_rfl))
 f317:=Tryz.func185.trans (congrArg some (by kernel_rfl))
 f318:=Tryz.func187.trans (congrArg some (by kernel_rfl))
 f319:=Tryz.func188.trans (congrArg some (by kernel_rfl))
 f320:=Tryz.func189.trans (congrArg some (by kernel_rfl))
 f337:=Tryz.func192.trans (congrArg some (by kernel_rfl))
 f338:=Tryz.func193.trans (congrArg some (by kernel_rfl))
 t0:=Tryz.underlying0
 a0:=Tryz.isAgg0
 z0:=Tryz.sizeOf0
 v0:=Tryz.zeroValue0
 t2:=Tryz.underlying2
 a2:=Tryz.isAgg2
 z2:=Tryz.sizeOf2
 v2:=Tryz.zeroValue2
 t3:=Tryz.underlying3
 a3:=Tryz.isAgg3
 z3:=Tryz.sizeOf3
 v3:=Tryz.zeroValue3
 t4:=Tryz.underlying4
 a4:=Tryz.isAgg4
 z4:=Tryz.sizeOf4
 v4:=Tryz.zeroValue4
 t5:=Tryz.underlying5
 a5:=Tryz.isAgg5
 z5:=Tryz.sizeOf5
 v5:=Tryz.zeroValue5
 t9:=Tryz.underlying9
 a9:=Tryz.isAgg9
 z9:=Tryz.sizeOf9
 v9:=Tryz.zeroValue9
 t20:=Tryz.underlying20
 a20:=Tryz.isAgg20
 z20:=Tryz.sizeOf20
 v20:=Tryz.zeroValue20
 t37:=Tryz.underlying173
 a37:=Tryz.isAgg173
 z37:=Tryz.sizeOf173
 v37:=Tryz.zeroValue173
 t46:=Tryz.underlying143
 a46:=Tryz.isAgg143
 z46:=Tryz.sizeOf143
 v46:=Tryz.zeroValue143
 t51:=Tryz.underlying163
 a51:=Tryz.isAgg163
 z51:=Tryz.sizeOf163
 v51:=Tryz.zeroValue163
 t53:=Tryz.underlying166
 a53:=Tryz.isAgg166
 z53:=Tryz.sizeOf166
 v53:=Tryz.zeroValue166
 t171:=Tryz.underlying183
 a171:=Tryz.isAgg183
 z171:=Tryz.sizeOf183
 v171:=Tryz.zeroValue183
 t173:=Tryz.underlying186
 a173:=Tryz.isAgg186
 z173:=Tryz.sizeOf186
 v173:=Tryz.zeroValue186
 t212:=Tryz.underlying191
 a212:=Tryz.isAgg191
 z212:=Tryz.sizeOf191
 v212:=Tryz.zeroValue191
 t213:=Tryz.underlying192
 a213:=Tryz.isAgg192
 z213:=Tryz.sizeOf192
 t232:=Tryz.underlying198
 a232:=Tryz.isAgg198
 z232:=Tryz.sizeOf198
 v232:=Tryz.zeroValue198
 t233:=Tryz.underlying199
 a233:=Tryz.isAgg199
 z233:=Tryz.sizeOf199
 v233:=Tryz.zeroValue199
 g17:=by kernel_rfl
 g18:=by kernel_rfl
 g19:=by kernel_rfl
 i0:=by kernel_rfl
 i2:=by kernel_rfl
 i3:=by kernel_rfl
 i4:=by kernel_rfl
 i5:=by kernel_rfl
 i9:=by kernel_rfl
 i20:=by kernel_rfl
 i37:=by kernel_rfl
 i46:=by kernel_rfl
 i51:=by kernel_rfl
 i53:=by kernel_rfl
 i171:=by kernel_rfl
 i173:=by kernel_rfl
 i212:=by kernel_rfl
 i232:=by kernel_rfl
 i233:=by kernel_rfl
 m17:=by kernel_rfl
 m18:=by kernel_rfl
 m19:=by kernel_rfl }
end Go.Proofs
namespace Go.Proofs.YthodldbjhlpjhaaGreatDoor
open Go.RowKit Go.Pv Go.Shelf
theorem Qab:Tryz.prog.globalNamed "internal/strconv.uint64pow10" = some 1:=by kernel_rfl
theorem Qhw:((Lib.pow10Tab.map fun z=>Value.int .u64 z).toArray)=(#[.int .u64 1,.int .u64 10,.int .u64 100,.int .u64 1000,.int .u64 10000,.int .u64 100000,.int .u64 1000000,.int .u64 10000000,.int .u64 100000000,.int .u64 1000000000,.int .u64 10000000000,.int .u64 100000000000,.int .u64 1000000000000,.int .u64 10000000000000,.int .u64 100000000000000,.int .u64 1000000000000000,.int .u64 10000000000000000,.int .u64 100000000000000000,.int .u64 1000000000000000000,.int .u64 10000000000000000000]:Array Value):=by kernel_rfl
theorem Qon {w:World} (h:Go.Ev.GW w):Lib.TabIs Tryz.prog w "internal/strconv.uint64pow10" .u64 Lib.pow10Tab:=by
 obtain ⟨_,t,f,h2⟩:=h.2 (1,[.int .u64 1,.int .u64 10,.int .u64 100,.int .u64 1000,.int .u64 10000,.int .u64 100000,.int .u64 1000000,.int .u64 10000000,.int .u64 100000000,.int .u64 1000000000,.int .u64 10000000000,.int .u64 100000000000,.int .u64 1000000000000,.int .u64 10000000000000,.int .u64 100000000000000,.int .u64 1000000000000000,.int .u64 10000000000000000,.int .u64 100000000000000000,.int .u64 1000000000000000000,.int .u64 10000000000000000000]) (by unfold Go.Ev.gTabs;simp)
 unfold Lib.TabIs World.var?
 rw [Qab,Qhw]
 simp only [Option.bind_some]
 rw [h2]
theorem Qhx {w:World} (h:Lib.TabIs Tryz.prog w "internal/strconv.uint64pow10" .u64 Lib.pow10Tab):1 < w.heap.size∧∃ t f,w.heap[1]? = some (.cells ([.int .u64 1,.int .u64 10,.int .u64 100,.int .u64 1000,.int .u64 10000,.int .u64 100000,.int .u64 1000000,.int .u64 10000000,.int .u64 100000000,.int .u64 1000000000,.int .u64 10000000000,.int .u64 100000000000,.int .u64 1000000000000,.int .u64 10000000000000,.int .u64 100000000000000,.int .u64 1000000000000000,.int .u64 10000000000000000,.int .u64 100000000000000000,.int .u64 1000000000000000000,.int .u64 10000000000000000000]:List Value).toArray t f):=by
 unfold Lib.TabIs World.var? at h
 rw [Qab,Qhw] at h
 simp only [Option.bind_some] at h
 split at h
 ·rename_i cs t f hc
  injection h with h
  have hlt:1 < w.heap.size:=by
   rcases Nat.lt_or_ge 1 w.heap.size with g | g
   ·exact g
   ·rw [Array.getElem?_eq_none g] at hc;simp at hc
  exact ⟨hlt,t,f,by rw [hc,h]⟩
 ·simp at h
theorem Qhy:ItoaWalk Tryz.prog 116:=fun n w h0 h1 hg=>Any.strconv_Itoa Tryz.laysM171 n h0 h1 w (Qon hg)
theorem Qkd:∀ args lim H v H',itoaX args lim H=some (v,H')→Go.Ev.CallF Tryz.prog 116 args lim H v H' :=
 Qhv (enters_of Tryz.func116 (by kernel_rfl) rfl) Qhy
end Go.Proofs.YthodldbjhlpjhaaGreatDoor
namespace Go.Proofs
open Go.Shelf
def Tryz.lays105_ren:Go.Shelf.Ren:=⟨fun | 105=>148 | 212=>121 | 99=>168 | 165=>169 | 166=>170 | 170=>171 | 169=>172 | 263=>155 | 264=>156 | 206=>182 | 240=>183 | 241=>184 | 276=>190 | 277=>191 | n=>n,fun | 9=>9 | 3=>3 | 4=>4 | 20=>20 | 0=>0 | 46=>143 | 109=>144 | 5=>5 | 72=>175 | 76=>179 | 51=>163 | 146=>164 | 53=>166 | 148=>167 | 70=>172 | 37=>173 | 75=>178 | 127=>188 | 164=>194 | 80=>181 | n=>n,fun | n=>n⟩
theorem Tryz.lays105:Go.Proofs.Lays.n105 Tryz.prog Tryz.lays105_ren:={
 mixed:=by kernel_rfl
 f99:=Tryz.func168.trans (congrArg some (by kernel_rfl))
 f105:=Tryz.func148.trans (congrArg some (by kernel_rfl))
 f165:=Tryz.func169.trans (congrArg some (by kernel_rfl))
 f166:=Tryz.func170.trans (congrArg some (by kernel_rfl))
 f169:=Tryz.func172.trans (congrArg some (by kernel_rfl))
 f170:=Tryz.func171.trans (congrArg some (by kernel_rfl))
 f206:=Tryz.func182.trans (congrArg some (by kernel_rfl))
 f212:=Tryz.func121.trans (congrArg some (by kernel_rfl))
 f240:=Tryz.func183.trans (congrArg some (by kernel_rfl))
 f241:=Tryz.func184.trans (congrArg some (by kernel_rfl))
 f263:=Tryz.func155.trans (congrArg some (by kernel_rfl))
 f264:=Tryz.func156.trans (congrArg some (by kernel_rfl))
 f276:=Tryz.func190.trans (congrArg some (by kernel_rfl))
 f277:=Tryz.func191.trans (congrArg some (by kernel_rfl))
 t0:=Tryz.underlying0
 a0:=Tryz.isAgg0
 z0:=Tryz.sizeOf0
 v0:=Tryz.zeroValue0
 t3:=Tryz.underlying3
 a3:=Tryz.isAgg3
 z3:=Tryz.sizeOf3
 v3:=Tryz.zeroValue3
 t4:=Tryz.underlying4
 a4:=Tryz.isAgg4
 z4:=Tryz.sizeOf4
 v4:=Tryz.zeroValue4
 t5:=Tryz.underlying5
 a5:=Tryz.isAgg5
 z5:=Tryz.sizeOf5
 v5:=Tryz.zeroValue5
 t9:=Tryz.underlying9
 a9:=Tryz.isAgg9
 z9:=Tryz.sizeOf9
 v9:=Tryz.zeroValue9
 t20:=Tryz.underlying20
 a20:=Tryz.isAgg20
 z20:=Tryz.sizeOf20
 v20:=Tryz.zeroValue20
 t37:=Tryz.underlying173
 a37:=Tryz.isAgg173
 z37:=Tryz.sizeOf173
 v37:=Tryz.zeroValue173
 t46:=Tryz.underlying143
 a46:=Tryz.isAgg143
 z46:=Tryz.sizeOf143
 v46:=Tryz.zeroValue143
 t51:=Tryz.underlying163
 a51:=Tryz.isAgg163
 z51:=Tryz.sizeOf163
 v51:=Tryz.zeroValue163
 t53:=Tryz.underlying166
 a53:=Tryz.isAgg166
 z53:=Tryz.sizeOf166
 v53:=Tryz.zeroValue166
 t70:=Tryz.underlying172
 a70:=Tryz.isAgg172
 z70:=Tryz.sizeOf172
 v70:=Tryz.zeroValue172
 t72:=Tryz.underlying175
 a72:=Tryz.isAgg175
 z72:=Tryz.sizeOf175
 v72:=Tryz.zeroValue175
 t75:=Tryz.underlying178
 a75:=Tryz.isAgg178
 z75:=Tryz.sizeOf178
 v75:=Tryz.zeroValue178
 t76:=Tryz.underlying179
 a76:=Tryz.isAgg179
 z76:=Tryz.sizeOf179
 v76:=Tryz.zeroValue179
 t109:=Tryz.underlying144
 a109:=Tryz.isAgg144
 z109:=Tryz.sizeOf144
 v109:=Tryz.zeroValue144
 t127:=Tryz.underlying188
 a127:=Tryz.isAgg188
 z127:=Tryz.sizeOf188
 v127:=Tryz.zeroValue188
 t146:=Tryz.underlying164
 a146:=Tryz.isAgg164
 z146:=Tryz.sizeOf164
 v146:=Tryz.zeroValue164
 t148:=Tryz.underlying167
 a148:=Tryz.isAgg167
 z148:=Tryz.sizeOf167
 v148:=Tryz.zeroValue167
 t164:=Tryz.underlying194
 a164:=Tryz.isAgg194
 z164:=Tryz.sizeOf194
 v164:=Tryz.zeroValue194 }
end Go.Proofs
namespace Go.Proofs.YthodldbjhlpjhaaGreatDoor
open Go.RowKit Go.Pv Go.Shelf
theorem Qps:Builder.Extra Tryz.prog Tryz.lays105_ren where
 sizeBuilder:=by kernel_rfl
 liesBuilder:=by kernel_rfl
 t5:=Tryz.underlying5
 a5:=Tryz.isAgg5
 z5:=Tryz.sizeOf5
 v5:=Tryz.zeroValue5
 infoByte:=by kernel_rfl
 cellsByte:=by kernel_rfl
 sizeByte:=by kernel_rfl
 neB5:=by decide
theorem Qke:RepWalk Tryz.prog 148:=fun s n w hn hs=>Any.strings_Repeat Tryz.lays105 Qps s n w (by omega) (by
 have:s.size*n≤1000000*1000000:=Nat.mul_le_mul hs hn
 omega)
theorem Qmu:∀ args lim H v H',repX args lim H=some (v,H')→Go.Ev.CallF Tryz.prog 148 args lim H v H' :=
 Qkc (enters_of Tryz.func148 (by kernel_rfl) rfl) Qke
end Go.Proofs.YthodldbjhlpjhaaGreatDoor
