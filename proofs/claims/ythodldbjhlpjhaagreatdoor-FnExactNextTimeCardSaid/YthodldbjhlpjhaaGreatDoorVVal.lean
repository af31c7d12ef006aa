/-
  The steps of the store: a block comes, changes, is frozen, goes. And what stood behind it in 2 texts.
  Conditions: said at the theorems.
-/
import Derived.Test.YthodldbjhlpjhaaGreatDoorVRel
set_option linter.all false
namespace Go.Pv
open Go.Ev
theorem BR.keep {s s':S} (h:Keep s s') {c:Nat} {C:VB} (hc:c < s.L.bl.length) (r:BR s c C) (hg:∀ m,s.μ c=some m→hget s'.H m.z=hget s.H m.z) (hkid:∀ z i,s.Kid z=some (c,i)→s'.Kid z=some (c,i)∧hget s'.H z=hget s.H z):BR s' c C:=by
 unfold BR at r ⊢
 split at r
 ·obtain ⟨h0,m,k,h1,h2,h3,h4,h5,h6⟩:=r
  exact ⟨h0,m,k,by rw [h.mu c hc];exact h1,h2,by rw [hg m h1];exact h3,h.LRs h4,h5,by rw [h.lim];exact h6⟩
 ·rw [h.mu c hc]
  split at r
  ·exact r
  ·rename_i m hm
   obtain ⟨h1,h2,k,h3,h4,h5,h6,h7⟩:=r
   refine ⟨h1,h2,k,by rw [hg m hm];exact h3,h4,fun i hi=>h.repN (h5 i hi),fun e=>⟨(h6 e).1,by rw [h.lim];exact (h6 e).2⟩,fun e=>h.N (Qi h3) (h7 e)⟩
 ·obtain ⟨r0,r1,r⟩:=r
  refine ⟨r0,r1,?_⟩
  rw [h.mu c hc]
  split at r
  ·exact r
  ·rename_i m hm
   obtain ⟨h1,h2,k,h3,h4,h5,h6,h7⟩:=r
   refine ⟨h1,h2,k,by rw [hg m hm];exact h3,h4,h5,by rw [h.lim];exact h6,fun i hi hn=>?_⟩
   obtain ⟨v,g1,g2⟩:=h7 i hi hn
   exact ⟨v,g1,by rw [h.lim];exact g2.mono r1 (fun z hz=>hkid z i hz)⟩
 ·obtain ⟨h0,m,k,h1,h2,h3,h4,h5,h6⟩:=r
  exact ⟨h0,m,k,by rw [h.mu c hc];exact h1,h2,by rw [hg m h1];exact h3,h4,h5,by rw [h.lim];exact h6.1,h6.2⟩
theorem BR.lt {s:S} {b:Nat} {B:VB} {m:MB} (h:BR s b B) (hm:s.μ b=some m):m.z < s.H.length:=by
 unfold BR at h
 split at h
 ·obtain ⟨_,m',k,h1,_,h3,_⟩:=h
  rw [hm] at h1;injection h1 with h1;subst h1;exact Qi h3
 ·rw [hm] at h
  obtain ⟨_,_,k,h3,_⟩:=h;exact Qi h3
 ·rw [hm] at h
  obtain ⟨_,_,_,_,k,h3,_⟩:=h;exact Qi h3
 ·obtain ⟨_,m',k,h1,_,h3,_⟩:=h
  rw [hm] at h1;injection h1 with h1;subst h1;exact Qi h3
theorem StR.own_lt {s:S} (h:StR s) {z:Nat} (ho:Own s z):z < s.H.length:=by
 rcases ho with ⟨b,B,m,h1,h2,h3,rfl⟩ | hl | ⟨p,hp⟩
 ·exact (h.blk b B h1).lt h3
 ·exact h.lml z hl
 ·exact (h.kl z p hp).1
theorem StR.own_ne {s:S} (h:StR s) {b c:Nat} {B C:VB} {m m':MB} (hb:lget s.L b=some B) (hr:B.rw=true) (hm:s.μ b=some m) (hc:lget s.L c=some C) (hm':s.μ c=some m') (hne:b≠c):m.z≠m'.z :=
 fun e=>hne (h.inj b c B C m m' hb hc hr hm hm' e)
def hpushK (H:Heap) (k:Blk):Heap:=H++[some k]
theorem Q28 (H:Heap) (k:Blk):(hpushK H k).length=H.length+1:=by simp [hpushK]
theorem Q1k {H:Heap} {k:Blk} {z:Nat} (h:z < H.length):hget (hpushK H k) z=hget H z:=by
 unfold hget hpushK;rw [List.getElem?_append_left h]
theorem Qiu (H:Heap) (k:Blk):hget (hpushK H k) H.length=some k:=by
 unfold hget hpushK;simp
theorem StR.pushK {s:S} (h:StR s) (B:Body) (kb:Blk) (m:MB) (hz:m.z=s.H.length)
  (hB:∀ s',Keep s s'→s'.μ s.L.bl.length=some m→hget s'.H s.H.length=some kb→(∀ z,s.N z→z < s.H.length→s'.N z)→BR s' s.L.bl.length ⟨0,true,B⟩) :
  ∃ s',s'.L=lpush s.L B∧s'.H=hpushK s.H kb∧s'.μ s.L.bl.length=some m∧Keep s s'∧StR s':=by
 let s':S:={ s with μ:=S.mu1 s.μ s.L.bl.length (some m),L:=lpush s.L B,H:=hpushK s.H kb }
 have hown:∀ z,Own s' z→Own s z∨z=s.H.length:=by
  rintro z (⟨b,C,m',h1,h2,h3,rfl⟩ | hl)
  rotate_left
  ·exact .inl (.inr hl)
  rcases Nat.lt_trichotomy b s.L.bl.length with hb | hb | hb
  ·refine .inl (.inl ⟨b,C,m',?_,h2,?_,rfl⟩)
   ·rw [← Qk hb (B:=B)];exact h1
   ·exact (S.mu1_ne (Nat.ne_of_lt hb)).symm.trans h3
  ·subst hb
   have e3:some m=some m':=by rw [← h3];exact (S.mu1_self _ _ _).symm
   injection e3 with e3;subst e3;exact .inr hz
  ·rw [show s'.L=lpush s.L B from rfl,Qp hb] at h1;simp at h1
 have hk:Keep s s':=by
  refine ⟨rfl,CK.same rfl rfl,rfl,?_,fun b hb=>S.mu1_ne (Nat.ne_of_lt hb),?_,fun z hz' _=>Q1k hz',fun z ho=>?_,fun b B' hb hB'=>⟨B',?_,Nat.le_refl _,fun _=>⟨rfl,fun m' hm'=>?_,?_⟩⟩⟩
  ·rw [show s'.L=lpush s.L B from rfl,Qc];omega
  ·rw [show s'.H=hpushK s.H kb from rfl,Q28];omega
  ·rcases hown z ho with h1 | h1
   ·exact .inl h1
   ·exact .inr (by omega)
  ·rw [← Qk hb (B:=B)];exact hB'
  ·have hb0:lget s.L b=some B':=by rw [← Qk hb (B:=B)];exact hB'
   exact Q1k ((h.blk b B' hb0).lt hm')
  ·exact fun z i hz=>⟨hz,Q1k (h.kl z _ hz).1⟩
 refine ⟨s',rfl,rfl,S.mu1_self _ _ _,hk,⟨fun b C hC=>?_,fun b c C D m1 m2 h1 h2 h3 h4 h5 e=>?_,fun z hz'=>⟨?_,fun ho=>?_⟩,?_,fun b C m' h1 h2 hl=>?_,fun z hl=>?_,fun z p hp=>?_,fun z p hp=>by rw [show s'.H=hpushK s.H kb from rfl,Q1k (h.kl z p hp).1];exact h.ka z p hp⟩⟩
 rotate_right
 ·obtain ⟨k1,k2,k3,k4⟩:=h.kl z p hp
  refine ⟨by rw [show s'.H=hpushK s.H kb from rfl,Q28];omega,by rw [show s'.L=lpush s.L B from rfl,Qc];omega,k3,fun b C m' g1 g2=>?_⟩
  rcases Nat.lt_trichotomy b s.L.bl.length with hb | hb | hb
  ·exact k4 b C m' (by rw [← Qk hb (B:=B)];exact g1) ((S.mu1_ne (Nat.ne_of_lt hb)).symm.trans g2)
  ·subst hb
   have e3:some m=some m':=by rw [← g2];exact (S.mu1_self _ _ _).symm
   injection e3 with e3;subst e3;omega
  ·rw [show s'.L=lpush s.L B from rfl,Qp hb] at g1;simp at g1
 ·rcases Nat.lt_trichotomy b s.L.bl.length with hb | hb | hb
  ·have hC':lget s.L b=some C:=by rw [← Qk hb (B:=B)];exact hC
   exact (h.blk b C hC').keep hk hb (fun m' hm'=>Q1k ((h.blk b C hC').lt hm')) (fun z i hz=>⟨hz,Q1k (h.kl z _ hz).1⟩)
  ·subst hb
   have:some (⟨0,true,B⟩:VB)=some C:=by rw [← hC];exact (Qx _ _).symm
   injection this with this;subst this
   exact hB s' hk (S.mu1_self _ _ _) (Qiu _ _) (fun z hn hl=>hk.N hl hn)
  ·rw [show s'.L=lpush s.L B from rfl,Qp hb] at hC;simp at hC
 ·have cls:∀ q Q mq,lget s'.L q=some Q→s'.μ q=some mq→(q < s.L.bl.length∧lget s.L q=some Q∧s.μ q=some mq∧mq.z < s.H.length)∨(q=s.L.bl.length∧mq.z=s.H.length):=by
   intro q Q mq g1 g2
   rcases Nat.lt_trichotomy q s.L.bl.length with hq | hq | hq
   ·have a1:lget s.L q=some Q:=by rw [← Qk hq (B:=B)];exact g1
    have a2:s.μ q=some mq:=(S.mu1_ne (Nat.ne_of_lt hq)).symm.trans g2
    exact .inl ⟨hq,a1,a2,(h.blk q Q a1).lt a2⟩
   ·subst hq
    have e3:some m=some mq:=by rw [← g2];exact (S.mu1_self _ _ _).symm
    injection e3 with e3;subst e3;exact .inr ⟨rfl,hz⟩
   ·rw [show s'.L=lpush s.L B from rfl,Qp hq] at g1;simp at g1
  rcases cls b C m1 h1 h4 with ⟨a1,a2,a3,a4⟩ | ⟨a1,a2⟩<;>rcases cls c D m2 h2 h5 with ⟨b1,b2,b3,b4⟩ | ⟨b1,b2⟩
  ·exact h.inj b c C D m1 m2 a2 b2 h3 a3 b3 e
  ·omega
  ·omega
  ·omega
 ·have:=(h.ban z hz').1
  rw [show s'.H=hpushK s.H kb from rfl,Q28];omega
 ·rcases hown z ho with h1 | h1
  ·exact (h.ban z hz').2 h1
  ·have:=(h.ban z hz').1;omega
 ·rw [show s'.H=hpushK s.H kb from rfl,Q28];have:=h.limH;show s.lim≤_;omega
 ·rcases Nat.lt_trichotomy b s.L.bl.length with hb | hb | hb
  ·exact h.lm b C m' (by rw [← Qk hb (B:=B)];exact h1) ((S.mu1_ne (Nat.ne_of_lt hb)).symm.trans h2) hl
  ·subst hb
   have e3:some m=some m':=by rw [← h2];exact (S.mu1_self _ _ _).symm
   injection e3 with e3;subst e3
   have:=h.lml _ hl;omega
  ·rw [show s'.L=lpush s.L B from rfl,Qp hb] at h1;simp at h1
 ·rw [show s'.H=hpushK s.H kb from rfl,Q28];have:=h.lml z hl;omega
theorem StR.push {s:S} (h:StR s) (B:Body) (vs:List Value) (m:MB) (hz:m.z=s.H.length)
  (hB:∀ s',Keep s s'→s'.μ s.L.bl.length=some m→hget s'.H s.H.length=some ⟨vs,false,none⟩→(∀ z,s.N z→z < s.H.length→s'.N z)→BR s' s.L.bl.length ⟨0,true,B⟩) :
  ∃ s',s'.L=lpush s.L B∧s'.H=hpush s.H vs∧s'.μ s.L.bl.length=some m∧Keep s s'∧StR s':=h.pushK B ⟨vs,false,none⟩ m hz hB
theorem StR.push0 {s:S} (h:StR s) (t:Ty) :
  ∃ s',s'.L=lpush s.L (.arr t [])∧s'.H=s.H∧s'.μ s.L.bl.length=none∧Keep s s'∧StR s'∧s'.Lim=s.Lim∧∀ z,s.N z→s'.N z:=by
 let s':S:={ s with μ:=S.mu1 s.μ s.L.bl.length none,L:=lpush s.L (.arr t []) }
 have cls:∀ q Q mq,lget s'.L q=some Q→s'.μ q=some mq→q < s.L.bl.length∧lget s.L q=some Q∧s.μ q=some mq:=by
  intro q Q mq g1 g2
  rcases Nat.lt_trichotomy q s.L.bl.length with hq | hq | hq
  ·exact ⟨hq,by rw [← Qk hq (B:=.arr t [])];exact g1,(S.mu1_ne (Nat.ne_of_lt hq)).symm.trans g2⟩
  ·subst hq
   have e3:none=some mq:=by rw [← g2];exact (S.mu1_self _ _ _).symm
   simp at e3
  ·rw [show s'.L=lpush s.L (.arr t []) from rfl,Qp hq] at g1;simp at g1
 have hown:∀ z,Own s' z→Own s z:=by
  rintro z (⟨b,C,m',h1,h2,h3,rfl⟩ | hl)
  ·obtain ⟨_,a,b'⟩:=cls b C m' h1 h3
   exact .inl ⟨b,C,m',a,h2,b',rfl⟩
  ·exact .inr hl
 have hk:Keep s s':=by
  refine ⟨rfl,CK.same rfl rfl,rfl,?_,fun b hb=>S.mu1_ne (Nat.ne_of_lt hb),Nat.le_refl _,fun z hz' _=>rfl,fun z ho=>.inl (hown z ho),fun b B' hb hB'=>⟨B',?_,Nat.le_refl _,fun _=>⟨rfl,fun m' hm'=>rfl,fun z i hz=>⟨hz,rfl⟩⟩⟩⟩
  ·rw [show s'.L=lpush s.L (.arr t []) from rfl,Qc];omega
  ·rw [← Qk hb (B:=.arr t [])];exact hB'
 refine ⟨s',rfl,rfl,S.mu1_self _ _ _,hk,⟨fun b C hC=>?_,fun b c C D m1 m2 h1 h2 h3 h4 h5 e=>?_,fun z hz'=>⟨(h.ban z hz').1,fun ho=>(h.ban z hz').2 (hown z ho)⟩,h.limH,fun b C m' h1 h2=>h.lm b C m' (cls b C m' h1 h2).2.1 (cls b C m' h1 h2).2.2,h.lml,fun z p hp=>⟨(h.kl z p hp).1,by rw [show s'.L=lpush s.L (.arr t []) from rfl,Qc];have:=(h.kl z p hp).2.1;omega,(h.kl z p hp).2.2.1,fun b C m' g1 g2=>(h.kl z p hp).2.2.2 b C m' (cls b C m' g1 g2).2.1 (cls b C m' g1 g2).2.2⟩,h.ka⟩,rfl,fun z hz=>⟨fun ho=>hz.1 (hown z ho),hz.2⟩⟩
 ·rcases Nat.lt_trichotomy b s.L.bl.length with hb | hb | hb
  ·have hC':lget s.L b=some C:=by rw [← Qk hb (B:=.arr t [])];exact hC
   exact (h.blk b C hC').keep hk hb (fun m' hm'=>rfl) (fun z i hz=>⟨hz,rfl⟩)
  ·subst hb
   have:some (⟨0,true,.arr t []⟩:VB)=some C:=by rw [← hC];exact (Qx _ _).symm
   injection this with this;subst this
   unfold BR;simp only
   rw [show s'.μ s.L.bl.length=none from S.mu1_self _ _ _];trivial
  ·rw [show s'.L=lpush s.L (.arr t []) from rfl,Qp hb] at hC;simp at hC
 ·obtain ⟨_,a1,a2⟩:=cls b C m1 h1 h4
  obtain ⟨_,b1,b2⟩:=cls c D m2 h2 h5
  exact h.inj b c C D m1 m2 a1 b1 h3 a2 b2 e
theorem StR.setL {s:S} (h:StR s) {b:Nat} {B:VB} {m:MB} (hb:lget s.L b=some B) (hr:B.rw=true) (hm:s.μ b=some m) (B':VB) (hr':B'.rw=true) (hv:B'.ver=B.ver+1) (k':Blk)
  (hB:∀ s',Keep s s'→s'.μ b=some m→hget s'.H m.z=some k'→(∀ z,s.N z→z < s.H.length→s'.N z)→BR s' b B') :
  ∃ s',s'.L=lset s.L b B'∧s'.H=s.H.set m.z (some k')∧s'.μ=s.μ∧Keep s s'∧StR s'∧s'.Lim=s.Lim:=by
 let s':S:={ s with L:=lset s.L b B',H:=s.H.set m.z (some k') }
 have hlb:=Qe hb
 have hz:=(h.blk b B hb).lt hm
 have cls:∀ q Q,lget s'.L q=some Q→(q=b∧Q=B')∨(q≠b∧lget s.L q=some Q):=by
  intro q Q g
  by_cases e:b=q
  ·subst e;left;have:some B'=some Q:=by rw [← g];exact (Qg hlb).symm
   injection this with this;exact ⟨rfl,this.symm⟩
  ·right;exact ⟨fun x=>e x.symm,by rw [← Qv e (B:=B')];exact g⟩
 have hown:∀ z,Own s' z→Own s z:=by
  rintro z (⟨q,Q,m',h1,h2,h3,rfl⟩ | hl)
  ·rcases cls q Q h1 with ⟨rfl,rfl⟩ | ⟨_,g⟩
   ·exact .inl ⟨q,B,m',hb,hr,h3,rfl⟩
   ·exact .inl ⟨q,Q,m',g,h2,h3,rfl⟩
  ·exact .inr hl
 have hoz:Own s m.z:=.inl ⟨b,B,m,hb,hr,hm,rfl⟩
 have hlm:∀ q Q m',lget s'.L q=some Q→s'.μ q=some m'→¬ s'.Lim m'.z:=by
  intro q Q m' h1 h2
  rcases cls q Q h1 with ⟨rfl,rfl⟩ | ⟨_,g⟩
  ·exact h.lm q B m' hb h2
  ·exact h.lm q Q m' g h2
 have hk:Keep s s':=by
  refine ⟨rfl,CK.same rfl rfl,rfl,by simp [s',Q00],fun b hb=>rfl,by simp [s'],fun z hz' hn=>?_,fun z ho=>.inl (hown z ho),fun q Q hq hQ=>?_⟩
  ·exact Qa (fun e=>hn (e▸hoz))
  ·rcases cls q Q hQ with ⟨rfl,rfl⟩ | ⟨hne,g⟩
   ·exact ⟨B,hb,by omega,fun e=>absurd e (by omega)⟩
   ·exact ⟨Q,g,Nat.le_refl _,fun _=>⟨rfl,fun m' hm'=>Qa (h.own_ne hb hr hm g hm' (fun e=>hne e.symm)),fun z i hz=>⟨hz,Qa ((h.kl z _ hz).2.2.2 b B m hb hm)⟩⟩⟩
 refine ⟨s',rfl,rfl,rfl,hk,⟨fun q Q hQ=>?_,fun q c Q D m1 m2 h1 h2 h3 h4 h5 e=>?_,fun z hz'=>⟨by simp [s'];exact (h.ban z hz').1,fun ho=>(h.ban z hz').2 (hown z ho)⟩,by simp [s'];exact h.limH,hlm,fun z hl=>by simp [s'];exact h.lml z hl,fun z p hp=>?_,fun z p hp=>by rw [show s'.H=s.H.set m.z (some k') from rfl,Qa ((h.kl z p hp).2.2.2 b B m hb hm)];exact h.ka z p hp⟩,rfl⟩
 rotate_right
 ·obtain ⟨k1,k2,k3,k4⟩:=h.kl z p hp
  refine ⟨by simp [s'];exact k1,by rw [show s'.L=lset s.L b B' from rfl,Q00];exact k2,k3,fun q Q m' g1 g2=>?_⟩
  rcases cls q Q g1 with ⟨rfl,rfl⟩ | ⟨_,g⟩
  ·exact k4 q B m' hb g2
  ·exact k4 q Q m' g g2
 ·rcases cls q Q hQ with ⟨rfl,rfl⟩ | ⟨hne,g⟩
  ·exact hB s' hk hm (Q3u hz) (fun z hn hl=>hk.N hl hn)
  ·exact (h.blk q Q g).keep hk (Qe g) (fun m' hm'=>Qa (h.own_ne hb hr hm g hm' (fun e=>hne e.symm))) (fun z i hz=>⟨hz,Qa ((h.kl z _ hz).2.2.2 b B m hb hm)⟩)
 ·rcases cls q Q h1 with ⟨rfl,rfl⟩ | ⟨_,g⟩<;>rcases cls c D h2 with ⟨rfl,rfl⟩ | ⟨_,g'⟩
  ·rfl
  ·exact h.inj q c B D m1 m2 hb g' hr h4 h5 e
  ·exact h.inj q c Q B m1 m2 g hb h3 h4 h5 e
  ·exact h.inj q c Q D m1 m2 g g' h3 h4 h5 e
theorem StR.set {s:S} (h:StR s) {b:Nat} {B:VB} {m:MB} (hb:lget s.L b=some B) (hr:B.rw=true) (hm:s.μ b=some m) (B':VB) (hr':B'.rw=true) (hv:B'.ver=B.ver+1) (k':Blk)
  (hB:∀ s',Keep s s'→s'.μ b=some m→hget s'.H m.z=some k'→(∀ z,s.N z→z < s.H.length→s'.N z)→BR s' b B') :
  ∃ s',s'.L=lset s.L b B'∧s'.H=s.H.set m.z (some k')∧s'.μ=s.μ∧Keep s s'∧StR s':=by
 obtain ⟨s',a1,a2,a3,a4,a5,_⟩:=h.setL hb hr hm B' hr' hv k' hB
 exact ⟨s',a1,a2,a3,a4,a5⟩
theorem StR.set0 {s:S} (h:StR s) {b:Nat} {B:VB} (hb:lget s.L b=some B) (hr:B.rw=true) (hm:s.μ b=none) (B':VB) (hr':B'.rw=true) (hv:B'.ver=B.ver+1)
  (hB:∀ s',s'.μ b=none→BR s' b B') :
  ∃ s',s'.L=lset s.L b B'∧s'.H=s.H∧s'.μ=s.μ∧Keep s s'∧StR s':=by
 let s':S:={ s with L:=lset s.L b B' }
 have hlb:=Qe hb
 have cls:∀ q Q,lget s'.L q=some Q→(q=b∧Q=B')∨(q≠b∧lget s.L q=some Q):=by
  intro q Q g
  by_cases e:b=q
  ·subst e;left;have:some B'=some Q:=by rw [← g];exact (Qg hlb).symm
   injection this with this;exact ⟨rfl,this.symm⟩
  ·right;exact ⟨fun x=>e x.symm,by rw [← Qv e (B:=B')];exact g⟩
 have hown:∀ z,Own s' z→Own s z:=by
  rintro z (⟨q,Q,m',h1,h2,h3,rfl⟩ | hl)
  ·rcases cls q Q h1 with ⟨rfl,rfl⟩ | ⟨_,g⟩
   ·exact .inl ⟨q,B,m',hb,hr,h3,rfl⟩
   ·exact .inl ⟨q,Q,m',g,h2,h3,rfl⟩
  ·exact .inr hl
 have hk:Keep s s':=by
  refine ⟨rfl,CK.same rfl rfl,rfl,by simp [s',Q00],fun b hb=>rfl,Nat.le_refl _,fun z hz' hn=>rfl,fun z ho=>.inl (hown z ho),fun q Q hq hQ=>?_⟩
  rcases cls q Q hQ with ⟨rfl,rfl⟩ | ⟨hne,g⟩
  ·exact ⟨B,hb,by omega,fun e=>absurd e (by omega)⟩
  ·exact ⟨Q,g,Nat.le_refl _,fun _=>⟨rfl,fun m' hm'=>rfl,fun z i hz=>⟨hz,rfl⟩⟩⟩
 refine ⟨s',rfl,rfl,rfl,hk,⟨fun q Q hQ=>?_,fun q c Q D m1 m2 h1 h2 h3 h4 h5 e=>?_,fun z hz'=>⟨(h.ban z hz').1,fun ho=>(h.ban z hz').2 (hown z ho)⟩,h.limH,fun q Q m' h1 h2=>?_,h.lml,fun z p hp=>?_,h.ka⟩⟩
 rotate_right
 ·obtain ⟨k1,k2,k3,k4⟩:=h.kl z p hp
  refine ⟨k1,by rw [show s'.L=lset s.L b B' from rfl,Q00];exact k2,k3,fun q Q m' g1 g2=>?_⟩
  rcases cls q Q g1 with ⟨rfl,rfl⟩ | ⟨_,g⟩
  ·exact k4 q B m' hb g2
  ·exact k4 q Q m' g g2
 rotate_left 2
 ·rcases cls q Q h1 with ⟨rfl,rfl⟩ | ⟨_,g⟩
  ·exact h.lm q B m' hb h2
  ·exact h.lm q Q m' g h2
 ·rcases cls q Q hQ with ⟨rfl,rfl⟩ | ⟨hne,g⟩
  ·exact hB s' hm
  ·exact (h.blk q Q g).keep hk (Qe g) (fun m' hm'=>rfl) (fun z i hz=>⟨hz,rfl⟩)
 ·rcases cls q Q h1 with ⟨rfl,rfl⟩ | ⟨_,g⟩<;>rcases cls c D h2 with ⟨rfl,rfl⟩ | ⟨_,g'⟩
  ·rfl
  ·exact h.inj q c B D m1 m2 hb g' hr h4 h5 e
  ·exact h.inj q c Q B m1 m2 g hb h3 h4 h5 e
  ·exact h.inj q c Q D m1 m2 g g' h3 h4 h5 e
theorem StR.kill {s:S} (h:StR s) {b:Nat} {B:VB} (hb:lget s.L b=some B) (hr:B.rw=true) (gone:Bool) :
  ∃ s',s'.L=lkill s.L b∧s'.H=(match gone,s.μ b with | true,some m=>s.H.set m.z none | _,_=>s.H)∧s'.μ=s.μ∧Keep s s'∧StR s'∧(∀ z,s'.Lim z↔s.Lim z∨∃ m,s.μ b=some m∧m.z=z)∧∀ z,Own s' z↔Own s z:=by
 let H':Heap:=match gone,s.μ b with | true,some m=>s.H.set m.z none | _,_=>s.H
 let s':S:={ s with L:=lkill s.L b,H:=H',Lim:=fun z=>s.Lim z∨∃ m,s.μ b=some m∧m.z=z }
 have hlen:H'.length=s.H.length:=by simp only [H'];split<;>simp
 have hH:∀ z,(∀ m,s.μ b=some m→m.z≠z)→hget H' z=hget s.H z:=by
  intro z hz
  simp only [H']
  split
  ·rename_i m hm;exact Qa (hz m hm)
  ·rfl
 have hown:∀ z,Own s' z↔Own s z:=by
  intro z
  constructor
  ·rintro (⟨q,Q,m',h1,h2,h3,rfl⟩ | (hl | ⟨m,hm,rfl⟩) | hp)
   ·exact .inl ⟨q,Q,m',(Qh h1).2,h2,h3,rfl⟩
   ·exact .inr (.inl hl)
   ·exact .inl ⟨b,B,m,hb,hr,hm,rfl⟩
   ·exact .inr (.inr hp)
  ·rintro (⟨q,Q,m',h1,h2,h3,rfl⟩ | hl | hp)
   ·by_cases e:b=q
    ·subst e;exact .inr (.inl (.inr ⟨m',h3,rfl⟩))
    ·exact .inl ⟨q,Q,m',by rw [show s'.L=lkill s.L b from rfl,Q38 e];exact h1,h2,h3,rfl⟩
   ·exact .inr (.inl (.inl hl))
   ·exact .inr (.inr hp)
 have hk:Keep s s':=by
  refine ⟨rfl,CK.same rfl rfl,rfl,by simp [s',Q1e],fun b hb=>rfl,by rw [show s'.H=H' from rfl,hlen];exact Nat.le_refl _,fun z hz' hn=>?_,fun z ho=>.inl ((hown z).1 ho),fun q Q hq hQ=>?_⟩
  ·exact hH z (fun m hm e=>hn (e▸.inl ⟨b,B,m,hb,hr,hm,rfl⟩))
  ·obtain ⟨hne,g⟩:=Qh hQ
   exact ⟨Q,g,Nat.le_refl _,fun _=>⟨rfl,fun m' hm'=>hH _ (fun m hm=>h.own_ne hb hr hm g hm' hne),fun z i hz=>⟨hz,hH _ (fun m hm=>(h.kl z _ hz).2.2.2 b B m hb hm)⟩⟩⟩
 refine ⟨s',rfl,rfl,rfl,hk,⟨fun q Q hQ=>?_,fun q c Q D m1 m2 h1 h2 h3 h4 h5 e=>?_,fun z hz'=>⟨by rw [show s'.H=H' from rfl,hlen];exact (h.ban z hz').1,fun ho=>(h.ban z hz').2 ((hown z).1 ho)⟩,by rw [show s'.H=H' from rfl,hlen];exact h.limH,fun q Q m' h1 h2=>?_,fun z hl=>?_,fun z p hp=>?_,fun z p hp=>by rw [show s'.H=H' from rfl,hH _ (fun m hm=>(h.kl z p hp).2.2.2 b B m hb hm)];exact h.ka z p hp⟩,fun z=>Iff.rfl,hown⟩
 rotate_right
 ·obtain ⟨k1,k2,k3,k4⟩:=h.kl z p hp
  refine ⟨by rw [show s'.H=H' from rfl,hlen];exact k1,by rw [show s'.L=lkill s.L b from rfl,Q1e];exact k2,?_,fun q Q m' g1 g2=>k4 q Q m' (Qh g1).2 g2⟩
  rintro (hl | ⟨m,hm,e⟩)
  ·exact k3 hl
  ·exact k4 b B m hb hm e
 ·obtain ⟨hne,g⟩:=Qh hQ
  exact (h.blk q Q g).keep hk (Qe g) (fun m' hm'=>hH _ (fun m hm=>h.own_ne hb hr hm g hm' hne)) (fun z i hz=>⟨hz,hH _ (fun m hm=>(h.kl z _ hz).2.2.2 b B m hb hm)⟩)
 ·exact h.inj q c Q D m1 m2 (Qh h1).2 (Qh h2).2 h3 h4 h5 e
 ·obtain ⟨hne,g⟩:=Qh h1
  rintro (hl | ⟨m,hm,e⟩)
  ·exact h.lm q Q m' g h2 hl
  ·exact h.own_ne hb hr hm g h2 hne e
 ·rw [show s'.H=H' from rfl,hlen]
  rcases hl with hl | ⟨m,hm,rfl⟩
  ·exact h.lml z hl
  ·exact (h.blk b B hb).lt hm
theorem StR.adopt {s:S} (h:StR s) (B:Body) (m:MB) (hz:s.Lim m.z)
  (hB:∀ s',Keep s s'→s'.μ s.L.bl.length=some m→s'.H=s.H→(∀ z,s'.N z↔s.N z)→BR s' s.L.bl.length ⟨0,true,B⟩) :
  ∃ s',s'.L=lpush s.L B∧s'.H=s.H∧s'.μ s.L.bl.length=some m∧Keep s s'∧StR s'∧(∀ z,s'.Lim z↔s.Lim z∧z≠m.z)∧∀ z,Own s' z↔Own s z:=by
 let s':S:={ s with μ:=S.mu1 s.μ s.L.bl.length (some m),L:=lpush s.L B,Lim:=fun z=>s.Lim z∧z≠m.z }
 have cls:∀ q Q mq,lget s'.L q=some Q→s'.μ q=some mq→(q < s.L.bl.length∧lget s.L q=some Q∧s.μ q=some mq∧mq.z≠m.z)∨(q=s.L.bl.length∧mq=m∧Q=⟨0,true,B⟩):=by
  intro q Q mq g1 g2
  rcases Nat.lt_trichotomy q s.L.bl.length with hq | hq | hq
  ·have a1:lget s.L q=some Q:=by rw [← Qk hq (B:=B)];exact g1
   have a2:s.μ q=some mq:=(S.mu1_ne (Nat.ne_of_lt hq)).symm.trans g2
   exact .inl ⟨hq,a1,a2,fun e=>h.lm q Q mq a1 a2 (e▸hz)⟩
  ·subst hq
   have e3:some m=some mq:=by rw [← g2];exact (S.mu1_self _ _ _).symm
   have e4:some (⟨0,true,B⟩:VB)=some Q:=by rw [← g1];exact (Qx _ _).symm
   injection e3 with e3;injection e4 with e4;exact .inr ⟨rfl,e3.symm,e4.symm⟩
  ·rw [show s'.L=lpush s.L B from rfl,Qp hq] at g1;simp at g1
 have hown:∀ z,Own s' z↔Own s z:=by
  intro z
  constructor
  ·rintro (⟨q,Q,m',h1,h2,h3,rfl⟩ | hl | hp)
   ·rcases cls q Q m' h1 h3 with ⟨_,a,b,_⟩ | ⟨_,rfl,_⟩
    ·exact .inl ⟨q,Q,m',a,h2,b,rfl⟩
    ·exact .inr (.inl hz)
   ·exact .inr (.inl hl.1)
   ·exact .inr (.inr hp)
  ·rintro (⟨q,Q,m',h1,h2,h3,rfl⟩ | hl | hp)
   ·have hq:=Qe h1
    exact .inl ⟨q,Q,m',by rw [show s'.L=lpush s.L B from rfl,Qk hq];exact h1,h2,(S.mu1_ne (Nat.ne_of_lt hq)).trans h3,rfl⟩
   ·by_cases e:z=m.z
    ·exact .inl ⟨s.L.bl.length,_,m,Qx _ _,rfl,S.mu1_self _ _ _,e.symm⟩
    ·exact .inr (.inl ⟨hl,e⟩)
   ·exact .inr (.inr hp)
 have hk:Keep s s':=by
  refine ⟨rfl,CK.same rfl rfl,rfl,?_,fun b hb=>S.mu1_ne (Nat.ne_of_lt hb),Nat.le_refl _,fun z hz' _=>rfl,fun z ho=>.inl ((hown z).1 ho),fun b B' hb hB'=>⟨B',?_,Nat.le_refl _,fun _=>⟨rfl,fun m' hm'=>rfl,fun z i hz=>⟨hz,rfl⟩⟩⟩⟩
  ·rw [show s'.L=lpush s.L B from rfl,Qc];omega
  ·rw [← Qk hb (B:=B)];exact hB'
 refine ⟨s',rfl,rfl,S.mu1_self _ _ _,hk,⟨fun b C hC=>?_,fun b c C D m1 m2 h1 h2 h3 h4 h5 e=>?_,fun z hz'=>⟨(h.ban z hz').1,fun ho=>(h.ban z hz').2 ((hown z).1 ho)⟩,h.limH,fun b C m' h1 h2 hl=>?_,fun z hl=>h.lml z hl.1,fun z p hp=>?_,h.ka⟩,fun z=>Iff.rfl,hown⟩
 rotate_right
 ·obtain ⟨k1,k2,k3,k4⟩:=h.kl z p hp
  refine ⟨k1,by rw [show s'.L=lpush s.L B from rfl,Qc];omega,fun hl=>k3 hl.1,fun q Q m' g1 g2=>?_⟩
  rcases cls q Q m' g1 g2 with ⟨_,a,b,_⟩ | ⟨_,rfl,_⟩
  ·exact k4 q Q m' a b
  ·exact fun e=>k3 (e▸hz)
 ·rcases Nat.lt_trichotomy b s.L.bl.length with hb | hb | hb
  ·have hC':lget s.L b=some C:=by rw [← Qk hb (B:=B)];exact hC
   exact (h.blk b C hC').keep hk hb (fun m' hm'=>rfl) (fun z i hz=>⟨hz,rfl⟩)
  ·subst hb
   have:some (⟨0,true,B⟩:VB)=some C:=by rw [← hC];exact (Qx _ _).symm
   injection this with this;subst this
   exact hB s' hk (S.mu1_self _ _ _) rfl (fun z=>⟨fun hn=>⟨fun ho=>hn.1 ((hown z).2 ho),hn.2⟩,fun hn=>⟨fun ho=>hn.1 ((hown z).1 ho),hn.2⟩⟩)
  ·rw [show s'.L=lpush s.L B from rfl,Qp hb] at hC;simp at hC
 ·rcases cls b C m1 h1 h4 with ⟨a1,a2,a3,a4⟩ | ⟨a1,rfl,_⟩<;>rcases cls c D m2 h2 h5 with ⟨b1,b2,b3,b4⟩ | ⟨b1,rfl,_⟩
  ·exact h.inj b c C D m1 m2 a2 b2 h3 a3 b3 e
  ·exact absurd e a4
  ·exact absurd e.symm b4
  ·omega
 ·rcases cls b C m' h1 h2 with ⟨_,a,b',_⟩ | ⟨_,rfl,_⟩
  ·exact h.lm b C m' a b' hl.1
  ·exact hl.2 rfl
def unKid (s:S) (b:Nat):Nat→Option (Nat×Nat):=fun z=>match s.Kid z with
 | some p=>if p.1=b then none else some p
 | none=>none
theorem Q13 {s:S} {b z:Nat} {p:Nat×Nat} (h:unKid s b z=some p):s.Kid z=some p∧p.1≠b:=by
 unfold unKid at h
 split at h
 ·rename_i q hq
  split at h
  ·simp at h
  ·rename_i hne
   injection h with h;subst h;exact ⟨hq,hne⟩
 ·simp at h
theorem Q52 {s:S} {b z:Nat} {p:Nat×Nat} (h:s.Kid z=some p) (hp:p.1≠b):unKid s b z=some p:=by
 unfold unKid;rw [h];simp [hp]
theorem StR.frz {s:S} (h:StR s) {b v:Nat} {B0:Body} (hb:lget s.L b=some ⟨v,true,B0⟩) (ty:Ty) (xs:List ty.T)
  (hB:∀ s',Keep s s'→s'.H=s.H→s'.μ=s.μ→(∀ m,s.μ b=some m→s'.N m.z)→(∀ z i,s.Kid z=some (b,i)→s'.N z)→BR s' b ⟨v+1,false,.arr ty xs⟩) :
  ∃ s',s'.L=lset s.L b ⟨v+1,false,.arr ty xs⟩∧s'.H=s.H∧s'.μ=s.μ∧Keep s s'∧StR s'∧(∀ m,s.μ b=some m→s'.N m.z)∧(∀ z i,s.Kid z=some (b,i)→s'.N z)∧(∀ z,Own s' z→Own s z)∧s'.Lim=s.Lim:=by
 have hlb:=Qe hb
 let B1:VB:=⟨v+1,false,.arr ty xs⟩
 let s':S:={ s with L:=lset s.L b B1,Kid:=unKid s b }
 have cls:∀ q Q,lget s'.L q=some Q→(q=b∧Q=B1)∨(q≠b∧lget s.L q=some Q):=by
  intro q Q g
  by_cases e:b=q
  ·subst e;left;have:some B1=some Q:=by rw [← g];exact (Qg hlb).symm
   injection this with this;exact ⟨rfl,this.symm⟩
  ·right;exact ⟨fun x=>e x.symm,by rw [← Qv e (B:=B1)];exact g⟩
 have hown':∀ z,Own s' z→(∃ q Q m',q≠b∧lget s.L q=some Q∧Q.rw=true∧s.μ q=some m'∧m'.z=z)∨s.Lim z∨∃ p,s.Kid z=some p∧p.1≠b:=by
  rintro z (⟨q,Q,m',h1,h2,h3,rfl⟩ | hl | ⟨p,hp⟩)
  ·rcases cls q Q h1 with ⟨rfl,rfl⟩ | ⟨hne,g⟩
   ·simp [B1] at h2
   ·exact .inl ⟨q,Q,m',hne,g,h2,h3,rfl⟩
  ·exact .inr (.inl hl)
  ·exact .inr (.inr ⟨p,Q13 hp⟩)
 have hown:∀ z,Own s' z→Own s z:=by
  intro z hz
  rcases hown' z hz with ⟨q,Q,m',_,g,h2,h3,e⟩ | hl | ⟨p,hp,_⟩
  ·exact .inl ⟨q,Q,m',g,h2,h3,e⟩
  ·exact .inr (.inl hl)
  ·exact .inr (.inr ⟨p,hp⟩)
 have hk:Keep s s':=by
  refine ⟨rfl,CK.same rfl rfl,rfl,by simp [s',Q00],fun b hb=>rfl,Nat.le_refl _,fun z hz' hn=>rfl,fun z ho=>.inl (hown z ho),fun q Q hq hQ=>?_⟩
  rcases cls q Q hQ with ⟨rfl,rfl⟩ | ⟨hne,g⟩
  ·exact ⟨_,hb,by simp [B1],fun e=>absurd e (by simp [B1])⟩
  ·exact ⟨Q,g,Nat.le_refl _,fun _=>⟨rfl,fun m' hm'=>rfl,fun z i hz=>⟨Q52 hz hne,rfl⟩⟩⟩
 have hN:∀ m,s.μ b=some m→s'.N m.z:=by
  intro m hm
  refine ⟨fun ho=>?_,fun hban=>?_⟩
  ·rcases hown' _ ho with ⟨q,Q,m',hne,g,h2,h3,e⟩ | hl | ⟨p,hp,_⟩
   ·exact hne (h.inj q b Q _ m' m g hb h2 h3 hm e)
   ·exact h.lm b _ m hb hm hl
   ·exact (h.kl _ _ hp).2.2.2 b _ m hb hm rfl
  ·exact (h.ban _ hban).2 (.inl ⟨b,_,m,hb,rfl,hm,rfl⟩)
 have hN2:∀ z i,s.Kid z=some (b,i)→s'.N z:=by
  intro z i hz
  obtain ⟨k1,k2,k3,k4⟩:=h.kl z _ hz
  refine ⟨fun ho=>?_,fun hban=>(h.ban _ hban).2 (.inr (.inr ⟨_,hz⟩))⟩
  rcases hown' _ ho with ⟨q,Q,m',hne,g,h2,h3,e⟩ | hl | ⟨p,hp,hne⟩
  ·exact k4 q Q m' g h3 e
  ·exact k3 hl
  ·rw [hz] at hp;injection hp with hp;subst hp;exact hne rfl
 refine ⟨s',rfl,rfl,rfl,hk,⟨fun q Q hQ=>?_,fun q c Q D m1 m2 h1 h2 h3 h4 h5 e=>?_,fun z hz'=>⟨(h.ban z hz').1,fun ho=>(h.ban z hz').2 (hown z ho)⟩,h.limH,fun q Q m' h1 h2=>(by
  rcases cls q Q h1 with ⟨rfl,rfl⟩ | ⟨_,g⟩
  ·exact h.lm q _ m' hb h2
  ·exact h.lm q Q m' g h2),h.lml,fun z p hp=>?_,fun z p hp=>h.ka z p (Q13 hp).1⟩,hN,hN2,hown,rfl⟩
 rotate_right
 ·obtain ⟨k1,k2,k3,k4⟩:=h.kl z p (Q13 hp).1
  refine ⟨k1,by rw [show s'.L=lset s.L b B1 from rfl,Q00];exact k2,k3,fun q Q m' g1 g2=>?_⟩
  rcases cls q Q g1 with ⟨rfl,rfl⟩ | ⟨_,g⟩
  ·exact k4 q _ m' hb g2
  ·exact k4 q Q m' g g2
 ·rcases cls q Q hQ with ⟨rfl,rfl⟩ | ⟨hne,g⟩
  ·exact hB s' hk rfl rfl hN hN2
  ·exact (h.blk q Q g).keep hk (Qe g) (fun m' hm'=>rfl) (fun z i hz=>⟨Q52 hz hne,rfl⟩)
 ·rcases cls q Q h1 with ⟨rfl,rfl⟩ | ⟨_,g⟩
  ·simp [B1] at h3
  ·rcases cls c D h2 with ⟨rfl,rfl⟩ | ⟨_,g'⟩
   ·exact h.inj q c Q _ m1 m2 g hb h3 h4 h5 e
   ·exact h.inj q c Q D m1 m2 g g' h3 h4 h5 e
def okF:Body→Prop
 | .cells _=>False
 | .rows _ _ (some _)=>False
 | .mp _=>False
 | _=>True
theorem RowC.rep {K M:Nat→Prop} {H:Heap} {lim:Nat} {t:Ty} {x:List t.T} {v:Value} (h:RowC K H lim t x v) (hf:t.flat=true) (hk:∀ z,K z→M z):Rep M H (.sl t) x [v]:=by
 unfold Rep
 rcases h with ⟨rfl,rfl⟩ | ⟨z,o,k,rfl,h2,h3,h4,h5,h6,h7⟩
 ·exact .inl ⟨rfl,rfl⟩
 ·exact .inr (.inr ⟨z,o,k,rfl,hk z h2,h3,h6.1,fun i hi=>Rep.flat t hf (h7 i hi)⟩)
theorem StR.freezeB {s:S} (h:StR s) (b:Nat) (hc:∀ B,lget s.L b=some B→okF B.body) :
  ∃ s',s'.L=freezeB s.L b∧s'.H=s.H∧s'.μ=s.μ∧Keep s s'∧StR s'∧(∀ B m,lget s.L b=some B→s.μ b=some m→s'.N m.z)∧(∀ z,Own s' z→Own s z)∧s'.Lim=s.Lim∧(∀ B t xs,lget s.L b=some B→B.body=.rows t xs none→∀ z i,s.Kid z=some (b,i)→s'.N z):=by
 rcases hb:lget s.L b with _ | ⟨v,rw,B⟩
 ·exact ⟨s,by simp [Pv.freezeB,hb],rfl,rfl,Keep.refl s,h,fun B m e=>by simp at e,fun z hz=>hz,rfl,fun B t xs e=>by simp at e⟩
 have hB:=h.blk b _ hb
 have hok:=hc _ hb
 cases B with
 | cells cs=>exact absurd hok id
 | mp es=>exact absurd hok id
 | arr ty xs =>
  cases rw with
  | false =>
   refine ⟨s,by simp [Pv.freezeB,hb],rfl,rfl,Keep.refl s,h,fun B' m e hm=>?_,fun z hz=>hz,rfl,fun B t xs e e2=>by cases e;cases e2⟩
   injection e with e;subst e
   unfold BR at hB
   simp only at hB
   rw [hm] at hB
   obtain ⟨_,_,k,_,_,_,_,h7⟩:=hB
   exact h7 trivial
  | true =>
   obtain ⟨s',a1,a2,a3,a4,a5,a6,a7,a8,a9⟩:=h.frz hb ty xs (fun s' hk e1 e2 hN _=>by
    unfold BR at hB ⊢
    simp only at hB ⊢
    rw [e2]
    cases e:s.μ b with
    | none=>rw [e] at hB;exact hB
    | some m =>
     rw [e] at hB
     obtain ⟨g1,g2,k,g3,g4,g5,g6,g7⟩:=hB
     exact ⟨g1,g2,k,by rw [e1];exact g3,g4,fun i hi=>hk.repN (g5 i hi),fun x=>absurd x (by decide),fun _=>hN m e⟩)
   exact ⟨s',by simp [Pv.freezeB,hb,a1],a2,a3,a4,a5,fun B m e hm=>a6 m hm,a8,a9,fun B t xs e e2=>by cases e;cases e2⟩
 | rows t xs ho =>
  cases ho with
  | some i=>exact absurd hok id
  | none =>
  unfold BR at hB
  simp only at hB
  obtain ⟨r0,r1,r⟩:=hB
  cases rw with
  | false=>simp at r0
  | true =>
   obtain ⟨s',a1,a2,a3,a4,a5,a6,a7,a8,a9⟩:=h.frz hb (.sl t) xs (fun s' hk e1 e2 hN hN2=>by
    unfold BR
    simp only
    rw [e2]
    cases e:s.μ b with
    | none=>rw [e] at r;exact r
    | some m =>
     rw [e] at r
     obtain ⟨g1,g2,k,g3,g4,g5,g6,g7⟩:=r
     refine ⟨g1,g2,k,by rw [e1];exact g3,by rw [show (Ty.sl t).size=1 from rfl,Nat.mul_one];exact g4,fun i hi=>?_,fun x=>absurd x (by decide),fun _=>hN m e⟩
     obtain ⟨v,q1,q2⟩:=g7 i hi (by simp)
     rw [show (Ty.sl t).size=1 from rfl,Nat.mul_one]
     have:(k.cells.drop (m.sh+i)).take 1=[v]:=by
      obtain ⟨hl,he⟩:=List.getElem?_eq_some_iff.1 q1
      rw [List.drop_eq_getElem_cons hl,List.take_succ_cons,List.take_zero,he]
     rw [this,e1]
     exact q2.rep r1 (fun z hz=>hN2 z i hz))
   exact ⟨s',by simp [Pv.freezeB,hb,a1],a2,a3,a4,a5,fun B m e hm=>a6 m hm,a8,a9,fun _ _ _ _ _=>a7⟩
theorem StR.freezeAny {s:S} (h:StR s) (b:Nat):∃ s',s'.L=Pv.freezeB s.L b∧s'.H=s.H∧s'.μ=s.μ∧Keep s s'∧StR s'∧(∀ z,Own s' z→Own s z)∧s'.Lim=s.Lim:=by
 by_cases hc:∀ B,lget s.L b=some B→okF B.body
 ·obtain ⟨s',a1,a2,a3,a4,a5,_,a7,a8,_⟩:=h.freezeB b hc
  exact ⟨s',a1,a2,a3,a4,a5,a7,a8⟩
 ·refine ⟨s,?_,rfl,rfl,Keep.refl s,h,fun _ h=>h,rfl⟩
  simp only [Classical.not_forall] at hc
  obtain ⟨B,hb,hcs⟩:=hc
  obtain ⟨v,r,bo⟩:=B
  unfold Pv.freezeB;rw [hb]
  cases bo with
  | cells cs=>cases r<;>rfl
  | mp es=>cases r<;>rfl
  | arr t xs=>exact absurd trivial hcs
  | rows t xs ho =>
   cases ho with
   | none=>exact absurd trivial hcs
   | some i=>cases r<;>rfl
theorem StR.kid_ne {s:S} (h:StR s) {z b i:Nat} (hz:s.Kid z=some (b,i)) {c:Nat} {C:VB} {m:MB} (hc:lget s.L c=some C) (hm:s.μ c=some m):m.z≠z:=(h.kl z _ hz).2.2.2 c C m hc hm
theorem StR.killR {s:S} (h:StR s) {b:Nat} {B:VB} (hb:lget s.L b=some B) (hr:B.rw=true) (gone:Bool) :
  ∃ s',s'.L=lkill s.L b∧s'.H=(match gone,s.μ b with | true,some m=>s.H.set m.z none | _,_=>s.H)∧s'.μ=s.μ∧Keep s s'∧StR s' ∧
   (∀ z,s'.Lim z↔s.Lim z∨(∃ m,s.μ b=some m∧m.z=z)∨∃ i,s.Kid z=some (b,i))∧(∀ z,Own s' z↔Own s z)∧(∀ z,(∀ i,s.Kid z≠some (b,i))→s'.Kid z=s.Kid z):=by
 let H':Heap:=match gone,s.μ b with | true,some m=>s.H.set m.z none | _,_=>s.H
 let s':S:={ s with L:=lkill s.L b,H:=H',Lim:=fun z=>s.Lim z∨(∃ m,s.μ b=some m∧m.z=z)∨∃ i,s.Kid z=some (b,i),Kid:=unKid s b }
 have hlen:H'.length=s.H.length:=by simp only [H'];split<;>simp
 have hH:∀ z,(∀ m,s.μ b=some m→m.z≠z)→hget H' z=hget s.H z:=by
  intro z hz
  simp only [H']
  split
  ·rename_i m hm;exact Qa (hz m hm)
  ·rfl
 have hown:∀ z,Own s' z↔Own s z:=by
  intro z
  constructor
  ·rintro (⟨q,Q,m',h1,h2,h3,rfl⟩ | (hl | ⟨m,hm,rfl⟩ | ⟨i,hi⟩) | ⟨p,hp⟩)
   ·exact .inl ⟨q,Q,m',(Qh h1).2,h2,h3,rfl⟩
   ·exact .inr (.inl hl)
   ·exact .inl ⟨b,B,m,hb,hr,hm,rfl⟩
   ·exact .inr (.inr ⟨_,hi⟩)
   ·exact .inr (.inr ⟨p,(Q13 hp).1⟩)
  ·rintro (⟨q,Q,m',h1,h2,h3,rfl⟩ | hl | ⟨⟨c,i⟩,hp⟩)
   ·by_cases e:b=q
    ·subst e;exact .inr (.inl (.inr (.inl ⟨m',h3,rfl⟩)))
    ·exact .inl ⟨q,Q,m',by rw [show s'.L=lkill s.L b from rfl,Q38 e];exact h1,h2,h3,rfl⟩
   ·exact .inr (.inl (.inl hl))
   ·by_cases e:c=b
    ·subst e;exact .inr (.inl (.inr (.inr ⟨i,hp⟩)))
    ·exact .inr (.inr ⟨_,Q52 hp e⟩)
 have hk:Keep s s':=by
  refine ⟨rfl,CK.same rfl rfl,rfl,by simp [s',Q1e],fun b hb=>rfl,by rw [show s'.H=H' from rfl,hlen];exact Nat.le_refl _,fun z hz' hn=>?_,fun z ho=>.inl ((hown z).1 ho),fun q Q hq hQ=>?_⟩
  ·exact hH z (fun m hm e=>hn (e▸.inl ⟨b,B,m,hb,hr,hm,rfl⟩))
  ·obtain ⟨hne,g⟩:=Qh hQ
   exact ⟨Q,g,Nat.le_refl _,fun _=>⟨rfl,fun m' hm'=>hH _ (fun m hm=>h.own_ne hb hr hm g hm' hne),fun z i hz=>⟨Q52 hz (fun e=>hne e.symm),hH _ (fun m hm=>h.kid_ne hz hb hm)⟩⟩⟩
 refine ⟨s',rfl,rfl,rfl,hk,⟨fun q Q hQ=>?_,fun q c Q D m1 m2 h1 h2 h3 h4 h5 e=>?_,fun z hz'=>⟨by rw [show s'.H=H' from rfl,hlen];exact (h.ban z hz').1,fun ho=>(h.ban z hz').2 ((hown z).1 ho)⟩,by rw [show s'.H=H' from rfl,hlen];exact h.limH,fun q Q m' h1 h2=>?_,fun z hl=>?_,fun z p hp=>?_,fun z p hp=>by rw [show s'.H=H' from rfl,hH _ (fun m hm=>(h.kl z p (Q13 hp).1).2.2.2 b B m hb hm)];exact h.ka z p (Q13 hp).1⟩,fun z=>Iff.rfl,hown,fun z hz=>?_⟩
 ·obtain ⟨hne,g⟩:=Qh hQ
  exact (h.blk q Q g).keep hk (Qe g) (fun m' hm'=>hH _ (fun m hm=>h.own_ne hb hr hm g hm' hne)) (fun z i hz=>⟨Q52 hz (fun e=>hne e.symm),hH _ (fun m hm=>h.kid_ne hz hb hm)⟩)
 ·exact h.inj q c Q D m1 m2 (Qh h1).2 (Qh h2).2 h3 h4 h5 e
 ·obtain ⟨hne,g⟩:=Qh h1
  rintro (hl | ⟨m,hm,e⟩ | ⟨i,hi⟩)
  ·exact h.lm q Q m' g h2 hl
  ·exact h.own_ne hb hr hm g h2 hne e
  ·exact h.kid_ne hi g h2 rfl
 ·rw [show s'.H=H' from rfl,hlen]
  rcases hl with hl | ⟨m,hm,rfl⟩ | ⟨i,hi⟩
  ·exact h.lml z hl
  ·exact (h.blk b B hb).lt hm
  ·exact (h.kl z _ hi).1
 ·obtain ⟨hp,hne⟩:=Q13 hp
  obtain ⟨k1,k2,k3,k4⟩:=h.kl z p hp
  refine ⟨by rw [show s'.H=H' from rfl,hlen];exact k1,by rw [show s'.L=lkill s.L b from rfl,Q1e];exact k2,?_,fun q Q m' g1 g2=>k4 q Q m' (Qh g1).2 g2⟩
  rintro (hl | ⟨m,hm,e⟩ | ⟨i,hi⟩)
  ·exact k3 hl
  ·exact k4 b B m hb hm e
  ·rw [hp] at hi;injection hi with hi;subst hi;exact hne rfl
 ·show unKid s b z=s.Kid z
  unfold unKid
  split
  ·rename_i p hp
   split
   ·rename_i e;exact absurd hp (by rw [show p=(b,p.2) from by rw [← e]];exact hz p.2)
   ·rw [hp]
  ·rename_i hp;rw [hp]
theorem StR.adoptR {s:S} (h:StR s) (B:Body) (m:MB) (hz:s.Lim m.z) (Kf:Nat→Option Nat) (hK:∀ z i,Kf z=some i→s.Lim z∧z≠m.z∧∃ k,hget s.H z=some k)
  (hB:∀ s',Keep s s'→s'.μ s.L.bl.length=some m→s'.H=s.H→(∀ z i,Kf z=some i→s'.Kid z=some (s.L.bl.length,i))→BR s' s.L.bl.length ⟨0,true,B⟩) :
  ∃ s',s'.L=lpush s.L B∧s'.H=s.H∧s'.μ s.L.bl.length=some m∧Keep s s'∧StR s'∧(∀ z,s'.Lim z↔s.Lim z∧z≠m.z∧Kf z=none)∧(∀ z,Own s' z↔Own s z):=by
 let s':S:={ s with μ:=S.mu1 s.μ s.L.bl.length (some m),L:=lpush s.L B,Lim:=fun z=>s.Lim z∧z≠m.z∧Kf z=none,Kid:=fun z=>match Kf z with | some i=>some (s.L.bl.length,i) | none=>s.Kid z }
 have kid1:∀ z i,Kf z=some i→s'.Kid z=some (s.L.bl.length,i):=by intro z i e;show (match Kf z with | some i=>some (s.L.bl.length,i) | none=>s.Kid z)=_;rw [e]
 have kid0:∀ z,Kf z=none→s'.Kid z=s.Kid z:=by intro z e;show (match Kf z with | some i=>some (s.L.bl.length,i) | none=>s.Kid z)=_;rw [e]
 have kidL:∀ z p,s.Kid z=some p→s'.Kid z=some p:=by
  intro z p hp
  cases e:Kf z with
  | none=>rw [kid0 z e];exact hp
  | some i=>exact absurd (hK z i e).1 (h.kl z p hp).2.2.1
 have cls:∀ q Q mq,lget s'.L q=some Q→s'.μ q=some mq→(q < s.L.bl.length∧lget s.L q=some Q∧s.μ q=some mq∧mq.z≠m.z)∨(q=s.L.bl.length∧mq=m∧Q=⟨0,true,B⟩):=by
  intro q Q mq g1 g2
  rcases Nat.lt_trichotomy q s.L.bl.length with hq | hq | hq
  ·have a1:lget s.L q=some Q:=by rw [← Qk hq (B:=B)];exact g1
   have a2:s.μ q=some mq:=(S.mu1_ne (Nat.ne_of_lt hq)).symm.trans g2
   exact .inl ⟨hq,a1,a2,fun e=>h.lm q Q mq a1 a2 (e▸hz)⟩
  ·subst hq
   have e3:some m=some mq:=by rw [← g2];exact (S.mu1_self _ _ _).symm
   have e4:some (⟨0,true,B⟩:VB)=some Q:=by rw [← g1];exact (Qx _ _).symm
   injection e3 with e3;injection e4 with e4;exact .inr ⟨rfl,e3.symm,e4.symm⟩
  ·rw [show s'.L=lpush s.L B from rfl,Qp hq] at g1;simp at g1
 have hown:∀ z,Own s' z↔Own s z:=by
  intro z
  constructor
  ·rintro (⟨q,Q,m',h1,h2,h3,rfl⟩ | hl | ⟨p,hp⟩)
   ·rcases cls q Q m' h1 h3 with ⟨_,a,b,_⟩ | ⟨_,rfl,_⟩
    ·exact .inl ⟨q,Q,m',a,h2,b,rfl⟩
    ·exact .inr (.inl hz)
   ·exact .inr (.inl hl.1)
   ·cases e:Kf z with
    | none=>rw [kid0 z e] at hp;exact .inr (.inr ⟨p,hp⟩)
    | some i=>exact .inr (.inl (hK z i e).1)
  ·rintro (⟨q,Q,m',h1,h2,h3,rfl⟩ | hl | ⟨p,hp⟩)
   ·have hq:=Qe h1
    exact .inl ⟨q,Q,m',by rw [show s'.L=lpush s.L B from rfl,Qk hq];exact h1,h2,(S.mu1_ne (Nat.ne_of_lt hq)).trans h3,rfl⟩
   ·by_cases e:z=m.z
    ·exact .inl ⟨s.L.bl.length,_,m,Qx _ _,rfl,S.mu1_self _ _ _,e.symm⟩
    ·cases e2:Kf z with
     | none=>exact .inr (.inl ⟨hl,e,e2⟩)
     | some i=>exact .inr (.inr ⟨_,kid1 z i e2⟩)
   ·exact .inr (.inr ⟨p,kidL z p hp⟩)
 have hk:Keep s s':=by
  refine ⟨rfl,CK.same rfl rfl,rfl,?_,fun b hb=>S.mu1_ne (Nat.ne_of_lt hb),Nat.le_refl _,fun z hz' _=>rfl,fun z ho=>.inl ((hown z).1 ho),fun b B' hb hB'=>⟨B',?_,Nat.le_refl _,fun _=>⟨rfl,fun m' hm'=>rfl,fun z i hz=>⟨kidL z _ hz,rfl⟩⟩⟩⟩
  ·rw [show s'.L=lpush s.L B from rfl,Qc];omega
  ·rw [← Qk hb (B:=B)];exact hB'
 refine ⟨s',rfl,rfl,S.mu1_self _ _ _,hk,⟨fun b C hC=>?_,fun b c C D m1 m2 h1 h2 h3 h4 h5 e=>?_,fun z hz'=>⟨(h.ban z hz').1,fun ho=>(h.ban z hz').2 ((hown z).1 ho)⟩,h.limH,fun b C m' h1 h2 hl=>?_,fun z hl=>h.lml z hl.1,fun z p hp=>?_,fun z p hp=>(by
  cases e:Kf z with
  | none=>rw [kid0 z e] at hp;exact h.ka z p hp
  | some i=>exact (hK z i e).2.2)⟩,fun z=>Iff.rfl,hown⟩
 ·rcases Nat.lt_trichotomy b s.L.bl.length with hb | hb | hb
  ·have hC':lget s.L b=some C:=by rw [← Qk hb (B:=B)];exact hC
   exact (h.blk b C hC').keep hk hb (fun m' hm'=>rfl) (fun z i hz=>⟨kidL z _ hz,rfl⟩)
  ·subst hb
   have:some (⟨0,true,B⟩:VB)=some C:=by rw [← hC];exact (Qx _ _).symm
   injection this with this;subst this
   exact hB s' hk (S.mu1_self _ _ _) rfl kid1
  ·rw [show s'.L=lpush s.L B from rfl,Qp hb] at hC;simp at hC
 ·rcases cls b C m1 h1 h4 with ⟨a1,a2,a3,a4⟩ | ⟨a1,rfl,_⟩<;>rcases cls c D m2 h2 h5 with ⟨b1,b2,b3,b4⟩ | ⟨b1,rfl,_⟩
  ·exact h.inj b c C D m1 m2 a2 b2 h3 a3 b3 e
  ·exact absurd e a4
  ·exact absurd e.symm b4
  ·omega
 ·rcases cls b C m' h1 h2 with ⟨_,a,b',_⟩ | ⟨_,rfl,_⟩
  ·exact h.lm b C m' a b' hl.1
  ·exact hl.2.1 rfl
 ·cases e:Kf z with
  | none =>
   rw [kid0 z e] at hp
   obtain ⟨k1,k2,k3,k4⟩:=h.kl z p hp
   refine ⟨k1,by rw [show s'.L=lpush s.L B from rfl,Qc];omega,fun hl=>k3 hl.1,fun q Q m' g1 g2=>?_⟩
   rcases cls q Q m' g1 g2 with ⟨_,a,b,_⟩ | ⟨_,rfl,_⟩
   ·exact k4 q Q m' a b
   ·exact fun e=>k3 (e▸hz)
  | some i =>
   rw [kid1 z i e] at hp;injection hp with hp;subst hp
   obtain ⟨k1,k2,_⟩:=hK z i e
   refine ⟨h.lml z k1,by rw [show s'.L=lpush s.L B from rfl,Qc];simp,fun hl=>by have:=hl.2.2;rw [e] at this;simp at this,fun q Q m' g1 g2=>?_⟩
   rcases cls q Q m' g1 g2 with ⟨_,a,b,_⟩ | ⟨_,rfl,_⟩
   ·exact fun e=>h.lm q Q m' a b (e▸k1)
   ·exact fun e=>k2 e.symm
theorem StR.pushLim {s:S} (h:StR s) (vs:List Value) :
  ∃ s',s'.L=s.L∧s'.H=hpush s.H vs∧s'.μ=s.μ∧Keep s s'∧StR s'∧(∀ z,s'.Lim z↔s.Lim z∨z=s.H.length)∧s'.Kid=s.Kid:=by
 let s':S:={ s with H:=hpush s.H vs,Lim:=fun z=>s.Lim z∨z=s.H.length }
 have hown:∀ z,Own s' z→Own s z∨z=s.H.length:=by
  rintro z (hb | (hl | e) | hp)
  ·exact .inl (.inl hb)
  ·exact .inl (.inr (.inl hl))
  ·exact .inr e
  ·exact .inl (.inr (.inr hp))
 have hk:Keep s s':=by
  refine ⟨rfl,CK.same rfl rfl,rfl,Nat.le_refl _,fun b hb=>rfl,?_,fun z hz' _=>Q1d hz',fun z ho=>?_,fun b B' hb hB'=>⟨B',hB',Nat.le_refl _,fun _=>⟨rfl,fun m' hm'=>Q1d ((h.blk b B' hB').lt hm'),fun z i hz=>⟨hz,Q1d (h.kl z _ hz).1⟩⟩⟩⟩
  ·rw [show s'.H=hpush s.H vs from rfl,Q37];omega
  ·rcases hown z ho with h1 | h1
   ·exact .inl h1
   ·exact .inr (by omega)
 refine ⟨s',rfl,rfl,rfl,hk,⟨fun b C hC=>(h.blk b C hC).keep hk (Qe hC) (fun m' hm'=>Q1d ((h.blk b C hC).lt hm')) (fun z i hz=>⟨hz,Q1d (h.kl z _ hz).1⟩),fun b c C D m1 m2=>h.inj b c C D m1 m2,fun z hz'=>⟨?_,fun ho=>?_⟩,?_,fun b C m' h1 h2=>?_,fun z hl=>?_,fun z p hp=>?_,fun z p hp=>by rw [show s'.H=hpush s.H vs from rfl,Q1d (h.kl z p hp).1];exact h.ka z p hp⟩,fun z=>Iff.rfl,rfl⟩
 ·have:=(h.ban z hz').1
  rw [show s'.H=hpush s.H vs from rfl,Q37];omega
 ·rcases hown z ho with h1 | h1
  ·exact (h.ban z hz').2 h1
  ·have:=(h.ban z hz').1;omega
 ·rw [show s'.H=hpush s.H vs from rfl,Q37];have:=h.limH;show s.lim≤_;omega
 ·rintro (hl | e)
  ·exact h.lm b C m' h1 h2 hl
  ·have:=(h.blk b C h1).lt h2;omega
 ·rw [show s'.H=hpush s.H vs from rfl,Q37]
  rcases hl with hl | rfl
  ·have:=h.lml z hl;omega
  ·omega
 ·obtain ⟨k1,k2,k3,k4⟩:=h.kl z p hp
  refine ⟨by rw [show s'.H=hpush s.H vs from rfl,Q37];omega,k2,?_,k4⟩
  rintro (hl | e)
  ·exact k3 hl
  ·omega
def inKid (s:S) (b:Nat) (inn:Option (Nat×Nat)) (z:Nat):Option (Nat×Nat):=match inn with
 | some p=>if p.1=z then some (b,p.2) else s.Kid z
 | none=>s.Kid z
theorem StR.setR {s:S} (h:StR s) {b:Nat} {B:VB} {m:MB} (hb:lget s.L b=some B) (hr:B.rw=true) (hm:s.μ b=some m) (B':VB) (hr':B'.rw=true) (hv:B'.ver=B.ver+1) (k':Blk)
  (inn:Option (Nat×Nat)) (hin':∀ z i,inn=some (z,i)→s.Lim z∧∃ k,hget s.H z=some k)
  (hB:∀ s',Keep s s'→s'.μ b=some m→hget s'.H m.z=some k'→(∀ z,z≠m.z→hget s'.H z=hget s.H z)→(∀ z i,s.Kid z=some (b,i)→s'.Kid z=some (b,i))→(∀ z i,inn=some (z,i)→s'.Kid z=some (b,i))→BR s' b B') :
  ∃ s',s'.L=lset s.L b B'∧s'.H=s.H.set m.z (some k')∧s'.μ=s.μ∧Keep s s'∧StR s'∧(∀ z,s'.Lim z↔s.Lim z∧∀ i,inn≠some (z,i)):=by
 have hin:∀ z i,inn=some (z,i)→s.Lim z:=fun z i e=>(hin' z i e).1
 let s':S:={ s with L:=lset s.L b B',H:=s.H.set m.z (some k'),Lim:=fun z=>s.Lim z∧∀ i,inn≠some (z,i),Kid:=inKid s b inn }
 have kid1:∀ z i,inn=some (z,i)→s'.Kid z=some (b,i):=by intro z i e;show inKid s b inn z=_;unfold inKid;rw [e];simp
 have kid0:∀ z,(∀ i,inn≠some (z,i))→s'.Kid z=s.Kid z:=by
  intro z e;show inKid s b inn z=_;unfold inKid
  split
  ·rename_i p
   split
   ·rename_i e2;subst e2;exact absurd rfl (e p.2)
   ·rfl
  ·rfl
 have kidc:∀ z,(∃ i,inn=some (z,i))∨∀ i,inn≠some (z,i):=fun z=>by
  by_cases e:∃ i,inn=some (z,i)
  ·exact .inl e
  ·exact .inr fun i h=>e ⟨i,h⟩
 have kidL:∀ z p,s.Kid z=some p→s'.Kid z=some p:=by
  intro z p hp
  rcases kidc z with ⟨i,e⟩ | e
  ·exact absurd (hin z i e) (h.kl z p hp).2.2.1
  ·rw [kid0 z e];exact hp
 have hlb:=Qe hb
 have hz:=(h.blk b B hb).lt hm
 have cls:∀ q Q,lget s'.L q=some Q→(q=b∧Q=B')∨(q≠b∧lget s.L q=some Q):=by
  intro q Q g
  by_cases e:b=q
  ·subst e;left;have:some B'=some Q:=by rw [← g];exact (Qg hlb).symm
   injection this with this;exact ⟨rfl,this.symm⟩
  ·right;exact ⟨fun x=>e x.symm,by rw [← Qv e (B:=B')];exact g⟩
 have hown:∀ z,Own s' z→Own s z:=by
  rintro z (⟨q,Q,m',h1,h2,h3,rfl⟩ | hl | ⟨p,hp⟩)
  ·rcases cls q Q h1 with ⟨rfl,rfl⟩ | ⟨_,g⟩
   ·exact .inl ⟨q,B,m',hb,hr,h3,rfl⟩
   ·exact .inl ⟨q,Q,m',g,h2,h3,rfl⟩
  ·exact .inr (.inl hl.1)
  ·rcases kidc z with ⟨i,e⟩ | e
   ·exact .inr (.inl (hin z i e))
   ·rw [kid0 z e] at hp;exact .inr (.inr ⟨p,hp⟩)
 have hoz:Own s m.z:=.inl ⟨b,B,m,hb,hr,hm,rfl⟩
 have hk:Keep s s':=by
  refine ⟨rfl,CK.same rfl rfl,rfl,by simp [s',Q00],fun b hb=>rfl,by simp [s'],fun z hz' hn=>?_,fun z ho=>.inl (hown z ho),fun q Q hq hQ=>?_⟩
  ·exact Qa (fun e=>hn (e▸hoz))
  ·rcases cls q Q hQ with ⟨rfl,rfl⟩ | ⟨hne,g⟩
   ·exact ⟨B,hb,by omega,fun e=>absurd e (by omega)⟩
   ·exact ⟨Q,g,Nat.le_refl _,fun _=>⟨rfl,fun m' hm'=>Qa (h.own_ne hb hr hm g hm' (fun e=>hne e.symm)),fun z i hz=>⟨kidL z _ hz,Qa (h.kid_ne hz hb hm)⟩⟩⟩
 refine ⟨s',rfl,rfl,rfl,hk,⟨fun q Q hQ=>?_,fun q c Q D m1 m2 h1 h2 h3 h4 h5 e=>?_,fun z hz'=>⟨by simp [s'];exact (h.ban z hz').1,fun ho=>(h.ban z hz').2 (hown z ho)⟩,by simp [s'];exact h.limH,fun q Q m' h1 h2 hl=>?_,fun z hl=>by simp [s'];exact h.lml z hl.1,fun z p hp=>?_,fun z p hp=>(by
  rcases kidc z with ⟨i,e⟩ | e
  ·rw [show s'.H=s.H.set m.z (some k') from rfl,Qa (fun e2:m.z=z=>h.lm b B m hb hm (by rw [e2];exact hin z i e))];exact (hin' z i e).2
  ·rw [kid0 z e] at hp
   rw [show s'.H=s.H.set m.z (some k') from rfl,Qa ((h.kl z p hp).2.2.2 b B m hb hm)];exact h.ka z p hp)⟩,fun z=>Iff.rfl⟩
 ·rcases cls q Q hQ with ⟨rfl,rfl⟩ | ⟨hne,g⟩
  ·exact hB s' hk hm (Q3u hz) (fun z hz=>Qa (fun e=>hz e.symm)) (fun z i hz=>kidL z _ hz) kid1
  ·exact (h.blk q Q g).keep hk (Qe g) (fun m' hm'=>Qa (h.own_ne hb hr hm g hm' (fun e=>hne e.symm))) (fun z i hz=>⟨kidL z _ hz,Qa (h.kid_ne hz hb hm)⟩)
 ·rcases cls q Q h1 with ⟨rfl,rfl⟩ | ⟨_,g⟩<;>rcases cls c D h2 with ⟨rfl,rfl⟩ | ⟨_,g'⟩
  ·rfl
  ·exact h.inj q c B D m1 m2 hb g' hr h4 h5 e
  ·exact h.inj q c Q B m1 m2 g hb h3 h4 h5 e
  ·exact h.inj q c Q D m1 m2 g g' h3 h4 h5 e
 ·rcases cls q Q h1 with ⟨rfl,rfl⟩ | ⟨_,g⟩
  ·exact h.lm q B m' hb h2 hl.1
  ·exact h.lm q Q m' g h2 hl.1
 ·have lmq:∀ q Q m',lget s'.L q=some Q→s'.μ q=some m'→∃ Q0,lget s.L q=some Q0:=by
   intro q Q m' g1 g2
   rcases cls q Q g1 with ⟨rfl,rfl⟩ | ⟨_,g⟩
   ·exact ⟨B,hb⟩
   ·exact ⟨Q,g⟩
  rcases kidc z with ⟨i,e⟩ | e
  ·rw [kid1 z i e] at hp;injection hp with hp;subst hp
   have hl:=hin z i e
   refine ⟨by simp [s'];exact h.lml z hl,by rw [show s'.L=lset s.L b B' from rfl,Q00];exact hlb,fun hl2=>hl2.2 i e,fun q Q m' g1 g2 e2=>?_⟩
   obtain ⟨Q0,g⟩:=lmq q Q m' g1 g2
   exact h.lm q Q0 m' g g2 (e2▸hl)
  ·rw [kid0 z e] at hp
   obtain ⟨k1,k2,k3,k4⟩:=h.kl z p hp
   refine ⟨by simp [s'];exact k1,by rw [show s'.L=lset s.L b B' from rfl,Q00];exact k2,fun hl=>k3 hl.1,fun q Q m' g1 g2=>?_⟩
   obtain ⟨Q0,g⟩:=lmq q Q m' g1 g2
   exact k4 q Q0 m' g g2
theorem StR.detach {s:S} (h:StR s) {b i v:Nat} {t:Ty} {xs:List (List t.T)} (hb:lget s.L b=some ⟨v,true,.rows t xs none⟩) (z0:Option Nat) (hz0:∀ z,z0=some z→s.Kid z=some (b,i)) :
  ∃ s',s'.L=lset s.L b ⟨v+1,true,.rows t xs (some i)⟩∧s'.H=s.H∧s'.μ=s.μ∧Keep s s'∧StR s'∧(∀ z,s'.Lim z↔s.Lim z∨z0=some z)∧∀ z,Own s' z↔Own s z:=by
 let B1:VB:=⟨v+1,true,.rows t xs (some i)⟩
 let s':S:={ s with L:=lset s.L b B1,Lim:=fun z=>s.Lim z∨z0=some z,Kid:=fun z=>if z0=some z then none else s.Kid z }
 have kid1:∀ z,z0=some z→s'.Kid z=none:=fun z e=>if_pos e
 have kid0:∀ z,z0≠some z→s'.Kid z=s.Kid z:=fun z e=>if_neg e
 have hlb:=Qe hb
 have cls:∀ q Q,lget s'.L q=some Q→(q=b∧Q=B1)∨(q≠b∧lget s.L q=some Q):=by
  intro q Q g
  by_cases e:b=q
  ·subst e;left;have:some B1=some Q:=by rw [← g];exact (Qg hlb).symm
   injection this with this;exact ⟨rfl,this.symm⟩
  ·right;exact ⟨fun x=>e x.symm,by rw [← Qv e (B:=B1)];exact g⟩
 have hown:∀ z,Own s' z↔Own s z:=by
  intro z
  constructor
  ·rintro (⟨q,Q,m',h1,h2,h3,rfl⟩ | (hl | hp) | ⟨p,hp⟩)
   ·rcases cls q Q h1 with ⟨rfl,rfl⟩ | ⟨_,g⟩
    ·exact .inl ⟨q,_,m',hb,rfl,h3,rfl⟩
    ·exact .inl ⟨q,Q,m',g,h2,h3,rfl⟩
   ·exact .inr (.inl hl)
   ·exact .inr (.inr ⟨_,hz0 z hp⟩)
   ·by_cases e:z0=some z
    ·rw [kid1 z e] at hp;simp at hp
    ·rw [kid0 z e] at hp;exact .inr (.inr ⟨p,hp⟩)
  ·rintro (⟨q,Q,m',h1,h2,h3,rfl⟩ | hl | ⟨p,hp⟩)
   ·by_cases e:b=q
    ·subst e;exact .inl ⟨b,B1,m',Qg hlb,rfl,h3,rfl⟩
    ·exact .inl ⟨q,Q,m',by rw [show s'.L=lset s.L b B1 from rfl,Qv e];exact h1,h2,h3,rfl⟩
   ·exact .inr (.inl (.inl hl))
   ·by_cases e:z0=some z
    ·exact .inr (.inl (.inr e))
    ·exact .inr (.inr ⟨p,by rw [kid0 z e];exact hp⟩)
 have kidq:∀ q z j,q≠b→s.Kid z=some (q,j)→s'.Kid z=some (q,j):=by
  intro q z j hne hz
  rw [kid0 z (fun e=>by have e:=hz0 z e;rw [hz] at e;injection e with e;injection e with e1 e2;exact hne e1)];exact hz
 have hk:Keep s s':=by
  refine ⟨rfl,CK.same rfl rfl,rfl,by simp [s',Q00],fun b hb=>rfl,Nat.le_refl _,fun z hz' hn=>rfl,fun z ho=>.inl ((hown z).1 ho),fun q Q hq hQ=>?_⟩
  rcases cls q Q hQ with ⟨rfl,rfl⟩ | ⟨hne,g⟩
  ·exact ⟨_,hb,by simp [B1],fun e=>absurd e (by simp [B1])⟩
  ·exact ⟨Q,g,Nat.le_refl _,fun _=>⟨rfl,fun m' hm'=>rfl,fun z j hz=>⟨kidq q z j hne hz,rfl⟩⟩⟩
 refine ⟨s',rfl,rfl,rfl,hk,⟨fun q Q hQ=>?_,fun q c Q D m1 m2 h1 h2 h3 h4 h5 e=>?_,fun z hz'=>⟨(h.ban z hz').1,fun ho=>(h.ban z hz').2 ((hown z).1 ho)⟩,h.limH,fun q Q m' h1 h2 hl=>?_,fun z hl=>?_,fun z p hp=>?_,fun z p hp=>(by
  by_cases e:z0=some z
  ·rw [kid1 z e] at hp;simp at hp
  ·rw [kid0 z e] at hp;exact h.ka z p hp)⟩,fun z=>Iff.rfl,hown⟩
 ·rcases cls q Q hQ with ⟨rfl,rfl⟩ | ⟨hne,g⟩
  ·have:=h.blk q _ hb
   unfold BR at this ⊢
   simp only [B1] at this ⊢
   obtain ⟨r0,r1,r⟩:=this
   refine ⟨trivial,r1,?_⟩
   cases e:s.μ q with
   | none=>rw [e] at r;exact r
   | some m =>
    rw [e] at r
    obtain ⟨g1,g2,k,g3,g4,g5,g6,g7⟩:=r
    refine ⟨g1,g2,k,g3,g4,g5,g6,fun j hj hn=>?_⟩
    obtain ⟨w,q1,q2⟩:=g7 j hj (by simp)
    exact ⟨w,q1,q2.mono r1 (fun z hz=>⟨by rw [kid0 z (fun e=>by have e:=hz0 z e;rw [hz] at e;injection e with e;injection e with e1 e2;exact hn (by rw [e2]))];exact hz,rfl⟩)⟩
  ·exact (h.blk q Q g).keep hk (Qe g) (fun m' hm'=>rfl) (fun z j hz=>⟨kidq q z j hne hz,rfl⟩)
 ·rcases cls q Q h1 with ⟨rfl,rfl⟩ | ⟨_,g⟩<;>rcases cls c D h2 with ⟨rfl,rfl⟩ | ⟨_,g'⟩
  ·rfl
  ·exact h.inj q c _ D m1 m2 hb g' rfl h4 h5 e
  ·exact h.inj q c Q _ m1 m2 g hb h3 h4 h5 e
  ·exact h.inj q c Q D m1 m2 g g' h3 h4 h5 e
 ·have:∃ Q0,lget s.L q=some Q0:=by
   rcases cls q Q h1 with ⟨rfl,rfl⟩ | ⟨_,g⟩
   ·exact ⟨_,hb⟩
   ·exact ⟨Q,g⟩
  obtain ⟨Q0,g⟩:=this
  rcases hl with hl | hl
  ·exact h.lm q Q0 m' g h2 hl
  ·exact h.kid_ne (hz0 _ hl) g h2 rfl
 ·rcases hl with hl | hl
  ·exact h.lml z hl
  ·exact (h.kl z _ (hz0 z hl)).1
 ·by_cases e:z0=some z
  ·rw [kid1 z e] at hp;simp at hp
  ·rw [kid0 z e] at hp
   obtain ⟨k1,k2,k3,k4⟩:=h.kl z p hp
   refine ⟨k1,by rw [show s'.L=lset s.L b B1 from rfl,Q00];exact k2,?_,fun q Q m' g1 g2=>?_⟩
   ·rintro (hl | hl)
    ·exact k3 hl
    ·exact e hl
   ·rcases cls q Q g1 with ⟨rfl,rfl⟩ | ⟨_,g⟩
    ·exact k4 q _ m' hb g2
    ·exact k4 q Q m' g g2
theorem StR.dropLim {s:S} (h:StR s) {z0:Nat} (hz0:s.Lim z0) :
  ∃ s',s'.L=s.L∧s'.H=s.H.set z0 none∧s'.μ=s.μ∧Keep s s'∧StR s'∧s'.Lim=s.Lim∧s'.Kid=s.Kid:=by
 let s':S:={ s with H:=s.H.set z0 none }
 have hne:∀ b B m,lget s.L b=some B→s.μ b=some m→hget s'.H m.z=hget s.H m.z:=fun b B m h1 h2=>Qa (fun e=>h.lm b B m h1 h2 (e▸hz0))
 have hkd:∀ z p,s.Kid z=some p→hget s'.H z=hget s.H z:=fun z p hp=>Qa (fun e=>(h.kl z p hp).2.2.1 (e▸hz0))
 have hk:Keep s s':=by
  refine ⟨rfl,CK.same rfl rfl,rfl,Nat.le_refl _,fun b hb=>rfl,by simp [s'],fun z hz' hn=>Qa (fun e=>hn (e▸.inr (.inl hz0))),fun z ho=>.inl ho,fun b B' hb hB'=>⟨B',hB',Nat.le_refl _,fun _=>⟨rfl,fun m' hm'=>hne b B' m' hB' hm',fun z i hz=>⟨hz,hkd z _ hz⟩⟩⟩⟩
 exact ⟨s',rfl,rfl,rfl,hk,⟨fun b C hC=>(h.blk b C hC).keep hk (Qe hC) (fun m' hm'=>hne b C m' hC hm') (fun z i hz=>⟨hz,hkd z _ hz⟩),h.inj,fun z hz=>⟨by simp [s'];exact (h.ban z hz).1,(h.ban z hz).2⟩,by simp [s'];exact h.limH,h.lm,fun z hl=>by simp [s'];exact h.lml z hl,fun z p hp=>⟨by simp [s'];exact (h.kl z p hp).1,(h.kl z p hp).2⟩,fun z p hp=>by rw [hkd z p hp];exact h.ka z p hp⟩,rfl,rfl⟩
theorem StR.push0R {s:S} (h:StR s) (t:Ty) (hf:t.flat=true) :
  ∃ s',s'.L=lpush s.L (.rows t [] none)∧s'.H=s.H∧s'.μ s.L.bl.length=none∧Keep s s'∧StR s'∧s'.Lim=s.Lim∧s'.Kid=s.Kid∧∀ z,s.N z→s'.N z:=by
 let B:Body:=.rows t [] none
 let s':S:={ s with μ:=S.mu1 s.μ s.L.bl.length none,L:=lpush s.L B }
 have cls:∀ q Q mq,lget s'.L q=some Q→s'.μ q=some mq→q < s.L.bl.length∧lget s.L q=some Q∧s.μ q=some mq:=by
  intro q Q mq g1 g2
  rcases Nat.lt_trichotomy q s.L.bl.length with hq | hq | hq
  ·exact ⟨hq,by rw [← Qk hq (B:=B)];exact g1,(S.mu1_ne (Nat.ne_of_lt hq)).symm.trans g2⟩
  ·subst hq
   have e3:none=some mq:=by rw [← g2];exact (S.mu1_self _ _ _).symm
   simp at e3
  ·rw [show s'.L=lpush s.L B from rfl,Qp hq] at g1;simp at g1
 have hown:∀ z,Own s' z→Own s z:=by
  rintro z (⟨b,C,m',h1,h2,h3,rfl⟩ | hl)
  ·obtain ⟨_,a,b'⟩:=cls b C m' h1 h3
   exact .inl ⟨b,C,m',a,h2,b',rfl⟩
  ·exact .inr hl
 have hk:Keep s s':=by
  refine ⟨rfl,CK.same rfl rfl,rfl,?_,fun b hb=>S.mu1_ne (Nat.ne_of_lt hb),Nat.le_refl _,fun z hz' _=>rfl,fun z ho=>.inl (hown z ho),fun b B' hb hB'=>⟨B',?_,Nat.le_refl _,fun _=>⟨rfl,fun m' hm'=>rfl,fun z i hz=>⟨hz,rfl⟩⟩⟩⟩
  ·rw [show s'.L=lpush s.L B from rfl,Qc];omega
  ·rw [← Qk hb (B:=B)];exact hB'
 refine ⟨s',rfl,rfl,S.mu1_self _ _ _,hk,⟨fun b C hC=>?_,fun b c C D m1 m2 h1 h2 h3 h4 h5 e=>?_,fun z hz'=>⟨(h.ban z hz').1,fun ho=>(h.ban z hz').2 (hown z ho)⟩,h.limH,fun b C m' h1 h2=>h.lm b C m' (cls b C m' h1 h2).2.1 (cls b C m' h1 h2).2.2,h.lml,fun z p hp=>⟨(h.kl z p hp).1,by rw [show s'.L=lpush s.L B from rfl,Qc];have:=(h.kl z p hp).2.1;omega,(h.kl z p hp).2.2.1,fun b C m' g1 g2=>(h.kl z p hp).2.2.2 b C m' (cls b C m' g1 g2).2.1 (cls b C m' g1 g2).2.2⟩,h.ka⟩,rfl,rfl,fun z hz=>⟨fun ho=>hz.1 (hown z ho),hz.2⟩⟩
 ·rcases Nat.lt_trichotomy b s.L.bl.length with hb | hb | hb
  ·have hC':lget s.L b=some C:=by rw [← Qk hb (B:=B)];exact hC
   exact (h.blk b C hC').keep hk hb (fun m' hm'=>rfl) (fun z i hz=>⟨hz,rfl⟩)
  ·subst hb
   have:some (⟨0,true,B⟩:VB)=some C:=by rw [← hC];exact (Qx _ _).symm
   injection this with this;subst this
   unfold BR;simp only [B]
   refine ⟨trivial,hf,?_⟩
   rw [show s'.μ s.L.bl.length=none from S.mu1_self _ _ _];trivial
  ·rw [show s'.L=lpush s.L B from rfl,Qp hb] at hC;simp at hC
 ·obtain ⟨_,a1,a2⟩:=cls b C m1 h1 h4
  obtain ⟨_,b1,b2⟩:=cls c D m2 h2 h5
  exact h.inj b c C D m1 m2 a1 b1 h3 a2 b2 e
theorem StR.pushRows {s:S} (h:StR s) {t:Ty} (hf:t.flat=true) {ys:List (List t.T)} {vs:List Value} (Kf:Nat→Option Nat) (hK':∀ z i,Kf z=some i→s.Lim z∧∃ k,hget s.H z=some k) (hl:vs.length=ys.length)
  (hr:∀ i (hi:i < ys.length),∃ v,vs[i]? = some v∧RowC (fun z=>Kf z=some i) s.H s.lim t ys[i] v) (hp:∀ v∈vs,sameLeaf v v=true) :
  ∃ s',s'.L=lpush s.L (.rows t ys none)∧s'.H=hpush s.H vs∧Keep s s'∧StR s'∧LR0 s' (.osl s.L.bl.length 0 none) (.slice (some ⟨s.H.length,0,none⟩) ys.length 1)∧(∀ z,s'.Lim z↔s.Lim z∧Kf z=none):=by
 have hK:∀ z i,Kf z=some i→s.Lim z:=fun z i e=>(hK' z i e).1
 obtain ⟨s1,l1,g1,u1,k1,t1,lm1,kd1⟩:=h.pushLim vs
 have hne:∀ z i,Kf z=some i→z≠s.H.length:=fun z i e=>by have:=h.lml z (hK z i e);omega
 obtain ⟨s2,l2,g2,u2,k2,t2,lm2,_⟩:=t1.adoptR (.rows t ys none) ⟨s.H.length,0,1,ys.length⟩ ((lm1 _).2 (.inr rfl)) Kf (fun z i e=>⟨(lm1 z).2 (.inl (hK z i e)),hne z i e,by rw [g1,Q1d (h.lml z (hK z i e))];exact (hK' z i e).2⟩) (fun s' hk hm hH hkid=>by
  unfold BR;simp only [hm]
  have hg:hget s'.H s.H.length=some ⟨vs,false,none⟩:=by rw [hH,g1];exact Q0t _ _
  refine ⟨trivial,hf,trivial,trivial,_,hg,⟨by simp;omega,fun v hv=>hp v (List.mem_of_mem_drop hv)⟩,rfl,by rw [hk.lim,k1.lim];exact h.limH,fun i hi _=>?_⟩
  obtain ⟨v,q1,q2⟩:=hr i hi
  refine ⟨v,by simpa using q1,?_⟩
  rw [hk.lim,k1.lim]
  exact q2.mono hf (fun z hz=>⟨hkid z i hz,by rw [hH,g1];exact Q1d (h.lml z (hK z i hz))⟩))
 refine ⟨s2,by rw [l2,l1],g2.trans g1,k1.trans k2,t2,?_,fun z=>?_⟩
 ·rw [← l1]
  refine ⟨by rw [l2,Qc];omega,?_⟩
  rw [u2];simp
 ·rw [lm2,lm1]
  constructor
  ·rintro ⟨h1 | h1,h2,h3⟩
   ·exact ⟨h1,h3⟩
   ·exact absurd h1 h2
  ·rintro ⟨h1,h2⟩
   exact ⟨.inl h1,by have:=h.lml z h1;simp;omega,h2⟩
theorem ob {α β:Type} {x:Option α} {f:α→Option β} {y:β} (h:obind x f=some y):∃ a,x=some a∧f a=some y:=Q1 h
theorem Q3v {a b:Nat} (h:Nat.blt a b=true):a < b:=by unfold Nat.blt at h;exact Nat.le_of_ble_eq_true h
theorem Q90 {a b:Nat} (h:a < b):Nat.blt a b=true:=by unfold Nat.blt;exact Nat.ble_eq_true_of_le h
theorem Qf7 {s:S} {v:Value} {p:PV} (h:ofC1 v=some p):LR0 s p v∧leafOk v=true:=by
 unfold ofC1 at h
 split at h<;>simp at h<;>subst h<;>exact ⟨rfl,rfl⟩
theorem Q3m {s:S}:∀ {vs:List Value} {ps:List PV},ofCs vs=some ps→LRs s ps vs∧vs.all leafOk=true
 | [],_,h=>by simp [ofCs] at h;subst h;exact ⟨trivial,rfl⟩
 | v::r,_,h=>by
  simp only [ofCs] at h
  obtain ⟨p,h1,h⟩:=ob h
  obtain ⟨l,h2,h⟩:=ob h
  simp at h;subst h
  obtain ⟨a1,a2⟩:=Qf7 (s:=s) h1
  obtain ⟨b1,b2⟩:=Q3m (s:=s) h2
  exact ⟨⟨a1,b1⟩,by simp [a2,b2]⟩
theorem Qiv {s:S} {v:Value} {p:PV} (h:ofC v=some p):ER s p v∧noRef v=true:=by
 unfold ofC at h
 split at h
 ·rename_i cs
  obtain ⟨l,h1,h⟩:=ob h
  simp at h;subst h
  obtain ⟨a,b⟩:=Q3m (s:=s) h1
  exact ⟨⟨cs.toList,by simp,a⟩,by simp only [noRef];exact b⟩
 ·rename_i hn
  obtain ⟨a,b⟩:=Qf7 (s:=s) h
  refine ⟨ER.of0 a,?_⟩
  cases v<;>first | exact b | (simp [leafOk] at b) | exact absurd rfl (hn _)
theorem Qm {s:S} {env:PEnv} {e:Env} (he:EnvR s env e) {x:Operand} {p:PV} (h:pev env x=some p):∃ v,ev e x=some v∧ER s p v:=by
 cases x with
 | tmp t=>exact he.get h
 | const v =>
  obtain ⟨a,b⟩:=Qiv (s:=s) h
  exact ⟨v,by simp only [ev,b],a⟩
 | func f=>simp [pev] at h;subst h;exact ⟨_,rfl,[],[],rfl,trivial,trivial⟩
 | global g=>simp [pev] at h
theorem Q53 {s:S} {env:PEnv} {e:Env} (he:EnvR s env e):∀ {xs:List Operand} {ps:List PV},pevs env xs=some ps→∃ vs,evs e xs=some vs∧All2 (ER s) ps vs
 | [],_,h=>by simp [pevs] at h;subst h;exact ⟨[],rfl,trivial⟩
 | x::r,_,h=>by
  simp only [pevs] at h
  obtain ⟨p,h1,h⟩:=ob h
  obtain ⟨l,h2,h⟩:=ob h
  simp at h;subst h
  obtain ⟨v,e1,r1⟩:=Qm he h1
  obtain ⟨vs,e2,r2⟩:=Q53 he h2
  exact ⟨v::vs,by simp [evs,e1,e2,obind],r1,r2⟩
def PartR (s:S) (a:Nat×PV) (b:Nat×Value):Prop:=a.1=b.1∧ER s a.2 b.2
theorem Q39 {s:S} {env:PEnv} {e:Env} (he:EnvR s env e):∀ {xs:List (Nat×Operand)} {ps:List (Nat×PV)},pevParts env xs=some ps→∃ vs,evParts e xs=some vs∧All2 (PartR s) ps vs
 | [],_,h=>by simp [pevParts] at h;subst h;exact ⟨[],rfl,trivial⟩
 | (i,x)::r,_,h=>by
  simp only [pevParts] at h
  obtain ⟨p,h1,h⟩:=ob h
  obtain ⟨l,h2,h⟩:=ob h
  simp at h;subst h
  obtain ⟨v,e1,r1⟩:=Qm he h1
  obtain ⟨vs,e2,r2⟩:=Q39 he h2
  exact ⟨(i,v)::vs,by simp [evParts,e1,e2,obind],⟨rfl,r1⟩,r2⟩
theorem Rep.mono {N M:Nat→Prop} {H:Heap} (h:∀ z,N z→M z) (t:Ty) {x:t.T} {cs:List Value} (r:Rep N H t x cs):Rep M H t x cs :=
 Rep.frame (fun z hz _=>⟨h z hz,rfl⟩) t r
def Any:Nat→Prop:=fun _=>True
theorem Rep.any {N:Nat→Prop} {H:Heap} (t:Ty) {x:t.T} {cs:List Value} (r:Rep N H t x cs):Rep Any H t x cs:=r.mono (fun _ _=>trivial) t
def RowP (b:Nat) (p:PV):Prop:=(∃ off n,p=.osl b off n)∨∃ i ver t x,p=.rw b i ver t x
theorem Q7q {s:S} (hs:StR s) {b off:Nat} {n:Option Nat} {v:Value} (hr:LR0 s (.osl b off n) v) {ver:Nat} {rw':Bool} {u:Ty} {xs:List u.T} (hb:lget s.L b=some ⟨ver,rw',.arr u xs⟩) {t:Ty} {x:List t.T} (h:content s.L (.osl b off n) t=some x) {M:Nat→Prop} (h2:∀ m,PV.osl b off n=.osl b off n→s.μ b=some m→M m.z) (h3:∀ z,s.N z→M z):Rep M s.H (.sl t) x [v]:=by
 unfold content at h
 simp only [hb] at h
 obtain ⟨e,hx⟩:=Q04 h
 injection e with e;subst e
 simp at hx;subst hx
 obtain ⟨hlb,hr⟩:=hr
 have hB:=hs.blk b _ hb
 unfold BR at hB;simp only at hB
 cases hm:s.μ b with
 | none =>
  rw [hm] at hr hB;obtain ⟨rfl,h5,rfl⟩:=hr
  subst hB
  have:cut ([]:List u.T) 0 n=[]:=by cases n<;>simp [cut]
  rw [this];unfold Rep;exact .inl ⟨rfl,rfl⟩
 | some m =>
  rw [hm] at hr hB
  obtain ⟨g1,g2,k,g3,g4,g5,g6,g7⟩:=hB
  have g4:=g4.1
  obtain ⟨a1,a2⟩:=hr
  have hlen:(cut xs off n).length=n.getD (m.n - off):=by
   cases n with
   | none=>simp [cut,g2]
   | some l=>simp [cut] at a1 ⊢;omega
  have hle:off+(cut xs off n).length≤xs.length:=by rw [hlen];omega
  have hget:∀ i (hi:i < (cut xs off n).length),(cut xs off n)[i]=xs[off+i]'(by omega):=by
   intro i hi
   cases n with
   | none=>simp [cut]
   | some l=>simp [cut]
  unfold Rep
  refine .inr (.inr ⟨m.z,m.sh+off*u.size,k,?_,h2 m rfl hm,g3,?_,fun i hi=>?_⟩)
  ·rw [a2,hlen,g1]
  ·have:(off+(cut xs off n).length)*u.size≤xs.length*u.size:=Nat.mul_le_mul_right _ hle
   rw [Nat.add_mul] at this;omega
  ·rw [hget i hi]
   have:=g5 (off+i) (by omega)
   rw [Nat.add_mul,← Nat.add_assoc] at this
   exact Rep.mono h3 u this
theorem Q2n {s:S} (hs:StR s) {p:PV} {v:Value} (hr:LR0 s p v) {t:Ty} {x:List t.T} (h:content s.L p t=some x):Rep Any s.H (.sl t) x [v]∧∀ M:Nat→Prop,(∀ st u y,p=.ro st u y→∀ z,s.NN st z→M z)→(∀ b off n m,p=.osl b off n→s.μ b=some m→M m.z)→(∀ b z i,RowP b p→s.Kid z=some (b,i)→M z)→(∀ z,s.N z→M z)→Rep M s.H (.sl t) x [v]:=by
 suffices key:∀ M:Nat→Prop,(∀ st u y,p=.ro st u y→∀ z,s.NN st z→M z)→(∀ b off n m,p=.osl b off n→s.μ b=some m→M m.z)→(∀ b z i,RowP b p→s.Kid z=some (b,i)→M z)→(∀ z,s.N z→M z)→Rep M s.H (.sl t) x [v] from
  ⟨key Any (fun _ _ _ _ _ _=>trivial) (fun _ _ _ _ _ _=>trivial) (fun _ _ _ _ _=>trivial) (fun _ _=>trivial),key⟩
 intro M h1 h2 hK h3
 unfold content at h
 split at h
 ·simp at h;subst h;obtain rfl:=hr;unfold Rep;exact .inl ⟨rfl,rfl⟩
 ·rename_i st u y
  obtain ⟨e,hx⟩:=Q04 h
  injection e with e;subst e
  simp at hx;subst hx
  exact Rep.mono (h1 st u y rfl) (.sl u) hr
 ·rename_i b off n
  split at h
  ·rename_i ver rw u xs hb
   exact Q7q hs hr hb (by unfold content;simp only [hb];exact h) (fun m _ hm=>h2 b off n m rfl hm) h3
  ·rename_i ver u xs hb
   obtain ⟨e,hx⟩:=Q04 h
   injection e with e;subst e
   simp at hx;subst hx
   obtain ⟨hlb,hr⟩:=hr
   have hB:=hs.blk b _ hb
   unfold BR at hB;simp only at hB
   obtain ⟨_,r1,hB⟩:=hB
   cases hm:s.μ b with
   | none =>
    rw [hm] at hr hB;obtain ⟨rfl,h5,rfl⟩:=hr
    subst hB
    have:cut ([]:List (List u.T)) 0 n=[]:=by cases n<;>simp [cut]
    rw [this];unfold Rep;exact .inl ⟨rfl,rfl⟩
   | some m =>
    rw [hm] at hr hB
    obtain ⟨g1,g2,k,g3,g4,g5,g6,g7⟩:=hB
    have g4:=g4.1
    obtain ⟨a1,a2⟩:=hr
    have hlen:(cut xs off n).length=n.getD (m.n - off):=by
     cases n with
     | none=>simp [cut,g2]
     | some l=>simp [cut] at a1 ⊢;omega
    have hle:off+(cut xs off n).length≤xs.length:=by rw [hlen];omega
    have hget:∀ i (hi:i < (cut xs off n).length),(cut xs off n)[i]=xs[off+i]'(by omega):=by
     intro i hi
     cases n with
     | none=>simp [cut]
     | some l=>simp [cut]
    unfold Rep
    refine .inr (.inr ⟨m.z,m.sh+off,k,?_,h2 b off n m rfl hm,g3,?_,fun i hi=>?_⟩)
    ·rw [a2,hlen,g1,Nat.mul_one];rfl
    ·have:(cut xs off n).length*(Ty.sl u).size=(cut xs off n).length:=Nat.mul_one _
     show m.sh+off+(cut xs off n).length*(Ty.sl u).size≤_
     rw [this];omega
    ·rw [hget i hi]
     obtain ⟨w,q1,q2⟩:=g7 (off+i) (by omega) (by simp)
     have:(k.cells.drop (m.sh+off+i*(Ty.sl u).size)).take (Ty.sl u).size=[w]:=by
      rw [show (Ty.sl u).size=1 from rfl,Nat.mul_one,show m.sh+off+i=m.sh+(off+i) by omega]
      obtain ⟨hl,he⟩:=List.getElem?_eq_some_iff.1 q1
      rw [List.drop_eq_getElem_cons hl,List.take_succ_cons,List.take_zero,he]
     rw [this]
     exact q2.rep r1 (fun z hz=>hK b z _ (.inl ⟨off,n,rfl⟩) hz)
  ·simp at h
 ·rename_i b i ver u y
  split at h
  ·rename_i v' t' xs' h' hb
   split at h
   ·rename_i hv
    have hv:=Nat.eq_of_beq_eq_true hv
    obtain ⟨e,hx⟩:=Q04 h
    injection e with e;subst e
    simp at hx;subst hx
    obtain ⟨_,_,hr⟩:=hr
    obtain ⟨r1,r2,_⟩:=(hr _ hb).2 hv
    exact r2.rep r1 (fun z hz=>hK b z i (.inr ⟨i,ver,u,y,rfl⟩) hz)
   ·simp at h
  ·simp at h
 ·simp at h
theorem LRs.one {s:S} {p:PV} {vs:List Value} (h:LRs s [p] vs):∃ v,vs=[v]∧LR0 s p v:=by
 match vs,h with
 | [v],h=>exact ⟨v,rfl,h.1⟩
theorem Rep.pairMk {N:Nat→Prop} {H:Heap} {a b:Ty} {x:a.T} {y:b.T} {cs:List Value} (h1:Rep N H a x (cs.take a.size)) (h2:Rep N H b y (cs.drop a.size)):Rep N H (.pair a b) (x,y) cs:=by
 unfold Rep;exact ⟨h1,h2⟩
theorem Qf8 {s:S} (hs:StR s) {M:Nat→Prop} (hN:∀ z,s.N z→M z):∀ (t:Ty) {cs:List PV} {vs:List Value} {x:t.T} {L':LS},(∀ b off n m B,PV.osl b off n∈cs→lget s.L b=some B→s.μ b=some m→M m.z)→(∀ p∈cs,∀ b z i,RowP b p→s.Kid z=some (b,i)→M z)→LRs s cs vs→refl false t cs s.L=some (x,L')→L'=s.L∧Rep M s.H t x vs
 | .int k,cs,vs,x,L',hM,hK,hr,h=>by
  unfold refl at h;split at h
  ·split at h<;>simp at h
   obtain ⟨v,rfl,hv⟩:=hr.one
   obtain rfl:=hv
   obtain ⟨rfl,rfl⟩:=h
   rename_i e;subst e
   exact ⟨rfl,by unfold Rep;rfl⟩
  ·simp at h
 | .bool,cs,vs,x,L',hM,hK,hr,h=>by
  unfold refl at h;split at h
  ·simp at h
   obtain ⟨v,rfl,hv⟩:=hr.one
   obtain rfl:=hv
   obtain ⟨rfl,rfl⟩:=h
   exact ⟨rfl,by unfold Rep;rfl⟩
  ·simp at h
 | .str,cs,vs,x,L',hM,hK,hr,h=>by
  unfold refl at h;split at h
  ·simp at h
   obtain ⟨v,rfl,hv⟩:=hr.one
   obtain rfl:=hv
   obtain ⟨rfl,rfl⟩:=h
   exact ⟨rfl,by unfold Rep;rfl⟩
  ·simp at h
 | .sl t,cs,vs,x,L',hM,hK,hr,h=>by
  unfold refl at h;split at h
  ·obtain ⟨y,h1,h⟩:=ob h
   simp at h;obtain ⟨h2,h3⟩:=h
   obtain ⟨v,rfl,hv⟩:=hr.one
   subst h2
   exact ⟨h3.symm,(Q2n hs hv h1).2 M (fun st u y e z hz=>hN z hz.1) (fun b off n m e hm=>(by
    subst e
    unfold content at h1;simp only at h1
    cases hb:lget s.L b with
    | none=>simp [hb] at h1
    | some B=>exact hM b off n m B (by simp) hb hm)) (fun b z i e hz=>hK _ (by simp) b z i e hz) hN⟩
  ·simp at h
 | .pair a b,cs,vs,x,L',hM,hK,hr,h=>by
  unfold refl at h
  obtain ⟨r,h1,h⟩:=ob h
  obtain ⟨q,h2,h⟩:=ob h
  simp at h;obtain ⟨e1,e2⟩:=h
  obtain ⟨a1,a2⟩:=Qf8 hs hN a (fun b off n m B hm=>hM b off n m B (List.mem_of_mem_take hm)) (fun p hp=>hK p (List.mem_of_mem_take hp)) (All2.take a.size hr) (by rw [h1])
  rw [a1] at h2
  obtain ⟨b1,b2⟩:=Qf8 hs hN b (fun b off n m B hm=>hM b off n m B (List.mem_of_mem_drop hm)) (fun p hp=>hK p (List.mem_of_mem_drop hp)) (All2.drop a.size hr) (by rw [h2])
  subst e1 e2
  exact ⟨b1,Rep.pairMk a2 b2⟩
theorem Q3n {s:S} (hs:StR s) (t:Ty) {cs:List PV} {vs:List Value} {x:t.T} {L':LS} (hr:LRs s cs vs) (h:refl false t cs s.L=some (x,L')):L'=s.L∧Rep Any s.H t x vs :=
 Qf8 hs (fun _ _=>trivial) t (fun _ _ _ _ _ _ _ _=>trivial) (fun _ _ _ _ _ _ _=>trivial) hr h
theorem Qn7 {s:S} (hs:StR s) {b off:Nat} {n:Option Nat} {t:Ty} {x:List t.T} (h:content s.L (.osl b off n) t=some x):∀ B,lget s.L b=some B→okF B.body:=by
 intro B hb
 unfold content at h;simp only [hb] at h
 obtain ⟨v,r,bo⟩:=B
 cases bo with
 | mp es=>simp at h
 | cells cs=>simp at h
 | arr u xs=>trivial
 | rows u xs ho =>
  cases ho with
  | none=>trivial
  | some i=>simp at h
theorem Qgj {s:S} (hs:StR s) {p:PV} {v:Value} (hr:LR0 s p v) {t:Ty} {x:List t.T} (h:content s.L p t=some x) (M:Nat→Prop) (h1:∀ st u y,p=.ro st u y→∀ z,s.NN st z→M z) (h2:∀ b off n m,p=.osl b off n→s.μ b=some m→M m.z)
  (hK:∀ b t xs B z i,(∃ off n,p=.osl b off n)→lget s.L b=some B→B.body=.rows t xs none→s.Kid z=some (b,i)→M z) (hW:∀ b j ver t x,p≠.rw b j ver t x) (h3:∀ z,s.N z→M z):Rep M s.H (.sl t) x [v]:=by
 by_cases hq:∃ b off n B t' xs,p=.osl b off n∧lget s.L b=some B∧B.body=.rows t' xs none
 ·obtain ⟨b,off,n,B,t',xs,rfl,hb,hbo⟩:=hq
  refine (Q2n hs hr h).2 M h1 h2 (fun b' z i e hz=>?_) h3
  rcases e with ⟨off',n',e⟩ | ⟨j,ver,u,y,e⟩
  ·injection e with e1 e2 e3;subst e1
   exact hK _ t' xs B z i ⟨off,n,rfl⟩ hb hbo hz
  ·simp at e
 · -- no rows: their kids are not asked for
  have key:∀ b off n,p=.osl b off n→∀ B,lget s.L b=some B→∃ u xs,B.body=.arr u xs:=by
   rintro b off n rfl B hb
   unfold content at h;simp only [hb] at h
   obtain ⟨ve,r,bo⟩:=B
   cases bo with
   | mp es=>simp at h
   | cells cs=>simp at h
   | arr u xs=>exact ⟨u,xs,rfl⟩
   | rows u xs ho =>
    cases ho with
    | none=>exact absurd ⟨b,off,n,_,u,xs,rfl,hb,rfl⟩ hq
    | some i=>simp at h
  by_cases hp:∃ b off n,p=.osl b off n
  ·obtain ⟨b,off,n,rfl⟩:=hp
   cases hb:lget s.L b with
   | none=>unfold content at h;simp [hb] at h
   | some B =>
    obtain ⟨u,xs,hbo⟩:=key b off n rfl B hb
    have h':=h
    unfold content at h';simp only [hb] at h'
    obtain ⟨ve,r,bo⟩:=B
    simp only at hbo;subst hbo
    exact Q7q hs hr hb h (h2 b off n) h3
  ·refine (Q2n hs hr h).2 M h1 h2 (fun b z i e hz=>?_) h3
   rcases e with ⟨off,n,e⟩ | ⟨j,ver,u,y,e⟩
   ·exact absurd ⟨b,off,n,e⟩ hp
   ·exact absurd e (hW b j ver u y)
theorem Q2o:∀ (t:Ty) {s:S} {cs:List PV} {vs:List Value} {x:t.T} {L':LS},StR s→LRs s cs vs→refl true t cs s.L=some (x,L') →
  ∃ s',s'.L=L'∧s'.H=s.H∧s'.μ=s.μ∧Keep s s'∧StR s'∧Rep s'.N s'.H t x vs∧(∀ z,Own s' z→Own s z)∧s'.Lim=s.Lim
 | .int k,s,cs,vs,x,L',hs,hr,h=>by
  obtain ⟨rfl,r⟩:=Q3n (x:=x) (L':=L') hs (.int k) hr (by unfold refl at h ⊢;exact h)
  exact ⟨s,rfl,rfl,rfl,Keep.refl s,hs,Rep.flat (.int k) rfl r,fun _ h=>h,rfl⟩
 | .bool,s,cs,vs,x,L',hs,hr,h=>by
  obtain ⟨rfl,r⟩:=Q3n (x:=x) (L':=L') hs .bool hr (by unfold refl at h ⊢;exact h)
  exact ⟨s,rfl,rfl,rfl,Keep.refl s,hs,Rep.flat .bool rfl r,fun _ h=>h,rfl⟩
 | .str,s,cs,vs,x,L',hs,hr,h=>by
  obtain ⟨rfl,r⟩:=Q3n (x:=x) (L':=L') hs .str hr (by unfold refl at h ⊢;exact h)
  exact ⟨s,rfl,rfl,rfl,Keep.refl s,hs,Rep.flat .str rfl r,fun _ h=>h,rfl⟩
 | .sl t,s,cs,vs,x,L',hs,hr,h=>by
  unfold refl at h;split at h
  ·rename_i p
   obtain ⟨y,h1,h⟩:=ob h
   have hcf:canFz p=true:=by
    cases hq:canFz p with
    | true=>rfl
    | false=>simp [hq] at h
   simp [hcf] at h;obtain ⟨h2,h3⟩:=h
   obtain ⟨v,rfl,hv⟩:=hr.one
   subst h2
   by_cases hp:∃ b off n,p=.osl b off n
   ·obtain ⟨b,off,n,rfl⟩:=hp
    obtain ⟨s',e1,e2,e3,hk,hs',hN,ho,hl,hN2⟩:=hs.freezeB b (Qn7 hs h1)
    refine ⟨s',by rw [e1,← h3];rfl,e2,e3,hk,hs',?_,ho,hl⟩
    have hv':=hk.LR0 hv
    have hc:∃ B,lget s.L b=some B:=by
     unfold content at h1;simp only at h1
     cases hb:lget s.L b with
     | none=>simp [hb] at h1
     | some B=>exact ⟨B,rfl⟩
    obtain ⟨B,hb⟩:=hc
    rw [e2]
    refine Qgj hs hv h1 _ (fun st u z e=>by simp at e) (fun b' off' n' m e hm=>?_) (fun b' t' xs' B' z i e hb' hbo hz=>?_) (fun b' j' v' t' x' e=>by simp at e) (fun z hz=>⟨fun hoz=>hz.1 (ho z hoz),by rw [hk.ban];exact hz.2⟩)
    ·injection e with e _ _;subst e
     exact hN B m hb hm
    ·obtain ⟨off',n',e⟩:=e
     injection e with e _ _;subst e
     exact hN2 B' t' xs' hb' hbo z i hz
   ·refine ⟨s,?_,rfl,rfl,Keep.refl s,hs,?_,fun _ h=>h,rfl⟩
    ·rw [← h3];unfold freeze;split
     ·exact absurd ⟨_,_,_,rfl⟩ hp
     ·rfl
    ·exact (Q2n hs hv h1).2 _ (fun st u z e q hq=>hq.1) (fun b off n m e=>absurd ⟨b,off,n,e⟩ hp) (fun b z i e _=>by
      rcases e with ⟨off,n,e⟩ | ⟨j,ver,t',x',e⟩
      ·exact absurd ⟨b,off,n,e⟩ hp
      ·subst e;simp [canFz] at hcf) (fun z hz=>hz)
  ·simp at h
 | .pair a b,s,cs,vs,x,L',hs,hr,h=>by
  unfold refl at h
  obtain ⟨r,h1,h⟩:=ob h
  obtain ⟨q,h2,h⟩:=ob h
  simp at h;obtain ⟨e1,e2⟩:=h
  obtain ⟨s1,l1,g1,u1,k1,t1,r1,o1,m1⟩:=Q2o a (x:=r.1) (L':=r.2) hs (All2.take a.size hr) (by rw [h1])
  rw [← l1] at h2
  obtain ⟨s2,l2,g2,u2,k2,t2,r2,o2,m2⟩:=Q2o b (x:=q.1) (L':=q.2) t1 (All2.drop a.size (k1.LRs hr)) (by rw [h2])
  subst e1 e2
  exact ⟨s2,l2,g2.trans g1,u2.trans u1,k1.trans k2,t2,Rep.pairMk (k2.repN r1) r2,fun z hz=>o1 z (o2 z hz),m2.trans m1⟩
theorem S.NN_clk {s:S} {z:Nat} (h:s.N z):s.NN s.L.clk z:=⟨h,fun c h1 h2=>absurd h1 (by omega)⟩
theorem Q54 {s:S} (hs:StR s) (u:Ty):∀ {n:Nat} {cs:List PV} {vs:List Value} {xs:List u.T},LRs s cs vs→reflN u n cs s.L=some xs →
  xs.length=n∧n*u.size≤vs.length∧∀ i (h:i < xs.length),Rep Any s.H u xs[i] ((vs.drop (i*u.size)).take u.size)
 | 0,cs,vs,xs,hr,h=>by simp [reflN] at h;subst h;simp
 | n+1,cs,vs,xs,hr,h=>by
  simp only [reflN] at h
  obtain ⟨x,h1,h⟩:=ob h
  obtain ⟨r,h2,h⟩:=ob h
  simp at h;subst h
  obtain ⟨e1,r1⟩:=Q3n (x:=x.1) (L':=x.2) hs u (All2.take u.size hr) (by rw [h1])
  obtain ⟨a1,a2,a3⟩:=Q54 hs u (All2.drop u.size hr) h2
  have hl:=Rep.len _ r1
  simp only [List.length_take,List.length_drop] at hl a2
  refine ⟨by simp [a1],by rw [Nat.add_mul,Nat.one_mul];omega,fun i hi=>?_⟩
  cases i with
  | zero=>simpa using r1
  | succ i =>
   have:=a3 i (by simpa using hi)
   rw [List.drop_drop] at this
   simp only [List.getElem_cons_succ]
   rw [Nat.add_mul,Nat.one_mul,Nat.add_comm (i*u.size)];exact this
theorem Q0g {s:S} {st:Nat}:∀ (t:Ty) {x:t.T} {cs:List Value},Rep (s.NN st) s.H t x cs→LRs s (reify st t x) cs
 | .int k,x,cs,h=>by unfold Rep at h;subst h;exact ⟨rfl,trivial⟩
 | .bool,x,cs,h=>by unfold Rep at h;subst h;exact ⟨rfl,trivial⟩
 | .str,x,cs,h=>by unfold Rep at h;subst h;exact ⟨rfl,trivial⟩
 | .sl t,x,cs,h=>by
  have h':=h
  have hl:=Rep.len (.sl t) h
  match cs,hl with
  | [v],_=>exact ⟨h',trivial⟩
 | .os t,x,cs,h=>by unfold Rep at h;obtain ⟨v,rfl,hv⟩:=h;exact ⟨hv,trivial⟩
 | .pair a b,x,cs,h=>by
  unfold Rep at h
  unfold reify
  have:=All2.append (Q0g a h.1) (Q0g b h.2)
  rw [List.take_append_drop] at this;exact this
def IsVal (t:Ty) (cs:List Value) (v:Value):Prop:=match t with
 | .pair _ _=>v=.agg ⟨cs⟩
 | _=>cs=[v]
theorem Q55 {s:S} {st:Nat} {t:Ty} {x:t.T} {cs:List Value} {v:Value} (hv:IsVal t cs v) (h:Rep (s.NN st) s.H t x cs):AR s (wrapV t (reify st t x)) v:=by
 have hr:=Q0g t h
 cases t with
 | pair a b=>obtain rfl:=hv;exact ⟨cs,rfl,hr⟩
 | int k=>obtain rfl:=hv;exact AR.of hr.1
 | bool=>obtain rfl:=hv;exact AR.of hr.1
 | str=>obtain rfl:=hv;exact AR.of hr.1
 | sl t=>obtain rfl:=hv;exact AR.of hr.1
 | os t=>obtain rfl:=hv;exact AR.of hr.1
theorem Q83 {α:Type} (l:List α) (a b n:Nat):(((l.drop a)).drop b).take n=(l.drop (a+b)).take n:=by rw [List.drop_drop]
theorem Qe3 {N:Nat→Prop} {H:Heap}:∀ (t u:Ty) {o:Nat} {x:t.T} {y:u.T} {cs:List Value},sub t u o x=some y→Rep N H t x cs→Rep N H u y ((cs.drop o).take u.size)∧o+u.size≤t.size:=by
 intro t
 induction t with
 | pair a b iha ihb =>
  intro u o x y cs h r
  have hlen:=Rep.len _ r
  unfold sub at h
  split at h
  ·rename_i h1 h2
   have ho:=Nat.eq_of_beq_eq_true h1
   have hu:=Ty.beq_eq h2
   subst hu ho
   have:=Q9 h
   subst this
   simp only [List.drop_zero,Nat.zero_add]
   rw [List.take_of_length_le (by omega)]
   exact ⟨r,Nat.le_refl _⟩
  ·unfold Rep at r
   split at h
   ·rename_i h1
    have ho:o < a.size:=Q3v h1
    obtain ⟨g1,g2⟩:=iha u h r.1
    refine ⟨?_,by simp [Ty.size];omega⟩
    have:((cs.take a.size).drop o).take u.size=(cs.drop o).take u.size:=by
     rw [List.drop_take,List.take_take,Nat.min_eq_left (by omega)]
    rw [this] at g1;exact g1
   ·rename_i h1
    have ho:¬ o < a.size:=by intro hlt;rw [Q90 hlt] at h1;simp at h1
    obtain ⟨g1,g2⟩:=ihb u h r.2
    refine ⟨?_,by simp [Ty.size];omega⟩
    rw [Q83,show a.size+(o - a.size)=o by omega] at g1;exact g1
 | int k =>
  intro u o x y cs h r
  unfold sub at h;split at h
  ·rename_i h1
   have ho:=Nat.eq_of_beq_eq_true h1;subst ho
   have e:=Qf h;subst e
   have:=Q9 h;subst this
   have hlen:=Rep.len _ r
   simp only [List.drop_zero,Nat.zero_add]
   rw [List.take_of_length_le (by omega)];exact ⟨r,Nat.le_refl _⟩
  ·simp at h
 | bool =>
  intro u o x y cs h r
  unfold sub at h;split at h
  ·rename_i h1
   have ho:=Nat.eq_of_beq_eq_true h1;subst ho
   have e:=Qf h;subst e
   have:=Q9 h;subst this
   have hlen:=Rep.len _ r
   simp only [List.drop_zero,Nat.zero_add]
   rw [List.take_of_length_le (by omega)];exact ⟨r,Nat.le_refl _⟩
  ·simp at h
 | str =>
  intro u o x y cs h r
  unfold sub at h;split at h
  ·rename_i h1
   have ho:=Nat.eq_of_beq_eq_true h1;subst ho
   have e:=Qf h;subst e
   have:=Q9 h;subst this
   have hlen:=Rep.len _ r
   simp only [List.drop_zero,Nat.zero_add]
   rw [List.take_of_length_le (by omega)];exact ⟨r,Nat.le_refl _⟩
  ·simp at h
 | sl t _ =>
  intro u o x y cs h r
  unfold sub at h;split at h
  ·rename_i h1
   have ho:=Nat.eq_of_beq_eq_true h1;subst ho
   have e:=Qf h;subst e
   have:=Q9 h;subst this
   have hlen:=Rep.len _ r
   simp only [List.drop_zero,Nat.zero_add]
   rw [List.take_of_length_le (by omega)];exact ⟨r,Nat.le_refl _⟩
  ·simp at h
 | os t _ =>
  intro u o x y cs h r
  unfold sub at h;split at h
  ·rename_i h1
   have ho:=Nat.eq_of_beq_eq_true h1;subst ho
   have e:=Qf h;subst e
   have:=Q9 h;subst this
   have hlen:=Rep.len _ r
   simp only [List.drop_zero,Nat.zero_add]
   rw [List.take_of_length_le (by omega)];exact ⟨r,Nat.le_refl _⟩
  ·simp at h
def lay (cs:List Value) (o:Nat) (ds:List Value):List Value:=cs.take o++ds++cs.drop (o+ds.length)
theorem Qn8 {N:Nat→Prop} {H:Heap}:∀ (t u:Ty) {o:Nat} {x x':t.T} {y:u.T} {cs ds:List Value},upd t u o x y=some x'→Rep N H t x cs→Rep N H u y ds→Rep N H t x' (lay cs o ds)∧o+u.size≤t.size:=by
 intro t
 induction t with
 | pair a b iha ihb =>
  intro u o x x' y cs ds h r ry
  have hlen:=Rep.len _ r
  have hld:=Rep.len _ ry
  unfold upd at h
  split at h
  ·rename_i h1 h2
   have ho:=Nat.eq_of_beq_eq_true h1
   have hu:=Ty.beq_eq h2
   subst hu ho
   have:=Q9 h
   subst this
   have:lay cs 0 ds=ds:=by unfold lay;simp;omega
   rw [this]
   exact ⟨ry,by omega⟩
  ·have r0:=r
   unfold Rep at r
   have hla:=Rep.len _ r.1
   have hlb:=Rep.len _ r.2
   have hlt:cs.length=a.size+b.size:=by simpa [Ty.size] using hlen
   split at h
   ·rename_i h1
    have ho:o < a.size:=Q3v h1
    obtain ⟨z,g,h⟩:=ob h
    simp at h;subst h
    obtain ⟨g1,g2⟩:=iha u g r.1 ry
    have hl1:=Rep.len _ g1
    refine ⟨?_,by simp [Ty.size];omega⟩
    have e:lay cs o ds=lay (cs.take a.size) o ds++cs.drop a.size:=by
     unfold lay
     have e1:cs.take o=(cs.take a.size).take o:=by rw [List.take_take,Nat.min_eq_left (by omega)]
     have e2:cs.drop (o+ds.length)=(cs.take a.size).drop (o+ds.length)++cs.drop a.size:=by
      conv=>lhs;rw [← List.take_append_drop a.size cs]
      rw [List.drop_append_of_le_length (by simp;omega)]
     rw [e2,← e1];simp [List.append_assoc]
    rw [e]
    refine Rep.pairMk ?_ ?_
    ·rw [List.take_append_of_le_length (by omega),List.take_of_length_le (by omega)];exact g1
    ·rw [List.drop_append_of_le_length (by omega),List.drop_of_length_le (by omega)];simpa using r.2
   ·rename_i h1
    have ho:¬ o < a.size:=by intro hlt;rw [Q90 hlt] at h1;simp at h1
    obtain ⟨z,g,h⟩:=ob h
    simp at h;subst h
    obtain ⟨g1,g2⟩:=ihb u g r.2 ry
    have hl1:=Rep.len _ g1
    refine ⟨?_,by simp [Ty.size];omega⟩
    have e:lay cs o ds=cs.take a.size++lay (cs.drop a.size) (o - a.size) ds:=by
     unfold lay
     have e1:cs.take o=cs.take a.size++(cs.drop a.size).take (o - a.size):=by
      conv=>lhs;rw [← List.take_append_drop a.size cs]
      rw [List.take_append,List.length_take,Nat.min_eq_left (by omega),List.take_of_length_le (by simp;omega)]
     have e2:(cs.drop a.size).drop (o - a.size+ds.length)=cs.drop (o+ds.length):=by
      rw [List.drop_drop];congr 1;omega
     rw [e1,e2];simp [List.append_assoc]
    rw [e]
    have hta:(cs.take a.size).length=a.size:=by simp;omega
    refine Rep.pairMk ?_ ?_
    ·rw [List.take_append_of_le_length (by omega),List.take_of_length_le (by omega)];exact r.1
    ·rw [List.drop_append_of_le_length (by omega),List.drop_of_length_le (by omega)];simpa using g1
 | int k =>
  intro u o x x' y cs ds h r ry
  unfold upd at h;split at h
  ·rename_i h1
   have ho:=Nat.eq_of_beq_eq_true h1;subst ho
   have e:=Qf h;subst e
   have:=Q9 h;subst this
   have hlen:=Rep.len _ r;have hld:=Rep.len _ ry
   have:lay cs 0 ds=ds:=by unfold lay;simp;omega
   rw [this];exact ⟨ry,by omega⟩
  ·simp at h
 | bool =>
  intro u o x x' y cs ds h r ry
  unfold upd at h;split at h
  ·rename_i h1
   have ho:=Nat.eq_of_beq_eq_true h1;subst ho
   have e:=Qf h;subst e
   have:=Q9 h;subst this
   have hlen:=Rep.len _ r;have hld:=Rep.len _ ry
   have:lay cs 0 ds=ds:=by unfold lay;simp;omega
   rw [this];exact ⟨ry,by omega⟩
  ·simp at h
 | str =>
  intro u o x x' y cs ds h r ry
  unfold upd at h;split at h
  ·rename_i h1
   have ho:=Nat.eq_of_beq_eq_true h1;subst ho
   have e:=Qf h;subst e
   have:=Q9 h;subst this
   have hlen:=Rep.len _ r;have hld:=Rep.len _ ry
   have:lay cs 0 ds=ds:=by unfold lay;simp;omega
   rw [this];exact ⟨ry,by omega⟩
  ·simp at h
 | sl t _ =>
  intro u o x x' y cs ds h r ry
  unfold upd at h;split at h
  ·rename_i h1
   have ho:=Nat.eq_of_beq_eq_true h1;subst ho
   have e:=Qf h;subst e
   have:=Q9 h;subst this
   have hlen:=Rep.len _ r;have hld:=Rep.len _ ry
   have:lay cs 0 ds=ds:=by unfold lay;simp;omega
   rw [this];exact ⟨ry,by omega⟩
  ·simp at h
 | os t _ =>
  intro u o x x' y cs ds h r ry
  unfold upd at h;split at h
  ·rename_i h1
   have ho:=Nat.eq_of_beq_eq_true h1;subst ho
   have e:=Qf h;subst e
   have:=Q9 h;subst this
   have hlen:=Rep.len _ r;have hld:=Rep.len _ ry
   have:lay cs 0 ds=ds:=by unfold lay;simp;omega
   rw [this];exact ⟨ry,by omega⟩
  ·simp at h
section view
variable {β:Type}
theorem Q3a {s:S} {z:Value} {p:PV} {v:Value} (hr:AR s p v) (h:fitL z p=true) (K:Value→Option β):viewL z v K=K v:=by
 unfold fitL at h
 split at h<;>try contradiction
 all_goals simp only [AR] at hr
 ·obtain rfl:=hr;have:_=_:=of_decide_eq_true h;simp [viewL,vInt,this]
 ·obtain rfl:=hr;rfl
 ·obtain rfl:=hr;rfl
 ·obtain rfl:=hr;rfl
 ·have h':=hr
  simp only [LR0] at h';unfold Rep at h'
  rcases h' with ⟨_,e⟩ | ⟨_,_,_,e⟩ | ⟨_,_,_,e,_⟩<;>(simp at e;subst e;rfl)
 ·obtain ⟨_,r⟩:=hr
  split at r
  ·rw [r.2.2];rfl
  ·rw [r.2];rfl
 ·obtain ⟨_,r,_⟩:=hr
  rcases r with ⟨_,rfl⟩ | ⟨_,_,rfl⟩<;>rfl
 ·obtain rfl:=hr;rfl
 ·rename_i a _ _;obtain ⟨_,m,_,_,rfl⟩:=hr;cases a<;>rfl
 ·rename_i a _ _ _;obtain ⟨_,m,_,rfl⟩:=hr;cases a<;>rfl
 ·rename_i a _ _ _;obtain ⟨z,o,k,rfl,_⟩:=hr;cases a<;>rfl
 ·rename_i a _ _ _ _;obtain ⟨_,⟨_,_,rfl⟩,_⟩:=hr;cases a<;>rfl
 ·rename_i a _ _ _ _ _;obtain ⟨_,m,_,_,rfl⟩:=hr;cases a<;>rfl
 ·obtain ⟨a',b',rfl,_⟩:=hr;rfl
 ·obtain ⟨_,m,_,rfl⟩:=hr;rfl
theorem Q91 {s:S}:∀ {zs:List Value} {ps:List PV} {vs:List Value},LRs s ps vs→fitLs zs ps=true→∀ K:List Value→Option β,viewLs zs vs K=K vs
 | [],[],[],_,_,K=>rfl
 | z::zs,p::ps,v::vs,hr,h,K=>by
  simp only [fitLs,Bool.and_eq_true] at h
  simp only [viewLs,vCons]
  rw [Q3a (AR.of hr.1) h.1,Q91 hr.2 h.2]
 | [],_::_,_,_,h,_=>by simp [fitLs] at h
 | _::_,[],_,_,h,_=>by simp [fitLs] at h
theorem Q1f {s:S} {z:Value} {p:PV} {v:Value} (hr:AR s p v) (h:fitA z p=true) (K:Value→Option β):viewA z v K=K v:=by
 unfold fitA at h
 split at h
 ·obtain ⟨vs,rfl,r⟩:=hr
  simp only [viewA,vAgg]
  rw [Q91 r h]
 ·simp at h
 ·rename_i hn _
  have:viewA z v K=viewL z v K:=by unfold viewA;split<;>first | rfl | (rename_i cs;exact absurd rfl (hn _))
  rw [this];exact Q3a hr h K
theorem Q92 {s:S}:∀ {zs:List Value} {ps:List PV} {vs:List Value},All2 (AR s) ps vs→fitAs zs ps=true→∀ K:List Value→Option β,viewAs zs vs K=K vs
 | [],[],[],_,_,K=>rfl
 | z::zs,p::ps,v::vs,hr,h,K=>by
  simp only [fitAs,Bool.and_eq_true] at h
  simp only [viewAs,vCons]
  rw [Q1f hr.1 h.1,Q92 hr.2 h.2]
 | [],_::_,_,_,h,_=>by simp [fitAs] at h
 | _::_,[],_,_,h,_=>by simp [fitAs] at h
theorem Q93 {z:Value} {cs:List PV}:fitA z (.tup cs)=false:=by
 unfold fitA;split<;>first | rfl | contradiction | (unfold fitL;split<;>first | rfl | contradiction)
theorem Qiw {s:S} {z:Value} {p:PV} {v:Value} (hr:ER s p v) (h:fitT z p=true) (K:Value→Option β):viewT z v K=K v:=by
 unfold fitT at h
 split at h
 ·obtain ⟨vs,rfl,r⟩:=hr
  simp only [viewT,vTup]
  rw [Q92 r h]
 ·simp at h
 ·rename_i hn _
  have:viewT z v K=viewA z v K:=by unfold viewT;split<;>first | rfl | (rename_i cs;exact absurd rfl (hn _))
  rw [this]
  have hr':AR s p v:=by
   cases p with
   | tup cs=>rw [Q93] at h;simp at h
   | _=>exact hr
  exact Q1f hr' h K
end view
theorem Qix {s:S} {p:PV} {v v':Value} (hr:AR s p v) (h:sc1 p=some v'):v=v':=by
 unfold sc1 at h
 split at h<;>simp at h<;>subst h<;>exact hr
theorem Qiy {s:S}:∀ {ps:List PV} {vs vs':List Value},LRs s ps vs→scs ps=some vs'→vs=vs'
 | [],[],_,_,h=>by simp [scs] at h;exact h.symm
 | p::ps,v::vs,_,hr,h=>by
  simp only [scs] at h
  obtain ⟨x,h1,h⟩:=ob h
  obtain ⟨l,h2,h⟩:=ob h
  simp at h;subst h
  rw [Qix (AR.of hr.1) h1,Qiy hr.2 h2]
theorem Qiz {s:S} {p:PV} {v v':Value} (hr:ER s p v) (h:sc p=some v'):v=v':=by
 unfold sc at h
 split at h
 ·obtain ⟨l,h1,h⟩:=ob h
  simp at h;subst h
  obtain ⟨vs,rfl,r⟩:=hr
  rw [Qiy r h1]
 ·rename_i hn
  have hr':AR s p v:=by
   cases p with
   | tup cs=>simp [sc1] at h
   | _=>exact hr
  exact Qix hr' h
def Scal:Value→Prop
 | .int _ _=>True
 | .bool _=>True
 | .string _=>True
 | _=>False
theorem Qj0 {s:S} {v:Value} (h:Scal v):ER s (ofS v) v:=by
 cases v<;>first | exact absurd h id | rfl
theorem Qf9 {β:Type} (P:Program) (op:BinOp) (t:TypeId) (v u:Value) (K:Value→Option β):binA P op t v u K=obind (binA P op t v u some) K:=by
 unfold binA
 split
 ·split
  ·unfold shiftOp oif;split<;>rfl
  ·unfold shiftOp oif;split<;>rfl
  ·split
   ·unfold intOp;split<;>first | rfl | (unfold oif;split<;>rfl)
   ·rfl
 ·unfold strOp;split<;>first | rfl | (unfold oif;split<;>rfl)
 ·split
  ·unfold eqOp;split<;>rfl
  ·rfl
 ·split
  ·rename_i h;cases eqA P 20 t _ _ with
   | none=>rfl
   | some r=>simp only [obind];unfold eqOp;split<;>rfl
  ·rfl
 ·split
  ·unfold eqOp;split<;>rfl
  ·rfl
 ·split
  ·unfold eqOp;split<;>rfl
  ·rfl
 ·rfl
theorem Qj1 {P:Program} {op:BinOp} {t:TypeId} {v u r:Value} (h:binA P op t v u some=some r):Scal r:=by
 have e:∀ {op:BinOp} {b:Bool} {r:Value},eqOp op b some=some r→Scal r:=by
  intro op b r h;unfold eqOp at h;split at h<;>simp at h<;>subst h<;>trivial
 have o:∀ {b:Bool} {x:Option Value} {r:Value},oif b none x=some r→x=some r:=by
  intro b x r h;unfold oif at h;split at h<;>simp_all
 unfold binA at h
 split at h
 ·split at h
  ·have:=o h;simp at this;subst this;trivial
  ·have:=o h;simp at this;subst this;trivial
  ·split at h
   ·unfold intOp at h;split at h<;>first | (simp at h;subst h;trivial) | (have:=o h;simp at this;subst this;trivial) | simp at h
   ·simp at h
 ·unfold strOp at h
  split at h<;>first | (simp at h;subst h;trivial) | (unfold oif at h;split at h<;>simp at h;subst h;trivial) | simp at h
 ·split at h
  ·exact e h
  ·simp at h
 ·split at h
  ·obtain ⟨b,_,h⟩:=ob h;exact e h
  ·simp at h
 ·split at h
  ·exact e h
  ·simp at h
 ·split at h
  ·exact e h
  ·simp at h
 ·simp at h
theorem Qa3 {β:Type} (op:UnOp) (v:Value) (K:Value→Option β):unA op v K=obind (unA op v some) K:=by
 unfold unA;split<;>rfl
theorem Qkz {op:UnOp} {v r:Value} (h:unA op v some=some r):Scal r:=by
 unfold unA at h;split at h<;>simp at h<;>subst h<;>trivial
theorem Q6k {P:Program} {n:Nat} {t:TypeId} {w:Ty} (h:tyG P n t=some w):(∃ d a b,P.underlying t=some d∧((∃ fs,d=.struct fs)∨∃ k e,d=.array k e)∧w=.pair a b)∨(∃ d,P.underlying t=some d∧(∀ fs,d≠.struct fs)∧(∀ n e,d≠.array n e)∧∀ a b,w≠.pair a b):=by
 cases n with
 | zero=>simp [tyG] at h
 | succ n =>
  unfold tyG at h
  split at h
  ·rename_i hu;simp at h;subst h;exact .inr ⟨_,hu,by simp,by simp,by simp⟩
  ·rename_i hu;simp at h;subst h;exact .inr ⟨_,hu,by simp,by simp,by simp⟩
  ·rename_i hu;simp at h;subst h;exact .inr ⟨_,hu,by simp,by simp,by simp⟩
  ·rename_i hu
   replace h:=ob h;obtain ⟨u,_,h⟩:=h
   simp at h;subst h;exact .inr ⟨_,hu,by simp,by simp,by simp⟩
  ·rename_i fs hu
   split at h
   ·unfold tyFs at h
    replace h:=ob h;obtain ⟨a,_,h⟩:=h
    replace h:=ob h;obtain ⟨b,_,h⟩:=h
    simp at h;subst h;exact .inl ⟨_,a,b,hu,.inl ⟨_,rfl⟩,rfl⟩
   ·simp at h
  ·rename_i k e hu
   replace h:=ob h;obtain ⟨u,_,h⟩:=h
   split at h
   ·rename_i hk
    simp only [Bool.and_eq_true] at hk
    have hk2:=Nat.le_of_ble_eq_true hk.1
    simp at h;subst h
    match k,hk2 with
    | k+2,_=>exact .inl ⟨_,u,vecTy (k+1) u,hu,.inr ⟨_,_,rfl⟩,rfl⟩
   ·simp at h
  ·simp at h
end Go.Pv
