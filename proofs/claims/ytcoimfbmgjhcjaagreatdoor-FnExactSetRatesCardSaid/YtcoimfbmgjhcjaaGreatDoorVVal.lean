/-
  The steps of the store: a block comes, changes, is frozen, goes. And what stood behind it in 2 texts.
  Conditions: said at the theorems.
-/
import Derived.Test.YtcoimfbmgjhcjaaGreatDoorVRel
set_option linter.all false
namespace Go.Pv
open Go.Ev
theorem BR.keep {s s':S} (h:aj s s') {c:Nat} {C:VB} (hc:c < s.L.bl.length) (r:BR s c C) (hg:∀ m,s.μ c=some m->ah s'.H m.z=ah s.H m.z) (mw:∀ z i,s.br z=some (c,i)->s'.br z=some (c,i)/\ah s'.H z=ah s.H z):BR s' c C:=by
 unfold BR at r ⊢
 split at r
 .obtain ⟨h0,m,k,h1,h2,h3,h4,h5,h6⟩:=r
  exact ⟨h0,m,k,by rw [h.mu c hc];exact h1,h2,by rw [hg m h1];exact h3,h.cm h4,h5,by rw [h.ai];exact h6⟩
 .rw [h.mu c hc]
  split at r
  .exact r
  .rename_i m hm
   obtain ⟨h1,h2,k,h3,h4,h5,h6,h7⟩:=r
   refine ⟨h1,h2,k,by rw [hg m hm];exact h3,h4,fun i hi=>h.vh (h5 i hi),fun e=>⟨(h6 e).1,by rw [h.ai];exact (h6 e).2⟩,fun e=>h.N (Qt h3) (h7 e)⟩
 .obtain ⟨r0,r1,r⟩:=r
  refine ⟨r0,r1,?_⟩
  rw [h.mu c hc]
  split at r
  .exact r
  .rename_i m hm
   obtain ⟨h1,h2,k,h3,h4,h5,h6,h7⟩:=r
   refine ⟨h1,h2,k,by rw [hg m hm];exact h3,h4,h5,by rw [h.ai];exact h6,fun i hi hn=>?_⟩
   obtain ⟨v,g1,g2⟩:=h7 i hi hn
   exact ⟨v,g1,by rw [h.ai];exact g2.mono r1 (fun z hz=>mw z i hz)⟩
 .obtain ⟨h0,m,k,h1,h2,h3,h4,h5,h6⟩:=r
  exact ⟨h0,m,k,by rw [h.mu c hc];exact h1,h2,by rw [hg m h1];exact h3,h4,h5,by rw [h.ai];exact h6.1,h6.2⟩
theorem BR.lt {s:S} {b:Nat} {B:VB} {m:MB} (h:BR s b B) (hm:s.μ b=some m):m.z < s.H.length:=by
 unfold BR at h
 split at h
 .obtain ⟨_,m',k,h1,_,h3,_⟩:=h
  rw [hm] at h1;injection h1 with h1;subst h1;exact Qt h3
 .rw [hm] at h
  obtain ⟨_,_,k,h3,_⟩:=h;exact Qt h3
 .rw [hm] at h
  obtain ⟨_,_,_,_,k,h3,_⟩:=h;exact Qt h3
 .obtain ⟨_,m',k,h1,_,h3,_⟩:=h
  rw [hm] at h1;injection h1 with h1;subst h1;exact Qt h3
theorem aD.Ar {s:S} (h:aD s) {z:Nat} (ho:bJ s z):z < s.H.length:=by
 rcases ho with ⟨b,B,m,h1,h2,h3,rfl⟩ | hl | ⟨p,hp⟩
 .exact (h.aI b B h1).lt h3
 .exact h.iE z hl
 .exact (h.kl z p hp).1
theorem aD.eA {s:S} (h:aD s) {b c:Nat} {B C:VB} {m m':MB} (hb:Qi s.L b=some B) (hr:B.rw=true) (hm:s.μ b=some m) (hc:Qi s.L c=some C) (aE:s.μ c=some m') (aV:b≠c):m.z≠m'.z :=
 fun e=>aV (h.inj b c B C m m' hb hc hr hm aE e)
def sM (H:af) (k:bx):af:=H++[some k]
theorem Nz (H:af) (k:bx):(sM H k).length=H.length+1:=by simp [sM]
theorem JP {H:af} {k:bx} {z:Nat} (h:z < H.length):ah (sM H k) z=ah H z:=by
 unfold ah sM;rw [List.getElem?_append_left h]
theorem Qrj (H:af) (k:bx):ah (sM H k) H.length=some k:=by
 unfold ah sM;simp
theorem aD.EH {s:S} (h:aD s) (B:Body) (kb:bx) (m:MB) (hz:m.z=s.H.length)
  (hB:∀ s',aj s s'->s'.μ s.L.bl.length=some m->ah s'.H s.H.length=some kb->(∀ z,s.N z->z < s.H.length->s'.N z)->BR s' s.L.bl.length ⟨0,true,B⟩) :
  ∃ s',s'.L=Qv s.L B/\s'.H=sM s.H kb/\s'.μ s.L.bl.length=some m/\aj s s'/\aD s':=by
 let s':S:={ s with μ:=S.CU s.μ s.L.bl.length (some m),L:=Qv s.L B,H:=sM s.H kb }
 have aY:∀ z,bJ s' z->bJ s z\/z=s.H.length:=by
  rintro z (⟨b,C,m',h1,h2,h3,rfl⟩ | hl)
  rotate_left
  .exact .inl (.inr hl)
  rcases Nat.lt_trichotomy b s.L.bl.length with hb | hb | hb
  .refine .inl (.inl ⟨b,C,m',?_,h2,?_,rfl⟩)
   .rw [<- Qz hb (B:=B)];exact h1
   .exact (S.cB (Nat.ne_of_lt hb)).symm.trans h3
  .subst hb
   have e3:some m=some m':=by rw [<- h3];exact (S.aW _ _ _).symm
   injection e3 with e3;subst e3;exact .inr hz
  .rw [show s'.L=Qv s.L B from rfl,vn hb] at h1;simp at h1
 have hk:aj s s':=by
  refine ⟨rfl,CK.same rfl rfl,rfl,?_,fun b hb=>S.cB (Nat.ne_of_lt hb),?_,fun z aX _=>JP aX,fun z ho=>?_,fun b B' hb iu=>⟨B',?_,Zd _,fun _=>⟨rfl,fun m' aE=>?_,?_⟩⟩⟩
  .rw [show s'.L=Qv s.L B from rfl,Qk];omega
  .rw [show s'.H=sM s.H kb from rfl,Nz];omega
  .rcases aY z ho with h1 | h1
   .exact .inl h1
   .exact .inr (by omega)
  .rw [<- Qz hb (B:=B)];exact iu
  .have GK:Qi s.L b=some B':=by rw [<- Qz hb (B:=B)];exact iu
   exact JP ((h.aI b B' GK).lt aE)
  .exact fun z i hz=>⟨hz,JP (h.kl z _ hz).1⟩
 refine ⟨s',rfl,rfl,S.aW _ _ _,hk,⟨fun b C hC=>?_,fun b c C D m1 m2 h1 h2 h3 h4 h5 e=>?_,fun z aX=>⟨?_,fun ho=>?_⟩,?_,fun b C m' h1 h2 hl=>?_,fun z hl=>?_,fun z p hp=>?_,fun z p hp=>by rw [show s'.H=sM s.H kb from rfl,JP (h.kl z p hp).1];exact h.ka z p hp⟩⟩
 rotate_right
 .obtain ⟨k1,k2,k3,k4⟩:=h.kl z p hp
  refine ⟨by rw [show s'.H=sM s.H kb from rfl,Nz];omega,by rw [show s'.L=Qv s.L B from rfl,Qk];omega,k3,fun b C m' g1 g2=>?_⟩
  rcases Nat.lt_trichotomy b s.L.bl.length with hb | hb | hb
  .exact k4 b C m' (by rw [<- Qz hb (B:=B)];exact g1) ((S.cB (Nat.ne_of_lt hb)).symm.trans g2)
  .subst hb
   have e3:some m=some m':=by rw [<- g2];exact (S.aW _ _ _).symm
   injection e3 with e3;subst e3;omega
  .rw [show s'.L=Qv s.L B from rfl,vn hb] at g1;simp at g1
 .rcases Nat.lt_trichotomy b s.L.bl.length with hb | hb | hb
  .have qM:Qi s.L b=some C:=by rw [<- Qz hb (B:=B)];exact hC
   exact (h.aI b C qM).keep hk hb (fun m' aE=>JP ((h.aI b C qM).lt aE)) (fun z i hz=>⟨hz,JP (h.kl z _ hz).1⟩)
  .subst hb
   have:some (⟨0,true,B⟩:VB)=some C:=by rw [<- hC];exact (CT _ _).symm
   injection this with this;subst this
   exact hB s' hk (S.aW _ _ _) (Qrj _ _) (fun z hn hl=>hk.N hl hn)
  .rw [show s'.L=Qv s.L B from rfl,vn hb] at hC;simp at hC
 .have cls:∀ q Q mq,Qi s'.L q=some Q->s'.μ q=some mq->(q < s.L.bl.length/\Qi s.L q=some Q/\s.μ q=some mq/\mq.z < s.H.length)\/(q=s.L.bl.length/\mq.z=s.H.length):=by
   intro q Q mq g1 g2
   rcases Nat.lt_trichotomy q s.L.bl.length with hq | hq | hq
   .have a1:Qi s.L q=some Q:=by rw [<- Qz hq (B:=B)];exact g1
    have a2:s.μ q=some mq:=(S.cB (Nat.ne_of_lt hq)).symm.trans g2
    exact .inl ⟨hq,a1,a2,(h.aI q Q a1).lt a2⟩
   .subst hq
    have e3:some m=some mq:=by rw [<- g2];exact (S.aW _ _ _).symm
    injection e3 with e3;subst e3;exact .inr ⟨rfl,hz⟩
   .rw [show s'.L=Qv s.L B from rfl,vn hq] at g1;simp at g1
  rcases cls b C m1 h1 h4 with ⟨a1,a2,a3,a4⟩ | ⟨a1,a2⟩<;>rcases cls c D m2 h2 h5 with ⟨b1,b2,b3,b4⟩ | ⟨b1,b2⟩
  .exact h.inj b c C D m1 m2 a2 b2 h3 a3 b3 e
  .omega
  .omega
  .omega
 .have:=(h.cZ z aX).1
  rw [show s'.H=sM s.H kb from rfl,Nz];omega
 .rcases aY z ho with h1 | h1
  .exact (h.cZ z aX).2 h1
  .have:=(h.cZ z aX).1;omega
 .rw [show s'.H=sM s.H kb from rfl,Nz];have:=h.dR;show s.ai<=_;omega
 .rcases Nat.lt_trichotomy b s.L.bl.length with hb | hb | hb
  .exact h.lm b C m' (by rw [<- Qz hb (B:=B)];exact h1) ((S.cB (Nat.ne_of_lt hb)).symm.trans h2) hl
  .subst hb
   have e3:some m=some m':=by rw [<- h2];exact (S.aW _ _ _).symm
   injection e3 with e3;subst e3
   have:=h.iE _ hl;omega
  .rw [show s'.L=Qv s.L B from rfl,vn hb] at h1;simp at h1
 .rw [show s'.H=sM s.H kb from rfl,Nz];have:=h.iE z hl;omega
theorem aD.push {s:S} (h:aD s) (B:Body) (vs:List Value) (m:MB) (hz:m.z=s.H.length)
  (hB:∀ s',aj s s'->s'.μ s.L.bl.length=some m->ah s'.H s.H.length=some ⟨vs,false,none⟩->(∀ z,s.N z->z < s.H.length->s'.N z)->BR s' s.L.bl.length ⟨0,true,B⟩) :
  ∃ s',s'.L=Qv s.L B/\s'.H=de s.H vs/\s'.μ s.L.bl.length=some m/\aj s s'/\aD s':=h.EH B ⟨vs,false,none⟩ m hz hB
theorem aD.nU {s:S} (h:aD s) (t:Ty) :
  ∃ s',s'.L=Qv s.L (.arr t [])/\s'.H=s.H/\s'.μ s.L.bl.length=none/\aj s s'/\aD s'/\s'.aF=s.aF/\∀ z,s.N z->s'.N z:=by
 let s':S:={ s with μ:=S.CU s.μ s.L.bl.length none,L:=Qv s.L (.arr t []) }
 have cls:∀ q Q mq,Qi s'.L q=some Q->s'.μ q=some mq->q < s.L.bl.length/\Qi s.L q=some Q/\s.μ q=some mq:=by
  intro q Q mq g1 g2
  rcases Nat.lt_trichotomy q s.L.bl.length with hq | hq | hq
  .exact ⟨hq,by rw [<- Qz hq (B:=.arr t [])];exact g1,(S.cB (Nat.ne_of_lt hq)).symm.trans g2⟩
  .subst hq
   have e3:none=some mq:=by rw [<- g2];exact (S.aW _ _ _).symm
   simp at e3
  .rw [show s'.L=Qv s.L (.arr t []) from rfl,vn hq] at g1;simp at g1
 have aY:∀ z,bJ s' z->bJ s z:=by
  rintro z (⟨b,C,m',h1,h2,h3,rfl⟩ | hl)
  .obtain ⟨_,a,b'⟩:=cls b C m' h1 h3
   exact .inl ⟨b,C,m',a,h2,b',rfl⟩
  .exact .inr hl
 have hk:aj s s':=by
  refine ⟨rfl,CK.same rfl rfl,rfl,?_,fun b hb=>S.cB (Nat.ne_of_lt hb),Zd _,fun z aX _=>rfl,fun z ho=>.inl (aY z ho),fun b B' hb iu=>⟨B',?_,Zd _,fun _=>⟨rfl,fun m' aE=>rfl,fun z i hz=>⟨hz,rfl⟩⟩⟩⟩
  .rw [show s'.L=Qv s.L (.arr t []) from rfl,Qk];omega
  .rw [<- Qz hb (B:=.arr t [])];exact iu
 refine ⟨s',rfl,rfl,S.aW _ _ _,hk,⟨fun b C hC=>?_,fun b c C D m1 m2 h1 h2 h3 h4 h5 e=>?_,fun z aX=>⟨(h.cZ z aX).1,fun ho=>(h.cZ z aX).2 (aY z ho)⟩,h.dR,fun b C m' h1 h2=>h.lm b C m' (cls b C m' h1 h2).2.1 (cls b C m' h1 h2).2.2,h.iE,fun z p hp=>⟨(h.kl z p hp).1,by rw [show s'.L=Qv s.L (.arr t []) from rfl,Qk];have:=(h.kl z p hp).2.1;omega,(h.kl z p hp).2.2.1,fun b C m' g1 g2=>(h.kl z p hp).2.2.2 b C m' (cls b C m' g1 g2).2.1 (cls b C m' g1 g2).2.2⟩,h.ka⟩,rfl,fun z hz=>⟨fun ho=>hz.1 (aY z ho),hz.2⟩⟩
 .rcases Nat.lt_trichotomy b s.L.bl.length with hb | hb | hb
  .have qM:Qi s.L b=some C:=by rw [<- Qz hb (B:=.arr t [])];exact hC
   exact (h.aI b C qM).keep hk hb (fun m' aE=>rfl) (fun z i hz=>⟨hz,rfl⟩)
  .subst hb
   have:some (⟨0,true,.arr t []⟩:VB)=some C:=by rw [<- hC];exact (CT _ _).symm
   injection this with this;subst this
   unfold BR;simp only
   rw [show s'.μ s.L.bl.length=none from S.aW _ _ _];trivial
  .rw [show s'.L=Qv s.L (.arr t []) from rfl,vn hb] at hC;simp at hC
 .obtain ⟨_,a1,a2⟩:=cls b C m1 h1 h4
  obtain ⟨_,b1,b2⟩:=cls c D m2 h2 h5
  exact h.inj b c C D m1 m2 a1 b1 h3 a2 b2 e
theorem aD.MY {s:S} (h:aD s) {b:Nat} {B:VB} {m:MB} (hb:Qi s.L b=some B) (hr:B.rw=true) (hm:s.μ b=some m) (B':VB) (dD:B'.rw=true) (hv:B'.aA=B.aA+1) (k':bx)
  (hB:∀ s',aj s s'->s'.μ b=some m->ah s'.H m.z=some k'->(∀ z,s.N z->z < s.H.length->s'.N z)->BR s' b B') :
  ∃ s',s'.L=cQ s.L b B'/\s'.H=s.H.set m.z (some k')/\s'.μ=s.μ/\aj s s'/\aD s'/\s'.aF=s.aF:=by
 let s':S:={ s with L:=cQ s.L b B',H:=s.H.set m.z (some k') }
 have bF:=Qn hb
 have hz:=(h.aI b B hb).lt hm
 have cls:∀ q Q,Qi s'.L q=some Q->(q=b/\Q=B')\/(q≠b/\Qi s.L q=some Q):=by
  intro q Q g
  by_cases e:b=q
  .subst e;left;have:some B'=some Q:=by rw [<- g];exact (Qr bF).symm
   injection this with this;exact ⟨rfl,this.symm⟩
  .right;exact ⟨fun x=>e x.symm,by rw [<- vZ e (B:=B')];exact g⟩
 have aY:∀ z,bJ s' z->bJ s z:=by
  rintro z (⟨q,Q,m',h1,h2,h3,rfl⟩ | hl)
  .rcases cls q Q h1 with ⟨rfl,rfl⟩ | ⟨_,g⟩
   .exact .inl ⟨q,B,m',hb,hr,h3,rfl⟩
   .exact .inl ⟨q,Q,m',g,h2,h3,rfl⟩
  .exact .inr hl
 have NA:bJ s m.z:=.inl ⟨b,B,m,hb,hr,hm,rfl⟩
 have jS:∀ q Q m',Qi s'.L q=some Q->s'.μ q=some m'->¬ s'.aF m'.z:=by
  intro q Q m' h1 h2
  rcases cls q Q h1 with ⟨rfl,rfl⟩ | ⟨_,g⟩
  .exact h.lm q B m' hb h2
  .exact h.lm q Q m' g h2
 have hk:aj s s':=by
  refine ⟨rfl,CK.same rfl rfl,rfl,by simp [s',oE],fun b hb=>rfl,by simp [s'],fun z aX hn=>?_,fun z ho=>.inl (aY z ho),fun q Q hq hQ=>?_⟩
  .exact Qh (fun e=>hn (e▸NA))
  .rcases cls q Q hQ with ⟨rfl,rfl⟩ | ⟨aV,g⟩
   .exact ⟨B,hb,by omega,fun e=>absurd e (by omega)⟩
   .exact ⟨Q,g,Zd _,fun _=>⟨rfl,fun m' aE=>Qh (h.eA hb hr hm g aE (fun e=>aV e.symm)),fun z i hz=>⟨hz,Qh ((h.kl z _ hz).2.2.2 b B m hb hm)⟩⟩⟩
 refine ⟨s',rfl,rfl,rfl,hk,⟨fun q Q hQ=>?_,fun q c Q D m1 m2 h1 h2 h3 h4 h5 e=>?_,fun z aX=>⟨by simp [s'];exact (h.cZ z aX).1,fun ho=>(h.cZ z aX).2 (aY z ho)⟩,by simp [s'];exact h.dR,jS,fun z hl=>by simp [s'];exact h.iE z hl,fun z p hp=>?_,fun z p hp=>by rw [show s'.H=s.H.set m.z (some k') from rfl,Qh ((h.kl z p hp).2.2.2 b B m hb hm)];exact h.ka z p hp⟩,rfl⟩
 rotate_right
 .obtain ⟨k1,k2,k3,k4⟩:=h.kl z p hp
  refine ⟨by simp [s'];exact k1,by rw [show s'.L=cQ s.L b B' from rfl,oE];exact k2,k3,fun q Q m' g1 g2=>?_⟩
  rcases cls q Q g1 with ⟨rfl,rfl⟩ | ⟨_,g⟩
  .exact k4 q B m' hb g2
  .exact k4 q Q m' g g2
 .rcases cls q Q hQ with ⟨rfl,rfl⟩ | ⟨aV,g⟩
  .exact hB s' hk hm (Q71 hz) (fun z hn hl=>hk.N hl hn)
  .exact (h.aI q Q g).keep hk (Qn g) (fun m' aE=>Qh (h.eA hb hr hm g aE (fun e=>aV e.symm))) (fun z i hz=>⟨hz,Qh ((h.kl z _ hz).2.2.2 b B m hb hm)⟩)
 .rcases cls q Q h1 with ⟨rfl,rfl⟩ | ⟨_,g⟩<;>rcases cls c D h2 with ⟨rfl,rfl⟩ | ⟨_,g'⟩
  .rfl
  .exact h.inj q c B D m1 m2 hb g' hr h4 h5 e
  .exact h.inj q c Q B m1 m2 g hb h3 h4 h5 e
  .exact h.inj q c Q D m1 m2 g g' h3 h4 h5 e
theorem aD.set {s:S} (h:aD s) {b:Nat} {B:VB} {m:MB} (hb:Qi s.L b=some B) (hr:B.rw=true) (hm:s.μ b=some m) (B':VB) (dD:B'.rw=true) (hv:B'.aA=B.aA+1) (k':bx)
  (hB:∀ s',aj s s'->s'.μ b=some m->ah s'.H m.z=some k'->(∀ z,s.N z->z < s.H.length->s'.N z)->BR s' b B') :
  ∃ s',s'.L=cQ s.L b B'/\s'.H=s.H.set m.z (some k')/\s'.μ=s.μ/\aj s s'/\aD s':=by
 obtain ⟨s',a1,a2,a3,a4,a5,_⟩:=h.MY hb hr hm B' dD hv k' hB
 exact ⟨s',a1,a2,a3,a4,a5⟩
theorem aD.WA {s:S} (h:aD s) {b:Nat} {B:VB} (hb:Qi s.L b=some B) (hr:B.rw=true) (hm:s.μ b=none) (B':VB) (dD:B'.rw=true) (hv:B'.aA=B.aA+1)
  (hB:∀ s',s'.μ b=none->BR s' b B') :
  ∃ s',s'.L=cQ s.L b B'/\s'.H=s.H/\s'.μ=s.μ/\aj s s'/\aD s':=by
 let s':S:={ s with L:=cQ s.L b B' }
 have bF:=Qn hb
 have cls:∀ q Q,Qi s'.L q=some Q->(q=b/\Q=B')\/(q≠b/\Qi s.L q=some Q):=by
  intro q Q g
  by_cases e:b=q
  .subst e;left;have:some B'=some Q:=by rw [<- g];exact (Qr bF).symm
   injection this with this;exact ⟨rfl,this.symm⟩
  .right;exact ⟨fun x=>e x.symm,by rw [<- vZ e (B:=B')];exact g⟩
 have aY:∀ z,bJ s' z->bJ s z:=by
  rintro z (⟨q,Q,m',h1,h2,h3,rfl⟩ | hl)
  .rcases cls q Q h1 with ⟨rfl,rfl⟩ | ⟨_,g⟩
   .exact .inl ⟨q,B,m',hb,hr,h3,rfl⟩
   .exact .inl ⟨q,Q,m',g,h2,h3,rfl⟩
  .exact .inr hl
 have hk:aj s s':=by
  refine ⟨rfl,CK.same rfl rfl,rfl,by simp [s',oE],fun b hb=>rfl,Zd _,fun z aX hn=>rfl,fun z ho=>.inl (aY z ho),fun q Q hq hQ=>?_⟩
  rcases cls q Q hQ with ⟨rfl,rfl⟩ | ⟨aV,g⟩
  .exact ⟨B,hb,by omega,fun e=>absurd e (by omega)⟩
  .exact ⟨Q,g,Zd _,fun _=>⟨rfl,fun m' aE=>rfl,fun z i hz=>⟨hz,rfl⟩⟩⟩
 refine ⟨s',rfl,rfl,rfl,hk,⟨fun q Q hQ=>?_,fun q c Q D m1 m2 h1 h2 h3 h4 h5 e=>?_,fun z aX=>⟨(h.cZ z aX).1,fun ho=>(h.cZ z aX).2 (aY z ho)⟩,h.dR,fun q Q m' h1 h2=>?_,h.iE,fun z p hp=>?_,h.ka⟩⟩
 rotate_right
 .obtain ⟨k1,k2,k3,k4⟩:=h.kl z p hp
  refine ⟨k1,by rw [show s'.L=cQ s.L b B' from rfl,oE];exact k2,k3,fun q Q m' g1 g2=>?_⟩
  rcases cls q Q g1 with ⟨rfl,rfl⟩ | ⟨_,g⟩
  .exact k4 q B m' hb g2
  .exact k4 q Q m' g g2
 rotate_left 2
 .rcases cls q Q h1 with ⟨rfl,rfl⟩ | ⟨_,g⟩
  .exact h.lm q B m' hb h2
  .exact h.lm q Q m' g h2
 .rcases cls q Q hQ with ⟨rfl,rfl⟩ | ⟨aV,g⟩
  .exact hB s' hm
  .exact (h.aI q Q g).keep hk (Qn g) (fun m' aE=>rfl) (fun z i hz=>⟨hz,rfl⟩)
 .rcases cls q Q h1 with ⟨rfl,rfl⟩ | ⟨_,g⟩<;>rcases cls c D h2 with ⟨rfl,rfl⟩ | ⟨_,g'⟩
  .rfl
  .exact h.inj q c B D m1 m2 hb g' hr h4 h5 e
  .exact h.inj q c Q B m1 m2 g hb h3 h4 h5 e
  .exact h.inj q c Q D m1 m2 g g' h3 h4 h5 e
theorem aD.kill {s:S} (h:aD s) {b:Nat} {B:VB} (hb:Qi s.L b=some B) (hr:B.rw=true) (gone:Bool) :
  ∃ s',s'.L=mA s.L b/\s'.H=(match gone,s.μ b with | true,some m=>s.H.set m.z none | _,_=>s.H)/\s'.μ=s.μ/\aj s s'/\aD s'/\(∀ z,s'.aF z↔s.aF z\/∃ m,s.μ b=some m/\m.z=z)/\∀ z,bJ s' z↔bJ s z:=by
 let H':af:=match gone,s.μ b with | true,some m=>s.H.set m.z none | _,_=>s.H
 let s':S:={ s with L:=mA s.L b,H:=H',aF:=fun z=>s.aF z\/∃ m,s.μ b=some m/\m.z=z }
 have hlen:H'.length=s.H.length:=by simp only [H'];split<;>simp
 have hH:∀ z,(∀ m,s.μ b=some m->m.z≠z)->ah H' z=ah s.H z:=by
  intro z hz
  simp only [H']
  split
  .rename_i m hm;exact Qh (hz m hm)
  .rfl
 have aY:∀ z,bJ s' z↔bJ s z:=by
  intro z
  constructor
  .rintro (⟨q,Q,m',h1,h2,h3,rfl⟩ | (hl | ⟨m,hm,rfl⟩) | hp)
   .exact .inl ⟨q,Q,m',(Qs h1).2,h2,h3,rfl⟩
   .exact .inr (.inl hl)
   .exact .inl ⟨b,B,m,hb,hr,hm,rfl⟩
   .exact .inr (.inr hp)
  .rintro (⟨q,Q,m',h1,h2,h3,rfl⟩ | hl | hp)
   .by_cases e:b=q
    .subst e;exact .inr (.inl (.inr ⟨m',h3,rfl⟩))
    .exact .inl ⟨q,Q,m',by rw [show s'.L=mA s.L b from rfl,XK e];exact h1,h2,h3,rfl⟩
   .exact .inr (.inl (.inl hl))
   .exact .inr (.inr hp)
 have hk:aj s s':=by
  refine ⟨rfl,CK.same rfl rfl,rfl,by simp [s',Ew],fun b hb=>rfl,by rw [show s'.H=H' from rfl,hlen];exact Zd _,fun z aX hn=>?_,fun z ho=>.inl ((aY z).1 ho),fun q Q hq hQ=>?_⟩
  .exact hH z (fun m hm e=>hn (e▸.inl ⟨b,B,m,hb,hr,hm,rfl⟩))
  .obtain ⟨aV,g⟩:=Qs hQ
   exact ⟨Q,g,Zd _,fun _=>⟨rfl,fun m' aE=>hH _ (fun m hm=>h.eA hb hr hm g aE aV),fun z i hz=>⟨hz,hH _ (fun m hm=>(h.kl z _ hz).2.2.2 b B m hb hm)⟩⟩⟩
 refine ⟨s',rfl,rfl,rfl,hk,⟨fun q Q hQ=>?_,fun q c Q D m1 m2 h1 h2 h3 h4 h5 e=>?_,fun z aX=>⟨by rw [show s'.H=H' from rfl,hlen];exact (h.cZ z aX).1,fun ho=>(h.cZ z aX).2 ((aY z).1 ho)⟩,by rw [show s'.H=H' from rfl,hlen];exact h.dR,fun q Q m' h1 h2=>?_,fun z hl=>?_,fun z p hp=>?_,fun z p hp=>by rw [show s'.H=H' from rfl,hH _ (fun m hm=>(h.kl z p hp).2.2.2 b B m hb hm)];exact h.ka z p hp⟩,fun z=>Iff.rfl,aY⟩
 rotate_right
 .obtain ⟨k1,k2,k3,k4⟩:=h.kl z p hp
  refine ⟨by rw [show s'.H=H' from rfl,hlen];exact k1,by rw [show s'.L=mA s.L b from rfl,Ew];exact k2,?_,fun q Q m' g1 g2=>k4 q Q m' (Qs g1).2 g2⟩
  rintro (hl | ⟨m,hm,e⟩)
  .exact k3 hl
  .exact k4 b B m hb hm e
 .obtain ⟨aV,g⟩:=Qs hQ
  exact (h.aI q Q g).keep hk (Qn g) (fun m' aE=>hH _ (fun m hm=>h.eA hb hr hm g aE aV)) (fun z i hz=>⟨hz,hH _ (fun m hm=>(h.kl z _ hz).2.2.2 b B m hb hm)⟩)
 .exact h.inj q c Q D m1 m2 (Qs h1).2 (Qs h2).2 h3 h4 h5 e
 .obtain ⟨aV,g⟩:=Qs h1
  rintro (hl | ⟨m,hm,e⟩)
  .exact h.lm q Q m' g h2 hl
  .exact h.eA hb hr hm g h2 aV e
 .rw [show s'.H=H' from rfl,hlen]
  rcases hl with hl | ⟨m,hm,rfl⟩
  .exact h.iE z hl
  .exact (h.aI b B hb).lt hm
theorem aD.zS {s:S} (h:aD s) (B:Body) (m:MB) (hz:s.aF m.z)
  (hB:∀ s',aj s s'->s'.μ s.L.bl.length=some m->s'.H=s.H->(∀ z,s'.N z↔s.N z)->BR s' s.L.bl.length ⟨0,true,B⟩) :
  ∃ s',s'.L=Qv s.L B/\s'.H=s.H/\s'.μ s.L.bl.length=some m/\aj s s'/\aD s'/\(∀ z,s'.aF z↔s.aF z/\z≠m.z)/\∀ z,bJ s' z↔bJ s z:=by
 let s':S:={ s with μ:=S.CU s.μ s.L.bl.length (some m),L:=Qv s.L B,aF:=fun z=>s.aF z/\z≠m.z }
 have cls:∀ q Q mq,Qi s'.L q=some Q->s'.μ q=some mq->(q < s.L.bl.length/\Qi s.L q=some Q/\s.μ q=some mq/\mq.z≠m.z)\/(q=s.L.bl.length/\mq=m/\Q=⟨0,true,B⟩):=by
  intro q Q mq g1 g2
  rcases Nat.lt_trichotomy q s.L.bl.length with hq | hq | hq
  .have a1:Qi s.L q=some Q:=by rw [<- Qz hq (B:=B)];exact g1
   have a2:s.μ q=some mq:=(S.cB (Nat.ne_of_lt hq)).symm.trans g2
   exact .inl ⟨hq,a1,a2,fun e=>h.lm q Q mq a1 a2 (e▸hz)⟩
  .subst hq
   have e3:some m=some mq:=by rw [<- g2];exact (S.aW _ _ _).symm
   have e4:some (⟨0,true,B⟩:VB)=some Q:=by rw [<- g1];exact (CT _ _).symm
   injection e3 with e3;injection e4 with e4;exact .inr ⟨rfl,e3.symm,e4.symm⟩
  .rw [show s'.L=Qv s.L B from rfl,vn hq] at g1;simp at g1
 have aY:∀ z,bJ s' z↔bJ s z:=by
  intro z
  constructor
  .rintro (⟨q,Q,m',h1,h2,h3,rfl⟩ | hl | hp)
   .rcases cls q Q m' h1 h3 with ⟨_,a,b,_⟩ | ⟨_,rfl,_⟩
    .exact .inl ⟨q,Q,m',a,h2,b,rfl⟩
    .exact .inr (.inl hz)
   .exact .inr (.inl hl.1)
   .exact .inr (.inr hp)
  .rintro (⟨q,Q,m',h1,h2,h3,rfl⟩ | hl | hp)
   .have hq:=Qn h1
    exact .inl ⟨q,Q,m',by rw [show s'.L=Qv s.L B from rfl,Qz hq];exact h1,h2,(S.cB (Nat.ne_of_lt hq)).trans h3,rfl⟩
   .by_cases e:z=m.z
    .exact .inl ⟨s.L.bl.length,_,m,CT _ _,rfl,S.aW _ _ _,e.symm⟩
    .exact .inr (.inl ⟨hl,e⟩)
   .exact .inr (.inr hp)
 have hk:aj s s':=by
  refine ⟨rfl,CK.same rfl rfl,rfl,?_,fun b hb=>S.cB (Nat.ne_of_lt hb),Zd _,fun z aX _=>rfl,fun z ho=>.inl ((aY z).1 ho),fun b B' hb iu=>⟨B',?_,Zd _,fun _=>⟨rfl,fun m' aE=>rfl,fun z i hz=>⟨hz,rfl⟩⟩⟩⟩
  .rw [show s'.L=Qv s.L B from rfl,Qk];omega
  .rw [<- Qz hb (B:=B)];exact iu
 refine ⟨s',rfl,rfl,S.aW _ _ _,hk,⟨fun b C hC=>?_,fun b c C D m1 m2 h1 h2 h3 h4 h5 e=>?_,fun z aX=>⟨(h.cZ z aX).1,fun ho=>(h.cZ z aX).2 ((aY z).1 ho)⟩,h.dR,fun b C m' h1 h2 hl=>?_,fun z hl=>h.iE z hl.1,fun z p hp=>?_,h.ka⟩,fun z=>Iff.rfl,aY⟩
 rotate_right
 .obtain ⟨k1,k2,k3,k4⟩:=h.kl z p hp
  refine ⟨k1,by rw [show s'.L=Qv s.L B from rfl,Qk];omega,fun hl=>k3 hl.1,fun q Q m' g1 g2=>?_⟩
  rcases cls q Q m' g1 g2 with ⟨_,a,b,_⟩ | ⟨_,rfl,_⟩
  .exact k4 q Q m' a b
  .exact fun e=>k3 (e▸hz)
 .rcases Nat.lt_trichotomy b s.L.bl.length with hb | hb | hb
  .have qM:Qi s.L b=some C:=by rw [<- Qz hb (B:=B)];exact hC
   exact (h.aI b C qM).keep hk hb (fun m' aE=>rfl) (fun z i hz=>⟨hz,rfl⟩)
  .subst hb
   have:some (⟨0,true,B⟩:VB)=some C:=by rw [<- hC];exact (CT _ _).symm
   injection this with this;subst this
   exact hB s' hk (S.aW _ _ _) rfl (fun z=>⟨fun hn=>⟨fun ho=>hn.1 ((aY z).2 ho),hn.2⟩,fun hn=>⟨fun ho=>hn.1 ((aY z).1 ho),hn.2⟩⟩)
  .rw [show s'.L=Qv s.L B from rfl,vn hb] at hC;simp at hC
 .rcases cls b C m1 h1 h4 with ⟨a1,a2,a3,a4⟩ | ⟨a1,rfl,_⟩<;>rcases cls c D m2 h2 h5 with ⟨b1,b2,b3,b4⟩ | ⟨b1,rfl,_⟩
  .exact h.inj b c C D m1 m2 a2 b2 h3 a3 b3 e
  .exact absurd e a4
  .exact absurd e.symm b4
  .omega
 .rcases cls b C m' h1 h2 with ⟨_,a,b',_⟩ | ⟨_,rfl,_⟩
  .exact h.lm b C m' a b' hl.1
  .exact hl.2 rfl
def EO (s:S) (b:Nat):Nat->Option (Nat×Nat):=fun z=>match s.br z with
 | some p=>if p.1=b then none else some p
 | none=>none
theorem Ic {s:S} {b z:Nat} {p:Nat×Nat} (h:EO s b z=some p):s.br z=some p/\p.1≠b:=by
 unfold EO at h
 split at h
 .rename_i q hq
  split at h
  .simp at h
  .rename_i aV
   injection h with h;subst h;exact ⟨hq,aV⟩
 .simp at h
theorem NB {s:S} {b z:Nat} {p:Nat×Nat} (h:s.br z=some p) (hp:p.1≠b):EO s b z=some p:=by
 unfold EO;rw [h];simp [hp]
theorem aD.frz {s:S} (h:aD s) {b v:Nat} {B0:Body} (hb:Qi s.L b=some ⟨v,true,B0⟩) (ty:Ty) (xs:List ty.T)
  (hB:∀ s',aj s s'->s'.H=s.H->s'.μ=s.μ->(∀ m,s.μ b=some m->s'.N m.z)->(∀ z i,s.br z=some (b,i)->s'.N z)->BR s' b ⟨v+1,false,.arr ty xs⟩) :
  ∃ s',s'.L=cQ s.L b ⟨v+1,false,.arr ty xs⟩/\s'.H=s.H/\s'.μ=s.μ/\aj s s'/\aD s'/\(∀ m,s.μ b=some m->s'.N m.z)/\(∀ z i,s.br z=some (b,i)->s'.N z)/\(∀ z,bJ s' z->bJ s z)/\s'.aF=s.aF:=by
 have bF:=Qn hb
 let B1:VB:=⟨v+1,false,.arr ty xs⟩
 let s':S:={ s with L:=cQ s.L b B1,br:=EO s b }
 have cls:∀ q Q,Qi s'.L q=some Q->(q=b/\Q=B1)\/(q≠b/\Qi s.L q=some Q):=by
  intro q Q g
  by_cases e:b=q
  .subst e;left;have:some B1=some Q:=by rw [<- g];exact (Qr bF).symm
   injection this with this;exact ⟨rfl,this.symm⟩
  .right;exact ⟨fun x=>e x.symm,by rw [<- vZ e (B:=B1)];exact g⟩
 have Az:∀ z,bJ s' z->(∃ q Q m',q≠b/\Qi s.L q=some Q/\Q.rw=true/\s.μ q=some m'/\m'.z=z)\/s.aF z\/∃ p,s.br z=some p/\p.1≠b:=by
  rintro z (⟨q,Q,m',h1,h2,h3,rfl⟩ | hl | ⟨p,hp⟩)
  .rcases cls q Q h1 with ⟨rfl,rfl⟩ | ⟨aV,g⟩
   .simp [B1] at h2
   .exact .inl ⟨q,Q,m',aV,g,h2,h3,rfl⟩
  .exact .inr (.inl hl)
  .exact .inr (.inr ⟨p,Ic hp⟩)
 have aY:∀ z,bJ s' z->bJ s z:=by
  intro z hz
  rcases Az z hz with ⟨q,Q,m',_,g,h2,h3,e⟩ | hl | ⟨p,hp,_⟩
  .exact .inl ⟨q,Q,m',g,h2,h3,e⟩
  .exact .inr (.inl hl)
  .exact .inr (.inr ⟨p,hp⟩)
 have hk:aj s s':=by
  refine ⟨rfl,CK.same rfl rfl,rfl,by simp [s',oE],fun b hb=>rfl,Zd _,fun z aX hn=>rfl,fun z ho=>.inl (aY z ho),fun q Q hq hQ=>?_⟩
  rcases cls q Q hQ with ⟨rfl,rfl⟩ | ⟨aV,g⟩
  .exact ⟨_,hb,by simp [B1],fun e=>absurd e (by simp [B1])⟩
  .exact ⟨Q,g,Zd _,fun _=>⟨rfl,fun m' aE=>rfl,fun z i hz=>⟨NB hz aV,rfl⟩⟩⟩
 have hN:∀ m,s.μ b=some m->s'.N m.z:=by
  intro m hm
  refine ⟨fun ho=>?_,fun jV=>?_⟩
  .rcases Az _ ho with ⟨q,Q,m',aV,g,h2,h3,e⟩ | hl | ⟨p,hp,_⟩
   .exact aV (h.inj q b Q _ m' m g hb h2 h3 hm e)
   .exact h.lm b _ m hb hm hl
   .exact (h.kl _ _ hp).2.2.2 b _ m hb hm rfl
  .exact (h.cZ _ jV).2 (.inl ⟨b,_,m,hb,rfl,hm,rfl⟩)
 have JQ:∀ z i,s.br z=some (b,i)->s'.N z:=by
  intro z i hz
  obtain ⟨k1,k2,k3,k4⟩:=h.kl z _ hz
  refine ⟨fun ho=>?_,fun jV=>(h.cZ _ jV).2 (.inr (.inr ⟨_,hz⟩))⟩
  rcases Az _ ho with ⟨q,Q,m',aV,g,h2,h3,e⟩ | hl | ⟨p,hp,aV⟩
  .exact k4 q Q m' g h3 e
  .exact k3 hl
  .rw [hz] at hp;injection hp with hp;subst hp;exact aV rfl
 refine ⟨s',rfl,rfl,rfl,hk,⟨fun q Q hQ=>?_,fun q c Q D m1 m2 h1 h2 h3 h4 h5 e=>?_,fun z aX=>⟨(h.cZ z aX).1,fun ho=>(h.cZ z aX).2 (aY z ho)⟩,h.dR,fun q Q m' h1 h2=>(by
  rcases cls q Q h1 with ⟨rfl,rfl⟩ | ⟨_,g⟩
  .exact h.lm q _ m' hb h2
  .exact h.lm q Q m' g h2),h.iE,fun z p hp=>?_,fun z p hp=>h.ka z p (Ic hp).1⟩,hN,JQ,aY,rfl⟩
 rotate_right
 .obtain ⟨k1,k2,k3,k4⟩:=h.kl z p (Ic hp).1
  refine ⟨k1,by rw [show s'.L=cQ s.L b B1 from rfl,oE];exact k2,k3,fun q Q m' g1 g2=>?_⟩
  rcases cls q Q g1 with ⟨rfl,rfl⟩ | ⟨_,g⟩
  .exact k4 q _ m' hb g2
  .exact k4 q Q m' g g2
 .rcases cls q Q hQ with ⟨rfl,rfl⟩ | ⟨aV,g⟩
  .exact hB s' hk rfl rfl hN JQ
  .exact (h.aI q Q g).keep hk (Qn g) (fun m' aE=>rfl) (fun z i hz=>⟨NB hz aV,rfl⟩)
 .rcases cls q Q h1 with ⟨rfl,rfl⟩ | ⟨_,g⟩
  .simp [B1] at h3
  .rcases cls c D h2 with ⟨rfl,rfl⟩ | ⟨_,g'⟩
   .exact h.inj q c Q _ m1 m2 g hb h3 h4 h5 e
   .exact h.inj q c Q D m1 m2 g g' h3 h4 h5 e
def okF:Body->Prop
 | .cells _=>False
 | .rows _ _ (some _)=>False
 | .mp _=>False
 | _=>True
theorem ir.rep {K M:Nat->Prop} {H:af} {ai:Nat} {t:Ty} {x:List t.T} {v:Value} (h:ir K H ai t x v) (hf:t.flat=true) (hk:∀ z,K z->M z):ax M H (.sl t) x [v]:=by
 unfold ax
 rcases h with ⟨rfl,rfl⟩ | ⟨z,o,k,rfl,h2,h3,h4,h5,h6,h7⟩
 .exact .inl ⟨rfl,rfl⟩
 .exact .inr (.inr ⟨z,o,k,rfl,hk z h2,h3,h6.1,fun i hi=>ax.flat t hf (h7 i hi)⟩)
theorem aD.cM {s:S} (h:aD s) (b:Nat) (hc:∀ B,Qi s.L b=some B->okF B.body) :
  ∃ s',s'.L=cM s.L b/\s'.H=s.H/\s'.μ=s.μ/\aj s s'/\aD s'/\(∀ B m,Qi s.L b=some B->s.μ b=some m->s'.N m.z)/\(∀ z,bJ s' z->bJ s z)/\s'.aF=s.aF/\(∀ B t xs,Qi s.L b=some B->B.body=.rows t xs none->∀ z i,s.br z=some (b,i)->s'.N z):=by
 rcases hb:Qi s.L b with _ | ⟨v,rw,B⟩
 .exact ⟨s,by simp [Pv.cM,hb],rfl,rfl,aj.refl s,h,fun B m e=>by simp at e,fun z hz=>hz,rfl,fun B t xs e=>by simp at e⟩
 have hB:=h.aI b _ hb
 have c_:=hc _ hb
 cases B with
 | cells cs=>exact absurd c_ id
 | mp es=>exact absurd c_ id
 | arr ty xs =>
  cases rw with
  | false =>
   refine ⟨s,by simp [Pv.cM,hb],rfl,rfl,aj.refl s,h,fun B' m e hm=>?_,fun z hz=>hz,rfl,fun B t xs e e2=>by cases e;cases e2⟩
   injection e with e;subst e
   unfold BR at hB
   simp only at hB
   rw [hm] at hB
   obtain ⟨_,_,k,_,_,_,_,h7⟩:=hB
   exact h7 trivial
  | true =>
   obtain ⟨s',a1,a2,a3,a4,a5,a6,a7,a8,a9⟩:=h.frz hb ty xs (fun s' hk e1 e2 hN _=>by
    unfold BR at hB ⊢
    simp only at hB ⊢
    rw [e2]
    cases e:s.μ b with
    | none=>rw [e] at hB;exact hB
    | some m =>
     rw [e] at hB
     obtain ⟨g1,g2,k,g3,g4,g5,g6,g7⟩:=hB
     exact ⟨g1,g2,k,by rw [e1];exact g3,g4,fun i hi=>hk.vh (g5 i hi),fun x=>absurd x (by decide),fun _=>hN m e⟩)
   exact ⟨s',by simp [Pv.cM,hb,a1],a2,a3,a4,a5,fun B m e hm=>a6 m hm,a8,a9,fun B t xs e e2=>by cases e;cases e2⟩
 | rows t xs ho =>
  cases ho with
  | some i=>exact absurd c_ id
  | none =>
  unfold BR at hB
  simp only at hB
  obtain ⟨r0,r1,r⟩:=hB
  cases rw with
  | false=>simp at r0
  | true =>
   obtain ⟨s',a1,a2,a3,a4,a5,a6,a7,a8,a9⟩:=h.frz hb (.sl t) xs (fun s' hk e1 e2 hN JQ=>by
    unfold BR
    simp only
    rw [e2]
    cases e:s.μ b with
    | none=>rw [e] at r;exact r
    | some m =>
     rw [e] at r
     obtain ⟨g1,g2,k,g3,g4,g5,g6,g7⟩:=r
     refine ⟨g1,g2,k,by rw [e1];exact g3,by rw [show (Ty.sl t).size=1 from rfl,Nat.mul_one];exact g4,fun i hi=>?_,fun x=>absurd x (by decide),fun _=>hN m e⟩
     obtain ⟨v,q1,q2⟩:=g7 i hi (by simp)
     rw [show (Ty.sl t).size=1 from rfl,Nat.mul_one]
     have:(k.cells.drop (m.sh+i)).take 1=[v]:=by
      obtain ⟨hl,he⟩:=Z0 q1
      rw [List.drop_eq_getElem_cons hl,List.take_succ_cons,List.take_zero,he]
     rw [this,e1]
     exact q2.rep r1 (fun z hz=>JQ z i hz))
   exact ⟨s',by simp [Pv.cM,hb,a1],a2,a3,a4,a5,fun B m e hm=>a6 m hm,a8,a9,fun _ _ _ _ _=>a7⟩
theorem aD.vk {s:S} (h:aD s) (b:Nat):∃ s',s'.L=Pv.cM s.L b/\s'.H=s.H/\s'.μ=s.μ/\aj s s'/\aD s'/\(∀ z,bJ s' z->bJ s z)/\s'.aF=s.aF:=by
 by_cases hc:∀ B,Qi s.L b=some B->okF B.body
 .obtain ⟨s',a1,a2,a3,a4,a5,_,a7,a8,_⟩:=h.cM b hc
  exact ⟨s',a1,a2,a3,a4,a5,a7,a8⟩
 .refine ⟨s,?_,rfl,rfl,aj.refl s,h,fun _ h=>h,rfl⟩
  simp only [Classical.not_forall] at hc
  obtain ⟨B,hb,cC⟩:=hc
  obtain ⟨v,r,bo⟩:=B
  unfold Pv.cM;rw [hb]
  cases bo with
  | cells cs=>cases r<;>rfl
  | mp es=>cases r<;>rfl
  | arr t xs=>exact absurd trivial cC
  | rows t xs ho =>
   cases ho with
   | none=>exact absurd trivial cC
   | some i=>cases r<;>rfl
theorem aD.dP {s:S} (h:aD s) {z b i:Nat} (hz:s.br z=some (b,i)) {c:Nat} {C:VB} {m:MB} (hc:Qi s.L c=some C) (hm:s.μ c=some m):m.z≠z:=(h.kl z _ hz).2.2.2 c C m hc hm
theorem aD.Ex {s:S} (h:aD s) {b:Nat} {B:VB} (hb:Qi s.L b=some B) (hr:B.rw=true) (gone:Bool) :
  ∃ s',s'.L=mA s.L b/\s'.H=(match gone,s.μ b with | true,some m=>s.H.set m.z none | _,_=>s.H)/\s'.μ=s.μ/\aj s s'/\aD s' /\
   (∀ z,s'.aF z↔s.aF z\/(∃ m,s.μ b=some m/\m.z=z)\/∃ i,s.br z=some (b,i))/\(∀ z,bJ s' z↔bJ s z)/\(∀ z,(∀ i,s.br z≠some (b,i))->s'.br z=s.br z):=by
 let H':af:=match gone,s.μ b with | true,some m=>s.H.set m.z none | _,_=>s.H
 let s':S:={ s with L:=mA s.L b,H:=H',aF:=fun z=>s.aF z\/(∃ m,s.μ b=some m/\m.z=z)\/∃ i,s.br z=some (b,i),br:=EO s b }
 have hlen:H'.length=s.H.length:=by simp only [H'];split<;>simp
 have hH:∀ z,(∀ m,s.μ b=some m->m.z≠z)->ah H' z=ah s.H z:=by
  intro z hz
  simp only [H']
  split
  .rename_i m hm;exact Qh (hz m hm)
  .rfl
 have aY:∀ z,bJ s' z↔bJ s z:=by
  intro z
  constructor
  .rintro (⟨q,Q,m',h1,h2,h3,rfl⟩ | (hl | ⟨m,hm,rfl⟩ | ⟨i,hi⟩) | ⟨p,hp⟩)
   .exact .inl ⟨q,Q,m',(Qs h1).2,h2,h3,rfl⟩
   .exact .inr (.inl hl)
   .exact .inl ⟨b,B,m,hb,hr,hm,rfl⟩
   .exact .inr (.inr ⟨_,hi⟩)
   .exact .inr (.inr ⟨p,(Ic hp).1⟩)
  .rintro (⟨q,Q,m',h1,h2,h3,rfl⟩ | hl | ⟨⟨c,i⟩,hp⟩)
   .by_cases e:b=q
    .subst e;exact .inr (.inl (.inr (.inl ⟨m',h3,rfl⟩)))
    .exact .inl ⟨q,Q,m',by rw [show s'.L=mA s.L b from rfl,XK e];exact h1,h2,h3,rfl⟩
   .exact .inr (.inl (.inl hl))
   .by_cases e:c=b
    .subst e;exact .inr (.inl (.inr (.inr ⟨i,hp⟩)))
    .exact .inr (.inr ⟨_,NB hp e⟩)
 have hk:aj s s':=by
  refine ⟨rfl,CK.same rfl rfl,rfl,by simp [s',Ew],fun b hb=>rfl,by rw [show s'.H=H' from rfl,hlen];exact Zd _,fun z aX hn=>?_,fun z ho=>.inl ((aY z).1 ho),fun q Q hq hQ=>?_⟩
  .exact hH z (fun m hm e=>hn (e▸.inl ⟨b,B,m,hb,hr,hm,rfl⟩))
  .obtain ⟨aV,g⟩:=Qs hQ
   exact ⟨Q,g,Zd _,fun _=>⟨rfl,fun m' aE=>hH _ (fun m hm=>h.eA hb hr hm g aE aV),fun z i hz=>⟨NB hz (fun e=>aV e.symm),hH _ (fun m hm=>h.dP hz hb hm)⟩⟩⟩
 refine ⟨s',rfl,rfl,rfl,hk,⟨fun q Q hQ=>?_,fun q c Q D m1 m2 h1 h2 h3 h4 h5 e=>?_,fun z aX=>⟨by rw [show s'.H=H' from rfl,hlen];exact (h.cZ z aX).1,fun ho=>(h.cZ z aX).2 ((aY z).1 ho)⟩,by rw [show s'.H=H' from rfl,hlen];exact h.dR,fun q Q m' h1 h2=>?_,fun z hl=>?_,fun z p hp=>?_,fun z p hp=>by rw [show s'.H=H' from rfl,hH _ (fun m hm=>(h.kl z p (Ic hp).1).2.2.2 b B m hb hm)];exact h.ka z p (Ic hp).1⟩,fun z=>Iff.rfl,aY,fun z hz=>?_⟩
 .obtain ⟨aV,g⟩:=Qs hQ
  exact (h.aI q Q g).keep hk (Qn g) (fun m' aE=>hH _ (fun m hm=>h.eA hb hr hm g aE aV)) (fun z i hz=>⟨NB hz (fun e=>aV e.symm),hH _ (fun m hm=>h.dP hz hb hm)⟩)
 .exact h.inj q c Q D m1 m2 (Qs h1).2 (Qs h2).2 h3 h4 h5 e
 .obtain ⟨aV,g⟩:=Qs h1
  rintro (hl | ⟨m,hm,e⟩ | ⟨i,hi⟩)
  .exact h.lm q Q m' g h2 hl
  .exact h.eA hb hr hm g h2 aV e
  .exact h.dP hi g h2 rfl
 .rw [show s'.H=H' from rfl,hlen]
  rcases hl with hl | ⟨m,hm,rfl⟩ | ⟨i,hi⟩
  .exact h.iE z hl
  .exact (h.aI b B hb).lt hm
  .exact (h.kl z _ hi).1
 .obtain ⟨hp,aV⟩:=Ic hp
  obtain ⟨k1,k2,k3,k4⟩:=h.kl z p hp
  refine ⟨by rw [show s'.H=H' from rfl,hlen];exact k1,by rw [show s'.L=mA s.L b from rfl,Ew];exact k2,?_,fun q Q m' g1 g2=>k4 q Q m' (Qs g1).2 g2⟩
  rintro (hl | ⟨m,hm,e⟩ | ⟨i,hi⟩)
  .exact k3 hl
  .exact k4 b B m hb hm e
  .rw [hp] at hi;injection hi with hi;subst hi;exact aV rfl
 .show EO s b z=s.br z
  unfold EO
  split
  .rename_i p hp
   split
   .rename_i e;exact absurd hp (by rw [show p=(b,p.2) from by rw [<- e]];exact hz p.2)
   .rw [hp]
  .rename_i hp;rw [hp]
theorem aD.An {s:S} (h:aD s) (B:Body) (m:MB) (hz:s.aF m.z) (Kf:Nat->Option Nat) (hK:∀ z i,Kf z=some i->s.aF z/\z≠m.z/\∃ k,ah s.H z=some k)
  (hB:∀ s',aj s s'->s'.μ s.L.bl.length=some m->s'.H=s.H->(∀ z i,Kf z=some i->s'.br z=some (s.L.bl.length,i))->BR s' s.L.bl.length ⟨0,true,B⟩) :
  ∃ s',s'.L=Qv s.L B/\s'.H=s.H/\s'.μ s.L.bl.length=some m/\aj s s'/\aD s'/\(∀ z,s'.aF z↔s.aF z/\z≠m.z/\Kf z=none)/\(∀ z,bJ s' z↔bJ s z):=by
 let s':S:={ s with μ:=S.CU s.μ s.L.bl.length (some m),L:=Qv s.L B,aF:=fun z=>s.aF z/\z≠m.z/\Kf z=none,br:=fun z=>match Kf z with | some i=>some (s.L.bl.length,i) | none=>s.br z }
 have jW:∀ z i,Kf z=some i->s'.br z=some (s.L.bl.length,i):=by intro z i e;show (match Kf z with | some i=>some (s.L.bl.length,i) | none=>s.br z)=_;rw [e]
 have fJ:∀ z,Kf z=none->s'.br z=s.br z:=by intro z e;show (match Kf z with | some i=>some (s.L.bl.length,i) | none=>s.br z)=_;rw [e]
 have qQ:∀ z p,s.br z=some p->s'.br z=some p:=by
  intro z p hp
  cases e:Kf z with
  | none=>rw [fJ z e];exact hp
  | some i=>exact absurd (hK z i e).1 (h.kl z p hp).2.2.1
 have cls:∀ q Q mq,Qi s'.L q=some Q->s'.μ q=some mq->(q < s.L.bl.length/\Qi s.L q=some Q/\s.μ q=some mq/\mq.z≠m.z)\/(q=s.L.bl.length/\mq=m/\Q=⟨0,true,B⟩):=by
  intro q Q mq g1 g2
  rcases Nat.lt_trichotomy q s.L.bl.length with hq | hq | hq
  .have a1:Qi s.L q=some Q:=by rw [<- Qz hq (B:=B)];exact g1
   have a2:s.μ q=some mq:=(S.cB (Nat.ne_of_lt hq)).symm.trans g2
   exact .inl ⟨hq,a1,a2,fun e=>h.lm q Q mq a1 a2 (e▸hz)⟩
  .subst hq
   have e3:some m=some mq:=by rw [<- g2];exact (S.aW _ _ _).symm
   have e4:some (⟨0,true,B⟩:VB)=some Q:=by rw [<- g1];exact (CT _ _).symm
   injection e3 with e3;injection e4 with e4;exact .inr ⟨rfl,e3.symm,e4.symm⟩
  .rw [show s'.L=Qv s.L B from rfl,vn hq] at g1;simp at g1
 have aY:∀ z,bJ s' z↔bJ s z:=by
  intro z
  constructor
  .rintro (⟨q,Q,m',h1,h2,h3,rfl⟩ | hl | ⟨p,hp⟩)
   .rcases cls q Q m' h1 h3 with ⟨_,a,b,_⟩ | ⟨_,rfl,_⟩
    .exact .inl ⟨q,Q,m',a,h2,b,rfl⟩
    .exact .inr (.inl hz)
   .exact .inr (.inl hl.1)
   .cases e:Kf z with
    | none=>rw [fJ z e] at hp;exact .inr (.inr ⟨p,hp⟩)
    | some i=>exact .inr (.inl (hK z i e).1)
  .rintro (⟨q,Q,m',h1,h2,h3,rfl⟩ | hl | ⟨p,hp⟩)
   .have hq:=Qn h1
    exact .inl ⟨q,Q,m',by rw [show s'.L=Qv s.L B from rfl,Qz hq];exact h1,h2,(S.cB (Nat.ne_of_lt hq)).trans h3,rfl⟩
   .by_cases e:z=m.z
    .exact .inl ⟨s.L.bl.length,_,m,CT _ _,rfl,S.aW _ _ _,e.symm⟩
    .cases e2:Kf z with
     | none=>exact .inr (.inl ⟨hl,e,e2⟩)
     | some i=>exact .inr (.inr ⟨_,jW z i e2⟩)
   .exact .inr (.inr ⟨p,qQ z p hp⟩)
 have hk:aj s s':=by
  refine ⟨rfl,CK.same rfl rfl,rfl,?_,fun b hb=>S.cB (Nat.ne_of_lt hb),Zd _,fun z aX _=>rfl,fun z ho=>.inl ((aY z).1 ho),fun b B' hb iu=>⟨B',?_,Zd _,fun _=>⟨rfl,fun m' aE=>rfl,fun z i hz=>⟨qQ z _ hz,rfl⟩⟩⟩⟩
  .rw [show s'.L=Qv s.L B from rfl,Qk];omega
  .rw [<- Qz hb (B:=B)];exact iu
 refine ⟨s',rfl,rfl,S.aW _ _ _,hk,⟨fun b C hC=>?_,fun b c C D m1 m2 h1 h2 h3 h4 h5 e=>?_,fun z aX=>⟨(h.cZ z aX).1,fun ho=>(h.cZ z aX).2 ((aY z).1 ho)⟩,h.dR,fun b C m' h1 h2 hl=>?_,fun z hl=>h.iE z hl.1,fun z p hp=>?_,fun z p hp=>(by
  cases e:Kf z with
  | none=>rw [fJ z e] at hp;exact h.ka z p hp
  | some i=>exact (hK z i e).2.2)⟩,fun z=>Iff.rfl,aY⟩
 .rcases Nat.lt_trichotomy b s.L.bl.length with hb | hb | hb
  .have qM:Qi s.L b=some C:=by rw [<- Qz hb (B:=B)];exact hC
   exact (h.aI b C qM).keep hk hb (fun m' aE=>rfl) (fun z i hz=>⟨qQ z _ hz,rfl⟩)
  .subst hb
   have:some (⟨0,true,B⟩:VB)=some C:=by rw [<- hC];exact (CT _ _).symm
   injection this with this;subst this
   exact hB s' hk (S.aW _ _ _) rfl jW
  .rw [show s'.L=Qv s.L B from rfl,vn hb] at hC;simp at hC
 .rcases cls b C m1 h1 h4 with ⟨a1,a2,a3,a4⟩ | ⟨a1,rfl,_⟩<;>rcases cls c D m2 h2 h5 with ⟨b1,b2,b3,b4⟩ | ⟨b1,rfl,_⟩
  .exact h.inj b c C D m1 m2 a2 b2 h3 a3 b3 e
  .exact absurd e a4
  .exact absurd e.symm b4
  .omega
 .rcases cls b C m' h1 h2 with ⟨_,a,b',_⟩ | ⟨_,rfl,_⟩
  .exact h.lm b C m' a b' hl.1
  .exact hl.2.1 rfl
 .cases e:Kf z with
  | none =>
   rw [fJ z e] at hp
   obtain ⟨k1,k2,k3,k4⟩:=h.kl z p hp
   refine ⟨k1,by rw [show s'.L=Qv s.L B from rfl,Qk];omega,fun hl=>k3 hl.1,fun q Q m' g1 g2=>?_⟩
   rcases cls q Q m' g1 g2 with ⟨_,a,b,_⟩ | ⟨_,rfl,_⟩
   .exact k4 q Q m' a b
   .exact fun e=>k3 (e▸hz)
  | some i =>
   rw [jW z i e] at hp;injection hp with hp;subst hp
   obtain ⟨k1,k2,_⟩:=hK z i e
   refine ⟨h.iE z k1,by rw [show s'.L=Qv s.L B from rfl,Qk];simp,fun hl=>by have:=hl.2.2;rw [e] at this;simp at this,fun q Q m' g1 g2=>?_⟩
   rcases cls q Q m' g1 g2 with ⟨_,a,b,_⟩ | ⟨_,rfl,_⟩
   .exact fun e=>h.lm q Q m' a b (e▸k1)
   .exact fun e=>k2 e.symm
theorem aD.CV {s:S} (h:aD s) (vs:List Value) :
  ∃ s',s'.L=s.L/\s'.H=de s.H vs/\s'.μ=s.μ/\aj s s'/\aD s'/\(∀ z,s'.aF z↔s.aF z\/z=s.H.length)/\s'.br=s.br:=by
 let s':S:={ s with H:=de s.H vs,aF:=fun z=>s.aF z\/z=s.H.length }
 have aY:∀ z,bJ s' z->bJ s z\/z=s.H.length:=by
  rintro z (hb | (hl | e) | hp)
  .exact .inl (.inl hb)
  .exact .inl (.inr (.inl hl))
  .exact .inr e
  .exact .inl (.inr (.inr hp))
 have hk:aj s s':=by
  refine ⟨rfl,CK.same rfl rfl,rfl,Zd _,fun b hb=>rfl,?_,fun z aX _=>EN aX,fun z ho=>?_,fun b B' hb iu=>⟨B',iu,Zd _,fun _=>⟨rfl,fun m' aE=>EN ((h.aI b B' iu).lt aE),fun z i hz=>⟨hz,EN (h.kl z _ hz).1⟩⟩⟩⟩
  .rw [show s'.H=de s.H vs from rfl,Ny];omega
  .rcases aY z ho with h1 | h1
   .exact .inl h1
   .exact .inr (by omega)
 refine ⟨s',rfl,rfl,rfl,hk,⟨fun b C hC=>(h.aI b C hC).keep hk (Qn hC) (fun m' aE=>EN ((h.aI b C hC).lt aE)) (fun z i hz=>⟨hz,EN (h.kl z _ hz).1⟩),fun b c C D m1 m2=>h.inj b c C D m1 m2,fun z aX=>⟨?_,fun ho=>?_⟩,?_,fun b C m' h1 h2=>?_,fun z hl=>?_,fun z p hp=>?_,fun z p hp=>by rw [show s'.H=de s.H vs from rfl,EN (h.kl z p hp).1];exact h.ka z p hp⟩,fun z=>Iff.rfl,rfl⟩
 .have:=(h.cZ z aX).1
  rw [show s'.H=de s.H vs from rfl,Ny];omega
 .rcases aY z ho with h1 | h1
  .exact (h.cZ z aX).2 h1
  .have:=(h.cZ z aX).1;omega
 .rw [show s'.H=de s.H vs from rfl,Ny];have:=h.dR;show s.ai<=_;omega
 .rintro (hl | e)
  .exact h.lm b C m' h1 h2 hl
  .have:=(h.aI b C h1).lt h2;omega
 .rw [show s'.H=de s.H vs from rfl,Ny]
  rcases hl with hl | rfl
  .have:=h.iE z hl;omega
  .omega
 .obtain ⟨k1,k2,k3,k4⟩:=h.kl z p hp
  refine ⟨by rw [show s'.H=de s.H vs from rfl,Ny];omega,k2,?_,k4⟩
  rintro (hl | e)
  .exact k3 hl
  .omega
def NC (s:S) (b:Nat) (dY:Option (Nat×Nat)) (z:Nat):Option (Nat×Nat):=match dY with
 | some p=>if p.1=z then some (b,p.2) else s.br z
 | none=>s.br z
theorem aD.Nk {s:S} (h:aD s) {b:Nat} {B:VB} {m:MB} (hb:Qi s.L b=some B) (hr:B.rw=true) (hm:s.μ b=some m) (B':VB) (dD:B'.rw=true) (hv:B'.aA=B.aA+1) (k':bx)
  (dY:Option (Nat×Nat)) (ND:∀ z i,dY=some (z,i)->s.aF z/\∃ k,ah s.H z=some k)
  (hB:∀ s',aj s s'->s'.μ b=some m->ah s'.H m.z=some k'->(∀ z,z≠m.z->ah s'.H z=ah s.H z)->(∀ z i,s.br z=some (b,i)->s'.br z=some (b,i))->(∀ z i,dY=some (z,i)->s'.br z=some (b,i))->BR s' b B') :
  ∃ s',s'.L=cQ s.L b B'/\s'.H=s.H.set m.z (some k')/\s'.μ=s.μ/\aj s s'/\aD s'/\(∀ z,s'.aF z↔s.aF z/\∀ i,dY≠some (z,i)):=by
 have nJ:∀ z i,dY=some (z,i)->s.aF z:=fun z i e=>(ND z i e).1
 let s':S:={ s with L:=cQ s.L b B',H:=s.H.set m.z (some k'),aF:=fun z=>s.aF z/\∀ i,dY≠some (z,i),br:=NC s b dY }
 have jW:∀ z i,dY=some (z,i)->s'.br z=some (b,i):=by intro z i e;show NC s b dY z=_;unfold NC;rw [e];simp
 have fJ:∀ z,(∀ i,dY≠some (z,i))->s'.br z=s.br z:=by
  intro z e;show NC s b dY z=_;unfold NC
  split
  .rename_i p
   split
   .rename_i e2;subst e2;exact absurd rfl (e p.2)
   .rfl
  .rfl
 have CW:∀ z,(∃ i,dY=some (z,i))\/∀ i,dY≠some (z,i):=fun z=>by
  by_cases e:∃ i,dY=some (z,i)
  .exact .inl e
  .exact .inr fun i h=>e ⟨i,h⟩
 have qQ:∀ z p,s.br z=some p->s'.br z=some p:=by
  intro z p hp
  rcases CW z with ⟨i,e⟩ | e
  .exact absurd (nJ z i e) (h.kl z p hp).2.2.1
  .rw [fJ z e];exact hp
 have bF:=Qn hb
 have hz:=(h.aI b B hb).lt hm
 have cls:∀ q Q,Qi s'.L q=some Q->(q=b/\Q=B')\/(q≠b/\Qi s.L q=some Q):=by
  intro q Q g
  by_cases e:b=q
  .subst e;left;have:some B'=some Q:=by rw [<- g];exact (Qr bF).symm
   injection this with this;exact ⟨rfl,this.symm⟩
  .right;exact ⟨fun x=>e x.symm,by rw [<- vZ e (B:=B')];exact g⟩
 have aY:∀ z,bJ s' z->bJ s z:=by
  rintro z (⟨q,Q,m',h1,h2,h3,rfl⟩ | hl | ⟨p,hp⟩)
  .rcases cls q Q h1 with ⟨rfl,rfl⟩ | ⟨_,g⟩
   .exact .inl ⟨q,B,m',hb,hr,h3,rfl⟩
   .exact .inl ⟨q,Q,m',g,h2,h3,rfl⟩
  .exact .inr (.inl hl.1)
  .rcases CW z with ⟨i,e⟩ | e
   .exact .inr (.inl (nJ z i e))
   .rw [fJ z e] at hp;exact .inr (.inr ⟨p,hp⟩)
 have NA:bJ s m.z:=.inl ⟨b,B,m,hb,hr,hm,rfl⟩
 have hk:aj s s':=by
  refine ⟨rfl,CK.same rfl rfl,rfl,by simp [s',oE],fun b hb=>rfl,by simp [s'],fun z aX hn=>?_,fun z ho=>.inl (aY z ho),fun q Q hq hQ=>?_⟩
  .exact Qh (fun e=>hn (e▸NA))
  .rcases cls q Q hQ with ⟨rfl,rfl⟩ | ⟨aV,g⟩
   .exact ⟨B,hb,by omega,fun e=>absurd e (by omega)⟩
   .exact ⟨Q,g,Zd _,fun _=>⟨rfl,fun m' aE=>Qh (h.eA hb hr hm g aE (fun e=>aV e.symm)),fun z i hz=>⟨qQ z _ hz,Qh (h.dP hz hb hm)⟩⟩⟩
 refine ⟨s',rfl,rfl,rfl,hk,⟨fun q Q hQ=>?_,fun q c Q D m1 m2 h1 h2 h3 h4 h5 e=>?_,fun z aX=>⟨by simp [s'];exact (h.cZ z aX).1,fun ho=>(h.cZ z aX).2 (aY z ho)⟩,by simp [s'];exact h.dR,fun q Q m' h1 h2 hl=>?_,fun z hl=>by simp [s'];exact h.iE z hl.1,fun z p hp=>?_,fun z p hp=>(by
  rcases CW z with ⟨i,e⟩ | e
  .rw [show s'.H=s.H.set m.z (some k') from rfl,Qh (fun e2:m.z=z=>h.lm b B m hb hm (by rw [e2];exact nJ z i e))];exact (ND z i e).2
  .rw [fJ z e] at hp
   rw [show s'.H=s.H.set m.z (some k') from rfl,Qh ((h.kl z p hp).2.2.2 b B m hb hm)];exact h.ka z p hp)⟩,fun z=>Iff.rfl⟩
 .rcases cls q Q hQ with ⟨rfl,rfl⟩ | ⟨aV,g⟩
  .exact hB s' hk hm (Q71 hz) (fun z hz=>Qh (fun e=>hz e.symm)) (fun z i hz=>qQ z _ hz) jW
  .exact (h.aI q Q g).keep hk (Qn g) (fun m' aE=>Qh (h.eA hb hr hm g aE (fun e=>aV e.symm))) (fun z i hz=>⟨qQ z _ hz,Qh (h.dP hz hb hm)⟩)
 .rcases cls q Q h1 with ⟨rfl,rfl⟩ | ⟨_,g⟩<;>rcases cls c D h2 with ⟨rfl,rfl⟩ | ⟨_,g'⟩
  .rfl
  .exact h.inj q c B D m1 m2 hb g' hr h4 h5 e
  .exact h.inj q c Q B m1 m2 g hb h3 h4 h5 e
  .exact h.inj q c Q D m1 m2 g g' h3 h4 h5 e
 .rcases cls q Q h1 with ⟨rfl,rfl⟩ | ⟨_,g⟩
  .exact h.lm q B m' hb h2 hl.1
  .exact h.lm q Q m' g h2 hl.1
 .have lmq:∀ q Q m',Qi s'.L q=some Q->s'.μ q=some m'->∃ Q0,Qi s.L q=some Q0:=by
   intro q Q m' g1 g2
   rcases cls q Q g1 with ⟨rfl,rfl⟩ | ⟨_,g⟩
   .exact ⟨B,hb⟩
   .exact ⟨Q,g⟩
  rcases CW z with ⟨i,e⟩ | e
  .rw [jW z i e] at hp;injection hp with hp;subst hp
   have hl:=nJ z i e
   refine ⟨by simp [s'];exact h.iE z hl,by rw [show s'.L=cQ s.L b B' from rfl,oE];exact bF,fun fZ=>fZ.2 i e,fun q Q m' g1 g2 e2=>?_⟩
   obtain ⟨Q0,g⟩:=lmq q Q m' g1 g2
   exact h.lm q Q0 m' g g2 (e2▸hl)
  .rw [fJ z e] at hp
   obtain ⟨k1,k2,k3,k4⟩:=h.kl z p hp
   refine ⟨by simp [s'];exact k1,by rw [show s'.L=cQ s.L b B' from rfl,oE];exact k2,fun hl=>k3 hl.1,fun q Q m' g1 g2=>?_⟩
   obtain ⟨Q0,g⟩:=lmq q Q m' g1 g2
   exact k4 q Q0 m' g g2
theorem aD.gY {s:S} (h:aD s) {b i v:Nat} {t:Ty} {xs:List (List t.T)} (hb:Qi s.L b=some ⟨v,true,.rows t xs none⟩) (z0:Option Nat) (jK:∀ z,z0=some z->s.br z=some (b,i)) :
  ∃ s',s'.L=cQ s.L b ⟨v+1,true,.rows t xs (some i)⟩/\s'.H=s.H/\s'.μ=s.μ/\aj s s'/\aD s'/\(∀ z,s'.aF z↔s.aF z\/z0=some z)/\∀ z,bJ s' z↔bJ s z:=by
 let B1:VB:=⟨v+1,true,.rows t xs (some i)⟩
 let s':S:={ s with L:=cQ s.L b B1,aF:=fun z=>s.aF z\/z0=some z,br:=fun z=>if z0=some z then none else s.br z }
 have jW:∀ z,z0=some z->s'.br z=none:=fun z e=>if_pos e
 have fJ:∀ z,z0≠some z->s'.br z=s.br z:=fun z e=>if_neg e
 have bF:=Qn hb
 have cls:∀ q Q,Qi s'.L q=some Q->(q=b/\Q=B1)\/(q≠b/\Qi s.L q=some Q):=by
  intro q Q g
  by_cases e:b=q
  .subst e;left;have:some B1=some Q:=by rw [<- g];exact (Qr bF).symm
   injection this with this;exact ⟨rfl,this.symm⟩
  .right;exact ⟨fun x=>e x.symm,by rw [<- vZ e (B:=B1)];exact g⟩
 have aY:∀ z,bJ s' z↔bJ s z:=by
  intro z
  constructor
  .rintro (⟨q,Q,m',h1,h2,h3,rfl⟩ | (hl | hp) | ⟨p,hp⟩)
   .rcases cls q Q h1 with ⟨rfl,rfl⟩ | ⟨_,g⟩
    .exact .inl ⟨q,_,m',hb,rfl,h3,rfl⟩
    .exact .inl ⟨q,Q,m',g,h2,h3,rfl⟩
   .exact .inr (.inl hl)
   .exact .inr (.inr ⟨_,jK z hp⟩)
   .by_cases e:z0=some z
    .rw [jW z e] at hp;simp at hp
    .rw [fJ z e] at hp;exact .inr (.inr ⟨p,hp⟩)
  .rintro (⟨q,Q,m',h1,h2,h3,rfl⟩ | hl | ⟨p,hp⟩)
   .by_cases e:b=q
    .subst e;exact .inl ⟨b,B1,m',Qr bF,rfl,h3,rfl⟩
    .exact .inl ⟨q,Q,m',by rw [show s'.L=cQ s.L b B1 from rfl,vZ e];exact h1,h2,h3,rfl⟩
   .exact .inr (.inl (.inl hl))
   .by_cases e:z0=some z
    .exact .inr (.inl (.inr e))
    .exact .inr (.inr ⟨p,by rw [fJ z e];exact hp⟩)
 have NF:∀ q z j,q≠b->s.br z=some (q,j)->s'.br z=some (q,j):=by
  intro q z j aV hz
  rw [fJ z (fun e=>by have e:=jK z e;rw [hz] at e;injection e with e;injection e with e1 e2;exact aV e1)];exact hz
 have hk:aj s s':=by
  refine ⟨rfl,CK.same rfl rfl,rfl,by simp [s',oE],fun b hb=>rfl,Zd _,fun z aX hn=>rfl,fun z ho=>.inl ((aY z).1 ho),fun q Q hq hQ=>?_⟩
  rcases cls q Q hQ with ⟨rfl,rfl⟩ | ⟨aV,g⟩
  .exact ⟨_,hb,by simp [B1],fun e=>absurd e (by simp [B1])⟩
  .exact ⟨Q,g,Zd _,fun _=>⟨rfl,fun m' aE=>rfl,fun z j hz=>⟨NF q z j aV hz,rfl⟩⟩⟩
 refine ⟨s',rfl,rfl,rfl,hk,⟨fun q Q hQ=>?_,fun q c Q D m1 m2 h1 h2 h3 h4 h5 e=>?_,fun z aX=>⟨(h.cZ z aX).1,fun ho=>(h.cZ z aX).2 ((aY z).1 ho)⟩,h.dR,fun q Q m' h1 h2 hl=>?_,fun z hl=>?_,fun z p hp=>?_,fun z p hp=>(by
  by_cases e:z0=some z
  .rw [jW z e] at hp;simp at hp
  .rw [fJ z e] at hp;exact h.ka z p hp)⟩,fun z=>Iff.rfl,aY⟩
 .rcases cls q Q hQ with ⟨rfl,rfl⟩ | ⟨aV,g⟩
  .have:=h.aI q _ hb
   unfold BR at this ⊢
   simp only [B1] at this ⊢
   obtain ⟨r0,r1,r⟩:=this
   refine ⟨trivial,r1,?_⟩
   cases e:s.μ q with
   | none=>rw [e] at r;exact r
   | some m =>
    rw [e] at r
    obtain ⟨g1,g2,k,g3,g4,g5,g6,g7⟩:=r
    refine ⟨g1,g2,k,g3,g4,g5,g6,fun j hj hn=>?_⟩
    obtain ⟨w,q1,q2⟩:=g7 j hj (by simp)
    exact ⟨w,q1,q2.mono r1 (fun z hz=>⟨by rw [fJ z (fun e=>by have e:=jK z e;rw [hz] at e;injection e with e;injection e with e1 e2;exact hn (by rw [e2]))];exact hz,rfl⟩)⟩
  .exact (h.aI q Q g).keep hk (Qn g) (fun m' aE=>rfl) (fun z j hz=>⟨NF q z j aV hz,rfl⟩)
 .rcases cls q Q h1 with ⟨rfl,rfl⟩ | ⟨_,g⟩<;>rcases cls c D h2 with ⟨rfl,rfl⟩ | ⟨_,g'⟩
  .rfl
  .exact h.inj q c _ D m1 m2 hb g' rfl h4 h5 e
  .exact h.inj q c Q _ m1 m2 g hb h3 h4 h5 e
  .exact h.inj q c Q D m1 m2 g g' h3 h4 h5 e
 .have:∃ Q0,Qi s.L q=some Q0:=by
   rcases cls q Q h1 with ⟨rfl,rfl⟩ | ⟨_,g⟩
   .exact ⟨_,hb⟩
   .exact ⟨Q,g⟩
  obtain ⟨Q0,g⟩:=this
  rcases hl with hl | hl
  .exact h.lm q Q0 m' g h2 hl
  .exact h.dP (jK _ hl) g h2 rfl
 .rcases hl with hl | hl
  .exact h.iE z hl
  .exact (h.kl z _ (jK z hl)).1
 .by_cases e:z0=some z
  .rw [jW z e] at hp;simp at hp
  .rw [fJ z e] at hp
   obtain ⟨k1,k2,k3,k4⟩:=h.kl z p hp
   refine ⟨k1,by rw [show s'.L=cQ s.L b B1 from rfl,oE];exact k2,?_,fun q Q m' g1 g2=>?_⟩
   .rintro (hl | hl)
    .exact k3 hl
    .exact e hl
   .rcases cls q Q g1 with ⟨rfl,rfl⟩ | ⟨_,g⟩
    .exact k4 q _ m' hb g2
    .exact k4 q Q m' g g2
theorem aD.sH {s:S} (h:aD s) {z0:Nat} (jK:s.aF z0) :
  ∃ s',s'.L=s.L/\s'.H=s.H.set z0 none/\s'.μ=s.μ/\aj s s'/\aD s'/\s'.aF=s.aF/\s'.br=s.br:=by
 let s':S:={ s with H:=s.H.set z0 none }
 have aV:∀ b B m,Qi s.L b=some B->s.μ b=some m->ah s'.H m.z=ah s.H m.z:=fun b B m h1 h2=>Qh (fun e=>h.lm b B m h1 h2 (e▸jK))
 have Ml:∀ z p,s.br z=some p->ah s'.H z=ah s.H z:=fun z p hp=>Qh (fun e=>(h.kl z p hp).2.2.1 (e▸jK))
 have hk:aj s s':=by
  refine ⟨rfl,CK.same rfl rfl,rfl,Zd _,fun b hb=>rfl,by simp [s'],fun z aX hn=>Qh (fun e=>hn (e▸.inr (.inl jK))),fun z ho=>.inl ho,fun b B' hb iu=>⟨B',iu,Zd _,fun _=>⟨rfl,fun m' aE=>aV b B' m' iu aE,fun z i hz=>⟨hz,Ml z _ hz⟩⟩⟩⟩
 exact ⟨s',rfl,rfl,rfl,hk,⟨fun b C hC=>(h.aI b C hC).keep hk (Qn hC) (fun m' aE=>aV b C m' hC aE) (fun z i hz=>⟨hz,Ml z _ hz⟩),h.inj,fun z hz=>⟨by simp [s'];exact (h.cZ z hz).1,(h.cZ z hz).2⟩,by simp [s'];exact h.dR,h.lm,fun z hl=>by simp [s'];exact h.iE z hl,fun z p hp=>⟨by simp [s'];exact (h.kl z p hp).1,(h.kl z p hp).2⟩,fun z p hp=>by rw [Ml z p hp];exact h.ka z p hp⟩,rfl,rfl⟩
theorem aD.Am {s:S} (h:aD s) (t:Ty) (hf:t.flat=true) :
  ∃ s',s'.L=Qv s.L (.rows t [] none)/\s'.H=s.H/\s'.μ s.L.bl.length=none/\aj s s'/\aD s'/\s'.aF=s.aF/\s'.br=s.br/\∀ z,s.N z->s'.N z:=by
 let B:Body:=.rows t [] none
 let s':S:={ s with μ:=S.CU s.μ s.L.bl.length none,L:=Qv s.L B }
 have cls:∀ q Q mq,Qi s'.L q=some Q->s'.μ q=some mq->q < s.L.bl.length/\Qi s.L q=some Q/\s.μ q=some mq:=by
  intro q Q mq g1 g2
  rcases Nat.lt_trichotomy q s.L.bl.length with hq | hq | hq
  .exact ⟨hq,by rw [<- Qz hq (B:=B)];exact g1,(S.cB (Nat.ne_of_lt hq)).symm.trans g2⟩
  .subst hq
   have e3:none=some mq:=by rw [<- g2];exact (S.aW _ _ _).symm
   simp at e3
  .rw [show s'.L=Qv s.L B from rfl,vn hq] at g1;simp at g1
 have aY:∀ z,bJ s' z->bJ s z:=by
  rintro z (⟨b,C,m',h1,h2,h3,rfl⟩ | hl)
  .obtain ⟨_,a,b'⟩:=cls b C m' h1 h3
   exact .inl ⟨b,C,m',a,h2,b',rfl⟩
  .exact .inr hl
 have hk:aj s s':=by
  refine ⟨rfl,CK.same rfl rfl,rfl,?_,fun b hb=>S.cB (Nat.ne_of_lt hb),Zd _,fun z aX _=>rfl,fun z ho=>.inl (aY z ho),fun b B' hb iu=>⟨B',?_,Zd _,fun _=>⟨rfl,fun m' aE=>rfl,fun z i hz=>⟨hz,rfl⟩⟩⟩⟩
  .rw [show s'.L=Qv s.L B from rfl,Qk];omega
  .rw [<- Qz hb (B:=B)];exact iu
 refine ⟨s',rfl,rfl,S.aW _ _ _,hk,⟨fun b C hC=>?_,fun b c C D m1 m2 h1 h2 h3 h4 h5 e=>?_,fun z aX=>⟨(h.cZ z aX).1,fun ho=>(h.cZ z aX).2 (aY z ho)⟩,h.dR,fun b C m' h1 h2=>h.lm b C m' (cls b C m' h1 h2).2.1 (cls b C m' h1 h2).2.2,h.iE,fun z p hp=>⟨(h.kl z p hp).1,by rw [show s'.L=Qv s.L B from rfl,Qk];have:=(h.kl z p hp).2.1;omega,(h.kl z p hp).2.2.1,fun b C m' g1 g2=>(h.kl z p hp).2.2.2 b C m' (cls b C m' g1 g2).2.1 (cls b C m' g1 g2).2.2⟩,h.ka⟩,rfl,rfl,fun z hz=>⟨fun ho=>hz.1 (aY z ho),hz.2⟩⟩
 .rcases Nat.lt_trichotomy b s.L.bl.length with hb | hb | hb
  .have qM:Qi s.L b=some C:=by rw [<- Qz hb (B:=B)];exact hC
   exact (h.aI b C qM).keep hk hb (fun m' aE=>rfl) (fun z i hz=>⟨hz,rfl⟩)
  .subst hb
   have:some (⟨0,true,B⟩:VB)=some C:=by rw [<- hC];exact (CT _ _).symm
   injection this with this;subst this
   unfold BR;simp only [B]
   refine ⟨trivial,hf,?_⟩
   rw [show s'.μ s.L.bl.length=none from S.aW _ _ _];trivial
  .rw [show s'.L=Qv s.L B from rfl,vn hb] at hC;simp at hC
 .obtain ⟨_,a1,a2⟩:=cls b C m1 h1 h4
  obtain ⟨_,b1,b2⟩:=cls c D m2 h2 h5
  exact h.inj b c C D m1 m2 a1 b1 h3 a2 b2 e
theorem aD.jn {s:S} (h:aD s) {t:Ty} (hf:t.flat=true) {ys:List (List t.T)} {vs:List Value} (Kf:Nat->Option Nat) (M8:∀ z i,Kf z=some i->s.aF z/\∃ k,ah s.H z=some k) (hl:vs.length=ys.length)
  (hr:∀ i (hi:i < ys.length),∃ v,vs[i]? = some v/\ir (fun z=>Kf z=some i) s.H s.ai t ys[i] v) (hp:∀ v∈vs,Qa v v=true) :
  ∃ s',s'.L=Qv s.L (.rows t ys none)/\s'.H=de s.H vs/\aj s s'/\aD s'/\cj s' (.a_ s.L.bl.length 0 none) (.slice (some ⟨s.H.length,0,none⟩) ys.length 1)/\(∀ z,s'.aF z↔s.aF z/\Kf z=none):=by
 have hK:∀ z i,Kf z=some i->s.aF z:=fun z i e=>(M8 z i e).1
 obtain ⟨s1,l1,g1,u1,k1,t1,vg,kd1⟩:=h.CV vs
 have aV:∀ z i,Kf z=some i->z≠s.H.length:=fun z i e=>by have:=h.iE z (hK z i e);omega
 obtain ⟨s2,l2,g2,u2,k2,t2,Wx,_⟩:=t1.An (.rows t ys none) ⟨s.H.length,0,1,ys.length⟩ ((vg _).2 (.inr rfl)) Kf (fun z i e=>⟨(vg z).2 (.inl (hK z i e)),aV z i e,by rw [g1,EN (h.iE z (hK z i e))];exact (M8 z i e).2⟩) (fun s' hk hm hH mw=>by
  unfold BR;simp only [hm]
  have hg:ah s'.H s.H.length=some ⟨vs,false,none⟩:=by rw [hH,g1];exact LL _ _
  refine ⟨trivial,hf,trivial,trivial,_,hg,⟨by simp;omega,fun v hv=>hp v (List.mem_of_mem_drop hv)⟩,rfl,by rw [hk.ai,k1.ai];exact h.dR,fun i hi _=>?_⟩
  obtain ⟨v,q1,q2⟩:=hr i hi
  refine ⟨v,by simpa using q1,?_⟩
  rw [hk.ai,k1.ai]
  exact q2.mono hf (fun z hz=>⟨mw z i hz,by rw [hH,g1];exact EN (h.iE z (hK z i hz))⟩))
 refine ⟨s2,by rw [l2,l1],g2.trans g1,k1.trans k2,t2,?_,fun z=>?_⟩
 .rw [<- l1]
  refine ⟨by rw [l2,Qk];omega,?_⟩
  rw [u2];simp
 .rw [Wx,vg]
  constructor
  .rintro ⟨h1 | h1,h2,h3⟩
   .exact ⟨h1,h3⟩
   .exact absurd h1 h2
  .rintro ⟨h1,h2⟩
   exact ⟨.inl h1,by have:=h.iE z h1;simp;omega,h2⟩
theorem ob {α β:Type} {x:Option α} {f:α->Option β} {y:β} (h:Q1 x f=some y):∃ a,x=some a/\f a=some y:=Q2 h
theorem Bf {a b:Nat} (h:Nat.blt a b=true):a < b:=by unfold Nat.blt at h;exact Zi h
theorem JI {a b:Nat} (h:a < b):Nat.blt a b=true:=by unfold Nat.blt;exact Nat.ble_eq_true_of_le h
theorem Qmd {s:S} {v:Value} {p:PV} (h:Aw v=some p):cj s p v/\Qu v=true:=by
 unfold Aw at h
 split at h<;>simp at h<;>subst h<;>exact ⟨rfl,rfl⟩
theorem JH {s:S}:∀ {vs:List Value} {ps:List PV},v7 vs=some ps->cm s ps vs/\vs.all Qu=true
 | [],_,h=>by simp [v7] at h;subst h;exact ⟨trivial,rfl⟩
 | v::r,_,h=>by
  simp only [v7] at h
  obtain ⟨p,h1,h⟩:=ob h
  obtain ⟨l,h2,h⟩:=ob h
  simp at h;subst h
  obtain ⟨a1,a2⟩:=Qmd (s:=s) h1
  obtain ⟨b1,b2⟩:=JH (s:=s) h2
  exact ⟨⟨a1,b1⟩,by simp [a2,b2]⟩
theorem Qrl {s:S} {v:Value} {p:PV} (h:P6 v=some p):ER s p v/\I3 v=true:=by
 unfold P6 at h
 split at h
 .rename_i cs
  obtain ⟨l,h1,h⟩:=ob h
  simp at h;subst h
  obtain ⟨a,b⟩:=JH (s:=s) h1
  exact ⟨⟨cs.toList,by simp,a⟩,by simp only [I3];exact b⟩
 .rename_i hn
  obtain ⟨a,b⟩:=Qmd (s:=s) h
  refine ⟨ER.fe a,?_⟩
  cases v<;>first | exact b | (simp [Qu] at b) | exact absurd rfl (hn _)
theorem fH {s:S} {env:bA} {e:Env} (he:cF s env e) {x:Operand} {p:PV} (h:ez env x=some p):∃ v,ev e x=some v/\ER s p v:=by
 cases x with
 | tmp t=>exact he.get h
 | const v =>
  obtain ⟨a,b⟩:=Qrl (s:=s) h
  exact ⟨v,by simp only [ev,b],a⟩
 | func f=>simp [ez] at h;subst h;exact ⟨_,rfl,[],[],rfl,trivial,trivial⟩
 | global g=>simp [ez] at h
theorem M7 {s:S} {env:bA} {e:Env} (he:cF s env e):∀ {xs:List Operand} {ps:List PV},EM env xs=some ps->∃ vs,eV e xs=some vs/\Qw (ER s) ps vs
 | [],_,h=>by simp [EM] at h;subst h;exact ⟨[],rfl,trivial⟩
 | x::r,_,h=>by
  simp only [EM] at h
  obtain ⟨p,h1,h⟩:=ob h
  obtain ⟨l,h2,h⟩:=ob h
  simp at h;subst h
  obtain ⟨v,e1,r1⟩:=fH he h1
  obtain ⟨vs,e2,r2⟩:=M7 he h2
  exact ⟨v::vs,by simp [eV,e1,e2,Q1],r1,r2⟩
def Jn (s:S) (a:Nat×PV) (b:Nat×Value):Prop:=a.1=b.1/\ER s a.2 b.2
theorem Wq {s:S} {env:bA} {e:Env} (he:cF s env e):∀ {xs:List (Nat×Operand)} {ps:List (Nat×PV)},JL env xs=some ps->∃ vs,om e xs=some vs/\Qw (Jn s) ps vs
 | [],_,h=>by simp [JL] at h;subst h;exact ⟨[],rfl,trivial⟩
 | (i,x)::r,_,h=>by
  simp only [JL] at h
  obtain ⟨p,h1,h⟩:=ob h
  obtain ⟨l,h2,h⟩:=ob h
  simp at h;subst h
  obtain ⟨v,e1,r1⟩:=fH he h1
  obtain ⟨vs,e2,r2⟩:=Wq he h2
  exact ⟨(i,v)::vs,by simp [om,e1,e2,Q1],⟨rfl,r1⟩,r2⟩
theorem ax.mono {N M:Nat->Prop} {H:af} (h:∀ z,N z->M z) (t:Ty) {x:t.T} {cs:List Value} (r:ax N H t x cs):ax M H t x cs :=
 ax.frame (fun z hz _=>⟨h z hz,rfl⟩) t r
def Any:Nat->Prop:=fun _=>True
theorem ax.any {N:Nat->Prop} {H:af} (t:Ty) {x:t.T} {cs:List Value} (r:ax N H t x cs):ax Any H t x cs:=r.mono (fun _ _=>trivial) t
def Ie (b:Nat) (p:PV):Prop:=(∃ off n,p=.a_ b off n)\/∃ i aA t x,p=.rw b i aA t x
theorem Qci {s:S} (hs:aD s) {b off:Nat} {n:Option Nat} {v:Value} (hr:cj s (.a_ b off n) v) {aA:Nat} {EJ:Bool} {u:Ty} {xs:List u.T} (hb:Qi s.L b=some ⟨aA,EJ,.arr u xs⟩) {t:Ty} {x:List t.T} (h:kn s.L (.a_ b off n) t=some x) {M:Nat->Prop} (h2:∀ m,PV.a_ b off n=.a_ b off n->s.μ b=some m->M m.z) (h3:∀ z,s.N z->M z):ax M s.H (.sl t) x [v]:=by
 unfold kn at h
 simp only [hb] at h
 obtain ⟨e,hx⟩:=Ax h
 injection e with e;subst e
 simp at hx;subst hx
 obtain ⟨bF,hr⟩:=hr
 have hB:=hs.aI b _ hb
 unfold BR at hB;simp only at hB
 cases hm:s.μ b with
 | none =>
  rw [hm] at hr hB;obtain ⟨rfl,h5,rfl⟩:=hr
  subst hB
  have:cut ([]:List u.T) 0 n=[]:=by cases n<;>simp [cut]
  rw [this];unfold ax;exact .inl ⟨rfl,rfl⟩
 | some m =>
  rw [hm] at hr hB
  obtain ⟨g1,g2,k,g3,g4,g5,g6,g7⟩:=hB
  have g4:=g4.1
  obtain ⟨a1,a2⟩:=hr
  have hlen:(cut xs off n).length=n.getD (m.n - off):=by
   cases n with
   | none=>simp [cut,g2]
   | some l=>simp [cut] at a1 ⊢;omega
  have hle:off+(cut xs off n).length<=xs.length:=by rw [hlen];omega
  have ah:∀ i (hi:i < (cut xs off n).length),(cut xs off n)[i]=xs[off+i]'(by omega):=by
   intro i hi
   cases n with
   | none=>simp [cut]
   | some l=>simp [cut]
  unfold ax
  refine .inr (.inr ⟨m.z,m.sh+off*u.size,k,?_,h2 m rfl hm,g3,?_,fun i hi=>?_⟩)
  .rw [a2,hlen,g1]
  .have:(off+(cut xs off n).length)*u.size<=xs.length*u.size:=Zk _ hle
   rw [Nat.add_mul] at this;omega
  .rw [ah i hi]
   have:=g5 (off+i) (by omega)
   rw [Nat.add_mul,<- Nat.add_assoc] at this
   exact ax.mono h3 u this
theorem P7 {s:S} (hs:aD s) {p:PV} {v:Value} (hr:cj s p v) {t:Ty} {x:List t.T} (h:kn s.L p t=some x):ax Any s.H (.sl t) x [v]/\∀ M:Nat->Prop,(∀ st u y,p=.ro st u y->∀ z,s.NN st z->M z)->(∀ b off n m,p=.a_ b off n->s.μ b=some m->M m.z)->(∀ b z i,Ie b p->s.br z=some (b,i)->M z)->(∀ z,s.N z->M z)->ax M s.H (.sl t) x [v]:=by
 suffices key:∀ M:Nat->Prop,(∀ st u y,p=.ro st u y->∀ z,s.NN st z->M z)->(∀ b off n m,p=.a_ b off n->s.μ b=some m->M m.z)->(∀ b z i,Ie b p->s.br z=some (b,i)->M z)->(∀ z,s.N z->M z)->ax M s.H (.sl t) x [v] from
  ⟨key Any (fun _ _ _ _ _ _=>trivial) (fun _ _ _ _ _ _=>trivial) (fun _ _ _ _ _=>trivial) (fun _ _=>trivial),key⟩
 intro M h1 h2 hK h3
 unfold kn at h
 split at h
 .simp at h;subst h;obtain rfl:=hr;unfold ax;exact .inl ⟨rfl,rfl⟩
 .rename_i st u y
  obtain ⟨e,hx⟩:=Ax h
  injection e with e;subst e
  simp at hx;subst hx
  exact ax.mono (h1 st u y rfl) (.sl u) hr
 .rename_i b off n
  split at h
  .rename_i aA rw u xs hb
   exact Qci hs hr hb (by unfold kn;simp only [hb];exact h) (fun m _ hm=>h2 b off n m rfl hm) h3
  .rename_i aA u xs hb
   obtain ⟨e,hx⟩:=Ax h
   injection e with e;subst e
   simp at hx;subst hx
   obtain ⟨bF,hr⟩:=hr
   have hB:=hs.aI b _ hb
   unfold BR at hB;simp only at hB
   obtain ⟨_,r1,hB⟩:=hB
   cases hm:s.μ b with
   | none =>
    rw [hm] at hr hB;obtain ⟨rfl,h5,rfl⟩:=hr
    subst hB
    have:cut ([]:List (List u.T)) 0 n=[]:=by cases n<;>simp [cut]
    rw [this];unfold ax;exact .inl ⟨rfl,rfl⟩
   | some m =>
    rw [hm] at hr hB
    obtain ⟨g1,g2,k,g3,g4,g5,g6,g7⟩:=hB
    have g4:=g4.1
    obtain ⟨a1,a2⟩:=hr
    have hlen:(cut xs off n).length=n.getD (m.n - off):=by
     cases n with
     | none=>simp [cut,g2]
     | some l=>simp [cut] at a1 ⊢;omega
    have hle:off+(cut xs off n).length<=xs.length:=by rw [hlen];omega
    have ah:∀ i (hi:i < (cut xs off n).length),(cut xs off n)[i]=xs[off+i]'(by omega):=by
     intro i hi
     cases n with
     | none=>simp [cut]
     | some l=>simp [cut]
    unfold ax
    refine .inr (.inr ⟨m.z,m.sh+off,k,?_,h2 b off n m rfl hm,g3,?_,fun i hi=>?_⟩)
    .rw [a2,hlen,g1,Nat.mul_one];rfl
    .have:(cut xs off n).length*(Ty.sl u).size=(cut xs off n).length:=Nat.mul_one _
     show m.sh+off+(cut xs off n).length*(Ty.sl u).size<=_
     rw [this];omega
    .rw [ah i hi]
     obtain ⟨w,q1,q2⟩:=g7 (off+i) (by omega) (by simp)
     have:(k.cells.drop (m.sh+off+i*(Ty.sl u).size)).take (Ty.sl u).size=[w]:=by
      rw [show (Ty.sl u).size=1 from rfl,Nat.mul_one,show m.sh+off+i=m.sh+(off+i) by omega]
      obtain ⟨hl,he⟩:=Z0 q1
      rw [List.drop_eq_getElem_cons hl,List.take_succ_cons,List.take_zero,he]
     rw [this]
     exact q2.rep r1 (fun z hz=>hK b z _ (.inl ⟨off,n,rfl⟩) hz)
  .simp at h
 .rename_i b i aA u y
  split at h
  .rename_i v' t' xs' h' hb
   split at h
   .rename_i hv
    have hv:=Z7 hv
    obtain ⟨e,hx⟩:=Ax h
    injection e with e;subst e
    simp at hx;subst hx
    obtain ⟨_,_,hr⟩:=hr
    obtain ⟨r1,r2,_⟩:=(hr _ hb).2 hv
    exact r2.rep r1 (fun z hz=>hK b z i (.inr ⟨i,aA,u,y,rfl⟩) hz)
   .simp at h
  .simp at h
 .simp at h
theorem cm.one {s:S} {p:PV} {vs:List Value} (h:cm s [p] vs):∃ v,vs=[v]/\cj s p v:=by
 match vs,h with
 | [v],h=>exact ⟨v,rfl,h.1⟩
theorem ax.gZ {N:Nat->Prop} {H:af} {a b:Ty} {x:a.T} {y:b.T} {cs:List Value} (h1:ax N H a x (cs.take a.size)) (h2:ax N H b y (cs.drop a.size)):ax N H (.pair a b) (x,y) cs:=by
 unfold ax;exact ⟨h1,h2⟩
theorem PD {s:S} (hs:aD s) {M:Nat->Prop} (hN:∀ z,s.N z->M z):∀ (t:Ty) {cs:List PV} {vs:List Value} {x:t.T} {L':LS},(∀ b off n m B,PV.a_ b off n∈cs->Qi s.L b=some B->s.μ b=some m->M m.z)->(∀ p∈cs,∀ b z i,Ie b p->s.br z=some (b,i)->M z)->cm s cs vs->refl false t cs s.L=some (x,L')->L'=s.L/\ax M s.H t x vs
 | .int k,cs,vs,x,L',hM,hK,hr,h=>by
  unfold refl at h;split at h
  .split at h<;>simp at h
   obtain ⟨v,rfl,hv⟩:=hr.one
   obtain rfl:=hv
   obtain ⟨rfl,rfl⟩:=h
   rename_i e;subst e
   exact ⟨rfl,by unfold ax;rfl⟩
  .simp at h
 | .bool,cs,vs,x,L',hM,hK,hr,h=>by
  unfold refl at h;split at h
  .simp at h
   obtain ⟨v,rfl,hv⟩:=hr.one
   obtain rfl:=hv
   obtain ⟨rfl,rfl⟩:=h
   exact ⟨rfl,by unfold ax;rfl⟩
  .simp at h
 | .str,cs,vs,x,L',hM,hK,hr,h=>by
  unfold refl at h;split at h
  .simp at h
   obtain ⟨v,rfl,hv⟩:=hr.one
   obtain rfl:=hv
   obtain ⟨rfl,rfl⟩:=h
   exact ⟨rfl,by unfold ax;rfl⟩
  .simp at h
 | .sl t,cs,vs,x,L',hM,hK,hr,h=>by
  unfold refl at h;split at h
  .obtain ⟨y,h1,h⟩:=ob h
   simp at h;obtain ⟨h2,h3⟩:=h
   obtain ⟨v,rfl,hv⟩:=hr.one
   subst h2
   exact ⟨h3.symm,(P7 hs hv h1).2 M (fun st u y e z hz=>hN z hz.1) (fun b off n m e hm=>(by
    subst e
    unfold kn at h1;simp only at h1
    cases hb:Qi s.L b with
    | none=>simp [hb] at h1
    | some B=>exact hM b off n m B (by simp) hb hm)) (fun b z i e hz=>hK _ (by simp) b z i e hz) hN⟩
  .simp at h
 | .pair a b,cs,vs,x,L',hM,hK,hr,h=>by
  unfold refl at h
  obtain ⟨r,h1,h⟩:=ob h
  obtain ⟨q,h2,h⟩:=ob h
  simp at h;obtain ⟨e1,e2⟩:=h
  obtain ⟨a1,a2⟩:=PD hs hN a (fun b off n m B hm=>hM b off n m B (List.mem_of_mem_take hm)) (fun p hp=>hK p (List.mem_of_mem_take hp)) (Qw.take a.size hr) (by rw [h1])
  rw [a1] at h2
  obtain ⟨b1,b2⟩:=PD hs hN b (fun b off n m B hm=>hM b off n m B (List.mem_of_mem_drop hm)) (fun p hp=>hK p (List.mem_of_mem_drop hp)) (Qw.drop a.size hr) (by rw [h2])
  subst e1 e2
  exact ⟨b1,ax.gZ a2 b2⟩
theorem Js {s:S} (hs:aD s) (t:Ty) {cs:List PV} {vs:List Value} {x:t.T} {L':LS} (hr:cm s cs vs) (h:refl false t cs s.L=some (x,L')):L'=s.L/\ax Any s.H t x vs :=
 PD hs (fun _ _=>trivial) t (fun _ _ _ _ _ _ _ _=>trivial) (fun _ _ _ _ _ _ _=>trivial) hr h
theorem Qxh {s:S} (hs:aD s) {b off:Nat} {n:Option Nat} {t:Ty} {x:List t.T} (h:kn s.L (.a_ b off n) t=some x):∀ B,Qi s.L b=some B->okF B.body:=by
 intro B hb
 unfold kn at h;simp only [hb] at h
 obtain ⟨v,r,bo⟩:=B
 cases bo with
 | mp es=>simp at h
 | cells cs=>simp at h
 | arr u xs=>trivial
 | rows u xs ho =>
  cases ho with
  | none=>trivial
  | some i=>simp at h
theorem Qo3 {s:S} (hs:aD s) {p:PV} {v:Value} (hr:cj s p v) {t:Ty} {x:List t.T} (h:kn s.L p t=some x) (M:Nat->Prop) (h1:∀ st u y,p=.ro st u y->∀ z,s.NN st z->M z) (h2:∀ b off n m,p=.a_ b off n->s.μ b=some m->M m.z)
  (hK:∀ b t xs B z i,(∃ off n,p=.a_ b off n)->Qi s.L b=some B->B.body=.rows t xs none->s.br z=some (b,i)->M z) (hW:∀ b j aA t x,p≠.rw b j aA t x) (h3:∀ z,s.N z->M z):ax M s.H (.sl t) x [v]:=by
 by_cases hq:∃ b off n B t' xs,p=.a_ b off n/\Qi s.L b=some B/\B.body=.rows t' xs none
 .obtain ⟨b,off,n,B,t',xs,rfl,hb,JR⟩:=hq
  refine (P7 hs hr h).2 M h1 h2 (fun b' z i e hz=>?_) h3
  rcases e with ⟨NG,n',e⟩ | ⟨j,aA,u,y,e⟩
  .injection e with e1 e2 e3;subst e1
   exact hK _ t' xs B z i ⟨off,n,rfl⟩ hb JR hz
  .simp at e
 . -- no rows: aaa kids are not asked for
  have key:∀ b off n,p=.a_ b off n->∀ B,Qi s.L b=some B->∃ u xs,B.body=.arr u xs:=by
   rintro b off n rfl B hb
   unfold kn at h;simp only [hb] at h
   obtain ⟨ve,r,bo⟩:=B
   cases bo with
   | mp es=>simp at h
   | cells cs=>simp at h
   | arr u xs=>exact ⟨u,xs,rfl⟩
   | rows u xs ho =>
    cases ho with
    | none=>exact absurd ⟨b,off,n,_,u,xs,rfl,hb,rfl⟩ hq
    | some i=>simp at h
  by_cases hp:∃ b off n,p=.a_ b off n
  .obtain ⟨b,off,n,rfl⟩:=hp
   cases hb:Qi s.L b with
   | none=>unfold kn at h;simp [hb] at h
   | some B =>
    obtain ⟨u,xs,JR⟩:=key b off n rfl B hb
    have h':=h
    unfold kn at h';simp only [hb] at h'
    obtain ⟨ve,r,bo⟩:=B
    simp only at JR;subst JR
    exact Qci hs hr hb h (h2 b off n) h3
  .refine (P7 hs hr h).2 M h1 h2 (fun b z i e hz=>?_) h3
   rcases e with ⟨off,n,e⟩ | ⟨j,aA,u,y,e⟩
   .exact absurd ⟨b,off,n,e⟩ hp
   .exact absurd e (hW b j aA u y)
theorem Cw:∀ (t:Ty) {s:S} {cs:List PV} {vs:List Value} {x:t.T} {L':LS},aD s->cm s cs vs->refl true t cs s.L=some (x,L') ->
  ∃ s',s'.L=L'/\s'.H=s.H/\s'.μ=s.μ/\aj s s'/\aD s'/\ax s'.N s'.H t x vs/\(∀ z,bJ s' z->bJ s z)/\s'.aF=s.aF
 | .int k,s,cs,vs,x,L',hs,hr,h=>by
  obtain ⟨rfl,r⟩:=Js (x:=x) (L':=L') hs (.int k) hr (by unfold refl at h ⊢;exact h)
  exact ⟨s,rfl,rfl,rfl,aj.refl s,hs,ax.flat (.int k) rfl r,fun _ h=>h,rfl⟩
 | .bool,s,cs,vs,x,L',hs,hr,h=>by
  obtain ⟨rfl,r⟩:=Js (x:=x) (L':=L') hs .bool hr (by unfold refl at h ⊢;exact h)
  exact ⟨s,rfl,rfl,rfl,aj.refl s,hs,ax.flat .bool rfl r,fun _ h=>h,rfl⟩
 | .str,s,cs,vs,x,L',hs,hr,h=>by
  obtain ⟨rfl,r⟩:=Js (x:=x) (L':=L') hs .str hr (by unfold refl at h ⊢;exact h)
  exact ⟨s,rfl,rfl,rfl,aj.refl s,hs,ax.flat .str rfl r,fun _ h=>h,rfl⟩
 | .sl t,s,cs,vs,x,L',hs,hr,h=>by
  unfold refl at h;split at h
  .rename_i p
   obtain ⟨y,h1,h⟩:=ob h
   have hcf:P5 p=true:=by
    cases hq:P5 p with
    | true=>rfl
    | false=>simp [hq] at h
   simp [hcf] at h;obtain ⟨h2,h3⟩:=h
   obtain ⟨v,rfl,hv⟩:=hr.one
   subst h2
   by_cases hp:∃ b off n,p=.a_ b off n
   .obtain ⟨b,off,n,rfl⟩:=hp
    obtain ⟨s',e1,e2,e3,hk,bY,hN,ho,hl,JQ⟩:=hs.cM b (Qxh hs h1)
    refine ⟨s',by rw [e1,<- h3];rfl,e2,e3,hk,bY,?_,ho,hl⟩
    have gK:=hk.cj hv
    have hc:∃ B,Qi s.L b=some B:=by
     unfold kn at h1;simp only at h1
     cases hb:Qi s.L b with
     | none=>simp [hb] at h1
     | some B=>exact ⟨B,rfl⟩
    obtain ⟨B,hb⟩:=hc
    rw [e2]
    refine Qo3 hs hv h1 _ (fun st u z e=>by simp at e) (fun b' NG n' m e hm=>?_) (fun b' t' xs' B' z i e gJ JR hz=>?_) (fun b' j' v' t' x' e=>by simp at e) (fun z hz=>⟨fun NA=>hz.1 (ho z NA),by rw [hk.cZ];exact hz.2⟩)
    .injection e with e _ _;subst e
     exact hN B m hb hm
    .obtain ⟨NG,n',e⟩:=e
     injection e with e _ _;subst e
     exact JQ B' t' xs' gJ JR z i hz
   .refine ⟨s,?_,rfl,rfl,aj.refl s,hs,?_,fun _ h=>h,rfl⟩
    .rw [<- h3];unfold freeze;split
     .exact absurd ⟨_,_,_,rfl⟩ hp
     .rfl
    .exact (P7 hs hv h1).2 _ (fun st u z e q hq=>hq.1) (fun b off n m e=>absurd ⟨b,off,n,e⟩ hp) (fun b z i e _=>by
      rcases e with ⟨off,n,e⟩ | ⟨j,aA,t',x',e⟩
      .exact absurd ⟨b,off,n,e⟩ hp
      .subst e;simp [P5] at hcf) (fun z hz=>hz)
  .simp at h
 | .pair a b,s,cs,vs,x,L',hs,hr,h=>by
  unfold refl at h
  obtain ⟨r,h1,h⟩:=ob h
  obtain ⟨q,h2,h⟩:=ob h
  simp at h;obtain ⟨e1,e2⟩:=h
  obtain ⟨s1,l1,g1,u1,k1,t1,r1,o1,m1⟩:=Cw a (x:=r.1) (L':=r.2) hs (Qw.take a.size hr) (by rw [h1])
  rw [<- l1] at h2
  obtain ⟨s2,l2,g2,u2,k2,t2,r2,o2,m2⟩:=Cw b (x:=q.1) (L':=q.2) t1 (Qw.drop a.size (k1.cm hr)) (by rw [h2])
  subst e1 e2
  exact ⟨s2,l2,g2.trans g1,u2.trans u1,k1.trans k2,t2,ax.gZ (k2.vh r1) r2,fun z hz=>o1 z (o2 z hz),m2.trans m1⟩
theorem S.fW {s:S} {z:Nat} (h:s.N z):s.NN s.L.ct z:=⟨h,fun c h1 h2=>absurd h1 (by omega)⟩
theorem P0 {s:S} (hs:aD s) (u:Ty):∀ {n:Nat} {cs:List PV} {vs:List Value} {xs:List u.T},cm s cs vs->Ib u n cs s.L=some xs ->
  xs.length=n/\n*u.size<=vs.length/\∀ i (h:i < xs.length),ax Any s.H u xs[i] ((vs.drop (i*u.size)).take u.size)
 | 0,cs,vs,xs,hr,h=>by simp [Ib] at h;subst h;simp
 | n+1,cs,vs,xs,hr,h=>by
  simp only [Ib] at h
  obtain ⟨x,h1,h⟩:=ob h
  obtain ⟨r,h2,h⟩:=ob h
  simp at h;subst h
  obtain ⟨e1,r1⟩:=Js (x:=x.1) (L':=x.2) hs u (Qw.take u.size hr) (by rw [h1])
  obtain ⟨a1,a2,a3⟩:=P0 hs u (Qw.drop u.size hr) h2
  have hl:=ax.len _ r1
  simp only [List.length_take,List.length_drop] at hl a2
  refine ⟨by simp [a1],by rw [Nat.add_mul,Nat.one_mul];omega,fun i hi=>?_⟩
  cases i with
  | zero=>simpa using r1
  | succ i =>
   have:=a3 i (by simpa using hi)
   rw [List.drop_drop] at this
   simp only [List.getElem_cons_succ]
   rw [Nat.add_mul,Nat.one_mul,Nat.add_comm (i*u.size)];exact this
theorem zT {s:S} {st:Nat}:∀ (t:Ty) {x:t.T} {cs:List Value},ax (s.NN st) s.H t x cs->cm s (fV st t x) cs
 | .int k,x,cs,h=>by unfold ax at h;subst h;exact ⟨rfl,trivial⟩
 | .bool,x,cs,h=>by unfold ax at h;subst h;exact ⟨rfl,trivial⟩
 | .str,x,cs,h=>by unfold ax at h;subst h;exact ⟨rfl,trivial⟩
 | .sl t,x,cs,h=>by
  have h':=h
  have hl:=ax.len (.sl t) h
  match cs,hl with
  | [v],_=>exact ⟨h',trivial⟩
 | .os t,x,cs,h=>by unfold ax at h;obtain ⟨v,rfl,hv⟩:=h;exact ⟨hv,trivial⟩
 | .pair a b,x,cs,h=>by
  unfold ax at h
  unfold fV
  have:=Qw.append (zT a h.1) (zT b h.2)
  rw [List.take_append_drop] at this;exact this
def Hu (t:Ty) (cs:List Value) (v:Value):Prop:=match t with
 | .pair _ _=>v=.agg ⟨cs⟩
 | _=>cs=[v]
theorem Mb {s:S} {st:Nat} {t:Ty} {x:t.T} {cs:List Value} {v:Value} (hv:Hu t cs v) (h:ax (s.NN st) s.H t x cs):AR s (ko t (fV st t x)) v:=by
 have hr:=zT t h
 cases t with
 | pair a b=>obtain rfl:=hv;exact ⟨cs,rfl,hr⟩
 | int k=>obtain rfl:=hv;exact AR.of hr.1
 | bool=>obtain rfl:=hv;exact AR.of hr.1
 | str=>obtain rfl:=hv;exact AR.of hr.1
 | sl t=>obtain rfl:=hv;exact AR.of hr.1
 | os t=>obtain rfl:=hv;exact AR.of hr.1
theorem Qd0 {α:Type} (l:List α) (a b n:Nat):(((l.drop a)).drop b).take n=(l.drop (a+b)).take n:=by rw [List.drop_drop]
theorem Xo {N:Nat->Prop} {H:af}:∀ (t u:Ty) {o:Nat} {x:t.T} {y:u.T} {cs:List Value},sub t u o x=some y->ax N H t x cs->ax N H u y ((cs.drop o).take u.size)/\o+u.size<=t.size:=by
 intro t
 induction t with
 | pair a b XL XM =>
  intro u o x y cs h r
  have hlen:=ax.len _ r
  unfold sub at h
  split at h
  .rename_i h1 h2
   have ho:=Z7 h1
   have hu:=Ty.beq_eq h2
   subst hu ho
   have:=Qg h
   subst this
   simp only [List.drop_zero,Zo]
   rw [Zs (by omega)]
   exact ⟨r,Zd _⟩
  .unfold ax at r
   split at h
   .rename_i h1
    have ho:o < a.size:=Bf h1
    obtain ⟨g1,g2⟩:=XL u h r.1
    refine ⟨?_,by simp [Ty.size];omega⟩
    have:((cs.take a.size).drop o).take u.size=(cs.drop o).take u.size:=by
     rw [List.drop_take,List.take_take,Nat.min_eq_left (by omega)]
    rw [this] at g1;exact g1
   .rename_i h1
    have ho:¬ o < a.size:=by intro au;rw [JI au] at h1;simp at h1
    obtain ⟨g1,g2⟩:=XM u h r.2
    refine ⟨?_,by simp [Ty.size];omega⟩
    rw [Qd0,show a.size+(o - a.size)=o by omega] at g1;exact g1
 | int k =>
  intro u o x y cs h r
  unfold sub at h;split at h
  .rename_i h1
   have ho:=Z7 h1;subst ho
   have e:=Qq h;subst e
   have:=Qg h;subst this
   have hlen:=ax.len _ r
   simp only [List.drop_zero,Zo]
   rw [Zs (by omega)];exact ⟨r,Zd _⟩
  .simp at h
 | bool =>
  intro u o x y cs h r
  unfold sub at h;split at h
  .rename_i h1
   have ho:=Z7 h1;subst ho
   have e:=Qq h;subst e
   have:=Qg h;subst this
   have hlen:=ax.len _ r
   simp only [List.drop_zero,Zo]
   rw [Zs (by omega)];exact ⟨r,Zd _⟩
  .simp at h
 | str =>
  intro u o x y cs h r
  unfold sub at h;split at h
  .rename_i h1
   have ho:=Z7 h1;subst ho
   have e:=Qq h;subst e
   have:=Qg h;subst this
   have hlen:=ax.len _ r
   simp only [List.drop_zero,Zo]
   rw [Zs (by omega)];exact ⟨r,Zd _⟩
  .simp at h
 | sl t _ =>
  intro u o x y cs h r
  unfold sub at h;split at h
  .rename_i h1
   have ho:=Z7 h1;subst ho
   have e:=Qq h;subst e
   have:=Qg h;subst this
   have hlen:=ax.len _ r
   simp only [List.drop_zero,Zo]
   rw [Zs (by omega)];exact ⟨r,Zd _⟩
  .simp at h
 | os t _ =>
  intro u o x y cs h r
  unfold sub at h;split at h
  .rename_i h1
   have ho:=Z7 h1;subst ho
   have e:=Qq h;subst e
   have:=Qg h;subst this
   have hlen:=ax.len _ r
   simp only [List.drop_zero,Zo]
   rw [Zs (by omega)];exact ⟨r,Zd _⟩
  .simp at h
def lay (cs:List Value) (o:Nat) (ds:List Value):List Value:=cs.take o++ds++cs.drop (o+ds.length)
theorem Qxi {N:Nat->Prop} {H:af}:∀ (t u:Ty) {o:Nat} {x x':t.T} {y:u.T} {cs ds:List Value},Bl t u o x y=some x'->ax N H t x cs->ax N H u y ds->ax N H t x' (lay cs o ds)/\o+u.size<=t.size:=by
 intro t
 induction t with
 | pair a b XL XM =>
  intro u o x x' y cs ds h r ry
  have hlen:=ax.len _ r
  have gB:=ax.len _ ry
  unfold Bl at h
  split at h
  .rename_i h1 h2
   have ho:=Z7 h1
   have hu:=Ty.beq_eq h2
   subst hu ho
   have:=Qg h
   subst this
   have:lay cs 0 ds=ds:=by unfold lay;simp;omega
   rw [this]
   exact ⟨ry,by omega⟩
  .have r0:=r
   unfold ax at r
   have Dl:=ax.len _ r.1
   have bF:=ax.len _ r.2
   have au:cs.length=a.size+b.size:=by simpa [Ty.size] using hlen
   split at h
   .rename_i h1
    have ho:o < a.size:=Bf h1
    obtain ⟨z,g,h⟩:=ob h
    simp at h;subst h
    obtain ⟨g1,g2⟩:=XL u g r.1 ry
    have oq:=ax.len _ g1
    refine ⟨?_,by simp [Ty.size];omega⟩
    have e:lay cs o ds=lay (cs.take a.size) o ds++cs.drop a.size:=by
     unfold lay
     have e1:cs.take o=(cs.take a.size).take o:=by rw [List.take_take,Nat.min_eq_left (by omega)]
     have e2:cs.drop (o+ds.length)=(cs.take a.size).drop (o+ds.length)++cs.drop a.size:=by
      conv=>lhs;rw [<- List.take_append_drop a.size cs]
      rw [List.drop_append_of_le_length (by simp;omega)]
     rw [e2,<- e1];simp [List.append_assoc]
    rw [e]
    refine ax.gZ ?_ ?_
    .rw [List.take_append_of_le_length (by omega),Zs (by omega)];exact g1
    .rw [List.drop_append_of_le_length (by omega),List.drop_of_length_le (by omega)];simpa using r.2
   .rename_i h1
    have ho:¬ o < a.size:=by intro au;rw [JI au] at h1;simp at h1
    obtain ⟨z,g,h⟩:=ob h
    simp at h;subst h
    obtain ⟨g1,g2⟩:=XM u g r.2 ry
    have oq:=ax.len _ g1
    refine ⟨?_,by simp [Ty.size];omega⟩
    have e:lay cs o ds=cs.take a.size++lay (cs.drop a.size) (o - a.size) ds:=by
     unfold lay
     have e1:cs.take o=cs.take a.size++(cs.drop a.size).take (o - a.size):=by
      conv=>lhs;rw [<- List.take_append_drop a.size cs]
      rw [List.take_append,List.length_take,Nat.min_eq_left (by omega),Zs (by simp;omega)]
     have e2:(cs.drop a.size).drop (o - a.size+ds.length)=cs.drop (o+ds.length):=by
      rw [List.drop_drop];congr 1;omega
     rw [e1,e2];simp [List.append_assoc]
    rw [e]
    have hta:(cs.take a.size).length=a.size:=by simp;omega
    refine ax.gZ ?_ ?_
    .rw [List.take_append_of_le_length (by omega),Zs (by omega)];exact r.1
    .rw [List.drop_append_of_le_length (by omega),List.drop_of_length_le (by omega)];simpa using g1
 | int k =>
  intro u o x x' y cs ds h r ry
  unfold Bl at h;split at h
  .rename_i h1
   have ho:=Z7 h1;subst ho
   have e:=Qq h;subst e
   have:=Qg h;subst this
   have hlen:=ax.len _ r;have gB:=ax.len _ ry
   have:lay cs 0 ds=ds:=by unfold lay;simp;omega
   rw [this];exact ⟨ry,by omega⟩
  .simp at h
 | bool =>
  intro u o x x' y cs ds h r ry
  unfold Bl at h;split at h
  .rename_i h1
   have ho:=Z7 h1;subst ho
   have e:=Qq h;subst e
   have:=Qg h;subst this
   have hlen:=ax.len _ r;have gB:=ax.len _ ry
   have:lay cs 0 ds=ds:=by unfold lay;simp;omega
   rw [this];exact ⟨ry,by omega⟩
  .simp at h
 | str =>
  intro u o x x' y cs ds h r ry
  unfold Bl at h;split at h
  .rename_i h1
   have ho:=Z7 h1;subst ho
   have e:=Qq h;subst e
   have:=Qg h;subst this
   have hlen:=ax.len _ r;have gB:=ax.len _ ry
   have:lay cs 0 ds=ds:=by unfold lay;simp;omega
   rw [this];exact ⟨ry,by omega⟩
  .simp at h
 | sl t _ =>
  intro u o x x' y cs ds h r ry
  unfold Bl at h;split at h
  .rename_i h1
   have ho:=Z7 h1;subst ho
   have e:=Qq h;subst e
   have:=Qg h;subst this
   have hlen:=ax.len _ r;have gB:=ax.len _ ry
   have:lay cs 0 ds=ds:=by unfold lay;simp;omega
   rw [this];exact ⟨ry,by omega⟩
  .simp at h
 | os t _ =>
  intro u o x x' y cs ds h r ry
  unfold Bl at h;split at h
  .rename_i h1
   have ho:=Z7 h1;subst ho
   have e:=Qq h;subst e
   have:=Qg h;subst this
   have hlen:=ax.len _ r;have gB:=ax.len _ ry
   have:lay cs 0 ds=ds:=by unfold lay;simp;omega
   rw [this];exact ⟨ry,by omega⟩
  .simp at h
section view
variable {β:Type}
theorem Nj {s:S} {z:Value} {p:PV} {v:Value} (hr:AR s p v) (h:JM z p=true) (K:Value->Option β):vT z v K=K v:=by
 unfold JM at h
 split at h<;>try contradiction
 all_goals simp only [AR] at hr
 .obtain rfl:=hr;have:_=_:=of_decide_eq_true h;simp [vT,GR,this]
 .obtain rfl:=hr;rfl
 .obtain rfl:=hr;rfl
 .obtain rfl:=hr;rfl
 .have h':=hr
  simp only [cj] at h';unfold ax at h'
  rcases h' with ⟨_,e⟩ | ⟨_,_,_,e⟩ | ⟨_,_,_,e,_⟩<;>(simp at e;subst e;rfl)
 .obtain ⟨_,r⟩:=hr
  split at r
  .rw [r.2.2];rfl
  .rw [r.2];rfl
 .obtain ⟨_,r,_⟩:=hr
  rcases r with ⟨_,rfl⟩ | ⟨_,_,rfl⟩<;>rfl
 .obtain rfl:=hr;rfl
 .rename_i a _ _;obtain ⟨_,m,_,_,rfl⟩:=hr;cases a<;>rfl
 .rename_i a _ _ _;obtain ⟨_,m,_,rfl⟩:=hr;cases a<;>rfl
 .rename_i a _ _ _;obtain ⟨z,o,k,rfl,_⟩:=hr;cases a<;>rfl
 .rename_i a _ _ _ _;obtain ⟨_,⟨_,_,rfl⟩,_⟩:=hr;cases a<;>rfl
 .rename_i a _ _ _ _ _;obtain ⟨_,m,_,_,rfl⟩:=hr;cases a<;>rfl
 .obtain ⟨a',b',rfl,_⟩:=hr;rfl
 .obtain ⟨_,m,_,rfl⟩:=hr;rfl
theorem Qe2 {s:S}:∀ {zs:List Value} {ps:List PV} {vs:List Value},cm s ps vs->JN zs ps=true->∀ K:List Value->Option β,GS zs vs K=K vs
 | [],[],[],_,_,K=>rfl
 | z::zs,p::ps,v::vs,hr,h,K=>by
  simp only [JN,Z8] at h
  simp only [GS,zJ]
  rw [Nj (AR.of hr.1) h.1,Qe2 hr.2 h.2]
 | [],_::_,_,_,h,_=>by simp [JN] at h
 | _::_,[],_,_,h,_=>by simp [JN] at h
theorem Ef {s:S} {z:Value} {p:PV} {v:Value} (hr:AR s p v) (h:mW z p=true) (K:Value->Option β):vU z v K=K v:=by
 unfold mW at h
 split at h
 .obtain ⟨vs,rfl,r⟩:=hr
  simp only [vU,Lz]
  rw [Qe2 r h]
 .simp at h
 .rename_i hn _
  have:vU z v K=vT z v K:=by unfold vU;split<;>first | rfl | (rename_i cs;exact absurd rfl (hn _))
  rw [this];exact Nj hr h K
theorem Qe3 {s:S}:∀ {zs:List Value} {ps:List PV} {vs:List Value},Qw (AR s) ps vs->JO zs ps=true->∀ K:List Value->Option β,GV zs vs K=K vs
 | [],[],[],_,_,K=>rfl
 | z::zs,p::ps,v::vs,hr,h,K=>by
  simp only [JO,Z8] at h
  simp only [GV,zJ]
  rw [Ef hr.1 h.1,Qe3 hr.2 h.2]
 | [],_::_,_,_,h,_=>by simp [JO] at h
 | _::_,[],_,_,h,_=>by simp [JO] at h
theorem Qe4 {z:Value} {cs:List PV}:mW z (.ki cs)=false:=by
 unfold mW;split<;>first | rfl | contradiction | (unfold JM;split<;>first | rfl | contradiction)
theorem Qrm {s:S} {z:Value} {p:PV} {v:Value} (hr:ER s p v) (h:CJ z p=true) (K:Value->Option β):D7 z v K=K v:=by
 unfold CJ at h
 split at h
 .obtain ⟨vs,rfl,r⟩:=hr
  simp only [D7,LA]
  rw [Qe3 r h]
 .simp at h
 .rename_i hn _
  have:D7 z v K=vU z v K:=by unfold D7;split<;>first | rfl | (rename_i cs;exact absurd rfl (hn _))
  rw [this]
  have dD:AR s p v:=by
   cases p with
   | ki cs=>rw [Qe4] at h;simp at h
   | _=>exact hr
  exact Ef dD h K
end view
theorem Qrn {s:S} {p:PV} {v v':Value} (hr:AR s p v) (h:Nu p=some v'):v=v':=by
 unfold Nu at h
 split at h<;>simp at h<;>subst h<;>exact hr
theorem Qro {s:S}:∀ {ps:List PV} {vs cz:List Value},cm s ps vs->Nv ps=some cz->vs=cz
 | [],[],_,_,h=>by simp [Nv] at h;exact h.symm
 | p::ps,v::vs,_,hr,h=>by
  simp only [Nv] at h
  obtain ⟨x,h1,h⟩:=ob h
  obtain ⟨l,h2,h⟩:=ob h
  simp at h;subst h
  rw [Qrn (AR.of hr.1) h1,Qro hr.2 h2]
theorem Xl {s:S} {p:PV} {v v':Value} (hr:ER s p v) (h:sc p=some v'):v=v':=by
 unfold sc at h
 split at h
 .obtain ⟨l,h1,h⟩:=ob h
  simp at h;subst h
  obtain ⟨vs,rfl,r⟩:=hr
  rw [Qro r h1]
 .rename_i hn
  have dD:AR s p v:=by
   cases p with
   | ki cs=>simp [Nu] at h
   | _=>exact hr
  exact Qrn dD h
def CX:Value->Prop
 | .int _ _=>True
 | .bool _=>True
 | .string _=>True
 | _=>False
theorem Qrq {s:S} {v:Value} (h:CX v):ER s (XH v) v:=by
 cases v<;>first | exact absurd h id | rfl
theorem Qmf {β:Type} (P:Program) (op:BinOp) (t:TypeId) (v u:Value) (K:Value->Option β):zK P op t v u K=Q1 (zK P op t v u some) K:=by
 unfold zK
 split
 .split
  .unfold I6 aa;split<;>rfl
  .unfold I6 aa;split<;>rfl
  .split
   .unfold LC;split<;>first | rfl | (unfold aa;split<;>rfl)
   .rfl
 .unfold LD;split<;>first | rfl | (unfold aa;split<;>rfl)
 .split
  .unfold uO;split<;>rfl
  .rfl
 .split
  .rename_i h;cases rZ P 20 t _ _ with
   | none=>rfl
   | some r=>simp only [Q1];unfold uO;split<;>rfl
  .rfl
 .split
  .unfold uO;split<;>rfl
  .rfl
 .split
  .unfold uO;split<;>rfl
  .rfl
 .rfl
theorem Qrr {P:Program} {op:BinOp} {t:TypeId} {v u r:Value} (h:zK P op t v u some=some r):CX r:=by
 have e:∀ {op:BinOp} {b:Bool} {r:Value},uO op b some=some r->CX r:=by
  intro op b r h;unfold uO at h;split at h<;>simp at h<;>subst h<;>trivial
 have o:∀ {b:Bool} {x:Option Value} {r:Value},aa b none x=some r->x=some r:=by
  intro b x r h;unfold aa at h;split at h<;>simp_all
 unfold zK at h
 split at h
 .split at h
  .have:=o h;simp at this;subst this;trivial
  .have:=o h;simp at this;subst this;trivial
  .split at h
   .unfold LC at h;split at h<;>first | (simp at h;subst h;trivial) | (have:=o h;simp at this;subst this;trivial) | simp at h
   .simp at h
 .unfold LD at h
  split at h<;>first | (simp at h;subst h;trivial) | (unfold aa at h;split at h<;>simp at h;subst h;trivial) | simp at h
 .split at h
  .exact e h
  .simp at h
 .split at h
  .obtain ⟨b,_,h⟩:=ob h;exact e h
  .simp at h
 .split at h
  .exact e h
  .simp at h
 .split at h
  .exact e h
  .simp at h
 .simp at h
theorem NO {β:Type} (op:UnOp) (v:Value) (K:Value->Option β):vV op v K=Q1 (vV op v some) K:=by
 unfold vV;split<;>rfl
theorem Qu9 {op:UnOp} {v r:Value} (h:vV op v some=some r):CX r:=by
 unfold vV at h;split at h<;>simp at h<;>subst h<;>trivial
theorem PZ {P:Program} {n:Nat} {t:TypeId} {w:Ty} (h:ju P n t=some w):(∃ d a b,P.underlying t=some d/\((∃ fs,d=.struct fs)\/∃ k e,d=.array k e)/\w=.pair a b)\/(∃ d,P.underlying t=some d/\(∀ fs,d≠.struct fs)/\(∀ n e,d≠.array n e)/\∀ a b,w≠.pair a b):=by
 cases n with
 | zero=>simp [ju] at h
 | succ n =>
  unfold ju at h
  split at h
  .rename_i hu;simp at h;subst h;exact .inr ⟨_,hu,by simp,by simp,by simp⟩
  .rename_i hu;simp at h;subst h;exact .inr ⟨_,hu,by simp,by simp,by simp⟩
  .rename_i hu;simp at h;subst h;exact .inr ⟨_,hu,by simp,by simp,by simp⟩
  .rename_i hu
   replace h:=ob h;obtain ⟨u,_,h⟩:=h
   simp at h;subst h;exact .inr ⟨_,hu,by simp,by simp,by simp⟩
  .rename_i fs hu
   split at h
   .unfold qD at h
    replace h:=ob h;obtain ⟨a,_,h⟩:=h
    replace h:=ob h;obtain ⟨b,_,h⟩:=h
    simp at h;subst h;exact .inl ⟨_,a,b,hu,.inl ⟨_,rfl⟩,rfl⟩
   .simp at h
  .rename_i k e hu
   replace h:=ob h;obtain ⟨u,_,h⟩:=h
   split at h
   .rename_i hk
    simp only [Z8] at hk
    have zE:=Zi hk.1
    simp at h;subst h
    match k,zE with
    | k+2,_=>exact .inl ⟨_,u,EL (k+1) u,hu,.inr ⟨_,_,rfl⟩,rfl⟩
   .simp at h
  .simp at h
end Go.Pv
