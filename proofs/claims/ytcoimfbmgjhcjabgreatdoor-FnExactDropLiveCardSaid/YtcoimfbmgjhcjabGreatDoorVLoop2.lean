/-
  Calls: a call by value agrees with the call in the first interpreter. And what stood behind it in 4 texts.
  Conditions: said at the theorems.
-/
import Derived.Test.YtcoimfbmgjhcjabGreatDoorVCall2
set_option linter.all false
namespace Go.Pv
open Go.Ev
theorem J9 {s:S} {N:Nat->Prop} {H':af} {ai:Nat}:∀ {ps:List (PM×Ty)} {args:List PV} {ws:List Value} {aO:List (List Nat)} {vs:List TV} {L L':LS},fN ps args vs L=some L'->(Qp ps args).Nodup->Qx (ER s) args ws ->
  cV N H' ai (sY ps) vs (AH ps ws) aO->∀ c∈Qp ps args,∃ B',Qi L' c=some B' /\
   (∀ sA:S,sA.μ=s.μ->sA.H=H'->sA.L.ct=L.ct->sA.ai=ai->(∀ z,N z->sA.N z)->BR sA c B')/\∀ m,s.μ c=some m->m.z∈oV ps aO
 | [],[],[],aO,vs,L,L',h,hn,hr,hh,c,hc=>by simp [Qp] at hc
 | (m,t)::ps,p::args,w::ws,aO,vs,L,L',h,hn,hr,hh,c,hc=>by
  obtain ⟨ef,dU⟩:=hr
  cases m with
  | ro =>
   simp only [fN] at h
   have e:Qp ((.ro,t)::ps) (p::args)=Qp ps args:=by cases p<;>rfl
   rw [e] at hn hc
   exact J9 (ps:=ps) h hn dU hh c hc
  | cl g =>
   simp only [fN] at h
   have e:Qp ((.cl g,t)::ps) (p::args)=Qp ps args:=by cases p<;>rfl
   rw [e] at hn hc
   exact J9 (ps:=ps) h hn dU hh c hc
  | mv =>
   simp only [fN] at h
   have e:Qp ((.mv,t)::ps) (p::args)=Qp ps args:=by cases p<;>rfl
   rw [e] at hn hc
   exact J9 (ps:=ps) h hn dU hh c hc
  | io =>
   simp only [fN] at h
   split at h
   .rename_i b v cB
    replace h:=ob h;obtain ⟨L1,h1,h⟩:=h
    simp only [Qp] at hn hc
    obtain ⟨gr,gd⟩:=List.nodup_cons.1 hn
    obtain ⟨a1,a2,a3,a4⟩:=E9 h gd
    obtain ⟨n',u,xs,x,g1,rfl,rfl⟩:=Xb h1
    have bG:=Qn g1
    cases aO with
    | nil=>exact absurd hh id
    | cons ids aO =>
    simp only [sY,AH] at hh
    obtain ⟨sZ,vz⟩:=hh
    rcases Z2 hc with rfl | hc
    .have ef:cm s (.a_ c 0 none) w:=ef
     obtain ⟨_,ef⟩:=ef
     obtain ⟨u',x',e1,ho⟩:=sZ
     injection e1 with e1 e2
     injection e1 with e1
     subst e1
     simp only [heq_eq_eq] at e2
     subst e2
     refine ⟨_,by rw [a3 c gr,Qs bG],fun sA e1 e2 e3 e4 e5=>?_,fun m hm=>?_⟩
     .unfold BR;simp only
      cases hm:s.μ c with
      | none =>
       rw [hm] at ef;obtain ⟨_,_,rfl⟩:=ef
       rw [e1,hm];simp only
       rcases ho with ⟨_,hx,_⟩ | ⟨z,o,k,ks,_,_,e6,_⟩
       .exact hx
       .simp at e6
      | some m =>
       rw [hm] at ef;obtain ⟨g0,rfl⟩:=ef
       rw [e1,hm];simp only
       rcases ho with ⟨_,_,e6⟩ | ⟨z,o,k,ks,_,_,e6,q1,q2,q3,q4,q5,_⟩
       .simp at e6
       .simp only [Option.getD_none,Nat.zero_mul,Nat.add_zero,Nat.sub_zero] at e6
        injection e6 with e6 e7 e8
        injection e6 with e6;injection e6 with e6 e9
        subst e6 e9
        refine ⟨e8,e7,k,by rw [e2];exact q1,q4,fun i hi=>?_,fun _=>⟨q2,by rw [e4];exact q3⟩,fun e=>absurd e (by decide)⟩
        have:=q5.2 i hi
        have oy:=j4 (k:=u.size) hi
        unfold cw at this;rw [List.drop_take,List.take_take,Nat.min_eq_left (by omega),List.drop_drop] at this
        rw [e2];exact ax.mono e5 _ this
     .rw [hm] at ef;obtain ⟨g0,rfl⟩:=ef
      rcases ho with ⟨_,_,e6⟩ | ⟨z,o,k,ks,rfl,_,e6,_⟩
      .simp at e6
      .simp only [Option.getD_none,Nat.zero_mul,Nat.add_zero,Nat.sub_zero] at e6
       injection e6 with e6 e7 e8
       injection e6 with e6;injection e6 with e6 e9
       simp [oV,e6]
    .obtain ⟨B',b1,b2,b3⟩:=J9 h gd dU vz c hc
     refine ⟨B',b1,b2,fun m hm=>?_⟩
     simp only [oV,Zh];exact .inr (b3 m hm)
   .simp at h
  | ps =>
   simp only [fN] at h
   split at h
   .rename_i b off v cB
    replace h:=ob h;obtain ⟨L1,h1,h⟩:=h
    simp only [Qp] at hn hc
    obtain ⟨gr,gd⟩:=List.nodup_cons.1 hn
    obtain ⟨a1,a2,a3,a4⟩:=E9 h gd
    obtain ⟨n',cs,g1,g2,rfl⟩:=QL h1
    have bG:=Qn g1
    cases aO with
    | nil=>exact absurd hh id
    | cons ids aO =>
    simp only [sY,AH] at hh
    obtain ⟨sZ,vz⟩:=hh
    rcases Z2 hc with rfl | hc
    .have ef:cm s (.ptr c off) w:=ef
     obtain ⟨_,m,hm,dH,rfl⟩:=ef
     obtain ⟨z,k,j,rfl,e1,hk,bh,kB,cZ⟩:=sZ
     injection e1 with e1;injection e1 with e1;injection e1 with e1 e2
     subst e1
     refine ⟨_,by rw [a3 c gr,Qs bG],fun sA f1 f2 f3 f4 f5=>?_,fun m' aE=>?_⟩
     .unfold BR;simp only
      refine ⟨trivial,m,k,by rw [f1];exact hm,dH,by rw [f2];exact hk,?_,bh,by rw [f4];exact kB⟩
      rw [<- f3]
      refine AK _ ?_
      rw [f2]
      exact ax.mono (fun z hz=>S.gu (f5 z hz)) _ cZ.rep
     .rw [hm] at aE;injection aE with aE;subst aE
      simp [oV]
    .obtain ⟨B',b1,b2,b3⟩:=J9 h gd dU vz c hc
     refine ⟨B',b1,b2,fun m hm=>?_⟩
     simp only [oV,Zh];exact .inr (b3 m hm)
   .simp at h
 | [],_::_,_,_,_,_,_,h,_,_,_,_,_=>by simp [fN] at h
 | _::_,[],_,_,_,_,_,h,_,_,_,_,_=>by simp [fN] at h
theorem J_ {s:S} {N:Nat->Prop} {H':af} {ai:Nat} {sA:S} (f1:sA.μ=s.μ) (f2:sA.H=H') (f3:sA.L.bl.length=s.L.bl.length) (f4:∀ z,N z->sA.N z):∀ {ps:List (PM×Ty)} {args:List PV} {ws:List Value} {aO:List (List Nat)} {vs:List TV} {L L':LS},fN ps args vs L=some L'->Qx (ER s) args ws ->
  cV N H' ai (sY ps) vs (AH ps ws) aO->(∀ z∈(nx ps aO).flatten,sA.aF z)->vE sA ai (BE ps args vs) (nx ps aO)
 | [],[],[],aO,vs,L,L',h,hr,hh,hl=>by simp [BE,nx,vE]
 | (m,t)::ps,p::args,w::ws,aO,vs,L,L',h,hr,hh,hl=>by
  obtain ⟨ef,dU⟩:=hr
  cases m with
  | ro=>simp only [fN] at h;exact J_ (ps:=ps) f1 f2 f3 f4 h dU hh hl
  | cl g=>simp only [fN] at h;exact J_ (ps:=ps) f1 f2 f3 f4 h dU hh hl
  | mv=>simp only [fN] at h;exact J_ (ps:=ps) f1 f2 f3 f4 h dU hh hl
  | io =>
   simp only [fN] at h
   split at h
   .rename_i b v cB
    replace h:=ob h;obtain ⟨L1,h1,h⟩:=h
    cases aO with
    | nil=>exact absurd hh id
    | cons ids aO=>exact J_ (ps:=ps) f1 f2 f3 f4 h dU hh.2 hl
   .simp at h
  | ps =>
   simp only [fN] at h
   split at h
   .rename_i b off v cB
    replace h:=ob h;obtain ⟨L1,h1,h⟩:=h
    cases aO with
    | nil=>exact absurd hh id
    | cons ids aO =>
     obtain ⟨sZ,vz⟩:=hh
     have ef:cm s (.ptr b off) w:=ef
     obtain ⟨bG,m,hm,dH,rfl⟩:=ef
     obtain ⟨z,k,j,rfl,e1,hk,bh,kB,cZ⟩:=sZ
     injection e1 with e1;injection e1 with e1;injection e1 with e1 e2
     subst e1
     simp only [nx,List.drop_succ_cons,List.drop_zero,Ze] at hl
     exact ⟨⟨by rw [f3];exact bG,⟨m,k,by rw [f1];exact hm,dH,by rw [f2];exact hk,bh,kB,dz.frame (fun z hz _=>⟨f4 z hz,by rw [f2]⟩) _ cZ (fun z _=>by rw [f2])⟩,fun z hz=>hl z (List.mem_append.2 (.inl hz))⟩,J_ (ps:=ps) f1 f2 f3 f4 h dU vz (fun z hz=>hl z (List.mem_append.2 (.inr hz)))⟩
   .simp at h
 | [],_::_,_,_,_,_,_,h,_,_,_=>by simp [fN] at h
 | _::_,[],_,_,_,_,_,h,_,_,_=>by simp [fN] at h
theorem cV.Xd {N:Nat->Prop} {H:af} {ai:Nat}:∀ {ks:List Kd} {vs:List TV} {ws:List Value} {is:List (List Nat)},cV N H ai ks vs ws is->∀ z∈is.flatten,z < H.length
 | [],[],[],[],_=>by simp
 | _::_,_::_,_::_,_::_,h=>by
  intro z hz
  rw [Ze,Zh] at hz
  rcases hz with hz | hz
  .exact h.1.lt z hz
  .exact cV.Xd h.2 z hz
theorem TM.len {s:S} {ai:Nat}:∀ {ps:List (PM×Ty)} {args:List PV} {ws:List Value} {os:List (Option TV)} {an:List (List Nat)},TM s ai ps args ws os an->ps.length=an.length
 | [],[],[],[],[],_=>rfl
 | _::_,_::_,_::_,_::_,_::_,h=>by simp [TM.len h.2]
theorem kV.of {s:S}:∀ (ps:List (PM×Ty)) (args:List PV),(∀ b∈Qp ps args,∃ B,Qi s.L b=some B/\B.rw=true)->kV s ps args:=by
 intro ps
 induction ps with
 | nil=>intro args _;cases args<;>trivial
 | cons q ps ih =>
  intro args h
  obtain ⟨m,t⟩:=q
  cases args with
  | nil=>cases m<;>trivial
  | cons p args =>
   cases m with
   | ro =>
    have e1:Qp ((.ro,t)::ps) (p::args)=Qp ps args:=by cases p<;>rfl
    have e2:kV s ((.ro,t)::ps) (p::args)=kV s ps args:=by cases p<;>rfl
    rw [e1] at h;rw [e2];exact ih args h
   | cl g =>
    have e1:Qp ((.cl g,t)::ps) (p::args)=Qp ps args:=by cases p<;>rfl
    have e2:kV s ((.cl g,t)::ps) (p::args)=kV s ps args:=by cases p<;>rfl
    rw [e1] at h;rw [e2];exact ih args h
   | mv =>
    have e1:Qp ((.mv,t)::ps) (p::args)=Qp ps args:=by cases p<;>rfl
    have e2:kV s ((.mv,t)::ps) (p::args)=kV s ps args:=by cases p<;>rfl
    rw [e1] at h;rw [e2];exact ih args h
   | io =>
    by_cases hp:∃ b off n,p=.a_ b off n
    .obtain ⟨b,off,n,rfl⟩:=hp
     exact ⟨h b (by simp [Qp]),ih args (fun q hq=>h q (by simp [Qp,hq]))⟩
    .have e1:Qp ((.io,t)::ps) (p::args)=Qp ps args:=by cases p<;>first | rfl | exact absurd ⟨_,_,_,rfl⟩ hp
     have e2:kV s ((.io,t)::ps) (p::args)=kV s ps args:=by cases p<;>first | rfl | exact absurd ⟨_,_,_,rfl⟩ hp
     rw [e1] at h;rw [e2];exact ih args h
   | ps =>
    by_cases hp:∃ b off,p=.ptr b off
    .obtain ⟨b,off,rfl⟩:=hp
     exact ⟨h b (by simp [Qp]),ih args (fun q hq=>h q (by simp [Qp,hq]))⟩
    .have e1:Qp ((.ps,t)::ps) (p::args)=Qp ps args:=by cases p<;>first | rfl | exact absurd ⟨_,_,rfl⟩ hp
     have e2:kV s ((.ps,t)::ps) (p::args)=kV s ps args:=by cases p<;>first | rfl | exact absurd ⟨_,_,rfl⟩ hp
     rw [e1] at h;rw [e2];exact ih args h
theorem Qdq {s:S} (hs:aD s) {aQ:List Nat} {L3:LS} {H':af} {ids bt aO N:Nat->Prop} (Kn:Nat->Option (Nat×Nat))
  (f1:L3.bl.length=s.L.bl.length) (f2:L3.ct=s.L.ct) (f3:∀ c,c∉aQ->Qi L3 c=Qi s.L c) (f4:∀ c∈aQ,∃ B B',C7 s.L L3 c B B')
  (f5:∀ c∈aQ,∃ B',Qi L3 c=some B'/\(∀ sA:S,sA.μ=s.μ->sA.H=H'->sA.L.ct=s.L.ct->sA.ai=s.ai->sA.br=Kn->(∀ z,N z->sA.N z)->BR sA c B')/\∀ m,s.μ c=some m->aO m.z)
  (Ip:∀ z,ids z->s.aF z\/(∃ b B m,b∈aQ/\Qi s.L b=some B/\B.rw=true/\s.μ b=some m/\m.z=z)\/∃ p,s.br z=some p/\∀ B,Qi s.L p.1=some B->p.1∈aQ)
  (Xe:∀ z p,Kn z=some p->p.1 < s.L.bl.length/\z < H'.length/\(∃ k,ah H' z=some k)/\¬ bt z/\¬ (s.aF z/\¬ ids z)/\(∀ c C m,Qi L3 c=some C->s.μ c=some m->m.z≠z)/\(bM s z\/s.H.length<=z))
  (hKk:∀ z b i B,b∉aQ->Qi s.L b=some B->s.br z=some (b,i)->Kn z=some (b,i))
  (hlen:s.H.length<=H'.length) (rL:∀ z,z < s.H.length->¬ ids z->ah H' z=ah s.H z) (hnd:∀ z,bt z->¬ aO z) (ef:∀ z,bt z->ids z\/s.H.length<=z) (dU:∀ z,bt z->z < H'.length)
  (hN:∀ sA:S,(∀ z,bM sA z->(∃ b B m,Qi L3 b=some B/\B.rw=true/\s.μ b=some m/\m.z=z/\b∉aQ)\/(s.aF z/\¬ ids z)\/bt z\/aO z\/∃ p,Kn z=some p)->sA.eY=s.eY->∀ z,N z->sA.N z) :
  ∃ sA,sA.L=L3/\sA.H=H'/\sA.μ=s.μ/\aj s sA/\aD sA/\(∀ z,sA.aF z↔(s.aF z/\¬ ids z)\/bt z)/\∀ z,N z->sA.N z:=by
 have s_:∀ z,ids z->bM s z:=by
  intro z hz
  rcases Ip z hz with h | ⟨b,B,m,_,h1,h2,h3,h4⟩ | ⟨p,hp,_⟩
  .exact .inr (.inl h)
  .exact .inl ⟨b,B,m,h1,h2,h3,h4⟩
  .exact .inr (.inr ⟨p,hp⟩)
 let sA:S:={ s with L:=L3,H:=H',aF:=fun z=>(s.aF z/\¬ ids z)\/bt z,br:=Kn }
 have cls:∀ c C,Qi L3 c=some C->∃ C0,Qi s.L c=some C0/\C0.rw=C.rw/\C0.aB<=C.aB/\(c∉aQ->C0=C)/\(C0.aB=C.aB->c∉aQ):=by
  intro c C hC
  by_cases hc:c∈aQ
  .obtain ⟨B,B',b1,b2,b3,b4,b5⟩:=f4 c hc
   rw [hC] at b3;injection b3 with b3;subst b3
   exact ⟨B,b1,by rw [b2,b4],by omega,fun h=>absurd hc h,fun h=>by omega⟩
  .rw [f3 c hc] at hC;exact ⟨C,hC,rfl,Zd _,fun _=>rfl,fun _=>hc⟩
 have tc:∀ c C m,Qi s.L c=some C->s.μ c=some m->c∉aQ->¬ ids m.z:=by
  intro c C m h1 h2 h3 h4
  rcases Ip _ h4 with h | ⟨b,B,m',hb,h5,h6,h7,h8⟩ | ⟨p,hp,_⟩
  .exact hs.lm c C m h1 h2 h
  .have:=hs.inj b c B C m' m h5 h1 h6 h7 h2 h8
   subst this;exact h3 hb
  .exact (hs.kl _ p hp).2.2.2 c C m h1 h2 rfl
 have aY:∀ z,bM sA z->bM s z\/s.H.length<=z:=by
  rintro z (⟨b,B,m,h1,h2,h3,rfl⟩ | (⟨h1,_⟩ | h1) | ⟨p,h1⟩)
  .obtain ⟨C0,g1,g2,_⟩:=cls b B h1
   exact .inl (.inl ⟨b,C0,m,g1,by rw [g2];exact h2,h3,rfl⟩)
  .exact .inl (.inr (.inl h1))
  .rcases ef z h1 with h | h
   .exact .inl (s_ z h)
   .exact .inr h
  .exact (Xe z p h1).2.2.2.2.2.2
 have Nn:∀ z b i B,b∉aQ->Qi s.L b=some B->s.br z=some (b,i)->¬ ids z:=by
  intro z b i B hb hB hp hz
  obtain ⟨k1,k2,k3,k4⟩:=hs.kl z _ hp
  rcases Ip z hz with h | ⟨b,B,m,_,h1,h2,h3,h4⟩ | ⟨p,HB,hl⟩
  .exact k3 h
  .exact k4 b B m h1 h3 h4
  .rw [hp] at HB;injection HB with HB;subst HB;exact hb (hl B hB)
 have hkH:∀ z b i B,b∉aQ->Qi s.L b=some B->s.br z=some (b,i)->Kn z=some (b,i)/\ah H' z=ah s.H z:=fun z b i B hb hB hp=>⟨hKk z b i B hb hB hp,rL z (hs.kl z _ hp).1 (Nn z b i B hb hB hp)⟩
 have dB:∀ c C m,Qi s.L c=some C->s.μ c=some m->c∉aQ->ah H' m.z=ah s.H m.z:=fun c C m h1 h2 h3=>rL _ ((hs.aH c C h1).lt h2) (tc c C m h1 h2 h3)
 have hk:aj s sA:=by
  refine ⟨rfl,CK.same rfl f2,rfl,by rw [show sA.L=L3 from rfl,f1];exact Zd _,fun _ _=>rfl,hlen,fun z hz hn=>rL z hz (fun h=>hn (s_ z h)),aY,fun b B' hb iF=>?_⟩
  obtain ⟨C0,g1,g2,g3,g4,g5⟩:=cls b B' iF
  refine ⟨C0,g1,g3,fun e=>?_⟩
  have oU:=g5 e
  exact ⟨(g4 oU).symm,fun m hm=>dB b C0 m g1 hm oU,fun z i hz=>hkH z b i C0 oU g1 hz⟩
 have hNA:∀ z,N z->sA.N z:=by
  refine hN sA ?_ rfl
  rintro z (⟨b,B,m,h1,h2,h3,rfl⟩ | (h1 | h1) | h1)
  .by_cases hb:b∈aQ
   .obtain ⟨B',_,_,b3⟩:=f5 b hb
    exact .inr (.inr (.inr (.inl (b3 m h3))))
   .exact .inl ⟨b,B,m,h1,h2,h3,rfl,hb⟩
  .exact .inr (.inl h1)
  .exact .inr (.inr (.inl h1))
  .exact .inr (.inr (.inr (.inr h1)))
 refine ⟨sA,rfl,rfl,rfl,hk,⟨fun c C hC=>?_,fun b c C D m1 m2 h1 h2 h3 h4 h5 e=>?_,fun z hz=>⟨?_,fun ho=>?_⟩,?_,fun b C m h1 h2=>?_,fun z hl=>?_,fun z p hp=>?_,fun z p hp=>(Xe z p hp).2.2.1⟩,fun z=>Iff.rfl,hNA⟩
 rotate_right
 .obtain ⟨k1,k2,k3,k4,k5,k6,k7⟩:=Xe z p hp
  refine ⟨k2,by rw [show sA.L=L3 from rfl,f1];exact k1,?_,fun c C m g1 g2=>k6 c C m g1 g2⟩
  rintro (h1 | h1)
  .exact k5 h1
  .exact k4 h1
 .by_cases hc:c∈aQ
  .obtain ⟨B',b1,b2,_⟩:=f5 c hc
   have:some B'=some C:=by rw [<- b1];exact hC
   injection this with this;subst this
   exact b2 sA rfl rfl f2 rfl rfl hNA
  .have rB:Qi s.L c=some C:=by rw [<- f3 c hc];exact hC
   exact (hs.aH c C rB).keep hk (Qn rB) (fun m hm=>dB c C m rB hm hc) (fun z i hz=>hkH z c i C hc rB hz)
 .obtain ⟨C0,g1,g2,_⟩:=cls b C h1
  obtain ⟨D0,g3,_⟩:=cls c D h2
  exact hs.inj b c C0 D0 m1 m2 g1 g3 (by rw [g2];exact h3) h4 h5 e
 .exact Zm (hs.dj z hz).1 hlen
 .rcases aY z ho with h | h
  .exact (hs.dj z hz).2 h
  .have:=(hs.dj z hz).1;omega
 .exact Nat.le_trans hs.dX hlen
 .obtain ⟨C0,g1,g2,g3,g4,g5⟩:=cls b C h1
  rintro (⟨h5,_⟩ | h5)
  .exact hs.lm b C0 m g1 h2 h5
  .by_cases hb:b∈aQ
   .obtain ⟨B',_,_,b3⟩:=f5 b hb
    exact hnd _ h5 (b3 m h2)
   .rcases ef _ h5 with h6 | h6
    .exact tc b C0 m g1 h2 hb h6
    .have:=(hs.aH b C0 g1).lt h2;omega
 .rcases hl with ⟨h1,_⟩ | h1
  .exact Zm (hs.iR z h1) hlen
  .exact dU z h1
theorem Qil:∀ {rs:List (Bool×Ty)} {vs:List TV} {ws:List Value} {bt:List (List Nat)} {s:S} {BF:List PV} {L':LS},aD s->cV s.N s.H s.ai (rs.map fun q=>AF q.1) vs ws bt->(∀ z∈bt.flatten,s.aF z)->bt.flatten.Nodup->Iq rs vs s.L=some (BF,L') ->
  ∃ s',s'.L=L'/\s'.H=s.H/\aj s s'/\aD s'/\Qx (AR s') BF ws
 | [],[],[],[],s,BF,L',hs,_,_,_,h=>by
  simp [Iq] at h;obtain ⟨rfl,rfl⟩:=h
  exact ⟨s,rfl,rfl,aj.refl s,hs,trivial⟩
 | (o,t)::rs,v::vs,w::ws,ids::bt,s,BF,L',hs,hh,hl,hn,h=>by
  obtain ⟨sZ,vz⟩:=hh
  rw [Ze,Zn] at hn
  obtain ⟨gr,gd,td⟩:=hn
  simp only [Iq] at h
  have next:∀ (s1:S) (pv:PV),aj s s1->aD s1->s1.H=s.H->(∀ z,s.N z->s1.N z)->(∀ z∈bt.flatten,s1.aF z)->AR s1 pv w->(Q1 (Iq rs vs s1.L) fun r=>some (pv::r.1,r.2))=some (BF,L') ->
    ∃ s',s'.L=L'/\s'.H=s.H/\aj s s'/\aD s'/\Qx (AR s') BF (w::ws):=by
   clear h
   intro s1 pv k1 t1 g1 n1 l1 ha h
   replace h:=ob h;obtain ⟨⟨aag,L3⟩,h2,h⟩:=h
   simp at h;obtain ⟨rfl,rfl⟩:=h
   have Ir:cV s1.N s1.H s1.ai (rs.map fun q=>AF q.1) vs ws bt:=by
    rw [k1.ai];exact vz.frame (fun z hz _=>⟨n1 z hz,by rw [g1]⟩) (fun z _=>by rw [g1])
   obtain ⟨s2,a1,a2,a3,a4,a5⟩:=Qil t1 Ir l1 gd h2
   exact ⟨s2,a1,a2.trans g1,k1.trans a3,a4,a3.AR ha,a5⟩
  have fP:∀ z∈bt.flatten,s.aF z:=fun z hz=>hl z (by rw [Ze,Zh];exact .inr hz)
  cases o with
  | false =>
   obtain ⟨cs,hv,cZ⟩:=sZ
   obtain ⟨ty,x⟩:=v
   simp only [J'] at h
   obtain ⟨s1,a1,a2,a3,a4,a5,a6,a7⟩:=Ng ty hs cZ (fun z hz=>hl z (by rw [Ze,Zh];exact .inl hz)) gr
   rw [<- a1] at h
   exact next s1 _ a3 a4 a2 a6 (fun z hz=>a7 z (fP z hz) (fun hm=>td z hm z hz rfl)) (Qii hv a5) h
  | true =>
   obtain ⟨u,x,rfl,ho⟩:=sZ
   simp only [J'] at h
   obtain ⟨s1,e1,e2,k1,t1,a1,n1,l1⟩:=Nf hs ho (fun z hz=>hl z (by rw [Ze,Zh];exact .inl hz))
   rw [<- e1] at h
   exact next s1 _ k1 t1 e2 n1 (fun z hz=>l1 z (fP z hz) (fun hm=>td z hm z hz rfl)) (AR.of a1) h
theorem Qqu:∀ (ts:List Ty) (a:jF ts),(fu ts a).map (·.1)=ts
 | [],_=>rfl
 | [t],x=>rfl
 | t::u::r,x=>by simp only [fu,List.map_cons];rw [Qqu (u::r) x.2]
theorem cV.flat {N M:Nat->Prop} {H:af} {ai:Nat}:∀ {ks:List Kd} {vs:List TV} {ws:List Value} {is:List (List Nat)} {ts:List Ty},cV N H ai ks vs ws is->vs.map (·.1)=ts->Qx (fun k t=>E6 k t=true) ks ts->cV M H ai ks vs ws is
 | [],[],[],[],_,_,_,_=>trivial
 | k::ks,v::vs,w::ws,i::is,ts,h,e,hf=>by
  match ts,hf with
  | t::ts,hf =>
   simp only [List.map_cons,List.cons.injEq] at e
   exact ⟨h.1.flat (by rw [e.1];exact hf.1),cV.flat h.2 e.2 hf.2⟩
theorem Qnw {rs:List (Bool×Ty)} (h:(rs.any fun r=>match r with | (true,.sl t) => !(t.flat || t.jK) | (_,t) => !t.jL)=false):Qx (fun k t=>E6 k t=true) (rs.map fun q=>AF q.1) (rs.map fun q=>q.2):=by
 induction rs with
 | nil=>trivial
 | cons r rs ih =>
  simp only [List.any_cons,Bool.or_eq_false_iff] at h
  refine ⟨?_,ih h.2⟩
  obtain ⟨o,t⟩:=r
  have h1:=h.1
  cases o with
  | false=>simpa [AF,E6] using h1
  | true =>
   cases t with
   | sl u =>
    show (u.flat || u.jK)=true
    cases hb:(u.flat || u.jK) with
    | true=>rfl
    | false=>simp only [hb,Bool.not_false] at h1;exact absurd h1 (by decide)
   | _=>rfl
theorem Qqv {ps:List (PM×Ty)} (h:(ps.any fun p=>match p with | (.ps,t) => !t.jL | (.io,.sl t) => !t.flat | (.mv,.sl t) => !(t.flat || t.jK) | _=>false)=false):Qx (fun k t=>E6 k t=true) (sY ps) (Is ps):=by
 induction ps with
 | nil=>trivial
 | cons p ps ih =>
  simp only [List.any_cons,Bool.or_eq_false_iff] at h
  obtain ⟨m,t⟩:=p
  have h1:=h.1
  cases m with
  | ro=>exact ih h.2
  | cl g=>exact ih h.2
  | mv=>exact ih h.2
  | io =>
   refine ⟨?_,ih h.2⟩
   cases t with
   | sl u =>
    have h1:(!u.flat)=false:=h1
    show (u.flat || u.jK)=true
    cases hb:u.flat with
    | true=>rfl
    | false=>rw [hb] at h1;exact absurd h1 (by decide)
   | _=>rfl
  | ps=>exact ⟨by simpa [E6] using h1,ih h.2⟩
theorem Qim {s:S} {ps:List PV} {ws:List Value} (h:Qx (AR s) ps ws):ER s (It ps) (iP ws):=by
 match ps,ws,h with
 | [p],[w],h=>exact ER.of h.1
 | [],[],h=>exact ⟨[],rfl,trivial⟩
 | p::q::ps,w::x::ws,h=>exact ⟨w::x::ws,rfl,h⟩
section
variable {A:cM} {β γ:Type} {s:S} {KV:PV->LS->Option β} {KE:Value->af->Option γ} {r:β} {Q:γ->Prop}
theorem Xf {sig:nT} {call:jF sig.eL->Option (jF sig.cX)} {bX:List Value->Nat->af->Option (Value×af)} (hF:wX sig call bX s.ai) (hs:aD s) {args:List PV} {ws:List Value} (hr:Qx (ER s) args ws) (hK:eJ s r KV KE Q)
  (h:(Q1 (kC sig.params args [] s.L) fun m=>Q1 (AN sig.al m.2.1 sig.params args m.1 m.2.2) fun q=>Q1 (nj sig.eL q.1) fun a=>Q1 (call a) fun y =>
   Q1 (fN sig.params args ((fu sig.cX y).drop sig.results.length) q.2) fun L0=>Q1 (Im (BE sig.params args ((fu sig.cX y).drop sig.results.length)) L0) fun L'=>Q1 (Iq sig.results ((fu sig.cX y).take sig.results.length) L') fun q=>KV (It q.1) q.2)=some r) :
  ∃ y,(Q1 (bX ws s.ai s.H) fun q=>KE q.1 q.2)=some y/\Q y:=by
 replace h:=ob h;obtain ⟨⟨os,aQ,L1⟩,h1,h⟩:=h
 replace h:=ob h;obtain ⟨⟨ja,L2⟩,h2,h⟩:=h
 replace h:=ob h;obtain ⟨a,h3,h⟩:=h
 replace h:=ob h;obtain ⟨y,h4,h⟩:=h
 replace h:=ob h;obtain ⟨L3,h5,h⟩:=h
 replace h:=ob h;obtain ⟨L3b,Xg,h⟩:=h
 replace h:=ob h;obtain ⟨⟨BF,L4⟩,h6,h⟩:=h
 simp only at h2 h3 h5 Xg h6 h
 obtain ⟨s1,an,l1,g1,u1,k1,t1,o1,m1,tm1,aah,C6⟩:=J3 hs hr h1
 rw [<- l1] at h2
 obtain ⟨s2,l2,g2,u2,k2,t2,o2,QN,sm2,tr2⟩:=QJ t1 (Qx.mono (fun _ _=>k1.ER) hr) h2
 rw [<- l2] at h5
 obtain ⟨ln1,ln2,ln3⟩:=J7 h1
 have E_:∀ b,b∈aQ↔b∈Qp sig.params args:=fun b=>by rw [ln3];simp
 obtain ⟨f1,f2,f3,f4⟩:=E9 h5 ln1
 have hu:s2.μ=s.μ:=u2.trans u1
 have cP:kV s2 sig.params args:=kV.of _ _ (fun b hb=>by
  obtain ⟨B,B',b1,b2,_⟩:=f4 b hb;exact ⟨B,b1,b2⟩)
 obtain ⟨nd,No⟩:=C6 s2 k2 (fun z hz=>by rw [QN];exact hz) t2 hu cP
 have AM:TM s2 s.ai sig.params args ws os an:=tm1.keep k2 g2 u2 (fun z hz=>by rw [QN];exact hz)
 have AP:∀ z∈an.flatten,bM s2 z:=by
  intro z hz
  rcases No z hz with ⟨h,_⟩ | ⟨b,B,m,_,_,q1,q2,q3,q4⟩
  .exact .inr (.inl h)
  .exact .inl ⟨b,B,m,q1,q2,q3,q4⟩
 have Nj:s2.H=s.H:=g2.trans g1
 have kD:s2.eY=s.eY:=(k1.trans k2).dj
 have kW:s2.ai=s.ai:=(k1.trans k2).ai
 let eY:Nat->Prop:=fun z=>sig.al=true/\((bM s2 z/\z∉an.flatten)\/s.eY z)
 have hC1:∀ z,s2.N z->z∉an.flatten/\¬ eY z:=by
  intro z hz
  refine ⟨fun h=>hz.1 (AP z h),?_⟩
  rintro ⟨_,⟨h,_⟩ | h⟩
  .exact hz.1 h
  .exact hz.2 (by rw [kD];exact h)
 have hC2:sig.al=false->∀ b m B,b∉aQ->Qi s2.L b=some B->s2.μ b=some m->m.z∉an.flatten/\¬ eY m.z:=by
  intro jN b m B hb hB hm
  refine ⟨fun h=>?_,fun h=>absurd (jN.symm.trans h.1) (by decide)⟩
  rcases No _ h with ⟨h,_⟩ | ⟨b',B',m',_,gX,q1,q2,q3,q4⟩
  .exact t2.lm b B m hB hm h
  .have:=t2.inj b' b B' B m' m q1 hB q2 q3 hm q4
   subst this;exact hb gX
 have ni:∀ z p,s2.br z=some p->z∉an.flatten:=by
  intro z p hp h
  obtain ⟨k1,k2,k3,k4⟩:=t2.kl z p hp
  rcases No z h with ⟨h,_⟩ | ⟨b',B',m',_,gX,q1,q2,q3,q4⟩
  .exact k3 h
  .exact k4 b' B' m' q1 q3 q4
 have hC3:sig.al=false->∀ z b i,b∉aQ->s2.br z=some (b,i)->z∉an.flatten/\¬ eY z:=by
  intro jN z b i _ hz
  exact ⟨ni z _ hz,fun h=>absurd (jN.symm.trans h.1) (by decide)⟩
 have hand:=Qvr hC1 hC2 hC3 AM tr2
 have Ka:=Nc sig.eL h3
 rw [<- Ka] at hand
 obtain ⟨v,H',ru,bt,aO,c1,rfl,c3,c4,c5,c6,c7,c8,c9⟩:=hF a y h4 s2.H eY ws an (by
   rintro z ⟨_,⟨h,_⟩ | h⟩
   .exact t2.AO h
   .exact (t2.dj z (by rw [kD];exact h)).1) (by rw [Nj];exact hs.dX) nd (by
   rintro z hz ⟨_,⟨_,h⟩ | h⟩
   .exact h hz
   .exact (t2.dj z (by rw [kD];exact h)).2 (AP z hz)) hand
 rw [Nj] at c1
 rw [c1];simp only [Q1]
 have dU:Qx (ER s2) args ws:=Qx.mono (fun _ _=>(k1.trans k2).ER) hr
 have cJ:sig.al=false->Qx (fun k t=>E6 k t=true) (sig.results.map fun q=>AF q.1) (sig.results.map fun q=>q.2)/\Qx (fun k t=>E6 k t=true) (sY sig.params) (Is sig.params):=by
  intro jN
  unfold nT.al at jN
  simp only [Bool.or_eq_false_iff] at jN
  exact ⟨Qnw jN.1,Qqv jN.2⟩
 let N':Nat->Prop:=fun z=>z∉bt.flatten++aO.flatten/\¬ eY z
 have Np:=Qqu sig.cX y
 have Xh:∀ M:Nat->Prop,(sig.al=true->∀ z,N' z->M z)->cV M H' s.ai (sig.results.map fun q=>AF q.1) ((fu sig.cX y).take sig.results.length) ru bt:=by
  intro M hM
  cases jN:sig.al with
  | true=>exact c8.frame (fun z hz _=>⟨hM jN z hz,rfl⟩) (fun _ _=>rfl)
  | false =>
   refine c8.flat (ts:=sig.results.map fun q=>q.2) ?_ (cJ jN).1
   rw [List.map_take,Np];unfold nT.cX
   rw [List.take_append_of_le_length (by simp),Zs (by simp)]
 have hou:∀ M:Nat->Prop,(sig.al=true->∀ z,N' z->M z)->cV M H' s.ai (sY sig.params) ((fu sig.cX y).drop sig.results.length) (AH sig.params ws) aO:=by
  intro M hM
  cases jN:sig.al with
  | true=>exact c9.frame (fun z hz _=>⟨hM jN z hz,rfl⟩) (fun _ _=>rfl)
  | false =>
   refine c9.flat (ts:=Is sig.params) ?_ (cJ jN).2
   rw [List.map_drop,Np];unfold nT.cX
   rw [List.drop_append_of_le_length (by simp),List.drop_of_length_le (by simp)];simp
 let N2:Nat->Prop:=fun z=>sig.al=true/\N' z
 have Xi:∀ z,False->N2 z:=fun _ h=>h.elim
 have BU:=Xh N2 (fun jN z hz=>⟨jN,hz⟩)
 have QO:=hou N2 (fun jN z hz=>⟨jN,hz⟩)
 rw [Zn] at c5
 obtain ⟨Kb,ht2⟩:=J8 QO
 obtain ⟨Xj,ht4⟩:=ht2 c5.2.1
 have kA:∀ z,(z∈bt.flatten\/z∈(nx sig.params aO).flatten)->z∈bt.flatten++aO.flatten:=by
  rintro z (h | h)
  .exact List.mem_append.2 (.inl h)
  .exact List.mem_append.2 (.inr ((Kb z).2 (.inr h)))
 obtain ⟨sA,e1,e2,e3,k3,t3,Nq,n3⟩:=Qdq (Kn:=s2.br) (N:=N2) (ids:=fun z=>z∈an.flatten) (bt:=fun z=>z∈bt.flatten\/z∈(nx sig.params aO).flatten) (aO:=fun z=>z∈oV sig.params aO) t2 f1 f2 f3 f4 (fun c hc=>by
   obtain ⟨B',b1,b2,b3⟩:=J9 h5 ln1 dU QO c hc
   exact ⟨B',b1,fun sA q1 q2 q3 q4 _ q5=>b2 sA q1 q2 q3 (by rw [q4,kW]) q5,b3⟩) (fun z hz=>by
   rcases No z hz with ⟨h,_⟩ | ⟨b,B,m,_,hb,q1,q2,q3,q4⟩
   .exact .inl h
   .exact .inr (.inl ⟨b,B,m,(E_ b).1 hb,q1,q2,q3,q4⟩)) (fun z p hp=>by
   obtain ⟨QS,k2',Xk,Nr⟩:=t2.kl z p hp
   have Ns:=ni z p hp
   refine ⟨k2',Zm QS c3,by rw [c4 z QS Ns];exact t2.ka z p hp,fun hz=>?_,fun h=>Xk h.1,fun c C m g1 g2=>?_,.inl (.inr (.inr ⟨p,hp⟩))⟩
   .rcases c6 z (kA z hz) with h | h
    .exact Ns h
    .omega
   .by_cases hc:c∈Qp sig.params args
    .obtain ⟨B,B',b1,_⟩:=f4 c hc
     exact Nr c B m b1 g2
    .rw [f3 c hc] at g1;exact Nr c C m g1 g2) (fun z b i B _ _ hp=>hp) c3 c4 (fun z hz aX=>by
   rcases hz with hz | hz
   .exact c5.2.2 z hz z ((Kb z).2 (.inl aX)) rfl
   .exact ht4 z aX hz) (fun z hz=>c6 z (kA z hz)) (fun z hz=>by
   rcases hz with hz | hz
   .exact BU.Xd z hz
   .exact QO.Xd z ((Kb z).2 (.inr hz))) (fun sA ho hb z hz=>by
   obtain ⟨jN,DL,jk⟩:=hz
   simp only [Zh,not_or] at DL
   refine ⟨fun aY=>?_,fun Fa=>jk ⟨jN,.inr (by rw [hb,kD] at Fa;exact Fa)⟩⟩
   rcases ho z aY with ⟨b,B,m,q1,q2,q3,q4,q5⟩ | ⟨q1,q2⟩ | q1 | q1 | ⟨p,q1⟩
   rotate_right
   .exact jk ⟨jN,.inl ⟨.inr (.inr ⟨p,q1⟩),ni z p q1⟩⟩
   .rw [f3 b q5] at q1
    refine jk ⟨jN,.inl ⟨.inl ⟨b,B,m,q1,q2,q3,q4⟩,fun h=>?_⟩⟩
    rcases No z h with ⟨h,_⟩ | ⟨b',B',m',_,gX,p1,p2,p3,p4⟩
    .exact t2.lm b B m q1 q3 (q4▸h)
    .have:=t2.inj b' b B' B m' m p1 q1 p2 p3 q3 (p4.trans q4.symm)
     subst this;exact q5 ((E_ _).1 gX)
   .exact jk ⟨jN,.inl ⟨.inr (.inl q1),q2⟩⟩
   .rcases q1 with q1 | q1
    .exact DL.1 q1
    .exact DL.2 ((Kb z).2 (.inr q1))
   .exact DL.2 ((Kb z).2 (.inl q1)))
 have Fb:sA.ai=s.ai:=k3.ai.trans kW
 have Xl:vE sA sA.ai (BE sig.params args ((fu sig.cX y).drop sig.results.length)) (nx sig.params aO):=by
  rw [Fb]
  exact J_ (s:=s2) e3 e2 (by rw [e1,f1]) n3 h5 dU QO (fun z hz=>(Nq z).2 (.inr (.inr hz)))
 rw [<- e1] at Xg
 obtain ⟨sB,b1,b2,b3,b4,b5,b6⟩:=Xc t3 Xl (fun z hz=>(Nq z).2 (.inr (.inr hz))) Xj Xg
 rw [<- b1] at h6
 have Nt:sB.ai=s.ai:=b3.ai.trans Fb
 have hRA:cV sB.N sB.H sB.ai (sig.results.map fun q=>AF q.1) ((fu sig.cX y).take sig.results.length) ru bt:=by
  rw [Nt,b2,e2];exact BU.frame (fun z hz _=>⟨b5 z (n3 z hz),rfl⟩) (fun _ _=>rfl)
 obtain ⟨s4,q1,q2,q3,q4,q5⟩:=Qil b4 hRA (fun z hz=>b6 z ((Nq z).2 (.inr (.inl hz))) (fun h=>c5.2.2 z hz z ((Kb z).2 (.inr h)) rfl)) c5.1 h6
 rw [<- q1] at h
 have:=hK (It BF) (iP ru) s4 ((((k1.trans k2).trans k3).trans b3).trans q3) q4 (Qim q5) h
 rw [q2,b2,e2] at this;exact this
end
structure C_ {A:cM} {β:Type} (X:nq A β) (XE:Cx):Prop where
 P:X.P=XE.P
 nt:X.nt=XE.nt
 cT:X.fh=XE.cT
 fuel:XE.fuel=A.fuel
 call:∀ f,A.inline f=false->wX (A.sig f) (X.call f) (XE.call f) XE.ai
 inl:∀ f,A.inline f=true->∀ {γ:Type} {args:List PV} {ws:List Value} {s:S} {KV:PV->LS->Option β} {KE:Value->af->Option γ} {r:β} {Q:γ->Prop},aD s->s.ai=XE.ai->Qx (ER s) args ws->eJ s r KV KE Q->X.inl f args s.L KV=some r ->
  ∃ y,(Q1 (XE.call f ws XE.ai s.H) fun q=>KE q.1 q.2)=some y/\Q y
theorem cq.ers {s:S} {ps:List PV} {vs:List Value} (h:cq s ps vs):Qx (ER s) ps vs:=Qx.mono (fun _ _=>ER.fq) h
section
variable {A:cM} {β γ:Type} {s:S} {env:bA} {e:Env} {X:nq A β} {XE:Cx} {o:Oper} {r:β} {Q:γ->Prop}
theorem Qin {H:af} {z:Nat} {k:bz} (h:ah H z=some k):H.set z (some k)=H:=by
 unfold ah at h
 split at h
 .rename_i k' hk
  injection h with h;subst h
  obtain ⟨au,e⟩:=Z0 hk
  rw [<- e];exact List.set_getElem_self au
 .simp at h
theorem Qtw {c:List Value} {j:Nat} {v:Value} (h:c[j]? = some v):lay c j [v]=c:=by
 have au:=(Z0 h).1
 apply List.ext_getElem?;intro i
 rw [QB _ _ _ au]
 split
 .rename_i e;subst e;exact h.symm
 .rfl
theorem Qtx {f:FuncId} {b i aB:Nat} {w:Ty} {x:List w.T} {rest:List PV} {wv:Value} {ws:List Value} {bX:List Value->Nat->af->Option (Value×af)} {KV:PV->LS->Option β} {KE:Value->af->Option γ} (hs:aD s) (ef:cm s (.rw b i aB w x) wv) (dU:Qx (ER s) rest ws) (cJ:w.flat=true)
  (hK:eJ s r KV KE Q) (hF:wX (A.sig f) (X.call f) bX s.ai) (h:(Xm b i aB w x s.L fun L2 n=>Iu X f (.a_ n 0 none::rest) L2 fun u L3=>QT b i (aB+1) w n L3 fun L4=>KV u L4)=some r) :
  ∃ y,(Q1 (bX (wv::ws) s.ai s.H) fun q=>KE q.1 q.2)=some y/\Q y:=by
 unfold Xm at h
 split at h
 .rename_i v0 t xs hb
  replace h:=ob h;obtain ⟨y,hy,h⟩:=h
  unfold aa at h;split at h
  .rename_i hlen
   have hlen:=Z7 hlen
   replace h:=ob h;obtain ⟨⟨x1,L1⟩,ht,h⟩:=h
   simp only at h
   obtain ⟨s1,ids,l1,g1,u1,k1,t1,ho,kB,oU,hnd,aY⟩:=Qih hs ef ht
   have q_:oT s1.N s1.H s1.ai w x1 wv ids:=by rw [k1.ai];exact ho
   obtain ⟨s2,l2,g2,k2,t2,q2,n2,m2⟩:=Nf t1 q_ (fun z hz=>(kB z).2 (.inr hz))
   have eE:∀ t,w=.os t->t.flat=false:=fun t e=>by subst e;simp [Ty.flat] at cJ
   rw [Qij x1 eE] at l2
   obtain ⟨QU,hL1⟩:v0=aB/\L1=cU s.L b ⟨v0+1,true,.rows t xs (some i)⟩:=by
    unfold rj at ht
    simp only [hb] at ht
    split at ht
    .rename_i hv
     replace ht:=ob ht;obtain ⟨z,_,ht⟩:=ht
     simp at ht
     exact ⟨Z7 hv,ht.2.symm⟩
    .simp at ht
   subst QU
   obtain ⟨bG,_,hval⟩:cm s (.rw b i v0 w x) wv:=ef
   obtain ⟨_,_,hwh⟩:=(hval _ hb).2 rfl
   have gz:Qi L1 b=some ⟨v0+1,true,.rows t xs (some i)⟩:=by rw [hL1];exact Qs bG
   have sM:Qi s2.L b=some ⟨v0+1,true,.rows t xs (some i)⟩:=by
    rw [l2,Qz (by rw [l1];exact Qn gz),l1];exact gz
   have k12:=k1.trans k2
   rw [l1] at l2 q2
   rw [<- l2] at h
   obtain ⟨hj,ej⟩:=Z0 hy
   obtain ⟨_,hft,⟨_,hx0⟩ | ⟨m,k,hm,a1,a2,a3,a4,a5,a6,a7⟩⟩:=mT hs hb
   .rw [hx0] at hj;simp at hj
   have bF:=(hwh _ _ _ _ m k hb rfl hm a3 y hy).2 hlen
   have fP:s2.ai=s.ai:=k12.ai
   have hH2:s2.H=s.H:=g2.trans g1
   unfold Iu at h
   have main:=Xf (s:=s2) (KE:=KE) (Q:=Q) (sig:=A.sig f) (call:=X.call f) (bX:=bX) (by rw [fP];exact hF) t2 (args:=.a_ L1.bl.length 0 none::rest) (ws:=wv::ws) ⟨ER.fq q2,Qx.mono (fun _ _=>k12.ER) dU⟩ (KV:=fun u L3=>QT b i (v0+1) w L1.bl.length L3 fun L4=>KV u L4) (r:=r) (by
    intro pv v s3 k3 t3 r3 h3
    simp only at h3
    unfold QT at h3
    replace h3:=ob h3;obtain ⟨⟨x2,L4⟩,Xj,h3⟩:=h3
    have q3:cm s3 (.a_ L1.bl.length 0 none) wv:=k3.cm q2
    obtain ⟨s4,l4,g4,u4,k4,t4,rc,lm4,_,_⟩:=WN t3 cJ q3 Xj
    simp only at h3
    rw [<- l4] at h3
    split at h3
    .rename_i v' e xs' h' hb4
     split at h3
     .rename_i Xn
      have Xn:=Z7 Xn
      subst Xn
      replace h3:=ob h3;obtain ⟨z,hz,h3⟩:=h3
      have Xo:=k3.trans k4
      obtain ⟨B0,e1,e2,e3⟩:=Xo.live b _ (Qn sM) hb4
      rw [sM] at e1;injection e1 with e1;subst e1
      obtain ⟨eB,eh,_⟩:=e3 rfl
      injection eB with _ _ eB
      injection eB with eB1 Xp eB3
      subst eB1
      replace Xp:=eq_of_heq Xp
      subst Xp eB3
      have ew:=Qr hz
      injection ew with ew;subst ew
      have:=Qg hz;subst this
      have vF:s2.μ b=some m:=by rw [k12.mu b (Qn hb)];exact hm
      have hm4:s4.μ b=some m:=by rw [Xo.mu b (Qn sM)];exact vF
      have hk4:ah s4.H m.z=some k:=by rw [eh m vF,hH2];exact a3
      have hp:Qa wv wv=true:=by
       rcases rc with ⟨_,e⟩ | ⟨_,_,_,e,_⟩<;>rw [e]<;>simp [Qa]
      obtain ⟨s5,l5,g5,k5,t5,_⟩:=Xq t4 hb4 hm4 hk4 hj (.inr rfl) (y:=x2) (v:=wv) (by
       rw [k4.ai];exact rc.mono cJ (fun z hz=>⟨.inl hz.1,by rw [g4]⟩)) hp
      have hkk:(⟨lay k.cells (m.sh+i) [wv],false,k.mp⟩:bz)=k:=by
       rw [Qtw bF]
       obtain ⟨kc,kr,km⟩:=k
       simp only at a5;rw [a5]
      rw [hkk,Qin hk4,g4] at g5
      have:=hK pv v s5 (k12.trans (Xo.trans k5)) t5 ((k4.trans k5).ER r3) (by rw [l5];exact h3)
      rw [g5] at this;exact this
     .simp at h3
    .simp at h3) h
   rw [fP,hH2] at main
   exact main
  .simp at h
 .simp at h
theorem Qnx {f:FuncId} {args:List PV} {ws:List Value} {bX:List Value->Nat->af->Option (Value×af)} {KV:PV->LS->Option β} {KE:Value->af->Option γ} (hs:aD s) (hr:Qx (ER s) args ws)
  (hK:eJ s r KV KE Q) (hF:wX (A.sig f) (X.call f) bX s.ai) (h:Xr X f args s.L KV=some r) :
  ∃ y,(Q1 (bX ws s.ai s.H) fun q=>KE q.1 q.2)=some y/\Q y:=by
 unfold Xr at h
 split at h
 .rename_i b i aB w x rest
  cases ws with
  | nil=>exact absurd hr id
  | cons wv ws =>
   split at h
   .split at h
    .rename_i cJ
     exact Qtx hs hr.1 hr.2 cJ hK hF h
    .simp at h
   .unfold Iu at h;exact Xf hF hs hr hK h
 .unfold Iu at h;exact Xf hF hs hr hK h
theorem Qty {c:Call} {KV:PV->LS->Option β} {KE:Value->af->Option γ} (hX:C_ X XE) (aI:s.ai=XE.ai) (ho:o.op=.call c) (hs:aD s) (he:cI s env e) (hK:eJ s r KV KE Q) (h:di X o env s.L KV=some r):∃ y,dx XE o e s.H KE=some y/\Q y:=by
 simp only [di,ho] at h;simp only [dx,ho]
 split at h
 .rename_i b hc
  rw [hc];simp only
  replace h:=ob h;obtain ⟨ps,h1,h⟩:=h
  obtain ⟨vs,e1,r1⟩:=Nu he h1
  rw [e1];simp only [Q1]
  exact Qkk hX.P aI.symm hs r1 hK h
 .rename_i f hc
  rw [hc];simp only
  replace h:=ob h;obtain ⟨g,h1,h⟩:=h
  replace h:=ob h;obtain ⟨ps,h2,h⟩:=h
  obtain ⟨gv,e1,r1⟩:=fM he h1
  obtain ⟨vs,e2,r2⟩:=Nu he h2
  rw [e1,e2];simp only [Q1]
  split at h
  .rename_i n first cap
   obtain ⟨fa,ca,rfl,q1,q2⟩:=r1
   simp only
   have hr:Qx (ER s) (first++ps++cap) (fa++vs++ca):=Qx.append (Qx.append q1.ers r2) q2.ers
   have Nv:eJ s r (fun u L'=>match PN X.P o.type with
     | some tm=>match C' tm u with
      | true=>KV u L'
      | false=>none
     | none=>KV u L') (fun v H=>match PN XE.P o.type with
     | some tm=>EL tm v fun u=>KE u H
     | none=>KE v H) Q:=by
    intro pv v s' hk bY dJ h
    simp only at h
    rw [<- hX.P]
    split at h
    .rename_i tm Xs
     split at h
     .rename_i hf
      simp only [Xs]
      rw [Qrz dJ hf]
      exact hK pv v s' hk bY dJ h
     .simp at h
    .rename_i Xs
     simp only [Xs]
     exact hK pv v s' hk bY dJ h
   unfold Nw at h
   split at h
   .rename_i hi
    exact hX.inl n hi hs aI hr Nv h
   .rename_i hi
    have hF:=hX.call n hi
    rw [<- aI] at hF ⊢
    exact Qnx hs hr Nv hF h
  .simp at h
 .simp at h
theorem Qqw {KV:PV->LS->Option β} {KE:Value->af->Option γ} (hX:C_ X XE) (aI:s.ai=XE.ai) (hs:aD s) (he:cI s env e) (hK:eJ s r KV KE Q) (h:di X o env s.L KV=some r):∃ y,dx XE o e s.H KE=some y/\Q y:=by
 cases aL:o.op with
 | move x=>simp only [di,aL] at h;simp only [dx,aL];exact QV hs he hK h
 | assign x=>simp only [di,aL] at h;simp only [dx,aL];exact QV hs he hK h
 | pick c a b=>exact Qu0 aL hs he hK h
 | alloc t=>exact Qrb hX.P aL hs he hK h
 | box t x=>exact Qxh aL hs he hK h
 | build t ps=>exact Qr3 hX.P aL hs he hK h
 | buildSlice t n ps=>exact Qd3 hX.P aL hs he hK h
 | load t a=>exact Qu5 hX.P aL hs he hK h
 | store t a x=>exact Qrd hX.P aI.symm aL hs he hK h
 | nilCheck x=>exact Qiv aL hs he hK h
 | binOp op t x y u=>exact Qr7 hX.P aL hs he hK h
 | unOp op t x=>exact Qu1 aL hs he hK h
 | convert a b x=>exact Qks hX.P aL hs he hK h
 | makeFunc fn a b =>
  cases fn with
  | func f=>exact Qir aL hs he hK h
  | _=>simp [di,aL] at h
 | makeSlice t l c=>exact Qfy hX.P aL hs he hK h
 | slice t x lo hi mx =>
  cases mx with
  | none=>exact Qqr hX.P aL hs he hK h
  | some m=>simp [di,aL] at h
 | fieldAddr t x f=>exact Qfu hX.P aL hs he hK h
 | field t x f=>exact Qr4 hX.P aL hs he hK h
 | indexAddr t x i=>exact Qfx hX.P aL hs he hK h
 | index t x i=>exact Qr5 hX.P aL hs he hK h
 | extract x i=>exact Qkn aL hs he hK h
 | call c=>exact Qty hX aI aL hs he hK h
 | _=>simp [di,aL] at h
theorem Qio {v:PV} {F:Nat->Option β} (h:Da v F=some r):∃ b,v=.mp b/\F b=some r:=by
 unfold Da at h
 split at h
 .exact ⟨_,rfl,h⟩
 .simp at h
theorem Xt {v:PV} {F:Int->Option β} (h:AQ v F=some r):∃ n,v=.int .i64 n/\F n=some r:=by
 unfold AQ at h
 split at h
 .exact ⟨_,rfl,h⟩
 .simp at h
theorem Qip (hs:aD s) {b:Nat} {q:Nat×List (Int×Int)} (h:lmap s.L b=some q):Qi s.L b=some ⟨q.1,true,.mp q.2⟩/\∃ m,s.μ b=some m/\m.sh=0/\s.ai<=m.z/\FK s.H m.z=some q.2:=by
 unfold lmap at h
 split at h
 .rename_i aB es hb
  injection h with h;subst h
  have hB:=hs.aH b _ hb
  unfold BR at hB;simp only at hB
  obtain ⟨_,m,k,h1,h2,h3,h4,h5,h6,_⟩:=hB
  refine ⟨hb,m,h1,h2,h6,?_⟩
  unfold FK;rw [h3];simp only [Q1,h5,h4]
 .simp at h
theorem Qtz {KV:PV->LS->Option β} {KE:Value->af->Option γ} (hX:C_ X XE) (aI:s.ai=XE.ai) (hs:aD s) (he:cI s env e) (hK:eJ s r KV KE Q) (h:Fc X o env s.L KV=some r):∃ y,BX XE o e s.H KE=some y/\Q y:=by
 cases aL:o.op with
 | makeMap t n =>
  cases n with
  | none =>
   simp only [Fc,aL] at h;simp only [BX,aL]
   obtain ⟨s',e1,e2,e3,k,t'⟩:=hs.Fe (.mp []) ⟨[],false,some []⟩ ⟨s.H.length,0,0,0⟩ rfl (fun s' hk hm hg hN=>by
    unfold BR;simp only
    exact ⟨trivial,_,_,hm,rfl,hg,rfl,rfl,by rw [hk.ai];exact hs.dX,rfl⟩)
   rw [<- e1] at h
   have:=hK (.mp s.L.bl.length) (.map (some s.H.length)) s' k t' (ER.fq ⟨by rw [e1,Qk];omega,_,e3,rfl⟩) h
   rw [e2] at this
   exact this
  | some x =>
   simp only [Fc,aL,di] at h
   simp at h
 | mapUpdate t m k v =>
  simp only [Fc,aL] at h;simp only [BX,aL,<- hX.P]
  split at h
  .rename_i ht
   simp only [ht]
   replace h:=ob h;obtain ⟨mv,hm,h⟩:=h
   replace h:=ob h;obtain ⟨kv,hk,h⟩:=h
   replace h:=ob h;obtain ⟨vv,hv,h⟩:=h
   replace h:=Qio h;obtain ⟨b,rfl,h⟩:=h
   replace h:=Xt h;obtain ⟨a,rfl,h⟩:=h
   replace h:=Xt h;obtain ⟨u,rfl,h⟩:=h
   replace h:=ob h;obtain ⟨q,hq,h⟩:=h
   obtain ⟨w1,f1,⟨_,m',g1,rfl⟩⟩:=fM he hm
   obtain ⟨w2,f2,r2⟩:=fM he hk
   obtain ⟨w3,f3,r3⟩:=fM he hv
   obtain rfl:w2=.int .i64 a:=r2
   obtain rfl:w3=.int .i64 u:=r3
   obtain ⟨hb,m2,h1,h2,h3,h4⟩:=Qip hs hq
   rw [g1] at h1;injection h1 with h1;subst h1
   simp only [f1,f2,f3,Q1,I4,FL,h4]
   obtain ⟨s',e1,e2,e3,k',t'⟩:=hs.set hb rfl g1 ⟨q.1+1,true,.mp (gZ q.2 a u)⟩ rfl rfl ⟨[],false,some (gZ q.2 a u)⟩ (fun s' hk hm hg hN=>by
    unfold BR;simp only
    exact ⟨trivial,_,_,hm,h2,hg,rfl,rfl,by rw [hk.ai];exact h3,rfl⟩)
   rw [<- e1] at h
   have:=hK .undef undef s' k' t' rfl h
   rw [e2] at this
   exact this
  .simp at h
 | lookup t m k ok =>
  simp only [Fc,aL] at h;simp only [BX,aL,<- hX.P]
  split at h
  .rename_i ht
   simp only [ht]
   replace h:=ob h;obtain ⟨mv,hm,h⟩:=h
   replace h:=ob h;obtain ⟨kv,hk,h⟩:=h
   replace h:=Qio h;obtain ⟨b,rfl,h⟩:=h
   replace h:=Xt h;obtain ⟨a,rfl,h⟩:=h
   replace h:=ob h;obtain ⟨q,hq,h⟩:=h
   obtain ⟨w1,f1,⟨_,m',g1,rfl⟩⟩:=fM he hm
   obtain ⟨w2,f2,r2⟩:=fM he hk
   obtain rfl:w2=.int .i64 a:=r2
   obtain ⟨hb,m2,h1,h2,h3,h4⟩:=Qip hs hq
   rw [g1] at h1;injection h1 with h1;subst h1
   simp only [f1,f2,Q1,I4,FL,h4]
   refine hK.here hs ?_ h
   cases ok with
   | true=>exact ⟨_,rfl,rfl,rfl,trivial⟩
   | false=>exact rfl
  .simp at h
 | _ =>
  have hV:Fc X o env s.L KV=di X o env s.L KV:=by simp only [Fc,aL]
  have hE:BX XE o e s.H KE=dx XE o e s.H KE:=by simp only [BX,aL]
  rw [hV] at h;rw [hE]
  exact Qqw hX aI hs he hK h
def fK (W:List Nat) (env ak:bA) (e e':Env):Prop:=∀ q,q∉W->dF ak q=none\/(dF ak q=dF env q/\cS e' q=cS e q)
theorem fK.refl (W:List Nat) (env:bA) (e:Env):fK W env env e e:=fun _ _=>.inr ⟨rfl,rfl⟩
theorem fK.trans {W:List Nat} {env ak Ff:bA} {e e' e'':Env} (h:fK W env ak e e') (g:fK W ak Ff e' e''):fK W env Ff e e'':=by
 intro q hq
 rcases g q hq with g1 | ⟨g1,g2⟩
 .exact .inl g1
 .rcases h q hq with h1 | ⟨h1,h2⟩
  .exact .inl (g1.trans h1)
  .exact .inr ⟨g1.trans h1,g2.trans h2⟩
theorem fK.mono {W V:List Nat} {env ak:bA} {e e':Env} (h:fK W env ak e e') (hs:∀ q,q∈W->q∈V):fK V env ak e e':=fun q hq=>h q (fun hw=>hq (hs q hw))
theorem fK.cons {W:List Nat} {env:bA} {e:Env} {d:Nat} {p:PV} {v:Value} (hd:d∈W):fK W env ((d,p)::env) e ((d,v)::e):=by
 intro q hq
 have aV:Nat.beq d q=false:=by
  cases hb:Nat.beq d q with
  | false=>rfl
  | true=>exact absurd (Z7 hb▸hd) hq
 right;simp only [dF,cS,aV];exact ⟨trivial,trivial⟩
def COk (W:List Nat) (dm:bA) (e0:Env) (s:S) (r:β) (KV:bA->LS->Option β) (KE:Env->af->Option γ) (Q:γ->Prop):Prop :=
 ∀ env e s',aj s s'->aD s'->cI s' env e->fK W dm env e0 e->KV env s'.L=some r->∃ y,KE e s'.H=some y/\Q y
theorem Qdr {ops:Array Oper} {W:List Nat} {KV:Bool->bA->Option β} {KE:Bool->Env->Option γ} (hW:∀ (j d:Nat),(ops[j]?).bind (fun (x:Oper)=>x.dst)=some d->d∈W) (he:cI s env e) (h:QW ops o env KV=some r) (hK:∀ t ak e',cI s ak e'->fK W env ak e e'->KV t ak=some r->∃ y,KE t e'=some y/\Q y):∃ y,DK ops o e KE=some y/\Q y:=by
 unfold QW at h;unfold DK
 cases hg:o.guard with
 | none=>rw [hg] at h;exact hK _ _ _ he (fK.refl _ _ _) h
 | some jw =>
  obtain ⟨j,want⟩:=jw
  rw [hg] at h
  simp only at h ⊢
  cases hd:(ops[j]?).bind (·.dst) with
  | none=>rw [hd] at h;simp at h
  | some d =>
   rw [hd] at h
   simp only at h ⊢
   replace h:=ob h;obtain ⟨p,h1,h⟩:=h
   obtain ⟨v,e1,r1⟩:=he.get h1
   simp only [e1,Q1]
   split at h
   .rename_i b
    obtain rfl:v=.bool b:=r1
    simp only
    cases b with
    | true=>simp only [aa] at h ⊢;exact hK _ _ _ (he.cons (p:=.bool true) rfl) (fK.cons (hW j d hd)) h
    | false=>simp only [aa] at h ⊢;exact hK _ _ _ (he.cons (p:=.bool false) rfl) (fK.cons (hW j d hd)) h
   .obtain rfl:v=undef:=r1
    exact hK _ _ _ he (fK.refl _ _ _) h
   .simp at h
theorem QX {nt:Nat} {W:List Nat} {dst:Option Tmp} {p:PV} {v:Value} {KV:bA->Option β} {KE:Env->Option γ} (hW:∀ d,dst=some d->d∈W) (he:cI s env e) (hr:ER s p v) (h:Kc nt dst p env KV=some r) (hK:∀ ak e',cI s ak e'->fK W env ak e e'->KV ak=some r->∃ y,KE e'=some y/\Q y):∃ y,DJ nt dst v e KE=some y/\Q y:=by
 unfold Kc at h;unfold DJ
 split at h
 .exact hK _ _ he (fK.refl _ _ _) h
 .rename_i d
  split at h
  .rename_i hd;simp only [hd];exact hK _ _ (he.cons hr) (fK.cons (hW d rfl)) h
  .simp at h
theorem Xu {ops:Array Oper} {W:List Nat} {KV:bA->LS->Option β} {KE:Env->af->Option γ} (hX:C_ X XE) (hW:∀ (j d:Nat),(ops[j]?).bind (fun (x:Oper)=>x.dst)=some d->d∈W) (dm:bA) (e0:Env):∀ {l:List Oper} {s:S} {env:bA} {e:Env},(∀ o∈l,∀ d,o.dst=some d->d∈W)->s.ai=XE.ai->aD s->cI s env e->fK W dm env e0 e->COk W dm e0 s r KV KE Q->AS X ops l env s.L KV=some r->∃ y,BY XE ops l e s.H KE=some y/\Q y
 | [],s,env,e,_,aI,hs,he,hu,hK,h=>hK env e s (aj.refl s) hs he hu h
 | o::l,s,env,e,hl,aI,hs,he,hu,hK,h=>by
  simp only [AS] at h;simp only [BY]
  refine Qdr hW he h (fun t ak e' gR dA h=>?_)
  cases t with
  | true =>
   simp only at h ⊢
   refine Qtz hX aI hs gR (fun pv v s' hk bY hr h=>?_) h
   rw [hX.nt] at h
   refine QX (hl o (by simp)) (hk.env gR) hr h (fun cc e2 vG iS h=>?_)
   exact Xu hX hW dm e0 (fun o ho=>hl o (by simp [ho])) (hk.ai.trans aI) bY vG ((hu.trans dA).trans iS) (fun Iv e3 s3 k3=>hK Iv e3 s3 (hk.trans k3)) h
  | false =>
   simp only at h ⊢
   rw [hX.nt] at h
   refine QX (hl o (by simp)) gR (p:=.undef) rfl h (fun cc e2 vG iS h=>?_)
   exact Xu hX hW dm e0 (fun o ho=>hl o (by simp [ho])) aI hs vG ((hu.trans dA).trans iS) hK h
def rC:List S->List (bA×LS)->List (Env×af)->Prop
 | [],[],[]=>True
 | s::ss,(env,L)::tr,(e,H)::te=>s.L=L/\s.H=H/\aD s/\cI s env e/\(∀ t∈ss,aj t s)/\rC ss tr te
 | _,_,_=>False
theorem Xv {ops:Array Oper} {W:List Nat} {KV:List (bA×LS)->bA->LS->Option β} {KE:List (Env×af)->Env->af->Option γ} (hX:C_ X XE) (hW:∀ (j d:Nat),(ops[j]?).bind (fun (x:Oper)=>x.dst)=some d->d∈W) (dm:bA) (e0:Env) (s0:S):∀ {l:List Oper} {s:S} {env:bA} {e:Env} {ss:List S} {tr:List (bA×LS)} {te:List (Env×af)},(∀ o∈l,∀ d,o.dst=some d->d∈W)->s.ai=XE.ai->aD s->cI s env e->fK W dm env e0 e->rC ss tr te->(∀ t∈ss,aj t s)->aj s0 s->(∀ t∈ss,aj s0 t) ->
  (∀ ak e' s' Xw EZ Xx,aj s s'->aD s'->cI s' ak e'->fK W dm ak e0 e'->rC (s'::Xw) ((ak,s'.L)::EZ) ((e',s'.H)::Xx)->(∀ t∈s'::Xw,aj s0 t)->KV ((ak,s'.L)::EZ) ak s'.L=some r->∃ y,KE ((e',s'.H)::Xx) e' s'.H=some y/\Q y) ->
  Nx X ops l env s.L tr KV=some r->∃ y,Al XE ops l e s.H te KE=some y/\Q y
 | [],s,env,e,ss,tr,te,_,aI,hs,he,hu,ht,E8,h0,Xy,hK,h =>
  hK env e s ss tr te (aj.refl s) hs he hu ⟨rfl,rfl,hs,he,E8,ht⟩ (fun t Au=>by rcases Z2 Au with rfl | h1;exact h0;exact Xy t h1) h
 | o::l,s,env,e,ss,tr,te,hl,aI,hs,he,hu,ht,E8,h0,Xy,hK,h=>by
  simp only [Nx] at h;simp only [Al]
  refine Qdr hW he h (fun t ak e' gR dA h=>?_)
  have hall:∀ t∈s::ss,aj s0 t:=fun t Au=>by
   rcases Z2 Au with rfl | h1
   .exact h0
   .exact Xy t h1
  cases t with
  | true =>
   simp only at h ⊢
   refine Qqw hX aI hs gR (fun pv v s' hk bY hr h=>?_) h
   rw [hX.nt] at h
   refine QX (hl o (by simp)) (hk.env gR) hr h (fun cc e2 vG iS h=>?_)
   exact Xv hX hW dm e0 s0 (ss:=s::ss) (tr:=(ak,s.L)::tr) (fun o ho=>hl o (by simp [ho])) (hk.ai.trans aI) bY vG ((hu.trans dA).trans iS) ⟨rfl,rfl,hs,gR,E8,ht⟩ (fun t Au=>by
    rcases Z2 Au with rfl | h1
    .exact hk
    .exact (E8 t h1).trans hk) (h0.trans hk) hall (fun Iv e3 s3 ss3 tr3 te3 k3=>hK Iv e3 s3 ss3 tr3 te3 (hk.trans k3)) h
  | false =>
   simp only at h ⊢
   rw [hX.nt] at h
   refine QX (hl o (by simp)) gR (p:=.undef) rfl h (fun cc e2 vG iS h=>?_)
   exact Xv hX hW dm e0 s0 (ss:=s::ss) (tr:=(ak,s.L)::tr) (fun o ho=>hl o (by simp [ho])) aI hs vG ((hu.trans dA).trans iS) ⟨rfl,rfl,hs,gR,E8,ht⟩ (fun t Au=>by
    rcases Z2 Au with rfl | h1
    .exact aj.refl _
    .exact E8 t h1) h0 hall hK h
end
theorem Qc3:∀ {l:List Value},(∀ v∈l,Qa v v=true)->Bu l l=true
 | [],_=>rfl
 | v::l,h=>by
  simp only [Bu,Z8]
  exact ⟨h v (by simp),Qc3 (fun w hw=>h w (List.mem_cons_of_mem _ hw))⟩
theorem QY {l:List Value} (h:∀ v∈l,Qa v v=true):jY (some (.agg l.toArray)) (some (.agg l.toArray))=true:=by
 simp [jY,Qc3 h]
theorem Qkl {v:Value} (h:Qa v v=true):jY (some v) (some v)=true:=by
 unfold jY
 split
 .rfl
 .rename_i xs ys e1 e2
  injection e1 with e1;subst e1;simp [Qa] at h
 .rename_i e1 e2;injection e1 with e1;injection e2 with e2;subst e1 e2;exact h
 .rename_i h1 h2;exact absurd rfl (h2 v v rfl)
theorem ob1 {α β:Type} (a:α) (f:α->Option β):Q1 (some a) f=f a:=rfl
theorem vH {P:Program} {t:TypeId} {a:Operand} {e:Env} {H G:af} {z off:Nat} {k:bz} (hv:ev e a=some (.pointer (some ⟨z,off,none⟩))) (hk:ah H z=some k) (hg:ah G z=some k)
  (hp:∀ i,P.info? t=some i->∀ j,j < max i.size 1->∀ v,k.cells[off+j]? = some v->Qa v v=true):jY (c_ P (.load t a) e G) (c_ P (.load t a) e H)=true:=by
 have hN:∀ n,Qv G ⟨z,off,none⟩ n=Qv H ⟨z,off,none⟩ n:=fun n=>by unfold Qv;simp only [hk,hg]
 have hL:gQ G ⟨z,off,none⟩=gQ H ⟨z,off,none⟩:=by unfold gQ;simp only [hk,hg]
 simp only [c_,KC hv,hv,ob1,fj,hN,hL]
 cases hi:P.info? t with
 | none=>rfl
 | some i =>
  simp only [ob1]
  have agg:jY (Q1 (Qv H ⟨z,off,none⟩ i.size) fun l=>some (.agg l.toArray)) (Q1 (Qv H ⟨z,off,none⟩ i.size) fun l=>some (.agg l.toArray))=true:=by
   cases hl:Qv H ⟨z,off,none⟩ i.size with
   | none=>rfl
   | some l =>
    refine QY (fun v hv=>?_)
    unfold Qv at hl;simp only [hk,Q1] at hl
    split at hl
    .simp at hl;subst hl
     obtain ⟨j,hj,ej⟩:=List.getElem_of_mem hv
     have PS:j < i.size:=by simp at hj;omega
     refine hp i hi j (by omega) v ?_
     have:((k.cells.drop off).take i.size)[j]? = some v:=by rw [Z6 hj,ej]
     rw [List.getElem?_take_of_lt PS,Zp] at this;exact this
    .simp at hl
  have leaf:jY (gQ H ⟨z,off,none⟩) (gQ H ⟨z,off,none⟩)=true:=by
   cases hl:gQ H ⟨z,off,none⟩ with
   | none=>rfl
   | some v =>
    refine Qkl (hp i hi 0 (by omega) v ?_)
    unfold gQ at hl;simp only [hk,Q1] at hl;simpa using hl
  cases P.underlying t with
  | none=>rfl
  | some d=>cases d<;>first | exact agg | exact leaf
theorem Ke {P:Program} {s1 s2:TypeId} {a:Operand} {e:Env} {H G:af} {v:Value} {l:List Value} (hv:ev e a=some v) (hH:Qf H 1 v=some l) (hG:Qf G 1 v=some l) (hp:∀ w∈l,Qa w w=true):jY (c_ P (.convert s1 s2 a) e G) (c_ P (.convert s1 s2 a) e H)=true:=by
 simp only [c_,hv,Q1,hH,hG]
 exact QY hp
theorem Ny {P:Program} {o:Op} {e:Env} {H G:af} (h1:c_ P o e H=none) (h2:c_ P o e G=none):jY (c_ P o e G) (c_ P o e H)=true:=by rw [h1,h2];rfl
def Db (s t:S):Prop:=aj s t\/aj t s
theorem Db.same {s t:S} (h:Db s t) {b:Nat} (hv:Kg s.L t.L b=true) {m:MB} (hm:s.μ b=some m):∃ B,Qi s.L b=some B/\Qi t.L b=some B/\ah t.H m.z=ah s.H m.z:=by
 unfold Kg at hv
 split at hv
 .rename_i x y hx hy
  have hv:=Z7 hv
  rcases h with h | h
  .obtain ⟨B,b1,b2,b3⟩:=h.live b y (Qn hx) hy
   rw [hx] at b1;injection b1 with b1;subst b1
   obtain ⟨c1,c2,_⟩:=b3 hv
   subst c1
   exact ⟨y,hx,hy,c2 m hm⟩
  .obtain ⟨B,b1,b2,b3⟩:=h.live b x (Qn hy) hx
   rw [hy] at b1;injection b1 with b1;subst b1
   obtain ⟨c1,c2,_⟩:=b3 hv.symm
   subst c1
   refine ⟨x,hx,hy,(c2 m ?_).symm⟩
   rw [<- h.mu b (Qn hy)];exact hm
 .simp at hv
theorem Qxe {P:Program} {s0 si sm:S} {c0:Nat} (hs:aD si) (Xz:aj s0 si) (k0m:aj s0 sm) (hc:c0<=s0.L.ct) (hold:∀ z,s0.Old c0 z->z < s0.H.length/\¬ bM s0 z) (hn:Db si sm) {env:bA} {e:Env} (he:cI si env e)
  {o:Op} (h:XA P c0 o env si.L sm.L=true):jY (c_ P o e sm.H) (c_ P o e si.H)=true:=by
 have fz:∀ {st z:Nat} {k:bz},si.NN st z->st < c0->ah si.H z=some k->ah sm.H z=some k:=by
  intro st z k Nz eF hk
  have h1:=Nz.2 c0 eF (Nat.le_trans hc Xz.ck.1)
  rw [Xz.ck.2.1 c0 hc] at h1
  obtain ⟨h2,h3⟩:=hold z h1
  rw [k0m.fr z h2 h3,<- Xz.fr z h2 h3];exact hk
 unfold XA at h
 split at h
 .rename_i t a
  cases hg:A8 P t a with
  | some v =>
   obtain ⟨g,l,i,n,e',_,_,_,_,_,h2,rfl⟩:=YZ hg
   simp only [c_,hg]
   refine QY fun v hv=>?_
   have:=Z3 h2 v hv
   unfold Qt at this
   split at this<;>simp_all [Qa]
  | none =>
  rw [hg] at h
  simp only at h
  cases hp:eC env a with
  | none =>
   rw [hp] at h
   have wN:ev e a=none:=by
    cases a with
    | tmp q=>have:=he q;rw [show dF env q=none from hp] at this;exact this
    | _=>simp [QZ] at h
   exact Ny (by simp [c_,hg,wN,Q1]) (by simp [c_,hg,wN,Q1])
  | some p =>
   rw [hp] at h
   obtain ⟨v,e1,r1⟩:=fM he hp
   cases p with
   | rp st u x =>
    simp only [Z8] at h
    obtain ⟨z,oo,k,rfl,Nz,hk,hle,cZ⟩:=r1
    refine vH e1 hk (fz Nz (BC h.1) hk) (fun i hi j hj w hw=>?_)
    have h2:=h.2
    rw [hi] at h2
    have bf:=Z7 h2
    have eU:=Ty.size_pos u
    refine ax.plain u cZ w (List.mem_iff_getElem?.2 ⟨j,?_⟩)
    rw [List.getElem?_take_of_lt (by omega),Zp];exact hw
   | ep b j fo =>
    obtain ⟨bG,m,hm,rfl⟩:=r1
    obtain ⟨B,b1,b2,b3⟩:=hn.same h hm
    have hB:=hs.aH b B b1
    obtain ⟨aB,Fg,bo⟩:=B
    cases bo with
    | cells cs =>
     unfold BR at hB;simp only at hB
     obtain ⟨_,m',k,aE,dH,hk,cx,_⟩:=hB
     rw [hm] at aE;injection aE with aE;subst aE
     refine vH e1 hk (by rw [b3];exact hk) (fun i hi j' hj w hw=>?_)
     have:∀ {cs:List PV} {vs:List Value},cq si cs vs->∀ v∈vs,Qa v v=true:=by
      intro cs;induction cs with
      | nil=>intro vs h v hv;cases vs<;>simp_all [cq,Qx]
      | cons p cs ih=>intro vs h v hv;match vs,h with
       | w::vs,h=>rcases Z2 hv with rfl | hv;exact h.1.plain;exact ih h.2 v hv
     exact this cx w (Zc hw)
    | mp es =>
     unfold BR at hB;simp only at hB
     obtain ⟨_,m',k,aE,_,hk,_,_,_,Iw⟩:=hB
     rw [hm] at aE;injection aE with aE;subst aE
     refine vH e1 hk (by rw [b3];exact hk) (fun i hi j' hj w hw=>?_)
     rw [Iw] at hw;simp at hw
    | arr t' xs =>
     obtain ⟨a1,a2,k,a3,a4,a5,_⟩:=mS hs b1 hm
     refine vH e1 a3 (by rw [b3];exact a3) (fun i hi j' hj w hw=>?_)
     refine (AE hs b1 hm a3).2 w (List.mem_iff_getElem?.2 ⟨j*m.es+fo+j',?_⟩)
     rw [Zp,show m.sh+(j*m.es+fo+j')=m.sh+j*m.es+fo+j' by omega];exact hw
    | rows t' xs ho =>
     obtain ⟨_,_,⟨fV,_⟩ | ⟨m',k,aE,a1,a2,a3,a4,_⟩⟩:=mT hs b1
     .rw [hm] at fV;simp at fV
     rw [hm] at aE;injection aE with aE;subst aE
     refine vH e1 a3 (by rw [b3];exact a3) (fun i hi j' hj w hw=>?_)
     refine a4.2 w (List.mem_iff_getElem?.2 ⟨j*m.es+fo+j',?_⟩)
     rw [Zp,show m.sh+(j*m.es+fo+j')=m.sh+j*m.es+fo+j' by omega];exact hw
   | ptr b off =>
    obtain ⟨bG,m,hm,dH,rfl⟩:=r1
    obtain ⟨B,b1,b2,b3⟩:=hn.same h hm
    have hB:=hs.aH b B b1
    obtain ⟨aB,Fg,bo⟩:=B
    cases bo with
    | cells cs =>
     unfold BR at hB;simp only at hB
     obtain ⟨_,m',k,aE,_,hk,cx,_⟩:=hB
     rw [hm] at aE;injection aE with aE;subst aE
     refine vH e1 hk (by rw [b3];exact hk) (fun i hi j' hj w hw=>?_)
     have:∀ {cs:List PV} {vs:List Value},cq si cs vs->∀ v∈vs,Qa v v=true:=by
      intro cs;induction cs with
      | nil=>intro vs h v hv;cases vs<;>simp_all [cq,Qx]
      | cons p cs ih=>intro vs h v hv;match vs,h with
       | w::vs,h=>rcases Z2 hv with rfl | hv;exact h.1.plain;exact ih h.2 v hv
     exact this cx w (Zc hw)
    | mp es =>
     unfold BR at hB;simp only at hB
     obtain ⟨_,m',k,aE,_,hk,_,_,_,Iw⟩:=hB
     rw [hm] at aE;injection aE with aE;subst aE
     refine vH e1 hk (by rw [b3];exact hk) (fun i hi j' hj w hw=>?_)
     rw [Iw] at hw;simp at hw
    | arr t' xs =>
     obtain ⟨a1,a2,k,a3,a4,a5,_⟩:=mS hs b1 hm
     refine vH e1 a3 (by rw [b3];exact a3) (fun i hi j' hj w hw=>?_)
     refine (AE hs b1 hm a3).2 w (List.mem_iff_getElem?.2 ⟨off+j',?_⟩)
     rw [Zp,dH,Zo];exact hw
    | rows t' xs ho =>
     obtain ⟨_,_,⟨fV,_⟩ | ⟨m',k,aE,a1,a2,a3,a4,_⟩⟩:=mT hs b1
     .rw [hm] at fV;simp at fV
     rw [hm] at aE;injection aE with aE;subst aE
     refine vH e1 a3 (by rw [b3];exact a3) (fun i hi j' hj w hw=>?_)
     refine a4.2 w (List.mem_iff_getElem?.2 ⟨off+j',?_⟩)
     rw [Zp,dH,Zo];exact hw
   | dp b XB n0 u0 k0 =>
    obtain ⟨bG,m,hm,dH,rfl⟩:=r1
    generalize XB+k0*u0.size=off at *
    obtain ⟨B,b1,b2,b3⟩:=hn.same h hm
    have hB:=hs.aH b B b1
    obtain ⟨aB,Fg,bo⟩:=B
    cases bo with
    | cells cs =>
     unfold BR at hB;simp only at hB
     obtain ⟨_,m',k,aE,_,hk,cx,_⟩:=hB
     rw [hm] at aE;injection aE with aE;subst aE
     refine vH e1 hk (by rw [b3];exact hk) (fun i hi j' hj w hw=>?_)
     have:∀ {cs:List PV} {vs:List Value},cq si cs vs->∀ v∈vs,Qa v v=true:=by
      intro cs;induction cs with
      | nil=>intro vs h v hv;cases vs<;>simp_all [cq,Qx]
      | cons p cs ih=>intro vs h v hv;match vs,h with
       | w::vs,h=>rcases Z2 hv with rfl | hv;exact h.1.plain;exact ih h.2 v hv
     exact this cx w (Zc hw)
    | mp es =>
     unfold BR at hB;simp only at hB
     obtain ⟨_,m',k,aE,_,hk,_,_,_,Iw⟩:=hB
     rw [hm] at aE;injection aE with aE;subst aE
     refine vH e1 hk (by rw [b3];exact hk) (fun i hi j' hj w hw=>?_)
     rw [Iw] at hw;simp at hw
    | arr t' xs =>
     obtain ⟨a1,a2,k,a3,a4,a5,_⟩:=mS hs b1 hm
     refine vH e1 a3 (by rw [b3];exact a3) (fun i hi j' hj w hw=>?_)
     refine (AE hs b1 hm a3).2 w (List.mem_iff_getElem?.2 ⟨off+j',?_⟩)
     rw [Zp,dH,Zo];exact hw
    | rows t' xs ho =>
     obtain ⟨_,_,⟨fV,_⟩ | ⟨m',k,aE,a1,a2,a3,a4,_⟩⟩:=mT hs b1
     .rw [hm] at fV;simp at fV
     rw [hm] at aE;injection aE with aE;subst aE
     refine vH e1 a3 (by rw [b3];exact a3) (fun i hi j' hj w hw=>?_)
     refine a4.2 w (List.mem_iff_getElem?.2 ⟨off+j',?_⟩)
     rw [Zp,dH,Zo];exact hw
   | undef =>
    obtain rfl:v=undef:=r1
    exact Ny (by simp [c_,hg,e1,Q1];rfl) (by simp [c_,hg,e1,Q1];rfl)
   | _=>simp at h
 .rename_i t u a
  cases hp:eC env a with
  | none =>
   rw [hp] at h
   have wN:ev e a=none:=by
    cases a with
    | tmp q=>have:=he q;rw [show dF env q=none from hp] at this;exact this
    | _=>simp [QZ] at h
   exact Ny (by simp [c_,wN,Q1]) (by simp [c_,wN,Q1])
  | some p =>
   rw [hp] at h
   obtain ⟨v,e1,r1⟩:=fM he hp
   cases p with
   | nil=>obtain rfl:v=_:=r1;exact Ke e1 rfl rfl (by simp)
   | undef =>
    obtain rfl:v=undef:=r1
    exact Ny (by simp [c_,e1,Q1];rfl) (by simp [c_,e1,Q1];rfl)
   | ro st ty x =>
    have r1:ax (si.NN st) si.H (.sl ty) x [v]:=r1
    unfold ax at r1
    rcases r1 with ⟨rfl,e2⟩ | ⟨rfl,z,oo,e2⟩ | ⟨z,oo,k,e2,Nz,hk,hle,hi⟩
    .simp at e2;subst e2;exact Ke e1 rfl rfl (by simp)
    .simp at e2;subst e2
     exact Ke (l:=[]) e1 (by simp [Qf,fQ]) (by simp [Qf,fQ]) (by simp)
    .simp at e2;subst e2
     have de:=fz Nz (BC h) hk
     have eU:=Ty.size_pos ty
     have aai:oo+x.length*1<=k.cells.length:=by
      have:=Nat.mul_le_mul_left x.length eU
      simp at this ⊢;omega
     have oC:∀ G:af,ah G z=some k->Qf G 1 (.slice (some ⟨z,oo,none⟩) x.length ty.size)=some ((k.cells.drop oo).take (x.length*1)):=by
      intro G hG
      simp only [Qf]
      cases hz:x.length*1 with
      | zero=>simp [fQ]
      | succ q =>
       simp only [fQ,Qv,hG,Q1]
       have:Nat.ble (oo+(q+1)) k.cells.length=true:=Nat.ble_eq_true_of_le (by omega)
       rw [this]
     refine Ke e1 (oC _ hk) (oC _ de) (fun w hw=>?_)
     have C2:RL (si.NN st) si.H ty x ((k.cells.drop oo).take (x.length*ty.size)):=by
      refine ⟨by simp;omega,fun i eZ=>?_⟩
      have hm:=j4 (k:=ty.size) eZ
      have e2:cw ((k.cells.drop oo).take (x.length*ty.size)) (i*ty.size) ty.size=(k.cells.drop (oo+i*ty.size)).take ty.size:=by
       unfold cw;rw [List.drop_take,List.take_take,Nat.min_eq_left (by omega),List.drop_drop]
      rw [e2];exact hi i eZ
     refine C2.plain w ?_
     have XC:x.length*1<=x.length*ty.size:=Nat.mul_le_mul_left _ eU
     have:(k.cells.drop oo).take (x.length*1)=((k.cells.drop oo).take (x.length*ty.size)).take (x.length*1):=by
      rw [List.take_take,Nat.min_eq_left XC]
     rw [this] at hw;exact List.mem_of_mem_take hw
   | a_ b off n =>
    have r1:cm si (.a_ b off n) v:=r1
    obtain ⟨bG,r1⟩:=r1
    cases hm:si.μ b with
    | none =>
     rw [hm] at r1;obtain ⟨_,_,rfl⟩:=r1
     exact Ke e1 rfl rfl (by simp)
    | some m =>
     rw [hm] at r1;obtain ⟨g0,rfl⟩:=r1
     obtain ⟨B,b1,b2,b3⟩:=hn.same h hm
     obtain ⟨aB,Fg,bo⟩:=B
     have th:∀ k:bz,ah si.H m.z=some k->(∀ w∈k.cells.drop m.sh,Qa w w=true)->jY (c_ P (.convert t u a) e sm.H) (c_ P (.convert t u a) e si.H)=true:=by
      intro k hk iT
      have de:ah sm.H m.z=some k:=by rw [b3];exact hk
      have heq:Qf sm.H 1 (.slice (some ⟨m.z,m.sh+off*m.es,none⟩) (n.getD (m.n - off)) m.es)=Qf si.H 1 (.slice (some ⟨m.z,m.sh+off*m.es,none⟩) (n.getD (m.n - off)) m.es):=by
       simp only [Qf,fQ]
       split
       .rfl
       .simp only [Qv,hk,de]
      cases hl:Qf si.H 1 (.slice (some ⟨m.z,m.sh+off*m.es,none⟩) (n.getD (m.n - off)) m.es) with
      | none=>exact Ny (by simp [c_,e1,Q1,hl]) (by simp [c_,e1,Q1,heq,hl])
      | some l =>
       refine Ke e1 hl (by rw [heq];exact hl) (fun w hw=>?_)
       simp only [Qf,fQ] at hl
       split at hl
       .simp at hl;subst hl;simp at hw
       .simp only [Qv,hk,Q1] at hl
        split at hl
        .simp at hl;subst hl
         have:=List.mem_of_mem_take hw
         rw [<- List.drop_drop] at this
         exact iT w (List.mem_of_mem_drop this)
        .simp at hl
     cases bo with
     | cells cs =>
      have hB:=hs.aH b _ b1
      unfold BR at hB;simp only at hB
      obtain ⟨_,m',k,aE,dH,hk,cx,_⟩:=hB
      rw [hm] at aE;injection aE with aE;subst aE
      refine th k hk (fun w hw=>?_)
      have:∀ {cs:List PV} {vs:List Value},cq si cs vs->∀ v∈vs,Qa v v=true:=by
       intro cs;induction cs with
       | nil=>intro vs h v hv;cases vs<;>simp_all [cq,Qx]
       | cons p cs ih=>intro vs h v hv;match vs,h with
        | w::vs,h=>rcases Z2 hv with rfl | hv;exact h.1.plain;exact ih h.2 v hv
      exact this cx w (List.mem_of_mem_drop hw)
     | mp es =>
      have hB:=hs.aH b _ b1
      unfold BR at hB;simp only at hB
      obtain ⟨_,m',k,aE,_,hk,_,_,_,Iw⟩:=hB
      rw [hm] at aE;injection aE with aE;subst aE
      refine th k hk (fun w hw=>?_)
      rw [Iw] at hw;simp at hw
     | arr t' xs =>
      obtain ⟨a1,a2,k,a3,a4,a5,_⟩:=mS hs b1 hm
      exact th k a3 (AE hs b1 hm a3).2
     | rows t' xs ho =>
      obtain ⟨_,_,⟨fV,_⟩ | ⟨m',k,aE,a1,a2,a3,a4,_⟩⟩:=mT hs b1
      .rw [hm] at fV;simp at fV
      rw [hm] at aE;injection aE with aE;subst aE
      exact th k a3 a4.2
   | _=>simp at h
 .simp at h
theorem rC.get:∀ {ss:List S} {tr:List (bA×LS)} {te:List (Env×af)},rC ss tr te->∀ (i:Nat) q,tr[i]? = some q->∃ s e,ss[i]? = some s/\te[i]? = some e/\s.L=q.2/\s.H=e.2/\aD s/\cI s q.1 e.1
 | s::ss,(env,L)::tr,(e,H)::te,h,0,q,hq=>by
  simp at hq;subst hq
  obtain ⟨h1,h2,h3,h4,_⟩:=h
  exact ⟨s,(e,H),rfl,rfl,h1,h2,h3,h4⟩
 | s::ss,(env,L)::tr,(e,H)::te,h,i+1,q,hq=>by
  obtain ⟨_,_,_,_,_,h6⟩:=h
  simp only [List.getElem?_cons_succ] at hq ⊢
  exact rC.get h6 i q hq
 | [],[],[],_,i,q,hq=>by simp at hq
theorem rC.len:∀ {ss:List S} {tr:List (bA×LS)} {te:List (Env×af)},rC ss tr te->tr.length=te.length/\ss.length=te.length
 | [],[],[],_=>⟨rfl,rfl⟩
 | _::_,(_,_)::_,(_,_)::_,h=>by
  obtain ⟨_,_,_,_,_,h6⟩:=h
  have:=rC.len h6;simp;exact this
theorem rC.NA:∀ {ss:List S} {tr:List (bA×LS)} {te:List (Env×af)},rC ss tr te->∀ (i j:Nat) s t,ss[i]? = some s->ss[j]? = some t->Db s t
 | s::ss,(env,L)::tr,(e,H)::te,h,0,0,x,y,hx,hy=>by
  simp at hx hy;subst hx hy;exact .inl (aj.refl _)
 | s::ss,(env,L)::tr,(e,H)::te,h,0,j+1,x,y,hx,hy=>by
  simp at hx;subst hx
  simp only [List.getElem?_cons_succ] at hy
  obtain ⟨_,_,_,_,h5,_⟩:=h
  exact .inr (h5 y (Zc hy))
 | s::ss,(env,L)::tr,(e,H)::te,h,i+1,0,x,y,hx,hy=>by
  simp at hy;subst hy
  simp only [List.getElem?_cons_succ] at hx
  obtain ⟨_,_,_,_,h5,_⟩:=h
  exact .inl (h5 x (Zc hx))
 | s::ss,(env,L)::tr,(e,H)::te,h,i+1,j+1,x,y,hx,hy=>by
  obtain ⟨_,_,_,_,_,h6⟩:=h
  simp only [List.getElem?_cons_succ] at hx hy
  exact rC.NA h6 i j x y hx hy
 | [],[],[],_,i,j,x,y,hx,_=>by simp at hx
theorem Qqx {α:Type} (l:List α) (i:Nat) (x:α) (h:l.reverse[i]? = some x):l[l.length - 1 - i]? = some x/\i < l.length:=by
 have hi:i < l.length:=by
  have:=(Z0 h).1;simpa using this
 rw [List.getElem?_reverse hi] at h;exact ⟨h,hi⟩
section
variable {A:cM} {β γ:Type} {s:S} {env:bA} {e:Env} {X:nq A β} {XE:Cx} {r:β} {Q:γ->Prop}
theorem XD {P:Program} {ops:Array Oper} {c0:Nat} {s0:S} {ss:List S} {tr:List (bA×LS)} {te:List (Env×af)} (ht:rC ss tr te) (h0:∀ t∈ss,aj s0 t) (hc:c0<=s0.L.ct) (hold:∀ z,s0.Old c0 z->z < s0.H.length/\¬ bM s0 z) {i:Nat} {o:Oper} {x:Option γ} :
  ∀ {ms:List Nat},Q_ c0 P ops tr.reverse i o ms=true->HJ P ops te.reverse i o ms x=x
 | [],_=>rfl
 | m::ms,h=>by
  simp only [Q_,Z8] at h
  obtain ⟨h1,h2⟩:=h
  simp only [HJ]
  cases hq:JN P ops m i || JO P ops i o m with
  | true=>simp only;exact XD ht h0 hc hold h2
  | false =>
   rw [hq] at h1
   simp only [Bool.false_or] at h1
   simp only
   have hlen:=ht.len
   cases hi:tr.reverse[i]? with
   | none=>rw [hi] at h1;simp at h1
   | some q =>
    cases hm:tr.reverse[m]? with
    | none=>rw [hi,hm] at h1;simp at h1
    | some q' =>
     rw [hi,hm] at h1
     simp only at h1
     obtain ⟨g1,g2⟩:=Qqx _ _ _ hi
     obtain ⟨g3,g4⟩:=Qqx _ _ _ hm
     obtain ⟨si,ei,a1,a2,a3,a4,a5,a6⟩:=ht.get _ _ g1
     obtain ⟨sm,em,b1,b2,b3,b4,b5,b6⟩:=ht.get _ _ g3
     have e1:te.reverse[i]? = some ei:=by rw [List.getElem?_reverse (by omega),<- hlen.1];exact a2
     have e2:te.reverse[m]? = some em:=by rw [List.getElem?_reverse (by omega),<- hlen.1];exact b2
     rw [e1,e2]
     simp only
     rw [<- a3,<- b3] at h1
     have:=Qxe a5 (h0 si (Zc a1)) (h0 sm (Zc b1)) hc hold (ht.NA _ _ _ _ a1 b1) a6 h1
     rw [<- a4,<- b4,this]
     simp only [aa]
     exact XD ht h0 hc hold h2
theorem XF {P:Program} {ops:Array Oper} {c0:Nat} {s0:S} {ss:List S} {tr:List (bA×LS)} {te:List (Env×af)} (ht:rC ss tr te) (h0:∀ t∈ss,aj s0 t) (hc:c0<=s0.L.ct) (hold:∀ z,s0.Old c0 z->z < s0.H.length/\¬ bM s0 z) {x:Option γ} :
  ∀ {l:List Nat},Ra c0 P ops tr.reverse l=true->cv P ops te.reverse l x=x
 | [],_=>rfl
 | i::l,h=>by
  simp only [Ra,Z8] at h
  obtain ⟨h1,h2⟩:=h
  simp only [cv]
  split
  .rename_i o hb ho
   rw [hb,ho] at h1
   simp only at h1
   rw [XD ht h0 hc hold h1]
   exact XF ht h0 hc hold h2
  .exact XF ht h0 hc hold h2
theorem aD.tick (hs:aD s):∃ s0,s0.L=⟨s.L.bl,s.L.ct+1⟩/\s0.H=s.H/\s0.μ=s.μ/\aj s s0/\aD s0/\(∀ z,s0.Old (s.L.ct+1) z->z < s0.H.length/\¬ bM s0 z):=by
 let s0:S:={ s with L:=⟨s.L.bl,s.L.ct+1⟩,Old:=fun c z=>if c=s.L.ct+1 then (z < s.H.length/\¬ bM s z) else s.Old c z }
 have hk:aj s s0:=by
  refine ⟨rfl,⟨Nat.le_succ _,fun c hc=>?_,fun c z h1 h2 h3 h4=>?_⟩,rfl,Zd _,fun _ _=>rfl,Zd _,fun _ _ _=>rfl,fun z h=>.inl h,fun b B' _ h=>⟨B',h,Zd _,fun _=>⟨rfl,fun _ _=>rfl,fun _ _ h=>⟨h,rfl⟩⟩⟩⟩
  .funext z;show (if c=s.L.ct+1 then _ else _)=_
   rw [if_neg (by omega)]
  .show (if c=s.L.ct+1 then _ else _)
   have h2':c<=s.L.ct+1:=h2
   rw [if_pos (by omega)];exact ⟨h3,h4.1⟩
 refine ⟨s0,rfl,rfl,rfl,hk,⟨fun b B hB=>?_,hs.inj,hs.dj,hs.dX,hs.lm,hs.iR,hs.kl,hs.ka⟩,fun z hz=>?_⟩
 .have iF:Qi s.L b=some B:=hB
  exact (hs.aH b B iF).keep hk (Qn iF) (fun _ _=>rfl) (fun _ _ h=>⟨h,rfl⟩)
 .have aX:(if s.L.ct+1=s.L.ct+1 then (z < s.H.length/\¬ bM s z) else s.Old (s.L.ct+1) z):=hz
  rw [if_pos rfl] at aX;exact aX
theorem Qqy {ops:Array Oper} {W:List Nat} {KV:bA->LS->Option β} {KE:Env->af->Option γ} (hX:C_ X XE) (hW:∀ (j d:Nat),(ops[j]?).bind (fun (x:Oper)=>x.dst)=some d->d∈W) (hl:∀ o∈ops.toList,∀ d,o.dst=some d->d∈W) (aI:s.ai=XE.ai) (hs:aD s) (he:cI s env e) (hK:COk W env e s r KV KE Q) (h:XG X ops env s.L KV=some r):∃ y,HK XE ops e s.H KE=some y/\Q y:=by
 unfold XG at h;unfold HK
 rw [hX.P] at h
 split at h
 .rename_i hd
  rw [hd];simp only
  obtain ⟨s0,l0,g0,u0,k0,t0,hold⟩:=hs.tick
  rw [<- l0] at h;rw [<- g0]
  refine Xv hX hW env e s0 (ss:=[]) hl (k0.ai.trans aI) t0 (k0.env he) (fK.refl _ _ _) (show rC [] [] [] from trivial) (by simp) (aj.refl s0) (by simp) (fun ak e' s' Xw EZ Xx k' t' gR dA ht hall h=>?_) h
  split at h
  .rename_i eF
   have hc:s.L.ct+1<=s0.L.ct:=by rw [l0];exact Zd _
   rw [XF ht hall hc hold eF]
   exact hK ak e' s' (k0.trans k') t' gR dA h
  .simp at h
 .simp at h
end
theorem Qfr {env:bA}:∀ {l:List Nat} {s:S},aD s->∃ s',s'.L=Rb env l s.L/\s'.H=s.H/\s'.μ=s.μ/\aj s s'/\aD s':=by
 have fold:∀ {ps:List PV} {s:S},aD s->∃ s',s'.L=ps.foldl freeze s.L/\s'.H=s.H/\s'.μ=s.μ/\aj s s'/\aD s':=by
  intro ps
  induction ps with
  | nil=>intro s hs;exact ⟨s,rfl,rfl,rfl,aj.refl s,hs⟩
  | cons p ps ih =>
   intro s hs
   by_cases hp:∃ b off n,p=.a_ b off n
   .obtain ⟨b,off,n,rfl⟩:=hp
    obtain ⟨s1,a1,a2,a3,a4,a5,_⟩:=hs.vJ b
    obtain ⟨s2,b1,b2,b3,b4,b5⟩:=ih a5
    exact ⟨s2,by rw [b1,a1];rfl,b2.trans a2,b3.trans a3,a4.trans b4,b5⟩
   .obtain ⟨s2,b1,b2,b3,b4,b5⟩:=ih hs
    refine ⟨s2,?_,b2,b3,b4,b5⟩
    rw [b1];simp only [List.foldl_cons]
    have:freeze s.L p=s.L:=by unfold freeze;split;exact absurd ⟨_,_,_,rfl⟩ hp;rfl
    rw [this]
 intro l
 induction l with
 | nil=>intro s hs;exact ⟨s,rfl,rfl,rfl,aj.refl s,hs⟩
 | cons q l ih =>
  intro s hs
  simp only [Rb]
  cases dF env q with
  | none=>exact ih hs
  | some v =>
   obtain ⟨s1,a1,a2,a3,a4,a5⟩:=fold (ps:=mV v) hs
   obtain ⟨s2,b1,b2,b3,b4,b5⟩:=ih a5
   exact ⟨s2,by rw [b1,a1],b2.trans a2,b3.trans a3,a4.trans b4,b5⟩
def SR (s:S) (ai:Nat) (val:Nat->Value):List (Nat×Bool×Ty)->List TV->List (List Nat)->Prop
 | [],[],[]=>True
 | (q,o,_)::r,v::vs,ids::an=>HR s.N s.H ai (AF o) v (val q) ids/\(∀ z∈ids,s.aF z)/\SR s ai val r vs an
 | _,_,_=>False
theorem SR.keep {s s':S} {ai:Nat} {val:Nat->Value} (hN:∀ z,s.N z->z < s.H.length->s'.N z) (hH:s'.H=s.H) (hl:∀ z,s.aF z->s'.aF z):∀ {l:List (Nat×Bool×Ty)} {vs:List TV} {an:List (List Nat)},SR s ai val l vs an->SR s' ai val l vs an
 | [],[],[],_=>trivial
 | (q,o,t)::r,v::vs,ids::an,h=>⟨h.1.frame (fun z hz au=>⟨hN z hz au,by rw [hH]⟩) (fun z _=>by rw [hH]),fun z hz=>hl z (h.2.1 z hz),SR.keep hN hH hl h.2.2⟩
theorem SR.ai {s:S} {ai:Nat} {val:Nat->Value}:∀ {l:List (Nat×Bool×Ty)} {vs:List TV} {an:List (List Nat)},SR s ai val l vs an->∀ z∈an.flatten,s.aF z
 | [],[],[],_=>by simp
 | (q,o,t)::r,v::vs,ids::an,h=>by
  intro z hz
  rw [Ze,Zh] at hz
  rcases hz with hz | hz
  .exact h.2.1 z hz
  .exact SR.ai h.2.2 z hz
theorem XH {env:bA} {e:Env} {val:Nat->Value} (hval:∀ q w,cS e q=some w->val q=w):∀ {l:List (Nat×Bool×Ty)} {s:S} {vs:List TV} {L':LS},aD s->cI s env e->Dc env l s.L=some (vs,L') ->
  ∃ s1 an,s1.L=L'/\s1.H=s.H/\s1.μ=s.μ/\aj s s1/\aD s1/\(∀ z,s.aF z->s1.aF z)/\SR s1 s.ai val l vs an/\an.flatten.Nodup/\(∀ z∈an.flatten,¬ s.aF z)
 | [],s,vs,L',hs,he,h=>by
  simp [Dc] at h;obtain ⟨rfl,rfl⟩:=h
  exact ⟨s,[],rfl,rfl,rfl,aj.refl s,hs,fun _ h=>h,trivial,by simp,by simp⟩
 | (q,o,t)::l,s,vs,L',hs,he,h=>by
  simp only [Dc] at h
  replace h:=ob h;obtain ⟨p,h1,h⟩:=h
  replace h:=ob h;obtain ⟨⟨x,L2⟩,h2,h⟩:=h
  replace h:=ob h;obtain ⟨⟨cB,L3⟩,h3,h⟩:=h
  simp at h;obtain ⟨rfl,rfl⟩:=h
  obtain ⟨w,e1,r1⟩:=he.get h1
  have hw:=hval q w e1
  simp only at h3
  cases o with
  | true =>
   obtain ⟨hx,s1,ids,l1,g1,u1,k1,t1,hh,hl,oU,hnd,ho⟩:=QH hs r1 h2
   rw [<- l1] at h3
   obtain ⟨s2,an,a1,a2,a3,a4,a5,a6,a7,a8,a9⟩:=XH hval t1 (k1.env he) h3
   have aI:s1.ai=s.ai:=k1.ai
   refine ⟨s2,ids::an,a1,a2.trans g1,a3.trans u1,k1.trans a4,a5,fun z hz=>a6 z ((hl z).2 (.inl hz)),⟨?_,fun z hz=>a6 z ((hl z).2 (.inr hz)),by rw [<- aI];exact a7⟩,?_,?_⟩
   .rw [hw];exact hh.frame (fun z hz au=>⟨a4.N au hz,by rw [a2]⟩) (fun z _=>by rw [a2])
   .rw [Ze,Zn]
    exact ⟨hnd,a8,fun a ha b hb e=>by subst e;exact a9 a hb ((hl a).2 (.inr ha))⟩
   .intro z hz
    rw [Ze,Zh] at hz
    rcases hz with hz | hz
    .exact oU z hz
    .exact fun h=>a9 z hz ((hl z).2 (.inl h))
  | false =>
   simp only [vC] at h2
   split at h2
   .rename_i dh
    simp only [Z8] at dh
    replace h2:=ob h2;obtain ⟨⟨y,L4⟩,h4,h2⟩:=h2
    simp at h2;obtain ⟨rfl,rfl⟩:=h2
    obtain ⟨s1,ids,l1,g1,u1,k1,t1,nr,hl,oU,hnd,o1⟩:=Ik t hs (r1.cells dh.1) h4
    rw [<- l1] at h3
    obtain ⟨s2,an,a1,a2,a3,a4,a5,a6,a7,a8,a9⟩:=XH hval t1 (k1.env he) h3
    have aI:s1.ai=s.ai:=k1.ai
    refine ⟨s2,ids::an,a1,a2.trans g1,a3.trans u1,k1.trans a4,a5,fun z hz=>a6 z ((hl z).2 (.inl hz)),⟨⟨_,by rw [hw];exact W8 r1 dh.1 dh.2,dz.frame (fun z hz au=>⟨a4.N au hz,by rw [a2]⟩) t nr (fun z _=>by rw [a2])⟩,fun z hz=>a6 z ((hl z).2 (.inr hz)),by rw [<- aI];exact a7⟩,?_,?_⟩
    .rw [Ze,Zn]
     exact ⟨hnd,a8,fun a ha b hb e=>by subst e;exact a9 a hb ((hl a).2 (.inr ha))⟩
    .intro z hz
     rw [Ze,Zh] at hz
     rcases hz with hz | hz
     .exact oU z hz
     .exact fun h=>a9 z hz ((hl z).2 (.inl h))
   .simp at h2
def ABr (s:S) (ai b:Nat) (v:TV):Prop:=∃ (t:Ty) (x:List (List t.T)),v=⟨.sl (.os t),x⟩/\t.flat=true/\match s.μ b with
 | none=>x=[]
 | some m=>m.es=1/\m.n=x.length/\∃ k,ah s.H m.z=some k/\Fit m.sh x.length k.cells/\k.ro=false/\ai<=m.z/\∀ i (hi:i < x.length),∃ v,k.cells[m.sh+i]? = some v/\iE (fun z=>s.br z=some (b,i)) s.H ai t x[i] v
def ABa (s:S) (ai b:Nat) (v:TV):Prop:=∃ u x,v=⟨.sl u,x⟩/\u.iQ=false/\match s.μ b with
 | none=>x=[]
 | some m=>m.es=u.size/\m.n=x.length/\∃ k,ah s.H m.z=some k/\Fit m.sh (x.length*u.size) k.cells/\(∀ i (h:i < x.length),ax s.N s.H u x[i] ((k.cells.drop (m.sh+i*u.size)).take u.size))/\k.ro=false/\ai<=m.z
def ABm (s:S) (ai b:Nat) (v:TV):Prop:=∃ (es:List (Int×Int)) (m:MB) (k:bz),v=⟨.sl Fh,([[es]]:List (List (List (Int×Int))))⟩/\s.μ b=some m/\m.sh=0/\ah s.H m.z=some k/\k.mp=some es/\k.ro=false/\ai<=m.z/\k.cells=[]
def AB (s:S) (ai b:Nat) (v:TV):Prop:=(ABa s ai b v\/ABr s ai b v)\/ABm s ai b v
theorem Qqz {s:S} (hs:aD s) {t:Ty} {b:Nat} {x:TV} (h2:Rc t b s.L=some x):AB s s.ai b x:=by
 unfold Rc at h2
 split at h2
 .rename_i aB es hb
  replace h2:=ob h2;obtain ⟨y,h4,h2⟩:=h2
  simp at h2;subst h2
  have e0:=Qr h4
  injection e0 with e0;subst e0
  have:=Qg h4;subst this
  right
  have hB:=hs.aH b _ hb
  unfold BR at hB;simp only at hB
  obtain ⟨_,m,k,g1,g2,g3,g4,g5,g6,g7⟩:=hB
  exact ⟨es,m,k,rfl,g1,g2,g3,g4,g5,g6,g7⟩
 .rename_i aB t' xs hb
  replace h2:=ob h2;obtain ⟨y,h4,h2⟩:=h2
  simp at h2;subst h2
  have e0:=Qr h4
  injection e0 with e0;subst e0
  have:=Qg h4;subst this
  refine .inl (.inr ?_)
  obtain ⟨_,cJ,cz⟩:=mT hs hb
  refine ⟨t',xs,rfl,cJ,?_⟩
  rcases cz with ⟨hm,hx⟩ | ⟨m,k,hm,a1,a2,a3,a4,a5,a6,a7⟩
  .rw [hm];exact hx
  .rw [hm];exact ⟨a1,a2,k,a3,a4,a5,a6,fun i hi=>a7 i hi (by simp)⟩
 .unfold J4 at h2
  split at h2
  .rename_i aB u xs hb
   split at h2
   .simp at h2
   rename_i eE
   refine .inl (.inl ?_)
   replace h2:=ob h2;obtain ⟨y,h4,h2⟩:=h2
   simp at h2;subst h2
   have e0:=Qr h4
   injection e0 with e0;subst e0
   have:=Qg h4;subst this
   refine ⟨u,xs,rfl,eE,?_⟩
   cases hm:s.μ b with
   | none=>exact E2 hs hb hm
   | some m =>
    obtain ⟨a1,a2,k,a3,a4,a5,a6,a7⟩:=mS hs hb hm
    exact ⟨a1,a2,k,a3,AE hs hb hm a3,a5,(a6 rfl).1,(a6 rfl).2⟩
  .simp at h2
def rD (s:S) (ai:Nat):List Nat->Nat->List TV->List (List Nat)->Prop
 | [],_,[],[]=>True
 | b::r,n,v::vs,j::js=>match n with
  | 0=>(j=[]/\AB s ai b v)/\rD s ai r 0 vs js
  | m+1=>CB s ai b v j/\rD s ai r m vs js
 | _,_,_,_=>False
theorem rD.ai {s:S} {ai:Nat}:∀ {ids:List Nat} {n:Nat} {vs:List TV} {js:List (List Nat)},rD s ai ids n vs js->∀ z∈js.flatten,s.aF z
 | [],_,[],[],_=>by simp
 | b::r,n,v::vs,j::js,h=>by
  intro z hz
  rw [Ze,Zh] at hz
  cases n with
  | zero =>
   obtain ⟨⟨rfl,_⟩,h2⟩:=h
   rcases hz with hz | hz
   .simp at hz
   .exact rD.ai h2 z hz
  | succ n =>
   rcases hz with hz | hz
   .exact h.1.2 z hz
   .exact rD.ai h.2 z hz
theorem Qds {env:bA} {e:Env}:∀ {l:List (Nat×Ty)} {s:S} {vs:List TV} {ids:List Nat} {L':LS},aD s->cI s env e->NB env l s.L=some (vs,ids,L') ->
  ∃ s1 js,s1.L=L'/\s1.H=s.H/\s1.μ=s.μ/\aj s s1/\aD s1/\(∀ z,s.aF z->s1.aF z)/\js.flatten.Nodup/\(∀ z∈js.flatten,¬ s.aF z)/\∀ Bz Dd Kh,rD s1 s.ai Dd 0 Bz Kh->rD s1 s.ai (ids++Dd) l.length (vs++Bz) (js++Kh)
 | [],s,vs,ids,L',hs,he,h=>by
  simp [NB] at h;obtain ⟨rfl,rfl,rfl⟩:=h
  exact ⟨s,[],rfl,rfl,rfl,aj.refl s,hs,fun _ h=>h,by simp,by simp,fun _ _ _ h=>h⟩
 | (q,t)::l,s,vs,ids,L',hs,he,h=>by
  simp only [NB] at h
  replace h:=ob h;obtain ⟨p,h1,h⟩:=h
  split at h
  .rename_i b
   replace h:=ob h;obtain ⟨⟨x,L2⟩,h2,h⟩:=h
   replace h:=ob h;obtain ⟨⟨cB,NC,L3⟩,h3,h⟩:=h
   simp at h;obtain ⟨rfl,rfl,rfl⟩:=h
   unfold J5 at h2
   split at h2
   .rename_i aB cs hb
    replace h2:=ob h2;obtain ⟨⟨y,L4⟩,h4,h2⟩:=h2
    simp at h2;obtain ⟨rfl,rfl⟩:=h2
    have hB:=hs.aH b _ hb
    unfold BR at hB;simp only at hB
    obtain ⟨_,m,k,hm,dH,hk,cx,bh,kB⟩:=hB
    obtain ⟨s1,j,l1,g1,u1,k1,t1,nr,nv,Ni,C6,o1⟩:=Ik t hs cx h4
    simp only at h3
    rw [<- l1] at h3
    obtain ⟨s2,js,a1,a2,a3,a4,a5,a6,a7,a8,a9⟩:=Qds t1 (k1.env he) h3
    have aI:s1.ai=s.ai:=k1.ai
    have gz:b < s1.L.bl.length:=Zm (Qn hb) k1.nb
    have Xl:CB s1 s.ai b ⟨t,y⟩ j:=⟨⟨m,k,by rw [u1];exact hm,dH,by rw [g1];exact hk,bh,kB,by rw [g1] at nr ⊢;exact nr⟩,fun z hz=>(nv z).2 (.inr hz)⟩
    refine ⟨s2,j::js,a1,a2.trans g1,a3.trans u1,k1.trans a4,a5,fun z hz=>a6 z ((nv z).2 (.inl hz)),?_,fun z hz=>?_,fun Bz Dd Kh h2=>?_⟩
    .rw [Ze,Zn]
     exact ⟨C6,a7,fun p hp q hq e=>by subst e;exact a8 p hq ((nv p).2 (.inr hp))⟩
    .rw [Ze,Zh] at hz
     rcases hz with hz | hz
     .exact Ni z hz
     .exact fun h=>a8 z hz ((nv z).2 (.inl h))
    .exact ⟨Xl.keep a4 gz a2 a6,by rw [<- aI];exact a9 Bz Dd Kh (by rw [aI];exact h2)⟩
   .simp at h2
  .simp at h
theorem Qdt {env:bA} {e:Env} {s:S} (hs:aD s) (he:cI s env e):∀ {l:List (Nat×Ty)} {vs:List TV} {ids:List Nat},Ki env l s.L=some (vs,ids)->∃ js,js.flatten=[]/\rD s s.ai ids 0 vs js
 | [],vs,ids,h=>by simp [Ki] at h;obtain ⟨rfl,rfl⟩:=h;exact ⟨[],rfl,trivial⟩
 | (q,t)::l,vs,ids,h=>by
  have next:∀ {b:Nat},(Q1 (Rc t b s.L) fun x=>Q1 (Ki env l s.L) fun y=>some (x::y.1,b::y.2))=some (vs,ids)->∃ js,js.flatten=[]/\rD s s.ai ids 0 vs js:=by
   intro b h
   replace h:=ob h;obtain ⟨x,h2,h⟩:=h
   replace h:=ob h;obtain ⟨⟨cB,NC⟩,h3,h⟩:=h
   simp at h;obtain ⟨rfl,rfl⟩:=h
   obtain ⟨js,j1,j2⟩:=Qdt hs he h3
   exact ⟨[]::js,by simpa using j1,⟨rfl,Qqz hs h2⟩,j2⟩
  simp only [Ki] at h
  replace h:=ob h;obtain ⟨b,_,h⟩:=h
  exact next h
theorem Qdu {a:gJ} {env:bA} {e:Env} {val:Nat->Value} (hval:∀ q w,cS e q=some w->val q=w) {s:S} {vs:List TV} {ids:List Nat} {L':LS} (hs:aD s) (he:cI s env e) (h:ND a env s.L=some (vs,ids,L')) :
  ∃ s1 v1 v2 an js,vs=v1++v2/\v1.length=a.bN.length/\s1.L=L'/\s1.H=s.H/\aj s s1/\aD s1/\SR s1 s.ai val a.bN v1 an/\(an.flatten++js.flatten).Nodup/\rD s1 s.ai ids a.Fi.length v2 js/\NF L' ids=true:=by
 unfold ND at h
 replace h:=ob h;obtain ⟨⟨v1,L1⟩,h1,h⟩:=h
 replace h:=ob h;obtain ⟨⟨v2,i2,L2⟩,h2,h⟩:=h
 replace h:=ob h;obtain ⟨⟨v3,i3⟩,h3,h⟩:=h
 simp only at h2 h3 h
 split at h
 .rename_i De
  simp at h;obtain ⟨rfl,rfl,rfl⟩:=h
  obtain ⟨s1,an,a1,a2,a3,a4,a5,a6,a7,a8,a9⟩:=XH hval hs he h1
  rw [<- a1] at h2
  obtain ⟨s2,js,b1,b2,b3,b4,b5,b6,b7,b8,b9⟩:=Qds a5 (a4.env he) h2
  rw [<- b1] at h3
  obtain ⟨Kh,j1,j2⟩:=Qdt b5 ((a4.trans b4).env he) h3
  have tj:s1.ai=s.ai:=a4.ai
  have kW:s2.ai=s1.ai:=b4.ai
  have hlen:v1.length=a.bN.length:=by
   have:∀ {l:List (Nat×Bool×Ty)} {L L':LS} {vs:List TV},Dc env l L=some (vs,L')->vs.length=l.length:=by
    intro l
    induction l with
    | nil=>intro L L' vs h;simp [Dc] at h;obtain ⟨rfl,_⟩:=h;rfl
    | cons q l ih =>
     intro L L' vs h
     obtain ⟨q,o,t⟩:=q
     simp only [Dc] at h
     replace h:=ob h;obtain ⟨p,_,h⟩:=h
     replace h:=ob h;obtain ⟨x,_,h⟩:=h
     replace h:=ob h;obtain ⟨y,hy,h⟩:=h
     simp at h;obtain ⟨rfl,_⟩:=h;simp [ih (show Dc env l x.2=some (y.1,y.2) from hy)]
   exact this h1
  refine ⟨s2,v1,v2++v3,an,js++Kh,rfl,hlen,b1,b2.trans a2,a4.trans b4,b5,a7.keep (fun z hz au=>b4.N au hz) b2 b6,?_,?_,?_⟩
  .rw [List.flatten_append,j1,List.append_nil,Zn]
   exact ⟨a8,b7,fun p hp q hq e=>by subst e;exact b8 p hq (a7.ai p hp)⟩
  .rw [<- tj]
   exact b9 _ _ _ (by rw [<- kW];exact j2)
  .exact De
 .simp at h
theorem Qc6:∀ {l:List Nat},Rd l=true->l.Nodup
 | [],_=>List.nodup_nil
 | x::r,h=>by
  simp only [Rd,Z8,Bool.not_eq_true'] at h
  exact List.nodup_cons.2 ⟨C3 h.1,Qc6 h.2⟩
theorem Qdv:∀ {a b:List Nat},Ix a b=true->a=b
 | [],[],_=>rfl
 | x::r,y::s,h=>by
  simp only [Ix,Z8] at h
  rw [Z7 h.1,Qdv h.2]
 | [],_::_,h=>by simp [Ix] at h
 | _::_,[],h=>by simp [Ix] at h
theorem XI {ids:List Nat}:∀ {l m:List (Option VB)} {n:Nat},BG ids n l m=true->∀ b B,l[b]? = some (some B)->n+b∉ids->∃ B',m[b]? = some (some B')/\B.aB=B'.aB
 | [],_,_,_,b,B,hb,_=>by simp at hb
 | none::l,y::m,n,h,b,B,hb,hn=>by
  simp only [BG] at h
  cases b with
  | zero=>simp at hb
  | succ b =>
   simp only [List.getElem?_cons_succ] at hb ⊢
   exact XI h b B hb (by rw [show n+1+b=n+(b+1) by omega];exact hn)
 | some x::l,some y::m,n,h,b,B,hb,hn=>by
  simp only [BG,Z8,Bool.or_eq_true] at h
  cases b with
  | zero =>
   simp at hb;subst hb
   rcases h.1 with h1 | h1
   .exact absurd (List.contains_iff_mem.1 h1) (by simpa using hn)
   .exact ⟨y,rfl,Z7 h1⟩
  | succ b =>
   simp only [List.getElem?_cons_succ] at hb ⊢
   exact XI h.2 b B hb (by rw [show n+1+b=n+(b+1) by omega];exact hn)
 | none::_,[],_,h,_,_,_,_=>by simp [BG] at h
 | some _::_,[],_,h,_,_,_,_=>by simp [BG] at h
 | some _::_,none::_,_,h,_,_,_,_=>by simp [BG] at h
theorem Qr0 {L:LS} {b:Nat} {B:VB}:Qi L b=some B↔L.bl[b]? = some (some B):=by
 unfold Qi
 constructor
 .intro h;split at h
  .rename_i k hk;injection h with h;rw [hk,h]
  .simp at h
 .intro h;rw [h]
theorem Qiq {b:Nat} {v:TV} {L L':LS} (h:Iy b v L=some L'):(∃ n u xs x,Qi L b=some ⟨n,true,.arr u xs⟩/\v=⟨.sl u,x⟩/\L'=cU L b ⟨n+1,true,.arr u x⟩/\u≠Fh) \/
  (∃ n t xs x,Qi L b=some ⟨n,true,.rows t xs none⟩/\v=⟨.sl (.os t),x⟩/\L'=cU L b ⟨n+1,true,.rows t x none⟩/\Ty.os t≠Fh) \/
  ∃ n XJ x,Qi L b=some ⟨n,true,.mp XJ⟩/\v=⟨.sl Fh,x⟩/\L'=cU L b ⟨n+1,true,.mp (Ct x)⟩:=by
 unfold Iy at h
 split at h
 .rename_i x
  split at h
  .rename_i n XJ hb
   simp at h;exact .inr (.inr ⟨n,XJ,x,hb,rfl,h.symm⟩)
  .simp at h
 .rename_i aV
  split at h
  .rename_i n u xs t x hb
   split at h
   .rename_i he
    have:=Ty.beq_eq he;subst this
    simp at h;exact .inr (.inl ⟨n,u,xs,x,hb,rfl,h.symm,fun e=>by unfold Fh at e;injection e with e;subst e;exact aV x rfl⟩)
   .simp at h
  .obtain ⟨n,u,xs,x,g1,g2,g3⟩:=Xb h
   exact .inl ⟨n,u,xs,x,g1,g2,g3,fun e=>by subst e;exact aV x g2⟩
theorem Kj:∀ {ids:List Nat} {n:Nat} {vs:List TV} {L L':LS},tn ids n vs L=some L'->ids.Nodup ->
  L'.bl.length=L.bl.length/\L'.ct=L.ct/\(∀ c,c∉ids->Qi L' c=Qi L c)/\(∀ c∈ids,∃ B B',C7 L L' c B B')
 | [],n,[],L,L',h,_=>by simp [tn] at h;subst h;simp
 | b::ids,n,v::vs,L,L',h,hn=>by
  obtain ⟨gr,gd⟩:=List.nodup_cons.1 hn
  have key:∀ {L1:LS} {m:Nat} {B B':VB},Qi L b=some B->B.rw=true->B'.rw=true->B'.aB=B.aB+1->L1=cU L b B'->tn ids m vs L1=some L'->L'.bl.length=L.bl.length/\L'.ct=L.ct/\(∀ c,c∉b::ids->Qi L' c=Qi L c)/\(∀ c∈b::ids,∃ B B',C7 L L' c B B'):=by
   clear h
   intro L1 m B B' g1 g2 g3 g4 e h
   subst e
   have bG:=Qn g1
   obtain ⟨a1,a2,a3,a4⟩:=Kj h gd
   refine ⟨by rw [a1,oS],a2,fun c hc=>?_,fun c hc=>?_⟩
   .simp only [List.mem_cons,not_or] at hc
    rw [a3 c hc.2,wH (Ne.symm hc.1)]
   .rcases Z2 hc with rfl | hc
    .exact ⟨_,_,g1,g2,by rw [a3 c gr,Qs bG],g3,g4⟩
    .obtain ⟨B1,B2,b1,b2,b3⟩:=a4 c hc
     have aV:b≠c:=fun e=>gr (e▸hc)
     rw [wH aV] at b1
     exact ⟨B1,B2,b1,b2,b3⟩
  simp only [tn] at h
  cases n with
  | zero =>
   simp only at h
   replace h:=ob h;obtain ⟨L1,h1,h⟩:=h
   rcases Qiq h1 with ⟨n',u,xs,x,g1,g2,g3,_⟩ | ⟨n',u,xs,x,g1,g2,g3,_⟩ | ⟨n',e0,es,g1,g2,g3⟩
   .exact key g1 rfl rfl rfl g3 h
   .exact key g1 rfl rfl rfl g3 h
   .exact key g1 rfl rfl rfl g3 h
  | succ m =>
   simp only at h
   replace h:=ob h;obtain ⟨L1,h1,h⟩:=h
   obtain ⟨n',cs,g1,g2,g3⟩:=QL h1
   exact key g1 rfl rfl rfl g3 h
 | [],_,_::_,_,_,h,_=>by simp [tn] at h
 | _::_,_,[],_,_,h,_=>by simp [tn] at h
theorem NG {T:S} {ai:Nat}:∀ {ids:List Nat} {n:Nat} {vs:List TV} {js:List (List Nat)} {L L':LS},tn ids n vs L=some L'->ids.Nodup->rD T ai ids n vs js->∀ c∈ids,∃ B',Qi L' c=some B' /\
  (∀ sA:S,sA.μ c=T.μ c->sA.H=T.H->sA.L.ct=L.ct->sA.ai=ai->(∀ z i,T.br z=some (c,i)->sA.br z=some (c,i))->(∀ z,T.N z->sA.N z)->BR sA c B')
 | b::ids,n,v::vs,j::js,L,L',h,hn,hd,c,hc=>by
  obtain ⟨gr,gd⟩:=List.nodup_cons.1 hn
  simp only [tn] at h
  cases n with
  | zero =>
   simp only at h
   replace h:=ob h;obtain ⟨L1,h1,h⟩:=h
   rcases Qiq h1 with ⟨n',u,xs,x,g1,rfl,rfl,EA⟩ | ⟨n',u,xs,x,g1,rfl,rfl,EA⟩ | ⟨n',e0,x,g1,rfl,rfl⟩
   .have bG:=Qn g1
    obtain ⟨a1,a2,a3,a4⟩:=Kj h gd
    rcases Z2 hc with rfl | hc
    .refine ⟨_,by rw [a3 c gr,Qs bG],fun sA f1 f2 f3 f4 _ f5=>?_⟩
     unfold BR;simp only
     rw [f1]
     rcases hd.1.2 with (⟨u',x',e1,_,hh⟩ | ⟨t',x',e1,cJ,hh⟩) | FM
     .injection e1 with e1 e2
      injection e1 with e1;subst e1
      simp only [heq_eq_eq] at e2;subst e2
      cases hm:T.μ c with
      | none=>rw [hm] at hh;exact hh
      | some m =>
       rw [hm] at hh
       obtain ⟨q1,q2,k,q3,q4,q5,q6,q7⟩:=hh
       exact ⟨q1,q2,k,by rw [f2];exact q3,q4,fun i hi=>by rw [f2];exact ax.mono f5 _ (q5 i hi),fun _=>⟨q6,by rw [f4];exact q7⟩,fun e=>absurd e (by decide)⟩
     .injection e1 with e1 e2
      injection e1 with e1;subst e1
      simp only [heq_eq_eq] at e2;subst e2
      cases hm:T.μ c with
      | none=>rw [hm] at hh;exact hh
      | some m =>
       rw [hm] at hh
       obtain ⟨q1,q2,k,q3,q4,q5,q6,q7⟩:=hh
       refine ⟨q1,q2,k,by rw [f2];exact q3,by rw [show (Ty.os t').size=1 from rfl,Nat.mul_one];exact q4,fun i hi=>?_,fun _=>⟨q5,by rw [f4];exact q6⟩,fun e=>absurd e (by decide)⟩
       obtain ⟨v,p1,p2⟩:=q7 i hi
       refine ⟨v,?_,?_⟩
       .rw [show (Ty.os t').size=1 from rfl,Nat.mul_one]
        obtain ⟨hl,he⟩:=Z0 p1
        rw [List.drop_eq_getElem_cons hl,List.take_succ_cons,List.take_zero,he]
       .rcases p2 with ⟨_,rfl⟩ | ⟨_,_,_,rfl,_⟩<;>simp [az,Qa]
     .obtain ⟨es,m,k,e1,_⟩:=FM
      injection e1 with e1 _
      injection e1 with e1
      exact absurd e1 EA
    .exact NG h gd hd.2 c hc
   .have bG:=Qn g1
    obtain ⟨a1,a2,a3,a4⟩:=Kj h gd
    rcases Z2 hc with rfl | hc
    .refine ⟨_,by rw [a3 c gr,Qs bG],fun sA f1 f2 f3 f4 f6 f5=>?_⟩
     unfold BR;simp only
     rw [f1]
     rcases hd.1.2 with (⟨u',x',e1,eE,hh⟩ | ⟨t',x',e1,cJ,hh⟩) | FM
     .injection e1 with e1 e2
      injection e1 with e1;subst e1
      simp [Ty.iQ] at eE
     .injection e1 with e1 e2
      injection e1 with e1;injection e1 with e1;subst e1
      simp only [heq_eq_eq] at e2;subst e2
      refine ⟨trivial,cJ,?_⟩
      cases hm:T.μ c with
      | none=>rw [hm] at hh;exact hh
      | some m =>
       rw [hm] at hh
       obtain ⟨q1,q2,k,q3,q4,q5,q6,q7⟩:=hh
       refine ⟨q1,q2,k,by rw [f2];exact q3,q4,q5,by rw [f4];exact q6,fun i hi _=>?_⟩
       obtain ⟨v,p1,p2⟩:=q7 i hi
       exact ⟨v,p1,by rw [f2,f4];exact p2.mono cJ (fun z hz=>⟨f6 z i hz,rfl⟩)⟩
     .obtain ⟨es,m,k,e1,_⟩:=FM
      injection e1 with e1 _
      injection e1 with e1
      exact absurd e1 EA
    .exact NG h gd hd.2 c hc
   .have bG:=Qn g1
    obtain ⟨a1,a2,a3,a4⟩:=Kj h gd
    rcases Z2 hc with rfl | hc
    .refine ⟨_,by rw [a3 c gr,Qs bG],fun sA f1 f2 f3 f4 f6 f5=>?_⟩
     unfold BR;simp only
     rw [f1]
     rcases hd.1.2 with (⟨u',x',e1,eE,hh⟩ | ⟨t',x',e1,cJ,hh⟩) | ⟨es,m,k,e1,q1,q2,q3,q4,q5,q6,q7⟩
     .injection e1 with e1 e2
      injection e1 with e1;subst e1
      simp [Ty.iQ,Fh] at eE
     .injection e1 with e1 e2
      injection e1 with e1;unfold Fh at e1;injection e1 with e1;subst e1
      simp [Ty.flat] at cJ
     .injection e1 with _ e2
      subst e2
      exact ⟨trivial,m,k,q1,q2,by rw [f2];exact q3,q4,q5,by rw [f4];exact q6,q7⟩
    .exact NG h gd hd.2 c hc
  | succ m =>
   simp only at h
   replace h:=ob h;obtain ⟨L1,h1,h⟩:=h
   obtain ⟨n',cs,g1,g2,rfl⟩:=QL h1
   have bG:=Qn g1
   obtain ⟨a1,a2,a3,a4⟩:=Kj h gd
   rcases Z2 hc with rfl | hc
   .refine ⟨_,by rw [a3 c gr,Qs bG],fun sA f1 f2 f3 f4 _ f5=>?_⟩
    obtain ⟨m,k,q1,q2,q3,q4,q5,q6⟩:=hd.1.1
    unfold BR;simp only
    refine ⟨trivial,m,k,by rw [f1];exact q1,q2,by rw [f2];exact q3,?_,q4,by rw [f4];exact q5⟩
    rw [<- f3]
    refine AK _ ?_
    rw [f2]
    exact ax.mono (fun z hz=>S.gu (f5 z hz)) _ q6.rep
   .exact NG h gd hd.2 c hc
 | [],_,_,_,_,_,_,_,_,c,hc=>by simp at hc
 | _::_,_,[],_,_,_,h,_,_,_,_=>by simp [tn] at h
 | _::_,_,_::_,[],_,_,_,_,hd,_,_=>hd.elim
theorem XK {s1 T:S} (hs:aD s1) (hT:aD T) (hk:aj s1 T) {ids:List Nat} (hn:ids.Nodup) (dB:∀ b B,b∉ids->Qi s1.L b=some B->Qi T.L b=some B) (cP:∀ b∈ids,∃ B,Qi T.L b=some B/\B.rw=true)
  {ai n:Nat} (aI:s1.ai=ai) {vs:List TV} {js:List (List Nat)} (hd:rD T ai ids n vs js) {L1:LS} (h:tn ids n vs s1.L=some L1) {bt:List Nat} (hr:∀ z∈bt,T.aF z) :
  ∃ sB,sB.L=L1/\sB.H=T.H/\aj s1 sB/\aD sB/\(∀ z∈bt,sB.aF z)/\∀ z,T.N z->sB.N z:=by
 obtain ⟨f1,f2,f3,f4⟩:=Kj h hn
 have au:∀ b∈ids,b < s1.L.bl.length:=fun b hb=>by obtain ⟨B,B',b1,_⟩:=f4 b hb;exact Qn b1
 have De:∀ b B,b∉ids->Qi s1.L b=some B->(∀ m,s1.μ b=some m->ah T.H m.z=ah s1.H m.z)/\∀ z i,s1.br z=some (b,i)->T.br z=some (b,i)/\ah T.H z=ah s1.H z:=by
  intro b B hb hB
  obtain ⟨B0,b1,b2,b3⟩:=hk.live b B (Qn hB) (dB b B hb hB)
  rw [hB] at b1;injection b1 with b1;subst b1
  exact (b3 rfl).2
 have hz:∀ b B m,b∉ids->Qi s1.L b=some B->s1.μ b=some m->ah T.H m.z=ah s1.H m.z:=fun b B m hb hB hm=>(De b B hb hB).1 m hm
 let Kn:Nat->Option (Nat×Nat):=fun z=>match T.br z with | some p=>if p.1 < s1.L.bl.length then some p else none | none=>none
 have kn1:∀ z p,Kn z=some p->T.br z=some p/\p.1 < s1.L.bl.length:=by
  intro z p hp
  simp only [Kn] at hp
  split at hp
  .rename_i q hq
   split at hp
   .injection hp with hp;subst hp;rename_i h;exact ⟨hq,h⟩
   .simp at hp
  .simp at hp
 have kn2:∀ z p,T.br z=some p->p.1 < s1.L.bl.length->Kn z=some p:=by
  intro z p hp hl;simp only [Kn];rw [hp];simp [hl]
 obtain ⟨sA,e1,e2,e3,k3,t3,Nq,n3⟩:=Qdq (Kn:=Kn) (N:=T.N) (aQ:=ids) (H':=T.H)
  (ids:=fun z=>bM s1 z/\(¬ ∃ b B m,b∉ids/\Qi s1.L b=some B/\s1.μ b=some m/\m.z=z)/\¬ ∃ b i B,b∉ids/\Qi s1.L b=some B/\s1.br z=some (b,i))
  (bt:=fun z=>z∈bt) (aO:=fun z=>∃ b m,b∈ids/\s1.μ b=some m/\m.z=z) hs f1 f2 f3 f4
  (fun c hc=>by
   obtain ⟨B',b1,b2⟩:=NG h hn hd c hc
   refine ⟨B',b1,fun sA q1 q2 q3 q4 q6 q5=>b2 sA (by rw [q1,hk.mu c (au c hc)]) q2 q3 (by rw [q4,aI]) (fun z i hz=>by rw [q6];exact kn2 z _ hz (au c hc)) q5,fun m hm=>⟨c,m,hc,hm,rfl⟩⟩)
  (fun z aX=>by
   rcases aX.1 with ⟨b,B,m,h1,h2,h3,h4⟩ | h1 | ⟨p,hp⟩
   .by_cases hb:b∈ids
    .exact .inr (.inl ⟨b,B,m,hb,h1,h2,h3,h4⟩)
    .exact absurd ⟨b,B,m,hb,h1,h3,h4⟩ aX.2.1
   .exact .inl h1
   .refine .inr (.inr ⟨p,hp,fun B hB=>?_⟩)
    by_cases hb:p.1∈ids
    .exact hb
    .exact absurd ⟨p.1,p.2,B,hb,hB,hp⟩ aX.2.2)
  (fun z p hp=>by
   obtain ⟨hp,hl⟩:=kn1 z p hp
   obtain ⟨QS,k2',Xk,Nr⟩:=hT.kl z p hp
   refine ⟨hl,QS,hT.ka z p hp,fun dJ=>Xk (hr z dJ),fun hh=>?_,fun c C m g1 g2=>?_,?_⟩
   .refine hh.2 ⟨.inr (.inl hh.1),?_,?_⟩
    .rintro ⟨b,B,m,p1,p2,p3,rfl⟩
     exact hs.lm b B m p2 p3 hh.1
    .rintro ⟨b,i,B,p1,p2,p3⟩
     exact (hs.kl z _ p3).2.2.1 hh.1
   .by_cases hc:c∈ids
    .obtain ⟨B,p1,_⟩:=cP c hc
     exact Nr c B m p1 (by rw [hk.mu c (au c hc)];exact g2)
    .rw [f3 c hc] at g1
     exact Nr c C m (dB c C hc g1) (by rw [hk.mu c (Qn g1)];exact g2)
   .exact hk.own z (.inr (.inr ⟨p,hp⟩)))
  (fun z b i B hb hB hp=>kn2 z _ ((De b B hb hB).2 z i hp).1 (Qn hB))
  hk.len
  (fun z MX XL=>by
   by_cases ho:bM s1 z
   .by_cases hq:∃ b B m,b∉ids/\Qi s1.L b=some B/\s1.μ b=some m/\m.z=z
    .obtain ⟨b,B,m,q1,q2,q3,rfl⟩:=hq
     exact hz b B m q1 q2 q3
    .have:∃ b i B,b∉ids/\Qi s1.L b=some B/\s1.br z=some (b,i):=Classical.byContradiction (fun hc=>XL ⟨ho,hq,hc⟩)
     obtain ⟨b,i,B,q1,q2,q3⟩:=this
     exact ((De b B q1 q2).2 z i q3).2
   .exact hk.fr z MX ho)
  (fun z aX ho=>by
   obtain ⟨b,m,q1,q2,rfl⟩:=ho
   obtain ⟨B,q3,_⟩:=cP b q1
   exact hT.lm b B m q3 (by rw [hk.mu b (au b q1)];exact q2) (hr _ aX))
  (fun z aX=>by
   have hl:=hr z aX
   rcases hk.own z (.inr (.inl hl)) with h1 | h1
   .left;refine ⟨h1,?_,?_⟩
    .rintro ⟨b,B,m,q1,q2,q3,rfl⟩
     exact hT.lm b B m (dB b B q1 q2) (by rw [hk.mu b (Qn q2)];exact q3) hl
    .rintro ⟨b,i,B,q1,q2,q3⟩
     exact (hT.kl z _ ((De b B q1 q2).2 z i q3).1).2.2.1 hl
   .exact .inr h1)
  (fun z aX=>hT.iR z (hr z aX))
  (fun sA ho hb z hN=>by
   refine ⟨fun aY=>?_,fun kD=>hN.2 (by rw [hk.dj,<- hb];exact kD)⟩
   rcases ho z aY with ⟨b,B,m,q1,q2,q3,q4,q5⟩ | ⟨q1,q2⟩ | q1 | ⟨b,m,q1,q2,q3⟩ | ⟨p,q1⟩
   .rw [f3 b q5] at q1
    exact hN.1 (.inl ⟨b,B,m,dB b B q5 q1,q2,by rw [hk.mu b (Qn q1)];exact q3,q4⟩)
   .refine q2 ⟨.inr (.inl q1),?_,?_⟩
    .rintro ⟨b,B,m,p1,p2,p3,rfl⟩
     exact hs.lm b B m p2 p3 q1
    .rintro ⟨b,i,B,p1,p2,p3⟩
     exact (hs.kl z _ p3).2.2.1 q1
   .exact hN.1 (.inr (.inl (hr z q1)))
   .obtain ⟨B,p1,p2⟩:=cP b q1
    exact hN.1 (.inl ⟨b,B,m,p1,p2,by rw [hk.mu b (au b q1)];exact q2,q3⟩)
   .exact hN.1 (.inr (.inr ⟨p,(kn1 z p q1).1⟩)))
 exact ⟨sA,e1,e2,k3,t3,fun z aX=>(Nq z).2 (.inr aX),n3⟩
theorem Qa6:∀ {ids:List Nat} {n:Nat} {vs:List TV} {js:List (List Nat)} {T s:S} {L':LS},aD s->rD T s.ai ids n vs js->(∀ b∈ids,b < s.L.bl.length/\s.μ b=T.μ b)->s.H=T.H->(∀ z,T.N z->s.N z)->(∀ z∈js.flatten,s.aF z)->js.flatten.Nodup->Iz ids n vs s.L=some L' ->
  ∃ s',s'.L=L'/\s'.H=s.H/\aj s s'/\aD s'/\(∀ z,s.N z->s'.N z)/\(∀ z,s.aF z->z∉js.flatten->s'.aF z)
 | [],n,vs,js,T,s,L',hs,hd,hb,hH,hN,hl,hn,h=>by
  simp [Iz] at h;subst h
  exact ⟨s,rfl,rfl,aj.refl s,hs,fun _ h=>h,fun _ h _=>h⟩
 | b::ids,0,vs,js,T,s,L',hs,hd,hb,hH,hN,hl,hn,h=>by
  simp [Iz] at h;subst h
  exact ⟨s,rfl,rfl,aj.refl s,hs,fun _ h=>h,fun _ h _=>h⟩
 | b::ids,n+1,v::vs,j::js,T,s,L',hs,hd,hb,hH,hN,hl,hn,h=>by
  obtain ⟨vK,oE⟩:=hd
  rw [Ze,Zn] at hn
  obtain ⟨n1,n2,n3⟩:=hn
  simp only [Iz] at h
  replace h:=ob h;obtain ⟨L1,h1,h⟩:=h
  have hc:CB s s.ai b v j:=CB.to (hb b (by simp)).2 hH hN (fun z hz=>hl z (by simp [hz])) vK
  obtain ⟨s1,a1,a2,a3,a4,a5,a6⟩:=Qik hs hc n1 h1
  rw [<- a1] at h
  obtain ⟨s2,b1,b2,b3,b4,b5,b6⟩:=Qa6 (T:=T) a4 (by rw [a3.ai];exact oE) (fun c hc=>by
   obtain ⟨q1,q2⟩:=hb c (by simp [hc])
   exact ⟨Zm q1 a3.nb,by rw [a3.mu c q1];exact q2⟩) (a2.trans hH) (fun z hz=>a5 z (hN z hz)) (fun z hz=>a6 z (hl z (by rw [Ze,Zh];exact .inr hz)) (fun hm=>n3 z hm z hz rfl)) n2 h
  exact ⟨s2,b1,b2.trans a2,a3.trans b3,b4,fun z hz=>b5 z (a5 z hz),fun z hz hm=>by
   rw [Ze,Zh,not_or] at hm
   exact b6 z (a6 z hz hm.1) hm.2⟩
 | _::_,_+1,[],_,_,_,_,_,hd,_,_,_,_,_,_=>by cases ‹List (List Nat)› <;> exact hd.elim
 | _::_,_+1,_::_,[],_,_,_,_,hd,_,_,_,_,_,_=>hd.elim
theorem Qc8 {val:Nat->Value}:∀ {l:List (Nat×Bool×Ty)} {vs:List TV} {an:List (List Nat)} {env ak:bA} {s:S} {L':LS},aD s->SR s s.ai val l vs an->an.flatten.Nodup->(∀ q p,q∉l.map (·.1)->dF env q=some p->ER s p (val q))->IA l vs env s.L=some (ak,L') ->
  ∃ s',s'.L=L'/\s'.H=s.H/\aj s s'/\aD s'/\(∀ q p,dF ak q=some p->ER s' p (val q))/\(∀ q,q∉l.map (·.1)->dF ak q=dF env q)/\∀ q∈l.map (·.1),∃ p,dF ak q=some p
 | [],[],[],env,ak,s,L',hs,_,_,he,h=>by
  simp [IA] at h;obtain ⟨rfl,rfl⟩:=h
  exact ⟨s,rfl,rfl,aj.refl s,hs,fun q p hp=>he q p (by simp) hp,fun _ _=>rfl,by simp⟩
 | (q,o,t)::l,v::vs,ids::an,env,ak,s,L',hs,hr,hn,he,h=>by
  obtain ⟨hh,hl,dU⟩:=hr
  rw [Ze,Zn] at hn
  obtain ⟨gr,gd,td⟩:=hn
  simp only [IA] at h
  have next:∀ (s1:S) (pv:PV),aj s s1->aD s1->s1.H=s.H->(∀ z,s.N z->s1.N z)->(∀ z∈an.flatten,s1.aF z)->AR s1 pv (val q)->IA l vs ((q,pv)::env) s1.L=some (ak,L') ->
    ∃ s',s'.L=L'/\s'.H=s.H/\aj s s'/\aD s'/\(∀ q p,dF ak q=some p->ER s' p (val q))/\(∀ q',q'∉((q,o,t)::l).map (·.1)->dF ak q'=dF env q')/\∀ q'∈((q,o,t)::l).map (·.1),∃ p,dF ak q'=some p:=by
   clear h
   intro s1 pv k1 t1 g1 n1 l1 ha h
   have XM:SR s1 s1.ai val l vs an:=by
    rw [k1.ai]
    have:∀ {l:List (Nat×Bool×Ty)} {vs:List TV} {an:List (List Nat)},SR s s.ai val l vs an->(∀ z∈an.flatten,s1.aF z)->SR s1 s.ai val l vs an:=by
     intro l
     induction l with
     | nil=>intro vs an h _;cases vs<;>cases an<;>simp_all [SR]
     | cons x l ih =>
      intro vs an h hL
      obtain ⟨q,o,t⟩:=x
      match vs,an,h with
      | v::vs,i::an,h=>exact ⟨h.1.frame (fun z hz au=>⟨n1 z hz,by rw [g1]⟩) (fun z _=>by rw [g1]),fun z hz=>hL z (by simp [hz]),ih h.2.2 (fun z hz=>hL z (by simp at hz ⊢;exact .inr hz))⟩
    exact this dU l1
   obtain ⟨s2,a1,a2,a3,a4,a5,a6,a7⟩:=Qc8 t1 XM gd (fun q' p hq hp=>by
    simp only [dF] at hp
    cases hb:Nat.beq q q' with
    | true=>rw [hb] at hp;injection hp with hp;subst hp;rw [<- Z7 hb];exact ER.of ha
    | false =>
     rw [hb] at hp
     refine k1.ER (he q' p ?_ hp)
     simp only [List.map_cons,List.mem_cons,not_or]
     exact ⟨fun e=>by subst e;rw [Nat.beq_refl] at hb;simp at hb,hq⟩) h
   refine ⟨s2,a1,a2.trans g1,k1.trans a3,a4,a5,fun q' hq=>?_,fun q' hq=>?_⟩
   .simp only [List.map_cons,List.mem_cons,not_or] at hq
    rw [a6 q' hq.2]
    simp only [dF]
    cases hb:Nat.beq q q' with
    | true=>exact absurd (Z7 hb).symm hq.1
    | false=>rfl
   .by_cases EH:q'∈l.map (·.1)
    .exact a7 q' EH
    .rw [a6 q' EH]
     simp only [List.map_cons,List.mem_cons] at hq
     rcases hq with rfl | hq
     .exact ⟨pv,by simp only [dF,Nat.beq_refl]⟩
     .exact absurd hq EH
  have fP:∀ z∈an.flatten,s.aF z:=SR.ai dU
  cases o with
  | false =>
   obtain ⟨cs,hv,cZ⟩:=hh
   obtain ⟨ty,x⟩:=v
   simp only [J'] at h
   obtain ⟨s1,a1,a2,a3,a4,a5,a6,a7⟩:=Ng ty hs cZ hl gr
   rw [<- a1] at h
   exact next s1 _ a3 a4 a2 a6 (fun z hz=>a7 z (fP z hz) (fun hm=>td z hm z hz rfl)) (Qii hv a5) h
  | true =>
   obtain ⟨u,x,rfl,ho⟩:=hh
   simp only [J'] at h
   obtain ⟨s1,e1,e2,k1,t1,a1,n1,l1⟩:=Nf hs ho hl
   rw [<- e1] at h
   exact next s1 _ k1 t1 e2 n1 (fun z hz=>l1 z (fP z hz) (fun hm=>td z hm z hz rfl)) (AR.of a1) h
end Go.Pv
