/-
  Calls: a call by value agrees with the call in the first interpreter. And what stood behind it in 4 texts.
  Conditions: said at the theorems.
-/
import Derived.Test.YtcoimfbmgjhcjaaGreatDoorVCall2
set_option linter.all false
namespace Go.Pv
open Go.Ev
theorem Js {s:S} {N:Nat->Prop} {H':af} {ai:Nat}:∀ {ps:List (PM×Ty)} {args:List PV} {ws:List Value} {aO:List (List Nat)} {vs:List TV} {L L':LS},fG ps args vs L=some L'->(Qo ps args).Nodup->Qw (ER s) args ws ->
  cX N H' ai (sr ps) vs (zT ps ws) aO->∀ c∈Qo ps args,∃ B',Qi L' c=some B' /\
   (∀ sA:S,sA.μ=s.μ->sA.H=H'->sA.L.ct=L.ct->sA.ai=ai->(∀ z,N z->sA.N z)->BR sA c B')/\∀ m,s.μ c=some m->m.z∈oE ps aO
 | [],[],[],aO,vs,L,L',h,hn,hr,hh,c,hc=>by simp [Qo] at hc
 | (m,t)::ps,p::args,w::ws,aO,vs,L,L',h,hn,hr,hh,c,hc=>by
  obtain ⟨dV,dM⟩:=hr
  cases m with
  | ro =>
   simp only [fG] at h
   have e:Qo ((.ro,t)::ps) (p::args)=Qo ps args:=by cases p<;>rfl
   rw [e] at hn hc
   exact Js (ps:=ps) h hn dM hh c hc
  | cl g =>
   simp only [fG] at h
   have e:Qo ((.cl g,t)::ps) (p::args)=Qo ps args:=by cases p<;>rfl
   rw [e] at hn hc
   exact Js (ps:=ps) h hn dM hh c hc
  | mv =>
   simp only [fG] at h
   have e:Qo ((.mv,t)::ps) (p::args)=Qo ps args:=by cases p<;>rfl
   rw [e] at hn hc
   exact Js (ps:=ps) h hn dM hh c hc
  | io =>
   simp only [fG] at h
   split at h
   .rename_i b v cy
    replace h:=ob h;obtain ⟨L1,h1,h⟩:=h
    simp only [Qo] at hn hc
    obtain ⟨fT,gG⟩:=List.nodup_cons.1 hn
    obtain ⟨a1,a2,a3,a4⟩:=EH h gG
    obtain ⟨n',u,xs,x,g1,rfl,rfl⟩:=WL h1
    have bE:=Qn g1
    cases aO with
    | nil=>exact absurd hh id
    | cons ids aO =>
    simp only [sr,zT] at hh
    obtain ⟨so,u_⟩:=hh
    rcases Z2 hc with rfl | hc
    .have dV:cj s (.a_ c 0 none) w:=dV
     obtain ⟨_,dV⟩:=dV
     obtain ⟨u',x',e1,ho⟩:=so
     injection e1 with e1 e2
     injection e1 with e1
     subst e1
     simp only [heq_eq_eq] at e2
     subst e2
     refine ⟨_,by rw [a3 c fT,Qr bE],fun sA e1 e2 e3 e4 e5=>?_,fun m hm=>?_⟩
     .unfold BR;simp only
      cases hm:s.μ c with
      | none =>
       rw [hm] at dV;obtain ⟨_,_,rfl⟩:=dV
       rw [e1,hm];simp only
       rcases ho with ⟨_,hx,_⟩ | ⟨z,o,k,ks,_,_,e6,_⟩
       .exact hx
       .simp at e6
      | some m =>
       rw [hm] at dV;obtain ⟨g0,rfl⟩:=dV
       rw [e1,hm];simp only
       rcases ho with ⟨_,_,e6⟩ | ⟨z,o,k,ks,_,_,e6,q1,q2,q3,q4,q5,_⟩
       .simp at e6
       .simp only [Option.getD_none,Nat.zero_mul,Nat.add_zero,Nat.sub_zero] at e6
        injection e6 with e6 e7 e8
        injection e6 with e6;injection e6 with e6 e9
        subst e6 e9
        refine ⟨e8,e7,k,by rw [e2];exact q1,q4,fun i hi=>?_,fun _=>⟨q2,by rw [e4];exact q3⟩,fun e=>absurd e (by decide)⟩
        have:=q5.2 i hi
        have nT:=jG (k:=u.size) hi
        unfold cG at this;rw [List.drop_take,List.take_take,Nat.min_eq_left (by omega),List.drop_drop] at this
        rw [e2];exact ax.mono e5 _ this
     .rw [hm] at dV;obtain ⟨g0,rfl⟩:=dV
      rcases ho with ⟨_,_,e6⟩ | ⟨z,o,k,ks,rfl,_,e6,_⟩
      .simp at e6
      .simp only [Option.getD_none,Nat.zero_mul,Nat.add_zero,Nat.sub_zero] at e6
       injection e6 with e6 e7 e8
       injection e6 with e6;injection e6 with e6 e9
       simp [oE,e6]
    .obtain ⟨B',b1,b2,b3⟩:=Js h gG dM u_ c hc
     refine ⟨B',b1,b2,fun m hm=>?_⟩
     simp only [oE,Zh];exact .inr (b3 m hm)
   .simp at h
  | ps =>
   simp only [fG] at h
   split at h
   .rename_i b off v cy
    replace h:=ob h;obtain ⟨L1,h1,h⟩:=h
    simp only [Qo] at hn hc
    obtain ⟨fT,gG⟩:=List.nodup_cons.1 hn
    obtain ⟨a1,a2,a3,a4⟩:=EH h gG
    obtain ⟨n',cs,g1,g2,rfl⟩:=PD h1
    have bE:=Qn g1
    cases aO with
    | nil=>exact absurd hh id
    | cons ids aO =>
    simp only [sr,zT] at hh
    obtain ⟨so,u_⟩:=hh
    rcases Z2 hc with rfl | hc
    .have dV:cj s (.ptr c off) w:=dV
     obtain ⟨_,m,hm,dQ,rfl⟩:=dV
     obtain ⟨z,k,j,rfl,e1,hk,bn,jT,cS⟩:=so
     injection e1 with e1;injection e1 with e1;injection e1 with e1 e2
     subst e1
     refine ⟨_,by rw [a3 c fT,Qr bE],fun sA f1 f2 f3 f4 f5=>?_,fun m' aE=>?_⟩
     .unfold BR;simp only
      refine ⟨trivial,m,k,by rw [f1];exact hm,dQ,by rw [f2];exact hk,?_,bn,by rw [f4];exact jT⟩
      rw [<- f3]
      refine zQ _ ?_
      rw [f2]
      exact ax.mono (fun z hz=>S.fV (f5 z hz)) _ cS.rep
     .rw [hm] at aE;injection aE with aE;subst aE
      simp [oE]
    .obtain ⟨B',b1,b2,b3⟩:=Js h gG dM u_ c hc
     refine ⟨B',b1,b2,fun m hm=>?_⟩
     simp only [oE,Zh];exact .inr (b3 m hm)
   .simp at h
 | [],_::_,_,_,_,_,_,h,_,_,_,_,_=>by simp [fG] at h
 | _::_,[],_,_,_,_,_,h,_,_,_,_,_=>by simp [fG] at h
theorem Jt {s:S} {N:Nat->Prop} {H':af} {ai:Nat} {sA:S} (f1:sA.μ=s.μ) (f2:sA.H=H') (f3:sA.L.bl.length=s.L.bl.length) (f4:∀ z,N z->sA.N z):∀ {ps:List (PM×Ty)} {args:List PV} {ws:List Value} {aO:List (List Nat)} {vs:List TV} {L L':LS},fG ps args vs L=some L'->Qw (ER s) args ws ->
  cX N H' ai (sr ps) vs (zT ps ws) aO->(∀ z∈(mU ps aO).flatten,sA.aF z)->u9 sA ai (Bf ps args vs) (mU ps aO)
 | [],[],[],aO,vs,L,L',h,hr,hh,hl=>by simp [Bf,mU,u9]
 | (m,t)::ps,p::args,w::ws,aO,vs,L,L',h,hr,hh,hl=>by
  obtain ⟨dV,dM⟩:=hr
  cases m with
  | ro=>simp only [fG] at h;exact Jt (ps:=ps) f1 f2 f3 f4 h dM hh hl
  | cl g=>simp only [fG] at h;exact Jt (ps:=ps) f1 f2 f3 f4 h dM hh hl
  | mv=>simp only [fG] at h;exact Jt (ps:=ps) f1 f2 f3 f4 h dM hh hl
  | io =>
   simp only [fG] at h
   split at h
   .rename_i b v cy
    replace h:=ob h;obtain ⟨L1,h1,h⟩:=h
    cases aO with
    | nil=>exact absurd hh id
    | cons ids aO=>exact Jt (ps:=ps) f1 f2 f3 f4 h dM hh.2 hl
   .simp at h
  | ps =>
   simp only [fG] at h
   split at h
   .rename_i b off v cy
    replace h:=ob h;obtain ⟨L1,h1,h⟩:=h
    cases aO with
    | nil=>exact absurd hh id
    | cons ids aO =>
     obtain ⟨so,u_⟩:=hh
     have dV:cj s (.ptr b off) w:=dV
     obtain ⟨bE,m,hm,dQ,rfl⟩:=dV
     obtain ⟨z,k,j,rfl,e1,hk,bn,jT,cS⟩:=so
     injection e1 with e1;injection e1 with e1;injection e1 with e1 e2
     subst e1
     simp only [mU,List.drop_succ_cons,List.drop_zero,Ze] at hl
     exact ⟨⟨by rw [f3];exact bE,⟨m,k,by rw [f1];exact hm,dQ,by rw [f2];exact hk,bn,jT,dm.frame (fun z hz _=>⟨f4 z hz,by rw [f2]⟩) _ cS (fun z _=>by rw [f2])⟩,fun z hz=>hl z (List.mem_append.2 (.inl hz))⟩,Jt (ps:=ps) f1 f2 f3 f4 h dM u_ (fun z hz=>hl z (List.mem_append.2 (.inr hz)))⟩
   .simp at h
 | [],_::_,_,_,_,_,_,h,_,_,_=>by simp [fG] at h
 | _::_,[],_,_,_,_,_,h,_,_,_=>by simp [fG] at h
theorem cX.WM {N:Nat->Prop} {H:af} {ai:Nat}:∀ {ks:List Kd} {vs:List TV} {ws:List Value} {is:List (List Nat)},cX N H ai ks vs ws is->∀ z∈is.flatten,z < H.length
 | [],[],[],[],_=>by simp
 | _::_,_::_,_::_,_::_,h=>by
  intro z hz
  rw [Ze,Zh] at hz
  rcases hz with hz | hz
  .exact h.1.lt z hz
  .exact cX.WM h.2 z hz
theorem TM.len {s:S} {ai:Nat}:∀ {ps:List (PM×Ty)} {args:List PV} {ws:List Value} {os:List (Option TV)} {an:List (List Nat)},TM s ai ps args ws os an->ps.length=an.length
 | [],[],[],[],[],_=>rfl
 | _::_,_::_,_::_,_::_,_::_,h=>by simp [TM.len h.2]
theorem kA.of {s:S}:∀ (ps:List (PM×Ty)) (args:List PV),(∀ b∈Qo ps args,∃ B,Qi s.L b=some B/\B.rw=true)->kA s ps args:=by
 intro ps
 induction ps with
 | nil=>intro args _;cases args<;>trivial
 | cons q ps ih =>
  intro args h
  obtain ⟨m,t⟩:=q
  cases args with
  | nil=>cases m<;>trivial
  | cons p args =>
   cases m with
   | ro =>
    have e1:Qo ((.ro,t)::ps) (p::args)=Qo ps args:=by cases p<;>rfl
    have e2:kA s ((.ro,t)::ps) (p::args)=kA s ps args:=by cases p<;>rfl
    rw [e1] at h;rw [e2];exact ih args h
   | cl g =>
    have e1:Qo ((.cl g,t)::ps) (p::args)=Qo ps args:=by cases p<;>rfl
    have e2:kA s ((.cl g,t)::ps) (p::args)=kA s ps args:=by cases p<;>rfl
    rw [e1] at h;rw [e2];exact ih args h
   | mv =>
    have e1:Qo ((.mv,t)::ps) (p::args)=Qo ps args:=by cases p<;>rfl
    have e2:kA s ((.mv,t)::ps) (p::args)=kA s ps args:=by cases p<;>rfl
    rw [e1] at h;rw [e2];exact ih args h
   | io =>
    by_cases hp:∃ b off n,p=.a_ b off n
    .obtain ⟨b,off,n,rfl⟩:=hp
     exact ⟨h b (by simp [Qo]),ih args (fun q hq=>h q (by simp [Qo,hq]))⟩
    .have e1:Qo ((.io,t)::ps) (p::args)=Qo ps args:=by cases p<;>first | rfl | exact absurd ⟨_,_,_,rfl⟩ hp
     have e2:kA s ((.io,t)::ps) (p::args)=kA s ps args:=by cases p<;>first | rfl | exact absurd ⟨_,_,_,rfl⟩ hp
     rw [e1] at h;rw [e2];exact ih args h
   | ps =>
    by_cases hp:∃ b off,p=.ptr b off
    .obtain ⟨b,off,rfl⟩:=hp
     exact ⟨h b (by simp [Qo]),ih args (fun q hq=>h q (by simp [Qo,hq]))⟩
    .have e1:Qo ((.ps,t)::ps) (p::args)=Qo ps args:=by cases p<;>first | rfl | exact absurd ⟨_,_,rfl⟩ hp
     have e2:kA s ((.ps,t)::ps) (p::args)=kA s ps args:=by cases p<;>first | rfl | exact absurd ⟨_,_,rfl⟩ hp
     rw [e1] at h;rw [e2];exact ih args h
theorem Qdo {s:S} (hs:aD s) {aQ:List Nat} {L3:LS} {H':af} {ids bq aO N:Nat->Prop} (Kn:Nat->Option (Nat×Nat))
  (f1:L3.bl.length=s.L.bl.length) (f2:L3.ct=s.L.ct) (f3:∀ c,c∉aQ->Qi L3 c=Qi s.L c) (f4:∀ c∈aQ,∃ B B',CJ s.L L3 c B B')
  (f5:∀ c∈aQ,∃ B',Qi L3 c=some B'/\(∀ sA:S,sA.μ=s.μ->sA.H=H'->sA.L.ct=s.L.ct->sA.ai=s.ai->sA.br=Kn->(∀ z,N z->sA.N z)->BR sA c B')/\∀ m,s.μ c=some m->aO m.z)
  (HO:∀ z,ids z->s.aF z\/(∃ b B m,b∈aQ/\Qi s.L b=some B/\B.rw=true/\s.μ b=some m/\m.z=z)\/∃ p,s.br z=some p/\∀ B,Qi s.L p.1=some B->p.1∈aQ)
  (WN:∀ z p,Kn z=some p->p.1 < s.L.bl.length/\z < H'.length/\(∃ k,ah H' z=some k)/\¬ bq z/\¬ (s.aF z/\¬ ids z)/\(∀ c C m,Qi L3 c=some C->s.μ c=some m->m.z≠z)/\(bI s z\/s.H.length<=z))
  (hKk:∀ z b i B,b∉aQ->Qi s.L b=some B->s.br z=some (b,i)->Kn z=some (b,i))
  (hlen:s.H.length<=H'.length) (qR:∀ z,z < s.H.length->¬ ids z->ah H' z=ah s.H z) (hnd:∀ z,bq z->¬ aO z) (dV:∀ z,bq z->ids z\/s.H.length<=z) (dM:∀ z,bq z->z < H'.length)
  (hN:∀ sA:S,(∀ z,bI sA z->(∃ b B m,Qi L3 b=some B/\B.rw=true/\s.μ b=some m/\m.z=z/\b∉aQ)\/(s.aF z/\¬ ids z)\/bq z\/aO z\/∃ p,Kn z=some p)->sA.fj=s.fj->∀ z,N z->sA.N z) :
  ∃ sA,sA.L=L3/\sA.H=H'/\sA.μ=s.μ/\aj s sA/\aD sA/\(∀ z,sA.aF z↔(s.aF z/\¬ ids z)\/bq z)/\∀ z,N z->sA.N z:=by
 have sK:∀ z,ids z->bI s z:=by
  intro z hz
  rcases HO z hz with h | ⟨b,B,m,_,h1,h2,h3,h4⟩ | ⟨p,hp,_⟩
  .exact .inr (.inl h)
  .exact .inl ⟨b,B,m,h1,h2,h3,h4⟩
  .exact .inr (.inr ⟨p,hp⟩)
 let sA:S:={ s with L:=L3,H:=H',aF:=fun z=>(s.aF z/\¬ ids z)\/bq z,br:=Kn }
 have cls:∀ c C,Qi L3 c=some C->∃ C0,Qi s.L c=some C0/\C0.rw=C.rw/\C0.aA<=C.aA/\(c∉aQ->C0=C)/\(C0.aA=C.aA->c∉aQ):=by
  intro c C hC
  by_cases hc:c∈aQ
  .obtain ⟨B,B',b1,b2,b3,b4,b5⟩:=f4 c hc
   rw [hC] at b3;injection b3 with b3;subst b3
   exact ⟨B,b1,by rw [b2,b4],by omega,fun h=>absurd hc h,fun h=>by omega⟩
  .rw [f3 c hc] at hC;exact ⟨C,hC,rfl,Zd _,fun _=>rfl,fun _=>hc⟩
 have sL:∀ c C m,Qi s.L c=some C->s.μ c=some m->c∉aQ->¬ ids m.z:=by
  intro c C m h1 h2 h3 h4
  rcases HO _ h4 with h | ⟨b,B,m',hb,h5,h6,h7,h8⟩ | ⟨p,hp,_⟩
  .exact hs.lm c C m h1 h2 h
  .have:=hs.inj b c B C m' m h5 h1 h6 h7 h2 h8
   subst this;exact h3 hb
  .exact (hs.kl _ p hp).2.2.2 c C m h1 h2 rfl
 have aY:∀ z,bI sA z->bI s z\/s.H.length<=z:=by
  rintro z (⟨b,B,m,h1,h2,h3,rfl⟩ | (⟨h1,_⟩ | h1) | ⟨p,h1⟩)
  .obtain ⟨C0,g1,g2,_⟩:=cls b B h1
   exact .inl (.inl ⟨b,C0,m,g1,by rw [g2];exact h2,h3,rfl⟩)
  .exact .inl (.inr (.inl h1))
  .rcases dV z h1 with h | h
   .exact .inl (sK z h)
   .exact .inr h
  .exact (WN z p h1).2.2.2.2.2.2
 have M1:∀ z b i B,b∉aQ->Qi s.L b=some B->s.br z=some (b,i)->¬ ids z:=by
  intro z b i B hb hB hp hz
  obtain ⟨k1,k2,k3,k4⟩:=hs.kl z _ hp
  rcases HO z hz with h | ⟨b,B,m,_,h1,h2,h3,h4⟩ | ⟨p,GO,hl⟩
  .exact k3 h
  .exact k4 b B m h1 h3 h4
  .rw [hp] at GO;injection GO with GO;subst GO;exact hb (hl B hB)
 have hkH:∀ z b i B,b∉aQ->Qi s.L b=some B->s.br z=some (b,i)->Kn z=some (b,i)/\ah H' z=ah s.H z:=fun z b i B hb hB hp=>⟨hKk z b i B hb hB hp,qR z (hs.kl z _ hp).1 (M1 z b i B hb hB hp)⟩
 have dw:∀ c C m,Qi s.L c=some C->s.μ c=some m->c∉aQ->ah H' m.z=ah s.H m.z:=fun c C m h1 h2 h3=>qR _ ((hs.aI c C h1).lt h2) (sL c C m h1 h2 h3)
 have hk:aj s sA:=by
  refine ⟨rfl,CK.same rfl f2,rfl,by rw [show sA.L=L3 from rfl,f1];exact Zd _,fun _ _=>rfl,hlen,fun z hz hn=>qR z hz (fun h=>hn (sK z h)),aY,fun b B' hb iu=>?_⟩
  obtain ⟨C0,g1,g2,g3,g4,g5⟩:=cls b B' iu
  refine ⟨C0,g1,g3,fun e=>?_⟩
  have oB:=g5 e
  exact ⟨(g4 oB).symm,fun m hm=>dw b C0 m g1 hm oB,fun z i hz=>hkH z b i C0 oB g1 hz⟩
 have hNA:∀ z,N z->sA.N z:=by
  refine hN sA ?_ rfl
  rintro z (⟨b,B,m,h1,h2,h3,rfl⟩ | (h1 | h1) | h1)
  .by_cases hb:b∈aQ
   .obtain ⟨B',_,_,b3⟩:=f5 b hb
    exact .inr (.inr (.inr (.inl (b3 m h3))))
   .exact .inl ⟨b,B,m,h1,h2,h3,rfl,hb⟩
  .exact .inr (.inl h1)
  .exact .inr (.inr (.inl h1))
  .exact .inr (.inr (.inr (.inr h1)))
 refine ⟨sA,rfl,rfl,rfl,hk,⟨fun c C hC=>?_,fun b c C D m1 m2 h1 h2 h3 h4 h5 e=>?_,fun z hz=>⟨?_,fun ho=>?_⟩,?_,fun b C m h1 h2=>?_,fun z hl=>?_,fun z p hp=>?_,fun z p hp=>(WN z p hp).2.2.1⟩,fun z=>Iff.rfl,hNA⟩
 rotate_right
 .obtain ⟨k1,k2,k3,k4,k5,k6,k7⟩:=WN z p hp
  refine ⟨k2,by rw [show sA.L=L3 from rfl,f1];exact k1,?_,fun c C m g1 g2=>k6 c C m g1 g2⟩
  rintro (h1 | h1)
  .exact k5 h1
  .exact k4 h1
 .by_cases hc:c∈aQ
  .obtain ⟨B',b1,b2,_⟩:=f5 c hc
   have:some B'=some C:=by rw [<- b1];exact hC
   injection this with this;subst this
   exact b2 sA rfl rfl f2 rfl rfl hNA
  .have qM:Qi s.L c=some C:=by rw [<- f3 c hc];exact hC
   exact (hs.aI c C qM).keep hk (Qn qM) (fun m hm=>dw c C m qM hm hc) (fun z i hz=>hkH z c i C hc qM hz)
 .obtain ⟨C0,g1,g2,_⟩:=cls b C h1
  obtain ⟨D0,g3,_⟩:=cls c D h2
  exact hs.inj b c C0 D0 m1 m2 g1 g3 (by rw [g2];exact h3) h4 h5 e
 .exact Zm (hs.cY z hz).1 hlen
 .rcases aY z ho with h | h
  .exact (hs.cY z hz).2 h
  .have:=(hs.cY z hz).1;omega
 .exact Nat.le_trans hs.dP hlen
 .obtain ⟨C0,g1,g2,g3,g4,g5⟩:=cls b C h1
  rintro (⟨h5,_⟩ | h5)
  .exact hs.lm b C0 m g1 h2 h5
  .by_cases hb:b∈aQ
   .obtain ⟨B',_,_,b3⟩:=f5 b hb
    exact hnd _ h5 (b3 m h2)
   .rcases dV _ h5 with h6 | h6
    .exact sL b C0 m g1 h2 hb h6
    .have:=(hs.aI b C0 g1).lt h2;omega
 .rcases hl with ⟨h1,_⟩ | h1
  .exact Zm (hs.iE z h1) hlen
  .exact dM z h1
theorem Qil:∀ {rs:List (Bool×Ty)} {vs:List TV} {ws:List Value} {bq:List (List Nat)} {s:S} {A9:List PV} {L':LS},aD s->cX s.N s.H s.ai (rs.map fun q=>zS q.1) vs ws bq->(∀ z∈bq.flatten,s.aF z)->bq.flatten.Nodup->HP rs vs s.L=some (A9,L') ->
  ∃ s',s'.L=L'/\s'.H=s.H/\aj s s'/\aD s'/\Qw (AR s') A9 ws
 | [],[],[],[],s,A9,L',hs,_,_,_,h=>by
  simp [HP] at h;obtain ⟨rfl,rfl⟩:=h
  exact ⟨s,rfl,rfl,aj.refl s,hs,trivial⟩
 | (o,t)::rs,v::vs,w::ws,ids::bq,s,A9,L',hs,hh,hl,hn,h=>by
  obtain ⟨so,u_⟩:=hh
  rw [Ze,Zn] at hn
  obtain ⟨fT,gG,sq⟩:=hn
  simp only [HP] at h
  have next:∀ (s1:S) (pv:PV),aj s s1->aD s1->s1.H=s.H->(∀ z,s.N z->s1.N z)->(∀ z∈bq.flatten,s1.aF z)->AR s1 pv w->(Q1 (HP rs vs s1.L) fun r=>some (pv::r.1,r.2))=some (A9,L') ->
    ∃ s',s'.L=L'/\s'.H=s.H/\aj s s'/\aD s'/\Qw (AR s') A9 (w::ws):=by
   clear h
   intro s1 pv k1 t1 g1 n1 l1 ha h
   replace h:=ob h;obtain ⟨⟨aag,L3⟩,h2,h⟩:=h
   simp at h;obtain ⟨rfl,rfl⟩:=h
   have Hh:cX s1.N s1.H s1.ai (rs.map fun q=>zS q.1) vs ws bq:=by
    rw [k1.ai];exact u_.frame (fun z hz _=>⟨n1 z hz,by rw [g1]⟩) (fun z _=>by rw [g1])
   obtain ⟨s2,a1,a2,a3,a4,a5⟩:=Qil t1 Hh l1 gG h2
   exact ⟨s2,a1,a2.trans g1,k1.trans a3,a4,a3.AR ha,a5⟩
  have fY:∀ z∈bq.flatten,s.aF z:=fun z hz=>hl z (by rw [Ze,Zh];exact .inr hz)
  cases o with
  | false =>
   obtain ⟨cs,hv,cS⟩:=so
   obtain ⟨ty,x⟩:=v
   simp only [Ju] at h
   obtain ⟨s1,a1,a2,a3,a4,a5,a6,a7⟩:=MW ty hs cS (fun z hz=>hl z (by rw [Ze,Zh];exact .inl hz)) fT
   rw [<- a1] at h
   exact next s1 _ a3 a4 a2 a6 (fun z hz=>a7 z (fY z hz) (fun hm=>sq z hm z hz rfl)) (Qii hv a5) h
  | true =>
   obtain ⟨u,x,rfl,ho⟩:=so
   simp only [Ju] at h
   obtain ⟨s1,e1,e2,k1,t1,a1,n1,l1⟩:=Me hs ho (fun z hz=>hl z (by rw [Ze,Zh];exact .inl hz))
   rw [<- e1] at h
   exact next s1 _ k1 t1 e2 n1 (fun z hz=>l1 z (fY z hz) (fun hm=>sq z hm z hz rfl)) (AR.of a1) h
theorem Qqm:∀ (ts:List Ty) (a:ji ts),(eX ts a).map (·.1)=ts
 | [],_=>rfl
 | [t],x=>rfl
 | t::u::r,x=>by simp only [eX,List.map_cons];rw [Qqm (u::r) x.2]
theorem cX.flat {N M:Nat->Prop} {H:af} {ai:Nat}:∀ {ks:List Kd} {vs:List TV} {ws:List Value} {is:List (List Nat)} {ts:List Ty},cX N H ai ks vs ws is->vs.map (·.1)=ts->Qw (fun k t=>EE k t=true) ks ts->cX M H ai ks vs ws is
 | [],[],[],[],_,_,_,_=>trivial
 | k::ks,v::vs,w::ws,i::is,ts,h,e,hf=>by
  match ts,hf with
  | t::ts,hf =>
   simp only [List.map_cons,List.cons.injEq] at e
   exact ⟨h.1.flat (by rw [e.1];exact hf.1),cX.flat h.2 e.2 hf.2⟩
theorem Qnm {rs:List (Bool×Ty)} (h:(rs.any fun r=>match r with | (true,.sl t) => !(t.flat || t.jo) | (_,t) => !t.jq)=false):Qw (fun k t=>EE k t=true) (rs.map fun q=>zS q.1) (rs.map fun q=>q.2):=by
 induction rs with
 | nil=>trivial
 | cons r rs ih =>
  simp only [List.any_cons,Bool.or_eq_false_iff] at h
  refine ⟨?_,ih h.2⟩
  obtain ⟨o,t⟩:=r
  have h1:=h.1
  cases o with
  | false=>simpa [zS,EE] using h1
  | true =>
   cases t with
   | sl u =>
    show (u.flat || u.jo)=true
    cases hb:(u.flat || u.jo) with
    | true=>rfl
    | false=>simp only [hb,Bool.not_false] at h1;exact absurd h1 (by decide)
   | _=>rfl
theorem Qqn {ps:List (PM×Ty)} (h:(ps.any fun p=>match p with | (.ps,t) => !t.jq | (.io,.sl t) => !t.flat | (.mv,.sl t) => !(t.flat || t.jo) | _=>false)=false):Qw (fun k t=>EE k t=true) (sr ps) (HQ ps):=by
 induction ps with
 | nil=>trivial
 | cons p ps ih =>
  simp only [List.any_cons,Bool.or_eq_false_iff] at h
  obtain ⟨m,t⟩:=p
  have h1:=h.1
  cases m with
  | ro=>exact ih h.2
  | cl g=>exact ih h.2
  | mv=>exact ih h.2
  | io =>
   refine ⟨?_,ih h.2⟩
   cases t with
   | sl u =>
    have h1:(!u.flat)=false:=h1
    show (u.flat || u.jo)=true
    cases hb:u.flat with
    | true=>rfl
    | false=>rw [hb] at h1;exact absurd h1 (by decide)
   | _=>rfl
  | ps=>exact ⟨by simpa [EE] using h1,ih h.2⟩
theorem Qim {s:S} {ps:List PV} {ws:List Value} (h:Qw (AR s) ps ws):ER s (Hf ps) (iC ws):=by
 match ps,ws,h with
 | [p],[w],h=>exact ER.of h.1
 | [],[],h=>exact ⟨[],rfl,trivial⟩
 | p::q::ps,w::x::ws,h=>exact ⟨w::x::ws,rfl,h⟩
section
variable {A:cH} {β γ:Type} {s:S} {KV:PV->LS->Option β} {KE:Value->af->Option γ} {r:β} {Q:γ->Prop}
theorem WO {sig:oy} {call:ji sig.eE->Option (ji sig.cQ)} {bX:List Value->Nat->af->Option (Value×af)} (hF:Cm sig call bX s.ai) (hs:aD s) {args:List PV} {ws:List Value} (hr:Qw (ER s) args ws) (hK:eC s r KV KE Q)
  (h:(Q1 (jV sig.params args [] s.L) fun m=>Q1 (Ao sig.al m.2.1 sig.params args m.1 m.2.2) fun q=>Q1 (mL sig.eE q.1) fun a=>Q1 (call a) fun y =>
   Q1 (fG sig.params args ((eX sig.cQ y).drop sig.results.length) q.2) fun L0=>Q1 (HN (Bf sig.params args ((eX sig.cQ y).drop sig.results.length)) L0) fun L'=>Q1 (HP sig.results ((eX sig.cQ y).take sig.results.length) L') fun q=>KV (Hf q.1) q.2)=some r) :
  ∃ y,(Q1 (bX ws s.ai s.H) fun q=>KE q.1 q.2)=some y/\Q y:=by
 replace h:=ob h;obtain ⟨⟨os,aQ,L1⟩,h1,h⟩:=h
 replace h:=ob h;obtain ⟨⟨iM,L2⟩,h2,h⟩:=h
 replace h:=ob h;obtain ⟨a,h3,h⟩:=h
 replace h:=ob h;obtain ⟨y,h4,h⟩:=h
 replace h:=ob h;obtain ⟨L3,h5,h⟩:=h
 replace h:=ob h;obtain ⟨L3b,WQ,h⟩:=h
 replace h:=ob h;obtain ⟨⟨A9,L4⟩,h6,h⟩:=h
 simp only at h2 h3 h5 WQ h6 h
 obtain ⟨s1,an,l1,g1,u1,k1,t1,o1,m1,tm1,aah,Cd⟩:=Jo hs hr h1
 rw [<- l1] at h2
 obtain ⟨s2,l2,g2,u2,k2,t2,o2,O1,sm2,tr2⟩:=PA t1 (Qw.mono (fun _ _=>k1.ER) hr) h2
 rw [<- l2] at h5
 obtain ⟨ln1,ln2,ln3⟩:=Jq h1
 have EI:∀ b,b∈aQ↔b∈Qo sig.params args:=fun b=>by rw [ln3];simp
 obtain ⟨f1,f2,f3,f4⟩:=EH h5 ln1
 have hu:s2.μ=s.μ:=u2.trans u1
 have cK:kA s2 sig.params args:=kA.of _ _ (fun b hb=>by
  obtain ⟨B,B',b1,b2,_⟩:=f4 b hb;exact ⟨B,b1,b2⟩)
 obtain ⟨nd,M3⟩:=Cd s2 k2 (fun z hz=>by rw [O1];exact hz) t2 hu cK
 have An:TM s2 s.ai sig.params args ws os an:=tm1.keep k2 g2 u2 (fun z hz=>by rw [O1];exact hz)
 have Aq:∀ z∈an.flatten,bI s2 z:=by
  intro z hz
  rcases M3 z hz with ⟨h,_⟩ | ⟨b,B,m,_,_,q1,q2,q3,q4⟩
  .exact .inr (.inl h)
  .exact .inl ⟨b,B,m,q1,q2,q3,q4⟩
 have MY:s2.H=s.H:=g2.trans g1
 have jW:s2.fj=s.fj:=(k1.trans k2).cY
 have ko:s2.ai=s.ai:=(k1.trans k2).ai
 let fj:Nat->Prop:=fun z=>sig.al=true/\((bI s2 z/\z∉an.flatten)\/s.fj z)
 have hC1:∀ z,s2.N z->z∉an.flatten/\¬ fj z:=by
  intro z hz
  refine ⟨fun h=>hz.1 (Aq z h),?_⟩
  rintro ⟨_,⟨h,_⟩ | h⟩
  .exact hz.1 h
  .exact hz.2 (by rw [jW];exact h)
 have hC2:sig.al=false->∀ b m B,b∉aQ->Qi s2.L b=some B->s2.μ b=some m->m.z∉an.flatten/\¬ fj m.z:=by
  intro jt b m B hb hB hm
  refine ⟨fun h=>?_,fun h=>absurd (jt.symm.trans h.1) (by decide)⟩
  rcases M3 _ h with ⟨h,_⟩ | ⟨b',B',m',_,gJ,q1,q2,q3,q4⟩
  .exact t2.lm b B m hB hm h
  .have:=t2.inj b' b B' B m' m q1 hB q2 q3 hm q4
   subst this;exact hb gJ
 have mK:∀ z p,s2.br z=some p->z∉an.flatten:=by
  intro z p hp h
  obtain ⟨k1,k2,k3,k4⟩:=t2.kl z p hp
  rcases M3 z h with ⟨h,_⟩ | ⟨b',B',m',_,gJ,q1,q2,q3,q4⟩
  .exact k3 h
  .exact k4 b' B' m' q1 q3 q4
 have hC3:sig.al=false->∀ z b i,b∉aQ->s2.br z=some (b,i)->z∉an.flatten/\¬ fj z:=by
  intro jt z b i _ hz
  exact ⟨mK z _ hz,fun h=>absurd (jt.symm.trans h.1) (by decide)⟩
 have hand:=Qvg hC1 hC2 hC3 An tr2
 have Ja:=L8 sig.eE h3
 rw [<- Ja] at hand
 obtain ⟨v,H',qB,bq,aO,c1,rfl,c3,c4,c5,c6,c7,c8,c9⟩:=hF a y h4 s2.H fj ws an (by
   rintro z ⟨_,⟨h,_⟩ | h⟩
   .exact t2.Ap h
   .exact (t2.cY z (by rw [jW];exact h)).1) (by rw [MY];exact hs.dP) nd (by
   rintro z hz ⟨_,⟨_,h⟩ | h⟩
   .exact h hz
   .exact (t2.cY z (by rw [jW];exact h)).2 (Aq z hz)) hand
 rw [MY] at c1
 rw [c1];simp only [Q1]
 have dM:Qw (ER s2) args ws:=Qw.mono (fun _ _=>(k1.trans k2).ER) hr
 have cF:sig.al=false->Qw (fun k t=>EE k t=true) (sig.results.map fun q=>zS q.1) (sig.results.map fun q=>q.2)/\Qw (fun k t=>EE k t=true) (sr sig.params) (HQ sig.params):=by
  intro jt
  unfold oy.al at jt
  simp only [Bool.or_eq_false_iff] at jt
  exact ⟨Qnm jt.1,Qqn jt.2⟩
 let N':Nat->Prop:=fun z=>z∉bq.flatten++aO.flatten/\¬ fj z
 have M4:=Qqm sig.cQ y
 have VJ:∀ M:Nat->Prop,(sig.al=true->∀ z,N' z->M z)->cX M H' s.ai (sig.results.map fun q=>zS q.1) ((eX sig.cQ y).take sig.results.length) qB bq:=by
  intro M hM
  cases jt:sig.al with
  | true=>exact c8.frame (fun z hz _=>⟨hM jt z hz,rfl⟩) (fun _ _=>rfl)
  | false =>
   refine c8.flat (ts:=sig.results.map fun q=>q.2) ?_ (cF jt).1
   rw [List.map_take,M4];unfold oy.cQ
   rw [List.take_append_of_le_length (by simp),Zs (by simp)]
 have hou:∀ M:Nat->Prop,(sig.al=true->∀ z,N' z->M z)->cX M H' s.ai (sr sig.params) ((eX sig.cQ y).drop sig.results.length) (zT sig.params ws) aO:=by
  intro M hM
  cases jt:sig.al with
  | true=>exact c9.frame (fun z hz _=>⟨hM jt z hz,rfl⟩) (fun _ _=>rfl)
  | false =>
   refine c9.flat (ts:=HQ sig.params) ?_ (cF jt).2
   rw [List.map_drop,M4];unfold oy.cQ
   rw [List.drop_append_of_le_length (by simp),List.drop_of_length_le (by simp)];simp
 let N2:Nat->Prop:=fun z=>sig.al=true/\N' z
 have WR:∀ z,False->N2 z:=fun _ h=>h.elim
 have Bq:=VJ N2 (fun jt z hz=>⟨jt,hz⟩)
 have PF:=hou N2 (fun jt z hz=>⟨jt,hz⟩)
 rw [Zn] at c5
 obtain ⟨Jv,ht2⟩:=Jr PF
 obtain ⟨WS,ht4⟩:=ht2 c5.2.1
 have jS:∀ z,(z∈bq.flatten\/z∈(mU sig.params aO).flatten)->z∈bq.flatten++aO.flatten:=by
  rintro z (h | h)
  .exact List.mem_append.2 (.inl h)
  .exact List.mem_append.2 (.inr ((Jv z).2 (.inr h)))
 obtain ⟨sA,e1,e2,e3,k3,t3,M5,n3⟩:=Qdo (Kn:=s2.br) (N:=N2) (ids:=fun z=>z∈an.flatten) (bq:=fun z=>z∈bq.flatten\/z∈(mU sig.params aO).flatten) (aO:=fun z=>z∈oE sig.params aO) t2 f1 f2 f3 f4 (fun c hc=>by
   obtain ⟨B',b1,b2,b3⟩:=Js h5 ln1 dM PF c hc
   exact ⟨B',b1,fun sA q1 q2 q3 q4 _ q5=>b2 sA q1 q2 q3 (by rw [q4,ko]) q5,b3⟩) (fun z hz=>by
   rcases M3 z hz with ⟨h,_⟩ | ⟨b,B,m,_,hb,q1,q2,q3,q4⟩
   .exact .inl h
   .exact .inr (.inl ⟨b,B,m,(EI b).1 hb,q1,q2,q3,q4⟩)) (fun z p hp=>by
   obtain ⟨PG,k2',WT,M6⟩:=t2.kl z p hp
   have M7:=mK z p hp
   refine ⟨k2',Zm PG c3,by rw [c4 z PG M7];exact t2.ka z p hp,fun hz=>?_,fun h=>WT h.1,fun c C m g1 g2=>?_,.inl (.inr (.inr ⟨p,hp⟩))⟩
   .rcases c6 z (jS z hz) with h | h
    .exact M7 h
    .omega
   .by_cases hc:c∈Qo sig.params args
    .obtain ⟨B,B',b1,_⟩:=f4 c hc
     exact M6 c B m b1 g2
    .rw [f3 c hc] at g1;exact M6 c C m g1 g2) (fun z b i B _ _ hp=>hp) c3 c4 (fun z hz aX=>by
   rcases hz with hz | hz
   .exact c5.2.2 z hz z ((Jv z).2 (.inl aX)) rfl
   .exact ht4 z aX hz) (fun z hz=>c6 z (jS z hz)) (fun z hz=>by
   rcases hz with hz | hz
   .exact Bq.WM z hz
   .exact PF.WM z ((Jv z).2 (.inr hz))) (fun sA ho hb z hz=>by
   obtain ⟨jt,PI,jI⟩:=hz
   simp only [Zh,not_or] at PI
   refine ⟨fun aY=>?_,fun EJ=>jI ⟨jt,.inr (by rw [hb,jW] at EJ;exact EJ)⟩⟩
   rcases ho z aY with ⟨b,B,m,q1,q2,q3,q4,q5⟩ | ⟨q1,q2⟩ | q1 | q1 | ⟨p,q1⟩
   rotate_right
   .exact jI ⟨jt,.inl ⟨.inr (.inr ⟨p,q1⟩),mK z p q1⟩⟩
   .rw [f3 b q5] at q1
    refine jI ⟨jt,.inl ⟨.inl ⟨b,B,m,q1,q2,q3,q4⟩,fun h=>?_⟩⟩
    rcases M3 z h with ⟨h,_⟩ | ⟨b',B',m',_,gJ,p1,p2,p3,p4⟩
    .exact t2.lm b B m q1 q3 (q4▸h)
    .have:=t2.inj b' b B' B m' m p1 q1 p2 p3 q3 (p4.trans q4.symm)
     subst this;exact q5 ((EI _).1 gJ)
   .exact jI ⟨jt,.inl ⟨.inr (.inl q1),q2⟩⟩
   .rcases q1 with q1 | q1
    .exact PI.1 q1
    .exact PI.2 ((Jv z).2 (.inr q1))
   .exact PI.2 ((Jv z).2 (.inl q1)))
 have EK:sA.ai=s.ai:=k3.ai.trans ko
 have WU:u9 sA sA.ai (Bf sig.params args ((eX sig.cQ y).drop sig.results.length)) (mU sig.params aO):=by
  rw [EK]
  exact Jt (s:=s2) e3 e2 (by rw [e1,f1]) n3 h5 dM PF (fun z hz=>(M5 z).2 (.inr (.inr hz)))
 rw [<- e1] at WQ
 obtain ⟨sB,b1,b2,b3,b4,b5,b6⟩:=VE t3 WU (fun z hz=>(M5 z).2 (.inr (.inr hz))) WS WQ
 rw [<- b1] at h6
 have M8:sB.ai=s.ai:=b3.ai.trans EK
 have hRA:cX sB.N sB.H sB.ai (sig.results.map fun q=>zS q.1) ((eX sig.cQ y).take sig.results.length) qB bq:=by
  rw [M8,b2,e2];exact Bq.frame (fun z hz _=>⟨b5 z (n3 z hz),rfl⟩) (fun _ _=>rfl)
 obtain ⟨s4,q1,q2,q3,q4,q5⟩:=Qil b4 hRA (fun z hz=>b6 z ((M5 z).2 (.inr (.inl hz))) (fun h=>c5.2.2 z hz z ((Jv z).2 (.inr h)) rfl)) c5.1 h6
 rw [<- q1] at h
 have:=hK (Hf A9) (iC qB) s4 ((((k1.trans k2).trans k3).trans b3).trans q3) q4 (Qim q5) h
 rw [q2,b2,e2] at this;exact this
end
structure Cc {A:cH} {β:Type} (X:mN A β) (XE:Cx):Prop where
 P:X.P=XE.P
 nt:X.nt=XE.nt
 cO:X.eV=XE.cO
 fuel:XE.fuel=A.fuel
 call:∀ f,A.inline f=false->Cm (A.sig f) (X.call f) (XE.call f) XE.ai
 inl:∀ f,A.inline f=true->∀ {γ:Type} {args:List PV} {ws:List Value} {s:S} {KV:PV->LS->Option β} {KE:Value->af->Option γ} {r:β} {Q:γ->Prop},aD s->s.ai=XE.ai->Qw (ER s) args ws->eC s r KV KE Q->X.inl f args s.L KV=some r ->
  ∃ y,(Q1 (XE.call f ws XE.ai s.H) fun q=>KE q.1 q.2)=some y/\Q y
theorem cm.ers {s:S} {ps:List PV} {vs:List Value} (h:cm s ps vs):Qw (ER s) ps vs:=Qw.mono (fun _ _=>ER.eY) h
section
variable {A:cH} {β γ:Type} {s:S} {env:bA} {e:Env} {X:mN A β} {XE:Cx} {o:Oper} {r:β} {Q:γ->Prop}
theorem Qin {H:af} {z:Nat} {k:bx} (h:ah H z=some k):H.set z (some k)=H:=by
 unfold ah at h
 split at h
 .rename_i k' hk
  injection h with h;subst h
  obtain ⟨au,e⟩:=Z0 hk
  rw [<- e];exact List.set_getElem_self au
 .simp at h
theorem Qto {c:List Value} {j:Nat} {v:Value} (h:c[j]? = some v):lay c j [v]=c:=by
 have au:=(Z0 h).1
 apply List.ext_getElem?;intro i
 rw [Pt _ _ _ au]
 split
 .rename_i e;subst e;exact h.symm
 .rfl
theorem Qtp {f:FuncId} {b i aA:Nat} {w:Ty} {x:List w.T} {rest:List PV} {wv:Value} {ws:List Value} {bX:List Value->Nat->af->Option (Value×af)} {KV:PV->LS->Option β} {KE:Value->af->Option γ} (hs:aD s) (dV:cj s (.rw b i aA w x) wv) (dM:Qw (ER s) rest ws) (cF:w.flat=true)
  (hK:eC s r KV KE Q) (hF:Cm (A.sig f) (X.call f) bX s.ai) (h:(WV b i aA w x s.L fun L2 n=>HS X f (.a_ n 0 none::rest) L2 fun u L3=>PJ b i (aA+1) w n L3 fun L4=>KV u L4)=some r) :
  ∃ y,(Q1 (bX (wv::ws) s.ai s.H) fun q=>KE q.1 q.2)=some y/\Q y:=by
 unfold WV at h
 split at h
 .rename_i v0 t xs hb
  replace h:=ob h;obtain ⟨y,hy,h⟩:=h
  unfold aa at h;split at h
  .rename_i hlen
   have hlen:=Z7 hlen
   replace h:=ob h;obtain ⟨⟨x1,L1⟩,ht,h⟩:=h
   simp only at h
   obtain ⟨s1,ids,l1,g1,u1,k1,t1,ho,jT,oB,hnd,aY⟩:=Qih hs dV ht
   have qE:oA s1.N s1.H s1.ai w x1 wv ids:=by rw [k1.ai];exact ho
   obtain ⟨s2,l2,g2,k2,t2,q2,n2,m2⟩:=Me t1 qE (fun z hz=>(jT z).2 (.inr hz))
   have eG:∀ t,w=.os t->t.flat=false:=fun t e=>by subst e;simp [Ty.flat] at cF
   rw [Qij x1 eG] at l2
   obtain ⟨Pa,hL1⟩:v0=aA/\L1=cP s.L b ⟨v0+1,true,.rows t xs (some i)⟩:=by
    unfold qI at ht
    simp only [hb] at ht
    split at ht
    .rename_i hv
     replace ht:=ob ht;obtain ⟨z,_,ht⟩:=ht
     simp at ht
     exact ⟨Z7 hv,ht.2.symm⟩
    .simp at ht
   subst Pa
   obtain ⟨bE,_,hval⟩:cj s (.rw b i v0 w x) wv:=dV
   obtain ⟨_,_,hwh⟩:=(hval _ hb).2 rfl
   have fW:Qi L1 b=some ⟨v0+1,true,.rows t xs (some i)⟩:=by rw [hL1];exact Qr bE
   have rW:Qi s2.L b=some ⟨v0+1,true,.rows t xs (some i)⟩:=by
    rw [l2,Qz (by rw [l1];exact Qn fW),l1];exact fW
   have k12:=k1.trans k2
   rw [l1] at l2 q2
   rw [<- l2] at h
   obtain ⟨hj,ej⟩:=Z0 hy
   obtain ⟨_,hft,⟨_,hx0⟩ | ⟨m,k,hm,a1,a2,a3,a4,a5,a6,a7⟩⟩:=mj hs hb
   .rw [hx0] at hj;simp at hj
   have bL:=(hwh _ _ _ _ m k hb rfl hm a3 y hy).2 hlen
   have fY:s2.ai=s.ai:=k12.ai
   have hH2:s2.H=s.H:=g2.trans g1
   unfold HS at h
   have main:=WO (s:=s2) (KE:=KE) (Q:=Q) (sig:=A.sig f) (call:=X.call f) (bX:=bX) (by rw [fY];exact hF) t2 (args:=.a_ L1.bl.length 0 none::rest) (ws:=wv::ws) ⟨ER.eY q2,Qw.mono (fun _ _=>k12.ER) dM⟩ (KV:=fun u L3=>PJ b i (v0+1) w L1.bl.length L3 fun L4=>KV u L4) (r:=r) (by
    intro pv v s3 k3 t3 r3 h3
    simp only at h3
    unfold PJ at h3
    replace h3:=ob h3;obtain ⟨⟨x2,L4⟩,WS,h3⟩:=h3
    have q3:cj s3 (.a_ L1.bl.length 0 none) wv:=k3.cj q2
    obtain ⟨s4,l4,g4,u4,k4,t4,rc,lm4,_,_⟩:=Wq t3 cF q3 WS
    simp only at h3
    rw [<- l4] at h3
    split at h3
    .rename_i v' e xs' h' hb4
     split at h3
     .rename_i WW
      have WW:=Z7 WW
      subst WW
      replace h3:=ob h3;obtain ⟨z,hz,h3⟩:=h3
      have WX:=k3.trans k4
      obtain ⟨B0,e1,e2,e3⟩:=WX.live b _ (Qn rW) hb4
      rw [rW] at e1;injection e1 with e1;subst e1
      obtain ⟨eB,eh,_⟩:=e3 rfl
      injection eB with _ _ eB
      injection eB with eB1 WY eB3
      subst eB1
      replace WY:=eq_of_heq WY
      subst WY eB3
      have ew:=Qq hz
      injection ew with ew;subst ew
      have:=Qg hz;subst this
      have vk:s2.μ b=some m:=by rw [k12.mu b (Qn hb)];exact hm
      have hm4:s4.μ b=some m:=by rw [WX.mu b (Qn rW)];exact vk
      have hk4:ah s4.H m.z=some k:=by rw [eh m vk,hH2];exact a3
      have hp:Qa wv wv=true:=by
       rcases rc with ⟨_,e⟩ | ⟨_,_,_,e,_⟩<;>rw [e]<;>simp [Qa]
      obtain ⟨s5,l5,g5,k5,t5,_⟩:=WZ t4 hb4 hm4 hk4 hj (.inr rfl) (y:=x2) (v:=wv) (by
       rw [k4.ai];exact rc.mono cF (fun z hz=>⟨.inl hz.1,by rw [g4]⟩)) hp
      have hkk:(⟨lay k.cells (m.sh+i) [wv],false,k.mp⟩:bx)=k:=by
       rw [Qto bL]
       obtain ⟨kc,kr,km⟩:=k
       simp only at a5;rw [a5]
      rw [hkk,Qin hk4,g4] at g5
      have:=hK pv v s5 (k12.trans (WX.trans k5)) t5 ((k4.trans k5).ER r3) (by rw [l5];exact h3)
      rw [g5] at this;exact this
     .simp at h3
    .simp at h3) h
   rw [fY,hH2] at main
   exact main
  .simp at h
 .simp at h
theorem Qnn {f:FuncId} {args:List PV} {ws:List Value} {bX:List Value->Nat->af->Option (Value×af)} {KV:PV->LS->Option β} {KE:Value->af->Option γ} (hs:aD s) (hr:Qw (ER s) args ws)
  (hK:eC s r KV KE Q) (hF:Cm (A.sig f) (X.call f) bX s.ai) (h:W0 X f args s.L KV=some r) :
  ∃ y,(Q1 (bX ws s.ai s.H) fun q=>KE q.1 q.2)=some y/\Q y:=by
 unfold W0 at h
 split at h
 .rename_i b i aA w x rest
  cases ws with
  | nil=>exact absurd hr id
  | cons wv ws =>
   split at h
   .split at h
    .rename_i cF
     exact Qtp hs hr.1 hr.2 cF hK hF h
    .simp at h
   .unfold HS at h;exact WO hF hs hr hK h
 .unfold HS at h;exact WO hF hs hr hK h
theorem Qtq {c:Call} {KV:PV->LS->Option β} {KE:Value->af->Option γ} (hX:Cc X XE) (aH:s.ai=XE.ai) (ho:o.op=.call c) (hs:aD s) (he:cE s env e) (hK:eC s r KV KE Q) (h:c_ X o env s.L KV=some r):∃ y,di XE o e s.H KE=some y/\Q y:=by
 simp only [c_,ho] at h;simp only [di,ho]
 split at h
 .rename_i b hc
  rw [hc];simp only
  replace h:=ob h;obtain ⟨ps,h1,h⟩:=h
  obtain ⟨vs,e1,r1⟩:=M9 he h1
  rw [e1];simp only [Q1]
  exact Qka hX.P aH.symm hs r1 hK h
 .rename_i f hc
  rw [hc];simp only
  replace h:=ob h;obtain ⟨g,h1,h⟩:=h
  replace h:=ob h;obtain ⟨ps,h2,h⟩:=h
  obtain ⟨gv,e1,r1⟩:=fF he h1
  obtain ⟨vs,e2,r2⟩:=M9 he h2
  rw [e1,e2];simp only [Q1]
  split at h
  .rename_i n first cap
   obtain ⟨fa,ca,rfl,q1,q2⟩:=r1
   simp only
   have hr:Qw (ER s) (first++ps++cap) (fa++vs++ca):=Qw.append (Qw.append q1.ers r2) q2.ers
   have M_:eC s r (fun u L'=>match OP X.P o.type with
     | some tm=>match CO tm u with
      | true=>KV u L'
      | false=>none
     | none=>KV u L') (fun v H=>match OP XE.P o.type with
     | some tm=>Eb tm v fun u=>KE u H
     | none=>KE v H) Q:=by
    intro pv v s' hk bY dA h
    simp only at h
    rw [<- hX.P]
    split at h
    .rename_i tm W1
     split at h
     .rename_i hf
      simp only [W1]
      rw [Qrl dA hf]
      exact hK pv v s' hk bY dA h
     .simp at h
    .rename_i W1
     simp only [W1]
     exact hK pv v s' hk bY dA h
   unfold Na at h
   split at h
   .rename_i hi
    exact hX.inl n hi hs aH hr M_ h
   .rename_i hi
    have hF:=hX.call n hi
    rw [<- aH] at hF ⊢
    exact Qnn hs hr M_ hF h
  .simp at h
 .simp at h
theorem Qqo {KV:PV->LS->Option β} {KE:Value->af->Option γ} (hX:Cc X XE) (aH:s.ai=XE.ai) (hs:aD s) (he:cE s env e) (hK:eC s r KV KE Q) (h:c_ X o env s.L KV=some r):∃ y,di XE o e s.H KE=some y/\Q y:=by
 cases aJ:o.op with
 | move x=>simp only [c_,aJ] at h;simp only [di,aJ];exact PK hs he hK h
 | assign x=>simp only [c_,aJ] at h;simp only [di,aJ];exact PK hs he hK h
 | pick c a b=>exact Qts aJ hs he hK h
 | alloc t=>exact Qr3 hX.P aJ hs he hK h
 | box t x=>exact Qwz aJ hs he hK h
 | build t ps=>exact Qqv hX.P aJ hs he hK h
 | buildSlice t n ps=>exact Qcx hX.P aJ hs he hK h
 | load t a=>exact Qtx hX.P aJ hs he hK h
 | store t a x=>exact Qr5 hX.P aH.symm aJ hs he hK h
 | nilCheck x=>exact Qiv aJ hs he hK h
 | binOp op t x y u=>exact Qqz hX.P aJ hs he hK h
 | unOp op t x=>exact Qtt aJ hs he hK h
 | convert a b x=>exact Qkj hX.P aJ hs he hK h
 | makeFunc fn a b =>
  cases fn with
  | func f=>exact Qir aJ hs he hK h
  | _=>simp [c_,aJ] at h
 | makeSlice t l c=>exact Qfx hX.P aJ hs he hK h
 | slice t x lo hi mx =>
  cases mx with
  | none=>exact Qqk hX.P aJ hs he hK h
  | some m=>simp [c_,aJ] at h
 | fieldAddr t x f=>exact Qft hX.P aJ hs he hK h
 | field t x f=>exact Qqw hX.P aJ hs he hK h
 | indexAddr t x i=>exact Qfw hX.P aJ hs he hK h
 | index t x i=>exact Qqx hX.P aJ hs he hK h
 | extract x i=>exact Qkd aJ hs he hK h
 | call c=>exact Qtq hX aH aJ hs he hK h
 | _=>simp [c_,aJ] at h
theorem Qio {v:PV} {F:Nat->Option β} (h:CP v F=some r):∃ b,v=.mp b/\F b=some r:=by
 unfold CP at h
 split at h
 .exact ⟨_,rfl,h⟩
 .simp at h
theorem W2 {v:PV} {F:Int->Option β} (h:Ar v F=some r):∃ n,v=.int .i64 n/\F n=some r:=by
 unfold Ar at h
 split at h
 .exact ⟨_,rfl,h⟩
 .simp at h
theorem Qip (hs:aD s) {b:Nat} {q:Nat×List (Int×Int)} (h:lmap s.L b=some q):Qi s.L b=some ⟨q.1,true,.mp q.2⟩/\∃ m,s.μ b=some m/\m.sh=0/\s.ai<=m.z/\E_ s.H m.z=some q.2:=by
 unfold lmap at h
 split at h
 .rename_i aA es hb
  injection h with h;subst h
  have hB:=hs.aI b _ hb
  unfold BR at hB;simp only at hB
  obtain ⟨_,m,k,h1,h2,h3,h4,h5,h6,_⟩:=hB
  refine ⟨hb,m,h1,h2,h6,?_⟩
  unfold E_;rw [h3];simp only [Q1,h5,h4]
 .simp at h
theorem Qtr {KV:PV->LS->Option β} {KE:Value->af->Option γ} (hX:Cc X XE) (aH:s.ai=XE.ai) (hs:aD s) (he:cE s env e) (hK:eC s r KV KE Q) (h:EL X o env s.L KV=some r):∃ y,Bu XE o e s.H KE=some y/\Q y:=by
 cases aJ:o.op with
 | makeMap t n =>
  cases n with
  | none =>
   simp only [EL,aJ] at h;simp only [Bu,aJ]
   obtain ⟨s',e1,e2,e3,k,t'⟩:=hs.EM (.mp []) ⟨[],false,some []⟩ ⟨s.H.length,0,0,0⟩ rfl (fun s' hk hm hg hN=>by
    unfold BR;simp only
    exact ⟨trivial,_,_,hm,rfl,hg,rfl,rfl,by rw [hk.ai];exact hs.dP,rfl⟩)
   rw [<- e1] at h
   have:=hK (.mp s.L.bl.length) (.map (some s.H.length)) s' k t' (ER.eY ⟨by rw [e1,Qk];omega,_,e3,rfl⟩) h
   rw [e2] at this
   exact this
  | some x =>
   simp only [EL,aJ,c_] at h
   simp at h
 | mapUpdate t m k v =>
  simp only [EL,aJ] at h;simp only [Bu,aJ,<- hX.P]
  split at h
  .rename_i ht
   simp only [ht]
   replace h:=ob h;obtain ⟨mv,hm,h⟩:=h
   replace h:=ob h;obtain ⟨kv,hk,h⟩:=h
   replace h:=ob h;obtain ⟨vv,hv,h⟩:=h
   replace h:=Qio h;obtain ⟨b,rfl,h⟩:=h
   replace h:=W2 h;obtain ⟨a,rfl,h⟩:=h
   replace h:=W2 h;obtain ⟨u,rfl,h⟩:=h
   replace h:=ob h;obtain ⟨q,hq,h⟩:=h
   obtain ⟨w1,f1,⟨_,m',g1,rfl⟩⟩:=fF he hm
   obtain ⟨w2,f2,r2⟩:=fF he hk
   obtain ⟨w3,f3,r3⟩:=fF he hv
   obtain rfl:w2=.int .i64 a:=r2
   obtain rfl:w3=.int .i64 u:=r3
   obtain ⟨hb,m2,h1,h2,h3,h4⟩:=Qip hs hq
   rw [g1] at h1;injection h1 with h1;subst h1
   simp only [f1,f2,f3,Q1,Iq,Fa,h4]
   obtain ⟨s',e1,e2,e3,k',t'⟩:=hs.set hb rfl g1 ⟨q.1+1,true,.mp (gL q.2 a u)⟩ rfl rfl ⟨[],false,some (gL q.2 a u)⟩ (fun s' hk hm hg hN=>by
    unfold BR;simp only
    exact ⟨trivial,_,_,hm,h2,hg,rfl,rfl,by rw [hk.ai];exact h3,rfl⟩)
   rw [<- e1] at h
   have:=hK .undef undef s' k' t' rfl h
   rw [e2] at this
   exact this
  .simp at h
 | lookup t m k ok =>
  simp only [EL,aJ] at h;simp only [Bu,aJ,<- hX.P]
  split at h
  .rename_i ht
   simp only [ht]
   replace h:=ob h;obtain ⟨mv,hm,h⟩:=h
   replace h:=ob h;obtain ⟨kv,hk,h⟩:=h
   replace h:=Qio h;obtain ⟨b,rfl,h⟩:=h
   replace h:=W2 h;obtain ⟨a,rfl,h⟩:=h
   replace h:=ob h;obtain ⟨q,hq,h⟩:=h
   obtain ⟨w1,f1,⟨_,m',g1,rfl⟩⟩:=fF he hm
   obtain ⟨w2,f2,r2⟩:=fF he hk
   obtain rfl:w2=.int .i64 a:=r2
   obtain ⟨hb,m2,h1,h2,h3,h4⟩:=Qip hs hq
   rw [g1] at h1;injection h1 with h1;subst h1
   simp only [f1,f2,Q1,Iq,Fa,h4]
   refine hK.here hs ?_ h
   cases ok with
   | true=>exact ⟨_,rfl,rfl,rfl,trivial⟩
   | false=>exact rfl
  .simp at h
 | _ =>
  have hV:EL X o env s.L KV=c_ X o env s.L KV:=by simp only [EL,aJ]
  have hE:Bu XE o e s.H KE=di XE o e s.H KE:=by simp only [Bu,aJ]
  rw [hV] at h;rw [hE]
  exact Qqo hX aH hs he hK h
def fD (W:List Nat) (env ak:bA) (e e':Env):Prop:=∀ q,q∉W->dr ak q=none\/(dr ak q=dr env q/\cN e' q=cN e q)
theorem fD.refl (W:List Nat) (env:bA) (e:Env):fD W env env e e:=fun _ _=>.inr ⟨rfl,rfl⟩
theorem fD.trans {W:List Nat} {env ak EN:bA} {e e' e'':Env} (h:fD W env ak e e') (g:fD W ak EN e' e''):fD W env EN e e'':=by
 intro q hq
 rcases g q hq with g1 | ⟨g1,g2⟩
 .exact .inl g1
 .rcases h q hq with h1 | ⟨h1,h2⟩
  .exact .inl (g1.trans h1)
  .exact .inr ⟨g1.trans h1,g2.trans h2⟩
theorem fD.mono {W V:List Nat} {env ak:bA} {e e':Env} (h:fD W env ak e e') (hs:∀ q,q∈W->q∈V):fD V env ak e e':=fun q hq=>h q (fun hw=>hq (hs q hw))
theorem fD.cons {W:List Nat} {env:bA} {e:Env} {d:Nat} {p:PV} {v:Value} (hd:d∈W):fD W env ((d,p)::env) e ((d,v)::e):=by
 intro q hq
 have aU:Nat.beq d q=false:=by
  cases hb:Nat.beq d q with
  | false=>rfl
  | true=>exact absurd (Z7 hb▸hd) hq
 right;simp only [dr,cN,aU];exact ⟨trivial,trivial⟩
def COk (W:List Nat) (cW:bA) (e0:Env) (s:S) (r:β) (KV:bA->LS->Option β) (KE:Env->af->Option γ) (Q:γ->Prop):Prop :=
 ∀ env e s',aj s s'->aD s'->cE s' env e->fD W cW env e0 e->KV env s'.L=some r->∃ y,KE e s'.H=some y/\Q y
theorem Qdp {ops:Array Oper} {W:List Nat} {KV:Bool->bA->Option β} {KE:Bool->Env->Option γ} (hW:∀ (j d:Nat),(ops[j]?).bind (fun (x:Oper)=>x.dst)=some d->d∈W) (he:cE s env e) (h:PL ops o env KV=some r) (hK:∀ t ak e',cE s ak e'->fD W env ak e e'->KV t ak=some r->∃ y,KE t e'=some y/\Q y):∃ y,Dc ops o e KE=some y/\Q y:=by
 unfold PL at h;unfold Dc
 cases hg:o.guard with
 | none=>rw [hg] at h;exact hK _ _ _ he (fD.refl _ _ _) h
 | some jw =>
  obtain ⟨j,want⟩:=jw
  rw [hg] at h
  simp only at h ⊢
  cases hd:(ops[j]?).bind (·.dst) with
  | none=>rw [hd] at h;simp at h
  | some d =>
   rw [hd] at h
   simp only at h ⊢
   replace h:=ob h;obtain ⟨p,h1,h⟩:=h
   obtain ⟨v,e1,r1⟩:=he.get h1
   simp only [e1,Q1]
   split at h
   .rename_i b
    obtain rfl:v=.bool b:=r1
    simp only
    cases b with
    | true=>simp only [aa] at h ⊢;exact hK _ _ _ (he.cons (p:=.bool true) rfl) (fD.cons (hW j d hd)) h
    | false=>simp only [aa] at h ⊢;exact hK _ _ _ (he.cons (p:=.bool false) rfl) (fD.cons (hW j d hd)) h
   .obtain rfl:v=undef:=r1
    exact hK _ _ _ he (fD.refl _ _ _) h
   .simp at h
theorem PN {nt:Nat} {W:List Nat} {dst:Option Tmp} {p:PV} {v:Value} {KV:bA->Option β} {KE:Env->Option γ} (hW:∀ d,dst=some d->d∈W) (he:cE s env e) (hr:ER s p v) (h:Jw nt dst p env KV=some r) (hK:∀ ak e',cE s ak e'->fD W env ak e e'->KV ak=some r->∃ y,KE e'=some y/\Q y):∃ y,Db nt dst v e KE=some y/\Q y:=by
 unfold Jw at h;unfold Db
 split at h
 .exact hK _ _ he (fD.refl _ _ _) h
 .rename_i d
  split at h
  .rename_i hd;simp only [hd];exact hK _ _ (he.cons hr) (fD.cons (hW d rfl)) h
  .simp at h
theorem Vt {ops:Array Oper} {W:List Nat} {KV:bA->LS->Option β} {KE:Env->af->Option γ} (hX:Cc X XE) (hW:∀ (j d:Nat),(ops[j]?).bind (fun (x:Oper)=>x.dst)=some d->d∈W) (cW:bA) (e0:Env):∀ {l:List Oper} {s:S} {env:bA} {e:Env},(∀ o∈l,∀ d,o.dst=some d->d∈W)->s.ai=XE.ai->aD s->cE s env e->fD W cW env e0 e->COk W cW e0 s r KV KE Q->As X ops l env s.L KV=some r->∃ y,Bv XE ops l e s.H KE=some y/\Q y
 | [],s,env,e,_,aH,hs,he,hu,hK,h=>hK env e s (aj.refl s) hs he hu h
 | o::l,s,env,e,hl,aH,hs,he,hu,hK,h=>by
  simp only [As] at h;simp only [Bv]
  refine Qdp hW he h (fun t ak e' gz dn h=>?_)
  cases t with
  | true =>
   simp only at h ⊢
   refine Qtr hX aH hs gz (fun pv v s' hk bY hr h=>?_) h
   rw [hX.nt] at h
   refine PN (hl o (by simp)) (hk.env gz) hr h (fun b_ e2 uY iF h=>?_)
   exact Vt hX hW cW e0 (fun o ho=>hl o (by simp [ho])) (hk.ai.trans aH) bY uY ((hu.trans dn).trans iF) (fun HT e3 s3 k3=>hK HT e3 s3 (hk.trans k3)) h
  | false =>
   simp only at h ⊢
   rw [hX.nt] at h
   refine PN (hl o (by simp)) gz (p:=.undef) rfl h (fun b_ e2 uY iF h=>?_)
   exact Vt hX hW cW e0 (fun o ho=>hl o (by simp [ho])) aH hs uY ((hu.trans dn).trans iF) hK h
def qN:List S->List (bA×LS)->List (Env×af)->Prop
 | [],[],[]=>True
 | s::ss,(env,L)::tr,(e,H)::te=>s.L=L/\s.H=H/\aD s/\cE s env e/\(∀ t∈ss,aj t s)/\qN ss tr te
 | _,_,_=>False
theorem W3 {ops:Array Oper} {W:List Nat} {KV:List (bA×LS)->bA->LS->Option β} {KE:List (Env×af)->Env->af->Option γ} (hX:Cc X XE) (hW:∀ (j d:Nat),(ops[j]?).bind (fun (x:Oper)=>x.dst)=some d->d∈W) (cW:bA) (e0:Env) (s0:S):∀ {l:List Oper} {s:S} {env:bA} {e:Env} {ss:List S} {tr:List (bA×LS)} {te:List (Env×af)},(∀ o∈l,∀ d,o.dst=some d->d∈W)->s.ai=XE.ai->aD s->cE s env e->fD W cW env e0 e->qN ss tr te->(∀ t∈ss,aj t s)->aj s0 s->(∀ t∈ss,aj s0 t) ->
  (∀ ak e' s' W4 Ey W5,aj s s'->aD s'->cE s' ak e'->fD W cW ak e0 e'->qN (s'::W4) ((ak,s'.L)::Ey) ((e',s'.H)::W5)->(∀ t∈s'::W4,aj s0 t)->KV ((ak,s'.L)::Ey) ak s'.L=some r->∃ y,KE ((e',s'.H)::W5) e' s'.H=some y/\Q y) ->
  Nb X ops l env s.L tr KV=some r->∃ y,zJ XE ops l e s.H te KE=some y/\Q y
 | [],s,env,e,ss,tr,te,_,aH,hs,he,hu,ht,EG,h0,W6,hK,h =>
  hK env e s ss tr te (aj.refl s) hs he hu ⟨rfl,rfl,hs,he,EG,ht⟩ (fun t zY=>by rcases Z2 zY with rfl | h1;exact h0;exact W6 t h1) h
 | o::l,s,env,e,ss,tr,te,hl,aH,hs,he,hu,ht,EG,h0,W6,hK,h=>by
  simp only [Nb] at h;simp only [zJ]
  refine Qdp hW he h (fun t ak e' gz dn h=>?_)
  have hall:∀ t∈s::ss,aj s0 t:=fun t zY=>by
   rcases Z2 zY with rfl | h1
   .exact h0
   .exact W6 t h1
  cases t with
  | true =>
   simp only at h ⊢
   refine Qqo hX aH hs gz (fun pv v s' hk bY hr h=>?_) h
   rw [hX.nt] at h
   refine PN (hl o (by simp)) (hk.env gz) hr h (fun b_ e2 uY iF h=>?_)
   exact W3 hX hW cW e0 s0 (ss:=s::ss) (tr:=(ak,s.L)::tr) (fun o ho=>hl o (by simp [ho])) (hk.ai.trans aH) bY uY ((hu.trans dn).trans iF) ⟨rfl,rfl,hs,gz,EG,ht⟩ (fun t zY=>by
    rcases Z2 zY with rfl | h1
    .exact hk
    .exact (EG t h1).trans hk) (h0.trans hk) hall (fun HT e3 s3 ss3 tr3 te3 k3=>hK HT e3 s3 ss3 tr3 te3 (hk.trans k3)) h
  | false =>
   simp only at h ⊢
   rw [hX.nt] at h
   refine PN (hl o (by simp)) gz (p:=.undef) rfl h (fun b_ e2 uY iF h=>?_)
   exact W3 hX hW cW e0 s0 (ss:=s::ss) (tr:=(ak,s.L)::tr) (fun o ho=>hl o (by simp [ho])) aH hs uY ((hu.trans dn).trans iF) ⟨rfl,rfl,hs,gz,EG,ht⟩ (fun t zY=>by
    rcases Z2 zY with rfl | h1
    .exact aj.refl _
    .exact EG t h1) h0 hall hK h
end
theorem Qbz:∀ {l:List Value},(∀ v∈l,Qa v v=true)->A0 l l=true
 | [],_=>rfl
 | v::l,h=>by
  simp only [A0,Z8]
  exact ⟨h v (by simp),Qbz (fun w hw=>h w (List.mem_cons_of_mem _ hw))⟩
theorem PO {l:List Value} (h:∀ v∈l,Qa v v=true):jF (some (.agg l.toArray)) (some (.agg l.toArray))=true:=by
 simp [jF,Qbz h]
theorem Qkb {v:Value} (h:Qa v v=true):jF (some v) (some v)=true:=by
 unfold jF
 split
 .rfl
 .rename_i xs ys e1 e2
  injection e1 with e1;subst e1;simp [Qa] at h
 .rename_i e1 e2;injection e1 with e1;injection e2 with e2;subst e1 e2;exact h
 .rename_i h1 h2;exact absurd rfl (h2 v v rfl)
theorem ob1 {α β:Type} (a:α) (f:α->Option β):Q1 (some a) f=f a:=rfl
theorem vl {P:Program} {t:TypeId} {a:Operand} {e:Env} {H G:af} {z off:Nat} {k:bx} (hv:ev e a=some (.pointer (some ⟨z,off,none⟩))) (hk:ah H z=some k) (hg:ah G z=some k)
  (hp:∀ i,P.info? t=some i->∀ j,j < max i.size 1->∀ v,k.cells[off+j]? = some v->Qa v v=true):jF (cT P (.load t a) e G) (cT P (.load t a) e H)=true:=by
 have hN:∀ n,Qx G ⟨z,off,none⟩ n=Qx H ⟨z,off,none⟩ n:=fun n=>by unfold Qx;simp only [hk,hg]
 have hL:gx G ⟨z,off,none⟩=gx H ⟨z,off,none⟩:=by unfold gx;simp only [hk,hg]
 simp only [cT,JQ hv,hv,ob1,eW,hN,hL]
 cases hi:P.info? t with
 | none=>rfl
 | some i =>
  simp only [ob1]
  have agg:jF (Q1 (Qx H ⟨z,off,none⟩ i.size) fun l=>some (.agg l.toArray)) (Q1 (Qx H ⟨z,off,none⟩ i.size) fun l=>some (.agg l.toArray))=true:=by
   cases hl:Qx H ⟨z,off,none⟩ i.size with
   | none=>rfl
   | some l =>
    refine PO (fun v hv=>?_)
    unfold Qx at hl;simp only [hk,Q1] at hl
    split at hl
    .simp at hl;subst hl
     obtain ⟨j,hj,ej⟩:=List.getElem_of_mem hv
     have OS:j < i.size:=by simp at hj;omega
     refine hp i hi j (by omega) v ?_
     have:((k.cells.drop off).take i.size)[j]? = some v:=by rw [Z6 hj,ej]
     rw [List.getElem?_take_of_lt OS,Zp] at this;exact this
    .simp at hl
  have leaf:jF (gx H ⟨z,off,none⟩) (gx H ⟨z,off,none⟩)=true:=by
   cases hl:gx H ⟨z,off,none⟩ with
   | none=>rfl
   | some v =>
    refine Qkb (hp i hi 0 (by omega) v ?_)
    unfold gx at hl;simp only [hk,Q1] at hl;simpa using hl
  cases P.underlying t with
  | none=>rfl
  | some d=>cases d<;>first | exact agg | exact leaf
theorem Jx {P:Program} {s1 s2:TypeId} {a:Operand} {e:Env} {H G:af} {v:Value} {l:List Value} (hv:ev e a=some v) (hH:Qf H 1 v=some l) (hG:Qf G 1 v=some l) (hp:∀ w∈l,Qa w w=true):jF (cT P (.convert s1 s2 a) e G) (cT P (.convert s1 s2 a) e H)=true:=by
 simp only [cT,hv,Q1,hH,hG]
 exact PO hp
theorem Nc {P:Program} {o:Op} {e:Env} {H G:af} (h1:cT P o e H=none) (h2:cT P o e G=none):jF (cT P o e G) (cT P o e H)=true:=by rw [h1,h2];rfl
def CQ (s t:S):Prop:=aj s t\/aj t s
theorem CQ.same {s t:S} (h:CQ s t) {b:Nat} (hv:Jy s.L t.L b=true) {m:MB} (hm:s.μ b=some m):∃ B,Qi s.L b=some B/\Qi t.L b=some B/\ah t.H m.z=ah s.H m.z:=by
 unfold Jy at hv
 split at hv
 .rename_i x y hx hy
  have hv:=Z7 hv
  rcases h with h | h
  .obtain ⟨B,b1,b2,b3⟩:=h.live b y (Qn hx) hy
   rw [hx] at b1;injection b1 with b1;subst b1
   obtain ⟨c1,c2,_⟩:=b3 hv
   subst c1
   exact ⟨y,hx,hy,c2 m hm⟩
  .obtain ⟨B,b1,b2,b3⟩:=h.live b x (Qn hy) hx
   rw [hy] at b1;injection b1 with b1;subst b1
   obtain ⟨c1,c2,_⟩:=b3 hv.symm
   subst c1
   refine ⟨x,hx,hy,(c2 m ?_).symm⟩
   rw [<- h.mu b (Qn hy)];exact hm
 .simp at hv
theorem Qww {P:Program} {s0 si sm:S} {c0:Nat} (hs:aD si) (W7:aj s0 si) (k0m:aj s0 sm) (hc:c0<=s0.L.ct) (hold:∀ z,s0.Old c0 z->z < s0.H.length/\¬ bI s0 z) (hn:CQ si sm) {env:bA} {e:Env} (he:cE si env e)
  {o:Op} (h:W8 P c0 o env si.L sm.L=true):jF (cT P o e sm.H) (cT P o e si.H)=true:=by
 have fz:∀ {st z:Nat} {k:bx},si.NN st z->st < c0->ah si.H z=some k->ah sm.H z=some k:=by
  intro st z k Nd eO hk
  have h1:=Nd.2 c0 eO (Nat.le_trans hc W7.ck.1)
  rw [W7.ck.2.1 c0 hc] at h1
  obtain ⟨h2,h3⟩:=hold z h1
  rw [k0m.fr z h2 h3,<- W7.fr z h2 h3];exact hk
 unfold W8 at h
 split at h
 .rename_i t a
  cases hg:AA P t a with
  | some v =>
   obtain ⟨g,l,i,n,e',_,_,_,_,_,h2,rfl⟩:=XV hg
   simp only [cT,hg]
   refine PO fun v hv=>?_
   have:=Z3 h2 v hv
   unfold Qu at this
   split at this<;>simp_all [Qa]
  | none =>
  rw [hg] at h
  simp only at h
  cases hp:er env a with
  | none =>
   rw [hp] at h
   have v_:ev e a=none:=by
    cases a with
    | tmp q=>have:=he q;rw [show dr env q=none from hp] at this;exact this
    | _=>simp [PR] at h
   exact Nc (by simp [cT,hg,v_,Q1]) (by simp [cT,hg,v_,Q1])
  | some p =>
   rw [hp] at h
   obtain ⟨v,e1,r1⟩:=fF he hp
   cases p with
   | rp st u x =>
    simp only [Z8] at h
    obtain ⟨z,oo,k,rfl,Nd,hk,hle,cS⟩:=r1
    refine vl e1 hk (fz Nd (Bd h.1) hk) (fun i hi j hj w hw=>?_)
    have h2:=h.2
    rw [hi] at h2
    have bf:=Z7 h2
    have eM:=Ty.size_pos u
    refine ax.plain u cS w (List.mem_iff_getElem?.2 ⟨j,?_⟩)
    rw [List.getElem?_take_of_lt (by omega),Zp];exact hw
   | ep b j fo =>
    obtain ⟨bE,m,hm,rfl⟩:=r1
    obtain ⟨B,b1,b2,b3⟩:=hn.same h hm
    have hB:=hs.aI b B b1
    obtain ⟨aA,EO,bo⟩:=B
    cases bo with
    | cells cs =>
     unfold BR at hB;simp only at hB
     obtain ⟨_,m',k,aE,dQ,hk,cB,_⟩:=hB
     rw [hm] at aE;injection aE with aE;subst aE
     refine vl e1 hk (by rw [b3];exact hk) (fun i hi j' hj w hw=>?_)
     have:∀ {cs:List PV} {vs:List Value},cm si cs vs->∀ v∈vs,Qa v v=true:=by
      intro cs;induction cs with
      | nil=>intro vs h v hv;cases vs<;>simp_all [cm,Qw]
      | cons p cs ih=>intro vs h v hv;match vs,h with
       | w::vs,h=>rcases Z2 hv with rfl | hv;exact h.1.plain;exact ih h.2 v hv
     exact this cB w (Zc hw)
    | mp es =>
     unfold BR at hB;simp only at hB
     obtain ⟨_,m',k,aE,_,hk,_,_,_,HU⟩:=hB
     rw [hm] at aE;injection aE with aE;subst aE
     refine vl e1 hk (by rw [b3];exact hk) (fun i hi j' hj w hw=>?_)
     rw [HU] at hw;simp at hw
    | arr t' xs =>
     obtain ⟨a1,a2,k,a3,a4,a5,_⟩:=me hs b1 hm
     refine vl e1 a3 (by rw [b3];exact a3) (fun i hi j' hj w hw=>?_)
     refine (zU hs b1 hm a3).2 w (List.mem_iff_getElem?.2 ⟨j*m.es+fo+j',?_⟩)
     rw [Zp,show m.sh+(j*m.es+fo+j')=m.sh+j*m.es+fo+j' by omega];exact hw
    | rows t' xs ho =>
     obtain ⟨_,_,⟨fL,_⟩ | ⟨m',k,aE,a1,a2,a3,a4,_⟩⟩:=mj hs b1
     .rw [hm] at fL;simp at fL
     rw [hm] at aE;injection aE with aE;subst aE
     refine vl e1 a3 (by rw [b3];exact a3) (fun i hi j' hj w hw=>?_)
     refine a4.2 w (List.mem_iff_getElem?.2 ⟨j*m.es+fo+j',?_⟩)
     rw [Zp,show m.sh+(j*m.es+fo+j')=m.sh+j*m.es+fo+j' by omega];exact hw
   | ptr b off =>
    obtain ⟨bE,m,hm,dQ,rfl⟩:=r1
    obtain ⟨B,b1,b2,b3⟩:=hn.same h hm
    have hB:=hs.aI b B b1
    obtain ⟨aA,EO,bo⟩:=B
    cases bo with
    | cells cs =>
     unfold BR at hB;simp only at hB
     obtain ⟨_,m',k,aE,_,hk,cB,_⟩:=hB
     rw [hm] at aE;injection aE with aE;subst aE
     refine vl e1 hk (by rw [b3];exact hk) (fun i hi j' hj w hw=>?_)
     have:∀ {cs:List PV} {vs:List Value},cm si cs vs->∀ v∈vs,Qa v v=true:=by
      intro cs;induction cs with
      | nil=>intro vs h v hv;cases vs<;>simp_all [cm,Qw]
      | cons p cs ih=>intro vs h v hv;match vs,h with
       | w::vs,h=>rcases Z2 hv with rfl | hv;exact h.1.plain;exact ih h.2 v hv
     exact this cB w (Zc hw)
    | mp es =>
     unfold BR at hB;simp only at hB
     obtain ⟨_,m',k,aE,_,hk,_,_,_,HU⟩:=hB
     rw [hm] at aE;injection aE with aE;subst aE
     refine vl e1 hk (by rw [b3];exact hk) (fun i hi j' hj w hw=>?_)
     rw [HU] at hw;simp at hw
    | arr t' xs =>
     obtain ⟨a1,a2,k,a3,a4,a5,_⟩:=me hs b1 hm
     refine vl e1 a3 (by rw [b3];exact a3) (fun i hi j' hj w hw=>?_)
     refine (zU hs b1 hm a3).2 w (List.mem_iff_getElem?.2 ⟨off+j',?_⟩)
     rw [Zp,dQ,Zo];exact hw
    | rows t' xs ho =>
     obtain ⟨_,_,⟨fL,_⟩ | ⟨m',k,aE,a1,a2,a3,a4,_⟩⟩:=mj hs b1
     .rw [hm] at fL;simp at fL
     rw [hm] at aE;injection aE with aE;subst aE
     refine vl e1 a3 (by rw [b3];exact a3) (fun i hi j' hj w hw=>?_)
     refine a4.2 w (List.mem_iff_getElem?.2 ⟨off+j',?_⟩)
     rw [Zp,dQ,Zo];exact hw
   | dp b W9 n0 u0 k0 =>
    obtain ⟨bE,m,hm,dQ,rfl⟩:=r1
    generalize W9+k0*u0.size=off at *
    obtain ⟨B,b1,b2,b3⟩:=hn.same h hm
    have hB:=hs.aI b B b1
    obtain ⟨aA,EO,bo⟩:=B
    cases bo with
    | cells cs =>
     unfold BR at hB;simp only at hB
     obtain ⟨_,m',k,aE,_,hk,cB,_⟩:=hB
     rw [hm] at aE;injection aE with aE;subst aE
     refine vl e1 hk (by rw [b3];exact hk) (fun i hi j' hj w hw=>?_)
     have:∀ {cs:List PV} {vs:List Value},cm si cs vs->∀ v∈vs,Qa v v=true:=by
      intro cs;induction cs with
      | nil=>intro vs h v hv;cases vs<;>simp_all [cm,Qw]
      | cons p cs ih=>intro vs h v hv;match vs,h with
       | w::vs,h=>rcases Z2 hv with rfl | hv;exact h.1.plain;exact ih h.2 v hv
     exact this cB w (Zc hw)
    | mp es =>
     unfold BR at hB;simp only at hB
     obtain ⟨_,m',k,aE,_,hk,_,_,_,HU⟩:=hB
     rw [hm] at aE;injection aE with aE;subst aE
     refine vl e1 hk (by rw [b3];exact hk) (fun i hi j' hj w hw=>?_)
     rw [HU] at hw;simp at hw
    | arr t' xs =>
     obtain ⟨a1,a2,k,a3,a4,a5,_⟩:=me hs b1 hm
     refine vl e1 a3 (by rw [b3];exact a3) (fun i hi j' hj w hw=>?_)
     refine (zU hs b1 hm a3).2 w (List.mem_iff_getElem?.2 ⟨off+j',?_⟩)
     rw [Zp,dQ,Zo];exact hw
    | rows t' xs ho =>
     obtain ⟨_,_,⟨fL,_⟩ | ⟨m',k,aE,a1,a2,a3,a4,_⟩⟩:=mj hs b1
     .rw [hm] at fL;simp at fL
     rw [hm] at aE;injection aE with aE;subst aE
     refine vl e1 a3 (by rw [b3];exact a3) (fun i hi j' hj w hw=>?_)
     refine a4.2 w (List.mem_iff_getElem?.2 ⟨off+j',?_⟩)
     rw [Zp,dQ,Zo];exact hw
   | undef =>
    obtain rfl:v=undef:=r1
    exact Nc (by simp [cT,hg,e1,Q1];rfl) (by simp [cT,hg,e1,Q1];rfl)
   | _=>simp at h
 .rename_i t u a
  cases hp:er env a with
  | none =>
   rw [hp] at h
   have v_:ev e a=none:=by
    cases a with
    | tmp q=>have:=he q;rw [show dr env q=none from hp] at this;exact this
    | _=>simp [PR] at h
   exact Nc (by simp [cT,v_,Q1]) (by simp [cT,v_,Q1])
  | some p =>
   rw [hp] at h
   obtain ⟨v,e1,r1⟩:=fF he hp
   cases p with
   | nil=>obtain rfl:v=_:=r1;exact Jx e1 rfl rfl (by simp)
   | undef =>
    obtain rfl:v=undef:=r1
    exact Nc (by simp [cT,e1,Q1];rfl) (by simp [cT,e1,Q1];rfl)
   | ro st ty x =>
    have r1:ax (si.NN st) si.H (.sl ty) x [v]:=r1
    unfold ax at r1
    rcases r1 with ⟨rfl,e2⟩ | ⟨rfl,z,oo,e2⟩ | ⟨z,oo,k,e2,Nd,hk,hle,hi⟩
    .simp at e2;subst e2;exact Jx e1 rfl rfl (by simp)
    .simp at e2;subst e2
     exact Jx (l:=[]) e1 (by simp [Qf,fI]) (by simp [Qf,fI]) (by simp)
    .simp at e2;subst e2
     have cV:=fz Nd (Bd h) hk
     have eM:=Ty.size_pos ty
     have aai:oo+x.length*1<=k.cells.length:=by
      have:=Nat.mul_le_mul_left x.length eM
      simp at this ⊢;omega
     have oe:∀ G:af,ah G z=some k->Qf G 1 (.slice (some ⟨z,oo,none⟩) x.length ty.size)=some ((k.cells.drop oo).take (x.length*1)):=by
      intro G hG
      simp only [Qf]
      cases hz:x.length*1 with
      | zero=>simp [fI]
      | succ q =>
       simp only [fI,Qx,hG,Q1]
       have:Nat.ble (oo+(q+1)) k.cells.length=true:=Nat.ble_eq_true_of_le (by omega)
       rw [this]
     refine Jx e1 (oe _ hk) (oe _ cV) (fun w hw=>?_)
     have CF:RL (si.NN st) si.H ty x ((k.cells.drop oo).take (x.length*ty.size)):=by
      refine ⟨by simp;omega,fun i eS=>?_⟩
      have hm:=jG (k:=ty.size) eS
      have e2:cG ((k.cells.drop oo).take (x.length*ty.size)) (i*ty.size) ty.size=(k.cells.drop (oo+i*ty.size)).take ty.size:=by
       unfold cG;rw [List.drop_take,List.take_take,Nat.min_eq_left (by omega),List.drop_drop]
      rw [e2];exact hi i eS
     refine CF.plain w ?_
     have W_:x.length*1<=x.length*ty.size:=Nat.mul_le_mul_left _ eM
     have:(k.cells.drop oo).take (x.length*1)=((k.cells.drop oo).take (x.length*ty.size)).take (x.length*1):=by
      rw [List.take_take,Nat.min_eq_left W_]
     rw [this] at hw;exact List.mem_of_mem_take hw
   | a_ b off n =>
    have r1:cj si (.a_ b off n) v:=r1
    obtain ⟨bE,r1⟩:=r1
    cases hm:si.μ b with
    | none =>
     rw [hm] at r1;obtain ⟨_,_,rfl⟩:=r1
     exact Jx e1 rfl rfl (by simp)
    | some m =>
     rw [hm] at r1;obtain ⟨g0,rfl⟩:=r1
     obtain ⟨B,b1,b2,b3⟩:=hn.same h hm
     obtain ⟨aA,EO,bo⟩:=B
     have sM:∀ k:bx,ah si.H m.z=some k->(∀ w∈k.cells.drop m.sh,Qa w w=true)->jF (cT P (.convert t u a) e sm.H) (cT P (.convert t u a) e si.H)=true:=by
      intro k hk iG
      have cV:ah sm.H m.z=some k:=by rw [b3];exact hk
      have heq:Qf sm.H 1 (.slice (some ⟨m.z,m.sh+off*m.es,none⟩) (n.getD (m.n - off)) m.es)=Qf si.H 1 (.slice (some ⟨m.z,m.sh+off*m.es,none⟩) (n.getD (m.n - off)) m.es):=by
       simp only [Qf,fI]
       split
       .rfl
       .simp only [Qx,hk,cV]
      cases hl:Qf si.H 1 (.slice (some ⟨m.z,m.sh+off*m.es,none⟩) (n.getD (m.n - off)) m.es) with
      | none=>exact Nc (by simp [cT,e1,Q1,hl]) (by simp [cT,e1,Q1,heq,hl])
      | some l =>
       refine Jx e1 hl (by rw [heq];exact hl) (fun w hw=>?_)
       simp only [Qf,fI] at hl
       split at hl
       .simp at hl;subst hl;simp at hw
       .simp only [Qx,hk,Q1] at hl
        split at hl
        .simp at hl;subst hl
         have:=List.mem_of_mem_take hw
         rw [<- List.drop_drop] at this
         exact iG w (List.mem_of_mem_drop this)
        .simp at hl
     cases bo with
     | cells cs =>
      have hB:=hs.aI b _ b1
      unfold BR at hB;simp only at hB
      obtain ⟨_,m',k,aE,dQ,hk,cB,_⟩:=hB
      rw [hm] at aE;injection aE with aE;subst aE
      refine sM k hk (fun w hw=>?_)
      have:∀ {cs:List PV} {vs:List Value},cm si cs vs->∀ v∈vs,Qa v v=true:=by
       intro cs;induction cs with
       | nil=>intro vs h v hv;cases vs<;>simp_all [cm,Qw]
       | cons p cs ih=>intro vs h v hv;match vs,h with
        | w::vs,h=>rcases Z2 hv with rfl | hv;exact h.1.plain;exact ih h.2 v hv
      exact this cB w (List.mem_of_mem_drop hw)
     | mp es =>
      have hB:=hs.aI b _ b1
      unfold BR at hB;simp only at hB
      obtain ⟨_,m',k,aE,_,hk,_,_,_,HU⟩:=hB
      rw [hm] at aE;injection aE with aE;subst aE
      refine sM k hk (fun w hw=>?_)
      rw [HU] at hw;simp at hw
     | arr t' xs =>
      obtain ⟨a1,a2,k,a3,a4,a5,_⟩:=me hs b1 hm
      exact sM k a3 (zU hs b1 hm a3).2
     | rows t' xs ho =>
      obtain ⟨_,_,⟨fL,_⟩ | ⟨m',k,aE,a1,a2,a3,a4,_⟩⟩:=mj hs b1
      .rw [hm] at fL;simp at fL
      rw [hm] at aE;injection aE with aE;subst aE
      exact sM k a3 a4.2
   | _=>simp at h
 .simp at h
theorem qN.get:∀ {ss:List S} {tr:List (bA×LS)} {te:List (Env×af)},qN ss tr te->∀ (i:Nat) q,tr[i]? = some q->∃ s e,ss[i]? = some s/\te[i]? = some e/\s.L=q.2/\s.H=e.2/\aD s/\cE s q.1 e.1
 | s::ss,(env,L)::tr,(e,H)::te,h,0,q,hq=>by
  simp at hq;subst hq
  obtain ⟨h1,h2,h3,h4,_⟩:=h
  exact ⟨s,(e,H),rfl,rfl,h1,h2,h3,h4⟩
 | s::ss,(env,L)::tr,(e,H)::te,h,i+1,q,hq=>by
  obtain ⟨_,_,_,_,_,h6⟩:=h
  simp only [List.getElem?_cons_succ] at hq ⊢
  exact qN.get h6 i q hq
 | [],[],[],_,i,q,hq=>by simp at hq
theorem qN.len:∀ {ss:List S} {tr:List (bA×LS)} {te:List (Env×af)},qN ss tr te->tr.length=te.length/\ss.length=te.length
 | [],[],[],_=>⟨rfl,rfl⟩
 | _::_,(_,_)::_,(_,_)::_,h=>by
  obtain ⟨_,_,_,_,_,h6⟩:=h
  have:=qN.len h6;simp;exact this
theorem qN.Nf:∀ {ss:List S} {tr:List (bA×LS)} {te:List (Env×af)},qN ss tr te->∀ (i j:Nat) s t,ss[i]? = some s->ss[j]? = some t->CQ s t
 | s::ss,(env,L)::tr,(e,H)::te,h,0,0,x,y,hx,hy=>by
  simp at hx hy;subst hx hy;exact .inl (aj.refl _)
 | s::ss,(env,L)::tr,(e,H)::te,h,0,j+1,x,y,hx,hy=>by
  simp at hx;subst hx
  simp only [List.getElem?_cons_succ] at hy
  obtain ⟨_,_,_,_,h5,_⟩:=h
  exact .inr (h5 y (Zc hy))
 | s::ss,(env,L)::tr,(e,H)::te,h,i+1,0,x,y,hx,hy=>by
  simp at hy;subst hy
  simp only [List.getElem?_cons_succ] at hx
  obtain ⟨_,_,_,_,h5,_⟩:=h
  exact .inl (h5 x (Zc hx))
 | s::ss,(env,L)::tr,(e,H)::te,h,i+1,j+1,x,y,hx,hy=>by
  obtain ⟨_,_,_,_,_,h6⟩:=h
  simp only [List.getElem?_cons_succ] at hx hy
  exact qN.Nf h6 i j x y hx hy
 | [],[],[],_,i,j,x,y,hx,_=>by simp at hx
theorem Qqp {α:Type} (l:List α) (i:Nat) (x:α) (h:l.reverse[i]? = some x):l[l.length - 1 - i]? = some x/\i < l.length:=by
 have hi:i < l.length:=by
  have:=(Z0 h).1;simpa using this
 rw [List.getElem?_reverse hi] at h;exact ⟨h,hi⟩
section
variable {A:cH} {β γ:Type} {s:S} {env:bA} {e:Env} {X:mN A β} {XE:Cx} {r:β} {Q:γ->Prop}
theorem Xa {P:Program} {ops:Array Oper} {c0:Nat} {s0:S} {ss:List S} {tr:List (bA×LS)} {te:List (Env×af)} (ht:qN ss tr te) (h0:∀ t∈ss,aj s0 t) (hc:c0<=s0.L.ct) (hold:∀ z,s0.Old c0 z->z < s0.H.length/\¬ bI s0 z) {i:Nat} {o:Oper} {x:Option γ} :
  ∀ {ms:List Nat},PS c0 P ops tr.reverse i o ms=true->GX P ops te.reverse i o ms x=x
 | [],_=>rfl
 | m::ms,h=>by
  simp only [PS,Z8] at h
  obtain ⟨h1,h2⟩:=h
  simp only [GX]
  cases hq:I4 P ops m i || I5 P ops i o m with
  | true=>simp only;exact Xa ht h0 hc hold h2
  | false =>
   rw [hq] at h1
   simp only [Bool.false_or] at h1
   simp only
   have hlen:=ht.len
   cases hi:tr.reverse[i]? with
   | none=>rw [hi] at h1;simp at h1
   | some q =>
    cases hm:tr.reverse[m]? with
    | none=>rw [hi,hm] at h1;simp at h1
    | some q' =>
     rw [hi,hm] at h1
     simp only at h1
     obtain ⟨g1,g2⟩:=Qqp _ _ _ hi
     obtain ⟨g3,g4⟩:=Qqp _ _ _ hm
     obtain ⟨si,ei,a1,a2,a3,a4,a5,a6⟩:=ht.get _ _ g1
     obtain ⟨sm,em,b1,b2,b3,b4,b5,b6⟩:=ht.get _ _ g3
     have e1:te.reverse[i]? = some ei:=by rw [List.getElem?_reverse (by omega),<- hlen.1];exact a2
     have e2:te.reverse[m]? = some em:=by rw [List.getElem?_reverse (by omega),<- hlen.1];exact b2
     rw [e1,e2]
     simp only
     rw [<- a3,<- b3] at h1
     have:=Qww a5 (h0 si (Zc a1)) (h0 sm (Zc b1)) hc hold (ht.Nf _ _ _ _ a1 b1) a6 h1
     rw [<- a4,<- b4,this]
     simp only [aa]
     exact Xa ht h0 hc hold h2
theorem Xb {P:Program} {ops:Array Oper} {c0:Nat} {s0:S} {ss:List S} {tr:List (bA×LS)} {te:List (Env×af)} (ht:qN ss tr te) (h0:∀ t∈ss,aj s0 t) (hc:c0<=s0.L.ct) (hold:∀ z,s0.Old c0 z->z < s0.H.length/\¬ bI s0 z) {x:Option γ} :
  ∀ {l:List Nat},PT c0 P ops tr.reverse l=true->cv P ops te.reverse l x=x
 | [],_=>rfl
 | i::l,h=>by
  simp only [PT,Z8] at h
  obtain ⟨h1,h2⟩:=h
  simp only [cv]
  split
  .rename_i o hb ho
   rw [hb,ho] at h1
   simp only at h1
   rw [Xa ht h0 hc hold h1]
   exact Xb ht h0 hc hold h2
  .exact Xb ht h0 hc hold h2
theorem aD.tick (hs:aD s):∃ s0,s0.L=⟨s.L.bl,s.L.ct+1⟩/\s0.H=s.H/\s0.μ=s.μ/\aj s s0/\aD s0/\(∀ z,s0.Old (s.L.ct+1) z->z < s0.H.length/\¬ bI s0 z):=by
 let s0:S:={ s with L:=⟨s.L.bl,s.L.ct+1⟩,Old:=fun c z=>if c=s.L.ct+1 then (z < s.H.length/\¬ bI s z) else s.Old c z }
 have hk:aj s s0:=by
  refine ⟨rfl,⟨Nat.le_succ _,fun c hc=>?_,fun c z h1 h2 h3 h4=>?_⟩,rfl,Zd _,fun _ _=>rfl,Zd _,fun _ _ _=>rfl,fun z h=>.inl h,fun b B' _ h=>⟨B',h,Zd _,fun _=>⟨rfl,fun _ _=>rfl,fun _ _ h=>⟨h,rfl⟩⟩⟩⟩
  .funext z;show (if c=s.L.ct+1 then _ else _)=_
   rw [if_neg (by omega)]
  .show (if c=s.L.ct+1 then _ else _)
   have h2':c<=s.L.ct+1:=h2
   rw [if_pos (by omega)];exact ⟨h3,h4.1⟩
 refine ⟨s0,rfl,rfl,rfl,hk,⟨fun b B hB=>?_,hs.inj,hs.cY,hs.dP,hs.lm,hs.iE,hs.kl,hs.ka⟩,fun z hz=>?_⟩
 .have iu:Qi s.L b=some B:=hB
  exact (hs.aI b B iu).keep hk (Qn iu) (fun _ _=>rfl) (fun _ _ h=>⟨h,rfl⟩)
 .have aX:(if s.L.ct+1=s.L.ct+1 then (z < s.H.length/\¬ bI s z) else s.Old (s.L.ct+1) z):=hz
  rw [if_pos rfl] at aX;exact aX
theorem Qqq {ops:Array Oper} {W:List Nat} {KV:bA->LS->Option β} {KE:Env->af->Option γ} (hX:Cc X XE) (hW:∀ (j d:Nat),(ops[j]?).bind (fun (x:Oper)=>x.dst)=some d->d∈W) (hl:∀ o∈ops.toList,∀ d,o.dst=some d->d∈W) (aH:s.ai=XE.ai) (hs:aD s) (he:cE s env e) (hK:COk W env e s r KV KE Q) (h:Xc X ops env s.L KV=some r):∃ y,GY XE ops e s.H KE=some y/\Q y:=by
 unfold Xc at h;unfold GY
 rw [hX.P] at h
 split at h
 .rename_i hd
  rw [hd];simp only
  obtain ⟨s0,l0,g0,u0,k0,t0,hold⟩:=hs.tick
  rw [<- l0] at h;rw [<- g0]
  refine W3 hX hW env e s0 (ss:=[]) hl (k0.ai.trans aH) t0 (k0.env he) (fD.refl _ _ _) (show qN [] [] [] from trivial) (by simp) (aj.refl s0) (by simp) (fun ak e' s' W4 Ey W5 k' t' gz dn ht hall h=>?_) h
  split at h
  .rename_i eO
   have hc:s.L.ct+1<=s0.L.ct:=by rw [l0];exact Zd _
   rw [Xb ht hall hc hold eO]
   exact hK ak e' s' (k0.trans k') t' gz dn h
  .simp at h
 .simp at h
end
theorem Qfq {env:bA}:∀ {l:List Nat} {s:S},aD s->∃ s',s'.L=PU env l s.L/\s'.H=s.H/\s'.μ=s.μ/\aj s s'/\aD s':=by
 have fold:∀ {ps:List PV} {s:S},aD s->∃ s',s'.L=ps.foldl freeze s.L/\s'.H=s.H/\s'.μ=s.μ/\aj s s'/\aD s':=by
  intro ps
  induction ps with
  | nil=>intro s hs;exact ⟨s,rfl,rfl,rfl,aj.refl s,hs⟩
  | cons p ps ih =>
   intro s hs
   by_cases hp:∃ b off n,p=.a_ b off n
   .obtain ⟨b,off,n,rfl⟩:=hp
    obtain ⟨s1,a1,a2,a3,a4,a5,_⟩:=hs.vm b
    obtain ⟨s2,b1,b2,b3,b4,b5⟩:=ih a5
    exact ⟨s2,by rw [b1,a1];rfl,b2.trans a2,b3.trans a3,a4.trans b4,b5⟩
   .obtain ⟨s2,b1,b2,b3,b4,b5⟩:=ih hs
    refine ⟨s2,?_,b2,b3,b4,b5⟩
    rw [b1];simp only [List.foldl_cons]
    have:freeze s.L p=s.L:=by unfold freeze;split;exact absurd ⟨_,_,_,rfl⟩ hp;rfl
    rw [this]
 intro l
 induction l with
 | nil=>intro s hs;exact ⟨s,rfl,rfl,rfl,aj.refl s,hs⟩
 | cons q l ih =>
  intro s hs
  simp only [PU]
  cases dr env q with
  | none=>exact ih hs
  | some v =>
   obtain ⟨s1,a1,a2,a3,a4,a5⟩:=fold (ps:=mw v) hs
   obtain ⟨s2,b1,b2,b3,b4,b5⟩:=ih a5
   exact ⟨s2,by rw [b1,a1],b2.trans a2,b3.trans a3,a4.trans b4,b5⟩
def SR (s:S) (ai:Nat) (val:Nat->Value):List (Nat×Bool×Ty)->List TV->List (List Nat)->Prop
 | [],[],[]=>True
 | (q,o,_)::r,v::vs,ids::an=>HR s.N s.H ai (zS o) v (val q) ids/\(∀ z∈ids,s.aF z)/\SR s ai val r vs an
 | _,_,_=>False
theorem SR.keep {s s':S} {ai:Nat} {val:Nat->Value} (hN:∀ z,s.N z->z < s.H.length->s'.N z) (hH:s'.H=s.H) (hl:∀ z,s.aF z->s'.aF z):∀ {l:List (Nat×Bool×Ty)} {vs:List TV} {an:List (List Nat)},SR s ai val l vs an->SR s' ai val l vs an
 | [],[],[],_=>trivial
 | (q,o,t)::r,v::vs,ids::an,h=>⟨h.1.frame (fun z hz au=>⟨hN z hz au,by rw [hH]⟩) (fun z _=>by rw [hH]),fun z hz=>hl z (h.2.1 z hz),SR.keep hN hH hl h.2.2⟩
theorem SR.ai {s:S} {ai:Nat} {val:Nat->Value}:∀ {l:List (Nat×Bool×Ty)} {vs:List TV} {an:List (List Nat)},SR s ai val l vs an->∀ z∈an.flatten,s.aF z
 | [],[],[],_=>by simp
 | (q,o,t)::r,v::vs,ids::an,h=>by
  intro z hz
  rw [Ze,Zh] at hz
  rcases hz with hz | hz
  .exact h.2.1 z hz
  .exact SR.ai h.2.2 z hz
theorem Xd {env:bA} {e:Env} {val:Nat->Value} (hval:∀ q w,cN e q=some w->val q=w):∀ {l:List (Nat×Bool×Ty)} {s:S} {vs:List TV} {L':LS},aD s->cE s env e->CR env l s.L=some (vs,L') ->
  ∃ s1 an,s1.L=L'/\s1.H=s.H/\s1.μ=s.μ/\aj s s1/\aD s1/\(∀ z,s.aF z->s1.aF z)/\SR s1 s.ai val l vs an/\an.flatten.Nodup/\(∀ z∈an.flatten,¬ s.aF z)
 | [],s,vs,L',hs,he,h=>by
  simp [CR] at h;obtain ⟨rfl,rfl⟩:=h
  exact ⟨s,[],rfl,rfl,rfl,aj.refl s,hs,fun _ h=>h,trivial,by simp,by simp⟩
 | (q,o,t)::l,s,vs,L',hs,he,h=>by
  simp only [CR] at h
  replace h:=ob h;obtain ⟨p,h1,h⟩:=h
  replace h:=ob h;obtain ⟨⟨x,L2⟩,h2,h⟩:=h
  replace h:=ob h;obtain ⟨⟨cy,L3⟩,h3,h⟩:=h
  simp at h;obtain ⟨rfl,rfl⟩:=h
  obtain ⟨w,e1,r1⟩:=he.get h1
  have hw:=hval q w e1
  simp only at h3
  cases o with
  | true =>
   obtain ⟨hx,s1,ids,l1,g1,u1,k1,t1,hh,hl,oB,hnd,ho⟩:=O6 hs r1 h2
   rw [<- l1] at h3
   obtain ⟨s2,an,a1,a2,a3,a4,a5,a6,a7,a8,a9⟩:=Xd hval t1 (k1.env he) h3
   have aH:s1.ai=s.ai:=k1.ai
   refine ⟨s2,ids::an,a1,a2.trans g1,a3.trans u1,k1.trans a4,a5,fun z hz=>a6 z ((hl z).2 (.inl hz)),⟨?_,fun z hz=>a6 z ((hl z).2 (.inr hz)),by rw [<- aH];exact a7⟩,?_,?_⟩
   .rw [hw];exact hh.frame (fun z hz au=>⟨a4.N au hz,by rw [a2]⟩) (fun z _=>by rw [a2])
   .rw [Ze,Zn]
    exact ⟨hnd,a8,fun a ha b hb e=>by subst e;exact a9 a hb ((hl a).2 (.inr ha))⟩
   .intro z hz
    rw [Ze,Zh] at hz
    rcases hz with hz | hz
    .exact oB z hz
    .exact fun h=>a9 z hz ((hl z).2 (.inl h))
  | false =>
   simp only [vb] at h2
   split at h2
   .rename_i cZ
    simp only [Z8] at cZ
    replace h2:=ob h2;obtain ⟨⟨y,L4⟩,h4,h2⟩:=h2
    simp at h2;obtain ⟨rfl,rfl⟩:=h2
    obtain ⟨s1,ids,l1,g1,u1,k1,t1,mQ,hl,oB,hnd,o1⟩:=Hi t hs (r1.cells cZ.1) h4
    rw [<- l1] at h3
    obtain ⟨s2,an,a1,a2,a3,a4,a5,a6,a7,a8,a9⟩:=Xd hval t1 (k1.env he) h3
    have aH:s1.ai=s.ai:=k1.ai
    refine ⟨s2,ids::an,a1,a2.trans g1,a3.trans u1,k1.trans a4,a5,fun z hz=>a6 z ((hl z).2 (.inl hz)),⟨⟨_,by rw [hw];exact Vy r1 cZ.1 cZ.2,dm.frame (fun z hz au=>⟨a4.N au hz,by rw [a2]⟩) t mQ (fun z _=>by rw [a2])⟩,fun z hz=>a6 z ((hl z).2 (.inr hz)),by rw [<- aH];exact a7⟩,?_,?_⟩
    .rw [Ze,Zn]
     exact ⟨hnd,a8,fun a ha b hb e=>by subst e;exact a9 a hb ((hl a).2 (.inr ha))⟩
    .intro z hz
     rw [Ze,Zh] at hz
     rcases hz with hz | hz
     .exact oB z hz
     .exact fun h=>a9 z hz ((hl z).2 (.inl h))
   .simp at h2
def ABr (s:S) (ai b:Nat) (v:TV):Prop:=∃ (t:Ty) (x:List (List t.T)),v=⟨.sl (.os t),x⟩/\t.flat=true/\match s.μ b with
 | none=>x=[]
 | some m=>m.es=1/\m.n=x.length/\∃ k,ah s.H m.z=some k/\Fit m.sh x.length k.cells/\k.ro=false/\ai<=m.z/\∀ i (hi:i < x.length),∃ v,k.cells[m.sh+i]? = some v/\ir (fun z=>s.br z=some (b,i)) s.H ai t x[i] v
def ABa (s:S) (ai b:Nat) (v:TV):Prop:=∃ u x,v=⟨.sl u,x⟩/\u.iD=false/\match s.μ b with
 | none=>x=[]
 | some m=>m.es=u.size/\m.n=x.length/\∃ k,ah s.H m.z=some k/\Fit m.sh (x.length*u.size) k.cells/\(∀ i (h:i < x.length),ax s.N s.H u x[i] ((k.cells.drop (m.sh+i*u.size)).take u.size))/\k.ro=false/\ai<=m.z
def ABm (s:S) (ai b:Nat) (v:TV):Prop:=∃ (es:List (Int×Int)) (m:MB) (k:bx),v=⟨.sl EP,([[es]]:List (List (List (Int×Int))))⟩/\s.μ b=some m/\m.sh=0/\ah s.H m.z=some k/\k.mp=some es/\k.ro=false/\ai<=m.z/\k.cells=[]
def AB (s:S) (ai b:Nat) (v:TV):Prop:=(ABa s ai b v\/ABr s ai b v)\/ABm s ai b v
theorem Qqr {s:S} (hs:aD s) {t:Ty} {b:Nat} {x:TV} (h2:PW t b s.L=some x):AB s s.ai b x:=by
 unfold PW at h2
 split at h2
 .rename_i aA es hb
  replace h2:=ob h2;obtain ⟨y,h4,h2⟩:=h2
  simp at h2;subst h2
  have e0:=Qq h4
  injection e0 with e0;subst e0
  have:=Qg h4;subst this
  right
  have hB:=hs.aI b _ hb
  unfold BR at hB;simp only at hB
  obtain ⟨_,m,k,g1,g2,g3,g4,g5,g6,g7⟩:=hB
  exact ⟨es,m,k,rfl,g1,g2,g3,g4,g5,g6,g7⟩
 .rename_i aA t' xs hb
  replace h2:=ob h2;obtain ⟨y,h4,h2⟩:=h2
  simp at h2;subst h2
  have e0:=Qq h4
  injection e0 with e0;subst e0
  have:=Qg h4;subst this
  refine .inl (.inr ?_)
  obtain ⟨_,cF,cx⟩:=mj hs hb
  refine ⟨t',xs,rfl,cF,?_⟩
  rcases cx with ⟨hm,hx⟩ | ⟨m,k,hm,a1,a2,a3,a4,a5,a6,a7⟩
  .rw [hm];exact hx
  .rw [hm];exact ⟨a1,a2,k,a3,a4,a5,a6,fun i hi=>a7 i hi (by simp)⟩
 .unfold Je at h2
  split at h2
  .rename_i aA u xs hb
   split at h2
   .simp at h2
   rename_i eG
   refine .inl (.inl ?_)
   replace h2:=ob h2;obtain ⟨y,h4,h2⟩:=h2
   simp at h2;subst h2
   have e0:=Qq h4
   injection e0 with e0;subst e0
   have:=Qg h4;subst this
   refine ⟨u,xs,rfl,eG,?_⟩
   cases hm:s.μ b with
   | none=>exact Er hs hb hm
   | some m =>
    obtain ⟨a1,a2,k,a3,a4,a5,a6,a7⟩:=me hs hb hm
    exact ⟨a1,a2,k,a3,zU hs hb hm a3,a5,(a6 rfl).1,(a6 rfl).2⟩
  .simp at h2
def qA (s:S) (ai:Nat):List Nat->Nat->List TV->List (List Nat)->Prop
 | [],_,[],[]=>True
 | b::r,n,v::vs,j::js=>match n with
  | 0=>(j=[]/\AB s ai b v)/\qA s ai r 0 vs js
  | m+1=>CB s ai b v j/\qA s ai r m vs js
 | _,_,_,_=>False
theorem qA.ai {s:S} {ai:Nat}:∀ {ids:List Nat} {n:Nat} {vs:List TV} {js:List (List Nat)},qA s ai ids n vs js->∀ z∈js.flatten,s.aF z
 | [],_,[],[],_=>by simp
 | b::r,n,v::vs,j::js,h=>by
  intro z hz
  rw [Ze,Zh] at hz
  cases n with
  | zero =>
   obtain ⟨⟨rfl,_⟩,h2⟩:=h
   rcases hz with hz | hz
   .simp at hz
   .exact qA.ai h2 z hz
  | succ n =>
   rcases hz with hz | hz
   .exact h.1.2 z hz
   .exact qA.ai h.2 z hz
theorem Qdq {env:bA} {e:Env}:∀ {l:List (Nat×Ty)} {s:S} {vs:List TV} {ids:List Nat} {L':LS},aD s->cE s env e->Ng env l s.L=some (vs,ids,L') ->
  ∃ s1 js,s1.L=L'/\s1.H=s.H/\s1.μ=s.μ/\aj s s1/\aD s1/\(∀ z,s.aF z->s1.aF z)/\js.flatten.Nodup/\(∀ z∈js.flatten,¬ s.aF z)/\∀ Ba CS Jz,qA s1 s.ai CS 0 Ba Jz->qA s1 s.ai (ids++CS) l.length (vs++Ba) (js++Jz)
 | [],s,vs,ids,L',hs,he,h=>by
  simp [Ng] at h;obtain ⟨rfl,rfl,rfl⟩:=h
  exact ⟨s,[],rfl,rfl,rfl,aj.refl s,hs,fun _ h=>h,by simp,by simp,fun _ _ _ h=>h⟩
 | (q,t)::l,s,vs,ids,L',hs,he,h=>by
  simp only [Ng] at h
  replace h:=ob h;obtain ⟨p,h1,h⟩:=h
  split at h
  .rename_i b
   replace h:=ob h;obtain ⟨⟨x,L2⟩,h2,h⟩:=h
   replace h:=ob h;obtain ⟨⟨cy,L5,L3⟩,h3,h⟩:=h
   simp at h;obtain ⟨rfl,rfl,rfl⟩:=h
   unfold Jf at h2
   split at h2
   .rename_i aA cs hb
    replace h2:=ob h2;obtain ⟨⟨y,L4⟩,h4,h2⟩:=h2
    simp at h2;obtain ⟨rfl,rfl⟩:=h2
    have hB:=hs.aI b _ hb
    unfold BR at hB;simp only at hB
    obtain ⟨_,m,k,hm,dQ,hk,cB,bn,jT⟩:=hB
    obtain ⟨s1,j,l1,g1,u1,k1,t1,mQ,mR,Mf,Cd,o1⟩:=Hi t hs cB h4
    simp only at h3
    rw [<- l1] at h3
    obtain ⟨s2,js,a1,a2,a3,a4,a5,a6,a7,a8,a9⟩:=Qdq t1 (k1.env he) h3
    have aH:s1.ai=s.ai:=k1.ai
    have fW:b < s1.L.bl.length:=Zm (Qn hb) k1.nb
    have WU:CB s1 s.ai b ⟨t,y⟩ j:=⟨⟨m,k,by rw [u1];exact hm,dQ,by rw [g1];exact hk,bn,jT,by rw [g1] at mQ ⊢;exact mQ⟩,fun z hz=>(mR z).2 (.inr hz)⟩
    refine ⟨s2,j::js,a1,a2.trans g1,a3.trans u1,k1.trans a4,a5,fun z hz=>a6 z ((mR z).2 (.inl hz)),?_,fun z hz=>?_,fun Ba CS Jz h2=>?_⟩
    .rw [Ze,Zn]
     exact ⟨Cd,a7,fun p hp q hq e=>by subst e;exact a8 p hq ((mR p).2 (.inr hp))⟩
    .rw [Ze,Zh] at hz
     rcases hz with hz | hz
     .exact Mf z hz
     .exact fun h=>a8 z hz ((mR z).2 (.inl h))
    .exact ⟨WU.keep a4 fW a2 a6,by rw [<- aH];exact a9 Ba CS Jz (by rw [aH];exact h2)⟩
   .simp at h2
  .simp at h
theorem Qdr {env:bA} {e:Env} {s:S} (hs:aD s) (he:cE s env e):∀ {l:List (Nat×Ty)} {vs:List TV} {ids:List Nat},JA env l s.L=some (vs,ids)->∃ js,js.flatten=[]/\qA s s.ai ids 0 vs js
 | [],vs,ids,h=>by simp [JA] at h;obtain ⟨rfl,rfl⟩:=h;exact ⟨[],rfl,trivial⟩
 | (q,t)::l,vs,ids,h=>by
  have next:∀ {b:Nat},(Q1 (PW t b s.L) fun x=>Q1 (JA env l s.L) fun y=>some (x::y.1,b::y.2))=some (vs,ids)->∃ js,js.flatten=[]/\qA s s.ai ids 0 vs js:=by
   intro b h
   replace h:=ob h;obtain ⟨x,h2,h⟩:=h
   replace h:=ob h;obtain ⟨⟨cy,L5⟩,h3,h⟩:=h
   simp at h;obtain ⟨rfl,rfl⟩:=h
   obtain ⟨js,j1,j2⟩:=Qdr hs he h3
   exact ⟨[]::js,by simpa using j1,⟨rfl,Qqr hs h2⟩,j2⟩
  simp only [JA] at h
  replace h:=ob h;obtain ⟨b,_,h⟩:=h
  exact next h
theorem Qds {a:gm} {env:bA} {e:Env} {val:Nat->Value} (hval:∀ q w,cN e q=some w->val q=w) {s:S} {vs:List TV} {ids:List Nat} {L':LS} (hs:aD s) (he:cE s env e) (h:LY a env s.L=some (vs,ids,L')) :
  ∃ s1 v1 v2 an js,vs=v1++v2/\v1.length=a.bH.length/\s1.L=L'/\s1.H=s.H/\aj s s1/\aD s1/\SR s1 s.ai val a.bH v1 an/\(an.flatten++js.flatten).Nodup/\qA s1 s.ai ids a.Em.length v2 js/\LV L' ids=true:=by
 unfold LY at h
 replace h:=ob h;obtain ⟨⟨v1,L1⟩,h1,h⟩:=h
 replace h:=ob h;obtain ⟨⟨v2,i2,L2⟩,h2,h⟩:=h
 replace h:=ob h;obtain ⟨⟨v3,i3⟩,h3,h⟩:=h
 simp only at h2 h3 h
 split at h
 .rename_i Co
  simp at h;obtain ⟨rfl,rfl,rfl⟩:=h
  obtain ⟨s1,an,a1,a2,a3,a4,a5,a6,a7,a8,a9⟩:=Xd hval hs he h1
  rw [<- a1] at h2
  obtain ⟨s2,js,b1,b2,b3,b4,b5,b6,b7,b8,b9⟩:=Qdq a5 (a4.env he) h2
  rw [<- b1] at h3
  obtain ⟨Jz,j1,j2⟩:=Qdr b5 ((a4.trans b4).env he) h3
  have sw:s1.ai=s.ai:=a4.ai
  have ko:s2.ai=s1.ai:=b4.ai
  have hlen:v1.length=a.bH.length:=by
   have:∀ {l:List (Nat×Bool×Ty)} {L L':LS} {vs:List TV},CR env l L=some (vs,L')->vs.length=l.length:=by
    intro l
    induction l with
    | nil=>intro L L' vs h;simp [CR] at h;obtain ⟨rfl,_⟩:=h;rfl
    | cons q l ih =>
     intro L L' vs h
     obtain ⟨q,o,t⟩:=q
     simp only [CR] at h
     replace h:=ob h;obtain ⟨p,_,h⟩:=h
     replace h:=ob h;obtain ⟨x,_,h⟩:=h
     replace h:=ob h;obtain ⟨y,hy,h⟩:=h
     simp at h;obtain ⟨rfl,_⟩:=h;simp [ih (show CR env l x.2=some (y.1,y.2) from hy)]
   exact this h1
  refine ⟨s2,v1,v2++v3,an,js++Jz,rfl,hlen,b1,b2.trans a2,a4.trans b4,b5,a7.keep (fun z hz au=>b4.N au hz) b2 b6,?_,?_,?_⟩
  .rw [List.flatten_append,j1,List.append_nil,Zn]
   exact ⟨a8,b7,fun p hp q hq e=>by subst e;exact b8 p hq (a7.ai p hp)⟩
  .rw [<- sw]
   exact b9 _ _ _ (by rw [<- ko];exact j2)
  .exact Co
 .simp at h
theorem Qc2:∀ {l:List Nat},PX l=true->l.Nodup
 | [],_=>List.nodup_nil
 | x::r,h=>by
  simp only [PX,Z8,Bool.not_eq_true'] at h
  exact List.nodup_cons.2 ⟨Cg h.1,Qc2 h.2⟩
theorem Qdt:∀ {a b:List Nat},He a b=true->a=b
 | [],[],_=>rfl
 | x::r,y::s,h=>by
  simp only [He,Z8] at h
  rw [Z7 h.1,Qdt h.2]
 | [],_::_,h=>by simp [He] at h
 | _::_,[],h=>by simp [He] at h
theorem Vr {ids:List Nat}:∀ {l m:List (Option VB)} {n:Nat},A7 ids n l m=true->∀ b B,l[b]? = some (some B)->n+b∉ids->∃ B',m[b]? = some (some B')/\B.aA=B'.aA
 | [],_,_,_,b,B,hb,_=>by simp at hb
 | none::l,y::m,n,h,b,B,hb,hn=>by
  simp only [A7] at h
  cases b with
  | zero=>simp at hb
  | succ b =>
   simp only [List.getElem?_cons_succ] at hb ⊢
   exact Vr h b B hb (by rw [show n+1+b=n+(b+1) by omega];exact hn)
 | some x::l,some y::m,n,h,b,B,hb,hn=>by
  simp only [A7,Z8,Bool.or_eq_true] at h
  cases b with
  | zero =>
   simp at hb;subst hb
   rcases h.1 with h1 | h1
   .exact absurd (List.contains_iff_mem.1 h1) (by simpa using hn)
   .exact ⟨y,rfl,Z7 h1⟩
  | succ b =>
   simp only [List.getElem?_cons_succ] at hb ⊢
   exact Vr h.2 b B hb (by rw [show n+1+b=n+(b+1) by omega];exact hn)
 | none::_,[],_,h,_,_,_,_=>by simp [A7] at h
 | some _::_,[],_,h,_,_,_,_=>by simp [A7] at h
 | some _::_,none::_,_,h,_,_,_,_=>by simp [A7] at h
theorem Qqs {L:LS} {b:Nat} {B:VB}:Qi L b=some B↔L.bl[b]? = some (some B):=by
 unfold Qi
 constructor
 .intro h;split at h
  .rename_i k hk;injection h with h;rw [hk,h]
  .simp at h
 .intro h;rw [h]
theorem Qiq {b:Nat} {v:TV} {L L':LS} (h:HV b v L=some L'):(∃ n u xs x,Qi L b=some ⟨n,true,.arr u xs⟩/\v=⟨.sl u,x⟩/\L'=cP L b ⟨n+1,true,.arr u x⟩/\u≠EP) \/
  (∃ n t xs x,Qi L b=some ⟨n,true,.rows t xs none⟩/\v=⟨.sl (.os t),x⟩/\L'=cP L b ⟨n+1,true,.rows t x none⟩/\Ty.os t≠EP) \/
  ∃ n Xe x,Qi L b=some ⟨n,true,.mp Xe⟩/\v=⟨.sl EP,x⟩/\L'=cP L b ⟨n+1,true,.mp (BV x)⟩:=by
 unfold HV at h
 split at h
 .rename_i x
  split at h
  .rename_i n Xe hb
   simp at h;exact .inr (.inr ⟨n,Xe,x,hb,rfl,h.symm⟩)
  .simp at h
 .rename_i aU
  split at h
  .rename_i n u xs t x hb
   split at h
   .rename_i he
    have:=Ty.beq_eq he;subst this
    simp at h;exact .inr (.inl ⟨n,u,xs,x,hb,rfl,h.symm,fun e=>by unfold EP at e;injection e with e;subst e;exact aU x rfl⟩)
   .simp at h
  .obtain ⟨n,u,xs,x,g1,g2,g3⟩:=WL h
   exact .inl ⟨n,u,xs,x,g1,g2,g3,fun e=>by subst e;exact aU x g2⟩
theorem JB:∀ {ids:List Nat} {n:Nat} {vs:List TV} {L L':LS},sk ids n vs L=some L'->ids.Nodup ->
  L'.bl.length=L.bl.length/\L'.ct=L.ct/\(∀ c,c∉ids->Qi L' c=Qi L c)/\(∀ c∈ids,∃ B B',CJ L L' c B B')
 | [],n,[],L,L',h,_=>by simp [sk] at h;subst h;simp
 | b::ids,n,v::vs,L,L',h,hn=>by
  obtain ⟨fT,gG⟩:=List.nodup_cons.1 hn
  have key:∀ {L1:LS} {m:Nat} {B B':VB},Qi L b=some B->B.rw=true->B'.rw=true->B'.aA=B.aA+1->L1=cP L b B'->sk ids m vs L1=some L'->L'.bl.length=L.bl.length/\L'.ct=L.ct/\(∀ c,c∉b::ids->Qi L' c=Qi L c)/\(∀ c∈b::ids,∃ B B',CJ L L' c B B'):=by
   clear h
   intro L1 m B B' g1 g2 g3 g4 e h
   subst e
   have bE:=Qn g1
   obtain ⟨a1,a2,a3,a4⟩:=JB h gG
   refine ⟨by rw [a1,oD],a2,fun c hc=>?_,fun c hc=>?_⟩
   .simp only [List.mem_cons,not_or] at hc
    rw [a3 c hc.2,vX (Ne.symm hc.1)]
   .rcases Z2 hc with rfl | hc
    .exact ⟨_,_,g1,g2,by rw [a3 c fT,Qr bE],g3,g4⟩
    .obtain ⟨B1,B2,b1,b2,b3⟩:=a4 c hc
     have aU:b≠c:=fun e=>fT (e▸hc)
     rw [vX aU] at b1
     exact ⟨B1,B2,b1,b2,b3⟩
  simp only [sk] at h
  cases n with
  | zero =>
   simp only at h
   replace h:=ob h;obtain ⟨L1,h1,h⟩:=h
   rcases Qiq h1 with ⟨n',u,xs,x,g1,g2,g3,_⟩ | ⟨n',u,xs,x,g1,g2,g3,_⟩ | ⟨n',e0,es,g1,g2,g3⟩
   .exact key g1 rfl rfl rfl g3 h
   .exact key g1 rfl rfl rfl g3 h
   .exact key g1 rfl rfl rfl g3 h
  | succ m =>
   simp only at h
   replace h:=ob h;obtain ⟨L1,h1,h⟩:=h
   obtain ⟨n',cs,g1,g2,g3⟩:=PD h1
   exact key g1 rfl rfl rfl g3 h
 | [],_,_::_,_,_,h,_=>by simp [sk] at h
 | _::_,_,[],_,_,h,_=>by simp [sk] at h
theorem Nh {T:S} {ai:Nat}:∀ {ids:List Nat} {n:Nat} {vs:List TV} {js:List (List Nat)} {L L':LS},sk ids n vs L=some L'->ids.Nodup->qA T ai ids n vs js->∀ c∈ids,∃ B',Qi L' c=some B' /\
  (∀ sA:S,sA.μ c=T.μ c->sA.H=T.H->sA.L.ct=L.ct->sA.ai=ai->(∀ z i,T.br z=some (c,i)->sA.br z=some (c,i))->(∀ z,T.N z->sA.N z)->BR sA c B')
 | b::ids,n,v::vs,j::js,L,L',h,hn,hd,c,hc=>by
  obtain ⟨fT,gG⟩:=List.nodup_cons.1 hn
  simp only [sk] at h
  cases n with
  | zero =>
   simp only at h
   replace h:=ob h;obtain ⟨L1,h1,h⟩:=h
   rcases Qiq h1 with ⟨n',u,xs,x,g1,rfl,rfl,DX⟩ | ⟨n',u,xs,x,g1,rfl,rfl,DX⟩ | ⟨n',e0,x,g1,rfl,rfl⟩
   .have bE:=Qn g1
    obtain ⟨a1,a2,a3,a4⟩:=JB h gG
    rcases Z2 hc with rfl | hc
    .refine ⟨_,by rw [a3 c fT,Qr bE],fun sA f1 f2 f3 f4 _ f5=>?_⟩
     unfold BR;simp only
     rw [f1]
     rcases hd.1.2 with (⟨u',x',e1,_,hh⟩ | ⟨t',x',e1,cF,hh⟩) | Fb
     .injection e1 with e1 e2
      injection e1 with e1;subst e1
      simp only [heq_eq_eq] at e2;subst e2
      cases hm:T.μ c with
      | none=>rw [hm] at hh;exact hh
      | some m =>
       rw [hm] at hh
       obtain ⟨q1,q2,k,q3,q4,q5,q6,q7⟩:=hh
       exact ⟨q1,q2,k,by rw [f2];exact q3,q4,fun i hi=>by rw [f2];exact ax.mono f5 _ (q5 i hi),fun _=>⟨q6,by rw [f4];exact q7⟩,fun e=>absurd e (by decide)⟩
     .injection e1 with e1 e2
      injection e1 with e1;subst e1
      simp only [heq_eq_eq] at e2;subst e2
      cases hm:T.μ c with
      | none=>rw [hm] at hh;exact hh
      | some m =>
       rw [hm] at hh
       obtain ⟨q1,q2,k,q3,q4,q5,q6,q7⟩:=hh
       refine ⟨q1,q2,k,by rw [f2];exact q3,by rw [show (Ty.os t').size=1 from rfl,Nat.mul_one];exact q4,fun i hi=>?_,fun _=>⟨q5,by rw [f4];exact q6⟩,fun e=>absurd e (by decide)⟩
       obtain ⟨v,p1,p2⟩:=q7 i hi
       refine ⟨v,?_,?_⟩
       .rw [show (Ty.os t').size=1 from rfl,Nat.mul_one]
        obtain ⟨hl,he⟩:=Z0 p1
        rw [List.drop_eq_getElem_cons hl,List.take_succ_cons,List.take_zero,he]
       .rcases p2 with ⟨_,rfl⟩ | ⟨_,_,_,rfl,_⟩<;>simp [az,Qa]
     .obtain ⟨es,m,k,e1,_⟩:=Fb
      injection e1 with e1 _
      injection e1 with e1
      exact absurd e1 DX
    .exact Nh h gG hd.2 c hc
   .have bE:=Qn g1
    obtain ⟨a1,a2,a3,a4⟩:=JB h gG
    rcases Z2 hc with rfl | hc
    .refine ⟨_,by rw [a3 c fT,Qr bE],fun sA f1 f2 f3 f4 f6 f5=>?_⟩
     unfold BR;simp only
     rw [f1]
     rcases hd.1.2 with (⟨u',x',e1,eG,hh⟩ | ⟨t',x',e1,cF,hh⟩) | Fb
     .injection e1 with e1 e2
      injection e1 with e1;subst e1
      simp [Ty.iD] at eG
     .injection e1 with e1 e2
      injection e1 with e1;injection e1 with e1;subst e1
      simp only [heq_eq_eq] at e2;subst e2
      refine ⟨trivial,cF,?_⟩
      cases hm:T.μ c with
      | none=>rw [hm] at hh;exact hh
      | some m =>
       rw [hm] at hh
       obtain ⟨q1,q2,k,q3,q4,q5,q6,q7⟩:=hh
       refine ⟨q1,q2,k,by rw [f2];exact q3,q4,q5,by rw [f4];exact q6,fun i hi _=>?_⟩
       obtain ⟨v,p1,p2⟩:=q7 i hi
       exact ⟨v,p1,by rw [f2,f4];exact p2.mono cF (fun z hz=>⟨f6 z i hz,rfl⟩)⟩
     .obtain ⟨es,m,k,e1,_⟩:=Fb
      injection e1 with e1 _
      injection e1 with e1
      exact absurd e1 DX
    .exact Nh h gG hd.2 c hc
   .have bE:=Qn g1
    obtain ⟨a1,a2,a3,a4⟩:=JB h gG
    rcases Z2 hc with rfl | hc
    .refine ⟨_,by rw [a3 c fT,Qr bE],fun sA f1 f2 f3 f4 f6 f5=>?_⟩
     unfold BR;simp only
     rw [f1]
     rcases hd.1.2 with (⟨u',x',e1,eG,hh⟩ | ⟨t',x',e1,cF,hh⟩) | ⟨es,m,k,e1,q1,q2,q3,q4,q5,q6,q7⟩
     .injection e1 with e1 e2
      injection e1 with e1;subst e1
      simp [Ty.iD,EP] at eG
     .injection e1 with e1 e2
      injection e1 with e1;unfold EP at e1;injection e1 with e1;subst e1
      simp [Ty.flat] at cF
     .injection e1 with _ e2
      subst e2
      exact ⟨trivial,m,k,q1,q2,by rw [f2];exact q3,q4,q5,by rw [f4];exact q6,q7⟩
    .exact Nh h gG hd.2 c hc
  | succ m =>
   simp only at h
   replace h:=ob h;obtain ⟨L1,h1,h⟩:=h
   obtain ⟨n',cs,g1,g2,rfl⟩:=PD h1
   have bE:=Qn g1
   obtain ⟨a1,a2,a3,a4⟩:=JB h gG
   rcases Z2 hc with rfl | hc
   .refine ⟨_,by rw [a3 c fT,Qr bE],fun sA f1 f2 f3 f4 _ f5=>?_⟩
    obtain ⟨m,k,q1,q2,q3,q4,q5,q6⟩:=hd.1.1
    unfold BR;simp only
    refine ⟨trivial,m,k,by rw [f1];exact q1,q2,by rw [f2];exact q3,?_,q4,by rw [f4];exact q5⟩
    rw [<- f3]
    refine zQ _ ?_
    rw [f2]
    exact ax.mono (fun z hz=>S.fV (f5 z hz)) _ q6.rep
   .exact Nh h gG hd.2 c hc
 | [],_,_,_,_,_,_,_,_,c,hc=>by simp at hc
 | _::_,_,[],_,_,_,h,_,_,_,_=>by simp [sk] at h
 | _::_,_,_::_,[],_,_,_,_,hd,_,_=>hd.elim
theorem Qzk {s1 T:S} (hs:aD s1) (hT:aD T) (hk:aj s1 T) {ids:List Nat} (hn:ids.Nodup) (dw:∀ b B,b∉ids->Qi s1.L b=some B->Qi T.L b=some B) (cK:∀ b∈ids,∃ B,Qi T.L b=some B/\B.rw=true)
  {ai n:Nat} (aH:s1.ai=ai) {vs:List TV} {js:List (List Nat)} (hd:qA T ai ids n vs js) {L1:LS} (h:sk ids n vs s1.L=some L1) {bq:List Nat} (hr:∀ z∈bq,T.aF z) :
  ∃ sB,sB.L=L1/\sB.H=T.H/\aj s1 sB/\aD sB/\(∀ z∈bq,sB.aF z)/\∀ z,T.N z->sB.N z:=by
 obtain ⟨f1,f2,f3,f4⟩:=JB h hn
 have au:∀ b∈ids,b < s1.L.bl.length:=fun b hb=>by obtain ⟨B,B',b1,_⟩:=f4 b hb;exact Qn b1
 have Co:∀ b B,b∉ids->Qi s1.L b=some B->(∀ m,s1.μ b=some m->ah T.H m.z=ah s1.H m.z)/\∀ z i,s1.br z=some (b,i)->T.br z=some (b,i)/\ah T.H z=ah s1.H z:=by
  intro b B hb hB
  obtain ⟨B0,b1,b2,b3⟩:=hk.live b B (Qn hB) (dw b B hb hB)
  rw [hB] at b1;injection b1 with b1;subst b1
  exact (b3 rfl).2
 have hz:∀ b B m,b∉ids->Qi s1.L b=some B->s1.μ b=some m->ah T.H m.z=ah s1.H m.z:=fun b B m hb hB hm=>(Co b B hb hB).1 m hm
 let Kn:Nat->Option (Nat×Nat):=fun z=>match T.br z with | some p=>if p.1 < s1.L.bl.length then some p else none | none=>none
 have kn1:∀ z p,Kn z=some p->T.br z=some p/\p.1 < s1.L.bl.length:=by
  intro z p hp
  simp only [Kn] at hp
  split at hp
  .rename_i q hq
   split at hp
   .injection hp with hp;subst hp;rename_i h;exact ⟨hq,h⟩
   .simp at hp
  .simp at hp
 have kn2:∀ z p,T.br z=some p->p.1 < s1.L.bl.length->Kn z=some p:=by
  intro z p hp hl;simp only [Kn];rw [hp];simp [hl]
 obtain ⟨sA,e1,e2,e3,k3,t3,M5,n3⟩:=Qdo (Kn:=Kn) (N:=T.N) (aQ:=ids) (H':=T.H)
  (ids:=fun z=>bI s1 z/\(¬ ∃ b B m,b∉ids/\Qi s1.L b=some B/\s1.μ b=some m/\m.z=z)/\¬ ∃ b i B,b∉ids/\Qi s1.L b=some B/\s1.br z=some (b,i))
  (bq:=fun z=>z∈bq) (aO:=fun z=>∃ b m,b∈ids/\s1.μ b=some m/\m.z=z) hs f1 f2 f3 f4
  (fun c hc=>by
   obtain ⟨B',b1,b2⟩:=Nh h hn hd c hc
   refine ⟨B',b1,fun sA q1 q2 q3 q4 q6 q5=>b2 sA (by rw [q1,hk.mu c (au c hc)]) q2 q3 (by rw [q4,aH]) (fun z i hz=>by rw [q6];exact kn2 z _ hz (au c hc)) q5,fun m hm=>⟨c,m,hc,hm,rfl⟩⟩)
  (fun z aX=>by
   rcases aX.1 with ⟨b,B,m,h1,h2,h3,h4⟩ | h1 | ⟨p,hp⟩
   .by_cases hb:b∈ids
    .exact .inr (.inl ⟨b,B,m,hb,h1,h2,h3,h4⟩)
    .exact absurd ⟨b,B,m,hb,h1,h3,h4⟩ aX.2.1
   .exact .inl h1
   .refine .inr (.inr ⟨p,hp,fun B hB=>?_⟩)
    by_cases hb:p.1∈ids
    .exact hb
    .exact absurd ⟨p.1,p.2,B,hb,hB,hp⟩ aX.2.2)
  (fun z p hp=>by
   obtain ⟨hp,hl⟩:=kn1 z p hp
   obtain ⟨PG,k2',WT,M6⟩:=hT.kl z p hp
   refine ⟨hl,PG,hT.ka z p hp,fun dA=>WT (hr z dA),fun hh=>?_,fun c C m g1 g2=>?_,?_⟩
   .refine hh.2 ⟨.inr (.inl hh.1),?_,?_⟩
    .rintro ⟨b,B,m,p1,p2,p3,rfl⟩
     exact hs.lm b B m p2 p3 hh.1
    .rintro ⟨b,i,B,p1,p2,p3⟩
     exact (hs.kl z _ p3).2.2.1 hh.1
   .by_cases hc:c∈ids
    .obtain ⟨B,p1,_⟩:=cK c hc
     exact M6 c B m p1 (by rw [hk.mu c (au c hc)];exact g2)
    .rw [f3 c hc] at g1
     exact M6 c C m (dw c C hc g1) (by rw [hk.mu c (Qn g1)];exact g2)
   .exact hk.own z (.inr (.inr ⟨p,hp⟩)))
  (fun z b i B hb hB hp=>kn2 z _ ((Co b B hb hB).2 z i hp).1 (Qn hB))
  hk.len
  (fun z MF VH=>by
   by_cases ho:bI s1 z
   .by_cases hq:∃ b B m,b∉ids/\Qi s1.L b=some B/\s1.μ b=some m/\m.z=z
    .obtain ⟨b,B,m,q1,q2,q3,rfl⟩:=hq
     exact hz b B m q1 q2 q3
    .have:∃ b i B,b∉ids/\Qi s1.L b=some B/\s1.br z=some (b,i):=Classical.byContradiction (fun hc=>VH ⟨ho,hq,hc⟩)
     obtain ⟨b,i,B,q1,q2,q3⟩:=this
     exact ((Co b B q1 q2).2 z i q3).2
   .exact hk.fr z MF ho)
  (fun z aX ho=>by
   obtain ⟨b,m,q1,q2,rfl⟩:=ho
   obtain ⟨B,q3,_⟩:=cK b q1
   exact hT.lm b B m q3 (by rw [hk.mu b (au b q1)];exact q2) (hr _ aX))
  (fun z aX=>by
   have hl:=hr z aX
   rcases hk.own z (.inr (.inl hl)) with h1 | h1
   .left;refine ⟨h1,?_,?_⟩
    .rintro ⟨b,B,m,q1,q2,q3,rfl⟩
     exact hT.lm b B m (dw b B q1 q2) (by rw [hk.mu b (Qn q2)];exact q3) hl
    .rintro ⟨b,i,B,q1,q2,q3⟩
     exact (hT.kl z _ ((Co b B q1 q2).2 z i q3).1).2.2.1 hl
   .exact .inr h1)
  (fun z aX=>hT.iE z (hr z aX))
  (fun sA ho hb z hN=>by
   refine ⟨fun aY=>?_,fun jW=>hN.2 (by rw [hk.cY,<- hb];exact jW)⟩
   rcases ho z aY with ⟨b,B,m,q1,q2,q3,q4,q5⟩ | ⟨q1,q2⟩ | q1 | ⟨b,m,q1,q2,q3⟩ | ⟨p,q1⟩
   .rw [f3 b q5] at q1
    exact hN.1 (.inl ⟨b,B,m,dw b B q5 q1,q2,by rw [hk.mu b (Qn q1)];exact q3,q4⟩)
   .refine q2 ⟨.inr (.inl q1),?_,?_⟩
    .rintro ⟨b,B,m,p1,p2,p3,rfl⟩
     exact hs.lm b B m p2 p3 q1
    .rintro ⟨b,i,B,p1,p2,p3⟩
     exact (hs.kl z _ p3).2.2.1 q1
   .exact hN.1 (.inr (.inl (hr z q1)))
   .obtain ⟨B,p1,p2⟩:=cK b q1
    exact hN.1 (.inl ⟨b,B,m,p1,p2,by rw [hk.mu b (au b q1)];exact q2,q3⟩)
   .exact hN.1 (.inr (.inr ⟨p,(kn1 z p q1).1⟩)))
 exact ⟨sA,e1,e2,k3,t3,fun z aX=>(M5 z).2 (.inr aX),n3⟩
theorem Qa0:∀ {ids:List Nat} {n:Nat} {vs:List TV} {js:List (List Nat)} {T s:S} {L':LS},aD s->qA T s.ai ids n vs js->(∀ b∈ids,b < s.L.bl.length/\s.μ b=T.μ b)->s.H=T.H->(∀ z,T.N z->s.N z)->(∀ z∈js.flatten,s.aF z)->js.flatten.Nodup->G9 ids n vs s.L=some L' ->
  ∃ s',s'.L=L'/\s'.H=s.H/\aj s s'/\aD s'/\(∀ z,s.N z->s'.N z)/\(∀ z,s.aF z->z∉js.flatten->s'.aF z)
 | [],n,vs,js,T,s,L',hs,hd,hb,hH,hN,hl,hn,h=>by
  simp [G9] at h;subst h
  exact ⟨s,rfl,rfl,aj.refl s,hs,fun _ h=>h,fun _ h _=>h⟩
 | b::ids,0,vs,js,T,s,L',hs,hd,hb,hH,hN,hl,hn,h=>by
  simp [G9] at h;subst h
  exact ⟨s,rfl,rfl,aj.refl s,hs,fun _ h=>h,fun _ h _=>h⟩
 | b::ids,n+1,v::vs,j::js,T,s,L',hs,hd,hb,hH,hN,hl,hn,h=>by
  obtain ⟨uZ,nR⟩:=hd
  rw [Ze,Zn] at hn
  obtain ⟨n1,n2,n3⟩:=hn
  simp only [G9] at h
  replace h:=ob h;obtain ⟨L1,h1,h⟩:=h
  have hc:CB s s.ai b v j:=CB.to (hb b (by simp)).2 hH hN (fun z hz=>hl z (by simp [hz])) uZ
  obtain ⟨s1,a1,a2,a3,a4,a5,a6⟩:=Qik hs hc n1 h1
  rw [<- a1] at h
  obtain ⟨s2,b1,b2,b3,b4,b5,b6⟩:=Qa0 (T:=T) a4 (by rw [a3.ai];exact nR) (fun c hc=>by
   obtain ⟨q1,q2⟩:=hb c (by simp [hc])
   exact ⟨Zm q1 a3.nb,by rw [a3.mu c q1];exact q2⟩) (a2.trans hH) (fun z hz=>a5 z (hN z hz)) (fun z hz=>a6 z (hl z (by rw [Ze,Zh];exact .inr hz)) (fun hm=>n3 z hm z hz rfl)) n2 h
  exact ⟨s2,b1,b2.trans a2,a3.trans b3,b4,fun z hz=>b5 z (a5 z hz),fun z hz hm=>by
   rw [Ze,Zh,not_or] at hm
   exact b6 z (a6 z hz hm.1) hm.2⟩
 | _::_,_+1,[],_,_,_,_,_,hd,_,_,_,_,_,_=>by cases ‹List (List Nat)› <;> exact hd.elim
 | _::_,_+1,_::_,[],_,_,_,_,hd,_,_,_,_,_,_=>hd.elim
theorem Qc4 {val:Nat->Value}:∀ {l:List (Nat×Bool×Ty)} {vs:List TV} {an:List (List Nat)} {env ak:bA} {s:S} {L':LS},aD s->SR s s.ai val l vs an->an.flatten.Nodup->(∀ q p,q∉l.map (·.1)->dr env q=some p->ER s p (val q))->G_ l vs env s.L=some (ak,L') ->
  ∃ s',s'.L=L'/\s'.H=s.H/\aj s s'/\aD s'/\(∀ q p,dr ak q=some p->ER s' p (val q))/\(∀ q,q∉l.map (·.1)->dr ak q=dr env q)/\∀ q∈l.map (·.1),∃ p,dr ak q=some p
 | [],[],[],env,ak,s,L',hs,_,_,he,h=>by
  simp [G_] at h;obtain ⟨rfl,rfl⟩:=h
  exact ⟨s,rfl,rfl,aj.refl s,hs,fun q p hp=>he q p (by simp) hp,fun _ _=>rfl,by simp⟩
 | (q,o,t)::l,v::vs,ids::an,env,ak,s,L',hs,hr,hn,he,h=>by
  obtain ⟨hh,hl,dM⟩:=hr
  rw [Ze,Zn] at hn
  obtain ⟨fT,gG,sq⟩:=hn
  simp only [G_] at h
  have next:∀ (s1:S) (pv:PV),aj s s1->aD s1->s1.H=s.H->(∀ z,s.N z->s1.N z)->(∀ z∈an.flatten,s1.aF z)->AR s1 pv (val q)->G_ l vs ((q,pv)::env) s1.L=some (ak,L') ->
    ∃ s',s'.L=L'/\s'.H=s.H/\aj s s'/\aD s'/\(∀ q p,dr ak q=some p->ER s' p (val q))/\(∀ q',q'∉((q,o,t)::l).map (·.1)->dr ak q'=dr env q')/\∀ q'∈((q,o,t)::l).map (·.1),∃ p,dr ak q'=some p:=by
   clear h
   intro s1 pv k1 t1 g1 n1 l1 ha h
   have Xf:SR s1 s1.ai val l vs an:=by
    rw [k1.ai]
    have:∀ {l:List (Nat×Bool×Ty)} {vs:List TV} {an:List (List Nat)},SR s s.ai val l vs an->(∀ z∈an.flatten,s1.aF z)->SR s1 s.ai val l vs an:=by
     intro l
     induction l with
     | nil=>intro vs an h _;cases vs<;>cases an<;>simp_all [SR]
     | cons x l ih =>
      intro vs an h hL
      obtain ⟨q,o,t⟩:=x
      match vs,an,h with
      | v::vs,i::an,h=>exact ⟨h.1.frame (fun z hz au=>⟨n1 z hz,by rw [g1]⟩) (fun z _=>by rw [g1]),fun z hz=>hL z (by simp [hz]),ih h.2.2 (fun z hz=>hL z (by simp at hz ⊢;exact .inr hz))⟩
    exact this dM l1
   obtain ⟨s2,a1,a2,a3,a4,a5,a6,a7⟩:=Qc4 t1 Xf gG (fun q' p hq hp=>by
    simp only [dr] at hp
    cases hb:Nat.beq q q' with
    | true=>rw [hb] at hp;injection hp with hp;subst hp;rw [<- Z7 hb];exact ER.of ha
    | false =>
     rw [hb] at hp
     refine k1.ER (he q' p ?_ hp)
     simp only [List.map_cons,List.mem_cons,not_or]
     exact ⟨fun e=>by subst e;rw [Nat.beq_refl] at hb;simp at hb,hq⟩) h
   refine ⟨s2,a1,a2.trans g1,k1.trans a3,a4,a5,fun q' hq=>?_,fun q' hq=>?_⟩
   .simp only [List.map_cons,List.mem_cons,not_or] at hq
    rw [a6 q' hq.2]
    simp only [dr]
    cases hb:Nat.beq q q' with
    | true=>exact absurd (Z7 hb).symm hq.1
    | false=>rfl
   .by_cases D8:q'∈l.map (·.1)
    .exact a7 q' D8
    .rw [a6 q' D8]
     simp only [List.map_cons,List.mem_cons] at hq
     rcases hq with rfl | hq
     .exact ⟨pv,by simp only [dr,Nat.beq_refl]⟩
     .exact absurd hq D8
  have fY:∀ z∈an.flatten,s.aF z:=SR.ai dM
  cases o with
  | false =>
   obtain ⟨cs,hv,cS⟩:=hh
   obtain ⟨ty,x⟩:=v
   simp only [Ju] at h
   obtain ⟨s1,a1,a2,a3,a4,a5,a6,a7⟩:=MW ty hs cS hl fT
   rw [<- a1] at h
   exact next s1 _ a3 a4 a2 a6 (fun z hz=>a7 z (fY z hz) (fun hm=>sq z hm z hz rfl)) (Qii hv a5) h
  | true =>
   obtain ⟨u,x,rfl,ho⟩:=hh
   simp only [Ju] at h
   obtain ⟨s1,e1,e2,k1,t1,a1,n1,l1⟩:=Me hs ho hl
   rw [<- e1] at h
   exact next s1 _ k1 t1 e2 n1 (fun z hz=>l1 z (fY z hz) (fun hm=>sq z hm z hz rfl)) (AR.of a1) h
end Go.Pv
