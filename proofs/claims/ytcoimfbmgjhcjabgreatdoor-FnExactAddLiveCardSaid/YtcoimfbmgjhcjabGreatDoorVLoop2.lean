/-
  Calls: a call by value agrees with the call in the first interpreter. And what stood behind it in 4 texts.
  Conditions: said at the theorems.
-/
import Derived.Test.YtcoimfbmgjhcjabGreatDoorVCall2
set_option linter.all false
namespace Go.Pv
open Go.Ev
theorem Kb {s:S} {N:Nat->Prop} {H':af} {ai:Nat}:∀ {ps:List (PM×Ty)} {args:List PV} {ws:List Value} {aO:List (List Nat)} {vs:List TV} {L L':LS},fL ps args vs L=some L'->(Qp ps args).Nodup->Qw (ER s) args ws ->
  di N H' ai (sS ps) vs (AH ps ws) aO->∀ c∈Qp ps args,∃ B',Qi L' c=some B' /\
   (∀ sA:S,sA.μ=s.μ->sA.H=H'->sA.L.cu=L.cu->sA.ai=ai->(∀ z,N z->sA.N z)->BR sA c B')/\∀ m,s.μ c=some m->m.z∈oS ps aO
 | [],[],[],aO,vs,L,L',h,hn,hr,hh,c,hc=>by simp [Qp] at hc
 | (m,t)::ps,p::args,w::ws,aO,vs,L,L',h,hn,hr,hh,c,hc=>by
  obtain ⟨dY,dR⟩:=hr
  cases m with
  | ro =>
   simp only [fL] at h
   have e:Qp ((.ro,t)::ps) (p::args)=Qp ps args:=by cases p<;>rfl
   rw [e] at hn hc
   exact Kb (ps:=ps) h hn dR hh c hc
  | cl g =>
   simp only [fL] at h
   have e:Qp ((.cl g,t)::ps) (p::args)=Qp ps args:=by cases p<;>rfl
   rw [e] at hn hc
   exact Kb (ps:=ps) h hn dR hh c hc
  | mv =>
   simp only [fL] at h
   have e:Qp ((.mv,t)::ps) (p::args)=Qp ps args:=by cases p<;>rfl
   rw [e] at hn hc
   exact Kb (ps:=ps) h hn dR hh c hc
  | io =>
   simp only [fL] at h
   split at h
   .rename_i b v cy
    replace h:=ob h;obtain ⟨L1,h1,h⟩:=h
    simp only [Qp] at hn hc
    obtain ⟨gh,gR⟩:=List.nodup_cons.1 hn
    obtain ⟨a1,a2,a3,a4⟩:=Fb h gR
    obtain ⟨n',u,xs,x,g1,rfl,rfl⟩:=XP h1
    have bE:=Qo g1
    cases aO with
    | nil=>exact absurd hh id
    | cons ids aO =>
    simp only [sS,AH] at hh
    obtain ⟨sQ,vF⟩:=hh
    rcases Z2 hc with rfl | hc
    .have dY:cm s (.a_ c 0 none) w:=dY
     obtain ⟨_,dY⟩:=dY
     obtain ⟨u',x',e1,ho⟩:=sQ
     injection e1 with e1 e2
     injection e1 with e1
     subst e1
     simp only [heq_eq_eq] at e2
     subst e2
     refine ⟨_,by rw [a3 c gh,Qr bE],fun sA e1 e2 e3 e4 e5=>?_,fun m hm=>?_⟩
     .unfold BR;simp only
      cases hm:s.μ c with
      | none =>
       rw [hm] at dY;obtain ⟨_,_,rfl⟩:=dY
       rw [e1,hm];simp only
       rcases ho with ⟨_,hx,_⟩ | ⟨z,o,k,ks,_,_,e6,_⟩
       .exact hx
       .simp at e6
      | some m =>
       rw [hm] at dY;obtain ⟨g0,rfl⟩:=dY
       rw [e1,hm];simp only
       rcases ho with ⟨_,_,e6⟩ | ⟨z,o,k,ks,_,_,e6,q1,q2,q3,q4,q5,_⟩
       .simp at e6
       .simp only [Option.getD_none,Nat.zero_mul,Nat.add_zero,Nat.sub_zero] at e6
        injection e6 with e6 e7 e8
        injection e6 with e6;injection e6 with e6 e9
        subst e6 e9
        refine ⟨e8,e7,k,by rw [e2];exact q1,q4,fun i hi=>?_,fun _=>⟨q2,by rw [e4];exact q3⟩,fun e=>absurd e (by decide)⟩
        have:=q5.2 i hi
        have oh:=jT (k:=u.size) hi
        unfold cI at this;rw [List.drop_take,List.take_take,Nat.min_eq_left (by omega),List.drop_drop] at this
        rw [e2];exact ax.mono e5 _ this
     .rw [hm] at dY;obtain ⟨g0,rfl⟩:=dY
      rcases ho with ⟨_,_,e6⟩ | ⟨z,o,k,ks,rfl,_,e6,_⟩
      .simp at e6
      .simp only [Option.getD_none,Nat.zero_mul,Nat.add_zero,Nat.sub_zero] at e6
       injection e6 with e6 e7 e8
       injection e6 with e6;injection e6 with e6 e9
       simp [oS,e6]
    .obtain ⟨B',b1,b2,b3⟩:=Kb h gR dR vF c hc
     refine ⟨B',b1,b2,fun m hm=>?_⟩
     simp only [oS,Zh];exact .inr (b3 m hm)
   .simp at h
  | ps =>
   simp only [fL] at h
   split at h
   .rename_i b off v cy
    replace h:=ob h;obtain ⟨L1,h1,h⟩:=h
    simp only [Qp] at hn hc
    obtain ⟨gh,gR⟩:=List.nodup_cons.1 hn
    obtain ⟨a1,a2,a3,a4⟩:=Fb h gR
    obtain ⟨n',cs,g1,g2,rfl⟩:=QW h1
    have bE:=Qo g1
    cases aO with
    | nil=>exact absurd hh id
    | cons ids aO =>
    simp only [sS,AH] at hh
    obtain ⟨sQ,vF⟩:=hh
    rcases Z2 hc with rfl | hc
    .have dY:cm s (.ptr c off) w:=dY
     obtain ⟨_,m,hm,dW,rfl⟩:=dY
     obtain ⟨z,k,j,rfl,e1,hk,bn,kj,cZ⟩:=sQ
     injection e1 with e1;injection e1 with e1;injection e1 with e1 e2
     subst e1
     refine ⟨_,by rw [a3 c gh,Qr bE],fun sA f1 f2 f3 f4 f5=>?_,fun m' aE=>?_⟩
     .unfold BR;simp only
      refine ⟨trivial,m,k,by rw [f1];exact hm,dW,by rw [f2];exact hk,?_,bn,by rw [f4];exact kj⟩
      rw [<- f3]
      refine AF _ ?_
      rw [f2]
      exact ax.mono (fun z hz=>S.gm (f5 z hz)) _ cZ.rep
     .rw [hm] at aE;injection aE with aE;subst aE
      simp [oS]
    .obtain ⟨B',b1,b2,b3⟩:=Kb h gR dR vF c hc
     refine ⟨B',b1,b2,fun m hm=>?_⟩
     simp only [oS,Zh];exact .inr (b3 m hm)
   .simp at h
 | [],_::_,_,_,_,_,_,h,_,_,_,_,_=>by simp [fL] at h
 | _::_,[],_,_,_,_,_,h,_,_,_,_,_=>by simp [fL] at h
theorem Kc {s:S} {N:Nat->Prop} {H':af} {ai:Nat} {sA:S} (f1:sA.μ=s.μ) (f2:sA.H=H') (f3:sA.L.bl.length=s.L.bl.length) (f4:∀ z,N z->sA.N z):∀ {ps:List (PM×Ty)} {args:List PV} {ws:List Value} {aO:List (List Nat)} {vs:List TV} {L L':LS},fL ps args vs L=some L'->Qw (ER s) args ws ->
  di N H' ai (sS ps) vs (AH ps ws) aO->(∀ z∈(nx ps aO).flatten,sA.aF z)->vE sA ai (BT ps args vs) (nx ps aO)
 | [],[],[],aO,vs,L,L',h,hr,hh,hl=>by simp [BT,nx,vE]
 | (m,t)::ps,p::args,w::ws,aO,vs,L,L',h,hr,hh,hl=>by
  obtain ⟨dY,dR⟩:=hr
  cases m with
  | ro=>simp only [fL] at h;exact Kc (ps:=ps) f1 f2 f3 f4 h dR hh hl
  | cl g=>simp only [fL] at h;exact Kc (ps:=ps) f1 f2 f3 f4 h dR hh hl
  | mv=>simp only [fL] at h;exact Kc (ps:=ps) f1 f2 f3 f4 h dR hh hl
  | io =>
   simp only [fL] at h
   split at h
   .rename_i b v cy
    replace h:=ob h;obtain ⟨L1,h1,h⟩:=h
    cases aO with
    | nil=>exact absurd hh id
    | cons ids aO=>exact Kc (ps:=ps) f1 f2 f3 f4 h dR hh.2 hl
   .simp at h
  | ps =>
   simp only [fL] at h
   split at h
   .rename_i b off v cy
    replace h:=ob h;obtain ⟨L1,h1,h⟩:=h
    cases aO with
    | nil=>exact absurd hh id
    | cons ids aO =>
     obtain ⟨sQ,vF⟩:=hh
     have dY:cm s (.ptr b off) w:=dY
     obtain ⟨bE,m,hm,dW,rfl⟩:=dY
     obtain ⟨z,k,j,rfl,e1,hk,bn,kj,cZ⟩:=sQ
     injection e1 with e1;injection e1 with e1;injection e1 with e1 e2
     subst e1
     simp only [nx,List.drop_succ_cons,List.drop_zero,Ze] at hl
     exact ⟨⟨by rw [f3];exact bE,⟨m,k,by rw [f1];exact hm,dW,by rw [f2];exact hk,bn,kj,dA.frame (fun z hz _=>⟨f4 z hz,by rw [f2]⟩) _ cZ (fun z _=>by rw [f2])⟩,fun z hz=>hl z (List.mem_append.2 (.inl hz))⟩,Kc (ps:=ps) f1 f2 f3 f4 h dR vF (fun z hz=>hl z (List.mem_append.2 (.inr hz)))⟩
   .simp at h
 | [],_::_,_,_,_,_,_,h,_,_,_=>by simp [fL] at h
 | _::_,[],_,_,_,_,_,h,_,_,_=>by simp [fL] at h
theorem di.XQ {N:Nat->Prop} {H:af} {ai:Nat}:∀ {ks:List Kd} {vs:List TV} {ws:List Value} {is:List (List Nat)},di N H ai ks vs ws is->∀ z∈is.flatten,z < H.length
 | [],[],[],[],_=>by simp
 | _::_,_::_,_::_,_::_,h=>by
  intro z hz
  rw [Ze,Zh] at hz
  rcases hz with hz | hz
  .exact h.1.lt z hz
  .exact di.XQ h.2 z hz
theorem TM.len {s:S} {ai:Nat}:∀ {ps:List (PM×Ty)} {args:List PV} {ws:List Value} {os:List (Option TV)} {an:List (List Nat)},TM s ai ps args ws os an->ps.length=an.length
 | [],[],[],[],[],_=>rfl
 | _::_,_::_,_::_,_::_,_::_,h=>by simp [TM.len h.2]
theorem kU.of {s:S}:∀ (ps:List (PM×Ty)) (args:List PV),(∀ b∈Qp ps args,∃ B,Qi s.L b=some B/\B.rw=true)->kU s ps args:=by
 intro ps
 induction ps with
 | nil=>intro args _;cases args<;>trivial
 | cons q ps ih =>
  intro args h
  obtain ⟨m,t⟩:=q
  cases args with
  | nil=>cases m<;>trivial
  | cons p args =>
   cases m with
   | ro =>
    have e1:Qp ((.ro,t)::ps) (p::args)=Qp ps args:=by cases p<;>rfl
    have e2:kU s ((.ro,t)::ps) (p::args)=kU s ps args:=by cases p<;>rfl
    rw [e1] at h;rw [e2];exact ih args h
   | cl g =>
    have e1:Qp ((.cl g,t)::ps) (p::args)=Qp ps args:=by cases p<;>rfl
    have e2:kU s ((.cl g,t)::ps) (p::args)=kU s ps args:=by cases p<;>rfl
    rw [e1] at h;rw [e2];exact ih args h
   | mv =>
    have e1:Qp ((.mv,t)::ps) (p::args)=Qp ps args:=by cases p<;>rfl
    have e2:kU s ((.mv,t)::ps) (p::args)=kU s ps args:=by cases p<;>rfl
    rw [e1] at h;rw [e2];exact ih args h
   | io =>
    by_cases hp:∃ b off n,p=.a_ b off n
    .obtain ⟨b,off,n,rfl⟩:=hp
     exact ⟨h b (by simp [Qp]),ih args (fun q hq=>h q (by simp [Qp,hq]))⟩
    .have e1:Qp ((.io,t)::ps) (p::args)=Qp ps args:=by cases p<;>first | rfl | exact absurd ⟨_,_,_,rfl⟩ hp
     have e2:kU s ((.io,t)::ps) (p::args)=kU s ps args:=by cases p<;>first | rfl | exact absurd ⟨_,_,_,rfl⟩ hp
     rw [e1] at h;rw [e2];exact ih args h
   | ps =>
    by_cases hp:∃ b off,p=.ptr b off
    .obtain ⟨b,off,rfl⟩:=hp
     exact ⟨h b (by simp [Qp]),ih args (fun q hq=>h q (by simp [Qp,hq]))⟩
    .have e1:Qp ((.ps,t)::ps) (p::args)=Qp ps args:=by cases p<;>first | rfl | exact absurd ⟨_,_,rfl⟩ hp
     have e2:kU s ((.ps,t)::ps) (p::args)=kU s ps args:=by cases p<;>first | rfl | exact absurd ⟨_,_,rfl⟩ hp
     rw [e1] at h;rw [e2];exact ih args h
theorem Qdw {s:S} (hs:aD s) {aQ:List Nat} {L3:LS} {H':af} {ids bq aO N:Nat->Prop} (Kn:Nat->Option (Nat×Nat))
  (f1:L3.bl.length=s.L.bl.length) (f2:L3.cu=s.L.cu) (f3:∀ c,c∉aQ->Qi L3 c=Qi s.L c) (f4:∀ c∈aQ,∃ B B',Dm s.L L3 c B B')
  (f5:∀ c∈aQ,∃ B',Qi L3 c=some B'/\(∀ sA:S,sA.μ=s.μ->sA.H=H'->sA.L.cu=s.L.cu->sA.ai=s.ai->sA.br=Kn->(∀ z,N z->sA.N z)->BR sA c B')/\∀ m,s.μ c=some m->aO m.z)
  (IF:∀ z,ids z->s.aF z\/(∃ b B m,b∈aQ/\Qi s.L b=some B/\B.rw=true/\s.μ b=some m/\m.z=z)\/∃ p,s.br z=some p/\∀ B,Qi s.L p.1=some B->p.1∈aQ)
  (XR:∀ z p,Kn z=some p->p.1 < s.L.bl.length/\z < H'.length/\(∃ k,ah H' z=some k)/\¬ bq z/\¬ (s.aF z/\¬ ids z)/\(∀ c C m,Qi L3 c=some C->s.μ c=some m->m.z≠z)/\(bI s z\/s.H.length<=z))
  (hKk:∀ z b i B,b∉aQ->Qi s.L b=some B->s.br z=some (b,i)->Kn z=some (b,i))
  (hlen:s.H.length<=H'.length) (rJ:∀ z,z < s.H.length->¬ ids z->ah H' z=ah s.H z) (hnd:∀ z,bq z->¬ aO z) (dY:∀ z,bq z->ids z\/s.H.length<=z) (dR:∀ z,bq z->z < H'.length)
  (hN:∀ sA:S,(∀ z,bI sA z->(∃ b B m,Qi L3 b=some B/\B.rw=true/\s.μ b=some m/\m.z=z/\b∉aQ)\/(s.aF z/\¬ ids z)\/bq z\/aO z\/∃ p,Kn z=some p)->sA.fC=s.fC->∀ z,N z->sA.N z) :
  ∃ sA,sA.L=L3/\sA.H=H'/\sA.μ=s.μ/\aj s sA/\aD sA/\(∀ z,sA.aF z↔(s.aF z/\¬ ids z)\/bq z)/\∀ z,N z->sA.N z:=by
 have tj:∀ z,ids z->bI s z:=by
  intro z hz
  rcases IF z hz with h | ⟨b,B,m,_,h1,h2,h3,h4⟩ | ⟨p,hp,_⟩
  .exact .inr (.inl h)
  .exact .inl ⟨b,B,m,h1,h2,h3,h4⟩
  .exact .inr (.inr ⟨p,hp⟩)
 let sA:S:={ s with L:=L3,H:=H',aF:=fun z=>(s.aF z/\¬ ids z)\/bq z,br:=Kn }
 have cls:∀ c C,Qi L3 c=some C->∃ C0,Qi s.L c=some C0/\C0.rw=C.rw/\C0.aB<=C.aB/\(c∉aQ->C0=C)/\(C0.aB=C.aB->c∉aQ):=by
  intro c C hC
  by_cases hc:c∈aQ
  .obtain ⟨B,B',b1,b2,b3,b4,b5⟩:=f4 c hc
   rw [hC] at b3;injection b3 with b3;subst b3
   exact ⟨B,b1,by rw [b2,b4],by omega,fun h=>absurd hc h,fun h=>by omega⟩
  .rw [f3 c hc] at hC;exact ⟨C,hC,rfl,Zd _,fun _=>rfl,fun _=>hc⟩
 have tn:∀ c C m,Qi s.L c=some C->s.μ c=some m->c∉aQ->¬ ids m.z:=by
  intro c C m h1 h2 h3 h4
  rcases IF _ h4 with h | ⟨b,B,m',hb,h5,h6,h7,h8⟩ | ⟨p,hp,_⟩
  .exact hs.lm c C m h1 h2 h
  .have:=hs.inj b c B C m' m h5 h1 h6 h7 h2 h8
   subst this;exact h3 hb
  .exact (hs.kl _ p hp).2.2.2 c C m h1 h2 rfl
 have aY:∀ z,bI sA z->bI s z\/s.H.length<=z:=by
  rintro z (⟨b,B,m,h1,h2,h3,rfl⟩ | (⟨h1,_⟩ | h1) | ⟨p,h1⟩)
  .obtain ⟨C0,g1,g2,_⟩:=cls b B h1
   exact .inl (.inl ⟨b,C0,m,g1,by rw [g2];exact h2,h3,rfl⟩)
  .exact .inl (.inr (.inl h1))
  .rcases dY z h1 with h | h
   .exact .inl (tj z h)
   .exact .inr h
  .exact (XR z p h1).2.2.2.2.2.2
 have NO:∀ z b i B,b∉aQ->Qi s.L b=some B->s.br z=some (b,i)->¬ ids z:=by
  intro z b i B hb hB hp hz
  obtain ⟨k1,k2,k3,k4⟩:=hs.kl z _ hp
  rcases IF z hz with h | ⟨b,B,m,_,h1,h2,h3,h4⟩ | ⟨p,HB,hl⟩
  .exact k3 h
  .exact k4 b B m h1 h3 h4
  .rw [hp] at HB;injection HB with HB;subst HB;exact hb (hl B hB)
 have hkH:∀ z b i B,b∉aQ->Qi s.L b=some B->s.br z=some (b,i)->Kn z=some (b,i)/\ah H' z=ah s.H z:=fun z b i B hb hB hp=>⟨hKk z b i B hb hB hp,rJ z (hs.kl z _ hp).1 (NO z b i B hb hB hp)⟩
 have dF:∀ c C m,Qi s.L c=some C->s.μ c=some m->c∉aQ->ah H' m.z=ah s.H m.z:=fun c C m h1 h2 h3=>rJ _ ((hs.aJ c C h1).lt h2) (tn c C m h1 h2 h3)
 have hk:aj s sA:=by
  refine ⟨rfl,CK.same rfl f2,rfl,by rw [show sA.L=L3 from rfl,f1];exact Zd _,fun _ _=>rfl,hlen,fun z hz hn=>rJ z hz (fun h=>hn (tj z h)),aY,fun b B' hb iG=>?_⟩
  obtain ⟨C0,g1,g2,g3,g4,g5⟩:=cls b B' iG
  refine ⟨C0,g1,g3,fun e=>?_⟩
  have oP:=g5 e
  exact ⟨(g4 oP).symm,fun m hm=>dF b C0 m g1 hm oP,fun z i hz=>hkH z b i C0 oP g1 hz⟩
 have hNA:∀ z,N z->sA.N z:=by
  refine hN sA ?_ rfl
  rintro z (⟨b,B,m,h1,h2,h3,rfl⟩ | (h1 | h1) | h1)
  .by_cases hb:b∈aQ
   .obtain ⟨B',_,_,b3⟩:=f5 b hb
    exact .inr (.inr (.inr (.inl (b3 m h3))))
   .exact .inl ⟨b,B,m,h1,h2,h3,rfl,hb⟩
  .exact .inr (.inl h1)
  .exact .inr (.inr (.inl h1))
  .exact .inr (.inr (.inr (.inr h1)))
 refine ⟨sA,rfl,rfl,rfl,hk,⟨fun c C hC=>?_,fun b c C D m1 m2 h1 h2 h3 h4 h5 e=>?_,fun z hz=>⟨?_,fun ho=>?_⟩,?_,fun b C m h1 h2=>?_,fun z hl=>?_,fun z p hp=>?_,fun z p hp=>(XR z p hp).2.2.1⟩,fun z=>Iff.rfl,hNA⟩
 rotate_right
 .obtain ⟨k1,k2,k3,k4,k5,k6,k7⟩:=XR z p hp
  refine ⟨k2,by rw [show sA.L=L3 from rfl,f1];exact k1,?_,fun c C m g1 g2=>k6 c C m g1 g2⟩
  rintro (h1 | h1)
  .exact k5 h1
  .exact k4 h1
 .by_cases hc:c∈aQ
  .obtain ⟨B',b1,b2,_⟩:=f5 c hc
   have:some B'=some C:=by rw [<- b1];exact hC
   injection this with this;subst this
   exact b2 sA rfl rfl f2 rfl rfl hNA
  .have rE:Qi s.L c=some C:=by rw [<- f3 c hc];exact hC
   exact (hs.aJ c C rE).keep hk (Qo rE) (fun m hm=>dF c C m rE hm hc) (fun z i hz=>hkH z c i C hc rE hz)
 .obtain ⟨C0,g1,g2,_⟩:=cls b C h1
  obtain ⟨D0,g3,_⟩:=cls c D h2
  exact hs.inj b c C0 D0 m1 m2 g1 g3 (by rw [g2];exact h3) h4 h5 e
 .exact Zm (hs.dj z hz).1 hlen
 .rcases aY z ho with h | h
  .exact (hs.dj z hz).2 h
  .have:=(hs.dj z hz).1;omega
 .exact Nat.le_trans hs.dV hlen
 .obtain ⟨C0,g1,g2,g3,g4,g5⟩:=cls b C h1
  rintro (⟨h5,_⟩ | h5)
  .exact hs.lm b C0 m g1 h2 h5
  .by_cases hb:b∈aQ
   .obtain ⟨B',_,_,b3⟩:=f5 b hb
    exact hnd _ h5 (b3 m h2)
   .rcases dY _ h5 with h6 | h6
    .exact tn b C0 m g1 h2 hb h6
    .have:=(hs.aJ b C0 g1).lt h2;omega
 .rcases hl with ⟨h1,_⟩ | h1
  .exact Zm (hs.iM z h1) hlen
  .exact dR z h1
theorem Qip:∀ {rs:List (Bool×Ty)} {vs:List TV} {ws:List Value} {bq:List (List Nat)} {s:S} {BL:List PV} {L':LS},aD s->di s.N s.H s.ai (rs.map fun q=>AG q.1) vs ws bq->(∀ z∈bq.flatten,s.aF z)->bq.flatten.Nodup->IG rs vs s.L=some (BL,L') ->
  ∃ s',s'.L=L'/\s'.H=s.H/\aj s s'/\aD s'/\Qw (AR s') BL ws
 | [],[],[],[],s,BL,L',hs,_,_,_,h=>by
  simp [IG] at h;obtain ⟨rfl,rfl⟩:=h
  exact ⟨s,rfl,rfl,aj.refl s,hs,trivial⟩
 | (o,t)::rs,v::vs,w::ws,ids::bq,s,BL,L',hs,hh,hl,hn,h=>by
  obtain ⟨sQ,vF⟩:=hh
  rw [Ze,Zn] at hn
  obtain ⟨gh,gR,sR⟩:=hn
  simp only [IG] at h
  have next:∀ (s1:S) (pv:PV),aj s s1->aD s1->s1.H=s.H->(∀ z,s.N z->s1.N z)->(∀ z∈bq.flatten,s1.aF z)->AR s1 pv w->(Q1 (IG rs vs s1.L) fun r=>some (pv::r.1,r.2))=some (BL,L') ->
    ∃ s',s'.L=L'/\s'.H=s.H/\aj s s'/\aD s'/\Qw (AR s') BL (w::ws):=by
   clear h
   intro s1 pv k1 t1 g1 n1 l1 ha h
   replace h:=ob h;obtain ⟨⟨aag,L3⟩,h2,h⟩:=h
   simp at h;obtain ⟨rfl,rfl⟩:=h
   have HZ:di s1.N s1.H s1.ai (rs.map fun q=>AG q.1) vs ws bq:=by
    rw [k1.ai];exact vF.frame (fun z hz _=>⟨n1 z hz,by rw [g1]⟩) (fun z _=>by rw [g1])
   obtain ⟨s2,a1,a2,a3,a4,a5⟩:=Qip t1 HZ l1 gR h2
   exact ⟨s2,a1,a2.trans g1,k1.trans a3,a4,a3.AR ha,a5⟩
  have gr:∀ z∈bq.flatten,s.aF z:=fun z hz=>hl z (by rw [Ze,Zh];exact .inr hz)
  cases o with
  | false =>
   obtain ⟨cs,hv,cZ⟩:=sQ
   obtain ⟨ty,x⟩:=v
   simp only [Ke] at h
   obtain ⟨s1,a1,a2,a3,a4,a5,a6,a7⟩:=NI ty hs cZ (fun z hz=>hl z (by rw [Ze,Zh];exact .inl hz)) gh
   rw [<- a1] at h
   exact next s1 _ a3 a4 a2 a6 (fun z hz=>a7 z (gr z hz) (fun hm=>sR z hm z hz rfl)) (Qim hv a5) h
  | true =>
   obtain ⟨u,x,rfl,ho⟩:=sQ
   simp only [Ke] at h
   obtain ⟨s1,e1,e2,k1,t1,a1,n1,l1⟩:=MX hs ho (fun z hz=>hl z (by rw [Ze,Zh];exact .inl hz))
   rw [<- e1] at h
   exact next s1 _ k1 t1 e2 n1 (fun z hz=>l1 z (gr z hz) (fun hm=>sR z hm z hz rfl)) (AR.of a1) h
theorem Qqz:∀ (ts:List Ty) (a:jv ts),(ff ts a).map (·.1)=ts
 | [],_=>rfl
 | [t],x=>rfl
 | t::u::r,x=>by simp only [ff,List.map_cons];rw [Qqz (u::r) x.2]
theorem di.flat {N M:Nat->Prop} {H:af} {ai:Nat}:∀ {ks:List Kd} {vs:List TV} {ws:List Value} {is:List (List Nat)} {ts:List Ty},di N H ai ks vs ws is->vs.map (·.1)=ts->Qw (fun k t=>E9 k t=true) ks ts->di M H ai ks vs ws is
 | [],[],[],[],_,_,_,_=>trivial
 | k::ks,v::vs,w::ws,i::is,ts,h,e,hf=>by
  match ts,hf with
  | t::ts,hf =>
   simp only [List.map_cons,List.cons.injEq] at e
   exact ⟨h.1.flat (by rw [e.1];exact hf.1),di.flat h.2 e.2 hf.2⟩
theorem Qo0 {rs:List (Bool×Ty)} (h:(rs.any fun r=>match r with | (true,.sl t) => !(t.flat || t.jC) | (_,t) => !t.jD)=false):Qw (fun k t=>E9 k t=true) (rs.map fun q=>AG q.1) (rs.map fun q=>q.2):=by
 induction rs with
 | nil=>trivial
 | cons r rs ih =>
  simp only [List.any_cons,Bool.or_eq_false_iff] at h
  refine ⟨?_,ih h.2⟩
  obtain ⟨o,t⟩:=r
  have h1:=h.1
  cases o with
  | false=>simpa [AG,E9] using h1
  | true =>
   cases t with
   | sl u =>
    show (u.flat || u.jC)=true
    cases hb:(u.flat || u.jC) with
    | true=>rfl
    | false=>simp only [hb,Bool.not_false] at h1;exact absurd h1 (by decide)
   | _=>rfl
theorem Qr0 {ps:List (PM×Ty)} (h:(ps.any fun p=>match p with | (.ps,t) => !t.jD | (.io,.sl t) => !t.flat | (.mv,.sl t) => !(t.flat || t.jC) | _=>false)=false):Qw (fun k t=>E9 k t=true) (sS ps) (II ps):=by
 induction ps with
 | nil=>trivial
 | cons p ps ih =>
  simp only [List.any_cons,Bool.or_eq_false_iff] at h
  obtain ⟨m,t⟩:=p
  have h1:=h.1
  cases m with
  | ro=>exact ih h.2
  | cl g=>exact ih h.2
  | mv=>exact ih h.2
  | io =>
   refine ⟨?_,ih h.2⟩
   cases t with
   | sl u =>
    have h1:(!u.flat)=false:=h1
    show (u.flat || u.jC)=true
    cases hb:u.flat with
    | true=>rfl
    | false=>rw [hb] at h1;exact absurd h1 (by decide)
   | _=>rfl
  | ps=>exact ⟨by simpa [E9] using h1,ih h.2⟩
theorem Qiq {s:S} {ps:List PV} {ws:List Value} (h:Qw (AR s) ps ws):ER s (HX ps) (iK ws):=by
 match ps,ws,h with
 | [p],[w],h=>exact ER.of h.1
 | [],[],h=>exact ⟨[],rfl,trivial⟩
 | p::q::ps,w::x::ws,h=>exact ⟨w::x::ws,rfl,h⟩
section
variable {A:cL} {β γ:Type} {s:S} {KV:PV->LS->Option β} {KE:Value->af->Option γ} {r:β} {Q:γ->Prop}
theorem XS {sig:oM} {call:jv sig.eG->Option (jv sig.cY)} {bY:List Value->Nat->af->Option (Value×af)} (hF:C5 sig call bY s.ai) (hs:aD s) {args:List PV} {ws:List Value} (hr:Qw (ER s) args ws) (hK:eE s r KV KE Q)
  (h:(Q1 (ko sig.params args [] s.L) fun m=>Q1 (A5 sig.al m.2.1 sig.params args m.1 m.2.2) fun q=>Q1 (nh sig.eG q.1) fun a=>Q1 (call a) fun y =>
   Q1 (fL sig.params args ((ff sig.cY y).drop sig.results.length) q.2) fun L0=>Q1 (IE (BT sig.params args ((ff sig.cY y).drop sig.results.length)) L0) fun L'=>Q1 (IG sig.results ((ff sig.cY y).take sig.results.length) L') fun q=>KV (HX q.1) q.2)=some r) :
  ∃ y,(Q1 (bY ws s.ai s.H) fun q=>KE q.1 q.2)=some y/\Q y:=by
 replace h:=ob h;obtain ⟨⟨os,aQ,L1⟩,h1,h⟩:=h
 replace h:=ob h;obtain ⟨⟨iU,L2⟩,h2,h⟩:=h
 replace h:=ob h;obtain ⟨a,h3,h⟩:=h
 replace h:=ob h;obtain ⟨y,h4,h⟩:=h
 replace h:=ob h;obtain ⟨L3,h5,h⟩:=h
 replace h:=ob h;obtain ⟨L3b,XT,h⟩:=h
 replace h:=ob h;obtain ⟨⟨BL,L4⟩,h6,h⟩:=h
 simp only at h2 h3 h5 XT h6 h
 obtain ⟨s1,an,l1,g1,u1,k1,t1,o1,m1,tm1,aah,CW⟩:=J9 hs hr h1
 rw [<- l1] at h2
 obtain ⟨s2,l2,g2,u2,k2,t2,o2,PY,sm2,tr2⟩:=QU t1 (Qw.mono (fun _ _=>k1.ER) hr) h2
 rw [<- l2] at h5
 obtain ⟨ln1,ln2,ln3⟩:=J' h1
 have Fc:∀ b,b∈aQ↔b∈Qp sig.params args:=fun b=>by rw [ln3];simp
 obtain ⟨f1,f2,f3,f4⟩:=Fb h5 ln1
 have hu:s2.μ=s.μ:=u2.trans u1
 have cO:kU s2 sig.params args:=kU.of _ _ (fun b hb=>by
  obtain ⟨B,B',b1,b2,_⟩:=f4 b hb;exact ⟨B,b1,b2⟩)
 obtain ⟨nd,NP⟩:=CW s2 k2 (fun z hz=>by rw [PY];exact hz) t2 hu cO
 have A4:TM s2 s.ai sig.params args ws os an:=tm1.keep k2 g2 u2 (fun z hz=>by rw [PY];exact hz)
 have A7:∀ z∈an.flatten,bI s2 z:=by
  intro z hz
  rcases NP z hz with ⟨h,_⟩ | ⟨b,B,m,_,_,q1,q2,q3,q4⟩
  .exact .inr (.inl h)
  .exact .inl ⟨b,B,m,q1,q2,q3,q4⟩
 have NK:s2.H=s.H:=g2.trans g1
 have kq:s2.fC=s.fC:=(k1.trans k2).dj
 have kR:s2.ai=s.ai:=(k1.trans k2).ai
 let fC:Nat->Prop:=fun z=>sig.al=true/\((bI s2 z/\z∉an.flatten)\/s.fC z)
 have hC1:∀ z,s2.N z->z∉an.flatten/\¬ fC z:=by
  intro z hz
  refine ⟨fun h=>hz.1 (A7 z h),?_⟩
  rintro ⟨_,⟨h,_⟩ | h⟩
  .exact hz.1 h
  .exact hz.2 (by rw [kq];exact h)
 have hC2:sig.al=false->∀ b m B,b∉aQ->Qi s2.L b=some B->s2.μ b=some m->m.z∉an.flatten/\¬ fC m.z:=by
  intro jF b m B hb hB hm
  refine ⟨fun h=>?_,fun h=>absurd (jF.symm.trans h.1) (by decide)⟩
  rcases NP _ h with ⟨h,_⟩ | ⟨b',B',m',_,gU,q1,q2,q3,q4⟩
  .exact t2.lm b B m hB hm h
  .have:=t2.inj b' b B' B m' m q1 hB q2 q3 hm q4
   subst this;exact hb gU
 have ng:∀ z p,s2.br z=some p->z∉an.flatten:=by
  intro z p hp h
  obtain ⟨k1,k2,k3,k4⟩:=t2.kl z p hp
  rcases NP z h with ⟨h,_⟩ | ⟨b',B',m',_,gU,q1,q2,q3,q4⟩
  .exact k3 h
  .exact k4 b' B' m' q1 q3 q4
 have hC3:sig.al=false->∀ z b i,b∉aQ->s2.br z=some (b,i)->z∉an.flatten/\¬ fC z:=by
  intro jF z b i _ hz
  exact ⟨ng z _ hz,fun h=>absurd (jF.symm.trans h.1) (by decide)⟩
 have hand:=Qvr hC1 hC2 hC3 A4 tr2
 have JV:=MQ sig.eG h3
 rw [<- JV] at hand
 obtain ⟨v,H',qZ,bq,aO,c1,rfl,c3,c4,c5,c6,c7,c8,c9⟩:=hF a y h4 s2.H fC ws an (by
   rintro z ⟨_,⟨h,_⟩ | h⟩
   .exact t2.A6 h
   .exact (t2.dj z (by rw [kq];exact h)).1) (by rw [NK];exact hs.dV) nd (by
   rintro z hz ⟨_,⟨_,h⟩ | h⟩
   .exact h hz
   .exact (t2.dj z (by rw [kq];exact h)).2 (A7 z hz)) hand
 rw [NK] at c1
 rw [c1];simp only [Q1]
 have dR:Qw (ER s2) args ws:=Qw.mono (fun _ _=>(k1.trans k2).ER) hr
 have cH:sig.al=false->Qw (fun k t=>E9 k t=true) (sig.results.map fun q=>AG q.1) (sig.results.map fun q=>q.2)/\Qw (fun k t=>E9 k t=true) (sS sig.params) (II sig.params):=by
  intro jF
  unfold oM.al at jF
  simp only [Bool.or_eq_false_iff] at jF
  exact ⟨Qo0 jF.1,Qr0 jF.2⟩
 let N':Nat->Prop:=fun z=>z∉bq.flatten++aO.flatten/\¬ fC z
 have NQ:=Qqz sig.cY y
 have WM:∀ M:Nat->Prop,(sig.al=true->∀ z,N' z->M z)->di M H' s.ai (sig.results.map fun q=>AG q.1) ((ff sig.cY y).take sig.results.length) qZ bq:=by
  intro M hM
  cases jF:sig.al with
  | true=>exact c8.frame (fun z hz _=>⟨hM jF z hz,rfl⟩) (fun _ _=>rfl)
  | false =>
   refine c8.flat (ts:=sig.results.map fun q=>q.2) ?_ (cH jF).1
   rw [List.map_take,NQ];unfold oM.cY
   rw [List.take_append_of_le_length (by simp),Zs (by simp)]
 have hou:∀ M:Nat->Prop,(sig.al=true->∀ z,N' z->M z)->di M H' s.ai (sS sig.params) ((ff sig.cY y).drop sig.results.length) (AH sig.params ws) aO:=by
  intro M hM
  cases jF:sig.al with
  | true=>exact c9.frame (fun z hz _=>⟨hM jF z hz,rfl⟩) (fun _ _=>rfl)
  | false =>
   refine c9.flat (ts:=II sig.params) ?_ (cH jF).2
   rw [List.map_drop,NQ];unfold oM.cY
   rw [List.drop_append_of_le_length (by simp),List.drop_of_length_le (by simp)];simp
 let N2:Nat->Prop:=fun z=>sig.al=true/\N' z
 have XU:∀ z,False->N2 z:=fun _ h=>h.elim
 have B7:=WM N2 (fun jF z hz=>⟨jF,hz⟩)
 have QY:=hou N2 (fun jF z hz=>⟨jF,hz⟩)
 rw [Zn] at c5
 obtain ⟨Kg,ht2⟩:=Ka QY
 obtain ⟨XV,ht4⟩:=ht2 c5.2.1
 have ki:∀ z,(z∈bq.flatten\/z∈(nx sig.params aO).flatten)->z∈bq.flatten++aO.flatten:=by
  rintro z (h | h)
  .exact List.mem_append.2 (.inl h)
  .exact List.mem_append.2 (.inr ((Kg z).2 (.inr h)))
 obtain ⟨sA,e1,e2,e3,k3,t3,NR,n3⟩:=Qdw (Kn:=s2.br) (N:=N2) (ids:=fun z=>z∈an.flatten) (bq:=fun z=>z∈bq.flatten\/z∈(nx sig.params aO).flatten) (aO:=fun z=>z∈oS sig.params aO) t2 f1 f2 f3 f4 (fun c hc=>by
   obtain ⟨B',b1,b2,b3⟩:=Kb h5 ln1 dR QY c hc
   exact ⟨B',b1,fun sA q1 q2 q3 q4 _ q5=>b2 sA q1 q2 q3 (by rw [q4,kR]) q5,b3⟩) (fun z hz=>by
   rcases NP z hz with ⟨h,_⟩ | ⟨b,B,m,_,hb,q1,q2,q3,q4⟩
   .exact .inl h
   .exact .inr (.inl ⟨b,B,m,(Fc b).1 hb,q1,q2,q3,q4⟩)) (fun z p hp=>by
   obtain ⟨QZ,k2',XW,NS⟩:=t2.kl z p hp
   have NT:=ng z p hp
   refine ⟨k2',Zm QZ c3,by rw [c4 z QZ NT];exact t2.ka z p hp,fun hz=>?_,fun h=>XW h.1,fun c C m g1 g2=>?_,.inl (.inr (.inr ⟨p,hp⟩))⟩
   .rcases c6 z (ki z hz) with h | h
    .exact NT h
    .omega
   .by_cases hc:c∈Qp sig.params args
    .obtain ⟨B,B',b1,_⟩:=f4 c hc
     exact NS c B m b1 g2
    .rw [f3 c hc] at g1;exact NS c C m g1 g2) (fun z b i B _ _ hp=>hp) c3 c4 (fun z hz aX=>by
   rcases hz with hz | hz
   .exact c5.2.2 z hz z ((Kg z).2 (.inl aX)) rfl
   .exact ht4 z aX hz) (fun z hz=>c6 z (ki z hz)) (fun z hz=>by
   rcases hz with hz | hz
   .exact B7.XQ z hz
   .exact QY.XQ z ((Kg z).2 (.inr hz))) (fun sA ho hb z hz=>by
   obtain ⟨jF,Q_,jV⟩:=hz
   simp only [Zh,not_or] at Q_
   refine ⟨fun aY=>?_,fun Fe=>jV ⟨jF,.inr (by rw [hb,kq] at Fe;exact Fe)⟩⟩
   rcases ho z aY with ⟨b,B,m,q1,q2,q3,q4,q5⟩ | ⟨q1,q2⟩ | q1 | q1 | ⟨p,q1⟩
   rotate_right
   .exact jV ⟨jF,.inl ⟨.inr (.inr ⟨p,q1⟩),ng z p q1⟩⟩
   .rw [f3 b q5] at q1
    refine jV ⟨jF,.inl ⟨.inl ⟨b,B,m,q1,q2,q3,q4⟩,fun h=>?_⟩⟩
    rcases NP z h with ⟨h,_⟩ | ⟨b',B',m',_,gU,p1,p2,p3,p4⟩
    .exact t2.lm b B m q1 q3 (q4▸h)
    .have:=t2.inj b' b B' B m' m p1 q1 p2 p3 q3 (p4.trans q4.symm)
     subst this;exact q5 ((Fc _).1 gU)
   .exact jV ⟨jF,.inl ⟨.inr (.inl q1),q2⟩⟩
   .rcases q1 with q1 | q1
    .exact Q_.1 q1
    .exact Q_.2 ((Kg z).2 (.inr q1))
   .exact Q_.2 ((Kg z).2 (.inl q1)))
 have Ff:sA.ai=s.ai:=k3.ai.trans kR
 have XX:vE sA sA.ai (BT sig.params args ((ff sig.cY y).drop sig.results.length)) (nx sig.params aO):=by
  rw [Ff]
  exact Kc (s:=s2) e3 e2 (by rw [e1,f1]) n3 h5 dR QY (fun z hz=>(NR z).2 (.inr (.inr hz)))
 rw [<- e1] at XT
 obtain ⟨sB,b1,b2,b3,b4,b5,b6⟩:=WH t3 XX (fun z hz=>(NR z).2 (.inr (.inr hz))) XV XT
 rw [<- b1] at h6
 have NU:sB.ai=s.ai:=b3.ai.trans Ff
 have hRA:di sB.N sB.H sB.ai (sig.results.map fun q=>AG q.1) ((ff sig.cY y).take sig.results.length) qZ bq:=by
  rw [NU,b2,e2];exact B7.frame (fun z hz _=>⟨b5 z (n3 z hz),rfl⟩) (fun _ _=>rfl)
 obtain ⟨s4,q1,q2,q3,q4,q5⟩:=Qip b4 hRA (fun z hz=>b6 z ((NR z).2 (.inr (.inl hz))) (fun h=>c5.2.2 z hz z ((Kg z).2 (.inr h)) rfl)) c5.1 h6
 rw [<- q1] at h
 have:=hK (HX BL) (iK qZ) s4 ((((k1.trans k2).trans k3).trans b3).trans q3) q4 (Qiq q5) h
 rw [q2,b2,e2] at this;exact this
end
structure CV {A:cL} {β:Type} (X:nj A β) (XE:Cx):Prop where
 P:X.P=XE.P
 nt:X.nt=XE.nt
 cV:X.eZ=XE.cV
 fuel:XE.fuel=A.fuel
 call:∀ f,A.inline f=false->C5 (A.sig f) (X.call f) (XE.call f) XE.ai
 inl:∀ f,A.inline f=true->∀ {γ:Type} {args:List PV} {ws:List Value} {s:S} {KV:PV->LS->Option β} {KE:Value->af->Option γ} {r:β} {Q:γ->Prop},aD s->s.ai=XE.ai->Qw (ER s) args ws->eE s r KV KE Q->X.inl f args s.L KV=some r ->
  ∃ y,(Q1 (XE.call f ws XE.ai s.H) fun q=>KE q.1 q.2)=some y/\Q y
theorem cq.ers {s:S} {ps:List PV} {vs:List Value} (h:cq s ps vs):Qw (ER s) ps vs:=Qw.mono (fun _ _=>ER.fh) h
section
variable {A:cL} {β γ:Type} {s:S} {env:bA} {e:Env} {X:nj A β} {XE:Cx} {o:Oper} {r:β} {Q:γ->Prop}
theorem Qir {H:af} {z:Nat} {k:bx} (h:ah H z=some k):H.set z (some k)=H:=by
 unfold ah at h
 split at h
 .rename_i k' hk
  injection h with h;subst h
  obtain ⟨au,e⟩:=Z0 hk
  rw [<- e];exact List.set_getElem_self au
 .simp at h
theorem Qtz {c:List Value} {j:Nat} {v:Value} (h:c[j]? = some v):lay c j [v]=c:=by
 have au:=(Z0 h).1
 apply List.ext_getElem?;intro i
 rw [QM _ _ _ au]
 split
 .rename_i e;subst e;exact h.symm
 .rfl
theorem Qu0 {f:FuncId} {b i aB:Nat} {w:Ty} {x:List w.T} {rest:List PV} {wv:Value} {ws:List Value} {bY:List Value->Nat->af->Option (Value×af)} {KV:PV->LS->Option β} {KE:Value->af->Option γ} (hs:aD s) (dY:cm s (.rw b i aB w x) wv) (dR:Qw (ER s) rest ws) (cH:w.flat=true)
  (hK:eE s r KV KE Q) (hF:C5 (A.sig f) (X.call f) bY s.ai) (h:(XY b i aB w x s.L fun L2 n=>IJ X f (.a_ n 0 none::rest) L2 fun u L3=>Ra b i (aB+1) w n L3 fun L4=>KV u L4)=some r) :
  ∃ y,(Q1 (bY (wv::ws) s.ai s.H) fun q=>KE q.1 q.2)=some y/\Q y:=by
 unfold XY at h
 split at h
 .rename_i v0 t xs hb
  replace h:=ob h;obtain ⟨y,hy,h⟩:=h
  unfold aa at h;split at h
  .rename_i hlen
   have hlen:=Z7 hlen
   replace h:=ob h;obtain ⟨⟨x1,L1⟩,ht,h⟩:=h
   simp only at h
   obtain ⟨s1,ids,l1,g1,u1,k1,t1,ho,kj,oP,hnd,aY⟩:=Qil hs dY ht
   have rj:oO s1.N s1.H s1.ai w x1 wv ids:=by rw [k1.ai];exact ho
   obtain ⟨s2,l2,g2,k2,t2,q2,n2,m2⟩:=MX t1 rj (fun z hz=>(kj z).2 (.inr hz))
   have eJ:∀ t,w=.os t->t.flat=false:=fun t e=>by subst e;simp [Ty.flat] at cH
   rw [Qin x1 eJ] at l2
   obtain ⟨P8,hL1⟩:v0=aB/\L1=cW s.L b ⟨v0+1,true,.rows t xs (some i)⟩:=by
    unfold rA at ht
    simp only [hb] at ht
    split at ht
    .rename_i hv
     replace ht:=ob ht;obtain ⟨z,_,ht⟩:=ht
     simp at ht
     exact ⟨Z7 hv,ht.2.symm⟩
    .simp at ht
   subst P8
   obtain ⟨bE,_,hval⟩:cm s (.rw b i v0 w x) wv:=dY
   obtain ⟨_,_,hwh⟩:=(hval _ hb).2 rfl
   have gp:Qi L1 b=some ⟨v0+1,true,.rows t xs (some i)⟩:=by rw [hL1];exact Qr bE
   have sJ:Qi s2.L b=some ⟨v0+1,true,.rows t xs (some i)⟩:=by
    rw [l2,Qz (by rw [l1];exact Qo gp),l1];exact gp
   have k12:=k1.trans k2
   rw [l1] at l2 q2
   rw [<- l2] at h
   obtain ⟨hj,ej⟩:=Z0 hy
   obtain ⟨_,hft,⟨_,hx0⟩ | ⟨m,k,hm,a1,a2,a3,a4,a5,a6,a7⟩⟩:=mS hs hb
   .rw [hx0] at hj;simp at hj
   have bL:=(hwh _ _ _ _ m k hb rfl hm a3 y hy).2 hlen
   have gr:s2.ai=s.ai:=k12.ai
   have hH2:s2.H=s.H:=g2.trans g1
   unfold IJ at h
   have main:=XS (s:=s2) (KE:=KE) (Q:=Q) (sig:=A.sig f) (call:=X.call f) (bY:=bY) (by rw [gr];exact hF) t2 (args:=.a_ L1.bl.length 0 none::rest) (ws:=wv::ws) ⟨ER.fh q2,Qw.mono (fun _ _=>k12.ER) dR⟩ (KV:=fun u L3=>Ra b i (v0+1) w L1.bl.length L3 fun L4=>KV u L4) (r:=r) (by
    intro pv v s3 k3 t3 r3 h3
    simp only at h3
    unfold Ra at h3
    replace h3:=ob h3;obtain ⟨⟨x2,L4⟩,XV,h3⟩:=h3
    have q3:cm s3 (.a_ L1.bl.length 0 none) wv:=k3.cm q2
    obtain ⟨s4,l4,g4,u4,k4,t4,rc,lm4,_,_⟩:=Xu t3 cH q3 XV
    simp only at h3
    rw [<- l4] at h3
    split at h3
    .rename_i v' e xs' h' hb4
     split at h3
     .rename_i XZ
      have XZ:=Z7 XZ
      subst XZ
      replace h3:=ob h3;obtain ⟨z,hz,h3⟩:=h3
      have X4:=k3.trans k4
      obtain ⟨B0,e1,e2,e3⟩:=X4.live b _ (Qo sJ) hb4
      rw [sJ] at e1;injection e1 with e1;subst e1
      obtain ⟨eB,eh,_⟩:=e3 rfl
      injection eB with _ _ eB
      injection eB with eB1 X5 eB3
      subst eB1
      replace X5:=eq_of_heq X5
      subst X5 eB3
      have ew:=Qq hz
      injection ew with ew;subst ew
      have:=Qg hz;subst this
      have vO:s2.μ b=some m:=by rw [k12.mu b (Qo hb)];exact hm
      have hm4:s4.μ b=some m:=by rw [X4.mu b (Qo sJ)];exact vO
      have hk4:ah s4.H m.z=some k:=by rw [eh m vO,hH2];exact a3
      have hp:Qa wv wv=true:=by
       rcases rc with ⟨_,e⟩ | ⟨_,_,_,e,_⟩<;>rw [e]<;>simp [Qa]
      obtain ⟨s5,l5,g5,k5,t5,_⟩:=X6 t4 hb4 hm4 hk4 hj (.inr rfl) (y:=x2) (v:=wv) (by
       rw [k4.ai];exact rc.mono cH (fun z hz=>⟨.inl hz.1,by rw [g4]⟩)) hp
      have hkk:(⟨lay k.cells (m.sh+i) [wv],false,k.mp⟩:bx)=k:=by
       rw [Qtz bL]
       obtain ⟨kc,kr,km⟩:=k
       simp only at a5;rw [a5]
      rw [hkk,Qir hk4,g4] at g5
      have:=hK pv v s5 (k12.trans (X4.trans k5)) t5 ((k4.trans k5).ER r3) (by rw [l5];exact h3)
      rw [g5] at this;exact this
     .simp at h3
    .simp at h3) h
   rw [gr,hH2] at main
   exact main
  .simp at h
 .simp at h
theorem Qo1 {f:FuncId} {args:List PV} {ws:List Value} {bY:List Value->Nat->af->Option (Value×af)} {KV:PV->LS->Option β} {KE:Value->af->Option γ} (hs:aD s) (hr:Qw (ER s) args ws)
  (hK:eE s r KV KE Q) (hF:C5 (A.sig f) (X.call f) bY s.ai) (h:X7 X f args s.L KV=some r) :
  ∃ y,(Q1 (bY ws s.ai s.H) fun q=>KE q.1 q.2)=some y/\Q y:=by
 unfold X7 at h
 split at h
 .rename_i b i aB w x rest
  cases ws with
  | nil=>exact absurd hr id
  | cons wv ws =>
   split at h
   .split at h
    .rename_i cH
     exact Qu0 hs hr.1 hr.2 cH hK hF h
    .simp at h
   .unfold IJ at h;exact XS hF hs hr hK h
 .unfold IJ at h;exact XS hF hs hr hK h
theorem Qu1 {c:Call} {KV:PV->LS->Option β} {KE:Value->af->Option γ} (hX:CV X XE) (aI:s.ai=XE.ai) (ho:o.op=.call c) (hs:aD s) (he:cG s env e) (hK:eE s r KV KE Q) (h:dn X o env s.L KV=some r):∃ y,dx XE o e s.H KE=some y/\Q y:=by
 simp only [dn,ho] at h;simp only [dx,ho]
 split at h
 .rename_i b hc
  rw [hc];simp only
  replace h:=ob h;obtain ⟨ps,h1,h⟩:=h
  obtain ⟨vs,e1,r1⟩:=NV he h1
  rw [e1];simp only [Q1]
  exact Qkj hX.P aI.symm hs r1 hK h
 .rename_i f hc
  rw [hc];simp only
  replace h:=ob h;obtain ⟨g,h1,h⟩:=h
  replace h:=ob h;obtain ⟨ps,h2,h⟩:=h
  obtain ⟨gv,e1,r1⟩:=fK he h1
  obtain ⟨vs,e2,r2⟩:=NV he h2
  rw [e1,e2];simp only [Q1]
  split at h
  .rename_i n first cap
   obtain ⟨fa,ca,rfl,q1,q2⟩:=r1
   simp only
   have hr:Qw (ER s) (first++ps++cap) (fa++vs++ca):=Qw.append (Qw.append q1.ers r2) q2.ers
   have NW:eE s r (fun u L'=>match PI X.P o.type with
     | some tm=>match Dq tm u with
      | true=>KV u L'
      | false=>none
     | none=>KV u L') (fun v H=>match PI XE.P o.type with
     | some tm=>EI tm v fun u=>KE u H
     | none=>KE v H) Q:=by
    intro pv v s' hk bZ dI h
    simp only at h
    rw [<- hX.P]
    split at h
    .rename_i tm X8
     split at h
     .rename_i hf
      simp only [X8]
      rw [Qry dI hf]
      exact hK pv v s' hk bZ dI h
     .simp at h
    .rename_i X8
     simp only [X8]
     exact hK pv v s' hk bZ dI h
   unfold NX at h
   split at h
   .rename_i hi
    exact hX.inl n hi hs aI hr NW h
   .rename_i hi
    have hF:=hX.call n hi
    rw [<- aI] at hF ⊢
    exact Qo1 hs hr NW hF h
  .simp at h
 .simp at h
theorem Qr1 {KV:PV->LS->Option β} {KE:Value->af->Option γ} (hX:CV X XE) (aI:s.ai=XE.ai) (hs:aD s) (he:cG s env e) (hK:eE s r KV KE Q) (h:dn X o env s.L KV=some r):∃ y,dx XE o e s.H KE=some y/\Q y:=by
 cases aK:o.op with
 | move x=>simp only [dn,aK] at h;simp only [dx,aK];exact Rb hs he hK h
 | assign x=>simp only [dn,aK] at h;simp only [dx,aK];exact Rb hs he hK h
 | pick c a b=>exact Qu3 aK hs he hK h
 | alloc t=>exact Qrg hX.P aK hs he hK h
 | box t x=>exact Qxj aK hs he hK h
 | build t ps=>exact Qr8 hX.P aK hs he hK h
 | buildSlice t n ps=>exact Qd4 hX.P aK hs he hK h
 | load t a=>exact Qu8 hX.P aK hs he hK h
 | store t a x=>exact Qri hX.P aI.symm aK hs he hK h
 | nilCheck x=>exact Qiz aK hs he hK h
 | binOp op t x y u=>exact Qrc hX.P aK hs he hK h
 | unOp op t x=>exact Qu4 aK hs he hK h
 | convert a b x=>exact Qks hX.P aK hs he hK h
 | makeFunc fn a b =>
  cases fn with
  | func f=>exact Qiv aK hs he hK h
  | _=>simp [dn,aK] at h
 | makeSlice t l c=>exact Qg5 hX.P aK hs he hK h
 | slice t x lo hi mx =>
  cases mx with
  | none=>exact Qqx hX.P aK hs he hK h
  | some m=>simp [dn,aK] at h
 | fieldAddr t x f=>exact Qg1 hX.P aK hs he hK h
 | field t x f=>exact Qr9 hX.P aK hs he hK h
 | indexAddr t x i=>exact Qg4 hX.P aK hs he hK h
 | index t x i=>exact Qra hX.P aK hs he hK h
 | extract x i=>exact Qkm aK hs he hK h
 | call c=>exact Qu1 hX aI aK hs he hK h
 | _=>simp [dn,aK] at h
theorem Qis {v:PV} {F:Nat->Option β} (h:Dr v F=some r):∃ b,v=.mp b/\F b=some r:=by
 unfold Dr at h
 split at h
 .exact ⟨_,rfl,h⟩
 .simp at h
theorem X9 {v:PV} {F:Int->Option β} (h:A8 v F=some r):∃ n,v=.int .i64 n/\F n=some r:=by
 unfold A8 at h
 split at h
 .exact ⟨_,rfl,h⟩
 .simp at h
theorem Qit (hs:aD s) {b:Nat} {q:Nat×List (Int×Int)} (h:lmap s.L b=some q):Qi s.L b=some ⟨q.1,true,.mp q.2⟩/\∃ m,s.μ b=some m/\m.sh=0/\s.ai<=m.z/\FF s.H m.z=some q.2:=by
 unfold lmap at h
 split at h
 .rename_i aB es hb
  injection h with h;subst h
  have hB:=hs.aJ b _ hb
  unfold BR at hB;simp only at hB
  obtain ⟨_,m,k,h1,h2,h3,h4,h5,h6,_⟩:=hB
  refine ⟨hb,m,h1,h2,h6,?_⟩
  unfold FF;rw [h3];simp only [Q1,h5,h4]
 .simp at h
theorem Qu2 {KV:PV->LS->Option β} {KE:Value->af->Option γ} (hX:CV X XE) (aI:s.ai=XE.ai) (hs:aD s) (he:cG s env e) (hK:eE s r KV KE Q) (h:Fg X o env s.L KV=some r):∃ y,B9 XE o e s.H KE=some y/\Q y:=by
 cases aK:o.op with
 | makeMap t n =>
  cases n with
  | none =>
   simp only [Fg,aK] at h;simp only [B9,aK]
   obtain ⟨s',e1,e2,e3,k,t'⟩:=hs.Fh (.mp []) ⟨[],false,some []⟩ ⟨s.H.length,0,0,0⟩ rfl (fun s' hk hm hg hN=>by
    unfold BR;simp only
    exact ⟨trivial,_,_,hm,rfl,hg,rfl,rfl,by rw [hk.ai];exact hs.dV,rfl⟩)
   rw [<- e1] at h
   have:=hK (.mp s.L.bl.length) (.map (some s.H.length)) s' k t' (ER.fh ⟨by rw [e1,Ql];omega,_,e3,rfl⟩) h
   rw [e2] at this
   exact this
  | some x =>
   simp only [Fg,aK,dn] at h
   simp at h
 | mapUpdate t m k v =>
  simp only [Fg,aK] at h;simp only [B9,aK,<- hX.P]
  split at h
  .rename_i ht
   simp only [ht]
   replace h:=ob h;obtain ⟨mv,hm,h⟩:=h
   replace h:=ob h;obtain ⟨kv,hk,h⟩:=h
   replace h:=ob h;obtain ⟨vv,hv,h⟩:=h
   replace h:=Qis h;obtain ⟨b,rfl,h⟩:=h
   replace h:=X9 h;obtain ⟨a,rfl,h⟩:=h
   replace h:=X9 h;obtain ⟨u,rfl,h⟩:=h
   replace h:=ob h;obtain ⟨q,hq,h⟩:=h
   obtain ⟨w1,f1,⟨_,m',g1,rfl⟩⟩:=fK he hm
   obtain ⟨w2,f2,r2⟩:=fK he hk
   obtain ⟨w3,f3,r3⟩:=fK he hv
   obtain rfl:w2=.int .i64 a:=r2
   obtain rfl:w3=.int .i64 u:=r3
   obtain ⟨hb,m2,h1,h2,h3,h4⟩:=Qit hs hq
   rw [g1] at h1;injection h1 with h1;subst h1
   simp only [f1,f2,f3,Q1,I6,FG,h4]
   obtain ⟨s',e1,e2,e3,k',t'⟩:=hs.set hb rfl g1 ⟨q.1+1,true,.mp (gW q.2 a u)⟩ rfl rfl ⟨[],false,some (gW q.2 a u)⟩ (fun s' hk hm hg hN=>by
    unfold BR;simp only
    exact ⟨trivial,_,_,hm,h2,hg,rfl,rfl,by rw [hk.ai];exact h3,rfl⟩)
   rw [<- e1] at h
   have:=hK .undef undef s' k' t' rfl h
   rw [e2] at this
   exact this
  .simp at h
 | lookup t m k ok =>
  simp only [Fg,aK] at h;simp only [B9,aK,<- hX.P]
  split at h
  .rename_i ht
   simp only [ht]
   replace h:=ob h;obtain ⟨mv,hm,h⟩:=h
   replace h:=ob h;obtain ⟨kv,hk,h⟩:=h
   replace h:=Qis h;obtain ⟨b,rfl,h⟩:=h
   replace h:=X9 h;obtain ⟨a,rfl,h⟩:=h
   replace h:=ob h;obtain ⟨q,hq,h⟩:=h
   obtain ⟨w1,f1,⟨_,m',g1,rfl⟩⟩:=fK he hm
   obtain ⟨w2,f2,r2⟩:=fK he hk
   obtain rfl:w2=.int .i64 a:=r2
   obtain ⟨hb,m2,h1,h2,h3,h4⟩:=Qit hs hq
   rw [g1] at h1;injection h1 with h1;subst h1
   simp only [f1,f2,Q1,I6,FG,h4]
   refine hK.here hs ?_ h
   cases ok with
   | true=>exact ⟨_,rfl,rfl,rfl,trivial⟩
   | false=>exact rfl
  .simp at h
 | _ =>
  have hV:Fg X o env s.L KV=dn X o env s.L KV:=by simp only [Fg,aK]
  have hE:B9 XE o e s.H KE=dx XE o e s.H KE:=by simp only [B9,aK]
  rw [hV] at h;rw [hE]
  exact Qr1 hX aI hs he hK h
def fJ (W:List Nat) (env ak:bA) (e e':Env):Prop:=∀ q,q∉W->dD ak q=none\/(dD ak q=dD env q/\cU e' q=cU e q)
theorem fJ.refl (W:List Nat) (env:bA) (e:Env):fJ W env env e e:=fun _ _=>.inr ⟨rfl,rfl⟩
theorem fJ.trans {W:List Nat} {env ak Fi:bA} {e e' e'':Env} (h:fJ W env ak e e') (g:fJ W ak Fi e' e''):fJ W env Fi e e'':=by
 intro q hq
 rcases g q hq with g1 | ⟨g1,g2⟩
 .exact .inl g1
 .rcases h q hq with h1 | ⟨h1,h2⟩
  .exact .inl (g1.trans h1)
  .exact .inr ⟨g1.trans h1,g2.trans h2⟩
theorem fJ.mono {W V:List Nat} {env ak:bA} {e e':Env} (h:fJ W env ak e e') (hs:∀ q,q∈W->q∈V):fJ V env ak e e':=fun q hq=>h q (fun hw=>hq (hs q hw))
theorem fJ.cons {W:List Nat} {env:bA} {e:Env} {d:Nat} {p:PV} {v:Value} (hd:d∈W):fJ W env ((d,p)::env) e ((d,v)::e):=by
 intro q hq
 have aU:Nat.beq d q=false:=by
  cases hb:Nat.beq d q with
  | false=>rfl
  | true=>exact absurd (Z7 hb▸hd) hq
 right;simp only [dD,cU,aU];exact ⟨trivial,trivial⟩
def COk (W:List Nat) (dh:bA) (e0:Env) (s:S) (r:β) (KV:bA->LS->Option β) (KE:Env->af->Option γ) (Q:γ->Prop):Prop :=
 ∀ env e s',aj s s'->aD s'->cG s' env e->fJ W dh env e0 e->KV env s'.L=some r->∃ y,KE e s'.H=some y/\Q y
theorem Qdx {ops:Array Oper} {W:List Nat} {KV:Bool->bA->Option β} {KE:Bool->Env->Option γ} (hW:∀ (j d:Nat),(ops[j]?).bind (fun (x:Oper)=>x.dst)=some d->d∈W) (he:cG s env e) (h:Rc ops o env KV=some r) (hK:∀ t ak e',cG s ak e'->fJ W env ak e e'->KV t ak=some r->∃ y,KE t e'=some y/\Q y):∃ y,DP ops o e KE=some y/\Q y:=by
 unfold Rc at h;unfold DP
 cases hg:o.guard with
 | none=>rw [hg] at h;exact hK _ _ _ he (fJ.refl _ _ _) h
 | some jw =>
  obtain ⟨j,want⟩:=jw
  rw [hg] at h
  simp only at h ⊢
  cases hd:(ops[j]?).bind (·.dst) with
  | none=>rw [hd] at h;simp at h
  | some d =>
   rw [hd] at h
   simp only at h ⊢
   replace h:=ob h;obtain ⟨p,h1,h⟩:=h
   obtain ⟨v,e1,r1⟩:=he.get h1
   simp only [e1,Q1]
   split at h
   .rename_i b
    obtain rfl:v=.bool b:=r1
    simp only
    cases b with
    | true=>simp only [aa] at h ⊢;exact hK _ _ _ (he.cons (p:=.bool true) rfl) (fJ.cons (hW j d hd)) h
    | false=>simp only [aa] at h ⊢;exact hK _ _ _ (he.cons (p:=.bool false) rfl) (fJ.cons (hW j d hd)) h
   .obtain rfl:v=undef:=r1
    exact hK _ _ _ he (fJ.refl _ _ _) h
   .simp at h
theorem Rd {nt:Nat} {W:List Nat} {dst:Option Tmp} {p:PV} {v:Value} {KV:bA->Option β} {KE:Env->Option γ} (hW:∀ d,dst=some d->d∈W) (he:cG s env e) (hr:ER s p v) (h:Kh nt dst p env KV=some r) (hK:∀ ak e',cG s ak e'->fJ W env ak e e'->KV ak=some r->∃ y,KE e'=some y/\Q y):∃ y,DO nt dst v e KE=some y/\Q y:=by
 unfold Kh at h;unfold DO
 split at h
 .exact hK _ _ he (fJ.refl _ _ _) h
 .rename_i d
  split at h
  .rename_i hd;simp only [hd];exact hK _ _ (he.cons hr) (fJ.cons (hW d rfl)) h
  .simp at h
theorem Ww {ops:Array Oper} {W:List Nat} {KV:bA->LS->Option β} {KE:Env->af->Option γ} (hX:CV X XE) (hW:∀ (j d:Nat),(ops[j]?).bind (fun (x:Oper)=>x.dst)=some d->d∈W) (dh:bA) (e0:Env):∀ {l:List Oper} {s:S} {env:bA} {e:Env},(∀ o∈l,∀ d,o.dst=some d->d∈W)->s.ai=XE.ai->aD s->cG s env e->fJ W dh env e0 e->COk W dh e0 s r KV KE Q->A9 X ops l env s.L KV=some r->∃ y,B_ XE ops l e s.H KE=some y/\Q y
 | [],s,env,e,_,aI,hs,he,hu,hK,h=>hK env e s (aj.refl s) hs he hu h
 | o::l,s,env,e,hl,aI,hs,he,hu,hK,h=>by
  simp only [A9] at h;simp only [B_]
  refine Qdx hW he h (fun t ak e' gM dB h=>?_)
  cases t with
  | true =>
   simp only at h ⊢
   refine Qu2 hX aI hs gM (fun pv v s' hk bZ hr h=>?_) h
   rw [hX.nt] at h
   refine Rd (hl o (by simp)) (hk.env gM) hr h (fun cc e2 vC iN h=>?_)
   exact Ww hX hW dh e0 (fun o ho=>hl o (by simp [ho])) (hk.ai.trans aI) bZ vC ((hu.trans dB).trans iN) (fun IK e3 s3 k3=>hK IK e3 s3 (hk.trans k3)) h
  | false =>
   simp only at h ⊢
   rw [hX.nt] at h
   refine Rd (hl o (by simp)) gM (p:=.undef) rfl h (fun cc e2 vC iN h=>?_)
   exact Ww hX hW dh e0 (fun o ho=>hl o (by simp [ho])) aI hs vC ((hu.trans dB).trans iN) hK h
def rF:List S->List (bA×LS)->List (Env×af)->Prop
 | [],[],[]=>True
 | s::ss,(env,L)::tr,(e,H)::te=>s.L=L/\s.H=H/\aD s/\cG s env e/\(∀ t∈ss,aj t s)/\rF ss tr te
 | _,_,_=>False
theorem X_ {ops:Array Oper} {W:List Nat} {KV:List (bA×LS)->bA->LS->Option β} {KE:List (Env×af)->Env->af->Option γ} (hX:CV X XE) (hW:∀ (j d:Nat),(ops[j]?).bind (fun (x:Oper)=>x.dst)=some d->d∈W) (dh:bA) (e0:Env) (s0:S):∀ {l:List Oper} {s:S} {env:bA} {e:Env} {ss:List S} {tr:List (bA×LS)} {te:List (Env×af)},(∀ o∈l,∀ d,o.dst=some d->d∈W)->s.ai=XE.ai->aD s->cG s env e->fJ W dh env e0 e->rF ss tr te->(∀ t∈ss,aj t s)->aj s0 s->(∀ t∈ss,aj s0 t) ->
  (∀ ak e' s' Ya E3 Yb,aj s s'->aD s'->cG s' ak e'->fJ W dh ak e0 e'->rF (s'::Ya) ((ak,s'.L)::E3) ((e',s'.H)::Yb)->(∀ t∈s'::Ya,aj s0 t)->KV ((ak,s'.L)::E3) ak s'.L=some r->∃ y,KE ((e',s'.H)::Yb) e' s'.H=some y/\Q y) ->
  NY X ops l env s.L tr KV=some r->∃ y,Aw XE ops l e s.H te KE=some y/\Q y
 | [],s,env,e,ss,tr,te,_,aI,hs,he,hu,ht,Fa,h0,Yc,hK,h =>
  hK env e s ss tr te (aj.refl s) hs he hu ⟨rfl,rfl,hs,he,Fa,ht⟩ (fun t AM=>by rcases Z2 AM with rfl | h1;exact h0;exact Yc t h1) h
 | o::l,s,env,e,ss,tr,te,hl,aI,hs,he,hu,ht,Fa,h0,Yc,hK,h=>by
  simp only [NY] at h;simp only [Aw]
  refine Qdx hW he h (fun t ak e' gM dB h=>?_)
  have hall:∀ t∈s::ss,aj s0 t:=fun t AM=>by
   rcases Z2 AM with rfl | h1
   .exact h0
   .exact Yc t h1
  cases t with
  | true =>
   simp only at h ⊢
   refine Qr1 hX aI hs gM (fun pv v s' hk bZ hr h=>?_) h
   rw [hX.nt] at h
   refine Rd (hl o (by simp)) (hk.env gM) hr h (fun cc e2 vC iN h=>?_)
   exact X_ hX hW dh e0 s0 (ss:=s::ss) (tr:=(ak,s.L)::tr) (fun o ho=>hl o (by simp [ho])) (hk.ai.trans aI) bZ vC ((hu.trans dB).trans iN) ⟨rfl,rfl,hs,gM,Fa,ht⟩ (fun t AM=>by
    rcases Z2 AM with rfl | h1
    .exact hk
    .exact (Fa t h1).trans hk) (h0.trans hk) hall (fun IK e3 s3 ss3 tr3 te3 k3=>hK IK e3 s3 ss3 tr3 te3 (hk.trans k3)) h
  | false =>
   simp only at h ⊢
   rw [hX.nt] at h
   refine Rd (hl o (by simp)) gM (p:=.undef) rfl h (fun cc e2 vC iN h=>?_)
   exact X_ hX hW dh e0 s0 (ss:=s::ss) (tr:=(ak,s.L)::tr) (fun o ho=>hl o (by simp [ho])) aI hs vC ((hu.trans dB).trans iN) ⟨rfl,rfl,hs,gM,Fa,ht⟩ (fun t AM=>by
    rcases Z2 AM with rfl | h1
    .exact aj.refl _
    .exact Fa t h1) h0 hall hK h
end
theorem Qc5:∀ {l:List Value},(∀ v∈l,Qa v v=true)->BD l l=true
 | [],_=>rfl
 | v::l,h=>by
  simp only [BD,Z8]
  exact ⟨h v (by simp),Qc5 (fun w hw=>h w (List.mem_cons_of_mem _ hw))⟩
theorem Re {l:List Value} (h:∀ v∈l,Qa v v=true):jS (some (.agg l.toArray)) (some (.agg l.toArray))=true:=by
 simp [jS,Qc5 h]
theorem Qkk {v:Value} (h:Qa v v=true):jS (some v) (some v)=true:=by
 unfold jS
 split
 .rfl
 .rename_i xs ys e1 e2
  injection e1 with e1;subst e1;simp [Qa] at h
 .rename_i e1 e2;injection e1 with e1;injection e2 with e2;subst e1 e2;exact h
 .rename_i h1 h2;exact absurd rfl (h2 v v rfl)
theorem ob1 {α β:Type} (a:α) (f:α->Option β):Q1 (some a) f=f a:=rfl
theorem vP {P:Program} {t:TypeId} {a:Operand} {e:Env} {H G:af} {z off:Nat} {k:bx} (hv:ev e a=some (.pointer (some ⟨z,off,none⟩))) (hk:ah H z=some k) (hg:ah G z=some k)
  (hp:∀ i,P.info? t=some i->∀ j,j < max i.size 1->∀ v,k.cells[off+j]? = some v->Qa v v=true):jS (c_ P (.load t a) e G) (c_ P (.load t a) e H)=true:=by
 have hN:∀ n,Qx G ⟨z,off,none⟩ n=Qx H ⟨z,off,none⟩ n:=fun n=>by unfold Qx;simp only [hk,hg]
 have hL:gL G ⟨z,off,none⟩=gL H ⟨z,off,none⟩:=by unfold gL;simp only [hk,hg]
 simp only [c_,KC hv,hv,ob1,e_,hN,hL]
 cases hi:P.info? t with
 | none=>rfl
 | some i =>
  simp only [ob1]
  have agg:jS (Q1 (Qx H ⟨z,off,none⟩ i.size) fun l=>some (.agg l.toArray)) (Q1 (Qx H ⟨z,off,none⟩ i.size) fun l=>some (.agg l.toArray))=true:=by
   cases hl:Qx H ⟨z,off,none⟩ i.size with
   | none=>rfl
   | some l =>
    refine Re (fun v hv=>?_)
    unfold Qx at hl;simp only [hk,Q1] at hl
    split at hl
    .simp at hl;subst hl
     obtain ⟨j,hj,ej⟩:=List.getElem_of_mem hv
     have PL:j < i.size:=by simp at hj;omega
     refine hp i hi j (by omega) v ?_
     have:((k.cells.drop off).take i.size)[j]? = some v:=by rw [Z6 hj,ej]
     rw [List.getElem?_take_of_lt PL,Zp] at this;exact this
    .simp at hl
  have leaf:jS (gL H ⟨z,off,none⟩) (gL H ⟨z,off,none⟩)=true:=by
   cases hl:gL H ⟨z,off,none⟩ with
   | none=>rfl
   | some v =>
    refine Qkk (hp i hi 0 (by omega) v ?_)
    unfold gL at hl;simp only [hk,Q1] at hl;simpa using hl
  cases P.underlying t with
  | none=>rfl
  | some d=>cases d<;>first | exact agg | exact leaf
theorem Ki {P:Program} {s1 s2:TypeId} {a:Operand} {e:Env} {H G:af} {v:Value} {l:List Value} (hv:ev e a=some v) (hH:Qf H 1 v=some l) (hG:Qf G 1 v=some l) (hp:∀ w∈l,Qa w w=true):jS (c_ P (.convert s1 s2 a) e G) (c_ P (.convert s1 s2 a) e H)=true:=by
 simp only [c_,hv,Q1,hH,hG]
 exact Re hp
theorem NZ {P:Program} {o:Op} {e:Env} {H G:af} (h1:c_ P o e H=none) (h2:c_ P o e G=none):jS (c_ P o e G) (c_ P o e H)=true:=by rw [h1,h2];rfl
def Ds (s t:S):Prop:=aj s t\/aj t s
theorem Ds.same {s t:S} (h:Ds s t) {b:Nat} (hv:Kj s.L t.L b=true) {m:MB} (hm:s.μ b=some m):∃ B,Qi s.L b=some B/\Qi t.L b=some B/\ah t.H m.z=ah s.H m.z:=by
 unfold Kj at hv
 split at hv
 .rename_i x y hx hy
  have hv:=Z7 hv
  rcases h with h | h
  .obtain ⟨B,b1,b2,b3⟩:=h.live b y (Qo hx) hy
   rw [hx] at b1;injection b1 with b1;subst b1
   obtain ⟨c1,c2,_⟩:=b3 hv
   subst c1
   exact ⟨y,hx,hy,c2 m hm⟩
  .obtain ⟨B,b1,b2,b3⟩:=h.live b x (Qo hy) hx
   rw [hy] at b1;injection b1 with b1;subst b1
   obtain ⟨c1,c2,_⟩:=b3 hv.symm
   subst c1
   refine ⟨x,hx,hy,(c2 m ?_).symm⟩
   rw [<- h.mu b (Qo hy)];exact hm
 .simp at hv
theorem Qxg {P:Program} {s0 si sm:S} {c0:Nat} (hs:aD si) (Yd:aj s0 si) (k0m:aj s0 sm) (hc:c0<=s0.L.cu) (hold:∀ z,s0.Old c0 z->z < s0.H.length/\¬ bI s0 z) (hn:Ds si sm) {env:bA} {e:Env} (he:cG si env e)
  {o:Op} (h:Ye P c0 o env si.L sm.L=true):jS (c_ P o e sm.H) (c_ P o e si.H)=true:=by
 have fz:∀ {st z:Nat} {k:bx},si.NN st z->st < c0->ah si.H z=some k->ah sm.H z=some k:=by
  intro st z k N0 eR hk
  have h1:=N0.2 c0 eR (Nat.le_trans hc Yd.ck.1)
  rw [Yd.ck.2.1 c0 hc] at h1
  obtain ⟨h2,h3⟩:=hold z h1
  rw [k0m.fr z h2 h3,<- Yd.fr z h2 h3];exact hk
 unfold Ye at h
 split at h
 .rename_i t a
  cases hg:Bf P t a with
  | some v =>
   obtain ⟨g,l,i,n,e',_,_,_,_,_,h2,rfl⟩:=Y4 hg
   simp only [c_,hg]
   refine Re fun v hv=>?_
   have:=Z3 h2 v hv
   unfold Qu at this
   split at this<;>simp_all [Qa]
  | none =>
  rw [hg] at h
  simp only at h
  cases hp:eA env a with
  | none =>
   rw [hp] at h
   have wR:ev e a=none:=by
    cases a with
    | tmp q=>have:=he q;rw [show dD env q=none from hp] at this;exact this
    | _=>simp [Rf] at h
   exact NZ (by simp [c_,hg,wR,Q1]) (by simp [c_,hg,wR,Q1])
  | some p =>
   rw [hp] at h
   obtain ⟨v,e1,r1⟩:=fK he hp
   cases p with
   | rp st u x =>
    simp only [Z8] at h
    obtain ⟨z,oo,k,rfl,N0,hk,hle,cZ⟩:=r1
    refine vP e1 hk (fz N0 (BQ h.1) hk) (fun i hi j hj w hw=>?_)
    have h2:=h.2
    rw [hi] at h2
    have bf:=Z7 h2
    have eO:=Ty.size_pos u
    refine ax.plain u cZ w (List.mem_iff_getElem?.2 ⟨j,?_⟩)
    rw [List.getElem?_take_of_lt (by omega),Zp];exact hw
   | ep b j fo =>
    obtain ⟨bE,m,hm,rfl⟩:=r1
    obtain ⟨B,b1,b2,b3⟩:=hn.same h hm
    have hB:=hs.aJ b B b1
    obtain ⟨aB,Fj,bo⟩:=B
    cases bo with
    | cells cs =>
     unfold BR at hB;simp only at hB
     obtain ⟨_,m',k,aE,dW,hk,cD,_⟩:=hB
     rw [hm] at aE;injection aE with aE;subst aE
     refine vP e1 hk (by rw [b3];exact hk) (fun i hi j' hj w hw=>?_)
     have:∀ {cs:List PV} {vs:List Value},cq si cs vs->∀ v∈vs,Qa v v=true:=by
      intro cs;induction cs with
      | nil=>intro vs h v hv;cases vs<;>simp_all [cq,Qw]
      | cons p cs ih=>intro vs h v hv;match vs,h with
       | w::vs,h=>rcases Z2 hv with rfl | hv;exact h.1.plain;exact ih h.2 v hv
     exact this cD w (Zc hw)
    | mp es =>
     unfold BR at hB;simp only at hB
     obtain ⟨_,m',k,aE,_,hk,_,_,_,IL⟩:=hB
     rw [hm] at aE;injection aE with aE;subst aE
     refine vP e1 hk (by rw [b3];exact hk) (fun i hi j' hj w hw=>?_)
     rw [IL] at hw;simp at hw
    | arr t' xs =>
     obtain ⟨a1,a2,k,a3,a4,a5,_⟩:=mO hs b1 hm
     refine vP e1 a3 (by rw [b3];exact a3) (fun i hi j' hj w hw=>?_)
     refine (AI hs b1 hm a3).2 w (List.mem_iff_getElem?.2 ⟨j*m.es+fo+j',?_⟩)
     rw [Zp,show m.sh+(j*m.es+fo+j')=m.sh+j*m.es+fo+j' by omega];exact hw
    | rows t' xs ho =>
     obtain ⟨_,_,⟨fS,_⟩ | ⟨m',k,aE,a1,a2,a3,a4,_⟩⟩:=mS hs b1
     .rw [hm] at fS;simp at fS
     rw [hm] at aE;injection aE with aE;subst aE
     refine vP e1 a3 (by rw [b3];exact a3) (fun i hi j' hj w hw=>?_)
     refine a4.2 w (List.mem_iff_getElem?.2 ⟨j*m.es+fo+j',?_⟩)
     rw [Zp,show m.sh+(j*m.es+fo+j')=m.sh+j*m.es+fo+j' by omega];exact hw
   | ptr b off =>
    obtain ⟨bE,m,hm,dW,rfl⟩:=r1
    obtain ⟨B,b1,b2,b3⟩:=hn.same h hm
    have hB:=hs.aJ b B b1
    obtain ⟨aB,Fj,bo⟩:=B
    cases bo with
    | cells cs =>
     unfold BR at hB;simp only at hB
     obtain ⟨_,m',k,aE,_,hk,cD,_⟩:=hB
     rw [hm] at aE;injection aE with aE;subst aE
     refine vP e1 hk (by rw [b3];exact hk) (fun i hi j' hj w hw=>?_)
     have:∀ {cs:List PV} {vs:List Value},cq si cs vs->∀ v∈vs,Qa v v=true:=by
      intro cs;induction cs with
      | nil=>intro vs h v hv;cases vs<;>simp_all [cq,Qw]
      | cons p cs ih=>intro vs h v hv;match vs,h with
       | w::vs,h=>rcases Z2 hv with rfl | hv;exact h.1.plain;exact ih h.2 v hv
     exact this cD w (Zc hw)
    | mp es =>
     unfold BR at hB;simp only at hB
     obtain ⟨_,m',k,aE,_,hk,_,_,_,IL⟩:=hB
     rw [hm] at aE;injection aE with aE;subst aE
     refine vP e1 hk (by rw [b3];exact hk) (fun i hi j' hj w hw=>?_)
     rw [IL] at hw;simp at hw
    | arr t' xs =>
     obtain ⟨a1,a2,k,a3,a4,a5,_⟩:=mO hs b1 hm
     refine vP e1 a3 (by rw [b3];exact a3) (fun i hi j' hj w hw=>?_)
     refine (AI hs b1 hm a3).2 w (List.mem_iff_getElem?.2 ⟨off+j',?_⟩)
     rw [Zp,dW,Zo];exact hw
    | rows t' xs ho =>
     obtain ⟨_,_,⟨fS,_⟩ | ⟨m',k,aE,a1,a2,a3,a4,_⟩⟩:=mS hs b1
     .rw [hm] at fS;simp at fS
     rw [hm] at aE;injection aE with aE;subst aE
     refine vP e1 a3 (by rw [b3];exact a3) (fun i hi j' hj w hw=>?_)
     refine a4.2 w (List.mem_iff_getElem?.2 ⟨off+j',?_⟩)
     rw [Zp,dW,Zo];exact hw
   | dp b Yf n0 u0 k0 =>
    obtain ⟨bE,m,hm,dW,rfl⟩:=r1
    generalize Yf+k0*u0.size=off at *
    obtain ⟨B,b1,b2,b3⟩:=hn.same h hm
    have hB:=hs.aJ b B b1
    obtain ⟨aB,Fj,bo⟩:=B
    cases bo with
    | cells cs =>
     unfold BR at hB;simp only at hB
     obtain ⟨_,m',k,aE,_,hk,cD,_⟩:=hB
     rw [hm] at aE;injection aE with aE;subst aE
     refine vP e1 hk (by rw [b3];exact hk) (fun i hi j' hj w hw=>?_)
     have:∀ {cs:List PV} {vs:List Value},cq si cs vs->∀ v∈vs,Qa v v=true:=by
      intro cs;induction cs with
      | nil=>intro vs h v hv;cases vs<;>simp_all [cq,Qw]
      | cons p cs ih=>intro vs h v hv;match vs,h with
       | w::vs,h=>rcases Z2 hv with rfl | hv;exact h.1.plain;exact ih h.2 v hv
     exact this cD w (Zc hw)
    | mp es =>
     unfold BR at hB;simp only at hB
     obtain ⟨_,m',k,aE,_,hk,_,_,_,IL⟩:=hB
     rw [hm] at aE;injection aE with aE;subst aE
     refine vP e1 hk (by rw [b3];exact hk) (fun i hi j' hj w hw=>?_)
     rw [IL] at hw;simp at hw
    | arr t' xs =>
     obtain ⟨a1,a2,k,a3,a4,a5,_⟩:=mO hs b1 hm
     refine vP e1 a3 (by rw [b3];exact a3) (fun i hi j' hj w hw=>?_)
     refine (AI hs b1 hm a3).2 w (List.mem_iff_getElem?.2 ⟨off+j',?_⟩)
     rw [Zp,dW,Zo];exact hw
    | rows t' xs ho =>
     obtain ⟨_,_,⟨fS,_⟩ | ⟨m',k,aE,a1,a2,a3,a4,_⟩⟩:=mS hs b1
     .rw [hm] at fS;simp at fS
     rw [hm] at aE;injection aE with aE;subst aE
     refine vP e1 a3 (by rw [b3];exact a3) (fun i hi j' hj w hw=>?_)
     refine a4.2 w (List.mem_iff_getElem?.2 ⟨off+j',?_⟩)
     rw [Zp,dW,Zo];exact hw
   | undef =>
    obtain rfl:v=undef:=r1
    exact NZ (by simp [c_,hg,e1,Q1];rfl) (by simp [c_,hg,e1,Q1];rfl)
   | _=>simp at h
 .rename_i t u a
  cases hp:eA env a with
  | none =>
   rw [hp] at h
   have wR:ev e a=none:=by
    cases a with
    | tmp q=>have:=he q;rw [show dD env q=none from hp] at this;exact this
    | _=>simp [Rf] at h
   exact NZ (by simp [c_,wR,Q1]) (by simp [c_,wR,Q1])
  | some p =>
   rw [hp] at h
   obtain ⟨v,e1,r1⟩:=fK he hp
   cases p with
   | nil=>obtain rfl:v=_:=r1;exact Ki e1 rfl rfl (by simp)
   | undef =>
    obtain rfl:v=undef:=r1
    exact NZ (by simp [c_,e1,Q1];rfl) (by simp [c_,e1,Q1];rfl)
   | ro st ty x =>
    have r1:ax (si.NN st) si.H (.sl ty) x [v]:=r1
    unfold ax at r1
    rcases r1 with ⟨rfl,e2⟩ | ⟨rfl,z,oo,e2⟩ | ⟨z,oo,k,e2,N0,hk,hle,hi⟩
    .simp at e2;subst e2;exact Ki e1 rfl rfl (by simp)
    .simp at e2;subst e2
     exact Ki (l:=[]) e1 (by simp [Qf,fN]) (by simp [Qf,fN]) (by simp)
    .simp at e2;subst e2
     have de:=fz N0 (BQ h) hk
     have eO:=Ty.size_pos ty
     have aai:oo+x.length*1<=k.cells.length:=by
      have:=Nat.mul_le_mul_left x.length eO
      simp at this ⊢;omega
     have oC:∀ G:af,ah G z=some k->Qf G 1 (.slice (some ⟨z,oo,none⟩) x.length ty.size)=some ((k.cells.drop oo).take (x.length*1)):=by
      intro G hG
      simp only [Qf]
      cases hz:x.length*1 with
      | zero=>simp [fN]
      | succ q =>
       simp only [fN,Qx,hG,Q1]
       have:Nat.ble (oo+(q+1)) k.cells.length=true:=Nat.ble_eq_true_of_le (by omega)
       rw [this]
     refine Ki e1 (oC _ hk) (oC _ de) (fun w hw=>?_)
     have Dj:RL (si.NN st) si.H ty x ((k.cells.drop oo).take (x.length*ty.size)):=by
      refine ⟨by simp;omega,fun i eW=>?_⟩
      have hm:=jT (k:=ty.size) eW
      have e2:cI ((k.cells.drop oo).take (x.length*ty.size)) (i*ty.size) ty.size=(k.cells.drop (oo+i*ty.size)).take ty.size:=by
       unfold cI;rw [List.drop_take,List.take_take,Nat.min_eq_left (by omega),List.drop_drop]
      rw [e2];exact hi i eW
     refine Dj.plain w ?_
     have Yg:x.length*1<=x.length*ty.size:=Nat.mul_le_mul_left _ eO
     have:(k.cells.drop oo).take (x.length*1)=((k.cells.drop oo).take (x.length*ty.size)).take (x.length*1):=by
      rw [List.take_take,Nat.min_eq_left Yg]
     rw [this] at hw;exact List.mem_of_mem_take hw
   | a_ b off n =>
    have r1:cm si (.a_ b off n) v:=r1
    obtain ⟨bE,r1⟩:=r1
    cases hm:si.μ b with
    | none =>
     rw [hm] at r1;obtain ⟨_,_,rfl⟩:=r1
     exact Ki e1 rfl rfl (by simp)
    | some m =>
     rw [hm] at r1;obtain ⟨g0,rfl⟩:=r1
     obtain ⟨B,b1,b2,b3⟩:=hn.same h hm
     obtain ⟨aB,Fj,bo⟩:=B
     have tq:∀ k:bx,ah si.H m.z=some k->(∀ w∈k.cells.drop m.sh,Qa w w=true)->jS (c_ P (.convert t u a) e sm.H) (c_ P (.convert t u a) e si.H)=true:=by
      intro k hk iO
      have de:ah sm.H m.z=some k:=by rw [b3];exact hk
      have heq:Qf sm.H 1 (.slice (some ⟨m.z,m.sh+off*m.es,none⟩) (n.getD (m.n - off)) m.es)=Qf si.H 1 (.slice (some ⟨m.z,m.sh+off*m.es,none⟩) (n.getD (m.n - off)) m.es):=by
       simp only [Qf,fN]
       split
       .rfl
       .simp only [Qx,hk,de]
      cases hl:Qf si.H 1 (.slice (some ⟨m.z,m.sh+off*m.es,none⟩) (n.getD (m.n - off)) m.es) with
      | none=>exact NZ (by simp [c_,e1,Q1,hl]) (by simp [c_,e1,Q1,heq,hl])
      | some l =>
       refine Ki e1 hl (by rw [heq];exact hl) (fun w hw=>?_)
       simp only [Qf,fN] at hl
       split at hl
       .simp at hl;subst hl;simp at hw
       .simp only [Qx,hk,Q1] at hl
        split at hl
        .simp at hl;subst hl
         have:=List.mem_of_mem_take hw
         rw [<- List.drop_drop] at this
         exact iO w (List.mem_of_mem_drop this)
        .simp at hl
     cases bo with
     | cells cs =>
      have hB:=hs.aJ b _ b1
      unfold BR at hB;simp only at hB
      obtain ⟨_,m',k,aE,dW,hk,cD,_⟩:=hB
      rw [hm] at aE;injection aE with aE;subst aE
      refine tq k hk (fun w hw=>?_)
      have:∀ {cs:List PV} {vs:List Value},cq si cs vs->∀ v∈vs,Qa v v=true:=by
       intro cs;induction cs with
       | nil=>intro vs h v hv;cases vs<;>simp_all [cq,Qw]
       | cons p cs ih=>intro vs h v hv;match vs,h with
        | w::vs,h=>rcases Z2 hv with rfl | hv;exact h.1.plain;exact ih h.2 v hv
      exact this cD w (List.mem_of_mem_drop hw)
     | mp es =>
      have hB:=hs.aJ b _ b1
      unfold BR at hB;simp only at hB
      obtain ⟨_,m',k,aE,_,hk,_,_,_,IL⟩:=hB
      rw [hm] at aE;injection aE with aE;subst aE
      refine tq k hk (fun w hw=>?_)
      rw [IL] at hw;simp at hw
     | arr t' xs =>
      obtain ⟨a1,a2,k,a3,a4,a5,_⟩:=mO hs b1 hm
      exact tq k a3 (AI hs b1 hm a3).2
     | rows t' xs ho =>
      obtain ⟨_,_,⟨fS,_⟩ | ⟨m',k,aE,a1,a2,a3,a4,_⟩⟩:=mS hs b1
      .rw [hm] at fS;simp at fS
      rw [hm] at aE;injection aE with aE;subst aE
      exact tq k a3 a4.2
   | _=>simp at h
 .simp at h
theorem rF.get:∀ {ss:List S} {tr:List (bA×LS)} {te:List (Env×af)},rF ss tr te->∀ (i:Nat) q,tr[i]? = some q->∃ s e,ss[i]? = some s/\te[i]? = some e/\s.L=q.2/\s.H=e.2/\aD s/\cG s q.1 e.1
 | s::ss,(env,L)::tr,(e,H)::te,h,0,q,hq=>by
  simp at hq;subst hq
  obtain ⟨h1,h2,h3,h4,_⟩:=h
  exact ⟨s,(e,H),rfl,rfl,h1,h2,h3,h4⟩
 | s::ss,(env,L)::tr,(e,H)::te,h,i+1,q,hq=>by
  obtain ⟨_,_,_,_,_,h6⟩:=h
  simp only [List.getElem?_cons_succ] at hq ⊢
  exact rF.get h6 i q hq
 | [],[],[],_,i,q,hq=>by simp at hq
theorem rF.len:∀ {ss:List S} {tr:List (bA×LS)} {te:List (Env×af)},rF ss tr te->tr.length=te.length/\ss.length=te.length
 | [],[],[],_=>⟨rfl,rfl⟩
 | _::_,(_,_)::_,(_,_)::_,h=>by
  obtain ⟨_,_,_,_,_,h6⟩:=h
  have:=rF.len h6;simp;exact this
theorem rF.N1:∀ {ss:List S} {tr:List (bA×LS)} {te:List (Env×af)},rF ss tr te->∀ (i j:Nat) s t,ss[i]? = some s->ss[j]? = some t->Ds s t
 | s::ss,(env,L)::tr,(e,H)::te,h,0,0,x,y,hx,hy=>by
  simp at hx hy;subst hx hy;exact .inl (aj.refl _)
 | s::ss,(env,L)::tr,(e,H)::te,h,0,j+1,x,y,hx,hy=>by
  simp at hx;subst hx
  simp only [List.getElem?_cons_succ] at hy
  obtain ⟨_,_,_,_,h5,_⟩:=h
  exact .inr (h5 y (Zc hy))
 | s::ss,(env,L)::tr,(e,H)::te,h,i+1,0,x,y,hx,hy=>by
  simp at hy;subst hy
  simp only [List.getElem?_cons_succ] at hx
  obtain ⟨_,_,_,_,h5,_⟩:=h
  exact .inl (h5 x (Zc hx))
 | s::ss,(env,L)::tr,(e,H)::te,h,i+1,j+1,x,y,hx,hy=>by
  obtain ⟨_,_,_,_,_,h6⟩:=h
  simp only [List.getElem?_cons_succ] at hx hy
  exact rF.N1 h6 i j x y hx hy
 | [],[],[],_,i,j,x,y,hx,_=>by simp at hx
theorem Qr2 {α:Type} (l:List α) (i:Nat) (x:α) (h:l.reverse[i]? = some x):l[l.length - 1 - i]? = some x/\i < l.length:=by
 have hi:i < l.length:=by
  have:=(Z0 h).1;simpa using this
 rw [List.getElem?_reverse hi] at h;exact ⟨h,hi⟩
section
variable {A:cL} {β γ:Type} {s:S} {env:bA} {e:Env} {X:nj A β} {XE:Cx} {r:β} {Q:γ->Prop}
theorem Yh {P:Program} {ops:Array Oper} {c0:Nat} {s0:S} {ss:List S} {tr:List (bA×LS)} {te:List (Env×af)} (ht:rF ss tr te) (h0:∀ t∈ss,aj s0 t) (hc:c0<=s0.L.cu) (hold:∀ z,s0.Old c0 z->z < s0.H.length/\¬ bI s0 z) {i:Nat} {o:Oper} {x:Option γ} :
  ∀ {ms:List Nat},Rh c0 P ops tr.reverse i o ms=true->HJ P ops te.reverse i o ms x=x
 | [],_=>rfl
 | m::ms,h=>by
  simp only [Rh,Z8] at h
  obtain ⟨h1,h2⟩:=h
  simp only [HJ]
  cases hq:JO P ops m i || JP P ops i o m with
  | true=>simp only;exact Yh ht h0 hc hold h2
  | false =>
   rw [hq] at h1
   simp only [Bool.false_or] at h1
   simp only
   have hlen:=ht.len
   cases hi:tr.reverse[i]? with
   | none=>rw [hi] at h1;simp at h1
   | some q =>
    cases hm:tr.reverse[m]? with
    | none=>rw [hi,hm] at h1;simp at h1
    | some q' =>
     rw [hi,hm] at h1
     simp only at h1
     obtain ⟨g1,g2⟩:=Qr2 _ _ _ hi
     obtain ⟨g3,g4⟩:=Qr2 _ _ _ hm
     obtain ⟨si,ei,a1,a2,a3,a4,a5,a6⟩:=ht.get _ _ g1
     obtain ⟨sm,em,b1,b2,b3,b4,b5,b6⟩:=ht.get _ _ g3
     have e1:te.reverse[i]? = some ei:=by rw [List.getElem?_reverse (by omega),<- hlen.1];exact a2
     have e2:te.reverse[m]? = some em:=by rw [List.getElem?_reverse (by omega),<- hlen.1];exact b2
     rw [e1,e2]
     simp only
     rw [<- a3,<- b3] at h1
     have:=Qxg a5 (h0 si (Zc a1)) (h0 sm (Zc b1)) hc hold (ht.N1 _ _ _ _ a1 b1) a6 h1
     rw [<- a4,<- b4,this]
     simp only [aa]
     exact Yh ht h0 hc hold h2
theorem Yi {P:Program} {ops:Array Oper} {c0:Nat} {s0:S} {ss:List S} {tr:List (bA×LS)} {te:List (Env×af)} (ht:rF ss tr te) (h0:∀ t∈ss,aj s0 t) (hc:c0<=s0.L.cu) (hold:∀ z,s0.Old c0 z->z < s0.H.length/\¬ bI s0 z) {x:Option γ} :
  ∀ {l:List Nat},Ri c0 P ops tr.reverse l=true->cv P ops te.reverse l x=x
 | [],_=>rfl
 | i::l,h=>by
  simp only [Ri,Z8] at h
  obtain ⟨h1,h2⟩:=h
  simp only [cv]
  split
  .rename_i o hb ho
   rw [hb,ho] at h1
   simp only at h1
   rw [Yh ht h0 hc hold h1]
   exact Yi ht h0 hc hold h2
  .exact Yi ht h0 hc hold h2
theorem aD.tick (hs:aD s):∃ s0,s0.L=⟨s.L.bl,s.L.cu+1⟩/\s0.H=s.H/\s0.μ=s.μ/\aj s s0/\aD s0/\(∀ z,s0.Old (s.L.cu+1) z->z < s0.H.length/\¬ bI s0 z):=by
 let s0:S:={ s with L:=⟨s.L.bl,s.L.cu+1⟩,Old:=fun c z=>if c=s.L.cu+1 then (z < s.H.length/\¬ bI s z) else s.Old c z }
 have hk:aj s s0:=by
  refine ⟨rfl,⟨Nat.le_succ _,fun c hc=>?_,fun c z h1 h2 h3 h4=>?_⟩,rfl,Zd _,fun _ _=>rfl,Zd _,fun _ _ _=>rfl,fun z h=>.inl h,fun b B' _ h=>⟨B',h,Zd _,fun _=>⟨rfl,fun _ _=>rfl,fun _ _ h=>⟨h,rfl⟩⟩⟩⟩
  .funext z;show (if c=s.L.cu+1 then _ else _)=_
   rw [if_neg (by omega)]
  .show (if c=s.L.cu+1 then _ else _)
   have h2':c<=s.L.cu+1:=h2
   rw [if_pos (by omega)];exact ⟨h3,h4.1⟩
 refine ⟨s0,rfl,rfl,rfl,hk,⟨fun b B hB=>?_,hs.inj,hs.dj,hs.dV,hs.lm,hs.iM,hs.kl,hs.ka⟩,fun z hz=>?_⟩
 .have iG:Qi s.L b=some B:=hB
  exact (hs.aJ b B iG).keep hk (Qo iG) (fun _ _=>rfl) (fun _ _ h=>⟨h,rfl⟩)
 .have aX:(if s.L.cu+1=s.L.cu+1 then (z < s.H.length/\¬ bI s z) else s.Old (s.L.cu+1) z):=hz
  rw [if_pos rfl] at aX;exact aX
theorem Qr3 {ops:Array Oper} {W:List Nat} {KV:bA->LS->Option β} {KE:Env->af->Option γ} (hX:CV X XE) (hW:∀ (j d:Nat),(ops[j]?).bind (fun (x:Oper)=>x.dst)=some d->d∈W) (hl:∀ o∈ops.toList,∀ d,o.dst=some d->d∈W) (aI:s.ai=XE.ai) (hs:aD s) (he:cG s env e) (hK:COk W env e s r KV KE Q) (h:Yj X ops env s.L KV=some r):∃ y,HK XE ops e s.H KE=some y/\Q y:=by
 unfold Yj at h;unfold HK
 rw [hX.P] at h
 split at h
 .rename_i hd
  rw [hd];simp only
  obtain ⟨s0,l0,g0,u0,k0,t0,hold⟩:=hs.tick
  rw [<- l0] at h;rw [<- g0]
  refine X_ hX hW env e s0 (ss:=[]) hl (k0.ai.trans aI) t0 (k0.env he) (fJ.refl _ _ _) (show rF [] [] [] from trivial) (by simp) (aj.refl s0) (by simp) (fun ak e' s' Ya E3 Yb k' t' gM dB ht hall h=>?_) h
  split at h
  .rename_i eR
   have hc:s.L.cu+1<=s0.L.cu:=by rw [l0];exact Zd _
   rw [Yi ht hall hc hold eR]
   exact hK ak e' s' (k0.trans k') t' gM dB h
  .simp at h
 .simp at h
end
theorem Qfy {env:bA}:∀ {l:List Nat} {s:S},aD s->∃ s',s'.L=Rj env l s.L/\s'.H=s.H/\s'.μ=s.μ/\aj s s'/\aD s':=by
 have fold:∀ {ps:List PV} {s:S},aD s->∃ s',s'.L=ps.foldl freeze s.L/\s'.H=s.H/\s'.μ=s.μ/\aj s s'/\aD s':=by
  intro ps
  induction ps with
  | nil=>intro s hs;exact ⟨s,rfl,rfl,rfl,aj.refl s,hs⟩
  | cons p ps ih =>
   intro s hs
   by_cases hp:∃ b off n,p=.a_ b off n
   .obtain ⟨b,off,n,rfl⟩:=hp
    obtain ⟨s1,a1,a2,a3,a4,a5,_⟩:=hs.vQ b
    obtain ⟨s2,b1,b2,b3,b4,b5⟩:=ih a5
    exact ⟨s2,by rw [b1,a1];rfl,b2.trans a2,b3.trans a3,a4.trans b4,b5⟩
   .obtain ⟨s2,b1,b2,b3,b4,b5⟩:=ih hs
    refine ⟨s2,?_,b2,b3,b4,b5⟩
    rw [b1];simp only [List.foldl_cons]
    have:freeze s.L p=s.L:=by unfold freeze;split;exact absurd ⟨_,_,_,rfl⟩ hp;rfl
    rw [this]
 intro l
 induction l with
 | nil=>intro s hs;exact ⟨s,rfl,rfl,rfl,aj.refl s,hs⟩
 | cons q l ih =>
  intro s hs
  simp only [Rj]
  cases dD env q with
  | none=>exact ih hs
  | some v =>
   obtain ⟨s1,a1,a2,a3,a4,a5⟩:=fold (ps:=mU v) hs
   obtain ⟨s2,b1,b2,b3,b4,b5⟩:=ih a5
   exact ⟨s2,by rw [b1,a1],b2.trans a2,b3.trans a3,a4.trans b4,b5⟩
def SR (s:S) (ai:Nat) (val:Nat->Value):List (Nat×Bool×Ty)->List TV->List (List Nat)->Prop
 | [],[],[]=>True
 | (q,o,_)::r,v::vs,ids::an=>HR s.N s.H ai (AG o) v (val q) ids/\(∀ z∈ids,s.aF z)/\SR s ai val r vs an
 | _,_,_=>False
theorem SR.keep {s s':S} {ai:Nat} {val:Nat->Value} (hN:∀ z,s.N z->z < s.H.length->s'.N z) (hH:s'.H=s.H) (hl:∀ z,s.aF z->s'.aF z):∀ {l:List (Nat×Bool×Ty)} {vs:List TV} {an:List (List Nat)},SR s ai val l vs an->SR s' ai val l vs an
 | [],[],[],_=>trivial
 | (q,o,t)::r,v::vs,ids::an,h=>⟨h.1.frame (fun z hz au=>⟨hN z hz au,by rw [hH]⟩) (fun z _=>by rw [hH]),fun z hz=>hl z (h.2.1 z hz),SR.keep hN hH hl h.2.2⟩
theorem SR.ai {s:S} {ai:Nat} {val:Nat->Value}:∀ {l:List (Nat×Bool×Ty)} {vs:List TV} {an:List (List Nat)},SR s ai val l vs an->∀ z∈an.flatten,s.aF z
 | [],[],[],_=>by simp
 | (q,o,t)::r,v::vs,ids::an,h=>by
  intro z hz
  rw [Ze,Zh] at hz
  rcases hz with hz | hz
  .exact h.2.1 z hz
  .exact SR.ai h.2.2 z hz
theorem Yk {env:bA} {e:Env} {val:Nat->Value} (hval:∀ q w,cU e q=some w->val q=w):∀ {l:List (Nat×Bool×Ty)} {s:S} {vs:List TV} {L':LS},aD s->cG s env e->Dt env l s.L=some (vs,L') ->
  ∃ s1 an,s1.L=L'/\s1.H=s.H/\s1.μ=s.μ/\aj s s1/\aD s1/\(∀ z,s.aF z->s1.aF z)/\SR s1 s.ai val l vs an/\an.flatten.Nodup/\(∀ z∈an.flatten,¬ s.aF z)
 | [],s,vs,L',hs,he,h=>by
  simp [Dt] at h;obtain ⟨rfl,rfl⟩:=h
  exact ⟨s,[],rfl,rfl,rfl,aj.refl s,hs,fun _ h=>h,trivial,by simp,by simp⟩
 | (q,o,t)::l,s,vs,L',hs,he,h=>by
  simp only [Dt] at h
  replace h:=ob h;obtain ⟨p,h1,h⟩:=h
  replace h:=ob h;obtain ⟨⟨x,L2⟩,h2,h⟩:=h
  replace h:=ob h;obtain ⟨⟨cy,L3⟩,h3,h⟩:=h
  simp at h;obtain ⟨rfl,rfl⟩:=h
  obtain ⟨w,e1,r1⟩:=he.get h1
  have hw:=hval q w e1
  simp only at h3
  cases o with
  | true =>
   obtain ⟨hx,s1,ids,l1,g1,u1,k1,t1,hh,hl,oP,hnd,ho⟩:=P3 hs r1 h2
   rw [<- l1] at h3
   obtain ⟨s2,an,a1,a2,a3,a4,a5,a6,a7,a8,a9⟩:=Yk hval t1 (k1.env he) h3
   have aI:s1.ai=s.ai:=k1.ai
   refine ⟨s2,ids::an,a1,a2.trans g1,a3.trans u1,k1.trans a4,a5,fun z hz=>a6 z ((hl z).2 (.inl hz)),⟨?_,fun z hz=>a6 z ((hl z).2 (.inr hz)),by rw [<- aI];exact a7⟩,?_,?_⟩
   .rw [hw];exact hh.frame (fun z hz au=>⟨a4.N au hz,by rw [a2]⟩) (fun z _=>by rw [a2])
   .rw [Ze,Zn]
    exact ⟨hnd,a8,fun a ha b hb e=>by subst e;exact a9 a hb ((hl a).2 (.inr ha))⟩
   .intro z hz
    rw [Ze,Zh] at hz
    rcases hz with hz | hz
    .exact oP z hz
    .exact fun h=>a9 z hz ((hl z).2 (.inl h))
  | false =>
   simp only [vG] at h2
   split at h2
   .rename_i dm
    simp only [Z8] at dm
    replace h2:=ob h2;obtain ⟨⟨y,L4⟩,h4,h2⟩:=h2
    simp at h2;obtain ⟨rfl,rfl⟩:=h2
    obtain ⟨s1,ids,l1,g1,u1,k1,t1,nq,hl,oP,hnd,o1⟩:=H_ t hs (r1.cells dm.1) h4
    rw [<- l1] at h3
    obtain ⟨s2,an,a1,a2,a3,a4,a5,a6,a7,a8,a9⟩:=Yk hval t1 (k1.env he) h3
    have aI:s1.ai=s.ai:=k1.ai
    refine ⟨s2,ids::an,a1,a2.trans g1,a3.trans u1,k1.trans a4,a5,fun z hz=>a6 z ((hl z).2 (.inl hz)),⟨⟨_,by rw [hw];exact WB r1 dm.1 dm.2,dA.frame (fun z hz au=>⟨a4.N au hz,by rw [a2]⟩) t nq (fun z _=>by rw [a2])⟩,fun z hz=>a6 z ((hl z).2 (.inr hz)),by rw [<- aI];exact a7⟩,?_,?_⟩
    .rw [Ze,Zn]
     exact ⟨hnd,a8,fun a ha b hb e=>by subst e;exact a9 a hb ((hl a).2 (.inr ha))⟩
    .intro z hz
     rw [Ze,Zh] at hz
     rcases hz with hz | hz
     .exact oP z hz
     .exact fun h=>a9 z hz ((hl z).2 (.inl h))
   .simp at h2
def ABr (s:S) (ai b:Nat) (v:TV):Prop:=∃ (t:Ty) (x:List (List t.T)),v=⟨.sl (.os t),x⟩/\t.flat=true/\match s.μ b with
 | none=>x=[]
 | some m=>m.es=1/\m.n=x.length/\∃ k,ah s.H m.z=some k/\Fit m.sh x.length k.cells/\k.ro=false/\ai<=m.z/\∀ i (hi:i < x.length),∃ v,k.cells[m.sh+i]? = some v/\iF (fun z=>s.br z=some (b,i)) s.H ai t x[i] v
def ABa (s:S) (ai b:Nat) (v:TV):Prop:=∃ u x,v=⟨.sl u,x⟩/\u.iL=false/\match s.μ b with
 | none=>x=[]
 | some m=>m.es=u.size/\m.n=x.length/\∃ k,ah s.H m.z=some k/\Fit m.sh (x.length*u.size) k.cells/\(∀ i (h:i < x.length),ax s.N s.H u x[i] ((k.cells.drop (m.sh+i*u.size)).take u.size))/\k.ro=false/\ai<=m.z
def ABm (s:S) (ai b:Nat) (v:TV):Prop:=∃ (es:List (Int×Int)) (m:MB) (k:bx),v=⟨.sl Fk,([[es]]:List (List (List (Int×Int))))⟩/\s.μ b=some m/\m.sh=0/\ah s.H m.z=some k/\k.mp=some es/\k.ro=false/\ai<=m.z/\k.cells=[]
def AB (s:S) (ai b:Nat) (v:TV):Prop:=(ABa s ai b v\/ABr s ai b v)\/ABm s ai b v
theorem Qr4 {s:S} (hs:aD s) {t:Ty} {b:Nat} {x:TV} (h2:Rk t b s.L=some x):AB s s.ai b x:=by
 unfold Rk at h2
 split at h2
 .rename_i aB es hb
  replace h2:=ob h2;obtain ⟨y,h4,h2⟩:=h2
  simp at h2;subst h2
  have e0:=Qq h4
  injection e0 with e0;subst e0
  have:=Qg h4;subst this
  right
  have hB:=hs.aJ b _ hb
  unfold BR at hB;simp only at hB
  obtain ⟨_,m,k,g1,g2,g3,g4,g5,g6,g7⟩:=hB
  exact ⟨es,m,k,rfl,g1,g2,g3,g4,g5,g6,g7⟩
 .rename_i aB t' xs hb
  replace h2:=ob h2;obtain ⟨y,h4,h2⟩:=h2
  simp at h2;subst h2
  have e0:=Qq h4
  injection e0 with e0;subst e0
  have:=Qg h4;subst this
  refine .inl (.inr ?_)
  obtain ⟨_,cH,cx⟩:=mS hs hb
  refine ⟨t',xs,rfl,cH,?_⟩
  rcases cx with ⟨hm,hx⟩ | ⟨m,k,hm,a1,a2,a3,a4,a5,a6,a7⟩
  .rw [hm];exact hx
  .rw [hm];exact ⟨a1,a2,k,a3,a4,a5,a6,fun i hi=>a7 i hi (by simp)⟩
 .unfold JZ at h2
  split at h2
  .rename_i aB u xs hb
   split at h2
   .simp at h2
   rename_i eJ
   refine .inl (.inl ?_)
   replace h2:=ob h2;obtain ⟨y,h4,h2⟩:=h2
   simp at h2;subst h2
   have e0:=Qq h4
   injection e0 with e0;subst e0
   have:=Qg h4;subst this
   refine ⟨u,xs,rfl,eJ,?_⟩
   cases hm:s.μ b with
   | none=>exact EX hs hb hm
   | some m =>
    obtain ⟨a1,a2,k,a3,a4,a5,a6,a7⟩:=mO hs hb hm
    exact ⟨a1,a2,k,a3,AI hs hb hm a3,a5,(a6 rfl).1,(a6 rfl).2⟩
  .simp at h2
def qY (s:S) (ai:Nat):List Nat->Nat->List TV->List (List Nat)->Prop
 | [],_,[],[]=>True
 | b::r,n,v::vs,j::js=>match n with
  | 0=>(j=[]/\AB s ai b v)/\qY s ai r 0 vs js
  | m+1=>CB s ai b v j/\qY s ai r m vs js
 | _,_,_,_=>False
theorem qY.ai {s:S} {ai:Nat}:∀ {ids:List Nat} {n:Nat} {vs:List TV} {js:List (List Nat)},qY s ai ids n vs js->∀ z∈js.flatten,s.aF z
 | [],_,[],[],_=>by simp
 | b::r,n,v::vs,j::js,h=>by
  intro z hz
  rw [Ze,Zh] at hz
  cases n with
  | zero =>
   obtain ⟨⟨rfl,_⟩,h2⟩:=h
   rcases hz with hz | hz
   .simp at hz
   .exact qY.ai h2 z hz
  | succ n =>
   rcases hz with hz | hz
   .exact h.1.2 z hz
   .exact qY.ai h.2 z hz
theorem Qdy {env:bA} {e:Env}:∀ {l:List (Nat×Ty)} {s:S} {vs:List TV} {ids:List Nat} {L':LS},aD s->cG s env e->N3 env l s.L=some (vs,ids,L') ->
  ∃ s1 js,s1.L=L'/\s1.H=s.H/\s1.μ=s.μ/\aj s s1/\aD s1/\(∀ z,s.aF z->s1.aF z)/\js.flatten.Nodup/\(∀ z∈js.flatten,¬ s.aF z)/\∀ BN Du Kk,qY s1 s.ai Du 0 BN Kk->qY s1 s.ai (ids++Du) l.length (vs++BN) (js++Kk)
 | [],s,vs,ids,L',hs,he,h=>by
  simp [N3] at h;obtain ⟨rfl,rfl,rfl⟩:=h
  exact ⟨s,[],rfl,rfl,rfl,aj.refl s,hs,fun _ h=>h,by simp,by simp,fun _ _ _ h=>h⟩
 | (q,t)::l,s,vs,ids,L',hs,he,h=>by
  simp only [N3] at h
  replace h:=ob h;obtain ⟨p,h1,h⟩:=h
  split at h
  .rename_i b
   replace h:=ob h;obtain ⟨⟨x,L2⟩,h2,h⟩:=h
   replace h:=ob h;obtain ⟨⟨cy,MN,L3⟩,h3,h⟩:=h
   simp at h;obtain ⟨rfl,rfl,rfl⟩:=h
   unfold J0 at h2
   split at h2
   .rename_i aB cs hb
    replace h2:=ob h2;obtain ⟨⟨y,L4⟩,h4,h2⟩:=h2
    simp at h2;obtain ⟨rfl,rfl⟩:=h2
    have hB:=hs.aJ b _ hb
    unfold BR at hB;simp only at hB
    obtain ⟨_,m,k,hm,dW,hk,cD,bn,kj⟩:=hB
    obtain ⟨s1,j,l1,g1,u1,k1,t1,nq,nr,MY,CW,o1⟩:=H_ t hs cD h4
    simp only at h3
    rw [<- l1] at h3
    obtain ⟨s2,js,a1,a2,a3,a4,a5,a6,a7,a8,a9⟩:=Qdy t1 (k1.env he) h3
    have aI:s1.ai=s.ai:=k1.ai
    have gp:b < s1.L.bl.length:=Zm (Qo hb) k1.nb
    have XX:CB s1 s.ai b ⟨t,y⟩ j:=⟨⟨m,k,by rw [u1];exact hm,dW,by rw [g1];exact hk,bn,kj,by rw [g1] at nq ⊢;exact nq⟩,fun z hz=>(nr z).2 (.inr hz)⟩
    refine ⟨s2,j::js,a1,a2.trans g1,a3.trans u1,k1.trans a4,a5,fun z hz=>a6 z ((nr z).2 (.inl hz)),?_,fun z hz=>?_,fun BN Du Kk h2=>?_⟩
    .rw [Ze,Zn]
     exact ⟨CW,a7,fun p hp q hq e=>by subst e;exact a8 p hq ((nr p).2 (.inr hp))⟩
    .rw [Ze,Zh] at hz
     rcases hz with hz | hz
     .exact MY z hz
     .exact fun h=>a8 z hz ((nr z).2 (.inl h))
    .exact ⟨XX.keep a4 gp a2 a6,by rw [<- aI];exact a9 BN Du Kk (by rw [aI];exact h2)⟩
   .simp at h2
  .simp at h
theorem Qdz {env:bA} {e:Env} {s:S} (hs:aD s) (he:cG s env e):∀ {l:List (Nat×Ty)} {vs:List TV} {ids:List Nat},Kl env l s.L=some (vs,ids)->∃ js,js.flatten=[]/\qY s s.ai ids 0 vs js
 | [],vs,ids,h=>by simp [Kl] at h;obtain ⟨rfl,rfl⟩:=h;exact ⟨[],rfl,trivial⟩
 | (q,t)::l,vs,ids,h=>by
  have next:∀ {b:Nat},(Q1 (Rk t b s.L) fun x=>Q1 (Kl env l s.L) fun y=>some (x::y.1,b::y.2))=some (vs,ids)->∃ js,js.flatten=[]/\qY s s.ai ids 0 vs js:=by
   intro b h
   replace h:=ob h;obtain ⟨x,h2,h⟩:=h
   replace h:=ob h;obtain ⟨⟨cy,MN⟩,h3,h⟩:=h
   simp at h;obtain ⟨rfl,rfl⟩:=h
   obtain ⟨js,j1,j2⟩:=Qdz hs he h3
   exact ⟨[]::js,by simpa using j1,⟨rfl,Qr4 hs h2⟩,j2⟩
  simp only [Kl] at h
  replace h:=ob h;obtain ⟨b,_,h⟩:=h
  exact next h
theorem Qe0 {a:gG} {env:bA} {e:Env} {val:Nat->Value} (hval:∀ q w,cU e q=some w->val q=w) {s:S} {vs:List TV} {ids:List Nat} {L':LS} (hs:aD s) (he:cG s env e) (h:MK a env s.L=some (vs,ids,L')) :
  ∃ s1 v1 v2 an js,vs=v1++v2/\v1.length=a.bH.length/\s1.L=L'/\s1.H=s.H/\aj s s1/\aD s1/\SR s1 s.ai val a.bH v1 an/\(an.flatten++js.flatten).Nodup/\qY s1 s.ai ids a.ET.length v2 js/\MH L' ids=true:=by
 unfold MK at h
 replace h:=ob h;obtain ⟨⟨v1,L1⟩,h1,h⟩:=h
 replace h:=ob h;obtain ⟨⟨v2,i2,L2⟩,h2,h⟩:=h
 replace h:=ob h;obtain ⟨⟨v3,i3⟩,h3,h⟩:=h
 simp only at h2 h3 h
 split at h
 .rename_i C7
  simp at h;obtain ⟨rfl,rfl,rfl⟩:=h
  obtain ⟨s1,an,a1,a2,a3,a4,a5,a6,a7,a8,a9⟩:=Yk hval hs he h1
  rw [<- a1] at h2
  obtain ⟨s2,js,b1,b2,b3,b4,b5,b6,b7,b8,b9⟩:=Qdy a5 (a4.env he) h2
  rw [<- b1] at h3
  obtain ⟨Kk,j1,j2⟩:=Qdz b5 ((a4.trans b4).env he) h3
  have sV:s1.ai=s.ai:=a4.ai
  have kR:s2.ai=s1.ai:=b4.ai
  have hlen:v1.length=a.bH.length:=by
   have:∀ {l:List (Nat×Bool×Ty)} {L L':LS} {vs:List TV},Dt env l L=some (vs,L')->vs.length=l.length:=by
    intro l
    induction l with
    | nil=>intro L L' vs h;simp [Dt] at h;obtain ⟨rfl,_⟩:=h;rfl
    | cons q l ih =>
     intro L L' vs h
     obtain ⟨q,o,t⟩:=q
     simp only [Dt] at h
     replace h:=ob h;obtain ⟨p,_,h⟩:=h
     replace h:=ob h;obtain ⟨x,_,h⟩:=h
     replace h:=ob h;obtain ⟨y,hy,h⟩:=h
     simp at h;obtain ⟨rfl,_⟩:=h;simp [ih (show Dt env l x.2=some (y.1,y.2) from hy)]
   exact this h1
  refine ⟨s2,v1,v2++v3,an,js++Kk,rfl,hlen,b1,b2.trans a2,a4.trans b4,b5,a7.keep (fun z hz au=>b4.N au hz) b2 b6,?_,?_,?_⟩
  .rw [List.flatten_append,j1,List.append_nil,Zn]
   exact ⟨a8,b7,fun p hp q hq e=>by subst e;exact b8 p hq (a7.ai p hp)⟩
  .rw [<- sV]
   exact b9 _ _ _ (by rw [<- kR];exact j2)
  .exact C7
 .simp at h
theorem Qc8:∀ {l:List Nat},Rl l=true->l.Nodup
 | [],_=>List.nodup_nil
 | x::r,h=>by
  simp only [Rl,Z8,Bool.not_eq_true'] at h
  exact List.nodup_cons.2 ⟨CY h.1,Qc8 h.2⟩
theorem Qe1:∀ {a b:List Nat},HW a b=true->a=b
 | [],[],_=>rfl
 | x::r,y::s,h=>by
  simp only [HW,Z8] at h
  rw [Z7 h.1,Qe1 h.2]
 | [],_::_,h=>by simp [HW] at h
 | _::_,[],h=>by simp [HW] at h
theorem Wu {ids:List Nat}:∀ {l m:List (Option VB)} {n:Nat},BJ ids n l m=true->∀ b B,l[b]? = some (some B)->n+b∉ids->∃ B',m[b]? = some (some B')/\B.aB=B'.aB
 | [],_,_,_,b,B,hb,_=>by simp at hb
 | none::l,y::m,n,h,b,B,hb,hn=>by
  simp only [BJ] at h
  cases b with
  | zero=>simp at hb
  | succ b =>
   simp only [List.getElem?_cons_succ] at hb ⊢
   exact Wu h b B hb (by rw [show n+1+b=n+(b+1) by omega];exact hn)
 | some x::l,some y::m,n,h,b,B,hb,hn=>by
  simp only [BJ,Z8,Bool.or_eq_true] at h
  cases b with
  | zero =>
   simp at hb;subst hb
   rcases h.1 with h1 | h1
   .exact absurd (List.contains_iff_mem.1 h1) (by simpa using hn)
   .exact ⟨y,rfl,Z7 h1⟩
  | succ b =>
   simp only [List.getElem?_cons_succ] at hb ⊢
   exact Wu h.2 b B hb (by rw [show n+1+b=n+(b+1) by omega];exact hn)
 | none::_,[],_,h,_,_,_,_=>by simp [BJ] at h
 | some _::_,[],_,h,_,_,_,_=>by simp [BJ] at h
 | some _::_,none::_,_,h,_,_,_,_=>by simp [BJ] at h
theorem Qr5 {L:LS} {b:Nat} {B:VB}:Qi L b=some B↔L.bl[b]? = some (some B):=by
 unfold Qi
 constructor
 .intro h;split at h
  .rename_i k hk;injection h with h;rw [hk,h]
  .simp at h
 .intro h;rw [h]
theorem Qiu {b:Nat} {v:TV} {L L':LS} (h:IM b v L=some L'):(∃ n u xs x,Qi L b=some ⟨n,true,.arr u xs⟩/\v=⟨.sl u,x⟩/\L'=cW L b ⟨n+1,true,.arr u x⟩/\u≠Fk) \/
  (∃ n t xs x,Qi L b=some ⟨n,true,.rows t xs none⟩/\v=⟨.sl (.os t),x⟩/\L'=cW L b ⟨n+1,true,.rows t x none⟩/\Ty.os t≠Fk) \/
  ∃ n Yl x,Qi L b=some ⟨n,true,.mp Yl⟩/\v=⟨.sl Fk,x⟩/\L'=cW L b ⟨n+1,true,.mp (CC x)⟩:=by
 unfold IM at h
 split at h
 .rename_i x
  split at h
  .rename_i n Yl hb
   simp at h;exact .inr (.inr ⟨n,Yl,x,hb,rfl,h.symm⟩)
  .simp at h
 .rename_i aU
  split at h
  .rename_i n u xs t x hb
   split at h
   .rename_i he
    have:=Ty.beq_eq he;subst this
    simp at h;exact .inr (.inl ⟨n,u,xs,x,hb,rfl,h.symm,fun e=>by unfold Fk at e;injection e with e;subst e;exact aU x rfl⟩)
   .simp at h
  .obtain ⟨n,u,xs,x,g1,g2,g3⟩:=XP h
   exact .inl ⟨n,u,xs,x,g1,g2,g3,fun e=>by subst e;exact aU x g2⟩
theorem Km:∀ {ids:List Nat} {n:Nat} {vs:List TV} {L L':LS},sP ids n vs L=some L'->ids.Nodup ->
  L'.bl.length=L.bl.length/\L'.cu=L.cu/\(∀ c,c∉ids->Qi L' c=Qi L c)/\(∀ c∈ids,∃ B B',Dm L L' c B B')
 | [],n,[],L,L',h,_=>by simp [sP] at h;subst h;simp
 | b::ids,n,v::vs,L,L',h,hn=>by
  obtain ⟨gh,gR⟩:=List.nodup_cons.1 hn
  have key:∀ {L1:LS} {m:Nat} {B B':VB},Qi L b=some B->B.rw=true->B'.rw=true->B'.aB=B.aB+1->L1=cW L b B'->sP ids m vs L1=some L'->L'.bl.length=L.bl.length/\L'.cu=L.cu/\(∀ c,c∉b::ids->Qi L' c=Qi L c)/\(∀ c∈b::ids,∃ B B',Dm L L' c B B'):=by
   clear h
   intro L1 m B B' g1 g2 g3 g4 e h
   subst e
   have bE:=Qo g1
   obtain ⟨a1,a2,a3,a4⟩:=Km h gR
   refine ⟨by rw [a1,oR],a2,fun c hc=>?_,fun c hc=>?_⟩
   .simp only [List.mem_cons,not_or] at hc
    rw [a3 c hc.2,wM (Ne.symm hc.1)]
   .rcases Z2 hc with rfl | hc
    .exact ⟨_,_,g1,g2,by rw [a3 c gh,Qr bE],g3,g4⟩
    .obtain ⟨B1,B2,b1,b2,b3⟩:=a4 c hc
     have aU:b≠c:=fun e=>gh (e▸hc)
     rw [wM aU] at b1
     exact ⟨B1,B2,b1,b2,b3⟩
  simp only [sP] at h
  cases n with
  | zero =>
   simp only at h
   replace h:=ob h;obtain ⟨L1,h1,h⟩:=h
   rcases Qiu h1 with ⟨n',u,xs,x,g1,g2,g3,_⟩ | ⟨n',u,xs,x,g1,g2,g3,_⟩ | ⟨n',e0,es,g1,g2,g3⟩
   .exact key g1 rfl rfl rfl g3 h
   .exact key g1 rfl rfl rfl g3 h
   .exact key g1 rfl rfl rfl g3 h
  | succ m =>
   simp only at h
   replace h:=ob h;obtain ⟨L1,h1,h⟩:=h
   obtain ⟨n',cs,g1,g2,g3⟩:=QW h1
   exact key g1 rfl rfl rfl g3 h
 | [],_,_::_,_,_,h,_=>by simp [sP] at h
 | _::_,_,[],_,_,h,_=>by simp [sP] at h
theorem N4 {T:S} {ai:Nat}:∀ {ids:List Nat} {n:Nat} {vs:List TV} {js:List (List Nat)} {L L':LS},sP ids n vs L=some L'->ids.Nodup->qY T ai ids n vs js->∀ c∈ids,∃ B',Qi L' c=some B' /\
  (∀ sA:S,sA.μ c=T.μ c->sA.H=T.H->sA.L.cu=L.cu->sA.ai=ai->(∀ z i,T.br z=some (c,i)->sA.br z=some (c,i))->(∀ z,T.N z->sA.N z)->BR sA c B')
 | b::ids,n,v::vs,j::js,L,L',h,hn,hd,c,hc=>by
  obtain ⟨gh,gR⟩:=List.nodup_cons.1 hn
  simp only [sP] at h
  cases n with
  | zero =>
   simp only at h
   replace h:=ob h;obtain ⟨L1,h1,h⟩:=h
   rcases Qiu h1 with ⟨n',u,xs,x,g1,rfl,rfl,Ey⟩ | ⟨n',u,xs,x,g1,rfl,rfl,Ey⟩ | ⟨n',e0,x,g1,rfl,rfl⟩
   .have bE:=Qo g1
    obtain ⟨a1,a2,a3,a4⟩:=Km h gR
    rcases Z2 hc with rfl | hc
    .refine ⟨_,by rw [a3 c gh,Qr bE],fun sA f1 f2 f3 f4 _ f5=>?_⟩
     unfold BR;simp only
     rw [f1]
     rcases hd.1.2 with (⟨u',x',e1,_,hh⟩ | ⟨t',x',e1,cH,hh⟩) | FH
     .injection e1 with e1 e2
      injection e1 with e1;subst e1
      simp only [heq_eq_eq] at e2;subst e2
      cases hm:T.μ c with
      | none=>rw [hm] at hh;exact hh
      | some m =>
       rw [hm] at hh
       obtain ⟨q1,q2,k,q3,q4,q5,q6,q7⟩:=hh
       exact ⟨q1,q2,k,by rw [f2];exact q3,q4,fun i hi=>by rw [f2];exact ax.mono f5 _ (q5 i hi),fun _=>⟨q6,by rw [f4];exact q7⟩,fun e=>absurd e (by decide)⟩
     .injection e1 with e1 e2
      injection e1 with e1;subst e1
      simp only [heq_eq_eq] at e2;subst e2
      cases hm:T.μ c with
      | none=>rw [hm] at hh;exact hh
      | some m =>
       rw [hm] at hh
       obtain ⟨q1,q2,k,q3,q4,q5,q6,q7⟩:=hh
       refine ⟨q1,q2,k,by rw [f2];exact q3,by rw [show (Ty.os t').size=1 from rfl,Nat.mul_one];exact q4,fun i hi=>?_,fun _=>⟨q5,by rw [f4];exact q6⟩,fun e=>absurd e (by decide)⟩
       obtain ⟨v,p1,p2⟩:=q7 i hi
       refine ⟨v,?_,?_⟩
       .rw [show (Ty.os t').size=1 from rfl,Nat.mul_one]
        obtain ⟨hl,he⟩:=Z0 p1
        rw [List.drop_eq_getElem_cons hl,List.take_succ_cons,List.take_zero,he]
       .rcases p2 with ⟨_,rfl⟩ | ⟨_,_,_,rfl,_⟩<;>simp [az,Qa]
     .obtain ⟨es,m,k,e1,_⟩:=FH
      injection e1 with e1 _
      injection e1 with e1
      exact absurd e1 Ey
    .exact N4 h gR hd.2 c hc
   .have bE:=Qo g1
    obtain ⟨a1,a2,a3,a4⟩:=Km h gR
    rcases Z2 hc with rfl | hc
    .refine ⟨_,by rw [a3 c gh,Qr bE],fun sA f1 f2 f3 f4 f6 f5=>?_⟩
     unfold BR;simp only
     rw [f1]
     rcases hd.1.2 with (⟨u',x',e1,eJ,hh⟩ | ⟨t',x',e1,cH,hh⟩) | FH
     .injection e1 with e1 e2
      injection e1 with e1;subst e1
      simp [Ty.iL] at eJ
     .injection e1 with e1 e2
      injection e1 with e1;injection e1 with e1;subst e1
      simp only [heq_eq_eq] at e2;subst e2
      refine ⟨trivial,cH,?_⟩
      cases hm:T.μ c with
      | none=>rw [hm] at hh;exact hh
      | some m =>
       rw [hm] at hh
       obtain ⟨q1,q2,k,q3,q4,q5,q6,q7⟩:=hh
       refine ⟨q1,q2,k,by rw [f2];exact q3,q4,q5,by rw [f4];exact q6,fun i hi _=>?_⟩
       obtain ⟨v,p1,p2⟩:=q7 i hi
       exact ⟨v,p1,by rw [f2,f4];exact p2.mono cH (fun z hz=>⟨f6 z i hz,rfl⟩)⟩
     .obtain ⟨es,m,k,e1,_⟩:=FH
      injection e1 with e1 _
      injection e1 with e1
      exact absurd e1 Ey
    .exact N4 h gR hd.2 c hc
   .have bE:=Qo g1
    obtain ⟨a1,a2,a3,a4⟩:=Km h gR
    rcases Z2 hc with rfl | hc
    .refine ⟨_,by rw [a3 c gh,Qr bE],fun sA f1 f2 f3 f4 f6 f5=>?_⟩
     unfold BR;simp only
     rw [f1]
     rcases hd.1.2 with (⟨u',x',e1,eJ,hh⟩ | ⟨t',x',e1,cH,hh⟩) | ⟨es,m,k,e1,q1,q2,q3,q4,q5,q6,q7⟩
     .injection e1 with e1 e2
      injection e1 with e1;subst e1
      simp [Ty.iL,Fk] at eJ
     .injection e1 with e1 e2
      injection e1 with e1;unfold Fk at e1;injection e1 with e1;subst e1
      simp [Ty.flat] at cH
     .injection e1 with _ e2
      subst e2
      exact ⟨trivial,m,k,q1,q2,by rw [f2];exact q3,q4,q5,by rw [f4];exact q6,q7⟩
    .exact N4 h gR hd.2 c hc
  | succ m =>
   simp only at h
   replace h:=ob h;obtain ⟨L1,h1,h⟩:=h
   obtain ⟨n',cs,g1,g2,rfl⟩:=QW h1
   have bE:=Qo g1
   obtain ⟨a1,a2,a3,a4⟩:=Km h gR
   rcases Z2 hc with rfl | hc
   .refine ⟨_,by rw [a3 c gh,Qr bE],fun sA f1 f2 f3 f4 _ f5=>?_⟩
    obtain ⟨m,k,q1,q2,q3,q4,q5,q6⟩:=hd.1.1
    unfold BR;simp only
    refine ⟨trivial,m,k,by rw [f1];exact q1,q2,by rw [f2];exact q3,?_,q4,by rw [f4];exact q5⟩
    rw [<- f3]
    refine AF _ ?_
    rw [f2]
    exact ax.mono (fun z hz=>S.gm (f5 z hz)) _ q6.rep
   .exact N4 h gR hd.2 c hc
 | [],_,_,_,_,_,_,_,_,c,hc=>by simp at hc
 | _::_,_,[],_,_,_,h,_,_,_,_=>by simp [sP] at h
 | _::_,_,_::_,[],_,_,_,_,hd,_,_=>hd.elim
theorem Wp {s1 T:S} (hs:aD s1) (hT:aD T) (hk:aj s1 T) {ids:List Nat} (hn:ids.Nodup) (dF:∀ b B,b∉ids->Qi s1.L b=some B->Qi T.L b=some B) (cO:∀ b∈ids,∃ B,Qi T.L b=some B/\B.rw=true)
  {ai n:Nat} (aI:s1.ai=ai) {vs:List TV} {js:List (List Nat)} (hd:qY T ai ids n vs js) {L1:LS} (h:sP ids n vs s1.L=some L1) {bq:List Nat} (hr:∀ z∈bq,T.aF z) :
  ∃ sB,sB.L=L1/\sB.H=T.H/\aj s1 sB/\aD sB/\(∀ z∈bq,sB.aF z)/\∀ z,T.N z->sB.N z:=by
 obtain ⟨f1,f2,f3,f4⟩:=Km h hn
 have au:∀ b∈ids,b < s1.L.bl.length:=fun b hb=>by obtain ⟨B,B',b1,_⟩:=f4 b hb;exact Qo b1
 have C7:∀ b B,b∉ids->Qi s1.L b=some B->(∀ m,s1.μ b=some m->ah T.H m.z=ah s1.H m.z)/\∀ z i,s1.br z=some (b,i)->T.br z=some (b,i)/\ah T.H z=ah s1.H z:=by
  intro b B hb hB
  obtain ⟨B0,b1,b2,b3⟩:=hk.live b B (Qo hB) (dF b B hb hB)
  rw [hB] at b1;injection b1 with b1;subst b1
  exact (b3 rfl).2
 have hz:∀ b B m,b∉ids->Qi s1.L b=some B->s1.μ b=some m->ah T.H m.z=ah s1.H m.z:=fun b B m hb hB hm=>(C7 b B hb hB).1 m hm
 let Kn:Nat->Option (Nat×Nat):=fun z=>match T.br z with | some p=>if p.1 < s1.L.bl.length then some p else none | none=>none
 have kn1:∀ z p,Kn z=some p->T.br z=some p/\p.1 < s1.L.bl.length:=by
  intro z p hp
  simp only [Kn] at hp
  split at hp
  .rename_i q hq
   split at hp
   .injection hp with hp;subst hp;rename_i h;exact ⟨hq,h⟩
   .simp at hp
  .simp at hp
 have kn2:∀ z p,T.br z=some p->p.1 < s1.L.bl.length->Kn z=some p:=by
  intro z p hp hl;simp only [Kn];rw [hp];simp [hl]
 obtain ⟨sA,e1,e2,e3,k3,t3,NR,n3⟩:=Qdw (Kn:=Kn) (N:=T.N) (aQ:=ids) (H':=T.H)
  (ids:=fun z=>bI s1 z/\(¬ ∃ b B m,b∉ids/\Qi s1.L b=some B/\s1.μ b=some m/\m.z=z)/\¬ ∃ b i B,b∉ids/\Qi s1.L b=some B/\s1.br z=some (b,i))
  (bq:=fun z=>z∈bq) (aO:=fun z=>∃ b m,b∈ids/\s1.μ b=some m/\m.z=z) hs f1 f2 f3 f4
  (fun c hc=>by
   obtain ⟨B',b1,b2⟩:=N4 h hn hd c hc
   refine ⟨B',b1,fun sA q1 q2 q3 q4 q6 q5=>b2 sA (by rw [q1,hk.mu c (au c hc)]) q2 q3 (by rw [q4,aI]) (fun z i hz=>by rw [q6];exact kn2 z _ hz (au c hc)) q5,fun m hm=>⟨c,m,hc,hm,rfl⟩⟩)
  (fun z aX=>by
   rcases aX.1 with ⟨b,B,m,h1,h2,h3,h4⟩ | h1 | ⟨p,hp⟩
   .by_cases hb:b∈ids
    .exact .inr (.inl ⟨b,B,m,hb,h1,h2,h3,h4⟩)
    .exact absurd ⟨b,B,m,hb,h1,h3,h4⟩ aX.2.1
   .exact .inl h1
   .refine .inr (.inr ⟨p,hp,fun B hB=>?_⟩)
    by_cases hb:p.1∈ids
    .exact hb
    .exact absurd ⟨p.1,p.2,B,hb,hB,hp⟩ aX.2.2)
  (fun z p hp=>by
   obtain ⟨hp,hl⟩:=kn1 z p hp
   obtain ⟨QZ,k2',XW,NS⟩:=hT.kl z p hp
   refine ⟨hl,QZ,hT.ka z p hp,fun dI=>XW (hr z dI),fun hh=>?_,fun c C m g1 g2=>?_,?_⟩
   .refine hh.2 ⟨.inr (.inl hh.1),?_,?_⟩
    .rintro ⟨b,B,m,p1,p2,p3,rfl⟩
     exact hs.lm b B m p2 p3 hh.1
    .rintro ⟨b,i,B,p1,p2,p3⟩
     exact (hs.kl z _ p3).2.2.1 hh.1
   .by_cases hc:c∈ids
    .obtain ⟨B,p1,_⟩:=cO c hc
     exact NS c B m p1 (by rw [hk.mu c (au c hc)];exact g2)
    .rw [f3 c hc] at g1
     exact NS c C m (dF c C hc g1) (by rw [hk.mu c (Qo g1)];exact g2)
   .exact hk.own z (.inr (.inr ⟨p,hp⟩)))
  (fun z b i B hb hB hp=>kn2 z _ ((C7 b B hb hB).2 z i hp).1 (Qo hB))
  hk.len
  (fun z Nr WK=>by
   by_cases ho:bI s1 z
   .by_cases hq:∃ b B m,b∉ids/\Qi s1.L b=some B/\s1.μ b=some m/\m.z=z
    .obtain ⟨b,B,m,q1,q2,q3,rfl⟩:=hq
     exact hz b B m q1 q2 q3
    .have:∃ b i B,b∉ids/\Qi s1.L b=some B/\s1.br z=some (b,i):=Classical.byContradiction (fun hc=>WK ⟨ho,hq,hc⟩)
     obtain ⟨b,i,B,q1,q2,q3⟩:=this
     exact ((C7 b B q1 q2).2 z i q3).2
   .exact hk.fr z Nr ho)
  (fun z aX ho=>by
   obtain ⟨b,m,q1,q2,rfl⟩:=ho
   obtain ⟨B,q3,_⟩:=cO b q1
   exact hT.lm b B m q3 (by rw [hk.mu b (au b q1)];exact q2) (hr _ aX))
  (fun z aX=>by
   have hl:=hr z aX
   rcases hk.own z (.inr (.inl hl)) with h1 | h1
   .left;refine ⟨h1,?_,?_⟩
    .rintro ⟨b,B,m,q1,q2,q3,rfl⟩
     exact hT.lm b B m (dF b B q1 q2) (by rw [hk.mu b (Qo q2)];exact q3) hl
    .rintro ⟨b,i,B,q1,q2,q3⟩
     exact (hT.kl z _ ((C7 b B q1 q2).2 z i q3).1).2.2.1 hl
   .exact .inr h1)
  (fun z aX=>hT.iM z (hr z aX))
  (fun sA ho hb z hN=>by
   refine ⟨fun aY=>?_,fun kq=>hN.2 (by rw [hk.dj,<- hb];exact kq)⟩
   rcases ho z aY with ⟨b,B,m,q1,q2,q3,q4,q5⟩ | ⟨q1,q2⟩ | q1 | ⟨b,m,q1,q2,q3⟩ | ⟨p,q1⟩
   .rw [f3 b q5] at q1
    exact hN.1 (.inl ⟨b,B,m,dF b B q5 q1,q2,by rw [hk.mu b (Qo q1)];exact q3,q4⟩)
   .refine q2 ⟨.inr (.inl q1),?_,?_⟩
    .rintro ⟨b,B,m,p1,p2,p3,rfl⟩
     exact hs.lm b B m p2 p3 q1
    .rintro ⟨b,i,B,p1,p2,p3⟩
     exact (hs.kl z _ p3).2.2.1 q1
   .exact hN.1 (.inr (.inl (hr z q1)))
   .obtain ⟨B,p1,p2⟩:=cO b q1
    exact hN.1 (.inl ⟨b,B,m,p1,p2,by rw [hk.mu b (au b q1)];exact q2,q3⟩)
   .exact hN.1 (.inr (.inr ⟨p,(kn1 z p q1).1⟩)))
 exact ⟨sA,e1,e2,k3,t3,fun z aX=>(NR z).2 (.inr aX),n3⟩
theorem Qa4:∀ {ids:List Nat} {n:Nat} {vs:List TV} {js:List (List Nat)} {T s:S} {L':LS},aD s->qY T s.ai ids n vs js->(∀ b∈ids,b < s.L.bl.length/\s.μ b=T.μ b)->s.H=T.H->(∀ z,T.N z->s.N z)->(∀ z∈js.flatten,s.aF z)->js.flatten.Nodup->HU ids n vs s.L=some L' ->
  ∃ s',s'.L=L'/\s'.H=s.H/\aj s s'/\aD s'/\(∀ z,s.N z->s'.N z)/\(∀ z,s.aF z->z∉js.flatten->s'.aF z)
 | [],n,vs,js,T,s,L',hs,hd,hb,hH,hN,hl,hn,h=>by
  simp [HU] at h;subst h
  exact ⟨s,rfl,rfl,aj.refl s,hs,fun _ h=>h,fun _ h _=>h⟩
 | b::ids,0,vs,js,T,s,L',hs,hd,hb,hH,hN,hl,hn,h=>by
  simp [HU] at h;subst h
  exact ⟨s,rfl,rfl,aj.refl s,hs,fun _ h=>h,fun _ h _=>h⟩
 | b::ids,n+1,v::vs,j::js,T,s,L',hs,hd,hb,hH,hN,hl,hn,h=>by
  obtain ⟨vD,oe⟩:=hd
  rw [Ze,Zn] at hn
  obtain ⟨n1,n2,n3⟩:=hn
  simp only [HU] at h
  replace h:=ob h;obtain ⟨L1,h1,h⟩:=h
  have hc:CB s s.ai b v j:=CB.to (hb b (by simp)).2 hH hN (fun z hz=>hl z (by simp [hz])) vD
  obtain ⟨s1,a1,a2,a3,a4,a5,a6⟩:=Qio hs hc n1 h1
  rw [<- a1] at h
  obtain ⟨s2,b1,b2,b3,b4,b5,b6⟩:=Qa4 (T:=T) a4 (by rw [a3.ai];exact oe) (fun c hc=>by
   obtain ⟨q1,q2⟩:=hb c (by simp [hc])
   exact ⟨Zm q1 a3.nb,by rw [a3.mu c q1];exact q2⟩) (a2.trans hH) (fun z hz=>a5 z (hN z hz)) (fun z hz=>a6 z (hl z (by rw [Ze,Zh];exact .inr hz)) (fun hm=>n3 z hm z hz rfl)) n2 h
  exact ⟨s2,b1,b2.trans a2,a3.trans b3,b4,fun z hz=>b5 z (a5 z hz),fun z hz hm=>by
   rw [Ze,Zh,not_or] at hm
   exact b6 z (a6 z hz hm.1) hm.2⟩
 | _::_,_+1,[],_,_,_,_,_,hd,_,_,_,_,_,_=>by cases ‹List (List Nat)› <;> exact hd.elim
 | _::_,_+1,_::_,[],_,_,_,_,hd,_,_,_,_,_,_=>hd.elim
theorem Qca {val:Nat->Value}:∀ {l:List (Nat×Bool×Ty)} {vs:List TV} {an:List (List Nat)} {env ak:bA} {s:S} {L':LS},aD s->SR s s.ai val l vs an->an.flatten.Nodup->(∀ q p,q∉l.map (·.1)->dD env q=some p->ER s p (val q))->HV l vs env s.L=some (ak,L') ->
  ∃ s',s'.L=L'/\s'.H=s.H/\aj s s'/\aD s'/\(∀ q p,dD ak q=some p->ER s' p (val q))/\(∀ q,q∉l.map (·.1)->dD ak q=dD env q)/\∀ q∈l.map (·.1),∃ p,dD ak q=some p
 | [],[],[],env,ak,s,L',hs,_,_,he,h=>by
  simp [HV] at h;obtain ⟨rfl,rfl⟩:=h
  exact ⟨s,rfl,rfl,aj.refl s,hs,fun q p hp=>he q p (by simp) hp,fun _ _=>rfl,by simp⟩
 | (q,o,t)::l,v::vs,ids::an,env,ak,s,L',hs,hr,hn,he,h=>by
  obtain ⟨hh,hl,dR⟩:=hr
  rw [Ze,Zn] at hn
  obtain ⟨gh,gR,sR⟩:=hn
  simp only [HV] at h
  have next:∀ (s1:S) (pv:PV),aj s s1->aD s1->s1.H=s.H->(∀ z,s.N z->s1.N z)->(∀ z∈an.flatten,s1.aF z)->AR s1 pv (val q)->HV l vs ((q,pv)::env) s1.L=some (ak,L') ->
    ∃ s',s'.L=L'/\s'.H=s.H/\aj s s'/\aD s'/\(∀ q p,dD ak q=some p->ER s' p (val q))/\(∀ q',q'∉((q,o,t)::l).map (·.1)->dD ak q'=dD env q')/\∀ q'∈((q,o,t)::l).map (·.1),∃ p,dD ak q'=some p:=by
   clear h
   intro s1 pv k1 t1 g1 n1 l1 ha h
   have Ym:SR s1 s1.ai val l vs an:=by
    rw [k1.ai]
    have:∀ {l:List (Nat×Bool×Ty)} {vs:List TV} {an:List (List Nat)},SR s s.ai val l vs an->(∀ z∈an.flatten,s1.aF z)->SR s1 s.ai val l vs an:=by
     intro l
     induction l with
     | nil=>intro vs an h _;cases vs<;>cases an<;>simp_all [SR]
     | cons x l ih =>
      intro vs an h hL
      obtain ⟨q,o,t⟩:=x
      match vs,an,h with
      | v::vs,i::an,h=>exact ⟨h.1.frame (fun z hz au=>⟨n1 z hz,by rw [g1]⟩) (fun z _=>by rw [g1]),fun z hz=>hL z (by simp [hz]),ih h.2.2 (fun z hz=>hL z (by simp at hz ⊢;exact .inr hz))⟩
    exact this dR l1
   obtain ⟨s2,a1,a2,a3,a4,a5,a6,a7⟩:=Qca t1 Ym gR (fun q' p hq hp=>by
    simp only [dD] at hp
    cases hb:Nat.beq q q' with
    | true=>rw [hb] at hp;injection hp with hp;subst hp;rw [<- Z7 hb];exact ER.of ha
    | false =>
     rw [hb] at hp
     refine k1.ER (he q' p ?_ hp)
     simp only [List.map_cons,List.mem_cons,not_or]
     exact ⟨fun e=>by subst e;rw [Nat.beq_refl] at hb;simp at hb,hq⟩) h
   refine ⟨s2,a1,a2.trans g1,k1.trans a3,a4,a5,fun q' hq=>?_,fun q' hq=>?_⟩
   .simp only [List.map_cons,List.mem_cons,not_or] at hq
    rw [a6 q' hq.2]
    simp only [dD]
    cases hb:Nat.beq q q' with
    | true=>exact absurd (Z7 hb).symm hq.1
    | false=>rfl
   .by_cases EE:q'∈l.map (·.1)
    .exact a7 q' EE
    .rw [a6 q' EE]
     simp only [List.map_cons,List.mem_cons] at hq
     rcases hq with rfl | hq
     .exact ⟨pv,by simp only [dD,Nat.beq_refl]⟩
     .exact absurd hq EE
  have gr:∀ z∈an.flatten,s.aF z:=SR.ai dR
  cases o with
  | false =>
   obtain ⟨cs,hv,cZ⟩:=hh
   obtain ⟨ty,x⟩:=v
   simp only [Ke] at h
   obtain ⟨s1,a1,a2,a3,a4,a5,a6,a7⟩:=NI ty hs cZ hl gh
   rw [<- a1] at h
   exact next s1 _ a3 a4 a2 a6 (fun z hz=>a7 z (gr z hz) (fun hm=>sR z hm z hz rfl)) (Qim hv a5) h
  | true =>
   obtain ⟨u,x,rfl,ho⟩:=hh
   simp only [Ke] at h
   obtain ⟨s1,e1,e2,k1,t1,a1,n1,l1⟩:=MX hs ho hl
   rw [<- e1] at h
   exact next s1 _ k1 t1 e2 n1 (fun z hz=>l1 z (gr z hz) (fun hm=>sR z hm z hz rfl)) (AR.of a1) h
end Go.Pv
