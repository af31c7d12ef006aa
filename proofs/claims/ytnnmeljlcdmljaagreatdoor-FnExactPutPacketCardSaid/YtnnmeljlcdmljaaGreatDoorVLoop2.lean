/-
  Calls: a call by value agrees with the call in the first interpreter. And what stood behind it in 4 texts.
  Conditions: said at the theorems.
-/
import Derived.Test.YtnnmeljlcdmljaaGreatDoorVCall2
set_option linter.all false
namespace Go.Pv
open Go.Ev
theorem Q6f {s:S} {N:Nat→Prop} {H':Heap} {lim:Nat}:∀ {ps:List (PM×Ty)} {args:List PV} {ws:List Value} {oids:List (List Nat)} {vs:List TV} {L L':LS},Q0j ps args vs L=some L'→(Qo ps args).Nodup→Qw (ER s) args ws →
  HRs N H' lim (Q8c ps) vs (Qbj ps ws) oids→∀ c∈Qo ps args,∃ B',Qi L' c=some B' ∧
   (∀ sA:S,sA.μ=s.μ→sA.H=H'→sA.L.clk=L.clk→sA.lim=lim→(∀ z,N z→sA.N z)→BR sA c B')∧∀ m,s.μ c=some m→m.z∈Q1o ps oids
 | [],[],[],oids,vs,L,L',h,hn,hr,hh,c,hc=>by simp [Qo] at hc
 | (m,t)::ps,p::args,w::ws,oids,vs,L,L',h,hn,hr,hh,c,hc=>by
  obtain ⟨hr1,hr2⟩:=hr
  cases m with
  | ro =>
   simp only [Q0j] at h
   have e:Qo ((.ro,t)::ps) (p::args)=Qo ps args:=by cases p<;>rfl
   rw [e] at hn hc
   exact Q6f (ps:=ps) h hn hr2 hh c hc
  | cl g =>
   simp only [Q0j] at h
   have e:Qo ((.cl g,t)::ps) (p::args)=Qo ps args:=by cases p<;>rfl
   rw [e] at hn hc
   exact Q6f (ps:=ps) h hn hr2 hh c hc
  | mv =>
   simp only [Q0j] at h
   have e:Qo ((.mv,t)::ps) (p::args)=Qo ps args:=by cases p<;>rfl
   rw [e] at hn hc
   exact Q6f (ps:=ps) h hn hr2 hh c hc
  | io =>
   simp only [Q0j] at h
   split at h
   ·rename_i b v vs'
    replace h:=ob h;obtain ⟨L1,h1,h⟩:=h
    simp only [Qo] at hn hc
    obtain ⟨hn1,hn2⟩:=List.nodup_cons.1 hn
    obtain ⟨a1,a2,a3,a4⟩:=Q12 h hn2
    obtain ⟨n',u,xs,x,g1,rfl,rfl⟩:=Qbn h1
    have hlb:=Qn g1
    cases oids with
    | nil=>exact absurd hh id
    | cons ids oids =>
    simp only [Q8c,Qbj] at hh
    obtain ⟨hh1,hh2⟩:=hh
    rcases Z2 hc with rfl | hc
    ·have hr1:LR0 s (.osl c 0 none) w:=hr1
     obtain ⟨_,hr1⟩:=hr1
     obtain ⟨u',x',e1,ho⟩:=hh1
     injection e1 with e1 e2
     injection e1 with e1
     subst e1
     simp only [heq_eq_eq] at e2
     subst e2
     refine ⟨_,by rw [a3 c hn1,Qq hlb],fun sA e1 e2 e3 e4 e5=>?_,fun m hm=>?_⟩
     ·unfold BR;simp only
      cases hm:s.μ c with
      | none =>
       rw [hm] at hr1;obtain ⟨_,_,rfl⟩:=hr1
       rw [e1,hm];simp only
       rcases ho with ⟨_,hx,_⟩ | ⟨z,o,k,ks,_,_,e6,_⟩
       ·exact hx
       ·simp at e6
      | some m =>
       rw [hm] at hr1;obtain ⟨g0,rfl⟩:=hr1
       rw [e1,hm];simp only
       rcases ho with ⟨_,_,e6⟩ | ⟨z,o,k,ks,_,_,e6,q1,q2,q3,q4,q5,_⟩
       ·simp at e6
       ·simp only [Option.getD_none,Nat.zero_mul,Nat.add_zero,Nat.sub_zero] at e6
        injection e6 with e6 e7 e8
        injection e6 with e6;injection e6 with e6 e9
        subst e6 e9
        refine ⟨e8,e7,k,by rw [e2];exact q1,q4,fun i hi=>?_,fun _=>⟨q2,by rw [e4];exact q3⟩,fun e=>absurd e (by decide)⟩
        have:=q5.2 i hi
        have hmi:=Q1m (k:=u.size) hi
        unfold seg at this;rw [List.drop_take,List.take_take,Nat.min_eq_left (by omega),List.drop_drop] at this
        rw [e2];exact Rep.mono e5 _ this
     ·rw [hm] at hr1;obtain ⟨g0,rfl⟩:=hr1
      rcases ho with ⟨_,_,e6⟩ | ⟨z,o,k,ks,rfl,_,e6,_⟩
      ·simp at e6
      ·simp only [Option.getD_none,Nat.zero_mul,Nat.add_zero,Nat.sub_zero] at e6
       injection e6 with e6 e7 e8
       injection e6 with e6;injection e6 with e6 e9
       simp [Q1o,e6]
    ·obtain ⟨B',b1,b2,b3⟩:=Q6f h hn2 hr2 hh2 c hc
     refine ⟨B',b1,b2,fun m hm=>?_⟩
     simp only [Q1o,Zh];exact .inr (b3 m hm)
   ·simp at h
  | ps =>
   simp only [Q0j] at h
   split at h
   ·rename_i b off v vs'
    replace h:=ob h;obtain ⟨L1,h1,h⟩:=h
    simp only [Qo] at hn hc
    obtain ⟨hn1,hn2⟩:=List.nodup_cons.1 hn
    obtain ⟨a1,a2,a3,a4⟩:=Q12 h hn2
    obtain ⟨n',cs,g1,g2,rfl⟩:=Q8e h1
    have hlb:=Qn g1
    cases oids with
    | nil=>exact absurd hh id
    | cons ids oids =>
    simp only [Q8c,Qbj] at hh
    obtain ⟨hh1,hh2⟩:=hh
    rcases Z2 hc with rfl | hc
    ·have hr1:LR0 s (.ptr c off) w:=hr1
     obtain ⟨_,m,hm,hsh,rfl⟩:=hr1
     obtain ⟨z,k,j,rfl,e1,hk,hro,hlm,hrep⟩:=hh1
     injection e1 with e1;injection e1 with e1;injection e1 with e1 e2
     subst e1
     refine ⟨_,by rw [a3 c hn1,Qq hlb],fun sA f1 f2 f3 f4 f5=>?_,fun m' hm'=>?_⟩
     ·unfold BR;simp only
      refine ⟨trivial,m,k,by rw [f1];exact hm,hsh,by rw [f2];exact hk,?_,hro,by rw [f4];exact hlm⟩
      rw [← f3]
      refine Q1g _ ?_
      rw [f2]
      exact Rep.mono (fun z hz=>S.NN_clk (f5 z hz)) _ hrep.rep
     ·rw [hm] at hm';injection hm' with hm';subst hm'
      simp [Q1o]
    ·obtain ⟨B',b1,b2,b3⟩:=Q6f h hn2 hr2 hh2 c hc
     refine ⟨B',b1,b2,fun m hm=>?_⟩
     simp only [Q1o,Zh];exact .inr (b3 m hm)
   ·simp at h
 | [],_::_,_,_,_,_,_,h,_,_,_,_,_=>by simp [Q0j] at h
 | _::_,[],_,_,_,_,_,h,_,_,_,_,_=>by simp [Q0j] at h
theorem Q6g {s:S} {N:Nat→Prop} {H':Heap} {lim:Nat} {sA:S} (f1:sA.μ=s.μ) (f2:sA.H=H') (f3:sA.L.bl.length=s.L.bl.length) (f4:∀ z,N z→sA.N z):∀ {ps:List (PM×Ty)} {args:List PV} {ws:List Value} {oids:List (List Nat)} {vs:List TV} {L L':LS},Q0j ps args vs L=some L'→Qw (ER s) args ws →
  HRs N H' lim (Q8c ps) vs (Qbj ps ws) oids→(∀ z∈(Q1c ps oids).flatten,sA.Lim z)→CBs sA lim (Q6x ps args vs) (Q1c ps oids)
 | [],[],[],oids,vs,L,L',h,hr,hh,hl=>by simp [Q6x,Q1c,CBs]
 | (m,t)::ps,p::args,w::ws,oids,vs,L,L',h,hr,hh,hl=>by
  obtain ⟨hr1,hr2⟩:=hr
  cases m with
  | ro=>simp only [Q0j] at h;exact Q6g (ps:=ps) f1 f2 f3 f4 h hr2 hh hl
  | cl g=>simp only [Q0j] at h;exact Q6g (ps:=ps) f1 f2 f3 f4 h hr2 hh hl
  | mv=>simp only [Q0j] at h;exact Q6g (ps:=ps) f1 f2 f3 f4 h hr2 hh hl
  | io =>
   simp only [Q0j] at h
   split at h
   ·rename_i b v vs'
    replace h:=ob h;obtain ⟨L1,h1,h⟩:=h
    cases oids with
    | nil=>exact absurd hh id
    | cons ids oids=>exact Q6g (ps:=ps) f1 f2 f3 f4 h hr2 hh.2 hl
   ·simp at h
  | ps =>
   simp only [Q0j] at h
   split at h
   ·rename_i b off v vs'
    replace h:=ob h;obtain ⟨L1,h1,h⟩:=h
    cases oids with
    | nil=>exact absurd hh id
    | cons ids oids =>
     obtain ⟨hh1,hh2⟩:=hh
     have hr1:LR0 s (.ptr b off) w:=hr1
     obtain ⟨hlb,m,hm,hsh,rfl⟩:=hr1
     obtain ⟨z,k,j,rfl,e1,hk,hro,hlm,hrep⟩:=hh1
     injection e1 with e1;injection e1 with e1;injection e1 with e1 e2
     subst e1
     simp only [Q1c,List.drop_succ_cons,List.drop_zero,Ze] at hl
     exact ⟨⟨by rw [f3];exact hlb,⟨m,k,by rw [f1];exact hm,hsh,by rw [f2];exact hk,hro,hlm,Q3b.frame (fun z hz _=>⟨f4 z hz,by rw [f2]⟩) _ hrep (fun z _=>by rw [f2])⟩,fun z hz=>hl z (List.mem_append.2 (.inl hz))⟩,Q6g (ps:=ps) f1 f2 f3 f4 h hr2 hh2 (fun z hz=>hl z (List.mem_append.2 (.inr hz)))⟩
   ·simp at h
 | [],_::_,_,_,_,_,_,h,_,_,_=>by simp [Q0j] at h
 | _::_,[],_,_,_,_,_,h,_,_,_=>by simp [Q0j] at h
theorem HRs.lts {N:Nat→Prop} {H:Heap} {lim:Nat}:∀ {ks:List Kd} {vs:List TV} {ws:List Value} {is:List (List Nat)},HRs N H lim ks vs ws is→∀ z∈is.flatten,z < H.length
 | [],[],[],[],_=>by simp
 | _::_,_::_,_::_,_::_,h=>by
  intro z hz
  rw [Ze,Zh] at hz
  rcases hz with hz | hz
  ·exact h.1.lt z hz
  ·exact HRs.lts h.2 z hz
theorem TM.len {s:S} {lim:Nat}:∀ {ps:List (PM×Ty)} {args:List PV} {ws:List Value} {os:List (Option TV)} {idss:List (List Nat)},TM s lim ps args ws os idss→ps.length=idss.length
 | [],[],[],[],[],_=>rfl
 | _::_,_::_,_::_,_::_,_::_,h=>by simp [TM.len h.2]
theorem Q0g.of {s:S}:∀ (ps:List (PM×Ty)) (args:List PV),(∀ b∈Qo ps args,∃ B,Qi s.L b=some B∧B.rw=true)→Q0g s ps args:=by
 intro ps
 induction ps with
 | nil=>intro args _;cases args<;>trivial
 | cons q ps ih =>
  intro args h
  obtain ⟨m,t⟩:=q
  cases args with
  | nil=>cases m<;>trivial
  | cons p args =>
   cases m with
   | ro =>
    have e1:Qo ((.ro,t)::ps) (p::args)=Qo ps args:=by cases p<;>rfl
    have e2:Q0g s ((.ro,t)::ps) (p::args)=Q0g s ps args:=by cases p<;>rfl
    rw [e1] at h;rw [e2];exact ih args h
   | cl g =>
    have e1:Qo ((.cl g,t)::ps) (p::args)=Qo ps args:=by cases p<;>rfl
    have e2:Q0g s ((.cl g,t)::ps) (p::args)=Q0g s ps args:=by cases p<;>rfl
    rw [e1] at h;rw [e2];exact ih args h
   | mv =>
    have e1:Qo ((.mv,t)::ps) (p::args)=Qo ps args:=by cases p<;>rfl
    have e2:Q0g s ((.mv,t)::ps) (p::args)=Q0g s ps args:=by cases p<;>rfl
    rw [e1] at h;rw [e2];exact ih args h
   | io =>
    by_cases hp:∃ b off n,p=.osl b off n
    ·obtain ⟨b,off,n,rfl⟩:=hp
     exact ⟨h b (by simp [Qo]),ih args (fun q hq=>h q (by simp [Qo,hq]))⟩
    ·have e1:Qo ((.io,t)::ps) (p::args)=Qo ps args:=by cases p<;>first | rfl | exact absurd ⟨_,_,_,rfl⟩ hp
     have e2:Q0g s ((.io,t)::ps) (p::args)=Q0g s ps args:=by cases p<;>first | rfl | exact absurd ⟨_,_,_,rfl⟩ hp
     rw [e1] at h;rw [e2];exact ih args h
   | ps =>
    by_cases hp:∃ b off,p=.ptr b off
    ·obtain ⟨b,off,rfl⟩:=hp
     exact ⟨h b (by simp [Qo]),ih args (fun q hq=>h q (by simp [Qo,hq]))⟩
    ·have e1:Qo ((.ps,t)::ps) (p::args)=Qo ps args:=by cases p<;>first | rfl | exact absurd ⟨_,_,rfl⟩ hp
     have e2:Q0g s ((.ps,t)::ps) (p::args)=Q0g s ps args:=by cases p<;>first | rfl | exact absurd ⟨_,_,rfl⟩ hp
     rw [e1] at h;rw [e2];exact ih args h
theorem Qde {s:S} (hs:StR s) {lent:List Nat} {L3:LS} {H':Heap} {ids rids oids:Nat→Prop} {N:Nat→Prop} (Kn:Nat→Option (Nat×Nat))
  (f1:L3.bl.length=s.L.bl.length) (f2:L3.clk=s.L.clk) (f3:∀ c,c∉lent→Qi L3 c=Qi s.L c) (f4:∀ c∈lent,∃ B B',Qzo s.L L3 c B B')
  (f5:∀ c∈lent,∃ B',Qi L3 c=some B'∧(∀ sA:S,sA.μ=s.μ→sA.H=H'→sA.L.clk=s.L.clk→sA.lim=s.lim→sA.Kid=Kn→(∀ z,N z→sA.N z)→BR sA c B')∧∀ m,s.μ c=some m→oids m.z)
  (hids:∀ z,ids z→s.Lim z∨(∃ b B m,b∈lent∧Qi s.L b=some B∧B.rw=true∧s.μ b=some m∧m.z=z)∨∃ p,s.Kid z=some p∧∀ B,Qi s.L p.1=some B→p.1∈lent)
  (hKn:∀ z p,Kn z=some p→p.1 < s.L.bl.length∧z < H'.length∧(∃ k,hget H' z=some k)∧¬ rids z∧¬ (s.Lim z∧¬ ids z)∧(∀ c C m,Qi L3 c=some C→s.μ c=some m→m.z≠z)∧(Own s z∨s.H.length≤z))
  (hKk:∀ z b i B,b∉lent→Qi s.L b=some B→s.Kid z=some (b,i)→Kn z=some (b,i))
  (hlen:s.H.length≤H'.length) (hfr:∀ z,z < s.H.length→¬ ids z→hget H' z=hget s.H z) (hnd:∀ z,rids z→¬ oids z) (hr1:∀ z,rids z→ids z∨s.H.length≤z) (hr2:∀ z,rids z→z < H'.length)
  (hN:∀ sA:S,(∀ z,Own sA z→(∃ b B m,Qi L3 b=some B∧B.rw=true∧s.μ b=some m∧m.z=z∧b∉lent)∨(s.Lim z∧¬ ids z)∨rids z∨oids z∨∃ p,Kn z=some p)→sA.Ban=s.Ban→∀ z,N z→sA.N z) :
  ∃ sA,sA.L=L3∧sA.H=H'∧sA.μ=s.μ∧Keep s sA∧StR sA∧(∀ z,sA.Lim z↔(s.Lim z∧¬ ids z)∨rids z)∧∀ z,N z→sA.N z:=by
 have hidsOwn:∀ z,ids z→Own s z:=by
  intro z hz
  rcases hids z hz with h | ⟨b,B,m,_,h1,h2,h3,h4⟩ | ⟨p,hp,_⟩
  ·exact .inr (.inl h)
  ·exact .inl ⟨b,B,m,h1,h2,h3,h4⟩
  ·exact .inr (.inr ⟨p,hp⟩)
 let sA:S:={ s with L:=L3,H:=H',Lim:=fun z=>(s.Lim z∧¬ ids z)∨rids z,Kid:=Kn }
 have cls:∀ c C,Qi L3 c=some C→∃ C0,Qi s.L c=some C0∧C0.rw=C.rw∧C0.ver≤C.ver∧(c∉lent→C0=C)∧(C0.ver=C.ver→c∉lent):=by
  intro c C hC
  by_cases hc:c∈lent
  ·obtain ⟨B,B',b1,b2,b3,b4,b5⟩:=f4 c hc
   rw [hC] at b3;injection b3 with b3;subst b3
   exact ⟨B,b1,by rw [b2,b4],by omega,fun h=>absurd hc h,fun h=>by omega⟩
  ·rw [f3 c hc] at hC;exact ⟨C,hC,rfl,Zd _,fun _=>rfl,fun _=>hc⟩
 have hnotids:∀ c C m,Qi s.L c=some C→s.μ c=some m→c∉lent→¬ ids m.z:=by
  intro c C m h1 h2 h3 h4
  rcases hids _ h4 with h | ⟨b,B,m',hb,h5,h6,h7,h8⟩ | ⟨p,hp,_⟩
  ·exact hs.lm c C m h1 h2 h
  ·have:=hs.inj b c B C m' m h5 h1 h6 h7 h2 h8
   subst this;exact h3 hb
  ·exact (hs.kl _ p hp).2.2.2 c C m h1 h2 rfl
 have hown:∀ z,Own sA z→Own s z∨s.H.length≤z:=by
  rintro z (⟨b,B,m,h1,h2,h3,rfl⟩ | (⟨h1,_⟩ | h1) | ⟨p,h1⟩)
  ·obtain ⟨C0,g1,g2,_⟩:=cls b B h1
   exact .inl (.inl ⟨b,C0,m,g1,by rw [g2];exact h2,h3,rfl⟩)
  ·exact .inl (.inr (.inl h1))
  ·rcases hr1 z h1 with h | h
   ·exact .inl (hidsOwn z h)
   ·exact .inr h
  ·exact (hKn z p h1).2.2.2.2.2.2
 have hkids:∀ z b i B,b∉lent→Qi s.L b=some B→s.Kid z=some (b,i)→¬ ids z:=by
  intro z b i B hb hB hp hz
  obtain ⟨k1,k2,k3,k4⟩:=hs.kl z _ hp
  rcases hids z hz with h | ⟨b,B,m,_,h1,h2,h3,h4⟩ | ⟨p,hp',hl⟩
  ·exact k3 h
  ·exact k4 b B m h1 h3 h4
  ·rw [hp] at hp';injection hp' with hp';subst hp';exact hb (hl B hB)
 have hkH:∀ z b i B,b∉lent→Qi s.L b=some B→s.Kid z=some (b,i)→Kn z=some (b,i)∧hget H' z=hget s.H z:=fun z b i B hb hB hp=>⟨hKk z b i B hb hB hp,hfr z (hs.kl z _ hp).1 (hkids z b i B hb hB hp)⟩
 have hsame:∀ c C m,Qi s.L c=some C→s.μ c=some m→c∉lent→hget H' m.z=hget s.H m.z:=fun c C m h1 h2 h3=>hfr _ ((hs.blk c C h1).lt h2) (hnotids c C m h1 h2 h3)
 have hk:Keep s sA:=by
  refine ⟨rfl,CK.same rfl f2,rfl,by rw [show sA.L=L3 from rfl,f1];exact Zd _,fun _ _=>rfl,hlen,fun z hz hn=>hfr z hz (fun h=>hn (hidsOwn z h)),hown,fun b B' hb hB'=>?_⟩
  obtain ⟨C0,g1,g2,g3,g4,g5⟩:=cls b B' hB'
  refine ⟨C0,g1,g3,fun e=>?_⟩
  have hnl:=g5 e
  exact ⟨(g4 hnl).symm,fun m hm=>hsame b C0 m g1 hm hnl,fun z i hz=>hkH z b i C0 hnl g1 hz⟩
 have hNA:∀ z,N z→sA.N z:=by
  refine hN sA ?_ rfl
  rintro z (⟨b,B,m,h1,h2,h3,rfl⟩ | (h1 | h1) | h1)
  ·by_cases hb:b∈lent
   ·obtain ⟨B',_,_,b3⟩:=f5 b hb
    exact .inr (.inr (.inr (.inl (b3 m h3))))
   ·exact .inl ⟨b,B,m,h1,h2,h3,rfl,hb⟩
  ·exact .inr (.inl h1)
  ·exact .inr (.inr (.inl h1))
  ·exact .inr (.inr (.inr (.inr h1)))
 refine ⟨sA,rfl,rfl,rfl,hk,⟨fun c C hC=>?_,fun b c C D m1 m2 h1 h2 h3 h4 h5 e=>?_,fun z hz=>⟨?_,fun ho=>?_⟩,?_,fun b C m h1 h2=>?_,fun z hl=>?_,fun z p hp=>?_,fun z p hp=>(hKn z p hp).2.2.1⟩,fun z=>Iff.rfl,hNA⟩
 rotate_right
 ·obtain ⟨k1,k2,k3,k4,k5,k6,k7⟩:=hKn z p hp
  refine ⟨k2,by rw [show sA.L=L3 from rfl,f1];exact k1,?_,fun c C m g1 g2=>k6 c C m g1 g2⟩
  rintro (h1 | h1)
  ·exact k5 h1
  ·exact k4 h1
 ·by_cases hc:c∈lent
  ·obtain ⟨B',b1,b2,_⟩:=f5 c hc
   have:some B'=some C:=by rw [← b1];exact hC
   injection this with this;subst this
   exact b2 sA rfl rfl f2 rfl rfl hNA
  ·have hC':Qi s.L c=some C:=by rw [← f3 c hc];exact hC
   exact (hs.blk c C hC').keep hk (Qn hC') (fun m hm=>hsame c C m hC' hm hc) (fun z i hz=>hkH z c i C hc hC' hz)
 ·obtain ⟨C0,g1,g2,_⟩:=cls b C h1
  obtain ⟨D0,g3,_⟩:=cls c D h2
  exact hs.inj b c C0 D0 m1 m2 g1 g3 (by rw [g2];exact h3) h4 h5 e
 ·exact Zm (hs.ban z hz).1 hlen
 ·rcases hown z ho with h | h
  ·exact (hs.ban z hz).2 h
  ·have:=(hs.ban z hz).1;omega
 ·exact Nat.le_trans hs.limH hlen
 ·obtain ⟨C0,g1,g2,g3,g4,g5⟩:=cls b C h1
  rintro (⟨h5,_⟩ | h5)
  ·exact hs.lm b C0 m g1 h2 h5
  ·by_cases hb:b∈lent
   ·obtain ⟨B',_,_,b3⟩:=f5 b hb
    exact hnd _ h5 (b3 m h2)
   ·rcases hr1 _ h5 with h6 | h6
    ·exact hnotids b C0 m g1 h2 hb h6
    ·have:=(hs.blk b C0 g1).lt h2;omega
 ·rcases hl with ⟨h1,_⟩ | h1
  ·exact Zm (hs.lml z h1) hlen
  ·exact hr2 z h1
theorem Qi7:∀ {rs:List (Bool×Ty)} {vs:List TV} {ws:List Value} {rids:List (List Nat)} {s:S} {pvs:List PV} {L':LS},StR s→HRs s.N s.H s.lim (rs.map fun q=>kdR q.1) vs ws rids→(∀ z∈rids.flatten,s.Lim z)→rids.flatten.Nodup→Qkb rs vs s.L=some (pvs,L') →
  ∃ s',s'.L=L'∧s'.H=s.H∧Keep s s'∧StR s'∧Qw (AR s') pvs ws
 | [],[],[],[],s,pvs,L',hs,_,_,_,h=>by
  simp [Qkb] at h;obtain ⟨rfl,rfl⟩:=h
  exact ⟨s,rfl,rfl,Keep.refl s,hs,trivial⟩
 | (o,t)::rs,v::vs,w::ws,ids::rids,s,pvs,L',hs,hh,hl,hn,h=>by
  obtain ⟨hh1,hh2⟩:=hh
  rw [Ze,Zn] at hn
  obtain ⟨hn1,hn2,hn3⟩:=hn
  simp only [Qkb] at h
  have next:∀ (s1:S) (pv:PV),Keep s s1→StR s1→s1.H=s.H→(∀ z,s.N z→s1.N z)→(∀ z∈rids.flatten,s1.Lim z)→AR s1 pv w→(Q1 (Qkb rs vs s1.L) fun r=>some (pv::r.1,r.2))=some (pvs,L') →
    ∃ s',s'.L=L'∧s'.H=s.H∧Keep s s'∧StR s'∧Qw (AR s') pvs (w::ws):=by
   clear h
   intro s1 pv k1 t1 g1 n1 l1 ha h
   replace h:=ob h;obtain ⟨⟨pvs',L3⟩,h2,h⟩:=h
   simp at h;obtain ⟨rfl,rfl⟩:=h
   have hh2':HRs s1.N s1.H s1.lim (rs.map fun q=>kdR q.1) vs ws rids:=by
    rw [k1.lim];exact hh2.frame (fun z hz _=>⟨n1 z hz,by rw [g1]⟩) (fun z _=>by rw [g1])
   obtain ⟨s2,a1,a2,a3,a4,a5⟩:=Qi7 t1 hh2' l1 hn2 h2
   exact ⟨s2,a1,a2.trans g1,k1.trans a3,a4,a3.AR ha,a5⟩
  have hl2:∀ z∈rids.flatten,s.Lim z:=fun z hz=>hl z (by rw [Ze,Zh];exact .inr hz)
  cases o with
  | false =>
   obtain ⟨cs,hv,hrep⟩:=hh1
   obtain ⟨ty,x⟩:=v
   simp only [Qnc] at h
   obtain ⟨s1,a1,a2,a3,a4,a5,a6,a7⟩:=Q5x ty hs hrep (fun z hz=>hl z (by rw [Ze,Zh];exact .inl hz)) hn1
   rw [← a1] at h
   exact next s1 _ a3 a4 a2 a6 (fun z hz=>a7 z (hl2 z hz) (fun hm=>hn3 z hm z hz rfl)) (Qi4 hv a5) h
  | true =>
   obtain ⟨u,x,rfl,ho⟩:=hh1
   simp only [Qnc] at h
   obtain ⟨s1,e1,e2,k1,t1,a1,n1,l1⟩:=Q5w hs ho (fun z hz=>hl z (by rw [Ze,Zh];exact .inl hz))
   rw [← e1] at h
   exact next s1 _ k1 t1 e2 n1 (fun z hz=>l1 z (hl2 z hz) (fun hm=>hn3 z hm z hz rfl)) (AR.of a1) h
theorem Qq4:∀ (ts:List Ty) (a:Qc1 ts),(unT ts a).map (·.1)=ts
 | [],_=>rfl
 | [t],x=>rfl
 | t::u::r,x=>by simp only [unT,List.map_cons];rw [Qq4 (u::r) x.2]
theorem HRs.flat {N M:Nat→Prop} {H:Heap} {lim:Nat}:∀ {ks:List Kd} {vs:List TV} {ws:List Value} {is:List (List Nat)} {ts:List Ty},HRs N H lim ks vs ws is→vs.map (·.1)=ts→Qw (fun k t=>Qi1 k t=true) ks ts→HRs M H lim ks vs ws is
 | [],[],[],[],_,_,_,_=>trivial
 | k::ks,v::vs,w::ws,i::is,ts,h,e,hf=>by
  match ts,hf with
  | t::ts,hf =>
   simp only [List.map_cons,List.cons.injEq] at e
   exact ⟨h.1.flat (by rw [e.1];exact hf.1),HRs.flat h.2 e.2 hf.2⟩
theorem Qn4 {rs:List (Bool×Ty)} (h:(rs.any fun r=>match r with | (true,.sl t) => !(t.flat || t.rowT) | (_,t) => !t.nosl)=false):Qw (fun k t=>Qi1 k t=true) (rs.map fun q=>kdR q.1) (rs.map fun q=>q.2):=by
 induction rs with
 | nil=>trivial
 | cons r rs ih =>
  simp only [List.any_cons,Bool.or_eq_false_iff] at h
  refine ⟨?_,ih h.2⟩
  obtain ⟨o,t⟩:=r
  have h1:=h.1
  cases o with
  | false=>simpa [kdR,Qi1] using h1
  | true =>
   cases t with
   | sl u =>
    show (u.flat || u.rowT)=true
    cases hb:(u.flat || u.rowT) with
    | true=>rfl
    | false=>simp only [hb,Bool.not_false] at h1;exact absurd h1 (by decide)
   | _=>rfl
theorem Qq5 {ps:List (PM×Ty)} (h:(ps.any fun p=>match p with | (.ps,t) => !t.nosl | (.io,.sl t) => !t.flat | (.mv,.sl t) => !(t.flat || t.rowT) | _=>false)=false):Qw (fun k t=>Qi1 k t=true) (Q8c ps) (Qc3 ps):=by
 induction ps with
 | nil=>trivial
 | cons p ps ih =>
  simp only [List.any_cons,Bool.or_eq_false_iff] at h
  obtain ⟨m,t⟩:=p
  have h1:=h.1
  cases m with
  | ro=>exact ih h.2
  | cl g=>exact ih h.2
  | mv=>exact ih h.2
  | io =>
   refine ⟨?_,ih h.2⟩
   cases t with
   | sl u =>
    have h1:(!u.flat)=false:=h1
    show (u.flat || u.rowT)=true
    cases hb:u.flat with
    | true=>rfl
    | false=>rw [hb] at h1;exact absurd h1 (by decide)
   | _=>rfl
  | ps=>exact ⟨by simpa [Qi1] using h1,ih h.2⟩
theorem Qi8 {s:S} {ps:List PV} {ws:List Value} (h:Qw (AR s) ps ws):ER s (Qkd ps) (Q3a ws):=by
 match ps,ws,h with
 | [p],[w],h=>exact ER.of h.1
 | [],[],h=>exact ⟨[],rfl,trivial⟩
 | p::q::ps,w::x::ws,h=>exact ⟨w::x::ws,rfl,h⟩
section
variable {A:AnnV} {β γ:Type} {s:S} {KV:PV→LS→Option β} {KE:Value→Heap→Option γ} {r:β} {Q:γ→Prop}
theorem Qfb {sig:Sig} {call:Qc1 sig.ptys→Option (Qc1 sig.rtys)} {callE:List Value→Nat→Heap→Option (Value×Heap)} (hF:Qt1 sig call callE s.lim) (hs:StR s) {args:List PV} {ws:List Value} (hr:Qw (ER s) args ws) (hK:KOk s r KV KE Q)
  (h:(Q1 (Q47 sig.params args [] s.L) fun m=>Q1 (Qc7 sig.al m.2.1 sig.params args m.1 m.2.2) fun q=>Q1 (mkT sig.ptys q.1) fun a=>Q1 (call a) fun y =>
   Q1 (Q0j sig.params args ((unT sig.rtys y).drop sig.results.length) q.2) fun L0=>Q1 (Qkc (Q6x sig.params args ((unT sig.rtys y).drop sig.results.length)) L0) fun L'=>Q1 (Qkb sig.results ((unT sig.rtys y).take sig.results.length) L') fun q=>KV (Qkd q.1) q.2)=some r) :
  ∃ y,(Q1 (callE ws s.lim s.H) fun q=>KE q.1 q.2)=some y∧Q y:=by
 replace h:=ob h;obtain ⟨⟨os,lent,L1⟩,h1,h⟩:=h
 replace h:=ob h;obtain ⟨⟨tvs,L2⟩,h2,h⟩:=h
 replace h:=ob h;obtain ⟨a,h3,h⟩:=h
 replace h:=ob h;obtain ⟨y,h4,h⟩:=h
 replace h:=ob h;obtain ⟨L3,h5,h⟩:=h
 replace h:=ob h;obtain ⟨L3b,h5b,h⟩:=h
 replace h:=ob h;obtain ⟨⟨pvs,L4⟩,h6,h⟩:=h
 simp only at h2 h3 h5 h5b h6 h
 obtain ⟨s1,idss,l1,g1,u1,k1,t1,o1,m1,tm1,sub1,nd1⟩:=Q4h hs hr h1
 rw [← l1] at h2
 obtain ⟨s2,l2,g2,u2,k2,t2,o2,li2,sm2,tr2⟩:=Q8d t1 (Qw.mono (fun _ _=>k1.ER) hr) h2
 rw [← l2] at h5
 obtain ⟨ln1,ln2,ln3⟩:=Q3i h1
 have hlent:∀ b,b∈lent↔b∈Qo sig.params args:=fun b=>by rw [ln3];simp
 obtain ⟨f1,f2,f3,f4⟩:=Q12 h5 ln1
 have hu:s2.μ=s.μ:=u2.trans u1
 have hlive:Q0g s2 sig.params args:=Q0g.of _ _ (fun b hb=>by
  obtain ⟨B,B',b1,b2,_⟩:=f4 b hb;exact ⟨B,b1,b2⟩)
 obtain ⟨nd,idm⟩:=nd1 s2 k2 (fun z hz=>by rw [li2];exact hz) t2 hu hlive
 have tm2:TM s2 s.lim sig.params args ws os idss:=tm1.keep k2 g2 u2 (fun z hz=>by rw [li2];exact hz)
 have hidOwn:∀ z∈idss.flatten,Own s2 z:=by
  intro z hz
  rcases idm z hz with ⟨h,_⟩ | ⟨b,B,m,_,_,q1,q2,q3,q4⟩
  ·exact .inr (.inl h)
  ·exact .inl ⟨b,B,m,q1,q2,q3,q4⟩
 have hgH:s2.H=s.H:=g2.trans g1
 have hban:s2.Ban=s.Ban:=(k1.trans k2).ban
 have hlim2:s2.lim=s.lim:=(k1.trans k2).lim
 let Ban:Nat→Prop:=fun z=>sig.al=true∧((Own s2 z∧z∉idss.flatten)∨s.Ban z)
 have hC1:∀ z,s2.N z→z∉idss.flatten∧¬ Ban z:=by
  intro z hz
  refine ⟨fun h=>hz.1 (hidOwn z h),?_⟩
  rintro ⟨_,⟨h,_⟩ | h⟩
  ·exact hz.1 h
  ·exact hz.2 (by rw [hban];exact h)
 have hC2:sig.al=false→∀ b m B,b∉lent→Qi s2.L b=some B→s2.μ b=some m→m.z∉idss.flatten∧¬ Ban m.z:=by
  intro hal b m B hb hB hm
  refine ⟨fun h=>?_,fun h=>absurd (hal.symm.trans h.1) (by decide)⟩
  rcases idm _ h with ⟨h,_⟩ | ⟨b',B',m',_,hb',q1,q2,q3,q4⟩
  ·exact t2.lm b B m hB hm h
  ·have:=t2.inj b' b B' B m' m q1 hB q2 q3 hm q4
   subst this;exact hb hb'
 have hkn:∀ z p,s2.Kid z=some p→z∉idss.flatten:=by
  intro z p hp h
  obtain ⟨k1,k2,k3,k4⟩:=t2.kl z p hp
  rcases idm z h with ⟨h,_⟩ | ⟨b',B',m',_,hb',q1,q2,q3,q4⟩
  ·exact k3 h
  ·exact k4 b' B' m' q1 q3 q4
 have hC3:sig.al=false→∀ z b i,b∉lent→s2.Kid z=some (b,i)→z∉idss.flatten∧¬ Ban z:=by
  intro hal z b i _ hz
  exact ⟨hkn z _ hz,fun h=>absurd (hal.symm.trans h.1) (by decide)⟩
 have hand:=Qut hC1 hC2 hC3 tm2 tr2
 have hun:=Qbk sig.ptys h3
 rw [← hun] at hand
 obtain ⟨v,H',rvs,rids,oids,c1,rfl,c3,c4,c5,c6,c7,c8,c9⟩:=hF a y h4 s2.H Ban ws idss (by
   rintro z ⟨_,⟨h,_⟩ | h⟩
   ·exact t2.own_lt h
   ·exact (t2.ban z (by rw [hban];exact h)).1) (by rw [hgH];exact hs.limH) nd (by
   rintro z hz ⟨_,⟨_,h⟩ | h⟩
   ·exact h hz
   ·exact (t2.ban z (by rw [hban];exact h)).2 (hidOwn z hz)) hand
 rw [hgH] at c1
 rw [c1];simp only [Q1]
 have hr2:Qw (ER s2) args ws:=Qw.mono (fun _ _=>(k1.trans k2).ER) hr
 have hfl:sig.al=false→Qw (fun k t=>Qi1 k t=true) (sig.results.map fun q=>kdR q.1) (sig.results.map fun q=>q.2)∧Qw (fun k t=>Qi1 k t=true) (Q8c sig.params) (Qc3 sig.params):=by
  intro hal
  unfold Sig.al at hal
  simp only [Bool.or_eq_false_iff] at hal
  exact ⟨Qn4 hal.1,Qq5 hal.2⟩
 let N':Nat→Prop:=fun z=>z∉rids.flatten++oids.flatten∧¬ Ban z
 have htys:=Qq4 sig.rtys y
 have hre:∀ M:Nat→Prop,(sig.al=true→∀ z,N' z→M z)→HRs M H' s.lim (sig.results.map fun q=>kdR q.1) ((unT sig.rtys y).take sig.results.length) rvs rids:=by
  intro M hM
  cases hal:sig.al with
  | true=>exact c8.frame (fun z hz _=>⟨hM hal z hz,rfl⟩) (fun _ _=>rfl)
  | false =>
   refine c8.flat (ts:=sig.results.map fun q=>q.2) ?_ (hfl hal).1
   rw [List.map_take,htys];unfold Sig.rtys
   rw [List.take_append_of_le_length (by simp),Zs (by simp)]
 have hou:∀ M:Nat→Prop,(sig.al=true→∀ z,N' z→M z)→HRs M H' s.lim (Q8c sig.params) ((unT sig.rtys y).drop sig.results.length) (Qbj sig.params ws) oids:=by
  intro M hM
  cases hal:sig.al with
  | true=>exact c9.frame (fun z hz _=>⟨hM hal z hz,rfl⟩) (fun _ _=>rfl)
  | false =>
   refine c9.flat (ts:=Qc3 sig.params) ?_ (hfl hal).2
   rw [List.map_drop,htys];unfold Sig.rtys
   rw [List.drop_append_of_le_length (by simp),List.drop_of_length_le (by simp)];simp
 let N2:Nat→Prop:=fun z=>sig.al=true∧N' z
 have hfalse:∀ z,False→N2 z:=fun _ h=>h.elim
 have hR2:=hre N2 (fun hal z hz=>⟨hal,hz⟩)
 have hO2:=hou N2 (fun hal z hz=>⟨hal,hz⟩)
 rw [Zn] at c5
 obtain ⟨ht1,ht2⟩:=Q2n hO2
 obtain ⟨ht3,ht4⟩:=ht2 c5.2.1
 have hmem:∀ z,(z∈rids.flatten∨z∈(Q1c sig.params oids).flatten)→z∈rids.flatten++oids.flatten:=by
  rintro z (h | h)
  ·exact List.mem_append.2 (.inl h)
  ·exact List.mem_append.2 (.inr ((ht1 z).2 (.inr h)))
 obtain ⟨sA,e1,e2,e3,k3,t3,li3,n3⟩:=Qde (Kn:=s2.Kid) (N:=N2) (ids:=fun z=>z∈idss.flatten) (rids:=fun z=>z∈rids.flatten∨z∈(Q1c sig.params oids).flatten) (oids:=fun z=>z∈Q1o sig.params oids) t2 f1 f2 f3 f4 (fun c hc=>by
   obtain ⟨B',b1,b2,b3⟩:=Q6f h5 ln1 hr2 hO2 c hc
   exact ⟨B',b1,fun sA q1 q2 q3 q4 _ q5=>b2 sA q1 q2 q3 (by rw [q4,hlim2]) q5,b3⟩) (fun z hz=>by
   rcases idm z hz with ⟨h,_⟩ | ⟨b,B,m,_,hb,q1,q2,q3,q4⟩
   ·exact .inl h
   ·exact .inr (.inl ⟨b,B,m,(hlent b).1 hb,q1,q2,q3,q4⟩)) (fun z p hp=>by
   obtain ⟨k1',k2',k3',k4'⟩:=t2.kl z p hp
   have hnid:=hkn z p hp
   refine ⟨k2',Zm k1' c3,by rw [c4 z k1' hnid];exact t2.ka z p hp,fun hz=>?_,fun h=>k3' h.1,fun c C m g1 g2=>?_,.inl (.inr (.inr ⟨p,hp⟩))⟩
   ·rcases c6 z (hmem z hz) with h | h
    ·exact hnid h
    ·omega
   ·by_cases hc:c∈Qo sig.params args
    ·obtain ⟨B,B',b1,_⟩:=f4 c hc
     exact k4' c B m b1 g2
    ·rw [f3 c hc] at g1;exact k4' c C m g1 g2) (fun z b i B _ _ hp=>hp) c3 c4 (fun z hz hz'=>by
   rcases hz with hz | hz
   ·exact c5.2.2 z hz z ((ht1 z).2 (.inl hz')) rfl
   ·exact ht4 z hz' hz) (fun z hz=>c6 z (hmem z hz)) (fun z hz=>by
   rcases hz with hz | hz
   ·exact hR2.lts z hz
   ·exact hO2.lts z ((ht1 z).2 (.inr hz))) (fun sA ho hb z hz=>by
   obtain ⟨hal,hz1,hz2⟩:=hz
   simp only [Zh,not_or] at hz1
   refine ⟨fun hown=>?_,fun hban'=>hz2 ⟨hal,.inr (by rw [hb,hban] at hban';exact hban')⟩⟩
   rcases ho z hown with ⟨b,B,m,q1,q2,q3,q4,q5⟩ | ⟨q1,q2⟩ | q1 | q1 | ⟨p,q1⟩
   rotate_right
   ·exact hz2 ⟨hal,.inl ⟨.inr (.inr ⟨p,q1⟩),hkn z p q1⟩⟩
   ·rw [f3 b q5] at q1
    refine hz2 ⟨hal,.inl ⟨.inl ⟨b,B,m,q1,q2,q3,q4⟩,fun h=>?_⟩⟩
    rcases idm z h with ⟨h,_⟩ | ⟨b',B',m',_,hb',p1,p2,p3,p4⟩
    ·exact t2.lm b B m q1 q3 (q4▸h)
    ·have:=t2.inj b' b B' B m' m p1 q1 p2 p3 q3 (p4.trans q4.symm)
     subst this;exact q5 ((hlent _).1 hb')
   ·exact hz2 ⟨hal,.inl ⟨.inr (.inl q1),q2⟩⟩
   ·rcases q1 with q1 | q1
    ·exact hz1.1 q1
    ·exact hz1.2 ((ht1 z).2 (.inr q1))
   ·exact hz1.2 ((ht1 z).2 (.inl q1)))
 have hlimA:sA.lim=s.lim:=k3.lim.trans hlim2
 have hcb:CBs sA sA.lim (Q6x sig.params args ((unT sig.rtys y).drop sig.results.length)) (Q1c sig.params oids):=by
  rw [hlimA]
  exact Q6g (s:=s2) e3 e2 (by rw [e1,f1]) n3 h5 hr2 hO2 (fun z hz=>(li3 z).2 (.inr (.inr hz)))
 rw [← e1] at h5b
 obtain ⟨sB,b1,b2,b3,b4,b5,b6⟩:=Qbo t3 hcb (fun z hz=>(li3 z).2 (.inr (.inr hz))) ht3 h5b
 rw [← b1] at h6
 have hlimB:sB.lim=s.lim:=b3.lim.trans hlimA
 have hRA:HRs sB.N sB.H sB.lim (sig.results.map fun q=>kdR q.1) ((unT sig.rtys y).take sig.results.length) rvs rids:=by
  rw [hlimB,b2,e2];exact hR2.frame (fun z hz _=>⟨b5 z (n3 z hz),rfl⟩) (fun _ _=>rfl)
 obtain ⟨s4,q1,q2,q3,q4,q5⟩:=Qi7 b4 hRA (fun z hz=>b6 z ((li3 z).2 (.inr (.inl hz))) (fun h=>c5.2.2 z hz z ((ht1 z).2 (.inr h)) rfl)) c5.1 h6
 rw [← q1] at h
 have:=hK (Qkd pvs) (Q3a rvs) s4 ((((k1.trans k2).trans k3).trans b3).trans q3) q4 (Qi8 q5) h
 rw [q2,b2,e2] at this;exact this
end
structure XOk {A:AnnV} {β:Type} (X:CxV A β) (XE:Cx):Prop where
 P:X.P=XE.P
 nt:X.nt=XE.nt
 ann:X.eann=XE.ann
 fuel:XE.fuel=A.fuel
 call:∀ f,A.inline f=false→Qt1 (A.sig f) (X.call f) (XE.call f) XE.lim
 inl:∀ f,A.inline f=true→∀ {γ:Type} {args:List PV} {ws:List Value} {s:S} {KV:PV→LS→Option β} {KE:Value→Heap→Option γ} {r:β} {Q:γ→Prop},StR s→s.lim=XE.lim→Qw (ER s) args ws→KOk s r KV KE Q→X.inl f args s.L KV=some r →
  ∃ y,(Q1 (XE.call f ws XE.lim s.H) fun q=>KE q.1 q.2)=some y∧Q y
theorem LRs.ers {s:S} {ps:List PV} {vs:List Value} (h:LRs s ps vs):Qw (ER s) ps vs:=Qw.mono (fun _ _=>ER.of0) h
section
variable {A:AnnV} {β γ:Type} {s:S} {env:Q0n} {e:Env} {X:CxV A β} {XE:Cx} {o:Oper} {r:β} {Q:γ→Prop}
theorem Qi9 {H:Heap} {z:Nat} {k:Blk} (h:hget H z=some k):H.set z (some k)=H:=by
 unfold hget at h
 split at h
 ·rename_i k' hk
  injection h with h;subst h
  obtain ⟨hlt,e⟩:=Z0 hk
  rw [← e];exact List.set_getElem_self hlt
 ·simp at h
theorem Qt2 {c:List Value} {j:Nat} {v:Value} (h:c[j]? = some v):lay c j [v]=c:=by
 have hlt:=(Z0 h).1
 apply List.ext_getElem?;intro i
 rw [Qaj _ _ _ hlt]
 split
 ·rename_i e;subst e;exact h.symm
 ·rfl
theorem Qt3 {f:FuncId} {b i ver:Nat} {w:Ty} {x:List w.T} {rest:List PV} {wv:Value} {ws:List Value} {callE:List Value→Nat→Heap→Option (Value×Heap)} {KV:PV→LS→Option β} {KE:Value→Heap→Option γ} (hs:StR s) (hr1:LR0 s (.rw b i ver w x) wv) (hr2:Qw (ER s) rest ws) (hfl:w.flat=true)
  (hK:KOk s r KV KE Q) (hF:Qt1 (A.sig f) (X.call f) callE s.lim) (h:(Qwv b i ver w x s.L fun L2 n=>Qc8 X f (.osl n 0 none::rest) L2 fun u L3=>Qlu b i (ver+1) w n L3 fun L4=>KV u L4)=some r) :
  ∃ y,(Q1 (callE (wv::ws) s.lim s.H) fun q=>KE q.1 q.2)=some y∧Q y:=by
 unfold Qwv at h
 split at h
 ·rename_i v0 t xs hb
  replace h:=ob h;obtain ⟨y,hy,h⟩:=h
  unfold oif at h;split at h
  ·rename_i hlen
   have hlen:=Z7 hlen
   replace h:=ob h;obtain ⟨⟨x1,L1⟩,ht,h⟩:=h
   simp only at h
   obtain ⟨s1,ids,l1,g1,u1,k1,t1,ho,hlm,hnl,hnd,hown⟩:=Qi3 hs hr1 ht
   have ho':Qit s1.N s1.H s1.lim w x1 wv ids:=by rw [k1.lim];exact ho
   obtain ⟨s2,l2,g2,k2,t2,q2,n2,m2⟩:=Q5w t1 ho' (fun z hz=>(hlm z).2 (.inr hz))
   have hno:∀ t,w=.os t→t.flat=false:=fun t e=>by subst e;simp [Ty.flat] at hfl
   rw [Qi5 x1 hno] at l2
   obtain ⟨hv0,hL1⟩:v0=ver∧L1=Q2h s.L b ⟨v0+1,true,.rows t xs (some i)⟩:=by
    unfold Q7d at ht
    simp only [hb] at ht
    split at ht
    ·rename_i hv
     replace ht:=ob ht;obtain ⟨z,_,ht⟩:=ht
     simp at ht
     exact ⟨Z7 hv,ht.2.symm⟩
    ·simp at ht
   subst hv0
   obtain ⟨hlb,_,hval⟩:LR0 s (.rw b i v0 w x) wv:=hr1
   obtain ⟨_,_,hwh⟩:=(hval _ hb).2 rfl
   have hb1:Qi L1 b=some ⟨v0+1,true,.rows t xs (some i)⟩:=by rw [hL1];exact Qq hlb
   have hb2:Qi s2.L b=some ⟨v0+1,true,.rows t xs (some i)⟩:=by
    rw [l2,Qz (by rw [l1];exact Qn hb1),l1];exact hb1
   have k12:=k1.trans k2
   rw [l1] at l2 q2
   rw [← l2] at h
   obtain ⟨hj,ej⟩:=Z0 hy
   obtain ⟨_,hft,⟨_,hx0⟩ | ⟨m,k,hm,a1,a2,a3,a4,a5,a6,a7⟩⟩:=Q09 hs hb
   ·rw [hx0] at hj;simp at hj
   have hcell:=(hwh _ _ _ _ m k hb rfl hm a3 y hy).2 hlen
   have hl2:s2.lim=s.lim:=k12.lim
   have hH2:s2.H=s.H:=g2.trans g1
   unfold Qc8 at h
   have main:=Qfb (s:=s2) (KE:=KE) (Q:=Q) (sig:=A.sig f) (call:=X.call f) (callE:=callE) (by rw [hl2];exact hF) t2 (args:=.osl L1.bl.length 0 none::rest) (ws:=wv::ws) ⟨ER.of0 q2,Qw.mono (fun _ _=>k12.ER) hr2⟩ (KV:=fun u L3=>Qlu b i (v0+1) w L1.bl.length L3 fun L4=>KV u L4) (r:=r) (by
    intro pv v s3 k3 t3 r3 h3
    simp only at h3
    unfold Qlu at h3
    replace h3:=ob h3;obtain ⟨⟨x2,L4⟩,ht3,h3⟩:=h3
    have q3:LR0 s3 (.osl L1.bl.length 0 none) wv:=k3.LR0 q2
    obtain ⟨s4,l4,g4,u4,k4,t4,rc,lm4,_,_⟩:=Qbz t3 hfl q3 ht3
    simp only at h3
    rw [← l4] at h3
    split at h3
    ·rename_i v' e xs' h' hb4
     split at h3
     ·rename_i hv4
      have hv4:=Z7 hv4
      subst hv4
      replace h3:=ob h3;obtain ⟨z,hz,h3⟩:=h3
      have k34:=k3.trans k4
      obtain ⟨B0,e1,e2,e3⟩:=k34.live b _ (Qn hb2) hb4
      rw [hb2] at e1;injection e1 with e1;subst e1
      obtain ⟨eB,eh,_⟩:=e3 rfl
      injection eB with _ _ eB
      injection eB with eB1 eB2 eB3
      subst eB1
      replace eB2:=eq_of_heq eB2
      subst eB2 eB3
      have ew:=Qp hz
      injection ew with ew;subst ew
      have:=Qg hz;subst this
      have hm2:s2.μ b=some m:=by rw [k12.mu b (Qn hb)];exact hm
      have hm4:s4.μ b=some m:=by rw [k34.mu b (Qn hb2)];exact hm2
      have hk4:hget s4.H m.z=some k:=by rw [eh m hm2,hH2];exact a3
      have hp:Qa wv wv=true:=by
       rcases rc with ⟨_,e⟩ | ⟨_,_,_,e,_⟩<;>rw [e]<;>simp [Qa]
      obtain ⟨s5,l5,g5,k5,t5,_⟩:=Qc0 t4 hb4 hm4 hk4 hj (.inr rfl) (y:=x2) (v:=wv) (by
       rw [k4.lim];exact rc.mono hfl (fun z hz=>⟨.inl hz.1,by rw [g4]⟩)) hp
      have hkk:(⟨lay k.cells (m.sh+i) [wv],false,k.mp⟩:Blk)=k:=by
       rw [Qt2 hcell]
       obtain ⟨kc,kr,km⟩:=k
       simp only at a5;rw [a5]
      rw [hkk,Qi9 hk4,g4] at g5
      have:=hK pv v s5 (k12.trans (k34.trans k5)) t5 ((k4.trans k5).ER r3) (by rw [l5];exact h3)
      rw [g5] at this;exact this
     ·simp at h3
    ·simp at h3) h
   rw [hl2,hH2] at main
   exact main
  ·simp at h
 ·simp at h
theorem Qn5 {f:FuncId} {args:List PV} {ws:List Value} {callE:List Value→Nat→Heap→Option (Value×Heap)} {KV:PV→LS→Option β} {KE:Value→Heap→Option γ} (hs:StR s) (hr:Qw (ER s) args ws)
  (hK:KOk s r KV KE Q) (hF:Qt1 (A.sig f) (X.call f) callE s.lim) (h:Qqr X f args s.L KV=some r) :
  ∃ y,(Q1 (callE ws s.lim s.H) fun q=>KE q.1 q.2)=some y∧Q y:=by
 unfold Qqr at h
 split at h
 ·rename_i b i ver w x rest
  cases ws with
  | nil=>exact absurd hr id
  | cons wv ws =>
   split at h
   ·split at h
    ·rename_i hfl
     exact Qt3 hs hr.1 hr.2 hfl hK hF h
    ·simp at h
   ·unfold Qc8 at h;exact Qfb hF hs hr hK h
 ·unfold Qc8 at h;exact Qfb hF hs hr hK h
theorem Qt4 {c:Call} {KV:PV→LS→Option β} {KE:Value→Heap→Option γ} (hX:XOk X XE) (hlim:s.lim=XE.lim) (ho:o.op=.call c) (hs:StR s) (he:Q25 s env e) (hK:KOk s r KV KE Q) (h:vop X o env s.L KV=some r):∃ y,Q38 XE o e s.H KE=some y∧Q y:=by
 simp only [vop,ho] at h;simp only [Q38,ho]
 split at h
 ·rename_i b hc
  rw [hc];simp only
  replace h:=ob h;obtain ⟨ps,h1,h⟩:=h
  obtain ⟨vs,e1,r1⟩:=Q8l he h1
  rw [e1];simp only [Q1]
  exact Qjw hX.P hlim.symm hs r1 hK h
 ·rename_i f hc
  rw [hc];simp only
  replace h:=ob h;obtain ⟨g,h1,h⟩:=h
  replace h:=ob h;obtain ⟨ps,h2,h⟩:=h
  obtain ⟨gv,e1,r1⟩:=Q01 he h1
  obtain ⟨vs,e2,r2⟩:=Q8l he h2
  rw [e1,e2];simp only [Q1]
  split at h
  ·rename_i n first cap
   obtain ⟨fa,ca,rfl,q1,q2⟩:=r1
   simp only
   have hr:Qw (ER s) (first++ps++cap) (fa++vs++ca):=Qw.append (Qw.append q1.ers r2) q2.ers
   have hK':KOk s r (fun u L'=>match Qlb X.P o.type with
     | some tm=>match fitT tm u with
      | true=>KV u L'
      | false=>none
     | none=>KV u L') (fun v H=>match Qlb XE.P o.type with
     | some tm=>Qh8 tm v fun u=>KE u H
     | none=>KE v H) Q:=by
    intro pv v s' hk hs' hr' h
    simp only at h
    rw [← hX.P]
    split at h
    ·rename_i tm htm
     split at h
     ·rename_i hf
      simp only [htm]
      rw [Qr3 hr' hf]
      exact hK pv v s' hk hs' hr' h
     ·simp at h
    ·rename_i htm
     simp only [htm]
     exact hK pv v s' hk hs' hr' h
   unfold Qzk at h
   split at h
   ·rename_i hi
    exact hX.inl n hi hs hlim hr hK' h
   ·rename_i hi
    have hF:=hX.call n hi
    rw [← hlim] at hF ⊢
    exact Qn5 hs hr hK' hF h
  ·simp at h
 ·simp at h
theorem Qq6 {KV:PV→LS→Option β} {KE:Value→Heap→Option γ} (hX:XOk X XE) (hlim:s.lim=XE.lim) (hs:StR s) (he:Q25 s env e) (hK:KOk s r KV KE Q) (h:vop X o env s.L KV=some r):∃ y,Q38 XE o e s.H KE=some y∧Q y:=by
 cases hop:o.op with
 | move x=>simp only [vop,hop] at h;simp only [Q38,hop];exact Qai hs he hK h
 | assign x=>simp only [vop,hop] at h;simp only [Q38,hop];exact Qai hs he hK h
 | pick c a b=>exact Qt6 hop hs he hK h
 | alloc t=>exact Qql hX.P hop hs he hK h
 | box t x=>exact Qwk hop hs he hK h
 | build t ps=>exact Qqd hX.P hop hs he hK h
 | buildSlice t n ps=>exact Qco hX.P hop hs he hK h
 | load t a=>exact Qtb hX.P hop hs he hK h
 | store t a x=>exact Qqn hX.P hlim.symm hop hs he hK h
 | nilCheck x=>exact Qih hop hs he hK h
 | binOp op t x y u=>exact Qqh hX.P hop hs he hK h
 | unOp op t x=>exact Qt7 hop hs he hK h
 | convert a b x=>exact Qk5 hX.P hop hs he hK h
 | makeFunc fn a b =>
  cases fn with
  | func f=>exact Qid hop hs he hK h
  | _=>simp [vop,hop] at h
 | makeSlice t l c=>exact Qfl hX.P hop hs he hK h
 | slice t x lo hi mx =>
  cases mx with
  | none=>exact Qq2 hX.P hop hs he hK h
  | some m=>simp [vop,hop] at h
 | fieldAddr t x f=>exact Qfh hX.P hop hs he hK h
 | field t x f=>exact Qqe hX.P hop hs he hK h
 | indexAddr t x i=>exact Qfk hX.P hop hs he hK h
 | index t x i=>exact Qqf hX.P hop hs he hK h
 | extract x i=>exact Qjz hop hs he hK h
 | call c=>exact Qt4 hX hlim hop hs he hK h
 | _=>simp [vop,hop] at h
theorem Qia {v:PV} {F:Nat→Option β} (h:mapP v F=some r):∃ b,v=.mp b∧F b=some r:=by
 unfold mapP at h
 split at h
 ·exact ⟨_,rfl,h⟩
 ·simp at h
theorem Qbp {v:PV} {F:Int→Option β} (h:Qzh v F=some r):∃ n,v=.int .i64 n∧F n=some r:=by
 unfold Qzh at h
 split at h
 ·exact ⟨_,rfl,h⟩
 ·simp at h
theorem Qib (hs:StR s) {b:Nat} {q:Nat×List (Int×Int)} (h:lmap s.L b=some q):Qi s.L b=some ⟨q.1,true,.mp q.2⟩∧∃ m,s.μ b=some m∧m.sh=0∧s.lim≤m.z∧Qw6 s.H m.z=some q.2:=by
 unfold lmap at h
 split at h
 ·rename_i ver es hb
  injection h with h;subst h
  have hB:=hs.blk b _ hb
  unfold BR at hB;simp only at hB
  obtain ⟨_,m,k,h1,h2,h3,h4,h5,h6,_⟩:=hB
  refine ⟨hb,m,h1,h2,h6,?_⟩
  unfold Qw6;rw [h3];simp only [Q1,h5,h4]
 ·simp at h
theorem Qt5 {KV:PV→LS→Option β} {KE:Value→Heap→Option γ} (hX:XOk X XE) (hlim:s.lim=XE.lim) (hs:StR s) (he:Q25 s env e) (hK:KOk s r KV KE Q) (h:Quz X o env s.L KV=some r):∃ y,Qer XE o e s.H KE=some y∧Q y:=by
 cases hop:o.op with
 | makeMap t n =>
  cases n with
  | none =>
   simp only [Quz,hop] at h;simp only [Qer,hop]
   obtain ⟨s',e1,e2,e3,k,t'⟩:=hs.pushK (.mp []) ⟨[],false,some []⟩ ⟨s.H.length,0,0,0⟩ rfl (fun s' hk hm hg hN=>by
    unfold BR;simp only
    exact ⟨trivial,_,_,hm,rfl,hg,rfl,rfl,by rw [hk.lim];exact hs.limH,rfl⟩)
   rw [← e1] at h
   have:=hK (.mp s.L.bl.length) (.map (some s.H.length)) s' k t' (ER.of0 ⟨by rw [e1,Qk];omega,_,e3,rfl⟩) h
   rw [e2] at this
   exact this
  | some x =>
   simp only [Quz,hop,vop] at h
   simp at h
 | mapUpdate t m k v =>
  simp only [Quz,hop] at h;simp only [Qer,hop,← hX.P]
  split at h
  ·rename_i ht
   simp only [ht]
   replace h:=ob h;obtain ⟨mv,hm,h⟩:=h
   replace h:=ob h;obtain ⟨kv,hk,h⟩:=h
   replace h:=ob h;obtain ⟨vv,hv,h⟩:=h
   replace h:=Qia h;obtain ⟨b,rfl,h⟩:=h
   replace h:=Qbp h;obtain ⟨a,rfl,h⟩:=h
   replace h:=Qbp h;obtain ⟨u,rfl,h⟩:=h
   replace h:=ob h;obtain ⟨q,hq,h⟩:=h
   obtain ⟨w1,f1,⟨_,m',g1,rfl⟩⟩:=Q01 he hm
   obtain ⟨w2,f2,r2⟩:=Q01 he hk
   obtain ⟨w3,f3,r3⟩:=Q01 he hv
   obtain rfl:w2=.int .i64 a:=r2
   obtain rfl:w3=.int .i64 u:=r3
   obtain ⟨hb,m2,h1,h2,h3,h4⟩:=Qib hs hq
   rw [g1] at h1;injection h1 with h1;subst h1
   simp only [f1,f2,f3,Q1,Qx3,Qw7,h4]
   obtain ⟨s',e1,e2,e3,k',t'⟩:=hs.set hb rfl g1 ⟨q.1+1,true,.mp (Q94 q.2 a u)⟩ rfl rfl ⟨[],false,some (Q94 q.2 a u)⟩ (fun s' hk hm hg hN=>by
    unfold BR;simp only
    exact ⟨trivial,_,_,hm,h2,hg,rfl,rfl,by rw [hk.lim];exact h3,rfl⟩)
   rw [← e1] at h
   have:=hK .undef undef s' k' t' rfl h
   rw [e2] at this
   exact this
  ·simp at h
 | lookup t m k ok =>
  simp only [Quz,hop] at h;simp only [Qer,hop,← hX.P]
  split at h
  ·rename_i ht
   simp only [ht]
   replace h:=ob h;obtain ⟨mv,hm,h⟩:=h
   replace h:=ob h;obtain ⟨kv,hk,h⟩:=h
   replace h:=Qia h;obtain ⟨b,rfl,h⟩:=h
   replace h:=Qbp h;obtain ⟨a,rfl,h⟩:=h
   replace h:=ob h;obtain ⟨q,hq,h⟩:=h
   obtain ⟨w1,f1,⟨_,m',g1,rfl⟩⟩:=Q01 he hm
   obtain ⟨w2,f2,r2⟩:=Q01 he hk
   obtain rfl:w2=.int .i64 a:=r2
   obtain ⟨hb,m2,h1,h2,h3,h4⟩:=Qib hs hq
   rw [g1] at h1;injection h1 with h1;subst h1
   simp only [f1,f2,Q1,Qx3,Qw7,h4]
   refine hK.here hs ?_ h
   cases ok with
   | true=>exact ⟨_,rfl,rfl,rfl,trivial⟩
   | false=>exact rfl
  ·simp at h
 | _ =>
  have hV:Quz X o env s.L KV=vop X o env s.L KV:=by simp only [Quz,hop]
  have hE:Qer XE o e s.H KE=Q38 XE o e s.H KE:=by simp only [Qer,hop]
  rw [hV] at h;rw [hE]
  exact Qq6 hX hlim hs he hK h
def Q6h (W:List Nat) (env env':Q0n) (e e':Env):Prop:=∀ q,q∉W→Q3c env' q=none∨(Q3c env' q=Q3c env q∧Q2e e' q=Q2e e q)
theorem Q6h.refl (W:List Nat) (env:Q0n) (e:Env):Q6h W env env e e:=fun _ _=>.inr ⟨rfl,rfl⟩
theorem Q6h.trans {W:List Nat} {env env' env'':Q0n} {e e' e'':Env} (h:Q6h W env env' e e') (g:Q6h W env' env'' e' e''):Q6h W env env'' e e'':=by
 intro q hq
 rcases g q hq with g1 | ⟨g1,g2⟩
 ·exact .inl g1
 ·rcases h q hq with h1 | ⟨h1,h2⟩
  ·exact .inl (g1.trans h1)
  ·exact .inr ⟨g1.trans h1,g2.trans h2⟩
theorem Q6h.mono {W V:List Nat} {env env':Q0n} {e e':Env} (h:Q6h W env env' e e') (hs:∀ q,q∈W→q∈V):Q6h V env env' e e':=fun q hq=>h q (fun hw=>hq (hs q hw))
theorem Q6h.cons {W:List Nat} {env:Q0n} {e:Env} {d:Nat} {p:PV} {v:Value} (hd:d∈W):Q6h W env ((d,p)::env) e ((d,v)::e):=by
 intro q hq
 have hne:Nat.beq d q=false:=by
  cases hb:Nat.beq d q with
  | false=>rfl
  | true=>exact absurd (Z7 hb▸hd) hq
 right;simp only [Q3c,Q2e,hne];exact ⟨trivial,trivial⟩
def COk (W:List Nat) (env0:Q0n) (e0:Env) (s:S) (r:β) (KV:Q0n→LS→Option β) (KE:Env→Heap→Option γ) (Q:γ→Prop):Prop :=
 ∀ env e s',Keep s s'→StR s'→Q25 s' env e→Q6h W env0 env e0 e→KV env s'.L=some r→∃ y,KE e s'.H=some y∧Q y
theorem Qdf {ops:Array Oper} {W:List Nat} {KV:Bool→Q0n→Option β} {KE:Bool→Env→Option γ} (hW:∀ (j:Nat) (d:Nat),(ops[j]?).bind (fun (x:Oper)=>x.dst)=some d→d∈W) (he:Q25 s env e) (h:Qfr ops o env KV=some r) (hK:∀ t env' e',Q25 s env' e'→Q6h W env env' e e'→KV t env'=some r→∃ y,KE t e'=some y∧Q y):∃ y,Q5m ops o e KE=some y∧Q y:=by
 unfold Qfr at h;unfold Q5m
 cases hg:o.guard with
 | none=>rw [hg] at h;exact hK _ _ _ he (Q6h.refl _ _ _) h
 | some jw =>
  obtain ⟨j,want⟩:=jw
  rw [hg] at h
  simp only at h ⊢
  cases hd:(ops[j]?).bind (·.dst) with
  | none=>rw [hd] at h;simp at h
  | some d =>
   rw [hd] at h
   simp only at h ⊢
   replace h:=ob h;obtain ⟨p,h1,h⟩:=h
   obtain ⟨v,e1,r1⟩:=he.get h1
   simp only [e1,Q1]
   split at h
   ·rename_i b
    obtain rfl:v=.bool b:=r1
    simp only
    cases b with
    | true=>simp only [oif] at h ⊢;exact hK _ _ _ (he.cons (p:=.bool true) rfl) (Q6h.cons (hW j d hd)) h
    | false=>simp only [oif] at h ⊢;exact hK _ _ _ (he.cons (p:=.bool false) rfl) (Q6h.cons (hW j d hd)) h
   ·obtain rfl:v=undef:=r1
    exact hK _ _ _ he (Q6h.refl _ _ _) h
   ·simp at h
theorem Qfc {nt:Nat} {W:List Nat} {dst:Option Tmp} {p:PV} {v:Value} {KV:Q0n→Option β} {KE:Env→Option γ} (hW:∀ d,dst=some d→d∈W) (he:Q25 s env e) (hr:ER s p v) (h:Qnj nt dst p env KV=some r) (hK:∀ env' e',Q25 s env' e'→Q6h W env env' e e'→KV env'=some r→∃ y,KE e'=some y∧Q y):∃ y,Quj nt dst v e KE=some y∧Q y:=by
 unfold Qnj at h;unfold Quj
 split at h
 ·exact hK _ _ he (Q6h.refl _ _ _) h
 ·rename_i d
  split at h
  ·rename_i hd;simp only [hd];exact hK _ _ (he.cons hr) (Q6h.cons (hW d rfl)) h
  ·simp at h
theorem Qfd {ops:Array Oper} {W:List Nat} {KV:Q0n→LS→Option β} {KE:Env→Heap→Option γ} (hX:XOk X XE) (hW:∀ (j:Nat) (d:Nat),(ops[j]?).bind (fun (x:Oper)=>x.dst)=some d→d∈W) (env0:Q0n) (e0:Env):∀ {l:List Oper} {s:S} {env:Q0n} {e:Env},(∀ o∈l,∀ d,o.dst=some d→d∈W)→s.lim=XE.lim→StR s→Q25 s env e→Q6h W env0 env e0 e→COk W env0 e0 s r KV KE Q→Qzl X ops l env s.L KV=some r→∃ y,Qes XE ops l e s.H KE=some y∧Q y
 | [],s,env,e,_,hlim,hs,he,hu,hK,h=>hK env e s (Keep.refl s) hs he hu h
 | o::l,s,env,e,hl,hlim,hs,he,hu,hK,h=>by
  simp only [Qzl] at h;simp only [Qes]
  refine Qdf hW he h (fun t env' e' he' hu' h=>?_)
  cases t with
  | true =>
   simp only at h ⊢
   refine Qt5 hX hlim hs he' (fun pv v s' hk hs' hr h=>?_) h
   rw [hX.nt] at h
   refine Qfc (hl o (by simp)) (hk.env he') hr h (fun env2 e2 he2 hu2 h=>?_)
   exact Qfd hX hW env0 e0 (fun o ho=>hl o (by simp [ho])) (hk.lim.trans hlim) hs' he2 ((hu.trans hu').trans hu2) (fun env3 e3 s3 k3=>hK env3 e3 s3 (hk.trans k3)) h
  | false =>
   simp only at h ⊢
   rw [hX.nt] at h
   refine Qfc (hl o (by simp)) he' (p:=.undef) rfl h (fun env2 e2 he2 hu2 h=>?_)
   exact Qfd hX hW env0 e0 (fun o ho=>hl o (by simp [ho])) hlim hs he2 ((hu.trans hu').trans hu2) hK h
def TrR:List S→List (Q0n×LS)→List (Env×Heap)→Prop
 | [],[],[]=>True
 | s::ss,(env,L)::tr,(e,H)::te=>s.L=L∧s.H=H∧StR s∧Q25 s env e∧(∀ t∈ss,Keep t s)∧TrR ss tr te
 | _,_,_=>False
theorem Qbq {ops:Array Oper} {W:List Nat} {KV:List (Q0n×LS)→Q0n→LS→Option β} {KE:List (Env×Heap)→Env→Heap→Option γ} (hX:XOk X XE) (hW:∀ (j:Nat) (d:Nat),(ops[j]?).bind (fun (x:Oper)=>x.dst)=some d→d∈W) (env0:Q0n) (e0:Env) (s0:S):∀ {l:List Oper} {s:S} {env:Q0n} {e:Env} {ss:List S} {tr:List (Q0n×LS)} {te:List (Env×Heap)},(∀ o∈l,∀ d,o.dst=some d→d∈W)→s.lim=XE.lim→StR s→Q25 s env e→Q6h W env0 env e0 e→TrR ss tr te→(∀ t∈ss,Keep t s)→Keep s0 s→(∀ t∈ss,Keep s0 t) →
  (∀ env' e' s' ss' tr' te',Keep s s'→StR s'→Q25 s' env' e'→Q6h W env0 env' e0 e'→TrR (s'::ss') ((env',s'.L)::tr') ((e',s'.H)::te')→(∀ t∈s'::ss',Keep s0 t)→KV ((env',s'.L)::tr') env' s'.L=some r→∃ y,KE ((e',s'.H)::te') e' s'.H=some y∧Q y) →
  Qqv X ops l env s.L tr KV=some r→∃ y,Q5n XE ops l e s.H te KE=some y∧Q y
 | [],s,env,e,ss,tr,te,_,hlim,hs,he,hu,ht,hss,h0,hs0,hK,h =>
  hK env e s ss tr te (Keep.refl s) hs he hu ⟨rfl,rfl,hs,he,hss,ht⟩ (fun t ht'=>by rcases Z2 ht' with rfl | h1;exact h0;exact hs0 t h1) h
 | o::l,s,env,e,ss,tr,te,hl,hlim,hs,he,hu,ht,hss,h0,hs0,hK,h=>by
  simp only [Qqv] at h;simp only [Q5n]
  refine Qdf hW he h (fun t env' e' he' hu' h=>?_)
  have hall:∀ t∈s::ss,Keep s0 t:=fun t ht'=>by
   rcases Z2 ht' with rfl | h1
   ·exact h0
   ·exact hs0 t h1
  cases t with
  | true =>
   simp only at h ⊢
   refine Qq6 hX hlim hs he' (fun pv v s' hk hs' hr h=>?_) h
   rw [hX.nt] at h
   refine Qfc (hl o (by simp)) (hk.env he') hr h (fun env2 e2 he2 hu2 h=>?_)
   exact Qbq hX hW env0 e0 s0 (ss:=s::ss) (tr:=(env',s.L)::tr) (fun o ho=>hl o (by simp [ho])) (hk.lim.trans hlim) hs' he2 ((hu.trans hu').trans hu2) ⟨rfl,rfl,hs,he',hss,ht⟩ (fun t ht'=>by
    rcases Z2 ht' with rfl | h1
    ·exact hk
    ·exact (hss t h1).trans hk) (h0.trans hk) hall (fun env3 e3 s3 ss3 tr3 te3 k3=>hK env3 e3 s3 ss3 tr3 te3 (hk.trans k3)) h
  | false =>
   simp only at h ⊢
   rw [hX.nt] at h
   refine Qfc (hl o (by simp)) he' (p:=.undef) rfl h (fun env2 e2 he2 hu2 h=>?_)
   exact Qbq hX hW env0 e0 s0 (ss:=s::ss) (tr:=(env',s.L)::tr) (fun o ho=>hl o (by simp [ho])) hlim hs he2 ((hu.trans hu').trans hu2) ⟨rfl,rfl,hs,he',hss,ht⟩ (fun t ht'=>by
    rcases Z2 ht' with rfl | h1
    ·exact Keep.refl _
    ·exact hss t h1) h0 hall hK h
end
theorem Qbr:∀ {l:List Value},(∀ v∈l,Qa v v=true)→Q6t l l=true
 | [],_=>rfl
 | v::l,h=>by
  simp only [Q6t,Z8]
  exact ⟨h v (by simp),Qbr (fun w hw=>h w (List.mem_cons_of_mem _ hw))⟩
theorem Q6i {l:List Value} (h:∀ v∈l,Qa v v=true):Q1l (some (.agg l.toArray)) (some (.agg l.toArray))=true:=by
 simp [Q1l,Qbr h]
theorem Qjx {v:Value} (h:Qa v v=true):Q1l (some v) (some v)=true:=by
 unfold Q1l
 split
 ·rfl
 ·rename_i xs ys e1 e2
  injection e1 with e1;subst e1;simp [Qa] at h
 ·rename_i e1 e2;injection e1 with e1;injection e2 with e2;subst e1 e2;exact h
 ·rename_i h1 h2;exact absurd rfl (h2 v v rfl)
theorem ob1 {α β:Type} (a:α) (f:α→Option β):Q1 (some a) f=f a:=rfl
theorem Q2o {P:Program} {t:TypeId} {a:Operand} {e:Env} {H G:Heap} {z off:Nat} {k:Blk} (hv:ev e a=some (.pointer (some ⟨z,off,none⟩))) (hk:hget H z=some k) (hg:hget G z=some k)
  (hp:∀ i,P.info? t=some i→∀ j,j < max i.size 1→∀ v,k.cells[off+j]? = some v→Qa v v=true):Q1l (Q31 P (.load t a) e G) (Q31 P (.load t a) e H)=true:=by
 have hN:∀ n,Qx G ⟨z,off,none⟩ n=Qx H ⟨z,off,none⟩ n:=fun n=>by unfold Qx;simp only [hk,hg]
 have hL:Q2f G ⟨z,off,none⟩=Q2f H ⟨z,off,none⟩:=by unfold Q2f;simp only [hk,hg]
 simp only [Q31,Q7y hv,hv,ob1,Q5c,hN,hL]
 cases hi:P.info? t with
 | none=>rfl
 | some i =>
  simp only [ob1]
  have agg:Q1l (Q1 (Qx H ⟨z,off,none⟩ i.size) fun l=>some (.agg l.toArray)) (Q1 (Qx H ⟨z,off,none⟩ i.size) fun l=>some (.agg l.toArray))=true:=by
   cases hl:Qx H ⟨z,off,none⟩ i.size with
   | none=>rfl
   | some l =>
    refine Q6i (fun v hv=>?_)
    unfold Qx at hl;simp only [hk,Q1] at hl
    split at hl
    ·simp at hl;subst hl
     obtain ⟨j,hj,ej⟩:=List.getElem_of_mem hv
     have hjn:j < i.size:=by simp at hj;omega
     refine hp i hi j (by omega) v ?_
     have:((k.cells.drop off).take i.size)[j]? = some v:=by rw [Z6 hj,ej]
     rw [List.getElem?_take_of_lt hjn,Zp] at this;exact this
    ·simp at hl
  have leaf:Q1l (Q2f H ⟨z,off,none⟩) (Q2f H ⟨z,off,none⟩)=true:=by
   cases hl:Q2f H ⟨z,off,none⟩ with
   | none=>rfl
   | some v =>
    refine Qjx (hp i hi 0 (by omega) v ?_)
    unfold Q2f at hl;simp only [hk,Q1] at hl;simpa using hl
  cases P.underlying t with
  | none=>rfl
  | some d=>cases d<;>first | exact agg | exact leaf
theorem Q9f {P:Program} {s1 s2:TypeId} {a:Operand} {e:Env} {H G:Heap} {v:Value} {l:List Value} (hv:ev e a=some v) (hH:Qf H 1 v=some l) (hG:Qf G 1 v=some l) (hp:∀ w∈l,Qa w w=true):Q1l (Q31 P (.convert s1 s2 a) e G) (Q31 P (.convert s1 s2 a) e H)=true:=by
 simp only [Q31,hv,Q1,hH,hG]
 exact Q6i hp
theorem Qbs {P:Program} {o:Op} {e:Env} {H G:Heap} (h1:Q31 P o e H=none) (h2:Q31 P o e G=none):Q1l (Q31 P o e G) (Q31 P o e H)=true:=by rw [h1,h2];rfl
def Qzp (s t:S):Prop:=Keep s t∨Keep t s
theorem Qzp.same {s t:S} (h:Qzp s t) {b:Nat} (hv:Q9h s.L t.L b=true) {m:MB} (hm:s.μ b=some m):∃ B,Qi s.L b=some B∧Qi t.L b=some B∧hget t.H m.z=hget s.H m.z:=by
 unfold Q9h at hv
 split at hv
 ·rename_i x y hx hy
  have hv:=Z7 hv
  rcases h with h | h
  ·obtain ⟨B,b1,b2,b3⟩:=h.live b y (Qn hx) hy
   rw [hx] at b1;injection b1 with b1;subst b1
   obtain ⟨c1,c2,_⟩:=b3 hv
   subst c1
   exact ⟨y,hx,hy,c2 m hm⟩
  ·obtain ⟨B,b1,b2,b3⟩:=h.live b x (Qn hy) hx
   rw [hy] at b1;injection b1 with b1;subst b1
   obtain ⟨c1,c2,_⟩:=b3 hv.symm
   subst c1
   refine ⟨x,hx,hy,(c2 m ?_).symm⟩
   rw [← h.mu b (Qn hy)];exact hm
 ·simp at hv
theorem Qwh {P:Program} {s0 si sm:S} {c0:Nat} (hs:StR si) (k0i:Keep s0 si) (k0m:Keep s0 sm) (hc:c0≤s0.L.clk) (hold:∀ z,s0.Old c0 z→z < s0.H.length∧¬ Own s0 z) (hn:Qzp si sm) {env:Q0n} {e:Env} (he:Q25 si env e)
  {o:Op} (h:Qqw P c0 o env si.L sm.L=true):Q1l (Q31 P o e sm.H) (Q31 P o e si.H)=true:=by
 have fz:∀ {st z:Nat} {k:Blk},si.NN st z→st < c0→hget si.H z=some k→hget sm.H z=some k:=by
  intro st z k hnn hst hk
  have h1:=hnn.2 c0 hst (Nat.le_trans hc k0i.ck.1)
  rw [k0i.ck.2.1 c0 hc] at h1
  obtain ⟨h2,h3⟩:=hold z h1
  rw [k0m.fr z h2 h3,← k0i.fr z h2 h3];exact hk
 unfold Qqw at h
 split at h
 ·rename_i t a
  cases hg:Qci P t a with
  | some v =>
   obtain ⟨g,l,i,n,e',_,_,_,_,_,h2,rfl⟩:=Qd2 hg
   simp only [Q31,hg]
   refine Q6i fun v hv=>?_
   have:=Z3 h2 v hv
   unfold Qt at this
   split at this<;>simp_all [Qa]
  | none =>
  rw [hg] at h
  simp only at h
  cases hp:pev env a with
  | none =>
   rw [hp] at h
   have hev:ev e a=none:=by
    cases a with
    | tmp q=>have:=he q;rw [show Q3c env q=none from hp] at this;exact this
    | _=>simp [Qti] at h
   exact Qbs (by simp [Q31,hg,hev,Q1]) (by simp [Q31,hg,hev,Q1])
  | some p =>
   rw [hp] at h
   obtain ⟨v,e1,r1⟩:=Q01 he hp
   cases p with
   | rp st u x =>
    simp only [Z8] at h
    obtain ⟨z,oo,k,rfl,hnn,hk,hle,hrep⟩:=r1
    refine Q2o e1 hk (fz hnn (Q6z h.1) hk) (fun i hi j hj w hw=>?_)
    have h2:=h.2
    rw [hi] at h2
    have hsz:=Z7 h2
    have hpos:=Ty.size_pos u
    refine Rep.plain u hrep w (List.mem_iff_getElem?.2 ⟨j,?_⟩)
    rw [List.getElem?_take_of_lt (by omega),Zp];exact hw
   | ep b j fo =>
    obtain ⟨hlb,m,hm,rfl⟩:=r1
    obtain ⟨B,b1,b2,b3⟩:=hn.same h hm
    have hB:=hs.blk b B b1
    obtain ⟨ver,rw',bo⟩:=B
    cases bo with
    | cells cs =>
     unfold BR at hB;simp only at hB
     obtain ⟨_,m',k,hm',hsh,hk,hcs,_⟩:=hB
     rw [hm] at hm';injection hm' with hm';subst hm'
     refine Q2o e1 hk (by rw [b3];exact hk) (fun i hi j' hj w hw=>?_)
     have:∀ {cs:List PV} {vs:List Value},LRs si cs vs→∀ v∈vs,Qa v v=true:=by
      intro cs;induction cs with
      | nil=>intro vs h v hv;cases vs<;>simp_all [LRs,Qw]
      | cons p cs ih=>intro vs h v hv;match vs,h with
       | w::vs,h=>rcases Z2 hv with rfl | hv;exact h.1.plain;exact ih h.2 v hv
     exact this hcs w (Zc hw)
    | mp es =>
     unfold BR at hB;simp only at hB
     obtain ⟨_,m',k,hm',_,hk,_,_,_,hc0⟩:=hB
     rw [hm] at hm';injection hm' with hm';subst hm'
     refine Q2o e1 hk (by rw [b3];exact hk) (fun i hi j' hj w hw=>?_)
     rw [hc0] at hw;simp at hw
    | arr t' xs =>
     obtain ⟨a1,a2,k,a3,a4,a5,_⟩:=Q0k hs b1 hm
     refine Q2o e1 a3 (by rw [b3];exact a3) (fun i hi j' hj w hw=>?_)
     refine (Q3s hs b1 hm a3).2 w (List.mem_iff_getElem?.2 ⟨j*m.es+fo+j',?_⟩)
     rw [Zp,show m.sh+(j*m.es+fo+j')=m.sh+j*m.es+fo+j' by omega];exact hw
    | rows t' xs ho =>
     obtain ⟨_,_,⟨hm0,_⟩ | ⟨m',k,hm',a1,a2,a3,a4,_⟩⟩:=Q09 hs b1
     ·rw [hm] at hm0;simp at hm0
     rw [hm] at hm';injection hm' with hm';subst hm'
     refine Q2o e1 a3 (by rw [b3];exact a3) (fun i hi j' hj w hw=>?_)
     refine a4.2 w (List.mem_iff_getElem?.2 ⟨j*m.es+fo+j',?_⟩)
     rw [Zp,show m.sh+(j*m.es+fo+j')=m.sh+j*m.es+fo+j' by omega];exact hw
   | ptr b off =>
    obtain ⟨hlb,m,hm,hsh,rfl⟩:=r1
    obtain ⟨B,b1,b2,b3⟩:=hn.same h hm
    have hB:=hs.blk b B b1
    obtain ⟨ver,rw',bo⟩:=B
    cases bo with
    | cells cs =>
     unfold BR at hB;simp only at hB
     obtain ⟨_,m',k,hm',_,hk,hcs,_⟩:=hB
     rw [hm] at hm';injection hm' with hm';subst hm'
     refine Q2o e1 hk (by rw [b3];exact hk) (fun i hi j' hj w hw=>?_)
     have:∀ {cs:List PV} {vs:List Value},LRs si cs vs→∀ v∈vs,Qa v v=true:=by
      intro cs;induction cs with
      | nil=>intro vs h v hv;cases vs<;>simp_all [LRs,Qw]
      | cons p cs ih=>intro vs h v hv;match vs,h with
       | w::vs,h=>rcases Z2 hv with rfl | hv;exact h.1.plain;exact ih h.2 v hv
     exact this hcs w (Zc hw)
    | mp es =>
     unfold BR at hB;simp only at hB
     obtain ⟨_,m',k,hm',_,hk,_,_,_,hc0⟩:=hB
     rw [hm] at hm';injection hm' with hm';subst hm'
     refine Q2o e1 hk (by rw [b3];exact hk) (fun i hi j' hj w hw=>?_)
     rw [hc0] at hw;simp at hw
    | arr t' xs =>
     obtain ⟨a1,a2,k,a3,a4,a5,_⟩:=Q0k hs b1 hm
     refine Q2o e1 a3 (by rw [b3];exact a3) (fun i hi j' hj w hw=>?_)
     refine (Q3s hs b1 hm a3).2 w (List.mem_iff_getElem?.2 ⟨off+j',?_⟩)
     rw [Zp,hsh,Zo];exact hw
    | rows t' xs ho =>
     obtain ⟨_,_,⟨hm0,_⟩ | ⟨m',k,hm',a1,a2,a3,a4,_⟩⟩:=Q09 hs b1
     ·rw [hm] at hm0;simp at hm0
     rw [hm] at hm';injection hm' with hm';subst hm'
     refine Q2o e1 a3 (by rw [b3];exact a3) (fun i hi j' hj w hw=>?_)
     refine a4.2 w (List.mem_iff_getElem?.2 ⟨off+j',?_⟩)
     rw [Zp,hsh,Zo];exact hw
   | dp b off0 n0 u0 k0 =>
    obtain ⟨hlb,m,hm,hsh,rfl⟩:=r1
    generalize off0+k0*u0.size=off at *
    obtain ⟨B,b1,b2,b3⟩:=hn.same h hm
    have hB:=hs.blk b B b1
    obtain ⟨ver,rw',bo⟩:=B
    cases bo with
    | cells cs =>
     unfold BR at hB;simp only at hB
     obtain ⟨_,m',k,hm',_,hk,hcs,_⟩:=hB
     rw [hm] at hm';injection hm' with hm';subst hm'
     refine Q2o e1 hk (by rw [b3];exact hk) (fun i hi j' hj w hw=>?_)
     have:∀ {cs:List PV} {vs:List Value},LRs si cs vs→∀ v∈vs,Qa v v=true:=by
      intro cs;induction cs with
      | nil=>intro vs h v hv;cases vs<;>simp_all [LRs,Qw]
      | cons p cs ih=>intro vs h v hv;match vs,h with
       | w::vs,h=>rcases Z2 hv with rfl | hv;exact h.1.plain;exact ih h.2 v hv
     exact this hcs w (Zc hw)
    | mp es =>
     unfold BR at hB;simp only at hB
     obtain ⟨_,m',k,hm',_,hk,_,_,_,hc0⟩:=hB
     rw [hm] at hm';injection hm' with hm';subst hm'
     refine Q2o e1 hk (by rw [b3];exact hk) (fun i hi j' hj w hw=>?_)
     rw [hc0] at hw;simp at hw
    | arr t' xs =>
     obtain ⟨a1,a2,k,a3,a4,a5,_⟩:=Q0k hs b1 hm
     refine Q2o e1 a3 (by rw [b3];exact a3) (fun i hi j' hj w hw=>?_)
     refine (Q3s hs b1 hm a3).2 w (List.mem_iff_getElem?.2 ⟨off+j',?_⟩)
     rw [Zp,hsh,Zo];exact hw
    | rows t' xs ho =>
     obtain ⟨_,_,⟨hm0,_⟩ | ⟨m',k,hm',a1,a2,a3,a4,_⟩⟩:=Q09 hs b1
     ·rw [hm] at hm0;simp at hm0
     rw [hm] at hm';injection hm' with hm';subst hm'
     refine Q2o e1 a3 (by rw [b3];exact a3) (fun i hi j' hj w hw=>?_)
     refine a4.2 w (List.mem_iff_getElem?.2 ⟨off+j',?_⟩)
     rw [Zp,hsh,Zo];exact hw
   | undef =>
    obtain rfl:v=undef:=r1
    exact Qbs (by simp [Q31,hg,e1,Q1];rfl) (by simp [Q31,hg,e1,Q1];rfl)
   | _=>simp at h
 ·rename_i t u a
  cases hp:pev env a with
  | none =>
   rw [hp] at h
   have hev:ev e a=none:=by
    cases a with
    | tmp q=>have:=he q;rw [show Q3c env q=none from hp] at this;exact this
    | _=>simp [Qti] at h
   exact Qbs (by simp [Q31,hev,Q1]) (by simp [Q31,hev,Q1])
  | some p =>
   rw [hp] at h
   obtain ⟨v,e1,r1⟩:=Q01 he hp
   cases p with
   | nil=>obtain rfl:v=_:=r1;exact Q9f e1 rfl rfl (by simp)
   | undef =>
    obtain rfl:v=undef:=r1
    exact Qbs (by simp [Q31,e1,Q1];rfl) (by simp [Q31,e1,Q1];rfl)
   | ro st ty x =>
    have r1:Rep (si.NN st) si.H (.sl ty) x [v]:=r1
    unfold Rep at r1
    rcases r1 with ⟨rfl,e2⟩ | ⟨rfl,z,oo,e2⟩ | ⟨z,oo,k,e2,hnn,hk,hle,hi⟩
    ·simp at e2;subst e2;exact Q9f e1 rfl rfl (by simp)
    ·simp at e2;subst e2
     exact Q9f (l:=[]) e1 (by simp [Qf,Q0m]) (by simp [Qf,Q0m]) (by simp)
    ·simp at e2;subst e2
     have hk':=fz hnn (Q6z h) hk
     have hpos:=Ty.size_pos ty
     have hle2:oo+x.length*1≤k.cells.length:=by
      have:=Nat.mul_le_mul_left x.length hpos
      simp at this ⊢;omega
     have hsc:∀ G:Heap,hget G z=some k→Qf G 1 (.slice (some ⟨z,oo,none⟩) x.length ty.size)=some ((k.cells.drop oo).take (x.length*1)):=by
      intro G hG
      simp only [Qf]
      cases hz:x.length*1 with
      | zero=>simp [Q0m]
      | succ q =>
       simp only [Q0m,Qx,hG,Q1]
       have:Nat.ble (oo+(q+1)) k.cells.length=true:=Nat.ble_eq_true_of_le (by omega)
       rw [this]
     refine Q9f e1 (hsc _ hk) (hsc _ hk') (fun w hw=>?_)
     have hRL:RL (si.NN st) si.H ty x ((k.cells.drop oo).take (x.length*ty.size)):=by
      refine ⟨by simp;omega,fun i hi'=>?_⟩
      have hm:=Q1m (k:=ty.size) hi'
      have e2:seg ((k.cells.drop oo).take (x.length*ty.size)) (i*ty.size) ty.size=(k.cells.drop (oo+i*ty.size)).take ty.size:=by
       unfold seg;rw [List.drop_take,List.take_take,Nat.min_eq_left (by omega),List.drop_drop]
      rw [e2];exact hi i hi'
     refine hRL.plain w ?_
     have hle3:x.length*1≤x.length*ty.size:=Nat.mul_le_mul_left _ hpos
     have:(k.cells.drop oo).take (x.length*1)=((k.cells.drop oo).take (x.length*ty.size)).take (x.length*1):=by
      rw [List.take_take,Nat.min_eq_left hle3]
     rw [this] at hw;exact List.mem_of_mem_take hw
   | osl b off n =>
    have r1:LR0 si (.osl b off n) v:=r1
    obtain ⟨hlb,r1⟩:=r1
    cases hm:si.μ b with
    | none =>
     rw [hm] at r1;obtain ⟨_,_,rfl⟩:=r1
     exact Q9f e1 rfl rfl (by simp)
    | some m =>
     rw [hm] at r1;obtain ⟨g0,rfl⟩:=r1
     obtain ⟨B,b1,b2,b3⟩:=hn.same h hm
     obtain ⟨ver,rw',bo⟩:=B
     have hdone:∀ k:Blk,hget si.H m.z=some k→(∀ w∈k.cells.drop m.sh,Qa w w=true)→Q1l (Q31 P (.convert t u a) e sm.H) (Q31 P (.convert t u a) e si.H)=true:=by
      intro k hk hpl
      have hk':hget sm.H m.z=some k:=by rw [b3];exact hk
      have heq:Qf sm.H 1 (.slice (some ⟨m.z,m.sh+off*m.es,none⟩) (n.getD (m.n - off)) m.es)=Qf si.H 1 (.slice (some ⟨m.z,m.sh+off*m.es,none⟩) (n.getD (m.n - off)) m.es):=by
       simp only [Qf,Q0m]
       split
       ·rfl
       ·simp only [Qx,hk,hk']
      cases hl:Qf si.H 1 (.slice (some ⟨m.z,m.sh+off*m.es,none⟩) (n.getD (m.n - off)) m.es) with
      | none=>exact Qbs (by simp [Q31,e1,Q1,hl]) (by simp [Q31,e1,Q1,heq,hl])
      | some l =>
       refine Q9f e1 hl (by rw [heq];exact hl) (fun w hw=>?_)
       simp only [Qf,Q0m] at hl
       split at hl
       ·simp at hl;subst hl;simp at hw
       ·simp only [Qx,hk,Q1] at hl
        split at hl
        ·simp at hl;subst hl
         have:=List.mem_of_mem_take hw
         rw [← List.drop_drop] at this
         exact hpl w (List.mem_of_mem_drop this)
        ·simp at hl
     cases bo with
     | cells cs =>
      have hB:=hs.blk b _ b1
      unfold BR at hB;simp only at hB
      obtain ⟨_,m',k,hm',hsh,hk,hcs,_⟩:=hB
      rw [hm] at hm';injection hm' with hm';subst hm'
      refine hdone k hk (fun w hw=>?_)
      have:∀ {cs:List PV} {vs:List Value},LRs si cs vs→∀ v∈vs,Qa v v=true:=by
       intro cs;induction cs with
       | nil=>intro vs h v hv;cases vs<;>simp_all [LRs,Qw]
       | cons p cs ih=>intro vs h v hv;match vs,h with
        | w::vs,h=>rcases Z2 hv with rfl | hv;exact h.1.plain;exact ih h.2 v hv
      exact this hcs w (List.mem_of_mem_drop hw)
     | mp es =>
      have hB:=hs.blk b _ b1
      unfold BR at hB;simp only at hB
      obtain ⟨_,m',k,hm',_,hk,_,_,_,hc0⟩:=hB
      rw [hm] at hm';injection hm' with hm';subst hm'
      refine hdone k hk (fun w hw=>?_)
      rw [hc0] at hw;simp at hw
     | arr t' xs =>
      obtain ⟨a1,a2,k,a3,a4,a5,_⟩:=Q0k hs b1 hm
      exact hdone k a3 (Q3s hs b1 hm a3).2
     | rows t' xs ho =>
      obtain ⟨_,_,⟨hm0,_⟩ | ⟨m',k,hm',a1,a2,a3,a4,_⟩⟩:=Q09 hs b1
      ·rw [hm] at hm0;simp at hm0
      rw [hm] at hm';injection hm' with hm';subst hm'
      exact hdone k a3 a4.2
   | _=>simp at h
 ·simp at h
theorem TrR.get:∀ {ss:List S} {tr:List (Q0n×LS)} {te:List (Env×Heap)},TrR ss tr te→∀ (i:Nat) q,tr[i]? = some q→∃ s e,ss[i]? = some s∧te[i]? = some e∧s.L=q.2∧s.H=e.2∧StR s∧Q25 s q.1 e.1
 | s::ss,(env,L)::tr,(e,H)::te,h,0,q,hq=>by
  simp at hq;subst hq
  obtain ⟨h1,h2,h3,h4,_⟩:=h
  exact ⟨s,(e,H),rfl,rfl,h1,h2,h3,h4⟩
 | s::ss,(env,L)::tr,(e,H)::te,h,i+1,q,hq=>by
  obtain ⟨_,_,_,_,_,h6⟩:=h
  simp only [List.getElem?_cons_succ] at hq ⊢
  exact TrR.get h6 i q hq
 | [],[],[],_,i,q,hq=>by simp at hq
theorem TrR.len:∀ {ss:List S} {tr:List (Q0n×LS)} {te:List (Env×Heap)},TrR ss tr te→tr.length=te.length∧ss.length=te.length
 | [],[],[],_=>⟨rfl,rfl⟩
 | _::_,(_,_)::_,(_,_)::_,h=>by
  obtain ⟨_,_,_,_,_,h6⟩:=h
  have:=TrR.len h6;simp;exact this
theorem TrR.near:∀ {ss:List S} {tr:List (Q0n×LS)} {te:List (Env×Heap)},TrR ss tr te→∀ (i j:Nat) s t,ss[i]? = some s→ss[j]? = some t→Qzp s t
 | s::ss,(env,L)::tr,(e,H)::te,h,0,0,x,y,hx,hy=>by
  simp at hx hy;subst hx hy;exact .inl (Keep.refl _)
 | s::ss,(env,L)::tr,(e,H)::te,h,0,j+1,x,y,hx,hy=>by
  simp at hx;subst hx
  simp only [List.getElem?_cons_succ] at hy
  obtain ⟨_,_,_,_,h5,_⟩:=h
  exact .inr (h5 y (Zc hy))
 | s::ss,(env,L)::tr,(e,H)::te,h,i+1,0,x,y,hx,hy=>by
  simp at hy;subst hy
  simp only [List.getElem?_cons_succ] at hx
  obtain ⟨_,_,_,_,h5,_⟩:=h
  exact .inl (h5 x (Zc hx))
 | s::ss,(env,L)::tr,(e,H)::te,h,i+1,j+1,x,y,hx,hy=>by
  obtain ⟨_,_,_,_,_,h6⟩:=h
  simp only [List.getElem?_cons_succ] at hx hy
  exact TrR.near h6 i j x y hx hy
 | [],[],[],_,i,j,x,y,hx,_=>by simp at hx
theorem Qq7 {α:Type} (l:List α) (i:Nat) (x:α) (h:l.reverse[i]? = some x):l[l.length - 1 - i]? = some x∧i < l.length:=by
 have hi:i < l.length:=by
  have:=(Z0 h).1;simpa using this
 rw [List.getElem?_reverse hi] at h;exact ⟨h,hi⟩
section
variable {A:AnnV} {β γ:Type} {s:S} {env:Q0n} {e:Env} {X:CxV A β} {XE:Cx} {r:β} {Q:γ→Prop}
theorem Q7a {P:Program} {ops:Array Oper} {c0:Nat} {s0:S} {ss:List S} {tr:List (Q0n×LS)} {te:List (Env×Heap)} (ht:TrR ss tr te) (h0:∀ t∈ss,Keep s0 t) (hc:c0≤s0.L.clk) (hold:∀ z,s0.Old c0 z→z < s0.H.length∧¬ Own s0 z) {i:Nat} {o:Oper} {x:Option γ} :
  ∀ {ms:List Nat},Q8i c0 P ops tr.reverse i o ms=true→Q4u P ops te.reverse i o ms x=x
 | [],_=>rfl
 | m::ms,h=>by
  simp only [Q8i,Z8] at h
  obtain ⟨h1,h2⟩:=h
  simp only [Q4u]
  cases hq:Q21 P ops m i || Q6a P ops i o m with
  | true=>simp only;exact Q7a ht h0 hc hold h2
  | false =>
   rw [hq] at h1
   simp only [Bool.false_or] at h1
   simp only
   have hlen:=ht.len
   cases hi:tr.reverse[i]? with
   | none=>rw [hi] at h1;simp at h1
   | some q =>
    cases hm:tr.reverse[m]? with
    | none=>rw [hi,hm] at h1;simp at h1
    | some q' =>
     rw [hi,hm] at h1
     simp only at h1
     obtain ⟨g1,g2⟩:=Qq7 _ _ _ hi
     obtain ⟨g3,g4⟩:=Qq7 _ _ _ hm
     obtain ⟨si,ei,a1,a2,a3,a4,a5,a6⟩:=ht.get _ _ g1
     obtain ⟨sm,em,b1,b2,b3,b4,b5,b6⟩:=ht.get _ _ g3
     have e1:te.reverse[i]? = some ei:=by rw [List.getElem?_reverse (by omega),← hlen.1];exact a2
     have e2:te.reverse[m]? = some em:=by rw [List.getElem?_reverse (by omega),← hlen.1];exact b2
     rw [e1,e2]
     simp only
     rw [← a3,← b3] at h1
     have:=Qwh a5 (h0 si (Zc a1)) (h0 sm (Zc b1)) hc hold (ht.near _ _ _ _ a1 b1) a6 h1
     rw [← a4,← b4,this]
     simp only [oif]
     exact Q7a ht h0 hc hold h2
theorem Qbt {P:Program} {ops:Array Oper} {c0:Nat} {s0:S} {ss:List S} {tr:List (Q0n×LS)} {te:List (Env×Heap)} (ht:TrR ss tr te) (h0:∀ t∈ss,Keep s0 t) (hc:c0≤s0.L.clk) (hold:∀ z,s0.Old c0 z→z < s0.H.length∧¬ Own s0 z) {x:Option γ} :
  ∀ {l:List Nat},Qfs c0 P ops tr.reverse l=true→stable P ops te.reverse l x=x
 | [],_=>rfl
 | i::l,h=>by
  simp only [Qfs,Z8] at h
  obtain ⟨h1,h2⟩:=h
  simp only [stable]
  split
  ·rename_i o hb ho
   rw [hb,ho] at h1
   simp only at h1
   rw [Q7a ht h0 hc hold h1]
   exact Qbt ht h0 hc hold h2
  ·exact Qbt ht h0 hc hold h2
theorem StR.tick (hs:StR s):∃ s0,s0.L=⟨s.L.bl,s.L.clk+1⟩∧s0.H=s.H∧s0.μ=s.μ∧Keep s s0∧StR s0∧(∀ z,s0.Old (s.L.clk+1) z→z < s0.H.length∧¬ Own s0 z):=by
 let s0:S:={ s with L:=⟨s.L.bl,s.L.clk+1⟩,Old:=fun c z=>if c=s.L.clk+1 then (z < s.H.length∧¬ Own s z) else s.Old c z }
 have hk:Keep s s0:=by
  refine ⟨rfl,⟨Nat.le_succ _,fun c hc=>?_,fun c z h1 h2 h3 h4=>?_⟩,rfl,Zd _,fun _ _=>rfl,Zd _,fun _ _ _=>rfl,fun z h=>.inl h,fun b B' _ h=>⟨B',h,Zd _,fun _=>⟨rfl,fun _ _=>rfl,fun _ _ h=>⟨h,rfl⟩⟩⟩⟩
  ·funext z;show (if c=s.L.clk+1 then _ else _)=_
   rw [if_neg (by omega)]
  ·show (if c=s.L.clk+1 then _ else _)
   have h2':c≤s.L.clk+1:=h2
   rw [if_pos (by omega)];exact ⟨h3,h4.1⟩
 refine ⟨s0,rfl,rfl,rfl,hk,⟨fun b B hB=>?_,hs.inj,hs.ban,hs.limH,hs.lm,hs.lml,hs.kl,hs.ka⟩,fun z hz=>?_⟩
 ·have hB':Qi s.L b=some B:=hB
  exact (hs.blk b B hB').keep hk (Qn hB') (fun _ _=>rfl) (fun _ _ h=>⟨h,rfl⟩)
 ·have hz':(if s.L.clk+1=s.L.clk+1 then (z < s.H.length∧¬ Own s z) else s.Old (s.L.clk+1) z):=hz
  rw [if_pos rfl] at hz';exact hz'
theorem Qq8 {ops:Array Oper} {W:List Nat} {KV:Q0n→LS→Option β} {KE:Env→Heap→Option γ} (hX:XOk X XE) (hW:∀ (j:Nat) (d:Nat),(ops[j]?).bind (fun (x:Oper)=>x.dst)=some d→d∈W) (hl:∀ o∈ops.toList,∀ d,o.dst=some d→d∈W) (hlim:s.lim=XE.lim) (hs:StR s) (he:Q25 s env e) (hK:COk W env e s r KV KE Q) (h:Qwx X ops env s.L KV=some r):∃ y,Qb7 XE ops e s.H KE=some y∧Q y:=by
 unfold Qwx at h;unfold Qb7
 rw [hX.P] at h
 split at h
 ·rename_i hd
  rw [hd];simp only
  obtain ⟨s0,l0,g0,u0,k0,t0,hold⟩:=hs.tick
  rw [← l0] at h;rw [← g0]
  refine Qbq hX hW env e s0 (ss:=[]) hl (k0.lim.trans hlim) t0 (k0.env he) (Q6h.refl _ _ _) (show TrR [] [] [] from trivial) (by simp) (Keep.refl s0) (by simp) (fun env' e' s' ss' tr' te' k' t' he' hu' ht hall h=>?_) h
  split at h
  ·rename_i hst
   have hc:s.L.clk+1≤s0.L.clk:=by rw [l0];exact Zd _
   rw [Qbt ht hall hc hold hst]
   exact hK env' e' s' (k0.trans k') t' he' hu' h
  ·simp at h
 ·simp at h
end
theorem Qfe {env:Q0n}:∀ {l:List Nat} {s:S},StR s→∃ s',s'.L=Q8j env l s.L∧s'.H=s.H∧s'.μ=s.μ∧Keep s s'∧StR s':=by
 have fold:∀ {ps:List PV} {s:S},StR s→∃ s',s'.L=ps.foldl freeze s.L∧s'.H=s.H∧s'.μ=s.μ∧Keep s s'∧StR s':=by
  intro ps
  induction ps with
  | nil=>intro s hs;exact ⟨s,rfl,rfl,rfl,Keep.refl s,hs⟩
  | cons p ps ih =>
   intro s hs
   by_cases hp:∃ b off n,p=.osl b off n
   ·obtain ⟨b,off,n,rfl⟩:=hp
    obtain ⟨s1,a1,a2,a3,a4,a5,_⟩:=hs.freezeAny b
    obtain ⟨s2,b1,b2,b3,b4,b5⟩:=ih a5
    exact ⟨s2,by rw [b1,a1];rfl,b2.trans a2,b3.trans a3,a4.trans b4,b5⟩
   ·obtain ⟨s2,b1,b2,b3,b4,b5⟩:=ih hs
    refine ⟨s2,?_,b2,b3,b4,b5⟩
    rw [b1];simp only [List.foldl_cons]
    have:freeze s.L p=s.L:=by unfold freeze;split;exact absurd ⟨_,_,_,rfl⟩ hp;rfl
    rw [this]
 intro l
 induction l with
 | nil=>intro s hs;exact ⟨s,rfl,rfl,rfl,Keep.refl s,hs⟩
 | cons q l ih =>
  intro s hs
  simp only [Q8j]
  cases Q3c env q with
  | none=>exact ih hs
  | some v =>
   obtain ⟨s1,a1,a2,a3,a4,a5⟩:=fold (ps:=Q2c v) hs
   obtain ⟨s2,b1,b2,b3,b4,b5⟩:=ih a5
   exact ⟨s2,by rw [b1,a1],b2.trans a2,b3.trans a3,a4.trans b4,b5⟩
def SR (s:S) (lim:Nat) (val:Nat→Value):List (Nat×Bool×Ty)→List TV→List (List Nat)→Prop
 | [],[],[]=>True
 | (q,o,_)::r,v::vs,ids::idss=>HR s.N s.H lim (kdR o) v (val q) ids∧(∀ z∈ids,s.Lim z)∧SR s lim val r vs idss
 | _,_,_=>False
theorem SR.keep {s s':S} {lim:Nat} {val:Nat→Value} (hN:∀ z,s.N z→z < s.H.length→s'.N z) (hH:s'.H=s.H) (hl:∀ z,s.Lim z→s'.Lim z):∀ {l:List (Nat×Bool×Ty)} {vs:List TV} {idss:List (List Nat)},SR s lim val l vs idss→SR s' lim val l vs idss
 | [],[],[],_=>trivial
 | (q,o,t)::r,v::vs,ids::idss,h=>⟨h.1.frame (fun z hz hlt=>⟨hN z hz hlt,by rw [hH]⟩) (fun z _=>by rw [hH]),fun z hz=>hl z (h.2.1 z hz),SR.keep hN hH hl h.2.2⟩
theorem SR.lim {s:S} {lim:Nat} {val:Nat→Value}:∀ {l:List (Nat×Bool×Ty)} {vs:List TV} {idss:List (List Nat)},SR s lim val l vs idss→∀ z∈idss.flatten,s.Lim z
 | [],[],[],_=>by simp
 | (q,o,t)::r,v::vs,ids::idss,h=>by
  intro z hz
  rw [Ze,Zh] at hz
  rcases hz with hz | hz
  ·exact h.2.1 z hz
  ·exact SR.lim h.2.2 z hz
theorem Q5y {env:Q0n} {e:Env} {val:Nat→Value} (hval:∀ q w,Q2e e q=some w→val q=w):∀ {l:List (Nat×Bool×Ty)} {s:S} {vs:List TV} {L':LS},StR s→Q25 s env e→Q3e env l s.L=some (vs,L') →
  ∃ s1 idss,s1.L=L'∧s1.H=s.H∧s1.μ=s.μ∧Keep s s1∧StR s1∧(∀ z,s.Lim z→s1.Lim z)∧SR s1 s.lim val l vs idss∧idss.flatten.Nodup∧(∀ z∈idss.flatten,¬ s.Lim z)
 | [],s,vs,L',hs,he,h=>by
  simp [Q3e] at h;obtain ⟨rfl,rfl⟩:=h
  exact ⟨s,[],rfl,rfl,rfl,Keep.refl s,hs,fun _ h=>h,trivial,by simp,by simp⟩
 | (q,o,t)::l,s,vs,L',hs,he,h=>by
  simp only [Q3e] at h
  replace h:=ob h;obtain ⟨p,h1,h⟩:=h
  replace h:=ob h;obtain ⟨⟨x,L2⟩,h2,h⟩:=h
  replace h:=ob h;obtain ⟨⟨vs',L3⟩,h3,h⟩:=h
  simp at h;obtain ⟨rfl,rfl⟩:=h
  obtain ⟨w,e1,r1⟩:=he.get h1
  have hw:=hval q w e1
  simp only at h3
  cases o with
  | true =>
   obtain ⟨hx,s1,ids,l1,g1,u1,k1,t1,hh,hl,hnl,hnd,ho⟩:=Q6e hs r1 h2
   rw [← l1] at h3
   obtain ⟨s2,idss,a1,a2,a3,a4,a5,a6,a7,a8,a9⟩:=Q5y hval t1 (k1.env he) h3
   have hlim:s1.lim=s.lim:=k1.lim
   refine ⟨s2,ids::idss,a1,a2.trans g1,a3.trans u1,k1.trans a4,a5,fun z hz=>a6 z ((hl z).2 (.inl hz)),⟨?_,fun z hz=>a6 z ((hl z).2 (.inr hz)),by rw [← hlim];exact a7⟩,?_,?_⟩
   ·rw [hw];exact hh.frame (fun z hz hlt=>⟨a4.N hlt hz,by rw [a2]⟩) (fun z _=>by rw [a2])
   ·rw [Ze,Zn]
    exact ⟨hnd,a8,fun a ha b hb e=>by subst e;exact a9 a hb ((hl a).2 (.inr ha))⟩
   ·intro z hz
    rw [Ze,Zh] at hz
    rcases hz with hz | hz
    ·exact hnl z hz
    ·exact fun h=>a9 z hz ((hl z).2 (.inl h))
  | false =>
   simp only [Q4j] at h2
   split at h2
   ·rename_i hok
    simp only [Z8] at hok
    replace h2:=ob h2;obtain ⟨⟨y,L4⟩,h4,h2⟩:=h2
    simp at h2;obtain ⟨rfl,rfl⟩:=h2
    obtain ⟨s1,ids,l1,g1,u1,k1,t1,rr1,hl,hnl,hnd,o1⟩:=Q3r t hs (r1.cells hok.1) h4
    rw [← l1] at h3
    obtain ⟨s2,idss,a1,a2,a3,a4,a5,a6,a7,a8,a9⟩:=Q5y hval t1 (k1.env he) h3
    have hlim:s1.lim=s.lim:=k1.lim
    refine ⟨s2,ids::idss,a1,a2.trans g1,a3.trans u1,k1.trans a4,a5,fun z hz=>a6 z ((hl z).2 (.inl hz)),⟨⟨_,by rw [hw];exact Qfa r1 hok.1 hok.2,Q3b.frame (fun z hz hlt=>⟨a4.N hlt hz,by rw [a2]⟩) t rr1 (fun z _=>by rw [a2])⟩,fun z hz=>a6 z ((hl z).2 (.inr hz)),by rw [← hlim];exact a7⟩,?_,?_⟩
    ·rw [Ze,Zn]
     exact ⟨hnd,a8,fun a ha b hb e=>by subst e;exact a9 a hb ((hl a).2 (.inr ha))⟩
    ·intro z hz
     rw [Ze,Zh] at hz
     rcases hz with hz | hz
     ·exact hnl z hz
     ·exact fun h=>a9 z hz ((hl z).2 (.inl h))
   ·simp at h2
def ABr (s:S) (lim b:Nat) (v:TV):Prop:=∃ (t:Ty) (x:List (List t.T)),v=⟨.sl (.os t),x⟩∧t.flat=true∧match s.μ b with
 | none=>x=[]
 | some m=>m.es=1∧m.n=x.length∧∃ k,hget s.H m.z=some k∧Fit m.sh x.length k.cells∧k.ro=false∧lim≤m.z∧∀ i (hi:i < x.length),∃ v,k.cells[m.sh+i]? = some v∧Q9z (fun z=>s.Kid z=some (b,i)) s.H lim t x[i] v
def ABa (s:S) (lim b:Nat) (v:TV):Prop:=∃ u x,v=⟨.sl u,x⟩∧u.isOs=false∧match s.μ b with
 | none=>x=[]
 | some m=>m.es=u.size∧m.n=x.length∧∃ k,hget s.H m.z=some k∧Fit m.sh (x.length*u.size) k.cells∧(∀ i (h:i < x.length),Rep s.N s.H u x[i] ((k.cells.drop (m.sh+i*u.size)).take u.size))∧k.ro=false∧lim≤m.z
def ABm (s:S) (lim b:Nat) (v:TV):Prop:=∃ (es:List (Int×Int)) (m:MB) (k:Blk),v=⟨.sl Quu,([[es]]:List (List (List (Int×Int))))⟩∧s.μ b=some m∧m.sh=0∧hget s.H m.z=some k∧k.mp=some es∧k.ro=false∧lim≤m.z∧k.cells=[]
def AB (s:S) (lim b:Nat) (v:TV):Prop:=(ABa s lim b v∨ABr s lim b v)∨ABm s lim b v
theorem Qq9 {s:S} (hs:StR s) {t:Ty} {b:Nat} {x:TV} (h2:Qte t b s.L=some x):AB s s.lim b x:=by
 unfold Qte at h2
 split at h2
 ·rename_i ver es hb
  replace h2:=ob h2;obtain ⟨y,h4,h2⟩:=h2
  simp at h2;subst h2
  have e0:=Qp h4
  injection e0 with e0;subst e0
  have:=Qg h4;subst this
  right
  have hB:=hs.blk b _ hb
  unfold BR at hB;simp only at hB
  obtain ⟨_,m,k,g1,g2,g3,g4,g5,g6,g7⟩:=hB
  exact ⟨es,m,k,rfl,g1,g2,g3,g4,g5,g6,g7⟩
 ·rename_i ver t' xs hb
  replace h2:=ob h2;obtain ⟨y,h4,h2⟩:=h2
  simp at h2;subst h2
  have e0:=Qp h4
  injection e0 with e0;subst e0
  have:=Qg h4;subst this
  refine .inl (.inr ?_)
  obtain ⟨_,hfl,hrow⟩:=Q09 hs hb
  refine ⟨t',xs,rfl,hfl,?_⟩
  rcases hrow with ⟨hm,hx⟩ | ⟨m,k,hm,a1,a2,a3,a4,a5,a6,a7⟩
  ·rw [hm];exact hx
  ·rw [hm];exact ⟨a1,a2,k,a3,a4,a5,a6,fun i hi=>a7 i hi (by simp)⟩
 ·unfold Qne at h2
  split at h2
  ·rename_i ver u xs hb
   split at h2
   ·simp at h2
   rename_i hno
   refine .inl (.inl ?_)
   replace h2:=ob h2;obtain ⟨y,h4,h2⟩:=h2
   simp at h2;subst h2
   have e0:=Qp h4
   injection e0 with e0;subst e0
   have:=Qg h4;subst this
   refine ⟨u,xs,rfl,hno,?_⟩
   cases hm:s.μ b with
   | none=>exact Q5z hs hb hm
   | some m =>
    obtain ⟨a1,a2,k,a3,a4,a5,a6,a7⟩:=Q0k hs hb hm
    exact ⟨a1,a2,k,a3,Q3s hs hb hm a3,a5,(a6 rfl).1,(a6 rfl).2⟩
  ·simp at h2
def BDs (s:S) (lim:Nat):List Nat→Nat→List TV→List (List Nat)→Prop
 | [],_,[],[]=>True
 | b::r,n,v::vs,j::js=>match n with
  | 0=>(j=[]∧AB s lim b v)∧BDs s lim r 0 vs js
  | m+1=>CB s lim b v j∧BDs s lim r m vs js
 | _,_,_,_=>False
theorem BDs.lim {s:S} {lim:Nat}:∀ {ids:List Nat} {n:Nat} {vs:List TV} {js:List (List Nat)},BDs s lim ids n vs js→∀ z∈js.flatten,s.Lim z
 | [],_,[],[],_=>by simp
 | b::r,n,v::vs,j::js,h=>by
  intro z hz
  rw [Ze,Zh] at hz
  cases n with
  | zero =>
   obtain ⟨⟨rfl,_⟩,h2⟩:=h
   rcases hz with hz | hz
   ·simp at hz
   ·exact BDs.lim h2 z hz
  | succ n =>
   rcases hz with hz | hz
   ·exact h.1.2 z hz
   ·exact BDs.lim h.2 z hz
theorem Qdg {env:Q0n} {e:Env}:∀ {l:List (Nat×Ty)} {s:S} {vs:List TV} {ids:List Nat} {L':LS},StR s→Q25 s env e→Qin env l s.L=some (vs,ids,L') →
  ∃ s1 js,s1.L=L'∧s1.H=s.H∧s1.μ=s.μ∧Keep s s1∧StR s1∧(∀ z,s.Lim z→s1.Lim z)∧js.flatten.Nodup∧(∀ z∈js.flatten,¬ s.Lim z)∧∀ vs2 ids2 js2,BDs s1 s.lim ids2 0 vs2 js2→BDs s1 s.lim (ids++ids2) l.length (vs++vs2) (js++js2)
 | [],s,vs,ids,L',hs,he,h=>by
  simp [Qin] at h;obtain ⟨rfl,rfl,rfl⟩:=h
  exact ⟨s,[],rfl,rfl,rfl,Keep.refl s,hs,fun _ h=>h,by simp,by simp,fun _ _ _ h=>h⟩
 | (q,t)::l,s,vs,ids,L',hs,he,h=>by
  simp only [Qin] at h
  replace h:=ob h;obtain ⟨p,h1,h⟩:=h
  split at h
  ·rename_i b
   replace h:=ob h;obtain ⟨⟨x,L2⟩,h2,h⟩:=h
   replace h:=ob h;obtain ⟨⟨vs',ids',L3⟩,h3,h⟩:=h
   simp at h;obtain ⟨rfl,rfl,rfl⟩:=h
   unfold Qnd at h2
   split at h2
   ·rename_i ver cs hb
    replace h2:=ob h2;obtain ⟨⟨y,L4⟩,h4,h2⟩:=h2
    simp at h2;obtain ⟨rfl,rfl⟩:=h2
    have hB:=hs.blk b _ hb
    unfold BR at hB;simp only at hB
    obtain ⟨_,m,k,hm,hsh,hk,hcs,hro,hlm⟩:=hB
    obtain ⟨s1,j,l1,g1,u1,k1,t1,rr1,li1,nl1,nd1,o1⟩:=Q3r t hs hcs h4
    simp only at h3
    rw [← l1] at h3
    obtain ⟨s2,js,a1,a2,a3,a4,a5,a6,a7,a8,a9⟩:=Qdg t1 (k1.env he) h3
    have hlim:s1.lim=s.lim:=k1.lim
    have hb1:b < s1.L.bl.length:=Zm (Qn hb) k1.nb
    have hcb:CB s1 s.lim b ⟨t,y⟩ j:=⟨⟨m,k,by rw [u1];exact hm,hsh,by rw [g1];exact hk,hro,hlm,by rw [g1] at rr1 ⊢;exact rr1⟩,fun z hz=>(li1 z).2 (.inr hz)⟩
    refine ⟨s2,j::js,a1,a2.trans g1,a3.trans u1,k1.trans a4,a5,fun z hz=>a6 z ((li1 z).2 (.inl hz)),?_,fun z hz=>?_,fun vs2 ids2 js2 h2=>?_⟩
    ·rw [Ze,Zn]
     exact ⟨nd1,a7,fun p hp q hq e=>by subst e;exact a8 p hq ((li1 p).2 (.inr hp))⟩
    ·rw [Ze,Zh] at hz
     rcases hz with hz | hz
     ·exact nl1 z hz
     ·exact fun h=>a8 z hz ((li1 z).2 (.inl h))
    ·exact ⟨hcb.keep a4 hb1 a2 a6,by rw [← hlim];exact a9 vs2 ids2 js2 (by rw [hlim];exact h2)⟩
   ·simp at h2
  ·simp at h
theorem Qdh {env:Q0n} {e:Env} {s:S} (hs:StR s) (he:Q25 s env e):∀ {l:List (Nat×Ty)} {vs:List TV} {ids:List Nat},Qdq env l s.L=some (vs,ids)→∃ js,js.flatten=[]∧BDs s s.lim ids 0 vs js
 | [],vs,ids,h=>by simp [Qdq] at h;obtain ⟨rfl,rfl⟩:=h;exact ⟨[],rfl,trivial⟩
 | (q,t)::l,vs,ids,h=>by
  have next:∀ {b:Nat},(Q1 (Qte t b s.L) fun x=>Q1 (Qdq env l s.L) fun y=>some (x::y.1,b::y.2))=some (vs,ids)→∃ js,js.flatten=[]∧BDs s s.lim ids 0 vs js:=by
   intro b h
   replace h:=ob h;obtain ⟨x,h2,h⟩:=h
   replace h:=ob h;obtain ⟨⟨vs',ids'⟩,h3,h⟩:=h
   simp at h;obtain ⟨rfl,rfl⟩:=h
   obtain ⟨js,j1,j2⟩:=Qdh hs he h3
   exact ⟨[]::js,by simpa using j1,⟨rfl,Qq9 hs h2⟩,j2⟩
  simp only [Qdq] at h
  replace h:=ob h;obtain ⟨b,_,h⟩:=h
  exact next h
theorem Qdi {a:LoopA} {env:Q0n} {e:Env} {val:Nat→Value} (hval:∀ q w,Q2e e q=some w→val q=w) {s:S} {vs:List TV} {ids:List Nat} {L':LS} (hs:StR s) (he:Q25 s env e) (h:Qip a env s.L=some (vs,ids,L')) :
  ∃ s1 v1 v2 idss js,vs=v1++v2∧v1.length=a.slots.length∧s1.L=L'∧s1.H=s.H∧Keep s s1∧StR s1∧SR s1 s.lim val a.slots v1 idss∧(idss.flatten++js.flatten).Nodup∧BDs s1 s.lim ids a.cbs.length v2 js∧Qio L' ids=true:=by
 unfold Qip at h
 replace h:=ob h;obtain ⟨⟨v1,L1⟩,h1,h⟩:=h
 replace h:=ob h;obtain ⟨⟨v2,i2,L2⟩,h2,h⟩:=h
 replace h:=ob h;obtain ⟨⟨v3,i3⟩,h3,h⟩:=h
 simp only at h2 h3 h
 split at h
 ·rename_i hlv
  simp at h;obtain ⟨rfl,rfl,rfl⟩:=h
  obtain ⟨s1,idss,a1,a2,a3,a4,a5,a6,a7,a8,a9⟩:=Q5y hval hs he h1
  rw [← a1] at h2
  obtain ⟨s2,js,b1,b2,b3,b4,b5,b6,b7,b8,b9⟩:=Qdg a5 (a4.env he) h2
  rw [← b1] at h3
  obtain ⟨js2,j1,j2⟩:=Qdh b5 ((a4.trans b4).env he) h3
  have hlim1:s1.lim=s.lim:=a4.lim
  have hlim2:s2.lim=s1.lim:=b4.lim
  have hlen:v1.length=a.slots.length:=by
   have:∀ {l:List (Nat×Bool×Ty)} {L L':LS} {vs:List TV},Q3e env l L=some (vs,L')→vs.length=l.length:=by
    intro l
    induction l with
    | nil=>intro L L' vs h;simp [Q3e] at h;obtain ⟨rfl,_⟩:=h;rfl
    | cons q l ih =>
     intro L L' vs h
     obtain ⟨q,o,t⟩:=q
     simp only [Q3e] at h
     replace h:=ob h;obtain ⟨p,_,h⟩:=h
     replace h:=ob h;obtain ⟨x,_,h⟩:=h
     replace h:=ob h;obtain ⟨y,hy,h⟩:=h
     simp at h;obtain ⟨rfl,_⟩:=h;simp [ih (show Q3e env l x.2=some (y.1,y.2) from hy)]
   exact this h1
  refine ⟨s2,v1,v2++v3,idss,js++js2,rfl,hlen,b1,b2.trans a2,a4.trans b4,b5,a7.keep (fun z hz hlt=>b4.N hlt hz) b2 b6,?_,?_,?_⟩
  ·rw [List.flatten_append,j1,List.append_nil,Zn]
   exact ⟨a8,b7,fun p hp q hq e=>by subst e;exact b8 p hq (a7.lim p hp)⟩
  ·rw [← hlim1]
   exact b9 _ _ _ (by rw [← hlim2];exact j2)
  ·exact hlv
 ·simp at h
theorem Qbu:∀ {l:List Nat},Qtk l=true→l.Nodup
 | [],_=>List.nodup_nil
 | x::r,h=>by
  simp only [Qtk,Z8,Bool.not_eq_true'] at h
  exact List.nodup_cons.2 ⟨Q0p h.1,Qbu h.2⟩
theorem Qdj:∀ {a b:List Nat},Q7g a b=true→a=b
 | [],[],_=>rfl
 | x::r,y::s,h=>by
  simp only [Q7g,Z8] at h
  rw [Z7 h.1,Qdj h.2]
 | [],_::_,h=>by simp [Q7g] at h
 | _::_,[],h=>by simp [Q7g] at h
theorem Q7b {ids:List Nat}:∀ {l m:List (Option VB)} {n:Nat},Q48 ids n l m=true→∀ b B,l[b]? = some (some B)→n+b∉ids→∃ B',m[b]? = some (some B')∧B.ver=B'.ver
 | [],_,_,_,b,B,hb,_=>by simp at hb
 | none::l,y::m,n,h,b,B,hb,hn=>by
  simp only [Q48] at h
  cases b with
  | zero=>simp at hb
  | succ b =>
   simp only [List.getElem?_cons_succ] at hb ⊢
   exact Q7b h b B hb (by rw [show n+1+b=n+(b+1) by omega];exact hn)
 | some x::l,some y::m,n,h,b,B,hb,hn=>by
  simp only [Q48,Z8,Bool.or_eq_true] at h
  cases b with
  | zero =>
   simp at hb;subst hb
   rcases h.1 with h1 | h1
   ·exact absurd (List.contains_iff_mem.1 h1) (by simpa using hn)
   ·exact ⟨y,rfl,Z7 h1⟩
  | succ b =>
   simp only [List.getElem?_cons_succ] at hb ⊢
   exact Q7b h.2 b B hb (by rw [show n+1+b=n+(b+1) by omega];exact hn)
 | none::_,[],_,h,_,_,_,_=>by simp [Q48] at h
 | some _::_,[],_,h,_,_,_,_=>by simp [Q48] at h
 | some _::_,none::_,_,h,_,_,_,_=>by simp [Q48] at h
theorem Qqa {L:LS} {b:Nat} {B:VB}:Qi L b=some B↔L.bl[b]? = some (some B):=by
 unfold Qi
 constructor
 ·intro h;split at h
  ·rename_i k hk;injection h with h;rw [hk,h]
  ·simp at h
 ·intro h;rw [h]
theorem Qic {b:Nat} {v:TV} {L L':LS} (h:inAr b v L=some L'):(∃ n u xs x,Qi L b=some ⟨n,true,.arr u xs⟩∧v=⟨.sl u,x⟩∧L'=Q2h L b ⟨n+1,true,.arr u x⟩∧u≠Quu) ∨
  (∃ n t xs x,Qi L b=some ⟨n,true,.rows t xs none⟩∧v=⟨.sl (.os t),x⟩∧L'=Q2h L b ⟨n+1,true,.rows t x none⟩∧Ty.os t≠Quu) ∨
  ∃ n es0 x,Qi L b=some ⟨n,true,.mp es0⟩∧v=⟨.sl Quu,x⟩∧L'=Q2h L b ⟨n+1,true,.mp (unMp x)⟩:=by
 unfold inAr at h
 split at h
 ·rename_i x
  split at h
  ·rename_i n es0 hb
   simp at h;exact .inr (.inr ⟨n,es0,x,hb,rfl,h.symm⟩)
  ·simp at h
 ·rename_i hne
  split at h
  ·rename_i n u xs t x hb
   split at h
   ·rename_i he
    have:=Ty.beq_eq he;subst this
    simp at h;exact .inr (.inl ⟨n,u,xs,x,hb,rfl,h.symm,fun e=>by unfold Quu at e;injection e with e;subst e;exact hne x rfl⟩)
   ·simp at h
  ·obtain ⟨n,u,xs,x,g1,g2,g3⟩:=Qbn h
   exact .inl ⟨n,u,xs,x,g1,g2,g3,fun e=>by subst e;exact hne x g2⟩
theorem Q23:∀ {ids:List Nat} {n:Nat} {vs:List TV} {L L':LS},Q41 ids n vs L=some L'→ids.Nodup →
  L'.bl.length=L.bl.length∧L'.clk=L.clk∧(∀ c,c∉ids→Qi L' c=Qi L c)∧(∀ c∈ids,∃ B B',Qzo L L' c B B')
 | [],n,[],L,L',h,_=>by simp [Q41] at h;subst h;simp
 | b::ids,n,v::vs,L,L',h,hn=>by
  obtain ⟨hn1,hn2⟩:=List.nodup_cons.1 hn
  have key:∀ {L1:LS} {m:Nat} {B B':VB},Qi L b=some B→B.rw=true→B'.rw=true→B'.ver=B.ver+1→L1=Q2h L b B'→Q41 ids m vs L1=some L'→L'.bl.length=L.bl.length∧L'.clk=L.clk∧(∀ c,c∉b::ids→Qi L' c=Qi L c)∧(∀ c∈b::ids,∃ B B',Qzo L L' c B B'):=by
   clear h
   intro L1 m B B' g1 g2 g3 g4 e h
   subst e
   have hlb:=Qn g1
   obtain ⟨a1,a2,a3,a4⟩:=Q23 h hn2
   refine ⟨by rw [a1,Q0t],a2,fun c hc=>?_,fun c hc=>?_⟩
   ·simp only [List.mem_cons,not_or] at hc
    rw [a3 c hc.2,Q0i (Ne.symm hc.1)]
   ·rcases Z2 hc with rfl | hc
    ·exact ⟨_,_,g1,g2,by rw [a3 c hn1,Qq hlb],g3,g4⟩
    ·obtain ⟨B1,B2,b1,b2,b3⟩:=a4 c hc
     have hne:b≠c:=fun e=>hn1 (e▸hc)
     rw [Q0i hne] at b1
     exact ⟨B1,B2,b1,b2,b3⟩
  simp only [Q41] at h
  cases n with
  | zero =>
   simp only at h
   replace h:=ob h;obtain ⟨L1,h1,h⟩:=h
   rcases Qic h1 with ⟨n',u,xs,x,g1,g2,g3,_⟩ | ⟨n',u,xs,x,g1,g2,g3,_⟩ | ⟨n',e0,es,g1,g2,g3⟩
   ·exact key g1 rfl rfl rfl g3 h
   ·exact key g1 rfl rfl rfl g3 h
   ·exact key g1 rfl rfl rfl g3 h
  | succ m =>
   simp only at h
   replace h:=ob h;obtain ⟨L1,h1,h⟩:=h
   obtain ⟨n',cs,g1,g2,g3⟩:=Q8e h1
   exact key g1 rfl rfl rfl g3 h
 | [],_,_::_,_,_,h,_=>by simp [Q41] at h
 | _::_,_,[],_,_,h,_=>by simp [Q41] at h
theorem Qbv {T:S} {lim:Nat}:∀ {ids:List Nat} {n:Nat} {vs:List TV} {js:List (List Nat)} {L L':LS},Q41 ids n vs L=some L'→ids.Nodup→BDs T lim ids n vs js→∀ c∈ids,∃ B',Qi L' c=some B' ∧
  (∀ sA:S,sA.μ c=T.μ c→sA.H=T.H→sA.L.clk=L.clk→sA.lim=lim→(∀ z i,T.Kid z=some (c,i)→sA.Kid z=some (c,i))→(∀ z,T.N z→sA.N z)→BR sA c B')
 | b::ids,n,v::vs,j::js,L,L',h,hn,hd,c,hc=>by
  obtain ⟨hn1,hn2⟩:=List.nodup_cons.1 hn
  simp only [Q41] at h
  cases n with
  | zero =>
   simp only at h
   replace h:=ob h;obtain ⟨L1,h1,h⟩:=h
   rcases Qic h1 with ⟨n',u,xs,x,g1,rfl,rfl,hnm⟩ | ⟨n',u,xs,x,g1,rfl,rfl,hnm⟩ | ⟨n',e0,x,g1,rfl,rfl⟩
   ·have hlb:=Qn g1
    obtain ⟨a1,a2,a3,a4⟩:=Q23 h hn2
    rcases Z2 hc with rfl | hc
    ·refine ⟨_,by rw [a3 c hn1,Qq hlb],fun sA f1 f2 f3 f4 _ f5=>?_⟩
     unfold BR;simp only
     rw [f1]
     rcases hd.1.2 with (⟨u',x',e1,_,hh⟩ | ⟨t',x',e1,hfl,hh⟩) | hmp
     ·injection e1 with e1 e2
      injection e1 with e1;subst e1
      simp only [heq_eq_eq] at e2;subst e2
      cases hm:T.μ c with
      | none=>rw [hm] at hh;exact hh
      | some m =>
       rw [hm] at hh
       obtain ⟨q1,q2,k,q3,q4,q5,q6,q7⟩:=hh
       exact ⟨q1,q2,k,by rw [f2];exact q3,q4,fun i hi=>by rw [f2];exact Rep.mono f5 _ (q5 i hi),fun _=>⟨q6,by rw [f4];exact q7⟩,fun e=>absurd e (by decide)⟩
     ·injection e1 with e1 e2
      injection e1 with e1;subst e1
      simp only [heq_eq_eq] at e2;subst e2
      cases hm:T.μ c with
      | none=>rw [hm] at hh;exact hh
      | some m =>
       rw [hm] at hh
       obtain ⟨q1,q2,k,q3,q4,q5,q6,q7⟩:=hh
       refine ⟨q1,q2,k,by rw [f2];exact q3,by rw [show (Ty.os t').size=1 from rfl,Nat.mul_one];exact q4,fun i hi=>?_,fun _=>⟨q5,by rw [f4];exact q6⟩,fun e=>absurd e (by decide)⟩
       obtain ⟨v,p1,p2⟩:=q7 i hi
       refine ⟨v,?_,?_⟩
       ·rw [show (Ty.os t').size=1 from rfl,Nat.mul_one]
        obtain ⟨hl,he⟩:=Z0 p1
        rw [List.drop_eq_getElem_cons hl,List.take_succ_cons,List.take_zero,he]
       ·rcases p2 with ⟨_,rfl⟩ | ⟨_,_,_,rfl,_⟩<;>simp [isCell,Qa]
     ·obtain ⟨es,m,k,e1,_⟩:=hmp
      injection e1 with e1 _
      injection e1 with e1
      exact absurd e1 hnm
    ·exact Qbv h hn2 hd.2 c hc
   ·have hlb:=Qn g1
    obtain ⟨a1,a2,a3,a4⟩:=Q23 h hn2
    rcases Z2 hc with rfl | hc
    ·refine ⟨_,by rw [a3 c hn1,Qq hlb],fun sA f1 f2 f3 f4 f6 f5=>?_⟩
     unfold BR;simp only
     rw [f1]
     rcases hd.1.2 with (⟨u',x',e1,hno,hh⟩ | ⟨t',x',e1,hfl,hh⟩) | hmp
     ·injection e1 with e1 e2
      injection e1 with e1;subst e1
      simp [Ty.isOs] at hno
     ·injection e1 with e1 e2
      injection e1 with e1;injection e1 with e1;subst e1
      simp only [heq_eq_eq] at e2;subst e2
      refine ⟨trivial,hfl,?_⟩
      cases hm:T.μ c with
      | none=>rw [hm] at hh;exact hh
      | some m =>
       rw [hm] at hh
       obtain ⟨q1,q2,k,q3,q4,q5,q6,q7⟩:=hh
       refine ⟨q1,q2,k,by rw [f2];exact q3,q4,q5,by rw [f4];exact q6,fun i hi _=>?_⟩
       obtain ⟨v,p1,p2⟩:=q7 i hi
       exact ⟨v,p1,by rw [f2,f4];exact p2.mono hfl (fun z hz=>⟨f6 z i hz,rfl⟩)⟩
     ·obtain ⟨es,m,k,e1,_⟩:=hmp
      injection e1 with e1 _
      injection e1 with e1
      exact absurd e1 hnm
    ·exact Qbv h hn2 hd.2 c hc
   ·have hlb:=Qn g1
    obtain ⟨a1,a2,a3,a4⟩:=Q23 h hn2
    rcases Z2 hc with rfl | hc
    ·refine ⟨_,by rw [a3 c hn1,Qq hlb],fun sA f1 f2 f3 f4 f6 f5=>?_⟩
     unfold BR;simp only
     rw [f1]
     rcases hd.1.2 with (⟨u',x',e1,hno,hh⟩ | ⟨t',x',e1,hfl,hh⟩) | ⟨es,m,k,e1,q1,q2,q3,q4,q5,q6,q7⟩
     ·injection e1 with e1 e2
      injection e1 with e1;subst e1
      simp [Ty.isOs,Quu] at hno
     ·injection e1 with e1 e2
      injection e1 with e1;unfold Quu at e1;injection e1 with e1;subst e1
      simp [Ty.flat] at hfl
     ·injection e1 with _ e2
      subst e2
      exact ⟨trivial,m,k,q1,q2,by rw [f2];exact q3,q4,q5,by rw [f4];exact q6,q7⟩
    ·exact Qbv h hn2 hd.2 c hc
  | succ m =>
   simp only at h
   replace h:=ob h;obtain ⟨L1,h1,h⟩:=h
   obtain ⟨n',cs,g1,g2,rfl⟩:=Q8e h1
   have hlb:=Qn g1
   obtain ⟨a1,a2,a3,a4⟩:=Q23 h hn2
   rcases Z2 hc with rfl | hc
   ·refine ⟨_,by rw [a3 c hn1,Qq hlb],fun sA f1 f2 f3 f4 _ f5=>?_⟩
    obtain ⟨m,k,q1,q2,q3,q4,q5,q6⟩:=hd.1.1
    unfold BR;simp only
    refine ⟨trivial,m,k,by rw [f1];exact q1,q2,by rw [f2];exact q3,?_,q4,by rw [f4];exact q5⟩
    rw [← f3]
    refine Q1g _ ?_
    rw [f2]
    exact Rep.mono (fun z hz=>S.NN_clk (f5 z hz)) _ q6.rep
   ·exact Qbv h hn2 hd.2 c hc
 | [],_,_,_,_,_,_,_,_,c,hc=>by simp at hc
 | _::_,_,[],_,_,_,h,_,_,_,_=>by simp [Q41] at h
 | _::_,_,_::_,[],_,_,_,_,hd,_,_=>hd.elim
theorem Qyx {s1 T:S} (hs:StR s1) (hT:StR T) (hk:Keep s1 T) {ids:List Nat} (hn:ids.Nodup) (hsame:∀ b B,b∉ids→Qi s1.L b=some B→Qi T.L b=some B) (hlive:∀ b∈ids,∃ B,Qi T.L b=some B∧B.rw=true)
  {lim n:Nat} (hlim:s1.lim=lim) {vs:List TV} {js:List (List Nat)} (hd:BDs T lim ids n vs js) {L1:LS} (h:Q41 ids n vs s1.L=some L1) {rids:List Nat} (hr:∀ z∈rids,T.Lim z) :
  ∃ sB,sB.L=L1∧sB.H=T.H∧Keep s1 sB∧StR sB∧(∀ z∈rids,sB.Lim z)∧∀ z,T.N z→sB.N z:=by
 obtain ⟨f1,f2,f3,f4⟩:=Q23 h hn
 have hlt:∀ b∈ids,b < s1.L.bl.length:=fun b hb=>by obtain ⟨B,B',b1,_⟩:=f4 b hb;exact Qn b1
 have hlv:∀ b B,b∉ids→Qi s1.L b=some B→(∀ m,s1.μ b=some m→hget T.H m.z=hget s1.H m.z)∧∀ z i,s1.Kid z=some (b,i)→T.Kid z=some (b,i)∧hget T.H z=hget s1.H z:=by
  intro b B hb hB
  obtain ⟨B0,b1,b2,b3⟩:=hk.live b B (Qn hB) (hsame b B hb hB)
  rw [hB] at b1;injection b1 with b1;subst b1
  exact (b3 rfl).2
 have hz:∀ b B m,b∉ids→Qi s1.L b=some B→s1.μ b=some m→hget T.H m.z=hget s1.H m.z:=fun b B m hb hB hm=>(hlv b B hb hB).1 m hm
 let Kn:Nat→Option (Nat×Nat):=fun z=>match T.Kid z with | some p=>if p.1 < s1.L.bl.length then some p else none | none=>none
 have kn1:∀ z p,Kn z=some p→T.Kid z=some p∧p.1 < s1.L.bl.length:=by
  intro z p hp
  simp only [Kn] at hp
  split at hp
  ·rename_i q hq
   split at hp
   ·injection hp with hp;subst hp;rename_i h;exact ⟨hq,h⟩
   ·simp at hp
  ·simp at hp
 have kn2:∀ z p,T.Kid z=some p→p.1 < s1.L.bl.length→Kn z=some p:=by
  intro z p hp hl;simp only [Kn];rw [hp];simp [hl]
 obtain ⟨sA,e1,e2,e3,k3,t3,li3,n3⟩:=Qde (Kn:=Kn) (N:=T.N) (lent:=ids) (H':=T.H)
  (ids:=fun z=>Own s1 z∧(¬ ∃ b B m,b∉ids∧Qi s1.L b=some B∧s1.μ b=some m∧m.z=z)∧¬ ∃ b i B,b∉ids∧Qi s1.L b=some B∧s1.Kid z=some (b,i))
  (rids:=fun z=>z∈rids) (oids:=fun z=>∃ b m,b∈ids∧s1.μ b=some m∧m.z=z) hs f1 f2 f3 f4
  (fun c hc=>by
   obtain ⟨B',b1,b2⟩:=Qbv h hn hd c hc
   refine ⟨B',b1,fun sA q1 q2 q3 q4 q6 q5=>b2 sA (by rw [q1,hk.mu c (hlt c hc)]) q2 q3 (by rw [q4,hlim]) (fun z i hz=>by rw [q6];exact kn2 z _ hz (hlt c hc)) q5,fun m hm=>⟨c,m,hc,hm,rfl⟩⟩)
  (fun z hz'=>by
   rcases hz'.1 with ⟨b,B,m,h1,h2,h3,h4⟩ | h1 | ⟨p,hp⟩
   ·by_cases hb:b∈ids
    ·exact .inr (.inl ⟨b,B,m,hb,h1,h2,h3,h4⟩)
    ·exact absurd ⟨b,B,m,hb,h1,h3,h4⟩ hz'.2.1
   ·exact .inl h1
   ·refine .inr (.inr ⟨p,hp,fun B hB=>?_⟩)
    by_cases hb:p.1∈ids
    ·exact hb
    ·exact absurd ⟨p.1,p.2,B,hb,hB,hp⟩ hz'.2.2)
  (fun z p hp=>by
   obtain ⟨hp,hl⟩:=kn1 z p hp
   obtain ⟨k1',k2',k3',k4'⟩:=hT.kl z p hp
   refine ⟨hl,k1',hT.ka z p hp,fun hr'=>k3' (hr z hr'),fun hh=>?_,fun c C m g1 g2=>?_,?_⟩
   ·refine hh.2 ⟨.inr (.inl hh.1),?_,?_⟩
    ·rintro ⟨b,B,m,p1,p2,p3,rfl⟩
     exact hs.lm b B m p2 p3 hh.1
    ·rintro ⟨b,i,B,p1,p2,p3⟩
     exact (hs.kl z _ p3).2.2.1 hh.1
   ·by_cases hc:c∈ids
    ·obtain ⟨B,p1,_⟩:=hlive c hc
     exact k4' c B m p1 (by rw [hk.mu c (hlt c hc)];exact g2)
    ·rw [f3 c hc] at g1
     exact k4' c C m (hsame c C hc g1) (by rw [hk.mu c (Qn g1)];exact g2)
   ·exact hk.own z (.inr (.inr ⟨p,hp⟩)))
  (fun z b i B hb hB hp=>kn2 z _ ((hlv b B hb hB).2 z i hp).1 (Qn hB))
  hk.len
  (fun z hlt' hni=>by
   by_cases ho:Own s1 z
   ·by_cases hq:∃ b B m,b∉ids∧Qi s1.L b=some B∧s1.μ b=some m∧m.z=z
    ·obtain ⟨b,B,m,q1,q2,q3,rfl⟩:=hq
     exact hz b B m q1 q2 q3
    ·have:∃ b i B,b∉ids∧Qi s1.L b=some B∧s1.Kid z=some (b,i):=Classical.byContradiction (fun hc=>hni ⟨ho,hq,hc⟩)
     obtain ⟨b,i,B,q1,q2,q3⟩:=this
     exact ((hlv b B q1 q2).2 z i q3).2
   ·exact hk.fr z hlt' ho)
  (fun z hz' ho=>by
   obtain ⟨b,m,q1,q2,rfl⟩:=ho
   obtain ⟨B,q3,_⟩:=hlive b q1
   exact hT.lm b B m q3 (by rw [hk.mu b (hlt b q1)];exact q2) (hr _ hz'))
  (fun z hz'=>by
   have hl:=hr z hz'
   rcases hk.own z (.inr (.inl hl)) with h1 | h1
   ·left;refine ⟨h1,?_,?_⟩
    ·rintro ⟨b,B,m,q1,q2,q3,rfl⟩
     exact hT.lm b B m (hsame b B q1 q2) (by rw [hk.mu b (Qn q2)];exact q3) hl
    ·rintro ⟨b,i,B,q1,q2,q3⟩
     exact (hT.kl z _ ((hlv b B q1 q2).2 z i q3).1).2.2.1 hl
   ·exact .inr h1)
  (fun z hz'=>hT.lml z (hr z hz'))
  (fun sA ho hb z hN=>by
   refine ⟨fun hown=>?_,fun hban=>hN.2 (by rw [hk.ban,← hb];exact hban)⟩
   rcases ho z hown with ⟨b,B,m,q1,q2,q3,q4,q5⟩ | ⟨q1,q2⟩ | q1 | ⟨b,m,q1,q2,q3⟩ | ⟨p,q1⟩
   ·rw [f3 b q5] at q1
    exact hN.1 (.inl ⟨b,B,m,hsame b B q5 q1,q2,by rw [hk.mu b (Qn q1)];exact q3,q4⟩)
   ·refine q2 ⟨.inr (.inl q1),?_,?_⟩
    ·rintro ⟨b,B,m,p1,p2,p3,rfl⟩
     exact hs.lm b B m p2 p3 q1
    ·rintro ⟨b,i,B,p1,p2,p3⟩
     exact (hs.kl z _ p3).2.2.1 q1
   ·exact hN.1 (.inr (.inl (hr z q1)))
   ·obtain ⟨B,p1,p2⟩:=hlive b q1
    exact hN.1 (.inl ⟨b,B,m,p1,p2,by rw [hk.mu b (hlt b q1)];exact q2,q3⟩)
   ·exact hN.1 (.inr (.inr ⟨p,(kn1 z p q1).1⟩)))
 exact ⟨sA,e1,e2,k3,t3,fun z hz'=>(li3 z).2 (.inr hz'),n3⟩
theorem Q9t:∀ {ids:List Nat} {n:Nat} {vs:List TV} {js:List (List Nat)} {T s:S} {L':LS},StR s→BDs T s.lim ids n vs js→(∀ b∈ids,b < s.L.bl.length∧s.μ b=T.μ b)→s.H=T.H→(∀ z,T.N z→s.N z)→(∀ z∈js.flatten,s.Lim z)→js.flatten.Nodup→Q54 ids n vs s.L=some L' →
  ∃ s',s'.L=L'∧s'.H=s.H∧Keep s s'∧StR s'∧(∀ z,s.N z→s'.N z)∧(∀ z,s.Lim z→z∉js.flatten→s'.Lim z)
 | [],n,vs,js,T,s,L',hs,hd,hb,hH,hN,hl,hn,h=>by
  simp [Q54] at h;subst h
  exact ⟨s,rfl,rfl,Keep.refl s,hs,fun _ h=>h,fun _ h _=>h⟩
 | b::ids,0,vs,js,T,s,L',hs,hd,hb,hH,hN,hl,hn,h=>by
  simp [Q54] at h;subst h
  exact ⟨s,rfl,rfl,Keep.refl s,hs,fun _ h=>h,fun _ h _=>h⟩
 | b::ids,n+1,v::vs,j::js,T,s,L',hs,hd,hb,hH,hN,hl,hn,h=>by
  obtain ⟨hd1,hd2⟩:=hd
  rw [Ze,Zn] at hn
  obtain ⟨n1,n2,n3⟩:=hn
  simp only [Q54] at h
  replace h:=ob h;obtain ⟨L1,h1,h⟩:=h
  have hc:CB s s.lim b v j:=CB.to (hb b (by simp)).2 hH hN (fun z hz=>hl z (by simp [hz])) hd1
  obtain ⟨s1,a1,a2,a3,a4,a5,a6⟩:=Qi6 hs hc n1 h1
  rw [← a1] at h
  obtain ⟨s2,b1,b2,b3,b4,b5,b6⟩:=Q9t (T:=T) a4 (by rw [a3.lim];exact hd2) (fun c hc=>by
   obtain ⟨q1,q2⟩:=hb c (by simp [hc])
   exact ⟨Zm q1 a3.nb,by rw [a3.mu c q1];exact q2⟩) (a2.trans hH) (fun z hz=>a5 z (hN z hz)) (fun z hz=>a6 z (hl z (by rw [Ze,Zh];exact .inr hz)) (fun hm=>n3 z hm z hz rfl)) n2 h
  exact ⟨s2,b1,b2.trans a2,a3.trans b3,b4,fun z hz=>b5 z (a5 z hz),fun z hz hm=>by
   rw [Ze,Zh,not_or] at hm
   exact b6 z (a6 z hz hm.1) hm.2⟩
 | _::_,_+1,[],_,_,_,_,_,hd,_,_,_,_,_,_=>by cases ‹List (List Nat)› <;> exact hd.elim
 | _::_,_+1,_::_,[],_,_,_,_,hd,_,_,_,_,_,_=>hd.elim
theorem Qbw {val:Nat→Value}:∀ {l:List (Nat×Bool×Ty)} {vs:List TV} {idss:List (List Nat)} {env env':Q0n} {s:S} {L':LS},StR s→SR s s.lim val l vs idss→idss.flatten.Nodup→(∀ q p,q∉l.map (·.1)→Q3c env q=some p→ER s p (val q))→Q7e l vs env s.L=some (env',L') →
  ∃ s',s'.L=L'∧s'.H=s.H∧Keep s s'∧StR s'∧(∀ q p,Q3c env' q=some p→ER s' p (val q))∧(∀ q,q∉l.map (·.1)→Q3c env' q=Q3c env q)∧∀ q∈l.map (·.1),∃ p,Q3c env' q=some p
 | [],[],[],env,env',s,L',hs,_,_,he,h=>by
  simp [Q7e] at h;obtain ⟨rfl,rfl⟩:=h
  exact ⟨s,rfl,rfl,Keep.refl s,hs,fun q p hp=>he q p (by simp) hp,fun _ _=>rfl,by simp⟩
 | (q,o,t)::l,v::vs,ids::idss,env,env',s,L',hs,hr,hn,he,h=>by
  obtain ⟨hh,hl,hr2⟩:=hr
  rw [Ze,Zn] at hn
  obtain ⟨hn1,hn2,hn3⟩:=hn
  simp only [Q7e] at h
  have next:∀ (s1:S) (pv:PV),Keep s s1→StR s1→s1.H=s.H→(∀ z,s.N z→s1.N z)→(∀ z∈idss.flatten,s1.Lim z)→AR s1 pv (val q)→Q7e l vs ((q,pv)::env) s1.L=some (env',L') →
    ∃ s',s'.L=L'∧s'.H=s.H∧Keep s s'∧StR s'∧(∀ q p,Q3c env' q=some p→ER s' p (val q))∧(∀ q',q'∉((q,o,t)::l).map (·.1)→Q3c env' q'=Q3c env q')∧∀ q'∈((q,o,t)::l).map (·.1),∃ p,Q3c env' q'=some p:=by
   clear h
   intro s1 pv k1 t1 g1 n1 l1 ha h
   have hr2':SR s1 s1.lim val l vs idss:=by
    rw [k1.lim]
    have:∀ {l:List (Nat×Bool×Ty)} {vs:List TV} {idss:List (List Nat)},SR s s.lim val l vs idss→(∀ z∈idss.flatten,s1.Lim z)→SR s1 s.lim val l vs idss:=by
     intro l
     induction l with
     | nil=>intro vs idss h _;cases vs<;>cases idss<;>simp_all [SR]
     | cons x l ih =>
      intro vs idss h hL
      obtain ⟨q,o,t⟩:=x
      match vs,idss,h with
      | v::vs,i::idss,h=>exact ⟨h.1.frame (fun z hz hlt=>⟨n1 z hz,by rw [g1]⟩) (fun z _=>by rw [g1]),fun z hz=>hL z (by simp [hz]),ih h.2.2 (fun z hz=>hL z (by simp at hz ⊢;exact .inr hz))⟩
    exact this hr2 l1
   obtain ⟨s2,a1,a2,a3,a4,a5,a6,a7⟩:=Qbw t1 hr2' hn2 (fun q' p hq hp=>by
    simp only [Q3c] at hp
    cases hb:Nat.beq q q' with
    | true=>rw [hb] at hp;injection hp with hp;subst hp;rw [← Z7 hb];exact ER.of ha
    | false =>
     rw [hb] at hp
     refine k1.ER (he q' p ?_ hp)
     simp only [List.map_cons,List.mem_cons,not_or]
     exact ⟨fun e=>by subst e;rw [Nat.beq_refl] at hb;simp at hb,hq⟩) h
   refine ⟨s2,a1,a2.trans g1,k1.trans a3,a4,a5,fun q' hq=>?_,fun q' hq=>?_⟩
   ·simp only [List.map_cons,List.mem_cons,not_or] at hq
    rw [a6 q' hq.2]
    simp only [Q3c]
    cases hb:Nat.beq q q' with
    | true=>exact absurd (Z7 hb).symm hq.1
    | false=>rfl
   ·by_cases hq':q'∈l.map (·.1)
    ·exact a7 q' hq'
    ·rw [a6 q' hq']
     simp only [List.map_cons,List.mem_cons] at hq
     rcases hq with rfl | hq
     ·exact ⟨pv,by simp only [Q3c,Nat.beq_refl]⟩
     ·exact absurd hq hq'
  have hl2:∀ z∈idss.flatten,s.Lim z:=SR.lim hr2
  cases o with
  | false =>
   obtain ⟨cs,hv,hrep⟩:=hh
   obtain ⟨ty,x⟩:=v
   simp only [Qnc] at h
   obtain ⟨s1,a1,a2,a3,a4,a5,a6,a7⟩:=Q5x ty hs hrep hl hn1
   rw [← a1] at h
   exact next s1 _ a3 a4 a2 a6 (fun z hz=>a7 z (hl2 z hz) (fun hm=>hn3 z hm z hz rfl)) (Qi4 hv a5) h
  | true =>
   obtain ⟨u,x,rfl,ho⟩:=hh
   simp only [Qnc] at h
   obtain ⟨s1,e1,e2,k1,t1,a1,n1,l1⟩:=Q5w hs ho hl
   rw [← e1] at h
   exact next s1 _ k1 t1 e2 n1 (fun z hz=>l1 z (hl2 z hz) (fun hm=>hn3 z hm z hz rfl)) (AR.of a1) h
end Go.Pv
