/-
  Parts of slices, slices put together, built-in functions. And what stood behind it in 2 texts.
  Conditions: said at the theorems.
-/
import Derived.Test.YtcoimfbmgjhcjabGreatDoorVOp3
set_option linter.all false
namespace Go.Pv
open Go.Ev
theorem Qx.one {α β:Type} {R:α->β->Prop} {a:α} {l:List β} (h:Qx R [a] l):∃ v,l=[v]/\R a v:=by
 match l,h with
 | [v],h=>exact ⟨v,rfl,h.1⟩
theorem Qx.two {α β:Type} {R:α->β->Prop} {a b:α} {l:List β} (h:Qx R [a,b] l):∃ v w,l=[v,w]/\R a v/\R b w:=by
 match l,h with
 | [v,w],h=>exact ⟨v,w,rfl,h.1,h.2.1⟩
theorem pq {a b:Nat} (h:a<=b):Nat.ble a b=true:=Nat.ble_eq_true_of_le h
theorem iD {a b:Nat} (h:Nat.ble a b=true):a<=b:=Zi h
theorem ax.part {N:Nat->Prop} {H:af} {t:Ty} {x:List t.T} {v:Value} (r:ax N H (.sl t) x [v]) {a:Option Addr} {n c:Nat} (hv:v=.slice a n c) {l h:Nat} (h1:l<=h) (h2:h<=n) {size:Nat} (bf:t.size=size) :
  ∃ a' c',iU a n c l h size=some (.slice a' (h - l) c')/\ax N H (.sl t) ((x.take h).drop l) [.slice a' (h - l) c']:=by
 subst bf
 unfold ax at r
 rcases r with ⟨rfl,e1⟩ | ⟨rfl,z,oo,e1⟩ | ⟨z,oo,k,e1,hn,hk,hle,hi⟩
 .simp at e1;rw [e1] at hv;injection hv with a1 a2 a3;subst a1 a2 a3
  obtain rfl:h=0:=by omega
  obtain rfl:l=0:=by omega
  exact ⟨none,0,by simp [iU,aa],by unfold ax;exact .inl ⟨by simp,rfl⟩⟩
 .simp at e1;rw [e1] at hv;injection hv with a1 a2 a3;subst a1 a2 a3
  obtain rfl:h=0:=by omega
  obtain rfl:l=0:=by omega
  refine ⟨some ⟨z,oo+0*t.size,none⟩,t.size,?_,?_⟩
  .unfold iU;simp only [pq (Zd 0),Nat.beq_refl,Bool.and_self,aa]
  .unfold ax;exact .inr (.inl ⟨by simp,_,_,rfl⟩)
 .simp at e1;rw [e1] at hv;injection hv with a1 a2 a3;subst a1 a2 a3
  refine ⟨some ⟨z,oo+l*t.size,none⟩,t.size,?_,?_⟩
  .unfold iU;simp only [pq h1,pq h2,Nat.beq_refl,Bool.and_self,aa]
  .have hlen:((x.take h).drop l).length=h - l:=by simp;omega
   unfold ax
   refine .inr (.inr ⟨z,oo+l*t.size,k,by rw [hlen],hn,hk,?_,fun i eZ=>?_⟩)
   .have:=Zk t.size (show l+((x.take h).drop l).length<=x.length by rw [hlen];omega)
    rw [Nat.add_mul] at this;omega
   .have:=hi (l+i) (by rw [hlen] at eZ;omega)
    rw [Nat.add_mul,<- Nat.add_assoc] at this
    simpa using this
theorem iE.part {K:Nat->Prop} {H:af} {ai:Nat} {t:Ty} {x:List t.T} {v:Value} (r:iE K H ai t x v) {l h:Nat} (h1:l<=h) (h2:h<=x.length) {v':Value}
  (hv:(v=.slice none 0 0/\v'=.slice none 0 0)\/∃ z oo,v=.slice (some ⟨z,oo,none⟩) x.length t.size/\v'=.slice (some ⟨z,oo+l*t.size,none⟩) (h - l) t.size):iE K H ai t ((x.take h).drop l) v':=by
 rcases r with ⟨rfl,rfl⟩ | ⟨z,o,k,rfl,g1,g2,g3,g4,g5,g6⟩
 .rcases hv with ⟨_,rfl⟩ | ⟨z,oo,e,_⟩
  .exact .inl ⟨by simp,rfl⟩
  .simp at e
 .rcases hv with ⟨e,_⟩ | ⟨z',oo,e,rfl⟩
  .simp at e
  .injection e with e _ _;injection e with e;injection e with e1 e2 _;subst e1 e2
   have hlen:((x.take h).drop l).length=h - l:=by simp;omega
   have hm:=Zk t.size (show l+((x.take h).drop l).length<=x.length by rw [hlen];omega)
   rw [Nat.add_mul] at hm
   refine .inr ⟨z,o+l*t.size,k,by rw [hlen],g1,g2,g3,g4,g5.sub hm,fun i hi=>?_⟩
   have:=g6 (l+i) (by rw [hlen] at hi;omega)
   rw [Nat.add_mul,<- Nat.add_assoc] at this
   simpa using this
section
variable {A:cM} {β γ:Type} {s:S} {env:bA} {e:Env} {X:nq A β} {XE:Cx} {o:Oper} {KV:PV->LS->Option β} {KE:Value->af->Option γ} {r:β} {Q:γ->Prop}
theorem P9 {δ ε:Type} (he:cI s env e) {x:Option Operand} {d:Nat} {K:Option Nat->Option δ} {K':Nat->Option ε} {q:δ} {Q':ε->Prop} (h:Ax env x K=some q) (hk:∀ n,K n=some q->∃ y,K' (n.getD d)=some y/\Q' y):∃ y,mN e x d K'=some y/\Q' y:=by
 unfold Ax at h;unfold mN
 split at h
 .exact hk none h
 .replace h:=ob h;obtain ⟨p,h1,h⟩:=h
  obtain ⟨v,e1,r1⟩:=fM he h1
  simp only [e1,Q1]
  exact WH r1 h (fun n h=>hk (some n) h)
theorem Qj {δ:Type} {b:Bool} {x:Option δ} {q:δ} (h:aa b x none=some q):b=true/\x=some q:=by
 unfold aa at h;split at h
 .exact ⟨rfl,h⟩
 .simp at h
theorem Qqq (hs:aD s) {p:PV} {v:Value} (hr:ER s p v) {lo hi:Option Nat} (hK:eJ s r KV KE Q) (h:(JW s.L p lo hi fun u=>KV u s.L)=some r) {size:Nat} (bf:∀ n,di.P_ s.L p=some n->n=size) :
  ∃ a n c,v=.slice a n c/\∃ y,(Q1 (iU a n c (lo.getD 0) (hi.getD n) size) fun u=>gK u fun a n c=>KE (.slice a n c) s.H)=some y/\Q y:=by
 unfold JW at h
 split at h
 .obtain rfl:v=_:=hr
  refine ⟨none,0,0,rfl,?_⟩
  have key:∀ l h',l<=h'->h'<=0->KV .nil s.L=some r->∃ y,(Q1 (iU none 0 0 l h' size) fun u=>gK u fun a n c=>KE (.slice a n c) s.H)=some y/\Q y:=by
   intro l h' h1 h2 h
   obtain rfl:h'=0:=by omega
   obtain rfl:l=0:=by omega
   have:iU none 0 0 0 0 size=some (.slice none 0 0):=by simp [iU,aa]
   rw [this];exact hK.here hs (p:=.nil) rfl h
  split at h
  .exact key 0 0 (Zd _) (Zd _) h
  .obtain ⟨a1,a2⟩:=Qj h;exact key _ 0 (iD a1) (Zd _) a2
  .obtain ⟨a1,a2⟩:=Qj h;exact key 0 _ (Nat.zero_le _) (iD a1) a2
  .obtain ⟨a1,a2⟩:=Qj h;simp only [Z8] at a1;exact key _ _ (iD a1.1) (iD a1.2) a2
 .rename_i st t x
  have hr:ax (s.NN st) s.H (.sl t) x [v]:=hr
  obtain ⟨a,c,rfl⟩:∃ a c,v=.slice a x.length c:=by
   have dJ:=hr
   unfold ax at dJ
   rcases dJ with ⟨rfl,e1⟩ | ⟨rfl,_,_,e1⟩ | ⟨_,_,_,e1,_⟩<;>(simp at e1;subst e1;exact ⟨_,_,rfl⟩)
  refine ⟨a,x.length,c,rfl,?_⟩
  have Ay:t.size=size:=bf _ rfl
  have key:∀ l h',l<=h'->h'<=x.length->KV (.ro st t ((x.take h').drop l)) s.L=some r->∃ y,(Q1 (iU a x.length c l h' size) fun u=>gK u fun a n c=>KE (.slice a n c) s.H)=some y/\Q y:=by
   intro l h' h1 h2 h
   obtain ⟨a',c',g1,g2⟩:=ax.part hr rfl h1 h2 Ay
   rw [g1];exact hK.here hs (p:=.ro st t _) g2 h
  split at h
  .exact key 0 x.length (Nat.zero_le _) (Zd _) (by simpa using h)
  .obtain ⟨a1,a2⟩:=Qj h;exact key _ _ (iD a1) (Zd _) (by simpa using a2)
  .obtain ⟨a1,a2⟩:=Qj h;exact key 0 _ (Nat.zero_le _) (iD a1) (by simpa using a2)
  .obtain ⟨a1,a2⟩:=Qj h;simp only [Z8] at a1;exact key _ _ (iD a1.1) (iD a1.2) a2
 .rename_i b i aB t x
  obtain ⟨bG,vc,hval⟩:cm s (.rw b i aB t x) v:=hr
  have Ay:t.size=size:=bf _ rfl
  subst Ay
  rcases vc with ⟨e0,rfl⟩ | ⟨z,oo,rfl⟩
  .have hx:x=[]:=Z1 e0
   subst hx
   refine ⟨none,0,0,rfl,?_⟩
   have key:∀ l h',l<=h'->h'<=0->KV (.rw b i aB t (([]:List t.T).take h' |>.drop l)) s.L=some r->∃ y,(Q1 (iU none 0 0 l h' t.size) fun u=>gK u fun a n c=>KE (.slice a n c) s.H)=some y/\Q y:=by
    intro l h' h1 h2 h
    obtain rfl:h'=0:=by omega
    obtain rfl:l=0:=by omega
    have:iU none 0 0 0 0 t.size=some (.slice none 0 0):=by simp [iU,aa]
    rw [this]
    refine hK.here hs (p:=.rw b i aB t _) (ER.fq (p:=.rw b i aB t _) ⟨bG,.inl ⟨by simp,rfl⟩,fun B hB=>⟨(hval B hB).1,fun e=>⟨((hval B hB).2 e).1,.inl ⟨by simp,rfl⟩,by simpa using ((hval B hB).2 e).2.2⟩⟩⟩) h
   split at h
   .exact key 0 0 (Zd _) (Zd _) h
   .obtain ⟨a1,a2⟩:=Qj h;exact key _ 0 (iD a1) (Zd _) (by simpa using a2)
   .obtain ⟨a1,a2⟩:=Qj h;exact key 0 _ (Nat.zero_le _) (iD a1) (by simpa using a2)
   .obtain ⟨a1,a2⟩:=Qj h;simp only [Z8] at a1;exact key _ _ (iD a1.1) (iD a1.2) a2
  .refine ⟨_,x.length,t.size,rfl,?_⟩
   have key:∀ l h',l<=h'->h'<=x.length->KV (.rw b i aB t ((x.take h').drop l)) s.L=some r->∃ y,(Q1 (iU (some ⟨z,oo,none⟩) x.length t.size l h' t.size) fun u=>gK u fun a n c=>KE (.slice a n c) s.H)=some y/\Q y:=by
    intro l h' h1 h2 h
    have hv:iU (some ⟨z,oo,none⟩) x.length t.size l h' t.size=some (.slice (some ⟨z,oo+l*t.size,none⟩) (h' - l) t.size):=by
     unfold iU;simp only [pq h1,pq h2,Nat.beq_refl,Bool.and_self,aa]
    rw [hv]
    have hlen:((x.take h').drop l).length=h' - l:=by simp;omega
    refine hK.here hs (p:=.rw b i aB t _) (ER.fq (p:=.rw b i aB t _) ⟨bG,.inr ⟨z,oo+l*t.size,by rw [hlen]⟩,fun B hB=>⟨(hval B hB).1,fun e=>⟨((hval B hB).2 e).1,((hval B hB).2 e).2.1.part h1 h2 (.inr ⟨z,oo,rfl,rfl⟩),fun B2 e2 WI vz m2 k2 g1 g2 g3 g4 y gy=>(by
     obtain ⟨w1,w2⟩:=((hval B hB).2 e).2.2 B2 e2 WI vz m2 k2 g1 g2 g3 g4 y gy
     refine ⟨by rw [hlen];omega,fun e3=>?_⟩
     rw [hlen] at e3
     obtain rfl:l=0:=by omega
     have:h'=x.length:=by omega
     subst this
     rw [w2 (by omega),Nat.zero_mul,Nat.add_zero,Nat.sub_zero])⟩⟩⟩) h
   split at h
   .exact key 0 x.length (Nat.zero_le _) (Zd _) (by simpa using h)
   .obtain ⟨a1,a2⟩:=Qj h;exact key _ _ (iD a1) (Zd _) (by simpa using a2)
   .obtain ⟨a1,a2⟩:=Qj h;exact key 0 _ (Nat.zero_le _) (iD a1) (by simpa using a2)
   .obtain ⟨a1,a2⟩:=Qj h;simp only [Z8] at a1;exact key _ _ (iD a1.1) (iD a1.2) a2
 .rename_i b off n
  split at h
  rotate_left
  .simp at h
  rename_i aB rw u xs hb
  replace h:=ob h;obtain ⟨m,h1,h⟩:=h
  have hr:cm s (.a_ b off n) v:=hr
  have gC:=hr
  obtain ⟨a,c,rfl⟩:=WJ hs (ER.fq hr) h1
  refine ⟨a,m,c,rfl,?_⟩
  obtain ⟨bG,hr⟩:=hr
  cases hm:s.μ b with
  | none =>
   rw [hm] at hr;obtain ⟨rfl,h5,e5⟩:=hr
   injection e5 with e5 e6 e7;subst e5 e6 e7
   have key:∀ l h' q,l<=h'->h'<=0->(q=PV.a_ b (0+l) none\/∃ w,q=.a_ b (0+l) (some w)/\w=0)->KV q s.L=some r->∃ y,(Q1 (iU none 0 0 l h' size) fun u=>gK u fun a n c=>KE (.slice a n c) s.H)=some y/\Q y:=by
    intro l h' q h1 h2 hq h
    obtain rfl:h'=0:=by omega
    obtain rfl:l=0:=by omega
    have:iU none 0 0 0 0 size=some (.slice none 0 0):=by simp [iU,aa]
    rw [this]
    refine hK.here hs (p:=q) ?_ h
    rcases hq with rfl | ⟨w,rfl,rfl⟩
    .exact ⟨bG,by rw [hm];simp⟩
    .exact ⟨bG,by rw [hm];simp⟩
   split at h
   .refine key 0 0 (.a_ b 0 n) (Zd _) (Zd _) ?_ h
    cases n with
    | none=>left;rfl
    | some w=>right;exact ⟨w,rfl,by simpa using h5⟩
   .obtain ⟨a1,a2⟩:=Qj h
    refine key _ 0 _ (iD a1) (Zd _) ?_ a2
    cases n with
    | none=>left;rfl
    | some w=>right;exact ⟨_,rfl,by simp at h5;omega⟩
   .obtain ⟨a1,a2⟩:=Qj h
    exact key 0 _ _ (Nat.zero_le _) (iD a1) (.inr ⟨_,rfl,by have:=iD a1;omega⟩) a2
   .obtain ⟨a1,a2⟩:=Qj h;simp only [Z8] at a1
    exact key _ _ _ (iD a1.1) (iD a1.2) (.inr ⟨_,rfl,by have:=iD a1.2;omega⟩) a2
  | some mb =>
   rw [hm] at hr;obtain ⟨g1,e5⟩:=hr
   injection e5 with e5 e6 e7;subst e5 e6 e7
   have om:mb.es=size:=by
    obtain ⟨a1,_⟩:=mS hs hb hm
    rw [a1];exact bf _ (by simp only [di.P_,hb])
   have key:∀ l h' q,l<=h'->h'<=n.getD (mb.n - off)->(q=PV.a_ b (off+l) (some (h' - l))\/(q=.a_ b (off+l) none/\n=none/\h'=mb.n - off))->KV q s.L=some r->∃ y,(Q1 (iU (some ⟨mb.z,mb.sh+off*mb.es,none⟩) (n.getD (mb.n - off)) mb.es l h' size) fun u=>gK u fun a n c=>KE (.slice a n c) s.H)=some y/\Q y:=by
    intro l h' q h1 h2 hq h
    have:iU (some ⟨mb.z,mb.sh+off*mb.es,none⟩) (n.getD (mb.n - off)) mb.es l h' size=some (.slice (some ⟨mb.z,mb.sh+off*mb.es+l*size,none⟩) (h' - l) mb.es):=by
     unfold iU;rw [om];simp only [pq h1,pq h2,Nat.beq_refl,Bool.and_self,aa]
    rw [this]
    refine hK.here hs (p:=q) ?_ h
    rcases hq with rfl | ⟨rfl,rfl,rfl⟩
    .refine ⟨bG,?_⟩
     rw [hm]
     refine ⟨by simp;omega,?_⟩
     rw [Nat.add_mul,<- om,Nat.add_assoc];rfl
    .refine ⟨bG,?_⟩
     rw [hm]
     refine ⟨by simp at g1 ⊢;omega,?_⟩
     rw [Nat.add_mul,<- om,Nat.add_assoc]
     simp;omega
   split at h
   .refine key 0 (n.getD (mb.n - off)) (.a_ b off n) (Nat.zero_le _) (Zd _) ?_ h
    cases n with
    | none=>right;exact ⟨rfl,rfl,rfl⟩
    | some w=>left;rfl
   .obtain ⟨a1,a2⟩:=Qj h
    refine key _ (n.getD (mb.n - off)) _ (iD a1) (Zd _) ?_ a2
    cases n with
    | none=>right;exact ⟨rfl,rfl,rfl⟩
    | some w=>left;rfl
   .obtain ⟨a1,a2⟩:=Qj h
    exact key 0 _ _ (Nat.zero_le _) (iD a1) (.inl rfl) a2
   .obtain ⟨a1,a2⟩:=Qj h;simp only [Z8] at a1
    exact key _ _ _ (iD a1.1) (iD a1.2) (.inl rfl) a2
 .simp at h
theorem Qqr {t:TypeId} {x:Operand} {lo hi:Option Operand} (hP:X.P=XE.P) (ho:o.op=.slice t x lo hi none) (hs:aD s) (he:cI s env e) (hK:eJ s r KV KE Q) (h:di X o env s.L KV=some r):∃ y,dx XE o e s.H KE=some y/\Q y:=by
 simp only [di,ho] at h;simp only [dx,ho]
 replace h:=ob h;obtain ⟨p,h1,h⟩:=h
 obtain ⟨v,vA,r1⟩:=fM he h1
 rw [vA];simp only [Q1]
 rw [<- hP]
 split at h
 .rename_i sx
  obtain rfl:v=.string sx:=r1
  simp only
  split at h
  .rename_i hu
   simp only [hu]
   refine P9 he h (fun hh h=>P9 he h (fun ll h=>?_))
   obtain ⟨a1,a2⟩:=Qj h
   rw [a1];simp only [aa]
   exact hK.here hs (p:=.str _) rfl a2
  .simp at h
 .rename_i JX
  split at h
  .rename_i el hu
   replace h:=ob h;obtain ⟨i,h2,h⟩:=h
   have key:(∀ n,di.P_ s.L p=some n->n=i.size)->(Ax env hi fun h=>Ax env lo fun l=>JW s.L p l h fun u=>KV u s.L)=some r ->
     ∃ y,(match v with
      | .slice a n c=>match X.P.underlying t with
       | some (.slice e_1)=>Q1 (X.P.info? e_1) fun i=>mN e hi n fun h=>mN e lo 0 fun l=>Q1 (iU a n c l h i.size) fun u=>gK u fun a n c=>KE (.slice a n c) s.H
       | _=>none
      | .string WK=>match X.P.underlying t with
       | some .string=>mN e hi WK.size fun h=>mN e lo 0 fun l=>aa (Nat.ble l h&&Nat.ble h WK.size) (KE (.string (WK.extract l h)) s.H) none
       | _=>none
      | _=>none)=some y/\Q y:=by
    intro bf h
    obtain ⟨a,n,c,rfl⟩:∃ a n c,v=.slice a n c:=by
     have:∃ lo hi,(JW s.L p lo hi fun u=>KV u s.L)=some r:=by
      unfold Ax at h
      split at h
      .split at h
       .exact ⟨_,_,h⟩
       .replace h:=ob h;obtain ⟨q,_,h⟩:=h
        unfold H_ at h;split at h
        .obtain ⟨_,h⟩:=Qj h;exact ⟨_,_,h⟩
        .simp at h
      .replace h:=ob h;obtain ⟨q,_,h⟩:=h
       unfold H_ at h;split at h
       .obtain ⟨_,h⟩:=Qj h
        split at h
        .exact ⟨_,_,h⟩
        .replace h:=ob h;obtain ⟨q,_,h⟩:=h
         split at h
         .obtain ⟨_,h⟩:=Qj h;exact ⟨_,_,h⟩
         .simp at h
       .simp at h
     obtain ⟨lo',eZ,h'⟩:=this
     obtain ⟨a,n,c,e1,_⟩:=Qqq hs r1 hK h' bf
     exact ⟨a,n,c,e1⟩
    simp only [hu,h2,Q1]
    refine P9 he h (fun hh h=>P9 he h (fun ll h=>?_))
    obtain ⟨a',n',c',e1,hy⟩:=Qqq hs r1 hK h bf
    injection e1 with e1 e2 e3;subst e1 e2 e3
    exact hy
   split at h
   .rename_i n hn
    split at h
    .rename_i hb
     exact key (fun n' h'=>by rw [hn] at h';injection h' with h';rw [<- h'];exact Z7 hb) h
    .simp at h
   .rename_i hn
    exact key (fun n' h'=>by rw [hn] at h';simp at h') h
  .simp at h
theorem Qif {u:Ty}:∀ {ps:List (Nat×PV)} {qs:List (Nat×Value)} {s:S} {xs ys:List u.T} {B:Array Value} {L':LS},aD s->Qx (JY s) ps qs->RL s.N s.H u xs B.toList->E0 u xs ps s.L=some (ys,L') ->
  ∃ s' C,s'.L=L'/\s'.H=s.H/\aj s s'/\aD s'/\Instr.fill (fun i=>some (i*u.size,u.size)) B qs=some C/\RL s'.N s'.H u ys C.toList
 | [],[],s,xs,ys,B,L',hs,_,hr,h=>by
  simp [E0] at h;obtain ⟨rfl,rfl⟩:=h
  exact ⟨s,B,rfl,rfl,aj.refl s,hs,rfl,hr⟩
 | (i,p)::ps,(j,v)::qs,s,xs,ys,B,L',hs,⟨⟨e1,hv⟩,hp⟩,hr,h=>by
  simp only at e1 hv;subst e1
  simp only [E0] at h
  split at h
  .rename_i dh
   replace h:=ob h;obtain ⟨⟨x,L1⟩,h1,h⟩:=h
   replace h:=ob h;obtain ⟨zs,h2,h⟩:=h
   have hc:=hv.cells dh
   obtain ⟨s1,l1,g1,u1,k1,t1,nr,o1,_⟩:=CX u hs hc h1
   unfold M4 at h2
   split at h2
   .rename_i au
    have au:=BC au
    simp at h2;subst h2
    have hlx:=ax.len _ nr
    have hm:=j4 (k:=u.size) au
    have rS:B.size=xs.length*u.size:=by have:=hr.1;simpa using this
    have RX:v.cells.size=u.size:=by simpa using hlx
    have oz:(Array.foldl (fun cs (x:Value×Nat)=>cs.setIfInBounds (i*u.size+x.2) x.1) B v.cells.zipIdx).toList=lay B.toList (i*u.size) v.cells.toList:=by
     have:=QA (i*u.size) v.cells.toList 0 B (by simp;omega)
     rw [Nat.add_zero] at this
     rw [<- Array.foldl_toList];simpa using this
    have ef:RL s1.N s1.H u (xs.set i x) (Array.foldl (fun cs (x:Value×Nat)=>cs.setIfInBounds (i*u.size+x.2) x.1) B v.cells.zipIdx).toList:=by
     rw [oz]
     exact (hr.frame (fun z hz hl=>⟨k1.N hl hz,k1.fr z hl hz.1⟩)).set au nr
    simp only at h
    rw [<- l1] at h
    have WL:Qx (JY s1) ps qs:=Qx.mono (fun a b lq=>⟨lq.1,k1.ER lq.2⟩) hp
    obtain ⟨s2,C,l2,g2,k2,t2,f2,WM⟩:=Qif t1 WL ef h
    refine ⟨s2,C,l2,g2.trans g1,k1.trans k2,t2,?_,WM⟩
    simp only [Instr.fill]
    have dc:¬ ((decide (v.cells.size≠u.size) || decide (i*u.size+v.cells.size > B.size))=true):=by
     simp only [Bool.or_eq_true,Zj];omega
    simp only [dc,if_false,Bool.false_eq_true]
    exact f2
   .simp at h2
  .simp at h
theorem Qdn {t:Ty} (hf:t.flat=true):∀ {ps:List (Nat×PV)} {qs:List (Nat×Value)} {s:S} {xs ys:List (List t.T)} {B:Array Value} {L':LS} {Kf:Nat->Option Nat},aD s->Qx (JY s) ps qs->(∀ z i,Kf z=some i->s.aF z/\∃ k,ah s.H z=some k)->B.size=xs.length ->
  (∀ i (hi:i < xs.length),∃ v,B.toList[i]? = some v/\iE (fun z=>Kf z=some i) s.H s.ai t xs[i] v)->(∀ v∈B.toList,Qa v v=true/\az v=true)->M5 t xs ps s.L=some (ys,L') ->
  ∃ (s':S) (C:Array Value) (Kf':Nat->Option Nat),s'.L=L'/\s'.H=s.H/\aj s s'/\aD s'/\Instr.fill (fun i=>some (i*1,1)) B qs=some C/\(∀ z i,Kf' z=some i->s'.aF z/\∃ k,ah s'.H z=some k)/\C.size=xs.length/\ys.length=xs.length /\
   (∀ i (hi:i < ys.length),∃ v,C.toList[i]? = some v/\iE (fun z=>Kf' z=some i) s.H s.ai t ys[i] v)/\(∀ v∈C.toList,Qa v v=true/\az v=true)
 | [],[],s,xs,ys,B,L',Kf,hs,_,hK,hB,hr,hp,h=>by
  simp [M5] at h;obtain ⟨rfl,rfl⟩:=h
  exact ⟨s,B,Kf,rfl,rfl,aj.refl s,hs,rfl,hK,hB,rfl,hr,hp⟩
 | (i,p)::ps,(j,v)::qs,s,xs,ys,B,L',Kf,hs,⟨⟨e1,hv⟩,hpp⟩,hK,hB,hr,hp,h=>by
  simp only at e1 hv;subst e1
  simp only [M5] at h
  replace h:=ob h;obtain ⟨⟨x,L1⟩,h1,h⟩:=h
  replace h:=ob h;obtain ⟨zs,h2,h⟩:=h
  have dU:cm s p v:=by
   have lp:=h1
   unfold rj at lp
   split at lp
   .exact hv
   .exact hv
   .exact hv
   .simp at lp
  obtain ⟨s1,l1,g1,u1,k1,t1,q2,vB,_,al1⟩:=WN hs hf dU h1
  unfold M4 at h2
  split at h2
  .rename_i au
   have au:=BC au
   simp at h2;subst h2
   have bF:v.cells.toList=[v]/\Qa v v=true/\az v=true:=by
    rcases q2 with ⟨_,rfl⟩ | ⟨_,_,_,rfl,_⟩<;>exact ⟨rfl,by simp [Qa],rfl⟩
   have RX:v.cells.size=1:=by have:=congrArg List.length bF.1;simpa using this
   have oz:(Array.foldl (fun cs (x:Value×Nat)=>cs.setIfInBounds (i*1+x.2) x.1) B v.cells.zipIdx).toList=lay B.toList i [v]:=by
    have:=QA (i*1) v.cells.toList 0 B (by simp;omega)
    rw [Nat.add_zero,bF.1,Nat.mul_one] at this
    rw [<- Array.foldl_toList]
    have hz:v.cells.zipIdx.toList=[v].zipIdx 0:=by rw [Array.toList_zipIdx,bF.1]
    rw [hz,Nat.mul_one];exact this
   let Ia:Nat->Option Nat:=fun z=>@ite _ (s1.aF z/\¬ s.aF z) (Classical.propDecidable _) (some i) (Kf z)
   have WO:∀ z,(s1.aF z/\¬ s.aF z)->Ia z=some i:=fun z hz=>if_pos hz
   have kf0:∀ z,¬ (s1.aF z/\¬ s.aF z)->Ia z=Kf z:=fun z hz=>if_neg hz
   have iw:(Array.foldl (fun cs (x:Value×Nat)=>cs.setIfInBounds (i*1+x.2) x.1) B v.cells.zipIdx).size=(xs.set i x).length:=by
    have:=congrArg List.length oz
    rw [Ib _ _ _ (by simp;omega)] at this
    simp only [Array.length_toList,List.length_set] at this ⊢;omega
   simp only at h
   rw [<- l1] at h
   have WL:Qx (JY s1) ps qs:=Qx.mono (fun a b lq=>⟨lq.1,k1.ER lq.2⟩) hpp
   obtain ⟨s2,C,Kf2,l2,g2,k2,t2,f2,kk2,hC,hy,WM,Az⟩:=Qdn hf (Kf:=Ia) t1 WL (fun z q hq=>by
    by_cases hz:s1.aF z/\¬ s.aF z
    .rw [g1];exact ⟨hz.1,al1 z hz.1 hz.2⟩
    .rw [kf0 z hz] at hq;rw [g1];exact ⟨vB z (hK z q hq).1,(hK z q hq).2⟩) iw (fun q hq=>by
     rw [oz,QB _ _ _ (by simp;omega)]
     simp only [List.length_set] at hq
     by_cases hqi:q=i
     .subst hqi
      refine ⟨v,if_pos rfl,?_⟩
      simp only [List.getElem_set_self]
      rw [k1.ai];exact q2.mono hf (fun z hz=>⟨WO z hz,by rw [g1]⟩)
     .obtain ⟨w,w1,w2⟩:=hr q hq
      refine ⟨w,by rw [if_neg hqi];exact w1,?_⟩
      rw [List.getElem_set_ne (by omega),k1.ai]
      exact w2.mono hf (fun z hz=>⟨by rw [kf0 z (fun hc=>hc.2 (hK z q hz).1)];exact hz,by rw [g1]⟩)) (fun w hw=>by
     rw [oz] at hw
     rcases Qr8 hw with hw | hw
     .exact hp w hw
     .simp at hw;subst hw;exact bF.2) h
   refine ⟨s2,C,Kf2,l2,g2.trans g1,k1.trans k2,t2,?_,kk2,by rw [hC];simp,by rw [hy];simp,fun q hq=>?_,Az⟩
   .simp only [Instr.fill]
    have dc:¬ ((decide (v.cells.size≠1) || decide (i*1+v.cells.size > B.size))=true):=by
     simp only [Bool.or_eq_true,Zj];omega
    simp only [dc,if_false,Bool.false_eq_true]
    exact f2
   .obtain ⟨w,w1,w2⟩:=WM q hq
    exact ⟨w,w1,by rw [g1,k1.ai] at w2;exact w2⟩
  .simp at h2
theorem Qd3 {t:TypeId} {len:Nat} {parts:Array (Nat×Operand)} (hP:X.P=XE.P) (ho:o.op=.buildSlice t len parts) (hs:aD s) (he:cI s env e) (hK:eJ s r KV KE Q) (h:di X o env s.L KV=some r):∃ y,dx XE o e s.H KE=some y/\Q y:=by
 simp only [di,ho] at h;simp only [dx,ho]
 replace h:=ob h;obtain ⟨ps,h1,h⟩:=h
 replace h:=ob h;obtain ⟨⟨el,size,bytes,z⟩,h2,h⟩:=h
 replace h:=ob h;obtain ⟨u,h3,h⟩:=h
 obtain ⟨qs,vA,r1⟩:=WQ he h1
 rw [vA,<- hP,h2];simp only [Q1]
 split at h
 .rename_i hle hz bf
  have bf:=Z7 bf
  split at h
  .rename_i aY t'
   split at h
   .rename_i cJ
    replace h:=ob h;obtain ⟨⟨ys,L1⟩,h4,h⟩:=h
    rw [hle];simp only
    have Ba:(1:Nat)=size:=bf
    subst Ba
    have jk:=Qis hz
    have fy:(List.replicate len z.cells.toList).flatten=List.replicate len (.slice none 0 0):=by
     rw [jk];clear h4
     induction len with
     | zero=>rfl
     | succ n ih=>rw [List.replicate_succ,Ze,List.replicate_succ];simp
    rw [fy]
    obtain ⟨s1,C,Kf,l1,g1,k1,t1,f1,kk,hC,hy,rr,iT⟩:=Qdn cJ (Kf:=fun _=>none) hs r1 (fun z i e=>by simp at e) (B:=(List.replicate len (Value.slice none 0 0)).toArray) (by simp) (fun i hi=>by
     simp only [List.length_replicate] at hi
     exact ⟨.slice none 0 0,by simp [hi],.inl ⟨by simp,rfl⟩⟩) (fun v hv=>by
     simp at hv;rw [hv.2];exact ⟨by simp [Qa],rfl⟩) h4
    rw [f1];simp only
    have CY:ys.length=len:=by rw [hy];simp
    have fc:C.size=len*1:=by rw [hC];simp
    have hall:C.toList.all az=true:=List.all_eq_true.2 (fun v hv=>(iT v hv).2)
    rw [hall,fc,Nat.beq_refl]
    simp only
    obtain ⟨s2,e1,e2,k2,t2,dU,_⟩:=t1.jJ cJ (ys:=ys) (vs:=C.toList) Kf kk (by simp only [Array.length_toList];omega) (fun i hi=>by
     obtain ⟨v,w1,w2⟩:=rr i hi
     exact ⟨v,w1,by rw [g1,k1.ai];exact w2⟩) (fun v hv=>(iT v hv).1)
    simp only at h
    have hh:dn s.H C.toList=s2.H:=by rw [e2,g1]
    have hH:s.H.length=s1.H.length:=by rw [g1]
    rw [hh,hH]
    rw [<- l1,<- e1] at h
    refine hK _ _ s2 (k1.trans k2) t2 (ER.fq ?_) h
    rw [CY] at dU;exact dU
   .simp at h
  .rename_i u _ _ aV _
   replace h:=ob h;obtain ⟨⟨ys,L1⟩,h4,h⟩:=h
   rw [hle];simp only
   have gC:RL s.N s.H u (List.replicate len (sS u)) ((List.replicate len z.cells.toList).flatten.toArray).toList:=by
    simpa using RL.rep len (WR s hz)
   obtain ⟨s1,C,l1,g1,k1,t1,f1,rr⟩:=Qif hs r1 gC h4
   rw [bf] at f1
   rw [f1];simp only
   have CY:ys.length=len:=by
    have:∀ {ps:List (Nat×PV)} {xs ys:List u.T} {L L':LS},E0 u xs ps L=some (ys,L')->ys.length=xs.length:=by
     intro ps
     induction ps with
     | nil=>intro xs ys L L' h;simp [E0] at h;rw [h.1]
     | cons p ps ih =>
      intro xs ys L L' h
      obtain ⟨i,pv⟩:=p
      simp only [E0] at h
      split at h
      .replace h:=ob h;obtain ⟨x,_,h⟩:=h
       replace h:=ob h;obtain ⟨zs,hz,h⟩:=h
       unfold M4 at hz;split at hz
       .simp at hz;subst hz;rw [ih h];simp
       .simp at hz
      .simp at h
    have:=this h4;simpa using this
   have fc:C.size=len*size:=by have:=rr.1;rw [CY,bf] at this;simpa using this
   have hall:C.toList.all az=true:=by
    refine List.all_eq_true.2 (fun v hv=>?_)
    obtain ⟨i,hi,ei⟩:=List.getElem_of_mem hv
    have eU:=Ty.size_pos u
    have hq:i / u.size < ys.length:=by
     rw [Nat.div_lt_iff_lt_mul eU,<- rr.1];exact hi
    have:=ax.cell _ (rr.2 _ hq) v
    refine this ?_
    have AA:=Nat.mod_lt i eU
    have M6:=Nat.div_add_mod i u.size
    refine List.mem_iff_getElem?.2 ⟨i % u.size,?_⟩
    rw [sU,if_pos AA,show i / u.size*u.size+i % u.size=i by rw [Nat.mul_comm];exact M6,Z6 hi,ei]
   rw [hall,fc,Nat.beq_refl]
   simp only
   obtain ⟨s2,e1,e2,k2,t2,dU⟩:=E1 t1 rr
   simp only at h
   have hh:dn s.H C.toList=s2.H:=by rw [e2,g1]
   have hH:s.H.length=s1.H.length:=by rw [g1]
   rw [hh,hH]
   rw [<- l1,<- e1] at h
   refine hK _ _ s2 (k1.trans k2) t2 (ER.fq ?_) h
   rw [CY,bf] at dU;exact dU
 .simp at h
theorem WS (hs:aD s) {p:PV} {v:Value} (hr:ER s p v) {u:Ty} {bytes:Nat} {ys:List u.T} {news:List Value} (hn:RL s.N s.H u ys news) (hK:eJ s r KV KE Q) (h:M7 u bytes p ys s.L KV=some r) :
  ∃ y,BS u.size bytes v news ys.length s.H KE=some y/\Q y:=by
 unfold M7 at h
 unfold BS
 split at h
 .obtain rfl:v=_:=hr
  obtain ⟨bn,h⟩:=Qj h
  cases hl:ys.length with
  | zero =>
   have:ys=[]:=Z1 hl
   subst this
   simp only [rO,Q1,gK]
   obtain ⟨s',e1,e2,e3,hk,bY,_⟩:=hs.oA u
   rw [<- e1] at h;rw [<- e2]
   refine hK (.a_ s.L.bl.length 0 none) _ s' hk bY (ER.fq (p:=.a_ s.L.bl.length 0 none) ⟨by rw [e1,Qk];omega,?_⟩) h
   rw [e3];simp
  | succ q =>
   rw [hl] at bn
   simp only [rO,bn,aa,Q1,gK]
   obtain ⟨s',e1,e2,hk,bY,dJ⟩:=E1 hs hn
   rw [<- e1] at h;rw [<- e2]
   rw [hl] at dJ
   exact hK _ _ s' hk bY (ER.fq dJ) h
 .rename_i b off no
  split at h
  .rename_i aB w xs hb
   replace h:=ob h;obtain ⟨x,h1,h⟩:=h
   obtain ⟨bn,h⟩:=Qj h
   have e0:=Qr h1
   injection e0 with e0;subst e0
   have:=Qg h1;subst this
   have hr:cm s (.a_ b off no) v:=hr
   obtain ⟨bG,hr⟩:=hr
   cases hm:s.μ b with
   | none =>
    rw [hm] at hr;obtain ⟨rfl,_,rfl⟩:=hr
    have hx:=E2 hs hb hm;subst hx
    have CZ:cut ([]:List w.T) 0 no=[]:=by cases no<;>simp [cut]
    rw [CZ] at h bn
    obtain ⟨s1,l1,g1,u1,k1,t1,_,_⟩:=hs.kill hb rfl false
    have rm:s1.H=s.H:=g1
    have gr:RL s1.N s1.H w ys news:=hn.frame (fun z hz hl=>⟨k1.N hl hz,k1.fr z hl hz.1⟩)
    simp only [Zb,Zo,List.nil_append] at h bn
    cases hl:ys.length with
    | zero =>
     have:ys=[]:=Z1 hl
     subst this
     simp only [rO,Q1,gK]
     obtain ⟨s',e1,e2,e3,hk,bY,_⟩:=t1.oA w
     have hlen:s1.L.bl.length=s.L.bl.length:=by rw [l1,E3]
     rw [<- l1,<- e1] at h;rw [<- rm,<- e2]
     refine hK (.a_ s.L.bl.length 0 none) _ s' (k1.trans hk) bY (ER.fq (p:=.a_ s.L.bl.length 0 none) ⟨by rw [e1,Qk];omega,?_⟩) h
     rw [<- hlen,e3];simp
    | succ q =>
     rw [hl] at bn
     simp only [rO,bn,aa,Q1,gK]
     obtain ⟨s',e1,e2,hk,bY,dJ⟩:=E1 t1 gr
     have hlen:s1.L.bl.length=s.L.bl.length:=by rw [l1,E3]
     rw [<- l1,<- e1] at h;rw [<- rm,<- e2]
     rw [hl] at dJ
     rw [hlen] at dJ
     exact hK _ _ s' (k1.trans hk) bY (ER.fq dJ) h
   | some m =>
    rw [hm] at hr;obtain ⟨g0,rfl⟩:=hr
    obtain ⟨a1,a2,k,a3,a4,a5,a6,a7⟩:=mS hs hb hm
    obtain ⟨s1,l1,g1,u1,k1,t1,_,_⟩:=hs.kill hb rfl true
    have rm:s1.H=s.H.set m.z none:=by rw [g1,hm]
    have gr:RL s1.N s1.H w ys news:=hn.frame (fun z hz hl=>⟨k1.N hl hz,k1.fr z hl hz.1⟩)
    have MF:off<=xs.length:=by omega
    have hln:no.getD (m.n - off)=(cut xs off no).length:=by
     cases no with
     | none=>simp [cut];omega
     | some l=>simp [cut] at g0 ⊢;omega
    have hle:no.getD (m.n - off)<=(xs.drop off).length:=by simp;omega
    have h2:=RL.sub a4 a5 (show off+no.getD (m.n - off)<=xs.length by simp at hle;omega)
    have M8:(xs.drop off).take (no.getD (m.n - off))=cut xs off no:=by
     cases no with
     | none=>simp only [cut,Option.getD_none];rw [Zs (by simp;omega)]
     | some l=>rfl
    rw [M8] at h2
    have bF:(k.cells.drop (m.sh+off*w.size)).take (no.getD (m.n - off)*w.size)=(k.cells.take (m.sh+off*m.es+no.getD (m.n - off)*w.size)).drop (m.sh+off*m.es):=by
     rw [a1,List.drop_take];congr 1;omega
    rw [bF] at h2
    have h1':RL s1.N s1.H w (cut xs off no) ((k.cells.take (m.sh+off*m.es+no.getD (m.n - off)*w.size)).drop (m.sh+off*m.es)):=h2.frame (fun z hz hl=>⟨k1.N hl hz,k1.fr z hl hz.1⟩)
    have ji:Nat.ble ((no.getD (m.n - off)+ys.length)*bytes) Q7=true:=by rw [hln];exact bn
    have oB:Nat.ble (m.sh+off*m.es+no.getD (m.n - off)*w.size) k.cells.length=true:=by
     refine pq ?_
     rw [a1]
     have:(off+no.getD (m.n - off))*w.size<=xs.length*w.size:=Zk _ (by omega)
     rw [Nat.add_mul] at this;omega
    have om:Nat.beq m.es w.size=true:=by rw [a1];exact Nat.beq_refl _
    simp only [rO,a3,Q1,(a6 rfl).1,om,oB,ji,Bool.not_false,Bool.and_self,aa,gK]
    obtain ⟨s',e1,e2,hk,bY,dJ⟩:=E1 t1 (h1'.append gr)
    have hlen:s1.L.bl.length=s.L.bl.length:=by rw [l1,E3]
    have M9:s1.H.length=s.H.length:=by rw [rm];simp
    rw [<- l1,<- e1] at h
    have C1:(Value.slice (some ⟨s.H.length,0,none⟩) (no.getD (m.n - off)+ys.length) w.size)=.slice (some ⟨s1.H.length,0,none⟩) ((cut xs off no)++ys).length w.size:=by rw [M9,Zf,hln]
    rw [<- rm,<- e2]
    refine hK _ _ s' (k1.trans hk) bY (ER.fq ?_) h
    rw [C1,<- hlen];exact dJ
  .simp at h
 .rename_i b i aB w x0
  split at h
  .rename_i v' t xs hb
   split at h
   .rename_i hv
    have hv:=Z7 hv
    replace h:=ob h;obtain ⟨x,h1,h⟩:=h
    obtain ⟨bn,h⟩:=Qj h
    have e0:=Qr h1
    injection e0 with e0;subst e0
    have:=Qg h1;subst this
    obtain ⟨bG,_,hval⟩:cm s (.rw b i aB w x0) v:=hr
    obtain ⟨cJ,cz,_⟩:=(hval _ hb).2 hv
    rcases cz with ⟨rfl,rfl⟩ | ⟨z,oo,k,rfl,q1,q2,q3,q4,q5,q6⟩
    .obtain ⟨s1,l1,g1,u1,k1,t1,vB,_⟩:=hs.ir (i:=i) hb none (fun z h=>by simp at h)
     have gr:RL s1.N s1.H w ys news:=hn.frame (fun z hz hl=>⟨k1.N hl hz,k1.fr z hl hz.1⟩)
     have hlen:s1.L.bl.length=s.L.bl.length:=by rw [l1,oS]
     simp only [Zb,Zo,List.nil_append] at h bn
     cases hl:ys.length with
     | zero =>
      have:ys=[]:=Z1 hl
      subst this
      simp only [rO,Q1,gK]
      obtain ⟨s',e1,e2,e3,hk,bY,_⟩:=t1.oA w
      rw [<- l1,<- e1] at h;rw [<- g1,<- e2]
      refine hK (.a_ s.L.bl.length 0 none) _ s' (k1.trans hk) bY (ER.fq (p:=.a_ s.L.bl.length 0 none) ⟨by rw [e1,Qk];omega,?_⟩) h
      rw [<- hlen,e3];simp
     | succ q =>
      rw [hl] at bn
      simp only [rO,bn,aa,Q1,gK]
      obtain ⟨s',e1,e2,hk,bY,dJ⟩:=E1 t1 gr
      rw [<- l1,<- e1] at h;rw [<- g1,<- e2]
      rw [hl] at dJ
      rw [hlen] at dJ
      exact hK _ _ s' (k1.trans hk) bY (ER.fq dJ) h
    .obtain ⟨s1,l1,g1,u1,k1,t1,vB,_⟩:=hs.ir (i:=i) hb (some z) (fun y h=>by injection h with h;subst h;exact q1)
     have gr:RL s1.N s1.H w ys news:=hn.frame (fun z hz hl=>⟨k1.N hl hz,k1.fr z hl hz.1⟩)
     have hlen:s1.L.bl.length=s.L.bl.length:=by rw [l1,oS]
     have hz:s1.aF z:=(vB z).2 (.inr rfl)
     obtain ⟨s2,l2,g2,u2,k2,t2,_,_⟩:=t1.sV hz
     have gd:RL s2.N s2.H w ys news:=gr.frame (fun z hz hl=>⟨k2.N hl hz,k2.fr z hl hz.1⟩)
     have h2:RL s2.N s2.H w x0 ((k.cells.take (oo+x0.length*w.size)).drop oo):=by
      refine ⟨by rw [List.length_drop,List.length_take];have:=q5.1;omega,fun j hj=>?_⟩
      have hm:=j4 (k:=w.size) hj
      have:=ax.flat (M:=s2.N) (G:=s2.H) w cJ (q6 j hj)
      have e2:cw ((k.cells.take (oo+x0.length*w.size)).drop oo) (j*w.size) w.size=(k.cells.drop (oo+j*w.size)).take w.size:=by
       unfold cw;rw [List.drop_drop,List.drop_take,List.take_take,Nat.min_eq_left (by omega)]
      rw [e2];exact this
     have oB:Nat.ble (oo+x0.length*w.size) k.cells.length=true:=pq q5.1
     simp only [rO,q2,Q1,q3,Nat.beq_refl,oB,bn,Bool.not_false,Bool.and_self,aa,gK]
     obtain ⟨s',e1,e2,hk,bY,dJ⟩:=E1 t2 (h2.append gd)
     have M9:s2.H.length=s.H.length:=by rw [g2,g1];simp
     have WT:s2.H=s.H.set z none:=by rw [g2,g1]
     have Hv:s2.L=cU s.L b ⟨v'+1,true,.rows t xs (some i)⟩:=by rw [l2,l1]
     rw [<- Hv,<- e1] at h
     rw [<- WT,<- e2]
     refine hK _ _ s' ((k1.trans k2).trans hk) bY (ER.fq ?_) h
     rw [M9,Zf,l2,hlen] at dJ;exact dJ
   .simp at h
  .simp at h
 .simp at h
theorem Qdo (hs:aD s) {t:Ty} {p:PV} {v:Value} (hr:ER s p v) {xs:List (List t.T)} {L':LS} (h:M_ s.L t p=some (xs,L')) :
  t.flat=true/\∃ (s':S) (cells:List Value) (Kf:Nat->Option Nat),s'.L=L'/\s'.H=s.H/\aj s s'/\aD s'/\(∀ z,s.aF z->s'.aF z)/\(∀ z i,Kf z=some i->s'.aF z/\¬ s.aF z/\∃ k,ah s.H z=some k)/\cells.length=xs.length/\(∀ w∈cells,Qa w w=true) /\
   (∀ i (hi:i < xs.length),∃ w,cells[i]? = some w/\iE (fun z=>Kf z=some i) s.H s.ai t xs[i] w) /\
   ((v=.slice none 0 0/\xs=[])\/∃ z o k,v=.slice (some ⟨z,o,none⟩) xs.length 1/\ah s.H z=some k/\k.ro=false/\o+xs.length<=k.cells.length/\cells=(k.cells.take (o+xs.length)).drop o/\s'.aF z/\Kf z=none/\¬ s.aF z):=by
 unfold M_ at h
 split at h
 .rename_i b
  split at h
  .rename_i aB u WU hb
   obtain ⟨x,h1,h⟩:=ob h
   simp at h;obtain ⟨rfl,rfl⟩:=h
   have e0:=Qr h1
   injection e0 with e0;injection e0 with e0;subst e0
   have:=Qg h1;subst this
   have hr:cm s (.a_ b 0 none) v:=hr
   obtain ⟨bG,hr⟩:=hr
   obtain ⟨_,cJ,cz⟩:=mT hs hb
   obtain ⟨s',e1,e2,e3,hk,bY,hl,ho,_⟩:=hs.E4 hb rfl false
   let Kf:Nat->Option Nat:=fun z=>match s.br z with | some p=>if p.1=b then some p.2 else none | none=>none
   have WO:∀ z i,s.br z=some (b,i)->Kf z=some i:=by intro z i e;simp only [Kf];rw [e];simp
   have QC:∀ z i,Kf z=some i->s.br z=some (b,i):=by
    intro z i e
    simp only [Kf] at e
    split at e
    .rename_i q hq
     split at e
     .rename_i e1
      injection e with e2
      rw [hq];congr 1;ext<;>simp_all
     .simp at e
    .simp at e
   have kL:∀ z i,Kf z=some i->s'.aF z/\¬ s.aF z/\∃ k,ah s.H z=some k:=fun z i e=>⟨(hl z).2 (.inr (.inr ⟨i,QC z i e⟩)),(hs.kl z _ (QC z i e)).2.2.1,hs.ka z _ (QC z i e)⟩
   refine ⟨cJ,?_⟩
   rcases cz with ⟨hm,rfl⟩ | ⟨m,k,hm,a1,a2,a3,a4,a5,a6,a7⟩
   .rw [hm] at hr;obtain ⟨_,_,rfl⟩:=hr
    exact ⟨s',[],Kf,e1,e2,hk,bY,fun z hz=>(hl z).2 (.inl hz),kL,rfl,by simp,fun i hi=>absurd hi (by simp),.inl ⟨rfl,rfl⟩⟩
   .rw [hm] at hr;obtain ⟨_,rfl⟩:=hr
    have A6:((k.cells.take (m.sh+WU.length)).drop m.sh).length=WU.length:=by rw [List.length_drop,List.length_take];have:=a4.1;omega
    refine ⟨s',(k.cells.take (m.sh+WU.length)).drop m.sh,Kf,e1,e2,hk,bY,fun z hz=>(hl z).2 (.inl hz),kL,A6,fun w hw=>?_,fun i hi=>?_,.inr ⟨m.z,m.sh,k,by simp [a2,a1],a3,a5,a4.1,rfl,(hl _).2 (.inr (.inl ⟨m,hm,rfl⟩)),?_,hs.lm b _ m hb hm⟩⟩
    .refine a4.2 w ?_
     rw [List.drop_take] at hw
     exact List.mem_of_mem_take hw
    .obtain ⟨w,w1,w2⟩:=a7 i hi (by simp)
     refine ⟨w,?_,w2.mono cJ (fun z hz=>⟨WO z i hz,rfl⟩)⟩
     rw [Zp,List.getElem?_take_of_lt (by omega)];exact w1
    .cases e:Kf m.z with
     | none=>rfl
     | some i=>exact absurd rfl (hs.dV (QC _ i e) hb hm)
  .simp at h
 .simp at h
theorem Qki (hs:aD s) {p:PV} {v:Value} (hr:ER s p v) {t:Ty} (hf:t.flat=true) {bytes:Nat} {ys:List (List t.T)} {news:List Value} {Kf:Nat->Option Nat} (Ic:∀ z i,Kf z=some i->s.aF z/\∃ k,ah s.H z=some k) (hl:news.length=ys.length) (hp:∀ w∈news,Qa w w=true)
  (hn:∀ i (hi:i < ys.length),∃ w,news[i]? = some w/\iE (fun z=>Kf z=some i) s.H s.ai t ys[i] w) (hK:eJ s r KV KE Q) (h:WV t bytes p ys s.L KV=some r) :
  ∃ y,BS 1 bytes v news ys.length s.H KE=some y/\Q y:=by
 have Na:∀ z i,Kf z=some i->s.aF z:=fun z i e=>(Ic z i e).1
 unfold WV at h
 unfold BS
 have sW:∀ (s1:S),aD s1->aj s s1->s1.H=s.H->s1.L.bl.length=s.L.bl.length->(∀ z,s.aF z->s1.aF z)->Nat.ble (ys.length*bytes) Q7=true->KV (.a_ s.L.bl.length 0 none) (Qw s1.L (.rows t ys none))=some r ->
   ∃ y,(Q1 (rO 1 bytes (.slice none 0 0) news ys.length s.H) fun r=>gK r.1 fun a n c=>KE (.slice a n c) r.2)=some y/\Q y:=by
  intro s1 t1 k1 g1 hlen kB bn h
  cases wL:ys.length with
  | zero =>
   have:ys=[]:=Z1 wL
   subst this
   simp only [rO,Q1,gK]
   obtain ⟨s',e1,e2,e3,hk,bY,_⟩:=t1.AD t hf
   rw [<- e1] at h;rw [<- g1,<- e2]
   refine hK (.a_ s.L.bl.length 0 none) _ s' (k1.trans hk) bY (ER.fq (p:=.a_ s.L.bl.length 0 none) ⟨by rw [e1,Qk];omega,?_⟩) h
   rw [<- hlen,e3];simp
  | succ q =>
   rw [wL] at bn
   simp only [rO,bn,aa,Q1,gK]
   obtain ⟨s',e1,e2,hk,bY,dJ,_⟩:=t1.jJ hf Kf (fun z i e=>⟨kB z (Na z i e),by rw [g1];exact (Ic z i e).2⟩) hl (fun i hi=>by rw [g1,k1.ai];exact hn i hi) hp
   rw [<- e1] at h;rw [<- g1,<- e2]
   rw [wL,hlen] at dJ
   exact hK _ _ s' (k1.trans hk) bY (ER.fq dJ) h
 split at h
 .obtain rfl:v=_:=hr
  obtain ⟨bn,h⟩:=Qj h
  exact sW s hs (aj.refl s) rfl rfl (fun _ h=>h) bn h
 .replace h:=ob h;obtain ⟨⟨xs,L1⟩,h1,h⟩:=h
  obtain ⟨bn,h⟩:=Qj h
  obtain ⟨_,s1,cells,Ia,l1,g1,k1,t1,vB,JZ,fc,WW,hc,hv⟩:=Qdo hs hr h1
  simp only at h bn
  have hlen:s1.L.bl.length=s.L.bl.length:=by
   rw [l1]
   unfold M_ at h1
   split at h1
   .split at h1
    .obtain ⟨x,_,h1⟩:=ob h1
     simp at h1;rw [<- h1.2,E3]
    .simp at h1
   .simp at h1
  rw [<- l1] at h
  rcases hv with ⟨rfl,rfl⟩ | ⟨z,o,k,rfl,q1,q2,q3,q4,q5,q6,hzn⟩
  .simp only [Zb,Zo,List.nil_append] at h bn
   rw [hlen] at h
   exact sW s1 t1 k1 g1 hlen vB bn h
  .obtain ⟨s2,l2,g2,u2,k2,t2,WX,kd2⟩:=t1.sV q5
   have oB:Nat.ble (o+xs.length*1) k.cells.length=true:=pq (by omega)
   simp only [rO,q1,Q1,q2,Nat.beq_refl,oB,bn,Bool.not_false,Bool.and_self,aa,gK]
   let QD:Nat->Option Nat:=fun w=>match Ia w with | some i=>some i | none=>match Kf w with | some i=>if w=z then none else some (xs.length+i) | none=>none
   have kz:∀ w i,Kf w=some i->Ia w=none:=by
    intro w i e
    cases e1:Ia w with
    | none=>rfl
    | some j=>exact absurd (Na w i e) (JZ w j e1).2.1
   obtain ⟨s',e1,e2,hk,bY,dJ,_⟩:=t2.jJ hf (ys:=xs++ys) (vs:=cells++news) QD (fun w i e=>by
    rw [WX]
    simp only [QD] at e
    split at e
    .rename_i j e1
     refine ⟨(JZ w j e1).1,?_⟩
     rw [g2,g1,Qh (fun e=>by rw [<- e,q6] at e1;simp at e1)];exact (JZ w j e1).2.2
    .split at e
     .rename_i j e1
      refine ⟨vB w (Na w j e1),?_⟩
      rw [g2,g1,Qh (fun e:z=w=>hzn (by rw [e];exact Na w j e1))];exact (Ic w j e1).2
     .simp at e) (by simp [fc,hl]) (fun i hi=>by
    rw [g2,g1,k2.ai,k1.ai]
    by_cases By:i < xs.length
    .obtain ⟨w,w1,w2⟩:=hc i By
     refine ⟨w,by rw [List.getElem?_append_left (by omega)];exact w1,?_⟩
     rw [List.getElem_append_left By]
     refine w2.mono hf (fun z' aX=>⟨by simp only [QD];rw [aX],Qh (fun e=>?_)⟩)
     rw [<- e,q6] at aX;simp at aX
    .simp only [Zf] at hi
     obtain ⟨w,w1,w2⟩:=hn (i - xs.length) (by omega)
     refine ⟨w,by rw [Zq (by omega),fc];exact w1,?_⟩
     rw [List.getElem_append_right (by omega)]
     have WY:∀ z',Kf z'=some (i - xs.length)->z'≠z:=fun z' aX e=>by
      subst e
      exact hzn (Na _ _ aX)
     refine w2.mono hf (fun z' aX=>⟨by simp only [QD];rw [kz z' _ aX,aX];simp only;rw [if_neg (WY z' aX)];congr 1;omega,Qh (fun e=>WY z' aX e.symm)⟩)) (fun w hw=>by
    rcases List.mem_append.1 hw with hw | hw
    .exact WW w hw
    .exact hp w hw)
   have M9:s2.H.length=s.H.length:=by rw [g2,g1];simp
   have WT:s2.H=s.H.set z none:=by rw [g2,g1]
   rw [<- l2,<- e1] at h
   rw [Nat.mul_one,<- q4,<- WT,<- e2]
   refine hK _ _ s' ((k1.trans k2).trans hk) bY (ER.fq ?_) h
   rw [M9,Zf] at dJ;exact dJ
theorem Qkj (hs:aD s) {p:PV} {v:Value} (hr:ER s p v) {w:Ty} {ys:List w.T} (h:QE s.L p w=some ys) :
  ((∃ a n c,v=.slice a n c)\/∃ q,v=.string q)/\∃ cells,RL s.N s.H w ys cells/\∀ ai n (a:Addr),FF ai w.size a n v s.H=Q1 (kZ s.H ai a (cells.take (min ys.length n*w.size))) fun H'=>some (min ys.length n,H'):=by
 have key:∀ E5:(∀ u,w=Ty.sl u->J0 s.L p=false),kS s.L p w=some ys->((∃ a n c,v=.slice a n c)\/∃ q,v=.string q)/\∃ cells,RL s.N s.H w ys cells/\∀ ai n (a:Addr),FF ai w.size a n v s.H=Q1 (kZ s.H ai a (cells.take (min ys.length n*w.size))) fun H'=>some (min ys.length n,H'):=by
  intro E5 h
  obtain ⟨cells,a,c,rfl,oC,kI⟩:=WZ hs hr h E5
  refine ⟨.inl ⟨_,_,_,rfl⟩,cells,kI,fun ai n b=>?_⟩
  unfold Qf at oC
  split at oC
  .rename_i e
   simp only [Value.slice.injEq] at e
   obtain ⟨rfl,e2,rfl⟩:=e
   simp at oC;subst oC
   rw [e2];simp [FF]
  .rename_i a' n' c' e
   simp only [Value.slice.injEq] at e
   obtain ⟨rfl,rfl,rfl⟩:=e
   simp only [FF]
   have:fQ s.H a' (min ys.length n*w.size)=some (cells.take (min ys.length n*w.size)):=by
    have hle:min ys.length n*w.size<=ys.length*w.size:=Zk _ (Nat.min_le_left _ _)
    cases hm:ys.length*w.size with
    | zero =>
     have h0:min ys.length n*w.size=0:=by omega
     rw [h0];simp [fQ]
    | succ q =>
     rw [hm] at oC
     simp only [fQ,Qv] at oC
     obtain ⟨k,hk,hx⟩:=Q2 oC
     split at hx
     .rename_i hb
      have hb:=Zi hb
      simp at hx;subst hx
      cases hq:min ys.length n*w.size with
      | zero=>simp [fQ]
      | succ q' =>
       simp only [fQ,Qv,hk,Q1]
       have:Nat.ble (a'.off+(q'+1)) k.cells.length=true:=Nat.ble_eq_true_of_le (by omega)
       rw [this]
       simp only [List.take_take]
       rw [Nat.min_eq_left (by omega)]
     .simp at hx
   rw [this];rfl
  .simp at oC
 unfold QE at h
 split at h
 .rename_i q
  obtain rfl:v=.string q:=hr
  split at h
  .simp at h;subst h
   refine ⟨.inr ⟨_,rfl⟩,_,RL.bytes q.data.toList,fun ai n a=>?_⟩
   have hl:(Ie q).length=q.size:=by simp [Ie]
   have hc:((q.data.toList.map fun b=>Value.int .u8 (b.toNat:Int))).length=q.size:=by simp
   simp only [FF,Ty.size,Nat.mul_one,hl]
   congr 1
   have:(List.map (fun b=>Value.int IntKind.u8 ↑b.toNat) q.data.toList).take n=(List.map (fun b=>Value.int IntKind.u8 ↑b.toNat) q.data.toList).take (min q.size n):=by
    rw [<- hc,Nat.min_comm,<- List.take_take,List.take_length]
   rw [this]
  .simp at h
 .split at h
  .simp at h
  .rename_i E5
   exact key (fun _ _=>E5) h
theorem RL.ng {N:Nat->Prop} {H:af} {t:Ty} {xs ys:List t.T} {c d:List Value} (h:RL N H t xs c) (g:RL N H t ys d) {off m:Nat} (hm:off+m<=xs.length) :
  RL N H t (Pv.ng xs off m ys) (lay c (off*t.size) (d.take (min ys.length m*t.size))):=by
 have e1:=(h.take off (by omega))
 have e2:=g.take (min ys.length m) (Nat.min_le_left _ _)
 have e3:=h.drop (off+min ys.length m) (by omega)
 have:=(e1.append e2).append e3
 have ex:Pv.ng xs off m ys=xs.take off++ys.take (min ys.length m)++xs.drop (off+min ys.length m):=by
  unfold Pv.ng
  have:ys.take m=ys.take (min ys.length m):=by
   rw [Nat.min_comm,<- List.take_take,List.take_length]
  rw [this]
 have ec:lay c (off*t.size) (d.take (min ys.length m*t.size))=c.take (off*t.size)++d.take (min ys.length m*t.size)++c.drop ((off+min ys.length m)*t.size):=by
  unfold lay
  have hl:(d.take (min ys.length m*t.size)).length=min ys.length m*t.size:=by
   have:min ys.length m*t.size<=ys.length*t.size:=Zk _ (Nat.min_le_left _ _)
   rw [List.length_take,g.1];omega
  rw [hl,Nat.add_mul]
 rw [ex,ec];exact this
theorem Qtv (aI:XE.ai=s.ai) (hs:aD s) {b off:Nat} {no:Option Nat} {v w':Value} (hr:ER s (.a_ b off no) v) {src:PV} (dU:ER s src w') {w:Ty} {ys:List w.T} {m aB:Nat} {u:Ty} {xs:List u.T} {x:List w.T}
  (h1:QE s.L src w=some ys) (h2:i_ s.L (.a_ b off no)=some m) (h3:Qi s.L b=some ⟨aB,true,.arr u xs⟩) (h4:fX (.sl u) (.sl w) xs=some x)
  (hK:eJ s r KV KE Q) (h:KV (.int .i64 ((min ys.length m:Nat):Int)) (cU s.L b ⟨aB+1,true,.arr w (ng x off m ys)⟩)=some r) {P:Program} {t t2:TypeId} {e:TypeId×Nat×Nat×Value} (he:oZ P t=some e) (bf:e.2.1=w.size) :
  ∃ y,o_ P XE.ai .copy [t,t2] [v,w'] s.H KE=some y/\Q y:=by
 obtain ⟨DG,cells,kI,gD⟩:=Qkj hs dU h1
 have hu:u=w:=by have:=Qr h4;injection this
 subst hu
 obtain rfl:=Qg h4
 obtain ⟨bG,hr⟩:=hr
 obtain ⟨e0,size,bytes,z⟩:=e
 simp only at bf;subst bf
 cases hm:s.μ b with
 | none =>
  rw [hm] at hr
  obtain ⟨r1,r2,rfl⟩:=hr
  have hB:=hs.aH b _ h3
  unfold BR at hB;simp only [hm] at hB
  subst hB
  have fV:m=0:=by
   unfold i_ at h2
   cases no with
   | some n=>simp at r2 h2;omega
   | none=>simp only [h3,r1] at h2;simp at h2;omega
  subst fV
  have hc:ng ([]:List u.T) off 0 ys=[]:=by simp [ng]
  rw [hc] at h
  obtain ⟨s',e1,e2,e3,k2,W0⟩:=hs.W2 h3 rfl hm ⟨aB+1,true,.arr u []⟩ rfl rfl (by
   intro s' aE
   unfold BR;simp only [aE])
  have hy:=hK (.int .i64 0) (.int .i64 0) s' k2 W0 rfl (by rw [e1];simpa using h)
  rw [e2] at hy
  rcases DG with ⟨a,n,c,rfl⟩ | ⟨q,rfl⟩
  .simpa only [o_,he,Q1] using hy
  .simpa only [o_,he,Q1] using hy
 | some mb =>
  rw [hm] at hr
  obtain ⟨r1,rfl⟩:=hr
  obtain ⟨a1,a2,k,a3,a4,a5,a6,a7⟩:=mS hs h3 hm
  have hmm:m=no.getD (mb.n - off):=by
   unfold i_ at h2
   cases no with
   | some n=>simp at h2 ⊢;exact h2.symm
   | none =>
    simp only [h3] at h2
    simp at h2 ⊢;omega
  have hle:off+m<=xs.length:=by rw [hmm,<- a2];exact r1
  have C2:=RL.oD a4 a5
  have fc:(cells.take (min ys.length m*u.size)).length=min ys.length m*u.size:=by
   have:min ys.length m*u.size<=ys.length*u.size:=Zk _ (Nat.min_le_left _ _)
   rw [List.length_take,kI.1];omega
  have b_:mb.sh+off*mb.es+(cells.take (min ys.length m*u.size)).length<=k.cells.length:=by
   rw [fc,a1]
   have:(off+min ys.length m)*u.size<=xs.length*u.size:=Zk _ (by omega)
   rw [Nat.add_mul] at this;omega
  have bF:∀ v∈cells.take (min ys.length m*u.size),az v=true:=fun v hv=>by
   obtain ⟨i,hi,ei⟩:=List.getElem_of_mem (List.mem_of_mem_take hv)
   have eU:=Ty.size_pos u
   have hq:i / u.size < ys.length:=by rw [Nat.div_lt_iff_lt_mul eU,<- kI.1];exact hi
   refine ax.cell _ (kI.2 _ hq) v ?_
   have AA:=Nat.mod_lt i eU
   have M6:=Nat.div_add_mod i u.size
   refine List.mem_iff_getElem?.2 ⟨i % u.size,?_⟩
   rw [sU,if_pos AA,show i / u.size*u.size+i % u.size=i by rw [Nat.mul_comm];exact M6,Z6 hi,ei]
  have eF:=Ig (ai:=XE.ai) (o:=mb.sh+off*mb.es) a3 (a6 rfl).1 bF (by rw [aI];exact (a6 rfl).2) b_
  have Nb:(ng xs off m ys).length=xs.length:=by unfold ng;simp;omega
  have Ih:((lay k.cells (mb.sh+off*mb.es) (cells.take (min ys.length m*u.size))).drop mb.sh).take ((ng xs off m ys).length*u.size)=lay ((k.cells.drop mb.sh).take (xs.length*u.size)) (off*u.size) (cells.take (min ys.length m*u.size)):=by
   have:(off+min ys.length m)*u.size<=xs.length*u.size:=Zk _ (by omega)
   rw [Nat.add_mul] at this
   rw [Nb,a1,Qr9 a4 (by rw [fc];omega)]
  obtain ⟨s2,e1,e2,e3,k2,W0⟩:=Qrc hs (xs':=ng xs off m ys) h3 hm (cells':=lay k.cells (mb.sh+off*mb.es) (cells.take (min ys.length m*u.size))) a3 (by unfold ng;simp;omega) (by rw [Nb];exact (AE hs h3 hm a3).lay b_ (fun v hv=>kI.plain v (List.mem_of_mem_take hv))) (by rw [Ih];exact C2.ng kI hle)
  have hy:=hK (.int .i64 ((min ys.length m:Nat):Int)) _ s2 k2 W0 rfl (by rw [e1];exact h)
  rw [e2] at hy
  have:o_ P XE.ai .copy [t,t2] [Value.slice (some ⟨mb.z,mb.sh+off*mb.es,none⟩) (no.getD (mb.n - off)) mb.es,w'] s.H KE=KE (.int .i64 ((min ys.length m:Nat):Int)) (s.H.set mb.z (some ⟨lay k.cells (mb.sh+off*mb.es) (cells.take (min ys.length m*u.size)),false,k.mp⟩)):=by
   simp only [o_,he,Q1,wo]
   rw [gD,<- hmm,eF];rfl
  rw [this];exact hy
theorem Qkk {b:Builtin} {ts:List TypeId} {ps:List PV} {vs:List Value} (hP:X.P=XE.P) (aI:XE.ai=s.ai) (hs:aD s) (hr:Qx (ER s) ps vs) (hK:eJ s r KV KE Q) (h:W3 X.P b ts ps s.L KV=some r):∃ y,o_ XE.P XE.ai b ts vs s.H KE=some y/\Q y:=by
 rw [<- hP]
 unfold W3 at h
 split at h
 .rename_i t q
  obtain ⟨v,rfl,hv⟩:=Qx.one hr
  clear hr
  obtain rfl:v=.string q:=hv
  split at h
  .rename_i hu
   simp only [o_,hu]
   exact hK.here hs (p:=.int .i64 q.size) rfl h
  .simp at h
 .rename_i t p JX
  obtain ⟨v,rfl,hv⟩:=Qx.one hr
  clear hr
  split at h
  .rename_i hu
   replace h:=ob h;obtain ⟨n,h1,h⟩:=h
   obtain ⟨a,c,rfl⟩:=WJ hs hv h1
   simp only [o_,hu]
   exact hK.here hs (p:=.int .i64 n) rfl h
  .simp at h
 .rename_i t
  obtain ⟨v,rfl,hv⟩:=Qx.one hr
  clear hr
  obtain rfl:v=.slice none 0 0:=hv
  split at h
  .rename_i hu
   simp only [o_,hu]
   exact hK.here hs (p:=.int .i64 0) rfl h
  .simp at h
 .rename_i k x k' y
  obtain ⟨v,w,rfl,hv,hw⟩:=Qx.two hr
  clear hr
  obtain rfl:v=.int k x:=hv
  obtain rfl:w=.int k' y:=hw
  simp only [o_]
  split at h
  .rename_i e1;rw [if_pos e1];exact hK.here hs (p:=.int k _) rfl h
  .simp at h
 .rename_i k x k' y
  obtain ⟨v,w,rfl,hv,hw⟩:=Qx.two hr
  clear hr
  obtain rfl:v=.int k x:=hv
  obtain rfl:w=.int k' y:=hw
  simp only [o_]
  split at h
  .rename_i e1;rw [if_pos e1];exact hK.here hs (p:=.int k _) rfl h
  .simp at h
 .rename_i t u p x
  obtain ⟨v,w,rfl,hv,hw⟩:=Qx.two hr
  clear hr
  replace h:=ob h;obtain ⟨⟨el,size,bytes,z⟩,h1,h⟩:=h
  replace h:=ob h;obtain ⟨ty,h2,h⟩:=h
  simp only [o_,h1,Q1]
  split at h
  .rename_i bf
   have bf:=Z7 bf
   split at h
   .rename_i q hu
    obtain rfl:w=.string q:=hw
    split at h
    .rw [hu]
     have:size=1:=by rw [<- bf];rfl
     subst this
     simp only
     have hb:=WS hs hv (u:=.int .u8) (RL.bytes q.data.toList) hK h
     have hl:(q.data.toList.map fun b=>(b.toNat:Int)).length=q.size:=by simp
     rw [hl] at hb;exact hb
    .simp at h
   .rename_i el' x' hu
    split at h
    .rename_i tt W4
     replace h:=ob h;obtain ⟨⟨ys,L1⟩,h3,h⟩:=h
     obtain ⟨cJ,s1,cells,Kf,l1,g1,k1,t1,vB,JZ,fc,WW,hc,hvv⟩:=Qdo hs hw h3
     have Ba:(1:Nat)=size:=bf
     subst Ba
     have vc:∃ a c,w=.slice a ys.length c/\Qf s.H 1 w=some cells:=by
      rcases hvv with ⟨rfl,rfl⟩ | ⟨z,o,k,rfl,q1,q2,q3,q4,q5,q6⟩
      .have:cells=[]:=Z1 fc
       subst this
       exact ⟨_,_,rfl,rfl⟩
      .refine ⟨_,_,rfl,?_⟩
       simp only [Qf,Nat.mul_one]
       cases hz:ys.length with
       | zero =>
        have:cells=[]:=Z1 (fc.trans hz)
        rw [this];simp [fQ]
       | succ q =>
        simp only [fQ,Qv,q1,Q1]
        have:Nat.ble (o+(q+1)) k.cells.length=true:=Nat.ble_eq_true_of_le (by omega)
        rw [this,q4,hz,List.drop_take]
        simp
     obtain ⟨a,c,rfl,oC⟩:=vc
     rw [hu];simp only
     rw [oC]
     simp only at h
     rw [<- l1] at h
     have:=Qki t1 (k1.ER hv) cJ (fun z i e=>⟨(JZ z i e).1,by rw [g1];exact (JZ z i e).2.2⟩) fc WW (fun i hi=>by rw [g1,k1.ai];exact hc i hi) (eJ.keep k1 hK) h
     rw [g1] at this
     exact this
    .rename_i xp _ ty _ _ E5 _
     replace h:=ob h;obtain ⟨ys,h3,h⟩:=h
     obtain ⟨cells,a,c,rfl,oC,kI⟩:=WZ hs hw h3 (fun u e=>by
      cases hq:J0 s.L xp with
      | false=>rfl
      | true=>exact absurd e (fun e=>E5 u hq e))
     rw [hu];simp only
     rw [<- bf,oC]
     exact WS hs hv kI hK h
   .rename_i l hu
    obtain rfl:w=.int _ l:=hw
    split at h
    .rename_i hz
     rw [hu];simp only
     obtain ⟨a1,a2⟩:=Qj h
     rw [a1];simp only [aa]
     have:=WS hs hv (RL.rep l.toNat (WR s hz)) hK a2
     have hl:(List.replicate l.toNat (sS ty)).length=l.toNat:=by simp
     rw [hl,bf] at this;exact this
    .simp at h
   .simp at h
  .simp at h
 .rename_i t t2 b off no src
  obtain ⟨v,w,rfl,hv,hw⟩:=Qx.two hr
  clear hr
  replace h:=ob h;obtain ⟨⟨el,size,bytes,z⟩,h1,h⟩:=h
  replace h:=ob h;obtain ⟨ty,h2,h⟩:=h
  split at h
  .rename_i bf
   have bf:=Z7 bf
   replace h:=ob h;obtain ⟨ys,h3,h⟩:=h
   replace h:=ob h;obtain ⟨m,h4,h⟩:=h
   split at h
   .rename_i aB u xs hb
    replace h:=ob h;obtain ⟨x,h5,h⟩:=h
    exact Qtv aI hs hv hw h3 h4 hb h5 hK h h1 bf.symm
   .simp at h
  .simp at h
 .simp at h
end
inductive Kd where
 | fz
 | os
 | cb
 | cl (g:FuncId)
def PM.kd:PM->Kd
 | .ro=>.fz
 | .mv=>.os
 | .io=>.os
 | .ps=>.cb
 | .cl g=>.cl g
def AF:Bool->Kd
 | true=>.os
 | false=>.fz
def gS (H:af) (ai:Nat):(u:Ty)->List u.T->List Value->List Nat->Prop
 | .os t,xs,cs,ks=>t.flat=true/\ks.Nodup/\(∀ z∈ks,∃ k,ah H z=some k)/\∃ Kf:Nat->Option Nat,(∀ z i,Kf z=some i->z∈ks)/\∀ i (hi:i < xs.length),∃ v,cs[i]? = some v/\iE (fun z=>Kf z=some i) H ai t xs[i] v
 | .int _,_,_,ks=>ks=[]
 | .bool,_,_,ks=>ks=[]
 | .str,_,_,ks=>ks=[]
 | .sl _,_,_,ks=>ks=[]
 | .pair _ _,_,_,ks=>ks=[]
theorem gS.frame {H G:af} {ai:Nat}:∀ {u:Ty} {xs:List u.T} {cs:List Value} {ks:List Nat},gS H ai u xs cs ks->(∀ z∈ks,ah G z=ah H z)->gS G ai u xs cs ks
 | .os t,xs,cs,ks,h,hg=>by
  obtain ⟨h1,h2,h3,Kf,h4,h5⟩:=h
  refine ⟨h1,h2,fun z hz=>by rw [hg z hz];exact h3 z hz,Kf,h4,fun i hi=>?_⟩
  obtain ⟨v,q1,q2⟩:=h5 i hi
  exact ⟨v,q1,q2.mono h1 (fun z hz=>⟨hz,hg z (h4 z i hz)⟩)⟩
 | .int _,_,_,_,h,_=>h
 | .bool,_,_,_,h,_=>h
 | .str,_,_,_,h,_=>h
 | .sl _,_,_,_,h,_=>h
 | .pair _ _,_,_,_,h,_=>h
theorem gS.lt {H:af} {ai:Nat}:∀ {u:Ty} {xs:List u.T} {cs:List Value} {ks:List Nat},gS H ai u xs cs ks->∀ z∈ks,z < H.length
 | .os t,xs,cs,ks,h=>by
  obtain ⟨_,_,h3,_⟩:=h
  intro z hz;obtain ⟨k,hk⟩:=h3 z hz;exact Qq hk
 | .int _,_,_,_,h=>by rw [show _=[] from h];simp
 | .bool,_,_,_,h=>by rw [show _=[] from h];simp
 | .str,_,_,_,h=>by rw [show _=[] from h];simp
 | .sl _,_,_,_,h=>by rw [show _=[] from h];simp
 | .pair _ _,_,_,_,h=>by rw [show _=[] from h];simp
theorem gS.flat {H:af} {ai:Nat}:∀ {u:Ty} {xs:List u.T} {cs:List Value} {ks:List Nat},u.flat=true->gS H ai u xs cs ks->ks=[]
 | .os t,xs,cs,ks,f,h=>by simp [Ty.flat] at f
 | .int _,_,_,_,_,h=>h
 | .bool,_,_,_,_,h=>h
 | .str,_,_,_,_,h=>h
 | .sl _,_,_,_,_,h=>h
 | .pair _ _,_,_,_,_,h=>h
theorem gS.AG {H:af} {ai:Nat}:∀ {u:Ty} {xs:List u.T} {cs:List Value},(∀ t,u≠.os t)->gS H ai u xs cs []
 | .os t,_,_,f=>absurd rfl (f t)
 | .int _,_,_,_=>rfl
 | .bool,_,_,_=>rfl
 | .str,_,_,_=>rfl
 | .sl _,_,_,_=>rfl
 | .pair _ _,_,_,_=>rfl
theorem gS.W5 {H:af} {ai:Nat}:∀ {u:Ty} {xs:List u.T} {cs:List Value} {ks:List Nat},u.iQ=false->gS H ai u xs cs ks->ks=[]
 | .os t,xs,cs,ks,f,h=>by simp [Ty.iQ] at f
 | .int _,_,_,_,_,h=>h
 | .bool,_,_,_,_,h=>h
 | .str,_,_,_,_,h=>h
 | .sl _,_,_,_,_,h=>h
 | .pair _ _,_,_,_,_,h=>h
def oT (N:Nat->Prop) (H:af) (ai:Nat) (u:Ty) (x:List u.T) (w:Value) (ids:List Nat):Prop :=
 (ids=[]/\x=[]/\w=.slice none 0 0)\/∃ z o k ks,ids=z::ks/\z∉ks/\w=.slice (some ⟨z,o,none⟩) x.length u.size/\ah H z=some k/\k.ro=false/\ai<=z/\Fit o (x.length*u.size) k.cells/\RL N H u x ((k.cells.drop o).take (x.length*u.size))/\gS H ai u x ((k.cells.drop o).take (x.length*u.size)) ks
theorem oT.cell {N:Nat->Prop} {H:af} {ai:Nat} {u:Ty} {x:List u.T} {w:Value} {ids:List Nat} (h:oT N H ai u x w ids):az w=true/\Qa w w=true:=by
 rcases h with ⟨_,_,rfl⟩ | ⟨z,o,k,ks,_,_,rfl,_⟩<;>simp [az,Qa]
theorem oT.frame {N M:Nat->Prop} {H G:af} {ai:Nat} {u:Ty} {x:List u.T} {w:Value} {ids:List Nat} (h:oT N H ai u x w ids) (hf:∀ z,N z->z < H.length->M z/\ah G z=ah H z) (hi:∀ z∈ids,ah G z=ah H z):oT M G ai u x w ids:=by
 rcases h with h | ⟨z,o,k,ks,rfl,h0,h2,h3,h4,h5,h6,h7,h8⟩
 .exact .inl h
 .exact .inr ⟨z,o,k,ks,rfl,h0,h2,by rw [hi z (by simp)];exact h3,h4,h5,h6,h7.frame hf,h8.frame (fun y hy=>hi y (by simp [hy]))⟩
theorem RL.rows {N M:Nat->Prop} {H G:af} {t:Ty} {xs:List (Ty.os t).T} {c:List Value} (h:RL N H (.os t) xs c):RL M G (.os t) xs c :=
 ⟨h.1,fun i hi=>h.2 i hi⟩
theorem oT.flat {N M:Nat->Prop} {H:af} {ai:Nat} {u:Ty} {x:List u.T} {w:Value} {ids:List Nat} (h:oT N H ai u x w ids) (hf:(u.flat || u.jK)=true):oT M H ai u x w ids:=by
 rcases h with h | ⟨z,o,k,ks,rfl,h0,h2,h3,h4,h5,h6,h7,h8⟩
 .exact .inl h
 .refine .inr ⟨z,o,k,ks,rfl,h0,h2,h3,h4,h5,h6,?_,h8⟩
  cases hu:u.flat with
  | true=>exact ⟨h7.1,fun i hi=>ax.flat _ hu (h7.2 i hi)⟩
  | false =>
   rw [hu] at hf
   cases u with
   | os t=>exact h7.rows
   | _=>simp [Ty.jK] at hf
theorem oT.lt {N:Nat->Prop} {H:af} {ai:Nat} {u:Ty} {x:List u.T} {w:Value} {ids:List Nat} (h:oT N H ai u x w ids):∀ z∈ids,z < H.length:=by
 rcases h with ⟨rfl,_⟩ | ⟨z,o,k,ks,rfl,h0,h2,h3,_,_,_,_,h8⟩
 .simp
 .intro q hq
  rcases Z2 hq with rfl | hq
  .exact Qq h3
  .exact h8.lt q hq
def dz (N:Nat->Prop) (H:af) (ai:Nat):(t:Ty)->t.T->List Value->List Nat->Prop
 | .os u,x,cs,ids=>∃ w,cs=[w]/\oT N H ai u x w ids
 | .pair a b,x,cs,ids=>∃ i j,ids=i++j/\dz N H ai a x.1 (cs.take a.size) i/\dz N H ai b x.2 (cs.drop a.size) j
 | .int k,x,cs,ids=>ids=[]/\ax N H (.int k) x cs
 | .bool,x,cs,ids=>ids=[]/\ax N H .bool x cs
 | .str,x,cs,ids=>ids=[]/\ax N H .str x cs
 | .sl t,x,cs,ids=>ids=[]/\ax N H (.sl t) x cs
theorem dz.rep {N:Nat->Prop} {H:af} {ai:Nat}:∀ (t:Ty) {x:t.T} {cs:List Value} {ids:List Nat},dz N H ai t x cs ids->ax N H t x cs
 | .int k,_,_,_,h=>h.2
 | .bool,_,_,_,h=>h.2
 | .str,_,_,_,h=>h.2
 | .sl t,_,_,_,h=>h.2
 | .os u,_,_,_,h=>by obtain ⟨w,rfl,ho⟩:=h;exact ⟨w,rfl,ho.cell⟩
 | .pair a b,x,cs,ids,h=>by
  obtain ⟨i,j,_,h1,h2⟩:=h
  unfold ax
  exact ⟨dz.rep a h1,dz.rep b h2⟩
theorem dz.of {N:Nat->Prop} {H:af} {ai:Nat}:∀ (t:Ty) {x:t.T} {cs:List Value},t.dD=false->ax N H t x cs->dz N H ai t x cs []
 | .int k,_,_,_,h=>⟨rfl,h⟩
 | .bool,_,_,_,h=>⟨rfl,h⟩
 | .str,_,_,_,h=>⟨rfl,h⟩
 | .sl t,_,_,_,h=>⟨rfl,h⟩
 | .os u,_,_,f,h=>by simp [Ty.dD] at f
 | .pair a b,x,cs,f,h=>by
  simp only [Ty.dD,Bool.or_eq_false_iff] at f
  unfold ax at h
  exact ⟨[],[],rfl,dz.of a f.1 h.1,dz.of b f.2 h.2⟩
theorem dz.nil {N:Nat->Prop} {H:af} {ai:Nat}:∀ (t:Ty) {x:t.T} {cs:List Value} {ids:List Nat},t.dD=false->dz N H ai t x cs ids->ids=[]
 | .int k,_,_,_,_,h=>h.1
 | .bool,_,_,_,_,h=>h.1
 | .str,_,_,_,_,h=>h.1
 | .sl t,_,_,_,_,h=>h.1
 | .os u,_,_,_,f,h=>by simp [Ty.dD] at f
 | .pair a b,x,cs,ids,f,h=>by
  simp only [Ty.dD,Bool.or_eq_false_iff] at f
  obtain ⟨i,j,rfl,h1,h2⟩:=h
  rw [dz.nil a f.1 h1,dz.nil b f.2 h2];rfl
theorem dz.frame {N M:Nat->Prop} {H G:af} {ai:Nat} (hf:∀ z,N z->z < H.length->M z/\ah G z=ah H z):∀ (t:Ty) {x:t.T} {cs:List Value} {ids:List Nat},dz N H ai t x cs ids->(∀ z∈ids,ah G z=ah H z)->dz M G ai t x cs ids
 | .int k,_,_,_,h,_=>⟨h.1,ax.frame hf _ h.2⟩
 | .bool,_,_,_,h,_=>⟨h.1,ax.frame hf _ h.2⟩
 | .str,_,_,_,h,_=>⟨h.1,ax.frame hf _ h.2⟩
 | .sl t,_,_,_,h,_=>⟨h.1,ax.frame hf _ h.2⟩
 | .os u,_,_,_,h,hi=>by obtain ⟨w,rfl,ho⟩:=h;exact ⟨w,rfl,ho.frame hf hi⟩
 | .pair a b,x,cs,ids,h,hi=>by
  obtain ⟨i,j,rfl,h1,h2⟩:=h
  exact ⟨i,j,rfl,dz.frame hf a h1 (fun z hz=>hi z (by simp [hz])),dz.frame hf b h2 (fun z hz=>hi z (by simp [hz]))⟩
theorem dz.flat {N M:Nat->Prop} {H:af} {ai:Nat}:∀ (t:Ty) {x:t.T} {cs:List Value} {ids:List Nat},t.jL=true->dz N H ai t x cs ids->dz M H ai t x cs ids
 | .int k,_,_,_,_,h=>⟨h.1,ax.flat _ rfl h.2⟩
 | .bool,_,_,_,_,h=>⟨h.1,ax.flat _ rfl h.2⟩
 | .str,_,_,_,_,h=>⟨h.1,ax.flat _ rfl h.2⟩
 | .sl t,_,_,_,f,h=>by simp [Ty.jL] at f
 | .os u,_,_,_,f,h=>by obtain ⟨w,rfl,ho⟩:=h;exact ⟨w,rfl,ho.flat f⟩
 | .pair a b,x,cs,ids,f,h=>by
  simp only [Ty.jL,Z8] at f
  obtain ⟨i,j,rfl,h1,h2⟩:=h
  exact ⟨i,j,rfl,dz.flat a f.1 h1,dz.flat b f.2 h2⟩
theorem dz.lt {N:Nat->Prop} {H:af} {ai:Nat}:∀ (t:Ty) {x:t.T} {cs:List Value} {ids:List Nat},dz N H ai t x cs ids->∀ z∈ids,z < H.length
 | .int k,_,_,_,h=>by rw [h.1];simp
 | .bool,_,_,_,h=>by rw [h.1];simp
 | .str,_,_,_,h=>by rw [h.1];simp
 | .sl t,_,_,_,h=>by rw [h.1];simp
 | .os u,_,_,_,h=>by obtain ⟨w,rfl,ho⟩:=h;exact ho.lt
 | .pair a b,x,cs,ids,h=>by
  obtain ⟨i,j,rfl,h1,h2⟩:=h
  intro z hz
  rcases List.mem_append.1 hz with hz | hz
  .exact dz.lt a h1 z hz
  .exact dz.lt b h2 z hz
theorem QG {fz:Bool}:∀ (t:Ty) {cs:List PV} {L:LS} {r:t.T×LS},refl fz t cs L=some r->t.dD=false
 | .int k,_,_,_,_=>rfl
 | .bool,_,_,_,_=>rfl
 | .str,_,_,_,_=>rfl
 | .sl t,_,_,_,_=>rfl
 | .os u,_,_,_,h=>by simp [refl] at h
 | .pair a b,cs,L,r,h=>by
  unfold refl at h
  obtain ⟨x,h1,h⟩:=ob h
  obtain ⟨y,h2,h⟩:=ob h
  simp only [Ty.dD,Bool.or_eq_false_iff]
  exact ⟨QG a h1,QG b h2⟩
def HR (N:Nat->Prop) (H:af) (ai:Nat) (kd:Kd) (v:TV) (w:Value) (ids:List Nat):Prop :=
 match kd with
 | .fz=>∃ cs,Ii v.1 cs w/\dz N H ai v.1 v.2 cs ids
 | .cb=>∃ z k j,ids=z::j/\w=.pointer (some ⟨z,0,none⟩)/\ah H z=some k/\k.ro=false/\ai<=z/\dz N H ai v.1 v.2 k.cells j
 | .os=>∃ u x,v=⟨.sl u,x⟩/\oT N H ai u x w ids
 | .cl g=>ids=[]/\w=.func (.func g) ⟨[]⟩ ⟨[]⟩
theorem HR.frame {N M:Nat->Prop} {H G:af} {ai:Nat} {kd:Kd} {v:TV} {w:Value} {ids:List Nat} (h:HR N H ai kd v w ids) (hf:∀ z,N z->z < H.length->M z/\ah G z=ah H z) (hi:∀ z∈ids,ah G z=ah H z):HR M G ai kd v w ids:=by
 unfold HR at h ⊢
 cases kd with
 | fz=>obtain ⟨cs,h2,h3⟩:=h;exact ⟨cs,h2,dz.frame hf _ h3 hi⟩
 | cb =>
  obtain ⟨z,k,j,rfl,h2,h3,h4,h5,h6⟩:=h
  exact ⟨z,k,j,rfl,h2,by rw [hi z (by simp)];exact h3,h4,h5,dz.frame hf _ h6 (fun z hz=>hi z (by simp [hz]))⟩
 | os =>
  obtain ⟨u,x,rfl,h⟩:=h
  exact ⟨u,x,rfl,h.frame hf hi⟩
 | cl g=>exact h
def E6:Kd->Ty->Bool
 | .fz,t=>t.jL
 | .cb,t=>t.jL
 | .os,.sl u=>u.flat || u.jK
 | .os,_=>true
 | .cl _,_=>true
theorem HR.flat {N M:Nat->Prop} {H:af} {ai:Nat} {kd:Kd} {v:TV} {w:Value} {ids:List Nat} (h:HR N H ai kd v w ids) (hf:E6 kd v.1=true):HR M H ai kd v w ids:=by
 unfold HR at h ⊢
 cases kd with
 | fz=>obtain ⟨cs,h2,h3⟩:=h;exact ⟨cs,h2,dz.flat _ hf h3⟩
 | cb=>obtain ⟨z,k,j,rfl,h2,h3,h4,h5,h6⟩:=h;exact ⟨z,k,j,rfl,h2,h3,h4,h5,dz.flat _ hf h6⟩
 | os =>
  obtain ⟨u,x,rfl,h⟩:=h
  exact ⟨u,x,rfl,h.flat hf⟩
 | cl g=>exact h
theorem HR.lt {N:Nat->Prop} {H:af} {ai:Nat} {kd:Kd} {v:TV} {w:Value} {ids:List Nat} (h:HR N H ai kd v w ids):∀ z∈ids,z < H.length:=by
 unfold HR at h
 cases kd with
 | fz=>obtain ⟨cs,_,h⟩:=h;exact dz.lt _ h
 | cb =>
  obtain ⟨z,k,j,rfl,h2,h3,_,_,h6⟩:=h
  intro q hq
  rcases Z2 hq with rfl | hq
  .exact Qq h3
  .exact dz.lt _ h6 q hq
 | os =>
  obtain ⟨u,x,rfl,h⟩:=h
  exact h.lt
 | cl g=>rw [h.1];simp
def cV (N:Nat->Prop) (H:af) (ai:Nat):List Kd->List TV->List Value->List (List Nat)->Prop
 | [],[],[],[]=>True
 | k::ks,v::vs,w::ws,i::is=>HR N H ai k v w i/\cV N H ai ks vs ws is
 | _,_,_,_=>False
theorem cV.frame {N M:Nat->Prop} {H G:af} {ai:Nat} (hf:∀ z,N z->z < H.length->M z/\ah G z=ah H z):∀ {ks:List Kd} {vs:List TV} {ws:List Value} {is:List (List Nat)},cV N H ai ks vs ws is->(∀ z∈is.flatten,ah G z=ah H z)->cV M G ai ks vs ws is
 | [],[],[],[],_,_=>trivial
 | _::_,_::_,_::_,_::_,h,hi=>⟨h.1.frame hf (fun z hz=>hi z (by simp [hz])),cV.frame hf h.2 (fun z hz=>hi z (by simp at hz ⊢;exact .inr hz))⟩
def sY:List (PM×Ty)->List Kd
 | []=>[]
 | (.io,_)::r=>.os::sY r
 | (.ps,_)::r=>.cb::sY r
 | _::r=>sY r
def AH:List (PM×Ty)->List Value->List Value
 | [],_=>[]
 | (.io,_)::r,w::ws=>w::AH r ws
 | (.ps,_)::r,w::ws=>w::AH r ws
 | _::r,_::ws=>AH r ws
 | _::_,[]=>[]
def J1:List (PM×Ty)->List (List Nat)->List (List Nat)
 | [],_=>[]
 | (.io,_)::r,w::ws=>w::J1 r ws
 | (.ps,_)::r,w::ws=>w::J1 r ws
 | _::r,_::ws=>J1 r ws
 | _::_,[]=>[]
def wX (sig:nT) (call:jF sig.eL->Option (jF sig.cX)) (bX:List Value->Nat->af->Option (Value×af)) (ai:Nat):Prop :=
 ∀ a r,call a=some r->∀ (H:af) (eY:Nat->Prop) (ws:List Value) (an:List (List Nat)),
  (∀ z,eY z->z < H.length)->ai<=H.length->an.flatten.Nodup->(∀ z∈an.flatten,¬ eY z) ->
  cV (fun z=>z∉an.flatten/\¬ eY z) H ai (sig.params.map fun p=>p.1.kd) (fu sig.eL a) ws an ->
  ∃ v H' ru bt aO,bX ws ai H=some (v,H')/\v=iP ru/\H.length<=H'.length/\(∀ z,z < H.length->z∉an.flatten->ah H' z=ah H z) /\
   (bt.flatten++aO.flatten).Nodup/\(∀ z∈bt.flatten++aO.flatten,z∈an.flatten\/H.length<=z)/\(∀ z∈bt.flatten++aO.flatten,¬ eY z) /\
   cV (fun z=>z∉bt.flatten++aO.flatten/\¬ eY z) H' ai (sig.results.map fun q=>AF q.1) ((fu sig.cX r).take sig.results.length) ru bt /\
   cV (fun z=>z∉bt.flatten++aO.flatten/\¬ eY z) H' ai (sY sig.params) ((fu sig.cX r).drop sig.results.length) (AH sig.params ws) aO
theorem Nc:∀ (ts:List Ty) {vs:List TV} {a:jF ts},nj ts vs=some a->fu ts a=vs
 | [],[],a,h=>rfl
 | [t],[v],a,h=>by
  have e:=Qr h
  obtain ⟨t',x⟩:=v
  simp only at e;subst e
  have:=Qg h
  simp only [fu];rw [<- this]
 | t::u::r,v::vs,a,h=>by
  simp only [nj] at h
  replace h:=ob h;obtain ⟨x,h1,h⟩:=h
  replace h:=ob h;obtain ⟨y,h2,h⟩:=h
  simp at h;subst h
  have e:=Qr h1
  obtain ⟨t',x'⟩:=v
  simp only at e;subst e
  have:=Qg h1
  simp only [fu];rw [Nc (u::r) h2,<- this]
 | [],_::_,a,h=>by simp [nj] at h
 | [t],[],a,h=>by simp [nj] at h
 | [t],_::_::_,a,h=>by simp [nj] at h
 | _::_::_,[],a,h=>by simp [nj] at h
def Ij (s:S) (b:Nat):List Nat:=(List.range s.H.length).filter fun z=>match s.br z with | some p=>p.1==b | none=>false
theorem J2 {s:S} (hs:aD s) {b z:Nat}:z∈Ij s b↔∃ i,s.br z=some (b,i):=by
 unfold Ij
 rw [List.mem_filter,List.mem_range]
 constructor
 .rintro ⟨_,h⟩
  split at h
  .rename_i p hp
   have:p.1=b:=by simpa using h
   exact ⟨p.2,by rw [hp,<- this]⟩
  .simp at h
 .rintro ⟨i,h⟩
  exact ⟨(hs.kl z _ h).1,by rw [h];simp⟩
theorem Qa5 (s:S) (b:Nat):(Ij s b).Nodup:=List.Pairwise.filter _ List.nodup_range
theorem Qih {s:S} (hs:aD s) {u:Ty} {p:PV} {w:Value} (hr:cm s p w) {x:List u.T} {L':LS} (h:rj u p s.L=some (x,L')) :
  ∃ s' ids,s'.L=L'/\s'.H=s.H/\s'.μ=s.μ/\aj s s'/\aD s'/\oT s'.N s'.H s.ai u x w ids/\(∀ z,s'.aF z↔s.aF z\/z∈ids)/\(∀ z∈ids,¬ s.aF z)/\ids.Nodup/\(∀ z,bM s' z↔bM s z):=by
 unfold rj at h
 split at h
 .simp at h;obtain ⟨rfl,rfl⟩:=h
  obtain rfl:w=_:=hr
  exact ⟨s,[],rfl,rfl,rfl,aj.refl s,hs,.inl ⟨rfl,rfl,rfl⟩,by simp,by simp,by simp,fun _=>Iff.rfl⟩
 .rename_i b off no
  split at h
  .rename_i aB wt xs hb
   split at h
   .simp at h
   rename_i Nd
   replace h:=ob h;obtain ⟨y,h1,h⟩:=h
   simp at h;obtain ⟨rfl,rfl⟩:=h
   have e0:=Qr h1
   injection e0 with e0;subst e0
   have:=Qg h1;subst this
   have hr:cm s (.a_ b off no) w:=hr
   obtain ⟨bG,hr⟩:=hr
   obtain ⟨s1,l1,g1,u1,k1,t1,hl,ho⟩:=hs.kill hb rfl false
   have rm:s1.H=s.H:=g1
   have W6:∀ t,wt≠.os t:=fun t e=>by subst e;simp [Ty.iQ] at Nd
   refine ⟨s1,(match s.μ b with | none=>[] | some m=>[m.z]),l1,rm,u1,k1,t1,?_,?_,?_,?_,ho⟩
   .cases hm:s.μ b with
    | none =>
     rw [hm] at hr;obtain ⟨rfl,_,rfl⟩:=hr
     have hx:=E2 hs hb hm;subst hx
     have:cut ([]:List wt.T) 0 no=[]:=by cases no<;>simp [cut]
     exact .inl ⟨rfl,this,rfl⟩
    | some m =>
     rw [hm] at hr;obtain ⟨g0,rfl⟩:=hr
     obtain ⟨a1,a2,k,a3,a4,a5,a6,a7⟩:=mS hs hb hm
     have CZ:cut xs off no=(xs.drop off).take (no.getD (m.n - off)):=by
      cases no with
      | none=>simp only [cut,Option.getD_none];rw [Zs (by simp;omega)]
      | some l=>rfl
     have hle:off+no.getD (m.n - off)<=xs.length:=by omega
     have hlen:(cut xs off no).length=no.getD (m.n - off):=by rw [CZ];simp;omega
     have h1:=RL.sub a4 a5 hle
     rw [<- CZ] at h1
     refine .inr ⟨m.z,m.sh+off*wt.size,k,[],rfl,by simp,?_,by rw [rm];exact a3,(a6 rfl).1,(a6 rfl).2,?_,?_,gS.AG W6⟩
     .rw [hlen,a1]
     .rw [hlen];exact (AE hs hb hm a3).sub (by rw [<- Nat.add_mul];exact Zk _ hle)
     .rw [hlen];exact h1.frame (fun z hz hl=>⟨k1.N hl hz,k1.fr z hl hz.1⟩)
   .intro z;rw [hl z]
    cases s.μ b with
    | none=>simp
    | some m=>simp [eq_comm]
   .cases hm:s.μ b with
    | none=>simp
    | some m=>intro z hz;simp at hz;subst hz;exact hs.lm b _ m hb hm
   .cases s.μ b<;>simp
  .rename_i aB wt xs hb
   split at h
   .replace h:=ob h;obtain ⟨y,h1,h⟩:=h
    simp at h;obtain ⟨rfl,rfl⟩:=h
    have e0:=Qr h1
    injection e0 with e0;subst e0
    have:=Qg h1;subst this
    have hr:cm s (.a_ b 0 none) w:=hr
    obtain ⟨bG,hr⟩:=hr
    obtain ⟨_,cJ,cz⟩:=mT hs hb
    rcases cz with ⟨hm,hx⟩ | ⟨m,k,hm,a1,a2,a3,a4,a5,a6,a7⟩
    .rw [hm] at hr;obtain ⟨_,_,rfl⟩:=hr
     obtain ⟨s1,l1,g1,u1,k1,t1,hl,ho⟩:=hs.kill hb rfl false
     have rm:s1.H=s.H:=g1
     refine ⟨s1,[],l1,rm,u1,k1,t1,.inl ⟨rfl,hx,rfl⟩,fun z=>?_,by simp,by simp,ho⟩
     rw [hl z,hm];simp
    .obtain ⟨s1,l1,g1,u1,k1,t1,hl,ho,_⟩:=hs.E4 hb rfl false
     have rm:s1.H=s.H:=g1
     have ni:∀ z∈Ij s b,¬ s.aF z:=fun z hz=>by
      obtain ⟨i,hi⟩:=(J2 hs).1 hz;exact (hs.kl z _ hi).2.2.1
     have R5:∀ z∈Ij s b,∃ k,ah s1.H z=some k:=fun z hz=>by
      obtain ⟨i,hi⟩:=(J2 hs).1 hz;rw [rm];exact hs.ka z _ hi
     rw [hm] at hr;obtain ⟨_,rfl⟩:=hr
     refine ⟨s1,m.z::Ij s b,l1,rm,u1,k1,t1,?_,fun z=>?_,fun z hz=>?_,?_,ho⟩
     .refine .inr ⟨m.z,m.sh,k,Ij s b,rfl,?_,?_,by rw [rm];exact a3,a5,a6,by rw [show (Ty.os wt).size=1 from rfl,Nat.mul_one];exact a4,?_,cJ,Qa5 s b,R5,(fun z=>match s.br z with | some p=>if p.1=b then some p.2 else none | none=>none),fun z i hz=>?_,fun i hi=>?_⟩
      .intro hz
       obtain ⟨i,hi⟩:=(J2 hs).1 hz
       exact hs.dV hi hb hm rfl
      .simp [a1,a2,Ty.size]
      .rw [show (Ty.os wt).size=1 from rfl,Nat.mul_one]
       refine ⟨by rw [List.length_take,List.length_drop,show (Ty.os wt).size=1 from rfl];have:=a4.1;omega,fun i hi=>?_⟩
       obtain ⟨v,q1,q2⟩:=a7 i hi (by simp)
       refine ⟨v,?_,?_⟩
       .rw [show (Ty.os wt).size=1 from rfl,Nat.mul_one]
        apply List.ext_getElem?;intro q
        rw [sU]
        by_cases hq:q < 1
        .rw [if_pos hq,show q=0 by omega,List.getElem?_take_of_lt (by omega),Zp];simpa using q1
        .rw [if_neg hq,List.getElem?_eq_none (by simp;omega)]
       .rcases q2 with ⟨_,rfl⟩ | ⟨_,_,_,rfl,_⟩<;>simp [az,Qa]
      .replace hz:(match s.br z with | some p=>if p.1=b then some p.2 else none | none=>none)=some i:=hz
       split at hz
       .rename_i p hp
        split at hz
        .rename_i e;exact (J2 hs).2 ⟨p.2,by rw [hp,<- e]⟩
        .simp at hz
       .simp at hz
      .obtain ⟨v,q1,q2⟩:=a7 i hi (by simp)
       refine ⟨v,?_,q2.mono cJ (fun z hz=>⟨by show (match s.br z with | some p=>if p.1=b then some p.2 else none | none=>none)=some i;rw [hz];simp,by rw [rm]⟩)⟩
       rw [show (Ty.os wt).size=1 from rfl,Nat.mul_one,List.getElem?_take_of_lt hi,Zp];exact q1
     .rw [hl z,List.mem_cons,J2 hs,hm]
      simp [eq_comm]
     .rcases Z2 hz with rfl | hz
      .exact hs.lm b _ m hb hm
      .exact ni z hz
     .refine List.nodup_cons.2 ⟨fun hz=>?_,Qa5 s b⟩
      obtain ⟨i,hi⟩:=(J2 hs).1 hz
      exact hs.dV hi hb hm rfl
   .simp at h
  .simp at h
 .rename_i b i aB wt x0
  split at h
  .rename_i v' t xs hb
   split at h
   .rename_i hv
    have hv:=Z7 hv
    replace h:=ob h;obtain ⟨y,h1,h⟩:=h
    simp at h;obtain ⟨rfl,rfl⟩:=h
    have e0:=Qr h1
    injection e0 with e0;subst e0
    have:=Qg h1;subst this
    obtain ⟨bG,_,hval⟩:cm s (.rw b i aB wt x0) w:=hr
    obtain ⟨cJ,cz,_⟩:=(hval _ hb).2 hv
    have eE:∀ t,wt≠.os t:=fun t e=>by subst e;simp [Ty.flat] at cJ
    rcases cz with ⟨rfl,rfl⟩ | ⟨z,oo,k,rfl,q1,q2,q3,q4,q5,q6⟩
    .obtain ⟨s1,l1,g1,u1,k1,t1,hl,ho⟩:=hs.ir (i:=i) hb none (fun z h=>by simp at h)
     refine ⟨s1,[],l1,g1,u1,k1,t1,.inl ⟨rfl,rfl,rfl⟩,fun z=>?_,by simp,by simp,ho⟩
     rw [hl z];simp
    .obtain ⟨s1,l1,g1,u1,k1,t1,hl,ho⟩:=hs.ir (i:=i) hb (some z) (fun y h=>by injection h with h;subst h;exact q1)
     refine ⟨s1,[z],l1,g1,u1,k1,t1,.inr ⟨z,oo,k,[],rfl,by simp,rfl,by rw [g1];exact q2,q3,q4,q5,?_,gS.AG eE⟩,fun y=>?_,fun y hy=>?_,by simp,ho⟩
     .refine ⟨by rw [List.length_take,List.length_drop];have:=q5.1;omega,fun j hj=>?_⟩
      have hm:=j4 (k:=wt.size) hj
      have e2:cw ((k.cells.drop oo).take (x0.length*wt.size)) (j*wt.size) wt.size=(k.cells.drop (oo+j*wt.size)).take wt.size:=by
       unfold cw;rw [List.drop_take,List.take_take,Nat.min_eq_left (by omega),List.drop_drop]
      rw [e2];exact ax.flat wt cJ (q6 j hj)
     .rw [hl y];simp [eq_comm]
     .simp at hy;subst hy;exact (hs.kl y _ q1).2.2.1
   .simp at h
  .simp at h
 .simp at h
theorem QH {s:S} (hs:aD s) {t:Ty} {p:PV} {w:Value} (hr:ER s p w) {x:TV} {L':LS} (h:vC true t p s.L=some (x,L')) :
  x.1=t/\∃ s' ids,s'.L=L'/\s'.H=s.H/\s'.μ=s.μ/\aj s s'/\aD s'/\HR s'.N s'.H s.ai .os x w ids/\(∀ z,s'.aF z↔s.aF z\/z∈ids)/\(∀ z∈ids,¬ s.aF z)/\ids.Nodup/\(∀ z,bM s' z↔bM s z):=by
 unfold vC at h
 split at h
 .rename_i e;simp at e
 .split at h
  .rename_i u
   obtain ⟨⟨y,L1⟩,h1,h⟩:=ob h
   simp at h;obtain ⟨rfl,rfl⟩:=h
   have dU:cm s p w:=by
    have lp:=h1
    unfold rj at lp
    split at lp
    .exact hr
    .exact hr
    .exact hr
    .simp at lp
   obtain ⟨s',ids,a1,a2,a3,a4,a5,a6,a7⟩:=Qih hs dU h1
   exact ⟨rfl,s',ids,a1,a2,a3,a4,a5,⟨u,y,rfl,a6⟩,a7⟩
  .simp at h
theorem Qii {s:S} {t:Ty} {ps:List PV} {cs:List Value} {v:Value} (hv:Ii t cs v) (h:cq s ps cs):AR s (kT t ps) v:=by
 have leaf:∀ w,cs=[w]->∃ p,ps=[p]/\cm s p w:=by
  rintro w rfl
  match ps,h with
  | [p],h=>exact ⟨p,rfl,h.1⟩
 cases t with
 | pair a b=>obtain rfl:=hv;exact ⟨cs,rfl,h⟩
 | int k=>obtain ⟨p,rfl,hp⟩:=leaf v hv;exact AR.of hp
 | bool=>obtain ⟨p,rfl,hp⟩:=leaf v hv;exact AR.of hp
 | str=>obtain ⟨p,rfl,hp⟩:=leaf v hv;exact AR.of hp
 | sl t=>obtain ⟨p,rfl,hp⟩:=leaf v hv;exact AR.of hp
 | os t=>obtain ⟨p,rfl,hp⟩:=leaf v hv;exact AR.of hp
theorem Qqt {u:Ty} {v:PV} {L L':LS} {x:List u.T} (h:rj u v L=some (x,L')):vC true (.sl u) v L=some (⟨.sl u,x⟩,L'):=by
 unfold vC;simp only [h,Q1]
theorem Ik:∀ (t:Ty) {s:S} {cs:List PV} {vs:List Value} {x:t.T} {L':LS},aD s->cq s cs vs->Il t cs s.L=some (x,L') ->
  ∃ s' ids,s'.L=L'/\s'.H=s.H/\s'.μ=s.μ/\aj s s'/\aD s'/\dz s'.N s'.H s.ai t x vs ids/\(∀ z,s'.aF z↔s.aF z\/z∈ids)/\(∀ z∈ids,¬ s.aF z)/\ids.Nodup/\(∀ z,bM s' z->bM s z)
 | .int k,s,cs,vs,x,L',hs,hr,h=>by
  obtain ⟨s',a1,a2,a3,a4,a5,a6,a7,a8⟩:=CX (.int k) hs hr h
  exact ⟨s',[],a1,a2,a3,a4,a5,⟨rfl,a6⟩,by simp [a8],by simp,by simp,a7⟩
 | .bool,s,cs,vs,x,L',hs,hr,h=>by
  obtain ⟨s',a1,a2,a3,a4,a5,a6,a7,a8⟩:=CX .bool hs hr h
  exact ⟨s',[],a1,a2,a3,a4,a5,⟨rfl,a6⟩,by simp [a8],by simp,by simp,a7⟩
 | .str,s,cs,vs,x,L',hs,hr,h=>by
  obtain ⟨s',a1,a2,a3,a4,a5,a6,a7,a8⟩:=CX .str hs hr h
  exact ⟨s',[],a1,a2,a3,a4,a5,⟨rfl,a6⟩,by simp [a8],by simp,by simp,a7⟩
 | .sl t,s,cs,vs,x,L',hs,hr,h=>by
  obtain ⟨s',a1,a2,a3,a4,a5,a6,a7,a8⟩:=CX (.sl t) hs hr h
  exact ⟨s',[],a1,a2,a3,a4,a5,⟨rfl,a6⟩,by simp [a8],by simp,by simp,a7⟩
 | .os u,s,cs,vs,x,L',hs,hr,h=>by
  unfold Il at h;split at h
  .rename_i p
   obtain ⟨v,rfl,hv⟩:=hr.one
   obtain ⟨_,s1,ids,l1,g1,u1,k1,t1,hh,hl,oU,hnd,ho⟩:=QH hs (ER.fq hv) (Qqt h)
   obtain ⟨u',x',e,hh⟩:=hh
   injection e with e1 e2
   injection e1 with e1;subst e1
   replace e2:=eq_of_heq e2;subst e2
   exact ⟨s1,ids,l1,g1,u1,k1,t1,⟨v,rfl,hh⟩,hl,oU,hnd,fun z hz=>(ho z).1 hz⟩
  .simp at h
 | .pair a b,s,cs,vs,x,L',hs,hr,h=>by
  unfold Il at h
  obtain ⟨r,h1,h⟩:=ob h
  obtain ⟨q,h2,h⟩:=ob h
  simp at h;obtain ⟨e1,e2⟩:=h
  obtain ⟨s1,i,l1,g1,u1,k1,t1,r1,m1,n1,d1,o1⟩:=Ik a (x:=r.1) (L':=r.2) hs (Qx.take a.size hr) (by rw [h1])
  rw [<- l1] at h2
  obtain ⟨s2,j,l2,g2,u2,k2,t2,r2,m2,n2,d2,o2⟩:=Ik b (x:=q.1) (L':=q.2) t1 (Qx.drop a.size (k1.cq hr)) (by rw [h2])
  subst e1 e2
  have aI:s1.ai=s.ai:=k1.ai
  refine ⟨s2,i++j,l2,g2.trans g1,u2.trans u1,k1.trans k2,t2,⟨i,j,rfl,dz.frame (fun z hz au=>⟨k2.N au hz,by rw [g2]⟩) a r1 (fun z _=>by rw [g2]),by rw [<- aI];exact r2⟩,fun z=>?_,fun z hz=>?_,?_,fun z hz=>o1 z (o2 z hz)⟩
  .rw [m2,m1,Zh];constructor
   .rintro ((h | h) | h)<;>simp [h]
   .rintro (h | h | h)<;>simp [h]
  .rcases List.mem_append.1 hz with hz | hz
   .exact n1 z hz
   .exact fun h=>n2 z hz ((m1 z).2 (.inl h))
  .rw [Zn]
   exact ⟨d1,d2,fun p hp q hq e=>by subst e;exact n2 p hq ((m1 p).2 (.inr hp))⟩
theorem Qij:∀ {u:Ty} (x:List u.T),(∀ t,u=.os t->t.flat=false)->E7 u x=.arr u x
 | .os t,x,h=>by simp only [E7,h t rfl]
 | .int _,_,_=>rfl
 | .bool,_,_=>rfl
 | .str,_,_=>rfl
 | .sl _,_,_=>rfl
 | .pair _ _,_,_=>rfl
theorem Nf {s:S} (hs:aD s) {u:Ty} {x:List u.T} {w:Value} {ids:List Nat} (ho:oT s.N s.H s.ai u x w ids) (hl:∀ z∈ids,s.aF z) :
  ∃ s',s'.L=Qw s.L (E7 u x)/\s'.H=s.H/\aj s s'/\aD s'/\cm s' (.a_ s.L.bl.length 0 none) w/\(∀ z,s.N z->s'.N z)/\(∀ z,s.aF z->z∉ids->s'.aF z):=by
 by_cases hu:∃ t,u=.os t/\t.flat=true
 .obtain ⟨t,rfl,hf⟩:=hu
  have Wy:E7 (.os t) x=.rows t x none:=by simp only [E7,hf]
  rw [Wy]
  rcases ho with ⟨rfl,rfl,rfl⟩ | ⟨z,oo,k,ks,rfl,q0,rfl,q1,q2,q3,q4,q5,q6,q7,q8,Kf,q9,q10⟩
  .obtain ⟨s1,e1,e2,e3,k1,t1,l1,_,n1⟩:=hs.AD t hf
   refine ⟨s1,e1,e2,k1,t1,⟨by rw [e1,Qk];omega,?_⟩,n1,fun z hz _=>by rw [l1];exact hz⟩
   rw [e3];simp
  .have hz:s.aF z:=hl z (by simp)
   rw [show (Ty.os t).size=1 from rfl,Nat.mul_one] at q4 q5 q10
   obtain ⟨s1,e1,e2,e3,k1,t1,l1,o1⟩:=hs.AI (.rows t x none) ⟨z,oo,1,x.length⟩ hz Kf (fun y i e=>⟨hl y (by simp [q9 y i e]),fun h=>q0 (by subst h;exact q9 _ i e),q8 y (q9 y i e)⟩) (fun s' hk hm hH mU=>by
    unfold BR;simp only [hm]
    refine ⟨trivial,hf,trivial,trivial,k,by rw [hH];exact q1,q4,q2,by rw [hk.ai];exact q3,fun i hi _=>?_⟩
    obtain ⟨v,p1,p2⟩:=q10 i hi
    refine ⟨v,?_,?_⟩
    .rw [List.getElem?_take_of_lt hi,Zp] at p1;exact p1
    .rw [hk.ai];exact p2.mono hf (fun y hy=>⟨mU y i hy,by rw [hH]⟩))
   refine ⟨s1,e1,e2,k1,t1,⟨by rw [e1,Qk];omega,?_⟩,fun z' aX=>⟨fun h=>aX.1 ((o1 z').1 h),by rw [k1.dj];exact aX.2⟩,fun z' aX hn=>(l1 z').2 ⟨aX,fun e=>hn (by simp [e]),?_⟩⟩
   .rw [e3];simp [Ty.size]
   .cases e:Kf z' with
    | none=>rfl
    | some i=>exact absurd (List.mem_cons_of_mem _ (q9 z' i e)) hn
 .have eE:∀ t,u=.os t->t.flat=false:=fun t e=>by
   cases h:t.flat with
   | false=>rfl
   | true=>exact absurd ⟨t,e,h⟩ hu
  rw [Qij x eE]
  rcases ho with ⟨rfl,rfl,rfl⟩ | ⟨z,oo,k,ks,rfl,q0,rfl,q1,q2,q3,q4,q5,q6⟩
  .obtain ⟨s1,e1,e2,e3,k1,t1,l1,n1⟩:=hs.oA u
   refine ⟨s1,e1,e2,k1,t1,⟨by rw [e1,Qk];omega,?_⟩,n1,fun z hz _=>by rw [l1];exact hz⟩
   rw [e3];simp
  .have hz:s.aF z:=hl z (by simp)
   obtain ⟨s1,e1,e2,e3,k1,t1,l1,o1⟩:=hs.AJ (.arr u x) ⟨z,oo,u.size,x.length⟩ hz (fun s' hk hm hH QI=>by
    unfold BR;simp only [hm]
    refine ⟨trivial,trivial,k,by rw [hH];exact q1,q4,fun i hi=>?_,fun _=>⟨q2,by rw [hk.ai];exact q3⟩,fun e=>absurd e (by decide)⟩
    have:=q5.2 i hi
    have oy:=j4 (k:=u.size) hi
    unfold cw at this;rw [List.drop_take,List.take_take,Nat.min_eq_left (by omega),List.drop_drop] at this
    rw [hH];exact ax.mono (fun z hz=>(QI z).2 hz) _ this)
   refine ⟨s1,e1,e2,k1,t1,⟨by rw [e1,Qk];omega,?_⟩,fun z' aX=>⟨fun h=>aX.1 ((o1 z').1 h),by rw [k1.dj];exact aX.2⟩,fun z' aX hn=>(l1 z').2 ⟨aX,fun e=>hn (by simp [e])⟩⟩
   rw [e3];simp
theorem W7:∀ (t:Ty) {x:t.T} {L:LS},L.bl.length<=(nu t x L).2.bl.length/\∀ b,b < L.bl.length->Qi (nu t x L).2 b=Qi L b
 | .int k,_,L=>⟨Zd _,fun _ _=>rfl⟩
 | .bool,_,L=>⟨Zd _,fun _ _=>rfl⟩
 | .str,_,L=>⟨Zd _,fun _ _=>rfl⟩
 | .sl t,_,L=>⟨Zd _,fun _ _=>rfl⟩
 | .os u,x,L=>by
  simp only [nu]
  exact ⟨by rw [Qk];omega,fun b hb=>Qz hb⟩
 | .pair a c,x,L=>by
  simp only [nu]
  obtain ⟨a1,a2⟩:=W7 a (x:=x.1) (L:=L)
  obtain ⟨b1,b2⟩:=W7 c (x:=x.2) (L:=(nu a x.1 L).2)
  exact ⟨Nat.le_trans a1 b1,fun b hb=>by rw [b2 b (Zm hb a1),a2 b hb]⟩
theorem Ng:∀ (t:Ty) {s:S} {x:t.T} {vs:List Value} {ids:List Nat},aD s->dz s.N s.H s.ai t x vs ids->(∀ z∈ids,s.aF z)->ids.Nodup ->
  ∃ s',s'.L=(nu t x s.L).2/\s'.H=s.H/\aj s s'/\aD s'/\cq s' (nu t x s.L).1 vs/\(∀ z,s.N z->s'.N z)/\(∀ z,s.aF z->z∉ids->s'.aF z)
 | .int k,s,x,vs,ids,hs,hr,_,_=>⟨s,rfl,rfl,aj.refl s,hs,AK (.int k) (ax.mono (fun z hz=>S.gu hz) _ hr.2),fun _ h=>h,fun _ h _=>h⟩
 | .bool,s,x,vs,ids,hs,hr,_,_=>⟨s,rfl,rfl,aj.refl s,hs,AK .bool (ax.mono (fun z hz=>S.gu hz) _ hr.2),fun _ h=>h,fun _ h _=>h⟩
 | .str,s,x,vs,ids,hs,hr,_,_=>⟨s,rfl,rfl,aj.refl s,hs,AK .str (ax.mono (fun z hz=>S.gu hz) _ hr.2),fun _ h=>h,fun _ h _=>h⟩
 | .sl t,s,x,vs,ids,hs,hr,_,_=>⟨s,rfl,rfl,aj.refl s,hs,AK (.sl t) (ax.mono (fun z hz=>S.gu hz) _ hr.2),fun _ h=>h,fun _ h _=>h⟩
 | .os u,s,x,vs,ids,hs,hr,hl,hn=>by
  obtain ⟨w,rfl,ho⟩:=hr
  obtain ⟨s1,a1,a2,a3,a4,a5,a6,a7⟩:=Nf hs ho hl
  exact ⟨s1,a1,a2,a3,a4,⟨a5,trivial⟩,a6,a7⟩
 | .pair a b,s,x,vs,ids,hs,hr,hl,hn=>by
  obtain ⟨i,j,rfl,r1,r2⟩:=hr
  rw [Zn] at hn
  obtain ⟨n1,n2,n3⟩:=hn
  obtain ⟨s1,a1,a2,a3,a4,a5,a6,a7⟩:=Ng a hs r1 (fun z hz=>hl z (by simp [hz])) n1
  obtain ⟨s2,b1,b2,b3,b4,b5,b6,b7⟩:=Ng b a4 (dz.frame (H:=s.H) (G:=s1.H) (M:=s1.N) (fun z hz _=>⟨a6 z hz,by rw [a2]⟩) b (by rw [a3.ai];exact r2) (fun z _=>by rw [a2])) (fun z hz=>a7 z (hl z (by simp [hz])) (fun h=>n3 z h z hz rfl)) n2
  simp only [nu]
  rw [a1] at b1 b5
  refine ⟨s2,b1,b2.trans a2,a3.trans b3,b4,?_,fun z hz=>b6 z (a6 z hz),fun z hz hm=>b7 z (a7 z hz (fun h=>hm (by simp [h]))) (fun h=>hm (by simp [h]))⟩
  have:=Qx.append (b3.cq a5) b5
  rw [List.take_append_drop] at this
  exact this
theorem W8 {s:S} {t:Ty} {p:PV} {w:Value} (hr:ER s p w) (ho:okV p=true) (hs:Nh t p=true):Ii t w.cells.toList w:=by
 have leaf:∀ v,cm s p v->v.cells.toList=[v]:=by
  intro v hv
  have:=hv.cell
  cases v<;>first | rfl | simp [az] at this
 cases p with
 | kU cs=>simp [okV] at ho
 | fn f a b=>simp [okV] at ho
 | undef=>simp [okV] at ho
 | agg cs =>
  obtain ⟨vs,rfl,_⟩:=hr
  cases t<;>first | rfl | simp [Nh] at hs
 | _ =>
  have:=leaf w hr
  cases t<;>first | exact this | simp [Nh] at hs
def TM (s:S) (ai:Nat):List (PM×Ty)->List PV->List Value->List (Option TV)->List (List Nat)->Prop
 | [],[],[],[],[]=>True
 | (m,t)::ps,p::args,w::ws,o::os,ids::an=>(match m with
   | .ro=>o=none/\ids=[]
   | .cl g=>ids=[]/\w=.func (.func g) ⟨[]⟩ ⟨[]⟩/\∃ x,o=some x
   | .mv=>∃ x,o=some x/\x.1=t/\HR s.N s.H ai .os x w ids/\∀ z∈ids,s.aF z
   | .io=>∃ x b u,o=some x/\x.1=t/\t=.sl u/\p=.a_ b 0 none/\HR s.N s.H ai .os x w ids/\ids=(match s.μ b with | none=>[] | some m=>[m.z])
   | .ps=>∃ x b m j,o=some x/\x.1=t/\p=.ptr b 0/\HR s.N s.H ai .cb x w ids/\s.μ b=some m/\ids=m.z::j/\∀ z∈j,s.aF z)/\TM s ai ps args ws os an
 | _,_,_,_,_=>False
theorem TM.keep {s s':S} {ai:Nat} (hk:aj s s') (hH:s'.H=s.H) (hu:s'.μ=s.μ) (hl:∀ z,s.aF z->s'.aF z):∀ {ps:List (PM×Ty)} {args:List PV} {ws:List Value} {os:List (Option TV)} {an:List (List Nat)},TM s ai ps args ws os an->TM s' ai ps args ws os an
 | [],[],[],[],[],_=>trivial
 | (m,t)::ps,p::args,w::ws,o::os,ids::an,h=>by
  have fr:∀ {kd:Kd} {x:TV},HR s.N s.H ai kd x w ids->HR s'.N s'.H ai kd x w ids:=fun h=>h.frame (fun z hz au=>⟨hk.N au hz,hk.fr z au hz.1⟩) (fun z _=>by rw [hH])
  refine ⟨?_,TM.keep hk hH hu hl h.2⟩
  have h1:=h.1
  cases m with
  | ro=>exact h1
  | cl g=>exact h1
  | mv=>obtain ⟨x,a,b,c,d⟩:=h1;exact ⟨x,a,b,fr c,fun z hz=>hl z (d z hz)⟩
  | io=>obtain ⟨x,b,u,a1,a2,a3,a4,a5,a6⟩:=h1;exact ⟨x,b,u,a1,a2,a3,a4,fr a5,by rw [hu];exact a6⟩
  | ps=>obtain ⟨x,b,m,j,a1,a2,a3,a4,a5,a6,a7⟩:=h1;exact ⟨x,b,m,j,a1,a2,a3,fr a4,by rw [hu];exact a5,a6,fun z hz=>hl z (a7 z hz)⟩
def kV (s:S):List (PM×Ty)->List PV->Prop
 | [],_=>True
 | (.io,_)::ps,.a_ b _ _::args=>(∃ B,Qi s.L b=some B/\B.rw=true)/\kV s ps args
 | (.ps,_)::ps,.ptr b _::args=>(∃ B,Qi s.L b=some B/\B.rw=true)/\kV s ps args
 | _::ps,_::args=>kV s ps args
 | _::_,[]=>True
theorem C3 {l:List Nat} {b:Nat} (h:l.contains b=false):b∉l:=by
 intro hm;rw [List.contains_iff_mem.2 hm] at h;simp at h
theorem J3:∀ {ps:List (PM×Ty)} {args:List PV} {ws:List Value} {aQ dW:List Nat} {s:S} {os:List (Option TV)} {L1:LS},aD s->Qx (ER s) args ws->kC ps args aQ s.L=some (os,dW,L1) ->
  ∃ s1 an,s1.L=L1/\s1.H=s.H/\s1.μ=s.μ/\aj s s1/\aD s1/\(∀ z,bM s1 z->bM s z)/\(∀ z,s.aF z->s1.aF z)/\TM s1 s.ai ps args ws os an/\(∀ b,b∈aQ->b∈dW) /\
   ∀ s2,aj s1 s2->(∀ z,s1.aF z->s2.aF z)->aD s2->s2.μ=s.μ->kV s2 ps args->an.flatten.Nodup/\∀ z∈an.flatten,(s2.aF z/\¬ s.aF z)\/∃ b B m,b∉aQ/\b∈dW/\Qi s2.L b=some B/\B.rw=true/\s2.μ b=some m/\m.z=z
 | [],[],[],aQ,dW,s,os,L1,hs,_,h=>by
  simp [kC] at h;obtain ⟨rfl,rfl,rfl⟩:=h
  exact ⟨s,[],rfl,rfl,rfl,aj.refl s,hs,fun _ h=>h,fun _ h=>h,trivial,fun _ h=>h,fun s2 _ _ _ _ _=>by simp⟩
 | (m,t)::ps,p::args,w::ws,aQ,dW,s,os,L1,hs,hr,h=>by
  obtain ⟨ef,dU⟩:=hr
  simp only [kC] at h
  have rz:∀ (hm:m=.mv),(Q1 (vC true t p s.L) fun x=>Q1 (kC ps args aQ x.2) fun r=>some (some x.1::r.1,r.2.1,r.2.2))=some (os,dW,L1)->∃ s1 an,s1.L=L1/\s1.H=s.H/\s1.μ=s.μ/\aj s s1/\aD s1/\(∀ z,bM s1 z->bM s z)/\(∀ z,s.aF z->s1.aF z)/\TM s1 s.ai ((m,t)::ps) (p::args) (w::ws) os an/\(∀ b,b∈aQ->b∈dW) /\
   ∀ s2,aj s1 s2->(∀ z,s1.aF z->s2.aF z)->aD s2->s2.μ=s.μ->kV s2 ((m,t)::ps) (p::args)->an.flatten.Nodup/\∀ z∈an.flatten,(s2.aF z/\¬ s.aF z)\/∃ b B m,b∉aQ/\b∈dW/\Qi s2.L b=some B/\B.rw=true/\s2.μ b=some m/\m.z=z:=by
   clear h
   intro hm h
   subst hm
   replace h:=ob h;obtain ⟨⟨x,L2⟩,h1,h⟩:=h
   replace h:=ob h;obtain ⟨⟨C4,AL,L3⟩,h2,h⟩:=h
   simp at h;obtain ⟨rfl,rfl,rfl⟩:=h
   obtain ⟨hx,s1,ids,l1,g1,u1,k1,t1,hh,hl,oU,hnd,ho⟩:=QH hs ef h1
   simp only at h2
   rw [<- l1] at h2
   obtain ⟨s2,an,l2,g2,u2,k2,t2,o2,m2,AM,jM,C5⟩:=J3 t1 (Qx.mono (fun _ _=>k1.ER) dU) h2
   have aI:s1.ai=s.ai:=k1.ai
   refine ⟨s2,ids::an,l2,g2.trans g1,u2.trans u1,k1.trans k2,t2,fun z hz=>(ho z).1 (o2 z hz),fun z hz=>m2 z ((hl z).2 (.inl hz)),⟨⟨x,rfl,hx,hh.frame (fun z hz au=>⟨k2.N au hz,k2.fr z au hz.1⟩) (fun z _=>by rw [g2]),fun z hz=>m2 z ((hl z).2 (.inr hz))⟩,by rw [<- aI];exact AM⟩,jM,?_⟩
   intro s3 k3 m3 t3 u3 iz
   obtain ⟨n1,n2⟩:=C5 s3 k3 m3 t3 (u3.trans u1.symm) iz
   refine ⟨?_,fun z hz=>?_⟩
   .rw [Ze,Zn]
    refine ⟨hnd,n1,fun a ha b hb e=>?_⟩
    subst e
    have DT:s1.aF a:=(hl a).2 (.inr ha)
    rcases n2 a hb with ⟨_,h5⟩ | ⟨b',B,mm,_,_,h6,h7,h8,rfl⟩
    .exact h5 DT
    .exact t3.lm b' B mm h6 h8 (m3 _ (m2 _ DT))
   .rw [Ze,Zh] at hz
    rcases hz with hz | hz
    .exact .inl ⟨m3 z (m2 z ((hl z).2 (.inr hz))),oU z hz⟩
    .rcases n2 z hz with ⟨h4,h5⟩ | h6
     .exact .inl ⟨h4,fun h=>h5 ((hl z).2 (.inl h))⟩
     .exact .inr h6
  cases m with
  | ro =>
   simp only at h
   replace h:=ob h;obtain ⟨⟨C4,AL,L3⟩,h2,h⟩:=h
   simp at h;obtain ⟨rfl,rfl,rfl⟩:=h
   obtain ⟨s2,an,l2,g2,u2,k2,t2,o2,m2,AM,jM,C5⟩:=J3 hs dU h2
   refine ⟨s2,[]::an,l2,g2,u2,k2,t2,o2,m2,⟨⟨rfl,rfl⟩,AM⟩,jM,fun s3 k3 m3 t3 u3 iz=>?_⟩
   simpa using C5 s3 k3 m3 t3 u3 iz
  | cl g =>
   simp only at h
   split at h
   .rename_i f
    split at h
    .rename_i W9
     have W9:=Z7 W9
     subst W9
     replace h:=ob h;obtain ⟨⟨C4,AL,L3⟩,h2,h⟩:=h
     simp at h;obtain ⟨rfl,rfl,rfl⟩:=h
     obtain ⟨s2,an,l2,g2,u2,k2,t2,o2,m2,AM,jM,C5⟩:=J3 hs dU h2
     have hw:w=.func (.func f) ⟨[]⟩ ⟨[]⟩:=by
      obtain ⟨a',b',rfl,q1,q2⟩:=ef
      cases a' with
      | nil=>cases b' with
       | nil=>rfl
       | cons _ _=>exact absurd q2 id
      | cons _ _=>exact absurd q1 id
     refine ⟨s2,[]::an,l2,g2,u2,k2,t2,o2,m2,⟨⟨rfl,hw,_,rfl⟩,AM⟩,jM,fun s3 k3 m3 t3 u3 iz=>?_⟩
     have iz:kV s3 ps args:=iz
     simpa using C5 s3 k3 m3 t3 u3 iz
    .simp at h
   .simp at h
  | mv =>
   simp only at h
   split at h
   .split at h
    .simp at h
    .exact rz rfl h
   .split at h
    .simp at h
    .exact rz rfl h
   .exact rz rfl h
  | io =>
   simp only at h
   split at h
   .rename_i u b
    split at h
    .simp at h
    .rename_i rA
     have rA:=C3 rA
     replace h:=ob h;obtain ⟨x,h1,h⟩:=h
     replace h:=ob h;obtain ⟨⟨C4,AL,L3⟩,h2,h⟩:=h
     simp at h;obtain ⟨rfl,rfl,rfl⟩:=h
     obtain ⟨s2,an,l2,g2,u2,k2,t2,o2,m2,AM,jM,C5⟩:=J3 hs dU h2
     unfold J4 at h1
     split at h1
     .rename_i aB wt xs hb
      split at h1
      .simp at h1
      rename_i W_
      have eE:∀ t,wt≠.os t:=fun t e=>by subst e;simp [Ty.iQ] at W_
      replace h1:=ob h1;obtain ⟨y,h3,h1⟩:=h1
      simp at h1;subst h1
      have e0:=Qr h3
      injection e0 with e0;subst e0
      have:=Qg h3;subst this
      have ef:cm s (.a_ b 0 none) w:=ef
      obtain ⟨bG,ef⟩:=ef
      refine ⟨s2,(match s.μ b with | none=>[] | some m=>[m.z])::an,l2,g2,u2,k2,t2,o2,m2,⟨⟨_,b,wt,rfl,rfl,rfl,rfl,?_,by rw [u2]⟩,AM⟩,fun q hq=>jM q (by simp [hq]),?_⟩
      .cases hm:s.μ b with
       | none =>
        rw [hm] at ef;obtain ⟨_,_,rfl⟩:=ef
        have hx:=E2 hs hb hm;subst hx
        exact ⟨wt,[],rfl,.inl ⟨rfl,rfl,rfl⟩⟩
       | some m =>
        rw [hm] at ef;obtain ⟨g0,rfl⟩:=ef
        obtain ⟨a1,a2,k,a3,a4,a5,a6,a7⟩:=mS hs hb hm
        refine ⟨wt,xs,rfl,.inr ⟨m.z,m.sh,k,[],rfl,by simp,by simp [a1,a2],by rw [g2];exact a3,(a6 rfl).1,(a6 rfl).2,AE hs hb hm a3,(RL.oD a4 a5).frame (fun z hz hl=>⟨k2.N hl hz,k2.fr z hl hz.1⟩),gS.AG eE⟩⟩
      .intro s3 k3 m3 t3 u3 iz
       obtain ⟨⟨B,wk,Xa⟩,iz⟩:=iz
       obtain ⟨n1,n2⟩:=C5 s3 k3 m3 t3 u3 iz
       have Hv:b∈AL:=jM b (by simp)
       cases hm:s.μ b with
       | none =>
        simp only [Ze,List.nil_append]
        refine ⟨n1,fun z hz=>?_⟩
        rcases n2 z hz with h6 | ⟨b',B',mm,h5,h6⟩
        .exact .inl h6
        .exact .inr ⟨b',B',mm,fun h=>h5 (by simp [h]),h6⟩
       | some m =>
        have BD:s3.μ b=some m:=by rw [u3];exact hm
        refine ⟨?_,fun z hz=>?_⟩
        .rw [Ze,Zn]
         refine ⟨by simp,n1,fun a ha q hq e=>?_⟩
         simp at ha;subst ha;subst e
         rcases n2 _ hq with ⟨h5,_⟩ | ⟨b',B',mm,h5,_,h6,h7,h8,h9⟩
         .exact t3.lm b B m wk BD h5
         .have:=t3.inj b' b B' B mm m h6 wk h7 h8 BD h9
          exact h5 (by simp [this])
        .rw [Ze,Zh] at hz
         rcases hz with hz | hz
         .simp at hz;subst hz
          exact .inr ⟨b,B,m,rA,Hv,wk,Xa,BD,rfl⟩
         .rcases n2 z hz with h6 | ⟨b',B',mm,h5,h6⟩
          .exact .inl h6
          .exact .inr ⟨b',B',mm,fun h=>h5 (by simp [h]),h6⟩
     .simp at h1
   .simp at h
  | ps =>
   simp only at h
   split at h
   .rename_i b
    split at h
    .simp at h
    .rename_i rA
     have rA:=C3 rA
     replace h:=ob h;obtain ⟨⟨x,L2⟩,h1,h⟩:=h
     replace h:=ob h;obtain ⟨⟨C4,AL,L3⟩,h2,h⟩:=h
     simp at h;obtain ⟨rfl,rfl,rfl⟩:=h
     unfold J5 at h1
     split at h1
     .rename_i aB cs hb
      replace h1:=ob h1;obtain ⟨⟨y,L4⟩,h3,h1⟩:=h1
      simp at h1;obtain ⟨rfl,rfl⟩:=h1
      have hB:=hs.aH b _ hb
      unfold BR at hB;simp only at hB
      obtain ⟨_,m,k,hm,dH,hk,cx,bh,kB⟩:=hB
      obtain ⟨s1,j,l1,g1,u1,k1,t1,nr,nv,Ni,C6,o1⟩:=Ik t hs cx h3
      simp only at h2
      rw [<- l1] at h2
      obtain ⟨s2,an,l2,g2,u2,k2,t2,o2,m2,AM,jM,C5⟩:=J3 t1 (Qx.mono (fun _ _=>k1.ER) dU) h2
      have aI:s1.ai=s.ai:=k1.ai
      have ef:cm s (.ptr b 0) w:=ef
      obtain ⟨bG,m',aE,_,rfl⟩:=ef
      rw [hm] at aE;injection aE with aE;subst aE
      have Nj:s2.H=s.H:=g2.trans g1
      refine ⟨s2,(m.z::j)::an,l2,Nj,u2.trans u1,k1.trans k2,t2,fun z hz=>o1 z (o2 z hz),fun z hz=>m2 z ((nv z).2 (.inl hz)),⟨⟨_,b,m,j,rfl,rfl,rfl,⟨m.z,k,j,rfl,rfl,by rw [Nj];exact hk,bh,kB,dz.frame (fun z hz au=>⟨k2.N au hz,by rw [g2]⟩) t nr (fun z _=>by rw [g2])⟩,by rw [u2,u1];exact hm,rfl,fun z hz=>m2 z ((nv z).2 (.inr hz))⟩,by rw [<- aI];exact AM⟩,fun q hq=>jM q (by simp [hq]),?_⟩
      intro s3 k3 m3 t3 u3 iz
      obtain ⟨⟨B,wk,Xa⟩,iz⟩:=iz
      obtain ⟨n1,n2⟩:=C5 s3 k3 m3 t3 (u3.trans u1.symm) iz
      have Hv:b∈AL:=jM b (by simp)
      have BD:s3.μ b=some m:=by rw [u3];exact hm
      have hmj:m.z∉j:=fun h=>t3.lm b B m wk BD (m3 _ (m2 _ ((nv _).2 (.inr h))))
      refine ⟨?_,fun z hz=>?_⟩
      .rw [Ze,Zn]
       refine ⟨List.nodup_cons.2 ⟨hmj,C6⟩,n1,fun a ha q hq e=>?_⟩
       subst e
       rcases Z2 ha with rfl | ha
       .rcases n2 _ hq with ⟨h5,_⟩ | ⟨b',B',mm,h5,_,h6,h7,h8,h9⟩
        .exact t3.lm b B m wk BD h5
        .have:=t3.inj b' b B' B mm m h6 wk h7 h8 BD h9
         exact h5 (by simp [this])
       .have DT:s1.aF a:=(nv a).2 (.inr ha)
        rcases n2 _ hq with ⟨_,h5⟩ | ⟨b',B',mm,_,_,h6,h7,h8,rfl⟩
        .exact h5 DT
        .exact t3.lm b' B' mm h6 h8 (m3 _ (m2 _ DT))
      .rw [Ze,Zh] at hz
       rcases hz with hz | hz
       .rcases Z2 hz with rfl | hz
        .exact .inr ⟨b,B,m,rA,Hv,wk,Xa,BD,rfl⟩
        .exact .inl ⟨m3 z (m2 z ((nv z).2 (.inr hz))),Ni z hz⟩
       .rcases n2 z hz with ⟨h6,h7⟩ | ⟨b',B',mm,h5,h6⟩
        .exact .inl ⟨h6,fun h=>h7 ((nv z).2 (.inl h))⟩
        .exact .inr ⟨b',B',mm,fun h=>h5 (by simp [h]),h6⟩
     .simp at h1
   .simp at h
 | [],_::_,_,_,_,_,_,_,_,_,h=>by simp [kC] at h
 | _::_,[],_,_,_,_,_,_,_,_,h=>by simp [kC] at h
def TR (s:S) (al:Bool) (aQ:List Nat):List (PM×Ty)->List Value->List (Option TV)->List TV->Prop
 | [],[],[],[]=>True
 | (_,t)::ps,w::ws,o::os,v::vs=>(match o with
   | some x=>v=x
   | none=>v.1=t/\v.1.dD=false/\∃ cs,Ii v.1 cs w/\(al=true->ax s.N s.H v.1 v.2 cs) /\
    (al=false->∀ M:Nat->Prop,(∀ z,s.N z->M z)->(∀ b m B,b∉aQ->Qi s.L b=some B->s.μ b=some m->M m.z)->(∀ z b i,b∉aQ->s.br z=some (b,i)->M z)->ax M s.H v.1 v.2 cs))/\TR s al aQ ps ws os vs
 | _,_,_,_=>False
theorem QJ {al:Bool} {aQ:List Nat}:∀ {ps:List (PM×Ty)} {args:List PV} {ws:List Value} {os:List (Option TV)} {s:S} {vs:List TV} {L2:LS},aD s->Qx (ER s) args ws->AN al aQ ps args os s.L=some (vs,L2) ->
  ∃ s2,s2.L=L2/\s2.H=s.H/\s2.μ=s.μ/\aj s s2/\aD s2/\(∀ z,bM s2 z->bM s z)/\s2.aF=s.aF/\(al=false->s2=s)/\TR s2 al aQ ps ws os vs
 | [],[],[],[],s,vs,L2,hs,_,h=>by
  simp [AN] at h;obtain ⟨rfl,rfl⟩:=h
  exact ⟨s,rfl,rfl,rfl,aj.refl s,hs,fun _ h=>h,rfl,fun _=>rfl,trivial⟩
 | (m,t)::ps,p::args,w::ws,o::os,s,vs,L2,hs,hr,h=>by
  obtain ⟨ef,dU⟩:=hr
  simp only [AN] at h
  cases o with
  | some x =>
   simp only at h
   replace h:=ob h;obtain ⟨⟨cB,L3⟩,h2,h⟩:=h
   simp at h;obtain ⟨rfl,rfl⟩:=h
   obtain ⟨s2,a1,a2,a3,a4,a5,a6,a7,a8,a9⟩:=QJ hs dU h2
   exact ⟨s2,a1,a2,a3,a4,a5,a6,a7,a8,rfl,a9⟩
  | none =>
   simp only at h
   split at h
   .rename_i dh
    simp only [Z8] at dh
    replace h:=ob h;obtain ⟨⟨x,L3⟩,h1,h⟩:=h
    replace h:=ob h;obtain ⟨⟨cB,L4⟩,h2,h⟩:=h
    simp at h;obtain ⟨rfl,rfl⟩:=h
    have hc:=ef.cells dh.2.1
    have hv:=W8 (t:=t) ef dh.2.1 dh.2.2
    cases al with
    | true =>
     obtain ⟨s1,l1,g1,u1,k1,t1,nr,o1,nv⟩:=CX t hs hc h1
     simp only at h2
     rw [<- l1] at h2
     obtain ⟨s2,a1,a2,a3,a4,a5,a6,a7,a8,a9⟩:=QJ t1 (Qx.mono (fun _ _=>k1.ER) dU) h2
     exact ⟨s2,a1,a2.trans g1,a3.trans u1,k1.trans a4,a5,fun z hz=>o1 z (a6 z hz),a7.trans nv,by simp,⟨rfl,QG t h1,_,hv,fun _=>a4.vD nr,by simp⟩,a9⟩
    | false =>
     have hL:L3=s.L:=(J6 hs t hc h1).1
     simp only at h2
     rw [hL] at h2
     obtain ⟨s2,a1,a2,a3,a4,a5,a6,a7,a8,a9⟩:=QJ hs dU h2
     have E8:=a8 rfl
     refine ⟨s2,a1,a2,a3,a4,a5,a6,a7,a8,⟨rfl,QG t h1,_,hv,by simp,fun _ M hM hB Nk=>?_⟩,a9⟩
     rw [E8] at hM hB Nk ⊢
     refine (QK hs hM t (fun b off n m B kA hb hm=>hB b m B ?_ hb hm) (fun q hq b z i hp hz=>Nk z b i ?_ hz) hc h1).2
     .have:=Z3 dh.1 _ kA
      simp only [Bool.not_eq_true'] at this
      exact C3 this
     .have:=Z3 dh.1 _ hq
      rcases hp with ⟨off,n,rfl⟩ | ⟨j,aB,t',x',rfl⟩
      .simp only [Bool.not_eq_true'] at this
       exact C3 this
      .simp only [Bool.not_eq_true'] at this
       exact C3 this
   .simp at h
 | [],_::_,_,_,_,_,_,_,_,h=>by simp [AN] at h
 | _::_,[],_,_,_,_,_,_,_,h=>by simp [AN] at h
 | _::_,_::_,_,[],_,_,_,_,_,h=>by simp [AN] at h
 | [],[],_,_::_,_,_,_,_,_,h=>by simp [AN] at h
theorem Qvr {s:S} {ai:Nat} {al:Bool} {aQ:List Nat} {M:Nat->Prop} (hM:∀ z,s.N z->M z) (hB:al=false->∀ b m B,b∉aQ->Qi s.L b=some B->s.μ b=some m->M m.z) (Nk:al=false->∀ z b i,b∉aQ->s.br z=some (b,i)->M z) :
  ∀ {ps:List (PM×Ty)} {args:List PV} {ws:List Value} {os:List (Option TV)} {an:List (List Nat)} {vs:List TV},TM s ai ps args ws os an->TR s al aQ ps ws os vs->cV M s.H ai (ps.map fun p=>p.1.kd) vs ws an
 | [],[],[],[],[],[],_,_=>trivial
 | (m,t)::ps,p::args,w::ws,o::os,ids::an,v::vs,h,g=>by
  refine ⟨?_,Qvr hM hB Nk h.2 g.2⟩
  have h1:=h.1;have g1:=g.1
  have fr:∀ {kd:Kd} {x:TV},HR s.N s.H ai kd x w ids->HR M s.H ai kd x w ids:=fun h=>h.frame (fun z hz au=>⟨hM z hz,rfl⟩) (fun z _=>rfl)
  cases m with
  | ro =>
   obtain ⟨rfl,rfl⟩:=h1
   obtain ⟨rfl,c0,cs,c1,c2,c3⟩:=g1
   refine ⟨cs,c1,dz.of _ c0 ?_⟩
   cases al with
   | true=>exact ax.mono hM _ (c2 rfl)
   | false=>exact c3 rfl M hM (hB rfl) (Nk rfl)
  | cl g=>exact ⟨h1.1,h1.2.1⟩
  | mv=>obtain ⟨x,rfl,a2,a3,a4⟩:=h1;obtain rfl:v=x:=g1;exact fr a3
  | io=>obtain ⟨x,b,u,rfl,a2,a3,a4,a5,a6⟩:=h1;obtain rfl:v=x:=g1;exact fr a5
  | ps=>obtain ⟨x,b,m,j,rfl,a2,a3,a4,a5,a6,_⟩:=h1;obtain rfl:v=x:=g1;exact fr a4
def Qp:List (PM×Ty)->List PV->List Nat
 | (.io,_)::ps,.a_ b _ _::args=>b::Qp ps args
 | (.ps,_)::ps,.ptr b _::args=>b::Qp ps args
 | _::ps,_::args=>Qp ps args
 | _,_=>[]
theorem J7:∀ {ps:List (PM×Ty)} {args:List PV} {aQ dW:List Nat} {L L1:LS} {os:List (Option TV)},kC ps args aQ L=some (os,dW,L1)->(Qp ps args).Nodup/\(∀ b∈Qp ps args,b∉aQ)/\(∀ b,b∈dW↔b∈aQ\/b∈Qp ps args)
 | [],[],aQ,dW,L,L1,os,h=>by
  simp [kC] at h;obtain ⟨rfl,rfl,rfl⟩:=h;simp [Qp]
 | (m,t)::ps,p::args,aQ,dW,L,L1,os,h=>by
  simp only [kC] at h
  cases m with
  | ro =>
   simp only at h
   replace h:=ob h;obtain ⟨⟨C4,AL,L3⟩,h2,h⟩:=h
   simp at h;obtain ⟨rfl,rfl,rfl⟩:=h
   have:Qp ((.ro,t)::ps) (p::args)=Qp ps args:=by cases p<;>rfl
   rw [this];exact J7 h2
  | cl g =>
   have:Qp ((.cl g,t)::ps) (p::args)=Qp ps args:=by cases p<;>rfl
   rw [this]
   simp only at h
   split at h
   .split at h
    .replace h:=ob h;obtain ⟨⟨C4,AL,L3⟩,h2,h⟩:=h
     simp at h;obtain ⟨rfl,rfl,rfl⟩:=h
     exact J7 h2
    .simp at h
   .simp at h
  | mv =>
   have:Qp ((.mv,t)::ps) (p::args)=Qp ps args:=by cases p<;>rfl
   rw [this]
   have key:∀ {q:PV},(Q1 (vC true t q L) fun x=>Q1 (kC ps args aQ x.2) fun r=>some (some x.1::r.1,r.2.1,r.2.2))=some (os,dW,L1)->(Qp ps args).Nodup/\(∀ b∈Qp ps args,b∉aQ)/\(∀ b,b∈dW↔b∈aQ\/b∈Qp ps args):=by
    clear h
    intro q h
    replace h:=ob h;obtain ⟨x,h1,h⟩:=h
    replace h:=ob h;obtain ⟨⟨C4,AL,L3⟩,h2,h⟩:=h
    simp at h;obtain ⟨rfl,rfl,rfl⟩:=h
    exact J7 h2
   simp only at h
   split at h
   .split at h
    .simp at h
    .exact key h
   .split at h
    .simp at h
    .exact key h
   .exact key h
  | io =>
   simp only at h
   split at h
   .rename_i u b
    split at h
    .simp at h
    .rename_i rA
     have rA:=C3 rA
     replace h:=ob h;obtain ⟨x,h1,h⟩:=h
     replace h:=ob h;obtain ⟨⟨C4,AL,L3⟩,h2,h⟩:=h
     simp at h;obtain ⟨rfl,rfl,rfl⟩:=h
     obtain ⟨a1,a2,a3⟩:=J7 h2
     simp only [Qp]
     refine ⟨List.nodup_cons.2 ⟨fun hb=>a2 b hb (by simp),a1⟩,fun q hq=>?_,fun q=>?_⟩
     .rcases Z2 hq with rfl | hq
      .exact rA
      .exact fun h=>a2 q hq (by simp [h])
     .rw [a3];simp only [List.mem_cons];constructor
      .rintro ((rfl | h) | h)<;>simp_all
      .rintro (h | rfl | h)<;>simp_all
   .simp at h
  | ps =>
   simp only at h
   split at h
   .rename_i b
    split at h
    .simp at h
    .rename_i rA
     have rA:=C3 rA
     replace h:=ob h;obtain ⟨x,h1,h⟩:=h
     replace h:=ob h;obtain ⟨⟨C4,AL,L3⟩,h2,h⟩:=h
     simp at h;obtain ⟨rfl,rfl,rfl⟩:=h
     obtain ⟨a1,a2,a3⟩:=J7 h2
     simp only [Qp]
     refine ⟨List.nodup_cons.2 ⟨fun hb=>a2 b hb (by simp),a1⟩,fun q hq=>?_,fun q=>?_⟩
     .rcases Z2 hq with rfl | hq
      .exact rA
      .exact fun h=>a2 q hq (by simp [h])
     .rw [a3];simp only [List.mem_cons];constructor
      .rintro ((rfl | h) | h)<;>simp_all
      .rintro (h | rfl | h)<;>simp_all
   .simp at h
 | [],_::_,_,_,_,_,_,h=>by simp [kC] at h
 | _::_,[],_,_,_,_,_,h=>by simp [kC] at h
def C7 (L L':LS) (b:Nat) (B B':VB):Prop:=Qi L b=some B/\B.rw=true/\Qi L' b=some B'/\B'.rw=true/\B'.aB=B.aB+1
theorem Xb {b:Nat} {v:TV} {L L':LS} (h:C8 b v L=some L'):∃ n u xs x,Qi L b=some ⟨n,true,.arr u xs⟩/\v=⟨.sl u,x⟩/\L'=cU L b ⟨n+1,true,.arr u x⟩:=by
 unfold C8 at h
 split at h
 .rename_i n u xs t x hb
  split at h
  .rename_i he
   have:=Ty.beq_eq he;subst this
   simp at h;exact ⟨n,u,xs,x,hb,rfl,h.symm⟩
  .simp at h
 .simp at h
theorem QL {b:Nat} {v:TV} {L L':LS} (h:C9 b v L=some L'):∃ n cs,Qi L b=some ⟨n,true,.cells cs⟩/\cs.length=v.1.size/\L'=cU L b ⟨n+1,true,.cells (gx L.ct v.1 v.2)⟩:=by
 unfold C9 at h
 split at h
 .rename_i n cs hb
  split at h
  .rename_i he
   simp at h;exact ⟨n,cs,hb,Z7 he,h.symm⟩
  .simp at h
 .simp at h
theorem E9:∀ {ps:List (PM×Ty)} {args:List PV} {vs:List TV} {L L':LS},fN ps args vs L=some L'->(Qp ps args).Nodup ->
  L'.bl.length=L.bl.length/\L'.ct=L.ct/\(∀ c,c∉Qp ps args->Qi L' c=Qi L c)/\(∀ c∈Qp ps args,∃ B B',C7 L L' c B B')
 | [],[],[],L,L',h,_=>by
  simp [fN] at h;subst h;simp [Qp]
 | (m,t)::ps,p::args,vs,L,L',h,hn=>by
  cases m with
  | io =>
   simp only [fN] at h
   split at h
   .rename_i b v cB
    replace h:=ob h;obtain ⟨L1,h1,h⟩:=h
    simp only [Qp] at hn ⊢
    obtain ⟨gr,gd⟩:=List.nodup_cons.1 hn
    obtain ⟨a1,a2,a3,a4⟩:=E9 h gd
    obtain ⟨n',u,xs,x,g1,g2,rfl⟩:=Xb h1
    have bG:=Qn g1
    refine ⟨by rw [a1,oS],a2,fun c hc=>?_,fun c hc=>?_⟩
    .simp only [List.mem_cons,not_or] at hc
     rw [a3 c hc.2,wH (Ne.symm hc.1)]
    .rcases Z2 hc with rfl | hc
     .exact ⟨_,_,g1,rfl,by rw [a3 c gr,Qs bG],rfl,rfl⟩
     .obtain ⟨B,B',b1,b2,b3⟩:=a4 c hc
      have aV:b≠c:=fun e=>gr (e▸hc)
      rw [wH aV] at b1
      exact ⟨B,B',b1,b2,b3⟩
   .simp at h
  | ps =>
   simp only [fN] at h
   split at h
   .rename_i b off v cB
    replace h:=ob h;obtain ⟨L1,h1,h⟩:=h
    simp only [Qp] at hn ⊢
    obtain ⟨gr,gd⟩:=List.nodup_cons.1 hn
    obtain ⟨a1,a2,a3,a4⟩:=E9 h gd
    obtain ⟨n',cs,g1,g2,rfl⟩:=QL h1
    have bG:=Qn g1
    refine ⟨by rw [a1,oS],a2,fun c hc=>?_,fun c hc=>?_⟩
    .simp only [List.mem_cons,not_or] at hc
     rw [a3 c hc.2,wH (Ne.symm hc.1)]
    .rcases Z2 hc with rfl | hc
     .exact ⟨_,_,g1,rfl,by rw [a3 c gr,Qs bG],rfl,rfl⟩
     .obtain ⟨B,B',b1,b2,b3⟩:=a4 c hc
      have aV:b≠c:=fun e=>gr (e▸hc)
      rw [wH aV] at b1
      exact ⟨B,B',b1,b2,b3⟩
   .simp at h
  | ro =>
   simp only [fN] at h
   have:Qp ((.ro,t)::ps) (p::args)=Qp ps args:=by cases p<;>rfl
   rw [this] at hn ⊢;exact E9 h hn
  | cl g =>
   simp only [fN] at h
   have:Qp ((.cl g,t)::ps) (p::args)=Qp ps args:=by cases p<;>rfl
   rw [this] at hn ⊢;exact E9 h hn
  | mv =>
   simp only [fN] at h
   have:Qp ((.mv,t)::ps) (p::args)=Qp ps args:=by cases p<;>rfl
   rw [this] at hn ⊢;exact E9 h hn
 | [],_::_,_,_,_,h,_=>by simp [fN] at h
 | [],[],_::_,_,_,h,_=>by simp [fN] at h
 | _::_,[],_,_,_,h,_=>by simp [fN] at h
def CB (s:S) (ai b:Nat) (v:TV) (j:List Nat):Prop:=(∃ m k,s.μ b=some m/\m.sh=0/\ah s.H m.z=some k/\k.ro=false/\ai<=m.z/\dz s.N s.H ai v.1 v.2 k.cells j)/\∀ z∈j,s.aF z
theorem CB.keep {s s':S} {ai b:Nat} {v:TV} {j:List Nat} (hk:aj s s') (hb:b < s.L.bl.length) (hH:s'.H=s.H) (hl:∀ z,s.aF z->s'.aF z) (h:CB s ai b v j):CB s' ai b v j:=by
 obtain ⟨⟨m,k,h1,h2,h3,h4,h5,h6⟩,h7⟩:=h
 exact ⟨⟨m,k,by rw [hk.mu b hb];exact h1,h2,by rw [hH];exact h3,h4,h5,dz.frame (fun z hz au=>⟨hk.N au hz,by rw [hH]⟩) _ h6 (fun z _=>by rw [hH])⟩,fun z hz=>hl z (h7 z hz)⟩
theorem aC {H:af} {z:Nat} {k:bz} (h:ah H z=some k):H.set z (some k)=H:=by
 have hz:=Qq h
 apply List.ext_getElem?
 intro i
 by_cases e:z=i
 .subst e
  rw [List.getElem?_set_self hz]
  unfold ah at h
  split at h
  .rename_i q hq;rw [hq];injection h with h;rw [h]
  .simp at h
 .rw [List.getElem?_set_ne e]
theorem Qik {s:S} (hs:aD s) {b:Nat} {v:TV} {j:List Nat} (hc:CB s s.ai b v j) (hn:j.Nodup) {L':LS} (h:QM b v s.L=some L') :
  ∃ s',s'.L=L'/\s'.H=s.H/\aj s s'/\aD s'/\(∀ z,s.N z->s'.N z)/\(∀ z,s.aF z->z∉j->s'.aF z):=by
 unfold QM at h
 split at h
 .injection h with h;subst h
  exact ⟨s,rfl,rfl,aj.refl s,hs,fun _ h=>h,fun _ h _=>h⟩
 .split at h
  .rename_i n cs hb
   injection h with h
   obtain ⟨⟨m,k,hm,dH,hk,bh,kB,cZ⟩,hl⟩:=hc
   obtain ⟨s1,a1,a2,a3,a4,a5,a6,a7⟩:=Ng v.1 hs cZ hl hn
   have bG:=Qn hb
   have gz:Qi s1.L b=some ⟨n,true,.cells cs⟩:=by rw [a1,(W7 v.1).2 b bG];exact hb
   have EX:s1.μ b=some m:=by rw [a3.mu b bG];exact hm
   have rP:ah s1.H m.z=some k:=by rw [a2];exact hk
   obtain ⟨s2,b1,b2,b3,b4,b5,b6⟩:=a4.Nl gz rfl EX ⟨n+1,true,.cells (nu v.1 v.2 s.L).1⟩ rfl rfl k (fun s' k' aE de hN=>by
    unfold BR;simp only
    exact ⟨trivial,m,k,aE,dH,de,k'.cq a5,bh,by rw [k'.ai,a3.ai];exact kB⟩)
   rw [aC rP] at b2
   have aY:∀ z,bM s2 z->bM s1 z\/s1.H.length<=z:=b4.own
   refine ⟨s2,by rw [b1,a1];exact h,b2.trans a2,a3.trans b4,b5,fun z hz=>?_,fun z hz hj=>?_⟩
   .have h1:=a6 z hz
    by_cases au:z < s1.H.length
    .exact b4.N au h1
    .refine ⟨fun ho=>?_,by rw [b4.dj];exact h1.2⟩
     have:=b5.AO ho
     rw [b2] at this;omega
   .rw [b6];exact a7 z hz hj
  .simp at h
theorem CB.to {s s':S} {ai b:Nat} {v:TV} {j:List Nat} (hb:s'.μ b=s.μ b) (hH:s'.H=s.H) (hN:∀ z,s.N z->s'.N z) (hl:∀ z∈j,s'.aF z) (h:CB s ai b v j):CB s' ai b v j:=by
 obtain ⟨⟨m,k,h1,h2,h3,h4,h5,h6⟩,h7⟩:=h
 exact ⟨⟨m,k,by rw [hb];exact h1,h2,by rw [hH];exact h3,h4,h5,dz.frame (fun z hz au=>⟨hN z hz,by rw [hH]⟩) _ h6 (fun z _=>by rw [hH])⟩,hl⟩
def vE (s:S) (ai:Nat):List (Nat×TV)->List (List Nat)->Prop
 | [],[]=>True
 | (b,v)::r,j::js=>(b < s.L.bl.length/\CB s ai b v j)/\vE s ai r js
 | _,_=>False
theorem vE.to {s s':S} {ai:Nat} (hk:aj s s') (hH:s'.H=s.H) (hN:∀ z,s.N z->s'.N z):∀ {l:List (Nat×TV)} {js:List (List Nat)},(∀ z∈js.flatten,s'.aF z)->vE s ai l js->vE s' ai l js
 | [],[],_,_=>trivial
 | (b,v)::r,j::js,hl,h=>⟨⟨Zm h.1.1 hk.nb,h.1.2.to (hk.mu b h.1.1) hH hN (fun z hz=>hl z (by simp [hz]))⟩,vE.to hk hH hN (fun z hz=>hl z (by rw [Ze,Zh];exact .inr hz)) h.2⟩
theorem Xc:∀ {l:List (Nat×TV)} {js:List (List Nat)} {s:S} {L':LS},aD s->vE s s.ai l js->(∀ z∈js.flatten,s.aF z)->js.flatten.Nodup->Im l s.L=some L' ->
  ∃ s',s'.L=L'/\s'.H=s.H/\aj s s'/\aD s'/\(∀ z,s.N z->s'.N z)/\(∀ z,s.aF z->z∉js.flatten->s'.aF z)
 | [],js,s,L',hs,hd,hl,hn,h=>by
  simp [Im] at h;subst h
  exact ⟨s,rfl,rfl,aj.refl s,hs,fun _ h=>h,fun _ h _=>h⟩
 | (b,v)::l,j::js,s,L',hs,hd,hl,hn,h=>by
  obtain ⟨⟨hb,hc⟩,oE⟩:=hd
  rw [Ze,Zn] at hn
  obtain ⟨n1,n2,n3⟩:=hn
  simp only [Im] at h
  replace h:=ob h;obtain ⟨L1,h1,h⟩:=h
  obtain ⟨s1,a1,a2,a3,a4,a5,a6⟩:=Qik hs hc n1 h1
  rw [<- a1] at h
  have fP:∀ z∈js.flatten,s1.aF z:=fun z hz=>a6 z (hl z (by rw [Ze,Zh];exact .inr hz)) (fun hm=>n3 z hm z hz rfl)
  obtain ⟨s2,b1,b2,b3,b4,b5,b6⟩:=Xc a4 (by rw [a3.ai];exact vE.to a3 a2 a5 fP oE) fP n2 h
  exact ⟨s2,b1,b2.trans a2,a3.trans b3,b4,fun z hz=>b5 z (a5 z hz),fun z hz hm=>by
   rw [Ze,Zh,not_or] at hm
   exact b6 z (a6 z hz hm.1) hm.2⟩
 | _::_,[],_,_,_,hd,_,_,_=>hd.elim
def oV:List (PM×Ty)->List (List Nat)->List Nat
 | (.io,_)::ps,ids::r=>ids++oV ps r
 | (.ps,_)::ps,ids::r=>ids.take 1++oV ps r
 | (.ro,_)::ps,r=>oV ps r
 | (.cl _,_)::ps,r=>oV ps r
 | (.mv,_)::ps,r=>oV ps r
 | _,_=>[]
def nx:List (PM×Ty)->List (List Nat)->List (List Nat)
 | (.io,_)::ps,_::r=>nx ps r
 | (.ps,_)::ps,ids::r=>ids.drop 1::nx ps r
 | (.ro,_)::ps,r=>nx ps r
 | (.cl _,_)::ps,r=>nx ps r
 | (.mv,_)::ps,r=>nx ps r
 | _,_=>[]
theorem J8 {N:Nat->Prop} {H:af} {ai:Nat}:∀ {ps:List (PM×Ty)} {vs:List TV} {ws:List Value} {aO:List (List Nat)},cV N H ai (sY ps) vs ws aO ->
  (∀ z,z∈aO.flatten↔z∈oV ps aO\/z∈(nx ps aO).flatten)/\(aO.flatten.Nodup->(nx ps aO).flatten.Nodup/\∀ z∈oV ps aO,z∉(nx ps aO).flatten)
 | [],[],[],[],_=>by simp [oV,nx]
 | (m,t)::ps,vs,ws,aO,h=>by
  cases m with
  | ro=>exact J8 (ps:=ps) h
  | cl g=>exact J8 (ps:=ps) h
  | mv=>exact J8 (ps:=ps) h
  | io =>
   match vs,ws,aO,h with
   | v::vs,w::ws,ids::aO,h =>
    obtain ⟨a1,a2⟩:=J8 (ps:=ps) h.2
    simp only [oV,nx,Ze]
    refine ⟨fun z=>?_,fun hn=>?_⟩
    .rw [Zh,Zh,a1,or_assoc]
    .rw [Zn] at hn
     obtain ⟨b1,b2⟩:=a2 hn.2.1
     refine ⟨b1,fun z hz jk=>?_⟩
     rcases List.mem_append.1 hz with hz | hz
     .exact hn.2.2 z hz z ((a1 z).2 (.inr jk)) rfl
     .exact b2 z hz jk
  | ps =>
   match vs,ws,aO,h with
   | v::vs,w::ws,ids::aO,h =>
    obtain ⟨a1,a2⟩:=J8 (ps:=ps) h.2
    obtain ⟨z0,k,j,rfl,_⟩:=h.1
    simp only [oV,nx,Ze,List.take_succ_cons,List.take_zero,List.drop_succ_cons,List.drop_zero]
    refine ⟨fun z=>?_,fun hn=>?_⟩
    .simp only [Zh,List.mem_cons,List.not_mem_nil,or_false]
     rw [a1 z];constructor
     .rintro ((h | h) | (h | h))<;>simp [h]
     .rintro ((h | h) | (h | h))<;>simp [h]
    .rw [Zn] at hn
     obtain ⟨n1,n2,n3⟩:=hn
     obtain ⟨n4,n5⟩:=List.nodup_cons.1 n1
     obtain ⟨b1,b2⟩:=a2 n2
     refine ⟨?_,fun z hz jk=>?_⟩
     .rw [Zn]
      exact ⟨n5,b1,fun p hp q hq e=>by subst e;exact n3 p (by simp [hp]) p ((a1 p).2 (.inr hq)) rfl⟩
     .rcases List.mem_append.1 hz with hz | hz
      .simp at hz;subst hz
       rcases List.mem_append.1 jk with jk | jk
       .exact n4 jk
       .exact n3 z (by simp) z ((a1 z).2 (.inr jk)) rfl
      .rcases List.mem_append.1 jk with jk | jk
       .exact n3 z (by simp [jk]) z ((a1 z).2 (.inl hz)) rfl
       .exact b2 z hz jk
end Go.Pv
