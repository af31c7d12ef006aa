/-
  Parts of slices, slices put together, built-in functions. And what stood behind it in 2 texts.
  Conditions: said at the theorems.
-/
import Derived.Test.YtcoimfbmgjhcjabGreatDoorVOp3
set_option linter.all false
namespace Go.Pv
open Go.Ev
theorem Qw.one {α β:Type} {R:α->β->Prop} {a:α} {l:List β} (h:Qw R [a] l):∃ v,l=[v]/\R a v:=by
 match l,h with
 | [v],h=>exact ⟨v,rfl,h.1⟩
theorem Qw.two {α β:Type} {R:α->β->Prop} {a b:α} {l:List β} (h:Qw R [a,b] l):∃ v w,l=[v,w]/\R a v/\R b w:=by
 match l,h with
 | [v,w],h=>exact ⟨v,w,rfl,h.1,h.2.1⟩
theorem sL {a b:Nat} (h:a<=b):Nat.ble a b=true:=Nat.ble_eq_true_of_le h
theorem iE {a b:Nat} (h:Nat.ble a b=true):a<=b:=Zi h
theorem ax.part {N:Nat->Prop} {H:af} {t:Ty} {x:List t.T} {v:Value} (r:ax N H (.sl t) x [v]) {a:Option Addr} {n c:Nat} (hv:v=.slice a n c) {l h:Nat} (h1:l<=h) (h2:h<=n) {size:Nat} (bf:t.size=size) :
  ∃ a' c',iP a n c l h size=some (.slice a' (h - l) c')/\ax N H (.sl t) ((x.take h).drop l) [.slice a' (h - l) c']:=by
 subst bf
 unfold ax at r
 rcases r with ⟨rfl,e1⟩ | ⟨rfl,z,oo,e1⟩ | ⟨z,oo,k,e1,hn,hk,hle,hi⟩
 .simp at e1;rw [e1] at hv;injection hv with a1 a2 a3;subst a1 a2 a3
  obtain rfl:h=0:=by omega
  obtain rfl:l=0:=by omega
  exact ⟨none,0,by simp [iP,aa],by unfold ax;exact .inl ⟨by simp,rfl⟩⟩
 .simp at e1;rw [e1] at hv;injection hv with a1 a2 a3;subst a1 a2 a3
  obtain rfl:h=0:=by omega
  obtain rfl:l=0:=by omega
  refine ⟨some ⟨z,oo+0*t.size,none⟩,t.size,?_,?_⟩
  .unfold iP;simp only [sL (Zd 0),Nat.beq_refl,Bool.and_self,aa]
  .unfold ax;exact .inr (.inl ⟨by simp,_,_,rfl⟩)
 .simp at e1;rw [e1] at hv;injection hv with a1 a2 a3;subst a1 a2 a3
  refine ⟨some ⟨z,oo+l*t.size,none⟩,t.size,?_,?_⟩
  .unfold iP;simp only [sL h1,sL h2,Nat.beq_refl,Bool.and_self,aa]
  .have hlen:((x.take h).drop l).length=h - l:=by simp;omega
   unfold ax
   refine .inr (.inr ⟨z,oo+l*t.size,k,by rw [hlen],hn,hk,?_,fun i eW=>?_⟩)
   .have:=Zk t.size (show l+((x.take h).drop l).length<=x.length by rw [hlen];omega)
    rw [Nat.add_mul] at this;omega
   .have:=hi (l+i) (by rw [hlen] at eW;omega)
    rw [Nat.add_mul,<- Nat.add_assoc] at this
    simpa using this
theorem iF.part {K:Nat->Prop} {H:af} {ai:Nat} {t:Ty} {x:List t.T} {v:Value} (r:iF K H ai t x v) {l h:Nat} (h1:l<=h) (h2:h<=x.length) {v':Value}
  (hv:(v=.slice none 0 0/\v'=.slice none 0 0)\/∃ z oo,v=.slice (some ⟨z,oo,none⟩) x.length t.size/\v'=.slice (some ⟨z,oo+l*t.size,none⟩) (h - l) t.size):iF K H ai t ((x.take h).drop l) v':=by
 rcases r with ⟨rfl,rfl⟩ | ⟨z,o,k,rfl,g1,g2,g3,g4,g5,g6⟩
 .rcases hv with ⟨_,rfl⟩ | ⟨z,oo,e,_⟩
  .exact .inl ⟨by simp,rfl⟩
  .simp at e
 .rcases hv with ⟨e,_⟩ | ⟨z',oo,e,rfl⟩
  .simp at e
  .injection e with e _ _;injection e with e;injection e with e1 e2 _;subst e1 e2
   have hlen:((x.take h).drop l).length=h - l:=by simp;omega
   have hm:=Zk t.size (show l+((x.take h).drop l).length<=x.length by rw [hlen];omega)
   rw [Nat.add_mul] at hm
   refine .inr ⟨z,o+l*t.size,k,by rw [hlen],g1,g2,g3,g4,g5.sub hm,fun i hi=>?_⟩
   have:=g6 (l+i) (by rw [hlen] at hi;omega)
   rw [Nat.add_mul,<- Nat.add_assoc] at this
   simpa using this
section
variable {A:cL} {β γ:Type} {s:S} {env:bA} {e:Env} {X:nj A β} {XE:Cx} {o:Oper} {KV:PV->LS->Option β} {KE:Value->af->Option γ} {r:β} {Q:γ->Prop}
theorem QJ {δ ε:Type} (he:cG s env e) {x:Option Operand} {d:Nat} {K:Option Nat->Option δ} {K':Nat->Option ε} {q:δ} {Q':ε->Prop} (h:AW env x K=some q) (hk:∀ n,K n=some q->∃ y,K' (n.getD d)=some y/\Q' y):∃ y,mL e x d K'=some y/\Q' y:=by
 unfold AW at h;unfold mL
 split at h
 .exact hk none h
 .replace h:=ob h;obtain ⟨p,h1,h⟩:=h
  obtain ⟨v,e1,r1⟩:=fK he h1
  simp only [e1,Q1]
  exact Xo r1 h (fun n h=>hk (some n) h)
theorem Qj {δ:Type} {b:Bool} {x:Option δ} {q:δ} (h:aa b x none=some q):b=true/\x=some q:=by
 unfold aa at h;split at h
 .exact ⟨rfl,h⟩
 .simp at h
theorem Qqw (hs:aD s) {p:PV} {v:Value} (hr:ER s p v) {lo hi:Option Nat} (hK:eE s r KV KE Q) (h:(J4 s.L p lo hi fun u=>KV u s.L)=some r) {size:Nat} (bf:∀ n,dn.QK s.L p=some n->n=size) :
  ∃ a n c,v=.slice a n c/\∃ y,(Q1 (iP a n c (lo.getD 0) (hi.getD n) size) fun u=>gH u fun a n c=>KE (.slice a n c) s.H)=some y/\Q y:=by
 unfold J4 at h
 split at h
 .obtain rfl:v=_:=hr
  refine ⟨none,0,0,rfl,?_⟩
  have key:∀ l h',l<=h'->h'<=0->KV .nil s.L=some r->∃ y,(Q1 (iP none 0 0 l h' size) fun u=>gH u fun a n c=>KE (.slice a n c) s.H)=some y/\Q y:=by
   intro l h' h1 h2 h
   obtain rfl:h'=0:=by omega
   obtain rfl:l=0:=by omega
   have:iP none 0 0 0 0 size=some (.slice none 0 0):=by simp [iP,aa]
   rw [this];exact hK.here hs (p:=.nil) rfl h
  split at h
  .exact key 0 0 (Zd _) (Zd _) h
  .obtain ⟨a1,a2⟩:=Qj h;exact key _ 0 (iE a1) (Zd _) a2
  .obtain ⟨a1,a2⟩:=Qj h;exact key 0 _ (Nat.zero_le _) (iE a1) a2
  .obtain ⟨a1,a2⟩:=Qj h;simp only [Z8] at a1;exact key _ _ (iE a1.1) (iE a1.2) a2
 .rename_i st t x
  have hr:ax (s.NN st) s.H (.sl t) x [v]:=hr
  obtain ⟨a,c,rfl⟩:∃ a c,v=.slice a x.length c:=by
   have dI:=hr
   unfold ax at dI
   rcases dI with ⟨rfl,e1⟩ | ⟨rfl,_,_,e1⟩ | ⟨_,_,_,e1,_⟩<;>(simp at e1;subst e1;exact ⟨_,_,rfl⟩)
  refine ⟨a,x.length,c,rfl,?_⟩
  have AX:t.size=size:=bf _ rfl
  have key:∀ l h',l<=h'->h'<=x.length->KV (.ro st t ((x.take h').drop l)) s.L=some r->∃ y,(Q1 (iP a x.length c l h' size) fun u=>gH u fun a n c=>KE (.slice a n c) s.H)=some y/\Q y:=by
   intro l h' h1 h2 h
   obtain ⟨a',c',g1,g2⟩:=ax.part hr rfl h1 h2 AX
   rw [g1];exact hK.here hs (p:=.ro st t _) g2 h
  split at h
  .exact key 0 x.length (Nat.zero_le _) (Zd _) (by simpa using h)
  .obtain ⟨a1,a2⟩:=Qj h;exact key _ _ (iE a1) (Zd _) (by simpa using a2)
  .obtain ⟨a1,a2⟩:=Qj h;exact key 0 _ (Nat.zero_le _) (iE a1) (by simpa using a2)
  .obtain ⟨a1,a2⟩:=Qj h;simp only [Z8] at a1;exact key _ _ (iE a1.1) (iE a1.2) a2
 .rename_i b i aB t x
  obtain ⟨bE,Aj,hval⟩:cm s (.rw b i aB t x) v:=hr
  have AX:t.size=size:=bf _ rfl
  subst AX
  rcases Aj with ⟨e0,rfl⟩ | ⟨z,oo,rfl⟩
  .have hx:x=[]:=Z1 e0
   subst hx
   refine ⟨none,0,0,rfl,?_⟩
   have key:∀ l h',l<=h'->h'<=0->KV (.rw b i aB t (([]:List t.T).take h' |>.drop l)) s.L=some r->∃ y,(Q1 (iP none 0 0 l h' t.size) fun u=>gH u fun a n c=>KE (.slice a n c) s.H)=some y/\Q y:=by
    intro l h' h1 h2 h
    obtain rfl:h'=0:=by omega
    obtain rfl:l=0:=by omega
    have:iP none 0 0 0 0 t.size=some (.slice none 0 0):=by simp [iP,aa]
    rw [this]
    refine hK.here hs (p:=.rw b i aB t _) (ER.fh (p:=.rw b i aB t _) ⟨bE,.inl ⟨by simp,rfl⟩,fun B hB=>⟨(hval B hB).1,fun e=>⟨((hval B hB).2 e).1,.inl ⟨by simp,rfl⟩,by simpa using ((hval B hB).2 e).2.2⟩⟩⟩) h
   split at h
   .exact key 0 0 (Zd _) (Zd _) h
   .obtain ⟨a1,a2⟩:=Qj h;exact key _ 0 (iE a1) (Zd _) (by simpa using a2)
   .obtain ⟨a1,a2⟩:=Qj h;exact key 0 _ (Nat.zero_le _) (iE a1) (by simpa using a2)
   .obtain ⟨a1,a2⟩:=Qj h;simp only [Z8] at a1;exact key _ _ (iE a1.1) (iE a1.2) a2
  .refine ⟨_,x.length,t.size,rfl,?_⟩
   have key:∀ l h',l<=h'->h'<=x.length->KV (.rw b i aB t ((x.take h').drop l)) s.L=some r->∃ y,(Q1 (iP (some ⟨z,oo,none⟩) x.length t.size l h' t.size) fun u=>gH u fun a n c=>KE (.slice a n c) s.H)=some y/\Q y:=by
    intro l h' h1 h2 h
    have hv:iP (some ⟨z,oo,none⟩) x.length t.size l h' t.size=some (.slice (some ⟨z,oo+l*t.size,none⟩) (h' - l) t.size):=by
     unfold iP;simp only [sL h1,sL h2,Nat.beq_refl,Bool.and_self,aa]
    rw [hv]
    have hlen:((x.take h').drop l).length=h' - l:=by simp;omega
    refine hK.here hs (p:=.rw b i aB t _) (ER.fh (p:=.rw b i aB t _) ⟨bE,.inr ⟨z,oo+l*t.size,by rw [hlen]⟩,fun B hB=>⟨(hval B hB).1,fun e=>⟨((hval B hB).2 e).1,((hval B hB).2 e).2.1.part h1 h2 (.inr ⟨z,oo,rfl,rfl⟩),fun B2 e2 Xp vF m2 k2 g1 g2 g3 g4 y gy=>(by
     obtain ⟨w1,w2⟩:=((hval B hB).2 e).2.2 B2 e2 Xp vF m2 k2 g1 g2 g3 g4 y gy
     refine ⟨by rw [hlen];omega,fun e3=>?_⟩
     rw [hlen] at e3
     obtain rfl:l=0:=by omega
     have:h'=x.length:=by omega
     subst this
     rw [w2 (by omega),Nat.zero_mul,Nat.add_zero,Nat.sub_zero])⟩⟩⟩) h
   split at h
   .exact key 0 x.length (Nat.zero_le _) (Zd _) (by simpa using h)
   .obtain ⟨a1,a2⟩:=Qj h;exact key _ _ (iE a1) (Zd _) (by simpa using a2)
   .obtain ⟨a1,a2⟩:=Qj h;exact key 0 _ (Nat.zero_le _) (iE a1) (by simpa using a2)
   .obtain ⟨a1,a2⟩:=Qj h;simp only [Z8] at a1;exact key _ _ (iE a1.1) (iE a1.2) a2
 .rename_i b off n
  split at h
  rotate_left
  .simp at h
  rename_i aB rw u xs hb
  replace h:=ob h;obtain ⟨m,h1,h⟩:=h
  have hr:cm s (.a_ b off n) v:=hr
  have gu:=hr
  obtain ⟨a,c,rfl⟩:=Xq hs (ER.fh hr) h1
  refine ⟨a,m,c,rfl,?_⟩
  obtain ⟨bE,hr⟩:=hr
  cases hm:s.μ b with
  | none =>
   rw [hm] at hr;obtain ⟨rfl,h5,e5⟩:=hr
   injection e5 with e5 e6 e7;subst e5 e6 e7
   have key:∀ l h' q,l<=h'->h'<=0->(q=PV.a_ b (0+l) none\/∃ w,q=.a_ b (0+l) (some w)/\w=0)->KV q s.L=some r->∃ y,(Q1 (iP none 0 0 l h' size) fun u=>gH u fun a n c=>KE (.slice a n c) s.H)=some y/\Q y:=by
    intro l h' q h1 h2 hq h
    obtain rfl:h'=0:=by omega
    obtain rfl:l=0:=by omega
    have:iP none 0 0 0 0 size=some (.slice none 0 0):=by simp [iP,aa]
    rw [this]
    refine hK.here hs (p:=q) ?_ h
    rcases hq with rfl | ⟨w,rfl,rfl⟩
    .exact ⟨bE,by rw [hm];simp⟩
    .exact ⟨bE,by rw [hm];simp⟩
   split at h
   .refine key 0 0 (.a_ b 0 n) (Zd _) (Zd _) ?_ h
    cases n with
    | none=>left;rfl
    | some w=>right;exact ⟨w,rfl,by simpa using h5⟩
   .obtain ⟨a1,a2⟩:=Qj h
    refine key _ 0 _ (iE a1) (Zd _) ?_ a2
    cases n with
    | none=>left;rfl
    | some w=>right;exact ⟨_,rfl,by simp at h5;omega⟩
   .obtain ⟨a1,a2⟩:=Qj h
    exact key 0 _ _ (Nat.zero_le _) (iE a1) (.inr ⟨_,rfl,by have:=iE a1;omega⟩) a2
   .obtain ⟨a1,a2⟩:=Qj h;simp only [Z8] at a1
    exact key _ _ _ (iE a1.1) (iE a1.2) (.inr ⟨_,rfl,by have:=iE a1.2;omega⟩) a2
  | some mb =>
   rw [hm] at hr;obtain ⟨g1,e5⟩:=hr
   injection e5 with e5 e6 e7;subst e5 e6 e7
   have od:mb.es=size:=by
    obtain ⟨a1,_⟩:=mO hs hb hm
    rw [a1];exact bf _ (by simp only [dn.QK,hb])
   have key:∀ l h' q,l<=h'->h'<=n.getD (mb.n - off)->(q=PV.a_ b (off+l) (some (h' - l))\/(q=.a_ b (off+l) none/\n=none/\h'=mb.n - off))->KV q s.L=some r->∃ y,(Q1 (iP (some ⟨mb.z,mb.sh+off*mb.es,none⟩) (n.getD (mb.n - off)) mb.es l h' size) fun u=>gH u fun a n c=>KE (.slice a n c) s.H)=some y/\Q y:=by
    intro l h' q h1 h2 hq h
    have:iP (some ⟨mb.z,mb.sh+off*mb.es,none⟩) (n.getD (mb.n - off)) mb.es l h' size=some (.slice (some ⟨mb.z,mb.sh+off*mb.es+l*size,none⟩) (h' - l) mb.es):=by
     unfold iP;rw [od];simp only [sL h1,sL h2,Nat.beq_refl,Bool.and_self,aa]
    rw [this]
    refine hK.here hs (p:=q) ?_ h
    rcases hq with rfl | ⟨rfl,rfl,rfl⟩
    .refine ⟨bE,?_⟩
     rw [hm]
     refine ⟨by simp;omega,?_⟩
     rw [Nat.add_mul,<- od,Nat.add_assoc];rfl
    .refine ⟨bE,?_⟩
     rw [hm]
     refine ⟨by simp at g1 ⊢;omega,?_⟩
     rw [Nat.add_mul,<- od,Nat.add_assoc]
     simp;omega
   split at h
   .refine key 0 (n.getD (mb.n - off)) (.a_ b off n) (Nat.zero_le _) (Zd _) ?_ h
    cases n with
    | none=>right;exact ⟨rfl,rfl,rfl⟩
    | some w=>left;rfl
   .obtain ⟨a1,a2⟩:=Qj h
    refine key _ (n.getD (mb.n - off)) _ (iE a1) (Zd _) ?_ a2
    cases n with
    | none=>right;exact ⟨rfl,rfl,rfl⟩
    | some w=>left;rfl
   .obtain ⟨a1,a2⟩:=Qj h
    exact key 0 _ _ (Nat.zero_le _) (iE a1) (.inl rfl) a2
   .obtain ⟨a1,a2⟩:=Qj h;simp only [Z8] at a1
    exact key _ _ _ (iE a1.1) (iE a1.2) (.inl rfl) a2
 .simp at h
theorem Qqx {t:TypeId} {x:Operand} {lo hi:Option Operand} (hP:X.P=XE.P) (ho:o.op=.slice t x lo hi none) (hs:aD s) (he:cG s env e) (hK:eE s r KV KE Q) (h:dn X o env s.L KV=some r):∃ y,dx XE o e s.H KE=some y/\Q y:=by
 simp only [dn,ho] at h;simp only [dx,ho]
 replace h:=ob h;obtain ⟨p,h1,h⟩:=h
 obtain ⟨v,vL,r1⟩:=fK he h1
 rw [vL];simp only [Q1]
 rw [<- hP]
 split at h
 .rename_i sx
  obtain rfl:v=.string sx:=r1
  simp only
  split at h
  .rename_i hu
   simp only [hu]
   refine QJ he h (fun hh h=>QJ he h (fun ll h=>?_))
   obtain ⟨a1,a2⟩:=Qj h
   rw [a1];simp only [aa]
   exact hK.here hs (p:=.str _) rfl a2
  .simp at h
 .rename_i JU
  split at h
  .rename_i el hu
   replace h:=ob h;obtain ⟨i,h2,h⟩:=h
   have key:(∀ n,dn.QK s.L p=some n->n=i.size)->(AW env hi fun h=>AW env lo fun l=>J4 s.L p l h fun u=>KV u s.L)=some r ->
     ∃ y,(match v with
      | .slice a n c=>match X.P.underlying t with
       | some (.slice e_1)=>Q1 (X.P.info? e_1) fun i=>mL e hi n fun h=>mL e lo 0 fun l=>Q1 (iP a n c l h i.size) fun u=>gH u fun a n c=>KE (.slice a n c) s.H
       | _=>none
      | .string Xr=>match X.P.underlying t with
       | some .string=>mL e hi Xr.size fun h=>mL e lo 0 fun l=>aa (Nat.ble l h&&Nat.ble h Xr.size) (KE (.string (Xr.extract l h)) s.H) none
       | _=>none
      | _=>none)=some y/\Q y:=by
    intro bf h
    obtain ⟨a,n,c,rfl⟩:∃ a n c,v=.slice a n c:=by
     have:∃ lo hi,(J4 s.L p lo hi fun u=>KV u s.L)=some r:=by
      unfold AW at h
      split at h
      .split at h
       .exact ⟨_,_,h⟩
       .replace h:=ob h;obtain ⟨q,_,h⟩:=h
        unfold Iw at h;split at h
        .obtain ⟨_,h⟩:=Qj h;exact ⟨_,_,h⟩
        .simp at h
      .replace h:=ob h;obtain ⟨q,_,h⟩:=h
       unfold Iw at h;split at h
       .obtain ⟨_,h⟩:=Qj h
        split at h
        .exact ⟨_,_,h⟩
        .replace h:=ob h;obtain ⟨q,_,h⟩:=h
         split at h
         .obtain ⟨_,h⟩:=Qj h;exact ⟨_,_,h⟩
         .simp at h
       .simp at h
     obtain ⟨lo',eW,h'⟩:=this
     obtain ⟨a,n,c,e1,_⟩:=Qqw hs r1 hK h' bf
     exact ⟨a,n,c,e1⟩
    simp only [hu,h2,Q1]
    refine QJ he h (fun hh h=>QJ he h (fun ll h=>?_))
    obtain ⟨a',n',c',e1,hy⟩:=Qqw hs r1 hK h bf
    injection e1 with e1 e2 e3;subst e1 e2 e3
    exact hy
   split at h
   .rename_i n hn
    split at h
    .rename_i hb
     exact key (fun n' h'=>by rw [hn] at h';injection h' with h';rw [<- h'];exact Z7 hb) h
    .simp at h
   .rename_i hn
    exact key (fun n' h'=>by rw [hn] at h';simp at h') h
  .simp at h
theorem Qii {u:Ty}:∀ {ps:List (Nat×PV)} {qs:List (Nat×Value)} {s:S} {xs ys:List u.T} {B:Array Value} {L':LS},aD s->Qw (J5 s) ps qs->RL s.N s.H u xs B.toList->E4 u xs ps s.L=some (ys,L') ->
  ∃ s' C,s'.L=L'/\s'.H=s.H/\aj s s'/\aD s'/\Instr.fill (fun i=>some (i*u.size,u.size)) B qs=some C/\RL s'.N s'.H u ys C.toList
 | [],[],s,xs,ys,B,L',hs,_,hr,h=>by
  simp [E4] at h;obtain ⟨rfl,rfl⟩:=h
  exact ⟨s,B,rfl,rfl,aj.refl s,hs,rfl,hr⟩
 | (i,p)::ps,(j,v)::qs,s,xs,ys,B,L',hs,⟨⟨e1,hv⟩,hp⟩,hr,h=>by
  simp only at e1 hv;subst e1
  simp only [E4] at h
  split at h
  .rename_i dm
   replace h:=ob h;obtain ⟨⟨x,L1⟩,h1,h⟩:=h
   replace h:=ob h;obtain ⟨zs,h2,h⟩:=h
   have hc:=hv.cells dm
   obtain ⟨s1,l1,g1,u1,k1,t1,nq,o1,_⟩:=Df u hs hc h1
   unfold Nw at h2
   split at h2
   .rename_i au
    have au:=BQ au
    simp at h2;subst h2
    have hlx:=ax.len _ nq
    have hm:=jT (k:=u.size) au
    have rO:B.size=xs.length*u.size:=by have:=hr.1;simpa using this
    have RV:v.cells.size=u.size:=by simpa using hlx
    have oA:(Array.foldl (fun cs (x:Value×Nat)=>cs.setIfInBounds (i*u.size+x.2) x.1) B v.cells.zipIdx).toList=lay B.toList (i*u.size) v.cells.toList:=by
     have:=QL (i*u.size) v.cells.toList 0 B (by simp;omega)
     rw [Nat.add_zero] at this
     rw [<- Array.foldl_toList];simpa using this
    have dY:RL s1.N s1.H u (xs.set i x) (Array.foldl (fun cs (x:Value×Nat)=>cs.setIfInBounds (i*u.size+x.2) x.1) B v.cells.zipIdx).toList:=by
     rw [oA]
     exact (hr.frame (fun z hz hl=>⟨k1.N hl hz,k1.fr z hl hz.1⟩)).set au nq
    simp only at h
    rw [<- l1] at h
    have Xs:Qw (J5 s1) ps qs:=Qw.mono (fun a b ld=>⟨ld.1,k1.ER ld.2⟩) hp
    obtain ⟨s2,C,l2,g2,k2,t2,f2,Xt⟩:=Qii t1 Xs dY h
    refine ⟨s2,C,l2,g2.trans g1,k1.trans k2,t2,?_,Xt⟩
    simp only [Instr.fill]
    have dc:¬ ((decide (v.cells.size≠u.size) || decide (i*u.size+v.cells.size > B.size))=true):=by
     simp only [Bool.or_eq_true,Zj];omega
    simp only [dc,if_false,Bool.false_eq_true]
    exact f2
   .simp at h2
  .simp at h
theorem Qdu {t:Ty} (hf:t.flat=true):∀ {ps:List (Nat×PV)} {qs:List (Nat×Value)} {s:S} {xs ys:List (List t.T)} {B:Array Value} {L':LS} {Kf:Nat->Option Nat},aD s->Qw (J5 s) ps qs->(∀ z i,Kf z=some i->s.aF z/\∃ k,ah s.H z=some k)->B.size=xs.length ->
  (∀ i (hi:i < xs.length),∃ v,B.toList[i]? = some v/\iF (fun z=>Kf z=some i) s.H s.ai t xs[i] v)->(∀ v∈B.toList,Qa v v=true/\az v=true)->Nx t xs ps s.L=some (ys,L') ->
  ∃ (s':S) (C:Array Value) (Kf':Nat->Option Nat),s'.L=L'/\s'.H=s.H/\aj s s'/\aD s'/\Instr.fill (fun i=>some (i*1,1)) B qs=some C/\(∀ z i,Kf' z=some i->s'.aF z/\∃ k,ah s'.H z=some k)/\C.size=xs.length/\ys.length=xs.length /\
   (∀ i (hi:i < ys.length),∃ v,C.toList[i]? = some v/\iF (fun z=>Kf' z=some i) s.H s.ai t ys[i] v)/\(∀ v∈C.toList,Qa v v=true/\az v=true)
 | [],[],s,xs,ys,B,L',Kf,hs,_,hK,hB,hr,hp,h=>by
  simp [Nx] at h;obtain ⟨rfl,rfl⟩:=h
  exact ⟨s,B,Kf,rfl,rfl,aj.refl s,hs,rfl,hK,hB,rfl,hr,hp⟩
 | (i,p)::ps,(j,v)::qs,s,xs,ys,B,L',Kf,hs,⟨⟨e1,hv⟩,hpp⟩,hK,hB,hr,hp,h=>by
  simp only at e1 hv;subst e1
  simp only [Nx] at h
  replace h:=ob h;obtain ⟨⟨x,L1⟩,h1,h⟩:=h
  replace h:=ob h;obtain ⟨zs,h2,h⟩:=h
  have dR:cm s p v:=by
   have k_:=h1
   unfold rA at k_
   split at k_
   .exact hv
   .exact hv
   .exact hv
   .simp at k_
  obtain ⟨s1,l1,g1,u1,k1,t1,q2,vM,_,al1⟩:=Xu hs hf dR h1
  unfold Nw at h2
  split at h2
  .rename_i au
   have au:=BQ au
   simp at h2;subst h2
   have bL:v.cells.toList=[v]/\Qa v v=true/\az v=true:=by
    rcases q2 with ⟨_,rfl⟩ | ⟨_,_,_,rfl,_⟩<;>exact ⟨rfl,by simp [Qa],rfl⟩
   have RV:v.cells.size=1:=by have:=congrArg List.length bL.1;simpa using this
   have oA:(Array.foldl (fun cs (x:Value×Nat)=>cs.setIfInBounds (i*1+x.2) x.1) B v.cells.zipIdx).toList=lay B.toList i [v]:=by
    have:=QL (i*1) v.cells.toList 0 B (by simp;omega)
    rw [Nat.add_zero,bL.1,Nat.mul_one] at this
    rw [<- Array.foldl_toList]
    have hz:v.cells.zipIdx.toList=[v].zipIdx 0:=by rw [Array.toList_zipIdx,bL.1]
    rw [hz,Nat.mul_one];exact this
   let Ix:Nat->Option Nat:=fun z=>@ite _ (s1.aF z/\¬ s.aF z) (Classical.propDecidable _) (some i) (Kf z)
   have Xv:∀ z,(s1.aF z/\¬ s.aF z)->Ix z=some i:=fun z hz=>if_pos hz
   have kf0:∀ z,¬ (s1.aF z/\¬ s.aF z)->Ix z=Kf z:=fun z hz=>if_neg hz
   have ir:(Array.foldl (fun cs (x:Value×Nat)=>cs.setIfInBounds (i*1+x.2) x.1) B v.cells.zipIdx).size=(xs.set i x).length:=by
    have:=congrArg List.length oA
    rw [Ny _ _ _ (by simp;omega)] at this
    simp only [Array.length_toList,List.length_set] at this ⊢;omega
   simp only at h
   rw [<- l1] at h
   have Xs:Qw (J5 s1) ps qs:=Qw.mono (fun a b ld=>⟨ld.1,k1.ER ld.2⟩) hpp
   obtain ⟨s2,C,Kf2,l2,g2,k2,t2,f2,kk2,hC,hy,Xt,Az⟩:=Qdu hf (Kf:=Ix) t1 Xs (fun z q hq=>by
    by_cases hz:s1.aF z/\¬ s.aF z
    .rw [g1];exact ⟨hz.1,al1 z hz.1 hz.2⟩
    .rw [kf0 z hz] at hq;rw [g1];exact ⟨vM z (hK z q hq).1,(hK z q hq).2⟩) ir (fun q hq=>by
     rw [oA,QM _ _ _ (by simp;omega)]
     simp only [List.length_set] at hq
     by_cases hqi:q=i
     .subst hqi
      refine ⟨v,if_pos rfl,?_⟩
      simp only [List.getElem_set_self]
      rw [k1.ai];exact q2.mono hf (fun z hz=>⟨Xv z hz,by rw [g1]⟩)
     .obtain ⟨w,w1,w2⟩:=hr q hq
      refine ⟨w,by rw [if_neg hqi];exact w1,?_⟩
      rw [List.getElem_set_ne (by omega),k1.ai]
      exact w2.mono hf (fun z hz=>⟨by rw [kf0 z (fun hc=>hc.2 (hK z q hz).1)];exact hz,by rw [g1]⟩)) (fun w hw=>by
     rw [oA] at hw
     rcases Qrd hw with hw | hw
     .exact hp w hw
     .simp at hw;subst hw;exact bL.2) h
   refine ⟨s2,C,Kf2,l2,g2.trans g1,k1.trans k2,t2,?_,kk2,by rw [hC];simp,by rw [hy];simp,fun q hq=>?_,Az⟩
   .simp only [Instr.fill]
    have dc:¬ ((decide (v.cells.size≠1) || decide (i*1+v.cells.size > B.size))=true):=by
     simp only [Bool.or_eq_true,Zj];omega
    simp only [dc,if_false,Bool.false_eq_true]
    exact f2
   .obtain ⟨w,w1,w2⟩:=Xt q hq
    exact ⟨w,w1,by rw [g1,k1.ai] at w2;exact w2⟩
  .simp at h2
theorem Qd4 {t:TypeId} {len:Nat} {parts:Array (Nat×Operand)} (hP:X.P=XE.P) (ho:o.op=.buildSlice t len parts) (hs:aD s) (he:cG s env e) (hK:eE s r KV KE Q) (h:dn X o env s.L KV=some r):∃ y,dx XE o e s.H KE=some y/\Q y:=by
 simp only [dn,ho] at h;simp only [dx,ho]
 replace h:=ob h;obtain ⟨ps,h1,h⟩:=h
 replace h:=ob h;obtain ⟨⟨el,size,bytes,z⟩,h2,h⟩:=h
 replace h:=ob h;obtain ⟨u,h3,h⟩:=h
 obtain ⟨qs,vL,r1⟩:=Xw he h1
 rw [vL,<- hP,h2];simp only [Q1]
 split at h
 .rename_i hle hz bf
  have bf:=Z7 bf
  split at h
  .rename_i aY t'
   split at h
   .rename_i cH
    replace h:=ob h;obtain ⟨⟨ys,L1⟩,h4,h⟩:=h
    rw [hle];simp only
    have DK:(1:Nat)=size:=bf
    subst DK
    have jV:=Qiw hz
    have fq:(List.replicate len z.cells.toList).flatten=List.replicate len (.slice none 0 0):=by
     rw [jV];clear h4
     induction len with
     | zero=>rfl
     | succ n ih=>rw [List.replicate_succ,Ze,List.replicate_succ];simp
    rw [fq]
    obtain ⟨s1,C,Kf,l1,g1,k1,t1,f1,kk,hC,hy,rr,iO⟩:=Qdu cH (Kf:=fun _=>none) hs r1 (fun z i e=>by simp at e) (B:=(List.replicate len (Value.slice none 0 0)).toArray) (by simp) (fun i hi=>by
     simp only [List.length_replicate] at hi
     exact ⟨.slice none 0 0,by simp [hi],.inl ⟨by simp,rfl⟩⟩) (fun v hv=>by
     simp at hv;rw [hv.2];exact ⟨by simp [Qa],rfl⟩) h4
    rw [f1];simp only
    have Dg:ys.length=len:=by rw [hy];simp
    have fE:C.size=len*1:=by rw [hC];simp
    have hall:C.toList.all az=true:=List.all_eq_true.2 (fun v hv=>(iO v hv).2)
    rw [hall,fE,Nat.beq_refl]
    simp only
    obtain ⟨s2,e1,e2,k2,t2,dR,_⟩:=t1.jB cH (ys:=ys) (vs:=C.toList) Kf kk (by simp only [Array.length_toList];omega) (fun i hi=>by
     obtain ⟨v,w1,w2⟩:=rr i hi
     exact ⟨v,w1,by rw [g1,k1.ai];exact w2⟩) (fun v hv=>(iO v hv).1)
    simp only at h
    have hh:dr s.H C.toList=s2.H:=by rw [e2,g1]
    have hH:s.H.length=s1.H.length:=by rw [g1]
    rw [hh,hH]
    rw [<- l1,<- e1] at h
    refine hK _ _ s2 (k1.trans k2) t2 (ER.fh ?_) h
    rw [Dg] at dR;exact dR
   .simp at h
  .rename_i u _ _ aU _
   replace h:=ob h;obtain ⟨⟨ys,L1⟩,h4,h⟩:=h
   rw [hle];simp only
   have gu:RL s.N s.H u (List.replicate len (s_ u)) ((List.replicate len z.cells.toList).flatten.toArray).toList:=by
    simpa using RL.rep len (Xx s hz)
   obtain ⟨s1,C,l1,g1,k1,t1,f1,rr⟩:=Qii hs r1 gu h4
   rw [bf] at f1
   rw [f1];simp only
   have Dg:ys.length=len:=by
    have:∀ {ps:List (Nat×PV)} {xs ys:List u.T} {L L':LS},E4 u xs ps L=some (ys,L')->ys.length=xs.length:=by
     intro ps
     induction ps with
     | nil=>intro xs ys L L' h;simp [E4] at h;rw [h.1]
     | cons p ps ih =>
      intro xs ys L L' h
      obtain ⟨i,pv⟩:=p
      simp only [E4] at h
      split at h
      .replace h:=ob h;obtain ⟨x,_,h⟩:=h
       replace h:=ob h;obtain ⟨zs,hz,h⟩:=h
       unfold Nw at hz;split at hz
       .simp at hz;subst hz;rw [ih h];simp
       .simp at hz
      .simp at h
    have:=this h4;simpa using this
   have fE:C.size=len*size:=by have:=rr.1;rw [Dg,bf] at this;simpa using this
   have hall:C.toList.all az=true:=by
    refine List.all_eq_true.2 (fun v hv=>?_)
    obtain ⟨i,hi,ei⟩:=List.getElem_of_mem hv
    have eO:=Ty.size_pos u
    have hq:i / u.size < ys.length:=by
     rw [Nat.div_lt_iff_lt_mul eO,<- rr.1];exact hi
    have:=ax.cell _ (rr.2 _ hq) v
    refine this ?_
    have AY:=Nat.mod_lt i eO
    have Nz:=Nat.div_add_mod i u.size
    refine List.mem_iff_getElem?.2 ⟨i % u.size,?_⟩
    rw [tc,if_pos AY,show i / u.size*u.size+i % u.size=i by rw [Nat.mul_comm];exact Nz,Z6 hi,ei]
   rw [hall,fE,Nat.beq_refl]
   simp only
   obtain ⟨s2,e1,e2,k2,t2,dR⟩:=E5 t1 rr
   simp only at h
   have hh:dr s.H C.toList=s2.H:=by rw [e2,g1]
   have hH:s.H.length=s1.H.length:=by rw [g1]
   rw [hh,hH]
   rw [<- l1,<- e1] at h
   refine hK _ _ s2 (k1.trans k2) t2 (ER.fh ?_) h
   rw [Dg,bf] at dR;exact dR
 .simp at h
theorem Xy (hs:aD s) {p:PV} {v:Value} (hr:ER s p v) {u:Ty} {bytes:Nat} {ys:List u.T} {news:List Value} (hn:RL s.N s.H u ys news) (hK:eE s r KV KE Q) (h:NA u bytes p ys s.L KV=some r) :
  ∃ y,B5 u.size bytes v news ys.length s.H KE=some y/\Q y:=by
 unfold NA at h
 unfold B5
 split at h
 .obtain rfl:v=_:=hr
  obtain ⟨bh,h⟩:=Qj h
  cases hl:ys.length with
  | zero =>
   have:ys=[]:=Z1 hl
   subst this
   simp only [rL,Q1,gH]
   obtain ⟨s',e1,e2,e3,hk,bZ,_⟩:=hs.og u
   rw [<- e1] at h;rw [<- e2]
   refine hK (.a_ s.L.bl.length 0 none) _ s' hk bZ (ER.fh (p:=.a_ s.L.bl.length 0 none) ⟨by rw [e1,Ql];omega,?_⟩) h
   rw [e3];simp
  | succ q =>
   rw [hl] at bh
   simp only [rL,bh,aa,Q1,gH]
   obtain ⟨s',e1,e2,hk,bZ,dI⟩:=E5 hs hn
   rw [<- e1] at h;rw [<- e2]
   rw [hl] at dI
   exact hK _ _ s' hk bZ (ER.fh dI) h
 .rename_i b off no
  split at h
  .rename_i aB w xs hb
   replace h:=ob h;obtain ⟨x,h1,h⟩:=h
   obtain ⟨bh,h⟩:=Qj h
   have e0:=Qq h1
   injection e0 with e0;subst e0
   have:=Qg h1;subst this
   have hr:cm s (.a_ b off no) v:=hr
   obtain ⟨bE,hr⟩:=hr
   cases hm:s.μ b with
   | none =>
    rw [hm] at hr;obtain ⟨rfl,_,rfl⟩:=hr
    have hx:=EX hs hb hm;subst hx
    have Dh:cut ([]:List w.T) 0 no=[]:=by cases no<;>simp [cut]
    rw [Dh] at h bh
    obtain ⟨s1,l1,g1,u1,k1,t1,_,_⟩:=hs.kill hb rfl false
    have rB:s1.H=s.H:=g1
    have gh:RL s1.N s1.H w ys news:=hn.frame (fun z hz hl=>⟨k1.N hl hz,k1.fr z hl hz.1⟩)
    simp only [Zb,Zo,List.nil_append] at h bh
    cases hl:ys.length with
    | zero =>
     have:ys=[]:=Z1 hl
     subst this
     simp only [rL,Q1,gH]
     obtain ⟨s',e1,e2,e3,hk,bZ,_⟩:=t1.og w
     have hlen:s1.L.bl.length=s.L.bl.length:=by rw [l1,E6]
     rw [<- l1,<- e1] at h;rw [<- rB,<- e2]
     refine hK (.a_ s.L.bl.length 0 none) _ s' (k1.trans hk) bZ (ER.fh (p:=.a_ s.L.bl.length 0 none) ⟨by rw [e1,Ql];omega,?_⟩) h
     rw [<- hlen,e3];simp
    | succ q =>
     rw [hl] at bh
     simp only [rL,bh,aa,Q1,gH]
     obtain ⟨s',e1,e2,hk,bZ,dI⟩:=E5 t1 gh
     have hlen:s1.L.bl.length=s.L.bl.length:=by rw [l1,E6]
     rw [<- l1,<- e1] at h;rw [<- rB,<- e2]
     rw [hl] at dI
     rw [hlen] at dI
     exact hK _ _ s' (k1.trans hk) bZ (ER.fh dI) h
   | some m =>
    rw [hm] at hr;obtain ⟨g0,rfl⟩:=hr
    obtain ⟨a1,a2,k,a3,a4,a5,a6,a7⟩:=mO hs hb hm
    obtain ⟨s1,l1,g1,u1,k1,t1,_,_⟩:=hs.kill hb rfl true
    have rB:s1.H=s.H.set m.z none:=by rw [g1,hm]
    have gh:RL s1.N s1.H w ys news:=hn.frame (fun z hz hl=>⟨k1.N hl hz,k1.fr z hl hz.1⟩)
    have ME:off<=xs.length:=by omega
    have hln:no.getD (m.n - off)=(cut xs off no).length:=by
     cases no with
     | none=>simp [cut];omega
     | some l=>simp [cut] at g0 ⊢;omega
    have hle:no.getD (m.n - off)<=(xs.drop off).length:=by simp;omega
    have h2:=RL.sub a4 a5 (show off+no.getD (m.n - off)<=xs.length by simp at hle;omega)
    have NB:(xs.drop off).take (no.getD (m.n - off))=cut xs off no:=by
     cases no with
     | none=>simp only [cut,Option.getD_none];rw [Zs (by simp;omega)]
     | some l=>rfl
    rw [NB] at h2
    have bL:(k.cells.drop (m.sh+off*w.size)).take (no.getD (m.n - off)*w.size)=(k.cells.take (m.sh+off*m.es+no.getD (m.n - off)*w.size)).drop (m.sh+off*m.es):=by
     rw [a1,List.drop_take];congr 1;omega
    rw [bL] at h2
    have vh:RL s1.N s1.H w (cut xs off no) ((k.cells.take (m.sh+off*m.es+no.getD (m.n - off)*w.size)).drop (m.sh+off*m.es)):=h2.frame (fun z hz hl=>⟨k1.N hl hz,k1.fr z hl hz.1⟩)
    have ja:Nat.ble ((no.getD (m.n - off)+ys.length)*bytes) Q7=true:=by rw [hln];exact bh
    have oB:Nat.ble (m.sh+off*m.es+no.getD (m.n - off)*w.size) k.cells.length=true:=by
     refine sL ?_
     rw [a1]
     have:(off+no.getD (m.n - off))*w.size<=xs.length*w.size:=Zk _ (by omega)
     rw [Nat.add_mul] at this;omega
    have od:Nat.beq m.es w.size=true:=by rw [a1];exact Nat.beq_refl _
    simp only [rL,a3,Q1,(a6 rfl).1,od,oB,ja,Bool.not_false,Bool.and_self,aa,gH]
    obtain ⟨s',e1,e2,hk,bZ,dI⟩:=E5 t1 (vh.append gh)
    have hlen:s1.L.bl.length=s.L.bl.length:=by rw [l1,E6]
    have NC:s1.H.length=s.H.length:=by rw [rB];simp
    rw [<- l1,<- e1] at h
    have Di:(Value.slice (some ⟨s.H.length,0,none⟩) (no.getD (m.n - off)+ys.length) w.size)=.slice (some ⟨s1.H.length,0,none⟩) ((cut xs off no)++ys).length w.size:=by rw [NC,Zf,hln]
    rw [<- rB,<- e2]
    refine hK _ _ s' (k1.trans hk) bZ (ER.fh ?_) h
    rw [Di,<- hlen];exact dI
  .simp at h
 .rename_i b i aB w x0
  split at h
  .rename_i v' t xs hb
   split at h
   .rename_i hv
    have hv:=Z7 hv
    replace h:=ob h;obtain ⟨x,h1,h⟩:=h
    obtain ⟨bh,h⟩:=Qj h
    have e0:=Qq h1
    injection e0 with e0;subst e0
    have:=Qg h1;subst this
    obtain ⟨bE,_,hval⟩:cm s (.rw b i aB w x0) v:=hr
    obtain ⟨cH,cx,_⟩:=(hval _ hb).2 hv
    rcases cx with ⟨rfl,rfl⟩ | ⟨z,oo,k,rfl,q1,q2,q3,q4,q5,q6⟩
    .obtain ⟨s1,l1,g1,u1,k1,t1,vM,_⟩:=hs.ig (i:=i) hb none (fun z h=>by simp at h)
     have gh:RL s1.N s1.H w ys news:=hn.frame (fun z hz hl=>⟨k1.N hl hz,k1.fr z hl hz.1⟩)
     have hlen:s1.L.bl.length=s.L.bl.length:=by rw [l1,oR]
     simp only [Zb,Zo,List.nil_append] at h bh
     cases hl:ys.length with
     | zero =>
      have:ys=[]:=Z1 hl
      subst this
      simp only [rL,Q1,gH]
      obtain ⟨s',e1,e2,e3,hk,bZ,_⟩:=t1.og w
      rw [<- l1,<- e1] at h;rw [<- g1,<- e2]
      refine hK (.a_ s.L.bl.length 0 none) _ s' (k1.trans hk) bZ (ER.fh (p:=.a_ s.L.bl.length 0 none) ⟨by rw [e1,Ql];omega,?_⟩) h
      rw [<- hlen,e3];simp
     | succ q =>
      rw [hl] at bh
      simp only [rL,bh,aa,Q1,gH]
      obtain ⟨s',e1,e2,hk,bZ,dI⟩:=E5 t1 gh
      rw [<- l1,<- e1] at h;rw [<- g1,<- e2]
      rw [hl] at dI
      rw [hlen] at dI
      exact hK _ _ s' (k1.trans hk) bZ (ER.fh dI) h
    .obtain ⟨s1,l1,g1,u1,k1,t1,vM,_⟩:=hs.ig (i:=i) hb (some z) (fun y h=>by injection h with h;subst h;exact q1)
     have gh:RL s1.N s1.H w ys news:=hn.frame (fun z hz hl=>⟨k1.N hl hz,k1.fr z hl hz.1⟩)
     have hlen:s1.L.bl.length=s.L.bl.length:=by rw [l1,oR]
     have hz:s1.aF z:=(vM z).2 (.inr rfl)
     obtain ⟨s2,l2,g2,u2,k2,t2,_,_⟩:=t1.td hz
     have gR:RL s2.N s2.H w ys news:=gh.frame (fun z hz hl=>⟨k2.N hl hz,k2.fr z hl hz.1⟩)
     have h2:RL s2.N s2.H w x0 ((k.cells.take (oo+x0.length*w.size)).drop oo):=by
      refine ⟨by rw [List.length_drop,List.length_take];have:=q5.1;omega,fun j hj=>?_⟩
      have hm:=jT (k:=w.size) hj
      have:=ax.flat (M:=s2.N) (G:=s2.H) w cH (q6 j hj)
      have e2:cI ((k.cells.take (oo+x0.length*w.size)).drop oo) (j*w.size) w.size=(k.cells.drop (oo+j*w.size)).take w.size:=by
       unfold cI;rw [List.drop_drop,List.drop_take,List.take_take,Nat.min_eq_left (by omega)]
      rw [e2];exact this
     have oB:Nat.ble (oo+x0.length*w.size) k.cells.length=true:=sL q5.1
     simp only [rL,q2,Q1,q3,Nat.beq_refl,oB,bh,Bool.not_false,Bool.and_self,aa,gH]
     obtain ⟨s',e1,e2,hk,bZ,dI⟩:=E5 t2 (h2.append gR)
     have NC:s2.H.length=s.H.length:=by rw [g2,g1];simp
     have Xz:s2.H=s.H.set z none:=by rw [g2,g1]
     have Hv:s2.L=cW s.L b ⟨v'+1,true,.rows t xs (some i)⟩:=by rw [l2,l1]
     rw [<- Hv,<- e1] at h
     rw [<- Xz,<- e2]
     refine hK _ _ s' ((k1.trans k2).trans hk) bZ (ER.fh ?_) h
     rw [NC,Zf,l2,hlen] at dI;exact dI
   .simp at h
  .simp at h
 .simp at h
theorem Qdv (hs:aD s) {t:Ty} {p:PV} {v:Value} (hr:ER s p v) {xs:List (List t.T)} {L':LS} (h:ND s.L t p=some (xs,L')) :
  t.flat=true/\∃ (s':S) (cells:List Value) (Kf:Nat->Option Nat),s'.L=L'/\s'.H=s.H/\aj s s'/\aD s'/\(∀ z,s.aF z->s'.aF z)/\(∀ z i,Kf z=some i->s'.aF z/\¬ s.aF z/\∃ k,ah s.H z=some k)/\cells.length=xs.length/\(∀ w∈cells,Qa w w=true) /\
   (∀ i (hi:i < xs.length),∃ w,cells[i]? = some w/\iF (fun z=>Kf z=some i) s.H s.ai t xs[i] w) /\
   ((v=.slice none 0 0/\xs=[])\/∃ z o k,v=.slice (some ⟨z,o,none⟩) xs.length 1/\ah s.H z=some k/\k.ro=false/\o+xs.length<=k.cells.length/\cells=(k.cells.take (o+xs.length)).drop o/\s'.aF z/\Kf z=none/\¬ s.aF z):=by
 unfold ND at h
 split at h
 .rename_i b
  split at h
  .rename_i aB u XA hb
   obtain ⟨x,h1,h⟩:=ob h
   simp at h;obtain ⟨rfl,rfl⟩:=h
   have e0:=Qq h1
   injection e0 with e0;injection e0 with e0;subst e0
   have:=Qg h1;subst this
   have hr:cm s (.a_ b 0 none) v:=hr
   obtain ⟨bE,hr⟩:=hr
   obtain ⟨_,cH,cx⟩:=mS hs hb
   obtain ⟨s',e1,e2,e3,hk,bZ,hl,ho,_⟩:=hs.E7 hb rfl false
   let Kf:Nat->Option Nat:=fun z=>match s.br z with | some p=>if p.1=b then some p.2 else none | none=>none
   have Xv:∀ z i,s.br z=some (b,i)->Kf z=some i:=by intro z i e;simp only [Kf];rw [e];simp
   have QN:∀ z i,Kf z=some i->s.br z=some (b,i):=by
    intro z i e
    simp only [Kf] at e
    split at e
    .rename_i q hq
     split at e
     .rename_i e1
      injection e with e2
      rw [hq];congr 1;ext<;>simp_all
     .simp at e
    .simp at e
   have kL:∀ z i,Kf z=some i->s'.aF z/\¬ s.aF z/\∃ k,ah s.H z=some k:=fun z i e=>⟨(hl z).2 (.inr (.inr ⟨i,QN z i e⟩)),(hs.kl z _ (QN z i e)).2.2.1,hs.ka z _ (QN z i e)⟩
   refine ⟨cH,?_⟩
   rcases cx with ⟨hm,rfl⟩ | ⟨m,k,hm,a1,a2,a3,a4,a5,a6,a7⟩
   .rw [hm] at hr;obtain ⟨_,_,rfl⟩:=hr
    exact ⟨s',[],Kf,e1,e2,hk,bZ,fun z hz=>(hl z).2 (.inl hz),kL,rfl,by simp,fun i hi=>absurd hi (by simp),.inl ⟨rfl,rfl⟩⟩
   .rw [hm] at hr;obtain ⟨_,rfl⟩:=hr
    have Bd:((k.cells.take (m.sh+XA.length)).drop m.sh).length=XA.length:=by rw [List.length_drop,List.length_take];have:=a4.1;omega
    refine ⟨s',(k.cells.take (m.sh+XA.length)).drop m.sh,Kf,e1,e2,hk,bZ,fun z hz=>(hl z).2 (.inl hz),kL,Bd,fun w hw=>?_,fun i hi=>?_,.inr ⟨m.z,m.sh,k,by simp [a2,a1],a3,a5,a4.1,rfl,(hl _).2 (.inr (.inl ⟨m,hm,rfl⟩)),?_,hs.lm b _ m hb hm⟩⟩
    .refine a4.2 w ?_
     rw [List.drop_take] at hw
     exact List.mem_of_mem_take hw
    .obtain ⟨w,w1,w2⟩:=a7 i hi (by simp)
     refine ⟨w,?_,w2.mono cH (fun z hz=>⟨Xv z i hz,rfl⟩)⟩
     rw [Zp,List.getElem?_take_of_lt (by omega)];exact w1
    .cases e:Kf m.z with
     | none=>rfl
     | some i=>exact absurd rfl (hs.dS (QN _ i e) hb hm)
  .simp at h
 .simp at h
theorem Qkh (hs:aD s) {p:PV} {v:Value} (hr:ER s p v) {t:Ty} (hf:t.flat=true) {bytes:Nat} {ys:List (List t.T)} {news:List Value} {Kf:Nat->Option Nat} (Iy:∀ z i,Kf z=some i->s.aF z/\∃ k,ah s.H z=some k) (hl:news.length=ys.length) (hp:∀ w∈news,Qa w w=true)
  (hn:∀ i (hi:i < ys.length),∃ w,news[i]? = some w/\iF (fun z=>Kf z=some i) s.H s.ai t ys[i] w) (hK:eE s r KV KE Q) (h:XB t bytes p ys s.L KV=some r) :
  ∃ y,B5 1 bytes v news ys.length s.H KE=some y/\Q y:=by
 have NF:∀ z i,Kf z=some i->s.aF z:=fun z i e=>(Iy z i e).1
 unfold XB at h
 unfold B5
 have th:∀ (s1:S),aD s1->aj s s1->s1.H=s.H->s1.L.bl.length=s.L.bl.length->(∀ z,s.aF z->s1.aF z)->Nat.ble (ys.length*bytes) Q7=true->KV (.a_ s.L.bl.length 0 none) (Qv s1.L (.rows t ys none))=some r ->
   ∃ y,(Q1 (rL 1 bytes (.slice none 0 0) news ys.length s.H) fun r=>gH r.1 fun a n c=>KE (.slice a n c) r.2)=some y/\Q y:=by
  intro s1 t1 k1 g1 hlen kj bh h
  cases wP:ys.length with
  | zero =>
   have:ys=[]:=Z1 wP
   subst this
   simp only [rL,Q1,gH]
   obtain ⟨s',e1,e2,e3,hk,bZ,_⟩:=t1.AZ t hf
   rw [<- e1] at h;rw [<- g1,<- e2]
   refine hK (.a_ s.L.bl.length 0 none) _ s' (k1.trans hk) bZ (ER.fh (p:=.a_ s.L.bl.length 0 none) ⟨by rw [e1,Ql];omega,?_⟩) h
   rw [<- hlen,e3];simp
  | succ q =>
   rw [wP] at bh
   simp only [rL,bh,aa,Q1,gH]
   obtain ⟨s',e1,e2,hk,bZ,dI,_⟩:=t1.jB hf Kf (fun z i e=>⟨kj z (NF z i e),by rw [g1];exact (Iy z i e).2⟩) hl (fun i hi=>by rw [g1,k1.ai];exact hn i hi) hp
   rw [<- e1] at h;rw [<- g1,<- e2]
   rw [wP,hlen] at dI
   exact hK _ _ s' (k1.trans hk) bZ (ER.fh dI) h
 split at h
 .obtain rfl:v=_:=hr
  obtain ⟨bh,h⟩:=Qj h
  exact th s hs (aj.refl s) rfl rfl (fun _ h=>h) bh h
 .replace h:=ob h;obtain ⟨⟨xs,L1⟩,h1,h⟩:=h
  obtain ⟨bh,h⟩:=Qj h
  obtain ⟨_,s1,cells,Ix,l1,g1,k1,t1,vM,J6,fE,XC,hc,hv⟩:=Qdv hs hr h1
  simp only at h bh
  have hlen:s1.L.bl.length=s.L.bl.length:=by
   rw [l1]
   unfold ND at h1
   split at h1
   .split at h1
    .obtain ⟨x,_,h1⟩:=ob h1
     simp at h1;rw [<- h1.2,E6]
    .simp at h1
   .simp at h1
  rw [<- l1] at h
  rcases hv with ⟨rfl,rfl⟩ | ⟨z,o,k,rfl,q1,q2,q3,q4,q5,q6,hzn⟩
  .simp only [Zb,Zo,List.nil_append] at h bh
   rw [hlen] at h
   exact th s1 t1 k1 g1 hlen vM bh h
  .obtain ⟨s2,l2,g2,u2,k2,t2,XD,kd2⟩:=t1.td q5
   have oB:Nat.ble (o+xs.length*1) k.cells.length=true:=sL (by omega)
   simp only [rL,q1,Q1,q2,Nat.beq_refl,oB,bh,Bool.not_false,Bool.and_self,aa,gH]
   let QO:Nat->Option Nat:=fun w=>match Ix w with | some i=>some i | none=>match Kf w with | some i=>if w=z then none else some (xs.length+i) | none=>none
   have kz:∀ w i,Kf w=some i->Ix w=none:=by
    intro w i e
    cases e1:Ix w with
    | none=>rfl
    | some j=>exact absurd (NF w i e) (J6 w j e1).2.1
   obtain ⟨s',e1,e2,hk,bZ,dI,_⟩:=t2.jB hf (ys:=xs++ys) (vs:=cells++news) QO (fun w i e=>by
    rw [XD]
    simp only [QO] at e
    split at e
    .rename_i j e1
     refine ⟨(J6 w j e1).1,?_⟩
     rw [g2,g1,Qh (fun e=>by rw [<- e,q6] at e1;simp at e1)];exact (J6 w j e1).2.2
    .split at e
     .rename_i j e1
      refine ⟨vM w (NF w j e1),?_⟩
      rw [g2,g1,Qh (fun e:z=w=>hzn (by rw [e];exact NF w j e1))];exact (Iy w j e1).2
     .simp at e) (by simp [fE,hl]) (fun i hi=>by
    rw [g2,g1,k2.ai,k1.ai]
    by_cases BI:i < xs.length
    .obtain ⟨w,w1,w2⟩:=hc i BI
     refine ⟨w,by rw [List.getElem?_append_left (by omega)];exact w1,?_⟩
     rw [List.getElem_append_left BI]
     refine w2.mono hf (fun z' aX=>⟨by simp only [QO];rw [aX],Qh (fun e=>?_)⟩)
     rw [<- e,q6] at aX;simp at aX
    .simp only [Zf] at hi
     obtain ⟨w,w1,w2⟩:=hn (i - xs.length) (by omega)
     refine ⟨w,by rw [Zq (by omega),fE];exact w1,?_⟩
     rw [List.getElem_append_right (by omega)]
     have OX:∀ z',Kf z'=some (i - xs.length)->z'≠z:=fun z' aX e=>by
      subst e
      exact hzn (NF _ _ aX)
     refine w2.mono hf (fun z' aX=>⟨by simp only [QO];rw [kz z' _ aX,aX];simp only;rw [if_neg (OX z' aX)];congr 1;omega,Qh (fun e=>OX z' aX e.symm)⟩)) (fun w hw=>by
    rcases List.mem_append.1 hw with hw | hw
    .exact XC w hw
    .exact hp w hw)
   have NC:s2.H.length=s.H.length:=by rw [g2,g1];simp
   have Xz:s2.H=s.H.set z none:=by rw [g2,g1]
   rw [<- l2,<- e1] at h
   rw [Nat.mul_one,<- q4,<- Xz,<- e2]
   refine hK _ _ s' ((k1.trans k2).trans hk) bZ (ER.fh ?_) h
   rw [NC,Zf] at dI;exact dI
theorem Qki (hs:aD s) {p:PV} {v:Value} (hr:ER s p v) {w:Ty} {ys:List w.T} (h:QS s.L p w=some ys) :
  ((∃ a n c,v=.slice a n c)\/∃ q,v=.string q)/\∃ cells,RL s.N s.H w ys cells/\∀ ai n (a:Addr),FA ai w.size a n v s.H=Q1 (oZ s.H ai a (cells.take (min ys.length n*w.size))) fun H'=>some (min ys.length n,H'):=by
 have key:∀ E8:(∀ u,w=Ty.sl u->J7 s.L p=false),kS s.L p w=some ys->((∃ a n c,v=.slice a n c)\/∃ q,v=.string q)/\∃ cells,RL s.N s.H w ys cells/\∀ ai n (a:Addr),FA ai w.size a n v s.H=Q1 (oZ s.H ai a (cells.take (min ys.length n*w.size))) fun H'=>some (min ys.length n,H'):=by
  intro E8 h
  obtain ⟨cells,a,c,rfl,oC,kG⟩:=XF hs hr h E8
  refine ⟨.inl ⟨_,_,_,rfl⟩,cells,kG,fun ai n b=>?_⟩
  unfold Qf at oC
  split at oC
  .rename_i e
   simp only [Value.slice.injEq] at e
   obtain ⟨rfl,e2,rfl⟩:=e
   simp at oC;subst oC
   rw [e2];simp [FA]
  .rename_i a' n' c' e
   simp only [Value.slice.injEq] at e
   obtain ⟨rfl,rfl,rfl⟩:=e
   simp only [FA]
   have:fN s.H a' (min ys.length n*w.size)=some (cells.take (min ys.length n*w.size)):=by
    have hle:min ys.length n*w.size<=ys.length*w.size:=Zk _ (Nat.min_le_left _ _)
    cases hm:ys.length*w.size with
    | zero =>
     have h0:min ys.length n*w.size=0:=by omega
     rw [h0];simp [fN]
    | succ q =>
     rw [hm] at oC
     simp only [fN,Qx] at oC
     obtain ⟨k,hk,hx⟩:=Q2 oC
     split at hx
     .rename_i hb
      have hb:=Zi hb
      simp at hx;subst hx
      cases hq:min ys.length n*w.size with
      | zero=>simp [fN]
      | succ q' =>
       simp only [fN,Qx,hk,Q1]
       have:Nat.ble (a'.off+(q'+1)) k.cells.length=true:=Nat.ble_eq_true_of_le (by omega)
       rw [this]
       simp only [List.take_take]
       rw [Nat.min_eq_left (by omega)]
     .simp at hx
   rw [this];rfl
  .simp at oC
 unfold QS at h
 split at h
 .rename_i q
  obtain rfl:v=.string q:=hr
  split at h
  .simp at h;subst h
   refine ⟨.inr ⟨_,rfl⟩,_,RL.bytes q.data.toList,fun ai n a=>?_⟩
   have hl:(Iz q).length=q.size:=by simp [Iz]
   have hc:((q.data.toList.map fun b=>Value.int .u8 (b.toNat:Int))).length=q.size:=by simp
   simp only [FA,Ty.size,Nat.mul_one,hl]
   congr 1
   have:(List.map (fun b=>Value.int IntKind.u8 ↑b.toNat) q.data.toList).take n=(List.map (fun b=>Value.int IntKind.u8 ↑b.toNat) q.data.toList).take (min q.size n):=by
    rw [<- hc,Nat.min_comm,<- List.take_take,List.take_length]
   rw [this]
  .simp at h
 .split at h
  .simp at h
  .rename_i E8
   exact key (fun _ _=>E8) h
theorem RL.m_ {N:Nat->Prop} {H:af} {t:Ty} {xs ys:List t.T} {c d:List Value} (h:RL N H t xs c) (g:RL N H t ys d) {off m:Nat} (hm:off+m<=xs.length) :
  RL N H t (Pv.m_ xs off m ys) (lay c (off*t.size) (d.take (min ys.length m*t.size))):=by
 have e1:=(h.take off (by omega))
 have e2:=g.take (min ys.length m) (Nat.min_le_left _ _)
 have e3:=h.drop (off+min ys.length m) (by omega)
 have:=(e1.append e2).append e3
 have ex:Pv.m_ xs off m ys=xs.take off++ys.take (min ys.length m)++xs.drop (off+min ys.length m):=by
  unfold Pv.m_
  have:ys.take m=ys.take (min ys.length m):=by
   rw [Nat.min_comm,<- List.take_take,List.take_length]
  rw [this]
 have ec:lay c (off*t.size) (d.take (min ys.length m*t.size))=c.take (off*t.size)++d.take (min ys.length m*t.size)++c.drop ((off+min ys.length m)*t.size):=by
  unfold lay
  have hl:(d.take (min ys.length m*t.size)).length=min ys.length m*t.size:=by
   have:min ys.length m*t.size<=ys.length*t.size:=Zk _ (Nat.min_le_left _ _)
   rw [List.length_take,g.1];omega
  rw [hl,Nat.add_mul]
 rw [ex,ec];exact this
theorem Qtx (aI:XE.ai=s.ai) (hs:aD s) {b off:Nat} {no:Option Nat} {v w':Value} (hr:ER s (.a_ b off no) v) {src:PV} (dR:ER s src w') {w:Ty} {ys:List w.T} {m aB:Nat} {u:Ty} {xs:List u.T} {x:List w.T}
  (h1:QS s.L src w=some ys) (h2:iX s.L (.a_ b off no)=some m) (h3:Qi s.L b=some ⟨aB,true,.arr u xs⟩) (h4:fU (.sl u) (.sl w) xs=some x)
  (hK:eE s r KV KE Q) (h:KV (.int .i64 ((min ys.length m:Nat):Int)) (cW s.L b ⟨aB+1,true,.arr w (m_ x off m ys)⟩)=some r) {P:Program} {t t2:TypeId} {e:TypeId×Nat×Nat×Value} (he:oW P t=some e) (bf:e.2.1=w.size) :
  ∃ y,o6 P XE.ai .copy [t,t2] [v,w'] s.H KE=some y/\Q y:=by
 obtain ⟨DL,cells,kG,gx⟩:=Qki hs dR h1
 have hu:u=w:=by have:=Qq h4;injection this
 subst hu
 obtain rfl:=Qg h4
 obtain ⟨bE,hr⟩:=hr
 obtain ⟨e0,size,bytes,z⟩:=e
 simp only at bf;subst bf
 cases hm:s.μ b with
 | none =>
  rw [hm] at hr
  obtain ⟨r1,r2,rfl⟩:=hr
  have hB:=hs.aJ b _ h3
  unfold BR at hB;simp only [hm] at hB
  subst hB
  have fS:m=0:=by
   unfold iX at h2
   cases no with
   | some n=>simp at r2 h2;omega
   | none=>simp only [h3,r1] at h2;simp at h2;omega
  subst fS
  have hc:m_ ([]:List u.T) off 0 ys=[]:=by simp [m_]
  rw [hc] at h
  obtain ⟨s',e1,e2,e3,k2,XG⟩:=hs.XH h3 rfl hm ⟨aB+1,true,.arr u []⟩ rfl rfl (by
   intro s' aE
   unfold BR;simp only [aE])
  have hy:=hK (.int .i64 0) (.int .i64 0) s' k2 XG rfl (by rw [e1];simpa using h)
  rw [e2] at hy
  rcases DL with ⟨a,n,c,rfl⟩ | ⟨q,rfl⟩
  .simpa only [o6,he,Q1] using hy
  .simpa only [o6,he,Q1] using hy
 | some mb =>
  rw [hm] at hr
  obtain ⟨r1,rfl⟩:=hr
  obtain ⟨a1,a2,k,a3,a4,a5,a6,a7⟩:=mO hs h3 hm
  have hmm:m=no.getD (mb.n - off):=by
   unfold iX at h2
   cases no with
   | some n=>simp at h2 ⊢;exact h2.symm
   | none =>
    simp only [h3] at h2
    simp at h2 ⊢;omega
  have hle:off+m<=xs.length:=by rw [hmm,<- a2];exact r1
  have Dj:=RL.om a4 a5
  have fE:(cells.take (min ys.length m*u.size)).length=min ys.length m*u.size:=by
   have:min ys.length m*u.size<=ys.length*u.size:=Zk _ (Nat.min_le_left _ _)
   rw [List.length_take,kG.1];omega
  have ct:mb.sh+off*mb.es+(cells.take (min ys.length m*u.size)).length<=k.cells.length:=by
   rw [fE,a1]
   have:(off+min ys.length m)*u.size<=xs.length*u.size:=Zk _ (by omega)
   rw [Nat.add_mul] at this;omega
  have bL:∀ v∈cells.take (min ys.length m*u.size),az v=true:=fun v hv=>by
   obtain ⟨i,hi,ei⟩:=List.getElem_of_mem (List.mem_of_mem_take hv)
   have eO:=Ty.size_pos u
   have hq:i / u.size < ys.length:=by rw [Nat.div_lt_iff_lt_mul eO,<- kG.1];exact hi
   refine ax.cell _ (kG.2 _ hq) v ?_
   have AY:=Nat.mod_lt i eO
   have Nz:=Nat.div_add_mod i u.size
   refine List.mem_iff_getElem?.2 ⟨i % u.size,?_⟩
   rw [tc,if_pos AY,show i / u.size*u.size+i % u.size=i by rw [Nat.mul_comm];exact Nz,Z6 hi,ei]
  have eR:=IA (ai:=XE.ai) (o:=mb.sh+off*mb.es) a3 (a6 rfl).1 bL (by rw [aI];exact (a6 rfl).2) ct
  have NG:(m_ xs off m ys).length=xs.length:=by unfold m_;simp;omega
  have IB:((lay k.cells (mb.sh+off*mb.es) (cells.take (min ys.length m*u.size))).drop mb.sh).take ((m_ xs off m ys).length*u.size)=lay ((k.cells.drop mb.sh).take (xs.length*u.size)) (off*u.size) (cells.take (min ys.length m*u.size)):=by
   have:(off+min ys.length m)*u.size<=xs.length*u.size:=Zk _ (by omega)
   rw [Nat.add_mul] at this
   rw [NG,a1,Qre a4 (by rw [fE];omega)]
  obtain ⟨s2,e1,e2,e3,k2,XG⟩:=Qrh hs (xs':=m_ xs off m ys) h3 hm (cells':=lay k.cells (mb.sh+off*mb.es) (cells.take (min ys.length m*u.size))) a3 (by unfold m_;simp;omega) (by rw [NG];exact (AI hs h3 hm a3).lay ct (fun v hv=>kG.plain v (List.mem_of_mem_take hv))) (by rw [IB];exact Dj.m_ kG hle)
  have hy:=hK (.int .i64 ((min ys.length m:Nat):Int)) _ s2 k2 XG rfl (by rw [e1];exact h)
  rw [e2] at hy
  have:o6 P XE.ai .copy [t,t2] [Value.slice (some ⟨mb.z,mb.sh+off*mb.es,none⟩) (no.getD (mb.n - off)) mb.es,w'] s.H KE=KE (.int .i64 ((min ys.length m:Nat):Int)) (s.H.set mb.z (some ⟨lay k.cells (mb.sh+off*mb.es) (cells.take (min ys.length m*u.size)),false,k.mp⟩)):=by
   simp only [o6,he,Q1,wF]
   rw [gx,<- hmm,eR];rfl
  rw [this];exact hy
theorem Qkj {b:Builtin} {ts:List TypeId} {ps:List PV} {vs:List Value} (hP:X.P=XE.P) (aI:XE.ai=s.ai) (hs:aD s) (hr:Qw (ER s) ps vs) (hK:eE s r KV KE Q) (h:XI X.P b ts ps s.L KV=some r):∃ y,o6 XE.P XE.ai b ts vs s.H KE=some y/\Q y:=by
 rw [<- hP]
 unfold XI at h
 split at h
 .rename_i t q
  obtain ⟨v,rfl,hv⟩:=Qw.one hr
  clear hr
  obtain rfl:v=.string q:=hv
  split at h
  .rename_i hu
   simp only [o6,hu]
   exact hK.here hs (p:=.int .i64 q.size) rfl h
  .simp at h
 .rename_i t p JU
  obtain ⟨v,rfl,hv⟩:=Qw.one hr
  clear hr
  split at h
  .rename_i hu
   replace h:=ob h;obtain ⟨n,h1,h⟩:=h
   obtain ⟨a,c,rfl⟩:=Xq hs hv h1
   simp only [o6,hu]
   exact hK.here hs (p:=.int .i64 n) rfl h
  .simp at h
 .rename_i t
  obtain ⟨v,rfl,hv⟩:=Qw.one hr
  clear hr
  obtain rfl:v=.slice none 0 0:=hv
  split at h
  .rename_i hu
   simp only [o6,hu]
   exact hK.here hs (p:=.int .i64 0) rfl h
  .simp at h
 .rename_i k x k' y
  obtain ⟨v,w,rfl,hv,hw⟩:=Qw.two hr
  clear hr
  obtain rfl:v=.int k x:=hv
  obtain rfl:w=.int k' y:=hw
  simp only [o6]
  split at h
  .rename_i e1;rw [if_pos e1];exact hK.here hs (p:=.int k _) rfl h
  .simp at h
 .rename_i k x k' y
  obtain ⟨v,w,rfl,hv,hw⟩:=Qw.two hr
  clear hr
  obtain rfl:v=.int k x:=hv
  obtain rfl:w=.int k' y:=hw
  simp only [o6]
  split at h
  .rename_i e1;rw [if_pos e1];exact hK.here hs (p:=.int k _) rfl h
  .simp at h
 .rename_i t u p x
  obtain ⟨v,w,rfl,hv,hw⟩:=Qw.two hr
  clear hr
  replace h:=ob h;obtain ⟨⟨el,size,bytes,z⟩,h1,h⟩:=h
  replace h:=ob h;obtain ⟨ty,h2,h⟩:=h
  simp only [o6,h1,Q1]
  split at h
  .rename_i bf
   have bf:=Z7 bf
   split at h
   .rename_i q hu
    obtain rfl:w=.string q:=hw
    split at h
    .rw [hu]
     have:size=1:=by rw [<- bf];rfl
     subst this
     simp only
     have hb:=Xy hs hv (u:=.int .u8) (RL.bytes q.data.toList) hK h
     have hl:(q.data.toList.map fun b=>(b.toNat:Int)).length=q.size:=by simp
     rw [hl] at hb;exact hb
    .simp at h
   .rename_i el' x' hu
    split at h
    .rename_i tt XJ
     replace h:=ob h;obtain ⟨⟨ys,L1⟩,h3,h⟩:=h
     obtain ⟨cH,s1,cells,Kf,l1,g1,k1,t1,vM,J6,fE,XC,hc,hvv⟩:=Qdv hs hw h3
     have DK:(1:Nat)=size:=bf
     subst DK
     have Aj:∃ a c,w=.slice a ys.length c/\Qf s.H 1 w=some cells:=by
      rcases hvv with ⟨rfl,rfl⟩ | ⟨z,o,k,rfl,q1,q2,q3,q4,q5,q6⟩
      .have:cells=[]:=Z1 fE
       subst this
       exact ⟨_,_,rfl,rfl⟩
      .refine ⟨_,_,rfl,?_⟩
       simp only [Qf,Nat.mul_one]
       cases hz:ys.length with
       | zero =>
        have:cells=[]:=Z1 (fE.trans hz)
        rw [this];simp [fN]
       | succ q =>
        simp only [fN,Qx,q1,Q1]
        have:Nat.ble (o+(q+1)) k.cells.length=true:=Nat.ble_eq_true_of_le (by omega)
        rw [this,q4,hz,List.drop_take]
        simp
     obtain ⟨a,c,rfl,oC⟩:=Aj
     rw [hu];simp only
     rw [oC]
     simp only at h
     rw [<- l1] at h
     have:=Qkh t1 (k1.ER hv) cH (fun z i e=>⟨(J6 z i e).1,by rw [g1];exact (J6 z i e).2.2⟩) fE XC (fun i hi=>by rw [g1,k1.ai];exact hc i hi) (eE.keep k1 hK) h
     rw [g1] at this
     exact this
    .rename_i xp _ ty _ _ E8 _
     replace h:=ob h;obtain ⟨ys,h3,h⟩:=h
     obtain ⟨cells,a,c,rfl,oC,kG⟩:=XF hs hw h3 (fun u e=>by
      cases hq:J7 s.L xp with
      | false=>rfl
      | true=>exact absurd e (fun e=>E8 u hq e))
     rw [hu];simp only
     rw [<- bf,oC]
     exact Xy hs hv kG hK h
   .rename_i l hu
    obtain rfl:w=.int _ l:=hw
    split at h
    .rename_i hz
     rw [hu];simp only
     obtain ⟨a1,a2⟩:=Qj h
     rw [a1];simp only [aa]
     have:=Xy hs hv (RL.rep l.toNat (Xx s hz)) hK a2
     have hl:(List.replicate l.toNat (s_ ty)).length=l.toNat:=by simp
     rw [hl,bf] at this;exact this
    .simp at h
   .simp at h
  .simp at h
 .rename_i t t2 b off no src
  obtain ⟨v,w,rfl,hv,hw⟩:=Qw.two hr
  clear hr
  replace h:=ob h;obtain ⟨⟨el,size,bytes,z⟩,h1,h⟩:=h
  replace h:=ob h;obtain ⟨ty,h2,h⟩:=h
  split at h
  .rename_i bf
   have bf:=Z7 bf
   replace h:=ob h;obtain ⟨ys,h3,h⟩:=h
   replace h:=ob h;obtain ⟨m,h4,h⟩:=h
   split at h
   .rename_i aB u xs hb
    replace h:=ob h;obtain ⟨x,h5,h⟩:=h
    exact Qtx aI hs hv hw h3 h4 hb h5 hK h h1 bf.symm
   .simp at h
  .simp at h
 .simp at h
end
inductive Kd where
 | fz
 | os
 | cb
 | cl (g:FuncId)
def PM.kd:PM->Kd
 | .ro=>.fz
 | .mv=>.os
 | .io=>.os
 | .ps=>.cb
 | .cl g=>.cl g
def AG:Bool->Kd
 | true=>.os
 | false=>.fz
def gY (H:af) (ai:Nat):(u:Ty)->List u.T->List Value->List Nat->Prop
 | .os t,xs,cs,ks=>t.flat=true/\ks.Nodup/\(∀ z∈ks,∃ k,ah H z=some k)/\∃ Kf:Nat->Option Nat,(∀ z i,Kf z=some i->z∈ks)/\∀ i (hi:i < xs.length),∃ v,cs[i]? = some v/\iF (fun z=>Kf z=some i) H ai t xs[i] v
 | .int _,_,_,ks=>ks=[]
 | .bool,_,_,ks=>ks=[]
 | .str,_,_,ks=>ks=[]
 | .sl _,_,_,ks=>ks=[]
 | .pair _ _,_,_,ks=>ks=[]
theorem gY.frame {H G:af} {ai:Nat}:∀ {u:Ty} {xs:List u.T} {cs:List Value} {ks:List Nat},gY H ai u xs cs ks->(∀ z∈ks,ah G z=ah H z)->gY G ai u xs cs ks
 | .os t,xs,cs,ks,h,hg=>by
  obtain ⟨h1,h2,h3,Kf,h4,h5⟩:=h
  refine ⟨h1,h2,fun z hz=>by rw [hg z hz];exact h3 z hz,Kf,h4,fun i hi=>?_⟩
  obtain ⟨v,q1,q2⟩:=h5 i hi
  exact ⟨v,q1,q2.mono h1 (fun z hz=>⟨hz,hg z (h4 z i hz)⟩)⟩
 | .int _,_,_,_,h,_=>h
 | .bool,_,_,_,h,_=>h
 | .str,_,_,_,h,_=>h
 | .sl _,_,_,_,h,_=>h
 | .pair _ _,_,_,_,h,_=>h
theorem gY.lt {H:af} {ai:Nat}:∀ {u:Ty} {xs:List u.T} {cs:List Value} {ks:List Nat},gY H ai u xs cs ks->∀ z∈ks,z < H.length
 | .os t,xs,cs,ks,h=>by
  obtain ⟨_,_,h3,_⟩:=h
  intro z hz;obtain ⟨k,hk⟩:=h3 z hz;exact Qt hk
 | .int _,_,_,_,h=>by rw [show _=[] from h];simp
 | .bool,_,_,_,h=>by rw [show _=[] from h];simp
 | .str,_,_,_,h=>by rw [show _=[] from h];simp
 | .sl _,_,_,_,h=>by rw [show _=[] from h];simp
 | .pair _ _,_,_,_,h=>by rw [show _=[] from h];simp
theorem gY.flat {H:af} {ai:Nat}:∀ {u:Ty} {xs:List u.T} {cs:List Value} {ks:List Nat},u.flat=true->gY H ai u xs cs ks->ks=[]
 | .os t,xs,cs,ks,f,h=>by simp [Ty.flat] at f
 | .int _,_,_,_,_,h=>h
 | .bool,_,_,_,_,h=>h
 | .str,_,_,_,_,h=>h
 | .sl _,_,_,_,_,h=>h
 | .pair _ _,_,_,_,_,h=>h
theorem gY.C4 {H:af} {ai:Nat}:∀ {u:Ty} {xs:List u.T} {cs:List Value},(∀ t,u≠.os t)->gY H ai u xs cs []
 | .os t,_,_,f=>absurd rfl (f t)
 | .int _,_,_,_=>rfl
 | .bool,_,_,_=>rfl
 | .str,_,_,_=>rfl
 | .sl _,_,_,_=>rfl
 | .pair _ _,_,_,_=>rfl
theorem gY.Wz {H:af} {ai:Nat}:∀ {u:Ty} {xs:List u.T} {cs:List Value} {ks:List Nat},u.iL=false->gY H ai u xs cs ks->ks=[]
 | .os t,xs,cs,ks,f,h=>by simp [Ty.iL] at f
 | .int _,_,_,_,_,h=>h
 | .bool,_,_,_,_,h=>h
 | .str,_,_,_,_,h=>h
 | .sl _,_,_,_,_,h=>h
 | .pair _ _,_,_,_,_,h=>h
def oO (N:Nat->Prop) (H:af) (ai:Nat) (u:Ty) (x:List u.T) (w:Value) (ids:List Nat):Prop :=
 (ids=[]/\x=[]/\w=.slice none 0 0)\/∃ z o k ks,ids=z::ks/\z∉ks/\w=.slice (some ⟨z,o,none⟩) x.length u.size/\ah H z=some k/\k.ro=false/\ai<=z/\Fit o (x.length*u.size) k.cells/\RL N H u x ((k.cells.drop o).take (x.length*u.size))/\gY H ai u x ((k.cells.drop o).take (x.length*u.size)) ks
theorem oO.cell {N:Nat->Prop} {H:af} {ai:Nat} {u:Ty} {x:List u.T} {w:Value} {ids:List Nat} (h:oO N H ai u x w ids):az w=true/\Qa w w=true:=by
 rcases h with ⟨_,_,rfl⟩ | ⟨z,o,k,ks,_,_,rfl,_⟩<;>simp [az,Qa]
theorem oO.frame {N M:Nat->Prop} {H G:af} {ai:Nat} {u:Ty} {x:List u.T} {w:Value} {ids:List Nat} (h:oO N H ai u x w ids) (hf:∀ z,N z->z < H.length->M z/\ah G z=ah H z) (hi:∀ z∈ids,ah G z=ah H z):oO M G ai u x w ids:=by
 rcases h with h | ⟨z,o,k,ks,rfl,h0,h2,h3,h4,h5,h6,h7,h8⟩
 .exact .inl h
 .exact .inr ⟨z,o,k,ks,rfl,h0,h2,by rw [hi z (by simp)];exact h3,h4,h5,h6,h7.frame hf,h8.frame (fun y hy=>hi y (by simp [hy]))⟩
theorem RL.rows {N M:Nat->Prop} {H G:af} {t:Ty} {xs:List (Ty.os t).T} {c:List Value} (h:RL N H (.os t) xs c):RL M G (.os t) xs c :=
 ⟨h.1,fun i hi=>h.2 i hi⟩
theorem oO.flat {N M:Nat->Prop} {H:af} {ai:Nat} {u:Ty} {x:List u.T} {w:Value} {ids:List Nat} (h:oO N H ai u x w ids) (hf:(u.flat || u.jC)=true):oO M H ai u x w ids:=by
 rcases h with h | ⟨z,o,k,ks,rfl,h0,h2,h3,h4,h5,h6,h7,h8⟩
 .exact .inl h
 .refine .inr ⟨z,o,k,ks,rfl,h0,h2,h3,h4,h5,h6,?_,h8⟩
  cases hu:u.flat with
  | true=>exact ⟨h7.1,fun i hi=>ax.flat _ hu (h7.2 i hi)⟩
  | false =>
   rw [hu] at hf
   cases u with
   | os t=>exact h7.rows
   | _=>simp [Ty.jC] at hf
theorem oO.lt {N:Nat->Prop} {H:af} {ai:Nat} {u:Ty} {x:List u.T} {w:Value} {ids:List Nat} (h:oO N H ai u x w ids):∀ z∈ids,z < H.length:=by
 rcases h with ⟨rfl,_⟩ | ⟨z,o,k,ks,rfl,h0,h2,h3,_,_,_,_,h8⟩
 .simp
 .intro q hq
  rcases Z2 hq with rfl | hq
  .exact Qt h3
  .exact h8.lt q hq
def dA (N:Nat->Prop) (H:af) (ai:Nat):(t:Ty)->t.T->List Value->List Nat->Prop
 | .os u,x,cs,ids=>∃ w,cs=[w]/\oO N H ai u x w ids
 | .pair a b,x,cs,ids=>∃ i j,ids=i++j/\dA N H ai a x.1 (cs.take a.size) i/\dA N H ai b x.2 (cs.drop a.size) j
 | .int k,x,cs,ids=>ids=[]/\ax N H (.int k) x cs
 | .bool,x,cs,ids=>ids=[]/\ax N H .bool x cs
 | .str,x,cs,ids=>ids=[]/\ax N H .str x cs
 | .sl t,x,cs,ids=>ids=[]/\ax N H (.sl t) x cs
theorem dA.rep {N:Nat->Prop} {H:af} {ai:Nat}:∀ (t:Ty) {x:t.T} {cs:List Value} {ids:List Nat},dA N H ai t x cs ids->ax N H t x cs
 | .int k,_,_,_,h=>h.2
 | .bool,_,_,_,h=>h.2
 | .str,_,_,_,h=>h.2
 | .sl t,_,_,_,h=>h.2
 | .os u,_,_,_,h=>by obtain ⟨w,rfl,ho⟩:=h;exact ⟨w,rfl,ho.cell⟩
 | .pair a b,x,cs,ids,h=>by
  obtain ⟨i,j,_,h1,h2⟩:=h
  unfold ax
  exact ⟨dA.rep a h1,dA.rep b h2⟩
theorem dA.of {N:Nat->Prop} {H:af} {ai:Nat}:∀ (t:Ty) {x:t.T} {cs:List Value},t.dG=false->ax N H t x cs->dA N H ai t x cs []
 | .int k,_,_,_,h=>⟨rfl,h⟩
 | .bool,_,_,_,h=>⟨rfl,h⟩
 | .str,_,_,_,h=>⟨rfl,h⟩
 | .sl t,_,_,_,h=>⟨rfl,h⟩
 | .os u,_,_,f,h=>by simp [Ty.dG] at f
 | .pair a b,x,cs,f,h=>by
  simp only [Ty.dG,Bool.or_eq_false_iff] at f
  unfold ax at h
  exact ⟨[],[],rfl,dA.of a f.1 h.1,dA.of b f.2 h.2⟩
theorem dA.nil {N:Nat->Prop} {H:af} {ai:Nat}:∀ (t:Ty) {x:t.T} {cs:List Value} {ids:List Nat},t.dG=false->dA N H ai t x cs ids->ids=[]
 | .int k,_,_,_,_,h=>h.1
 | .bool,_,_,_,_,h=>h.1
 | .str,_,_,_,_,h=>h.1
 | .sl t,_,_,_,_,h=>h.1
 | .os u,_,_,_,f,h=>by simp [Ty.dG] at f
 | .pair a b,x,cs,ids,f,h=>by
  simp only [Ty.dG,Bool.or_eq_false_iff] at f
  obtain ⟨i,j,rfl,h1,h2⟩:=h
  rw [dA.nil a f.1 h1,dA.nil b f.2 h2];rfl
theorem dA.frame {N M:Nat->Prop} {H G:af} {ai:Nat} (hf:∀ z,N z->z < H.length->M z/\ah G z=ah H z):∀ (t:Ty) {x:t.T} {cs:List Value} {ids:List Nat},dA N H ai t x cs ids->(∀ z∈ids,ah G z=ah H z)->dA M G ai t x cs ids
 | .int k,_,_,_,h,_=>⟨h.1,ax.frame hf _ h.2⟩
 | .bool,_,_,_,h,_=>⟨h.1,ax.frame hf _ h.2⟩
 | .str,_,_,_,h,_=>⟨h.1,ax.frame hf _ h.2⟩
 | .sl t,_,_,_,h,_=>⟨h.1,ax.frame hf _ h.2⟩
 | .os u,_,_,_,h,hi=>by obtain ⟨w,rfl,ho⟩:=h;exact ⟨w,rfl,ho.frame hf hi⟩
 | .pair a b,x,cs,ids,h,hi=>by
  obtain ⟨i,j,rfl,h1,h2⟩:=h
  exact ⟨i,j,rfl,dA.frame hf a h1 (fun z hz=>hi z (by simp [hz])),dA.frame hf b h2 (fun z hz=>hi z (by simp [hz]))⟩
theorem dA.flat {N M:Nat->Prop} {H:af} {ai:Nat}:∀ (t:Ty) {x:t.T} {cs:List Value} {ids:List Nat},t.jD=true->dA N H ai t x cs ids->dA M H ai t x cs ids
 | .int k,_,_,_,_,h=>⟨h.1,ax.flat _ rfl h.2⟩
 | .bool,_,_,_,_,h=>⟨h.1,ax.flat _ rfl h.2⟩
 | .str,_,_,_,_,h=>⟨h.1,ax.flat _ rfl h.2⟩
 | .sl t,_,_,_,f,h=>by simp [Ty.jD] at f
 | .os u,_,_,_,f,h=>by obtain ⟨w,rfl,ho⟩:=h;exact ⟨w,rfl,ho.flat f⟩
 | .pair a b,x,cs,ids,f,h=>by
  simp only [Ty.jD,Z8] at f
  obtain ⟨i,j,rfl,h1,h2⟩:=h
  exact ⟨i,j,rfl,dA.flat a f.1 h1,dA.flat b f.2 h2⟩
theorem dA.lt {N:Nat->Prop} {H:af} {ai:Nat}:∀ (t:Ty) {x:t.T} {cs:List Value} {ids:List Nat},dA N H ai t x cs ids->∀ z∈ids,z < H.length
 | .int k,_,_,_,h=>by rw [h.1];simp
 | .bool,_,_,_,h=>by rw [h.1];simp
 | .str,_,_,_,h=>by rw [h.1];simp
 | .sl t,_,_,_,h=>by rw [h.1];simp
 | .os u,_,_,_,h=>by obtain ⟨w,rfl,ho⟩:=h;exact ho.lt
 | .pair a b,x,cs,ids,h=>by
  obtain ⟨i,j,rfl,h1,h2⟩:=h
  intro z hz
  rcases List.mem_append.1 hz with hz | hz
  .exact dA.lt a h1 z hz
  .exact dA.lt b h2 z hz
theorem QT {fz:Bool}:∀ (t:Ty) {cs:List PV} {L:LS} {r:t.T×LS},refl fz t cs L=some r->t.dG=false
 | .int k,_,_,_,_=>rfl
 | .bool,_,_,_,_=>rfl
 | .str,_,_,_,_=>rfl
 | .sl t,_,_,_,_=>rfl
 | .os u,_,_,_,h=>by simp [refl] at h
 | .pair a b,cs,L,r,h=>by
  unfold refl at h
  obtain ⟨x,h1,h⟩:=ob h
  obtain ⟨y,h2,h⟩:=ob h
  simp only [Ty.dG,Bool.or_eq_false_iff]
  exact ⟨QT a h1,QT b h2⟩
def HR (N:Nat->Prop) (H:af) (ai:Nat) (kd:Kd) (v:TV) (w:Value) (ids:List Nat):Prop :=
 match kd with
 | .fz=>∃ cs,Ij v.1 cs w/\dA N H ai v.1 v.2 cs ids
 | .cb=>∃ z k j,ids=z::j/\w=.pointer (some ⟨z,0,none⟩)/\ah H z=some k/\k.ro=false/\ai<=z/\dA N H ai v.1 v.2 k.cells j
 | .os=>∃ u x,v=⟨.sl u,x⟩/\oO N H ai u x w ids
 | .cl g=>ids=[]/\w=.func (.func g) ⟨[]⟩ ⟨[]⟩
theorem HR.frame {N M:Nat->Prop} {H G:af} {ai:Nat} {kd:Kd} {v:TV} {w:Value} {ids:List Nat} (h:HR N H ai kd v w ids) (hf:∀ z,N z->z < H.length->M z/\ah G z=ah H z) (hi:∀ z∈ids,ah G z=ah H z):HR M G ai kd v w ids:=by
 unfold HR at h ⊢
 cases kd with
 | fz=>obtain ⟨cs,h2,h3⟩:=h;exact ⟨cs,h2,dA.frame hf _ h3 hi⟩
 | cb =>
  obtain ⟨z,k,j,rfl,h2,h3,h4,h5,h6⟩:=h
  exact ⟨z,k,j,rfl,h2,by rw [hi z (by simp)];exact h3,h4,h5,dA.frame hf _ h6 (fun z hz=>hi z (by simp [hz]))⟩
 | os =>
  obtain ⟨u,x,rfl,h⟩:=h
  exact ⟨u,x,rfl,h.frame hf hi⟩
 | cl g=>exact h
def E9:Kd->Ty->Bool
 | .fz,t=>t.jD
 | .cb,t=>t.jD
 | .os,.sl u=>u.flat || u.jC
 | .os,_=>true
 | .cl _,_=>true
theorem HR.flat {N M:Nat->Prop} {H:af} {ai:Nat} {kd:Kd} {v:TV} {w:Value} {ids:List Nat} (h:HR N H ai kd v w ids) (hf:E9 kd v.1=true):HR M H ai kd v w ids:=by
 unfold HR at h ⊢
 cases kd with
 | fz=>obtain ⟨cs,h2,h3⟩:=h;exact ⟨cs,h2,dA.flat _ hf h3⟩
 | cb=>obtain ⟨z,k,j,rfl,h2,h3,h4,h5,h6⟩:=h;exact ⟨z,k,j,rfl,h2,h3,h4,h5,dA.flat _ hf h6⟩
 | os =>
  obtain ⟨u,x,rfl,h⟩:=h
  exact ⟨u,x,rfl,h.flat hf⟩
 | cl g=>exact h
theorem HR.lt {N:Nat->Prop} {H:af} {ai:Nat} {kd:Kd} {v:TV} {w:Value} {ids:List Nat} (h:HR N H ai kd v w ids):∀ z∈ids,z < H.length:=by
 unfold HR at h
 cases kd with
 | fz=>obtain ⟨cs,_,h⟩:=h;exact dA.lt _ h
 | cb =>
  obtain ⟨z,k,j,rfl,h2,h3,_,_,h6⟩:=h
  intro q hq
  rcases Z2 hq with rfl | hq
  .exact Qt h3
  .exact dA.lt _ h6 q hq
 | os =>
  obtain ⟨u,x,rfl,h⟩:=h
  exact h.lt
 | cl g=>rw [h.1];simp
def di (N:Nat->Prop) (H:af) (ai:Nat):List Kd->List TV->List Value->List (List Nat)->Prop
 | [],[],[],[]=>True
 | k::ks,v::vs,w::ws,i::is=>HR N H ai k v w i/\di N H ai ks vs ws is
 | _,_,_,_=>False
theorem di.frame {N M:Nat->Prop} {H G:af} {ai:Nat} (hf:∀ z,N z->z < H.length->M z/\ah G z=ah H z):∀ {ks:List Kd} {vs:List TV} {ws:List Value} {is:List (List Nat)},di N H ai ks vs ws is->(∀ z∈is.flatten,ah G z=ah H z)->di M G ai ks vs ws is
 | [],[],[],[],_,_=>trivial
 | _::_,_::_,_::_,_::_,h,hi=>⟨h.1.frame hf (fun z hz=>hi z (by simp [hz])),di.frame hf h.2 (fun z hz=>hi z (by simp at hz ⊢;exact .inr hz))⟩
def sS:List (PM×Ty)->List Kd
 | []=>[]
 | (.io,_)::r=>.os::sS r
 | (.ps,_)::r=>.cb::sS r
 | _::r=>sS r
def AH:List (PM×Ty)->List Value->List Value
 | [],_=>[]
 | (.io,_)::r,w::ws=>w::AH r ws
 | (.ps,_)::r,w::ws=>w::AH r ws
 | _::r,_::ws=>AH r ws
 | _::_,[]=>[]
def M_:List (PM×Ty)->List (List Nat)->List (List Nat)
 | [],_=>[]
 | (.io,_)::r,w::ws=>w::M_ r ws
 | (.ps,_)::r,w::ws=>w::M_ r ws
 | _::r,_::ws=>M_ r ws
 | _::_,[]=>[]
def C5 (sig:oM) (call:jv sig.eG->Option (jv sig.cY)) (bY:List Value->Nat->af->Option (Value×af)) (ai:Nat):Prop :=
 ∀ a r,call a=some r->∀ (H:af) (fC:Nat->Prop) (ws:List Value) (an:List (List Nat)),
  (∀ z,fC z->z < H.length)->ai<=H.length->an.flatten.Nodup->(∀ z∈an.flatten,¬ fC z) ->
  di (fun z=>z∉an.flatten/\¬ fC z) H ai (sig.params.map fun p=>p.1.kd) (ff sig.eG a) ws an ->
  ∃ v H' qZ bq aO,bY ws ai H=some (v,H')/\v=iK qZ/\H.length<=H'.length/\(∀ z,z < H.length->z∉an.flatten->ah H' z=ah H z) /\
   (bq.flatten++aO.flatten).Nodup/\(∀ z∈bq.flatten++aO.flatten,z∈an.flatten\/H.length<=z)/\(∀ z∈bq.flatten++aO.flatten,¬ fC z) /\
   di (fun z=>z∉bq.flatten++aO.flatten/\¬ fC z) H' ai (sig.results.map fun q=>AG q.1) ((ff sig.cY r).take sig.results.length) qZ bq /\
   di (fun z=>z∉bq.flatten++aO.flatten/\¬ fC z) H' ai (sS sig.params) ((ff sig.cY r).drop sig.results.length) (AH sig.params ws) aO
theorem MQ:∀ (ts:List Ty) {vs:List TV} {a:jv ts},nh ts vs=some a->ff ts a=vs
 | [],[],a,h=>rfl
 | [t],[v],a,h=>by
  have e:=Qq h
  obtain ⟨t',x⟩:=v
  simp only at e;subst e
  have:=Qg h
  simp only [ff];rw [<- this]
 | t::u::r,v::vs,a,h=>by
  simp only [nh] at h
  replace h:=ob h;obtain ⟨x,h1,h⟩:=h
  replace h:=ob h;obtain ⟨y,h2,h⟩:=h
  simp at h;subst h
  have e:=Qq h1
  obtain ⟨t',x'⟩:=v
  simp only at e;subst e
  have:=Qg h1
  simp only [ff];rw [MQ (u::r) h2,<- this]
 | [],_::_,a,h=>by simp [nh] at h
 | [t],[],a,h=>by simp [nh] at h
 | [t],_::_::_,a,h=>by simp [nh] at h
 | _::_::_,[],a,h=>by simp [nh] at h
def IC (s:S) (b:Nat):List Nat:=(List.range s.H.length).filter fun z=>match s.br z with | some p=>p.1==b | none=>false
theorem J8 {s:S} (hs:aD s) {b z:Nat}:z∈IC s b↔∃ i,s.br z=some (b,i):=by
 unfold IC
 rw [List.mem_filter,List.mem_range]
 constructor
 .rintro ⟨_,h⟩
  split at h
  .rename_i p hp
   have:p.1=b:=by simpa using h
   exact ⟨p.2,by rw [hp,<- this]⟩
  .simp at h
 .rintro ⟨i,h⟩
  exact ⟨(hs.kl z _ h).1,by rw [h];simp⟩
theorem Qa3 (s:S) (b:Nat):(IC s b).Nodup:=List.Pairwise.filter _ List.nodup_range
theorem Qil {s:S} (hs:aD s) {u:Ty} {p:PV} {w:Value} (hr:cm s p w) {x:List u.T} {L':LS} (h:rA u p s.L=some (x,L')) :
  ∃ s' ids,s'.L=L'/\s'.H=s.H/\s'.μ=s.μ/\aj s s'/\aD s'/\oO s'.N s'.H s.ai u x w ids/\(∀ z,s'.aF z↔s.aF z\/z∈ids)/\(∀ z∈ids,¬ s.aF z)/\ids.Nodup/\(∀ z,bI s' z↔bI s z):=by
 unfold rA at h
 split at h
 .simp at h;obtain ⟨rfl,rfl⟩:=h
  obtain rfl:w=_:=hr
  exact ⟨s,[],rfl,rfl,rfl,aj.refl s,hs,.inl ⟨rfl,rfl,rfl⟩,by simp,by simp,by simp,fun _=>Iff.rfl⟩
 .rename_i b off no
  split at h
  .rename_i aB wt xs hb
   split at h
   .simp at h
   rename_i NH
   replace h:=ob h;obtain ⟨y,h1,h⟩:=h
   simp at h;obtain ⟨rfl,rfl⟩:=h
   have e0:=Qq h1
   injection e0 with e0;subst e0
   have:=Qg h1;subst this
   have hr:cm s (.a_ b off no) w:=hr
   obtain ⟨bE,hr⟩:=hr
   obtain ⟨s1,l1,g1,u1,k1,t1,hl,ho⟩:=hs.kill hb rfl false
   have rB:s1.H=s.H:=g1
   have XK:∀ t,wt≠.os t:=fun t e=>by subst e;simp [Ty.iL] at NH
   refine ⟨s1,(match s.μ b with | none=>[] | some m=>[m.z]),l1,rB,u1,k1,t1,?_,?_,?_,?_,ho⟩
   .cases hm:s.μ b with
    | none =>
     rw [hm] at hr;obtain ⟨rfl,_,rfl⟩:=hr
     have hx:=EX hs hb hm;subst hx
     have:cut ([]:List wt.T) 0 no=[]:=by cases no<;>simp [cut]
     exact .inl ⟨rfl,this,rfl⟩
    | some m =>
     rw [hm] at hr;obtain ⟨g0,rfl⟩:=hr
     obtain ⟨a1,a2,k,a3,a4,a5,a6,a7⟩:=mO hs hb hm
     have Dh:cut xs off no=(xs.drop off).take (no.getD (m.n - off)):=by
      cases no with
      | none=>simp only [cut,Option.getD_none];rw [Zs (by simp;omega)]
      | some l=>rfl
     have hle:off+no.getD (m.n - off)<=xs.length:=by omega
     have hlen:(cut xs off no).length=no.getD (m.n - off):=by rw [Dh];simp;omega
     have h1:=RL.sub a4 a5 hle
     rw [<- Dh] at h1
     refine .inr ⟨m.z,m.sh+off*wt.size,k,[],rfl,by simp,?_,by rw [rB];exact a3,(a6 rfl).1,(a6 rfl).2,?_,?_,gY.C4 XK⟩
     .rw [hlen,a1]
     .rw [hlen];exact (AI hs hb hm a3).sub (by rw [<- Nat.add_mul];exact Zk _ hle)
     .rw [hlen];exact h1.frame (fun z hz hl=>⟨k1.N hl hz,k1.fr z hl hz.1⟩)
   .intro z;rw [hl z]
    cases s.μ b with
    | none=>simp
    | some m=>simp [eq_comm]
   .cases hm:s.μ b with
    | none=>simp
    | some m=>intro z hz;simp at hz;subst hz;exact hs.lm b _ m hb hm
   .cases s.μ b<;>simp
  .rename_i aB wt xs hb
   split at h
   .replace h:=ob h;obtain ⟨y,h1,h⟩:=h
    simp at h;obtain ⟨rfl,rfl⟩:=h
    have e0:=Qq h1
    injection e0 with e0;subst e0
    have:=Qg h1;subst this
    have hr:cm s (.a_ b 0 none) w:=hr
    obtain ⟨bE,hr⟩:=hr
    obtain ⟨_,cH,cx⟩:=mS hs hb
    rcases cx with ⟨hm,hx⟩ | ⟨m,k,hm,a1,a2,a3,a4,a5,a6,a7⟩
    .rw [hm] at hr;obtain ⟨_,_,rfl⟩:=hr
     obtain ⟨s1,l1,g1,u1,k1,t1,hl,ho⟩:=hs.kill hb rfl false
     have rB:s1.H=s.H:=g1
     refine ⟨s1,[],l1,rB,u1,k1,t1,.inl ⟨rfl,hx,rfl⟩,fun z=>?_,by simp,by simp,ho⟩
     rw [hl z,hm];simp
    .obtain ⟨s1,l1,g1,u1,k1,t1,hl,ho,_⟩:=hs.E7 hb rfl false
     have rB:s1.H=s.H:=g1
     have ng:∀ z∈IC s b,¬ s.aF z:=fun z hz=>by
      obtain ⟨i,hi⟩:=(J8 hs).1 hz;exact (hs.kl z _ hi).2.2.1
     have R3:∀ z∈IC s b,∃ k,ah s1.H z=some k:=fun z hz=>by
      obtain ⟨i,hi⟩:=(J8 hs).1 hz;rw [rB];exact hs.ka z _ hi
     rw [hm] at hr;obtain ⟨_,rfl⟩:=hr
     refine ⟨s1,m.z::IC s b,l1,rB,u1,k1,t1,?_,fun z=>?_,fun z hz=>?_,?_,ho⟩
     .refine .inr ⟨m.z,m.sh,k,IC s b,rfl,?_,?_,by rw [rB];exact a3,a5,a6,by rw [show (Ty.os wt).size=1 from rfl,Nat.mul_one];exact a4,?_,cH,Qa3 s b,R3,(fun z=>match s.br z with | some p=>if p.1=b then some p.2 else none | none=>none),fun z i hz=>?_,fun i hi=>?_⟩
      .intro hz
       obtain ⟨i,hi⟩:=(J8 hs).1 hz
       exact hs.dS hi hb hm rfl
      .simp [a1,a2,Ty.size]
      .rw [show (Ty.os wt).size=1 from rfl,Nat.mul_one]
       refine ⟨by rw [List.length_take,List.length_drop,show (Ty.os wt).size=1 from rfl];have:=a4.1;omega,fun i hi=>?_⟩
       obtain ⟨v,q1,q2⟩:=a7 i hi (by simp)
       refine ⟨v,?_,?_⟩
       .rw [show (Ty.os wt).size=1 from rfl,Nat.mul_one]
        apply List.ext_getElem?;intro q
        rw [tc]
        by_cases hq:q < 1
        .rw [if_pos hq,show q=0 by omega,List.getElem?_take_of_lt (by omega),Zp];simpa using q1
        .rw [if_neg hq,List.getElem?_eq_none (by simp;omega)]
       .rcases q2 with ⟨_,rfl⟩ | ⟨_,_,_,rfl,_⟩<;>simp [az,Qa]
      .replace hz:(match s.br z with | some p=>if p.1=b then some p.2 else none | none=>none)=some i:=hz
       split at hz
       .rename_i p hp
        split at hz
        .rename_i e;exact (J8 hs).2 ⟨p.2,by rw [hp,<- e]⟩
        .simp at hz
       .simp at hz
      .obtain ⟨v,q1,q2⟩:=a7 i hi (by simp)
       refine ⟨v,?_,q2.mono cH (fun z hz=>⟨by show (match s.br z with | some p=>if p.1=b then some p.2 else none | none=>none)=some i;rw [hz];simp,by rw [rB]⟩)⟩
       rw [show (Ty.os wt).size=1 from rfl,Nat.mul_one,List.getElem?_take_of_lt hi,Zp];exact q1
     .rw [hl z,List.mem_cons,J8 hs,hm]
      simp [eq_comm]
     .rcases Z2 hz with rfl | hz
      .exact hs.lm b _ m hb hm
      .exact ng z hz
     .refine List.nodup_cons.2 ⟨fun hz=>?_,Qa3 s b⟩
      obtain ⟨i,hi⟩:=(J8 hs).1 hz
      exact hs.dS hi hb hm rfl
   .simp at h
  .simp at h
 .rename_i b i aB wt x0
  split at h
  .rename_i v' t xs hb
   split at h
   .rename_i hv
    have hv:=Z7 hv
    replace h:=ob h;obtain ⟨y,h1,h⟩:=h
    simp at h;obtain ⟨rfl,rfl⟩:=h
    have e0:=Qq h1
    injection e0 with e0;subst e0
    have:=Qg h1;subst this
    obtain ⟨bE,_,hval⟩:cm s (.rw b i aB wt x0) w:=hr
    obtain ⟨cH,cx,_⟩:=(hval _ hb).2 hv
    have eJ:∀ t,wt≠.os t:=fun t e=>by subst e;simp [Ty.flat] at cH
    rcases cx with ⟨rfl,rfl⟩ | ⟨z,oo,k,rfl,q1,q2,q3,q4,q5,q6⟩
    .obtain ⟨s1,l1,g1,u1,k1,t1,hl,ho⟩:=hs.ig (i:=i) hb none (fun z h=>by simp at h)
     refine ⟨s1,[],l1,g1,u1,k1,t1,.inl ⟨rfl,rfl,rfl⟩,fun z=>?_,by simp,by simp,ho⟩
     rw [hl z];simp
    .obtain ⟨s1,l1,g1,u1,k1,t1,hl,ho⟩:=hs.ig (i:=i) hb (some z) (fun y h=>by injection h with h;subst h;exact q1)
     refine ⟨s1,[z],l1,g1,u1,k1,t1,.inr ⟨z,oo,k,[],rfl,by simp,rfl,by rw [g1];exact q2,q3,q4,q5,?_,gY.C4 eJ⟩,fun y=>?_,fun y hy=>?_,by simp,ho⟩
     .refine ⟨by rw [List.length_take,List.length_drop];have:=q5.1;omega,fun j hj=>?_⟩
      have hm:=jT (k:=wt.size) hj
      have e2:cI ((k.cells.drop oo).take (x0.length*wt.size)) (j*wt.size) wt.size=(k.cells.drop (oo+j*wt.size)).take wt.size:=by
       unfold cI;rw [List.drop_take,List.take_take,Nat.min_eq_left (by omega),List.drop_drop]
      rw [e2];exact ax.flat wt cH (q6 j hj)
     .rw [hl y];simp [eq_comm]
     .simp at hy;subst hy;exact (hs.kl y _ q1).2.2.1
   .simp at h
  .simp at h
 .simp at h
theorem P3 {s:S} (hs:aD s) {t:Ty} {p:PV} {w:Value} (hr:ER s p w) {x:TV} {L':LS} (h:vG true t p s.L=some (x,L')) :
  x.1=t/\∃ s' ids,s'.L=L'/\s'.H=s.H/\s'.μ=s.μ/\aj s s'/\aD s'/\HR s'.N s'.H s.ai .os x w ids/\(∀ z,s'.aF z↔s.aF z\/z∈ids)/\(∀ z∈ids,¬ s.aF z)/\ids.Nodup/\(∀ z,bI s' z↔bI s z):=by
 unfold vG at h
 split at h
 .rename_i e;simp at e
 .split at h
  .rename_i u
   obtain ⟨⟨y,L1⟩,h1,h⟩:=ob h
   simp at h;obtain ⟨rfl,rfl⟩:=h
   have dR:cm s p w:=by
    have k_:=h1
    unfold rA at k_
    split at k_
    .exact hr
    .exact hr
    .exact hr
    .simp at k_
   obtain ⟨s',ids,a1,a2,a3,a4,a5,a6,a7⟩:=Qil hs dR h1
   exact ⟨rfl,s',ids,a1,a2,a3,a4,a5,⟨u,y,rfl,a6⟩,a7⟩
  .simp at h
theorem Qim {s:S} {t:Ty} {ps:List PV} {cs:List Value} {v:Value} (hv:Ij t cs v) (h:cq s ps cs):AR s (kT t ps) v:=by
 have leaf:∀ w,cs=[w]->∃ p,ps=[p]/\cm s p w:=by
  rintro w rfl
  match ps,h with
  | [p],h=>exact ⟨p,rfl,h.1⟩
 cases t with
 | pair a b=>obtain rfl:=hv;exact ⟨cs,rfl,h⟩
 | int k=>obtain ⟨p,rfl,hp⟩:=leaf v hv;exact AR.of hp
 | bool=>obtain ⟨p,rfl,hp⟩:=leaf v hv;exact AR.of hp
 | str=>obtain ⟨p,rfl,hp⟩:=leaf v hv;exact AR.of hp
 | sl t=>obtain ⟨p,rfl,hp⟩:=leaf v hv;exact AR.of hp
 | os t=>obtain ⟨p,rfl,hp⟩:=leaf v hv;exact AR.of hp
theorem Qqy {u:Ty} {v:PV} {L L':LS} {x:List u.T} (h:rA u v L=some (x,L')):vG true (.sl u) v L=some (⟨.sl u,x⟩,L'):=by
 unfold vG;simp only [h,Q1]
theorem H_:∀ (t:Ty) {s:S} {cs:List PV} {vs:List Value} {x:t.T} {L':LS},aD s->cq s cs vs->ID t cs s.L=some (x,L') ->
  ∃ s' ids,s'.L=L'/\s'.H=s.H/\s'.μ=s.μ/\aj s s'/\aD s'/\dA s'.N s'.H s.ai t x vs ids/\(∀ z,s'.aF z↔s.aF z\/z∈ids)/\(∀ z∈ids,¬ s.aF z)/\ids.Nodup/\(∀ z,bI s' z->bI s z)
 | .int k,s,cs,vs,x,L',hs,hr,h=>by
  obtain ⟨s',a1,a2,a3,a4,a5,a6,a7,a8⟩:=Df (.int k) hs hr h
  exact ⟨s',[],a1,a2,a3,a4,a5,⟨rfl,a6⟩,by simp [a8],by simp,by simp,a7⟩
 | .bool,s,cs,vs,x,L',hs,hr,h=>by
  obtain ⟨s',a1,a2,a3,a4,a5,a6,a7,a8⟩:=Df .bool hs hr h
  exact ⟨s',[],a1,a2,a3,a4,a5,⟨rfl,a6⟩,by simp [a8],by simp,by simp,a7⟩
 | .str,s,cs,vs,x,L',hs,hr,h=>by
  obtain ⟨s',a1,a2,a3,a4,a5,a6,a7,a8⟩:=Df .str hs hr h
  exact ⟨s',[],a1,a2,a3,a4,a5,⟨rfl,a6⟩,by simp [a8],by simp,by simp,a7⟩
 | .sl t,s,cs,vs,x,L',hs,hr,h=>by
  obtain ⟨s',a1,a2,a3,a4,a5,a6,a7,a8⟩:=Df (.sl t) hs hr h
  exact ⟨s',[],a1,a2,a3,a4,a5,⟨rfl,a6⟩,by simp [a8],by simp,by simp,a7⟩
 | .os u,s,cs,vs,x,L',hs,hr,h=>by
  unfold ID at h;split at h
  .rename_i p
   obtain ⟨v,rfl,hv⟩:=hr.one
   obtain ⟨_,s1,ids,l1,g1,u1,k1,t1,hh,hl,oP,hnd,ho⟩:=P3 hs (ER.fh hv) (Qqy h)
   obtain ⟨u',x',e,hh⟩:=hh
   injection e with e1 e2
   injection e1 with e1;subst e1
   replace e2:=eq_of_heq e2;subst e2
   exact ⟨s1,ids,l1,g1,u1,k1,t1,⟨v,rfl,hh⟩,hl,oP,hnd,fun z hz=>(ho z).1 hz⟩
  .simp at h
 | .pair a b,s,cs,vs,x,L',hs,hr,h=>by
  unfold ID at h
  obtain ⟨r,h1,h⟩:=ob h
  obtain ⟨q,h2,h⟩:=ob h
  simp at h;obtain ⟨e1,e2⟩:=h
  obtain ⟨s1,i,l1,g1,u1,k1,t1,r1,m1,n1,d1,o1⟩:=H_ a (x:=r.1) (L':=r.2) hs (Qw.take a.size hr) (by rw [h1])
  rw [<- l1] at h2
  obtain ⟨s2,j,l2,g2,u2,k2,t2,r2,m2,n2,d2,o2⟩:=H_ b (x:=q.1) (L':=q.2) t1 (Qw.drop a.size (k1.cq hr)) (by rw [h2])
  subst e1 e2
  have aI:s1.ai=s.ai:=k1.ai
  refine ⟨s2,i++j,l2,g2.trans g1,u2.trans u1,k1.trans k2,t2,⟨i,j,rfl,dA.frame (fun z hz au=>⟨k2.N au hz,by rw [g2]⟩) a r1 (fun z _=>by rw [g2]),by rw [<- aI];exact r2⟩,fun z=>?_,fun z hz=>?_,?_,fun z hz=>o1 z (o2 z hz)⟩
  .rw [m2,m1,Zh];constructor
   .rintro ((h | h) | h)<;>simp [h]
   .rintro (h | h | h)<;>simp [h]
  .rcases List.mem_append.1 hz with hz | hz
   .exact n1 z hz
   .exact fun h=>n2 z hz ((m1 z).2 (.inl h))
  .rw [Zn]
   exact ⟨d1,d2,fun p hp q hq e=>by subst e;exact n2 p hq ((m1 p).2 (.inr hp))⟩
theorem Qin:∀ {u:Ty} (x:List u.T),(∀ t,u=.os t->t.flat=false)->E_ u x=.arr u x
 | .os t,x,h=>by simp only [E_,h t rfl]
 | .int _,_,_=>rfl
 | .bool,_,_=>rfl
 | .str,_,_=>rfl
 | .sl _,_,_=>rfl
 | .pair _ _,_,_=>rfl
theorem MX {s:S} (hs:aD s) {u:Ty} {x:List u.T} {w:Value} {ids:List Nat} (ho:oO s.N s.H s.ai u x w ids) (hl:∀ z∈ids,s.aF z) :
  ∃ s',s'.L=Qv s.L (E_ u x)/\s'.H=s.H/\aj s s'/\aD s'/\cm s' (.a_ s.L.bl.length 0 none) w/\(∀ z,s.N z->s'.N z)/\(∀ z,s.aF z->z∉ids->s'.aF z):=by
 by_cases hu:∃ t,u=.os t/\t.flat=true
 .obtain ⟨t,rfl,hf⟩:=hu
  have Xh:E_ (.os t) x=.rows t x none:=by simp only [E_,hf]
  rw [Xh]
  rcases ho with ⟨rfl,rfl,rfl⟩ | ⟨z,oo,k,ks,rfl,q0,rfl,q1,q2,q3,q4,q5,q6,q7,q8,Kf,q9,q10⟩
  .obtain ⟨s1,e1,e2,e3,k1,t1,l1,_,n1⟩:=hs.AZ t hf
   refine ⟨s1,e1,e2,k1,t1,⟨by rw [e1,Ql];omega,?_⟩,n1,fun z hz _=>by rw [l1];exact hz⟩
   rw [e3];simp
  .have hz:s.aF z:=hl z (by simp)
   rw [show (Ty.os t).size=1 from rfl,Nat.mul_one] at q4 q5 q10
   obtain ⟨s1,e1,e2,e3,k1,t1,l1,o1⟩:=hs.A0 (.rows t x none) ⟨z,oo,1,x.length⟩ hz Kf (fun y i e=>⟨hl y (by simp [q9 y i e]),fun h=>q0 (by subst h;exact q9 _ i e),q8 y (q9 y i e)⟩) (fun s' hk hm hH mT=>by
    unfold BR;simp only [hm]
    refine ⟨trivial,hf,trivial,trivial,k,by rw [hH];exact q1,q4,q2,by rw [hk.ai];exact q3,fun i hi _=>?_⟩
    obtain ⟨v,p1,p2⟩:=q10 i hi
    refine ⟨v,?_,?_⟩
    .rw [List.getElem?_take_of_lt hi,Zp] at p1;exact p1
    .rw [hk.ai];exact p2.mono hf (fun y hy=>⟨mT y i hy,by rw [hH]⟩))
   refine ⟨s1,e1,e2,k1,t1,⟨by rw [e1,Ql];omega,?_⟩,fun z' aX=>⟨fun h=>aX.1 ((o1 z').1 h),by rw [k1.dj];exact aX.2⟩,fun z' aX hn=>(l1 z').2 ⟨aX,fun e=>hn (by simp [e]),?_⟩⟩
   .rw [e3];simp [Ty.size]
   .cases e:Kf z' with
    | none=>rfl
    | some i=>exact absurd (List.mem_cons_of_mem _ (q9 z' i e)) hn
 .have eJ:∀ t,u=.os t->t.flat=false:=fun t e=>by
   cases h:t.flat with
   | false=>rfl
   | true=>exact absurd ⟨t,e,h⟩ hu
  rw [Qin x eJ]
  rcases ho with ⟨rfl,rfl,rfl⟩ | ⟨z,oo,k,ks,rfl,q0,rfl,q1,q2,q3,q4,q5,q6⟩
  .obtain ⟨s1,e1,e2,e3,k1,t1,l1,n1⟩:=hs.og u
   refine ⟨s1,e1,e2,k1,t1,⟨by rw [e1,Ql];omega,?_⟩,n1,fun z hz _=>by rw [l1];exact hz⟩
   rw [e3];simp
  .have hz:s.aF z:=hl z (by simp)
   obtain ⟨s1,e1,e2,e3,k1,t1,l1,o1⟩:=hs.AE (.arr u x) ⟨z,oo,u.size,x.length⟩ hz (fun s' hk hm hH P2=>by
    unfold BR;simp only [hm]
    refine ⟨trivial,trivial,k,by rw [hH];exact q1,q4,fun i hi=>?_,fun _=>⟨q2,by rw [hk.ai];exact q3⟩,fun e=>absurd e (by decide)⟩
    have:=q5.2 i hi
    have oh:=jT (k:=u.size) hi
    unfold cI at this;rw [List.drop_take,List.take_take,Nat.min_eq_left (by omega),List.drop_drop] at this
    rw [hH];exact ax.mono (fun z hz=>(P2 z).2 hz) _ this)
   refine ⟨s1,e1,e2,k1,t1,⟨by rw [e1,Ql];omega,?_⟩,fun z' aX=>⟨fun h=>aX.1 ((o1 z').1 h),by rw [k1.dj];exact aX.2⟩,fun z' aX hn=>(l1 z').2 ⟨aX,fun e=>hn (by simp [e])⟩⟩
   rw [e3];simp
theorem XL:∀ (t:Ty) {x:t.T} {L:LS},L.bl.length<=(nv t x L).2.bl.length/\∀ b,b < L.bl.length->Qi (nv t x L).2 b=Qi L b
 | .int k,_,L=>⟨Zd _,fun _ _=>rfl⟩
 | .bool,_,L=>⟨Zd _,fun _ _=>rfl⟩
 | .str,_,L=>⟨Zd _,fun _ _=>rfl⟩
 | .sl t,_,L=>⟨Zd _,fun _ _=>rfl⟩
 | .os u,x,L=>by
  simp only [nv]
  exact ⟨by rw [Ql];omega,fun b hb=>Qz hb⟩
 | .pair a c,x,L=>by
  simp only [nv]
  obtain ⟨a1,a2⟩:=XL a (x:=x.1) (L:=L)
  obtain ⟨b1,b2⟩:=XL c (x:=x.2) (L:=(nv a x.1 L).2)
  exact ⟨Nat.le_trans a1 b1,fun b hb=>by rw [b2 b (Zm hb a1),a2 b hb]⟩
theorem NI:∀ (t:Ty) {s:S} {x:t.T} {vs:List Value} {ids:List Nat},aD s->dA s.N s.H s.ai t x vs ids->(∀ z∈ids,s.aF z)->ids.Nodup ->
  ∃ s',s'.L=(nv t x s.L).2/\s'.H=s.H/\aj s s'/\aD s'/\cq s' (nv t x s.L).1 vs/\(∀ z,s.N z->s'.N z)/\(∀ z,s.aF z->z∉ids->s'.aF z)
 | .int k,s,x,vs,ids,hs,hr,_,_=>⟨s,rfl,rfl,aj.refl s,hs,AF (.int k) (ax.mono (fun z hz=>S.gm hz) _ hr.2),fun _ h=>h,fun _ h _=>h⟩
 | .bool,s,x,vs,ids,hs,hr,_,_=>⟨s,rfl,rfl,aj.refl s,hs,AF .bool (ax.mono (fun z hz=>S.gm hz) _ hr.2),fun _ h=>h,fun _ h _=>h⟩
 | .str,s,x,vs,ids,hs,hr,_,_=>⟨s,rfl,rfl,aj.refl s,hs,AF .str (ax.mono (fun z hz=>S.gm hz) _ hr.2),fun _ h=>h,fun _ h _=>h⟩
 | .sl t,s,x,vs,ids,hs,hr,_,_=>⟨s,rfl,rfl,aj.refl s,hs,AF (.sl t) (ax.mono (fun z hz=>S.gm hz) _ hr.2),fun _ h=>h,fun _ h _=>h⟩
 | .os u,s,x,vs,ids,hs,hr,hl,hn=>by
  obtain ⟨w,rfl,ho⟩:=hr
  obtain ⟨s1,a1,a2,a3,a4,a5,a6,a7⟩:=MX hs ho hl
  exact ⟨s1,a1,a2,a3,a4,⟨a5,trivial⟩,a6,a7⟩
 | .pair a b,s,x,vs,ids,hs,hr,hl,hn=>by
  obtain ⟨i,j,rfl,r1,r2⟩:=hr
  rw [Zn] at hn
  obtain ⟨n1,n2,n3⟩:=hn
  obtain ⟨s1,a1,a2,a3,a4,a5,a6,a7⟩:=NI a hs r1 (fun z hz=>hl z (by simp [hz])) n1
  obtain ⟨s2,b1,b2,b3,b4,b5,b6,b7⟩:=NI b a4 (dA.frame (H:=s.H) (G:=s1.H) (M:=s1.N) (fun z hz _=>⟨a6 z hz,by rw [a2]⟩) b (by rw [a3.ai];exact r2) (fun z _=>by rw [a2])) (fun z hz=>a7 z (hl z (by simp [hz])) (fun h=>n3 z h z hz rfl)) n2
  simp only [nv]
  rw [a1] at b1 b5
  refine ⟨s2,b1,b2.trans a2,a3.trans b3,b4,?_,fun z hz=>b6 z (a6 z hz),fun z hz hm=>b7 z (a7 z hz (fun h=>hm (by simp [h]))) (fun h=>hm (by simp [h]))⟩
  have:=Qw.append (b3.cq a5) b5
  rw [List.take_append_drop] at this
  exact this
theorem WB {s:S} {t:Ty} {p:PV} {w:Value} (hr:ER s p w) (ho:okV p=true) (hs:NJ t p=true):Ij t w.cells.toList w:=by
 have leaf:∀ v,cm s p v->v.cells.toList=[v]:=by
  intro v hv
  have:=hv.cell
  cases v<;>first | rfl | simp [az] at this
 cases p with
 | kQ cs=>simp [okV] at ho
 | fn f a b=>simp [okV] at ho
 | undef=>simp [okV] at ho
 | agg cs =>
  obtain ⟨vs,rfl,_⟩:=hr
  cases t<;>first | rfl | simp [NJ] at hs
 | _ =>
  have:=leaf w hr
  cases t<;>first | exact this | simp [NJ] at hs
def TM (s:S) (ai:Nat):List (PM×Ty)->List PV->List Value->List (Option TV)->List (List Nat)->Prop
 | [],[],[],[],[]=>True
 | (m,t)::ps,p::args,w::ws,o::os,ids::an=>(match m with
   | .ro=>o=none/\ids=[]
   | .cl g=>ids=[]/\w=.func (.func g) ⟨[]⟩ ⟨[]⟩/\∃ x,o=some x
   | .mv=>∃ x,o=some x/\x.1=t/\HR s.N s.H ai .os x w ids/\∀ z∈ids,s.aF z
   | .io=>∃ x b u,o=some x/\x.1=t/\t=.sl u/\p=.a_ b 0 none/\HR s.N s.H ai .os x w ids/\ids=(match s.μ b with | none=>[] | some m=>[m.z])
   | .ps=>∃ x b m j,o=some x/\x.1=t/\p=.ptr b 0/\HR s.N s.H ai .cb x w ids/\s.μ b=some m/\ids=m.z::j/\∀ z∈j,s.aF z)/\TM s ai ps args ws os an
 | _,_,_,_,_=>False
theorem TM.keep {s s':S} {ai:Nat} (hk:aj s s') (hH:s'.H=s.H) (hu:s'.μ=s.μ) (hl:∀ z,s.aF z->s'.aF z):∀ {ps:List (PM×Ty)} {args:List PV} {ws:List Value} {os:List (Option TV)} {an:List (List Nat)},TM s ai ps args ws os an->TM s' ai ps args ws os an
 | [],[],[],[],[],_=>trivial
 | (m,t)::ps,p::args,w::ws,o::os,ids::an,h=>by
  have fr:∀ {kd:Kd} {x:TV},HR s.N s.H ai kd x w ids->HR s'.N s'.H ai kd x w ids:=fun h=>h.frame (fun z hz au=>⟨hk.N au hz,hk.fr z au hz.1⟩) (fun z _=>by rw [hH])
  refine ⟨?_,TM.keep hk hH hu hl h.2⟩
  have h1:=h.1
  cases m with
  | ro=>exact h1
  | cl g=>exact h1
  | mv=>obtain ⟨x,a,b,c,d⟩:=h1;exact ⟨x,a,b,fr c,fun z hz=>hl z (d z hz)⟩
  | io=>obtain ⟨x,b,u,a1,a2,a3,a4,a5,a6⟩:=h1;exact ⟨x,b,u,a1,a2,a3,a4,fr a5,by rw [hu];exact a6⟩
  | ps=>obtain ⟨x,b,m,j,a1,a2,a3,a4,a5,a6,a7⟩:=h1;exact ⟨x,b,m,j,a1,a2,a3,fr a4,by rw [hu];exact a5,a6,fun z hz=>hl z (a7 z hz)⟩
def kU (s:S):List (PM×Ty)->List PV->Prop
 | [],_=>True
 | (.io,_)::ps,.a_ b _ _::args=>(∃ B,Qi s.L b=some B/\B.rw=true)/\kU s ps args
 | (.ps,_)::ps,.ptr b _::args=>(∃ B,Qi s.L b=some B/\B.rw=true)/\kU s ps args
 | _::ps,_::args=>kU s ps args
 | _::_,[]=>True
theorem CY {l:List Nat} {b:Nat} (h:l.contains b=false):b∉l:=by
 intro hm;rw [List.contains_iff_mem.2 hm] at h;simp at h
theorem J9:∀ {ps:List (PM×Ty)} {args:List PV} {ws:List Value} {aQ dU:List Nat} {s:S} {os:List (Option TV)} {L1:LS},aD s->Qw (ER s) args ws->ko ps args aQ s.L=some (os,dU,L1) ->
  ∃ s1 an,s1.L=L1/\s1.H=s.H/\s1.μ=s.μ/\aj s s1/\aD s1/\(∀ z,bI s1 z->bI s z)/\(∀ z,s.aF z->s1.aF z)/\TM s1 s.ai ps args ws os an/\(∀ b,b∈aQ->b∈dU) /\
   ∀ s2,aj s1 s2->(∀ z,s1.aF z->s2.aF z)->aD s2->s2.μ=s.μ->kU s2 ps args->an.flatten.Nodup/\∀ z∈an.flatten,(s2.aF z/\¬ s.aF z)\/∃ b B m,b∉aQ/\b∈dU/\Qi s2.L b=some B/\B.rw=true/\s2.μ b=some m/\m.z=z
 | [],[],[],aQ,dU,s,os,L1,hs,_,h=>by
  simp [ko] at h;obtain ⟨rfl,rfl,rfl⟩:=h
  exact ⟨s,[],rfl,rfl,rfl,aj.refl s,hs,fun _ h=>h,fun _ h=>h,trivial,fun _ h=>h,fun s2 _ _ _ _ _=>by simp⟩
 | (m,t)::ps,p::args,w::ws,aQ,dU,s,os,L1,hs,hr,h=>by
  obtain ⟨dY,dR⟩:=hr
  simp only [ko] at h
  have rC:∀ (hm:m=.mv),(Q1 (vG true t p s.L) fun x=>Q1 (ko ps args aQ x.2) fun r=>some (some x.1::r.1,r.2.1,r.2.2))=some (os,dU,L1)->∃ s1 an,s1.L=L1/\s1.H=s.H/\s1.μ=s.μ/\aj s s1/\aD s1/\(∀ z,bI s1 z->bI s z)/\(∀ z,s.aF z->s1.aF z)/\TM s1 s.ai ((m,t)::ps) (p::args) (w::ws) os an/\(∀ b,b∈aQ->b∈dU) /\
   ∀ s2,aj s1 s2->(∀ z,s1.aF z->s2.aF z)->aD s2->s2.μ=s.μ->kU s2 ((m,t)::ps) (p::args)->an.flatten.Nodup/\∀ z∈an.flatten,(s2.aF z/\¬ s.aF z)\/∃ b B m,b∉aQ/\b∈dU/\Qi s2.L b=some B/\B.rw=true/\s2.μ b=some m/\m.z=z:=by
   clear h
   intro hm h
   subst hm
   replace h:=ob h;obtain ⟨⟨x,L2⟩,h1,h⟩:=h
   replace h:=ob h;obtain ⟨⟨Dk,A3,L3⟩,h2,h⟩:=h
   simp at h;obtain ⟨rfl,rfl,rfl⟩:=h
   obtain ⟨hx,s1,ids,l1,g1,u1,k1,t1,hh,hl,oP,hnd,ho⟩:=P3 hs dY h1
   simp only at h2
   rw [<- l1] at h2
   obtain ⟨s2,an,l2,g2,u2,k2,t2,o2,m2,A4,jE,Dl⟩:=J9 t1 (Qw.mono (fun _ _=>k1.ER) dR) h2
   have aI:s1.ai=s.ai:=k1.ai
   refine ⟨s2,ids::an,l2,g2.trans g1,u2.trans u1,k1.trans k2,t2,fun z hz=>(ho z).1 (o2 z hz),fun z hz=>m2 z ((hl z).2 (.inl hz)),⟨⟨x,rfl,hx,hh.frame (fun z hz au=>⟨k2.N au hz,k2.fr z au hz.1⟩) (fun z _=>by rw [g2]),fun z hz=>m2 z ((hl z).2 (.inr hz))⟩,by rw [<- aI];exact A4⟩,jE,?_⟩
   intro s3 k3 m3 t3 u3 iw
   obtain ⟨n1,n2⟩:=Dl s3 k3 m3 t3 (u3.trans u1.symm) iw
   refine ⟨?_,fun z hz=>?_⟩
   .rw [Ze,Zn]
    refine ⟨hnd,n1,fun a ha b hb e=>?_⟩
    subst e
    have DW:s1.aF a:=(hl a).2 (.inr ha)
    rcases n2 a hb with ⟨_,h5⟩ | ⟨b',B,mm,_,_,h6,h7,h8,rfl⟩
    .exact h5 DW
    .exact t3.lm b' B mm h6 h8 (m3 _ (m2 _ DW))
   .rw [Ze,Zh] at hz
    rcases hz with hz | hz
    .exact .inl ⟨m3 z (m2 z ((hl z).2 (.inr hz))),oP z hz⟩
    .rcases n2 z hz with ⟨h4,h5⟩ | h6
     .exact .inl ⟨h4,fun h=>h5 ((hl z).2 (.inl h))⟩
     .exact .inr h6
  cases m with
  | ro =>
   simp only at h
   replace h:=ob h;obtain ⟨⟨Dk,A3,L3⟩,h2,h⟩:=h
   simp at h;obtain ⟨rfl,rfl,rfl⟩:=h
   obtain ⟨s2,an,l2,g2,u2,k2,t2,o2,m2,A4,jE,Dl⟩:=J9 hs dR h2
   refine ⟨s2,[]::an,l2,g2,u2,k2,t2,o2,m2,⟨⟨rfl,rfl⟩,A4⟩,jE,fun s3 k3 m3 t3 u3 iw=>?_⟩
   simpa using Dl s3 k3 m3 t3 u3 iw
  | cl g =>
   simp only at h
   split at h
   .rename_i f
    split at h
    .rename_i XM
     have XM:=Z7 XM
     subst XM
     replace h:=ob h;obtain ⟨⟨Dk,A3,L3⟩,h2,h⟩:=h
     simp at h;obtain ⟨rfl,rfl,rfl⟩:=h
     obtain ⟨s2,an,l2,g2,u2,k2,t2,o2,m2,A4,jE,Dl⟩:=J9 hs dR h2
     have hw:w=.func (.func f) ⟨[]⟩ ⟨[]⟩:=by
      obtain ⟨a',b',rfl,q1,q2⟩:=dY
      cases a' with
      | nil=>cases b' with
       | nil=>rfl
       | cons _ _=>exact absurd q2 id
      | cons _ _=>exact absurd q1 id
     refine ⟨s2,[]::an,l2,g2,u2,k2,t2,o2,m2,⟨⟨rfl,hw,_,rfl⟩,A4⟩,jE,fun s3 k3 m3 t3 u3 iw=>?_⟩
     have iw:kU s3 ps args:=iw
     simpa using Dl s3 k3 m3 t3 u3 iw
    .simp at h
   .simp at h
  | mv =>
   simp only at h
   split at h
   .split at h
    .simp at h
    .exact rC rfl h
   .split at h
    .simp at h
    .exact rC rfl h
   .exact rC rfl h
  | io =>
   simp only at h
   split at h
   .rename_i u b
    split at h
    .simp at h
    .rename_i rD
     have rD:=CY rD
     replace h:=ob h;obtain ⟨x,h1,h⟩:=h
     replace h:=ob h;obtain ⟨⟨Dk,A3,L3⟩,h2,h⟩:=h
     simp at h;obtain ⟨rfl,rfl,rfl⟩:=h
     obtain ⟨s2,an,l2,g2,u2,k2,t2,o2,m2,A4,jE,Dl⟩:=J9 hs dR h2
     unfold JZ at h1
     split at h1
     .rename_i aB wt xs hb
      split at h1
      .simp at h1
      rename_i XN
      have eJ:∀ t,wt≠.os t:=fun t e=>by subst e;simp [Ty.iL] at XN
      replace h1:=ob h1;obtain ⟨y,h3,h1⟩:=h1
      simp at h1;subst h1
      have e0:=Qq h3
      injection e0 with e0;subst e0
      have:=Qg h3;subst this
      have dY:cm s (.a_ b 0 none) w:=dY
      obtain ⟨bE,dY⟩:=dY
      refine ⟨s2,(match s.μ b with | none=>[] | some m=>[m.z])::an,l2,g2,u2,k2,t2,o2,m2,⟨⟨_,b,wt,rfl,rfl,rfl,rfl,?_,by rw [u2]⟩,A4⟩,fun q hq=>jE q (by simp [hq]),?_⟩
      .cases hm:s.μ b with
       | none =>
        rw [hm] at dY;obtain ⟨_,_,rfl⟩:=dY
        have hx:=EX hs hb hm;subst hx
        exact ⟨wt,[],rfl,.inl ⟨rfl,rfl,rfl⟩⟩
       | some m =>
        rw [hm] at dY;obtain ⟨g0,rfl⟩:=dY
        obtain ⟨a1,a2,k,a3,a4,a5,a6,a7⟩:=mO hs hb hm
        refine ⟨wt,xs,rfl,.inr ⟨m.z,m.sh,k,[],rfl,by simp,by simp [a1,a2],by rw [g2];exact a3,(a6 rfl).1,(a6 rfl).2,AI hs hb hm a3,(RL.om a4 a5).frame (fun z hz hl=>⟨k2.N hl hz,k2.fr z hl hz.1⟩),gY.C4 eJ⟩⟩
      .intro s3 k3 m3 t3 u3 iw
       obtain ⟨⟨B,wu,XO⟩,iw⟩:=iw
       obtain ⟨n1,n2⟩:=Dl s3 k3 m3 t3 u3 iw
       have Hv:b∈A3:=jE b (by simp)
       cases hm:s.μ b with
       | none =>
        simp only [Ze,List.nil_append]
        refine ⟨n1,fun z hz=>?_⟩
        rcases n2 z hz with h6 | ⟨b',B',mm,h5,h6⟩
        .exact .inl h6
        .exact .inr ⟨b',B',mm,fun h=>h5 (by simp [h]),h6⟩
       | some m =>
        have BS:s3.μ b=some m:=by rw [u3];exact hm
        refine ⟨?_,fun z hz=>?_⟩
        .rw [Ze,Zn]
         refine ⟨by simp,n1,fun a ha q hq e=>?_⟩
         simp at ha;subst ha;subst e
         rcases n2 _ hq with ⟨h5,_⟩ | ⟨b',B',mm,h5,_,h6,h7,h8,h9⟩
         .exact t3.lm b B m wu BS h5
         .have:=t3.inj b' b B' B mm m h6 wu h7 h8 BS h9
          exact h5 (by simp [this])
        .rw [Ze,Zh] at hz
         rcases hz with hz | hz
         .simp at hz;subst hz
          exact .inr ⟨b,B,m,rD,Hv,wu,XO,BS,rfl⟩
         .rcases n2 z hz with h6 | ⟨b',B',mm,h5,h6⟩
          .exact .inl h6
          .exact .inr ⟨b',B',mm,fun h=>h5 (by simp [h]),h6⟩
     .simp at h1
   .simp at h
  | ps =>
   simp only at h
   split at h
   .rename_i b
    split at h
    .simp at h
    .rename_i rD
     have rD:=CY rD
     replace h:=ob h;obtain ⟨⟨x,L2⟩,h1,h⟩:=h
     replace h:=ob h;obtain ⟨⟨Dk,A3,L3⟩,h2,h⟩:=h
     simp at h;obtain ⟨rfl,rfl,rfl⟩:=h
     unfold J0 at h1
     split at h1
     .rename_i aB cs hb
      replace h1:=ob h1;obtain ⟨⟨y,L4⟩,h3,h1⟩:=h1
      simp at h1;obtain ⟨rfl,rfl⟩:=h1
      have hB:=hs.aJ b _ hb
      unfold BR at hB;simp only at hB
      obtain ⟨_,m,k,hm,dW,hk,cD,bn,kj⟩:=hB
      obtain ⟨s1,j,l1,g1,u1,k1,t1,nq,nr,MY,CW,o1⟩:=H_ t hs cD h3
      simp only at h2
      rw [<- l1] at h2
      obtain ⟨s2,an,l2,g2,u2,k2,t2,o2,m2,A4,jE,Dl⟩:=J9 t1 (Qw.mono (fun _ _=>k1.ER) dR) h2
      have aI:s1.ai=s.ai:=k1.ai
      have dY:cm s (.ptr b 0) w:=dY
      obtain ⟨bE,m',aE,_,rfl⟩:=dY
      rw [hm] at aE;injection aE with aE;subst aE
      have NK:s2.H=s.H:=g2.trans g1
      refine ⟨s2,(m.z::j)::an,l2,NK,u2.trans u1,k1.trans k2,t2,fun z hz=>o1 z (o2 z hz),fun z hz=>m2 z ((nr z).2 (.inl hz)),⟨⟨_,b,m,j,rfl,rfl,rfl,⟨m.z,k,j,rfl,rfl,by rw [NK];exact hk,bn,kj,dA.frame (fun z hz au=>⟨k2.N au hz,by rw [g2]⟩) t nq (fun z _=>by rw [g2])⟩,by rw [u2,u1];exact hm,rfl,fun z hz=>m2 z ((nr z).2 (.inr hz))⟩,by rw [<- aI];exact A4⟩,fun q hq=>jE q (by simp [hq]),?_⟩
      intro s3 k3 m3 t3 u3 iw
      obtain ⟨⟨B,wu,XO⟩,iw⟩:=iw
      obtain ⟨n1,n2⟩:=Dl s3 k3 m3 t3 (u3.trans u1.symm) iw
      have Hv:b∈A3:=jE b (by simp)
      have BS:s3.μ b=some m:=by rw [u3];exact hm
      have hmj:m.z∉j:=fun h=>t3.lm b B m wu BS (m3 _ (m2 _ ((nr _).2 (.inr h))))
      refine ⟨?_,fun z hz=>?_⟩
      .rw [Ze,Zn]
       refine ⟨List.nodup_cons.2 ⟨hmj,CW⟩,n1,fun a ha q hq e=>?_⟩
       subst e
       rcases Z2 ha with rfl | ha
       .rcases n2 _ hq with ⟨h5,_⟩ | ⟨b',B',mm,h5,_,h6,h7,h8,h9⟩
        .exact t3.lm b B m wu BS h5
        .have:=t3.inj b' b B' B mm m h6 wu h7 h8 BS h9
         exact h5 (by simp [this])
       .have DW:s1.aF a:=(nr a).2 (.inr ha)
        rcases n2 _ hq with ⟨_,h5⟩ | ⟨b',B',mm,_,_,h6,h7,h8,rfl⟩
        .exact h5 DW
        .exact t3.lm b' B' mm h6 h8 (m3 _ (m2 _ DW))
      .rw [Ze,Zh] at hz
       rcases hz with hz | hz
       .rcases Z2 hz with rfl | hz
        .exact .inr ⟨b,B,m,rD,Hv,wu,XO,BS,rfl⟩
        .exact .inl ⟨m3 z (m2 z ((nr z).2 (.inr hz))),MY z hz⟩
       .rcases n2 z hz with ⟨h6,h7⟩ | ⟨b',B',mm,h5,h6⟩
        .exact .inl ⟨h6,fun h=>h7 ((nr z).2 (.inl h))⟩
        .exact .inr ⟨b',B',mm,fun h=>h5 (by simp [h]),h6⟩
     .simp at h1
   .simp at h
 | [],_::_,_,_,_,_,_,_,_,_,h=>by simp [ko] at h
 | _::_,[],_,_,_,_,_,_,_,_,h=>by simp [ko] at h
def TR (s:S) (al:Bool) (aQ:List Nat):List (PM×Ty)->List Value->List (Option TV)->List TV->Prop
 | [],[],[],[]=>True
 | (_,t)::ps,w::ws,o::os,v::vs=>(match o with
   | some x=>v=x
   | none=>v.1=t/\v.1.dG=false/\∃ cs,Ij v.1 cs w/\(al=true->ax s.N s.H v.1 v.2 cs) /\
    (al=false->∀ M:Nat->Prop,(∀ z,s.N z->M z)->(∀ b m B,b∉aQ->Qi s.L b=some B->s.μ b=some m->M m.z)->(∀ z b i,b∉aQ->s.br z=some (b,i)->M z)->ax M s.H v.1 v.2 cs))/\TR s al aQ ps ws os vs
 | _,_,_,_=>False
theorem QU {al:Bool} {aQ:List Nat}:∀ {ps:List (PM×Ty)} {args:List PV} {ws:List Value} {os:List (Option TV)} {s:S} {vs:List TV} {L2:LS},aD s->Qw (ER s) args ws->A5 al aQ ps args os s.L=some (vs,L2) ->
  ∃ s2,s2.L=L2/\s2.H=s.H/\s2.μ=s.μ/\aj s s2/\aD s2/\(∀ z,bI s2 z->bI s z)/\s2.aF=s.aF/\(al=false->s2=s)/\TR s2 al aQ ps ws os vs
 | [],[],[],[],s,vs,L2,hs,_,h=>by
  simp [A5] at h;obtain ⟨rfl,rfl⟩:=h
  exact ⟨s,rfl,rfl,rfl,aj.refl s,hs,fun _ h=>h,rfl,fun _=>rfl,trivial⟩
 | (m,t)::ps,p::args,w::ws,o::os,s,vs,L2,hs,hr,h=>by
  obtain ⟨dY,dR⟩:=hr
  simp only [A5] at h
  cases o with
  | some x =>
   simp only at h
   replace h:=ob h;obtain ⟨⟨cy,L3⟩,h2,h⟩:=h
   simp at h;obtain ⟨rfl,rfl⟩:=h
   obtain ⟨s2,a1,a2,a3,a4,a5,a6,a7,a8,a9⟩:=QU hs dR h2
   exact ⟨s2,a1,a2,a3,a4,a5,a6,a7,a8,rfl,a9⟩
  | none =>
   simp only at h
   split at h
   .rename_i dm
    simp only [Z8] at dm
    replace h:=ob h;obtain ⟨⟨x,L3⟩,h1,h⟩:=h
    replace h:=ob h;obtain ⟨⟨cy,L4⟩,h2,h⟩:=h
    simp at h;obtain ⟨rfl,rfl⟩:=h
    have hc:=dY.cells dm.2.1
    have hv:=WB (t:=t) dY dm.2.1 dm.2.2
    cases al with
    | true =>
     obtain ⟨s1,l1,g1,u1,k1,t1,nq,o1,nr⟩:=Df t hs hc h1
     simp only at h2
     rw [<- l1] at h2
     obtain ⟨s2,a1,a2,a3,a4,a5,a6,a7,a8,a9⟩:=QU t1 (Qw.mono (fun _ _=>k1.ER) dR) h2
     exact ⟨s2,a1,a2.trans g1,a3.trans u1,k1.trans a4,a5,fun z hz=>o1 z (a6 z hz),a7.trans nr,by simp,⟨rfl,QT t h1,_,hv,fun _=>a4.vN nq,by simp⟩,a9⟩
    | false =>
     have hL:L3=s.L:=(J_ hs t hc h1).1
     simp only at h2
     rw [hL] at h2
     obtain ⟨s2,a1,a2,a3,a4,a5,a6,a7,a8,a9⟩:=QU hs dR h2
     have Fa:=a8 rfl
     refine ⟨s2,a1,a2,a3,a4,a5,a6,a7,a8,⟨rfl,QT t h1,_,hv,by simp,fun _ M hM hB NL=>?_⟩,a9⟩
     rw [Fa] at hM hB NL ⊢
     refine (QV hs hM t (fun b off n m B ki hb hm=>hB b m B ?_ hb hm) (fun q hq b z i hp hz=>NL z b i ?_ hz) hc h1).2
     .have:=Z3 dm.1 _ ki
      simp only [Bool.not_eq_true'] at this
      exact CY this
     .have:=Z3 dm.1 _ hq
      rcases hp with ⟨off,n,rfl⟩ | ⟨j,aB,t',x',rfl⟩
      .simp only [Bool.not_eq_true'] at this
       exact CY this
      .simp only [Bool.not_eq_true'] at this
       exact CY this
   .simp at h
 | [],_::_,_,_,_,_,_,_,_,h=>by simp [A5] at h
 | _::_,[],_,_,_,_,_,_,_,h=>by simp [A5] at h
 | _::_,_::_,_,[],_,_,_,_,_,h=>by simp [A5] at h
 | [],[],_,_::_,_,_,_,_,_,h=>by simp [A5] at h
theorem Qvr {s:S} {ai:Nat} {al:Bool} {aQ:List Nat} {M:Nat->Prop} (hM:∀ z,s.N z->M z) (hB:al=false->∀ b m B,b∉aQ->Qi s.L b=some B->s.μ b=some m->M m.z) (NL:al=false->∀ z b i,b∉aQ->s.br z=some (b,i)->M z) :
  ∀ {ps:List (PM×Ty)} {args:List PV} {ws:List Value} {os:List (Option TV)} {an:List (List Nat)} {vs:List TV},TM s ai ps args ws os an->TR s al aQ ps ws os vs->di M s.H ai (ps.map fun p=>p.1.kd) vs ws an
 | [],[],[],[],[],[],_,_=>trivial
 | (m,t)::ps,p::args,w::ws,o::os,ids::an,v::vs,h,g=>by
  refine ⟨?_,Qvr hM hB NL h.2 g.2⟩
  have h1:=h.1;have g1:=g.1
  have fr:∀ {kd:Kd} {x:TV},HR s.N s.H ai kd x w ids->HR M s.H ai kd x w ids:=fun h=>h.frame (fun z hz au=>⟨hM z hz,rfl⟩) (fun z _=>rfl)
  cases m with
  | ro =>
   obtain ⟨rfl,rfl⟩:=h1
   obtain ⟨rfl,c0,cs,c1,c2,c3⟩:=g1
   refine ⟨cs,c1,dA.of _ c0 ?_⟩
   cases al with
   | true=>exact ax.mono hM _ (c2 rfl)
   | false=>exact c3 rfl M hM (hB rfl) (NL rfl)
  | cl g=>exact ⟨h1.1,h1.2.1⟩
  | mv=>obtain ⟨x,rfl,a2,a3,a4⟩:=h1;obtain rfl:v=x:=g1;exact fr a3
  | io=>obtain ⟨x,b,u,rfl,a2,a3,a4,a5,a6⟩:=h1;obtain rfl:v=x:=g1;exact fr a5
  | ps=>obtain ⟨x,b,m,j,rfl,a2,a3,a4,a5,a6,_⟩:=h1;obtain rfl:v=x:=g1;exact fr a4
def Qp:List (PM×Ty)->List PV->List Nat
 | (.io,_)::ps,.a_ b _ _::args=>b::Qp ps args
 | (.ps,_)::ps,.ptr b _::args=>b::Qp ps args
 | _::ps,_::args=>Qp ps args
 | _,_=>[]
theorem J':∀ {ps:List (PM×Ty)} {args:List PV} {aQ dU:List Nat} {L L1:LS} {os:List (Option TV)},ko ps args aQ L=some (os,dU,L1)->(Qp ps args).Nodup/\(∀ b∈Qp ps args,b∉aQ)/\(∀ b,b∈dU↔b∈aQ\/b∈Qp ps args)
 | [],[],aQ,dU,L,L1,os,h=>by
  simp [ko] at h;obtain ⟨rfl,rfl,rfl⟩:=h;simp [Qp]
 | (m,t)::ps,p::args,aQ,dU,L,L1,os,h=>by
  simp only [ko] at h
  cases m with
  | ro =>
   simp only at h
   replace h:=ob h;obtain ⟨⟨Dk,A3,L3⟩,h2,h⟩:=h
   simp at h;obtain ⟨rfl,rfl,rfl⟩:=h
   have:Qp ((.ro,t)::ps) (p::args)=Qp ps args:=by cases p<;>rfl
   rw [this];exact J' h2
  | cl g =>
   have:Qp ((.cl g,t)::ps) (p::args)=Qp ps args:=by cases p<;>rfl
   rw [this]
   simp only at h
   split at h
   .split at h
    .replace h:=ob h;obtain ⟨⟨Dk,A3,L3⟩,h2,h⟩:=h
     simp at h;obtain ⟨rfl,rfl,rfl⟩:=h
     exact J' h2
    .simp at h
   .simp at h
  | mv =>
   have:Qp ((.mv,t)::ps) (p::args)=Qp ps args:=by cases p<;>rfl
   rw [this]
   have key:∀ {q:PV},(Q1 (vG true t q L) fun x=>Q1 (ko ps args aQ x.2) fun r=>some (some x.1::r.1,r.2.1,r.2.2))=some (os,dU,L1)->(Qp ps args).Nodup/\(∀ b∈Qp ps args,b∉aQ)/\(∀ b,b∈dU↔b∈aQ\/b∈Qp ps args):=by
    clear h
    intro q h
    replace h:=ob h;obtain ⟨x,h1,h⟩:=h
    replace h:=ob h;obtain ⟨⟨Dk,A3,L3⟩,h2,h⟩:=h
    simp at h;obtain ⟨rfl,rfl,rfl⟩:=h
    exact J' h2
   simp only at h
   split at h
   .split at h
    .simp at h
    .exact key h
   .split at h
    .simp at h
    .exact key h
   .exact key h
  | io =>
   simp only at h
   split at h
   .rename_i u b
    split at h
    .simp at h
    .rename_i rD
     have rD:=CY rD
     replace h:=ob h;obtain ⟨x,h1,h⟩:=h
     replace h:=ob h;obtain ⟨⟨Dk,A3,L3⟩,h2,h⟩:=h
     simp at h;obtain ⟨rfl,rfl,rfl⟩:=h
     obtain ⟨a1,a2,a3⟩:=J' h2
     simp only [Qp]
     refine ⟨List.nodup_cons.2 ⟨fun hb=>a2 b hb (by simp),a1⟩,fun q hq=>?_,fun q=>?_⟩
     .rcases Z2 hq with rfl | hq
      .exact rD
      .exact fun h=>a2 q hq (by simp [h])
     .rw [a3];simp only [List.mem_cons];constructor
      .rintro ((rfl | h) | h)<;>simp_all
      .rintro (h | rfl | h)<;>simp_all
   .simp at h
  | ps =>
   simp only at h
   split at h
   .rename_i b
    split at h
    .simp at h
    .rename_i rD
     have rD:=CY rD
     replace h:=ob h;obtain ⟨x,h1,h⟩:=h
     replace h:=ob h;obtain ⟨⟨Dk,A3,L3⟩,h2,h⟩:=h
     simp at h;obtain ⟨rfl,rfl,rfl⟩:=h
     obtain ⟨a1,a2,a3⟩:=J' h2
     simp only [Qp]
     refine ⟨List.nodup_cons.2 ⟨fun hb=>a2 b hb (by simp),a1⟩,fun q hq=>?_,fun q=>?_⟩
     .rcases Z2 hq with rfl | hq
      .exact rD
      .exact fun h=>a2 q hq (by simp [h])
     .rw [a3];simp only [List.mem_cons];constructor
      .rintro ((rfl | h) | h)<;>simp_all
      .rintro (h | rfl | h)<;>simp_all
   .simp at h
 | [],_::_,_,_,_,_,_,h=>by simp [ko] at h
 | _::_,[],_,_,_,_,_,h=>by simp [ko] at h
def Dm (L L':LS) (b:Nat) (B B':VB):Prop:=Qi L b=some B/\B.rw=true/\Qi L' b=some B'/\B'.rw=true/\B'.aB=B.aB+1
theorem XP {b:Nat} {v:TV} {L L':LS} (h:Dn b v L=some L'):∃ n u xs x,Qi L b=some ⟨n,true,.arr u xs⟩/\v=⟨.sl u,x⟩/\L'=cW L b ⟨n+1,true,.arr u x⟩:=by
 unfold Dn at h
 split at h
 .rename_i n u xs t x hb
  split at h
  .rename_i he
   have:=Ty.beq_eq he;subst this
   simp at h;exact ⟨n,u,xs,x,hb,rfl,h.symm⟩
  .simp at h
 .simp at h
theorem QW {b:Nat} {v:TV} {L L':LS} (h:Dp b v L=some L'):∃ n cs,Qi L b=some ⟨n,true,.cells cs⟩/\cs.length=v.1.size/\L'=cW L b ⟨n+1,true,.cells (gk L.cu v.1 v.2)⟩:=by
 unfold Dp at h
 split at h
 .rename_i n cs hb
  split at h
  .rename_i he
   simp at h;exact ⟨n,cs,hb,Z7 he,h.symm⟩
  .simp at h
 .simp at h
theorem Fb:∀ {ps:List (PM×Ty)} {args:List PV} {vs:List TV} {L L':LS},fL ps args vs L=some L'->(Qp ps args).Nodup ->
  L'.bl.length=L.bl.length/\L'.cu=L.cu/\(∀ c,c∉Qp ps args->Qi L' c=Qi L c)/\(∀ c∈Qp ps args,∃ B B',Dm L L' c B B')
 | [],[],[],L,L',h,_=>by
  simp [fL] at h;subst h;simp [Qp]
 | (m,t)::ps,p::args,vs,L,L',h,hn=>by
  cases m with
  | io =>
   simp only [fL] at h
   split at h
   .rename_i b v cy
    replace h:=ob h;obtain ⟨L1,h1,h⟩:=h
    simp only [Qp] at hn ⊢
    obtain ⟨gh,gR⟩:=List.nodup_cons.1 hn
    obtain ⟨a1,a2,a3,a4⟩:=Fb h gR
    obtain ⟨n',u,xs,x,g1,g2,rfl⟩:=XP h1
    have bE:=Qo g1
    refine ⟨by rw [a1,oR],a2,fun c hc=>?_,fun c hc=>?_⟩
    .simp only [List.mem_cons,not_or] at hc
     rw [a3 c hc.2,wM (Ne.symm hc.1)]
    .rcases Z2 hc with rfl | hc
     .exact ⟨_,_,g1,rfl,by rw [a3 c gh,Qr bE],rfl,rfl⟩
     .obtain ⟨B,B',b1,b2,b3⟩:=a4 c hc
      have aU:b≠c:=fun e=>gh (e▸hc)
      rw [wM aU] at b1
      exact ⟨B,B',b1,b2,b3⟩
   .simp at h
  | ps =>
   simp only [fL] at h
   split at h
   .rename_i b off v cy
    replace h:=ob h;obtain ⟨L1,h1,h⟩:=h
    simp only [Qp] at hn ⊢
    obtain ⟨gh,gR⟩:=List.nodup_cons.1 hn
    obtain ⟨a1,a2,a3,a4⟩:=Fb h gR
    obtain ⟨n',cs,g1,g2,rfl⟩:=QW h1
    have bE:=Qo g1
    refine ⟨by rw [a1,oR],a2,fun c hc=>?_,fun c hc=>?_⟩
    .simp only [List.mem_cons,not_or] at hc
     rw [a3 c hc.2,wM (Ne.symm hc.1)]
    .rcases Z2 hc with rfl | hc
     .exact ⟨_,_,g1,rfl,by rw [a3 c gh,Qr bE],rfl,rfl⟩
     .obtain ⟨B,B',b1,b2,b3⟩:=a4 c hc
      have aU:b≠c:=fun e=>gh (e▸hc)
      rw [wM aU] at b1
      exact ⟨B,B',b1,b2,b3⟩
   .simp at h
  | ro =>
   simp only [fL] at h
   have:Qp ((.ro,t)::ps) (p::args)=Qp ps args:=by cases p<;>rfl
   rw [this] at hn ⊢;exact Fb h hn
  | cl g =>
   simp only [fL] at h
   have:Qp ((.cl g,t)::ps) (p::args)=Qp ps args:=by cases p<;>rfl
   rw [this] at hn ⊢;exact Fb h hn
  | mv =>
   simp only [fL] at h
   have:Qp ((.mv,t)::ps) (p::args)=Qp ps args:=by cases p<;>rfl
   rw [this] at hn ⊢;exact Fb h hn
 | [],_::_,_,_,_,h,_=>by simp [fL] at h
 | [],[],_::_,_,_,h,_=>by simp [fL] at h
 | _::_,[],_,_,_,h,_=>by simp [fL] at h
def CB (s:S) (ai b:Nat) (v:TV) (j:List Nat):Prop:=(∃ m k,s.μ b=some m/\m.sh=0/\ah s.H m.z=some k/\k.ro=false/\ai<=m.z/\dA s.N s.H ai v.1 v.2 k.cells j)/\∀ z∈j,s.aF z
theorem CB.keep {s s':S} {ai b:Nat} {v:TV} {j:List Nat} (hk:aj s s') (hb:b < s.L.bl.length) (hH:s'.H=s.H) (hl:∀ z,s.aF z->s'.aF z) (h:CB s ai b v j):CB s' ai b v j:=by
 obtain ⟨⟨m,k,h1,h2,h3,h4,h5,h6⟩,h7⟩:=h
 exact ⟨⟨m,k,by rw [hk.mu b hb];exact h1,h2,by rw [hH];exact h3,h4,h5,dA.frame (fun z hz au=>⟨hk.N au hz,by rw [hH]⟩) _ h6 (fun z _=>by rw [hH])⟩,fun z hz=>hl z (h7 z hz)⟩
theorem aC {H:af} {z:Nat} {k:bx} (h:ah H z=some k):H.set z (some k)=H:=by
 have hz:=Qt h
 apply List.ext_getElem?
 intro i
 by_cases e:z=i
 .subst e
  rw [List.getElem?_set_self hz]
  unfold ah at h
  split at h
  .rename_i q hq;rw [hq];injection h with h;rw [h]
  .simp at h
 .rw [List.getElem?_set_ne e]
theorem Qio {s:S} (hs:aD s) {b:Nat} {v:TV} {j:List Nat} (hc:CB s s.ai b v j) (hn:j.Nodup) {L':LS} (h:QX b v s.L=some L') :
  ∃ s',s'.L=L'/\s'.H=s.H/\aj s s'/\aD s'/\(∀ z,s.N z->s'.N z)/\(∀ z,s.aF z->z∉j->s'.aF z):=by
 unfold QX at h
 split at h
 .injection h with h;subst h
  exact ⟨s,rfl,rfl,aj.refl s,hs,fun _ h=>h,fun _ h _=>h⟩
 .split at h
  .rename_i n cs hb
   injection h with h
   obtain ⟨⟨m,k,hm,dW,hk,bn,kj,cZ⟩,hl⟩:=hc
   obtain ⟨s1,a1,a2,a3,a4,a5,a6,a7⟩:=NI v.1 hs cZ hl hn
   have bE:=Qo hb
   have gp:Qi s1.L b=some ⟨n,true,.cells cs⟩:=by rw [a1,(XL v.1).2 b bE];exact hb
   have E1:s1.μ b=some m:=by rw [a3.mu b bE];exact hm
   have wY:ah s1.H m.z=some k:=by rw [a2];exact hk
   obtain ⟨s2,b1,b2,b3,b4,b5,b6⟩:=a4.NM gp rfl E1 ⟨n+1,true,.cells (nv v.1 v.2 s.L).1⟩ rfl rfl k (fun s' k' aE de hN=>by
    unfold BR;simp only
    exact ⟨trivial,m,k,aE,dW,de,k'.cq a5,bn,by rw [k'.ai,a3.ai];exact kj⟩)
   rw [aC wY] at b2
   have aY:∀ z,bI s2 z->bI s1 z\/s1.H.length<=z:=b4.own
   refine ⟨s2,by rw [b1,a1];exact h,b2.trans a2,a3.trans b4,b5,fun z hz=>?_,fun z hz hj=>?_⟩
   .have h1:=a6 z hz
    by_cases au:z < s1.H.length
    .exact b4.N au h1
    .refine ⟨fun ho=>?_,by rw [b4.dj];exact h1.2⟩
     have:=b5.A6 ho
     rw [b2] at this;omega
   .rw [b6];exact a7 z hz hj
  .simp at h
theorem CB.to {s s':S} {ai b:Nat} {v:TV} {j:List Nat} (hb:s'.μ b=s.μ b) (hH:s'.H=s.H) (hN:∀ z,s.N z->s'.N z) (hl:∀ z∈j,s'.aF z) (h:CB s ai b v j):CB s' ai b v j:=by
 obtain ⟨⟨m,k,h1,h2,h3,h4,h5,h6⟩,h7⟩:=h
 exact ⟨⟨m,k,by rw [hb];exact h1,h2,by rw [hH];exact h3,h4,h5,dA.frame (fun z hz au=>⟨hN z hz,by rw [hH]⟩) _ h6 (fun z _=>by rw [hH])⟩,hl⟩
def vE (s:S) (ai:Nat):List (Nat×TV)->List (List Nat)->Prop
 | [],[]=>True
 | (b,v)::r,j::js=>(b < s.L.bl.length/\CB s ai b v j)/\vE s ai r js
 | _,_=>False
theorem vE.to {s s':S} {ai:Nat} (hk:aj s s') (hH:s'.H=s.H) (hN:∀ z,s.N z->s'.N z):∀ {l:List (Nat×TV)} {js:List (List Nat)},(∀ z∈js.flatten,s'.aF z)->vE s ai l js->vE s' ai l js
 | [],[],_,_=>trivial
 | (b,v)::r,j::js,hl,h=>⟨⟨Zm h.1.1 hk.nb,h.1.2.to (hk.mu b h.1.1) hH hN (fun z hz=>hl z (by simp [hz]))⟩,vE.to hk hH hN (fun z hz=>hl z (by rw [Ze,Zh];exact .inr hz)) h.2⟩
theorem WH:∀ {l:List (Nat×TV)} {js:List (List Nat)} {s:S} {L':LS},aD s->vE s s.ai l js->(∀ z∈js.flatten,s.aF z)->js.flatten.Nodup->IE l s.L=some L' ->
  ∃ s',s'.L=L'/\s'.H=s.H/\aj s s'/\aD s'/\(∀ z,s.N z->s'.N z)/\(∀ z,s.aF z->z∉js.flatten->s'.aF z)
 | [],js,s,L',hs,hd,hl,hn,h=>by
  simp [IE] at h;subst h
  exact ⟨s,rfl,rfl,aj.refl s,hs,fun _ h=>h,fun _ h _=>h⟩
 | (b,v)::l,j::js,s,L',hs,hd,hl,hn,h=>by
  obtain ⟨⟨hb,hc⟩,oe⟩:=hd
  rw [Ze,Zn] at hn
  obtain ⟨n1,n2,n3⟩:=hn
  simp only [IE] at h
  replace h:=ob h;obtain ⟨L1,h1,h⟩:=h
  obtain ⟨s1,a1,a2,a3,a4,a5,a6⟩:=Qio hs hc n1 h1
  rw [<- a1] at h
  have gr:∀ z∈js.flatten,s1.aF z:=fun z hz=>a6 z (hl z (by rw [Ze,Zh];exact .inr hz)) (fun hm=>n3 z hm z hz rfl)
  obtain ⟨s2,b1,b2,b3,b4,b5,b6⟩:=WH a4 (by rw [a3.ai];exact vE.to a3 a2 a5 gr oe) gr n2 h
  exact ⟨s2,b1,b2.trans a2,a3.trans b3,b4,fun z hz=>b5 z (a5 z hz),fun z hz hm=>by
   rw [Ze,Zh,not_or] at hm
   exact b6 z (a6 z hz hm.1) hm.2⟩
 | _::_,[],_,_,_,hd,_,_,_=>hd.elim
def oS:List (PM×Ty)->List (List Nat)->List Nat
 | (.io,_)::ps,ids::r=>ids++oS ps r
 | (.ps,_)::ps,ids::r=>ids.take 1++oS ps r
 | (.ro,_)::ps,r=>oS ps r
 | (.cl _,_)::ps,r=>oS ps r
 | (.mv,_)::ps,r=>oS ps r
 | _,_=>[]
def nx:List (PM×Ty)->List (List Nat)->List (List Nat)
 | (.io,_)::ps,_::r=>nx ps r
 | (.ps,_)::ps,ids::r=>ids.drop 1::nx ps r
 | (.ro,_)::ps,r=>nx ps r
 | (.cl _,_)::ps,r=>nx ps r
 | (.mv,_)::ps,r=>nx ps r
 | _,_=>[]
theorem Ka {N:Nat->Prop} {H:af} {ai:Nat}:∀ {ps:List (PM×Ty)} {vs:List TV} {ws:List Value} {aO:List (List Nat)},di N H ai (sS ps) vs ws aO ->
  (∀ z,z∈aO.flatten↔z∈oS ps aO\/z∈(nx ps aO).flatten)/\(aO.flatten.Nodup->(nx ps aO).flatten.Nodup/\∀ z∈oS ps aO,z∉(nx ps aO).flatten)
 | [],[],[],[],_=>by simp [oS,nx]
 | (m,t)::ps,vs,ws,aO,h=>by
  cases m with
  | ro=>exact Ka (ps:=ps) h
  | cl g=>exact Ka (ps:=ps) h
  | mv=>exact Ka (ps:=ps) h
  | io =>
   match vs,ws,aO,h with
   | v::vs,w::ws,ids::aO,h =>
    obtain ⟨a1,a2⟩:=Ka (ps:=ps) h.2
    simp only [oS,nx,Ze]
    refine ⟨fun z=>?_,fun hn=>?_⟩
    .rw [Zh,Zh,a1,or_assoc]
    .rw [Zn] at hn
     obtain ⟨b1,b2⟩:=a2 hn.2.1
     refine ⟨b1,fun z hz jV=>?_⟩
     rcases List.mem_append.1 hz with hz | hz
     .exact hn.2.2 z hz z ((a1 z).2 (.inr jV)) rfl
     .exact b2 z hz jV
  | ps =>
   match vs,ws,aO,h with
   | v::vs,w::ws,ids::aO,h =>
    obtain ⟨a1,a2⟩:=Ka (ps:=ps) h.2
    obtain ⟨z0,k,j,rfl,_⟩:=h.1
    simp only [oS,nx,Ze,List.take_succ_cons,List.take_zero,List.drop_succ_cons,List.drop_zero]
    refine ⟨fun z=>?_,fun hn=>?_⟩
    .simp only [Zh,List.mem_cons,List.not_mem_nil,or_false]
     rw [a1 z];constructor
     .rintro ((h | h) | (h | h))<;>simp [h]
     .rintro ((h | h) | (h | h))<;>simp [h]
    .rw [Zn] at hn
     obtain ⟨n1,n2,n3⟩:=hn
     obtain ⟨n4,n5⟩:=List.nodup_cons.1 n1
     obtain ⟨b1,b2⟩:=a2 n2
     refine ⟨?_,fun z hz jV=>?_⟩
     .rw [Zn]
      exact ⟨n5,b1,fun p hp q hq e=>by subst e;exact n3 p (by simp [hp]) p ((a1 p).2 (.inr hq)) rfl⟩
     .rcases List.mem_append.1 hz with hz | hz
      .simp at hz;subst hz
       rcases List.mem_append.1 jV with jV | jV
       .exact n4 jV
       .exact n3 z (by simp) z ((a1 z).2 (.inr jV)) rfl
      .rcases List.mem_append.1 jV with jV | jV
       .exact n3 z (by simp [jV]) z ((a1 z).2 (.inl hz)) rfl
       .exact b2 z hz jV
end Go.Pv
