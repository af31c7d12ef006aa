/-
  Parts of slices, slices put together, built-in functions. And what stood behind it in 2 texts.
  Conditions: said at the theorems.
-/
import Derived.Test.YtnnmeljlcdmljaaGreatDoorVOp3
set_option linter.all false
namespace Go.Pv
open Go.Ev
theorem Qw.one {α β:Type} {R:α→β→Prop} {a:α} {l:List β} (h:Qw R [a] l):∃ v,l=[v]∧R a v:=by
 match l,h with
 | [v],h=>exact ⟨v,rfl,h.1⟩
theorem Qw.two {α β:Type} {R:α→β→Prop} {a b:α} {l:List β} (h:Qw R [a,b] l):∃ v w,l=[v,w]∧R a v∧R b w:=by
 match l,h with
 | [v,w],h=>exact ⟨v,w,rfl,h.1,h.2.1⟩
theorem Q3v {a b:Nat} (h:a≤b):Nat.ble a b=true:=Nat.ble_eq_true_of_le h
theorem Q11 {a b:Nat} (h:Nat.ble a b=true):a≤b:=Zi h
theorem Rep.part {N:Nat→Prop} {H:Heap} {t:Ty} {x:List t.T} {v:Value} (r:Rep N H (.sl t) x [v]) {a:Option Addr} {n c:Nat} (hv:v=.slice a n c) {l h:Nat} (h1:l≤h) (h2:h≤n) {size:Nat} (hsz:t.size=size) :
  ∃ a' c',Q1e a n c l h size=some (.slice a' (h - l) c')∧Rep N H (.sl t) ((x.take h).drop l) [.slice a' (h - l) c']:=by
 subst hsz
 unfold Rep at r
 rcases r with ⟨rfl,e1⟩ | ⟨rfl,z,oo,e1⟩ | ⟨z,oo,k,e1,hn,hk,hle,hi⟩
 ·simp at e1;rw [e1] at hv;injection hv with a1 a2 a3;subst a1 a2 a3
  obtain rfl:h=0:=by omega
  obtain rfl:l=0:=by omega
  exact ⟨none,0,by simp [Q1e,oif],by unfold Rep;exact .inl ⟨by simp,rfl⟩⟩
 ·simp at e1;rw [e1] at hv;injection hv with a1 a2 a3;subst a1 a2 a3
  obtain rfl:h=0:=by omega
  obtain rfl:l=0:=by omega
  refine ⟨some ⟨z,oo+0*t.size,none⟩,t.size,?_,?_⟩
  ·unfold Q1e;simp only [Q3v (Zd 0),Nat.beq_refl,Bool.and_self,oif]
  ·unfold Rep;exact .inr (.inl ⟨by simp,_,_,rfl⟩)
 ·simp at e1;rw [e1] at hv;injection hv with a1 a2 a3;subst a1 a2 a3
  refine ⟨some ⟨z,oo+l*t.size,none⟩,t.size,?_,?_⟩
  ·unfold Q1e;simp only [Q3v h1,Q3v h2,Nat.beq_refl,Bool.and_self,oif]
  ·have hlen:((x.take h).drop l).length=h - l:=by simp;omega
   unfold Rep
   refine .inr (.inr ⟨z,oo+l*t.size,k,by rw [hlen],hn,hk,?_,fun i hi'=>?_⟩)
   ·have:=Zk t.size (show l+((x.take h).drop l).length≤x.length by rw [hlen];omega)
    rw [Nat.add_mul] at this;omega
   ·have:=hi (l+i) (by rw [hlen] at hi';omega)
    rw [Nat.add_mul,← Nat.add_assoc] at this
    simpa using this
theorem Q9z.part {K:Nat→Prop} {H:Heap} {lim:Nat} {t:Ty} {x:List t.T} {v:Value} (r:Q9z K H lim t x v) {l h:Nat} (h1:l≤h) (h2:h≤x.length) {v':Value}
  (hv:(v=.slice none 0 0∧v'=.slice none 0 0)∨∃ z oo,v=.slice (some ⟨z,oo,none⟩) x.length t.size∧v'=.slice (some ⟨z,oo+l*t.size,none⟩) (h - l) t.size):Q9z K H lim t ((x.take h).drop l) v':=by
 rcases r with ⟨rfl,rfl⟩ | ⟨z,o,k,rfl,g1,g2,g3,g4,g5,g6⟩
 ·rcases hv with ⟨_,rfl⟩ | ⟨z,oo,e,_⟩
  ·exact .inl ⟨by simp,rfl⟩
  ·simp at e
 ·rcases hv with ⟨e,_⟩ | ⟨z',oo,e,rfl⟩
  ·simp at e
  ·injection e with e _ _;injection e with e;injection e with e1 e2 _;subst e1 e2
   have hlen:((x.take h).drop l).length=h - l:=by simp;omega
   have hm:=Zk t.size (show l+((x.take h).drop l).length≤x.length by rw [hlen];omega)
   rw [Nat.add_mul] at hm
   refine .inr ⟨z,o+l*t.size,k,by rw [hlen],g1,g2,g3,g4,g5.sub hm,fun i hi=>?_⟩
   have:=g6 (l+i) (by rw [hlen] at hi;omega)
   rw [Nat.add_mul,← Nat.add_assoc] at this
   simpa using this
section
variable {A:AnnV} {β γ:Type} {s:S} {env:Q0n} {e:Env} {X:CxV A β} {XE:Cx} {o:Oper} {KV:PV→LS→Option β} {KE:Value→Heap→Option γ} {r:β} {Q:γ→Prop}
theorem Q6d {δ ε:Type} (he:Q25 s env e) {x:Option Operand} {d:Nat} {K:Option Nat→Option δ} {K':Nat→Option ε} {q:δ} {Q':ε→Prop} (h:Q2d env x K=some q) (hk:∀ n,K n=some q→∃ y,K' (n.getD d)=some y∧Q' y):∃ y,Q17 e x d K'=some y∧Q' y:=by
 unfold Q2d at h;unfold Q17
 split at h
 ·exact hk none h
 ·replace h:=ob h;obtain ⟨p,h1,h⟩:=h
  obtain ⟨v,e1,r1⟩:=Q01 he h1
  simp only [e1,Q1]
  exact Qfg r1 h (fun n h=>hk (some n) h)
theorem Qj {δ:Type} {b:Bool} {x:Option δ} {q:δ} (h:oif b x none=some q):b=true∧x=some q:=by
 unfold oif at h;split at h
 ·exact ⟨rfl,h⟩
 ·simp at h
theorem Qq1 (hs:StR s) {p:PV} {v:Value} (hr:ER s p v) {lo hi:Option Nat} (hK:KOk s r KV KE Q) (h:(psl s.L p lo hi fun u=>KV u s.L)=some r) {size:Nat} (hsz:∀ n,vop.esz s.L p=some n→n=size) :
  ∃ a n c,v=.slice a n c∧∃ y,(Q1 (Q1e a n c (lo.getD 0) (hi.getD n) size) fun u=>vSl u fun a n c=>KE (.slice a n c) s.H)=some y∧Q y:=by
 unfold psl at h
 split at h
 ·obtain rfl:v=_:=hr
  refine ⟨none,0,0,rfl,?_⟩
  have key:∀ l h',l≤h'→h'≤0→KV .nil s.L=some r→∃ y,(Q1 (Q1e none 0 0 l h' size) fun u=>vSl u fun a n c=>KE (.slice a n c) s.H)=some y∧Q y:=by
   intro l h' h1 h2 h
   obtain rfl:h'=0:=by omega
   obtain rfl:l=0:=by omega
   have:Q1e none 0 0 0 0 size=some (.slice none 0 0):=by simp [Q1e,oif]
   rw [this];exact hK.here hs (p:=.nil) rfl h
  split at h
  ·exact key 0 0 (Zd _) (Zd _) h
  ·obtain ⟨a1,a2⟩:=Qj h;exact key _ 0 (Q11 a1) (Zd _) a2
  ·obtain ⟨a1,a2⟩:=Qj h;exact key 0 _ (Nat.zero_le _) (Q11 a1) a2
  ·obtain ⟨a1,a2⟩:=Qj h;simp only [Z8] at a1;exact key _ _ (Q11 a1.1) (Q11 a1.2) a2
 ·rename_i st t x
  have hr:Rep (s.NN st) s.H (.sl t) x [v]:=hr
  obtain ⟨a,c,rfl⟩:∃ a c,v=.slice a x.length c:=by
   have hr':=hr
   unfold Rep at hr'
   rcases hr' with ⟨rfl,e1⟩ | ⟨rfl,_,_,e1⟩ | ⟨_,_,_,e1,_⟩<;>(simp at e1;subst e1;exact ⟨_,_,rfl⟩)
  refine ⟨a,x.length,c,rfl,?_⟩
  have hsz':t.size=size:=hsz _ rfl
  have key:∀ l h',l≤h'→h'≤x.length→KV (.ro st t ((x.take h').drop l)) s.L=some r→∃ y,(Q1 (Q1e a x.length c l h' size) fun u=>vSl u fun a n c=>KE (.slice a n c) s.H)=some y∧Q y:=by
   intro l h' h1 h2 h
   obtain ⟨a',c',g1,g2⟩:=Rep.part hr rfl h1 h2 hsz'
   rw [g1];exact hK.here hs (p:=.ro st t _) g2 h
  split at h
  ·exact key 0 x.length (Nat.zero_le _) (Zd _) (by simpa using h)
  ·obtain ⟨a1,a2⟩:=Qj h;exact key _ _ (Q11 a1) (Zd _) (by simpa using a2)
  ·obtain ⟨a1,a2⟩:=Qj h;exact key 0 _ (Nat.zero_le _) (Q11 a1) (by simpa using a2)
  ·obtain ⟨a1,a2⟩:=Qj h;simp only [Z8] at a1;exact key _ _ (Q11 a1.1) (Q11 a1.2) a2
 ·rename_i b i ver t x
  obtain ⟨hlb,hsl,hval⟩:LR0 s (.rw b i ver t x) v:=hr
  have hsz':t.size=size:=hsz _ rfl
  subst hsz'
  rcases hsl with ⟨e0,rfl⟩ | ⟨z,oo,rfl⟩
  ·have hx:x=[]:=Z1 e0
   subst hx
   refine ⟨none,0,0,rfl,?_⟩
   have key:∀ l h',l≤h'→h'≤0→KV (.rw b i ver t (([]:List t.T).take h' |>.drop l)) s.L=some r→∃ y,(Q1 (Q1e none 0 0 l h' t.size) fun u=>vSl u fun a n c=>KE (.slice a n c) s.H)=some y∧Q y:=by
    intro l h' h1 h2 h
    obtain rfl:h'=0:=by omega
    obtain rfl:l=0:=by omega
    have:Q1e none 0 0 0 0 t.size=some (.slice none 0 0):=by simp [Q1e,oif]
    rw [this]
    refine hK.here hs (p:=.rw b i ver t _) (ER.of0 (p:=.rw b i ver t _) ⟨hlb,.inl ⟨by simp,rfl⟩,fun B hB=>⟨(hval B hB).1,fun e=>⟨((hval B hB).2 e).1,.inl ⟨by simp,rfl⟩,by simpa using ((hval B hB).2 e).2.2⟩⟩⟩) h
   split at h
   ·exact key 0 0 (Zd _) (Zd _) h
   ·obtain ⟨a1,a2⟩:=Qj h;exact key _ 0 (Q11 a1) (Zd _) (by simpa using a2)
   ·obtain ⟨a1,a2⟩:=Qj h;exact key 0 _ (Nat.zero_le _) (Q11 a1) (by simpa using a2)
   ·obtain ⟨a1,a2⟩:=Qj h;simp only [Z8] at a1;exact key _ _ (Q11 a1.1) (Q11 a1.2) a2
  ·refine ⟨_,x.length,t.size,rfl,?_⟩
   have key:∀ l h',l≤h'→h'≤x.length→KV (.rw b i ver t ((x.take h').drop l)) s.L=some r→∃ y,(Q1 (Q1e (some ⟨z,oo,none⟩) x.length t.size l h' t.size) fun u=>vSl u fun a n c=>KE (.slice a n c) s.H)=some y∧Q y:=by
    intro l h' h1 h2 h
    have hv:Q1e (some ⟨z,oo,none⟩) x.length t.size l h' t.size=some (.slice (some ⟨z,oo+l*t.size,none⟩) (h' - l) t.size):=by
     unfold Q1e;simp only [Q3v h1,Q3v h2,Nat.beq_refl,Bool.and_self,oif]
    rw [hv]
    have hlen:((x.take h').drop l).length=h' - l:=by simp;omega
    refine hK.here hs (p:=.rw b i ver t _) (ER.of0 (p:=.rw b i ver t _) ⟨hlb,.inr ⟨z,oo+l*t.size,by rw [hlen]⟩,fun B hB=>⟨(hval B hB).1,fun e=>⟨((hval B hB).2 e).1,((hval B hB).2 e).2.1.part h1 h2 (.inr ⟨z,oo,rfl,rfl⟩),fun B2 e2 xs2 hh2 m2 k2 g1 g2 g3 g4 y gy=>(by
     obtain ⟨w1,w2⟩:=((hval B hB).2 e).2.2 B2 e2 xs2 hh2 m2 k2 g1 g2 g3 g4 y gy
     refine ⟨by rw [hlen];omega,fun e3=>?_⟩
     rw [hlen] at e3
     obtain rfl:l=0:=by omega
     have:h'=x.length:=by omega
     subst this
     rw [w2 (by omega),Nat.zero_mul,Nat.add_zero,Nat.sub_zero])⟩⟩⟩) h
   split at h
   ·exact key 0 x.length (Nat.zero_le _) (Zd _) (by simpa using h)
   ·obtain ⟨a1,a2⟩:=Qj h;exact key _ _ (Q11 a1) (Zd _) (by simpa using a2)
   ·obtain ⟨a1,a2⟩:=Qj h;exact key 0 _ (Nat.zero_le _) (Q11 a1) (by simpa using a2)
   ·obtain ⟨a1,a2⟩:=Qj h;simp only [Z8] at a1;exact key _ _ (Q11 a1.1) (Q11 a1.2) a2
 ·rename_i b off n
  split at h
  rotate_left
  ·simp at h
  rename_i ver rw u xs hb
  replace h:=ob h;obtain ⟨m,h1,h⟩:=h
  have hr:LR0 s (.osl b off n) v:=hr
  have hr0:=hr
  obtain ⟨a,c,rfl⟩:=Qfj hs (ER.of0 hr) h1
  refine ⟨a,m,c,rfl,?_⟩
  obtain ⟨hlb,hr⟩:=hr
  cases hm:s.μ b with
  | none =>
   rw [hm] at hr;obtain ⟨rfl,h5,e5⟩:=hr
   injection e5 with e5 e6 e7;subst e5 e6 e7
   have key:∀ l h' q,l≤h'→h'≤0→(q=PV.osl b (0+l) none∨∃ w,q=.osl b (0+l) (some w)∧w=0)→KV q s.L=some r→∃ y,(Q1 (Q1e none 0 0 l h' size) fun u=>vSl u fun a n c=>KE (.slice a n c) s.H)=some y∧Q y:=by
    intro l h' q h1 h2 hq h
    obtain rfl:h'=0:=by omega
    obtain rfl:l=0:=by omega
    have:Q1e none 0 0 0 0 size=some (.slice none 0 0):=by simp [Q1e,oif]
    rw [this]
    refine hK.here hs (p:=q) ?_ h
    rcases hq with rfl | ⟨w,rfl,rfl⟩
    ·exact ⟨hlb,by rw [hm];simp⟩
    ·exact ⟨hlb,by rw [hm];simp⟩
   split at h
   ·refine key 0 0 (.osl b 0 n) (Zd _) (Zd _) ?_ h
    cases n with
    | none=>left;rfl
    | some w=>right;exact ⟨w,rfl,by simpa using h5⟩
   ·obtain ⟨a1,a2⟩:=Qj h
    refine key _ 0 _ (Q11 a1) (Zd _) ?_ a2
    cases n with
    | none=>left;rfl
    | some w=>right;exact ⟨_,rfl,by simp at h5;omega⟩
   ·obtain ⟨a1,a2⟩:=Qj h
    exact key 0 _ _ (Nat.zero_le _) (Q11 a1) (.inr ⟨_,rfl,by have:=Q11 a1;omega⟩) a2
   ·obtain ⟨a1,a2⟩:=Qj h;simp only [Z8] at a1
    exact key _ _ _ (Q11 a1.1) (Q11 a1.2) (.inr ⟨_,rfl,by have:=Q11 a1.2;omega⟩) a2
  | some mb =>
   rw [hm] at hr;obtain ⟨g1,e5⟩:=hr
   injection e5 with e5 e6 e7;subst e5 e6 e7
   have hes:mb.es=size:=by
    obtain ⟨a1,_⟩:=Q0k hs hb hm
    rw [a1];exact hsz _ (by simp only [vop.esz,hb])
   have key:∀ l h' q,l≤h'→h'≤n.getD (mb.n - off)→(q=PV.osl b (off+l) (some (h' - l))∨(q=.osl b (off+l) none∧n=none∧h'=mb.n - off))→KV q s.L=some r→∃ y,(Q1 (Q1e (some ⟨mb.z,mb.sh+off*mb.es,none⟩) (n.getD (mb.n - off)) mb.es l h' size) fun u=>vSl u fun a n c=>KE (.slice a n c) s.H)=some y∧Q y:=by
    intro l h' q h1 h2 hq h
    have:Q1e (some ⟨mb.z,mb.sh+off*mb.es,none⟩) (n.getD (mb.n - off)) mb.es l h' size=some (.slice (some ⟨mb.z,mb.sh+off*mb.es+l*size,none⟩) (h' - l) mb.es):=by
     unfold Q1e;rw [hes];simp only [Q3v h1,Q3v h2,Nat.beq_refl,Bool.and_self,oif]
    rw [this]
    refine hK.here hs (p:=q) ?_ h
    rcases hq with rfl | ⟨rfl,rfl,rfl⟩
    ·refine ⟨hlb,?_⟩
     rw [hm]
     refine ⟨by simp;omega,?_⟩
     rw [Nat.add_mul,← hes,Nat.add_assoc];rfl
    ·refine ⟨hlb,?_⟩
     rw [hm]
     refine ⟨by simp at g1 ⊢;omega,?_⟩
     rw [Nat.add_mul,← hes,Nat.add_assoc]
     simp;omega
   split at h
   ·refine key 0 (n.getD (mb.n - off)) (.osl b off n) (Nat.zero_le _) (Zd _) ?_ h
    cases n with
    | none=>right;exact ⟨rfl,rfl,rfl⟩
    | some w=>left;rfl
   ·obtain ⟨a1,a2⟩:=Qj h
    refine key _ (n.getD (mb.n - off)) _ (Q11 a1) (Zd _) ?_ a2
    cases n with
    | none=>right;exact ⟨rfl,rfl,rfl⟩
    | some w=>left;rfl
   ·obtain ⟨a1,a2⟩:=Qj h
    exact key 0 _ _ (Nat.zero_le _) (Q11 a1) (.inl rfl) a2
   ·obtain ⟨a1,a2⟩:=Qj h;simp only [Z8] at a1
    exact key _ _ _ (Q11 a1.1) (Q11 a1.2) (.inl rfl) a2
 ·simp at h
theorem Qq2 {t:TypeId} {x:Operand} {lo hi:Option Operand} (hP:X.P=XE.P) (ho:o.op=.slice t x lo hi none) (hs:StR s) (he:Q25 s env e) (hK:KOk s r KV KE Q) (h:vop X o env s.L KV=some r):∃ y,Q38 XE o e s.H KE=some y∧Q y:=by
 simp only [vop,ho] at h;simp only [Q38,ho]
 replace h:=ob h;obtain ⟨p,h1,h⟩:=h
 obtain ⟨v,ev1,r1⟩:=Q01 he h1
 rw [ev1];simp only [Q1]
 rw [← hP]
 split at h
 ·rename_i sx
  obtain rfl:v=.string sx:=r1
  simp only
  split at h
  ·rename_i hu
   simp only [hu]
   refine Q6d he h (fun hh h=>Q6d he h (fun ll h=>?_))
   obtain ⟨a1,a2⟩:=Qj h
   rw [a1];simp only [oif]
   exact hK.here hs (p:=.str _) rfl a2
  ·simp at h
 ·rename_i hns
  split at h
  ·rename_i el hu
   replace h:=ob h;obtain ⟨i,h2,h⟩:=h
   have key:(∀ n,vop.esz s.L p=some n→n=i.size)→(Q2d env hi fun h=>Q2d env lo fun l=>psl s.L p l h fun u=>KV u s.L)=some r →
     ∃ y,(match v with
      | .slice a n c=>match X.P.underlying t with
       | some (.slice e_1)=>Q1 (X.P.info? e_1) fun i=>Q17 e hi n fun h=>Q17 e lo 0 fun l=>Q1 (Q1e a n c l h i.size) fun u=>vSl u fun a n c=>KE (.slice a n c) s.H
       | _=>none
      | .string s_1=>match X.P.underlying t with
       | some .string=>Q17 e hi s_1.size fun h=>Q17 e lo 0 fun l=>oif (Nat.ble l h&&Nat.ble h s_1.size) (KE (.string (s_1.extract l h)) s.H) none
       | _=>none
      | _=>none)=some y∧Q y:=by
    intro hsz h
    obtain ⟨a,n,c,rfl⟩:∃ a n c,v=.slice a n c:=by
     have:∃ lo hi,(psl s.L p lo hi fun u=>KV u s.L)=some r:=by
      unfold Q2d at h
      split at h
      ·split at h
       ·exact ⟨_,_,h⟩
       ·replace h:=ob h;obtain ⟨q,_,h⟩:=h
        unfold Qwt at h;split at h
        ·obtain ⟨_,h⟩:=Qj h;exact ⟨_,_,h⟩
        ·simp at h
      ·replace h:=ob h;obtain ⟨q,_,h⟩:=h
       unfold Qwt at h;split at h
       ·obtain ⟨_,h⟩:=Qj h
        split at h
        ·exact ⟨_,_,h⟩
        ·replace h:=ob h;obtain ⟨q,_,h⟩:=h
         split at h
         ·obtain ⟨_,h⟩:=Qj h;exact ⟨_,_,h⟩
         ·simp at h
       ·simp at h
     obtain ⟨lo',hi',h'⟩:=this
     obtain ⟨a,n,c,e1,_⟩:=Qq1 hs r1 hK h' hsz
     exact ⟨a,n,c,e1⟩
    simp only [hu,h2,Q1]
    refine Q6d he h (fun hh h=>Q6d he h (fun ll h=>?_))
    obtain ⟨a',n',c',e1,hy⟩:=Qq1 hs r1 hK h hsz
    injection e1 with e1 e2 e3;subst e1 e2 e3
    exact hy
   split at h
   ·rename_i n hn
    split at h
    ·rename_i hb
     exact key (fun n' h'=>by rw [hn] at h';injection h' with h';rw [← h'];exact Z7 hb) h
    ·simp at h
   ·rename_i hn
    exact key (fun n' h'=>by rw [hn] at h';simp at h') h
  ·simp at h
theorem Qi0 {u:Ty}:∀ {ps:List (Nat×PV)} {qs:List (Nat×Value)} {s:S} {xs ys:List u.T} {B:Array Value} {L':LS},StR s→Qw (Qnk s) ps qs→RL s.N s.H u xs B.toList→Q9x u xs ps s.L=some (ys,L') →
  ∃ s' C,s'.L=L'∧s'.H=s.H∧Keep s s'∧StR s'∧Instr.fill (fun i=>some (i*u.size,u.size)) B qs=some C∧RL s'.N s'.H u ys C.toList
 | [],[],s,xs,ys,B,L',hs,_,hr,h=>by
  simp [Q9x] at h;obtain ⟨rfl,rfl⟩:=h
  exact ⟨s,B,rfl,rfl,Keep.refl s,hs,rfl,hr⟩
 | (i,p)::ps,(j,v)::qs,s,xs,ys,B,L',hs,⟨⟨e1,hv⟩,hp⟩,hr,h=>by
  simp only at e1 hv;subst e1
  simp only [Q9x] at h
  split at h
  ·rename_i hok
   replace h:=ob h;obtain ⟨⟨x,L1⟩,h1,h⟩:=h
   replace h:=ob h;obtain ⟨zs,h2,h⟩:=h
   have hc:=hv.cells hok
   obtain ⟨s1,l1,g1,u1,k1,t1,rr1,o1,_⟩:=Q56 u hs hc h1
   unfold Qqq at h2
   split at h2
   ·rename_i hlt
    have hlt:=Q6z hlt
    simp at h2;subst h2
    have hlx:=Rep.len _ rr1
    have hm:=Q1m (k:=u.size) hlt
    have hsize:B.size=xs.length*u.size:=by have:=hr.1;simpa using this
    have hvs:v.cells.size=u.size:=by simpa using hlx
    have hfold:(Array.foldl (fun cs (x:Value×Nat)=>cs.setIfInBounds (i*u.size+x.2) x.1) B v.cells.zipIdx).toList=lay B.toList (i*u.size) v.cells.toList:=by
     have:=Qah (i*u.size) v.cells.toList 0 B (by simp;omega)
     rw [Nat.add_zero] at this
     rw [← Array.foldl_toList];simpa using this
    have hr1:RL s1.N s1.H u (xs.set i x) (Array.foldl (fun cs (x:Value×Nat)=>cs.setIfInBounds (i*u.size+x.2) x.1) B v.cells.zipIdx).toList:=by
     rw [hfold]
     exact (hr.frame (fun z hz hl=>⟨k1.N hl hz,k1.fr z hl hz.1⟩)).set hlt rr1
    simp only at h
    rw [← l1] at h
    have hp1:Qw (Qnk s1) ps qs:=Qw.mono (fun a b hab=>⟨hab.1,k1.ER hab.2⟩) hp
    obtain ⟨s2,C,l2,g2,k2,t2,f2,rr2⟩:=Qi0 t1 hp1 hr1 h
    refine ⟨s2,C,l2,g2.trans g1,k1.trans k2,t2,?_,rr2⟩
    simp only [Instr.fill]
    have hcond:¬ ((decide (v.cells.size≠u.size) || decide (i*u.size+v.cells.size > B.size))=true):=by
     simp only [Bool.or_eq_true,Zj];omega
    simp only [hcond,if_false,Bool.false_eq_true]
    exact f2
   ·simp at h2
  ·simp at h
theorem Qdc {t:Ty} (hf:t.flat=true):∀ {ps:List (Nat×PV)} {qs:List (Nat×Value)} {s:S} {xs ys:List (List t.T)} {B:Array Value} {L':LS} {Kf:Nat→Option Nat},StR s→Qw (Qnk s) ps qs→(∀ z i,Kf z=some i→s.Lim z∧∃ k,hget s.H z=some k)→B.size=xs.length →
  (∀ i (hi:i < xs.length),∃ v,B.toList[i]? = some v∧Q9z (fun z=>Kf z=some i) s.H s.lim t xs[i] v)→(∀ v∈B.toList,Qa v v=true∧isCell v=true)→Qil t xs ps s.L=some (ys,L') →
  ∃ (s':S) (C:Array Value) (Kf':Nat→Option Nat),s'.L=L'∧s'.H=s.H∧Keep s s'∧StR s'∧Instr.fill (fun i=>some (i*1,1)) B qs=some C∧(∀ z i,Kf' z=some i→s'.Lim z∧∃ k,hget s'.H z=some k)∧C.size=xs.length∧ys.length=xs.length ∧
   (∀ i (hi:i < ys.length),∃ v,C.toList[i]? = some v∧Q9z (fun z=>Kf' z=some i) s.H s.lim t ys[i] v)∧(∀ v∈C.toList,Qa v v=true∧isCell v=true)
 | [],[],s,xs,ys,B,L',Kf,hs,_,hK,hB,hr,hp,h=>by
  simp [Qil] at h;obtain ⟨rfl,rfl⟩:=h
  exact ⟨s,B,Kf,rfl,rfl,Keep.refl s,hs,rfl,hK,hB,rfl,hr,hp⟩
 | (i,p)::ps,(j,v)::qs,s,xs,ys,B,L',Kf,hs,⟨⟨e1,hv⟩,hpp⟩,hK,hB,hr,hp,h=>by
  simp only at e1 hv;subst e1
  simp only [Qil] at h
  replace h:=ob h;obtain ⟨⟨x,L1⟩,h1,h⟩:=h
  replace h:=ob h;obtain ⟨zs,h2,h⟩:=h
  have hr2:LR0 s p v:=by
   have h4':=h1
   unfold Q7d at h4'
   split at h4'
   ·exact hv
   ·exact hv
   ·exact hv
   ·simp at h4'
  obtain ⟨s1,l1,g1,u1,k1,t1,q2,lm1,_,al1⟩:=Qbz hs hf hr2 h1
  unfold Qqq at h2
  split at h2
  ·rename_i hlt
   have hlt:=Q6z hlt
   simp at h2;subst h2
   have hcell:v.cells.toList=[v]∧Qa v v=true∧isCell v=true:=by
    rcases q2 with ⟨_,rfl⟩ | ⟨_,_,_,rfl,_⟩<;>exact ⟨rfl,by simp [Qa],rfl⟩
   have hvs:v.cells.size=1:=by have:=congrArg List.length hcell.1;simpa using this
   have hfold:(Array.foldl (fun cs (x:Value×Nat)=>cs.setIfInBounds (i*1+x.2) x.1) B v.cells.zipIdx).toList=lay B.toList i [v]:=by
    have:=Qah (i*1) v.cells.toList 0 B (by simp;omega)
    rw [Nat.add_zero,hcell.1,Nat.mul_one] at this
    rw [← Array.foldl_toList]
    have hz:v.cells.zipIdx.toList=[v].zipIdx 0:=by rw [Array.toList_zipIdx,hcell.1]
    rw [hz,Nat.mul_one];exact this
   let Kf1:Nat→Option Nat:=fun z=>@ite _ (s1.Lim z∧¬ s.Lim z) (Classical.propDecidable _) (some i) (Kf z)
   have kf1:∀ z,(s1.Lim z∧¬ s.Lim z)→Kf1 z=some i:=fun z hz=>if_pos hz
   have kf0:∀ z,¬ (s1.Lim z∧¬ s.Lim z)→Kf1 z=Kf z:=fun z hz=>if_neg hz
   have hlen1:(Array.foldl (fun cs (x:Value×Nat)=>cs.setIfInBounds (i*1+x.2) x.1) B v.cells.zipIdx).size=(xs.set i x).length:=by
    have:=congrArg List.length hfold
    rw [Qby _ _ _ (by simp;omega)] at this
    simp only [Array.length_toList,List.length_set] at this ⊢;omega
   simp only at h
   rw [← l1] at h
   have hp1:Qw (Qnk s1) ps qs:=Qw.mono (fun a b hab=>⟨hab.1,k1.ER hab.2⟩) hpp
   obtain ⟨s2,C,Kf2,l2,g2,k2,t2,f2,kk2,hC,hy,rr2,hp2⟩:=Qdc hf (Kf:=Kf1) t1 hp1 (fun z q hq=>by
    by_cases hz:s1.Lim z∧¬ s.Lim z
    ·rw [g1];exact ⟨hz.1,al1 z hz.1 hz.2⟩
    ·rw [kf0 z hz] at hq;rw [g1];exact ⟨lm1 z (hK z q hq).1,(hK z q hq).2⟩) hlen1 (fun q hq=>by
     rw [hfold,Qaj _ _ _ (by simp;omega)]
     simp only [List.length_set] at hq
     by_cases hqi:q=i
     ·subst hqi
      refine ⟨v,if_pos rfl,?_⟩
      simp only [List.getElem_set_self]
      rw [k1.lim];exact q2.mono hf (fun z hz=>⟨kf1 z hz,by rw [g1]⟩)
     ·obtain ⟨w,w1,w2⟩:=hr q hq
      refine ⟨w,by rw [if_neg hqi];exact w1,?_⟩
      rw [List.getElem_set_ne (by omega),k1.lim]
      exact w2.mono hf (fun z hz=>⟨by rw [kf0 z (fun hc=>hc.2 (hK z q hz).1)];exact hz,by rw [g1]⟩)) (fun w hw=>by
     rw [hfold] at hw
     rcases Qqi hw with hw | hw
     ·exact hp w hw
     ·simp at hw;subst hw;exact hcell.2) h
   refine ⟨s2,C,Kf2,l2,g2.trans g1,k1.trans k2,t2,?_,kk2,by rw [hC];simp,by rw [hy];simp,fun q hq=>?_,hp2⟩
   ·simp only [Instr.fill]
    have hcond:¬ ((decide (v.cells.size≠1) || decide (i*1+v.cells.size > B.size))=true):=by
     simp only [Bool.or_eq_true,Zj];omega
    simp only [hcond,if_false,Bool.false_eq_true]
    exact f2
   ·obtain ⟨w,w1,w2⟩:=rr2 q hq
    exact ⟨w,w1,by rw [g1,k1.lim] at w2;exact w2⟩
  ·simp at h2
theorem Qco {t:TypeId} {len:Nat} {parts:Array (Nat×Operand)} (hP:X.P=XE.P) (ho:o.op=.buildSlice t len parts) (hs:StR s) (he:Q25 s env e) (hK:KOk s r KV KE Q) (h:vop X o env s.L KV=some r):∃ y,Q38 XE o e s.H KE=some y∧Q y:=by
 simp only [vop,ho] at h;simp only [Q38,ho]
 replace h:=ob h;obtain ⟨ps,h1,h⟩:=h
 replace h:=ob h;obtain ⟨⟨el,size,bytes,z⟩,h2,h⟩:=h
 replace h:=ob h;obtain ⟨u,h3,h⟩:=h
 obtain ⟨qs,ev1,r1⟩:=Q63 he h1
 rw [ev1,← hP,h2];simp only [Q1]
 split at h
 ·rename_i hle hz hsz
  have hsz:=Z7 hsz
  split at h
  ·rename_i hown t'
   split at h
   ·rename_i hfl
    replace h:=ob h;obtain ⟨⟨ys,L1⟩,h4,h⟩:=h
    rw [hle];simp only
    have hs1:(1:Nat)=size:=hsz
    subst hs1
    have hz2:=Qie hz
    have hcells:(List.replicate len z.cells.toList).flatten=List.replicate len (.slice none 0 0):=by
     rw [hz2];clear h4
     induction len with
     | zero=>rfl
     | succ n ih=>rw [List.replicate_succ,Ze,List.replicate_succ];simp
    rw [hcells]
    obtain ⟨s1,C,Kf,l1,g1,k1,t1,f1,kk,hC,hy,rr,hpl⟩:=Qdc hfl (Kf:=fun _=>none) hs r1 (fun z i e=>by simp at e) (B:=(List.replicate len (Value.slice none 0 0)).toArray) (by simp) (fun i hi=>by
     simp only [List.length_replicate] at hi
     exact ⟨.slice none 0 0,by simp [hi],.inl ⟨by simp,rfl⟩⟩) (fun v hv=>by
     simp at hv;rw [hv.2];exact ⟨by simp [Qa],rfl⟩) h4
    rw [f1];simp only
    have hlys:ys.length=len:=by rw [hy];simp
    have hcl:C.size=len*1:=by rw [hC];simp
    have hall:C.toList.all isCell=true:=List.all_eq_true.2 (fun v hv=>(hpl v hv).2)
    rw [hall,hcl,Nat.beq_refl]
    simp only
    obtain ⟨s2,e1,e2,k2,t2,hr2,_⟩:=t1.pushRows hfl (ys:=ys) (vs:=C.toList) Kf kk (by simp only [Array.length_toList];omega) (fun i hi=>by
     obtain ⟨v,w1,w2⟩:=rr i hi
     exact ⟨v,w1,by rw [g1,k1.lim];exact w2⟩) (fun v hv=>(hpl v hv).1)
    simp only at h
    have hh:Q0d s.H C.toList=s2.H:=by rw [e2,g1]
    have hH:s.H.length=s1.H.length:=by rw [g1]
    rw [hh,hH]
    rw [← l1,← e1] at h
    refine hK _ _ s2 (k1.trans k2) t2 (ER.of0 ?_) h
    rw [hlys] at hr2;exact hr2
   ·simp at h
  ·rename_i u _ _ hne _
   replace h:=ob h;obtain ⟨⟨ys,L1⟩,h4,h⟩:=h
   rw [hle];simp only
   have hr0:RL s.N s.H u (List.replicate len (Q8g u)) ((List.replicate len z.cells.toList).flatten.toArray).toList:=by
    simpa using RL.rep len (Q9g s hz)
   obtain ⟨s1,C,l1,g1,k1,t1,f1,rr⟩:=Qi0 hs r1 hr0 h4
   rw [hsz] at f1
   rw [f1];simp only
   have hlys:ys.length=len:=by
    have:∀ {ps:List (Nat×PV)} {xs ys:List u.T} {L L':LS},Q9x u xs ps L=some (ys,L')→ys.length=xs.length:=by
     intro ps
     induction ps with
     | nil=>intro xs ys L L' h;simp [Q9x] at h;rw [h.1]
     | cons p ps ih =>
      intro xs ys L L' h
      obtain ⟨i,pv⟩:=p
      simp only [Q9x] at h
      split at h
      ·replace h:=ob h;obtain ⟨x,_,h⟩:=h
       replace h:=ob h;obtain ⟨zs,hz,h⟩:=h
       unfold Qqq at hz;split at hz
       ·simp at hz;subst hz;rw [ih h];simp
       ·simp at hz
      ·simp at h
    have:=this h4;simpa using this
   have hcl:C.size=len*size:=by have:=rr.1;rw [hlys,hsz] at this;simpa using this
   have hall:C.toList.all isCell=true:=by
    refine List.all_eq_true.2 (fun v hv=>?_)
    obtain ⟨i,hi,ei⟩:=List.getElem_of_mem hv
    have hpos:=Ty.size_pos u
    have hq:i / u.size < ys.length:=by
     rw [Nat.div_lt_iff_lt_mul hpos,← rr.1];exact hi
    have:=Rep.cell _ (rr.2 _ hq) v
    refine this ?_
    have hmod:=Nat.mod_lt i hpos
    have hdm:=Nat.div_add_mod i u.size
    refine List.mem_iff_getElem?.2 ⟨i % u.size,?_⟩
    rw [Q2b,if_pos hmod,show i / u.size*u.size+i % u.size=i by rw [Nat.mul_comm];exact hdm,Z6 hi,ei]
   rw [hall,hcl,Nat.beq_refl]
   simp only
   obtain ⟨s2,e1,e2,k2,t2,hr2⟩:=Q3z t1 rr
   simp only at h
   have hh:Q0d s.H C.toList=s2.H:=by rw [e2,g1]
   have hH:s.H.length=s1.H.length:=by rw [g1]
   rw [hh,hH]
   rw [← l1,← e1] at h
   refine hK _ _ s2 (k1.trans k2) t2 (ER.of0 ?_) h
   rw [hlys,hsz] at hr2;exact hr2
 ·simp at h
theorem Q9e (hs:StR s) {p:PV} {v:Value} (hr:ER s p v) {u:Ty} {bytes:Nat} {ys:List u.T} {news:List Value} (hn:RL s.N s.H u ys news) (hK:KOk s r KV KE Q) (h:Qc4 u bytes p ys s.L KV=some r) :
  ∃ y,Q4s u.size bytes v news ys.length s.H KE=some y∧Q y:=by
 unfold Qc4 at h
 unfold Q4s
 split at h
 ·obtain rfl:v=_:=hr
  obtain ⟨hroom,h⟩:=Qj h
  cases hl:ys.length with
  | zero =>
   have:ys=[]:=Z1 hl
   subst this
   simp only [Q28,Q1,vSl]
   obtain ⟨s',e1,e2,e3,hk,hs',_⟩:=hs.push0 u
   rw [← e1] at h;rw [← e2]
   refine hK (.osl s.L.bl.length 0 none) _ s' hk hs' (ER.of0 (p:=.osl s.L.bl.length 0 none) ⟨by rw [e1,Qk];omega,?_⟩) h
   rw [e3];simp
  | succ q =>
   rw [hl] at hroom
   simp only [Q28,hroom,oif,Q1,vSl]
   obtain ⟨s',e1,e2,hk,hs',hr'⟩:=Q3z hs hn
   rw [← e1] at h;rw [← e2]
   rw [hl] at hr'
   exact hK _ _ s' hk hs' (ER.of0 hr') h
 ·rename_i b off no
  split at h
  ·rename_i ver w xs hb
   replace h:=ob h;obtain ⟨x,h1,h⟩:=h
   obtain ⟨hroom,h⟩:=Qj h
   have e0:=Qp h1
   injection e0 with e0;subst e0
   have:=Qg h1;subst this
   have hr:LR0 s (.osl b off no) v:=hr
   obtain ⟨hlb,hr⟩:=hr
   cases hm:s.μ b with
   | none =>
    rw [hm] at hr;obtain ⟨rfl,_,rfl⟩:=hr
    have hx:=Q5z hs hb hm;subst hx
    have hcut:cut ([]:List w.T) 0 no=[]:=by cases no<;>simp [cut]
    rw [hcut] at h hroom
    obtain ⟨s1,l1,g1,u1,k1,t1,_,_⟩:=hs.kill hb rfl false
    have g1':s1.H=s.H:=g1
    have hn1:RL s1.N s1.H w ys news:=hn.frame (fun z hz hl=>⟨k1.N hl hz,k1.fr z hl hz.1⟩)
    simp only [Zb,Zo,List.nil_append] at h hroom
    cases hl:ys.length with
    | zero =>
     have:ys=[]:=Z1 hl
     subst this
     simp only [Q28,Q1,vSl]
     obtain ⟨s',e1,e2,e3,hk,hs',_⟩:=t1.push0 w
     have hlen:s1.L.bl.length=s.L.bl.length:=by rw [l1,Q36]
     rw [← l1,← e1] at h;rw [← g1',← e2]
     refine hK (.osl s.L.bl.length 0 none) _ s' (k1.trans hk) hs' (ER.of0 (p:=.osl s.L.bl.length 0 none) ⟨by rw [e1,Qk];omega,?_⟩) h
     rw [← hlen,e3];simp
    | succ q =>
     rw [hl] at hroom
     simp only [Q28,hroom,oif,Q1,vSl]
     obtain ⟨s',e1,e2,hk,hs',hr'⟩:=Q3z t1 hn1
     have hlen:s1.L.bl.length=s.L.bl.length:=by rw [l1,Q36]
     rw [← l1,← e1] at h;rw [← g1',← e2]
     rw [hl] at hr'
     rw [hlen] at hr'
     exact hK _ _ s' (k1.trans hk) hs' (ER.of0 hr') h
   | some m =>
    rw [hm] at hr;obtain ⟨g0,rfl⟩:=hr
    obtain ⟨a1,a2,k,a3,a4,a5,a6,a7⟩:=Q0k hs hb hm
    obtain ⟨s1,l1,g1,u1,k1,t1,_,_⟩:=hs.kill hb rfl true
    have g1':s1.H=s.H.set m.z none:=by rw [g1,hm]
    have hn1:RL s1.N s1.H w ys news:=hn.frame (fun z hz hl=>⟨k1.N hl hz,k1.fr z hl hz.1⟩)
    have hoff:off≤xs.length:=by omega
    have hln:no.getD (m.n - off)=(cut xs off no).length:=by
     cases no with
     | none=>simp [cut];omega
     | some l=>simp [cut] at g0 ⊢;omega
    have hle:no.getD (m.n - off)≤(xs.drop off).length:=by simp;omega
    have h2:=RL.sub a4 a5 (show off+no.getD (m.n - off)≤xs.length by simp at hle;omega)
    have hcutE:(xs.drop off).take (no.getD (m.n - off))=cut xs off no:=by
     cases no with
     | none=>simp only [cut,Option.getD_none];rw [Zs (by simp;omega)]
     | some l=>rfl
    rw [hcutE] at h2
    have hcell:(k.cells.drop (m.sh+off*w.size)).take (no.getD (m.n - off)*w.size)=(k.cells.take (m.sh+off*m.es+no.getD (m.n - off)*w.size)).drop (m.sh+off*m.es):=by
     rw [a1,List.drop_take];congr 1;omega
    rw [hcell] at h2
    have h1':RL s1.N s1.H w (cut xs off no) ((k.cells.take (m.sh+off*m.es+no.getD (m.n - off)*w.size)).drop (m.sh+off*m.es)):=h2.frame (fun z hz hl=>⟨k1.N hl hz,k1.fr z hl hz.1⟩)
    have hroom':Nat.ble ((no.getD (m.n - off)+ys.length)*bytes) Q7=true:=by rw [hln];exact hroom
    have hfull:Nat.ble (m.sh+off*m.es+no.getD (m.n - off)*w.size) k.cells.length=true:=by
     refine Q3v ?_
     rw [a1]
     have:(off+no.getD (m.n - off))*w.size≤xs.length*w.size:=Zk _ (by omega)
     rw [Nat.add_mul] at this;omega
    have hes:Nat.beq m.es w.size=true:=by rw [a1];exact Nat.beq_refl _
    simp only [Q28,a3,Q1,(a6 rfl).1,hes,hfull,hroom',Bool.not_false,Bool.and_self,oif,vSl]
    obtain ⟨s',e1,e2,hk,hs',hr'⟩:=Q3z t1 (h1'.append hn1)
    have hlen:s1.L.bl.length=s.L.bl.length:=by rw [l1,Q36]
    have hHl:s1.H.length=s.H.length:=by rw [g1'];simp
    rw [← l1,← e1] at h
    have hfin:(Value.slice (some ⟨s.H.length,0,none⟩) (no.getD (m.n - off)+ys.length) w.size)=.slice (some ⟨s1.H.length,0,none⟩) ((cut xs off no)++ys).length w.size:=by rw [hHl,Zf,hln]
    rw [← g1',← e2]
    refine hK _ _ s' (k1.trans hk) hs' (ER.of0 ?_) h
    rw [hfin,← hlen];exact hr'
  ·simp at h
 ·rename_i b i ver w x0
  split at h
  ·rename_i v' t xs hb
   split at h
   ·rename_i hv
    have hv:=Z7 hv
    replace h:=ob h;obtain ⟨x,h1,h⟩:=h
    obtain ⟨hroom,h⟩:=Qj h
    have e0:=Qp h1
    injection e0 with e0;subst e0
    have:=Qg h1;subst this
    obtain ⟨hlb,_,hval⟩:LR0 s (.rw b i ver w x0) v:=hr
    obtain ⟨hfl,hrow,_⟩:=(hval _ hb).2 hv
    rcases hrow with ⟨rfl,rfl⟩ | ⟨z,oo,k,rfl,q1,q2,q3,q4,q5,q6⟩
    ·obtain ⟨s1,l1,g1,u1,k1,t1,lm1,_⟩:=hs.detach (i:=i) hb none (fun z h=>by simp at h)
     have hn1:RL s1.N s1.H w ys news:=hn.frame (fun z hz hl=>⟨k1.N hl hz,k1.fr z hl hz.1⟩)
     have hlen:s1.L.bl.length=s.L.bl.length:=by rw [l1,Q0t]
     simp only [Zb,Zo,List.nil_append] at h hroom
     cases hl:ys.length with
     | zero =>
      have:ys=[]:=Z1 hl
      subst this
      simp only [Q28,Q1,vSl]
      obtain ⟨s',e1,e2,e3,hk,hs',_⟩:=t1.push0 w
      rw [← l1,← e1] at h;rw [← g1,← e2]
      refine hK (.osl s.L.bl.length 0 none) _ s' (k1.trans hk) hs' (ER.of0 (p:=.osl s.L.bl.length 0 none) ⟨by rw [e1,Qk];omega,?_⟩) h
      rw [← hlen,e3];simp
     | succ q =>
      rw [hl] at hroom
      simp only [Q28,hroom,oif,Q1,vSl]
      obtain ⟨s',e1,e2,hk,hs',hr'⟩:=Q3z t1 hn1
      rw [← l1,← e1] at h;rw [← g1,← e2]
      rw [hl] at hr'
      rw [hlen] at hr'
      exact hK _ _ s' (k1.trans hk) hs' (ER.of0 hr') h
    ·obtain ⟨s1,l1,g1,u1,k1,t1,lm1,_⟩:=hs.detach (i:=i) hb (some z) (fun y h=>by injection h with h;subst h;exact q1)
     have hn1:RL s1.N s1.H w ys news:=hn.frame (fun z hz hl=>⟨k1.N hl hz,k1.fr z hl hz.1⟩)
     have hlen:s1.L.bl.length=s.L.bl.length:=by rw [l1,Q0t]
     have hz:s1.Lim z:=(lm1 z).2 (.inr rfl)
     obtain ⟨s2,l2,g2,u2,k2,t2,_,_⟩:=t1.dropLim hz
     have hn2:RL s2.N s2.H w ys news:=hn1.frame (fun z hz hl=>⟨k2.N hl hz,k2.fr z hl hz.1⟩)
     have h2:RL s2.N s2.H w x0 ((k.cells.take (oo+x0.length*w.size)).drop oo):=by
      refine ⟨by rw [List.length_drop,List.length_take];have:=q5.1;omega,fun j hj=>?_⟩
      have hm:=Q1m (k:=w.size) hj
      have:=Rep.flat (M:=s2.N) (G:=s2.H) w hfl (q6 j hj)
      have e2:seg ((k.cells.take (oo+x0.length*w.size)).drop oo) (j*w.size) w.size=(k.cells.drop (oo+j*w.size)).take w.size:=by
       unfold seg;rw [List.drop_drop,List.drop_take,List.take_take,Nat.min_eq_left (by omega)]
      rw [e2];exact this
     have hfull:Nat.ble (oo+x0.length*w.size) k.cells.length=true:=Q3v q5.1
     simp only [Q28,q2,Q1,q3,Nat.beq_refl,hfull,hroom,Bool.not_false,Bool.and_self,oif,vSl]
     obtain ⟨s',e1,e2,hk,hs',hr'⟩:=Q3z t2 (h2.append hn2)
     have hHl:s2.H.length=s.H.length:=by rw [g2,g1];simp
     have hHe:s2.H=s.H.set z none:=by rw [g2,g1]
     have hbl:s2.L=Q2h s.L b ⟨v'+1,true,.rows t xs (some i)⟩:=by rw [l2,l1]
     rw [← hbl,← e1] at h
     rw [← hHe,← e2]
     refine hK _ _ s' ((k1.trans k2).trans hk) hs' (ER.of0 ?_) h
     rw [hHl,Zf,l2,hlen] at hr';exact hr'
   ·simp at h
  ·simp at h
 ·simp at h
theorem Qdd (hs:StR s) {t:Ty} {p:PV} {v:Value} (hr:ER s p v) {xs:List (List t.T)} {L':LS} (h:Qik s.L t p=some (xs,L')) :
  t.flat=true∧∃ (s':S) (cells:List Value) (Kf:Nat→Option Nat),s'.L=L'∧s'.H=s.H∧Keep s s'∧StR s'∧(∀ z,s.Lim z→s'.Lim z)∧(∀ z i,Kf z=some i→s'.Lim z∧¬ s.Lim z∧∃ k,hget s.H z=some k)∧cells.length=xs.length∧(∀ w∈cells,Qa w w=true) ∧
   (∀ i (hi:i < xs.length),∃ w,cells[i]? = some w∧Q9z (fun z=>Kf z=some i) s.H s.lim t xs[i] w) ∧
   ((v=.slice none 0 0∧xs=[])∨∃ z o k,v=.slice (some ⟨z,o,none⟩) xs.length 1∧hget s.H z=some k∧k.ro=false∧o+xs.length≤k.cells.length∧cells=(k.cells.take (o+xs.length)).drop o∧s'.Lim z∧Kf z=none∧¬ s.Lim z):=by
 unfold Qik at h
 split at h
 ·rename_i b
  split at h
  ·rename_i ver u xs0 hb
   obtain ⟨x,h1,h⟩:=ob h
   simp at h;obtain ⟨rfl,rfl⟩:=h
   have e0:=Qp h1
   injection e0 with e0;injection e0 with e0;subst e0
   have:=Qg h1;subst this
   have hr:LR0 s (.osl b 0 none) v:=hr
   obtain ⟨hlb,hr⟩:=hr
   obtain ⟨_,hfl,hrow⟩:=Q09 hs hb
   obtain ⟨s',e1,e2,e3,hk,hs',hl,ho,_⟩:=hs.killR hb rfl false
   let Kf:Nat→Option Nat:=fun z=>match s.Kid z with | some p=>if p.1=b then some p.2 else none | none=>none
   have kf1:∀ z i,s.Kid z=some (b,i)→Kf z=some i:=by intro z i e;simp only [Kf];rw [e];simp
   have kf2:∀ z i,Kf z=some i→s.Kid z=some (b,i):=by
    intro z i e
    simp only [Kf] at e
    split at e
    ·rename_i q hq
     split at e
     ·rename_i e1
      injection e with e2
      rw [hq];congr 1;ext<;>simp_all
     ·simp at e
    ·simp at e
   have kL:∀ z i,Kf z=some i→s'.Lim z∧¬ s.Lim z∧∃ k,hget s.H z=some k:=fun z i e=>⟨(hl z).2 (.inr (.inr ⟨i,kf2 z i e⟩)),(hs.kl z _ (kf2 z i e)).2.2.1,hs.ka z _ (kf2 z i e)⟩
   refine ⟨hfl,?_⟩
   rcases hrow with ⟨hm,rfl⟩ | ⟨m,k,hm,a1,a2,a3,a4,a5,a6,a7⟩
   ·rw [hm] at hr;obtain ⟨_,_,rfl⟩:=hr
    exact ⟨s',[],Kf,e1,e2,hk,hs',fun z hz=>(hl z).2 (.inl hz),kL,rfl,by simp,fun i hi=>absurd hi (by simp),.inl ⟨rfl,rfl⟩⟩
   ·rw [hm] at hr;obtain ⟨_,rfl⟩:=hr
    have hlc:((k.cells.take (m.sh+xs0.length)).drop m.sh).length=xs0.length:=by rw [List.length_drop,List.length_take];have:=a4.1;omega
    refine ⟨s',(k.cells.take (m.sh+xs0.length)).drop m.sh,Kf,e1,e2,hk,hs',fun z hz=>(hl z).2 (.inl hz),kL,hlc,fun w hw=>?_,fun i hi=>?_,.inr ⟨m.z,m.sh,k,by simp [a2,a1],a3,a5,a4.1,rfl,(hl _).2 (.inr (.inl ⟨m,hm,rfl⟩)),?_,hs.lm b _ m hb hm⟩⟩
    ·refine a4.2 w ?_
     rw [List.drop_take] at hw
     exact List.mem_of_mem_take hw
    ·obtain ⟨w,w1,w2⟩:=a7 i hi (by simp)
     refine ⟨w,?_,w2.mono hfl (fun z hz=>⟨kf1 z i hz,rfl⟩)⟩
     rw [Zp,List.getElem?_take_of_lt (by omega)];exact w1
    ·cases e:Kf m.z with
     | none=>rfl
     | some i=>exact absurd rfl (hs.kid_ne (kf2 _ i e) hb hm)
  ·simp at h
 ·simp at h
theorem Qju (hs:StR s) {p:PV} {v:Value} (hr:ER s p v) {t:Ty} (hf:t.flat=true) {bytes:Nat} {ys:List (List t.T)} {news:List Value} {Kf:Nat→Option Nat} (hK2':∀ z i,Kf z=some i→s.Lim z∧∃ k,hget s.H z=some k) (hl:news.length=ys.length) (hp:∀ w∈news,Qa w w=true)
  (hn:∀ i (hi:i < ys.length),∃ w,news[i]? = some w∧Q9z (fun z=>Kf z=some i) s.H s.lim t ys[i] w) (hK:KOk s r KV KE Q) (h:Qfo t bytes p ys s.L KV=some r) :
  ∃ y,Q4s 1 bytes v news ys.length s.H KE=some y∧Q y:=by
 have hK2:∀ z i,Kf z=some i→s.Lim z:=fun z i e=>(hK2' z i e).1
 unfold Qfo at h
 unfold Q4s
 have nilCase:∀ (s1:S),StR s1→Keep s s1→s1.H=s.H→s1.L.bl.length=s.L.bl.length→(∀ z,s.Lim z→s1.Lim z)→Nat.ble (ys.length*bytes) Q7=true→KV (.osl s.L.bl.length 0 none) (Qv s1.L (.rows t ys none))=some r →
   ∃ y,(Q1 (Q28 1 bytes (.slice none 0 0) news ys.length s.H) fun r=>vSl r.1 fun a n c=>KE (.slice a n c) r.2)=some y∧Q y:=by
  intro s1 t1 k1 g1 hlen hlm hroom h
  cases hl0:ys.length with
  | zero =>
   have:ys=[]:=Z1 hl0
   subst this
   simp only [Q28,Q1,vSl]
   obtain ⟨s',e1,e2,e3,hk,hs',_⟩:=t1.push0R t hf
   rw [← e1] at h;rw [← g1,← e2]
   refine hK (.osl s.L.bl.length 0 none) _ s' (k1.trans hk) hs' (ER.of0 (p:=.osl s.L.bl.length 0 none) ⟨by rw [e1,Qk];omega,?_⟩) h
   rw [← hlen,e3];simp
  | succ q =>
   rw [hl0] at hroom
   simp only [Q28,hroom,oif,Q1,vSl]
   obtain ⟨s',e1,e2,hk,hs',hr',_⟩:=t1.pushRows hf Kf (fun z i e=>⟨hlm z (hK2 z i e),by rw [g1];exact (hK2' z i e).2⟩) hl (fun i hi=>by rw [g1,k1.lim];exact hn i hi) hp
   rw [← e1] at h;rw [← g1,← e2]
   rw [hl0,hlen] at hr'
   exact hK _ _ s' (k1.trans hk) hs' (ER.of0 hr') h
 split at h
 ·obtain rfl:v=_:=hr
  obtain ⟨hroom,h⟩:=Qj h
  exact nilCase s hs (Keep.refl s) rfl rfl (fun _ h=>h) hroom h
 ·replace h:=ob h;obtain ⟨⟨xs,L1⟩,h1,h⟩:=h
  obtain ⟨hroom,h⟩:=Qj h
  obtain ⟨_,s1,cells,Kf1,l1,g1,k1,t1,lm1,kk1,hcl,hcp,hc,hv⟩:=Qdd hs hr h1
  simp only at h hroom
  have hlen:s1.L.bl.length=s.L.bl.length:=by
   rw [l1]
   unfold Qik at h1
   split at h1
   ·split at h1
    ·obtain ⟨x,_,h1⟩:=ob h1
     simp at h1;rw [← h1.2,Q36]
    ·simp at h1
   ·simp at h1
  rw [← l1] at h
  rcases hv with ⟨rfl,rfl⟩ | ⟨z,o,k,rfl,q1,q2,q3,q4,q5,q6,hzn⟩
  ·simp only [Zb,Zo,List.nil_append] at h hroom
   rw [hlen] at h
   exact nilCase s1 t1 k1 g1 hlen lm1 hroom h
  ·obtain ⟨s2,l2,g2,u2,k2,t2,lm2,kd2⟩:=t1.dropLim q5
   have hfull:Nat.ble (o+xs.length*1) k.cells.length=true:=Q3v (by omega)
   simp only [Q28,q1,Q1,q2,Nat.beq_refl,hfull,hroom,Bool.not_false,Bool.and_self,oif,vSl]
   let Kf3:Nat→Option Nat:=fun w=>match Kf1 w with | some i=>some i | none=>match Kf w with | some i=>if w=z then none else some (xs.length+i) | none=>none
   have kz:∀ w i,Kf w=some i→Kf1 w=none:=by
    intro w i e
    cases e1:Kf1 w with
    | none=>rfl
    | some j=>exact absurd (hK2 w i e) (kk1 w j e1).2.1
   obtain ⟨s',e1,e2,hk,hs',hr',_⟩:=t2.pushRows hf (ys:=xs++ys) (vs:=cells++news) Kf3 (fun w i e=>by
    rw [lm2]
    simp only [Kf3] at e
    split at e
    ·rename_i j e1
     refine ⟨(kk1 w j e1).1,?_⟩
     rw [g2,g1,Qh (fun e=>by rw [← e,q6] at e1;simp at e1)];exact (kk1 w j e1).2.2
    ·split at e
     ·rename_i j e1
      refine ⟨lm1 w (hK2 w j e1),?_⟩
      rw [g2,g1,Qh (fun e:z=w=>hzn (by rw [e];exact hK2 w j e1))];exact (hK2' w j e1).2
     ·simp at e) (by simp [hcl,hl]) (fun i hi=>by
    rw [g2,g1,k2.lim,k1.lim]
    by_cases hix:i < xs.length
    ·obtain ⟨w,w1,w2⟩:=hc i hix
     refine ⟨w,by rw [List.getElem?_append_left (by omega)];exact w1,?_⟩
     rw [List.getElem_append_left hix]
     refine w2.mono hf (fun z' hz'=>⟨by simp only [Kf3];rw [hz'],Qh (fun e=>?_)⟩)
     rw [← e,q6] at hz';simp at hz'
    ·simp only [Zf] at hi
     obtain ⟨w,w1,w2⟩:=hn (i - xs.length) (by omega)
     refine ⟨w,by rw [Zq (by omega),hcl];exact w1,?_⟩
     rw [List.getElem_append_right (by omega)]
     have hzl:∀ z',Kf z'=some (i - xs.length)→z'≠z:=fun z' hz' e=>by
      subst e
      exact hzn (hK2 _ _ hz')
     refine w2.mono hf (fun z' hz'=>⟨by simp only [Kf3];rw [kz z' _ hz',hz'];simp only;rw [if_neg (hzl z' hz')];congr 1;omega,Qh (fun e=>hzl z' hz' e.symm)⟩)) (fun w hw=>by
    rcases List.mem_append.1 hw with hw | hw
    ·exact hcp w hw
    ·exact hp w hw)
   have hHl:s2.H.length=s.H.length:=by rw [g2,g1];simp
   have hHe:s2.H=s.H.set z none:=by rw [g2,g1]
   rw [← l2,← e1] at h
   rw [Nat.mul_one,← q4,← hHe,← e2]
   refine hK _ _ s' ((k1.trans k2).trans hk) hs' (ER.of0 ?_) h
   rw [hHl,Zf] at hr';exact hr'
theorem Qjv (hs:StR s) {p:PV} {v:Value} (hr:ER s p v) {w:Ty} {ys:List w.T} (h:Qfp s.L p w=some ys) :
  ((∃ a n c,v=.slice a n c)∨∃ q,v=.string q)∧∃ cells,RL s.N s.H w ys cells∧∀ lim n (a:Addr),Qjo lim w.size a n v s.H=Q1 (Q1u s.H lim a (cells.take (min ys.length n*w.size))) fun H'=>some (min ys.length n,H'):=by
 have key:∀ hnr:(∀ u,w=Ty.sl u→Qdo s.L p=false),Q0y s.L p w=some ys→((∃ a n c,v=.slice a n c)∨∃ q,v=.string q)∧∃ cells,RL s.N s.H w ys cells∧∀ lim n (a:Addr),Qjo lim w.size a n v s.H=Q1 (Q1u s.H lim a (cells.take (min ys.length n*w.size))) fun H'=>some (min ys.length n,H'):=by
  intro hnr h
  obtain ⟨cells,a,c,rfl,hsc,hrl⟩:=Q52 hs hr h hnr
  refine ⟨.inl ⟨_,_,_,rfl⟩,cells,hrl,fun lim n b=>?_⟩
  unfold Qf at hsc
  split at hsc
  ·rename_i e
   simp only [Value.slice.injEq] at e
   obtain ⟨rfl,e2,rfl⟩:=e
   simp at hsc;subst hsc
   rw [e2];simp [Qjo]
  ·rename_i a' n' c' e
   simp only [Value.slice.injEq] at e
   obtain ⟨rfl,rfl,rfl⟩:=e
   simp only [Qjo]
   have:Q0m s.H a' (min ys.length n*w.size)=some (cells.take (min ys.length n*w.size)):=by
    have hle:min ys.length n*w.size≤ys.length*w.size:=Zk _ (Nat.min_le_left _ _)
    cases hm:ys.length*w.size with
    | zero =>
     have h0:min ys.length n*w.size=0:=by omega
     rw [h0];simp [Q0m]
    | succ q =>
     rw [hm] at hsc
     simp only [Q0m,Qx] at hsc
     obtain ⟨k,hk,hx⟩:=Q2 hsc
     split at hx
     ·rename_i hb
      have hb:=Zi hb
      simp at hx;subst hx
      cases hq:min ys.length n*w.size with
      | zero=>simp [Q0m]
      | succ q' =>
       simp only [Q0m,Qx,hk,Q1]
       have:Nat.ble (a'.off+(q'+1)) k.cells.length=true:=Nat.ble_eq_true_of_le (by omega)
       rw [this]
       simp only [List.take_take]
       rw [Nat.min_eq_left (by omega)]
     ·simp at hx
   rw [this];rfl
  ·simp at hsc
 unfold Qfp at h
 split at h
 ·rename_i q
  obtain rfl:v=.string q:=hr
  split at h
  ·simp at h;subst h
   refine ⟨.inr ⟨_,rfl⟩,_,RL.bytes q.data.toList,fun lim n a=>?_⟩
   have hl:(Qc5 q).length=q.size:=by simp [Qc5]
   have hc:((q.data.toList.map fun b=>Value.int .u8 (b.toNat:Int))).length=q.size:=by simp
   simp only [Qjo,Ty.size,Nat.mul_one,hl]
   congr 1
   have:(List.map (fun b=>Value.int IntKind.u8 ↑b.toNat) q.data.toList).take n=(List.map (fun b=>Value.int IntKind.u8 ↑b.toNat) q.data.toList).take (min q.size n):=by
    rw [← hc,Nat.min_comm,← List.take_take,List.take_length]
   rw [this]
  ·simp at h
 ·split at h
  ·simp at h
  ·rename_i hnr
   exact key (fun _ _=>hnr) h
theorem RL.cpy {N:Nat→Prop} {H:Heap} {t:Ty} {xs ys:List t.T} {c d:List Value} (h:RL N H t xs c) (g:RL N H t ys d) {off m:Nat} (hm:off+m≤xs.length) :
  RL N H t (Pv.cpy xs off m ys) (lay c (off*t.size) (d.take (min ys.length m*t.size))):=by
 have e1:=(h.take off (by omega))
 have e2:=g.take (min ys.length m) (Nat.min_le_left _ _)
 have e3:=h.drop (off+min ys.length m) (by omega)
 have:=(e1.append e2).append e3
 have ex:Pv.cpy xs off m ys=xs.take off++ys.take (min ys.length m)++xs.drop (off+min ys.length m):=by
  unfold Pv.cpy
  have:ys.take m=ys.take (min ys.length m):=by
   rw [Nat.min_comm,← List.take_take,List.take_length]
  rw [this]
 have ec:lay c (off*t.size) (d.take (min ys.length m*t.size))=c.take (off*t.size)++d.take (min ys.length m*t.size)++c.drop ((off+min ys.length m)*t.size):=by
  unfold lay
  have hl:(d.take (min ys.length m*t.size)).length=min ys.length m*t.size:=by
   have:min ys.length m*t.size≤ys.length*t.size:=Zk _ (Nat.min_le_left _ _)
   rw [List.length_take,g.1];omega
  rw [hl,Nat.add_mul]
 rw [ex,ec];exact this
theorem Qt0 (hlim:XE.lim=s.lim) (hs:StR s) {b off:Nat} {no:Option Nat} {v w':Value} (hr:ER s (.osl b off no) v) {src:PV} (hr2:ER s src w') {w:Ty} {ys:List w.T} {m:Nat} {ver:Nat} {u:Ty} {xs:List u.T} {x:List w.T}
  (h1:Qfp s.L src w=some ys) (h2:Qak s.L (.osl b off no)=some m) (h3:Qi s.L b=some ⟨ver,true,.arr u xs⟩) (h4:Q1p (.sl u) (.sl w) xs=some x)
  (hK:KOk s r KV KE Q) (h:KV (.int .i64 ((min ys.length m:Nat):Int)) (Q2h s.L b ⟨ver+1,true,.arr w (cpy x off m ys)⟩)=some r) {P:Program} {t t2:TypeId} {e:TypeId×Nat×Nat×Value} (he:Q1v P t=some e) (hsz:e.2.1=w.size) :
  ∃ y,Q05 P XE.lim .copy [t,t2] [v,w'] s.H KE=some y∧Q y:=by
 obtain ⟨hsv,cells,hrl,hcv⟩:=Qjv hs hr2 h1
 have hu:u=w:=by have:=Qp h4;injection this
 subst hu
 obtain rfl:=Qg h4
 obtain ⟨hlb,hr⟩:=hr
 obtain ⟨e0,size,bytes,z⟩:=e
 simp only at hsz;subst hsz
 cases hm:s.μ b with
 | none =>
  rw [hm] at hr
  obtain ⟨r1,r2,rfl⟩:=hr
  have hB:=hs.blk b _ h3
  unfold BR at hB;simp only [hm] at hB
  subst hB
  have hm0:m=0:=by
   unfold Qak at h2
   cases no with
   | some n=>simp at r2 h2;omega
   | none=>simp only [h3,r1] at h2;simp at h2;omega
  subst hm0
  have hc:cpy ([]:List u.T) off 0 ys=[]:=by simp [cpy]
  rw [hc] at h
  obtain ⟨s',e1,e2,e3,k2,t2'⟩:=hs.set0 h3 rfl hm ⟨ver+1,true,.arr u []⟩ rfl rfl (by
   intro s' hm'
   unfold BR;simp only [hm'])
  have hy:=hK (.int .i64 0) (.int .i64 0) s' k2 t2' rfl (by rw [e1];simpa using h)
  rw [e2] at hy
  rcases hsv with ⟨a,n,c,rfl⟩ | ⟨q,rfl⟩
  ·simpa only [Q05,he,Q1] using hy
  ·simpa only [Q05,he,Q1] using hy
 | some mb =>
  rw [hm] at hr
  obtain ⟨r1,rfl⟩:=hr
  obtain ⟨a1,a2,k,a3,a4,a5,a6,a7⟩:=Q0k hs h3 hm
  have hmm:m=no.getD (mb.n - off):=by
   unfold Qak at h2
   cases no with
   | some n=>simp at h2 ⊢;exact h2.symm
   | none =>
    simp only [h3] at h2
    simp at h2 ⊢;omega
  have hle:off+m≤xs.length:=by rw [hmm,← a2];exact r1
  have hRL:=RL.ofBlk a4 a5
  have hcl:(cells.take (min ys.length m*u.size)).length=min ys.length m*u.size:=by
   have:min ys.length m*u.size≤ys.length*u.size:=Zk _ (Nat.min_le_left _ _)
   rw [List.length_take,hrl.1];omega
  have hfit:mb.sh+off*mb.es+(cells.take (min ys.length m*u.size)).length≤k.cells.length:=by
   rw [hcl,a1]
   have:(off+min ys.length m)*u.size≤xs.length*u.size:=Zk _ (by omega)
   rw [Nat.add_mul] at this;omega
  have hcell:∀ v∈cells.take (min ys.length m*u.size),isCell v=true:=fun v hv=>by
   obtain ⟨i,hi,ei⟩:=List.getElem_of_mem (List.mem_of_mem_take hv)
   have hpos:=Ty.size_pos u
   have hq:i / u.size < ys.length:=by rw [Nat.div_lt_iff_lt_mul hpos,← hrl.1];exact hi
   refine Rep.cell _ (hrl.2 _ hq) v ?_
   have hmod:=Nat.mod_lt i hpos
   have hdm:=Nat.div_add_mod i u.size
   refine List.mem_iff_getElem?.2 ⟨i % u.size,?_⟩
   rw [Q2b,if_pos hmod,show i / u.size*u.size+i % u.size=i by rw [Nat.mul_comm];exact hdm,Z6 hi,ei]
  have hst:=Q2p (lim:=XE.lim) (o:=mb.sh+off*mb.es) a3 (a6 rfl).1 hcell (by rw [hlim];exact (a6 rfl).2) hfit
  have hcpl:(cpy xs off m ys).length=xs.length:=by unfold cpy;simp;omega
  have hnew:((lay k.cells (mb.sh+off*mb.es) (cells.take (min ys.length m*u.size))).drop mb.sh).take ((cpy xs off m ys).length*u.size)=lay ((k.cells.drop mb.sh).take (xs.length*u.size)) (off*u.size) (cells.take (min ys.length m*u.size)):=by
   have:(off+min ys.length m)*u.size≤xs.length*u.size:=Zk _ (by omega)
   rw [Nat.add_mul] at this
   rw [hcpl,a1,Qqj a4 (by rw [hcl];omega)]
  obtain ⟨s2,e1,e2,e3,k2,t2'⟩:=Qqm hs (xs':=cpy xs off m ys) h3 hm (cells':=lay k.cells (mb.sh+off*mb.es) (cells.take (min ys.length m*u.size))) a3 (by unfold cpy;simp;omega) (by rw [hcpl];exact (Q3s hs h3 hm a3).lay hfit (fun v hv=>hrl.plain v (List.mem_of_mem_take hv))) (by rw [hnew];exact hRL.cpy hrl hle)
  have hy:=hK (.int .i64 ((min ys.length m:Nat):Int)) _ s2 k2 t2' rfl (by rw [e1];exact h)
  rw [e2] at hy
  have:Q05 P XE.lim .copy [t,t2] [Value.slice (some ⟨mb.z,mb.sh+off*mb.es,none⟩) (no.getD (mb.n - off)) mb.es,w'] s.H KE=KE (.int .i64 ((min ys.length m:Nat):Int)) (s.H.set mb.z (some ⟨lay k.cells (mb.sh+off*mb.es) (cells.take (min ys.length m*u.size)),false,k.mp⟩)):=by
   simp only [Q05,he,Q1,slS]
   rw [hcv,← hmm,hst];rfl
  rw [this];exact hy
theorem Qjw {b:Builtin} {ts:List TypeId} {ps:List PV} {vs:List Value} (hP:X.P=XE.P) (hlim:XE.lim=s.lim) (hs:StR s) (hr:Qw (ER s) ps vs) (hK:KOk s r KV KE Q) (h:Qfq X.P b ts ps s.L KV=some r):∃ y,Q05 XE.P XE.lim b ts vs s.H KE=some y∧Q y:=by
 rw [← hP]
 unfold Qfq at h
 split at h
 ·rename_i t q
  obtain ⟨v,rfl,hv⟩:=Qw.one hr
  clear hr
  obtain rfl:v=.string q:=hv
  split at h
  ·rename_i hu
   simp only [Q05,hu]
   exact hK.here hs (p:=.int .i64 q.size) rfl h
  ·simp at h
 ·rename_i t p hns
  obtain ⟨v,rfl,hv⟩:=Qw.one hr
  clear hr
  split at h
  ·rename_i hu
   replace h:=ob h;obtain ⟨n,h1,h⟩:=h
   obtain ⟨a,c,rfl⟩:=Qfj hs hv h1
   simp only [Q05,hu]
   exact hK.here hs (p:=.int .i64 n) rfl h
  ·simp at h
 ·rename_i t
  obtain ⟨v,rfl,hv⟩:=Qw.one hr
  clear hr
  obtain rfl:v=.slice none 0 0:=hv
  split at h
  ·rename_i hu
   simp only [Q05,hu]
   exact hK.here hs (p:=.int .i64 0) rfl h
  ·simp at h
 ·rename_i k x k' y
  obtain ⟨v,w,rfl,hv,hw⟩:=Qw.two hr
  clear hr
  obtain rfl:v=.int k x:=hv
  obtain rfl:w=.int k' y:=hw
  simp only [Q05]
  split at h
  ·rename_i e1;rw [if_pos e1];exact hK.here hs (p:=.int k _) rfl h
  ·simp at h
 ·rename_i k x k' y
  obtain ⟨v,w,rfl,hv,hw⟩:=Qw.two hr
  clear hr
  obtain rfl:v=.int k x:=hv
  obtain rfl:w=.int k' y:=hw
  simp only [Q05]
  split at h
  ·rename_i e1;rw [if_pos e1];exact hK.here hs (p:=.int k _) rfl h
  ·simp at h
 ·rename_i t u p x
  obtain ⟨v,w,rfl,hv,hw⟩:=Qw.two hr
  clear hr
  replace h:=ob h;obtain ⟨⟨el,size,bytes,z⟩,h1,h⟩:=h
  replace h:=ob h;obtain ⟨ty,h2,h⟩:=h
  simp only [Q05,h1,Q1]
  split at h
  ·rename_i hsz
   have hsz:=Z7 hsz
   split at h
   ·rename_i q hu
    obtain rfl:w=.string q:=hw
    split at h
    ·rw [hu]
     have:size=1:=by rw [← hsz];rfl
     subst this
     simp only
     have hb:=Q9e hs hv (u:=.int .u8) (RL.bytes q.data.toList) hK h
     have hl:(q.data.toList.map fun b=>(b.toNat:Int)).length=q.size:=by simp
     rw [hl] at hb;exact hb
    ·simp at h
   ·rename_i el' x' hu
    split at h
    ·rename_i tt hrw
     replace h:=ob h;obtain ⟨⟨ys,L1⟩,h3,h⟩:=h
     obtain ⟨hfl,s1,cells,Kf,l1,g1,k1,t1,lm1,kk1,hcl,hcp,hc,hvv⟩:=Qdd hs hw h3
     have hs1:(1:Nat)=size:=hsz
     subst hs1
     have hsl:∃ a c,w=.slice a ys.length c∧Qf s.H 1 w=some cells:=by
      rcases hvv with ⟨rfl,rfl⟩ | ⟨z,o,k,rfl,q1,q2,q3,q4,q5,q6⟩
      ·have:cells=[]:=Z1 hcl
       subst this
       exact ⟨_,_,rfl,rfl⟩
      ·refine ⟨_,_,rfl,?_⟩
       simp only [Qf,Nat.mul_one]
       cases hz:ys.length with
       | zero =>
        have:cells=[]:=Z1 (hcl.trans hz)
        rw [this];simp [Q0m]
       | succ q =>
        simp only [Q0m,Qx,q1,Q1]
        have:Nat.ble (o+(q+1)) k.cells.length=true:=Nat.ble_eq_true_of_le (by omega)
        rw [this,q4,hz,List.drop_take]
        simp
     obtain ⟨a,c,rfl,hsc⟩:=hsl
     rw [hu];simp only
     rw [hsc]
     simp only at h
     rw [← l1] at h
     have:=Qju t1 (k1.ER hv) hfl (fun z i e=>⟨(kk1 z i e).1,by rw [g1];exact (kk1 z i e).2.2⟩) hcl hcp (fun i hi=>by rw [g1,k1.lim];exact hc i hi) (KOk.keep k1 hK) h
     rw [g1] at this
     exact this
    ·rename_i xp _ ty _ _ hnr _
     replace h:=ob h;obtain ⟨ys,h3,h⟩:=h
     obtain ⟨cells,a,c,rfl,hsc,hrl⟩:=Q52 hs hw h3 (fun u e=>by
      cases hq:Qdo s.L xp with
      | false=>rfl
      | true=>exact absurd e (fun e=>hnr u hq e))
     rw [hu];simp only
     rw [← hsz,hsc]
     exact Q9e hs hv hrl hK h
   ·rename_i l hu
    obtain rfl:w=.int _ l:=hw
    split at h
    ·rename_i hz
     rw [hu];simp only
     obtain ⟨a1,a2⟩:=Qj h
     rw [a1];simp only [oif]
     have:=Q9e hs hv (RL.rep l.toNat (Q9g s hz)) hK a2
     have hl:(List.replicate l.toNat (Q8g ty)).length=l.toNat:=by simp
     rw [hl,hsz] at this;exact this
    ·simp at h
   ·simp at h
  ·simp at h
 ·rename_i t t2 b off no src
  obtain ⟨v,w,rfl,hv,hw⟩:=Qw.two hr
  clear hr
  replace h:=ob h;obtain ⟨⟨el,size,bytes,z⟩,h1,h⟩:=h
  replace h:=ob h;obtain ⟨ty,h2,h⟩:=h
  split at h
  ·rename_i hsz
   have hsz:=Z7 hsz
   replace h:=ob h;obtain ⟨ys,h3,h⟩:=h
   replace h:=ob h;obtain ⟨m,h4,h⟩:=h
   split at h
   ·rename_i ver u xs hb
    replace h:=ob h;obtain ⟨x,h5,h⟩:=h
    exact Qt0 hlim hs hv hw h3 h4 hb h5 hK h h1 hsz.symm
   ·simp at h
  ·simp at h
 ·simp at h
end
inductive Kd where
 | fz
 | os
 | cb
 | cl (g:FuncId)
def PM.kd:PM→Kd
 | .ro=>.fz
 | .mv=>.os
 | .io=>.os
 | .ps=>.cb
 | .cl g=>.cl g
def kdR:Bool→Kd
 | true=>.os
 | false=>.fz
def InR (H:Heap) (lim:Nat):(u:Ty)→List u.T→List Value→List Nat→Prop
 | .os t,xs,cs,ks=>t.flat=true∧ks.Nodup∧(∀ z∈ks,∃ k,hget H z=some k)∧∃ Kf:Nat→Option Nat,(∀ z i,Kf z=some i→z∈ks)∧∀ i (hi:i < xs.length),∃ v,cs[i]? = some v∧Q9z (fun z=>Kf z=some i) H lim t xs[i] v
 | .int _,_,_,ks=>ks=[]
 | .bool,_,_,ks=>ks=[]
 | .str,_,_,ks=>ks=[]
 | .sl _,_,_,ks=>ks=[]
 | .pair _ _,_,_,ks=>ks=[]
theorem InR.frame {H G:Heap} {lim:Nat}:∀ {u:Ty} {xs:List u.T} {cs:List Value} {ks:List Nat},InR H lim u xs cs ks→(∀ z∈ks,hget G z=hget H z)→InR G lim u xs cs ks
 | .os t,xs,cs,ks,h,hg=>by
  obtain ⟨h1,h2,h3,Kf,h4,h5⟩:=h
  refine ⟨h1,h2,fun z hz=>by rw [hg z hz];exact h3 z hz,Kf,h4,fun i hi=>?_⟩
  obtain ⟨v,q1,q2⟩:=h5 i hi
  exact ⟨v,q1,q2.mono h1 (fun z hz=>⟨hz,hg z (h4 z i hz)⟩)⟩
 | .int _,_,_,_,h,_=>h
 | .bool,_,_,_,h,_=>h
 | .str,_,_,_,h,_=>h
 | .sl _,_,_,_,h,_=>h
 | .pair _ _,_,_,_,h,_=>h
theorem InR.lt {H:Heap} {lim:Nat}:∀ {u:Ty} {xs:List u.T} {cs:List Value} {ks:List Nat},InR H lim u xs cs ks→∀ z∈ks,z < H.length
 | .os t,xs,cs,ks,h=>by
  obtain ⟨_,_,h3,_⟩:=h
  intro z hz;obtain ⟨k,hk⟩:=h3 z hz;exact Qs hk
 | .int _,_,_,_,h=>by rw [show _=[] from h];simp
 | .bool,_,_,_,h=>by rw [show _=[] from h];simp
 | .str,_,_,_,h=>by rw [show _=[] from h];simp
 | .sl _,_,_,_,h=>by rw [show _=[] from h];simp
 | .pair _ _,_,_,_,h=>by rw [show _=[] from h];simp
theorem InR.flat {H:Heap} {lim:Nat}:∀ {u:Ty} {xs:List u.T} {cs:List Value} {ks:List Nat},u.flat=true→InR H lim u xs cs ks→ks=[]
 | .os t,xs,cs,ks,f,h=>by simp [Ty.flat] at f
 | .int _,_,_,_,_,h=>h
 | .bool,_,_,_,_,h=>h
 | .str,_,_,_,_,h=>h
 | .sl _,_,_,_,_,h=>h
 | .pair _ _,_,_,_,_,h=>h
theorem InR.ofNo {H:Heap} {lim:Nat}:∀ {u:Ty} {xs:List u.T} {cs:List Value},(∀ t,u≠.os t)→InR H lim u xs cs []
 | .os t,_,_,f=>absurd rfl (f t)
 | .int _,_,_,_=>rfl
 | .bool,_,_,_=>rfl
 | .str,_,_,_=>rfl
 | .sl _,_,_,_=>rfl
 | .pair _ _,_,_,_=>rfl
theorem InR.noOs {H:Heap} {lim:Nat}:∀ {u:Ty} {xs:List u.T} {cs:List Value} {ks:List Nat},u.isOs=false→InR H lim u xs cs ks→ks=[]
 | .os t,xs,cs,ks,f,h=>by simp [Ty.isOs] at f
 | .int _,_,_,_,_,h=>h
 | .bool,_,_,_,_,h=>h
 | .str,_,_,_,_,h=>h
 | .sl _,_,_,_,_,h=>h
 | .pair _ _,_,_,_,_,h=>h
def Qit (N:Nat→Prop) (H:Heap) (lim:Nat) (u:Ty) (x:List u.T) (w:Value) (ids:List Nat):Prop :=
 (ids=[]∧x=[]∧w=.slice none 0 0)∨∃ z o k ks,ids=z::ks∧z∉ks∧w=.slice (some ⟨z,o,none⟩) x.length u.size∧hget H z=some k∧k.ro=false∧lim≤z∧Fit o (x.length*u.size) k.cells∧RL N H u x ((k.cells.drop o).take (x.length*u.size))∧InR H lim u x ((k.cells.drop o).take (x.length*u.size)) ks
theorem Qit.cell {N:Nat→Prop} {H:Heap} {lim:Nat} {u:Ty} {x:List u.T} {w:Value} {ids:List Nat} (h:Qit N H lim u x w ids):isCell w=true∧Qa w w=true:=by
 rcases h with ⟨_,_,rfl⟩ | ⟨z,o,k,ks,_,_,rfl,_⟩<;>simp [isCell,Qa]
theorem Qit.frame {N M:Nat→Prop} {H G:Heap} {lim:Nat} {u:Ty} {x:List u.T} {w:Value} {ids:List Nat} (h:Qit N H lim u x w ids) (hf:∀ z,N z→z < H.length→M z∧hget G z=hget H z) (hi:∀ z∈ids,hget G z=hget H z):Qit M G lim u x w ids:=by
 rcases h with h | ⟨z,o,k,ks,rfl,h0,h2,h3,h4,h5,h6,h7,h8⟩
 ·exact .inl h
 ·exact .inr ⟨z,o,k,ks,rfl,h0,h2,by rw [hi z (by simp)];exact h3,h4,h5,h6,h7.frame hf,h8.frame (fun y hy=>hi y (by simp [hy]))⟩
theorem RL.rows {N M:Nat→Prop} {H G:Heap} {t:Ty} {xs:List (Ty.os t).T} {c:List Value} (h:RL N H (.os t) xs c):RL M G (.os t) xs c :=
 ⟨h.1,fun i hi=>h.2 i hi⟩
theorem Qit.flat {N M:Nat→Prop} {H:Heap} {lim:Nat} {u:Ty} {x:List u.T} {w:Value} {ids:List Nat} (h:Qit N H lim u x w ids) (hf:(u.flat || u.rowT)=true):Qit M H lim u x w ids:=by
 rcases h with h | ⟨z,o,k,ks,rfl,h0,h2,h3,h4,h5,h6,h7,h8⟩
 ·exact .inl h
 ·refine .inr ⟨z,o,k,ks,rfl,h0,h2,h3,h4,h5,h6,?_,h8⟩
  cases hu:u.flat with
  | true=>exact ⟨h7.1,fun i hi=>Rep.flat _ hu (h7.2 i hi)⟩
  | false =>
   rw [hu] at hf
   cases u with
   | os t=>exact h7.rows
   | _=>simp [Ty.rowT] at hf
theorem Qit.lt {N:Nat→Prop} {H:Heap} {lim:Nat} {u:Ty} {x:List u.T} {w:Value} {ids:List Nat} (h:Qit N H lim u x w ids):∀ z∈ids,z < H.length:=by
 rcases h with ⟨rfl,_⟩ | ⟨z,o,k,ks,rfl,h0,h2,h3,_,_,_,_,h8⟩
 ·simp
 ·intro q hq
  rcases Z2 hq with rfl | hq
  ·exact Qs h3
  ·exact h8.lt q hq
def Q3b (N:Nat→Prop) (H:Heap) (lim:Nat):(t:Ty)→t.T→List Value→List Nat→Prop
 | .os u,x,cs,ids=>∃ w,cs=[w]∧Qit N H lim u x w ids
 | .pair a b,x,cs,ids=>∃ i j,ids=i++j∧Q3b N H lim a x.1 (cs.take a.size) i∧Q3b N H lim b x.2 (cs.drop a.size) j
 | .int k,x,cs,ids=>ids=[]∧Rep N H (.int k) x cs
 | .bool,x,cs,ids=>ids=[]∧Rep N H .bool x cs
 | .str,x,cs,ids=>ids=[]∧Rep N H .str x cs
 | .sl t,x,cs,ids=>ids=[]∧Rep N H (.sl t) x cs
theorem Q3b.rep {N:Nat→Prop} {H:Heap} {lim:Nat}:∀ (t:Ty) {x:t.T} {cs:List Value} {ids:List Nat},Q3b N H lim t x cs ids→Rep N H t x cs
 | .int k,_,_,_,h=>h.2
 | .bool,_,_,_,h=>h.2
 | .str,_,_,_,h=>h.2
 | .sl t,_,_,_,h=>h.2
 | .os u,_,_,_,h=>by obtain ⟨w,rfl,ho⟩:=h;exact ⟨w,rfl,ho.cell⟩
 | .pair a b,x,cs,ids,h=>by
  obtain ⟨i,j,_,h1,h2⟩:=h
  unfold Rep
  exact ⟨Q3b.rep a h1,Q3b.rep b h2⟩
theorem Q3b.of {N:Nat→Prop} {H:Heap} {lim:Nat}:∀ (t:Ty) {x:t.T} {cs:List Value},t.hasOs=false→Rep N H t x cs→Q3b N H lim t x cs []
 | .int k,_,_,_,h=>⟨rfl,h⟩
 | .bool,_,_,_,h=>⟨rfl,h⟩
 | .str,_,_,_,h=>⟨rfl,h⟩
 | .sl t,_,_,_,h=>⟨rfl,h⟩
 | .os u,_,_,f,h=>by simp [Ty.hasOs] at f
 | .pair a b,x,cs,f,h=>by
  simp only [Ty.hasOs,Bool.or_eq_false_iff] at f
  unfold Rep at h
  exact ⟨[],[],rfl,Q3b.of a f.1 h.1,Q3b.of b f.2 h.2⟩
theorem Q3b.nil {N:Nat→Prop} {H:Heap} {lim:Nat}:∀ (t:Ty) {x:t.T} {cs:List Value} {ids:List Nat},t.hasOs=false→Q3b N H lim t x cs ids→ids=[]
 | .int k,_,_,_,_,h=>h.1
 | .bool,_,_,_,_,h=>h.1
 | .str,_,_,_,_,h=>h.1
 | .sl t,_,_,_,_,h=>h.1
 | .os u,_,_,_,f,h=>by simp [Ty.hasOs] at f
 | .pair a b,x,cs,ids,f,h=>by
  simp only [Ty.hasOs,Bool.or_eq_false_iff] at f
  obtain ⟨i,j,rfl,h1,h2⟩:=h
  rw [Q3b.nil a f.1 h1,Q3b.nil b f.2 h2];rfl
theorem Q3b.frame {N M:Nat→Prop} {H G:Heap} {lim:Nat} (hf:∀ z,N z→z < H.length→M z∧hget G z=hget H z):∀ (t:Ty) {x:t.T} {cs:List Value} {ids:List Nat},Q3b N H lim t x cs ids→(∀ z∈ids,hget G z=hget H z)→Q3b M G lim t x cs ids
 | .int k,_,_,_,h,_=>⟨h.1,Rep.frame hf _ h.2⟩
 | .bool,_,_,_,h,_=>⟨h.1,Rep.frame hf _ h.2⟩
 | .str,_,_,_,h,_=>⟨h.1,Rep.frame hf _ h.2⟩
 | .sl t,_,_,_,h,_=>⟨h.1,Rep.frame hf _ h.2⟩
 | .os u,_,_,_,h,hi=>by obtain ⟨w,rfl,ho⟩:=h;exact ⟨w,rfl,ho.frame hf hi⟩
 | .pair a b,x,cs,ids,h,hi=>by
  obtain ⟨i,j,rfl,h1,h2⟩:=h
  exact ⟨i,j,rfl,Q3b.frame hf a h1 (fun z hz=>hi z (by simp [hz])),Q3b.frame hf b h2 (fun z hz=>hi z (by simp [hz]))⟩
theorem Q3b.flat {N M:Nat→Prop} {H:Heap} {lim:Nat}:∀ (t:Ty) {x:t.T} {cs:List Value} {ids:List Nat},t.nosl=true→Q3b N H lim t x cs ids→Q3b M H lim t x cs ids
 | .int k,_,_,_,_,h=>⟨h.1,Rep.flat _ rfl h.2⟩
 | .bool,_,_,_,_,h=>⟨h.1,Rep.flat _ rfl h.2⟩
 | .str,_,_,_,_,h=>⟨h.1,Rep.flat _ rfl h.2⟩
 | .sl t,_,_,_,f,h=>by simp [Ty.nosl] at f
 | .os u,_,_,_,f,h=>by obtain ⟨w,rfl,ho⟩:=h;exact ⟨w,rfl,ho.flat f⟩
 | .pair a b,x,cs,ids,f,h=>by
  simp only [Ty.nosl,Z8] at f
  obtain ⟨i,j,rfl,h1,h2⟩:=h
  exact ⟨i,j,rfl,Q3b.flat a f.1 h1,Q3b.flat b f.2 h2⟩
theorem Q3b.lt {N:Nat→Prop} {H:Heap} {lim:Nat}:∀ (t:Ty) {x:t.T} {cs:List Value} {ids:List Nat},Q3b N H lim t x cs ids→∀ z∈ids,z < H.length
 | .int k,_,_,_,h=>by rw [h.1];simp
 | .bool,_,_,_,h=>by rw [h.1];simp
 | .str,_,_,_,h=>by rw [h.1];simp
 | .sl t,_,_,_,h=>by rw [h.1];simp
 | .os u,_,_,_,h=>by obtain ⟨w,rfl,ho⟩:=h;exact ho.lt
 | .pair a b,x,cs,ids,h=>by
  obtain ⟨i,j,rfl,h1,h2⟩:=h
  intro z hz
  rcases List.mem_append.1 hz with hz | hz
  ·exact Q3b.lt a h1 z hz
  ·exact Q3b.lt b h2 z hz
theorem Q8b {fz:Bool}:∀ (t:Ty) {cs:List PV} {L:LS} {r:t.T×LS},refl fz t cs L=some r→t.hasOs=false
 | .int k,_,_,_,_=>rfl
 | .bool,_,_,_,_=>rfl
 | .str,_,_,_,_=>rfl
 | .sl t,_,_,_,_=>rfl
 | .os u,_,_,_,h=>by simp [refl] at h
 | .pair a b,cs,L,r,h=>by
  unfold refl at h
  obtain ⟨x,h1,h⟩:=ob h
  obtain ⟨y,h2,h⟩:=ob h
  simp only [Ty.hasOs,Bool.or_eq_false_iff]
  exact ⟨Q8b a h1,Q8b b h2⟩
def HR (N:Nat→Prop) (H:Heap) (lim:Nat) (kd:Kd) (v:TV) (w:Value) (ids:List Nat):Prop :=
 match kd with
 | .fz=>∃ cs,Qke v.1 cs w∧Q3b N H lim v.1 v.2 cs ids
 | .cb=>∃ z k j,ids=z::j∧w=.pointer (some ⟨z,0,none⟩)∧hget H z=some k∧k.ro=false∧lim≤z∧Q3b N H lim v.1 v.2 k.cells j
 | .os=>∃ u x,v=⟨.sl u,x⟩∧Qit N H lim u x w ids
 | .cl g=>ids=[]∧w=.func (.func g) ⟨[]⟩ ⟨[]⟩
theorem HR.frame {N M:Nat→Prop} {H G:Heap} {lim:Nat} {kd:Kd} {v:TV} {w:Value} {ids:List Nat} (h:HR N H lim kd v w ids) (hf:∀ z,N z→z < H.length→M z∧hget G z=hget H z) (hi:∀ z∈ids,hget G z=hget H z):HR M G lim kd v w ids:=by
 unfold HR at h ⊢
 cases kd with
 | fz=>obtain ⟨cs,h2,h3⟩:=h;exact ⟨cs,h2,Q3b.frame hf _ h3 hi⟩
 | cb =>
  obtain ⟨z,k,j,rfl,h2,h3,h4,h5,h6⟩:=h
  exact ⟨z,k,j,rfl,h2,by rw [hi z (by simp)];exact h3,h4,h5,Q3b.frame hf _ h6 (fun z hz=>hi z (by simp [hz]))⟩
 | os =>
  obtain ⟨u,x,rfl,h⟩:=h
  exact ⟨u,x,rfl,h.frame hf hi⟩
 | cl g=>exact h
def Qi1:Kd→Ty→Bool
 | .fz,t=>t.nosl
 | .cb,t=>t.nosl
 | .os,.sl u=>u.flat || u.rowT
 | .os,_=>true
 | .cl _,_=>true
theorem HR.flat {N M:Nat→Prop} {H:Heap} {lim:Nat} {kd:Kd} {v:TV} {w:Value} {ids:List Nat} (h:HR N H lim kd v w ids) (hf:Qi1 kd v.1=true):HR M H lim kd v w ids:=by
 unfold HR at h ⊢
 cases kd with
 | fz=>obtain ⟨cs,h2,h3⟩:=h;exact ⟨cs,h2,Q3b.flat _ hf h3⟩
 | cb=>obtain ⟨z,k,j,rfl,h2,h3,h4,h5,h6⟩:=h;exact ⟨z,k,j,rfl,h2,h3,h4,h5,Q3b.flat _ hf h6⟩
 | os =>
  obtain ⟨u,x,rfl,h⟩:=h
  exact ⟨u,x,rfl,h.flat hf⟩
 | cl g=>exact h
theorem HR.lt {N:Nat→Prop} {H:Heap} {lim:Nat} {kd:Kd} {v:TV} {w:Value} {ids:List Nat} (h:HR N H lim kd v w ids):∀ z∈ids,z < H.length:=by
 unfold HR at h
 cases kd with
 | fz=>obtain ⟨cs,_,h⟩:=h;exact Q3b.lt _ h
 | cb =>
  obtain ⟨z,k,j,rfl,h2,h3,_,_,h6⟩:=h
  intro q hq
  rcases Z2 hq with rfl | hq
  ·exact Qs h3
  ·exact Q3b.lt _ h6 q hq
 | os =>
  obtain ⟨u,x,rfl,h⟩:=h
  exact h.lt
 | cl g=>rw [h.1];simp
def HRs (N:Nat→Prop) (H:Heap) (lim:Nat):List Kd→List TV→List Value→List (List Nat)→Prop
 | [],[],[],[]=>True
 | k::ks,v::vs,w::ws,i::is=>HR N H lim k v w i∧HRs N H lim ks vs ws is
 | _,_,_,_=>False
theorem HRs.frame {N M:Nat→Prop} {H G:Heap} {lim:Nat} (hf:∀ z,N z→z < H.length→M z∧hget G z=hget H z):∀ {ks:List Kd} {vs:List TV} {ws:List Value} {is:List (List Nat)},HRs N H lim ks vs ws is→(∀ z∈is.flatten,hget G z=hget H z)→HRs M G lim ks vs ws is
 | [],[],[],[],_,_=>trivial
 | _::_,_::_,_::_,_::_,h,hi=>⟨h.1.frame hf (fun z hz=>hi z (by simp [hz])),HRs.frame hf h.2 (fun z hz=>hi z (by simp at hz ⊢;exact .inr hz))⟩
def Q8c:List (PM×Ty)→List Kd
 | []=>[]
 | (.io,_)::r=>.os::Q8c r
 | (.ps,_)::r=>.cb::Q8c r
 | _::r=>Q8c r
def Qbj:List (PM×Ty)→List Value→List Value
 | [],_=>[]
 | (.io,_)::r,w::ws=>w::Qbj r ws
 | (.ps,_)::r,w::ws=>w::Qbj r ws
 | _::r,_::ws=>Qbj r ws
 | _::_,[]=>[]
def Qi2:List (PM×Ty)→List (List Nat)→List (List Nat)
 | [],_=>[]
 | (.io,_)::r,w::ws=>w::Qi2 r ws
 | (.ps,_)::r,w::ws=>w::Qi2 r ws
 | _::r,_::ws=>Qi2 r ws
 | _::_,[]=>[]
def Qt1 (sig:Sig) (call:Qc1 sig.ptys→Option (Qc1 sig.rtys)) (callE:List Value→Nat→Heap→Option (Value×Heap)) (lim:Nat):Prop :=
 ∀ a r,call a=some r→∀ (H:Heap) (Ban:Nat→Prop) (ws:List Value) (idss:List (List Nat)),
  (∀ z,Ban z→z < H.length)→lim≤H.length→idss.flatten.Nodup→(∀ z∈idss.flatten,¬ Ban z) →
  HRs (fun z=>z∉idss.flatten∧¬ Ban z) H lim (sig.params.map fun p=>p.1.kd) (unT sig.ptys a) ws idss →
  ∃ v H' rvs rids oids,callE ws lim H=some (v,H')∧v=Q3a rvs∧H.length≤H'.length∧(∀ z,z < H.length→z∉idss.flatten→hget H' z=hget H z) ∧
   (rids.flatten++oids.flatten).Nodup∧(∀ z∈rids.flatten++oids.flatten,z∈idss.flatten∨H.length≤z)∧(∀ z∈rids.flatten++oids.flatten,¬ Ban z) ∧
   HRs (fun z=>z∉rids.flatten++oids.flatten∧¬ Ban z) H' lim (sig.results.map fun q=>kdR q.1) ((unT sig.rtys r).take sig.results.length) rvs rids ∧
   HRs (fun z=>z∉rids.flatten++oids.flatten∧¬ Ban z) H' lim (Q8c sig.params) ((unT sig.rtys r).drop sig.results.length) (Qbj sig.params ws) oids
theorem Qbk:∀ (ts:List Ty) {vs:List TV} {a:Qc1 ts},mkT ts vs=some a→unT ts a=vs
 | [],[],a,h=>rfl
 | [t],[v],a,h=>by
  have e:=Qp h
  obtain ⟨t',x⟩:=v
  simp only at e;subst e
  have:=Qg h
  simp only [unT];rw [← this]
 | t::u::r,v::vs,a,h=>by
  simp only [mkT] at h
  replace h:=ob h;obtain ⟨x,h1,h⟩:=h
  replace h:=ob h;obtain ⟨y,h2,h⟩:=h
  simp at h;subst h
  have e:=Qp h1
  obtain ⟨t',x'⟩:=v
  simp only at e;subst e
  have:=Qg h1
  simp only [unT];rw [Qbk (u::r) h2,← this]
 | [],_::_,a,h=>by simp [mkT] at h
 | [t],[],a,h=>by simp [mkT] at h
 | [t],_::_::_,a,h=>by simp [mkT] at h
 | _::_::_,[],a,h=>by simp [mkT] at h
def Qbl (s:S) (b:Nat):List Nat:=(List.range s.H.length).filter fun z=>match s.Kid z with | some p=>p.1==b | none=>false
theorem Q3h {s:S} (hs:StR s) {b z:Nat}:z∈Qbl s b↔∃ i,s.Kid z=some (b,i):=by
 unfold Qbl
 rw [List.mem_filter,List.mem_range]
 constructor
 ·rintro ⟨_,h⟩
  split at h
  ·rename_i p hp
   have:p.1=b:=by simpa using h
   exact ⟨p.2,by rw [hp,← this]⟩
  ·simp at h
 ·rintro ⟨i,h⟩
  exact ⟨(hs.kl z _ h).1,by rw [h];simp⟩
theorem Q9s (s:S) (b:Nat):(Qbl s b).Nodup:=List.Pairwise.filter _ List.nodup_range
theorem Qi3 {s:S} (hs:StR s) {u:Ty} {p:PV} {w:Value} (hr:LR0 s p w) {x:List u.T} {L':LS} (h:Q7d u p s.L=some (x,L')) :
  ∃ s' ids,s'.L=L'∧s'.H=s.H∧s'.μ=s.μ∧Keep s s'∧StR s'∧Qit s'.N s'.H s.lim u x w ids∧(∀ z,s'.Lim z↔s.Lim z∨z∈ids)∧(∀ z∈ids,¬ s.Lim z)∧ids.Nodup∧(∀ z,Own s' z↔Own s z):=by
 unfold Q7d at h
 split at h
 ·simp at h;obtain ⟨rfl,rfl⟩:=h
  obtain rfl:w=_:=hr
  exact ⟨s,[],rfl,rfl,rfl,Keep.refl s,hs,.inl ⟨rfl,rfl,rfl⟩,by simp,by simp,by simp,fun _=>Iff.rfl⟩
 ·rename_i b off no
  split at h
  ·rename_i ver wt xs hb
   split at h
   ·simp at h
   rename_i hnos0
   replace h:=ob h;obtain ⟨y,h1,h⟩:=h
   simp at h;obtain ⟨rfl,rfl⟩:=h
   have e0:=Qp h1
   injection e0 with e0;subst e0
   have:=Qg h1;subst this
   have hr:LR0 s (.osl b off no) w:=hr
   obtain ⟨hlb,hr⟩:=hr
   obtain ⟨s1,l1,g1,u1,k1,t1,hl,ho⟩:=hs.kill hb rfl false
   have g1':s1.H=s.H:=g1
   have hnos:∀ t,wt≠.os t:=fun t e=>by subst e;simp [Ty.isOs] at hnos0
   refine ⟨s1,(match s.μ b with | none=>[] | some m=>[m.z]),l1,g1',u1,k1,t1,?_,?_,?_,?_,ho⟩
   ·cases hm:s.μ b with
    | none =>
     rw [hm] at hr;obtain ⟨rfl,_,rfl⟩:=hr
     have hx:=Q5z hs hb hm;subst hx
     have:cut ([]:List wt.T) 0 no=[]:=by cases no<;>simp [cut]
     exact .inl ⟨rfl,this,rfl⟩
    | some m =>
     rw [hm] at hr;obtain ⟨g0,rfl⟩:=hr
     obtain ⟨a1,a2,k,a3,a4,a5,a6,a7⟩:=Q0k hs hb hm
     have hcut:cut xs off no=(xs.drop off).take (no.getD (m.n - off)):=by
      cases no with
      | none=>simp only [cut,Option.getD_none];rw [Zs (by simp;omega)]
      | some l=>rfl
     have hle:off+no.getD (m.n - off)≤xs.length:=by omega
     have hlen:(cut xs off no).length=no.getD (m.n - off):=by rw [hcut];simp;omega
     have h1:=RL.sub a4 a5 hle
     rw [← hcut] at h1
     refine .inr ⟨m.z,m.sh+off*wt.size,k,[],rfl,by simp,?_,by rw [g1'];exact a3,(a6 rfl).1,(a6 rfl).2,?_,?_,InR.ofNo hnos⟩
     ·rw [hlen,a1]
     ·rw [hlen];exact (Q3s hs hb hm a3).sub (by rw [← Nat.add_mul];exact Zk _ hle)
     ·rw [hlen];exact h1.frame (fun z hz hl=>⟨k1.N hl hz,k1.fr z hl hz.1⟩)
   ·intro z;rw [hl z]
    cases s.μ b with
    | none=>simp
    | some m=>simp [eq_comm]
   ·cases hm:s.μ b with
    | none=>simp
    | some m=>intro z hz;simp at hz;subst hz;exact hs.lm b _ m hb hm
   ·cases s.μ b<;>simp
  ·rename_i ver wt xs hb
   split at h
   ·replace h:=ob h;obtain ⟨y,h1,h⟩:=h
    simp at h;obtain ⟨rfl,rfl⟩:=h
    have e0:=Qp h1
    injection e0 with e0;subst e0
    have:=Qg h1;subst this
    have hr:LR0 s (.osl b 0 none) w:=hr
    obtain ⟨hlb,hr⟩:=hr
    obtain ⟨_,hfl,hrow⟩:=Q09 hs hb
    rcases hrow with ⟨hm,hx⟩ | ⟨m,k,hm,a1,a2,a3,a4,a5,a6,a7⟩
    ·rw [hm] at hr;obtain ⟨_,_,rfl⟩:=hr
     obtain ⟨s1,l1,g1,u1,k1,t1,hl,ho⟩:=hs.kill hb rfl false
     have g1':s1.H=s.H:=g1
     refine ⟨s1,[],l1,g1',u1,k1,t1,.inl ⟨rfl,hx,rfl⟩,fun z=>?_,by simp,by simp,ho⟩
     rw [hl z,hm];simp
    ·obtain ⟨s1,l1,g1,u1,k1,t1,hl,ho,_⟩:=hs.killR hb rfl false
     have g1':s1.H=s.H:=g1
     have hkn:∀ z∈Qbl s b,¬ s.Lim z:=fun z hz=>by
      obtain ⟨i,hi⟩:=(Q3h hs).1 hz;exact (hs.kl z _ hi).2.2.1
     have hka:∀ z∈Qbl s b,∃ k,hget s1.H z=some k:=fun z hz=>by
      obtain ⟨i,hi⟩:=(Q3h hs).1 hz;rw [g1'];exact hs.ka z _ hi
     rw [hm] at hr;obtain ⟨_,rfl⟩:=hr
     refine ⟨s1,m.z::Qbl s b,l1,g1',u1,k1,t1,?_,fun z=>?_,fun z hz=>?_,?_,ho⟩
     ·refine .inr ⟨m.z,m.sh,k,Qbl s b,rfl,?_,?_,by rw [g1'];exact a3,a5,a6,by rw [show (Ty.os wt).size=1 from rfl,Nat.mul_one];exact a4,?_,hfl,Q9s s b,hka,(fun z=>match s.Kid z with | some p=>if p.1=b then some p.2 else none | none=>none),fun z i hz=>?_,fun i hi=>?_⟩
      ·intro hz
       obtain ⟨i,hi⟩:=(Q3h hs).1 hz
       exact hs.kid_ne hi hb hm rfl
      ·simp [a1,a2,Ty.size]
      ·rw [show (Ty.os wt).size=1 from rfl,Nat.mul_one]
       refine ⟨by rw [List.length_take,List.length_drop,show (Ty.os wt).size=1 from rfl];have:=a4.1;omega,fun i hi=>?_⟩
       obtain ⟨v,q1,q2⟩:=a7 i hi (by simp)
       refine ⟨v,?_,?_⟩
       ·rw [show (Ty.os wt).size=1 from rfl,Nat.mul_one]
        apply List.ext_getElem?;intro q
        rw [Q2b]
        by_cases hq:q < 1
        ·rw [if_pos hq,show q=0 by omega,List.getElem?_take_of_lt (by omega),Zp];simpa using q1
        ·rw [if_neg hq,List.getElem?_eq_none (by simp;omega)]
       ·rcases q2 with ⟨_,rfl⟩ | ⟨_,_,_,rfl,_⟩<;>simp [isCell,Qa]
      ·replace hz:(match s.Kid z with | some p=>if p.1=b then some p.2 else none | none=>none)=some i:=hz
       split at hz
       ·rename_i p hp
        split at hz
        ·rename_i e;exact (Q3h hs).2 ⟨p.2,by rw [hp,← e]⟩
        ·simp at hz
       ·simp at hz
      ·obtain ⟨v,q1,q2⟩:=a7 i hi (by simp)
       refine ⟨v,?_,q2.mono hfl (fun z hz=>⟨by show (match s.Kid z with | some p=>if p.1=b then some p.2 else none | none=>none)=some i;rw [hz];simp,by rw [g1']⟩)⟩
       rw [show (Ty.os wt).size=1 from rfl,Nat.mul_one,List.getElem?_take_of_lt hi,Zp];exact q1
     ·rw [hl z,List.mem_cons,Q3h hs,hm]
      simp [eq_comm]
     ·rcases Z2 hz with rfl | hz
      ·exact hs.lm b _ m hb hm
      ·exact hkn z hz
     ·refine List.nodup_cons.2 ⟨fun hz=>?_,Q9s s b⟩
      obtain ⟨i,hi⟩:=(Q3h hs).1 hz
      exact hs.kid_ne hi hb hm rfl
   ·simp at h
  ·simp at h
 ·rename_i b i ver wt x0
  split at h
  ·rename_i v' t xs hb
   split at h
   ·rename_i hv
    have hv:=Z7 hv
    replace h:=ob h;obtain ⟨y,h1,h⟩:=h
    simp at h;obtain ⟨rfl,rfl⟩:=h
    have e0:=Qp h1
    injection e0 with e0;subst e0
    have:=Qg h1;subst this
    obtain ⟨hlb,_,hval⟩:LR0 s (.rw b i ver wt x0) w:=hr
    obtain ⟨hfl,hrow,_⟩:=(hval _ hb).2 hv
    have hno:∀ t,wt≠.os t:=fun t e=>by subst e;simp [Ty.flat] at hfl
    rcases hrow with ⟨rfl,rfl⟩ | ⟨z,oo,k,rfl,q1,q2,q3,q4,q5,q6⟩
    ·obtain ⟨s1,l1,g1,u1,k1,t1,hl,ho⟩:=hs.detach (i:=i) hb none (fun z h=>by simp at h)
     refine ⟨s1,[],l1,g1,u1,k1,t1,.inl ⟨rfl,rfl,rfl⟩,fun z=>?_,by simp,by simp,ho⟩
     rw [hl z];simp
    ·obtain ⟨s1,l1,g1,u1,k1,t1,hl,ho⟩:=hs.detach (i:=i) hb (some z) (fun y h=>by injection h with h;subst h;exact q1)
     refine ⟨s1,[z],l1,g1,u1,k1,t1,.inr ⟨z,oo,k,[],rfl,by simp,rfl,by rw [g1];exact q2,q3,q4,q5,?_,InR.ofNo hno⟩,fun y=>?_,fun y hy=>?_,by simp,ho⟩
     ·refine ⟨by rw [List.length_take,List.length_drop];have:=q5.1;omega,fun j hj=>?_⟩
      have hm:=Q1m (k:=wt.size) hj
      have e2:seg ((k.cells.drop oo).take (x0.length*wt.size)) (j*wt.size) wt.size=(k.cells.drop (oo+j*wt.size)).take wt.size:=by
       unfold seg;rw [List.drop_take,List.take_take,Nat.min_eq_left (by omega),List.drop_drop]
      rw [e2];exact Rep.flat wt hfl (q6 j hj)
     ·rw [hl y];simp [eq_comm]
     ·simp at hy;subst hy;exact (hs.kl y _ q1).2.2.1
   ·simp at h
  ·simp at h
 ·simp at h
theorem Q6e {s:S} (hs:StR s) {t:Ty} {p:PV} {w:Value} (hr:ER s p w) {x:TV} {L':LS} (h:Q4j true t p s.L=some (x,L')) :
  x.1=t∧∃ s' ids,s'.L=L'∧s'.H=s.H∧s'.μ=s.μ∧Keep s s'∧StR s'∧HR s'.N s'.H s.lim .os x w ids∧(∀ z,s'.Lim z↔s.Lim z∨z∈ids)∧(∀ z∈ids,¬ s.Lim z)∧ids.Nodup∧(∀ z,Own s' z↔Own s z):=by
 unfold Q4j at h
 split at h
 ·rename_i e;simp at e
 ·split at h
  ·rename_i u
   obtain ⟨⟨y,L1⟩,h1,h⟩:=ob h
   simp at h;obtain ⟨rfl,rfl⟩:=h
   have hr2:LR0 s p w:=by
    have h4':=h1
    unfold Q7d at h4'
    split at h4'
    ·exact hr
    ·exact hr
    ·exact hr
    ·simp at h4'
   obtain ⟨s',ids,a1,a2,a3,a4,a5,a6,a7⟩:=Qi3 hs hr2 h1
   exact ⟨rfl,s',ids,a1,a2,a3,a4,a5,⟨u,y,rfl,a6⟩,a7⟩
  ·simp at h
theorem Qi4 {s:S} {t:Ty} {ps:List PV} {cs:List Value} {v:Value} (hv:Qke t cs v) (h:LRs s ps cs):AR s (Q4i t ps) v:=by
 have leaf:∀ w,cs=[w]→∃ p,ps=[p]∧LR0 s p w:=by
  rintro w rfl
  match ps,h with
  | [p],h=>exact ⟨p,rfl,h.1⟩
 cases t with
 | pair a b=>obtain rfl:=hv;exact ⟨cs,rfl,h⟩
 | int k=>obtain ⟨p,rfl,hp⟩:=leaf v hv;exact AR.of hp
 | bool=>obtain ⟨p,rfl,hp⟩:=leaf v hv;exact AR.of hp
 | str=>obtain ⟨p,rfl,hp⟩:=leaf v hv;exact AR.of hp
 | sl t=>obtain ⟨p,rfl,hp⟩:=leaf v hv;exact AR.of hp
 | os t=>obtain ⟨p,rfl,hp⟩:=leaf v hv;exact AR.of hp
theorem Qq3 {u:Ty} {v:PV} {L L':LS} {x:List u.T} (h:Q7d u v L=some (x,L')):Q4j true (.sl u) v L=some (⟨.sl u,x⟩,L'):=by
 unfold Q4j;simp only [h,Q1]
theorem Q3r:∀ (t:Ty) {s:S} {cs:List PV} {vs:List Value} {x:t.T} {L':LS},StR s→LRs s cs vs→Qk8 t cs s.L=some (x,L') →
  ∃ s' ids,s'.L=L'∧s'.H=s.H∧s'.μ=s.μ∧Keep s s'∧StR s'∧Q3b s'.N s'.H s.lim t x vs ids∧(∀ z,s'.Lim z↔s.Lim z∨z∈ids)∧(∀ z∈ids,¬ s.Lim z)∧ids.Nodup∧(∀ z,Own s' z→Own s z)
 | .int k,s,cs,vs,x,L',hs,hr,h=>by
  obtain ⟨s',a1,a2,a3,a4,a5,a6,a7,a8⟩:=Q56 (.int k) hs hr h
  exact ⟨s',[],a1,a2,a3,a4,a5,⟨rfl,a6⟩,by simp [a8],by simp,by simp,a7⟩
 | .bool,s,cs,vs,x,L',hs,hr,h=>by
  obtain ⟨s',a1,a2,a3,a4,a5,a6,a7,a8⟩:=Q56 .bool hs hr h
  exact ⟨s',[],a1,a2,a3,a4,a5,⟨rfl,a6⟩,by simp [a8],by simp,by simp,a7⟩
 | .str,s,cs,vs,x,L',hs,hr,h=>by
  obtain ⟨s',a1,a2,a3,a4,a5,a6,a7,a8⟩:=Q56 .str hs hr h
  exact ⟨s',[],a1,a2,a3,a4,a5,⟨rfl,a6⟩,by simp [a8],by simp,by simp,a7⟩
 | .sl t,s,cs,vs,x,L',hs,hr,h=>by
  obtain ⟨s',a1,a2,a3,a4,a5,a6,a7,a8⟩:=Q56 (.sl t) hs hr h
  exact ⟨s',[],a1,a2,a3,a4,a5,⟨rfl,a6⟩,by simp [a8],by simp,by simp,a7⟩
 | .os u,s,cs,vs,x,L',hs,hr,h=>by
  unfold Qk8 at h;split at h
  ·rename_i p
   obtain ⟨v,rfl,hv⟩:=hr.one
   obtain ⟨_,s1,ids,l1,g1,u1,k1,t1,hh,hl,hnl,hnd,ho⟩:=Q6e hs (ER.of0 hv) (Qq3 h)
   obtain ⟨u',x',e,hh⟩:=hh
   injection e with e1 e2
   injection e1 with e1;subst e1
   replace e2:=eq_of_heq e2;subst e2
   exact ⟨s1,ids,l1,g1,u1,k1,t1,⟨v,rfl,hh⟩,hl,hnl,hnd,fun z hz=>(ho z).1 hz⟩
  ·simp at h
 | .pair a b,s,cs,vs,x,L',hs,hr,h=>by
  unfold Qk8 at h
  obtain ⟨r,h1,h⟩:=ob h
  obtain ⟨q,h2,h⟩:=ob h
  simp at h;obtain ⟨e1,e2⟩:=h
  obtain ⟨s1,i,l1,g1,u1,k1,t1,r1,m1,n1,d1,o1⟩:=Q3r a (x:=r.1) (L':=r.2) hs (Qw.take a.size hr) (by rw [h1])
  rw [← l1] at h2
  obtain ⟨s2,j,l2,g2,u2,k2,t2,r2,m2,n2,d2,o2⟩:=Q3r b (x:=q.1) (L':=q.2) t1 (Qw.drop a.size (k1.LRs hr)) (by rw [h2])
  subst e1 e2
  have hlim:s1.lim=s.lim:=k1.lim
  refine ⟨s2,i++j,l2,g2.trans g1,u2.trans u1,k1.trans k2,t2,⟨i,j,rfl,Q3b.frame (fun z hz hlt=>⟨k2.N hlt hz,by rw [g2]⟩) a r1 (fun z _=>by rw [g2]),by rw [← hlim];exact r2⟩,fun z=>?_,fun z hz=>?_,?_,fun z hz=>o1 z (o2 z hz)⟩
  ·rw [m2,m1,Zh];constructor
   ·rintro ((h | h) | h)<;>simp [h]
   ·rintro (h | h | h)<;>simp [h]
  ·rcases List.mem_append.1 hz with hz | hz
   ·exact n1 z hz
   ·exact fun h=>n2 z hz ((m1 z).2 (.inl h))
  ·rw [Zn]
   exact ⟨d1,d2,fun p hp q hq e=>by subst e;exact n2 p hq ((m1 p).2 (.inr hp))⟩
theorem Qi5:∀ {u:Ty} (x:List u.T),(∀ t,u=.os t→t.flat=false)→Q9w u x=.arr u x
 | .os t,x,h=>by simp only [Q9w,h t rfl]
 | .int _,_,_=>rfl
 | .bool,_,_=>rfl
 | .str,_,_=>rfl
 | .sl _,_,_=>rfl
 | .pair _ _,_,_=>rfl
theorem Q5w {s:S} (hs:StR s) {u:Ty} {x:List u.T} {w:Value} {ids:List Nat} (ho:Qit s.N s.H s.lim u x w ids) (hl:∀ z∈ids,s.Lim z) :
  ∃ s',s'.L=Qv s.L (Q9w u x)∧s'.H=s.H∧Keep s s'∧StR s'∧LR0 s' (.osl s.L.bl.length 0 none) w∧(∀ z,s.N z→s'.N z)∧(∀ z,s.Lim z→z∉ids→s'.Lim z):=by
 by_cases hu:∃ t,u=.os t∧t.flat=true
 ·obtain ⟨t,rfl,hf⟩:=hu
  have hmk:Q9w (.os t) x=.rows t x none:=by simp only [Q9w,hf]
  rw [hmk]
  rcases ho with ⟨rfl,rfl,rfl⟩ | ⟨z,oo,k,ks,rfl,q0,rfl,q1,q2,q3,q4,q5,q6,q7,q8,Kf,q9,q10⟩
  ·obtain ⟨s1,e1,e2,e3,k1,t1,l1,_,n1⟩:=hs.push0R t hf
   refine ⟨s1,e1,e2,k1,t1,⟨by rw [e1,Qk];omega,?_⟩,n1,fun z hz _=>by rw [l1];exact hz⟩
   rw [e3];simp
  ·have hz:s.Lim z:=hl z (by simp)
   rw [show (Ty.os t).size=1 from rfl,Nat.mul_one] at q4 q5 q10
   obtain ⟨s1,e1,e2,e3,k1,t1,l1,o1⟩:=hs.adoptR (.rows t x none) ⟨z,oo,1,x.length⟩ hz Kf (fun y i e=>⟨hl y (by simp [q9 y i e]),fun h=>q0 (by subst h;exact q9 _ i e),q8 y (q9 y i e)⟩) (fun s' hk hm hH hkid=>by
    unfold BR;simp only [hm]
    refine ⟨trivial,hf,trivial,trivial,k,by rw [hH];exact q1,q4,q2,by rw [hk.lim];exact q3,fun i hi _=>?_⟩
    obtain ⟨v,p1,p2⟩:=q10 i hi
    refine ⟨v,?_,?_⟩
    ·rw [List.getElem?_take_of_lt hi,Zp] at p1;exact p1
    ·rw [hk.lim];exact p2.mono hf (fun y hy=>⟨hkid y i hy,by rw [hH]⟩))
   refine ⟨s1,e1,e2,k1,t1,⟨by rw [e1,Qk];omega,?_⟩,fun z' hz'=>⟨fun h=>hz'.1 ((o1 z').1 h),by rw [k1.ban];exact hz'.2⟩,fun z' hz' hn=>(l1 z').2 ⟨hz',fun e=>hn (by simp [e]),?_⟩⟩
   ·rw [e3];simp [Ty.size]
   ·cases e:Kf z' with
    | none=>rfl
    | some i=>exact absurd (List.mem_cons_of_mem _ (q9 z' i e)) hn
 ·have hno:∀ t,u=.os t→t.flat=false:=fun t e=>by
   cases h:t.flat with
   | false=>rfl
   | true=>exact absurd ⟨t,e,h⟩ hu
  rw [Qi5 x hno]
  rcases ho with ⟨rfl,rfl,rfl⟩ | ⟨z,oo,k,ks,rfl,q0,rfl,q1,q2,q3,q4,q5,q6⟩
  ·obtain ⟨s1,e1,e2,e3,k1,t1,l1,n1⟩:=hs.push0 u
   refine ⟨s1,e1,e2,k1,t1,⟨by rw [e1,Qk];omega,?_⟩,n1,fun z hz _=>by rw [l1];exact hz⟩
   rw [e3];simp
  ·have hz:s.Lim z:=hl z (by simp)
   obtain ⟨s1,e1,e2,e3,k1,t1,l1,o1⟩:=hs.adopt (.arr u x) ⟨z,oo,u.size,x.length⟩ hz (fun s' hk hm hH hNi=>by
    unfold BR;simp only [hm]
    refine ⟨trivial,trivial,k,by rw [hH];exact q1,q4,fun i hi=>?_,fun _=>⟨q2,by rw [hk.lim];exact q3⟩,fun e=>absurd e (by decide)⟩
    have:=q5.2 i hi
    have hmi:=Q1m (k:=u.size) hi
    unfold seg at this;rw [List.drop_take,List.take_take,Nat.min_eq_left (by omega),List.drop_drop] at this
    rw [hH];exact Rep.mono (fun z hz=>(hNi z).2 hz) _ this)
   refine ⟨s1,e1,e2,k1,t1,⟨by rw [e1,Qk];omega,?_⟩,fun z' hz'=>⟨fun h=>hz'.1 ((o1 z').1 h),by rw [k1.ban];exact hz'.2⟩,fun z' hz' hn=>(l1 z').2 ⟨hz',fun e=>hn (by simp [e])⟩⟩
   rw [e3];simp
theorem Qbm:∀ (t:Ty) {x:t.T} {L:LS},L.bl.length≤(Q5b t x L).2.bl.length∧∀ b,b < L.bl.length→Qi (Q5b t x L).2 b=Qi L b
 | .int k,_,L=>⟨Zd _,fun _ _=>rfl⟩
 | .bool,_,L=>⟨Zd _,fun _ _=>rfl⟩
 | .str,_,L=>⟨Zd _,fun _ _=>rfl⟩
 | .sl t,_,L=>⟨Zd _,fun _ _=>rfl⟩
 | .os u,x,L=>by
  simp only [Q5b]
  exact ⟨by rw [Qk];omega,fun b hb=>Qz hb⟩
 | .pair a c,x,L=>by
  simp only [Q5b]
  obtain ⟨a1,a2⟩:=Qbm a (x:=x.1) (L:=L)
  obtain ⟨b1,b2⟩:=Qbm c (x:=x.2) (L:=(Q5b a x.1 L).2)
  exact ⟨Nat.le_trans a1 b1,fun b hb=>by rw [b2 b (Zm hb a1),a2 b hb]⟩
theorem Q5x:∀ (t:Ty) {s:S} {x:t.T} {vs:List Value} {ids:List Nat},StR s→Q3b s.N s.H s.lim t x vs ids→(∀ z∈ids,s.Lim z)→ids.Nodup →
  ∃ s',s'.L=(Q5b t x s.L).2∧s'.H=s.H∧Keep s s'∧StR s'∧LRs s' (Q5b t x s.L).1 vs∧(∀ z,s.N z→s'.N z)∧(∀ z,s.Lim z→z∉ids→s'.Lim z)
 | .int k,s,x,vs,ids,hs,hr,_,_=>⟨s,rfl,rfl,Keep.refl s,hs,Q1g (.int k) (Rep.mono (fun z hz=>S.NN_clk hz) _ hr.2),fun _ h=>h,fun _ h _=>h⟩
 | .bool,s,x,vs,ids,hs,hr,_,_=>⟨s,rfl,rfl,Keep.refl s,hs,Q1g .bool (Rep.mono (fun z hz=>S.NN_clk hz) _ hr.2),fun _ h=>h,fun _ h _=>h⟩
 | .str,s,x,vs,ids,hs,hr,_,_=>⟨s,rfl,rfl,Keep.refl s,hs,Q1g .str (Rep.mono (fun z hz=>S.NN_clk hz) _ hr.2),fun _ h=>h,fun _ h _=>h⟩
 | .sl t,s,x,vs,ids,hs,hr,_,_=>⟨s,rfl,rfl,Keep.refl s,hs,Q1g (.sl t) (Rep.mono (fun z hz=>S.NN_clk hz) _ hr.2),fun _ h=>h,fun _ h _=>h⟩
 | .os u,s,x,vs,ids,hs,hr,hl,hn=>by
  obtain ⟨w,rfl,ho⟩:=hr
  obtain ⟨s1,a1,a2,a3,a4,a5,a6,a7⟩:=Q5w hs ho hl
  exact ⟨s1,a1,a2,a3,a4,⟨a5,trivial⟩,a6,a7⟩
 | .pair a b,s,x,vs,ids,hs,hr,hl,hn=>by
  obtain ⟨i,j,rfl,r1,r2⟩:=hr
  rw [Zn] at hn
  obtain ⟨n1,n2,n3⟩:=hn
  obtain ⟨s1,a1,a2,a3,a4,a5,a6,a7⟩:=Q5x a hs r1 (fun z hz=>hl z (by simp [hz])) n1
  obtain ⟨s2,b1,b2,b3,b4,b5,b6,b7⟩:=Q5x b a4 (Q3b.frame (H:=s.H) (G:=s1.H) (M:=s1.N) (fun z hz _=>⟨a6 z hz,by rw [a2]⟩) b (by rw [a3.lim];exact r2) (fun z _=>by rw [a2])) (fun z hz=>a7 z (hl z (by simp [hz])) (fun h=>n3 z h z hz rfl)) n2
  simp only [Q5b]
  rw [a1] at b1 b5
  refine ⟨s2,b1,b2.trans a2,a3.trans b3,b4,?_,fun z hz=>b6 z (a6 z hz),fun z hz hm=>b7 z (a7 z hz (fun h=>hm (by simp [h]))) (fun h=>hm (by simp [h]))⟩
  have:=Qw.append (b3.LRs a5) b5
  rw [List.take_append_drop] at this
  exact this
theorem Qfa {s:S} {t:Ty} {p:PV} {w:Value} (hr:ER s p w) (ho:okV p=true) (hs:Qc2 t p=true):Qke t w.cells.toList w:=by
 have leaf:∀ v,LR0 s p v→v.cells.toList=[v]:=by
  intro v hv
  have:=hv.cell
  cases v<;>first | rfl | simp [isCell] at this
 cases p with
 | tup cs=>simp [okV] at ho
 | fn f a b=>simp [okV] at ho
 | undef=>simp [okV] at ho
 | agg cs =>
  obtain ⟨vs,rfl,_⟩:=hr
  cases t<;>first | rfl | simp [Qc2] at hs
 | _ =>
  have:=leaf w hr
  cases t<;>first | exact this | simp [Qc2] at hs
def TM (s:S) (lim:Nat):List (PM×Ty)→List PV→List Value→List (Option TV)→List (List Nat)→Prop
 | [],[],[],[],[]=>True
 | (m,t)::ps,p::args,w::ws,o::os,ids::idss=>(match m with
   | .ro=>o=none∧ids=[]
   | .cl g=>ids=[]∧w=.func (.func g) ⟨[]⟩ ⟨[]⟩∧∃ x,o=some x
   | .mv=>∃ x,o=some x∧x.1=t∧HR s.N s.H lim .os x w ids∧∀ z∈ids,s.Lim z
   | .io=>∃ x b u,o=some x∧x.1=t∧t=.sl u∧p=.osl b 0 none∧HR s.N s.H lim .os x w ids∧ids=(match s.μ b with | none=>[] | some m=>[m.z])
   | .ps=>∃ x b m j,o=some x∧x.1=t∧p=.ptr b 0∧HR s.N s.H lim .cb x w ids∧s.μ b=some m∧ids=m.z::j∧∀ z∈j,s.Lim z)∧TM s lim ps args ws os idss
 | _,_,_,_,_=>False
theorem TM.keep {s s':S} {lim:Nat} (hk:Keep s s') (hH:s'.H=s.H) (hu:s'.μ=s.μ) (hl:∀ z,s.Lim z→s'.Lim z):∀ {ps:List (PM×Ty)} {args:List PV} {ws:List Value} {os:List (Option TV)} {idss:List (List Nat)},TM s lim ps args ws os idss→TM s' lim ps args ws os idss
 | [],[],[],[],[],_=>trivial
 | (m,t)::ps,p::args,w::ws,o::os,ids::idss,h=>by
  have fr:∀ {kd:Kd} {x:TV},HR s.N s.H lim kd x w ids→HR s'.N s'.H lim kd x w ids:=fun h=>h.frame (fun z hz hlt=>⟨hk.N hlt hz,hk.fr z hlt hz.1⟩) (fun z _=>by rw [hH])
  refine ⟨?_,TM.keep hk hH hu hl h.2⟩
  have h1:=h.1
  cases m with
  | ro=>exact h1
  | cl g=>exact h1
  | mv=>obtain ⟨x,a,b,c,d⟩:=h1;exact ⟨x,a,b,fr c,fun z hz=>hl z (d z hz)⟩
  | io=>obtain ⟨x,b,u,a1,a2,a3,a4,a5,a6⟩:=h1;exact ⟨x,b,u,a1,a2,a3,a4,fr a5,by rw [hu];exact a6⟩
  | ps=>obtain ⟨x,b,m,j,a1,a2,a3,a4,a5,a6,a7⟩:=h1;exact ⟨x,b,m,j,a1,a2,a3,fr a4,by rw [hu];exact a5,a6,fun z hz=>hl z (a7 z hz)⟩
def Q0g (s:S):List (PM×Ty)→List PV→Prop
 | [],_=>True
 | (.io,_)::ps,.osl b _ _::args=>(∃ B,Qi s.L b=some B∧B.rw=true)∧Q0g s ps args
 | (.ps,_)::ps,.ptr b _::args=>(∃ B,Qi s.L b=some B∧B.rw=true)∧Q0g s ps args
 | _::ps,_::args=>Q0g s ps args
 | _::_,[]=>True
theorem Q0p {l:List Nat} {b:Nat} (h:l.contains b=false):b∉l:=by
 intro hm;rw [List.contains_iff_mem.2 hm] at h;simp at h
theorem Q4h:∀ {ps:List (PM×Ty)} {args:List PV} {ws:List Value} {lent lent':List Nat} {s:S} {os:List (Option TV)} {L1:LS},StR s→Qw (ER s) args ws→Q47 ps args lent s.L=some (os,lent',L1) →
  ∃ s1 idss,s1.L=L1∧s1.H=s.H∧s1.μ=s.μ∧Keep s s1∧StR s1∧(∀ z,Own s1 z→Own s z)∧(∀ z,s.Lim z→s1.Lim z)∧TM s1 s.lim ps args ws os idss∧(∀ b,b∈lent→b∈lent') ∧
   ∀ s2,Keep s1 s2→(∀ z,s1.Lim z→s2.Lim z)→StR s2→s2.μ=s.μ→Q0g s2 ps args→idss.flatten.Nodup∧∀ z∈idss.flatten,(s2.Lim z∧¬ s.Lim z)∨∃ b B m,b∉lent∧b∈lent'∧Qi s2.L b=some B∧B.rw=true∧s2.μ b=some m∧m.z=z
 | [],[],[],lent,lent',s,os,L1,hs,_,h=>by
  simp [Q47] at h;obtain ⟨rfl,rfl,rfl⟩:=h
  exact ⟨s,[],rfl,rfl,rfl,Keep.refl s,hs,fun _ h=>h,fun _ h=>h,trivial,fun _ h=>h,fun s2 _ _ _ _ _=>by simp⟩
 | (m,t)::ps,p::args,w::ws,lent,lent',s,os,L1,hs,hr,h=>by
  obtain ⟨hr1,hr2⟩:=hr
  simp only [Q47] at h
  have mvcase:∀ (hm:m=.mv),(Q1 (Q4j true t p s.L) fun x=>Q1 (Q47 ps args lent x.2) fun r=>some (some x.1::r.1,r.2.1,r.2.2))=some (os,lent',L1)→∃ s1 idss,s1.L=L1∧s1.H=s.H∧s1.μ=s.μ∧Keep s s1∧StR s1∧(∀ z,Own s1 z→Own s z)∧(∀ z,s.Lim z→s1.Lim z)∧TM s1 s.lim ((m,t)::ps) (p::args) (w::ws) os idss∧(∀ b,b∈lent→b∈lent') ∧
   ∀ s2,Keep s1 s2→(∀ z,s1.Lim z→s2.Lim z)→StR s2→s2.μ=s.μ→Q0g s2 ((m,t)::ps) (p::args)→idss.flatten.Nodup∧∀ z∈idss.flatten,(s2.Lim z∧¬ s.Lim z)∨∃ b B m,b∉lent∧b∈lent'∧Qi s2.L b=some B∧B.rw=true∧s2.μ b=some m∧m.z=z:=by
   clear h
   intro hm h
   subst hm
   replace h:=ob h;obtain ⟨⟨x,L2⟩,h1,h⟩:=h
   replace h:=ob h;obtain ⟨⟨os',lt',L3⟩,h2,h⟩:=h
   simp at h;obtain ⟨rfl,rfl,rfl⟩:=h
   obtain ⟨hx,s1,ids,l1,g1,u1,k1,t1,hh,hl,hnl,hnd,ho⟩:=Q6e hs hr1 h1
   simp only at h2
   rw [← l1] at h2
   obtain ⟨s2,idss,l2,g2,u2,k2,t2,o2,m2,tm2,sub2,nd2⟩:=Q4h t1 (Qw.mono (fun _ _=>k1.ER) hr2) h2
   have hlim:s1.lim=s.lim:=k1.lim
   refine ⟨s2,ids::idss,l2,g2.trans g1,u2.trans u1,k1.trans k2,t2,fun z hz=>(ho z).1 (o2 z hz),fun z hz=>m2 z ((hl z).2 (.inl hz)),⟨⟨x,rfl,hx,hh.frame (fun z hz hlt=>⟨k2.N hlt hz,k2.fr z hlt hz.1⟩) (fun z _=>by rw [g2]),fun z hz=>m2 z ((hl z).2 (.inr hz))⟩,by rw [← hlim];exact tm2⟩,sub2,?_⟩
   intro s3 k3 m3 t3 u3 hll
   obtain ⟨n1,n2⟩:=nd2 s3 k3 m3 t3 (u3.trans u1.symm) hll
   refine ⟨?_,fun z hz=>?_⟩
   ·rw [Ze,Zn]
    refine ⟨hnd,n1,fun a ha b hb e=>?_⟩
    subst e
    have hla:s1.Lim a:=(hl a).2 (.inr ha)
    rcases n2 a hb with ⟨_,h5⟩ | ⟨b',B,mm,_,_,h6,h7,h8,rfl⟩
    ·exact h5 hla
    ·exact t3.lm b' B mm h6 h8 (m3 _ (m2 _ hla))
   ·rw [Ze,Zh] at hz
    rcases hz with hz | hz
    ·exact .inl ⟨m3 z (m2 z ((hl z).2 (.inr hz))),hnl z hz⟩
    ·rcases n2 z hz with ⟨h4,h5⟩ | h6
     ·exact .inl ⟨h4,fun h=>h5 ((hl z).2 (.inl h))⟩
     ·exact .inr h6
  cases m with
  | ro =>
   simp only at h
   replace h:=ob h;obtain ⟨⟨os',lt',L3⟩,h2,h⟩:=h
   simp at h;obtain ⟨rfl,rfl,rfl⟩:=h
   obtain ⟨s2,idss,l2,g2,u2,k2,t2,o2,m2,tm2,sub2,nd2⟩:=Q4h hs hr2 h2
   refine ⟨s2,[]::idss,l2,g2,u2,k2,t2,o2,m2,⟨⟨rfl,rfl⟩,tm2⟩,sub2,fun s3 k3 m3 t3 u3 hll=>?_⟩
   simpa using nd2 s3 k3 m3 t3 u3 hll
  | cl g =>
   simp only at h
   split at h
   ·rename_i f
    split at h
    ·rename_i hfg
     have hfg:=Z7 hfg
     subst hfg
     replace h:=ob h;obtain ⟨⟨os',lt',L3⟩,h2,h⟩:=h
     simp at h;obtain ⟨rfl,rfl,rfl⟩:=h
     obtain ⟨s2,idss,l2,g2,u2,k2,t2,o2,m2,tm2,sub2,nd2⟩:=Q4h hs hr2 h2
     have hw:w=.func (.func f) ⟨[]⟩ ⟨[]⟩:=by
      obtain ⟨a',b',rfl,q1,q2⟩:=hr1
      cases a' with
      | nil=>cases b' with
       | nil=>rfl
       | cons _ _=>exact absurd q2 id
      | cons _ _=>exact absurd q1 id
     refine ⟨s2,[]::idss,l2,g2,u2,k2,t2,o2,m2,⟨⟨rfl,hw,_,rfl⟩,tm2⟩,sub2,fun s3 k3 m3 t3 u3 hll=>?_⟩
     have hll:Q0g s3 ps args:=hll
     simpa using nd2 s3 k3 m3 t3 u3 hll
    ·simp at h
   ·simp at h
  | mv =>
   simp only at h
   split at h
   ·split at h
    ·simp at h
    ·exact mvcase rfl h
   ·split at h
    ·simp at h
    ·exact mvcase rfl h
   ·exact mvcase rfl h
  | io =>
   simp only at h
   split at h
   ·rename_i u b
    split at h
    ·simp at h
    ·rename_i hnc
     have hnc:=Q0p hnc
     replace h:=ob h;obtain ⟨x,h1,h⟩:=h
     replace h:=ob h;obtain ⟨⟨os',lt',L3⟩,h2,h⟩:=h
     simp at h;obtain ⟨rfl,rfl,rfl⟩:=h
     obtain ⟨s2,idss,l2,g2,u2,k2,t2,o2,m2,tm2,sub2,nd2⟩:=Q4h hs hr2 h2
     unfold Qne at h1
     split at h1
     ·rename_i ver wt xs hb
      split at h1
      ·simp at h1
      rename_i hno0
      have hno:∀ t,wt≠.os t:=fun t e=>by subst e;simp [Ty.isOs] at hno0
      replace h1:=ob h1;obtain ⟨y,h3,h1⟩:=h1
      simp at h1;subst h1
      have e0:=Qp h3
      injection e0 with e0;subst e0
      have:=Qg h3;subst this
      have hr1:LR0 s (.osl b 0 none) w:=hr1
      obtain ⟨hlb,hr1⟩:=hr1
      refine ⟨s2,(match s.μ b with | none=>[] | some m=>[m.z])::idss,l2,g2,u2,k2,t2,o2,m2,⟨⟨_,b,wt,rfl,rfl,rfl,rfl,?_,by rw [u2]⟩,tm2⟩,fun q hq=>sub2 q (by simp [hq]),?_⟩
      ·cases hm:s.μ b with
       | none =>
        rw [hm] at hr1;obtain ⟨_,_,rfl⟩:=hr1
        have hx:=Q5z hs hb hm;subst hx
        exact ⟨wt,[],rfl,.inl ⟨rfl,rfl,rfl⟩⟩
       | some m =>
        rw [hm] at hr1;obtain ⟨g0,rfl⟩:=hr1
        obtain ⟨a1,a2,k,a3,a4,a5,a6,a7⟩:=Q0k hs hb hm
        refine ⟨wt,xs,rfl,.inr ⟨m.z,m.sh,k,[],rfl,by simp,by simp [a1,a2],by rw [g2];exact a3,(a6 rfl).1,(a6 rfl).2,Q3s hs hb hm a3,(RL.ofBlk a4 a5).frame (fun z hz hl=>⟨k2.N hl hz,k2.fr z hl hz.1⟩),InR.ofNo hno⟩⟩
      ·intro s3 k3 m3 t3 u3 hll
       obtain ⟨⟨B,hB1,hB2⟩,hll⟩:=hll
       obtain ⟨n1,n2⟩:=nd2 s3 k3 m3 t3 u3 hll
       have hbl:b∈lt':=sub2 b (by simp)
       cases hm:s.μ b with
       | none =>
        simp only [Ze,List.nil_append]
        refine ⟨n1,fun z hz=>?_⟩
        rcases n2 z hz with h6 | ⟨b',B',mm,h5,h6⟩
        ·exact .inl h6
        ·exact .inr ⟨b',B',mm,fun h=>h5 (by simp [h]),h6⟩
       | some m =>
        have hm3:s3.μ b=some m:=by rw [u3];exact hm
        refine ⟨?_,fun z hz=>?_⟩
        ·rw [Ze,Zn]
         refine ⟨by simp,n1,fun a ha q hq e=>?_⟩
         simp at ha;subst ha;subst e
         rcases n2 _ hq with ⟨h5,_⟩ | ⟨b',B',mm,h5,_,h6,h7,h8,h9⟩
         ·exact t3.lm b B m hB1 hm3 h5
         ·have:=t3.inj b' b B' B mm m h6 hB1 h7 h8 hm3 h9
          exact h5 (by simp [this])
        ·rw [Ze,Zh] at hz
         rcases hz with hz | hz
         ·simp at hz;subst hz
          exact .inr ⟨b,B,m,hnc,hbl,hB1,hB2,hm3,rfl⟩
         ·rcases n2 z hz with h6 | ⟨b',B',mm,h5,h6⟩
          ·exact .inl h6
          ·exact .inr ⟨b',B',mm,fun h=>h5 (by simp [h]),h6⟩
     ·simp at h1
   ·simp at h
  | ps =>
   simp only at h
   split at h
   ·rename_i b
    split at h
    ·simp at h
    ·rename_i hnc
     have hnc:=Q0p hnc
     replace h:=ob h;obtain ⟨⟨x,L2⟩,h1,h⟩:=h
     replace h:=ob h;obtain ⟨⟨os',lt',L3⟩,h2,h⟩:=h
     simp at h;obtain ⟨rfl,rfl,rfl⟩:=h
     unfold Qnd at h1
     split at h1
     ·rename_i ver cs hb
      replace h1:=ob h1;obtain ⟨⟨y,L4⟩,h3,h1⟩:=h1
      simp at h1;obtain ⟨rfl,rfl⟩:=h1
      have hB:=hs.blk b _ hb
      unfold BR at hB;simp only at hB
      obtain ⟨_,m,k,hm,hsh,hk,hcs,hro,hlm⟩:=hB
      obtain ⟨s1,j,l1,g1,u1,k1,t1,rr1,li1,nl1,nd1,o1⟩:=Q3r t hs hcs h3
      simp only at h2
      rw [← l1] at h2
      obtain ⟨s2,idss,l2,g2,u2,k2,t2,o2,m2,tm2,sub2,nd2⟩:=Q4h t1 (Qw.mono (fun _ _=>k1.ER) hr2) h2
      have hlim:s1.lim=s.lim:=k1.lim
      have hr1:LR0 s (.ptr b 0) w:=hr1
      obtain ⟨hlb,m',hm',_,rfl⟩:=hr1
      rw [hm] at hm';injection hm' with hm';subst hm'
      have hgH:s2.H=s.H:=g2.trans g1
      refine ⟨s2,(m.z::j)::idss,l2,hgH,u2.trans u1,k1.trans k2,t2,fun z hz=>o1 z (o2 z hz),fun z hz=>m2 z ((li1 z).2 (.inl hz)),⟨⟨_,b,m,j,rfl,rfl,rfl,⟨m.z,k,j,rfl,rfl,by rw [hgH];exact hk,hro,hlm,Q3b.frame (fun z hz hlt=>⟨k2.N hlt hz,by rw [g2]⟩) t rr1 (fun z _=>by rw [g2])⟩,by rw [u2,u1];exact hm,rfl,fun z hz=>m2 z ((li1 z).2 (.inr hz))⟩,by rw [← hlim];exact tm2⟩,fun q hq=>sub2 q (by simp [hq]),?_⟩
      intro s3 k3 m3 t3 u3 hll
      obtain ⟨⟨B,hB1,hB2⟩,hll⟩:=hll
      obtain ⟨n1,n2⟩:=nd2 s3 k3 m3 t3 (u3.trans u1.symm) hll
      have hbl:b∈lt':=sub2 b (by simp)
      have hm3:s3.μ b=some m:=by rw [u3];exact hm
      have hmj:m.z∉j:=fun h=>t3.lm b B m hB1 hm3 (m3 _ (m2 _ ((li1 _).2 (.inr h))))
      refine ⟨?_,fun z hz=>?_⟩
      ·rw [Ze,Zn]
       refine ⟨List.nodup_cons.2 ⟨hmj,nd1⟩,n1,fun a ha q hq e=>?_⟩
       subst e
       rcases Z2 ha with rfl | ha
       ·rcases n2 _ hq with ⟨h5,_⟩ | ⟨b',B',mm,h5,_,h6,h7,h8,h9⟩
        ·exact t3.lm b B m hB1 hm3 h5
        ·have:=t3.inj b' b B' B mm m h6 hB1 h7 h8 hm3 h9
         exact h5 (by simp [this])
       ·have hla:s1.Lim a:=(li1 a).2 (.inr ha)
        rcases n2 _ hq with ⟨_,h5⟩ | ⟨b',B',mm,_,_,h6,h7,h8,rfl⟩
        ·exact h5 hla
        ·exact t3.lm b' B' mm h6 h8 (m3 _ (m2 _ hla))
      ·rw [Ze,Zh] at hz
       rcases hz with hz | hz
       ·rcases Z2 hz with rfl | hz
        ·exact .inr ⟨b,B,m,hnc,hbl,hB1,hB2,hm3,rfl⟩
        ·exact .inl ⟨m3 z (m2 z ((li1 z).2 (.inr hz))),nl1 z hz⟩
       ·rcases n2 z hz with ⟨h6,h7⟩ | ⟨b',B',mm,h5,h6⟩
        ·exact .inl ⟨h6,fun h=>h7 ((li1 z).2 (.inl h))⟩
        ·exact .inr ⟨b',B',mm,fun h=>h5 (by simp [h]),h6⟩
     ·simp at h1
   ·simp at h
 | [],_::_,_,_,_,_,_,_,_,_,h=>by simp [Q47] at h
 | _::_,[],_,_,_,_,_,_,_,_,h=>by simp [Q47] at h
def TR (s:S) (al:Bool) (lent:List Nat):List (PM×Ty)→List Value→List (Option TV)→List TV→Prop
 | [],[],[],[]=>True
 | (_,t)::ps,w::ws,o::os,v::vs=>(match o with
   | some x=>v=x
   | none=>v.1=t∧v.1.hasOs=false∧∃ cs,Qke v.1 cs w∧(al=true→Rep s.N s.H v.1 v.2 cs) ∧
    (al=false→∀ M:Nat→Prop,(∀ z,s.N z→M z)→(∀ b m B,b∉lent→Qi s.L b=some B→s.μ b=some m→M m.z)→(∀ z b i,b∉lent→s.Kid z=some (b,i)→M z)→Rep M s.H v.1 v.2 cs))∧TR s al lent ps ws os vs
 | _,_,_,_=>False
theorem Q8d {al:Bool} {lent:List Nat}:∀ {ps:List (PM×Ty)} {args:List PV} {ws:List Value} {os:List (Option TV)} {s:S} {vs:List TV} {L2:LS},StR s→Qw (ER s) args ws→Qc7 al lent ps args os s.L=some (vs,L2) →
  ∃ s2,s2.L=L2∧s2.H=s.H∧s2.μ=s.μ∧Keep s s2∧StR s2∧(∀ z,Own s2 z→Own s z)∧s2.Lim=s.Lim∧(al=false→s2=s)∧TR s2 al lent ps ws os vs
 | [],[],[],[],s,vs,L2,hs,_,h=>by
  simp [Qc7] at h;obtain ⟨rfl,rfl⟩:=h
  exact ⟨s,rfl,rfl,rfl,Keep.refl s,hs,fun _ h=>h,rfl,fun _=>rfl,trivial⟩
 | (m,t)::ps,p::args,w::ws,o::os,s,vs,L2,hs,hr,h=>by
  obtain ⟨hr1,hr2⟩:=hr
  simp only [Qc7] at h
  cases o with
  | some x =>
   simp only at h
   replace h:=ob h;obtain ⟨⟨vs',L3⟩,h2,h⟩:=h
   simp at h;obtain ⟨rfl,rfl⟩:=h
   obtain ⟨s2,a1,a2,a3,a4,a5,a6,a7,a8,a9⟩:=Q8d hs hr2 h2
   exact ⟨s2,a1,a2,a3,a4,a5,a6,a7,a8,rfl,a9⟩
  | none =>
   simp only at h
   split at h
   ·rename_i hok
    simp only [Z8] at hok
    replace h:=ob h;obtain ⟨⟨x,L3⟩,h1,h⟩:=h
    replace h:=ob h;obtain ⟨⟨vs',L4⟩,h2,h⟩:=h
    simp at h;obtain ⟨rfl,rfl⟩:=h
    have hc:=hr1.cells hok.2.1
    have hv:=Qfa (t:=t) hr1 hok.2.1 hok.2.2
    cases al with
    | true =>
     obtain ⟨s1,l1,g1,u1,k1,t1,rr1,o1,li1⟩:=Q56 t hs hc h1
     simp only at h2
     rw [← l1] at h2
     obtain ⟨s2,a1,a2,a3,a4,a5,a6,a7,a8,a9⟩:=Q8d t1 (Qw.mono (fun _ _=>k1.ER) hr2) h2
     exact ⟨s2,a1,a2.trans g1,a3.trans u1,k1.trans a4,a5,fun z hz=>o1 z (a6 z hz),a7.trans li1,by simp,⟨rfl,Q8b t h1,_,hv,fun _=>a4.repN rr1,by simp⟩,a9⟩
    | false =>
     have hL:L3=s.L:=(Q6m hs t hc h1).1
     simp only at h2
     rw [hL] at h2
     obtain ⟨s2,a1,a2,a3,a4,a5,a6,a7,a8,a9⟩:=Q8d hs hr2 h2
     have hss:=a8 rfl
     refine ⟨s2,a1,a2,a3,a4,a5,a6,a7,a8,⟨rfl,Q8b t h1,_,hv,by simp,fun _ M hM hB hKi=>?_⟩,a9⟩
     rw [hss] at hM hB hKi ⊢
     refine (Qlw hs hM t (fun b off n m B hmem hb hm=>hB b m B ?_ hb hm) (fun q hq b z i hp hz=>hKi z b i ?_ hz) hc h1).2
     ·have:=Z3 hok.1 _ hmem
      simp only [Bool.not_eq_true'] at this
      exact Q0p this
     ·have:=Z3 hok.1 _ hq
      rcases hp with ⟨off,n,rfl⟩ | ⟨j,ver,t',x',rfl⟩
      ·simp only [Bool.not_eq_true'] at this
       exact Q0p this
      ·simp only [Bool.not_eq_true'] at this
       exact Q0p this
   ·simp at h
 | [],_::_,_,_,_,_,_,_,_,h=>by simp [Qc7] at h
 | _::_,[],_,_,_,_,_,_,_,h=>by simp [Qc7] at h
 | _::_,_::_,_,[],_,_,_,_,_,h=>by simp [Qc7] at h
 | [],[],_,_::_,_,_,_,_,_,h=>by simp [Qc7] at h
theorem Qut {s:S} {lim:Nat} {al:Bool} {lent:List Nat} {M:Nat→Prop} (hM:∀ z,s.N z→M z) (hB:al=false→∀ b m B,b∉lent→Qi s.L b=some B→s.μ b=some m→M m.z) (hKi:al=false→∀ z b i,b∉lent→s.Kid z=some (b,i)→M z) :
  ∀ {ps:List (PM×Ty)} {args:List PV} {ws:List Value} {os:List (Option TV)} {idss:List (List Nat)} {vs:List TV},TM s lim ps args ws os idss→TR s al lent ps ws os vs→HRs M s.H lim (ps.map fun p=>p.1.kd) vs ws idss
 | [],[],[],[],[],[],_,_=>trivial
 | (m,t)::ps,p::args,w::ws,o::os,ids::idss,v::vs,h,g=>by
  refine ⟨?_,Qut hM hB hKi h.2 g.2⟩
  have h1:=h.1;have g1:=g.1
  have fr:∀ {kd:Kd} {x:TV},HR s.N s.H lim kd x w ids→HR M s.H lim kd x w ids:=fun h=>h.frame (fun z hz hlt=>⟨hM z hz,rfl⟩) (fun z _=>rfl)
  cases m with
  | ro =>
   obtain ⟨rfl,rfl⟩:=h1
   obtain ⟨rfl,c0,cs,c1,c2,c3⟩:=g1
   refine ⟨cs,c1,Q3b.of _ c0 ?_⟩
   cases al with
   | true=>exact Rep.mono hM _ (c2 rfl)
   | false=>exact c3 rfl M hM (hB rfl) (hKi rfl)
  | cl g=>exact ⟨h1.1,h1.2.1⟩
  | mv=>obtain ⟨x,rfl,a2,a3,a4⟩:=h1;obtain rfl:v=x:=g1;exact fr a3
  | io=>obtain ⟨x,b,u,rfl,a2,a3,a4,a5,a6⟩:=h1;obtain rfl:v=x:=g1;exact fr a5
  | ps=>obtain ⟨x,b,m,j,rfl,a2,a3,a4,a5,a6,_⟩:=h1;obtain rfl:v=x:=g1;exact fr a4
def Qo:List (PM×Ty)→List PV→List Nat
 | (.io,_)::ps,.osl b _ _::args=>b::Qo ps args
 | (.ps,_)::ps,.ptr b _::args=>b::Qo ps args
 | _::ps,_::args=>Qo ps args
 | _,_=>[]
theorem Q3i:∀ {ps:List (PM×Ty)} {args:List PV} {lent lent':List Nat} {L L1:LS} {os:List (Option TV)},Q47 ps args lent L=some (os,lent',L1)→(Qo ps args).Nodup∧(∀ b∈Qo ps args,b∉lent)∧(∀ b,b∈lent'↔b∈lent∨b∈Qo ps args)
 | [],[],lent,lent',L,L1,os,h=>by
  simp [Q47] at h;obtain ⟨rfl,rfl,rfl⟩:=h;simp [Qo]
 | (m,t)::ps,p::args,lent,lent',L,L1,os,h=>by
  simp only [Q47] at h
  cases m with
  | ro =>
   simp only at h
   replace h:=ob h;obtain ⟨⟨os',lt',L3⟩,h2,h⟩:=h
   simp at h;obtain ⟨rfl,rfl,rfl⟩:=h
   have:Qo ((.ro,t)::ps) (p::args)=Qo ps args:=by cases p<;>rfl
   rw [this];exact Q3i h2
  | cl g =>
   have:Qo ((.cl g,t)::ps) (p::args)=Qo ps args:=by cases p<;>rfl
   rw [this]
   simp only at h
   split at h
   ·split at h
    ·replace h:=ob h;obtain ⟨⟨os',lt',L3⟩,h2,h⟩:=h
     simp at h;obtain ⟨rfl,rfl,rfl⟩:=h
     exact Q3i h2
    ·simp at h
   ·simp at h
  | mv =>
   have:Qo ((.mv,t)::ps) (p::args)=Qo ps args:=by cases p<;>rfl
   rw [this]
   have key:∀ {q:PV},(Q1 (Q4j true t q L) fun x=>Q1 (Q47 ps args lent x.2) fun r=>some (some x.1::r.1,r.2.1,r.2.2))=some (os,lent',L1)→(Qo ps args).Nodup∧(∀ b∈Qo ps args,b∉lent)∧(∀ b,b∈lent'↔b∈lent∨b∈Qo ps args):=by
    clear h
    intro q h
    replace h:=ob h;obtain ⟨x,h1,h⟩:=h
    replace h:=ob h;obtain ⟨⟨os',lt',L3⟩,h2,h⟩:=h
    simp at h;obtain ⟨rfl,rfl,rfl⟩:=h
    exact Q3i h2
   simp only at h
   split at h
   ·split at h
    ·simp at h
    ·exact key h
   ·split at h
    ·simp at h
    ·exact key h
   ·exact key h
  | io =>
   simp only at h
   split at h
   ·rename_i u b
    split at h
    ·simp at h
    ·rename_i hnc
     have hnc:=Q0p hnc
     replace h:=ob h;obtain ⟨x,h1,h⟩:=h
     replace h:=ob h;obtain ⟨⟨os',lt',L3⟩,h2,h⟩:=h
     simp at h;obtain ⟨rfl,rfl,rfl⟩:=h
     obtain ⟨a1,a2,a3⟩:=Q3i h2
     simp only [Qo]
     refine ⟨List.nodup_cons.2 ⟨fun hb=>a2 b hb (by simp),a1⟩,fun q hq=>?_,fun q=>?_⟩
     ·rcases Z2 hq with rfl | hq
      ·exact hnc
      ·exact fun h=>a2 q hq (by simp [h])
     ·rw [a3];simp only [List.mem_cons];constructor
      ·rintro ((rfl | h) | h)<;>simp_all
      ·rintro (h | rfl | h)<;>simp_all
   ·simp at h
  | ps =>
   simp only at h
   split at h
   ·rename_i b
    split at h
    ·simp at h
    ·rename_i hnc
     have hnc:=Q0p hnc
     replace h:=ob h;obtain ⟨x,h1,h⟩:=h
     replace h:=ob h;obtain ⟨⟨os',lt',L3⟩,h2,h⟩:=h
     simp at h;obtain ⟨rfl,rfl,rfl⟩:=h
     obtain ⟨a1,a2,a3⟩:=Q3i h2
     simp only [Qo]
     refine ⟨List.nodup_cons.2 ⟨fun hb=>a2 b hb (by simp),a1⟩,fun q hq=>?_,fun q=>?_⟩
     ·rcases Z2 hq with rfl | hq
      ·exact hnc
      ·exact fun h=>a2 q hq (by simp [h])
     ·rw [a3];simp only [List.mem_cons];constructor
      ·rintro ((rfl | h) | h)<;>simp_all
      ·rintro (h | rfl | h)<;>simp_all
   ·simp at h
 | [],_::_,_,_,_,_,_,h=>by simp [Q47] at h
 | _::_,[],_,_,_,_,_,h=>by simp [Q47] at h
def Qzo (L L':LS) (b:Nat) (B B':VB):Prop:=Qi L b=some B∧B.rw=true∧Qi L' b=some B'∧B'.rw=true∧B'.ver=B.ver+1
theorem Qbn {b:Nat} {v:TV} {L L':LS} (h:inAb b v L=some L'):∃ n u xs x,Qi L b=some ⟨n,true,.arr u xs⟩∧v=⟨.sl u,x⟩∧L'=Q2h L b ⟨n+1,true,.arr u x⟩:=by
 unfold inAb at h
 split at h
 ·rename_i n u xs t x hb
  split at h
  ·rename_i he
   have:=Ty.beq_eq he;subst this
   simp at h;exact ⟨n,u,xs,x,hb,rfl,h.symm⟩
  ·simp at h
 ·simp at h
theorem Q8e {b:Nat} {v:TV} {L L':LS} (h:inCb b v L=some L'):∃ n cs,Qi L b=some ⟨n,true,.cells cs⟩∧cs.length=v.1.size∧L'=Q2h L b ⟨n+1,true,.cells (Q1y L.clk v.1 v.2)⟩:=by
 unfold inCb at h
 split at h
 ·rename_i n cs hb
  split at h
  ·rename_i he
   simp at h;exact ⟨n,cs,hb,Z7 he,h.symm⟩
  ·simp at h
 ·simp at h
theorem Q12:∀ {ps:List (PM×Ty)} {args:List PV} {vs:List TV} {L L':LS},Q0j ps args vs L=some L'→(Qo ps args).Nodup →
  L'.bl.length=L.bl.length∧L'.clk=L.clk∧(∀ c,c∉Qo ps args→Qi L' c=Qi L c)∧(∀ c∈Qo ps args,∃ B B',Qzo L L' c B B')
 | [],[],[],L,L',h,_=>by
  simp [Q0j] at h;subst h;simp [Qo]
 | (m,t)::ps,p::args,vs,L,L',h,hn=>by
  cases m with
  | io =>
   simp only [Q0j] at h
   split at h
   ·rename_i b v vs'
    replace h:=ob h;obtain ⟨L1,h1,h⟩:=h
    simp only [Qo] at hn ⊢
    obtain ⟨hn1,hn2⟩:=List.nodup_cons.1 hn
    obtain ⟨a1,a2,a3,a4⟩:=Q12 h hn2
    obtain ⟨n',u,xs,x,g1,g2,rfl⟩:=Qbn h1
    have hlb:=Qn g1
    refine ⟨by rw [a1,Q0t],a2,fun c hc=>?_,fun c hc=>?_⟩
    ·simp only [List.mem_cons,not_or] at hc
     rw [a3 c hc.2,Q0i (Ne.symm hc.1)]
    ·rcases Z2 hc with rfl | hc
     ·exact ⟨_,_,g1,rfl,by rw [a3 c hn1,Qq hlb],rfl,rfl⟩
     ·obtain ⟨B,B',b1,b2,b3⟩:=a4 c hc
      have hne:b≠c:=fun e=>hn1 (e▸hc)
      rw [Q0i hne] at b1
      exact ⟨B,B',b1,b2,b3⟩
   ·simp at h
  | ps =>
   simp only [Q0j] at h
   split at h
   ·rename_i b off v vs'
    replace h:=ob h;obtain ⟨L1,h1,h⟩:=h
    simp only [Qo] at hn ⊢
    obtain ⟨hn1,hn2⟩:=List.nodup_cons.1 hn
    obtain ⟨a1,a2,a3,a4⟩:=Q12 h hn2
    obtain ⟨n',cs,g1,g2,rfl⟩:=Q8e h1
    have hlb:=Qn g1
    refine ⟨by rw [a1,Q0t],a2,fun c hc=>?_,fun c hc=>?_⟩
    ·simp only [List.mem_cons,not_or] at hc
     rw [a3 c hc.2,Q0i (Ne.symm hc.1)]
    ·rcases Z2 hc with rfl | hc
     ·exact ⟨_,_,g1,rfl,by rw [a3 c hn1,Qq hlb],rfl,rfl⟩
     ·obtain ⟨B,B',b1,b2,b3⟩:=a4 c hc
      have hne:b≠c:=fun e=>hn1 (e▸hc)
      rw [Q0i hne] at b1
      exact ⟨B,B',b1,b2,b3⟩
   ·simp at h
  | ro =>
   simp only [Q0j] at h
   have:Qo ((.ro,t)::ps) (p::args)=Qo ps args:=by cases p<;>rfl
   rw [this] at hn ⊢;exact Q12 h hn
  | cl g =>
   simp only [Q0j] at h
   have:Qo ((.cl g,t)::ps) (p::args)=Qo ps args:=by cases p<;>rfl
   rw [this] at hn ⊢;exact Q12 h hn
  | mv =>
   simp only [Q0j] at h
   have:Qo ((.mv,t)::ps) (p::args)=Qo ps args:=by cases p<;>rfl
   rw [this] at hn ⊢;exact Q12 h hn
 | [],_::_,_,_,_,h,_=>by simp [Q0j] at h
 | [],[],_::_,_,_,h,_=>by simp [Q0j] at h
 | _::_,[],_,_,_,h,_=>by simp [Q0j] at h
def CB (s:S) (lim b:Nat) (v:TV) (j:List Nat):Prop:=(∃ m k,s.μ b=some m∧m.sh=0∧hget s.H m.z=some k∧k.ro=false∧lim≤m.z∧Q3b s.N s.H lim v.1 v.2 k.cells j)∧∀ z∈j,s.Lim z
theorem CB.keep {s s':S} {lim b:Nat} {v:TV} {j:List Nat} (hk:Keep s s') (hb:b < s.L.bl.length) (hH:s'.H=s.H) (hl:∀ z,s.Lim z→s'.Lim z) (h:CB s lim b v j):CB s' lim b v j:=by
 obtain ⟨⟨m,k,h1,h2,h3,h4,h5,h6⟩,h7⟩:=h
 exact ⟨⟨m,k,by rw [hk.mu b hb];exact h1,h2,by rw [hH];exact h3,h4,h5,Q3b.frame (fun z hz hlt=>⟨hk.N hlt hz,by rw [hH]⟩) _ h6 (fun z _=>by rw [hH])⟩,fun z hz=>hl z (h7 z hz)⟩
theorem set_same {H:Heap} {z:Nat} {k:Blk} (h:hget H z=some k):H.set z (some k)=H:=by
 have hz:=Qs h
 apply List.ext_getElem?
 intro i
 by_cases e:z=i
 ·subst e
  rw [List.getElem?_set_self hz]
  unfold hget at h
  split at h
  ·rename_i q hq;rw [hq];injection h with h;rw [h]
  ·simp at h
 ·rw [List.getElem?_set_ne e]
theorem Qi6 {s:S} (hs:StR s) {b:Nat} {v:TV} {j:List Nat} (hc:CB s s.lim b v j) (hn:j.Nodup) {L':LS} (h:Qtf b v s.L=some L') :
  ∃ s',s'.L=L'∧s'.H=s.H∧Keep s s'∧StR s'∧(∀ z,s.N z→s'.N z)∧(∀ z,s.Lim z→z∉j→s'.Lim z):=by
 unfold Qtf at h
 split at h
 ·injection h with h;subst h
  exact ⟨s,rfl,rfl,Keep.refl s,hs,fun _ h=>h,fun _ h _=>h⟩
 ·split at h
  ·rename_i n cs hb
   injection h with h
   obtain ⟨⟨m,k,hm,hsh,hk,hro,hlm,hrep⟩,hl⟩:=hc
   obtain ⟨s1,a1,a2,a3,a4,a5,a6,a7⟩:=Q5x v.1 hs hrep hl hn
   have hlb:=Qn hb
   have hb1:Qi s1.L b=some ⟨n,true,.cells cs⟩:=by rw [a1,(Qbm v.1).2 b hlb];exact hb
   have hm1:s1.μ b=some m:=by rw [a3.mu b hlb];exact hm
   have hk1:hget s1.H m.z=some k:=by rw [a2];exact hk
   obtain ⟨s2,b1,b2,b3,b4,b5,b6⟩:=a4.setL hb1 rfl hm1 ⟨n+1,true,.cells (Q5b v.1 v.2 s.L).1⟩ rfl rfl k (fun s' k' hm' hk' hN=>by
    unfold BR;simp only
    exact ⟨trivial,m,k,hm',hsh,hk',k'.LRs a5,hro,by rw [k'.lim,a3.lim];exact hlm⟩)
   rw [set_same hk1] at b2
   have hown:∀ z,Own s2 z→Own s1 z∨s1.H.length≤z:=b4.own
   refine ⟨s2,by rw [b1,a1];exact h,b2.trans a2,a3.trans b4,b5,fun z hz=>?_,fun z hz hj=>?_⟩
   ·have h1:=a6 z hz
    by_cases hlt:z < s1.H.length
    ·exact b4.N hlt h1
    ·refine ⟨fun ho=>?_,by rw [b4.ban];exact h1.2⟩
     have:=b5.own_lt ho
     rw [b2] at this;omega
   ·rw [b6];exact a7 z hz hj
  ·simp at h
theorem CB.to {s s':S} {lim b:Nat} {v:TV} {j:List Nat} (hb:s'.μ b=s.μ b) (hH:s'.H=s.H) (hN:∀ z,s.N z→s'.N z) (hl:∀ z∈j,s'.Lim z) (h:CB s lim b v j):CB s' lim b v j:=by
 obtain ⟨⟨m,k,h1,h2,h3,h4,h5,h6⟩,h7⟩:=h
 exact ⟨⟨m,k,by rw [hb];exact h1,h2,by rw [hH];exact h3,h4,h5,Q3b.frame (fun z hz hlt=>⟨hN z hz,by rw [hH]⟩) _ h6 (fun z _=>by rw [hH])⟩,hl⟩
def CBs (s:S) (lim:Nat):List (Nat×TV)→List (List Nat)→Prop
 | [],[]=>True
 | (b,v)::r,j::js=>(b < s.L.bl.length∧CB s lim b v j)∧CBs s lim r js
 | _,_=>False
theorem CBs.to {s s':S} {lim:Nat} (hk:Keep s s') (hH:s'.H=s.H) (hN:∀ z,s.N z→s'.N z):∀ {l:List (Nat×TV)} {js:List (List Nat)},(∀ z∈js.flatten,s'.Lim z)→CBs s lim l js→CBs s' lim l js
 | [],[],_,_=>trivial
 | (b,v)::r,j::js,hl,h=>⟨⟨Zm h.1.1 hk.nb,h.1.2.to (hk.mu b h.1.1) hH hN (fun z hz=>hl z (by simp [hz]))⟩,CBs.to hk hH hN (fun z hz=>hl z (by rw [Ze,Zh];exact .inr hz)) h.2⟩
theorem Qbo:∀ {l:List (Nat×TV)} {js:List (List Nat)} {s:S} {L':LS},StR s→CBs s s.lim l js→(∀ z∈js.flatten,s.Lim z)→js.flatten.Nodup→Qkc l s.L=some L' →
  ∃ s',s'.L=L'∧s'.H=s.H∧Keep s s'∧StR s'∧(∀ z,s.N z→s'.N z)∧(∀ z,s.Lim z→z∉js.flatten→s'.Lim z)
 | [],js,s,L',hs,hd,hl,hn,h=>by
  simp [Qkc] at h;subst h
  exact ⟨s,rfl,rfl,Keep.refl s,hs,fun _ h=>h,fun _ h _=>h⟩
 | (b,v)::l,j::js,s,L',hs,hd,hl,hn,h=>by
  obtain ⟨⟨hb,hc⟩,hd2⟩:=hd
  rw [Ze,Zn] at hn
  obtain ⟨n1,n2,n3⟩:=hn
  simp only [Qkc] at h
  replace h:=ob h;obtain ⟨L1,h1,h⟩:=h
  obtain ⟨s1,a1,a2,a3,a4,a5,a6⟩:=Qi6 hs hc n1 h1
  rw [← a1] at h
  have hl2:∀ z∈js.flatten,s1.Lim z:=fun z hz=>a6 z (hl z (by rw [Ze,Zh];exact .inr hz)) (fun hm=>n3 z hm z hz rfl)
  obtain ⟨s2,b1,b2,b3,b4,b5,b6⟩:=Qbo a4 (by rw [a3.lim];exact CBs.to a3 a2 a5 hl2 hd2) hl2 n2 h
  exact ⟨s2,b1,b2.trans a2,a3.trans b3,b4,fun z hz=>b5 z (a5 z hz),fun z hz hm=>by
   rw [Ze,Zh,not_or] at hm
   exact b6 z (a6 z hz hm.1) hm.2⟩
 | _::_,[],_,_,_,hd,_,_,_=>hd.elim
def Q1o:List (PM×Ty)→List (List Nat)→List Nat
 | (.io,_)::ps,ids::r=>ids++Q1o ps r
 | (.ps,_)::ps,ids::r=>ids.take 1++Q1o ps r
 | (.ro,_)::ps,r=>Q1o ps r
 | (.cl _,_)::ps,r=>Q1o ps r
 | (.mv,_)::ps,r=>Q1o ps r
 | _,_=>[]
def Q1c:List (PM×Ty)→List (List Nat)→List (List Nat)
 | (.io,_)::ps,_::r=>Q1c ps r
 | (.ps,_)::ps,ids::r=>ids.drop 1::Q1c ps r
 | (.ro,_)::ps,r=>Q1c ps r
 | (.cl _,_)::ps,r=>Q1c ps r
 | (.mv,_)::ps,r=>Q1c ps r
 | _,_=>[]
theorem Q2n {N:Nat→Prop} {H:Heap} {lim:Nat}:∀ {ps:List (PM×Ty)} {vs:List TV} {ws:List Value} {oids:List (List Nat)},HRs N H lim (Q8c ps) vs ws oids →
  (∀ z,z∈oids.flatten↔z∈Q1o ps oids∨z∈(Q1c ps oids).flatten)∧(oids.flatten.Nodup→(Q1c ps oids).flatten.Nodup∧∀ z∈Q1o ps oids,z∉(Q1c ps oids).flatten)
 | [],[],[],[],_=>by simp [Q1o,Q1c]
 | (m,t)::ps,vs,ws,oids,h=>by
  cases m with
  | ro=>exact Q2n (ps:=ps) h
  | cl g=>exact Q2n (ps:=ps) h
  | mv=>exact Q2n (ps:=ps) h
  | io =>
   match vs,ws,oids,h with
   | v::vs,w::ws,ids::oids,h =>
    obtain ⟨a1,a2⟩:=Q2n (ps:=ps) h.2
    simp only [Q1o,Q1c,Ze]
    refine ⟨fun z=>?_,fun hn=>?_⟩
    ·rw [Zh,Zh,a1,or_assoc]
    ·rw [Zn] at hn
     obtain ⟨b1,b2⟩:=a2 hn.2.1
     refine ⟨b1,fun z hz hz2=>?_⟩
     rcases List.mem_append.1 hz with hz | hz
     ·exact hn.2.2 z hz z ((a1 z).2 (.inr hz2)) rfl
     ·exact b2 z hz hz2
  | ps =>
   match vs,ws,oids,h with
   | v::vs,w::ws,ids::oids,h =>
    obtain ⟨a1,a2⟩:=Q2n (ps:=ps) h.2
    obtain ⟨z0,k,j,rfl,_⟩:=h.1
    simp only [Q1o,Q1c,Ze,List.take_succ_cons,List.take_zero,List.drop_succ_cons,List.drop_zero]
    refine ⟨fun z=>?_,fun hn=>?_⟩
    ·simp only [Zh,List.mem_cons,List.not_mem_nil,or_false]
     rw [a1 z];constructor
     ·rintro ((h | h) | (h | h))<;>simp [h]
     ·rintro ((h | h) | (h | h))<;>simp [h]
    ·rw [Zn] at hn
     obtain ⟨n1,n2,n3⟩:=hn
     obtain ⟨n4,n5⟩:=List.nodup_cons.1 n1
     obtain ⟨b1,b2⟩:=a2 n2
     refine ⟨?_,fun z hz hz2=>?_⟩
     ·rw [Zn]
      exact ⟨n5,b1,fun p hp q hq e=>by subst e;exact n3 p (by simp [hp]) p ((a1 p).2 (.inr hq)) rfl⟩
     ·rcases List.mem_append.1 hz with hz | hz
      ·simp at hz;subst hz
       rcases List.mem_append.1 hz2 with hz2 | hz2
       ·exact n4 hz2
       ·exact n3 z (by simp) z ((a1 z).2 (.inr hz2)) rfl
      ·rcases List.mem_append.1 hz2 with hz2 | hz2
       ·exact n3 z (by simp [hz2]) z ((a1 z).2 (.inl hz)) rfl
       ·exact b2 z hz hz2
end Go.Pv
