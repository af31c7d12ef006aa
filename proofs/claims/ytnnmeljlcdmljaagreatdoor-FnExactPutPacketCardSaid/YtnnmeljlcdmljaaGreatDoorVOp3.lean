/-
  Operations that compute, read, build: the interpreter by value agrees with the first one. And what stood behind it in 2 texts.
  Conditions: said at the theorems.
-/
import Derived.Test.YtnnmeljlcdmljaaGreatDoorVVal
set_option linter.all false
namespace Go.Pv
open Go.Ev
theorem ER.cells {s:S} {p:PV} {v:Value} (h:ER s p v) (ho:okV p=true):LRs s (Q2c p) v.cells.toList:=by
 cases p with
 | tup cs=>simp [okV] at ho
 | fn f a b=>simp [okV] at ho
 | undef=>simp [okV] at ho
 | _=>exact AR.cells h (by intros;simp) (by simp)
theorem Qjy {s:S} {cs ds:List PV} {vs ws:List Value} (h:LRs s cs vs) (g:LRs s ds ws) (o:Nat):LRs s (Qij cs o ds) (lay vs o ws):=by
 have e:=Qw.length g
 unfold Qij lay
 rw [e]
 exact Qw.append (Qw.append (Qw.take o h) g) (Qw.drop _ h)
theorem Qah (off:Nat):∀ (l:List Value) (n:Nat) (A:Array Value),off+n+l.length≤A.size →
  ((l.zipIdx n).foldl (fun cs (c,j)=>cs.setIfInBounds (off+j) c) A).toList=lay A.toList (off+n) l
 | [],n,A,_=>by simp [lay]
 | v::l,n,A,h=>by
  simp only [Z9] at h
  simp only [List.zipIdx_cons,List.foldl_cons]
  rw [Qah off l (n+1) _ (by simp;omega)]
  unfold lay
  rw [Array.toList_setIfInBounds]
  have hl:off+n < A.toList.length:=by simp;omega
  rw [List.set_eq_take_append_cons_drop,if_pos hl]
  have h1:(A.toList.take (off+n)).length=off+n:=by simp;omega
  have e1:((A.toList.take (off+n)++v::A.toList.drop (off+n+1))).take (off+(n+1))=A.toList.take (off+n)++[v]:=by
   rw [List.take_append,h1,show off+(n+1) - (off+n)=1 by omega,Zs (by omega)];simp
  have e2:((A.toList.take (off+n)++v::A.toList.drop (off+n+1))).drop (off+(n+1)+l.length)=A.toList.drop (off+n+(l.length+1)):=by
   rw [List.drop_append,h1,List.drop_of_length_le (by omega),show off+(n+1)+l.length - (off+n)=l.length+1 by omega]
   simp only [List.drop_succ_cons,List.nil_append,List.drop_drop]
   congr 1;omega
  rw [e1,e2];simp
theorem Qff {s:S} (place:Nat→Option (Nat×Nat)):∀ {ps:List (Nat×PV)} {qs:List (Nat×Value)} {zs cs:List PV} {B:Array Value},Qw (Qnk s) ps qs→LRs s zs B.toList→Qnh place zs ps=some cs →
  ∃ C,Instr.fill place B qs=some C∧LRs s cs C.toList
 | [],[],zs,cs,B,_,hz,h=>by simp [Qnh] at h;subst h;exact ⟨B,rfl,hz⟩
 | (i,p)::ps,(j,v)::qs,zs,cs,B,⟨⟨e,hv⟩,hp⟩,hz,h=>by
  simp only at e hv;subst e
  simp only [Qnh] at h
  simp only [Instr.fill]
  split at h
  ·simp at h
  ·rename_i off size hpl
   split at h
   ·rename_i h1 h2 h3
    have hc:=hv.cells h1
    have hl:=Qw.length hc
    have hlz:=Qw.length hz
    have e2:=Z7 h2
    have e3:=Zi h3
    have hsz:v.cells.size=size:=by
     simp only [Array.length_toList] at hl;omega
    have hB:B.toList.length=B.size:=by simp
    rw [hpl]
    have hcond:¬ ((decide (v.cells.size≠size) || decide (off+v.cells.size > B.size))=true):=by
     simp only [Bool.or_eq_true,Zj];omega
    simp only [hcond,if_false,Bool.false_eq_true]
    refine Qff place hp ?_ h
    have:=Qah off v.cells.toList 0 B (by simp at hl hlz ⊢;omega)
    rw [Nat.add_zero] at this
    have e5:(Array.foldl (fun cs (x:Value×Nat)=>cs.setIfInBounds (off+x.2) x.1) B v.cells.zipIdx).toList=lay B.toList off v.cells.toList:=by
     rw [← Array.foldl_toList];simpa using this
    rw [e5]
    exact Qjy hz hc off
   ·simp at h
theorem ER.leaf {s:S} {p:PV} {v:Value} (h:ER s p v) (ho:Q2y p=true):LR0 s p v:=by
 cases p with
 | tup cs=>simp [okV,Q2y] at ho
 | fn f a b=>simp [okV,Q2y] at ho
 | undef=>simp [okV,Q2y] at ho
 | agg cs=>simp [Q2y] at ho
 | _=>exact h
theorem ERs.leaf {s:S}:∀ {ps:List PV} {vs:List Value},Qw (ER s) ps vs→ps.all Q2y=true→LRs s ps vs
 | [],[],_,_=>trivial
 | p::ps,v::vs,h,g=>by
  simp only [List.all_cons,Z8] at g
  exact ⟨h.1.leaf g.1,ERs.leaf h.2 g.2⟩
theorem Qqb {β:Type} {x y:Option β} {r:β} (h:both x y=some r):x=some r∧y=some r:=by
 unfold both at h
 by_cases e:x=y
 ·rw [if_pos e] at h;exact ⟨h,by rw [← e];exact h⟩
 ·rw [if_neg e] at h;simp at h
def Qwi:Bool→BinOp
 | false=>.eql
 | true=>.neq
def NilV (L:LS) (v:PV):Option Nat→Prop
 | none=>v=.nil
 | some n=>Qak L v=some n
theorem Qbx {P:Program} {op:BinOp} {t:TypeId} {L:LS} {v u:PV} {n:Option Nat} {neg:Bool} (h:Qqp P op t L v u=some (n,neg)) :
  u=.nil∧(∃ el,P.underlying t=some (.slice el))∧op=Qwi neg∧NilV L v n:=by
 unfold Qqp at h
 split at h
 ·rename_i hu
  split at h
  ·simp at h;obtain ⟨rfl,rfl⟩:=h;exact ⟨rfl,⟨_,hu⟩,rfl,rfl⟩
  ·obtain ⟨m,h1,h⟩:=ob h
   simp at h;obtain ⟨rfl,rfl⟩:=h;exact ⟨rfl,⟨_,hu⟩,rfl,h1⟩
 ·rename_i hu
  split at h
  ·simp at h;obtain ⟨rfl,rfl⟩:=h;exact ⟨rfl,⟨_,hu⟩,rfl,rfl⟩
  ·obtain ⟨m,h1,h⟩:=ob h
   simp at h;obtain ⟨rfl,rfl⟩:=h;exact ⟨rfl,⟨_,hu⟩,rfl,h1⟩
 ·simp at h
theorem Qqc {γ:Type} {P:Program} {op:BinOp} {t el:TypeId} {neg:Bool} (hu:P.underlying t=some (.slice el)) (hop:op=Qwi neg) {a:Option Addr} {n c:Nat} {K:Value→Option γ} :
  Qpc P op t (.slice a n c) (.slice none 0 0) K=K (.bool (a.isNone != neg)):=by
 subst hop
 cases neg<;>simp only [Qwi,Qpc,hu,Qms]
 ·cases a<;>rfl
 ·cases a<;>rfl
theorem Qn6 {P:Program} {s:S} {el:TypeId} {u:Ty} {cs:Array Value} {off:Nat} {i:TypeInfo} {y:u.T} {st:Nat} (hw:tyG P 8 el=some u) (hi:P.info? el=some i) (hsz:u.size=i.size) (hle:off+u.size≤cs.toList.length)
  (hr:Rep (s.NN st) s.H u y ((cs.toList.drop off).take u.size)):∃ q,Q27 P el cs off=some q∧AR s (Q4i u (Q1y st u y)) q:=by
 have hlen:=Rep.len _ hr
 unfold Q27
 rw [hi];simp only [Q1]
 have hext:(cs.extract off (off+i.size))=⟨(cs.toList.drop off).take u.size⟩:=by
  apply Array.toList_inj.1
  simp only [Array.toList_extract,List.extract_eq_drop_take]
  rw [hsz];congr 1;omega
 rcases Qal hw with ⟨d,a,b,hu,hd,rfl⟩ | ⟨d,hu,hd1,hd2,hnp⟩
 ·rcases hd with ⟨fs,rfl⟩ | ⟨n,e,rfl⟩<;>rw [hu]<;>simp only<;>rw [hext]<;>exact ⟨_,rfl,Q8n (t:=.pair a b) rfl hr⟩
 ·have hone:u.size=1:=by cases u<;>first | rfl | exact absurd rfl (hnp _ _)
  obtain ⟨q,hq⟩:∃ q,(cs.toList.drop off).take u.size=[q]:=by
   match hc:(cs.toList.drop off).take u.size with
   | [q]=>exact ⟨q,rfl⟩
   | []=>rw [hc] at hlen;simp at hlen;omega
   | _::_::_=>rw [hc] at hlen;simp at hlen;omega
  have hget:cs[off]? = some q:=by
   have:((cs.toList.drop off).take u.size)[0]? = some q:=by rw [hq];rfl
   rw [List.getElem?_take_of_lt (by omega),Zp] at this
   rw [← Array.getElem?_toList];simpa using this
  refine ⟨q,?_,Q8n (cs:=[q]) (by cases u<;>first | rfl | exact absurd rfl (hnp _ _)) (by rw [← hq];exact hr)⟩
  rw [hu]
  cases d<;>first | exact absurd rfl (hd1 _) | exact absurd rfl (hd2 _ _) | exact hget
section
variable {A:AnnV} {β γ:Type} {s:S} {env:Q0n} {e:Env} {X:CxV A β} {XE:Cx} {o:Oper} {KV:PV→LS→Option β} {KE:Value→Heap→Option γ} {r:β} {Q:γ→Prop}
def KOk (s:S) (r:β) (KV:PV→LS→Option β) (KE:Value→Heap→Option γ) (Q:γ→Prop):Prop :=
 ∀ pv v s',Keep s s'→StR s'→ER s' pv v→KV pv s'.L=some r→∃ y,KE v s'.H=some y∧Q y
theorem KOk.here (hs:StR s) (hK:KOk s r KV KE Q) {p:PV} {v:Value} (hr:ER s p v) (h:KV p s.L=some r):∃ y,KE v s.H=some y∧Q y :=
 hK p v s (Keep.refl s) hs hr h
theorem Qai {x:Operand} (hs:StR s) (he:Q25 s env e) (hK:KOk s r KV KE Q) (h:(Q1 (pev env x) fun v=>KV v s.L)=some r) :
  ∃ y,(Q1 (ev e x) fun v=>KE v s.H)=some y∧Q y:=by
 replace h:=ob h;obtain ⟨p,h1,h⟩:=h
 obtain ⟨v,e1,hr⟩:=Q01 he h1
 rw [e1];exact hK.here hs hr h
theorem Qt6 {c a b:Operand} (ho:o.op=.pick c a b) (hs:StR s) (he:Q25 s env e) (hK:KOk s r KV KE Q) (h:vop X o env s.L KV=some r):∃ y,Q38 XE o e s.H KE=some y∧Q y:=by
 simp only [vop,ho] at h;simp only [Q38,ho]
 replace h:=ob h;obtain ⟨p,h1,h⟩:=h
 obtain ⟨v,e1,hr⟩:=Q01 he h1
 split at h
 ·obtain rfl:v=.bool _:=hr
  rw [e1];simp only [Q1,Qb2]
  rename_i t
  cases t with
  | true=>simp only [oif] at h ⊢;exact Qai hs he hK h
  | false=>simp only [oif] at h ⊢;exact Qai hs he hK h
 ·simp at h
theorem Qt7 {op:UnOp} {t:TypeId} {x:Operand} (ho:o.op=.unOp op t x) (hs:StR s) (he:Q25 s env e) (hK:KOk s r KV KE Q) (h:vop X o env s.L KV=some r):∃ y,Q38 XE o e s.H KE=some y∧Q y:=by
 simp only [vop,ho] at h;simp only [Q38,ho]
 replace h:=ob h;obtain ⟨p,h1,h⟩:=h
 replace h:=ob h;obtain ⟨v',h3,h⟩:=h
 obtain ⟨v,e1,r1⟩:=Q01 he h1
 have:=Qr6 r1 h3;subst this
 rw [Qez] at h
 replace h:=ob h;obtain ⟨z,h5,h⟩:=h
 rw [e1];simp only [Q1]
 rw [Qez,h5]
 exact hK.here hs (Qr7 (Qtl h5)) h
theorem Qqd {t:TypeId} {parts:Array (Nat×Operand)} (hP:X.P=XE.P) (ho:o.op=.build t parts) (hs:StR s) (he:Q25 s env e) (hK:KOk s r KV KE Q) (h:vop X o env s.L KV=some r):∃ y,Q38 XE o e s.H KE=some y∧Q y:=by
 simp only [vop,ho] at h;simp only [Q38,ho]
 replace h:=ob h;obtain ⟨ps,h1,h⟩:=h
 obtain ⟨qs,e1,r1⟩:=Q63 he h1
 rw [e1];simp only [Q1]
 rw [← hP]
 split at h
 ·rename_i it fs hi hu
  split at h
  ·rename_i z places hz hpl
   replace h:=ob h;obtain ⟨zs,h2,h⟩:=h
   replace h:=ob h;obtain ⟨cs,h3,h⟩:=h
   obtain ⟨a1,a2⟩:=Q6l (s:=s) h2
   obtain ⟨C,f1,f2⟩:=Qff _ r1 a1 h3
   have:Qjn X.P t qs=some C:=by
    unfold Qjn Q6s
    simp only [hi,Q1,hz,a2]
    unfold Program.built
    simp only [hi,hu,hz,hpl]
    exact f1
   rw [this]
   exact hK.here hs (p:=.agg cs) ⟨C.toList,by simp,f2⟩ h
  ·simp at h
 ·rename_i it nn el hi hu
  split at h
  ·rename_i z ie hz hie
   replace h:=ob h;obtain ⟨zs,h2,h⟩:=h
   replace h:=ob h;obtain ⟨cs,h3,h⟩:=h
   obtain ⟨a1,a2⟩:=Q6l (s:=s) h2
   obtain ⟨C,f1,f2⟩:=Qff _ r1 a1 h3
   have:Qjn X.P t qs=some C:=by
    unfold Qjn Q6s
    simp only [hi,Q1,hz,a2]
    unfold Program.built
    simp only [hi,hu,hz,hie]
    exact f1
   rw [this]
   exact hK.here hs (p:=.agg cs) ⟨C.toList,by simp,f2⟩ h
  ·simp at h
 ·simp at h
theorem Qqe {t:TypeId} {x:Operand} {f:Nat} (hP:X.P=XE.P) (ho:o.op=.field t x f) (hs:StR s) (he:Q25 s env e) (hK:KOk s r KV KE Q) (h:vop X o env s.L KV=some r):∃ y,Q38 XE o e s.H KE=some y∧Q y:=by
 simp only [vop,ho] at h;simp only [Q38,ho]
 replace h:=ob h;obtain ⟨p,h1,h⟩:=h
 obtain ⟨v,e1,r1⟩:=Q01 he h1
 rw [e1];simp only [Q1]
 split at h
 ·rename_i cs
  obtain ⟨vs,rfl,r1⟩:=r1
  simp only
  rw [← hP]
  split at h
  ·rename_i fs hu
   replace h:=ob h;obtain ⟨fd,h2,h⟩:=h
   replace h:=ob h;obtain ⟨u,h3,h⟩:=h
   simp only [hu,h2,Q1]
   unfold Qzj at h3
   replace h3:=ob h3;obtain ⟨i,h4,h3⟩:=h3
   have hl:=Qw.length r1
   split at h3
   ·rename_i fs' hu'
    split at h3
    ·rename_i hle
     have hle:=Zi hle
     simp at h3;subst h3
     have:Q27 X.P fd.type (⟨vs⟩:Array Value) fd.offset=some (.agg ⟨(vs.drop fd.offset).take i.size⟩):=by
      unfold Q27;simp only [h4,hu',Q1]
      congr 2
      apply Array.toList_inj.1
      simp only [Array.toList_extract,List.extract_eq_drop_take]
      congr 1;omega
     rw [this]
     exact hK.here hs (p:=.agg _) ⟨_,rfl,Qw.take _ (Qw.drop _ r1)⟩ h
    ·simp at h3
   ·rename_i nn' fs' hu'
    split at h3
    ·rename_i hle
     have hle:=Zi hle
     simp at h3;subst h3
     have:Q27 X.P fd.type (⟨vs⟩:Array Value) fd.offset=some (.agg ⟨(vs.drop fd.offset).take i.size⟩):=by
      unfold Q27;simp only [h4,hu',Q1]
      congr 2
      apply Array.toList_inj.1
      simp only [Array.toList_extract,List.extract_eq_drop_take]
      congr 1;omega
     rw [this]
     exact hK.here hs (p:=.agg _) ⟨_,rfl,Qw.take _ (Qw.drop _ r1)⟩ h
    ·simp at h3
   ·rename_i d hd1 hd2 hu'
    obtain ⟨w,g1,g2⟩:=Qw.get _ r1 h3
    have:Q27 X.P fd.type (⟨vs⟩:Array Value) fd.offset=some w:=by
     unfold Q27;rw [h4];simp only [Q1];rw [hu']
     cases d<;>first | exact absurd rfl (hd1 _) | exact absurd rfl (hd2 _ _) | (simpa using g1)
    rw [this]
    exact hK.here hs (ER.of0 g2) h
   ·simp at h3
  ·simp at h
 ·simp at h
theorem Qjz {x:Operand} {i:Nat} (ho:o.op=.extract x i) (hs:StR s) (he:Q25 s env e) (hK:KOk s r KV KE Q) (h:vop X o env s.L KV=some r):∃ y,Q38 XE o e s.H KE=some y∧Q y:=by
 simp only [vop,ho] at h;simp only [Q38,ho]
 replace h:=ob h;obtain ⟨p,h1,h⟩:=h
 obtain ⟨v,e1,r1⟩:=Q01 he h1
 rw [e1];simp only [Q1]
 split at h
 ·obtain ⟨vs,rfl,r1⟩:=r1
  simp only
  replace h:=ob h;obtain ⟨u,h2,h⟩:=h
  obtain ⟨w,g1,g2⟩:=Qw.get _ r1 h2
  have:(⟨vs⟩:Array Value)[i]? = some w:=by simpa using g1
  rw [this]
  exact hK.here hs (ER.of g2) h
 ·simp at h
theorem Qfg {δ ε:Type} {p:PV} {v:Value} (hr:ER s p v) {K:Nat→Option δ} {K':Nat→Option ε} {x:δ} {Q':ε→Prop} (h:Qwt p K=some x) (hk:∀ n,K n=some x→∃ y,K' n=some y∧Q' y):∃ y,Qa4 v K'=some y∧Q' y:=by
 unfold Qwt at h
 split at h
 ·rename_i n
  obtain rfl:v=.int .i64 n:=hr
  unfold oif at h
  split at h
  ·rename_i hd
   simp only [Qa4,hd,oif];exact hk _ h
  ·simp at h
 ·simp at h
theorem Q51 {δ ε:Type} {p:PV} {v:Value} (hr:ER s p v) {K:Nat→Option δ} {K':Nat→Option ε} {x:δ} {Q':ε→Prop} (h:pIx p K=some x) (hk:∀ n,K n=some x→∃ y,K' n=some y∧Q' y):∃ y,Quh v K'=some y∧Q' y:=by
 unfold pIx at h
 split at h
 ·rename_i kd n
  obtain rfl:v=.int kd n:=hr
  unfold oif at h
  split at h
  ·rename_i hd
   simp only [Quh,hd,oif];exact hk _ h
  ·simp at h
 ·simp at h
theorem Qdk {w:Ty} {b ver:Nat}:∀ {cs:List PV} {n:Nat} {l:List (List w.T)},Qim w b ver n cs=some l→∀ {k:Nat} {y:List w.T},l[k]? = some y→cs[k]? = some (.rw b (n+k) ver w y)
 | [],n,l,h,k,y,hk=>by simp [Qim] at h;subst h;simp at hk
 | c::r,n,l,h,k,y,hk=>by
  unfold Qim at h
  split at h
  ·simp_all
  ·rename_i b' i' ver' t x r' heq
   injection heq with e1 e2;subst e1 e2
   split at h
   ·rename_i hc
    simp only [Z8] at hc
    have c1:=Z7 hc.1
    have c2:=Z7 hc.2.1
    have c3:=Z7 hc.2.2
    subst c1 c2 c3
    replace h:=ob h;obtain ⟨y0,h1,h⟩:=h
    replace h:=ob h;obtain ⟨l',h2,h⟩:=h
    simp at h;subst h
    have e0:=Qp h1
    injection e0 with e0;subst e0
    have:=Qg h1;subst this
    cases k with
    | zero=>simp at hk;subst hk;simp
    | succ k =>
     simp only [List.getElem?_cons_succ] at hk ⊢
     rw [Qdk h2 hk,Nat.add_assoc,Nat.add_comm 1 k]
   ·simp at h
  ·simp at h
theorem Qn7 {w:Ty} {cs:List PV} {b ver:Nat} {l:List (List w.T)} (h:Qqu w cs=some (b,ver,l)) {k:Nat} {y:List w.T} (hk:l[k]? = some y):cs[k]? = some (.rw b k ver w y):=by
 unfold Qqu at h
 split at h
 ·replace h:=ob h;obtain ⟨l',h1,h⟩:=h
  simp only [Option.some.injEq,Prod.mk.injEq] at h
  obtain ⟨rfl,rfl,rfl⟩:=h
  have:=Qdk h1 hk
  rw [Zo] at this;exact this
 ·simp at h
theorem Qqf {t:TypeId} {x ix:Operand} (hP:X.P=XE.P) (ho:o.op=.index t x ix) (hs:StR s) (he:Q25 s env e) (hK:KOk s r KV KE Q) (h:vop X o env s.L KV=some r):∃ y,Q38 XE o e s.H KE=some y∧Q y:=by
 simp only [vop,ho] at h;simp only [Q38,ho]
 replace h:=ob h;obtain ⟨p,h1,h⟩:=h
 replace h:=ob h;obtain ⟨j,h2,h⟩:=h
 obtain ⟨v,e1,r1⟩:=Q01 he h1
 obtain ⟨w,e2,r2⟩:=Q01 he h2
 rw [e1,e2];simp only [Q1]
 split at h
 ·obtain rfl:v=.string _:=r1
  simp only
  rw [← hP]
  split at h
  ·rename_i hu
   simp only [hu]
   refine Q51 r2 h (fun n h=>?_)
   replace h:=ob h;obtain ⟨b,h3,h⟩:=h
   rw [h3]
   exact hK.here hs (p:=.int .u8 b.toNat) rfl h
  ·simp at h
 ·rename_i cs
  obtain ⟨vs,rfl,r1⟩:=r1
  simp only
  rw [← hP]
  split at h
  ·rename_i n el hu
   replace h:=ob h;obtain ⟨i,h3,h⟩:=h
   replace h:=ob h;obtain ⟨u,h4,h⟩:=h
   split at h
   ·rename_i hc
    simp only [Z8] at hc
    have hsz:=Z7 hc.1
    replace h:=ob h;obtain ⟨xs,h5,h⟩:=h
    obtain ⟨g1,g2,g3⟩:=Q8m hs u r1 h5
    simp only [hu,h3,Q1]
    refine Q51 r2 h (fun k h=>?_)
    replace h:=ob h;obtain ⟨y,h6,h⟩:=h
    obtain ⟨hk,ek⟩:=Z0 h6
    have hblt:Nat.blt k n=true:=Qdr (by omega)
    simp only [hblt,oif]
    have hrep:=g3 k hk
    rw [ek] at hrep
    have hm:k*u.size+u.size≤n*u.size:=by
     have:=Zk u.size (show k+1≤n by omega)
     rw [Nat.add_mul,Nat.one_mul] at this;exact this
    obtain ⟨q,hq1,hq2⟩:=Qn6 (P:=X.P) (el:=el) (cs:=⟨vs⟩) (off:=k*i.size) h4 h3 hsz (by simp;rw [← hsz];omega) (by rw [← hsz];exact Rep.flat (M:=s.NN s.L.clk) (G:=s.H) u hc.2 hrep)
    rw [hq1]
    exact hK.here hs (ER.of hq2) h
   ·split at h
    ·rename_i w
     replace h:=ob h;obtain ⟨⟨b,ver,xs⟩,h5,h⟩:=h
     split at h
     ·rename_i hsz
      have hsz:=Z7 hsz
      simp only [hu,h3,Q1]
      refine Q51 r2 h (fun k h=>?_)
      unfold oif at h
      split at h
      ·rename_i hlt
       simp only [hlt,oif]
       replace h:=ob h;obtain ⟨y,h6,h⟩:=h
       have hq:=Qn7 h5 h6
       obtain ⟨w',g1,g2⟩:=Qw.get _ r1 hq
       have hp:Q27 X.P el ⟨vs⟩ (k*i.size)=some w':=by
        unfold Q27
        rw [h3];simp only [Q1]
        have hg:(⟨vs⟩:Array Value)[k*i.size]? = some w':=by rw [hsz];simpa using g1
        rcases Qal h4 with ⟨d',a,b',hu',hd,e⟩ | ⟨d',hu',hd1,hd2,_⟩
        ·simp at e
        ·rw [hu']
         cases d'<;>first | exact absurd rfl (hd1 _) | exact absurd rfl (hd2 _ _) | exact hg
       rw [hp]
       exact hK.here hs (ER.of0 g2) h
      ·simp at h
     ·simp at h
    ·simp at h
  ·simp at h
 ·simp at h
theorem Qid {f:FuncId} {first cap:Array Operand} (ho:o.op=.makeFunc (.func f) first cap) (hs:StR s) (he:Q25 s env e) (hK:KOk s r KV KE Q)
  (h:vop X o env s.L KV=some r):∃ y,Q38 XE o e s.H KE=some y∧Q y:=by
 simp only [vop,ho] at h;simp only [Q38,ho]
 replace h:=ob h;obtain ⟨ps,h1,h⟩:=h
 replace h:=ob h;obtain ⟨qs,h2,h⟩:=h
 obtain ⟨vs,e1,r1⟩:=Q8l he h1
 obtain ⟨ws,e2,r2⟩:=Q8l he h2
 rw [e1,e2];simp only [Q1]
 split at h
 ·rename_i hl
  simp only [Z8] at hl
  exact hK.here hs (p:=.fn f ps qs) ⟨vs,ws,rfl,ERs.leaf r1 hl.1,ERs.leaf r2 hl.2⟩ h
 ·simp at h
theorem Qfh {t:TypeId} {x:Operand} {f:Nat} (hP:X.P=XE.P) (ho:o.op=.fieldAddr t x f) (hs:StR s) (he:Q25 s env e) (hK:KOk s r KV KE Q) (h:vop X o env s.L KV=some r):∃ y,Q38 XE o e s.H KE=some y∧Q y:=by
 simp only [vop,ho] at h;simp only [Q38,ho]
 replace h:=ob h;obtain ⟨p,h1,h⟩:=h
 obtain ⟨v,e1,r1⟩:=Q01 he h1
 rw [e1];simp only [Q1]
 split at h
 ·rename_i fs hu
  replace h:=ob h;obtain ⟨fd,h2,h⟩:=h
  replace h:=ob h;obtain ⟨i,h3,h⟩:=h
  split at h
  ·simp at h
  ·rename_i hz
   rw [← hP]
   split at h
   ·rename_i b off
    obtain ⟨hb,m,hm,hsh,rfl⟩:=r1
    simp only [Q5c,hu,h2,h3,Q1,hz]
    exact hK.here hs (p:=.ptr b (off+fd.offset)) ⟨hb,m,hm,hsh,rfl⟩ h
   ·rename_i b j fo
    obtain ⟨hb,m,hm,rfl⟩:=r1
    simp only [Q5c,hu,h2,h3,Q1,hz]
    exact hK.here hs (p:=.ep b j (fo+fd.offset)) ⟨hb,m,hm,by rw [Nat.add_assoc]⟩ h
   ·rename_i st u y
    replace h:=ob h;obtain ⟨w,h4,h⟩:=h
    replace h:=ob h;obtain ⟨y',h5,h⟩:=h
    obtain ⟨z,oo,k,rfl,hn,hk,hl,hr⟩:=r1
    simp only [Q5c,hu,h2,h3,Q1,hz]
    obtain ⟨g1,g2⟩:=Qkf _ _ h5 hr
    refine hK.here hs (p:=.rp st w y') ⟨z,oo+fd.offset,k,rfl,hn,hk,by omega,?_⟩ h
    have:(((k.cells.drop oo).take u.size).drop fd.offset).take w.size=(k.cells.drop (oo+fd.offset)).take w.size:=by
     rw [List.drop_take,List.take_take,Nat.min_eq_left (by omega),List.drop_drop]
    rw [this] at g1;exact g1
   ·rename_i b ver u y
    replace h:=ob h;obtain ⟨w,h4,h⟩:=h
    replace h:=ob h;obtain ⟨y',h5,h⟩:=h
    obtain ⟨hb,⟨z,oo,rfl⟩,hv⟩:=r1
    simp only [Q5c,hu,h2,h3,Q1,hz]
    refine hK.here hs (p:=.rq b ver w y') ⟨hb,⟨z,oo+fd.offset,rfl⟩,fun B hB=>⟨(hv B hB).1,fun e=>?_⟩⟩ h
    obtain ⟨z',o',k,j,e1,hk1,hk,hl,hr⟩:=(hv B hB).2 e
    injection e1 with e1;injection e1 with e1;injection e1 with e1 e2 _;subst e1 e2
    obtain ⟨g1,g2⟩:=Qkf _ _ h5 hr
    refine ⟨z,oo+fd.offset,k,j,rfl,hk1,hk,by omega,?_⟩
    have:(((k.cells.drop oo).take u.size).drop fd.offset).take w.size=(k.cells.drop (oo+fd.offset)).take w.size:=by
     rw [List.drop_take,List.take_take,Nat.min_eq_left (by omega),List.drop_drop]
    rw [this] at g1;exact g1
   ·simp at h
 ·simp at h
theorem Q09 (hs:StR s) {b:Nat} {ver:Nat} {rw:Bool} {t:Ty} {xs:List (List t.T)} {ho:Option Nat} (hb:Qi s.L b=some ⟨ver,rw,.rows t xs ho⟩):rw=true∧t.flat=true ∧
  ((s.μ b=none∧xs=[])∨∃ m k,s.μ b=some m∧m.es=1∧m.n=xs.length∧hget s.H m.z=some k∧Fit m.sh xs.length k.cells∧k.ro=false∧s.lim≤m.z ∧
   ∀ i (hi:i < xs.length),ho≠some i→∃ v,k.cells[m.sh+i]? = some v∧Q9z (fun z=>s.Kid z=some (b,i)) s.H s.lim t xs[i] v):=by
 have:=hs.blk b _ hb
 unfold BR at this;simp only at this
 obtain ⟨h0,h1,h2⟩:=this
 refine ⟨h0,h1,?_⟩
 cases hm:s.μ b with
 | none=>rw [hm] at h2;exact .inl ⟨rfl,h2⟩
 | some m =>
  rw [hm] at h2
  obtain ⟨a1,a2,k,a3,a4,a5,a6,a7⟩:=h2
  exact .inr ⟨m,k,rfl,a1,a2,a3,a4,a5,a6,a7⟩
theorem Q0k (hs:StR s) {b:Nat} {ver:Nat} {rw:Bool} {u:Ty} {xs:List u.T} (hb:Qi s.L b=some ⟨ver,rw,.arr u xs⟩) {m:MB} (hm:s.μ b=some m):m.es=u.size∧m.n=xs.length∧∃ k,hget s.H m.z=some k∧m.sh+xs.length*u.size≤k.cells.length ∧
   (∀ i (h:i < xs.length),Rep s.N s.H u xs[i] ((k.cells.drop (m.sh+i*u.size)).take u.size))∧(rw=true→k.ro=false∧s.lim≤m.z)∧(rw=false→s.N m.z):=by
 have:=hs.blk b _ hb
 unfold BR at this;simp only [hm] at this
 obtain ⟨h1,h2,k,h3,h4,h5⟩:=this
 exact ⟨h1,h2,k,h3,h4.1,h5⟩
theorem Q3s (hs:StR s) {b:Nat} {ver:Nat} {rw:Bool} {u:Ty} {xs:List u.T} (hb:Qi s.L b=some ⟨ver,rw,.arr u xs⟩) {m:MB} (hm:s.μ b=some m) {k:Blk} (hk:hget s.H m.z=some k):Fit m.sh (xs.length*u.size) k.cells:=by
 have:=hs.blk b _ hb
 unfold BR at this;simp only [hm] at this
 obtain ⟨h1,h2,k',h3,h4,h5⟩:=this
 rw [hk] at h3;injection h3 with h3;subst h3;exact h4
theorem Q5z (hs:StR s) {b:Nat} {ver:Nat} {rw:Bool} {u:Ty} {xs:List u.T} (hb:Qi s.L b=some ⟨ver,rw,.arr u xs⟩) (hm:s.μ b=none):xs=[]:=by
 have:=hs.blk b _ hb
 unfold BR at this;simp only [hm] at this;exact this
theorem Qqg (off k:Nat):Qlt off k=off+k:=by cases off<;>simp [Qlt]
theorem Qfi (hs:StR s) {b off:Nat} {n:Option Nat} {v:Value} (hr:LR0 s (.osl b off n) v) {ver:Nat} {rw:Bool} {u:Ty} {xs:List u.T} (hb:Qi s.L b=some ⟨ver,rw,.arr u xs⟩) {l:Nat} (h:Qak s.L (.osl b off n)=some l) :
  (∃ m,s.μ b=some m∧v=.slice (some ⟨m.z,m.sh+off*m.es,none⟩) l m.es∧off+l≤xs.length)∨(s.μ b=none∧v=.slice none 0 0∧l=0∧off=0∧xs=[]):=by
 obtain ⟨hlb,hr⟩:=hr
 cases hm:s.μ b with
 | none =>
  rw [hm] at hr;obtain ⟨rfl,h2,rfl⟩:=hr
  have hx:=Q5z hs hb hm
  subst hx
  right
  refine ⟨rfl,rfl,?_,rfl,rfl⟩
  cases n with
  | none=>simp [Qak,hb] at h;exact h.symm
  | some q=>simp [Qak] at h h2;omega
 | some m =>
  rw [hm] at hr;obtain ⟨g1,rfl⟩:=hr
  left
  obtain ⟨a1,a2,_⟩:=Q0k hs hb hm
  have hl:l=n.getD (m.n - off):=by
   cases n with
   | none =>
    simp only [Qak,hb] at h
    simp at h ⊢;omega
   | some q=>simp [Qak] at h ⊢;exact h.symm
  subst hl
  exact ⟨m,rfl,rfl,by omega⟩
theorem Qfj (hs:StR s) {p:PV} {v:Value} (hr:ER s p v) {l:Nat} (h:Qak s.L p=some l):∃ a c,v=.slice a l c:=by
 unfold Qak at h
 split at h
 ·simp at h;subst h;obtain rfl:v=_:=hr;exact ⟨_,_,rfl⟩
 ·rename_i st t x
  simp at h;subst h
  have hr:Rep (s.NN st) s.H (.sl t) x [v]:=hr
  unfold Rep at hr
  rcases hr with ⟨rfl,e1⟩ | ⟨rfl,_,_,e1⟩ | ⟨_,_,_,e1,_⟩<;>(simp at e1;subst e1;exact ⟨_,_,rfl⟩)
 ·rename_i b off n
  have hr:LR0 s (.osl b off (some n)) v:=hr
  simp at h;subst h
  obtain ⟨hlb,hr⟩:=hr
  split at hr
  ·obtain ⟨_,h2,rfl⟩:=hr;simp at h2;subst h2;exact ⟨_,_,rfl⟩
  ·obtain ⟨_,rfl⟩:=hr;exact ⟨_,_,rfl⟩
 ·rename_i b off
  have hr:LR0 s (.osl b off none) v:=hr
  split at h
  ·rename_i ver rw t xs hb
   have hpl:Qak s.L (.osl b off none)=some l:=by simp only [Qak,hb];exact h
   rcases Qfi hs hr hb hpl with ⟨m,_,rfl,_⟩ | ⟨_,rfl,rfl,_⟩<;>exact ⟨_,_,rfl⟩
  ·rename_i ver rw t xs ho hb
   split at h
   ·simp at h;subst h
    obtain ⟨hlb,hr⟩:=hr
    obtain ⟨_,_,⟨hm,rfl⟩ | ⟨m,k,hm,a1,a2,_⟩⟩:=Q09 hs hb
    ·rw [hm] at hr;obtain ⟨_,_,rfl⟩:=hr;exact ⟨_,_,rfl⟩
    ·rw [hm] at hr;obtain ⟨_,rfl⟩:=hr
     exact ⟨some ⟨m.z,m.sh+0*m.es,none⟩,m.es,by simp [a2]⟩
   ·simp at h
  ·simp at h
 ·rename_i b i ver t x
  simp at h;subst h
  obtain ⟨_,hr,_⟩:LR0 s (.rw b i ver t x) v:=hr
  rcases hr with ⟨e,rfl⟩ | ⟨z,oo,rfl⟩
  ·rw [e];exact ⟨_,_,rfl⟩
  ·exact ⟨_,_,rfl⟩
 ·simp at h
theorem Qt8 (hs:StR s) {p:PV} {v:Value} (hr:ER s p v) {l:Nat} (h:Qak s.L p=some l):∃ a c,v=.slice a l c∧(a=none→l=0):=by
 obtain ⟨a,c,rfl⟩:=Qfj hs hr h
 refine ⟨a,c,rfl,fun ha=>?_⟩
 subst ha
 unfold Qak at h
 split at h
 ·simp at h;exact h.symm
 ·rename_i st t x
  have hr:Rep (s.NN st) s.H (.sl t) x [.slice none l c]:=hr
  unfold Rep at hr
  rcases hr with ⟨rfl,e1⟩ | ⟨rfl,_,_,e1⟩ | ⟨_,_,_,e1,_⟩
  ·simp at h;exact h.symm
  ·simp at h;exact h.symm
  ·simp at e1
 ·rename_i b off n
  have hr:LR0 s (.osl b off (some n)) (.slice none l c):=hr
  simp at h;subst h
  obtain ⟨hlb,hr⟩:=hr
  split at hr
  ·have:=hr.2.1;simpa using this
  ·have:=hr.2;simp at this
 ·rename_i b off
  have hr:LR0 s (.osl b off none) (.slice none l c):=hr
  split at h
  ·rename_i ver rw t xs hb
   have hpl:Qak s.L (.osl b off none)=some l:=by simp only [Qak,hb];exact h
   rcases Qfi hs hr hb hpl with ⟨m,_,e1,_⟩ | ⟨_,_,rfl,_⟩
   ·simp at e1
   ·rfl
  ·rename_i ver rw t xs ho hb
   split at h
   ·simp at h;subst h
    obtain ⟨hlb,hr⟩:=hr
    obtain ⟨_,_,⟨hm,rfl⟩ | ⟨m,k,hm,a1,a2,_⟩⟩:=Q09 hs hb
    ·rfl
    ·rw [hm] at hr;obtain ⟨_,e⟩:=hr;simp at e
   ·simp at h
  ·simp at h
 ·rename_i b i ver t x
  simp at h;subst h
  obtain ⟨_,hr,_⟩:LR0 s (.rw b i ver t x) (.slice none x.length c):=hr
  rcases hr with ⟨e,_⟩ | ⟨z,oo,e⟩
  ·exact e
  ·simp at e
 ·simp at h
theorem Qqh {op:BinOp} {t u:TypeId} {x y:Operand} (hP:X.P=XE.P) (ho:o.op=.binOp op t x y u) (hs:StR s) (he:Q25 s env e) (hK:KOk s r KV KE Q) (h:vop X o env s.L KV=some r):∃ y,Q38 XE o e s.H KE=some y∧Q y:=by
 simp only [vop,ho] at h;simp only [Q38,ho]
 replace h:=ob h;obtain ⟨p,h1,h⟩:=h
 replace h:=ob h;obtain ⟨q,h2,h⟩:=h
 obtain ⟨v,e1,r1⟩:=Q01 he h1
 obtain ⟨w,e2,r2⟩:=Q01 he h2
 rw [e1,e2];simp only [Q1]
 rw [← hP]
 split at h
 ·rename_i neg hc
  obtain ⟨hq,⟨el,hu⟩,hop,hv⟩:=Qbx hc
  rw [hq] at r2
  obtain rfl:w=.slice none 0 0:=r2
  rw [show p=.nil from hv] at r1
  obtain rfl:v=.slice none 0 0:=r1
  rw [Qqc hu hop]
  have hz:(Option.isNone (none:Option Addr) != neg) = !neg:=by cases neg<;>rfl
  rw [hz]
  exact hK.here hs (p:=.bool (!neg)) rfl h
 ·rename_i n neg hc
  obtain ⟨hq,⟨el,hu⟩,hop,hv⟩:=Qbx hc
  rw [hq] at r2
  obtain rfl:w=.slice none 0 0:=r2
  obtain ⟨a,c,rfl,hn⟩:=Qt8 hs r1 hv
  rw [Qqc hu hop]
  unfold Quw at h
  cases n with
  | zero =>
   obtain ⟨g1,g2⟩:=Qqb h
   cases a with
   | none =>
        have hz:(Option.isNone (none:Option Addr) != neg) = !neg:=by cases neg<;>rfl
        rw [hz];exact hK.here hs (p:=.bool (!neg)) rfl g1
   | some a =>
         have:(Option.isNone (some a) != neg)=neg:=by cases neg<;>rfl
         rw [this];exact hK.here hs (p:=.bool neg) rfl g2
  | succ n =>
   cases a with
   | none=>exact absurd (hn rfl) (by omega)
   | some a =>
         have:(Option.isNone (some a) != neg)=neg:=by cases neg<;>rfl
         rw [this];exact hK.here hs (p:=.bool neg) rfl h
 ·replace h:=ob h;obtain ⟨v',h3,h⟩:=h
  replace h:=ob h;obtain ⟨u',h4,h⟩:=h
  have:=Qr6 r1 h3;subst this
  have:=Qr6 r2 h4;subst this
  rw [Qlx] at h
  replace h:=ob h;obtain ⟨z,h5,h⟩:=h
  rw [Qlx,h5]
  exact hK.here hs (Qr7 (Qr8 h5)) h
theorem Qfk {t:TypeId} {x ix:Operand} (hP:X.P=XE.P) (ho:o.op=.indexAddr t x ix) (hs:StR s) (he:Q25 s env e) (hK:KOk s r KV KE Q) (h:vop X o env s.L KV=some r):∃ y,Q38 XE o e s.H KE=some y∧Q y:=by
 simp only [vop,ho] at h;simp only [Q38,ho]
 replace h:=ob h;obtain ⟨p,h1,h⟩:=h
 replace h:=ob h;obtain ⟨j,h2,h⟩:=h
 obtain ⟨v,e1,r1⟩:=Q01 he h1
 obtain ⟨w,e2,r2⟩:=Q01 he h2
 rw [e1,e2];simp only [Q1]
 rw [← hP]
 split at h
 ·rename_i el hu
  replace h:=ob h;obtain ⟨i,h3,h⟩:=h
  split at h
  ·rename_i st u l
   split at h
   ·rename_i hsz
    have hsz:=Z7 hsz
    have r1:Rep (s.NN st) s.H (.sl u) l [v]:=r1
    unfold Rep at r1
    have hne:∀ (K:Nat→Option γ),True:=fun _=>trivial
    rcases r1 with ⟨rfl,e3⟩ | ⟨rfl,z,oo,e3⟩ | ⟨z,oo,k,e3,hn,hk,hle,hi⟩
    ·exfalso
     unfold pIx at h;split at h
     ·unfold oif at h;split at h
      ·simp [Q1] at h
      ·simp at h
     ·simp at h
    ·exfalso
     unfold pIx at h;split at h
     ·unfold oif at h;split at h
      ·simp [Q1] at h
      ·simp at h
     ·simp at h
    ·simp at e3;subst e3
     simp only [slS,hu,h3,Q1]
     refine Q51 r2 h (fun n h=>?_)
     replace h:=ob h;obtain ⟨y,h4,h⟩:=h
     obtain ⟨hlt,e5⟩:=Z0 h4
     have:Nat.blt n l.length=true:=Qdr hlt
     simp only [this,oif]
     have hmul:n*u.size+u.size≤l.length*u.size:=by
      have:=Zk u.size (show n+1≤l.length from hlt)
      rw [Nat.add_mul,Nat.one_mul] at this;exact this
     refine hK.here hs (p:=.rp st u y) ⟨z,oo+n*i.size,k,rfl,hn,hk,by rw [← hsz];omega,?_⟩ h
     have:=hi n hlt
     rw [e5] at this;rw [← hsz];exact this
   ·simp at h
  ·rename_i b off n
   split at h
   ·rename_i ver rw u xs hb
    split at h
    ·rename_i hsz
     have hsz:=Z7 hsz
     have r1:LR0 s (.osl b off n) v:=r1
     have key:∀ q,(Q1 (Qak s.L (.osl b off n)) fun m=>oif (Nat.blt q m) (KV (.ep b (Qlt off q) 0) s.L) none)=some r →
       ∃ m l,s.μ b=some m∧v=.slice (some ⟨m.z,m.sh+off*m.es,none⟩) l m.es∧q < l∧KV (.ep b (off+q) 0) s.L=some r:=by
      intro q h
      replace h:=ob h;obtain ⟨l,h4,h⟩:=h
      unfold oif at h;split at h
      ·rename_i hlt
       have hlt:=Q6z hlt
       rcases Qfi hs r1 hb h4 with ⟨m,a1,a2,a3⟩ | ⟨_,_,rfl,_⟩
       ·refine ⟨m,l,a1,a2,hlt,?_⟩
        rw [← Qqg];exact h
       ·omega
      ·simp at h
     have hex:∃ a n' c,v=.slice (some a) n' c:=by
      unfold pIx at h;split at h
      ·rename_i nn
       cases hd:decide (0≤nn) with
       | true =>
        rw [hd] at h
        obtain ⟨m,l,_,rfl,_⟩:=key nn.toNat h;exact ⟨_,_,_,rfl⟩
       | false=>rw [hd] at h;simp [oif] at h
      ·simp at h
     obtain ⟨a,n',c,rfl⟩:=hex
     simp only [slS,hu,h3,Q1]
     refine Q51 r2 h (fun q h=>?_)
     obtain ⟨m,l,hm,ev',hlt,h⟩:=key q h
     injection ev' with e5 e6 e7
     injection e5 with e5
     subst e5 e6 e7
     have:Nat.blt q n'=true:=Qdr hlt
     simp only [this,oif]
     obtain ⟨a1,_⟩:=Q0k hs hb hm
     refine hK.here hs (p:=.ep b (off+q) 0) ⟨r1.1,m,hm,?_⟩ h
     rw [Nat.add_zero,Nat.add_mul,a1,hsz,Nat.add_assoc]
    ·simp at h
   ·rename_i ver rw u xs ho hb
    split at h
    ·rename_i hsz
     simp only [Z8] at hsz
     obtain ⟨hsz,ho0,hn0⟩:=hsz
     have hsz:=Z7 hsz
     have ho0:=Z7 ho0
     subst ho0
     have hn0:n=none:=by cases n<;>simp_all
     subst hn0
     have r1:LR0 s (.osl b 0 none) v:=r1
     obtain ⟨_,_,hrow⟩:=Q09 hs hb
     have hex:∃ q,KV (.ep b q 0) s.L=some r∧q < xs.length:=by
      unfold pIx at h;split at h
      ·rename_i nn
       cases hd:decide (0≤nn) with
       | true =>
        rw [hd] at h
        simp only [oif] at h
        split at h
        ·rename_i hlt;exact ⟨_,h,Q6z hlt⟩
        ·simp at h
       | false=>rw [hd] at h;simp [oif] at h
      ·simp at h
     obtain ⟨q0,_,hq0⟩:=hex
     rcases hrow with ⟨hm,rfl⟩ | ⟨m,k,hm,a1,a2,_⟩
     ·simp at hq0
     have r1':=r1
     obtain ⟨_,r1'⟩:=r1'
     rw [hm] at r1'
     obtain ⟨_,rfl⟩:=r1'
     simp only [slS,hu,h3,Q1]
     refine Q51 r2 h (fun q h=>?_)
     unfold oif at h;split at h
     ·rename_i hlt
      have:Nat.blt q ((none:Option Nat).getD (m.n - 0))=true:=by simp [a2,hlt]
      simp only [this,oif]
      refine hK.here hs (p:=.ep b q 0) ⟨r1.1,m,hm,?_⟩ h
      rw [a1,← hsz];simp
     ·simp at h
    ·simp at h
   ·simp at h
  ·rename_i b i0 ver u l
   split at h
   ·rename_i hsz
    have hsz:=Z7 hsz
    obtain ⟨hlb,hsl,hval⟩:LR0 s (.rw b i0 ver u l) v:=r1
    rcases hsl with ⟨e3,rfl⟩ | ⟨z,oo,rfl⟩
    ·exfalso
     have:l=[]:=Z1 e3
     subst this
     unfold pIx at h;split at h
     ·unfold oif at h;split at h
      ·simp [Q1] at h
      ·simp at h
     ·simp at h
    ·simp only [slS,hu,h3,Q1]
     refine Q51 r2 h (fun n h=>?_)
     replace h:=ob h;obtain ⟨y,h4,h⟩:=h
     obtain ⟨hlt,e5⟩:=Z0 h4
     have:Nat.blt n l.length=true:=Qdr hlt
     simp only [this,oif]
     have hmul:n*u.size+u.size≤l.length*u.size:=by
      have:=Zk u.size (show n+1≤l.length from hlt)
      rw [Nat.add_mul,Nat.one_mul] at this;exact this
     refine hK.here hs (p:=.rq b ver u y) ⟨hlb,⟨z,oo+n*i.size,rfl⟩,fun B hB=>⟨(hval B hB).1,fun e=>?_⟩⟩ h
     obtain ⟨_,hrow,_⟩:=(hval B hB).2 e
     rcases hrow with ⟨_,e6⟩ | ⟨z',o',k,e6,g1,g2,g3,g4,g5,g6⟩
     ·simp at e6
     ·injection e6 with e6 _ _;injection e6 with e6;injection e6 with e6 e7 _;subst e6 e7
      have:=g6 n hlt
      rw [e5] at this
      exact ⟨z,oo+n*i.size,k,i0,rfl,g1,g2,by have:=g5.1;rw [← hsz];omega,by rw [← hsz];exact this⟩
   ·simp at h
  ·simp at h
 ·rename_i n el hu
  replace h:=ob h;obtain ⟨i,h3,h⟩:=h
  replace h:=ob h;obtain ⟨u,h4,h⟩:=h
  split at h
  ·rename_i b off
   split at h
   ·rename_i ver rw u' xs ho hb
    split at h
    ·rename_i hc
     simp only [Z8] at hc
     obtain ⟨ho0,hsz⟩:=hc
     have ho0:=Z7 ho0
     have hsz:=Z7 hsz
     subst ho0
     obtain ⟨hlb,m,hm,hsh,rfl⟩:=r1
     obtain ⟨_,_,hrow⟩:=Q09 hs hb
     simp only [Q5c,hu,h3,Q1]
     refine Q51 r2 h (fun k h=>?_)
     unfold oif at h
     split at h
     ·rename_i hlt
      simp only [Z8] at hlt
      simp only [hlt.1,oif]
      have hk:=Q6z hlt.2
      rcases hrow with ⟨_,rfl⟩ | ⟨m',kk,hm',a1,a2,_⟩
      ·simp at hk
      rw [hm] at hm';injection hm' with hm';subst hm'
      refine hK.here hs (p:=.ep b k 0) ⟨hlb,m,hm,?_⟩ h
      rw [hsh,a1,← hsz];simp
     ·simp at h
    ·simp at h
   split at h
   ·rename_i hc
    simp only [Z8] at hc
    have hsz:=Z7 hc.1
    obtain ⟨hb,m,hm,hsh,rfl⟩:=r1
    simp only [Q5c,hu,h3,Q1]
    refine Q51 r2 h (fun k h=>?_)
    unfold oif at h
    split at h
    ·rename_i hlt
     simp only [hlt,oif]
     exact hK.here hs (p:=.dp b off n u k) ⟨hb,m,hm,hsh,by rw [hsz]⟩ h
    ·simp at h
   ·simp at h
  ·simp at h
 ·simp at h
end
theorem Q1x (l:List Value) (o:Nat) (ds:List Value) (h:o+ds.length≤l.length) (i:Nat):(lay l o ds)[i]? = if i < o then l[i]? else if i < o+ds.length then ds[i - o]? else l[i]?:=by
 unfold lay
 have h1:(l.take o).length=o:=by simp;omega
 split
 ·rename_i hi
  rw [List.append_assoc,List.getElem?_append_left (by omega),List.getElem?_take_of_lt hi]
 ·split
  ·rename_i hi hj
   rw [List.append_assoc,Zq (by omega),h1,List.getElem?_append_left (by omega)]
  ·rename_i hi hj
   rw [Zq (by simp;omega),Zp]
   congr 1;simp;omega
theorem Qby (l:List Value) (o:Nat) (ds:List Value) (h:o+ds.length≤l.length):(lay l o ds).length=l.length:=by
 unfold lay;simp;omega
def seg (l:List Value) (p n:Nat):List Value:=(l.drop p).take n
theorem Q2b (l:List Value) (p n i:Nat):(seg l p n)[i]? = if i < n then l[p+i]? else none:=by
 unfold seg
 split
 ·rename_i h;rw [List.getElem?_take_of_lt h,Zp]
 ·rename_i h;rw [List.getElem?_take_eq_none (by omega)]
theorem Q7c (l:List Value) (p n:Nat) (h:p+n≤l.length):(seg l p n).length=n:=by unfold seg;simp;omega
theorem Qk0 (l:List Value) (o:Nat) (ds:List Value) (h:o+ds.length≤l.length) (p n:Nat) (hd:p+n≤o∨o+ds.length≤p):seg (lay l o ds) p n=seg l p n:=by
 apply List.ext_getElem?;intro i
 rw [Q2b,Q2b,Q1x l o ds h]
 split
 ·split
  ·rfl
  ·split
   ·omega
   ·rfl
 ·rfl
theorem Qn8 (l:List Value) (o:Nat) (ds:List Value) (p n:Nat) (h1:p≤o) (h2:o+ds.length≤p+n) (h3:p+n≤l.length):seg (lay l o ds) p n=lay (seg l p n) (o - p) ds:=by
 have hl:=Q7c l p n h3
 apply List.ext_getElem?;intro i
 rw [Q2b,Q1x l o ds (by omega),Q1x (seg l p n) (o - p) ds (by omega)]
 split
 ·rename_i hi
  split
  ·rename_i hj
   rw [if_pos (by omega),Q2b,if_pos hi]
  ·rename_i hj
   split
   ·rename_i hk
    rw [if_neg (by omega),if_pos (by omega)];congr 1;omega
   ·rename_i hk
    rw [if_neg (by omega),if_neg (by omega),Q2b,if_pos hi]
 ·rename_i hi
  rw [if_neg (by omega),if_neg (by omega),Q2b,if_neg hi]
theorem LR0.plain {s:S} {p:PV} {v:Value} (h:LR0 s p v):Qa v v=true:=by
 cases p with
 | int k n=>obtain rfl:=h;simp [Qa]
 | bool b=>obtain rfl:=h;simp [Qa]
 | str b=>obtain rfl:=h;simp [Qa]
 | nil=>obtain rfl:=h;simp [Qa]
 | nilp=>obtain rfl:=h;simp [Qa]
 | ro st t x =>
  have h':Rep (s.NN st) s.H (.sl t) x [v]:=h
  unfold Rep at h'
  rcases h' with ⟨_,e⟩ | ⟨_,_,_,e⟩ | ⟨_,_,_,e,_⟩<;>(simp at e;subst e;simp [Qa])
 | rp st t x=>obtain ⟨z,o,k,rfl,r⟩:=id h;simp [Qa]
 | osl b off n =>
  obtain ⟨_,r⟩:=id h
  split at r
  ·rw [r.2.2];simp [Qa]
  ·rw [r.2];simp [Qa]
 | ep b j fo=>obtain ⟨_,m,_,rfl⟩:=id h;simp [Qa]
 | ptr b off=>obtain ⟨_,m,_,_,rfl⟩:=id h;simp [Qa]
 | mp b=>obtain ⟨_,m,_,rfl⟩:=id h;simp [Qa]
 | dp b off n u k=>obtain ⟨_,m,_,_,rfl⟩:=id h;simp [Qa]
 | hole=>exact h.2
 | rw b i ver t x=>obtain ⟨_,r,_⟩:=id h;rcases r with ⟨_,rfl⟩ | ⟨_,_,rfl⟩<;>simp [Qa]
 | rq b ver t x=>obtain ⟨_,⟨_,_,rfl⟩,_⟩:=id h;simp [Qa]
 | fn f a b=>exact absurd h id
 | agg cs=>exact absurd h id
 | tup cs=>exact absurd h id
 | undef=>exact absurd h id
theorem Rep.plain {N:Nat→Prop} {H:Heap}:∀ (t:Ty) {x:t.T} {cs:List Value},Rep N H t x cs→∀ v∈cs,Qa v v=true
 | .int _,_,_,h=>by unfold Rep at h;subst h;simp [Qa]
 | .bool,_,_,h=>by unfold Rep at h;subst h;simp [Qa]
 | .str,_,_,h=>by unfold Rep at h;subst h;simp [Qa]
 | .sl t,_,_,h=>by
  unfold Rep at h
  rcases h with ⟨_,rfl⟩ | ⟨_,_,_,rfl⟩ | ⟨_,_,_,rfl,_⟩<;>simp [Qa]
 | .os t,_,_,h=>by unfold Rep at h;obtain ⟨v,rfl,hv⟩:=h;simpa using hv.2
 | .pair a b,_,cs,h=>by
  unfold Rep at h
  intro v hv
  rw [← List.take_append_drop a.size cs] at hv
  rcases List.mem_append.1 hv with hv | hv
  ·exact Rep.plain a h.1 v hv
  ·exact Rep.plain b h.2 v hv
theorem LRs.plain {s:S}:∀ {cs:List PV} {vs:List Value},LRs s cs vs→∀ v∈vs,Qa v v=true
 | [],[],_,v,hv=>by simp at hv
 | p::cs,w::vs,h,v,hv=>by
  rcases Z2 hv with rfl | hv
  ·exact h.1.plain
  ·exact LRs.plain h.2 v hv
 | [],_::_,h,_,_=>by simp [LRs,Qw] at h
 | _::_,[],h,_,_=>by simp [LRs,Qw] at h
def RL (N:Nat→Prop) (H:Heap) (t:Ty) (xs:List t.T) (cells:List Value):Prop :=
 cells.length=xs.length*t.size∧∀ i (h:i < xs.length),Rep N H t xs[i] (seg cells (i*t.size) t.size)
theorem Q1m {i n k:Nat} (h:i < n):i*k+k≤n*k:=by
 have:=Zk k (show i+1≤n from h)
 rw [Nat.add_mul,Nat.one_mul] at this;exact this
theorem RL.append {N:Nat→Prop} {H:Heap} {t:Ty} {xs ys:List t.T} {c d:List Value} (h:RL N H t xs c) (g:RL N H t ys d):RL N H t (xs++ys) (c++d):=by
 refine ⟨by simp [h.1,g.1,Nat.add_mul],fun i hi=>?_⟩
 rcases Nat.lt_or_ge i xs.length with hx | hx
 ·have:=h.2 i hx
  have e:seg (c++d) (i*t.size) t.size=seg c (i*t.size) t.size:=by
   have:=Q1m (k:=t.size) hx
   unfold seg
   rw [List.drop_append_of_le_length (by rw [h.1];omega),List.take_append_of_le_length (by simp [h.1];omega)]
  rw [e,List.getElem_append_left hx];exact this
 ·have hy:i - xs.length < ys.length:=by simp at hi;omega
  have:=g.2 (i - xs.length) hy
  have e:seg (c++d) (i*t.size) t.size=seg d ((i - xs.length)*t.size) t.size:=by
   have hle:xs.length*t.size≤i*t.size:=Zk _ hx
   unfold seg
   rw [List.drop_append,List.drop_of_length_le (by rw [h.1];exact hle),h.1,← Nat.sub_mul]
   simp
  rw [e,List.getElem_append_right hx];exact this
theorem RL.frame {N M:Nat→Prop} {H G:Heap} {t:Ty} {xs:List t.T} {c:List Value} (r:RL N H t xs c) (h:∀ z,N z→z < H.length→M z∧hget G z=hget H z):RL M G t xs c :=
 ⟨r.1,fun i hi=>Rep.frame h t (r.2 i hi)⟩
theorem RL.rep {N:Nat→Prop} {H:Heap} {t:Ty}:∀ (n:Nat) {x:t.T} {c:List Value},Rep N H t x c→RL N H t (List.replicate n x) ((List.replicate n c).flatten)
 | 0,x,c,_=>by simp [RL]
 | n+1,x,c,h=>by
  have h1:RL N H t [x] c:=by
   have hl:=Rep.len _ h
   refine ⟨by simp [hl],fun i hi=>?_⟩
   simp at hi;subst hi
   simp only [List.getElem_cons_zero,Nat.zero_mul]
   have:seg c 0 t.size=c:=by unfold seg;rw [List.drop_zero,Zs (by omega)]
   rw [this];exact h
  have:=h1.append (RL.rep n h)
  simpa [List.replicate_succ] using this
theorem RL.set {N:Nat→Prop} {H:Heap} {t:Ty} {xs:List t.T} {c:List Value} (r:RL N H t xs c) {i:Nat} (hi:i < xs.length) {x:t.T} {d:List Value} (h:Rep N H t x d):RL N H t (xs.set i x) (lay c (i*t.size) d):=by
 have hl:=Rep.len _ h
 have hm:=Q1m (k:=t.size) hi
 refine ⟨by rw [Qby _ _ _ (by rw [hl,r.1];omega)];simp [r.1],fun j hj=>?_⟩
 simp at hj
 by_cases e:i=j
 ·subst e
  rw [Qn8 _ _ _ _ _ (Zd _) (by omega) (by rw [r.1];omega)]
  simp only [List.getElem_set_self,Nat.sub_self]
  have:lay (seg c (i*t.size) t.size) 0 d=d:=by
   unfold lay;simp only [List.take_zero,List.nil_append,Zo]
   rw [List.drop_of_length_le (by rw [Q7c _ _ _ (by rw [r.1];omega)];omega)];simp
  rw [this];exact h
 ·have hmj:=Q1m (k:=t.size) hj
  have hd:j*t.size+t.size≤i*t.size∨i*t.size+d.length≤j*t.size:=by
   rcases Nat.lt_or_ge i j with h1 | h1
   ·right;rw [hl];exact Q1m h1
   ·left;exact Q1m (by omega)
  rw [Qk0 _ _ _ (by rw [hl,r.1];omega) _ _ hd]
  rw [List.getElem_set_ne e];exact r.2 j hj
theorem RL.ofBlk {N:Nat→Prop} {H:Heap} {t:Ty} {xs:List t.T} {c:List Value} {sh:Nat} (h1:sh+xs.length*t.size≤c.length) (h2:∀ i (h:i < xs.length),Rep N H t xs[i] ((c.drop (sh+i*t.size)).take t.size)):RL N H t xs ((c.drop sh).take (xs.length*t.size)):=by
 refine ⟨by simp;omega,fun i hi=>?_⟩
 have:=h2 i hi
 have hm:=Q1m (k:=t.size) hi
 unfold seg;rw [List.drop_take,List.take_take,Nat.min_eq_left (by omega),List.drop_drop];exact this
theorem RL.plain {N:Nat→Prop} {H:Heap} {t:Ty} {xs:List t.T} {c:List Value} (r:RL N H t xs c):∀ v∈c,Qa v v=true:=by
 intro v hv
 obtain ⟨i,hi,ei⟩:=List.getElem_of_mem hv
 have hpos:=Ty.size_pos t
 have hq:i / t.size < xs.length:=by
  rw [Nat.div_lt_iff_lt_mul hpos,← r.1];exact hi
 refine Rep.plain _ (r.2 _ hq) v ?_
 have hmod:=Nat.mod_lt i hpos
 have hdm:=Nat.div_add_mod i t.size
 refine List.mem_iff_getElem?.2 ⟨i % t.size,?_⟩
 rw [Q2b,if_pos hmod,show i / t.size*t.size+i % t.size=i by rw [Nat.mul_comm];exact hdm,Z6 hi,ei]
theorem Qqi {c d:List Value} {o:Nat} {v:Value} (h:v∈lay c o d):v∈c∨v∈d:=by
 unfold lay at h
 simp only [Zh] at h
 rcases h with (h | h) | h
 ·exact .inl (List.mem_of_mem_take h)
 ·exact .inr h
 ·exact .inl (List.mem_of_mem_drop h)
theorem Qt9 {c d:List Value} {sh p:Nat} (h:sh+p+d.length≤c.length):(lay c (sh+p) d).drop sh=lay (c.drop sh) p d:=by
 apply List.ext_getElem?;intro i
 rw [Zp,Q1x _ _ _ (by omega),Q1x _ _ _ (by simp;omega)]
 by_cases c2:i < p
 ·rw [if_pos (by omega),if_pos c2,Zp]
 ·rw [if_neg (by omega),if_neg c2]
  by_cases c3:i < p+d.length
  ·rw [if_pos (by omega),if_pos c3];congr 1;omega
  ·rw [if_neg (by omega),if_neg c3,Zp]
theorem Fit.lay {c d:List Value} {sh p n:Nat} (h:Fit sh n c) (hp:sh+p+d.length≤c.length) (hd:∀ v∈d,Qa v v=true):Fit sh n (lay c (sh+p) d):=by
 refine ⟨by rw [Qby _ _ _ (by omega)];exact h.1,fun v hv=>?_⟩
 rw [Qt9 hp] at hv
 rcases Qqi hv with hv | hv
 ·exact h.2 v hv
 ·exact hd v hv
theorem Fit.sub {c:List Value} {sh n p q:Nat} (h:Fit sh n c) (hq:p+q≤n):Fit (sh+p) q c:=by
 have:=h.1
 refine ⟨by omega,fun v hv=>h.2 v ?_⟩
 rw [← List.drop_drop] at hv
 exact List.mem_of_mem_drop hv
theorem Qqj {c d:List Value} {sh p L:Nat} (h1:sh+L≤c.length) (h2:p+d.length≤L):((lay c (sh+p) d).drop sh).take L=lay ((c.drop sh).take L) p d:=by
 apply List.ext_getElem?;intro i
 have hl:((c.drop sh).take L).length=L:=by simp;omega
 rw [List.getElem?_take,Q1x _ _ _ (by omega)]
 by_cases c1:i < L
 ·rw [if_pos c1,Zp,Q1x _ _ _ (by omega)]
  by_cases c2:i < p
  ·rw [if_pos (by omega),if_pos c2,List.getElem?_take,if_pos c1,Zp]
  ·rw [if_neg (by omega),if_neg c2]
   by_cases c3:i < p+d.length
   ·rw [if_pos (by omega),if_pos c3];congr 1;omega
   ·rw [if_neg (by omega),if_neg c3,List.getElem?_take,if_pos c1,Zp]
 ·rw [if_neg c1,if_neg (by omega),if_neg (by omega),List.getElem?_take,if_neg c1]
theorem Qta {D d:List Value} {p fo z:Nat} (h1:p+z≤D.length) (h2:fo+d.length≤z):lay D (p+fo) d=lay D p (lay (seg D p z) fo d):=by
 have hs:(seg D p z).length=z:=Q7c _ _ _ h1
 have hl:(lay (seg D p z) fo d).length=z:=by rw [Qby _ _ _ (by omega)];exact hs
 apply List.ext_getElem?;intro i
 rw [Q1x _ _ _ (by omega),Q1x _ _ _ (by omega),hl]
 by_cases c1:i < p
 ·rw [if_pos (by omega),if_pos c1]
 ·rw [if_neg c1]
  by_cases c2:i < p+z
  ·rw [if_pos c2,Q1x _ _ _ (by omega)]
   by_cases c3:i - p < fo
   ·rw [if_pos (by omega),if_pos c3,Q2b,if_pos (by omega)];congr 1;omega
   ·rw [if_neg (by omega),if_neg c3]
    by_cases c4:i - p < fo+d.length
    ·rw [if_pos (by omega),if_pos c4];congr 1;omega
    ·rw [if_neg (by omega),if_neg c4,Q2b,if_pos (by omega)];congr 1;omega
  ·rw [if_neg (by omega),if_neg (by omega),if_neg c2]
theorem RL.sub {N:Nat→Prop} {H:Heap} {t:Ty} {xs:List t.T} {c:List Value} {sh off n:Nat} (h1:sh+xs.length*t.size≤c.length) (h2:∀ i (h:i < xs.length),Rep N H t xs[i] ((c.drop (sh+i*t.size)).take t.size)) (h:off+n≤xs.length):RL N H t ((xs.drop off).take n) ((c.drop (sh+off*t.size)).take (n*t.size)):=by
 have hm:(off+n)*t.size≤xs.length*t.size:=Zk _ h
 rw [Nat.add_mul] at hm
 have hn:((xs.drop off).take n).length=n:=by simp;omega
 refine ⟨by rw [hn];simp;omega,fun i hi=>?_⟩
 rw [hn] at hi
 have:=h2 (off+i) (by omega)
 have hmi:=Q1m (k:=t.size) hi
 rw [List.getElem_take,List.getElem_drop]
 unfold seg;rw [List.drop_take,List.take_take,Nat.min_eq_left (by omega),List.drop_drop]
 rw [Nat.add_mul] at this
 rw [show sh+off*t.size+i*t.size=sh+(off*t.size+i*t.size) by omega];exact this
theorem RL.drop {N:Nat→Prop} {H:Heap} {t:Ty} {xs:List t.T} {c:List Value} (r:RL N H t xs c) (k:Nat) (hk:k≤xs.length):RL N H t (xs.drop k) (c.drop (k*t.size)):=by
 refine ⟨by simp [r.1,Nat.sub_mul],fun i hi=>?_⟩
 simp at hi
 have:=r.2 (k+i) (by omega)
 rw [List.getElem_drop]
 have e:seg (c.drop (k*t.size)) (i*t.size) t.size=seg c ((k+i)*t.size) t.size:=by
  unfold seg;rw [List.drop_drop,Nat.add_mul]
 rw [e];exact this
theorem RL.take {N:Nat→Prop} {H:Heap} {t:Ty} {xs:List t.T} {c:List Value} (r:RL N H t xs c) (k:Nat) (hk:k≤xs.length):RL N H t (xs.take k) (c.take (k*t.size)):=by
 have hm:k*t.size≤xs.length*t.size:=Zk _ hk
 refine ⟨by simp [r.1,Nat.min_eq_left hk],fun i hi=>?_⟩
 simp at hi
 have:=r.2 i (by omega)
 rw [List.getElem_take]
 have hm2:=Q1m (k:=t.size) (show i < k by omega)
 have e:seg (c.take (k*t.size)) (i*t.size) t.size=seg c (i*t.size) t.size:=by
  unfold seg;rw [List.drop_take,List.take_take,Nat.min_eq_left (by omega)]
 rw [e];exact this
theorem Qk1 {N:Nat→Prop} {H:Heap} {s:S}:∀ (t:Ty) {l:List PV} {vs:List Value},goZ t l=true→LRs s l vs→Rep N H t (Q8g t) vs
 | .int k,l,vs,h,hr=>by
  unfold goZ at h
  split at h
  ·simp only [Z8,Zj,beq_iff_eq] at h
   obtain ⟨rfl,rfl⟩:=h
   obtain ⟨v,rfl,hv⟩:=hr.one
   obtain rfl:=hv
   unfold Rep Q8g;rfl
  ·simp at h
 | .bool,l,vs,h,hr=>by
  unfold goZ at h
  split at h
  ·simp at h;subst h
   obtain ⟨v,rfl,hv⟩:=hr.one
   obtain rfl:=hv
   unfold Rep Q8g;rfl
  ·simp at h
 | .str,l,vs,h,hr=>by
  unfold goZ at h
  split at h
  ·rename_i b
   obtain ⟨v,rfl,hv⟩:=hr.one
   obtain rfl:=hv
   unfold Rep Q8g
   have:b=⟨#[]⟩:=by
    obtain ⟨⟨d⟩⟩:=b
    simp [List.isEmpty_iff] at h;subst h;rfl
   rw [this]
  ·simp at h
 | .sl t,l,vs,h,hr=>by
  unfold goZ at h
  split at h
  ·obtain ⟨v,rfl,hv⟩:=hr.one
   obtain rfl:=hv
   unfold Rep Q8g;exact .inl ⟨rfl,rfl⟩
  ·simp at h
 | .pair a b,l,vs,h,hr=>by
  unfold goZ at h
  simp only [Z8] at h
  unfold Q8g
  exact Rep.pairMk (Qk1 a h.1 (Qw.take _ hr)) (Qk1 b h.2 (Qw.drop _ hr))
theorem Q9g {N:Nat→Prop} {H:Heap} (s:S) {z:Value} {t:Ty} (h:Qc6 z t=true):Rep N H t (Q8g t) z.cells.toList:=by
 unfold Qc6 at h
 split at h
 ·rename_i l hl
  exact Qk1 t h (Q6l (s:=s) hl).1
 ·simp at h
section
variable {A:AnnV} {β γ:Type} {s:S} {env:Q0n} {e:Env} {X:CxV A β} {XE:Cx} {o:Oper} {KV:PV→LS→Option β} {KE:Value→Heap→Option γ} {r:β} {Q:γ→Prop}
theorem Q6j {t:TypeId} {i:TypeInfo} {z:Value} {w:Ty} {st zz oo:Nat} {k:Blk} {y:w.T} (hi:XE.P.info? t=some i) (hz:i.zero=some z) (hw:tyG XE.P 8 t=some w) (hsz:w.size=i.size)
  (hk:hget s.H zz=some k) (hle:oo+w.size≤k.cells.length) (hr:Rep (s.NN st) s.H w y ((k.cells.drop oo).take w.size)) (hf:Qfw z (Q4i w (Q1y st w y))=true) (hs:StR s) (hK:KOk s r KV KE Q) (h:KV (Q4i w (Q1y st w y)) s.L=some r) :
  ∃ q,(Q1 (XE.P.info? t) fun i=>match XE.P.underlying t with
   | some (.struct _) | some (.array _ _)=>Q1 (Qx s.H ⟨zz,oo,none⟩ i.size) fun l=>match i.zero with
    | some z=>Qa3 z (.agg l.toArray) fun u=>KE u s.H
    | none=>none
   | some _=>Q1 (Q2f s.H ⟨zz,oo,none⟩) fun u=>match i.zero with
    | some z=>Qa2 z u fun u=>KE u s.H
    | none=>none
   | none=>none)=some q∧Q q:=by
 have hlen:=Rep.len _ hr
 rw [hi];simp only [Q1]
 rcases Qal hw with ⟨d,a,b,hu,hd,rfl⟩ | ⟨d,hu,hd1,hd2,hnp⟩
 ·have hld:Qx s.H ⟨zz,oo,none⟩ i.size=some ((k.cells.drop oo).take i.size):=by
   unfold Qx;simp only [hk,Q1]
   have:Nat.ble (oo+i.size) k.cells.length=true:=Nat.ble_eq_true_of_le (by omega)
   rw [this]
  rw [hsz] at hr
  have ha:AR s (Q4i (.pair a b) (Q1y st (.pair a b) y)) (.agg ((k.cells.drop oo).take i.size).toArray):=Q8n (t:=.pair a b) rfl hr
  rcases hd with ⟨fs,rfl⟩ | ⟨n,e,rfl⟩
  ·rw [hu]
   simp only [hld,hz]
   rw [Q37 ha hf]
   exact hK.here hs (ER.of ha) h
  ·rw [hu]
   simp only [hld,hz]
   rw [Q37 ha hf]
   exact hK.here hs (ER.of ha) h
 ·have hone:w.size=1:=by cases w<;>first | rfl | exact absurd rfl (hnp _ _)
  obtain ⟨u,hu1⟩:∃ u,(k.cells.drop oo).take w.size=[u]:=by
   match hc:(k.cells.drop oo).take w.size with
   | [u]=>exact ⟨u,rfl⟩
   | []=>rw [hc] at hlen;simp at hlen;omega
   | _::_::_=>rw [hc] at hlen;simp at hlen;omega
  have hld:Q2f s.H ⟨zz,oo,none⟩=some u:=by
   unfold Q2f;simp only [hk,Q1]
   have:((k.cells.drop oo).take w.size)[0]? = some u:=by rw [hu1];rfl
   rw [List.getElem?_take_of_lt (by omega),Zp] at this;simpa using this
  have ha:AR s (Q4i w (Q1y st w y)) u:=by
   refine Q8n (cs:=[u]) ?_ (by rw [← hu1];exact hr)
   cases w<;>first | rfl | exact absurd rfl (hnp _ _)
  have hv:Qa2 z u (fun u=>KE u s.H)=KE u s.H:=by
   refine Q64 ha ?_ _
   have hna:∀ cs,Q4i w (Q1y st w y)≠.agg cs:=by
    intro cs;cases w<;>first | exact absurd rfl (hnp _ _) | (simp [Q4i,Q1y])
   unfold Qfw at hf;split at hf
   ·rename_i e1;exact absurd e1 (hna _)
   ·simp at hf
   ·exact hf
  rw [hu]
  cases d<;>first | exact absurd rfl (hd1 _) | exact absurd rfl (hd2 _ _) | (simp only [hld,hz];rw [hv];exact hK.here hs (ER.of ha) h)
theorem Qwj {z:Nat} (h:s.N z):s.NN s.L.clk z:=S.NN_clk h
theorem Qqk {δ:Type} {b ver:Nat} {u:Ty} {xs:List (List u.T)}:∀ (n i:Nat) (K:List PV→Option δ),aggK b ver u xs i n K=Q1 (Qww b ver u xs i n) K
 | 0,i,K=>rfl
 | n+1,i,K=>by
  simp only [aggK,Qww]
  cases xs[i]? with
  | none=>rfl
  | some x =>
   simp only [Q1]
   rw [Qqk n (i+1)]
   cases Qww b ver u xs (i+1) n<;>rfl
theorem Qlq {b ver:Nat} {rw':Bool} {u:Ty} {xs:List (List u.T)} {ho:Option Nat} {m:MB} {k:Blk} (hlb:b < s.L.bl.length) (hb:Qi s.L b=some ⟨ver,rw',.rows u xs ho⟩) (hfl:u.flat=true) (hm:s.μ b=some m) (hk:hget s.H m.z=some k) (hsh:m.sh=0)
  (hr:∀ i (hi:i < xs.length),∃ v,k.cells[i]? = some v∧Q9z (fun z=>s.Kid z=some (b,i)) s.H s.lim u xs[i] v):∀ {n i:Nat} {l:List PV},Qww b ver u xs i n=some l→(n=0∨i+n≤xs.length)∧LRs s l ((k.cells.drop i).take n)
 | 0,i,l,h=>by
  simp [Qww] at h;subst h
  exact ⟨.inl rfl,by simp [LRs,Qw]⟩
 | n+1,i,l,h=>by
  simp only [Qww] at h
  replace h:=ob h;obtain ⟨x,h1,h⟩:=h
  replace h:=ob h;obtain ⟨l',h2,h⟩:=h
  simp at h;subst h
  obtain ⟨hi,ei⟩:=Z0 h1
  obtain ⟨g1,g2⟩:=Qlq hlb hb hfl hm hk hsh hr h2
  obtain ⟨v,q1,q2⟩:=hr i hi
  rw [ei] at q2
  obtain ⟨hci,eci⟩:=Z0 q1
  refine ⟨.inr (by omega),?_⟩
  rw [List.drop_eq_getElem_cons hci,eci,List.take_succ_cons]
  refine ⟨⟨hlb,q2.sl,fun B hB=>?_⟩,g2⟩
  rw [hb] at hB;injection hB with hB;subst hB
  refine ⟨Zd _,fun _=>⟨hfl,q2,?_⟩⟩
  intro B2 e2 xs2 hh2 m2 k2 f1 f2 f3 f4 y gy
  rw [hb] at f1;injection f1 with f1;subst f1
  injection f2 with f21 f22 f23
  subst f21
  replace f22:=eq_of_heq f22;subst f22
  rw [hm] at f3;injection f3 with f3;subst f3
  rw [hk] at f4;injection f4 with f4;subst f4
  rw [h1] at gy;injection gy with gy;subst gy
  refine ⟨Zd _,fun _=>?_⟩
  rw [hsh,Zo];exact q1
theorem Qtb {t:TypeId} {a:Operand} (hP:X.P=XE.P) (ho:o.op=.load t a) (hs:StR s) (he:Q25 s env e) (hK:KOk s r KV KE Q) (h:vop X o env s.L KV=some r):∃ y,Q38 XE o e s.H KE=some y∧Q y:=by
 simp only [vop,ho] at h;simp only [Q38,ho]
 split at h
 ·rename_i v hg
  unfold Quy at hg
  split at hg
  ·rename_i w hw
   rw [← hP,hw]
   exact hK v w s (Keep.refl s) hs (Qr2 hg).1 h
  ·simp at hg
 replace h:=ob h;obtain ⟨p,h1,h⟩:=h
 replace h:=ob h;obtain ⟨i,h2,h⟩:=h
 replace h:=ob h;obtain ⟨z,h3,h⟩:=h
 obtain ⟨v,e1,r1⟩:=Q01 he h1
 rw [Q7y e1]
 rw [e1];simp only [Q1]
 rw [hP] at h2
 split at h
 ·simp at h
 ·rename_i d hu
  split at h
  ·rename_i st u x
   replace h:=ob h;obtain ⟨w,h4,h⟩:=h
   replace h:=ob h;obtain ⟨y,h5,h⟩:=h
   split at h
   ·rename_i hf hsz
    have e5:=Qp h5;subst e5
    have:=Qg h5;subst this
    obtain ⟨zz,oo,k,rfl,hn,hk,hl,hr⟩:=r1
    simp only [Q5c]
    rw [hP] at h4
    exact Q6j h2 h3 h4 (Z7 hsz) hk hl hr hf hs hK h
   ·simp at h
  ·rename_i b j fo
   split at h
   ·rename_i ver rw u xs hb
    replace h:=ob h;obtain ⟨w,h4,h⟩:=h
    replace h:=ob h;obtain ⟨x,h5,h⟩:=h
    replace h:=ob h;obtain ⟨y,h6,h⟩:=h
    split at h
    ·rename_i hf hsz
     obtain ⟨hlb,m,hm,rfl⟩:=r1
     simp only [Q5c]
     rw [hP] at h4
     obtain ⟨a1,a2,k,a3,a4,a5,a6,a7⟩:=Q0k hs hb hm
     obtain ⟨hj,ej⟩:=Z0 h5
     have hrep:=a5 j hj
     rw [ej] at hrep
     obtain ⟨g1,g2⟩:=Qkf _ _ h6 hrep
     have hm2:=Q1m (k:=u.size) hj
     refine Q6j (st:=s.L.clk) (zz:=m.z) (oo:=m.sh+j*m.es+fo) h2 h3 h4 (Z7 hsz) a3 (by rw [a1];omega) ?_ hf hs hK h
     have:(((k.cells.drop (m.sh+j*u.size)).take u.size).drop fo).take w.size=(k.cells.drop (m.sh+j*m.es+fo)).take w.size:=by
      rw [List.drop_take,List.take_take,Nat.min_eq_left (by omega),List.drop_drop,a1]
     rw [this] at g1
     exact Rep.mono (fun z hz=>Qwj hz) w g1
    ·simp at h
   ·rename_i ver u xs hb
    replace h:=ob h;obtain ⟨w,h4,h⟩:=h
    replace h:=ob h;obtain ⟨x,h5,h⟩:=h
    split at h
    ·rename_i hf hsz
     simp only [Z8] at hsz
     have hfo:=Z7 hsz.1
     subst hfo
     have hw:=Ty.beq_eq hsz.2
     subst hw
     obtain ⟨hlb,m,hm,rfl⟩:=r1
     simp only [Q5c]
     rw [hP] at h4 hu
     obtain ⟨hj,ej⟩:=Z0 h5
     obtain ⟨_,hfl,⟨hm0,rfl⟩ | ⟨m',k,hm',a1,a2,a3,a4,a5,a6,a7⟩⟩:=Q09 hs hb
     ·simp at hj
     rw [hm] at hm';injection hm' with hm';subst hm'
     obtain ⟨v,q1,q2⟩:=a7 j hj (by simp)
     rw [ej] at q2
     have hld:Q2f s.H ⟨m.z,m.sh+j*m.es+0,none⟩=some v:=by
      unfold Q2f;simp only [a3,Q1,a1,Nat.mul_one,Nat.add_zero];exact q1
     have whole:Qv0 s b j x.length v:=by
      intro B2 e2 xs2 hh2 m2 k2 g1 g2 g3 g4 y gy
      rw [hb] at g1;injection g1 with g1;subst g1
      injection g2 with g21 g22 g23
      subst g21
      replace g22:=eq_of_heq g22;subst g22
      rw [hm] at g3;injection g3 with g3;subst g3
      rw [a3] at g4;injection g4 with g4;subst g4
      rw [h5] at gy;injection gy with gy;subst gy
      refine ⟨Zd _,fun _=>?_⟩
      exact q1
     have hrw:LR0 s (.rw b j ver u x) v:=⟨hlb,q2.sl,fun B hB=>by rw [hb] at hB;injection hB with hB;subst hB;exact ⟨Zd _,fun _=>⟨hfl,q2,whole⟩⟩⟩
     have hv:Qa2 z v (fun u=>KE u s.H)=KE v s.H:=by
      refine Q64 (AR.of hrw) ?_ _
      unfold Qfw at hf;split at hf
      ·rename_i e1;simp at e1
      ·simp at hf
      ·exact hf
     rcases Qal h4 with ⟨d',a,b',hu',hd,e⟩ | ⟨d',hu',hd1,hd2,_⟩
     ·simp at e
     ·rw [h2,hu'];simp only [Q1]
      cases d'<;>first | exact absurd rfl (hd1 _) | exact absurd rfl (hd2 _ _) | (simp only [hld,h3];rw [hv];exact hK.here hs (ER.of0 hrw) h)
    ·simp at h
   ·simp at h
  ·rename_i b ver u x
   split at h
   ·rename_i v' t' xs' h' hb
    split at h
    ·rename_i hv
     have hv:=Z7 hv
     replace h:=ob h;obtain ⟨w,h4,h⟩:=h
     replace h:=ob h;obtain ⟨y,h7,h⟩:=h
     split at h
     ·rename_i hf hsz
      simp only [Z8] at hsz
      have e7:=Qp h7;subst e7
      have:=Qg h7;subst this
      obtain ⟨hlb,⟨z0,o0,rfl⟩,hval⟩:=r1
      obtain ⟨z',o',k,j,e1,g1,g2,g3,g4⟩:=(hval _ hb).2 hv
      injection e1 with e1;injection e1 with e1;injection e1 with e1 e2 _;subst e1 e2
      simp only [Q5c]
      rw [hP] at h4
      exact Q6j (st:=s.L.clk) h2 h3 h4 (Z7 hsz.1) g2 (by omega) (Rep.flat u hsz.2 g4) hf hs hK h
     ·simp at h
    ·simp at h
   ·simp at h
  ·rename_i b off
   split at h
   ·rename_i ver rw cs hb
    obtain ⟨hlb,m,hm,hsh,rfl⟩:=r1
    have hB:=hs.blk b _ hb
    unfold BR at hB;simp only at hB
    obtain ⟨_,m',k,hm',_,hk,hcs,hro,hlim⟩:=hB
    rw [hm] at hm';injection hm' with hm';subst hm'
    have hl:=Qw.length hcs
    simp only [Q5c,h2,Q1]
    rw [hP] at hu
    split at h
    ·rename_i fs
     split at h
     ·rename_i hle hf
      have hle:=Zi hle
      rw [hu]
      have hld:Qx s.H ⟨m.z,off,none⟩ i.size=some ((k.cells.drop off).take i.size):=by
       unfold Qx;simp only [hk,Q1]
       have:Nat.ble (off+i.size) k.cells.length=true:=Nat.ble_eq_true_of_le (by omega)
       rw [this]
      simp only [hld,h3]
      have ha:AR s (.agg ((cs.drop off).take i.size)) (.agg ((k.cells.drop off).take i.size).toArray):=⟨_,rfl,Qw.take _ (Qw.drop _ hcs)⟩
      rw [Q37 ha hf]
      exact hK.here hs (ER.of ha) h
     ·simp at h
    ·rename_i nn ee
     split at h
     ·rename_i hle hf
      have hle:=Zi hle
      rw [hu]
      have hld:Qx s.H ⟨m.z,off,none⟩ i.size=some ((k.cells.drop off).take i.size):=by
       unfold Qx;simp only [hk,Q1]
       have:Nat.ble (off+i.size) k.cells.length=true:=Nat.ble_eq_true_of_le (by omega)
       rw [this]
      simp only [hld,h3]
      have ha:AR s (.agg ((cs.drop off).take i.size)) (.agg ((k.cells.drop off).take i.size).toArray):=⟨_,rfl,Qw.take _ (Qw.drop _ hcs)⟩
      rw [Q37 ha hf]
      exact hK.here hs (ER.of ha) h
     ·simp at h
    ·rename_i hd2 hd
     replace h:=ob h;obtain ⟨u,h5,h⟩:=h
     split at h
     ·rename_i hf
      obtain ⟨w,g1,g2⟩:=Qw.get _ hcs h5
      have hld:Q2f s.H ⟨m.z,off,none⟩=some w:=by
       unfold Q2f;simp only [hk,Q1];exact g1
      have hv:Qa2 z w (fun u=>KE u s.H)=KE w s.H:=Q64 (AR.of g2) hf _
      rw [hu]
      cases d<;>first | exact absurd rfl (hd2 _) | exact absurd rfl (hd _ _) | (simp only [hld,h3];rw [hv];exact hK.here hs (ER.of0 g2) h)
     ·simp at h
   ·rename_i ver u xs hb
    split at h
    ·rename_i n ee
     rw [Qqk] at h
     replace h:=ob h;obtain ⟨l,h4,h⟩:=h
     split at h
     ·rename_i hf hc
      simp only [Z8] at hc
      have ho:=Z7 hc.1
      have hsz:=Z7 hc.2
      subst ho
      obtain ⟨hlb,m,hm,hsh,rfl⟩:=r1
      obtain ⟨_,hfl,hrow⟩:=Q09 hs hb
      simp only [Q5c,h2,Q1]
      rw [hP] at hu
      rw [hu]
      rcases hrow with ⟨hm0,_⟩ | ⟨m',k,hm',a1,a2,a3,a4,a5,a6,a7⟩
      ·rw [hm] at hm0;simp at hm0
      rw [hm] at hm';injection hm' with hm';subst hm'
      rw [hsh] at a4 a7
      obtain ⟨hn,hll⟩:=Qlq hlb hb hfl hm a3 hsh (fun i hi=>by have:=a7 i hi (by simp);rw [Zo] at this;exact this) h4
      have hle:n≤k.cells.length:=by
       have:=a4.1;omega
      have hld:Qx s.H ⟨m.z,0,none⟩ i.size=some (k.cells.take i.size):=by
       unfold Qx;simp only [a3,Q1]
       have:Nat.ble (0+i.size) k.cells.length=true:=Nat.ble_eq_true_of_le (by omega)
       rw [this];simp
      simp only [hld,h3]
      have ha:AR s (.agg l) (.agg (k.cells.take i.size).toArray):=⟨_,rfl,by rw [hsz];simpa using hll⟩
      rw [Q37 ha hf]
      exact hK.here hs (ER.of ha) h
     ·simp at h
    ·simp at h
   ·simp at h
  ·rename_i b off n u k0
   split at h
   ·rename_i ver rw' cs hb
    replace h:=ob h;obtain ⟨w,h4,h⟩:=h
    replace h:=ob h;obtain ⟨xs,h5,h⟩:=h
    replace h:=ob h;obtain ⟨x,h6,h⟩:=h
    replace h:=ob h;obtain ⟨y,h7,h⟩:=h
    split at h
    ·rename_i hf hsz
     simp only [Z8] at hsz
     have e7:=Qp h7;subst e7
     have:=Qg h7;subst this
     obtain ⟨hlb,m,hm,hsh,rfl⟩:=r1
     simp only [Q5c]
     rw [hP] at h4
     have hB:=hs.blk b _ hb
     unfold BR at hB;simp only at hB
     obtain ⟨_,m',k,hm',_,hk,hcs,hro,hlim⟩:=hB
     rw [hm] at hm';injection hm' with hm';subst hm'
     obtain ⟨g1,g2,g3⟩:=Q8m hs u (Qw.drop off hcs) h5
     obtain ⟨hk0,ek⟩:=Z0 h6
     have hrep:=g3 k0 hk0
     rw [ek,List.drop_drop] at hrep
     have hm2:=Q1m (k:=u.size) hk0
     rw [g1] at hm2
     simp only [List.length_drop] at g2
     have hpos:=Ty.size_pos u
     exact Q6j (st:=s.L.clk) h2 h3 h4 (Z7 hsz.1) hk (by omega) (Rep.flat u hsz.2 hrep) hf hs hK h
    ·simp at h
   ·simp at h
  ·simp at h
end
section
variable {A:AnnV} {β γ:Type} {s:S} {env:Q0n} {e:Env} {X:CxV A β} {XE:Cx} {o:Oper} {KV:PV→LS→Option β} {KE:Value→Heap→Option γ} {r:β} {Q:γ→Prop}
theorem KOk.keep {s':S} (hk:Keep s s') (hK:KOk s r KV KE Q):KOk s' r KV KE Q:=fun pv v t hk'=>hK pv v t (hk.trans hk')
theorem Qdl (hs:StR s) {cs:List PV} {vs:List Value} (hr:LRs s cs vs):∃ s',s'.L=Qv s.L (.cells cs)∧s'.H=Q0d s.H vs∧Keep s s'∧StR s'∧LR0 s' (.ptr s.L.bl.length 0) (.pointer (some ⟨s.H.length,0,none⟩)):=by
 obtain ⟨s',e1,e2,e3,hk,hs'⟩:=hs.push (.cells cs) vs ⟨s.H.length,0,0,0⟩ rfl (fun s' hk hm hg hN=>by
  unfold BR;simp only
  exact ⟨trivial,_,_,hm,rfl,hg,hk.LRs hr,rfl,by rw [hk.lim];exact hs.limH⟩)
 exact ⟨s',e1,e2,hk,hs',by rw [e1,Qk];omega,_,e3,rfl,rfl⟩
theorem Q3z (hs:StR s) {t:Ty} {xs:List t.T} {cells:List Value} (hr:RL s.N s.H t xs cells):∃ s',s'.L=Qv s.L (.arr t xs)∧s'.H=Q0d s.H cells∧Keep s s'∧StR s'∧LR0 s' (.osl s.L.bl.length 0 none) (.slice (some ⟨s.H.length,0,none⟩) xs.length t.size):=by
 obtain ⟨s',e1,e2,e3,hk,hs'⟩:=hs.push (.arr t xs) cells ⟨s.H.length,0,t.size,xs.length⟩ rfl (fun s' hk hm hg hN=>by
  unfold BR;simp only [hm]
  refine ⟨trivial,trivial,_,hg,⟨by simp [hr.1],fun v hv=>hr.plain v (by simpa using hv)⟩,fun i hi=>?_,fun _=>⟨rfl,by rw [hk.lim];exact hs.limH⟩,fun e=>absurd e (by decide)⟩
  have:=hk.repN (hr.2 i hi)
  unfold seg at this;rw [Zo];exact this)
 refine ⟨s',e1,e2,hk,hs',by rw [e1,Qk];omega,?_⟩
 rw [e3];simp
theorem Qn9 (hs:StR s) {t:Ty} (hf:t.flat=true) (n:Nat):∃ s',s'.L=Qv s.L (.rows t (List.replicate n []) none)∧s'.H=Q0d s.H (List.replicate n (.slice none 0 0))∧Keep s s'∧StR s'∧LR0 s' (.osl s.L.bl.length 0 none) (.slice (some ⟨s.H.length,0,none⟩) n 1):=by
 obtain ⟨s',e1,e2,e3,hk,hs'⟩:=hs.push (.rows t (List.replicate n []) none) (List.replicate n (.slice none 0 0)) ⟨s.H.length,0,1,n⟩ rfl (fun s' hk hm hg hN=>by
  unfold BR;simp only [hm]
  refine ⟨trivial,hf,trivial,by simp,_,hg,⟨by simp,fun v hv=>?_⟩,rfl,by rw [hk.lim];exact hs.limH,fun i hi _=>?_⟩
  ·have:=List.mem_of_mem_drop hv
   rw [List.mem_replicate] at this;rw [this.2];simp [Qa]
  ·simp at hi
   exact ⟨.slice none 0 0,by simp [hi],.inl ⟨by simp,rfl⟩⟩)
 refine ⟨s',e1,e2,hk,hs',by rw [e1,Qk];omega,?_⟩
 rw [e3];simp
theorem Qna (hs:StR s) {t:Ty} (hf:t.flat=true) (n:Nat):∃ s',s'.L=Qv s.L (.rows t (List.replicate n []) none)∧s'.H=Q0d s.H (List.replicate n (.slice none 0 0))∧Keep s s'∧StR s'∧LR0 s' (.ptr s.L.bl.length 0) (.pointer (some ⟨s.H.length,0,none⟩)):=by
 obtain ⟨s',e1,e2,e3,hk,hs'⟩:=hs.push (.rows t (List.replicate n []) none) (List.replicate n (.slice none 0 0)) ⟨s.H.length,0,1,n⟩ rfl (fun s' hk hm hg hN=>by
  unfold BR;simp only [hm]
  refine ⟨trivial,hf,trivial,by simp,_,hg,⟨by simp,fun v hv=>?_⟩,rfl,by rw [hk.lim];exact hs.limH,fun i hi _=>?_⟩
  ·have:=List.mem_of_mem_drop hv
   rw [List.mem_replicate] at this;rw [this.2];simp [Qa]
  ·simp at hi
   exact ⟨.slice none 0 0,by simp [hi],.inl ⟨by simp,rfl⟩⟩)
 exact ⟨s',e1,e2,hk,hs',by rw [e1,Qk];omega,_,e3,rfl,rfl⟩
theorem Qlr:∀ {n:Nat} {l:List Value},Qni n l=true→l=List.replicate n (.slice none 0 0)
 | 0,[],_=>rfl
 | 0,_::_,h=>by simp [Qni] at h
 | n+1,[],h=>by simp [Qni] at h
 | n+1,v::r,h=>by
  unfold Qni at h
  split at h
  ·simp_all
  ·rename_i heq1 heq2
   injection heq1 with heq1
   injection heq2 with e1 e2
   subst e1 e2 heq1
   rw [List.replicate_succ,Qlr h]
  ·simp at h
theorem Qk2 {P:Program} {t:TypeId} {n:Nat} {u:Ty} (h:Qqt P t=some (n,u)):u.flat=true:=by
 unfold Qqt at h
 split at h
 ·split at h
  ·split at h
   ·rename_i hf
    simp only [Option.some.injEq,Prod.mk.injEq] at h
    obtain ⟨_,rfl⟩:=h;exact hf
   ·simp at h
  ·simp at h
 ·simp at h
theorem Qie {z:Value} {t:Ty} (h:Qc6 z (.sl t)=true):z.cells.toList=[.slice none 0 0]:=by
 unfold Qc6 at h
 split at h
 ·rename_i l hl
  unfold goZ at h
  split at h
  ·match hc:z.cells.toList,hl with
   | [],hl=>simp [Qns] at hl
   | [v],hl =>
    simp only [Qns] at hl
    obtain ⟨x,h1,h2⟩:=ob hl
    simp only [Q1] at h2
    simp at h2;subst h2
    unfold Qzg at h1
    split at h1<;>simp_all
   | v::w::r,hl =>
    simp only [Qns] at hl
    obtain ⟨x,h1,h2⟩:=ob hl
    obtain ⟨y,h3,h4⟩:=ob h2
    obtain ⟨x',h5,h6⟩:=ob h3
    obtain ⟨y',h7,h8⟩:=ob h6
    simp at h4 h8;subst h8;simp at h4
  ·simp at h
 ·simp at h
theorem Qbz {s:S} (hs:StR s) {t:Ty} (hf:t.flat=true) {p:PV} {v:Value} (hr:LR0 s p v) {x:List t.T} {L':LS} (h:Q7d t p s.L=some (x,L')) :
  ∃ s',s'.L=L'∧s'.H=s.H∧s'.μ=s.μ∧Keep s s'∧StR s'∧Q9z (fun z=>s'.Lim z∧¬ s.Lim z) s.H s.lim t x v∧(∀ z,s.Lim z→s'.Lim z)∧(∀ z,Own s' z↔Own s z)∧(∀ z,s'.Lim z→¬ s.Lim z→∃ k,hget s.H z=some k):=by
 unfold Q7d at h
 split at h
 ·simp at h;obtain ⟨rfl,rfl⟩:=h
  obtain rfl:v=_:=hr
  exact ⟨s,rfl,rfl,rfl,Keep.refl s,hs,.inl ⟨rfl,rfl⟩,fun _ h=>h,fun _=>Iff.rfl,fun z h1 h2=>absurd h1 h2⟩
 ·rename_i b off no
  split at h
  ·rename_i ver w xs hb
   split at h
   ·simp at h
   obtain ⟨y,h1,h⟩:=ob h
   simp at h;obtain ⟨rfl,rfl⟩:=h
   obtain ⟨e,hx⟩:=Q0z h1
   injection e with e;subst e
   simp at hx;subst hx
   obtain ⟨s',e1,e2,e3,hk,hs',hl,ho⟩:=hs.kill hb rfl false
   refine ⟨s',e1,e2,e3,hk,hs',?_,fun z hz=>(hl z).2 (.inl hz),ho,fun z h1 h2=>(by
    rcases (hl z).1 h1 with h3 | ⟨m,hm,rfl⟩
    ·exact absurd h3 h2
    ·obtain ⟨_,_,k,g3,_⟩:=Q0k hs hb hm
     exact ⟨k,g3⟩)⟩
   have hr':LR0 s (.osl b off no) v:=hr
   obtain ⟨hlb,hr'⟩:=hr'
   cases hm:s.μ b with
   | none =>
    rw [hm] at hr';obtain ⟨rfl,h5,rfl⟩:=hr'
    have hx:=Q5z hs hb hm
    subst hx
    exact .inl ⟨by cases no<;>simp [cut],rfl⟩
   | some m =>
    rw [hm] at hr'
    obtain ⟨g1,g2,k,g3,g4,g5,g6,g7⟩:=Q0k hs hb hm
    have hfit:=Q3s hs hb hm g3
    obtain ⟨a1,rfl⟩:=hr'
    have hlen:(cut xs off no).length=no.getD (m.n - off):=by
     cases no with
     | none=>simp [cut,g2]
     | some l=>simp [cut] at a1 ⊢;omega
    have hle:off+(cut xs off no).length≤xs.length:=by rw [hlen];omega
    have hget:∀ i (hi:i < (cut xs off no).length),(cut xs off no)[i]=xs[off+i]'(by omega):=by
     intro i hi
     cases no with
     | none=>simp [cut]
     | some l=>simp [cut]
    have hmul:(off+(cut xs off no).length)*w.size≤xs.length*w.size:=Zk _ hle
    rw [Nat.add_mul] at hmul
    refine .inr ⟨m.z,m.sh+off*w.size,k,by rw [hlen,g1],⟨(hl _).2 (.inr ⟨m,hm,rfl⟩),hs.lm b _ m hb hm⟩,g3,(g6 rfl).1,(g6 rfl).2,hfit.sub (by omega),fun i hi=>?_⟩
    rw [hget i hi]
    have:=g5 (off+i) (by omega)
    rw [Nat.add_mul,← Nat.add_assoc] at this
    exact Rep.flat w hf this
  ·rename_i ver w xs hb
   split at h
   ·obtain ⟨y,h1,h⟩:=ob h
    have e:=Qp h1
    injection e with e;subst e
    simp [Ty.flat] at hf
   ·simp at h
  ·simp at h
 ·rename_i b i ver w x'
  split at h
  ·rename_i v' t' xs hb
   split at h
   ·rename_i hv
    have hv:=Z7 hv
    obtain ⟨y,h1,h⟩:=ob h
    simp at h;obtain ⟨rfl,rfl⟩:=h
    obtain ⟨e,hx⟩:=Q0z h1
    injection e with e;subst e
    simp at hx;subst hx
    obtain ⟨_,_,hval⟩:LR0 s (.rw b i ver w x') v:=hr
    obtain ⟨r1,r2,_⟩:=(hval _ hb).2 hv
    rcases r2 with ⟨rfl,rfl⟩ | ⟨z,o,k,rfl,q1,q2,q3⟩
    ·obtain ⟨s',e1,e2,e3,hk,hs',hl,ho⟩:=hs.detach (i:=i) hb none (fun z h=>by simp at h)
     exact ⟨s',e1,e2,e3,hk,hs',.inl ⟨rfl,rfl⟩,fun z hz=>(hl z).2 (.inl hz),ho,fun z h1 h2=>(by
      rcases (hl z).1 h1 with h3 | h3
      ·exact absurd h3 h2
      ·simp at h3)⟩
    ·obtain ⟨s',e1,e2,e3,hk,hs',hl,ho⟩:=hs.detach (i:=i) hb (some z) (fun y h=>by injection h with h;subst h;exact q1)
     exact ⟨s',e1,e2,e3,hk,hs',.inr ⟨z,o,k,rfl,⟨(hl z).2 (.inr rfl),(hs.kl z _ q1).2.2.1⟩,q2,q3⟩,fun z hz=>(hl z).2 (.inl hz),ho,fun y h1 h2=>(by
      rcases (hl y).1 h1 with h3 | h3
      ·exact absurd h3 h2
      ·injection h3 with h3;subst h3;exact ⟨k,q2⟩)⟩
   ·simp at h
  ·simp at h
 ·simp at h
theorem Qql {t:TypeId} (hP:X.P=XE.P) (ho:o.op=.alloc t) (hs:StR s) (he:Q25 s env e) (hK:KOk s r KV KE Q) (h:vop X o env s.L KV=some r):∃ y,Q38 XE o e s.H KE=some y∧Q y:=by
 simp only [vop,ho] at h;simp only [Q38,ho]
 replace h:=ob h;obtain ⟨z,h1,h⟩:=h
 split at h
 ·rename_i n u hown hty
  split at h
  ·rename_i hz
   have hz:=Qlr hz
   obtain ⟨s',e1,e2,hk,hs',hr⟩:=Qna hs (Qk2 hty) n
   have hno:(List.replicate n (Value.slice none 0 0)).all Qt=true:=by
    rw [List.all_eq_true];intro v hv;rw [List.mem_replicate] at hv;rw [hv.2];rfl
   rw [← hP,h1];simp only [Q1]
   rw [hz]
   rw [← e1] at h
   rw [hno,← e2]
   exact hK _ _ s' hk hs' (ER.of0 hr) h
  ·simp at h
 replace h:=ob h;obtain ⟨cs,h2,h⟩:=h
 obtain ⟨a1,a2⟩:=Q6l (s:=s) h2
 rw [← hP,h1];simp only [Q1,a2]
 obtain ⟨s',e1,e2,hk,hs',hr⟩:=Qdl hs a1
 rw [← e2];rw [← e1] at h
 exact hK _ _ s' hk hs' (ER.of0 hr) h
theorem Qwk {t:TypeId} {x:Operand} (ho:o.op=.box t x) (hs:StR s) (he:Q25 s env e) (hK:KOk s r KV KE Q) (h:vop X o env s.L KV=some r):∃ y,Q38 XE o e s.H KE=some y∧Q y:=by
 simp only [vop,ho] at h;simp only [Q38,ho]
 replace h:=ob h;obtain ⟨p,h1,h⟩:=h
 obtain ⟨v,ev1,r1⟩:=Q01 he h1
 rw [ev1];simp only [Q1]
 split at h
 ·rename_i hok
  have hc:=r1.cells hok
  have:v.cells.toList.all isCell=true:=List.all_eq_true.2 (fun x hx=>LRs.cell hc x hx)
  rw [this]
  obtain ⟨s',e1,e2,hk,hs',hr⟩:=Qdl hs hc
  simp only
  rw [← e2];rw [← e1] at h
  exact hK _ _ s' hk hs' (ER.of0 hr) h
 ·simp at h
theorem Qfl {t:TypeId} {l c:Operand} (hP:X.P=XE.P) (ho:o.op=.makeSlice t l c) (hs:StR s) (he:Q25 s env e) (hK:KOk s r KV KE Q) (h:vop X o env s.L KV=some r):∃ y,Q38 XE o e s.H KE=some y∧Q y:=by
 simp only [vop,ho] at h;simp only [Q38,ho]
 replace h:=ob h;obtain ⟨p,h1,h⟩:=h
 replace h:=ob h;obtain ⟨q,h2,h⟩:=h
 obtain ⟨v,ev1,r1⟩:=Q01 he h1
 obtain ⟨u,ev2,r2⟩:=Q01 he h2
 rw [ev1,ev2];simp only [Q1]
 refine Qfg r1 h (fun n h=>Qfg r2 h (fun m h=>?_))
 replace h:=ob h;obtain ⟨⟨el,size,bytes,z⟩,h3,h⟩:=h
 replace h:=ob h;obtain ⟨w,h4,h⟩:=h
 rw [← hP,h3];simp only [Q1]
 split at h
 ·rename_i hz hsz
  have hsz:=Z7 hsz
  unfold oif at h ⊢
  split at h
  ·rename_i hc
   rw [hc]
   split at h
   ·rename_i hown t'
    split at h
    ·rename_i hfl
     obtain ⟨s',e1,e2,hk,hs',hr⟩:=Qn9 hs hfl n
     simp only
     have hz2:=Qie hz
     have hcells:(List.replicate n z.cells.toList).flatten=List.replicate n (.slice none 0 0):=by
      rw [hz2];induction n with
      | zero=>rfl
      | succ n ih=>rw [List.replicate_succ,Ze,List.replicate_succ];simp at ih ⊢
     have hsz':(1:Nat)=size:=hsz
     rw [hcells,← e2];rw [← e1] at h
     rw [← hsz']
     exact hK _ _ s' hk hs' (ER.of0 hr) h
    ·simp at h
   ·obtain ⟨s',e1,e2,hk,hs',hr⟩:=Q3z hs (RL.rep (N:=s.N) (H:=s.H) n (Q9g s hz))
    simp only
    rw [← e2];rw [← e1] at h
    refine hK _ _ s' hk hs' (ER.of0 ?_) h
    rw [List.length_replicate,hsz] at hr;exact hr
  ·simp at h
 ·simp at h
theorem Q2p {H:Heap} {lim z o:Nat} {k:Blk} {vs:List Value} (hk:hget H z=some k) (hro:k.ro=false) (hc:∀ v∈vs,isCell v=true) (hl:lim≤z) (hle:o+vs.length≤k.cells.length) :
  Q1u H lim ⟨z,o,none⟩ vs=some (H.set z (some ⟨lay k.cells o vs,false,k.mp⟩)):=by
 unfold Q1u
 simp only [hk,Q1]
 have h1:vs.all isCell=true:=List.all_eq_true.2 hc
 have h2:Nat.ble lim z=true:=Nat.ble_eq_true_of_le hl
 have h3:Nat.ble (o+vs.length) k.cells.length=true:=Nat.ble_eq_true_of_le hle
 obtain ⟨kc,kr,km⟩:=k
 simp only at hro;subst hro
 simp only at h3
 simp only [h1,h2,h3,Bool.or_true]
 rfl
theorem Qif {mp:Option (List (Int×Int))} (hs:StR s) {b ver:Nat} {cs cs':List PV} (hb:Qi s.L b=some ⟨ver,true,.cells cs⟩) {m:MB} (hm:s.μ b=some m) {vs':List Value} (hr:LRs s cs' vs') :
  ∃ s',s'.L=Q2h s.L b ⟨ver+1,true,.cells cs'⟩∧s'.H=s.H.set m.z (some ⟨vs',false,mp⟩)∧s'.μ=s.μ∧Keep s s'∧StR s':=by
 have hB:=hs.blk b _ hb
 unfold BR at hB;simp only at hB
 obtain ⟨_,m',k,hm',hsh,hk,hcs,hro,hlim⟩:=hB
 rw [hm] at hm';injection hm' with hm';subst hm'
 exact hs.set hb rfl hm ⟨ver+1,true,.cells cs'⟩ rfl rfl ⟨vs',false,mp⟩ (fun s' hk' hm' hg hN=>by
  unfold BR;simp only
  exact ⟨trivial,m,_,hm',hsh,hg,hk'.LRs hr,rfl,by rw [hk'.lim];exact hlim⟩)
theorem Qqm (hs:StR s) {b ver:Nat} {t:Ty} {xs xs':List t.T} (hb:Qi s.L b=some ⟨ver,true,.arr t xs⟩) {m:MB} (hm:s.μ b=some m) {cells':List Value} {k:Blk} (hk:hget s.H m.z=some k) (hl:xs'.length=xs.length)
  (hfit:Fit m.sh (xs'.length*t.size) cells') (hr:RL s.N s.H t xs' ((cells'.drop m.sh).take (xs'.length*t.size))) :
  ∃ s',s'.L=Q2h s.L b ⟨ver+1,true,.arr t xs'⟩∧s'.H=s.H.set m.z (some ⟨cells',false,k.mp⟩)∧s'.μ=s.μ∧Keep s s'∧StR s':=by
 obtain ⟨a1,a2,k',a3,a4,a5,a6,a7⟩:=Q0k hs hb hm
 rw [hk] at a3;injection a3 with a3;subst a3
 exact hs.set hb rfl hm ⟨ver+1,true,.arr t xs'⟩ rfl rfl ⟨cells',false,k.mp⟩ (fun s' hk' hm' hg hN=>by
  unfold BR;simp only [hm']
  refine ⟨a1,by omega,_,hg,hfit,fun i hi=>?_,fun _=>⟨rfl,by rw [hk'.lim];exact (a6 rfl).2⟩,fun e=>absurd e (by decide)⟩
  have:=hk'.repN (hr.2 i hi)
  have hmi:=Q1m (k:=t.size) hi
  unfold seg at this;rw [List.drop_take,List.take_take,Nat.min_eq_left (by omega),List.drop_drop] at this;exact this)
theorem Qig {N:Nat→Prop} {H:Heap} (u:Ty):∀ (n:Nat) (hn:0 < n) {xs:List u.T} {cells:List Value} {p:(Qii n u).T},xs.length=n→RL N H u xs cells→Qtg n u xs=some p→Rep N H (Qii n u) p cells
 | 1,_,[x],cells,p,hl,hr,h=>by
  obtain rfl:x=p:=Option.some.inj h
  have:=hr.2 0 (by simp)
  have hl:=hr.1
  simp only [List.length_singleton,Nat.one_mul] at hl
  simp only [List.getElem_cons_zero,Nat.zero_mul] at this
  have e:seg cells 0 u.size=cells:=by unfold seg;rw [List.drop_zero,Zs (by omega)]
  rw [e] at this;exact this
 | n+2,_,x::r,cells,p,hl,hr,h=>by
  simp only [Qtg] at h
  obtain ⟨y,h1,h⟩:=ob h
  obtain rfl:(x,y)=p:=Option.some.inj h
  have h0:=hr.2 0 (by simp)
  simp only [List.getElem_cons_zero,Nat.zero_mul] at h0
  have hd:RL N H u r (cells.drop u.size):=by have:=hr.drop 1 (by simp);rw [Nat.one_mul] at this;exact this
  have:=Qig u (n+1) (by omega) (by simpa using hl) hd h1
  refine Rep.pairMk ?_ this
  unfold seg at h0;simpa using h0
 | 1,_,[],_,_,hl,_,_=>by simp at hl
 | 1,_,_::_::_,_,_,hl,_,_=>by simp at hl
 | n+2,_,[],_,_,hl,_,_=>by simp at hl
theorem Qaj (l:List Value) (o:Nat) (v:Value) (h:o < l.length) (i:Nat):(lay l o [v])[i]? = if i=o then some v else l[i]?:=by
 rw [Q1x l o [v] (by simp;omega)]
 by_cases c1:i < o
 ·rw [if_pos c1,if_neg (by omega)]
 ·rw [if_neg c1]
  by_cases c2:i=o
  ·subst c2;simp
  ·rw [if_neg (by simp;omega),if_neg c2]
theorem Qc0 {s:S} (hs:StR s) {b ver j:Nat} {e:Ty} {xs:List (List e.T)} {ho:Option Nat} (hb:Qi s.L b=some ⟨ver,true,.rows e xs ho⟩) {m:MB} (hm:s.μ b=some m) {k:Blk} (hk:hget s.H m.z=some k) (hj:j < xs.length) (hh:ho=none∨ho=some j)
  {y:List e.T} {v:Value} (hr:Q9z (fun z=>s.Lim z∨s.Kid z=some (b,j)) s.H s.lim e y v) (hp:Qa v v=true) :
  ∃ s',s'.L=Q2h s.L b ⟨ver+1,true,.rows e (xs.set j y) none⟩∧s'.H=s.H.set m.z (some ⟨lay k.cells (m.sh+j) [v],false,k.mp⟩)∧Keep s s'∧StR s'∧(∀ z,s'.Lim z→s.Lim z):=by
 obtain ⟨_,hfl,⟨hm0,_⟩ | ⟨m',k',hm',a1,a2,a3,a4,a5,a6,a7⟩⟩:=Q09 hs hb
 ·rw [hm] at hm0;simp at hm0
 rw [hm] at hm';injection hm' with hm';subst hm'
 rw [hk] at a3;injection a3 with a3;subst a3
 obtain ⟨inn,hin,hrow⟩:∃ inn:Option (Nat×Nat),(∀ z i,inn=some (z,i)→s.Lim z∧∃ k,hget s.H z=some k)∧∀ (K:Nat→Prop),(∀ z,s.Kid z=some (b,j)→K z)→(∀ z,inn=some (z,j)→K z)→Q9z K s.H s.lim e y v:=by
  rcases hr with ⟨rfl,rfl⟩ | ⟨z,o,k2,h1,h2 | h2,h3⟩
  ·exact ⟨none,fun _ _ h=>by simp at h,fun K _ _=>.inl ⟨rfl,rfl⟩⟩
  ·exact ⟨some (z,j),fun z' i h=>by injection h with h;injection h with h _;subst h;exact ⟨h2,_,h3.1⟩,fun K _ hK=>.inr ⟨z,o,k2,h1,hK z rfl,h3⟩⟩
  ·exact ⟨none,fun _ _ h=>by simp at h,fun K hK _=>.inr ⟨z,o,k2,h1,hK z h2,h3⟩⟩
 have hfit:=a4
 obtain ⟨s',e1,e2,e3,hk',hs',hl⟩:=hs.setR hb rfl hm ⟨ver+1,true,.rows e (xs.set j y) none⟩ rfl rfl ⟨lay k.cells (m.sh+j) [v],false,k.mp⟩ inn hin (fun s' hk' hm' hg hH hkid hinn=>by
  unfold BR;simp only [hm']
  refine ⟨trivial,hfl,a1,by simp [a2],_,hg,?_,rfl,by rw [hk'.lim];exact a6,fun i hi _=>?_⟩
  ·rw [List.length_set];exact hfit.lay (p:=j) (by simp;have:=hfit.1;omega) (fun w hw=>by simp at hw;subst hw;exact hp)
  ·simp only [List.length_set] at hi
   by_cases hij:i=j
   ·subst hij
    refine ⟨v,by rw [Qaj _ _ _ (by have:=hfit.1;omega),if_pos rfl],?_⟩
    simp only [List.getElem_set_self]
    have:=hrow (fun z=>s'.Kid z=some (b,i)∧hget s'.H z=hget s.H z) (fun z hz=>⟨hkid z i hz,hH z (fun e=>hs.kid_ne hz hb hm e.symm)⟩) (fun z hz=>⟨hinn z i hz,hH z (fun e=>hs.lm b _ m hb hm (e▸(hin z i hz).1))⟩)
    rw [hk'.lim]
    exact this.mono hfl (fun z hz=>hz)
   ·obtain ⟨w,q1,q2⟩:=a7 i hi (by rcases hh with rfl | rfl<;>simp;omega)
    refine ⟨w,by rw [Qaj _ _ _ (by have:=hfit.1;omega),if_neg (by omega)];exact q1,?_⟩
    rw [List.getElem_set_ne (by omega),hk'.lim]
    exact q2.mono hfl (fun z hz=>⟨hkid z i hz,hH z (fun e=>hs.kid_ne hz hb hm e.symm)⟩))
 exact ⟨s',e1,e2,hk',hs',fun z hz=>((hl z).1 hz).1⟩
theorem Qdm {s:S}:∀ {n:Nat} {cs:List PV} {vs:List Value},Qdp n cs=true→LRs s cs vs→cs.length=n∧vs=List.replicate n (.slice none 0 0)
 | 0,[],[],_,_=>⟨rfl,rfl⟩
 | 0,[],_::_,_,h=>h.elim
 | 0,_::_,_,h,_=>by simp [Qdp] at h
 | n+1,[],_,h,_=>by simp [Qdp] at h
 | n+1,c::r,[],_,h=>h.elim
 | n+1,c::r,v::vs,h,hr=>by
  unfold Qdp at h
  split at h
  ·simp_all
  ·rename_i heq1 heq2
   injection heq1 with heq1
   injection heq2 with e1 e2
   subst e1 e2 heq1
   obtain ⟨h1,h2⟩:=Qdm h hr.2
   have:v=.slice none 0 0:=hr.1
   rw [this,h2,List.replicate_succ]
   exact ⟨by simp [h1],rfl⟩
  ·simp at h
theorem Qnb {s:S} (hs:StR s) {b ver:Nat} {e:Ty} {xs:List (List e.T)} {ho:Option Nat} (hb:Qi s.L b=some ⟨ver,true,.rows e xs ho⟩) {m:MB} (hm:s.μ b=some m) {k:Blk} (hk:hget s.H m.z=some k) (hsh:m.sh=0) :
  ∃ s',s'.L=Q2h s.L b ⟨ver+1,true,.rows e (List.replicate xs.length []) none⟩∧s'.H=s.H.set m.z (some ⟨lay k.cells 0 (List.replicate xs.length (.slice none 0 0)),false,k.mp⟩)∧Keep s s'∧StR s':=by
 obtain ⟨_,hfl,⟨hm0,_⟩ | ⟨m',k',hm',a1,a2,a3,a4,a5,a6,a7⟩⟩:=Q09 hs hb
 ·rw [hm] at hm0;simp at hm0
 rw [hm] at hm';injection hm' with hm';subst hm'
 rw [hk] at a3;injection a3 with a3;subst a3
 have hfit:=a4
 have hle:xs.length≤k.cells.length:=by have:=hfit.1;omega
 obtain ⟨s',e1,e2,e3,hk',hs',hl⟩:=hs.setR hb rfl hm ⟨ver+1,true,.rows e (List.replicate xs.length []) none⟩ rfl rfl ⟨lay k.cells 0 (List.replicate xs.length (.slice none 0 0)),false,k.mp⟩ none (fun _ _ h=>by simp at h) (fun s' hk' hm' hg hH hkid hinn=>by
  unfold BR;simp only [hm']
  refine ⟨trivial,hfl,a1,by simp [a2],_,hg,?_,rfl,by rw [hk'.lim];exact a6,fun i hi _=>?_⟩
  ·rw [List.length_replicate]
   have:=hfit.lay (p:=0) (d:=List.replicate xs.length (.slice none 0 0)) (by simp;omega) (fun w hw=>by rw [List.mem_replicate] at hw;rw [hw.2];simp [Qa])
   rw [hsh] at this ⊢;exact this
  ·simp only [List.length_replicate] at hi
   refine ⟨.slice none 0 0,?_,.inl ⟨by simp,rfl⟩⟩
   rw [hsh,Zo,Q1x _ _ _ (by simp;omega)]
   simp [hi])
 exact ⟨s',e1,e2,hk',hs'⟩
theorem Qk3 {L:LS} {b ver:Nat} {e:Ty} {xs:List (List e.T)} {ho:Option Nat} (h:Qqs L b=some (ver,⟨e,xs,ho⟩)):Qi L b=some ⟨ver,true,.rows e xs ho⟩:=by
 unfold Qqs at h
 split at h
 ·rename_i hb
  injection h with h;injection h with h1 h2;subst h1
  injection h2 with h2 h3;subst h2
  have h3:=eq_of_heq h3
  injection h3 with h3 h4;subst h3;subst h4;exact hb
 ·simp at h
theorem Qqn {t:TypeId} {a x:Operand} (hP:X.P=XE.P) (hlim:XE.lim=s.lim) (ho:o.op=.store t a x) (hs:StR s) (he:Q25 s env e) (hK:KOk s r KV KE Q) (h:vop X o env s.L KV=some r):∃ y,Q38 XE o e s.H KE=some y∧Q y:=by
 simp only [vop,ho] at h;simp only [Q38,ho]
 replace h:=ob h;obtain ⟨p,h1,h⟩:=h
 replace h:=ob h;obtain ⟨q,h2,h⟩:=h
 replace h:=ob h;obtain ⟨i,h3,h⟩:=h
 obtain ⟨v,ev1,r1⟩:=Q01 he h1
 obtain ⟨u,ev2,r2⟩:=Q01 he h2
 rw [ev1,ev2];simp only [Q1]
 rw [← hP]
 split at h
 ·rename_i hsz
  simp only [Z8] at hsz
  have hc:=r2.cells hsz.2
  have hl:=Qw.length hc
  have hsize:=Z7 hsz.1
  have hbeq:Nat.beq u.cells.size i.size=true:=by
   have:u.cells.size=i.size:=by simp only [Array.length_toList] at hl;omega
   rw [this];exact Nat.beq_refl _
  split at h
  ·rename_i b j fo
   split at h
   ·rename_i ver el xs ho hrows
    have hb:=Qk3 hrows
    split at h
    ·simp at h
    rename_i hfs
    simp only [Z8] at hfs
    have hfo:=Z7 hfs.1
    have hsz1:=Z7 hfs.2
    subst hfo
    obtain ⟨hlb,m,hm,rfl⟩:LR0 s (.ep b j 0) v:=r1
    obtain ⟨_,hfl,hrow⟩:=Q09 hs hb
    simp only [Q5c,h3,Q1,hbeq]
    have hcell:∀ (y:List el.T) (K:Nat→Prop),Q9z K s.H s.lim el y u→u.cells.toList=[u]∧Qa u u=true:=by
     intro y K hr
     rcases hr with ⟨_,rfl⟩ | ⟨_,_,_,rfl,_⟩<;>exact ⟨rfl,by simp [Qa]⟩
    split at h
    ·rename_i b' i' ver' e' x
     split at h
     ·rename_i hbv
      simp only [Z8] at hbv
      have hb1:=Z7 hbv.1
      have hb2:=Z7 hbv.2
      subst hb1;subst hb2
      replace h:=ob h;obtain ⟨x',h4,h⟩:=h
      have e4:=Qp h4;injection e4 with e4;subst e4
      have:=Qg h4;subst this
      unfold oif at h;split at h
      ·rename_i hij
       have hij:=Z7 hij
       subst hij
       replace h:=ob h;obtain ⟨x0,h5,h⟩:=h
       obtain ⟨hj,_⟩:=Z0 h5
       obtain ⟨_,_,hval⟩:LR0 s (.rw b' i' ver' e' x) u:=r2
       obtain ⟨_,q2,_⟩:=(hval _ hb).2 rfl
       obtain ⟨c1,c2⟩:=hcell _ _ q2
       rcases hrow with ⟨hm0,_⟩ | ⟨m',k,hm',a1,a2,a3,a4,a5,a6,a7⟩
       ·rw [hm] at hm0;simp at hm0
       rw [hm] at hm';injection hm' with hm';subst hm'
       obtain ⟨s2,e1,e2,k2,t2,_⟩:=Qc0 hs hb hm a3 hj (.inl rfl) (q2.mono hfl (fun z hz=>⟨.inr hz,rfl⟩)) c2
       have hst:=Q2p (o:=m.sh+i'*m.es+0) (vs:=u.cells.toList) a3 a5 (fun v hv=>LRs.cell hc v hv) a6 (by rw [c1,a1];have:=a4.1;simp;omega)
       rw [hlim,hst,c1]
       rw [a1,Nat.mul_one,Nat.add_zero,← e2];rw [← e1] at h
       exact hK .undef undef s2 k2 t2 rfl h
      ·simp at h
     ·simp at h
    ·replace h:=ob h;obtain ⟨⟨y,L1⟩,h4,h⟩:=h
     have hr2:LR0 s q u:=by
      have h4':=h4
      unfold Q7d at h4'
      split at h4'
      ·exact r2
      ·exact r2
      ·exact r2
      ·simp at h4'
     obtain ⟨s1,l1,g1,u1,k1,t1,q2,lm1,_,_⟩:=Qbz hs hfl hr2 h4
     obtain ⟨c1,c2⟩:=hcell _ _ q2
     simp only at h
     rw [← l1] at h
     split at h
     ·rename_i ver1 e' xs' h' hb1
      replace h:=ob h;obtain ⟨x',h5,h⟩:=h
      have e5:=Qp h5;injection e5 with e5;subst e5
      have:=Qg h5;subst this
      have hhole:(h'=none∨h'=some j)∧(Q1 xs'[j]? fun _=>KV .undef (Q2h s1.L b ⟨ver1+1,true,.rows el (xs'.set j y) none⟩))=some r:=by
       unfold Qux at h;split at h
       ·exact ⟨.inl rfl,h⟩
       ·unfold oif at h;split at h
        ·rename_i hij
         have:=Z7 hij
         subst this
         exact ⟨.inr rfl,h⟩
        ·simp at h
      obtain ⟨hh,h⟩:=hhole
      replace h:=ob h;obtain ⟨x0,h6,h⟩:=h
      obtain ⟨hj,_⟩:=Z0 h6
      obtain ⟨_,_,hrow1⟩:=Q09 t1 hb1
      rcases hrow1 with ⟨hm0,rfl⟩ | ⟨m',k,hm',a1,a2,a3,a4,a5,a6,a7⟩
      ·simp at hj
      rw [u1,hm] at hm';injection hm' with hm';subst hm'
      have q3:Q9z (fun z=>s1.Lim z∨s1.Kid z=some (b,j)) s1.H s1.lim el y u:=by
       rw [k1.lim];exact q2.mono hfl (fun z hz=>⟨.inl hz.1,by rw [g1]⟩)
      obtain ⟨s2,e1,e2,k2,t2,_⟩:=Qc0 t1 hb1 (by rw [u1];exact hm) a3 hj hh q3 c2
      have hst:=Q2p (o:=m.sh+j*m.es+0) (vs:=u.cells.toList) a3 a5 (fun v hv=>LRs.cell hc v hv) a6 (by rw [c1,a1];have:=a4.1;simp;omega)
      rw [hlim,← k1.lim,← g1,hst,c1]
      rw [a1,Nat.mul_one,Nat.add_zero,← e2];rw [← e1] at h
      exact hK .undef undef s2 (k1.trans k2) t2 rfl h
     ·simp at h
   replace h:=ob h;obtain ⟨w,h4,h⟩:=h
   replace h:=ob h;obtain ⟨⟨y,L1⟩,h5,h⟩:=h
   obtain ⟨s1,l1,g1,u1,k1,t1,rr1,o1,_⟩:=Q56 w hs hc h5
   simp only at h
   rw [← l1] at h
   split at h
   ·rename_i ver el xs hb
    replace h:=ob h;obtain ⟨x0,h6,h⟩:=h
    replace h:=ob h;obtain ⟨x1,h7,h⟩:=h
    obtain ⟨hlb,m,hm,rfl⟩:=k1.LR0 (p:=.ep b j fo) r1
    simp only [Q5c,h3,Q1,hbeq]
    obtain ⟨a1,a2,k,a3,a4,a5,a6,a7⟩:=Q0k t1 hb hm
    obtain ⟨hj,ej⟩:=Z0 h6
    have hrep:=a5 j hj
    rw [ej] at hrep
    obtain ⟨g2,g3⟩:=Qx0 _ _ h7 hrep rr1
    have hlw:=Rep.len _ rr1
    have hm2:=Q1m (k:=el.size) hj
    have hst:=Q2p (o:=m.sh+j*m.es+fo) a3 (a6 rfl).1 (fun v hv=>LRs.cell hc v hv) (a6 rfl).2 (by rw [a1,hlw];omega)
    rw [hlim,← k1.lim,← g1,hst]
    have hRL:=RL.ofBlk a4 a5
    have hd:((k.cells.drop m.sh).take (xs.length*el.size)).length=xs.length*el.size:=hRL.1
    have hnew:((lay k.cells (m.sh+j*m.es+fo) u.cells.toList).drop m.sh).take ((xs.set j x1).length*el.size)=lay ((k.cells.drop m.sh).take (xs.length*el.size)) (j*el.size) (lay (seg ((k.cells.drop m.sh).take (xs.length*el.size)) (j*el.size) el.size) fo u.cells.toList):=by
     rw [List.length_set,a1,Nat.add_assoc,Qqj a4 (by omega),Qta (z:=el.size) (by omega) (by omega)]
    have hrep2:Rep s1.N s1.H el x1 (lay (seg ((k.cells.drop m.sh).take (xs.length*el.size)) (j*el.size) el.size) fo u.cells.toList):=by
     have:(k.cells.drop (m.sh+j*el.size)).take el.size=seg ((k.cells.drop m.sh).take (xs.length*el.size)) (j*el.size) el.size:=by
      unfold seg;rw [List.drop_take,List.take_take,Nat.min_eq_left (by omega),List.drop_drop]
     rw [this] at g2;exact g2
    obtain ⟨s2,e1,e2,e3,k2,t2⟩:=Qqm t1 (xs':=xs.set j x1) hb hm (cells':=lay k.cells (m.sh+j*m.es+fo) u.cells.toList) a3 (by simp) (by rw [List.length_set,a1,Nat.add_assoc];exact (Q3s t1 hb hm a3).lay (by omega) (fun v hv=>LRs.plain hc v hv)) (by rw [hnew];exact hRL.set hj hrep2)
    rw [← e2];rw [← e1] at h
    exact hK .undef undef s2 (k1.trans k2) t2 rfl h
   ·simp at h
  ·rename_i b off
   split at h
   ·rename_i ver cs hb
    split at h
    ·rename_i hle
     have hle:=Zi hle
     obtain ⟨hlb,m,hm,hsh,rfl⟩:=r1
     simp only [Q5c,h3,Q1,hbeq]
     have hB:=hs.blk b _ hb
     unfold BR at hB;simp only at hB
     obtain ⟨_,m',k,hm',_,hk,hcs,hro,hlm⟩:=hB
     rw [hm] at hm';injection hm' with hm';subst hm'
     have hlk:=Qw.length hcs
     have hst:=Q2p (o:=off) hk hro (fun v hv=>LRs.cell hc v hv) hlm (by omega)
     rw [hlim,hst]
     obtain ⟨s2,e1,e2,e3,k2,t2⟩:=Qif (mp:=k.mp) hs hb hm (Qjy hcs hc off)
     rw [← e2];rw [← e1] at h
     exact hK .undef undef s2 k2 t2 rfl h
    ·simp at h
   ·rename_i ver e xs hb
    split at h
    ·rename_i hcn
     simp only [Z8] at hcn
     have ho:=Z7 hcn.1
     subst ho
     obtain ⟨hlb,m,hm,hsh,rfl⟩:=r1
     simp only [Q5c,h3,Q1,hbeq]
     obtain ⟨n1,n2⟩:=Qdm hcn.2 hc
     obtain ⟨_,hfl,⟨hm0,_⟩ | ⟨m',k,hm',a1,a2,a3,a4,a5,a6,a7⟩⟩:=Q09 hs hb
     ·rw [hm] at hm0;simp at hm0
     rw [hm] at hm';injection hm' with hm';subst hm'
     have hst:=Q2p (o:=0) a3 a5 (fun v hv=>LRs.cell hc v hv) a6 (by rw [n2];have:=a4.1;simp;omega)
     rw [hlim,hst]
     obtain ⟨s2,e1,e2,k2,t2⟩:=Qnb hs hb hm a3 hsh
     rw [n2,← e2];rw [n1,← e1] at h
     exact hK .undef undef s2 k2 t2 rfl h
    ·simp at h
   ·simp at h
  ·rename_i b off n w k0
   split at h
   ·rename_i ver cs hb hwf
    replace h:=ob h;obtain ⟨y,h4,h⟩:=h
    replace h:=ob h;obtain ⟨xs,h5,h⟩:=h
    replace h:=ob h;obtain ⟨p,h6,h⟩:=h
    obtain ⟨hlb,m,hm,hsh,rfl⟩:=r1
    simp only [Q5c,h3,Q1,hbeq]
    have hB:=hs.blk b _ hb
    unfold BR at hB;simp only at hB
    obtain ⟨_,m',k,hm',_,hk,hcs,hro,hlm⟩:=hB
    rw [hm] at hm';injection hm' with hm';subst hm'
    have hlk:=Qw.length hcs
    obtain ⟨_,ry⟩:=Q6m (x:=y.1) (L':=y.2) hs w hc (by rw [h4])
    have hly:=Rep.len _ ry
    obtain ⟨g1,g2,g3⟩:=Q8m hs w (Qw.drop off hcs) h5
    unfold setV at h6
    split at h6
    ·rename_i hlt
     have hlt:=Q6z hlt
     have hm2:=Q1m (k:=w.size) hlt
     rw [g1] at hm2
     simp only [List.length_drop] at g2
     have hpos:=Ty.size_pos w
     have hst:=Q2p (o:=off+k0*w.size) hk hro (fun v hv=>LRs.cell hc v hv) hlm (by omega)
     rw [hlim,hst]
     have hRL:RL (s.NN s.L.clk) s.H w xs (seg k.cells off (n*w.size)):=by
      refine ⟨by rw [Q7c _ _ _ (by omega),g1],fun i hi=>?_⟩
      have:=Rep.flat (M:=s.NN s.L.clk) (G:=s.H) w hwf (g3 i hi)
      have hm3:=Q1m (k:=w.size) hi
      have e2:seg (seg k.cells off (n*w.size)) (i*w.size) w.size=((k.cells.drop off).drop (i*w.size)).take w.size:=by
       unfold seg;rw [List.drop_take,List.take_take,Nat.min_eq_left (by rw [g1] at hm3;omega)]
      rw [e2];exact this
     have hRL2:=hRL.set hlt (Rep.flat (M:=s.NN s.L.clk) (G:=s.H) w hwf ry)
     have hn0:0 < n:=by omega
     have hrep:=Qig w n hn0 (by simp [g1]) hRL2 h6
     have hlr:=Q1g _ hrep
     have hll:(lay (seg k.cells off (n*w.size)) (k0*w.size) u.cells.toList).length=n*w.size:=by
      rw [Qby _ _ _ (by rw [Q7c _ _ _ (by omega)];omega),Q7c _ _ _ (by omega)]
     have hfin:=Qjy hcs hlr off
     have hlay:lay k.cells off (lay (seg k.cells off (n*w.size)) (k0*w.size) u.cells.toList)=lay k.cells (off+k0*w.size) u.cells.toList:=by
      have hsl:=Q7c k.cells off (n*w.size) (by omega)
      apply List.ext_getElem?;intro i'
      rw [Q1x k.cells off _ (by rw [hll];omega),hll,Q1x k.cells (off+k0*w.size) _ (by omega)]
      by_cases c1:i' < off
      ·rw [if_pos c1,if_pos (by omega)]
      ·rw [if_neg c1]
       by_cases c2:i' < off+n*w.size
       ·rw [if_pos c2,Q1x (seg k.cells off (n*w.size)) (k0*w.size) _ (by omega)]
        by_cases c3:i' - off < k0*w.size
        ·have d1:i' < off+k0*w.size:=by omega
         rw [if_pos c3,if_pos d1,Q2b,if_pos (by omega)];congr 1;omega
        ·have d1:¬ i' < off+k0*w.size:=by omega
         rw [if_neg c3,if_neg d1]
         by_cases c4:i' - off < k0*w.size+u.cells.toList.length
         ·have d2:i' < off+k0*w.size+u.cells.toList.length:=by omega
          rw [if_pos c4,if_pos d2];congr 1;omega
         ·have d2:¬ i' < off+k0*w.size+u.cells.toList.length:=by omega
          rw [if_neg c4,if_neg d2,Q2b,if_pos (by omega)];congr 1;omega
       ·rw [if_neg c2,if_neg (by omega),if_neg (by omega)]
     rw [hlay] at hfin
     obtain ⟨s2,e1,e2,e3,k2,t2⟩:=Qif (mp:=k.mp) hs hb hm hfin
     rw [← e2];rw [← e1] at h
     exact hK .undef undef s2 k2 t2 rfl h
    ·simp at h6
   ·simp at h
  ·simp at h
 ·simp at h
theorem Qih {x:Operand} (ho:o.op=.nilCheck x) (hs:StR s) (he:Q25 s env e) (hK:KOk s r KV KE Q) (h:vop X o env s.L KV=some r):∃ y,Q38 XE o e s.H KE=some y∧Q y:=by
 simp only [vop,ho] at h;simp only [Q38,ho]
 replace h:=ob h;obtain ⟨p,h1,h⟩:=h
 obtain ⟨v,ev1,r1⟩:=Q01 he h1
 rw [ev1];simp only [Q1]
 split at h
 ·have r0:=r1
  obtain ⟨a,b,rfl,_⟩:=r1
  exact hK.here hs r0 h
 ·have r0:=r1
  obtain ⟨_,m,_,_,rfl⟩:=r1
  exact hK.here hs r0 h
 ·have r0:=r1
  obtain ⟨_,m,_,rfl⟩:=r1
  exact hK.here hs r0 h
 ·have r0:=r1
  obtain ⟨z,oo,k,rfl,_⟩:=r1
  exact hK.here hs r0 h
 ·have r0:=r1
  obtain ⟨_,⟨_,_,rfl⟩,_⟩:=r1
  exact hK.here hs r0 h
 ·have r0:=r1
  obtain ⟨_,m,_,_,rfl⟩:=r1
  exact hK.here hs r0 h
 ·simp at h
theorem Q52 (hs:StR s) {p:PV} {v:Value} (hr:ER s p v) {t:Ty} {x:List t.T} (h:Q0y s.L p t=some x) (hnr:∀ u,t=.sl u→Qdo s.L p=false) :
  ∃ cells a c,v=.slice a x.length c∧Qf s.H t.size v=some cells∧RL s.N s.H t x cells:=by
 have keyF:∀ {N:Nat→Prop},Rep N s.H (.sl t) x [v]→∃ cells a c,v=.slice a x.length c∧Qf s.H t.size v=some cells∧RL N s.H t x cells:=by
  intro N r
  unfold Rep at r
  rcases r with ⟨rfl,e1⟩ | ⟨rfl,z,oo,e1⟩ | ⟨z,oo,k,e1,hn,hk,hle,hi⟩
  ·simp at e1;subst e1;exact ⟨[],_,_,rfl,rfl,by simp [RL]⟩
  ·simp at e1;subst e1;exact ⟨[],_,_,rfl,by simp [Qf,Q0m],by simp [RL]⟩
  ·simp at e1;subst e1
   refine ⟨(k.cells.drop oo).take (x.length*t.size),_,_,rfl,?_,by simp;omega,fun i hi'=>?_⟩
   ·simp only [Qf]
    cases hz:x.length*t.size with
    | zero=>simp [Q0m]
    | succ q =>
     simp only [Q0m,Qx,hk,Q1]
     have:Nat.ble (oo+(q+1)) k.cells.length=true:=Nat.ble_eq_true_of_le (by omega)
     rw [this]
   ·have:=hi i hi'
    have hm:=Q1m (k:=t.size) hi'
    have e2:seg ((k.cells.drop oo).take (x.length*t.size)) (i*t.size) t.size=(k.cells.drop (oo+i*t.size)).take t.size:=by
     unfold seg;rw [List.drop_take,List.take_take,Nat.min_eq_left (by omega),List.drop_drop]
    rw [e2];exact this
 have key:∀ {N:Nat→Prop},(∀ z,N z→s.N z)→Rep N s.H (.sl t) x [v]→∃ cells a c,v=.slice a x.length c∧Qf s.H t.size v=some cells∧RL s.N s.H t x cells:=by
  intro N hN r
  obtain ⟨cells,a,c,g1,g2,g3⟩:=keyF r
  exact ⟨cells,a,c,g1,g2,g3.1,fun i hi=>Rep.mono hN t (g3.2 i hi)⟩
 have h':=h
 unfold Q0y at h
 split at h
 ·obtain rfl:v=_:=hr
  simp at h;subst h
  exact ⟨[],_,_,rfl,rfl,by simp [RL]⟩
 ·rename_i st u y
  obtain ⟨e1,hx⟩:=Q0z h
  injection e1 with e1;subst e1
  simp at hx;subst hx
  exact key (fun z hz=>hz.1) hr
 ·rename_i b off n
  split at h
  ·rename_i ver rw u xs hb
   obtain ⟨e1,hx⟩:=Q0z h
   injection e1 with e1;subst e1
   simp at hx;subst hx
   have hr:LR0 s (.osl b off n) v:=hr
   obtain ⟨hlb,hr⟩:=hr
   cases hm:s.μ b with
   | none =>
    rw [hm] at hr;obtain ⟨rfl,h5,rfl⟩:=hr
    have hx:=Q5z hs hb hm
    subst hx
    have:cut ([]:List u.T) 0 n=[]:=by cases n<;>simp [cut]
    rw [this];exact ⟨[],_,_,rfl,rfl,by simp [RL]⟩
   | some m =>
    rw [hm] at hr
    obtain ⟨g1,g2,k,g3,g4,g5,g6,g7⟩:=Q0k hs hb hm
    obtain ⟨a1,rfl⟩:=hr
    have hlen:(cut xs off n).length=n.getD (m.n - off):=by
     cases n with
     | none=>simp [cut,g2]
     | some l=>simp [cut] at a1 ⊢;omega
    have hRL:=RL.ofBlk g4 g5
    have hoff:off≤xs.length:=by omega
    have hmul:(off+(cut xs off n).length)*u.size≤xs.length*u.size:=Zk _ (by omega)
    rw [Nat.add_mul] at hmul
    refine ⟨(k.cells.drop (m.sh+off*u.size)).take ((cut xs off n).length*u.size),_,_,by rw [hlen],?_,?_⟩
    ·rw [← hlen,g1]
     simp only [Qf]
     cases hz:(cut xs off n).length*u.size with
     | zero=>simp [Q0m]
     | succ q =>
      simp only [Q0m,Qx,g3,Q1]
      have:Nat.ble (m.sh+off*u.size+(q+1)) k.cells.length=true:=Nat.ble_eq_true_of_le (by omega)
      rw [this]
    ·cases n with
     | none =>
      have h1:=RL.sub (n:=xs.length - off) g4 g5 (show off+(xs.length - off)≤xs.length by omega)
      rw [Zs (l:=xs.drop off) (by simp)] at h1
      simp only [cut]
      rw [List.length_drop];exact h1
     | some l =>
      have h1:=RL.sub (n:=l) g4 g5 (show off+l≤xs.length by simp at a1;omega)
      simp only [cut]
      have e3:((xs.drop off).take l).length=l:=by simp at a1 ⊢;omega
      rw [e3];exact h1
  ·rename_i ver u xs hb
   have e1:=Qp h
   injection e1 with e1
   have:=hnr u e1.symm
   simp [Qdo,hb] at this
  ·simp at h
 ·rename_i b i ver u y
  split at h
  ·rename_i v' t' xs' h'' hb
   split at h
   ·rename_i hv
    have hv:=Z7 hv
    obtain ⟨e1,hx⟩:=Q0z h
    injection e1 with e1;subst e1
    simp at hx;subst hx
    obtain ⟨_,_,hval⟩:LR0 s (.rw b i ver u y) v:=hr
    obtain ⟨r1,r2,_⟩:=(hval _ hb).2 hv
    obtain ⟨cells,a,c,g1,g2,g3⟩:=keyF (r2.rep (M:=Any) r1 (fun _ _=>trivial))
    exact ⟨cells,a,c,g1,g2,g3.1,fun i hi=>Rep.flat u r1 (g3.2 i hi)⟩
   ·simp at h
  ·simp at h
 ·simp at h
theorem Qk4:∀ (x:List Int) (cells:List Value) {N:Nat→Prop} {H:Heap},RL N H (.int .u8) x cells→Q5l cells=some (x.map fun n=>UInt8.ofNat n.toNat):=by
 intro x
 induction x with
 | nil =>
  intro cells N H h
  have h1:=h.1
  have:cells=[]:=Z1 (by simpa using h1)
  subst this;rfl
 | cons n r ih =>
  intro cells N H h
  have h1:=h.1
  match cells,h1 with
  | [],h1=>simp [Ty.size] at h1
  | c::cs,h1 =>
   have h0:=h.2 0 (by simp)
   simp [Ty.size,Rep,seg] at h0
   subst h0
   have hr:RL N H (.int .u8) r cs:=by
    refine ⟨by simp [Ty.size] at h1 ⊢;exact h1,fun i hi=>?_⟩
    have:=h.2 (i+1) (by simp;omega)
    simp [Ty.size,seg] at this ⊢;exact this
   simp [Q5l,ih cs hr,Q1]
theorem RL.bytes {N:Nat→Prop} {H:Heap} (q:List UInt8):RL N H (.int .u8) (q.map fun b=>(b.toNat:Int)) (q.map fun b=>.int .u8 b.toNat):=by
 refine ⟨by simp [Ty.size],fun i hi=>?_⟩
 simp at hi
 simp only [Ty.size,Nat.mul_one,seg]
 unfold Rep
 rw [List.drop_eq_getElem_cons (by simpa using hi)];simp
theorem Qk5 {src dst:TypeId} {x:Operand} (hP:X.P=XE.P) (ho:o.op=.convert src dst x) (hs:StR s) (he:Q25 s env e) (hK:KOk s r KV KE Q) (h:vop X o env s.L KV=some r):∃ y,Q38 XE o e s.H KE=some y∧Q y:=by
 simp only [vop,ho] at h;simp only [Q38,ho]
 replace h:=ob h;obtain ⟨p,h1,h⟩:=h
 obtain ⟨v,ev1,r1⟩:=Q01 he h1
 rw [ev1];simp only [Q1]
 rw [← hP]
 split at h
 ·rename_i hu1 hu2
  obtain rfl:v=.int _ _:=r1
  simp only [Qmt,hu1,hu2]
  exact hK.here hs (p:=.int _ _) rfl h
 ·rename_i hu1 hu2
  obtain rfl:v=.string _:=r1
  simp only [Qmt,hu1,hu2]
  exact hK.here hs (p:=.str _) rfl h
 ·rename_i el hu1 hu2
  split at h
  ·rename_i hu3
   replace h:=ob h;obtain ⟨l,h2,h⟩:=h
   obtain ⟨cells,a,c,rfl,hsc,hrl⟩:=Q52 hs r1 h2 (fun u e=>by simp at e)
   simp only [Qmt,hu1,hu2,hu3]
   have hsc':Qf s.H 1 (.slice a l.length c)=some cells:=hsc
   rw [hsc'];simp only [Q1]
   rw [Qk4 l cells hrl]
   exact hK.here hs (p:=.str (strL l)) rfl h
  ·simp at h
 ·rename_i el q hu1 hu2
  obtain rfl:v=.string q:=r1
  split at h
  ·rename_i hu3
   simp only [Qmt,hu1,hu2,hu3]
   obtain ⟨s',e1,e2,hk,hs',hr⟩:=Q3z (s:=s) hs (RL.bytes q.data.toList)
   rw [← e2]
   have h':KV (.osl s.L.bl.length 0 none) (Qv s.L (.arr (.int .u8) (Qc5 q)))=some r:=h
   have e1':s'.L=Qv s.L (.arr (.int .u8) (Qc5 q)):=e1
   rw [← e1'] at h'
   refine hK _ _ s' hk hs' (ER.of0 ?_) h'
   have:(q.data.toList.map fun b=>(b.toNat:Int)).length=q.size:=by simp
   rw [this] at hr;exact hr
  ·simp at h
 ·simp at h
end
end Go.Pv
