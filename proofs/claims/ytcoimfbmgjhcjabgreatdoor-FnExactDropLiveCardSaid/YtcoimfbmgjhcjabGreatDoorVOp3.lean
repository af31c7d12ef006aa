/-
  Operations that compute, read, build: the interpreter by value agrees with the first one. And what stood behind it in 2 texts.
  Conditions: said at the theorems.
-/
import Derived.Test.YtcoimfbmgjhcjabGreatDoorVVal
set_option linter.all false
namespace Go.Pv
open Go.Ev
theorem ER.cells {s:S} {p:PV} {v:Value} (h:ER s p v) (ho:okV p=true):cq s (mV p) v.cells.toList:=by
 cases p with
 | kU cs=>simp [okV] at ho
 | fn f a b=>simp [okV] at ho
 | undef=>simp [okV] at ho
 | _=>exact AR.cells h (by intros;simp) (by simp)
theorem XN {s:S} {cs ds:List PV} {vs ws:List Value} (h:cq s cs vs) (g:cq s ds ws) (o:Nat):cq s (NH cs o ds) (lay vs o ws):=by
 have e:=Qx.length g
 unfold NH lay
 rw [e]
 exact Qx.append (Qx.append (Qx.take o h) g) (Qx.drop _ h)
theorem QA (off:Nat):∀ (l:List Value) (n:Nat) (A:Array Value),off+n+l.length<=A.size ->
  ((l.zipIdx n).foldl (fun cs (c,j)=>cs.setIfInBounds (off+j) c) A).toList=lay A.toList (off+n) l
 | [],n,A,_=>by simp [lay]
 | v::l,n,A,h=>by
  simp only [Z9] at h
  simp only [List.zipIdx_cons,List.foldl_cons]
  rw [QA off l (n+1) _ (by simp;omega)]
  unfold lay
  rw [Array.toList_setIfInBounds]
  have hl:off+n < A.toList.length:=by simp;omega
  rw [List.set_eq_take_append_cons_drop,if_pos hl]
  have h1:(A.toList.take (off+n)).length=off+n:=by simp;omega
  have e1:((A.toList.take (off+n)++v::A.toList.drop (off+n+1))).take (off+(n+1))=A.toList.take (off+n)++[v]:=by
   rw [List.take_append,h1,show off+(n+1) - (off+n)=1 by omega,Zs (by omega)];simp
  have e2:((A.toList.take (off+n)++v::A.toList.drop (off+n+1))).drop (off+(n+1)+l.length)=A.toList.drop (off+n+(l.length+1)):=by
   rw [List.drop_append,h1,List.drop_of_length_le (by omega),show off+(n+1)+l.length - (off+n)=l.length+1 by omega]
   simp only [List.drop_succ_cons,List.nil_append,List.drop_drop]
   congr 1;omega
  rw [e1,e2];simp
theorem XO {s:S} (place:Nat->Option (Nat×Nat)):∀ {ps:List (Nat×PV)} {qs:List (Nat×Value)} {zs cs:List PV} {B:Array Value},Qx (JY s) ps qs->cq s zs B.toList->Kk place zs ps=some cs ->
  ∃ C,Instr.fill place B qs=some C/\cq s cs C.toList
 | [],[],zs,cs,B,_,hz,h=>by simp [Kk] at h;subst h;exact ⟨B,rfl,hz⟩
 | (i,p)::ps,(j,v)::qs,zs,cs,B,⟨⟨e,hv⟩,hp⟩,hz,h=>by
  simp only at e hv;subst e
  simp only [Kk] at h
  simp only [Instr.fill]
  split at h
  .simp at h
  .rename_i off size iT
   split at h
   .rename_i h1 h2 h3
    have hc:=hv.cells h1
    have hl:=Qx.length hc
    have OR:=Qx.length hz
    have e2:=Z7 h2
    have e3:=Zi h3
    have bf:v.cells.size=size:=by
     simp only [Array.length_toList] at hl;omega
    have hB:B.toList.length=B.size:=by simp
    rw [iT]
    have dc:¬ ((decide (v.cells.size≠size) || decide (off+v.cells.size > B.size))=true):=by
     simp only [Bool.or_eq_true,Zj];omega
    simp only [dc,if_false,Bool.false_eq_true]
    refine XO place hp ?_ h
    have:=QA off v.cells.toList 0 B (by simp at hl OR ⊢;omega)
    rw [Nat.add_zero] at this
    have e5:(Array.foldl (fun cs (x:Value×Nat)=>cs.setIfInBounds (off+x.2) x.1) B v.cells.zipIdx).toList=lay B.toList off v.cells.toList:=by
     rw [<- Array.foldl_toList];simpa using this
    rw [e5]
    exact XN hz hc off
   .simp at h
theorem ER.leaf {s:S} {p:PV} {v:Value} (h:ER s p v) (ho:fS p=true):cm s p v:=by
 cases p with
 | kU cs=>simp [okV,fS] at ho
 | fn f a b=>simp [okV,fS] at ho
 | undef=>simp [okV,fS] at ho
 | agg cs=>simp [fS] at ho
 | _=>exact h
theorem XP.leaf {s:S}:∀ {ps:List PV} {vs:List Value},Qx (ER s) ps vs->ps.all fS=true->cq s ps vs
 | [],[],_,_=>trivial
 | p::ps,v::vs,h,g=>by
  simp only [List.all_cons,Z8] at g
  exact ⟨h.1.leaf g.1,XP.leaf h.2 g.2⟩
theorem Qr1 {β:Type} {x y:Option β} {r:β} (h:both x y=some r):x=some r/\y=some r:=by
 unfold both at h
 by_cases e:x=y
 .rw [if_pos e] at h;exact ⟨h,by rw [<- e];exact h⟩
 .rw [if_neg e] at h;simp at h
def XQ:Bool->BinOp
 | false=>.eql
 | true=>.neq
def XR (L:LS) (v:PV):Option Nat->Prop
 | none=>v=.nil
 | some n=>i_ L v=some n
theorem Qc9 {P:Program} {op:BinOp} {t:TypeId} {L:LS} {v u:PV} {n:Option Nat} {neg:Bool} (h:XS P op t L v u=some (n,neg)) :
  u=.nil/\(∃ el,P.underlying t=some (.slice el))/\op=XQ neg/\XR L v n:=by
 unfold XS at h
 split at h
 .rename_i hu
  split at h
  .simp at h;obtain ⟨rfl,rfl⟩:=h;exact ⟨rfl,⟨_,hu⟩,rfl,rfl⟩
  .obtain ⟨m,h1,h⟩:=ob h
   simp at h;obtain ⟨rfl,rfl⟩:=h;exact ⟨rfl,⟨_,hu⟩,rfl,h1⟩
 .rename_i hu
  split at h
  .simp at h;obtain ⟨rfl,rfl⟩:=h;exact ⟨rfl,⟨_,hu⟩,rfl,rfl⟩
  .obtain ⟨m,h1,h⟩:=ob h
   simp at h;obtain ⟨rfl,rfl⟩:=h;exact ⟨rfl,⟨_,hu⟩,rfl,h1⟩
 .simp at h
theorem Qr2 {γ:Type} {P:Program} {op:BinOp} {t el:TypeId} {neg:Bool} (hu:P.underlying t=some (.slice el)) (aL:op=XQ neg) {a:Option Addr} {n c:Nat} {K:Value->Option γ} :
  Ak P op t (.slice a n c) (.slice none 0 0) K=K (.bool (a.isNone != neg)):=by
 subst aL
 cases neg<;>simp only [XQ,Ak,hu,vm]
 .cases a<;>rfl
 .cases a<;>rfl
theorem Qny {P:Program} {s:S} {el:TypeId} {u:Ty} {cs:Array Value} {off:Nat} {i:TypeInfo} {y:u.T} {st:Nat} (hw:jO P 8 el=some u) (hi:P.info? el=some i) (bf:u.size=i.size) (hle:off+u.size<=cs.toList.length)
  (hr:ax (s.NN st) s.H u y ((cs.toList.drop off).take u.size)):∃ q,gL P el cs off=some q/\AR s (kT u (gx st u y)) q:=by
 have hlen:=ax.len _ hr
 unfold gL
 rw [hi];simp only [Q1]
 have XT:(cs.extract off (off+i.size))=⟨(cs.toList.drop off).take u.size⟩:=by
  apply Array.toList_inj.1
  simp only [Array.toList_extract,List.extract_eq_drop_take]
  rw [bf];congr 1;omega
 rcases Re hw with ⟨d,a,b,hu,hd,rfl⟩ | ⟨d,hu,vK,oE,Kl⟩
 .rcases hd with ⟨fs,rfl⟩ | ⟨n,e,rfl⟩<;>rw [hu]<;>simp only<;>rw [XT]<;>exact ⟨_,rfl,NI (t:=.pair a b) rfl hr⟩
 .have Fz:u.size=1:=by cases u<;>first | rfl | exact absurd rfl (Kl _ _)
  obtain ⟨q,hq⟩:∃ q,(cs.toList.drop off).take u.size=[q]:=by
   match hc:(cs.toList.drop off).take u.size with
   | [q]=>exact ⟨q,rfl⟩
   | []=>rw [hc] at hlen;simp at hlen;omega
   | _::_::_=>rw [hc] at hlen;simp at hlen;omega
  have ah:cs[off]? = some q:=by
   have:((cs.toList.drop off).take u.size)[0]? = some q:=by rw [hq];rfl
   rw [List.getElem?_take_of_lt (by omega),Zp] at this
   rw [<- Array.getElem?_toList];simpa using this
  refine ⟨q,?_,NI (cs:=[q]) (by cases u<;>first | rfl | exact absurd rfl (Kl _ _)) (by rw [<- hq];exact hr)⟩
  rw [hu]
  cases d<;>first | exact absurd rfl (vK _) | exact absurd rfl (oE _ _) | exact ah
section
variable {A:cM} {β γ:Type} {s:S} {env:bA} {e:Env} {X:nq A β} {XE:Cx} {o:Oper} {KV:PV->LS->Option β} {KE:Value->af->Option γ} {r:β} {Q:γ->Prop}
def eJ (s:S) (r:β) (KV:PV->LS->Option β) (KE:Value->af->Option γ) (Q:γ->Prop):Prop :=
 ∀ pv v s',aj s s'->aD s'->ER s' pv v->KV pv s'.L=some r->∃ y,KE v s'.H=some y/\Q y
theorem eJ.here (hs:aD s) (hK:eJ s r KV KE Q) {p:PV} {v:Value} (hr:ER s p v) (h:KV p s.L=some r):∃ y,KE v s.H=some y/\Q y :=
 hK p v s (aj.refl s) hs hr h
theorem QV {x:Operand} (hs:aD s) (he:cI s env e) (hK:eJ s r KV KE Q) (h:(Q1 (eC env x) fun v=>KV v s.L)=some r) :
  ∃ y,(Q1 (ev e x) fun v=>KE v s.H)=some y/\Q y:=by
 replace h:=ob h;obtain ⟨p,h1,h⟩:=h
 obtain ⟨v,e1,hr⟩:=fM he h1
 rw [e1];exact hK.here hs hr h
theorem Qu0 {c a b:Operand} (ho:o.op=.pick c a b) (hs:aD s) (he:cI s env e) (hK:eJ s r KV KE Q) (h:di X o env s.L KV=some r):∃ y,dx XE o e s.H KE=some y/\Q y:=by
 simp only [di,ho] at h;simp only [dx,ho]
 replace h:=ob h;obtain ⟨p,h1,h⟩:=h
 obtain ⟨v,e1,hr⟩:=fM he h1
 split at h
 .obtain rfl:v=.bool _:=hr
  rw [e1];simp only [Q1,wT]
  rename_i t
  cases t with
  | true=>simp only [aa] at h ⊢;exact QV hs he hK h
  | false=>simp only [aa] at h ⊢;exact QV hs he hK h
 .simp at h
theorem Qu1 {op:UnOp} {t:TypeId} {x:Operand} (ho:o.op=.unOp op t x) (hs:aD s) (he:cI s env e) (hK:eJ s r KV KE Q) (h:di X o env s.L KV=some r):∃ y,dx XE o e s.H KE=some y/\Q y:=by
 simp only [di,ho] at h;simp only [dx,ho]
 replace h:=ob h;obtain ⟨p,h1,h⟩:=h
 replace h:=ob h;obtain ⟨v',h3,h⟩:=h
 obtain ⟨v,e1,r1⟩:=fM he h1
 have:=XU r1 h3;subst this
 rw [OI] at h
 replace h:=ob h;obtain ⟨z,h5,h⟩:=h
 rw [e1];simp only [Q1]
 rw [OI,h5]
 exact hK.here hs (Qs3 (Qun h5)) h
theorem Qr3 {t:TypeId} {parts:Array (Nat×Operand)} (hP:X.P=XE.P) (ho:o.op=.build t parts) (hs:aD s) (he:cI s env e) (hK:eJ s r KV KE Q) (h:di X o env s.L KV=some r):∃ y,dx XE o e s.H KE=some y/\Q y:=by
 simp only [di,ho] at h;simp only [dx,ho]
 replace h:=ob h;obtain ⟨ps,h1,h⟩:=h
 obtain ⟨qs,e1,r1⟩:=WQ he h1
 rw [e1];simp only [Q1]
 rw [<- hP]
 split at h
 .rename_i it fs hi hu
  split at h
  .rename_i z places hz iT
   replace h:=ob h;obtain ⟨zs,h2,h⟩:=h
   replace h:=ob h;obtain ⟨cs,h3,h⟩:=h
   obtain ⟨a1,a2⟩:=Km (s:=s) h2
   obtain ⟨C,f1,f2⟩:=XO _ r1 a1 h3
   have:Fx X.P t qs=some C:=by
    unfold Fx A7
    simp only [hi,Q1,hz,a2]
    unfold Program.built
    simp only [hi,hu,hz,iT]
    exact f1
   rw [this]
   exact hK.here hs (p:=.agg cs) ⟨C.toList,by simp,f2⟩ h
  .simp at h
 .rename_i it nn el hi hu
  split at h
  .rename_i z ie hz OB
   replace h:=ob h;obtain ⟨zs,h2,h⟩:=h
   replace h:=ob h;obtain ⟨cs,h3,h⟩:=h
   obtain ⟨a1,a2⟩:=Km (s:=s) h2
   obtain ⟨C,f1,f2⟩:=XO _ r1 a1 h3
   have:Fx X.P t qs=some C:=by
    unfold Fx A7
    simp only [hi,Q1,hz,a2]
    unfold Program.built
    simp only [hi,hu,hz,OB]
    exact f1
   rw [this]
   exact hK.here hs (p:=.agg cs) ⟨C.toList,by simp,f2⟩ h
  .simp at h
 .simp at h
theorem Qr4 {t:TypeId} {x:Operand} {f:Nat} (hP:X.P=XE.P) (ho:o.op=.field t x f) (hs:aD s) (he:cI s env e) (hK:eJ s r KV KE Q) (h:di X o env s.L KV=some r):∃ y,dx XE o e s.H KE=some y/\Q y:=by
 simp only [di,ho] at h;simp only [dx,ho]
 replace h:=ob h;obtain ⟨p,h1,h⟩:=h
 obtain ⟨v,e1,r1⟩:=fM he h1
 rw [e1];simp only [Q1]
 split at h
 .rename_i cs
  obtain ⟨vs,rfl,r1⟩:=r1
  simp only
  rw [<- hP]
  split at h
  .rename_i fs hu
   replace h:=ob h;obtain ⟨fd,h2,h⟩:=h
   replace h:=ob h;obtain ⟨u,h3,h⟩:=h
   simp only [hu,h2,Q1]
   unfold NJ at h3
   replace h3:=ob h3;obtain ⟨i,h4,h3⟩:=h3
   have hl:=Qx.length r1
   split at h3
   .rename_i fs' dA
    split at h3
    .rename_i hle
     have hle:=Zi hle
     simp at h3;subst h3
     have:gL X.P fd.type (⟨vs⟩:Array Value) fd.offset=some (.agg ⟨(vs.drop fd.offset).take i.size⟩):=by
      unfold gL;simp only [h4,dA,Q1]
      congr 2
      apply Array.toList_inj.1
      simp only [Array.toList_extract,List.extract_eq_drop_take]
      congr 1;omega
     rw [this]
     exact hK.here hs (p:=.agg _) ⟨_,rfl,Qx.take _ (Qx.drop _ r1)⟩ h
    .simp at h3
   .rename_i nn' fs' dA
    split at h3
    .rename_i hle
     have hle:=Zi hle
     simp at h3;subst h3
     have:gL X.P fd.type (⟨vs⟩:Array Value) fd.offset=some (.agg ⟨(vs.drop fd.offset).take i.size⟩):=by
      unfold gL;simp only [h4,dA,Q1]
      congr 2
      apply Array.toList_inj.1
      simp only [Array.toList_extract,List.extract_eq_drop_take]
      congr 1;omega
     rw [this]
     exact hK.here hs (p:=.agg _) ⟨_,rfl,Qx.take _ (Qx.drop _ r1)⟩ h
    .simp at h3
   .rename_i d vK oE dA
    obtain ⟨w,g1,g2⟩:=Qx.get _ r1 h3
    have:gL X.P fd.type (⟨vs⟩:Array Value) fd.offset=some w:=by
     unfold gL;rw [h4];simp only [Q1];rw [dA]
     cases d<;>first | exact absurd rfl (vK _) | exact absurd rfl (oE _ _) | (simpa using g1)
    rw [this]
    exact hK.here hs (ER.fq g2) h
   .simp at h3
  .simp at h
 .simp at h
theorem Qkn {x:Operand} {i:Nat} (ho:o.op=.extract x i) (hs:aD s) (he:cI s env e) (hK:eJ s r KV KE Q) (h:di X o env s.L KV=some r):∃ y,dx XE o e s.H KE=some y/\Q y:=by
 simp only [di,ho] at h;simp only [dx,ho]
 replace h:=ob h;obtain ⟨p,h1,h⟩:=h
 obtain ⟨v,e1,r1⟩:=fM he h1
 rw [e1];simp only [Q1]
 split at h
 .obtain ⟨vs,rfl,r1⟩:=r1
  simp only
  replace h:=ob h;obtain ⟨u,h2,h⟩:=h
  obtain ⟨w,g1,g2⟩:=Qx.get _ r1 h2
  have:(⟨vs⟩:Array Value)[i]? = some w:=by simpa using g1
  rw [this]
  exact hK.here hs (ER.of g2) h
 .simp at h
theorem WH {δ ε:Type} {p:PV} {v:Value} (hr:ER s p v) {K:Nat->Option δ} {K':Nat->Option ε} {x:δ} {Q':ε->Prop} (h:H_ p K=some x) (hk:∀ n,K n=some x->∃ y,K' n=some y/\Q' y):∃ y,wF v K'=some y/\Q' y:=by
 unfold H_ at h
 split at h
 .rename_i n
  obtain rfl:v=.int .i64 n:=hr
  unfold aa at h
  split at h
  .rename_i hd
   simp only [wF,hd,aa];exact hk _ h
  .simp at h
 .simp at h
theorem Df {δ ε:Type} {p:PV} {v:Value} (hr:ER s p v) {K:Nat->Option δ} {K':Nat->Option ε} {x:δ} {Q':ε->Prop} (h:oW p K=some x) (hk:∀ n,K n=some x->∃ y,K' n=some y/\Q' y):∃ y,EM v K'=some y/\Q' y:=by
 unfold oW at h
 split at h
 .rename_i kd n
  obtain rfl:v=.int kd n:=hr
  unfold aa at h
  split at h
  .rename_i hd
   simp only [EM,hd,aa];exact hk _ h
  .simp at h
 .simp at h
theorem Qdw {w:Ty} {b aB:Nat}:∀ {cs:List PV} {n:Nat} {l:List (List w.T)},NK w b aB n cs=some l->∀ {k:Nat} {y:List w.T},l[k]? = some y->cs[k]? = some (.rw b (n+k) aB w y)
 | [],n,l,h,k,y,hk=>by simp [NK] at h;subst h;simp at hk
 | c::r,n,l,h,k,y,hk=>by
  unfold NK at h
  split at h
  .simp_all
  .rename_i b' i' vL t x r' heq
   injection heq with e1 e2;subst e1 e2
   split at h
   .rename_i hc
    simp only [Z8] at hc
    have c1:=Z7 hc.1
    have c2:=Z7 hc.2.1
    have c3:=Z7 hc.2.2
    subst c1 c2 c3
    replace h:=ob h;obtain ⟨y0,h1,h⟩:=h
    replace h:=ob h;obtain ⟨l',h2,h⟩:=h
    simp at h;subst h
    have e0:=Qr h1
    injection e0 with e0;subst e0
    have:=Qg h1;subst this
    cases k with
    | zero=>simp at hk;subst hk;simp
    | succ k =>
     simp only [List.getElem?_cons_succ] at hk ⊢
     rw [Qdw h2 hk,Nat.add_assoc,Nat.add_comm 1 k]
   .simp at h
  .simp at h
theorem Qnz {w:Ty} {cs:List PV} {b aB:Nat} {l:List (List w.T)} (h:XV w cs=some (b,aB,l)) {k:Nat} {y:List w.T} (hk:l[k]? = some y):cs[k]? = some (.rw b k aB w y):=by
 unfold XV at h
 split at h
 .replace h:=ob h;obtain ⟨l',h1,h⟩:=h
  simp only [Option.some.injEq,Prod.mk.injEq] at h
  obtain ⟨rfl,rfl,rfl⟩:=h
  have:=Qdw h1 hk
  rw [Zo] at this;exact this
 .simp at h
theorem Qr5 {t:TypeId} {x ix:Operand} (hP:X.P=XE.P) (ho:o.op=.index t x ix) (hs:aD s) (he:cI s env e) (hK:eJ s r KV KE Q) (h:di X o env s.L KV=some r):∃ y,dx XE o e s.H KE=some y/\Q y:=by
 simp only [di,ho] at h;simp only [dx,ho]
 replace h:=ob h;obtain ⟨p,h1,h⟩:=h
 replace h:=ob h;obtain ⟨j,h2,h⟩:=h
 obtain ⟨v,e1,r1⟩:=fM he h1
 obtain ⟨w,e2,r2⟩:=fM he h2
 rw [e1,e2];simp only [Q1]
 split at h
 .obtain rfl:v=.string _:=r1
  simp only
  rw [<- hP]
  split at h
  .rename_i hu
   simp only [hu]
   refine Df r2 h (fun n h=>?_)
   replace h:=ob h;obtain ⟨b,h3,h⟩:=h
   rw [h3]
   exact hK.here hs (p:=.int .u8 b.toNat) rfl h
  .simp at h
 .rename_i cs
  obtain ⟨vs,rfl,r1⟩:=r1
  simp only
  rw [<- hP]
  split at h
  .rename_i n el hu
   replace h:=ob h;obtain ⟨i,h3,h⟩:=h
   replace h:=ob h;obtain ⟨u,h4,h⟩:=h
   split at h
   .rename_i hc
    simp only [Z8] at hc
    have bf:=Z7 hc.1
    replace h:=ob h;obtain ⟨xs,h5,h⟩:=h
    obtain ⟨g1,g2,g3⟩:=Rf hs u r1 h5
    simp only [hu,h3,Q1]
    refine Df r2 h (fun k h=>?_)
    replace h:=ob h;obtain ⟨y,h6,h⟩:=h
    obtain ⟨hk,ek⟩:=Z0 h6
    have XW:Nat.blt k n=true:=Ko (by omega)
    simp only [XW,aa]
    have cZ:=g3 k hk
    rw [ek] at cZ
    have hm:k*u.size+u.size<=n*u.size:=by
     have:=Zk u.size (show k+1<=n by omega)
     rw [Nat.add_mul,Nat.one_mul] at this;exact this
    obtain ⟨q,hq1,hq2⟩:=Qny (P:=X.P) (el:=el) (cs:=⟨vs⟩) (off:=k*i.size) h4 h3 bf (by simp;rw [<- bf];omega) (by rw [<- bf];exact ax.flat (M:=s.NN s.L.ct) (G:=s.H) u hc.2 cZ)
    rw [hq1]
    exact hK.here hs (ER.of hq2) h
   .split at h
    .rename_i w
     replace h:=ob h;obtain ⟨⟨b,aB,xs⟩,h5,h⟩:=h
     split at h
     .rename_i bf
      have bf:=Z7 bf
      simp only [hu,h3,Q1]
      refine Df r2 h (fun k h=>?_)
      unfold aa at h
      split at h
      .rename_i au
       simp only [au,aa]
       replace h:=ob h;obtain ⟨y,h6,h⟩:=h
       have hq:=Qnz h5 h6
       obtain ⟨w',g1,g2⟩:=Qx.get _ r1 hq
       have hp:gL X.P el ⟨vs⟩ (k*i.size)=some w':=by
        unfold gL
        rw [h3];simp only [Q1]
        have hg:(⟨vs⟩:Array Value)[k*i.size]? = some w':=by rw [bf];simpa using g1
        rcases Re h4 with ⟨d',a,b',dA,hd,e⟩ | ⟨d',dA,vK,oE,_⟩
        .simp at e
        .rw [dA]
         cases d'<;>first | exact absurd rfl (vK _) | exact absurd rfl (oE _ _) | exact hg
       rw [hp]
       exact hK.here hs (ER.fq g2) h
      .simp at h
     .simp at h
    .simp at h
  .simp at h
 .simp at h
theorem Qir {f:FuncId} {first cap:Array Operand} (ho:o.op=.makeFunc (.func f) first cap) (hs:aD s) (he:cI s env e) (hK:eJ s r KV KE Q)
  (h:di X o env s.L KV=some r):∃ y,dx XE o e s.H KE=some y/\Q y:=by
 simp only [di,ho] at h;simp only [dx,ho]
 replace h:=ob h;obtain ⟨ps,h1,h⟩:=h
 replace h:=ob h;obtain ⟨qs,h2,h⟩:=h
 obtain ⟨vs,e1,r1⟩:=Nu he h1
 obtain ⟨ws,e2,r2⟩:=Nu he h2
 rw [e1,e2];simp only [Q1]
 split at h
 .rename_i hl
  simp only [Z8] at hl
  exact hK.here hs (p:=.fn f ps qs) ⟨vs,ws,rfl,XP.leaf r1 hl.1,XP.leaf r2 hl.2⟩ h
 .simp at h
theorem Qfu {t:TypeId} {x:Operand} {f:Nat} (hP:X.P=XE.P) (ho:o.op=.fieldAddr t x f) (hs:aD s) (he:cI s env e) (hK:eJ s r KV KE Q) (h:di X o env s.L KV=some r):∃ y,dx XE o e s.H KE=some y/\Q y:=by
 simp only [di,ho] at h;simp only [dx,ho]
 replace h:=ob h;obtain ⟨p,h1,h⟩:=h
 obtain ⟨v,e1,r1⟩:=fM he h1
 rw [e1];simp only [Q1]
 split at h
 .rename_i fs hu
  replace h:=ob h;obtain ⟨fd,h2,h⟩:=h
  replace h:=ob h;obtain ⟨i,h3,h⟩:=h
  split at h
  .simp at h
  .rename_i hz
   rw [<- hP]
   split at h
   .rename_i b off
    obtain ⟨hb,m,hm,dH,rfl⟩:=r1
    simp only [fj,hu,h2,h3,Q1,hz]
    exact hK.here hs (p:=.ptr b (off+fd.offset)) ⟨hb,m,hm,dH,rfl⟩ h
   .rename_i b j fo
    obtain ⟨hb,m,hm,rfl⟩:=r1
    simp only [fj,hu,h2,h3,Q1,hz]
    exact hK.here hs (p:=.ep b j (fo+fd.offset)) ⟨hb,m,hm,by rw [Nat.add_assoc]⟩ h
   .rename_i st u y
    replace h:=ob h;obtain ⟨w,h4,h⟩:=h
    replace h:=ob h;obtain ⟨y',h5,h⟩:=h
    obtain ⟨z,oo,k,rfl,hn,hk,hl,hr⟩:=r1
    simp only [fj,hu,h2,h3,Q1,hz]
    obtain ⟨g1,g2⟩:=XX _ _ h5 hr
    refine hK.here hs (p:=.rp st w y') ⟨z,oo+fd.offset,k,rfl,hn,hk,by omega,?_⟩ h
    have:(((k.cells.drop oo).take u.size).drop fd.offset).take w.size=(k.cells.drop (oo+fd.offset)).take w.size:=by
     rw [List.drop_take,List.take_take,Nat.min_eq_left (by omega),List.drop_drop]
    rw [this] at g1;exact g1
   .rename_i b aB u y
    replace h:=ob h;obtain ⟨w,h4,h⟩:=h
    replace h:=ob h;obtain ⟨y',h5,h⟩:=h
    obtain ⟨hb,⟨z,oo,rfl⟩,hv⟩:=r1
    simp only [fj,hu,h2,h3,Q1,hz]
    refine hK.here hs (p:=.rq b aB w y') ⟨hb,⟨z,oo+fd.offset,rfl⟩,fun B hB=>⟨(hv B hB).1,fun e=>?_⟩⟩ h
    obtain ⟨z',o',k,j,e1,rP,hk,hl,hr⟩:=(hv B hB).2 e
    injection e1 with e1;injection e1 with e1;injection e1 with e1 e2 _;subst e1 e2
    obtain ⟨g1,g2⟩:=XX _ _ h5 hr
    refine ⟨z,oo+fd.offset,k,j,rfl,rP,hk,by omega,?_⟩
    have:(((k.cells.drop oo).take u.size).drop fd.offset).take w.size=(k.cells.drop (oo+fd.offset)).take w.size:=by
     rw [List.drop_take,List.take_take,Nat.min_eq_left (by omega),List.drop_drop]
    rw [this] at g1;exact g1
   .simp at h
 .simp at h
theorem mT (hs:aD s) {b aB:Nat} {rw:Bool} {t:Ty} {xs:List (List t.T)} {ho:Option Nat} (hb:Qi s.L b=some ⟨aB,rw,.rows t xs ho⟩):rw=true/\t.flat=true /\
  ((s.μ b=none/\xs=[])\/∃ m k,s.μ b=some m/\m.es=1/\m.n=xs.length/\ah s.H m.z=some k/\Fit m.sh xs.length k.cells/\k.ro=false/\s.ai<=m.z /\
   ∀ i (hi:i < xs.length),ho≠some i->∃ v,k.cells[m.sh+i]? = some v/\iE (fun z=>s.br z=some (b,i)) s.H s.ai t xs[i] v):=by
 have:=hs.aH b _ hb
 unfold BR at this;simp only at this
 obtain ⟨h0,h1,h2⟩:=this
 refine ⟨h0,h1,?_⟩
 cases hm:s.μ b with
 | none=>rw [hm] at h2;exact .inl ⟨rfl,h2⟩
 | some m =>
  rw [hm] at h2
  obtain ⟨a1,a2,k,a3,a4,a5,a6,a7⟩:=h2
  exact .inr ⟨m,k,rfl,a1,a2,a3,a4,a5,a6,a7⟩
theorem mS (hs:aD s) {b aB:Nat} {rw:Bool} {u:Ty} {xs:List u.T} (hb:Qi s.L b=some ⟨aB,rw,.arr u xs⟩) {m:MB} (hm:s.μ b=some m):m.es=u.size/\m.n=xs.length/\∃ k,ah s.H m.z=some k/\m.sh+xs.length*u.size<=k.cells.length /\
   (∀ i (h:i < xs.length),ax s.N s.H u xs[i] ((k.cells.drop (m.sh+i*u.size)).take u.size))/\(rw=true->k.ro=false/\s.ai<=m.z)/\(rw=false->s.N m.z):=by
 have:=hs.aH b _ hb
 unfold BR at this;simp only [hm] at this
 obtain ⟨h1,h2,k,h3,h4,h5⟩:=this
 exact ⟨h1,h2,k,h3,h4.1,h5⟩
theorem AE (hs:aD s) {b aB:Nat} {rw:Bool} {u:Ty} {xs:List u.T} (hb:Qi s.L b=some ⟨aB,rw,.arr u xs⟩) {m:MB} (hm:s.μ b=some m) {k:bz} (hk:ah s.H m.z=some k):Fit m.sh (xs.length*u.size) k.cells:=by
 have:=hs.aH b _ hb
 unfold BR at this;simp only [hm] at this
 obtain ⟨h1,h2,k',h3,h4,h5⟩:=this
 rw [hk] at h3;injection h3 with h3;subst h3;exact h4
theorem E2 (hs:aD s) {b aB:Nat} {rw:Bool} {u:Ty} {xs:List u.T} (hb:Qi s.L b=some ⟨aB,rw,.arr u xs⟩) (hm:s.μ b=none):xs=[]:=by
 have:=hs.aH b _ hb
 unfold BR at this;simp only [hm] at this;exact this
theorem Qr6 (off k:Nat):Rh off k=off+k:=by cases off<;>simp [Rh]
theorem XY (hs:aD s) {b off:Nat} {n:Option Nat} {v:Value} (hr:cm s (.a_ b off n) v) {aB:Nat} {rw:Bool} {u:Ty} {xs:List u.T} (hb:Qi s.L b=some ⟨aB,rw,.arr u xs⟩) {l:Nat} (h:i_ s.L (.a_ b off n)=some l) :
  (∃ m,s.μ b=some m/\v=.slice (some ⟨m.z,m.sh+off*m.es,none⟩) l m.es/\off+l<=xs.length)\/(s.μ b=none/\v=.slice none 0 0/\l=0/\off=0/\xs=[]):=by
 obtain ⟨bG,hr⟩:=hr
 cases hm:s.μ b with
 | none =>
  rw [hm] at hr;obtain ⟨rfl,h2,rfl⟩:=hr
  have hx:=E2 hs hb hm
  subst hx
  right
  refine ⟨rfl,rfl,?_,rfl,rfl⟩
  cases n with
  | none=>simp [i_,hb] at h;exact h.symm
  | some q=>simp [i_] at h h2;omega
 | some m =>
  rw [hm] at hr;obtain ⟨g1,rfl⟩:=hr
  left
  obtain ⟨a1,a2,_⟩:=mS hs hb hm
  have hl:l=n.getD (m.n - off):=by
   cases n with
   | none =>
    simp only [i_,hb] at h
    simp at h ⊢;omega
   | some q=>simp [i_] at h ⊢;exact h.symm
  subst hl
  exact ⟨m,rfl,rfl,by omega⟩
theorem WJ (hs:aD s) {p:PV} {v:Value} (hr:ER s p v) {l:Nat} (h:i_ s.L p=some l):∃ a c,v=.slice a l c:=by
 unfold i_ at h
 split at h
 .simp at h;subst h;obtain rfl:v=_:=hr;exact ⟨_,_,rfl⟩
 .rename_i st t x
  simp at h;subst h
  have hr:ax (s.NN st) s.H (.sl t) x [v]:=hr
  unfold ax at hr
  rcases hr with ⟨rfl,e1⟩ | ⟨rfl,_,_,e1⟩ | ⟨_,_,_,e1,_⟩<;>(simp at e1;subst e1;exact ⟨_,_,rfl⟩)
 .rename_i b off n
  have hr:cm s (.a_ b off (some n)) v:=hr
  simp at h;subst h
  obtain ⟨bG,hr⟩:=hr
  split at hr
  .obtain ⟨_,h2,rfl⟩:=hr;simp at h2;subst h2;exact ⟨_,_,rfl⟩
  .obtain ⟨_,rfl⟩:=hr;exact ⟨_,_,rfl⟩
 .rename_i b off
  have hr:cm s (.a_ b off none) v:=hr
  split at h
  .rename_i aB rw t xs hb
   have iT:i_ s.L (.a_ b off none)=some l:=by simp only [i_,hb];exact h
   rcases XY hs hr hb iT with ⟨m,_,rfl,_⟩ | ⟨_,rfl,rfl,_⟩<;>exact ⟨_,_,rfl⟩
  .rename_i aB rw t xs ho hb
   split at h
   .simp at h;subst h
    obtain ⟨bG,hr⟩:=hr
    obtain ⟨_,_,⟨hm,rfl⟩ | ⟨m,k,hm,a1,a2,_⟩⟩:=mT hs hb
    .rw [hm] at hr;obtain ⟨_,_,rfl⟩:=hr;exact ⟨_,_,rfl⟩
    .rw [hm] at hr;obtain ⟨_,rfl⟩:=hr
     exact ⟨some ⟨m.z,m.sh+0*m.es,none⟩,m.es,by simp [a2]⟩
   .simp at h
  .simp at h
 .rename_i b i aB t x
  simp at h;subst h
  obtain ⟨_,hr,_⟩:cm s (.rw b i aB t x) v:=hr
  rcases hr with ⟨e,rfl⟩ | ⟨z,oo,rfl⟩
  .rw [e];exact ⟨_,_,rfl⟩
  .exact ⟨_,_,rfl⟩
 .simp at h
theorem Qu2 (hs:aD s) {p:PV} {v:Value} (hr:ER s p v) {l:Nat} (h:i_ s.L p=some l):∃ a c,v=.slice a l c/\(a=none->l=0):=by
 obtain ⟨a,c,rfl⟩:=WJ hs hr h
 refine ⟨a,c,rfl,fun ha=>?_⟩
 subst ha
 unfold i_ at h
 split at h
 .simp at h;exact h.symm
 .rename_i st t x
  have hr:ax (s.NN st) s.H (.sl t) x [.slice none l c]:=hr
  unfold ax at hr
  rcases hr with ⟨rfl,e1⟩ | ⟨rfl,_,_,e1⟩ | ⟨_,_,_,e1,_⟩
  .simp at h;exact h.symm
  .simp at h;exact h.symm
  .simp at e1
 .rename_i b off n
  have hr:cm s (.a_ b off (some n)) (.slice none l c):=hr
  simp at h;subst h
  obtain ⟨bG,hr⟩:=hr
  split at hr
  .have:=hr.2.1;simpa using this
  .have:=hr.2;simp at this
 .rename_i b off
  have hr:cm s (.a_ b off none) (.slice none l c):=hr
  split at h
  .rename_i aB rw t xs hb
   have iT:i_ s.L (.a_ b off none)=some l:=by simp only [i_,hb];exact h
   rcases XY hs hr hb iT with ⟨m,_,e1,_⟩ | ⟨_,_,rfl,_⟩
   .simp at e1
   .rfl
  .rename_i aB rw t xs ho hb
   split at h
   .simp at h;subst h
    obtain ⟨bG,hr⟩:=hr
    obtain ⟨_,_,⟨hm,rfl⟩ | ⟨m,k,hm,a1,a2,_⟩⟩:=mT hs hb
    .rfl
    .rw [hm] at hr;obtain ⟨_,e⟩:=hr;simp at e
   .simp at h
  .simp at h
 .rename_i b i aB t x
  simp at h;subst h
  obtain ⟨_,hr,_⟩:cm s (.rw b i aB t x) (.slice none x.length c):=hr
  rcases hr with ⟨e,_⟩ | ⟨z,oo,e⟩
  .exact e
  .simp at e
 .simp at h
theorem Qr7 {op:BinOp} {t u:TypeId} {x y:Operand} (hP:X.P=XE.P) (ho:o.op=.binOp op t x y u) (hs:aD s) (he:cI s env e) (hK:eJ s r KV KE Q) (h:di X o env s.L KV=some r):∃ y,dx XE o e s.H KE=some y/\Q y:=by
 simp only [di,ho] at h;simp only [dx,ho]
 replace h:=ob h;obtain ⟨p,h1,h⟩:=h
 replace h:=ob h;obtain ⟨q,h2,h⟩:=h
 obtain ⟨v,e1,r1⟩:=fM he h1
 obtain ⟨w,e2,r2⟩:=fM he h2
 rw [e1,e2];simp only [Q1]
 rw [<- hP]
 split at h
 .rename_i neg hc
  obtain ⟨hq,⟨el,hu⟩,aL,hv⟩:=Qc9 hc
  rw [hq] at r2
  obtain rfl:w=.slice none 0 0:=r2
  rw [show p=.nil from hv] at r1
  obtain rfl:v=.slice none 0 0:=r1
  rw [Qr2 hu aL]
  have hz:(Option.isNone (none:Option Addr) != neg) = !neg:=by cases neg<;>rfl
  rw [hz]
  exact hK.here hs (p:=.bool (!neg)) rfl h
 .rename_i n neg hc
  obtain ⟨hq,⟨el,hu⟩,aL,hv⟩:=Qc9 hc
  rw [hq] at r2
  obtain rfl:w=.slice none 0 0:=r2
  obtain ⟨a,c,rfl,hn⟩:=Qu2 hs r1 hv
  rw [Qr2 hu aL]
  unfold Jo at h
  cases n with
  | zero =>
   obtain ⟨g1,g2⟩:=Qr1 h
   cases a with
   | none =>
        have hz:(Option.isNone (none:Option Addr) != neg) = !neg:=by cases neg<;>rfl
        rw [hz];exact hK.here hs (p:=.bool (!neg)) rfl g1
   | some a =>
         have:(Option.isNone (some a) != neg)=neg:=by cases neg<;>rfl
         rw [this];exact hK.here hs (p:=.bool neg) rfl g2
  | succ n =>
   cases a with
   | none=>exact absurd (hn rfl) (by omega)
   | some a =>
         have:(Option.isNone (some a) != neg)=neg:=by cases neg<;>rfl
         rw [this];exact hK.here hs (p:=.bool neg) rfl h
 .replace h:=ob h;obtain ⟨v',h3,h⟩:=h
  replace h:=ob h;obtain ⟨u',h4,h⟩:=h
  have:=XU r1 h3;subst this
  have:=XU r2 h4;subst this
  rw [Qmp] at h
  replace h:=ob h;obtain ⟨z,h5,h⟩:=h
  rw [Qmp,h5]
  exact hK.here hs (Qs3 (Qs4 h5)) h
theorem Qfx {t:TypeId} {x ix:Operand} (hP:X.P=XE.P) (ho:o.op=.indexAddr t x ix) (hs:aD s) (he:cI s env e) (hK:eJ s r KV KE Q) (h:di X o env s.L KV=some r):∃ y,dx XE o e s.H KE=some y/\Q y:=by
 simp only [di,ho] at h;simp only [dx,ho]
 replace h:=ob h;obtain ⟨p,h1,h⟩:=h
 replace h:=ob h;obtain ⟨j,h2,h⟩:=h
 obtain ⟨v,e1,r1⟩:=fM he h1
 obtain ⟨w,e2,r2⟩:=fM he h2
 rw [e1,e2];simp only [Q1]
 rw [<- hP]
 split at h
 .rename_i el hu
  replace h:=ob h;obtain ⟨i,h3,h⟩:=h
  split at h
  .rename_i st u l
   split at h
   .rename_i bf
    have bf:=Z7 bf
    have r1:ax (s.NN st) s.H (.sl u) l [v]:=r1
    unfold ax at r1
    have aV:∀ (K:Nat->Option γ),True:=fun _=>trivial
    rcases r1 with ⟨rfl,e3⟩ | ⟨rfl,z,oo,e3⟩ | ⟨z,oo,k,e3,hn,hk,hle,hi⟩
    .exfalso
     unfold oW at h;split at h
     .unfold aa at h;split at h
      .simp [Q1] at h
      .simp at h
     .simp at h
    .exfalso
     unfold oW at h;split at h
     .unfold aa at h;split at h
      .simp [Q1] at h
      .simp at h
     .simp at h
    .simp at e3;subst e3
     simp only [wo,hu,h3,Q1]
     refine Df r2 h (fun n h=>?_)
     replace h:=ob h;obtain ⟨y,h4,h⟩:=h
     obtain ⟨au,e5⟩:=Z0 h4
     have:Nat.blt n l.length=true:=Ko au
     simp only [this,aa]
     have hmul:n*u.size+u.size<=l.length*u.size:=by
      have:=Zk u.size (show n+1<=l.length from au)
      rw [Nat.add_mul,Nat.one_mul] at this;exact this
     refine hK.here hs (p:=.rp st u y) ⟨z,oo+n*i.size,k,rfl,hn,hk,by rw [<- bf];omega,?_⟩ h
     have:=hi n au
     rw [e5] at this;rw [<- bf];exact this
   .simp at h
  .rename_i b off n
   split at h
   .rename_i aB rw u xs hb
    split at h
    .rename_i bf
     have bf:=Z7 bf
     have r1:cm s (.a_ b off n) v:=r1
     have key:∀ q,(Q1 (i_ s.L (.a_ b off n)) fun m=>aa (Nat.blt q m) (KV (.ep b (Rh off q) 0) s.L) none)=some r ->
       ∃ m l,s.μ b=some m/\v=.slice (some ⟨m.z,m.sh+off*m.es,none⟩) l m.es/\q < l/\KV (.ep b (off+q) 0) s.L=some r:=by
      intro q h
      replace h:=ob h;obtain ⟨l,h4,h⟩:=h
      unfold aa at h;split at h
      .rename_i au
       have au:=BC au
       rcases XY hs r1 hb h4 with ⟨m,a1,a2,a3⟩ | ⟨_,_,rfl,_⟩
       .refine ⟨m,l,a1,a2,au,?_⟩
        rw [<- Qr6];exact h
       .omega
      .simp at h
     have hex:∃ a n' c,v=.slice (some a) n' c:=by
      unfold oW at h;split at h
      .rename_i nn
       cases hd:decide (0<=nn) with
       | true =>
        rw [hd] at h
        obtain ⟨m,l,_,rfl,_⟩:=key nn.toNat h;exact ⟨_,_,_,rfl⟩
       | false=>rw [hd] at h;simp [aa] at h
      .simp at h
     obtain ⟨a,n',c,rfl⟩:=hex
     simp only [wo,hu,h3,Q1]
     refine Df r2 h (fun q h=>?_)
     obtain ⟨m,l,hm,ev',au,h⟩:=key q h
     injection ev' with e5 e6 e7
     injection e5 with e5
     subst e5 e6 e7
     have:Nat.blt q n'=true:=Ko au
     simp only [this,aa]
     obtain ⟨a1,_⟩:=mS hs hb hm
     refine hK.here hs (p:=.ep b (off+q) 0) ⟨r1.1,m,hm,?_⟩ h
     rw [Nat.add_zero,Nat.add_mul,a1,bf,Nat.add_assoc]
    .simp at h
   .rename_i aB rw u xs ho hb
    split at h
    .rename_i bf
     simp only [Z8] at bf
     obtain ⟨bf,IB,vQ⟩:=bf
     have bf:=Z7 bf
     have IB:=Z7 IB
     subst IB
     have vQ:n=none:=by cases n<;>simp_all
     subst vQ
     have r1:cm s (.a_ b 0 none) v:=r1
     obtain ⟨_,_,cz⟩:=mT hs hb
     have hex:∃ q,KV (.ep b q 0) s.L=some r/\q < xs.length:=by
      unfold oW at h;split at h
      .rename_i nn
       cases hd:decide (0<=nn) with
       | true =>
        rw [hd] at h
        simp only [aa] at h
        split at h
        .rename_i au;exact ⟨_,h,BC au⟩
        .simp at h
       | false=>rw [hd] at h;simp [aa] at h
      .simp at h
     obtain ⟨q0,_,hq0⟩:=hex
     rcases cz with ⟨hm,rfl⟩ | ⟨m,k,hm,a1,a2,_⟩
     .simp at hq0
     have Ri:=r1
     obtain ⟨_,Ri⟩:=Ri
     rw [hm] at Ri
     obtain ⟨_,rfl⟩:=Ri
     simp only [wo,hu,h3,Q1]
     refine Df r2 h (fun q h=>?_)
     unfold aa at h;split at h
     .rename_i au
      have:Nat.blt q ((none:Option Nat).getD (m.n - 0))=true:=by simp [a2,au]
      simp only [this,aa]
      refine hK.here hs (p:=.ep b q 0) ⟨r1.1,m,hm,?_⟩ h
      rw [a1,<- bf];simp
     .simp at h
    .simp at h
   .simp at h
  .rename_i b i0 aB u l
   split at h
   .rename_i bf
    have bf:=Z7 bf
    obtain ⟨bG,vc,hval⟩:cm s (.rw b i0 aB u l) v:=r1
    rcases vc with ⟨e3,rfl⟩ | ⟨z,oo,rfl⟩
    .exfalso
     have:l=[]:=Z1 e3
     subst this
     unfold oW at h;split at h
     .unfold aa at h;split at h
      .simp [Q1] at h
      .simp at h
     .simp at h
    .simp only [wo,hu,h3,Q1]
     refine Df r2 h (fun n h=>?_)
     replace h:=ob h;obtain ⟨y,h4,h⟩:=h
     obtain ⟨au,e5⟩:=Z0 h4
     have:Nat.blt n l.length=true:=Ko au
     simp only [this,aa]
     have hmul:n*u.size+u.size<=l.length*u.size:=by
      have:=Zk u.size (show n+1<=l.length from au)
      rw [Nat.add_mul,Nat.one_mul] at this;exact this
     refine hK.here hs (p:=.rq b aB u y) ⟨bG,⟨z,oo+n*i.size,rfl⟩,fun B hB=>⟨(hval B hB).1,fun e=>?_⟩⟩ h
     obtain ⟨_,cz,_⟩:=(hval B hB).2 e
     rcases cz with ⟨_,e6⟩ | ⟨z',o',k,e6,g1,g2,g3,g4,g5,g6⟩
     .simp at e6
     .injection e6 with e6 _ _;injection e6 with e6;injection e6 with e6 e7 _;subst e6 e7
      have:=g6 n au
      rw [e5] at this
      exact ⟨z,oo+n*i.size,k,i0,rfl,g1,g2,by have:=g5.1;rw [<- bf];omega,by rw [<- bf];exact this⟩
   .simp at h
  .simp at h
 .rename_i n el hu
  replace h:=ob h;obtain ⟨i,h3,h⟩:=h
  replace h:=ob h;obtain ⟨u,h4,h⟩:=h
  split at h
  .rename_i b off
   split at h
   .rename_i aB rw u' xs ho hb
    split at h
    .rename_i hc
     simp only [Z8] at hc
     obtain ⟨IB,bf⟩:=hc
     have IB:=Z7 IB
     have bf:=Z7 bf
     subst IB
     obtain ⟨bG,m,hm,dH,rfl⟩:=r1
     obtain ⟨_,_,cz⟩:=mT hs hb
     simp only [fj,hu,h3,Q1]
     refine Df r2 h (fun k h=>?_)
     unfold aa at h
     split at h
     .rename_i au
      simp only [Z8] at au
      simp only [au.1,aa]
      have hk:=BC au.2
      rcases cz with ⟨_,rfl⟩ | ⟨m',kk,aE,a1,a2,_⟩
      .simp at hk
      rw [hm] at aE;injection aE with aE;subst aE
      refine hK.here hs (p:=.ep b k 0) ⟨bG,m,hm,?_⟩ h
      rw [dH,a1,<- bf];simp
     .simp at h
    .simp at h
   split at h
   .rename_i hc
    simp only [Z8] at hc
    have bf:=Z7 hc.1
    obtain ⟨hb,m,hm,dH,rfl⟩:=r1
    simp only [fj,hu,h3,Q1]
    refine Df r2 h (fun k h=>?_)
    unfold aa at h
    split at h
    .rename_i au
     simp only [au,aa]
     exact hK.here hs (p:=.dp b off n u k) ⟨hb,m,hm,dH,by rw [bf]⟩ h
    .simp at h
   .simp at h
  .simp at h
 .simp at h
end
theorem rE (l:List Value) (o:Nat) (ds:List Value) (h:o+ds.length<=l.length) (i:Nat):(lay l o ds)[i]? = if i < o then l[i]? else if i < o+ds.length then ds[i - o]? else l[i]?:=by
 unfold lay
 have h1:(l.take o).length=o:=by simp;omega
 split
 .rename_i hi
  rw [List.append_assoc,List.getElem?_append_left (by omega),List.getElem?_take_of_lt hi]
 .split
  .rename_i hi hj
   rw [List.append_assoc,Zq (by omega),h1,List.getElem?_append_left (by omega)]
  .rename_i hi hj
   rw [Zq (by simp;omega),Zp]
   congr 1;simp;omega
theorem Ib (l:List Value) (o:Nat) (ds:List Value) (h:o+ds.length<=l.length):(lay l o ds).length=l.length:=by
 unfold lay;simp;omega
def cw (l:List Value) (p n:Nat):List Value:=(l.drop p).take n
theorem sU (l:List Value) (p n i:Nat):(cw l p n)[i]? = if i < n then l[p+i]? else none:=by
 unfold cw
 split
 .rename_i h;rw [List.getElem?_take_of_lt h,Zp]
 .rename_i h;rw [List.getElem?_take_eq_none (by omega)]
theorem Dg (l:List Value) (p n:Nat) (h:p+n<=l.length):(cw l p n).length=n:=by unfold cw;simp;omega
theorem Qca (l:List Value) (o:Nat) (ds:List Value) (h:o+ds.length<=l.length) (p n:Nat) (hd:p+n<=o\/o+ds.length<=p):cw (lay l o ds) p n=cw l p n:=by
 apply List.ext_getElem?;intro i
 rw [sU,sU,rE l o ds h]
 split
 .split
  .rfl
  .split
   .omega
   .rfl
 .rfl
theorem Qdx (l:List Value) (o:Nat) (ds:List Value) (p n:Nat) (h1:p<=o) (h2:o+ds.length<=p+n) (h3:p+n<=l.length):cw (lay l o ds) p n=lay (cw l p n) (o - p) ds:=by
 have hl:=Dg l p n h3
 apply List.ext_getElem?;intro i
 rw [sU,rE l o ds (by omega),rE (cw l p n) (o - p) ds (by omega)]
 split
 .rename_i hi
  split
  .rename_i hj
   rw [if_pos (by omega),sU,if_pos hi]
  .rename_i hj
   split
   .rename_i hk
    rw [if_neg (by omega),if_pos (by omega)];congr 1;omega
   .rename_i hk
    rw [if_neg (by omega),if_neg (by omega),sU,if_pos hi]
 .rename_i hi
  rw [if_neg (by omega),if_neg (by omega),sU,if_neg hi]
theorem cm.plain {s:S} {p:PV} {v:Value} (h:cm s p v):Qa v v=true:=by
 cases p with
 | int k n=>obtain rfl:=h;simp [Qa]
 | bool b=>obtain rfl:=h;simp [Qa]
 | str b=>obtain rfl:=h;simp [Qa]
 | nil=>obtain rfl:=h;simp [Qa]
 | vM=>obtain rfl:=h;simp [Qa]
 | ro st t x =>
  have h':ax (s.NN st) s.H (.sl t) x [v]:=h
  unfold ax at h'
  rcases h' with ⟨_,e⟩ | ⟨_,_,_,e⟩ | ⟨_,_,_,e,_⟩<;>(simp at e;subst e;simp [Qa])
 | rp st t x=>obtain ⟨z,o,k,rfl,r⟩:=id h;simp [Qa]
 | a_ b off n =>
  obtain ⟨_,r⟩:=id h
  split at r
  .rw [r.2.2];simp [Qa]
  .rw [r.2];simp [Qa]
 | ep b j fo=>obtain ⟨_,m,_,rfl⟩:=id h;simp [Qa]
 | ptr b off=>obtain ⟨_,m,_,_,rfl⟩:=id h;simp [Qa]
 | mp b=>obtain ⟨_,m,_,rfl⟩:=id h;simp [Qa]
 | dp b off n u k=>obtain ⟨_,m,_,_,rfl⟩:=id h;simp [Qa]
 | hole=>exact h.2
 | rw b i aB t x=>obtain ⟨_,r,_⟩:=id h;rcases r with ⟨_,rfl⟩ | ⟨_,_,rfl⟩<;>simp [Qa]
 | rq b aB t x=>obtain ⟨_,⟨_,_,rfl⟩,_⟩:=id h;simp [Qa]
 | fn f a b=>exact absurd h id
 | agg cs=>exact absurd h id
 | kU cs=>exact absurd h id
 | undef=>exact absurd h id
theorem ax.plain {N:Nat->Prop} {H:af}:∀ (t:Ty) {x:t.T} {cs:List Value},ax N H t x cs->∀ v∈cs,Qa v v=true
 | .int _,_,_,h=>by unfold ax at h;subst h;simp [Qa]
 | .bool,_,_,h=>by unfold ax at h;subst h;simp [Qa]
 | .str,_,_,h=>by unfold ax at h;subst h;simp [Qa]
 | .sl t,_,_,h=>by
  unfold ax at h
  rcases h with ⟨_,rfl⟩ | ⟨_,_,_,rfl⟩ | ⟨_,_,_,rfl,_⟩<;>simp [Qa]
 | .os t,_,_,h=>by unfold ax at h;obtain ⟨v,rfl,hv⟩:=h;simpa using hv.2
 | .pair a b,_,cs,h=>by
  unfold ax at h
  intro v hv
  rw [<- List.take_append_drop a.size cs] at hv
  rcases List.mem_append.1 hv with hv | hv
  .exact ax.plain a h.1 v hv
  .exact ax.plain b h.2 v hv
theorem cq.plain {s:S}:∀ {cs:List PV} {vs:List Value},cq s cs vs->∀ v∈vs,Qa v v=true
 | [],[],_,v,hv=>by simp at hv
 | p::cs,w::vs,h,v,hv=>by
  rcases Z2 hv with rfl | hv
  .exact h.1.plain
  .exact cq.plain h.2 v hv
 | [],_::_,h,_,_=>by simp [cq,Qx] at h
 | _::_,[],h,_,_=>by simp [cq,Qx] at h
def RL (N:Nat->Prop) (H:af) (t:Ty) (xs:List t.T) (cells:List Value):Prop :=
 cells.length=xs.length*t.size/\∀ i (h:i < xs.length),ax N H t xs[i] (cw cells (i*t.size) t.size)
theorem j4 {i n k:Nat} (h:i < n):i*k+k<=n*k:=by
 have:=Zk k (show i+1<=n from h)
 rw [Nat.add_mul,Nat.one_mul] at this;exact this
theorem RL.append {N:Nat->Prop} {H:af} {t:Ty} {xs ys:List t.T} {c d:List Value} (h:RL N H t xs c) (g:RL N H t ys d):RL N H t (xs++ys) (c++d):=by
 refine ⟨by simp [h.1,g.1,Nat.add_mul],fun i hi=>?_⟩
 rcases Nat.lt_or_ge i xs.length with hx | hx
 .have:=h.2 i hx
  have e:cw (c++d) (i*t.size) t.size=cw c (i*t.size) t.size:=by
   have:=j4 (k:=t.size) hx
   unfold cw
   rw [List.drop_append_of_le_length (by rw [h.1];omega),List.take_append_of_le_length (by simp [h.1];omega)]
  rw [e,List.getElem_append_left hx];exact this
 .have hy:i - xs.length < ys.length:=by simp at hi;omega
  have:=g.2 (i - xs.length) hy
  have e:cw (c++d) (i*t.size) t.size=cw d ((i - xs.length)*t.size) t.size:=by
   have hle:xs.length*t.size<=i*t.size:=Zk _ hx
   unfold cw
   rw [List.drop_append,List.drop_of_length_le (by rw [h.1];exact hle),h.1,<- Nat.sub_mul]
   simp
  rw [e,List.getElem_append_right hx];exact this
theorem RL.frame {N M:Nat->Prop} {H G:af} {t:Ty} {xs:List t.T} {c:List Value} (r:RL N H t xs c) (h:∀ z,N z->z < H.length->M z/\ah G z=ah H z):RL M G t xs c :=
 ⟨r.1,fun i hi=>ax.frame h t (r.2 i hi)⟩
theorem RL.rep {N:Nat->Prop} {H:af} {t:Ty}:∀ (n:Nat) {x:t.T} {c:List Value},ax N H t x c->RL N H t (List.replicate n x) ((List.replicate n c).flatten)
 | 0,x,c,_=>by simp [RL]
 | n+1,x,c,h=>by
  have h1:RL N H t [x] c:=by
   have hl:=ax.len _ h
   refine ⟨by simp [hl],fun i hi=>?_⟩
   simp at hi;subst hi
   simp only [List.getElem_cons_zero,Nat.zero_mul]
   have:cw c 0 t.size=c:=by unfold cw;rw [List.drop_zero,Zs (by omega)]
   rw [this];exact h
  have:=h1.append (RL.rep n h)
  simpa [List.replicate_succ] using this
theorem RL.set {N:Nat->Prop} {H:af} {t:Ty} {xs:List t.T} {c:List Value} (r:RL N H t xs c) {i:Nat} (hi:i < xs.length) {x:t.T} {d:List Value} (h:ax N H t x d):RL N H t (xs.set i x) (lay c (i*t.size) d):=by
 have hl:=ax.len _ h
 have hm:=j4 (k:=t.size) hi
 refine ⟨by rw [Ib _ _ _ (by rw [hl,r.1];omega)];simp [r.1],fun j hj=>?_⟩
 simp at hj
 by_cases e:i=j
 .subst e
  rw [Qdx _ _ _ _ _ (Zd _) (by omega) (by rw [r.1];omega)]
  simp only [List.getElem_set_self,Nat.sub_self]
  have:lay (cw c (i*t.size) t.size) 0 d=d:=by
   unfold lay;simp only [List.take_zero,List.nil_append,Zo]
   rw [List.drop_of_length_le (by rw [Dg _ _ _ (by rw [r.1];omega)];omega)];simp
  rw [this];exact h
 .have hmj:=j4 (k:=t.size) hj
  have hd:j*t.size+t.size<=i*t.size\/i*t.size+d.length<=j*t.size:=by
   rcases Nat.lt_or_ge i j with h1 | h1
   .right;rw [hl];exact j4 h1
   .left;exact j4 (by omega)
  rw [Qca _ _ _ (by rw [hl,r.1];omega) _ _ hd]
  rw [List.getElem_set_ne e];exact r.2 j hj
theorem RL.oD {N:Nat->Prop} {H:af} {t:Ty} {xs:List t.T} {c:List Value} {sh:Nat} (h1:sh+xs.length*t.size<=c.length) (h2:∀ i (h:i < xs.length),ax N H t xs[i] ((c.drop (sh+i*t.size)).take t.size)):RL N H t xs ((c.drop sh).take (xs.length*t.size)):=by
 refine ⟨by simp;omega,fun i hi=>?_⟩
 have:=h2 i hi
 have hm:=j4 (k:=t.size) hi
 unfold cw;rw [List.drop_take,List.take_take,Nat.min_eq_left (by omega),List.drop_drop];exact this
theorem RL.plain {N:Nat->Prop} {H:af} {t:Ty} {xs:List t.T} {c:List Value} (r:RL N H t xs c):∀ v∈c,Qa v v=true:=by
 intro v hv
 obtain ⟨i,hi,ei⟩:=List.getElem_of_mem hv
 have eU:=Ty.size_pos t
 have hq:i / t.size < xs.length:=by
  rw [Nat.div_lt_iff_lt_mul eU,<- r.1];exact hi
 refine ax.plain _ (r.2 _ hq) v ?_
 have AA:=Nat.mod_lt i eU
 have M6:=Nat.div_add_mod i t.size
 refine List.mem_iff_getElem?.2 ⟨i % t.size,?_⟩
 rw [sU,if_pos AA,show i / t.size*t.size+i % t.size=i by rw [Nat.mul_comm];exact M6,Z6 hi,ei]
theorem Qr8 {c d:List Value} {o:Nat} {v:Value} (h:v∈lay c o d):v∈c\/v∈d:=by
 unfold lay at h
 simp only [Zh] at h
 rcases h with (h | h) | h
 .exact .inl (List.mem_of_mem_take h)
 .exact .inr h
 .exact .inl (List.mem_of_mem_drop h)
theorem Qu3 {c d:List Value} {sh p:Nat} (h:sh+p+d.length<=c.length):(lay c (sh+p) d).drop sh=lay (c.drop sh) p d:=by
 apply List.ext_getElem?;intro i
 rw [Zp,rE _ _ _ (by omega),rE _ _ _ (by simp;omega)]
 by_cases c2:i < p
 .rw [if_pos (by omega),if_pos c2,Zp]
 .rw [if_neg (by omega),if_neg c2]
  by_cases c3:i < p+d.length
  .rw [if_pos (by omega),if_pos c3];congr 1;omega
  .rw [if_neg (by omega),if_neg c3,Zp]
theorem Fit.lay {c d:List Value} {sh p n:Nat} (h:Fit sh n c) (hp:sh+p+d.length<=c.length) (hd:∀ v∈d,Qa v v=true):Fit sh n (lay c (sh+p) d):=by
 refine ⟨by rw [Ib _ _ _ (by omega)];exact h.1,fun v hv=>?_⟩
 rw [Qu3 hp] at hv
 rcases Qr8 hv with hv | hv
 .exact h.2 v hv
 .exact hd v hv
theorem Fit.sub {c:List Value} {sh n p q:Nat} (h:Fit sh n c) (hq:p+q<=n):Fit (sh+p) q c:=by
 have:=h.1
 refine ⟨by omega,fun v hv=>h.2 v ?_⟩
 rw [<- List.drop_drop] at hv
 exact List.mem_of_mem_drop hv
theorem Qr9 {c d:List Value} {sh p L:Nat} (h1:sh+L<=c.length) (h2:p+d.length<=L):((lay c (sh+p) d).drop sh).take L=lay ((c.drop sh).take L) p d:=by
 apply List.ext_getElem?;intro i
 have hl:((c.drop sh).take L).length=L:=by simp;omega
 rw [List.getElem?_take,rE _ _ _ (by omega)]
 by_cases c1:i < L
 .rw [if_pos c1,Zp,rE _ _ _ (by omega)]
  by_cases c2:i < p
  .rw [if_pos (by omega),if_pos c2,List.getElem?_take,if_pos c1,Zp]
  .rw [if_neg (by omega),if_neg c2]
   by_cases c3:i < p+d.length
   .rw [if_pos (by omega),if_pos c3];congr 1;omega
   .rw [if_neg (by omega),if_neg c3,List.getElem?_take,if_pos c1,Zp]
 .rw [if_neg c1,if_neg (by omega),if_neg (by omega),List.getElem?_take,if_neg c1]
theorem Qu4 {D d:List Value} {p fo z:Nat} (h1:p+z<=D.length) (h2:fo+d.length<=z):lay D (p+fo) d=lay D p (lay (cw D p z) fo d):=by
 have hs:(cw D p z).length=z:=Dg _ _ _ h1
 have hl:(lay (cw D p z) fo d).length=z:=by rw [Ib _ _ _ (by omega)];exact hs
 apply List.ext_getElem?;intro i
 rw [rE _ _ _ (by omega),rE _ _ _ (by omega),hl]
 by_cases c1:i < p
 .rw [if_pos (by omega),if_pos c1]
 .rw [if_neg c1]
  by_cases c2:i < p+z
  .rw [if_pos c2,rE _ _ _ (by omega)]
   by_cases c3:i - p < fo
   .rw [if_pos (by omega),if_pos c3,sU,if_pos (by omega)];congr 1;omega
   .rw [if_neg (by omega),if_neg c3]
    by_cases c4:i - p < fo+d.length
    .rw [if_pos (by omega),if_pos c4];congr 1;omega
    .rw [if_neg (by omega),if_neg c4,sU,if_pos (by omega)];congr 1;omega
  .rw [if_neg (by omega),if_neg (by omega),if_neg c2]
theorem RL.sub {N:Nat->Prop} {H:af} {t:Ty} {xs:List t.T} {c:List Value} {sh off n:Nat} (h1:sh+xs.length*t.size<=c.length) (h2:∀ i (h:i < xs.length),ax N H t xs[i] ((c.drop (sh+i*t.size)).take t.size)) (h:off+n<=xs.length):RL N H t ((xs.drop off).take n) ((c.drop (sh+off*t.size)).take (n*t.size)):=by
 have hm:(off+n)*t.size<=xs.length*t.size:=Zk _ h
 rw [Nat.add_mul] at hm
 have hn:((xs.drop off).take n).length=n:=by simp;omega
 refine ⟨by rw [hn];simp;omega,fun i hi=>?_⟩
 rw [hn] at hi
 have:=h2 (off+i) (by omega)
 have oy:=j4 (k:=t.size) hi
 rw [List.getElem_take,List.getElem_drop]
 unfold cw;rw [List.drop_take,List.take_take,Nat.min_eq_left (by omega),List.drop_drop]
 rw [Nat.add_mul] at this
 rw [show sh+off*t.size+i*t.size=sh+(off*t.size+i*t.size) by omega];exact this
theorem RL.drop {N:Nat->Prop} {H:af} {t:Ty} {xs:List t.T} {c:List Value} (r:RL N H t xs c) (k:Nat) (hk:k<=xs.length):RL N H t (xs.drop k) (c.drop (k*t.size)):=by
 refine ⟨by simp [r.1,Nat.sub_mul],fun i hi=>?_⟩
 simp at hi
 have:=r.2 (k+i) (by omega)
 rw [List.getElem_drop]
 have e:cw (c.drop (k*t.size)) (i*t.size) t.size=cw c ((k+i)*t.size) t.size:=by
  unfold cw;rw [List.drop_drop,Nat.add_mul]
 rw [e];exact this
theorem RL.take {N:Nat->Prop} {H:af} {t:Ty} {xs:List t.T} {c:List Value} (r:RL N H t xs c) (k:Nat) (hk:k<=xs.length):RL N H t (xs.take k) (c.take (k*t.size)):=by
 have hm:k*t.size<=xs.length*t.size:=Zk _ hk
 refine ⟨by simp [r.1,Nat.min_eq_left hk],fun i hi=>?_⟩
 simp at hi
 have:=r.2 i (by omega)
 rw [List.getElem_take]
 have vF:=j4 (k:=t.size) (show i < k by omega)
 have e:cw (c.take (k*t.size)) (i*t.size) t.size=cw c (i*t.size) t.size:=by
  unfold cw;rw [List.drop_take,List.take_take,Nat.min_eq_left (by omega)]
 rw [e];exact this
theorem XZ {N:Nat->Prop} {H:af} {s:S}:∀ (t:Ty) {l:List PV} {vs:List Value},BH t l=true->cq s l vs->ax N H t (sS t) vs
 | .int k,l,vs,h,hr=>by
  unfold BH at h
  split at h
  .simp only [Z8,Zj,beq_iff_eq] at h
   obtain ⟨rfl,rfl⟩:=h
   obtain ⟨v,rfl,hv⟩:=hr.one
   obtain rfl:=hv
   unfold ax sS;rfl
  .simp at h
 | .bool,l,vs,h,hr=>by
  unfold BH at h
  split at h
  .simp at h;subst h
   obtain ⟨v,rfl,hv⟩:=hr.one
   obtain rfl:=hv
   unfold ax sS;rfl
  .simp at h
 | .str,l,vs,h,hr=>by
  unfold BH at h
  split at h
  .rename_i b
   obtain ⟨v,rfl,hv⟩:=hr.one
   obtain rfl:=hv
   unfold ax sS
   have:b=⟨#[]⟩:=by
    obtain ⟨⟨d⟩⟩:=b
    simp [List.isEmpty_iff] at h;subst h;rfl
   rw [this]
  .simp at h
 | .sl t,l,vs,h,hr=>by
  unfold BH at h
  split at h
  .obtain ⟨v,rfl,hv⟩:=hr.one
   obtain rfl:=hv
   unfold ax sS;exact .inl ⟨rfl,rfl⟩
  .simp at h
 | .pair a b,l,vs,h,hr=>by
  unfold BH at h
  simp only [Z8] at h
  unfold sS
  exact ax.iu (XZ a h.1 (Qx.take _ hr)) (XZ b h.2 (Qx.drop _ hr))
theorem WR {N:Nat->Prop} {H:af} (s:S) {z:Value} {t:Ty} (h:IC z t=true):ax N H t (sS t) z.cells.toList:=by
 unfold IC at h
 split at h
 .rename_i l hl
  exact XZ t h (Km (s:=s) hl).1
 .simp at h
section
variable {A:cM} {β γ:Type} {s:S} {env:bA} {e:Env} {X:nq A β} {XE:Cx} {o:Oper} {KV:PV->LS->Option β} {KE:Value->af->Option γ} {r:β} {Q:γ->Prop}
theorem Rj {t:TypeId} {i:TypeInfo} {z:Value} {w:Ty} {st zz oo:Nat} {k:bz} {y:w.T} (hi:XE.P.info? t=some i) (hz:i.zero=some z) (hw:jO XE.P 8 t=some w) (bf:w.size=i.size)
  (hk:ah s.H zz=some k) (hle:oo+w.size<=k.cells.length) (hr:ax (s.NN st) s.H w y ((k.cells.drop oo).take w.size)) (hf:ny z (kT w (gx st w y))=true) (hs:aD s) (hK:eJ s r KV KE Q) (h:KV (kT w (gx st w y)) s.L=some r) :
  ∃ q,(Q1 (XE.P.info? t) fun i=>match XE.P.underlying t with
   | some (.struct _) | some (.array _ _)=>Q1 (Qv s.H ⟨zz,oo,none⟩ i.size) fun l=>match i.zero with
    | some z=>wu z (.agg l.toArray) fun u=>KE u s.H
    | none=>none
   | some _=>Q1 (gQ s.H ⟨zz,oo,none⟩) fun u=>match i.zero with
    | some z=>wq z u fun u=>KE u s.H
    | none=>none
   | none=>none)=some q/\Q q:=by
 have hlen:=ax.len _ hr
 rw [hi];simp only [Q1]
 rcases Re hw with ⟨d,a,b,hu,hd,rfl⟩ | ⟨d,hu,vK,oE,Kl⟩
 .have gA:Qv s.H ⟨zz,oo,none⟩ i.size=some ((k.cells.drop oo).take i.size):=by
   unfold Qv;simp only [hk,Q1]
   have:Nat.ble (oo+i.size) k.cells.length=true:=Nat.ble_eq_true_of_le (by omega)
   rw [this]
  rw [bf] at hr
  have ha:AR s (kT (.pair a b) (gx st (.pair a b) y)) (.agg ((k.cells.drop oo).take i.size).toArray):=NI (t:=.pair a b) rfl hr
  rcases hd with ⟨fs,rfl⟩ | ⟨n,e,rfl⟩
  .rw [hu]
   simp only [gA,hz]
   rw [Fj ha hf]
   exact hK.here hs (ER.of ha) h
  .rw [hu]
   simp only [gA,hz]
   rw [Fj ha hf]
   exact hK.here hs (ER.of ha) h
 .have Fz:w.size=1:=by cases w<;>first | rfl | exact absurd rfl (Kl _ _)
  obtain ⟨u,BI⟩:∃ u,(k.cells.drop oo).take w.size=[u]:=by
   match hc:(k.cells.drop oo).take w.size with
   | [u]=>exact ⟨u,rfl⟩
   | []=>rw [hc] at hlen;simp at hlen;omega
   | _::_::_=>rw [hc] at hlen;simp at hlen;omega
  have gA:gQ s.H ⟨zz,oo,none⟩=some u:=by
   unfold gQ;simp only [hk,Q1]
   have:((k.cells.drop oo).take w.size)[0]? = some u:=by rw [BI];rfl
   rw [List.getElem?_take_of_lt (by omega),Zp] at this;simpa using this
  have ha:AR s (kT w (gx st w y)) u:=by
   refine NI (cs:=[u]) ?_ (by rw [<- BI];exact hr)
   cases w<;>first | rfl | exact absurd rfl (Kl _ _)
  have hv:wq z u (fun u=>KE u s.H)=KE u s.H:=by
   refine NL ha ?_ _
   have Ju:∀ cs,kT w (gx st w y)≠.agg cs:=by
    intro cs;cases w<;>first | exact absurd rfl (Kl _ _) | (simp [kT,gx])
   unfold ny at hf;split at hf
   .rename_i e1;exact absurd e1 (Ju _)
   .simp at hf
   .exact hf
  rw [hu]
  cases d<;>first | exact absurd rfl (vK _) | exact absurd rfl (oE _ _) | (simp only [gA,hz];rw [hv];exact hK.here hs (ER.of ha) h)
theorem Qxg {z:Nat} (h:s.N z):s.NN s.L.ct z:=S.gu h
theorem Qra {δ:Type} {b aB:Nat} {u:Ty} {xs:List (List u.T)}:∀ (n i:Nat) (K:List PV->Option δ),Dh b aB u xs i n K=Q1 (ID b aB u xs i n) K
 | 0,i,K=>rfl
 | n+1,i,K=>by
  simp only [Dh,ID]
  cases xs[i]? with
  | none=>rfl
  | some x =>
   simp only [Q1]
   rw [Qra n (i+1)]
   cases ID b aB u xs (i+1) n<;>rfl
theorem Qme {b aB:Nat} {Fg:Bool} {u:Ty} {xs:List (List u.T)} {ho:Option Nat} {m:MB} {k:bz} (bG:b < s.L.bl.length) (hb:Qi s.L b=some ⟨aB,Fg,.rows u xs ho⟩) (cJ:u.flat=true) (hm:s.μ b=some m) (hk:ah s.H m.z=some k) (dH:m.sh=0)
  (hr:∀ i (hi:i < xs.length),∃ v,k.cells[i]? = some v/\iE (fun z=>s.br z=some (b,i)) s.H s.ai u xs[i] v):∀ {n i:Nat} {l:List PV},ID b aB u xs i n=some l->(n=0\/i+n<=xs.length)/\cq s l ((k.cells.drop i).take n)
 | 0,i,l,h=>by
  simp [ID] at h;subst h
  exact ⟨.inl rfl,by simp [cq,Qx]⟩
 | n+1,i,l,h=>by
  simp only [ID] at h
  replace h:=ob h;obtain ⟨x,h1,h⟩:=h
  replace h:=ob h;obtain ⟨l',h2,h⟩:=h
  simp at h;subst h
  obtain ⟨hi,ei⟩:=Z0 h1
  obtain ⟨g1,g2⟩:=Qme bG hb cJ hm hk dH hr h2
  obtain ⟨v,q1,q2⟩:=hr i hi
  rw [ei] at q2
  obtain ⟨hci,eci⟩:=Z0 q1
  refine ⟨.inr (by omega),?_⟩
  rw [List.drop_eq_getElem_cons hci,eci,List.take_succ_cons]
  refine ⟨⟨bG,q2.sl,fun B hB=>?_⟩,g2⟩
  rw [hb] at hB;injection hB with hB;subst hB
  refine ⟨Zd _,fun _=>⟨cJ,q2,?_⟩⟩
  intro B2 e2 WI vz m2 k2 f1 f2 f3 f4 y gy
  rw [hb] at f1;injection f1 with f1;subst f1
  injection f2 with f21 f22 f23
  subst f21
  replace f22:=eq_of_heq f22;subst f22
  rw [hm] at f3;injection f3 with f3;subst f3
  rw [hk] at f4;injection f4 with f4;subst f4
  rw [h1] at gy;injection gy with gy;subst gy
  refine ⟨Zd _,fun _=>?_⟩
  rw [dH,Zo];exact q1
theorem Qu5 {t:TypeId} {a:Operand} (hP:X.P=XE.P) (ho:o.op=.load t a) (hs:aD s) (he:cI s env e) (hK:eJ s r KV KE Q) (h:di X o env s.L KV=some r):∃ y,dx XE o e s.H KE=some y/\Q y:=by
 simp only [di,ho] at h;simp only [dx,ho]
 split at h
 .rename_i v hg
  unfold Qvv at hg
  split at hg
  .rename_i w hw
   rw [<- hP,hw]
   exact hK v w s (aj.refl s) hs (Qry hg).1 h
  .simp at hg
 replace h:=ob h;obtain ⟨p,h1,h⟩:=h
 replace h:=ob h;obtain ⟨i,h2,h⟩:=h
 replace h:=ob h;obtain ⟨z,h3,h⟩:=h
 obtain ⟨v,e1,r1⟩:=fM he h1
 rw [KC e1]
 rw [e1];simp only [Q1]
 rw [hP] at h2
 split at h
 .simp at h
 .rename_i d hu
  split at h
  .rename_i st u x
   replace h:=ob h;obtain ⟨w,h4,h⟩:=h
   replace h:=ob h;obtain ⟨y,h5,h⟩:=h
   split at h
   .rename_i hf bf
    have e5:=Qr h5;subst e5
    have:=Qg h5;subst this
    obtain ⟨zz,oo,k,rfl,hn,hk,hl,hr⟩:=r1
    simp only [fj]
    rw [hP] at h4
    exact Rj h2 h3 h4 (Z7 bf) hk hl hr hf hs hK h
   .simp at h
  .rename_i b j fo
   split at h
   .rename_i aB rw u xs hb
    replace h:=ob h;obtain ⟨w,h4,h⟩:=h
    replace h:=ob h;obtain ⟨x,h5,h⟩:=h
    replace h:=ob h;obtain ⟨y,h6,h⟩:=h
    split at h
    .rename_i hf bf
     obtain ⟨bG,m,hm,rfl⟩:=r1
     simp only [fj]
     rw [hP] at h4
     obtain ⟨a1,a2,k,a3,a4,a5,a6,a7⟩:=mS hs hb hm
     obtain ⟨hj,ej⟩:=Z0 h5
     have cZ:=a5 j hj
     rw [ej] at cZ
     obtain ⟨g1,g2⟩:=XX _ _ h6 cZ
     have vF:=j4 (k:=u.size) hj
     refine Rj (st:=s.L.ct) (zz:=m.z) (oo:=m.sh+j*m.es+fo) h2 h3 h4 (Z7 bf) a3 (by rw [a1];omega) ?_ hf hs hK h
     have:(((k.cells.drop (m.sh+j*u.size)).take u.size).drop fo).take w.size=(k.cells.drop (m.sh+j*m.es+fo)).take w.size:=by
      rw [List.drop_take,List.take_take,Nat.min_eq_left (by omega),List.drop_drop,a1]
     rw [this] at g1
     exact ax.mono (fun z hz=>Qxg hz) w g1
    .simp at h
   .rename_i aB u xs hb
    replace h:=ob h;obtain ⟨w,h4,h⟩:=h
    replace h:=ob h;obtain ⟨x,h5,h⟩:=h
    split at h
    .rename_i hf bf
     simp only [Z8] at bf
     have X4:=Z7 bf.1
     subst X4
     have hw:=Ty.beq_eq bf.2
     subst hw
     obtain ⟨bG,m,hm,rfl⟩:=r1
     simp only [fj]
     rw [hP] at h4 hu
     obtain ⟨hj,ej⟩:=Z0 h5
     obtain ⟨_,cJ,⟨fV,rfl⟩ | ⟨m',k,aE,a1,a2,a3,a4,a5,a6,a7⟩⟩:=mT hs hb
     .simp at hj
     rw [hm] at aE;injection aE with aE;subst aE
     obtain ⟨v,q1,q2⟩:=a7 j hj (by simp)
     rw [ej] at q2
     have gA:gQ s.H ⟨m.z,m.sh+j*m.es+0,none⟩=some v:=by
      unfold gQ;simp only [a3,Q1,a1,Nat.mul_one,Nat.add_zero];exact q1
     have whole:Qvx s b j x.length v:=by
      intro B2 e2 WI vz m2 k2 g1 g2 g3 g4 y gy
      rw [hb] at g1;injection g1 with g1;subst g1
      injection g2 with g21 g22 g23
      subst g21
      replace g22:=eq_of_heq g22;subst g22
      rw [hm] at g3;injection g3 with g3;subst g3
      rw [a3] at g4;injection g4 with g4;subst g4
      rw [h5] at gy;injection gy with gy;subst gy
      refine ⟨Zd _,fun _=>?_⟩
      exact q1
     have W4:cm s (.rw b j aB u x) v:=⟨bG,q2.sl,fun B hB=>by rw [hb] at hB;injection hB with hB;subst hB;exact ⟨Zd _,fun _=>⟨cJ,q2,whole⟩⟩⟩
     have hv:wq z v (fun u=>KE u s.H)=KE v s.H:=by
      refine NL (AR.of W4) ?_ _
      unfold ny at hf;split at hf
      .rename_i e1;simp at e1
      .simp at hf
      .exact hf
     rcases Re h4 with ⟨d',a,b',dA,hd,e⟩ | ⟨d',dA,vK,oE,_⟩
     .simp at e
     .rw [h2,dA];simp only [Q1]
      cases d'<;>first | exact absurd rfl (vK _) | exact absurd rfl (oE _ _) | (simp only [gA,h3];rw [hv];exact hK.here hs (ER.fq W4) h)
    .simp at h
   .simp at h
  .rename_i b aB u x
   split at h
   .rename_i v' t' xs' h' hb
    split at h
    .rename_i hv
     have hv:=Z7 hv
     replace h:=ob h;obtain ⟨w,h4,h⟩:=h
     replace h:=ob h;obtain ⟨y,h7,h⟩:=h
     split at h
     .rename_i hf bf
      simp only [Z8] at bf
      have e7:=Qr h7;subst e7
      have:=Qg h7;subst this
      obtain ⟨bG,⟨z0,o0,rfl⟩,hval⟩:=r1
      obtain ⟨z',o',k,j,e1,g1,g2,g3,g4⟩:=(hval _ hb).2 hv
      injection e1 with e1;injection e1 with e1;injection e1 with e1 e2 _;subst e1 e2
      simp only [fj]
      rw [hP] at h4
      exact Rj (st:=s.L.ct) h2 h3 h4 (Z7 bf.1) g2 (by omega) (ax.flat u bf.2 g4) hf hs hK h
     .simp at h
    .simp at h
   .simp at h
  .rename_i b off
   split at h
   .rename_i aB rw cs hb
    obtain ⟨bG,m,hm,dH,rfl⟩:=r1
    have hB:=hs.aH b _ hb
    unfold BR at hB;simp only at hB
    obtain ⟨_,m',k,aE,_,hk,cx,bh,aI⟩:=hB
    rw [hm] at aE;injection aE with aE;subst aE
    have hl:=Qx.length cx
    simp only [fj,h2,Q1]
    rw [hP] at hu
    split at h
    .rename_i fs
     split at h
     .rename_i hle hf
      have hle:=Zi hle
      rw [hu]
      have gA:Qv s.H ⟨m.z,off,none⟩ i.size=some ((k.cells.drop off).take i.size):=by
       unfold Qv;simp only [hk,Q1]
       have:Nat.ble (off+i.size) k.cells.length=true:=Nat.ble_eq_true_of_le (by omega)
       rw [this]
      simp only [gA,h3]
      have ha:AR s (.agg ((cs.drop off).take i.size)) (.agg ((k.cells.drop off).take i.size).toArray):=⟨_,rfl,Qx.take _ (Qx.drop _ cx)⟩
      rw [Fj ha hf]
      exact hK.here hs (ER.of ha) h
     .simp at h
    .rename_i nn ee
     split at h
     .rename_i hle hf
      have hle:=Zi hle
      rw [hu]
      have gA:Qv s.H ⟨m.z,off,none⟩ i.size=some ((k.cells.drop off).take i.size):=by
       unfold Qv;simp only [hk,Q1]
       have:Nat.ble (off+i.size) k.cells.length=true:=Nat.ble_eq_true_of_le (by omega)
       rw [this]
      simp only [gA,h3]
      have ha:AR s (.agg ((cs.drop off).take i.size)) (.agg ((k.cells.drop off).take i.size).toArray):=⟨_,rfl,Qx.take _ (Qx.drop _ cx)⟩
      rw [Fj ha hf]
      exact hK.here hs (ER.of ha) h
     .simp at h
    .rename_i oE hd
     replace h:=ob h;obtain ⟨u,h5,h⟩:=h
     split at h
     .rename_i hf
      obtain ⟨w,g1,g2⟩:=Qx.get _ cx h5
      have gA:gQ s.H ⟨m.z,off,none⟩=some w:=by
       unfold gQ;simp only [hk,Q1];exact g1
      have hv:wq z w (fun u=>KE u s.H)=KE w s.H:=NL (AR.of g2) hf _
      rw [hu]
      cases d<;>first | exact absurd rfl (oE _) | exact absurd rfl (hd _ _) | (simp only [gA,h3];rw [hv];exact hK.here hs (ER.fq g2) h)
     .simp at h
   .rename_i aB u xs hb
    split at h
    .rename_i n ee
     rw [Qra] at h
     replace h:=ob h;obtain ⟨l,h4,h⟩:=h
     split at h
     .rename_i hf hc
      simp only [Z8] at hc
      have ho:=Z7 hc.1
      have bf:=Z7 hc.2
      subst ho
      obtain ⟨bG,m,hm,dH,rfl⟩:=r1
      obtain ⟨_,cJ,cz⟩:=mT hs hb
      simp only [fj,h2,Q1]
      rw [hP] at hu
      rw [hu]
      rcases cz with ⟨fV,_⟩ | ⟨m',k,aE,a1,a2,a3,a4,a5,a6,a7⟩
      .rw [hm] at fV;simp at fV
      rw [hm] at aE;injection aE with aE;subst aE
      rw [dH] at a4 a7
      obtain ⟨hn,iz⟩:=Qme bG hb cJ hm a3 dH (fun i hi=>by have:=a7 i hi (by simp);rw [Zo] at this;exact this) h4
      have hle:n<=k.cells.length:=by
       have:=a4.1;omega
      have gA:Qv s.H ⟨m.z,0,none⟩ i.size=some (k.cells.take i.size):=by
       unfold Qv;simp only [a3,Q1]
       have:Nat.ble (0+i.size) k.cells.length=true:=Nat.ble_eq_true_of_le (by omega)
       rw [this];simp
      simp only [gA,h3]
      have ha:AR s (.agg l) (.agg (k.cells.take i.size).toArray):=⟨_,rfl,by rw [bf];simpa using iz⟩
      rw [Fj ha hf]
      exact hK.here hs (ER.of ha) h
     .simp at h
    .simp at h
   .simp at h
  .rename_i b off n u k0
   split at h
   .rename_i aB Fg cs hb
    replace h:=ob h;obtain ⟨w,h4,h⟩:=h
    replace h:=ob h;obtain ⟨xs,h5,h⟩:=h
    replace h:=ob h;obtain ⟨x,h6,h⟩:=h
    replace h:=ob h;obtain ⟨y,h7,h⟩:=h
    split at h
    .rename_i hf bf
     simp only [Z8] at bf
     have e7:=Qr h7;subst e7
     have:=Qg h7;subst this
     obtain ⟨bG,m,hm,dH,rfl⟩:=r1
     simp only [fj]
     rw [hP] at h4
     have hB:=hs.aH b _ hb
     unfold BR at hB;simp only at hB
     obtain ⟨_,m',k,aE,_,hk,cx,bh,aI⟩:=hB
     rw [hm] at aE;injection aE with aE;subst aE
     obtain ⟨g1,g2,g3⟩:=Rf hs u (Qx.drop off cx) h5
     obtain ⟨Jv,ek⟩:=Z0 h6
     have cZ:=g3 k0 Jv
     rw [ek,List.drop_drop] at cZ
     have vF:=j4 (k:=u.size) Jv
     rw [g1] at vF
     simp only [List.length_drop] at g2
     have eU:=Ty.size_pos u
     exact Rj (st:=s.L.ct) h2 h3 h4 (Z7 bf.1) hk (by omega) (ax.flat u bf.2 cZ) hf hs hK h
    .simp at h
   .simp at h
  .simp at h
end
section
variable {A:cM} {β γ:Type} {s:S} {env:bA} {e:Env} {X:nq A β} {XE:Cx} {o:Oper} {KV:PV->LS->Option β} {KE:Value->af->Option γ} {r:β} {Q:γ->Prop}
theorem eJ.keep {s':S} (hk:aj s s') (hK:eJ s r KV KE Q):eJ s' r KV KE Q:=fun pv v t de=>hK pv v t (hk.trans de)
theorem Qdy (hs:aD s) {cs:List PV} {vs:List Value} (hr:cq s cs vs):∃ s',s'.L=Qw s.L (.cells cs)/\s'.H=dn s.H vs/\aj s s'/\aD s'/\cm s' (.ptr s.L.bl.length 0) (.pointer (some ⟨s.H.length,0,none⟩)):=by
 obtain ⟨s',e1,e2,e3,hk,bY⟩:=hs.push (.cells cs) vs ⟨s.H.length,0,0,0⟩ rfl (fun s' hk hm hg hN=>by
  unfold BR;simp only
  exact ⟨trivial,_,_,hm,rfl,hg,hk.cq hr,rfl,by rw [hk.ai];exact hs.dX⟩)
 exact ⟨s',e1,e2,hk,bY,by rw [e1,Qk];omega,_,e3,rfl,rfl⟩
theorem E1 (hs:aD s) {t:Ty} {xs:List t.T} {cells:List Value} (hr:RL s.N s.H t xs cells):∃ s',s'.L=Qw s.L (.arr t xs)/\s'.H=dn s.H cells/\aj s s'/\aD s'/\cm s' (.a_ s.L.bl.length 0 none) (.slice (some ⟨s.H.length,0,none⟩) xs.length t.size):=by
 obtain ⟨s',e1,e2,e3,hk,bY⟩:=hs.push (.arr t xs) cells ⟨s.H.length,0,t.size,xs.length⟩ rfl (fun s' hk hm hg hN=>by
  unfold BR;simp only [hm]
  refine ⟨trivial,trivial,_,hg,⟨by simp [hr.1],fun v hv=>hr.plain v (by simpa using hv)⟩,fun i hi=>?_,fun _=>⟨rfl,by rw [hk.ai];exact hs.dX⟩,fun e=>absurd e (by decide)⟩
  have:=hk.vD (hr.2 i hi)
  unfold cw at this;rw [Zo];exact this)
 refine ⟨s',e1,e2,hk,bY,by rw [e1,Qk];omega,?_⟩
 rw [e3];simp
theorem Qo0 (hs:aD s) {t:Ty} (hf:t.flat=true) (n:Nat):∃ s',s'.L=Qw s.L (.rows t (List.replicate n []) none)/\s'.H=dn s.H (List.replicate n (.slice none 0 0))/\aj s s'/\aD s'/\cm s' (.a_ s.L.bl.length 0 none) (.slice (some ⟨s.H.length,0,none⟩) n 1):=by
 obtain ⟨s',e1,e2,e3,hk,bY⟩:=hs.push (.rows t (List.replicate n []) none) (List.replicate n (.slice none 0 0)) ⟨s.H.length,0,1,n⟩ rfl (fun s' hk hm hg hN=>by
  unfold BR;simp only [hm]
  refine ⟨trivial,hf,trivial,by simp,_,hg,⟨by simp,fun v hv=>?_⟩,rfl,by rw [hk.ai];exact hs.dX,fun i hi _=>?_⟩
  .have:=List.mem_of_mem_drop hv
   rw [List.mem_replicate] at this;rw [this.2];simp [Qa]
  .simp at hi
   exact ⟨.slice none 0 0,by simp [hi],.inl ⟨by simp,rfl⟩⟩)
 refine ⟨s',e1,e2,hk,bY,by rw [e1,Qk];omega,?_⟩
 rw [e3];simp
theorem Qo1 (hs:aD s) {t:Ty} (hf:t.flat=true) (n:Nat):∃ s',s'.L=Qw s.L (.rows t (List.replicate n []) none)/\s'.H=dn s.H (List.replicate n (.slice none 0 0))/\aj s s'/\aD s'/\cm s' (.ptr s.L.bl.length 0) (.pointer (some ⟨s.H.length,0,none⟩)):=by
 obtain ⟨s',e1,e2,e3,hk,bY⟩:=hs.push (.rows t (List.replicate n []) none) (List.replicate n (.slice none 0 0)) ⟨s.H.length,0,1,n⟩ rfl (fun s' hk hm hg hN=>by
  unfold BR;simp only [hm]
  refine ⟨trivial,hf,trivial,by simp,_,hg,⟨by simp,fun v hv=>?_⟩,rfl,by rw [hk.ai];exact hs.dX,fun i hi _=>?_⟩
  .have:=List.mem_of_mem_drop hv
   rw [List.mem_replicate] at this;rw [this.2];simp [Qa]
  .simp at hi
   exact ⟨.slice none 0 0,by simp [hi],.inl ⟨by simp,rfl⟩⟩)
 exact ⟨s',e1,e2,hk,bY,by rw [e1,Qk];omega,_,e3,rfl,rfl⟩
theorem Qmf:∀ {n:Nat} {l:List Value},Kp n l=true->l=List.replicate n (.slice none 0 0)
 | 0,[],_=>rfl
 | 0,_::_,h=>by simp [Kp] at h
 | n+1,[],h=>by simp [Kp] at h
 | n+1,v::r,h=>by
  unfold Kp at h
  split at h
  .simp_all
  .rename_i rF IE
   injection rF with rF
   injection IE with e1 e2
   subst e1 e2 rF
   rw [List.replicate_succ,Qmf h]
  .simp at h
theorem Qkp {P:Program} {t:TypeId} {n:Nat} {u:Ty} (h:X5 P t=some (n,u)):u.flat=true:=by
 unfold X5 at h
 split at h
 .split at h
  .split at h
   .rename_i hf
    simp only [Option.some.injEq,Prod.mk.injEq] at h
    obtain ⟨_,rfl⟩:=h;exact hf
   .simp at h
  .simp at h
 .simp at h
theorem Qis {z:Value} {t:Ty} (h:IC z (.sl t)=true):z.cells.toList=[.slice none 0 0]:=by
 unfold IC at h
 split at h
 .rename_i l hl
  unfold BH at h
  split at h
  .match hc:z.cells.toList,hl with
   | [],hl=>simp [wI] at hl
   | [v],hl =>
    simp only [wI] at hl
    obtain ⟨x,h1,h2⟩:=ob hl
    simp only [Q1] at h2
    simp at h2;subst h2
    unfold AT at h1
    split at h1<;>simp_all
   | v::w::r,hl =>
    simp only [wI] at hl
    obtain ⟨x,h1,h2⟩:=ob hl
    obtain ⟨y,h3,h4⟩:=ob h2
    obtain ⟨x',h5,h6⟩:=ob h3
    obtain ⟨y',h7,h8⟩:=ob h6
    simp at h4 h8;subst h8;simp at h4
  .simp at h
 .simp at h
theorem WN {s:S} (hs:aD s) {t:Ty} (hf:t.flat=true) {p:PV} {v:Value} (hr:cm s p v) {x:List t.T} {L':LS} (h:rj t p s.L=some (x,L')) :
  ∃ s',s'.L=L'/\s'.H=s.H/\s'.μ=s.μ/\aj s s'/\aD s'/\iE (fun z=>s'.aF z/\¬ s.aF z) s.H s.ai t x v/\(∀ z,s.aF z->s'.aF z)/\(∀ z,bM s' z↔bM s z)/\(∀ z,s'.aF z->¬ s.aF z->∃ k,ah s.H z=some k):=by
 unfold rj at h
 split at h
 .simp at h;obtain ⟨rfl,rfl⟩:=h
  obtain rfl:v=_:=hr
  exact ⟨s,rfl,rfl,rfl,aj.refl s,hs,.inl ⟨rfl,rfl⟩,fun _ h=>h,fun _=>Iff.rfl,fun z h1 h2=>absurd h1 h2⟩
 .rename_i b off no
  split at h
  .rename_i aB w xs hb
   split at h
   .simp at h
   obtain ⟨y,h1,h⟩:=ob h
   simp at h;obtain ⟨rfl,rfl⟩:=h
   obtain ⟨e,hx⟩:=AU h1
   injection e with e;subst e
   simp at hx;subst hx
   obtain ⟨s',e1,e2,e3,hk,bY,hl,ho⟩:=hs.kill hb rfl false
   refine ⟨s',e1,e2,e3,hk,bY,?_,fun z hz=>(hl z).2 (.inl hz),ho,fun z h1 h2=>(by
    rcases (hl z).1 h1 with h3 | ⟨m,hm,rfl⟩
    .exact absurd h3 h2
    .obtain ⟨_,_,k,g3,_⟩:=mS hs hb hm
     exact ⟨k,g3⟩)⟩
   have dJ:cm s (.a_ b off no) v:=hr
   obtain ⟨bG,dJ⟩:=dJ
   cases hm:s.μ b with
   | none =>
    rw [hm] at dJ;obtain ⟨rfl,h5,rfl⟩:=dJ
    have hx:=E2 hs hb hm
    subst hx
    exact .inl ⟨by cases no<;>simp [cut],rfl⟩
   | some m =>
    rw [hm] at dJ
    obtain ⟨g1,g2,k,g3,g4,g5,g6,g7⟩:=mS hs hb hm
    have b_:=AE hs hb hm g3
    obtain ⟨a1,rfl⟩:=dJ
    have hlen:(cut xs off no).length=no.getD (m.n - off):=by
     cases no with
     | none=>simp [cut,g2]
     | some l=>simp [cut] at a1 ⊢;omega
    have hle:off+(cut xs off no).length<=xs.length:=by rw [hlen];omega
    have ah:∀ i (hi:i < (cut xs off no).length),(cut xs off no)[i]=xs[off+i]'(by omega):=by
     intro i hi
     cases no with
     | none=>simp [cut]
     | some l=>simp [cut]
    have hmul:(off+(cut xs off no).length)*w.size<=xs.length*w.size:=Zk _ hle
    rw [Nat.add_mul] at hmul
    refine .inr ⟨m.z,m.sh+off*w.size,k,by rw [hlen,g1],⟨(hl _).2 (.inr ⟨m,hm,rfl⟩),hs.lm b _ m hb hm⟩,g3,(g6 rfl).1,(g6 rfl).2,b_.sub (by omega),fun i hi=>?_⟩
    rw [ah i hi]
    have:=g5 (off+i) (by omega)
    rw [Nat.add_mul,<- Nat.add_assoc] at this
    exact ax.flat w hf this
  .rename_i aB w xs hb
   split at h
   .obtain ⟨y,h1,h⟩:=ob h
    have e:=Qr h1
    injection e with e;subst e
    simp [Ty.flat] at hf
   .simp at h
  .simp at h
 .rename_i b i aB w x'
  split at h
  .rename_i v' t' xs hb
   split at h
   .rename_i hv
    have hv:=Z7 hv
    obtain ⟨y,h1,h⟩:=ob h
    simp at h;obtain ⟨rfl,rfl⟩:=h
    obtain ⟨e,hx⟩:=AU h1
    injection e with e;subst e
    simp at hx;subst hx
    obtain ⟨_,_,hval⟩:cm s (.rw b i aB w x') v:=hr
    obtain ⟨r1,r2,_⟩:=(hval _ hb).2 hv
    rcases r2 with ⟨rfl,rfl⟩ | ⟨z,o,k,rfl,q1,q2,q3⟩
    .obtain ⟨s',e1,e2,e3,hk,bY,hl,ho⟩:=hs.ir (i:=i) hb none (fun z h=>by simp at h)
     exact ⟨s',e1,e2,e3,hk,bY,.inl ⟨rfl,rfl⟩,fun z hz=>(hl z).2 (.inl hz),ho,fun z h1 h2=>(by
      rcases (hl z).1 h1 with h3 | h3
      .exact absurd h3 h2
      .simp at h3)⟩
    .obtain ⟨s',e1,e2,e3,hk,bY,hl,ho⟩:=hs.ir (i:=i) hb (some z) (fun y h=>by injection h with h;subst h;exact q1)
     exact ⟨s',e1,e2,e3,hk,bY,.inr ⟨z,o,k,rfl,⟨(hl z).2 (.inr rfl),(hs.kl z _ q1).2.2.1⟩,q2,q3⟩,fun z hz=>(hl z).2 (.inl hz),ho,fun y h1 h2=>(by
      rcases (hl y).1 h1 with h3 | h3
      .exact absurd h3 h2
      .injection h3 with h3;subst h3;exact ⟨k,q2⟩)⟩
   .simp at h
  .simp at h
 .simp at h
theorem Qrb {t:TypeId} (hP:X.P=XE.P) (ho:o.op=.alloc t) (hs:aD s) (he:cI s env e) (hK:eJ s r KV KE Q) (h:di X o env s.L KV=some r):∃ y,dx XE o e s.H KE=some y/\Q y:=by
 simp only [di,ho] at h;simp only [dx,ho]
 replace h:=ob h;obtain ⟨z,h1,h⟩:=h
 split at h
 .rename_i n u aY X6
  split at h
  .rename_i hz
   have hz:=Qmf hz
   obtain ⟨s',e1,e2,hk,bY,hr⟩:=Qo1 hs (Qkp X6) n
   have eE:(List.replicate n (Value.slice none 0 0)).all Qt=true:=by
    rw [List.all_eq_true];intro v hv;rw [List.mem_replicate] at hv;rw [hv.2];rfl
   rw [<- hP,h1];simp only [Q1]
   rw [hz]
   rw [<- e1] at h
   rw [eE,<- e2]
   exact hK _ _ s' hk bY (ER.fq hr) h
  .simp at h
 replace h:=ob h;obtain ⟨cs,h2,h⟩:=h
 obtain ⟨a1,a2⟩:=Km (s:=s) h2
 rw [<- hP,h1];simp only [Q1,a2]
 obtain ⟨s',e1,e2,hk,bY,hr⟩:=Qdy hs a1
 rw [<- e2];rw [<- e1] at h
 exact hK _ _ s' hk bY (ER.fq hr) h
theorem Qxh {t:TypeId} {x:Operand} (ho:o.op=.box t x) (hs:aD s) (he:cI s env e) (hK:eJ s r KV KE Q) (h:di X o env s.L KV=some r):∃ y,dx XE o e s.H KE=some y/\Q y:=by
 simp only [di,ho] at h;simp only [dx,ho]
 replace h:=ob h;obtain ⟨p,h1,h⟩:=h
 obtain ⟨v,vA,r1⟩:=fM he h1
 rw [vA];simp only [Q1]
 split at h
 .rename_i dh
  have hc:=r1.cells dh
  have:v.cells.toList.all az=true:=List.all_eq_true.2 (fun x hx=>cq.cell hc x hx)
  rw [this]
  obtain ⟨s',e1,e2,hk,bY,hr⟩:=Qdy hs hc
  simp only
  rw [<- e2];rw [<- e1] at h
  exact hK _ _ s' hk bY (ER.fq hr) h
 .simp at h
theorem Qfy {t:TypeId} {l c:Operand} (hP:X.P=XE.P) (ho:o.op=.makeSlice t l c) (hs:aD s) (he:cI s env e) (hK:eJ s r KV KE Q) (h:di X o env s.L KV=some r):∃ y,dx XE o e s.H KE=some y/\Q y:=by
 simp only [di,ho] at h;simp only [dx,ho]
 replace h:=ob h;obtain ⟨p,h1,h⟩:=h
 replace h:=ob h;obtain ⟨q,h2,h⟩:=h
 obtain ⟨v,vA,r1⟩:=fM he h1
 obtain ⟨u,X7,r2⟩:=fM he h2
 rw [vA,X7];simp only [Q1]
 refine WH r1 h (fun n h=>WH r2 h (fun m h=>?_))
 replace h:=ob h;obtain ⟨⟨el,size,bytes,z⟩,h3,h⟩:=h
 replace h:=ob h;obtain ⟨w,h4,h⟩:=h
 rw [<- hP,h3];simp only [Q1]
 split at h
 .rename_i hz bf
  have bf:=Z7 bf
  unfold aa at h ⊢
  split at h
  .rename_i hc
   rw [hc]
   split at h
   .rename_i aY t'
    split at h
    .rename_i cJ
     obtain ⟨s',e1,e2,hk,bY,hr⟩:=Qo0 hs cJ n
     simp only
     have jk:=Qis hz
     have fy:(List.replicate n z.cells.toList).flatten=List.replicate n (.slice none 0 0):=by
      rw [jk];induction n with
      | zero=>rfl
      | succ n ih=>rw [List.replicate_succ,Ze,List.replicate_succ];simp at ih ⊢
     have Ay:(1:Nat)=size:=bf
     rw [fy,<- e2];rw [<- e1] at h
     rw [<- Ay]
     exact hK _ _ s' hk bY (ER.fq hr) h
    .simp at h
   .obtain ⟨s',e1,e2,hk,bY,hr⟩:=E1 hs (RL.rep (N:=s.N) (H:=s.H) n (WR s hz))
    simp only
    rw [<- e2];rw [<- e1] at h
    refine hK _ _ s' hk bY (ER.fq ?_) h
    rw [List.length_replicate,bf] at hr;exact hr
  .simp at h
 .simp at h
theorem Ig {H:af} {ai z o:Nat} {k:bz} {vs:List Value} (hk:ah H z=some k) (bh:k.ro=false) (hc:∀ v∈vs,az v=true) (hl:ai<=z) (hle:o+vs.length<=k.cells.length) :
  kZ H ai ⟨z,o,none⟩ vs=some (H.set z (some ⟨lay k.cells o vs,false,k.mp⟩)):=by
 unfold kZ
 simp only [hk,Q1]
 have h1:vs.all az=true:=List.all_eq_true.2 hc
 have h2:Nat.ble ai z=true:=Nat.ble_eq_true_of_le hl
 have h3:Nat.ble (o+vs.length) k.cells.length=true:=Nat.ble_eq_true_of_le hle
 obtain ⟨kc,kr,km⟩:=k
 simp only at bh;subst bh
 simp only at h3
 simp only [h1,h2,h3,Bool.or_true]
 rfl
theorem Qit {mp:Option (List (Int×Int))} (hs:aD s) {b aB:Nat} {cs tC:List PV} (hb:Qi s.L b=some ⟨aB,true,.cells cs⟩) {m:MB} (hm:s.μ b=some m) {cB:List Value} (hr:cq s tC cB) :
  ∃ s',s'.L=cU s.L b ⟨aB+1,true,.cells tC⟩/\s'.H=s.H.set m.z (some ⟨cB,false,mp⟩)/\s'.μ=s.μ/\aj s s'/\aD s':=by
 have hB:=hs.aH b _ hb
 unfold BR at hB;simp only at hB
 obtain ⟨_,m',k,aE,dH,hk,cx,bh,aI⟩:=hB
 rw [hm] at aE;injection aE with aE;subst aE
 exact hs.set hb rfl hm ⟨aB+1,true,.cells tC⟩ rfl rfl ⟨cB,false,mp⟩ (fun s' de aE hg hN=>by
  unfold BR;simp only
  exact ⟨trivial,m,_,aE,dH,hg,de.cq hr,rfl,by rw [de.ai];exact aI⟩)
theorem Qrc (hs:aD s) {b aB:Nat} {t:Ty} {xs xs':List t.T} (hb:Qi s.L b=some ⟨aB,true,.arr t xs⟩) {m:MB} (hm:s.μ b=some m) {cells':List Value} {k:bz} (hk:ah s.H m.z=some k) (hl:xs'.length=xs.length)
  (b_:Fit m.sh (xs'.length*t.size) cells') (hr:RL s.N s.H t xs' ((cells'.drop m.sh).take (xs'.length*t.size))) :
  ∃ s',s'.L=cU s.L b ⟨aB+1,true,.arr t xs'⟩/\s'.H=s.H.set m.z (some ⟨cells',false,k.mp⟩)/\s'.μ=s.μ/\aj s s'/\aD s':=by
 obtain ⟨a1,a2,k',a3,a4,a5,a6,a7⟩:=mS hs hb hm
 rw [hk] at a3;injection a3 with a3;subst a3
 exact hs.set hb rfl hm ⟨aB+1,true,.arr t xs'⟩ rfl rfl ⟨cells',false,k.mp⟩ (fun s' de aE hg hN=>by
  unfold BR;simp only [aE]
  refine ⟨a1,by omega,_,hg,b_,fun i hi=>?_,fun _=>⟨rfl,by rw [de.ai];exact (a6 rfl).2⟩,fun e=>absurd e (by decide)⟩
  have:=de.vD (hr.2 i hi)
  have oy:=j4 (k:=t.size) hi
  unfold cw at this;rw [List.drop_take,List.take_take,Nat.min_eq_left (by omega),List.drop_drop] at this;exact this)
theorem Qiu {N:Nat->Prop} {H:af} (u:Ty):∀ (n:Nat) (hn:0 < n) {xs:List u.T} {cells:List Value} {p:(Fk n u).T},xs.length=n->RL N H u xs cells->Rk n u xs=some p->ax N H (Fk n u) p cells
 | 1,_,[x],cells,p,hl,hr,h=>by
  obtain rfl:x=p:=Option.some.inj h
  have:=hr.2 0 (by simp)
  have hl:=hr.1
  simp only [List.length_singleton,Nat.one_mul] at hl
  simp only [List.getElem_cons_zero,Nat.zero_mul] at this
  have e:cw cells 0 u.size=cells:=by unfold cw;rw [List.drop_zero,Zs (by omega)]
  rw [e] at this;exact this
 | n+2,_,x::r,cells,p,hl,hr,h=>by
  simp only [Rk] at h
  obtain ⟨y,h1,h⟩:=ob h
  obtain rfl:(x,y)=p:=Option.some.inj h
  have h0:=hr.2 0 (by simp)
  simp only [List.getElem_cons_zero,Nat.zero_mul] at h0
  have hd:RL N H u r (cells.drop u.size):=by have:=hr.drop 1 (by simp);rw [Nat.one_mul] at this;exact this
  have:=Qiu u (n+1) (by omega) (by simpa using hl) hd h1
  refine ax.iu ?_ this
  unfold cw at h0;simpa using h0
 | 1,_,[],_,_,hl,_,_=>by simp at hl
 | 1,_,_::_::_,_,_,hl,_,_=>by simp at hl
 | n+2,_,[],_,_,hl,_,_=>by simp at hl
theorem QB (l:List Value) (o:Nat) (v:Value) (h:o < l.length) (i:Nat):(lay l o [v])[i]? = if i=o then some v else l[i]?:=by
 rw [rE l o [v] (by simp;omega)]
 by_cases c1:i < o
 .rw [if_pos c1,if_neg (by omega)]
 .rw [if_neg c1]
  by_cases c2:i=o
  .subst c2;simp
  .rw [if_neg (by simp;omega),if_neg c2]
theorem Xq {s:S} (hs:aD s) {b aB j:Nat} {e:Ty} {xs:List (List e.T)} {ho:Option Nat} (hb:Qi s.L b=some ⟨aB,true,.rows e xs ho⟩) {m:MB} (hm:s.μ b=some m) {k:bz} (hk:ah s.H m.z=some k) (hj:j < xs.length) (hh:ho=none\/ho=some j)
  {y:List e.T} {v:Value} (hr:iE (fun z=>s.aF z\/s.br z=some (b,j)) s.H s.ai e y v) (hp:Qa v v=true) :
  ∃ s',s'.L=cU s.L b ⟨aB+1,true,.rows e (xs.set j y) none⟩/\s'.H=s.H.set m.z (some ⟨lay k.cells (m.sh+j) [v],false,k.mp⟩)/\aj s s'/\aD s'/\(∀ z,s'.aF z->s.aF z):=by
 obtain ⟨_,cJ,⟨fV,_⟩ | ⟨m',k',aE,a1,a2,a3,a4,a5,a6,a7⟩⟩:=mT hs hb
 .rw [hm] at fV;simp at fV
 rw [hm] at aE;injection aE with aE;subst aE
 rw [hk] at a3;injection a3 with a3;subst a3
 obtain ⟨eg,nX,cz⟩:∃ eg:Option (Nat×Nat),(∀ z i,eg=some (z,i)->s.aF z/\∃ k,ah s.H z=some k)/\∀ (K:Nat->Prop),(∀ z,s.br z=some (b,j)->K z)->(∀ z,eg=some (z,j)->K z)->iE K s.H s.ai e y v:=by
  rcases hr with ⟨rfl,rfl⟩ | ⟨z,o,k2,h1,h2 | h2,h3⟩
  .exact ⟨none,fun _ _ h=>by simp at h,fun K _ _=>.inl ⟨rfl,rfl⟩⟩
  .exact ⟨some (z,j),fun z' i h=>by injection h with h;injection h with h _;subst h;exact ⟨h2,_,h3.1⟩,fun K _ hK=>.inr ⟨z,o,k2,h1,hK z rfl,h3⟩⟩
  .exact ⟨none,fun _ _ h=>by simp at h,fun K hK _=>.inr ⟨z,o,k2,h1,hK z h2,h3⟩⟩
 have b_:=a4
 obtain ⟨s',e1,e2,e3,de,bY,hl⟩:=hs.NM hb rfl hm ⟨aB+1,true,.rows e (xs.set j y) none⟩ rfl rfl ⟨lay k.cells (m.sh+j) [v],false,k.mp⟩ eg nX (fun s' de aE hg hH mU NO=>by
  unfold BR;simp only [aE]
  refine ⟨trivial,cJ,a1,by simp [a2],_,hg,?_,rfl,by rw [de.ai];exact a6,fun i hi _=>?_⟩
  .rw [List.length_set];exact b_.lay (p:=j) (by simp;have:=b_.1;omega) (fun w hw=>by simp at hw;subst hw;exact hp)
  .simp only [List.length_set] at hi
   by_cases mY:i=j
   .subst mY
    refine ⟨v,by rw [QB _ _ _ (by have:=b_.1;omega),if_pos rfl],?_⟩
    simp only [List.getElem_set_self]
    have:=cz (fun z=>s'.br z=some (b,i)/\ah s'.H z=ah s.H z) (fun z hz=>⟨mU z i hz,hH z (fun e=>hs.dV hz hb hm e.symm)⟩) (fun z hz=>⟨NO z i hz,hH z (fun e=>hs.lm b _ m hb hm (e▸(nX z i hz).1))⟩)
    rw [de.ai]
    exact this.mono cJ (fun z hz=>hz)
   .obtain ⟨w,q1,q2⟩:=a7 i hi (by rcases hh with rfl | rfl<;>simp;omega)
    refine ⟨w,by rw [QB _ _ _ (by have:=b_.1;omega),if_neg (by omega)];exact q1,?_⟩
    rw [List.getElem_set_ne (by omega),de.ai]
    exact q2.mono cJ (fun z hz=>⟨mU z i hz,hH z (fun e=>hs.dV hz hb hm e.symm)⟩))
 exact ⟨s',e1,e2,de,bY,fun z hz=>((hl z).1 hz).1⟩
theorem Qdz {s:S}:∀ {n:Nat} {cs:List PV} {vs:List Value},Kq n cs=true->cq s cs vs->cs.length=n/\vs=List.replicate n (.slice none 0 0)
 | 0,[],[],_,_=>⟨rfl,rfl⟩
 | 0,[],_::_,_,h=>h.elim
 | 0,_::_,_,h,_=>by simp [Kq] at h
 | n+1,[],_,h,_=>by simp [Kq] at h
 | n+1,c::r,[],_,h=>h.elim
 | n+1,c::r,v::vs,h,hr=>by
  unfold Kq at h
  split at h
  .simp_all
  .rename_i rF IE
   injection rF with rF
   injection IE with e1 e2
   subst e1 e2 rF
   obtain ⟨h1,h2⟩:=Qdz h hr.2
   have:v=.slice none 0 0:=hr.1
   rw [this,h2,List.replicate_succ]
   exact ⟨by simp [h1],rfl⟩
  .simp at h
theorem Qo2 {s:S} (hs:aD s) {b aB:Nat} {e:Ty} {xs:List (List e.T)} {ho:Option Nat} (hb:Qi s.L b=some ⟨aB,true,.rows e xs ho⟩) {m:MB} (hm:s.μ b=some m) {k:bz} (hk:ah s.H m.z=some k) (dH:m.sh=0) :
  ∃ s',s'.L=cU s.L b ⟨aB+1,true,.rows e (List.replicate xs.length []) none⟩/\s'.H=s.H.set m.z (some ⟨lay k.cells 0 (List.replicate xs.length (.slice none 0 0)),false,k.mp⟩)/\aj s s'/\aD s':=by
 obtain ⟨_,cJ,⟨fV,_⟩ | ⟨m',k',aE,a1,a2,a3,a4,a5,a6,a7⟩⟩:=mT hs hb
 .rw [hm] at fV;simp at fV
 rw [hm] at aE;injection aE with aE;subst aE
 rw [hk] at a3;injection a3 with a3;subst a3
 have b_:=a4
 have hle:xs.length<=k.cells.length:=by have:=b_.1;omega
 obtain ⟨s',e1,e2,e3,de,bY,hl⟩:=hs.NM hb rfl hm ⟨aB+1,true,.rows e (List.replicate xs.length []) none⟩ rfl rfl ⟨lay k.cells 0 (List.replicate xs.length (.slice none 0 0)),false,k.mp⟩ none (fun _ _ h=>by simp at h) (fun s' de aE hg hH mU NO=>by
  unfold BR;simp only [aE]
  refine ⟨trivial,cJ,a1,by simp [a2],_,hg,?_,rfl,by rw [de.ai];exact a6,fun i hi _=>?_⟩
  .rw [List.length_replicate]
   have:=b_.lay (p:=0) (d:=List.replicate xs.length (.slice none 0 0)) (by simp;omega) (fun w hw=>by rw [List.mem_replicate] at hw;rw [hw.2];simp [Qa])
   rw [dH] at this ⊢;exact this
  .simp only [List.length_replicate] at hi
   refine ⟨.slice none 0 0,?_,.inl ⟨by simp,rfl⟩⟩
   rw [dH,Zo,rE _ _ _ (by simp;omega)]
   simp [hi])
 exact ⟨s',e1,e2,de,bY⟩
theorem Qkq {L:LS} {b aB:Nat} {e:Ty} {xs:List (List e.T)} {ho:Option Nat} (h:X8 L b=some (aB,⟨e,xs,ho⟩)):Qi L b=some ⟨aB,true,.rows e xs ho⟩:=by
 unfold X8 at h
 split at h
 .rename_i hb
  injection h with h;injection h with h1 h2;subst h1
  injection h2 with h2 h3;subst h2
  have h3:=eq_of_heq h3
  injection h3 with h3 h4;subst h3;subst h4;exact hb
 .simp at h
theorem Qrd {t:TypeId} {a x:Operand} (hP:X.P=XE.P) (aI:XE.ai=s.ai) (ho:o.op=.store t a x) (hs:aD s) (he:cI s env e) (hK:eJ s r KV KE Q) (h:di X o env s.L KV=some r):∃ y,dx XE o e s.H KE=some y/\Q y:=by
 simp only [di,ho] at h;simp only [dx,ho]
 replace h:=ob h;obtain ⟨p,h1,h⟩:=h
 replace h:=ob h;obtain ⟨q,h2,h⟩:=h
 replace h:=ob h;obtain ⟨i,h3,h⟩:=h
 obtain ⟨v,vA,r1⟩:=fM he h1
 obtain ⟨u,X7,r2⟩:=fM he h2
 rw [vA,X7];simp only [Q1]
 rw [<- hP]
 split at h
 .rename_i bf
  simp only [Z8] at bf
  have hc:=r2.cells bf.2
  have hl:=Qx.length hc
  have rS:=Z7 bf.1
  have AV:Nat.beq u.cells.size i.size=true:=by
   have:u.cells.size=i.size:=by simp only [Array.length_toList] at hl;omega
   rw [this];exact Nat.beq_refl _
  split at h
  .rename_i b j fo
   split at h
   .rename_i aB el xs ho NP
    have hb:=Qkq NP
    split at h
    .simp at h
    rename_i X9
    simp only [Z8] at X9
    have X4:=Z7 X9.1
    have aaj:=Z7 X9.2
    subst X4
    obtain ⟨bG,m,hm,rfl⟩:cm s (.ep b j 0) v:=r1
    obtain ⟨_,cJ,cz⟩:=mT hs hb
    simp only [fj,h3,Q1,AV]
    have bF:∀ (y:List el.T) (K:Nat->Prop),iE K s.H s.ai el y u->u.cells.toList=[u]/\Qa u u=true:=by
     intro y K hr
     rcases hr with ⟨_,rfl⟩ | ⟨_,_,_,rfl,_⟩<;>exact ⟨rfl,by simp [Qa]⟩
    split at h
    .rename_i b' i' vL e' x
     split at h
     .rename_i X_
      simp only [Z8] at X_
      have gz:=Z7 X_.1
      have sM:=Z7 X_.2
      subst gz;subst sM
      replace h:=ob h;obtain ⟨x',h4,h⟩:=h
      have e4:=Qr h4;injection e4 with e4;subst e4
      have:=Qg h4;subst this
      unfold aa at h;split at h
      .rename_i mY
       have mY:=Z7 mY
       subst mY
       replace h:=ob h;obtain ⟨x0,h5,h⟩:=h
       obtain ⟨hj,_⟩:=Z0 h5
       obtain ⟨_,_,hval⟩:cm s (.rw b' i' vL e' x) u:=r2
       obtain ⟨_,q2,_⟩:=(hval _ hb).2 rfl
       obtain ⟨c1,c2⟩:=bF _ _ q2
       rcases cz with ⟨fV,_⟩ | ⟨m',k,aE,a1,a2,a3,a4,a5,a6,a7⟩
       .rw [hm] at fV;simp at fV
       rw [hm] at aE;injection aE with aE;subst aE
       obtain ⟨s2,e1,e2,k2,t2,_⟩:=Xq hs hb hm a3 hj (.inl rfl) (q2.mono cJ (fun z hz=>⟨.inr hz,rfl⟩)) c2
       have eF:=Ig (o:=m.sh+i'*m.es+0) (vs:=u.cells.toList) a3 a5 (fun v hv=>cq.cell hc v hv) a6 (by rw [c1,a1];have:=a4.1;simp;omega)
       rw [aI,eF,c1]
       rw [a1,Nat.mul_one,Nat.add_zero,<- e2];rw [<- e1] at h
       exact hK .undef undef s2 k2 t2 rfl h
      .simp at h
     .simp at h
    .replace h:=ob h;obtain ⟨⟨y,L1⟩,h4,h⟩:=h
     have dU:cm s q u:=by
      have lp:=h4
      unfold rj at lp
      split at lp
      .exact r2
      .exact r2
      .exact r2
      .simp at lp
     obtain ⟨s1,l1,g1,u1,k1,t1,q2,vB,_,_⟩:=WN hs cJ dU h4
     obtain ⟨c1,c2⟩:=bF _ _ q2
     simp only at h
     rw [<- l1] at h
     split at h
     .rename_i Ya e' xs' h' gz
      replace h:=ob h;obtain ⟨x',h5,h⟩:=h
      have e5:=Qr h5;injection e5 with e5;subst e5
      have:=Qg h5;subst this
      have NQ:(h'=none\/h'=some j)/\(Q1 xs'[j]? fun _=>KV .undef (cU s1.L b ⟨Ya+1,true,.rows el (xs'.set j y) none⟩))=some r:=by
       unfold Qvu at h;split at h
       .exact ⟨.inl rfl,h⟩
       .unfold aa at h;split at h
        .rename_i mY
         have:=Z7 mY
         subst this
         exact ⟨.inr rfl,h⟩
        .simp at h
      obtain ⟨hh,h⟩:=NQ
      replace h:=ob h;obtain ⟨x0,h6,h⟩:=h
      obtain ⟨hj,_⟩:=Z0 h6
      obtain ⟨_,_,NR⟩:=mT t1 gz
      rcases NR with ⟨fV,rfl⟩ | ⟨m',k,aE,a1,a2,a3,a4,a5,a6,a7⟩
      .simp at hj
      rw [u1,hm] at aE;injection aE with aE;subst aE
      have q3:iE (fun z=>s1.aF z\/s1.br z=some (b,j)) s1.H s1.ai el y u:=by
       rw [k1.ai];exact q2.mono cJ (fun z hz=>⟨.inl hz.1,by rw [g1]⟩)
      obtain ⟨s2,e1,e2,k2,t2,_⟩:=Xq t1 gz (by rw [u1];exact hm) a3 hj hh q3 c2
      have eF:=Ig (o:=m.sh+j*m.es+0) (vs:=u.cells.toList) a3 a5 (fun v hv=>cq.cell hc v hv) a6 (by rw [c1,a1];have:=a4.1;simp;omega)
      rw [aI,<- k1.ai,<- g1,eF,c1]
      rw [a1,Nat.mul_one,Nat.add_zero,<- e2];rw [<- e1] at h
      exact hK .undef undef s2 (k1.trans k2) t2 rfl h
     .simp at h
   replace h:=ob h;obtain ⟨w,h4,h⟩:=h
   replace h:=ob h;obtain ⟨⟨y,L1⟩,h5,h⟩:=h
   obtain ⟨s1,l1,g1,u1,k1,t1,nr,o1,_⟩:=CX w hs hc h5
   simp only at h
   rw [<- l1] at h
   split at h
   .rename_i aB el xs hb
    replace h:=ob h;obtain ⟨x0,h6,h⟩:=h
    replace h:=ob h;obtain ⟨x1,h7,h⟩:=h
    obtain ⟨bG,m,hm,rfl⟩:=k1.cm (p:=.ep b j fo) r1
    simp only [fj,h3,Q1,AV]
    obtain ⟨a1,a2,k,a3,a4,a5,a6,a7⟩:=mS t1 hb hm
    obtain ⟨hj,ej⟩:=Z0 h6
    have cZ:=a5 j hj
    rw [ej] at cZ
    obtain ⟨g2,g3⟩:=Qy2 _ _ h7 cZ nr
    have hlw:=ax.len _ nr
    have vF:=j4 (k:=el.size) hj
    have eF:=Ig (o:=m.sh+j*m.es+fo) a3 (a6 rfl).1 (fun v hv=>cq.cell hc v hv) (a6 rfl).2 (by rw [a1,hlw];omega)
    rw [aI,<- k1.ai,<- g1,eF]
    have C2:=RL.oD a4 a5
    have hd:((k.cells.drop m.sh).take (xs.length*el.size)).length=xs.length*el.size:=C2.1
    have Ih:((lay k.cells (m.sh+j*m.es+fo) u.cells.toList).drop m.sh).take ((xs.set j x1).length*el.size)=lay ((k.cells.drop m.sh).take (xs.length*el.size)) (j*el.size) (lay (cw ((k.cells.drop m.sh).take (xs.length*el.size)) (j*el.size) el.size) fo u.cells.toList):=by
     rw [List.length_set,a1,Nat.add_assoc,Qr9 a4 (by omega),Qu4 (z:=el.size) (by omega) (by omega)]
    have NS:ax s1.N s1.H el x1 (lay (cw ((k.cells.drop m.sh).take (xs.length*el.size)) (j*el.size) el.size) fo u.cells.toList):=by
     have:(k.cells.drop (m.sh+j*el.size)).take el.size=cw ((k.cells.drop m.sh).take (xs.length*el.size)) (j*el.size) el.size:=by
      unfold cw;rw [List.drop_take,List.take_take,Nat.min_eq_left (by omega),List.drop_drop]
     rw [this] at g2;exact g2
    obtain ⟨s2,e1,e2,e3,k2,t2⟩:=Qrc t1 (xs':=xs.set j x1) hb hm (cells':=lay k.cells (m.sh+j*m.es+fo) u.cells.toList) a3 (by simp) (by rw [List.length_set,a1,Nat.add_assoc];exact (AE t1 hb hm a3).lay (by omega) (fun v hv=>cq.plain hc v hv)) (by rw [Ih];exact C2.set hj NS)
    rw [<- e2];rw [<- e1] at h
    exact hK .undef undef s2 (k1.trans k2) t2 rfl h
   .simp at h
  .rename_i b off
   split at h
   .rename_i aB cs hb
    split at h
    .rename_i hle
     have hle:=Zi hle
     obtain ⟨bG,m,hm,dH,rfl⟩:=r1
     simp only [fj,h3,Q1,AV]
     have hB:=hs.aH b _ hb
     unfold BR at hB;simp only at hB
     obtain ⟨_,m',k,aE,_,hk,cx,bh,kB⟩:=hB
     rw [hm] at aE;injection aE with aE;subst aE
     have hlk:=Qx.length cx
     have eF:=Ig (o:=off) hk bh (fun v hv=>cq.cell hc v hv) kB (by omega)
     rw [aI,eF]
     obtain ⟨s2,e1,e2,e3,k2,t2⟩:=Qit (mp:=k.mp) hs hb hm (XN cx hc off)
     rw [<- e2];rw [<- e1] at h
     exact hK .undef undef s2 k2 t2 rfl h
    .simp at h
   .rename_i aB e xs hb
    split at h
    .rename_i Yb
     simp only [Z8] at Yb
     have ho:=Z7 Yb.1
     subst ho
     obtain ⟨bG,m,hm,dH,rfl⟩:=r1
     simp only [fj,h3,Q1,AV]
     obtain ⟨n1,n2⟩:=Qdz Yb.2 hc
     obtain ⟨_,cJ,⟨fV,_⟩ | ⟨m',k,aE,a1,a2,a3,a4,a5,a6,a7⟩⟩:=mT hs hb
     .rw [hm] at fV;simp at fV
     rw [hm] at aE;injection aE with aE;subst aE
     have eF:=Ig (o:=0) a3 a5 (fun v hv=>cq.cell hc v hv) a6 (by rw [n2];have:=a4.1;simp;omega)
     rw [aI,eF]
     obtain ⟨s2,e1,e2,k2,t2⟩:=Qo2 hs hb hm a3 dH
     rw [n2,<- e2];rw [n1,<- e1] at h
     exact hK .undef undef s2 k2 t2 rfl h
    .simp at h
   .simp at h
  .rename_i b off n w k0
   split at h
   .rename_i aB cs hb hwf
    replace h:=ob h;obtain ⟨y,h4,h⟩:=h
    replace h:=ob h;obtain ⟨xs,h5,h⟩:=h
    replace h:=ob h;obtain ⟨p,h6,h⟩:=h
    obtain ⟨bG,m,hm,dH,rfl⟩:=r1
    simp only [fj,h3,Q1,AV]
    have hB:=hs.aH b _ hb
    unfold BR at hB;simp only at hB
    obtain ⟨_,m',k,aE,_,hk,cx,bh,kB⟩:=hB
    rw [hm] at aE;injection aE with aE;subst aE
    have hlk:=Qx.length cx
    obtain ⟨_,ry⟩:=J6 (x:=y.1) (L':=y.2) hs w hc (by rw [h4])
    have hly:=ax.len _ ry
    obtain ⟨g1,g2,g3⟩:=Rf hs w (Qx.drop off cx) h5
    unfold NT at h6
    split at h6
    .rename_i au
     have au:=BC au
     have vF:=j4 (k:=w.size) au
     rw [g1] at vF
     simp only [List.length_drop] at g2
     have eU:=Ty.size_pos w
     have eF:=Ig (o:=off+k0*w.size) hk bh (fun v hv=>cq.cell hc v hv) kB (by omega)
     rw [aI,eF]
     have C2:RL (s.NN s.L.ct) s.H w xs (cw k.cells off (n*w.size)):=by
      refine ⟨by rw [Dg _ _ _ (by omega),g1],fun i hi=>?_⟩
      have:=ax.flat (M:=s.NN s.L.ct) (G:=s.H) w hwf (g3 i hi)
      have BD:=j4 (k:=w.size) hi
      have e2:cw (cw k.cells off (n*w.size)) (i*w.size) w.size=((k.cells.drop off).drop (i*w.size)).take w.size:=by
       unfold cw;rw [List.drop_take,List.take_take,Nat.min_eq_left (by rw [g1] at BD;omega)]
      rw [e2];exact this
     have Yc:=C2.set au (ax.flat (M:=s.NN s.L.ct) (G:=s.H) w hwf ry)
     have vQ:0 < n:=by omega
     have cZ:=Qiu w n vQ (by simp [g1]) Yc h6
     have hlr:=AK _ cZ
     have iz:(lay (cw k.cells off (n*w.size)) (k0*w.size) u.cells.toList).length=n*w.size:=by
      rw [Ib _ _ _ (by rw [Dg _ _ _ (by omega)];omega),Dg _ _ _ (by omega)]
     have C1:=XN cx hlr off
     have Yd:lay k.cells off (lay (cw k.cells off (n*w.size)) (k0*w.size) u.cells.toList)=lay k.cells (off+k0*w.size) u.cells.toList:=by
      have vc:=Dg k.cells off (n*w.size) (by omega)
      apply List.ext_getElem?;intro i'
      rw [rE k.cells off _ (by rw [iz];omega),iz,rE k.cells (off+k0*w.size) _ (by omega)]
      by_cases c1:i' < off
      .rw [if_pos c1,if_pos (by omega)]
      .rw [if_neg c1]
       by_cases c2:i' < off+n*w.size
       .rw [if_pos c2,rE (cw k.cells off (n*w.size)) (k0*w.size) _ (by omega)]
        by_cases c3:i' - off < k0*w.size
        .have d1:i' < off+k0*w.size:=by omega
         rw [if_pos c3,if_pos d1,sU,if_pos (by omega)];congr 1;omega
        .have d1:¬ i' < off+k0*w.size:=by omega
         rw [if_neg c3,if_neg d1]
         by_cases c4:i' - off < k0*w.size+u.cells.toList.length
         .have d2:i' < off+k0*w.size+u.cells.toList.length:=by omega
          rw [if_pos c4,if_pos d2];congr 1;omega
         .have d2:¬ i' < off+k0*w.size+u.cells.toList.length:=by omega
          rw [if_neg c4,if_neg d2,sU,if_pos (by omega)];congr 1;omega
       .rw [if_neg c2,if_neg (by omega),if_neg (by omega)]
     rw [Yd] at C1
     obtain ⟨s2,e1,e2,e3,k2,t2⟩:=Qit (mp:=k.mp) hs hb hm C1
     rw [<- e2];rw [<- e1] at h
     exact hK .undef undef s2 k2 t2 rfl h
    .simp at h6
   .simp at h
  .simp at h
 .simp at h
theorem Qiv {x:Operand} (ho:o.op=.nilCheck x) (hs:aD s) (he:cI s env e) (hK:eJ s r KV KE Q) (h:di X o env s.L KV=some r):∃ y,dx XE o e s.H KE=some y/\Q y:=by
 simp only [di,ho] at h;simp only [dx,ho]
 replace h:=ob h;obtain ⟨p,h1,h⟩:=h
 obtain ⟨v,vA,r1⟩:=fM he h1
 rw [vA];simp only [Q1]
 split at h
 .have r0:=r1
  obtain ⟨a,b,rfl,_⟩:=r1
  exact hK.here hs r0 h
 .have r0:=r1
  obtain ⟨_,m,_,_,rfl⟩:=r1
  exact hK.here hs r0 h
 .have r0:=r1
  obtain ⟨_,m,_,rfl⟩:=r1
  exact hK.here hs r0 h
 .have r0:=r1
  obtain ⟨z,oo,k,rfl,_⟩:=r1
  exact hK.here hs r0 h
 .have r0:=r1
  obtain ⟨_,⟨_,_,rfl⟩,_⟩:=r1
  exact hK.here hs r0 h
 .have r0:=r1
  obtain ⟨_,m,_,_,rfl⟩:=r1
  exact hK.here hs r0 h
 .simp at h
theorem WZ (hs:aD s) {p:PV} {v:Value} (hr:ER s p v) {t:Ty} {x:List t.T} (h:kS s.L p t=some x) (E5:∀ u,t=.sl u->J0 s.L p=false) :
  ∃ cells a c,v=.slice a x.length c/\Qf s.H t.size v=some cells/\RL s.N s.H t x cells:=by
 have NU:∀ {N:Nat->Prop},ax N s.H (.sl t) x [v]->∃ cells a c,v=.slice a x.length c/\Qf s.H t.size v=some cells/\RL N s.H t x cells:=by
  intro N r
  unfold ax at r
  rcases r with ⟨rfl,e1⟩ | ⟨rfl,z,oo,e1⟩ | ⟨z,oo,k,e1,hn,hk,hle,hi⟩
  .simp at e1;subst e1;exact ⟨[],_,_,rfl,rfl,by simp [RL]⟩
  .simp at e1;subst e1;exact ⟨[],_,_,rfl,by simp [Qf,fQ],by simp [RL]⟩
  .simp at e1;subst e1
   refine ⟨(k.cells.drop oo).take (x.length*t.size),_,_,rfl,?_,by simp;omega,fun i eZ=>?_⟩
   .simp only [Qf]
    cases hz:x.length*t.size with
    | zero=>simp [fQ]
    | succ q =>
     simp only [fQ,Qv,hk,Q1]
     have:Nat.ble (oo+(q+1)) k.cells.length=true:=Nat.ble_eq_true_of_le (by omega)
     rw [this]
   .have:=hi i eZ
    have hm:=j4 (k:=t.size) eZ
    have e2:cw ((k.cells.drop oo).take (x.length*t.size)) (i*t.size) t.size=(k.cells.drop (oo+i*t.size)).take t.size:=by
     unfold cw;rw [List.drop_take,List.take_take,Nat.min_eq_left (by omega),List.drop_drop]
    rw [e2];exact this
 have key:∀ {N:Nat->Prop},(∀ z,N z->s.N z)->ax N s.H (.sl t) x [v]->∃ cells a c,v=.slice a x.length c/\Qf s.H t.size v=some cells/\RL s.N s.H t x cells:=by
  intro N hN r
  obtain ⟨cells,a,c,g1,g2,g3⟩:=NU r
  exact ⟨cells,a,c,g1,g2,g3.1,fun i hi=>ax.mono hN t (g3.2 i hi)⟩
 have h':=h
 unfold kS at h
 split at h
 .obtain rfl:v=_:=hr
  simp at h;subst h
  exact ⟨[],_,_,rfl,rfl,by simp [RL]⟩
 .rename_i st u y
  obtain ⟨e1,hx⟩:=AU h
  injection e1 with e1;subst e1
  simp at hx;subst hx
  exact key (fun z hz=>hz.1) hr
 .rename_i b off n
  split at h
  .rename_i aB rw u xs hb
   obtain ⟨e1,hx⟩:=AU h
   injection e1 with e1;subst e1
   simp at hx;subst hx
   have hr:cm s (.a_ b off n) v:=hr
   obtain ⟨bG,hr⟩:=hr
   cases hm:s.μ b with
   | none =>
    rw [hm] at hr;obtain ⟨rfl,h5,rfl⟩:=hr
    have hx:=E2 hs hb hm
    subst hx
    have:cut ([]:List u.T) 0 n=[]:=by cases n<;>simp [cut]
    rw [this];exact ⟨[],_,_,rfl,rfl,by simp [RL]⟩
   | some m =>
    rw [hm] at hr
    obtain ⟨g1,g2,k,g3,g4,g5,g6,g7⟩:=mS hs hb hm
    obtain ⟨a1,rfl⟩:=hr
    have hlen:(cut xs off n).length=n.getD (m.n - off):=by
     cases n with
     | none=>simp [cut,g2]
     | some l=>simp [cut] at a1 ⊢;omega
    have C2:=RL.oD g4 g5
    have MF:off<=xs.length:=by omega
    have hmul:(off+(cut xs off n).length)*u.size<=xs.length*u.size:=Zk _ (by omega)
    rw [Nat.add_mul] at hmul
    refine ⟨(k.cells.drop (m.sh+off*u.size)).take ((cut xs off n).length*u.size),_,_,by rw [hlen],?_,?_⟩
    .rw [<- hlen,g1]
     simp only [Qf]
     cases hz:(cut xs off n).length*u.size with
     | zero=>simp [fQ]
     | succ q =>
      simp only [fQ,Qv,g3,Q1]
      have:Nat.ble (m.sh+off*u.size+(q+1)) k.cells.length=true:=Nat.ble_eq_true_of_le (by omega)
      rw [this]
    .cases n with
     | none =>
      have h1:=RL.sub (n:=xs.length - off) g4 g5 (show off+(xs.length - off)<=xs.length by omega)
      rw [Zs (l:=xs.drop off) (by simp)] at h1
      simp only [cut]
      rw [List.length_drop];exact h1
     | some l =>
      have h1:=RL.sub (n:=l) g4 g5 (show off+l<=xs.length by simp at a1;omega)
      simp only [cut]
      have e3:((xs.drop off).take l).length=l:=by simp at a1 ⊢;omega
      rw [e3];exact h1
  .rename_i aB u xs hb
   have e1:=Qr h
   injection e1 with e1
   have:=E5 u e1.symm
   simp [J0,hb] at this
  .simp at h
 .rename_i b i aB u y
  split at h
  .rename_i v' t' xs' h'' hb
   split at h
   .rename_i hv
    have hv:=Z7 hv
    obtain ⟨e1,hx⟩:=AU h
    injection e1 with e1;subst e1
    simp at hx;subst hx
    obtain ⟨_,_,hval⟩:cm s (.rw b i aB u y) v:=hr
    obtain ⟨r1,r2,_⟩:=(hval _ hb).2 hv
    obtain ⟨cells,a,c,g1,g2,g3⟩:=NU (r2.rep (M:=Any) r1 (fun _ _=>trivial))
    exact ⟨cells,a,c,g1,g2,g3.1,fun i hi=>ax.flat u r1 (g3.2 i hi)⟩
   .simp at h
  .simp at h
 .simp at h
theorem Qkr:∀ (x:List Int) (cells:List Value) {N:Nat->Prop} {H:af},RL N H (.int .u8) x cells->DA cells=some (x.map fun n=>UInt8.ofNat n.toNat):=by
 intro x
 induction x with
 | nil =>
  intro cells N H h
  have h1:=h.1
  have:cells=[]:=Z1 (by simpa using h1)
  subst this;rfl
 | cons n r ih =>
  intro cells N H h
  have h1:=h.1
  match cells,h1 with
  | [],h1=>simp [Ty.size] at h1
  | c::cs,h1 =>
   have h0:=h.2 0 (by simp)
   simp [Ty.size,ax,cw] at h0
   subst h0
   have hr:RL N H (.int .u8) r cs:=by
    refine ⟨by simp [Ty.size] at h1 ⊢;exact h1,fun i hi=>?_⟩
    have:=h.2 (i+1) (by simp;omega)
    simp [Ty.size,cw] at this ⊢;exact this
   simp [DA,ih cs hr,Q1]
theorem RL.bytes {N:Nat->Prop} {H:af} (q:List UInt8):RL N H (.int .u8) (q.map fun b=>(b.toNat:Int)) (q.map fun b=>.int .u8 b.toNat):=by
 refine ⟨by simp [Ty.size],fun i hi=>?_⟩
 simp at hi
 simp only [Ty.size,Nat.mul_one,cw]
 unfold ax
 rw [List.drop_eq_getElem_cons (by simpa using hi)];simp
theorem Qks {src dst:TypeId} {x:Operand} (hP:X.P=XE.P) (ho:o.op=.convert src dst x) (hs:aD s) (he:cI s env e) (hK:eJ s r KV KE Q) (h:di X o env s.L KV=some r):∃ y,dx XE o e s.H KE=some y/\Q y:=by
 simp only [di,ho] at h;simp only [dx,ho]
 replace h:=ob h;obtain ⟨p,h1,h⟩:=h
 obtain ⟨v,vA,r1⟩:=fM he h1
 rw [vA];simp only [Q1]
 rw [<- hP]
 split at h
 .rename_i BI iS
  obtain rfl:v=.int _ _:=r1
  simp only [I2,BI,iS]
  exact hK.here hs (p:=.int _ _) rfl h
 .rename_i BI iS
  obtain rfl:v=.string _:=r1
  simp only [I2,BI,iS]
  exact hK.here hs (p:=.str _) rfl h
 .rename_i el BI iS
  split at h
  .rename_i Ye
   replace h:=ob h;obtain ⟨l,h2,h⟩:=h
   obtain ⟨cells,a,c,rfl,oC,kI⟩:=WZ hs r1 h2 (fun u e=>by simp at e)
   simp only [I2,BI,iS,Ye]
   have Yf:Qf s.H 1 (.slice a l.length c)=some cells:=oC
   rw [Yf];simp only [Q1]
   rw [Qkr l cells kI]
   exact hK.here hs (p:=.str (NV l)) rfl h
  .simp at h
 .rename_i el q BI iS
  obtain rfl:v=.string q:=r1
  split at h
  .rename_i Ye
   simp only [I2,BI,iS,Ye]
   obtain ⟨s',e1,e2,hk,bY,hr⟩:=E1 (s:=s) hs (RL.bytes q.data.toList)
   rw [<- e2]
   have h':KV (.a_ s.L.bl.length 0 none) (Qw s.L (.arr (.int .u8) (Ie q)))=some r:=h
   have Mf:s'.L=Qw s.L (.arr (.int .u8) (Ie q)):=e1
   rw [<- Mf] at h'
   refine hK _ _ s' hk bY (ER.fq ?_) h'
   have:(q.data.toList.map fun b=>(b.toNat:Int)).length=q.size:=by simp
   rw [this] at hr;exact hr
  .simp at h
 .simp at h
end
end Go.Pv
