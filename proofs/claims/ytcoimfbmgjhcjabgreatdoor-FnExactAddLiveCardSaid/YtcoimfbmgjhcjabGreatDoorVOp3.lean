/-
  Operations that compute, read, build: the interpreter by value agrees with the first one. And what stood behind it in 2 texts.
  Conditions: said at the theorems.
-/
import Derived.Test.YtcoimfbmgjhcjabGreatDoorVVal
set_option linter.all false
namespace Go.Pv
open Go.Ev
theorem ER.cells {s:S} {p:PV} {v:Value} (h:ER s p v) (ho:okV p=true):cq s (mU p) v.cells.toList:=by
 cases p with
 | kQ cs=>simp [okV] at ho
 | fn f a b=>simp [okV] at ho
 | undef=>simp [okV] at ho
 | _=>exact AR.cells h (by intros;simp) (by simp)
theorem Yn {s:S} {cs ds:List PV} {vs ws:List Value} (h:cq s cs vs) (g:cq s ds ws) (o:Nat):cq s (N5 cs o ds) (lay vs o ws):=by
 have e:=Qw.length g
 unfold N5 lay
 rw [e]
 exact Qw.append (Qw.append (Qw.take o h) g) (Qw.drop _ h)
theorem QL (off:Nat):∀ (l:List Value) (n:Nat) (A:Array Value),off+n+l.length<=A.size ->
  ((l.zipIdx n).foldl (fun cs (c,j)=>cs.setIfInBounds (off+j) c) A).toList=lay A.toList (off+n) l
 | [],n,A,_=>by simp [lay]
 | v::l,n,A,h=>by
  simp only [Z9] at h
  simp only [List.zipIdx_cons,List.foldl_cons]
  rw [QL off l (n+1) _ (by simp;omega)]
  unfold lay
  rw [Array.toList_setIfInBounds]
  have hl:off+n < A.toList.length:=by simp;omega
  rw [List.set_eq_take_append_cons_drop,if_pos hl]
  have h1:(A.toList.take (off+n)).length=off+n:=by simp;omega
  have e1:((A.toList.take (off+n)++v::A.toList.drop (off+n+1))).take (off+(n+1))=A.toList.take (off+n)++[v]:=by
   rw [List.take_append,h1,show off+(n+1) - (off+n)=1 by omega,Zs (by omega)];simp
  have e2:((A.toList.take (off+n)++v::A.toList.drop (off+n+1))).drop (off+(n+1)+l.length)=A.toList.drop (off+n+(l.length+1)):=by
   rw [List.drop_append,h1,List.drop_of_length_le (by omega),show off+(n+1)+l.length - (off+n)=l.length+1 by omega]
   simp only [List.drop_succ_cons,List.nil_append,List.drop_drop]
   congr 1;omega
  rw [e1,e2];simp
theorem Yo {s:S} (place:Nat->Option (Nat×Nat)):∀ {ps:List (Nat×PV)} {qs:List (Nat×Value)} {zs cs:List PV} {B:Array Value},Qw (J5 s) ps qs->cq s zs B.toList->Ko place zs ps=some cs ->
  ∃ C,Instr.fill place B qs=some C/\cq s cs C.toList
 | [],[],zs,cs,B,_,hz,h=>by simp [Ko] at h;subst h;exact ⟨B,rfl,hz⟩
 | (i,p)::ps,(j,v)::qs,zs,cs,B,⟨⟨e,hv⟩,hp⟩,hz,h=>by
  simp only at e hv;subst e
  simp only [Ko] at h
  simp only [Instr.fill]
  split at h
  .simp at h
  .rename_i off size iO
   split at h
   .rename_i h1 h2 h3
    have hc:=hv.cells h1
    have hl:=Qw.length hc
    have hlz:=Qw.length hz
    have e2:=Z7 h2
    have e3:=Zi h3
    have bf:v.cells.size=size:=by
     simp only [Array.length_toList] at hl;omega
    have hB:B.toList.length=B.size:=by simp
    rw [iO]
    have dc:¬ ((decide (v.cells.size≠size) || decide (off+v.cells.size > B.size))=true):=by
     simp only [Bool.or_eq_true,Zj];omega
    simp only [dc,if_false,Bool.false_eq_true]
    refine Yo place hp ?_ h
    have:=QL off v.cells.toList 0 B (by simp at hl hlz ⊢;omega)
    rw [Nat.add_zero] at this
    have e5:(Array.foldl (fun cs (x:Value×Nat)=>cs.setIfInBounds (off+x.2) x.1) B v.cells.zipIdx).toList=lay B.toList off v.cells.toList:=by
     rw [<- Array.foldl_toList];simpa using this
    rw [e5]
    exact Yn hz hc off
   .simp at h
theorem ER.leaf {s:S} {p:PV} {v:Value} (h:ER s p v) (ho:gP p=true):cm s p v:=by
 cases p with
 | kQ cs=>simp [okV,gP] at ho
 | fn f a b=>simp [okV,gP] at ho
 | undef=>simp [okV,gP] at ho
 | agg cs=>simp [gP] at ho
 | _=>exact h
theorem Yp.leaf {s:S}:∀ {ps:List PV} {vs:List Value},Qw (ER s) ps vs->ps.all gP=true->cq s ps vs
 | [],[],_,_=>trivial
 | p::ps,v::vs,h,g=>by
  simp only [List.all_cons,Z8] at g
  exact ⟨h.1.leaf g.1,Yp.leaf h.2 g.2⟩
theorem Qr6 {β:Type} {x y:Option β} {r:β} (h:both x y=some r):x=some r/\y=some r:=by
 unfold both at h
 by_cases e:x=y
 .rw [if_pos e] at h;exact ⟨h,by rw [<- e];exact h⟩
 .rw [if_neg e] at h;simp at h
def Yq:Bool->BinOp
 | false=>.eql
 | true=>.neq
def Yr (L:LS) (v:PV):Option Nat->Prop
 | none=>v=.nil
 | some n=>iX L v=some n
theorem Qcb {P:Program} {op:BinOp} {t:TypeId} {L:LS} {v u:PV} {n:Option Nat} {neg:Bool} (h:Ys P op t L v u=some (n,neg)) :
  u=.nil/\(∃ el,P.underlying t=some (.slice el))/\op=Yq neg/\Yr L v n:=by
 unfold Ys at h
 split at h
 .rename_i hu
  split at h
  .simp at h;obtain ⟨rfl,rfl⟩:=h;exact ⟨rfl,⟨_,hu⟩,rfl,rfl⟩
  .obtain ⟨m,h1,h⟩:=ob h
   simp at h;obtain ⟨rfl,rfl⟩:=h;exact ⟨rfl,⟨_,hu⟩,rfl,h1⟩
 .rename_i hu
  split at h
  .simp at h;obtain ⟨rfl,rfl⟩:=h;exact ⟨rfl,⟨_,hu⟩,rfl,rfl⟩
  .obtain ⟨m,h1,h⟩:=ob h
   simp at h;obtain ⟨rfl,rfl⟩:=h;exact ⟨rfl,⟨_,hu⟩,rfl,h1⟩
 .simp at h
theorem Qr7 {γ:Type} {P:Program} {op:BinOp} {t el:TypeId} {neg:Bool} (hu:P.underlying t=some (.slice el)) (aK:op=Yq neg) {a:Option Addr} {n c:Nat} {K:Value->Option γ} :
  Av P op t (.slice a n c) (.slice none 0 0) K=K (.bool (a.isNone != neg)):=by
 subst aK
 cases neg<;>simp only [Yq,Av,hu,vq]
 .cases a<;>rfl
 .cases a<;>rfl
theorem Qo2 {P:Program} {s:S} {el:TypeId} {u:Ty} {cs:Array Value} {off:Nat} {i:TypeInfo} {y:u.T} {st:Nat} (hw:jG P 8 el=some u) (hi:P.info? el=some i) (bf:u.size=i.size) (hle:off+u.size<=cs.toList.length)
  (hr:ax (s.NN st) s.H u y ((cs.toList.drop off).take u.size)):∃ q,gI P el cs off=some q/\AR s (kT u (gk st u y)) q:=by
 have hlen:=ax.len _ hr
 unfold gI
 rw [hi];simp only [Q1]
 have Yt:(cs.extract off (off+i.size))=⟨(cs.toList.drop off).take u.size⟩:=by
  apply Array.toList_inj.1
  simp only [Array.toList_extract,List.extract_eq_drop_take]
  rw [bf];congr 1;omega
 rcases Rm hw with ⟨d,a,b,hu,hd,rfl⟩ | ⟨d,hu,vD,oe,Kp⟩
 .rcases hd with ⟨fs,rfl⟩ | ⟨n,e,rfl⟩<;>rw [hu]<;>simp only<;>rw [Yt]<;>exact ⟨_,rfl,MW (t:=.pair a b) rfl hr⟩
 .have Fu:u.size=1:=by cases u<;>first | rfl | exact absurd rfl (Kp _ _)
  obtain ⟨q,hq⟩:∃ q,(cs.toList.drop off).take u.size=[q]:=by
   match hc:(cs.toList.drop off).take u.size with
   | [q]=>exact ⟨q,rfl⟩
   | []=>rw [hc] at hlen;simp at hlen;omega
   | _::_::_=>rw [hc] at hlen;simp at hlen;omega
  have ah:cs[off]? = some q:=by
   have:((cs.toList.drop off).take u.size)[0]? = some q:=by rw [hq];rfl
   rw [List.getElem?_take_of_lt (by omega),Zp] at this
   rw [<- Array.getElem?_toList];simpa using this
  refine ⟨q,?_,MW (cs:=[q]) (by cases u<;>first | rfl | exact absurd rfl (Kp _ _)) (by rw [<- hq];exact hr)⟩
  rw [hu]
  cases d<;>first | exact absurd rfl (vD _) | exact absurd rfl (oe _ _) | exact ah
section
variable {A:cL} {β γ:Type} {s:S} {env:bA} {e:Env} {X:nj A β} {XE:Cx} {o:Oper} {KV:PV->LS->Option β} {KE:Value->af->Option γ} {r:β} {Q:γ->Prop}
def eE (s:S) (r:β) (KV:PV->LS->Option β) (KE:Value->af->Option γ) (Q:γ->Prop):Prop :=
 ∀ pv v s',aj s s'->aD s'->ER s' pv v->KV pv s'.L=some r->∃ y,KE v s'.H=some y/\Q y
theorem eE.here (hs:aD s) (hK:eE s r KV KE Q) {p:PV} {v:Value} (hr:ER s p v) (h:KV p s.L=some r):∃ y,KE v s.H=some y/\Q y :=
 hK p v s (aj.refl s) hs hr h
theorem Rb {x:Operand} (hs:aD s) (he:cG s env e) (hK:eE s r KV KE Q) (h:(Q1 (eA env x) fun v=>KV v s.L)=some r) :
  ∃ y,(Q1 (ev e x) fun v=>KE v s.H)=some y/\Q y:=by
 replace h:=ob h;obtain ⟨p,h1,h⟩:=h
 obtain ⟨v,e1,hr⟩:=fK he h1
 rw [e1];exact hK.here hs hr h
theorem Qu3 {c a b:Operand} (ho:o.op=.pick c a b) (hs:aD s) (he:cG s env e) (hK:eE s r KV KE Q) (h:dn X o env s.L KV=some r):∃ y,dx XE o e s.H KE=some y/\Q y:=by
 simp only [dn,ho] at h;simp only [dx,ho]
 replace h:=ob h;obtain ⟨p,h1,h⟩:=h
 obtain ⟨v,e1,hr⟩:=fK he h1
 split at h
 .obtain rfl:v=.bool _:=hr
  rw [e1];simp only [Q1,wZ]
  rename_i t
  cases t with
  | true=>simp only [aa] at h ⊢;exact Rb hs he hK h
  | false=>simp only [aa] at h ⊢;exact Rb hs he hK h
 .simp at h
theorem Qu4 {op:UnOp} {t:TypeId} {x:Operand} (ho:o.op=.unOp op t x) (hs:aD s) (he:cG s env e) (hK:eE s r KV KE Q) (h:dn X o env s.L KV=some r):∃ y,dx XE o e s.H KE=some y/\Q y:=by
 simp only [dn,ho] at h;simp only [dx,ho]
 replace h:=ob h;obtain ⟨p,h1,h⟩:=h
 replace h:=ob h;obtain ⟨v',h3,h⟩:=h
 obtain ⟨v,e1,r1⟩:=fK he h1
 have:=Yu r1 h3;subst this
 rw [OD] at h
 replace h:=ob h;obtain ⟨z,h5,h⟩:=h
 rw [e1];simp only [Q1]
 rw [OD,h5]
 exact hK.here hs (Qs2 (Qui h5)) h
theorem Qr8 {t:TypeId} {parts:Array (Nat×Operand)} (hP:X.P=XE.P) (ho:o.op=.build t parts) (hs:aD s) (he:cG s env e) (hK:eE s r KV KE Q) (h:dn X o env s.L KV=some r):∃ y,dx XE o e s.H KE=some y/\Q y:=by
 simp only [dn,ho] at h;simp only [dx,ho]
 replace h:=ob h;obtain ⟨ps,h1,h⟩:=h
 obtain ⟨qs,e1,r1⟩:=Xw he h1
 rw [e1];simp only [Q1]
 rw [<- hP]
 split at h
 .rename_i it fs hi hu
  split at h
  .rename_i z places hz iO
   replace h:=ob h;obtain ⟨zs,h2,h⟩:=h
   replace h:=ob h;obtain ⟨cs,h3,h⟩:=h
   obtain ⟨a1,a2⟩:=Kq (s:=s) h2
   obtain ⟨C,f1,f2⟩:=Yo _ r1 a1 h3
   have:Ft X.P t qs=some C:=by
    unfold Ft Be
    simp only [hi,Q1,hz,a2]
    unfold Program.built
    simp only [hi,hu,hz,iO]
    exact f1
   rw [this]
   exact hK.here hs (p:=.agg cs) ⟨C.toList,by simp,f2⟩ h
  .simp at h
 .rename_i it nn el hi hu
  split at h
  .rename_i z ie hz Oy
   replace h:=ob h;obtain ⟨zs,h2,h⟩:=h
   replace h:=ob h;obtain ⟨cs,h3,h⟩:=h
   obtain ⟨a1,a2⟩:=Kq (s:=s) h2
   obtain ⟨C,f1,f2⟩:=Yo _ r1 a1 h3
   have:Ft X.P t qs=some C:=by
    unfold Ft Be
    simp only [hi,Q1,hz,a2]
    unfold Program.built
    simp only [hi,hu,hz,Oy]
    exact f1
   rw [this]
   exact hK.here hs (p:=.agg cs) ⟨C.toList,by simp,f2⟩ h
  .simp at h
 .simp at h
theorem Qr9 {t:TypeId} {x:Operand} {f:Nat} (hP:X.P=XE.P) (ho:o.op=.field t x f) (hs:aD s) (he:cG s env e) (hK:eE s r KV KE Q) (h:dn X o env s.L KV=some r):∃ y,dx XE o e s.H KE=some y/\Q y:=by
 simp only [dn,ho] at h;simp only [dx,ho]
 replace h:=ob h;obtain ⟨p,h1,h⟩:=h
 obtain ⟨v,e1,r1⟩:=fK he h1
 rw [e1];simp only [Q1]
 split at h
 .rename_i cs
  obtain ⟨vs,rfl,r1⟩:=r1
  simp only
  rw [<- hP]
  split at h
  .rename_i fs hu
   replace h:=ob h;obtain ⟨fd,h2,h⟩:=h
   replace h:=ob h;obtain ⟨u,h3,h⟩:=h
   simp only [hu,h2,Q1]
   unfold N6 at h3
   replace h3:=ob h3;obtain ⟨i,h4,h3⟩:=h3
   have hl:=Qw.length r1
   split at h3
   .rename_i fs' dB
    split at h3
    .rename_i hle
     have hle:=Zi hle
     simp at h3;subst h3
     have:gI X.P fd.type (⟨vs⟩:Array Value) fd.offset=some (.agg ⟨(vs.drop fd.offset).take i.size⟩):=by
      unfold gI;simp only [h4,dB,Q1]
      congr 2
      apply Array.toList_inj.1
      simp only [Array.toList_extract,List.extract_eq_drop_take]
      congr 1;omega
     rw [this]
     exact hK.here hs (p:=.agg _) ⟨_,rfl,Qw.take _ (Qw.drop _ r1)⟩ h
    .simp at h3
   .rename_i nn' fs' dB
    split at h3
    .rename_i hle
     have hle:=Zi hle
     simp at h3;subst h3
     have:gI X.P fd.type (⟨vs⟩:Array Value) fd.offset=some (.agg ⟨(vs.drop fd.offset).take i.size⟩):=by
      unfold gI;simp only [h4,dB,Q1]
      congr 2
      apply Array.toList_inj.1
      simp only [Array.toList_extract,List.extract_eq_drop_take]
      congr 1;omega
     rw [this]
     exact hK.here hs (p:=.agg _) ⟨_,rfl,Qw.take _ (Qw.drop _ r1)⟩ h
    .simp at h3
   .rename_i d vD oe dB
    obtain ⟨w,g1,g2⟩:=Qw.get _ r1 h3
    have:gI X.P fd.type (⟨vs⟩:Array Value) fd.offset=some w:=by
     unfold gI;rw [h4];simp only [Q1];rw [dB]
     cases d<;>first | exact absurd rfl (vD _) | exact absurd rfl (oe _ _) | (simpa using g1)
    rw [this]
    exact hK.here hs (ER.fh g2) h
   .simp at h3
  .simp at h
 .simp at h
theorem Qkm {x:Operand} {i:Nat} (ho:o.op=.extract x i) (hs:aD s) (he:cG s env e) (hK:eE s r KV KE Q) (h:dn X o env s.L KV=some r):∃ y,dx XE o e s.H KE=some y/\Q y:=by
 simp only [dn,ho] at h;simp only [dx,ho]
 replace h:=ob h;obtain ⟨p,h1,h⟩:=h
 obtain ⟨v,e1,r1⟩:=fK he h1
 rw [e1];simp only [Q1]
 split at h
 .obtain ⟨vs,rfl,r1⟩:=r1
  simp only
  replace h:=ob h;obtain ⟨u,h2,h⟩:=h
  obtain ⟨w,g1,g2⟩:=Qw.get _ r1 h2
  have:(⟨vs⟩:Array Value)[i]? = some w:=by simpa using g1
  rw [this]
  exact hK.here hs (ER.of g2) h
 .simp at h
theorem Xo {δ ε:Type} {p:PV} {v:Value} (hr:ER s p v) {K:Nat->Option δ} {K':Nat->Option ε} {x:δ} {Q':ε->Prop} (h:Iw p K=some x) (hk:∀ n,K n=some x->∃ y,K' n=some y/\Q' y):∃ y,wJ v K'=some y/\Q' y:=by
 unfold Iw at h
 split at h
 .rename_i n
  obtain rfl:v=.int .i64 n:=hr
  unfold aa at h
  split at h
  .rename_i hd
   simp only [wJ,hd,aa];exact hk _ h
  .simp at h
 .simp at h
theorem Dv {δ ε:Type} {p:PV} {v:Value} (hr:ER s p v) {K:Nat->Option δ} {K':Nat->Option ε} {x:δ} {Q':ε->Prop} (h:oT p K=some x) (hk:∀ n,K n=some x->∃ y,K' n=some y/\Q' y):∃ y,EJ v K'=some y/\Q' y:=by
 unfold oT at h
 split at h
 .rename_i kd n
  obtain rfl:v=.int kd n:=hr
  unfold aa at h
  split at h
  .rename_i hd
   simp only [EJ,hd,aa];exact hk _ h
  .simp at h
 .simp at h
theorem Qe2 {w:Ty} {b aB:Nat}:∀ {cs:List PV} {n:Nat} {l:List (List w.T)},N7 w b aB n cs=some l->∀ {k:Nat} {y:List w.T},l[k]? = some y->cs[k]? = some (.rw b (n+k) aB w y)
 | [],n,l,h,k,y,hk=>by simp [N7] at h;subst h;simp at hk
 | c::r,n,l,h,k,y,hk=>by
  unfold N7 at h
  split at h
  .simp_all
  .rename_i b' i' vR t x r' heq
   injection heq with e1 e2;subst e1 e2
   split at h
   .rename_i hc
    simp only [Z8] at hc
    have c1:=Z7 hc.1
    have c2:=Z7 hc.2.1
    have c3:=Z7 hc.2.2
    subst c1 c2 c3
    replace h:=ob h;obtain ⟨y0,h1,h⟩:=h
    replace h:=ob h;obtain ⟨l',h2,h⟩:=h
    simp at h;subst h
    have e0:=Qq h1
    injection e0 with e0;subst e0
    have:=Qg h1;subst this
    cases k with
    | zero=>simp at hk;subst hk;simp
    | succ k =>
     simp only [List.getElem?_cons_succ] at hk ⊢
     rw [Qe2 h2 hk,Nat.add_assoc,Nat.add_comm 1 k]
   .simp at h
  .simp at h
theorem Qo3 {w:Ty} {cs:List PV} {b aB:Nat} {l:List (List w.T)} (h:Yv w cs=some (b,aB,l)) {k:Nat} {y:List w.T} (hk:l[k]? = some y):cs[k]? = some (.rw b k aB w y):=by
 unfold Yv at h
 split at h
 .replace h:=ob h;obtain ⟨l',h1,h⟩:=h
  simp only [Option.some.injEq,Prod.mk.injEq] at h
  obtain ⟨rfl,rfl,rfl⟩:=h
  have:=Qe2 h1 hk
  rw [Zo] at this;exact this
 .simp at h
theorem Qra {t:TypeId} {x ix:Operand} (hP:X.P=XE.P) (ho:o.op=.index t x ix) (hs:aD s) (he:cG s env e) (hK:eE s r KV KE Q) (h:dn X o env s.L KV=some r):∃ y,dx XE o e s.H KE=some y/\Q y:=by
 simp only [dn,ho] at h;simp only [dx,ho]
 replace h:=ob h;obtain ⟨p,h1,h⟩:=h
 replace h:=ob h;obtain ⟨j,h2,h⟩:=h
 obtain ⟨v,e1,r1⟩:=fK he h1
 obtain ⟨w,e2,r2⟩:=fK he h2
 rw [e1,e2];simp only [Q1]
 split at h
 .obtain rfl:v=.string _:=r1
  simp only
  rw [<- hP]
  split at h
  .rename_i hu
   simp only [hu]
   refine Dv r2 h (fun n h=>?_)
   replace h:=ob h;obtain ⟨b,h3,h⟩:=h
   rw [h3]
   exact hK.here hs (p:=.int .u8 b.toNat) rfl h
  .simp at h
 .rename_i cs
  obtain ⟨vs,rfl,r1⟩:=r1
  simp only
  rw [<- hP]
  split at h
  .rename_i n el hu
   replace h:=ob h;obtain ⟨i,h3,h⟩:=h
   replace h:=ob h;obtain ⟨u,h4,h⟩:=h
   split at h
   .rename_i hc
    simp only [Z8] at hc
    have bf:=Z7 hc.1
    replace h:=ob h;obtain ⟨xs,h5,h⟩:=h
    obtain ⟨g1,g2,g3⟩:=Rn hs u r1 h5
    simp only [hu,h3,Q1]
    refine Dv r2 h (fun k h=>?_)
    replace h:=ob h;obtain ⟨y,h6,h⟩:=h
    obtain ⟨hk,ek⟩:=Z0 h6
    have Yw:Nat.blt k n=true:=Kr (by omega)
    simp only [Yw,aa]
    have cZ:=g3 k hk
    rw [ek] at cZ
    have hm:k*u.size+u.size<=n*u.size:=by
     have:=Zk u.size (show k+1<=n by omega)
     rw [Nat.add_mul,Nat.one_mul] at this;exact this
    obtain ⟨q,hq1,hq2⟩:=Qo2 (P:=X.P) (el:=el) (cs:=⟨vs⟩) (off:=k*i.size) h4 h3 bf (by simp;rw [<- bf];omega) (by rw [<- bf];exact ax.flat (M:=s.NN s.L.cu) (G:=s.H) u hc.2 cZ)
    rw [hq1]
    exact hK.here hs (ER.of hq2) h
   .split at h
    .rename_i w
     replace h:=ob h;obtain ⟨⟨b,aB,xs⟩,h5,h⟩:=h
     split at h
     .rename_i bf
      have bf:=Z7 bf
      simp only [hu,h3,Q1]
      refine Dv r2 h (fun k h=>?_)
      unfold aa at h
      split at h
      .rename_i au
       simp only [au,aa]
       replace h:=ob h;obtain ⟨y,h6,h⟩:=h
       have hq:=Qo3 h5 h6
       obtain ⟨w',g1,g2⟩:=Qw.get _ r1 hq
       have hp:gI X.P el ⟨vs⟩ (k*i.size)=some w':=by
        unfold gI
        rw [h3];simp only [Q1]
        have hg:(⟨vs⟩:Array Value)[k*i.size]? = some w':=by rw [bf];simpa using g1
        rcases Rm h4 with ⟨d',a,b',dB,hd,e⟩ | ⟨d',dB,vD,oe,_⟩
        .simp at e
        .rw [dB]
         cases d'<;>first | exact absurd rfl (vD _) | exact absurd rfl (oe _ _) | exact hg
       rw [hp]
       exact hK.here hs (ER.fh g2) h
      .simp at h
     .simp at h
    .simp at h
  .simp at h
 .simp at h
theorem Qiv {f:FuncId} {first cap:Array Operand} (ho:o.op=.makeFunc (.func f) first cap) (hs:aD s) (he:cG s env e) (hK:eE s r KV KE Q)
  (h:dn X o env s.L KV=some r):∃ y,dx XE o e s.H KE=some y/\Q y:=by
 simp only [dn,ho] at h;simp only [dx,ho]
 replace h:=ob h;obtain ⟨ps,h1,h⟩:=h
 replace h:=ob h;obtain ⟨qs,h2,h⟩:=h
 obtain ⟨vs,e1,r1⟩:=NV he h1
 obtain ⟨ws,e2,r2⟩:=NV he h2
 rw [e1,e2];simp only [Q1]
 split at h
 .rename_i hl
  simp only [Z8] at hl
  exact hK.here hs (p:=.fn (kB f) ps qs) ⟨vs,ws,rfl,Yp.leaf r1 hl.1,Yp.leaf r2 hl.2⟩ h
 .simp at h
theorem Qg1 {t:TypeId} {x:Operand} {f:Nat} (hP:X.P=XE.P) (ho:o.op=.fieldAddr t x f) (hs:aD s) (he:cG s env e) (hK:eE s r KV KE Q) (h:dn X o env s.L KV=some r):∃ y,dx XE o e s.H KE=some y/\Q y:=by
 simp only [dn,ho] at h;simp only [dx,ho]
 replace h:=ob h;obtain ⟨p,h1,h⟩:=h
 obtain ⟨v,e1,r1⟩:=fK he h1
 rw [e1];simp only [Q1]
 split at h
 .rename_i fs hu
  replace h:=ob h;obtain ⟨fd,h2,h⟩:=h
  replace h:=ob h;obtain ⟨i,h3,h⟩:=h
  split at h
  .simp at h
  .rename_i hz
   rw [<- hP]
   split at h
   .rename_i b off
    obtain ⟨hb,m,hm,dW,rfl⟩:=r1
    simp only [e_,hu,h2,h3,Q1,hz]
    exact hK.here hs (p:=.ptr b (off+fd.offset)) ⟨hb,m,hm,dW,rfl⟩ h
   .rename_i b j fo
    obtain ⟨hb,m,hm,rfl⟩:=r1
    simp only [e_,hu,h2,h3,Q1,hz]
    exact hK.here hs (p:=.ep b j (fo+fd.offset)) ⟨hb,m,hm,by rw [Nat.add_assoc]⟩ h
   .rename_i st u y
    replace h:=ob h;obtain ⟨w,h4,h⟩:=h
    replace h:=ob h;obtain ⟨y',h5,h⟩:=h
    obtain ⟨z,oo,k,rfl,hn,hk,hl,hr⟩:=r1
    simp only [e_,hu,h2,h3,Q1,hz]
    obtain ⟨g1,g2⟩:=Yx _ _ h5 hr
    refine hK.here hs (p:=.rp st w y') ⟨z,oo+fd.offset,k,rfl,hn,hk,by omega,?_⟩ h
    have:(((k.cells.drop oo).take u.size).drop fd.offset).take w.size=(k.cells.drop (oo+fd.offset)).take w.size:=by
     rw [List.drop_take,List.take_take,Nat.min_eq_left (by omega),List.drop_drop]
    rw [this] at g1;exact g1
   .rename_i b aB u y
    replace h:=ob h;obtain ⟨w,h4,h⟩:=h
    replace h:=ob h;obtain ⟨y',h5,h⟩:=h
    obtain ⟨hb,⟨z,oo,rfl⟩,hv⟩:=r1
    simp only [e_,hu,h2,h3,Q1,hz]
    refine hK.here hs (p:=.rq b aB w y') ⟨hb,⟨z,oo+fd.offset,rfl⟩,fun B hB=>⟨(hv B hB).1,fun e=>?_⟩⟩ h
    obtain ⟨z',o',k,j,e1,wY,hk,hl,hr⟩:=(hv B hB).2 e
    injection e1 with e1;injection e1 with e1;injection e1 with e1 e2 _;subst e1 e2
    obtain ⟨g1,g2⟩:=Yx _ _ h5 hr
    refine ⟨z,oo+fd.offset,k,j,rfl,wY,hk,by omega,?_⟩
    have:(((k.cells.drop oo).take u.size).drop fd.offset).take w.size=(k.cells.drop (oo+fd.offset)).take w.size:=by
     rw [List.drop_take,List.take_take,Nat.min_eq_left (by omega),List.drop_drop]
    rw [this] at g1;exact g1
   .simp at h
 .simp at h
theorem mS (hs:aD s) {b aB:Nat} {rw:Bool} {t:Ty} {xs:List (List t.T)} {ho:Option Nat} (hb:Qi s.L b=some ⟨aB,rw,.rows t xs ho⟩):rw=true/\t.flat=true /\
  ((s.μ b=none/\xs=[])\/∃ m k,s.μ b=some m/\m.es=1/\m.n=xs.length/\ah s.H m.z=some k/\Fit m.sh xs.length k.cells/\k.ro=false/\s.ai<=m.z /\
   ∀ i (hi:i < xs.length),ho≠some i->∃ v,k.cells[m.sh+i]? = some v/\iF (fun z=>s.br z=some (b,i)) s.H s.ai t xs[i] v):=by
 have:=hs.aJ b _ hb
 unfold BR at this;simp only at this
 obtain ⟨h0,h1,h2⟩:=this
 refine ⟨h0,h1,?_⟩
 cases hm:s.μ b with
 | none=>rw [hm] at h2;exact .inl ⟨rfl,h2⟩
 | some m =>
  rw [hm] at h2
  obtain ⟨a1,a2,k,a3,a4,a5,a6,a7⟩:=h2
  exact .inr ⟨m,k,rfl,a1,a2,a3,a4,a5,a6,a7⟩
theorem mO (hs:aD s) {b aB:Nat} {rw:Bool} {u:Ty} {xs:List u.T} (hb:Qi s.L b=some ⟨aB,rw,.arr u xs⟩) {m:MB} (hm:s.μ b=some m):m.es=u.size/\m.n=xs.length/\∃ k,ah s.H m.z=some k/\m.sh+xs.length*u.size<=k.cells.length /\
   (∀ i (h:i < xs.length),ax s.N s.H u xs[i] ((k.cells.drop (m.sh+i*u.size)).take u.size))/\(rw=true->k.ro=false/\s.ai<=m.z)/\(rw=false->s.N m.z):=by
 have:=hs.aJ b _ hb
 unfold BR at this;simp only [hm] at this
 obtain ⟨h1,h2,k,h3,h4,h5⟩:=this
 exact ⟨h1,h2,k,h3,h4.1,h5⟩
theorem AI (hs:aD s) {b aB:Nat} {rw:Bool} {u:Ty} {xs:List u.T} (hb:Qi s.L b=some ⟨aB,rw,.arr u xs⟩) {m:MB} (hm:s.μ b=some m) {k:bx} (hk:ah s.H m.z=some k):Fit m.sh (xs.length*u.size) k.cells:=by
 have:=hs.aJ b _ hb
 unfold BR at this;simp only [hm] at this
 obtain ⟨h1,h2,k',h3,h4,h5⟩:=this
 rw [hk] at h3;injection h3 with h3;subst h3;exact h4
theorem EX (hs:aD s) {b aB:Nat} {rw:Bool} {u:Ty} {xs:List u.T} (hb:Qi s.L b=some ⟨aB,rw,.arr u xs⟩) (hm:s.μ b=none):xs=[]:=by
 have:=hs.aJ b _ hb
 unfold BR at this;simp only [hm] at this;exact this
theorem Qrb (off k:Nat):Rp off k=off+k:=by cases off<;>simp [Rp]
theorem Yy (hs:aD s) {b off:Nat} {n:Option Nat} {v:Value} (hr:cm s (.a_ b off n) v) {aB:Nat} {rw:Bool} {u:Ty} {xs:List u.T} (hb:Qi s.L b=some ⟨aB,rw,.arr u xs⟩) {l:Nat} (h:iX s.L (.a_ b off n)=some l) :
  (∃ m,s.μ b=some m/\v=.slice (some ⟨m.z,m.sh+off*m.es,none⟩) l m.es/\off+l<=xs.length)\/(s.μ b=none/\v=.slice none 0 0/\l=0/\off=0/\xs=[]):=by
 obtain ⟨bE,hr⟩:=hr
 cases hm:s.μ b with
 | none =>
  rw [hm] at hr;obtain ⟨rfl,h2,rfl⟩:=hr
  have hx:=EX hs hb hm
  subst hx
  right
  refine ⟨rfl,rfl,?_,rfl,rfl⟩
  cases n with
  | none=>simp [iX,hb] at h;exact h.symm
  | some q=>simp [iX] at h h2;omega
 | some m =>
  rw [hm] at hr;obtain ⟨g1,rfl⟩:=hr
  left
  obtain ⟨a1,a2,_⟩:=mO hs hb hm
  have hl:l=n.getD (m.n - off):=by
   cases n with
   | none =>
    simp only [iX,hb] at h
    simp at h ⊢;omega
   | some q=>simp [iX] at h ⊢;exact h.symm
  subst hl
  exact ⟨m,rfl,rfl,by omega⟩
theorem Xq (hs:aD s) {p:PV} {v:Value} (hr:ER s p v) {l:Nat} (h:iX s.L p=some l):∃ a c,v=.slice a l c:=by
 unfold iX at h
 split at h
 .simp at h;subst h;obtain rfl:v=_:=hr;exact ⟨_,_,rfl⟩
 .rename_i st t x
  simp at h;subst h
  have hr:ax (s.NN st) s.H (.sl t) x [v]:=hr
  unfold ax at hr
  rcases hr with ⟨rfl,e1⟩ | ⟨rfl,_,_,e1⟩ | ⟨_,_,_,e1,_⟩<;>(simp at e1;subst e1;exact ⟨_,_,rfl⟩)
 .rename_i b off n
  have hr:cm s (.a_ b off (some n)) v:=hr
  simp at h;subst h
  obtain ⟨bE,hr⟩:=hr
  split at hr
  .obtain ⟨_,h2,rfl⟩:=hr;simp at h2;subst h2;exact ⟨_,_,rfl⟩
  .obtain ⟨_,rfl⟩:=hr;exact ⟨_,_,rfl⟩
 .rename_i b off
  have hr:cm s (.a_ b off none) v:=hr
  split at h
  .rename_i aB rw t xs hb
   have iO:iX s.L (.a_ b off none)=some l:=by simp only [iX,hb];exact h
   rcases Yy hs hr hb iO with ⟨m,_,rfl,_⟩ | ⟨_,rfl,rfl,_⟩<;>exact ⟨_,_,rfl⟩
  .rename_i aB rw t xs ho hb
   split at h
   .simp at h;subst h
    obtain ⟨bE,hr⟩:=hr
    obtain ⟨_,_,⟨hm,rfl⟩ | ⟨m,k,hm,a1,a2,_⟩⟩:=mS hs hb
    .rw [hm] at hr;obtain ⟨_,_,rfl⟩:=hr;exact ⟨_,_,rfl⟩
    .rw [hm] at hr;obtain ⟨_,rfl⟩:=hr
     exact ⟨some ⟨m.z,m.sh+0*m.es,none⟩,m.es,by simp [a2]⟩
   .simp at h
  .simp at h
 .rename_i b i aB t x
  simp at h;subst h
  obtain ⟨_,hr,_⟩:cm s (.rw b i aB t x) v:=hr
  rcases hr with ⟨e,rfl⟩ | ⟨z,oo,rfl⟩
  .rw [e];exact ⟨_,_,rfl⟩
  .exact ⟨_,_,rfl⟩
 .simp at h
theorem Qu5 (hs:aD s) {p:PV} {v:Value} (hr:ER s p v) {l:Nat} (h:iX s.L p=some l):∃ a c,v=.slice a l c/\(a=none->l=0):=by
 obtain ⟨a,c,rfl⟩:=Xq hs hr h
 refine ⟨a,c,rfl,fun ha=>?_⟩
 subst ha
 unfold iX at h
 split at h
 .simp at h;exact h.symm
 .rename_i st t x
  have hr:ax (s.NN st) s.H (.sl t) x [.slice none l c]:=hr
  unfold ax at hr
  rcases hr with ⟨rfl,e1⟩ | ⟨rfl,_,_,e1⟩ | ⟨_,_,_,e1,_⟩
  .simp at h;exact h.symm
  .simp at h;exact h.symm
  .simp at e1
 .rename_i b off n
  have hr:cm s (.a_ b off (some n)) (.slice none l c):=hr
  simp at h;subst h
  obtain ⟨bE,hr⟩:=hr
  split at hr
  .have:=hr.2.1;simpa using this
  .have:=hr.2;simp at this
 .rename_i b off
  have hr:cm s (.a_ b off none) (.slice none l c):=hr
  split at h
  .rename_i aB rw t xs hb
   have iO:iX s.L (.a_ b off none)=some l:=by simp only [iX,hb];exact h
   rcases Yy hs hr hb iO with ⟨m,_,e1,_⟩ | ⟨_,_,rfl,_⟩
   .simp at e1
   .rfl
  .rename_i aB rw t xs ho hb
   split at h
   .simp at h;subst h
    obtain ⟨bE,hr⟩:=hr
    obtain ⟨_,_,⟨hm,rfl⟩ | ⟨m,k,hm,a1,a2,_⟩⟩:=mS hs hb
    .rfl
    .rw [hm] at hr;obtain ⟨_,e⟩:=hr;simp at e
   .simp at h
  .simp at h
 .rename_i b i aB t x
  simp at h;subst h
  obtain ⟨_,hr,_⟩:cm s (.rw b i aB t x) (.slice none x.length c):=hr
  rcases hr with ⟨e,_⟩ | ⟨z,oo,e⟩
  .exact e
  .simp at e
 .simp at h
theorem Qrc {op:BinOp} {t u:TypeId} {x y:Operand} (hP:X.P=XE.P) (ho:o.op=.binOp op t x y u) (hs:aD s) (he:cG s env e) (hK:eE s r KV KE Q) (h:dn X o env s.L KV=some r):∃ y,dx XE o e s.H KE=some y/\Q y:=by
 simp only [dn,ho] at h;simp only [dx,ho]
 replace h:=ob h;obtain ⟨p,h1,h⟩:=h
 replace h:=ob h;obtain ⟨q,h2,h⟩:=h
 obtain ⟨v,e1,r1⟩:=fK he h1
 obtain ⟨w,e2,r2⟩:=fK he h2
 rw [e1,e2];simp only [Q1]
 rw [<- hP]
 split at h
 .rename_i neg hc
  obtain ⟨hq,⟨el,hu⟩,aK,hv⟩:=Qcb hc
  rw [hq] at r2
  obtain rfl:w=.slice none 0 0:=r2
  rw [show p=.nil from hv] at r1
  obtain rfl:v=.slice none 0 0:=r1
  rw [Qr7 hu aK]
  have hz:(Option.isNone (none:Option Addr) != neg) = !neg:=by cases neg<;>rfl
  rw [hz]
  exact hK.here hs (p:=.bool (!neg)) rfl h
 .rename_i n neg hc
  obtain ⟨hq,⟨el,hu⟩,aK,hv⟩:=Qcb hc
  rw [hq] at r2
  obtain rfl:w=.slice none 0 0:=r2
  obtain ⟨a,c,rfl,hn⟩:=Qu5 hs r1 hv
  rw [Qr7 hu aK]
  unfold Jo at h
  cases n with
  | zero =>
   obtain ⟨g1,g2⟩:=Qr6 h
   cases a with
   | none =>
        have hz:(Option.isNone (none:Option Addr) != neg) = !neg:=by cases neg<;>rfl
        rw [hz];exact hK.here hs (p:=.bool (!neg)) rfl g1
   | some a =>
         have:(Option.isNone (some a) != neg)=neg:=by cases neg<;>rfl
         rw [this];exact hK.here hs (p:=.bool neg) rfl g2
  | succ n =>
   cases a with
   | none=>exact absurd (hn rfl) (by omega)
   | some a =>
         have:(Option.isNone (some a) != neg)=neg:=by cases neg<;>rfl
         rw [this];exact hK.here hs (p:=.bool neg) rfl h
 .replace h:=ob h;obtain ⟨v',h3,h⟩:=h
  replace h:=ob h;obtain ⟨u',h4,h⟩:=h
  have:=Yu r1 h3;subst this
  have:=Yu r2 h4;subst this
  rw [Qmq] at h
  replace h:=ob h;obtain ⟨z,h5,h⟩:=h
  rw [Qmq,h5]
  exact hK.here hs (Qs2 (Qs3 h5)) h
theorem Qg4 {t:TypeId} {x ix:Operand} (hP:X.P=XE.P) (ho:o.op=.indexAddr t x ix) (hs:aD s) (he:cG s env e) (hK:eE s r KV KE Q) (h:dn X o env s.L KV=some r):∃ y,dx XE o e s.H KE=some y/\Q y:=by
 simp only [dn,ho] at h;simp only [dx,ho]
 replace h:=ob h;obtain ⟨p,h1,h⟩:=h
 replace h:=ob h;obtain ⟨j,h2,h⟩:=h
 obtain ⟨v,e1,r1⟩:=fK he h1
 obtain ⟨w,e2,r2⟩:=fK he h2
 rw [e1,e2];simp only [Q1]
 rw [<- hP]
 split at h
 .rename_i el hu
  replace h:=ob h;obtain ⟨i,h3,h⟩:=h
  split at h
  .rename_i st u l
   split at h
   .rename_i bf
    have bf:=Z7 bf
    have r1:ax (s.NN st) s.H (.sl u) l [v]:=r1
    unfold ax at r1
    have aU:∀ (K:Nat->Option γ),True:=fun _=>trivial
    rcases r1 with ⟨rfl,e3⟩ | ⟨rfl,z,oo,e3⟩ | ⟨z,oo,k,e3,hn,hk,hle,hi⟩
    .exfalso
     unfold oT at h;split at h
     .unfold aa at h;split at h
      .simp [Q1] at h
      .simp at h
     .simp at h
    .exfalso
     unfold oT at h;split at h
     .unfold aa at h;split at h
      .simp [Q1] at h
      .simp at h
     .simp at h
    .simp at e3;subst e3
     simp only [wF,hu,h3,Q1]
     refine Dv r2 h (fun n h=>?_)
     replace h:=ob h;obtain ⟨y,h4,h⟩:=h
     obtain ⟨au,e5⟩:=Z0 h4
     have:Nat.blt n l.length=true:=Kr au
     simp only [this,aa]
     have hmul:n*u.size+u.size<=l.length*u.size:=by
      have:=Zk u.size (show n+1<=l.length from au)
      rw [Nat.add_mul,Nat.one_mul] at this;exact this
     refine hK.here hs (p:=.rp st u y) ⟨z,oo+n*i.size,k,rfl,hn,hk,by rw [<- bf];omega,?_⟩ h
     have:=hi n au
     rw [e5] at this;rw [<- bf];exact this
   .simp at h
  .rename_i b off n
   split at h
   .rename_i aB rw u xs hb
    split at h
    .rename_i bf
     have bf:=Z7 bf
     have r1:cm s (.a_ b off n) v:=r1
     have key:∀ q,(Q1 (iX s.L (.a_ b off n)) fun m=>aa (Nat.blt q m) (KV (.ep b (Rp off q) 0) s.L) none)=some r ->
       ∃ m l,s.μ b=some m/\v=.slice (some ⟨m.z,m.sh+off*m.es,none⟩) l m.es/\q < l/\KV (.ep b (off+q) 0) s.L=some r:=by
      intro q h
      replace h:=ob h;obtain ⟨l,h4,h⟩:=h
      unfold aa at h;split at h
      .rename_i au
       have au:=BQ au
       rcases Yy hs r1 hb h4 with ⟨m,a1,a2,a3⟩ | ⟨_,_,rfl,_⟩
       .refine ⟨m,l,a1,a2,au,?_⟩
        rw [<- Qrb];exact h
       .omega
      .simp at h
     have hex:∃ a n' c,v=.slice (some a) n' c:=by
      unfold oT at h;split at h
      .rename_i nn
       cases hd:decide (0<=nn) with
       | true =>
        rw [hd] at h
        obtain ⟨m,l,_,rfl,_⟩:=key nn.toNat h;exact ⟨_,_,_,rfl⟩
       | false=>rw [hd] at h;simp [aa] at h
      .simp at h
     obtain ⟨a,n',c,rfl⟩:=hex
     simp only [wF,hu,h3,Q1]
     refine Dv r2 h (fun q h=>?_)
     obtain ⟨m,l,hm,ev',au,h⟩:=key q h
     injection ev' with e5 e6 e7
     injection e5 with e5
     subst e5 e6 e7
     have:Nat.blt q n'=true:=Kr au
     simp only [this,aa]
     obtain ⟨a1,_⟩:=mO hs hb hm
     refine hK.here hs (p:=.ep b (off+q) 0) ⟨r1.1,m,hm,?_⟩ h
     rw [Nat.add_zero,Nat.add_mul,a1,bf,Nat.add_assoc]
    .simp at h
   .rename_i aB rw u xs ho hb
    split at h
    .rename_i bf
     simp only [Z8] at bf
     obtain ⟨bf,IN,vU⟩:=bf
     have bf:=Z7 bf
     have IN:=Z7 IN
     subst IN
     have vU:n=none:=by cases n<;>simp_all
     subst vU
     have r1:cm s (.a_ b 0 none) v:=r1
     obtain ⟨_,_,cx⟩:=mS hs hb
     have hex:∃ q,KV (.ep b q 0) s.L=some r/\q < xs.length:=by
      unfold oT at h;split at h
      .rename_i nn
       cases hd:decide (0<=nn) with
       | true =>
        rw [hd] at h
        simp only [aa] at h
        split at h
        .rename_i au;exact ⟨_,h,BQ au⟩
        .simp at h
       | false=>rw [hd] at h;simp [aa] at h
      .simp at h
     obtain ⟨q0,_,hq0⟩:=hex
     rcases cx with ⟨hm,rfl⟩ | ⟨m,k,hm,a1,a2,_⟩
     .simp at hq0
     have Rq:=r1
     obtain ⟨_,Rq⟩:=Rq
     rw [hm] at Rq
     obtain ⟨_,rfl⟩:=Rq
     simp only [wF,hu,h3,Q1]
     refine Dv r2 h (fun q h=>?_)
     unfold aa at h;split at h
     .rename_i au
      have:Nat.blt q ((none:Option Nat).getD (m.n - 0))=true:=by simp [a2,au]
      simp only [this,aa]
      refine hK.here hs (p:=.ep b q 0) ⟨r1.1,m,hm,?_⟩ h
      rw [a1,<- bf];simp
     .simp at h
    .simp at h
   .simp at h
  .rename_i b i0 aB u l
   split at h
   .rename_i bf
    have bf:=Z7 bf
    obtain ⟨bE,Aj,hval⟩:cm s (.rw b i0 aB u l) v:=r1
    rcases Aj with ⟨e3,rfl⟩ | ⟨z,oo,rfl⟩
    .exfalso
     have:l=[]:=Z1 e3
     subst this
     unfold oT at h;split at h
     .unfold aa at h;split at h
      .simp [Q1] at h
      .simp at h
     .simp at h
    .simp only [wF,hu,h3,Q1]
     refine Dv r2 h (fun n h=>?_)
     replace h:=ob h;obtain ⟨y,h4,h⟩:=h
     obtain ⟨au,e5⟩:=Z0 h4
     have:Nat.blt n l.length=true:=Kr au
     simp only [this,aa]
     have hmul:n*u.size+u.size<=l.length*u.size:=by
      have:=Zk u.size (show n+1<=l.length from au)
      rw [Nat.add_mul,Nat.one_mul] at this;exact this
     refine hK.here hs (p:=.rq b aB u y) ⟨bE,⟨z,oo+n*i.size,rfl⟩,fun B hB=>⟨(hval B hB).1,fun e=>?_⟩⟩ h
     obtain ⟨_,cx,_⟩:=(hval B hB).2 e
     rcases cx with ⟨_,e6⟩ | ⟨z',o',k,e6,g1,g2,g3,g4,g5,g6⟩
     .simp at e6
     .injection e6 with e6 _ _;injection e6 with e6;injection e6 with e6 e7 _;subst e6 e7
      have:=g6 n au
      rw [e5] at this
      exact ⟨z,oo+n*i.size,k,i0,rfl,g1,g2,by have:=g5.1;rw [<- bf];omega,by rw [<- bf];exact this⟩
   .simp at h
  .simp at h
 .rename_i n el hu
  replace h:=ob h;obtain ⟨i,h3,h⟩:=h
  replace h:=ob h;obtain ⟨u,h4,h⟩:=h
  split at h
  .rename_i b off
   split at h
   .rename_i aB rw u' xs ho hb
    split at h
    .rename_i hc
     simp only [Z8] at hc
     obtain ⟨IN,bf⟩:=hc
     have IN:=Z7 IN
     have bf:=Z7 bf
     subst IN
     obtain ⟨bE,m,hm,dW,rfl⟩:=r1
     obtain ⟨_,_,cx⟩:=mS hs hb
     simp only [e_,hu,h3,Q1]
     refine Dv r2 h (fun k h=>?_)
     unfold aa at h
     split at h
     .rename_i au
      simp only [Z8] at au
      simp only [au.1,aa]
      have hk:=BQ au.2
      rcases cx with ⟨_,rfl⟩ | ⟨m',kk,aE,a1,a2,_⟩
      .simp at hk
      rw [hm] at aE;injection aE with aE;subst aE
      refine hK.here hs (p:=.ep b k 0) ⟨bE,m,hm,?_⟩ h
      rw [dW,a1,<- bf];simp
     .simp at h
    .simp at h
   split at h
   .rename_i hc
    simp only [Z8] at hc
    have bf:=Z7 hc.1
    obtain ⟨hb,m,hm,dW,rfl⟩:=r1
    simp only [e_,hu,h3,Q1]
    refine Dv r2 h (fun k h=>?_)
    unfold aa at h
    split at h
    .rename_i au
     simp only [au,aa]
     exact hK.here hs (p:=.dp b off n u k) ⟨hb,m,hm,dW,by rw [bf]⟩ h
    .simp at h
   .simp at h
  .simp at h
 .simp at h
end
theorem rG (l:List Value) (o:Nat) (ds:List Value) (h:o+ds.length<=l.length) (i:Nat):(lay l o ds)[i]? = if i < o then l[i]? else if i < o+ds.length then ds[i - o]? else l[i]?:=by
 unfold lay
 have h1:(l.take o).length=o:=by simp;omega
 split
 .rename_i hi
  rw [List.append_assoc,List.getElem?_append_left (by omega),List.getElem?_take_of_lt hi]
 .split
  .rename_i hi hj
   rw [List.append_assoc,Zq (by omega),h1,List.getElem?_append_left (by omega)]
  .rename_i hi hj
   rw [Zq (by simp;omega),Zp]
   congr 1;simp;omega
theorem Ny (l:List Value) (o:Nat) (ds:List Value) (h:o+ds.length<=l.length):(lay l o ds).length=l.length:=by
 unfold lay;simp;omega
def cI (l:List Value) (p n:Nat):List Value:=(l.drop p).take n
theorem tc (l:List Value) (p n i:Nat):(cI l p n)[i]? = if i < n then l[p+i]? else none:=by
 unfold cI
 split
 .rename_i h;rw [List.getElem?_take_of_lt h,Zp]
 .rename_i h;rw [List.getElem?_take_eq_none (by omega)]
theorem IP (l:List Value) (p n:Nat) (h:p+n<=l.length):(cI l p n).length=n:=by unfold cI;simp;omega
theorem Qkn (l:List Value) (o:Nat) (ds:List Value) (h:o+ds.length<=l.length) (p n:Nat) (hd:p+n<=o\/o+ds.length<=p):cI (lay l o ds) p n=cI l p n:=by
 apply List.ext_getElem?;intro i
 rw [tc,tc,rG l o ds h]
 split
 .split
  .rfl
  .split
   .omega
   .rfl
 .rfl
theorem Qo4 (l:List Value) (o:Nat) (ds:List Value) (p n:Nat) (h1:p<=o) (h2:o+ds.length<=p+n) (h3:p+n<=l.length):cI (lay l o ds) p n=lay (cI l p n) (o - p) ds:=by
 have hl:=IP l p n h3
 apply List.ext_getElem?;intro i
 rw [tc,rG l o ds (by omega),rG (cI l p n) (o - p) ds (by omega)]
 split
 .rename_i hi
  split
  .rename_i hj
   rw [if_pos (by omega),tc,if_pos hi]
  .rename_i hj
   split
   .rename_i hk
    rw [if_neg (by omega),if_pos (by omega)];congr 1;omega
   .rename_i hk
    rw [if_neg (by omega),if_neg (by omega),tc,if_pos hi]
 .rename_i hi
  rw [if_neg (by omega),if_neg (by omega),tc,if_neg hi]
theorem cm.plain {s:S} {p:PV} {v:Value} (h:cm s p v):Qa v v=true:=by
 cases p with
 | int k n=>obtain rfl:=h;simp [Qa]
 | bool b=>obtain rfl:=h;simp [Qa]
 | str b=>obtain rfl:=h;simp [Qa]
 | nil=>obtain rfl:=h;simp [Qa]
 | vS=>obtain rfl:=h;simp [Qa]
 | ro st t x =>
  have h':ax (s.NN st) s.H (.sl t) x [v]:=h
  unfold ax at h'
  rcases h' with ⟨_,e⟩ | ⟨_,_,_,e⟩ | ⟨_,_,_,e,_⟩<;>(simp at e;subst e;simp [Qa])
 | rp st t x=>obtain ⟨z,o,k,rfl,r⟩:=id h;simp [Qa]
 | a_ b off n =>
  obtain ⟨_,r⟩:=id h
  split at r
  .rw [r.2.2];simp [Qa]
  .rw [r.2];simp [Qa]
 | ep b j fo=>obtain ⟨_,m,_,rfl⟩:=id h;simp [Qa]
 | ptr b off=>obtain ⟨_,m,_,_,rfl⟩:=id h;simp [Qa]
 | mp b=>obtain ⟨_,m,_,rfl⟩:=id h;simp [Qa]
 | dp b off n u k=>obtain ⟨_,m,_,_,rfl⟩:=id h;simp [Qa]
 | hole=>exact h.2
 | rw b i aB t x=>obtain ⟨_,r,_⟩:=id h;rcases r with ⟨_,rfl⟩ | ⟨_,_,rfl⟩<;>simp [Qa]
 | rq b aB t x=>obtain ⟨_,⟨_,_,rfl⟩,_⟩:=id h;simp [Qa]
 | fn f a b=>exact absurd h id
 | agg cs=>exact absurd h id
 | kQ cs=>exact absurd h id
 | undef=>exact absurd h id
theorem ax.plain {N:Nat->Prop} {H:af}:∀ (t:Ty) {x:t.T} {cs:List Value},ax N H t x cs->∀ v∈cs,Qa v v=true
 | .int _,_,_,h=>by unfold ax at h;subst h;simp [Qa]
 | .bool,_,_,h=>by unfold ax at h;subst h;simp [Qa]
 | .str,_,_,h=>by unfold ax at h;subst h;simp [Qa]
 | .sl t,_,_,h=>by
  unfold ax at h
  rcases h with ⟨_,rfl⟩ | ⟨_,_,_,rfl⟩ | ⟨_,_,_,rfl,_⟩<;>simp [Qa]
 | .os t,_,_,h=>by unfold ax at h;obtain ⟨v,rfl,hv⟩:=h;simpa using hv.2
 | .pair a b,_,cs,h=>by
  unfold ax at h
  intro v hv
  rw [<- List.take_append_drop a.size cs] at hv
  rcases List.mem_append.1 hv with hv | hv
  .exact ax.plain a h.1 v hv
  .exact ax.plain b h.2 v hv
theorem cq.plain {s:S}:∀ {cs:List PV} {vs:List Value},cq s cs vs->∀ v∈vs,Qa v v=true
 | [],[],_,v,hv=>by simp at hv
 | p::cs,w::vs,h,v,hv=>by
  rcases Z2 hv with rfl | hv
  .exact h.1.plain
  .exact cq.plain h.2 v hv
 | [],_::_,h,_,_=>by simp [cq,Qw] at h
 | _::_,[],h,_,_=>by simp [cq,Qw] at h
def RL (N:Nat->Prop) (H:af) (t:Ty) (xs:List t.T) (cells:List Value):Prop :=
 cells.length=xs.length*t.size/\∀ i (h:i < xs.length),ax N H t xs[i] (cI cells (i*t.size) t.size)
theorem jT {i n k:Nat} (h:i < n):i*k+k<=n*k:=by
 have:=Zk k (show i+1<=n from h)
 rw [Nat.add_mul,Nat.one_mul] at this;exact this
theorem RL.append {N:Nat->Prop} {H:af} {t:Ty} {xs ys:List t.T} {c d:List Value} (h:RL N H t xs c) (g:RL N H t ys d):RL N H t (xs++ys) (c++d):=by
 refine ⟨by simp [h.1,g.1,Nat.add_mul],fun i hi=>?_⟩
 rcases Nat.lt_or_ge i xs.length with hx | hx
 .have:=h.2 i hx
  have e:cI (c++d) (i*t.size) t.size=cI c (i*t.size) t.size:=by
   have:=jT (k:=t.size) hx
   unfold cI
   rw [List.drop_append_of_le_length (by rw [h.1];omega),List.take_append_of_le_length (by simp [h.1];omega)]
  rw [e,List.getElem_append_left hx];exact this
 .have hy:i - xs.length < ys.length:=by simp at hi;omega
  have:=g.2 (i - xs.length) hy
  have e:cI (c++d) (i*t.size) t.size=cI d ((i - xs.length)*t.size) t.size:=by
   have hle:xs.length*t.size<=i*t.size:=Zk _ hx
   unfold cI
   rw [List.drop_append,List.drop_of_length_le (by rw [h.1];exact hle),h.1,<- Nat.sub_mul]
   simp
  rw [e,List.getElem_append_right hx];exact this
theorem RL.frame {N M:Nat->Prop} {H G:af} {t:Ty} {xs:List t.T} {c:List Value} (r:RL N H t xs c) (h:∀ z,N z->z < H.length->M z/\ah G z=ah H z):RL M G t xs c :=
 ⟨r.1,fun i hi=>ax.frame h t (r.2 i hi)⟩
theorem RL.rep {N:Nat->Prop} {H:af} {t:Ty}:∀ (n:Nat) {x:t.T} {c:List Value},ax N H t x c->RL N H t (List.replicate n x) ((List.replicate n c).flatten)
 | 0,x,c,_=>by simp [RL]
 | n+1,x,c,h=>by
  have h1:RL N H t [x] c:=by
   have hl:=ax.len _ h
   refine ⟨by simp [hl],fun i hi=>?_⟩
   simp at hi;subst hi
   simp only [List.getElem_cons_zero,Nat.zero_mul]
   have:cI c 0 t.size=c:=by unfold cI;rw [List.drop_zero,Zs (by omega)]
   rw [this];exact h
  have:=h1.append (RL.rep n h)
  simpa [List.replicate_succ] using this
theorem RL.set {N:Nat->Prop} {H:af} {t:Ty} {xs:List t.T} {c:List Value} (r:RL N H t xs c) {i:Nat} (hi:i < xs.length) {x:t.T} {d:List Value} (h:ax N H t x d):RL N H t (xs.set i x) (lay c (i*t.size) d):=by
 have hl:=ax.len _ h
 have hm:=jT (k:=t.size) hi
 refine ⟨by rw [Ny _ _ _ (by rw [hl,r.1];omega)];simp [r.1],fun j hj=>?_⟩
 simp at hj
 by_cases e:i=j
 .subst e
  rw [Qo4 _ _ _ _ _ (Zd _) (by omega) (by rw [r.1];omega)]
  simp only [List.getElem_set_self,Nat.sub_self]
  have:lay (cI c (i*t.size) t.size) 0 d=d:=by
   unfold lay;simp only [List.take_zero,List.nil_append,Zo]
   rw [List.drop_of_length_le (by rw [IP _ _ _ (by rw [r.1];omega)];omega)];simp
  rw [this];exact h
 .have hmj:=jT (k:=t.size) hj
  have hd:j*t.size+t.size<=i*t.size\/i*t.size+d.length<=j*t.size:=by
   rcases Nat.lt_or_ge i j with h1 | h1
   .right;rw [hl];exact jT h1
   .left;exact jT (by omega)
  rw [Qkn _ _ _ (by rw [hl,r.1];omega) _ _ hd]
  rw [List.getElem_set_ne e];exact r.2 j hj
theorem RL.om {N:Nat->Prop} {H:af} {t:Ty} {xs:List t.T} {c:List Value} {sh:Nat} (h1:sh+xs.length*t.size<=c.length) (h2:∀ i (h:i < xs.length),ax N H t xs[i] ((c.drop (sh+i*t.size)).take t.size)):RL N H t xs ((c.drop sh).take (xs.length*t.size)):=by
 refine ⟨by simp;omega,fun i hi=>?_⟩
 have:=h2 i hi
 have hm:=jT (k:=t.size) hi
 unfold cI;rw [List.drop_take,List.take_take,Nat.min_eq_left (by omega),List.drop_drop];exact this
theorem RL.plain {N:Nat->Prop} {H:af} {t:Ty} {xs:List t.T} {c:List Value} (r:RL N H t xs c):∀ v∈c,Qa v v=true:=by
 intro v hv
 obtain ⟨i,hi,ei⟩:=List.getElem_of_mem hv
 have eO:=Ty.size_pos t
 have hq:i / t.size < xs.length:=by
  rw [Nat.div_lt_iff_lt_mul eO,<- r.1];exact hi
 refine ax.plain _ (r.2 _ hq) v ?_
 have AY:=Nat.mod_lt i eO
 have Nz:=Nat.div_add_mod i t.size
 refine List.mem_iff_getElem?.2 ⟨i % t.size,?_⟩
 rw [tc,if_pos AY,show i / t.size*t.size+i % t.size=i by rw [Nat.mul_comm];exact Nz,Z6 hi,ei]
theorem Qrd {c d:List Value} {o:Nat} {v:Value} (h:v∈lay c o d):v∈c\/v∈d:=by
 unfold lay at h
 simp only [Zh] at h
 rcases h with (h | h) | h
 .exact .inl (List.mem_of_mem_take h)
 .exact .inr h
 .exact .inl (List.mem_of_mem_drop h)
theorem Qu6 {c d:List Value} {sh p:Nat} (h:sh+p+d.length<=c.length):(lay c (sh+p) d).drop sh=lay (c.drop sh) p d:=by
 apply List.ext_getElem?;intro i
 rw [Zp,rG _ _ _ (by omega),rG _ _ _ (by simp;omega)]
 by_cases c2:i < p
 .rw [if_pos (by omega),if_pos c2,Zp]
 .rw [if_neg (by omega),if_neg c2]
  by_cases c3:i < p+d.length
  .rw [if_pos (by omega),if_pos c3];congr 1;omega
  .rw [if_neg (by omega),if_neg c3,Zp]
theorem Fit.lay {c d:List Value} {sh p n:Nat} (h:Fit sh n c) (hp:sh+p+d.length<=c.length) (hd:∀ v∈d,Qa v v=true):Fit sh n (lay c (sh+p) d):=by
 refine ⟨by rw [Ny _ _ _ (by omega)];exact h.1,fun v hv=>?_⟩
 rw [Qu6 hp] at hv
 rcases Qrd hv with hv | hv
 .exact h.2 v hv
 .exact hd v hv
theorem Fit.sub {c:List Value} {sh n p q:Nat} (h:Fit sh n c) (hq:p+q<=n):Fit (sh+p) q c:=by
 have:=h.1
 refine ⟨by omega,fun v hv=>h.2 v ?_⟩
 rw [<- List.drop_drop] at hv
 exact List.mem_of_mem_drop hv
theorem Qre {c d:List Value} {sh p L:Nat} (h1:sh+L<=c.length) (h2:p+d.length<=L):((lay c (sh+p) d).drop sh).take L=lay ((c.drop sh).take L) p d:=by
 apply List.ext_getElem?;intro i
 have hl:((c.drop sh).take L).length=L:=by simp;omega
 rw [List.getElem?_take,rG _ _ _ (by omega)]
 by_cases c1:i < L
 .rw [if_pos c1,Zp,rG _ _ _ (by omega)]
  by_cases c2:i < p
  .rw [if_pos (by omega),if_pos c2,List.getElem?_take,if_pos c1,Zp]
  .rw [if_neg (by omega),if_neg c2]
   by_cases c3:i < p+d.length
   .rw [if_pos (by omega),if_pos c3];congr 1;omega
   .rw [if_neg (by omega),if_neg c3,List.getElem?_take,if_pos c1,Zp]
 .rw [if_neg c1,if_neg (by omega),if_neg (by omega),List.getElem?_take,if_neg c1]
theorem Qu7 {D d:List Value} {p fo z:Nat} (h1:p+z<=D.length) (h2:fo+d.length<=z):lay D (p+fo) d=lay D p (lay (cI D p z) fo d):=by
 have hs:(cI D p z).length=z:=IP _ _ _ h1
 have hl:(lay (cI D p z) fo d).length=z:=by rw [Ny _ _ _ (by omega)];exact hs
 apply List.ext_getElem?;intro i
 rw [rG _ _ _ (by omega),rG _ _ _ (by omega),hl]
 by_cases c1:i < p
 .rw [if_pos (by omega),if_pos c1]
 .rw [if_neg c1]
  by_cases c2:i < p+z
  .rw [if_pos c2,rG _ _ _ (by omega)]
   by_cases c3:i - p < fo
   .rw [if_pos (by omega),if_pos c3,tc,if_pos (by omega)];congr 1;omega
   .rw [if_neg (by omega),if_neg c3]
    by_cases c4:i - p < fo+d.length
    .rw [if_pos (by omega),if_pos c4];congr 1;omega
    .rw [if_neg (by omega),if_neg c4,tc,if_pos (by omega)];congr 1;omega
  .rw [if_neg (by omega),if_neg (by omega),if_neg c2]
theorem RL.sub {N:Nat->Prop} {H:af} {t:Ty} {xs:List t.T} {c:List Value} {sh off n:Nat} (h1:sh+xs.length*t.size<=c.length) (h2:∀ i (h:i < xs.length),ax N H t xs[i] ((c.drop (sh+i*t.size)).take t.size)) (h:off+n<=xs.length):RL N H t ((xs.drop off).take n) ((c.drop (sh+off*t.size)).take (n*t.size)):=by
 have hm:(off+n)*t.size<=xs.length*t.size:=Zk _ h
 rw [Nat.add_mul] at hm
 have hn:((xs.drop off).take n).length=n:=by simp;omega
 refine ⟨by rw [hn];simp;omega,fun i hi=>?_⟩
 rw [hn] at hi
 have:=h2 (off+i) (by omega)
 have oh:=jT (k:=t.size) hi
 rw [List.getElem_take,List.getElem_drop]
 unfold cI;rw [List.drop_take,List.take_take,Nat.min_eq_left (by omega),List.drop_drop]
 rw [Nat.add_mul] at this
 rw [show sh+off*t.size+i*t.size=sh+(off*t.size+i*t.size) by omega];exact this
theorem RL.drop {N:Nat->Prop} {H:af} {t:Ty} {xs:List t.T} {c:List Value} (r:RL N H t xs c) (k:Nat) (hk:k<=xs.length):RL N H t (xs.drop k) (c.drop (k*t.size)):=by
 refine ⟨by simp [r.1,Nat.sub_mul],fun i hi=>?_⟩
 simp at hi
 have:=r.2 (k+i) (by omega)
 rw [List.getElem_drop]
 have e:cI (c.drop (k*t.size)) (i*t.size) t.size=cI c ((k+i)*t.size) t.size:=by
  unfold cI;rw [List.drop_drop,Nat.add_mul]
 rw [e];exact this
theorem RL.take {N:Nat->Prop} {H:af} {t:Ty} {xs:List t.T} {c:List Value} (r:RL N H t xs c) (k:Nat) (hk:k<=xs.length):RL N H t (xs.take k) (c.take (k*t.size)):=by
 have hm:k*t.size<=xs.length*t.size:=Zk _ hk
 refine ⟨by simp [r.1,Nat.min_eq_left hk],fun i hi=>?_⟩
 simp at hi
 have:=r.2 i (by omega)
 rw [List.getElem_take]
 have vO:=jT (k:=t.size) (show i < k by omega)
 have e:cI (c.take (k*t.size)) (i*t.size) t.size=cI c (i*t.size) t.size:=by
  unfold cI;rw [List.drop_take,List.take_take,Nat.min_eq_left (by omega)]
 rw [e];exact this
theorem Yz {N:Nat->Prop} {H:af} {s:S}:∀ (t:Ty) {l:List PV} {vs:List Value},BU t l=true->cq s l vs->ax N H t (s_ t) vs
 | .int k,l,vs,h,hr=>by
  unfold BU at h
  split at h
  .simp only [Z8,Zj,beq_iff_eq] at h
   obtain ⟨rfl,rfl⟩:=h
   obtain ⟨v,rfl,hv⟩:=hr.one
   obtain rfl:=hv
   unfold ax s_;rfl
  .simp at h
 | .bool,l,vs,h,hr=>by
  unfold BU at h
  split at h
  .simp at h;subst h
   obtain ⟨v,rfl,hv⟩:=hr.one
   obtain rfl:=hv
   unfold ax s_;rfl
  .simp at h
 | .str,l,vs,h,hr=>by
  unfold BU at h
  split at h
  .rename_i b
   obtain ⟨v,rfl,hv⟩:=hr.one
   obtain rfl:=hv
   unfold ax s_
   have:b=⟨#[]⟩:=by
    obtain ⟨⟨d⟩⟩:=b
    simp [List.isEmpty_iff] at h;subst h;rfl
   rw [this]
  .simp at h
 | .sl t,l,vs,h,hr=>by
  unfold BU at h
  split at h
  .obtain ⟨v,rfl,hv⟩:=hr.one
   obtain rfl:=hv
   unfold ax s_;exact .inl ⟨rfl,rfl⟩
  .simp at h
 | .pair a b,l,vs,h,hr=>by
  unfold BU at h
  simp only [Z8] at h
  unfold s_
  exact ax.ij (Yz a h.1 (Qw.take _ hr)) (Yz b h.2 (Qw.drop _ hr))
theorem Xx {N:Nat->Prop} {H:af} (s:S) {z:Value} {t:Ty} (h:IQ z t=true):ax N H t (s_ t) z.cells.toList:=by
 unfold IQ at h
 split at h
 .rename_i l hl
  exact Yz t h (Kq (s:=s) hl).1
 .simp at h
section
variable {A:cL} {β γ:Type} {s:S} {env:bA} {e:Env} {X:nj A β} {XE:Cx} {o:Oper} {KV:PV->LS->Option β} {KE:Value->af->Option γ} {r:β} {Q:γ->Prop}
theorem Rs {t:TypeId} {i:TypeInfo} {z:Value} {w:Ty} {st zz oo:Nat} {k:bx} {y:w.T} (hi:XE.P.info? t=some i) (hz:i.zero=some z) (hw:jG XE.P 8 t=some w) (bf:w.size=i.size)
  (hk:ah s.H zz=some k) (hle:oo+w.size<=k.cells.length) (hr:ax (s.NN st) s.H w y ((k.cells.drop oo).take w.size)) (hf:ny z (kT w (gk st w y))=true) (hs:aD s) (hK:eE s r KV KE Q) (h:KV (kT w (gk st w y)) s.L=some r) :
  ∃ q,(Q1 (XE.P.info? t) fun i=>match XE.P.underlying t with
   | some (.struct _) | some (.array _ _)=>Q1 (Qx s.H ⟨zz,oo,none⟩ i.size) fun l=>match i.zero with
    | some z=>wH z (.agg l.toArray) fun u=>KE u s.H
    | none=>none
   | some _=>Q1 (gL s.H ⟨zz,oo,none⟩) fun u=>match i.zero with
    | some z=>wG z u fun u=>KE u s.H
    | none=>none
   | none=>none)=some q/\Q q:=by
 have hlen:=ax.len _ hr
 rw [hi];simp only [Q1]
 rcases Rm hw with ⟨d,a,b,hu,hd,rfl⟩ | ⟨d,hu,vD,oe,Kp⟩
 .have gO:Qx s.H ⟨zz,oo,none⟩ i.size=some ((k.cells.drop oo).take i.size):=by
   unfold Qx;simp only [hk,Q1]
   have:Nat.ble (oo+i.size) k.cells.length=true:=Nat.ble_eq_true_of_le (by omega)
   rw [this]
  rw [bf] at hr
  have ha:AR s (kT (.pair a b) (gk st (.pair a b) y)) (.agg ((k.cells.drop oo).take i.size).toArray):=MW (t:=.pair a b) rfl hr
  rcases hd with ⟨fs,rfl⟩ | ⟨n,e,rfl⟩
  .rw [hu]
   simp only [gO,hz]
   rw [ES ha hf]
   exact hK.here hs (ER.of ha) h
  .rw [hu]
   simp only [gO,hz]
   rw [ES ha hf]
   exact hK.here hs (ER.of ha) h
 .have Fu:w.size=1:=by cases w<;>first | rfl | exact absurd rfl (Kp _ _)
  obtain ⟨u,BV⟩:∃ u,(k.cells.drop oo).take w.size=[u]:=by
   match hc:(k.cells.drop oo).take w.size with
   | [u]=>exact ⟨u,rfl⟩
   | []=>rw [hc] at hlen;simp at hlen;omega
   | _::_::_=>rw [hc] at hlen;simp at hlen;omega
  have gO:gL s.H ⟨zz,oo,none⟩=some u:=by
   unfold gL;simp only [hk,Q1]
   have:((k.cells.drop oo).take w.size)[0]? = some u:=by rw [BV];rfl
   rw [List.getElem?_take_of_lt (by omega),Zp] at this;simpa using this
  have ha:AR s (kT w (gk st w y)) u:=by
   refine MW (cs:=[u]) ?_ (by rw [<- BV];exact hr)
   cases w<;>first | rfl | exact absurd rfl (Kp _ _)
  have hv:wG z u (fun u=>KE u s.H)=KE u s.H:=by
   refine N8 ha ?_ _
   have Jv:∀ cs,kT w (gk st w y)≠.agg cs:=by
    intro cs;cases w<;>first | exact absurd rfl (Kp _ _) | (simp [kT,gk])
   unfold ny at hf;split at hf
   .rename_i e1;exact absurd e1 (Jv _)
   .simp at hf
   .exact hf
  rw [hu]
  cases d<;>first | exact absurd rfl (vD _) | exact absurd rfl (oe _ _) | (simp only [gO,hz];rw [hv];exact hK.here hs (ER.of ha) h)
theorem Qxi {z:Nat} (h:s.N z):s.NN s.L.cu z:=S.gm h
theorem Qrf {δ:Type} {b aB:Nat} {u:Ty} {xs:List (List u.T)}:∀ (n i:Nat) (K:List PV->Option δ),Dw b aB u xs i n K=Q1 (IS b aB u xs i n) K
 | 0,i,K=>rfl
 | n+1,i,K=>by
  simp only [Dw,IS]
  cases xs[i]? with
  | none=>rfl
  | some x =>
   simp only [Q1]
   rw [Qrf n (i+1)]
   cases IS b aB u xs (i+1) n<;>rfl
theorem Qmj {b aB:Nat} {Fj:Bool} {u:Ty} {xs:List (List u.T)} {ho:Option Nat} {m:MB} {k:bx} (bE:b < s.L.bl.length) (hb:Qi s.L b=some ⟨aB,Fj,.rows u xs ho⟩) (cH:u.flat=true) (hm:s.μ b=some m) (hk:ah s.H m.z=some k) (dW:m.sh=0)
  (hr:∀ i (hi:i < xs.length),∃ v,k.cells[i]? = some v/\iF (fun z=>s.br z=some (b,i)) s.H s.ai u xs[i] v):∀ {n i:Nat} {l:List PV},IS b aB u xs i n=some l->(n=0\/i+n<=xs.length)/\cq s l ((k.cells.drop i).take n)
 | 0,i,l,h=>by
  simp [IS] at h;subst h
  exact ⟨.inl rfl,by simp [cq,Qw]⟩
 | n+1,i,l,h=>by
  simp only [IS] at h
  replace h:=ob h;obtain ⟨x,h1,h⟩:=h
  replace h:=ob h;obtain ⟨l',h2,h⟩:=h
  simp at h;subst h
  obtain ⟨hi,ei⟩:=Z0 h1
  obtain ⟨g1,g2⟩:=Qmj bE hb cH hm hk dW hr h2
  obtain ⟨v,q1,q2⟩:=hr i hi
  rw [ei] at q2
  obtain ⟨hci,eci⟩:=Z0 q1
  refine ⟨.inr (by omega),?_⟩
  rw [List.drop_eq_getElem_cons hci,eci,List.take_succ_cons]
  refine ⟨⟨bE,q2.sl,fun B hB=>?_⟩,g2⟩
  rw [hb] at hB;injection hB with hB;subst hB
  refine ⟨Zd _,fun _=>⟨cH,q2,?_⟩⟩
  intro B2 e2 Xp vF m2 k2 f1 f2 f3 f4 y gy
  rw [hb] at f1;injection f1 with f1;subst f1
  injection f2 with f21 f22 f23
  subst f21
  replace f22:=eq_of_heq f22;subst f22
  rw [hm] at f3;injection f3 with f3;subst f3
  rw [hk] at f4;injection f4 with f4;subst f4
  rw [h1] at gy;injection gy with gy;subst gy
  refine ⟨Zd _,fun _=>?_⟩
  rw [dW,Zo];exact q1
theorem Qu8 {t:TypeId} {a:Operand} (hP:X.P=XE.P) (ho:o.op=.load t a) (hs:aD s) (he:cG s env e) (hK:eE s r KV KE Q) (h:dn X o env s.L KV=some r):∃ y,dx XE o e s.H KE=some y/\Q y:=by
 simp only [dn,ho] at h;simp only [dx,ho]
 split at h
 .rename_i v hg
  unfold Qvv at hg
  split at hg
  .rename_i w hw
   rw [<- hP,hw]
   exact hK v w s (aj.refl s) hs (Qrx hg).1 h
  .simp at hg
 replace h:=ob h;obtain ⟨p,h1,h⟩:=h
 replace h:=ob h;obtain ⟨i,h2,h⟩:=h
 replace h:=ob h;obtain ⟨z,h3,h⟩:=h
 obtain ⟨v,e1,r1⟩:=fK he h1
 rw [KC e1]
 rw [e1];simp only [Q1]
 rw [hP] at h2
 split at h
 .simp at h
 .rename_i d hu
  split at h
  .rename_i st u x
   replace h:=ob h;obtain ⟨w,h4,h⟩:=h
   replace h:=ob h;obtain ⟨y,h5,h⟩:=h
   split at h
   .rename_i hf bf
    have e5:=Qq h5;subst e5
    have:=Qg h5;subst this
    obtain ⟨zz,oo,k,rfl,hn,hk,hl,hr⟩:=r1
    simp only [e_]
    rw [hP] at h4
    exact Rs h2 h3 h4 (Z7 bf) hk hl hr hf hs hK h
   .simp at h
  .rename_i b j fo
   split at h
   .rename_i aB rw u xs hb
    replace h:=ob h;obtain ⟨w,h4,h⟩:=h
    replace h:=ob h;obtain ⟨x,h5,h⟩:=h
    replace h:=ob h;obtain ⟨y,h6,h⟩:=h
    split at h
    .rename_i hf bf
     obtain ⟨bE,m,hm,rfl⟩:=r1
     simp only [e_]
     rw [hP] at h4
     obtain ⟨a1,a2,k,a3,a4,a5,a6,a7⟩:=mO hs hb hm
     obtain ⟨hj,ej⟩:=Z0 h5
     have cZ:=a5 j hj
     rw [ej] at cZ
     obtain ⟨g1,g2⟩:=Yx _ _ h6 cZ
     have vO:=jT (k:=u.size) hj
     refine Rs (st:=s.L.cu) (zz:=m.z) (oo:=m.sh+j*m.es+fo) h2 h3 h4 (Z7 bf) a3 (by rw [a1];omega) ?_ hf hs hK h
     have:(((k.cells.drop (m.sh+j*u.size)).take u.size).drop fo).take w.size=(k.cells.drop (m.sh+j*m.es+fo)).take w.size:=by
      rw [List.drop_take,List.take_take,Nat.min_eq_left (by omega),List.drop_drop,a1]
     rw [this] at g1
     exact ax.mono (fun z hz=>Qxi hz) w g1
    .simp at h
   .rename_i aB u xs hb
    replace h:=ob h;obtain ⟨w,h4,h⟩:=h
    replace h:=ob h;obtain ⟨x,h5,h⟩:=h
    split at h
    .rename_i hf bf
     simp only [Z8] at bf
     have YA:=Z7 bf.1
     subst YA
     have hw:=Ty.beq_eq bf.2
     subst hw
     obtain ⟨bE,m,hm,rfl⟩:=r1
     simp only [e_]
     rw [hP] at h4 hu
     obtain ⟨hj,ej⟩:=Z0 h5
     obtain ⟨_,cH,⟨fS,rfl⟩ | ⟨m',k,aE,a1,a2,a3,a4,a5,a6,a7⟩⟩:=mS hs hb
     .simp at hj
     rw [hm] at aE;injection aE with aE;subst aE
     obtain ⟨v,q1,q2⟩:=a7 j hj (by simp)
     rw [ej] at q2
     have gO:gL s.H ⟨m.z,m.sh+j*m.es+0,none⟩=some v:=by
      unfold gL;simp only [a3,Q1,a1,Nat.mul_one,Nat.add_zero];exact q1
     have whole:Qvx s b j x.length v:=by
      intro B2 e2 Xp vF m2 k2 g1 g2 g3 g4 y gy
      rw [hb] at g1;injection g1 with g1;subst g1
      injection g2 with g21 g22 g23
      subst g21
      replace g22:=eq_of_heq g22;subst g22
      rw [hm] at g3;injection g3 with g3;subst g3
      rw [a3] at g4;injection g4 with g4;subst g4
      rw [h5] at gy;injection gy with gy;subst gy
      refine ⟨Zd _,fun _=>?_⟩
      exact q1
     have XJ:cm s (.rw b j aB u x) v:=⟨bE,q2.sl,fun B hB=>by rw [hb] at hB;injection hB with hB;subst hB;exact ⟨Zd _,fun _=>⟨cH,q2,whole⟩⟩⟩
     have hv:wG z v (fun u=>KE u s.H)=KE v s.H:=by
      refine N8 (AR.of XJ) ?_ _
      unfold ny at hf;split at hf
      .rename_i e1;simp at e1
      .simp at hf
      .exact hf
     rcases Rm h4 with ⟨d',a,b',dB,hd,e⟩ | ⟨d',dB,vD,oe,_⟩
     .simp at e
     .rw [h2,dB];simp only [Q1]
      cases d'<;>first | exact absurd rfl (vD _) | exact absurd rfl (oe _ _) | (simp only [gO,h3];rw [hv];exact hK.here hs (ER.fh XJ) h)
    .simp at h
   .simp at h
  .rename_i b aB u x
   split at h
   .rename_i v' t' xs' h' hb
    split at h
    .rename_i hv
     have hv:=Z7 hv
     replace h:=ob h;obtain ⟨w,h4,h⟩:=h
     replace h:=ob h;obtain ⟨y,h7,h⟩:=h
     split at h
     .rename_i hf bf
      simp only [Z8] at bf
      have e7:=Qq h7;subst e7
      have:=Qg h7;subst this
      obtain ⟨bE,⟨z0,o0,rfl⟩,hval⟩:=r1
      obtain ⟨z',o',k,j,e1,g1,g2,g3,g4⟩:=(hval _ hb).2 hv
      injection e1 with e1;injection e1 with e1;injection e1 with e1 e2 _;subst e1 e2
      simp only [e_]
      rw [hP] at h4
      exact Rs (st:=s.L.cu) h2 h3 h4 (Z7 bf.1) g2 (by omega) (ax.flat u bf.2 g4) hf hs hK h
     .simp at h
    .simp at h
   .simp at h
  .rename_i b off
   split at h
   .rename_i aB rw cs hb
    obtain ⟨bE,m,hm,dW,rfl⟩:=r1
    have hB:=hs.aJ b _ hb
    unfold BR at hB;simp only at hB
    obtain ⟨_,m',k,aE,_,hk,cD,bn,aI⟩:=hB
    rw [hm] at aE;injection aE with aE;subst aE
    have hl:=Qw.length cD
    simp only [e_,h2,Q1]
    rw [hP] at hu
    split at h
    .rename_i fs
     split at h
     .rename_i hle hf
      have hle:=Zi hle
      rw [hu]
      have gO:Qx s.H ⟨m.z,off,none⟩ i.size=some ((k.cells.drop off).take i.size):=by
       unfold Qx;simp only [hk,Q1]
       have:Nat.ble (off+i.size) k.cells.length=true:=Nat.ble_eq_true_of_le (by omega)
       rw [this]
      simp only [gO,h3]
      have ha:AR s (.agg ((cs.drop off).take i.size)) (.agg ((k.cells.drop off).take i.size).toArray):=⟨_,rfl,Qw.take _ (Qw.drop _ cD)⟩
      rw [ES ha hf]
      exact hK.here hs (ER.of ha) h
     .simp at h
    .rename_i nn ee
     split at h
     .rename_i hle hf
      have hle:=Zi hle
      rw [hu]
      have gO:Qx s.H ⟨m.z,off,none⟩ i.size=some ((k.cells.drop off).take i.size):=by
       unfold Qx;simp only [hk,Q1]
       have:Nat.ble (off+i.size) k.cells.length=true:=Nat.ble_eq_true_of_le (by omega)
       rw [this]
      simp only [gO,h3]
      have ha:AR s (.agg ((cs.drop off).take i.size)) (.agg ((k.cells.drop off).take i.size).toArray):=⟨_,rfl,Qw.take _ (Qw.drop _ cD)⟩
      rw [ES ha hf]
      exact hK.here hs (ER.of ha) h
     .simp at h
    .rename_i oe hd
     replace h:=ob h;obtain ⟨u,h5,h⟩:=h
     split at h
     .rename_i hf
      obtain ⟨w,g1,g2⟩:=Qw.get _ cD h5
      have gO:gL s.H ⟨m.z,off,none⟩=some w:=by
       unfold gL;simp only [hk,Q1];exact g1
      have hv:wG z w (fun u=>KE u s.H)=KE w s.H:=N8 (AR.of g2) hf _
      rw [hu]
      cases d<;>first | exact absurd rfl (oe _) | exact absurd rfl (hd _ _) | (simp only [gO,h3];rw [hv];exact hK.here hs (ER.fh g2) h)
     .simp at h
   .rename_i aB u xs hb
    split at h
    .rename_i n ee
     rw [Qrf] at h
     replace h:=ob h;obtain ⟨l,h4,h⟩:=h
     split at h
     .rename_i hf hc
      simp only [Z8] at hc
      have ho:=Z7 hc.1
      have bf:=Z7 hc.2
      subst ho
      obtain ⟨bE,m,hm,dW,rfl⟩:=r1
      obtain ⟨_,cH,cx⟩:=mS hs hb
      simp only [e_,h2,Q1]
      rw [hP] at hu
      rw [hu]
      rcases cx with ⟨fS,_⟩ | ⟨m',k,aE,a1,a2,a3,a4,a5,a6,a7⟩
      .rw [hm] at fS;simp at fS
      rw [hm] at aE;injection aE with aE;subst aE
      rw [dW] at a4 a7
      obtain ⟨hn,iw⟩:=Qmj bE hb cH hm a3 dW (fun i hi=>by have:=a7 i hi (by simp);rw [Zo] at this;exact this) h4
      have hle:n<=k.cells.length:=by
       have:=a4.1;omega
      have gO:Qx s.H ⟨m.z,0,none⟩ i.size=some (k.cells.take i.size):=by
       unfold Qx;simp only [a3,Q1]
       have:Nat.ble (0+i.size) k.cells.length=true:=Nat.ble_eq_true_of_le (by omega)
       rw [this];simp
      simp only [gO,h3]
      have ha:AR s (.agg l) (.agg (k.cells.take i.size).toArray):=⟨_,rfl,by rw [bf];simpa using iw⟩
      rw [ES ha hf]
      exact hK.here hs (ER.of ha) h
     .simp at h
    .simp at h
   .simp at h
  .rename_i b off n u k0
   split at h
   .rename_i aB Fj cs hb
    replace h:=ob h;obtain ⟨w,h4,h⟩:=h
    replace h:=ob h;obtain ⟨xs,h5,h⟩:=h
    replace h:=ob h;obtain ⟨x,h6,h⟩:=h
    replace h:=ob h;obtain ⟨y,h7,h⟩:=h
    split at h
    .rename_i hf bf
     simp only [Z8] at bf
     have e7:=Qq h7;subst e7
     have:=Qg h7;subst this
     obtain ⟨bE,m,hm,dW,rfl⟩:=r1
     simp only [e_]
     rw [hP] at h4
     have hB:=hs.aJ b _ hb
     unfold BR at hB;simp only at hB
     obtain ⟨_,m',k,aE,_,hk,cD,bn,aI⟩:=hB
     rw [hm] at aE;injection aE with aE;subst aE
     obtain ⟨g1,g2,g3⟩:=Rn hs u (Qw.drop off cD) h5
     obtain ⟨Jw,ek⟩:=Z0 h6
     have cZ:=g3 k0 Jw
     rw [ek,List.drop_drop] at cZ
     have vO:=jT (k:=u.size) Jw
     rw [g1] at vO
     simp only [List.length_drop] at g2
     have eO:=Ty.size_pos u
     exact Rs (st:=s.L.cu) h2 h3 h4 (Z7 bf.1) hk (by omega) (ax.flat u bf.2 cZ) hf hs hK h
    .simp at h
   .simp at h
  .simp at h
end
section
variable {A:cL} {β γ:Type} {s:S} {env:bA} {e:Env} {X:nj A β} {XE:Cx} {o:Oper} {KV:PV->LS->Option β} {KE:Value->af->Option γ} {r:β} {Q:γ->Prop}
theorem eE.keep {s':S} (hk:aj s s') (hK:eE s r KV KE Q):eE s' r KV KE Q:=fun pv v t de=>hK pv v t (hk.trans de)
theorem Qe3 (hs:aD s) {cs:List PV} {vs:List Value} (hr:cq s cs vs):∃ s',s'.L=Qv s.L (.cells cs)/\s'.H=dr s.H vs/\aj s s'/\aD s'/\cm s' (.ptr s.L.bl.length 0) (.pointer (some ⟨s.H.length,0,none⟩)):=by
 obtain ⟨s',e1,e2,e3,hk,bZ⟩:=hs.push (.cells cs) vs ⟨s.H.length,0,0,0⟩ rfl (fun s' hk hm hg hN=>by
  unfold BR;simp only
  exact ⟨trivial,_,_,hm,rfl,hg,hk.cq hr,rfl,by rw [hk.ai];exact hs.dV⟩)
 exact ⟨s',e1,e2,hk,bZ,by rw [e1,Ql];omega,_,e3,rfl,rfl⟩
theorem E5 (hs:aD s) {t:Ty} {xs:List t.T} {cells:List Value} (hr:RL s.N s.H t xs cells):∃ s',s'.L=Qv s.L (.arr t xs)/\s'.H=dr s.H cells/\aj s s'/\aD s'/\cm s' (.a_ s.L.bl.length 0 none) (.slice (some ⟨s.H.length,0,none⟩) xs.length t.size):=by
 obtain ⟨s',e1,e2,e3,hk,bZ⟩:=hs.push (.arr t xs) cells ⟨s.H.length,0,t.size,xs.length⟩ rfl (fun s' hk hm hg hN=>by
  unfold BR;simp only [hm]
  refine ⟨trivial,trivial,_,hg,⟨by simp [hr.1],fun v hv=>hr.plain v (by simpa using hv)⟩,fun i hi=>?_,fun _=>⟨rfl,by rw [hk.ai];exact hs.dV⟩,fun e=>absurd e (by decide)⟩
  have:=hk.vN (hr.2 i hi)
  unfold cI at this;rw [Zo];exact this)
 refine ⟨s',e1,e2,hk,bZ,by rw [e1,Ql];omega,?_⟩
 rw [e3];simp
theorem Qo5 (hs:aD s) {t:Ty} (hf:t.flat=true) (n:Nat):∃ s',s'.L=Qv s.L (.rows t (List.replicate n []) none)/\s'.H=dr s.H (List.replicate n (.slice none 0 0))/\aj s s'/\aD s'/\cm s' (.a_ s.L.bl.length 0 none) (.slice (some ⟨s.H.length,0,none⟩) n 1):=by
 obtain ⟨s',e1,e2,e3,hk,bZ⟩:=hs.push (.rows t (List.replicate n []) none) (List.replicate n (.slice none 0 0)) ⟨s.H.length,0,1,n⟩ rfl (fun s' hk hm hg hN=>by
  unfold BR;simp only [hm]
  refine ⟨trivial,hf,trivial,by simp,_,hg,⟨by simp,fun v hv=>?_⟩,rfl,by rw [hk.ai];exact hs.dV,fun i hi _=>?_⟩
  .have:=List.mem_of_mem_drop hv
   rw [List.mem_replicate] at this;rw [this.2];simp [Qa]
  .simp at hi
   exact ⟨.slice none 0 0,by simp [hi],.inl ⟨by simp,rfl⟩⟩)
 refine ⟨s',e1,e2,hk,bZ,by rw [e1,Ql];omega,?_⟩
 rw [e3];simp
theorem Qo6 (hs:aD s) {t:Ty} (hf:t.flat=true) (n:Nat):∃ s',s'.L=Qv s.L (.rows t (List.replicate n []) none)/\s'.H=dr s.H (List.replicate n (.slice none 0 0))/\aj s s'/\aD s'/\cm s' (.ptr s.L.bl.length 0) (.pointer (some ⟨s.H.length,0,none⟩)):=by
 obtain ⟨s',e1,e2,e3,hk,bZ⟩:=hs.push (.rows t (List.replicate n []) none) (List.replicate n (.slice none 0 0)) ⟨s.H.length,0,1,n⟩ rfl (fun s' hk hm hg hN=>by
  unfold BR;simp only [hm]
  refine ⟨trivial,hf,trivial,by simp,_,hg,⟨by simp,fun v hv=>?_⟩,rfl,by rw [hk.ai];exact hs.dV,fun i hi _=>?_⟩
  .have:=List.mem_of_mem_drop hv
   rw [List.mem_replicate] at this;rw [this.2];simp [Qa]
  .simp at hi
   exact ⟨.slice none 0 0,by simp [hi],.inl ⟨by simp,rfl⟩⟩)
 exact ⟨s',e1,e2,hk,bZ,by rw [e1,Ql];omega,_,e3,rfl,rfl⟩
theorem Qmk:∀ {n:Nat} {l:List Value},Ks n l=true->l=List.replicate n (.slice none 0 0)
 | 0,[],_=>rfl
 | 0,_::_,h=>by simp [Ks] at h
 | n+1,[],h=>by simp [Ks] at h
 | n+1,v::r,h=>by
  unfold Ks at h
  split at h
  .simp_all
  .rename_i rH IT
   injection rH with rH
   injection IT with e1 e2
   subst e1 e2 rH
   rw [List.replicate_succ,Qmk h]
  .simp at h
theorem Qkp {P:Program} {t:TypeId} {n:Nat} {u:Ty} (h:YB P t=some (n,u)):u.flat=true:=by
 unfold YB at h
 split at h
 .split at h
  .split at h
   .rename_i hf
    simp only [Option.some.injEq,Prod.mk.injEq] at h
    obtain ⟨_,rfl⟩:=h;exact hf
   .simp at h
  .simp at h
 .simp at h
theorem Qiw {z:Value} {t:Ty} (h:IQ z (.sl t)=true):z.cells.toList=[.slice none 0 0]:=by
 unfold IQ at h
 split at h
 .rename_i l hl
  unfold BU at h
  split at h
  .match hc:z.cells.toList,hl with
   | [],hl=>simp [wN] at hl
   | [v],hl =>
    simp only [wN] at hl
    obtain ⟨x,h1,h2⟩:=ob hl
    simp only [Q1] at h2
    simp at h2;subst h2
    unfold A_ at h1
    split at h1<;>simp_all
   | v::w::r,hl =>
    simp only [wN] at hl
    obtain ⟨x,h1,h2⟩:=ob hl
    obtain ⟨y,h3,h4⟩:=ob h2
    obtain ⟨x',h5,h6⟩:=ob h3
    obtain ⟨y',h7,h8⟩:=ob h6
    simp at h4 h8;subst h8;simp at h4
  .simp at h
 .simp at h
theorem Xu {s:S} (hs:aD s) {t:Ty} (hf:t.flat=true) {p:PV} {v:Value} (hr:cm s p v) {x:List t.T} {L':LS} (h:rA t p s.L=some (x,L')) :
  ∃ s',s'.L=L'/\s'.H=s.H/\s'.μ=s.μ/\aj s s'/\aD s'/\iF (fun z=>s'.aF z/\¬ s.aF z) s.H s.ai t x v/\(∀ z,s.aF z->s'.aF z)/\(∀ z,bI s' z↔bI s z)/\(∀ z,s'.aF z->¬ s.aF z->∃ k,ah s.H z=some k):=by
 unfold rA at h
 split at h
 .simp at h;obtain ⟨rfl,rfl⟩:=h
  obtain rfl:v=_:=hr
  exact ⟨s,rfl,rfl,rfl,aj.refl s,hs,.inl ⟨rfl,rfl⟩,fun _ h=>h,fun _=>Iff.rfl,fun z h1 h2=>absurd h1 h2⟩
 .rename_i b off no
  split at h
  .rename_i aB w xs hb
   split at h
   .simp at h
   obtain ⟨y,h1,h⟩:=ob h
   simp at h;obtain ⟨rfl,rfl⟩:=h
   obtain ⟨e,hx⟩:=Ba h1
   injection e with e;subst e
   simp at hx;subst hx
   obtain ⟨s',e1,e2,e3,hk,bZ,hl,ho⟩:=hs.kill hb rfl false
   refine ⟨s',e1,e2,e3,hk,bZ,?_,fun z hz=>(hl z).2 (.inl hz),ho,fun z h1 h2=>(by
    rcases (hl z).1 h1 with h3 | ⟨m,hm,rfl⟩
    .exact absurd h3 h2
    .obtain ⟨_,_,k,g3,_⟩:=mO hs hb hm
     exact ⟨k,g3⟩)⟩
   have dI:cm s (.a_ b off no) v:=hr
   obtain ⟨bE,dI⟩:=dI
   cases hm:s.μ b with
   | none =>
    rw [hm] at dI;obtain ⟨rfl,h5,rfl⟩:=dI
    have hx:=EX hs hb hm
    subst hx
    exact .inl ⟨by cases no<;>simp [cut],rfl⟩
   | some m =>
    rw [hm] at dI
    obtain ⟨g1,g2,k,g3,g4,g5,g6,g7⟩:=mO hs hb hm
    have ct:=AI hs hb hm g3
    obtain ⟨a1,rfl⟩:=dI
    have hlen:(cut xs off no).length=no.getD (m.n - off):=by
     cases no with
     | none=>simp [cut,g2]
     | some l=>simp [cut] at a1 ⊢;omega
    have hle:off+(cut xs off no).length<=xs.length:=by rw [hlen];omega
    have ah:∀ i (hi:i < (cut xs off no).length),(cut xs off no)[i]=xs[off+i]'(by omega):=by
     intro i hi
     cases no with
     | none=>simp [cut]
     | some l=>simp [cut]
    have hmul:(off+(cut xs off no).length)*w.size<=xs.length*w.size:=Zk _ hle
    rw [Nat.add_mul] at hmul
    refine .inr ⟨m.z,m.sh+off*w.size,k,by rw [hlen,g1],⟨(hl _).2 (.inr ⟨m,hm,rfl⟩),hs.lm b _ m hb hm⟩,g3,(g6 rfl).1,(g6 rfl).2,ct.sub (by omega),fun i hi=>?_⟩
    rw [ah i hi]
    have:=g5 (off+i) (by omega)
    rw [Nat.add_mul,<- Nat.add_assoc] at this
    exact ax.flat w hf this
  .rename_i aB w xs hb
   split at h
   .obtain ⟨y,h1,h⟩:=ob h
    have e:=Qq h1
    injection e with e;subst e
    simp [Ty.flat] at hf
   .simp at h
  .simp at h
 .rename_i b i aB w x'
  split at h
  .rename_i v' t' xs hb
   split at h
   .rename_i hv
    have hv:=Z7 hv
    obtain ⟨y,h1,h⟩:=ob h
    simp at h;obtain ⟨rfl,rfl⟩:=h
    obtain ⟨e,hx⟩:=Ba h1
    injection e with e;subst e
    simp at hx;subst hx
    obtain ⟨_,_,hval⟩:cm s (.rw b i aB w x') v:=hr
    obtain ⟨r1,r2,_⟩:=(hval _ hb).2 hv
    rcases r2 with ⟨rfl,rfl⟩ | ⟨z,o,k,rfl,q1,q2,q3⟩
    .obtain ⟨s',e1,e2,e3,hk,bZ,hl,ho⟩:=hs.ig (i:=i) hb none (fun z h=>by simp at h)
     exact ⟨s',e1,e2,e3,hk,bZ,.inl ⟨rfl,rfl⟩,fun z hz=>(hl z).2 (.inl hz),ho,fun z h1 h2=>(by
      rcases (hl z).1 h1 with h3 | h3
      .exact absurd h3 h2
      .simp at h3)⟩
    .obtain ⟨s',e1,e2,e3,hk,bZ,hl,ho⟩:=hs.ig (i:=i) hb (some z) (fun y h=>by injection h with h;subst h;exact q1)
     exact ⟨s',e1,e2,e3,hk,bZ,.inr ⟨z,o,k,rfl,⟨(hl z).2 (.inr rfl),(hs.kl z _ q1).2.2.1⟩,q2,q3⟩,fun z hz=>(hl z).2 (.inl hz),ho,fun y h1 h2=>(by
      rcases (hl y).1 h1 with h3 | h3
      .exact absurd h3 h2
      .injection h3 with h3;subst h3;exact ⟨k,q2⟩)⟩
   .simp at h
  .simp at h
 .simp at h
theorem Qrg {t:TypeId} (hP:X.P=XE.P) (ho:o.op=.alloc t) (hs:aD s) (he:cG s env e) (hK:eE s r KV KE Q) (h:dn X o env s.L KV=some r):∃ y,dx XE o e s.H KE=some y/\Q y:=by
 simp only [dn,ho] at h;simp only [dx,ho]
 replace h:=ob h;obtain ⟨z,h1,h⟩:=h
 split at h
 .rename_i n u aY WS
  split at h
  .rename_i hz
   have hz:=Qmk hz
   obtain ⟨s',e1,e2,hk,bZ,hr⟩:=Qo6 hs (Qkp WS) n
   have eJ:(List.replicate n (Value.slice none 0 0)).all Qu=true:=by
    rw [List.all_eq_true];intro v hv;rw [List.mem_replicate] at hv;rw [hv.2];rfl
   rw [<- hP,h1];simp only [Q1]
   rw [hz]
   rw [<- e1] at h
   rw [eJ,<- e2]
   exact hK _ _ s' hk bZ (ER.fh hr) h
  .simp at h
 replace h:=ob h;obtain ⟨cs,h2,h⟩:=h
 obtain ⟨a1,a2⟩:=Kq (s:=s) h2
 rw [<- hP,h1];simp only [Q1,a2]
 obtain ⟨s',e1,e2,hk,bZ,hr⟩:=Qe3 hs a1
 rw [<- e2];rw [<- e1] at h
 exact hK _ _ s' hk bZ (ER.fh hr) h
theorem Qxj {t:TypeId} {x:Operand} (ho:o.op=.box t x) (hs:aD s) (he:cG s env e) (hK:eE s r KV KE Q) (h:dn X o env s.L KV=some r):∃ y,dx XE o e s.H KE=some y/\Q y:=by
 simp only [dn,ho] at h;simp only [dx,ho]
 replace h:=ob h;obtain ⟨p,h1,h⟩:=h
 obtain ⟨v,vL,r1⟩:=fK he h1
 rw [vL];simp only [Q1]
 split at h
 .rename_i dm
  have hc:=r1.cells dm
  have:v.cells.toList.all az=true:=List.all_eq_true.2 (fun x hx=>cq.cell hc x hx)
  rw [this]
  obtain ⟨s',e1,e2,hk,bZ,hr⟩:=Qe3 hs hc
  simp only
  rw [<- e2];rw [<- e1] at h
  exact hK _ _ s' hk bZ (ER.fh hr) h
 .simp at h
theorem Qg5 {t:TypeId} {l c:Operand} (hP:X.P=XE.P) (ho:o.op=.makeSlice t l c) (hs:aD s) (he:cG s env e) (hK:eE s r KV KE Q) (h:dn X o env s.L KV=some r):∃ y,dx XE o e s.H KE=some y/\Q y:=by
 simp only [dn,ho] at h;simp only [dx,ho]
 replace h:=ob h;obtain ⟨p,h1,h⟩:=h
 replace h:=ob h;obtain ⟨q,h2,h⟩:=h
 obtain ⟨v,vL,r1⟩:=fK he h1
 obtain ⟨u,YC,r2⟩:=fK he h2
 rw [vL,YC];simp only [Q1]
 refine Xo r1 h (fun n h=>Xo r2 h (fun m h=>?_))
 replace h:=ob h;obtain ⟨⟨el,size,bytes,z⟩,h3,h⟩:=h
 replace h:=ob h;obtain ⟨w,h4,h⟩:=h
 rw [<- hP,h3];simp only [Q1]
 split at h
 .rename_i hz bf
  have bf:=Z7 bf
  unfold aa at h ⊢
  split at h
  .rename_i hc
   rw [hc]
   split at h
   .rename_i aY t'
    split at h
    .rename_i cH
     obtain ⟨s',e1,e2,hk,bZ,hr⟩:=Qo5 hs cH n
     simp only
     have jV:=Qiw hz
     have fq:(List.replicate n z.cells.toList).flatten=List.replicate n (.slice none 0 0):=by
      rw [jV];induction n with
      | zero=>rfl
      | succ n ih=>rw [List.replicate_succ,Ze,List.replicate_succ];simp at ih ⊢
     have AX:(1:Nat)=size:=bf
     rw [fq,<- e2];rw [<- e1] at h
     rw [<- AX]
     exact hK _ _ s' hk bZ (ER.fh hr) h
    .simp at h
   .obtain ⟨s',e1,e2,hk,bZ,hr⟩:=E5 hs (RL.rep (N:=s.N) (H:=s.H) n (Xx s hz))
    simp only
    rw [<- e2];rw [<- e1] at h
    refine hK _ _ s' hk bZ (ER.fh ?_) h
    rw [List.length_replicate,bf] at hr;exact hr
  .simp at h
 .simp at h
theorem IA {H:af} {ai z o:Nat} {k:bx} {vs:List Value} (hk:ah H z=some k) (bn:k.ro=false) (hc:∀ v∈vs,az v=true) (hl:ai<=z) (hle:o+vs.length<=k.cells.length) :
  oZ H ai ⟨z,o,none⟩ vs=some (H.set z (some ⟨lay k.cells o vs,false,k.mp⟩)):=by
 unfold oZ
 simp only [hk,Q1]
 have h1:vs.all az=true:=List.all_eq_true.2 hc
 have h2:Nat.ble ai z=true:=Nat.ble_eq_true_of_le hl
 have h3:Nat.ble (o+vs.length) k.cells.length=true:=Nat.ble_eq_true_of_le hle
 obtain ⟨kc,kr,km⟩:=k
 simp only at bn;subst bn
 simp only at h3
 simp only [h1,h2,h3,Bool.or_true]
 rfl
theorem Qix {mp:Option (List (Int×Int))} (hs:aD s) {b aB:Nat} {cs tv:List PV} (hb:Qi s.L b=some ⟨aB,true,.cells cs⟩) {m:MB} (hm:s.μ b=some m) {cy:List Value} (hr:cq s tv cy) :
  ∃ s',s'.L=cW s.L b ⟨aB+1,true,.cells tv⟩/\s'.H=s.H.set m.z (some ⟨cy,false,mp⟩)/\s'.μ=s.μ/\aj s s'/\aD s':=by
 have hB:=hs.aJ b _ hb
 unfold BR at hB;simp only at hB
 obtain ⟨_,m',k,aE,dW,hk,cD,bn,aI⟩:=hB
 rw [hm] at aE;injection aE with aE;subst aE
 exact hs.set hb rfl hm ⟨aB+1,true,.cells tv⟩ rfl rfl ⟨cy,false,mp⟩ (fun s' de aE hg hN=>by
  unfold BR;simp only
  exact ⟨trivial,m,_,aE,dW,hg,de.cq hr,rfl,by rw [de.ai];exact aI⟩)
theorem Qrh (hs:aD s) {b aB:Nat} {t:Ty} {xs xs':List t.T} (hb:Qi s.L b=some ⟨aB,true,.arr t xs⟩) {m:MB} (hm:s.μ b=some m) {cells':List Value} {k:bx} (hk:ah s.H m.z=some k) (hl:xs'.length=xs.length)
  (ct:Fit m.sh (xs'.length*t.size) cells') (hr:RL s.N s.H t xs' ((cells'.drop m.sh).take (xs'.length*t.size))) :
  ∃ s',s'.L=cW s.L b ⟨aB+1,true,.arr t xs'⟩/\s'.H=s.H.set m.z (some ⟨cells',false,k.mp⟩)/\s'.μ=s.μ/\aj s s'/\aD s':=by
 obtain ⟨a1,a2,k',a3,a4,a5,a6,a7⟩:=mO hs hb hm
 rw [hk] at a3;injection a3 with a3;subst a3
 exact hs.set hb rfl hm ⟨aB+1,true,.arr t xs'⟩ rfl rfl ⟨cells',false,k.mp⟩ (fun s' de aE hg hN=>by
  unfold BR;simp only [aE]
  refine ⟨a1,by omega,_,hg,ct,fun i hi=>?_,fun _=>⟨rfl,by rw [de.ai];exact (a6 rfl).2⟩,fun e=>absurd e (by decide)⟩
  have:=de.vN (hr.2 i hi)
  have oh:=jT (k:=t.size) hi
  unfold cI at this;rw [List.drop_take,List.take_take,Nat.min_eq_left (by omega),List.drop_drop] at this;exact this)
theorem Qiy {N:Nat->Prop} {H:af} (u:Ty):∀ (n:Nat) (hn:0 < n) {xs:List u.T} {cells:List Value} {p:(Fl n u).T},xs.length=n->RL N H u xs cells->Rt n u xs=some p->ax N H (Fl n u) p cells
 | 1,_,[x],cells,p,hl,hr,h=>by
  obtain rfl:x=p:=Option.some.inj h
  have:=hr.2 0 (by simp)
  have hl:=hr.1
  simp only [List.length_singleton,Nat.one_mul] at hl
  simp only [List.getElem_cons_zero,Nat.zero_mul] at this
  have e:cI cells 0 u.size=cells:=by unfold cI;rw [List.drop_zero,Zs (by omega)]
  rw [e] at this;exact this
 | n+2,_,x::r,cells,p,hl,hr,h=>by
  simp only [Rt] at h
  obtain ⟨y,h1,h⟩:=ob h
  obtain rfl:(x,y)=p:=Option.some.inj h
  have h0:=hr.2 0 (by simp)
  simp only [List.getElem_cons_zero,Nat.zero_mul] at h0
  have hd:RL N H u r (cells.drop u.size):=by have:=hr.drop 1 (by simp);rw [Nat.one_mul] at this;exact this
  have:=Qiy u (n+1) (by omega) (by simpa using hl) hd h1
  refine ax.ij ?_ this
  unfold cI at h0;simpa using h0
 | 1,_,[],_,_,hl,_,_=>by simp at hl
 | 1,_,_::_::_,_,_,hl,_,_=>by simp at hl
 | n+2,_,[],_,_,hl,_,_=>by simp at hl
theorem QM (l:List Value) (o:Nat) (v:Value) (h:o < l.length) (i:Nat):(lay l o [v])[i]? = if i=o then some v else l[i]?:=by
 rw [rG l o [v] (by simp;omega)]
 by_cases c1:i < o
 .rw [if_pos c1,if_neg (by omega)]
 .rw [if_neg c1]
  by_cases c2:i=o
  .subst c2;simp
  .rw [if_neg (by simp;omega),if_neg c2]
theorem X6 {s:S} (hs:aD s) {b aB j:Nat} {e:Ty} {xs:List (List e.T)} {ho:Option Nat} (hb:Qi s.L b=some ⟨aB,true,.rows e xs ho⟩) {m:MB} (hm:s.μ b=some m) {k:bx} (hk:ah s.H m.z=some k) (hj:j < xs.length) (hh:ho=none\/ho=some j)
  {y:List e.T} {v:Value} (hr:iF (fun z=>s.aF z\/s.br z=some (b,j)) s.H s.ai e y v) (hp:Qa v v=true) :
  ∃ s',s'.L=cW s.L b ⟨aB+1,true,.rows e (xs.set j y) none⟩/\s'.H=s.H.set m.z (some ⟨lay k.cells (m.sh+j) [v],false,k.mp⟩)/\aj s s'/\aD s'/\(∀ z,s'.aF z->s.aF z):=by
 obtain ⟨_,cH,⟨fS,_⟩ | ⟨m',k',aE,a1,a2,a3,a4,a5,a6,a7⟩⟩:=mS hs hb
 .rw [hm] at fS;simp at fS
 rw [hm] at aE;injection aE with aE;subst aE
 rw [hk] at a3;injection a3 with a3;subst a3
 obtain ⟨dZ,nV,cx⟩:∃ dZ:Option (Nat×Nat),(∀ z i,dZ=some (z,i)->s.aF z/\∃ k,ah s.H z=some k)/\∀ (K:Nat->Prop),(∀ z,s.br z=some (b,j)->K z)->(∀ z,dZ=some (z,j)->K z)->iF K s.H s.ai e y v:=by
  rcases hr with ⟨rfl,rfl⟩ | ⟨z,o,k2,h1,h2 | h2,h3⟩
  .exact ⟨none,fun _ _ h=>by simp at h,fun K _ _=>.inl ⟨rfl,rfl⟩⟩
  .exact ⟨some (z,j),fun z' i h=>by injection h with h;injection h with h _;subst h;exact ⟨h2,_,h3.1⟩,fun K _ hK=>.inr ⟨z,o,k2,h1,hK z rfl,h3⟩⟩
  .exact ⟨none,fun _ _ h=>by simp at h,fun K hK _=>.inr ⟨z,o,k2,h1,hK z h2,h3⟩⟩
 have ct:=a4
 obtain ⟨s',e1,e2,e3,de,bZ,hl⟩:=hs.N9 hb rfl hm ⟨aB+1,true,.rows e (xs.set j y) none⟩ rfl rfl ⟨lay k.cells (m.sh+j) [v],false,k.mp⟩ dZ nV (fun s' de aE hg hH mT N_=>by
  unfold BR;simp only [aE]
  refine ⟨trivial,cH,a1,by simp [a2],_,hg,?_,rfl,by rw [de.ai];exact a6,fun i hi _=>?_⟩
  .rw [List.length_set];exact ct.lay (p:=j) (by simp;have:=ct.1;omega) (fun w hw=>by simp at hw;subst hw;exact hp)
  .simp only [List.length_set] at hi
   by_cases lg:i=j
   .subst lg
    refine ⟨v,by rw [QM _ _ _ (by have:=ct.1;omega),if_pos rfl],?_⟩
    simp only [List.getElem_set_self]
    have:=cx (fun z=>s'.br z=some (b,i)/\ah s'.H z=ah s.H z) (fun z hz=>⟨mT z i hz,hH z (fun e=>hs.dS hz hb hm e.symm)⟩) (fun z hz=>⟨N_ z i hz,hH z (fun e=>hs.lm b _ m hb hm (e▸(nV z i hz).1))⟩)
    rw [de.ai]
    exact this.mono cH (fun z hz=>hz)
   .obtain ⟨w,q1,q2⟩:=a7 i hi (by rcases hh with rfl | rfl<;>simp;omega)
    refine ⟨w,by rw [QM _ _ _ (by have:=ct.1;omega),if_neg (by omega)];exact q1,?_⟩
    rw [List.getElem_set_ne (by omega),de.ai]
    exact q2.mono cH (fun z hz=>⟨mT z i hz,hH z (fun e=>hs.dS hz hb hm e.symm)⟩))
 exact ⟨s',e1,e2,de,bZ,fun z hz=>((hl z).1 hz).1⟩
theorem Qe4 {s:S}:∀ {n:Nat} {cs:List PV} {vs:List Value},Kt n cs=true->cq s cs vs->cs.length=n/\vs=List.replicate n (.slice none 0 0)
 | 0,[],[],_,_=>⟨rfl,rfl⟩
 | 0,[],_::_,_,h=>h.elim
 | 0,_::_,_,h,_=>by simp [Kt] at h
 | n+1,[],_,h,_=>by simp [Kt] at h
 | n+1,c::r,[],_,h=>h.elim
 | n+1,c::r,v::vs,h,hr=>by
  unfold Kt at h
  split at h
  .simp_all
  .rename_i rH IT
   injection rH with rH
   injection IT with e1 e2
   subst e1 e2 rH
   obtain ⟨h1,h2⟩:=Qe4 h hr.2
   have:v=.slice none 0 0:=hr.1
   rw [this,h2,List.replicate_succ]
   exact ⟨by simp [h1],rfl⟩
  .simp at h
theorem Qo7 {s:S} (hs:aD s) {b aB:Nat} {e:Ty} {xs:List (List e.T)} {ho:Option Nat} (hb:Qi s.L b=some ⟨aB,true,.rows e xs ho⟩) {m:MB} (hm:s.μ b=some m) {k:bx} (hk:ah s.H m.z=some k) (dW:m.sh=0) :
  ∃ s',s'.L=cW s.L b ⟨aB+1,true,.rows e (List.replicate xs.length []) none⟩/\s'.H=s.H.set m.z (some ⟨lay k.cells 0 (List.replicate xs.length (.slice none 0 0)),false,k.mp⟩)/\aj s s'/\aD s':=by
 obtain ⟨_,cH,⟨fS,_⟩ | ⟨m',k',aE,a1,a2,a3,a4,a5,a6,a7⟩⟩:=mS hs hb
 .rw [hm] at fS;simp at fS
 rw [hm] at aE;injection aE with aE;subst aE
 rw [hk] at a3;injection a3 with a3;subst a3
 have ct:=a4
 have hle:xs.length<=k.cells.length:=by have:=ct.1;omega
 obtain ⟨s',e1,e2,e3,de,bZ,hl⟩:=hs.N9 hb rfl hm ⟨aB+1,true,.rows e (List.replicate xs.length []) none⟩ rfl rfl ⟨lay k.cells 0 (List.replicate xs.length (.slice none 0 0)),false,k.mp⟩ none (fun _ _ h=>by simp at h) (fun s' de aE hg hH mT N_=>by
  unfold BR;simp only [aE]
  refine ⟨trivial,cH,a1,by simp [a2],_,hg,?_,rfl,by rw [de.ai];exact a6,fun i hi _=>?_⟩
  .rw [List.length_replicate]
   have:=ct.lay (p:=0) (d:=List.replicate xs.length (.slice none 0 0)) (by simp;omega) (fun w hw=>by rw [List.mem_replicate] at hw;rw [hw.2];simp [Qa])
   rw [dW] at this ⊢;exact this
  .simp only [List.length_replicate] at hi
   refine ⟨.slice none 0 0,?_,.inl ⟨by simp,rfl⟩⟩
   rw [dW,Zo,rG _ _ _ (by simp;omega)]
   simp [hi])
 exact ⟨s',e1,e2,de,bZ⟩
theorem Qkq {L:LS} {b aB:Nat} {e:Ty} {xs:List (List e.T)} {ho:Option Nat} (h:YD L b=some (aB,⟨e,xs,ho⟩)):Qi L b=some ⟨aB,true,.rows e xs ho⟩:=by
 unfold YD at h
 split at h
 .rename_i hb
  injection h with h;injection h with h1 h2;subst h1
  injection h2 with h2 h3;subst h2
  have h3:=eq_of_heq h3
  injection h3 with h3 h4;subst h3;subst h4;exact hb
 .simp at h
theorem Qri {t:TypeId} {a x:Operand} (hP:X.P=XE.P) (aI:XE.ai=s.ai) (ho:o.op=.store t a x) (hs:aD s) (he:cG s env e) (hK:eE s r KV KE Q) (h:dn X o env s.L KV=some r):∃ y,dx XE o e s.H KE=some y/\Q y:=by
 simp only [dn,ho] at h;simp only [dx,ho]
 replace h:=ob h;obtain ⟨p,h1,h⟩:=h
 replace h:=ob h;obtain ⟨q,h2,h⟩:=h
 replace h:=ob h;obtain ⟨i,h3,h⟩:=h
 obtain ⟨v,vL,r1⟩:=fK he h1
 obtain ⟨u,YC,r2⟩:=fK he h2
 rw [vL,YC];simp only [Q1]
 rw [<- hP]
 split at h
 .rename_i bf
  simp only [Z8] at bf
  have hc:=r2.cells bf.2
  have hl:=Qw.length hc
  have rO:=Z7 bf.1
  have Bb:Nat.beq u.cells.size i.size=true:=by
   have:u.cells.size=i.size:=by simp only [Array.length_toList] at hl;omega
   rw [this];exact Nat.beq_refl _
  split at h
  .rename_i b j fo
   split at h
   .rename_i aB el xs ho Oa
    have hb:=Qkq Oa
    split at h
    .simp at h
    rename_i YE
    simp only [Z8] at YE
    have YA:=Z7 YE.1
    have aaj:=Z7 YE.2
    subst YA
    obtain ⟨bE,m,hm,rfl⟩:cm s (.ep b j 0) v:=r1
    obtain ⟨_,cH,cx⟩:=mS hs hb
    simp only [e_,h3,Q1,Bb]
    have bL:∀ (y:List el.T) (K:Nat->Prop),iF K s.H s.ai el y u->u.cells.toList=[u]/\Qa u u=true:=by
     intro y K hr
     rcases hr with ⟨_,rfl⟩ | ⟨_,_,_,rfl,_⟩<;>exact ⟨rfl,by simp [Qa]⟩
    split at h
    .rename_i b' i' vR e' x
     split at h
     .rename_i YF
      simp only [Z8] at YF
      have gp:=Z7 YF.1
      have sJ:=Z7 YF.2
      subst gp;subst sJ
      replace h:=ob h;obtain ⟨x',h4,h⟩:=h
      have e4:=Qq h4;injection e4 with e4;subst e4
      have:=Qg h4;subst this
      unfold aa at h;split at h
      .rename_i lg
       have lg:=Z7 lg
       subst lg
       replace h:=ob h;obtain ⟨x0,h5,h⟩:=h
       obtain ⟨hj,_⟩:=Z0 h5
       obtain ⟨_,_,hval⟩:cm s (.rw b' i' vR e' x) u:=r2
       obtain ⟨_,q2,_⟩:=(hval _ hb).2 rfl
       obtain ⟨c1,c2⟩:=bL _ _ q2
       rcases cx with ⟨fS,_⟩ | ⟨m',k,aE,a1,a2,a3,a4,a5,a6,a7⟩
       .rw [hm] at fS;simp at fS
       rw [hm] at aE;injection aE with aE;subst aE
       obtain ⟨s2,e1,e2,k2,t2,_⟩:=X6 hs hb hm a3 hj (.inl rfl) (q2.mono cH (fun z hz=>⟨.inr hz,rfl⟩)) c2
       have eR:=IA (o:=m.sh+i'*m.es+0) (vs:=u.cells.toList) a3 a5 (fun v hv=>cq.cell hc v hv) a6 (by rw [c1,a1];have:=a4.1;simp;omega)
       rw [aI,eR,c1]
       rw [a1,Nat.mul_one,Nat.add_zero,<- e2];rw [<- e1] at h
       exact hK .undef undef s2 k2 t2 rfl h
      .simp at h
     .simp at h
    .replace h:=ob h;obtain ⟨⟨y,L1⟩,h4,h⟩:=h
     have dR:cm s q u:=by
      have k_:=h4
      unfold rA at k_
      split at k_
      .exact r2
      .exact r2
      .exact r2
      .simp at k_
     obtain ⟨s1,l1,g1,u1,k1,t1,q2,vM,_,_⟩:=Xu hs cH dR h4
     obtain ⟨c1,c2⟩:=bL _ _ q2
     simp only at h
     rw [<- l1] at h
     split at h
     .rename_i YG e' xs' h' gp
      replace h:=ob h;obtain ⟨x',h5,h⟩:=h
      have e5:=Qq h5;injection e5 with e5;subst e5
      have:=Qg h5;subst this
      have Ob:(h'=none\/h'=some j)/\(Q1 xs'[j]? fun _=>KV .undef (cW s1.L b ⟨YG+1,true,.rows el (xs'.set j y) none⟩))=some r:=by
       unfold Qvu at h;split at h
       .exact ⟨.inl rfl,h⟩
       .unfold aa at h;split at h
        .rename_i lg
         have:=Z7 lg
         subst this
         exact ⟨.inr rfl,h⟩
        .simp at h
      obtain ⟨hh,h⟩:=Ob
      replace h:=ob h;obtain ⟨x0,h6,h⟩:=h
      obtain ⟨hj,_⟩:=Z0 h6
      obtain ⟨_,_,Oc⟩:=mS t1 gp
      rcases Oc with ⟨fS,rfl⟩ | ⟨m',k,aE,a1,a2,a3,a4,a5,a6,a7⟩
      .simp at hj
      rw [u1,hm] at aE;injection aE with aE;subst aE
      have q3:iF (fun z=>s1.aF z\/s1.br z=some (b,j)) s1.H s1.ai el y u:=by
       rw [k1.ai];exact q2.mono cH (fun z hz=>⟨.inl hz.1,by rw [g1]⟩)
      obtain ⟨s2,e1,e2,k2,t2,_⟩:=X6 t1 gp (by rw [u1];exact hm) a3 hj hh q3 c2
      have eR:=IA (o:=m.sh+j*m.es+0) (vs:=u.cells.toList) a3 a5 (fun v hv=>cq.cell hc v hv) a6 (by rw [c1,a1];have:=a4.1;simp;omega)
      rw [aI,<- k1.ai,<- g1,eR,c1]
      rw [a1,Nat.mul_one,Nat.add_zero,<- e2];rw [<- e1] at h
      exact hK .undef undef s2 (k1.trans k2) t2 rfl h
     .simp at h
   replace h:=ob h;obtain ⟨w,h4,h⟩:=h
   replace h:=ob h;obtain ⟨⟨y,L1⟩,h5,h⟩:=h
   obtain ⟨s1,l1,g1,u1,k1,t1,nq,o1,_⟩:=Df w hs hc h5
   simp only at h
   rw [<- l1] at h
   split at h
   .rename_i aB el xs hb
    replace h:=ob h;obtain ⟨x0,h6,h⟩:=h
    replace h:=ob h;obtain ⟨x1,h7,h⟩:=h
    obtain ⟨bE,m,hm,rfl⟩:=k1.cm (p:=.ep b j fo) r1
    simp only [e_,h3,Q1,Bb]
    obtain ⟨a1,a2,k,a3,a4,a5,a6,a7⟩:=mO t1 hb hm
    obtain ⟨hj,ej⟩:=Z0 h6
    have cZ:=a5 j hj
    rw [ej] at cZ
    obtain ⟨g2,g3⟩:=Qxz _ _ h7 cZ nq
    have hlw:=ax.len _ nq
    have vO:=jT (k:=el.size) hj
    have eR:=IA (o:=m.sh+j*m.es+fo) a3 (a6 rfl).1 (fun v hv=>cq.cell hc v hv) (a6 rfl).2 (by rw [a1,hlw];omega)
    rw [aI,<- k1.ai,<- g1,eR]
    have Dj:=RL.om a4 a5
    have hd:((k.cells.drop m.sh).take (xs.length*el.size)).length=xs.length*el.size:=Dj.1
    have IB:((lay k.cells (m.sh+j*m.es+fo) u.cells.toList).drop m.sh).take ((xs.set j x1).length*el.size)=lay ((k.cells.drop m.sh).take (xs.length*el.size)) (j*el.size) (lay (cI ((k.cells.drop m.sh).take (xs.length*el.size)) (j*el.size) el.size) fo u.cells.toList):=by
     rw [List.length_set,a1,Nat.add_assoc,Qre a4 (by omega),Qu7 (z:=el.size) (by omega) (by omega)]
    have Od:ax s1.N s1.H el x1 (lay (cI ((k.cells.drop m.sh).take (xs.length*el.size)) (j*el.size) el.size) fo u.cells.toList):=by
     have:(k.cells.drop (m.sh+j*el.size)).take el.size=cI ((k.cells.drop m.sh).take (xs.length*el.size)) (j*el.size) el.size:=by
      unfold cI;rw [List.drop_take,List.take_take,Nat.min_eq_left (by omega),List.drop_drop]
     rw [this] at g2;exact g2
    obtain ⟨s2,e1,e2,e3,k2,t2⟩:=Qrh t1 (xs':=xs.set j x1) hb hm (cells':=lay k.cells (m.sh+j*m.es+fo) u.cells.toList) a3 (by simp) (by rw [List.length_set,a1,Nat.add_assoc];exact (AI t1 hb hm a3).lay (by omega) (fun v hv=>cq.plain hc v hv)) (by rw [IB];exact Dj.set hj Od)
    rw [<- e2];rw [<- e1] at h
    exact hK .undef undef s2 (k1.trans k2) t2 rfl h
   .simp at h
  .rename_i b off
   split at h
   .rename_i aB cs hb
    split at h
    .rename_i hle
     have hle:=Zi hle
     obtain ⟨bE,m,hm,dW,rfl⟩:=r1
     simp only [e_,h3,Q1,Bb]
     have hB:=hs.aJ b _ hb
     unfold BR at hB;simp only at hB
     obtain ⟨_,m',k,aE,_,hk,cD,bn,kj⟩:=hB
     rw [hm] at aE;injection aE with aE;subst aE
     have hlk:=Qw.length cD
     have eR:=IA (o:=off) hk bn (fun v hv=>cq.cell hc v hv) kj (by omega)
     rw [aI,eR]
     obtain ⟨s2,e1,e2,e3,k2,t2⟩:=Qix (mp:=k.mp) hs hb hm (Yn cD hc off)
     rw [<- e2];rw [<- e1] at h
     exact hK .undef undef s2 k2 t2 rfl h
    .simp at h
   .rename_i aB e xs hb
    split at h
    .rename_i YH
     simp only [Z8] at YH
     have ho:=Z7 YH.1
     subst ho
     obtain ⟨bE,m,hm,dW,rfl⟩:=r1
     simp only [e_,h3,Q1,Bb]
     obtain ⟨n1,n2⟩:=Qe4 YH.2 hc
     obtain ⟨_,cH,⟨fS,_⟩ | ⟨m',k,aE,a1,a2,a3,a4,a5,a6,a7⟩⟩:=mS hs hb
     .rw [hm] at fS;simp at fS
     rw [hm] at aE;injection aE with aE;subst aE
     have eR:=IA (o:=0) a3 a5 (fun v hv=>cq.cell hc v hv) a6 (by rw [n2];have:=a4.1;simp;omega)
     rw [aI,eR]
     obtain ⟨s2,e1,e2,k2,t2⟩:=Qo7 hs hb hm a3 dW
     rw [n2,<- e2];rw [n1,<- e1] at h
     exact hK .undef undef s2 k2 t2 rfl h
    .simp at h
   .simp at h
  .rename_i b off n w k0
   split at h
   .rename_i aB cs hb hwf
    replace h:=ob h;obtain ⟨y,h4,h⟩:=h
    replace h:=ob h;obtain ⟨xs,h5,h⟩:=h
    replace h:=ob h;obtain ⟨p,h6,h⟩:=h
    obtain ⟨bE,m,hm,dW,rfl⟩:=r1
    simp only [e_,h3,Q1,Bb]
    have hB:=hs.aJ b _ hb
    unfold BR at hB;simp only at hB
    obtain ⟨_,m',k,aE,_,hk,cD,bn,kj⟩:=hB
    rw [hm] at aE;injection aE with aE;subst aE
    have hlk:=Qw.length cD
    obtain ⟨_,ry⟩:=J_ (x:=y.1) (L':=y.2) hs w hc (by rw [h4])
    have hly:=ax.len _ ry
    obtain ⟨g1,g2,g3⟩:=Rn hs w (Qw.drop off cD) h5
    unfold Oe at h6
    split at h6
    .rename_i au
     have au:=BQ au
     have vO:=jT (k:=w.size) au
     rw [g1] at vO
     simp only [List.length_drop] at g2
     have eO:=Ty.size_pos w
     have eR:=IA (o:=off+k0*w.size) hk bn (fun v hv=>cq.cell hc v hv) kj (by omega)
     rw [aI,eR]
     have Dj:RL (s.NN s.L.cu) s.H w xs (cI k.cells off (n*w.size)):=by
      refine ⟨by rw [IP _ _ _ (by omega),g1],fun i hi=>?_⟩
      have:=ax.flat (M:=s.NN s.L.cu) (G:=s.H) w hwf (g3 i hi)
      have BS:=jT (k:=w.size) hi
      have e2:cI (cI k.cells off (n*w.size)) (i*w.size) w.size=((k.cells.drop off).drop (i*w.size)).take w.size:=by
       unfold cI;rw [List.drop_take,List.take_take,Nat.min_eq_left (by rw [g1] at BS;omega)]
      rw [e2];exact this
     have YI:=Dj.set au (ax.flat (M:=s.NN s.L.cu) (G:=s.H) w hwf ry)
     have vU:0 < n:=by omega
     have cZ:=Qiy w n vU (by simp [g1]) YI h6
     have hlr:=AF _ cZ
     have iw:(lay (cI k.cells off (n*w.size)) (k0*w.size) u.cells.toList).length=n*w.size:=by
      rw [Ny _ _ _ (by rw [IP _ _ _ (by omega)];omega),IP _ _ _ (by omega)]
     have Di:=Yn cD hlr off
     have YJ:lay k.cells off (lay (cI k.cells off (n*w.size)) (k0*w.size) u.cells.toList)=lay k.cells (off+k0*w.size) u.cells.toList:=by
      have Aj:=IP k.cells off (n*w.size) (by omega)
      apply List.ext_getElem?;intro i'
      rw [rG k.cells off _ (by rw [iw];omega),iw,rG k.cells (off+k0*w.size) _ (by omega)]
      by_cases c1:i' < off
      .rw [if_pos c1,if_pos (by omega)]
      .rw [if_neg c1]
       by_cases c2:i' < off+n*w.size
       .rw [if_pos c2,rG (cI k.cells off (n*w.size)) (k0*w.size) _ (by omega)]
        by_cases c3:i' - off < k0*w.size
        .have d1:i' < off+k0*w.size:=by omega
         rw [if_pos c3,if_pos d1,tc,if_pos (by omega)];congr 1;omega
        .have d1:¬ i' < off+k0*w.size:=by omega
         rw [if_neg c3,if_neg d1]
         by_cases c4:i' - off < k0*w.size+u.cells.toList.length
         .have d2:i' < off+k0*w.size+u.cells.toList.length:=by omega
          rw [if_pos c4,if_pos d2];congr 1;omega
         .have d2:¬ i' < off+k0*w.size+u.cells.toList.length:=by omega
          rw [if_neg c4,if_neg d2,tc,if_pos (by omega)];congr 1;omega
       .rw [if_neg c2,if_neg (by omega),if_neg (by omega)]
     rw [YJ] at Di
     obtain ⟨s2,e1,e2,e3,k2,t2⟩:=Qix (mp:=k.mp) hs hb hm Di
     rw [<- e2];rw [<- e1] at h
     exact hK .undef undef s2 k2 t2 rfl h
    .simp at h6
   .simp at h
  .simp at h
 .simp at h
theorem Qiz {x:Operand} (ho:o.op=.nilCheck x) (hs:aD s) (he:cG s env e) (hK:eE s r KV KE Q) (h:dn X o env s.L KV=some r):∃ y,dx XE o e s.H KE=some y/\Q y:=by
 simp only [dn,ho] at h;simp only [dx,ho]
 replace h:=ob h;obtain ⟨p,h1,h⟩:=h
 obtain ⟨v,vL,r1⟩:=fK he h1
 rw [vL];simp only [Q1]
 split at h
 .have r0:=r1
  obtain ⟨a,b,rfl,_⟩:=r1
  exact hK.here hs r0 h
 .have r0:=r1
  obtain ⟨_,m,_,_,rfl⟩:=r1
  exact hK.here hs r0 h
 .have r0:=r1
  obtain ⟨_,m,_,rfl⟩:=r1
  exact hK.here hs r0 h
 .have r0:=r1
  obtain ⟨z,oo,k,rfl,_⟩:=r1
  exact hK.here hs r0 h
 .have r0:=r1
  obtain ⟨_,⟨_,_,rfl⟩,_⟩:=r1
  exact hK.here hs r0 h
 .have r0:=r1
  obtain ⟨_,m,_,_,rfl⟩:=r1
  exact hK.here hs r0 h
 .simp at h
theorem XF (hs:aD s) {p:PV} {v:Value} (hr:ER s p v) {t:Ty} {x:List t.T} (h:kS s.L p t=some x) (E8:∀ u,t=.sl u->J7 s.L p=false) :
  ∃ cells a c,v=.slice a x.length c/\Qf s.H t.size v=some cells/\RL s.N s.H t x cells:=by
 have Of:∀ {N:Nat->Prop},ax N s.H (.sl t) x [v]->∃ cells a c,v=.slice a x.length c/\Qf s.H t.size v=some cells/\RL N s.H t x cells:=by
  intro N r
  unfold ax at r
  rcases r with ⟨rfl,e1⟩ | ⟨rfl,z,oo,e1⟩ | ⟨z,oo,k,e1,hn,hk,hle,hi⟩
  .simp at e1;subst e1;exact ⟨[],_,_,rfl,rfl,by simp [RL]⟩
  .simp at e1;subst e1;exact ⟨[],_,_,rfl,by simp [Qf,fN],by simp [RL]⟩
  .simp at e1;subst e1
   refine ⟨(k.cells.drop oo).take (x.length*t.size),_,_,rfl,?_,by simp;omega,fun i eW=>?_⟩
   .simp only [Qf]
    cases hz:x.length*t.size with
    | zero=>simp [fN]
    | succ q =>
     simp only [fN,Qx,hk,Q1]
     have:Nat.ble (oo+(q+1)) k.cells.length=true:=Nat.ble_eq_true_of_le (by omega)
     rw [this]
   .have:=hi i eW
    have hm:=jT (k:=t.size) eW
    have e2:cI ((k.cells.drop oo).take (x.length*t.size)) (i*t.size) t.size=(k.cells.drop (oo+i*t.size)).take t.size:=by
     unfold cI;rw [List.drop_take,List.take_take,Nat.min_eq_left (by omega),List.drop_drop]
    rw [e2];exact this
 have key:∀ {N:Nat->Prop},(∀ z,N z->s.N z)->ax N s.H (.sl t) x [v]->∃ cells a c,v=.slice a x.length c/\Qf s.H t.size v=some cells/\RL s.N s.H t x cells:=by
  intro N hN r
  obtain ⟨cells,a,c,g1,g2,g3⟩:=Of r
  exact ⟨cells,a,c,g1,g2,g3.1,fun i hi=>ax.mono hN t (g3.2 i hi)⟩
 have h':=h
 unfold kS at h
 split at h
 .obtain rfl:v=_:=hr
  simp at h;subst h
  exact ⟨[],_,_,rfl,rfl,by simp [RL]⟩
 .rename_i st u y
  obtain ⟨e1,hx⟩:=Ba h
  injection e1 with e1;subst e1
  simp at hx;subst hx
  exact key (fun z hz=>hz.1) hr
 .rename_i b off n
  split at h
  .rename_i aB rw u xs hb
   obtain ⟨e1,hx⟩:=Ba h
   injection e1 with e1;subst e1
   simp at hx;subst hx
   have hr:cm s (.a_ b off n) v:=hr
   obtain ⟨bE,hr⟩:=hr
   cases hm:s.μ b with
   | none =>
    rw [hm] at hr;obtain ⟨rfl,h5,rfl⟩:=hr
    have hx:=EX hs hb hm
    subst hx
    have:cut ([]:List u.T) 0 n=[]:=by cases n<;>simp [cut]
    rw [this];exact ⟨[],_,_,rfl,rfl,by simp [RL]⟩
   | some m =>
    rw [hm] at hr
    obtain ⟨g1,g2,k,g3,g4,g5,g6,g7⟩:=mO hs hb hm
    obtain ⟨a1,rfl⟩:=hr
    have hlen:(cut xs off n).length=n.getD (m.n - off):=by
     cases n with
     | none=>simp [cut,g2]
     | some l=>simp [cut] at a1 ⊢;omega
    have Dj:=RL.om g4 g5
    have ME:off<=xs.length:=by omega
    have hmul:(off+(cut xs off n).length)*u.size<=xs.length*u.size:=Zk _ (by omega)
    rw [Nat.add_mul] at hmul
    refine ⟨(k.cells.drop (m.sh+off*u.size)).take ((cut xs off n).length*u.size),_,_,by rw [hlen],?_,?_⟩
    .rw [<- hlen,g1]
     simp only [Qf]
     cases hz:(cut xs off n).length*u.size with
     | zero=>simp [fN]
     | succ q =>
      simp only [fN,Qx,g3,Q1]
      have:Nat.ble (m.sh+off*u.size+(q+1)) k.cells.length=true:=Nat.ble_eq_true_of_le (by omega)
      rw [this]
    .cases n with
     | none =>
      have h1:=RL.sub (n:=xs.length - off) g4 g5 (show off+(xs.length - off)<=xs.length by omega)
      rw [Zs (l:=xs.drop off) (by simp)] at h1
      simp only [cut]
      rw [List.length_drop];exact h1
     | some l =>
      have h1:=RL.sub (n:=l) g4 g5 (show off+l<=xs.length by simp at a1;omega)
      simp only [cut]
      have e3:((xs.drop off).take l).length=l:=by simp at a1 ⊢;omega
      rw [e3];exact h1
  .rename_i aB u xs hb
   have e1:=Qq h
   injection e1 with e1
   have:=E8 u e1.symm
   simp [J7,hb] at this
  .simp at h
 .rename_i b i aB u y
  split at h
  .rename_i v' t' xs' h'' hb
   split at h
   .rename_i hv
    have hv:=Z7 hv
    obtain ⟨e1,hx⟩:=Ba h
    injection e1 with e1;subst e1
    simp at hx;subst hx
    obtain ⟨_,_,hval⟩:cm s (.rw b i aB u y) v:=hr
    obtain ⟨r1,r2,_⟩:=(hval _ hb).2 hv
    obtain ⟨cells,a,c,g1,g2,g3⟩:=Of (r2.rep (M:=Any) r1 (fun _ _=>trivial))
    exact ⟨cells,a,c,g1,g2,g3.1,fun i hi=>ax.flat u r1 (g3.2 i hi)⟩
   .simp at h
  .simp at h
 .simp at h
theorem Qkr:∀ (x:List Int) (cells:List Value) {N:Nat->Prop} {H:af},RL N H (.int .u8) x cells->DF cells=some (x.map fun n=>UInt8.ofNat n.toNat):=by
 intro x
 induction x with
 | nil =>
  intro cells N H h
  have h1:=h.1
  have:cells=[]:=Z1 (by simpa using h1)
  subst this;rfl
 | cons n r ih =>
  intro cells N H h
  have h1:=h.1
  match cells,h1 with
  | [],h1=>simp [Ty.size] at h1
  | c::cs,h1 =>
   have h0:=h.2 0 (by simp)
   simp [Ty.size,ax,cI] at h0
   subst h0
   have hr:RL N H (.int .u8) r cs:=by
    refine ⟨by simp [Ty.size] at h1 ⊢;exact h1,fun i hi=>?_⟩
    have:=h.2 (i+1) (by simp;omega)
    simp [Ty.size,cI] at this ⊢;exact this
   simp [DF,ih cs hr,Q1]
theorem RL.bytes {N:Nat->Prop} {H:af} (q:List UInt8):RL N H (.int .u8) (q.map fun b=>(b.toNat:Int)) (q.map fun b=>.int .u8 b.toNat):=by
 refine ⟨by simp [Ty.size],fun i hi=>?_⟩
 simp at hi
 simp only [Ty.size,Nat.mul_one,cI]
 unfold ax
 rw [List.drop_eq_getElem_cons (by simpa using hi)];simp
theorem Qks {src dst:TypeId} {x:Operand} (hP:X.P=XE.P) (ho:o.op=.convert src dst x) (hs:aD s) (he:cG s env e) (hK:eE s r KV KE Q) (h:dn X o env s.L KV=some r):∃ y,dx XE o e s.H KE=some y/\Q y:=by
 simp only [dn,ho] at h;simp only [dx,ho]
 replace h:=ob h;obtain ⟨p,h1,h⟩:=h
 obtain ⟨v,vL,r1⟩:=fK he h1
 rw [vL];simp only [Q1]
 rw [<- hP]
 split at h
 .rename_i BV iN
  obtain rfl:v=.int _ _:=r1
  simp only [I4,BV,iN]
  exact hK.here hs (p:=.int _ _) rfl h
 .rename_i BV iN
  obtain rfl:v=.string _:=r1
  simp only [I4,BV,iN]
  exact hK.here hs (p:=.str _) rfl h
 .rename_i el BV iN
  split at h
  .rename_i YK
   replace h:=ob h;obtain ⟨l,h2,h⟩:=h
   obtain ⟨cells,a,c,rfl,oC,kG⟩:=XF hs r1 h2 (fun u e=>by simp at e)
   simp only [I4,BV,iN,YK]
   have YL:Qf s.H 1 (.slice a l.length c)=some cells:=oC
   rw [YL];simp only [Q1]
   rw [Qkr l cells kG]
   exact hK.here hs (p:=.str (Og l)) rfl h
  .simp at h
 .rename_i el q BV iN
  obtain rfl:v=.string q:=r1
  split at h
  .rename_i YK
   simp only [I4,BV,iN,YK]
   obtain ⟨s',e1,e2,hk,bZ,hr⟩:=E5 (s:=s) hs (RL.bytes q.data.toList)
   rw [<- e2]
   have h':KV (.a_ s.L.bl.length 0 none) (Qv s.L (.arr (.int .u8) (Iz q)))=some r:=h
   have Mc:s'.L=Qv s.L (.arr (.int .u8) (Iz q)):=e1
   rw [<- Mc] at h'
   refine hK _ _ s' hk bZ (ER.fh ?_) h'
   have:(q.data.toList.map fun b=>(b.toNat:Int)).length=q.size:=by simp
   rw [this] at hr;exact hr
  .simp at h
 .simp at h
end
end Go.Pv
