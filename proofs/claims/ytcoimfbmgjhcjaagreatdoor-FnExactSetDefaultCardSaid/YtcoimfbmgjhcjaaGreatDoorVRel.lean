/-
  The simp kit for the abstract interpreter's residual forms: lazy evaluation of reads and writes on heaps of the form H ++ locals. And what stood behind it in 3 texts.
  Conditions: said at the theorems.
-/
import Derived.Test.YtcoimfbmgjhcjaaGreatDoorSound
import Derived.Attr
import Derived.IntWalk
import Derived.Below
import Derived.RowKit
import Derived.WalkKit
import Derived.ProofKit
import Derived.OpenShut
import Derived.DataShut
import Derived.Test.YtcoimfbmgjhcjaaGreatDoorOpB
set_option linter.unusedSimpArgs false
set_option linter.all false
namespace Go.Ek
open Go.Ev
@[congr] theorem Qx0 {α β:Type} {x y:Option α} {f:α->Option β} (h:x=y):Q1 x f=Q1 y f:=by rw [h]
@[congr] theorem Qzl {β:Type} {b c:Bool} {x y:Option β} (h:b=c):aa b x y=aa c x y:=by rw [h]
@[congr] theorem Qxl {β:Type} {k:IntKind} {v u:Value} {K:Int->Option β} (h:v=u):GQ k v K=GQ k u K:=by rw [h]
@[congr] theorem Qx1 {β:Type} {v u:Value} {K:Bool->Option β} (h:v=u):wq v K=wq u K:=by rw [h]
@[congr] theorem Qxm {β:Type} {v u:Value} {K:ByteArray->Option β} (h:v=u):Lz v K=Lz u K:=by rw [h]
@[congr] theorem Qzm {β:Type} {v u:Value} {K:Option Addr->Nat->Nat->Option β} (h:v=u):gp v K=gp u K:=by rw [h]
@[congr] theorem Qxn {β:Type} {v u:Value} {K:Option Addr->Option β} (h:v=u):LA v K=LA u K:=by rw [h]
@[congr] theorem Qxo {β:Type} {v u:Value} {K:List Value->Option β} (h:v=u):LB v K=LB u K:=by rw [h]
@[congr] theorem Qxp {β:Type} {v u:Value} {K:List Value->Option β} (h:v=u):LC v K=LC u K:=by rw [h]
@[congr] theorem Qx2 {β:Type} {v u:List Value} {K:Value->List Value->Option β} (h:v=u):zH v K=zH u K:=by rw [h]
@[congr] theorem Qzn {β:Type} {v u:Value} {K:FuncId->Array Value->Array Value->Option β} (h:v=u):LD v K=LD u K:=by rw [h]
@[congr] theorem Qxq {β:Type} {v u:Value} {K:Addr->Option β} (h:v=u):eW v K=eW u K:=by rw [h]
@[congr] theorem Qzo {β:Type} {v u:Value} {K:Addr->Nat->Nat->Option β} (h:v=u):vQ v K=vQ u K:=by rw [h]
@[congr] theorem Qx3 {β:Type} {v u:Value} {K:Nat->Option β} (h:v=u):vU v K=vU u K:=by rw [h]
@[go_sem] theorem aak {α β:Type} (a:α) (f:α->Option β):Q1 (some a) f=f a:=(rfl)
attribute [go_sem] Go.Ev.qz
@[go_sem] theorem aal {β:Type} (x y:Option β):aa true x y=x:=(rfl)
@[go_sem] theorem Qzp {β:Type} (x y:Option β):aa false x y=y:=(rfl)
@[go_sem] theorem aam {β:Type} (k:IntKind) (n:Int) (K:Int->Option β):GQ k (.int k n) K=K n:=by simp [GQ]
@[go_sem] theorem Qxr {β:Type} (b:Bool) (K:Bool->Option β):wq (.bool b) K=K b:=(rfl)
@[go_sem] theorem aan {β:Type} (b:ByteArray) (K:ByteArray->Option β):Lz (.string b) K=K b:=(rfl)
@[go_sem] theorem aao {β:Type} (a:Option Addr) (n c:Nat) (K:Option Addr->Nat->Nat->Option β):gp (.slice a n c) K=K a n c:=(rfl)
@[go_sem] theorem aap {β:Type} (a:Option Addr) (K:Option Addr->Option β):LA (.pointer a) K=K a:=(rfl)
@[go_sem] theorem aaq {β:Type} (f:FuncId) (a b:Array Value) (K:FuncId->Array Value->Array Value->Option β):LD (.func (.func f) a b) K=K f a b:=(rfl)
@[go_sem] theorem aar {β:Type} (p:Addr) (K:Addr->Option β):eW (.pointer (some p)) K=K p:=(rfl)
@[go_sem] theorem aas {β:Type} (p:Addr) (n c:Nat) (K:Addr->Nat->Nat->Option β):vQ (.slice (some p) n c) K=K p n c:=(rfl)
@[go_sem] theorem Qzq {β:Type} (n:Int) (K:Nat->Option β):vU (.int .i64 n) K=aa (decide (0<=n)) (K n.toNat) none:=(rfl)
@[go_sem] theorem Qzr {β:Type} (n:Nat) (K:Nat->Option β):vU (.int .i64 (n:Int)) K=K n:=by simp [vU,aa]
@[go_sem] theorem XG (a b:Nat):Nat.ble a b=decide (a<=b):=by rw [Bool.eq_iff_iff];simp
@[go_sem] theorem aat (a b:Nat):Nat.blt a b=decide (a < b):=by rw [Bool.eq_iff_iff];simp [Nat.blt];omega
@[go_sem] theorem aau (a b:Nat):Nat.beq a b=decide (a=b):=by rw [Bool.eq_iff_iff];simp
@[go_sem] theorem aav (H:af) (c:List Value):dc H c=H++[some ⟨c,false,none⟩]:=(rfl)
@[go_sem] theorem XH (H L:af) (k:Nat):ah (H++L) (H.length+k)=ah L k:=by
 unfold ah;rw [Zq (Nat.le_add_right _ _),Nat.add_sub_cancel_left]
@[go_sem] theorem Qmb (H L:af):ah (H++L) H.length=ah L 0:=XH H L 0
@[go_sem] theorem Qzs (H L:af) (b k:Nat) (x:Option bx):ah (H.set b x++L) (H.length+k)=ah L k:=by
 have:=XH (H.set b x) L k;simpa using this
@[go_sem] theorem Qzt (H L:af) (b:Nat) (x:Option bx):ah (H.set b x++L) H.length=ah L 0:=by
 have:=Qmb (H.set b x) L;simpa using this
theorem Qr6 {H L:af} {b:Nat} (h:b < H.length):ah (H++L) b=ah H b:=by
 unfold ah;rw [List.getElem?_append_left h]
theorem O_ {H:af} {b:Nat} {k:bx} (h:ah H b=some k):b < H.length:=by
 unfold ah at h
 rcases Nat.lt_or_ge b H.length with h1 | h1
 .exact h1
 .rw [List.getElem?_eq_none h1] at h;simp at h
theorem Mi {H L:af} {b:Nat} {k:bx} (h:ah H b=some k):ah (H++L) b=some k:=by rw [Qr6 (O_ h),h]
theorem Qfz {H:af} {b:Nat} {x:Option bx} (h:b < H.length):ah (H.set b x) b=x:=by
 cases x<;>simp [ah,h]
theorem Kb {H:af} {b:Nat} {k:bx} (h:ah H b=some k):H.set b (some k)=H:=by
 apply List.ext_getElem?;intro i
 by_cases hi:b=i
 .subst hi
  unfold ah at h
  rcases e:H[b]? with _ | _ | x
  .rw [e] at h;simp at h
  .rw [e] at h;simp at h
  .rw [e] at h;simp at h;subst h
   rw [List.getElem?_set_self (by have:=Z0 e;exact this.1)]
 .rw [List.getElem?_set_ne hi]
@[go_sem] theorem aaw (k:Option bx) (L:af):ah (k::L) 0=k:=by cases k<;>rfl
@[go_sem] theorem aax (k:Option bx) (L:af) (n:Nat):ah (k::L) (n+1)=ah L n:=by simp [ah]
@[go_sem] theorem aay (H L:af) (k:Nat) (x:Option bx):(H++L).set (H.length+k) x=H++L.set k x:=by simp [List.set_append]
@[go_sem] theorem Ut (H L:af) (x:Option bx):(H++L).set H.length x=H++L.set 0 x:=by simp [List.set_append]
@[go_sem] theorem aaz (H L:af) (b k:Nat) (x y:Option bx):(H.set b y++L).set (H.length+k) x=H.set b y++L.set k x:=by simp [List.set_append]
@[go_sem] theorem aaA (H L:af) (b:Nat) (x y:Option bx):(H.set b y++L).set H.length x=H.set b y++L.set 0 x:=by simp [List.set_append]
@[go_sem] theorem aaB (H:af) (b:Nat) (x y:Option bx):(H.set b x).set b y=H.set b y:=by simp
@[go_sem] theorem Qty (H L:af):(H++L).take H.length=H:=by simp
theorem Qzu (H L:af) (x:Option bx):(H++x::L).take (H.length+(L.length+1))=H++x::L:=by
 have:=List.take_length (l:=H++x::L);simpa using this
@[go_sem] theorem Qzv (H L:af) (b:Nat) (x:Option bx):(H.set b x++L).take H.length=H.set b x:=by
 have:=Qty (H.set b x) L;simpa using this
@[go_sem] theorem aaC (H:af) (b:Nat) (x:Option bx):(H.set b x).take H.length=H.set b x:=by
 have:=List.take_length (l:=H.set b x);simpa using this
@[go_sem] theorem aaD (H:af) (a:Addr):gx H a=Q1 (ah H a.block) fun k=>k.cells[a.off]?:=(rfl)
@[go_sem] theorem Qzw (H:af) (a:Addr) (n:Nat):Qx H a n=Q1 (ah H a.block) fun k=>aa (decide (a.off+n<=k.cells.length)) (some ((k.cells.drop a.off).take n)) none:=by
 unfold Qx;congr 1;funext k;rw [XG];cases decide (a.off+n<=k.cells.length)<;>rfl
@[go_sem] theorem Qxs (H:af) (ai:Nat) (a:Addr) (vs:List Value):oL H ai a vs=Q1 (ah H a.block) fun k =>
  aa (!k.ro&&vs.all az&&(vs.all Qu || decide (ai<=a.block))&&decide (a.off+vs.length<=k.cells.length))
   (some (H.set a.block (some { k with cells:=qw k.cells a.off vs }))) none:=by
 unfold oL;congr 1;funext k;rw [XG,XG]
 cases k.ro<;>cases vs.all az<;>cases (vs.all Qu || decide (ai<=a.block))<;>cases decide (a.off+vs.length<=k.cells.length)<;>rfl
@[go_sem] theorem Qxt (k:IntKind) (n:Int):Qu (.int k n)=true:=(rfl)
@[go_sem] theorem Qx4 (b:Bool):Qu (.bool b)=true:=(rfl)
@[go_sem] theorem Qxu (b:ByteArray):Qu (.string b)=true:=(rfl)
@[go_sem] theorem Qxv:Qu (.slice none 0 0)=true:=(rfl)
@[go_sem] theorem Qxw (a:Addr) (n c:Nat):Qu (.slice (some a) n c)=false:=(rfl)
@[go_sem] theorem Qxx (a:Addr):Qu (.pointer (some a))=false:=(rfl)
@[go_sem] theorem Qxy (k:IntKind) (n:Int):az (.int k n)=true:=(rfl)
@[go_sem] theorem Qx5 (b:Bool):az (.bool b)=true:=(rfl)
@[go_sem] theorem Qxz (b:ByteArray):az (.string b)=true:=(rfl)
@[go_sem] theorem Qzx (a:Option Addr) (n c:Nat):az (.slice a n c)=true:=(rfl)
@[go_sem] theorem Qzy (a:Option Addr):az (.pointer a)=true:=(rfl)
def fin (base:Nat) (vs:List Value) (H:af):Option (Value×af):=Q1 (uS .drop base vs H) fun r=>some (iC r.1,r.2)
def Bi:Value->Bool
 | .agg cs=>cs.toList.all Qu
 | v=>Qu v
theorem Q6x (base:Nat) (H:af) (olds:List Nat):∀ l:List Value,l.all Qu=true->A5 base H olds l=some (l,olds)
 | [],_=>rfl
 | v::r,h=>by
  simp only [List.all_cons,Z8] at h
  have hv:B_ base H olds v=some (v,olds):=by
   have h1:=h.1
   unfold B_
   split
   .simp [Qu] at h1
   .simp [Qu] at h1
   .simp [h1]
  simp [A5,hv,Q1,Q6x base H olds r h.2]
theorem Qkl (base:Nat) (H:af) (olds:List Nat) (v:Value) (h:Bi v=true):I7 base H olds v=some (v,olds):=by
 unfold I7
 split
 .rename_i cs
  simp only [Bi] at h
  rw [Q6x _ _ _ _ h];simp [Q1]
 .rename_i hn
  have h1:Qu v=true:=by unfold Bi at h;split at h<;>first | exact h | exact absurd rfl (hn _)
  unfold B_
  split
  .simp [Qu] at h1
  .simp [Qu] at h1
  .simp [h1]
theorem Qa1 (base:Nat) (H:af) (olds:List Nat):∀ l:List Value,l.all Bi=true->vV base H olds l=some (l,olds)
 | [],_=>rfl
 | v::r,h=>by
  simp only [List.all_cons,Z8] at h
  simp [vV,Qkl base H olds v h.1,Q1,Qa1 base H olds r h.2]
@[go_sem] theorem Qzz (base:Nat) (vs:List Value) (H:af) (h:vs.all Bi=true):fin base vs H=some (iC vs,H.take base):=by
 unfold fin uS;simp [Qa1 base H [] vs h,Q1]
@[go_sem] theorem Qy0 (k:IntKind) (n:Int):Bi (.int k n)=true:=(rfl)
@[go_sem] theorem Qx6 (b:Bool):Bi (.bool b)=true:=(rfl)
@[go_sem] theorem Qy1 (b:ByteArray):Bi (.string b)=true:=(rfl)
@[go_sem] theorem Qy2:Bi (.slice none 0 0)=true:=(rfl)
@[go_sem] theorem Qy3 (cs:Array Value):Bi (.agg cs)=cs.toList.all Qu:=(rfl)
@[go_sem] theorem aaE (v:Value):iC [v]=v:=(rfl)
@[go_sem] theorem aaF (u v:Value) (l:List Value):iC (u::v::l)=.tuple (u::v::l).toArray:=(rfl)
@[go_sem] theorem aaG (H:af):H.take H.length=H:=List.take_length
attribute [go_sem] Zf List.length_set Z9 Zb List.append_assoc List.cons_append List.nil_append List.append_nil List.set_cons_zero List.set_cons_succ List.all_cons List.all_nil List.take_succ_cons List.take_zero List.drop_succ_cons List.drop_zero List.take_nil List.drop_nil List.getElem?_cons_zero List.getElem?_cons_succ qw Nat.reduceAdd Nat.reduceLeDiff Nat.reduceLT Nat.reduceMul Nat.add_zero Zo Bool.and_true Zg Bool.not_false Zl Bool.true_or Bool.false_or Bool.or_true Bool.or_false Bool.and_false Bool.false_and decide_true decide_false Nat.add_assoc Nat.zero_mul Nat.one_mul Nat.mul_one
def W (e:Option (Value×af)) (Q:Value->af->Prop):Prop:=∃ v H,e=some (v,H)/\Q v H
def CV (g:Option (Nat×bx)) (G:af):Prop:=∀ c B,g=some (c,B)->B.ro=true/\ah G c=some B
def vZ (g:Option (Nat×bx)) (m:Nat) (k:bx):Prop:=∃ a l e,∃ t s:Int,k=⟨[.slice a l e,.int .i64 t,.int .u64 s],false,none⟩/\0<=t/\t<=m /\
 (l=0\/∃ p B,a=some p/\g=some (p.block,B)/\∀ i,i < l->∃ x:Int,B.cells[p.off+i]? = some (.int .u8 x)/\0<=x/\x < 256)
def Cu (g:Option (Nat×bx)) (m:Nat) (G:af) (b:Nat):Prop:=∃ k,ah G b=some k/\CV g G/\vZ g m k
theorem vZ.mono {g:Option (Nat×bx)} {m n:Nat} {k:bx} (h:vZ g m k) (hn:m<=n):vZ g n k:=by
 obtain ⟨a,l,e,t,s,h1,h2,h3,h4⟩:=h;exact ⟨a,l,e,t,s,h1,h2,by omega,h4⟩
theorem Cu.mono {g:Option (Nat×bx)} {m n:Nat} {G:af} {b:Nat} (h:Cu g m G b) (hn:m<=n):Cu g n G b:=by
 obtain ⟨k,h1,h2,h3⟩:=h;exact ⟨k,h1,h2,h3.mono hn⟩
theorem Cu.lt {g:Option (Nat×bx)} {m:Nat} {G:af} {b:Nat} (h:Cu g m G b):b < G.length:=by
 obtain ⟨k,h1,_,_⟩:=h;exact O_ h1
theorem CV.app {g:Option (Nat×bx)} {G:af} (h:CV g G) (L:af):CV g (G++L) :=
 fun c B e=>⟨(h c B e).1,Mi (h c B e).2⟩
theorem CV.set {g:Option (Nat×bx)} {G:af} (h:CV g G) {b:Nat} {k:bx} (hk:ah G b=some k) (hr:k.ro=false) (x:Option bx):CV g (G.set b x):=by
 intro c B e
 obtain ⟨h1,h2⟩:=h c B e
 refine ⟨h1,?_⟩
 have hbc:b≠c:=by rintro rfl;rw [hk] at h2;injection h2 with h2;subst h2;rw [h1] at hr;exact absurd hr (by decide)
 rw [Qm hbc];exact h2
theorem vZ.ro {g:Option (Nat×bx)} {m:Nat} {k:bx} (h:vZ g m k):k.ro=false:=by
 obtain ⟨a,l,e,t,s,h1,_⟩:=h;subst h1;rfl
theorem Cu.app {g:Option (Nat×bx)} {m:Nat} {G:af} {b:Nat} (h:Cu g m G b) (L:af):Cu g m (G++L) b:=by
 obtain ⟨k,h1,h2,h3⟩:=h;exact ⟨k,Mi h1,h2.app L,h3⟩
theorem Cu.set {g:Option (Nat×bx)} {m n:Nat} {G:af} {b:Nat} {k:bx} (h:Cu g m G b) (hk:vZ g n k):Cu g n (G.set b (some k)) b:=by
 obtain ⟨k0,h1,h2,h3⟩:=h
 exact ⟨k,by rw [Qfz (O_ h1)],h2.set h1 h3.ro _,hk⟩
theorem Cu.step {g:Option (Nat×bx)} {m n:Nat} {G:af} {b:Nat} {k:bx} (h:Cu g m G b) (hk:vZ g n k) (L:af):Cu g n (G.set b (some k)++L) b:=(h.set hk).app L
theorem Cu.new {g:Option (Nat×bx)} {n:Nat} {G:af} {k:bx} (h:CV g G) (hk:vZ g n k) (L:af):Cu g n (G++some k::L) G.length:=by
 refine ⟨k,?_,h.app _,hk⟩
 rw [Qmb];rfl
@[go_sem] theorem Qy4 (k:IntKind) (a:Int):jF (some (.int k a)) (some (.int k a))=true:=by simp [jF,Qa]
@[go_sem] theorem Qx7 (a:Bool):jF (some (.bool a)) (some (.bool a))=true:=by simp [jF,Qa]
@[go_sem] theorem aaH (a:Option Addr) (n c:Nat):jF (some (.slice a n c)) (some (.slice a n c))=true:=by simp [jF,Qa]
theorem Qcy (v:Value) (h:Qu v=true):Qa v v=true:=by
 unfold Qu at h
 split at h<;>simp_all [Qa]
theorem Qa2:∀ l:List Value,l.all Qu=true->A0 l l=true
 | [],_=>rfl
 | v::r,h=>by
  simp only [List.all_cons,Z8] at h
  simp [A0,Qcy v h.1,Qa2 r h.2]
@[go_sem] theorem PO (l:List Value) (h:l.all Qu=true):jF (some (.agg l.toArray)) (some (.agg l.toArray))=true:=by
 simp [jF,Qa2 l h]
attribute [go_sem] Int.reduceBEq Int.reduceBNe Int.reduceLT Int.reduceLE Int.reduceGT Int.reduceGE
def XI (g:Option (Nat×bx)) (a:Option Addr) (l:Nat):Prop :=
 l=0\/∃ p B,a=some p/\g=some (p.block,B)/\∀ i,i < l->∃ x:Int,B.cells[p.off+i]? = some (.int .u8 x)/\0<=x/\x < 256
theorem vZ.new {g:Option (Nat×bx)} {a:Option Addr} {l:Nat} (h:XI g a l) (e:Nat):vZ g 0 ⟨[.slice a l e,.int .i64 0,.int .u64 0],false,none⟩ :=
 ⟨a,l,e,0,0,rfl,by omega,by omega,h⟩
theorem Cu.loc {g:Option (Nat×bx)} {n i:Nat} {G L:af} {k:bx} (h:CV g G) (hk:vZ g n k) (hl:ah L i=some k):Cu g n (G++L) (G.length+i) :=
 ⟨k,by rw [XH];exact hl,h.app _,hk⟩
open Go.Ev Go.ChangeAt Go.RowKit Go.WideShapes Go.ChangeShapes
theorem Qdx {w:World} {a:Addr} {v:Value} (h:w.cell? a=some v):∃ e_ n,w.shape? a.block=some (e_,n)/\a.off < n/\a.spot=none:=by
 unfold World.cell? at h
 unfold World.shape?
 split at h
 .rename_i c e q he
  split at h
  .simp at h
  .rename_i hs
   refine ⟨e,c.size,rfl,?_,by simpa using hs⟩
   rcases Nat.lt_or_ge a.off c.size with h1 | h1
   .exact h1
   .rw [Array.getElem?_eq_none h1] at h;simp at h
 .simp at h
end Go.Ek
namespace Go.Pv
open Go.Ev
inductive Ty where
 | int (k:IntKind)
 | bool
 | str
 | sl (t:Ty)
 | os (t:Ty)
 | pair (a b:Ty)
@[reducible] def Ty.T:Ty->Type
 | .int _=>Int
 | .bool=>Bool
 | .str=>ByteArray
 | .sl t=>List t.T
 | .os t=>List t.T
 | .pair a b=>a.T×b.T
def Ty.size:Ty->Nat
 | .pair a b=>a.size+b.size
 | _=>1
def Ty.beq:Ty->Ty->Bool
 | .int k,.int l=>decide (k=l)
 | .bool,.bool=>true
 | .str,.str=>true
 | .sl a,.sl b=>a.beq b
 | .os a,.os b=>a.beq b
 | .pair a b,.pair c d=>a.beq c&&b.beq d
 | _,_=>false
theorem Ty.beq_eq:∀ {a b:Ty},a.beq b=true->a=b
 | .int k,b,h=>by cases b<;>simp_all [Ty.beq]
 | .bool,b,h=>by cases b<;>simp_all [Ty.beq]
 | .str,b,h=>by cases b<;>simp_all [Ty.beq]
 | .sl a,b,h=>by
  cases b<;>simp only [Ty.beq,Bool.false_eq_true] at h
  rw [Ty.beq_eq h]
 | .os a,b,h=>by
  cases b<;>simp only [Ty.beq,Bool.false_eq_true] at h
  rw [Ty.beq_eq h]
 | .pair a c,b,h=>by
  cases b<;>simp only [Ty.beq,Bool.false_eq_true,Z8] at h
  rw [Ty.beq_eq h.1,Ty.beq_eq h.2]
def fN (a b:Ty) (x:a.T):Option b.T:=if h:a.beq b=true then some ((Ty.beq_eq h)▸x) else none
def Ty.flat:Ty->Bool
 | .sl _=>false
 | .os _=>false
 | .pair a b=>a.flat&&b.flat
 | _=>true
def Ty.jo:Ty->Bool
 | .os t=>t.flat
 | _=>false
def Ty.iD:Ty->Bool
 | .os _=>true
 | _=>false
def Ty.jq:Ty->Bool
 | .sl _=>false
 | .os t=>t.flat || t.jo
 | .pair a b=>a.jq&&b.jq
 | _=>true
def Ty.dx:Ty->Bool
 | .os _=>true
 | .pair a b=>a.dx || b.dx
 | _=>false
abbrev TV:=(t:Ty)×t.T
@[reducible] def ji:List Ty->Type
 | []=>Unit
 | [t]=>t.T
 | t::u::r=>t.T×ji (u::r)
def eX:(ts:List Ty)->ji ts->List TV
 | [],_=>[]
 | [t],x=>[⟨t,x⟩]
 | t::u::r,x=>⟨t,x.1⟩::eX (u::r) x.2
def mL:(ts:List Ty)->List TV->Option (ji ts)
 | [],[]=>some ()
 | [t],[v]=>fN v.1 t v.2
 | t::u::r,v::vs=>Q1 (fN v.1 t v.2) fun x=>Q1 (mL (u::r) vs) fun y=>some (x,y)
 | _,_=>none
inductive PV where
 | int (k:IntKind) (n:Int)
 | bool (b:Bool)
 | str (s:ByteArray)
 | nil
 | vo
 | ro (st:Nat) (t:Ty) (x:List t.T)
 | rp (st:Nat) (t:Ty) (x:t.T)
 | a_ (b off:Nat) (n:Option Nat)
 | ep (b j fo:Nat)
 | ptr (b off:Nat)
 | dp (b off n:Nat) (u:Ty) (k:Nat)
 | fn (f:FuncId) (first cap:List PV)
 | agg (cs:List PV)
 | kn (cs:List PV)
 | undef
 | hole
 | rw (b i aA:Nat) (t:Ty) (x:List t.T)
 | rq (b aA:Nat) (t:Ty) (x:t.T)
 | mp (b:Nat)
inductive Body where
 | cells (cs:List PV)
 | arr (t:Ty) (xs:List t.T)
 | rows (t:Ty) (xs:List (List t.T)) (h:Option Nat)
 | mp (es:List (Int×Int))
def EF:(u:Ty)->List u.T->Body
 | .os t,xs=>match t.flat with
  | true=>.rows t xs none
  | false=>.arr (.os t) xs
 | .int k,xs=>.arr (.int k) xs
 | .bool,xs=>.arr .bool xs
 | .str,xs=>.arr .str xs
 | .sl t,xs=>.arr (.sl t) xs
 | .pair a b,xs=>.arr (.pair a b) xs
structure VB where
 aA:Nat
 rw:Bool
 body:Body
structure LS where
 bl:List (Option VB)
 ct:Nat
abbrev bA:=List (Nat×PV)
def dr:bA->Nat->Option PV
 | [],_=>none
 | (s,v)::r,t=>match Nat.beq s t with | true=>some v | false=>dr r t
def Qi (L:LS) (b:Nat):Option VB:=match L.bl[b]? with | some (some k)=>some k | _=>none
def cP (L:LS) (b:Nat) (B:VB):LS:=⟨L.bl.set b (some B),L.ct⟩
def mz (L:LS) (b:Nat):LS:=⟨L.bl.set b none,L.ct⟩
def Qv (L:LS) (B:Body):LS:=⟨L.bl++[some ⟨0,true,B⟩],L.ct⟩
def mw:PV->List PV
 | .agg cs=>cs
 | v=>[v]
def okV:PV->Bool
 | .fn _ _ _=>false
 | .undef=>false
 | .kn _=>false
 | .hole=>false
 | .mp _=>false
 | _=>true
def ic:PV->Bool
 | .agg _=>false
 | v=>okV v
def fU (st:Nat):(t:Ty)->t.T->List PV
 | .int k,x=>[.int k x]
 | .bool,x=>[.bool x]
 | .str,x=>[.str x]
 | .sl t,x=>[.ro st t x]
 | .os _,_=>[.hole]
 | .pair a b,x=>fU st a x.1++fU st b x.2
def ku:Ty->List PV->PV
 | .pair _ _,l=>.agg l
 | _,[v]=>v
 | _,_=>.undef
def sub:(t u:Ty)->Nat->t.T->Option u.T
 | .pair a b,u,o,x=>match Nat.beq o 0,Ty.beq (.pair a b) u with
  | true,true=>fN (.pair a b) u x
  | _,_=>match Nat.blt o a.size with
   | true=>sub a u o x.1
   | false=>sub b u (o - a.size) x.2
 | t,u,o,x=>match Nat.beq o 0 with
  | true=>fN t u x
  | false=>none
def Bj:(t u:Ty)->Nat->t.T->u.T->Option t.T
 | .pair a b,u,o,x,y=>match Nat.beq o 0,Ty.beq (.pair a b) u with
  | true,true=>fN u (.pair a b) y
  | _,_=>match Nat.blt o a.size with
   | true=>Q1 (Bj a u o x.1 y) fun z=>some (z,x.2)
   | false=>Q1 (Bj b u (o - a.size) x.2 y) fun z=>some (x.1,z)
 | t,u,o,_,y=>match Nat.beq o 0 with
  | true=>fN u t y
  | false=>none
def cut {α:Type} (xs:List α) (off:Nat):Option Nat->List α
 | none=>xs.drop off
 | some n=>(xs.drop off).take n
def kq (L:LS) (v:PV) (t:Ty):Option (List t.T) :=
 match v with
 | .nil=>some []
 | .ro _ u x=>fN (.sl u) (.sl t) x
 | .a_ b off n=>match Qi L b with
  | some ⟨_,_,.arr u xs⟩=>fN (.sl u) (.sl t) (cut xs off n)
  | some ⟨_,true,.rows u xs none⟩=>fN (.sl (.sl u)) (.sl t) (cut xs off n)
  | _=>none
 | .rw b _ aA u x=>match Qi L b with
  | some ⟨v,true,.rows _ _ _⟩=>match Nat.beq v aA with
   | true=>fN (.sl u) (.sl t) x
   | false=>none
  | _=>none
 | _=>none
def cL (L:LS) (b:Nat):LS :=
 match Qi L b with
 | some ⟨v,true,.arr t xs⟩=>cP L b ⟨v+1,false,.arr t xs⟩
 | some ⟨v,true,.rows t xs none⟩=>cP L b ⟨v+1,false,.arr (.sl t) xs⟩
 | _=>L
def freeze (L:LS):PV->LS
 | .a_ b _ _=>cL L b
 | _=>L
def P4:PV->Bool
 | .rw _ _ _ _ _=>false
 | _=>true
def refl (fz:Bool):(t:Ty)->List PV->LS->Option (t.T×LS)
 | .int k,cs,L=>match cs with
  | [.int k' n]=>if k'=k then some (n,L) else none
  | _=>none
 | .bool,cs,L=>match cs with
  | [.bool b]=>some (b,L)
  | _=>none
 | .str,cs,L=>match cs with
  | [.str s]=>some (s,L)
  | _=>none
 | .sl t,cs,L=>match cs with
  | [v]=>Q1 (kq L v t) fun x=>match !fz || P4 v with
   | true=>some (x,match fz with | true=>freeze L v | false=>L)
   | false=>none
  | _=>none
 | .os _,_,_=>none
 | .pair a b,cs,L=>Q1 (refl fz a (cs.take a.size) L) fun r=>Q1 (refl fz b (cs.drop a.size) r.2) fun q=>some ((r.1,q.1),q.2)
def qI (u:Ty) (v:PV) (L:LS):Option (List u.T×LS) :=
 match v with
 | .nil=>some ([],L)
 | .a_ b off no=>match Qi L b with
  | some ⟨_,true,.arr w xs⟩=>match w.iD with
   | true=>none
   | false=>Q1 (fN (.sl w) (.sl u) (cut xs off no)) fun x=>some (x,mz L b)
  | some ⟨_,true,.rows w xs none⟩=>match off,no with
   | 0,none=>Q1 (fN (.sl (.os w)) (.sl u) xs) fun x=>some (x,mz L b)
   | _,_=>none
  | _=>none
 | .rw b i aA w x=>match Qi L b with
  | some ⟨v,true,.rows t xs none⟩=>match Nat.beq v aA with
   | true=>Q1 (fN (.sl w) (.sl u) x) fun x=>some (x,cP L b ⟨v+1,true,.rows t xs (some i)⟩)
   | false=>none
  | _=>none
 | _=>none
def HM:(t:Ty)->List PV->LS->Option (t.T×LS)
 | .os u,cs,L=>match cs with
  | [v]=>qI u v L
  | _=>none
 | .pair a b,cs,L=>Q1 (HM a (cs.take a.size) L) fun r=>Q1 (HM b (cs.drop a.size) r.2) fun q=>some ((r.1,q.1),q.2)
 | .int k,cs,L=>refl true (.int k) cs L
 | .bool,cs,L=>refl true .bool cs L
 | .str,cs,L=>refl true .str cs L
 | .sl t,cs,L=>refl true (.sl t) cs L
def mT:(t:Ty)->t.T->LS->List PV×LS
 | .os u,x,L=>([.a_ L.bl.length 0 none],Qv L (EF u x))
 | .pair a b,x,L=>((mT a x.1 L).1++(mT b x.2 (mT a x.1 L).2).1,(mT b x.2 (mT a x.1 L).2).2)
 | .int k,x,L=>(fU L.ct (.int k) x,L)
 | .bool,x,L=>(fU L.ct .bool x,L)
 | .str,x,L=>(fU L.ct .str x,L)
 | .sl t,x,L=>(fU L.ct (.sl t) x,L)
def MX:Ty->PV->Bool
 | .pair _ _,.agg _=>true
 | .pair _ _,_=>false
 | _,.agg _=>false
 | _,_=>true
def vb (o:Bool) (t:Ty) (v:PV) (L:LS):Option (TV×LS) :=
 match o with
 | false=>match okV v&&MX t v with
  | true=>Q1 (HM t (mw v) L) fun x=>some (⟨t,x.1⟩,x.2)
  | false=>none
 | true=>match t with
  | .sl u=>Q1 (qI u v L) fun x=>some (⟨.sl u,x.1⟩,x.2)
  | _=>none
def Ju (o:Bool) (v:TV) (L:LS):PV×LS :=
 match o,v with
 | true,⟨.sl u,x⟩=>(.a_ L.bl.length 0 none,Qv L (EF u x))
 | _,⟨t,x⟩=>(ku t (mT t x L).1,(mT t x L).2)
def Jf (t:Ty) (b:Nat) (L:LS):Option (TV×LS) :=
 match Qi L b with
 | some ⟨_,true,.cells cs⟩=>Q1 (HM t cs L) fun x=>some (⟨t,x.1⟩,x.2)
 | _=>none
def Je (t:Ty) (b:Nat) (L:LS):Option TV :=
 match Qi L b with
 | some ⟨_,true,.arr u xs⟩=>match u.iD with
  | true=>none
  | false=>Q1 (fN (.sl u) (.sl t) xs) fun x=>some ⟨.sl t,x⟩
 | _=>none
def EP:Ty:=.os (.sl (.pair (.int .i64) (.int .i64)))
def PW (t:Ty) (b:Nat) (L:LS):Option TV :=
 match Qi L b with
 | some ⟨_,true,.mp es⟩=>Q1 (fN (.sl EP) (.sl t) [[es]]) fun x=>some ⟨.sl t,x⟩
 | some ⟨_,true,.rows u xs none⟩=>Q1 (fN (.sl (.os u)) (.sl t) xs) fun x=>some ⟨.sl t,x⟩
 | _=>Je t b L
def CN (b:Nat) (v:TV) (L:LS):Option LS :=
 match Qi L b with
 | some ⟨n,true,.cells cs⟩=>match Nat.beq cs.length v.1.size with
  | true=>some (cP L b ⟨n+1,true,.cells (fU L.ct v.1 v.2)⟩)
  | false=>none
 | _=>none
def PE (b:Nat) (v:TV) (L:LS):Option LS :=
 match v.1.dx with
 | false=>some L
 | true=>match Qi L b with
  | some ⟨n,true,.cells _⟩=>some (cP (mT v.1 v.2 L).2 b ⟨n+1,true,.cells (mT v.1 v.2 L).1⟩)
  | _=>none
def CL (b:Nat) (v:TV) (L:LS):Option LS :=
 match Qi L b,v with
 | some ⟨n,true,.arr u xs⟩,⟨.sl t,x⟩=>match Ty.beq u t with
  | true=>some (cP L b ⟨n+1,true,.arr t x⟩)
  | false=>none
 | _,_=>none
def BV:List (List (List (Int×Int)))->List (Int×Int)
 | [[es]]=>es
 | _=>[]
def HV (b:Nat) (v:TV) (L:LS):Option LS :=
 match v with
 | ⟨.sl (.os (.sl (.pair (.int .i64) (.int .i64)))),x⟩=>match Qi L b with
  | some ⟨n,true,.mp _⟩=>some (cP L b ⟨n+1,true,.mp (BV x)⟩)
  | _=>none
 | v=>match Qi L b,v with
  | some ⟨n,true,.rows u xs none⟩,⟨.sl (.os t),x⟩=>match Ty.beq u t with
   | true=>some (cP L b ⟨n+1,true,.rows t x none⟩)
   | false=>none
  | _,v=>CL b v L
inductive PM where
 | ro
 | mv
 | io
 | ps
 | cl (g:FuncId)
structure oy where
 params:List (PM×Ty)
 results:List (Bool×Ty)
def HQ:List (PM×Ty)->List Ty
 | []=>[]
 | (.io,t)::r=>t::HQ r
 | (.ps,t)::r=>t::HQ r
 | _::r=>HQ r
def oy.eE (s:oy):List Ty:=s.params.map (·.2)
def oy.cQ (s:oy):List Ty:=s.results.map (·.2)++HQ s.params
def oy.al (s:oy):Bool :=
 (s.results.any fun r=>match r with | (true,.sl t) => !(t.flat || t.jo) | (_,t) => !t.jq) ||
 (s.params.any fun p=>match p with | (.ps,t) => !t.jq | (.io,.sl t) => !t.flat | (.mv,.sl t) => !(t.flat || t.jo) | _=>false)
structure gm where
 bH:List (Nat×Bool×Ty)
 Em:List (Nat×Ty)
 abs:List (Nat×Ty)
 fzs:List Nat
def gm.zL (a:gm):List Ty:=(a.bH.map fun s=>s.2.2)++((a.Em.map fun s=>s.2)++(a.abs.map fun s=>Ty.sl s.2))
structure cH where
 fuel:Nat
 sig:FuncId->oy
 loops:FuncId->Nat->gm
 jl:FuncId->Nat->List (Nat×Value)
 inline:FuncId->Bool
 own:FuncId->Bool
 ext:FuncId->Option (List Value->Nat->Go.Ev.af->Option (Value×Go.Ev.af))
 vc:(f:FuncId)->Option (ji (sig f).eE->Option (ji (sig f).cQ))
structure mN (A:cH) (β:Type) where
 P:Program
 call:(f:FuncId)->ji (A.sig f).eE->Option (ji (A.sig f).cQ)
 inl:FuncId->List PV->LS->(PV->LS->Option β)->Option β
 nt:Nat
 own:Bool
 cO:Nat->gm
 eV:Nat->List (Nat×Value)
def Au:Value->Option PV
 | .bool b=>some (.bool b)
 | .int k n=>some (.int k n)
 | .string s=>some (.str s)
 | .pointer none=>some .vo
 | .slice none 0 0=>some .nil
 | _=>none
def vY:List Value->Option (List PV)
 | []=>some []
 | v::r=>Q1 (Au v) fun x=>Q1 (vY r) fun l=>some (x::l)
def P5:Value->Option PV
 | .agg cs=>Q1 (vY cs.toList) fun l=>some (.agg l)
 | v=>Au v
def er (env:bA):Operand->Option PV
 | .tmp t=>dr env t
 | .const v=>P5 v
 | .func f=>some (.fn f [] [])
 | .global _=>none
def ET (env:bA):List Operand->Option (List PV)
 | []=>some []
 | x::r=>Q1 (er env x) fun v=>Q1 (ET env r) fun l=>some (v::l)
def JI (env:bA):List (Nat×Operand)->Option (List (Nat×PV))
 | []=>some []
 | (i,x)::r=>Q1 (er env x) fun v=>Q1 (JI env r) fun l=>some ((i,v)::l)
def Nw:PV->Option Value
 | .int k n=>some (.int k n)
 | .bool b=>some (.bool b)
 | .str s=>some (.string s)
 | _=>none
def Nx:List PV->Option (List Value)
 | []=>some []
 | v::r=>Q1 (Nw v) fun x=>Q1 (Nx r) fun l=>some (x::l)
def sc:PV->Option Value
 | .agg cs=>Q1 (Nx cs) fun l=>some (.agg l.toArray)
 | v=>Nw v
def XJ:Value->PV
 | .int k n=>.int k n
 | .bool b=>.bool b
 | .string s=>.str s
 | _=>.undef
def ES:Nat->Ty->Ty
 | 0,u=>u
 | 1,u=>u
 | n+2,u=>.pair u (ES (n+1) u)
def qD (g:TypeId->Option Ty):List Field->Option Ty
 | []=>none
 | [f]=>g f.type
 | f::h::r=>Q1 (g f.type) fun a=>Q1 (qD g (h::r)) fun b=>some (.pair a b)
def ju (P:Program):Nat->TypeId->Option Ty
 | 0,_=>none
 | n+1,t=>match P.underlying t with
  | some .bool=>some .bool
  | some (.int k)=>some (.int k)
  | some .string=>some .str
  | some (.slice e)=>Q1 (ju P n e) fun u=>some (.sl u)
  | some (.struct fs)=>match fs.toList with
   | f::h::r=>qD (ju P n) (f::h::r)
   | _=>none
  | some (.array k e)=>Q1 (ju P n e) fun u=>match Nat.ble 2 k&&u.flat with
   | true=>some (ES k u)
   | false=>none
  | _=>none
def JJ:Value->PV->Bool
 | .int k _,.int k' _=>decide (k'=k)
 | .int _ _,_=>false
 | .bool _,.bool _=>true
 | .bool _,_=>false
 | .string _,.str _=>true
 | .string _,_=>false
 | .slice _ _ _,.nil=>true
 | .slice _ _ _,.ro _ _ _=>true
 | .slice _ _ _,.a_ _ _ _=>true
 | .slice _ _ _,.rw _ _ _ _ _=>true
 | .slice _ _ _,_=>false
 | .pointer none,.vo=>true
 | .pointer _,.ptr _ _=>true
 | .pointer _,.ep _ _ _=>true
 | .pointer _,.rp _ _ _=>true
 | .pointer _,.rq _ _ _ _=>true
 | .pointer _,.dp _ _ _ _ _=>true
 | .pointer _,_=>false
 | .nilFunc,.fn _ _ _=>true
 | .nilFunc,_=>false
 | .map none,.mp _=>true
 | _,_=>false
def JK:List Value->List PV->Bool
 | [],[]=>true
 | t::ts,v::vs=>JJ t v&&JK ts vs
 | _,_=>false
def mV:Value->PV->Bool
 | .agg zs,.agg cs=>JK zs.toList cs
 | .agg _,_=>false
 | t,v=>JJ t v
def JL:List Value->List PV->Bool
 | [],[]=>true
 | t::ts,v::vs=>mV t v&&JL ts vs
 | _,_=>false
def CO:Value->PV->Bool
 | .tuple zs,.kn cs=>JL zs.toList cs
 | .tuple _,_=>false
 | t,v=>mV t v
def Ni (l:List PV) (off:Nat) (vs:List PV):List PV:=l.take off++vs++l.drop (off+vs.length)
def JC (place:Nat->Option (Nat×Nat)) (cells:List PV):List (Nat×PV)->Option (List PV)
 | []=>some cells
 | (i,v)::r=>match place i with
  | none=>none
  | some (off,size)=>match okV v,Nat.beq (mw v).length size,Nat.ble (off+(mw v).length) cells.length with
   | true,true,true=>JC place (Ni cells off (mw v)) r
   | _,_,_=>none
section ops
variable {A:cH} {β:Type}
def HE (v:PV) (K:Nat->Option β):Option β:=match v with | .int .i64 n=>aa (decide (0<=n)) (K n.toNat) none | _=>none
def oF (v:PV) (K:Nat->Option β):Option β:=match v with | .int _ n=>aa (decide (0<=n)) (K n.toNat) none | _=>none
def Ah (env:bA) (x:Option Operand) (K:Option Nat->Option β):Option β :=
 match x with
 | none=>K none
 | some y=>Q1 (er env y) fun v=>HE v fun n=>K (some n)
def P0 (off k:Nat):Nat:=match off with | 0=>k | o+1=>o+1+k
def CP (v:PV) (K:Nat->Option β):Option β:=match v with | .mp b=>K b | _=>none
def Ar (v:PV) (K:Int->Option β):Option β:=match v with | .int .i64 n=>K n | _=>none
def lmap (L:LS) (b:Nat):Option (Nat×List (Int×Int)):=match Qi L b with | some ⟨aA,true,.mp es⟩=>some (aA,es) | _=>none
def XK (ok:Bool) (x:Option Int):PV:=match ok with
 | true=>.kn [.int .i64 (x.getD 0),.bool x.isSome]
 | false=>.int .i64 (x.getD 0)
def iP (L:LS) (v:PV):Option Nat :=
 match v with
 | .nil=>some 0
 | .ro _ _ x=>some x.length
 | .a_ _ _ (some n)=>some n
 | .a_ b off none=>match Qi L b with
  | some ⟨_,_,.arr _ xs⟩=>some (xs.length - off)
  | some ⟨_,_,.rows _ xs _⟩=>match off with
   | 0=>some xs.length
   | _=>none
  | _=>none
 | .rw _ _ _ _ x=>some x.length
 | _=>none
def Nj (P:Program) (t:TypeId) (cs:List PV) (off:Nat):Option PV :=
 Q1 (P.info? t) fun i=>match P.underlying t with
  | some (.struct _)=>match Nat.ble (off+i.size) cs.length with
   | true=>some (.agg ((cs.drop off).take i.size))
   | false=>none
  | some (.array _ _)=>match Nat.ble (off+i.size) cs.length with
   | true=>some (.agg ((cs.drop off).take i.size))
   | false=>none
  | some _=>cs[off]?
  | none=>none
def Ia (u:Ty):Nat->List PV->LS->Option (List u.T)
 | 0,_,_=>some []
 | n+1,cs,L=>Q1 (refl false u (cs.take u.size) L) fun x=>Q1 (Ia u n (cs.drop u.size) L) fun r=>some (x.1::r)
def P3:(n:Nat)->(u:Ty)->List u.T->Option (ES n u).T
 | 0,_,_=>none
 | 1,_,l=>match l with
  | [x]=>some x
  | _=>none
 | n+2,u,l=>match l with
  | x::r=>Q1 (P3 (n+1) u r) fun y=>some (x,y)
  | []=>none
def Nt (n:Nat) (u:Ty) (xs:List u.T) (k:Nat) (y:u.T):Option (ES n u).T:=match Nat.blt k xs.length with
 | true=>P3 n u (xs.set k y)
 | false=>none
noncomputable def both (x y:Option β):Option β:=@ite _ (x=y) (Classical.propDecidable _) x none
noncomputable def IB (n:Nat) (a b:Option β):Option β:=match n with
 | 0=>both a b
 | _+1=>b
def Xl (P:Program) (op:BinOp) (t:TypeId) (L:LS) (v u:PV):Option (Option Nat×Bool) :=
 match u,P.underlying t,op with
 | .nil,some (.slice _),.eql=>match v with
  | .nil=>some (none,false)
  | v=>Q1 (iP L v) fun n=>some (some n,false)
 | .nil,some (.slice _),.neq=>match v with
  | .nil=>some (none,true)
  | v=>Q1 (iP L v) fun n=>some (some n,true)
 | _,_,_=>none
def Jj (L:LS) (v:PV) (lo hi:Option Nat) (K:PV->Option β):Option β :=
 match v with
 | .nil=>match lo,hi with
  | none,none=>K .nil
  | some l,none=>aa (Nat.ble l 0) (K .nil) none
  | none,some h=>aa (Nat.ble h 0) (K .nil) none
  | some l,some h=>aa (Nat.ble l h&&Nat.ble h 0) (K .nil) none
 | .ro st t x=>match lo,hi with
  | none,none=>K (.ro st t x)
  | some l,none=>aa (Nat.ble l x.length) (K (.ro st t (x.drop l))) none
  | none,some h=>aa (Nat.ble h x.length) (K (.ro st t (x.take h))) none
  | some l,some h=>aa (Nat.ble l h&&Nat.ble h x.length) (K (.ro st t ((x.take h).drop l))) none
 | .rw b i aA t x=>match lo,hi with
  | none,none=>K (.rw b i aA t x)
  | some l,none=>aa (Nat.ble l x.length) (K (.rw b i aA t (x.drop l))) none
  | none,some h=>aa (Nat.ble h x.length) (K (.rw b i aA t (x.take h))) none
  | some l,some h=>aa (Nat.ble l h&&Nat.ble h x.length) (K (.rw b i aA t ((x.take h).drop l))) none
 | .a_ b off n=>match Qi L b with
  | some ⟨_,_,.arr _ _⟩=>Q1 (iP L (.a_ b off n)) fun m=>match lo,hi with
   | none,none=>K (.a_ b off n)
   | some l,none=>aa (Nat.ble l m) (K (match n with | none=>.a_ b (off+l) none | some k=>.a_ b (off+l) (some (k - l)))) none
   | none,some h=>aa (Nat.ble h m) (K (.a_ b off (some h))) none
   | some l,some h=>aa (Nat.ble l h&&Nat.ble h m) (K (.a_ b (off+l) (some (h - l)))) none
  | _=>none
 | _=>none
def MP (u:Ty) (bytes:Nat) (s:PV) (ys:List u.T) (L:LS) (K:PV->LS->Option β):Option β :=
 match s with
 | .nil=>aa (Nat.ble (ys.length*bytes) Q7) (K (.a_ L.bl.length 0 none) (Qv L (.arr u ys))) none
 | .a_ b off no=>match Qi L b with
  | some ⟨_,true,.arr w xs⟩=>Q1 (fN (.sl w) (.sl u) (cut xs off no)) fun x =>
   aa (Nat.ble ((x.length+ys.length)*bytes) Q7) (K (.a_ L.bl.length 0 none) (Qv (mz L b) (.arr u (x++ys)))) none
  | _=>none
 | .rw b i aA w x=>match Qi L b with
  | some ⟨v,true,.rows t xs none⟩=>match Nat.beq v aA with
   | true=>Q1 (fN (.sl w) (.sl u) x) fun x =>
    aa (Nat.ble ((x.length+ys.length)*bytes) Q7) (K (.a_ L.bl.length 0 none) (Qv (cP L b ⟨v+1,true,.rows t xs (some i)⟩) (.arr u (x++ys)))) none
   | false=>none
  | _=>none
 | _=>none
def MS (L:LS) (t:Ty):PV->Option (List (List t.T)×LS)
 | .a_ b 0 none=>match Qi L b with
  | some ⟨_,true,.rows u xs none⟩=>Q1 (fN (.sl (.os u)) (.sl (.os t)) xs) fun x=>some (x,mz L b)
  | _=>none
 | _=>none
def Jm (L:LS):PV->Bool
 | .a_ b _ _=>match Qi L b with
  | some ⟨_,_,.rows _ _ _⟩=>true
  | _=>false
 | _=>false
def Wx (t:Ty) (bytes:Nat) (s:PV) (ys:List (List t.T)) (L:LS) (K:PV->LS->Option β):Option β :=
 match s with
 | .nil=>aa (Nat.ble (ys.length*bytes) Q7) (K (.a_ L.bl.length 0 none) (Qv L (.rows t ys none))) none
 | s=>Q1 (MS L t s) fun x=>aa (Nat.ble ((x.1.length+ys.length)*bytes) Q7) (K (.a_ x.2.bl.length 0 none) (Qv x.2 (.rows t (x.1++ys) none))) none
def HH (s:ByteArray):List Int:=s.data.toList.map fun b=>(b.toNat:Int)
def Nv (l:List Int):ByteArray:=⟨(l.map fun n=>UInt8.ofNat n.toNat).toArray⟩
def mI {α:Type} (xs:List α) (off n:Nat) (ys:List α):List α:=xs.take off++ys.take n++xs.drop (off+min ys.length n)
def sG:(t:Ty)->t.T
 | .int _=>(0:Int)
 | .bool=>false
 | .str=>⟨#[]⟩
 | .sl _=>[]
 | .os _=>[]
 | .pair a b=>(sG a,sG b)
def Bg:Ty->List PV->Bool
 | .int k,l=>match l with
  | [.int k' n]=>decide (k'=k)&&(n==0)
  | _=>false
 | .bool,l=>match l with
  | [.bool b] => !b
  | _=>false
 | .str,l=>match l with
  | [.str s]=>s.data.toList.isEmpty
  | _=>false
 | .sl _,l=>match l with
  | [.nil]=>true
  | _=>false
 | .os _,_=>false
 | .pair a b,l=>Bg a (l.take a.size)&&Bg b (l.drop a.size)
def HY (z:Value) (t:Ty):Bool:=match vY z.cells.toList with
 | some l=>Bg t l
 | none=>false
def MK {α:Type} (xs:List α) (i:Nat) (x:α):Option (List α):=match Nat.blt i xs.length with | true=>some (xs.set i x) | false=>none
def Ez (u:Ty) (xs:List u.T):List (Nat×PV)->LS->Option (List u.T×LS)
 | [],L=>some (xs,L)
 | (i,v)::r,L=>match okV v with
  | true=>Q1 (refl true u (mw v) L) fun x=>Q1 (MK xs i x.1) fun ys=>Ez u ys r x.2
  | false=>none
def Py (L:LS) (src:PV) (w:Ty):Option (List w.T) :=
 match src with
 | .str q=>match w with
  | .int .u8=>some (HH q)
  | _=>none
 | v=>match Jm L v with
  | true=>none
  | false=>kq L v w
def WD (P:Program) (b:Builtin) (ts:List TypeId) (vs:List PV) (L:LS) (K:PV->LS->Option β):Option β :=
 match b,ts,vs with
 | .len,[t],[.str s]=>match P.underlying t with
  | some .string=>K (.int .i64 s.size) L
  | _=>none
 | .len,[t],[v]=>match P.underlying t with
  | some (.slice _)=>Q1 (iP L v) fun n=>K (.int .i64 n) L
  | _=>none
 | .cap,[t],[.nil]=>match P.underlying t with
  | some (.slice _)=>K (.int .i64 0) L
  | _=>none
 | .min,_,[.int k x,.int k' y]=>if k=k' then K (.int k (if y < x then y else x)) L else none
 | .max,_,[.int k x,.int k' y]=>if k=k' then K (.int k (if y > x then y else x)) L else none
 | .append,[t,u],[s,x]=>Q1 (oI P t) fun (e,size,bytes,z)=>Q1 (ju P 8 e) fun w=>match Nat.beq w.size size with
  | true=>match P.underlying u,x with
   | some .string,.str q=>match w with
    | .int .u8=>MP (.int .u8) bytes s (HH q) L K
    | _=>none
   | some (.slice _),x=>match Jm L x,w with
    | true,.sl t=>Q1 (MS L t x) fun y=>Wx t bytes s y.1 y.2 K
    | _,_=>Q1 (kq L x w) fun ys=>MP w bytes s ys L K
   | some (.int _),.int _ l=>match HY z w with
    | true=>aa (decide (0<=l)&&decide (l*bytes<=Q7)) (MP w bytes s (List.replicate l.toNat (sG w)) L K) none
    | false=>none
   | _,_=>none
  | false=>none
 | .copy,[t,_],[.a_ b off no,src]=>Q1 (oI P t) fun (e,size,_,_)=>Q1 (ju P 8 e) fun w=>match Nat.beq w.size size with
  | true=>Q1 (Py L src w) fun ys=>Q1 (iP L (.a_ b off no)) fun m=>match Qi L b with
   | some ⟨aA,true,.arr u xs⟩=>Q1 (fN (.sl u) (.sl w) xs) fun x=>K (.int .i64 ((min ys.length m:Nat):Int)) (cP L b ⟨aA+1,true,.arr w (mI x off m ys)⟩)
   | _=>none
  | false=>none
 | _,_,_=>none
def jV:List (PM×Ty)->List PV->List Nat->LS->Option (List (Option TV)×List Nat×LS)
 | [],[],aQ,L=>some ([],aQ,L)
 | (m,t)::ps,v::vs,aQ,L=>match m with
  | .ro=>Q1 (jV ps vs aQ L) fun r=>some (none::r.1,r.2.1,r.2.2)
  | .mv=>match v with
   | .a_ b _ _=>match aQ.contains b with
    | true=>none
    | false=>Q1 (vb true t v L) fun x=>Q1 (jV ps vs aQ x.2) fun r=>some (some x.1::r.1,r.2.1,r.2.2)
   | .rw b _ _ _ _=>match aQ.contains b with
    | true=>none
    | false=>Q1 (vb true t v L) fun x=>Q1 (jV ps vs aQ x.2) fun r=>some (some x.1::r.1,r.2.1,r.2.2)
   | v=>Q1 (vb true t v L) fun x=>Q1 (jV ps vs aQ x.2) fun r=>some (some x.1::r.1,r.2.1,r.2.2)
  | .io=>match t,v with
   | .sl u,.a_ b 0 none=>match aQ.contains b with
    | true=>none
    | false=>Q1 (Je u b L) fun x=>Q1 (jV ps vs (b::aQ) L) fun r=>some (some x::r.1,r.2.1,r.2.2)
   | _,_=>none
  | .ps=>match v with
   | .ptr b 0=>match aQ.contains b with
    | true=>none
    | false=>Q1 (Jf t b L) fun x=>Q1 (jV ps vs (b::aQ) x.2) fun r=>some (some x.1::r.1,r.2.1,r.2.2)
   | _=>none
  | .cl g=>match v with
   | .fn f [] []=>match Nat.beq f g with
    | true=>Q1 (jV ps vs aQ L) fun r=>some (some ⟨.bool,false⟩::r.1,r.2.1,r.2.2)
    | false=>none
   | _=>none
 | _,_,_,_=>none
def Qx9 (aQ:List Nat) (cs:List PV):Bool:=cs.all fun v=>match v with | .a_ b _ _ => !aQ.contains b | .rw b _ _ _ _ => !aQ.contains b | _=>true
def Ao (al:Bool) (aQ:List Nat):List (PM×Ty)->List PV->List (Option TV)->LS->Option (List TV×LS)
 | [],[],[],L=>some ([],L)
 | (_,t)::ps,v::vs,o::os,L=>match o with
  | some x=>Q1 (Ao al aQ ps vs os L) fun r=>some (x::r.1,r.2)
  | none=>match Qx9 aQ (mw v)&&(okV v&&MX t v) with
   | true=>Q1 (refl al t (mw v) L) fun x=>Q1 (Ao al aQ ps vs os x.2) fun r=>some (⟨t,x.1⟩::r.1,r.2)
   | false=>none
 | _,_,_,_=>none
def HP:List (Bool×Ty)->List TV->LS->Option (List PV×LS)
 | [],[],L=>some ([],L)
 | (o,_)::rs,v::vs,L=>match Ju o v L with
  | (pv,L')=>Q1 (HP rs vs L') fun r=>some (pv::r.1,r.2)
 | _,_,_=>none
def fG:List (PM×Ty)->List PV->List TV->LS->Option LS
 | [],[],[],L=>some L
 | (m,_)::ps,p::as,vs,L=>match m with
  | .io=>match p,vs with
   | .a_ b 0 none,v::vs=>Q1 (CL b v L) fun L'=>fG ps as vs L'
   | _,_=>none
  | .ps=>match p,vs with
   | .ptr b _,v::vs=>Q1 (CN b v L) fun L'=>fG ps as vs L'
   | _,_=>none
  | .ro=>fG ps as vs L
  | .mv=>fG ps as vs L
  | .cl _=>fG ps as vs L
 | _,_,_,_=>none
def HN:List (Nat×TV)->LS->Option LS
 | [],L=>some L
 | (b,v)::r,L=>Q1 (PE b v L) fun L'=>HN r L'
def Bf:List (PM×Ty)->List PV->List TV->List (Nat×TV)
 | (m,_)::ps,p::as,vs=>match m with
  | .io=>match vs with
   | _::vs=>Bf ps as vs
   | []=>[]
  | .ps=>match p,vs with
   | .ptr b _,v::vs=>(b,v)::Bf ps as vs
   | _,_=>[]
  | .ro=>Bf ps as vs
  | .mv=>Bf ps as vs
  | .cl _=>Bf ps as vs
 | _,_,_=>[]
def Ck:List (PM×Ty)->List TV->Nat->List (Nat×TV)
 | (m,_)::ps,v::vs,i=>match m with
  | .ro=>Ck ps vs i
  | .cl _=>Ck ps vs i
  | .mv=>Ck ps vs (i+1)
  | .io=>Ck ps vs (i+1)
  | .ps=>(i,v)::Ck ps vs (i+1)
 | _,_,_=>[]
def Hf (vs:List PV):PV:=match vs with | [v]=>v | vs=>.kn vs
def WV (b i aA:Nat) (w:Ty) (x:List w.T) (L:LS) (K:LS->Nat->Option β):Option β :=
 match Qi L b with
 | some ⟨_,true,.rows _ xs none⟩=>Q1 xs[i]? fun y=>aa (Nat.beq y.length x.length) (Q1 (qI w (.rw b i aA w x) L) fun r=>K (Qv r.2 (.arr w r.1)) r.2.bl.length) none
 | _=>none
def PJ (b i aA:Nat) (w:Ty) (n:Nat) (L:LS) (K:LS->Option β):Option β :=
 Q1 (qI w (.a_ n 0 none) L) fun r=>match Qi r.2 b with
 | some ⟨v,true,.rows e xs _⟩=>match Nat.beq v aA with
  | true=>Q1 (fN (.sl w) (.sl e) r.1) fun z=>K (cP r.2 b ⟨v+1,true,.rows e (xs.set i z) none⟩)
  | false=>none
 | _=>none
def HS (X:mN A β) (f:FuncId) (args:List PV) (L:LS) (K:PV->LS->Option β):Option β :=
 Q1 (jV (A.sig f).params args [] L) fun m=>Q1 (Ao (A.sig f).al m.2.1 (A.sig f).params args m.1 m.2.2) fun r =>
  Q1 (mL (A.sig f).eE r.1) fun a=>Q1 (X.call f a) fun y =>
  Q1 (fG (A.sig f).params args ((eX (A.sig f).cQ y).drop (A.sig f).results.length) r.2) fun L0 =>
  Q1 (HN (Bf (A.sig f).params args ((eX (A.sig f).cQ y).drop (A.sig f).results.length)) L0) fun L' =>
  Q1 (HP (A.sig f).results ((eX (A.sig f).cQ y).take (A.sig f).results.length) L') fun q=>K (Hf q.1) q.2
def Qu3:List (PM×Ty)->Bool
 | (.io,_)::_=>true
 | _=>false
def W0 (X:mN A β) (f:FuncId) (args:List PV) (L:LS) (K:PV->LS->Option β):Option β :=
 match args with
 | .rw b i aA w x::rest=>match Qu3 (A.sig f).params with
  | true=>match w.flat with
   | true=>WV b i aA w x L fun L2 n=>HS X f (.a_ n 0 none::rest) L2 fun u L3=>PJ b i (aA+1) w n L3 fun L4=>K u L4
   | false=>none
  | false=>HS X f (.rw b i aA w x::rest) L K
 | args=>HS X f args L K
def Na (X:mN A β) (f:FuncId) (args:List PV) (L:LS) (K:PV->LS->Option β):Option β :=
 match A.inline f with
 | true=>X.inl f args L K
 | false=>W0 X f args L K
def Xw (L:LS) (b:Nat):Option (Nat×(e:Ty)×List (List e.T)×Option Nat):=match Qi L b with
 | some ⟨aA,true,.rows e xs h⟩=>some (aA,⟨e,xs,h⟩)
 | _=>none
def Qvj (h:Option Nat) (j:Nat) (x:Option β):Option β:=match h with
 | none=>x
 | some i=>aa (Nat.beq i j) x none
def MM (t:Ty) (xs:List (List t.T)):List (Nat×PV)->LS->Option (List (List t.T)×LS)
 | [],L=>some (xs,L)
 | (i,v)::r,L=>Q1 (qI t v L) fun x=>Q1 (MK xs i x.1) fun ys=>MM t ys r x.2
def Xu (P:Program) (t:TypeId):Option (Nat×Ty):=match P.underlying t with
 | some (.array n e)=>match ju P 8 e with
  | some (.sl u)=>match u.flat with
   | true=>some (n,u)
   | false=>none
  | _=>none
 | _=>none
def JG:Nat->List Value->Bool
 | 0,[]=>true
 | n+1,.slice none 0 0::r=>JG n r
 | _,_=>false
def JH:Nat->List PV->Bool
 | 0,[]=>true
 | n+1,.nil::r=>JH n r
 | _,_=>false
def HZ (b aA:Nat) (u:Ty) (xs:List (List u.T)):Nat->Nat->Option (List PV)
 | _,0=>some []
 | i,n+1=>Q1 xs[i]? fun x=>Q1 (HZ b aA u xs (i+1) n) fun l=>some (.rw b i aA u x::l)
def CU {β:Type} (b aA:Nat) (u:Ty) (xs:List (List u.T)):Nat->Nat->(List PV->Option β)->Option β
 | _,0,K=>K []
 | i,n+1,K=>Q1 xs[i]? fun x=>CU b aA u xs (i+1) n fun l=>K (.rw b i aA u x::l)
def Nk (w:Ty) (b aA:Nat):Nat->List PV->Option (List (List w.T))
 | _,[]=>some []
 | i,.rw b' i' vn t x::r=>match Nat.beq b' b&&(Nat.beq i' i&&Nat.beq vn aA) with
  | true=>Q1 (fN (.sl t) (.sl w) x) fun y=>Q1 (Nk w b aA (i+1) r) fun l=>some (y::l)
  | false=>none
 | _,_=>none
def Xo (w:Ty):List PV->Option (Nat×Nat×List (List w.T))
 | .rw b i aA t x::r=>Q1 (Nk w b aA 0 (.rw b i aA t x::r)) fun l=>some (b,aA,l)
 | _=>none
def Qvk (P:Program) (t:TypeId) (x:Operand):Option PV:=match AA P t x with
 | some v=>P5 v
 | none=>none
noncomputable def c_ (X:mN A β) (o:Oper) (env:bA) (L:LS) (K:PV->LS->Option β):Option β :=
 match o.op with
 | .move x=>Q1 (er env x) fun v=>K v L
 | .assign x=>Q1 (er env x) fun v=>K v L
 | .pick c a b=>Q1 (er env c) fun v=>match v with
  | .bool t=>aa t (Q1 (er env a) fun v=>K v L) (Q1 (er env b) fun v=>K v L)
  | _=>none
 | .alloc t=>Q1 (Az X.P t) fun z=>match X.own,Xu X.P t with
  | true,some (n,u)=>match JG n z.cells.toList with
   | true=>K (.ptr L.bl.length 0) (Qv L (.rows u (List.replicate n []) none))
   | false=>none
  | _,_=>Q1 (vY z.cells.toList) fun cs=>K (.ptr L.bl.length 0) (Qv L (.cells cs))
 | .box _ x=>Q1 (er env x) fun v=>match okV v with
  | true=>K (.ptr L.bl.length 0) (Qv L (.cells (mw v)))
  | false=>none
 | .build t parts=>Q1 (JI env parts.toList) fun ps=>match X.P.info? t,X.P.underlying t with
  | some it,some (.struct fs)=>match it.zero,fs.toList.mapM (fun f=>(X.P.info? f.type).map fun i=>(f.offset,i.size)) with
   | some z,some places=>Q1 (vY z.cells.toList) fun zs=>Q1 (JC (places.toArray[·]?) zs ps) fun cs=>K (.agg cs) L
   | _,_=>none
  | some it,some (.array _ e)=>match it.zero,X.P.info? e with
   | some z,some ie=>Q1 (vY z.cells.toList) fun zs=>Q1 (JC (fun i=>some (i*ie.size,ie.size)) zs ps) fun cs=>K (.agg cs) L
   | _,_=>none
  | _,_=>none
 | .buildSlice t len parts=>Q1 (JI env parts.toList) fun ps=>Q1 (oI X.P t) fun (e,size,_,z)=>Q1 (ju X.P 8 e) fun u =>
  match Nat.ble (len*size) 16777216,HY z u,Nat.beq u.size size with
  | true,true,true=>match X.own,u with
   | true,.sl t=>match t.flat with
    | true=>Q1 (MM t (List.replicate len []) ps L) fun x=>K (.a_ x.2.bl.length 0 none) (Qv x.2 (.rows t x.1 none))
    | false=>none
   | _,_=>Q1 (Ez u (List.replicate len (sG u)) ps L) fun x=>K (.a_ x.2.bl.length 0 none) (Qv x.2 (.arr u x.1))
  | _,_,_=>none
 | .load t a=>match Qvk X.P t a with
   | some v=>K v L
   | none=>Q1 (er env a) fun v=>Q1 (X.P.info? t) fun i=>Q1 i.zero fun z=>match X.P.underlying t with
  | none=>none
  | some d=>match v with
   | .rp st u x=>Q1 (ju X.P 8 t) fun w=>Q1 (fN u w x) fun y=>match mV z (ku w (fU st w y)),Nat.beq w.size i.size with
    | true,true=>K (ku w (fU st w y)) L
    | _,_=>none
   | .ep b j fo=>match Qi L b with
    | some ⟨_,_,.arr u xs⟩=>Q1 (ju X.P 8 t) fun w=>Q1 xs[j]? fun x=>Q1 (sub u w fo x) fun y=>match mV z (ku w (fU L.ct w y)),Nat.beq w.size i.size with
     | true,true=>K (ku w (fU L.ct w y)) L
     | _,_=>none
    | some ⟨aA,true,.rows u xs none⟩=>Q1 (ju X.P 8 t) fun w=>Q1 xs[j]? fun x=>match mV z (.rw b j aA u x),Nat.beq fo 0&&Ty.beq w (.sl u) with
     | true,true=>K (.rw b j aA u x) L
     | _,_=>none
    | _=>none
   | .rq b aA u x=>match Qi L b with
    | some ⟨v,true,.rows _ _ _⟩=>match Nat.beq v aA with
     | true=>Q1 (ju X.P 8 t) fun w=>Q1 (fN u w x) fun y=>match mV z (ku w (fU L.ct w y)),Nat.beq w.size i.size&&w.flat with
      | true,true=>K (ku w (fU L.ct w y)) L
      | _,_=>none
     | false=>none
    | _=>none
   | .ptr b off=>match Qi L b with
    | some ⟨_,_,.cells cs⟩=>match d with
     | .struct _=>match Nat.ble (off+i.size) cs.length,mV z (.agg ((cs.drop off).take i.size)) with
      | true,true=>K (.agg ((cs.drop off).take i.size)) L
      | _,_=>none
     | .array _ _=>match Nat.ble (off+i.size) cs.length,mV z (.agg ((cs.drop off).take i.size)) with
      | true,true=>K (.agg ((cs.drop off).take i.size)) L
      | _,_=>none
     | _=>Q1 cs[off]? fun u=>match JJ z u with
      | true=>K u L
      | false=>none
    | some ⟨aA,true,.rows u xs none⟩=>match d with
     | .array n _=>CU b aA u xs 0 n fun l=>match mV z (.agg l),Nat.beq off 0&&Nat.beq i.size n with
      | true,true=>K (.agg l) L
      | _,_=>none
     | _=>none
    | _=>none
   | .dp b off n u k=>match Qi L b with
    | some ⟨_,_,.cells cs⟩=>Q1 (ju X.P 8 t) fun w=>Q1 (Ia u n (cs.drop off) L) fun xs=>Q1 xs[k]? fun x=>Q1 (fN u w x) fun y=>match mV z (ku w (fU L.ct w y)),Nat.beq w.size i.size&&w.flat with
     | true,true=>K (ku w (fU L.ct w y)) L
     | _,_=>none
    | _=>none
   | _=>none
 | .store t a x=>Q1 (er env a) fun v=>Q1 (er env x) fun u=>Q1 (X.P.info? t) fun i=>match Nat.beq (mw u).length i.size&&okV u with
  | true=>match v with
   | .ep b j fo=>match Xw L b with
    | some (aA,⟨e,xs,h⟩)=>match Nat.beq fo 0&&Nat.beq i.size 1 with
         | false=>none
         | true=>match u with
     | .rw b' i' vn e' x=>match Nat.beq b' b&&Nat.beq vn aA,h with
      | true,none=>Q1 (fN (.sl e') (.sl e) x) fun x=>aa (Nat.beq i' j) (Q1 xs[j]? fun _=>K .undef (cP L b ⟨aA+1,true,.rows e (xs.set j x) none⟩)) none
      | _,_=>none
     | u=>Q1 (qI e u L) fun y=>match Qi y.2 b with
      | some ⟨aA,true,.rows e' xs h⟩=>Q1 (fN (.sl e) (.sl e') y.1) fun x=>Qvj h j (Q1 xs[j]? fun _=>K .undef (cP y.2 b ⟨aA+1,true,.rows e' (xs.set j x) none⟩))
      | _=>none
    | none=>Q1 (ju X.P 8 t) fun w=>Q1 (refl true w (mw u) L) fun y=>match Qi y.2 b with
     | some ⟨aA,true,.arr e xs⟩=>Q1 xs[j]? fun x0=>Q1 (Bj e w fo x0 y.1) fun x1=>K .undef (cP y.2 b ⟨aA+1,true,.arr e (xs.set j x1)⟩)
     | _=>none
   | .ptr b off=>match Qi L b with
    | some ⟨aA,true,.cells cs⟩=>match Nat.ble (off+(mw u).length) cs.length with
     | true=>K .undef (cP L b ⟨aA+1,true,.cells (Ni cs off (mw u))⟩)
     | false=>none
    | some ⟨aA,true,.rows e xs none⟩=>match Nat.beq off 0&&JH xs.length (mw u) with
     | true=>K .undef (cP L b ⟨aA+1,true,.rows e (List.replicate (mw u).length []) none⟩)
     | false=>none
    | _=>none
   | .dp b off n w k=>match Qi L b,w.flat with
    | some ⟨aA,true,.cells cs⟩,true=>Q1 (refl false w (mw u) L) fun y=>Q1 (Ia w n (cs.drop off) L) fun xs=>Q1 (Nt n w xs k y.1) fun p =>
     K .undef (cP L b ⟨aA+1,true,.cells (Ni cs off (fU L.ct (ES n w) p))⟩)
    | _,_=>none
   | _=>none
  | false=>none
 | .nilCheck x=>Q1 (er env x) fun v=>match v with
  | .fn f a b=>K (.fn f a b) L
  | .ptr b o=>K (.ptr b o) L
  | .ep b j f=>K (.ep b j f) L
  | .rp s t x=>K (.rp s t x) L
  | .rq b v t x=>K (.rq b v t x) L
  | .dp b o n t k=>K (.dp b o n t k) L
  | _=>none
 | .binOp op t x y _=>Q1 (er env x) fun v=>Q1 (er env y) fun u=>match Xl X.P op t L v u with
  | some (none,neg)=>K (.bool (!neg)) L
  | some (some n,neg)=>IB n (K (.bool (!neg)) L) (K (.bool neg) L)
  | none=>Q1 (sc v) fun v'=>Q1 (sc u) fun u'=>zI X.P op t v' u' fun r=>K (XJ r) L
 | .unOp op _ x=>Q1 (er env x) fun v=>Q1 (sc v) fun v'=>vT op v' fun r=>K (XJ r) L
 | .convert src dst x=>Q1 (er env x) fun v=>match X.P.underlying src,X.P.underlying dst,v with
  | some (.int _),some (.int k),.int _ n=>K (.int k (k.wrap n)) L
  | some .string,some .string,.str s=>K (.str s) L
  | some (.slice e),some .string,v=>match X.P.underlying e with
   | some (.int .u8)=>Q1 (kq L v (.int .u8)) fun l=>K (.str (Nv l)) L
   | _=>none
  | some .string,some (.slice e),.str s=>match X.P.underlying e with
   | some (.int .u8)=>K (.a_ L.bl.length 0 none) (Qv L (.arr (.int .u8) (HH s)))
   | _=>none
  | _,_,_=>none
 | .makeFunc (.func f) first cap=>Q1 (ET env first.toList) fun fs=>Q1 (ET env cap.toList) fun cs=>match fs.all ic&&cs.all ic with
  | true=>K (.fn f fs cs) L
  | false=>none
 | .makeSlice t l c=>Q1 (er env l) fun v=>Q1 (er env c) fun u=>HE v fun n=>HE u fun m =>
  Q1 (oI X.P t) fun (e,size,bytes,z)=>Q1 (ju X.P 8 e) fun w=>match HY z w,Nat.beq w.size size with
   | true,true=>aa (Nat.ble n m&&Nat.ble (m*bytes) Q7) (match X.own,w with
    | true,.sl t=>match t.flat with
     | true=>K (.a_ L.bl.length 0 none) (Qv L (.rows t (List.replicate n []) none))
     | false=>none
    | _,_=>K (.a_ L.bl.length 0 none) (Qv L (.arr w (List.replicate n (sG w))))) none
   | _,_=>none
 | .slice t x lo hi none=>Q1 (er env x) fun v=>match v with
  | .str s=>match X.P.underlying t with
   | some .string=>Ah env hi fun h=>Ah env lo fun l=>aa (Nat.ble (l.getD 0) (h.getD s.size)&&Nat.ble (h.getD s.size) s.size) (K (.str (s.extract (l.getD 0) (h.getD s.size))) L) none
   | _=>none
  | v=>match X.P.underlying t with
   | some (.slice e)=>Q1 (X.P.info? e) fun i=>match Pp L v with
    | some n=>match Nat.beq n i.size with
     | true=>Ah env hi fun h=>Ah env lo fun l=>Jj L v l h fun u=>K u L
     | false=>none
    | none=>Ah env hi fun h=>Ah env lo fun l=>Jj L v l h fun u=>K u L
   | _=>none
 | .fieldAddr s x f=>Q1 (er env x) fun v=>match X.P.underlying s with
  | some (.struct fs)=>Q1 fs[f]? fun fd=>Q1 (X.P.info? fd.type) fun i=>match Nat.beq i.size 0 with
   | true=>none
   | false=>match v with
    | .ptr b off=>K (.ptr b (off+fd.offset)) L
    | .ep b j fo=>K (.ep b j (fo+fd.offset)) L
    | .rp st t x=>Q1 (ju X.P 8 fd.type) fun w=>Q1 (sub t w fd.offset x) fun y=>K (.rp st w y) L
    | .rq b v t x=>Q1 (ju X.P 8 fd.type) fun w=>Q1 (sub t w fd.offset x) fun y=>K (.rq b v w y) L
    | _=>none
  | _=>none
 | .field t x f=>Q1 (er env x) fun v=>match v with
  | .agg cs=>match X.P.underlying t with
   | some (.struct fs)=>Q1 fs[f]? fun fd=>Q1 (Nj X.P fd.type cs fd.offset) fun u=>K u L
   | _=>none
  | _=>none
 | .indexAddr t x ix=>Q1 (er env x) fun v=>Q1 (er env ix) fun j=>match X.P.underlying t with
  | some (.slice e)=>Q1 (X.P.info? e) fun i=>match v with
   | .ro st u l=>match Nat.beq u.size i.size with
    | true=>oF j fun k=>Q1 l[k]? fun y=>K (.rp st u y) L
    | false=>none
   | .a_ b off n=>match Qi L b with
    | some ⟨_,_,.arr u xs⟩=>match Nat.beq u.size i.size with
     | true=>oF j fun k=>Q1 (iP L (.a_ b off n)) fun m=>aa (Nat.blt k m) (K (.ep b (P0 off k) 0) L) none
     | false=>none
    | some ⟨_,_,.rows _ xs _⟩=>match Nat.beq 1 i.size&&(Nat.beq off 0&&n.isNone) with
     | true=>oF j fun k=>aa (Nat.blt k xs.length) (K (.ep b k 0) L) none
     | false=>none
    | _=>none
   | .rw b _ aA u l=>match Nat.beq u.size i.size with
    | true=>oF j fun k=>Q1 l[k]? fun y=>K (.rq b aA u y) L
    | false=>none
   | _=>none
  | some (.array n e)=>Q1 (X.P.info? e) fun i=>Q1 (ju X.P 8 e) fun u=>match v with
   | .ptr b off=>match Qi L b with
    | some ⟨_,_,.rows _ xs _⟩=>match Nat.beq off 0&&Nat.beq 1 i.size with
     | true=>oF j fun k=>aa (Nat.blt k n&&Nat.blt k xs.length) (K (.ep b k 0) L) none
     | false=>none
    | _=>match Nat.beq u.size i.size&&u.flat with
     | true=>oF j fun k=>aa (Nat.blt k n) (K (.dp b off n u k) L) none
     | false=>none
   | _=>none
  | _=>none
 | .index t x ix=>Q1 (er env x) fun v=>Q1 (er env ix) fun j=>match v with
  | .str s=>match X.P.underlying t with
   | some .string=>oF j fun k=>Q1 s.data.toList[k]? fun b=>K (.int .u8 b.toNat) L
   | _=>none
  | .agg cs=>match X.P.underlying t with
   | some (.array n e)=>Q1 (X.P.info? e) fun i=>Q1 (ju X.P 8 e) fun u=>match Nat.beq u.size i.size&&u.flat with
    | true=>Q1 (Ia u n cs L) fun xs=>oF j fun k=>Q1 xs[k]? fun y=>K (ku u (fU L.ct u y)) L
    | false=>match u with
     | .sl w=>Q1 (Xo w cs) fun g=>match Nat.beq i.size 1 with
      | true=>oF j fun k=>aa (Nat.blt k n) (Q1 g.2.2[k]? fun y=>K (.rw g.1 k g.2.1 w y) L) none
      | false=>none
     | _=>none
   | _=>none
  | _=>none
 | .extract x i=>Q1 (er env x) fun v=>match v with
  | .kn vs=>Q1 vs[i]? fun u=>K u L
  | _=>none
 | .call c=>match c.callee with
  | .builtin b=>Q1 (ET env c.args.toList) fun vs=>WD X.P b c.argTypes.toList vs L K
  | .value f=>Q1 (er env f) fun g=>Q1 (ET env c.args.toList) fun vs=>match g with
   | .fn n first cap=>Na X n (first++vs++cap) L fun u L'=>match OP X.P o.type with
    | some tm=>match CO tm u with
     | true=>K u L'
     | false=>none
    | none=>K u L'
   | _=>none
  | _=>none
 | _=>none
where
 Pp (L:LS):PV->Option Nat
  | .ro _ u _=>some u.size
  | .a_ b _ _=>match Qi L b with
   | some ⟨_,_,.arr u _⟩=>some u.size
   | _=>some 0
  | .rw _ _ _ u _=>some u.size
  | _=>none
end ops
section code
variable {A:cH} {β:Type}
def Jw (nt:Nat) (dst:Option Tmp) (v:PV) (env:bA) (K:bA->Option β):Option β :=
 match dst with
 | none=>K env
 | some d=>match Nat.blt d nt with | true=>K ((d,v)::env) | false=>none
def PL (ops:Array Oper) (o:Oper) (env:bA) (K:Bool->bA->Option β):Option β :=
 match o.guard with
 | none=>K true env
 | some (j,want)=>match (ops[j]?).bind (·.dst) with
  | some d=>Q1 (dr env d) fun v=>match v with
   | .bool b=>aa b (K want ((d,.bool true)::env)) (K (!want) ((d,.bool false)::env))
   | .undef=>K false env
   | _=>none
  | none=>none
noncomputable def EL (X:mN A β) (o:Oper) (env:bA) (L:LS) (K:PV->LS->Option β):Option β :=
 match o.op with
 | .makeMap _ none=>K (.mp L.bl.length) (Qv L (.mp []))
 | .mapUpdate t m k v=>match C' X.P t with
  | true=>Q1 (er env m) fun mv=>Q1 (er env k) fun kv=>Q1 (er env v) fun vv=>CP mv fun b=>Ar kv fun a=>Ar vv fun u=>Q1 (lmap L b) fun q=>K .undef (cP L b ⟨q.1+1,true,.mp (gL q.2 a u)⟩)
  | false=>none
 | .lookup t m k ok=>match C' X.P t with
  | true=>Q1 (er env m) fun mv=>Q1 (er env k) fun kv=>CP mv fun b=>Ar kv fun a=>Q1 (lmap L b) fun q=>K (XK ok (ez q.2 a)) L
  | false=>none
 | _=>c_ X o env L K
noncomputable def As (X:mN A β) (ops:Array Oper):List Oper->bA->LS->(bA->LS->Option β)->Option β
 | [],env,L,K=>K env L
 | o::r,env,L,K=>PL ops o env fun t env=>match t with
  | true=>EL X o env L fun v L'=>Jw X.nt o.dst v env fun env=>As X ops r env L' K
  | false=>Jw X.nt o.dst .undef env fun env=>As X ops r env L K
noncomputable def Nb (X:mN A β) (ops:Array Oper):List Oper->bA->LS->List (bA×LS)->(List (bA×LS)->bA->LS->Option β)->Option β
 | [],env,L,tr,K=>K ((env,L)::tr) env L
 | o::r,env,L,tr,K=>PL ops o env fun t env=>match t with
  | true=>c_ X o env L fun v L'=>Jw X.nt o.dst v env fun ak=>Nb X ops r ak L' ((env,L)::tr) K
  | false=>Jw X.nt o.dst .undef env fun ak=>Nb X ops r ak L ((env,L)::tr) K
def Jy (L M:LS) (b:Nat):Bool:=match Qi L b,Qi M b with
 | some x,some y=>Nat.beq x.aA y.aA
 | _,_=>false
def PR:Operand->Bool
 | .tmp _=>true
 | _=>false
def W8 (P:Program) (c0:Nat) (o:Op) (env:bA) (L M:LS):Bool :=
 match o with
 | .load t a=>match AA P t a with
   | some _=>true
   | none=>match er env a with
  | some (.rp st u _)=>Nat.blt st c0&&match P.info? t with | some i=>Nat.beq u.size i.size | none=>true
  | some (.ep b _ _)=>Jy L M b
  | some (.ptr b _)=>Jy L M b
  | some (.dp b _ _ _ _)=>Jy L M b
  | some .undef=>true
  | none=>PR a
  | _=>false
 | .convert _ _ a=>match er env a with
  | some (.ro st _ _)=>Nat.blt st c0
  | some (.a_ b _ _)=>Jy L M b
  | some .nil=>true
  | some .undef=>true
  | none=>PR a
  | _=>false
 | _=>false
def PS (c0:Nat) (P:Program) (ops:Array Oper) (jk:List (bA×LS)) (i:Nat) (o:Oper):List Nat->Bool
 | []=>true
 | m::ms=>((I4 P ops m i || I5 P ops i o m) || match jk[i]?,jk[m]? with
   | some s,some q=>W8 P c0 o.op s.1 s.2 q.2
   | _,_=>false)&&PS c0 P ops jk i o ms
def PT (c0:Nat) (P:Program) (ops:Array Oper) (jk:List (bA×LS)):List Nat->Bool
 | []=>true
 | i::r=>(match Nat.beq (cI P ops i) 1,ops[i]? with
  | true,some o=>PS c0 P ops jk i o (GV P ops i)
  | _,_=>true)&&PT c0 P ops jk r
noncomputable def Xc (X:mN A β) (ops:Array Oper) (env:bA) (L:LS) (K:bA->LS->Option β):Option β :=
 match LH X.P ops with
 | true=>Nb X ops ops.toList env ⟨L.bl,L.ct+1⟩ [] fun tr ak L'=>match PT (L.ct+1) X.P ops tr.reverse (List.range ops.size) with
  | true=>K ak L'
  | false=>none
 | false=>none
def O4 (c:Operand) (b:Bool) (env:bA):bA:=match c with | .tmp d=>(d,.bool b)::env | _=>env
def CR (env:bA):List (Nat×Bool×Ty)->LS->Option (List TV×LS)
 | [],L=>some ([],L)
 | (q,o,t)::r,L=>Q1 (dr env q) fun v=>Q1 (vb o t v L) fun x=>Q1 (CR env r x.2) fun y=>some (x.1::y.1,y.2)
def Ng (env:bA):List (Nat×Ty)->LS->Option (List TV×List Nat×LS)
 | [],L=>some ([],[],L)
 | (q,t)::r,L=>Q1 (dr env q) fun v=>match v with
  | .ptr b 0=>Q1 (Jf t b L) fun x=>Q1 (Ng env r x.2) fun y=>some (x.1::y.1,b::y.2.1,y.2.2)
  | _=>none
def XL (env:bA) (q:Nat) (L:LS):Option Nat :=
 match q / 1000000 with
 | 0=>Q1 (dr env q) fun v=>match v with
  | .a_ b _ _=>some b
  | .ptr b _=>some b
  | .mp b=>some b
  | _=>none
 | k+1=>Q1 (dr env (q % 1000000)) fun v=>match v with
  | .ptr b _=>match Qi L b with
   | some ⟨_,_,.cells cs⟩=>match cs[k]? with
    | some (.a_ c _ _)=>some c
    | some (.mp c)=>some c
    | _=>none
   | _=>none
  | _=>none
def JA (env:bA):List (Nat×Ty)->LS->Option (List TV×List Nat)
 | [],_=>some ([],[])
 | (q,t)::r,L=>Q1 (XL env q L) fun b=>Q1 (PW t b L) fun x=>Q1 (JA env r L) fun y=>some (x::y.1,b::y.2)
def LV (L:LS) (ids:List Nat):Bool:=ids.all fun b=>match Qi L b with | some ⟨_,true,_⟩=>true | _=>false
def LY (a:gm) (env:bA) (L:LS):Option (List TV×List Nat×LS) :=
 Q1 (CR env a.bH L) fun x=>Q1 (Ng env a.Em x.2) fun y=>Q1 (JA env a.abs y.2.2) fun z =>
  match LV y.2.2 (y.2.1++z.2) with
  | true=>some (x.1++(y.1++z.1),y.2.1++z.2,y.2.2)
  | false=>none
def G_:List (Nat×Bool×Ty)->List TV->bA->LS->Option (bA×LS)
 | [],[],env,L=>some (env,L)
 | (q,o,_)::r,v::vs,env,L=>match Ju o v L with
  | (pv,L')=>G_ r vs ((q,pv)::env) L'
 | _,_,_,_=>none
def sk:List Nat->Nat->List TV->LS->Option LS
 | [],_,[],L=>some L
 | b::r,n,v::vs,L=>match n with
  | 0=>Q1 (HV b v L) fun L'=>sk r 0 vs L'
  | m+1=>Q1 (CN b v L) fun L'=>sk r m vs L'
 | _,_,_,_=>none
def G9:List Nat->Nat->List TV->LS->Option LS
 | b::r,n+1,v::vs,L=>Q1 (PE b v L) fun L'=>G9 r n vs L'
 | _,_,_,L=>some L
def G5 (env:bA):List (Nat×Value)->Option bA
 | []=>some []
 | (q,_)::r=>Q1 (dr env q) fun v=>Q1 (G5 env r) fun e=>some ((q,v)::e)
def LU (env:bA):List (Nat×Value)->Bool
 | []=>true
 | (q,t)::r=>(match dr env q with | some v=>mV t v | none=>false)&&LU env r
def Qxd (keep:List (Nat×Value)) (a:gm):Bool:=a.bH.all fun s=>keep.any fun k=>Nat.beq k.1 s.1
def PX:List Nat->Bool
 | []=>true
 | x::r => !r.contains x&&PX r
def A7 (ids:List Nat):Nat->List (Option VB)->List (Option VB)->Bool
 | _,[],_=>true
 | n,none::r,_::s=>A7 ids (n+1) r s
 | n,some x::r,some y::s=>(ids.contains n || Nat.beq x.aA y.aA)&&A7 ids (n+1) r s
 | _,_,_=>false
def PU (env:bA):List Nat->LS->LS
 | [],L=>L
 | q::r,L=>PU env r (match dr env q with | some v=>(mw v).foldl freeze L | none=>L)
def Q8 {σ β:Type} (F:(σ->Option β)->σ->Option β):Nat->σ->Option β
 | 0=>fun _=>none
 | n+1=>F (Q8 F n)
def He:List Nat->List Nat->Bool
 | [],[]=>true
 | a::r,b::s=>Nat.beq a b&&He r s
 | _,_=>false
def Qrf (ops:Array Oper):List Nat:=ops.toList.filterMap (·.dst)
def gr:Code->List Nat
 | .region _ ops _=>Qrf ops
 | .seq a b=>gr a++gr b
 | .cond c a b=>match c with
  | .tmp d=>d::(gr a++gr b)
  | _=>gr a++gr b
 | .block _ c=>gr c
 | .loop c=>gr c
 | _=>[]
def Vj (w:List Nat) (a:gm) (keep:List (Nat×Value)):Bool:=(keep.all fun k=>(a.bH.any fun s=>Nat.beq s.1 k.1) || !w.contains k.1)&&a.bH.all fun s=>w.contains s.1
noncomputable def iL (X:mN A β):Code->Nat->bA->LS->(eD->bA->LS->Option β)->Option β
 | .skip,_,env,L,K=>K .normal env L
 | .label _,_,env,L,K=>K .normal env L
 | .region _ ops d,_,env,L,K=>match d with
  | false=>As X ops ops.toList env L (K .normal)
  | true=>Xc X ops env L (K .normal)
 | .seq a b,n,env,L,K=>iL X a n env L fun ex env L=>match ex with
  | .normal=>iL X b (n+A4 a) env L K
  | .exit id=>K (.exit id) env L
  | .ret=>K .ret env L
 | .cond c a b,n,env,L,K=>Q1 (er env c) fun v=>match v with
  | .bool t=>aa t (iL X a n (O4 c true env) L K) (iL X b (n+A4 a) (O4 c false env) L K)
  | _=>none
 | .block id c,n,env,L,K=>iL X c n env L fun ex env L=>match ex with
  | .normal=>K .normal env L
  | .exit zK=>match Nat.beq zK id with | true=>K .normal env L | false=>K (.exit zK) env L
  | .ret=>K .ret env L
 | .loop c,n,env,L,K=>Q1 (G5 env (X.eV n)) fun cW=>Q1 (LY (X.cO n) env (PU env (X.cO n).fzs L)) fun r =>
  match Qxd (X.eV n) (X.cO n)&&Vj (gr c) (X.cO n) (X.eV n),PX r.2.1 with
  | true,true=>Q1 (mL (X.cO n).zL r.1) fun s0 =>
   Q8 (fun again s=>Q1 (sk r.2.1 (X.cO n).Em.length ((eX (X.cO n).zL s).drop (X.cO n).bH.length) r.2.2) fun L0=>Q1 (G9 r.2.1 (X.cO n).Em.length ((eX (X.cO n).zL s).drop (X.cO n).bH.length) L0) fun L1 =>
    Q1 (G_ (X.cO n).bH ((eX (X.cO n).zL s).take (X.cO n).bH.length) cW L1) fun i =>
    match LU i.1 (X.eV n) with
    | true=>iL X c (n+1) i.1 i.2 fun ex ak L'=>match ex with
     | .normal=>Q1 (G5 ak (X.eV n)) fun _=>Q1 (LY (X.cO n) ak L') fun r'=>match He r'.2.1 r.2.1,A7 r.2.1 0 r.2.2.bl r'.2.2.bl with
      | true,true=>Q1 (mL (X.cO n).zL r'.1) fun s'=>again s'
      | _,_=>none
     | .exit id=>K (.exit id) ak L'
     | .ret=>K .ret ak L'
    | false=>none) A.fuel s0
  | _,_=>none
 | .exit id,_,env,L,K=>K (.exit id) env L
 | .ret,_,env,L,K=>K .ret env L
 | _,_,_,_,_=>none
end code
structure Hl (A:cH) where
 call:(f:FuncId)->ji (A.sig f).eE->Option (ji (A.sig f).cQ)
 inl:(β:Type)->FuncId->List PV->LS->(PV->LS->Option β)->Option β
def vW (P:Program) (env:bA) (L:LS):List ResultVar->Option (List PV)
 | []=>some []
 | .tmp t::r=>Q1 (dr env t) fun v=>Q1 (vW P env L r) fun l=>some (v::l)
 | .cell a t::r=>Q1 (dr env a) fun v=>match v with
  | .ptr b off=>match Qi L b with
   | some ⟨_,_,.cells cs⟩=>Q1 (P.info? t) fun i=>match P.underlying t with
    | some (.struct _)=>match Nat.ble (off+i.size) cs.length with
     | true=>Q1 (vW P env L r) fun l=>some (.agg ((cs.drop off).take i.size)::l)
     | false=>none
    | some (.array _ _)=>match Nat.ble (off+i.size) cs.length with
     | true=>Q1 (vW P env L r) fun l=>some (.agg ((cs.drop off).take i.size)::l)
     | false=>none
    | some _=>Q1 cs[off]? fun u=>Q1 (vW P env L r) fun l=>some (u::l)
    | none=>none
   | _=>none
  | _=>none
def zO:List (PM×Ty)->List TV->Nat->LS->Option (bA×LS)
 | [],[],_,L=>some ([],L)
 | (m,_)::ps,v::vs,i,L=>match m with
  | .ro=>Q1 (zO ps vs (i+1) L) fun r=>some ((i,ku v.1 (fU 0 v.1 v.2))::r.1,r.2)
  | .cl g=>Q1 (zO ps vs (i+1) L) fun r=>some ((i,.fn g [] [])::r.1,r.2)
  | .ps=>Q1 (zO ps vs (i+1) (Qv L (.cells (fU 0 v.1 v.2)))) fun r=>some ((i,.ptr L.bl.length 0)::r.1,r.2)
  | .mv=>match v with
   | ⟨.sl u,x⟩=>Q1 (zO ps vs (i+1) (Qv L (EF u x))) fun r=>some ((i,.a_ L.bl.length 0 none)::r.1,r.2)
   | _=>none
  | .io=>match v with
   | ⟨.sl u,x⟩=>match u.iD with
    | true=>none
    | false=>Q1 (zO ps vs (i+1) (Qv L (.arr u x))) fun r=>some ((i,.a_ L.bl.length 0 none)::r.1,r.2)
   | _=>none
 | _,_,_,_=>none
def Ep:List (Bool×Ty)->List PV->LS->Option (List TV×LS)
 | [],[],L=>some ([],L)
 | (o,t)::rs,v::vs,L=>Q1 (vb o t v L) fun x=>Q1 (Ep rs vs x.2) fun y=>some (x.1::y.1,y.2)
 | _,_,_=>none
def A8:List (PM×Ty)->Nat->LS->Option (List TV×LS)
 | [],_,L=>some ([],L)
 | (m,t)::ps,i,L=>match m with
  | .ro=>A8 ps i L
  | .cl _=>A8 ps i L
  | .mv=>A8 ps (i+1) L
  | .io=>match t with
   | .sl u=>Q1 (Je u i L) fun x=>Q1 (A8 ps (i+1) L) fun y=>some (x::y.1,y.2)
   | _=>none
  | .ps=>Q1 (Jf t i L) fun x=>Q1 (A8 ps (i+1) x.2) fun y=>some (x.1::y.1,y.2)
def ig:List (PM×Ty)->Nat->List Nat
 | [],_=>[]
 | (m,_)::ps,i=>match m with
  | .ro=>ig ps i
  | .cl _=>ig ps i
  | .mv=>ig ps (i+1)
  | .io=>i::ig ps (i+1)
  | .ps=>i::ig ps (i+1)
def Mb:PV->Bool
 | .kn _=>false
 | _=>true
def Ma:Nat->List PV->bA
 | _,[]=>[]
 | i,v::r=>(i,v)::Ma (i+1) r
noncomputable def Cn (P:Program) (A:cH) (l:Hl A) (f:FuncId) (a:ji (A.sig f).eE):Option (ji (A.sig f).cQ) :=
 match P.funcs[f]? with
 | none=>none
 | some fn=>match fn.body,Nat.ble (A.sig f).params.length fn.ntmps,fn.name == "runtime.NumGoroutine" with
  | some c,true,false=>Q1 (zO (A.sig f).params (eX (A.sig f).eE a) 0 ⟨[],0⟩) fun e=>Q1 (HN (Ck (A.sig f).params (eX (A.sig f).eE a) 0) e.2) fun L1 =>
   iL ⟨P,l.call,l.inl _,fn.ntmps,A.own f,A.loops f,A.jl f⟩ c 0 e.1 L1 fun ex env L=>match ex with
    | .exit _=>none
    | _=>Q1 (vW P env L fn.results.toList) fun vs=>Q1 (Ep (A.sig f).results vs L) fun r=>Q1 (A8 (A.sig f).params 0 r.2) fun q =>
     match LV q.2 (ig (A.sig f).params 0) with
     | true=>mL (A.sig f).cQ (r.1++q.1)
     | false=>none
  | _,_,_=>none
noncomputable def Hr (P:Program) (A:cH) (l:Hl A) (β:Type) (f:FuncId) (args:List PV) (L:LS) (K:PV->LS->Option β):Option β :=
 match P.funcs[f]? with
 | none=>none
 | some fn=>match fn.body,Nat.ble args.length fn.ntmps,fn.name == "runtime.NumGoroutine" with
  | some c,true,false=>iL ⟨P,l.call,l.inl _,fn.ntmps,A.own f,A.loops f,A.jl f⟩ c 0 (Ma 0 args) L fun ex env L=>match ex with
    | .exit _=>none
    | _=>Q1 (vW P env L fn.results.toList) fun vs=>match vs.all Mb with
     | true=>K (Hf vs) L
     | false=>none
  | _,_,_=>none
noncomputable def aM (P:Program) (A:cH):Nat->Hl A
 | 0=>⟨fun _ _=>none,fun _ _ _ _ _=>none⟩
 | d+1=>⟨fun f a=>match A.vc f with | some v=>v a | none=>Cn P A (aM P A d) f a,Hr P A (aM P A d)⟩
def Qw {α β:Type} (R:α->β->Prop):List α->List β->Prop
 | [],[]=>True
 | a::r,b::s=>R a b/\Qw R r s
 | _,_=>False
theorem Qw.length {α β:Type} {R:α->β->Prop}:∀ {l:List α} {m:List β},Qw R l m->l.length=m.length
 | [],[],_=>rfl
 | _::r,_::s,h=>by simp [Qw.length h.2]
theorem Qw.mono {α β:Type} {R S:α->β->Prop} (f:∀ a b,R a b->S a b):∀ {l:List α} {m:List β},Qw R l m->Qw S l m
 | [],[],_=>trivial
 | _::r,_::s,h=>⟨f _ _ h.1,Qw.mono f h.2⟩
theorem Qw.append {α β:Type} {R:α->β->Prop}:∀ {l:List α} {m:List β} {l':List α} {m':List β},Qw R l m->Qw R l' m'->Qw R (l++l') (m++m')
 | [],[],_,_,_,h'=>h'
 | _::r,_::s,_,_,h,h'=>⟨h.1,Qw.append h.2 h'⟩
theorem Qw.take {α β:Type} {R:α->β->Prop}:∀ (n:Nat) {l:List α} {m:List β},Qw R l m->Qw R (l.take n) (m.take n)
 | 0,_,_,_=>by simp [Qw]
 | n+1,[],[],_=>by simp [Qw]
 | n+1,_::r,_::s,h=>by simp only [List.take_succ_cons];exact ⟨h.1,Qw.take n h.2⟩
theorem Qw.drop {α β:Type} {R:α->β->Prop}:∀ (n:Nat) {l:List α} {m:List β},Qw R l m->Qw R (l.drop n) (m.drop n)
 | 0,_,_,h=>by simpa using h
 | n+1,[],[],_=>by simp [Qw]
 | n+1,_::r,_::s,h=>by simp only [List.drop_succ_cons];exact Qw.drop n h.2
theorem Qw.get {α β:Type} {R:α->β->Prop}:∀ (n:Nat) {l:List α} {m:List β} {a:α},Qw R l m->l[n]? = some a->∃ b,m[n]? = some b/\R a b
 | 0,_::r,_::s,_,h,e=>by simp at e;subst e;exact ⟨_,rfl,h.1⟩
 | n+1,_::r,_::s,a,h,e=>by simp only [List.getElem?_cons_succ] at e ⊢;exact Qw.get n h.2 e
 | n,[],[],_,_,e=>by simp at e
def ax (N:Nat->Prop) (H:af):(t:Ty)->t.T->List Value->Prop
 | .int k,x,cs=>cs=[.int k x]
 | .bool,x,cs=>cs=[.bool x]
 | .str,x,cs=>cs=[.string x]
 | .sl t,x,cs=>(x=[]/\cs=[.slice none 0 0])\/(x=[]/\∃ z o,cs=[.slice (some ⟨z,o,none⟩) 0 t.size]) \/
   ∃ z o k,cs=[.slice (some ⟨z,o,none⟩) x.length t.size]/\N z/\ah H z=some k/\o+x.length*t.size<=k.cells.length /\
    ∀ i (h:i < x.length),ax N H t (x[i]) ((k.cells.drop (o+i*t.size)).take t.size)
 | .os _,_,cs=>∃ v,cs=[v]/\az v=true/\Qa v v=true
 | .pair a b,x,cs=>ax N H a x.1 (cs.take a.size)/\ax N H b x.2 (cs.drop a.size)
theorem Ty.size_pos:∀ t:Ty,0 < t.size
 | .int _=>by simp [Ty.size]
 | .bool=>by simp [Ty.size]
 | .str=>by simp [Ty.size]
 | .sl _=>by simp [Ty.size]
 | .os _=>by simp [Ty.size]
 | .pair a b=>by have:=Ty.size_pos a;simp [Ty.size];omega
theorem ax.len {N:Nat->Prop} {H:af}:∀ (t:Ty) {x:t.T} {cs:List Value},ax N H t x cs->cs.length=t.size
 | .int _,_,_,h=>by unfold ax at h;subst h;rfl
 | .bool,_,_,h=>by unfold ax at h;subst h;rfl
 | .str,_,_,h=>by unfold ax at h;subst h;rfl
 | .sl t,_,_,h=>by
  unfold ax at h
  rcases h with ⟨_,rfl⟩ | ⟨_,_,_,rfl⟩ | ⟨_,_,_,rfl,_⟩<;>rfl
 | .os t,_,_,h=>by unfold ax at h;obtain ⟨v,rfl,_⟩:=h;rfl
 | .pair a b,_,cs,h=>by
  unfold ax at h
  have h1:=ax.len a h.1;have h2:=ax.len b h.2
  have:=Ty.size_pos a;have:=Ty.size_pos b
  simp at h1 h2;simp [Ty.size];omega
theorem ax.frame {N M:Nat->Prop} {H G:af} (h:∀ z,N z->z < H.length->M z/\ah G z=ah H z):∀ (t:Ty) {x:t.T} {cs:List Value},ax N H t x cs->ax M G t x cs
 | .int _,_,_,r=>by unfold ax at r ⊢;exact r
 | .bool,_,_,r=>by unfold ax at r ⊢;exact r
 | .str,_,_,r=>by unfold ax at r ⊢;exact r
 | .sl t,x,_,r=>by
  unfold ax at r ⊢
  rcases r with r | r | ⟨z,o,k,e,hN,hk,hl,hi⟩
  .exact .inl r
  .exact .inr (.inl r)
  .obtain ⟨g1,g2⟩:=h z hN (Qt hk)
   exact .inr (.inr ⟨z,o,k,e,g1,by rw [g2];exact hk,hl,fun i eS=>ax.frame h t (hi i eS)⟩)
 | .os _,_,_,r=>by unfold ax at r ⊢;exact r
 | .pair a b,_,_,r=>by
  unfold ax at r ⊢
  exact ⟨ax.frame h a r.1,ax.frame h b r.2⟩
theorem ax.flat {N M:Nat->Prop} {H G:af}:∀ (t:Ty) {x:t.T} {cs:List Value},t.flat=true->ax N H t x cs->ax M G t x cs
 | .int _,_,_,_,r=>by unfold ax at r ⊢;exact r
 | .bool,_,_,_,r=>by unfold ax at r ⊢;exact r
 | .str,_,_,_,r=>by unfold ax at r ⊢;exact r
 | .sl t,x,_,f,r=>by simp [Ty.flat] at f
 | .os t,x,_,f,r=>by simp [Ty.flat] at f
 | .pair a b,_,_,f,r=>by
  simp only [Ty.flat,Z8] at f
  unfold ax at r ⊢
  exact ⟨ax.flat a f.1 r.1,ax.flat b f.2 r.2⟩
theorem ax.cell {N:Nat->Prop} {H:af}:∀ (t:Ty) {x:t.T} {cs:List Value},ax N H t x cs->∀ v∈cs,az v=true
 | .int _,_,_,h=>by unfold ax at h;subst h;simp [az]
 | .bool,_,_,h=>by unfold ax at h;subst h;simp [az]
 | .str,_,_,h=>by unfold ax at h;subst h;simp [az]
 | .sl t,_,_,h=>by
  unfold ax at h
  rcases h with ⟨_,rfl⟩ | ⟨_,_,_,rfl⟩ | ⟨_,_,_,rfl,_⟩<;>simp [az]
 | .os t,_,_,h=>by unfold ax at h;obtain ⟨v,rfl,hv,_⟩:=h;simpa using hv
 | .pair a b,_,cs,h=>by
  unfold ax at h
  intro v hv
  rw [<- List.take_append_drop a.size cs] at hv
  rcases List.mem_append.1 hv with hv | hv
  .exact ax.cell a h.1 v hv
  .exact ax.cell b h.2 v hv
theorem Av {a b:Ty} {x:a.T} {y:b.T} (h:fN a b x=some y):∃ e:a=b,e▸x=y:=by
 unfold fN at h
 split at h
 .rename_i hb
  exact ⟨Ty.beq_eq hb,by simpa using h⟩
 .simp at h
theorem Qq {a b:Ty} {x:a.T} {y:b.T} (h:fN a b x=some y):a=b:=(Av h).1
theorem Qg {a:Ty} {x y:a.T} (h:fN a a x=some y):x=y:=by
 obtain ⟨e,h⟩:=Av h;exact h
structure MB where
 z:Nat
 sh:Nat
 es:Nat
 n:Nat
structure S where
 μ:Nat->Option MB
 L:LS
 H:af
 fj:Nat->Prop
 Old:Nat->Nat->Prop
 aF:Nat->Prop
 ai:Nat
 br:Nat->Option (Nat×Nat)
def bI (s:S) (z:Nat):Prop:=(∃ b B m,Qi s.L b=some B/\B.rw=true/\s.μ b=some m/\m.z=z)\/s.aF z\/∃ p,s.br z=some p
def S.N (s:S) (z:Nat):Prop:=¬ bI s z/\¬ s.fj z
def S.NN (s:S) (st z:Nat):Prop:=s.N z/\∀ c,st < c->c<=s.L.ct->s.Old c z
def Fit (sh n:Nat) (c:List Value):Prop:=sh+n<=c.length/\∀ v∈c.drop sh,Qa v v=true
def Ny (n k:Nat) (v:Value):Prop:=(n=0/\v=.slice none 0 0)\/∃ z o,v=.slice (some ⟨z,o,none⟩) n k
def ir (K:Nat->Prop) (H:af) (ai:Nat) (t:Ty) (x:List t.T) (v:Value):Prop :=
 (x=[]/\v=.slice none 0 0)\/∃ z o k,v=.slice (some ⟨z,o,none⟩) x.length t.size/\K z/\ah H z=some k/\k.ro=false/\ai<=z/\Fit o (x.length*t.size) k.cells /\
  ∀ i (h:i < x.length),ax (fun _=>False) H t x[i] ((k.cells.drop (o+i*t.size)).take t.size)
theorem ir.sl {K:Nat->Prop} {H:af} {ai:Nat} {t:Ty} {x:List t.T} {v:Value} (h:ir K H ai t x v):Ny x.length t.size v:=by
 rcases h with ⟨rfl,rfl⟩ | ⟨z,o,k,rfl,_⟩
 .exact .inl ⟨rfl,rfl⟩
 .exact .inr ⟨z,o,rfl⟩
theorem ir.mono {K K':Nat->Prop} {H G:af} {ai:Nat} {t:Ty} {x:List t.T} {v:Value} (h:ir K H ai t x v) (hf:t.flat=true) (hk:∀ z,K z->K' z/\ah G z=ah H z):ir K' G ai t x v:=by
 rcases h with h | ⟨z,o,k,h1,h2,h3,h4,h5,h6,h7⟩
 .exact .inl h
 .exact .inr ⟨z,o,k,h1,(hk z h2).1,by rw [(hk z h2).2];exact h3,h4,h5,h6,fun i hi=>ax.flat t hf (h7 i hi)⟩
def Qvm (s:S) (b i n:Nat) (v:Value):Prop:=∀ B e xs h m k,Qi s.L b=some B->B.body=.rows e xs h->s.μ b=some m->ah s.H m.z=some k->∀ y,xs[i]? = some y->n<=y.length/\(y.length=n->k.cells[m.sh+i]? = some v)
def cj (s:S):PV->Value->Prop
 | .int k n,v=>v=.int k n
 | .bool b,v=>v=.bool b
 | .str x,v=>v=.string x
 | .nil,v=>v=.slice none 0 0
 | .vo,v=>v=.pointer none
 | .ro st t x,v=>ax (s.NN st) s.H (.sl t) x [v]
 | .rp st t x,v=>∃ z o k,v=.pointer (some ⟨z,o,none⟩)/\s.NN st z/\ah s.H z=some k/\o+t.size<=k.cells.length/\ax (s.NN st) s.H t x ((k.cells.drop o).take t.size)
 | .a_ b off n,v=>b < s.L.bl.length/\match s.μ b with
  | none=>off=0/\n.getD 0=0/\v=.slice none 0 0
  | some m=>off+n.getD (m.n - off)<=m.n/\v=.slice (some ⟨m.z,m.sh+off*m.es,none⟩) (n.getD (m.n - off)) m.es
 | .ep b j fo,v=>b < s.L.bl.length/\∃ m,s.μ b=some m/\v=.pointer (some ⟨m.z,m.sh+j*m.es+fo,none⟩)
 | .ptr b off,v=>b < s.L.bl.length/\∃ m,s.μ b=some m/\m.sh=0/\v=.pointer (some ⟨m.z,off,none⟩)
 | .dp b off _ u k,v=>b < s.L.bl.length/\∃ m,s.μ b=some m/\m.sh=0/\v=.pointer (some ⟨m.z,off+k*u.size,none⟩)
 | .hole,v=>az v=true/\Qa v v=true
 | .mp b,v=>b < s.L.bl.length/\∃ m,s.μ b=some m/\v=.map (some m.z)
 | .rw b i aA t x,v=>b < s.L.bl.length/\Ny x.length t.size v/\∀ B,Qi s.L b=some B->aA<=B.aA/\(B.aA=aA->t.flat=true/\ir (fun z=>s.br z=some (b,i)) s.H s.ai t x v/\Qvm s b i x.length v)
 | .rq b aA t x,v=>b < s.L.bl.length/\(∃ z o,v=.pointer (some ⟨z,o,none⟩))/\∀ B,Qi s.L b=some B->aA<=B.aA/\(B.aA=aA->∃ z o k i,v=.pointer (some ⟨z,o,none⟩)/\s.br z=some (b,i)/\ah s.H z=some k/\o+t.size<=k.cells.length/\ax (fun _=>False) s.H t x ((k.cells.drop o).take t.size))
 | _,_=>False
def cm (s:S) (cs:List PV) (vs:List Value):Prop:=Qw (cj s) cs vs
def AR (s:S):PV->Value->Prop
 | .agg cs,v=>∃ vs,v=.agg ⟨vs⟩/\cm s cs vs
 | .fn f a b,v=>∃ a' b',v=.func (.func f) ⟨a'⟩ ⟨b'⟩/\cm s a a'/\cm s b b'
 | .undef,v=>v=undef
 | p,v=>cj s p v
def ER (s:S):PV->Value->Prop
 | .kn cs,v=>∃ vs,v=.tuple ⟨vs⟩/\Qw (AR s) cs vs
 | p,v=>AR s p v
def cE (s:S) (env:bA) (e:Env):Prop:=∀ q,match dr env q with
 | none=>cN e q=none
 | some p=>∃ v,cN e q=some v/\ER s p v
def BR (s:S) (b:Nat) (B:VB):Prop :=
 match B.body with
 | .cells cs=>B.rw=true/\∃ m k,s.μ b=some m/\m.sh=0/\ah s.H m.z=some k/\cm s cs k.cells/\k.ro=false/\s.ai<=m.z
 | .arr t xs=>match s.μ b with
  | none=>xs=[]
  | some m=>m.es=t.size/\m.n=xs.length/\∃ k,ah s.H m.z=some k/\Fit m.sh (xs.length*t.size) k.cells /\
   (∀ i (h:i < xs.length),ax s.N s.H t xs[i] ((k.cells.drop (m.sh+i*t.size)).take t.size)) /\
   (B.rw=true->k.ro=false/\s.ai<=m.z)/\(B.rw=false->s.N m.z)
 | .rows t xs h=>B.rw=true/\t.flat=true/\match s.μ b with
  | none=>xs=[]
  | some m=>m.es=1/\m.n=xs.length/\∃ k,ah s.H m.z=some k/\Fit m.sh xs.length k.cells/\k.ro=false/\s.ai<=m.z /\
   ∀ i (hi:i < xs.length),h≠some i->∃ v,k.cells[m.sh+i]? = some v/\ir (fun z=>s.br z=some (b,i)) s.H s.ai t xs[i] v
 | .mp es=>B.rw=true/\∃ m k,s.μ b=some m/\m.sh=0/\ah s.H m.z=some k/\k.mp=some es/\k.ro=false/\s.ai<=m.z/\k.cells=[]
structure aD (s:S):Prop where
 aI:∀ b B,Qi s.L b=some B->BR s b B
 inj:∀ b b' B B' m m',Qi s.L b=some B->Qi s.L b'=some B'->B.rw=true->s.μ b=some m->s.μ b'=some m'->m.z=m'.z->b=b'
 cY:∀ z,s.fj z->z < s.H.length/\¬ bI s z
 dP:s.ai<=s.H.length
 lm:∀ b B m,Qi s.L b=some B->s.μ b=some m->¬ s.aF m.z
 iE:∀ z,s.aF z->z < s.H.length
 kl:∀ z p,s.br z=some p->z < s.H.length/\p.1 < s.L.bl.length/\¬ s.aF z/\∀ b B m,Qi s.L b=some B->s.μ b=some m->m.z≠z
 ka:∀ z p,s.br z=some p->∃ k,ah s.H z=some k
def CK (s s':S):Prop:=s.L.ct<=s'.L.ct/\(∀ c,c<=s.L.ct->s'.Old c=s.Old c)/\∀ c z,s.L.ct < c->c<=s'.L.ct->z < s.H.length->s.N z->s'.Old c z
theorem CK.same {s s':S} (h:s'.Old=s.Old) (g:s'.L.ct=s.L.ct):CK s s':=⟨by rw [g];exact Zd _,fun _ _=>by rw [h],fun c z h1 h2=>by omega⟩
structure aj (s s':S):Prop where
 cY:s'.fj=s.fj
 ck:CK s s'
 ai:s'.ai=s.ai
 nb:s.L.bl.length<=s'.L.bl.length
 mu:∀ b,b < s.L.bl.length->s'.μ b=s.μ b
 len:s.H.length<=s'.H.length
 fr:∀ z,z < s.H.length->¬ bI s z->ah s'.H z=ah s.H z
 own:∀ z,bI s' z->bI s z\/s.H.length<=z
 live:∀ b B',b < s.L.bl.length->Qi s'.L b=some B'->∃ B,Qi s.L b=some B/\B.aA<=B'.aA/\(B.aA=B'.aA->B'=B/\(∀ m,s.μ b=some m->ah s'.H m.z=ah s.H m.z)/\∀ z i,s.br z=some (b,i)->s'.br z=some (b,i)/\ah s'.H z=ah s.H z)
theorem Qn {L:LS} {b:Nat} {B:VB} (h:Qi L b=some B):b < L.bl.length:=by
 unfold Qi at h
 rcases Nat.lt_or_ge b L.bl.length with g | g
 .exact g
 .rw [List.getElem?_eq_none g] at h;simp at h
theorem aj.refl (s:S):aj s s :=
 ⟨rfl,CK.same rfl rfl,rfl,Zd _,fun _ _=>rfl,Zd _,fun _ _ _=>rfl,fun _ h=>.inl h,fun b B' _ h=>⟨B',h,Zd _,fun _=>⟨rfl,fun _ _=>rfl,fun _ _ h=>⟨h,rfl⟩⟩⟩⟩
theorem aj.N {s s':S} (h:aj s s') {z:Nat} (hz:z < s.H.length) (hn:s.N z):s'.N z:=by
 refine ⟨fun ho=>?_,by rw [h.cY];exact hn.2⟩
 rcases h.own z ho with h1 | h1
 .exact hn.1 h1
 .omega
theorem aj.trans {s t u:S} (h:aj s t) (g:aj t u):aj s u:=by
 refine ⟨g.cY.trans h.cY,⟨Nat.le_trans h.ck.1 g.ck.1,fun c hc=>(g.ck.2.1 c (Nat.le_trans hc h.ck.1)).trans (h.ck.2.1 c hc),fun c z h1 h2 h3 h4=>?_⟩,g.ai.trans h.ai,Nat.le_trans h.nb g.nb,fun b hb=>?_,Nat.le_trans h.len g.len,fun z hz hn=>?_,fun z hz=>?_,fun b B' hb hB=>?_⟩
 .rcases Nat.lt_or_ge t.L.ct c with h5 | h5
  .exact g.ck.2.2 c z h5 h2 (Zm h3 h.len) (h.N h3 h4)
  .rw [g.ck.2.1 c h5];exact h.ck.2.2 c z h1 h5 h3 h4
 .rw [g.mu b (Zm hb h.nb),h.mu b hb]
 .rw [g.fr z (Zm hz h.len) (fun ho=>by rcases h.own z ho with h1 | h1;exact hn h1;omega),h.fr z hz hn]
 .rcases g.own z hz with h1 | h1
  .exact h.own z h1
  .exact .inr (Nat.le_trans h.len h1)
 .obtain ⟨B1,h1,v1,e1⟩:=g.live b B' (Zm hb h.nb) hB
  obtain ⟨B0,h0,v0,e0⟩:=h.live b B1 hb h1
  refine ⟨B0,h0,Nat.le_trans v0 v1,fun e=>?_⟩
  have ea:B0.aA=B1.aA:=by omega
  have eb:B1.aA=B'.aA:=by omega
  obtain ⟨x1,x2,x3⟩:=e0 ea
  obtain ⟨y1,y2,y3⟩:=e1 eb
  exact ⟨y1.trans x1,fun m hm=>(y2 m (by rw [h.mu b hb];exact hm)).trans (x2 m hm),fun z i hz=>⟨(y3 z i (x3 z i hz).1).1,(y3 z i (x3 z i hz).1).2.trans (x3 z i hz).2⟩⟩
theorem aj.NN {s s':S} (h:aj s s') {st z:Nat} (hz:z < s.H.length) (hn:s.NN st z):s'.NN st z :=
 ⟨h.N hz hn.1,fun c h1 h2=>by
  rcases Nat.lt_or_ge s.L.ct c with h5 | h5
  .exact h.ck.2.2 c z h5 h2 hz hn.1
  .rw [h.ck.2.1 c h5];exact hn.2 c h1 h5⟩
theorem aj.rep {s s':S} (h:aj s s') {st:Nat} {t:Ty} {x:t.T} {cs:List Value} (r:ax (s.NN st) s.H t x cs):ax (s'.NN st) s'.H t x cs :=
 ax.frame (fun z hz hl=>⟨h.NN hl hz,h.fr z hl hz.1.1⟩) t r
theorem aj.vj {s s':S} (h:aj s s') {t:Ty} {x:t.T} {cs:List Value} (r:ax s.N s.H t x cs):ax s'.N s'.H t x cs :=
 ax.frame (fun z hz hl=>⟨h.N hl hz,h.fr z hl hz.1⟩) t r
theorem aj.cj {s s':S} (h:aj s s'):∀ {p:PV} {v:Value},cj s p v->cj s' p v:=by
 intro p v r
 cases p with
 | ro st t x=>exact h.rep (t:=.sl t) r
 | rp st t x =>
  obtain ⟨z,o,k,e,hn,hk,hl,hr⟩:=r
  have hz:=Qt hk
  exact ⟨z,o,k,e,h.NN hz hn,by rw [h.fr z hz hn.1.1];exact hk,hl,h.rep hr⟩
 | a_ b off n=>obtain ⟨hb,r⟩:=r;exact ⟨Zm hb h.nb,by rw [h.mu b hb];exact r⟩
 | ep b j fo=>obtain ⟨hb,r⟩:=r;exact ⟨Zm hb h.nb,by rw [h.mu b hb];exact r⟩
 | ptr b off=>obtain ⟨hb,r⟩:=r;exact ⟨Zm hb h.nb,by rw [h.mu b hb];exact r⟩
 | mp b=>obtain ⟨hb,r⟩:=r;exact ⟨Zm hb h.nb,by rw [h.mu b hb];exact r⟩
 | dp b off n u k=>obtain ⟨hb,r⟩:=r;exact ⟨Zm hb h.nb,by rw [h.mu b hb];exact r⟩
 | rw b i aA t x =>
  obtain ⟨hb,hs,r⟩:=r
  refine ⟨Zm hb h.nb,hs,fun B' iu=>?_⟩
  obtain ⟨B,g1,g2,g3⟩:=h.live b B' hb iu
  obtain ⟨r1,r2⟩:=r B g1
  refine ⟨Nat.le_trans r1 g2,fun e=>?_⟩
  obtain ⟨k1,k2,k3⟩:=g3 (by omega)
  obtain ⟨r3,r4,r5⟩:=r2 (by omega)
  refine ⟨r3,by rw [h.ai];exact r4.mono r3 (fun z hz=>k3 z i hz),fun B2 e2 xs h2 m k rW Nz vk zB y hy=>?_⟩
  have:B2=B:=by rw [iu] at rW;injection rW with rW;rw [<- rW,k1]
  subst this
  rw [h.mu b hb] at vk
  rw [k2 m vk] at zB
  exact r5 B2 e2 xs h2 m k g1 Nz vk zB y hy
 | rq b aA t x =>
  obtain ⟨hb,hs,r⟩:=r
  refine ⟨Zm hb h.nb,hs,fun B' iu=>?_⟩
  obtain ⟨B,g1,g2,g3⟩:=h.live b B' hb iu
  obtain ⟨r1,r2⟩:=r B g1
  refine ⟨Nat.le_trans r1 g2,fun e=>?_⟩
  obtain ⟨_,_,k3⟩:=g3 (by omega)
  obtain ⟨z,o,k,i,e1,e2,e3,e4,e5⟩:=r2 (by omega)
  exact ⟨z,o,k,i,e1,(k3 z i e2).1,by rw [(k3 z i e2).2];exact e3,e4,ax.frame (fun _ hz _=>absurd hz id) t e5⟩
 | _=>exact r
theorem aj.cm {s s':S} (h:aj s s') {cs:List PV} {vs:List Value} (r:cm s cs vs):cm s' cs vs:=Qw.mono (fun _ _=>h.cj) r
theorem aj.AR {s s':S} (h:aj s s'):∀ {p:PV} {v:Value},AR s p v->AR s' p v:=by
 intro p v r
 cases p with
 | agg cs=>obtain ⟨vs,e,r⟩:=r;exact ⟨vs,e,h.cm r⟩
 | fn f a b=>obtain ⟨x,y,e,r1,r2⟩:=r;exact ⟨x,y,e,h.cm r1,h.cm r2⟩
 | undef=>exact r
 | kn cs=>exact absurd r id
 | _=>(simp only [Pv.AR] at r ⊢;exact h.cj r)
theorem aj.ER {s s':S} (h:aj s s'):∀ {p:PV} {v:Value},ER s p v->ER s' p v:=by
 intro p v r
 cases p with
 | kn cs=>obtain ⟨vs,e,r⟩:=r;exact ⟨vs,e,Qw.mono (fun _ _=>h.AR) r⟩
 | _=>(simp only [Pv.ER] at r ⊢;exact h.AR r)
theorem aj.env {s s':S} (h:aj s s') {env:bA} {e:Env} (r:cE s env e):cE s' env e:=by
 intro q
 have:=r q
 split at this
 .exact this
 .obtain ⟨v,e1,e2⟩:=this;exact ⟨v,e1,h.ER e2⟩
theorem cE.cons {s:S} {env:bA} {e:Env} (r:cE s env e) {d:Nat} {p:PV} {v:Value} (h:ER s p v):cE s ((d,p)::env) ((d,v)::e):=by
 intro q
 simp only [dr,cN]
 cases Nat.beq d q with
 | true=>exact ⟨v,rfl,h⟩
 | false=>exact r q
theorem cE.get {s:S} {env:bA} {e:Env} (r:cE s env e) {q:Nat} {p:PV} (h:dr env q=some p):∃ v,cN e q=some v/\ER s p v:=by
 have:=r q;rw [h] at this;exact this
theorem AR.of {s:S} {p:PV} {v:Value} (h:cj s p v):AR s p v:=by
 cases p<;>first | exact h | exact absurd h id
theorem ER.of {s:S} {p:PV} {v:Value} (h:AR s p v):ER s p v:=by
 cases p<;>first | exact h | exact absurd h id
theorem ER.eY {s:S} {p:PV} {v:Value} (h:cj s p v):ER s p v:=ER.of (AR.of h)
theorem AR.cells {s:S} {p:PV} {v:Value} (h:AR s p v) (hn:∀ f a b,p≠.fn f a b) (hu:p≠.undef):cm s (mw p) v.cells.toList:=by
 cases p with
 | agg cs=>obtain ⟨vs,rfl,r⟩:=h;exact r
 | fn f a b=>exact absurd rfl (hn f a b)
 | undef=>exact absurd rfl hu
 | int k n=>obtain rfl:=h;exact ⟨rfl,trivial⟩
 | bool b=>obtain rfl:=h;exact ⟨rfl,trivial⟩
 | str b=>obtain rfl:=h;exact ⟨rfl,trivial⟩
 | nil=>obtain rfl:=h;exact ⟨rfl,trivial⟩
 | vo=>obtain rfl:=h;exact ⟨rfl,trivial⟩
 | kn cs=>exact absurd h id
 | ro st t x =>
  have h':ax (s.NN st) s.H (.sl t) x [v]:=h
  have:v.cells.toList=[v]:=by
   unfold ax at h'
   rcases h' with ⟨_,e⟩ | ⟨_,_,_,e⟩ | ⟨_,_,_,e,_⟩<;>(simp at e;subst e;rfl)
  rw [this];exact ⟨h,trivial⟩
 | rp st t x =>
  obtain ⟨z,o,k,rfl,r⟩:=id h
  exact ⟨h,trivial⟩
 | a_ b off n =>
  have:v.cells.toList=[v]:=by
   have h':=h
   obtain ⟨_,r⟩:=h'
   split at r
   .rw [r.2.2];rfl
   .rw [r.2];rfl
  rw [this];exact ⟨h,trivial⟩
 | ep b j fo =>
  obtain ⟨_,m,_,rfl⟩:=id h
  exact ⟨h,trivial⟩
 | ptr b off =>
  obtain ⟨_,m,_,_,rfl⟩:=id h
  exact ⟨h,trivial⟩
 | mp b =>
  obtain ⟨_,m,_,rfl⟩:=id h
  exact ⟨h,trivial⟩
 | dp b off n u k =>
  obtain ⟨_,m,_,_,rfl⟩:=id h
  exact ⟨h,trivial⟩
 | rw b i aA t x =>
  have:v.cells.toList=[v]:=by
   obtain ⟨_,r,_⟩:=id h
   rcases r with ⟨_,rfl⟩ | ⟨_,_,rfl⟩<;>rfl
  rw [this];exact ⟨h,trivial⟩
 | rq b aA t x =>
  obtain ⟨_,⟨_,_,rfl⟩,_⟩:=id h
  exact ⟨h,trivial⟩
 | hole =>
  have h:az v=true/\Qa v v=true:=h
  have h':=h.1
  have:v.cells.toList=[v]:=by cases v<;>first | rfl | simp [az] at h'
  rw [this];exact ⟨h,trivial⟩
theorem cj.cell {s:S} {p:PV} {v:Value} (h:cj s p v):az v=true:=by
 cases p with
 | int k n=>obtain rfl:=h;rfl
 | bool b=>obtain rfl:=h;rfl
 | str b=>obtain rfl:=h;rfl
 | nil=>obtain rfl:=h;rfl
 | vo=>obtain rfl:=h;rfl
 | ro st t x=>exact ax.cell (.sl t) h v (by simp)
 | rp st t x=>obtain ⟨z,o,k,rfl,r⟩:=id h;rfl
 | a_ b off n =>
  obtain ⟨_,r⟩:=id h
  split at r
  .rw [r.2.2];rfl
  .rw [r.2];rfl
 | ep b j fo=>obtain ⟨_,m,_,rfl⟩:=id h;rfl
 | ptr b off=>obtain ⟨_,m,_,_,rfl⟩:=id h;rfl
 | mp b=>obtain ⟨_,m,_,rfl⟩:=id h;rfl
 | dp b off n u k=>obtain ⟨_,m,_,_,rfl⟩:=id h;rfl
 | hole=>exact h.1
 | rw b i aA t x=>obtain ⟨_,r,_⟩:=id h;rcases r with ⟨_,rfl⟩ | ⟨_,_,rfl⟩<;>rfl
 | rq b aA t x=>obtain ⟨_,⟨_,_,rfl⟩,_⟩:=id h;rfl
 | fn f a b=>exact absurd h id
 | agg cs=>exact absurd h id
 | kn cs=>exact absurd h id
 | undef=>exact absurd h id
theorem cm.cell {s:S}:∀ {cs:List PV} {vs:List Value},cm s cs vs->∀ v∈vs,az v=true
 | [],[],_=>by simp
 | p::r,v::w,h=>by
  intro u hu
  rcases Z2 hu with rfl | hu
  .exact h.1.cell
  .exact cm.cell h.2 u hu
theorem NA (H:af) (c:List Value):(dc H c).length=H.length+1:=by simp [dc]
theorem EU {H:af} {c:List Value} {z:Nat} (h:z < H.length):ah (dc H c) z=ah H z:=by
 unfold ah dc;rw [List.getElem?_append_left h]
theorem LN (H:af) (c:List Value):ah (dc H c) H.length=some ⟨c,false,none⟩:=by
 unfold ah dc;simp
theorem Q6z {H:af} {b:Nat} {x:Option bx} (h:b < H.length):ah (H.set b x) b=x:=by
 cases x<;>simp [ah,h]
theorem Qh {H:af} {b c:Nat} {x:Option bx} (h:b≠c):ah (H.set b x) c=ah H c:=by
 unfold ah;rw [List.getElem?_set_ne h]
theorem Qz {L:LS} {B:Body} {b:Nat} (h:b < L.bl.length):Qi (Qv L B) b=Qi L b:=by
 unfold Qi Qv;simp only;rw [List.getElem?_append_left h]
theorem CW (L:LS) (B:Body):Qi (Qv L B) L.bl.length=some ⟨0,true,B⟩:=by
 unfold Qi Qv;simp
theorem vp {L:LS} {B:Body} {b:Nat} (h:L.bl.length < b):Qi (Qv L B) b=none:=by
 unfold Qi Qv;simp only;rw [List.getElem?_eq_none (by simp;omega)]
theorem Qk (L:LS) (B:Body):(Qv L B).bl.length=L.bl.length+1:=by simp [Qv]
theorem Qr {L:LS} {b:Nat} {B:VB} (h:b < L.bl.length):Qi (cP L b B) b=some B:=by
 unfold Qi cP;simp [h]
theorem vX {L:LS} {b c:Nat} {B:VB} (h:b≠c):Qi (cP L b B) c=Qi L c:=by
 unfold Qi cP;simp only;rw [List.getElem?_set_ne h]
theorem oD (L:LS) (b:Nat) (B:VB):(cP L b B).bl.length=L.bl.length:=by simp [cP]
theorem Qcz {L:LS} {b:Nat}:Qi (mz L b) b=none:=by
 unfold Qi mz;simp only
 rcases Nat.lt_or_ge b L.bl.length with h | h
 .simp [h]
 .rw [List.getElem?_eq_none (by simpa using h)]
theorem XM {L:LS} {b c:Nat} (h:b≠c):Qi (mz L b) c=Qi L c:=by
 unfold Qi mz;simp only;rw [List.getElem?_set_ne h]
theorem EB (L:LS) (b:Nat):(mz L b).bl.length=L.bl.length:=by simp [mz]
theorem Qs {L:LS} {b c:Nat} {B:VB} (h:Qi (mz L b) c=some B):b≠c/\Qi L c=some B:=by
 by_cases e:b=c
 .subst e;rw [Qcz] at h;simp at h
 .rw [XM e] at h;exact ⟨e,h⟩
def S.CX (μ:Nat->Option MB) (b:Nat) (m:Option MB):Nat->Option MB:=fun c=>if c=b then m else μ c
theorem S.aV (μ:Nat->Option MB) (b:Nat) (m:Option MB):S.CX μ b m b=m:=by simp [S.CX]
theorem S.cA {μ:Nat->Option MB} {b c:Nat} {m:Option MB} (h:c≠b):S.CX μ b m c=μ c:=by simp [S.CX,h]
end Go.Pv
