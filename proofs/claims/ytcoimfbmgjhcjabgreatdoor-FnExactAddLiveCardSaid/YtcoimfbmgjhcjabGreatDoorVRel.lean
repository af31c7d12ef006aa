/-
  The simp kit for the abstract interpreter's residual forms: lazy evaluation of reads and writes on heaps of the form H ++ locals. And what stood behind it in 3 texts.
  Conditions: said at the theorems.
-/
import Derived.Test.YtcoimfbmgjhcjabGreatDoorSound
import Derived.Attr
import Derived.IntWalk
import Derived.Below
import Derived.RowKit
import Derived.WalkKit
import Derived.ProofKit
import Derived.OpenShut
import Derived.DataShut
import Derived.Test.YtcoimfbmgjhcjabGreatDoorOpB
set_option linter.unusedSimpArgs false
set_option linter.all false
namespace Go.Ek
open Go.Ev
@[congr] theorem Qxk {α β:Type} {x y:Option α} {f:α->Option β} (h:x=y):Q1 x f=Q1 y f:=by rw [h]
@[congr] theorem aak {β:Type} {b c:Bool} {x y:Option β} (h:b=c):aa b x y=aa c x y:=by rw [h]
@[congr] theorem Qy5 {β:Type} {k:IntKind} {v u:Value} {K:Int->Option β} (h:v=u):HD k v K=HD k u K:=by rw [h]
@[congr] theorem Qxl {β:Type} {v u:Value} {K:Bool->Option β} (h:v=u):wZ v K=wZ u K:=by rw [h]
@[congr] theorem Qy6 {β:Type} {v u:Value} {K:ByteArray->Option β} (h:v=u):Mr v K=Mr u K:=by rw [h]
@[congr] theorem aal {β:Type} {v u:Value} {K:Option Addr->Nat->Nat->Option β} (h:v=u):gH v K=gH u K:=by rw [h]
@[congr] theorem Qy7 {β:Type} {v u:Value} {K:Option Addr->Option β} (h:v=u):Aq v K=Aq u K:=by rw [h]
@[congr] theorem Qy8 {β:Type} {v u:Value} {K:List Value->Option β} (h:v=u):Ar v K=Ar u K:=by rw [h]
@[congr] theorem Qy9 {β:Type} {v u:Value} {K:List Value->Option β} (h:v=u):As v K=As u K:=by rw [h]
@[congr] theorem Qxm {β:Type} {v u:List Value} {K:Value->List Value->Option β} (h:v=u):Au v K=Au u K:=by rw [h]
@[congr] theorem aam {β:Type} {v u:Value} {K:FuncId->Array Value->Array Value->Option β} (h:v=u):Ms v K=Ms u K:=by rw [h]
@[congr] theorem Qya {β:Type} {v u:Value} {K:Addr->Option β} (h:v=u):e_ v K=e_ u K:=by rw [h]
@[congr] theorem aan {β:Type} {v u:Value} {K:Addr->Nat->Nat->Option β} (h:v=u):wF v K=wF u K:=by rw [h]
@[congr] theorem Qxn {β:Type} {v u:Value} {K:Nat->Option β} (h:v=u):wJ v K=wJ u K:=by rw [h]
@[go_sem] theorem aao {α β:Type} (a:α) (f:α->Option β):Q1 (some a) f=f a:=(rfl)
attribute [go_sem] Go.Ev.qX
@[go_sem] theorem aap {β:Type} (x y:Option β):aa true x y=x:=(rfl)
@[go_sem] theorem aaq {β:Type} (x y:Option β):aa false x y=y:=(rfl)
@[go_sem] theorem aar {β:Type} (k:IntKind) (n:Int) (K:Int->Option β):HD k (.int k n) K=K n:=by simp [HD]
@[go_sem] theorem Qyb {β:Type} (b:Bool) (K:Bool->Option β):wZ (.bool b) K=K b:=(rfl)
@[go_sem] theorem aas {β:Type} (b:ByteArray) (K:ByteArray->Option β):Mr (.string b) K=K b:=(rfl)
@[go_sem] theorem aat {β:Type} (a:Option Addr) (n c:Nat) (K:Option Addr->Nat->Nat->Option β):gH (.slice a n c) K=K a n c:=(rfl)
@[go_sem] theorem aau {β:Type} (a:Option Addr) (K:Option Addr->Option β):Aq (.pointer a) K=K a:=(rfl)
@[go_sem] theorem aav {β:Type} (f:FuncId) (a b:Array Value) (K:FuncId->Array Value->Array Value->Option β):Ms (.func (.func f) a b) K=K f a b:=(rfl)
@[go_sem] theorem aaw {β:Type} (p:Addr) (K:Addr->Option β):e_ (.pointer (some p)) K=K p:=(rfl)
@[go_sem] theorem aax {β:Type} (p:Addr) (n c:Nat) (K:Addr->Nat->Nat->Option β):wF (.slice (some p) n c) K=K p n c:=(rfl)
@[go_sem] theorem aay {β:Type} (n:Int) (K:Nat->Option β):wJ (.int .i64 n) K=aa (decide (0<=n)) (K n.toNat) none:=(rfl)
@[go_sem] theorem aaz {β:Type} (n:Nat) (K:Nat->Option β):wJ (.int .i64 (n:Int)) K=K n:=by simp [wJ,aa]
@[go_sem] theorem YM (a b:Nat):Nat.ble a b=decide (a<=b):=by rw [Bool.eq_iff_iff];simp
@[go_sem] theorem aaA (a b:Nat):Nat.blt a b=decide (a < b):=by rw [Bool.eq_iff_iff];simp [Nat.blt];omega
@[go_sem] theorem aaB (a b:Nat):Nat.beq a b=decide (a=b):=by rw [Bool.eq_iff_iff];simp
@[go_sem] theorem aaC (H:af) (c:List Value):dr H c=H++[some ⟨c,false,none⟩]:=(rfl)
@[go_sem] theorem YN (H L:af) (k:Nat):ah (H++L) (H.length+k)=ah L k:=by
 unfold ah;rw [Zq (Nat.le_add_right _ _),Nat.add_sub_cancel_left]
@[go_sem] theorem Qml (H L:af):ah (H++L) H.length=ah L 0:=YN H L 0
@[go_sem] theorem aaD (H L:af) (b k:Nat) (x:Option bx):ah (H.set b x++L) (H.length+k)=ah L k:=by
 have:=YN (H.set b x) L k;simpa using this
@[go_sem] theorem aaE (H L:af) (b:Nat) (x:Option bx):ah (H.set b x++L) H.length=ah L 0:=by
 have:=Qml (H.set b x) L;simpa using this
theorem Qrj {H L:af} {b:Nat} (h:b < H.length):ah (H++L) b=ah H b:=by
 unfold ah;rw [List.getElem?_append_left h]
theorem P7 {H:af} {b:Nat} {k:bx} (h:ah H b=some k):b < H.length:=by
 unfold ah at h
 rcases Nat.lt_or_ge b H.length with h1 | h1
 .exact h1
 .rw [List.getElem?_eq_none h1] at h;simp at h
theorem M3 {H L:af} {b:Nat} {k:bx} (h:ah H b=some k):ah (H++L) b=some k:=by rw [Qrj (P7 h),h]
theorem Qg7 {H:af} {b:Nat} {x:Option bx} (h:b < H.length):ah (H.set b x) b=x:=by
 cases x<;>simp [ah,h]
theorem FK {H:af} {b:Nat} {k:bx} (h:ah H b=some k):H.set b (some k)=H:=by
 apply List.ext_getElem?;intro i
 by_cases hi:b=i
 .subst hi
  unfold ah at h
  rcases e:H[b]? with _ | _ | x
  .rw [e] at h;simp at h
  .rw [e] at h;simp at h
  .rw [e] at h;simp at h;subst h
   rw [List.getElem?_set_self (by have:=Z0 e;exact this.1)]
 .rw [List.getElem?_set_ne hi]
@[go_sem] theorem aaF (k:Option bx) (L:af):ah (k::L) 0=k:=by cases k<;>rfl
@[go_sem] theorem aaG (k:Option bx) (L:af) (n:Nat):ah (k::L) (n+1)=ah L n:=by simp [ah]
@[go_sem] theorem aaH (H L:af) (k:Nat) (x:Option bx):(H++L).set (H.length+k) x=H++L.set k x:=by simp [List.set_append]
@[go_sem] theorem Vx (H L:af) (x:Option bx):(H++L).set H.length x=H++L.set 0 x:=by simp [List.set_append]
@[go_sem] theorem aaI (H L:af) (b k:Nat) (x y:Option bx):(H.set b y++L).set (H.length+k) x=H.set b y++L.set k x:=by simp [List.set_append]
@[go_sem] theorem aaJ (H L:af) (b:Nat) (x y:Option bx):(H.set b y++L).set H.length x=H.set b y++L.set 0 x:=by simp [List.set_append]
@[go_sem] theorem aaK (H:af) (b:Nat) (x y:Option bx):(H.set b x).set b y=H.set b y:=by simp
@[go_sem] theorem Qu9 (H L:af):(H++L).take H.length=H:=by simp
theorem aaL (H L:af) (x:Option bx):(H++x::L).take (H.length+(L.length+1))=H++x::L:=by
 have:=List.take_length (l:=H++x::L);simpa using this
@[go_sem] theorem aaM (H L:af) (b:Nat) (x:Option bx):(H.set b x++L).take H.length=H.set b x:=by
 have:=Qu9 (H.set b x) L;simpa using this
@[go_sem] theorem aaN (H:af) (b:Nat) (x:Option bx):(H.set b x).take H.length=H.set b x:=by
 have:=List.take_length (l:=H.set b x);simpa using this
@[go_sem] theorem aaO (H:af) (a:Addr):gL H a=Q1 (ah H a.block) fun k=>k.cells[a.off]?:=(rfl)
@[go_sem] theorem aaP (H:af) (a:Addr) (n:Nat):Qx H a n=Q1 (ah H a.block) fun k=>aa (decide (a.off+n<=k.cells.length)) (some ((k.cells.drop a.off).take n)) none:=by
 unfold Qx;congr 1;funext k;rw [YM];cases decide (a.off+n<=k.cells.length)<;>rfl
@[go_sem] theorem Qyc (H:af) (ai:Nat) (a:Addr) (vs:List Value):oZ H ai a vs=Q1 (ah H a.block) fun k =>
  aa (!k.ro&&vs.all az&&(vs.all Qu || decide (ai<=a.block))&&decide (a.off+vs.length<=k.cells.length))
   (some (H.set a.block (some { k with cells:=qU k.cells a.off vs }))) none:=by
 unfold oZ;congr 1;funext k;rw [YM,YM]
 cases k.ro<;>cases vs.all az<;>cases (vs.all Qu || decide (ai<=a.block))<;>cases decide (a.off+vs.length<=k.cells.length)<;>rfl
@[go_sem] theorem Qyd (k:IntKind) (n:Int):Qu (.int k n)=true:=(rfl)
@[go_sem] theorem Qxo (b:Bool):Qu (.bool b)=true:=(rfl)
@[go_sem] theorem Qye (b:ByteArray):Qu (.string b)=true:=(rfl)
@[go_sem] theorem Qyf:Qu (.slice none 0 0)=true:=(rfl)
@[go_sem] theorem Qyg (a:Addr) (n c:Nat):Qu (.slice (some a) n c)=false:=(rfl)
@[go_sem] theorem Qyh (a:Addr):Qu (.pointer (some a))=false:=(rfl)
@[go_sem] theorem Qyi (k:IntKind) (n:Int):az (.int k n)=true:=(rfl)
@[go_sem] theorem Qxp (b:Bool):az (.bool b)=true:=(rfl)
@[go_sem] theorem Qyj (b:ByteArray):az (.string b)=true:=(rfl)
@[go_sem] theorem aaQ (a:Option Addr) (n c:Nat):az (.slice a n c)=true:=(rfl)
@[go_sem] theorem aaR (a:Option Addr):az (.pointer a)=true:=(rfl)
def fin (base:Nat) (vs:List Value) (H:af):Option (Value×af):=Q1 (vt .drop base vs H) fun r=>some (iK r.1,r.2)
def BW:Value->Bool
 | .agg cs=>cs.toList.all Qu
 | v=>Qu v
theorem Q72 (base:Nat) (H:af) (olds:List Nat):∀ l:List Value,l.all Qu=true->BG base H olds l=some (l,olds)
 | [],_=>rfl
 | v::r,h=>by
  simp only [List.all_cons,Z8] at h
  have hv:CT base H olds v=some (v,olds):=by
   have h1:=h.1
   unfold CT
   split
   .simp [Qu] at h1
   .simp [Qu] at h1
   .simp [h1]
  simp [BG,hv,Q1,Q72 base H olds r h.2]
theorem Qku (base:Nat) (H:af) (olds:List Nat) (v:Value) (h:BW v=true):JR base H olds v=some (v,olds):=by
 unfold JR
 split
 .rename_i cs
  simp only [BW] at h
  rw [Q72 _ _ _ _ h];simp [Q1]
 .rename_i hn
  have h1:Qu v=true:=by unfold BW at h;split at h<;>first | exact h | exact absurd rfl (hn _)
  unfold CT
  split
  .simp [Qu] at h1
  .simp [Qu] at h1
  .simp [h1]
theorem Qa5 (base:Nat) (H:af) (olds:List Nat):∀ l:List Value,l.all BW=true->wK base H olds l=some (l,olds)
 | [],_=>rfl
 | v::r,h=>by
  simp only [List.all_cons,Z8] at h
  simp [wK,Qku base H olds v h.1,Q1,Qa5 base H olds r h.2]
@[go_sem] theorem aaS (base:Nat) (vs:List Value) (H:af) (h:vs.all BW=true):fin base vs H=some (iK vs,H.take base):=by
 unfold fin vt;simp [Qa5 base H [] vs h,Q1]
@[go_sem] theorem Qyk (k:IntKind) (n:Int):BW (.int k n)=true:=(rfl)
@[go_sem] theorem Qxq (b:Bool):BW (.bool b)=true:=(rfl)
@[go_sem] theorem Qyl (b:ByteArray):BW (.string b)=true:=(rfl)
@[go_sem] theorem Qym:BW (.slice none 0 0)=true:=(rfl)
@[go_sem] theorem Qyn (cs:Array Value):BW (.agg cs)=cs.toList.all Qu:=(rfl)
@[go_sem] theorem aaT (v:Value):iK [v]=v:=(rfl)
@[go_sem] theorem aaU (u v:Value) (l:List Value):iK (u::v::l)=.tuple (u::v::l).toArray:=(rfl)
@[go_sem] theorem aaV (H:af):H.take H.length=H:=List.take_length
attribute [go_sem] Zf List.length_set Z9 Zb List.append_assoc List.cons_append List.nil_append List.append_nil List.set_cons_zero List.set_cons_succ List.all_cons List.all_nil List.take_succ_cons List.take_zero List.drop_succ_cons List.drop_zero List.take_nil List.drop_nil List.getElem?_cons_zero List.getElem?_cons_succ qU Nat.reduceAdd Nat.reduceLeDiff Nat.reduceLT Nat.reduceMul Nat.add_zero Zo Bool.and_true Zg Bool.not_false Zl Bool.true_or Bool.false_or Bool.or_true Bool.or_false Bool.and_false Bool.false_and decide_true decide_false Nat.add_assoc Nat.zero_mul Nat.one_mul Nat.mul_one
def W (e:Option (Value×af)) (Q:Value->af->Prop):Prop:=∃ v H,e=some (v,H)/\Q v H
def Dx (g:Option (Nat×bx)) (G:af):Prop:=∀ c B,g=some (c,B)->B.ro=true/\ah G c=some B
def wO (g:Option (Nat×bx)) (m:Nat) (k:bx):Prop:=∃ a l e,∃ t s:Int,k=⟨[.slice a l e,.int .i64 t,.int .u64 s],false,none⟩/\0<=t/\t<=m /\
 (l=0\/∃ p B,a=some p/\g=some (p.block,B)/\∀ i,i < l->∃ x:Int,B.cells[p.off+i]? = some (.int .u8 x)/\0<=x/\x < 256)
def Cu (g:Option (Nat×bx)) (m:Nat) (G:af) (b:Nat):Prop:=∃ k,ah G b=some k/\Dx g G/\wO g m k
theorem wO.mono {g:Option (Nat×bx)} {m n:Nat} {k:bx} (h:wO g m k) (hn:m<=n):wO g n k:=by
 obtain ⟨a,l,e,t,s,h1,h2,h3,h4⟩:=h;exact ⟨a,l,e,t,s,h1,h2,by omega,h4⟩
theorem Cu.mono {g:Option (Nat×bx)} {m n:Nat} {G:af} {b:Nat} (h:Cu g m G b) (hn:m<=n):Cu g n G b:=by
 obtain ⟨k,h1,h2,h3⟩:=h;exact ⟨k,h1,h2,h3.mono hn⟩
theorem Cu.lt {g:Option (Nat×bx)} {m:Nat} {G:af} {b:Nat} (h:Cu g m G b):b < G.length:=by
 obtain ⟨k,h1,_,_⟩:=h;exact P7 h1
theorem Dx.app {g:Option (Nat×bx)} {G:af} (h:Dx g G) (L:af):Dx g (G++L) :=
 fun c B e=>⟨(h c B e).1,M3 (h c B e).2⟩
theorem Dx.set {g:Option (Nat×bx)} {G:af} (h:Dx g G) {b:Nat} {k:bx} (hk:ah G b=some k) (hr:k.ro=false) (x:Option bx):Dx g (G.set b x):=by
 intro c B e
 obtain ⟨h1,h2⟩:=h c B e
 refine ⟨h1,?_⟩
 have hbc:b≠c:=by rintro rfl;rw [hk] at h2;injection h2 with h2;subst h2;rw [h1] at hr;exact absurd hr (by decide)
 rw [Qn hbc];exact h2
theorem wO.ro {g:Option (Nat×bx)} {m:Nat} {k:bx} (h:wO g m k):k.ro=false:=by
 obtain ⟨a,l,e,t,s,h1,_⟩:=h;subst h1;rfl
theorem Cu.app {g:Option (Nat×bx)} {m:Nat} {G:af} {b:Nat} (h:Cu g m G b) (L:af):Cu g m (G++L) b:=by
 obtain ⟨k,h1,h2,h3⟩:=h;exact ⟨k,M3 h1,h2.app L,h3⟩
theorem Cu.set {g:Option (Nat×bx)} {m n:Nat} {G:af} {b:Nat} {k:bx} (h:Cu g m G b) (hk:wO g n k):Cu g n (G.set b (some k)) b:=by
 obtain ⟨k0,h1,h2,h3⟩:=h
 exact ⟨k,by rw [Qg7 (P7 h1)],h2.set h1 h3.ro _,hk⟩
theorem Cu.step {g:Option (Nat×bx)} {m n:Nat} {G:af} {b:Nat} {k:bx} (h:Cu g m G b) (hk:wO g n k) (L:af):Cu g n (G.set b (some k)++L) b:=(h.set hk).app L
theorem Cu.new {g:Option (Nat×bx)} {n:Nat} {G:af} {k:bx} (h:Dx g G) (hk:wO g n k) (L:af):Cu g n (G++some k::L) G.length:=by
 refine ⟨k,?_,h.app _,hk⟩
 rw [Qml];rfl
@[go_sem] theorem Qyo (k:IntKind) (a:Int):jS (some (.int k a)) (some (.int k a))=true:=by simp [jS,Qa]
@[go_sem] theorem Qxr (a:Bool):jS (some (.bool a)) (some (.bool a))=true:=by simp [jS,Qa]
@[go_sem] theorem aaW (a:Option Addr) (n c:Nat):jS (some (.slice a n c)) (some (.slice a n c))=true:=by simp [jS,Qa]
theorem Qd5 (v:Value) (h:Qu v=true):Qa v v=true:=by
 unfold Qu at h
 split at h<;>simp_all [Qa]
theorem Qa6:∀ l:List Value,l.all Qu=true->BD l l=true
 | [],_=>rfl
 | v::r,h=>by
  simp only [List.all_cons,Z8] at h
  simp [BD,Qd5 v h.1,Qa6 r h.2]
@[go_sem] theorem Re (l:List Value) (h:l.all Qu=true):jS (some (.agg l.toArray)) (some (.agg l.toArray))=true:=by
 simp [jS,Qa6 l h]
attribute [go_sem] Int.reduceBEq Int.reduceBNe Int.reduceLT Int.reduceLE Int.reduceGT Int.reduceGE
def YO (g:Option (Nat×bx)) (a:Option Addr) (l:Nat):Prop :=
 l=0\/∃ p B,a=some p/\g=some (p.block,B)/\∀ i,i < l->∃ x:Int,B.cells[p.off+i]? = some (.int .u8 x)/\0<=x/\x < 256
theorem wO.new {g:Option (Nat×bx)} {a:Option Addr} {l:Nat} (h:YO g a l) (e:Nat):wO g 0 ⟨[.slice a l e,.int .i64 0,.int .u64 0],false,none⟩ :=
 ⟨a,l,e,0,0,rfl,by omega,by omega,h⟩
theorem Cu.loc {g:Option (Nat×bx)} {n i:Nat} {G L:af} {k:bx} (h:Dx g G) (hk:wO g n k) (hl:ah L i=some k):Cu g n (G++L) (G.length+i) :=
 ⟨k,by rw [YN];exact hl,h.app _,hk⟩
open Go.Ev Go.ChangeAt Go.RowKit Go.WideShapes Go.ChangeShapes
theorem Qe5 {w:World} {a:Addr} {v:Value} (h:w.cell? a=some v):∃ fm n,w.shape? a.block=some (fm,n)/\a.off < n/\a.spot=none:=by
 unfold World.cell? at h
 unfold World.shape?
 split at h
 .rename_i c e q he
  split at h
  .simp at h
  .rename_i hs
   refine ⟨e,c.size,rfl,?_,by simpa using hs⟩
   rcases Nat.lt_or_ge a.off c.size with h1 | h1
   .exact h1
   .rw [Array.getElem?_eq_none h1] at h;simp at h
 .simp at h
end Go.Ek
namespace Go.Pv
open Go.Ev
inductive Ty where
 | int (k:IntKind)
 | bool
 | str
 | sl (t:Ty)
 | os (t:Ty)
 | pair (a b:Ty)
@[reducible] def Ty.T:Ty->Type
 | .int _=>Int
 | .bool=>Bool
 | .str=>ByteArray
 | .sl t=>List t.T
 | .os t=>List t.T
 | .pair a b=>a.T×b.T
def Ty.size:Ty->Nat
 | .pair a b=>a.size+b.size
 | _=>1
def Ty.beq:Ty->Ty->Bool
 | .int k,.int l=>decide (k=l)
 | .bool,.bool=>true
 | .str,.str=>true
 | .sl a,.sl b=>a.beq b
 | .os a,.os b=>a.beq b
 | .pair a b,.pair c d=>a.beq c&&b.beq d
 | _,_=>false
theorem Ty.beq_eq:∀ {a b:Ty},a.beq b=true->a=b
 | .int k,b,h=>by cases b<;>simp_all [Ty.beq]
 | .bool,b,h=>by cases b<;>simp_all [Ty.beq]
 | .str,b,h=>by cases b<;>simp_all [Ty.beq]
 | .sl a,b,h=>by
  cases b<;>simp only [Ty.beq,Bool.false_eq_true] at h
  rw [Ty.beq_eq h]
 | .os a,b,h=>by
  cases b<;>simp only [Ty.beq,Bool.false_eq_true] at h
  rw [Ty.beq_eq h]
 | .pair a c,b,h=>by
  cases b<;>simp only [Ty.beq,Bool.false_eq_true,Z8] at h
  rw [Ty.beq_eq h.1,Ty.beq_eq h.2]
def fU (a b:Ty) (x:a.T):Option b.T:=if h:a.beq b=true then some ((Ty.beq_eq h)▸x) else none
def Ty.flat:Ty->Bool
 | .sl _=>false
 | .os _=>false
 | .pair a b=>a.flat&&b.flat
 | _=>true
def Ty.jC:Ty->Bool
 | .os t=>t.flat
 | _=>false
def Ty.iL:Ty->Bool
 | .os _=>true
 | _=>false
def Ty.jD:Ty->Bool
 | .sl _=>false
 | .os t=>t.flat || t.jC
 | .pair a b=>a.jD&&b.jD
 | _=>true
def Ty.dG:Ty->Bool
 | .os _=>true
 | .pair a b=>a.dG || b.dG
 | _=>false
abbrev TV:=(t:Ty)×t.T
@[reducible] def jv:List Ty->Type
 | []=>Unit
 | [t]=>t.T
 | t::u::r=>t.T×jv (u::r)
def ff:(ts:List Ty)->jv ts->List TV
 | [],_=>[]
 | [t],x=>[⟨t,x⟩]
 | t::u::r,x=>⟨t,x.1⟩::ff (u::r) x.2
def nh:(ts:List Ty)->List TV->Option (jv ts)
 | [],[]=>some ()
 | [t],[v]=>fU v.1 t v.2
 | t::u::r,v::vs=>Q1 (fU v.1 t v.2) fun x=>Q1 (nh (u::r) vs) fun y=>some (x,y)
 | _,_=>none
inductive PV where
 | int (k:IntKind) (n:Int)
 | bool (b:Bool)
 | str (s:ByteArray)
 | nil
 | vS
 | ro (st:Nat) (t:Ty) (x:List t.T)
 | rp (st:Nat) (t:Ty) (x:t.T)
 | a_ (b off:Nat) (n:Option Nat)
 | ep (b j fo:Nat)
 | ptr (b off:Nat)
 | dp (b off n:Nat) (u:Ty) (k:Nat)
 | fn (f:FuncId) (first cap:List PV)
 | agg (cs:List PV)
 | kQ (cs:List PV)
 | undef
 | hole
 | rw (b i aB:Nat) (t:Ty) (x:List t.T)
 | rq (b aB:Nat) (t:Ty) (x:t.T)
 | mp (b:Nat)
inductive Body where
 | cells (cs:List PV)
 | arr (t:Ty) (xs:List t.T)
 | rows (t:Ty) (xs:List (List t.T)) (h:Option Nat)
 | mp (es:List (Int×Int))
def E_:(u:Ty)->List u.T->Body
 | .os t,xs=>match t.flat with
  | true=>.rows t xs none
  | false=>.arr (.os t) xs
 | .int k,xs=>.arr (.int k) xs
 | .bool,xs=>.arr .bool xs
 | .str,xs=>.arr .str xs
 | .sl t,xs=>.arr (.sl t) xs
 | .pair a b,xs=>.arr (.pair a b) xs
structure VB where
 aB:Nat
 rw:Bool
 body:Body
structure LS where
 bl:List (Option VB)
 cu:Nat
abbrev bA:=List (Nat×PV)
def dD:bA->Nat->Option PV
 | [],_=>none
 | (s,v)::r,t=>match Nat.beq s t with | true=>some v | false=>dD r t
def Qi (L:LS) (b:Nat):Option VB:=match L.bl[b]? with | some (some k)=>some k | _=>none
def cW (L:LS) (b:Nat) (B:VB):LS:=⟨L.bl.set b (some B),L.cu⟩
def mV (L:LS) (b:Nat):LS:=⟨L.bl.set b none,L.cu⟩
def Qv (L:LS) (B:Body):LS:=⟨L.bl++[some ⟨0,true,B⟩],L.cu⟩
def mU:PV->List PV
 | .agg cs=>cs
 | v=>[v]
def okV:PV->Bool
 | .fn _ _ _=>false
 | .undef=>false
 | .kQ _=>false
 | .hole=>false
 | .mp _=>false
 | _=>true
def gP:PV->Bool
 | .agg _=>false
 | v=>okV v
def gk (st:Nat):(t:Ty)->t.T->List PV
 | .int k,x=>[.int k x]
 | .bool,x=>[.bool x]
 | .str,x=>[.str x]
 | .sl t,x=>[.ro st t x]
 | .os _,_=>[.hole]
 | .pair a b,x=>gk st a x.1++gk st b x.2
def kT:Ty->List PV->PV
 | .pair _ _,l=>.agg l
 | _,[v]=>v
 | _,_=>.undef
def sub:(t u:Ty)->Nat->t.T->Option u.T
 | .pair a b,u,o,x=>match Nat.beq o 0,Ty.beq (.pair a b) u with
  | true,true=>fU (.pair a b) u x
  | _,_=>match Nat.blt o a.size with
   | true=>sub a u o x.1
   | false=>sub b u (o - a.size) x.2
 | t,u,o,x=>match Nat.beq o 0 with
  | true=>fU t u x
  | false=>none
def BX:(t u:Ty)->Nat->t.T->u.T->Option t.T
 | .pair a b,u,o,x,y=>match Nat.beq o 0,Ty.beq (.pair a b) u with
  | true,true=>fU u (.pair a b) y
  | _,_=>match Nat.blt o a.size with
   | true=>Q1 (BX a u o x.1 y) fun z=>some (z,x.2)
   | false=>Q1 (BX b u (o - a.size) x.2 y) fun z=>some (x.1,z)
 | t,u,o,_,y=>match Nat.beq o 0 with
  | true=>fU u t y
  | false=>none
def cut {α:Type} (xs:List α) (off:Nat):Option Nat->List α
 | none=>xs.drop off
 | some n=>(xs.drop off).take n
def kS (L:LS) (v:PV) (t:Ty):Option (List t.T) :=
 match v with
 | .nil=>some []
 | .ro _ u x=>fU (.sl u) (.sl t) x
 | .a_ b off n=>match Qi L b with
  | some ⟨_,_,.arr u xs⟩=>fU (.sl u) (.sl t) (cut xs off n)
  | some ⟨_,true,.rows u xs none⟩=>fU (.sl (.sl u)) (.sl t) (cut xs off n)
  | _=>none
 | .rw b _ aB u x=>match Qi L b with
  | some ⟨v,true,.rows _ _ _⟩=>match Nat.beq v aB with
   | true=>fU (.sl u) (.sl t) x
   | false=>none
  | _=>none
 | _=>none
def cP (L:LS) (b:Nat):LS :=
 match Qi L b with
 | some ⟨v,true,.arr t xs⟩=>cW L b ⟨v+1,false,.arr t xs⟩
 | some ⟨v,true,.rows t xs none⟩=>cW L b ⟨v+1,false,.arr (.sl t) xs⟩
 | _=>L
def freeze (L:LS):PV->LS
 | .a_ b _ _=>cP L b
 | _=>L
def Ru:PV->Bool
 | .rw _ _ _ _ _=>false
 | _=>true
def refl (fz:Bool):(t:Ty)->List PV->LS->Option (t.T×LS)
 | .int k,cs,L=>match cs with
  | [.int k' n]=>if k'=k then some (n,L) else none
  | _=>none
 | .bool,cs,L=>match cs with
  | [.bool b]=>some (b,L)
  | _=>none
 | .str,cs,L=>match cs with
  | [.str s]=>some (s,L)
  | _=>none
 | .sl t,cs,L=>match cs with
  | [v]=>Q1 (kS L v t) fun x=>match !fz || Ru v with
   | true=>some (x,match fz with | true=>freeze L v | false=>L)
   | false=>none
  | _=>none
 | .os _,_,_=>none
 | .pair a b,cs,L=>Q1 (refl fz a (cs.take a.size) L) fun r=>Q1 (refl fz b (cs.drop a.size) r.2) fun q=>some ((r.1,q.1),q.2)
def rA (u:Ty) (v:PV) (L:LS):Option (List u.T×LS) :=
 match v with
 | .nil=>some ([],L)
 | .a_ b off no=>match Qi L b with
  | some ⟨_,true,.arr w xs⟩=>match w.iL with
   | true=>none
   | false=>Q1 (fU (.sl w) (.sl u) (cut xs off no)) fun x=>some (x,mV L b)
  | some ⟨_,true,.rows w xs none⟩=>match off,no with
   | 0,none=>Q1 (fU (.sl (.os w)) (.sl u) xs) fun x=>some (x,mV L b)
   | _,_=>none
  | _=>none
 | .rw b i aB w x=>match Qi L b with
  | some ⟨v,true,.rows t xs none⟩=>match Nat.beq v aB with
   | true=>Q1 (fU (.sl w) (.sl u) x) fun x=>some (x,cW L b ⟨v+1,true,.rows t xs (some i)⟩)
   | false=>none
  | _=>none
 | _=>none
def ID:(t:Ty)->List PV->LS->Option (t.T×LS)
 | .os u,cs,L=>match cs with
  | [v]=>rA u v L
  | _=>none
 | .pair a b,cs,L=>Q1 (ID a (cs.take a.size) L) fun r=>Q1 (ID b (cs.drop a.size) r.2) fun q=>some ((r.1,q.1),q.2)
 | .int k,cs,L=>refl true (.int k) cs L
 | .bool,cs,L=>refl true .bool cs L
 | .str,cs,L=>refl true .str cs L
 | .sl t,cs,L=>refl true (.sl t) cs L
def nv:(t:Ty)->t.T->LS->List PV×LS
 | .os u,x,L=>([.a_ L.bl.length 0 none],Qv L (E_ u x))
 | .pair a b,x,L=>((nv a x.1 L).1++(nv b x.2 (nv a x.1 L).2).1,(nv b x.2 (nv a x.1 L).2).2)
 | .int k,x,L=>(gk L.cu (.int k) x,L)
 | .bool,x,L=>(gk L.cu .bool x,L)
 | .str,x,L=>(gk L.cu .str x,L)
 | .sl t,x,L=>(gk L.cu (.sl t) x,L)
def NJ:Ty->PV->Bool
 | .pair _ _,.agg _=>true
 | .pair _ _,_=>false
 | _,.agg _=>false
 | _,_=>true
def vG (o:Bool) (t:Ty) (v:PV) (L:LS):Option (TV×LS) :=
 match o with
 | false=>match okV v&&NJ t v with
  | true=>Q1 (ID t (mU v) L) fun x=>some (⟨t,x.1⟩,x.2)
  | false=>none
 | true=>match t with
  | .sl u=>Q1 (rA u v L) fun x=>some (⟨.sl u,x.1⟩,x.2)
  | _=>none
def Ke (o:Bool) (v:TV) (L:LS):PV×LS :=
 match o,v with
 | true,⟨.sl u,x⟩=>(.a_ L.bl.length 0 none,Qv L (E_ u x))
 | _,⟨t,x⟩=>(kT t (nv t x L).1,(nv t x L).2)
def J0 (t:Ty) (b:Nat) (L:LS):Option (TV×LS) :=
 match Qi L b with
 | some ⟨_,true,.cells cs⟩=>Q1 (ID t cs L) fun x=>some (⟨t,x.1⟩,x.2)
 | _=>none
def JZ (t:Ty) (b:Nat) (L:LS):Option TV :=
 match Qi L b with
 | some ⟨_,true,.arr u xs⟩=>match u.iL with
  | true=>none
  | false=>Q1 (fU (.sl u) (.sl t) xs) fun x=>some ⟨.sl t,x⟩
 | _=>none
def Fk:Ty:=.os (.sl (.pair (.int .i64) (.int .i64)))
def Rk (t:Ty) (b:Nat) (L:LS):Option TV :=
 match Qi L b with
 | some ⟨_,true,.mp es⟩=>Q1 (fU (.sl Fk) (.sl t) [[es]]) fun x=>some ⟨.sl t,x⟩
 | some ⟨_,true,.rows u xs none⟩=>Q1 (fU (.sl (.os u)) (.sl t) xs) fun x=>some ⟨.sl t,x⟩
 | _=>JZ t b L
def Dp (b:Nat) (v:TV) (L:LS):Option LS :=
 match Qi L b with
 | some ⟨n,true,.cells cs⟩=>match Nat.beq cs.length v.1.size with
  | true=>some (cW L b ⟨n+1,true,.cells (gk L.cu v.1 v.2)⟩)
  | false=>none
 | _=>none
def QX (b:Nat) (v:TV) (L:LS):Option LS :=
 match v.1.dG with
 | false=>some L
 | true=>match Qi L b with
  | some ⟨n,true,.cells _⟩=>some (cW (nv v.1 v.2 L).2 b ⟨n+1,true,.cells (nv v.1 v.2 L).1⟩)
  | _=>none
def Dn (b:Nat) (v:TV) (L:LS):Option LS :=
 match Qi L b,v with
 | some ⟨n,true,.arr u xs⟩,⟨.sl t,x⟩=>match Ty.beq u t with
  | true=>some (cW L b ⟨n+1,true,.arr t x⟩)
  | false=>none
 | _,_=>none
def CC:List (List (List (Int×Int)))->List (Int×Int)
 | [[es]]=>es
 | _=>[]
def IM (b:Nat) (v:TV) (L:LS):Option LS :=
 match v with
 | ⟨.sl (.os (.sl (.pair (.int .i64) (.int .i64)))),x⟩=>match Qi L b with
  | some ⟨n,true,.mp _⟩=>some (cW L b ⟨n+1,true,.mp (CC x)⟩)
  | _=>none
 | v=>match Qi L b,v with
  | some ⟨n,true,.rows u xs none⟩,⟨.sl (.os t),x⟩=>match Ty.beq u t with
   | true=>some (cW L b ⟨n+1,true,.rows t x none⟩)
   | false=>none
  | _,v=>Dn b v L
inductive PM where
 | ro
 | mv
 | io
 | ps
 | cl (g:FuncId)
structure oM where
 params:List (PM×Ty)
 results:List (Bool×Ty)
def II:List (PM×Ty)->List Ty
 | []=>[]
 | (.io,t)::r=>t::II r
 | (.ps,t)::r=>t::II r
 | _::r=>II r
def oM.eG (s:oM):List Ty:=s.params.map (·.2)
def oM.cY (s:oM):List Ty:=s.results.map (·.2)++II s.params
def oM.al (s:oM):Bool :=
 (s.results.any fun r=>match r with | (true,.sl t) => !(t.flat || t.jC) | (_,t) => !t.jD) ||
 (s.params.any fun p=>match p with | (.ps,t) => !t.jD | (.io,.sl t) => !t.flat | (.mv,.sl t) => !(t.flat || t.jC) | _=>false)
structure gG where
 bH:List (Nat×Bool×Ty)
 ET:List (Nat×Ty)
 abs:List (Nat×Ty)
 fzs:List Nat
def gG.Ay (a:gG):List Ty:=(a.bH.map fun s=>s.2.2)++((a.ET.map fun s=>s.2)++(a.abs.map fun s=>Ty.sl s.2))
structure cL where
 fuel:Nat
 sig:FuncId->oM
 loops:FuncId->Nat->gG
 jz:FuncId->Nat->List (Nat×Value)
 inline:FuncId->Bool
 own:FuncId->Bool
 ext:FuncId->Option (List Value->Nat->Go.Ev.af->Option (Value×Go.Ev.af))
 vH:(f:FuncId)->Option (jv (sig f).eG->Option (jv (sig f).cY))
structure nj (A:cL) (β:Type) where
 P:Program
 call:(f:FuncId)->jv (A.sig f).eG->Option (jv (A.sig f).cY)
 inl:FuncId->List PV->LS->(PV->LS->Option β)->Option β
 nt:Nat
 own:Bool
 cV:Nat->gG
 eZ:Nat->List (Nat×Value)
def A_:Value->Option PV
 | .bool b=>some (.bool b)
 | .int k n=>some (.int k n)
 | .string s=>some (.str s)
 | .pointer none=>some .vS
 | .slice none 0 0=>some .nil
 | _=>none
def wN:List Value->Option (List PV)
 | []=>some []
 | v::r=>Q1 (A_ v) fun x=>Q1 (wN r) fun l=>some (x::l)
def Rv:Value->Option PV
 | .agg cs=>Q1 (wN cs.toList) fun l=>some (.agg l)
 | v=>A_ v
def eA (env:bA):Operand->Option PV
 | .tmp t=>dD env t
 | .const v=>Rv v
 | .func f=>some (.fn (kB f) [] [])
 | .global _=>none
def Fm (env:bA):List Operand->Option (List PV)
 | []=>some []
 | x::r=>Q1 (eA env x) fun v=>Q1 (Fm env r) fun l=>some (v::l)
def Ku (env:bA):List (Nat×Operand)->Option (List (Nat×PV))
 | []=>some []
 | (i,x)::r=>Q1 (eA env x) fun v=>Q1 (Ku env r) fun l=>some ((i,v)::l)
def Oh:PV->Option Value
 | .int k n=>some (.int k n)
 | .bool b=>some (.bool b)
 | .str s=>some (.string s)
 | _=>none
def Oi:List PV->Option (List Value)
 | []=>some []
 | v::r=>Q1 (Oh v) fun x=>Q1 (Oi r) fun l=>some (x::l)
def sc:PV->Option Value
 | .agg cs=>Q1 (Oi cs) fun l=>some (.agg l.toArray)
 | v=>Oh v
def YP:Value->PV
 | .int k n=>.int k n
 | .bool b=>.bool b
 | .string s=>.str s
 | _=>.undef
def Fl:Nat->Ty->Ty
 | 0,u=>u
 | 1,u=>u
 | n+2,u=>.pair u (Fl (n+1) u)
def ri (g:TypeId->Option Ty):List Field->Option Ty
 | []=>none
 | [f]=>g f.type
 | f::h::r=>Q1 (g f.type) fun a=>Q1 (ri g (h::r)) fun b=>some (.pair a b)
def jG (P:Program):Nat->TypeId->Option Ty
 | 0,_=>none
 | n+1,t=>match P.underlying t with
  | some .bool=>some .bool
  | some (.int k)=>some (.int k)
  | some .string=>some .str
  | some (.slice e)=>Q1 (jG P n e) fun u=>some (.sl u)
  | some (.struct fs)=>match fs.toList with
   | f::h::r=>ri (jG P n) (f::h::r)
   | _=>none
  | some (.array k e)=>Q1 (jG P n e) fun u=>match Nat.ble 2 k&&u.flat with
   | true=>some (Fl k u)
   | false=>none
  | _=>none
def Kv:Value->PV->Bool
 | .int k _,.int k' _=>decide (k'=k)
 | .int _ _,_=>false
 | .bool _,.bool _=>true
 | .bool _,_=>false
 | .string _,.str _=>true
 | .string _,_=>false
 | .slice _ _ _,.nil=>true
 | .slice _ _ _,.ro _ _ _=>true
 | .slice _ _ _,.a_ _ _ _=>true
 | .slice _ _ _,.rw _ _ _ _ _=>true
 | .slice _ _ _,_=>false
 | .pointer none,.vS=>true
 | .pointer _,.ptr _ _=>true
 | .pointer _,.ep _ _ _=>true
 | .pointer _,.rp _ _ _=>true
 | .pointer _,.rq _ _ _ _=>true
 | .pointer _,.dp _ _ _ _ _=>true
 | .pointer _,_=>false
 | .nilFunc,.fn _ _ _=>true
 | .nilFunc,_=>false
 | .map none,.mp _=>true
 | _,_=>false
def Kw:List Value->List PV->Bool
 | [],[]=>true
 | t::ts,v::vs=>Kv t v&&Kw ts vs
 | _,_=>false
def ny:Value->PV->Bool
 | .agg zs,.agg cs=>Kw zs.toList cs
 | .agg _,_=>false
 | t,v=>Kv t v
def Kx:List Value->List PV->Bool
 | [],[]=>true
 | t::ts,v::vs=>ny t v&&Kx ts vs
 | _,_=>false
def Dq:Value->PV->Bool
 | .tuple zs,.kQ cs=>Kx zs.toList cs
 | .tuple _,_=>false
 | t,v=>ny t v
def N5 (l:List PV) (off:Nat) (vs:List PV):List PV:=l.take off++vs++l.drop (off+vs.length)
def Ko (place:Nat->Option (Nat×Nat)) (cells:List PV):List (Nat×PV)->Option (List PV)
 | []=>some cells
 | (i,v)::r=>match place i with
  | none=>none
  | some (off,size)=>match okV v,Nat.beq (mU v).length size,Nat.ble (off+(mU v).length) cells.length with
   | true,true,true=>Ko place (N5 cells off (mU v)) r
   | _,_,_=>none
section ops
variable {A:cL} {β:Type}
def Iw (v:PV) (K:Nat->Option β):Option β:=match v with | .int .i64 n=>aa (decide (0<=n)) (K n.toNat) none | _=>none
def oT (v:PV) (K:Nat->Option β):Option β:=match v with | .int _ n=>aa (decide (0<=n)) (K n.toNat) none | _=>none
def AW (env:bA) (x:Option Operand) (K:Option Nat->Option β):Option β :=
 match x with
 | none=>K none
 | some y=>Q1 (eA env y) fun v=>Iw v fun n=>K (some n)
def Rp (off k:Nat):Nat:=match off with | 0=>k | o+1=>o+1+k
def Dr (v:PV) (K:Nat->Option β):Option β:=match v with | .mp b=>K b | _=>none
def A8 (v:PV) (K:Int->Option β):Option β:=match v with | .int .i64 n=>K n | _=>none
def lmap (L:LS) (b:Nat):Option (Nat×List (Int×Int)):=match Qi L b with | some ⟨aB,true,.mp es⟩=>some (aB,es) | _=>none
def YQ (ok:Bool) (x:Option Int):PV:=match ok with
 | true=>.kQ [.int .i64 (x.getD 0),.bool x.isSome]
 | false=>.int .i64 (x.getD 0)
def iX (L:LS) (v:PV):Option Nat :=
 match v with
 | .nil=>some 0
 | .ro _ _ x=>some x.length
 | .a_ _ _ (some n)=>some n
 | .a_ b off none=>match Qi L b with
  | some ⟨_,_,.arr _ xs⟩=>some (xs.length - off)
  | some ⟨_,_,.rows _ xs _⟩=>match off with
   | 0=>some xs.length
   | _=>none
  | _=>none
 | .rw _ _ _ _ x=>some x.length
 | _=>none
def N6 (P:Program) (t:TypeId) (cs:List PV) (off:Nat):Option PV :=
 Q1 (P.info? t) fun i=>match P.underlying t with
  | some (.struct _)=>match Nat.ble (off+i.size) cs.length with
   | true=>some (.agg ((cs.drop off).take i.size))
   | false=>none
  | some (.array _ _)=>match Nat.ble (off+i.size) cs.length with
   | true=>some (.agg ((cs.drop off).take i.size))
   | false=>none
  | some _=>cs[off]?
  | none=>none
def IU (u:Ty):Nat->List PV->LS->Option (List u.T)
 | 0,_,_=>some []
 | n+1,cs,L=>Q1 (refl false u (cs.take u.size) L) fun x=>Q1 (IU u n (cs.drop u.size) L) fun r=>some (x.1::r)
def Rt:(n:Nat)->(u:Ty)->List u.T->Option (Fl n u).T
 | 0,_,_=>none
 | 1,_,l=>match l with
  | [x]=>some x
  | _=>none
 | n+2,u,l=>match l with
  | x::r=>Q1 (Rt (n+1) u r) fun y=>some (x,y)
  | []=>none
def Oe (n:Nat) (u:Ty) (xs:List u.T) (k:Nat) (y:u.T):Option (Fl n u).T:=match Nat.blt k xs.length with
 | true=>Rt n u (xs.set k y)
 | false=>none
noncomputable def both (x y:Option β):Option β:=@ite _ (x=y) (Classical.propDecidable _) x none
noncomputable def Jo (n:Nat) (a b:Option β):Option β:=match n with
 | 0=>both a b
 | _+1=>b
def Ys (P:Program) (op:BinOp) (t:TypeId) (L:LS) (v u:PV):Option (Option Nat×Bool) :=
 match u,P.underlying t,op with
 | .nil,some (.slice _),.eql=>match v with
  | .nil=>some (none,false)
  | v=>Q1 (iX L v) fun n=>some (some n,false)
 | .nil,some (.slice _),.neq=>match v with
  | .nil=>some (none,true)
  | v=>Q1 (iX L v) fun n=>some (some n,true)
 | _,_,_=>none
def J4 (L:LS) (v:PV) (lo hi:Option Nat) (K:PV->Option β):Option β :=
 match v with
 | .nil=>match lo,hi with
  | none,none=>K .nil
  | some l,none=>aa (Nat.ble l 0) (K .nil) none
  | none,some h=>aa (Nat.ble h 0) (K .nil) none
  | some l,some h=>aa (Nat.ble l h&&Nat.ble h 0) (K .nil) none
 | .ro st t x=>match lo,hi with
  | none,none=>K (.ro st t x)
  | some l,none=>aa (Nat.ble l x.length) (K (.ro st t (x.drop l))) none
  | none,some h=>aa (Nat.ble h x.length) (K (.ro st t (x.take h))) none
  | some l,some h=>aa (Nat.ble l h&&Nat.ble h x.length) (K (.ro st t ((x.take h).drop l))) none
 | .rw b i aB t x=>match lo,hi with
  | none,none=>K (.rw b i aB t x)
  | some l,none=>aa (Nat.ble l x.length) (K (.rw b i aB t (x.drop l))) none
  | none,some h=>aa (Nat.ble h x.length) (K (.rw b i aB t (x.take h))) none
  | some l,some h=>aa (Nat.ble l h&&Nat.ble h x.length) (K (.rw b i aB t ((x.take h).drop l))) none
 | .a_ b off n=>match Qi L b with
  | some ⟨_,_,.arr _ _⟩=>Q1 (iX L (.a_ b off n)) fun m=>match lo,hi with
   | none,none=>K (.a_ b off n)
   | some l,none=>aa (Nat.ble l m) (K (match n with | none=>.a_ b (off+l) none | some k=>.a_ b (off+l) (some (k - l)))) none
   | none,some h=>aa (Nat.ble h m) (K (.a_ b off (some h))) none
   | some l,some h=>aa (Nat.ble l h&&Nat.ble h m) (K (.a_ b (off+l) (some (h - l)))) none
  | _=>none
 | _=>none
def NA (u:Ty) (bytes:Nat) (s:PV) (ys:List u.T) (L:LS) (K:PV->LS->Option β):Option β :=
 match s with
 | .nil=>aa (Nat.ble (ys.length*bytes) Q7) (K (.a_ L.bl.length 0 none) (Qv L (.arr u ys))) none
 | .a_ b off no=>match Qi L b with
  | some ⟨_,true,.arr w xs⟩=>Q1 (fU (.sl w) (.sl u) (cut xs off no)) fun x =>
   aa (Nat.ble ((x.length+ys.length)*bytes) Q7) (K (.a_ L.bl.length 0 none) (Qv (mV L b) (.arr u (x++ys)))) none
  | _=>none
 | .rw b i aB w x=>match Qi L b with
  | some ⟨v,true,.rows t xs none⟩=>match Nat.beq v aB with
   | true=>Q1 (fU (.sl w) (.sl u) x) fun x =>
    aa (Nat.ble ((x.length+ys.length)*bytes) Q7) (K (.a_ L.bl.length 0 none) (Qv (cW L b ⟨v+1,true,.rows t xs (some i)⟩) (.arr u (x++ys)))) none
   | false=>none
  | _=>none
 | _=>none
def ND (L:LS) (t:Ty):PV->Option (List (List t.T)×LS)
 | .a_ b 0 none=>match Qi L b with
  | some ⟨_,true,.rows u xs none⟩=>Q1 (fU (.sl (.os u)) (.sl (.os t)) xs) fun x=>some (x,mV L b)
  | _=>none
 | _=>none
def J7 (L:LS):PV->Bool
 | .a_ b _ _=>match Qi L b with
  | some ⟨_,_,.rows _ _ _⟩=>true
  | _=>false
 | _=>false
def XB (t:Ty) (bytes:Nat) (s:PV) (ys:List (List t.T)) (L:LS) (K:PV->LS->Option β):Option β :=
 match s with
 | .nil=>aa (Nat.ble (ys.length*bytes) Q7) (K (.a_ L.bl.length 0 none) (Qv L (.rows t ys none))) none
 | s=>Q1 (ND L t s) fun x=>aa (Nat.ble ((x.1.length+ys.length)*bytes) Q7) (K (.a_ x.2.bl.length 0 none) (Qv x.2 (.rows t (x.1++ys) none))) none
def Iz (s:ByteArray):List Int:=s.data.toList.map fun b=>(b.toNat:Int)
def Og (l:List Int):ByteArray:=⟨(l.map fun n=>UInt8.ofNat n.toNat).toArray⟩
def m_ {α:Type} (xs:List α) (off n:Nat) (ys:List α):List α:=xs.take off++ys.take n++xs.drop (off+min ys.length n)
def s_:(t:Ty)->t.T
 | .int _=>(0:Int)
 | .bool=>false
 | .str=>⟨#[]⟩
 | .sl _=>[]
 | .os _=>[]
 | .pair a b=>(s_ a,s_ b)
def BU:Ty->List PV->Bool
 | .int k,l=>match l with
  | [.int k' n]=>decide (k'=k)&&(n==0)
  | _=>false
 | .bool,l=>match l with
  | [.bool b] => !b
  | _=>false
 | .str,l=>match l with
  | [.str s]=>s.data.toList.isEmpty
  | _=>false
 | .sl _,l=>match l with
  | [.nil]=>true
  | _=>false
 | .os _,_=>false
 | .pair a b,l=>BU a (l.take a.size)&&BU b (l.drop a.size)
def IQ (z:Value) (t:Ty):Bool:=match wN z.cells.toList with
 | some l=>BU t l
 | none=>false
def Nw {α:Type} (xs:List α) (i:Nat) (x:α):Option (List α):=match Nat.blt i xs.length with | true=>some (xs.set i x) | false=>none
def E4 (u:Ty) (xs:List u.T):List (Nat×PV)->LS->Option (List u.T×LS)
 | [],L=>some (xs,L)
 | (i,v)::r,L=>match okV v with
  | true=>Q1 (refl true u (mU v) L) fun x=>Q1 (Nw xs i x.1) fun ys=>E4 u ys r x.2
  | false=>none
def QS (L:LS) (src:PV) (w:Ty):Option (List w.T) :=
 match src with
 | .str q=>match w with
  | .int .u8=>some (Iz q)
  | _=>none
 | v=>match J7 L v with
  | true=>none
  | false=>kS L v w
def XI (P:Program) (b:Builtin) (ts:List TypeId) (vs:List PV) (L:LS) (K:PV->LS->Option β):Option β :=
 match b,ts,vs with
 | .len,[t],[.str s]=>match P.underlying t with
  | some .string=>K (.int .i64 s.size) L
  | _=>none
 | .len,[t],[v]=>match P.underlying t with
  | some (.slice _)=>Q1 (iX L v) fun n=>K (.int .i64 n) L
  | _=>none
 | .cap,[t],[.nil]=>match P.underlying t with
  | some (.slice _)=>K (.int .i64 0) L
  | _=>none
 | .min,_,[.int k x,.int k' y]=>if k=k' then K (.int k (if y < x then y else x)) L else none
 | .max,_,[.int k x,.int k' y]=>if k=k' then K (.int k (if y > x then y else x)) L else none
 | .append,[t,u],[s,x]=>Q1 (oW P t) fun (e,size,bytes,z)=>Q1 (jG P 8 e) fun w=>match Nat.beq w.size size with
  | true=>match P.underlying u,x with
   | some .string,.str q=>match w with
    | .int .u8=>NA (.int .u8) bytes s (Iz q) L K
    | _=>none
   | some (.slice _),x=>match J7 L x,w with
    | true,.sl t=>Q1 (ND L t x) fun y=>XB t bytes s y.1 y.2 K
    | _,_=>Q1 (kS L x w) fun ys=>NA w bytes s ys L K
   | some (.int _),.int _ l=>match IQ z w with
    | true=>aa (decide (0<=l)&&decide (l*bytes<=Q7)) (NA w bytes s (List.replicate l.toNat (s_ w)) L K) none
    | false=>none
   | _,_=>none
  | false=>none
 | .copy,[t,_],[.a_ b off no,src]=>Q1 (oW P t) fun (e,size,_,_)=>Q1 (jG P 8 e) fun w=>match Nat.beq w.size size with
  | true=>Q1 (QS L src w) fun ys=>Q1 (iX L (.a_ b off no)) fun m=>match Qi L b with
   | some ⟨aB,true,.arr u xs⟩=>Q1 (fU (.sl u) (.sl w) xs) fun x=>K (.int .i64 ((min ys.length m:Nat):Int)) (cW L b ⟨aB+1,true,.arr w (m_ x off m ys)⟩)
   | _=>none
  | false=>none
 | _,_,_=>none
def ko:List (PM×Ty)->List PV->List Nat->LS->Option (List (Option TV)×List Nat×LS)
 | [],[],aQ,L=>some ([],aQ,L)
 | (m,t)::ps,v::vs,aQ,L=>match m with
  | .ro=>Q1 (ko ps vs aQ L) fun r=>some (none::r.1,r.2.1,r.2.2)
  | .mv=>match v with
   | .a_ b _ _=>match aQ.contains b with
    | true=>none
    | false=>Q1 (vG true t v L) fun x=>Q1 (ko ps vs aQ x.2) fun r=>some (some x.1::r.1,r.2.1,r.2.2)
   | .rw b _ _ _ _=>match aQ.contains b with
    | true=>none
    | false=>Q1 (vG true t v L) fun x=>Q1 (ko ps vs aQ x.2) fun r=>some (some x.1::r.1,r.2.1,r.2.2)
   | v=>Q1 (vG true t v L) fun x=>Q1 (ko ps vs aQ x.2) fun r=>some (some x.1::r.1,r.2.1,r.2.2)
  | .io=>match t,v with
   | .sl u,.a_ b 0 none=>match aQ.contains b with
    | true=>none
    | false=>Q1 (JZ u b L) fun x=>Q1 (ko ps vs (b::aQ) L) fun r=>some (some x::r.1,r.2.1,r.2.2)
   | _,_=>none
  | .ps=>match v with
   | .ptr b 0=>match aQ.contains b with
    | true=>none
    | false=>Q1 (J0 t b L) fun x=>Q1 (ko ps vs (b::aQ) x.2) fun r=>some (some x.1::r.1,r.2.1,r.2.2)
   | _=>none
  | .cl g=>match v with
   | .fn f [] []=>match Nat.beq f g with
    | true=>Q1 (ko ps vs aQ L) fun r=>some (some ⟨.bool,false⟩::r.1,r.2.1,r.2.2)
    | false=>none
   | _=>none
 | _,_,_,_=>none
def Qxt (aQ:List Nat) (cs:List PV):Bool:=cs.all fun v=>match v with | .a_ b _ _ => !aQ.contains b | .rw b _ _ _ _ => !aQ.contains b | _=>true
def A5 (al:Bool) (aQ:List Nat):List (PM×Ty)->List PV->List (Option TV)->LS->Option (List TV×LS)
 | [],[],[],L=>some ([],L)
 | (_,t)::ps,v::vs,o::os,L=>match o with
  | some x=>Q1 (A5 al aQ ps vs os L) fun r=>some (x::r.1,r.2)
  | none=>match Qxt aQ (mU v)&&(okV v&&NJ t v) with
   | true=>Q1 (refl al t (mU v) L) fun x=>Q1 (A5 al aQ ps vs os x.2) fun r=>some (⟨t,x.1⟩::r.1,r.2)
   | false=>none
 | _,_,_,_=>none
def IG:List (Bool×Ty)->List TV->LS->Option (List PV×LS)
 | [],[],L=>some ([],L)
 | (o,_)::rs,v::vs,L=>match Ke o v L with
  | (pv,L')=>Q1 (IG rs vs L') fun r=>some (pv::r.1,r.2)
 | _,_,_=>none
def fL:List (PM×Ty)->List PV->List TV->LS->Option LS
 | [],[],[],L=>some L
 | (m,_)::ps,p::as,vs,L=>match m with
  | .io=>match p,vs with
   | .a_ b 0 none,v::vs=>Q1 (Dn b v L) fun L'=>fL ps as vs L'
   | _,_=>none
  | .ps=>match p,vs with
   | .ptr b _,v::vs=>Q1 (Dp b v L) fun L'=>fL ps as vs L'
   | _,_=>none
  | .ro=>fL ps as vs L
  | .mv=>fL ps as vs L
  | .cl _=>fL ps as vs L
 | _,_,_,_=>none
def IE:List (Nat×TV)->LS->Option LS
 | [],L=>some L
 | (b,v)::r,L=>Q1 (QX b v L) fun L'=>IE r L'
def BT:List (PM×Ty)->List PV->List TV->List (Nat×TV)
 | (m,_)::ps,p::as,vs=>match m with
  | .io=>match vs with
   | _::vs=>BT ps as vs
   | []=>[]
  | .ps=>match p,vs with
   | .ptr b _,v::vs=>(b,v)::BT ps as vs
   | _,_=>[]
  | .ro=>BT ps as vs
  | .mv=>BT ps as vs
  | .cl _=>BT ps as vs
 | _,_,_=>[]
def C3:List (PM×Ty)->List TV->Nat->List (Nat×TV)
 | (m,_)::ps,v::vs,i=>match m with
  | .ro=>C3 ps vs i
  | .cl _=>C3 ps vs i
  | .mv=>C3 ps vs (i+1)
  | .io=>C3 ps vs (i+1)
  | .ps=>(i,v)::C3 ps vs (i+1)
 | _,_,_=>[]
def HX (vs:List PV):PV:=match vs with | [v]=>v | vs=>.kQ vs
def XY (b i aB:Nat) (w:Ty) (x:List w.T) (L:LS) (K:LS->Nat->Option β):Option β :=
 match Qi L b with
 | some ⟨_,true,.rows _ xs none⟩=>Q1 xs[i]? fun y=>aa (Nat.beq y.length x.length) (Q1 (rA w (.rw b i aB w x) L) fun r=>K (Qv r.2 (.arr w r.1)) r.2.bl.length) none
 | _=>none
def Ra (b i aB:Nat) (w:Ty) (n:Nat) (L:LS) (K:LS->Option β):Option β :=
 Q1 (rA w (.a_ n 0 none) L) fun r=>match Qi r.2 b with
 | some ⟨v,true,.rows e xs _⟩=>match Nat.beq v aB with
  | true=>Q1 (fU (.sl w) (.sl e) r.1) fun z=>K (cW r.2 b ⟨v+1,true,.rows e (xs.set i z) none⟩)
  | false=>none
 | _=>none
def IJ (X:nj A β) (f:FuncId) (args:List PV) (L:LS) (K:PV->LS->Option β):Option β :=
 Q1 (ko (A.sig f).params args [] L) fun m=>Q1 (A5 (A.sig f).al m.2.1 (A.sig f).params args m.1 m.2.2) fun r =>
  Q1 (nh (A.sig f).eG r.1) fun a=>Q1 (X.call f a) fun y =>
  Q1 (fL (A.sig f).params args ((ff (A.sig f).cY y).drop (A.sig f).results.length) r.2) fun L0 =>
  Q1 (IE (BT (A.sig f).params args ((ff (A.sig f).cY y).drop (A.sig f).results.length)) L0) fun L' =>
  Q1 (IG (A.sig f).results ((ff (A.sig f).cY y).take (A.sig f).results.length) L') fun q=>K (HX q.1) q.2
def Que:List (PM×Ty)->Bool
 | (.io,_)::_=>true
 | _=>false
def X7 (X:nj A β) (f:FuncId) (args:List PV) (L:LS) (K:PV->LS->Option β):Option β :=
 match args with
 | .rw b i aB w x::rest=>match Que (A.sig f).params with
  | true=>match w.flat with
   | true=>XY b i aB w x L fun L2 n=>IJ X f (.a_ n 0 none::rest) L2 fun u L3=>Ra b i (aB+1) w n L3 fun L4=>K u L4
   | false=>none
  | false=>IJ X f (.rw b i aB w x::rest) L K
 | args=>IJ X f args L K
def NX (X:nj A β) (f:FuncId) (args:List PV) (L:LS) (K:PV->LS->Option β):Option β :=
 match A.inline f with
 | true=>X.inl f args L K
 | false=>X7 X f args L K
def YD (L:LS) (b:Nat):Option (Nat×(e:Ty)×List (List e.T)×Option Nat):=match Qi L b with
 | some ⟨aB,true,.rows e xs h⟩=>some (aB,⟨e,xs,h⟩)
 | _=>none
def Qvu (h:Option Nat) (j:Nat) (x:Option β):Option β:=match h with
 | none=>x
 | some i=>aa (Nat.beq i j) x none
def Nx (t:Ty) (xs:List (List t.T)):List (Nat×PV)->LS->Option (List (List t.T)×LS)
 | [],L=>some (xs,L)
 | (i,v)::r,L=>Q1 (rA t v L) fun x=>Q1 (Nw xs i x.1) fun ys=>Nx t ys r x.2
def YB (P:Program) (t:TypeId):Option (Nat×Ty):=match P.underlying t with
 | some (.array n e)=>match jG P 8 e with
  | some (.sl u)=>match u.flat with
   | true=>some (n,u)
   | false=>none
  | _=>none
 | _=>none
def Ks:Nat->List Value->Bool
 | 0,[]=>true
 | n+1,.slice none 0 0::r=>Ks n r
 | _,_=>false
def Kt:Nat->List PV->Bool
 | 0,[]=>true
 | n+1,.nil::r=>Kt n r
 | _,_=>false
def IS (b aB:Nat) (u:Ty) (xs:List (List u.T)):Nat->Nat->Option (List PV)
 | _,0=>some []
 | i,n+1=>Q1 xs[i]? fun x=>Q1 (IS b aB u xs (i+1) n) fun l=>some (.rw b i aB u x::l)
def Dw {β:Type} (b aB:Nat) (u:Ty) (xs:List (List u.T)):Nat->Nat->(List PV->Option β)->Option β
 | _,0,K=>K []
 | i,n+1,K=>Q1 xs[i]? fun x=>Dw b aB u xs (i+1) n fun l=>K (.rw b i aB u x::l)
def N7 (w:Ty) (b aB:Nat):Nat->List PV->Option (List (List w.T))
 | _,[]=>some []
 | i,.rw b' i' vR t x::r=>match Nat.beq b' b&&(Nat.beq i' i&&Nat.beq vR aB) with
  | true=>Q1 (fU (.sl t) (.sl w) x) fun y=>Q1 (N7 w b aB (i+1) r) fun l=>some (y::l)
  | false=>none
 | _,_=>none
def Yv (w:Ty):List PV->Option (Nat×Nat×List (List w.T))
 | .rw b i aB t x::r=>Q1 (N7 w b aB 0 (.rw b i aB t x::r)) fun l=>some (b,aB,l)
 | _=>none
def Qvv (P:Program) (t:TypeId) (x:Operand):Option PV:=match Bf P t x with
 | some v=>Rv v
 | none=>none
noncomputable def dn (X:nj A β) (o:Oper) (env:bA) (L:LS) (K:PV->LS->Option β):Option β :=
 match o.op with
 | .move x=>Q1 (eA env x) fun v=>K v L
 | .assign x=>Q1 (eA env x) fun v=>K v L
 | .pick c a b=>Q1 (eA env c) fun v=>match v with
  | .bool t=>aa t (Q1 (eA env a) fun v=>K v L) (Q1 (eA env b) fun v=>K v L)
  | _=>none
 | .alloc t=>Q1 (Be X.P t) fun z=>match X.own,YB X.P t with
  | true,some (n,u)=>match Ks n z.cells.toList with
   | true=>K (.ptr L.bl.length 0) (Qv L (.rows u (List.replicate n []) none))
   | false=>none
  | _,_=>Q1 (wN z.cells.toList) fun cs=>K (.ptr L.bl.length 0) (Qv L (.cells cs))
 | .box _ x=>Q1 (eA env x) fun v=>match okV v with
  | true=>K (.ptr L.bl.length 0) (Qv L (.cells (mU v)))
  | false=>none
 | .build t parts=>Q1 (Ku env parts.toList) fun ps=>match X.P.info? t,X.P.underlying t with
  | some it,some (.struct fs)=>match it.zero,fs.toList.mapM (fun f=>(X.P.info? f.type).map fun i=>(f.offset,i.size)) with
   | some z,some places=>Q1 (wN z.cells.toList) fun zs=>Q1 (Ko (places.toArray[·]?) zs ps) fun cs=>K (.agg cs) L
   | _,_=>none
  | some it,some (.array _ e)=>match it.zero,X.P.info? e with
   | some z,some ie=>Q1 (wN z.cells.toList) fun zs=>Q1 (Ko (fun i=>some (i*ie.size,ie.size)) zs ps) fun cs=>K (.agg cs) L
   | _,_=>none
  | _,_=>none
 | .buildSlice t len parts=>Q1 (Ku env parts.toList) fun ps=>Q1 (oW X.P t) fun (e,size,_,z)=>Q1 (jG X.P 8 e) fun u =>
  match Nat.ble (len*size) 16777216,IQ z u,Nat.beq u.size size with
  | true,true,true=>match X.own,u with
   | true,.sl t=>match t.flat with
    | true=>Q1 (Nx t (List.replicate len []) ps L) fun x=>K (.a_ x.2.bl.length 0 none) (Qv x.2 (.rows t x.1 none))
    | false=>none
   | _,_=>Q1 (E4 u (List.replicate len (s_ u)) ps L) fun x=>K (.a_ x.2.bl.length 0 none) (Qv x.2 (.arr u x.1))
  | _,_,_=>none
 | .load t a=>match Qvv X.P t a with
   | some v=>K v L
   | none=>Q1 (eA env a) fun v=>Q1 (X.P.info? t) fun i=>Q1 i.zero fun z=>match X.P.underlying t with
  | none=>none
  | some d=>match v with
   | .rp st u x=>Q1 (jG X.P 8 t) fun w=>Q1 (fU u w x) fun y=>match ny z (kT w (gk st w y)),Nat.beq w.size i.size with
    | true,true=>K (kT w (gk st w y)) L
    | _,_=>none
   | .ep b j fo=>match Qi L b with
    | some ⟨_,_,.arr u xs⟩=>Q1 (jG X.P 8 t) fun w=>Q1 xs[j]? fun x=>Q1 (sub u w fo x) fun y=>match ny z (kT w (gk L.cu w y)),Nat.beq w.size i.size with
     | true,true=>K (kT w (gk L.cu w y)) L
     | _,_=>none
    | some ⟨aB,true,.rows u xs none⟩=>Q1 (jG X.P 8 t) fun w=>Q1 xs[j]? fun x=>match ny z (.rw b j aB u x),Nat.beq fo 0&&Ty.beq w (.sl u) with
     | true,true=>K (.rw b j aB u x) L
     | _,_=>none
    | _=>none
   | .rq b aB u x=>match Qi L b with
    | some ⟨v,true,.rows _ _ _⟩=>match Nat.beq v aB with
     | true=>Q1 (jG X.P 8 t) fun w=>Q1 (fU u w x) fun y=>match ny z (kT w (gk L.cu w y)),Nat.beq w.size i.size&&w.flat with
      | true,true=>K (kT w (gk L.cu w y)) L
      | _,_=>none
     | false=>none
    | _=>none
   | .ptr b off=>match Qi L b with
    | some ⟨_,_,.cells cs⟩=>match d with
     | .struct _=>match Nat.ble (off+i.size) cs.length,ny z (.agg ((cs.drop off).take i.size)) with
      | true,true=>K (.agg ((cs.drop off).take i.size)) L
      | _,_=>none
     | .array _ _=>match Nat.ble (off+i.size) cs.length,ny z (.agg ((cs.drop off).take i.size)) with
      | true,true=>K (.agg ((cs.drop off).take i.size)) L
      | _,_=>none
     | _=>Q1 cs[off]? fun u=>match Kv z u with
      | true=>K u L
      | false=>none
    | some ⟨aB,true,.rows u xs none⟩=>match d with
     | .array n _=>Dw b aB u xs 0 n fun l=>match ny z (.agg l),Nat.beq off 0&&Nat.beq i.size n with
      | true,true=>K (.agg l) L
      | _,_=>none
     | _=>none
    | _=>none
   | .dp b off n u k=>match Qi L b with
    | some ⟨_,_,.cells cs⟩=>Q1 (jG X.P 8 t) fun w=>Q1 (IU u n (cs.drop off) L) fun xs=>Q1 xs[k]? fun x=>Q1 (fU u w x) fun y=>match ny z (kT w (gk L.cu w y)),Nat.beq w.size i.size&&w.flat with
     | true,true=>K (kT w (gk L.cu w y)) L
     | _,_=>none
    | _=>none
   | _=>none
 | .store t a x=>Q1 (eA env a) fun v=>Q1 (eA env x) fun u=>Q1 (X.P.info? t) fun i=>match Nat.beq (mU u).length i.size&&okV u with
  | true=>match v with
   | .ep b j fo=>match YD L b with
    | some (aB,⟨e,xs,h⟩)=>match Nat.beq fo 0&&Nat.beq i.size 1 with
         | false=>none
         | true=>match u with
     | .rw b' i' vR e' x=>match Nat.beq b' b&&Nat.beq vR aB,h with
      | true,none=>Q1 (fU (.sl e') (.sl e) x) fun x=>aa (Nat.beq i' j) (Q1 xs[j]? fun _=>K .undef (cW L b ⟨aB+1,true,.rows e (xs.set j x) none⟩)) none
      | _,_=>none
     | u=>Q1 (rA e u L) fun y=>match Qi y.2 b with
      | some ⟨aB,true,.rows e' xs h⟩=>Q1 (fU (.sl e) (.sl e') y.1) fun x=>Qvu h j (Q1 xs[j]? fun _=>K .undef (cW y.2 b ⟨aB+1,true,.rows e' (xs.set j x) none⟩))
      | _=>none
    | none=>Q1 (jG X.P 8 t) fun w=>Q1 (refl true w (mU u) L) fun y=>match Qi y.2 b with
     | some ⟨aB,true,.arr e xs⟩=>Q1 xs[j]? fun x0=>Q1 (BX e w fo x0 y.1) fun x1=>K .undef (cW y.2 b ⟨aB+1,true,.arr e (xs.set j x1)⟩)
     | _=>none
   | .ptr b off=>match Qi L b with
    | some ⟨aB,true,.cells cs⟩=>match Nat.ble (off+(mU u).length) cs.length with
     | true=>K .undef (cW L b ⟨aB+1,true,.cells (N5 cs off (mU u))⟩)
     | false=>none
    | some ⟨aB,true,.rows e xs none⟩=>match Nat.beq off 0&&Kt xs.length (mU u) with
     | true=>K .undef (cW L b ⟨aB+1,true,.rows e (List.replicate (mU u).length []) none⟩)
     | false=>none
    | _=>none
   | .dp b off n w k=>match Qi L b,w.flat with
    | some ⟨aB,true,.cells cs⟩,true=>Q1 (refl false w (mU u) L) fun y=>Q1 (IU w n (cs.drop off) L) fun xs=>Q1 (Oe n w xs k y.1) fun p =>
     K .undef (cW L b ⟨aB+1,true,.cells (N5 cs off (gk L.cu (Fl n w) p))⟩)
    | _,_=>none
   | _=>none
  | false=>none
 | .nilCheck x=>Q1 (eA env x) fun v=>match v with
  | .fn f a b=>K (.fn f a b) L
  | .ptr b o=>K (.ptr b o) L
  | .ep b j f=>K (.ep b j f) L
  | .rp s t x=>K (.rp s t x) L
  | .rq b v t x=>K (.rq b v t x) L
  | .dp b o n t k=>K (.dp b o n t k) L
  | _=>none
 | .binOp op t x y _=>Q1 (eA env x) fun v=>Q1 (eA env y) fun u=>match Ys X.P op t L v u with
  | some (none,neg)=>K (.bool (!neg)) L
  | some (some n,neg)=>Jo n (K (.bool (!neg)) L) (K (.bool neg) L)
  | none=>Q1 (sc v) fun v'=>Q1 (sc u) fun u'=>Av X.P op t v' u' fun r=>K (YP r) L
 | .unOp op _ x=>Q1 (eA env x) fun v=>Q1 (sc v) fun v'=>wI op v' fun r=>K (YP r) L
 | .convert src dst x=>Q1 (eA env x) fun v=>match X.P.underlying src,X.P.underlying dst,v with
  | some (.int _),some (.int k),.int _ n=>K (.int k (k.wrap n)) L
  | some .string,some .string,.str s=>K (.str s) L
  | some (.slice e),some .string,v=>match X.P.underlying e with
   | some (.int .u8)=>Q1 (kS L v (.int .u8)) fun l=>K (.str (Og l)) L
   | _=>none
  | some .string,some (.slice e),.str s=>match X.P.underlying e with
   | some (.int .u8)=>K (.a_ L.bl.length 0 none) (Qv L (.arr (.int .u8) (Iz s)))
   | _=>none
  | _,_,_=>none
 | .makeFunc (.func f) first cap=>Q1 (Fm env first.toList) fun fs=>Q1 (Fm env cap.toList) fun cs=>match fs.all gP&&cs.all gP with
  | true=>K (.fn (kB f) fs cs) L
  | false=>none
 | .makeSlice t l c=>Q1 (eA env l) fun v=>Q1 (eA env c) fun u=>Iw v fun n=>Iw u fun m =>
  Q1 (oW X.P t) fun (e,size,bytes,z)=>Q1 (jG X.P 8 e) fun w=>match IQ z w,Nat.beq w.size size with
   | true,true=>aa (Nat.ble n m&&Nat.ble (m*bytes) Q7) (match X.own,w with
    | true,.sl t=>match t.flat with
     | true=>K (.a_ L.bl.length 0 none) (Qv L (.rows t (List.replicate n []) none))
     | false=>none
    | _,_=>K (.a_ L.bl.length 0 none) (Qv L (.arr w (List.replicate n (s_ w))))) none
   | _,_=>none
 | .slice t x lo hi none=>Q1 (eA env x) fun v=>match v with
  | .str s=>match X.P.underlying t with
   | some .string=>AW env hi fun h=>AW env lo fun l=>aa (Nat.ble (l.getD 0) (h.getD s.size)&&Nat.ble (h.getD s.size) s.size) (K (.str (s.extract (l.getD 0) (h.getD s.size))) L) none
   | _=>none
  | v=>match X.P.underlying t with
   | some (.slice e)=>Q1 (X.P.info? e) fun i=>match QK L v with
    | some n=>match Nat.beq n i.size with
     | true=>AW env hi fun h=>AW env lo fun l=>J4 L v l h fun u=>K u L
     | false=>none
    | none=>AW env hi fun h=>AW env lo fun l=>J4 L v l h fun u=>K u L
   | _=>none
 | .fieldAddr s x f=>Q1 (eA env x) fun v=>match X.P.underlying s with
  | some (.struct fs)=>Q1 fs[f]? fun fd=>Q1 (X.P.info? fd.type) fun i=>match Nat.beq i.size 0 with
   | true=>none
   | false=>match v with
    | .ptr b off=>K (.ptr b (off+fd.offset)) L
    | .ep b j fo=>K (.ep b j (fo+fd.offset)) L
    | .rp st t x=>Q1 (jG X.P 8 fd.type) fun w=>Q1 (sub t w fd.offset x) fun y=>K (.rp st w y) L
    | .rq b v t x=>Q1 (jG X.P 8 fd.type) fun w=>Q1 (sub t w fd.offset x) fun y=>K (.rq b v w y) L
    | _=>none
  | _=>none
 | .field t x f=>Q1 (eA env x) fun v=>match v with
  | .agg cs=>match X.P.underlying t with
   | some (.struct fs)=>Q1 fs[f]? fun fd=>Q1 (N6 X.P fd.type cs fd.offset) fun u=>K u L
   | _=>none
  | _=>none
 | .indexAddr t x ix=>Q1 (eA env x) fun v=>Q1 (eA env ix) fun j=>match X.P.underlying t with
  | some (.slice e)=>Q1 (X.P.info? e) fun i=>match v with
   | .ro st u l=>match Nat.beq u.size i.size with
    | true=>oT j fun k=>Q1 l[k]? fun y=>K (.rp st u y) L
    | false=>none
   | .a_ b off n=>match Qi L b with
    | some ⟨_,_,.arr u xs⟩=>match Nat.beq u.size i.size with
     | true=>oT j fun k=>Q1 (iX L (.a_ b off n)) fun m=>aa (Nat.blt k m) (K (.ep b (Rp off k) 0) L) none
     | false=>none
    | some ⟨_,_,.rows _ xs _⟩=>match Nat.beq 1 i.size&&(Nat.beq off 0&&n.isNone) with
     | true=>oT j fun k=>aa (Nat.blt k xs.length) (K (.ep b k 0) L) none
     | false=>none
    | _=>none
   | .rw b _ aB u l=>match Nat.beq u.size i.size with
    | true=>oT j fun k=>Q1 l[k]? fun y=>K (.rq b aB u y) L
    | false=>none
   | _=>none
  | some (.array n e)=>Q1 (X.P.info? e) fun i=>Q1 (jG X.P 8 e) fun u=>match v with
   | .ptr b off=>match Qi L b with
    | some ⟨_,_,.rows _ xs _⟩=>match Nat.beq off 0&&Nat.beq 1 i.size with
     | true=>oT j fun k=>aa (Nat.blt k n&&Nat.blt k xs.length) (K (.ep b k 0) L) none
     | false=>none
    | _=>match Nat.beq u.size i.size&&u.flat with
     | true=>oT j fun k=>aa (Nat.blt k n) (K (.dp b off n u k) L) none
     | false=>none
   | _=>none
  | _=>none
 | .index t x ix=>Q1 (eA env x) fun v=>Q1 (eA env ix) fun j=>match v with
  | .str s=>match X.P.underlying t with
   | some .string=>oT j fun k=>Q1 s.data.toList[k]? fun b=>K (.int .u8 b.toNat) L
   | _=>none
  | .agg cs=>match X.P.underlying t with
   | some (.array n e)=>Q1 (X.P.info? e) fun i=>Q1 (jG X.P 8 e) fun u=>match Nat.beq u.size i.size&&u.flat with
    | true=>Q1 (IU u n cs L) fun xs=>oT j fun k=>Q1 xs[k]? fun y=>K (kT u (gk L.cu u y)) L
    | false=>match u with
     | .sl w=>Q1 (Yv w cs) fun g=>match Nat.beq i.size 1 with
      | true=>oT j fun k=>aa (Nat.blt k n) (Q1 g.2.2[k]? fun y=>K (.rw g.1 k g.2.1 w y) L) none
      | false=>none
     | _=>none
   | _=>none
  | _=>none
 | .extract x i=>Q1 (eA env x) fun v=>match v with
  | .kQ vs=>Q1 vs[i]? fun u=>K u L
  | _=>none
 | .call c=>match c.callee with
  | .builtin b=>Q1 (Fm env c.args.toList) fun vs=>XI X.P b c.argTypes.toList vs L K
  | .value f=>Q1 (eA env f) fun g=>Q1 (Fm env c.args.toList) fun vs=>match g with
   | .fn n first cap=>NX X n (first++vs++cap) L fun u L'=>match PI X.P o.type with
    | some tm=>match Dq tm u with
     | true=>K u L'
     | false=>none
    | none=>K u L'
   | _=>none
  | _=>none
 | _=>none
where
 QK (L:LS):PV->Option Nat
  | .ro _ u _=>some u.size
  | .a_ b _ _=>match Qi L b with
   | some ⟨_,_,.arr u _⟩=>some u.size
   | _=>some 0
  | .rw _ _ _ u _=>some u.size
  | _=>none
end ops
section code
variable {A:cL} {β:Type}
def Kh (nt:Nat) (dst:Option Tmp) (v:PV) (env:bA) (K:bA->Option β):Option β :=
 match dst with
 | none=>K env
 | some d=>match Nat.blt d nt with | true=>K ((d,v)::env) | false=>none
def Rc (ops:Array Oper) (o:Oper) (env:bA) (K:Bool->bA->Option β):Option β :=
 match o.guard with
 | none=>K true env
 | some (j,want)=>match (ops[j]?).bind (·.dst) with
  | some d=>Q1 (dD env d) fun v=>match v with
   | .bool b=>aa b (K want ((d,.bool true)::env)) (K (!want) ((d,.bool false)::env))
   | .undef=>K false env
   | _=>none
  | none=>none
noncomputable def Fg (X:nj A β) (o:Oper) (env:bA) (L:LS) (K:PV->LS->Option β):Option β :=
 match o.op with
 | .makeMap _ none=>K (.mp L.bl.length) (Qv L (.mp []))
 | .mapUpdate t m k v=>match DM X.P t with
  | true=>Q1 (eA env m) fun mv=>Q1 (eA env k) fun kv=>Q1 (eA env v) fun vv=>Dr mv fun b=>A8 kv fun a=>A8 vv fun u=>Q1 (lmap L b) fun q=>K .undef (cW L b ⟨q.1+1,true,.mp (gW q.2 a u)⟩)
  | false=>none
 | .lookup t m k ok=>match DM X.P t with
  | true=>Q1 (eA env m) fun mv=>Q1 (eA env k) fun kv=>Dr mv fun b=>A8 kv fun a=>Q1 (lmap L b) fun q=>K (YQ ok (eD q.2 a)) L
  | false=>none
 | _=>dn X o env L K
noncomputable def A9 (X:nj A β) (ops:Array Oper):List Oper->bA->LS->(bA->LS->Option β)->Option β
 | [],env,L,K=>K env L
 | o::r,env,L,K=>Rc ops o env fun t env=>match t with
  | true=>Fg X o env L fun v L'=>Kh X.nt o.dst v env fun env=>A9 X ops r env L' K
  | false=>Kh X.nt o.dst .undef env fun env=>A9 X ops r env L K
noncomputable def NY (X:nj A β) (ops:Array Oper):List Oper->bA->LS->List (bA×LS)->(List (bA×LS)->bA->LS->Option β)->Option β
 | [],env,L,tr,K=>K ((env,L)::tr) env L
 | o::r,env,L,tr,K=>Rc ops o env fun t env=>match t with
  | true=>dn X o env L fun v L'=>Kh X.nt o.dst v env fun ak=>NY X ops r ak L' ((env,L)::tr) K
  | false=>Kh X.nt o.dst .undef env fun ak=>NY X ops r ak L ((env,L)::tr) K
def Kj (L M:LS) (b:Nat):Bool:=match Qi L b,Qi M b with
 | some x,some y=>Nat.beq x.aB y.aB
 | _,_=>false
def Rf:Operand->Bool
 | .tmp _=>true
 | _=>false
def Ye (P:Program) (c0:Nat) (o:Op) (env:bA) (L M:LS):Bool :=
 match o with
 | .load t a=>match Bf P t a with
   | some _=>true
   | none=>match eA env a with
  | some (.rp st u _)=>Nat.blt st c0&&match P.info? t with | some i=>Nat.beq u.size i.size | none=>true
  | some (.ep b _ _)=>Kj L M b
  | some (.ptr b _)=>Kj L M b
  | some (.dp b _ _ _ _)=>Kj L M b
  | some .undef=>true
  | none=>Rf a
  | _=>false
 | .convert _ _ a=>match eA env a with
  | some (.ro st _ _)=>Nat.blt st c0
  | some (.a_ b _ _)=>Kj L M b
  | some .nil=>true
  | some .undef=>true
  | none=>Rf a
  | _=>false
 | _=>false
def Rh (c0:Nat) (P:Program) (ops:Array Oper) (jy:List (bA×LS)) (i:Nat) (o:Oper):List Nat->Bool
 | []=>true
 | m::ms=>((JO P ops m i || JP P ops i o m) || match jy[i]?,jy[m]? with
   | some s,some q=>Ye P c0 o.op s.1 s.2 q.2
   | _,_=>false)&&Rh c0 P ops jy i o ms
def Ri (c0:Nat) (P:Program) (ops:Array Oper) (jy:List (bA×LS)):List Nat->Bool
 | []=>true
 | i::r=>(match Nat.beq (cM P ops i) 1,ops[i]? with
  | true,some o=>Rh c0 P ops jy i o (HH P ops i)
  | _,_=>true)&&Ri c0 P ops jy r
noncomputable def Yj (X:nj A β) (ops:Array Oper) (env:bA) (L:LS) (K:bA->LS->Option β):Option β :=
 match Mv X.P ops with
 | true=>NY X ops ops.toList env ⟨L.bl,L.cu+1⟩ [] fun tr ak L'=>match Ri (L.cu+1) X.P ops tr.reverse (List.range ops.size) with
  | true=>K ak L'
  | false=>none
 | false=>none
def P1 (c:Operand) (b:Bool) (env:bA):bA:=match c with | .tmp d=>(d,.bool b)::env | _=>env
def Dt (env:bA):List (Nat×Bool×Ty)->LS->Option (List TV×LS)
 | [],L=>some ([],L)
 | (q,o,t)::r,L=>Q1 (dD env q) fun v=>Q1 (vG o t v L) fun x=>Q1 (Dt env r x.2) fun y=>some (x.1::y.1,y.2)
def N3 (env:bA):List (Nat×Ty)->LS->Option (List TV×List Nat×LS)
 | [],L=>some ([],[],L)
 | (q,t)::r,L=>Q1 (dD env q) fun v=>match v with
  | .ptr b 0=>Q1 (J0 t b L) fun x=>Q1 (N3 env r x.2) fun y=>some (x.1::y.1,b::y.2.1,y.2.2)
  | _=>none
def YR (env:bA) (q:Nat) (L:LS):Option Nat :=
 match q / 1000000 with
 | 0=>Q1 (dD env q) fun v=>match v with
  | .a_ b _ _=>some b
  | .ptr b _=>some b
  | .mp b=>some b
  | _=>none
 | k+1=>Q1 (dD env (q % 1000000)) fun v=>match v with
  | .ptr b _=>match Qi L b with
   | some ⟨_,_,.cells cs⟩=>match cs[k]? with
    | some (.a_ c _ _)=>some c
    | some (.mp c)=>some c
    | _=>none
   | _=>none
  | _=>none
def Kl (env:bA):List (Nat×Ty)->LS->Option (List TV×List Nat)
 | [],_=>some ([],[])
 | (q,t)::r,L=>Q1 (YR env q L) fun b=>Q1 (Rk t b L) fun x=>Q1 (Kl env r L) fun y=>some (x::y.1,b::y.2)
def MH (L:LS) (ids:List Nat):Bool:=ids.all fun b=>match Qi L b with | some ⟨_,true,_⟩=>true | _=>false
def MK (a:gG) (env:bA) (L:LS):Option (List TV×List Nat×LS) :=
 Q1 (Dt env a.bH L) fun x=>Q1 (N3 env a.ET x.2) fun y=>Q1 (Kl env a.abs y.2.2) fun z =>
  match MH y.2.2 (y.2.1++z.2) with
  | true=>some (x.1++(y.1++z.1),y.2.1++z.2,y.2.2)
  | false=>none
def HV:List (Nat×Bool×Ty)->List TV->bA->LS->Option (bA×LS)
 | [],[],env,L=>some (env,L)
 | (q,o,_)::r,v::vs,env,L=>match Ke o v L with
  | (pv,L')=>HV r vs ((q,pv)::env) L'
 | _,_,_,_=>none
def sP:List Nat->Nat->List TV->LS->Option LS
 | [],_,[],L=>some L
 | b::r,n,v::vs,L=>match n with
  | 0=>Q1 (IM b v L) fun L'=>sP r 0 vs L'
  | m+1=>Q1 (Dp b v L) fun L'=>sP r m vs L'
 | _,_,_,_=>none
def HU:List Nat->Nat->List TV->LS->Option LS
 | b::r,n+1,v::vs,L=>Q1 (QX b v L) fun L'=>HU r n vs L'
 | _,_,_,L=>some L
def HP (env:bA):List (Nat×Value)->Option bA
 | []=>some []
 | (q,_)::r=>Q1 (dD env q) fun v=>Q1 (HP env r) fun e=>some ((q,v)::e)
def MG (env:bA):List (Nat×Value)->Bool
 | []=>true
 | (q,t)::r=>(match dD env q with | some v=>ny t v | none=>false)&&MG env r
def Qxx (keep:List (Nat×Value)) (a:gG):Bool:=a.bH.all fun s=>keep.any fun k=>Nat.beq k.1 s.1
def Rl:List Nat->Bool
 | []=>true
 | x::r => !r.contains x&&Rl r
def BJ (ids:List Nat):Nat->List (Option VB)->List (Option VB)->Bool
 | _,[],_=>true
 | n,none::r,_::s=>BJ ids (n+1) r s
 | n,some x::r,some y::s=>(ids.contains n || Nat.beq x.aB y.aB)&&BJ ids (n+1) r s
 | _,_,_=>false
def Rj (env:bA):List Nat->LS->LS
 | [],L=>L
 | q::r,L=>Rj env r (match dD env q with | some v=>(mU v).foldl freeze L | none=>L)
def Q8 {σ β:Type} (F:(σ->Option β)->σ->Option β):Nat->σ->Option β
 | 0=>fun _=>none
 | n+1=>F (Q8 F n)
def HW:List Nat->List Nat->Bool
 | [],[]=>true
 | a::r,b::s=>Nat.beq a b&&HW r s
 | _,_=>false
def Qrs (ops:Array Oper):List Nat:=ops.toList.filterMap (·.dst)
def gJ:Code->List Nat
 | .region _ ops _=>Qrs ops
 | .seq a b=>gJ a++gJ b
 | .cond c a b=>match c with
  | .tmp d=>d::(gJ a++gJ b)
  | _=>gJ a++gJ b
 | .block _ c=>gJ c
 | .loop c=>gJ c
 | _=>[]
def Wl (w:List Nat) (a:gG) (keep:List (Nat×Value)):Bool:=(keep.all fun k=>(a.bH.any fun s=>Nat.beq s.1 k.1) || !w.contains k.1)&&a.bH.all fun s=>w.contains s.1
noncomputable def iT (X:nj A β):Code->Nat->bA->LS->(eF->bA->LS->Option β)->Option β
 | .skip,_,env,L,K=>K .normal env L
 | .label _,_,env,L,K=>K .normal env L
 | .region _ ops d,_,env,L,K=>match d with
  | false=>A9 X ops ops.toList env L (K .normal)
  | true=>Yj X ops env L (K .normal)
 | .seq a b,n,env,L,K=>iT X a n env L fun ex env L=>match ex with
  | .normal=>iT X b (n+BF a) env L K
  | .exit id=>K (.exit id) env L
  | .ret=>K .ret env L
 | .cond c a b,n,env,L,K=>Q1 (eA env c) fun v=>match v with
  | .bool t=>aa t (iT X a n (P1 c true env) L K) (iT X b (n+BF a) (P1 c false env) L K)
  | _=>none
 | .block id c,n,env,L,K=>iT X c n env L fun ex env L=>match ex with
  | .normal=>K .normal env L
  | .exit Ax=>match Nat.beq Ax id with | true=>K .normal env L | false=>K (.exit Ax) env L
  | .ret=>K .ret env L
 | .loop c,n,env,L,K=>Q1 (HP env (X.eZ n)) fun dh=>Q1 (MK (X.cV n) env (Rj env (X.cV n).fzs L)) fun r =>
  match Qxx (X.eZ n) (X.cV n)&&Wl (gJ c) (X.cV n) (X.eZ n),Rl r.2.1 with
  | true,true=>Q1 (nh (X.cV n).Ay r.1) fun s0 =>
   Q8 (fun again s=>Q1 (sP r.2.1 (X.cV n).ET.length ((ff (X.cV n).Ay s).drop (X.cV n).bH.length) r.2.2) fun L0=>Q1 (HU r.2.1 (X.cV n).ET.length ((ff (X.cV n).Ay s).drop (X.cV n).bH.length) L0) fun L1 =>
    Q1 (HV (X.cV n).bH ((ff (X.cV n).Ay s).take (X.cV n).bH.length) dh L1) fun i =>
    match MG i.1 (X.eZ n) with
    | true=>iT X c (n+1) i.1 i.2 fun ex ak L'=>match ex with
     | .normal=>Q1 (HP ak (X.eZ n)) fun _=>Q1 (MK (X.cV n) ak L') fun r'=>match HW r'.2.1 r.2.1,BJ r.2.1 0 r.2.2.bl r'.2.2.bl with
      | true,true=>Q1 (nh (X.cV n).Ay r'.1) fun s'=>again s'
      | _,_=>none
     | .exit id=>K (.exit id) ak L'
     | .ret=>K .ret ak L'
    | false=>none) A.fuel s0
  | _,_=>none
 | .exit id,_,env,L,K=>K (.exit id) env L
 | .ret,_,env,L,K=>K .ret env L
 | _,_,_,_,_=>none
end code
structure Ib (A:cL) where
 call:(f:FuncId)->jv (A.sig f).eG->Option (jv (A.sig f).cY)
 inl:(β:Type)->FuncId->List PV->LS->(PV->LS->Option β)->Option β
def wL (P:Program) (env:bA) (L:LS):List ResultVar->Option (List PV)
 | []=>some []
 | .tmp t::r=>Q1 (dD env t) fun v=>Q1 (wL P env L r) fun l=>some (v::l)
 | .cell a t::r=>Q1 (dD env a) fun v=>match v with
  | .ptr b off=>match Qi L b with
   | some ⟨_,_,.cells cs⟩=>Q1 (P.info? t) fun i=>match P.underlying t with
    | some (.struct _)=>match Nat.ble (off+i.size) cs.length with
     | true=>Q1 (wL P env L r) fun l=>some (.agg ((cs.drop off).take i.size)::l)
     | false=>none
    | some (.array _ _)=>match Nat.ble (off+i.size) cs.length with
     | true=>Q1 (wL P env L r) fun l=>some (.agg ((cs.drop off).take i.size)::l)
     | false=>none
    | some _=>Q1 cs[off]? fun u=>Q1 (wL P env L r) fun l=>some (u::l)
    | none=>none
   | _=>none
  | _=>none
def AD:List (PM×Ty)->List TV->Nat->LS->Option (bA×LS)
 | [],[],_,L=>some ([],L)
 | (m,_)::ps,v::vs,i,L=>match m with
  | .ro=>Q1 (AD ps vs (i+1) L) fun r=>some ((i,kT v.1 (gk 0 v.1 v.2))::r.1,r.2)
  | .cl g=>Q1 (AD ps vs (i+1) L) fun r=>some ((i,.fn g [] [])::r.1,r.2)
  | .ps=>Q1 (AD ps vs (i+1) (Qv L (.cells (gk 0 v.1 v.2)))) fun r=>some ((i,.ptr L.bl.length 0)::r.1,r.2)
  | .mv=>match v with
   | ⟨.sl u,x⟩=>Q1 (AD ps vs (i+1) (Qv L (E_ u x))) fun r=>some ((i,.a_ L.bl.length 0 none)::r.1,r.2)
   | _=>none
  | .io=>match v with
   | ⟨.sl u,x⟩=>match u.iL with
    | true=>none
    | false=>Q1 (AD ps vs (i+1) (Qv L (.arr u x))) fun r=>some ((i,.a_ L.bl.length 0 none)::r.1,r.2)
   | _=>none
 | _,_,_,_=>none
def EW:List (Bool×Ty)->List PV->LS->Option (List TV×LS)
 | [],[],L=>some ([],L)
 | (o,t)::rs,v::vs,L=>Q1 (vG o t v L) fun x=>Q1 (EW rs vs x.2) fun y=>some (x.1::y.1,y.2)
 | _,_,_=>none
def BK:List (PM×Ty)->Nat->LS->Option (List TV×LS)
 | [],_,L=>some ([],L)
 | (m,t)::ps,i,L=>match m with
  | .ro=>BK ps i L
  | .cl _=>BK ps i L
  | .mv=>BK ps (i+1) L
  | .io=>match t with
   | .sl u=>Q1 (JZ u i L) fun x=>Q1 (BK ps (i+1) L) fun y=>some (x::y.1,y.2)
   | _=>none
  | .ps=>Q1 (J0 t i L) fun x=>Q1 (BK ps (i+1) x.2) fun y=>some (x.1::y.1,y.2)
def iC:List (PM×Ty)->Nat->List Nat
 | [],_=>[]
 | (m,_)::ps,i=>match m with
  | .ro=>iC ps i
  | .cl _=>iC ps i
  | .mv=>iC ps (i+1)
  | .io=>i::iC ps (i+1)
  | .ps=>i::iC ps (i+1)
def MU:PV->Bool
 | .kQ _=>false
 | _=>true
def MT:Nat->List PV->bA
 | _,[]=>[]
 | i,v::r=>(i,v)::MT (i+1) r
noncomputable def C6 (P:Program) (A:cL) (l:Ib A) (f:FuncId) (a:jv (A.sig f).eG):Option (jv (A.sig f).cY) :=
 match P.funcs[f]? with
 | none=>none
 | some fn=>match fn.body,Nat.ble (A.sig f).params.length fn.ntmps,fn.name == "runtime.NumGoroutine" with
  | some c,true,false=>Q1 (AD (A.sig f).params (ff (A.sig f).eG a) 0 ⟨[],0⟩) fun e=>Q1 (IE (C3 (A.sig f).params (ff (A.sig f).eG a) 0) e.2) fun L1 =>
   iT ⟨P,l.call,l.inl _,fn.ntmps,A.own f,A.loops f,A.jz f⟩ c 0 e.1 L1 fun ex env L=>match ex with
    | .exit _=>none
    | _=>Q1 (wL P env L fn.results.toList) fun vs=>Q1 (EW (A.sig f).results vs L) fun r=>Q1 (BK (A.sig f).params 0 r.2) fun q =>
     match MH q.2 (iC (A.sig f).params 0) with
     | true=>nh (A.sig f).cY (r.1++q.1)
     | false=>none
  | _,_,_=>none
noncomputable def Ih (P:Program) (A:cL) (l:Ib A) (β:Type) (f:FuncId) (args:List PV) (L:LS) (K:PV->LS->Option β):Option β :=
 match P.funcs[f]? with
 | none=>none
 | some fn=>match fn.body,Nat.ble args.length fn.ntmps,fn.name == "runtime.NumGoroutine" with
  | some c,true,false=>iT ⟨P,l.call,l.inl _,fn.ntmps,A.own f,A.loops f,A.jz f⟩ c 0 (MT 0 args) L fun ex env L=>match ex with
    | .exit _=>none
    | _=>Q1 (wL P env L fn.results.toList) fun vs=>match vs.all MU with
     | true=>K (HX vs) L
     | false=>none
  | _,_,_=>none
noncomputable def aH (P:Program) (A:cL):Nat->Ib A
 | 0=>⟨fun _ _=>none,fun _ _ _ _ _=>none⟩
 | d+1=>⟨fun f a=>match A.vH f with | some v=>v a | none=>C6 P A (aH P A d) f a,Ih P A (aH P A d)⟩
def Qw {α β:Type} (R:α->β->Prop):List α->List β->Prop
 | [],[]=>True
 | a::r,b::s=>R a b/\Qw R r s
 | _,_=>False
theorem Qw.length {α β:Type} {R:α->β->Prop}:∀ {l:List α} {m:List β},Qw R l m->l.length=m.length
 | [],[],_=>rfl
 | _::r,_::s,h=>by simp [Qw.length h.2]
theorem Qw.mono {α β:Type} {R S:α->β->Prop} (f:∀ a b,R a b->S a b):∀ {l:List α} {m:List β},Qw R l m->Qw S l m
 | [],[],_=>trivial
 | _::r,_::s,h=>⟨f _ _ h.1,Qw.mono f h.2⟩
theorem Qw.append {α β:Type} {R:α->β->Prop}:∀ {l:List α} {m:List β} {l':List α} {m':List β},Qw R l m->Qw R l' m'->Qw R (l++l') (m++m')
 | [],[],_,_,_,h'=>h'
 | _::r,_::s,_,_,h,h'=>⟨h.1,Qw.append h.2 h'⟩
theorem Qw.take {α β:Type} {R:α->β->Prop}:∀ (n:Nat) {l:List α} {m:List β},Qw R l m->Qw R (l.take n) (m.take n)
 | 0,_,_,_=>by simp [Qw]
 | n+1,[],[],_=>by simp [Qw]
 | n+1,_::r,_::s,h=>by simp only [List.take_succ_cons];exact ⟨h.1,Qw.take n h.2⟩
theorem Qw.drop {α β:Type} {R:α->β->Prop}:∀ (n:Nat) {l:List α} {m:List β},Qw R l m->Qw R (l.drop n) (m.drop n)
 | 0,_,_,h=>by simpa using h
 | n+1,[],[],_=>by simp [Qw]
 | n+1,_::r,_::s,h=>by simp only [List.drop_succ_cons];exact Qw.drop n h.2
theorem Qw.get {α β:Type} {R:α->β->Prop}:∀ (n:Nat) {l:List α} {m:List β} {a:α},Qw R l m->l[n]? = some a->∃ b,m[n]? = some b/\R a b
 | 0,_::r,_::s,_,h,e=>by simp at e;subst e;exact ⟨_,rfl,h.1⟩
 | n+1,_::r,_::s,a,h,e=>by simp only [List.getElem?_cons_succ] at e ⊢;exact Qw.get n h.2 e
 | n,[],[],_,_,e=>by simp at e
def ax (N:Nat->Prop) (H:af):(t:Ty)->t.T->List Value->Prop
 | .int k,x,cs=>cs=[.int k x]
 | .bool,x,cs=>cs=[.bool x]
 | .str,x,cs=>cs=[.string x]
 | .sl t,x,cs=>(x=[]/\cs=[.slice none 0 0])\/(x=[]/\∃ z o,cs=[.slice (some ⟨z,o,none⟩) 0 t.size]) \/
   ∃ z o k,cs=[.slice (some ⟨z,o,none⟩) x.length t.size]/\N z/\ah H z=some k/\o+x.length*t.size<=k.cells.length /\
    ∀ i (h:i < x.length),ax N H t (x[i]) ((k.cells.drop (o+i*t.size)).take t.size)
 | .os _,_,cs=>∃ v,cs=[v]/\az v=true/\Qa v v=true
 | .pair a b,x,cs=>ax N H a x.1 (cs.take a.size)/\ax N H b x.2 (cs.drop a.size)
theorem Ty.size_pos:∀ t:Ty,0 < t.size
 | .int _=>by simp [Ty.size]
 | .bool=>by simp [Ty.size]
 | .str=>by simp [Ty.size]
 | .sl _=>by simp [Ty.size]
 | .os _=>by simp [Ty.size]
 | .pair a b=>by have:=Ty.size_pos a;simp [Ty.size];omega
theorem ax.len {N:Nat->Prop} {H:af}:∀ (t:Ty) {x:t.T} {cs:List Value},ax N H t x cs->cs.length=t.size
 | .int _,_,_,h=>by unfold ax at h;subst h;rfl
 | .bool,_,_,h=>by unfold ax at h;subst h;rfl
 | .str,_,_,h=>by unfold ax at h;subst h;rfl
 | .sl t,_,_,h=>by
  unfold ax at h
  rcases h with ⟨_,rfl⟩ | ⟨_,_,_,rfl⟩ | ⟨_,_,_,rfl,_⟩<;>rfl
 | .os t,_,_,h=>by unfold ax at h;obtain ⟨v,rfl,_⟩:=h;rfl
 | .pair a b,_,cs,h=>by
  unfold ax at h
  have h1:=ax.len a h.1;have h2:=ax.len b h.2
  have:=Ty.size_pos a;have:=Ty.size_pos b
  simp at h1 h2;simp [Ty.size];omega
theorem ax.frame {N M:Nat->Prop} {H G:af} (h:∀ z,N z->z < H.length->M z/\ah G z=ah H z):∀ (t:Ty) {x:t.T} {cs:List Value},ax N H t x cs->ax M G t x cs
 | .int _,_,_,r=>by unfold ax at r ⊢;exact r
 | .bool,_,_,r=>by unfold ax at r ⊢;exact r
 | .str,_,_,r=>by unfold ax at r ⊢;exact r
 | .sl t,x,_,r=>by
  unfold ax at r ⊢
  rcases r with r | r | ⟨z,o,k,e,hN,hk,hl,hi⟩
  .exact .inl r
  .exact .inr (.inl r)
  .obtain ⟨g1,g2⟩:=h z hN (Qt hk)
   exact .inr (.inr ⟨z,o,k,e,g1,by rw [g2];exact hk,hl,fun i eW=>ax.frame h t (hi i eW)⟩)
 | .os _,_,_,r=>by unfold ax at r ⊢;exact r
 | .pair a b,_,_,r=>by
  unfold ax at r ⊢
  exact ⟨ax.frame h a r.1,ax.frame h b r.2⟩
theorem ax.flat {N M:Nat->Prop} {H G:af}:∀ (t:Ty) {x:t.T} {cs:List Value},t.flat=true->ax N H t x cs->ax M G t x cs
 | .int _,_,_,_,r=>by unfold ax at r ⊢;exact r
 | .bool,_,_,_,r=>by unfold ax at r ⊢;exact r
 | .str,_,_,_,r=>by unfold ax at r ⊢;exact r
 | .sl t,x,_,f,r=>by simp [Ty.flat] at f
 | .os t,x,_,f,r=>by simp [Ty.flat] at f
 | .pair a b,_,_,f,r=>by
  simp only [Ty.flat,Z8] at f
  unfold ax at r ⊢
  exact ⟨ax.flat a f.1 r.1,ax.flat b f.2 r.2⟩
theorem ax.cell {N:Nat->Prop} {H:af}:∀ (t:Ty) {x:t.T} {cs:List Value},ax N H t x cs->∀ v∈cs,az v=true
 | .int _,_,_,h=>by unfold ax at h;subst h;simp [az]
 | .bool,_,_,h=>by unfold ax at h;subst h;simp [az]
 | .str,_,_,h=>by unfold ax at h;subst h;simp [az]
 | .sl t,_,_,h=>by
  unfold ax at h
  rcases h with ⟨_,rfl⟩ | ⟨_,_,_,rfl⟩ | ⟨_,_,_,rfl,_⟩<;>simp [az]
 | .os t,_,_,h=>by unfold ax at h;obtain ⟨v,rfl,hv,_⟩:=h;simpa using hv
 | .pair a b,_,cs,h=>by
  unfold ax at h
  intro v hv
  rw [<- List.take_append_drop a.size cs] at hv
  rcases List.mem_append.1 hv with hv | hv
  .exact ax.cell a h.1 v hv
  .exact ax.cell b h.2 v hv
theorem Ba {a b:Ty} {x:a.T} {y:b.T} (h:fU a b x=some y):∃ e:a=b,e▸x=y:=by
 unfold fU at h
 split at h
 .rename_i hb
  exact ⟨Ty.beq_eq hb,by simpa using h⟩
 .simp at h
theorem Qq {a b:Ty} {x:a.T} {y:b.T} (h:fU a b x=some y):a=b:=(Ba h).1
theorem Qg {a:Ty} {x y:a.T} (h:fU a a x=some y):x=y:=by
 obtain ⟨e,h⟩:=Ba h;exact h
structure MB where
 z:Nat
 sh:Nat
 es:Nat
 n:Nat
structure S where
 μ:Nat->Option MB
 L:LS
 H:af
 fC:Nat->Prop
 Old:Nat->Nat->Prop
 aF:Nat->Prop
 ai:Nat
 br:Nat->Option (Nat×Nat)
def bI (s:S) (z:Nat):Prop:=(∃ b B m,Qi s.L b=some B/\B.rw=true/\s.μ b=some m/\m.z=z)\/s.aF z\/∃ p,s.br z=some p
def S.N (s:S) (z:Nat):Prop:=¬ bI s z/\¬ s.fC z
def S.NN (s:S) (st z:Nat):Prop:=s.N z/\∀ c,st < c->c<=s.L.cu->s.Old c z
def Fit (sh n:Nat) (c:List Value):Prop:=sh+n<=c.length/\∀ v∈c.drop sh,Qa v v=true
def Oj (n k:Nat) (v:Value):Prop:=(n=0/\v=.slice none 0 0)\/∃ z o,v=.slice (some ⟨z,o,none⟩) n k
def iF (K:Nat->Prop) (H:af) (ai:Nat) (t:Ty) (x:List t.T) (v:Value):Prop :=
 (x=[]/\v=.slice none 0 0)\/∃ z o k,v=.slice (some ⟨z,o,none⟩) x.length t.size/\K z/\ah H z=some k/\k.ro=false/\ai<=z/\Fit o (x.length*t.size) k.cells /\
  ∀ i (h:i < x.length),ax (fun _=>False) H t x[i] ((k.cells.drop (o+i*t.size)).take t.size)
theorem iF.sl {K:Nat->Prop} {H:af} {ai:Nat} {t:Ty} {x:List t.T} {v:Value} (h:iF K H ai t x v):Oj x.length t.size v:=by
 rcases h with ⟨rfl,rfl⟩ | ⟨z,o,k,rfl,_⟩
 .exact .inl ⟨rfl,rfl⟩
 .exact .inr ⟨z,o,rfl⟩
theorem iF.mono {K K':Nat->Prop} {H G:af} {ai:Nat} {t:Ty} {x:List t.T} {v:Value} (h:iF K H ai t x v) (hf:t.flat=true) (hk:∀ z,K z->K' z/\ah G z=ah H z):iF K' G ai t x v:=by
 rcases h with h | ⟨z,o,k,h1,h2,h3,h4,h5,h6,h7⟩
 .exact .inl h
 .exact .inr ⟨z,o,k,h1,(hk z h2).1,by rw [(hk z h2).2];exact h3,h4,h5,h6,fun i hi=>ax.flat t hf (h7 i hi)⟩
def Qvx (s:S) (b i n:Nat) (v:Value):Prop:=∀ B e xs h m k,Qi s.L b=some B->B.body=.rows e xs h->s.μ b=some m->ah s.H m.z=some k->∀ y,xs[i]? = some y->n<=y.length/\(y.length=n->k.cells[m.sh+i]? = some v)
def cm (s:S):PV->Value->Prop
 | .int k n,v=>v=.int k n
 | .bool b,v=>v=.bool b
 | .str x,v=>v=.string x
 | .nil,v=>v=.slice none 0 0
 | .vS,v=>v=.pointer none
 | .ro st t x,v=>ax (s.NN st) s.H (.sl t) x [v]
 | .rp st t x,v=>∃ z o k,v=.pointer (some ⟨z,o,none⟩)/\s.NN st z/\ah s.H z=some k/\o+t.size<=k.cells.length/\ax (s.NN st) s.H t x ((k.cells.drop o).take t.size)
 | .a_ b off n,v=>b < s.L.bl.length/\match s.μ b with
  | none=>off=0/\n.getD 0=0/\v=.slice none 0 0
  | some m=>off+n.getD (m.n - off)<=m.n/\v=.slice (some ⟨m.z,m.sh+off*m.es,none⟩) (n.getD (m.n - off)) m.es
 | .ep b j fo,v=>b < s.L.bl.length/\∃ m,s.μ b=some m/\v=.pointer (some ⟨m.z,m.sh+j*m.es+fo,none⟩)
 | .ptr b off,v=>b < s.L.bl.length/\∃ m,s.μ b=some m/\m.sh=0/\v=.pointer (some ⟨m.z,off,none⟩)
 | .dp b off _ u k,v=>b < s.L.bl.length/\∃ m,s.μ b=some m/\m.sh=0/\v=.pointer (some ⟨m.z,off+k*u.size,none⟩)
 | .hole,v=>az v=true/\Qa v v=true
 | .mp b,v=>b < s.L.bl.length/\∃ m,s.μ b=some m/\v=.map (some m.z)
 | .rw b i aB t x,v=>b < s.L.bl.length/\Oj x.length t.size v/\∀ B,Qi s.L b=some B->aB<=B.aB/\(B.aB=aB->t.flat=true/\iF (fun z=>s.br z=some (b,i)) s.H s.ai t x v/\Qvx s b i x.length v)
 | .rq b aB t x,v=>b < s.L.bl.length/\(∃ z o,v=.pointer (some ⟨z,o,none⟩))/\∀ B,Qi s.L b=some B->aB<=B.aB/\(B.aB=aB->∃ z o k i,v=.pointer (some ⟨z,o,none⟩)/\s.br z=some (b,i)/\ah s.H z=some k/\o+t.size<=k.cells.length/\ax (fun _=>False) s.H t x ((k.cells.drop o).take t.size))
 | _,_=>False
def cq (s:S) (cs:List PV) (vs:List Value):Prop:=Qw (cm s) cs vs
def AR (s:S):PV->Value->Prop
 | .agg cs,v=>∃ vs,v=.agg ⟨vs⟩/\cq s cs vs
 | .fn f a b,v=>∃ a' b',v=.func (.func f) ⟨a'⟩ ⟨b'⟩/\cq s a a'/\cq s b b'
 | .undef,v=>v=undef
 | p,v=>cm s p v
def ER (s:S):PV->Value->Prop
 | .kQ cs,v=>∃ vs,v=.tuple ⟨vs⟩/\Qw (AR s) cs vs
 | p,v=>AR s p v
def cG (s:S) (env:bA) (e:Env):Prop:=∀ q,match dD env q with
 | none=>cU e q=none
 | some p=>∃ v,cU e q=some v/\ER s p v
def BR (s:S) (b:Nat) (B:VB):Prop :=
 match B.body with
 | .cells cs=>B.rw=true/\∃ m k,s.μ b=some m/\m.sh=0/\ah s.H m.z=some k/\cq s cs k.cells/\k.ro=false/\s.ai<=m.z
 | .arr t xs=>match s.μ b with
  | none=>xs=[]
  | some m=>m.es=t.size/\m.n=xs.length/\∃ k,ah s.H m.z=some k/\Fit m.sh (xs.length*t.size) k.cells /\
   (∀ i (h:i < xs.length),ax s.N s.H t xs[i] ((k.cells.drop (m.sh+i*t.size)).take t.size)) /\
   (B.rw=true->k.ro=false/\s.ai<=m.z)/\(B.rw=false->s.N m.z)
 | .rows t xs h=>B.rw=true/\t.flat=true/\match s.μ b with
  | none=>xs=[]
  | some m=>m.es=1/\m.n=xs.length/\∃ k,ah s.H m.z=some k/\Fit m.sh xs.length k.cells/\k.ro=false/\s.ai<=m.z /\
   ∀ i (hi:i < xs.length),h≠some i->∃ v,k.cells[m.sh+i]? = some v/\iF (fun z=>s.br z=some (b,i)) s.H s.ai t xs[i] v
 | .mp es=>B.rw=true/\∃ m k,s.μ b=some m/\m.sh=0/\ah s.H m.z=some k/\k.mp=some es/\k.ro=false/\s.ai<=m.z/\k.cells=[]
structure aD (s:S):Prop where
 aJ:∀ b B,Qi s.L b=some B->BR s b B
 inj:∀ b b' B B' m m',Qi s.L b=some B->Qi s.L b'=some B'->B.rw=true->s.μ b=some m->s.μ b'=some m'->m.z=m'.z->b=b'
 dj:∀ z,s.fC z->z < s.H.length/\¬ bI s z
 dV:s.ai<=s.H.length
 lm:∀ b B m,Qi s.L b=some B->s.μ b=some m->¬ s.aF m.z
 iM:∀ z,s.aF z->z < s.H.length
 kl:∀ z p,s.br z=some p->z < s.H.length/\p.1 < s.L.bl.length/\¬ s.aF z/\∀ b B m,Qi s.L b=some B->s.μ b=some m->m.z≠z
 ka:∀ z p,s.br z=some p->∃ k,ah s.H z=some k
def CK (s s':S):Prop:=s.L.cu<=s'.L.cu/\(∀ c,c<=s.L.cu->s'.Old c=s.Old c)/\∀ c z,s.L.cu < c->c<=s'.L.cu->z < s.H.length->s.N z->s'.Old c z
theorem CK.same {s s':S} (h:s'.Old=s.Old) (g:s'.L.cu=s.L.cu):CK s s':=⟨by rw [g];exact Zd _,fun _ _=>by rw [h],fun c z h1 h2=>by omega⟩
structure aj (s s':S):Prop where
 dj:s'.fC=s.fC
 ck:CK s s'
 ai:s'.ai=s.ai
 nb:s.L.bl.length<=s'.L.bl.length
 mu:∀ b,b < s.L.bl.length->s'.μ b=s.μ b
 len:s.H.length<=s'.H.length
 fr:∀ z,z < s.H.length->¬ bI s z->ah s'.H z=ah s.H z
 own:∀ z,bI s' z->bI s z\/s.H.length<=z
 live:∀ b B',b < s.L.bl.length->Qi s'.L b=some B'->∃ B,Qi s.L b=some B/\B.aB<=B'.aB/\(B.aB=B'.aB->B'=B/\(∀ m,s.μ b=some m->ah s'.H m.z=ah s.H m.z)/\∀ z i,s.br z=some (b,i)->s'.br z=some (b,i)/\ah s'.H z=ah s.H z)
theorem Qo {L:LS} {b:Nat} {B:VB} (h:Qi L b=some B):b < L.bl.length:=by
 unfold Qi at h
 rcases Nat.lt_or_ge b L.bl.length with g | g
 .exact g
 .rw [List.getElem?_eq_none g] at h;simp at h
theorem aj.refl (s:S):aj s s :=
 ⟨rfl,CK.same rfl rfl,rfl,Zd _,fun _ _=>rfl,Zd _,fun _ _ _=>rfl,fun _ h=>.inl h,fun b B' _ h=>⟨B',h,Zd _,fun _=>⟨rfl,fun _ _=>rfl,fun _ _ h=>⟨h,rfl⟩⟩⟩⟩
theorem aj.N {s s':S} (h:aj s s') {z:Nat} (hz:z < s.H.length) (hn:s.N z):s'.N z:=by
 refine ⟨fun ho=>?_,by rw [h.dj];exact hn.2⟩
 rcases h.own z ho with h1 | h1
 .exact hn.1 h1
 .omega
theorem aj.trans {s t u:S} (h:aj s t) (g:aj t u):aj s u:=by
 refine ⟨g.dj.trans h.dj,⟨Nat.le_trans h.ck.1 g.ck.1,fun c hc=>(g.ck.2.1 c (Nat.le_trans hc h.ck.1)).trans (h.ck.2.1 c hc),fun c z h1 h2 h3 h4=>?_⟩,g.ai.trans h.ai,Nat.le_trans h.nb g.nb,fun b hb=>?_,Nat.le_trans h.len g.len,fun z hz hn=>?_,fun z hz=>?_,fun b B' hb hB=>?_⟩
 .rcases Nat.lt_or_ge t.L.cu c with h5 | h5
  .exact g.ck.2.2 c z h5 h2 (Zm h3 h.len) (h.N h3 h4)
  .rw [g.ck.2.1 c h5];exact h.ck.2.2 c z h1 h5 h3 h4
 .rw [g.mu b (Zm hb h.nb),h.mu b hb]
 .rw [g.fr z (Zm hz h.len) (fun ho=>by rcases h.own z ho with h1 | h1;exact hn h1;omega),h.fr z hz hn]
 .rcases g.own z hz with h1 | h1
  .exact h.own z h1
  .exact .inr (Nat.le_trans h.len h1)
 .obtain ⟨B1,h1,v1,e1⟩:=g.live b B' (Zm hb h.nb) hB
  obtain ⟨B0,h0,v0,e0⟩:=h.live b B1 hb h1
  refine ⟨B0,h0,Nat.le_trans v0 v1,fun e=>?_⟩
  have ea:B0.aB=B1.aB:=by omega
  have eb:B1.aB=B'.aB:=by omega
  obtain ⟨x1,x2,x3⟩:=e0 ea
  obtain ⟨y1,y2,y3⟩:=e1 eb
  exact ⟨y1.trans x1,fun m hm=>(y2 m (by rw [h.mu b hb];exact hm)).trans (x2 m hm),fun z i hz=>⟨(y3 z i (x3 z i hz).1).1,(y3 z i (x3 z i hz).1).2.trans (x3 z i hz).2⟩⟩
theorem aj.NN {s s':S} (h:aj s s') {st z:Nat} (hz:z < s.H.length) (hn:s.NN st z):s'.NN st z :=
 ⟨h.N hz hn.1,fun c h1 h2=>by
  rcases Nat.lt_or_ge s.L.cu c with h5 | h5
  .exact h.ck.2.2 c z h5 h2 hz hn.1
  .rw [h.ck.2.1 c h5];exact hn.2 c h1 h5⟩
theorem aj.rep {s s':S} (h:aj s s') {st:Nat} {t:Ty} {x:t.T} {cs:List Value} (r:ax (s.NN st) s.H t x cs):ax (s'.NN st) s'.H t x cs :=
 ax.frame (fun z hz hl=>⟨h.NN hl hz,h.fr z hl hz.1.1⟩) t r
theorem aj.vN {s s':S} (h:aj s s') {t:Ty} {x:t.T} {cs:List Value} (r:ax s.N s.H t x cs):ax s'.N s'.H t x cs :=
 ax.frame (fun z hz hl=>⟨h.N hl hz,h.fr z hl hz.1⟩) t r
theorem aj.cm {s s':S} (h:aj s s'):∀ {p:PV} {v:Value},cm s p v->cm s' p v:=by
 intro p v r
 cases p with
 | ro st t x=>exact h.rep (t:=.sl t) r
 | rp st t x =>
  obtain ⟨z,o,k,e,hn,hk,hl,hr⟩:=r
  have hz:=Qt hk
  exact ⟨z,o,k,e,h.NN hz hn,by rw [h.fr z hz hn.1.1];exact hk,hl,h.rep hr⟩
 | a_ b off n=>obtain ⟨hb,r⟩:=r;exact ⟨Zm hb h.nb,by rw [h.mu b hb];exact r⟩
 | ep b j fo=>obtain ⟨hb,r⟩:=r;exact ⟨Zm hb h.nb,by rw [h.mu b hb];exact r⟩
 | ptr b off=>obtain ⟨hb,r⟩:=r;exact ⟨Zm hb h.nb,by rw [h.mu b hb];exact r⟩
 | mp b=>obtain ⟨hb,r⟩:=r;exact ⟨Zm hb h.nb,by rw [h.mu b hb];exact r⟩
 | dp b off n u k=>obtain ⟨hb,r⟩:=r;exact ⟨Zm hb h.nb,by rw [h.mu b hb];exact r⟩
 | rw b i aB t x =>
  obtain ⟨hb,hs,r⟩:=r
  refine ⟨Zm hb h.nb,hs,fun B' iG=>?_⟩
  obtain ⟨B,g1,g2,g3⟩:=h.live b B' hb iG
  obtain ⟨r1,r2⟩:=r B g1
  refine ⟨Nat.le_trans r1 g2,fun e=>?_⟩
  obtain ⟨k1,k2,k3⟩:=g3 (by omega)
  obtain ⟨r3,r4,r5⟩:=r2 (by omega)
  refine ⟨r3,by rw [h.ai];exact r4.mono r3 (fun z hz=>k3 z i hz),fun B2 e2 xs h2 m k sJ Ol vO Ak y hy=>?_⟩
  have:B2=B:=by rw [iG] at sJ;injection sJ with sJ;rw [<- sJ,k1]
  subst this
  rw [h.mu b hb] at vO
  rw [k2 m vO] at Ak
  exact r5 B2 e2 xs h2 m k g1 Ol vO Ak y hy
 | rq b aB t x =>
  obtain ⟨hb,hs,r⟩:=r
  refine ⟨Zm hb h.nb,hs,fun B' iG=>?_⟩
  obtain ⟨B,g1,g2,g3⟩:=h.live b B' hb iG
  obtain ⟨r1,r2⟩:=r B g1
  refine ⟨Nat.le_trans r1 g2,fun e=>?_⟩
  obtain ⟨_,_,k3⟩:=g3 (by omega)
  obtain ⟨z,o,k,i,e1,e2,e3,e4,e5⟩:=r2 (by omega)
  exact ⟨z,o,k,i,e1,(k3 z i e2).1,by rw [(k3 z i e2).2];exact e3,e4,ax.frame (fun _ hz _=>absurd hz id) t e5⟩
 | _=>exact r
theorem aj.cq {s s':S} (h:aj s s') {cs:List PV} {vs:List Value} (r:cq s cs vs):cq s' cs vs:=Qw.mono (fun _ _=>h.cm) r
theorem aj.AR {s s':S} (h:aj s s'):∀ {p:PV} {v:Value},AR s p v->AR s' p v:=by
 intro p v r
 cases p with
 | agg cs=>obtain ⟨vs,e,r⟩:=r;exact ⟨vs,e,h.cq r⟩
 | fn f a b=>obtain ⟨x,y,e,r1,r2⟩:=r;exact ⟨x,y,e,h.cq r1,h.cq r2⟩
 | undef=>exact r
 | kQ cs=>exact absurd r id
 | _=>(simp only [Pv.AR] at r ⊢;exact h.cm r)
theorem aj.ER {s s':S} (h:aj s s'):∀ {p:PV} {v:Value},ER s p v->ER s' p v:=by
 intro p v r
 cases p with
 | kQ cs=>obtain ⟨vs,e,r⟩:=r;exact ⟨vs,e,Qw.mono (fun _ _=>h.AR) r⟩
 | _=>(simp only [Pv.ER] at r ⊢;exact h.AR r)
theorem aj.env {s s':S} (h:aj s s') {env:bA} {e:Env} (r:cG s env e):cG s' env e:=by
 intro q
 have:=r q
 split at this
 .exact this
 .obtain ⟨v,e1,e2⟩:=this;exact ⟨v,e1,h.ER e2⟩
theorem cG.cons {s:S} {env:bA} {e:Env} (r:cG s env e) {d:Nat} {p:PV} {v:Value} (h:ER s p v):cG s ((d,p)::env) ((d,v)::e):=by
 intro q
 simp only [dD,cU]
 cases Nat.beq d q with
 | true=>exact ⟨v,rfl,h⟩
 | false=>exact r q
theorem cG.get {s:S} {env:bA} {e:Env} (r:cG s env e) {q:Nat} {p:PV} (h:dD env q=some p):∃ v,cU e q=some v/\ER s p v:=by
 have:=r q;rw [h] at this;exact this
theorem AR.of {s:S} {p:PV} {v:Value} (h:cm s p v):AR s p v:=by
 cases p<;>first | exact h | exact absurd h id
theorem ER.of {s:S} {p:PV} {v:Value} (h:AR s p v):ER s p v:=by
 cases p<;>first | exact h | exact absurd h id
theorem ER.fh {s:S} {p:PV} {v:Value} (h:cm s p v):ER s p v:=ER.of (AR.of h)
theorem AR.cells {s:S} {p:PV} {v:Value} (h:AR s p v) (hn:∀ f a b,p≠.fn f a b) (hu:p≠.undef):cq s (mU p) v.cells.toList:=by
 cases p with
 | agg cs=>obtain ⟨vs,rfl,r⟩:=h;exact r
 | fn f a b=>exact absurd rfl (hn f a b)
 | undef=>exact absurd rfl hu
 | int k n=>obtain rfl:=h;exact ⟨rfl,trivial⟩
 | bool b=>obtain rfl:=h;exact ⟨rfl,trivial⟩
 | str b=>obtain rfl:=h;exact ⟨rfl,trivial⟩
 | nil=>obtain rfl:=h;exact ⟨rfl,trivial⟩
 | vS=>obtain rfl:=h;exact ⟨rfl,trivial⟩
 | kQ cs=>exact absurd h id
 | ro st t x =>
  have h':ax (s.NN st) s.H (.sl t) x [v]:=h
  have:v.cells.toList=[v]:=by
   unfold ax at h'
   rcases h' with ⟨_,e⟩ | ⟨_,_,_,e⟩ | ⟨_,_,_,e,_⟩<;>(simp at e;subst e;rfl)
  rw [this];exact ⟨h,trivial⟩
 | rp st t x =>
  obtain ⟨z,o,k,rfl,r⟩:=id h
  exact ⟨h,trivial⟩
 | a_ b off n =>
  have:v.cells.toList=[v]:=by
   have h':=h
   obtain ⟨_,r⟩:=h'
   split at r
   .rw [r.2.2];rfl
   .rw [r.2];rfl
  rw [this];exact ⟨h,trivial⟩
 | ep b j fo =>
  obtain ⟨_,m,_,rfl⟩:=id h
  exact ⟨h,trivial⟩
 | ptr b off =>
  obtain ⟨_,m,_,_,rfl⟩:=id h
  exact ⟨h,trivial⟩
 | mp b =>
  obtain ⟨_,m,_,rfl⟩:=id h
  exact ⟨h,trivial⟩
 | dp b off n u k =>
  obtain ⟨_,m,_,_,rfl⟩:=id h
  exact ⟨h,trivial⟩
 | rw b i aB t x =>
  have:v.cells.toList=[v]:=by
   obtain ⟨_,r,_⟩:=id h
   rcases r with ⟨_,rfl⟩ | ⟨_,_,rfl⟩<;>rfl
  rw [this];exact ⟨h,trivial⟩
 | rq b aB t x =>
  obtain ⟨_,⟨_,_,rfl⟩,_⟩:=id h
  exact ⟨h,trivial⟩
 | hole =>
  have h:az v=true/\Qa v v=true:=h
  have h':=h.1
  have:v.cells.toList=[v]:=by cases v<;>first | rfl | simp [az] at h'
  rw [this];exact ⟨h,trivial⟩
theorem cm.cell {s:S} {p:PV} {v:Value} (h:cm s p v):az v=true:=by
 cases p with
 | int k n=>obtain rfl:=h;rfl
 | bool b=>obtain rfl:=h;rfl
 | str b=>obtain rfl:=h;rfl
 | nil=>obtain rfl:=h;rfl
 | vS=>obtain rfl:=h;rfl
 | ro st t x=>exact ax.cell (.sl t) h v (by simp)
 | rp st t x=>obtain ⟨z,o,k,rfl,r⟩:=id h;rfl
 | a_ b off n =>
  obtain ⟨_,r⟩:=id h
  split at r
  .rw [r.2.2];rfl
  .rw [r.2];rfl
 | ep b j fo=>obtain ⟨_,m,_,rfl⟩:=id h;rfl
 | ptr b off=>obtain ⟨_,m,_,_,rfl⟩:=id h;rfl
 | mp b=>obtain ⟨_,m,_,rfl⟩:=id h;rfl
 | dp b off n u k=>obtain ⟨_,m,_,_,rfl⟩:=id h;rfl
 | hole=>exact h.1
 | rw b i aB t x=>obtain ⟨_,r,_⟩:=id h;rcases r with ⟨_,rfl⟩ | ⟨_,_,rfl⟩<;>rfl
 | rq b aB t x=>obtain ⟨_,⟨_,_,rfl⟩,_⟩:=id h;rfl
 | fn f a b=>exact absurd h id
 | agg cs=>exact absurd h id
 | kQ cs=>exact absurd h id
 | undef=>exact absurd h id
theorem cq.cell {s:S}:∀ {cs:List PV} {vs:List Value},cq s cs vs->∀ v∈vs,az v=true
 | [],[],_=>by simp
 | p::r,v::w,h=>by
  intro u hu
  rcases Z2 hu with rfl | hu
  .exact h.1.cell
  .exact cq.cell h.2 u hu
theorem Om (H:af) (c:List Value):(dr H c).length=H.length+1:=by simp [dr]
theorem Fo {H:af} {c:List Value} {z:Nat} (h:z < H.length):ah (dr H c) z=ah H z:=by
 unfold ah dr;rw [List.getElem?_append_left h]
theorem MC (H:af) (c:List Value):ah (dr H c) H.length=some ⟨c,false,none⟩:=by
 unfold ah dr;simp
theorem Q74 {H:af} {b:Nat} {x:Option bx} (h:b < H.length):ah (H.set b x) b=x:=by
 cases x<;>simp [ah,h]
theorem Qh {H:af} {b c:Nat} {x:Option bx} (h:b≠c):ah (H.set b x) c=ah H c:=by
 unfold ah;rw [List.getElem?_set_ne h]
theorem Qz {L:LS} {B:Body} {b:Nat} (h:b < L.bl.length):Qi (Qv L B) b=Qi L b:=by
 unfold Qi Qv;simp only;rw [List.getElem?_append_left h]
theorem Dy (L:LS) (B:Body):Qi (Qv L B) L.bl.length=some ⟨0,true,B⟩:=by
 unfold Qi Qv;simp
theorem vT {L:LS} {B:Body} {b:Nat} (h:L.bl.length < b):Qi (Qv L B) b=none:=by
 unfold Qi Qv;simp only;rw [List.getElem?_eq_none (by simp;omega)]
theorem Ql (L:LS) (B:Body):(Qv L B).bl.length=L.bl.length+1:=by simp [Qv]
theorem Qr {L:LS} {b:Nat} {B:VB} (h:b < L.bl.length):Qi (cW L b B) b=some B:=by
 unfold Qi cW;simp [h]
theorem wM {L:LS} {b c:Nat} {B:VB} (h:b≠c):Qi (cW L b B) c=Qi L c:=by
 unfold Qi cW;simp only;rw [List.getElem?_set_ne h]
theorem oR (L:LS) (b:Nat) (B:VB):(cW L b B).bl.length=L.bl.length:=by simp [cW]
theorem Qd6 {L:LS} {b:Nat}:Qi (mV L b) b=none:=by
 unfold Qi mV;simp only
 rcases Nat.lt_or_ge b L.bl.length with h | h
 .simp [h]
 .rw [List.getElem?_eq_none (by simpa using h)]
theorem YS {L:LS} {b c:Nat} (h:b≠c):Qi (mV L b) c=Qi L c:=by
 unfold Qi mV;simp only;rw [List.getElem?_set_ne h]
theorem E6 (L:LS) (b:Nat):(mV L b).bl.length=L.bl.length:=by simp [mV]
theorem Qs {L:LS} {b c:Nat} {B:VB} (h:Qi (mV L b) c=some B):b≠c/\Qi L c=some B:=by
 by_cases e:b=c
 .subst e;rw [Qd6] at h;simp at h
 .rw [YS e] at h;exact ⟨e,h⟩
def S.Dz (μ:Nat->Option MB) (b:Nat) (m:Option MB):Nat->Option MB:=fun c=>if c=b then m else μ c
theorem S.aW (μ:Nat->Option MB) (b:Nat) (m:Option MB):S.Dz μ b m b=m:=by simp [S.Dz]
theorem S.cC {μ:Nat->Option MB} {b c:Nat} {m:Option MB} (h:c≠b):S.Dz μ b m c=μ c:=by simp [S.Dz,h]
end Go.Pv
