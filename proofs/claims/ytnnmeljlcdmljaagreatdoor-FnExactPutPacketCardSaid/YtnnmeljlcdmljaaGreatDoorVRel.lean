/-
  The simp kit for the abstract interpreter's residual forms: lazy evaluation of reads and writes on heaps of the form H ++ locals. And what stood behind it in 3 texts.
  Conditions: said at the theorems.
-/
import Derived.Test.YtnnmeljlcdmljaaGreatDoorSound
import Derived.Attr
import Derived.IntWalk
import Derived.Below
import Derived.RowKit
import Derived.WalkKit
import Derived.ProofKit
import Derived.OpenShut
import Derived.DataShut
import Derived.Test.YtnnmeljlcdmljaaGreatDoorOpB
set_option linter.unusedSimpArgs false
set_option linter.all false
namespace Go.Ek
open Go.Ev
@[congr] theorem Qwl {α β:Type} {x y:Option α} {f:α→Option β} (h:x=y):Q1 x f=Q1 y f:=by rw [h]
@[congr] theorem Qyy {β:Type} {b c:Bool} {x y:Option β} (h:b=c):oif b x y=oif c x y:=by rw [h]
@[congr] theorem Qx4 {β:Type} {k:IntKind} {v u:Value} {K:Int→Option β} (h:v=u):Qw5 k v K=Qw5 k u K:=by rw [h]
@[congr] theorem Qwm {β:Type} {v u:Value} {K:Bool→Option β} (h:v=u):Qb2 v K=Qb2 u K:=by rw [h]
@[congr] theorem Qx5 {β:Type} {v u:Value} {K:ByteArray→Option β} (h:v=u):Qym v K=Qym u K:=by rw [h]
@[congr] theorem Qyz {β:Type} {v u:Value} {K:Option Addr→Nat→Nat→Option β} (h:v=u):vSl v K=vSl u K:=by rw [h]
@[congr] theorem Qx6 {β:Type} {v u:Value} {K:Option Addr→Option β} (h:v=u):Qyn v K=Qyn u K:=by rw [h]
@[congr] theorem Qx7 {β:Type} {v u:Value} {K:List Value→Option β} (h:v=u):Qyo v K=Qyo u K:=by rw [h]
@[congr] theorem Qx8 {β:Type} {v u:Value} {K:List Value→Option β} (h:v=u):Qyp v K=Qyp u K:=by rw [h]
@[congr] theorem Qwn {β:Type} {v u:List Value} {K:Value→List Value→Option β} (h:v=u):Qb3 v K=Qb3 u K:=by rw [h]
@[congr] theorem Qz0 {β:Type} {v u:Value} {K:FuncId→Array Value→Array Value→Option β} (h:v=u):vFn v K=vFn u K:=by rw [h]
@[congr] theorem Qx9 {β:Type} {v u:Value} {K:Addr→Option β} (h:v=u):Q5c v K=Q5c u K:=by rw [h]
@[congr] theorem Qz1 {β:Type} {v u:Value} {K:Addr→Nat→Nat→Option β} (h:v=u):slS v K=slS u K:=by rw [h]
@[congr] theorem Qwo {β:Type} {v u:Value} {K:Nat→Option β} (h:v=u):Qa4 v K=Qa4 u K:=by rw [h]
@[go_sem] theorem Qzq {α β:Type} (a:α) (f:α→Option β):Q1 (some a) f=f a:=(rfl)
attribute [go_sem] Go.Ev.obind_none
@[go_sem] theorem Qzr {β:Type} (x y:Option β):oif true x y=x:=(rfl)
@[go_sem] theorem Qz2 {β:Type} (x y:Option β):oif false x y=y:=(rfl)
@[go_sem] theorem Qzs {β:Type} (k:IntKind) (n:Int) (K:Int→Option β):Qw5 k (.int k n) K=K n:=by simp [Qw5]
@[go_sem] theorem Qxa {β:Type} (b:Bool) (K:Bool→Option β):Qb2 (.bool b) K=K b:=(rfl)
@[go_sem] theorem Qzt {β:Type} (b:ByteArray) (K:ByteArray→Option β):Qym (.string b) K=K b:=(rfl)
@[go_sem] theorem Q01b {β:Type} (a:Option Addr) (n c:Nat) (K:Option Addr→Nat→Nat→Option β):vSl (.slice a n c) K=K a n c:=(rfl)
@[go_sem] theorem Qzu {β:Type} (a:Option Addr) (K:Option Addr→Option β):Qyn (.pointer a) K=K a:=(rfl)
@[go_sem] theorem Q01c {β:Type} (f:FuncId) (a b:Array Value) (K:FuncId→Array Value→Array Value→Option β):vFn (.func (.func f) a b) K=K f a b:=(rfl)
@[go_sem] theorem Qzv {β:Type} (p:Addr) (K:Addr→Option β):Q5c (.pointer (some p)) K=K p:=(rfl)
@[go_sem] theorem Q01d {β:Type} (p:Addr) (n c:Nat) (K:Addr→Nat→Nat→Option β):slS (.slice (some p) n c) K=K p n c:=(rfl)
@[go_sem] theorem Qz3 {β:Type} (n:Int) (K:Nat→Option β):Qa4 (.int .i64 n) K=oif (decide (0≤n)) (K n.toNat) none:=(rfl)
@[go_sem] theorem Qz4 {β:Type} (n:Nat) (K:Nat→Option β):Qa4 (.int .i64 (n:Int)) K=K n:=by simp [Qa4,oif]
@[go_sem] theorem Qk6 (a b:Nat):Nat.ble a b=decide (a≤b):=by rw [Bool.eq_iff_iff];simp
@[go_sem] theorem Q00u (a b:Nat):Nat.blt a b=decide (a < b):=by rw [Bool.eq_iff_iff];simp [Nat.blt];omega
@[go_sem] theorem Q00v (a b:Nat):Nat.beq a b=decide (a=b):=by rw [Bool.eq_iff_iff];simp
@[go_sem] theorem Qzw (H:Heap) (c:List Value):Q0d H c=H++[some ⟨c,false,none⟩]:=(rfl)
@[go_sem] theorem Qfm (H L:Heap) (k:Nat):hget (H++L) (H.length+k)=hget L k:=by
 unfold hget;rw [Zq (Nat.le_add_right _ _),Nat.add_sub_cancel_left]
@[go_sem] theorem Qls (H L:Heap):hget (H++L) H.length=hget L 0:=Qfm H L 0
@[go_sem] theorem Qz5 (H L:Heap) (b k:Nat) (x:Option Blk):hget (H.set b x++L) (H.length+k)=hget L k:=by
 have:=Qfm (H.set b x) L k;simpa using this
@[go_sem] theorem Qz6 (H L:Heap) (b:Nat) (x:Option Blk):hget (H.set b x++L) H.length=hget L 0:=by
 have:=Qls (H.set b x) L;simpa using this
theorem Qqo {H L:Heap} {b:Nat} (h:b < H.length):hget (H++L) b=hget H b:=by
 unfold hget;rw [List.getElem?_append_left h]
theorem Q40 {H:Heap} {b:Nat} {k:Blk} (h:hget H b=some k):b < H.length:=by
 unfold hget at h
 rcases Nat.lt_or_ge b H.length with h1 | h1
 ·exact h1
 ·rw [List.getElem?_eq_none h1] at h;simp at h
theorem Q86 {H L:Heap} {b:Nat} {k:Blk} (h:hget H b=some k):hget (H++L) b=some k:=by rw [Qqo (Q40 h),h]
theorem Qfn {H:Heap} {b:Nat} {x:Option Blk} (h:b < H.length):hget (H.set b x) b=x:=by
 cases x<;>simp [hget,h]
@[go_sem] theorem Q00w (k:Option Blk) (L:Heap):hget (k::L) 0=k:=by cases k<;>rfl
@[go_sem] theorem Q00x (k:Option Blk) (L:Heap) (n:Nat):hget (k::L) (n+1)=hget L n:=by simp [hget]
@[go_sem] theorem Q00y (H L:Heap) (k:Nat) (x:Option Blk):(H++L).set (H.length+k) x=H++L.set k x:=by simp [List.set_append]
@[go_sem] theorem Qj9 (H L:Heap) (x:Option Blk):(H++L).set H.length x=H++L.set 0 x:=by simp [List.set_append]
@[go_sem] theorem Qzx (H L:Heap) (b k:Nat) (x y:Option Blk):(H.set b y++L).set (H.length+k) x=H.set b y++L.set k x:=by simp [List.set_append]
@[go_sem] theorem Qzy (H L:Heap) (b:Nat) (x y:Option Blk):(H.set b y++L).set H.length x=H.set b y++L.set 0 x:=by simp [List.set_append]
@[go_sem] theorem Qzz (H:Heap) (b:Nat) (x y:Option Blk):(H.set b x).set b y=H.set b y:=by simp
@[go_sem] theorem Qtc (H L:Heap):(H++L).take H.length=H:=by simp
theorem Qz7 (H L:Heap) (x:Option Blk):(H++x::L).take (H.length+(L.length+1))=H++x::L:=by
 have:=List.take_length (l:=H++x::L);simpa using this
@[go_sem] theorem Qz8 (H L:Heap) (b:Nat) (x:Option Blk):(H.set b x++L).take H.length=H.set b x:=by
 have:=Qtc (H.set b x) L;simpa using this
@[go_sem] theorem Q01e (H:Heap) (b:Nat) (x:Option Blk):(H.set b x).take H.length=H.set b x:=by
 have:=List.take_length (l:=H.set b x);simpa using this
@[go_sem] theorem Q000 (H:Heap) (a:Addr):Q2f H a=Q1 (hget H a.block) fun k=>k.cells[a.off]?:=(rfl)
@[go_sem] theorem Qz9 (H:Heap) (a:Addr) (n:Nat):Qx H a n=Q1 (hget H a.block) fun k=>oif (decide (a.off+n≤k.cells.length)) (some ((k.cells.drop a.off).take n)) none:=by
 unfold Qx;congr 1;funext k;rw [Qk6];cases decide (a.off+n≤k.cells.length)<;>rfl
@[go_sem] theorem Qxb (H:Heap) (lim:Nat) (a:Addr) (vs:List Value):Q1u H lim a vs=Q1 (hget H a.block) fun k =>
  oif (!k.ro&&vs.all isCell&&(vs.all Qt || decide (lim≤a.block))&&decide (a.off+vs.length≤k.cells.length))
   (some (H.set a.block (some { k with cells:=Q16 k.cells a.off vs }))) none:=by
 unfold Q1u;congr 1;funext k;rw [Qk6,Qk6]
 cases k.ro<;>cases vs.all isCell<;>cases (vs.all Qt || decide (lim≤a.block))<;>cases decide (a.off+vs.length≤k.cells.length)<;>rfl
@[go_sem] theorem Qxc (k:IntKind) (n:Int):Qt (.int k n)=true:=(rfl)
@[go_sem] theorem Qwp (b:Bool):Qt (.bool b)=true:=(rfl)
@[go_sem] theorem Qxd (b:ByteArray):Qt (.string b)=true:=(rfl)
@[go_sem] theorem Qxe:Qt (.slice none 0 0)=true:=(rfl)
@[go_sem] theorem Qxf (a:Addr) (n c:Nat):Qt (.slice (some a) n c)=false:=(rfl)
@[go_sem] theorem Qxg (a:Addr):Qt (.pointer (some a))=false:=(rfl)
@[go_sem] theorem Qxh (k:IntKind) (n:Int):isCell (.int k n)=true:=(rfl)
@[go_sem] theorem Qwq (b:Bool):isCell (.bool b)=true:=(rfl)
@[go_sem] theorem Qxi (b:ByteArray):isCell (.string b)=true:=(rfl)
@[go_sem] theorem Qza (a:Option Addr) (n c:Nat):isCell (.slice a n c)=true:=(rfl)
@[go_sem] theorem Qzb (a:Option Addr):isCell (.pointer a)=true:=(rfl)
def fin (base:Nat) (vs:List Value) (H:Heap):Option (Value×Heap):=Q1 (Q4d .drop base vs H) fun r=>some (Q3a r.1,r.2)
def Q6v:Value→Bool
 | .agg cs=>cs.toList.all Qt
 | v=>Qt v
theorem Q6w (base:Nat) (H:Heap) (olds:List Nat):∀ l:List Value,l.all Qt=true→Q2t base H olds l=some (l,olds)
 | [],_=>rfl
 | v::r,h=>by
  simp only [List.all_cons,Z8] at h
  have hv:Q7z base H olds v=some (v,olds):=by
   have h1:=h.1
   unfold Q7z
   split
   ·simp [Qt] at h1
   ·simp [Qt] at h1
   ·simp [h1]
  simp [Q2t,hv,Q1,Q6w base H olds r h.2]
theorem Qk7 (base:Nat) (H:Heap) (olds:List Nat) (v:Value) (h:Q6v v=true):Qmu base H olds v=some (v,olds):=by
 unfold Qmu
 split
 ·rename_i cs
  simp only [Q6v] at h
  rw [Q6w _ _ _ _ h];simp [Q1]
 ·rename_i hn
  have h1:Qt v=true:=by unfold Q6v at h;split at h<;>first | exact h | exact absurd rfl (hn _)
  unfold Q7z
  split
  ·simp [Qt] at h1
  ·simp [Qt] at h1
  ·simp [h1]
theorem Q9u (base:Nat) (H:Heap) (olds:List Nat):∀ l:List Value,l.all Q6v=true→Q59 base H olds l=some (l,olds)
 | [],_=>rfl
 | v::r,h=>by
  simp only [List.all_cons,Z8] at h
  simp [Q59,Qk7 base H olds v h.1,Q1,Q9u base H olds r h.2]
@[go_sem] theorem Qzc (base:Nat) (vs:List Value) (H:Heap) (h:vs.all Q6v=true):fin base vs H=some (Q3a vs,H.take base):=by
 unfold fin Q4d;simp [Q9u base H [] vs h,Q1]
@[go_sem] theorem Qxj (k:IntKind) (n:Int):Q6v (.int k n)=true:=(rfl)
@[go_sem] theorem Qwr (b:Bool):Q6v (.bool b)=true:=(rfl)
@[go_sem] theorem Qxk (b:ByteArray):Q6v (.string b)=true:=(rfl)
@[go_sem] theorem Qxl:Q6v (.slice none 0 0)=true:=(rfl)
@[go_sem] theorem Qxm (cs:Array Value):Q6v (.agg cs)=cs.toList.all Qt:=(rfl)
@[go_sem] theorem Qzd (v:Value):Q3a [v]=v:=(rfl)
@[go_sem] theorem Qze (u v:Value) (l:List Value):Q3a (u::v::l)=.tuple (u::v::l).toArray:=(rfl)
@[go_sem] theorem Q001 (H:Heap):H.take H.length=H:=List.take_length
attribute [go_sem] Zf List.length_set Z9 Zb List.append_assoc List.cons_append List.nil_append List.append_nil List.set_cons_zero List.set_cons_succ List.all_cons List.all_nil List.take_succ_cons List.take_zero List.drop_succ_cons List.drop_zero List.take_nil List.drop_nil List.getElem?_cons_zero List.getElem?_cons_succ Q16 Nat.reduceAdd Nat.reduceLeDiff Nat.reduceLT Nat.reduceMul Nat.add_zero Zo Bool.and_true Zg Bool.not_false Zl Bool.true_or Bool.false_or Bool.or_true Bool.or_false Bool.and_false Bool.false_and decide_true decide_false Nat.add_assoc Nat.zero_mul Nat.one_mul Nat.mul_one
def W (e:Option (Value×Heap)) (Q:Value→Heap→Prop):Prop:=∃ v H,e=some (v,H)∧Q v H
def Q8f (g:Option (Nat×Blk)) (G:Heap):Prop:=∀ c B,g=some (c,B)→B.ro=true∧hget G c=some B
def Qnr (g:Option (Nat×Blk)) (m:Nat) (k:Blk):Prop:=∃ a l e,∃ t s:Int,k=⟨[.slice a l e,.int .i64 t,.int .u64 s],false,none⟩∧0≤t∧t≤m ∧
 (l=0∨∃ p B,a=some p∧g=some (p.block,B)∧∀ i,i < l→∃ x:Int,B.cells[p.off+i]? = some (.int .u8 x)∧0≤x∧x < 256)
def Cu (g:Option (Nat×Blk)) (m:Nat) (G:Heap) (b:Nat):Prop:=∃ k,hget G b=some k∧Q8f g G∧Qnr g m k
theorem Qnr.mono {g:Option (Nat×Blk)} {m n:Nat} {k:Blk} (h:Qnr g m k) (hn:m≤n):Qnr g n k:=by
 obtain ⟨a,l,e,t,s,h1,h2,h3,h4⟩:=h;exact ⟨a,l,e,t,s,h1,h2,by omega,h4⟩
theorem Cu.mono {g:Option (Nat×Blk)} {m n:Nat} {G:Heap} {b:Nat} (h:Cu g m G b) (hn:m≤n):Cu g n G b:=by
 obtain ⟨k,h1,h2,h3⟩:=h;exact ⟨k,h1,h2,h3.mono hn⟩
theorem Cu.lt {g:Option (Nat×Blk)} {m:Nat} {G:Heap} {b:Nat} (h:Cu g m G b):b < G.length:=by
 obtain ⟨k,h1,_,_⟩:=h;exact Q40 h1
theorem Q8f.app {g:Option (Nat×Blk)} {G:Heap} (h:Q8f g G) (L:Heap):Q8f g (G++L) :=
 fun c B e=>⟨(h c B e).1,Q86 (h c B e).2⟩
theorem Q8f.set {g:Option (Nat×Blk)} {G:Heap} (h:Q8f g G) {b:Nat} {k:Blk} (hk:hget G b=some k) (hr:k.ro=false) (x:Option Blk):Q8f g (G.set b x):=by
 intro c B e
 obtain ⟨h1,h2⟩:=h c B e
 refine ⟨h1,?_⟩
 have hbc:b≠c:=by rintro rfl;rw [hk] at h2;injection h2 with h2;subst h2;rw [h1] at hr;exact absurd hr (by decide)
 rw [Qm hbc];exact h2
theorem Qnr.ro {g:Option (Nat×Blk)} {m:Nat} {k:Blk} (h:Qnr g m k):k.ro=false:=by
 obtain ⟨a,l,e,t,s,h1,_⟩:=h;subst h1;rfl
theorem Cu.app {g:Option (Nat×Blk)} {m:Nat} {G:Heap} {b:Nat} (h:Cu g m G b) (L:Heap):Cu g m (G++L) b:=by
 obtain ⟨k,h1,h2,h3⟩:=h;exact ⟨k,Q86 h1,h2.app L,h3⟩
theorem Cu.set {g:Option (Nat×Blk)} {m n:Nat} {G:Heap} {b:Nat} {k:Blk} (h:Cu g m G b) (hk:Qnr g n k):Cu g n (G.set b (some k)) b:=by
 obtain ⟨k0,h1,h2,h3⟩:=h
 exact ⟨k,by rw [Qfn (Q40 h1)],h2.set h1 h3.ro _,hk⟩
theorem Cu.step {g:Option (Nat×Blk)} {m n:Nat} {G:Heap} {b:Nat} {k:Blk} (h:Cu g m G b) (hk:Qnr g n k) (L:Heap):Cu g n (G.set b (some k)++L) b:=(h.set hk).app L
theorem Cu.new {g:Option (Nat×Blk)} {n:Nat} {G:Heap} {k:Blk} (h:Q8f g G) (hk:Qnr g n k) (L:Heap):Cu g n (G++some k::L) G.length:=by
 refine ⟨k,?_,h.app _,hk⟩
 rw [Qls];rfl
@[go_sem] theorem Qxn (k:IntKind) (a:Int):Q1l (some (.int k a)) (some (.int k a))=true:=by simp [Q1l,Qa]
@[go_sem] theorem Qws (a:Bool):Q1l (some (.bool a)) (some (.bool a))=true:=by simp [Q1l,Qa]
@[go_sem] theorem Qzf (a:Option Addr) (n c:Nat):Q1l (some (.slice a n c)) (some (.slice a n c))=true:=by simp [Q1l,Qa]
theorem Qcp (v:Value) (h:Qt v=true):Qa v v=true:=by
 unfold Qt at h
 split at h<;>simp_all [Qa]
theorem Q9v:∀ l:List Value,l.all Qt=true→Q6t l l=true
 | [],_=>rfl
 | v::r,h=>by
  simp only [List.all_cons,Z8] at h
  simp [Q6t,Qcp v h.1,Q9v r h.2]
@[go_sem] theorem Q6i (l:List Value) (h:l.all Qt=true):Q1l (some (.agg l.toArray)) (some (.agg l.toArray))=true:=by
 simp [Q1l,Q9v l h]
attribute [go_sem] Int.reduceBEq Int.reduceBNe Int.reduceLT Int.reduceLE Int.reduceGT Int.reduceGE
def Q00z (g:Option (Nat×Blk)) (a:Option Addr) (l:Nat):Prop :=
 l=0∨∃ p B,a=some p∧g=some (p.block,B)∧∀ i,i < l→∃ x:Int,B.cells[p.off+i]? = some (.int .u8 x)∧0≤x∧x < 256
theorem Qnr.new {g:Option (Nat×Blk)} {a:Option Addr} {l:Nat} (h:Q00z g a l) (e:Nat):Qnr g 0 ⟨[.slice a l e,.int .i64 0,.int .u64 0],false,none⟩ :=
 ⟨a,l,e,0,0,rfl,by omega,by omega,h⟩
theorem Cu.loc {g:Option (Nat×Blk)} {n i:Nat} {G L:Heap} {k:Blk} (h:Q8f g G) (hk:Qnr g n k) (hl:hget L i=some k):Cu g n (G++L) (G.length+i) :=
 ⟨k,by rw [Qfm];exact hl,h.app _,hk⟩
open Go.Ev Go.ChangeAt Go.RowKit Go.WideShapes Go.ChangeShapes
theorem Qdn {w:World} {a:Addr} {v:Value} (h:w.cell? a=some v):∃ ety n,w.shape? a.block=some (ety,n)∧a.off < n∧a.spot=none:=by
 unfold World.cell? at h
 unfold World.shape?
 split at h
 ·rename_i c e q he
  split at h
  ·simp at h
  ·rename_i hs
   refine ⟨e,c.size,rfl,?_,by simpa using hs⟩
   rcases Nat.lt_or_ge a.off c.size with h1 | h1
   ·exact h1
   ·rw [Array.getElem?_eq_none h1] at h;simp at h
 ·simp at h
end Go.Ek
namespace Go.Pv
open Go.Ev
inductive Ty where
 | int (k:IntKind)
 | bool
 | str
 | sl (t:Ty)
 | os (t:Ty)
 | pair (a b:Ty)
@[reducible] def Ty.T:Ty→Type
 | .int _=>Int
 | .bool=>Bool
 | .str=>ByteArray
 | .sl t=>List t.T
 | .os t=>List t.T
 | .pair a b=>a.T×b.T
def Ty.size:Ty→Nat
 | .pair a b=>a.size+b.size
 | _=>1
def Ty.beq:Ty→Ty→Bool
 | .int k,.int l=>decide (k=l)
 | .bool,.bool=>true
 | .str,.str=>true
 | .sl a,.sl b=>a.beq b
 | .os a,.os b=>a.beq b
 | .pair a b,.pair c d=>a.beq c&&b.beq d
 | _,_=>false
theorem Ty.beq_eq:∀ {a b:Ty},a.beq b=true→a=b
 | .int k,b,h=>by cases b<;>simp_all [Ty.beq]
 | .bool,b,h=>by cases b<;>simp_all [Ty.beq]
 | .str,b,h=>by cases b<;>simp_all [Ty.beq]
 | .sl a,b,h=>by
  cases b<;>simp only [Ty.beq,Bool.false_eq_true] at h
  rw [Ty.beq_eq h]
 | .os a,b,h=>by
  cases b<;>simp only [Ty.beq,Bool.false_eq_true] at h
  rw [Ty.beq_eq h]
 | .pair a c,b,h=>by
  cases b<;>simp only [Ty.beq,Bool.false_eq_true,Z8] at h
  rw [Ty.beq_eq h.1,Ty.beq_eq h.2]
def Q1p (a b:Ty) (x:a.T):Option b.T:=if h:a.beq b=true then some ((Ty.beq_eq h)▸x) else none
def Ty.flat:Ty→Bool
 | .sl _=>false
 | .os _=>false
 | .pair a b=>a.flat&&b.flat
 | _=>true
def Ty.rowT:Ty→Bool
 | .os t=>t.flat
 | _=>false
def Ty.isOs:Ty→Bool
 | .os _=>true
 | _=>false
def Ty.nosl:Ty→Bool
 | .sl _=>false
 | .os t=>t.flat || t.rowT
 | .pair a b=>a.nosl&&b.nosl
 | _=>true
def Ty.hasOs:Ty→Bool
 | .os _=>true
 | .pair a b=>a.hasOs || b.hasOs
 | _=>false
abbrev TV:=(t:Ty)×t.T
@[reducible] def Qc1:List Ty→Type
 | []=>Unit
 | [t]=>t.T
 | t::u::r=>t.T×Qc1 (u::r)
def unT:(ts:List Ty)→Qc1 ts→List TV
 | [],_=>[]
 | [t],x=>[⟨t,x⟩]
 | t::u::r,x=>⟨t,x.1⟩::unT (u::r) x.2
def mkT:(ts:List Ty)→List TV→Option (Qc1 ts)
 | [],[]=>some ()
 | [t],[v]=>Q1p v.1 t v.2
 | t::u::r,v::vs=>Q1 (Q1p v.1 t v.2) fun x=>Q1 (mkT (u::r) vs) fun y=>some (x,y)
 | _,_=>none
inductive PV where
 | int (k:IntKind) (n:Int)
 | bool (b:Bool)
 | str (s:ByteArray)
 | nil
 | nilp
 | ro (st:Nat) (t:Ty) (x:List t.T)
 | rp (st:Nat) (t:Ty) (x:t.T)
 | osl (b off:Nat) (n:Option Nat)
 | ep (b j fo:Nat)
 | ptr (b off:Nat)
 | dp (b off n:Nat) (u:Ty) (k:Nat)
 | fn (f:FuncId) (first cap:List PV)
 | agg (cs:List PV)
 | tup (cs:List PV)
 | undef
 | hole
 | rw (b i ver:Nat) (t:Ty) (x:List t.T)
 | rq (b ver:Nat) (t:Ty) (x:t.T)
 | mp (b:Nat)
inductive Body where
 | cells (cs:List PV)
 | arr (t:Ty) (xs:List t.T)
 | rows (t:Ty) (xs:List (List t.T)) (h:Option Nat)
 | mp (es:List (Int×Int))
def Q9w:(u:Ty)→List u.T→Body
 | .os t,xs=>match t.flat with
  | true=>.rows t xs none
  | false=>.arr (.os t) xs
 | .int k,xs=>.arr (.int k) xs
 | .bool,xs=>.arr .bool xs
 | .str,xs=>.arr .str xs
 | .sl t,xs=>.arr (.sl t) xs
 | .pair a b,xs=>.arr (.pair a b) xs
structure VB where
 ver:Nat
 rw:Bool
 body:Body
structure LS where
 bl:List (Option VB)
 clk:Nat
abbrev Q0n:=List (Nat×PV)
def Q3c:Q0n→Nat→Option PV
 | [],_=>none
 | (s,v)::r,t=>match Nat.beq s t with | true=>some v | false=>Q3c r t
def Qi (L:LS) (b:Nat):Option VB:=match L.bl[b]? with | some (some k)=>some k | _=>none
def Q2h (L:LS) (b:Nat) (B:VB):LS:=⟨L.bl.set b (some B),L.clk⟩
def Q53 (L:LS) (b:Nat):LS:=⟨L.bl.set b none,L.clk⟩
def Qv (L:LS) (B:Body):LS:=⟨L.bl++[some ⟨0,true,B⟩],L.clk⟩
def Q2c:PV→List PV
 | .agg cs=>cs
 | v=>[v]
def okV:PV→Bool
 | .fn _ _ _=>false
 | .undef=>false
 | .tup _=>false
 | .hole=>false
 | .mp _=>false
 | _=>true
def Q2y:PV→Bool
 | .agg _=>false
 | v=>okV v
def Q1y (st:Nat):(t:Ty)→t.T→List PV
 | .int k,x=>[.int k x]
 | .bool,x=>[.bool x]
 | .str,x=>[.str x]
 | .sl t,x=>[.ro st t x]
 | .os _,_=>[.hole]
 | .pair a b,x=>Q1y st a x.1++Q1y st b x.2
def Q4i:Ty→List PV→PV
 | .pair _ _,l=>.agg l
 | _,[v]=>v
 | _,_=>.undef
def sub:(t u:Ty)→Nat→t.T→Option u.T
 | .pair a b,u,o,x=>match Nat.beq o 0,Ty.beq (.pair a b) u with
  | true,true=>Q1p (.pair a b) u x
  | _,_=>match Nat.blt o a.size with
   | true=>sub a u o x.1
   | false=>sub b u (o - a.size) x.2
 | t,u,o,x=>match Nat.beq o 0 with
  | true=>Q1p t u x
  | false=>none
def upd:(t u:Ty)→Nat→t.T→u.T→Option t.T
 | .pair a b,u,o,x,y=>match Nat.beq o 0,Ty.beq (.pair a b) u with
  | true,true=>Q1p u (.pair a b) y
  | _,_=>match Nat.blt o a.size with
   | true=>Q1 (upd a u o x.1 y) fun z=>some (z,x.2)
   | false=>Q1 (upd b u (o - a.size) x.2 y) fun z=>some (x.1,z)
 | t,u,o,_,y=>match Nat.beq o 0 with
  | true=>Q1p u t y
  | false=>none
def cut {α:Type} (xs:List α) (off:Nat):Option Nat→List α
 | none=>xs.drop off
 | some n=>(xs.drop off).take n
def Q0y (L:LS) (v:PV) (t:Ty):Option (List t.T) :=
 match v with
 | .nil=>some []
 | .ro _ u x=>Q1p (.sl u) (.sl t) x
 | .osl b off n=>match Qi L b with
  | some ⟨_,_,.arr u xs⟩=>Q1p (.sl u) (.sl t) (cut xs off n)
  | some ⟨_,true,.rows u xs none⟩=>Q1p (.sl (.sl u)) (.sl t) (cut xs off n)
  | _=>none
 | .rw b _ ver u x=>match Qi L b with
  | some ⟨v,true,.rows _ _ _⟩=>match Nat.beq v ver with
   | true=>Q1p (.sl u) (.sl t) x
   | false=>none
  | _=>none
 | _=>none
def freezeB (L:LS) (b:Nat):LS :=
 match Qi L b with
 | some ⟨v,true,.arr t xs⟩=>Q2h L b ⟨v+1,false,.arr t xs⟩
 | some ⟨v,true,.rows t xs none⟩=>Q2h L b ⟨v+1,false,.arr (.sl t) xs⟩
 | _=>L
def freeze (L:LS):PV→LS
 | .osl b _ _=>freezeB L b
 | _=>L
def Qtd:PV→Bool
 | .rw _ _ _ _ _=>false
 | _=>true
def refl (fz:Bool):(t:Ty)→List PV→LS→Option (t.T×LS)
 | .int k,cs,L=>match cs with
  | [.int k' n]=>if k'=k then some (n,L) else none
  | _=>none
 | .bool,cs,L=>match cs with
  | [.bool b]=>some (b,L)
  | _=>none
 | .str,cs,L=>match cs with
  | [.str s]=>some (s,L)
  | _=>none
 | .sl t,cs,L=>match cs with
  | [v]=>Q1 (Q0y L v t) fun x=>match !fz || Qtd v with
   | true=>some (x,match fz with | true=>freeze L v | false=>L)
   | false=>none
  | _=>none
 | .os _,_,_=>none
 | .pair a b,cs,L=>Q1 (refl fz a (cs.take a.size) L) fun r=>Q1 (refl fz b (cs.drop a.size) r.2) fun q=>some ((r.1,q.1),q.2)
def Q7d (u:Ty) (v:PV) (L:LS):Option (List u.T×LS) :=
 match v with
 | .nil=>some ([],L)
 | .osl b off no=>match Qi L b with
  | some ⟨_,true,.arr w xs⟩=>match w.isOs with
   | true=>none
   | false=>Q1 (Q1p (.sl w) (.sl u) (cut xs off no)) fun x=>some (x,Q53 L b)
  | some ⟨_,true,.rows w xs none⟩=>match off,no with
   | 0,none=>Q1 (Q1p (.sl (.os w)) (.sl u) xs) fun x=>some (x,Q53 L b)
   | _,_=>none
  | _=>none
 | .rw b i ver w x=>match Qi L b with
  | some ⟨v,true,.rows t xs none⟩=>match Nat.beq v ver with
   | true=>Q1 (Q1p (.sl w) (.sl u) x) fun x=>some (x,Q2h L b ⟨v+1,true,.rows t xs (some i)⟩)
   | false=>none
  | _=>none
 | _=>none
def Qk8:(t:Ty)→List PV→LS→Option (t.T×LS)
 | .os u,cs,L=>match cs with
  | [v]=>Q7d u v L
  | _=>none
 | .pair a b,cs,L=>Q1 (Qk8 a (cs.take a.size) L) fun r=>Q1 (Qk8 b (cs.drop a.size) r.2) fun q=>some ((r.1,q.1),q.2)
 | .int k,cs,L=>refl true (.int k) cs L
 | .bool,cs,L=>refl true .bool cs L
 | .str,cs,L=>refl true .str cs L
 | .sl t,cs,L=>refl true (.sl t) cs L
def Q5b:(t:Ty)→t.T→LS→List PV×LS
 | .os u,x,L=>([.osl L.bl.length 0 none],Qv L (Q9w u x))
 | .pair a b,x,L=>((Q5b a x.1 L).1++(Q5b b x.2 (Q5b a x.1 L).2).1,(Q5b b x.2 (Q5b a x.1 L).2).2)
 | .int k,x,L=>(Q1y L.clk (.int k) x,L)
 | .bool,x,L=>(Q1y L.clk .bool x,L)
 | .str,x,L=>(Q1y L.clk .str x,L)
 | .sl t,x,L=>(Q1y L.clk (.sl t) x,L)
def Qc2:Ty→PV→Bool
 | .pair _ _,.agg _=>true
 | .pair _ _,_=>false
 | _,.agg _=>false
 | _,_=>true
def Q4j (o:Bool) (t:Ty) (v:PV) (L:LS):Option (TV×LS) :=
 match o with
 | false=>match okV v&&Qc2 t v with
  | true=>Q1 (Qk8 t (Q2c v) L) fun x=>some (⟨t,x.1⟩,x.2)
  | false=>none
 | true=>match t with
  | .sl u=>Q1 (Q7d u v L) fun x=>some (⟨.sl u,x.1⟩,x.2)
  | _=>none
def Qnc (o:Bool) (v:TV) (L:LS):PV×LS :=
 match o,v with
 | true,⟨.sl u,x⟩=>(.osl L.bl.length 0 none,Qv L (Q9w u x))
 | _,⟨t,x⟩=>(Q4i t (Q5b t x L).1,(Q5b t x L).2)
def Qnd (t:Ty) (b:Nat) (L:LS):Option (TV×LS) :=
 match Qi L b with
 | some ⟨_,true,.cells cs⟩=>Q1 (Qk8 t cs L) fun x=>some (⟨t,x.1⟩,x.2)
 | _=>none
def Qne (t:Ty) (b:Nat) (L:LS):Option TV :=
 match Qi L b with
 | some ⟨_,true,.arr u xs⟩=>match u.isOs with
  | true=>none
  | false=>Q1 (Q1p (.sl u) (.sl t) xs) fun x=>some ⟨.sl t,x⟩
 | _=>none
def Quu:Ty:=.os (.sl (.pair (.int .i64) (.int .i64)))
def Qte (t:Ty) (b:Nat) (L:LS):Option TV :=
 match Qi L b with
 | some ⟨_,true,.mp es⟩=>Q1 (Q1p (.sl Quu) (.sl t) [[es]]) fun x=>some ⟨.sl t,x⟩
 | some ⟨_,true,.rows u xs none⟩=>Q1 (Q1p (.sl (.os u)) (.sl t) xs) fun x=>some ⟨.sl t,x⟩
 | _=>Qne t b L
def inCb (b:Nat) (v:TV) (L:LS):Option LS :=
 match Qi L b with
 | some ⟨n,true,.cells cs⟩=>match Nat.beq cs.length v.1.size with
  | true=>some (Q2h L b ⟨n+1,true,.cells (Q1y L.clk v.1 v.2)⟩)
  | false=>none
 | _=>none
def Qtf (b:Nat) (v:TV) (L:LS):Option LS :=
 match v.1.hasOs with
 | false=>some L
 | true=>match Qi L b with
  | some ⟨n,true,.cells _⟩=>some (Q2h (Q5b v.1 v.2 L).2 b ⟨n+1,true,.cells (Q5b v.1 v.2 L).1⟩)
  | _=>none
def inAb (b:Nat) (v:TV) (L:LS):Option LS :=
 match Qi L b,v with
 | some ⟨n,true,.arr u xs⟩,⟨.sl t,x⟩=>match Ty.beq u t with
  | true=>some (Q2h L b ⟨n+1,true,.arr t x⟩)
  | false=>none
 | _,_=>none
def unMp:List (List (List (Int×Int)))→List (Int×Int)
 | [[es]]=>es
 | _=>[]
def inAr (b:Nat) (v:TV) (L:LS):Option LS :=
 match v with
 | ⟨.sl (.os (.sl (.pair (.int .i64) (.int .i64)))),x⟩=>match Qi L b with
  | some ⟨n,true,.mp _⟩=>some (Q2h L b ⟨n+1,true,.mp (unMp x)⟩)
  | _=>none
 | v=>match Qi L b,v with
  | some ⟨n,true,.rows u xs none⟩,⟨.sl (.os t),x⟩=>match Ty.beq u t with
   | true=>some (Q2h L b ⟨n+1,true,.rows t x none⟩)
   | false=>none
  | _,v=>inAb b v L
inductive PM where
 | ro
 | mv
 | io
 | ps
 | cl (g:FuncId)
structure Sig where
 params:List (PM×Ty)
 results:List (Bool×Ty)
def Qc3:List (PM×Ty)→List Ty
 | []=>[]
 | (.io,t)::r=>t::Qc3 r
 | (.ps,t)::r=>t::Qc3 r
 | _::r=>Qc3 r
def Sig.ptys (s:Sig):List Ty:=s.params.map (·.2)
def Sig.rtys (s:Sig):List Ty:=s.results.map (·.2)++Qc3 s.params
def Sig.al (s:Sig):Bool :=
 (s.results.any fun r=>match r with | (true,.sl t) => !(t.flat || t.rowT) | (_,t) => !t.nosl) ||
 (s.params.any fun p=>match p with | (.ps,t) => !t.nosl | (.io,.sl t) => !t.flat | (.mv,.sl t) => !(t.flat || t.rowT) | _=>false)
structure LoopA where
 slots:List (Nat×Bool×Ty)
 cbs:List (Nat×Ty)
 abs:List (Nat×Ty)
 fzs:List Nat
def LoopA.tys (a:LoopA):List Ty:=(a.slots.map fun s=>s.2.2)++((a.cbs.map fun s=>s.2)++(a.abs.map fun s=>Ty.sl s.2))
structure AnnV where
 fuel:Nat
 sig:FuncId→Sig
 loops:FuncId→Nat→LoopA
 eloops:FuncId→Nat→List (Nat×Value)
 inline:FuncId→Bool
 own:FuncId→Bool
 ext:FuncId→Option (List Value→Nat→Go.Ev.Heap→Option (Value×Go.Ev.Heap))
 vext:(f:FuncId)→Option (Qc1 (sig f).ptys→Option (Qc1 (sig f).rtys))
structure CxV (A:AnnV) (β:Type) where
 P:Program
 call:(f:FuncId)→Qc1 (A.sig f).ptys→Option (Qc1 (A.sig f).rtys)
 inl:FuncId→List PV→LS→(PV→LS→Option β)→Option β
 nt:Nat
 own:Bool
 ann:Nat→LoopA
 eann:Nat→List (Nat×Value)
def Qzg:Value→Option PV
 | .bool b=>some (.bool b)
 | .int k n=>some (.int k n)
 | .string s=>some (.str s)
 | .pointer none=>some .nilp
 | .slice none 0 0=>some .nil
 | _=>none
def Qns:List Value→Option (List PV)
 | []=>some []
 | v::r=>Q1 (Qzg v) fun x=>Q1 (Qns r) fun l=>some (x::l)
def ofC:Value→Option PV
 | .agg cs=>Q1 (Qns cs.toList) fun l=>some (.agg l)
 | v=>Qzg v
def pev (env:Q0n):Operand→Option PV
 | .tmp t=>Q3c env t
 | .const v=>ofC v
 | .func f=>some (.fn f [] [])
 | .global _=>none
def Quv (env:Q0n):List Operand→Option (List PV)
 | []=>some []
 | x::r=>Q1 (pev env x) fun v=>Q1 (Quv env r) fun l=>some (v::l)
def Q6k (env:Q0n):List (Nat×Operand)→Option (List (Nat×PV))
 | []=>some []
 | (i,x)::r=>Q1 (pev env x) fun v=>Q1 (Q6k env r) fun l=>some ((i,v)::l)
def sc1:PV→Option Value
 | .int k n=>some (.int k n)
 | .bool b=>some (.bool b)
 | .str s=>some (.string s)
 | _=>none
def scs:List PV→Option (List Value)
 | []=>some []
 | v::r=>Q1 (sc1 v) fun x=>Q1 (scs r) fun l=>some (x::l)
def sc:PV→Option Value
 | .agg cs=>Q1 (scs cs) fun l=>some (.agg l.toArray)
 | v=>sc1 v
def ofS:Value→PV
 | .int k n=>.int k n
 | .bool b=>.bool b
 | .string s=>.str s
 | _=>.undef
def Qii:Nat→Ty→Ty
 | 0,u=>u
 | 1,u=>u
 | n+2,u=>.pair u (Qii (n+1) u)
def Qk9 (g:TypeId→Option Ty):List Field→Option Ty
 | []=>none
 | [f]=>g f.type
 | f::h::r=>Q1 (g f.type) fun a=>Q1 (Qk9 g (h::r)) fun b=>some (.pair a b)
def tyG (P:Program):Nat→TypeId→Option Ty
 | 0,_=>none
 | n+1,t=>match P.underlying t with
  | some .bool=>some .bool
  | some (.int k)=>some (.int k)
  | some .string=>some .str
  | some (.slice e)=>Q1 (tyG P n e) fun u=>some (.sl u)
  | some (.struct fs)=>match fs.toList with
   | f::h::r=>Qk9 (tyG P n) (f::h::r)
   | _=>none
  | some (.array k e)=>Q1 (tyG P n e) fun u=>match Nat.ble 2 k&&u.flat with
   | true=>some (Qii k u)
   | false=>none
  | _=>none
def Qxo:Value→PV→Bool
 | .int k _,.int k' _=>decide (k'=k)
 | .int _ _,_=>false
 | .bool _,.bool _=>true
 | .bool _,_=>false
 | .string _,.str _=>true
 | .string _,_=>false
 | .slice _ _ _,.nil=>true
 | .slice _ _ _,.ro _ _ _=>true
 | .slice _ _ _,.osl _ _ _=>true
 | .slice _ _ _,.rw _ _ _ _ _=>true
 | .slice _ _ _,_=>false
 | .pointer none,.nilp=>true
 | .pointer _,.ptr _ _=>true
 | .pointer _,.ep _ _ _=>true
 | .pointer _,.rp _ _ _=>true
 | .pointer _,.rq _ _ _ _=>true
 | .pointer _,.dp _ _ _ _ _=>true
 | .pointer _,_=>false
 | .nilFunc,.fn _ _ _=>true
 | .nilFunc,_=>false
 | .map none,.mp _=>true
 | _,_=>false
def Qnf:List Value→List PV→Bool
 | [],[]=>true
 | t::ts,v::vs=>Qxo t v&&Qnf ts vs
 | _,_=>false
def Qfw:Value→PV→Bool
 | .agg zs,.agg cs=>Qnf zs.toList cs
 | .agg _,_=>false
 | t,v=>Qxo t v
def Qng:List Value→List PV→Bool
 | [],[]=>true
 | t::ts,v::vs=>Qfw t v&&Qng ts vs
 | _,_=>false
def fitT:Value→PV→Bool
 | .tuple zs,.tup cs=>Qng zs.toList cs
 | .tuple _,_=>false
 | t,v=>Qfw t v
def Qij (l:List PV) (off:Nat) (vs:List PV):List PV:=l.take off++vs++l.drop (off+vs.length)
def Qnh (place:Nat→Option (Nat×Nat)) (cells:List PV):List (Nat×PV)→Option (List PV)
 | []=>some cells
 | (i,v)::r=>match place i with
  | none=>none
  | some (off,size)=>match okV v,Nat.beq (Q2c v).length size,Nat.ble (off+(Q2c v).length) cells.length with
   | true,true,true=>Qnh place (Qij cells off (Q2c v)) r
   | _,_,_=>none
section ops
variable {A:AnnV} {β:Type}
def Qwt (v:PV) (K:Nat→Option β):Option β:=match v with | .int .i64 n=>oif (decide (0≤n)) (K n.toNat) none | _=>none
def pIx (v:PV) (K:Nat→Option β):Option β:=match v with | .int _ n=>oif (decide (0≤n)) (K n.toNat) none | _=>none
def Q2d (env:Q0n) (x:Option Operand) (K:Option Nat→Option β):Option β :=
 match x with
 | none=>K none
 | some y=>Q1 (pev env y) fun v=>Qwt v fun n=>K (some n)
def Qlt (off k:Nat):Nat:=match off with | 0=>k | o+1=>o+1+k
def mapP (v:PV) (K:Nat→Option β):Option β:=match v with | .mp b=>K b | _=>none
def Qzh (v:PV) (K:Int→Option β):Option β:=match v with | .int .i64 n=>K n | _=>none
def lmap (L:LS) (b:Nat):Option (Nat×List (Int×Int)):=match Qi L b with | some ⟨ver,true,.mp es⟩=>some (ver,es) | _=>none
def Qzi (ok:Bool) (x:Option Int):PV:=match ok with
 | true=>.tup [.int .i64 (x.getD 0),.bool x.isSome]
 | false=>.int .i64 (x.getD 0)
def Qak (L:LS) (v:PV):Option Nat :=
 match v with
 | .nil=>some 0
 | .ro _ _ x=>some x.length
 | .osl _ _ (some n)=>some n
 | .osl b off none=>match Qi L b with
  | some ⟨_,_,.arr _ xs⟩=>some (xs.length - off)
  | some ⟨_,_,.rows _ xs _⟩=>match off with
   | 0=>some xs.length
   | _=>none
  | _=>none
 | .rw _ _ _ _ x=>some x.length
 | _=>none
def Qzj (P:Program) (t:TypeId) (cs:List PV) (off:Nat):Option PV :=
 Q1 (P.info? t) fun i=>match P.underlying t with
  | some (.struct _)=>match Nat.ble (off+i.size) cs.length with
   | true=>some (.agg ((cs.drop off).take i.size))
   | false=>none
  | some (.array _ _)=>match Nat.ble (off+i.size) cs.length with
   | true=>some (.agg ((cs.drop off).take i.size))
   | false=>none
  | some _=>cs[off]?
  | none=>none
def Qka (u:Ty):Nat→List PV→LS→Option (List u.T)
 | 0,_,_=>some []
 | n+1,cs,L=>Q1 (refl false u (cs.take u.size) L) fun x=>Q1 (Qka u n (cs.drop u.size) L) fun r=>some (x.1::r)
def Qtg:(n:Nat)→(u:Ty)→List u.T→Option (Qii n u).T
 | 0,_,_=>none
 | 1,_,l=>match l with
  | [x]=>some x
  | _=>none
 | n+2,u,l=>match l with
  | x::r=>Q1 (Qtg (n+1) u r) fun y=>some (x,y)
  | []=>none
def setV (n:Nat) (u:Ty) (xs:List u.T) (k:Nat) (y:u.T):Option (Qii n u).T:=match Nat.blt k xs.length with
 | true=>Qtg n u (xs.set k y)
 | false=>none
noncomputable def both (x y:Option β):Option β:=@ite _ (x=y) (Classical.propDecidable _) x none
noncomputable def Quw (n:Nat) (a b:Option β):Option β:=match n with
 | 0=>both a b
 | _+1=>b
def Qqp (P:Program) (op:BinOp) (t:TypeId) (L:LS) (v u:PV):Option (Option Nat×Bool) :=
 match u,P.underlying t,op with
 | .nil,some (.slice _),.eql=>match v with
  | .nil=>some (none,false)
  | v=>Q1 (Qak L v) fun n=>some (some n,false)
 | .nil,some (.slice _),.neq=>match v with
  | .nil=>some (none,true)
  | v=>Q1 (Qak L v) fun n=>some (some n,true)
 | _,_,_=>none
def psl (L:LS) (v:PV) (lo hi:Option Nat) (K:PV→Option β):Option β :=
 match v with
 | .nil=>match lo,hi with
  | none,none=>K .nil
  | some l,none=>oif (Nat.ble l 0) (K .nil) none
  | none,some h=>oif (Nat.ble h 0) (K .nil) none
  | some l,some h=>oif (Nat.ble l h&&Nat.ble h 0) (K .nil) none
 | .ro st t x=>match lo,hi with
  | none,none=>K (.ro st t x)
  | some l,none=>oif (Nat.ble l x.length) (K (.ro st t (x.drop l))) none
  | none,some h=>oif (Nat.ble h x.length) (K (.ro st t (x.take h))) none
  | some l,some h=>oif (Nat.ble l h&&Nat.ble h x.length) (K (.ro st t ((x.take h).drop l))) none
 | .rw b i ver t x=>match lo,hi with
  | none,none=>K (.rw b i ver t x)
  | some l,none=>oif (Nat.ble l x.length) (K (.rw b i ver t (x.drop l))) none
  | none,some h=>oif (Nat.ble h x.length) (K (.rw b i ver t (x.take h))) none
  | some l,some h=>oif (Nat.ble l h&&Nat.ble h x.length) (K (.rw b i ver t ((x.take h).drop l))) none
 | .osl b off n=>match Qi L b with
  | some ⟨_,_,.arr _ _⟩=>Q1 (Qak L (.osl b off n)) fun m=>match lo,hi with
   | none,none=>K (.osl b off n)
   | some l,none=>oif (Nat.ble l m) (K (match n with | none=>.osl b (off+l) none | some k=>.osl b (off+l) (some (k - l)))) none
   | none,some h=>oif (Nat.ble h m) (K (.osl b off (some h))) none
   | some l,some h=>oif (Nat.ble l h&&Nat.ble h m) (K (.osl b (off+l) (some (h - l)))) none
  | _=>none
 | _=>none
def Qc4 (u:Ty) (bytes:Nat) (s:PV) (ys:List u.T) (L:LS) (K:PV→LS→Option β):Option β :=
 match s with
 | .nil=>oif (Nat.ble (ys.length*bytes) Q7) (K (.osl L.bl.length 0 none) (Qv L (.arr u ys))) none
 | .osl b off no=>match Qi L b with
  | some ⟨_,true,.arr w xs⟩=>Q1 (Q1p (.sl w) (.sl u) (cut xs off no)) fun x =>
   oif (Nat.ble ((x.length+ys.length)*bytes) Q7) (K (.osl L.bl.length 0 none) (Qv (Q53 L b) (.arr u (x++ys)))) none
  | _=>none
 | .rw b i ver w x=>match Qi L b with
  | some ⟨v,true,.rows t xs none⟩=>match Nat.beq v ver with
   | true=>Q1 (Q1p (.sl w) (.sl u) x) fun x =>
    oif (Nat.ble ((x.length+ys.length)*bytes) Q7) (K (.osl L.bl.length 0 none) (Qv (Q2h L b ⟨v+1,true,.rows t xs (some i)⟩) (.arr u (x++ys)))) none
   | false=>none
  | _=>none
 | _=>none
def Qik (L:LS) (t:Ty):PV→Option (List (List t.T)×LS)
 | .osl b 0 none=>match Qi L b with
  | some ⟨_,true,.rows u xs none⟩=>Q1 (Q1p (.sl (.os u)) (.sl (.os t)) xs) fun x=>some (x,Q53 L b)
  | _=>none
 | _=>none
def Qdo (L:LS):PV→Bool
 | .osl b _ _=>match Qi L b with
  | some ⟨_,_,.rows _ _ _⟩=>true
  | _=>false
 | _=>false
def Qfo (t:Ty) (bytes:Nat) (s:PV) (ys:List (List t.T)) (L:LS) (K:PV→LS→Option β):Option β :=
 match s with
 | .nil=>oif (Nat.ble (ys.length*bytes) Q7) (K (.osl L.bl.length 0 none) (Qv L (.rows t ys none))) none
 | s=>Q1 (Qik L t s) fun x=>oif (Nat.ble ((x.1.length+ys.length)*bytes) Q7) (K (.osl x.2.bl.length 0 none) (Qv x.2 (.rows t (x.1++ys) none))) none
def Qc5 (s:ByteArray):List Int:=s.data.toList.map fun b=>(b.toNat:Int)
def strL (l:List Int):ByteArray:=⟨(l.map fun n=>UInt8.ofNat n.toNat).toArray⟩
def cpy {α:Type} (xs:List α) (off n:Nat) (ys:List α):List α:=xs.take off++ys.take n++xs.drop (off+min ys.length n)
def Q8g:(t:Ty)→t.T
 | .int _=>(0:Int)
 | .bool=>false
 | .str=>⟨#[]⟩
 | .sl _=>[]
 | .os _=>[]
 | .pair a b=>(Q8g a,Q8g b)
def goZ:Ty→List PV→Bool
 | .int k,l=>match l with
  | [.int k' n]=>decide (k'=k)&&(n==0)
  | _=>false
 | .bool,l=>match l with
  | [.bool b] => !b
  | _=>false
 | .str,l=>match l with
  | [.str s]=>s.data.toList.isEmpty
  | _=>false
 | .sl _,l=>match l with
  | [.nil]=>true
  | _=>false
 | .os _,_=>false
 | .pair a b,l=>goZ a (l.take a.size)&&goZ b (l.drop a.size)
def Qc6 (z:Value) (t:Ty):Bool:=match Qns z.cells.toList with
 | some l=>goZ t l
 | none=>false
def Qqq {α:Type} (xs:List α) (i:Nat) (x:α):Option (List α):=match Nat.blt i xs.length with | true=>some (xs.set i x) | false=>none
def Q9x (u:Ty) (xs:List u.T):List (Nat×PV)→LS→Option (List u.T×LS)
 | [],L=>some (xs,L)
 | (i,v)::r,L=>match okV v with
  | true=>Q1 (refl true u (Q2c v) L) fun x=>Q1 (Qqq xs i x.1) fun ys=>Q9x u ys r x.2
  | false=>none
def Qfp (L:LS) (src:PV) (w:Ty):Option (List w.T) :=
 match src with
 | .str q=>match w with
  | .int .u8=>some (Qc5 q)
  | _=>none
 | v=>match Qdo L v with
  | true=>none
  | false=>Q0y L v w
def Qfq (P:Program) (b:Builtin) (ts:List TypeId) (vs:List PV) (L:LS) (K:PV→LS→Option β):Option β :=
 match b,ts,vs with
 | .len,[t],[.str s]=>match P.underlying t with
  | some .string=>K (.int .i64 s.size) L
  | _=>none
 | .len,[t],[v]=>match P.underlying t with
  | some (.slice _)=>Q1 (Qak L v) fun n=>K (.int .i64 n) L
  | _=>none
 | .cap,[t],[.nil]=>match P.underlying t with
  | some (.slice _)=>K (.int .i64 0) L
  | _=>none
 | .min,_,[.int k x,.int k' y]=>if k=k' then K (.int k (if y < x then y else x)) L else none
 | .max,_,[.int k x,.int k' y]=>if k=k' then K (.int k (if y > x then y else x)) L else none
 | .append,[t,u],[s,x]=>Q1 (Q1v P t) fun (e,size,bytes,z)=>Q1 (tyG P 8 e) fun w=>match Nat.beq w.size size with
  | true=>match P.underlying u,x with
   | some .string,.str q=>match w with
    | .int .u8=>Qc4 (.int .u8) bytes s (Qc5 q) L K
    | _=>none
   | some (.slice _),x=>match Qdo L x,w with
    | true,.sl t=>Q1 (Qik L t x) fun y=>Qfo t bytes s y.1 y.2 K
    | _,_=>Q1 (Q0y L x w) fun ys=>Qc4 w bytes s ys L K
   | some (.int _),.int _ l=>match Qc6 z w with
    | true=>oif (decide (0≤l)&&decide (l*bytes≤Q7)) (Qc4 w bytes s (List.replicate l.toNat (Q8g w)) L K) none
    | false=>none
   | _,_=>none
  | false=>none
 | .copy,[t,_],[.osl b off no,src]=>Q1 (Q1v P t) fun (e,size,_,_)=>Q1 (tyG P 8 e) fun w=>match Nat.beq w.size size with
  | true=>Q1 (Qfp L src w) fun ys=>Q1 (Qak L (.osl b off no)) fun m=>match Qi L b with
   | some ⟨ver,true,.arr u xs⟩=>Q1 (Q1p (.sl u) (.sl w) xs) fun x=>K (.int .i64 ((min ys.length m:Nat):Int)) (Q2h L b ⟨ver+1,true,.arr w (cpy x off m ys)⟩)
   | _=>none
  | false=>none
 | _,_,_=>none
def Q47:List (PM×Ty)→List PV→List Nat→LS→Option (List (Option TV)×List Nat×LS)
 | [],[],lent,L=>some ([],lent,L)
 | (m,t)::ps,v::vs,lent,L=>match m with
  | .ro=>Q1 (Q47 ps vs lent L) fun r=>some (none::r.1,r.2.1,r.2.2)
  | .mv=>match v with
   | .osl b _ _=>match lent.contains b with
    | true=>none
    | false=>Q1 (Q4j true t v L) fun x=>Q1 (Q47 ps vs lent x.2) fun r=>some (some x.1::r.1,r.2.1,r.2.2)
   | .rw b _ _ _ _=>match lent.contains b with
    | true=>none
    | false=>Q1 (Q4j true t v L) fun x=>Q1 (Q47 ps vs lent x.2) fun r=>some (some x.1::r.1,r.2.1,r.2.2)
   | v=>Q1 (Q4j true t v L) fun x=>Q1 (Q47 ps vs lent x.2) fun r=>some (some x.1::r.1,r.2.1,r.2.2)
  | .io=>match t,v with
   | .sl u,.osl b 0 none=>match lent.contains b with
    | true=>none
    | false=>Q1 (Qne u b L) fun x=>Q1 (Q47 ps vs (b::lent) L) fun r=>some (some x::r.1,r.2.1,r.2.2)
   | _,_=>none
  | .ps=>match v with
   | .ptr b 0=>match lent.contains b with
    | true=>none
    | false=>Q1 (Qnd t b L) fun x=>Q1 (Q47 ps vs (b::lent) x.2) fun r=>some (some x.1::r.1,r.2.1,r.2.2)
   | _=>none
  | .cl g=>match v with
   | .fn f [] []=>match Nat.beq f g with
    | true=>Q1 (Q47 ps vs lent L) fun r=>some (some ⟨.bool,false⟩::r.1,r.2.1,r.2.2)
    | false=>none
   | _=>none
 | _,_,_,_=>none
def Qwu (lent:List Nat) (cs:List PV):Bool:=cs.all fun v=>match v with | .osl b _ _ => !lent.contains b | .rw b _ _ _ _ => !lent.contains b | _=>true
def Qc7 (al:Bool) (lent:List Nat):List (PM×Ty)→List PV→List (Option TV)→LS→Option (List TV×LS)
 | [],[],[],L=>some ([],L)
 | (_,t)::ps,v::vs,o::os,L=>match o with
  | some x=>Q1 (Qc7 al lent ps vs os L) fun r=>some (x::r.1,r.2)
  | none=>match Qwu lent (Q2c v)&&(okV v&&Qc2 t v) with
   | true=>Q1 (refl al t (Q2c v) L) fun x=>Q1 (Qc7 al lent ps vs os x.2) fun r=>some (⟨t,x.1⟩::r.1,r.2)
   | false=>none
 | _,_,_,_=>none
def Qkb:List (Bool×Ty)→List TV→LS→Option (List PV×LS)
 | [],[],L=>some ([],L)
 | (o,_)::rs,v::vs,L=>match Qnc o v L with
  | (pv,L')=>Q1 (Qkb rs vs L') fun r=>some (pv::r.1,r.2)
 | _,_,_=>none
def Q0j:List (PM×Ty)→List PV→List TV→LS→Option LS
 | [],[],[],L=>some L
 | (m,_)::ps,p::as,vs,L=>match m with
  | .io=>match p,vs with
   | .osl b 0 none,v::vs=>Q1 (inAb b v L) fun L'=>Q0j ps as vs L'
   | _,_=>none
  | .ps=>match p,vs with
   | .ptr b _,v::vs=>Q1 (inCb b v L) fun L'=>Q0j ps as vs L'
   | _,_=>none
  | .ro=>Q0j ps as vs L
  | .mv=>Q0j ps as vs L
  | .cl _=>Q0j ps as vs L
 | _,_,_,_=>none
def Qkc:List (Nat×TV)→LS→Option LS
 | [],L=>some L
 | (b,v)::r,L=>Q1 (Qtf b v L) fun L'=>Qkc r L'
def Q6x:List (PM×Ty)→List PV→List TV→List (Nat×TV)
 | (m,_)::ps,p::as,vs=>match m with
  | .io=>match vs with
   | _::vs=>Q6x ps as vs
   | []=>[]
  | .ps=>match p,vs with
   | .ptr b _,v::vs=>(b,v)::Q6x ps as vs
   | _,_=>[]
  | .ro=>Q6x ps as vs
  | .mv=>Q6x ps as vs
  | .cl _=>Q6x ps as vs
 | _,_,_=>[]
def Q8h:List (PM×Ty)→List TV→Nat→List (Nat×TV)
 | (m,_)::ps,v::vs,i=>match m with
  | .ro=>Q8h ps vs i
  | .cl _=>Q8h ps vs i
  | .mv=>Q8h ps vs (i+1)
  | .io=>Q8h ps vs (i+1)
  | .ps=>(i,v)::Q8h ps vs (i+1)
 | _,_,_=>[]
def Qkd (vs:List PV):PV:=match vs with | [v]=>v | vs=>.tup vs
def Qwv (b i ver:Nat) (w:Ty) (x:List w.T) (L:LS) (K:LS→Nat→Option β):Option β :=
 match Qi L b with
 | some ⟨_,true,.rows _ xs none⟩=>Q1 xs[i]? fun y=>oif (Nat.beq y.length x.length) (Q1 (Q7d w (.rw b i ver w x) L) fun r=>K (Qv r.2 (.arr w r.1)) r.2.bl.length) none
 | _=>none
def Qlu (b i ver:Nat) (w:Ty) (n:Nat) (L:LS) (K:LS→Option β):Option β :=
 Q1 (Q7d w (.osl n 0 none) L) fun r=>match Qi r.2 b with
 | some ⟨v,true,.rows e xs _⟩=>match Nat.beq v ver with
  | true=>Q1 (Q1p (.sl w) (.sl e) r.1) fun z=>K (Q2h r.2 b ⟨v+1,true,.rows e (xs.set i z) none⟩)
  | false=>none
 | _=>none
def Qc8 (X:CxV A β) (f:FuncId) (args:List PV) (L:LS) (K:PV→LS→Option β):Option β :=
 Q1 (Q47 (A.sig f).params args [] L) fun m=>Q1 (Qc7 (A.sig f).al m.2.1 (A.sig f).params args m.1 m.2.2) fun r =>
  Q1 (mkT (A.sig f).ptys r.1) fun a=>Q1 (X.call f a) fun y =>
  Q1 (Q0j (A.sig f).params args ((unT (A.sig f).rtys y).drop (A.sig f).results.length) r.2) fun L0 =>
  Q1 (Qkc (Q6x (A.sig f).params args ((unT (A.sig f).rtys y).drop (A.sig f).results.length)) L0) fun L' =>
  Q1 (Qkb (A.sig f).results ((unT (A.sig f).rtys y).take (A.sig f).results.length) L') fun q=>K (Qkd q.1) q.2
def Qth:List (PM×Ty)→Bool
 | (.io,_)::_=>true
 | _=>false
def Qqr (X:CxV A β) (f:FuncId) (args:List PV) (L:LS) (K:PV→LS→Option β):Option β :=
 match args with
 | .rw b i ver w x::rest=>match Qth (A.sig f).params with
  | true=>match w.flat with
   | true=>Qwv b i ver w x L fun L2 n=>Qc8 X f (.osl n 0 none::rest) L2 fun u L3=>Qlu b i (ver+1) w n L3 fun L4=>K u L4
   | false=>none
  | false=>Qc8 X f (.rw b i ver w x::rest) L K
 | args=>Qc8 X f args L K
def Qzk (X:CxV A β) (f:FuncId) (args:List PV) (L:LS) (K:PV→LS→Option β):Option β :=
 match A.inline f with
 | true=>X.inl f args L K
 | false=>Qqr X f args L K
def Qqs (L:LS) (b:Nat):Option (Nat×(e:Ty)×List (List e.T)×Option Nat):=match Qi L b with
 | some ⟨ver,true,.rows e xs h⟩=>some (ver,⟨e,xs,h⟩)
 | _=>none
def Qux (h:Option Nat) (j:Nat) (x:Option β):Option β:=match h with
 | none=>x
 | some i=>oif (Nat.beq i j) x none
def Qil (t:Ty) (xs:List (List t.T)):List (Nat×PV)→LS→Option (List (List t.T)×LS)
 | [],L=>some (xs,L)
 | (i,v)::r,L=>Q1 (Q7d t v L) fun x=>Q1 (Qqq xs i x.1) fun ys=>Qil t ys r x.2
def Qqt (P:Program) (t:TypeId):Option (Nat×Ty):=match P.underlying t with
 | some (.array n e)=>match tyG P 8 e with
  | some (.sl u)=>match u.flat with
   | true=>some (n,u)
   | false=>none
  | _=>none
 | _=>none
def Qni:Nat→List Value→Bool
 | 0,[]=>true
 | n+1,.slice none 0 0::r=>Qni n r
 | _,_=>false
def Qdp:Nat→List PV→Bool
 | 0,[]=>true
 | n+1,.nil::r=>Qdp n r
 | _,_=>false
def Qww (b ver:Nat) (u:Ty) (xs:List (List u.T)):Nat→Nat→Option (List PV)
 | _,0=>some []
 | i,n+1=>Q1 xs[i]? fun x=>Q1 (Qww b ver u xs (i+1) n) fun l=>some (.rw b i ver u x::l)
def aggK {β:Type} (b ver:Nat) (u:Ty) (xs:List (List u.T)):Nat→Nat→(List PV→Option β)→Option β
 | _,0,K=>K []
 | i,n+1,K=>Q1 xs[i]? fun x=>aggK b ver u xs (i+1) n fun l=>K (.rw b i ver u x::l)
def Qim (w:Ty) (b ver:Nat):Nat→List PV→Option (List (List w.T))
 | _,[]=>some []
 | i,.rw b' i' ver' t x::r=>match Nat.beq b' b&&(Nat.beq i' i&&Nat.beq ver' ver) with
  | true=>Q1 (Q1p (.sl t) (.sl w) x) fun y=>Q1 (Qim w b ver (i+1) r) fun l=>some (y::l)
  | false=>none
 | _,_=>none
def Qqu (w:Ty):List PV→Option (Nat×Nat×List (List w.T))
 | .rw b i ver t x::r=>Q1 (Qim w b ver 0 (.rw b i ver t x::r)) fun l=>some (b,ver,l)
 | _=>none
def Quy (P:Program) (t:TypeId) (x:Operand):Option PV:=match Qci P t x with
 | some v=>ofC v
 | none=>none
noncomputable def vop (X:CxV A β) (o:Oper) (env:Q0n) (L:LS) (K:PV→LS→Option β):Option β :=
 match o.op with
 | .move x=>Q1 (pev env x) fun v=>K v L
 | .assign x=>Q1 (pev env x) fun v=>K v L
 | .pick c a b=>Q1 (pev env c) fun v=>match v with
  | .bool t=>oif t (Q1 (pev env a) fun v=>K v L) (Q1 (pev env b) fun v=>K v L)
  | _=>none
 | .alloc t=>Q1 (Q6s X.P t) fun z=>match X.own,Qqt X.P t with
  | true,some (n,u)=>match Qni n z.cells.toList with
   | true=>K (.ptr L.bl.length 0) (Qv L (.rows u (List.replicate n []) none))
   | false=>none
  | _,_=>Q1 (Qns z.cells.toList) fun cs=>K (.ptr L.bl.length 0) (Qv L (.cells cs))
 | .box _ x=>Q1 (pev env x) fun v=>match okV v with
  | true=>K (.ptr L.bl.length 0) (Qv L (.cells (Q2c v)))
  | false=>none
 | .build t parts=>Q1 (Q6k env parts.toList) fun ps=>match X.P.info? t,X.P.underlying t with
  | some it,some (.struct fs)=>match it.zero,fs.toList.mapM (fun f=>(X.P.info? f.type).map fun i=>(f.offset,i.size)) with
   | some z,some places=>Q1 (Qns z.cells.toList) fun zs=>Q1 (Qnh (places.toArray[·]?) zs ps) fun cs=>K (.agg cs) L
   | _,_=>none
  | some it,some (.array _ e)=>match it.zero,X.P.info? e with
   | some z,some ie=>Q1 (Qns z.cells.toList) fun zs=>Q1 (Qnh (fun i=>some (i*ie.size,ie.size)) zs ps) fun cs=>K (.agg cs) L
   | _,_=>none
  | _,_=>none
 | .buildSlice t len parts=>Q1 (Q6k env parts.toList) fun ps=>Q1 (Q1v X.P t) fun (e,size,_,z)=>Q1 (tyG X.P 8 e) fun u =>
  match Nat.ble (len*size) 16777216,Qc6 z u,Nat.beq u.size size with
  | true,true,true=>match X.own,u with
   | true,.sl t=>match t.flat with
    | true=>Q1 (Qil t (List.replicate len []) ps L) fun x=>K (.osl x.2.bl.length 0 none) (Qv x.2 (.rows t x.1 none))
    | false=>none
   | _,_=>Q1 (Q9x u (List.replicate len (Q8g u)) ps L) fun x=>K (.osl x.2.bl.length 0 none) (Qv x.2 (.arr u x.1))
  | _,_,_=>none
 | .load t a=>match Quy X.P t a with
   | some v=>K v L
   | none=>Q1 (pev env a) fun v=>Q1 (X.P.info? t) fun i=>Q1 i.zero fun z=>match X.P.underlying t with
  | none=>none
  | some d=>match v with
   | .rp st u x=>Q1 (tyG X.P 8 t) fun w=>Q1 (Q1p u w x) fun y=>match Qfw z (Q4i w (Q1y st w y)),Nat.beq w.size i.size with
    | true,true=>K (Q4i w (Q1y st w y)) L
    | _,_=>none
   | .ep b j fo=>match Qi L b with
    | some ⟨_,_,.arr u xs⟩=>Q1 (tyG X.P 8 t) fun w=>Q1 xs[j]? fun x=>Q1 (sub u w fo x) fun y=>match Qfw z (Q4i w (Q1y L.clk w y)),Nat.beq w.size i.size with
     | true,true=>K (Q4i w (Q1y L.clk w y)) L
     | _,_=>none
    | some ⟨ver,true,.rows u xs none⟩=>Q1 (tyG X.P 8 t) fun w=>Q1 xs[j]? fun x=>match Qfw z (.rw b j ver u x),Nat.beq fo 0&&Ty.beq w (.sl u) with
     | true,true=>K (.rw b j ver u x) L
     | _,_=>none
    | _=>none
   | .rq b ver u x=>match Qi L b with
    | some ⟨v,true,.rows _ _ _⟩=>match Nat.beq v ver with
     | true=>Q1 (tyG X.P 8 t) fun w=>Q1 (Q1p u w x) fun y=>match Qfw z (Q4i w (Q1y L.clk w y)),Nat.beq w.size i.size&&w.flat with
      | true,true=>K (Q4i w (Q1y L.clk w y)) L
      | _,_=>none
     | false=>none
    | _=>none
   | .ptr b off=>match Qi L b with
    | some ⟨_,_,.cells cs⟩=>match d with
     | .struct _=>match Nat.ble (off+i.size) cs.length,Qfw z (.agg ((cs.drop off).take i.size)) with
      | true,true=>K (.agg ((cs.drop off).take i.size)) L
      | _,_=>none
     | .array _ _=>match Nat.ble (off+i.size) cs.length,Qfw z (.agg ((cs.drop off).take i.size)) with
      | true,true=>K (.agg ((cs.drop off).take i.size)) L
      | _,_=>none
     | _=>Q1 cs[off]? fun u=>match Qxo z u with
      | true=>K u L
      | false=>none
    | some ⟨ver,true,.rows u xs none⟩=>match d with
     | .array n _=>aggK b ver u xs 0 n fun l=>match Qfw z (.agg l),Nat.beq off 0&&Nat.beq i.size n with
      | true,true=>K (.agg l) L
      | _,_=>none
     | _=>none
    | _=>none
   | .dp b off n u k=>match Qi L b with
    | some ⟨_,_,.cells cs⟩=>Q1 (tyG X.P 8 t) fun w=>Q1 (Qka u n (cs.drop off) L) fun xs=>Q1 xs[k]? fun x=>Q1 (Q1p u w x) fun y=>match Qfw z (Q4i w (Q1y L.clk w y)),Nat.beq w.size i.size&&w.flat with
     | true,true=>K (Q4i w (Q1y L.clk w y)) L
     | _,_=>none
    | _=>none
   | _=>none
 | .store t a x=>Q1 (pev env a) fun v=>Q1 (pev env x) fun u=>Q1 (X.P.info? t) fun i=>match Nat.beq (Q2c u).length i.size&&okV u with
  | true=>match v with
   | .ep b j fo=>match Qqs L b with
    | some (ver,⟨e,xs,h⟩)=>match Nat.beq fo 0&&Nat.beq i.size 1 with
         | false=>none
         | true=>match u with
     | .rw b' i' ver' e' x=>match Nat.beq b' b&&Nat.beq ver' ver,h with
      | true,none=>Q1 (Q1p (.sl e') (.sl e) x) fun x=>oif (Nat.beq i' j) (Q1 xs[j]? fun _=>K .undef (Q2h L b ⟨ver+1,true,.rows e (xs.set j x) none⟩)) none
      | _,_=>none
     | u=>Q1 (Q7d e u L) fun y=>match Qi y.2 b with
      | some ⟨ver,true,.rows e' xs h⟩=>Q1 (Q1p (.sl e) (.sl e') y.1) fun x=>Qux h j (Q1 xs[j]? fun _=>K .undef (Q2h y.2 b ⟨ver+1,true,.rows e' (xs.set j x) none⟩))
      | _=>none
    | none=>Q1 (tyG X.P 8 t) fun w=>Q1 (refl true w (Q2c u) L) fun y=>match Qi y.2 b with
     | some ⟨ver,true,.arr e xs⟩=>Q1 xs[j]? fun x0=>Q1 (upd e w fo x0 y.1) fun x1=>K .undef (Q2h y.2 b ⟨ver+1,true,.arr e (xs.set j x1)⟩)
     | _=>none
   | .ptr b off=>match Qi L b with
    | some ⟨ver,true,.cells cs⟩=>match Nat.ble (off+(Q2c u).length) cs.length with
     | true=>K .undef (Q2h L b ⟨ver+1,true,.cells (Qij cs off (Q2c u))⟩)
     | false=>none
    | some ⟨ver,true,.rows e xs none⟩=>match Nat.beq off 0&&Qdp xs.length (Q2c u) with
     | true=>K .undef (Q2h L b ⟨ver+1,true,.rows e (List.replicate (Q2c u).length []) none⟩)
     | false=>none
    | _=>none
   | .dp b off n w k=>match Qi L b,w.flat with
    | some ⟨ver,true,.cells cs⟩,true=>Q1 (refl false w (Q2c u) L) fun y=>Q1 (Qka w n (cs.drop off) L) fun xs=>Q1 (setV n w xs k y.1) fun p =>
     K .undef (Q2h L b ⟨ver+1,true,.cells (Qij cs off (Q1y L.clk (Qii n w) p))⟩)
    | _,_=>none
   | _=>none
  | false=>none
 | .nilCheck x=>Q1 (pev env x) fun v=>match v with
  | .fn f a b=>K (.fn f a b) L
  | .ptr b o=>K (.ptr b o) L
  | .ep b j f=>K (.ep b j f) L
  | .rp s t x=>K (.rp s t x) L
  | .rq b v t x=>K (.rq b v t x) L
  | .dp b o n t k=>K (.dp b o n t k) L
  | _=>none
 | .binOp op t x y _=>Q1 (pev env x) fun v=>Q1 (pev env y) fun u=>match Qqp X.P op t L v u with
  | some (none,neg)=>K (.bool (!neg)) L
  | some (some n,neg)=>Quw n (K (.bool (!neg)) L) (K (.bool neg) L)
  | none=>Q1 (sc v) fun v'=>Q1 (sc u) fun u'=>Qpc X.P op t v' u' fun r=>K (ofS r) L
 | .unOp op _ x=>Q1 (pev env x) fun v=>Q1 (sc v) fun v'=>unA op v' fun r=>K (ofS r) L
 | .convert src dst x=>Q1 (pev env x) fun v=>match X.P.underlying src,X.P.underlying dst,v with
  | some (.int _),some (.int k),.int _ n=>K (.int k (k.wrap n)) L
  | some .string,some .string,.str s=>K (.str s) L
  | some (.slice e),some .string,v=>match X.P.underlying e with
   | some (.int .u8)=>Q1 (Q0y L v (.int .u8)) fun l=>K (.str (strL l)) L
   | _=>none
  | some .string,some (.slice e),.str s=>match X.P.underlying e with
   | some (.int .u8)=>K (.osl L.bl.length 0 none) (Qv L (.arr (.int .u8) (Qc5 s)))
   | _=>none
  | _,_,_=>none
 | .makeFunc (.func f) first cap=>Q1 (Quv env first.toList) fun fs=>Q1 (Quv env cap.toList) fun cs=>match fs.all Q2y&&cs.all Q2y with
  | true=>K (.fn f fs cs) L
  | false=>none
 | .makeSlice t l c=>Q1 (pev env l) fun v=>Q1 (pev env c) fun u=>Qwt v fun n=>Qwt u fun m =>
  Q1 (Q1v X.P t) fun (e,size,bytes,z)=>Q1 (tyG X.P 8 e) fun w=>match Qc6 z w,Nat.beq w.size size with
   | true,true=>oif (Nat.ble n m&&Nat.ble (m*bytes) Q7) (match X.own,w with
    | true,.sl t=>match t.flat with
     | true=>K (.osl L.bl.length 0 none) (Qv L (.rows t (List.replicate n []) none))
     | false=>none
    | _,_=>K (.osl L.bl.length 0 none) (Qv L (.arr w (List.replicate n (Q8g w))))) none
   | _,_=>none
 | .slice t x lo hi none=>Q1 (pev env x) fun v=>match v with
  | .str s=>match X.P.underlying t with
   | some .string=>Q2d env hi fun h=>Q2d env lo fun l=>oif (Nat.ble (l.getD 0) (h.getD s.size)&&Nat.ble (h.getD s.size) s.size) (K (.str (s.extract (l.getD 0) (h.getD s.size))) L) none
   | _=>none
  | v=>match X.P.underlying t with
   | some (.slice e)=>Q1 (X.P.info? e) fun i=>match esz L v with
    | some n=>match Nat.beq n i.size with
     | true=>Q2d env hi fun h=>Q2d env lo fun l=>psl L v l h fun u=>K u L
     | false=>none
    | none=>Q2d env hi fun h=>Q2d env lo fun l=>psl L v l h fun u=>K u L
   | _=>none
 | .fieldAddr s x f=>Q1 (pev env x) fun v=>match X.P.underlying s with
  | some (.struct fs)=>Q1 fs[f]? fun fd=>Q1 (X.P.info? fd.type) fun i=>match Nat.beq i.size 0 with
   | true=>none
   | false=>match v with
    | .ptr b off=>K (.ptr b (off+fd.offset)) L
    | .ep b j fo=>K (.ep b j (fo+fd.offset)) L
    | .rp st t x=>Q1 (tyG X.P 8 fd.type) fun w=>Q1 (sub t w fd.offset x) fun y=>K (.rp st w y) L
    | .rq b v t x=>Q1 (tyG X.P 8 fd.type) fun w=>Q1 (sub t w fd.offset x) fun y=>K (.rq b v w y) L
    | _=>none
  | _=>none
 | .field t x f=>Q1 (pev env x) fun v=>match v with
  | .agg cs=>match X.P.underlying t with
   | some (.struct fs)=>Q1 fs[f]? fun fd=>Q1 (Qzj X.P fd.type cs fd.offset) fun u=>K u L
   | _=>none
  | _=>none
 | .indexAddr t x ix=>Q1 (pev env x) fun v=>Q1 (pev env ix) fun j=>match X.P.underlying t with
  | some (.slice e)=>Q1 (X.P.info? e) fun i=>match v with
   | .ro st u l=>match Nat.beq u.size i.size with
    | true=>pIx j fun k=>Q1 l[k]? fun y=>K (.rp st u y) L
    | false=>none
   | .osl b off n=>match Qi L b with
    | some ⟨_,_,.arr u xs⟩=>match Nat.beq u.size i.size with
     | true=>pIx j fun k=>Q1 (Qak L (.osl b off n)) fun m=>oif (Nat.blt k m) (K (.ep b (Qlt off k) 0) L) none
     | false=>none
    | some ⟨_,_,.rows _ xs _⟩=>match Nat.beq 1 i.size&&(Nat.beq off 0&&n.isNone) with
     | true=>pIx j fun k=>oif (Nat.blt k xs.length) (K (.ep b k 0) L) none
     | false=>none
    | _=>none
   | .rw b _ ver u l=>match Nat.beq u.size i.size with
    | true=>pIx j fun k=>Q1 l[k]? fun y=>K (.rq b ver u y) L
    | false=>none
   | _=>none
  | some (.array n e)=>Q1 (X.P.info? e) fun i=>Q1 (tyG X.P 8 e) fun u=>match v with
   | .ptr b off=>match Qi L b with
    | some ⟨_,_,.rows _ xs _⟩=>match Nat.beq off 0&&Nat.beq 1 i.size with
     | true=>pIx j fun k=>oif (Nat.blt k n&&Nat.blt k xs.length) (K (.ep b k 0) L) none
     | false=>none
    | _=>match Nat.beq u.size i.size&&u.flat with
     | true=>pIx j fun k=>oif (Nat.blt k n) (K (.dp b off n u k) L) none
     | false=>none
   | _=>none
  | _=>none
 | .index t x ix=>Q1 (pev env x) fun v=>Q1 (pev env ix) fun j=>match v with
  | .str s=>match X.P.underlying t with
   | some .string=>pIx j fun k=>Q1 s.data.toList[k]? fun b=>K (.int .u8 b.toNat) L
   | _=>none
  | .agg cs=>match X.P.underlying t with
   | some (.array n e)=>Q1 (X.P.info? e) fun i=>Q1 (tyG X.P 8 e) fun u=>match Nat.beq u.size i.size&&u.flat with
    | true=>Q1 (Qka u n cs L) fun xs=>pIx j fun k=>Q1 xs[k]? fun y=>K (Q4i u (Q1y L.clk u y)) L
    | false=>match u with
     | .sl w=>Q1 (Qqu w cs) fun g=>match Nat.beq i.size 1 with
      | true=>pIx j fun k=>oif (Nat.blt k n) (Q1 g.2.2[k]? fun y=>K (.rw g.1 k g.2.1 w y) L) none
      | false=>none
     | _=>none
   | _=>none
  | _=>none
 | .extract x i=>Q1 (pev env x) fun v=>match v with
  | .tup vs=>Q1 vs[i]? fun u=>K u L
  | _=>none
 | .call c=>match c.callee with
  | .builtin b=>Q1 (Quv env c.args.toList) fun vs=>Qfq X.P b c.argTypes.toList vs L K
  | .value f=>Q1 (pev env f) fun g=>Q1 (Quv env c.args.toList) fun vs=>match g with
   | .fn n first cap=>Qzk X n (first++vs++cap) L fun u L'=>match Qlb X.P o.type with
    | some tm=>match fitT tm u with
     | true=>K u L'
     | false=>none
    | none=>K u L'
   | _=>none
  | _=>none
 | _=>none
where
 esz (L:LS):PV→Option Nat
  | .ro _ u _=>some u.size
  | .osl b _ _=>match Qi L b with
   | some ⟨_,_,.arr u _⟩=>some u.size
   | _=>some 0
  | .rw _ _ _ u _=>some u.size
  | _=>none
end ops
section code
variable {A:AnnV} {β:Type}
def Qnj (nt:Nat) (dst:Option Tmp) (v:PV) (env:Q0n) (K:Q0n→Option β):Option β :=
 match dst with
 | none=>K env
 | some d=>match Nat.blt d nt with | true=>K ((d,v)::env) | false=>none
def Qfr (ops:Array Oper) (o:Oper) (env:Q0n) (K:Bool→Q0n→Option β):Option β :=
 match o.guard with
 | none=>K true env
 | some (j,want)=>match (ops[j]?).bind (·.dst) with
  | some d=>Q1 (Q3c env d) fun v=>match v with
   | .bool b=>oif b (K want ((d,.bool true)::env)) (K (!want) ((d,.bool false)::env))
   | .undef=>K false env
   | _=>none
  | none=>none
noncomputable def Quz (X:CxV A β) (o:Oper) (env:Q0n) (L:LS) (K:PV→LS→Option β):Option β :=
 match o.op with
 | .makeMap _ none=>K (.mp L.bl.length) (Qv L (.mp []))
 | .mapUpdate t m k v=>match Q9q X.P t with
  | true=>Q1 (pev env m) fun mv=>Q1 (pev env k) fun kv=>Q1 (pev env v) fun vv=>mapP mv fun b=>Qzh kv fun a=>Qzh vv fun u=>Q1 (lmap L b) fun q=>K .undef (Q2h L b ⟨q.1+1,true,.mp (Q94 q.2 a u)⟩)
  | false=>none
 | .lookup t m k ok=>match Q9q X.P t with
  | true=>Q1 (pev env m) fun mv=>Q1 (pev env k) fun kv=>mapP mv fun b=>Qzh kv fun a=>Q1 (lmap L b) fun q=>K (Qzi ok (Q0s q.2 a)) L
  | false=>none
 | _=>vop X o env L K
noncomputable def Qzl (X:CxV A β) (ops:Array Oper):List Oper→Q0n→LS→(Q0n→LS→Option β)→Option β
 | [],env,L,K=>K env L
 | o::r,env,L,K=>Qfr ops o env fun t env=>match t with
  | true=>Quz X o env L fun v L'=>Qnj X.nt o.dst v env fun env=>Qzl X ops r env L' K
  | false=>Qnj X.nt o.dst .undef env fun env=>Qzl X ops r env L K
noncomputable def Qqv (X:CxV A β) (ops:Array Oper):List Oper→Q0n→LS→List (Q0n×LS)→(List (Q0n×LS)→Q0n→LS→Option β)→Option β
 | [],env,L,tr,K=>K ((env,L)::tr) env L
 | o::r,env,L,tr,K=>Qfr ops o env fun t env=>match t with
  | true=>vop X o env L fun v L'=>Qnj X.nt o.dst v env fun env'=>Qqv X ops r env' L' ((env,L)::tr) K
  | false=>Qnj X.nt o.dst .undef env fun env'=>Qqv X ops r env' L ((env,L)::tr) K
def Q9h (L M:LS) (b:Nat):Bool:=match Qi L b,Qi M b with
 | some x,some y=>Nat.beq x.ver y.ver
 | _,_=>false
def Qti:Operand→Bool
 | .tmp _=>true
 | _=>false
def Qqw (P:Program) (c0:Nat) (o:Op) (env:Q0n) (L M:LS):Bool :=
 match o with
 | .load t a=>match Qci P t a with
   | some _=>true
   | none=>match pev env a with
  | some (.rp st u _)=>Nat.blt st c0&&match P.info? t with | some i=>Nat.beq u.size i.size | none=>true
  | some (.ep b _ _)=>Q9h L M b
  | some (.ptr b _)=>Q9h L M b
  | some (.dp b _ _ _ _)=>Q9h L M b
  | some .undef=>true
  | none=>Qti a
  | _=>false
 | .convert _ _ a=>match pev env a with
  | some (.ro st _ _)=>Nat.blt st c0
  | some (.osl b _ _)=>Q9h L M b
  | some .nil=>true
  | some .undef=>true
  | none=>Qti a
  | _=>false
 | _=>false
def Q8i (c0:Nat) (P:Program) (ops:Array Oper) (sts:List (Q0n×LS)) (i:Nat) (o:Oper):List Nat→Bool
 | []=>true
 | m::ms=>((Q21 P ops m i || Q6a P ops i o m) || match sts[i]?,sts[m]? with
   | some s,some q=>Qqw P c0 o.op s.1 s.2 q.2
   | _,_=>false)&&Q8i c0 P ops sts i o ms
def Qfs (c0:Nat) (P:Program) (ops:Array Oper) (sts:List (Q0n×LS)):List Nat→Bool
 | []=>true
 | i::r=>(match Nat.beq (Q08 P ops i) 1,ops[i]? with
  | true,some o=>Q8i c0 P ops sts i o (Q4t P ops i)
  | _,_=>true)&&Qfs c0 P ops sts r
noncomputable def Qwx (X:CxV A β) (ops:Array Oper) (env:Q0n) (L:LS) (K:Q0n→LS→Option β):Option β :=
 match Qh9 X.P ops with
 | true=>Qqv X ops ops.toList env ⟨L.bl,L.clk+1⟩ [] fun tr env' L'=>match Qfs (L.clk+1) X.P ops tr.reverse (List.range ops.size) with
  | true=>K env' L'
  | false=>none
 | false=>none
def Qtj (c:Operand) (b:Bool) (env:Q0n):Q0n:=match c with | .tmp d=>(d,.bool b)::env | _=>env
def Q3e (env:Q0n):List (Nat×Bool×Ty)→LS→Option (List TV×LS)
 | [],L=>some ([],L)
 | (q,o,t)::r,L=>Q1 (Q3c env q) fun v=>Q1 (Q4j o t v L) fun x=>Q1 (Q3e env r x.2) fun y=>some (x.1::y.1,y.2)
def Qin (env:Q0n):List (Nat×Ty)→LS→Option (List TV×List Nat×LS)
 | [],L=>some ([],[],L)
 | (q,t)::r,L=>Q1 (Q3c env q) fun v=>match v with
  | .ptr b 0=>Q1 (Qnd t b L) fun x=>Q1 (Qin env r x.2) fun y=>some (x.1::y.1,b::y.2.1,y.2.2)
  | _=>none
def Q011 (env:Q0n) (q:Nat) (L:LS):Option Nat :=
 match q / 1000000 with
 | 0=>Q1 (Q3c env q) fun v=>match v with
  | .osl b _ _=>some b
  | .ptr b _=>some b
  | .mp b=>some b
  | _=>none
 | k+1=>Q1 (Q3c env (q % 1000000)) fun v=>match v with
  | .ptr b _=>match Qi L b with
   | some ⟨_,_,.cells cs⟩=>match cs[k]? with
    | some (.osl c _ _)=>some c
    | some (.mp c)=>some c
    | _=>none
   | _=>none
  | _=>none
def Qdq (env:Q0n):List (Nat×Ty)→LS→Option (List TV×List Nat)
 | [],_=>some ([],[])
 | (q,t)::r,L=>Q1 (Q011 env q L) fun b=>Q1 (Qte t b L) fun x=>Q1 (Qdq env r L) fun y=>some (x::y.1,b::y.2)
def Qio (L:LS) (ids:List Nat):Bool:=ids.all fun b=>match Qi L b with | some ⟨_,true,_⟩=>true | _=>false
def Qip (a:LoopA) (env:Q0n) (L:LS):Option (List TV×List Nat×LS) :=
 Q1 (Q3e env a.slots L) fun x=>Q1 (Qin env a.cbs x.2) fun y=>Q1 (Qdq env a.abs y.2.2) fun z =>
  match Qio y.2.2 (y.2.1++z.2) with
  | true=>some (x.1++(y.1++z.1),y.2.1++z.2,y.2.2)
  | false=>none
def Q7e:List (Nat×Bool×Ty)→List TV→Q0n→LS→Option (Q0n×LS)
 | [],[],env,L=>some (env,L)
 | (q,o,_)::r,v::vs,env,L=>match Qnc o v L with
  | (pv,L')=>Q7e r vs ((q,pv)::env) L'
 | _,_,_,_=>none
def Q41:List Nat→Nat→List TV→LS→Option LS
 | [],_,[],L=>some L
 | b::r,n,v::vs,L=>match n with
  | 0=>Q1 (inAr b v L) fun L'=>Q41 r 0 vs L'
  | m+1=>Q1 (inCb b v L) fun L'=>Q41 r m vs L'
 | _,_,_,_=>none
def Q54:List Nat→Nat→List TV→LS→Option LS
 | b::r,n+1,v::vs,L=>Q1 (Qtf b v L) fun L'=>Q54 r n vs L'
 | _,_,_,L=>some L
def Q7f (env:Q0n):List (Nat×Value)→Option Q0n
 | []=>some []
 | (q,_)::r=>Q1 (Q3c env q) fun v=>Q1 (Q7f env r) fun e=>some ((q,v)::e)
def Qc9 (env:Q0n):List (Nat×Value)→Bool
 | []=>true
 | (q,t)::r=>(match Q3c env q with | some v=>Qfw t v | none=>false)&&Qc9 env r
def Qwy (keep:List (Nat×Value)) (a:LoopA):Bool:=a.slots.all fun s=>keep.any fun k=>Nat.beq k.1 s.1
def Qtk:List Nat→Bool
 | []=>true
 | x::r => !r.contains x&&Qtk r
def Q48 (ids:List Nat):Nat→List (Option VB)→List (Option VB)→Bool
 | _,[],_=>true
 | n,none::r,_::s=>Q48 ids (n+1) r s
 | n,some x::r,some y::s=>(ids.contains n || Nat.beq x.ver y.ver)&&Q48 ids (n+1) r s
 | _,_,_=>false
def Q8j (env:Q0n):List Nat→LS→LS
 | [],L=>L
 | q::r,L=>Q8j env r (match Q3c env q with | some v=>(Q2c v).foldl freeze L | none=>L)
def Q9 {σ β:Type} (F:(σ→Option β)→σ→Option β):Nat→σ→Option β
 | 0=>fun _=>none
 | n+1=>F (Q9 F n)
def Q7g:List Nat→List Nat→Bool
 | [],[]=>true
 | a::r,b::s=>Nat.beq a b&&Q7g r s
 | _,_=>false
def Qqx (ops:Array Oper):List Nat:=ops.toList.filterMap (·.dst)
def Q0q:Code→List Nat
 | .region _ ops _=>Qqx ops
 | .seq a b=>Q0q a++Q0q b
 | .cond c a b=>match c with
  | .tmp d=>d::(Q0q a++Q0q b)
  | _=>Q0q a++Q0q b
 | .block _ c=>Q0q c
 | .loop c=>Q0q c
 | _=>[]
def Qqy (w:List Nat) (a:LoopA) (keep:List (Nat×Value)):Bool:=(keep.all fun k=>(a.slots.any fun s=>Nat.beq s.1 k.1) || !w.contains k.1)&&a.slots.all fun s=>w.contains s.1
noncomputable def Q3f (X:CxV A β):Code→Nat→Q0n→LS→(AExit→Q0n→LS→Option β)→Option β
 | .skip,_,env,L,K=>K .normal env L
 | .label _,_,env,L,K=>K .normal env L
 | .region _ ops d,_,env,L,K=>match d with
  | false=>Qzl X ops ops.toList env L (K .normal)
  | true=>Qwx X ops env L (K .normal)
 | .seq a b,n,env,L,K=>Q3f X a n env L fun ex env L=>match ex with
  | .normal=>Q3f X b (n+Q44 a) env L K
  | .exit id=>K (.exit id) env L
  | .ret=>K .ret env L
 | .cond c a b,n,env,L,K=>Q1 (pev env c) fun v=>match v with
  | .bool t=>oif t (Q3f X a n (Qtj c true env) L K) (Q3f X b (n+Q44 a) (Qtj c false env) L K)
  | _=>none
 | .block id c,n,env,L,K=>Q3f X c n env L fun ex env L=>match ex with
  | .normal=>K .normal env L
  | .exit id'=>match Nat.beq id' id with | true=>K .normal env L | false=>K (.exit id') env L
  | .ret=>K .ret env L
 | .loop c,n,env,L,K=>Q1 (Q7f env (X.eann n)) fun env0=>Q1 (Qip (X.ann n) env (Q8j env (X.ann n).fzs L)) fun r =>
  match Qwy (X.eann n) (X.ann n)&&Qqy (Q0q c) (X.ann n) (X.eann n),Qtk r.2.1 with
  | true,true=>Q1 (mkT (X.ann n).tys r.1) fun s0 =>
   Q9 (fun again s=>Q1 (Q41 r.2.1 (X.ann n).cbs.length ((unT (X.ann n).tys s).drop (X.ann n).slots.length) r.2.2) fun L0=>Q1 (Q54 r.2.1 (X.ann n).cbs.length ((unT (X.ann n).tys s).drop (X.ann n).slots.length) L0) fun L1 =>
    Q1 (Q7e (X.ann n).slots ((unT (X.ann n).tys s).take (X.ann n).slots.length) env0 L1) fun i =>
    match Qc9 i.1 (X.eann n) with
    | true=>Q3f X c (n+1) i.1 i.2 fun ex env' L'=>match ex with
     | .normal=>Q1 (Q7f env' (X.eann n)) fun _=>Q1 (Qip (X.ann n) env' L') fun r'=>match Q7g r'.2.1 r.2.1,Q48 r.2.1 0 r.2.2.bl r'.2.2.bl with
      | true,true=>Q1 (mkT (X.ann n).tys r'.1) fun s'=>again s'
      | _,_=>none
     | .exit id=>K (.exit id) env' L'
     | .ret=>K .ret env' L'
    | false=>none) A.fuel s0
  | _,_=>none
 | .exit id,_,env,L,K=>K (.exit id) env L
 | .ret,_,env,L,K=>K .ret env L
 | _,_,_,_,_=>none
end code
structure Lev (A:AnnV) where
 call:(f:FuncId)→Qc1 (A.sig f).ptys→Option (Qc1 (A.sig f).rtys)
 inl:(β:Type)→FuncId→List PV→LS→(PV→LS→Option β)→Option β
def Qnt (P:Program) (env:Q0n) (L:LS):List ResultVar→Option (List PV)
 | []=>some []
 | .tmp t::r=>Q1 (Q3c env t) fun v=>Q1 (Qnt P env L r) fun l=>some (v::l)
 | .cell a t::r=>Q1 (Q3c env a) fun v=>match v with
  | .ptr b off=>match Qi L b with
   | some ⟨_,_,.cells cs⟩=>Q1 (P.info? t) fun i=>match P.underlying t with
    | some (.struct _)=>match Nat.ble (off+i.size) cs.length with
     | true=>Q1 (Qnt P env L r) fun l=>some (.agg ((cs.drop off).take i.size)::l)
     | false=>none
    | some (.array _ _)=>match Nat.ble (off+i.size) cs.length with
     | true=>Q1 (Qnt P env L r) fun l=>some (.agg ((cs.drop off).take i.size)::l)
     | false=>none
    | some _=>Q1 cs[off]? fun u=>Q1 (Qnt P env L r) fun l=>some (u::l)
    | none=>none
   | _=>none
  | _=>none
def Q60:List (PM×Ty)→List TV→Nat→LS→Option (Q0n×LS)
 | [],[],_,L=>some ([],L)
 | (m,_)::ps,v::vs,i,L=>match m with
  | .ro=>Q1 (Q60 ps vs (i+1) L) fun r=>some ((i,Q4i v.1 (Q1y 0 v.1 v.2))::r.1,r.2)
  | .cl g=>Q1 (Q60 ps vs (i+1) L) fun r=>some ((i,.fn g [] [])::r.1,r.2)
  | .ps=>Q1 (Q60 ps vs (i+1) (Qv L (.cells (Q1y 0 v.1 v.2)))) fun r=>some ((i,.ptr L.bl.length 0)::r.1,r.2)
  | .mv=>match v with
   | ⟨.sl u,x⟩=>Q1 (Q60 ps vs (i+1) (Qv L (Q9w u x))) fun r=>some ((i,.osl L.bl.length 0 none)::r.1,r.2)
   | _=>none
  | .io=>match v with
   | ⟨.sl u,x⟩=>match u.isOs with
    | true=>none
    | false=>Q1 (Q60 ps vs (i+1) (Qv L (.arr u x))) fun r=>some ((i,.osl L.bl.length 0 none)::r.1,r.2)
   | _=>none
 | _,_,_,_=>none
def Q9y:List (Bool×Ty)→List PV→LS→Option (List TV×LS)
 | [],[],L=>some ([],L)
 | (o,t)::rs,v::vs,L=>Q1 (Q4j o t v L) fun x=>Q1 (Q9y rs vs x.2) fun y=>some (x.1::y.1,y.2)
 | _,_,_=>none
def Q49:List (PM×Ty)→Nat→LS→Option (List TV×LS)
 | [],_,L=>some ([],L)
 | (m,t)::ps,i,L=>match m with
  | .ro=>Q49 ps i L
  | .cl _=>Q49 ps i L
  | .mv=>Q49 ps (i+1) L
  | .io=>match t with
   | .sl u=>Q1 (Qne u i L) fun x=>Q1 (Q49 ps (i+1) L) fun y=>some (x::y.1,y.2)
   | _=>none
  | .ps=>Q1 (Qnd t i L) fun x=>Q1 (Q49 ps (i+1) x.2) fun y=>some (x.1::y.1,y.2)
def Q13:List (PM×Ty)→Nat→List Nat
 | [],_=>[]
 | (m,_)::ps,i=>match m with
  | .ro=>Q13 ps i
  | .cl _=>Q13 ps i
  | .mv=>Q13 ps (i+1)
  | .io=>i::Q13 ps (i+1)
  | .ps=>i::Q13 ps (i+1)
def Qiq:PV→Bool
 | .tup _=>false
 | _=>true
def Qqz:Nat→List PV→Q0n
 | _,[]=>[]
 | i,v::r=>(i,v)::Qqz (i+1) r
noncomputable def runF (P:Program) (A:AnnV) (l:Lev A) (f:FuncId) (a:Qc1 (A.sig f).ptys):Option (Qc1 (A.sig f).rtys) :=
 match P.funcs[f]? with
 | none=>none
 | some fn=>match fn.body,Nat.ble (A.sig f).params.length fn.ntmps,fn.name == "runtime.NumGoroutine" with
  | some c,true,false=>Q1 (Q60 (A.sig f).params (unT (A.sig f).ptys a) 0 ⟨[],0⟩) fun e=>Q1 (Qkc (Q8h (A.sig f).params (unT (A.sig f).ptys a) 0) e.2) fun L1 =>
   Q3f ⟨P,l.call,l.inl _,fn.ntmps,A.own f,A.loops f,A.eloops f⟩ c 0 e.1 L1 fun ex env L=>match ex with
    | .exit _=>none
    | _=>Q1 (Qnt P env L fn.results.toList) fun vs=>Q1 (Q9y (A.sig f).results vs L) fun r=>Q1 (Q49 (A.sig f).params 0 r.2) fun q =>
     match Qio q.2 (Q13 (A.sig f).params 0) with
     | true=>mkT (A.sig f).rtys (r.1++q.1)
     | false=>none
  | _,_,_=>none
noncomputable def runI (P:Program) (A:AnnV) (l:Lev A) (β:Type) (f:FuncId) (args:List PV) (L:LS) (K:PV→LS→Option β):Option β :=
 match P.funcs[f]? with
 | none=>none
 | some fn=>match fn.body,Nat.ble args.length fn.ntmps,fn.name == "runtime.NumGoroutine" with
  | some c,true,false=>Q3f ⟨P,l.call,l.inl _,fn.ntmps,A.own f,A.loops f,A.eloops f⟩ c 0 (Qqz 0 args) L fun ex env L=>match ex with
    | .exit _=>none
    | _=>Q1 (Qnt P env L fn.results.toList) fun vs=>match vs.all Qiq with
     | true=>K (Qkd vs) L
     | false=>none
  | _,_,_=>none
noncomputable def lev (P:Program) (A:AnnV):Nat→Lev A
 | 0=>⟨fun _ _=>none,fun _ _ _ _ _=>none⟩
 | d+1=>⟨fun f a=>match A.vext f with | some v=>v a | none=>runF P A (lev P A d) f a,runI P A (lev P A d)⟩
def Qw {α β:Type} (R:α→β→Prop):List α→List β→Prop
 | [],[]=>True
 | a::r,b::s=>R a b∧Qw R r s
 | _,_=>False
theorem Qw.length {α β:Type} {R:α→β→Prop}:∀ {l:List α} {m:List β},Qw R l m→l.length=m.length
 | [],[],_=>rfl
 | _::r,_::s,h=>by simp [Qw.length h.2]
theorem Qw.mono {α β:Type} {R S:α→β→Prop} (f:∀ a b,R a b→S a b):∀ {l:List α} {m:List β},Qw R l m→Qw S l m
 | [],[],_=>trivial
 | _::r,_::s,h=>⟨f _ _ h.1,Qw.mono f h.2⟩
theorem Qw.append {α β:Type} {R:α→β→Prop}:∀ {l:List α} {m:List β} {l':List α} {m':List β},Qw R l m→Qw R l' m'→Qw R (l++l') (m++m')
 | [],[],_,_,_,h'=>h'
 | _::r,_::s,_,_,h,h'=>⟨h.1,Qw.append h.2 h'⟩
theorem Qw.take {α β:Type} {R:α→β→Prop}:∀ (n:Nat) {l:List α} {m:List β},Qw R l m→Qw R (l.take n) (m.take n)
 | 0,_,_,_=>by simp [Qw]
 | n+1,[],[],_=>by simp [Qw]
 | n+1,_::r,_::s,h=>by simp only [List.take_succ_cons];exact ⟨h.1,Qw.take n h.2⟩
theorem Qw.drop {α β:Type} {R:α→β→Prop}:∀ (n:Nat) {l:List α} {m:List β},Qw R l m→Qw R (l.drop n) (m.drop n)
 | 0,_,_,h=>by simpa using h
 | n+1,[],[],_=>by simp [Qw]
 | n+1,_::r,_::s,h=>by simp only [List.drop_succ_cons];exact Qw.drop n h.2
theorem Qw.get {α β:Type} {R:α→β→Prop}:∀ (n:Nat) {l:List α} {m:List β} {a:α},Qw R l m→l[n]? = some a→∃ b,m[n]? = some b∧R a b
 | 0,_::r,_::s,_,h,e=>by simp at e;subst e;exact ⟨_,rfl,h.1⟩
 | n+1,_::r,_::s,a,h,e=>by simp only [List.getElem?_cons_succ] at e ⊢;exact Qw.get n h.2 e
 | n,[],[],_,_,e=>by simp at e
def Rep (N:Nat→Prop) (H:Heap):(t:Ty)→t.T→List Value→Prop
 | .int k,x,cs=>cs=[.int k x]
 | .bool,x,cs=>cs=[.bool x]
 | .str,x,cs=>cs=[.string x]
 | .sl t,x,cs=>(x=[]∧cs=[.slice none 0 0])∨(x=[]∧∃ z o,cs=[.slice (some ⟨z,o,none⟩) 0 t.size]) ∨
   ∃ z o k,cs=[.slice (some ⟨z,o,none⟩) x.length t.size]∧N z∧hget H z=some k∧o+x.length*t.size≤k.cells.length ∧
    ∀ i (h:i < x.length),Rep N H t (x[i]) ((k.cells.drop (o+i*t.size)).take t.size)
 | .os _,_,cs=>∃ v,cs=[v]∧isCell v=true∧Qa v v=true
 | .pair a b,x,cs=>Rep N H a x.1 (cs.take a.size)∧Rep N H b x.2 (cs.drop a.size)
theorem Ty.size_pos:∀ t:Ty,0 < t.size
 | .int _=>by simp [Ty.size]
 | .bool=>by simp [Ty.size]
 | .str=>by simp [Ty.size]
 | .sl _=>by simp [Ty.size]
 | .os _=>by simp [Ty.size]
 | .pair a b=>by have:=Ty.size_pos a;simp [Ty.size];omega
theorem Rep.len {N:Nat→Prop} {H:Heap}:∀ (t:Ty) {x:t.T} {cs:List Value},Rep N H t x cs→cs.length=t.size
 | .int _,_,_,h=>by unfold Rep at h;subst h;rfl
 | .bool,_,_,h=>by unfold Rep at h;subst h;rfl
 | .str,_,_,h=>by unfold Rep at h;subst h;rfl
 | .sl t,_,_,h=>by
  unfold Rep at h
  rcases h with ⟨_,rfl⟩ | ⟨_,_,_,rfl⟩ | ⟨_,_,_,rfl,_⟩<;>rfl
 | .os t,_,_,h=>by unfold Rep at h;obtain ⟨v,rfl,_⟩:=h;rfl
 | .pair a b,_,cs,h=>by
  unfold Rep at h
  have h1:=Rep.len a h.1;have h2:=Rep.len b h.2
  have:=Ty.size_pos a;have:=Ty.size_pos b
  simp at h1 h2;simp [Ty.size];omega
theorem Rep.frame {N M:Nat→Prop} {H G:Heap} (h:∀ z,N z→z < H.length→M z∧hget G z=hget H z):∀ (t:Ty) {x:t.T} {cs:List Value},Rep N H t x cs→Rep M G t x cs
 | .int _,_,_,r=>by unfold Rep at r ⊢;exact r
 | .bool,_,_,r=>by unfold Rep at r ⊢;exact r
 | .str,_,_,r=>by unfold Rep at r ⊢;exact r
 | .sl t,x,_,r=>by
  unfold Rep at r ⊢
  rcases r with r | r | ⟨z,o,k,e,hN,hk,hl,hi⟩
  ·exact .inl r
  ·exact .inr (.inl r)
  ·obtain ⟨g1,g2⟩:=h z hN (Qs hk)
   exact .inr (.inr ⟨z,o,k,e,g1,by rw [g2];exact hk,hl,fun i hi'=>Rep.frame h t (hi i hi')⟩)
 | .os _,_,_,r=>by unfold Rep at r ⊢;exact r
 | .pair a b,_,_,r=>by
  unfold Rep at r ⊢
  exact ⟨Rep.frame h a r.1,Rep.frame h b r.2⟩
theorem Rep.flat {N M:Nat→Prop} {H G:Heap}:∀ (t:Ty) {x:t.T} {cs:List Value},t.flat=true→Rep N H t x cs→Rep M G t x cs
 | .int _,_,_,_,r=>by unfold Rep at r ⊢;exact r
 | .bool,_,_,_,r=>by unfold Rep at r ⊢;exact r
 | .str,_,_,_,r=>by unfold Rep at r ⊢;exact r
 | .sl t,x,_,f,r=>by simp [Ty.flat] at f
 | .os t,x,_,f,r=>by simp [Ty.flat] at f
 | .pair a b,_,_,f,r=>by
  simp only [Ty.flat,Z8] at f
  unfold Rep at r ⊢
  exact ⟨Rep.flat a f.1 r.1,Rep.flat b f.2 r.2⟩
theorem Rep.cell {N:Nat→Prop} {H:Heap}:∀ (t:Ty) {x:t.T} {cs:List Value},Rep N H t x cs→∀ v∈cs,isCell v=true
 | .int _,_,_,h=>by unfold Rep at h;subst h;simp [isCell]
 | .bool,_,_,h=>by unfold Rep at h;subst h;simp [isCell]
 | .str,_,_,h=>by unfold Rep at h;subst h;simp [isCell]
 | .sl t,_,_,h=>by
  unfold Rep at h
  rcases h with ⟨_,rfl⟩ | ⟨_,_,_,rfl⟩ | ⟨_,_,_,rfl,_⟩<;>simp [isCell]
 | .os t,_,_,h=>by unfold Rep at h;obtain ⟨v,rfl,hv,_⟩:=h;simpa using hv
 | .pair a b,_,cs,h=>by
  unfold Rep at h
  intro v hv
  rw [← List.take_append_drop a.size cs] at hv
  rcases List.mem_append.1 hv with hv | hv
  ·exact Rep.cell a h.1 v hv
  ·exact Rep.cell b h.2 v hv
theorem Q0z {a b:Ty} {x:a.T} {y:b.T} (h:Q1p a b x=some y):∃ e:a=b,e▸x=y:=by
 unfold Q1p at h
 split at h
 ·rename_i hb
  exact ⟨Ty.beq_eq hb,by simpa using h⟩
 ·simp at h
theorem Qp {a b:Ty} {x:a.T} {y:b.T} (h:Q1p a b x=some y):a=b:=(Q0z h).1
theorem Qg {a:Ty} {x y:a.T} (h:Q1p a a x=some y):x=y:=by
 obtain ⟨e,h⟩:=Q0z h;exact h
structure MB where
 z:Nat
 sh:Nat
 es:Nat
 n:Nat
structure S where
 μ:Nat→Option MB
 L:LS
 H:Heap
 Ban:Nat→Prop
 Old:Nat→Nat→Prop
 Lim:Nat→Prop
 lim:Nat
 Kid:Nat→Option (Nat×Nat)
def Own (s:S) (z:Nat):Prop:=(∃ b B m,Qi s.L b=some B∧B.rw=true∧s.μ b=some m∧m.z=z)∨s.Lim z∨∃ p,s.Kid z=some p
def S.N (s:S) (z:Nat):Prop:=¬ Own s z∧¬ s.Ban z
def S.NN (s:S) (st:Nat) (z:Nat):Prop:=s.N z∧∀ c,st < c→c≤s.L.clk→s.Old c z
def Fit (sh n:Nat) (c:List Value):Prop:=sh+n≤c.length∧∀ v∈c.drop sh,Qa v v=true
def SlOf (n k:Nat) (v:Value):Prop:=(n=0∧v=.slice none 0 0)∨∃ z o,v=.slice (some ⟨z,o,none⟩) n k
def Q9z (K:Nat→Prop) (H:Heap) (lim:Nat) (t:Ty) (x:List t.T) (v:Value):Prop :=
 (x=[]∧v=.slice none 0 0)∨∃ z o k,v=.slice (some ⟨z,o,none⟩) x.length t.size∧K z∧hget H z=some k∧k.ro=false∧lim≤z∧Fit o (x.length*t.size) k.cells ∧
  ∀ i (h:i < x.length),Rep (fun _=>False) H t x[i] ((k.cells.drop (o+i*t.size)).take t.size)
theorem Q9z.sl {K:Nat→Prop} {H:Heap} {lim:Nat} {t:Ty} {x:List t.T} {v:Value} (h:Q9z K H lim t x v):SlOf x.length t.size v:=by
 rcases h with ⟨rfl,rfl⟩ | ⟨z,o,k,rfl,_⟩
 ·exact .inl ⟨rfl,rfl⟩
 ·exact .inr ⟨z,o,rfl⟩
theorem Q9z.mono {K K':Nat→Prop} {H G:Heap} {lim:Nat} {t:Ty} {x:List t.T} {v:Value} (h:Q9z K H lim t x v) (hf:t.flat=true) (hk:∀ z,K z→K' z∧hget G z=hget H z):Q9z K' G lim t x v:=by
 rcases h with h | ⟨z,o,k,h1,h2,h3,h4,h5,h6,h7⟩
 ·exact .inl h
 ·exact .inr ⟨z,o,k,h1,(hk z h2).1,by rw [(hk z h2).2];exact h3,h4,h5,h6,fun i hi=>Rep.flat t hf (h7 i hi)⟩
def Qv0 (s:S) (b i n:Nat) (v:Value):Prop:=∀ B e xs h m k,Qi s.L b=some B→B.body=.rows e xs h→s.μ b=some m→hget s.H m.z=some k→∀ y,xs[i]? = some y→n≤y.length∧(y.length=n→k.cells[m.sh+i]? = some v)
def LR0 (s:S):PV→Value→Prop
 | .int k n,v=>v=.int k n
 | .bool b,v=>v=.bool b
 | .str x,v=>v=.string x
 | .nil,v=>v=.slice none 0 0
 | .nilp,v=>v=.pointer none
 | .ro st t x,v=>Rep (s.NN st) s.H (.sl t) x [v]
 | .rp st t x,v=>∃ z o k,v=.pointer (some ⟨z,o,none⟩)∧s.NN st z∧hget s.H z=some k∧o+t.size≤k.cells.length∧Rep (s.NN st) s.H t x ((k.cells.drop o).take t.size)
 | .osl b off n,v=>b < s.L.bl.length∧match s.μ b with
  | none=>off=0∧n.getD 0=0∧v=.slice none 0 0
  | some m=>off+n.getD (m.n - off)≤m.n∧v=.slice (some ⟨m.z,m.sh+off*m.es,none⟩) (n.getD (m.n - off)) m.es
 | .ep b j fo,v=>b < s.L.bl.length∧∃ m,s.μ b=some m∧v=.pointer (some ⟨m.z,m.sh+j*m.es+fo,none⟩)
 | .ptr b off,v=>b < s.L.bl.length∧∃ m,s.μ b=some m∧m.sh=0∧v=.pointer (some ⟨m.z,off,none⟩)
 | .dp b off _ u k,v=>b < s.L.bl.length∧∃ m,s.μ b=some m∧m.sh=0∧v=.pointer (some ⟨m.z,off+k*u.size,none⟩)
 | .hole,v=>isCell v=true∧Qa v v=true
 | .mp b,v=>b < s.L.bl.length∧∃ m,s.μ b=some m∧v=.map (some m.z)
 | .rw b i ver t x,v=>b < s.L.bl.length∧SlOf x.length t.size v∧∀ B,Qi s.L b=some B→ver≤B.ver∧(B.ver=ver→t.flat=true∧Q9z (fun z=>s.Kid z=some (b,i)) s.H s.lim t x v∧Qv0 s b i x.length v)
 | .rq b ver t x,v=>b < s.L.bl.length∧(∃ z o,v=.pointer (some ⟨z,o,none⟩))∧∀ B,Qi s.L b=some B→ver≤B.ver∧(B.ver=ver→∃ z o k i,v=.pointer (some ⟨z,o,none⟩)∧s.Kid z=some (b,i)∧hget s.H z=some k∧o+t.size≤k.cells.length∧Rep (fun _=>False) s.H t x ((k.cells.drop o).take t.size))
 | _,_=>False
def LRs (s:S) (cs:List PV) (vs:List Value):Prop:=Qw (LR0 s) cs vs
def AR (s:S):PV→Value→Prop
 | .agg cs,v=>∃ vs,v=.agg ⟨vs⟩∧LRs s cs vs
 | .fn f a b,v=>∃ a' b',v=.func (.func f) ⟨a'⟩ ⟨b'⟩∧LRs s a a'∧LRs s b b'
 | .undef,v=>v=undef
 | p,v=>LR0 s p v
def ER (s:S):PV→Value→Prop
 | .tup cs,v=>∃ vs,v=.tuple ⟨vs⟩∧Qw (AR s) cs vs
 | p,v=>AR s p v
def Q25 (s:S) (env:Q0n) (e:Env):Prop:=∀ q,match Q3c env q with
 | none=>Q2e e q=none
 | some p=>∃ v,Q2e e q=some v∧ER s p v
def BR (s:S) (b:Nat) (B:VB):Prop :=
 match B.body with
 | .cells cs=>B.rw=true∧∃ m k,s.μ b=some m∧m.sh=0∧hget s.H m.z=some k∧LRs s cs k.cells∧k.ro=false∧s.lim≤m.z
 | .arr t xs=>match s.μ b with
  | none=>xs=[]
  | some m=>m.es=t.size∧m.n=xs.length∧∃ k,hget s.H m.z=some k∧Fit m.sh (xs.length*t.size) k.cells ∧
   (∀ i (h:i < xs.length),Rep s.N s.H t xs[i] ((k.cells.drop (m.sh+i*t.size)).take t.size)) ∧
   (B.rw=true→k.ro=false∧s.lim≤m.z)∧(B.rw=false→s.N m.z)
 | .rows t xs h=>B.rw=true∧t.flat=true∧match s.μ b with
  | none=>xs=[]
  | some m=>m.es=1∧m.n=xs.length∧∃ k,hget s.H m.z=some k∧Fit m.sh xs.length k.cells∧k.ro=false∧s.lim≤m.z ∧
   ∀ i (hi:i < xs.length),h≠some i→∃ v,k.cells[m.sh+i]? = some v∧Q9z (fun z=>s.Kid z=some (b,i)) s.H s.lim t xs[i] v
 | .mp es=>B.rw=true∧∃ m k,s.μ b=some m∧m.sh=0∧hget s.H m.z=some k∧k.mp=some es∧k.ro=false∧s.lim≤m.z∧k.cells=[]
structure StR (s:S):Prop where
 blk:∀ b B,Qi s.L b=some B→BR s b B
 inj:∀ b b' B B' m m',Qi s.L b=some B→Qi s.L b'=some B'→B.rw=true→s.μ b=some m→s.μ b'=some m'→m.z=m'.z→b=b'
 ban:∀ z,s.Ban z→z < s.H.length∧¬ Own s z
 limH:s.lim≤s.H.length
 lm:∀ b B m,Qi s.L b=some B→s.μ b=some m→¬ s.Lim m.z
 lml:∀ z,s.Lim z→z < s.H.length
 kl:∀ z p,s.Kid z=some p→z < s.H.length∧p.1 < s.L.bl.length∧¬ s.Lim z∧∀ b B m,Qi s.L b=some B→s.μ b=some m→m.z≠z
 ka:∀ z p,s.Kid z=some p→∃ k,hget s.H z=some k
def CK (s s':S):Prop:=s.L.clk≤s'.L.clk∧(∀ c,c≤s.L.clk→s'.Old c=s.Old c)∧∀ c z,s.L.clk < c→c≤s'.L.clk→z < s.H.length→s.N z→s'.Old c z
theorem CK.same {s s':S} (h:s'.Old=s.Old) (g:s'.L.clk=s.L.clk):CK s s':=⟨by rw [g];exact Zd _,fun _ _=>by rw [h],fun c z h1 h2=>by omega⟩
structure Keep (s s':S):Prop where
 ban:s'.Ban=s.Ban
 ck:CK s s'
 lim:s'.lim=s.lim
 nb:s.L.bl.length≤s'.L.bl.length
 mu:∀ b,b < s.L.bl.length→s'.μ b=s.μ b
 len:s.H.length≤s'.H.length
 fr:∀ z,z < s.H.length→¬ Own s z→hget s'.H z=hget s.H z
 own:∀ z,Own s' z→Own s z∨s.H.length≤z
 live:∀ b B',b < s.L.bl.length→Qi s'.L b=some B'→∃ B,Qi s.L b=some B∧B.ver≤B'.ver∧(B.ver=B'.ver→B'=B∧(∀ m,s.μ b=some m→hget s'.H m.z=hget s.H m.z)∧∀ z i,s.Kid z=some (b,i)→s'.Kid z=some (b,i)∧hget s'.H z=hget s.H z)
theorem Qn {L:LS} {b:Nat} {B:VB} (h:Qi L b=some B):b < L.bl.length:=by
 unfold Qi at h
 rcases Nat.lt_or_ge b L.bl.length with g | g
 ·exact g
 ·rw [List.getElem?_eq_none g] at h;simp at h
theorem Keep.refl (s:S):Keep s s :=
 ⟨rfl,CK.same rfl rfl,rfl,Zd _,fun _ _=>rfl,Zd _,fun _ _ _=>rfl,fun _ h=>.inl h,fun b B' _ h=>⟨B',h,Zd _,fun _=>⟨rfl,fun _ _=>rfl,fun _ _ h=>⟨h,rfl⟩⟩⟩⟩
theorem Keep.N {s s':S} (h:Keep s s') {z:Nat} (hz:z < s.H.length) (hn:s.N z):s'.N z:=by
 refine ⟨fun ho=>?_,by rw [h.ban];exact hn.2⟩
 rcases h.own z ho with h1 | h1
 ·exact hn.1 h1
 ·omega
theorem Keep.trans {s t u:S} (h:Keep s t) (g:Keep t u):Keep s u:=by
 refine ⟨g.ban.trans h.ban,⟨Nat.le_trans h.ck.1 g.ck.1,fun c hc=>(g.ck.2.1 c (Nat.le_trans hc h.ck.1)).trans (h.ck.2.1 c hc),fun c z h1 h2 h3 h4=>?_⟩,g.lim.trans h.lim,Nat.le_trans h.nb g.nb,fun b hb=>?_,Nat.le_trans h.len g.len,fun z hz hn=>?_,fun z hz=>?_,fun b B' hb hB=>?_⟩
 ·rcases Nat.lt_or_ge t.L.clk c with h5 | h5
  ·exact g.ck.2.2 c z h5 h2 (Zm h3 h.len) (h.N h3 h4)
  ·rw [g.ck.2.1 c h5];exact h.ck.2.2 c z h1 h5 h3 h4
 ·rw [g.mu b (Zm hb h.nb),h.mu b hb]
 ·rw [g.fr z (Zm hz h.len) (fun ho=>by rcases h.own z ho with h1 | h1;exact hn h1;omega),h.fr z hz hn]
 ·rcases g.own z hz with h1 | h1
  ·exact h.own z h1
  ·exact .inr (Nat.le_trans h.len h1)
 ·obtain ⟨B1,h1,v1,e1⟩:=g.live b B' (Zm hb h.nb) hB
  obtain ⟨B0,h0,v0,e0⟩:=h.live b B1 hb h1
  refine ⟨B0,h0,Nat.le_trans v0 v1,fun e=>?_⟩
  have ea:B0.ver=B1.ver:=by omega
  have eb:B1.ver=B'.ver:=by omega
  obtain ⟨x1,x2,x3⟩:=e0 ea
  obtain ⟨y1,y2,y3⟩:=e1 eb
  exact ⟨y1.trans x1,fun m hm=>(y2 m (by rw [h.mu b hb];exact hm)).trans (x2 m hm),fun z i hz=>⟨(y3 z i (x3 z i hz).1).1,(y3 z i (x3 z i hz).1).2.trans (x3 z i hz).2⟩⟩
theorem Keep.NN {s s':S} (h:Keep s s') {st z:Nat} (hz:z < s.H.length) (hn:s.NN st z):s'.NN st z :=
 ⟨h.N hz hn.1,fun c h1 h2=>by
  rcases Nat.lt_or_ge s.L.clk c with h5 | h5
  ·exact h.ck.2.2 c z h5 h2 hz hn.1
  ·rw [h.ck.2.1 c h5];exact hn.2 c h1 h5⟩
theorem Keep.rep {s s':S} (h:Keep s s') {st:Nat} {t:Ty} {x:t.T} {cs:List Value} (r:Rep (s.NN st) s.H t x cs):Rep (s'.NN st) s'.H t x cs :=
 Rep.frame (fun z hz hl=>⟨h.NN hl hz,h.fr z hl hz.1.1⟩) t r
theorem Keep.repN {s s':S} (h:Keep s s') {t:Ty} {x:t.T} {cs:List Value} (r:Rep s.N s.H t x cs):Rep s'.N s'.H t x cs :=
 Rep.frame (fun z hz hl=>⟨h.N hl hz,h.fr z hl hz.1⟩) t r
theorem Keep.LR0 {s s':S} (h:Keep s s'):∀ {p:PV} {v:Value},LR0 s p v→LR0 s' p v:=by
 intro p v r
 cases p with
 | ro st t x=>exact h.rep (t:=.sl t) r
 | rp st t x =>
  obtain ⟨z,o,k,e,hn,hk,hl,hr⟩:=r
  have hz:=Qs hk
  exact ⟨z,o,k,e,h.NN hz hn,by rw [h.fr z hz hn.1.1];exact hk,hl,h.rep hr⟩
 | osl b off n=>obtain ⟨hb,r⟩:=r;exact ⟨Zm hb h.nb,by rw [h.mu b hb];exact r⟩
 | ep b j fo=>obtain ⟨hb,r⟩:=r;exact ⟨Zm hb h.nb,by rw [h.mu b hb];exact r⟩
 | ptr b off=>obtain ⟨hb,r⟩:=r;exact ⟨Zm hb h.nb,by rw [h.mu b hb];exact r⟩
 | mp b=>obtain ⟨hb,r⟩:=r;exact ⟨Zm hb h.nb,by rw [h.mu b hb];exact r⟩
 | dp b off n u k=>obtain ⟨hb,r⟩:=r;exact ⟨Zm hb h.nb,by rw [h.mu b hb];exact r⟩
 | rw b i ver t x =>
  obtain ⟨hb,hs,r⟩:=r
  refine ⟨Zm hb h.nb,hs,fun B' hB'=>?_⟩
  obtain ⟨B,g1,g2,g3⟩:=h.live b B' hb hB'
  obtain ⟨r1,r2⟩:=r B g1
  refine ⟨Nat.le_trans r1 g2,fun e=>?_⟩
  obtain ⟨k1,k2,k3⟩:=g3 (by omega)
  obtain ⟨r3,r4,r5⟩:=r2 (by omega)
  refine ⟨r3,by rw [h.lim];exact r4.mono r3 (fun z hz=>k3 z i hz),fun B2 e2 xs h2 m k hb2 hbody hm2 hk2 y hy=>?_⟩
  have:B2=B:=by rw [hB'] at hb2;injection hb2 with hb2;rw [← hb2,k1]
  subst this
  rw [h.mu b hb] at hm2
  rw [k2 m hm2] at hk2
  exact r5 B2 e2 xs h2 m k g1 hbody hm2 hk2 y hy
 | rq b ver t x =>
  obtain ⟨hb,hs,r⟩:=r
  refine ⟨Zm hb h.nb,hs,fun B' hB'=>?_⟩
  obtain ⟨B,g1,g2,g3⟩:=h.live b B' hb hB'
  obtain ⟨r1,r2⟩:=r B g1
  refine ⟨Nat.le_trans r1 g2,fun e=>?_⟩
  obtain ⟨_,_,k3⟩:=g3 (by omega)
  obtain ⟨z,o,k,i,e1,e2,e3,e4,e5⟩:=r2 (by omega)
  exact ⟨z,o,k,i,e1,(k3 z i e2).1,by rw [(k3 z i e2).2];exact e3,e4,Rep.frame (fun _ hz _=>absurd hz id) t e5⟩
 | _=>exact r
theorem Keep.LRs {s s':S} (h:Keep s s') {cs:List PV} {vs:List Value} (r:LRs s cs vs):LRs s' cs vs:=Qw.mono (fun _ _=>h.LR0) r
theorem Keep.AR {s s':S} (h:Keep s s'):∀ {p:PV} {v:Value},AR s p v→AR s' p v:=by
 intro p v r
 cases p with
 | agg cs=>obtain ⟨vs,e,r⟩:=r;exact ⟨vs,e,h.LRs r⟩
 | fn f a b=>obtain ⟨x,y,e,r1,r2⟩:=r;exact ⟨x,y,e,h.LRs r1,h.LRs r2⟩
 | undef=>exact r
 | tup cs=>exact absurd r id
 | _=>(simp only [Pv.AR] at r ⊢;exact h.LR0 r)
theorem Keep.ER {s s':S} (h:Keep s s'):∀ {p:PV} {v:Value},ER s p v→ER s' p v:=by
 intro p v r
 cases p with
 | tup cs=>obtain ⟨vs,e,r⟩:=r;exact ⟨vs,e,Qw.mono (fun _ _=>h.AR) r⟩
 | _=>(simp only [Pv.ER] at r ⊢;exact h.AR r)
theorem Keep.env {s s':S} (h:Keep s s') {env:Q0n} {e:Env} (r:Q25 s env e):Q25 s' env e:=by
 intro q
 have:=r q
 split at this
 ·exact this
 ·obtain ⟨v,e1,e2⟩:=this;exact ⟨v,e1,h.ER e2⟩
theorem Q25.cons {s:S} {env:Q0n} {e:Env} (r:Q25 s env e) {d:Nat} {p:PV} {v:Value} (h:ER s p v):Q25 s ((d,p)::env) ((d,v)::e):=by
 intro q
 simp only [Q3c,Q2e]
 cases Nat.beq d q with
 | true=>exact ⟨v,rfl,h⟩
 | false=>exact r q
theorem Q25.get {s:S} {env:Q0n} {e:Env} (r:Q25 s env e) {q:Nat} {p:PV} (h:Q3c env q=some p):∃ v,Q2e e q=some v∧ER s p v:=by
 have:=r q;rw [h] at this;exact this
theorem AR.of {s:S} {p:PV} {v:Value} (h:LR0 s p v):AR s p v:=by
 cases p<;>first | exact h | exact absurd h id
theorem ER.of {s:S} {p:PV} {v:Value} (h:AR s p v):ER s p v:=by
 cases p<;>first | exact h | exact absurd h id
theorem ER.of0 {s:S} {p:PV} {v:Value} (h:LR0 s p v):ER s p v:=ER.of (AR.of h)
theorem AR.cells {s:S} {p:PV} {v:Value} (h:AR s p v) (hn:∀ f a b,p≠.fn f a b) (hu:p≠.undef):LRs s (Q2c p) v.cells.toList:=by
 cases p with
 | agg cs=>obtain ⟨vs,rfl,r⟩:=h;exact r
 | fn f a b=>exact absurd rfl (hn f a b)
 | undef=>exact absurd rfl hu
 | int k n=>obtain rfl:=h;exact ⟨rfl,trivial⟩
 | bool b=>obtain rfl:=h;exact ⟨rfl,trivial⟩
 | str b=>obtain rfl:=h;exact ⟨rfl,trivial⟩
 | nil=>obtain rfl:=h;exact ⟨rfl,trivial⟩
 | nilp=>obtain rfl:=h;exact ⟨rfl,trivial⟩
 | tup cs=>exact absurd h id
 | ro st t x =>
  have h':Rep (s.NN st) s.H (.sl t) x [v]:=h
  have:v.cells.toList=[v]:=by
   unfold Rep at h'
   rcases h' with ⟨_,e⟩ | ⟨_,_,_,e⟩ | ⟨_,_,_,e,_⟩<;>(simp at e;subst e;rfl)
  rw [this];exact ⟨h,trivial⟩
 | rp st t x =>
  obtain ⟨z,o,k,rfl,r⟩:=id h
  exact ⟨h,trivial⟩
 | osl b off n =>
  have:v.cells.toList=[v]:=by
   have h':=h
   obtain ⟨_,r⟩:=h'
   split at r
   ·rw [r.2.2];rfl
   ·rw [r.2];rfl
  rw [this];exact ⟨h,trivial⟩
 | ep b j fo =>
  obtain ⟨_,m,_,rfl⟩:=id h
  exact ⟨h,trivial⟩
 | ptr b off =>
  obtain ⟨_,m,_,_,rfl⟩:=id h
  exact ⟨h,trivial⟩
 | mp b =>
  obtain ⟨_,m,_,rfl⟩:=id h
  exact ⟨h,trivial⟩
 | dp b off n u k =>
  obtain ⟨_,m,_,_,rfl⟩:=id h
  exact ⟨h,trivial⟩
 | rw b i ver t x =>
  have:v.cells.toList=[v]:=by
   obtain ⟨_,r,_⟩:=id h
   rcases r with ⟨_,rfl⟩ | ⟨_,_,rfl⟩<;>rfl
  rw [this];exact ⟨h,trivial⟩
 | rq b ver t x =>
  obtain ⟨_,⟨_,_,rfl⟩,_⟩:=id h
  exact ⟨h,trivial⟩
 | hole =>
  have h:isCell v=true∧Qa v v=true:=h
  have h':=h.1
  have:v.cells.toList=[v]:=by cases v<;>first | rfl | simp [isCell] at h'
  rw [this];exact ⟨h,trivial⟩
theorem LR0.cell {s:S} {p:PV} {v:Value} (h:LR0 s p v):isCell v=true:=by
 cases p with
 | int k n=>obtain rfl:=h;rfl
 | bool b=>obtain rfl:=h;rfl
 | str b=>obtain rfl:=h;rfl
 | nil=>obtain rfl:=h;rfl
 | nilp=>obtain rfl:=h;rfl
 | ro st t x=>exact Rep.cell (.sl t) h v (by simp)
 | rp st t x=>obtain ⟨z,o,k,rfl,r⟩:=id h;rfl
 | osl b off n =>
  obtain ⟨_,r⟩:=id h
  split at r
  ·rw [r.2.2];rfl
  ·rw [r.2];rfl
 | ep b j fo=>obtain ⟨_,m,_,rfl⟩:=id h;rfl
 | ptr b off=>obtain ⟨_,m,_,_,rfl⟩:=id h;rfl
 | mp b=>obtain ⟨_,m,_,rfl⟩:=id h;rfl
 | dp b off n u k=>obtain ⟨_,m,_,_,rfl⟩:=id h;rfl
 | hole=>exact h.1
 | rw b i ver t x=>obtain ⟨_,r,_⟩:=id h;rcases r with ⟨_,rfl⟩ | ⟨_,_,rfl⟩<;>rfl
 | rq b ver t x=>obtain ⟨_,⟨_,_,rfl⟩,_⟩:=id h;rfl
 | fn f a b=>exact absurd h id
 | agg cs=>exact absurd h id
 | tup cs=>exact absurd h id
 | undef=>exact absurd h id
theorem LRs.cell {s:S}:∀ {cs:List PV} {vs:List Value},LRs s cs vs→∀ v∈vs,isCell v=true
 | [],[],_=>by simp
 | p::r,v::w,h=>by
  intro u hu
  rcases Z2 hu with rfl | hu
  ·exact h.1.cell
  ·exact LRs.cell h.2 u hu
theorem Q61 (H:Heap) (c:List Value):(Q0d H c).length=H.length+1:=by simp [Q0d]
theorem Q35 {H:Heap} {c:List Value} {z:Nat} (h:z < H.length):hget (Q0d H c) z=hget H z:=by
 unfold hget Q0d;rw [List.getElem?_append_left h]
theorem Q29 (H:Heap) (c:List Value):hget (Q0d H c) H.length=some ⟨c,false,none⟩:=by
 unfold hget Q0d;simp
theorem Q6y {H:Heap} {b:Nat} {x:Option Blk} (h:b < H.length):hget (H.set b x) b=x:=by
 cases x<;>simp [hget,h]
theorem Qh {H:Heap} {b c:Nat} {x:Option Blk} (h:b≠c):hget (H.set b x) c=hget H c:=by
 unfold hget;rw [List.getElem?_set_ne h]
theorem Qz {L:LS} {B:Body} {b:Nat} (h:b < L.bl.length):Qi (Qv L B) b=Qi L b:=by
 unfold Qi Qv;simp only;rw [List.getElem?_append_left h]
theorem Q0l (L:LS) (B:Body):Qi (Qv L B) L.bl.length=some ⟨0,true,B⟩:=by
 unfold Qi Qv;simp
theorem Q06 {L:LS} {B:Body} {b:Nat} (h:L.bl.length < b):Qi (Qv L B) b=none:=by
 unfold Qi Qv;simp only;rw [List.getElem?_eq_none (by simp;omega)]
theorem Qk (L:LS) (B:Body):(Qv L B).bl.length=L.bl.length+1:=by simp [Qv]
theorem Qq {L:LS} {b:Nat} {B:VB} (h:b < L.bl.length):Qi (Q2h L b B) b=some B:=by
 unfold Qi Q2h;simp [h]
theorem Q0i {L:LS} {b c:Nat} {B:VB} (h:b≠c):Qi (Q2h L b B) c=Qi L c:=by
 unfold Qi Q2h;simp only;rw [List.getElem?_set_ne h]
theorem Q0t (L:LS) (b:Nat) (B:VB):(Q2h L b B).bl.length=L.bl.length:=by simp [Q2h]
theorem Qcq {L:LS} {b:Nat}:Qi (Q53 L b) b=none:=by
 unfold Qi Q53;simp only
 rcases Nat.lt_or_ge b L.bl.length with h | h
 ·simp [h]
 ·rw [List.getElem?_eq_none (by simpa using h)]
theorem Q62 {L:LS} {b c:Nat} (h:b≠c):Qi (Q53 L b) c=Qi L c:=by
 unfold Qi Q53;simp only;rw [List.getElem?_set_ne h]
theorem Q36 (L:LS) (b:Nat):(Q53 L b).bl.length=L.bl.length:=by simp [Q53]
theorem Qr {L:LS} {b c:Nat} {B:VB} (h:Qi (Q53 L b) c=some B):b≠c∧Qi L c=some B:=by
 by_cases e:b=c
 ·subst e;rw [Qcq] at h;simp at h
 ·rw [Q62 e] at h;exact ⟨e,h⟩
def S.mu1 (μ:Nat→Option MB) (b:Nat) (m:Option MB):Nat→Option MB:=fun c=>if c=b then m else μ c
theorem S.mu1_self (μ:Nat→Option MB) (b:Nat) (m:Option MB):S.mu1 μ b m b=m:=by simp [S.mu1]
theorem S.mu1_ne {μ:Nat→Option MB} {b c:Nat} {m:Option MB} (h:c≠b):S.mu1 μ b m c=μ c:=by simp [S.mu1,h]
end Go.Pv
