/-
  A deterministic abstract interpreter over the model's own code (definitions only): abstract blocks by position, values with abstract block numbers. And what stood behind it in 6 texts.
  Conditions: said at the theorems.
-/
import Derived.Calls
import Derived.Orders
import Derived.Laws.StructEq
import Derived.Laws.Tables
import Derived.Laws.IdiomCopy
import Derived.Laws.Entries
import Derived.Laws.Small
import Derived.Laws.Strings
set_option linter.unusedVariables false
namespace Go.Ev
set_option linter.defProp false
def Z0 {α : Type _} {l : List α} {i : Nat} {a : α}:=(List.getElem?_eq_some_iff (l:=l) (i:=i) (a:=a)).1
def Z1 {α : Type _} {l : List α}:=(List.length_eq_zero_iff (l:=l)).1
def Z2 {α : Type _} {a b : α} {l : List α}:=(List.mem_cons (a:=a) (b:=b) (l:=l)).1
def Z3 {α : Type _} {l : List α} {p : α → Bool}:=(List.all_eq_true (l:=l) (p:=p)).1
def Z4:=@decide_eq_false
def Z5:=@decide_eq_true
def Z6:=@List.getElem?_eq_getElem
def Z7:=@Nat.eq_of_beq_eq_true
def Z8:=@Bool.and_eq_true
def Z9:=@List.length_cons
def Za:=@ByteArray.size_append
def Zb:=@List.length_nil
def Zc:=@List.mem_of_getElem?
def Zd:=@Nat.le_refl
def Ze:=@List.flatten_cons
def Zf:=@List.length_append
def Zg:=@Bool.true_and
def Zh:=@List.mem_append
def Zi:=@Nat.le_of_ble_eq_true
def Zj:=@decide_eq_true_eq
def Zk:=@Nat.mul_le_mul_right
def Zl:=@Bool.not_true
def Zm:=@Nat.lt_of_lt_of_le
def Zn:=@List.nodup_append
def Zo:=@Nat.zero_add
def Zp:=@List.getElem?_drop
def Zq:=@List.getElem?_append_right
def Zr:=@List.getD_eq_getElem?_getD
def Zs:=@List.take_of_length_le
structure Blk where
 cells:List Value
 ro:Bool
 mp:Option (List (Int×Int))
abbrev Env:=List (Nat×Value)
abbrev Heap:=List (Option Blk)
def Q1 {α β:Type} (x:Option α) (f:α→Option β):Option β :=
 match x with
 | some a=>f a
 | none=>none
def oif {β:Type} (b:Bool) (x y:Option β):Option β:=match b with | true=>x | false=>y
def Q2e:Env→Nat→Option Value
 | [],_=>none
 | (s,v)::r,t=>match Nat.beq s t with | true=>some v | false=>Q2e r t
def Qt:Value→Bool
 | .bool _ | .int _ _ | .string _ | .nilFunc | .nilIface | .pointer none=>true
 | .slice none 0 0=>true
 | _=>false
def Qmr:Value→Bool
 | .agg cs=>cs.toList.all Qt
 | .tuple cs=>cs.toList.all Qt
 | v=>Qt v
def isCell:Value→Bool
 | .agg _ | .tuple _=>false
 | _=>true
def hget (H:Heap) (b:Nat):Option Blk:=match H[b]? with | some (some k)=>some k | _=>none
def Q2f (H:Heap) (a:Addr):Option Value:=Q1 (hget H a.block) fun k=>k.cells[a.off]?
def Qx (H:Heap) (a:Addr) (n:Nat):Option (List Value) :=
 Q1 (hget H a.block) fun k=>match Nat.ble (a.off+n) k.cells.length with | true=>some ((k.cells.drop a.off).take n) | false=>none
def Q0m (H:Heap) (a:Addr) (n:Nat):Option (List Value):=match n with | 0=>some [] | m+1=>Qx H a (m+1)
def Q16 (l:List Value) (off:Nat) (vs:List Value):List Value:=l.take off++vs++l.drop (off+vs.length)
def Q1u (H:Heap) (lim:Nat) (a:Addr) (vs:List Value):Option Heap :=
 Q1 (hget H a.block) fun k =>
  match k.ro,vs.all isCell,vs.all Qt || Nat.ble lim a.block,Nat.ble (a.off+vs.length) k.cells.length with
  | false,true,true,true=>some (H.set a.block (some { k with cells:=Q16 k.cells a.off vs }))
  | _,_,_,_=>none
def Q0d (H:Heap) (cells:List Value):Heap:=H++[some ⟨cells,false,none⟩]
def gN:Nat:=2
def gTabs:List (Nat×List Value):=[(0,[.string ⟨#[113,100,105,115,99]⟩,.string ⟨#[100,101,102,97,117,108,116]⟩,.string ⟨#[99,108,97,115,115]⟩,.string ⟨#[114,97,116,101]⟩,.string ⟨#[99,101,105,108]⟩,.string ⟨#[98,117,114,115,116]⟩,.string ⟨#[99,98,117,114,115,116]⟩,.string ⟨#[112,114,105,111]⟩,.string ⟨#[108,105,109,105,116]⟩,.string ⟨#[102,105,108,116,101,114]⟩,.string ⟨#[115,111,117,114,99,101]⟩,.string ⟨#[100,101,115,116]⟩,.string ⟨#[112,111,114,116]⟩,.string ⟨#[109,97,114,107]⟩]),(1,[.int .u64 1,.int .u64 10,.int .u64 100,.int .u64 1000,.int .u64 10000,.int .u64 100000,.int .u64 1000000,.int .u64 10000000,.int .u64 100000000,.int .u64 1000000000,.int .u64 10000000000,.int .u64 100000000000,.int .u64 1000000000000,.int .u64 10000000000000,.int .u64 100000000000000,.int .u64 1000000000000000,.int .u64 10000000000000000,.int .u64 100000000000000000,.int .u64 1000000000000000000,.int .u64 10000000000000000000])]
def Qjm:List (Nat×List Value)→Nat→Option (List Value)
 | [],_=>none
 | (a,l)::r,g=>match Nat.beq a g with | true=>some l | false=>Qjm r g
def Qci (P:Program) (t:TypeId) (x:Operand):Option Value:=match x with
 | .global g=>Q1 (Qjm gTabs g) fun l=>Q1 (P.info? t) fun i=>match P.underlying t with
  | some (.array _ _)=>match Nat.beq l.length i.size,l.all Qt with
   | true,true=>some (.agg l.toArray)
   | _,_=>none
  | _=>none
 | _=>none
theorem Qd2 {P:Program} {t:TypeId} {x:Operand} {v:Value} (h:Qci P t x=some v):∃ g l i n e,x=.global g∧Qjm gTabs g=some l∧P.info? t=some i∧P.underlying t=some (.array n e)∧l.length=i.size∧l.all Qt=true∧v=.agg l.toArray:=by
 have os:∀ {α γ:Type} {x:Option α} {f:α→Option γ} {r:γ},Q1 x f=some r→∃ a,x=some a∧f a=some r:=by
  intro α γ x f r h
  cases x with
  | none=>simp [Q1] at h
  | some a=>exact ⟨a,rfl,h⟩
 unfold Qci at h
 split at h
 ·rename_i g
  replace h:=os h;obtain ⟨l,hl,h⟩:=h
  replace h:=os h;obtain ⟨i,hi,h⟩:=h
  split at h
  ·rename_i n e hu
   split at h
   ·rename_i h1 h2
    injection h with h
    exact ⟨g,l,i,n,e,rfl,hl,hi,hu,Z7 h1,h2,h.symm⟩
   ·simp at h
  ·simp at h
 ·simp at h
section view
variable {β:Type}
def Qw5 (k:IntKind) (v:Value) (K:Int→Option β):Option β :=
 match v with
 | .int k' n=>if k'=k then K n else none
 | _=>none
def Qb2 (v:Value) (K:Bool→Option β):Option β:=match v with | .bool b=>K b | _=>none
def Qym (v:Value) (K:ByteArray→Option β):Option β:=match v with | .string b=>K b | _=>none
def vSl (v:Value) (K:Option Addr→Nat→Nat→Option β):Option β:=match v with | .slice a n c=>K a n c | _=>none
def Qyn (v:Value) (K:Option Addr→Option β):Option β:=match v with | .pointer a=>K a | _=>none
def Qyo (v:Value) (K:List Value→Option β):Option β:=match v with | .agg cs=>K cs.toList | _=>none
def Qyp (v:Value) (K:List Value→Option β):Option β:=match v with | .tuple cs=>K cs.toList | _=>none
def Qb3 (l:List Value) (K:Value→List Value→Option β):Option β:=match l with | v::r=>K v r | []=>none
def Qx1 (l:List Value) (K:Option β):Option β:=match l with | []=>K | _::_=>none
def vFn (v:Value) (K:FuncId→Array Value→Array Value→Option β):Option β:=match v with | .func (.func f) a b=>K f a b | _=>none
def Q5c (v:Value) (K:Addr→Option β):Option β:=match v with | .pointer (some p)=>K p | _=>none
def slS (v:Value) (K:Addr→Nat→Nat→Option β):Option β:=match v with | .slice (some p) n c=>K p n c | _=>none
def Qa2 (tm v:Value) (K:Value→Option β):Option β :=
 match tm with
 | .int k _=>Qw5 k v fun n=>K (.int k n)
 | .bool _=>Qb2 v fun b=>K (.bool b)
 | .string _=>Qym v fun s=>K (.string s)
 | .slice _ _ _=>vSl v fun a n c=>K (.slice a n c)
 | .pointer none=>Qyn v fun a=>K (.pointer a)
 | .pointer (some _)=>Q5c v fun p=>K (.pointer (some p))
 | .nilFunc=>vFn v fun f a b=>K (.func (.func f) a b)
 | _=>K v
def Qb4 (tms vs:List Value) (K:List Value→Option β):Option β :=
 match tms with
 | []=>Qx1 vs (K [])
 | t::ts=>Qb3 vs fun v r=>Qa2 t v fun v'=>Qb4 ts r fun l=>K (v'::l)
def Qa3 (tm v:Value) (K:Value→Option β):Option β :=
 match tm with
 | .agg cs=>Qyo v fun vs=>Qb4 cs.toList vs fun l=>K (.agg l.toArray)
 | t=>Qa2 t v K
def Qb5 (tms vs:List Value) (K:List Value→Option β):Option β :=
 match tms with
 | []=>Qx1 vs (K [])
 | t::ts=>Qb3 vs fun v r=>Qa3 t v fun v'=>Qb5 ts r fun l=>K (v'::l)
def Qh8 (tm v:Value) (K:Value→Option β):Option β :=
 match tm with
 | .tuple ts=>Qyp v fun vs=>Qb5 ts.toList vs fun l=>K (.tuple l.toArray)
 | t=>Qa3 t v K
end view
def Q6s (P:Program) (t:TypeId):Option Value:=Q1 (P.info? t) fun i=>i.zero
def Qp9 (P:Program):List TypeId→Option (List Value)
 | []=>some []
 | t::ts=>Q1 (Q6s P t) fun z=>Q1 (Qp9 P ts) fun l=>some (z::l)
def Qlb (P:Program) (t:TypeId):Option Value :=
 Q1 (P.info? t) fun i=>match i.desc with
  | .tuple ts=>Q1 (Qp9 P ts.toList) fun l=>some (.tuple l.toArray)
  | _=>i.zero
structure Cx where
 P:Program
 call:FuncId→List Value→Nat→Heap→Option (Value×Heap)
 lim:Nat
 nt:Nat
 fuel:Nat
 ann:Nat→List (Nat×Value)
def ev (env:Env):Operand→Option Value
 | .tmp t=>Q2e env t
 | .const v=>match Qmr v with | true=>some v | false=>none
 | .func f=>some (.func (.func f) #[] #[])
 | .global _=>none
def evs (env:Env):List Operand→Option (List Value)
 | []=>some []
 | x::r=>Q1 (ev env x) fun v=>Q1 (evs env r) fun l=>some (v::l)
def Q1n (env:Env):List (Nat×Operand)→Option (List (Nat×Value))
 | []=>some []
 | (i,x)::r=>Q1 (ev env x) fun v=>Q1 (Q1n env r) fun l=>some ((i,v)::l)
def Q27 (P:Program) (t:TypeId) (cs:Array Value) (off:Nat):Option Value :=
 Q1 (P.info? t) fun i=>match P.underlying t with
  | some (.struct _) | some (.array _ _)=>some (.agg (cs.extract off (off+i.size)))
  | some _=>cs[off]?
  | none=>none
def Qx2 (eq:TypeId→Value→Value→Option Bool) (P:Program) (xs ys:Array Value):List Field→Option Bool
 | []=>some true
 | f::fs =>
  if f.name = "_" then none else
  Q1 (Q27 P f.type xs f.offset) fun a=>Q1 (Q27 P f.type ys f.offset) fun b =>
   Q1 (eq f.type a b) fun r=>Q1 (Qx2 eq P xs ys fs) fun q=>some (r&&q)
def eqA (P:Program):Nat→TypeId→Value→Value→Option Bool
 | 0,_,_,_=>none
 | d+1,t,x,y=>match P.underlying t,x,y with
  | some .bool,.bool a,.bool b=>some (a==b)
  | some (.int _),.int k a,.int k' b=>if k=k' then some (a==b) else none
  | some .string,.string a,.string b=>some (a.toList==b.toList)
  | some (.struct fs),.agg xs,.agg ys=>match P.stoodInHeld t with
   | false=>Qx2 (eqA P d) P xs ys fs.toList
   | true=>none
  | _,_,_=>none
section ops
variable {β:Type}
def Qpa (op:BinOp) (k:IntKind) (a b:Int) (K:Value→Option β):Option β :=
 match op with
 | .add=>K (.int k (k.wrap (a+b)))
 | .sub=>K (.int k (k.wrap (a - b)))
 | .mul=>K (.int k (k.wrap (a*b)))
 | .quo=>oif (b==0) none (K (.int k (k.wrap (a.tdiv b))))
 | .rem=>oif (b==0) none (K (.int k (a.tmod b)))
 | .and=>K (.int k (k.wrap (BitVec.ofInt k.bits a &&& BitVec.ofInt k.bits b).toNat))
 | .or=>K (.int k (k.wrap (BitVec.ofInt k.bits a ||| BitVec.ofInt k.bits b).toNat))
 | .xor=>K (.int k (k.wrap (BitVec.ofInt k.bits a ^^^ BitVec.ofInt k.bits b).toNat))
 | .andNot=>K (.int k (k.wrap (BitVec.ofInt k.bits a &&& ~~~BitVec.ofInt k.bits b).toNat))
 | .eql=>K (.bool (a==b))
 | .neq=>K (.bool (a != b))
 | .lss=>K (.bool (decide (a < b)))
 | .leq=>K (.bool (decide (a≤b)))
 | .gtr=>K (.bool (decide (a > b)))
 | .geq=>K (.bool (decide (a≥b)))
 | _=>none
def Q93 (op:BinOp) (k:IntKind) (a b:Int) (K:Value→Option β):Option β :=
 oif (decide (b < 0)) none (match op with
  | .shl=>K (.int k (k.wrap (a*2 ^ (min b.toNat k.bits))))
  | .shr=>K (.int k (a.fdiv (2 ^ (min b.toNat k.bits))))
  | _=>none)
def Qpb (op:BinOp) (a b:ByteArray) (K:Value→Option β):Option β :=
 match op with
 | .add=>oif (Nat.ble (a.size+b.size) 9223372036854775807) (K (.string (a++b))) none
 | .eql=>K (.bool (a.toList==b.toList))
 | .neq=>K (.bool !(a.toList==b.toList))
 | .lss=>K (.bool (Op.bytesLess a.toList b.toList))
 | .leq=>K (.bool (Op.bytesLess a.toList b.toList || a.toList==b.toList))
 | .gtr=>K (.bool !(Op.bytesLess a.toList b.toList || a.toList==b.toList))
 | .geq=>K (.bool !(Op.bytesLess a.toList b.toList))
 | _=>none
def Qms (op:BinOp) (r:Bool) (K:Value→Option β):Option β :=
 match op with
 | .eql=>K (.bool r)
 | .neq=>K (.bool !r)
 | _=>none
def Qpc (P:Program) (op:BinOp) (t:TypeId) (x y:Value) (K:Value→Option β):Option β :=
 match x,y with
 | .int k a,.int k' b=>match op with
  | .shl=>Q93 .shl k a b K
  | .shr=>Q93 .shr k a b K
  | op=>if k=k' then Qpa op k a b K else none
 | .string a,.string b=>Qpb op a b K
 | .bool a,.bool b=>match P.underlying t with
  | some .bool=>Qms op (a==b) K
  | _=>none
 | .agg xs,.agg ys=>match P.eqGuardType P.depth t with
  | false=>Q1 (eqA P 20 t (.agg xs) (.agg ys)) fun r=>Qms op r K
  | true=>none
 | .slice a _ _,.slice none _ _=>match P.underlying t with
  | some (.slice _)=>Qms op a.isNone K
  | _=>none
 | .pointer a,.pointer none=>match P.underlying t with
  | some (.pointer _)=>Qms op a.isNone K
  | _=>none
 | _,_=>none
def unA (op:UnOp) (x:Value) (K:Value→Option β):Option β :=
 match op,x with
 | .not,.bool b=>K (.bool !b)
 | .neg,.int k n=>K (.int k (k.wrap (0 - n)))
 | _,_=>none
def Q5l:List Value→Option (List UInt8)
 | []=>some []
 | .int .u8 n::r=>Q1 (Q5l r) fun l=>some (UInt8.ofNat n.toNat::l)
 | _=>none
def Qf (H:Heap) (size:Nat) (v:Value):Option (List Value) :=
 match v with
 | .slice none 0 0=>some []
 | .slice (some a) n _=>Q0m H a (n*size)
 | _=>none
def Qmt (P:Program) (src dst:TypeId) (x:Value) (H:Heap) (K:Value→Heap→Option β):Option β :=
 match P.underlying src,P.underlying dst,x with
 | some (.int _),some (.int k),.int _ n=>K (.int k (k.wrap n)) H
 | some .string,some .string,.string s=>K (.string s) H
 | some (.slice e),some .string,.slice a n c=>match P.underlying e with
  | some (.int .u8)=>Q1 (Qf H 1 (.slice a n c)) fun l=>Q1 (Q5l l) fun bs=>K (.string ⟨bs.toArray⟩) H
  | _=>none
 | some .string,some (.slice e),.string s=>match P.underlying e with
  | some (.int .u8)=>K (.slice (some ⟨H.length,0,none⟩) s.size 1) (Q0d H (s.data.toList.map fun b=>.int .u8 b.toNat))
  | _=>none
 | _,_,_=>none
def Q1v (P:Program) (t:TypeId):Option (TypeId×Nat×Nat×Value) :=
 match P.underlying t with
 | some (.slice e)=>Q1 (P.info? e) fun i=>Q1 i.zero fun z=>match z.cells.toList.all Qt,Nat.beq z.cells.size i.size,Nat.ble 1 i.bytes with
  | true,true,true=>some (e,i.size,i.bytes,z)
  | _,_,_=>none
 | _=>none
def Qjn (P:Program) (t:TypeId) (parts:List (Nat×Value)):Option (Array Value) :=
 Q1 (Q6s P t) fun z=>match z.cells.toList.all Qt with
  | true=>P.built t parts
  | false=>none
def Q7:Nat:=140737488355328
def Q28 (size bytes:Nat) (s:Value) (news:List Value) (n:Nat) (H:Heap):Option (Value×Heap) :=
 match s with
 | .slice none 0 0=>match n with
  | 0=>some (.slice none 0 0,H)
  | m+1=>oif (Nat.ble ((m+1)*bytes) Q7) (some (.slice (some ⟨H.length,0,none⟩) (m+1) size,Q0d H news)) none
 | .slice (some a) len c=>Q1 (hget H a.block) fun k =>
  oif (!k.ro&&Nat.beq c size&&Nat.ble (a.off+len*size) k.cells.length&&Nat.ble ((len+n)*bytes) Q7)
   (some (.slice (some ⟨H.length,0,none⟩) (len+n) size,Q0d (H.set a.block none) ((k.cells.take (a.off+len*size)).drop a.off++news))) none
 | _=>none
def Q4s (size bytes:Nat) (s:Value) (news:List Value) (n:Nat) (H:Heap) (K:Value→Heap→Option β):Option β :=
 Q1 (Q28 size bytes s news n H) fun r=>vSl r.1 fun a n c=>K (.slice a n c) r.2
def Qjo (lim size:Nat) (a:Addr) (n:Nat) (src:Value) (H:Heap):Option (Nat×Heap) :=
 match src with
 | .slice none 0 0=>Q1 (Q1u H lim a []) fun H'=>some (0,H')
 | .slice (some b) m _=>Q1 (Q0m H b (min m n*size)) fun l=>Q1 (Q1u H lim a l) fun H'=>some (min m n,H')
 | .string q=>match size with
  | 1=>Q1 (Q1u H lim a ((q.data.toList.map fun b=>.int .u8 b.toNat).take n)) fun H'=>some (min q.size n,H')
  | _=>none
 | _=>none
def Q1e (a:Option Addr) (n c l h size:Nat):Option Value :=
 match a with
 | none=>oif (Nat.ble l h&&Nat.ble h 0&&Nat.beq n 0&&Nat.beq c 0) (some (.slice none 0 0)) none
 | some p=>oif (Nat.ble l h&&Nat.ble h n&&Nat.beq c size) (some (.slice (some ⟨p.block,p.off+l*size,none⟩) (h - l) c)) none
def Q05 (P:Program) (lim:Nat) (b:Builtin) (ts:List TypeId) (vs:List Value) (H:Heap) (K:Value→Heap→Option β):Option β :=
 match b,ts,vs with
 | .len,[t],[.slice _ n _]=>match P.underlying t with
  | some (.slice _)=>K (.int .i64 n) H
  | _=>none
 | .len,[t],[.string s]=>match P.underlying t with
  | some .string=>K (.int .i64 s.size) H
  | _=>none
 | .cap,[t],[.slice none 0 0]=>match P.underlying t with
  | some (.slice _)=>K (.int .i64 0) H
  | _=>none
 | .min,_,[.int k x,.int k' y]=>if k=k' then K (.int k (if y < x then y else x)) H else none
 | .max,_,[.int k x,.int k' y]=>if k=k' then K (.int k (if y > x then y else x)) H else none
 | .append,[t,u],[s,x]=>Q1 (Q1v P t) fun (_,size,bytes,z)=>match P.underlying u,x with
  | some (.slice _),.slice a n c=>Q1 (Qf H size (.slice a n c)) fun news=>Q4s size bytes s news n H K
  | some .string,.string q=>match size with
   | 1=>Q4s 1 bytes s (q.data.toList.map fun b=>.int .u8 b.toNat) q.size H K
   | _=>none
  | some (.int _),.int _ l=>oif (decide (0≤l)&&decide (l*bytes≤Q7)) (Q4s size bytes s ((List.replicate l.toNat z.cells.toList).flatten) l.toNat H K) none
  | _,_=>none
 | .copy,[t,_],[.slice none 0 0,.slice _ _ _]=>Q1 (Q1v P t) fun _=>K (.int .i64 0) H
 | .copy,[t,_],[.slice none 0 0,.string _]=>Q1 (Q1v P t) fun _=>K (.int .i64 0) H
 | .copy,[t,_],[d,src]=>Q1 (Q1v P t) fun (_,size,_,_)=>slS d fun a n _=>Q1 (Qjo lim size a n src H) fun r=>K (.int .i64 r.1) r.2
 | _,_,_=>none
def Qa4 (v:Value) (K:Nat→Option β):Option β:=match v with | .int .i64 n=>oif (decide (0≤n)) (K n.toNat) none | _=>none
def Quh (v:Value) (K:Nat→Option β):Option β:=match v with | .int _ n=>oif (decide (0≤n)) (K n.toNat) none | _=>none
def Q17 (env:Env) (x:Option Operand) (d:Nat) (K:Nat→Option β):Option β :=
 match x with
 | none=>K d
 | some y=>Q1 (ev env y) fun v=>Qa4 v K
def Q38 (X:Cx) (o:Oper) (env:Env) (H:Heap) (K:Value→Heap→Option β):Option β :=
 match o.op with
 | .move x=>Q1 (ev env x) fun v=>K v H
 | .assign x=>Q1 (ev env x) fun v=>K v H
 | .pick c a b=>Q1 (ev env c) fun v=>Qb2 v fun t=>oif t (Q1 (ev env a) fun v=>K v H) (Q1 (ev env b) fun v=>K v H)
 | .alloc t=>Q1 (Q6s X.P t) fun z=>match z.cells.toList.all Qt with
  | true=>K (.pointer (some ⟨H.length,0,none⟩)) (Q0d H z.cells.toList)
  | false=>none
 | .box _ x=>Q1 (ev env x) fun v=>match v.cells.toList.all isCell with
  | true=>K (.pointer (some ⟨H.length,0,none⟩)) (Q0d H v.cells.toList)
  | false=>none
 | .build t parts=>Q1 (Q1n env parts.toList) fun ps=>Q1 (Qjn X.P t ps) fun cs=>K (.agg cs) H
 | .buildSlice t len parts=>Q1 (Q1n env parts.toList) fun ps=>Q1 (Q1v X.P t) fun (_,size,_,z) =>
  match Nat.ble (len*size) 16777216 with
  | true=>Q1 (Instr.fill (fun i=>some (i*size,size)) ((List.replicate len z.cells.toList).flatten.toArray) ps) fun cs =>
   match cs.toList.all isCell,Nat.beq cs.size (len*size) with
   | true,true=>K (.slice (some ⟨H.length,0,none⟩) len size) (Q0d H cs.toList)
   | _,_=>none
  | false=>none
 | .load t a=>match Qci X.P t a with
  | some v=>K v H
  | none=>Q1 (ev env a) fun v=>Q5c v fun p=>Q1 (X.P.info? t) fun i=>match X.P.underlying t with
   | some (.struct _) | some (.array _ _)=>Q1 (Qx H p i.size) fun l=>match i.zero with
    | some z=>Qa3 z (.agg l.toArray) fun u=>K u H
    | none=>none
   | some _=>Q1 (Q2f H p) fun u=>match i.zero with
    | some z=>Qa2 z u fun u=>K u H
    | none=>none
   | none=>none
 | .store t a x=>Q1 (ev env a) fun v=>Q1 (ev env x) fun u=>Q5c v fun p=>Q1 (X.P.info? t) fun i=>match Nat.beq u.cells.size i.size with
  | true=>Q1 (Q1u H X.lim p u.cells.toList) fun H'=>K undef H'
  | false=>none
 | .nilCheck x=>Q1 (ev env x) fun v=>match v with
  | .func (.func f) a b=>K (.func (.func f) a b) H
  | v=>Q5c v fun p=>K (.pointer (some p)) H
 | .binOp op t x y _=>Q1 (ev env x) fun v=>Q1 (ev env y) fun u=>Qpc X.P op t v u fun r=>K r H
 | .unOp op _ x=>Q1 (ev env x) fun v=>unA op v fun r=>K r H
 | .convert src dst x=>Q1 (ev env x) fun v=>Qmt X.P src dst v H K
 | .makeFunc (.func f) first cap=>Q1 (evs env first.toList) fun fs=>Q1 (evs env cap.toList) fun cs=>K (.func (.func f) fs.toArray cs.toArray) H
 | .makeSlice t l c=>Q1 (ev env l) fun v=>Q1 (ev env c) fun u=>Qa4 v fun n=>Qa4 u fun m =>
  Q1 (Q1v X.P t) fun (_,size,bytes,z)=>oif (Nat.ble n m&&Nat.ble (m*bytes) Q7)
   (K (.slice (some ⟨H.length,0,none⟩) n size) (Q0d H ((List.replicate n z.cells.toList).flatten))) none
 | .slice t x lo hi none=>Q1 (ev env x) fun v=>match v with
  | .slice a n c=>match X.P.underlying t with
   | some (.slice e)=>Q1 (X.P.info? e) fun i=>Q17 env hi n fun h=>Q17 env lo 0 fun l =>
    Q1 (Q1e a n c l h i.size) fun u=>vSl u fun a n c=>K (.slice a n c) H
   | _=>none
  | .string s=>match X.P.underlying t with
   | some .string=>Q17 env hi s.size fun h=>Q17 env lo 0 fun l=>oif (Nat.ble l h&&Nat.ble h s.size) (K (.string (s.extract l h)) H) none
   | _=>none
  | _=>none
 | .fieldAddr s x f=>Q1 (ev env x) fun v=>Q5c v fun p=>match X.P.underlying s with
  | some (.struct fs)=>Q1 fs[f]? fun fd=>Q1 (X.P.info? fd.type) fun i=>match Nat.beq i.size 0 with
   | false=>K (.pointer (some ⟨p.block,p.off+fd.offset,none⟩)) H
   | true=>none
  | _=>none
 | .field t x f=>Q1 (ev env x) fun v=>match v with
  | .agg cs=>match X.P.underlying t with
   | some (.struct fs)=>Q1 fs[f]? fun fd=>Q1 (Q27 X.P fd.type cs fd.offset) fun u=>K u H
   | _=>none
  | _=>none
 | .indexAddr t x ix=>Q1 (ev env x) fun v=>Q1 (ev env ix) fun j=>match X.P.underlying t with
  | some (.slice e)=>slS v fun p n _=>Q1 (X.P.info? e) fun i=>Quh j fun k=>oif (Nat.blt k n) (K (.pointer (some ⟨p.block,p.off+k*i.size,none⟩)) H) none
  | some (.array n e)=>Q5c v fun p=>Q1 (X.P.info? e) fun i=>Quh j fun k=>oif (Nat.blt k n) (K (.pointer (some ⟨p.block,p.off+k*i.size,none⟩)) H) none
  | _=>none
 | .index t x ix=>Q1 (ev env x) fun v=>Q1 (ev env ix) fun j=>match v with
  | .string s=>match X.P.underlying t with
   | some .string=>Quh j fun k=>Q1 s.data.toList[k]? fun b=>K (.int .u8 b.toNat) H
   | _=>none
  | .agg cs=>match X.P.underlying t with
   | some (.array n e)=>Q1 (X.P.info? e) fun i=>Quh j fun k=>oif (Nat.blt k n) (Q1 (Q27 X.P e cs (k*i.size)) fun u=>K u H) none
   | _=>none
  | _=>none
 | .extract x i=>Q1 (ev env x) fun v=>match v with
  | .tuple vs=>Q1 vs[i]? fun u=>K u H
  | _=>none
 | .call c=>match c.callee with
  | .builtin b=>Q1 (evs env c.args.toList) fun vs=>Q05 X.P X.lim b c.argTypes.toList vs H K
  | .value f=>Q1 (ev env f) fun g=>Q1 (evs env c.args.toList) fun vs=>match g with
   | .func (.func n) first cap=>Q1 (X.call n (first.toList++vs++cap.toList) X.lim H) fun r =>
    match Qlb X.P o.type with
    | some tm=>Qh8 tm r.1 fun u=>K u r.2
    | none=>K r.1 r.2
   | _=>none
  | _=>none
 | _=>none
end ops
def Q2k (env:Env):List (Nat×Value)→Option (List Value)
 | []=>some []
 | (s,_)::r=>Q1 (Q2e env s) fun v=>Q1 (Q2k env r) fun l=>some (v::l)
def Q2s {β:Type} (ks:List (Nat×Value)) (vs:List Value) (K:Env→Option β):Option β :=
 match ks with
 | []=>Qx1 vs (K [])
 | (s,t)::r=>Qb3 vs fun v l=>Qa3 t v fun v'=>Q2s r l fun env=>K ((s,v')::env)
def Qeq {β:Type} (F:(List Value→Heap→Option β)→List Value→Heap→Option β):Nat→List Value→Heap→Option β
 | 0=>fun _ _=>none
 | n+1=>F (Qeq F n)
def Qa:Value→Value→Bool
 | .bool a,.bool b=>a==b
 | .int k a,.int k' b=>decide (k=k')&&(a==b)
 | .string a,.string b=>a.toList==b.toList
 | .pointer a,.pointer b=>decide (a=b)
 | .slice a n c,.slice b m e=>decide (a=b)&&(n==m)&&(c==e)
 | .nilFunc,.nilFunc=>true
 | .nilIface,.nilIface=>true
 | .map a,.map b=>decide (a=b)
 | _,_=>false
def Q6t:List Value→List Value→Bool
 | [],[]=>true
 | x::r,y::q=>Qa x y&&Q6t r q
 | _,_=>false
def Q1l:Option Value→Option Value→Bool
 | none,none=>true
 | some (.agg xs),some (.agg ys)=>Q6t xs.toList ys.toList
 | some x,some y=>Qa x y
 | _,_=>false
def Q24 (P:Program):Op→Nat
 | .call { callee:=.builtin .append,.. } | .call { callee:=.builtin .copy,.. }=>3
 | .call { callee:=.builtin _,.. }=>0
 | .call _ | .store .. => 3
 | .alloc _ | .box .. | .buildSlice .. | .makeSlice .. => 2
 | .load .. => 1
 | .convert src dst _=>match P.underlying src,P.underlying dst with
  | some (.slice _),_=>1
  | _,some (.slice _)=>2
  | _,_=>0
 | _=>0
def Q08 (P:Program) (ops:Array Oper) (i:Nat):Nat:=match ops[i]? with | some o=>Q24 P o.op | none=>0
def Q3l (b:Array Nat) (j i:Nat):Bool:=(b.getD j 0).testBit i
def Qui (P:Program) (ops:Array Oper) (b:Array Nat) (i j:Nat):Bool :=
 Q3l b j i || (!(Nat.beq (Q08 P ops j) 3&&Nat.ble 2 (Q08 P ops i)) &&
  match ops[i]?,ops[j]? with
  | some x,some y=>x.apart ops y
  | _,_=>false)
def Qpd (ops:Array Oper) (j:Nat):Bool:=match ops[j]? with
 | some o=>o.after.toList.all fun e => !Region.binds .any e || Nat.blt e.on j
 | none=>false
def Qh9 (P:Program) (ops:Array Oper):Bool :=
 let b:=Region.before ops
 (List.range ops.size).all fun j=>Qpd ops j&&(List.range j).all fun i=>Qui P ops b i j
def Q4t (P:Program) (ops:Array Oper) (i:Nat):List Nat :=
 let b:=Region.before ops
 let es:=(List.range ops.size).filter fun e=>Nat.beq (Q08 P ops e) 3
 let anc:=es.filter fun e=>Q3l b i e
 let m0:=match anc.reverse with | e::_=>e+1 | []=>0
 m0::(es.filter fun e => !Q3l b i e && !Q3l b e i && !Nat.beq e i).map (· + 1)
def Q21 (P:Program) (ops:Array Oper) (m i:Nat):Bool :=
 (List.range ops.size).all fun k => !(Nat.ble (min m i) k&&Nat.blt k (max m i)) || Nat.blt (Q08 P ops k) 2
def Q31 (P:Program) (o:Op) (env:Env) (H:Heap):Option Value :=
 match o with
 | .load t a=>match Qci P t a with
  | some v=>some v
  | none=>Q1 (ev env a) fun v=>Q5c v fun p=>Q1 (P.info? t) fun i=>match P.underlying t with
   | some (.struct _) | some (.array _ _)=>Q1 (Qx H p i.size) fun l=>some (.agg l.toArray)
   | some _=>Q2f H p
   | none=>none
 | .convert _ _ x=>Q1 (ev env x) fun v=>Q1 (Qf H 1 v) fun l=>some (.agg l.toArray)
 | _=>none
def Qd3:Value→Option Nat
 | .pointer (some p)=>some p.block
 | .slice (some p) _ _=>some p.block
 | _=>none
theorem Q7y {P:Program} {t:TypeId} {x:Operand} {env:Env} {v:Value} (h:ev env x=some v):Qci P t x=none:=by
 cases x<;>first | rfl | simp [ev] at h
def Qsd:Op→Option Tmp
 | .load _ (.tmp t)=>some t
 | .convert _ _ (.tmp t)=>some t
 | _=>none
def Q6a (P:Program) (ops:Array Oper) (i:Nat) (o:Oper) (m:Nat):Bool :=
 match Qsd o.op with
 | some t=>(List.range i).any fun a=>Nat.ble m a&&Q3l (Region.before ops) i a&&Nat.beq (Q08 P ops a) 2&&(match ops[a]? with
   | some q=>q.guard.isNone&&(match q.dst with | some d=>Nat.beq d t | none=>false)
   | none=>false)&&(List.range i).all fun k=>Nat.ble k a || (!Nat.beq (Q08 P ops k) 3&&match (ops[k]?).bind (·.dst) with | some d => !Nat.beq d t | none=>true)
 | none=>false
section code
variable {β:Type}
def Quj (nt:Nat) (dst:Option Tmp) (v:Value) (env:Env) (K:Env→Option β):Option β :=
 match dst with
 | none=>K env
 | some d=>match Nat.blt d nt with | true=>K ((d,v)::env) | false=>none
def Q5m (ops:Array Oper) (o:Oper) (env:Env) (K:Bool→Env→Option β):Option β :=
 match o.guard with
 | none=>K true env
 | some (j,want)=>match (ops[j]?).bind (·.dst) with
  | some d=>Q1 (Q2e env d) fun v=>match v with
   | .bool b=>oif b (K want ((d,.bool true)::env)) (K (!want) ((d,.bool false)::env))
   | _=>K false env
  | none=>none
def Q9q (P:Program) (t:TypeId):Bool:=match P.underlying t with
 | some (.map k e)=>match P.underlying k,P.underlying e,Q1 (P.info? e) fun i=>i.zero with
  | some (.int .i64),some (.int .i64),some (.int .i64 z)=>z==0
  | _,_,_=>false
 | _=>false
def Q0s:List (Int×Int)→Int→Option Int
 | [],_=>none
 | (a,v)::r,k=>match k==a with | true=>some v | false=>Q0s r k
def Q94:List (Int×Int)→Int→Int→List (Int×Int)
 | [],k,v=>[(k,v)]
 | (a,u)::r,k,v=>match k==a with | true=>(a,v)::r | false=>(a,u)::Q94 r k v
def Qw6 (H:Heap) (b:Nat):Option (List (Int×Int)):=Q1 (hget H b) fun k=>match k.ro with | false=>k.mp | true=>none
def Q3x (H:Heap):Heap:=H++[some ⟨[],false,some []⟩]
def Qx3 (v:Value) (K:Nat→Option β):Option β:=match v with | .map (some b)=>K b | _=>none
def Qw7 (v:Value) (K:Int→Option β):Option β:=match v with | .int .i64 n=>K n | _=>none
def Qb6 (ok:Bool) (x:Option Int):Value:=match ok with
 | true=>.tuple #[.int .i64 (x.getD 0),.bool x.isSome]
 | false=>.int .i64 (x.getD 0)
def Qer (X:Cx) (o:Oper) (env:Env) (H:Heap) (K:Value→Heap→Option β):Option β :=
 match o.op with
 | .makeMap _ none=>K (.map (some H.length)) (Q3x H)
 | .mapUpdate t m k v=>match Q9q X.P t with
  | true=>Q1 (ev env m) fun mv=>Q1 (ev env k) fun kv=>Q1 (ev env v) fun vv=>Qx3 mv fun b=>Qw7 kv fun a=>Qw7 vv fun u=>Q1 (Qw6 H b) fun es=>K undef (H.set b (some ⟨[],false,some (Q94 es a u)⟩))
  | false=>none
 | .lookup t m k ok=>match Q9q X.P t with
  | true=>Q1 (ev env m) fun mv=>Q1 (ev env k) fun kv=>Qx3 mv fun b=>Qw7 kv fun a=>Q1 (Qw6 H b) fun es=>K (Qb6 ok (Q0s es a)) H
  | false=>none
 | _=>Q38 X o env H K
def Qes (X:Cx) (ops:Array Oper):List Oper→Env→Heap→(Env→Heap→Option β)→Option β
 | [],env,H,K=>K env H
 | o::r,env,H,K=>Q5m ops o env fun t env=>match t with
  | true=>Qer X o env H fun v H'=>Quj X.nt o.dst v env fun env=>Qes X ops r env H' K
  | false=>Quj X.nt o.dst undef env fun env=>Qes X ops r env H K
def Q5n (X:Cx) (ops:Array Oper):List Oper→Env→Heap→List (Env×Heap)→(List (Env×Heap)→Env→Heap→Option β)→Option β
 | [],env,H,tr,K=>K ((env,H)::tr) env H
 | o::r,env,H,tr,K=>Q5m ops o env fun t env=>match t with
  | true=>Q38 X o env H fun v H'=>Quj X.nt o.dst v env fun env'=>Q5n X ops r env' H' ((env,H)::tr) K
  | false=>Quj X.nt o.dst undef env fun env'=>Q5n X ops r env' H ((env,H)::tr) K
def Q4u (P:Program) (ops:Array Oper) (sts:List (Env×Heap)) (i:Nat) (o:Oper):List Nat→Option β→Option β
 | [],x=>x
 | m::ms,x=>match Q21 P ops m i || Q6a P ops i o m with
  | true=>Q4u P ops sts i o ms x
  | false=>match sts[i]?,sts[m]? with
   | some s,some q=>oif (Q1l (Q31 P o.op s.1 q.2) (Q31 P o.op s.1 s.2)) (Q4u P ops sts i o ms x) none
   | _,_=>none
def stable (P:Program) (ops:Array Oper) (sts:List (Env×Heap)):List Nat→Option β→Option β
 | [],x=>x
 | i::r,x=>match Nat.beq (Q08 P ops i) 1,ops[i]? with
  | true,some o=>Q4u P ops sts i o (Q4t P ops i) (stable P ops sts r x)
  | _,_=>stable P ops sts r x
def Qb7 (X:Cx) (ops:Array Oper) (env:Env) (H:Heap) (K:Env→Heap→Option β):Option β :=
 match Qh9 X.P ops with
 | true=>Q5n X ops ops.toList env H [] fun tr env' H'=>stable X.P ops tr.reverse (List.range ops.size) (K env' H')
 | false=>none
inductive AExit where
 | normal
 | exit (id:Nat)
 | ret
def Q44:Code→Nat
 | .seq a b=>Q44 a+Q44 b
 | .cond _ a b=>Q44 a+Q44 b
 | .block _ c=>Q44 c
 | .loop c=>Q44 c+1
 | _=>0
def Quk (c:Operand) (b:Bool) (env:Env):Env:=match c with | .tmp d=>(d,.bool b)::env | _=>env
def Q0c (X:Cx):Code→Nat→Env→Heap→(AExit→Env→Heap→Option β)→Option β
 | .skip,_,env,H,K=>K .normal env H
 | .label _,_,env,H,K=>K .normal env H
 | .region _ ops d,_,env,H,K=>match d with
  | false=>Qes X ops ops.toList env H (K .normal)
  | true=>Qb7 X ops env H (K .normal)
 | .seq a b,n,env,H,K=>Q0c X a n env H fun ex env H=>match ex with
  | .normal=>Q0c X b (n+Q44 a) env H K
  | .exit id=>K (.exit id) env H
  | .ret=>K .ret env H
 | .cond c a b,n,env,H,K=>Q1 (ev env c) fun v=>Qb2 v fun t=>oif t (Q0c X a n (Quk c true env) H K) (Q0c X b (n+Q44 a) (Quk c false env) H K)
 | .block id c,n,env,H,K=>Q0c X c n env H fun ex env H=>match ex with
  | .normal=>K .normal env H
  | .exit id'=>match Nat.beq id' id with | true=>K .normal env H | false=>K (.exit id') env H
  | .ret=>K .ret env H
 | .loop c,n,env,H,K=>Q1 (Q2k env (X.ann n)) fun vs =>
  Qeq (fun again vs H=>Q2s (X.ann n) vs fun env=>Q0c X c (n+1) env H fun ex env' H'=>match ex with
   | .normal=>Q1 (Q2k env' (X.ann n)) fun vs'=>again vs' H'
   | .exit id=>K (.exit id) env' H'
   | .ret=>K .ret env' H') X.fuel vs H
 | .exit id,_,env,H,K=>K (.exit id) env H
 | .ret,_,env,H,K=>K .ret env H
 | _,_,_,_,_=>none
end code
inductive Mode where
 | keep
 | drop
def Qlc (n:Nat) (v:Value):Bool :=
 Qt v || match v with
  | .pointer (some a)=>decide (a.block < n)
  | .slice (some a) _ _=>decide (a.block < n)
  | _=>false
def Qha:List Nat→Nat→Option Nat
 | [],_=>none
 | x::r,b=>if x=b then some 0 else Q1 (Qha r b) fun i=>some (i+1)
def Q95 (base:Nat) (H:Heap) (olds:List Nat) (b:Nat):Option (Nat×List Nat) :=
 if b < base then some (b,olds) else
 match Qha olds b with
 | some j=>some (base+j,olds)
 | none=>Q1 (hget H b) fun k=>match k.cells.all (Qlc base) with
  | true=>some (base+olds.length,olds++[b])
  | false=>none
def Q7z (base:Nat) (H:Heap) (olds:List Nat) (v:Value):Option (Value×List Nat) :=
 match v with
 | .pointer (some a)=>Q1 (Q95 base H olds a.block) fun r=>some (.pointer (some ⟨r.1,a.off,none⟩),r.2)
 | .slice (some a) n c=>Q1 (Q95 base H olds a.block) fun r=>some (.slice (some ⟨r.1,a.off,none⟩) n c,r.2)
 | v=>match Qt v with | true=>some (v,olds) | false=>none
def Q2t (base:Nat) (H:Heap):List Nat→List Value→Option (List Value×List Nat)
 | olds,[]=>some ([],olds)
 | olds,v::r=>Q1 (Q7z base H olds v) fun x=>Q1 (Q2t base H x.2 r) fun y=>some (x.1::y.1,y.2)
def Qmu (base:Nat) (H:Heap) (olds:List Nat) (v:Value):Option (Value×List Nat) :=
 match v with
 | .agg cs=>Q1 (Q2t base H olds cs.toList) fun x=>some (.agg x.1.toArray,x.2)
 | v=>Q7z base H olds v
def Q59 (base:Nat) (H:Heap):List Nat→List Value→Option (List Value×List Nat)
 | olds,[]=>some ([],olds)
 | olds,v::r=>Q1 (Qmu base H olds v) fun x=>Q1 (Q59 base H x.2 r) fun y=>some (x.1::y.1,y.2)
def Q4d (m:Mode) (base:Nat) (vs:List Value) (H:Heap):Option (List Value×Heap) :=
 match m with
 | .keep=>some (vs,H)
 | .drop=>Q1 (Q59 base H [] vs) fun x=>some (x.1,H.take base++x.2.map (hget H))
def Q39 (P:Program) (env:Env) (H:Heap):List ResultVar→Option (List Value)
 | []=>some []
 | .tmp t::r=>Q1 (Q2e env t) fun v=>Q1 (Q39 P env H r) fun l=>some (v::l)
 | .cell a t::r=>Q1 (Q2e env a) fun v=>match v with
  | .pointer (some p)=>Q1 (P.info? t) fun i=>match P.underlying t with
   | some (.struct _) | some (.array _ _)=>Q1 (Qx H p i.size) fun c=>Q1 (Q39 P env H r) fun l=>some (.agg c.toArray::l)
   | some _=>Q1 (Q2f H p) fun u=>Q1 (Q39 P env H r) fun l=>some (u::l)
   | none=>none
  | _=>none
def Q3a (vs:List Value):Value:=match vs with | [v]=>v | vs=>.tuple vs.toArray
def Q1w:Nat→List Value→Env
 | _,[]=>[]
 | i,v::r=>(i,v)::Q1w (i+1) r
structure Ann where
 fuel:Nat
 loops:FuncId→Nat→List (Nat×Value)
 mode:FuncId→Mode
 ext:FuncId→Option (List Value→Nat→Heap→Option (Value×Heap))
def Qw8 (m:Mode) (lim n:Nat):Nat:=match m with | .keep=>lim | .drop=>n
def Qhb (P:Program) (A:Ann) (call:FuncId→List Value→Nat→Heap→Option (Value×Heap)) (f:FuncId) (args:List Value) (lim:Nat) (H:Heap):Option (Value×Heap) :=
 match P.funcs[f]? with
 | none=>none
 | some fn=>match fn.body,Nat.ble args.length fn.ntmps,fn.name == "runtime.NumGoroutine" with
  | some c,true,false=>Q0c ⟨P,call,Qw8 (A.mode f) lim H.length,fn.ntmps,A.fuel,A.loops f⟩ c 0 (Q1w 0 args) H fun ex env H'=>match ex with
   | .exit _=>none
   | _=>Q1 (Q39 P env H' fn.results.toList) fun vs=>Q1 (Q4d (A.mode f) H.length vs H') fun r=>some (Q3a r.1,r.2)
  | _,_,_=>none
def run (P:Program) (A:Ann):Nat→FuncId→List Value→Nat→Heap→Option (Value×Heap)
 | 0=>fun _ _ _ _=>none
 | d+1=>fun f args lim H=>match A.ext f with
  | some e=>e args lim H
  | none=>Qhb P A (run P A d) f args lim H
def GW (w:World):Prop:=gN≤w.heap.size∧∀ p∈gTabs,p.1 < gN∧∃ t f,w.heap[p.1]? = some (.cells p.2.toArray t f)
theorem GW.stable {w w':World} (h:GW w) (hs:w.heap.size≤w'.heap.size) (hb:∀ k,k < gN→w'.heap[k]? = w.heap[k]?):GW w' :=
 ⟨by have:=h.1;omega,fun p hp=>by obtain ⟨h1,t,f,h2⟩:=h.2 p hp;exact ⟨h1,t,f,by rw [hb _ h1];exact h2⟩⟩
theorem GW.heap {w w':World} (h:GW w) (e:w'.heap=w.heap):GW w':=h.stable (by rw [e];exact Zd _) (fun _ _=>by rw [e])
theorem Qhc {g:Nat} {l:List Value}:∀ {t:List (Nat×List Value)},Qjm t g=some l→(g,l)∈t
 | [],h=>by simp [Qjm] at h
 | (a,k)::r,h=>by
  unfold Qjm at h
  split at h
  ·rename_i e
   have e:=Z7 e
   injection h with h
   subst e h;exact List.mem_cons_self
  ·exact List.mem_cons_of_mem _ (Qhc h)
theorem GW.cells {w:World} (h:GW w) {g:Nat} {l:List Value} (hf:Qjm gTabs g=some l) (j:Nat) (v:Value) (hv:l[j]? = some v):w.cell? ((⟨g,0,none⟩:Addr).add j)=some v:=by
 obtain ⟨_,t,f,hb⟩:=h.2 _ (Qhc hf)
 have e:((⟨g,0,none⟩:Addr).add j)=⟨g,j,none⟩:=by
  unfold Addr.add
  by_cases h:j=0
  ·subst h;simp
  ·simp [h]
 rw [e]
 simp only at hb
 simp [World.cell?,hb,hv]
structure Loc where
 blk:Nat
 off:Nat
 size:Nat
abbrev Io:=Nat→Loc
def Bel (n:Nat):Nat→Prop:=fun b=>b < n
def Io.addr (ι:Io) (a:Addr):Addr:=⟨(ι a.block).blk,(ι a.block).off+a.off,none⟩
inductive VRel (ι:Io) (D:Nat→Prop):Value→Value→Prop
 | bool (b:Bool):VRel ι D (.bool b) (.bool b)
 | int (k:IntKind) (m:Int):VRel ι D (.int k m) (.int k m)
 | str (s:ByteArray):VRel ι D (.string s) (.string s)
 | nilFunc:VRel ι D .nilFunc .nilFunc
 | nilIface:VRel ι D .nilIface .nilIface
 | ptrNil:VRel ι D (.pointer none) (.pointer none)
 | ptr (a:Addr) (h:D a.block):VRel ι D (.pointer (some a)) (.pointer (some (ι.addr a)))
 | slNil:VRel ι D (.slice none 0 0) (.slice none 0 0)
 | map (b:Nat) (h:D b):VRel ι D (.map (some b)) (.map (some (ι b).blk))
 | slGo (a:Addr) (len c cap:Nat) (h:D a.block) (hl:len≤cap) (hc:(ι a.block).off+a.off+cap*c≤(ι a.block).size) :
   VRel ι D (.slice (some a) len c) (.slice (some (ι.addr a)) len cap)
 | slEmpty (a b:Addr) (c:Nat) (h:D a.block):VRel ι D (.slice (some a) 0 c) (.slice (some b) 0 0)
 | agg (xs ys:List Value) (hl:xs.length=ys.length) (h:∀ i (h1:i < xs.length) (h2:i < ys.length),VRel ι D xs[i] ys[i]):VRel ι D (.agg ⟨xs⟩) (.agg ⟨ys⟩)
 | tuple (xs ys:List Value) (hl:xs.length=ys.length) (h:∀ i (h1:i < xs.length) (h2:i < ys.length),VRel ι D xs[i] ys[i]):VRel ι D (.tuple ⟨xs⟩) (.tuple ⟨ys⟩)
 | func (f:FuncId) (xs ys xs' ys':List Value) (hl:xs.length=ys.length) (h:∀ i (h1:i < xs.length) (h2:i < ys.length),VRel ι D xs[i] ys[i])
   (hl':xs'.length=ys'.length) (h':∀ i (h1:i < xs'.length) (h2:i < ys'.length),VRel ι D xs'[i] ys'[i]):VRel ι D (.func (.func f) ⟨xs⟩ ⟨xs'⟩) (.func (.func f) ⟨ys⟩ ⟨ys'⟩)
def Q07 (ι:Io) (D:Nat→Prop) (xs ys:List Value):Prop:=xs.length=ys.length∧∀ i (h1:i < xs.length) (h2:i < ys.length),VRel ι D xs[i] ys[i]
inductive VLt (D:Nat→Prop):Value→Prop
 | bool (b:Bool):VLt D (.bool b)
 | int (k:IntKind) (m:Int):VLt D (.int k m)
 | str (s:ByteArray):VLt D (.string s)
 | nilFunc:VLt D .nilFunc
 | nilIface:VLt D .nilIface
 | ptrNil:VLt D (.pointer none)
 | ptr (a:Addr) (h:D a.block):VLt D (.pointer (some a))
 | slNil:VLt D (.slice none 0 0)
 | map (b:Nat) (h:D b):VLt D (.map (some b))
 | sl (a:Addr) (len c:Nat) (h:D a.block):VLt D (.slice (some a) len c)
 | agg (xs:List Value) (h:∀ i (h1:i < xs.length),VLt D xs[i]):VLt D (.agg ⟨xs⟩)
 | tuple (xs:List Value) (h:∀ i (h1:i < xs.length),VLt D xs[i]):VLt D (.tuple ⟨xs⟩)
 | func (f:FuncId) (xs xs':List Value) (h:∀ i (h1:i < xs.length),VLt D xs[i]) (h':∀ i (h1:i < xs'.length),VLt D xs'[i]):VLt D (.func (.func f) ⟨xs⟩ ⟨xs'⟩)
theorem VRel.lt {ι:Io} {D:Nat→Prop} {v c:Value} (h:VRel ι D v c):VLt D v:=by
 induction h with
 | bool b=>exact .bool b
 | int k m=>exact .int k m
 | str s=>exact .str s
 | nilFunc=>exact .nilFunc
 | nilIface=>exact .nilIface
 | ptrNil=>exact .ptrNil
 | ptr a h=>exact .ptr a h
 | slNil=>exact .slNil
 | map b h=>exact .map b h
 | slGo a len c cap h _ _=>exact .sl a len c h
 | slEmpty a b c h=>exact .sl a 0 c h
 | agg xs ys hl h ih=>exact .agg xs fun i h1=>ih i h1 (hl▸h1)
 | tuple xs ys hl h ih=>exact .tuple xs fun i h1=>ih i h1 (hl▸h1)
 | func f xs ys xs' ys' hl h hl' h' ih ih'=>exact .func f xs xs' (fun i h1=>ih i h1 (hl▸h1)) (fun i h1=>ih' i h1 (hl'▸h1))
theorem VRel.re {ι ι':Io} {D E:Nat→Prop} {v c:Value} (h:VRel ι D v c) (hv:VLt E v) (ha:∀ b,D b→E b→ι' b=ι b):VRel ι' E v c:=by
 induction h with
 | bool b=>exact .bool b
 | int k m=>exact .int k m
 | str s=>exact .str s
 | nilFunc=>exact .nilFunc
 | nilIface=>exact .nilIface
 | ptrNil=>exact .ptrNil
 | ptr a h =>
  cases hv with
  | ptr _ h' =>
   have e:ι.addr a=ι'.addr a:=by unfold Io.addr;rw [ha _ h h']
   rw [e];exact .ptr a h'
 | slNil=>exact .slNil
 | map b h =>
  cases hv with
  | map _ h'=>rw [← ha _ h h'];exact .map b h'
 | slGo a len c cap h hl hc =>
  cases hv with
  | sl _ _ _ h' =>
   have e:ι.addr a=ι'.addr a:=by unfold Io.addr;rw [ha _ h h']
   rw [e];exact .slGo a len c cap h' hl (by rw [ha _ h h'];exact hc)
 | slEmpty a b c h =>
  cases hv with
  | sl _ _ _ h'=>exact .slEmpty a b c h'
 | agg xs ys hl h ih =>
  cases hv with
  | agg _ hv=>exact .agg xs ys hl fun i h1 h2=>ih i h1 h2 (hv i h1)
 | tuple xs ys hl h ih =>
  cases hv with
  | tuple _ hv=>exact .tuple xs ys hl fun i h1 h2=>ih i h1 h2 (hv i h1)
 | func f xs ys xs' ys' hl h hl' h' ih ih' =>
  cases hv with
  | func _ _ _ hv hv'=>exact .func f xs ys xs' ys' hl (fun i h1 h2=>ih i h1 h2 (hv i h1)) hl' (fun i h1 h2=>ih' i h1 h2 (hv' i h1))
theorem VLt.mono {D E:Nat→Prop} {v:Value} (h:VLt D v) (hm:∀ b,D b→E b):VLt E v:=by
 induction h with
 | bool b=>exact .bool b
 | int k m=>exact .int k m
 | str s=>exact .str s
 | nilFunc=>exact .nilFunc
 | nilIface=>exact .nilIface
 | ptrNil=>exact .ptrNil
 | ptr a h=>exact .ptr a (hm _ h)
 | slNil=>exact .slNil
 | map b h=>exact .map b (hm _ h)
 | sl a len c h=>exact .sl a len c (hm _ h)
 | agg xs h ih=>exact .agg xs ih
 | tuple xs h ih=>exact .tuple xs ih
 | func f xs xs' h h' ih ih'=>exact .func f xs xs' ih ih'
theorem VRel.mono {ι ι':Io} {D E:Nat→Prop} {v c:Value} (h:VRel ι D v c) (hm:∀ b,D b→E b) (ha:∀ b,D b→ι' b=ι b):VRel ι' E v c :=
 h.re (h.lt.mono hm) fun b hb _=>ha b hb
theorem Q4e {v:Value} (h:Qt v=true) (ι:Io) (D:Nat→Prop):VRel ι D v v:=by
 unfold Qt at h
 split at h<;>first | exact .bool _ | exact .int _ _ | exact .str _ | exact .nilFunc | exact .nilIface | exact .ptrNil | exact .slNil | simp at h
theorem Q0v {v:Value} (h:Qt v=true) (D:Nat→Prop):VLt D v:=(Q4e h (fun _=>⟨0,0,0⟩) D).lt
theorem Qhd {n:Nat} {v:Value} (h:Qlc n v=true):VLt (Bel n) v:=by
 unfold Qlc at h
 cases hl:Qt v with
 | true=>exact Q0v hl _
 | false =>
  rw [hl,Bool.false_or] at h
  split at h
  ·exact .ptr _ (by have:=of_decide_eq_true h;exact this)
  ·exact .sl _ _ _ (by have:=of_decide_eq_true h;exact this)
  ·simp at h
theorem Qhe {v:Value} (h:Qmr v=true) (ι:Io) (D:Nat→Prop):VRel ι D v v:=by
 unfold Qmr at h
 split at h
 ·rename_i cs
  obtain ⟨l⟩:=cs
  exact .agg l l rfl fun i h1 _=>Q4e (Z3 h _ (List.getElem_mem h1)) ι D
 ·rename_i cs
  obtain ⟨l⟩:=cs
  exact .tuple l l rfl fun i h1 _=>Q4e (Z3 h _ (List.getElem_mem h1)) ι D
 ·exact Q4e h ι D
theorem Q1h {v:Value} (h:Qt v=true):isCell v=true:=by
 unfold Qt at h
 split at h<;>first | rfl | simp at h
theorem VRel.isCell {ι:Io} {D:Nat→Prop} {v c:Value} (h:VRel ι D v c):isCell c=isCell v:=by cases h<;>rfl
theorem Q07.refl_leaf {xs:List Value} (h:xs.all Qt=true) (ι:Io) (D:Nat→Prop):Q07 ι D xs xs :=
 ⟨rfl,fun i h1 _=>Q4e (Z3 h _ (List.getElem_mem h1)) ι D⟩
theorem Q07.nil (ι:Io) (D:Nat→Prop):Q07 ι D [] []:=⟨rfl,fun _ h1 _=>absurd h1 (by simp)⟩
theorem Q07.cons {ι:Io} {D:Nat→Prop} {x y:Value} {xs ys:List Value} (h:VRel ι D x y) (hs:Q07 ι D xs ys):Q07 ι D (x::xs) (y::ys):=by
 refine ⟨by simp [hs.1],fun i h1 h2=>?_⟩
 cases i with
 | zero=>exact h
 | succ i=>exact hs.2 i (by simpa using h1) (by simpa using h2)
theorem Q07.head {ι:Io} {D:Nat→Prop} {x y:Value} {xs ys:List Value} (h:Q07 ι D (x::xs) (y::ys)):VRel ι D x y:=h.2 0 (by simp) (by simp)
theorem Q07.tail {ι:Io} {D:Nat→Prop} {x y:Value} {xs ys:List Value} (h:Q07 ι D (x::xs) (y::ys)):Q07 ι D xs ys :=
 ⟨by have:=h.1;simpa using this,fun i h1 h2=>h.2 (i+1) (by simpa using h1) (by simpa using h2)⟩
theorem Q07.append {ι:Io} {D:Nat→Prop} {xs ys as bs:List Value} (h:Q07 ι D xs ys) (h':Q07 ι D as bs):Q07 ι D (xs++as) (ys++bs):=by
 induction xs generalizing ys with
 | nil =>
  have:ys=[]:=Z1 (by have:=h.1;simpa using this.symm)
  subst this;exact h'
 | cons x xs ih =>
  cases ys with
  | nil=>exact absurd h.1 (by simp)
  | cons y ys=>exact Q07.cons h.head (ih h.tail)
theorem Q07.mono {ι ι':Io} {D E:Nat→Prop} {xs ys:List Value} (h:Q07 ι D xs ys) (hm:∀ b,D b→E b) (ha:∀ b,D b→ι' b=ι b):Q07 ι' E xs ys :=
 ⟨h.1,fun i h1 h2=>(h.2 i h1 h2).mono hm ha⟩
def Qzn (w:World) (r:Nat) (es:List (Int×Int)):Prop :=
 ∃ ents clock,w.heap[r]? = some (.map ents clock)∧ents.toList.map (fun e=>(e.key,e.val))=es.map fun p=>(Value.int .i64 p.1,Value.int .i64 p.2)
structure BRel (ι:Io) (D:Nat→Prop) (w:World) (b:Nat) (k:Blk):Prop where
 lt:(ι b).blk < w.heap.size
 shape:0 < (ι b).size→∃ ety,w.shape? (ι b).blk=some (ety,(ι b).size)
 map:∀ es,k.mp=some es→k.cells=[]∧(ι b).size=0∧Qzn w (ι b).blk es
 fit:(ι b).off+k.cells.length≤(ι b).size
 cell:∀ i (h:i < k.cells.length),∃ c,w.cell? ⟨(ι b).blk,(ι b).off+i,none⟩=some c∧VRel ι D k.cells[i] c∧isCell k.cells[i]=true
 thaw:k.ro=false→∀ i,(ι b).off≤i→i < (ι b).size→w.frozen? ⟨(ι b).blk,i,none⟩=false
structure Rel (ι:Io) (D:Nat→Prop) (H:Heap) (w:World):Prop where
 blk:∀ b k,hget H b=some k→BRel ι D w b k
 inj:∀ b b' k k',hget H b=some k→hget H b'=some k'→b≠b'→(k.ro=false∨k'.ro=false)→(ι b).blk≠(ι b').blk
 nog:∀ b k,hget H b=some k→k.ro=false→gN≤(ι b).blk
 gw:GW w
def Ql (m:Nat) (H:Heap):Prop:=∀ b,b < m→∀ k,hget H b=some k→∀ v∈k.cells,VLt (Bel m) v
structure Fr (ι:Io) (H:Heap) (w:World) (ι':Io) (H':Heap) (w':World):Prop where
 len:H.length≤H'.length
 io:∀ b,b < H.length→ι' b=ι b
 os:w'.os=w.os
 tape:w'.tape=w.tape
 output:w'.output=w.output
 size:w.heap.size≤w'.heap.size
 frame:∀ k,k < w.heap.size→(∀ b blk,hget H b=some blk→blk.ro=false→(ι b).blk≠k)→w'.heap[k]? = w.heap[k]?
 new:∀ b blk,hget H' b=some blk→blk.ro=false→w.heap.size≤(ι' b).blk∨∃ b0 blk0,hget H b0=some blk0∧blk0.ro=false∧(ι b0).blk=(ι' b).blk
 ro:∀ b blk,hget H' b=some blk→blk.ro=true→hget H b=some blk
structure Ab (lim:Nat) (H H':Heap):Prop where
 len:H.length≤H'.length
 all:Ql H.length H→Ql H'.length H'
 closed:∀ m,m≤lim→m≤H.length→Ql m H→Ql m H'
theorem Ab.refl (lim:Nat) (H:Heap):Ab lim H H:=⟨Zd _,fun h=>h,fun _ _ _ h=>h⟩
theorem Ab.trans {lim:Nat} {H H' H'':Heap} (h:Ab lim H H') (g:Ab lim H' H''):Ab lim H H'' :=
 ⟨Nat.le_trans h.len g.len,fun x=>g.all (h.all x),fun m hm hl x=>g.closed m hm (Nat.le_trans hl h.len) (h.closed m hm hl x)⟩
def Q0o (D:Nat→Prop) (env:Env):Prop:=∀ s v,Q2e env s=some v→VLt D v
theorem Qs {H:Heap} {b:Nat} {k:Blk} (h:hget H b=some k):b < H.length:=by
 unfold hget at h
 by_cases hb:b < H.length
 ·exact hb
 ·rw [List.getElem?_eq_none (by omega)] at h;simp at h
theorem Fr.refl (ι:Io) (H:Heap) (w:World):Fr ι H w ι H w :=
 ⟨Zd _,fun _ _=>rfl,rfl,rfl,rfl,Zd _,fun _ _ _=>rfl,fun b blk h hr=>.inr ⟨b,blk,h,hr,rfl⟩,fun _ _ h _=>h⟩
theorem Fr.trans {ι ι' ι'':Io} {H H' H'':Heap} {w w' w'':World} (h:Fr ι H w ι' H' w') (g:Fr ι' H' w' ι'' H'' w''):Fr ι H w ι'' H'' w'':=by
 refine ⟨Nat.le_trans h.len g.len,fun b hb=>?_,g.os.trans h.os,g.tape.trans h.tape,g.output.trans h.output,Nat.le_trans h.size g.size,fun k hk hn=>?_,fun b blk hb hr=>?_,fun b blk hb hr=>h.ro b blk (g.ro b blk hb hr) hr⟩
 ·rw [g.io b (Zm hb h.len),h.io b hb]
 ·rw [g.frame k (Zm hk h.size),h.frame k hk hn]
  intro b blk hb hr he
  rcases h.new b blk hb hr with h1 | ⟨b0,k0,h0,hr0,e0⟩
  ·omega
  ·exact hn b0 k0 h0 hr0 (e0.trans he)
 ·rcases g.new b blk hb hr with h1 | ⟨b0,k0,h0,hr0,e0⟩
  ·exact .inl (Nat.le_trans h.size h1)
  ·rcases h.new b0 k0 h0 hr0 with h2 | ⟨b1,k1,h1,hr1,e1⟩
   ·exact .inl (e0▸h2)
   ·exact .inr ⟨b1,k1,h1,hr1,e1.trans e0⟩
structure ERel (ι:Io) (D:Nat→Prop) (nt:Nat) (env:Env) (a:Act):Prop where
 size:a.tmps.size=nt
 get:∀ s v,Q2e env s=some v→VRel ι D v (a.tmps.getD s undef)
theorem ERel.mono {ι ι':Io} {D E:Nat→Prop} {nt:Nat} {env:Env} {a:Act} (h:ERel ι D nt env a) (hm:∀ b,D b→E b) (ha:∀ b,D b→ι' b=ι b):ERel ι' E nt env a :=
 ⟨h.size,fun s v hs=>(h.get s v hs).mono hm ha⟩
theorem ERel.lt {ι:Io} {D:Nat→Prop} {nt:Nat} {env:Env} {a:Act} (h:ERel ι D nt env a):Q0o D env:=fun s v hs=>(h.get s v hs).lt
theorem Q0w (s:Nat) (v:Value) (env:Env) (t:Nat):Q2e ((s,v)::env) t=if s=t then some v else Q2e env t:=by
 rw [Q2e]
 cases hb:Nat.beq s t with
 | true=>rw [if_pos (Z7 hb)]
 | false=>rw [if_neg (Nat.ne_of_beq_eq_false hb)]
theorem Qld {a:Array Value} {d:Nat} {v:Value} (hd:d < a.size) (s:Nat):(a.setIfInBounds d v).getD s undef=if d=s then v else a.getD s undef:=by
 simp only [Array.getD_eq_getD_getElem?,Array.getElem?_setIfInBounds]
 by_cases h:d=s
 ·subst h;simp [hd]
 ·simp [h]
theorem ERel.put {ι:Io} {D:Nat→Prop} {nt:Nat} {env:Env} {a:Act} {d:Nat} {v c:Value} (h:ERel ι D nt env a) (hd:d < nt) (hv:VRel ι D v c):ERel ι D nt ((d,v)::env) (a.put (some d) c):=by
 refine ⟨by simp [Act.put,h.size],fun s u hs=>?_⟩
 rw [Q0w] at hs
 simp only [Act.put]
 rw [Qld (h.size▸hd)]
 by_cases e:d=s
 ·subst e;simp at hs ⊢;subst hs;exact hv
 ·simp [e] at hs ⊢;simpa using h.get s u hs
theorem ERel.lit {ι:Io} {D:Nat→Prop} {nt:Nat} {env:Env} {a:Act} {d:Nat} {b:Bool} (h:ERel ι D nt env a) (hv:Q2e env d=some (.bool b)):ERel ι D nt ((d,.bool b)::env) a:=by
 refine ⟨h.size,fun s u hs=>?_⟩
 rw [Q0w] at hs
 by_cases e:d=s
 ·subst e;simp at hs;subst hs;exact h.get d _ hv
 ·simp [e] at hs;exact h.get s u hs
theorem Qd {ι:Io} {D:Nat→Prop} {nt:Nat} {env:Env} {a:Act} (h:ERel ι D nt env a) {x:Operand} {v:Value} (hx:ev env x=some v):VRel ι D v (a.eval x):=by
 cases x with
 | tmp t=>exact h.get t v hx
 | const u =>
  simp only [ev] at hx
  split at hx
  ·rename_i hr;simp at hx;subst hx;exact Qhe hr ι D
  ·simp at hx
 | global g=>simp [ev] at hx
 | func f =>
  simp [ev] at hx;subst hx
  exact .func f [] [] [] [] rfl (fun i h1=>absurd h1 (by simp)) rfl (fun i h1=>absurd h1 (by simp))
theorem Qet {ι:Io} {D:Nat→Prop} {nt:Nat} {env:Env} {a:Act} (h:ERel ι D nt env a):∀ {xs:List Operand} {vs:List Value},evs env xs=some vs→Q07 ι D vs (xs.map a.eval)
 | [],vs,hx=>by simp [evs] at hx;subst hx;exact Q07.nil ι D
 | x::r,vs,hx=>by
  simp only [evs] at hx
  cases h1:ev env x with
  | none=>simp [h1,Q1] at hx
  | some v =>
   cases h2:evs env r with
   | none=>simp [h1,h2,Q1] at hx
   | some l =>
    simp [h1,h2,Q1] at hx;subst hx
    exact Q07.cons (Qd h h1) (Qet h h2)
theorem Q2 {α β:Type} {x:Option α} {f:α→Option β} {r:β} (h:Q1 x f=some r):∃ a,x=some a∧f a=some r:=by
 cases x with
 | none=>simp [Q1] at h
 | some a=>exact ⟨a,rfl,h⟩
theorem Q0b {β:Type} {b:Bool} {x y:Option β} {r:β} (h:oif b x y=some r):(b=true∧x=some r)∨(b=false∧y=some r):=by
 cases b with
 | true=>exact .inl ⟨rfl,h⟩
 | false=>exact .inr ⟨rfl,h⟩
theorem Qse {v:Value} (h:Qmr v=true) (D:Nat→Prop):VLt D v:=(Qhe h (fun _=>⟨0,0,0⟩) D).lt
theorem Q5o {D:Nat→Prop} {env:Env} (h:Q0o D env) {x:Operand} {v:Value} (hx:ev env x=some v):VLt D v:=by
 cases x with
 | tmp t=>exact h t v hx
 | const u =>
  simp only [ev] at hx
  split at hx
  ·rename_i hr;simp at hx;subst hx;exact Qse hr D
  ·simp at hx
 | global g=>simp [ev] at hx
 | func f =>
  simp [ev] at hx;subst hx
  exact .func f [] [] (fun i h1=>absurd h1 (by simp)) (fun i h1=>absurd h1 (by simp))
def LLt (D:Nat→Prop) (xs:List Value):Prop:=∀ v∈xs,VLt D v
theorem Qle {D:Nat→Prop} {env:Env} (h:Q0o D env):∀ {xs:List Operand} {vs:List Value},evs env xs=some vs→LLt D vs
 | [],vs,hx=>by simp [evs] at hx;subst hx;intro v hv;simp at hv
 | x::r,vs,hx=>by
  obtain ⟨v,h1,hx⟩:=Q2 hx
  obtain ⟨l,h2,hx⟩:=Q2 hx
  simp at hx;subst hx
  intro u hu
  rcases Z2 hu with rfl | hu
  ·exact Q5o h h1
  ·exact Qle h h2 u hu
theorem Q0o.put {D:Nat→Prop} {env:Env} (h:Q0o D env) {d:Nat} {v:Value} (hv:VLt D v):Q0o D ((d,v)::env):=by
 intro s u hs
 rw [Q0w] at hs
 by_cases e:d=s
 ·simp [e] at hs;subst hs;exact hv
 ·simp [e] at hs;exact h s u hs
theorem Q0o.mono {D E:Nat→Prop} {env:Env} (h:Q0o D env) (hm:∀ b,D b→E b):Q0o E env:=fun s v hs=>(h s v hs).mono hm
theorem Bel.mono {n m:Nat} (h:n≤m):∀ b,Bel n b→Bel m b:=fun b hb=>Zm hb h
theorem Q45 (v:Value):v.oneCell'=isCell v:=by cases v<;>rfl
theorem Q4v {w:World} {b ety n i:Nat} (h:w.shape? b=some (ety,n)) (hi:i < n):(w.cell? ⟨b,i,none⟩).isSome=true:=by
 unfold World.shape? at h
 unfold World.cell?
 split at h
 ·rename_i c e fz hb
  simp at h
  simp [hb];omega
 ·simp at h
theorem Qjp {w:World} {b:Nat} {x:TypeId×Nat} (h:w.shape? b=some x):b < w.heap.size:=by
 unfold World.shape? at h
 by_cases hb:b < w.heap.size
 ·exact hb
 ·rw [Array.getElem?_eq_none (by omega)] at h;simp at h
theorem Qcj {w w':World} {b:Nat} (h:w'.heap[b]? = w.heap[b]?):w'.shape? b=w.shape? b:=by unfold World.shape?;rw [h]
theorem Qeu {w w':World} {a:Addr} (h:w'.heap[a.block]? = w.heap[a.block]?):w'.cell? a=w.cell? a:=by unfold World.cell?;rw [h]
theorem Qb8 {w w':World} {a:Addr} (h:w'.heap[a.block]? = w.heap[a.block]?):w'.frozen? a=w.frozen? a:=by unfold World.frozen?;rw [h]
theorem BRel.of_block {ι ι':Io} {D E:Nat→Prop} {w w':World} {b b':Nat} {k:Blk} (h:BRel ι D w b k) (hb:w'.heap[(ι b).blk]? = w.heap[(ι b).blk]?) (he:ι' b'=ι b)
  (hv:∀ i (h:i < k.cells.length) c,VRel ι D k.cells[i] c→VRel ι' E k.cells[i] c):BRel ι' E w' b' k:=by
 refine ⟨?_,fun h0=>?_,fun es hes=>?_,by rw [he];exact h.fit,fun i hi=>?_,fun hr i h1 h2=>?_⟩
 ·rw [he]
  have:=h.lt
  rw [Array.getElem?_eq_getElem this] at hb
  exact (Array.getElem?_eq_some_iff.1 hb).1
 ·rw [he] at h0
  obtain ⟨e,hs⟩:=h.shape h0
  exact ⟨e,by rw [he,Qcj hb];exact hs⟩
 ·obtain ⟨h1,h2,h3⟩:=h.map es hes
  rw [he]
  exact ⟨h1,h2,by unfold Qzn;rw [hb];exact h3⟩
 ·obtain ⟨c,h1,h2,h3⟩:=h.cell i hi
  exact ⟨c,by rw [he,Qeu hb];exact h1,hv i hi c h2,h3⟩
 ·rw [he] at h1 h2 ⊢
  rw [Qb8 hb];exact h.thaw hr i h1 h2
theorem Rel.lt {ι:Io} {D:Nat→Prop} {H:Heap} {w:World} (h:Rel ι D H w) {b:Nat} {k:Blk} (hb:hget H b=some k):(ι b).blk < w.heap.size:=(h.blk b k hb).lt
theorem Rel.load {ι:Io} {D:Nat→Prop} {H:Heap} {w:World} (h:Rel ι D H w) {a:Addr} {v:Value} (hl:Q2f H a=some v) :
  ∃ c,w.cell? (ι.addr a)=some c∧VRel ι D v c∧isCell v=true:=by
 obtain ⟨k,hk,hv⟩:=Q2 hl
 obtain ⟨hi,e⟩:=Z0 hv
 obtain ⟨c,h1,h2,h3⟩:=(h.blk _ _ hk).cell a.off hi
 subst e
 exact ⟨c,h1,h2,h3⟩
theorem Q80 (ι:Io) (a:Addr) (j:Nat):(ι.addr a).add j=⟨(ι a.block).blk,(ι a.block).off+a.off+j,none⟩:=by
 unfold Addr.add Io.addr
 by_cases h:j=0
 ·subst h;simp
 ·simp [h]
theorem Rel.loadN {ι:Io} {D:Nat→Prop} {H:Heap} {w:World} (h:Rel ι D H w) {a:Addr} {n:Nat} {l:List Value} (hl:Qx H a n=some l) :
  ∃ cs:List Value,cs.length=n∧Q07 ι D l cs∧(∀ j v,cs[j]? = some v→w.cell? ((ι.addr a).add j)=some v)∧(∀ v∈l,isCell v=true):=by
 obtain ⟨k,hk,hv⟩:=Q2 hl
 have hb:=h.blk _ _ hk
 split at hv
 ·rename_i hle
  have hle:=Zi hle
  simp at hv
  subst hv
  have hlen:((k.cells.drop a.off).take n).length=n:=by simp;omega
  have hget:∀ j (hj:j < n),((k.cells.drop a.off).take n)[j]'(by omega)=k.cells[a.off+j]'(by omega):=by
   intro j hj;simp
  have hex:∀ j,j < n→∃ c,w.cell? ⟨(ι a.block).blk,(ι a.block).off+(a.off+j),none⟩=some c∧VRel ι D (((k.cells.drop a.off).take n).getD j undef) c∧isCell (((k.cells.drop a.off).take n).getD j undef)=true:=by
   intro j hj
   obtain ⟨c,h1,h2,h3⟩:=hb.cell (a.off+j) (by omega)
   have e:((k.cells.drop a.off).take n).getD j undef=k.cells[a.off+j]'(by omega):=by
    rw [Zr,Z6 (by omega),hget j hj];rfl
   exact ⟨c,h1,by rw [e];exact h2,by rw [e];exact h3⟩
  let f:Nat→Value:=fun j=>((w.cell? ⟨(ι a.block).blk,(ι a.block).off+(a.off+j),none⟩).getD undef)
  refine ⟨(List.range n).map f,by simp,⟨by simp [hlen],fun i h1 h2=>?_⟩,fun j v hj=>?_,fun v hv=>?_⟩
  ·obtain ⟨c,g1,g2,g3⟩:=hex i (by omega)
   simp only [List.getElem_map,List.getElem_range,f,g1,Option.getD_some]
   rw [Zr,Z6 h1] at g2
   exact g2
  ·have hjn:j < n:=by
    have:=(Z0 hj).1
    simpa using this
   obtain ⟨c,g1,g2,g3⟩:=hex j hjn
   simp only [List.getElem?_map,List.getElem?_range hjn,Option.map_some,f,g1,Option.getD_some,Option.some.injEq] at hj
   subst hj
   rw [Q80,Nat.add_assoc];exact g1
  ·obtain ⟨i,hi,e⟩:=List.getElem_of_mem hv
   obtain ⟨c,g1,g2,g3⟩:=hex i (by omega)
   rw [Zr,Z6 hi] at g3
   rw [← e];exact g3
 ·simp at hv
theorem Rel.load0 {ι:Io} {D:Nat→Prop} {H:Heap} {w:World} (h:Rel ι D H w) {a:Addr} {n:Nat} {l:List Value} (hl:Q0m H a n=some l) :
  ∃ cs:List Value,cs.length=n∧Q07 ι D l cs∧(∀ j v,cs[j]? = some v→w.cell? ((ι.addr a).add j)=some v)∧(∀ v∈l,isCell v=true):=by
 cases n with
 | zero =>
  simp only [Q0m,Option.some.injEq] at hl;subst hl
  exact ⟨[],rfl,Q07.nil ι D,by simp,by simp⟩
 | succ m=>exact h.loadN hl
theorem Q00 {H:Heap} {b:Nat} {x:Option Blk} (hb:b < H.length):hget (H.set b x) b=x:=by
 unfold hget;rw [List.getElem?_set_self hb];cases x<;>rfl
theorem Qm {H:Heap} {b c:Nat} {x:Option Blk} (hb:b≠c):hget (H.set b x) c=hget H c:=by
 unfold hget;rw [List.getElem?_set_ne hb]
theorem Q0h {H G:Heap} {b:Nat} (hb:b < H.length):hget (H++G) b=hget H b:=by
 unfold hget;rw [List.getElem?_append_left hb]
theorem Q3m (H:Heap) (k:Option Blk):hget (H++[k]) H.length=k:=by
 unfold hget;rw [Zq (Zd _)];simp;cases k<;>rfl
theorem Qpe {H:Heap} {n b:Nat} (hb:b < n):hget (H.take n) b=hget H b:=by
 unfold hget;rw [List.getElem?_take_of_lt hb]
theorem Q18 (b:Nat):∀ (vs:List Value) (o:Nat) (w:World) (k:Nat),k≠b→(w.setCells b o vs).heap[k]? = w.heap[k]?
 | [],_,_,_,_=>rfl
 | v::r,o,w,k,h=>by
  rw [World.setCells,Q18 b r (o+1) _ k h]
  simp only [World.setCell,Array.getElem?_modify]
  rw [if_neg (Ne.symm h)]
theorem Q19 (b:Nat):∀ (vs:List Value) (o:Nat) (w:World),(w.setCells b o vs).heap.size=w.heap.size
 | [],_,_=>rfl
 | v::r,o,w=>by rw [World.setCells,Q19 b r (o+1)];simp
theorem Qev (w:World) (a:Addr) (v:Value) (b:Nat):(w.setCell a v).shape? b=w.shape? b:=by
 simp only [World.setCell,World.shape?,Array.getElem?_modify]
 by_cases hb:a.block=b
 ·subst hb
  simp only [if_true]
  cases hh:w.heap[a.block]? with
  | none=>simp
  | some x=>cases x<;>simp;split<;>simp
 ·simp [hb]
theorem Q46 (b:Nat):∀ (vs:List Value) (o:Nat) (w:World) (k:Nat),(w.setCells b o vs).shape? k=w.shape? k
 | [],_,_,_=>rfl
 | v::r,o,w,k=>by rw [World.setCells,Q46 b r (o+1),Qev]
theorem Q76 (b:Nat):∀ (vs:List Value) (o:Nat) (w:World),(w.setCells b o vs).os=w.os∧(w.setCells b o vs).tape=w.tape∧(w.setCells b o vs).output=w.output
 | [],_,_=>⟨rfl,rfl,rfl⟩
 | v::r,o,w=>by rw [World.setCells];exact Q76 b r (o+1) _
theorem Q1i {l vs:List Value} {off:Nat} (h:off+vs.length≤l.length):(Q16 l off vs).length=l.length:=by
 unfold Q16;simp;omega
theorem Qmv {l vs:List Value} {off:Nat} (h:off+vs.length≤l.length) (i:Nat) :
  (Q16 l off vs)[i]? = if off≤i∧i < off+vs.length then vs[i - off]? else l[i]?:=by
 unfold Q16
 rw [List.append_assoc,List.getElem?_append]
 simp only [List.length_take,Nat.min_eq_left (show off≤l.length by omega)]
 by_cases h1:i < off
 ·rw [if_pos h1,if_neg (by omega),List.getElem?_take_of_lt h1]
 ·rw [if_neg h1,List.getElem?_append]
  by_cases h2:i < off+vs.length
  ·rw [if_pos (by omega),if_pos ⟨by omega,h2⟩]
  ·rw [if_neg (by omega),if_neg (by omega),Zp]
   congr 1;omega
theorem Qpf {ι:Io} {D:Nat→Prop} {w:World} {b off:Nat} {k:Blk} (hb:BRel ι D w b k) {es:List (Int×Int)} {vs cs:List Value} {o:Nat} (hes:k.mp=some es) (hfit:off+vs.length≤k.cells.length) (hlen:cs.length=vs.length) :
  Q16 k.cells off vs=[]∧(ι b).size=0∧Qzn (w.setCells (ι b).blk o cs) (ι b).blk es:=by
 obtain ⟨h1,h2,h3⟩:=hb.map es hes
 rw [h1] at hfit ⊢
 simp only [Zb] at hfit
 have hv:vs=[]:=Z1 (by omega)
 have hc:cs=[]:=Z1 (by rw [hlen,hv];rfl)
 subst hv hc
 exact ⟨by simp [Q16],h2,h3⟩
theorem Rel.store {P:Program} {ι:Io} {D:Nat→Prop} {H H':Heap} {w:World} {lim:Nat} (h:Rel ι D H w) {a:Addr} {vs cs:List Value} (hs:Q1u H lim a vs=some H') (hv:Q07 ι D vs cs) :
  (storeCells (ι.addr a) cs).run P w=.ok () (w.setCells (ι a.block).blk ((ι a.block).off+a.off) cs) ∧
  Rel ι D H' (w.setCells (ι a.block).blk ((ι a.block).off+a.off) cs)∧Fr ι H w ι H' (w.setCells (ι a.block).blk ((ι a.block).off+a.off) cs):=by
 obtain ⟨k,hk,hx⟩:=Q2 hs
 have hb:=h.blk _ _ hk
 have hlt:=Qs hk
 split at hx
 case h_2=>simp at hx
 case h_1 hro hcell hlim hfit =>
 simp at hx;subst hx
 have hfit:=Zi hfit
 have hlen:cs.length=vs.length:=hv.1.symm
 have hfit2:=hb.fit
 have hcs:∀ v∈cs,v.oneCell'=true:=by
  intro v hm
  obtain ⟨i,hi,e⟩:=List.getElem_of_mem hm
  have:=(hv.2 i (by omega) hi).isCell
  rw [← e,Q45,this]
  exact Z3 hcell _ (List.getElem_mem _)
 have hthere:∀ j,j < cs.length→(w.cell? ⟨(ι a.block).blk,(ι a.block).off+a.off+j,none⟩).isSome=true:=fun j hj=>by
  obtain ⟨ety,hshape⟩:=hb.shape (by omega)
  exact Q4v hshape (by omega)
 have hthaw:∀ j,j < cs.length→w.frozen? ⟨(ι a.block).blk,(ι a.block).off+a.off+j,none⟩=false:=fun j hj=>hb.thaw hro _ (by omega) (by omega)
 have hrun:=run_storeCells_cells (P:=P) (ι a.block).blk ((ι a.block).off+a.off) cs 0 w (by simpa using hthere) (by simpa using hthaw) hcs
 refine ⟨by rw [Nat.add_zero] at hrun;exact hrun,?_,?_⟩
 ·refine ⟨fun b k' hk'=>?_,fun b b' k1 k2 h1 h2 hne hr=>?_,fun b k' hk' hr=>(by
   by_cases e:a.block=b
   ·subst e;exact h.nog _ k hk hro
   ·rw [Qm e] at hk';exact h.nog b k' hk' hr),h.gw.stable (Nat.le_of_eq (Q19 _ _ _ _).symm) (fun q hq=>Q18 _ _ _ _ _ (by have:=h.nog _ k hk hro;omega))⟩
  ·by_cases e:a.block=b
   ·subst e
    rw [Q00 hlt] at hk'
    simp at hk';subst hk'
    refine ⟨by rw [Q19];exact hb.lt,fun h0=>by rw [Q46];exact hb.shape h0,fun es hes=>Qpf hb hes hfit hlen,by simp [Q1i hfit];exact hfit2,fun i hi=>?_,fun hr i h1 h2=>by rw [World.frozen?_setCells];exact hb.thaw hro i h1 h2⟩
    simp only [Q1i hfit] at hi
    have hg:=Qmv hfit i
    by_cases hin:a.off≤i∧i < a.off+vs.length
    ·rw [if_pos hin] at hg
     have hi':i - a.off < vs.length:=by omega
     have e1:(Q16 k.cells a.off vs)[i]'(by rw [Q1i hfit];exact hi)=vs[i - a.off]:=by
      have:=Z6 (l:=Q16 k.cells a.off vs) (i:=i) (by rw [Q1i hfit];exact hi)
      rw [this,Z6 hi'] at hg
      simpa using hg
     refine ⟨cs[i - a.off]'(by omega),?_,?_,?_⟩
     ·have:=World.cell?_setCells_in (ι a.block).blk cs ((ι a.block).off+a.off) w hthere (i - a.off) (by omega)
      rw [show (ι a.block).off+i=(ι a.block).off+a.off+(i - a.off) by omega];exact this
     ·simp only [e1];exact hv.2 _ hi' (by omega)
     ·simp only [e1];exact Z3 hcell _ (List.getElem_mem _)
    ·rw [if_neg hin] at hg
     have e1:(Q16 k.cells a.off vs)[i]'(by rw [Q1i hfit];exact hi)=k.cells[i]:=by
      have:=Z6 (l:=Q16 k.cells a.off vs) (i:=i) (by rw [Q1i hfit];exact hi)
      rw [this,Z6 hi] at hg
      simpa using hg
     obtain ⟨c,g1,g2,g3⟩:=hb.cell i hi
     refine ⟨c,?_,by simp only [e1];exact g2,by simp only [e1];exact g3⟩
     rw [World.cell?_setCells_out]
     ·exact g1
     ·intro _ _;simp only;omega
   ·rw [Qm e] at hk'
    refine (h.blk b k' hk').of_block ?_ rfl (fun _ _ _ x=>x)
    refine Q18 _ _ _ _ _ ?_
    exact h.inj b a.block k' k hk' hk (Ne.symm e) (.inr hro)
  ·by_cases e1:a.block=b
   ·subst e1
    rw [Qm hne] at h2
    rw [Q00 hlt] at h1
    exact h.inj a.block b' k k2 hk h2 hne (.inl hro)
   ·rw [Qm e1] at h1
    by_cases e2:a.block=b'
    ·subst e2
     exact h.inj b a.block k1 k h1 hk hne (.inr hro)
    ·rw [Qm e2] at h2
     exact h.inj b b' k1 k2 h1 h2 hne hr
 ·obtain ⟨o1,o2,o3⟩:=Q76 (ι a.block).blk cs ((ι a.block).off+a.off) w
  refine ⟨by simp,fun _ _=>rfl,o1,o2,o3,Nat.le_of_eq (Q19 _ _ _ _).symm,fun q hq hn=>?_,fun b blk hb' hr=>?_,fun b blk hb' hr=>?_⟩
  ·exact Q18 _ _ _ _ _ (Ne.symm (hn a.block k hk hro))
  ·by_cases e:a.block=b
   ·subst e;exact .inr ⟨a.block,k,hk,hro,rfl⟩
   ·rw [Qm e] at hb';exact .inr ⟨b,blk,hb',hr,rfl⟩
  ·by_cases e:a.block=b
   ·subst e
    rw [Q00 hlt] at hb'
    simp at hb';subst hb'
    simp [hro] at hr
   ·rw [Qm e] at hb';exact hb'
theorem Qd4 {H H':Heap} {lim:Nat} {a:Addr} {vs:List Value} (hs:Q1u H lim a vs=some H') (hv:LLt (Bel H.length) vs):Ab lim H H':=by
 obtain ⟨k,hk,hx⟩:=Q2 hs
 have hlt:=Qs hk
 split at hx
 case h_2=>simp at hx
 case h_1 hro hcell hlim hfit =>
 simp at hx;subst hx
 have key:∀ m,(∀ v∈vs,VLt (Bel m) v∨m≤a.block)→Ql m H→Ql m (H.set a.block (some { k with cells:=Q16 k.cells a.off vs })):=by
  intro m hm hc b hbm k' hk' v hv'
  by_cases e:a.block=b
  ·subst e
   rw [Q00 hlt] at hk'
   simp at hk';subst hk'
   simp only [Q16,Zh] at hv'
   rcases hv' with (h1 | h1) | h1
   ·exact hc _ hbm k hk v (List.mem_of_mem_take h1)
   ·rcases hm v h1 with h2 | h2
    ·exact h2
    ·omega
   ·exact hc _ hbm k hk v (List.mem_of_mem_drop h1)
  ·rw [Qm e] at hk';exact hc b hbm k' hk' v hv'
 refine ⟨by simp,fun h=>?_,fun m hm hml hc=>key m (fun v h1=>?_) hc⟩
 ·rw [List.length_set];exact key _ (fun v h1=>.inl (hv v h1)) h
 ·rcases Bool.or_eq_true_iff.1 hlim with h2 | h2
  ·exact .inl (Q0v (Z3 h2 v h1) _)
  ·have:=Zi h2;exact .inr (by omega)
def Io.set (ι:Io) (b:Nat) (l:Loc):Io:=fun c=>if c=b then l else ι c
theorem Io.set_same (ι:Io) (b:Nat) (l:Loc):ι.set b l b=l:=by simp [Io.set]
theorem Io.set_ne (ι:Io) {b c:Nat} (l:Loc) (h:c≠b):ι.set b l c=ι c:=by simp [Io.set,h]
theorem Q1a (w:World) (o:Obj) {k:Nat} (h:k < w.heap.size):(w.alloc o).heap[k]? = w.heap[k]?:=by
 show (w.heap.push o)[k]? = _
 rw [Array.getElem?_push,if_neg (by omega)]
theorem Rel.same_heap {ι:Io} {D:Nat→Prop} {H:Heap} {w w':World} (h:Rel ι D H w) (e:w'.heap=w.heap):Rel ι D H w' :=
 ⟨fun b k hk=>(h.blk b k hk).of_block (by rw [e]) rfl (fun _ _ _ x=>x),h.inj,h.nog,h.gw.heap e⟩
theorem Fr.same_heap {ι ι':Io} {H H':Heap} {w w' w'':World} (h:Fr ι H w ι' H' w') (e:w''.heap=w'.heap) (e1:w''.os=w'.os) (e2:w''.tape=w'.tape) (e3:w''.output=w'.output) :
  Fr ι H w ι' H' w'' :=
 ⟨h.len,h.io,e1.trans h.os,e2.trans h.tape,e3.trans h.output,e▸h.size,fun k hk hn=>by rw [e];exact h.frame k hk hn,h.new,h.ro⟩
theorem Q2u (w:World) (o:Obj):(w.alloc o).heap[w.heap.size]? = some o:=by
 show (w.heap.push _)[w.heap.size]? = _
 rw [Array.getElem?_push,if_pos rfl]
theorem Q5p (w:World) (arr:Array Value) (ety:TypeId) (fz:Nat×Nat):(w.alloc (.cells arr ety fz)).shape? w.heap.size=some (ety,arr.size):=by
 unfold World.shape?;rw [Q2u]
theorem Qck (w:World) (arr:Array Value) (ety:TypeId) (fz:Nat×Nat) (i:Nat):(w.alloc (.cells arr ety fz)).cell? ⟨w.heap.size,i,none⟩=arr[i]?:=by
 unfold World.cell?;simp only;rw [Q2u];simp
theorem Qa5 (w:World) (arr:Array Value) (ety:TypeId) (fz:Nat×Nat) (i:Nat):(w.alloc (.cells arr ety fz)).frozen? ⟨w.heap.size,i,none⟩=(decide (fz.1≤i)&&decide (i < fz.2)):=by
 unfold World.frozen?;simp only;rw [Q2u]
def Qjq (fz:Nat×Nat) (n:Nat):Prop:=∀ i,i < n→¬ (fz.1≤i∧i < fz.2)
theorem Qjq.zero (n:Nat):Qjq (0,0) n:=fun i _ h=>by simp at h
theorem Qjq.behind (n m:Nat):Qjq (n,m) n:=fun i hi h=>by have:=h.1;simp at this;omega
theorem Rel.fill {ι:Io} {D:Nat→Prop} {H:Heap} {w:World} (h:Rel ι D H w) {id:Nat} (hid:H[id]? = some none) (hD:¬ D id) {vs cs:List Value} (hv:Q07 ι D vs cs) (hc:∀ v∈vs,isCell v=true)
  (rest:List Value) (ety:TypeId) (fz:Nat×Nat) (hfz:Qjq fz (cs++rest).length) :
  Rel (ι.set id ⟨w.heap.size,0,(cs++rest).length⟩) (fun b=>D b∨b=id) (H.set id (some ⟨vs,false,none⟩)) (w.alloc (.cells (cs++rest).toArray ety fz)):=by
 have hlt:id < H.length:=(Z0 hid).1
 have hdead:hget H id=none:=by unfold hget;rw [hid]
 have hup:∀ {v c:Value},VRel ι D v c→VRel (ι.set id ⟨w.heap.size,0,(cs++rest).length⟩) (fun b=>D b∨b=id) v c :=
  fun hr=>hr.mono (fun _ hb=>.inl hb) fun b hb=>Io.set_ne _ _ (fun e=>hD (e▸hb))
 refine ⟨fun b k hk=>?_,fun b b' k k' h1 h2 hne hr=>?_,fun b k hk hr=>(by
  by_cases e:id=b
  ·subst e;rw [Io.set_same];exact h.gw.1
  ·rw [Qm e] at hk;rw [Io.set_ne _ _ (Ne.symm e)];exact h.nog b k hk hr),h.gw.stable (by simp) (fun q hq=>Q1a _ _ (by have:=h.gw.1;omega))⟩
 ·by_cases e:id=b
  ·subst e
   rw [Q00 hlt] at hk
   simp at hk;subst hk
   refine ⟨by rw [Io.set_same];simp,fun _=>⟨ety,?_⟩,fun es hes=>by simp at hes,?_,fun i hi=>?_,fun _ i _ hi=>?_⟩
   ·rw [Io.set_same,Q5p];simp
   ·rw [Io.set_same];simp [hv.1]
   ·rw [Io.set_same]
    simp only at hi
    have hi':i < cs.length:=by have:=hv.1;omega
    refine ⟨cs[i],?_,hup (hv.2 i hi hi'),hc _ (List.getElem_mem _)⟩
    rw [Zo,Qck]
    simp [List.getElem?_append_left hi',Z6 hi']
   ·rw [Io.set_same] at hi ⊢
    rw [Qa5]
    have:=hfz i hi
    simp;omega
  ·rw [Qm e] at hk
   exact (h.blk b k hk).of_block (Q1a _ _ (h.lt hk)) (Io.set_ne _ _ (Ne.symm e)) (fun i hi c hr=>hup hr)
 ·by_cases e1:id=b
  ·subst e1
   have e2:id≠b':=hne
   rw [Qm e2] at h2
   rw [Io.set_same,Io.set_ne _ _ (Ne.symm e2)]
   have:=h.lt h2
   simp only;omega
  ·rw [Qm e1] at h1
   by_cases e2:id=b'
   ·subst e2
    rw [Io.set_same,Io.set_ne _ _ (Ne.symm e1)]
    have:=h.lt h1
    simp only;omega
   ·rw [Qm e2] at h2
    rw [Io.set_ne _ _ (Ne.symm e1),Io.set_ne _ _ (Ne.symm e2)]
    exact h.inj b b' k k' h1 h2 hne hr
theorem Q2v (H:Heap) (b:Nat):hget (H++[none]) b=hget H b:=by
 by_cases hb:b < H.length
 ·exact Q0h hb
 ·have h1:hget H b=none:=by unfold hget;rw [List.getElem?_eq_none (by omega)]
  rw [h1]
  by_cases e:b=H.length
  ·subst e;exact Q3m H none
  ·unfold hget;rw [List.getElem?_eq_none (by simp;omega)]
theorem Rel.snoc_none {ι:Io} {D:Nat→Prop} {H:Heap} {w:World} (h:Rel ι D H w):Rel ι D (H++[none]) w :=
 ⟨fun b k hk=>h.blk b k (by rw [Q2v] at hk;exact hk),fun b b' k k' h1 h2=>h.inj b b' k k' (by rw [Q2v] at h1;exact h1) (by rw [Q2v] at h2;exact h2),fun b k hk hr=>h.nog b k (by rw [Q2v] at hk;exact hk) hr,h.gw⟩
theorem Rel.domain {ι:Io} {D E:Nat→Prop} {H:Heap} {w:World} (h:Rel ι D H w) (hDE:∀ b,D b→E b):Rel ι E H w :=
 ⟨fun b k hk=>(h.blk b k hk).of_block rfl rfl (fun _ _ _ hr=>hr.mono hDE fun _ _=>rfl),h.inj,h.nog,h.gw⟩
theorem Q5q {H:Heap} {cells:List Value} {b:Nat} (hb:b < H.length):hget (Q0d H cells) b=hget H b:=Q0h hb
theorem Q29 (H:Heap) (cells:List Value):hget (Q0d H cells) H.length=some ⟨cells,false,none⟩:=Q3m H _
theorem Qy (H:Heap) (cells:List Value):(Q0d H cells).length=H.length+1:=by simp [Q0d]
theorem Q1f {H:Heap} {cells:List Value} {b:Nat} {k:Blk} (h:hget (Q0d H cells) b=some k):(b < H.length∧hget H b=some k)∨(b=H.length∧k=⟨cells,false,none⟩):=by
 have hlt:=Qs h
 rw [Qy] at hlt
 by_cases e:b=H.length
 ·subst e;rw [Q29] at h;exact .inr ⟨rfl,(Option.some.inj h).symm⟩
 ·rw [Q5q (by omega)] at h;exact .inl ⟨by omega,h⟩
theorem Rel.push {ι:Io} {H:Heap} {w:World} (h:Rel ι (Bel H.length) H w) {vs cs:List Value} (hv:Q07 ι (Bel H.length) vs cs) (hc:∀ v∈vs,isCell v=true)
  (rest:List Value) (ety:TypeId) (fz:Nat×Nat) (hfz:Qjq fz (cs++rest).length) :
  Rel (ι.set H.length ⟨w.heap.size,0,(cs++rest).length⟩) (Bel (Q0d H vs).length) (Q0d H vs) (w.alloc (.cells (cs++rest).toArray ety fz)) ∧
  Fr ι H w (ι.set H.length ⟨w.heap.size,0,(cs++rest).length⟩) (Q0d H vs) (w.alloc (.cells (cs++rest).toArray ety fz)):=by
 constructor
 ·have h1:=(h.snoc_none).fill (id:=H.length) (by simp) (by simp [Bel]) hv hc rest ety fz hfz
  have e:(H++[none]).set H.length (some ⟨vs,false,none⟩)=Q0d H vs:=by simp [Q0d]
  rw [e] at h1
  exact h1.domain (by intro b hb;rw [Qy];simp [Bel] at hb ⊢;omega)
 ·refine ⟨by rw [Qy];omega,fun b hb=>Io.set_ne _ _ (by omega),rfl,rfl,rfl,by simp,fun k hk _=>Q1a _ _ hk,fun b blk hb hr=>?_,fun b blk hb hr=>?_⟩
  ·rcases Q1f hb with ⟨hlt,h1⟩ | ⟨rfl,rfl⟩
   ·exact .inr ⟨b,blk,h1,hr,by rw [Io.set_ne _ _ (by omega)]⟩
   ·exact .inl (by rw [Io.set_same];exact Zd _)
  ·rcases Q1f hb with ⟨hlt,h1⟩ | ⟨rfl,rfl⟩
   ·exact h1
   ·simp at hr
theorem Qew (lim:Nat) {H:Heap} {vs:List Value} (hv:LLt (Bel H.length) vs):Ab lim H (Q0d H vs):=by
 have key:∀ m,m≤H.length→Ql m H→Ql m (Q0d H vs):=by
  intro m hm hc b hb k hk v hv'
  rcases Q1f hk with ⟨hlt,h1⟩ | ⟨rfl,rfl⟩
  ·exact hc b hb k h1 v hv'
  ·omega
 refine ⟨by rw [Qy];omega,fun h=>?_,fun m _ hm hc=>key m hm hc⟩
 rw [Qy]
 intro b hb k hk v hv'
 rcases Q1f hk with ⟨hlt,h1⟩ | ⟨rfl,rfl⟩
 ·exact (h b hlt k h1 v hv').mono (Bel.mono (by omega))
 ·exact (hv v hv').mono (Bel.mono (by omega))
theorem Q5r {H:Heap} {b c:Nat} {k:Blk} (h:hget (H.set b none) c=some k):hget H c=some k:=by
 by_cases e:b=c
 ·subst e
  have hlt:=Qs h
  rw [List.length_set] at hlt
  rw [Q00 hlt] at h;simp at h
 ·rw [Qm e] at h;exact h
theorem Qw9 (lim:Nat) (H:Heap) (b:Nat):Ab lim H (H.set b none) :=
 ⟨by simp,fun h=>by rw [List.length_set];exact fun c hc k hk=>h c hc k (Q5r hk),fun m _ _ h c hc k hk=>h c hc k (Q5r hk)⟩
theorem Rel.trunc {ι:Io} {D:Nat→Prop} {H:Heap} {w:World} (h:Rel ι D H w) {b:Nat} {k:Blk} (hk:hget H b=some k) (hro:k.ro=false) (m:Nat) :
  hget (H.set b (some ⟨k.cells.take m,false,none⟩)) b=some ⟨k.cells.take m,false,none⟩∧Rel ι D (H.set b (some ⟨k.cells.take m,false,none⟩)) w∧Fr ι H w ι (H.set b (some ⟨k.cells.take m,false,none⟩)) w:=by
 have hlt:=Qs hk
 have hself:hget (H.set b (some ⟨k.cells.take m,false,none⟩)) b=some ⟨k.cells.take m,false,none⟩:=Q00 hlt
 have hcases:∀ {c:Nat} {q:Blk},hget (H.set b (some ⟨k.cells.take m,false,none⟩)) c=some q→(c=b∧q=⟨k.cells.take m,false,none⟩)∨(c≠b∧hget H c=some q):=by
  intro c q hq
  by_cases e:b=c
  ·subst e;rw [hself] at hq;injection hq with hq;exact .inl ⟨rfl,hq.symm⟩
  ·rw [Qm e] at hq;exact .inr ⟨fun x=>e x.symm,hq⟩
 have hb:=h.blk b k hk
 refine ⟨hself,⟨fun c q hq=>?_,fun c c' q q' h1 h2 hne hr=>?_,fun c q hq hr=>(by
  rcases hcases hq with ⟨rfl,rfl⟩ | ⟨_,g2⟩
  ·exact h.nog _ k hk hro
  ·exact h.nog c q g2 hr),h.gw⟩,⟨by simp,fun _ _=>rfl,rfl,rfl,rfl,Zd _,fun _ _ _=>rfl,fun c q hq hr=>?_,fun c q hq hr=>?_⟩⟩
 ·rcases hcases hq with ⟨rfl,rfl⟩ | ⟨g1,g2⟩
  ·refine ⟨hb.lt,hb.shape,fun es hes=>by simp at hes,?_,fun i hi=>?_,fun _=>hb.thaw hro⟩
   ·have:=hb.fit;simp only [List.length_take];omega
   ·simp only [List.length_take] at hi
    obtain ⟨c',e1,e2,e3⟩:=hb.cell i (by omega)
    exact ⟨c',e1,by simp only [List.getElem_take];exact e2,by simp only [List.getElem_take];exact e3⟩
  ·exact h.blk c q g2
 ·rcases hcases h1 with ⟨rfl,rfl⟩ | ⟨g1,g2⟩<;>rcases hcases h2 with ⟨rfl,rfl⟩ | ⟨k1,k2⟩
  ·exact absurd rfl hne
  ·exact h.inj c c' k q' hk k2 hne (.inl hro)
  ·exact h.inj c c' q k g2 hk hne (.inr hro)
  ·exact h.inj c c' q q' g2 k2 hne hr
 ·rcases hcases hq with ⟨rfl,rfl⟩ | ⟨g1,g2⟩
  ·exact .inr ⟨c,k,hk,hro,rfl⟩
  ·exact .inr ⟨c,q,g2,hr,rfl⟩
 ·rcases hcases hq with ⟨rfl,rfl⟩ | ⟨g1,g2⟩
  ·simp at hr
  ·exact g2
theorem Rel.kill {ι:Io} {D:Nat→Prop} {H:Heap} {w:World} (h:Rel ι D H w) (b:Nat):Rel ι D (H.set b none) w:=by
 have hk:∀ c k,hget (H.set b none) c=some k→hget H c=some k:=by
  intro c k hc
  by_cases e:b=c
  ·subst e
   have hlt:=Qs hc
   rw [List.length_set] at hlt
   rw [Q00 hlt] at hc;simp at hc
  ·rw [Qm e] at hc;exact hc
 exact ⟨fun c k hc=>h.blk c k (hk c k hc),fun c c' k k' h1 h2=>h.inj c c' k k' (hk c k h1) (hk c' k' h2),fun c k hc hr=>h.nog c k (hk c k hc) hr,h.gw⟩
theorem Rel.alias {ι:Io} {H:Heap} {w:World} (h:Rel ι (Bel H.length) H w) {b:Nat} {k:Blk} (hk:hget H b=some k) (hro:k.ro=false) {off:Nat} (hoff:off≤k.cells.length) {news cs:List Value} (hv:Q07 ι (Bel H.length) news cs)
  (hc:∀ v∈news,isCell v=true) (hfit:(ι b).off+k.cells.length+cs.length≤(ι b).size) :
  Rel (ι.set H.length ⟨(ι b).blk,(ι b).off+off,(ι b).size⟩) (Bel (H.length+1)) (Q0d (H.set b none) (k.cells.drop off++news)) (w.setCells (ι b).blk ((ι b).off+k.cells.length) cs) ∧
  Fr ι H w (ι.set H.length ⟨(ι b).blk,(ι b).off+off,(ι b).size⟩) (Q0d (H.set b none) (k.cells.drop off++news)) (w.setCells (ι b).blk ((ι b).off+k.cells.length) cs):=by
 have hb:=h.blk b k hk
 have hlt:=Qs hk
 have hlen:(H.set b none).length=H.length:=by simp
 have hup:∀ {v c:Value},VRel ι (Bel H.length) v c→VRel (ι.set H.length ⟨(ι b).blk,(ι b).off+off,(ι b).size⟩) (Bel (H.length+1)) v c :=
  fun hr=>hr.mono (Bel.mono (by omega)) fun c hc=>Io.set_ne _ _ (by simp [Bel] at hc;omega)
 have hthere:∀ j,j < cs.length→(w.cell? ⟨(ι b).blk,(ι b).off+k.cells.length+j,none⟩).isSome=true:=fun j hj=>by
  obtain ⟨ety,hshape⟩:=hb.shape (by omega)
  exact Q4v hshape (by omega)
 have hcases:∀ {c:Nat} {q:Blk},hget (Q0d (H.set b none) (k.cells.drop off++news)) c=some q→(c < H.length∧c≠b∧hget H c=some q)∨(c=H.length∧q=⟨k.cells.drop off++news,false,none⟩):=by
  intro c q hq
  rcases Q1f hq with ⟨h1,h2⟩ | ⟨h1,h2⟩
  ·rw [hlen] at h1
   refine .inl ⟨h1,fun e=>?_,Q5r h2⟩
   subst e;rw [Q00 hlt] at h2;simp at h2
  ·rw [hlen] at h1;exact .inr ⟨h1,h2⟩
 constructor
 ·refine ⟨fun c q hq=>?_,fun c c' q q' h1 h2 hne hr=>?_,fun c q hq hr=>(by
   rcases hcases hq with ⟨g1,g2,g3⟩ | ⟨rfl,rfl⟩
   ·rw [Io.set_ne _ _ (by omega)];exact h.nog c q g3 hr
   ·rw [Io.set_same];exact h.nog b k hk hro),h.gw.stable (Nat.le_of_eq (Q19 _ _ _ _).symm) (fun q hq=>Q18 _ _ _ _ _ (by have:=h.nog b k hk hro;omega))⟩
  ·rcases hcases hq with ⟨g1,g2,g3⟩ | ⟨rfl,rfl⟩
   ·refine (h.blk c q g3).of_block (Q18 _ _ _ _ _ (h.inj c b q k g3 hk g2 (.inr hro))) (Io.set_ne _ _ (by omega)) (fun _ _ _ hr=>hup hr)
   ·refine ⟨by rw [Io.set_same,Q19];exact hb.lt,fun h0=>by rw [Io.set_same] at h0;rw [Io.set_same,Q46];exact hb.shape h0,fun es hes=>by simp at hes,?_,fun i hi=>?_,fun _ i h1 h2=>?_⟩
    ·rw [Io.set_same];simp [hv.1];omega
    ·rw [Io.set_same]
     simp only [Zf,List.length_drop] at hi
     by_cases hi':i < k.cells.length - off
     ·obtain ⟨c,g1,g2,g3⟩:=hb.cell (off+i) (by omega)
      have e:(k.cells.drop off++news)[i]'(by simp;omega)=k.cells[off+i]'(by omega):=by
       rw [List.getElem_append_left (by simp;omega)];simp
      refine ⟨c,?_,by simp only [e];exact hup g2,by simp only [e];exact g3⟩
      rw [World.cell?_setCells_out]
      ·rw [Nat.add_assoc];exact g1
      ·intro _ _;left;simp only;omega
     ·have hj:i - (k.cells.length - off) < news.length:=by omega
      have e:(k.cells.drop off++news)[i]'(by simp;omega)=news[i - (k.cells.length - off)]:=by
       rw [List.getElem_append_right (by simp;omega)];simp
      refine ⟨cs[i - (k.cells.length - off)]'(by have:=hv.1;omega),?_,by simp only [e];exact hup (hv.2 _ _ _),by simp only [e];exact hc _ (List.getElem_mem _)⟩
      have:=World.cell?_setCells_in (ι b).blk cs ((ι b).off+k.cells.length) w hthere (i - (k.cells.length - off)) (by have:=hv.1;omega)
      rw [show (ι b).off+off+i=(ι b).off+k.cells.length+(i - (k.cells.length - off)) by omega]
      exact this
    ·rw [Io.set_same] at h1 h2 ⊢
     rw [World.frozen?_setCells]
     exact hb.thaw hro i (by simp only at h1;omega) h2
  ·rcases hcases h1 with ⟨g1,g2,g3⟩ | ⟨rfl,rfl⟩
   ·rcases hcases h2 with ⟨k1,k2,k3⟩ | ⟨rfl,rfl⟩
    ·rw [Io.set_ne _ _ (by omega),Io.set_ne _ _ (by omega)];exact h.inj c c' q q' g3 k3 hne hr
    ·rw [Io.set_ne _ _ (by omega),Io.set_same];exact h.inj c b q k g3 hk g2 (.inr hro)
   ·rcases hcases h2 with ⟨k1,k2,k3⟩ | ⟨rfl,rfl⟩
    ·rw [Io.set_same,Io.set_ne _ _ (by omega)];exact h.inj b c' k q' hk k3 (Ne.symm k2) (.inl hro)
    ·exact absurd rfl hne
 ·obtain ⟨o1,o2,o3⟩:=Q76 (ι b).blk cs ((ι b).off+k.cells.length) w
  refine ⟨by rw [Qy,hlen];omega,fun c hc=>Io.set_ne _ _ (by omega),o1,o2,o3,Nat.le_of_eq (Q19 _ _ _ _).symm,fun q hq hn=>Q18 _ _ _ _ _ (Ne.symm (hn b k hk hro)),fun c q hq hr=>?_,fun c q hq hr=>?_⟩
  ·rcases hcases hq with ⟨g1,g2,g3⟩ | ⟨rfl,rfl⟩
   ·exact .inr ⟨c,q,g3,hr,by rw [Io.set_ne _ _ (by omega)]⟩
   ·exact .inr ⟨b,k,hk,hro,by rw [Io.set_same]⟩
  ·rcases hcases hq with ⟨g1,g2,g3⟩ | ⟨rfl,rfl⟩
   ·exact g3
   ·simp at hr
section
variable {α β γ:Type}
theorem obind_none (f:α→Option β):Q1 none f=none:=rfl
theorem Qex {tm v:Value} {K:Value→Option β} {r:β} (h:Qa2 tm v K=some r):K v=some r:=by
 unfold Qa2 at h
 split at h
 ·unfold Qw5 at h;split at h
  ·split at h
   ·rename_i hk;subst hk;exact h
   ·simp at h
  ·simp at h
 ·unfold Qb2 at h;split at h
  ·exact h
  ·simp at h
 ·unfold Qym at h;split at h
  ·exact h
  ·simp at h
 ·unfold vSl at h;split at h
  ·exact h
  ·simp at h
 ·unfold Qyn at h;split at h
  ·exact h
  ·simp at h
 ·unfold Q5c at h;split at h
  ·exact h
  ·simp at h
 ·unfold vFn at h;split at h
  ·exact h
  ·simp at h
 ·exact h
theorem Qhf {r:β}:∀ {tms vs:List Value} {K:List Value→Option β},Qb4 tms vs K=some r→K vs=some r
 | [],vs,K,h=>by
  unfold Qb4 Qx1 at h
  split at h
  ·exact h
  ·simp at h
 | t::ts,vs,K,h=>by
  unfold Qb4 Qb3 at h
  split at h
  ·have h1:=Qex h
   exact Qhf (K:=fun l=>K (_::l)) h1
  ·simp at h
theorem Q81 {tm v:Value} {K:Value→Option β} {r:β} (h:Qa3 tm v K=some r):K v=some r:=by
 unfold Qa3 at h
 split at h
 ·unfold Qyo at h
  split at h
  ·rename_i cs;exact Qhf (K:=fun l=>K (.agg l.toArray)) h
  ·simp at h
 ·exact Qex h
theorem Qhg {r:β}:∀ {tms vs:List Value} {K:List Value→Option β},Qb5 tms vs K=some r→K vs=some r
 | [],vs,K,h=>by
  unfold Qb5 Qx1 at h
  split at h
  ·exact h
  ·simp at h
 | t::ts,vs,K,h=>by
  unfold Qb5 Qb3 at h
  split at h
  ·have h1:=Q81 h
   exact Qhg (K:=fun l=>K (_::l)) h1
  ·simp at h
theorem Qsf {tm v:Value} {K:Value→Option β} {r:β} (h:Qh8 tm v K=some r):K v=some r:=by
 unfold Qh8 at h
 split at h
 ·unfold Qyp at h
  split at h
  ·rename_i cs;exact Qhg (K:=fun l=>K (.tuple l.toArray)) h
  ·simp at h
 ·exact Q81 h
end
structure PureF (P:Program) (nt:Nat) (o:Oper) (env:Env) (v:Value):Prop where
 run:∀ (ι:Io) (D:Nat→Prop) (a:Act) (w:World),ERel ι D nt env a→∃ c,(execOp a.eval o).run P w=.ok (.value c) w∧VRel ι D v c
 lt:∀ D:Nat→Prop,Q0o D env→VLt D v
section inv
variable {ι:Io} {D:Nat→Prop} {c:Value}
theorem VRel.inv_bool {b:Bool} (h:VRel ι D (.bool b) c):c=.bool b:=by cases h;rfl
theorem VRel.inv_int {k:IntKind} {n:Int} (h:VRel ι D (.int k n) c):c=.int k n:=by cases h;rfl
theorem VRel.inv_str {s:ByteArray} (h:VRel ι D (.string s) c):c=.string s:=by cases h;rfl
theorem VRel.inv_ptr {a:Addr} (h:VRel ι D (.pointer (some a)) c):c=.pointer (some (ι.addr a))∧D a.block:=by cases h;exact ⟨rfl,by assumption⟩
theorem VRel.inv_agg {xs:Array Value} (h:VRel ι D (.agg xs) c):∃ ys:Array Value,c=.agg ys∧Q07 ι D xs.toList ys.toList:=by
 cases h with
 | agg xs ys hl h=>exact ⟨⟨ys⟩,rfl,hl,h⟩
theorem VRel.inv_tuple {xs:Array Value} (h:VRel ι D (.tuple xs) c):∃ ys:Array Value,c=.tuple ys∧Q07 ι D xs.toList ys.toList:=by
 cases h with
 | tuple xs ys hl h=>exact ⟨⟨ys⟩,rfl,hl,h⟩
theorem VRel.inv_func {f:FuncId} {xs ys:Array Value} (h:VRel ι D (.func (.func f) xs ys) c):∃ xs' ys':Array Value,c=.func (.func f) xs' ys'∧Q07 ι D xs.toList xs'.toList∧Q07 ι D ys.toList ys'.toList:=by
 cases h with
 | func f xs ys xs' ys' hl h hl' h'=>exact ⟨⟨ys⟩,⟨ys'⟩,rfl,⟨hl,h⟩,⟨hl',h'⟩⟩
theorem VRel.inv_sl {a:Option Addr} {n m:Nat} (h:VRel ι D (.slice a n m) c):∃ a' cap,c=.slice a' n cap∧a'.isNone=a.isNone∧n≤cap:=by
 cases h with
 | slNil=>exact ⟨none,0,rfl,rfl,Zd _⟩
 | slGo a len c cap h hl hc=>exact ⟨_,cap,rfl,rfl,hl⟩
 | slEmpty a b c h=>exact ⟨_,0,rfl,rfl,Zd _⟩
end inv
theorem Q07.mkAgg {ι:Io} {D:Nat→Prop} {xs ys:Array Value} (h:Q07 ι D xs.toList ys.toList):VRel ι D (.agg xs) (.agg ys):=.agg xs.toList ys.toList h.1 h.2
theorem Q07.get {ι:Io} {D:Nat→Prop} {xs ys:List Value} (h:Q07 ι D xs ys) {i:Nat} {v:Value} (hv:xs[i]? = some v):∃ c,ys[i]? = some c∧VRel ι D v c:=by
 obtain ⟨hi,e⟩:=Z0 hv
 have hj:i < ys.length:=by have:=h.1;omega
 exact ⟨ys[i],Z6 hj,e▸h.2 i hi hj⟩
theorem VLt.agg_mem {D:Nat→Prop} {xs:Array Value} (h:VLt D (.agg xs)):∀ v∈xs.toList,VLt D v:=by
 cases h with
 | agg xs h=>intro v hv;obtain ⟨i,hi,e⟩:=List.getElem_of_mem hv;exact e▸h i hi
theorem VLt.tuple_mem {D:Nat→Prop} {xs:Array Value} (h:VLt D (.tuple xs)):∀ v∈xs.toList,VLt D v:=by
 cases h with
 | tuple xs h=>intro v hv;obtain ⟨i,hi,e⟩:=List.getElem_of_mem hv;exact e▸h i hi
theorem VLt.func_mem {D:Nat→Prop} {f:FuncId} {xs ys:Array Value} (h:VLt D (.func (.func f) xs ys)):LLt D xs.toList∧LLt D ys.toList:=by
 cases h with
 | func f xs ys h h'=>exact ⟨fun v hv=>by obtain ⟨i,hi,e⟩:=List.getElem_of_mem hv;exact e▸h i hi,fun v hv=>by obtain ⟨i,hi,e⟩:=List.getElem_of_mem hv;exact e▸h' i hi⟩
theorem VLt.mkAgg {D:Nat→Prop} {xs:Array Value} (h:∀ v∈xs.toList,VLt D v):VLt D (.agg xs):=.agg xs.toList fun i hi=>h _ (List.getElem_mem hi)
theorem VLt.ptr_inv {D:Nat→Prop} {a:Addr} (h:VLt D (.pointer (some a))):D a.block:=by cases h;assumption
theorem VLt.sl_inv {D:Nat→Prop} {a:Addr} {n m:Nat} (h:VLt D (.slice (some a) n m)):D a.block:=by cases h;assumption
section
variable {P:Program} {nt:Nat} {o:Oper} {env:Env} {H:Heap} {X:Cx} {β:Type} {K:Value→Heap→Option β} {r:β}
theorem Qpg {x:Operand} {v:Value} (ho:o.op=.move x) (hx:ev env x=some v):PureF P nt o env v :=
 ⟨fun ι D a w h=>⟨a.eval x,by simp [execOp,ho],Qd h hx⟩,fun D h=>Q5o h hx⟩
theorem Qjr {x:Operand} {v:Value} (ho:o.op=.assign x) (hx:ev env x=some v):PureF P nt o env v :=
 ⟨fun ι D a w h=>⟨a.eval x,by simp [execOp,ho],Qd h hx⟩,fun D h=>Q5o h hx⟩
theorem Qhh {c x y:Operand} {t:Bool} {v:Value} (ho:o.op=.pick c x y) (hc:ev env c=some (.bool t)) (hv:ev env (if t then x else y)=some v):PureF P nt o env v:=by
 refine ⟨fun ι D a w h=>⟨a.eval (if t then x else y),?_,Qd h hv⟩,fun D h=>Q5o h hv⟩
 have:=(Qd h hc).inv_bool
 cases t<;>simp [execOp,ho,this,asBool]
theorem Q96 {x:Operand} {p:Addr} (ho:o.op=.nilCheck x) (hx:ev env x=some (.pointer (some p))):PureF P nt o env (.pointer (some p)):=by
 refine ⟨fun ι D a w h=>⟨a.eval x,?_,Qd h hx⟩,fun D h=>Q5o h hx⟩
 have:=(Qd h hx).inv_ptr.1
 simp [execOp,ho,this]
theorem Q82 {x:Operand} {f:FuncId} {xs ys:Array Value} (ho:o.op=.nilCheck x) (hx:ev env x=some (.func (.func f) xs ys)):PureF P nt o env (.func (.func f) xs ys):=by
 refine ⟨fun ι D a w h=>⟨a.eval x,?_,Qd h hx⟩,fun D h=>Q5o h hx⟩
 obtain ⟨xs',ys',e,_⟩:=(Qd h hx).inv_func
 simp [execOp,ho,e]
theorem Qhi {x:Operand} {i:Nat} {vs:Array Value} {u:Value} (ho:o.op=.extract x i) (hx:ev env x=some (.tuple vs)) (hu:vs[i]? = some u):PureF P nt o env u:=by
 refine ⟨fun ι D a w h=>?_,fun D h=>(Q5o h hx).tuple_mem u (by rw [← Array.getElem?_toList] at hu;exact Zc hu)⟩
 obtain ⟨ys,e,hl⟩:=(Qd h hx).inv_tuple
 rw [← Array.getElem?_toList] at hu
 obtain ⟨c,h1,h2⟩:=hl.get hu
 rw [Array.getElem?_toList] at h1
 exact ⟨c,by simp [execOp,ho,e,Instr.extract,h1],h2⟩
theorem Q07.toArray {ι:Io} {D:Nat→Prop} {xs ys:List Value} (h:Q07 ι D xs ys):Q07 ι D xs.toArray.toList ys.toArray.toList:=h
theorem Qey {f:FuncId} {first cap:Array Operand} {fs cs:List Value} (ho:o.op=.makeFunc (.func f) first cap) (h1:evs env first.toList=some fs) (h2:evs env cap.toList=some cs) :
  PureF P nt o env (.func (.func f) fs.toArray cs.toArray):=by
 refine ⟨fun ι D a w h=>⟨.func (.func f) (first.map a.eval) (cap.map a.eval),by simp [execOp,ho,Instr.makeFunc],?_⟩,fun D h=>?_⟩
 ·have e1:=Qet h h1
  have e2:=Qet h h2
  have:=VRel.func (ι:=ι) (D:=D) f fs (first.toList.map a.eval) cs (cap.toList.map a.eval) e1.1 e1.2 e2.1 e2.2
  rw [← Array.toList_map,← Array.toList_map] at this
  exact this
 ·exact .func f fs cs (fun i hi=>Qle h h1 _ (List.getElem_mem hi)) (fun i hi=>Qle h h2 _ (List.getElem_mem hi))
theorem Qph {op:UnOp} {t:TypeId} {x:Operand} {u v:Value} (ho:o.op=.unOp op t x) (hx:ev env x=some u) (hu:unA op u some=some v):PureF P nt o env v:=by
 unfold unA at hu
 split at hu
 ·simp at hu;subst hu
  exact ⟨fun ι D a w h=>⟨_,by simp [execOp,ho,(Qd h hx).inv_bool,Op.unary],.bool _⟩,fun D h=>.bool _⟩
 ·simp at hu;subst hu
  exact ⟨fun ι D a w h=>⟨_,by simp [execOp,ho,(Qd h hx).inv_int,Op.unary,Op.intArith],.int _ _⟩,fun D h=>.int _ _⟩
 ·simp at hu
theorem Qez {op:UnOp} {u:Value} {K:Value→Option β} {r:β} (h:unA op u K=some r):∃ v,unA op u some=some v∧K v=some r:=by
 unfold unA at h ⊢
 split at h
 ·exact ⟨_,rfl,h⟩
 ·exact ⟨_,rfl,h⟩
 ·simp at h
end
section
variable {P:Program} {nt:Nat} {o:Oper} {env:Env} {H:Heap} {X:Cx} {β:Type} {K:Value→Heap→Option β} {r:β}
def Qpi:Value→Value→Bool
 | .nilIface,.nilIface=>false
 | .agg _,.agg _=>false
 | _,_=>true
theorem Q2a (op:BinOp) (t:TypeId) (x y:Operand) (a b:Value) (w:World) (h:Qpi a b=true):(eqGuard op t x y a b).run P w=.ok () w:=by
 unfold eqGuard
 cases op<;>simp<;>(split<;>simp_all [Qpi])
theorem Qpj {op:BinOp} {k:IntKind} {a b:Int} {K:Value→Option β} {r:β} (h:Qpa op k a b K=some r) :
  ∃ v,K v=some r∧(∀ D,VLt D v)∧(∀ ι D,VRel ι D v v)∧∀ (t:TypeId) (w:World),(op≠.shl∧op≠.shr)→(binOp op t (.int k a) (.int k b)).run P w=.ok v w:=by
 unfold Qpa at h
 cases op<;>simp only at h
 case add=>exact ⟨_,h,fun _=>.int _ _,fun _ _=>.int _ _,fun t w _=>by simp [binOp,Op.intArith]⟩
 case sub=>exact ⟨_,h,fun _=>.int _ _,fun _ _=>.int _ _,fun t w _=>by simp [binOp,Op.intArith]⟩
 case mul=>exact ⟨_,h,fun _=>.int _ _,fun _ _=>.int _ _,fun t w _=>by simp [binOp,Op.intArith]⟩
 case quo =>
  rcases Q0b h with ⟨_,h⟩ | ⟨hb,h⟩
  ·simp at h
  ·have hb:¬ b=0:=by simpa using hb
   exact ⟨_,h,fun _=>.int _ _,fun _ _=>.int _ _,fun t w _=>by simp [binOp,Op.intDiv,hb]⟩
 case rem =>
  rcases Q0b h with ⟨_,h⟩ | ⟨hb,h⟩
  ·simp at h
  ·have hb:¬ b=0:=by simpa using hb
   exact ⟨_,h,fun _=>.int _ _,fun _ _=>.int _ _,fun t w _=>by simp [binOp,Op.intDiv,hb]⟩
 case and=>exact ⟨_,h,fun _=>.int _ _,fun _ _=>.int _ _,fun t w _=>by simp [binOp,Op.intBits]⟩
 case or=>exact ⟨_,h,fun _=>.int _ _,fun _ _=>.int _ _,fun t w _=>by simp [binOp,Op.intBits]⟩
 case xor=>exact ⟨_,h,fun _=>.int _ _,fun _ _=>.int _ _,fun t w _=>by simp [binOp,Op.intBits]⟩
 case shl=>simp at h
 case shr=>simp at h
 case andNot=>exact ⟨_,h,fun _=>.int _ _,fun _ _=>.int _ _,fun t w _=>by simp [binOp,Op.intBits]⟩
 case eql=>exact ⟨_,h,fun _=>.bool _,fun _ _=>.bool _,fun t w _=>by simp [binOp,Op.intCmp]⟩
 case neq=>exact ⟨_,h,fun _=>.bool _,fun _ _=>.bool _,fun t w _=>by simp [binOp,Op.intCmp]⟩
 case lss=>exact ⟨_,h,fun _=>.bool _,fun _ _=>.bool _,fun t w _=>by simp [binOp,Op.intCmp]⟩
 case leq=>exact ⟨_,h,fun _=>.bool _,fun _ _=>.bool _,fun t w _=>by simp [binOp,Op.intCmp]⟩
 case gtr=>exact ⟨_,h,fun _=>.bool _,fun _ _=>.bool _,fun t w _=>by simp [binOp,Op.intCmp]⟩
 case geq=>exact ⟨_,h,fun _=>.bool _,fun _ _=>.bool _,fun t w _=>by simp [binOp,Op.intCmp]⟩
theorem Qb9 {op:BinOp} {k k':IntKind} {a b:Int} {K:Value→Option β} {r:β} (h:Q93 op k a b K=some r) :
  ∃ v,K v=some r∧(∀ D,VLt D v)∧(∀ ι D,VRel ι D v v)∧∀ (t:TypeId) (w:World),(binOp op t (.int k a) (.int k' b)).run P w=.ok v w:=by
 unfold Q93 at h
 rcases Q0b h with ⟨_,h⟩ | ⟨hb,h⟩
 ·simp at h
 ·have hb:¬ b < 0:=by simpa using hb
  cases op<;>simp only at h<;>try (simp at h;done)
  case shl=>exact ⟨_,h,fun _=>.int _ _,fun _ _=>.int _ _,fun t w=>by simp [binOp,Op.shift,hb]⟩
  case shr=>exact ⟨_,h,fun _=>.int _ _,fun _ _=>.int _ _,fun t w=>by simp [binOp,Op.shift,hb]⟩
theorem Qpk {op:BinOp} {a b:ByteArray} {K:Value→Option β} {r:β} (h:Qpb op a b K=some r) :
  ∃ v,K v=some r∧(∀ D,VLt D v)∧(∀ ι D,VRel ι D v v)∧∀ (t:TypeId) (w:World),(binOp op t (.string a) (.string b)).run P w=.ok v w:=by
 unfold Qpb at h
 cases op<;>simp only at h<;>try (simp at h;done)
 case add =>
  rcases Q0b h with ⟨hb,h⟩ | ⟨_,h⟩
  ·have hb:=Zi hb
   refine ⟨_,h,fun _=>.str _,fun _ _=>.str _,fun t w=>?_⟩
   simp [binOp,Op.stringOp]
   omega
  ·simp at h
 case eql=>exact ⟨_,h,fun _=>.bool _,fun _ _=>.bool _,fun t w=>by simp [binOp,Op.stringOp]⟩
 case neq=>exact ⟨_,h,fun _=>.bool _,fun _ _=>.bool _,fun t w=>by simp [binOp,Op.stringOp]⟩
 case lss=>exact ⟨_,h,fun _=>.bool _,fun _ _=>.bool _,fun t w=>by simp [binOp,Op.stringOp]⟩
 case leq=>exact ⟨_,h,fun _=>.bool _,fun _ _=>.bool _,fun t w=>by simp [binOp,Op.stringOp]⟩
 case gtr=>exact ⟨_,h,fun _=>.bool _,fun _ _=>.bool _,fun t w=>by simp [binOp,Op.stringOp]⟩
 case geq=>exact ⟨_,h,fun _=>.bool _,fun _ _=>.bool _,fun t w=>by simp [binOp,Op.stringOp]⟩
theorem Qaf {op:BinOp} {q:Bool} {K:Value→Option β} {r:β} (h:Qms op q K=some r) :
  ∃ b,K (.bool b)=some r∧((op=.eql∧b=q)∨(op=.neq∧b = !q)):=by
 unfold Qms at h
 cases op<;>simp only at h<;>try (simp at h;done)
 case eql=>exact ⟨_,h,.inl ⟨rfl,rfl⟩⟩
 case neq=>exact ⟨_,h,.inr ⟨rfl,rfl⟩⟩
theorem Q32 {t:TypeId} {cs:Array Value} {off:Nat} {v:Value} (h:Q27 P t cs off=some v) (w:World):(part t cs off).run P w=.ok v w:=by
 unfold Q27 at h
 obtain ⟨i,hi,h⟩:=Q2 h
 split at h
 ·rename_i hu;simp at h;subst h
  simp [part,isAgg,run_underlying hu,sizeOf,typeInfo,hi]
 ·rename_i hu;simp at h;subst h
  simp [part,isAgg,run_underlying hu,sizeOf,typeInfo,hi]
 ·rename_i d h1 h2 hu
  have:(isAgg t).run P w=.ok false w:=by
   simp only [isAgg,Sem.run_bind,run_underlying hu,Result.andThen_ok]
   cases d<;>simp_all
  simp [part,this,h]
 ·simp at h
inductive Flat:Value→Prop
 | bool (b:Bool):Flat (.bool b)
 | int (k:IntKind) (n:Int):Flat (.int k n)
 | str (s:ByteArray):Flat (.string s)
theorem Qpl:∀ (d:Nat) (e:Nat) {t:TypeId} {x y:Value} {q:Bool},eqA P d t x y=some q→∀ w:World,(Op.equalIn (d+e) t x y).run P w=.ok q w
 | 0,e,t,x,y,q,h,w=>by simp [eqA] at h
 | d+1,e,t,x,y,q,h,w=>by
  rw [show d+1+e=(d+e)+1 by omega]
  unfold eqA at h
  split at h
  ·rename_i hu;simp at h;subst h;exact run_equalIn_bool w _ t _ _ hu
  ·rename_i hu
   split at h
   ·rename_i hk;subst hk;simp at h;subst h;exact run_equalIn_int w _ t _ _ _ _ hu
   ·simp at h
  ·rename_i hu;simp at h;subst h;exact run_equalIn_string w _ t _ _ hu
  ·rename_i fs xs ys hu
   split at h
   ·rename_i hst
    have hf:P.fieldsOf t=fs:=by simp [Program.fieldsOf,hu]
    rw [run_equalIn_struct w (d+e) t xs ys (by rw [hf];exact hu) hst,hf]
    generalize fs.toList=l at h
    clear hu hf
    induction l generalizing q with
    | nil=>simp [Qx2] at h;subst h;simp [Op.eqFields]
    | cons f fs ih =>
     unfold Qx2 at h
     split at h
     ·simp at h
     ·rename_i hn
      obtain ⟨a,ha,h⟩:=Q2 h
      obtain ⟨b,hb,h⟩:=Q2 h
      obtain ⟨c,hc,h⟩:=Q2 h
      obtain ⟨s,hs,h⟩:=Q2 h
      simp at h;subst h
      have ih':=ih _ hs
      have he:=Qpl d e hc w
      simp only [Op.eqFields,ne_eq,hn,not_false_eq_true,if_true,Sem.run_bind,Q32 ha,Q32 hb,Result.andThen_ok,he]
      cases c
      ·simp
      ·simp [ih']
   ·simp at h
  ·simp at h
theorem Qlf:∀ (d:Nat) {t:TypeId} {x y:Value} {q:Bool},eqA P d t x y=some q→∀ {ι:Io} {D:Nat→Prop} {x' y':Value},VRel ι D x x'→VRel ι D y y'→eqA P d t x' y'=some q
 | 0,t,x,y,q,h,_,_,_,_,_,_=>by simp [eqA] at h
 | d+1,t,x,y,q,h,ι,D,x',y',hx,hy=>by
  unfold eqA at h
  split at h
  ·rename_i hu;rw [hx.inv_bool,hy.inv_bool];simp [eqA,hu];simpa using h
  ·rename_i hu;rw [hx.inv_int,hy.inv_int];simp only [eqA,hu];exact h
  ·rename_i hu;rw [hx.inv_str,hy.inv_str];simp only [eqA,hu];exact h
  ·rename_i fs xs ys hu
   obtain ⟨xs',rfl,hxs⟩:=hx.inv_agg
   obtain ⟨ys',rfl,hys⟩:=hy.inv_agg
   unfold eqA
   simp only [hu]
   cases hst:P.stoodInHeld t with
   | true=>rw [hst] at h;simp at h
   | false =>
    rw [hst] at h
    simp only at h ⊢
    have hpart:∀ (f:Field) (zs zs':Array Value) (v:Value),Q07 ι D zs.toList zs'.toList→Q27 P f.type zs f.offset=some v→∃ v',Q27 P f.type zs' f.offset=some v'∧VRel ι D v v':=by
     intro f zs zs' v hz hp
     unfold Q27 at hp ⊢
     obtain ⟨i,hi,hp⟩:=Q2 hp
     rw [hi];simp only [Q1]
     have hex:Q07 ι D (zs.extract f.offset (f.offset+i.size)).toList (zs'.extract f.offset (f.offset+i.size)).toList:=by
      simp only [Array.toList_extract,List.extract]
      refine ⟨by simp [hz.1],fun j h1 h2=>?_⟩
      simp only [List.getElem_take,List.getElem_drop]
      exact hz.2 _ _ _
     split at hp
     ·simp at hp;subst hp;exact ⟨_,rfl,hex.mkAgg⟩
     ·simp at hp;subst hp;exact ⟨_,rfl,hex.mkAgg⟩
     ·rw [← Array.getElem?_toList] at hp ⊢
      exact hz.get hp
     ·simp at hp
    generalize fs.toList=l at h
    induction l generalizing q with
    | nil=>simpa [Qx2] using h
    | cons f fs ih =>
     unfold Qx2 at h ⊢
     split at h
     ·simp at h
     ·rename_i hn
      rw [if_neg hn]
      obtain ⟨a,ha,h⟩:=Q2 h
      obtain ⟨b,hb,h⟩:=Q2 h
      obtain ⟨c,hc,h⟩:=Q2 h
      obtain ⟨s,hs,h⟩:=Q2 h
      obtain ⟨a',ha',ra⟩:=hpart f xs xs' a hxs ha
      obtain ⟨b',hb',rb⟩:=hpart f ys ys' b hys hb
      rw [ha',hb'];simp only [Q1]
      rw [Qlf d hc ra rb,ih _ hs]
      exact h
  ·simp at h
theorem Q97 (w:World) (d:Nat) {t e:TypeId} (hu:P.underlying t=some (.slice e)) (a:Option Addr) (n m n' m':Nat):(Op.equalIn (d+1) t (.slice a n m) (.slice none n' m')).run P w=.ok a.isNone w:=by
 cases a<;>simp [Op.equalIn,run_underlying hu]
theorem Q83 (w:World) (d:Nat) {t e:TypeId} (hu:P.underlying t=some (.pointer e)) (a:Option Addr):(Op.equalIn (d+1) t (.pointer a) (.pointer none)).run P w=.ok a.isNone w:=by
 cases a<;>simp [Op.equalIn,run_underlying hu]
theorem Qpm {op:BinOp} {t t':TypeId} {x y:Operand} {u v:Value} {K:Value→Option β} {r:β} (ho:o.op=.binOp op t x y t') (hx:ev env x=some u) (hy:ev env y=some v) (h:Qpc P op t u v K=some r) :
  ∃ z,K z=some r∧PureF P nt o env z:=by
 have hex:∀ (a:Act) (w:World) (z:Value),(eqGuard op t x y (a.eval x) (a.eval y)).run P w=.ok () w→(binOp op t (a.eval x) (a.eval y)).run P w=.ok z w→(execOp a.eval o).run P w=.ok (.value z) w:=by
  intro a w z h1 h2;simp [execOp,ho,h1,h2]
 unfold Qpc at h
 split at h
 ·rename_i k a k' b
  have hg:∀ (c:Act) (w:World),c.eval x=.int k a→c.eval y=.int k' b→(eqGuard op t x y (c.eval x) (c.eval y)).run P w=.ok () w:=fun c w e1 e2=>by rw [e1,e2];exact Q2a _ _ _ _ _ _ _ rfl
  split at h
  ·obtain ⟨z,h1,h2,h3,h4⟩:=Qb9 (P:=P) (k':=k') h
   exact ⟨z,h1,fun ι D c w he=>⟨z,hex c w z (hg c w (Qd he hx).inv_int (Qd he hy).inv_int) (by rw [(Qd he hx).inv_int,(Qd he hy).inv_int];exact h4 t w),h3 ι D⟩,fun D _=>h2 D⟩
  ·obtain ⟨z,h1,h2,h3,h4⟩:=Qb9 (P:=P) (k':=k') h
   exact ⟨z,h1,fun ι D c w he=>⟨z,hex c w z (hg c w (Qd he hx).inv_int (Qd he hy).inv_int) (by rw [(Qd he hx).inv_int,(Qd he hy).inv_int];exact h4 t w),h3 ι D⟩,fun D _=>h2 D⟩
  ·rename_i n1 n2
   split at h
   ·rename_i hk;subst hk
    obtain ⟨z,h1,h2,h3,h4⟩:=Qpj (P:=P) h
    exact ⟨z,h1,fun ι D c w he=>⟨z,hex c w z (hg c w (Qd he hx).inv_int (Qd he hy).inv_int) (by rw [(Qd he hx).inv_int,(Qd he hy).inv_int];exact h4 t w ⟨fun e=>n1 e,fun e=>n2 e⟩),h3 ι D⟩,fun D _=>h2 D⟩
   ·simp at h
 ·obtain ⟨z,h1,h2,h3,h4⟩:=Qpk (P:=P) h
  exact ⟨z,h1,fun ι D c w he=>⟨z,hex c w z (by rw [(Qd he hx).inv_str,(Qd he hy).inv_str];exact Q2a _ _ _ _ _ _ _ rfl) (by rw [(Qd he hx).inv_str,(Qd he hy).inv_str];exact h4 t w),h3 ι D⟩,fun D _=>h2 D⟩
 ·split at h
  ·rename_i hu
   obtain ⟨b,h1,h2⟩:=Qaf h
   refine ⟨_,h1,fun ι D c w he=>⟨_,hex c w _ (by rw [(Qd he hx).inv_bool,(Qd he hy).inv_bool];exact Q2a _ _ _ _ _ _ _ rfl) ?_,.bool _⟩,fun D _=>.bool _⟩
   rw [(Qd he hx).inv_bool,(Qd he hy).inv_bool]
   rcases h2 with ⟨rfl,rfl⟩ | ⟨rfl,rfl⟩
   ·exact run_eql_bool w t _ _ hu
   ·exact run_neq_bool w t _ _ hu
  ·simp at h
 ·rename_i xs ys
  split at h
  ·rename_i hgd
   obtain ⟨q,hq,h⟩:=Q2 h
   obtain ⟨b,h1,h2⟩:=Qaf h
   refine ⟨_,h1,fun ι D c w he=>?_,fun D _=>.bool _⟩
   have hq':=Qlf 20 hq (Qd he hx) (Qd he hy)
   obtain ⟨xs',e1,_⟩:=(Qd he hx).inv_agg
   obtain ⟨ys',e2,_⟩:=(Qd he hy).inv_agg
   have hr:=Qpl (P:=P) 20 9980 hq' w
   refine ⟨_,hex c w _ (by rw [e1,e2];exact run_eqGuard_agg w op t x y xs' ys' hgd) ?_,.bool _⟩
   rw [e1,e2] at hr ⊢
   rcases h2 with ⟨rfl,rfl⟩ | ⟨rfl,rfl⟩
   ·rw [run_eql_struct,hr];rfl
   ·rw [run_neq_struct,hr];rfl
  ·simp at h
 ·rename_i a n m n' m'
  split at h
  ·rename_i e hu
   obtain ⟨b,h1,h2⟩:=Qaf h
   refine ⟨_,h1,fun ι D c w he=>?_,fun D _=>.bool _⟩
   obtain ⟨a1,c1,e1,i1,_⟩:=(Qd he hx).inv_sl
   obtain ⟨a2,c2,e2,i2,_⟩:=(Qd he hy).inv_sl
   have i2':a2=none:=by simpa using i2
   subst i2'
   refine ⟨_,hex c w _ (by rw [e1,e2];exact Q2a _ _ _ _ _ _ _ rfl) ?_,.bool _⟩
   have hq:(Op.equal t (.slice a1 n c1) (.slice none n' c2)).run P w=.ok a1.isNone w:=Q97 w 9999 hu a1 n c1 n' c2
   rw [e1,e2]
   rcases h2 with ⟨rfl,rfl⟩ | ⟨rfl,rfl⟩<;>simp only [binOp]<;>simp [hq,i1]
  ·simp at h
 ·rename_i a
  split at h
  ·rename_i e hu
   obtain ⟨b,h1,h2⟩:=Qaf h
   refine ⟨_,h1,fun ι D c w he=>?_,fun D _=>.bool _⟩
   have e2:c.eval y=.pointer none:=by
    have:=Qd he hy
    cases hq:c.eval y<;>rw [hq] at this<;>cases this;rfl
   have e1:∃ a',c.eval x=.pointer a'∧a'.isNone=a.isNone:=by
    have:=Qd he hx
    cases a with
    | none=>cases hq:c.eval x<;>rw [hq] at this<;>cases this;exact ⟨none,rfl,rfl⟩
    | some p=>exact ⟨_,this.inv_ptr.1,rfl⟩
   obtain ⟨a',e1,i1⟩:=e1
   refine ⟨_,hex c w _ (by rw [e1,e2];exact Q2a _ _ _ _ _ _ _ rfl) ?_,.bool _⟩
   have hq:(Op.equal t (.pointer a') (.pointer none)).run P w=.ok a'.isNone w:=Q83 w 9999 hu a'
   rw [e1,e2]
   rcases h2 with ⟨rfl,rfl⟩ | ⟨rfl,rfl⟩<;>simp only [binOp]<;>simp [hq,i1]
  ·simp at h
 ·simp at h
theorem Q98 {v:Value} {K:Nat→Option β} {r:β} (h:Qa4 v K=some r):∃ n:Nat,v=.int .i64 (n:Int)∧K n=some r:=by
 unfold Qa4 at h
 split at h
 ·rename_i n
  rcases Q0b h with ⟨hn,h⟩ | ⟨_,h⟩
  ·have hn:0≤n:=by simpa using hn
   exact ⟨n.toNat,by rw [Int.toNat_of_nonneg hn],h⟩
  ·simp at h
 ·simp at h
theorem Q84 {v:Value} {K:Nat→Option β} {r:β} (h:Quh v K=some r):∃ (kd:IntKind) (n:Nat),v=.int kd (n:Int)∧K n=some r:=by
 unfold Quh at h
 split at h
 ·rename_i kd n
  rcases Q0b h with ⟨hn,h⟩ | ⟨_,h⟩
  ·have hn:0≤n:=by simpa using hn
   exact ⟨kd,n.toNat,by rw [Int.toNat_of_nonneg hn],h⟩
  ·simp at h
 ·simp at h
theorem Q4f {v:Value} {K:Addr→Option β} {r:β} (h:Q5c v K=some r):∃ p,v=.pointer (some p)∧K p=some r:=by
 unfold Q5c at h;split at h
 ·exact ⟨_,rfl,h⟩
 ·simp at h
theorem Qlg {v:Value} {K:Addr→Nat→Nat→Option β} {r:β} (h:slS v K=some r):∃ p n c,v=.slice (some p) n c∧K p n c=some r:=by
 unfold slS at h;split at h
 ·exact ⟨_,_,_,rfl,h⟩
 ·simp at h
theorem Qlh {v:Value} {K:Option Addr→Nat→Nat→Option β} {r:β} (h:vSl v K=some r):∃ a n c,v=.slice a n c∧K a n c=some r:=by
 unfold vSl at h;split at h
 ·exact ⟨_,_,_,rfl,h⟩
 ·simp at h
theorem Q3y {x:Option Operand} {d:Nat} {K:Nat→Option β} {r:β} (h:Q17 env x d K=some r) :
  ∃ n,K n=some r∧((x=none∧n=d)∨∃ y,x=some y∧ev env y=some (.int .i64 (n:Int))):=by
 unfold Q17 at h
 split at h
 ·exact ⟨d,h,.inl ⟨rfl,rfl⟩⟩
 ·rename_i y
  obtain ⟨v,hv,h⟩:=Q2 h
  obtain ⟨n,rfl,h⟩:=Q98 h
  exact ⟨n,h,.inr ⟨y,rfl,hv⟩⟩
theorem Qcl {s:TypeId} {x:Operand} {f:Nat} {p:Addr} {fs:Array Field} {fd:Field} {i:TypeInfo} (ho:o.op=.fieldAddr s x f) (hx:ev env x=some (.pointer (some p))) (hs:P.underlying s=some (.struct fs)) (hf:fs[f]? = some fd)
  (hi:P.info? fd.type=some i) (hz:Nat.beq i.size 0=false):PureF P nt o env (.pointer (some ⟨p.block,p.off+fd.offset,none⟩)):=by
 refine ⟨fun ι D a w h=>?_,fun D h=>.ptr _ (Q5o h hx).ptr_inv⟩
 obtain ⟨e,hD⟩:=(Qd h hx).inv_ptr
 refine ⟨.pointer (some (ι.addr ⟨p.block,p.off+fd.offset,none⟩)),?_,.ptr _ hD⟩
 have hz':i.size≠0:=Nat.ne_of_beq_eq_false hz
 have ha:(ι.addr p).add fd.offset=ι.addr ⟨p.block,p.off+fd.offset,none⟩:=by
  rw [Q80];simp only [Io.addr,Nat.add_assoc]
 simp [execOp,ho,e,Instr.fieldAt,Instr.sureAddr,run_underlying hs,hf,fieldPlace,sizeOf,typeInfo,hi,hz',ha]
theorem Qmw {t:TypeId} {x:Operand} {f:Nat} {cs:Array Value} {fs:Array Field} {fd:Field} {u:Value} (ho:o.op=.field t x f) (hx:ev env x=some (.agg cs)) (hs:P.underlying t=some (.struct fs)) (hf:fs[f]? = some fd)
  (hu:Q27 P fd.type cs fd.offset=some u):PureF P nt o env u:=by
 have key:∀ (R:Value→Prop) (Q:Array Value→Prop),True:=fun _ _=>trivial
 unfold Q27 at hu
 obtain ⟨i,hi,hu⟩:=Q2 hu
 refine ⟨fun ι D a w h=>?_,fun D h=>?_⟩
 ·obtain ⟨ys,e,hl⟩:=(Qd h hx).inv_agg
  have hex:Q07 ι D (cs.extract fd.offset (fd.offset+i.size)).toList (ys.extract fd.offset (fd.offset+i.size)).toList:=by
   simp only [Array.toList_extract,List.extract]
   refine ⟨by simp [hl.1],fun j h1 h2=>?_⟩
   simp only [List.getElem_take,List.getElem_drop]
   exact hl.2 _ _ _
  have hrun:∀ c,(part fd.type ys fd.offset).run P w=.ok c w→(execOp a.eval o).run P w=.ok (.value c) w:=by
   intro c hc;simp [execOp,ho,e,Instr.field,run_underlying hs,hf,asAgg,hc]
  split at hu
  ·rename_i hu';simp at hu;subst hu
   exact ⟨_,hrun _ (Q32 (by unfold Q27;rw [hi];simp only [Q1,hu']) w),hex.mkAgg⟩
  ·rename_i hu';simp at hu;subst hu
   exact ⟨_,hrun _ (Q32 (by unfold Q27;rw [hi];simp only [Q1,hu']) w),hex.mkAgg⟩
  ·rename_i d n1 n2 hu'
   rw [← Array.getElem?_toList] at hu
   obtain ⟨c,h1,h2⟩:=hl.get hu
   refine ⟨c,hrun _ (Q32 ?_ w),h2⟩
   unfold Q27;rw [hi];simp only [Q1,hu']
   rw [Array.getElem?_toList] at h1
   exact h1
  ·simp at hu
 ·have hm:=(Q5o h hx).agg_mem
  have hex:∀ v∈(cs.extract fd.offset (fd.offset+i.size)).toList,VLt D v:=by
   intro v hv
   simp only [Array.toList_extract,List.extract] at hv
   exact hm v (List.mem_of_mem_drop (List.mem_of_mem_take hv))
  split at hu
  ·simp at hu;subst hu;exact VLt.mkAgg hex
  ·simp at hu;subst hu;exact VLt.mkAgg hex
  ·rw [← Array.getElem?_toList] at hu;exact hm u (Zc hu)
  ·simp at hu
theorem VRel.sl_addr {ι:Io} {D:Nat→Prop} {p:Addr} {n m:Nat} {c:Value} (h:VRel ι D (.slice (some p) n m) c) (hn:0 < n) :
  ∃ cap,c=.slice (some (ι.addr p)) n cap∧D p.block∧n≤cap∧(ι p.block).off+p.off+cap*m≤(ι p.block).size:=by
 cases h with
 | slGo a len c cap h hl hc=>exact ⟨cap,rfl,h,hl,hc⟩
 | slEmpty a b c h=>omega
theorem Qcm {t e:TypeId} {x ix:Operand} {p:Addr} {n m k:Nat} {kd:IntKind} {i:TypeInfo} (ho:o.op=.indexAddr t x ix) (hx:ev env x=some (.slice (some p) n m)) (hix:ev env ix=some (.int kd (k:Int))) (hu:P.underlying t=some (.slice e))
  (hi:P.info? e=some i) (hk:k < n):PureF P nt o env (.pointer (some ⟨p.block,p.off+k*i.size,none⟩)):=by
 refine ⟨fun ι D a w h=>?_,fun D h=>.ptr _ (Q5o h hx).sl_inv⟩
 obtain ⟨cap,ex,hD,hl,hc⟩:=(Qd h hx).sl_addr (by omega)
 have eix:=(Qd h hix).inv_int
 refine ⟨.pointer (some (ι.addr ⟨p.block,p.off+k*i.size,none⟩)),?_,.ptr _ hD⟩
 have ha:(ι.addr p).add (k*i.size)=ι.addr ⟨p.block,p.off+k*i.size,none⟩:=by
  rw [Q80];simp only [Io.addr,Nat.add_assoc]
 have h0:(0:Int)≤(k:Int)∧(k:Int) < (n:Int):=⟨by omega,by omega⟩
 have hrun:(Instr.indexAt t (.slice (some (ι.addr p)) n cap) (.int kd (k:Int))).run P w=.ok (.pointer (some ((ι.addr p).add (k*i.size)))) w:=by
  simp only [Instr.indexAt,asIntOf,Sem.run_bind,Sem.run_pure,Result.andThen_ok,run_underlying hu,Bool.and_false]
  rw [if_pos h0]
  simp [sizeOf,typeInfo,hi]
 rw [ha] at hrun
 simp only [execOp,ho,ex,eix,Sem.run_bind,hrun,Result.andThen_ok,Sem.run_pure]
theorem Qf0 {t e:TypeId} {x ix:Operand} {p:Addr} {n k:Nat} {kd:IntKind} {i:TypeInfo} (ho:o.op=.indexAddr t x ix) (hx:ev env x=some (.pointer (some p))) (hix:ev env ix=some (.int kd (k:Int))) (hu:P.underlying t=some (.array n e))
  (hi:P.info? e=some i) (hk:k < n):PureF P nt o env (.pointer (some ⟨p.block,p.off+k*i.size,none⟩)):=by
 refine ⟨fun ι D a w h=>?_,fun D h=>.ptr _ (Q5o h hx).ptr_inv⟩
 obtain ⟨ex,hD⟩:=(Qd h hx).inv_ptr
 have eix:=(Qd h hix).inv_int
 refine ⟨.pointer (some (ι.addr ⟨p.block,p.off+k*i.size,none⟩)),?_,.ptr _ hD⟩
 have ha:(ι.addr p).add (k*i.size)=ι.addr ⟨p.block,p.off+k*i.size,none⟩:=by
  rw [Q80];simp only [Io.addr,Nat.add_assoc]
 have h0:(0:Int)≤(k:Int)∧(k:Int) < (n:Int):=⟨by omega,by omega⟩
 have hrun:(Instr.indexAt t (.pointer (some (ι.addr p))) (.int kd (k:Int))).run P w=.ok (.pointer (some ((ι.addr p).add (k*i.size)))) w:=by
  simp only [Instr.indexAt,asIntOf,Instr.sureAddr,Sem.run_bind,Sem.run_pure,Result.andThen_ok,run_underlying hu]
  rw [if_pos h0]
  simp [sizeOf,typeInfo,hi]
 rw [ha] at hrun
 simp only [execOp,ho,ex,eix,Sem.run_bind,hrun,Result.andThen_ok,Sem.run_pure]
theorem Qf1 {t e:TypeId} {x ix:Operand} {cs:Array Value} {n k:Nat} {kd:IntKind} {i:TypeInfo} {u:Value} (ho:o.op=.index t x ix) (hx:ev env x=some (.agg cs)) (hix:ev env ix=some (.int kd (k:Int))) (hs:P.underlying t=some (.array n e))
  (hi':P.info? e=some i) (hk:k < n) (hu:Q27 P e cs (k*i.size)=some u):PureF P nt o env u:=by
 unfold Q27 at hu
 obtain ⟨i2,hi,hu⟩:=Q2 hu
 rw [hi'] at hi;injection hi with hi;subst hi
 refine ⟨fun ι D a w h=>?_,fun D h=>?_⟩
 ·obtain ⟨ys,ex,hl⟩:=(Qd h hx).inv_agg
  have eix:=(Qd h hix).inv_int
  have hex:Q07 ι D (cs.extract (k*i.size) (k*i.size+i.size)).toList (ys.extract (k*i.size) (k*i.size+i.size)).toList:=by
   simp only [Array.toList_extract,List.extract]
   refine ⟨by simp [hl.1],fun j h1 h2=>?_⟩
   simp only [List.getElem_take,List.getElem_drop]
   exact hl.2 _ _ _
  have h0:(0:Int)≤(k:Int)∧(k:Int) < (n:Int):=⟨by omega,by omega⟩
  have hrun:∀ c,(part e ys (k*i.size)).run P w=.ok c w→(execOp a.eval o).run P w=.ok (.value c) w:=by
   intro c hc
   have hr2:(Instr.index t (.agg ys) (.int kd (k:Int))).run P w=.ok c w:=by
    simp only [Instr.index,asIntOf,Sem.run_bind,Sem.run_pure,Result.andThen_ok,run_underlying hs]
    rw [if_pos h0]
    simp [sizeOf,typeInfo,hi',hc]
   simp only [execOp,ho,ex,eix,Sem.run_bind,hr2,Result.andThen_ok,Sem.run_pure]
  split at hu
  ·rename_i hu';simp at hu;subst hu
   exact ⟨_,hrun _ (Q32 (by unfold Q27;rw [hi'];simp only [Q1,hu']) w),hex.mkAgg⟩
  ·rename_i hu';simp at hu;subst hu
   exact ⟨_,hrun _ (Q32 (by unfold Q27;rw [hi'];simp only [Q1,hu']) w),hex.mkAgg⟩
  ·rename_i d n1 n2 hu'
   rw [← Array.getElem?_toList] at hu
   obtain ⟨c,h1,h2⟩:=hl.get hu
   refine ⟨c,hrun _ (Q32 ?_ w),h2⟩
   unfold Q27;rw [hi'];simp only [Q1,hu']
   rw [Array.getElem?_toList] at h1
   exact h1
  ·simp at hu
 ·have hm:=(Q5o h hx).agg_mem
  have hex:∀ v∈(cs.extract (k*i.size) (k*i.size+i.size)).toList,VLt D v:=by
   intro v hv
   simp only [Array.toList_extract,List.extract] at hv
   exact hm v (List.mem_of_mem_drop (List.mem_of_mem_take hv))
  split at hu
  ·simp at hu;subst hu;exact VLt.mkAgg hex
  ·simp at hu;subst hu;exact VLt.mkAgg hex
  ·rw [← Array.getElem?_toList] at hu;exact hm u (Zc hu)
  ·simp at hu
theorem Qmx {t:TypeId} {x ix:Operand} {s:ByteArray} {k:Nat} {kd:IntKind} {b:UInt8} (ho:o.op=.index t x ix) (hx:ev env x=some (.string s)) (hix:ev env ix=some (.int kd (k:Int))) (hu:P.underlying t=some .string)
  (hb:s.data.toList[k]? = some b):PureF P nt o env (.int .u8 b.toNat):=by
 refine ⟨fun ι D a w h=>⟨_,?_,.int _ _⟩,fun D h=>.int _ _⟩
 have ex:=(Qd h hx).inv_str
 have eix:=(Qd h hix).inv_int
 have hb':s[k]? = some b:=by
  rw [Array.getElem?_toList] at hb
  obtain ⟨h1,h2⟩:=Array.getElem?_eq_some_iff.1 hb
  rw [getElem?_pos s k (show k < s.data.size from h1)]
  simp only [Option.some.injEq]
  exact h2
 simp [execOp,ho,ex,eix,Instr.index,asIntOf,run_underlying hu,hb']
end
end Go.Ev
