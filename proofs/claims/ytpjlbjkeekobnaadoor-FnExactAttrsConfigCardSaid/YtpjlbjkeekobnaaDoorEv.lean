/-
  A deterministic abstract interpreter over the model's own code (definitions only): abstract blocks by position, values with abstract block numbers.
  Conditions: none; its soundness is proved in the texts that follow.
-/
import Derived.Calls
import Derived.Orders
import Derived.Laws.StructEq
import Derived.Laws.Tables
namespace Go.Ev

/-- An abstract block: its cells, and whether it may only be read. (In an abstract slice the last number is that of an element's cells.) -/
structure Blk where
  cells : List Value
  ro : Bool

abbrev Env := List (Nat × Value)
abbrev Heap := List (Option Blk)

def obind {α β : Type} (x : Option α) (f : α → Option β) : Option β :=
  match x with
  | some a => f a
  | none => none

def oif {β : Type} (b : Bool) (x y : Option β) : Option β := match b with | true => x | false => y

def eget : Env → Nat → Option Value
  | [], _ => none
  | (s, v) :: r, t => match Nat.beq s t with | true => some v | false => eget r t

/-- A value of one cell without an address. -/
def leafOk : Value → Bool
  | .bool _ | .int _ _ | .string _ | .nilFunc | .nilIface | .pointer none => true
  | .slice none 0 0 => true
  | _ => false

def noRef : Value → Bool
  | .agg cs => cs.toList.all leafOk
  | .tuple cs => cs.toList.all leafOk
  | v => leafOk v

def isCell : Value → Bool
  | .agg _ | .tuple _ => false
  | _ => true

def hget (H : Heap) (b : Nat) : Option Blk := match H[b]? with | some (some k) => some k | _ => none

def hload (H : Heap) (a : Addr) : Option Value := obind (hget H a.block) fun k => k.cells[a.off]?

def hloadN (H : Heap) (a : Addr) (n : Nat) : Option (List Value) :=
  obind (hget H a.block) fun k => match Nat.ble (a.off + n) k.cells.length with | true => some ((k.cells.drop a.off).take n) | false => none

/-- The same, where nothing is read if there is nothing to read. -/
def hload0 (H : Heap) (a : Addr) (n : Nat) : Option (List Value) := match n with | 0 => some [] | m + 1 => hloadN H a (m + 1)

/-- The list with the cells from a place on replaced. -/
def spliceAt (l : List Value) (off : Nat) (vs : List Value) : List Value := l.take off ++ vs ++ l.drop (off + vs.length)

def hstoreN (H : Heap) (lim : Nat) (a : Addr) (vs : List Value) : Option Heap :=
  obind (hget H a.block) fun k =>
    match k.ro, vs.all isCell, vs.all leafOk || Nat.ble lim a.block, Nat.ble (a.off + vs.length) k.cells.length with
    | false, true, true, true => some (H.set a.block (some { k with cells := spliceAt k.cells a.off vs }))
    | _, _, _, _ => none

def hpush (H : Heap) (cells : List Value) : Heap := H ++ [some ⟨cells, false⟩]

/-- The variables that are held lie below. -/
def gN : Nat := 1
/-- What is held of them. -/
def gTabs : List (Nat × List Value) := [(0, [.string ⟨#[113, 100, 105, 115, 99]⟩, .string ⟨#[100, 101, 102, 97, 117, 108, 116]⟩, .string ⟨#[99, 108, 97, 115, 115]⟩, .string ⟨#[114, 97, 116, 101]⟩, .string ⟨#[99, 101, 105, 108]⟩, .string ⟨#[98, 117, 114, 115, 116]⟩, .string ⟨#[99, 98, 117, 114, 115, 116]⟩, .string ⟨#[112, 114, 105, 111]⟩, .string ⟨#[108, 105, 109, 105, 116]⟩, .string ⟨#[102, 105, 108, 116, 101, 114]⟩, .string ⟨#[115, 111, 117, 114, 99, 101]⟩, .string ⟨#[100, 101, 115, 116]⟩, .string ⟨#[112, 111, 114, 116]⟩, .string ⟨#[109, 97, 114, 107]⟩])]

def gFind : List (Nat × List Value) → Nat → Option (List Value)
  | [], _ => none
  | (a, l) :: r, g => match Nat.beq a g with | true => some l | false => gFind r g

/-- The whole of a variable that is held: an array of values without addresses. -/
def gRead (P : Program) (t : TypeId) (x : Operand) : Option Value := match x with
  | .global g => obind (gFind gTabs g) fun l => obind (P.info? t) fun i => match P.underlying t with
    | some (.array _ _) => match Nat.beq l.length i.size, l.all leafOk with
      | true, true => some (.agg l.toArray)
      | _, _ => none
    | _ => none
  | _ => none

theorem gRead_some {P : Program} {t : TypeId} {x : Operand} {v : Value} (h : gRead P t x = some v) : ∃ g l i n e, x = .global g ∧ gFind gTabs g = some l ∧ P.info? t = some i ∧ P.underlying t = some (.array n e) ∧ l.length = i.size ∧ l.all leafOk = true ∧ v = .agg l.toArray := by
  have os : ∀ {α γ : Type} {x : Option α} {f : α → Option γ} {r : γ}, obind x f = some r → ∃ a, x = some a ∧ f a = some r := by
    intro α γ x f r h
    cases x with
    | none => simp [obind] at h
    | some a => exact ⟨a, rfl, h⟩
  unfold gRead at h
  split at h
  · rename_i g
    replace h := os h; obtain ⟨l, hl, h⟩ := h
    replace h := os h; obtain ⟨i, hi, h⟩ := h
    split at h
    · rename_i n e hu
      split at h
      · rename_i h1 h2
        injection h with h
        exact ⟨g, l, i, n, e, rfl, hl, hi, hu, Nat.eq_of_beq_eq_true h1, h2, h.symm⟩
      · simp at h
    · simp at h
  · simp at h

section view
variable {β : Type}

def vInt (k : IntKind) (v : Value) (K : Int → Option β) : Option β :=
  match v with
  | .int k' n => if k' = k then K n else none
  | _ => none
def vBool (v : Value) (K : Bool → Option β) : Option β := match v with | .bool b => K b | _ => none
def vStr (v : Value) (K : ByteArray → Option β) : Option β := match v with | .string b => K b | _ => none
def vSl (v : Value) (K : Option Addr → Nat → Nat → Option β) : Option β := match v with | .slice a n c => K a n c | _ => none
def vPtr (v : Value) (K : Option Addr → Option β) : Option β := match v with | .pointer a => K a | _ => none
def vAgg (v : Value) (K : List Value → Option β) : Option β := match v with | .agg cs => K cs.toList | _ => none
def vTup (v : Value) (K : List Value → Option β) : Option β := match v with | .tuple cs => K cs.toList | _ => none
def vCons (l : List Value) (K : Value → List Value → Option β) : Option β := match l with | v :: r => K v r | [] => none
def vNil (l : List Value) (K : Option β) : Option β := match l with | [] => K | _ :: _ => none

def vFn (v : Value) (K : FuncId → Array Value → Array Value → Option β) : Option β := match v with | .func (.func f) a b => K f a b | _ => none
def ptrS (v : Value) (K : Addr → Option β) : Option β := match v with | .pointer (some p) => K p | _ => none
def slS (v : Value) (K : Addr → Nat → Nat → Option β) : Option β := match v with | .slice (some p) n c => K p n c | _ => none

def viewL (tm v : Value) (K : Value → Option β) : Option β :=
  match tm with
  | .int k _ => vInt k v fun n => K (.int k n)
  | .bool _ => vBool v fun b => K (.bool b)
  | .string _ => vStr v fun s => K (.string s)
  | .slice _ _ _ => vSl v fun a n c => K (.slice a n c)
  | .pointer none => vPtr v fun a => K (.pointer a)
  | .pointer (some _) => ptrS v fun p => K (.pointer (some p))
  | .nilFunc => vFn v fun f a b => K (.func (.func f) a b)
  | _ => K v

def viewLs (tms vs : List Value) (K : List Value → Option β) : Option β :=
  match tms with
  | [] => vNil vs (K [])
  | t :: ts => vCons vs fun v r => viewL t v fun v' => viewLs ts r fun l => K (v' :: l)

def viewA (tm v : Value) (K : Value → Option β) : Option β :=
  match tm with
  | .agg cs => vAgg v fun vs => viewLs cs.toList vs fun l => K (.agg l.toArray)
  | t => viewL t v K

def viewAs (tms vs : List Value) (K : List Value → Option β) : Option β :=
  match tms with
  | [] => vNil vs (K [])
  | t :: ts => vCons vs fun v r => viewA t v fun v' => viewAs ts r fun l => K (v' :: l)

def viewT (tm v : Value) (K : Value → Option β) : Option β :=
  match tm with
  | .tuple ts => vTup v fun vs => viewAs ts.toList vs fun l => K (.tuple l.toArray)
  | t => viewA t v K

end view

/-- The zero value of a type: the pattern by which a loaded value is taken apart. -/
def zeroOf (P : Program) (t : TypeId) : Option Value := obind (P.info? t) fun i => i.zero

def zerosOf (P : Program) : List TypeId → Option (List Value)
  | [] => some []
  | t :: ts => obind (zeroOf P t) fun z => obind (zerosOf P ts) fun l => some (z :: l)

def tmplOf (P : Program) (t : TypeId) : Option Value :=
  obind (P.info? t) fun i => match i.desc with
    | .tuple ts => obind (zerosOf P ts.toList) fun l => some (.tuple l.toArray)
    | _ => i.zero

structure Cx where
  P : Program
  call : FuncId → List Value → Nat → Heap → Option (Value × Heap)
  lim : Nat
  nt : Nat
  fuel : Nat
  ann : Nat → List (Nat × Value)

def ev (env : Env) : Operand → Option Value
  | .tmp t => eget env t
  | .const v => match noRef v with | true => some v | false => none
  | .func f => some (.func (.func f) #[] #[])
  | .global _ => none

def evs (env : Env) : List Operand → Option (List Value)
  | [] => some []
  | x :: r => obind (ev env x) fun v => obind (evs env r) fun l => some (v :: l)

def evParts (env : Env) : List (Nat × Operand) → Option (List (Nat × Value))
  | [] => some []
  | (i, x) :: r => obind (ev env x) fun v => obind (evParts env r) fun l => some ((i, v) :: l)

def partA (P : Program) (t : TypeId) (cs : Array Value) (off : Nat) : Option Value :=
  obind (P.info? t) fun i => match P.underlying t with
    | some (.struct _) | some (.array _ _) => some (.agg (cs.extract off (off + i.size)))
    | some _ => cs[off]?
    | none => none

def eqFs (eq : TypeId → Value → Value → Option Bool) (P : Program) (xs ys : Array Value) : List Field → Option Bool
  | [] => some true
  | f :: fs =>
    if f.name = "_" then none else
    obind (partA P f.type xs f.offset) fun a => obind (partA P f.type ys f.offset) fun b =>
      obind (eq f.type a b) fun r => obind (eqFs eq P xs ys fs) fun q => some (r && q)

/-- Equality of values without addresses, by their type. -/
def eqA (P : Program) : Nat → TypeId → Value → Value → Option Bool
  | 0, _, _, _ => none
  | d + 1, t, x, y => match P.underlying t, x, y with
    | some .bool, .bool a, .bool b => some (a == b)
    | some (.int _), .int k a, .int k' b => if k = k' then some (a == b) else none
    | some .string, .string a, .string b => some (a.toList == b.toList)
    | some (.struct fs), .agg xs, .agg ys => match P.stoodInHeld t with
      | false => eqFs (eqA P d) P xs ys fs.toList
      | true => none
    | _, _, _ => none

section ops
variable {β : Type}

def intOp (op : BinOp) (k : IntKind) (a b : Int) (K : Value → Option β) : Option β :=
  match op with
  | .add => K (.int k (k.wrap (a + b)))
  | .sub => K (.int k (k.wrap (a - b)))
  | .mul => K (.int k (k.wrap (a * b)))
  | .quo => oif (b == 0) none (K (.int k (k.wrap (a.tdiv b))))
  | .rem => oif (b == 0) none (K (.int k (a.tmod b)))
  | .and => K (.int k (k.wrap (BitVec.ofInt k.bits a &&& BitVec.ofInt k.bits b).toNat))
  | .or => K (.int k (k.wrap (BitVec.ofInt k.bits a ||| BitVec.ofInt k.bits b).toNat))
  | .xor => K (.int k (k.wrap (BitVec.ofInt k.bits a ^^^ BitVec.ofInt k.bits b).toNat))
  | .andNot => K (.int k (k.wrap (BitVec.ofInt k.bits a &&& ~~~BitVec.ofInt k.bits b).toNat))
  | .eql => K (.bool (a == b))
  | .neq => K (.bool (a != b))
  | .lss => K (.bool (decide (a < b)))
  | .leq => K (.bool (decide (a ≤ b)))
  | .gtr => K (.bool (decide (a > b)))
  | .geq => K (.bool (decide (a ≥ b)))
  | _ => none

def shiftOp (op : BinOp) (k : IntKind) (a b : Int) (K : Value → Option β) : Option β :=
  oif (decide (b < 0)) none (match op with
    | .shl => K (.int k (k.wrap (a * 2 ^ (min b.toNat k.bits))))
    | .shr => K (.int k (a.fdiv (2 ^ (min b.toNat k.bits))))
    | _ => none)

def strOp (op : BinOp) (a b : ByteArray) (K : Value → Option β) : Option β :=
  match op with
  | .add => oif (Nat.ble (a.size + b.size) 9223372036854775807) (K (.string (a ++ b))) none
  | .eql => K (.bool (a.toList == b.toList))
  | .neq => K (.bool !(a.toList == b.toList))
  | .lss => K (.bool (Op.bytesLess a.toList b.toList))
  | .leq => K (.bool (Op.bytesLess a.toList b.toList || a.toList == b.toList))
  | .gtr => K (.bool !(Op.bytesLess a.toList b.toList || a.toList == b.toList))
  | .geq => K (.bool !(Op.bytesLess a.toList b.toList))
  | _ => none

def eqOp (op : BinOp) (r : Bool) (K : Value → Option β) : Option β :=
  match op with
  | .eql => K (.bool r)
  | .neq => K (.bool !r)
  | _ => none

def binA (P : Program) (op : BinOp) (t : TypeId) (x y : Value) (K : Value → Option β) : Option β :=
  match x, y with
  | .int k a, .int k' b => match op with
    | .shl => shiftOp .shl k a b K
    | .shr => shiftOp .shr k a b K
    | op => if k = k' then intOp op k a b K else none
  | .string a, .string b => strOp op a b K
  | .bool a, .bool b => match P.underlying t with
    | some .bool => eqOp op (a == b) K
    | _ => none
  | .agg xs, .agg ys => match P.eqGuardType P.depth t with
    | false => obind (eqA P 20 t (.agg xs) (.agg ys)) fun r => eqOp op r K
    | true => none
  | .slice a _ _, .slice none _ _ => match P.underlying t with
    | some (.slice _) => eqOp op a.isNone K
    | _ => none
  | .pointer a, .pointer none => match P.underlying t with
    | some (.pointer _) => eqOp op a.isNone K
    | _ => none
  | _, _ => none

def unA (op : UnOp) (x : Value) (K : Value → Option β) : Option β :=
  match op, x with
  | .not, .bool b => K (.bool !b)
  | .neg, .int k n => K (.int k (k.wrap (0 - n)))
  | _, _ => none

/-- Bytes out of cells. -/
def bytesOf : List Value → Option (List UInt8)
  | [] => some []
  | .int .u8 n :: r => obind (bytesOf r) fun l => some (UInt8.ofNat n.toNat :: l)
  | _ => none

def sliceCells (H : Heap) (size : Nat) (v : Value) : Option (List Value) :=
  match v with
  | .slice none 0 0 => some []
  | .slice (some a) n _ => hload0 H a (n * size)
  | _ => none

def convA (P : Program) (src dst : TypeId) (x : Value) (H : Heap) (K : Value → Heap → Option β) : Option β :=
  match P.underlying src, P.underlying dst, x with
  | some (.int _), some (.int k), .int _ n => K (.int k (k.wrap n)) H
  | some .string, some .string, .string s => K (.string s) H
  | some (.slice e), some .string, .slice a n c => match P.underlying e with
    | some (.int .u8) => obind (sliceCells H 1 (.slice a n c)) fun l => obind (bytesOf l) fun bs => K (.string ⟨bs.toArray⟩) H
    | _ => none
  | some .string, some (.slice e), .string s => match P.underlying e with
    | some (.int .u8) => K (.slice (some ⟨H.length, 0, none⟩) s.size 1) (hpush H (s.data.toList.map fun b => .int .u8 b.toNat))
    | _ => none
  | _, _, _ => none

def elemOf? (P : Program) (t : TypeId) : Option (TypeId × Nat × Nat × Value) :=
  match P.underlying t with
  | some (.slice e) => obind (P.info? e) fun i => obind i.zero fun z => match z.cells.toList.all leafOk, Nat.beq z.cells.size i.size, Nat.ble 1 i.bytes with
    | true, true, true => some (e, i.size, i.bytes, z)
    | _, _, _ => none
  | _ => none

def fillA (P : Program) (t : TypeId) (parts : List (Nat × Value)) : Option (Array Value) :=
  obind (zeroOf P t) fun z => match z.cells.toList.all leafOk with
    | true => P.built t parts
    | false => none

def roomMax : Nat := 140737488355328

/-- An append: the new slice and the heap. -/
def appendV (size bytes : Nat) (s : Value) (news : List Value) (n : Nat) (H : Heap) : Option (Value × Heap) :=
  match s with
  | .slice none 0 0 => match n with
    | 0 => some (.slice none 0 0, H)
    | m + 1 => oif (Nat.ble ((m + 1) * bytes) roomMax) (some (.slice (some ⟨H.length, 0, none⟩) (m + 1) size, hpush H news)) none
  | .slice (some a) len c => obind (hget H a.block) fun k =>
    oif (!k.ro && Nat.beq c size && Nat.ble (a.off + len * size) k.cells.length && Nat.ble ((len + n) * bytes) roomMax)
      (some (.slice (some ⟨H.length, 0, none⟩) (len + n) size, hpush (H.set a.block none) ((k.cells.take (a.off + len * size)).drop a.off ++ news))) none
  | _ => none

def appendA (size bytes : Nat) (s : Value) (news : List Value) (n : Nat) (H : Heap) (K : Value → Heap → Option β) : Option β :=
  obind (appendV size bytes s news n H) fun r => vSl r.1 fun a n c => K (.slice a n c) r.2

/-- A copy: the number of elements and the heap. -/
def copyV (lim size : Nat) (a : Addr) (n : Nat) (src : Value) (H : Heap) : Option (Nat × Heap) :=
  match src with
  | .slice none 0 0 => obind (hstoreN H lim a []) fun H' => some (0, H')
  | .slice (some b) m _ => obind (hload0 H b (min m n * size)) fun l => obind (hstoreN H lim a l) fun H' => some (min m n, H')
  | .string q => match size with
    | 1 => obind (hstoreN H lim a ((q.data.toList.map fun b => .int .u8 b.toNat).take n)) fun H' => some (min q.size n, H')
    | _ => none
  | _ => none

/-- A part of a slice. -/
def sliceV (a : Option Addr) (n c l h size : Nat) : Option Value :=
  match a with
  | none => oif (Nat.ble l h && Nat.ble h 0 && Nat.beq n 0 && Nat.beq c 0) (some (.slice none 0 0)) none
  | some p => oif (Nat.ble l h && Nat.ble h n && Nat.beq c size) (some (.slice (some ⟨p.block, p.off + l * size, none⟩) (h - l) c)) none

def callBuiltin (P : Program) (lim : Nat) (b : Builtin) (ts : List TypeId) (vs : List Value) (H : Heap) (K : Value → Heap → Option β) : Option β :=
  match b, ts, vs with
  | .len, [t], [.slice _ n _] => match P.underlying t with
    | some (.slice _) => K (.int .i64 n) H
    | _ => none
  | .len, [t], [.string s] => match P.underlying t with
    | some .string => K (.int .i64 s.size) H
    | _ => none
  | .cap, [t], [.slice none 0 0] => match P.underlying t with
    | some (.slice _) => K (.int .i64 0) H
    | _ => none
  | .min, _, [.int k x, .int k' y] => if k = k' then K (.int k (if y < x then y else x)) H else none
  | .max, _, [.int k x, .int k' y] => if k = k' then K (.int k (if y > x then y else x)) H else none
  | .append, [t, u], [s, x] => obind (elemOf? P t) fun (_, size, bytes, z) => match P.underlying u, x with
    | some (.slice _), .slice a n c => obind (sliceCells H size (.slice a n c)) fun news => appendA size bytes s news n H K
    | some .string, .string q => match size with
      | 1 => appendA 1 bytes s (q.data.toList.map fun b => .int .u8 b.toNat) q.size H K
      | _ => none
    | some (.int _), .int _ l => oif (decide (0 ≤ l) && decide (l * bytes ≤ roomMax)) (appendA size bytes s ((List.replicate l.toNat z.cells.toList).flatten) l.toNat H K) none
    | _, _ => none
  | .copy, [t, _], [.slice none 0 0, .slice _ _ _] => obind (elemOf? P t) fun _ => K (.int .i64 0) H
  | .copy, [t, _], [.slice none 0 0, .string _] => obind (elemOf? P t) fun _ => K (.int .i64 0) H
  | .copy, [t, _], [d, src] => obind (elemOf? P t) fun (_, size, _, _) => slS d fun a n _ => obind (copyV lim size a n src H) fun r => K (.int .i64 r.1) r.2
  | _, _, _ => none

def asNat (v : Value) (K : Nat → Option β) : Option β := match v with | .int .i64 n => oif (decide (0 ≤ n)) (K n.toNat) none | _ => none
/-- An index, of any kind. -/
def asIx (v : Value) (K : Nat → Option β) : Option β := match v with | .int _ n => oif (decide (0 ≤ n)) (K n.toNat) none | _ => none

def boundOr (env : Env) (x : Option Operand) (d : Nat) (K : Nat → Option β) : Option β :=
  match x with
  | none => K d
  | some y => obind (ev env y) fun v => asNat v K

/-- One operation: its value and the heap behind it. -/
def evOp (X : Cx) (o : Oper) (env : Env) (H : Heap) (K : Value → Heap → Option β) : Option β :=
  match o.op with
  | .move x => obind (ev env x) fun v => K v H
  | .assign x => obind (ev env x) fun v => K v H
  | .pick c a b => obind (ev env c) fun v => vBool v fun t => oif t (obind (ev env a) fun v => K v H) (obind (ev env b) fun v => K v H)
  | .alloc t => obind (zeroOf X.P t) fun z => match z.cells.toList.all leafOk with
    | true => K (.pointer (some ⟨H.length, 0, none⟩)) (hpush H z.cells.toList)
    | false => none
  | .box _ x => obind (ev env x) fun v => match v.cells.toList.all isCell with
    | true => K (.pointer (some ⟨H.length, 0, none⟩)) (hpush H v.cells.toList)
    | false => none
  | .build t parts => obind (evParts env parts.toList) fun ps => obind (fillA X.P t ps) fun cs => K (.agg cs) H
  | .buildSlice t len parts => obind (evParts env parts.toList) fun ps => obind (elemOf? X.P t) fun (_, size, _, z) =>
    match Nat.ble (len * size) 16777216 with
    | true => obind (Instr.fill (fun i => some (i * size, size)) ((List.replicate len z.cells.toList).flatten.toArray) ps) fun cs =>
      match cs.toList.all isCell, Nat.beq cs.size (len * size) with
      | true, true => K (.slice (some ⟨H.length, 0, none⟩) len size) (hpush H cs.toList)
      | _, _ => none
    | false => none
  | .load t a => match gRead X.P t a with
    | some v => K v H
    | none => obind (ev env a) fun v => ptrS v fun p => obind (X.P.info? t) fun i => match X.P.underlying t with
      | some (.struct _) | some (.array _ _) => obind (hloadN H p i.size) fun l => match i.zero with
        | some z => viewA z (.agg l.toArray) fun u => K u H
        | none => none
      | some _ => obind (hload H p) fun u => match i.zero with
        | some z => viewL z u fun u => K u H
        | none => none
      | none => none
  | .store t a x => obind (ev env a) fun v => obind (ev env x) fun u => ptrS v fun p => obind (X.P.info? t) fun i => match Nat.beq u.cells.size i.size with
    | true => obind (hstoreN H X.lim p u.cells.toList) fun H' => K undef H'
    | false => none
  | .nilCheck x => obind (ev env x) fun v => match v with
    | .func (.func f) a b => K (.func (.func f) a b) H
    | v => ptrS v fun p => K (.pointer (some p)) H
  | .binOp op t x y _ => obind (ev env x) fun v => obind (ev env y) fun u => binA X.P op t v u fun r => K r H
  | .unOp op _ x => obind (ev env x) fun v => unA op v fun r => K r H
  | .convert src dst x => obind (ev env x) fun v => convA X.P src dst v H K
  | .makeFunc (.func f) first cap => obind (evs env first.toList) fun fs => obind (evs env cap.toList) fun cs => K (.func (.func f) fs.toArray cs.toArray) H
  | .makeSlice t l c => obind (ev env l) fun v => obind (ev env c) fun u => asNat v fun n => asNat u fun m =>
    obind (elemOf? X.P t) fun (_, size, bytes, z) => oif (Nat.ble n m && Nat.ble (m * bytes) roomMax)
      (K (.slice (some ⟨H.length, 0, none⟩) n size) (hpush H ((List.replicate n z.cells.toList).flatten))) none
  | .slice t x lo hi none => obind (ev env x) fun v => match v with
    | .slice a n c => match X.P.underlying t with
      | some (.slice e) => obind (X.P.info? e) fun i => boundOr env hi n fun h => boundOr env lo 0 fun l =>
        obind (sliceV a n c l h i.size) fun u => vSl u fun a n c => K (.slice a n c) H
      | _ => none
    | .string s => match X.P.underlying t with
      | some .string => boundOr env hi s.size fun h => boundOr env lo 0 fun l => oif (Nat.ble l h && Nat.ble h s.size) (K (.string (s.extract l h)) H) none
      | _ => none
    | _ => none
  | .fieldAddr s x f => obind (ev env x) fun v => ptrS v fun p => match X.P.underlying s with
    | some (.struct fs) => obind fs[f]? fun fd => obind (X.P.info? fd.type) fun i => match Nat.beq i.size 0 with
      | false => K (.pointer (some ⟨p.block, p.off + fd.offset, none⟩)) H
      | true => none
    | _ => none
  | .field t x f => obind (ev env x) fun v => match v with
    | .agg cs => match X.P.underlying t with
      | some (.struct fs) => obind fs[f]? fun fd => obind (partA X.P fd.type cs fd.offset) fun u => K u H
      | _ => none
    | _ => none
  | .indexAddr t x ix => obind (ev env x) fun v => obind (ev env ix) fun j => match X.P.underlying t with
    | some (.slice e) => slS v fun p n _ => obind (X.P.info? e) fun i => asIx j fun k => oif (Nat.blt k n) (K (.pointer (some ⟨p.block, p.off + k * i.size, none⟩)) H) none
    | some (.array n e) => ptrS v fun p => obind (X.P.info? e) fun i => asIx j fun k => oif (Nat.blt k n) (K (.pointer (some ⟨p.block, p.off + k * i.size, none⟩)) H) none
    | _ => none
  | .index t x ix => obind (ev env x) fun v => obind (ev env ix) fun j => match v with
    | .string s => match X.P.underlying t with
      | some .string => asIx j fun k => obind s.data.toList[k]? fun b => K (.int .u8 b.toNat) H
      | _ => none
    | .agg cs => match X.P.underlying t with
      | some (.array n e) => obind (X.P.info? e) fun i => asIx j fun k => oif (Nat.blt k n) (obind (partA X.P e cs (k * i.size)) fun u => K u H) none
      | _ => none
    | _ => none
  | .extract x i => obind (ev env x) fun v => match v with
    | .tuple vs => obind vs[i]? fun u => K u H
    | _ => none
  | .call c => match c.callee with
    | .builtin b => obind (evs env c.args.toList) fun vs => callBuiltin X.P X.lim b c.argTypes.toList vs H K
    | .value f => obind (ev env f) fun g => obind (evs env c.args.toList) fun vs => match g with
      | .func (.func n) first cap => obind (X.call n (first.toList ++ vs ++ cap.toList) X.lim H) fun r =>
        match tmplOf X.P o.type with
        | some tm => viewT tm r.1 fun u => K u r.2
        | none => K r.1 r.2
      | _ => none
    | _ => none
  | _ => none

end ops

/-- What a loop's round hands to the next one: the kept slots. -/
def getKeep (env : Env) : List (Nat × Value) → Option (List Value)
  | [] => some []
  | (s, _) :: r => obind (eget env s) fun v => obind (getKeep env r) fun l => some (v :: l)

def bindVals {β : Type} (ks : List (Nat × Value)) (vs : List Value) (K : Env → Option β) : Option β :=
  match ks with
  | [] => vNil vs (K [])
  | (s, t) :: r => vCons vs fun v l => viewA t v fun v' => bindVals r l fun env => K ((s, v') :: env)

def iterN {β : Type} (F : (List Value → Heap → Option β) → List Value → Heap → Option β) : Nat → List Value → Heap → Option β
  | 0 => fun _ _ => none
  | n + 1 => F (iterN F n)

def sameLeaf : Value → Value → Bool
  | .bool a, .bool b => a == b
  | .int k a, .int k' b => decide (k = k') && (a == b)
  | .string a, .string b => a.toList == b.toList
  | .pointer a, .pointer b => decide (a = b)
  | .slice a n c, .slice b m e => decide (a = b) && (n == m) && (c == e)
  | .nilFunc, .nilFunc => true
  | .nilIface, .nilIface => true
  | _, _ => false

def sameLs : List Value → List Value → Bool
  | [], [] => true
  | x :: r, y :: q => sameLeaf x y && sameLs r q
  | _, _ => false

def sameRd : Option Value → Option Value → Bool
  | none, none => true
  | some (.agg xs), some (.agg ys) => sameLs xs.toList ys.toList
  | some x, some y => sameLeaf x y
  | _, _ => false

/-- 3: calls, stores, append, copy · 2: what makes a block · 1: what reads blocks · 0: the rest. -/
def clsOf (P : Program) : Op → Nat
  | .call { callee := .builtin .append, .. } | .call { callee := .builtin .copy, .. } => 3
  | .call { callee := .builtin _, .. } => 0
  | .call _ | .store .. => 3
  | .alloc _ | .box .. | .buildSlice .. | .makeSlice .. => 2
  | .load .. => 1
  | .convert src dst _ => match P.underlying src, P.underlying dst with
    | some (.slice _), _ => 1
    | _, some (.slice _) => 2
    | _, _ => 0
  | _ => 0

def clsAt (P : Program) (ops : Array Oper) (i : Nat) : Nat := match ops[i]? with | some o => clsOf P o.op | none => 0

def bitOf (b : Array Nat) (j i : Nat) : Bool := (b.getD j 0).testBit i

def pairOk (P : Program) (ops : Array Oper) (b : Array Nat) (i j : Nat) : Bool :=
  bitOf b j i || (!(Nat.beq (clsAt P ops j) 3 && Nat.ble 2 (clsAt P ops i)) &&
    match ops[i]?, ops[j]? with
    | some x, some y => x.apart ops y
    | _, _ => false)

def edgesOk (ops : Array Oper) (j : Nat) : Bool := match ops[j]? with
  | some o => o.after.toList.all fun e => !Region.binds .any e || Nat.blt e.on j
  | none => false

def drawOk (P : Program) (ops : Array Oper) : Bool :=
  let b := Region.before ops
  (List.range ops.size).all fun j => edgesOk ops j && (List.range j).all fun i => pairOk P ops b i j

/-- The places of the chain at which operation i may run: behind its last ancestor among the writers, and behind each writer that it is not ordered with. -/
def stagesOf (P : Program) (ops : Array Oper) (i : Nat) : List Nat :=
  let b := Region.before ops
  let es := (List.range ops.size).filter fun e => Nat.beq (clsAt P ops e) 3
  let anc := es.filter fun e => bitOf b i e
  let m0 := match anc.reverse with | e :: _ => e + 1 | [] => 0
  m0 :: (es.filter fun e => !bitOf b i e && !bitOf b e i && !Nat.beq e i).map (· + 1)

def quietBetween (P : Program) (ops : Array Oper) (m i : Nat) : Bool :=
  (List.range ops.size).all fun k => !(Nat.ble (min m i) k && Nat.blt k (max m i)) || Nat.blt (clsAt P ops k) 2

/-- What an operation that reads blocks reads. -/
def rdOp (P : Program) (o : Op) (env : Env) (H : Heap) : Option Value :=
  match o with
  | .load t a => match gRead P t a with
    | some v => some v
    | none => obind (ev env a) fun v => ptrS v fun p => obind (P.info? t) fun i => match P.underlying t with
      | some (.struct _) | some (.array _ _) => obind (hloadN H p i.size) fun l => some (.agg l.toArray)
      | some _ => hload H p
      | none => none
  | .convert _ _ x => obind (ev env x) fun v => obind (sliceCells H 1 v) fun l => some (.agg l.toArray)
  | _ => none

/-- The block of an address. -/
def valBlk : Value → Option Nat
  | .pointer (some p) => some p.block
  | .slice (some p) _ _ => some p.block
  | _ => none

theorem gRead_ev {P : Program} {t : TypeId} {x : Operand} {env : Env} {v : Value} (h : ev env x = some v) : gRead P t x = none := by
  cases x <;> first | rfl | simp [ev] at h

/-- The slot by which a reading operation reads. -/
def rdTmp : Op → Option Tmp
  | .load _ (.tmp t) => some t
  | .convert _ _ (.tmp t) => some t
  | _ => none

/-- What is read was made in this region, ahead of the read, and nothing that writes stands between. -/
def madeHere (P : Program) (ops : Array Oper) (i : Nat) (o : Oper) (m : Nat) : Bool :=
  match rdTmp o.op with
  | some t => (List.range i).any fun a => Nat.ble m a && bitOf (Region.before ops) i a && Nat.beq (clsAt P ops a) 2 && (match ops[a]? with
      | some q => q.guard.isNone && (match q.dst with | some d => Nat.beq d t | none => false)
      | none => false) && (List.range i).all fun k => Nat.ble k a || (!Nat.beq (clsAt P ops k) 3 && match (ops[k]?).bind (·.dst) with | some d => !Nat.beq d t | none => true)
  | none => false

section code
variable {β : Type}

def putE (nt : Nat) (dst : Option Tmp) (v : Value) (env : Env) (K : Env → Option β) : Option β :=
  match dst with
  | none => K env
  | some d => match Nat.blt d nt with | true => K ((d, v) :: env) | false => none

def wantedK (ops : Array Oper) (o : Oper) (env : Env) (K : Bool → Env → Option β) : Option β :=
  match o.guard with
  | none => K true env
  | some (j, want) => match (ops[j]?).bind (·.dst) with
    | some d => obind (eget env d) fun v => match v with
      | .bool b => oif b (K want ((d, .bool true) :: env)) (K (!want) ((d, .bool false) :: env))
      | _ => K false env
    | none => none

def evOps (X : Cx) (ops : Array Oper) : List Oper → Env → Heap → (Env → Heap → Option β) → Option β
  | [], env, H, K => K env H
  | o :: r, env, H, K => wantedK ops o env fun t env => match t with
    | true => evOp X o env H fun v H' => putE X.nt o.dst v env fun env => evOps X ops r env H' K
    | false => putE X.nt o.dst undef env fun env => evOps X ops r env H K

/-- The same, with the states before each operation (the latest first). -/
def evOpsT (X : Cx) (ops : Array Oper) : List Oper → Env → Heap → List (Env × Heap) → (List (Env × Heap) → Env → Heap → Option β) → Option β
  | [], env, H, tr, K => K ((env, H) :: tr) env H
  | o :: r, env, H, tr, K => wantedK ops o env fun t env => match t with
    | true => evOp X o env H fun v H' => putE X.nt o.dst v env fun env' => evOpsT X ops r env' H' ((env, H) :: tr) K
    | false => putE X.nt o.dst undef env fun env' => evOpsT X ops r env' H ((env, H) :: tr) K

/-- Each read gives the same at every stage at which it may run. -/
def stableAt (P : Program) (ops : Array Oper) (sts : List (Env × Heap)) (i : Nat) (o : Oper) : List Nat → Option β → Option β
  | [], x => x
  | m :: ms, x => match quietBetween P ops m i || madeHere P ops i o m with
    | true => stableAt P ops sts i o ms x
    | false => match sts[i]?, sts[m]? with
      | some s, some q => oif (sameRd (rdOp P o.op s.1 q.2) (rdOp P o.op s.1 s.2)) (stableAt P ops sts i o ms x) none
      | _, _ => none

def stable (P : Program) (ops : Array Oper) (sts : List (Env × Heap)) : List Nat → Option β → Option β
  | [], x => x
  | i :: r, x => match Nat.beq (clsAt P ops i) 1, ops[i]? with
    | true, some o => stableAt P ops sts i o (stagesOf P ops i) (stable P ops sts r x)
    | _, _ => stable P ops sts r x

def evDraw (X : Cx) (ops : Array Oper) (env : Env) (H : Heap) (K : Env → Heap → Option β) : Option β :=
  match drawOk X.P ops with
  | true => evOpsT X ops ops.toList env H [] fun tr env' H' => stable X.P ops tr.reverse (List.range ops.size) (K env' H')
  | false => none

inductive AExit where
  | normal
  | exit (id : Nat)
  | ret

def loopsIn : Code → Nat
  | .seq a b => loopsIn a + loopsIn b
  | .cond _ a b => loopsIn a + loopsIn b
  | .block _ c => loopsIn c
  | .loop c => loopsIn c + 1
  | _ => 0

def litE (c : Operand) (b : Bool) (env : Env) : Env := match c with | .tmp d => (d, .bool b) :: env | _ => env

def evCode (X : Cx) : Code → Nat → Env → Heap → (AExit → Env → Heap → Option β) → Option β
  | .skip, _, env, H, K => K .normal env H
  | .label _, _, env, H, K => K .normal env H
  | .region _ ops d, _, env, H, K => match d with
    | false => evOps X ops ops.toList env H (K .normal)
    | true => evDraw X ops env H (K .normal)
  | .seq a b, n, env, H, K => evCode X a n env H fun ex env H => match ex with
    | .normal => evCode X b (n + loopsIn a) env H K
    | .exit id => K (.exit id) env H
    | .ret => K .ret env H
  | .cond c a b, n, env, H, K => obind (ev env c) fun v => vBool v fun t => oif t (evCode X a n (litE c true env) H K) (evCode X b (n + loopsIn a) (litE c false env) H K)
  | .block id c, n, env, H, K => evCode X c n env H fun ex env H => match ex with
    | .normal => K .normal env H
    | .exit id' => match Nat.beq id' id with | true => K .normal env H | false => K (.exit id') env H
    | .ret => K .ret env H
  | .loop c, n, env, H, K => obind (getKeep env (X.ann n)) fun vs =>
    iterN (fun again vs H => bindVals (X.ann n) vs fun env => evCode X c (n + 1) env H fun ex env' H' => match ex with
      | .normal => obind (getKeep env' (X.ann n)) fun vs' => again vs' H'
      | .exit id => K (.exit id) env' H'
      | .ret => K .ret env' H') X.fuel vs H
  | .exit id, _, env, H, K => K (.exit id) env H
  | .ret, _, env, H, K => K .ret env H
  | _, _, _, _, _ => none

end code

inductive Mode where
  | keep
  | drop

/-- No address from block number n on. -/
def leafLt (n : Nat) (v : Value) : Bool :=
  leafOk v || match v with
    | .pointer (some a) => decide (a.block < n)
    | .slice (some a) _ _ => decide (a.block < n)
    | _ => false

/-- The place of a number in a list. -/
def posOf : List Nat → Nat → Option Nat
  | [], _ => none
  | x :: r, b => if x = b then some 0 else obind (posOf r b) fun i => some (i + 1)

/-- The number of a block behind the call: blocks below the base stay, those in the results move down, in the order in which they are met. -/
def mvBlock (base : Nat) (H : Heap) (olds : List Nat) (b : Nat) : Option (Nat × List Nat) :=
  if b < base then some (b, olds) else
  match posOf olds b with
  | some j => some (base + j, olds)
  | none => obind (hget H b) fun k => match k.cells.all (leafLt base) with
    | true => some (base + olds.length, olds ++ [b])
    | false => none

def mvLeaf (base : Nat) (H : Heap) (olds : List Nat) (v : Value) : Option (Value × List Nat) :=
  match v with
  | .pointer (some a) => obind (mvBlock base H olds a.block) fun r => some (.pointer (some ⟨r.1, a.off, none⟩), r.2)
  | .slice (some a) n c => obind (mvBlock base H olds a.block) fun r => some (.slice (some ⟨r.1, a.off, none⟩) n c, r.2)
  | v => match leafOk v with | true => some (v, olds) | false => none

def mvLeaves (base : Nat) (H : Heap) : List Nat → List Value → Option (List Value × List Nat)
  | olds, [] => some ([], olds)
  | olds, v :: r => obind (mvLeaf base H olds v) fun x => obind (mvLeaves base H x.2 r) fun y => some (x.1 :: y.1, y.2)

def mvAgg (base : Nat) (H : Heap) (olds : List Nat) (v : Value) : Option (Value × List Nat) :=
  match v with
  | .agg cs => obind (mvLeaves base H olds cs.toList) fun x => some (.agg x.1.toArray, x.2)
  | v => mvLeaf base H olds v

def mvAggs (base : Nat) (H : Heap) : List Nat → List Value → Option (List Value × List Nat)
  | olds, [] => some ([], olds)
  | olds, v :: r => obind (mvAgg base H olds v) fun x => obind (mvAggs base H x.2 r) fun y => some (x.1 :: y.1, y.2)

def finish (m : Mode) (base : Nat) (vs : List Value) (H : Heap) : Option (List Value × Heap) :=
  match m with
  | .keep => some (vs, H)
  | .drop => obind (mvAggs base H [] vs) fun x => some (x.1, H.take base ++ x.2.map (hget H))

def evRes (P : Program) (env : Env) (H : Heap) : List ResultVar → Option (List Value)
  | [] => some []
  | .tmp t :: r => obind (eget env t) fun v => obind (evRes P env H r) fun l => some (v :: l)
  | .cell a t :: r => obind (eget env a) fun v => match v with
    | .pointer (some p) => obind (P.info? t) fun i => match P.underlying t with
      | some (.struct _) | some (.array _ _) => obind (hloadN H p i.size) fun c => obind (evRes P env H r) fun l => some (.agg c.toArray :: l)
      | some _ => obind (hload H p) fun u => obind (evRes P env H r) fun l => some (u :: l)
      | none => none
    | _ => none

def oneOf (vs : List Value) : Value := match vs with | [v] => v | vs => .tuple vs.toArray

def argsEnv : Nat → List Value → Env
  | _, [] => []
  | i, v :: r => (i, v) :: argsEnv (i + 1) r

structure Ann where
  fuel : Nat
  loops : FuncId → Nat → List (Nat × Value)
  mode : FuncId → Mode
  ext : FuncId → Option (List Value → Nat → Heap → Option (Value × Heap))

def limOf (m : Mode) (lim n : Nat) : Nat := match m with | .keep => lim | .drop => n

def runFn (P : Program) (A : Ann) (call : FuncId → List Value → Nat → Heap → Option (Value × Heap)) (f : FuncId) (args : List Value) (lim : Nat) (H : Heap) : Option (Value × Heap) :=
  match P.funcs[f]? with
  | none => none
  | some fn => match fn.body, Nat.ble args.length fn.ntmps, fn.name == "runtime.NumGoroutine" with
    | some c, true, false => evCode ⟨P, call, limOf (A.mode f) lim H.length, fn.ntmps, A.fuel, A.loops f⟩ c 0 (argsEnv 0 args) H fun ex env H' => match ex with
      | .exit _ => none
      | _ => obind (evRes P env H' fn.results.toList) fun vs => obind (finish (A.mode f) H.length vs H') fun r => some (oneOf r.1, r.2)
    | _, _, _ => none

def run (P : Program) (A : Ann) : Nat → FuncId → List Value → Nat → Heap → Option (Value × Heap)
  | 0 => fun _ _ _ _ => none
  | d + 1 => fun f args lim H => match A.ext f with
    | some e => e args lim H
    | none => runFn P A (run P A d) f args lim H

end Go.Ev
