/-
  A second interpreter over the model's code, by value: slices are lists, functions take and give plain typed values; what a function owns lies in a local store (definitions only).
  Conditions: none; its soundness against the first interpreter is proved in the texts that follow.
-/
import Derived.Test.YtpjlbjkeekobnaaDoorEv
set_option linter.all false
namespace Go.Pv
open Go.Ev

inductive Ty where
  | int (k : IntKind)
  | bool
  | str
  | sl (t : Ty)
  | os (t : Ty)
  | pair (a b : Ty)

@[reducible] def Ty.T : Ty → Type
  | .int _ => Int
  | .bool => Bool
  | .str => ByteArray
  | .sl t => List t.T
  | .os t => List t.T
  | .pair a b => a.T × b.T

def Ty.size : Ty → Nat
  | .pair a b => a.size + b.size
  | _ => 1

def Ty.beq : Ty → Ty → Bool
  | .int k, .int l => decide (k = l)
  | .bool, .bool => true
  | .str, .str => true
  | .sl a, .sl b => a.beq b
  | .os a, .os b => a.beq b
  | .pair a b, .pair c d => a.beq c && b.beq d
  | _, _ => false

theorem Ty.beq_eq : ∀ {a b : Ty}, a.beq b = true → a = b
  | .int k, b, h => by cases b <;> simp_all [Ty.beq]
  | .bool, b, h => by cases b <;> simp_all [Ty.beq]
  | .str, b, h => by cases b <;> simp_all [Ty.beq]
  | .sl a, b, h => by
    cases b <;> simp only [Ty.beq, Bool.false_eq_true] at h
    rw [Ty.beq_eq h]
  | .os a, b, h => by
    cases b <;> simp only [Ty.beq, Bool.false_eq_true] at h
    rw [Ty.beq_eq h]
  | .pair a c, b, h => by
    cases b <;> simp only [Ty.beq, Bool.false_eq_true, Bool.and_eq_true] at h
    rw [Ty.beq_eq h.1, Ty.beq_eq h.2]

def tcast (a b : Ty) (x : a.T) : Option b.T := if h : a.beq b = true then some ((Ty.beq_eq h) ▸ x) else none

/-- No slice inside. -/
def Ty.flat : Ty → Bool
  | .sl _ => false
  | .os _ => false
  | .pair a b => a.flat && b.flat
  | _ => true

/-- An owned slice of plain elements. -/
def Ty.rowT : Ty → Bool
  | .os t => t.flat
  | _ => false

def Ty.isOs : Ty → Bool
  | .os _ => true
  | _ => false

/-- No slice inside that is not owned. -/
def Ty.nosl : Ty → Bool
  | .sl _ => false
  | .os t => t.flat || t.rowT
  | .pair a b => a.nosl && b.nosl
  | _ => true

/-- An owned slice inside. -/
def Ty.hasOs : Ty → Bool
  | .os _ => true
  | .pair a b => a.hasOs || b.hasOs
  | _ => false

/-- A typed value. -/
abbrev TV := (t : Ty) × t.T

@[reducible] def TupT : List Ty → Type
  | [] => Unit
  | [t] => t.T
  | t :: u :: r => t.T × TupT (u :: r)

def unT : (ts : List Ty) → TupT ts → List TV
  | [], _ => []
  | [t], x => [⟨t, x⟩]
  | t :: u :: r, x => ⟨t, x.1⟩ :: unT (u :: r) x.2

def mkT : (ts : List Ty) → List TV → Option (TupT ts)
  | [], [] => some ()
  | [t], [v] => tcast v.1 t v.2
  | t :: u :: r, v :: vs => obind (tcast v.1 t v.2) fun x => obind (mkT (u :: r) vs) fun y => some (x, y)
  | _, _ => none

inductive PV where
  | int (k : IntKind) (n : Int)
  | bool (b : Bool)
  | str (s : ByteArray)
  | nil
  | nilp
  | ro (st : Nat) (t : Ty) (x : List t.T)
  | rp (st : Nat) (t : Ty) (x : t.T)
  | osl (b off : Nat) (n : Option Nat)
  | ep (b j fo : Nat)
  | ptr (b off : Nat)
  | dp (b off n : Nat) (u : Ty) (k : Nat)
  | fn (f : FuncId) (first cap : List PV)
  | agg (cs : List PV)
  | tup (cs : List PV)
  | undef
  | hole
  | rw (b i ver : Nat) (t : Ty) (x : List t.T)
  | rq (b ver : Nat) (t : Ty) (x : t.T)

inductive Body where
  | cells (cs : List PV)
  | arr (t : Ty) (xs : List t.T)
  | rows (t : Ty) (xs : List (List t.T)) (h : Option Nat)

/-- An owned array; one of owned slices holds its rows. -/
def mkBody : (u : Ty) → List u.T → Body
  | .os t, xs => match t.flat with
    | true => .rows t xs none
    | false => .arr (.os t) xs
  | .int k, xs => .arr (.int k) xs
  | .bool, xs => .arr .bool xs
  | .str, xs => .arr .str xs
  | .sl t, xs => .arr (.sl t) xs
  | .pair a b, xs => .arr (.pair a b) xs

structure VB where
  ver : Nat
  rw : Bool
  body : Body

structure LS where
  bl : List (Option VB)
  clk : Nat

abbrev PEnv := List (Nat × PV)

def pget : PEnv → Nat → Option PV
  | [], _ => none
  | (s, v) :: r, t => match Nat.beq s t with | true => some v | false => pget r t

def lget (L : LS) (b : Nat) : Option VB := match L.bl[b]? with | some (some k) => some k | _ => none
def lset (L : LS) (b : Nat) (B : VB) : LS := ⟨L.bl.set b (some B), L.clk⟩
def lkill (L : LS) (b : Nat) : LS := ⟨L.bl.set b none, L.clk⟩
def lpush (L : LS) (B : Body) : LS := ⟨L.bl ++ [some ⟨0, true, B⟩], L.clk⟩

def vcells : PV → List PV
  | .agg cs => cs
  | v => [v]

/-- A value that cells can hold. -/
def okV : PV → Bool
  | .fn _ _ _ => false
  | .undef => false
  | .tup _ => false
  | .hole => false
  | _ => true

/-- A value of one cell. -/
def leafV : PV → Bool
  | .agg _ => false
  | v => okV v

def reify (st : Nat) : (t : Ty) → t.T → List PV
  | .int k, x => [.int k x]
  | .bool, x => [.bool x]
  | .str, x => [.str x]
  | .sl t, x => [.ro st t x]
  | .os _, _ => [.hole]
  | .pair a b, x => reify st a x.1 ++ reify st b x.2

def wrapV : Ty → List PV → PV
  | .pair _ _, l => .agg l
  | _, [v] => v
  | _, _ => .undef

/-- The part of a value at a cell's place. -/
def sub : (t u : Ty) → Nat → t.T → Option u.T
  | .pair a b, u, o, x => match Nat.beq o 0, Ty.beq (.pair a b) u with
    | true, true => tcast (.pair a b) u x
    | _, _ => match Nat.blt o a.size with
      | true => sub a u o x.1
      | false => sub b u (o - a.size) x.2
  | t, u, o, x => match Nat.beq o 0 with
    | true => tcast t u x
    | false => none

def upd : (t u : Ty) → Nat → t.T → u.T → Option t.T
  | .pair a b, u, o, x, y => match Nat.beq o 0, Ty.beq (.pair a b) u with
    | true, true => tcast u (.pair a b) y
    | _, _ => match Nat.blt o a.size with
      | true => obind (upd a u o x.1 y) fun z => some (z, x.2)
      | false => obind (upd b u (o - a.size) x.2 y) fun z => some (x.1, z)
  | t, u, o, _, y => match Nat.beq o 0 with
    | true => tcast u t y
    | false => none

def cut {α : Type} (xs : List α) (off : Nat) : Option Nat → List α
  | none => xs.drop off
  | some n => (xs.drop off).take n

def content (L : LS) (v : PV) (t : Ty) : Option (List t.T) :=
  match v with
  | .nil => some []
  | .ro _ u x => tcast (.sl u) (.sl t) x
  | .osl b off n => match lget L b with
    | some ⟨_, _, .arr u xs⟩ => tcast (.sl u) (.sl t) (cut xs off n)
    | some ⟨_, true, .rows u xs none⟩ => tcast (.sl (.sl u)) (.sl t) (cut xs off n)
    | _ => none
  | .rw b _ ver u x => match lget L b with
    | some ⟨v, true, .rows _ _ _⟩ => match Nat.beq v ver with
      | true => tcast (.sl u) (.sl t) x
      | false => none
    | _ => none
  | _ => none

def freezeB (L : LS) (b : Nat) : LS :=
  match lget L b with
  | some ⟨v, true, .arr t xs⟩ => lset L b ⟨v + 1, false, .arr t xs⟩
  | some ⟨v, true, .rows t xs none⟩ => lset L b ⟨v + 1, false, .arr (.sl t) xs⟩
  | _ => L

def freeze (L : LS) : PV → LS
  | .osl b _ _ => freezeB L b
  | _ => L

/-- What can be frozen. -/
def canFz : PV → Bool
  | .rw _ _ _ _ _ => false
  | _ => true

def refl (fz : Bool) : (t : Ty) → List PV → LS → Option (t.T × LS)
  | .int k, cs, L => match cs with
    | [.int k' n] => if k' = k then some (n, L) else none
    | _ => none
  | .bool, cs, L => match cs with
    | [.bool b] => some (b, L)
    | _ => none
  | .str, cs, L => match cs with
    | [.str s] => some (s, L)
    | _ => none
  | .sl t, cs, L => match cs with
    | [v] => obind (content L v t) fun x => match !fz || canFz v with
      | true => some (x, match fz with | true => freeze L v | false => L)
      | false => none
    | _ => none
  | .os _, _, _ => none
  | .pair a b, cs, L => obind (refl fz a (cs.take a.size) L) fun r => obind (refl fz b (cs.drop a.size) r.2) fun q => some ((r.1, q.1), q.2)

/-- An owned slice taken out of the store. -/
def takeO (u : Ty) (v : PV) (L : LS) : Option (List u.T × LS) :=
  match v with
  | .nil => some ([], L)
  | .osl b off no => match lget L b with
    | some ⟨_, true, .arr w xs⟩ => match w.isOs with
      | true => none
      | false => obind (tcast (.sl w) (.sl u) (cut xs off no)) fun x => some (x, lkill L b)
    | some ⟨_, true, .rows w xs none⟩ => match off, no with
      | 0, none => obind (tcast (.sl (.os w)) (.sl u) xs) fun x => some (x, lkill L b)
      | _, _ => none
    | _ => none
  | .rw b i ver w x => match lget L b with
    | some ⟨v, true, .rows t xs none⟩ => match Nat.beq v ver with
      | true => obind (tcast (.sl w) (.sl u) x) fun x => some (x, lset L b ⟨v + 1, true, .rows t xs (some i)⟩)
      | false => none
    | _ => none
  | _ => none

/-- A value taken out, with what it owns. -/
def takeC : (t : Ty) → List PV → LS → Option (t.T × LS)
  | .os u, cs, L => match cs with
    | [v] => takeO u v L
    | _ => none
  | .pair a b, cs, L => obind (takeC a (cs.take a.size) L) fun r => obind (takeC b (cs.drop a.size) r.2) fun q => some ((r.1, q.1), q.2)
  | .int k, cs, L => refl true (.int k) cs L
  | .bool, cs, L => refl true .bool cs L
  | .str, cs, L => refl true .str cs L
  | .sl t, cs, L => refl true (.sl t) cs L

/-- A value put in, with what it owns. -/
def giveC : (t : Ty) → t.T → LS → List PV × LS
  | .os u, x, L => ([.osl L.bl.length 0 none], lpush L (mkBody u x))
  | .pair a b, x, L => ((giveC a x.1 L).1 ++ (giveC b x.2 (giveC a x.1 L).2).1, (giveC b x.2 (giveC a x.1 L).2).2)
  | .int k, x, L => (reify L.clk (.int k) x, L)
  | .bool, x, L => (reify L.clk .bool x, L)
  | .str, x, L => (reify L.clk .str x, L)
  | .sl t, x, L => (reify L.clk (.sl t) x, L)

/-- A struct is taken as one, anything else not. -/
def shapeOk : Ty → PV → Bool
  | .pair _ _, .agg _ => true
  | .pair _ _, _ => false
  | _, .agg _ => false
  | _, _ => true

/-- A value taken out: by its content, or as an owned slice (then its block is gone). -/
def outOne (o : Bool) (t : Ty) (v : PV) (L : LS) : Option (TV × LS) :=
  match o with
  | false => match okV v && shapeOk t v with
    | true => obind (takeC t (vcells v) L) fun x => some (⟨t, x.1⟩, x.2)
    | false => none
  | true => match t with
    | .sl u => obind (takeO u v L) fun x => some (⟨.sl u, x.1⟩, x.2)
    | _ => none

def inOne (o : Bool) (v : TV) (L : LS) : PV × LS :=
  match o, v with
  | true, ⟨.sl u, x⟩ => (.osl L.bl.length 0 none, lpush L (mkBody u x))
  | _, ⟨t, x⟩ => (wrapV t (giveC t x L).1, (giveC t x L).2)

/-- The content of a block of cells; of an array. -/
def outCb (t : Ty) (b : Nat) (L : LS) : Option (TV × LS) :=
  match lget L b with
  | some ⟨_, true, .cells cs⟩ => obind (refl true t cs L) fun x => some (⟨t, x.1⟩, x.2)
  | _ => none
def outCo (t : Ty) (b : Nat) (L : LS) : Option (TV × LS) :=
  match lget L b with
  | some ⟨_, true, .cells cs⟩ => obind (takeC t cs L) fun x => some (⟨t, x.1⟩, x.2)
  | _ => none
def outAb (t : Ty) (b : Nat) (L : LS) : Option TV :=
  match lget L b with
  | some ⟨_, true, .arr u xs⟩ => match u.isOs with
    | true => none
    | false => obind (tcast (.sl u) (.sl t) xs) fun x => some ⟨.sl t, x⟩
  | _ => none
/-- The same, rows too. -/
def outAr (t : Ty) (b : Nat) (L : LS) : Option TV :=
  match lget L b with
  | some ⟨_, true, .rows u xs none⟩ => obind (tcast (.sl (.os u)) (.sl t) xs) fun x => some ⟨.sl t, x⟩
  | _ => outAb t b L
def inCb (b : Nat) (v : TV) (L : LS) : Option LS :=
  match lget L b with
  | some ⟨n, true, .cells cs⟩ => match Nat.beq cs.length v.1.size with
    | true => some (lset L b ⟨n + 1, true, .cells (reify L.clk v.1 v.2)⟩)
    | false => none
  | _ => none
/-- What a block of cells owns put in. -/
def fillB (b : Nat) (v : TV) (L : LS) : Option LS :=
  match v.1.hasOs with
  | false => some L
  | true => match lget L b with
    | some ⟨n, true, .cells _⟩ => some (lset (giveC v.1 v.2 L).2 b ⟨n + 1, true, .cells (giveC v.1 v.2 L).1⟩)
    | _ => none
def inAb (b : Nat) (v : TV) (L : LS) : Option LS :=
  match lget L b, v with
  | some ⟨n, true, .arr u xs⟩, ⟨.sl t, x⟩ => match Ty.beq u t with
    | true => some (lset L b ⟨n + 1, true, .arr t x⟩)
    | false => none
  | _, _ => none
/-- The same, rows too. -/
def inAr (b : Nat) (v : TV) (L : LS) : Option LS :=
  match lget L b, v with
  | some ⟨n, true, .rows u xs none⟩, ⟨.sl (.os t), x⟩ => match Ty.beq u t with
    | true => some (lset L b ⟨n + 1, true, .rows t x none⟩)
    | false => none
  | _, v => inAb b v L

inductive PM where
  | ro
  | mv
  | io
  | ps
  | cl (g : FuncId)

structure Sig where
  params : List (PM × Ty)
  results : List (Bool × Ty)

def outTys : List (PM × Ty) → List Ty
  | [] => []
  | (.io, t) :: r => t :: outTys r
  | (.ps, t) :: r => t :: outTys r
  | _ :: r => outTys r

def Sig.ptys (s : Sig) : List Ty := s.params.map (·.2)
def Sig.rtys (s : Sig) : List Ty := s.results.map (·.2) ++ outTys s.params

/-- Whether what it gives may share memory with what it got. -/
def Sig.al (s : Sig) : Bool :=
  (s.results.any fun r => match r with | (true, .sl t) => !(t.flat || t.rowT) | (_, t) => !t.nosl) ||
  (s.params.any fun p => match p with | (.ps, t) => !t.nosl | (.io, .sl t) => !t.flat | (.mv, .sl t) => !(t.flat || t.rowT) | _ => false)

structure LoopA where
  slots : List (Nat × Bool × Ty)
  cbs : List (Nat × Ty)
  abs : List (Nat × Ty)
  fzs : List Nat

def LoopA.tys (a : LoopA) : List Ty := (a.slots.map fun s => s.2.2) ++ ((a.cbs.map fun s => s.2) ++ (a.abs.map fun s => Ty.sl s.2))

structure AnnV where
  fuel : Nat
  sig : FuncId → Sig
  loops : FuncId → Nat → LoopA
  eloops : FuncId → Nat → List (Nat × Value)
  inline : FuncId → Bool
  own : FuncId → Bool
  ext : FuncId → Option (List Value → Nat → Go.Ev.Heap → Option (Value × Go.Ev.Heap))
  vext : (f : FuncId) → Option (TupT (sig f).ptys → Option (TupT (sig f).rtys))

structure CxV (A : AnnV) (β : Type) where
  P : Program
  call : (f : FuncId) → TupT (A.sig f).ptys → Option (TupT (A.sig f).rtys)
  inl : FuncId → List PV → LS → (PV → LS → Option β) → Option β
  nt : Nat
  own : Bool
  ann : Nat → LoopA
  eann : Nat → List (Nat × Value)

def ofC1 : Value → Option PV
  | .bool b => some (.bool b)
  | .int k n => some (.int k n)
  | .string s => some (.str s)
  | .pointer none => some .nilp
  | .slice none 0 0 => some .nil
  | _ => none

def ofCs : List Value → Option (List PV)
  | [] => some []
  | v :: r => obind (ofC1 v) fun x => obind (ofCs r) fun l => some (x :: l)

def ofC : Value → Option PV
  | .agg cs => obind (ofCs cs.toList) fun l => some (.agg l)
  | v => ofC1 v

def pev (env : PEnv) : Operand → Option PV
  | .tmp t => pget env t
  | .const v => ofC v
  | .func f => some (.fn f [] [])
  | .global _ => none

def pevs (env : PEnv) : List Operand → Option (List PV)
  | [] => some []
  | x :: r => obind (pev env x) fun v => obind (pevs env r) fun l => some (v :: l)

def pevParts (env : PEnv) : List (Nat × Operand) → Option (List (Nat × PV))
  | [] => some []
  | (i, x) :: r => obind (pev env x) fun v => obind (pevParts env r) fun l => some ((i, v) :: l)

/-- A value without an address, as the model has it. -/
def sc1 : PV → Option Value
  | .int k n => some (.int k n)
  | .bool b => some (.bool b)
  | .str s => some (.string s)
  | _ => none
def scs : List PV → Option (List Value)
  | [] => some []
  | v :: r => obind (sc1 v) fun x => obind (scs r) fun l => some (x :: l)
def sc : PV → Option Value
  | .agg cs => obind (scs cs) fun l => some (.agg l.toArray)
  | v => sc1 v

def ofS : Value → PV
  | .int k n => .int k n
  | .bool b => .bool b
  | .string s => .str s
  | _ => .undef

/-- Some elements of a type, one behind the other. -/
def vecTy : Nat → Ty → Ty
  | 0, u => u
  | 1, u => u
  | n + 2, u => .pair u (vecTy (n + 1) u)

/-- The type of a Go type. -/
def tyFs (g : TypeId → Option Ty) : List Field → Option Ty
  | [] => none
  | [f] => g f.type
  | f :: h :: r => obind (g f.type) fun a => obind (tyFs g (h :: r)) fun b => some (.pair a b)

def tyG (P : Program) : Nat → TypeId → Option Ty
  | 0, _ => none
  | n + 1, t => match P.underlying t with
    | some .bool => some .bool
    | some (.int k) => some (.int k)
    | some .string => some .str
    | some (.slice e) => obind (tyG P n e) fun u => some (.sl u)
    | some (.struct fs) => match fs.toList with
      | f :: h :: r => tyFs (tyG P n) (f :: h :: r)
      | _ => none
    | some (.array k e) => obind (tyG P n e) fun u => match Nat.ble 2 k && u.flat with
      | true => some (vecTy k u)
      | false => none
    | _ => none

def fitL : Value → PV → Bool
  | .int k _, .int k' _ => decide (k' = k)
  | .int _ _, _ => false
  | .bool _, .bool _ => true
  | .bool _, _ => false
  | .string _, .str _ => true
  | .string _, _ => false
  | .slice _ _ _, .nil => true
  | .slice _ _ _, .ro _ _ _ => true
  | .slice _ _ _, .osl _ _ _ => true
  | .slice _ _ _, .rw _ _ _ _ _ => true
  | .slice _ _ _, _ => false
  | .pointer none, .nilp => true
  | .pointer _, .ptr _ _ => true
  | .pointer _, .ep _ _ _ => true
  | .pointer _, .rp _ _ _ => true
  | .pointer _, .rq _ _ _ _ => true
  | .pointer _, .dp _ _ _ _ _ => true
  | .pointer _, _ => false
  | .nilFunc, .fn _ _ _ => true
  | .nilFunc, _ => false
  | _, _ => false

def fitLs : List Value → List PV → Bool
  | [], [] => true
  | t :: ts, v :: vs => fitL t v && fitLs ts vs
  | _, _ => false

def fitA : Value → PV → Bool
  | .agg zs, .agg cs => fitLs zs.toList cs
  | .agg _, _ => false
  | t, v => fitL t v

def fitAs : List Value → List PV → Bool
  | [], [] => true
  | t :: ts, v :: vs => fitA t v && fitAs ts vs
  | _, _ => false

def fitT : Value → PV → Bool
  | .tuple zs, .tup cs => fitAs zs.toList cs
  | .tuple _, _ => false
  | t, v => fitA t v

/-- Parts laid over cells. -/
def splice (l : List PV) (off : Nat) (vs : List PV) : List PV := l.take off ++ vs ++ l.drop (off + vs.length)

def fillP (place : Nat → Option (Nat × Nat)) (cells : List PV) : List (Nat × PV) → Option (List PV)
  | [] => some cells
  | (i, v) :: r => match place i with
    | none => none
    | some (off, size) => match okV v, Nat.beq (vcells v).length size, Nat.ble (off + (vcells v).length) cells.length with
      | true, true, true => fillP place (splice cells off (vcells v)) r
      | _, _, _ => none


section ops
variable {A : AnnV} {β : Type}

def pNat (v : PV) (K : Nat → Option β) : Option β := match v with | .int .i64 n => oif (decide (0 ≤ n)) (K n.toNat) none | _ => none

/-- An index, of any kind. -/
def pIx (v : PV) (K : Nat → Option β) : Option β := match v with | .int _ n => oif (decide (0 ≤ n)) (K n.toNat) none | _ => none

def pboundOr (env : PEnv) (x : Option Operand) (K : Option Nat → Option β) : Option β :=
  match x with
  | none => K none
  | some y => obind (pev env y) fun v => pNat v fun n => K (some n)

/-- A sum, where nothing is added to nothing. -/
def offAdd (off k : Nat) : Nat := match off with | 0 => k | o + 1 => o + 1 + k

/-- The number of elements. -/
def plen (L : LS) (v : PV) : Option Nat :=
  match v with
  | .nil => some 0
  | .ro _ _ x => some x.length
  | .osl _ _ (some n) => some n
  | .osl b off none => match lget L b with
    | some ⟨_, _, .arr _ xs⟩ => some (xs.length - off)
    | some ⟨_, _, .rows _ xs _⟩ => match off with
      | 0 => some xs.length
      | _ => none
    | _ => none
  | .rw _ _ _ _ x => some x.length
  | _ => none

def partV (P : Program) (t : TypeId) (cs : List PV) (off : Nat) : Option PV :=
  obind (P.info? t) fun i => match P.underlying t with
    | some (.struct _) => match Nat.ble (off + i.size) cs.length with
      | true => some (.agg ((cs.drop off).take i.size))
      | false => none
    | some (.array _ _) => match Nat.ble (off + i.size) cs.length with
      | true => some (.agg ((cs.drop off).take i.size))
      | false => none
    | some _ => cs[off]?
    | none => none

/-- The elements of an array, off its cells. -/
def reflN (u : Ty) : Nat → List PV → LS → Option (List u.T)
  | 0, _, _ => some []
  | n + 1, cs, L => obind (refl false u (cs.take u.size) L) fun x => obind (reflN u n (cs.drop u.size) L) fun r => some (x.1 :: r)

def vecOf : (n : Nat) → (u : Ty) → List u.T → Option (vecTy n u).T
  | 0, _, _ => none
  | 1, _, l => match l with
    | [x] => some x
    | _ => none
  | n + 2, u, l => match l with
    | x :: r => obind (vecOf (n + 1) u r) fun y => some (x, y)
    | [] => none

/-- An array with another element at a place. -/
def setV (n : Nat) (u : Ty) (xs : List u.T) (k : Nat) (y : u.T) : Option (vecTy n u).T := match Nat.blt k xs.length with
  | true => vecOf n u (xs.set k y)
  | false => none

/-- What is the same in both cases. -/
noncomputable def both (x y : Option β) : Option β := @ite _ (x = y) (Classical.propDecidable _) x none
noncomputable def nilB (n : Nat) (a b : Option β) : Option β := match n with
  | 0 => both a b
  | _ + 1 => b

/-- A slice compared with nil: its length, if it may be one or the other; whether the answer is turned. -/
def nilCmp (P : Program) (op : BinOp) (t : TypeId) (L : LS) (v u : PV) : Option (Option Nat × Bool) :=
  match u, P.underlying t, op with
  | .nil, some (.slice _), .eql => match v with
    | .nil => some (none, false)
    | v => obind (plen L v) fun n => some (some n, false)
  | .nil, some (.slice _), .neq => match v with
    | .nil => some (none, true)
    | v => obind (plen L v) fun n => some (some n, true)
  | _, _, _ => none

/-- A slice of a slice. -/
def psl (L : LS) (v : PV) (lo hi : Option Nat) (K : PV → Option β) : Option β :=
  match v with
  | .nil => match lo, hi with
    | none, none => K .nil
    | some l, none => oif (Nat.ble l 0) (K .nil) none
    | none, some h => oif (Nat.ble h 0) (K .nil) none
    | some l, some h => oif (Nat.ble l h && Nat.ble h 0) (K .nil) none
  | .ro st t x => match lo, hi with
    | none, none => K (.ro st t x)
    | some l, none => oif (Nat.ble l x.length) (K (.ro st t (x.drop l))) none
    | none, some h => oif (Nat.ble h x.length) (K (.ro st t (x.take h))) none
    | some l, some h => oif (Nat.ble l h && Nat.ble h x.length) (K (.ro st t ((x.take h).drop l))) none
  | .rw b i ver t x => match lo, hi with
    | none, none => K (.rw b i ver t x)
    | some l, none => oif (Nat.ble l x.length) (K (.rw b i ver t (x.drop l))) none
    | none, some h => oif (Nat.ble h x.length) (K (.rw b i ver t (x.take h))) none
    | some l, some h => oif (Nat.ble l h && Nat.ble h x.length) (K (.rw b i ver t ((x.take h).drop l))) none
  | .osl b off n => match lget L b with
    | some ⟨_, _, .arr _ _⟩ => obind (plen L (.osl b off n)) fun m => match lo, hi with
      | none, none => K (.osl b off n)
      | some l, none => oif (Nat.ble l m) (K (match n with | none => .osl b (off + l) none | some k => .osl b (off + l) (some (k - l)))) none
      | none, some h => oif (Nat.ble h m) (K (.osl b off (some h))) none
      | some l, some h => oif (Nat.ble l h && Nat.ble h m) (K (.osl b (off + l) (some (h - l)))) none
    | _ => none
  | _ => none

/-- An append: the owned slice, its elements' type and the new elements. -/
def pappend (u : Ty) (bytes : Nat) (s : PV) (ys : List u.T) (L : LS) (K : PV → LS → Option β) : Option β :=
  match s with
  | .nil => oif (Nat.ble (ys.length * bytes) roomMax) (K (.osl L.bl.length 0 none) (lpush L (.arr u ys))) none
  | .osl b off no => match lget L b with
    | some ⟨_, true, .arr w xs⟩ => obind (tcast (.sl w) (.sl u) (cut xs off no)) fun x =>
      oif (Nat.ble ((x.length + ys.length) * bytes) roomMax) (K (.osl L.bl.length 0 none) (lpush (lkill L b) (.arr u (x ++ ys)))) none
    | _ => none
  | .rw b i ver w x => match lget L b with
    | some ⟨v, true, .rows t xs none⟩ => match Nat.beq v ver with
      | true => obind (tcast (.sl w) (.sl u) x) fun x =>
        oif (Nat.ble ((x.length + ys.length) * bytes) roomMax) (K (.osl L.bl.length 0 none) (lpush (lset L b ⟨v + 1, true, .rows t xs (some i)⟩) (.arr u (x ++ ys)))) none
      | false => none
    | _ => none
  | _ => none

/-- The rows of an owned array, that go out. -/
def rowsOf (L : LS) (t : Ty) : PV → Option (List (List t.T) × LS)
  | .osl b 0 none => match lget L b with
    | some ⟨_, true, .rows u xs none⟩ => obind (tcast (.sl (.os u)) (.sl (.os t)) xs) fun x => some (x, lkill L b)
    | _ => none
  | _ => none

def isRows (L : LS) : PV → Bool
  | .osl b _ _ => match lget L b with
    | some ⟨_, _, .rows _ _ _⟩ => true
    | _ => false
  | _ => false

/-- Rows behind rows. -/
def pappendR (t : Ty) (bytes : Nat) (s : PV) (ys : List (List t.T)) (L : LS) (K : PV → LS → Option β) : Option β :=
  match s with
  | .nil => oif (Nat.ble (ys.length * bytes) roomMax) (K (.osl L.bl.length 0 none) (lpush L (.rows t ys none))) none
  | s => obind (rowsOf L t s) fun x => oif (Nat.ble ((x.1.length + ys.length) * bytes) roomMax) (K (.osl x.2.bl.length 0 none) (lpush x.2 (.rows t (x.1 ++ ys) none))) none

def bytesL (s : ByteArray) : List Int := s.data.toList.map fun b => (b.toNat : Int)
def strL (l : List Int) : ByteArray := ⟨(l.map fun n => UInt8.ofNat n.toNat).toArray⟩

/-- The elements of a slice, over those of another one. -/
def cpy {α : Type} (xs : List α) (off n : Nat) (ys : List α) : List α := xs.take off ++ ys.take n ++ xs.drop (off + min ys.length n)

def zeroT : (t : Ty) → t.T
  | .int _ => (0 : Int)
  | .bool => false
  | .str => ⟨#[]⟩
  | .sl _ => []
  | .os _ => []
  | .pair a b => (zeroT a, zeroT b)

/-- The zero value of an element's type is the typed one. -/
def goZ : Ty → List PV → Bool
  | .int k, l => match l with
    | [.int k' n] => decide (k' = k) && (n == 0)
    | _ => false
  | .bool, l => match l with
    | [.bool b] => !b
    | _ => false
  | .str, l => match l with
    | [.str s] => s.data.toList.isEmpty
    | _ => false
  | .sl _, l => match l with
    | [.nil] => true
    | _ => false
  | .os _, _ => false
  | .pair a b, l => goZ a (l.take a.size) && goZ b (l.drop a.size)
def zeroOk (z : Value) (t : Ty) : Bool := match ofCs z.cells.toList with
  | some l => goZ t l
  | none => false

def setAt {α : Type} (xs : List α) (i : Nat) (x : α) : Option (List α) := match Nat.blt i xs.length with | true => some (xs.set i x) | false => none

def partsT (u : Ty) (xs : List u.T) : List (Nat × PV) → LS → Option (List u.T × LS)
  | [], L => some (xs, L)
  | (i, v) :: r, L => match okV v with
    | true => obind (refl true u (vcells v) L) fun x => obind (setAt xs i x.1) fun ys => partsT u ys r x.2
    | false => none

/-- What is copied. -/
def copySrc (L : LS) (src : PV) (w : Ty) : Option (List w.T) :=
  match src with
  | .str q => match w with
    | .int .u8 => some (bytesL q)
    | _ => none
  | v => match isRows L v with
    | true => none
    | false => content L v w

def pbuiltin (P : Program) (b : Builtin) (ts : List TypeId) (vs : List PV) (L : LS) (K : PV → LS → Option β) : Option β :=
  match b, ts, vs with
  | .len, [t], [.str s] => match P.underlying t with
    | some .string => K (.int .i64 s.size) L
    | _ => none
  | .len, [t], [v] => match P.underlying t with
    | some (.slice _) => obind (plen L v) fun n => K (.int .i64 n) L
    | _ => none
  | .cap, [t], [.nil] => match P.underlying t with
    | some (.slice _) => K (.int .i64 0) L
    | _ => none
  | .min, _, [.int k x, .int k' y] => if k = k' then K (.int k (if y < x then y else x)) L else none
  | .max, _, [.int k x, .int k' y] => if k = k' then K (.int k (if y > x then y else x)) L else none
  | .append, [t, u], [s, x] => obind (elemOf? P t) fun (e, size, bytes, z) => obind (tyG P 8 e) fun w => match Nat.beq w.size size with
    | true => match P.underlying u, x with
      | some .string, .str q => match w with
        | .int .u8 => pappend (.int .u8) bytes s (bytesL q) L K
        | _ => none
      | some (.slice _), x => match isRows L x, w with
        | true, .sl t => obind (rowsOf L t x) fun y => pappendR t bytes s y.1 y.2 K
        | _, _ => obind (content L x w) fun ys => pappend w bytes s ys L K
      | some (.int _), .int _ l => match zeroOk z w with
        | true => oif (decide (0 ≤ l) && decide (l * bytes ≤ roomMax)) (pappend w bytes s (List.replicate l.toNat (zeroT w)) L K) none
        | false => none
      | _, _ => none
    | false => none
  | .copy, [t, _], [.osl b off no, src] => obind (elemOf? P t) fun (e, size, _, _) => obind (tyG P 8 e) fun w => match Nat.beq w.size size with
    | true => obind (copySrc L src w) fun ys => obind (plen L (.osl b off no)) fun m => match lget L b with
      | some ⟨ver, true, .arr u xs⟩ => obind (tcast (.sl u) (.sl w) xs) fun x => K (.int .i64 ((min ys.length m : Nat) : Int)) (lset L b ⟨ver + 1, true, .arr w (cpy x off m ys)⟩)
      | _ => none
    | false => none
  | _, _, _ => none

/-- What is lent or moved into a call. -/
def takeM : List (PM × Ty) → List PV → List Nat → LS → Option (List (Option TV) × List Nat × LS)
  | [], [], lent, L => some ([], lent, L)
  | (m, t) :: ps, v :: vs, lent, L => match m with
    | .ro => obind (takeM ps vs lent L) fun r => some (none :: r.1, r.2.1, r.2.2)
    | .mv => match v with
      | .osl b _ _ => match lent.contains b with
        | true => none
        | false => obind (outOne true t v L) fun x => obind (takeM ps vs lent x.2) fun r => some (some x.1 :: r.1, r.2.1, r.2.2)
      | .rw b _ _ _ _ => match lent.contains b with
        | true => none
        | false => obind (outOne true t v L) fun x => obind (takeM ps vs lent x.2) fun r => some (some x.1 :: r.1, r.2.1, r.2.2)
      | v => obind (outOne true t v L) fun x => obind (takeM ps vs lent x.2) fun r => some (some x.1 :: r.1, r.2.1, r.2.2)
    | .io => match t, v with
      | .sl u, .osl b 0 none => match lent.contains b with
        | true => none
        | false => obind (outAb u b L) fun x => obind (takeM ps vs (b :: lent) L) fun r => some (some x :: r.1, r.2.1, r.2.2)
      | _, _ => none
    | .ps => match v with
      | .ptr b 0 => match lent.contains b with
        | true => none
        | false => obind (outCo t b L) fun x => obind (takeM ps vs (b :: lent) x.2) fun r => some (some x.1 :: r.1, r.2.1, r.2.2)
      | _ => none
    | .cl g => match v with
      | .fn f [] [] => match Nat.beq f g with
        | true => obind (takeM ps vs lent L) fun r => some (some ⟨.bool, false⟩ :: r.1, r.2.1, r.2.2)
        | false => none
      | _ => none
  | _, _, _, _ => none

def notLent (lent : List Nat) (cs : List PV) : Bool := cs.all fun v => match v with | .osl b _ _ => !lent.contains b | .rw b _ _ _ _ => !lent.contains b | _ => true

def takeR (al : Bool) (lent : List Nat) : List (PM × Ty) → List PV → List (Option TV) → LS → Option (List TV × LS)
  | [], [], [], L => some ([], L)
  | (_, t) :: ps, v :: vs, o :: os, L => match o with
    | some x => obind (takeR al lent ps vs os L) fun r => some (x :: r.1, r.2)
    | none => match notLent lent (vcells v) && (okV v && shapeOk t v) with
      | true => obind (refl al t (vcells v) L) fun x => obind (takeR al lent ps vs os x.2) fun r => some (⟨t, x.1⟩ :: r.1, r.2)
      | false => none
  | _, _, _, _ => none

/-- The results put in. -/
def inRes : List (Bool × Ty) → List TV → LS → Option (List PV × LS)
  | [], [], L => some ([], L)
  | (o, _) :: rs, v :: vs, L => match inOne o v L with
    | (pv, L') => obind (inRes rs vs L') fun r => some (pv :: r.1, r.2)
  | _, _, _ => none

def inOuts : List (PM × Ty) → List PV → List TV → LS → Option LS
  | [], [], [], L => some L
  | (m, _) :: ps, p :: as, vs, L => match m with
    | .io => match p, vs with
      | .osl b 0 none, v :: vs => obind (inAb b v L) fun L' => inOuts ps as vs L'
      | _, _ => none
    | .ps => match p, vs with
      | .ptr b _, v :: vs => obind (inCb b v L) fun L' => inOuts ps as vs L'
      | _, _ => none
    | .ro => inOuts ps as vs L
    | .mv => inOuts ps as vs L
    | .cl _ => inOuts ps as vs L
  | _, _, _, _ => none

/-- What blocks of cells own put in. -/
def fillL : List (Nat × TV) → LS → Option LS
  | [], L => some L
  | (b, v) :: r, L => obind (fillB b v L) fun L' => fillL r L'

def psOuts : List (PM × Ty) → List PV → List TV → List (Nat × TV)
  | (m, _) :: ps, p :: as, vs => match m with
    | .io => match vs with
      | _ :: vs => psOuts ps as vs
      | [] => []
    | .ps => match p, vs with
      | .ptr b _, v :: vs => (b, v) :: psOuts ps as vs
      | _, _ => []
    | .ro => psOuts ps as vs
    | .mv => psOuts ps as vs
    | .cl _ => psOuts ps as vs
  | _, _, _ => []

def psArgs : List (PM × Ty) → List TV → Nat → List (Nat × TV)
  | (m, _) :: ps, v :: vs, i => match m with
    | .ro => psArgs ps vs i
    | .cl _ => psArgs ps vs i
    | .mv => psArgs ps vs (i + 1)
    | .io => psArgs ps vs (i + 1)
    | .ps => (i, v) :: psArgs ps vs (i + 1)
  | _, _, _ => []

def onePV (vs : List PV) : PV := match vs with | [v] => v | vs => .tup vs

/-- A row that is lent goes into a block of its own; its place is a hole. -/
def rowIn (b i ver : Nat) (w : Ty) (x : List w.T) (L : LS) (K : LS → Nat → Option β) : Option β :=
  match lget L b with
  | some ⟨_, true, .rows _ xs none⟩ => obind xs[i]? fun y => oif (Nat.beq y.length x.length) (obind (takeO w (.rw b i ver w x) L) fun r => K (lpush r.2 (.arr w r.1)) r.2.bl.length) none
  | _ => none

/-- It comes back. -/
def rowOut (b i ver : Nat) (w : Ty) (n : Nat) (L : LS) (K : LS → Option β) : Option β :=
  obind (takeO w (.osl n 0 none) L) fun r => match lget r.2 b with
  | some ⟨v, true, .rows e xs _⟩ => match Nat.beq v ver with
    | true => obind (tcast (.sl w) (.sl e) r.1) fun z => K (lset r.2 b ⟨v + 1, true, .rows e (xs.set i z) none⟩)
    | false => none
  | _ => none

def pcall0 (X : CxV A β) (f : FuncId) (args : List PV) (L : LS) (K : PV → LS → Option β) : Option β :=
  obind (takeM (A.sig f).params args [] L) fun m => obind (takeR (A.sig f).al m.2.1 (A.sig f).params args m.1 m.2.2) fun r =>
    obind (mkT (A.sig f).ptys r.1) fun a => obind (X.call f a) fun y =>
    obind (inOuts (A.sig f).params args ((unT (A.sig f).rtys y).drop (A.sig f).results.length) r.2) fun L0 =>
    obind (fillL (psOuts (A.sig f).params args ((unT (A.sig f).rtys y).drop (A.sig f).results.length)) L0) fun L' =>
    obind (inRes (A.sig f).results ((unT (A.sig f).rtys y).take (A.sig f).results.length) L') fun q => K (onePV q.1) q.2

/-- Whether the first argument is a row that is lent. -/
def lendsRow : List (PM × Ty) → Bool
  | (.io, _) :: _ => true
  | _ => false

def pcallN (X : CxV A β) (f : FuncId) (args : List PV) (L : LS) (K : PV → LS → Option β) : Option β :=
  match args with
  | .rw b i ver w x :: rest => match lendsRow (A.sig f).params with
    | true => match w.flat with
      | true => rowIn b i ver w x L fun L2 n => pcall0 X f (.osl n 0 none :: rest) L2 fun u L3 => rowOut b i (ver + 1) w n L3 fun L4 => K u L4
      | false => none
    | false => pcall0 X f (.rw b i ver w x :: rest) L K
  | args => pcall0 X f args L K

def pcall (X : CxV A β) (f : FuncId) (args : List PV) (L : LS) (K : PV → LS → Option β) : Option β :=
  match A.inline f with
  | true => X.inl f args L K
  | false => pcallN X f args L K

def rowsAt (L : LS) (b : Nat) : Option (Nat × (e : Ty) × List (List e.T) × Option Nat) := match lget L b with
  | some ⟨ver, true, .rows e xs h⟩ => some (ver, ⟨e, xs, h⟩)
  | _ => none

def holeIs (h : Option Nat) (j : Nat) (x : Option β) : Option β := match h with
  | none => x
  | some i => oif (Nat.beq i j) x none

/-- Rows out of parts. -/
def partsR (t : Ty) (xs : List (List t.T)) : List (Nat × PV) → LS → Option (List (List t.T) × LS)
  | [], L => some (xs, L)
  | (i, v) :: r, L => obind (takeO t v L) fun x => obind (setAt xs i x.1) fun ys => partsR t ys r x.2

/-- An array of slices of plain elements. -/
def rowsTy (P : Program) (t : TypeId) : Option (Nat × Ty) := match P.underlying t with
  | some (.array n e) => match tyG P 8 e with
    | some (.sl u) => match u.flat with
      | true => some (n, u)
      | false => none
    | _ => none
  | _ => none
def nilsN : Nat → List Value → Bool
  | 0, [] => true
  | n + 1, .slice none 0 0 :: r => nilsN n r
  | _, _ => false
def allNil : Nat → List PV → Bool
  | 0, [] => true
  | n + 1, .nil :: r => allNil n r
  | _, _ => false
/-- All rows of a block, as they are now. -/
def aggR (b ver : Nat) (u : Ty) (xs : List (List u.T)) : Nat → Nat → Option (List PV)
  | _, 0 => some []
  | i, n + 1 => obind xs[i]? fun x => obind (aggR b ver u xs (i + 1) n) fun l => some (.rw b i ver u x :: l)
def aggK {β : Type} (b ver : Nat) (u : Ty) (xs : List (List u.T)) : Nat → Nat → (List PV → Option β) → Option β
  | _, 0, K => K []
  | i, n + 1, K => obind xs[i]? fun x => aggK b ver u xs (i + 1) n fun l => K (.rw b i ver u x :: l)
def rowsGo (w : Ty) (b ver : Nat) : Nat → List PV → Option (List (List w.T))
  | _, [] => some []
  | i, .rw b' i' ver' t x :: r => match Nat.beq b' b && (Nat.beq i' i && Nat.beq ver' ver) with
    | true => obind (tcast (.sl t) (.sl w) x) fun y => obind (rowsGo w b ver (i + 1) r) fun l => some (y :: l)
    | false => none
  | _, _ => none
def rowsIn (w : Ty) : List PV → Option (Nat × Nat × List (List w.T))
  | .rw b i ver t x :: r => obind (rowsGo w b ver 0 (.rw b i ver t x :: r)) fun l => some (b, ver, l)
  | _ => none

/-- The whole of a variable that is held. -/
def gReadV (P : Program) (t : TypeId) (x : Operand) : Option PV := match gRead P t x with
  | some v => ofC v
  | none => none

/-- One operation. -/
noncomputable def vop (X : CxV A β) (o : Oper) (env : PEnv) (L : LS) (K : PV → LS → Option β) : Option β :=
  match o.op with
  | .move x => obind (pev env x) fun v => K v L
  | .assign x => obind (pev env x) fun v => K v L
  | .pick c a b => obind (pev env c) fun v => match v with
    | .bool t => oif t (obind (pev env a) fun v => K v L) (obind (pev env b) fun v => K v L)
    | _ => none
  | .alloc t => obind (zeroOf X.P t) fun z => match X.own, rowsTy X.P t with
    | true, some (n, u) => match nilsN n z.cells.toList with
      | true => K (.ptr L.bl.length 0) (lpush L (.rows u (List.replicate n []) none))
      | false => none
    | _, _ => obind (ofCs z.cells.toList) fun cs => K (.ptr L.bl.length 0) (lpush L (.cells cs))
  | .box _ x => obind (pev env x) fun v => match okV v with
    | true => K (.ptr L.bl.length 0) (lpush L (.cells (vcells v)))
    | false => none
  | .build t parts => obind (pevParts env parts.toList) fun ps => match X.P.info? t, X.P.underlying t with
    | some it, some (.struct fs) => match it.zero, fs.toList.mapM (fun f => (X.P.info? f.type).map fun i => (f.offset, i.size)) with
      | some z, some places => obind (ofCs z.cells.toList) fun zs => obind (fillP (places.toArray[·]?) zs ps) fun cs => K (.agg cs) L
      | _, _ => none
    | some it, some (.array _ e) => match it.zero, X.P.info? e with
      | some z, some ie => obind (ofCs z.cells.toList) fun zs => obind (fillP (fun i => some (i * ie.size, ie.size)) zs ps) fun cs => K (.agg cs) L
      | _, _ => none
    | _, _ => none
  | .buildSlice t len parts => obind (pevParts env parts.toList) fun ps => obind (elemOf? X.P t) fun (e, size, _, z) => obind (tyG X.P 8 e) fun u =>
    match Nat.ble (len * size) 16777216, zeroOk z u, Nat.beq u.size size with
    | true, true, true => match X.own, u with
      | true, .sl t => match t.flat with
        | true => obind (partsR t (List.replicate len []) ps L) fun x => K (.osl x.2.bl.length 0 none) (lpush x.2 (.rows t x.1 none))
        | false => none
      | _, _ => obind (partsT u (List.replicate len (zeroT u)) ps L) fun x => K (.osl x.2.bl.length 0 none) (lpush x.2 (.arr u x.1))
    | _, _, _ => none
  | .load t a => match gReadV X.P t a with
   | some v => K v L
   | none => obind (pev env a) fun v => obind (X.P.info? t) fun i => obind i.zero fun z => match X.P.underlying t with
    | none => none
    | some d => match v with
      | .rp st u x => obind (tyG X.P 8 t) fun w => obind (tcast u w x) fun y => match fitA z (wrapV w (reify st w y)), Nat.beq w.size i.size with
        | true, true => K (wrapV w (reify st w y)) L
        | _, _ => none
      | .ep b j fo => match lget L b with
        | some ⟨_, _, .arr u xs⟩ => obind (tyG X.P 8 t) fun w => obind xs[j]? fun x => obind (sub u w fo x) fun y => match fitA z (wrapV w (reify L.clk w y)), Nat.beq w.size i.size with
          | true, true => K (wrapV w (reify L.clk w y)) L
          | _, _ => none
        | some ⟨ver, true, .rows u xs none⟩ => obind (tyG X.P 8 t) fun w => obind xs[j]? fun x => match fitA z (.rw b j ver u x), Nat.beq fo 0 && Ty.beq w (.sl u) with
          | true, true => K (.rw b j ver u x) L
          | _, _ => none
        | _ => none
      | .rq b ver u x => match lget L b with
        | some ⟨v, true, .rows _ _ _⟩ => match Nat.beq v ver with
          | true => obind (tyG X.P 8 t) fun w => obind (tcast u w x) fun y => match fitA z (wrapV w (reify L.clk w y)), Nat.beq w.size i.size && w.flat with
            | true, true => K (wrapV w (reify L.clk w y)) L
            | _, _ => none
          | false => none
        | _ => none
      | .ptr b off => match lget L b with
        | some ⟨_, _, .cells cs⟩ => match d with
          | .struct _ => match Nat.ble (off + i.size) cs.length, fitA z (.agg ((cs.drop off).take i.size)) with
            | true, true => K (.agg ((cs.drop off).take i.size)) L
            | _, _ => none
          | .array _ _ => match Nat.ble (off + i.size) cs.length, fitA z (.agg ((cs.drop off).take i.size)) with
            | true, true => K (.agg ((cs.drop off).take i.size)) L
            | _, _ => none
          | _ => obind cs[off]? fun u => match fitL z u with
            | true => K u L
            | false => none
        | some ⟨ver, true, .rows u xs none⟩ => match d with
          | .array n _ => aggK b ver u xs 0 n fun l => match fitA z (.agg l), Nat.beq off 0 && Nat.beq i.size n with
            | true, true => K (.agg l) L
            | _, _ => none
          | _ => none
        | _ => none
      | .dp b off n u k => match lget L b with
        | some ⟨_, _, .cells cs⟩ => obind (tyG X.P 8 t) fun w => obind (reflN u n (cs.drop off) L) fun xs => obind xs[k]? fun x => obind (tcast u w x) fun y => match fitA z (wrapV w (reify L.clk w y)), Nat.beq w.size i.size && w.flat with
          | true, true => K (wrapV w (reify L.clk w y)) L
          | _, _ => none
        | _ => none
      | _ => none
  | .store t a x => obind (pev env a) fun v => obind (pev env x) fun u => obind (X.P.info? t) fun i => match Nat.beq (vcells u).length i.size && okV u with
    | true => match v with
      | .ep b j fo => match rowsAt L b with
        | some (ver, ⟨e, xs, h⟩) => match Nat.beq fo 0 && Nat.beq i.size 1 with
         | false => none
         | true => match u with
          | .rw b' i' ver' e' x => match Nat.beq b' b && Nat.beq ver' ver, h with
            | true, none => obind (tcast (.sl e') (.sl e) x) fun x => oif (Nat.beq i' j) (obind xs[j]? fun _ => K .undef (lset L b ⟨ver + 1, true, .rows e (xs.set j x) none⟩)) none
            | _, _ => none
          | u => obind (takeO e u L) fun y => match lget y.2 b with
            | some ⟨ver, true, .rows e' xs h⟩ => obind (tcast (.sl e) (.sl e') y.1) fun x => holeIs h j (obind xs[j]? fun _ => K .undef (lset y.2 b ⟨ver + 1, true, .rows e' (xs.set j x) none⟩))
            | _ => none
        | none => obind (tyG X.P 8 t) fun w => obind (refl true w (vcells u) L) fun y => match lget y.2 b with
          | some ⟨ver, true, .arr e xs⟩ => obind xs[j]? fun x0 => obind (upd e w fo x0 y.1) fun x1 => K .undef (lset y.2 b ⟨ver + 1, true, .arr e (xs.set j x1)⟩)
          | _ => none
      | .ptr b off => match lget L b with
        | some ⟨ver, true, .cells cs⟩ => match Nat.ble (off + (vcells u).length) cs.length with
          | true => K .undef (lset L b ⟨ver + 1, true, .cells (splice cs off (vcells u))⟩)
          | false => none
        | some ⟨ver, true, .rows e xs none⟩ => match Nat.beq off 0 && allNil xs.length (vcells u) with
          | true => K .undef (lset L b ⟨ver + 1, true, .rows e (List.replicate (vcells u).length []) none⟩)
          | false => none
        | _ => none
      | .dp b off n w k => match lget L b, w.flat with
        | some ⟨ver, true, .cells cs⟩, true => obind (refl false w (vcells u) L) fun y => obind (reflN w n (cs.drop off) L) fun xs => obind (setV n w xs k y.1) fun p =>
          K .undef (lset L b ⟨ver + 1, true, .cells (splice cs off (reify L.clk (vecTy n w) p))⟩)
        | _, _ => none
      | _ => none
    | false => none
  | .nilCheck x => obind (pev env x) fun v => match v with
    | .fn f a b => K (.fn f a b) L
    | .ptr b o => K (.ptr b o) L
    | .ep b j f => K (.ep b j f) L
    | .rp s t x => K (.rp s t x) L
    | .rq b v t x => K (.rq b v t x) L
    | .dp b o n t k => K (.dp b o n t k) L
    | _ => none
  | .binOp op t x y _ => obind (pev env x) fun v => obind (pev env y) fun u => match nilCmp X.P op t L v u with
    | some (none, neg) => K (.bool (!neg)) L
    | some (some n, neg) => nilB n (K (.bool (!neg)) L) (K (.bool neg) L)
    | none => obind (sc v) fun v' => obind (sc u) fun u' => binA X.P op t v' u' fun r => K (ofS r) L
  | .unOp op _ x => obind (pev env x) fun v => obind (sc v) fun v' => unA op v' fun r => K (ofS r) L
  | .convert src dst x => obind (pev env x) fun v => match X.P.underlying src, X.P.underlying dst, v with
    | some (.int _), some (.int k), .int _ n => K (.int k (k.wrap n)) L
    | some .string, some .string, .str s => K (.str s) L
    | some (.slice e), some .string, v => match X.P.underlying e with
      | some (.int .u8) => obind (content L v (.int .u8)) fun l => K (.str (strL l)) L
      | _ => none
    | some .string, some (.slice e), .str s => match X.P.underlying e with
      | some (.int .u8) => K (.osl L.bl.length 0 none) (lpush L (.arr (.int .u8) (bytesL s)))
      | _ => none
    | _, _, _ => none
  | .makeFunc (.func f) first cap => obind (pevs env first.toList) fun fs => obind (pevs env cap.toList) fun cs => match fs.all leafV && cs.all leafV with
    | true => K (.fn f fs cs) L
    | false => none
  | .makeSlice t l c => obind (pev env l) fun v => obind (pev env c) fun u => pNat v fun n => pNat u fun m =>
    obind (elemOf? X.P t) fun (e, size, bytes, z) => obind (tyG X.P 8 e) fun w => match zeroOk z w, Nat.beq w.size size with
      | true, true => oif (Nat.ble n m && Nat.ble (m * bytes) roomMax) (match X.own, w with
        | true, .sl t => match t.flat with
          | true => K (.osl L.bl.length 0 none) (lpush L (.rows t (List.replicate n []) none))
          | false => none
        | _, _ => K (.osl L.bl.length 0 none) (lpush L (.arr w (List.replicate n (zeroT w))))) none
      | _, _ => none
  | .slice t x lo hi none => obind (pev env x) fun v => match v with
    | .str s => match X.P.underlying t with
      | some .string => pboundOr env hi fun h => pboundOr env lo fun l => oif (Nat.ble (l.getD 0) (h.getD s.size) && Nat.ble (h.getD s.size) s.size) (K (.str (s.extract (l.getD 0) (h.getD s.size))) L) none
      | _ => none
    | v => match X.P.underlying t with
      | some (.slice e) => obind (X.P.info? e) fun i => match esz L v with
        | some n => match Nat.beq n i.size with
          | true => pboundOr env hi fun h => pboundOr env lo fun l => psl L v l h fun u => K u L
          | false => none
        | none => pboundOr env hi fun h => pboundOr env lo fun l => psl L v l h fun u => K u L
      | _ => none
  | .fieldAddr s x f => obind (pev env x) fun v => match X.P.underlying s with
    | some (.struct fs) => obind fs[f]? fun fd => obind (X.P.info? fd.type) fun i => match Nat.beq i.size 0 with
      | true => none
      | false => match v with
        | .ptr b off => K (.ptr b (off + fd.offset)) L
        | .ep b j fo => K (.ep b j (fo + fd.offset)) L
        | .rp st t x => obind (tyG X.P 8 fd.type) fun w => obind (sub t w fd.offset x) fun y => K (.rp st w y) L
        | .rq b v t x => obind (tyG X.P 8 fd.type) fun w => obind (sub t w fd.offset x) fun y => K (.rq b v w y) L
        | _ => none
    | _ => none
  | .field t x f => obind (pev env x) fun v => match v with
    | .agg cs => match X.P.underlying t with
      | some (.struct fs) => obind fs[f]? fun fd => obind (partV X.P fd.type cs fd.offset) fun u => K u L
      | _ => none
    | _ => none
  | .indexAddr t x ix => obind (pev env x) fun v => obind (pev env ix) fun j => match X.P.underlying t with
    | some (.slice e) => obind (X.P.info? e) fun i => match v with
      | .ro st u l => match Nat.beq u.size i.size with
        | true => pIx j fun k => obind l[k]? fun y => K (.rp st u y) L
        | false => none
      | .osl b off n => match lget L b with
        | some ⟨_, _, .arr u xs⟩ => match Nat.beq u.size i.size with
          | true => pIx j fun k => obind (plen L (.osl b off n)) fun m => oif (Nat.blt k m) (K (.ep b (offAdd off k) 0) L) none
          | false => none
        | some ⟨_, _, .rows _ xs _⟩ => match Nat.beq 1 i.size && (Nat.beq off 0 && n.isNone) with
          | true => pIx j fun k => oif (Nat.blt k xs.length) (K (.ep b k 0) L) none
          | false => none
        | _ => none
      | .rw b _ ver u l => match Nat.beq u.size i.size with
        | true => pIx j fun k => obind l[k]? fun y => K (.rq b ver u y) L
        | false => none
      | _ => none
    | some (.array n e) => obind (X.P.info? e) fun i => obind (tyG X.P 8 e) fun u => match v with
      | .ptr b off => match lget L b with
        | some ⟨_, _, .rows _ xs _⟩ => match Nat.beq off 0 && Nat.beq 1 i.size with
          | true => pIx j fun k => oif (Nat.blt k n && Nat.blt k xs.length) (K (.ep b k 0) L) none
          | false => none
        | _ => match Nat.beq u.size i.size && u.flat with
          | true => pIx j fun k => oif (Nat.blt k n) (K (.dp b off n u k) L) none
          | false => none
      | _ => none
    | _ => none
  | .index t x ix => obind (pev env x) fun v => obind (pev env ix) fun j => match v with
    | .str s => match X.P.underlying t with
      | some .string => pIx j fun k => obind s.data.toList[k]? fun b => K (.int .u8 b.toNat) L
      | _ => none
    | .agg cs => match X.P.underlying t with
      | some (.array n e) => obind (X.P.info? e) fun i => obind (tyG X.P 8 e) fun u => match Nat.beq u.size i.size && u.flat with
        | true => obind (reflN u n cs L) fun xs => pIx j fun k => obind xs[k]? fun y => K (wrapV u (reify L.clk u y)) L
        | false => match u with
          | .sl w => obind (rowsIn w cs) fun g => match Nat.beq i.size 1 with
            | true => pIx j fun k => oif (Nat.blt k n) (obind g.2.2[k]? fun y => K (.rw g.1 k g.2.1 w y) L) none
            | false => none
          | _ => none
      | _ => none
    | _ => none
  | .extract x i => obind (pev env x) fun v => match v with
    | .tup vs => obind vs[i]? fun u => K u L
    | _ => none
  | .call c => match c.callee with
    | .builtin b => obind (pevs env c.args.toList) fun vs => pbuiltin X.P b c.argTypes.toList vs L K
    | .value f => obind (pev env f) fun g => obind (pevs env c.args.toList) fun vs => match g with
      | .fn n first cap => pcall X n (first ++ vs ++ cap) L fun u L' => match tmplOf X.P o.type with
        | some tm => match fitT tm u with
          | true => K u L'
          | false => none
        | none => K u L'
      | _ => none
    | _ => none
  | _ => none
where
  /-- The number of cells of an element, where it is not nil. -/
  esz (L : LS) : PV → Option Nat
    | .ro _ u _ => some u.size
    | .osl b _ _ => match lget L b with
      | some ⟨_, _, .arr u _⟩ => some u.size
      | _ => some 0
    | .rw _ _ _ u _ => some u.size
    | _ => none

end ops

section code
variable {A : AnnV} {β : Type}

def pputE (nt : Nat) (dst : Option Tmp) (v : PV) (env : PEnv) (K : PEnv → Option β) : Option β :=
  match dst with
  | none => K env
  | some d => match Nat.blt d nt with | true => K ((d, v) :: env) | false => none

def pwanted (ops : Array Oper) (o : Oper) (env : PEnv) (K : Bool → PEnv → Option β) : Option β :=
  match o.guard with
  | none => K true env
  | some (j, want) => match (ops[j]?).bind (·.dst) with
    | some d => obind (pget env d) fun v => match v with
      | .bool b => oif b (K want ((d, .bool true) :: env)) (K (!want) ((d, .bool false) :: env))
      | .undef => K false env
      | _ => none
    | none => none

noncomputable def vops (X : CxV A β) (ops : Array Oper) : List Oper → PEnv → LS → (PEnv → LS → Option β) → Option β
  | [], env, L, K => K env L
  | o :: r, env, L, K => pwanted ops o env fun t env => match t with
    | true => vop X o env L fun v L' => pputE X.nt o.dst v env fun env => vops X ops r env L' K
    | false => pputE X.nt o.dst .undef env fun env => vops X ops r env L K

noncomputable def vopsT (X : CxV A β) (ops : Array Oper) : List Oper → PEnv → LS → List (PEnv × LS) → (List (PEnv × LS) → PEnv → LS → Option β) → Option β
  | [], env, L, tr, K => K ((env, L) :: tr) env L
  | o :: r, env, L, tr, K => pwanted ops o env fun t env => match t with
    | true => vop X o env L fun v L' => pputE X.nt o.dst v env fun env' => vopsT X ops r env' L' ((env, L) :: tr) K
    | false => pputE X.nt o.dst .undef env fun env' => vopsT X ops r env' L ((env, L) :: tr) K

def sameVer (L M : LS) (b : Nat) : Bool := match lget L b, lget M b with
  | some x, some y => Nat.beq x.ver y.ver
  | _, _ => false

def isTmp : Operand → Bool
  | .tmp _ => true
  | _ => false

/-- What is read is the same in both states. -/
def rdSame (P : Program) (c0 : Nat) (o : Op) (env : PEnv) (L M : LS) : Bool :=
  match o with
  | .load t a => match gRead P t a with
   | some _ => true
   | none => match pev env a with
    | some (.rp st u _) => Nat.blt st c0 && match P.info? t with | some i => Nat.beq u.size i.size | none => true
    | some (.ep b _ _) => sameVer L M b
    | some (.ptr b _) => sameVer L M b
    | some (.dp b _ _ _ _) => sameVer L M b
    | some .undef => true
    | none => isTmp a
    | _ => false
  | .convert _ _ a => match pev env a with
    | some (.ro st _ _) => Nat.blt st c0
    | some (.osl b _ _) => sameVer L M b
    | some .nil => true
    | some .undef => true
    | none => isTmp a
    | _ => false
  | _ => false

def pstableAt (c0 : Nat) (P : Program) (ops : Array Oper) (sts : List (PEnv × LS)) (i : Nat) (o : Oper) : List Nat → Bool
  | [] => true
  | m :: ms => ((quietBetween P ops m i || madeHere P ops i o m) || match sts[i]?, sts[m]? with
      | some s, some q => rdSame P c0 o.op s.1 s.2 q.2
      | _, _ => false) && pstableAt c0 P ops sts i o ms

def pstable (c0 : Nat) (P : Program) (ops : Array Oper) (sts : List (PEnv × LS)) : List Nat → Bool
  | [] => true
  | i :: r => (match Nat.beq (clsAt P ops i) 1, ops[i]? with
    | true, some o => pstableAt c0 P ops sts i o (stagesOf P ops i)
    | _, _ => true) && pstable c0 P ops sts r

noncomputable def vdraw (X : CxV A β) (ops : Array Oper) (env : PEnv) (L : LS) (K : PEnv → LS → Option β) : Option β :=
  match drawOk X.P ops with
  | true => vopsT X ops ops.toList env ⟨L.bl, L.clk + 1⟩ [] fun tr env' L' => match pstable (L.clk + 1) X.P ops tr.reverse (List.range ops.size) with
    | true => K env' L'
    | false => none
  | false => none

def plitE (c : Operand) (b : Bool) (env : PEnv) : PEnv := match c with | .tmp d => (d, .bool b) :: env | _ => env

def outSlots (env : PEnv) : List (Nat × Bool × Ty) → LS → Option (List TV × LS)
  | [], L => some ([], L)
  | (q, o, t) :: r, L => obind (pget env q) fun v => obind (outOne o t v L) fun x => obind (outSlots env r x.2) fun y => some (x.1 :: y.1, y.2)

def outCbs (env : PEnv) : List (Nat × Ty) → LS → Option (List TV × List Nat × LS)
  | [], L => some ([], [], L)
  | (q, t) :: r, L => obind (pget env q) fun v => match v with
    | .ptr b 0 => obind (outCo t b L) fun x => obind (outCbs env r x.2) fun y => some (x.1 :: y.1, b :: y.2.1, y.2.2)
    | _ => none

def outAbs (env : PEnv) : List (Nat × Ty) → LS → Option (List TV × List Nat)
  | [], _ => some ([], [])
  | (q, t) :: r, L => obind (pget env q) fun v => match v with
    | .osl b _ _ => obind (outAr t b L) fun x => obind (outAbs env r L) fun y => some (x :: y.1, b :: y.2)
    | .ptr b _ => obind (outAr t b L) fun x => obind (outAbs env r L) fun y => some (x :: y.1, b :: y.2)
    | _ => none

def liveRw (L : LS) (ids : List Nat) : Bool := ids.all fun b => match lget L b with | some ⟨_, true, _⟩ => true | _ => false

/-- A loop's state taken out: the values, the blocks that change in place, the rest of the store. -/
def outAll (a : LoopA) (env : PEnv) (L : LS) : Option (List TV × List Nat × LS) :=
  obind (outSlots env a.slots L) fun x => obind (outCbs env a.cbs x.2) fun y => obind (outAbs env a.abs y.2.2) fun z =>
    match liveRw y.2.2 (y.2.1 ++ z.2) with
    | true => some (x.1 ++ (y.1 ++ z.1), y.2.1 ++ z.2, y.2.2)
    | false => none

def inSlots : List (Nat × Bool × Ty) → List TV → PEnv → LS → Option (PEnv × LS)
  | [], [], env, L => some (env, L)
  | (q, o, _) :: r, v :: vs, env, L => match inOne o v L with
    | (pv, L') => inSlots r vs ((q, pv) :: env) L'
  | _, _, _, _ => none

def inBlks : List Nat → Nat → List TV → LS → Option LS
  | [], _, [], L => some L
  | b :: r, n, v :: vs, L => match n with
    | 0 => obind (inAr b v L) fun L' => inBlks r 0 vs L'
    | m + 1 => obind (inCb b v L) fun L' => inBlks r m vs L'
  | _, _, _, _ => none

/-- What the blocks own put in. -/
def fillBlks : List Nat → Nat → List TV → LS → Option LS
  | b :: r, n + 1, v :: vs, L => obind (fillB b v L) fun L' => fillBlks r n vs L'
  | _, _, _, L => some L

def keepEnv (env : PEnv) : List (Nat × Value) → Option PEnv
  | [] => some []
  | (q, _) :: r => obind (pget env q) fun v => obind (keepEnv env r) fun e => some ((q, v) :: e)

def fitKeep (env : PEnv) : List (Nat × Value) → Bool
  | [] => true
  | (q, t) :: r => (match pget env q with | some v => fitA t v | none => false) && fitKeep env r

def slotsIn (keep : List (Nat × Value)) (a : LoopA) : Bool := a.slots.all fun s => keep.any fun k => Nat.beq k.1 s.1

def noDup : List Nat → Bool
  | [] => true
  | x :: r => !r.contains x && noDup r

/-- The blocks of the first store that are alive are in the second one as they were, but for those that a loop changes in place. -/
def sameBut (ids : List Nat) : Nat → List (Option VB) → List (Option VB) → Bool
  | _, [], _ => true
  | n, none :: r, _ :: s => sameBut ids (n + 1) r s
  | n, some x :: r, some y :: s => (ids.contains n || Nat.beq x.ver y.ver) && sameBut ids (n + 1) r s
  | _, _, _ => false

def freezeAll (env : PEnv) : List Nat → LS → LS
  | [], L => L
  | q :: r, L => freezeAll env r (match pget env q with | some v => (vcells v).foldl freeze L | none => L)

def iterP {σ β : Type} (F : (σ → Option β) → σ → Option β) : Nat → σ → Option β
  | 0 => fun _ => none
  | n + 1 => F (iterP F n)

def sameIds : List Nat → List Nat → Bool
  | [], [] => true
  | a :: r, b :: s => Nat.beq a b && sameIds r s
  | _, _ => false

def opSlots (ops : Array Oper) : List Nat := ops.toList.filterMap (·.dst)

/-- The variables that a piece of code may change. -/
def wslots : Code → List Nat
  | .region _ ops _ => opSlots ops
  | .seq a b => wslots a ++ wslots b
  | .cond c a b => match c with
    | .tmp d => d :: (wslots a ++ wslots b)
    | _ => wslots a ++ wslots b
  | .block _ c => wslots c
  | .loop c => wslots c
  | _ => []

/-- A kept variable is part of the loop's state, or not changed by it. -/
def keptOk (w : List Nat) (a : LoopA) (keep : List (Nat × Value)) : Bool := (keep.all fun k => (a.slots.any fun s => Nat.beq s.1 k.1) || !w.contains k.1) && a.slots.all fun s => w.contains s.1

noncomputable def vcode (X : CxV A β) : Code → Nat → PEnv → LS → (AExit → PEnv → LS → Option β) → Option β
  | .skip, _, env, L, K => K .normal env L
  | .label _, _, env, L, K => K .normal env L
  | .region _ ops d, _, env, L, K => match d with
    | false => vops X ops ops.toList env L (K .normal)
    | true => vdraw X ops env L (K .normal)
  | .seq a b, n, env, L, K => vcode X a n env L fun ex env L => match ex with
    | .normal => vcode X b (n + loopsIn a) env L K
    | .exit id => K (.exit id) env L
    | .ret => K .ret env L
  | .cond c a b, n, env, L, K => obind (pev env c) fun v => match v with
    | .bool t => oif t (vcode X a n (plitE c true env) L K) (vcode X b (n + loopsIn a) (plitE c false env) L K)
    | _ => none
  | .block id c, n, env, L, K => vcode X c n env L fun ex env L => match ex with
    | .normal => K .normal env L
    | .exit id' => match Nat.beq id' id with | true => K .normal env L | false => K (.exit id') env L
    | .ret => K .ret env L
  | .loop c, n, env, L, K => obind (keepEnv env (X.eann n)) fun env0 => obind (outAll (X.ann n) env (freezeAll env (X.ann n).fzs L)) fun r =>
    match slotsIn (X.eann n) (X.ann n) && keptOk (wslots c) (X.ann n) (X.eann n), noDup r.2.1 with
    | true, true => obind (mkT (X.ann n).tys r.1) fun s0 =>
      iterP (fun again s => obind (inBlks r.2.1 (X.ann n).cbs.length ((unT (X.ann n).tys s).drop (X.ann n).slots.length) r.2.2) fun L0 => obind (fillBlks r.2.1 (X.ann n).cbs.length ((unT (X.ann n).tys s).drop (X.ann n).slots.length) L0) fun L1 =>
        obind (inSlots (X.ann n).slots ((unT (X.ann n).tys s).take (X.ann n).slots.length) env0 L1) fun i =>
        match fitKeep i.1 (X.eann n) with
        | true => vcode X c (n + 1) i.1 i.2 fun ex env' L' => match ex with
          | .normal => obind (keepEnv env' (X.eann n)) fun _ => obind (outAll (X.ann n) env' L') fun r' => match sameIds r'.2.1 r.2.1, sameBut r.2.1 0 r.2.2.bl r'.2.2.bl with
            | true, true => obind (mkT (X.ann n).tys r'.1) fun s' => again s'
            | _, _ => none
          | .exit id => K (.exit id) env' L'
          | .ret => K .ret env' L'
        | false => none) A.fuel s0
    | _, _ => none
  | .exit id, _, env, L, K => K (.exit id) env L
  | .ret, _, env, L, K => K .ret env L
  | _, _, _, _, _ => none

end code

structure Lev (A : AnnV) where
  call : (f : FuncId) → TupT (A.sig f).ptys → Option (TupT (A.sig f).rtys)
  inl : (β : Type) → FuncId → List PV → LS → (PV → LS → Option β) → Option β

def resV (P : Program) (env : PEnv) (L : LS) : List ResultVar → Option (List PV)
  | [] => some []
  | .tmp t :: r => obind (pget env t) fun v => obind (resV P env L r) fun l => some (v :: l)
  | .cell a t :: r => obind (pget env a) fun v => match v with
    | .ptr b off => match lget L b with
      | some ⟨_, _, .cells cs⟩ => obind (P.info? t) fun i => match P.underlying t with
        | some (.struct _) => match Nat.ble (off + i.size) cs.length with
          | true => obind (resV P env L r) fun l => some (.agg ((cs.drop off).take i.size) :: l)
          | false => none
        | some (.array _ _) => match Nat.ble (off + i.size) cs.length with
          | true => obind (resV P env L r) fun l => some (.agg ((cs.drop off).take i.size) :: l)
          | false => none
        | some _ => obind cs[off]? fun u => obind (resV P env L r) fun l => some (u :: l)
        | none => none
      | _ => none
    | _ => none

/-- The arguments laid in: owned ones as blocks. -/
def inArgs : List (PM × Ty) → List TV → Nat → LS → Option (PEnv × LS)
  | [], [], _, L => some ([], L)
  | (m, _) :: ps, v :: vs, i, L => match m with
    | .ro => obind (inArgs ps vs (i + 1) L) fun r => some ((i, wrapV v.1 (reify 0 v.1 v.2)) :: r.1, r.2)
    | .cl g => obind (inArgs ps vs (i + 1) L) fun r => some ((i, .fn g [] []) :: r.1, r.2)
    | .ps => obind (inArgs ps vs (i + 1) (lpush L (.cells (reify 0 v.1 v.2)))) fun r => some ((i, .ptr L.bl.length 0) :: r.1, r.2)
    | .mv => match v with
      | ⟨.sl u, x⟩ => obind (inArgs ps vs (i + 1) (lpush L (mkBody u x))) fun r => some ((i, .osl L.bl.length 0 none) :: r.1, r.2)
      | _ => none
    | .io => match v with
      | ⟨.sl u, x⟩ => match u.isOs with
        | true => none
        | false => obind (inArgs ps vs (i + 1) (lpush L (.arr u x))) fun r => some ((i, .osl L.bl.length 0 none) :: r.1, r.2)
      | _ => none
  | _, _, _, _ => none

def outRes : List (Bool × Ty) → List PV → LS → Option (List TV × LS)
  | [], [], L => some ([], L)
  | (o, t) :: rs, v :: vs, L => obind (outOne o t v L) fun x => obind (outRes rs vs x.2) fun y => some (x.1 :: y.1, y.2)
  | _, _, _ => none

def outOuts : List (PM × Ty) → Nat → LS → Option (List TV × LS)
  | [], _, L => some ([], L)
  | (m, t) :: ps, i, L => match m with
    | .ro => outOuts ps i L
    | .cl _ => outOuts ps i L
    | .mv => outOuts ps (i + 1) L
    | .io => match t with
      | .sl u => obind (outAb u i L) fun x => obind (outOuts ps (i + 1) L) fun y => some (x :: y.1, y.2)
      | _ => none
    | .ps => obind (outCo t i L) fun x => obind (outOuts ps (i + 1) x.2) fun y => some (x.1 :: y.1, y.2)

/-- The blocks that are handed back. -/
def outIdx : List (PM × Ty) → Nat → List Nat
  | [], _ => []
  | (m, _) :: ps, i => match m with
    | .ro => outIdx ps i
    | .cl _ => outIdx ps i
    | .mv => outIdx ps (i + 1)
    | .io => i :: outIdx ps (i + 1)
    | .ps => i :: outIdx ps (i + 1)

def notTup : PV → Bool
  | .tup _ => false
  | _ => true

def pargs : Nat → List PV → PEnv
  | _, [] => []
  | i, v :: r => (i, v) :: pargs (i + 1) r

noncomputable def runF (P : Program) (A : AnnV) (l : Lev A) (f : FuncId) (a : TupT (A.sig f).ptys) : Option (TupT (A.sig f).rtys) :=
  match P.funcs[f]? with
  | none => none
  | some fn => match fn.body, Nat.ble (A.sig f).params.length fn.ntmps, fn.name == "runtime.NumGoroutine" with
    | some c, true, false => obind (inArgs (A.sig f).params (unT (A.sig f).ptys a) 0 ⟨[], 0⟩) fun e => obind (fillL (psArgs (A.sig f).params (unT (A.sig f).ptys a) 0) e.2) fun L1 =>
      vcode ⟨P, l.call, l.inl _, fn.ntmps, A.own f, A.loops f, A.eloops f⟩ c 0 e.1 L1 fun ex env L => match ex with
        | .exit _ => none
        | _ => obind (resV P env L fn.results.toList) fun vs => obind (outRes (A.sig f).results vs L) fun r => obind (outOuts (A.sig f).params 0 r.2) fun q =>
          match liveRw q.2 (outIdx (A.sig f).params 0) with
          | true => mkT (A.sig f).rtys (r.1 ++ q.1)
          | false => none
    | _, _, _ => none

noncomputable def runI (P : Program) (A : AnnV) (l : Lev A) (β : Type) (f : FuncId) (args : List PV) (L : LS) (K : PV → LS → Option β) : Option β :=
  match P.funcs[f]? with
  | none => none
  | some fn => match fn.body, Nat.ble args.length fn.ntmps, fn.name == "runtime.NumGoroutine" with
    | some c, true, false => vcode ⟨P, l.call, l.inl _, fn.ntmps, A.own f, A.loops f, A.eloops f⟩ c 0 (pargs 0 args) L fun ex env L => match ex with
        | .exit _ => none
        | _ => obind (resV P env L fn.results.toList) fun vs => match vs.all notTup with
          | true => K (onePV vs) L
          | false => none
    | _, _, _ => none

noncomputable def lev (P : Program) (A : AnnV) : Nat → Lev A
  | 0 => ⟨fun _ _ => none, fun _ _ _ _ _ => none⟩
  | d + 1 => ⟨fun f a => match A.vext f with | some v => v a | none => runF P A (lev P A d) f a, runI P A (lev P A d)⟩

end Go.Pv
