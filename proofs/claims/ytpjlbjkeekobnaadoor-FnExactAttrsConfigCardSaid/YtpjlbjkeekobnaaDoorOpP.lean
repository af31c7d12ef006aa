/-
  Operations that neither read nor write blocks: what they compute agrees with the model's run.
  Conditions: none.
-/
import Derived.Test.YtpjlbjkeekobnaaDoorNat
import Derived.Laws.Entries
import Derived.Laws.Small
import Derived.Laws.Strings
set_option linter.unusedVariables false
namespace Go.Ev

/-- An operation that computes: in every world, out of related slots, a related value; the world stays. -/
structure PureF (P : Program) (nt : Nat) (o : Oper) (env : Env) (v : Value) : Prop where
  run : ∀ (ι : Io) (D : Nat → Prop) (a : Act) (w : World), ERel ι D nt env a → ∃ c, (execOp a.eval o).run P w = .ok (.value c) w ∧ VRel ι D v c
  lt : ∀ D : Nat → Prop, EnvLt D env → VLt D v

section inv
variable {ι : Io} {D : Nat → Prop} {c : Value}
theorem VRel.inv_bool {b : Bool} (h : VRel ι D (.bool b) c) : c = .bool b := by cases h; rfl
theorem VRel.inv_int {k : IntKind} {n : Int} (h : VRel ι D (.int k n) c) : c = .int k n := by cases h; rfl
theorem VRel.inv_str {s : ByteArray} (h : VRel ι D (.string s) c) : c = .string s := by cases h; rfl
theorem VRel.inv_ptr {a : Addr} (h : VRel ι D (.pointer (some a)) c) : c = .pointer (some (ι.addr a)) ∧ D a.block := by cases h; exact ⟨rfl, by assumption⟩
theorem VRel.inv_agg {xs : Array Value} (h : VRel ι D (.agg xs) c) : ∃ ys : Array Value, c = .agg ys ∧ LRel ι D xs.toList ys.toList := by
  cases h with
  | agg xs ys hl h => exact ⟨⟨ys⟩, rfl, hl, h⟩
theorem VRel.inv_tuple {xs : Array Value} (h : VRel ι D (.tuple xs) c) : ∃ ys : Array Value, c = .tuple ys ∧ LRel ι D xs.toList ys.toList := by
  cases h with
  | tuple xs ys hl h => exact ⟨⟨ys⟩, rfl, hl, h⟩
theorem VRel.inv_func {f : FuncId} {xs ys : Array Value} (h : VRel ι D (.func (.func f) xs ys) c) : ∃ xs' ys' : Array Value, c = .func (.func f) xs' ys' ∧ LRel ι D xs.toList xs'.toList ∧ LRel ι D ys.toList ys'.toList := by
  cases h with
  | func f xs ys xs' ys' hl h hl' h' => exact ⟨⟨ys⟩, ⟨ys'⟩, rfl, ⟨hl, h⟩, ⟨hl', h'⟩⟩
theorem VRel.inv_sl {a : Option Addr} {n m : Nat} (h : VRel ι D (.slice a n m) c) : ∃ a' cap, c = .slice a' n cap ∧ a'.isNone = a.isNone ∧ n ≤ cap := by
  cases h with
  | slNil => exact ⟨none, 0, rfl, rfl, Nat.le_refl _⟩
  | slGo a len c cap h hl hc => exact ⟨_, cap, rfl, rfl, hl⟩
  | slEmpty a b c h => exact ⟨_, 0, rfl, rfl, Nat.le_refl _⟩
end inv

theorem LRel.mkAgg {ι : Io} {D : Nat → Prop} {xs ys : Array Value} (h : LRel ι D xs.toList ys.toList) : VRel ι D (.agg xs) (.agg ys) := .agg xs.toList ys.toList h.1 h.2
theorem LRel.mkTuple {ι : Io} {D : Nat → Prop} {xs ys : Array Value} (h : LRel ι D xs.toList ys.toList) : VRel ι D (.tuple xs) (.tuple ys) := .tuple xs.toList ys.toList h.1 h.2

theorem LRel.get {ι : Io} {D : Nat → Prop} {xs ys : List Value} (h : LRel ι D xs ys) {i : Nat} {v : Value} (hv : xs[i]? = some v) : ∃ c, ys[i]? = some c ∧ VRel ι D v c := by
  obtain ⟨hi, e⟩ := List.getElem?_eq_some_iff.1 hv
  have hj : i < ys.length := by have := h.1; omega
  exact ⟨ys[i], List.getElem?_eq_getElem hj, e ▸ h.2 i hi hj⟩

theorem VLt.agg_mem {D : Nat → Prop} {xs : Array Value} (h : VLt D (.agg xs)) : ∀ v ∈ xs.toList, VLt D v := by
  cases h with
  | agg xs h => intro v hv; obtain ⟨i, hi, e⟩ := List.getElem_of_mem hv; exact e ▸ h i hi
theorem VLt.tuple_mem {D : Nat → Prop} {xs : Array Value} (h : VLt D (.tuple xs)) : ∀ v ∈ xs.toList, VLt D v := by
  cases h with
  | tuple xs h => intro v hv; obtain ⟨i, hi, e⟩ := List.getElem_of_mem hv; exact e ▸ h i hi
theorem VLt.func_mem {D : Nat → Prop} {f : FuncId} {xs ys : Array Value} (h : VLt D (.func (.func f) xs ys)) : LLt D xs.toList ∧ LLt D ys.toList := by
  cases h with
  | func f xs ys h h' => exact ⟨fun v hv => by obtain ⟨i, hi, e⟩ := List.getElem_of_mem hv; exact e ▸ h i hi, fun v hv => by obtain ⟨i, hi, e⟩ := List.getElem_of_mem hv; exact e ▸ h' i hi⟩
theorem VLt.mkAgg {D : Nat → Prop} {xs : Array Value} (h : ∀ v ∈ xs.toList, VLt D v) : VLt D (.agg xs) := .agg xs.toList fun i hi => h _ (List.getElem_mem hi)
theorem VLt.ptr_inv {D : Nat → Prop} {a : Addr} (h : VLt D (.pointer (some a))) : D a.block := by cases h; assumption
theorem VLt.sl_inv {D : Nat → Prop} {a : Addr} {n m : Nat} (h : VLt D (.slice (some a) n m)) : D a.block := by cases h; assumption

section
variable {P : Program} {nt : Nat} {o : Oper} {env : Env} {H : Heap} {X : Cx} {β : Type} {K : Value → Heap → Option β} {r : β}

theorem pure_move {x : Operand} {v : Value} (ho : o.op = .move x) (hx : ev env x = some v) : PureF P nt o env v :=
  ⟨fun ι D a w h => ⟨a.eval x, by simp [execOp, ho], ev_rel h hx⟩, fun D h => ev_lt h hx⟩

theorem pure_assign {x : Operand} {v : Value} (ho : o.op = .assign x) (hx : ev env x = some v) : PureF P nt o env v :=
  ⟨fun ι D a w h => ⟨a.eval x, by simp [execOp, ho], ev_rel h hx⟩, fun D h => ev_lt h hx⟩

theorem pure_pick {c x y : Operand} {t : Bool} {v : Value} (ho : o.op = .pick c x y) (hc : ev env c = some (.bool t)) (hv : ev env (if t then x else y) = some v) : PureF P nt o env v := by
  refine ⟨fun ι D a w h => ⟨a.eval (if t then x else y), ?_, ev_rel h hv⟩, fun D h => ev_lt h hv⟩
  have := (ev_rel h hc).inv_bool
  cases t <;> simp [execOp, ho, this, asBool]

theorem pure_nilCheck_ptr {x : Operand} {p : Addr} (ho : o.op = .nilCheck x) (hx : ev env x = some (.pointer (some p))) : PureF P nt o env (.pointer (some p)) := by
  refine ⟨fun ι D a w h => ⟨a.eval x, ?_, ev_rel h hx⟩, fun D h => ev_lt h hx⟩
  have := (ev_rel h hx).inv_ptr.1
  simp [execOp, ho, this]

theorem pure_nilCheck_func {x : Operand} {f : FuncId} {xs ys : Array Value} (ho : o.op = .nilCheck x) (hx : ev env x = some (.func (.func f) xs ys)) : PureF P nt o env (.func (.func f) xs ys) := by
  refine ⟨fun ι D a w h => ⟨a.eval x, ?_, ev_rel h hx⟩, fun D h => ev_lt h hx⟩
  obtain ⟨xs', ys', e, _⟩ := (ev_rel h hx).inv_func
  simp [execOp, ho, e]

theorem pure_extract {x : Operand} {i : Nat} {vs : Array Value} {u : Value} (ho : o.op = .extract x i) (hx : ev env x = some (.tuple vs)) (hu : vs[i]? = some u) : PureF P nt o env u := by
  refine ⟨fun ι D a w h => ?_, fun D h => (ev_lt h hx).tuple_mem u (by rw [← Array.getElem?_toList] at hu; exact List.mem_of_getElem? hu)⟩
  obtain ⟨ys, e, hl⟩ := (ev_rel h hx).inv_tuple
  rw [← Array.getElem?_toList] at hu
  obtain ⟨c, h1, h2⟩ := hl.get hu
  rw [Array.getElem?_toList] at h1
  exact ⟨c, by simp [execOp, ho, e, Instr.extract, h1], h2⟩

theorem LRel.toArray {ι : Io} {D : Nat → Prop} {xs ys : List Value} (h : LRel ι D xs ys) : LRel ι D xs.toArray.toList ys.toArray.toList := h

theorem pure_makeFunc {f : FuncId} {first cap : Array Operand} {fs cs : List Value} (ho : o.op = .makeFunc (.func f) first cap) (h1 : evs env first.toList = some fs) (h2 : evs env cap.toList = some cs) :
    PureF P nt o env (.func (.func f) fs.toArray cs.toArray) := by
  refine ⟨fun ι D a w h => ⟨.func (.func f) (first.map a.eval) (cap.map a.eval), by simp [execOp, ho, Instr.makeFunc], ?_⟩, fun D h => ?_⟩
  · have e1 := evs_rel h h1
    have e2 := evs_rel h h2
    have := VRel.func (ι := ι) (D := D) f fs (first.toList.map a.eval) cs (cap.toList.map a.eval) e1.1 e1.2 e2.1 e2.2
    rw [← Array.toList_map, ← Array.toList_map] at this
    exact this
  · exact .func f fs cs (fun i hi => evs_lt h h1 _ (List.getElem_mem hi)) (fun i hi => evs_lt h h2 _ (List.getElem_mem hi))

theorem pure_unOp {op : UnOp} {t : TypeId} {x : Operand} {u v : Value} (ho : o.op = .unOp op t x) (hx : ev env x = some u) (hu : unA op u some = some v) : PureF P nt o env v := by
  unfold unA at hu
  split at hu
  · simp at hu; subst hu
    exact ⟨fun ι D a w h => ⟨_, by simp [execOp, ho, (ev_rel h hx).inv_bool, Op.unary], .bool _⟩, fun D h => .bool _⟩
  · simp at hu; subst hu
    exact ⟨fun ι D a w h => ⟨_, by simp [execOp, ho, (ev_rel h hx).inv_int, Op.unary, Op.intArith], .int _ _⟩, fun D h => .int _ _⟩
  · simp at hu

theorem unA_nat {op : UnOp} {u : Value} {K : Value → Option β} {r : β} (h : unA op u K = some r) : ∃ v, unA op u some = some v ∧ K v = some r := by
  unfold unA at h ⊢
  split at h
  · exact ⟨_, rfl, h⟩
  · exact ⟨_, rfl, h⟩
  · simp at h

end

end Go.Ev
