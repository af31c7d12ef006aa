/-
  Operations that read blocks or make new ones: they agree with the model's run.
  Conditions: none.
-/
import Derived.Test.YtpjlbjkeekobnaaDoorOpC
import Derived.Deep.AppendSrc
import Derived.Deep.Upon
import Derived.Laws.BytesString
import Derived.Laws.BitsLemmas
set_option linter.unusedVariables false
namespace Go.Ev

/-- An operation that reads blocks. -/
structure ReadF (P : Program) (nt : Nat) (o : Oper) (env : Env) (H : Heap) (raw v : Value) : Prop where
  rd : rdOp P o.op env H = some raw
  run : ∀ (ι : Io) (D : Nat → Prop) (a : Act) (w : World) (G : Heap), rdOp P o.op env G = some raw → Rel ι D G w → ERel ι D nt env a → ∃ c, (execOp a.eval o).run P w = .ok (.value c) w ∧ VRel ι D v c
  lt : EnvLt (Bel H.length) env → closedAt H.length H → VLt (Bel H.length) v

/-- An operation that makes one block: its cells, and the value by the block's number. -/
structure AllocF (P : Program) (nt : Nat) (o : Oper) (env : Env) (vs : List Value) (mk : Nat → Value) : Prop where
  cells : ∀ v ∈ vs, isCell v = true
  run : ∀ (ι : Io) (D : Nat → Prop) (a : Act) (w : World), ERel ι D nt env a → ∃ (cs rest : List Value) (ety : TypeId) (fz : Nat × Nat) (w0 : World) (c : Value), LRel ι D vs cs ∧ Thaw fz (cs ++ rest).length ∧ w0.heap = w.heap ∧ w0.os = w.os ∧ w0.tape = w.tape ∧ w0.output = w.output ∧
    (execOp a.eval o).run P w = .ok (.value c) (w0.alloc (.cells (cs ++ rest).toArray ety fz)) ∧ ∀ id, VRel (ι.set id ⟨w.heap.size, 0, (cs ++ rest).length⟩) (fun b => D b ∨ b = id) (mk id) c
  lt : ∀ D : Nat → Prop, EnvLt D env → LLt D vs
  ltv : ∀ (D : Nat → Prop) id, D id → VLt D (mk id)
  blk : ∀ id, valBlk (mk id) = some id

section
variable {P : Program} {nt : Nat} {o : Oper} {env : Env} {H : Heap} {X : Cx} {β : Type} {K : Value → Heap → Option β} {r : β}

theorem hloadN_lt {a : Addr} {n : Nat} {l : List Value} (h : hloadN H a n = some l) (hc : closedAt H.length H) : LLt (Bel H.length) l := by
  obtain ⟨k, hk, h⟩ := obind_some h
  split at h
  · simp at h; subst h
    intro v hv
    exact hc _ (hget_lt hk) k hk v (List.mem_of_mem_drop (List.mem_of_mem_take hv))
  · simp at h
theorem hload0_lt {a : Addr} {n : Nat} {l : List Value} (h : hload0 H a n = some l) (hc : closedAt H.length H) : LLt (Bel H.length) l := by
  cases n with
  | zero => simp only [hload0, Option.some.injEq] at h; subst h; intro v hv; simp at hv
  | succ m => exact hloadN_lt h hc

theorem hload_lt {a : Addr} {v : Value} (h : hload H a = some v) (hc : closedAt H.length H) : VLt (Bel H.length) v := by
  obtain ⟨k, hk, h⟩ := obind_some h
  exact hc _ (hget_lt hk) k hk v (List.mem_of_getElem? h)

theorem read_global {t : TypeId} {x : Operand} {v : Value} (ho : o.op = .load t x) (hg : gRead P t x = some v) : ReadF P nt o env H v v := by
  obtain ⟨g, l, i, n, e, rfl, hl, hi, hu, h1, h2, rfl⟩ := gRead_some hg
  refine ⟨by simp only [rdOp, ho, hg], fun ι D a w G _ hR _ => ⟨.agg l.toArray, ?_, LRel.mkAgg (LRel.refl_leaf h2 ι D)⟩, fun _ _ => VLt.mkAgg fun v hv => leafOk_lt (List.all_eq_true.1 h2 v hv) _⟩
  have hrun := run_loadCells_list (P := P) w (⟨g, 0, none⟩ : Addr) l (fun j v hv => hR.gw.cells hl j v hv)
  have hagg : (isAgg t).run P w = .ok true w := by simp [isAgg, run_underlying hu]
  have ex : a.eval (.global g) = .pointer (some ⟨g, 0, none⟩) := rfl
  rw [h1] at hrun
  simp only [execOp, ho, ex, Instr.loadAt, Instr.sureAddr, loadVar, Sem.run_bind, Sem.run_pure, Result.andThen_ok, hagg, if_true, sizeOf, typeInfo, run_program, hi, hrun]

theorem read_load_agg {t : TypeId} {x : Operand} {p : Addr} {i : TypeInfo} {l : List Value} {d : TypeDesc} (ho : o.op = .load t x) (hx : ev env x = some (.pointer (some p))) (hi : P.info? t = some i) (hu : P.underlying t = some d)
    (hd : (∃ fs, d = .struct fs) ∨ ∃ n e, d = .array n e) (hl : hloadN H p i.size = some l) : ReadF P nt o env H (.agg l.toArray) (.agg l.toArray) := by
  have hrd : ∀ G : Heap, rdOp P o.op env G = obind (hloadN G p i.size) fun l => some (.agg l.toArray) := by
    intro G
    rcases hd with ⟨fs, rfl⟩ | ⟨n, e, rfl⟩ <;> simp only [rdOp, ho, gRead_ev hx, hx, obind, ptrS, hi, hu]
  refine ⟨by rw [hrd, hl]; rfl, fun ι D a w G hG hR he => ?_, fun he hc => VLt.mkAgg (hloadN_lt hl hc)⟩
  rw [hrd] at hG
  obtain ⟨l', hl', e⟩ := obind_some hG
  simp at e; subst e
  obtain ⟨cs, h1, h2, h3, h4⟩ := hR.loadN hl'
  have hrun := run_loadCells_list (P := P) w (ι.addr p) cs h3
  refine ⟨.agg cs.toArray, ?_, LRel.mkAgg h2⟩
  have ex := (ev_rel he hx).inv_ptr.1
  have hagg : (isAgg t).run P w = .ok true w := by
    rcases hd with ⟨fs, rfl⟩ | ⟨n, e, rfl⟩ <;> simp [isAgg, run_underlying hu]
  rw [h1] at hrun
  simp only [execOp, ho, ex, Instr.loadAt, Instr.sureAddr, loadVar, Sem.run_bind, Sem.run_pure, Result.andThen_ok, hagg, if_true, sizeOf, typeInfo, run_program, hi, hrun]

theorem read_load {t : TypeId} {x : Operand} {p : Addr} {i : TypeInfo} {u : Value} {d : TypeDesc} (ho : o.op = .load t x) (hx : ev env x = some (.pointer (some p))) (hi : P.info? t = some i) (hu : P.underlying t = some d)
    (hd : (∀ fs, d ≠ .struct fs) ∧ ∀ n e, d ≠ .array n e) (hl : hload H p = some u) : ReadF P nt o env H u u := by
  have hrd : ∀ G : Heap, rdOp P o.op env G = hload G p := by
    intro G
    simp only [rdOp, ho, gRead_ev hx, hx, obind, ptrS, hi, hu]
    cases d <;> first | rfl | exact absurd rfl (hd.1 _) | exact absurd rfl (hd.2 _ _)
  refine ⟨by rw [hrd, hl], fun ι D a w G hG hR he => ?_, fun he hc => hload_lt hl hc⟩
  rw [hrd] at hG
  obtain ⟨c, h1, h2, h3⟩ := hR.load hG
  refine ⟨c, ?_, h2⟩
  have ex := (ev_rel he hx).inv_ptr.1
  have hagg : (isAgg t).run P w = .ok false w := by
    simp only [isAgg, Sem.run_bind, run_underlying hu, Result.andThen_ok]
    cases d <;> first | rfl | exact absurd rfl (hd.1 _) | exact absurd rfl (hd.2 _ _)
  simp only [execOp, ho, ex, Instr.loadAt, Instr.sureAddr, loadVar, Sem.run_bind, Sem.run_pure, Result.andThen_ok, hagg, Bool.false_eq_true, if_false, run_load, h1]

theorem sliceCells_rel {ι : Io} {D : Nat → Prop} {w : World} (hR : Rel ι D H w) {size : Nat} {a : Option Addr} {n m : Nat} {l : List Value} (hl : sliceCells H size (.slice a n m) = some l) {c : Value} (hc : VRel ι D (.slice a n m) c) :
    ∃ cs : List Value, cs.length = n * size ∧ LRel ι D l cs ∧ (∀ v ∈ l, isCell v = true) ∧ (Builtin.firstCells size n c).run P w = .ok cs.toArray w ∧ ∃ a' cap, c = .slice a' n cap ∧ (a' = none → n = 0) := by
  unfold sliceCells at hl
  split at hl
  · rename_i h; simp at h; obtain ⟨rfl, rfl, rfl⟩ := h
    simp at hl; subst hl
    cases hc
    exact ⟨[], by simp, LRel.nil ι D, by simp, by simp [Builtin.firstCells], none, 0, rfl, fun _ => rfl⟩
  · rename_i p n' m' h; simp at h; obtain ⟨rfl, rfl, rfl⟩ := h
    obtain ⟨cs, h1, h2, h3, h4⟩ := hR.load0 hl
    cases hc with
    | slGo _ _ _ cap hD hlc hcap =>
      have hrun := run_loadCells_list (P := P) w (ι.addr p) cs h3
      rw [h1] at hrun
      exact ⟨cs, h1, h2, h4, by simp only [Builtin.firstCells]; exact hrun, _, cap, rfl, by simp⟩
    | slEmpty _ b _ hD =>
      have e : cs = [] := List.length_eq_zero_iff.1 (by simpa using h1)
      subst e
      exact ⟨[], by simp, h2, h4, by simp [Builtin.firstCells, loadCells, loadCellsFrom], _, 0, rfl, by simp⟩
  · simp at hl

theorem sliceCells_lt {size : Nat} {v : Value} {l : List Value} (hl : sliceCells H size v = some l) (hc : closedAt H.length H) : LLt (Bel H.length) l := by
  unfold sliceCells at hl
  split at hl
  · simp at hl; subst hl; intro v hv; simp at hv
  · exact hload0_lt hl hc
  · simp at hl

theorem bytesOf_ints : ∀ {l : List Value} {bs : List UInt8}, bytesOf l = some bs → ∃ ns : List Int, l = ns.map (Value.int .u8) ∧ bs = ns.map fun n => UInt8.ofNat n.toNat
  | [], bs, h => by simp [bytesOf] at h; subst h; exact ⟨[], rfl, rfl⟩
  | c :: cs, bs, h => by
    unfold bytesOf at h
    split at h
    · simp at *
    · rename_i n r heq
      simp at heq
      obtain ⟨rfl, rfl⟩ := heq
      obtain ⟨l, hl, h⟩ := obind_some h
      simp at h; subst h
      obtain ⟨ns, e1, e2⟩ := bytesOf_ints hl
      exact ⟨n :: ns, by simp [e1], by simp [e2]⟩
    · simp at h

theorem foldl_push (ns : List Int) : ∀ s : ByteArray, ns.foldl (fun r n => r.push (UInt8.ofNat n.toNat)) s = ⟨(s.data.toList ++ ns.map fun n => UInt8.ofNat n.toNat).toArray⟩ := by
  induction ns with
  | nil => intro s; simp
  | cons n ns ih =>
    intro s
    rw [List.foldl_cons, ih]
    simp [ByteArray.push]

theorem ints_rel {ι : Io} {D : Nat → Prop} : ∀ {ns : List Int} {cs : List Value}, LRel ι D (ns.map (Value.int .u8)) cs → cs = ns.map (Value.int .u8)
  | [], cs, h => by
    have := h.1; simp at this; exact List.length_eq_zero_iff.1 this.symm
  | n :: ns, [], h => absurd h.1 (by simp)
  | n :: ns, c :: cs, h => by
    rw [h.head.inv_int, ints_rel (ns := ns) h.tail]; rfl

theorem read_convBytes {src dst e : TypeId} {x : Operand} {a : Option Addr} {n m : Nat} {l : List Value} {bs : List UInt8} (ho : o.op = .convert src dst x) (hx : ev env x = some (.slice a n m)) (h1 : P.underlying src = some (.slice e)) (h2 : P.underlying dst = some .string)
    (h3 : P.underlying e = some (.int .u8)) (hl : sliceCells H 1 (.slice a n m) = some l) (hb : bytesOf l = some bs) : ReadF P nt o env H (.agg l.toArray) (.string ⟨bs.toArray⟩) := by
  have hrd : ∀ G : Heap, rdOp P o.op env G = obind (sliceCells G 1 (.slice a n m)) fun l => some (.agg l.toArray) := by
    intro G; simp only [rdOp, ho, hx, obind]
  refine ⟨by rw [hrd, hl]; rfl, fun ι D act w G hG hR he => ⟨.string ⟨bs.toArray⟩, ?_, .str _⟩, fun _ _ => .str _⟩
  rw [hrd] at hG
  obtain ⟨l', hl', e'⟩ := obind_some hG
  simp at e'; subst e'
  obtain ⟨ns, e1, e2⟩ := bytesOf_ints hb
  obtain ⟨cs, g1, g2, g3, g4, a', cap, g5, g6⟩ := sliceCells_rel (P := P) hR hl' (ev_rel he hx)
  rw [e1] at g2
  have hcs := ints_rel g2
  subst hcs
  have hrun : (Conv.bytesToString (.slice a' n cap)).run P w = .ok (.string ⟨bs.toArray⟩) w := by
    cases a' with
    | none =>
      have hn := g6 rfl
      subst hn
      have : ns = [] := by simpa using g1
      subst this
      simp at e2; subst e2
      rfl
    | some q =>
      rw [g5] at g4
      simp only [Builtin.firstCells, Nat.mul_one] at g4
      rw [run_bytesToString w q n cap ns g4, foldl_push, e2]
      rfl
  simp only [execOp, ho, g5, Sem.run_bind, run_convert_bytes_string w src dst e a' n cap h1 h3 h2, hrun, Result.andThen_ok, Sem.run_pure]

theorem World.alloc_def (w : World) (o : Obj) : ({ w with heap := w.heap.push o } : World) = w.alloc o := rfl

theorem ptr_new {ι : Io} {D : Nat → Prop} {k sz : Nat} (id : Nat) : VRel (ι.set id ⟨k, 0, sz⟩) (fun b => D b ∨ b = id) (.pointer (some ⟨id, 0, none⟩)) (.pointer (some ⟨k, 0, none⟩)) := by
  have := VRel.ptr (ι := ι.set id ⟨k, 0, sz⟩) (D := fun b => D b ∨ b = id) ⟨id, 0, none⟩ (.inr rfl)
  simp only [Io.addr, Io.set_same] at this
  exact this

theorem sl_new {ι : Io} {D : Nat → Prop} {k sz n c cap : Nat} (id : Nat) (hl : n ≤ cap) (hc : cap * c ≤ sz) : VRel (ι.set id ⟨k, 0, sz⟩) (fun b => D b ∨ b = id) (.slice (some ⟨id, 0, none⟩) n c) (.slice (some ⟨k, 0, none⟩) n cap) := by
  have := VRel.slGo (ι := ι.set id ⟨k, 0, sz⟩) (D := fun b => D b ∨ b = id) ⟨id, 0, none⟩ n c cap (.inr rfl) hl (by simp only [Io.set_same]; omega)
  simp only [Io.addr, Io.set_same] at this
  exact this

theorem alloc_alloc {t : TypeId} {z : Value} (ho : o.op = .alloc t) (hz : zeroOf P t = some z) (hl : z.cells.toList.all leafOk = true) : AllocF P nt o env z.cells.toList fun id => .pointer (some ⟨id, 0, none⟩) := by
  refine ⟨fun v hv => leafOk_isCell (List.all_eq_true.1 hl v hv), fun ι D a w he => ⟨z.cells.toList, [], t, (0, 0), w, .pointer (some ⟨w.heap.size, 0, none⟩), LRel.refl_leaf hl ι D, Thaw.zero _, rfl, rfl, rfl, rfl, ?_, fun id => ptr_new id⟩,
    fun D _ v hv => leafOk_lt (List.all_eq_true.1 hl v hv) D, fun D id h => .ptr _ h, fun id => rfl⟩
  obtain ⟨i, hi, hz'⟩ := obind_some hz
  simp only [execOp, ho, Instr.alloc, zeroValue, typeInfo, newVar, newRow, Sem.run_bind, run_program, Result.andThen_ok, hi, Sem.run_pure, hz', run_newObj, List.append_nil, Array.toArray_toList]
  rfl

theorem alloc_box {t : TypeId} {x : Operand} {v : Value} (ho : o.op = .box t x) (hx : ev env x = some v) (hl : v.cells.toList.all isCell = true) : AllocF P nt o env v.cells.toList fun id => .pointer (some ⟨id, 0, none⟩) := by
  refine ⟨fun u hu => List.all_eq_true.1 hl u hu, fun ι D a w he => ⟨(a.eval x).cells.toList, [], t, (0, 0), w, .pointer (some ⟨w.heap.size, 0, none⟩), (ev_rel he hx).cells, Thaw.zero _, rfl, rfl, rfl, rfl, ?_, fun id => ptr_new id⟩,
    fun D he => (ev_lt he hx).cells, fun D id h => .ptr _ h, fun id => rfl⟩
  simp only [execOp, ho, Instr.box, newVar, newRow, Sem.run_bind, Result.andThen_ok, Sem.run_pure, run_newObj, List.append_nil, Array.toArray_toList]
  rfl

theorem range_add (a b : Nat) : List.range (a + b) = List.range a ++ (List.range b).map (a + ·) := List.range_add

theorem zeros_eq (z : Array Value) : ∀ n : Nat, ((Array.range (n * z.size)).map fun i => z[i % z.size]!).toList = (List.replicate n z.toList).flatten := by
  intro n
  simp only [Array.toList_map, Array.toList_range]
  induction n with
  | zero => simp
  | succ n ih =>
    rw [List.replicate_succ, List.flatten_cons, ← ih, show (n + 1) * z.size = z.size + n * z.size by rw [Nat.add_mul]; omega, List.range_add, List.map_append, List.map_map]
    congr 1
    · apply List.ext_getElem
      · simp
      · intro i h1 h2
        simp only [List.length_map, List.length_range] at h1
        simp [Nat.mod_eq_of_lt h1, getElem!_pos z i h1]
    · apply List.map_congr_left
      intro i _
      simp

theorem zeros_all {z : List Value} {p : Value → Bool} (h : z.all p = true) (n : Nat) : (List.replicate n z).flatten.all p = true := by
  rw [List.all_eq_true] at h ⊢
  intro v hv
  obtain ⟨l, hl, hv⟩ := List.mem_flatten.1 hv
  rw [(List.mem_replicate.1 hl).2] at hv
  exact h v hv

theorem elemOf_some {t e : TypeId} {size bytes : Nat} {z : Value} (h : elemOf? P t = some (e, size, bytes, z)) :
    ∃ i, P.underlying t = some (.slice e) ∧ P.info? e = some i ∧ i.size = size ∧ i.bytes = bytes ∧ i.zero = some z ∧ z.cells.toList.all leafOk = true ∧ z.cells.size = size ∧ 1 ≤ bytes := by
  unfold elemOf? at h
  split at h
  · rename_i e' hu
    obtain ⟨i, hi, h⟩ := obind_some h
    obtain ⟨z', hz, h⟩ := obind_some h
    split at h
    · rename_i g1 g2 g3
      simp at h
      obtain ⟨rfl, rfl, rfl, rfl⟩ := h
      exact ⟨i, hu, hi, rfl, rfl, hz, g1, Nat.eq_of_beq_eq_true g2, Nat.le_of_ble_eq_true g3⟩
    · simp at h
  · simp at h

theorem alloc_buildSlice {t e : TypeId} {len size bytes : Nat} {parts : Array (Nat × Operand)} {ps : List (Nat × Value)} {z : Value} {cs : Array Value} (ho : o.op = .buildSlice t len parts) (hp : evParts env parts.toList = some ps) (he' : elemOf? P t = some (e, size, bytes, z))
    (h1 : Nat.ble (len * size) 16777216 = true) (hf : Instr.fill (fun i => some (i * size, size)) ((List.replicate len z.cells.toList).flatten.toArray) ps = some cs) (hc : cs.toList.all isCell = true) (hlen : cs.size = len * size) :
    AllocF P nt o env cs.toList fun id => .slice (some ⟨id, 0, none⟩) len size := by
  obtain ⟨i, hu, hi, rfl, rfl, hz, h2, h3, hb1⟩ := elemOf_some he'
  have h1 := Nat.le_of_ble_eq_true h1
  refine ⟨fun u hu => List.all_eq_true.1 hc u hu, fun ι D a w he => ?_, fun D he => fill_lt _ _ _ cs (evParts_lt he hp) (fun v hv => leafOk_lt (List.all_eq_true.1 (zeros_all h2 len) v (by simpa using hv)) D) hf, fun D id h => .sl _ _ _ h, fun id => rfl⟩
  obtain ⟨cs', g1, g2⟩ := fill_rel (ι := ι) (D := D) _ _ _ _ ((List.replicate len z.cells.toList).flatten.toArray) cs (evParts_rel he hp) (LRel.refl_leaf (by simpa using zeros_all h2 len) ι D) hf
  have hl' : cs'.size = len * i.size := by have := g2.1; simp at this; omega
  refine ⟨cs'.toList, [], e, (0, 0), w, .slice (some ⟨w.heap.size, 0, none⟩) len len, g2, Thaw.zero _, rfl, rfl, rfl, rfl, ?_, fun id => sl_new id (Nat.le_refl _) (by simp; omega)⟩
  have hno : ¬ (len * i.size > 2 ^ 24) := by omega
  have hparts : (parts.map fun (x : Nat × Operand) => (x.fst, a.eval x.snd)).toList = parts.toList.map fun (i, x) => (i, a.eval x) := by simp
  by_cases h0 : len * i.size = 0
  · have hbase : ((Array.range (len * i.size)).map ((#[] : Array Value)[· % (#[] : Array Value).size]!)) = (List.replicate len z.cells.toList).flatten.toArray := by
      apply Array.ext'
      have := zeros_eq z.cells len
      rw [h3, h0] at this
      rw [← this, h0]; simp
    simp only [execOp, ho, Instr.buildSlice, Sem.run_bind, run_underlying hu, Result.andThen_ok, sizeOf, typeInfo, run_program, hi, Sem.run_pure, if_neg hno, if_pos h0, hbase, hparts, g1, newRow, run_newObj, List.append_nil, Array.toArray_toList]
    rfl
  · have hbase : ((Array.range (len * i.size)).map (z.cells[· % z.cells.size]!)) = (List.replicate len z.cells.toList).flatten.toArray := by
      apply Array.ext'
      have := zeros_eq z.cells len
      rw [h3] at this
      rw [h3]
      simpa using this
    simp only [execOp, ho, Instr.buildSlice, Sem.run_bind, run_underlying hu, Result.andThen_ok, sizeOf, typeInfo, run_program, hi, Sem.run_pure, if_neg hno, if_neg h0, zeroValue, hz, hbase, hparts, g1, newRow, run_newObj, List.append_nil, Array.toArray_toList]
    rfl

theorem wrap_nat (n : Nat) (h : n ≤ 9223372036854775807) : IntKind.i64.wrap (n : Int) = n := by rw [IntKind.wrap_i64]; omega

theorem alloc_makeSlice {t e : TypeId} {l c : Operand} {n m size bytes : Nat} {z : Value} (ho : o.op = .makeSlice t l c) (hl : ev env l = some (.int .i64 (n : Int))) (hc : ev env c = some (.int .i64 (m : Int))) (he' : elemOf? P t = some (e, size, bytes, z))
    (h1 : n ≤ m) (h2 : m * bytes ≤ roomMax) :
    AllocF P nt o env (List.replicate n z.cells.toList).flatten fun id => .slice (some ⟨id, 0, none⟩) n size := by
  obtain ⟨i, hu, hi, rfl, rfl, hz, h4, h5, hb1⟩ := elemOf_some he'
  have h3 : m ≤ 9223372036854775807 := by
    have e1 : m * 1 ≤ m * i.bytes := Nat.mul_le_mul_left m hb1
    have e2 : m * i.bytes ≤ 140737488355328 := h2
    omega
  refine ⟨fun u hu => leafOk_isCell (List.all_eq_true.1 (zeros_all h4 n) u hu), fun ι D a w he => ?_, fun D he v hv => leafOk_lt (List.all_eq_true.1 (zeros_all h4 n) v hv) D, fun D id h => .sl _ _ _ h, fun id => rfl⟩
  have hsplit : (List.replicate n z.cells.toList).flatten ++ (List.replicate (m - n) z.cells.toList).flatten = (List.replicate m z.cells.toList).flatten := by
    rw [← List.flatten_append, ← List.replicate_append_replicate.symm]
    congr 2
    omega
  have hlen : ((List.replicate n z.cells.toList).flatten ++ (List.replicate (m - n) z.cells.toList).flatten).length = m * i.size := by
    rw [hsplit]; simp [h5]
  refine ⟨(List.replicate n z.cells.toList).flatten, (List.replicate (m - n) z.cells.toList).flatten, e, (0, 0), w, .slice (some ⟨w.heap.size, 0, none⟩) n m, LRel.refl_leaf (zeros_all h4 n) ι D, Thaw.zero _, rfl, rfl, rfl, rfl, ?_,
    fun id => sl_new id h1 (by rw [hlen]; exact Nat.le_refl _)⟩
  have e1 := (ev_rel he hl).inv_int
  have e2 := (ev_rel he hc).inv_int
  have w1 := wrap_nat n (by omega)
  have w2 := wrap_nat m h3
  have hroom : ¬ ((i.bytes : Int) * (m : Int) > 2 ^ 48) := by
    have : m * i.bytes ≤ 140737488355328 := h2
    have e : ((i.bytes : Int) * (m : Int)) = ((m * i.bytes : Nat) : Int) := by push_cast; rw [Int.mul_comm]
    rw [e]; omega
  have hcond : ¬ ((((decide ((m : Int) < 0) || decide ((i.bytes : Int) * (m : Int) > 2 ^ 48)) || decide ((n : Int) < 0)) || decide ((n : Int) > (m : Int))) = true) := by
    simp only [Bool.or_eq_true, decide_eq_true_eq, not_or]
    exact ⟨⟨⟨by omega, hroom⟩, by omega⟩, by omega⟩
  rw [hsplit]
  have htn : (m : Int).toNat = m := by omega
  have htn' : (n : Int).toNat = n := by omega
  by_cases h0 : m * i.size = 0
  · have hbase : ((Array.range (m * i.size)).map ((#[] : Array Value)[· % (#[] : Array Value).size]!)) = (List.replicate m z.cells.toList).flatten.toArray := by
      apply Array.ext'
      have := zeros_eq z.cells m
      rw [h5, h0] at this
      rw [← this, h0]; simp
    simp only [execOp, ho, e1, e2, Instr.makeSlice, asInt, asIntOf, Sem.run_bind, run_underlying hu, Result.andThen_ok, sizeOf, typeInfo, run_program, hi, Sem.run_pure, w1, w2, if_neg hcond, run_askRoom, htn, htn', if_pos h0, hbase, newRow, run_newObj]
    rfl
  · have hbase : ((Array.range (m * i.size)).map (z.cells[· % z.cells.size]!)) = (List.replicate m z.cells.toList).flatten.toArray := by
      apply Array.ext'
      have := zeros_eq z.cells m
      rw [h5] at this
      rw [h5]
      simpa using this
    simp only [execOp, ho, e1, e2, Instr.makeSlice, asInt, asIntOf, Sem.run_bind, run_underlying hu, Result.andThen_ok, sizeOf, typeInfo, run_program, hi, Sem.run_pure, w1, w2, if_neg hcond, run_askRoom, htn, htn', if_neg h0, zeroValue, hz, hbase, newRow, run_newObj]
    rfl

theorem bytes_all (s : ByteArray) : (byteCells s).all leafOk = true := by
  rw [List.all_eq_true]
  intro v hv
  obtain ⟨b, _, rfl⟩ := List.mem_map.1 hv
  rfl

theorem freeze_new (w : World) (arr : Array Value) (e : TypeId) : (w.alloc (.cells arr e)).freeze ⟨w.heap.size, arr.size, none⟩ 1 = w.alloc (.cells arr e (arr.size, arr.size + 1)) := by
  unfold World.freeze World.alloc
  simp only [Nat.one_ne_zero, if_false]
  congr 1
  apply Array.ext
  · simp
  · intro k h1 h2
    rw [Array.getElem_modify]
    by_cases hk : w.heap.size = k
    · subst hk; simp
    · rw [if_neg hk]
      simp only [Array.size_push] at h2
      rw [Array.getElem_push_lt (by omega), Array.getElem_push_lt (by omega)]

theorem alloc_convStr {src dst e : TypeId} {x : Operand} {s : ByteArray} (ho : o.op = .convert src dst x) (hx : ev env x = some (.string s)) (h1 : P.underlying src = some .string) (h2 : P.underlying dst = some (.slice e)) (h3 : P.underlying e = some (.int .u8)) :
    AllocF P nt o env (s.data.toList.map fun b => .int .u8 b.toNat) fun id => .slice (some ⟨id, 0, none⟩) s.size 1 := by
  have hb : (s.data.toList.map fun b => Value.int .u8 b.toNat) = byteCells s := rfl
  rw [hb]
  refine ⟨fun u hu => leafOk_isCell (List.all_eq_true.1 (bytes_all s) u hu), fun ι D a w he => ?_, fun D he v hv => leafOk_lt (List.all_eq_true.1 (bytes_all s) v hv) D, fun D id h => .sl _ _ _ h, fun id => rfl⟩
  let cap := (Question.appendCap s.size 0 e).cut (w.tape w.drawn (.appendCap s.size 0 e))
  have hcap : s.size ≤ cap := by simp [cap, Question.cut]
  have hlen : (byteCells s ++ List.replicate (cap - s.size) (Value.int .u8 0)).length = cap := by
    rw [List.length_append, byteCells_length, List.length_replicate]; omega
  refine ⟨byteCells s, List.replicate (cap - s.size) (.int .u8 0), e, (cap, cap + 1), w.drew, .slice (some ⟨w.heap.size, 0, none⟩) s.size cap, LRel.refl_leaf (bytes_all s) ι D, by rw [hlen]; exact Thaw.behind _ _, rfl, rfl, rfl, rfl, ?_,
    fun id => sl_new id hcap (by rw [hlen]; omega)⟩
  have harr : (s.data.map fun b => Value.int .u8 b.toNat) ++ Array.replicate (cap - s.size) (.int .u8 0) = (byteCells s ++ List.replicate (cap - s.size) (Value.int .u8 0)).toArray := by
    apply Array.ext'; simp [byteCells]
  have hfr := freeze_new w.drew (byteCells s ++ List.replicate (cap - s.size) (Value.int .u8 0)).toArray e
  have hsz : (byteCells s ++ List.replicate (cap - s.size) (Value.int .u8 0)).toArray.size = cap := by simpa using hlen
  rw [hsz] at hfr
  have hsh := shape_alloc_new w.drew (byteCells s ++ List.replicate (cap - s.size) (Value.int .u8 0)).toArray e (0, 0)
  rw [hsz] at hsh
  have hconv : (convert src dst (.string s)).run P w = (Conv.stringToBytes e s).run P w := by
    simp [convert, run_underlying h1, run_underlying h2, run_underlying h3]
  have hrun : (Conv.stringToBytes e s).run P w = .ok (.slice (some ⟨w.heap.size, 0, none⟩) s.size cap) (w.drew.alloc (.cells (byteCells s ++ List.replicate (cap - s.size) (Value.int .u8 0)).toArray e (cap, cap + 1))) := by
    rw [← hfr]
    simp only [Conv.stringToBytes, Sem.run_bind, run_choose, Question.forced, Bool.false_eq_true, if_false, Result.andThen_ok, newRow, run_newObj, Sem.run_pure]
    rw [show (Question.appendCap s.size 0 e).cut (w.tape w.drawn (.appendCap s.size 0 e)) = cap from rfl, harr]
    show ((markStringish ⟨w.drew.heap.size, 0, none⟩).run P (w.drew.alloc (.cells (byteCells s ++ List.replicate (cap - s.size) (Value.int .u8 0)).toArray e))).andThen (fun _ w' => Result.ok (Value.slice (some ⟨w.heap.size, 0, none⟩) s.size cap) w') = _
    simp only [markStringish, Sem.run_bind, run_shape, Result.andThen_ok, hsh, run_freeze]
  simp only [execOp, ho, (ev_rel he hx).inv_str, Sem.run_bind, hconv, hrun, Result.andThen_ok, Sem.run_pure]

end

end Go.Ev
