/-
  Binary operations, addresses of fields and elements, parts of strings and slices: they agree with the model's run.
  Conditions: none.
-/
import Derived.Test.YtpjlbjkeekobnaaDoorOpP
import Derived.Laws.StructEq
set_option linter.unusedVariables false
namespace Go.Ev

section
variable {P : Program} {nt : Nat} {o : Oper} {env : Env} {H : Heap} {X : Cx} {β : Type} {K : Value → Heap → Option β} {r : β}

def plainEq : Value → Value → Bool
  | .nilIface, .nilIface => false
  | .agg _, .agg _ => false
  | _, _ => true

theorem eqGuard_plain (op : BinOp) (t : TypeId) (x y : Operand) (a b : Value) (w : World) (h : plainEq a b = true) : (eqGuard op t x y a b).run P w = .ok () w := by
  unfold eqGuard
  cases op <;> simp <;> (split <;> simp_all [plainEq])

theorem intOp_nat {op : BinOp} {k : IntKind} {a b : Int} {K : Value → Option β} {r : β} (h : intOp op k a b K = some r) :
    ∃ v, K v = some r ∧ (∀ D, VLt D v) ∧ (∀ ι D, VRel ι D v v) ∧ ∀ (t : TypeId) (w : World), (op ≠ .shl ∧ op ≠ .shr) → (binOp op t (.int k a) (.int k b)).run P w = .ok v w := by
  unfold intOp at h
  cases op <;> simp only at h
  case add => exact ⟨_, h, fun _ => .int _ _, fun _ _ => .int _ _, fun t w _ => by simp [binOp, Op.intArith]⟩
  case sub => exact ⟨_, h, fun _ => .int _ _, fun _ _ => .int _ _, fun t w _ => by simp [binOp, Op.intArith]⟩
  case mul => exact ⟨_, h, fun _ => .int _ _, fun _ _ => .int _ _, fun t w _ => by simp [binOp, Op.intArith]⟩
  case quo =>
    rcases oif_some h with ⟨_, h⟩ | ⟨hb, h⟩
    · simp at h
    · have hb : ¬ b = 0 := by simpa using hb
      exact ⟨_, h, fun _ => .int _ _, fun _ _ => .int _ _, fun t w _ => by simp [binOp, Op.intDiv, hb]⟩
  case rem =>
    rcases oif_some h with ⟨_, h⟩ | ⟨hb, h⟩
    · simp at h
    · have hb : ¬ b = 0 := by simpa using hb
      exact ⟨_, h, fun _ => .int _ _, fun _ _ => .int _ _, fun t w _ => by simp [binOp, Op.intDiv, hb]⟩
  case and => exact ⟨_, h, fun _ => .int _ _, fun _ _ => .int _ _, fun t w _ => by simp [binOp, Op.intBits]⟩
  case or => exact ⟨_, h, fun _ => .int _ _, fun _ _ => .int _ _, fun t w _ => by simp [binOp, Op.intBits]⟩
  case xor => exact ⟨_, h, fun _ => .int _ _, fun _ _ => .int _ _, fun t w _ => by simp [binOp, Op.intBits]⟩
  case shl => simp at h
  case shr => simp at h
  case andNot => exact ⟨_, h, fun _ => .int _ _, fun _ _ => .int _ _, fun t w _ => by simp [binOp, Op.intBits]⟩
  case eql => exact ⟨_, h, fun _ => .bool _, fun _ _ => .bool _, fun t w _ => by simp [binOp, Op.intCmp]⟩
  case neq => exact ⟨_, h, fun _ => .bool _, fun _ _ => .bool _, fun t w _ => by simp [binOp, Op.intCmp]⟩
  case lss => exact ⟨_, h, fun _ => .bool _, fun _ _ => .bool _, fun t w _ => by simp [binOp, Op.intCmp]⟩
  case leq => exact ⟨_, h, fun _ => .bool _, fun _ _ => .bool _, fun t w _ => by simp [binOp, Op.intCmp]⟩
  case gtr => exact ⟨_, h, fun _ => .bool _, fun _ _ => .bool _, fun t w _ => by simp [binOp, Op.intCmp]⟩
  case geq => exact ⟨_, h, fun _ => .bool _, fun _ _ => .bool _, fun t w _ => by simp [binOp, Op.intCmp]⟩

theorem shiftOp_nat {op : BinOp} {k k' : IntKind} {a b : Int} {K : Value → Option β} {r : β} (h : shiftOp op k a b K = some r) :
    ∃ v, K v = some r ∧ (∀ D, VLt D v) ∧ (∀ ι D, VRel ι D v v) ∧ ∀ (t : TypeId) (w : World), (binOp op t (.int k a) (.int k' b)).run P w = .ok v w := by
  unfold shiftOp at h
  rcases oif_some h with ⟨_, h⟩ | ⟨hb, h⟩
  · simp at h
  · have hb : ¬ b < 0 := by simpa using hb
    cases op <;> simp only at h <;> try (simp at h; done)
    case shl => exact ⟨_, h, fun _ => .int _ _, fun _ _ => .int _ _, fun t w => by simp [binOp, Op.shift, hb]⟩
    case shr => exact ⟨_, h, fun _ => .int _ _, fun _ _ => .int _ _, fun t w => by simp [binOp, Op.shift, hb]⟩

theorem strOp_nat {op : BinOp} {a b : ByteArray} {K : Value → Option β} {r : β} (h : strOp op a b K = some r) :
    ∃ v, K v = some r ∧ (∀ D, VLt D v) ∧ (∀ ι D, VRel ι D v v) ∧ ∀ (t : TypeId) (w : World), (binOp op t (.string a) (.string b)).run P w = .ok v w := by
  unfold strOp at h
  cases op <;> simp only at h <;> try (simp at h; done)
  case add =>
    rcases oif_some h with ⟨hb, h⟩ | ⟨_, h⟩
    · have hb := Nat.le_of_ble_eq_true hb
      refine ⟨_, h, fun _ => .str _, fun _ _ => .str _, fun t w => ?_⟩
      simp [binOp, Op.stringOp]
      omega
    · simp at h
  case eql => exact ⟨_, h, fun _ => .bool _, fun _ _ => .bool _, fun t w => by simp [binOp, Op.stringOp]⟩
  case neq => exact ⟨_, h, fun _ => .bool _, fun _ _ => .bool _, fun t w => by simp [binOp, Op.stringOp]⟩
  case lss => exact ⟨_, h, fun _ => .bool _, fun _ _ => .bool _, fun t w => by simp [binOp, Op.stringOp]⟩
  case leq => exact ⟨_, h, fun _ => .bool _, fun _ _ => .bool _, fun t w => by simp [binOp, Op.stringOp]⟩
  case gtr => exact ⟨_, h, fun _ => .bool _, fun _ _ => .bool _, fun t w => by simp [binOp, Op.stringOp]⟩
  case geq => exact ⟨_, h, fun _ => .bool _, fun _ _ => .bool _, fun t w => by simp [binOp, Op.stringOp]⟩

theorem eqOp_nat {op : BinOp} {q : Bool} {K : Value → Option β} {r : β} (h : eqOp op q K = some r) :
    ∃ b, K (.bool b) = some r ∧ ((op = .eql ∧ b = q) ∨ (op = .neq ∧ b = !q)) := by
  unfold eqOp at h
  cases op <;> simp only at h <;> try (simp at h; done)
  case eql => exact ⟨_, h, .inl ⟨rfl, rfl⟩⟩
  case neq => exact ⟨_, h, .inr ⟨rfl, rfl⟩⟩

theorem partA_run {t : TypeId} {cs : Array Value} {off : Nat} {v : Value} (h : partA P t cs off = some v) (w : World) : (part t cs off).run P w = .ok v w := by
  unfold partA at h
  obtain ⟨i, hi, h⟩ := obind_some h
  split at h
  · rename_i hu; simp at h; subst h
    simp [part, isAgg, run_underlying hu, sizeOf, typeInfo, hi]
  · rename_i hu; simp at h; subst h
    simp [part, isAgg, run_underlying hu, sizeOf, typeInfo, hi]
  · rename_i d h1 h2 hu
    have : (isAgg t).run P w = .ok false w := by
      simp only [isAgg, Sem.run_bind, run_underlying hu, Result.andThen_ok]
      cases d <;> simp_all
    simp [part, this, h]
  · simp at h

/-- Values without addresses, to the bottom. -/
inductive Flat : Value → Prop
  | bool (b : Bool) : Flat (.bool b)
  | int (k : IntKind) (n : Int) : Flat (.int k n)
  | str (s : ByteArray) : Flat (.string s)

theorem eqA_run : ∀ (d : Nat) (e : Nat) {t : TypeId} {x y : Value} {q : Bool}, eqA P d t x y = some q → ∀ w : World, (Op.equalIn (d + e) t x y).run P w = .ok q w
  | 0, e, t, x, y, q, h, w => by simp [eqA] at h
  | d + 1, e, t, x, y, q, h, w => by
    rw [show d + 1 + e = (d + e) + 1 by omega]
    unfold eqA at h
    split at h
    · rename_i hu; simp at h; subst h; exact run_equalIn_bool w _ t _ _ hu
    · rename_i hu
      split at h
      · rename_i hk; subst hk; simp at h; subst h; exact run_equalIn_int w _ t _ _ _ _ hu
      · simp at h
    · rename_i hu; simp at h; subst h; exact run_equalIn_string w _ t _ _ hu
    · rename_i fs xs ys hu
      split at h
      · rename_i hst
        have hf : P.fieldsOf t = fs := by simp [Program.fieldsOf, hu]
        rw [run_equalIn_struct w (d + e) t xs ys (by rw [hf]; exact hu) hst, hf]
        generalize fs.toList = l at h
        clear hu hf
        induction l generalizing q with
        | nil => simp [eqFs] at h; subst h; simp [Op.eqFields]
        | cons f fs ih =>
          unfold eqFs at h
          split at h
          · simp at h
          · rename_i hn
            obtain ⟨a, ha, h⟩ := obind_some h
            obtain ⟨b, hb, h⟩ := obind_some h
            obtain ⟨c, hc, h⟩ := obind_some h
            obtain ⟨s, hs, h⟩ := obind_some h
            simp at h; subst h
            have ih' := ih _ hs
            have he := eqA_run d e hc w
            simp only [Op.eqFields, ne_eq, hn, not_false_eq_true, if_true, Sem.run_bind, partA_run ha, partA_run hb, Result.andThen_ok, he]
            cases c
            · simp
            · simp [ih']
      · simp at h
    · simp at h

theorem eqA_flat : ∀ (d : Nat) {t : TypeId} {x y : Value} {q : Bool}, eqA P d t x y = some q → ∀ {ι : Io} {D : Nat → Prop} {x' y' : Value}, VRel ι D x x' → VRel ι D y y' → eqA P d t x' y' = some q
  | 0, t, x, y, q, h, _, _, _, _, _, _ => by simp [eqA] at h
  | d + 1, t, x, y, q, h, ι, D, x', y', hx, hy => by
    unfold eqA at h
    split at h
    · rename_i hu; rw [hx.inv_bool, hy.inv_bool]; simp [eqA, hu]; simpa using h
    · rename_i hu; rw [hx.inv_int, hy.inv_int]; simp only [eqA, hu]; exact h
    · rename_i hu; rw [hx.inv_str, hy.inv_str]; simp only [eqA, hu]; exact h
    · rename_i fs xs ys hu
      obtain ⟨xs', rfl, hxs⟩ := hx.inv_agg
      obtain ⟨ys', rfl, hys⟩ := hy.inv_agg
      unfold eqA
      simp only [hu]
      cases hst : P.stoodInHeld t with
      | true => rw [hst] at h; simp at h
      | false =>
        rw [hst] at h
        simp only at h ⊢
        have hpart : ∀ (f : Field) (zs zs' : Array Value) (v : Value), LRel ι D zs.toList zs'.toList → partA P f.type zs f.offset = some v → ∃ v', partA P f.type zs' f.offset = some v' ∧ VRel ι D v v' := by
          intro f zs zs' v hz hp
          unfold partA at hp ⊢
          obtain ⟨i, hi, hp⟩ := obind_some hp
          rw [hi]; simp only [obind]
          have hex : LRel ι D (zs.extract f.offset (f.offset + i.size)).toList (zs'.extract f.offset (f.offset + i.size)).toList := by
            simp only [Array.toList_extract, List.extract]
            refine ⟨by simp [hz.1], fun j h1 h2 => ?_⟩
            simp only [List.getElem_take, List.getElem_drop]
            exact hz.2 _ _ _
          split at hp
          · simp at hp; subst hp; exact ⟨_, rfl, hex.mkAgg⟩
          · simp at hp; subst hp; exact ⟨_, rfl, hex.mkAgg⟩
          · rw [← Array.getElem?_toList] at hp ⊢
            exact hz.get hp
          · simp at hp
        generalize fs.toList = l at h
        induction l generalizing q with
        | nil => simpa [eqFs] using h
        | cons f fs ih =>
          unfold eqFs at h ⊢
          split at h
          · simp at h
          · rename_i hn
            rw [if_neg hn]
            obtain ⟨a, ha, h⟩ := obind_some h
            obtain ⟨b, hb, h⟩ := obind_some h
            obtain ⟨c, hc, h⟩ := obind_some h
            obtain ⟨s, hs, h⟩ := obind_some h
            obtain ⟨a', ha', ra⟩ := hpart f xs xs' a hxs ha
            obtain ⟨b', hb', rb⟩ := hpart f ys ys' b hys hb
            rw [ha', hb']; simp only [obind]
            rw [eqA_flat d hc ra rb, ih _ hs]
            exact h
    · simp at h

theorem run_equalIn_slNil (w : World) (d : Nat) {t e : TypeId} (hu : P.underlying t = some (.slice e)) (a : Option Addr) (n m n' m' : Nat) : (Op.equalIn (d + 1) t (.slice a n m) (.slice none n' m')).run P w = .ok a.isNone w := by
  cases a <;> simp [Op.equalIn, run_underlying hu]

theorem run_equalIn_ptrNil (w : World) (d : Nat) {t e : TypeId} (hu : P.underlying t = some (.pointer e)) (a : Option Addr) : (Op.equalIn (d + 1) t (.pointer a) (.pointer none)).run P w = .ok a.isNone w := by
  cases a <;> simp [Op.equalIn, run_underlying hu]

theorem binA_pure {op : BinOp} {t t' : TypeId} {x y : Operand} {u v : Value} {K : Value → Option β} {r : β} (ho : o.op = .binOp op t x y t') (hx : ev env x = some u) (hy : ev env y = some v) (h : binA P op t u v K = some r) :
    ∃ z, K z = some r ∧ PureF P nt o env z := by
  have hex : ∀ (a : Act) (w : World) (z : Value), (eqGuard op t x y (a.eval x) (a.eval y)).run P w = .ok () w → (binOp op t (a.eval x) (a.eval y)).run P w = .ok z w → (execOp a.eval o).run P w = .ok (.value z) w := by
    intro a w z h1 h2; simp [execOp, ho, h1, h2]
  unfold binA at h
  split at h
  · rename_i k a k' b
    have hg : ∀ (c : Act) (w : World), c.eval x = .int k a → c.eval y = .int k' b → (eqGuard op t x y (c.eval x) (c.eval y)).run P w = .ok () w := fun c w e1 e2 => by rw [e1, e2]; exact eqGuard_plain _ _ _ _ _ _ _ rfl
    split at h
    · obtain ⟨z, h1, h2, h3, h4⟩ := shiftOp_nat (P := P) (k' := k') h
      exact ⟨z, h1, fun ι D c w he => ⟨z, hex c w z (hg c w (ev_rel he hx).inv_int (ev_rel he hy).inv_int) (by rw [(ev_rel he hx).inv_int, (ev_rel he hy).inv_int]; exact h4 t w), h3 ι D⟩, fun D _ => h2 D⟩
    · obtain ⟨z, h1, h2, h3, h4⟩ := shiftOp_nat (P := P) (k' := k') h
      exact ⟨z, h1, fun ι D c w he => ⟨z, hex c w z (hg c w (ev_rel he hx).inv_int (ev_rel he hy).inv_int) (by rw [(ev_rel he hx).inv_int, (ev_rel he hy).inv_int]; exact h4 t w), h3 ι D⟩, fun D _ => h2 D⟩
    · rename_i n1 n2
      split at h
      · rename_i hk; subst hk
        obtain ⟨z, h1, h2, h3, h4⟩ := intOp_nat (P := P) h
        exact ⟨z, h1, fun ι D c w he => ⟨z, hex c w z (hg c w (ev_rel he hx).inv_int (ev_rel he hy).inv_int) (by rw [(ev_rel he hx).inv_int, (ev_rel he hy).inv_int]; exact h4 t w ⟨fun e => n1 e, fun e => n2 e⟩), h3 ι D⟩, fun D _ => h2 D⟩
      · simp at h
  · obtain ⟨z, h1, h2, h3, h4⟩ := strOp_nat (P := P) h
    exact ⟨z, h1, fun ι D c w he => ⟨z, hex c w z (by rw [(ev_rel he hx).inv_str, (ev_rel he hy).inv_str]; exact eqGuard_plain _ _ _ _ _ _ _ rfl) (by rw [(ev_rel he hx).inv_str, (ev_rel he hy).inv_str]; exact h4 t w), h3 ι D⟩, fun D _ => h2 D⟩
  · split at h
    · rename_i hu
      obtain ⟨b, h1, h2⟩ := eqOp_nat h
      refine ⟨_, h1, fun ι D c w he => ⟨_, hex c w _ (by rw [(ev_rel he hx).inv_bool, (ev_rel he hy).inv_bool]; exact eqGuard_plain _ _ _ _ _ _ _ rfl) ?_, .bool _⟩, fun D _ => .bool _⟩
      rw [(ev_rel he hx).inv_bool, (ev_rel he hy).inv_bool]
      rcases h2 with ⟨rfl, rfl⟩ | ⟨rfl, rfl⟩
      · exact run_eql_bool w t _ _ hu
      · exact run_neq_bool w t _ _ hu
    · simp at h
  · rename_i xs ys
    split at h
    · rename_i hgd
      obtain ⟨q, hq, h⟩ := obind_some h
      obtain ⟨b, h1, h2⟩ := eqOp_nat h
      refine ⟨_, h1, fun ι D c w he => ?_, fun D _ => .bool _⟩
      have hq' := eqA_flat 20 hq (ev_rel he hx) (ev_rel he hy)
      obtain ⟨xs', e1, _⟩ := (ev_rel he hx).inv_agg
      obtain ⟨ys', e2, _⟩ := (ev_rel he hy).inv_agg
      have hr := eqA_run (P := P) 20 9980 hq' w
      refine ⟨_, hex c w _ (by rw [e1, e2]; exact run_eqGuard_agg w op t x y xs' ys' hgd) ?_, .bool _⟩
      rw [e1, e2] at hr ⊢
      rcases h2 with ⟨rfl, rfl⟩ | ⟨rfl, rfl⟩
      · rw [run_eql_struct, hr]; rfl
      · rw [run_neq_struct, hr]; rfl
    · simp at h
  · rename_i a n m n' m'
    split at h
    · rename_i e hu
      obtain ⟨b, h1, h2⟩ := eqOp_nat h
      refine ⟨_, h1, fun ι D c w he => ?_, fun D _ => .bool _⟩
      obtain ⟨a1, c1, e1, i1, _⟩ := (ev_rel he hx).inv_sl
      obtain ⟨a2, c2, e2, i2, _⟩ := (ev_rel he hy).inv_sl
      have i2' : a2 = none := by simpa using i2
      subst i2'
      refine ⟨_, hex c w _ (by rw [e1, e2]; exact eqGuard_plain _ _ _ _ _ _ _ rfl) ?_, .bool _⟩
      have hq : (Op.equal t (.slice a1 n c1) (.slice none n' c2)).run P w = .ok a1.isNone w := run_equalIn_slNil w 9999 hu a1 n c1 n' c2
      rw [e1, e2]
      rcases h2 with ⟨rfl, rfl⟩ | ⟨rfl, rfl⟩ <;> simp only [binOp] <;> simp [hq, i1]
    · simp at h
  · rename_i a
    split at h
    · rename_i e hu
      obtain ⟨b, h1, h2⟩ := eqOp_nat h
      refine ⟨_, h1, fun ι D c w he => ?_, fun D _ => .bool _⟩
      have e2 : c.eval y = .pointer none := by
        have := ev_rel he hy
        cases hq : c.eval y <;> rw [hq] at this <;> cases this; rfl
      have e1 : ∃ a', c.eval x = .pointer a' ∧ a'.isNone = a.isNone := by
        have := ev_rel he hx
        cases a with
        | none => cases hq : c.eval x <;> rw [hq] at this <;> cases this; exact ⟨none, rfl, rfl⟩
        | some p => exact ⟨_, this.inv_ptr.1, rfl⟩
      obtain ⟨a', e1, i1⟩ := e1
      refine ⟨_, hex c w _ (by rw [e1, e2]; exact eqGuard_plain _ _ _ _ _ _ _ rfl) ?_, .bool _⟩
      have hq : (Op.equal t (.pointer a') (.pointer none)).run P w = .ok a'.isNone w := run_equalIn_ptrNil w 9999 hu a'
      rw [e1, e2]
      rcases h2 with ⟨rfl, rfl⟩ | ⟨rfl, rfl⟩ <;> simp only [binOp] <;> simp [hq, i1]
    · simp at h
  · simp at h

theorem asNat_some {v : Value} {K : Nat → Option β} {r : β} (h : asNat v K = some r) : ∃ n : Nat, v = .int .i64 (n : Int) ∧ K n = some r := by
  unfold asNat at h
  split at h
  · rename_i n
    rcases oif_some h with ⟨hn, h⟩ | ⟨_, h⟩
    · have hn : 0 ≤ n := by simpa using hn
      exact ⟨n.toNat, by rw [Int.toNat_of_nonneg hn], h⟩
    · simp at h
  · simp at h

theorem asIx_some {v : Value} {K : Nat → Option β} {r : β} (h : asIx v K = some r) : ∃ (kd : IntKind) (n : Nat), v = .int kd (n : Int) ∧ K n = some r := by
  unfold asIx at h
  split at h
  · rename_i kd n
    rcases oif_some h with ⟨hn, h⟩ | ⟨_, h⟩
    · have hn : 0 ≤ n := by simpa using hn
      exact ⟨kd, n.toNat, by rw [Int.toNat_of_nonneg hn], h⟩
    · simp at h
  · simp at h

theorem ptrS_some {v : Value} {K : Addr → Option β} {r : β} (h : ptrS v K = some r) : ∃ p, v = .pointer (some p) ∧ K p = some r := by
  unfold ptrS at h; split at h
  · exact ⟨_, rfl, h⟩
  · simp at h

theorem slS_some {v : Value} {K : Addr → Nat → Nat → Option β} {r : β} (h : slS v K = some r) : ∃ p n c, v = .slice (some p) n c ∧ K p n c = some r := by
  unfold slS at h; split at h
  · exact ⟨_, _, _, rfl, h⟩
  · simp at h

theorem vSl_some {v : Value} {K : Option Addr → Nat → Nat → Option β} {r : β} (h : vSl v K = some r) : ∃ a n c, v = .slice a n c ∧ K a n c = some r := by
  unfold vSl at h; split at h
  · exact ⟨_, _, _, rfl, h⟩
  · simp at h

theorem boundOr_some {x : Option Operand} {d : Nat} {K : Nat → Option β} {r : β} (h : boundOr env x d K = some r) :
    ∃ n, K n = some r ∧ ((x = none ∧ n = d) ∨ ∃ y, x = some y ∧ ev env y = some (.int .i64 (n : Int))) := by
  unfold boundOr at h
  split at h
  · exact ⟨d, h, .inl ⟨rfl, rfl⟩⟩
  · rename_i y
    obtain ⟨v, hv, h⟩ := obind_some h
    obtain ⟨n, rfl, h⟩ := asNat_some h
    exact ⟨n, h, .inr ⟨y, rfl, hv⟩⟩

theorem pure_fieldAddr {s : TypeId} {x : Operand} {f : Nat} {p : Addr} {fs : Array Field} {fd : Field} {i : TypeInfo} (ho : o.op = .fieldAddr s x f) (hx : ev env x = some (.pointer (some p))) (hs : P.underlying s = some (.struct fs)) (hf : fs[f]? = some fd)
    (hi : P.info? fd.type = some i) (hz : Nat.beq i.size 0 = false) : PureF P nt o env (.pointer (some ⟨p.block, p.off + fd.offset, none⟩)) := by
  refine ⟨fun ι D a w h => ?_, fun D h => .ptr _ (ev_lt h hx).ptr_inv⟩
  obtain ⟨e, hD⟩ := (ev_rel h hx).inv_ptr
  refine ⟨.pointer (some (ι.addr ⟨p.block, p.off + fd.offset, none⟩)), ?_, .ptr _ hD⟩
  have hz' : i.size ≠ 0 := Nat.ne_of_beq_eq_false hz
  have ha : (ι.addr p).add fd.offset = ι.addr ⟨p.block, p.off + fd.offset, none⟩ := by
    rw [addr_add]; simp only [Io.addr, Nat.add_assoc]
  simp [execOp, ho, e, Instr.fieldAt, Instr.sureAddr, run_underlying hs, hf, fieldPlace, sizeOf, typeInfo, hi, hz', ha]

theorem pure_field {t : TypeId} {x : Operand} {f : Nat} {cs : Array Value} {fs : Array Field} {fd : Field} {u : Value} (ho : o.op = .field t x f) (hx : ev env x = some (.agg cs)) (hs : P.underlying t = some (.struct fs)) (hf : fs[f]? = some fd)
    (hu : partA P fd.type cs fd.offset = some u) : PureF P nt o env u := by
  have key : ∀ (R : Value → Prop) (Q : Array Value → Prop), True := fun _ _ => trivial
  unfold partA at hu
  obtain ⟨i, hi, hu⟩ := obind_some hu
  refine ⟨fun ι D a w h => ?_, fun D h => ?_⟩
  · obtain ⟨ys, e, hl⟩ := (ev_rel h hx).inv_agg
    have hex : LRel ι D (cs.extract fd.offset (fd.offset + i.size)).toList (ys.extract fd.offset (fd.offset + i.size)).toList := by
      simp only [Array.toList_extract, List.extract]
      refine ⟨by simp [hl.1], fun j h1 h2 => ?_⟩
      simp only [List.getElem_take, List.getElem_drop]
      exact hl.2 _ _ _
    have hrun : ∀ c, (part fd.type ys fd.offset).run P w = .ok c w → (execOp a.eval o).run P w = .ok (.value c) w := by
      intro c hc; simp [execOp, ho, e, Instr.field, run_underlying hs, hf, asAgg, hc]
    split at hu
    · rename_i hu'; simp at hu; subst hu
      exact ⟨_, hrun _ (partA_run (by unfold partA; rw [hi]; simp only [obind, hu']) w), hex.mkAgg⟩
    · rename_i hu'; simp at hu; subst hu
      exact ⟨_, hrun _ (partA_run (by unfold partA; rw [hi]; simp only [obind, hu']) w), hex.mkAgg⟩
    · rename_i d n1 n2 hu'
      rw [← Array.getElem?_toList] at hu
      obtain ⟨c, h1, h2⟩ := hl.get hu
      refine ⟨c, hrun _ (partA_run ?_ w), h2⟩
      unfold partA; rw [hi]; simp only [obind, hu']
      rw [Array.getElem?_toList] at h1
      exact h1
    · simp at hu
  · have hm := (ev_lt h hx).agg_mem
    have hex : ∀ v ∈ (cs.extract fd.offset (fd.offset + i.size)).toList, VLt D v := by
      intro v hv
      simp only [Array.toList_extract, List.extract] at hv
      exact hm v (List.mem_of_mem_drop (List.mem_of_mem_take hv))
    split at hu
    · simp at hu; subst hu; exact VLt.mkAgg hex
    · simp at hu; subst hu; exact VLt.mkAgg hex
    · rw [← Array.getElem?_toList] at hu; exact hm u (List.mem_of_getElem? hu)
    · simp at hu

theorem VRel.sl_addr {ι : Io} {D : Nat → Prop} {p : Addr} {n m : Nat} {c : Value} (h : VRel ι D (.slice (some p) n m) c) (hn : 0 < n) :
    ∃ cap, c = .slice (some (ι.addr p)) n cap ∧ D p.block ∧ n ≤ cap ∧ (ι p.block).off + p.off + cap * m ≤ (ι p.block).size := by
  cases h with
  | slGo a len c cap h hl hc => exact ⟨cap, rfl, h, hl, hc⟩
  | slEmpty a b c h => omega

theorem VRel.sl_lt {ι : Io} {D : Nat → Prop} {p : Addr} {n m : Nat} {c : Value} (h : VRel ι D (.slice (some p) n m) c) : D p.block := by
  cases h <;> assumption

theorem pure_indexAddr {t e : TypeId} {x ix : Operand} {p : Addr} {n m k : Nat} {kd : IntKind} {i : TypeInfo} (ho : o.op = .indexAddr t x ix) (hx : ev env x = some (.slice (some p) n m)) (hix : ev env ix = some (.int kd (k : Int))) (hu : P.underlying t = some (.slice e))
    (hi : P.info? e = some i) (hk : k < n) : PureF P nt o env (.pointer (some ⟨p.block, p.off + k * i.size, none⟩)) := by
  refine ⟨fun ι D a w h => ?_, fun D h => .ptr _ (ev_lt h hx).sl_inv⟩
  obtain ⟨cap, ex, hD, hl, hc⟩ := (ev_rel h hx).sl_addr (by omega)
  have eix := (ev_rel h hix).inv_int
  refine ⟨.pointer (some (ι.addr ⟨p.block, p.off + k * i.size, none⟩)), ?_, .ptr _ hD⟩
  have ha : (ι.addr p).add (k * i.size) = ι.addr ⟨p.block, p.off + k * i.size, none⟩ := by
    rw [addr_add]; simp only [Io.addr, Nat.add_assoc]
  have h0 : (0 : Int) ≤ (k : Int) ∧ (k : Int) < (n : Int) := ⟨by omega, by omega⟩
  have hrun : (Instr.indexAt t (.slice (some (ι.addr p)) n cap) (.int kd (k : Int))).run P w = .ok (.pointer (some ((ι.addr p).add (k * i.size)))) w := by
    simp only [Instr.indexAt, asIntOf, Sem.run_bind, Sem.run_pure, Result.andThen_ok, run_underlying hu, Bool.and_false]
    rw [if_pos h0]
    simp [sizeOf, typeInfo, hi]
  rw [ha] at hrun
  simp only [execOp, ho, ex, eix, Sem.run_bind, hrun, Result.andThen_ok, Sem.run_pure]

theorem pure_indexArr {t e : TypeId} {x ix : Operand} {p : Addr} {n k : Nat} {kd : IntKind} {i : TypeInfo} (ho : o.op = .indexAddr t x ix) (hx : ev env x = some (.pointer (some p))) (hix : ev env ix = some (.int kd (k : Int))) (hu : P.underlying t = some (.array n e))
    (hi : P.info? e = some i) (hk : k < n) : PureF P nt o env (.pointer (some ⟨p.block, p.off + k * i.size, none⟩)) := by
  refine ⟨fun ι D a w h => ?_, fun D h => .ptr _ (ev_lt h hx).ptr_inv⟩
  obtain ⟨ex, hD⟩ := (ev_rel h hx).inv_ptr
  have eix := (ev_rel h hix).inv_int
  refine ⟨.pointer (some (ι.addr ⟨p.block, p.off + k * i.size, none⟩)), ?_, .ptr _ hD⟩
  have ha : (ι.addr p).add (k * i.size) = ι.addr ⟨p.block, p.off + k * i.size, none⟩ := by
    rw [addr_add]; simp only [Io.addr, Nat.add_assoc]
  have h0 : (0 : Int) ≤ (k : Int) ∧ (k : Int) < (n : Int) := ⟨by omega, by omega⟩
  have hrun : (Instr.indexAt t (.pointer (some (ι.addr p))) (.int kd (k : Int))).run P w = .ok (.pointer (some ((ι.addr p).add (k * i.size)))) w := by
    simp only [Instr.indexAt, asIntOf, Instr.sureAddr, Sem.run_bind, Sem.run_pure, Result.andThen_ok, run_underlying hu]
    rw [if_pos h0]
    simp [sizeOf, typeInfo, hi]
  rw [ha] at hrun
  simp only [execOp, ho, ex, eix, Sem.run_bind, hrun, Result.andThen_ok, Sem.run_pure]

theorem pure_indexAgg {t e : TypeId} {x ix : Operand} {cs : Array Value} {n k : Nat} {kd : IntKind} {i : TypeInfo} {u : Value} (ho : o.op = .index t x ix) (hx : ev env x = some (.agg cs)) (hix : ev env ix = some (.int kd (k : Int))) (hs : P.underlying t = some (.array n e))
    (hi' : P.info? e = some i) (hk : k < n) (hu : partA P e cs (k * i.size) = some u) : PureF P nt o env u := by
  unfold partA at hu
  obtain ⟨i2, hi, hu⟩ := obind_some hu
  rw [hi'] at hi; injection hi with hi; subst hi
  refine ⟨fun ι D a w h => ?_, fun D h => ?_⟩
  · obtain ⟨ys, ex, hl⟩ := (ev_rel h hx).inv_agg
    have eix := (ev_rel h hix).inv_int
    have hex : LRel ι D (cs.extract (k * i.size) (k * i.size + i.size)).toList (ys.extract (k * i.size) (k * i.size + i.size)).toList := by
      simp only [Array.toList_extract, List.extract]
      refine ⟨by simp [hl.1], fun j h1 h2 => ?_⟩
      simp only [List.getElem_take, List.getElem_drop]
      exact hl.2 _ _ _
    have h0 : (0 : Int) ≤ (k : Int) ∧ (k : Int) < (n : Int) := ⟨by omega, by omega⟩
    have hrun : ∀ c, (part e ys (k * i.size)).run P w = .ok c w → (execOp a.eval o).run P w = .ok (.value c) w := by
      intro c hc
      have hr2 : (Instr.index t (.agg ys) (.int kd (k : Int))).run P w = .ok c w := by
        simp only [Instr.index, asIntOf, Sem.run_bind, Sem.run_pure, Result.andThen_ok, run_underlying hs]
        rw [if_pos h0]
        simp [sizeOf, typeInfo, hi', hc]
      simp only [execOp, ho, ex, eix, Sem.run_bind, hr2, Result.andThen_ok, Sem.run_pure]
    split at hu
    · rename_i hu'; simp at hu; subst hu
      exact ⟨_, hrun _ (partA_run (by unfold partA; rw [hi']; simp only [obind, hu']) w), hex.mkAgg⟩
    · rename_i hu'; simp at hu; subst hu
      exact ⟨_, hrun _ (partA_run (by unfold partA; rw [hi']; simp only [obind, hu']) w), hex.mkAgg⟩
    · rename_i d n1 n2 hu'
      rw [← Array.getElem?_toList] at hu
      obtain ⟨c, h1, h2⟩ := hl.get hu
      refine ⟨c, hrun _ (partA_run ?_ w), h2⟩
      unfold partA; rw [hi']; simp only [obind, hu']
      rw [Array.getElem?_toList] at h1
      exact h1
    · simp at hu
  · have hm := (ev_lt h hx).agg_mem
    have hex : ∀ v ∈ (cs.extract (k * i.size) (k * i.size + i.size)).toList, VLt D v := by
      intro v hv
      simp only [Array.toList_extract, List.extract] at hv
      exact hm v (List.mem_of_mem_drop (List.mem_of_mem_take hv))
    split at hu
    · simp at hu; subst hu; exact VLt.mkAgg hex
    · simp at hu; subst hu; exact VLt.mkAgg hex
    · rw [← Array.getElem?_toList] at hu; exact hm u (List.mem_of_getElem? hu)
    · simp at hu

theorem pure_index {t : TypeId} {x ix : Operand} {s : ByteArray} {k : Nat} {kd : IntKind} {b : UInt8} (ho : o.op = .index t x ix) (hx : ev env x = some (.string s)) (hix : ev env ix = some (.int kd (k : Int))) (hu : P.underlying t = some .string)
    (hb : s.data.toList[k]? = some b) : PureF P nt o env (.int .u8 b.toNat) := by
  refine ⟨fun ι D a w h => ⟨_, ?_, .int _ _⟩, fun D h => .int _ _⟩
  have ex := (ev_rel h hx).inv_str
  have eix := (ev_rel h hix).inv_int
  have hb' : s[k]? = some b := by
    rw [Array.getElem?_toList] at hb
    obtain ⟨h1, h2⟩ := Array.getElem?_eq_some_iff.1 hb
    rw [getElem?_pos s k (show k < s.data.size from h1)]
    simp only [Option.some.injEq]
    exact h2
  simp [execOp, ho, ex, eix, Instr.index, asIntOf, run_underlying hu, hb']

end

end Go.Ev
