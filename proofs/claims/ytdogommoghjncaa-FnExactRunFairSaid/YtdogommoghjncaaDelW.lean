/-
  The walk of the library's function that deletes elements (elements of six cells).
  Conditions: the places lie within the slice.
-/
import Derived.Test.YtdogommoghjncaaVDel
import Derived.Test.YtdogommoghjncaaOpA
import Derived.Test.YtdogommoghjncaaProg
import Derived.WalkKit
import Derived.Deep.RegionLaw
import Derived.Lib.SliceRun
import Derived.Shelf.Abstract
import Derived.KernelRfl
set_option linter.all false
namespace Go.Proofs.Ytdogommoghjncaa
open Go.RowKit Go.Pv Go.Shelf

theorem info_del : (Try.prog.info? 29).map (fun i => (i.zero, i.size, i.bytes)) = some (some (.agg #[.int .i64 0, .int .i64 0, .int .i64 0, .int .i64 0, .int .i64 0, .int .i64 0]), 6, 48) := by kernel_rfl

def zsDel : List Value := [.int .i64 0, .int .i64 0, .int .i64 0, .int .i64 0, .int .i64 0, .int .i64 0]

set_option maxHeartbeats 4000000 in
set_option maxRecDepth 1000000 in
theorem del_walk : DelWalk Try.prog 113 6 zsDel := by
  intro b off n cap i j cs w hij hj hcap hn hlen hcs h1 hsh hf
  obtain ⟨ety, m, hsh, hm⟩ := hsh
  obtain ⟨i0, hi0, hz0, hz1, hz2⟩ := info_parts info_del
  obtain ⟨A, hA, hsrc⟩ : ∃ A : Addr, (if cap = j then some (⟨b, off, none⟩ : Addr) else some ⟨b, off + j * 6, none⟩) = some A ∧ Hid (∀ t u, cs[t]? = some u → w.drew.cell? (A.add t) = some u) := by
    by_cases h : cap = j
    · refine ⟨⟨b, off, none⟩, by simp [h], fun t u hu => ?_⟩
      have h0 : cs.length = 0 := by rw [hlen, show n - j = 0 by omega]
      rw [List.length_eq_zero_iff.1 h0] at hu
      simp at hu
    · refine ⟨⟨b, off + j * 6, none⟩, by simp [h], fun t u hu => ?_⟩
      rw [Addr.add_lit]
      exact hcs t u hu
  have s1 : Hid (cs.length = (n - j) * 6) := hlen
  have s2 : Hid (∀ u ∈ cs, u.oneCell' = true) := h1
  have s3 : Hid (∀ t, t < cs.length → (w.drew.cell? ⟨b, off + i * 6 + t, none⟩).isSome = true ∧ w.drew.frozen? ⟨b, off + i * 6 + t, none⟩ = false) := by
    intro t ht
    rw [hlen] at ht
    have := hf (i * 6 + t) (by omega)
    rw [← Nat.add_assoc] at this
    exact ⟨by show (w.cell? _).isSome = true; exact Go.Ev.cell_of_shape hsh (by omega), this⟩
  obtain ⟨W1, hW1⟩ : ∃ W1, W1 = w.drew.setCells b (off + i * 6) cs := ⟨_, rfl⟩
  have hcl : ∀ ty, (Builtin.clear_ #[37] ty #[.slice (some ⟨b, off + (i + (n - j)) * 6, none⟩) (n - (i + (n - j))) (cap - (i + (n - j)))]).run Try.prog W1 = .ok (.tuple #[]) (W1.setCells b (off + (i + (n - j)) * 6) (List.replicate (j - i) zsDel).flatten) := by
    intro ty
    have hlz : ((List.replicate (j - i) zsDel).flatten).length = (j - i) * 6 := by simp [zsDel]
    have hst := run_storeCells_cells (P := Try.prog) b (off + (i + (n - j)) * 6) (List.replicate (j - i) zsDel).flatten 0 W1
      (fun q hq => by rw [hlz] at hq; rw [hW1]; exact Go.Ev.cell_of_shape (by rw [Go.Ev.shape_setCells]; exact hsh) (by omega))
      (fun q hq => by rw [hlz] at hq; rw [hW1, World.frozen?_setCells]; have := hf ((i + (n - j)) * 6 + q) (by omega); rw [Nat.add_zero, Nat.add_assoc]; exact this)
      (fun v hv => by
        simp only [List.mem_flatten, List.mem_replicate] at hv
        obtain ⟨y, ⟨_, rfl⟩, hv⟩ := hv
        have hall : zsDel.all (fun v => v.oneCell') = true := by decide
        exact List.all_eq_true.1 hall v hv)
    simp only [Nat.add_zero] at hst
    have hzc : (Builtin.zeroCells (Value.agg #[.int .i64 0, .int .i64 0, .int .i64 0, .int .i64 0, .int .i64 0, .int .i64 0]).cells (j - i)).toList = (List.replicate (j - i) zsDel).flatten := by
      rw [Go.Ev.zeroCells_list]; rfl
    obtain ⟨q, hq⟩ : ∃ q, j - i = q + 1 := ⟨j - i - 1, by omega⟩
    rw [show n - (i + (n - j)) = q + 1 by omega]
    rw [hq] at hzc hst ⊢
    simp [Builtin.clear_, run_underlying Try.underlying37, zeroValue, typeInfo, hi0, hz0, hzc, hst]
  have hW : Hid (W1 = w.drew.setCells b (off + i * 6) cs) := hW1
  have hic : i ≤ cap := by omega
  have hjc : j ≤ cap := by omega
  clear hW1 hf hcs h1
  go_enter Try.func113, Try.ntmps113
  go_wp2_with fail
  go_region_law (refine step_append_room rfl (.tmp 22) (.tmp 25) 37 rfl 29 i0 6 Try.underlying37 hi0 hz1 b off i cap (by simp [Act.eval, Act.put]) A (n - j) (cap - j) cs (by simp [Act.eval, Act.put]) s1.out hsrc.out s2.out (by omega) s3.out ?_; rw [← hW.out])
  go_wp2
  go_ret
  exact ⟨rfl, by rw [hW.out]⟩

def tyDel : Ty := (.pair (.int .i64) (.pair (.int .i64) (.pair (.int .i64) (.pair (.int .i64) (.pair (.int .i64) (.int .i64))))))

theorem del_ext : ∀ args lim H v H', delX 6 zsDel args lim H = some (v, H') → Go.Ev.CallF Try.prog 113 args lim H v H' :=
  del_call (enters_of Try.func113 (by kernel_rfl) rfl) (by decide) rfl (by decide) del_walk

theorem del_ok (lim : Nat) : FnOk (delSig tyDel) (delV tyDel) (delX 6 zsDel) lim := del_fn (t := tyDel) rfl rfl (by decide) (by decide) lim

end Go.Proofs.Ytdogommoghjncaa
