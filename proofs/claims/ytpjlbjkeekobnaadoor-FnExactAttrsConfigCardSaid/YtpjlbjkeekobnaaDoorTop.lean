/-
  The bridge: a function of two slices of bytes that gives true in the abstract interpreter, for all bytes, returns true in the model and writes nothing that was there.
  Conditions: those that the rows state of the two slices.
-/
import Derived.Test.YtpjlbjkeekobnaaDoorKit
import Derived.Below
import Derived.RowKit
import Derived.WalkKit
import Derived.ProofKit
import Derived.OpenShut
import Derived.DataShut
set_option linter.all false
namespace Go.Ek
open Go.Ev Go.ChangeAt Go.RowKit Go.WideShapes Go.ChangeShapes

def IsRowT (k : IntKind) (w : World) (a : Option Addr) (len cap : Nat) (zs : List Int) : Prop :=
  (a = none ∧ len = 0 ∧ cap = 0 ∧ zs = []) ∨
  ∃ x, a = some x ∧ len ≤ cap ∧ cap ≤ maxLen ∧ zs.length = cap ∧ (∀ i, i < zs.length → w.cell? (x.add i) = some (.int k (zs.getD i 0))) ∧ ∀ n ∈ zs, (Lit.int k n).wf = true

def absA (i : Nat) (a : Option Addr) : Option Addr := match a with | none => none | some _ => some ⟨i, 0, none⟩
def absE (a : Option Addr) : Nat := match a with | none => 0 | some _ => 1

theorem cell_shape {w : World} {a : Addr} {v : Value} (h : w.cell? a = some v) : ∃ ety n, w.shape? a.block = some (ety, n) ∧ a.off < n ∧ a.spot = none := by
  unfold World.cell? at h
  unfold World.shape?
  split at h
  · rename_i c e q he
    split at h
    · simp at h
    · rename_i hs
      refine ⟨e, c.size, rfl, ?_, by simpa using hs⟩
      rcases Nat.lt_or_ge a.off c.size with h1 | h1
      · exact h1
      · rw [Array.getElem?_eq_none h1] at h; simp at h
  · simp at h

theorem row_one {w : World} {a : Option Addr} {len cap : Nat} {zs : List Int} (h : IsRowT .u8 w a len cap zs) (i : Nat) : ∃ (loc : Ev.Loc) (B : Option Blk),
    (∀ (ι : Io) (D : Nat → Prop), ι i = loc → D i → VRel ι D (.slice (absA i a) len (absE a)) (.slice a len cap)) ∧
    (∀ (ι : Io) (D : Nat → Prop) k, ι i = loc → B = some k → k.ro = true ∧ BRel ι D w i k) ∧
    (∀ k, B = some k → ∀ v ∈ k.cells, ∃ n : Int, v = .int .u8 n) ∧
    (∀ G : Heap, hget G i = B → CodeAt (B.map fun k => (i, k)) G ∧ CodeV (B.map fun k => (i, k)) (absA i a) len) := by
  rcases h with ⟨rfl, rfl, rfl, rfl⟩ | ⟨x, rfl, hl, hm, hz, hc, hw⟩
  · refine ⟨⟨0, 0, 0⟩, none, fun ι D _ _ => .slNil, fun ι D k _ e => by simp at e, fun k e => by simp at e, fun G _ => ⟨fun c B e => by simp at e, .inl rfl⟩⟩
  · rcases Nat.eq_zero_or_pos cap with h0 | h0
    · subst h0
      obtain rfl : len = 0 := by omega
      refine ⟨⟨0, 0, 0⟩, none, fun ι D _ hd => .slEmpty _ _ _ hd, fun ι D k _ e => by simp at e, fun k e => by simp at e, fun G _ => ⟨fun c B e => by simp at e, .inl rfl⟩⟩
    · obtain ⟨ety, n, hs, ho, hsp⟩ := cell_shape (hc 0 (by omega))
      have hx0 : x.add 0 = x := by simp [Addr.add]
      rw [hx0] at hs ho hsp
      have hlast : x.off + cap ≤ n := by
        obtain ⟨ety', n', hs', ho', _⟩ := cell_shape (hc (cap - 1) (by omega))
        have hb : (x.add (cap - 1)).block = x.block := by unfold Addr.add; split <;> rfl
        have hoo : (x.add (cap - 1)).off = x.off + (cap - 1) := by unfold Addr.add; split <;> simp_all
        rw [hb, hs] at hs'; rw [hoo] at ho'
        obtain ⟨rfl, rfl⟩ : ety = ety' ∧ n = n' := by simpa using hs'
        omega
      have hadd : ∀ j, x.add j = ⟨x.block, x.off + j, none⟩ := by
        intro j; obtain ⟨xb, xo, xs⟩ := x; simp only at hsp; subst hsp; unfold Addr.add; split <;> simp_all
      have hlen : (zs.map (Value.int .u8)).length = cap := by simp [hz]
      refine ⟨⟨x.block, x.off, n⟩, some ⟨zs.map (.int .u8), true⟩, ?_, ?_, ?_, ?_⟩
      · intro ι D e hd
        have : x = ι.addr ⟨i, 0, none⟩ := by simp only [Io.addr, e]; have := hadd 0; rw [hx0] at this; exact this
        have h2 := VRel.slGo (ι := ι) (D := D) ⟨i, 0, none⟩ len 1 cap hd hl (by simp only [e]; omega)
        rw [← this] at h2; exact h2
      · intro ι D k e hk
        obtain rfl : _ = k := by simpa using hk
        refine ⟨rfl, ⟨ety, by rw [e]; exact hs⟩, by rw [e]; simp only [hlen]; exact hlast, ?_, fun h => by simp at h⟩
        intro j hj
        simp only [hlen] at hj
        refine ⟨.int .u8 (zs.getD j 0), ?_, ?_, ?_⟩
        · rw [e]; simp only; rw [← hadd j]; exact hc j (by omega)
        · simp only [List.getElem_map]
          have : zs[j]'(by omega) = zs.getD j 0 := by rw [List.getD_eq_getElem?_getD, List.getElem?_eq_getElem (by omega)]; rfl
          rw [this]; exact .int _ _
        · simp [isCell]
      · intro k hk v hv
        obtain rfl : _ = k := by simpa using hk
        simp only [List.mem_map] at hv
        obtain ⟨n, _, rfl⟩ := hv; exact ⟨n, rfl⟩
      · intro G hG
        refine ⟨fun c B e => ?_, .inr ⟨⟨i, 0, none⟩, ⟨zs.map (.int .u8), true⟩, rfl, rfl, ?_⟩⟩
        · simp only [Option.map_some, Option.some.injEq, Prod.mk.injEq] at e
          obtain ⟨rfl, rfl⟩ := e; exact ⟨rfl, hG⟩
        · intro j hj
          have hj' : j < zs.length := by omega
          refine ⟨zs[j], ?_, ?_⟩
          · simp [List.getElem?_eq_getElem hj']
          · have := hw _ (List.getElem_mem hj')
            have h2 := (Go.Lit.wf_int_iff .u8 _).1 this
            have e1 : IntKind.u8.min = 0 := by decide
            have e2 : IntKind.u8.max = 255 := by decide
            rw [e1, e2] at h2
            omega

/-- A law of two slices of bytes. -/
theorem two_rows {P : Program} {A : Ann} {d : Nat} {f : FuncId} (hm : P.follows .mixedOrders = true) (hA : ExtOk P A)
    (hr : ∀ (l e l' e' lim : Nat) (a a' : Option Addr) (G : Heap) (g g' : Option (Nat × Blk)), CodeAt g G → CodeV g a l → CodeAt g' G → CodeV g' a' l' → run P A d f [.slice a l e, .slice a' l' e'] lim G = some (.bool true, G))
    {a0 : Option Addr} {len0 cap0 : Nat} {z0 : List Int} {a1 : Option Addr} {len1 cap1 : Nat} {z1 : List Int} {w : World} (w0 : IsRowT .u8 w a0 len0 cap0 z0) (w1 : IsRowT .u8 w a1 len1 cap1 z1) (hg : GW w) :
    Calls P f #[.slice a0 len0 cap0, .slice a1 len1 cap1] w fun e w' => e = .returned (.bool true) ∧ Below w.heap.size w w' := by
  obtain ⟨loc0, B0, v0, b0, _, c0⟩ := row_one w0 0
  obtain ⟨loc1, B1, v1, b1, _, c1⟩ := row_one w1 1
  have hh0 : hget [B0, B1] 0 = B0 := by cases B0 <;> rfl
  have hh1 : hget [B0, B1] 1 = B1 := by cases B1 <;> rfl
  have hro : ∀ b k, hget [B0, B1] b = some k → (b = 0 ∧ B0 = some k) ∨ (b = 1 ∧ B1 = some k) := by
    intro b k hb
    have hl := hget_some_lt hb
    simp at hl
    rcases (show b = 0 ∨ b = 1 by omega) with rfl | rfl
    · rw [hh0] at hb; exact .inl ⟨rfl, hb⟩
    · rw [hh1] at hb; exact .inr ⟨rfl, hb⟩
  let ι : Io := fun b => if b = 0 then loc0 else loc1
  have i0 : ι 0 = loc0 := rfl
  have i1 : ι 1 = loc1 := rfl
  have roAll : ∀ b k, hget [B0, B1] b = some k → k.ro = true := by
    intro b k hb
    rcases hro b k hb with ⟨rfl, e⟩ | ⟨rfl, e⟩
    · exact (b0 ι (Bel 2) k i0 e).1
    · exact (b1 ι (Bel 2) k i1 e).1
  have hR : Rel ι (Bel [B0, B1].length) [B0, B1] w := by
    refine ⟨fun b k hb => ?_, fun b b' k k' hb hb' _ h => ?_, fun b k hb hr => (by rw [roAll b k hb] at hr; simp at hr), hg⟩
    · rcases hro b k hb with ⟨rfl, e⟩ | ⟨rfl, e⟩
      · exact (b0 ι _ k i0 e).2
      · exact (b1 ι _ k i1 e).2
    · rw [roAll b k hb, roAll b' k' hb'] at h; simp at h
  obtain ⟨ca0, cv0⟩ := c0 [B0, B1] hh0
  obtain ⟨ca1, cv1⟩ := c1 [B0, B1] hh1
  have hrun := hr len0 (absE a0) len1 (absE a1) 0 (absA 0 a0) (absA 1 a1) [B0, B1] _ _ ca0 cv0 ca1 cv1
  have hF := run_sound hm hA d f _ _ _ _ _ hrun
  refine (hF.run ι w #[.slice a0 len0 cap0, .slice a1 len1 cap1] hR ⟨rfl, ?_⟩).mono ?_
  · intro i h1 h2
    simp at h1
    rcases (show i = 0 ∨ i = 1 by omega) with rfl | rfl
    · exact v0 ι _ i0 (by simp [Bel])
    · exact v1 ι _ i1 (by simp [Bel])
  · rintro e w' ⟨ι', c, rfl, _, hv, hfr⟩
    cases hv
    exact ⟨rfl, hfr.os, hfr.tape, hfr.output, hfr.size, fun k hk => hfr.frame k hk fun b blk hb hn => by rw [roAll b blk hb] at hn; simp at hn⟩

end Go.Ek
