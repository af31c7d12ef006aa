/-
  The law FnExactParseLeaf by value.
  Conditions: none.
-/
import Derived.Test.YtpjlbjkeekobnaaDoorFnExactParseLeafK
import Derived.Test.YtpjlbjkeekobnaaDoorVAny
set_option linter.all false
namespace Go.Proofs.YtpjlbjkeekobnaaDoor
open Go.Ev Go.Pv

abbrev Cl8 := Int × Int × Int × Int × Int × Int × Int × Int
abbrev Fl5 := Int × Int × Int × Int × Int

def clB : ByteArray := ⟨#[99, 108, 97, 115, 115]⟩

theorem w_clB : wOk clB := ⟨by decide, by decide, _, _, rfl, by decide⟩

def raB : ByteArray := ⟨#[114, 97, 116, 101]⟩

theorem w_raB : wOk raB := ⟨by decide, by decide, _, _, rfl, by decide⟩

def ceB : ByteArray := ⟨#[99, 101, 105, 108]⟩

theorem w_ceB : wOk ceB := ⟨by decide, by decide, _, _, rfl, by decide⟩

def buB : ByteArray := ⟨#[98, 117, 114, 115, 116]⟩

theorem w_buB : wOk buB := ⟨by decide, by decide, _, _, rfl, by decide⟩

def cbB : ByteArray := ⟨#[99, 98, 117, 114, 115, 116]⟩

theorem w_cbB : wOk cbB := ⟨by decide, by decide, _, _, rfl, by decide⟩

def prB : ByteArray := ⟨#[112, 114, 105, 111]⟩

theorem w_prB : wOk prB := ⟨by decide, by decide, _, _, rfl, by decide⟩

def liB : ByteArray := ⟨#[108, 105, 109, 105, 116]⟩

theorem w_liB : wOk liB := ⟨by decide, by decide, _, _, rfl, by decide⟩

def seB : ByteArray := ⟨#[59]⟩

theorem w_seB : wOk seB := ⟨by decide, by decide, _, _, rfl, by decide⟩

def u1 (ts : List Tk) (en : Int) := nbM ts en clB (0, 0, 0)

def u2 (ts : List Tk) (en : Int) := nbM ts en raB (u1 ts en).2.2

def u3 (ts : List Tk) (en : Int) := nbM ts en ceB (u2 ts en).2.2

def u4 (ts : List Tk) (en : Int) := nbM ts en buB (u3 ts en).2.2

def u5 (ts : List Tk) (en : Int) := nbM ts en cbB (u4 ts en).2.2

def u6 (ts : List Tk) (en : Int) := nbM ts en prB (u5 ts en).2.2

def u7 (ts : List Tk) (en : Int) := nbM ts en liB (u6 ts en).2.2

def u8 (ts : List Tk) (en : Int) := tkM ts en seB (u7 ts en).2.2

def u9 (ts : List Tk) (en : Int) := fiM ts (u8 ts en).2

def resL (ts : List Tk) (en n : Int) : Cl8 × (Int × Int) × Bool :=
  if (u9 ts en).2.1 ≠ 0 then ((0, 0, 0, 0, 0, 0, 0, 0), (u9 ts en).2, true) else (((u1 ts en).1, n, (u2 ts en).1, (u3 ts en).1, (u4 ts en).1, (u5 ts en).1, (u6 ts en).1, (u7 ts en).1), (0, 0), true)

theorem p_ParseLeaf {d : Nat} {s : ByteArray} {n : Int} (hs : s.size ≤ 4000) (hn : 0 ≤ n ∧ n ≤ 999) (h0 : (tkA s).2.1 = 0) : Ok (g11 (d + 9) s n) fun r => r = resL (tkA s).1 (s.size : Int) n := by
  obtain ⟨hts, hz, hl⟩ := tkA_ok h0
  rw [e11, decide_eq_false (show ¬ ((s.size : Nat) : Int) > 4000 by omega), oif_f, decide_eq_false (show ¬ n < 0 by omega), oif_f, decide_eq_false (show ¬ n > 999 by omega)]
  unfold j11_0
  rw [oif_f, show d + 7 = (d + 1) + 6 from rfl, q_TokensOf hs, ob_s]
  simp only []
  rw [show ((tkA s).2.1 != 0) = false by rw [bne_eq_false_iff_eq]; exact h0, oif_f]
  generalize (tkA s).1 = ts at hts hl
  generalize ((s.size : Nat) : Int) = en
  have l1 : (tkM ts en clB (0, 0, 0)).2.1 ≤ ts.length := tkM_le (Nat.zero_le _)
  refine Ok.bind (i_take (d := d + 4) (m := (0, 0, 0)) hts hl (Nat.zero_le _) w_clB) fun r hr => ?_
  obtain ⟨nx1, rfl⟩ := hr
  have k1 : (u1 ts en).2.2.1 ≤ ts.length := nbM_le (Nat.zero_le _)
  have k2 : (u2 ts en).2.2.1 ≤ ts.length := nbM_le k1
  have k3 : (u3 ts en).2.2.1 ≤ ts.length := nbM_le k2
  have k4 : (u4 ts en).2.2.1 ≤ ts.length := nbM_le k3
  have k5 : (u5 ts en).2.2.1 ≤ ts.length := nbM_le k4
  have k6 : (u6 ts en).2.2.1 ≤ ts.length := nbM_le k5
  have k7 : (u7 ts en).2.2.1 ≤ ts.length := nbM_le k6
  have k8 : (u8 ts en).2.1 ≤ ts.length := tkM_le k7
  have hf : ∀ {R : (List Cl8) × (List Fl5) × Int} {nx}, Ok (g34 (d + 8) (ts, en, ((tkM ts en clB (0, 0, 0)).2.1 : Int), (tkM ts en clB (0, 0, 0)).2.2, nx, R) n) fun r => ∃ nx', r = (((u1 ts en).1, n, (u2 ts en).1, (u3 ts en).1, (u4 ts en).1, (u5 ts en).1, (u6 ts en).1, 0), (ts, en, ((u6 ts en).2.2.1 : Int), (u6 ts en).2.2.2, nx', R)) := by
    intro R nx
    rw [e34]
    refine Ok.bind (i_number (d := d + 2) hts hl l1) fun r hr => ?_
    obtain ⟨nx2, rfl⟩ := hr
    refine Ok.bind (i_behind (d := d + 1) (m := (u1 ts en).2.2) hts hl k1 w_raB) fun r hr => ?_
    obtain ⟨nx3, rfl⟩ := hr
    refine Ok.bind (i_behind (d := d + 1) (m := (u2 ts en).2.2) hts hl k2 w_ceB) fun r hr => ?_
    obtain ⟨nx4, rfl⟩ := hr
    refine Ok.bind (i_behind (d := d + 1) (m := (u3 ts en).2.2) hts hl k3 w_buB) fun r hr => ?_
    obtain ⟨nx5, rfl⟩ := hr
    refine Ok.bind (i_behind (d := d + 1) (m := (u4 ts en).2.2) hts hl k4 w_cbB) fun r hr => ?_
    obtain ⟨nx6, rfl⟩ := hr
    refine Ok.bind (i_behind (d := d + 1) (m := (u5 ts en).2.2) hts hl k5 w_prB) fun r hr => ?_
    obtain ⟨nx7, rfl⟩ := hr
    exact Ok.some ⟨nx7, rfl⟩
  refine Ok.bind hf fun r hr => ?_
  obtain ⟨nx8, rfl⟩ := hr
  refine Ok.bind (i_behind (d := d + 2) (m := (u6 ts en).2.2) hts hl k6 w_liB) fun r hr => ?_
  obtain ⟨nx9, rfl⟩ := hr
  refine Ok.bind (i_take (d := d + 4) (m := (u7 ts en).2.2) hts hl k7 w_seB) fun r hr => ?_
  obtain ⟨nx10, rfl⟩ := hr
  simp only []
  change Ok (obind (g29 (d + 6 + 2) (ts, en, ((u8 ts en).2.1 : Int), (u8 ts en).2.2, nx10, _)) _) _
  rw [i_finish k8, ob_s, show d + 1 + 6 + 1 = (d + 7) + 1 from rfl, e30, ob_s]
  unfold resL
  change Ok (oif ((u9 ts en).2.1 != 0) (some ((0, 0, 0, 0, 0, 0, 0, 0), (u9 ts en).2, true)) (some (((u1 ts en).1, n, (u2 ts en).1, (u3 ts en).1, (u4 ts en).1, (u5 ts en).1, (u6 ts en).1, (u7 ts en).1), (0, 0), true))) _
  by_cases h : (u9 ts en).2.1 ≠ 0
  · rw [show ((u9 ts en).2.1 != 0) = true by rw [bne_iff_ne]; exact h, oif_t, if_pos h]; exact Ok.some rfl
  · rw [show ((u9 ts en).2.1 != 0) = false by rw [bne_eq_false_iff_eq]; omega, oif_f, if_neg h]; exact Ok.some rfl

theorem h_step0 {d : Nat} {ts : List Tk} {m : Nat × Int × Int} {en : Int} {b : Bool} {x : Cl8} (hl : ts.length ≤ 600) (h0 : m.2.1 = 0) (ag) :
    l32_0 (d + 3) (j32_0 (d + 3)) ag (b, 0, (ts, (m.1 : Int), en, ((⟨#[]⟩ : ByteArray), ([] : List Cl8), ([] : List Fl5), 0), 0, m.2), x) = oif (!(nbM ts en clB m).2.1) (some ((0, 0, 0, 0, 0, 0, 0, 0), false, (ts, ((nbM ts en clB m).2.2.1 : Int), en, ((⟨#[]⟩ : ByteArray), ([] : List Cl8), ([] : List Fl5), 0), 0, (nbM ts en clB m).2.2.2))) (ag (b, 1, (ts, ((nbM ts en clB m).2.2.1 : Int), en, ((⟨#[]⟩ : ByteArray), ([] : List Cl8), ([] : List Fl5), 0), 0, (nbM ts en clB m).2.2.2), ((nbM ts en clB m).1, x.2))) := by
  have hn := s_named (d := d) (ts := ts) (m := m) (en := en) (dp := 0) (o := ((⟨#[]⟩ : ByteArray), ([] : List Cl8), ([] : List Fl5), 0)) (w := clB) hl h0
  simp only [l32_0, l32_0_b]
  rw [decide_eq_true (by decide), oif_t, decide_eq_true (by decide), oif_t, show Nat.blt _ _ = true from by decide, oif_t, show ([(⟨#[99, 108, 97, 115, 115]⟩ : ByteArray), (⟨#[114, 97, 116, 101]⟩ : ByteArray), (⟨#[99, 101, 105, 108]⟩ : ByteArray), (⟨#[98, 117, 114, 115, 116]⟩ : ByteArray), (⟨#[99, 98, 117, 114, 115, 116]⟩ : ByteArray), (⟨#[112, 114, 105, 111]⟩ : ByteArray)])[(0 : Int).toNat]? = some clB from rfl, ob_s, hn, ob_s]
  simp only [bl_eq]
  rw [decide_eq_true (show bl clB = bl ⟨#[99, 108, 97, 115, 115]⟩ from rfl), oif_t]
  unfold j32_2 j32_1
  rw [wr (by decide) (by decide)]
  rfl

theorem h_step1 {d : Nat} {ts : List Tk} {m : Nat × Int × Int} {en : Int} {b : Bool} {x : Cl8} (hl : ts.length ≤ 600) (h0 : m.2.1 = 0) (ag) :
    l32_0 (d + 3) (j32_0 (d + 3)) ag (b, 1, (ts, (m.1 : Int), en, ((⟨#[]⟩ : ByteArray), ([] : List Cl8), ([] : List Fl5), 0), 0, m.2), x) = oif (!(nbM ts en raB m).2.1) (some ((0, 0, 0, 0, 0, 0, 0, 0), false, (ts, ((nbM ts en raB m).2.2.1 : Int), en, ((⟨#[]⟩ : ByteArray), ([] : List Cl8), ([] : List Fl5), 0), 0, (nbM ts en raB m).2.2.2))) (ag (b, 2, (ts, ((nbM ts en raB m).2.2.1 : Int), en, ((⟨#[]⟩ : ByteArray), ([] : List Cl8), ([] : List Fl5), 0), 0, (nbM ts en raB m).2.2.2), (x.1, x.2.1, (nbM ts en raB m).1, x.2.2.2))) := by
  have hn := s_named (d := d) (ts := ts) (m := m) (en := en) (dp := 0) (o := ((⟨#[]⟩ : ByteArray), ([] : List Cl8), ([] : List Fl5), 0)) (w := raB) hl h0
  simp only [l32_0, l32_0_b]
  rw [decide_eq_true (by decide), oif_t, decide_eq_true (by decide), oif_t, show Nat.blt _ _ = true from by decide, oif_t, show ([(⟨#[99, 108, 97, 115, 115]⟩ : ByteArray), (⟨#[114, 97, 116, 101]⟩ : ByteArray), (⟨#[99, 101, 105, 108]⟩ : ByteArray), (⟨#[98, 117, 114, 115, 116]⟩ : ByteArray), (⟨#[99, 98, 117, 114, 115, 116]⟩ : ByteArray), (⟨#[112, 114, 105, 111]⟩ : ByteArray)])[(1 : Int).toNat]? = some raB from rfl, ob_s, hn, ob_s]
  simp only [bl_eq]
  rw [decide_eq_false (show ¬ bl raB = bl ⟨#[99, 108, 97, 115, 115]⟩ by decide), oif_f, decide_eq_true (show bl raB = bl ⟨#[114, 97, 116, 101]⟩ from rfl), oif_t]
  unfold j32_2 j32_1
  rw [wr (by decide) (by decide)]
  rfl

theorem h_step2 {d : Nat} {ts : List Tk} {m : Nat × Int × Int} {en : Int} {b : Bool} {x : Cl8} (hl : ts.length ≤ 600) (h0 : m.2.1 = 0) (ag) :
    l32_0 (d + 3) (j32_0 (d + 3)) ag (b, 2, (ts, (m.1 : Int), en, ((⟨#[]⟩ : ByteArray), ([] : List Cl8), ([] : List Fl5), 0), 0, m.2), x) = oif (!(nbM ts en ceB m).2.1) (some ((0, 0, 0, 0, 0, 0, 0, 0), false, (ts, ((nbM ts en ceB m).2.2.1 : Int), en, ((⟨#[]⟩ : ByteArray), ([] : List Cl8), ([] : List Fl5), 0), 0, (nbM ts en ceB m).2.2.2))) (ag (b, 3, (ts, ((nbM ts en ceB m).2.2.1 : Int), en, ((⟨#[]⟩ : ByteArray), ([] : List Cl8), ([] : List Fl5), 0), 0, (nbM ts en ceB m).2.2.2), (x.1, x.2.1, x.2.2.1, (nbM ts en ceB m).1, x.2.2.2.2))) := by
  have hn := s_named (d := d) (ts := ts) (m := m) (en := en) (dp := 0) (o := ((⟨#[]⟩ : ByteArray), ([] : List Cl8), ([] : List Fl5), 0)) (w := ceB) hl h0
  simp only [l32_0, l32_0_b]
  rw [decide_eq_true (by decide), oif_t, decide_eq_true (by decide), oif_t, show Nat.blt _ _ = true from by decide, oif_t, show ([(⟨#[99, 108, 97, 115, 115]⟩ : ByteArray), (⟨#[114, 97, 116, 101]⟩ : ByteArray), (⟨#[99, 101, 105, 108]⟩ : ByteArray), (⟨#[98, 117, 114, 115, 116]⟩ : ByteArray), (⟨#[99, 98, 117, 114, 115, 116]⟩ : ByteArray), (⟨#[112, 114, 105, 111]⟩ : ByteArray)])[(2 : Int).toNat]? = some ceB from rfl, ob_s, hn, ob_s]
  simp only [bl_eq]
  rw [decide_eq_false (show ¬ bl ceB = bl ⟨#[99, 108, 97, 115, 115]⟩ by decide), oif_f, decide_eq_false (show ¬ bl ceB = bl ⟨#[114, 97, 116, 101]⟩ by decide), oif_f, decide_eq_true (show bl ceB = bl ⟨#[99, 101, 105, 108]⟩ from rfl), oif_t]
  unfold j32_3 j32_2 j32_1
  rw [wr (by decide) (by decide)]
  rfl

theorem h_step3 {d : Nat} {ts : List Tk} {m : Nat × Int × Int} {en : Int} {b : Bool} {x : Cl8} (hl : ts.length ≤ 600) (h0 : m.2.1 = 0) (ag) :
    l32_0 (d + 3) (j32_0 (d + 3)) ag (b, 3, (ts, (m.1 : Int), en, ((⟨#[]⟩ : ByteArray), ([] : List Cl8), ([] : List Fl5), 0), 0, m.2), x) = oif (!(nbM ts en buB m).2.1) (some ((0, 0, 0, 0, 0, 0, 0, 0), false, (ts, ((nbM ts en buB m).2.2.1 : Int), en, ((⟨#[]⟩ : ByteArray), ([] : List Cl8), ([] : List Fl5), 0), 0, (nbM ts en buB m).2.2.2))) (ag (b, 4, (ts, ((nbM ts en buB m).2.2.1 : Int), en, ((⟨#[]⟩ : ByteArray), ([] : List Cl8), ([] : List Fl5), 0), 0, (nbM ts en buB m).2.2.2), (x.1, x.2.1, x.2.2.1, x.2.2.2.1, (nbM ts en buB m).1, x.2.2.2.2.2))) := by
  have hn := s_named (d := d) (ts := ts) (m := m) (en := en) (dp := 0) (o := ((⟨#[]⟩ : ByteArray), ([] : List Cl8), ([] : List Fl5), 0)) (w := buB) hl h0
  simp only [l32_0, l32_0_b]
  rw [decide_eq_true (by decide), oif_t, decide_eq_true (by decide), oif_t, show Nat.blt _ _ = true from by decide, oif_t, show ([(⟨#[99, 108, 97, 115, 115]⟩ : ByteArray), (⟨#[114, 97, 116, 101]⟩ : ByteArray), (⟨#[99, 101, 105, 108]⟩ : ByteArray), (⟨#[98, 117, 114, 115, 116]⟩ : ByteArray), (⟨#[99, 98, 117, 114, 115, 116]⟩ : ByteArray), (⟨#[112, 114, 105, 111]⟩ : ByteArray)])[(3 : Int).toNat]? = some buB from rfl, ob_s, hn, ob_s]
  simp only [bl_eq]
  rw [decide_eq_false (show ¬ bl buB = bl ⟨#[99, 108, 97, 115, 115]⟩ by decide), oif_f, decide_eq_false (show ¬ bl buB = bl ⟨#[114, 97, 116, 101]⟩ by decide), oif_f, decide_eq_false (show ¬ bl buB = bl ⟨#[99, 101, 105, 108]⟩ by decide), oif_f, decide_eq_true (show bl buB = bl ⟨#[98, 117, 114, 115, 116]⟩ from rfl), oif_t]
  unfold j32_3 j32_2 j32_1
  rw [wr (by decide) (by decide)]
  rfl

theorem h_step4 {d : Nat} {ts : List Tk} {m : Nat × Int × Int} {en : Int} {b : Bool} {x : Cl8} (hl : ts.length ≤ 600) (h0 : m.2.1 = 0) (ag) :
    l32_0 (d + 3) (j32_0 (d + 3)) ag (b, 4, (ts, (m.1 : Int), en, ((⟨#[]⟩ : ByteArray), ([] : List Cl8), ([] : List Fl5), 0), 0, m.2), x) = oif (!(nbM ts en cbB m).2.1) (some ((0, 0, 0, 0, 0, 0, 0, 0), false, (ts, ((nbM ts en cbB m).2.2.1 : Int), en, ((⟨#[]⟩ : ByteArray), ([] : List Cl8), ([] : List Fl5), 0), 0, (nbM ts en cbB m).2.2.2))) (ag (b, 5, (ts, ((nbM ts en cbB m).2.2.1 : Int), en, ((⟨#[]⟩ : ByteArray), ([] : List Cl8), ([] : List Fl5), 0), 0, (nbM ts en cbB m).2.2.2), (x.1, x.2.1, x.2.2.1, x.2.2.2.1, x.2.2.2.2.1, (nbM ts en cbB m).1, x.2.2.2.2.2.2))) := by
  have hn := s_named (d := d) (ts := ts) (m := m) (en := en) (dp := 0) (o := ((⟨#[]⟩ : ByteArray), ([] : List Cl8), ([] : List Fl5), 0)) (w := cbB) hl h0
  simp only [l32_0, l32_0_b]
  rw [decide_eq_true (by decide), oif_t, decide_eq_true (by decide), oif_t, show Nat.blt _ _ = true from by decide, oif_t, show ([(⟨#[99, 108, 97, 115, 115]⟩ : ByteArray), (⟨#[114, 97, 116, 101]⟩ : ByteArray), (⟨#[99, 101, 105, 108]⟩ : ByteArray), (⟨#[98, 117, 114, 115, 116]⟩ : ByteArray), (⟨#[99, 98, 117, 114, 115, 116]⟩ : ByteArray), (⟨#[112, 114, 105, 111]⟩ : ByteArray)])[(4 : Int).toNat]? = some cbB from rfl, ob_s, hn, ob_s]
  simp only [bl_eq]
  rw [decide_eq_false (show ¬ bl cbB = bl ⟨#[99, 108, 97, 115, 115]⟩ by decide), oif_f, decide_eq_false (show ¬ bl cbB = bl ⟨#[114, 97, 116, 101]⟩ by decide), oif_f, decide_eq_false (show ¬ bl cbB = bl ⟨#[99, 101, 105, 108]⟩ by decide), oif_f, decide_eq_false (show ¬ bl cbB = bl ⟨#[98, 117, 114, 115, 116]⟩ by decide), oif_f, decide_eq_true (show bl cbB = bl ⟨#[99, 98, 117, 114, 115, 116]⟩ from rfl), oif_t]
  unfold j32_3 j32_2 j32_1
  rw [wr (by decide) (by decide)]
  rfl

theorem h_step5 {d : Nat} {ts : List Tk} {m : Nat × Int × Int} {en : Int} {b : Bool} {x : Cl8} (hl : ts.length ≤ 600) (h0 : m.2.1 = 0) (ag) :
    l32_0 (d + 3) (j32_0 (d + 3)) ag (b, 5, (ts, (m.1 : Int), en, ((⟨#[]⟩ : ByteArray), ([] : List Cl8), ([] : List Fl5), 0), 0, m.2), x) = oif (!(nbM ts en prB m).2.1) (some ((0, 0, 0, 0, 0, 0, 0, 0), false, (ts, ((nbM ts en prB m).2.2.1 : Int), en, ((⟨#[]⟩ : ByteArray), ([] : List Cl8), ([] : List Fl5), 0), 0, (nbM ts en prB m).2.2.2))) (ag (b, 6, (ts, ((nbM ts en prB m).2.2.1 : Int), en, ((⟨#[]⟩ : ByteArray), ([] : List Cl8), ([] : List Fl5), 0), 0, (nbM ts en prB m).2.2.2), (x.1, x.2.1, x.2.2.1, x.2.2.2.1, x.2.2.2.2.1, x.2.2.2.2.2.1, (nbM ts en prB m).1, x.2.2.2.2.2.2.2))) := by
  have hn := s_named (d := d) (ts := ts) (m := m) (en := en) (dp := 0) (o := ((⟨#[]⟩ : ByteArray), ([] : List Cl8), ([] : List Fl5), 0)) (w := prB) hl h0
  simp only [l32_0, l32_0_b]
  rw [decide_eq_true (by decide), oif_t, decide_eq_true (by decide), oif_t, show Nat.blt _ _ = true from by decide, oif_t, show ([(⟨#[99, 108, 97, 115, 115]⟩ : ByteArray), (⟨#[114, 97, 116, 101]⟩ : ByteArray), (⟨#[99, 101, 105, 108]⟩ : ByteArray), (⟨#[98, 117, 114, 115, 116]⟩ : ByteArray), (⟨#[99, 98, 117, 114, 115, 116]⟩ : ByteArray), (⟨#[112, 114, 105, 111]⟩ : ByteArray)])[(5 : Int).toNat]? = some prB from rfl, ob_s, hn, ob_s]
  simp only [bl_eq]
  rw [decide_eq_false (show ¬ bl prB = bl ⟨#[99, 108, 97, 115, 115]⟩ by decide), oif_f, decide_eq_false (show ¬ bl prB = bl ⟨#[114, 97, 116, 101]⟩ by decide), oif_f, decide_eq_false (show ¬ bl prB = bl ⟨#[99, 101, 105, 108]⟩ by decide), oif_f, decide_eq_false (show ¬ bl prB = bl ⟨#[98, 117, 114, 115, 116]⟩ by decide), oif_f, decide_eq_false (show ¬ bl prB = bl ⟨#[99, 98, 117, 114, 115, 116]⟩ by decide), oif_f]
  unfold j32_3 j32_2 j32_1
  rw [wr (by decide) (by decide)]
  rfl

theorem s_head {d : Nat} {ts : List Tk} {en n : Int} (hl : ts.length ≤ 600) : g32 (d + 4) (ts, 0, en, ((⟨#[]⟩ : ByteArray), ([] : List Cl8), ([] : List Fl5), 0), 0, 0, 0) n = some (if (u6 ts en).2.2.2.1 ≠ 0 then ((0, 0, 0, 0, 0, 0, 0, 0), false, (ts, ((u6 ts en).2.2.1 : Int), en, ((⟨#[]⟩ : ByteArray), ([] : List Cl8), ([] : List Fl5), 0), 0, (u6 ts en).2.2.2)) else (((u1 ts en).1, n, (u2 ts en).1, (u3 ts en).1, (u4 ts en).1, (u5 ts en).1, (u6 ts en).1, 0), true, (ts, ((u6 ts en).2.2.1 : Int), en, ((⟨#[]⟩ : ByteArray), ([] : List Cl8), ([] : List Fl5), 0), 0, (u6 ts en).2.2.2))) := by
  rw [e32]
  obtain ⟨f, hf⟩ : ∃ f, fuelN = f + 7 := ⟨4194297, fuelN_eq⟩
  rw [hf]
  have b1 : (u1 ts en).2.2.2.1 ≠ 0 → u6 ts en = (0, false, (u1 ts en).2.2) := fun h => by
    unfold u6 u5 u4 u3 u2
    rw [nbM_bad h, nbM_bad h, nbM_bad h, nbM_bad h, nbM_bad h]
  have b2 : (u2 ts en).2.2.2.1 ≠ 0 → u6 ts en = (0, false, (u2 ts en).2.2) := fun h => by
    unfold u6 u5 u4 u3
    rw [nbM_bad h, nbM_bad h, nbM_bad h, nbM_bad h]
  have b3 : (u3 ts en).2.2.2.1 ≠ 0 → u6 ts en = (0, false, (u3 ts en).2.2) := fun h => by
    unfold u6 u5 u4
    rw [nbM_bad h, nbM_bad h, nbM_bad h]
  have b4 : (u4 ts en).2.2.2.1 ≠ 0 → u6 ts en = (0, false, (u4 ts en).2.2) := fun h => by
    unfold u6 u5
    rw [nbM_bad h, nbM_bad h]
  have b5 : (u5 ts en).2.2.2.1 ≠ 0 → u6 ts en = (0, false, (u5 ts en).2.2) := fun h => by
    unfold u6
    rw [nbM_bad h]
  have U : ∀ (q : Nat) s, iterP (l32_0 (d + 3) (j32_0 (d + 3))) (q + 1) s = l32_0 (d + 3) (j32_0 (d + 3)) (iterP (l32_0 (d + 3) (j32_0 (d + 3))) q) s := fun q s => rfl
  have s1 := h_step0 (d := d) (ts := ts) (m := (0, 0, 0)) (en := en) (b := false) (x := (0, n, 0, 0, 0, 0, 0, 0)) hl rfl (iterP (l32_0 (d + 3) (j32_0 (d + 3))) (f + 6))
  refine (U (f + 6) _).trans (s1.trans ?_)
  change oif (!(u1 ts en).2.1) (some ((0, 0, 0, 0, 0, 0, 0, 0), false, (ts, ((u1 ts en).2.2.1 : Int), en, ((⟨#[]⟩ : ByteArray), ([] : List Cl8), ([] : List Fl5), 0), 0, (u1 ts en).2.2.2))) (iterP (l32_0 (d + 3) (j32_0 (d + 3))) (f + 6) (false, 1, (ts, ((u1 ts en).2.2.1 : Int), en, ((⟨#[]⟩ : ByteArray), ([] : List Cl8), ([] : List Fl5), 0), 0, (u1 ts en).2.2.2), ((u1 ts en).1, n, 0, 0, 0, 0, 0, 0))) = _
  cases c1 : (u1 ts en).2.1 with
  | false =>
    have hb : (u1 ts en).2.2.2.1 ≠ 0 := nbM_no (show (nbM ts en clB (0, 0, 0)).2.1 = false from c1)
    rw [Bool.not_false, oif_t, b1 hb, if_pos hb]
  | true =>
  have g1 : (u1 ts en).2.2.2.1 = 0 := nbM_yes rfl c1
  rw [Bool.not_true, oif_f]
  have s2 := h_step1 (d := d) (ts := ts) (m := (u1 ts en).2.2) (en := en) (b := false) (x := ((u1 ts en).1, n, 0, 0, 0, 0, 0, 0)) hl g1 (iterP (l32_0 (d + 3) (j32_0 (d + 3))) (f + 5))
  refine (U (f + 5) _).trans (s2.trans ?_)
  change oif (!(u2 ts en).2.1) (some ((0, 0, 0, 0, 0, 0, 0, 0), false, (ts, ((u2 ts en).2.2.1 : Int), en, ((⟨#[]⟩ : ByteArray), ([] : List Cl8), ([] : List Fl5), 0), 0, (u2 ts en).2.2.2))) (iterP (l32_0 (d + 3) (j32_0 (d + 3))) (f + 5) (false, 2, (ts, ((u2 ts en).2.2.1 : Int), en, ((⟨#[]⟩ : ByteArray), ([] : List Cl8), ([] : List Fl5), 0), 0, (u2 ts en).2.2.2), ((u1 ts en).1, n, (u2 ts en).1, 0, 0, 0, 0, 0))) = _
  cases c2 : (u2 ts en).2.1 with
  | false =>
    have hb : (u2 ts en).2.2.2.1 ≠ 0 := nbM_no (show (nbM ts en raB (u1 ts en).2.2).2.1 = false from c2)
    rw [Bool.not_false, oif_t, b2 hb, if_pos hb]
  | true =>
  have g2 : (u2 ts en).2.2.2.1 = 0 := nbM_yes g1 c2
  rw [Bool.not_true, oif_f]
  have s3 := h_step2 (d := d) (ts := ts) (m := (u2 ts en).2.2) (en := en) (b := false) (x := ((u1 ts en).1, n, (u2 ts en).1, 0, 0, 0, 0, 0)) hl g2 (iterP (l32_0 (d + 3) (j32_0 (d + 3))) (f + 4))
  refine (U (f + 4) _).trans (s3.trans ?_)
  change oif (!(u3 ts en).2.1) (some ((0, 0, 0, 0, 0, 0, 0, 0), false, (ts, ((u3 ts en).2.2.1 : Int), en, ((⟨#[]⟩ : ByteArray), ([] : List Cl8), ([] : List Fl5), 0), 0, (u3 ts en).2.2.2))) (iterP (l32_0 (d + 3) (j32_0 (d + 3))) (f + 4) (false, 3, (ts, ((u3 ts en).2.2.1 : Int), en, ((⟨#[]⟩ : ByteArray), ([] : List Cl8), ([] : List Fl5), 0), 0, (u3 ts en).2.2.2), ((u1 ts en).1, n, (u2 ts en).1, (u3 ts en).1, 0, 0, 0, 0))) = _
  cases c3 : (u3 ts en).2.1 with
  | false =>
    have hb : (u3 ts en).2.2.2.1 ≠ 0 := nbM_no (show (nbM ts en ceB (u2 ts en).2.2).2.1 = false from c3)
    rw [Bool.not_false, oif_t, b3 hb, if_pos hb]
  | true =>
  have g3 : (u3 ts en).2.2.2.1 = 0 := nbM_yes g2 c3
  rw [Bool.not_true, oif_f]
  have s4 := h_step3 (d := d) (ts := ts) (m := (u3 ts en).2.2) (en := en) (b := false) (x := ((u1 ts en).1, n, (u2 ts en).1, (u3 ts en).1, 0, 0, 0, 0)) hl g3 (iterP (l32_0 (d + 3) (j32_0 (d + 3))) (f + 3))
  refine (U (f + 3) _).trans (s4.trans ?_)
  change oif (!(u4 ts en).2.1) (some ((0, 0, 0, 0, 0, 0, 0, 0), false, (ts, ((u4 ts en).2.2.1 : Int), en, ((⟨#[]⟩ : ByteArray), ([] : List Cl8), ([] : List Fl5), 0), 0, (u4 ts en).2.2.2))) (iterP (l32_0 (d + 3) (j32_0 (d + 3))) (f + 3) (false, 4, (ts, ((u4 ts en).2.2.1 : Int), en, ((⟨#[]⟩ : ByteArray), ([] : List Cl8), ([] : List Fl5), 0), 0, (u4 ts en).2.2.2), ((u1 ts en).1, n, (u2 ts en).1, (u3 ts en).1, (u4 ts en).1, 0, 0, 0))) = _
  cases c4 : (u4 ts en).2.1 with
  | false =>
    have hb : (u4 ts en).2.2.2.1 ≠ 0 := nbM_no (show (nbM ts en buB (u3 ts en).2.2).2.1 = false from c4)
    rw [Bool.not_false, oif_t, b4 hb, if_pos hb]
  | true =>
  have g4 : (u4 ts en).2.2.2.1 = 0 := nbM_yes g3 c4
  rw [Bool.not_true, oif_f]
  have s5 := h_step4 (d := d) (ts := ts) (m := (u4 ts en).2.2) (en := en) (b := false) (x := ((u1 ts en).1, n, (u2 ts en).1, (u3 ts en).1, (u4 ts en).1, 0, 0, 0)) hl g4 (iterP (l32_0 (d + 3) (j32_0 (d + 3))) (f + 2))
  refine (U (f + 2) _).trans (s5.trans ?_)
  change oif (!(u5 ts en).2.1) (some ((0, 0, 0, 0, 0, 0, 0, 0), false, (ts, ((u5 ts en).2.2.1 : Int), en, ((⟨#[]⟩ : ByteArray), ([] : List Cl8), ([] : List Fl5), 0), 0, (u5 ts en).2.2.2))) (iterP (l32_0 (d + 3) (j32_0 (d + 3))) (f + 2) (false, 5, (ts, ((u5 ts en).2.2.1 : Int), en, ((⟨#[]⟩ : ByteArray), ([] : List Cl8), ([] : List Fl5), 0), 0, (u5 ts en).2.2.2), ((u1 ts en).1, n, (u2 ts en).1, (u3 ts en).1, (u4 ts en).1, (u5 ts en).1, 0, 0))) = _
  cases c5 : (u5 ts en).2.1 with
  | false =>
    have hb : (u5 ts en).2.2.2.1 ≠ 0 := nbM_no (show (nbM ts en cbB (u4 ts en).2.2).2.1 = false from c5)
    rw [Bool.not_false, oif_t, b5 hb, if_pos hb]
  | true =>
  have g5 : (u5 ts en).2.2.2.1 = 0 := nbM_yes g4 c5
  rw [Bool.not_true, oif_f]
  have s6 := h_step5 (d := d) (ts := ts) (m := (u5 ts en).2.2) (en := en) (b := false) (x := ((u1 ts en).1, n, (u2 ts en).1, (u3 ts en).1, (u4 ts en).1, (u5 ts en).1, 0, 0)) hl g5 (iterP (l32_0 (d + 3) (j32_0 (d + 3))) (f + 1))
  refine (U (f + 1) _).trans (s6.trans ?_)
  change oif (!(u6 ts en).2.1) (some ((0, 0, 0, 0, 0, 0, 0, 0), false, (ts, ((u6 ts en).2.2.1 : Int), en, ((⟨#[]⟩ : ByteArray), ([] : List Cl8), ([] : List Fl5), 0), 0, (u6 ts en).2.2.2))) (iterP (l32_0 (d + 3) (j32_0 (d + 3))) (f + 1) (false, 6, (ts, ((u6 ts en).2.2.1 : Int), en, ((⟨#[]⟩ : ByteArray), ([] : List Cl8), ([] : List Fl5), 0), 0, (u6 ts en).2.2.2), ((u1 ts en).1, n, (u2 ts en).1, (u3 ts en).1, (u4 ts en).1, (u5 ts en).1, (u6 ts en).1, 0))) = _
  cases c6 : (u6 ts en).2.1 with
  | false =>
    have hb : (u6 ts en).2.2.2.1 ≠ 0 := nbM_no (show (nbM ts en prB (u5 ts en).2.2).2.1 = false from c6)
    rw [Bool.not_false, oif_t, if_pos hb]
  | true =>
  have g6 : (u6 ts en).2.2.2.1 = 0 := nbM_yes g5 c6
  rw [Bool.not_true, oif_f]
  rw [show f + 1 = f + 1 from rfl, U, if_neg (by rw [g6]; simp)]
  simp only [l32_0, l32_0_b]
  rw [decide_eq_false (by decide), oif_f]; rfl

theorem p_sParseLeaf {d : Nat} {s : ByteArray} {n : Int} (hs : s.size ≤ 4000) (hn : 0 ≤ n ∧ n ≤ 999) (h0 : (tkA s).2.1 = 0) : g10 (d + 9) s n = some (resL (tkA s).1 (s.size : Int) n) := by
  obtain ⟨hts, hz, hl⟩ := tkA_ok h0
  rw [e10, q_scBytes, ob_s, decide_eq_true (by omega), Bool.not_true, oif_f, q_l1In, ob_s, decide_eq_true hn]
  unfold j10_1
  rw [Bool.not_true, oif_f, q_tkAll hs, ob_s]
  rw [show ((tkA s).2.1 != 0) = false by rw [bne_eq_false_iff_eq]; exact h0, oif_f, hz]
  generalize (tkA s).1 = ts at hts hl
  generalize ((s.size : Nat) : Int) = en
  have bad9 : ∀ {m : Nat × Int × Int}, m.2.1 ≠ 0 → u9 ts en = m → some (((0, 0, 0, 0, 0, 0, 0, 0) : Cl8), m.2, true) = some (resL ts en n) := by
    intro m h e
    unfold resL
    rw [e, if_pos h]
  have hF := s_head (d := d + 4) (n := n) (en := en) hl
  rw [show d + 7 + 1 = d + 4 + 4 from rfl, hF, ob_s]
  by_cases h6 : (u6 ts en).2.2.2.1 ≠ 0
  · rw [if_pos h6]
    simp only [Bool.not_false, oif_t]
    refine bad9 h6 ?_
    unfold u9 u8 u7
    rw [nbM_bad h6, tkM_bad h6, fiM_bad h6]
  rw [if_neg h6]
  simp only [Bool.not_true, oif_f]
  have h7 := s_named (d := d + 4) (ts := ts) (m := (u6 ts en).2.2) (en := en) (dp := 0) (o := ((⟨#[]⟩ : ByteArray), ([] : List Cl8), ([] : List Fl5), 0)) (w := liB) hl (by omega)
  change g51 (d + 7) (ts, ((u6 ts en).2.2.1 : Int), en, ((⟨#[]⟩ : ByteArray), ([] : List Cl8), ([] : List Fl5), 0), 0, (u6 ts en).2.2.2) liB = some ((u7 ts en).1, (u7 ts en).2.1, (ts, ((u7 ts en).2.2.1 : Int), en, ((⟨#[]⟩ : ByteArray), ([] : List Cl8), ([] : List Fl5), 0), 0, (u7 ts en).2.2.2)) at h7
  rw [show d + 4 + 4 = (d + 7) + 1 from rfl, e33]
  change obind (obind (g51 (d + 7) (ts, ((u6 ts en).2.2.1 : Int), en, ((⟨#[]⟩ : ByteArray), ([] : List Cl8), ([] : List Fl5), 0), 0, (u6 ts en).2.2.2) liB) _) _ = _
  rw [h7, ob_s]
  simp only []
  cases c7 : (u7 ts en).2.1 with
  | false =>
    have hb : (u7 ts en).2.2.2.1 ≠ 0 := nbM_no (show (nbM ts en liB (u6 ts en).2.2).2.1 = false from c7)
    rw [oif_f, ob_s]
    unfold j10_0
    simp only [Bool.not_false, oif_t]
    refine bad9 hb ?_
    unfold u9 u8
    rw [tkM_bad hb, fiM_bad hb]
  | true =>
    have g7 : (u7 ts en).2.2.2.1 = 0 := nbM_yes (by omega) c7
    have h8 := s_take (d := d + 5) (ts := ts) (m := (u7 ts en).2.2) (en := en) (dp := 0) (o := ((⟨#[]⟩ : ByteArray), ([] : List Cl8), ([] : List Fl5), 0)) (w := seB) hl g7
    change g56 (d + 7) (ts, ((u7 ts en).2.2.1 : Int), en, ((⟨#[]⟩ : ByteArray), ([] : List Cl8), ([] : List Fl5), 0), 0, (u7 ts en).2.2.2) seB = some ((u8 ts en).1, (ts, ((u8 ts en).2.1 : Int), en, ((⟨#[]⟩ : ByteArray), ([] : List Cl8), ([] : List Fl5), 0), 0, (u8 ts en).2.2)) at h8
    rw [oif_t]
    change obind (obind (g56 (d + 7) (ts, ((u7 ts en).2.2.1 : Int), en, ((⟨#[]⟩ : ByteArray), ([] : List Cl8), ([] : List Fl5), 0), 0, (u7 ts en).2.2.2) seB) _) _ = _
    rw [h8, ob_s, ob_s]
    simp only []
    cases c8 : (u8 ts en).1 with
    | false =>
      have hb : (u8 ts en).2.2.1 ≠ 0 := tkM_no (show (tkM ts en seB (u7 ts en).2.2).1 = false from c8)
      unfold j10_0
      simp only [Bool.not_false, oif_t]
      exact bad9 hb (fiM_bad hb)
    | true =>
      have g8 : (u8 ts en).2.2.1 = 0 := by
        have := tkM_yes (show (tkM ts en seB (u7 ts en).2.2).1 = true from c8)
        change (u8 ts en).2.2 = _ at this
        rw [this]; exact g7
      have hd := s_done (d := d + 6) (ts := ts) (m := (u8 ts en).2) (en := en) (dp := 0) (o := ((⟨#[]⟩ : ByteArray), ([] : List Cl8), ([] : List Fl5), 0)) g8
      change g25 (d + 8) (ts, ((u8 ts en).2.1 : Int), en, ((⟨#[]⟩ : ByteArray), ([] : List Cl8), ([] : List Fl5), 0), 0, (u8 ts en).2.2) = some (decide ((u9 ts en).2.1 = 0), (ts, ((u9 ts en).1 : Int), en, ((⟨#[]⟩ : ByteArray), ([] : List Cl8), ([] : List Fl5), 0), 0, (u9 ts en).2)) at hd
      simp only [Bool.not_true, oif_f]
      rw [show d + 7 + 1 = d + 8 from rfl, hd, ob_s]
      unfold j10_0
      simp only []
      by_cases h9 : (u9 ts en).2.1 = 0
      · rw [decide_eq_true h9, Bool.not_true, oif_f]
        unfold resL
        rw [if_neg (by omega)]
      · rw [decide_eq_false h9, Bool.not_false, oif_t]
        exact bad9 h9 rfl

theorem eqCl {d : Nat} {x : Cl8} : g12 (d + 1) x x = some true := by
  rw [e12]
  simp only [bne_self_eq_false, oif_f]

theorem eqFa {d : Nat} {x : Int × Int} : g9 (d + 1) x x = some true := by
  rw [e9]
  simp only [bne_self_eq_false, oif_f]

theorem same {d : Nat} {s : ByteArray} {n : Int} : ∃ r, g10 (d + 9) s n = some r ∧ g11 (d + 9) s n = some r := by
  by_cases hs : s.size ≤ 4000
  · by_cases hn : 0 ≤ n ∧ n ≤ 999
    · by_cases h0 : (tkA s).2.1 = 0
      · exact ⟨_, p_sParseLeaf hs hn h0, (p_ParseLeaf hs hn h0).val⟩
      · refine ⟨((0, 0, 0, 0, 0, 0, 0, 0), (tkA s).2, true), ?_, ?_⟩
        · rw [e10, q_scBytes, ob_s, decide_eq_true (by omega), Bool.not_true, oif_f, q_l1In, ob_s, decide_eq_true hn]
          unfold j10_1
          rw [Bool.not_true, oif_f, q_tkAll hs, ob_s]
          rw [show ((tkA s).2.1 != 0) = true by rw [bne_iff_ne]; exact h0, oif_t]
        · rw [e11, decide_eq_false (show ¬ ((s.size : Nat) : Int) > 4000 by omega), oif_f, decide_eq_false (show ¬ n < 0 by omega), oif_f, decide_eq_false (show ¬ n > 999 by omega)]
          unfold j11_0
          rw [oif_f, show d + 7 = (d + 1) + 6 from rfl, q_TokensOf hs, ob_s]
          simp only []
          rw [show ((tkA s).2.1 != 0) = true by rw [bne_iff_ne]; exact h0, oif_t]
    · refine ⟨((0, 0, 0, 0, 0, 0, 0, 0), (0, 0), false), ?_, ?_⟩
      · rw [e10, q_scBytes, ob_s, decide_eq_true (by omega), Bool.not_true, oif_f, q_l1In, ob_s, decide_eq_false hn]; rfl
      · rw [e11, decide_eq_false (show ¬ ((s.size : Nat) : Int) > 4000 by omega), oif_f]
        unfold j11_0
        by_cases h1 : n < 0
        · rw [decide_eq_true h1, oif_t, oif_t]
        · rw [decide_eq_false h1, oif_f, decide_eq_true (show n > 999 by omega), oif_t]
  · refine ⟨((0, 0, 0, 0, 0, 0, 0, 0), (0, 0), false), ?_, ?_⟩
    · rw [e10, q_scBytes, ob_s, decide_eq_false (by omega)]; rfl
    · rw [e11, decide_eq_true (show ((s.size : Nat) : Int) > 4000 by omega), oif_t]; rfl

theorem law_main {d : Nat} {s : ByteArray} {n : Int} : g4 (d + 10) s n = some true := by
  rw [e4]
  by_cases h : ((s.size : Nat) : Int) > 1048576
  · rw [decide_eq_true h, oif_t]
  obtain ⟨r, h1, h2⟩ := same (d := d) (s := s) (n := n)
  rw [decide_eq_false h, oif_f, h1, ob_s, h2, ob_s, show d + 9 = (d + 8) + 1 from rfl, eqCl, ob_s, Bool.not_true, oif_f, eqFa, ob_s, Bool.not_true, oif_f, beq_self_eq_true, Bool.not_true, oif_f]

def tysLaw : List Ty := [.str, .int .i64]

theorem lawAny : LawAny Tryd.prog pvAnn (10) 4 tysLaw :=
  ⟨rfl, rfl, rfl, fun a _ => ⟨true, law_main (d := 0), rfl⟩⟩

end Go.Proofs.YtpjlbjkeekobnaaDoor
