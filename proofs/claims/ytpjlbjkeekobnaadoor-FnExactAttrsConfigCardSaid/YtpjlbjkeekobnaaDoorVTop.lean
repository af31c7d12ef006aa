/-
  The bridge: a law of two slices of bytes that gives true by value, for all bytes, returns true in the model and writes nothing that was there.
  Conditions: those that the rows state of the two slices.
-/
import Derived.Test.YtpjlbjkeekobnaaDoorVSound
import Derived.Test.YtpjlbjkeekobnaaDoorTop
set_option linter.all false
namespace Go.Pv
open Go.Ev Go.Ek Go.ChangeAt Go.RowKit Go.WideShapes Go.ChangeShapes

/-- A list of bytes. -/
def Bytes (x : List Int) : Prop := ∀ n ∈ x, 0 ≤ n ∧ n < 256

theorem code_rep {g : Option (Nat × Blk)} {G : Heap} {i : Nat} {a : Option Addr} {len : Nat} (hg : CodeAt g G) (hv : CodeV g (absA i a) len) (h0 : a = none → len = 0) :
    ∃ x : List Int, x.length = len ∧ Bytes x ∧ Rep Any G (.sl (.int .u8)) x [.slice (absA i a) len (absE a)] := by
  cases a with
  | none =>
    obtain rfl := h0 rfl
    exact ⟨[], rfl, by simp [Bytes], by unfold Rep; exact .inl ⟨rfl, rfl⟩⟩
  | some ad =>
    rcases hv with rfl | ⟨p, B, e1, e2, hb⟩
    · exact ⟨[], rfl, by simp [Bytes], by unfold Rep; exact .inr (.inl ⟨rfl, i, 0, rfl⟩)⟩
    · simp only [absA, Option.some.injEq] at e1
      subst e1
      obtain ⟨_, hB⟩ := hg _ _ e2
      let f : Nat → Int := fun j => match B.cells[0 + j]? with | some (.int _ n) => n | _ => 0
      have hf : ∀ j, j < len → B.cells[0 + j]? = some (.int .u8 (f j)) ∧ 0 ≤ f j ∧ f j < 256 := by
        intro j hj
        obtain ⟨x, hx, h1, h2⟩ := hb j hj
        have hx' : B.cells[0 + j]? = some (.int .u8 x) := hx
        have : f j = x := by simp only [f, hx']
        rw [this]; exact ⟨hx', h1, h2⟩
      refine ⟨(List.range len).map f, by simp, ?_, ?_⟩
      · intro n hn
        obtain ⟨j, hj, rfl⟩ := List.mem_map.1 hn
        exact (hf j (List.mem_range.1 hj)).2
      · unfold Rep
        refine .inr (.inr ⟨i, 0, B, by simp [absA, absE, Ty.size], trivial, hB, ?_, fun j hj => ?_⟩)
        · rcases Nat.eq_zero_or_pos len with h | h
          · subst h; simp
          · obtain ⟨h1, _⟩ := hf (len - 1) (by omega)
            have := (List.getElem?_eq_some_iff.1 h1).1
            simp [Ty.size]; omega
        · simp only [List.length_map, List.length_range] at hj
          obtain ⟨h1, _⟩ := hf j hj
          simp only [Ty.size, Nat.mul_one]
          unfold Rep
          rw [Nat.zero_add] at h1
          obtain ⟨hlt, h2⟩ := List.getElem?_eq_some_iff.1 h1
          rw [Nat.zero_add, List.drop_eq_getElem_cons hlt]
          simp [h2]

/-- What is to be shown of a law of two slices of bytes. -/
def LawOk (P : Program) (A : AnnV) (d : Nat) (f : FuncId) : Prop :=
  A.inline f = false ∧ (A.sig f).params = [(.ro, .sl (.int .u8)), (.ro, .sl (.int .u8))] ∧ (A.sig f).results = [(false, .bool)] ∧
  ∀ x y : List Int, Bytes x → Bytes y → x.length ≤ 9223372036854775807 → y.length ≤ 9223372036854775807 → ∃ a r, (lev P A d).call f a = some r ∧ unT (A.sig f).ptys a = [⟨.sl (.int .u8), x⟩, ⟨.sl (.int .u8), y⟩] ∧ unT (A.sig f).rtys r = [⟨.bool, true⟩]

theorem HRs.one {N : Nat → Prop} {H : Heap} {lim : Nat} {k : Kd} {v : TV} {ws : List Value} {is : List (List Nat)} (h : HRs N H lim [k] [v] ws is) : ∃ w i, ws = [w] ∧ is = [i] ∧ HR N H lim k v w i := by
  cases ws with
  | nil => cases is <;> exact absurd h id
  | cons w ws => cases is with
    | nil => exact absurd h id
    | cons i is => cases ws with
      | nil => cases is with
        | nil => exact ⟨w, i, rfl, rfl, h.1⟩
        | cons _ _ => exact absurd h.2 id
      | cons _ _ => cases is <;> exact absurd h.2 id

/-- All that is given for functions outside. -/
structure ExtAll (P : Program) (A : AnnV) : Prop where
  v : ExtV A
  x : ExtOk P A.ev

theorem ExtAll.no {P : Program} {A : AnnV} (h1 : ∀ f, A.ext f = none) (h2 : ∀ f, A.vext f = none) : ExtAll P A :=
  ⟨⟨fun f v h => by rw [h2] at h; simp at h, fun f _ => h1 f, fun f _ => h2 f⟩, fun f e h => by rw [show A.ev.ext f = A.ext f from rfl, h1] at h; simp at h⟩

theorem law_run {P : Program} {A : AnnV} {d : Nat} {f : FuncId} (hE : ExtV A) (h : LawOk P A d f) {G : Heap} {v0 v1 : Value} {x y : List Int} (hx : Bytes x) (hy : Bytes y) (lx : x.length ≤ 9223372036854775807) (ly : y.length ≤ 9223372036854775807) (r0 : Rep Any G (.sl (.int .u8)) x [v0]) (r1 : Rep Any G (.sl (.int .u8)) y [v1]) :
    ∃ H', run P A.ev d f [v0, v1] 0 G = some (.bool true, H') := by
  obtain ⟨hi, hp, hres, hr⟩ := h
  obtain ⟨a, r, h1, h2, h3⟩ := hr x y hx hy lx ly
  have hF := (lev_ok P A hE d).call 0 f hi a r h1 G (fun _ => False) [v0, v1] [[], []] (fun _ h => h.elim) (Nat.zero_le _) (by simp) (by simp) (by
    rw [hp, h2]
    exact ⟨⟨_, rfl, rfl, r0.mono (fun z _ => ⟨by simp, fun h => h⟩) _⟩, ⟨_, rfl, rfl, r1.mono (fun z _ => ⟨by simp, fun h => h⟩) _⟩, trivial⟩)
  obtain ⟨v, H', rvs, rids, oids, c1, c2, _, _, _, _, _, c8, _⟩ := hF
  rw [hres, h3] at c8
  obtain ⟨w, i, rfl, rfl, cs, e1, e2⟩ := HRs.one (k := .fz) c8
  replace e2 := e2.2
  unfold Rep at e2
  have e1' : cs = [w] := e1
  rw [e1'] at e2
  simp at e2; subst e2
  rw [c2] at c1
  exact ⟨H', c1⟩

theorem pv_two_rows {P : Program} {A : AnnV} {d : Nat} {f : FuncId} (hm : P.follows .mixedOrders = true) (hE : ExtAll P A) (hr : LawOk P A d f)
    {a0 : Option Addr} {len0 cap0 : Nat} {z0 : List Int} {a1 : Option Addr} {len1 cap1 : Nat} {z1 : List Int} {w : World} (w0 : IsRowT .u8 w a0 len0 cap0 z0) (w1 : IsRowT .u8 w a1 len1 cap1 z1) (hg : GW w) :
    Calls P f #[.slice a0 len0 cap0, .slice a1 len1 cap1] w fun e w' => e = .returned (.bool true) ∧ Below w.heap.size w w' := by
  have hA : ExtOk P A.ev := hE.x
  have n0 : a0 = none → len0 = 0 := by
    intro h; rcases w0 with ⟨_, h1, _⟩ | ⟨x, h1, _⟩
    · exact h1
    · rw [h] at h1; simp at h1
  have n1 : a1 = none → len1 = 0 := by
    intro h; rcases w1 with ⟨_, h1, _⟩ | ⟨x, h1, _⟩
    · exact h1
    · rw [h] at h1; simp at h1
  have m0 : len0 ≤ 9223372036854775807 := by
    rcases w0 with ⟨_, h1, _⟩ | ⟨x, _, h1, h2, _⟩
    · omega
    · have : cap0 ≤ maxLen := h2; unfold maxLen at this; omega
  have m1 : len1 ≤ 9223372036854775807 := by
    rcases w1 with ⟨_, h1, _⟩ | ⟨x, _, h1, h2, _⟩
    · omega
    · have : cap1 ≤ maxLen := h2; unfold maxLen at this; omega
  obtain ⟨loc0, B0, v0, b0, _, c0⟩ := row_one w0 0
  obtain ⟨loc1, B1, v1, b1, _, c1⟩ := row_one w1 1
  have hh0 : hget [B0, B1] 0 = B0 := by cases B0 <;> rfl
  have hh1 : hget [B0, B1] 1 = B1 := by cases B1 <;> rfl
  have hro : ∀ b k, hget [B0, B1] b = some k → (b = 0 ∧ B0 = some k) ∨ (b = 1 ∧ B1 = some k) := by
    intro b k hb
    have hl := hget_some_lt hb
    simp at hl
    rcases (show b = 0 ∨ b = 1 by omega) with rfl | rfl
    · rw [hh0] at hb; exact .inl ⟨rfl, hb⟩
    · rw [hh1] at hb; exact .inr ⟨rfl, hb⟩
  let ι : Io := fun b => if b = 0 then loc0 else loc1
  have i0 : ι 0 = loc0 := rfl
  have i1 : ι 1 = loc1 := rfl
  have roAll : ∀ b k, hget [B0, B1] b = some k → k.ro = true := by
    intro b k hb
    rcases hro b k hb with ⟨rfl, e⟩ | ⟨rfl, e⟩
    · exact (b0 ι (Bel 2) k i0 e).1
    · exact (b1 ι (Bel 2) k i1 e).1
  have hR : Ev.Rel ι (Bel [B0, B1].length) [B0, B1] w := by
    refine ⟨fun b k hb => ?_, fun b b' k k' hb hb' _ h => ?_, fun b k hb hr => (by rw [roAll b k hb] at hr; simp at hr), hg⟩
    · rcases hro b k hb with ⟨rfl, e⟩ | ⟨rfl, e⟩
      · exact (b0 ι _ k i0 e).2
      · exact (b1 ι _ k i1 e).2
    · rw [roAll b k hb, roAll b' k' hb'] at h; simp at h
  obtain ⟨ca0, cv0⟩ := c0 [B0, B1] hh0
  obtain ⟨ca1, cv1⟩ := c1 [B0, B1] hh1
  obtain ⟨x, hx1, hx2, hx3⟩ := code_rep ca0 cv0 n0
  obtain ⟨y, hy1, hy2, hy3⟩ := code_rep ca1 cv1 n1
  obtain ⟨H', hrun⟩ := law_run hE.v hr hx2 hy2 (by omega) (by omega) hx3 hy3
  have hF := run_sound hm hA d f _ _ _ _ _ hrun
  refine (hF.run ι w #[.slice a0 len0 cap0, .slice a1 len1 cap1] hR ⟨rfl, ?_⟩).mono ?_
  · intro i h1 h2
    simp at h1
    rcases (show i = 0 ∨ i = 1 by omega) with rfl | rfl
    · exact v0 ι _ i0 (by simp [Bel])
    · exact v1 ι _ i1 (by simp [Bel])
  · rintro e w' ⟨ι', c, rfl, _, hv, hfr⟩
    cases hv
    exact ⟨rfl, hfr.os, hfr.tape, hfr.output, hfr.size, fun k hk => hfr.frame k hk fun b blk hb hn => by rw [roAll b blk hb] at hn; simp at hn⟩

end Go.Pv
