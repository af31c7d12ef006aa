/-
  Soundness of the interpreter by value: at every depth its functions agree with the runs of the first interpreter.
  Conditions: none.
-/
import Derived.Test.YtpjlbjkeekobnaaDoorVRun
set_option linter.all false
namespace Go.Pv
open Go.Ev

structure LevOk (P : Program) (A : AnnV) (l : Lev A) (callE : FuncId → List Value → Nat → Heap → Option (Value × Heap)) : Prop where
  call : ∀ lim f, A.inline f = false → FnOk (A.sig f) (l.call f) (callE f) lim
  inl : ∀ lim (β : Type) f, A.inline f = true → ∀ {γ : Type} {args : List PV} {ws : List Value} {s : S} {KV : PV → LS → Option β} {KE : Value → Heap → Option γ} {r : β} {Q : γ → Prop}, StR s → s.lim = lim → All2 (ER s) args ws → KOk s r KV KE Q → l.inl β f args s.L KV = some r →
    ∃ y, (obind (callE f ws lim s.H) fun q => KE q.1 q.2) = some y ∧ Q y

theorem LevOk.x {P : Program} {A : AnnV} {l : Lev A} {callE : FuncId → List Value → Nat → Heap → Option (Value × Heap)} (h : LevOk P A l callE) (β : Type) (lim nt : Nat) (f : FuncId) : XOk (β := β) ⟨P, l.call, l.inl β, nt, A.own f, A.loops f, A.eloops f⟩ ⟨P, callE, lim, nt, A.fuel, A.eloops f⟩ :=
  ⟨rfl, rfl, rfl, rfl, fun g hg => h.call lim g hg, fun g hg => h.inl lim β g hg⟩

theorem HRs.len {N : Nat → Prop} {H : Heap} {lim : Nat} : ∀ {ks : List Kd} {vs : List TV} {ws : List Value} {is : List (List Nat)}, HRs N H lim ks vs ws is → ks.length = ws.length ∧ ∀ z ∈ is.flatten, z < H.length
  | [], [], [], [], _ => ⟨rfl, by simp⟩
  | _ :: _, _ :: _, _ :: _, _ :: _, h => by
    obtain ⟨a, b⟩ := HRs.len h.2
    refine ⟨by simp [a], fun z hz => ?_⟩
    rw [List.flatten_cons, List.mem_append] at hz
    rcases hz with hz | hz
    · exact h.1.lt z hz
    · exact b z hz

theorem runF_ok {P : Program} {A : AnnV} {l : Lev A} {callE : FuncId → List Value → Nat → Heap → Option (Value × Heap)} (hl : LevOk P A l callE) (lim : Nat) (f : FuncId) : FnOk (A.sig f) (runF P A l f) (runFn P A.ev callE f) lim := by
  intro a r h H Ban ws idss hBan hlimH hnd hdis hh
  obtain ⟨hlen, hidlt⟩ := hh.len
  unfold runF at h
  unfold runFn
  split at h
  · simp at h
  · rename_i fn hfn
    rw [hfn]
    simp only
    split at h
    · rename_i c hb hnt hname
      have hble : Nat.ble ws.length fn.ntmps = true := by rw [← hlen]; simpa using hnt
      rw [hb, hble, hname]
      simp only
      replace h := ob h; obtain ⟨⟨env, L0⟩, h1, h⟩ := h
      replace h := ob h; obtain ⟨L1, h1b, h⟩ := h
      simp only at h1b h
      let sE : S := { μ := fun _ => none, L := ⟨[], 0⟩, H := H, Ban := Ban, Old := fun _ _ => False, Lim := fun z => z ∈ idss.flatten, lim := lim, Kid := fun _ => none }
      have hlE : ∀ b B, lget sE.L b = some B → False := fun b B hB => by have := lget_lt hB; simp [sE] at this
      have hownE : ∀ z, Own sE z ↔ z ∈ idss.flatten := by
        intro z; constructor
        · rintro (⟨b, B, m, h1, _⟩ | h | ⟨p, hp⟩)
          · exact (hlE b B h1).elim
          · exact h
          · simp [sE] at hp
        · exact fun h => .inr (.inl h)
      have tE : StR sE := ⟨fun b B hB => (hlE b B hB).elim, fun b _ B _ _ _ hB => (hlE b B hB).elim, fun z hz => ⟨hBan z hz, fun ho => hdis z ((hownE z).1 ho) hz⟩, hlimH, fun b B _ hB => (hlE b B hB).elim, fun z hz => hidlt z hz, fun z p hp => by simp [sE] at hp, fun z p hp => by simp [sE] at hp⟩
      have hhE : HRs sE.N sE.H sE.lim ((A.sig f).params.map fun p => p.1.kd) (unT (A.sig f).ptys a) ws idss := hh.frame (fun z hz _ => ⟨⟨fun ho => hz.1 ((hownE z).1 ho), hz.2⟩, rfl⟩) (fun _ _ => rfl)
      obtain ⟨sF, lF, gF, kF, tF, heF, pbF, liF, cbF⟩ := inArgs_sim (s := sE) rfl tE hhE (fun z hz => hz) hnd h1
      rw [← lF] at h1b
      obtain ⟨s0, l0, g0', k0', t0, _, _⟩ := fillL_sim tF (by rw [kF.lim]; exact cbF) (fun z hz => liF z (tailsA_sub hz) (.inr hz)) (tailsA_nodup hnd) h1b
      rw [← l0] at h
      have g0 : s0.H = sE.H := g0'.trans gF
      have k0 : Keep sE s0 := kF.trans k0'
      have he0 := k0'.env heF
      have pb0 : PB s0 (A.sig f).params ws 0 := pbF.keep k0'
      have hg0 : s0.H = H := g0
      obtain ⟨QF, hQF⟩ : ∃ QF : Value × Heap → Prop, QF = fun q => ∃ rvs rids oids, q.1 = oneOf rvs ∧ H.length ≤ q.2.length ∧ (∀ z, z < H.length → z ∉ idss.flatten → hget q.2 z = hget H z) ∧
          (rids.flatten ++ oids.flatten).Nodup ∧ (∀ z ∈ rids.flatten ++ oids.flatten, z ∈ idss.flatten ∨ H.length ≤ z) ∧ (∀ z ∈ rids.flatten ++ oids.flatten, ¬ Ban z) ∧
          HRs (fun z => z ∉ rids.flatten ++ oids.flatten ∧ ¬ Ban z) q.2 lim ((A.sig f).results.map fun q => kdR q.1) ((unT (A.sig f).rtys r).take (A.sig f).results.length) rvs rids ∧
          HRs (fun z => z ∉ rids.flatten ++ oids.flatten ∧ ¬ Ban z) q.2 lim (outKd (A.sig f).params) ((unT (A.sig f).rtys r).drop (A.sig f).results.length) (outVs (A.sig f).params ws) oids := ⟨_, rfl⟩
      have := vcode_sim (γ := Value × Heap) (Q := QF)
        (hl.x _ lim fn.ntmps f) c 0 s0 env (argsEnv 0 ws) _
        (fun ex env H' => match ex with
          | .exit _ => none
          | _ => obind (evRes P env H' fn.results.toList) fun vs => obind (finish .keep H.length vs H') fun r => some (oneOf r.1, r.2)) k0.lim t0 he0
        (fun ex env' e' s1 k1 t1 he1 _ h => by
          have key : (obind (resV P env' s1.L fn.results.toList) fun vs => obind (outRes (A.sig f).results vs s1.L) fun r_1 => obind (outOuts (A.sig f).params 0 r_1.2) fun q => match liveRw q.2 (outIdx (A.sig f).params 0) with
              | true => mkT (A.sig f).rtys (r_1.1 ++ q.1)
              | false => none) = some r → ∃ y, (obind (evRes P e' s1.H fn.results.toList) fun vs => obind (finish .keep H.length vs s1.H) fun r => some (oneOf r.1, r.2)) = some y ∧ QF y := by
            intro h
            replace h := ob h; obtain ⟨pvs, h2, h⟩ := h
            replace h := ob h; obtain ⟨⟨rv, L2⟩, h3, h⟩ := h
            replace h := ob h; obtain ⟨⟨ov, L3⟩, h4, h⟩ := h
            simp only at h4 h
            split at h
            · rename_i hlv
              obtain ⟨rvs, e2, r2⟩ := resV_sim t1 he1 h2
              rw [e2]
              simp only [obind, finish]
              obtain ⟨s2, rids, a1, a2, a3, a4, a5, a6, a7, a8, a9, a10, a11⟩ := outRes_sim t1 r2 h3
              rw [← a1] at h4
              have pb2 : PB s2 (A.sig f).params ws 0 := pb0.keep (k1.trans a4)
              obtain ⟨s3, oids, b1, b2, b3, b4, b5, b6, b7, b8, b9⟩ := outOuts_sim a5 pb2 h4
              rw [← b1] at hlv
              have hlive := liveRw_get hlv
              have hk : Keep sE s3 := ((k0.trans k1).trans a4).trans b4
              have hH : s3.H = s1.H := b2.trans a2
              have hlim1 : s1.lim = lim := (k0.trans k1).lim
              have hlim2 : s2.lim = lim := a4.lim.trans hlim1
              have hLim3 : ∀ z ∈ rids.flatten, s3.Lim z := fun z hz => b6 z (a8 z hz)
              have hun := unT_mkT _ h
              have hOwn : ∀ z ∈ rids.flatten ++ oids.flatten, Own s3 z := by
                intro z hz
                rcases List.mem_append.1 hz with hz | hz
                · exact .inr (.inl (hLim3 z hz))
                · rcases b8 z hz with ⟨h, _⟩ | ⟨j, j1, m, j2, j3⟩
                  · exact .inr (.inl h)
                  · obtain ⟨B, q1, q2⟩ := hlive j j1
                    exact .inl ⟨j, B, m, q1, q2, j2, j3⟩
              have hN : ∀ z, s3.N z → z ∉ rids.flatten ++ oids.flatten ∧ ¬ Ban z := fun z hz =>
                ⟨fun hm => hz.1 (hOwn z hm), fun hb => hz.2 (by rw [hk.ban]; exact hb)⟩
              refine ⟨_, rfl, ?_⟩
              rw [hQF]
              refine ⟨rvs, rids, oids, rfl, ?_, ?_, ?_, ?_, ?_, ?_, ?_⟩
              · rw [← hH]; exact hk.len
              · intro z hz hni; rw [← hH]; exact hk.fr z hz (fun ho => hni ((hownE z).1 ho))
              · rw [List.nodup_append]
                refine ⟨a9, b9 hlive, fun x hx y hy e => ?_⟩
                subst e
                rcases b8 _ hy with ⟨_, h⟩ | ⟨j, j1, m, j2, rfl⟩
                · exact h (a8 _ hx)
                · obtain ⟨B, q1, q2⟩ := hlive j j1
                  exact b5.lm j B m q1 j2 (hLim3 _ hx)
              · intro z hz
                rcases hk.own z (hOwn z hz) with h | h
                · exact .inl ((hownE z).1 h)
                · exact .inr h
              · intro z hz hb
                have : s3.Ban z := by rw [hk.ban]; exact hb
                exact (b5.ban z this).2 (hOwn z hz)
              · rw [hun, List.take_append_of_le_length (by omega), List.take_of_length_le (by omega)]
                rw [hlim1] at a7
                exact a7.frame (fun z hz hlt => ⟨hN z (b4.N hlt hz), by rw [a2]⟩) (fun z _ => by rw [a2])
              · rw [hun, List.drop_append_of_le_length (by omega), List.drop_of_length_le (by omega), List.nil_append]
                rw [hlim2] at b7
                exact b7.frame (fun z hz hlt => ⟨hN z hz, by rw [hH]⟩) (fun z _ => by rw [hH])
            · simp at h
          cases ex with
          | exit id => simp at h
          | normal => exact key h
          | ret => exact key h) h
      obtain ⟨⟨v, H'⟩, y1, yQ⟩ := this
      rw [hQF] at yQ
      obtain ⟨rvs, rids, oids, y2, y3⟩ := yQ
      rw [hg0] at y1
      exact ⟨v, H', rvs, rids, oids, y1, y2, y3⟩
    · simp at h

theorem runI_ok {P : Program} {A : AnnV} {l : Lev A} {callE : FuncId → List Value → Nat → Heap → Option (Value × Heap)} (hl : LevOk P A l callE) (lim : Nat) (β : Type) (f : FuncId) {γ : Type} {args : List PV} {ws : List Value} {s : S} {KV : PV → LS → Option β} {KE : Value → Heap → Option γ} {r : β} {Q : γ → Prop} (hs : StR s) (hlim : s.lim = lim) (hr : All2 (ER s) args ws) (hK : KOk s r KV KE Q)
    (h : runI P A l β f args s.L KV = some r) : ∃ y, (obind (runFn P A.ev callE f ws lim s.H) fun q => KE q.1 q.2) = some y ∧ Q y := by
  have hlen := All2.length hr
  unfold runI at h
  unfold runFn
  split at h
  · simp at h
  · rename_i fn hfn
    rw [hfn]
    simp only
    split at h
    · rename_i c hb hnt hname
      rw [hb, ← hlen, hnt, hname]
      simp only
      have := vcode_sim (γ := Value × Heap) (Q := fun q => ∃ y, KE q.1 q.2 = some y ∧ Q y) (hl.x β lim fn.ntmps f) c 0 s (pargs 0 args) (argsEnv 0 ws) _
        (fun ex env H' => match ex with
          | .exit _ => none
          | _ => obind (evRes P env H' fn.results.toList) fun vs => obind (finish .keep s.H.length vs H') fun r => some (oneOf r.1, r.2)) hlim hs (pargs_env hr)
        (fun ex env' e' s1 k1 t1 he1 _ h => by
          have key : (obind (resV P env' s1.L fn.results.toList) fun vs => match vs.all notTup with
              | true => KV (onePV vs) s1.L
              | false => none) = some r → ∃ y, (obind (evRes P e' s1.H fn.results.toList) fun vs => obind (finish .keep s.H.length vs s1.H) fun r => some (oneOf r.1, r.2)) = some y ∧ ∃ z, KE y.1 y.2 = some z ∧ Q z := by
            intro h
            replace h := ob h; obtain ⟨pvs, h2, h⟩ := h
            split at h
            · rename_i hnt'
              obtain ⟨rvs, e2, r2⟩ := resV_sim t1 he1 h2
              rw [e2]
              simp only [obind, finish]
              exact ⟨_, rfl, hK _ _ s1 k1 t1 (onePV_ER r2 hnt') h⟩
            · simp at h
          cases ex with
          | exit id => simp at h
          | normal => exact key h
          | ret => exact key h) h
      obtain ⟨q, y1, z, y2, y3⟩ := this
      refine ⟨z, ?_, y3⟩
      have e2 : ∀ (x : Option (Value × Heap)), x = some q → (obind x fun q => KE q.1 q.2) = some z := fun x hx => by rw [hx]; exact y2
      exact e2 _ y1
    · simp at h

/-- What is given for functions outside: by value, and in the first interpreter. -/
structure ExtV (A : AnnV) : Prop where
  val : ∀ f v, A.vext f = some v → ∃ e, A.ext f = some e ∧ ∀ lim, FnOk (A.sig f) v e lim
  non : ∀ f, A.vext f = none → A.ext f = none
  inl : ∀ f, A.inline f = true → A.vext f = none

theorem ext_some {P : Program} {A : Ann} {d : Nat} {f : FuncId} {e : List Value → Nat → Heap → Option (Value × Heap)} (h : A.ext f = some e) : run P A (d + 1) f = e := by
  funext ws lim H; simp only [run, h]
theorem ext_none {P : Program} {A : Ann} {d : Nat} {f : FuncId} (h : A.ext f = none) : run P A (d + 1) f = runFn P A (run P A d) f := by
  funext ws lim H; simp only [run, h]

theorem lev_ok (P : Program) (A : AnnV) (hE : ExtV A) : ∀ d : Nat, LevOk P A (lev P A d) (run P A.ev d)
  | 0 => ⟨fun lim f hf a r h => by simp [lev] at h, fun lim β f hf γ args ws s KV KE r Q hs hlim hr hK h => by simp [lev] at h⟩
  | d + 1 => by
    have ih := lev_ok P A hE d
    refine ⟨fun lim f hf => ?_, fun lim β f hf γ args ws s KV KE r Q hs hlim hr hK h => ?_⟩
    · cases hv : A.vext f with
      | none =>
        rw [ext_none (A := A.ev) (hE.non f hv)]
        have e2 : (lev P A (d + 1)).call f = runF P A (lev P A d) f := by funext a; simp only [lev, hv]
        rw [e2]
        exact runF_ok ih lim f
      | some v =>
        obtain ⟨e, he, hok⟩ := hE.val f v hv
        rw [ext_some (A := A.ev) he]
        have e2 : (lev P A (d + 1)).call f = v := by funext a; simp only [lev, hv]
        rw [e2]
        exact hok lim
    · rw [ext_none (A := A.ev) (hE.non f (hE.inl f hf))]
      exact runI_ok ih lim β f hs hlim hr hK h

end Go.Pv
