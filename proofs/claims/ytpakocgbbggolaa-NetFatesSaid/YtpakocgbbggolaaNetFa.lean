import Derived.Test.YtpakocgbbggolaaNetFrK1
import Derived.Test.YtpakocgbbggolaaNetFrK4
import Derived.Test.YtpakocgbbggolaaNetFrK5
import Derived.Test.YtpakocgbbggolaaNetFrK3
import Derived.Test.YtpakocgbbggolaaNetFrK2
import Derived.Test.YtpakocgbbggolaaNetFrKO
import Derived.Deep.RegionHeld3
import Derived.Deep.RegionLaw
import Derived.Deep.DeepCutAuto
import Derived.Deep.CutRange
import Derived.Deep.DeepFit
set_option linter.unusedSimpArgs false
set_option linter.unusedVariables false
namespace Go.Proofs.Ytpakocgbbggolaa
open Go.RowKit Go.Proofs.Cul Go.ChangeMaps

set_option maxHeartbeats 40000000 in
set_option maxRecDepth 100000 in
theorem netFates_calls (w : World) (v : Value) (os : List Opx) (h : RO w (fun k => k < w.heap.size) v os) (hno : ∀ o ∈ os, -9223372036854775808 ≤ o.no ∧ o.no ≤ 9223372036854775807) :
    Calls Try.prog 6 #[v] w fun e w' => e = .returned (.bool true) ∧ Below w.heap.size w w' := by
  have hk := known_calls w
  have lo := lenO h
  have hle := RRow.le h
  have hnum := num_calls
  have HO := Lib.hid (And.intro h hno)
  clear h hno
  go_enter Try.func6, Try.ntmps6
  go_wp2_with fail
  refine hk.mono ?_
  clear hk
  rintro e w0 ⟨rfl, hb0⟩
  have hc := netNew_calls w0
  have HB := Lib.hid hb0
  clear hb0
  go_wp2_with fail
  refine hc.mono ?_
  clear hc
  rintro e w2 ⟨rfl, hn2, hb2, hz2⟩
  have hf0 : Fates w0.heap.size w2 (w0.heap.size + 1) 0 (.slice none 0 0) (.slice none 0 0) w2 :=
    ⟨St.new, [], [], _, rfl, Nat.le_refl _, ⟨hn2, fun k hk => ⟨by rcases hk with rfl | rfl <;> omega, by rcases hk with rfl | rfl <;> omega, fun e => by
      rcases e with e | e | ⟨x, hx, _⟩
      · simp [Value.ownBlock] at e
      · simp [Value.ownBlock] at e
      · simp at hx⟩, World.ownsRow_nil _ _ _ _, World.ownsRow_nil _ _ _ _, fun e he => by simp at he, List.Pairwise.nil, by omega⟩, ledger_new, good_new, Below.refl _ _⟩
  have HB2 := Lib.hid hb2
  have hgs : w0.heap.size ≤ w2.heap.size := by omega
  clear hn2 hb2 hz2
  go_wp2_with fail
  go_loopw [4, 5, 6] (fun L H i wr => ∃ k : Nat, k ≤ os.length ∧ k ≤ 1000 ∧ i = .int .i64 k ∧ Fates w0.heap.size w2 (w0.heap.size + 1) k L H wr) (fun _ _ i _ => os.length - (intOf i).toNat)
  case atStart => exact ⟨0, Nat.zero_le _, by omega, rfl, hf0⟩
  case round =>
    obtain ⟨k, hk, hk3', rfl, s, E, hs, S, hEl, hEk, fm, led, hg, hbr⟩ := hrel
    by_cases hlt : k < os.length
    · by_cases h3 : k < 1000
      · 
        by_cases hk1 : os[k].kind = 1
        · exact fates_K1 w w0 w2 wr v os lo hle hnum HO HB HB2 hgs k hlt h3 hk1 _ _ _ _ _ _ _ _ _ _ _ _ _ _ _ _ _ _ _ _ _ _ _ _ _ _ _ _ _ _ _ _ _ _ _ _ _ _ _ _ _ _ _ _ _ _ _ _ _ _ _ _ _ _ _ _ _ _ _ _ _ _ _ _ _ _ _ _ _ _ _ _ _ _ _ _ _ _ _ _ _ _ _ _ _ _ _ _ _ _ _ _ _ _ _ _ _ _ _ _ _ _ _ _ _ _ _ _ _ _ _ _ _ _ _ _ _ _ _ _ _ _ _ _ _ _ _ _ _ _ _ _ _ _ _ _ _ _ _ _ _ _ _ _ _ _ _ _ _ _ _ _ _ _ _ _ _ _ _ _ _ _ _ _ _ _ _ _ _ _ _ _ _ _ _ _ _ _ _ _ _ _ _ _ _ _ _ _ _ _ _ _ _ _ _ _ _ _ _ _ _ s E hs S hEl hEk fm led hg hbr
        by_cases hk4 : os[k].kind = 4
        · exact fates_K4 w w0 w2 wr v os lo hle hnum HO HB HB2 hgs k hlt h3 hk1 hk4 _ _ _ _ _ _ _ _ _ _ _ _ _ _ _ _ _ _ _ _ _ _ _ _ _ _ _ _ _ _ _ _ _ _ _ _ _ _ _ _ _ _ _ _ _ _ _ _ _ _ _ _ _ _ _ _ _ _ _ _ _ _ _ _ _ _ _ _ _ _ _ _ _ _ _ _ _ _ _ _ _ _ _ _ _ _ _ _ _ _ _ _ _ _ _ _ _ _ _ _ _ _ _ _ _ _ _ _ _ _ _ _ _ _ _ _ _ _ _ _ _ _ _ _ _ _ _ _ _ _ _ _ _ _ _ _ _ _ _ _ _ _ _ _ _ _ _ _ _ _ _ _ _ _ _ _ _ _ _ _ _ _ _ _ _ _ _ _ _ _ _ _ _ _ _ _ _ _ _ _ _ _ _ _ _ _ _ _ _ _ _ _ _ _ _ _ _ _ _ _ _ s E hs S hEl hEk fm led hg hbr
        by_cases hk5 : os[k].kind = 5
        · exact fates_K5 w w0 w2 wr v os lo hle hnum HO HB HB2 hgs k hlt h3 hk1 hk4 hk5 _ _ _ _ _ _ _ _ _ _ _ _ _ _ _ _ _ _ _ _ _ _ _ _ _ _ _ _ _ _ _ _ _ _ _ _ _ _ _ _ _ _ _ _ _ _ _ _ _ _ _ _ _ _ _ _ _ _ _ _ _ _ _ _ _ _ _ _ _ _ _ _ _ _ _ _ _ _ _ _ _ _ _ _ _ _ _ _ _ _ _ _ _ _ _ _ _ _ _ _ _ _ _ _ _ _ _ _ _ _ _ _ _ _ _ _ _ _ _ _ _ _ _ _ _ _ _ _ _ _ _ _ _ _ _ _ _ _ _ _ _ _ _ _ _ _ _ _ _ _ _ _ _ _ _ _ _ _ _ _ _ _ _ _ _ _ _ _ _ _ _ _ _ _ _ _ _ _ _ _ _ _ _ _ _ _ _ _ _ _ _ _ _ _ _ _ _ _ _ _ _ s E hs S hEl hEk fm led hg hbr
        by_cases hk3 : os[k].kind = 3
        · exact fates_K3 w w0 w2 wr v os lo hle hnum HO HB HB2 hgs k hlt h3 hk1 hk4 hk5 hk3 _ _ _ _ _ _ _ _ _ _ _ _ _ _ _ _ _ _ _ _ _ _ _ _ _ _ _ _ _ _ _ _ _ _ _ _ _ _ _ _ _ _ _ _ _ _ _ _ _ _ _ _ _ _ _ _ _ _ _ _ _ _ _ _ _ _ _ _ _ _ _ _ _ _ _ _ _ _ _ _ _ _ _ _ _ _ _ _ _ _ _ _ _ _ _ _ _ _ _ _ _ _ _ _ _ _ _ _ _ _ _ _ _ _ _ _ _ _ _ _ _ _ _ _ _ _ _ _ _ _ _ _ _ _ _ _ _ _ _ _ _ _ _ _ _ _ _ _ _ _ _ _ _ _ _ _ _ _ _ _ _ _ _ _ _ _ _ _ _ _ _ _ _ _ _ _ _ _ _ _ _ _ _ _ _ _ _ _ _ _ _ _ _ _ _ _ _ _ _ _ _ s E hs S hEl hEk fm led hg hbr
        by_cases hk2 : os[k].kind = 2
        · exact fates_K2 w w0 w2 wr v os lo hle hnum HO HB HB2 hgs k hlt h3 hk1 hk4 hk5 hk3 hk2 _ _ _ _ _ _ _ _ _ _ _ _ _ _ _ _ _ _ _ _ _ _ _ _ _ _ _ _ _ _ _ _ _ _ _ _ _ _ _ _ _ _ _ _ _ _ _ _ _ _ _ _ _ _ _ _ _ _ _ _ _ _ _ _ _ _ _ _ _ _ _ _ _ _ _ _ _ _ _ _ _ _ _ _ _ _ _ _ _ _ _ _ _ _ _ _ _ _ _ _ _ _ _ _ _ _ _ _ _ _ _ _ _ _ _ _ _ _ _ _ _ _ _ _ _ _ _ _ _ _ _ _ _ _ _ _ _ _ _ _ _ _ _ _ _ _ _ _ _ _ _ _ _ _ _ _ _ _ _ _ _ _ _ _ _ _ _ _ _ _ _ _ _ _ _ _ _ _ _ _ _ _ _ _ _ _ _ _ _ _ _ _ _ _ _ _ _ _ _ _ _ s E hs S hEl hEk fm led hg hbr
        exact fates_KO w w0 w2 wr v os lo hle hnum HO HB HB2 hgs k hlt h3 hk1 hk4 hk5 hk3 hk2 _ _ _ _ _ _ _ _ _ _ _ _ _ _ _ _ _ _ _ _ _ _ _ _ _ _ _ _ _ _ _ _ _ _ _ _ _ _ _ _ _ _ _ _ _ _ _ _ _ _ _ _ _ _ _ _ _ _ _ _ _ _ _ _ _ _ _ _ _ _ _ _ _ _ _ _ _ _ _ _ _ _ _ _ _ _ _ _ _ _ _ _ _ _ _ _ _ _ _ _ _ _ _ _ _ _ _ _ _ _ _ _ _ _ _ _ _ _ _ _ _ _ _ _ _ _ _ _ _ _ _ _ _ _ _ _ _ _ _ _ _ _ _ _ _ _ _ _ _ _ _ _ _ _ _ _ _ _ _ _ _ _ _ _ _ _ _ _ _ _ _ _ _ _ _ _ _ _ _ _ _ _ _ _ _ _ _ _ _ _ _ _ _ _ _ _ _ _ _ _ _ s E hs S hEl hEk fm led hg hbr
      · have b0 : decide ((k : Int) < (os.length : Int)) = true := by simp; omega
        have b1 : decide ((k : Int) < 1000) = false := by simp; omega
        have hc := counted_calls fm (hEl) (by omega) hg (by omega) (led.fl)
        have HF := Lib.hid (And.intro fm hbr)
        clear fm led hg hbr hf0
        go_wp2_with fail
        refine hc.mono ?_
        clear hc
        rintro e w5 ⟨rfl, hb5⟩
        have HB5 := Lib.hid hb5
        clear hb5
        go_wp2_with fail
        go_ret
        have z1 := HB.out.size
        exact ⟨rfl, ((HB.out.trans (HB2.out.mono z1)).trans (HF.out.2.mono z1)).trans (HB5.out.mono (by have := HF.out.1.hB; omega))⟩
    · have b1 : decide ((k : Int) < (os.length : Int)) = false := by simp; omega
      have hc := counted_calls fm (hEl) (by omega) hg (by omega) (led.fl)
      have HF := Lib.hid (And.intro fm hbr)
      clear fm led hg hbr hf0
      go_wp2_with fail
      refine hc.mono ?_
      clear hc
      rintro e w5 ⟨rfl, hb5⟩
      have HB5 := Lib.hid hb5
      clear hb5
      go_wp2_with fail
      go_ret
      have z1 := HB.out.size
      exact ⟨rfl, ((HB.out.trans (HB2.out.mono z1)).trans (HF.out.2.mono z1)).trans (HB5.out.mono (by have := HF.out.1.hB; omega))⟩
end Go.Proofs.Ytpakocgbbggolaa
