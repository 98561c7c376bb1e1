import Derived.Test.YtpakocgbbggolaaRows
import Derived.Test.YtpakocgbbggolaaCulBase
import Derived.Deep.QuietTactic
import Derived.BigQuiet
import Derived.Deep.LoopGhost
import Derived.Lib.Hide
import Derived.Maps.AppendAt
set_option linter.unusedSimpArgs false
set_option linter.unusedVariables false
namespace Go.Proofs.Ytpakocgbbggolaa
open Go.RowKit Go.Proofs.Cul

def Drawn (w w' : World) : Prop := ∃ n, w' = w.drewN n
theorem Drawn.refl (w : World) : Drawn w w := ⟨0, rfl⟩
theorem Drawn.step {w w' : World} (h : Drawn w w') (n : Nat) : Drawn w (w'.drewN n) := by
  obtain ⟨m, rfl⟩ := h
  exact ⟨m + n, World.drewN_drewN ..⟩

theorem info5 : (Try.prog.info? 5).map (fun i => (i.zero, i.size, i.bytes)) = some (some (.int .u8 0), 1, 1) := by kernel_rfl
theorem size5 : ∃ i, Try.prog.info? 5 = some i ∧ i.size = 1 := by
  obtain ⟨i0, hi, hz0, hz1, hz2⟩ := info_parts info5
  exact ⟨i0, hi, hz1⟩

theorem idxB {w : World} {S : Nat → Prop} {v : Value} {xs : List Int} (h : RB w S v xs) (i : Int) (h0 : 0 ≤ i) (hi : i < xs.length) :
    ∃ p : Addr, (∀ W : World, (Instr.indexAt 26 v (.int .i64 i)).run Try.prog W = .ok (.pointer (some p)) W) ∧ S p.block ∧ p.block < w.heap.size ∧ w.cell? p = some (.int .u8 (rdI xs i.toNat)) := by
  obtain ⟨i0, hi0, hs⟩ := size5
  exact h.idx Try.underlying26 hi0 hs i h0 hi
theorem lenB {w : World} {S : Nat → Prop} {v : Value} {xs : List Int} (h : RB w S v xs) : ∀ (ty : TypeId) (W : World), (Builtin.len_ #[26] ty #[v]).run Try.prog W = .ok (.int .i64 xs.length) W :=
  h.len Try.underlying26

theorem sameBytes_calls (v1 v2 : Value) (xs ys : List Int) (w : World) (S1 S2 : Nat → Prop) (h1 : RB w S1 v1 xs) (h2 : RB w S2 v2 ys) :
    Calls Try.prog 36 #[v1, v2] w fun e w' => e = .returned (.bool (decide (xs = ys))) ∧ Drawn w w' := by
  have l1 := lenB h1
  have l2 := lenB h2
  have m1 := h1.le
  by_cases hn : xs.length = ys.length
  · have hd0 : ((xs.length : Int) != (ys.length : Int)) = false := by simp [hn]
    have HN := Lib.hid hn
    clear hn
    go_enter Try.func36, Try.ntmps36
    go_wp2
    go_loopw [5] (fun i wr => ∃ k : Nat, k ≤ xs.length ∧ i = .int .i64 k ∧ Hid (xs.take k = ys.take k) ∧ Drawn w wr) (fun i _ => xs.length - (intOf i).toNat)
    case atStart => exact ⟨0, Nat.zero_le _, rfl, by simp [Hid], Drawn.refl w⟩
    case round =>
      obtain ⟨k, hk, rfl, hkk, nd, rfl⟩ := hrel
      by_cases hlt : k < xs.length
      · have hlt2 : k < ys.length := by have := HN.out; omega
        obtain ⟨p1, hp1, _, _, hc1⟩ := idxB h1 k (by omega) (by omega)
        obtain ⟨p2, hp2, _, _, hc2⟩ := idxB h2 k (by omega) (by omega)
        rw [Int.toNat_natCast] at hc1 hc2
        go_wp2
        go_quiet (fail)
        go_wp2
        · have hne : (rdI xs k != rdI ys k) = true := by assumption
          go_ret
          refine ⟨?_, ⟨nd + nq, World.drewN_drewN ..⟩⟩
          rw [decide_eq_false (fun e => ?_)]; rfl
          subst e
          simp at hne
        · have heq : (rdI xs k != rdI ys k) = false := by assumption
          go_roundw
          case rel => exact ⟨k + 1, by omega, by go_num, (by
            unfold Hid
            have h9 : rdI xs k = rdI ys k := by simpa using heq
            rw [rdI_lt hlt, rdI_lt hlt2] at h9
            rw [List.take_succ_eq_append_getElem hlt, List.take_succ_eq_append_getElem hlt2, hkk.out, h9]), ⟨nd + nq, rfl⟩⟩
          case measure => simp [intOf]; omega
      · have : k = xs.length := by omega
        subst this
        go_wp2
        go_ret
        refine ⟨?_, ⟨nd, rfl⟩⟩
        rw [decide_eq_true]; rfl
        have h1 := hkk.out
        rw [List.take_of_length_le (Nat.le_refl _), List.take_of_length_le (by rw [HN.out]; exact Nat.le_refl _)] at h1
        exact h1
  · have hd0 : ((xs.length : Int) != (ys.length : Int)) = true := by simp; omega
    go_enter Try.func36, Try.ntmps36
    go_wp2
    go_ret
    exact ⟨by rw [decide_eq_false (fun e => hn (by rw [e]))]; rfl, Drawn.refl w⟩

theorem bytes_calls (v : Value) (xs : List Int) (w : World) (S : Nat → Prop) (h : RB w S v xs) (hb : xs.length ≤ 140737488355328) :
    Calls Try.prog 18 #[v] w fun e w' => ∃ v', e = .returned v' ∧ w'.ownsRow w.heap.size 5 1 v' xs.length (u8s xs) ∧ Below w.heap.size w w' ∧ (xs = [] → v' = .slice none 0 0) := by
  have l1 := lenB h
  have m1 := h.le
  obtain ⟨i0, hi, hz0, hz1, hz2⟩ := info_parts info5
  go_enter Try.func18, Try.ntmps18
  go_wp2
  go_loopw [3, 4] (fun v i wr => ∃ k : Nat, k ≤ xs.length ∧ i = .int .i64 k ∧ wr.ownsRow w.heap.size 5 1 v k (u8s (xs.take k)) ∧ Below w.heap.size w wr ∧ Hid (k = 0 → v = .slice none 0 0)) (fun _ i _ => xs.length - (intOf i).toNat)
  case atStart => exact ⟨0, Nat.zero_le _, rfl, World.ownsRow_nil _ _ _ _, Below.refl _ _, fun _ => rfl⟩
  case round =>
    obtain ⟨k, hk, rfl, hown, hbw, hnil⟩ := hrel
    by_cases hlt : k < xs.length
    · obtain ⟨p, hp, _, hpl, hc0⟩ := idxB h k (by omega) (by omega)
      rw [Int.toNat_natCast] at hc0
      have hc : wr.cell? p = some (.int .u8 (rdI xs k)) := (hbw.cell hpl).trans hc0
      have hsz := hbw.size
      clear hc0
      go_wp2_with (at_builtin; refine wpList_append_own _ rfl _ _ 26 rfl w.heap.size 5 i0 (.int .u8 0) 1 1 Try.underlying26 hi hz0 hz1 hz2 rfl (by decide) _ _ _ rfl (hown.alloc _) ⟨wr.heap.size, 0, none⟩ 1 1 [.int .u8 (rdI xs k)] rfl rfl ?c1 ?c2 ?c3 ?c4 ?c5 ?_)
      case c1 => exact cell_one_new _ _ _
      case c2 => simp [Value.oneCell']
      case c3 => unfold maxLen; omega
      case c4 => omega
      case c5 => simp; omega
      intro v' w1 hown' hgrow _
      have hbw' : Below w.heap.size w w1 := (hbw.alloc hsz _).grown hgrow (by simp; omega) (fun k hk => (hown.lt k hk).1)
      have hown2 : w1.ownsRow w.heap.size 5 1 v' (k + 1) (u8s (xs.take (k + 1))) := by
        rw [List.take_succ_eq_append_getElem hlt, u8s_snoc]
        rw [← rdI_lt hlt]
        exact hown'
      clear hown' hgrow
      go_wp2
      go_roundw
      case rel => exact ⟨k + 1, by omega, by go_num, hown2, hbw', fun h => absurd h (by omega)⟩
      case measure => simp [intOf]; omega
    · have : k = xs.length := by omega
      subst this
      rw [List.take_length] at hown
      go_wp2
      go_ret
      exact ⟨_, rfl, hown, hbw, fun h => hnil (by rw [h]; rfl)⟩
end Go.Proofs.Ytpakocgbbggolaa
