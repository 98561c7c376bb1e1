import Derived.Test.YtpakocgbbggolaaNetH
import Derived.Test.YtpakocgbbggolaaCulMap
import Derived.WalkSpells
set_option linter.unusedSimpArgs false
set_option linter.unusedVariables false
namespace Go.Proofs.Ytpakocgbbggolaa
open Go.RowKit Go.Proofs.Cul

set_option maxRecDepth 100000 in
/-- slices.Clone of bytes. -/
theorem clone_calls (v : Value) (xs : List Int) (w : World) (S : Nat → Prop) (h : RB w S v xs) (hb : xs.length ≤ 1048576) :
    Calls Try.prog 33 #[v] w fun e w' => ∃ v', e = .returned v' ∧ w'.ownsRow w.heap.size 5 1 v' xs.length (u8s xs) ∧ Below w.heap.size w w' := by
  have hs := Src.rb h
  obtain ⟨A, c, rfl, hl, hm, hB, hA⟩ := h
  cases A with
  | none =>
    have hx : xs = [] := by
      by_cases e : xs = []
      · exact e
      · obtain ⟨ad, h, _⟩ := hA e
        cases h
    subst hx
    have hnil := fun (W : World) (a : Option Addr) (l c : Nat) => Lib.run_eql_slice_nil (P := Try.prog) W 26 5 a l c 0 0 Try.underlying26
    go_enter Try.func33, Try.ntmps33
    go_wp2
    go_ret
    exact ⟨_, rfl, World.ownsRow_nil _ _ _ _, Below.refl _ _⟩
  | some ad =>
    have hnil := fun (W : World) (a : Option Addr) (l c : Nat) => Lib.run_eql_slice_nil (P := Try.prog) W 26 5 a l c 0 0 Try.underlying26
    go_enter Try.func33, Try.ntmps33
    have b1 : Below w.heap.size w (w.alloc (.cells #[] 5)) := (Below.refl _ _).alloc (Nat.le_refl _) _
    have s1 := hs.below (by decide) b1
    go_wp2_with (at_builtin; refine wpList_append_src rfl _ _ rowT5 rfl rfl (World.ownsRow_made w #[] 0 (Nat.le_refl _) (Nat.zero_le _) rfl) rfl s1 ?c4 ?c3 (by simp) ?_)
    case c3 => unfold maxLen; omega
    case c4 => omega
    intro v' w1 ho1 hg1 _ _
    have b2 : Below w.heap.size w w1 := b1.grown hg1 (by simp) (fun k hk => by simp [Value.ownBlock] at hk; omega)
    go_wp2
    go_ret
    exact ⟨_, rfl, ho1, b2⟩
end Go.Proofs.Ytpakocgbbggolaa
