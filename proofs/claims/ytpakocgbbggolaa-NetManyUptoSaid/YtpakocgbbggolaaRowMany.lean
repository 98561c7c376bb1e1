/- Proved: whatever script of calls the twenty nets are given, NetMany answers true and leaves its arguments as they were, where they are of the bulk that the statement names. -/
import Derived.Test.YtpakocgbbggolaaNetMa
import Derived.Test.YtpakocgbbggolaaRowCommon
import Derived.JoinedCond
set_option linter.unusedSimpArgs false
set_option linter.unusedVariables false
namespace Go.Proofs.Ytpakocgbbggolaa
open Go.RowKit Go.Proofs.Cul Go.ChangeMaps Go.ChangeShapes Go.WideShapes Go.Deep Go.ChangeAt

theorem netMany_post (H : Type) (enc : TypeId × Value → H) (W : World) (base : Nat) (args : Array Value) (ds gs : List (DataW H)) (before : List MemPlace)
    (hval : ∀ (j : Nat) t v, Try.f5.params[j]? = some t → args[j]? = some v → Value.okWide Try.prog W .any base t v)
    (hW : DataW.Whole enc Try.prog Try.f5.params.toList Rows.netManySpec.vars false W args.toList ds gs before) :
    Calls Try.prog 5 args W fun e W' => ∃ v, e = .returned v ∧ Rows.netManySpec.post enc Try.prog Try.f5 false true false false W args v W' := by
  have hW' := hW
  obtain ⟨p, q, hA0, hV, rfl, hfz, hnd⟩ := hW
  have hA := hA0
  rw [Try.params5] at hA hval
  obtain ⟨v0, vs0, d0, ds0, p0, q0, hargs, rfl, rfl, h0, r0⟩ := trodAll_cons hA
  obtain ⟨rfl, rfl, rfl⟩ := trodAll_nil r0
  obtain rfl : args = #[v0] := by cases args; simp_all
  obtain ⟨n0, t0⟩ := slice_of Try.underlying22 (hval 0 _ v0 rfl rfl) h0; obtain ⟨os, ho⟩ := open_ops t0
  refine (netMany_calls W v0 os ho).mono ?_
  rintro e W' ⟨rfl, hb⟩
  exact ⟨_, rfl, law_post (T := (· < Try.prog.types.size)) (tb := 4) kidsN hszN (by rw [Try.params5]; decide) rfl hW' rfl (by kernel_rfl) Try.underlying4 hb⟩

set_option maxRecDepth 100000 in
theorem netMany_lifted (os : Os) (started : os.Started) (H : Type) (enc : TypeId × Value → H) (F : Stop.Interp) :
    ReturnsInHanded {} Try.checked os 5 .any ((Rows.OpenSpec.upto Rows.netManySpec).pre6 enc Try.prog Try.f5 Rows.netManyUptoRow.domain false) (((Rows.OpenSpec.upto Rows.netManySpec).at F).post enc Try.prog Try.f5 false true false false) := by
  refine returnsInHanded_of_cond (C := Try.checked) (s := Rows.OpenSpec.upto Rows.netManySpec) (k := Rows.uptoSmall) rfl ownKnobN started (by kernel_rfl) Try.func5
    (OpenSpec.witness (enc := enc) (C := Try.checked) (s := Rows.OpenSpec.upto Rows.netManySpec) (k := Rows.uptoSmall) rfl false ⟨#[], #[.slice none 0 0], []⟩ 8 (by kernel_rfl) (by kernel_rfl) (by kernel_rfl)
      (x := ([.nil], [], [])) (by kernel_rfl) rfl (by kernel_rfl)) ?_
  intro W base args ds gs before hval hW _ hk _
  exact netMany_post H enc W base args ds gs before hval hW

theorem netMany_holds : Rows.NetManyUptoSaid :=
  OpenClaim.holds_of_cond 5 Try.f5 rfl rfl rfl rfl rfl rfl rfl ⟨rfl, rfl, rfl, rfl, rfl⟩ rfl rfl rfl rfl rfl (by kernel_rfl) Try.func5 (by kernel_rfl)
    (of_decide_eq_true (by kernel_rfl)) (by unfold Func.isWrapper; first | (rw [if_pos (by decide +kernel)]; kernel_rfl) | (rw [if_neg (by decide +kernel)]; exact ⟨rfl, rfl⟩))
    (fun os started H enc _ F => netMany_lifted os started H enc F)
end Go.Proofs.Ytpakocgbbggolaa
