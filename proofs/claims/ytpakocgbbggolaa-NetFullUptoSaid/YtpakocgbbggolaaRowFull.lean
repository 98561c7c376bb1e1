/- Proved: whatever is sent, dropped and doubled, NetFull answers true and leaves its arguments as they were, where they are of the bulk that the statement names. -/
import Derived.Test.YtpakocgbbggolaaNetFu
import Derived.Test.YtpakocgbbggolaaRowCommon
import Derived.JoinedCond
set_option linter.unusedSimpArgs false
set_option linter.unusedVariables false
namespace Go.Proofs.Ytpakocgbbggolaa
open Go.RowKit Go.Proofs.Cul Go.ChangeMaps Go.ChangeShapes Go.WideShapes Go.Deep Go.ChangeAt

theorem netFull_post (H : Type) (enc : TypeId × Value → H) (W : World) (base : Nat) (args : Array Value) (ds gs : List (DataW H)) (before : List MemPlace)
    (hval : ∀ (j : Nat) t v, Try.f4.params[j]? = some t → args[j]? = some v → Value.okWide Try.prog W .any base t v)
    (hW : DataW.Whole enc Try.prog Try.f4.params.toList Rows.netFullSpec.vars false W args.toList ds gs before) :
    Calls Try.prog 4 args W fun e W' => ∃ v, e = .returned v ∧ Rows.netFullSpec.post enc Try.prog Try.f4 false true false false W args v W' := by
  have hW' := hW
  obtain ⟨p, q, hA0, hV, rfl, hfz, hnd⟩ := hW
  have hA := hA0
  rw [Try.params4] at hA hval
  obtain ⟨v0, vs0, d0, ds0, p0, q0, hargs, rfl, rfl, h0, r0⟩ := trodAll_cons hA
  obtain ⟨v1, vs1, d1, ds1, p1, q1, rfl, rfl, rfl, h1, r1⟩ := trodAll_cons r0
  obtain ⟨v2, vs2, d2, ds2, p2, q2, rfl, rfl, rfl, h2, r2⟩ := trodAll_cons r1
  obtain ⟨v3, vs3, d3, ds3, p3, q3, rfl, rfl, rfl, h3, r3⟩ := trodAll_cons r2
  obtain ⟨rfl, rfl, rfl⟩ := trodAll_nil r3
  obtain rfl : args = #[v0, v1, v2, v3] := by cases args; simp_all
  obtain ⟨a0, rfl, rfl, rfl, wf0⟩ := open_int Try.underlying3 (hval 0 _ v0 rfl rfl) h0
  obtain ⟨n1, t1⟩ := slice_of Try.underlying26 (hval 1 _ v1 rfl rfl) h1; obtain ⟨A1, c1, xs1, rfl, hb1⟩ := open_bytes Try.underlying26 Try.underlying5 (by kernel_rfl) t1
  obtain ⟨n2, t2⟩ := slice_of Try.underlying31 (hval 2 _ v2 rfl rfl) h2; obtain ⟨zs, hz⟩ := open_ints' t2
  obtain ⟨a3, rfl, rfl, rfl, wf3⟩ := open_int Try.underlying3 (hval 3 _ v3 rfl rfl) h3
  refine (netFull_calls W a0 A1 c1 xs1 hb1 v2 zs hz a3 wf3).mono ?_
  rintro e W' ⟨rfl, hb⟩
  exact ⟨_, rfl, law_post (T := (· < Try.prog.types.size)) (tb := 4) kidsN hszN (by rw [Try.params4]; decide) rfl hW' rfl (by kernel_rfl) Try.underlying4 hb⟩

set_option maxRecDepth 100000 in
theorem netFull_lifted (os : Os) (started : os.Started) (H : Type) (enc : TypeId × Value → H) (F : Stop.Interp) :
    ReturnsInHanded {} Try.checked os 4 .any ((Rows.OpenSpec.upto Rows.netFullSpec).pre6 enc Try.prog Try.f4 Rows.netFullUptoRow.domain false) (((Rows.OpenSpec.upto Rows.netFullSpec).at F).post enc Try.prog Try.f4 false true false false) := by
  refine returnsInHanded_of_cond (C := Try.checked) (s := Rows.OpenSpec.upto Rows.netFullSpec) (k := Rows.uptoSmall) rfl ownKnobN started (by kernel_rfl) Try.func4
    (OpenSpec.witness (enc := enc) (C := Try.checked) (s := Rows.OpenSpec.upto Rows.netFullSpec) (k := Rows.uptoSmall) rfl false ⟨#[], #[.int .i64 0, .slice none 0 0, .slice none 0 0, .int .i64 0], []⟩ 8 (by kernel_rfl) (by kernel_rfl) (by kernel_rfl)
      (x := ([.lit (.int .i64 0), .nil, .nil, .lit (.int .i64 0)], [], [])) (by kernel_rfl) rfl (by kernel_rfl)) ?_
  intro W base args ds gs before hval hW _ hk _
  exact netFull_post H enc W base args ds gs before hval hW

theorem netFull_holds : Rows.NetFullUptoSaid :=
  OpenClaim.holds_of_cond 4 Try.f4 rfl rfl rfl rfl rfl rfl rfl ⟨rfl, rfl, rfl, rfl, rfl⟩ rfl rfl rfl rfl rfl (by kernel_rfl) Try.func4 (by kernel_rfl)
    (of_decide_eq_true (by kernel_rfl)) (by unfold Func.isWrapper; first | (rw [if_pos (by decide +kernel)]; kernel_rfl) | (rw [if_neg (by decide +kernel)]; exact ⟨rfl, rfl⟩))
    (fun os started H enc _ F => netFull_lifted os started H enc F)
end Go.Proofs.Ytpakocgbbggolaa
