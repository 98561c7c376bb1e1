import Derived.Test.YtpakocgbbggolaaNetZa
import Derived.Test.YtpakocgbbggolaaCulOpen
import Derived.JoinedCond
set_option linter.unusedSimpArgs false
set_option linter.unusedVariables false
namespace Go.Proofs.Ytpakocgbbggolaa
open Go.RowKit Go.Proofs.Cul Go.ChangeMaps Go.ChangeShapes Go.WideShapes Go.Deep

theorem ownKnobN : ownKnob Try.prog.godebug = none := by kernel_rfl
theorem kidsN : Kids Try.prog (· < Try.prog.types.size) := kids_rows (by kernel_rfl) (by kernel_rfl)
theorem slicePos : (Try.prog.types.toList.zipIdx.all fun x => match Try.prog.underlying x.2 with | some (.slice e) => decide (0 < Try.prog.cellsOf e) | _ => true) = true := by kernel_rfl
theorem hszN {t e : TypeId} (ht : t < Try.prog.types.size) (h : Try.prog.underlying t = some (.slice e)) : 0 < Try.prog.cellsOf e := by
  have h1 := List.all_eq_true.1 slicePos (Try.prog.types[t], t) (by
    rw [List.mem_zipIdx_iff_getElem?]
    simp [ht])
  simp only [h, decide_eq_true_eq] at h1
  exact h1

section
variable {H : Type} {enc : TypeId × Value → H} {w : World} {base : Nat} {spare : Nat → Bool} {held : Bool}
theorem open_ops {fuel : Nat} {v : Value} {x : DataW H × List MemPlace} (h : DataW.trod enc Try.prog w base spare held fuel 22 [v] = some x) :
    ∃ os, RO w (fun k => k < w.heap.size) v os ∧ ∀ o ∈ os, -9223372036854775808 ≤ o.no ∧ o.no ≤ 9223372036854775807 := by
  rcases open_fields Try.underlying22 Try.underlying28 (by kernel_rfl) (by kernel_rfl) h with ⟨h0, _⟩ | ⟨a, len, cap, m, hcs, hl, hm, hlm, hf⟩
  · simp only [List.cons.injEq, and_true] at h0
    subst h0
    exact ⟨[], RRow.nil _ _ _ _, fun o h => by simp at h⟩
  · simp only [List.cons.injEq, and_true] at hcs
    subst hcs
    obtain ⟨os, hlen, hr⟩ := RRow.of_cells (K := fun o cs => KO w (fun k => k < w.heap.size) o cs ∧ (-9223372036854775808 ≤ o.no ∧ o.no ≤ 9223372036854775807)) (sz := 7) (S := fun k => k < w.heap.size) (w := w) (a := a) (len := len) (cap := cap) (by decide) hl hm (fun k hk => hk) (fun i hi => by
      obtain ⟨n, hg⟩ := hf i (by omega)
      obtain ⟨v0, y0, c0, t0⟩ := hg 0 _ rfl
      obtain ⟨v1, y1, c1, t1⟩ := hg 1 _ rfl
      obtain ⟨v2, y2, c2, t2⟩ := hg 2 _ rfl
      obtain ⟨v3, y3, c3, t3⟩ := hg 3 _ rfl
      obtain ⟨v4, y4, c4, t4⟩ := hg 4 _ rfl
      obtain ⟨v5, y5, c5, t5⟩ := hg 5 _ rfl
      obtain ⟨v6, y6, c6, t6⟩ := hg 6 _ rfl
      obtain ⟨z0, e0, _⟩ := DataW.trod_int Try.underlying3 t0
      obtain ⟨z1, e1, _⟩ := DataW.trod_bool Try.underlying4 t1
      obtain ⟨z2, e2, _⟩ := DataW.trod_int Try.underlying3 t2
      obtain ⟨z3, e3, _, w3⟩ := DataW.trod_int Try.underlying3 t3
      obtain ⟨z4, e4, _⟩ := DataW.trod_int Try.underlying3 t4
      obtain ⟨z5, e5, _⟩ := DataW.trod_int Try.underlying3 t5
      obtain ⟨A, c, xs, e6, hb⟩ := open_bytes Try.underlying26 Try.underlying5 (by kernel_rfl) t6
      simp only [List.cons.injEq, and_true] at e0 e1 e2 e3 e4 e5
      subst e0 e1 e2 e3 e4 e5 e6
      refine ⟨⟨z0, z1, z2, z3, z4, z5, xs⟩, _, ⟨⟨_, rfl, hb⟩, by simpa [Lit.wf, IntKind.min, IntKind.max, IntKind.bits, IntKind.signed] using w3⟩, rfl, fun j u hu => ?_⟩
      match j, hu with
      | 0, hu => simp at hu; subst hu; exact c0
      | 1, hu => simp at hu; subst hu; exact c1
      | 2, hu => simp at hu; subst hu; exact c2
      | 3, hu => simp at hu; subst hu; exact c3
      | 4, hu => simp at hu; subst hu; exact c4
      | 5, hu => simp at hu; subst hu; exact c5
      | 6, hu => simp at hu; subst hu; exact c6
      | j + 7, hu => simp at hu)
    subst hlen
    refine ⟨os, RRow.move (by decide) hr (fun _ _ _ => rfl) (fun x cs _ h => h.1), fun o ho => ?_⟩
    obtain ⟨A, c, css, _, _, _, h4, h5, _⟩ := hr
    obtain ⟨i, hi⟩ := List.getElem?_of_mem ho
    have hil := (List.getElem?_eq_some_iff.1 hi).1
    exact (h5 i o _ hi (List.getElem?_eq_getElem (show i < css.length by omega))).1.2
end

theorem slice_of {H : Type} {enc : TypeId × Value → H} {P : Program} {w : World} {base b0 : Nat} {spare : Nat → Bool} {held : Bool} {r : Reach} {t e : TypeId} {v : Value} {d : DataW H} {ps : List MemPlace} (ht : P.underlying t = some (.slice e)) (hv : Value.okWide P w r b0 t v)
    (h : DataW.Trod enc P w base spare held t v d ps) : ∃ n, DataW.trod enc P w base spare held n t [v] = some (d, ps) := by
  obtain ⟨n, hn⟩ := h
  obtain ⟨A, l, c, rfl⟩ := okWide_slice ht hv
  exact ⟨n, hn⟩

end Go.Proofs.Ytpakocgbbggolaa
