import Derived.Test.YtpakocgbbggolaaNetFc
import Derived.Deep.RegionHeld3
import Derived.Deep.RegionLaw
import Derived.Deep.DeepCutAuto
import Derived.Deep.CutRange
import Derived.Deep.DeepFit
set_option linter.unusedSimpArgs false
set_option linter.unusedVariables false
namespace Go.Proofs.Ytpakocgbbggolaa
open Go.RowKit Go.Proofs.Cul Go.ChangeMaps

abbrev EB (E : List (Fl × Value)) (hs : List Bool) : List (Fl × Bool) := (E.map (·.1)).zip hs
theorem EB_at {E : List (Fl × Value)} {hs : List Bool} {i : Nat} {f : Fl} {d : Value} {b : Bool} (h1 : E[i]? = some (f, d)) (h2 : hs[i]? = some b) : (EB E hs)[i]? = some (f, b) := by
  simp [EB, List.getElem?_zip_eq_some, h1, h2]
theorem EB_of {E : List (Fl × Value)} {hs : List Bool} {i : Nat} {f : Fl} {b : Bool} (h : (EB E hs)[i]? = some (f, b)) : (∃ d, E[i]? = some (f, d)) ∧ hs[i]? = some b := by
  simp only [EB, List.getElem?_zip_eq_some, List.getElem?_map, Option.map_eq_some_iff] at h
  obtain ⟨⟨⟨f', d⟩, h1, h2⟩, h3⟩ := h
  simp only at h2
  subst h2
  exact ⟨⟨d, h1⟩, h3⟩
theorem EB_len {E : List (Fl × Value)} {hs : List Bool} (h : E.length = hs.length) : (EB E hs).length = E.length := by simp [EB, h]
theorem EB_snoc {E : List (Fl × Value)} {hs : List Bool} (h : E.length = hs.length) (f : Fl) (d : Value) (b : Bool) : EB (E ++ [(f, d)]) (hs ++ [b]) = EB E hs ++ [(f, b)] := by
  simp only [EB, List.map_append, List.map_singleton]
  rw [List.zip_append (by simp [h])]
  rfl
theorem EB_setH {E : List (Fl × Value)} {hs : List Bool} {i : Nat} {f : Fl} {d : Value} (h : E[i]? = some (f, d)) (b : Bool) : EB E (hs.set i b) = (EB E hs).set i (f, b) := by
  apply List.ext_getElem?
  intro n
  rw [List.getElem?_set]
  by_cases hn : i = n
  · subst hn
    simp only [if_true]
    have hi := (List.getElem?_eq_some_iff.1 h).1
    by_cases hl : i < hs.length
    · have hz : i < (EB E hs).length := by simp [EB]; omega
      simp only [hz, if_true]
      simp [EB, List.getElem?_zip_eq_some, h, hl]
    · have hz : ¬ i < (EB E hs).length := by simp [EB]; omega
      simp only [hz, if_false]
      rw [List.getElem?_eq_none]
      simp
      omega
  · simp only [hn, if_false]
    simp only [EB, List.zip, List.getElem?_zipWith, List.getElem?_set, hn, if_false]
theorem EB_setD {E : List (Fl × Value)} {hs : List Bool} {i : Nat} {f f' : Fl} {d : Value} {b : Bool} (h : E[i]? = some (f, d)) (hb : hs[i]? = some b) : EB (E.set i (f', d)) hs = (EB E hs).set i (f', b) := by
  apply List.ext_getElem?
  intro n
  rw [List.getElem?_set]
  by_cases hn : i = n
  · subst hn
    simp only [if_true]
    have hi := (List.getElem?_eq_some_iff.1 h).1
    have hl := (List.getElem?_eq_some_iff.1 hb).1
    have hz : i < (EB E hs).length := by simp [EB]; omega
    simp only [hz, if_true]
    simp [EB, List.getElem?_zip_eq_some, hi, hb]
  · simp only [hn, if_false]
    simp only [EB, List.map_set, List.zip, List.getElem?_zipWith, List.getElem?_set, hn, if_false]

/-- What holds ahead of each step. -/
def Fates (B : Nat) (w2 : World) (g : Nat) (k : Nat) (L H : Value) (w : World) : Prop :=
  ∃ s E hs S, E.length = hs.length ∧ E.length ≤ k ∧ FM B w g s L H E hs S ∧ Ledger s (EB E hs) ∧ Good s k ∧ Below B w2 w
/-- The place that a number names. -/
theorem fates_at (no : Int) (hno : -9223372036854775808 ≤ no ∧ no ≤ 9223372036854775807) (E : List (Fl × Value)) (hs : List Bool) (hl : E.length = hs.length) (hE : E.length ≤ 1000) :
    ∃ (z : Int) (th : Bool), wrap64 (no - 1) = z ∧ ((th = true ∧ ∃ (i : Nat) (f : Fl) (d : Value), z = i ∧ no = (i : Int) + 1 ∧ E[i]? = some (f, d) ∧ hs[i]? = some true) ∨
      (th = false ∧ (∀ (i : Nat) (f : Fl), (EB E hs)[i]? = some (f, true) → (i : Int) + 1 ≠ no) ∧ (z < 0 ∨ (E.length : Int) ≤ z ∨ ∃ i : Nat, z = i ∧ i < E.length ∧ hs[i]? = some false))) := by
  by_cases h1 : 1 ≤ no ∧ no ≤ E.length
  · obtain ⟨i, hi⟩ : ∃ i : Nat, no = (i : Int) + 1 := ⟨(no - 1).toNat, by omega⟩
    have hz : wrap64 (no - 1) = i := by unfold wrap64; omega
    have hil : i < E.length := by omega
    have e1 : E[i]? = some E[i] := List.getElem?_eq_getElem hil
    have e2 : hs[i]? = some hs[i] := List.getElem?_eq_getElem (by omega)
    obtain ⟨b, hb⟩ : ∃ b, hs[i] = b := ⟨_, rfl⟩
    rw [hb] at e2
    cases b
    · refine ⟨i, false, hz, Or.inr ⟨rfl, fun j f hj e => ?_, Or.inr (Or.inr ⟨i, rfl, hil, e2⟩)⟩⟩
      have : j = i := by omega
      subst this
      have := (EB_of hj).2
      rw [e2] at this
      cases this
    · exact ⟨i, true, hz, Or.inl ⟨rfl, i, E[i].1, E[i].2, rfl, hi, e1, e2⟩⟩
  · refine ⟨_, false, rfl, Or.inr ⟨rfl, fun j f hj e => ?_, ?_⟩⟩
    · have := (List.getElem?_eq_some_iff.1 hj).1
      rw [EB_len hl] at this
      omega
    · unfold wrap64
      rcases Int.lt_or_le no 1 with h | h
      · rcases Int.lt_or_le (-9223372036854775808) no with h2 | h2
        · left; omega
        · right; left; omega
      · right; left; omega

theorem led_send {s : St} {E : List (Fl × Value)} {hs : List Bool} (led : Ledger s (EB E hs)) (hEl : E.length = hs.length) (hl : E.length < 1024) (to_ : Int) (xs : List Int) (hx : xs.length ≤ 4096) :
    (s.send to_ xs).1 = (E.length : Int) + 1 ∧ ∀ d, Ledger (s.send to_ xs).2 (EB (E ++ [(⟨(E.length : Int) + 1, to_, xs⟩, d)]) (hs ++ [true])) := by
  have h := led.send (by rw [EB_len hEl]; exact hl) to_ xs hx
  rw [EB_len hEl] at h
  refine ⟨by rw [h.1], fun d => ?_⟩
  rw [EB_snoc hEl]
  exact h.2

def firstLoop : Code → Option Code
  | .loop c => some c
  | .seq a b => match firstLoop a with
    | some c => some c
    | none => firstLoop b
  | .block _ c => firstLoop c
  | .scope c => firstLoop c
  | .cond _ a b => match firstLoop a with
    | some c => some c
    | none => firstLoop b
  | _ => none
noncomputable def fatesBody : Code := ((Try.f6.body.bind firstLoop).getD .skip)
end Go.Proofs.Ytpakocgbbggolaa
