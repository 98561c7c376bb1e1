import Derived.Test.YtpakocgbbggolaaNetPlain
set_option linter.unusedSimpArgs false
set_option linter.unusedVariables false
namespace Go.Proofs.Cul

/-! ### A book of all that was ever under way. -/
theorem find_append {no : Int} : ∀ {l r : List Fl}, (∀ f ∈ l, f.no ≠ no) → find no (l ++ r) = find no r
  | [], _, _ => rfl
  | f :: l, r, h => by
    have h0 : ¬ no = f.no := fun e => h f List.mem_cons_self e.symm
    simp only [List.cons_append, find, if_neg h0]
    exact find_append (fun g hg => h g (List.mem_cons_of_mem _ hg))
theorem strike_append {no : Int} : ∀ {l r : List Fl}, (∀ f ∈ l, f.no ≠ no) → strike no (l ++ r) = l ++ strike no r
  | [], _, _ => rfl
  | f :: l, r, h => by
    have h0 : ¬ no = f.no := fun e => h f List.mem_cons_self e.symm
    simp only [List.cons_append, strike, if_neg h0]
    rw [strike_append (fun g hg => h g (List.mem_cons_of_mem _ hg))]
theorem alter_append {no : Int} {d : List Int} : ∀ {l r : List Fl}, (∀ f ∈ l, f.no ≠ no) → alter no d (l ++ r) = l ++ alter no d r
  | [], _, _ => rfl
  | f :: l, r, h => by
    have h0 : ¬ no = f.no := fun e => h f List.mem_cons_self e.symm
    simp only [List.cons_append, alter, if_neg h0]
    rw [alter_append (fun g hg => h g (List.mem_cons_of_mem _ hg))]

/-- Those of the book that are here. -/
def hereOf : List (Fl × Bool) → List Fl
  | [] => []
  | (f, b) :: r => if b then f :: hereOf r else hereOf r
theorem hereOf_append : ∀ l r : List (Fl × Bool), hereOf (l ++ r) = hereOf l ++ hereOf r
  | [], _ => rfl
  | (f, b) :: l, r => by cases b <;> simp [hereOf, hereOf_append l r]
theorem hereOf_mem : ∀ {l : List (Fl × Bool)} {f : Fl}, f ∈ hereOf l → (f, true) ∈ l
  | [], _, h => by simp [hereOf] at h
  | (g, b) :: l, f, h => by
    cases b
    · simp only [hereOf, Bool.false_eq_true, if_false] at h
      exact List.mem_cons_of_mem _ (hereOf_mem h)
    · simp only [hereOf, if_true, List.mem_cons] at h
      rcases h with rfl | h
      · exact List.mem_cons_self
      · exact List.mem_cons_of_mem _ (hereOf_mem h)
theorem hereOf_len : ∀ l : List (Fl × Bool), (hereOf l).length ≤ l.length
  | [] => Nat.le_refl _
  | (f, b) :: l => by
    have := hereOf_len l
    cases b <;> simp [hereOf] <;> omega
structure Ledger (s : St) (E : List (Fl × Bool)) : Prop where
  giv : s.given = E.length
  nos : ∀ (i : Nat) (e : Fl × Bool), E[i]? = some e → e.1.no = (i : Int) + 1
  fl : s.fl = hereOf E
  len : ∀ e ∈ E, e.1.data.length ≤ 4096
theorem ledger_new : Ledger St.new [] := ⟨rfl, fun i e h => by simp at h, rfl, fun e h => by simp at h⟩
theorem getD_of {α : Type} {l : List α} {i : Nat} {x d : α} (h : l[i]? = some x) : l.getD i d = x := by simp [List.getD, h]
/-- The entry at a place: what is ahead of it and behind it has other numbers. -/
theorem Ledger.split {s : St} {E : List (Fl × Bool)} (h : Ledger s E) {i : Nat} {e : Fl × Bool} (he : E[i]? = some e) :
    ∃ E1 E2, E = E1 ++ e :: E2 ∧ E1.length = i ∧ (∀ f ∈ hereOf E1, f.no ≠ e.1.no) ∧ (∀ f ∈ hereOf E2, f.no ≠ e.1.no) := by
  have hi := (List.getElem?_eq_some_iff.1 he).1
  have hE : E = E.take i ++ e :: E.drop (i + 1) := by
    have := (List.getElem?_eq_some_iff.1 he).2
    rw [← this, ← List.drop_eq_getElem_cons hi, List.take_append_drop]
  refine ⟨E.take i, E.drop (i + 1), hE, by simp; omega, fun f hf => ?_, fun f hf => ?_⟩
  · obtain ⟨j, hj⟩ := List.getElem?_of_mem (hereOf_mem hf)
    have hjl := (List.getElem?_eq_some_iff.1 hj).1
    simp at hjl
    rw [List.getElem?_take_of_lt (by omega)] at hj
    have h1 := h.nos j _ hj
    have h2 := h.nos i _ he
    simp only at h1
    omega
  · obtain ⟨j, hj⟩ := List.getElem?_of_mem (hereOf_mem hf)
    rw [List.getElem?_drop] at hj
    have h1 := h.nos _ _ hj
    have h2 := h.nos i _ he
    simp only at h1
    omega
/-- Is the number here? -/
def isHere (E : List (Fl × Bool)) (no : Int) : Bool := decide (1 ≤ no ∧ no ≤ E.length) && (E[(no - 1).toNat]?.map (·.2)).getD false
theorem Ledger.find_here {s : St} {E : List (Fl × Bool)} (h : Ledger s E) {i : Nat} {f : Fl} (he : E[i]? = some (f, true)) : find ((i : Int) + 1) s.fl = some f := by
  obtain ⟨E1, E2, hE, hl, h1, h2⟩ := h.split he
  have hn := h.nos i _ he
  simp only at hn h1
  rw [h.fl, hE, hereOf_append, find_append (fun g hg => by rw [← hn]; exact h1 g hg)]
  simp [hereOf, find, hn]
theorem find_not {no : Int} : ∀ {l : List Fl}, (∀ f ∈ l, f.no ≠ no) → find no l = none
  | [], _ => rfl
  | f :: l, h => by
    have h0 : ¬ no = f.no := fun e => h f List.mem_cons_self e.symm
    simp only [find, if_neg h0]
    exact find_not (fun g hg => h g (List.mem_cons_of_mem _ hg))
theorem Ledger.find_gone {s : St} {E : List (Fl × Bool)} (h : Ledger s E) {no : Int} (hn : ∀ (i : Nat) (f : Fl), E[i]? = some (f, true) → (i : Int) + 1 ≠ no) : find no s.fl = none := by
  rw [h.fl]
  refine find_not (fun f hf => ?_)
  obtain ⟨j, hj⟩ := List.getElem?_of_mem (hereOf_mem hf)
  have h1 := h.nos j _ hj
  simp only at h1
  rw [h1]
  exact hn j f hj
theorem Ledger.send {s : St} {E : List (Fl × Bool)} (h : Ledger s E) (hl : E.length < 1024) (to_ : Int) (xs : List Int) (hx : xs.length ≤ 4096) :
    s.send to_ xs = ((E.length : Int) + 1, ⟨(E.length : Int) + 1, s.fl ++ [⟨(E.length : Int) + 1, to_, xs⟩]⟩) ∧ Ledger (s.send to_ xs).2 (E ++ [(⟨(E.length : Int) + 1, to_, xs⟩, true)]) := by
  have hfl : ¬ 1024 ≤ s.fl.length := by rw [h.fl]; have := hereOf_len E; omega
  have e : s.send to_ xs = ((E.length : Int) + 1, ⟨(E.length : Int) + 1, s.fl ++ [⟨(E.length : Int) + 1, to_, xs⟩]⟩) := by
    unfold St.send
    rw [if_neg hfl, h.giv]
  refine ⟨e, ?_⟩
  rw [e]
  refine ⟨by simp, fun i x hx' => ?_, by simp [hereOf_append, hereOf, h.fl], fun x hx' => ?_⟩
  · by_cases hi : i < E.length
    · rw [List.getElem?_append_left hi] at hx'
      exact h.nos i x hx'
    · have hi' := (List.getElem?_eq_some_iff.1 hx').1
      simp at hi'
      have : i = E.length := by omega
      subst this
      simp at hx'
      subst hx'
      rfl
  · rcases List.mem_append.1 hx' with h1 | h1
    · exact h.len x h1
    · simp at h1
      subst h1
      exact hx
theorem set_split {α : Type} {E E1 E2 : List α} {e x : α} {i : Nat} (hE : E = E1 ++ e :: E2) (hl : E1.length = i) : E.set i x = E1 ++ x :: E2 := by
  subst hE hl
  simp
theorem Ledger.take {s : St} {E : List (Fl × Bool)} (h : Ledger s E) {i : Nat} {f : Fl} (he : E[i]? = some (f, true)) : Ledger (s.take ((i : Int) + 1)) (E.set i (f, false)) := by
  obtain ⟨E1, E2, hE, hl, h1, h2⟩ := h.split he
  have hn := h.nos i _ he
  simp only at hn h1
  refine ⟨by simpa [St.take] using h.giv, fun j x hx => ?_, ?_, fun x hx => ?_⟩
  · rw [List.getElem?_set] at hx
    split at hx
    · rename_i hji
      subst hji
      split at hx
      · cases hx; exact hn
      · cases hx
    · exact h.nos j x hx
  · rw [set_split hE hl, hereOf_append]
    simp only [St.take, h.fl]
    rw [hE, hereOf_append, strike_append (fun g hg => by rw [← hn]; exact h1 g hg)]
    simp [hereOf, strike, hn]
  · rcases List.mem_or_eq_of_mem_set hx with hx | rfl
    · exact h.len x hx
    · exact h.len (f, true) (List.mem_of_getElem? he)
theorem Ledger.flip {s : St} {E : List (Fl × Bool)} (h : Ledger s E) {i : Nat} {f : Fl} (he : E[i]? = some (f, true)) {at_ x : Int} (hf : flips f.data at_ x = true) :
    s.flip ((i : Int) + 1) at_ x = (0, (s.flip ((i : Int) + 1) at_ x).2) ∧ Ledger (s.flip ((i : Int) + 1) at_ x).2 (E.set i (⟨f.no, f.to, flipB f.data at_ x⟩, true)) := by
  have hfd := h.find_here he
  have e : s.flip ((i : Int) + 1) at_ x = (0, ⟨s.given, alter ((i : Int) + 1) (flipB f.data at_ x) s.fl⟩) := by simp [St.flip, hfd, hf]
  rw [e]
  refine ⟨rfl, ?_⟩
  obtain ⟨E1, E2, hE, hl, h1, h2⟩ := h.split he
  have hn := h.nos i _ he
  simp only at hn h1
  refine ⟨by simpa using h.giv, fun j y hy => ?_, ?_, fun y hy => ?_⟩
  · rw [List.getElem?_set] at hy
    split at hy
    · rename_i hji
      subst hji
      split at hy
      · cases hy; exact hn
      · cases hy
    · exact h.nos j y hy
  · rw [set_split hE hl, hereOf_append]
    simp only [h.fl]
    rw [hE, hereOf_append, alter_append (fun g hg => by rw [← hn]; exact h1 g hg)]
    simp [hereOf, alter, hn]
  · rcases List.mem_or_eq_of_mem_set hy with hy | rfl
    · exact h.len y hy
    · have := h.len _ (List.mem_of_getElem? he)
      simpa [flipB] using this
theorem Ledger.copy {s : St} {E : List (Fl × Bool)} (h : Ledger s E) (hl : E.length < 1024) {i : Nat} {f : Fl} (he : E[i]? = some (f, true)) :
    s.copy ((i : Int) + 1) = s.send f.to f.data := by
  have hfd := h.find_here he
  simp [St.copy, hfd]
end Go.Proofs.Cul
