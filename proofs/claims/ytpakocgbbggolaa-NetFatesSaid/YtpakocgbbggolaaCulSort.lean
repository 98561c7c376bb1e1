import Derived.Sort.Statements
namespace Go.Proofs.Cul
open Go.Sort
theorem perm_sorted_eq {α : Type} (key : α → Int) {l1 l2 : List α} (hp : l1.Perm l2) (h1 : l1.Pairwise (fun a b => key a < key b)) (h2 : l2.Pairwise (fun a b => ¬ key b < key a)) : l1 = l2 := by
  refine List.Perm.eq_of_pairwise (le := fun a b => key a ≤ key b) ?_ (h1.imp (fun h => by omega)) (h2.imp (fun h => by omega)) hp
  intro a b ha hb hab hba
  have ha2 : b ∈ l1 := hp.symm.subset hb
  have e : key a = key b := by omega
  -- two members of a strictly sorted list with one key are one
  have key_inj : ∀ {l : List α}, l.Pairwise (fun a b => key a < key b) → ∀ {x y}, x ∈ l → y ∈ l → key x = key y → x = y := by
    intro l hl
    induction hl with
    | nil => intro x y hx; simp at hx
    | @cons z l hz _ ih =>
      intro x y hx hy hk
      rcases List.mem_cons.1 hx with ex | hx'
      · rcases List.mem_cons.1 hy with ey | hy'
        · rw [ex, ey]
        · have := hz y hy'; rw [ex] at hk; omega
      · rcases List.mem_cons.1 hy with ey | hy'
        · have := hz x hx'; rw [ey] at hk; omega
        · exact ih hx' hy' hk
  exact key_inj h1 ha ha2 e

theorem sortedIn_pw {α : Type} [Inhabited α] (lt : α → α → Bool) (d : Array α) (h : SortedIn lt 0 d.size d) : d.toList.Pairwise (fun a b => lt b a = false) := by
  rw [List.pairwise_iff_getElem]
  intro i j hi hj hij
  have := h i j (Nat.zero_le _) hij (by simpa using hj)
  simpa [getElem!_pos, show i < d.size by simpa using hi, show j < d.size by simpa using hj] using this

theorem permIn_perm {α : Type} [Inhabited α] (d d' : Array α) (h : PermIn 0 d.size d d') : d'.toList.Perm d.toList := by
  obtain ⟨h1, _, h3⟩ := h
  have e1 : d'.extract 0 d.size = d' := by rw [← h1]; simp
  have e2 : d.extract 0 d.size = d := by simp
  rwa [e1, e2] at h3
end Go.Proofs.Cul
