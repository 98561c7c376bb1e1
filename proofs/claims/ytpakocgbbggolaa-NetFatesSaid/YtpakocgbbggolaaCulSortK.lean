import Derived.Test.YtpakocgbbggolaaCulAppend
import Derived.Test.YtpakocgbbggolaaCulSort
import Derived.Shelf.SlSortCmp.NoneTotal
set_option linter.unusedSimpArgs false
set_option linter.unusedVariables false
set_option linter.unusedSectionVars false
namespace Go.Proofs.Cul
open Go.RowKit Go.Sort

section
variable {α : Type} [Inhabited α] {enc : α → List Value} {k : Nat}
theorem flatMap_at (hk : ∀ x, (enc x).length = k) (k0 : 0 < k) : ∀ (l : List α) (t : Nat), t < l.length * k → (l.flatMap enc)[t]? = (enc l[t / k]!)[t % k]?
  | [], t, h => by simp at h
  | a :: l, t, h => by
    rw [List.flatMap_cons]
    by_cases ht : t < k
    · rw [List.getElem?_append_left (by rw [hk]; exact ht), Nat.div_eq_of_lt ht, Nat.mod_eq_of_lt ht]
      rfl
    · obtain ⟨u, rfl⟩ : ∃ u, t = u + k := ⟨t - k, by omega⟩
      have hu : u < l.length * k := by
        rw [List.length_cons, Nat.add_mul, Nat.one_mul] at h
        omega
      rw [List.getElem?_append_right (by rw [hk]; omega), hk, Nat.add_sub_cancel, flatMap_at hk k0 l u hu, Nat.add_div_right _ k0, Nat.add_mod_right]
      rfl
theorem flatMap_len (hk : ∀ x, (enc x).length = k) : ∀ l : List α, (l.flatMap enc).length = l.length * k
  | [] => by simp
  | a :: l => by rw [List.flatMap_cons, List.length_append, hk, flatMap_len hk l, List.length_cons, Nat.add_mul, Nat.one_mul, Nat.add_comm]
theorem flatK_list (hk : ∀ x, (enc x).length = k) (k0 : 0 < k) (d : Array α) : (flatK enc k d).toList = d.toList.flatMap enc := by
  apply List.ext_getElem?
  intro t
  by_cases ht : t < d.size * k
  · rw [flatMap_at hk k0 _ t (by simpa using ht)]
    have h1 := get_flatK enc k d t ht
    have hs : t < (flatK enc k d).size := by rw [size_flatK]; exact ht
    rw [getElem!_pos _ t hs] at h1
    have hm : t % k < (enc d[t / k]!).length := by rw [hk]; exact Nat.mod_lt _ k0
    rw [List.getElem?_eq_getElem (by simpa using hs), Array.getElem_toList, h1]
    have hd : d.toList[t / k]! = d[t / k]! := by simp [Array.getElem!_eq_getD, Array.getD_eq_getD_getElem?]
    rw [hd, List.getElem?_eq_getElem hm, getElem!_pos (enc d[t / k]!) (t % k) hm]
  · rw [List.getElem?_eq_none (by simp; omega), List.getElem?_eq_none (by rw [flatMap_len hk]; simp; omega)]

theorem own_holdsK (hk : ∀ x, (enc x).length = k) (k0 : 0 < k) {w : World} {base : Nat} {e : TypeId} {g cap : Nat} {d : Array α} (h : w.ownsRow base e k (.slice (some ⟨g, 0, none⟩) d.size cap) d.size (d.toList.flatMap enc)) : HoldsK enc k w g 0 d := by
  rw [← flatK_list hk k0] at h
  rcases h.2 with ⟨h1, _⟩ | ⟨g', cap', cur, hv, _, hh, hn, hc, hs, htk⟩
  · cases h1
  · cases hv
    intro j hj
    rw [Nat.zero_add]
    refine ⟨?_, frozen_at hh j⟩
    rw [cell_at hh]
    have e1 : cur[j]? = (flatK enc k d).toList[j]? := by
      rw [← htk, List.getElem?_take_of_lt (by simpa using hj)]
      simp
    rw [e1, Array.getElem?_toList, Array.getElem?_eq_getElem hj, getElem!_pos _ j hj]
    rfl

theorem own_sorted (hk : ∀ x, (enc x).length = k) (k0 : 0 < k) {w : World} {base : Nat} {e : TypeId} {g cap N n : Nat} {xs : List Value} {os : Array Obj} {d : Array α} (hN : d.size = N)
    (h : w.ownsRow base e k (.slice (some ⟨g, 0, none⟩) N cap) N xs) : (sortWorldK enc k w g 0 n d os).ownsRow base e k (.slice (some ⟨g, 0, none⟩) N cap) N (d.toList.flatMap enc) := by
  refine ⟨by rw [flatMap_len hk]; simp [hN], Or.inr ?_⟩
  rcases h.2 with ⟨h1, _⟩ | ⟨g', cap', cur, hv, hb, hh, hn, hc, hs, htk⟩
  · cases h1
  · cases hv
    have hgl := lt_of_heap hh
    refine ⟨g, cap, putCells id 0 (flatK enc k d) cur, rfl, hb, ?_, hn, hc, ?_, ?_⟩
    · have e1 : (putRowK enc k (Sort.ahead w n) g 0 d).heap[g]? = some (.cells (putCells id 0 (flatK enc k d) cur) e (0, 0)) := by
        show (w.heap.modify g (onCells (putCells id 0 (flatK enc k d))))[g]? = _
        simp only [Array.getElem?_modify, if_true, hh, Option.map_some]
        rfl
      show ((putRowK enc k (Sort.ahead w n) g 0 d).heap ++ os)[g]? = _
      rw [Array.getElem?_append_left (lt_of_heap e1)]
      exact e1
    · simp [putCells, hs]
    · rw [← flatK_list hk k0]
      apply List.ext_getElem?
      intro t
      by_cases ht : t < N * k
      · have hs2 : t < (flatK enc k d).size := by rw [size_flatK, hN]; exact ht
        have hs3 : t < cur.size := by rw [hs]; exact Nat.lt_of_lt_of_le ht (Nat.mul_le_mul_right k hn)
        rw [List.getElem?_take_of_lt ht, Array.getElem?_toList, Array.getElem?_toList, putCells, Array.getElem?_mapIdx, Array.getElem?_eq_getElem hs3, Array.getElem?_eq_getElem hs2]
        simp only [Option.map_some, Nat.zero_le, Nat.zero_add, hs2, and_self, if_true, Nat.sub_zero, id]
        rw [getElem!_pos _ t hs2]
      · rw [List.getElem?_eq_none (by simp; omega), List.getElem?_eq_none (by simp [hN]; omega)]
theorem kp_sorted (w : World) (g n : Nat) (d : Array α) (os : Array Obj) : Kp (fun i => i = g) w (sortWorldK enc k w g 0 n d os) := by
  refine ⟨rfl, rfl, rfl, ?_, fun i hi hn => ?_⟩
  · show w.heap.size ≤ ((putRowK enc k (Sort.ahead w n) g 0 d).heap ++ os).size
    show w.heap.size ≤ ((w.heap.modify g (onCells (putCells id 0 (flatK enc k d)))) ++ os).size
    simp
  · show ((w.heap.modify g (onCells (putCells id 0 (flatK enc k d)))) ++ os)[i]? = _
    rw [Array.getElem?_append_left (by simpa using hi), Array.getElem?_modify, if_neg (fun e => hn e.symm)]
end
end Go.Proofs.Cul
