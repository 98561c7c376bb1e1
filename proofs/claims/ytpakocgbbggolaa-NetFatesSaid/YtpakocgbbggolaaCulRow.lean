import Derived.Test.YtpakocgbbggolaaCulBase
import Derived.Laws.Cells
set_option linter.unusedSimpArgs false
set_option linter.unusedVariables false
namespace Go.Proofs.Cul
open Go.RowKit

/-- A row of elements of sz cells that is read: K says what an element's cells are. -/
def RRow {α : Type} (K : α → List Value → Prop) (sz : Nat) (w : World) (S : Nat → Prop) (v : Value) (xs : List α) : Prop :=
  ∃ (A : Option Addr) (c : Nat) (css : List (List Value)), v = .slice A xs.length c ∧ xs.length ≤ c ∧ c ≤ maxLen ∧ css.length = xs.length ∧
    (∀ (i : Nat) (x : α) (cs : List Value), xs[i]? = some x → css[i]? = some cs → K x cs ∧ cs.length = sz) ∧
    (xs ≠ [] → ∃ ad, A = some ad ∧ S ad.block ∧ Cells w ad css.flatten)

theorem flatten_len {sz : Nat} : ∀ (css : List (List Value)), (∀ (i : Nat) cs, css[i]? = some cs → cs.length = sz) → css.flatten.length = css.length * sz
  | [], _ => by simp
  | c :: css, h => by
    have h0 := h 0 c rfl
    have := flatten_len css (fun i cs hc => h (i + 1) cs (by simpa using hc))
    simp only [List.flatten_cons, List.length_append, this, h0, List.length_cons]
    rw [Nat.add_mul]; omega
theorem flatten_at {sz : Nat} : ∀ (css : List (List Value)), (∀ (i : Nat) cs, css[i]? = some cs → cs.length = sz) → ∀ (i : Nat) cs, css[i]? = some cs → ∀ (j : Nat) u, cs[j]? = some u → css.flatten[i * sz + j]? = some u
  | [], _, i, cs, hc, _, _, _ => by simp at hc
  | c :: css, h, 0, cs, hc, j, u, hu => by
    simp only [List.getElem?_cons_zero, Option.some.injEq] at hc
    subst hc
    have hj : j < c.length := (List.getElem?_eq_some_iff.1 hu).1
    rw [List.flatten_cons, Nat.zero_mul, Nat.zero_add, List.getElem?_append_left hj]
    exact hu
  | c :: css, h, i + 1, cs, hc, j, u, hu => by
    have h0 := h 0 c rfl
    have ih := flatten_at css (fun i cs hc => h (i + 1) cs (by simpa using hc)) i cs (by simpa using hc) j u hu
    rw [List.flatten_cons, List.getElem?_append_right (by rw [Nat.add_mul, h0]; omega)]
    rw [show (i + 1) * sz + j - c.length = i * sz + j by rw [Nat.add_mul, h0]; omega]
    exact ih
theorem add_add (a : Addr) (i j : Nat) : (a.add i).add j = a.add (i + j) := by
  unfold Addr.add
  by_cases hi : i = 0 <;> by_cases hj : j = 0 <;> simp [hi, hj, Nat.add_assoc]

namespace RRow
variable {α : Type} {K K' : α → List Value → Prop} {sz : Nat} {w w' : World} {S T : Nat → Prop} {v : Value} {xs : List α}
theorem le (h : RRow K sz w S v xs) : xs.length ≤ 9223372036854775807 := by obtain ⟨A, c, css, h1, h2, h3, _⟩ := h; simp only [maxLen] at h3; omega
theorem len (h : RRow K sz w S v xs) {P : Program} {t e : TypeId} (ht : P.underlying t = some (.slice e)) : ∀ (ty : TypeId) (W : World), (Builtin.len_ #[t] ty #[v]).run P W = .ok (.int .i64 xs.length) W := by
  obtain ⟨A, c, css, rfl, _⟩ := h
  intro ty W
  exact run_len_slice W t ty A xs.length c (by rw [ht]; simp [Program.elem, ht])
theorem nil (K : α → List Value → Prop) (sz : Nat) (w : World) (S : Nat → Prop) : RRow K sz w S (.slice none 0 0) [] :=
  ⟨none, 0, [], rfl, Nat.le_refl _, Nat.zero_le _, rfl, fun i x cs h => by simp at h, fun h => absurd rfl h⟩
theorem ad_lt (h0 : 0 < sz) (h : RRow K sz w S v xs) : ∃ (A : Option Addr) (c : Nat) (css : List (List Value)), v = .slice A xs.length c ∧ xs.length ≤ c ∧ c ≤ maxLen ∧ css.length = xs.length ∧
    (∀ (i : Nat) (x : α) (cs : List Value), xs[i]? = some x → css[i]? = some cs → K x cs ∧ cs.length = sz) ∧ (xs ≠ [] → ∃ ad, A = some ad ∧ S ad.block ∧ ad.block < w.heap.size ∧ Cells w ad css.flatten) := by
  obtain ⟨A, c, css, h1, h2, h3, h4, h5, h6⟩ := h
  refine ⟨A, c, css, h1, h2, h3, h4, h5, fun hx => ?_⟩
  obtain ⟨ad, e, hS, hc⟩ := h6 hx
  refine ⟨ad, e, hS, hc.lt ?_, hc⟩
  intro hf
  have hl := flatten_len (sz := sz) css (fun i cs hcs => by
    have hi : i < xs.length := by rw [← h4]; exact (List.getElem?_eq_some_iff.1 hcs).1
    exact (h5 i _ cs (List.getElem?_eq_getElem hi) hcs).2)
  rw [hf, h4] at hl
  have hp : 0 < xs.length := List.length_pos_iff.2 hx
  have : 0 < xs.length * sz := Nat.mul_pos hp h0
  simp at hl
  omega
/-- Whatever moves the row's own block not, and keeps K. -/
theorem move (h0 : 0 < sz) (h : RRow K sz w S v xs) (hm : ∀ k, S k → k < w.heap.size → w'.heap[k]? = w.heap[k]?) (hK : ∀ x cs, x ∈ xs → K x cs → K' x cs) : RRow K' sz w' S v xs := by
  obtain ⟨A, c, css, h1, h2, h3, h4, h5, h6⟩ := h.ad_lt h0
  refine ⟨A, c, css, h1, h2, h3, h4, fun i x cs hx hc => ⟨hK x cs (List.mem_of_getElem? hx) (h5 i x cs hx hc).1, (h5 i x cs hx hc).2⟩, fun hx => ?_⟩
  obtain ⟨ad, e, hS, hl, hc⟩ := h6 hx
  exact ⟨ad, e, hS, hc.move (hm _ hS hl)⟩
theorem mono (h0 : 0 < sz) (h : RRow K sz w S v xs) (hs : ∀ k, S k → k < w.heap.size → T k) (hK : ∀ x cs, x ∈ xs → K x cs → K' x cs) : RRow K' sz w T v xs := by
  obtain ⟨A, c, css, h1, h2, h3, h4, h5, h6⟩ := h.ad_lt h0
  refine ⟨A, c, css, h1, h2, h3, h4, fun i x cs hx hc => ⟨hK x cs (List.mem_of_getElem? hx) (h5 i x cs hx hc).1, (h5 i x cs hx hc).2⟩, fun hx => ?_⟩
  obtain ⟨ad, e, hS, hl, hc⟩ := h6 hx
  exact ⟨ad, e, hs _ hS hl, hc⟩
/-- '&v[i]': the element's place, and its cells there. -/
theorem idx (h0 : 0 < sz) (h : RRow K sz w S v xs) {P : Program} {t e : TypeId} {d : TypeInfo} (ht : P.underlying t = some (.slice e)) (he : P.info? e = some d) (h1 : d.size = sz) (i : Int) (hi0 : 0 ≤ i) (hi : i < xs.length) (x : α) (hx : xs[i.toNat]? = some x) :
    ∃ (p : Addr) (cs : List Value), (∀ W : World, (Instr.indexAt t v (.int .i64 i)).run P W = .ok (.pointer (some p)) W) ∧ S p.block ∧ p.block < w.heap.size ∧ Cells w p cs ∧ cs.length = sz ∧ K x cs := by
  obtain ⟨A, c, css, rfl, h2, h3, h4, h5, h6⟩ := h.ad_lt h0
  have hne : xs ≠ [] := by intro e; subst e; simp at hi; omega
  obtain ⟨ad, rfl, hS, hl, hc⟩ := h6 hne
  obtain ⟨n, rfl⟩ := Int.eq_ofNat_of_zero_le hi0
  rw [Int.toNat_natCast] at hx
  have hn : n < xs.length := by omega
  obtain ⟨cs, hcs⟩ : ∃ cs, css[n]? = some cs := ⟨_, List.getElem?_eq_getElem (show n < css.length by omega)⟩
  obtain ⟨hk, hlen⟩ := h5 n x cs hx hcs
  refine ⟨ad.add (n * sz), cs, fun W => ?_, by rw [add_block]; exact hS, by rw [add_block]; exact hl, fun j u hu => ?_, hlen, hk⟩
  · simp only [Instr.indexAt, asIntOf, Sem.run_bind, Sem.run_pure, Result.andThen, run_underlying ht]
    simp [sizeOf, typeInfo, he, h1, hn]
  · rw [add_add]
    refine hc _ _ (flatten_at css (fun i cs' hcs' => ?_) n cs hcs j u hu)
    have hi' : i < xs.length := by rw [← h4]; exact (List.getElem?_eq_some_iff.1 hcs').1
    exact (h5 i _ cs' (List.getElem?_eq_getElem hi') hcs').2
end RRow

/-- A value of which is known only that it fills one cell: as the walk stores it. -/
theorem cells_one {v : Value} (h : v.oneCell' = true) : v.cells = #[v] := by cases v <;> simp_all [Value.oneCell', Value.cells]
attribute [go_sem ↓] cells_one
@[go_sem] theorem run_store_one (P : Program) (w : World) (a : Addr) (v : Value) (m : Mode) (hv : v.oneCell' = true) : (store a v m).run P w = stored P w a v m := run_store P w a v m hv
@[go_sem ↓] theorem run_storeCells_nil (P : Program) (w : World) (a : Addr) (i : Nat) : (storeCells a [] i).run P w = .ok () w := rfl
@[go_sem ↓] theorem run_storeCells_cons (P : Program) (w : World) (a : Addr) (v : Value) (rest : List Value) (i : Nat) : (storeCells a (v :: rest) i).run P w = ((store (a.add i) v).run P w).andThen fun _ w' => (storeCells a rest (i + 1)).run P w' := by
  simp [storeCells]
theorem own_one {w : World} {base : Nat} {e : TypeId} {size : Nat} {v : Value} {n : Nat} {xs : List Value} (h : w.ownsRow base e size v n xs) : v.oneCell' = true := by
  rcases h.2 with ⟨rfl, _⟩ | ⟨g, cap, cur, rfl, _⟩ <;> rfl

/-- A whole struct (or array) is read. -/
theorem run_loadAgg {P : Program} {t : TypeId} {n : Nat} {W : World} {p : Addr} {cs : List Value} (ha : (isAgg t).run P W = .ok true W) (hs : (sizeOf t).run P W = .ok n W) (hl : cs.length = n) (hc : Cells W p cs) :
    (Instr.loadAt t (.pointer (some p))).run P W = .ok (.agg cs.toArray) W := by
  subst hl
  simp [Instr.loadAt, Instr.sureAddr, loadVar, ha, hs, Result.andThen, run_loadCells_list W p cs hc]
theorem Cells.at0 {w : World} {p : Addr} {c : Value} {cs : List Value} (h : Cells w p (c :: cs)) : w.cell? p = some c := by
  have := h 0 c rfl
  simpa [Addr.add] using this
theorem Cells.off {w : World} {p : Addr} {cs : List Value} (h : Cells w p cs) (j : Nat) {v : Value} (hv : cs[j + 1]? = some v) : w.cell? ⟨p.block, p.off + (j + 1), none⟩ = some v := h (j + 1) v hv
theorem Cells.at_ {w : World} {p : Addr} {cs : List Value} (h : Cells w p cs) (j : Nat) {v : Value} (hv : cs[j]? = some v) : w.cell? (p.add j) = some v := h j v hv
end Go.Proofs.Cul
