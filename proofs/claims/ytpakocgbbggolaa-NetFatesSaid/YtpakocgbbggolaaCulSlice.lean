import Derived.Test.YtpakocgbbggolaaCulAppend
set_option linter.unusedSimpArgs false
set_option linter.unusedVariables false
namespace Go.Proofs.Cul
open Go.RowKit

/-- v is a slice of n elements of sz cells; what they are: cs. -/
def SV (w : World) (S : Nat → Prop) (sz : Nat) (v : Value) (n : Nat) (cs : List Value) : Prop :=
  ∃ A c, v = .slice A n c ∧ n ≤ c ∧ c ≤ maxLen ∧ cs.length = n * sz ∧ (0 < n → ∃ ad, A = some ad ∧ S ad.block ∧ Cells w ad cs)

theorem Cells.drop {w : World} {ad : Addr} {cs : List Value} (h : Cells w ad cs) (j : Nat) : Cells w (ad.add j) (cs.drop j) := by
  intro i v hv
  rw [add_add]
  rw [List.getElem?_drop] at hv
  exact h _ _ hv
theorem Cells.take {w : World} {ad : Addr} {cs : List Value} (h : Cells w ad cs) (j : Nat) : Cells w ad (cs.take j) := by
  intro i v hv
  rw [List.getElem?_take] at hv
  split at hv
  · exact h _ _ hv
  · cases hv

/-- 'v[l:h]' -/
theorem SV.cut {P : Program} {w : World} {S : Nat → Prop} {sz : Nat} {v : Value} {n : Nat} {cs : List Value} (hv : SV w S sz v n cs) {t e : TypeId} {d : TypeInfo} (ht : P.underlying t = some (.slice e)) (he : P.info? e = some d) (h1 : d.size = sz)
    (lo hi : Option Value) (l h : Nat) (hlo : lo = none ∧ l = 0 ∨ lo = some (.int .i64 l)) (hhi : hi = none ∧ h = n ∨ hi = some (.int .i64 h)) (hlh : l ≤ h) (hhn : h ≤ n) :
    ∃ u, (∀ W : World, (Instr.sliceAt t v lo hi none).run P W = .ok u W) ∧ (∀ W : World, (Instr.slice t v lo hi none).run P W = .ok u W) ∧ SV w S sz u (h - l) ((cs.take (h * sz)).drop (l * sz)) := by
  obtain ⟨A, c, rfl, hnc, hcm, hcs, hA⟩ := hv
  refine ⟨.slice (if c = l then A else A.map (·.add (l * sz))) (h - l) (c - l), fun W => ?_, fun W => ?_, _, _, rfl, by omega, by omega, ?_, fun h0 => ?_⟩
  · have hx : ∀ (x : Nat) (code : BoundsCode) (y : Nat), x ≤ y → (Instr.sliceBound (.int .i64 (x : Int)) y code).run P W = .ok x W := by
      intro x code y hxy
      simp [Instr.sliceBound, asIntOf, hxy]
    have hb : (Instr.sliceBounds true n c lo hi none).run P W = .ok (l, h, c) W := by
      rcases hlo with ⟨rfl, rfl⟩ | rfl <;> rcases hhi with ⟨rfl, rfl⟩ | rfl
      · simp [Instr.sliceBounds]
      · simp [Instr.sliceBounds, hx h _ c (by omega), Result.andThen]
      · simp [Instr.sliceBounds, hx l _ h hlh, Result.andThen]
      · simp [Instr.sliceBounds, hx l _ h hlh, hx h _ c (by omega), Result.andThen]
    simp [Instr.sliceAt, run_underlying ht, Instr.slice, hb, Result.andThen, sizeOf, typeInfo, he, h1]
  · have hx : ∀ (x : Nat) (code : BoundsCode) (y : Nat), x ≤ y → (Instr.sliceBound (.int .i64 (x : Int)) y code).run P W = .ok x W := by
      intro x code y hxy
      simp [Instr.sliceBound, asIntOf, hxy]
    have hb : (Instr.sliceBounds true n c lo hi none).run P W = .ok (l, h, c) W := by
      rcases hlo with ⟨rfl, rfl⟩ | rfl <;> rcases hhi with ⟨rfl, rfl⟩ | rfl
      · simp [Instr.sliceBounds]
      · simp [Instr.sliceBounds, hx h _ c (by omega), Result.andThen]
      · simp [Instr.sliceBounds, hx l _ h hlh, Result.andThen]
      · simp [Instr.sliceBounds, hx l _ h hlh, hx h _ c (by omega), Result.andThen]
    simp [run_underlying ht, Instr.slice, hb, Result.andThen, sizeOf, typeInfo, he, h1]
  · rw [List.length_drop, List.length_take, hcs, Nat.min_eq_left (Nat.mul_le_mul_right _ hhn), ← Nat.sub_mul]
  · obtain ⟨ad, rfl, hS, hc⟩ := hA (by omega)
    refine ⟨ad.add (l * sz), ?_, by rw [add_block]; exact hS, (hc.take _).drop _⟩
    rw [if_neg (by omega)]
    rfl

theorem SV.src {w : World} {S : Nat → Prop} {sz : Nat} {v : Value} {n : Nat} {cs : List Value} (h : SV w S sz v n cs) (h1 : ∀ u ∈ cs, u.oneCell' = true) : Src w v n sz cs := by
  obtain ⟨A, c, rfl, _, _, hl, hA⟩ := h
  exact ⟨A, c, rfl, hl, h1, fun h0 => by obtain ⟨ad, e, _, hc⟩ := hA h0; exact ⟨ad, e, hc⟩⟩
theorem SV.of_own {w : World} {S : Nat → Prop} {base : Nat} {e : TypeId} {sz : Nat} {v : Value} {n : Nat} {cs : List Value} (h : w.ownsRow base e sz v n cs) (hS : ∀ k, v.ownBlock = some k → S k) : SV w S sz v n cs := by
  rcases h.2 with ⟨rfl, rfl⟩ | ⟨g, cap, cur, rfl, _, hg, hn, hc, hs, ht⟩
  · exact ⟨none, 0, rfl, Nat.le_refl _, Nat.zero_le _, h.1, fun h => absurd h (by omega)⟩
  · exact ⟨_, _, rfl, hn, hc, h.1, fun _ => ⟨_, rfl, hS g rfl, fun j u hu => h.cells (g := g) rfl j u hu⟩⟩
theorem SV.of_rb {w : World} {S : Nat → Prop} {v : Value} {xs : List Int} (h : RB w S v xs) : SV w S 1 v xs.length (u8s xs) := by
  obtain ⟨A, c, h1, h2, h3, h4, h5⟩ := h
  exact ⟨A, c, h1, h2, h3, by simp [u8s], fun h0 => h5 (by intro e; subst e; simp at h0)⟩
theorem RB.of_sv {w : World} {S : Nat → Prop} {v : Value} {xs : List Int} (h : SV w S 1 v xs.length (u8s xs)) (hb : IsB xs) : RB w S v xs := by
  obtain ⟨A, c, h1, h2, h3, _, h5⟩ := h
  exact ⟨A, c, h1, h2, h3, hb, fun h0 => h5 (List.length_pos_iff.2 h0)⟩
theorem SV.move {w w' : World} {S : Nat → Prop} {sz : Nat} {v : Value} {n : Nat} {cs : List Value} (h0 : 0 < sz) (h : SV w S sz v n cs) (hm : ∀ k, S k → k < w.heap.size → w'.heap[k]? = w.heap[k]?) : SV w' S sz v n cs := by
  obtain ⟨A, c, h1, h2, h3, h4, h5⟩ := h
  refine ⟨A, c, h1, h2, h3, h4, fun hn => ?_⟩
  obtain ⟨ad, e, hS, hc⟩ := h5 hn
  exact ⟨ad, e, hS, hc.move (hm _ hS (hc.lt (by intro e; subst e; have := Nat.mul_pos hn h0; simp at h4; omega)))⟩
end Go.Proofs.Cul
