import Derived.WalkKit
import Derived.Deep.Draws
import Derived.ChangeMaps5
set_option linter.unusedSimpArgs false
set_option linter.unusedVariables false
namespace Go.Proofs.Cul
open Go.RowKit Go.ChangeMaps

/-- All that was there has stayed, but for blocks of S. -/
structure Kp (S : Nat → Prop) (w w' : World) : Prop where
  os : w'.os = w.os
  tape : w'.tape = w.tape
  output : w'.output = w.output
  size : w.heap.size ≤ w'.heap.size
  block : ∀ k, k < w.heap.size → ¬ S k → w'.heap[k]? = w.heap[k]?

def Nothing : Nat → Prop := fun _ => False

namespace Kp
variable {S T U : Nat → Prop} {w w' w1 w2 : World}
theorem refl (S : Nat → Prop) (w : World) : Kp S w w := ⟨rfl, rfl, rfl, Nat.le_refl _, fun _ _ _ => rfl⟩
theorem mono (h : Kp S w w') (hs : ∀ k, S k → T k) : Kp T w w' := ⟨h.os, h.tape, h.output, h.size, fun k hk hn => h.block k hk (fun hS => hn (hs k hS))⟩
theorem trans (h : Kp S w w1) (k : Kp T w1 w2) (hs : ∀ k, T k → S k ∨ w.heap.size ≤ k) : Kp S w w2 :=
  ⟨k.os.trans h.os, k.tape.trans h.tape, k.output.trans h.output, Nat.le_trans h.size k.size, fun i hi hn =>
    (k.block i (Nat.lt_of_lt_of_le hi h.size) (fun hT => (hs i hT).elim hn (fun h => by omega))).trans (h.block i hi hn)⟩
theorem then_ (h : Kp S w w1) (k : Kp S w1 w2) : Kp S w w2 := h.trans k (fun _ h => .inl h)
theorem of_below (h : Below w.heap.size w w') (S : Nat → Prop) : Kp S w w' := ⟨h.os, h.tape, h.output, h.size, fun k hk _ => h.block k hk⟩
theorem below (h : Kp S w w') (hs : ∀ k, S k → w.heap.size ≤ k) : Below w.heap.size w w' := ⟨h.os, h.tape, h.output, h.size, fun k hk => h.block k hk (fun hS => by have := hs k hS; omega)⟩
theorem belowN (h : Kp Nothing w w') : Below w.heap.size w w' := h.below (fun _ h => h.elim)
theorem drew (h : Kp S w w1) : Kp S w w1.drew := ⟨h.os, h.tape, h.output, h.size, h.block⟩
theorem drewN (h : Kp S w w1) (n : Nat) : Kp S w (w1.drewN n) := ⟨h.os, h.tape, h.output, h.size, h.block⟩
theorem alloc (h : Kp S w w1) (o : Obj) : Kp S w (w1.alloc o) :=
  h.then_ ⟨rfl, rfl, rfl, by simp, fun k hk _ => Below.heap_alloc _ _ _ hk⟩
theorem setCell (h : Kp S w w1) {p : Addr} (hp : S p.block ∨ w.heap.size ≤ p.block) (u : Value) : Kp S w (w1.setCell p u) :=
  h.trans (T := fun k => k = p.block) ⟨rfl, rfl, rfl, by simp [World.setCell], fun k hk hn => Below.heap_setCell _ _ _ _ hn⟩ (fun k hk => by subst hk; exact hp)
theorem setBlock (h : Kp S w w1) {b : Nat} (hp : S b ∨ w.heap.size ≤ b) (o : Obj) : Kp S w (setBlock w1 b o) :=
  h.trans (T := fun k => k = b) ⟨rfl, rfl, rfl, by simp [ChangeMaps.setBlock], fun k hk hn => by
    simp only [ChangeMaps.setBlock, Array.getElem?_setIfInBounds]
    rw [if_neg (fun e => hn e.symm)]⟩ (fun k hk => by subst hk; exact hp)
theorem grown (h : Kp S w w1) {row : Option Nat} (hg : w1.grownBy w2 row) (hr : ∀ k, row = some k → S k ∨ w.heap.size ≤ k) : Kp S w w2 :=
  h.trans (T := fun k => row = some k) ⟨hg.os, hg.tape, hg.output, hg.size, fun k hk hn => hg.block k hk (fun e => hn e.symm)⟩ hr
theorem andBelow (h : Kp S w w1) (k : Below w1.heap.size w1 w2) : Kp S w w2 := h.trans (of_below k Nothing) (fun _ h => h.elim)
end Kp

theorem belowDrewN {B : Nat} {a w : World} (h : Below B a w) (n : Nat) : Below B a (w.drewN n) := ⟨h.os, h.tape, h.output, h.size, h.block⟩

theorem heap_setCell_at {w : World} {g : Nat} {cur : Array Value} {t : TypeId} {fr : Nat × Nat} (h : w.heap[g]? = some (.cells cur t fr)) (j : Nat) (v : Value) :
    (w.setCell ⟨g, j, none⟩ v).heap[g]? = some (.cells (cur.setIfInBounds j v) t fr) := by
  simp only [World.setCell, Array.getElem?_modify, if_true, h, Option.map_some]
  rfl
theorem cell_at {w : World} {g : Nat} {cur : Array Value} {t : TypeId} {fr : Nat × Nat} (h : w.heap[g]? = some (.cells cur t fr)) (j : Nat) : w.cell? ⟨g, j, none⟩ = cur[j]? := by simp [World.cell?, h]
theorem frozen_at {w : World} {g : Nat} {cur : Array Value} {t : TypeId} (h : w.heap[g]? = some (.cells cur t (0, 0))) (j : Nat) : w.frozen? ⟨g, j, none⟩ = false := by simp [World.frozen?, h]
theorem lt_of_heap {w : World} {g : Nat} {o : Obj} (h : w.heap[g]? = some o) : g < w.heap.size := (Array.getElem?_eq_some_iff.1 h).1
/-- What was S's, and what is new. -/
def Ext (S : Nat → Prop) (w w' : World) : Nat → Prop := fun k => S k ∨ (w.heap.size ≤ k ∧ k < w'.heap.size)

/-! ### Rows of bytes -/
def Cells (w : World) (ad : Addr) (vs : List Value) : Prop := ∀ j v, vs[j]? = some v → w.cell? (ad.add j) = some v
def u8s (xs : List Int) : List Value := xs.map (Value.int .u8)
/-- The i-th number, behind a name that the walk leaves alone. -/
def rdI (xs : List Int) (i : Nat) : Int := xs.getD i 0
theorem rdI_lt {xs : List Int} {i : Nat} (h : i < xs.length) : rdI xs i = xs[i] := by simp [rdI, List.getD, h]
def IsB (xs : List Int) : Prop := ∀ x ∈ xs, 0 ≤ x ∧ x ≤ 255

theorem add_block (a : Addr) (j : Nat) : (a.add j).block = a.block := by unfold Addr.add; split <;> rfl
theorem cell_same {w w' : World} {a : Addr} (h : w'.heap[a.block]? = w.heap[a.block]?) : w'.cell? a = w.cell? a := World.cell?_of_block h
theorem Cells.lt {w : World} {ad : Addr} {vs : List Value} (h : Cells w ad vs) (h0 : vs ≠ []) : ad.block < w.heap.size := by
  cases vs with
  | nil => exact absurd rfl h0
  | cons v vs =>
    have := World.block_lt_of_cell? w _ (h 0 v rfl)
    rwa [add_block] at this
theorem Cells.move {w w' : World} {ad : Addr} {vs : List Value} (h : Cells w ad vs) (hm : w'.heap[ad.block]? = w.heap[ad.block]?) : Cells w' ad vs :=
  fun j v hv => (cell_same (by rw [add_block]; exact hm)).trans (h j v hv)

/-- The value v reads as the bytes xs; where there are any, they lie in a block of S. -/
def RB (w : World) (S : Nat → Prop) (v : Value) (xs : List Int) : Prop :=
  ∃ A c, v = .slice A xs.length c ∧ xs.length ≤ c ∧ c ≤ maxLen ∧ IsB xs ∧ (xs ≠ [] → ∃ ad, A = some ad ∧ S ad.block ∧ Cells w ad (u8s xs))

theorem u8s_snoc (xs : List Int) (x : Int) : u8s (xs ++ [x]) = u8s xs ++ [Value.int .u8 x] := by simp [u8s]
theorem u8s_append (xs ys : List Int) : u8s (xs ++ ys) = u8s xs ++ u8s ys := by simp [u8s]
theorem u8s_length (xs : List Int) : (u8s xs).length = xs.length := by simp [u8s]
theorem u8s_ne {xs : List Int} (h : xs ≠ []) : u8s xs ≠ [] := by cases xs <;> simp_all [u8s]
namespace RB
variable {w w' : World} {S T : Nat → Prop} {v : Value} {xs : List Int}
theorem move (h : RB w S v xs) (hm : ∀ k, S k → k < w.heap.size → w'.heap[k]? = w.heap[k]?) : RB w' S v xs := by
  obtain ⟨A, c, h1, h2, h3, h4, h5⟩ := h
  refine ⟨A, c, h1, h2, h3, h4, fun hx => ?_⟩
  obtain ⟨ad, e, hS, hc⟩ := h5 hx
  exact ⟨ad, e, hS, hc.move (hm _ hS (hc.lt (u8s_ne hx)))⟩
theorem mono (h : RB w S v xs) (hs : ∀ k, S k → k < w.heap.size → T k) : RB w T v xs := by
  obtain ⟨A, c, h1, h2, h3, h4, h5⟩ := h
  refine ⟨A, c, h1, h2, h3, h4, fun hx => ?_⟩
  obtain ⟨ad, e, hS, hc⟩ := h5 hx
  exact ⟨ad, e, hs _ hS (hc.lt (u8s_ne hx)), hc⟩
theorem bound (h : RB w S v xs) : RB w (fun k => S k ∧ k < w.heap.size) v xs := h.mono (fun k hk hl => ⟨hk, hl⟩)
theorem kp (h : RB w S v xs) (k : Kp T w w') (hd : ∀ k, S k → ¬ T k) : RB w' S v xs := h.move (fun i hi hl => k.block i hl (hd i hi))
theorem below (h : RB w S v xs) (k : Below w.heap.size w w') : RB w' S v xs := h.move (fun i _ hl => k.block i hl)
theorem at_ (h : RB w S v xs) : ∃ A c, v = .slice A xs.length c ∧ xs.length ≤ c ∧ c ≤ maxLen ∧ ∀ i (hi : i < xs.length), ∃ ad, A = some ad ∧ w.cell? (ad.add i) = some (.int .u8 xs[i]) := by
  obtain ⟨A, c, h1, h2, h3, h4, h5⟩ := h
  refine ⟨A, c, h1, h2, h3, fun i hi => ?_⟩
  obtain ⟨ad, e, _, hc⟩ := h5 (by intro e; subst e; simp at hi)
  exact ⟨ad, e, hc i _ (by simp [u8s, hi])⟩
theorem one (h : RB w S v xs) : v.oneCell' = true := by
  obtain ⟨A, c, rfl, _⟩ := h
  rfl
theorem isB (h : RB w S v xs) : IsB xs := by obtain ⟨A, c, h1, h2, h3, h4, h5⟩ := h; exact h4
theorem lt (h : RB w S v xs) (i : Nat) (hi : i < xs.length) : xs.length ≤ maxLen := by obtain ⟨A, c, h1, h2, h3, h4, h5⟩ := h; omega
theorem le (h : RB w S v xs) : xs.length ≤ 9223372036854775807 := by obtain ⟨A, c, h1, h2, h3, h4, h5⟩ := h; simp only [maxLen] at h3; omega
/-- 'len(v)' -/
theorem len (h : RB w S v xs) {P : Program} {t e : TypeId} (ht : P.underlying t = some (.slice e)) : ∀ (ty : TypeId) (W : World), (Builtin.len_ #[t] ty #[v]).run P W = .ok (.int .i64 xs.length) W := by
  obtain ⟨A, c, rfl, _⟩ := h
  intro ty W
  exact run_len_slice W t ty A xs.length c (by rw [ht]; simp [Program.elem, ht])
/-- '&v[i]' -/
theorem idx (h : RB w S v xs) {P : Program} {t e : TypeId} {d : TypeInfo} (ht : P.underlying t = some (.slice e)) (he : P.info? e = some d) (h1 : d.size = 1) (i : Int) (h0 : 0 ≤ i) (hi : i < xs.length) :
    ∃ p : Addr, (∀ W : World, (Instr.indexAt t v (.int .i64 i)).run P W = .ok (.pointer (some p)) W) ∧ S p.block ∧ p.block < w.heap.size ∧ w.cell? p = some (.int .u8 (rdI xs i.toNat)) := by
  obtain ⟨A, c, rfl, h2, h3, h4, h5⟩ := h
  have hne : xs ≠ [] := by intro e; subst e; simp at hi; omega
  obtain ⟨ad, rfl, hS, hc⟩ := h5 hne
  obtain ⟨n, rfl⟩ := Int.eq_ofNat_of_zero_le h0
  have hn : n < xs.length := by omega
  refine ⟨ad.add n, fun W => ?_, by rw [add_block]; exact hS, by rw [add_block]; exact hc.lt (u8s_ne hne), ?_⟩
  · simp only [Instr.indexAt, asIntOf, Sem.run_bind, Sem.run_pure, Result.andThen, run_underlying ht]
    simp [sizeOf, typeInfo, he, h1, hn]
  · rw [Int.toNat_natCast]
    exact hc n _ (by simp [u8s, hn, rdI_lt hn])
end RB
end Go.Proofs.Cul
