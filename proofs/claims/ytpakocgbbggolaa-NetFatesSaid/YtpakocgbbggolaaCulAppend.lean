import Derived.Test.YtpakocgbbggolaaCulRow
import Derived.Maps.AppendAt
import Derived.Deep.AppendLies
set_option linter.unusedSimpArgs false
set_option linter.unusedVariables false
namespace Go.Proofs.Cul
open Go.RowKit

theorem own_lower {w : World} {base base' : Nat} {e : TypeId} {size : Nat} {v : Value} {n : Nat} {xs : List Value} (h : w.ownsRow base e size v n xs) (hb : base' ≤ base) : w.ownsRow base' e size v n xs := by
  obtain ⟨h1, h2⟩ := h
  refine ⟨h1, ?_⟩
  rcases h2 with h2 | ⟨g, cap, cur, hv, hg, r⟩
  · exact .inl h2
  · exact .inr ⟨g, cap, cur, hv, Nat.le_trans hb hg, r⟩
/-- A cell of another block is written. -/
theorem own_setCell {w : World} {base : Nat} {e : TypeId} {size : Nat} {v : Value} {n : Nat} {xs : List Value} (h : w.ownsRow base e size v n xs) {p : Addr} (hne : v.ownBlock ≠ some p.block) (u : Value) : (w.setCell p u).ownsRow base e size v n xs :=
  h.kept (row := some p.block) ⟨rfl, rfl, rfl, by simp, fun i hi hn => Below.heap_setCell w p u i (fun e => hn (by rw [e]))⟩ (Or.inr hne)
theorem own_kp {w w' : World} {S : Nat → Prop} {base : Nat} {e : TypeId} {size : Nat} {v : Value} {n : Nat} {xs : List Value} (h : w.ownsRow base e size v n xs) (k : Kp S w w') (hd : ∀ i, v.ownBlock = some i → ¬ S i) : w'.ownsRow base e size v n xs := by
  obtain ⟨h1, h2⟩ := h
  refine ⟨h1, ?_⟩
  rcases h2 with h2 | ⟨g, cap, cur, rfl, hg, hh, r⟩
  · exact .inl h2
  · exact .inr ⟨g, cap, cur, rfl, hg, (k.block g (lt_of_heap hh) (hd g rfl)).trans hh, r⟩
theorem own_below {w w' : World} {base : Nat} {e : TypeId} {size : Nat} {v : Value} {n : Nat} {xs : List Value} (h : w.ownsRow base e size v n xs) (k : Below w.heap.size w w') : w'.ownsRow base e size v n xs :=
  own_kp h (Kp.of_below k Nothing) (fun _ _ h => h)

theorem own_slice {w : World} {base : Nat} {e : TypeId} {size : Nat} {v : Value} {n : Nat} {xs : List Value} (h : w.ownsRow base e size v n xs) : ∃ A c, v = .slice A n c := by
  rcases h.2 with ⟨rfl, rfl⟩ | ⟨g, cap, cur, rfl, _⟩
  · exact ⟨_, _, rfl⟩
  · exact ⟨_, _, rfl⟩

/-- An own row's element: where it lies, and its cells. -/
theorem own_idx {w : World} {base : Nat} {e : TypeId} {size : Nat} {v : Value} {n : Nat} {xs : List Value} (h : w.ownsRow base e size v n xs) {P : Program} {t : TypeId} {d : TypeInfo} (ht : P.underlying t = some (.slice e)) (he : P.info? e = some d) (h1 : d.size = size) (k : Nat) (hk : k < n) :
    ∃ gb, v.ownBlock = some gb ∧ (∀ W : World, (Instr.indexAt t v (.int .i64 (k : Int))).run P W = .ok (.pointer (some ⟨gb, k * size, none⟩)) W) ∧ (∃ cur, w.heap[gb]? = some (.cells cur e (0, 0))) ∧ ∀ j u, j < size → xs[k * size + j]? = some u → w.cell? ⟨gb, k * size + j, none⟩ = some u := by
  have hadd : ∀ (g j : Nat), (⟨g, 0, none⟩ : Addr).add j = ⟨g, j, none⟩ := fun g j => by unfold Addr.add; split <;> simp_all
  rcases h.2 with ⟨rfl, rfl⟩ | ⟨g, cap, cur, rfl, _, hh, hn, hc, hs, htk⟩
  · exact absurd hk (by omega)
  · refine ⟨g, rfl, fun W => ?_, ⟨cur, hh⟩, fun j u hj hu => ?_⟩
    · simp only [Instr.indexAt, asIntOf, Sem.run_bind, Sem.run_pure, Result.andThen, run_underlying ht]
      simp [sizeOf, typeInfo, he, h1, hk, hadd]
    · have := h.cells (g := g) rfl _ u hu
      rwa [hadd] at this
/-- One cell of an own row is written. -/
theorem own_set {w : World} {base : Nat} {e : TypeId} {size : Nat} {v : Value} {n : Nat} {xs : List Value} (h : w.ownsRow base e size v n xs) {gb : Nat} (hv : v.ownBlock = some gb) (j : Nat) (hj : j < n * size) (u : Value) :
    (w.setCell ⟨gb, j, none⟩ u).ownsRow base e size v n (xs.set j u) := by
  obtain ⟨h1, h2⟩ := h
  refine ⟨by simpa using h1, ?_⟩
  rcases h2 with ⟨rfl, rfl⟩ | ⟨g, cap, cur, rfl, hb, hh, hn, hc, hs, htk⟩
  · simp [Value.ownBlock] at hv
  · simp only [Value.ownBlock, Option.some.injEq] at hv
    subst hv
    refine .inr ⟨g, cap, cur.setIfInBounds j u, rfl, hb, heap_setCell_at hh j u, hn, hc, by simpa using hs, ?_⟩
    rw [← htk]
    simp only [Array.toList_setIfInBounds]
    rw [List.take_set]

/-- What is asked of a slice type and its elements. -/
structure RowT (P : Program) (t e : TypeId) (size bytes : Nat) : Prop where
  ht : P.underlying t = some (.slice e)
  hinfo : ∃ i z, P.info? e = some i ∧ i.zero = some z ∧ i.size = size ∧ i.bytes = bytes ∧ z.cells.size = size
  hsz : 0 < size

/-- What is appended: m elements' cells. -/
def Src (w : World) (u : Value) (m size : Nat) (news : List Value) : Prop :=
  ∃ A c, u = .slice A m c ∧ news.length = m * size ∧ (∀ v ∈ news, v.oneCell' = true) ∧ (0 < m → ∃ ad, A = some ad ∧ Cells w ad news)

section
variable {P : Program} {w : World} {base : Nat} {t e : TypeId} {size bytes : Nat} {v : Value} {n : Nat} {xs : List Value} {u : Value} {m : Nat} {news : List Value}

theorem run_append_none (R : RowT P t e size bytes) (ty : TypeId) (hown : w.ownsRow base e size v n xs) (A : Option Addr) (c : Nat) :
    (Builtin.append_ #[t, t] ty #[v, .slice A 0 c]).run P w = .ok v w := by
  obtain ⟨i, z, hi, hz, h1, h2, h3⟩ := R.hinfo
  rcases hown.2 with ⟨rfl, rfl⟩ | ⟨g, cap, cur, rfl, hbg, hg, hnc, hcm, hcs, htake⟩
  · cases A <;> simp [Builtin.append_, run_underlying R.ht, sizeOf, typeInfo, hi, Builtin.lenOf, Builtin.firstCells, loadCells, loadCellsFrom]
  · cases A <;> simp [Builtin.append_, run_underlying R.ht, sizeOf, typeInfo, hi, Builtin.lenOf, Builtin.firstCells, loadCells, loadCellsFrom, hnc, storeCells]

theorem run_append_src (R : RowT P t e size bytes) (ty : TypeId) (hown : w.ownsRow base e size v n xs) (hs : Src w u m size news) (hbytes : (n + m) * bytes ≤ 140737488355328) (h63 : n + m ≤ maxLen) (hbase : base ≤ w.heap.size) :
    ∃ v' w', (Builtin.append_ #[t, t] ty #[v, u]).run P w = .ok v' w' ∧ w'.ownsRow base e size v' (n + m) (xs ++ news) ∧ w.grownBy w' v.ownBlock ∧
      (v' = .slice none 0 0 ↔ v = .slice none 0 0 ∧ m = 0) ∧ (v'.ownBlock = v.ownBlock ∨ v'.ownBlock = some w.heap.size) := by
  obtain ⟨i, z, hi, hz, h1, h2, h3⟩ := R.hinfo
  obtain ⟨A, c, rfl, hl, ho, hA⟩ := hs
  by_cases hm : 0 < m
  · obtain ⟨ad, rfl, hc⟩ := hA hm
    exact run_append_own_at w base t ty e i z size bytes R.ht hi hz h1 h2 h3 R.hsz v n xs hown ad m c news hl hc ho h63 hbytes hbase
  · have : m = 0 := by omega
    subst this
    have hn : news = [] := List.eq_nil_of_length_eq_zero (by simpa using hl)
    subst hn
    exact ⟨v, w, run_append_none R ty hown A c, by simpa using hown, ⟨rfl, rfl, rfl, Nat.le_refl _, fun _ _ _ => rfl⟩, by simp, .inl rfl⟩

variable {ops : Array Oper} {rest : List Oper} {o : Oper} {a : Act} {Q : Exit → Act → World → Prop}

theorem wp_append_src {K : Act → World → Prop} (s x : Operand) (R : RowT P t e size bytes)
    (ho : o.op = .call { callee := .builtin .append, args := #[s, x], argTypes := #[t, t] })
    (hs : a.eval s = v) (hown : w.ownsRow base e size v n xs) (hx : a.eval x = u) (hsrc : Src w u m size news)
    (hbytes : (n + m) * bytes ≤ 140737488355328) (h63 : n + m ≤ maxLen) (hbase : base ≤ w.heap.size)
    (h : ∀ v' w', w'.ownsRow base e size v' (n + m) (xs ++ news) → w.grownBy w' v.ownBlock → (v' = .slice none 0 0 ↔ v = .slice none 0 0 ∧ m = 0) → (v'.ownBlock = v.ownBlock ∨ v'.ownBlock = some w.heap.size) → K (a.put o.dst v') w') :
    o.wp P a w K Q := by
  obtain ⟨v', w', hr, h2, h3, h4, h5⟩ := run_append_src (P := P) R o.type hown hsrc hbytes h63 hbase
  unfold Oper.wp execOp
  simp only [ho, resolve, invoke, builtin, Sem.run_bind, Sem.run_pure, Result.andThen_ok, List.map_toArray, List.map_cons, List.map_nil, hs, hx, hr]
  exact h v' w' h2 h3 h4 h5

/-- AT THE OPERATION, in a walk: behind 'at_builtin'. -/
theorem wpList_append_src (hgd : o.guard = none) (s x : Operand) (R : RowT P t e size bytes)
    (ho : o.op = .call { callee := .builtin .append, args := #[s, x], argTypes := #[t, t] })
    (hs : a.eval s = v) (hown : w.ownsRow base e size v n xs) (hx : a.eval x = u) (hsrc : Src w u m size news)
    (hbytes : (n + m) * bytes ≤ 140737488355328) (h63 : n + m ≤ maxLen) (hbase : base ≤ w.heap.size)
    (h : ∀ v' w', w'.ownsRow base e size v' (n + m) (xs ++ news) → w.grownBy w' v.ownBlock → (v' = .slice none 0 0 ↔ v = .slice none 0 0 ∧ m = 0) → (v'.ownBlock = v.ownBlock ∨ v'.ownBlock = some w.heap.size) → wpList P ops Q rest (a.put o.dst v') w') :
    wpList P ops Q (o :: rest) a w :=
  wpList_plain hgd fun K hK => wp_append_src s x R ho hs hown hx hsrc hbytes h63 hbase (fun v' w' h2 h3 h4 h5 => hK _ _ (h v' w' h2 h3 h4 h5))

/-- AT A STEP OF A REGION THAT DRAWS ITS ORDER. -/
theorem step_append_src {K : Act → World → Prop} {E : Prop} (hgd : o.guard = none) (s x : Operand) (R : RowT P t e size bytes)
    (ho : o.op = .call { callee := .builtin .append, args := #[s, x], argTypes := #[t, t] })
    (hs : a.eval s = v) (hown : w.ownsRow base e size v n xs) (hx : a.eval x = u) (hsrc : Src w u m size news)
    (hbytes : (n + m) * bytes ≤ 140737488355328) (h63 : n + m ≤ maxLen) (hbase : base ≤ w.heap.size)
    (h : ∀ v' w', w'.ownsRow base e size v' (n + m) (xs ++ news) → w.grownBy w' v.ownBlock → (v' = .slice none 0 0 ↔ v = .slice none 0 0 ∧ m = 0) → (v'.ownBlock = v.ownBlock ∨ v'.ownBlock = some w.heap.size) → K (a.put o.dst v') w') :
    if Region.wanted o (yielded ops a.tmps) = true then Oper.wp P o a w K Q else E := by
  have hw : Region.wanted o (yielded ops a.tmps) = true := by simp [Region.wanted, hgd]
  rw [if_pos hw]
  exact wp_append_src s x R ho hs hown hx hsrc hbytes h63 hbase h
end

/-- One element that was just laid into a block of its own: 'append(s, x)'. -/
theorem Src.block {w : World} {b : Nat} {cs : Array Value} {t : TypeId} {fr : Nat × Nat} {size : Nat} (hb : w.heap[b]? = some (.cells cs t fr)) (hl : cs.size = size) (h1 : ∀ v ∈ cs.toList, v.oneCell' = true) : Src w (.slice (some ⟨b, 0, none⟩) 1 1) 1 size cs.toList :=
  ⟨_, _, rfl, by simpa using hl, h1, fun _ => ⟨_, rfl, World.news_of_block hb⟩⟩
theorem Src.alloc {w : World} {cs : Array Value} {t : TypeId} {size : Nat} (hl : cs.size = size) (h1 : ∀ v ∈ cs.toList, v.oneCell' = true) : Src (w.alloc (.cells cs t)) (.slice (some ⟨w.heap.size, 0, none⟩) 1 1) 1 size cs.toList :=
  Src.block (heap_alloc_new w _) hl h1
theorem Src.below {w w' : World} {u : Value} {m size : Nat} {news : List Value} (h : Src w u m size news) (hsz : 0 < size) (k : Below w.heap.size w w') : Src w' u m size news := by
  obtain ⟨A, c, h1, h2, h3, h4⟩ := h
  refine ⟨A, c, h1, h2, h3, fun h0 => ?_⟩
  obtain ⟨ad, e, hc⟩ := h4 h0
  exact ⟨ad, e, hc.move (k.block _ (hc.lt (by intro e; subst e; have := Nat.mul_pos h0 hsz; simp at h2; omega)))⟩
theorem Src.drew {w : World} {u : Value} {m size : Nat} {news : List Value} (h : Src w u m size news) : Src w.drew u m size news := h
theorem own_drew {w : World} {base : Nat} {e : TypeId} {size : Nat} {v : Value} {n : Nat} {xs : List Value} (h : w.ownsRow base e size v n xs) : w.drew.ownsRow base e size v n xs := h
theorem own_drewN {w : World} {base : Nat} {e : TypeId} {size : Nat} {v : Value} {n : Nat} {xs : List Value} (h : w.ownsRow base e size v n xs) (m : Nat) : (w.drewN m).ownsRow base e size v n xs := h
theorem Src.rb {w : World} {S : Nat → Prop} {v : Value} {xs : List Int} (h : RB w S v xs) : Src w v xs.length 1 (u8s xs) := by
  obtain ⟨A, c, h1, h2, h3, h4, h5⟩ := h
  refine ⟨A, c, h1, by simp [u8s], by simp [u8s, Value.oneCell'], fun h0 => ?_⟩
  obtain ⟨ad, e, _, hc⟩ := h5 (by intro e; subst e; simp at h0)
  exact ⟨ad, e, hc⟩
/-- An own row reads as its bytes. -/
theorem RB.of_own {w : World} {base : Nat} {e : TypeId} {v : Value} {xs : List Int} {S : Nat → Prop} (h : w.ownsRow base e 1 v xs.length (u8s xs)) (hb : IsB xs) (hS : ∀ k, v.ownBlock = some k → S k) : RB w S v xs := by
  rcases h.2 with ⟨rfl, h0⟩ | ⟨g, cap, cur, rfl, _, hg, hn, hc, hs, ht⟩
  · have : xs = [] := List.eq_nil_of_length_eq_zero h0
    subst this
    exact ⟨none, 0, rfl, Nat.le_refl _, Nat.zero_le _, hb, fun h => absurd rfl h⟩
  · exact ⟨_, _, rfl, hn, hc, hb, fun _ => ⟨_, rfl, hS g rfl, fun j u hu => h.cells (g := g) rfl j u hu⟩⟩
end Go.Proofs.Cul
