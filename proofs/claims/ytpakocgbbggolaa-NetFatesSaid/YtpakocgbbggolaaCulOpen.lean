import Derived.Test.YtpakocgbbggolaaCulRow
import Derived.ProofKit
import Derived.OpenShut
import Derived.ChangeStays
import Derived.ChangeSame
import Derived.Deep.Slices
import Derived.Deep.Fields
set_option linter.unusedSimpArgs false
set_option linter.unusedVariables false
namespace Go.Proofs.Cul
open Go.RowKit Go.ChangeShapes Go.WideShapes Go.Deep

theorem cadd_add (a : Addr) (i j : Nat) : (a.add i).add j = a.add (i + j) := by
  unfold Addr.add
  by_cases hi : i = 0 <;> by_cases hj : j = 0 <;> simp [hi, hj, Nat.add_assoc]

section
variable {H : Type} {enc : TypeId × Value → H} {P : Program} {w : World}

/-- A slice of structs of one-cell fields, opened to cells. -/
theorem open_fields {base : Nat} {spare : Nat → Bool} {held : Bool} {t e : TypeId} {fs : Array Field} {fuel : Nat} {cs : List Value} {x : DataW H × List MemPlace} (ht : P.underlying t = some (.slice e)) (he : P.underlying e = some (.struct fs))
    (hone : oneCellFields P fs = true) (hC : P.cellsOf e = fs.size) (h : DataW.trod enc P w base spare held fuel t cs = some x) :
    (cs = [.slice none 0 0] ∧ x = (.nil, [])) ∨
    ∃ (a : Addr) (len cap m : Nat), cs = [.slice (some a) len cap] ∧ len ≤ cap ∧ cap ≤ maxLen ∧ len ≤ m ∧
      ∀ i, i < m → ∃ n, ∀ (j : Nat) (f : Field), fs[j]? = some f → ∃ (v : Value) (y : DataW H × List MemPlace), w.cell? (a.add (i * fs.size + j)) = some v ∧ DataW.trod enc P w base spare held n f.type [v] = some y := by
  rcases open_slice ht h with h0 | ⟨a, len, cap, m, n, D, Pl, hcs, hb, hl, hm, hmm, hx, hi⟩
  · exact .inl h0
  · refine .inr ⟨a, len, cap, m, hcs, hl, hm, by rw [hmm]; split <;> omega, fun i him => ?_⟩
    obtain ⟨cs', hc, ht'⟩ := hi i him
    rw [hC] at hc
    obtain ⟨ys, n', hn', hy, hlen, hyl, hf⟩ := DataW.trod_struct he ht'
    obtain ⟨_, hcl, hat⟩ := World.cells?_some hc
    refine ⟨n', fun j f hj => ?_⟩
    obtain ⟨ho, hk⟩ := hone_of hone j f hj
    have hjl : j < fs.size := (Array.getElem?_eq_some_iff.1 hj).1
    have hcell := hat j hjl
    have hv : cs'[j]? = some (cs'[j]'(by omega)) := List.getElem?_eq_getElem (by omega)
    have h1 := hf j f hj
    rw [ho, hk] at h1
    have hone' : (cs'.drop j).take 1 = [cs'[j]'(by omega)] := by
      rw [List.drop_eq_getElem_cons (by omega)]
      rfl
    rw [hone'] at h1
    have hys : ys[j]? = some (ys[j]'(by omega)) := List.getElem?_eq_getElem (by omega)
    refine ⟨_, _, ?_, h1.trans hys⟩
    rw [← cadd_add, hcell, hv]

/-- Bytes that came in. -/
theorem open_bytes {base : Nat} {spare : Nat → Bool} {held : Bool} {t e : TypeId} {fuel : Nat} {v : Value} {x : DataW H × List MemPlace} (ht : P.underlying t = some (.slice e)) (he : P.underlying e = some (.int .u8)) (hC : P.cellsOf e = 1)
    (h : DataW.trod enc P w base spare held fuel t [v] = some x) : ∃ A c xs, v = .slice A xs.length c ∧ RB w (fun k => k < w.heap.size) (.slice A xs.length c) xs := by
  rcases open_slice ht h with ⟨h0, _⟩ | ⟨a, len, cap, m, n, D, Pl, hcs, hb, hl, hm, hmm, hx, hi⟩
  · simp only [List.cons.injEq, and_true] at h0
    subst h0
    exact ⟨none, 0, [], rfl, none, 0, rfl, Nat.le_refl _, Nat.zero_le _, fun x hx => by simp at hx, fun h => absurd rfl h⟩
  · simp only [List.cons.injEq, and_true] at hcs
    subst hcs
    rw [hC] at hi
    have hlm : len ≤ m := by rw [hmm]; split <;> omega
    have hex : ∀ i : Nat, ∃ z : Int, i < len → w.cell? (a.add i) = some (.int .u8 z) ∧ 0 ≤ z ∧ z ≤ 255 := by
      intro i
      by_cases hlt : i < len
      · obtain ⟨cs', hc, ht'⟩ := hi i (by omega)
        obtain ⟨z, hz, _, hwf⟩ := DataW.trod_int he ht'
        obtain ⟨_, hcl, hat⟩ := World.cells?_some hc
        have := hat 0 (by omega)
        rw [hz] at this
        refine ⟨z, fun _ => ⟨?_, ?_⟩⟩
        · rw [Nat.mul_one] at this
          simpa [cadd_add] using this
        · simpa [Lit.wf, IntKind.min, IntKind.max, IntKind.bits, IntKind.signed] using hwf
      · exact ⟨0, fun h => absurd h hlt⟩
    obtain ⟨f, hf⟩ := Classical.axiomOfChoice hex
    have hlen : ((List.range len).map f).length = len := by simp
    refine ⟨some a, cap, (List.range len).map f, by rw [hlen], some a, cap, rfl, by rw [hlen]; exact hl, hm, fun x hx => ?_, fun hne => ?_⟩
    · obtain ⟨i, hi', rfl⟩ := List.mem_map.1 hx
      exact (hf i (List.mem_range.1 hi')).2
    · have hcl : Cells w a (u8s ((List.range len).map f)) := by
        intro j u hu
        simp only [u8s, List.map_map, List.getElem?_map, Option.map_eq_some_iff] at hu
        obtain ⟨i, hi', rfl⟩ := hu
        have := List.getElem?_eq_some_iff.1 hi'
        obtain ⟨hj, he'⟩ := this
        simp only [List.getElem_range] at he'
        subst he'
        exact (hf j (by simpa using hj)).1
      exact ⟨a, rfl, hcl.lt (u8s_ne hne), hcl⟩

/-- Elements whose cells are known make a row. -/
theorem RRow.of_cells {α : Type} {K : α → List Value → Prop} {sz : Nat} {S : Nat → Prop} {a : Addr} {len cap : Nat} (hsz : 0 < sz) (hl : len ≤ cap) (hm : cap ≤ maxLen) (hS : ∀ k, k < w.heap.size → S k)
    (h : ∀ i, i < len → ∃ (x : α) (cs : List Value), K x cs ∧ cs.length = sz ∧ ∀ (j : Nat) u, cs[j]? = some u → w.cell? (a.add (i * sz + j)) = some u) : ∃ xs : List α, xs.length = len ∧ RRow K sz w S (.slice (some a) len cap) xs := by
  by_cases h0 : len = 0
  · subst h0
    exact ⟨[], rfl, some a, cap, [], rfl, Nat.zero_le _, hm, rfl, fun i x cs h => by simp at h, fun h => absurd rfl h⟩
  have hex : ∀ i : Nat, ∃ z : α × List Value, i < len → K z.1 z.2 ∧ z.2.length = sz ∧ ∀ (j : Nat) u, z.2[j]? = some u → w.cell? (a.add (i * sz + j)) = some u := by
    intro i
    by_cases hlt : i < len
    · obtain ⟨x, cs, h1⟩ := h i hlt
      exact ⟨(x, cs), fun _ => h1⟩
    · obtain ⟨x, cs, _⟩ := h 0 (by omega)
      exact ⟨(x, cs), fun h => absurd h hlt⟩
  obtain ⟨f, hf⟩ := Classical.axiomOfChoice hex
  have hat : ∀ (i : Nat) (y : α × List Value), ((List.range len).map f)[i]? = some y → i < len ∧ y = f i := fun i y hy => by
    simp only [List.getElem?_map, Option.map_eq_some_iff] at hy
    obtain ⟨k, hk, rfl⟩ := hy
    obtain ⟨hk1, hk2⟩ := List.getElem?_eq_some_iff.1 hk
    simp only [List.getElem_range] at hk2
    subst hk2
    exact ⟨by simpa using hk1, rfl⟩
  have hcs : ∀ (i : Nat) cs, (((List.range len).map f).map (·.2))[i]? = some cs → i < len ∧ cs = (f i).2 := fun i cs hc => by
    rw [List.getElem?_map, Option.map_eq_some_iff] at hc
    obtain ⟨y, hy, rfl⟩ := hc
    obtain ⟨h1, rfl⟩ := hat i y hy
    exact ⟨h1, rfl⟩
  have hcl : Cells w a ((((List.range len).map f).map (·.2)).flatten) := by
    intro j u hu
    have hfl := flatten_len (sz := sz) (((List.range len).map f).map (·.2)) (fun i cs hc => by obtain ⟨h1, rfl⟩ := hcs i cs hc; exact (hf i h1).2.1)
    have hj := (List.getElem?_eq_some_iff.1 hu).1
    rw [hfl] at hj
    simp only [List.length_map, List.length_range] at hj
    have h1 : j / sz < len := by rw [Nat.div_lt_iff_lt_mul hsz]; exact hj
    have h2 : j % sz < sz := Nat.mod_lt _ hsz
    obtain ⟨k1, k2, k3⟩ := hf (j / sz) h1
    have h3 : (((List.range len).map f).map (·.2))[j / sz]? = some (f (j / sz)).2 := by simp [h1]
    have h4 : (f (j / sz)).2[j % sz]? = some ((f (j / sz)).2[j % sz]'(by omega)) := List.getElem?_eq_getElem (by omega)
    have h5 := flatten_at (sz := sz) (((List.range len).map f).map (·.2)) (fun i cs hc => by obtain ⟨h1, rfl⟩ := hcs i cs hc; exact (hf i h1).2.1) _ _ h3 _ _ h4
    have h6 : j / sz * sz + j % sz = j := by rw [Nat.mul_comm]; exact Nat.div_add_mod j sz
    rw [h6, hu] at h5
    injection h5 with h5
    have h7 := k3 _ _ h4
    rw [h6] at h7
    rw [h7, h5]
  refine ⟨((List.range len).map f).map (·.1), by simp, some a, cap, ((List.range len).map f).map (·.2), by simp, by simpa using hl, hm, by simp, fun i x cs hx hc => ?_, fun hne => ⟨a, rfl, hS _ (hcl.lt (fun e => ?_)), hcl⟩⟩
  · obtain ⟨h1, rfl⟩ := hcs i cs hc
    rw [List.getElem?_map, Option.map_eq_some_iff] at hx
    obtain ⟨y, hy, rfl⟩ := hx
    obtain ⟨_, rfl⟩ := hat i y hy
    exact ⟨(hf i h1).1, (hf i h1).2.1⟩
  · have hfl := flatten_len (sz := sz) (((List.range len).map f).map (·.2)) (fun i cs hc => by obtain ⟨h1, rfl⟩ := hcs i cs hc; exact (hf i h1).2.1)
    rw [e] at hfl
    simp only [List.length_nil, List.length_map, List.length_range] at hfl
    have : 0 < len * sz := Nat.mul_pos (by omega) hsz
    omega

/-- The arguments read behind the call as they did before. -/
theorem args_stay {W W' : World} {T : TypeId → Prop} (K : Kids P T) (hsz : ∀ {t e : TypeId}, T t → P.underlying t = some (.slice e) → 0 < P.cellsOf e) (hb : Below W.heap.size W W') {sp : Nat → Bool} :
    ∀ {ts : List TypeId} {vs : List Value} {ds : List (DataW H)} {ps : List MemPlace}, (∀ t ∈ ts, T t) → DataW.TrodAll enc P W 0 (fun _ => true) true ts vs ds ps → (∀ p ∈ ps, p.block < W.heap.size) → (∀ p ∈ ps, sp p.block = true) → DataW.TrodAll enc P W' 0 sp true ts vs ds ps
  | [], [], [], ps, _, h, _, _ => h
  | t :: ts, v :: vs, d :: ds, ps, hT, ⟨p, q, ⟨n, h1⟩, h2, e⟩, hlt, hs => by
    subst e
    refine ⟨p, q, ⟨n, DataW.trod_stays K hsz (fun h => by cases h) (hT t List.mem_cons_self) h1 (fun x hx => hb.same (hlt x (List.mem_append_left _ hx))) (fun x hx => hs x (List.mem_append_left _ hx))⟩, ?_, rfl⟩
    exact args_stay K hsz hb (fun t ht => hT t (List.mem_cons_of_mem _ ht)) h2 (fun x hx => hlt x (List.mem_append_right _ hx)) (fun x hx => hs x (List.mem_append_right _ hx))

/-- A law's post: true, and nothing of what was there has changed. -/
theorem law_post {f : Func} {s : ChangeSpec} {fresh handsOn again : Bool} {W W' : World} {args : Array Value} {ds gs : List (DataW H)} {before : List MemPlace} {T : TypeId → Prop} {tb : TypeId}
    (K : Kids P T) (hsz : ∀ {t e : TypeId}, T t → P.underlying t = some (.slice e) → 0 < P.cellsOf e) (hT : ∀ t ∈ f.params.toList, T t) (hvars : s.vars = [])
    (hW : DataW.Whole enc P f.params.toList s.vars false W args.toList ds gs before) (hfn : s.fn H ds = { results := [.lit (.bool true)], args := ds, vars := [] }) (hr : f.resultTypes = #[tb]) (htb : P.underlying tb = some .bool) (hb : Below W.heap.size W W') :
    s.post enc P f false fresh handsOn again W args (.bool true) W' := by
  have hW' := hW
  obtain ⟨p, q, hA, hV, rfl, hfz, hnd⟩ := hW
  rw [hvars] at hV
  obtain ⟨rfl, rfl⟩ := trodVars_none hV
  have hlt : ∀ x ∈ p, x.block < W.heap.size := fun x hx => hW'.lt x (List.mem_append_left _ hx)
  have hold : ∀ x ∈ p ++ [], (fun b => decide (b < W.heap.size)) x.block = true := fun x hx => by simpa using hlt x (by simpa using hx)
  have hargs : ∀ sp : Nat → Bool, (∀ x ∈ p ++ [], sp x.block = true) → DataW.TrodAll enc P W' 0 sp true f.params.toList args.toList ds p := fun sp hs =>
    args_stay K hsz hb hT hA hlt (fun x hx => hs x (List.mem_append_left _ hx))
  have hres : ∀ (b : Nat) (sp : Nat → Bool) (hd : Bool), DataW.TrodAll enc P W' b sp hd f.resultTypes.toList ((Value.bool true).resultList f.resultTypes.size) [.lit (.bool true)] [] := fun b sp hd => by
    rw [hr]
    exact trodAll_mk1 (shut_bool htb true)
  have e : s.fn H (ds ++ []) = { results := [.lit (.bool true)], args := ds, vars := [] } := by rw [List.append_nil]; exact hfn
  have hV' : ∀ sp : Nat → Bool, DataW.TrodVars enc P W' sp s.vars [] [] := fun sp => by rw [hvars]; rfl
  refine ⟨ds, [], p ++ [], [], p, [], hW', by rw [e]; exact hres _ _ _, by rw [e]; exact hargs _ hold, by rw [e]; exact hV' _, World.keptBut_mono (fun x hx => ⟨hx, Or.inr (by simpa using hx)⟩) (hb.frame (· ∈ p ++ [])), fun _ => ?_⟩
  refine ⟨ok_one hr rfl (okWide_bool_mk htb true), _, _, ([] ++ p) ++ [], ⟨[] ++ p, [], trodAll_append (hargs _ (fun _ _ => rfl)) (hres _ _ _), hV' _, rfl, ?_, ?_⟩, ?_⟩
  · intro b off hp
    have hin : MemPlace.cell b off ∈ p := by simpa using hp
    rw [hb.frozen (hlt _ hin)]
    exact hfz b off (by simpa using hin)
  · intro ha
    cases ha
  · intro x hx _
    simpa using hx
end
end Go.Proofs.Cul
