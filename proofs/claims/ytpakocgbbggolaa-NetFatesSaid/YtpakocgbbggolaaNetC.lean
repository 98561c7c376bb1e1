import Derived.Test.YtpakocgbbggolaaNetB
import Derived.Test.YtpakocgbbggolaaCulSlice
set_option linter.unusedSimpArgs false
set_option linter.unusedVariables false
namespace Go.Proofs.Ytpakocgbbggolaa
open Go.RowKit Go.Proofs.Cul

/-- Cells of flights. -/
def flCells : List Fl → List Value → List Value
  | f :: fs, d :: ds => [.int .i64 f.no, .int .i64 f.to, d] ++ flCells fs ds
  | _, _ => []

/-- The reference's net at block g: what it holds, and that nothing else of S is in the way. -/
def RefP (w : World) (S : Nat → Prop) (g : Nat) (s : St) : Prop :=
  ∃ (L : Value) (ds : List Value), w.heap[g]? = some (.cells #[L, .int .i64 s.given] 68 (0, 0)) ∧ S g ∧ (∀ k, L.ownBlock = some k → S k) ∧
    w.ownsRow 0 49 3 L s.fl.length (flCells s.fl ds) ∧ ds.length = s.fl.length ∧
    ∀ p ∈ s.fl.zip ds, RB w (fun k => S k ∧ k ≠ g ∧ L.ownBlock ≠ some k) p.2 p.1.data

theorem flCells_len : ∀ (fs : List Fl) (ds : List Value), ds.length = fs.length → (flCells fs ds).length = fs.length * 3
  | [], _, _ => by simp [flCells]
  | f :: fs, [], h => by simp at h
  | f :: fs, d :: ds, h => by
    have := flCells_len fs ds (by simpa using h)
    simp [flCells, this]
    omega
theorem flCells_flat : ∀ (fs : List Fl) (ds : List Value), ds.length = fs.length → flCells fs ds = ((fs.zip ds).map fun p => [Value.int .i64 p.1.no, .int .i64 p.1.to, p.2]).flatten
  | [], _, _ => by simp [flCells]
  | f :: fs, [], h => by simp at h
  | f :: fs, d :: ds, h => by simp [flCells, flCells_flat fs ds (by simpa using h)]

/-- An own row of flights is read. -/
theorem RF.of_own {w : World} {S : Nat → Prop} {L : Value} {fs : List Fl} {ds : List Value} (ho : w.ownsRow 0 49 3 L fs.length (flCells fs ds)) (hl : ds.length = fs.length)
    (hS : ∀ k, L.ownBlock = some k → S k) (hD : ∀ p ∈ fs.zip ds, RB w S p.2 p.1.data) : RF w S L fs := by
  rw [flCells_flat fs ds hl] at ho
  have hz : (fs.zip ds).length = fs.length := by simp [hl]
  have hK : ∀ (i : Nat) (x : Fl) (cs : List Value), fs[i]? = some x → ((fs.zip ds).map fun p => [Value.int .i64 p.1.no, .int .i64 p.1.to, p.2])[i]? = some cs → KF w S x cs ∧ cs.length = 3 := by
    intro i x cs hx hc
    simp only [List.getElem?_map, Option.map_eq_some_iff] at hc
    obtain ⟨⟨f, d⟩, hp, rfl⟩ := hc
    have h1 : fs[i]? = some f := by have := congrArg (Option.map Prod.fst) hp; simp [List.getElem?_zip_eq_some] at this hp; exact hp.1
    have h2 : ds[i]? = some d := by simp [List.getElem?_zip_eq_some] at hp; exact hp.2
    rw [hx] at h1
    cases h1
    exact ⟨⟨d, rfl, hD _ (List.mem_of_getElem? hp)⟩, rfl⟩
  rcases ho.2 with ⟨rfl, h0⟩ | ⟨gb, cap, cur, rfl, _, hb, hn, hc, hs, ht⟩
  · have : fs = [] := List.eq_nil_of_length_eq_zero h0
    subst this
    exact RRow.nil _ _ _ _
  · refine ⟨some ⟨gb, 0, none⟩, cap, (fs.zip ds).map fun p => [Value.int .i64 p.1.no, .int .i64 p.1.to, p.2], rfl, hn, hc, by simp [hl], hK, fun _ => ⟨_, rfl, hS gb rfl, ?_⟩⟩
    intro j u hu
    exact ho.cells (g := gb) rfl j u hu

theorem own_typed' {w : World} {base : Nat} {e : TypeId} {size : Nat} {v : Value} {n : Nat} {xs : List Value} (h : w.ownsRow base e size v n xs) (k : Nat) (hk : v.ownBlock = some k) : ∃ cells, w.heap[k]? = some (.cells cells e (0, 0)) := by
  rcases h.2 with ⟨rfl, _⟩ | ⟨gb, cap, cur, rfl, _, hb, _⟩
  · simp [Value.ownBlock] at hk
  · simp only [Value.ownBlock, Option.some.injEq] at hk
    subst hk
    exact ⟨cur, hb⟩
theorem RefP.reads {w : World} {S : Nat → Prop} {g : Nat} {s : St} (h : RefP w S g s) :
    ∃ L, w.heap[g]? = some (.cells #[L, .int .i64 s.given] 68 (0, 0)) ∧ w.cell? ⟨g, 0, none⟩ = some L ∧ w.cell? ⟨g, 1, none⟩ = some (.int .i64 s.given) ∧ S g ∧ RF w (fun k => S k ∧ k ≠ g) L s.fl := by
  obtain ⟨L, ds, hg, hS, hL, ho, hl, hD⟩ := h
  refine ⟨L, hg, by simp [World.cell?, hg], by simp [World.cell?, hg], hS, RF.of_own ho hl (fun k hk => ⟨hL k hk, fun e => ?_⟩) (fun p hp => (hD p hp).mono (fun k hk _ => ⟨hk.1, hk.2.1⟩))⟩
  obtain ⟨cells, hc⟩ := own_typed' ho k hk
  rw [e, hg] at hc
  cases hc

theorem place_calls (w : World) (S : Nat → Prop) (g : Nat) (s : St) (h : RefP w S g s) (no : Int) :
    Calls Try.prog 38 #[.pointer (some ⟨g, 0, none⟩), .int .i64 no] w fun e w' => ∃ i : Int, e = .returned (.int .i64 i) ∧ PlaceOf no s.fl i ∧ w = w' := by
  obtain ⟨L, _, c0, c1, _, hr⟩ := h.reads
  have l1 := lenF hr
  have m1 := RRow.le hr
  clear h
  go_enter Try.func38, Try.ntmps38
  go_wp2
  go_loop [5] (fun i => ∃ k : Nat, k ≤ s.fl.length ∧ i = .int .i64 k ∧ Hid (∀ j (hj : j < s.fl.length), j < k → s.fl[j].no ≠ no)) (fun i => s.fl.length - (intOf i).toNat)
  case atStart => exact ⟨0, Nat.zero_le _, rfl, fun j _ h => absurd h (by omega)⟩
  case round =>
    obtain ⟨k, hk, rfl, hkk⟩ := hrel
    by_cases hlt : k < s.fl.length
    · obtain ⟨p, d, hp, _, q, hc, hb⟩ := idxF hr k hlt
      have e1 := hc.at0
      clear hc hb
      generalize hno : s.fl[k].no = n at e1
      have HNO := Lib.hid hno
      clear hno
      go_wp2
      · have he : (n == no) = true := by assumption
        go_ret
        refine ⟨k, rfl, Or.inr ⟨k, hlt, rfl, ?_⟩, rfl⟩
        exact at_first hlt (by rw [HNO.out]; simpa using he) hkk.out
      · have he : (n == no) = false := by assumption
        go_round
        case rel => exact ⟨k + 1, by omega, by go_num, fun j hj hjk => by
          by_cases e : j = k
          · subst e; rw [HNO.out]; simpa using he
          · exact hkk.out j hj (by omega)⟩
        case measure => simp [intOf]; omega
    · have hkl : k = s.fl.length := by omega
      subst hkl
      go_wp2
      go_ret
      exact ⟨-1, rfl, Or.inl ⟨rfl, not_there (fun j hj => hkk.out j hj hj)⟩, rfl⟩

theorem rowT5 : RowT Try.prog 26 5 1 1 := ⟨Try.underlying26, by obtain ⟨i0, hi, hz0, hz1, hz2⟩ := info_parts info5; exact ⟨i0, _, hi, hz0, hz1, hz2, rfl⟩, by decide⟩
theorem rowT49 : RowT Try.prog 41 49 3 40 := ⟨Try.underlying41, by obtain ⟨i0, hi, hz0, hz1, hz2⟩ := info_parts info49; exact ⟨i0, _, hi, hz0, hz1, hz2, rfl⟩, by decide⟩

theorem flCells_take : ∀ (k : Nat) (fs : List Fl) (ds : List Value), ds.length = fs.length → (flCells fs ds).take (k * 3) = flCells (fs.take k) (ds.take k)
  | 0, fs, ds, _ => by simp [flCells]
  | k + 1, [], _, _ => by simp [flCells]
  | k + 1, f :: fs, [], h => by simp at h
  | k + 1, f :: fs, d :: ds, h => by
    have := flCells_take k fs ds (by simpa using h)
    simp only [flCells, List.take_succ_cons, ← this]
    rw [show (k + 1) * 3 = k * 3 + 3 by omega]
    simp
theorem flCells_drop : ∀ (k : Nat) (fs : List Fl) (ds : List Value), ds.length = fs.length → (flCells fs ds).drop (k * 3) = flCells (fs.drop k) (ds.drop k)
  | 0, fs, ds, _ => by simp
  | k + 1, [], _, _ => by simp [flCells]
  | k + 1, f :: fs, [], h => by simp at h
  | k + 1, f :: fs, d :: ds, h => by
    have := flCells_drop k fs ds (by simpa using h)
    simp only [flCells, List.drop_succ_cons, ← this]
    rw [show (k + 1) * 3 = k * 3 + 3 by omega]
    simp
theorem flCells_append : ∀ (fs : List Fl) (ds : List Value) (fs' : List Fl) (ds' : List Value), ds.length = fs.length → flCells (fs ++ fs') (ds ++ ds') = flCells fs ds ++ flCells fs' ds'
  | [], [], _, _, _ => by simp [flCells]
  | [], d :: ds, _, _, h => by simp at h
  | f :: fs, [], _, _, h => by simp at h
  | f :: fs, d :: ds, fs', ds', h => by simp [flCells, flCells_append fs ds fs' ds' (by simpa using h)]
theorem flCells_one {w : World} {S : Nat → Prop} : ∀ (fs : List Fl) (ds : List Value), (∀ p ∈ fs.zip ds, RB w S p.2 p.1.data) → ∀ u ∈ flCells fs ds, u.oneCell' = true
  | [], ds, _, u, hu => by simp [flCells] at hu
  | f :: fs, [], _, u, hu => by simp [flCells] at hu
  | f :: fs, d :: ds, h, u, hu => by
    simp only [flCells, List.cons_append, List.nil_append, List.mem_cons] at hu
    rcases hu with rfl | rfl | rfl | hu
    · rfl
    · rfl
    · exact (h (f, u) (by simp)).one
    · exact flCells_one fs ds (fun p hp => h p (by simp [hp])) u hu
theorem zip_take_mem {α β : Type} : ∀ {k : Nat} {fs : List α} {ds : List β} {p : α × β}, p ∈ (fs.take k).zip (ds.take k) → p ∈ fs.zip ds
  | 0, _, _, _, h => by simp at h
  | k + 1, [], _, _, h => by simp at h
  | k + 1, f :: fs, [], _, h => by simp at h
  | k + 1, f :: fs, d :: ds, p, h => by
    simp only [List.take_succ_cons, List.zip_cons_cons, List.mem_cons] at h ⊢
    exact h.imp id zip_take_mem
theorem zip_drop_mem {α β : Type} : ∀ {k : Nat} {fs : List α} {ds : List β} {p : α × β}, p ∈ (fs.drop k).zip (ds.drop k) → p ∈ fs.zip ds
  | 0, _, _, _, h => h
  | k + 1, [], _, _, h => by simp at h
  | k + 1, f :: fs, [], _, h => by simp at h
  | k + 1, f :: fs, d :: ds, p, h => by
    simp only [List.drop_succ_cons] at h
    exact List.mem_cons_of_mem _ (zip_drop_mem h)

set_option maxRecDepth 100000 in
theorem out_calls (w : World) (S : Nat → Prop) (g : Nat) (s : St) (h : RefP w S g s) (k : Nat) (hk : k < s.fl.length) (hroom : s.fl.length ≤ 4096) :
    Calls Try.prog 39 #[.pointer (some ⟨g, 0, none⟩), .int .i64 k] w fun e w' => e = .returned (.tuple #[]) ∧ RefP w' (Ext S w w') g ⟨s.given, s.fl.take k ++ s.fl.drop (k + 1)⟩ ∧ Kp (fun i => i = g) w w' := by
  obtain ⟨L, ds, hg, hS, hL, ho, hl, hD⟩ := h
  have hsv := SV.of_own ho hL
  obtain ⟨i0, hi, hz0, hz1, hz2⟩ := info_parts info49
  obtain ⟨u1, ha1, hb1, hv1⟩ := hsv.cut Try.underlying41 hi hz1 none (some (.int .i64 k)) 0 k (Or.inl ⟨rfl, rfl⟩) (Or.inr rfl) (Nat.zero_le _) (by omega)
  obtain ⟨u2, ha2, hb2, hv2⟩ := hsv.cut Try.underlying41 hi hz1 (some (.int .i64 ((k + 1 : Nat) : Int))) none (k + 1) s.fl.length (Or.inr rfl) (Or.inl ⟨rfl, rfl⟩) (by omega) (Nat.le_refl _)
  have ek : ((k + 1 : Nat) : Int) = (k : Int) + 1 := by omega
  rw [ek] at ha2 hb2
  clear ek
  simp only [Nat.sub_zero, Nat.zero_mul, List.drop_zero] at hv1
  rw [flCells_take k _ _ hl] at hv1
  rw [List.take_of_length_le (by rw [flCells_len _ _ hl]; exact Nat.le_refl _), flCells_drop (k + 1) _ _ hl] at hv2
  have s1 := hv1.src (flCells_one _ _ (fun p hp => hD p (zip_take_mem hp)))
  have c0 : w.cell? ⟨g, 0, none⟩ = some L := cell_at hg 0
  have HL := Lib.hid hl
  clear hl
  have hgl := lt_of_heap hg
  have hLlt : ∀ k, L.ownBlock = some k → k < w.heap.size := fun k hk => (ho.lt k hk).2
  go_enter Try.func39, Try.ntmps39
  go_wp2_with (at_builtin; refine wpList_append_src rfl _ _ rowT49 rfl rfl (World.ownsRow_nil _ w.heap.size _ _) rfl s1 ?c4 ?c3 (Nat.le_refl _) ?_)
  case c3 => unfold maxLen; omega
  case c4 => omega
  intro v1 w1 ho1 hg1 _ _
  have b1 : Below w.heap.size w w1 := (Below.refl _ _).grown hg1 (Nat.le_refl _) (fun k hk => by simp [Value.ownBlock] at hk)
  have c1 : w1.cell? ⟨g, 0, none⟩ = some L := (b1.cell hgl).trans c0
  have s2 := (hv2.move (by decide) (w' := w1) (fun i hi hil => b1.block i hil)).src (flCells_one _ _ (fun p hp => hD p (zip_drop_mem hp)))
  have bs1 := b1.size
  clear hg1
  have f1 : w1.frozen? ⟨g, 0, none⟩ = false := (b1.frozen hgl).trans (frozen_at hg 0)
  go_wp2_with (at_builtin; refine wpList_append_src rfl _ _ rowT49 rfl rfl ho1 rfl s2 ?c4 ?c3 bs1 ?_)
  case c3 => unfold maxLen; omega
  case c4 => omega
  intro v2 w2 ho2 hg2 _ _
  have b2 : Below w.heap.size w w2 := b1.grown hg2 bs1 (fun k hk => (ho1.lt k hk).1)
  have c2 : w2.cell? ⟨g, 0, none⟩ = some L := (b2.cell hgl).trans c0
  have f2 : w2.frozen? ⟨g, 0, none⟩ = false := (b2.frozen hgl).trans (frozen_at hg 0)
  clear ho1 hg2
  have o2 := own_one ho2
  go_wp2
  go_end0
  have bs2 := b2.size
  have hg2 : w2.heap[g]? = some (.cells #[L, .int .i64 s.given] 68 (0, 0)) := (b2.block g hgl).trans hg
  have hv2g : ∀ i, v2.ownBlock = some i → w.heap.size ≤ i ∧ i < w2.heap.size := fun i hi => ho2.lt i hi
  have K : Kp (fun i => i = g) w (w2.setCell ⟨g, 0, none⟩ v2) := Kp.setCell (p := ⟨g, 0, none⟩) (Kp.of_below b2 (fun i => i = g)) (Or.inl rfl) _
  refine ⟨rfl, ⟨v2, ds.take k ++ ds.drop (k + 1), ?_, Or.inl hS, fun i hi => Or.inr ⟨(hv2g i hi).1, by simpa using (hv2g i hi).2⟩, ?_, ?_, ?_⟩, K⟩
  · exact heap_setCell_at hg2 0 v2
  · have hlen : (s.fl.take k ++ s.fl.drop (k + 1)).length = k + (s.fl.length - (k + 1)) := by simp; omega
    rw [hlen, flCells_append _ _ _ _ (by simp [HL.out])]
    refine own_setCell (own_lower ho2 (Nat.zero_le _)) (fun e => ?_) _
    have := (hv2g g e).1
    omega
  · simp [HL.out]
  · intro p hp
    rw [List.zip_append (by simp [HL.out])] at hp
    have hp' : p ∈ s.fl.zip ds := by
      rcases List.mem_append.1 hp with hp | hp
      · exact zip_take_mem hp
      · exact zip_drop_mem hp
    refine ((hD p hp').bound.move (w' := w2.setCell ⟨g, 0, none⟩ v2) (fun i hi hil => ?_)).mono (fun i hi hil => ⟨Or.inl hi.1.1, hi.1.2.1, fun e => ?_⟩)
    · rw [Below.heap_setCell _ _ _ _ hi.1.2.1]
      exact b2.block i hil
    · have := (hv2g i e).1
      have := hi.2
      omega
end Go.Proofs.Ytpakocgbbggolaa
