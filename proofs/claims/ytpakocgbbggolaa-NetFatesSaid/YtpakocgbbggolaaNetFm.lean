import Derived.Test.YtpakocgbbggolaaNetZa
import Derived.Test.YtpakocgbbggolaaNetFp
set_option linter.unusedSimpArgs false
set_option linter.unusedVariables false
namespace Go.Proofs.Ytpakocgbbggolaa
open Go.RowKit Go.Proofs.Cul Go.ChangeMaps

theorem infoBool : (Try.prog.info? 4).map (fun i => (i.zero, i.size, i.bytes)) = some (some (.bool false), 1, 1) := by kernel_rfl
theorem rowTBool : RowT Try.prog 46 4 1 1 := ⟨Try.underlying46, by obtain ⟨i0, hi, hz0, hz1, hz2⟩ := info_parts infoBool; exact ⟨i0, _, hi, hz0, hz1, hz2, rfl⟩, by decide⟩
def bools (hs : List Bool) : List Value := hs.map Value.bool

/-- What the book holds. -/
def XB (L H : Value) (E : List (Fl × Value)) (k : Nat) : Prop := L.ownBlock = some k ∨ H.ownBlock = some k ∨ ∃ e ∈ E, e.2.ownBlock = some k
structure FM (B : Nat) (w : World) (g : Nat) (s : St) (L H : Value) (E : List (Fl × Value)) (hs : List Bool) (S : Nat → Prop) : Prop where
  net : NetP w S g s
  hS : ∀ k, S k → B ≤ k ∧ k < w.heap.size ∧ ¬ XB L H E k
  rowL : w.ownsRow B 49 3 L E.length (flCells (E.map (·.1)) (E.map (·.2)))
  rowH : w.ownsRow B 4 1 H hs.length (bools hs)
  data : ∀ e ∈ E, w.ownsRow B 5 1 e.2 e.1.data.length (u8s e.1.data) ∧ IsB e.1.data
  apart : E.Pairwise fun a b => ∀ k, a.2.ownBlock = some k → b.2.ownBlock ≠ some k
  hB : B ≤ w.heap.size
namespace FM
variable {B : Nat} {w w' : World} {g : Nat} {s s' : St} {L H : Value} {E : List (Fl × Value)} {hs : List Bool} {S S' : Nat → Prop}
theorem xlt (h : FM B w g s L H E hs S) {k : Nat} (hk : XB L H E k) : B ≤ k ∧ k < w.heap.size := by
  rcases hk with hk | hk | ⟨e, he, hk⟩
  · exact h.rowL.lt k hk
  · exact h.rowH.lt k hk
  · exact (h.data e he).1.lt k hk
/-- A call at the net. -/
theorem next (h : FM B w g s L H E hs S) (hn : NetP w' S' g s') (hS' : ∀ k, S' k → Ext S w w' k) (K : Kp S w w') : FM B w' g s' L H E hs S' := by
  have hz := K.size
  refine ⟨hn, fun k hk => ?_, own_kp h.rowL K (fun i hi e => (h.hS i e).2.2 (Or.inl hi)), own_kp h.rowH K (fun i hi e => (h.hS i e).2.2 (Or.inr (Or.inl hi))), fun e he => ⟨own_kp (h.data e he).1 K (fun i hi e' => (h.hS i e').2.2 (Or.inr (Or.inr ⟨e, he, hi⟩))), (h.data e he).2⟩, h.apart, Nat.le_trans h.hB hz⟩
  rcases hS' k hk with hk | hk
  · exact ⟨(h.hS k hk).1, Nat.lt_of_lt_of_le (h.hS k hk).2.1 hz, (h.hS k hk).2.2⟩
  · exact ⟨Nat.le_trans h.hB hk.1, hk.2, fun e => by have := (h.xlt e).2; omega⟩
theorem below (h : FM B w g s L H E hs S) (b : Below w.heap.size w w') : FM B w' g s L H E hs S := h.next (h.net.below b) (fun k hk => Or.inl hk) (Kp.of_below b S)
theorem reads (h : FM B w g s L H E hs S) : RF w (fun k => XB L H E k) L (E.map (·.1)) := by
  have hr := h.rowL
  have hl : E.length = (E.map (·.1)).length := by simp
  rw [hl] at hr
  refine RF.of_own (ds := E.map (·.2)) (own_lower hr (Nat.zero_le _)) (by simp) (fun k hk => Or.inl hk) (fun p hp => ?_)
  have hz : ((E.map (·.1)).zip (E.map (·.2))) = E := by
    rw [List.zip_map']
    simp
  rw [hz] at hp
  exact RB.of_own (h.data p hp).1 (h.data p hp).2 (fun k hk => Or.inr (Or.inr ⟨p, hp, hk⟩))
theorem own_type_ne {e1 e2 : TypeId} {sz1 sz2 b1 b2 n1 n2 : Nat} {v1 v2 : Value} {xs1 xs2 : List Value} (h1 : w.ownsRow b1 e1 sz1 v1 n1 xs1) (h2 : w.ownsRow b2 e2 sz2 v2 n2 xs2) (hne : e1 ≠ e2) {k : Nat} (hk : v1.ownBlock = some k) : v2.ownBlock ≠ some k := fun e => by
  obtain ⟨c1, hc1⟩ := own_typed' h1 k hk
  obtain ⟨c2, hc2⟩ := own_typed' h2 k e
  rw [hc1] at hc2
  cases hc2
  exact hne rfl
/-- One more in the book. w1: behind Bytes; w2: behind the append. -/
theorem appL {w1 w2 : World} {L' d : Value} {f : Fl} (h : FM B w g s L H E hs S) (b : Below w.heap.size w w1) {Bd : Nat} (hBd : w.heap.size ≤ Bd) (hd : w1.ownsRow Bd 5 1 d f.data.length (u8s f.data)) (hB : IsB f.data)
    (K : Kp (fun i => L.ownBlock = some i) w1 w2) (hL : w2.ownsRow B 49 3 L' (E.length + 1) (flCells (E.map (·.1)) (E.map (·.2)) ++ [.int .i64 f.no, .int .i64 f.to, d])) (hat : L'.ownBlock = L.ownBlock ∨ ∃ k, L'.ownBlock = some k ∧ w1.heap.size ≤ k) :
    FM B w2 g s L' H (E ++ [(f, d)]) hs S := by
  have h1 := h.below b
  have hz := K.size
  have hLx : ∀ i, L'.ownBlock = some i → L.ownBlock = some i ∨ w1.heap.size ≤ i := fun i hi => by
    rcases hat with e | ⟨k, e, hk⟩
    · exact Or.inl (e ▸ hi)
    · rw [e] at hi; cases hi; exact Or.inr hk
  have hdL : ∀ i, d.ownBlock = some i → L.ownBlock ≠ some i := fun i hi e => by
    have a := (hd.lt i hi).1
    have c := (h.rowL.lt i e).2
    omega
  refine ⟨h1.net.kp K (fun i hi e => (h1.hS i hi).2.2 (Or.inl e)), fun k hk => ⟨(h1.hS k hk).1, Nat.lt_of_lt_of_le (h1.hS k hk).2.1 hz, fun e => ?_⟩, ?_, own_kp h1.rowH K (fun i hi e => own_type_ne h1.rowL h1.rowH (by decide) e hi), fun e he => ?_, ?_, Nat.le_trans h1.hB hz⟩
  · have k1 := h1.hS k hk
    have k0 := h.hS k hk
    rcases e with e | e | ⟨x, hx, e⟩
    · rcases hLx k e with e | e
      · exact k1.2.2 (Or.inl e)
      · omega
    · exact k1.2.2 (Or.inr (Or.inl e))
    · rcases List.mem_append.1 hx with hx | hx
      · exact k1.2.2 (Or.inr (Or.inr ⟨x, hx, e⟩))
      · simp at hx
        subst hx
        have := (hd.lt k e).1
        omega
  · rw [List.length_append, List.length_singleton, List.map_append, List.map_append, List.map_singleton, List.map_singleton, flCells_append _ _ _ _ (by simp)]
    exact hL
  · rcases List.mem_append.1 he with he | he
    · exact ⟨own_kp (h1.data e he).1 K (fun i hi e' => own_type_ne h1.rowL (h1.data e he).1 (by decide) e' hi), (h1.data e he).2⟩
    · simp at he
      subst he
      exact ⟨own_kp (own_lower hd (Nat.le_trans h.hB hBd)) K (fun i hi e' => hdL i hi e'), hB⟩
  · rw [List.pairwise_append]
    refine ⟨h1.apart, List.pairwise_singleton _ _, fun a ha x hx k hk e => ?_⟩
    simp at hx
    subst hx
    have a1 := ((h.data a ha).1.lt k hk).2
    have a2 := (hd.lt k e).1
    omega
theorem appH {w2 : World} {H' : Value} {b : Bool} (h : FM B w g s L H E hs S) (K : Kp (fun i => H.ownBlock = some i) w w2) (hH : w2.ownsRow B 4 1 H' (hs.length + 1) (bools hs ++ [.bool b])) (hat : H'.ownBlock = H.ownBlock ∨ ∃ k, H'.ownBlock = some k ∧ w.heap.size ≤ k) :
    FM B w2 g s L H' E (hs ++ [b]) S := by
  have hz := K.size
  have hHx : ∀ i, H'.ownBlock = some i → H.ownBlock = some i ∨ w.heap.size ≤ i := fun i hi => by
    rcases hat with e | ⟨k, e, hk⟩
    · exact Or.inl (e ▸ hi)
    · rw [e] at hi; cases hi; exact Or.inr hk
  refine ⟨h.net.kp K (fun i hi e => (h.hS i hi).2.2 (Or.inr (Or.inl e))), fun k hk => ⟨(h.hS k hk).1, Nat.lt_of_lt_of_le (h.hS k hk).2.1 hz, fun e => ?_⟩, own_kp h.rowL K (fun i hi e => own_type_ne h.rowL h.rowH (by decide) hi e), ?_, fun e he => ⟨own_kp (h.data e he).1 K (fun i hi e' => own_type_ne h.rowH (h.data e he).1 (by decide) e' hi), (h.data e he).2⟩, h.apart, Nat.le_trans h.hB hz⟩
  · have k1 := h.hS k hk
    rcases e with e | e | e
    · exact k1.2.2 (Or.inl e)
    · rcases hHx k e with e | e
      · exact k1.2.2 (Or.inr (Or.inl e))
      · omega
    · exact k1.2.2 (Or.inr (Or.inr e))
  · rw [List.length_append, List.length_singleton]
    rw [show bools (hs ++ [b]) = bools hs ++ [.bool b] by simp [bools]]
    exact hH
theorem setH (h : FM B w g s L H E hs S) {gb : Nat} (hgb : H.ownBlock = some gb) (i : Nat) (hi : i < hs.length) (b : Bool) : FM B (w.setCell ⟨gb, i, none⟩ (.bool b)) g s L H E (hs.set i b) S := by
  have K : Kp (fun j => H.ownBlock = some j) w (w.setCell ⟨gb, i, none⟩ (.bool b)) := (Kp.refl _ _).setCell (p := ⟨gb, i, none⟩) (Or.inl hgb) _
  have hz := K.size
  refine ⟨h.net.kp K (fun i hi e => (h.hS i hi).2.2 (Or.inr (Or.inl e))), fun k hk => ⟨(h.hS k hk).1, Nat.lt_of_lt_of_le (h.hS k hk).2.1 hz, (h.hS k hk).2.2⟩, own_kp h.rowL K (fun i hi e => own_type_ne h.rowL h.rowH (by decide) hi e), ?_, fun e he => ⟨own_kp (h.data e he).1 K (fun i hi e' => own_type_ne h.rowH (h.data e he).1 (by decide) e' hi), (h.data e he).2⟩, h.apart, Nat.le_trans h.hB hz⟩
  have := own_set h.rowH hgb i (by omega) (.bool b)
  rw [List.length_set, show bools (hs.set i b) = (bools hs).set i (.bool b) by simp [bools, List.map_set]]
  exact this
theorem flCells_set (E : List (Fl × Value)) (i : Nat) (f f' : Fl) (d : Value) (h : E[i]? = some (f, d)) (h1 : f'.no = f.no) (h2 : f'.to = f.to) : flCells ((E.set i (f', d)).map (·.1)) ((E.set i (f', d)).map (·.2)) = flCells (E.map (·.1)) (E.map (·.2)) := by
  induction E generalizing i with
  | nil => simp at h
  | cons a r ih =>
    cases i with
    | zero =>
      simp at h
      subst h
      simp [flCells, h1, h2]
    | succ i =>
      simp at h
      have := ih i h
      simp only [List.map_set] at this
      simp [flCells, this]
/-- A byte of an entry is turned. -/
theorem setD (h : FM B w g s L H E hs S) {i : Nat} {f : Fl} {d : Value} (he : E[i]? = some (f, d)) {gb : Nat} (hgb : d.ownBlock = some gb) (j : Nat) (hj : j < f.data.length) (x : Int) (hx : 0 ≤ x ∧ x ≤ 255) :
    FM B (w.setCell ⟨gb, j, none⟩ (.int .u8 x)) g s L H (E.set i (⟨f.no, f.to, f.data.set j x⟩, d)) hs S := by
  have hm := List.mem_of_getElem? he
  have hil := (List.getElem?_eq_some_iff.1 he).1
  have hdd := h.data _ hm
  have K : Kp (fun k => d.ownBlock = some k) w (w.setCell ⟨gb, j, none⟩ (.int .u8 x)) := (Kp.refl _ _).setCell (p := ⟨gb, j, none⟩) (Or.inl hgb) _
  have hz := K.size
  have hX : ∀ k, XB L H (E.set i (⟨f.no, f.to, f.data.set j x⟩, d)) k → XB L H E k := fun k e => by
    rcases e with e | e | ⟨y, hy, e⟩
    · exact Or.inl e
    · exact Or.inr (Or.inl e)
    · rcases List.mem_or_eq_of_mem_set hy with hy | rfl
      · exact Or.inr (Or.inr ⟨y, hy, e⟩)
      · exact Or.inr (Or.inr ⟨_, hm, e⟩)
  refine ⟨h.net.kp K (fun k hk e => (h.hS k hk).2.2 (Or.inr (Or.inr ⟨_, hm, e⟩))), fun k hk => ⟨(h.hS k hk).1, Nat.lt_of_lt_of_le (h.hS k hk).2.1 hz, fun e => (h.hS k hk).2.2 (hX k e)⟩, ?_, own_kp h.rowH K (fun i hi e => own_type_ne h.rowH hdd.1 (by decide) hi e), fun e hee => ?_, ?_, Nat.le_trans h.hB hz⟩
  · rw [List.length_set, flCells_set E i f ⟨f.no, f.to, f.data.set j x⟩ d he rfl rfl]
    exact own_kp h.rowL K (fun i hi e => own_type_ne h.rowL hdd.1 (by decide) hi e)
  · rw [List.mem_iff_getElem?] at hee
    obtain ⟨n, hn⟩ := hee
    rw [List.getElem?_set] at hn
    by_cases hne : i = n
    · subst hne
      simp only [if_true, hil, Option.some.injEq] at hn
      subst hn
      refine ⟨?_, fun y hy => ?_⟩
      · have := own_set hdd.1 hgb j (by show j < f.data.length * 1; omega) (.int .u8 x)
        rw [u8s_set] at this
        simpa using this
      · rcases List.mem_or_eq_of_mem_set hy with hy | rfl
        · exact hdd.2 y hy
        · exact hx
    · rw [if_neg hne] at hn
      refine ⟨own_kp (h.data e (List.mem_of_getElem? hn)).1 K (fun k hk e' => ?_), (h.data e (List.mem_of_getElem? hn)).2⟩
      have hnl := (List.getElem?_eq_some_iff.1 hn).1
      have hpw := List.pairwise_iff_getElem.1 h.apart
      rcases Nat.lt_or_ge n i with hlt | hge
      · have := hpw n i hnl hil hlt k
        rw [(List.getElem?_eq_some_iff.1 hn).2, (List.getElem?_eq_some_iff.1 he).2] at this
        exact this hk e'
      · have := hpw i n hil hnl (by omega) k
        rw [(List.getElem?_eq_some_iff.1 hn).2, (List.getElem?_eq_some_iff.1 he).2] at this
        exact this e' hk
  · have hmap : (E.set i (⟨f.no, f.to, f.data.set j x⟩, d)).map (·.2) = E.map (·.2) := by
      rw [List.map_set]
      have h9 : (E.map (·.2))[i]? = some d := by simp [he]
      apply List.ext_getElem?
      intro n
      rw [List.getElem?_set]
      split
      · rename_i hin
        subst hin
        rw [h9]
        simp [hil]
      · rfl
    have h1 : ((E.map (·.2)).Pairwise fun a b => ∀ k, a.ownBlock = some k → b.ownBlock ≠ some k) := List.pairwise_map.2 h.apart
    rw [← hmap] at h1
    exact List.pairwise_map.1 h1
end FM
end Go.Proofs.Ytpakocgbbggolaa
