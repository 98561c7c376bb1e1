import Derived.Test.YtpakocgbbggolaaNetD
set_option linter.unusedSimpArgs false
set_option linter.unusedVariables false
namespace Go.Proofs.Ytpakocgbbggolaa
open Go.RowKit Go.Proofs.Cul

theorem own_move' {w w' : World} {base : Nat} {e : TypeId} {size : Nat} {v : Value} {n : Nat} {xs : List Value} (h : w.ownsRow base e size v n xs) (hm : ∀ k, v.ownBlock = some k → k < w.heap.size → w'.heap[k]? = w.heap[k]?) : w'.ownsRow base e size v n xs := by
  obtain ⟨h1, h2⟩ := h
  refine ⟨h1, ?_⟩
  rcases h2 with h2 | ⟨g, cap, cur, rfl, hg, hh, r⟩
  · exact .inl h2
  · exact .inr ⟨g, cap, cur, rfl, hg, (hm g rfl (lt_of_heap hh)).trans hh, r⟩
theorem RefP.move {w w' : World} {S : Nat → Prop} {g : Nat} {s : St} (h : RefP w S g s) (hm : ∀ k, S k → k < w.heap.size → w'.heap[k]? = w.heap[k]?) : RefP w' S g s := by
  obtain ⟨L, ds, hg, hS, hL, ho, hl, hD⟩ := h
  exact ⟨L, ds, (hm g hS (lt_of_heap hg)).trans hg, hS, hL, own_move' ho (fun k hk hl => hm k (hL k hk) hl), hl, fun p hp => (hD p hp).move (fun k hk hl => hm k hk.1 hl)⟩
theorem RefP.mono {w : World} {S T : Nat → Prop} {g : Nat} {s : St} (h : RefP w S g s) (hs : ∀ k, S k → k < w.heap.size → T k) : RefP w T g s := by
  obtain ⟨L, ds, hg, hS, hL, ho, hl, hD⟩ := h
  exact ⟨L, ds, hg, hs g hS (lt_of_heap hg), fun k hk => hs k (hL k hk) (ho.lt k hk).2, ho, hl, fun p hp => (hD p hp).mono (fun k hk hl => ⟨hs k hk.1 hl, hk.2⟩)⟩
theorem RefP.kp {w w' : World} {S T : Nat → Prop} {g : Nat} {s : St} (h : RefP w S g s) (k : Kp T w w') (hd : ∀ k, S k → ¬ T k) : RefP w' S g s := h.move (fun i hi hl => k.block i hl (hd i hi))
theorem RefP.below {w w' : World} {S : Nat → Prop} {g : Nat} {s : St} (h : RefP w S g s) (k : Below w.heap.size w w') : RefP w' S g s := h.move (fun i _ hl => k.block i hl)
theorem RefP.ext {w : World} {S : Nat → Prop} {g : Nat} {s : St} (h : RefP w S g s) (w1 w2 : World) : RefP w (Ext S w1 w2) g s := h.mono (fun k hk _ => Or.inl hk)

theorem st_same {s : St} {no : Int} (h : find no s.fl = none) : s.take no = s := by
  have : ∀ l : List Fl, find no l = none → strike no l = l := by
    intro l
    induction l with
    | nil => intro _; rfl
    | cons f r ih =>
      intro h
      by_cases e : no = f.no
      · simp [find, e] at h
      · simp only [find, if_neg e] at h
        simp [strike, e, ih h]
  cases s
  simp only [St.take, this _ h]

/-- What Take answers. -/
def takeR (s : St) (no : Int) : Fl × Int :=
  match find no s.fl with
  | none => (⟨0, 0, []⟩, 218)
  | some f => (f, 0)

theorem RB.nil (w : World) (S : Nat → Prop) : RB w S (.slice none 0 0) [] := ⟨none, 0, rfl, Nat.le_refl _, Nat.zero_le _, fun x hx => by simp at hx, fun h => absurd rfl h⟩
theorem zero49 (W : World) : (zeroValue 49).run Try.prog W = .ok (.agg #[.int .i64 0, .int .i64 0, .slice none 0 0]) W := by kernel_rfl

set_option maxRecDepth 100000 in
theorem refTake_calls (w : World) (S : Nat → Prop) (g : Nat) (s : St) (h : RefP w S g s) (hSb : ∀ k, S k → k < w.heap.size) (hroom : s.fl.length ≤ 4096) (no : Int) :
    Calls Try.prog 28 #[.pointer (some ⟨g, 0, none⟩), .int .i64 no] w fun e w' => ∃ d, e = .returned (.tuple #[.agg #[.int .i64 (takeR s no).1.no, .int .i64 (takeR s no).1.to, d], .int .i64 (takeR s no).2]) ∧
      RB w' (Ext S w w') d (takeR s no).1.data ∧ RefP w' (Ext S w w') g (s.take no) ∧ Kp S w w' := by
  have b1 : Below w.heap.size w (w.alloc (.cells #[.int .i64 0, .int .i64 0, .slice none 0 0] 49)) := (Below.refl _ _).alloc (Nat.le_refl _) _
  have h1 := h.below b1
  have hp := place_calls _ S g s h1 no
  have hgl : g < w.heap.size := by obtain ⟨L, hg, _⟩ := h.reads; exact lt_of_heap hg
  obtain ⟨L, hg, c0, _, hS, hR⟩ := h.reads
  have hgl := lt_of_heap hg
  have HH := Lib.hid h
  clear h h1
  go_enter Try.func28, Try.ntmps28
  go_wp2_with fail
  refine hp.mono ?_
  clear hp
  rintro e w' ⟨i, rfl, hpl, rfl⟩
  rcases hpl with ⟨rfl, hf⟩ | ⟨k, hk, rfl, hf, hst, _⟩
  · have HF := Lib.hid hf
    clear hf
    go_wp2
    refine bodyPost_ret (v := .tuple #[.agg #[.int .i64 0, .int .i64 0, .slice none 0 0], .int .i64 218]) (by simp [results, Try.results28, go_sem]) rfl ?_
    have e1 : takeR s no = (⟨0, 0, []⟩, 218) := by unfold takeR; rw [HF.out]
    rw [e1, st_same HF.out]
    have K : Kp S w (((w.alloc (.cells #[.int .i64 0, .int .i64 0, .slice none 0 0] 49)))) := Kp.of_below b1 S
    exact ⟨.slice none 0 0, rfl, RB.nil _ _, (HH.out.kp (Kp.of_below b1 Nothing) (fun _ _ h => h)).ext _ _, K⟩
  · obtain ⟨p, d, hp, _, q, hc, hb⟩ := idxF hR k hk
    have e1 := hc.at0
    have e2 : w.cell? ⟨p.block, p.off + 1, none⟩ = _ := hc.off 0 rfl
    have e3 : w.cell? ⟨p.block, p.off + 2, none⟩ = _ := hc.off 1 rfl
    have od := hb.one
    have HF := Lib.hid hf
    have HST := Lib.hid hst
    clear hf hst hc
    go_wp2_with fail
    have b2 : Below w.heap.size w ((w.alloc (.cells #[.int .i64 0, .int .i64 0, .slice none 0 0] 49)).alloc (.cells #[.int .i64 s.fl[k].no, .int .i64 s.fl[k].to, d] 49)) := b1.alloc (by simp) _
    refine (out_calls _ S g s (HH.out.below b2) k hk hroom).mono ?_
    rintro e w3 ⟨rfl, hr3, hk3⟩
    have hw0 : w3.heap[w.heap.size]? = some (.cells #[.int .i64 0, .int .i64 0, .slice none 0 0] 49 (0, 0)) := by
      rw [hk3.block _ (by simp; omega) (fun h => by have h' : w.heap.size = g := h; omega), Below.heap_alloc _ _ _ (by simp)]
      exact heap_alloc_new w _
    have hw1 : w3.heap[w.heap.size + 1]? = some (.cells #[.int .i64 s.fl[k].no, .int .i64 s.fl[k].to, d] 49 (0, 0)) := by
      rw [hk3.block _ (by simp) (fun h => by have h' : w.heap.size + 1 = g := h; omega)]
      have := heap_alloc_new (w.alloc (.cells #[.int .i64 0, .int .i64 0, .slice none 0 0] 49)) (.cells #[.int .i64 s.fl[k].no, .int .i64 s.fl[k].to, d] 49)
      simpa using this
    have r0 : w3.cell? ⟨w.heap.size, 0, none⟩ = some (.int .i64 0) := cell_at hw0 0
    have r1 : w3.cell? ⟨w.heap.size, 1, none⟩ = some (.int .i64 0) := cell_at hw0 1
    have r2 : w3.cell? ⟨w.heap.size, 2, none⟩ = some (.slice none 0 0) := cell_at hw0 2
    have z0 := frozen_at hw0 0
    have z1 := frozen_at hw0 1
    have z2 := frozen_at hw0 2
    have t0 : w3.cell? ⟨w.heap.size + 1, 0, none⟩ = some (.int .i64 s.fl[k].no) := cell_at hw1 0
    have t1 : w3.cell? ⟨w.heap.size + 1, 1, none⟩ = some (.int .i64 s.fl[k].to) := cell_at hw1 1
    have t2 : w3.cell? ⟨w.heap.size + 1, 2, none⟩ = some d := cell_at hw1 2
    have R3 := Lib.hid hr3
    have K3 := Lib.hid hk3
    clear hr3 hk3 c0 e1 e2 e3
    go_wp2
    refine bodyPost_ret (v := .tuple #[.agg #[.int .i64 s.fl[k].no, .int .i64 s.fl[k].to, d], .int .i64 0]) (by simp [results, Try.results28, go_sem, r0, r1, r2]) rfl ?_
    have e4 : takeR s no = (s.fl[k], 0) := by unfold takeR; rw [HF.out]
    have e5 : s.take no = ⟨s.given, s.fl.take k ++ s.fl.drop (k + 1)⟩ := by unfold St.take; rw [HST.out]
    rw [e4, e5]
    have Q1 : Kp (fun i => i = g) w w3 := (Kp.of_below b2 _).then_ K3.out
    have Q2 : Kp (fun i => i = g) w (((w3.setCell ⟨w.heap.size, 0, none⟩ (.int .i64 s.fl[k].no)).setCell ⟨w.heap.size, 1, none⟩ (.int .i64 s.fl[k].to)).setCell ⟨w.heap.size, 2, none⟩ d) :=
      ((Q1.setCell (p := ⟨w.heap.size, 0, none⟩) (Or.inr (Nat.le_refl _)) _).setCell (p := ⟨w.heap.size, 1, none⟩) (Or.inr (Nat.le_refl _)) _).setCell (p := ⟨w.heap.size, 2, none⟩) (Or.inr (Nat.le_refl _)) _
    have Q3 : Kp (fun i => i = w.heap.size) w3 (((w3.setCell ⟨w.heap.size, 0, none⟩ (.int .i64 s.fl[k].no)).setCell ⟨w.heap.size, 1, none⟩ (.int .i64 s.fl[k].to)).setCell ⟨w.heap.size, 2, none⟩ d) :=
      (((Kp.refl (fun i => i = w.heap.size) w3).setCell (p := ⟨w.heap.size, 0, none⟩) (Or.inl rfl) _).setCell (p := ⟨w.heap.size, 1, none⟩) (Or.inl rfl) _).setCell (p := ⟨w.heap.size, 2, none⟩) (Or.inl rfl) _
    refine ⟨d, rfl, (hb.kp Q2 (fun i hi => hi.2)).mono (fun i hi _ => Or.inl hi.1), ?_, Q2.mono (fun i hi => by subst hi; exact hS)⟩
    refine (R3.out.kp Q3 (fun i hi e => ?_)).mono (fun i hi hl => ?_)
    · rcases hi with hi | hi
      · have := hSb i hi; omega
      · have := hi.1; simp at this; omega
    · rcases hi with hi | hi
      · exact Or.inl hi
      · exact Or.inr ⟨by have := hi.1; simp at this; omega, hl⟩
end Go.Proofs.Ytpakocgbbggolaa
