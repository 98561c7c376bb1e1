import Derived.Test.YtpakocgbbggolaaNetC
import Derived.Deep.RegionLaw
set_option linter.unusedSimpArgs false
set_option linter.unusedVariables false
namespace Go.Proofs.Ytpakocgbbggolaa
open Go.RowKit Go.Proofs.Cul

theorem Ext.of {S : Nat → Prop} {w w' : World} {k : Nat} (h : S k) : Ext S w w' k := Or.inl h

set_option maxRecDepth 100000 in
theorem refSend_calls (w : World) (S Sb : Nat → Prop) (g : Nat) (s : St) (h : RefP w S g s) (to : Int) (v : Value) (xs : List Int) (hb : RB w Sb v xs) (hbg : ¬ Sb g)
    (hlen : xs.length ≤ 1048576) (hgiv : 0 ≤ s.given ∧ s.given ≤ 4611686018427387904) :
    Calls Try.prog 37 #[.pointer (some ⟨g, 0, none⟩), .int .i64 to, v] w fun e w' => e = .returned (.int .i64 (s.send to xs).1) ∧ RefP w' (Ext S w w') g (s.send to xs).2 ∧ Kp S w w' := by
  have hm := RRow.le (h.reads.choose_spec.2.2.2.2)
  obtain ⟨L, ds, hg, hS, hL, ho, hl, hD⟩ := h
  have hR : RF w S L s.fl := RF.of_own ho hl hL (fun p hp => (hD p hp).mono (fun k hk _ => hk.1))
  have l1 := lenF hR
  have c0 : w.cell? ⟨g, 0, none⟩ = some L := cell_at hg 0
  have c1 : w.cell? ⟨g, 1, none⟩ = some (.int .i64 s.given) := cell_at hg 1
  have f1 : w.frozen? ⟨g, 1, none⟩ = false := frozen_at hg 1
  have hgl := lt_of_heap hg
  have HL := Lib.hid hl
  clear hl
  by_cases hfull : 1024 ≤ s.fl.length
  · have hs : s.send to xs = (0, s) := by simp [St.send, hfull]
    rw [hs]
    clear hs
    go_enter Try.func37, Try.ntmps37
    go_wp2
    go_ret
    exact ⟨rfl, ⟨L, ds, hg, Or.inl hS, fun k hk => Or.inl (hL k hk), ho, HL.out, fun p hp => (hD p hp).mono (fun k hk _ => ⟨Or.inl hk.1, hk.2⟩)⟩, Kp.refl _ _⟩
  · have hs : s.send to xs = (s.given + 1, ⟨s.given + 1, s.fl ++ [⟨s.given + 1, to, xs⟩]⟩) := by simp [St.send, hfull]
    rw [hs]
    clear hs
    have K1 : Kp S w (w.setCell ⟨g, 1, none⟩ (.int .i64 (s.given + 1))) := (Kp.refl S w).setCell (Or.inl hS) _
    have hg1 := heap_setCell_at hg 1 (.int .i64 (s.given + 1))
    have hb1 : RB (w.setCell ⟨g, 1, none⟩ (.int .i64 (s.given + 1))) Sb v xs := hb.move (fun k hk _ => Below.heap_setCell _ _ _ _ (fun e => hbg (by have e' : k = g := e; rw [← e']; exact hk)))
    have hbc := bytes_calls v xs _ Sb hb1 (by omega)
    go_enter Try.func37, Try.ntmps37
    go_wp2_with (go_at_call 18; refine hbc.mono ?_; rintro e w2 ⟨d, rfl, hd, hbw, _⟩; obtain ⟨dA, dc, rfl⟩ := own_slice hd)
    have bs := hbw.size
    simp only [World.size_setCell] at bs hbw hd
    have hg2 : w2.heap[g]? = some (.cells #[L, .int .i64 (s.given + 1)] 68 (0, 0)) := (hbw.block g hgl).trans hg1
    have e0 : w2.cell? ⟨g, 0, none⟩ = some L := cell_at hg2 0
    have e1 : w2.cell? ⟨g, 1, none⟩ = some (.int .i64 (s.given + 1)) := cell_at hg2 1
    have e2 : w2.frozen? ⟨g, 0, none⟩ = false := frozen_at hg2 0
    have hLg : ∀ k, L.ownBlock = some k → k ≠ g := fun k hk e => by
      obtain ⟨cells, hc⟩ : ∃ cells, w.heap[k]? = some (.cells cells 49 (0, 0)) := by
        rcases ho.2 with ⟨rfl, _⟩ | ⟨gb, cap, cur, rfl, _, hb, _⟩
        · simp [Value.ownBlock] at hk
        · simp only [Value.ownBlock, Option.some.injEq] at hk
          subst hk
          exact ⟨cur, hb⟩
      rw [e, hg] at hc
      cases hc
    have oL : w2.ownsRow 0 49 3 L s.fl.length (flCells s.fl ds) :=
      own_kp (own_setCell ho (fun e => hLg g e rfl) _) (Kp.of_below (by simpa using hbw) Nothing) (fun _ _ h => h)
    have oL1 := own_one oL
    have hgl2 := lt_of_heap hg2
    have hfar : ∀ (o : Obj) (w3 : World), (w2.alloc o).drew.grownBy w3 L.ownBlock → w3.heap[g]? = some (.cells #[L, .int .i64 (s.given + 1)] 68 (0, 0)) := fun o w3 h =>
      (h.block g (by simp; omega) (fun e => hLg g e.symm rfl)).trans ((Below.heap_alloc w2 o g hgl2).trans hg2)
    have hfin : ∀ (o : Obj) (w3 : World) (v' : Value), w3.ownsRow 0 49 3 v' (s.fl.length + 1) (flCells s.fl ds ++ [.int .i64 (s.given + 1), .int .i64 to, .slice dA xs.length dc]) → (w2.alloc o).drew.grownBy w3 L.ownBlock →
        (v'.ownBlock = L.ownBlock ∨ v'.ownBlock = some (w2.alloc o).drew.heap.size) →
        RefP (w3.setCell ⟨g, 0, none⟩ v') (Ext S w (w3.setCell ⟨g, 0, none⟩ v')) g ⟨s.given + 1, s.fl ++ [⟨s.given + 1, to, xs⟩]⟩ ∧ Kp S w (w3.setCell ⟨g, 0, none⟩ v') := fun o w3 v' h1 h2 h3 => by
      have h4 := hfar o w3 h2
      have hs3 : w2.heap.size + 1 ≤ w3.heap.size := by have := h2.size; simpa using this
      have K2 : Kp S w w2 := K1.andBelow (by simpa using hbw)
      have K3 : Kp S w w3 := ((K2.alloc o).drew).grown h2 (fun k hk => Or.inl (hL k hk))
      have K4 : Kp S w (w3.setCell ⟨g, 0, none⟩ v') := K3.setCell (Or.inl hS) _
      have hv : ∀ k, v'.ownBlock = some k → S k ∨ (w2.heap.size < k + 1 ∧ k < w3.heap.size) := fun k hk => by
        rcases h3 with h3 | h3
        · exact Or.inl (hL k (h3 ▸ hk))
        · rw [h3] at hk
          simp at hk
          subst hk
          have := (h1.lt _ h3).2
          simp at this
          exact Or.inr ⟨by omega, by omega⟩
      have hLw : ∀ k, L.ownBlock = some k → k < w.heap.size := fun k hk => (ho.lt k hk).2
      refine ⟨⟨v', ds ++ [.slice dA xs.length dc], heap_setCell_at h4 0 v', Or.inl hS, fun k hk => ?_, ?_, by simp [HL.out], fun p hp => ?_⟩, K4⟩
      · rcases hv k hk with h | h
        · exact Or.inl h
        · exact Or.inr ⟨by omega, by simpa using h.2⟩
      · rw [List.length_append, flCells_append _ _ _ _ HL.out]
        refine own_setCell h1 (fun e => ?_) _
        rcases h3 with h3 | h3
        · exact hLg g (h3 ▸ e) rfl
        · rw [h3] at e
          simp at e
          omega
      · rw [List.zip_append HL.out.symm] at hp
        have fresh : ∀ i, i < w2.heap.size → L.ownBlock ≠ some i → v'.ownBlock ≠ some i := fun i hi hne e => by
          rcases h3 with h3 | h3
          · exact hne (h3 ▸ e)
          · rw [h3] at e
            simp at e
            omega
        have keep : ∀ i, i < w2.heap.size → i ≠ g → L.ownBlock ≠ some i → (w3.setCell ⟨g, 0, none⟩ v').heap[i]? = w2.heap[i]? := fun i hi hig hne => by
          rw [Below.heap_setCell _ _ _ _ hig]
          exact (h2.block i (by simp; omega) (fun e => hne e.symm)).trans (Below.heap_alloc w2 o i hi)
        rcases List.mem_append.1 hp with hp | hp
        · refine ((hD p hp).bound.move (w' := w3.setCell ⟨g, 0, none⟩ v') (fun i hi hil => ?_)).mono (fun i hi hil => ⟨Or.inl hi.1.1, hi.1.2.1, fresh i (by omega) hi.1.2.2⟩)
          rw [keep i (by omega) hi.1.2.1 hi.1.2.2, hbw.block i hi.2]
          exact Below.heap_setCell _ _ _ _ hi.1.2.1
        · simp at hp
          subst hp
          have hrb : RB w2 (fun k => w.heap.size ≤ k ∧ k < w2.heap.size) (.slice dA xs.length dc) xs := RB.of_own hd hb.isB (fun k hk => hd.lt k hk)
          refine (hrb.move (w' := w3.setCell ⟨g, 0, none⟩ v') (fun i hi hil => keep i hi.2 (by omega) (fun e => by have := hLw i e; omega))).mono (fun i hi hil => ⟨Or.inr ⟨hi.1, hil⟩, by omega, fresh i hi.2 (fun e => by have := hLw i e; omega)⟩)
    have HFAR := Lib.hid hfar
    have HFIN := Lib.hid hfin
    clear hfar hfin
    go_region_law (first | (refine step_append_src rfl _ _ rowT49 rfl rfl (own_drew (oL.alloc _)) rfl (Src.drew (Src.alloc (cs := #[.int .i64 (s.given + 1), .int .i64 to, .slice dA xs.length dc]) rfl (by simp [Value.oneCell']))) ?_ ?_ (Nat.zero_le _) ?_; omega; (unfold maxLen; omega); intro v' w3 ho3 hg3 _ hat; have h3 := HFAR.out _ _ hg3; have h30 : w3.cell? ⟨g, 0, none⟩ = some L := cell_at h3 0; have h31 := frozen_at h3 0; have h32 : w3.cell? ⟨g, 1, none⟩ = some (.int .i64 (s.given + 1)) := cell_at h3 1; have HF := Lib.hid (HFIN.out _ _ _ ho3 hg3 hat); clear hat; obtain ⟨vA, vc, rfl⟩ := own_slice ho3))
    all_goals (go_wp2; go_ret; exact ⟨rfl, HF.out⟩)
end Go.Proofs.Ytpakocgbbggolaa
