import Derived.Test.YtpakocgbbggolaaNetG
set_option linter.unusedSimpArgs false
set_option linter.unusedVariables false
namespace Go.Proofs.Ytpakocgbbggolaa
open Go.RowKit Go.Proofs.Cul

/-- A list of flights that a call is making: row and bytes all new since B, apart. -/
def MadeF (w : World) (B : Nat) (v : Value) (fs : List Fl) : Prop :=
  ∃ ds : List Value, ds.length = fs.length ∧ w.ownsRow B 49 3 v fs.length (flCells fs ds) ∧ ∀ p ∈ fs.zip ds, RB w (fun b => B ≤ b ∧ v.ownBlock ≠ some b) p.2 p.1.data
theorem MadeF.nil (w : World) (B : Nat) : MadeF w B (.slice none 0 0) [] := ⟨[], rfl, World.ownsRow_nil _ _ _ _, fun p hp => by simp at hp⟩
theorem MadeF.reads {w : World} {B : Nat} {v : Value} {fs : List Fl} (h : MadeF w B v fs) : RF w (fun b => B ≤ b) v fs := by
  obtain ⟨ds, hl, ho, hD⟩ := h
  exact RF.of_own (own_lower ho (Nat.zero_le _)) hl (fun k hk => (ho.lt k hk).1) (fun p hp => (hD p hp).mono (fun k hk _ => hk.1))
theorem MadeF.below {w w' : World} {B : Nat} {v : Value} {fs : List Fl} (h : MadeF w B v fs) (k : Below w.heap.size w w') : MadeF w' B v fs := by
  obtain ⟨ds, hl, ho, hD⟩ := h
  exact ⟨ds, hl, own_below ho k, fun p hp => (hD p hp).below k⟩
/-- One more, behind its append. -/
theorem MadeF.snoc {w w3 : World} {B : Nat} {v v' d : Value} {fs : List Fl} {f : Fl} (ds : List Value) (hl : ds.length = fs.length) (hD : ∀ p ∈ fs.zip ds, RB w (fun b => B ≤ b ∧ v.ownBlock ≠ some b) p.2 p.1.data)
    (hvl : ∀ k, v.ownBlock = some k → k < w.heap.size) (hd : RB w (fun b => B ≤ b ∧ v.ownBlock ≠ some b) d f.data)
    (ho : w3.ownsRow B 49 3 v' (fs.length + 1) (flCells fs ds ++ [.int .i64 f.no, .int .i64 f.to, d])) (hg : ∀ k, k < w.heap.size → v.ownBlock ≠ some k → w3.heap[k]? = w.heap[k]?)
    (hat : v'.ownBlock = v.ownBlock ∨ ∃ k, v'.ownBlock = some k ∧ w.heap.size ≤ k) : MadeF w3 B v' (fs ++ [f]) := by
  refine ⟨ds ++ [d], by simp [hl], ?_, fun p hp => ?_⟩
  · rw [List.length_append, flCells_append _ _ _ _ hl]
    exact ho
  · have key : ∀ q : Fl × Value, RB w (fun b => B ≤ b ∧ v.ownBlock ≠ some b) q.2 q.1.data → RB w3 (fun b => B ≤ b ∧ v'.ownBlock ≠ some b) q.2 q.1.data := fun q hq =>
      (hq.bound.move (fun i hi hil => hg i hi.2 hi.1.2)).mono (fun i hi hil => ⟨hi.1.1, fun e => by
        rcases hat with h | ⟨k, h, hk⟩
        · exact hi.1.2 (h ▸ e)
        · rw [h] at e
          cases e
          have := hi.2
          omega⟩)
    rw [List.zip_append hl.symm] at hp
    rcases List.mem_append.1 hp with hp | hp
    · exact key p (hD p hp)
    · simp at hp
      subst hp
      exact key (f, d) hd

set_option maxRecDepth 100000 in
theorem refUnder_calls (w : World) (S : Nat → Prop) (g : Nat) (s : St) (h : RefP w S g s) (hok : ∀ f ∈ s.fl, f.data.length ≤ 1048576) (hroom : s.fl.length ≤ 4096) :
    Calls Try.prog 32 #[.pointer (some ⟨g, 0, none⟩)] w fun e w' => ∃ v, e = .returned v ∧ MadeF w' w.heap.size v s.fl ∧ Below w.heap.size w w' := by
  obtain ⟨L, hg, c0, _, hS, hR⟩ := h.reads
  have l1 := lenF hR
  have hgl := lt_of_heap hg
  clear h
  go_enter Try.func32, Try.ntmps32
  go_wp2
  go_loopw [3, 4] (fun v i wr => ∃ k : Nat, k ≤ s.fl.length ∧ i = .int .i64 k ∧ MadeF wr w.heap.size v (s.fl.take k) ∧ Below w.heap.size w wr) (fun _ i _ => s.fl.length - (intOf i).toNat)
  case atStart => exact ⟨0, Nat.zero_le _, rfl, MadeF.nil _ _, Below.refl _ _⟩
  case round =>
    obtain ⟨k, hk, rfl, hm, hbw⟩ := hrel
    have c0r : wr.cell? ⟨g, 0, none⟩ = some L := (hbw.cell hgl).trans c0
    by_cases hlt : k < s.fl.length
    · obtain ⟨p, d, hp, _, q, hc, hb⟩ := idxF hR k hlt
      have hcr := hc.move (hbw.block _ q)
      have e3 : wr.cell? ⟨p.block, p.off + 2, none⟩ = some d := hcr.off 1 rfl
      have hbr := hb.below hbw
      have hlen := hok _ (List.getElem_mem hlt)
      have hbc := bytes_calls d s.fl[k].data wr _ hbr (by omega)
      have bsr := hbw.size
      have HCR := Lib.hid hcr
      have HB := Lib.hid hbr.isB
      have HC0 := Lib.hid hc
      clear hc hb hcr hbr
      go_wp2_with fail
      refine hbc.mono ?_
      clear hbc
      rintro e w2 ⟨d', rfl, hd', hb2, _⟩
      obtain ⟨dA, dc, rfl⟩ := own_slice hd'
      have b2 := hbw.trans (hb2.mono bsr)
      have bs2 := hb2.size
      have HM : Hid (∀ j, u3.ownBlock = some j → j < wr.heap.size) := by obtain ⟨ds, hl, ho, hD⟩ := hm; exact fun j hj => (ho.lt j hj).2
      have hm2 := hm.below hb2
      obtain ⟨ds, hl, ho, hD⟩ := hm2
      have HL := Lib.hid hl
      clear hl
      have hS1 : ∀ W, Below w.heap.size w W → W.cell? ⟨g, 0, none⟩ = some L ∧ W.cell? p = some (.int .i64 s.fl[k].no) ∧ W.cell? ⟨p.block, p.off + 1, none⟩ = some (.int .i64 s.fl[k].to) ∧ Below w.heap.size w W := fun W hW =>
        have e1 := HC0.out.move (hW.block _ q)
        ⟨(hW.cell hgl).trans c0, e1.at0, e1.off 0 rfl, hW⟩
      have H1 := Lib.hid hS1
      have hn : (s.fl.take k).length = k := by simp; omega
      have HN := Lib.hid hn
      have hn1 : (s.fl.take k).length ≤ 4096 := by omega
      have B1 : Below w.heap.size w (w2.alloc (.cells #[.int .i64 s.fl[k].no, .int .i64 s.fl[k].to, .slice dA s.fl[k].data.length dc] 49)).drew := (b2.alloc (by omega) _).drew
      have hvb : ∀ j, u3.ownBlock = some j → w.heap.size ≤ j := fun j hj => (ho.lt j hj).1
      have HV := Lib.hid hvb
      clear hS1 hn hvb hok
      go_wp2_with fail
      go_region_held3 (fun W => W.cell? ⟨g, 0, none⟩ = some L ∧ W.cell? p = some (.int .i64 s.fl[k].no) ∧ W.cell? ⟨p.block, p.off + 1, none⟩ = some (.int .i64 s.fl[k].to) ∧ Below w.heap.size w W)
        (first | exact H1.out _ b2.drew | exact H1.out _ B1 | exact H1.out _ b3)
        (first | (refine step_append_src rfl _ _ rowT49 rfl rfl (own_drew (ho.alloc _)) rfl (Src.drew (Src.alloc (cs := #[.int .i64 s.fl[k].no, .int .i64 s.fl[k].to, .slice dA s.fl[k].data.length dc]) rfl (by simp [Value.oneCell']))) ?_ ?_ ?_ ?_; omega; (unfold maxLen; omega); (simp; omega); intro v' w3 ho3 hg3 _ hat; have b3 := B1.grown hg3 (by simp; omega) HV.out))
      have hB := w3
      have hsz3 := hg3.size
      simp only [World.size_drew, World.size_alloc] at hsz3 hat
      go_wp2
      go_roundw
      case rel => exact ⟨k + 1, by omega, by go_num, by
        rw [List.take_succ_eq_append_getElem hlt]
        have hd2 : RB w2 (fun b => w.heap.size ≤ b ∧ u3.ownBlock ≠ some b) (.slice dA s.fl[k].data.length dc) s.fl[k].data := RB.of_own hd' HB.out (fun j hj => ⟨Nat.le_trans bsr (hd'.lt j hj).1, fun e => by
          have h1 := (HM.out j e)
          have h2 := (hd'.lt j hj).1
          omega⟩)
        refine MadeF.snoc ds HL.out hD (fun j hj => (ho.lt j hj).2) hd2 ho3 (fun j hj hne => (hg3.block j (by simp; omega) (fun e => hne e.symm)).trans (Below.heap_alloc w2 _ j hj)) (hat.imp id (fun h => ⟨w2.heap.size + 1, h, Nat.le_succ _⟩)), b3⟩
      case measure => simp [intOf]; omega
    · have hkl : k = s.fl.length := by omega
      subst hkl
      rw [List.take_length] at hm
      go_wp2
      go_ret
      exact ⟨_, rfl, hm, hbw⟩
end Go.Proofs.Ytpakocgbbggolaa
