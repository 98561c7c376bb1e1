import Derived.Test.YtpakocgbbggolaaNetA
import Derived.Test.YtpakocgbbggolaaNetPlain
import Derived.Test.YtpakocgbbggolaaCulRow
import Derived.Deep.RegionHeld3
set_option linter.unusedSimpArgs false
set_option linter.unusedVariables false
namespace Go.Proofs.Ytpakocgbbggolaa
open Go.RowKit Go.Proofs.Cul

/-- A flight's cells. -/
def encF (f : Fl) (d : Value) : Value := .agg #[.int .i64 f.no, .int .i64 f.to, d]

theorem sameFlight_calls (f1 f2 : Fl) (v1 v2 : Value) (w : World) (S1 S2 : Nat → Prop) (h1 : RB w S1 v1 f1.data) (h2 : RB w S2 v2 f2.data) :
    Calls Try.prog 24 #[.agg #[.int .i64 f1.no, .int .i64 f1.to, v1], .agg #[.int .i64 f2.no, .int .i64 f2.to, v2]] w fun e w' => e = .returned (.bool (decide (f1 = f2))) ∧ Below w.heap.size w w' := by
  have hB : Below w.heap.size w ((w.alloc (.cells #[.int .i64 f1.no, .int .i64 f1.to, v1] 49)).alloc (.cells #[.int .i64 f2.no, .int .i64 f2.to, v2] 49)) :=
    ((Below.refl _ _).alloc (Nat.le_refl _) _).alloc (by simp) _
  have g1 := h1.below hB
  have g2 := h2.below hB
  have hc := sameBytes_calls v1 v2 f1.data f2.data _ S1 S2 g1 g2
  clear h1 h2 g1 g2
  have he : decide (f1 = f2) = (decide (f1.data = f2.data) && (f1.no == f2.no) && (f1.to == f2.to)) := by
    cases f1; cases f2
    simp only [Fl.mk.injEq]
    rw [Bool.eq_iff_iff]
    simp
    constructor
    · rintro ⟨a, b, c⟩; exact ⟨⟨c, a⟩, b⟩
    · rintro ⟨⟨a, b⟩, c⟩; exact ⟨b, c, a⟩
  rw [he]
  clear he
  generalize decide (f1.data = f2.data) = b0 at hc ⊢
  obtain ⟨b1, hb1⟩ : ∃ b, (f1.no == f2.no) = b := ⟨_, rfl⟩
  obtain ⟨b2, hb2⟩ : ∃ b, (f1.to == f2.to) = b := ⟨_, rfl⟩
  rw [hb1, hb2]
  cases b0 <;> cases b1 <;> cases b2 <;>
  · go_enter Try.func24, Try.ntmps24
    go_wp2_with (go_at_call 36; refine hc.mono ?_; rintro e w' ⟨rfl, n, rfl⟩)
    go_ret
    exact ⟨rfl, belowDrewN hB n⟩

/-- A flight's cells in a row. -/
def KF (w : World) (S : Nat → Prop) (f : Fl) (cs : List Value) : Prop := ∃ d, cs = [.int .i64 f.no, .int .i64 f.to, d] ∧ RB w S d f.data
def RF (w : World) (S : Nat → Prop) (v : Value) (fs : List Fl) : Prop := RRow (KF w S) 3 w S v fs
theorem RF.move {w w' : World} {S : Nat → Prop} {v : Value} {fs : List Fl} (h : RF w S v fs) (hm : ∀ k, S k → k < w.heap.size → w'.heap[k]? = w.heap[k]?) : RF w' S v fs :=
  RRow.move (by decide) h hm (fun x cs _ ⟨d, e, hb⟩ => ⟨d, e, hb.move hm⟩)
theorem RF.below {w w' : World} {S : Nat → Prop} {v : Value} {fs : List Fl} (h : RF w S v fs) (k : Below w.heap.size w w') : RF w' S v fs := h.move (fun i _ hl => k.block i hl)
theorem RF.kp {w w' : World} {S T : Nat → Prop} {v : Value} {fs : List Fl} (h : RF w S v fs) (k : Kp T w w') (hd : ∀ k, S k → ¬ T k) : RF w' S v fs := h.move (fun i hi hl => k.block i hl (hd i hi))
theorem RF.mono {w : World} {S T : Nat → Prop} {v : Value} {fs : List Fl} (h : RF w S v fs) (hs : ∀ k, S k → k < w.heap.size → T k) : RF w T v fs :=
  RRow.mono (by decide) h hs (fun x cs _ ⟨d, e, hb⟩ => ⟨d, e, hb.mono hs⟩)
theorem agg49 (W : World) : (isAgg 49).run Try.prog W = .ok true W := by kernel_rfl
theorem size49 (W : World) : (sizeOf 49).run Try.prog W = .ok 3 W := by kernel_rfl
theorem info49 : (Try.prog.info? 49).map (fun i => (i.zero, i.size, i.bytes)) = some (some (.agg #[.int .i64 0, .int .i64 0, .slice none 0 0]), 3, 40) := by kernel_rfl
theorem lenF {w : World} {S : Nat → Prop} {v : Value} {xs : List Fl} (h : RF w S v xs) : ∀ (ty : TypeId) (W : World), (Builtin.len_ #[41] ty #[v]).run Try.prog W = .ok (.int .i64 xs.length) W :=
  RRow.len h Try.underlying41
theorem idxF {w : World} {S : Nat → Prop} {v : Value} {xs : List Fl} (h : RF w S v xs) (k : Nat) (hk : k < xs.length) :
    ∃ (p : Addr) (d : Value), (∀ W : World, (Instr.indexAt 41 v (.int .i64 k)).run Try.prog W = .ok (.pointer (some p)) W) ∧ S p.block ∧ p.block < w.heap.size ∧
      Cells w p [.int .i64 xs[k].no, .int .i64 xs[k].to, d] ∧ RB w S d xs[k].data := by
  obtain ⟨i0, hi, hz0, hz1, hz2⟩ := info_parts info49
  obtain ⟨p, cs, h1, h2, h3, h4, h5, d, rfl, h7⟩ := RRow.idx (by decide) h Try.underlying41 hi hz1 (k : Int) (by omega) (by omega) xs[k] (by simp [hk])
  exact ⟨p, d, h1, h2, h3, h4, h7⟩
theorem loadF {W : World} {p : Addr} {a b d : Value} (h : Cells W p [a, b, d]) : (Instr.loadAt 49 (.pointer (some p))).run Try.prog W = .ok (.agg #[a, b, d]) W :=
  run_loadAgg (agg49 W) (size49 W) rfl h

theorem sameFlights_calls (v1 v2 : Value) (fs gs : List Fl) (w : World) (S1 S2 : Nat → Prop) (h1 : RF w S1 v1 fs) (h2 : RF w S2 v2 gs) :
    Calls Try.prog 25 #[v1, v2] w fun e w' => e = .returned (.bool (decide (fs = gs))) ∧ Below w.heap.size w w' := by
  have l1 := lenF h1
  have l2 := lenF h2
  have m1 := RRow.le h1
  by_cases hn : fs.length = gs.length
  · have hd0 : ((fs.length : Int) != (gs.length : Int)) = false := by simp [hn]
    have HN := Lib.hid hn
    clear hn
    go_enter Try.func25, Try.ntmps25
    go_wp2
    go_loopw [5] (fun i wr => ∃ k : Nat, k ≤ fs.length ∧ i = .int .i64 k ∧ Hid (fs.take k = gs.take k) ∧ Below w.heap.size w wr) (fun i _ => fs.length - (intOf i).toNat)
    case atStart => exact ⟨0, Nat.zero_le _, rfl, by simp [Hid], Below.refl _ _⟩
    case round =>
      obtain ⟨k, hk, rfl, hkk, hbw⟩ := hrel
      by_cases hlt : k < fs.length
      · have hlt2 : k < gs.length := by have := HN.out; omega
        obtain ⟨p1, d1, hp1, _, q1, hc1, hb1⟩ := idxF h1 k hlt
        obtain ⟨p2, d2, hp2, _, q2, hc2, hb2⟩ := idxF h2 k hlt2
        have hc1 := hc1.move (hbw.block _ q1)
        have hc2 := hc2.move (hbw.block _ q2)
        have hb1 := hb1.below hbw
        have hb2 := hb2.below hbw
        have hS : ∀ W, Below wr.heap.size wr W → ((W.cell? p1 = some (.int .i64 fs[k].no) ∧ W.cell? ⟨p1.block, p1.off + 1, none⟩ = some (.int .i64 fs[k].to) ∧ W.cell? ⟨p1.block, p1.off + 2, none⟩ = some d1) ∧
            (W.cell? p2 = some (.int .i64 gs[k].no) ∧ W.cell? ⟨p2.block, p2.off + 1, none⟩ = some (.int .i64 gs[k].to) ∧ W.cell? ⟨p2.block, p2.off + 2, none⟩ = some d2) ∧ Below wr.heap.size wr W) := fun W hW =>
          have e1 := hc1.move (hW.block _ (Nat.lt_of_lt_of_le q1 hbw.size))
          have e2 := hc2.move (hW.block _ (Nat.lt_of_lt_of_le q2 hbw.size))
          ⟨⟨e1.at0, e1.off 0 rfl, e1.off 1 rfl⟩, ⟨e2.at0, e2.off 0 rfl, e2.off 1 rfl⟩, hW⟩
        have HS := Lib.hid hS
        have HB1 := Lib.hid hb1
        have HB2 := Lib.hid hb2
        clear hS hb1 hb2 hc1 hc2
        generalize hb0 : decide (fs[k] = gs[k]) = b0
        have HB0 := Lib.hid hb0
        clear hb0
        go_wp2
        go_region_held3 (fun W => (W.cell? p1 = some (.int .i64 fs[k].no) ∧ W.cell? ⟨p1.block, p1.off + 1, none⟩ = some (.int .i64 fs[k].to) ∧ W.cell? ⟨p1.block, p1.off + 2, none⟩ = some d1) ∧
            (W.cell? p2 = some (.int .i64 gs[k].no) ∧ W.cell? ⟨p2.block, p2.off + 1, none⟩ = some (.int .i64 gs[k].to) ∧ W.cell? ⟨p2.block, p2.off + 2, none⟩ = some d2) ∧ Below wr.heap.size wr W)
          (first | exact HS.out _ ((Below.refl _ _).drew) | exact HS.out _ hb')
          (first | (go_at_call 24; go_split_ands; have hbX : Below wr.heap.size wr _ := ‹_›; refine (sameFlight_calls fs[k] gs[k] d1 d2 _ S1 S2 (RB.below HB1.out hbX) (RB.below HB2.out hbX)).mono ?_; rintro e w' ⟨rfl, hb'⟩; rw [HB0.out]; replace hb' := hbX.trans (hb'.mono hbX.size)))
        cases b0
        · go_wp2
          go_ret
          refine ⟨?_, hbw.trans (hb'.mono hbw.size)⟩
          have hne := of_decide_eq_false HB0.out
          rw [decide_eq_false (fun e => hne (by subst e; rfl))]; rfl
        · go_wp2
          go_roundw
          case rel => exact ⟨k + 1, by omega, by go_num, (by
            have h9 := of_decide_eq_true HB0.out
            unfold Hid
            rw [List.take_succ_eq_append_getElem hlt, List.take_succ_eq_append_getElem hlt2, hkk.out, h9]), hbw.trans (hb'.mono hbw.size)⟩
          case measure => simp [intOf]; omega
      · have : k = fs.length := by omega
        subst this
        go_wp2
        go_ret
        refine ⟨?_, hbw⟩
        rw [decide_eq_true]; rfl
        have h1 := hkk.out
        rw [List.take_of_length_le (Nat.le_refl _), List.take_of_length_le (by rw [HN.out]; exact Nat.le_refl _)] at h1
        exact h1
  · have hd0 : ((fs.length : Int) != (gs.length : Int)) = true := by simp; omega
    go_enter Try.func25, Try.ntmps25
    go_wp2
    go_ret
    exact ⟨by rw [decide_eq_false (fun e => hn (by rw [e]))]; rfl, Below.refl _ _⟩
end Go.Proofs.Ytpakocgbbggolaa
