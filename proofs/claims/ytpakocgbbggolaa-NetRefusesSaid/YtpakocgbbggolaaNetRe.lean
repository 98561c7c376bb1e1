import Derived.Test.YtpakocgbbggolaaNetZa
import Derived.Deep.DeepCutAuto
set_option linter.unusedSimpArgs false
set_option linter.unusedVariables false
namespace Go.Proofs.Ytpakocgbbggolaa
open Go.RowKit Go.Proofs.Cul Go.ChangeMaps

/-- The net in state s, apart from the list vw, which reads as ws. -/
def RS (w0 wt : World) (T : Nat → Prop) (g : Nat) (s : St) (vw : Value) (ws : List Fl) (w : World) : Prop :=
  ∃ S, NetP w S g s ∧ (∀ k, S k → w0.heap.size ≤ k ∧ k < w.heap.size ∧ ¬ T k) ∧ RF w T vw ws ∧ (∀ k, T k → k < w.heap.size ∧ w.heap[k]? = wt.heap[k]?) ∧ Below w0.heap.size w0 w
theorem RS.next {w0 wt w w' : World} {T S S' : Nat → Prop} {g : Nat} {s' : St} {vw : Value} {ws : List Fl} (hS : ∀ k, S k → w0.heap.size ≤ k ∧ k < w.heap.size ∧ ¬ T k) (hR : RF w T vw ws) (hT : ∀ k, T k → k < w.heap.size ∧ w.heap[k]? = wt.heap[k]?) (hB : Below w0.heap.size w0 w)
    (hn : NetP w' S' g s') (hS' : ∀ k, S' k → Ext S w w' k) (K : Kp S w w') : RS w0 wt T g s' vw ws w' := by
  have hz := K.size
  refine ⟨S', hn, fun k hk => ?_, hR.kp K (fun k hk e => (hS k e).2.2 hk), fun k hk => ⟨Nat.lt_of_lt_of_le (hT k hk).1 hz, (K.block k (hT k hk).1 (fun e => (hS k e).2.2 hk)).trans (hT k hk).2⟩, hB.trans (Kp.belowB K hB.size (fun k hk => (hS k hk).1))⟩
  rcases hS' k hk with h | h
  · exact ⟨(hS k h).1, Nat.lt_of_lt_of_le (hS k h).2.1 hz, (hS k h).2.2⟩
  · exact ⟨Nat.le_trans hB.size h.1, h.2, fun e => by have := (hT k e).1; omega⟩
theorem RS.below {w0 wt w w' : World} {T : Nat → Prop} {g : Nat} {s : St} {vw : Value} {ws : List Fl} (h : RS w0 wt T g s vw ws w) (b : Below w.heap.size w w') : RS w0 wt T g s vw ws w' := by
  obtain ⟨S, hn, hS, hR, hT, hB⟩ := h
  exact RS.next hS hR hT hB (hn.below b) (fun k hk => Or.inl hk) (Kp.of_below b S)
theorem RS.take {w0 wt w : World} {T : Nat → Prop} {g : Nat} {s : St} {vw : Value} {ws : List Fl} (h : RS w0 wt T g s vw ws w) (no : Int) :
    Calls Try.prog 23 #[.pointer (some ⟨g, 0, none⟩), .int .i64 no] w fun e w' => ∃ A c, e = .returned (.tuple #[.agg #[.int .i64 (takeR s no).1.no, .int .i64 (takeR s no).1.to, .slice A (takeR s no).1.data.length c], .int .i64 (takeR s no).2]) ∧
      RB w' (fun _ => True) (.slice A (takeR s no).1.data.length c) (takeR s no).1.data ∧ RS w0 wt T g (s.take no) vw ws w' := by
  obtain ⟨S, hn, hS, hR, hT, hB⟩ := h
  refine (netTake_calls w S g s hn (fun k hk => (hS k hk).2.1) no).mono ?_
  rintro e w' ⟨d, rfl, ⟨h1, h2, h3⟩, h4, h5⟩
  obtain ⟨A, c, rfl⟩ := own_slice h1
  exact ⟨A, c, rfl, RB.of_own h1 h2 (fun _ _ => trivial), RS.next hS hR hT hB h4 (fun k hk => Or.inl hk.1) h5⟩
theorem RS.drop {w0 wt w : World} {T : Nat → Prop} {g : Nat} {s : St} {vw : Value} {ws : List Fl} (h : RS w0 wt T g s vw ws w) (no : Int) :
    Calls Try.prog 22 #[.pointer (some ⟨g, 0, none⟩), .int .i64 no] w fun e w' => e = .returned (.int .i64 (takeR s no).2) ∧ RS w0 wt T g (s.take no) vw ws w' := by
  obtain ⟨S, hn, hS, hR, hT, hB⟩ := h
  refine (netDrop_calls w S g s hn (fun k hk => (hS k hk).2.1) no).mono ?_
  rintro e w' ⟨rfl, h4, h5⟩
  exact ⟨rfl, RS.next hS hR hT hB h4 (fun k hk => Or.inl hk) h5⟩
theorem RS.copy {w0 wt w : World} {T : Nat → Prop} {g : Nat} {s : St} {vw : Value} {ws : List Fl} (h : RS w0 wt T g s vw ws w) {n : Int} (hg : Good s n) (hgn : n ≤ 4611686018427380000) (no : Int) :
    Calls Try.prog 14 #[.pointer (some ⟨g, 0, none⟩), .int .i64 no] w fun e w' => e = .returned (.tuple #[.int .i64 (s.copy no).1, .int .i64 (copyE s no)]) ∧ RS w0 wt T g (s.copy no).2 vw ws w' := by
  obtain ⟨S, hn, hS, hR, hT, hB⟩ := h
  refine (netCopy_calls w S g s hn (fun k hk => (hS k hk).2.1) hg.len' hg.ok ⟨hg.ok.given0, by have := hg.giv; omega⟩ no).mono ?_
  rintro e w' ⟨rfl, h4, h5⟩
  exact ⟨rfl, RS.next hS hR hT hB h4 (fun k hk => hk) h5⟩
theorem RS.flip {w0 wt w : World} {T : Nat → Prop} {g : Nat} {s : St} {vw : Value} {ws : List Fl} (h : RS w0 wt T g s vw ws w) {n : Int} (hg : Good s n) (no at_ x : Int) :
    Calls Try.prog 19 #[.pointer (some ⟨g, 0, none⟩), .int .i64 no, .int .i64 at_, .int .i64 x] w fun e w' => e = .returned (.int .i64 (s.flip no at_ x).1) ∧ RS w0 wt T g (s.flip no at_ x).2 vw ws w' := by
  obtain ⟨S, hn, hS, hR, hT, hB⟩ := h
  refine (netFlip_calls w S g s hn (fun k hk => (hS k hk).2.1) hg.len' no at_ x).mono ?_
  rintro e w' ⟨rfl, h4, h5⟩
  exact ⟨rfl, RS.next hS hR hT hB h4 (fun k hk => Or.inl hk) h5⟩
theorem RS.send {w0 wt w : World} {T Sb : Nat → Prop} {g : Nat} {s : St} {vw : Value} {ws : List Fl} (h : RS w0 wt T g s vw ws w) {n : Int} (hg : Good s n) (hgn : n ≤ 4611686018427380000) (to_ : Int) (v : Value) (xs : List Int) (hb : RB w Sb v xs) (hSb : ∀ k, Sb k → k < w0.heap.size) (hl : xs.length ≤ 1048576) :
    Calls Try.prog 13 #[.pointer (some ⟨g, 0, none⟩), .int .i64 to_, v] w fun e w' => e = .returned (.int .i64 (s.send to_ xs).1) ∧ RS w0 wt T g (s.send to_ xs).2 vw ws w' := by
  obtain ⟨S, hn, hS, hR, hT, hB⟩ := h
  refine (netSend_calls w S Sb g s hn (fun k hk => (hS k hk).2.1) to_ v xs hb (fun e => by have := hSb g e; have := (hS g hn.self.1).1; omega) hl hg.ok ⟨hg.ok.given0, by have := hg.giv; omega⟩).mono ?_
  rintro e w' ⟨rfl, h4, h5⟩
  exact ⟨rfl, RS.next hS hR hT hB h4 (fun k hk => hk) h5⟩
/-- What is told now. -/
theorem RS.under {w0 wt w : World} {T : Nat → Prop} {g : Nat} {s : St} {vw : Value} {ws : List Fl} (h : RS w0 wt T g s vw ws w) {n : Int} (hg : Good s n) (hgn : n ≤ 4611686018427380000) :
    Calls Try.prog 16 #[.pointer (some ⟨g, 0, none⟩)] w fun e w' => ∃ v, e = .returned v ∧ RF w' (fun k => w.heap.size ≤ k) v s.fl ∧ RS w0 wt T g s vw ws w' ∧ Below w.heap.size w w' := by
  obtain ⟨S, hn, hS, hR, hT, hB⟩ := id h
  refine (netUnder_calls w S g s hn hg.len' hg.ok ⟨hg.ok.given0, by have := hg.giv; omega⟩).mono ?_
  rintro e w' ⟨v, rfl, hm, hb⟩
  exact ⟨v, rfl, hm.reads, h.below hb, hb⟩

def r1 (xs : List Int) : St := ⟨1, [⟨1, 0, xs⟩]⟩
def r2 (xs : List Int) : St := ⟨2, [⟨1, 0, xs⟩, ⟨2, 1, xs⟩]⟩
def r3 (xs : List Int) : St := ⟨2, [⟨2, 1, xs⟩]⟩
theorem er1 (xs : List Int) : St.new.send 0 xs = (1, r1 xs) := by simp [St.send, St.new, r1]
theorem er2 (xs : List Int) : (r1 xs).send 1 xs = (2, r2 xs) := by simp [St.send, r1, r2]
theorem er3 (xs : List Int) : (r2 xs).take 1 = r3 xs := by simp [St.take, strike, r2, r3]
theorem er3e (xs : List Int) : takeR (r2 xs) 1 = (⟨1, 0, xs⟩, 0) := by simp [takeR, find, r2]
theorem fr3 {xs : List Int} {no : Int} (h : no ≠ 2) : find no (r3 xs).fl = none := by simp [find, r3, h]
theorem g1 {xs : List Int} (h : xs.length ≤ 65536) : Good (r1 xs) 1 := by have := good_new.send 0 xs h; rwa [er1] at this
theorem g2 {xs : List Int} (h : xs.length ≤ 65536) : Good (r2 xs) 2 := by have := (g1 h).send 1 xs h; rwa [er2] at this
theorem g3 {xs : List Int} (h : xs.length ≤ 65536) : Good (r3 xs) 2 := by have := (g2 h).take 1; rwa [er3] at this
theorem t3 {xs : List Int} {no : Int} (h : no ≠ 2) : (r3 xs).take no = r3 xs ∧ takeR (r3 xs) no = (⟨0, 0, []⟩, 218) ∧ (r3 xs).copy no = (0, r3 xs) ∧ copyE (r3 xs) no = 218 ∧ ∀ a b, (r3 xs).flip no a b = (218, r3 xs) := by
  have f := fr3 (xs := xs) h
  refine ⟨st_same f, by simp [takeR, f], by simp [St.copy, f], by simp [copyE, f], fun a b => by simp [St.flip, f]⟩
theorem RS.mono {w0 wt wt' w : World} {T T' : Nat → Prop} {g : Nat} {s : St} {vw : Value} {ws : List Fl} (h : RS w0 wt T g s vw ws w) (hT : ∀ k, T' k → T k) (hv : RF w T' vw ws) (hw : ∀ k, T' k → wt'.heap[k]? = wt.heap[k]?) : RS w0 wt' T' g s vw ws w := by
  obtain ⟨S, hn, hS, hR, hT', hB⟩ := h
  exact ⟨S, hn, fun k hk => ⟨(hS k hk).1, (hS k hk).2.1, fun e => (hS k hk).2.2 (hT k e)⟩, hv, fun k hk => ⟨(hT' k (hT k hk)).1, ((hT' k (hT k hk)).2).trans (hw k hk).symm⟩, hB⟩
/-- One block more is held. -/
theorem RS.hold {w0 wt w : World} {T : Nat → Prop} {g : Nat} {s : St} {vw : Value} {ws : List Fl} (h : RS w0 wt T g s vw ws w) (o : Obj) : RS w0 (w.alloc o) (fun k => T k ∨ k = w.heap.size) g s vw ws (w.alloc o) := by
  obtain ⟨S, hn, hS, hR, hT, hB⟩ := h
  have b : Below w.heap.size w (w.alloc o) := (Below.refl _ _).alloc (Nat.le_refl _) _
  refine ⟨S, hn.below b, fun k hk => ⟨(hS k hk).1, Nat.lt_of_lt_of_le (hS k hk).2.1 b.size, fun e => ?_⟩, (hR.below b).mono (fun k hk _ => Or.inl hk), fun k hk => ⟨?_, rfl⟩, hB.trans (b.mono hB.size)⟩
  · rcases e with e | e
    · exact (hS k hk).2.2 e
    · have := (hS k hk).2.1
      omega
  · rcases hk with hk | hk
    · exact Nat.lt_of_lt_of_le (hT k hk).1 b.size
    · subst hk; simp
theorem RS.kept {w0 wt w w' : World} {g : Nat} {s : St} {v vw : Value} {ws fs : List Fl} (h : RS w0 wt (fun _ => False) g s vw ws w) (hb : Below w.heap.size w w') (hr : RF w' (fun k => w.heap.size ≤ k) v fs) :
    RS w0 w' (fun k => w.heap.size ≤ k ∧ k < w'.heap.size) g s v fs w' := by
  obtain ⟨S, hn, hS, hR, hT, hB⟩ := h
  exact ⟨S, hn.below hb, fun k hk => ⟨(hS k hk).1, Nat.lt_of_lt_of_le (hS k hk).2.1 hb.size, fun e => by have := (hS k hk).2.1; omega⟩, hr.mono (fun k hk hl => ⟨hk, hl⟩), fun k hk => ⟨hk.2, rfl⟩, hB.trans (hb.mono hB.size)⟩
theorem RB.empty {w w' : World} {S S' : Nat → Prop} {A : Option Addr} {c : Nat} (h : RB w S (.slice A 0 c) []) : RB w' S' (.slice A 0 c) [] := by
  obtain ⟨A', c', e, h2, h3, h4, _⟩ := h
  cases e
  exact ⟨_, _, rfl, h2, h3, h4, fun h => absurd rfl h⟩
theorem RS.takeNo {w0 wt w : World} {T : Nat → Prop} {g : Nat} {vw : Value} {ws : List Fl} {xs : List Int} (h : RS w0 wt T g (r3 xs) vw ws w) {no : Int} (hno : no ≠ 2) :
    Calls Try.prog 23 #[.pointer (some ⟨g, 0, none⟩), .int .i64 no] w fun e w' => ∃ A c, e = .returned (.tuple #[.agg #[.int .i64 0, .int .i64 0, .slice A 0 c], .int .i64 218]) ∧ RB w' (fun _ => True) (.slice A 0 c) [] ∧ RS w0 wt T g (r3 xs) vw ws w' := by
  refine (h.take no).mono ?_
  rintro e w' ⟨A, c, rfl, h1, h2⟩
  rw [(t3 hno).1] at h2
  rw [(t3 hno).2.1] at h1 ⊢
  exact ⟨A, c, rfl, h1, h2⟩

set_option maxHeartbeats 1000000 in
set_option maxRecDepth 100000 in
theorem netRefuses_calls (w : World) (A : Option Addr) (c : Nat) (xs : List Int) (hb : RB w (fun k => k < w.heap.size) (.slice A xs.length c) xs) (no at_ v : Int) (wf1 : (Lit.int .i64 no).wf = true) (wf2 : (Lit.int .i64 at_).wf = true) (wf3 : (Lit.int .i64 v).wf = true) :
    Calls Try.prog 7 #[.slice A xs.length c, .int .i64 no, .int .i64 at_, .int .i64 v] w fun e w' => e = .returned (.bool true) ∧ Below w.heap.size w w' := by
  have hk := known_calls w
  have ld := lenB hb
  have hnum := num_calls
  have HO := Lib.hid hb
  clear hb wf1 wf2 wf3
  go_enter Try.func7, Try.ntmps7
  go_wp2_with fail
  refine hk.mono ?_
  clear hk
  rintro e w1 ⟨rfl, hb1⟩
  have hc := netNew_calls w1
  have HB1 := Lib.hid hb1
  clear hb1
  go_wp2_with fail
  refine hc.mono ?_
  clear hc
  rintro e w2 ⟨rfl, hn2, hb2, hz2⟩
  have rs : RS w w2 (fun _ => False) (w1.heap.size + 1) St.new (.slice none 0 0) [] w2 :=
    ⟨_, hn2, fun k hk => by have := HB1.out.size; rcases hk with rfl | rfl <;> exact ⟨by omega, by omega, fun h => h⟩, RRow.nil _ _ _ _, fun k hk => hk.elim, HB1.out.trans (hb2.mono HB1.out.size)⟩
  have HB2 := Lib.hid (HB1.out.trans (hb2.mono HB1.out.size))
  clear hn2 hb2 hz2
  by_cases hlen : 4096 < xs.length
  · have b1 : decide ((4096 : Int) < (xs.length : Int)) = true := by simp; omega
    clear rs
    go_wp2_with fail
    go_ret
    exact ⟨rfl, HB2.out⟩
  · have b1 : decide ((4096 : Int) < (xs.length : Int)) = false := by simp; omega
    have hl : xs.length ≤ 65536 := by omega
    have hbw : ∀ W, Below w.heap.size w W → RB W (fun k => k < w.heap.size) (.slice A xs.length c) xs := fun W h => HO.out.below h
    have HBW := Lib.hid hbw
    have hc := rs.send good_new (by omega) 0 (.slice A xs.length c) xs (HBW.out _ HB2.out) (fun _ h => h) (by omega)
    rw [er1] at hc
    clear rs hbw
    go_wp2_with fail
    refine hc.mono ?_
    clear hc
    rintro e w3 ⟨rfl, rs3⟩
    have hc := rs3.send (g1 hl) (by omega) 1 (.slice A xs.length c) xs (HBW.out _ rs3.choose_spec.2.2.2.2) (fun _ h => h) (by omega)
    rw [er2] at hc
    clear rs3
    go_wp2_with fail
    refine hc.mono ?_
    clear hc
    rintro e w4 ⟨rfl, rs4⟩
    have hc := rs4.drop 1
    rw [er3, er3e] at hc
    clear rs4
    go_wp2_with fail
    refine hc.mono ?_
    clear hc
    rintro e w5 ⟨rfl, rs5⟩
    have hc := rs5.under (g3 hl) (by omega)
    have HR5 := Lib.hid rs5
    clear rs5
    go_wp2_with fail
    refine hc.mono ?_
    clear hc
    rintro e w6 ⟨vw, rfl, hrf, _, hb6⟩
    have rs6 := HR5.out.kept hb6 hrf
    have HR6 := Lib.hid rs6
    clear hrf hb6 rs6
    go_upto_if 42 with (fail)
    go_cut [] (fun wx => RS w w6 (fun k => w5.heap.size ≤ k ∧ k < w6.heap.size) (w1.heap.size + 1) (r3 xs) vw (r3 xs).fl wx)
    case first =>
      by_cases hno : no = 2
      · have b2 : (no != 2) = false := by simp [hno]
        have HN := Lib.hid hno
        clear hno
        go_wp2_with fail
        go_meet
        case rel => exact HR6.out
      · have b2 : (no != 2) = true := by simp [hno]
        have HN := Lib.hid hno
        clear hno
        have hc := HR6.out.takeNo HN.out
        go_wp2_with fail
        refine hc.mono ?_
        clear hc
        rintro e w7 ⟨fA, fc, rfl, hfb, rs7⟩
        have rs7' := rs7.hold (.cells #[.int .i64 0, .int .i64 0, .slice fA 0 fc] 49)
        have H7 := Lib.hid rs7.choose_spec.2.2.2.1
        have HFB := Lib.hid hfb
        have hf0 := heap_alloc_new w7 (.cells #[.int .i64 0, .int .i64 0, .slice fA 0 fc] 49)
        have HF0 := Lib.hid hf0
        have HC := Lib.hid (rs7'.drop no)
        clear rs7 rs7' hfb hf0
        have hc := HC.out
        rw [(t3 HN.out).1, (t3 HN.out).2.1] at hc
        go_wp2_with fail
        refine hc.mono ?_
        clear hc
        rintro e w8 ⟨rfl, rs8⟩
        have HC := Lib.hid (rs8.copy (g3 hl) (by omega) no)
        clear rs8
        have hc := HC.out
        rw [(t3 HN.out).2.2.1, (t3 HN.out).2.2.2.1] at hc
        go_wp2_with fail
        refine hc.mono ?_
        clear hc
        rintro e w9 ⟨rfl, rs9⟩
        have HC := Lib.hid (rs9.flip (g3 hl) no 0 1)
        clear rs9
        have hc := HC.out
        rw [(t3 HN.out).2.2.2.2] at hc
        go_wp2_with fail
        refine hc.mono ?_
        clear hc
        rintro e wa ⟨rfl, rsa⟩
        have hfa : wa.heap[w7.heap.size]? = _ := (rsa.choose_spec.2.2.2.1 w7.heap.size (Or.inr rfl)).2.trans HF0.out
        have k0 : wa.cell? ⟨w7.heap.size, 0, none⟩ = some (.int .i64 0) := cell_at hfa 0
        have k1 : wa.cell? ⟨w7.heap.size, 1, none⟩ = some (.int .i64 0) := cell_at hfa 1
        have k2 : wa.cell? ⟨w7.heap.size, 2, none⟩ = some (.slice fA 0 fc) := cell_at hfa 2
        have hc := sameFlight_calls ⟨0, 0, []⟩ ⟨0, 0, []⟩ (.slice fA 0 fc) (.slice none 0 0) wa (fun _ => True) (fun _ => True) (RB.empty HFB.out) (RB.nil _ _)
        simp only [decide_true] at hc
        have HRA := Lib.hid rsa
        clear rsa hfa
        go_wp2_with fail
        refine hc.mono ?_
        clear hc
        rintro e wb ⟨rfl, hbb⟩
        have HBB := Lib.hid hbb
        clear hbb k0 k1 k2
        go_wp2_with (go_at_call 15; refine (hnum _ _).mono ?_; rintro e w' ⟨rfl, rfl⟩)
        go_meet
        case rel =>
          have rsb := HRA.out.below HBB.out
          have e1 : ∀ k, (w5.heap.size ≤ k ∧ k < w6.heap.size) → (w7.alloc (.cells #[.int .i64 0, .int .i64 0, .slice fA 0 fc] 49)).heap[k]? = w6.heap[k]? := fun k hk =>
            (Below.heap_alloc _ _ _ (H7.out k hk).1).trans (H7.out k hk).2
          have e2 := rsb.choose_spec.2.2.2.1
          exact rsb.mono (fun k hk => Or.inl hk) (HR6.out.choose_spec.2.2.1.move (fun k hk _ => (e2 k (Or.inl hk)).2.trans (e1 k hk))) (fun k hk => (e1 k hk).symm)
    case rest =>
      have HRC := Lib.hid hcut
      clear hcut
      obtain ⟨wm, hwm⟩ : ∃ wm : World, wm = wc := ⟨_, rfl⟩
      subst hwm
      have meet : ∀ W, RS w w6 (fun k => w5.heap.size ≤ k ∧ k < w6.heap.size) (w1.heap.size + 1) (r3 xs) vw (r3 xs).fl W → flips xs at_ v = false → Calls Try.prog 19 #[.pointer (some ⟨w1.heap.size + 1, 0, none⟩), .int .i64 2, .int .i64 at_, .int .i64 v] W fun e w' => e = .returned (.int .i64 2) ∧ RS w w6 (fun k => w5.heap.size ≤ k ∧ k < w6.heap.size) (w1.heap.size + 1) (r3 xs) vw (r3 xs).fl w' := fun W h hf => by
        have hc := h.flip (g3 hl) 2 at_ v
        have e : (r3 xs).flip 2 at_ v = (2, r3 xs) := by simp [St.flip, r3, find, hf]
        rw [e] at hc
        exact hc
      have MT := Lib.hid meet
      clear meet
      by_cases q1 : at_ < 0
      · have d1 : decide (at_ < 0) = true := by simpa using q1
        have hc := MT.out wm HRC.out (by simp [flips]; omega)
        clear q1
        go_wp2_with fail
        refine hc.mono ?_
        clear hc
        rintro e w7 ⟨rfl, rs7⟩
        have H7 := Lib.hid rs7
        clear rs7
        have hc := H7.out.under (g3 hl) (by omega)
        go_wp2_with (first | (go_at_call 15; refine (hnum _ _).mono ?_; rintro e w' ⟨rfl, rfl⟩) | fail)
        refine hc.mono ?_
        clear hc
        rintro e w8 ⟨vv, rfl, hrf, rs8, hb8⟩
        have hc := sameFlights_calls vv vw (r3 xs).fl (r3 xs).fl w8 _ _ hrf rs8.choose_spec.2.2.1
        simp only [decide_true] at hc
        have H8 := Lib.hid rs8
        clear rs8 hrf hb8
        go_wp2_with fail
        refine hc.mono ?_
        clear hc
        rintro e w9 ⟨rfl, hb9⟩
        have rs9 := H8.out.below hb9
        have hc := rs9.send (g3 hl) (by omega) 0 (.slice none 0 0) [] (RB.nil _ (fun _ => False)) (fun _ h => h.elim) (by simp)
        have e9 : ((r3 xs).send 0 []).1 = 3 := by simp [St.send, r3]
        rw [e9] at hc
        clear rs9 hb9 e9
        go_wp2_with fail
        refine hc.mono ?_
        clear hc
        rintro e wa ⟨rfl, rsa⟩
        have HA := Lib.hid rsa
        clear rsa
        go_wp2_with fail
        go_ret
        exact ⟨rfl, HA.out.choose_spec.2.2.2.2⟩
      · have d1 : decide (at_ < 0) = false := by simpa using q1
        by_cases q2 : (xs.length : Int) ≤ at_
        · have d2 : decide ((xs.length : Int) ≤ at_) = true := by simpa using q2
          have hc := MT.out wm HRC.out (by simp [flips]; omega)
          clear q1 q2
          go_wp2_with fail
          refine hc.mono ?_
          clear hc
          rintro e w7 ⟨rfl, rs7⟩
          have H7 := Lib.hid rs7
          clear rs7
          have hc := H7.out.under (g3 hl) (by omega)
          go_wp2_with (first | (go_at_call 15; refine (hnum _ _).mono ?_; rintro e w' ⟨rfl, rfl⟩) | fail)
          refine hc.mono ?_
          clear hc
          rintro e w8 ⟨vv, rfl, hrf, rs8, hb8⟩
          have hc := sameFlights_calls vv vw (r3 xs).fl (r3 xs).fl w8 _ _ hrf rs8.choose_spec.2.2.1
          simp only [decide_true] at hc
          have H8 := Lib.hid rs8
          clear rs8 hrf hb8
          go_wp2_with fail
          refine hc.mono ?_
          clear hc
          rintro e w9 ⟨rfl, hb9⟩
          have rs9 := H8.out.below hb9
          have hc := rs9.send (g3 hl) (by omega) 0 (.slice none 0 0) [] (RB.nil _ (fun _ => False)) (fun _ h => h.elim) (by simp)
          have e9 : ((r3 xs).send 0 []).1 = 3 := by simp [St.send, r3]
          rw [e9] at hc
          clear rs9 hb9 e9
          go_wp2_with fail
          refine hc.mono ?_
          clear hc
          rintro e wa ⟨rfl, rsa⟩
          have HA := Lib.hid rsa
          clear rsa
          go_wp2_with fail
          go_ret
          exact ⟨rfl, HA.out.choose_spec.2.2.2.2⟩
        · have d2 : decide ((xs.length : Int) ≤ at_) = false := by simpa using q2
          by_cases q3 : v < 1
          · have d3 : decide (v < 1) = true := by simpa using q3
            have hc := MT.out wm HRC.out (by simp [flips]; omega)
            clear q1 q2 q3
            go_wp2_with fail
            refine hc.mono ?_
            clear hc
            rintro e w7 ⟨rfl, rs7⟩
            have H7 := Lib.hid rs7
            clear rs7
            have hc := H7.out.under (g3 hl) (by omega)
            go_wp2_with (first | (go_at_call 15; refine (hnum _ _).mono ?_; rintro e w' ⟨rfl, rfl⟩) | fail)
            refine hc.mono ?_
            clear hc
            rintro e w8 ⟨vv, rfl, hrf, rs8, hb8⟩
            have hc := sameFlights_calls vv vw (r3 xs).fl (r3 xs).fl w8 _ _ hrf rs8.choose_spec.2.2.1
            simp only [decide_true] at hc
            have H8 := Lib.hid rs8
            clear rs8 hrf hb8
            go_wp2_with fail
            refine hc.mono ?_
            clear hc
            rintro e w9 ⟨rfl, hb9⟩
            have rs9 := H8.out.below hb9
            have hc := rs9.send (g3 hl) (by omega) 0 (.slice none 0 0) [] (RB.nil _ (fun _ => False)) (fun _ h => h.elim) (by simp)
            have e9 : ((r3 xs).send 0 []).1 = 3 := by simp [St.send, r3]
            rw [e9] at hc
            clear rs9 hb9 e9
            go_wp2_with fail
            refine hc.mono ?_
            clear hc
            rintro e wa ⟨rfl, rsa⟩
            have HA := Lib.hid rsa
            clear rsa
            go_wp2_with fail
            go_ret
            exact ⟨rfl, HA.out.choose_spec.2.2.2.2⟩
          · have d3 : decide (v < 1) = false := by simpa using q3
            by_cases q4 : 255 < v
            · have d4 : decide (255 < v) = true := by simpa using q4
              have hc := MT.out wm HRC.out (by simp [flips]; omega)
              clear q1 q2 q3 q4
              go_wp2_with fail
              refine hc.mono ?_
              clear hc
              rintro e w7 ⟨rfl, rs7⟩
              have H7 := Lib.hid rs7
              clear rs7
              have hc := H7.out.under (g3 hl) (by omega)
              go_wp2_with (first | (go_at_call 15; refine (hnum _ _).mono ?_; rintro e w' ⟨rfl, rfl⟩) | fail)
              refine hc.mono ?_
              clear hc
              rintro e w8 ⟨vv, rfl, hrf, rs8, hb8⟩
              have hc := sameFlights_calls vv vw (r3 xs).fl (r3 xs).fl w8 _ _ hrf rs8.choose_spec.2.2.1
              simp only [decide_true] at hc
              have H8 := Lib.hid rs8
              clear rs8 hrf hb8
              go_wp2_with fail
              refine hc.mono ?_
              clear hc
              rintro e w9 ⟨rfl, hb9⟩
              have rs9 := H8.out.below hb9
              have hc := rs9.send (g3 hl) (by omega) 0 (.slice none 0 0) [] (RB.nil _ (fun _ => False)) (fun _ h => h.elim) (by simp)
              have e9 : ((r3 xs).send 0 []).1 = 3 := by simp [St.send, r3]
              rw [e9] at hc
              clear rs9 hb9 e9
              go_wp2_with fail
              refine hc.mono ?_
              clear hc
              rintro e wa ⟨rfl, rsa⟩
              have HA := Lib.hid rsa
              clear rsa
              go_wp2_with fail
              go_ret
              exact ⟨rfl, HA.out.choose_spec.2.2.2.2⟩
            · have d4 : decide (255 < v) = false := by simpa using q4
              clear q1 q2 q3 q4
              have hc := HRC.out.under (g3 hl) (by omega)
              go_wp2_with (first | (go_at_call 15; refine (hnum _ _).mono ?_; rintro e w' ⟨rfl, rfl⟩) | fail)
              refine hc.mono ?_
              clear hc
              rintro e w8 ⟨vv, rfl, hrf, rs8, hb8⟩
              have hc := sameFlights_calls vv vw (r3 xs).fl (r3 xs).fl w8 _ _ hrf rs8.choose_spec.2.2.1
              simp only [decide_true] at hc
              have H8 := Lib.hid rs8
              clear rs8 hrf hb8
              go_wp2_with fail
              refine hc.mono ?_
              clear hc
              rintro e w9 ⟨rfl, hb9⟩
              have rs9 := H8.out.below hb9
              have hc := rs9.send (g3 hl) (by omega) 0 (.slice none 0 0) [] (RB.nil _ (fun _ => False)) (fun _ h => h.elim) (by simp)
              have e9 : ((r3 xs).send 0 []).1 = 3 := by simp [St.send, r3]
              rw [e9] at hc
              clear rs9 hb9 e9
              go_wp2_with fail
              refine hc.mono ?_
              clear hc
              rintro e wa ⟨rfl, rsa⟩
              have HA := Lib.hid rsa
              clear rsa
              go_wp2_with fail
              go_ret
              exact ⟨rfl, HA.out.choose_spec.2.2.2.2⟩
end Go.Proofs.Ytpakocgbbggolaa
