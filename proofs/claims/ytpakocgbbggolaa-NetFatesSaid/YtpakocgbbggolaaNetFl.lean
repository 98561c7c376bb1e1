import Derived.Test.YtpakocgbbggolaaNetFm
import Derived.Deep.DeepCutAuto
set_option linter.unusedSimpArgs false
set_option linter.unusedVariables false
namespace Go.Proofs.Ytpakocgbbggolaa
open Go.RowKit Go.Proofs.Cul Go.ChangeMaps

theorem FM.take {B : Nat} {w : World} {g : Nat} {s : St} {L H : Value} {E : List (Fl × Value)} {hs : List Bool} {S : Nat → Prop} (h : FM B w g s L H E hs S) (no : Int) :
    Calls Try.prog 23 #[.pointer (some ⟨g, 0, none⟩), .int .i64 no] w fun e w' => ∃ A c S', e = .returned (.tuple #[.agg #[.int .i64 (takeR s no).1.no, .int .i64 (takeR s no).1.to, .slice A (takeR s no).1.data.length c], .int .i64 (takeR s no).2]) ∧
      RB w' (fun _ => True) (.slice A (takeR s no).1.data.length c) (takeR s no).1.data ∧ FM B w' g (s.take no) L H E hs S' ∧ Kp S w w' := by
  refine (netTake_calls w S g s h.net (fun k hk => (h.hS k hk).2.1) no).mono ?_
  rintro e w' ⟨d, rfl, ⟨h1, h2, h3⟩, h4, h5⟩
  obtain ⟨A, c, rfl⟩ := own_slice h1
  exact ⟨A, c, _, rfl, RB.of_own h1 h2 (fun _ _ => trivial), h.next h4 (fun k hk => Or.inl hk.1) h5, h5⟩
theorem FM.drop {B : Nat} {w : World} {g : Nat} {s : St} {L H : Value} {E : List (Fl × Value)} {hs : List Bool} {S : Nat → Prop} (h : FM B w g s L H E hs S) (no : Int) :
    Calls Try.prog 22 #[.pointer (some ⟨g, 0, none⟩), .int .i64 no] w fun e w' => e = .returned (.int .i64 (takeR s no).2) ∧ FM B w' g (s.take no) L H E hs S ∧ Kp S w w' := by
  refine (netDrop_calls w S g s h.net (fun k hk => (h.hS k hk).2.1) no).mono ?_
  rintro e w' ⟨rfl, h4, h5⟩
  exact ⟨rfl, h.next h4 (fun k hk => Or.inl hk) h5, h5⟩
theorem FM.far {B : Nat} {w w' : World} {g : Nat} {s : St} {L H : Value} {E : List (Fl × Value)} {hs : List Bool} {S T : Nat → Prop} (h : FM B w g s L H E hs S) (K : Kp T w w') (hd : ∀ i, T i → ¬ S i ∧ ¬ XB L H E i) : FM B w' g s L H E hs S := by
  have hz := K.size
  exact ⟨h.net.kp K (fun i hi e => (hd i e).1 hi), fun k hk => ⟨(h.hS k hk).1, Nat.lt_of_lt_of_le (h.hS k hk).2.1 hz, (h.hS k hk).2.2⟩, own_kp h.rowL K (fun i hi e => (hd i e).2 (Or.inl hi)), own_kp h.rowH K (fun i hi e => (hd i e).2 (Or.inr (Or.inl hi))), fun e he => ⟨own_kp (h.data e he).1 K (fun i hi e' => (hd i e').2 (Or.inr (Or.inr ⟨e, he, hi⟩))), (h.data e he).2⟩, h.apart, Nat.le_trans h.hB hz⟩
theorem FM.send {B : Nat} {w : World} {g : Nat} {s : St} {L H : Value} {E : List (Fl × Value)} {hs : List Bool} {S Sb : Nat → Prop} (h : FM B w g s L H E hs S) {n : Int} (hg : Good s n) (hgn : n ≤ 4611686018427380000) (to_ : Int) (v : Value) (xs : List Int) (hb : RB w Sb v xs) (hbg : ¬ Sb g) (hl : xs.length ≤ 1048576) :
    Calls Try.prog 13 #[.pointer (some ⟨g, 0, none⟩), .int .i64 to_, v] w fun e w' => ∃ S', e = .returned (.int .i64 (s.send to_ xs).1) ∧ FM B w' g (s.send to_ xs).2 L H E hs S' ∧ Kp S w w' := by
  refine (netSend_calls w S Sb g s h.net (fun k hk => (h.hS k hk).2.1) to_ v xs hb hbg hl hg.ok ⟨hg.ok.given0, by have := hg.giv; omega⟩).mono ?_
  rintro e w' ⟨rfl, h4, h5⟩
  exact ⟨_, rfl, h.next h4 (fun k hk => hk) h5, h5⟩
theorem FM.copy {B : Nat} {w : World} {g : Nat} {s : St} {L H : Value} {E : List (Fl × Value)} {hs : List Bool} {S : Nat → Prop} (h : FM B w g s L H E hs S) {n : Int} (hg : Good s n) (hgn : n ≤ 4611686018427380000) (no : Int) :
    Calls Try.prog 14 #[.pointer (some ⟨g, 0, none⟩), .int .i64 no] w fun e w' => ∃ S', e = .returned (.tuple #[.int .i64 (s.copy no).1, .int .i64 (copyE s no)]) ∧ FM B w' g (s.copy no).2 L H E hs S' ∧ Kp S w w' := by
  refine (netCopy_calls w S g s h.net (fun k hk => (h.hS k hk).2.1) hg.len' hg.ok ⟨hg.ok.given0, by have := hg.giv; omega⟩ no).mono ?_
  rintro e w' ⟨rfl, h4, h5⟩
  exact ⟨_, rfl, h.next h4 (fun k hk => hk) h5, h5⟩
theorem FM.flip {B : Nat} {w : World} {g : Nat} {s : St} {L H : Value} {E : List (Fl × Value)} {hs : List Bool} {S : Nat → Prop} (h : FM B w g s L H E hs S) {n : Int} (hg : Good s n) (no at_ x : Int) :
    Calls Try.prog 19 #[.pointer (some ⟨g, 0, none⟩), .int .i64 no, .int .i64 at_, .int .i64 x] w fun e w' => e = .returned (.int .i64 (s.flip no at_ x).1) ∧ FM B w' g (s.flip no at_ x).2 L H E hs S ∧ Kp S w w' := by
  refine (netFlip_calls w S g s h.net (fun k hk => (h.hS k hk).2.1) hg.len' no at_ x).mono ?_
  rintro e w' ⟨rfl, h4, h5⟩
  exact ⟨rfl, h.next h4 (fun k hk => Or.inl hk) h5, h5⟩
/-- What comes behind a call at the net, with its book. -/
def Left (B : Nat) (w0 : World) (g : Nat) (s : St) (L H : Value) (E : List (Fl × Value)) (hs : List Bool) (e : Ending) (w' : World) : Prop := e = .returned (.bool true) ∧ (∃ S', FM B w' g s L H E hs S') ∧ Below B w0 w'
theorem FM.kpB {B : Nat} {w w' : World} {g : Nat} {s : St} {L H : Value} {E : List (Fl × Value)} {hs : List Bool} {S : Nat → Prop} (h : FM B w g s L H E hs S) (K : Kp S w w') : Below B w w' := Kp.belowB K h.hB (fun k hk => (h.hS k hk).1)

set_option maxRecDepth 100000 in
theorem leaves_drop {B : Nat} {w : World} {g : Nat} {s : St} {L H : Value} {E : List (Fl × Value)} {hs : List Bool} {S : Nat → Prop} (h : FM B w g s L H E hs S) (no at_ to_ x : Int) (sec th : Bool) (A : Option Addr) (c m : Nat) (hth : (takeR s no).2 = if th then 0 else 218) :
    Calls Try.prog 20 #[.pointer (some ⟨g, 0, none⟩), opV 3 sec to_ no x at_ (.slice A m c), L, .bool th] w (Left B w g (s.take no) L H E hs) := by
  have B1 : Below w.heap.size w (w.alloc (opB 3 sec to_ no x at_ (.slice A m c))) := (Below.refl _ _).alloc (Nat.le_refl _) _
  have hc := (h.below B1).drop no
  rw [hth] at hc
  have hnum := num_calls
  have HH := Lib.hid (And.intro h B1)
  clear h B1 hth
  cases th
  · go_enter Try.func20, Try.ntmps20
    go_wp2_with fail
    refine hc.mono ?_
    clear hc
    rintro e w2 ⟨rfl, hf, hk⟩
    have HF := Lib.hid (And.intro hf hk)
    clear hf hk
    go_wp2_with (go_at_call 15; refine (hnum _ _).mono ?_; rintro e w' ⟨rfl, rfl⟩)
    go_ret
    exact ⟨rfl, ⟨_, HF.out.1⟩, (HH.out.2.mono HH.out.1.hB).trans ((HH.out.1.below HH.out.2).kpB HF.out.2)⟩
  · go_enter Try.func20, Try.ntmps20
    go_wp2_with fail
    refine hc.mono ?_
    clear hc
    rintro e w2 ⟨rfl, hf, hk⟩
    have HF := Lib.hid (And.intro hf hk)
    clear hf hk
    go_wp2_with (go_at_call 15; refine (hnum _ _).mono ?_; rintro e w' ⟨rfl, rfl⟩)
    go_ret
    exact ⟨rfl, ⟨_, HF.out.1⟩, (HH.out.2.mono HH.out.1.hB).trans ((HH.out.1.below HH.out.2).kpB HF.out.2)⟩

set_option maxRecDepth 100000 in
theorem leaves_gone {B : Nat} {w : World} {g : Nat} {s : St} {L H : Value} {E : List (Fl × Value)} {hs : List Bool} {S : Nat → Prop} (h : FM B w g s L H E hs S) (no at_ to_ x : Int) (sec : Bool) (A : Option Addr) (c m : Nat) (hth : takeR s no = (⟨0, 0, []⟩, 218)) :
    Calls Try.prog 20 #[.pointer (some ⟨g, 0, none⟩), opV 2 sec to_ no x at_ (.slice A m c), L, .bool false] w (Left B w g (s.take no) L H E hs) := by
  have B1 : Below w.heap.size w (w.alloc (opB 2 sec to_ no x at_ (.slice A m c))) := (Below.refl _ _).alloc (Nat.le_refl _) _
  have hc := (h.below B1).take no
  rw [hth] at hc
  have hnum := num_calls
  have HH := Lib.hid (And.intro h B1)
  clear h B1 hth
  go_enter Try.func20, Try.ntmps20
  go_wp2_with fail
  refine hc.mono ?_
  clear hc
  rintro e w2 ⟨fA, fc, S', rfl, hrb, hf, hk⟩
  have B2 : Below w2.heap.size w2 ((w2.alloc (.cells #[.int .i64 0, .int .i64 0, .slice fA 0 fc] 49)).alloc (.cells #[.int .i64 0, .int .i64 0, .slice none 0 0] 49)) := ((Below.refl _ _).alloc (Nat.le_refl _) _).alloc (by simp) _
  have hs4 := sameFlight_calls ⟨0, 0, []⟩ ⟨0, 0, []⟩ (.slice fA 0 fc) (.slice none 0 0) _ _ (fun _ => True) (hrb.below B2) (RB.nil _ _)
  simp only [decide_true] at hs4
  have HF := Lib.hid (And.intro hf (And.intro hk B2))
  clear hf hk B2 hrb
  go_wp2_with fail
  refine hs4.mono ?_
  clear hs4
  rintro e w5 ⟨rfl, hb5⟩
  have HB5 := Lib.hid hb5
  clear hb5
  go_wp2_with (go_at_call 15; refine (hnum _ _).mono ?_; rintro e w' ⟨rfl, rfl⟩)
  go_ret
  have f5 := (HF.out.1.below HF.out.2.2).below HB5.out
  have k2 := (HH.out.1.below HH.out.2).kpB HF.out.2.1
  have b2 : B ≤ w2.heap.size := HF.out.1.hB
  exact ⟨rfl, ⟨_, f5⟩, (((HH.out.2.mono HH.out.1.hB).trans k2).trans (HF.out.2.2.mono b2)).trans (HB5.out.mono (Nat.le_trans b2 HF.out.2.2.size))⟩

set_option maxRecDepth 100000 in
theorem leaves_there {B : Nat} {w : World} {g : Nat} {s : St} {L H : Value} {E : List (Fl × Value)} {hs : List Bool} {S : Nat → Prop} (h : FM B w g s L H E hs S) (i : Nat) (hil : i < 4096) (f : Fl) (dv : Value) (he : E[i]? = some (f, dv)) (at_ to_ x : Int) (sec : Bool) (A : Option Addr) (c m : Nat) (hth : takeR s ((i : Int) + 1) = (f, 0)) :
    Calls Try.prog 20 #[.pointer (some ⟨g, 0, none⟩), opV 2 sec to_ ((i : Int) + 1) x at_ (.slice A m c), L, .bool true] w (Left B w g (s.take ((i : Int) + 1)) L H E hs) := by
  have B1 : Below w.heap.size w (w.alloc (opB 2 sec to_ ((i : Int) + 1) x at_ (.slice A m c))) := (Below.refl _ _).alloc (Nat.le_refl _) _
  have hx := heap_alloc_new w (opB 2 sec to_ ((i : Int) + 1) x at_ (.slice A m c))
  have hc := (h.below B1).take ((i : Int) + 1)
  rw [hth] at hc
  have hnum := num_calls
  have HH := Lib.hid (And.intro h (And.intro B1 hx))
  have HE := Lib.hid he
  clear h B1 hth hx he
  go_enter Try.func20, Try.ntmps20
  go_wp2_with fail
  refine hc.mono ?_
  clear hc
  rintro e w2 ⟨fA, fc, S', rfl, hrb, hf, hk⟩
  have hx2 : w2.heap[w.heap.size]? = _ := (hk.block w.heap.size (by simp) (fun e => by have := (HH.out.1.hS _ e).2.1; omega)).trans HH.out.2.2
  have o3 : w2.cell? ⟨w.heap.size, 3, none⟩ = some (.int .i64 ((i : Int) + 1)) := cell_at hx2 3
  have B2 : Below w2.heap.size w2 ((w2.alloc (.cells #[.int .i64 f.no, .int .i64 f.to, .slice fA f.data.length fc] 49)).alloc (.cells #[.int .i64 0, .int .i64 0, .slice none 0 0] 49)) := ((Below.refl _ _).alloc (Nat.le_refl _) _).alloc (by simp) _
  have hEl := (List.getElem?_eq_some_iff.1 HE.out).1
  have hrf := (hf.below B2).reads
  obtain ⟨q, d, hq, hqS, hql, hcs, hqb⟩ := idxF hrf i (by simpa using hEl)
  have hei : (E.map (·.1))[i]'(by simpa using hEl) = f := by
    have := (List.getElem?_eq_some_iff.1 HE.out).2
    simp [this]
  rw [hei] at hcs hqb
  have hfa : ((w2.alloc (.cells #[.int .i64 f.no, .int .i64 f.to, .slice fA f.data.length fc] 49)).alloc (.cells #[.int .i64 0, .int .i64 0, .slice none 0 0] 49)).heap[w2.heap.size]? = some (.cells #[.int .i64 f.no, .int .i64 f.to, .slice fA f.data.length fc] 49 (0, 0)) := (Below.heap_alloc _ _ _ (by simp)).trans (heap_alloc_new w2 _)
  have hwa := heap_alloc_new (w2.alloc (.cells #[.int .i64 f.no, .int .i64 f.to, .slice fA f.data.length fc] 49)) (.cells #[.int .i64 0, .int .i64 0, .slice none 0 0] 49)
  simp only [World.size_alloc] at hwa
  have o3a : ((w2.alloc (.cells #[.int .i64 f.no, .int .i64 f.to, .slice fA f.data.length fc] 49)).alloc (.cells #[.int .i64 0, .int .i64 0, .slice none 0 0] 49)).cell? ⟨w.heap.size, 3, none⟩ = some (.int .i64 ((i : Int) + 1)) := (B2.cell (lt_of_heap hx2)).trans o3
  have hqn : q.block ≠ w2.heap.size + 1 := by
    have := (((hf.below B2).xlt hqS)).2
    have hxx := (hf.xlt hqS).2
    omega
  have F4 := hf.below B2
  obtain ⟨w4, hw4⟩ : ∃ W, (w2.alloc (.cells #[.int .i64 f.no, .int .i64 f.to, .slice fA f.data.length fc] 49)).alloc (.cells #[.int .i64 0, .int .i64 0, .slice none 0 0] 49) = W := ⟨_, rfl⟩
  rw [hw4] at hfa hwa o3a hcs hqb F4 B2
  have u0 : w4.cell? ⟨w2.heap.size, 0, none⟩ = some (.int .i64 f.no) := cell_at hfa 0
  have u1 : w4.cell? ⟨w2.heap.size, 1, none⟩ = some (.int .i64 f.to) := cell_at hfa 1
  have u2 : w4.cell? ⟨w2.heap.size, 2, none⟩ = some (.slice fA f.data.length fc) := cell_at hfa 2
  have v0 : w4.cell? ⟨w2.heap.size + 1, 0, none⟩ = some (.int .i64 0) := cell_at hwa 0
  have v1 : w4.cell? ⟨w2.heap.size + 1, 1, none⟩ = some (.int .i64 0) := cell_at hwa 1
  have v2 : w4.cell? ⟨w2.heap.size + 1, 2, none⟩ = some (.slice none 0 0) := cell_at hwa 2
  have y0 := frozen_at hwa 0
  have y1 := frozen_at hwa 1
  have y2 := frozen_at hwa 2
  have q0 := hcs.at0
  have q1 := hcs.off 0 rfl
  have q2 := hcs.off 1 rfl
  simp only [Nat.reduceAdd] at q1 q2
  obtain ⟨dA, dc, rfl⟩ : ∃ A c, d = .slice A f.data.length c := by obtain ⟨A, c, h, _⟩ := hqb; exact ⟨A, c, h⟩
  have K5 : Kp (fun i => i = w2.heap.size + 1) w4 (((w4.setCell ⟨w2.heap.size + 1, 0, none⟩ (.int .i64 f.no)).setCell ⟨w2.heap.size + 1, 1, none⟩ (.int .i64 f.to)).setCell ⟨w2.heap.size + 1, 2, none⟩ (.slice dA f.data.length dc)) :=
    (((Kp.refl (fun i => i = w2.heap.size + 1) w4).setCell (p := ⟨w2.heap.size + 1, 0, none⟩) (Or.inl rfl) _).setCell (p := ⟨w2.heap.size + 1, 1, none⟩) (Or.inl rfl) _).setCell (p := ⟨w2.heap.size + 1, 2, none⟩) (Or.inl rfl) _
  have hbr4 : RB w4 (fun k => k < w2.heap.size) (.slice fA f.data.length fc) f.data := by
    have := (hrb.bound.below (show Below w2.heap.size w2 w4 by rw [← hw4]; exact ((Below.refl _ _).alloc (Nat.le_refl _) _).alloc (by simp) _))
    exact this.mono (fun k hk _ => hk.2)
  have hs5 := sameFlight_calls f f (.slice fA f.data.length fc) (.slice dA f.data.length dc) _ _ _ (hbr4.kp K5 (fun k hk e => by omega)) (hqb.kp K5 (fun k hk e => by have := (hf.xlt hk).2; omega))
  simp only [decide_true] at hs5
  have hN := Lib.hid (And.intro hf (And.intro hk (And.intro F4 (And.intro B2 K5))))
  have HW4 := Lib.hid hw4
  clear hf hk F4 B2 K5 hbr4 hrb hqb hcs hrf hfa hwa hx2 o3 hw4
  go_upto_if 34 with (fail)
  rw [HW4.out]
  go_wp2_with fail
  refine hs5.mono ?_
  clear hs5
  rintro e w5 ⟨rfl, hb5⟩
  have HB5 := Lib.hid hb5
  clear hb5
  go_wp2_with (go_at_call 15; refine (hnum _ _).mono ?_; rintro e w' ⟨rfl, rfl⟩)
  go_ret
  have hf := hN.out.1
  have f5 := hN.out.2.2.1.far hN.out.2.2.2.2 (fun j hj => ⟨fun e => by have := (hf.hS j e).2.1; omega, fun e => by have := (hf.xlt e).2; omega⟩)
  have k2 := (HH.out.1.below HH.out.2.1).kpB hN.out.2.1
  have b2 : B ≤ w2.heap.size := hf.hB
  have k5 := Kp.belowB hN.out.2.2.2.2 (hN.out.2.2.1.hB) (fun j hj => by omega)
  exact ⟨rfl, ⟨_, f5.below HB5.out⟩, ((((HH.out.2.1.mono HH.out.1.hB).trans k2).trans (hN.out.2.2.2.1.mono b2)).trans k5).trans (HB5.out.mono f5.hB)⟩
end Go.Proofs.Ytpakocgbbggolaa
