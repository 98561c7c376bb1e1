import Derived.Test.YtpakocgbbggolaaNetX
set_option linter.unusedSimpArgs false
set_option linter.unusedVariables false
namespace Go.Proofs.Ytpakocgbbggolaa
open Go.RowKit Go.Proofs.Cul Go.ChangeMaps

theorem op_cells {w w1 : World} {kind no at_ to_ x : Int} {sec : Bool} {v : Value} (hx : w1.heap[w.heap.size]? = some (.cells #[.int .i64 kind, .bool sec, .int .i64 to_, .int .i64 no, .int .i64 x, .int .i64 at_, v] 28 (0, 0))) :
    Cells w1 ⟨w.heap.size, 0, none⟩ [.int .i64 kind, .bool sec, .int .i64 to_, .int .i64 no, .int .i64 x, .int .i64 at_, v] := by
  intro j u hu
  rw [show (⟨w.heap.size, 0, none⟩ : Addr).add j = ⟨w.heap.size, j, none⟩ by unfold Addr.add; split <;> simp_all, cell_at hx]
  simpa using hu

set_option maxRecDepth 100000 in
theorem plays_copyLong (w : World) (U : Nat → Prop) (p : Nat) (s : St) (h : PairP w U p s true) (n : Int) (hg : Good s n) (no at_ to_ x : Int) (sec : Bool) (A : Option Addr) (c m : Nat) :
    Calls Try.prog 10 #[.pointer (some ⟨p, 0, none⟩), opV 4 sec to_ no x at_ (.slice A m c)] w (PlayTo U w p (n + 1026)) := by
  have B1 : Below w.heap.size w (w.alloc (opB 4 sec to_ no x at_ (.slice A m c))) := (Below.refl _ _).alloc (Nat.le_refl _) _
  have hx := heap_alloc_new w (opB 4 sec to_ no x at_ (.slice A m c))
  have h1 := h.below B1
  obtain ⟨gx, gr, Sx, Sr, room, ys, R, hUx, hUr, hUp, hUo⟩ := h1.room
  obtain ⟨w1, hw1⟩ : ∃ W, w.alloc (opB 4 sec to_ no x at_ (.slice A m c)) = W := ⟨_, rfl⟩
  rw [hw1] at B1 hx R h1
  have c3 : w1.cell? ⟨p, 3, none⟩ = some (.bool true) := cell_at R.hp 3
  have o0 : w1.cell? ⟨w.heap.size, 0, none⟩ = some (.int .i64 4) := cell_at hx 0
  have H := Lib.hid (And.intro h1 (And.intro B1 hg))
  clear R B1 hx h hUx hUr hUp hUo hg h1
  go_enter Try.func10, Try.ntmps10
  go_wp2
  go_ret
  exact ⟨s, true, H.out.2.2.more (by omega), rfl, H.out.1.ext, Kp.of_below H.out.2.1 U⟩

set_option maxRecDepth 100000 in
theorem plays_other (w : World) (U : Nat → Prop) (p : Nat) (s : St) (long : Bool) (h : PairP w U p s long) (n : Int) (hg : Good s n) (kind no at_ to_ x : Int) (sec : Bool) (A : Option Addr) (c m : Nat)
    (hk : kind < 1 ∨ 7 < kind) :
    Calls Try.prog 10 #[.pointer (some ⟨p, 0, none⟩), opV kind sec to_ no x at_ (.slice A m c)] w (PlayTo U w p (n + 1026)) := by
  have B1 : Below w.heap.size w (w.alloc (opB kind sec to_ no x at_ (.slice A m c))) := (Below.refl _ _).alloc (Nat.le_refl _) _
  have H := Lib.hid (And.intro (h.below B1) (And.intro B1 hg))
  have e1 : (kind == 1) = false := by simp; omega
  have e2 : (kind == 2) = false := by simp; omega
  have e3 : (kind == 3) = false := by simp; omega
  have e4 : (kind == 4) = false := by simp; omega
  have e5 : (kind == 5) = false := by simp; omega
  have e6 : (kind == 6) = false := by simp; omega
  have e7 : (kind == 7) = false := by simp; omega
  clear B1 h hg hk
  go_enter Try.func10, Try.ntmps10
  go_wp2
  go_ret
  exact ⟨s, long, H.out.2.2.more (by omega), rfl, H.out.1.ext, Kp.of_below H.out.2.1 U⟩

set_option maxRecDepth 100000 in
theorem plays_under (w : World) (U : Nat → Prop) (p : Nat) (s : St) (long : Bool) (h : PairP w U p s long) (n : Int) (hg : Good s n) (hgn : n ≤ 4611686018427380000) (no at_ to_ x : Int) (sec : Bool) (A : Option Addr) (c m : Nat) :
    Calls Try.prog 10 #[.pointer (some ⟨p, 0, none⟩), opV 6 sec to_ no x at_ (.slice A m c)] w (PlayTo U w p (n + 1026)) := by
  have B1 : Below w.heap.size w (w.alloc (opB 6 sec to_ no x at_ (.slice A m c))) := (Below.refl _ _).alloc (Nat.le_refl _) _
  have h1 := h.below B1
  have hc := pairUnder_calls _ U p s long h1 hg.len' hg.ok (by have := hg.giv; omega)
  have H := Lib.hid (And.intro h1 (And.intro B1 hg))
  clear B1 h hg h1
  go_enter Try.func10, Try.ntmps10
  go_wp2_with fail
  refine hc.mono ?_
  clear hc
  rintro e w2 ⟨rfl, hb2⟩
  have HB := Lib.hid hb2
  clear hb2
  go_wp2_with fail
  go_ret
  exact ⟨s, long, H.out.2.2.more (by omega), rfl, (H.out.1.below HB.out).ext, (Kp.of_below H.out.2.1 U).andBelow HB.out⟩

set_option maxRecDepth 100000 in
theorem plays_many (w : World) (U Sb : Nat → Prop) (p : Nat) (s : St) (long : Bool) (h : PairP w U p s long) (hUb : ∀ k, U k → k < w.heap.size) (n : Int) (hg : Good s n) (hgn : n ≤ 4611686018427380000) (no at_ to_ x : Int) (sec : Bool) (A : Option Addr) (c : Nat)
    (xs : List Int) (hb : RB w Sb (.slice A xs.length c) xs) (hdis : ∀ k, Sb k → ¬ U k ∧ k < w.heap.size) :
    Calls Try.prog 10 #[.pointer (some ⟨p, 0, none⟩), opV 7 sec to_ no x at_ (.slice A xs.length c)] w (PlayTo U w p (n + 1026)) := by
  have B1 : Below w.heap.size w (w.alloc (opB 7 sec to_ no x at_ (.slice A xs.length c))) := (Below.refl _ _).alloc (Nat.le_refl _) _
  have hx := heap_alloc_new w (opB 7 sec to_ no x at_ (.slice A xs.length c))
  have hc := many_calls _ U Sb p s long (h.below B1) (fun k hk => Nat.lt_of_lt_of_le (hUb k hk) B1.size) n hg hgn 7 no at_ to_ x sec A c xs (hb.below B1) (fun k hk => ⟨(hdis k hk).1, Nat.lt_of_lt_of_le (hdis k hk).2 B1.size⟩)
  obtain ⟨w1, hw1⟩ : ∃ W, w.alloc (opB 7 sec to_ no x at_ (.slice A xs.length c)) = W := ⟨_, rfl⟩
  rw [hw1] at B1 hx hc
  have o0 : w1.cell? ⟨w.heap.size, 0, none⟩ = some (.int .i64 7) := cell_at hx 0
  have o1 : w1.cell? ⟨w.heap.size, 1, none⟩ = some (.bool sec) := cell_at hx 1
  have o2 : w1.cell? ⟨w.heap.size, 2, none⟩ = some (.int .i64 to_) := cell_at hx 2
  have o3 : w1.cell? ⟨w.heap.size, 3, none⟩ = some (.int .i64 no) := cell_at hx 3
  have o4 : w1.cell? ⟨w.heap.size, 4, none⟩ = some (.int .i64 x) := cell_at hx 4
  have o5 : w1.cell? ⟨w.heap.size, 5, none⟩ = some (.int .i64 at_) := cell_at hx 5
  have o6 : w1.cell? ⟨w.heap.size, 6, none⟩ = some (.slice A xs.length c) := cell_at hx 6
  have H := Lib.hid (And.intro B1 hg)
  clear B1 h hg hx hb hdis hUb
  go_enter Try.func10, Try.ntmps10
  go_wp2_with fail
  refine hc.mono ?_
  clear hc
  rintro e w2 ⟨lg, rfl, hp2, hk2⟩
  have HB := Lib.hid (And.intro hp2 hk2)
  clear hp2 hk2
  go_wp2_with fail
  go_ret
  exact ⟨_, lg, H.out.2.many_ to_ x xs, rfl, HB.out.1.up H.out.1, (Kp.of_below H.out.1 U).then_ HB.out.2⟩

set_option maxRecDepth 100000 in
theorem plays_send (w : World) (U Sb : Nat → Prop) (p : Nat) (s : St) (long : Bool) (h : PairP w U p s long) (n : Int) (hg : Good s n) (hgn : n ≤ 4611686018427380000) (no at_ to_ x : Int) (sec : Bool) (A : Option Addr) (c : Nat)
    (xs : List Int) (hb : RB w Sb (.slice A xs.length c) xs) (hdis : ∀ k, Sb k → ¬ U k ∧ k < w.heap.size) :
    Calls Try.prog 10 #[.pointer (some ⟨p, 0, none⟩), opV 1 sec to_ no x at_ (.slice A xs.length c)] w (PlayTo U w p (n + 1026)) := by
  have B1 : Below w.heap.size w (w.alloc (opB 1 sec to_ no x at_ (.slice A xs.length c))) := (Below.refl _ _).alloc (Nat.le_refl _) _
  have hx := heap_alloc_new w (opB 1 sec to_ no x at_ (.slice A xs.length c))
  have h1 := h.below B1
  have hb1 := hb.below B1
  have hc : Calls Try.prog 27 #[.pointer (some ⟨p, 0, none⟩), .int .i64 to_, .slice A xs.length c] (w.alloc (opB 1 sec to_ no x at_ (.slice A xs.length c))) (PlayTo U (w.alloc (opB 1 sec to_ no x at_ (.slice A xs.length c))) p (n + 1026)) := by
    by_cases hl : xs.length ≤ 65536
    · refine (sends_calls _ U Sb p s long h1 hg.ok (by have := hg.giv; omega) to_ _ xs hb1 (fun k hk => ⟨(hdis k hk).1, Nat.lt_of_lt_of_le (hdis k hk).2 B1.size⟩) hl).mono ?_
      rintro e w' ⟨rfl, hp, hk⟩
      exact ⟨_, _, (hg.send to_ xs hl).more (by omega), rfl, hp, hk⟩
    · refine (sends_long _ p to_ _ xs Sb hb1 (by omega)).mono ?_
      rintro e w' ⟨rfl, rfl⟩
      exact ⟨s, long, hg.more (by omega), rfl, h1.ext, Kp.refl _ _⟩
  obtain ⟨w1, hw1⟩ : ∃ W, w.alloc (opB 1 sec to_ no x at_ (.slice A xs.length c)) = W := ⟨_, rfl⟩
  rw [hw1] at B1 hx hc
  have o0 : w1.cell? ⟨w.heap.size, 0, none⟩ = some (.int .i64 1) := cell_at hx 0
  have o2 : w1.cell? ⟨w.heap.size, 2, none⟩ = some (.int .i64 to_) := cell_at hx 2
  have o6 : w1.cell? ⟨w.heap.size, 6, none⟩ = some (.slice A xs.length c) := cell_at hx 6
  have H := Lib.hid B1
  clear B1 h hg hx hb hdis h1 hb1
  go_enter Try.func10, Try.ntmps10
  go_wp2_with fail
  refine hc.mono ?_
  clear hc
  rintro e w2 ⟨s', lg, hg', rfl, hp2, hk2⟩
  have HB := Lib.hid (And.intro hp2 (And.intro hk2 hg'))
  clear hp2 hk2 hg'
  go_wp2_with fail
  go_ret
  exact ⟨_, lg, HB.out.2.2, rfl, HB.out.1.up H.out, (Kp.of_below H.out U).then_ HB.out.2.1⟩
end Go.Proofs.Ytpakocgbbggolaa
