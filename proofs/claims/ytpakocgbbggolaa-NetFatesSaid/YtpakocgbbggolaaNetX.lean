import Derived.Test.YtpakocgbbggolaaNetW
import Derived.Deep.RegionHeld3
set_option linter.unusedSimpArgs false
set_option linter.unusedVariables false
namespace Go.Proofs.Ytpakocgbbggolaa
open Go.RowKit Go.Proofs.Cul Go.ChangeMaps

set_option maxRecDepth 100000 in
theorem plays_flip (w : World) (U : Nat → Prop) (p : Nat) (s : St) (long : Bool) (h : PairP w U p s long) (hUb : ∀ k, U k → k < w.heap.size) (n : Int) (hg : Good s n) (hgn : n ≤ 4611686018427380000) (no at_ to_ x : Int) (sec : Bool)
    (A : Option Addr) (c m : Nat) :
    Calls Try.prog 10 #[.pointer (some ⟨p, 0, none⟩), opV 5 sec to_ no x at_ (.slice A m c)] w (PlayTo U w p (n + 1026)) := by
  have B1 : Below w.heap.size w (w.alloc (opB 5 sec to_ no x at_ (.slice A m c))) := (Below.refl _ _).alloc (Nat.le_refl _) _
  have hx := heap_alloc_new w (opB 5 sec to_ no x at_ (.slice A m c))
  obtain ⟨gx, gr, Sx, Sr, room, ys, R, hUx, hUr, hUp, hUo⟩ := (h.below B1).room
  obtain ⟨w1, hw1⟩ : ∃ W, w.alloc (opB 5 sec to_ no x at_ (.slice A m c)) = W := ⟨_, rfl⟩
  rw [hw1] at B1 hx R
  have hnum := num_calls
  have c0 : w1.cell? ⟨p, 0, none⟩ = some (.pointer (some ⟨gx, 0, none⟩)) := cell_at R.hp 0
  have o0 : w1.cell? ⟨w.heap.size, 0, none⟩ = some (.int .i64 5) := cell_at hx 0
  have o4 : w1.cell? ⟨w.heap.size, 4, none⟩ = some (.int .i64 x) := cell_at hx 4
  have o5 : w1.cell? ⟨w.heap.size, 5, none⟩ = some (.int .i64 at_) := cell_at hx 5
  have o3 : w1.cell? ⟨w.heap.size, 3, none⟩ = some (.int .i64 no) := cell_at hx 3
  have RD := R.drew
  have s2 := netFlip_calls w1.drew Sx gx s RD.hn (fun k hk => (RD.hx k hk).1) hg.len' no at_ x
  have HR := Lib.hid (And.intro RD (And.intro B1 hx))
  have HU := Lib.hid (And.intro hUx (And.intro hUr (And.intro hUp (And.intro hUo (And.intro hUb hg)))))
  clear R RD B1 hx h hUx hUr hUp hUo hUb hg
  go_enter Try.func10, Try.ntmps10
  go_wp2_with fail
  go_still_tail 10, (by kernel_rfl)
  change wpList _ _ _ _ _ w1.drew
  go_wp2_with fail
  refine s2.mono ?_
  clear s2
  rintro e w2 ⟨rfl, hn2, hk2⟩
  have hp2 : w2.heap[p]? = _ := (hk2.block p (lt_of_heap HR.out.1.hp) (fun e => (HR.out.1.hx p e).2 rfl)).trans HR.out.1.hp
  have hx2 : w2.heap[w.heap.size]? = _ := (hk2.block w.heap.size (lt_of_heap HR.out.2.2) (fun e => by have := HU.out.2.2.2.2.1 _ (HU.out.1 _ e); omega)).trans HR.out.2.2
  have c1 : w2.cell? ⟨p, 1, none⟩ = some (.pointer (some ⟨gr, 0, none⟩)) := cell_at hp2 1
  have o4' : w2.cell? ⟨w.heap.size, 4, none⟩ = some (.int .i64 x) := cell_at hx2 4
  have o5' : w2.cell? ⟨w.heap.size, 5, none⟩ = some (.int .i64 at_) := cell_at hx2 5
  have o3' : w2.cell? ⟨w.heap.size, 3, none⟩ = some (.int .i64 no) := cell_at hx2 3
  have r2 : RefP w2.drew Sr gr s := (HR.out.1.hr.kp hk2 (fun i hi => (HR.out.1.hy i hi).2.2)).below ((Below.refl _ _).drew)
  have s3 := refFlip_calls w2.drew Sr gr s r2 HU.out.2.2.2.2.2.len' no at_ x
  have HK2 := Lib.hid (And.intro hn2 hk2)
  clear hn2 hk2 hp2 hx2 r2
  go_wp2_with fail
  go_still_tail 10, (by kernel_rfl)
  change wpList _ _ _ _ _ w2.drew
  go_wp2_with fail
  refine s3.mono ?_
  clear s3
  rintro e w3 ⟨rfl, hr3, hk3⟩
  have HK3 := Lib.hid (And.intro hr3 hk3)
  clear hr3 hk3
  go_wp2_with (go_at_call 15; refine (hnum _ _).mono ?_; rintro e w' ⟨rfl, rfl⟩)
  go_ret
  have := pair_next (w := w) HR.out.1 (Kp.drew (Kp.of_below HR.out.2.1 U)) HU.out.1 HU.out.2.1 HU.out.2.2.1 HU.out.2.2.2.1 (HK2.out.1.ext _ _) HK2.out.2 ((Below.refl _ _).drew) HK3.out.1 HK3.out.2 (Below.refl _ _)
  exact ⟨_, _, (HU.out.2.2.2.2.2.flip no at_ x).more (by omega), rfl, this.1, this.2⟩
set_option maxRecDepth 100000 in
theorem plays_copy (w : World) (U : Nat → Prop) (p : Nat) (s : St) (h : PairP w U p s false) (hUb : ∀ k, U k → k < w.heap.size) (n : Int) (hg : Good s n) (hgn : n ≤ 4611686018427380000) (no at_ to_ x : Int) (sec : Bool)
    (A : Option Addr) (c m : Nat) :
    Calls Try.prog 10 #[.pointer (some ⟨p, 0, none⟩), opV 4 sec to_ no x at_ (.slice A m c)] w (PlayTo U w p (n + 1026)) := by
  have B1 : Below w.heap.size w (w.alloc (opB 4 sec to_ no x at_ (.slice A m c))) := (Below.refl _ _).alloc (Nat.le_refl _) _
  have hx := heap_alloc_new w (opB 4 sec to_ no x at_ (.slice A m c))
  obtain ⟨gx, gr, Sx, Sr, room, ys, R, hUx, hUr, hUp, hUo⟩ := (h.below B1).room
  obtain ⟨w1, hw1⟩ : ∃ W, w.alloc (opB 4 sec to_ no x at_ (.slice A m c)) = W := ⟨_, rfl⟩
  rw [hw1] at B1 hx R
  have hnum := num_calls
  have c0 : w1.cell? ⟨p, 0, none⟩ = some (.pointer (some ⟨gx, 0, none⟩)) := cell_at R.hp 0
  have o0 : w1.cell? ⟨w.heap.size, 0, none⟩ = some (.int .i64 4) := cell_at hx 0
  have c3 : w1.cell? ⟨p, 3, none⟩ = some (.bool false) := cell_at R.hp 3
  have o3 : w1.cell? ⟨w.heap.size, 3, none⟩ = some (.int .i64 no) := cell_at hx 3
  have RD := R.drew
  have s2 := netCopy_calls w1.drew Sx gx s RD.hn (fun k hk => (RD.hx k hk).1) hg.len' hg.ok ⟨hg.ok.given0, by have := hg.giv; omega⟩ no
  have HR := Lib.hid (And.intro RD (And.intro B1 hx))
  have HU := Lib.hid (And.intro hUx (And.intro hUr (And.intro hUp (And.intro hUo (And.intro hUb hg)))))
  clear R RD B1 hx h hUx hUr hUp hUo hUb hg
  go_enter Try.func10, Try.ntmps10
  have hkeep : ∀ w2, Kp Sx w1.drew w2 → w2.heap[p]? = some (.cells #[.pointer (some ⟨gx, 0, none⟩), .pointer (some ⟨gr, 0, none⟩), room, .bool false] 35 (0, 0)) ∧ w2.heap[w.heap.size]? = some (.cells #[.int .i64 4, .bool sec, .int .i64 to_, .int .i64 no, .int .i64 x, .int .i64 at_, .slice A m c] 28 (0, 0)) := fun w2 hk2 =>
    ⟨(hk2.block p (lt_of_heap HR.out.1.hp) (fun e => (HR.out.1.hx p e).2 rfl)).trans HR.out.1.hp, (hk2.block w.heap.size (lt_of_heap HR.out.2.2) (fun e => by have := HU.out.2.2.2.2.1 _ (HU.out.1 _ e); omega)).trans HR.out.2.2⟩
  have hkeep3 : ∀ w2 w3, Kp Sx w1.drew w2 → Kp Sr w2.drew w3 → w3.heap[p]? = some (.cells #[.pointer (some ⟨gx, 0, none⟩), .pointer (some ⟨gr, 0, none⟩), room, .bool false] 35 (0, 0)) ∧ w3.heap[w.heap.size]? = some (.cells #[.int .i64 4, .bool sec, .int .i64 to_, .int .i64 no, .int .i64 x, .int .i64 at_, .slice A m c] 28 (0, 0)) := fun w2 w3 hk2 hk3 =>
    ⟨(hk3.block p (lt_of_heap (hkeep w2 hk2).1) (fun e => (HR.out.1.hy p e).2.1 rfl)).trans (hkeep w2 hk2).1, (hk3.block w.heap.size (lt_of_heap (hkeep w2 hk2).2) (fun e => by have := HU.out.2.2.2.2.1 _ (HU.out.2.1 _ e); omega)).trans (hkeep w2 hk2).2⟩
  have HKE := Lib.hid hkeep
  have HKE3 := Lib.hid hkeep3
  clear hkeep hkeep3
  go_wp2_with fail
  go_region_held3 (fun W => W.cell? ⟨p, 0, none⟩ = some (.pointer (some ⟨gx, 0, none⟩)) ∧ W.cell? ⟨w.heap.size, 3, none⟩ = some (.int .i64 no))
    (first | exact ⟨c0, o3⟩ | exact ⟨c0', o3'⟩)
    (first | (go_simp; go_at_call 14; refine s2.mono ?_; rintro e w2 ⟨rfl, hn2, hk2⟩; have c0' : w2.cell? ⟨p, 0, none⟩ = some (.pointer (some ⟨gx, 0, none⟩)) := cell_at (HKE.out w2 hk2).1 0; have o3' : w2.cell? ⟨w.heap.size, 3, none⟩ = some (.int .i64 no) := cell_at (HKE.out w2 hk2).2 3))
  clear s2
  have c1 : w2.cell? ⟨p, 1, none⟩ = some (.pointer (some ⟨gr, 0, none⟩)) := cell_at (HKE.out w2 hk2).1 1
  have r2 : RefP w2.drew Sr gr s := (HR.out.1.hr.kp hk2 (fun i hi => (HR.out.1.hy i hi).2.2)).below ((Below.refl _ _).drew)
  have s3 := refCopy_calls w2.drew Sr gr s r2 (fun k hk => Nat.lt_of_lt_of_le (HR.out.1.hy k hk).1 hk2.size) HU.out.2.2.2.2.2.len' ⟨HU.out.2.2.2.2.2.ok.given0, by have := HU.out.2.2.2.2.2.giv; omega⟩ no
  have HK2 := Lib.hid (And.intro hn2 hk2)
  clear hn2 hk2 r2
  go_wp2_with fail
  go_region_held3 (fun W => W.cell? ⟨p, 1, none⟩ = some (.pointer (some ⟨gr, 0, none⟩)) ∧ W.cell? ⟨w.heap.size, 3, none⟩ = some (.int .i64 no))
    (first | exact ⟨c1, o3'⟩ | exact ⟨c1', o3''⟩)
    (first | (go_simp; go_at_call 30; refine s3.mono ?_; rintro e w3 ⟨rfl, hr3, hk3⟩; have c1' : w3.cell? ⟨p, 1, none⟩ = some (.pointer (some ⟨gr, 0, none⟩)) := cell_at (HKE3.out w2 w3 HK2.out.2 hk3).1 1; have o3'' : w3.cell? ⟨w.heap.size, 3, none⟩ = some (.int .i64 no) := cell_at (HKE3.out w2 w3 HK2.out.2 hk3).2 3))
  clear s3
  have HK3 := Lib.hid (And.intro hr3 hk3)
  clear hr3 hk3
  go_wp2_with (go_at_call 15; refine (hnum _ _).mono ?_; rintro e w' ⟨rfl, rfl⟩)
  go_ret
  have := pair_next (w := w) HR.out.1 (Kp.drew (Kp.of_below HR.out.2.1 U)) HU.out.1 HU.out.2.1 HU.out.2.2.1 HU.out.2.2.2.1 HK2.out.1 HK2.out.2 ((Below.refl _ _).drew) HK3.out.1 HK3.out.2 (Below.refl _ _)
  exact ⟨_, _, (HU.out.2.2.2.2.2.copy no).more (by omega), rfl, this.1, this.2⟩
end Go.Proofs.Ytpakocgbbggolaa
