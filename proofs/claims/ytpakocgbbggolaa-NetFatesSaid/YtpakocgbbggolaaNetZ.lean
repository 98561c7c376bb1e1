import Derived.Test.YtpakocgbbggolaaNetY
import Derived.Deep.DeepCutAuto
set_option linter.unusedSimpArgs false
set_option linter.unusedVariables false
namespace Go.Proofs.Ytpakocgbbggolaa
open Go.RowKit Go.Proofs.Cul Go.ChangeMaps

theorem lt_of_cell {w : World} {a : Addr} {v : Value} (h : w.cell? a = some v) : a.block < w.heap.size := World.block_lt_of_cell? w a h

set_option maxHeartbeats 1000000 in
set_option maxRecDepth 100000 in
theorem plays_take (w : World) (U : Nat → Prop) (p : Nat) (s : St) (long : Bool) (h : PairP w U p s long) (hUb : ∀ k, U k → k < w.heap.size) (n : Int) (hg : Good s n) (hgn : n ≤ 4611686018427380000) (no at_ to_ x : Int) (sec : Bool)
    (A : Option Addr) (c m : Nat) :
    Calls Try.prog 10 #[.pointer (some ⟨p, 0, none⟩), opV 2 sec to_ no x at_ (.slice A m c)] w (PlayTo U w p (n + 1026)) := by
  have B1 : Below w.heap.size w (w.alloc (opB 2 sec to_ no x at_ (.slice A m c))) := (Below.refl _ _).alloc (Nat.le_refl _) _
  have hx := heap_alloc_new w (opB 2 sec to_ no x at_ (.slice A m c))
  obtain ⟨gx, gr, Sx, Sr, room, ys, R, hUx, hUr, hUp, hUo⟩ := (h.below B1).room
  obtain ⟨w1, hw1⟩ : ∃ W, w.alloc (opB 2 sec to_ no x at_ (.slice A m c)) = W := ⟨_, rfl⟩
  rw [hw1] at B1 hx R
  have hnum := num_calls
  have c0 : w1.cell? ⟨p, 0, none⟩ = some (.pointer (some ⟨gx, 0, none⟩)) := cell_at R.hp 0
  have o0 : w1.cell? ⟨w.heap.size, 0, none⟩ = some (.int .i64 2) := cell_at hx 0
  have o3 : w1.cell? ⟨w.heap.size, 3, none⟩ = some (.int .i64 no) := cell_at hx 3
  have hT : ∀ W, Below w1.heap.size w1 W → Calls Try.prog 23 #[.pointer (some ⟨gx, 0, none⟩), .int .i64 no] W fun e w2 => ∃ dA dc, e = .returned (.tuple #[.agg #[.int .i64 (takeR s no).1.no, .int .i64 (takeR s no).1.to, .slice dA (takeR s no).1.data.length dc], .int .i64 (takeR s no).2]) ∧
      RB w2 Sx (.slice dA (takeR s no).1.data.length dc) (takeR s no).1.data ∧ NetP w2 Sx gx (s.take no) ∧ Kp Sx W w2 := fun W hW => by
    refine (netTake_calls W Sx gx s (R.hn.below hW) (fun k hk => Nat.lt_of_lt_of_le (R.hx k hk).1 hW.size) no).mono ?_
    rintro e w2 ⟨d, rfl, ⟨h1, h2, h3⟩, h4, h5⟩
    obtain ⟨dA, dc, rfl⟩ := own_slice h1
    exact ⟨dA, dc, rfl, RB.of_own h1 h2 h3, h4.mono (fun k hk _ => hk.1), h5⟩
  have HT := Lib.hid hT
  have HR := Lib.hid (And.intro R (And.intro B1 hx))
  have HU := Lib.hid (And.intro hUx (And.intro hUr (And.intro hUp (And.intro hUo (And.intro hUb hg)))))
  clear R B1 hx h hUx hUr hUp hUo hUb hg hT
  go_enter Try.func10, Try.ntmps10
  go_upto_region 5 with (fail)
  go_cut [5, 6] (fun a b wx => ∃ dA dc b0, a = .pointer (some ⟨b0, 0, none⟩) ∧ b = .int .i64 (takeR s no).2 ∧ wx.heap[b0]? = some (.cells #[.int .i64 (takeR s no).1.no, .int .i64 (takeR s no).1.to, .slice dA (takeR s no).1.data.length dc] 49 (0, 0)) ∧
    RB wx Sx (.slice dA (takeR s no).1.data.length dc) (takeR s no).1.data ∧ NetP wx Sx gx (s.take no) ∧ Kp Sx w1 wx ∧ w1.heap.size ≤ b0)
  case first =>
    have hk1 : ∀ W w2, Below w1.heap.size w1 W → Kp Sx W w2 → w2.cell? ⟨p, 0, none⟩ = some (.pointer (some ⟨gx, 0, none⟩)) ∧ w2.cell? ⟨w.heap.size, 3, none⟩ = some (.int .i64 no) := fun W w2 hb hk => by
      have K : Kp Sx w1 w2 := (Kp.of_below hb Sx).then_ hk
      have e1 := (K.block p (lt_of_heap HR.out.1.hp) (fun e => (HR.out.1.hx p e).2 rfl)).trans HR.out.1.hp
      have e2 := (K.block w.heap.size (lt_of_heap HR.out.2.2) (fun e => by have := HU.out.2.2.2.2.1 _ (HU.out.1 _ e); omega)).trans HR.out.2.2
      exact ⟨cell_at e1 0, cell_at e2 3⟩
    have bA : Below w1.heap.size w1 (w1.alloc (.cells #[.int .i64 0, .int .i64 0, .slice none 0 0] 49)) := (Below.refl _ _).alloc (Nat.le_refl _) _
    have hA := heap_alloc_new w1 (.cells #[.int .i64 0, .int .i64 0, .slice none 0 0] 49)
    have hzA : ∀ w2, Kp Sx (w1.alloc (.cells #[.int .i64 0, .int .i64 0, .slice none 0 0] 49)).drew w2 → w2.heap[w1.heap.size]? = some (.cells #[.int .i64 0, .int .i64 0, .slice none 0 0] 49 (0, 0)) := fun w2 hk =>
      (hk.block w1.heap.size (by simp) (fun e => by have := (HR.out.1.hx _ e).1; omega)).trans hA
    have hk2 : ∀ w2 w3, (w2.cell? ⟨p, 0, none⟩ = some (.pointer (some ⟨gx, 0, none⟩)) ∧ w2.cell? ⟨w.heap.size, 3, none⟩ = some (.int .i64 no)) → Kp (fun i => i = w1.heap.size) w2 w3 → w3.cell? ⟨p, 0, none⟩ = some (.pointer (some ⟨gx, 0, none⟩)) ∧ w3.cell? ⟨w.heap.size, 3, none⟩ = some (.int .i64 no) := fun w2 w3 hs hk => by
      have h1 := lt_of_heap HR.out.1.hp
      have h2 := lt_of_heap HR.out.2.2
      exact ⟨(cell_same (hk.block p (lt_of_cell hs.1) (by omega))).trans hs.1, (cell_same (hk.block w.heap.size (lt_of_cell hs.2) (by omega))).trans hs.2⟩
    have HZA := Lib.hid hzA
    have HK1 := Lib.hid hk1
    have HK2 := Lib.hid hk2
    have HBA := Lib.hid bA
    clear hk1 bA hA hzA hk2
    go_region_held3 (fun W => W.cell? ⟨p, 0, none⟩ = some (.pointer (some ⟨gx, 0, none⟩)) ∧ W.cell? ⟨w.heap.size, 3, none⟩ = some (.int .i64 no))
      (first | exact ⟨c0, o3⟩ | exact HK1.out _ _ HBA.out (Kp.refl _ _) | exact HK1.out _ _ HBA.out.drew (Kp.refl _ _) | exact k1 | exact HK2.out _ _ k1 ((Kp.refl _ _).alloc _) | exact HK2.out _ _ k1 ((((Kp.refl (fun i => i = w1.heap.size) _).setCell (p := ⟨w1.heap.size, 0, none⟩) (Or.inl rfl) _).setCell (p := ⟨w1.heap.size, 1, none⟩) (Or.inl rfl) _).setCell (p := ⟨w1.heap.size, 2, none⟩) (Or.inl rfl) _))
      (first | (go_simp; go_at_call 23; refine (HT.out w1.drew (Below.refl _ _).drew).mono ?_; rintro e w2 ⟨dA, dc, rfl, hrb, hn2, hk2⟩; have k1 := HK1.out _ _ (Below.refl _ _).drew hk2) | (go_simp; go_at_call 23; refine (HT.out (w1.alloc (.cells #[.int .i64 0, .int .i64 0, .slice none 0 0] 49)).drew HBA.out.drew).mono ?_; rintro e w2 ⟨dA, dc, rfl, hrb, hn2, hk2⟩; have k1 := HK1.out _ _ HBA.out.drew hk2; have z := HZA.out w2 hk2; have z0 := cell_at z 0; have z1 := cell_at z 1; have z2 := cell_at z 2; have y0 := frozen_at z 0; have y1 := frozen_at z 1; have y2 := frozen_at z 2; simp at z0 z1 z2))
    · go_wp2
      go_meet
      case rel =>
        have b2 : Below w2.heap.size w2 (w2.alloc (.cells #[.int .i64 (takeR s no).1.no, .int .i64 (takeR s no).1.to, .slice dA (takeR s no).1.data.length dc] 49)) := (Below.refl _ _).alloc (Nat.le_refl _) _
        exact ⟨dA, dc, w2.heap.size, rfl, rfl, heap_alloc_new w2 _, hrb.below b2, hn2.below b2, (((Kp.refl Sx w1).drew).then_ hk2).andBelow b2, hk2.size⟩
    · go_wp2
      go_meet
      case rel =>
        have z' := heap_setCell_at (heap_setCell_at (heap_setCell_at z 0 (.int .i64 (takeR s no).1.no)) 1 (.int .i64 (takeR s no).1.to)) 2 (.slice dA (takeR s no).1.data.length dc)
        have K2 : Kp (fun i => i = w1.heap.size) w2 (((w2.setCell ⟨w1.heap.size, 0, none⟩ (.int .i64 (takeR s no).1.no)).setCell ⟨w1.heap.size, 1, none⟩ (.int .i64 (takeR s no).1.to)).setCell ⟨w1.heap.size, 2, none⟩ (.slice dA (takeR s no).1.data.length dc)) :=
          (((Kp.refl (fun i => i = w1.heap.size) w2).setCell (p := ⟨w1.heap.size, 0, none⟩) (Or.inl rfl) _).setCell (p := ⟨w1.heap.size, 1, none⟩) (Or.inl rfl) _).setCell (p := ⟨w1.heap.size, 2, none⟩) (Or.inl rfl) _
        have ne : ∀ i, Sx i → ¬ i = w1.heap.size := fun i hi e => by have h1 := (HR.out.1.hx i hi).1; have h2 : w1.drew.heap.size = w1.heap.size := rfl; omega
        exact ⟨dA, dc, w1.heap.size, rfl, rfl, z', hrb.kp K2 ne, hn2.kp K2 ne, ((Kp.of_below HBA.out.drew Sx).then_ hk2).trans K2 (fun i hi => Or.inr (by rw [hi]; exact Nat.le_refl _)), Nat.le_refl _⟩
  case rest =>
    obtain ⟨dA, dc, b0, rfl, rfl, hb0, hrb, hn2, hk2, hlb⟩ := hcut
    obtain ⟨wm, hwm⟩ : ∃ wm : World, wm = wc := ⟨_, rfl⟩
    subst hwm
    have b0s : b0 < wm.heap.size := lt_of_heap hb0
    have hp2 : wm.heap[p]? = _ := (hk2.block p (lt_of_heap HR.out.1.hp) (fun e => (HR.out.1.hx p e).2 rfl)).trans HR.out.1.hp
    have hx2 : wm.heap[w.heap.size]? = _ := (hk2.block w.heap.size (lt_of_heap HR.out.2.2) (fun e => by have := HU.out.2.2.2.2.1 _ (HU.out.1 _ e); omega)).trans HR.out.2.2
    have c1 : wm.cell? ⟨p, 1, none⟩ = some (.pointer (some ⟨gr, 0, none⟩)) := cell_at hp2 1
    have o3' : wm.cell? ⟨w.heap.size, 3, none⟩ = some (.int .i64 no) := cell_at hx2 3
    have r2 : RefP wm Sr gr s := HR.out.1.hr.kp hk2 (fun i hi => (HR.out.1.hy i hi).2.2)
    have hyc : ∀ k, Sr k → k < wm.heap.size := fun k hk => Nat.lt_of_lt_of_le (HR.out.1.hy k hk).1 hk2.size
    have hT2 : ∀ W, Below wm.heap.size wm W → Calls Try.prog 28 #[.pointer (some ⟨gr, 0, none⟩), .int .i64 no] W fun e w3 => ∃ dA dc, e = .returned (.tuple #[.agg #[.int .i64 (takeR s no).1.no, .int .i64 (takeR s no).1.to, .slice dA (takeR s no).1.data.length dc], .int .i64 (takeR s no).2]) ∧
        RB w3 (Ext Sr W w3) (.slice dA (takeR s no).1.data.length dc) (takeR s no).1.data ∧ RefP w3 (Ext Sr W w3) gr (s.take no) ∧ Kp Sr W w3 := fun W hW => by
      refine (refTake_calls W Sr gr s (r2.below hW) (fun k hk => Nat.lt_of_lt_of_le (hyc k hk) hW.size) HU.out.2.2.2.2.2.room' no).mono ?_
      rintro e w3 ⟨d, rfl, h1, h4, h5⟩
      obtain ⟨dA, dc, rfl⟩ : ∃ A c, d = .slice A (takeR s no).1.data.length c := by obtain ⟨A, c, h, _⟩ := h1; exact ⟨A, c, h⟩
      exact ⟨dA, dc, rfl, h1, h4, h5⟩
    have HT2 := Lib.hid hT2
    have HC := Lib.hid (And.intro hp2 (And.intro hx2 (And.intro hyc (And.intro hb0 (And.intro hrb (And.intro hn2 hk2))))))
    clear hp2 hx2 hyc hb0 hrb hn2 hk2 hT2 r2 HT
    go_upto_region 6 with (fail)
    go_cut [7, 8] (fun a b wx => ∃ dA dc b1, a = .pointer (some ⟨b1, 0, none⟩) ∧ b = .int .i64 (takeR s no).2 ∧ wx.heap[b1]? = some (.cells #[.int .i64 (takeR s no).1.no, .int .i64 (takeR s no).1.to, .slice dA (takeR s no).1.data.length dc] 49 (0, 0)) ∧
      RB wx (fun _ => True) (.slice dA (takeR s no).1.data.length dc) (takeR s no).1.data ∧ RefP wx (Ext Sr wm wx) gr (s.take no) ∧ Kp Sr wm wx)
    case first =>
      have hk1 : ∀ W w2, Below wm.heap.size wm W → Kp Sr W w2 → w2.cell? ⟨p, 1, none⟩ = some (.pointer (some ⟨gr, 0, none⟩)) ∧ w2.cell? ⟨w.heap.size, 3, none⟩ = some (.int .i64 no) := fun W w2 hb hk => by
        have K : Kp Sr wm w2 := (Kp.of_below hb Sr).then_ hk
        have e1 := (K.block p (lt_of_heap HC.out.1) (fun e => (HR.out.1.hy p e).2.1 rfl)).trans HC.out.1
        have e2 := (K.block w.heap.size (lt_of_heap HC.out.2.1) (fun e => by have := HU.out.2.2.2.2.1 _ (HU.out.2.1 _ e); omega)).trans HC.out.2.1
        exact ⟨cell_at e1 1, cell_at e2 3⟩
      have bA : Below wm.heap.size wm (wm.alloc (.cells #[.int .i64 0, .int .i64 0, .slice none 0 0] 49)) := (Below.refl _ _).alloc (Nat.le_refl _) _
      have hA := heap_alloc_new wm (.cells #[.int .i64 0, .int .i64 0, .slice none 0 0] 49)
      have hzA : ∀ w2, Kp Sr (wm.alloc (.cells #[.int .i64 0, .int .i64 0, .slice none 0 0] 49)).drew w2 → w2.heap[wm.heap.size]? = some (.cells #[.int .i64 0, .int .i64 0, .slice none 0 0] 49 (0, 0)) := fun w2 hk =>
        (hk.block wm.heap.size (by simp) (fun e => by have := HC.out.2.2.1 _ e; omega)).trans hA
      have hk2 : ∀ w2 w3, (w2.cell? ⟨p, 1, none⟩ = some (.pointer (some ⟨gr, 0, none⟩)) ∧ w2.cell? ⟨w.heap.size, 3, none⟩ = some (.int .i64 no)) → Kp (fun i => i = wm.heap.size) w2 w3 → w3.cell? ⟨p, 1, none⟩ = some (.pointer (some ⟨gr, 0, none⟩)) ∧ w3.cell? ⟨w.heap.size, 3, none⟩ = some (.int .i64 no) := fun w2 w3 hs hk => by
        have h1 := lt_of_heap HC.out.1
        have h2 := lt_of_heap HC.out.2.1
        exact ⟨(cell_same (hk.block p (lt_of_cell hs.1) (by omega))).trans hs.1, (cell_same (hk.block w.heap.size (lt_of_cell hs.2) (by omega))).trans hs.2⟩
      have HZA := Lib.hid hzA
      have HK1 := Lib.hid hk1
      have HK2 := Lib.hid hk2
      have HBA := Lib.hid bA
      clear hk1 bA hA hzA hk2
      go_region_held3 (fun W => W.cell? ⟨p, 1, none⟩ = some (.pointer (some ⟨gr, 0, none⟩)) ∧ W.cell? ⟨w.heap.size, 3, none⟩ = some (.int .i64 no))
        (first | exact ⟨c1, o3'⟩ | exact HK1.out _ _ HBA.out (Kp.refl _ _) | exact HK1.out _ _ HBA.out.drew (Kp.refl _ _) | exact k1 | exact HK2.out _ _ k1 ((Kp.refl _ _).alloc _) | exact HK2.out _ _ k1 ((((Kp.refl (fun i => i = wm.heap.size) _).setCell (p := ⟨wm.heap.size, 0, none⟩) (Or.inl rfl) _).setCell (p := ⟨wm.heap.size, 1, none⟩) (Or.inl rfl) _).setCell (p := ⟨wm.heap.size, 2, none⟩) (Or.inl rfl) _))
        (first | (go_simp; go_at_call 28; refine (HT2.out wm.drew (Below.refl _ _).drew).mono ?_; rintro e w2 ⟨dA2, dc2, rfl, hrb, hr2, hk2⟩; have k1 := HK1.out _ _ (Below.refl _ _).drew hk2) | (go_simp; go_at_call 28; refine (HT2.out (wm.alloc (.cells #[.int .i64 0, .int .i64 0, .slice none 0 0] 49)).drew HBA.out.drew).mono ?_; rintro e w2 ⟨dA2, dc2, rfl, hrb, hr2, hk2⟩; have k1 := HK1.out _ _ HBA.out.drew hk2; have z := HZA.out w2 hk2; have z0 := cell_at z 0; have z1 := cell_at z 1; have z2 := cell_at z 2; have y0 := frozen_at z 0; have y1 := frozen_at z 1; have y2 := frozen_at z 2; simp at z0 z1 z2))
      · go_wp2
        go_meet
        case rel =>
          have b2 : Below w2.heap.size w2 (w2.alloc (.cells #[.int .i64 (takeR s no).1.no, .int .i64 (takeR s no).1.to, .slice dA2 (takeR s no).1.data.length dc2] 49)) := (Below.refl _ _).alloc (Nat.le_refl _) _
          have hws : wm.drew.heap.size = wm.heap.size := rfl
          exact ⟨dA2, dc2, w2.heap.size, rfl, rfl, heap_alloc_new w2 _, (hrb.below b2).mono (fun _ _ _ => trivial), (hr2.below b2).mono (fun k hk _ => by
            rcases hk with hk | hk
            · exact Or.inl hk
            · exact Or.inr ⟨by omega, by simp; omega⟩), (((Kp.refl Sr wm).drew).then_ hk2).andBelow b2⟩
      · go_wp2
        go_meet
        case rel =>
          have z' := heap_setCell_at (heap_setCell_at (heap_setCell_at z 0 (.int .i64 (takeR s no).1.no)) 1 (.int .i64 (takeR s no).1.to)) 2 (.slice dA2 (takeR s no).1.data.length dc2)
          have K2 : Kp (fun i => i = wm.heap.size) w2 (((w2.setCell ⟨wm.heap.size, 0, none⟩ (.int .i64 (takeR s no).1.no)).setCell ⟨wm.heap.size, 1, none⟩ (.int .i64 (takeR s no).1.to)).setCell ⟨wm.heap.size, 2, none⟩ (.slice dA2 (takeR s no).1.data.length dc2)) :=
            (((Kp.refl (fun i => i = wm.heap.size) w2).setCell (p := ⟨wm.heap.size, 0, none⟩) (Or.inl rfl) _).setCell (p := ⟨wm.heap.size, 1, none⟩) (Or.inl rfl) _).setCell (p := ⟨wm.heap.size, 2, none⟩) (Or.inl rfl) _
          have hws : (wm.alloc (.cells #[.int .i64 0, .int .i64 0, .slice none 0 0] 49)).drew.heap.size = wm.heap.size + 1 := by simp
          have ne : ∀ i, Ext Sr (wm.alloc (.cells #[.int .i64 0, .int .i64 0, .slice none 0 0] 49)).drew w2 i → ¬ i = wm.heap.size := fun i hi e => by
            rcases hi with hi | hi
            · have := HC.out.2.2.1 _ hi
              omega
            · omega
          have K3 : Kp (fun i => i = wm.heap.size) w2 _ := K2
          refine ⟨dA2, dc2, wm.heap.size, rfl, rfl, z', (hrb.kp K2 ne).mono (fun _ _ _ => trivial), (hr2.kp K2 ne).mono (fun k hk hl => ?_), ((Kp.of_below HBA.out.drew Sr).then_ hk2).trans K2 (fun i hi => Or.inr (by rw [hi]; exact Nat.le_refl _))⟩
          rcases hk with hk | hk
          · exact Or.inl hk
          · exact Or.inr ⟨by omega, hl⟩
    case rest =>
      obtain ⟨dA2, dc2, b1, rfl, rfl, hb1, hrb2, hr3, hk3⟩ := hcut
      have hb0' : wc.heap[b0]? = _ := (hk3.block b0 b0s (fun e => by have := (HR.out.1.hy _ e).1; omega)).trans HC.out.2.2.2.1
      have hrb1 := HC.out.2.2.2.2.1.kp hk3 (fun i hi e => (HR.out.1.hy i e).2.2 hi)
      have q0 : wc.cell? ⟨b0, 0, none⟩ = some (.int .i64 (takeR s no).1.no) := cell_at hb0' 0
      have q1 : wc.cell? ⟨b0, 1, none⟩ = some (.int .i64 (takeR s no).1.to) := cell_at hb0' 1
      have q2 : wc.cell? ⟨b0, 2, none⟩ = some (.slice dA (takeR s no).1.data.length dc) := cell_at hb0' 2
      have q3 : wc.cell? ⟨b1, 0, none⟩ = some (.int .i64 (takeR s no).1.no) := cell_at hb1 0
      have q4 : wc.cell? ⟨b1, 1, none⟩ = some (.int .i64 (takeR s no).1.to) := cell_at hb1 1
      have q5 : wc.cell? ⟨b1, 2, none⟩ = some (.slice dA2 (takeR s no).1.data.length dc2) := cell_at hb1 2
      have s4 := sameFlight_calls (takeR s no).1 (takeR s no).1 _ _ wc _ _ hrb1 hrb2
      simp only [decide_true] at s4
      have HK3 := Lib.hid (And.intro hr3 hk3)
      clear hr3 hk3 hb0' hrb1 hrb2 hb1
      go_wp2_with fail
      refine s4.mono ?_
      clear s4
      rintro e w5 ⟨rfl, hb5⟩
      have HB5 := Lib.hid hb5
      clear hb5 q0 q1 q2 q3 q4 q5
      go_wp2_with (go_at_call 15; refine (hnum _ _).mono ?_; rintro e w' ⟨rfl, rfl⟩)
      go_ret
      have := pair_next (w := w) HR.out.1 (Kp.of_below HR.out.2.1 U) HU.out.1 HU.out.2.1 HU.out.2.2.1 HU.out.2.2.2.1 (HC.out.2.2.2.2.2.1.ext _ _) HC.out.2.2.2.2.2.2 (Below.refl _ _) HK3.out.1 HK3.out.2 HB5.out
      exact ⟨_, _, (HU.out.2.2.2.2.2.take no).more (by omega), rfl, this.1, this.2⟩
end Go.Proofs.Ytpakocgbbggolaa
