import Derived.Test.YtpakocgbbggolaaNetT
set_option linter.unusedSimpArgs false
set_option linter.unusedVariables false
namespace Go.Proofs.Ytpakocgbbggolaa
open Go.RowKit Go.Proofs.Cul Go.ChangeMaps

set_option maxHeartbeats 1000000 in
set_option maxRecDepth 100000 in
theorem sends_calls (w : World) (U Sb : Nat → Prop) (p : Nat) (s : St) (long : Bool) (h : PairP w U p s long) (hok : s.Ok) (hgiv : s.given ≤ 4611686018427387904) (to_ : Int) (v : Value) (xs : List Int) (hb : RB w Sb v xs)
    (hdis : ∀ k, Sb k → ¬ U k ∧ k < w.heap.size) (hlen : xs.length ≤ 65536) :
    Calls Try.prog 27 #[.pointer (some ⟨p, 0, none⟩), .int .i64 to_, v] w fun e w' => e = .returned (.bool true) ∧ PairP w' (Ext U w w') p (s.send to_ xs).2 (long || decide (4096 < (xs.length : Int))) ∧ Kp U w w' := by
  obtain ⟨gx, gr, Sx, Sr, room, ys, hp, hU, hn, hr, hx, hy, ho, hyb, hro⟩ := h
  have hpl := lt_of_heap hp
  have ld := lenB hb
  have ldr := lenB (RB.of_own (S := fun _ => True) ho hyb (fun _ _ => trivial))
  have od := own_one ho
  have b1 : decide ((65536 : Int) < (xs.length : Int)) = false := by simp; omega
  have c0 : w.cell? ⟨p, 0, none⟩ = some (.pointer (some ⟨gx, 0, none⟩)) := cell_at hp 0
  have c1 : w.cell? ⟨p, 1, none⟩ = some (.pointer (some ⟨gr, 0, none⟩)) := cell_at hp 1
  have c2 : w.cell? ⟨p, 2, none⟩ = some room := cell_at hp 2
  have c3 : w.cell? ⟨p, 3, none⟩ = some (.bool long) := cell_at hp 3
  have z2 : w.frozen? ⟨p, 2, none⟩ = false := frozen_at hp 2
  have z3 : w.frozen? ⟨p, 3, none⟩ = false := frozen_at hp 3
  have hmk := make5 (xs.length + 3) (by omega)
  have ecast : ((xs.length + 3 : Nat) : Int) = (xs.length : Int) + 3 := by omega
  rw [ecast] at hmk
  have hro' := hro
  have HALL := Lib.hid (And.intro hp (And.intro hU (And.intro hn (And.intro hr (And.intro hx (And.intro hy (And.intro ho (And.intro hyb hro))))))))
  have fin1 : ∀ b : Bool, Room (w.setCell ⟨p, 3, none⟩ (.bool b)) p gx gr Sx Sr room ys s b ∧ Kp U w (w.setCell ⟨p, 3, none⟩ (.bool b)) := fun b => by
    have K : Kp (fun i => i = p) w (w.setCell ⟨p, 3, none⟩ (.bool b)) := (Kp.refl (fun i => i = p) w).setCell (p := ⟨p, 3, none⟩) (Or.inl rfl) _
    refine ⟨⟨heap_setCell_at hp 3 _, hn.kp K (fun i hi e => (hx i hi).2.2 e), hr.kp K (fun i hi e => (hy i hi).2.2.1 e), fun k hk => ⟨Nat.lt_of_lt_of_le (hx k hk).2.1 K.size, (hx k hk).2.2⟩, fun k hk => ⟨Nat.lt_of_lt_of_le (hy k hk).2.1 K.size, (hy k hk).2.2⟩, own_kp ho K (fun i hi e => (hro i hi).2.1 e), hyb, fun k hk => (hro k hk).2⟩, K.mono (fun i hi => by rw [hi]; exact hU)⟩
  have fin2 : ∀ b : Bool, Room (((w.setCell ⟨p, 3, none⟩ (.bool b)).setCell ⟨p, 2, none⟩ (.slice (some ⟨w.heap.size, 0, none⟩) (xs.length + 3) (xs.length + 3))).alloc (.cells (madeCells #[.int .u8 0] (xs.length + 3)) 5)) p gx gr Sx Sr (.slice (some ⟨w.heap.size, 0, none⟩) (xs.length + 3) (xs.length + 3)) (List.replicate (xs.length + 3) 0) s b ∧
      Kp U w (((w.setCell ⟨p, 3, none⟩ (.bool b)).setCell ⟨p, 2, none⟩ (.slice (some ⟨w.heap.size, 0, none⟩) (xs.length + 3) (xs.length + 3))).alloc (.cells (madeCells #[.int .u8 0] (xs.length + 3)) 5)) := fun b => by
    obtain ⟨R1, K1⟩ := fin1 b
    have K2 : Kp (fun i => i = p) (w.setCell ⟨p, 3, none⟩ (.bool b)) (((w.setCell ⟨p, 3, none⟩ (.bool b)).setCell ⟨p, 2, none⟩ (.slice (some ⟨w.heap.size, 0, none⟩) (xs.length + 3) (xs.length + 3))).alloc (.cells (madeCells #[.int .u8 0] (xs.length + 3)) 5)) :=
      ((Kp.refl (fun i => i = p) _).setCell (p := ⟨p, 2, none⟩) (Or.inl rfl) _).alloc _
    have o1 := make5_own (xs.length + 3) (by omega) ((w.setCell ⟨p, 3, none⟩ (.bool b)).setCell ⟨p, 2, none⟩ (.slice (some ⟨w.heap.size, 0, none⟩) (xs.length + 3) (xs.length + 3)))
    simp only [World.size_setCell] at o1
    have h1 := heap_setCell_at R1.hp 2 (.slice (some ⟨w.heap.size, 0, none⟩) (xs.length + 3) (xs.length + 3))
    refine ⟨⟨(Below.heap_alloc _ _ _ (by simpa using hpl)).trans h1, R1.hn.kp K2 (fun i hi e => (R1.hx i hi).2 e), R1.hr.kp K2 (fun i hi e => (R1.hy i hi).2.1 e), fun k hk => ⟨Nat.lt_of_lt_of_le (R1.hx k hk).1 K2.size, (R1.hx k hk).2⟩, fun k hk => ⟨Nat.lt_of_lt_of_le (R1.hy k hk).1 K2.size, (R1.hy k hk).2⟩, o1, fun x hx => ?_, fun k hk => ?_⟩, K1.trans K2 (fun i hi => Or.inl (by rw [hi]; exact hU))⟩
    · have := List.eq_of_mem_replicate hx
      omega
    · simp [Value.ownBlock] at hk
      subst hk
      exact ⟨by omega, fun h => by have := (hx _ h).2.1; omega, fun h => by have := (hy _ h).2.1; omega⟩
  have HX := Lib.hid (fun k (hk : Sb k) (e : Sx k) => (hdis k hk).1 (hx k e).1)
  have HX2 := Lib.hid (fun k (hk : Sb k) (e : Sr k) => (hdis k hk).1 (hy k e).1)
  have HUX := Lib.hid (fun k (e : Sx k) => (hx k e).1)
  have HUR := Lib.hid (fun k (e : Sr k) => (hy k e).1)
  have F1 := Lib.hid fin1
  have F2 := Lib.hid fin2
  clear hp hn hr hx hy ho hyb hro hro' fin1 fin2 ecast
  go_enter Try.func27, Try.ntmps27
  go_upto_region 3 with (fail)
  go_cut [] (fun wx => wx = w.setCell ⟨p, 3, none⟩ (.bool (long || decide (4096 < (xs.length : Int)))))
  case first =>
    cases long
    · go_wp2_with fail
      go_meet
      case rel => simp
    · go_wp2_with fail
      go_meet
      case rel => simp
  case rest =>
    subst hcut
    go_upto_if 37 with (fail)
    go_cut [] (fun wx => ∃ (room : Value) (ys : List Int), Room wx p gx gr Sx Sr room ys s (long || decide (4096 < (xs.length : Int))) ∧ xs.length + 3 ≤ ys.length ∧ (∀ k, room.ownBlock = some k → U k ∨ w.heap.size ≤ k) ∧ Kp U w wx)
    case first =>
      by_cases hroom : (ys.length : Int) < (xs.length : Int) + 3
      · have b2 : decide ((ys.length : Int) < (xs.length : Int) + 3) = true := by simpa using hroom
        go_wp2_with fail
        go_meet
        case rel => exact ⟨_, _, (F2.out _).1, by simp, fun k hk => Or.inr (by simp only [Value.ownBlock, Option.some.injEq] at hk; omega), (F2.out _).2⟩
      · have b2 : decide ((ys.length : Int) < (xs.length : Int) + 3) = false := by simpa using hroom
        go_wp2_with fail
        go_meet
        case rel => exact ⟨_, _, (F1.out _).1, by omega, fun k hk => Or.inl (HALL.out.2.2.2.2.2.2.2.2 k hk).1, (F1.out _).2⟩
    case rest =>
      obtain ⟨room1, ys1, R, hyl1, hro1, KA⟩ := hcut
      obtain ⟨rp, rn, rr, rx, ry, ro, rb, rro⟩ := R
      have hplc := lt_of_heap rp
      have hne : ys1 ≠ [] := by intro e; rw [e] at hyl1; simp at hyl1
      obtain ⟨gb, hgb, _⟩ := ownB_idx ro 0 (by omega)
      have hbK : ∀ wr, Kp (fun i => room1.ownBlock = some i) wc wr → RB wr Sb v xs := fun wr K =>
        (hb.kp KA (fun i hi => (hdis i hi).1)).move (fun i hi hil => K.block i hil (fun e => by
          rcases hro1 i e with h | h
          · exact (hdis i hi).1 h
          · have := (hdis i hi).2
            omega))
      have HBK := Lib.hid hbK
      have HR := Lib.hid (And.intro rp (And.intro rn (And.intro rr (And.intro rx (And.intro ry (And.intro ro (And.intro rb (And.intro rro (And.intro hro1 KA)))))))))
      have odr := own_one ro
      have pne : ∀ i, room1.ownBlock = some i → i ≠ p := fun i hi => (rro i hi).1
      have hcell : ∀ wr, Kp (fun i => room1.ownBlock = some i) wc wr → wr.heap[p]? = wc.heap[p]? := fun wr K => K.block p hplc (fun e => pne p e rfl)
      have HC := Lib.hid hcell
      clear hb hbK rn rr rx ry rro hro1 KA pne hcell c0 c1 c2 c3 z2 z3 ldr od hmk HALL F1 F2 hne
      go_wp2_with fail
      go_loopw [7] (fun i wr => ∃ k : Nat, k ≤ xs.length ∧ i = .int .i64 k ∧ wr.ownsRow 0 5 1 room1 (laid xs ys1 k).length (u8s (laid xs ys1 k)) ∧ Kp (fun i => room1.ownBlock = some i) wc wr) (fun i _ => xs.length - (intOf i).toNat)
      case atStart => exact ⟨0, Nat.zero_le _, rfl, by rw [laid_zero]; exact ro, Kp.refl _ _⟩
      case round =>
        obtain ⟨k, hk, rfl, hor, hkr⟩ := hrel
        have hpr : wr.heap[p]? = _ := (HC.out wr hkr).trans rp
        have p2 : wr.cell? ⟨p, 2, none⟩ = some room1 := cell_at hpr 2
        by_cases hlt : k < xs.length
        · have b3 : decide ((k : Int) < (xs.length : Int)) = true := by simp; omega
          have hll := laid_len (xs := xs) (ys := ys1) (Nat.le_of_lt hlt) (by omega)
          obtain ⟨q, hq, _, _, hqc⟩ := idxB (HBK.out wr hkr) k (by omega) (by omega)
          rw [Int.toNat_natCast] at hqc
          obtain ⟨gb', hgb', hix, hfz, hcell⟩ := ownB_idx hor k (by omega)
          have hos := ownB_set hor hgb' k (by omega) (rdI xs k)
          rw [laid_step hlt (by omega)] at hos
          have HOS := Lib.hid (And.intro hos (And.intro hgb' (And.intro hor hkr)))
          clear hos hor
          go_wp2_with fail
          go_still_tail 10, (by kernel_rfl)
          change wpList _ _ _ _ _ wr.drew
          go_wp2
          go_roundw
          case rel => exact ⟨k + 1, by omega, by go_num, HOS.out.1, (HOS.out.2.2.2.setCell (p := ⟨gb', k, none⟩) (Or.inl HOS.out.2.1) _).drew⟩
          case measure => simp [intOf]; omega
        · have hkl : k = xs.length := by omega
          subst hkl
          have b3 : decide ((xs.length : Int) < (xs.length : Int)) = false := by simp
          have hll := laid_len (xs := xs) (ys := ys1) (Nat.le_refl _) (by omega)
          obtain ⟨Y, hY⟩ : ∃ Y, laid xs ys1 xs.length = Y := ⟨_, rfl⟩
          have hYB : IsB Y := by rw [← hY]; exact laid_isB (HR.out.2.2.2.2.2.2.1 |> fun h => fun x hx => (HBK.out wr hkr).isB x hx) HR.out.2.2.2.2.2.2.1 _
          rw [hY] at hor hll
          have HY := Lib.hid (And.intro hY (And.intro hor hkr))
          clear hor
          go_wp2_with fail
          go_loopw [8] (fun i wr => ∃ j : Nat, j ≤ 3 ∧ i = .int .i64 j ∧ wr.ownsRow 0 5 1 room1 (markN xs.length Y j).length (u8s (markN xs.length Y j)) ∧ Kp (fun i => room1.ownBlock = some i) wc wr) (fun i _ => 3 - (intOf i).toNat)
          case atStart => exact ⟨0, by omega, rfl, HY.out.2.1, HY.out.2.2⟩
          case round =>
            obtain ⟨j, hj, rfl, hor, hkr2⟩ := hrel
            have hpr2 : wr.heap[p]? = _ := (HC.out wr hkr2).trans rp
            have p2' : wr.cell? ⟨p, 2, none⟩ = some room1 := cell_at hpr2 2
            have hml := markN_len xs.length Y j
            rcases (show j = 0 ∨ j = 1 ∨ j = 2 ∨ j = 3 by omega) with rfl | rfl | rfl | rfl
            · obtain ⟨gb', hgb', hix, hfz, hcell⟩ := ownB_idx hor xs.length (by omega)
              have hos := ownB_set hor hgb' xs.length (by omega) 201
              have HOS := Lib.hid (And.intro hos (And.intro hgb' hkr2))
              clear hos hor
              go_wp2
              go_roundw
              case rel => exact ⟨1, by omega, rfl, HOS.out.1, HOS.out.2.2.setCell (p := ⟨gb', xs.length, none⟩) (Or.inl HOS.out.2.1) _⟩
              case measure => simp [intOf]
            · obtain ⟨gb', hgb', hix, hfz, hcell⟩ := ownB_idx hor (xs.length + 1) (by omega)
              have hos := ownB_set hor hgb' (xs.length + 1) (by omega) 202
              have HOS := Lib.hid (And.intro hos (And.intro hgb' hkr2))
              simp only [Int.natCast_add, Int.cast_ofNat_Int] at hix
              clear hos hor
              go_wp2
              go_roundw
              case rel => exact ⟨2, by omega, rfl, HOS.out.1, HOS.out.2.2.setCell (p := ⟨gb', xs.length + 1, none⟩) (Or.inl HOS.out.2.1) _⟩
              case measure => simp [intOf]
            · obtain ⟨gb', hgb', hix, hfz, hcell⟩ := ownB_idx hor (xs.length + 2) (by omega)
              have hos := ownB_set hor hgb' (xs.length + 2) (by omega) 203
              have HOS := Lib.hid (And.intro hos (And.intro hgb' hkr2))
              simp only [Int.natCast_add, Int.cast_ofNat_Int] at hix
              clear hos hor
              go_wp2
              go_roundw
              case rel => exact ⟨3, by omega, rfl, HOS.out.1, HOS.out.2.2.setCell (p := ⟨gb', xs.length + 2, none⟩) (Or.inl HOS.out.2.1) _⟩
              case measure => simp [intOf]
            · obtain ⟨Z, hZ⟩ : ∃ Z, markN xs.length Y 3 = Z := ⟨_, rfl⟩
              have hZB : IsB Z := by rw [← hZ]; exact markN_isB hYB (by omega)
              have hZt : Z.take xs.length = xs := by rw [← hZ, markN_take, ← HY.out.1, laid_take]
              have hZr : ∀ i, i < 3 → rdI Z (xs.length + i) = 201 + i := fun i hi => by rw [← hZ]; exact markN_rd (by omega) i hi
              rw [hZ] at hor hml
              clear hZ
              have RR0 : Room wr p gx gr Sx Sr room1 Z s (long || decide (4096 < (xs.length : Int))) := Room.turned ⟨HR.out.1, HR.out.2.1, HR.out.2.2.1, HR.out.2.2.2.1, HR.out.2.2.2.2.1, HR.out.2.2.2.2.2.1, HR.out.2.2.2.2.2.2.1, HR.out.2.2.2.2.2.2.2.1⟩ hkr2 hor hZB
              have RR := RR0.drew
              have KB : Kp (fun i => room1.ownBlock = some i) wc wr.drew := hkr2.drew
              obtain ⟨u, hu, hub⟩ := RR.cut (xs := xs) (by omega) hZt
              have hbw := HBK.out _ KB
              have s2 := netSend_calls wr.drew Sx _ gx s RR.hn (fun k hk => (RR.hx k hk).1) to_ u xs hub (fun e => (RR.hro gx e).2.1 RR.hn.self.1) (by omega) hok ⟨hok.given0, hgiv⟩
              have d0 : wr.cell? ⟨p, 0, none⟩ = some (.pointer (some ⟨gx, 0, none⟩)) := cell_at hpr2 0
              have d1 : wr.cell? ⟨p, 1, none⟩ = some (.pointer (some ⟨gr, 0, none⟩)) := cell_at hpr2 1
              have HRR := Lib.hid (And.intro RR (And.intro hub (And.intro hbw (And.intro KB (And.intro hZt (And.intro hZr hZB))))))
              obtain ⟨uA, uc, rfl⟩ : ∃ A c, u = .slice A xs.length c := by obtain ⟨A, c, h, _⟩ := hub; exact ⟨A, c, h⟩
              clear RR RR0 hub hbw KB hZt hZr hZB hor hkr2 HY hY hgb
              go_wp2_with fail
              go_still_tail 12, (by kernel_rfl)
              change wpList _ _ _ _ _ wr.drew
              go_wp2_with fail
              refine s2.mono ?_
              clear s2
              rintro e w2 ⟨rfl, hn2, hk2⟩
              have hpl2 : p < wr.drew.heap.size := lt_of_heap hpr2
              have R := HRR.out.1
              have hp2 : w2.heap[p]? = _ := (hk2.block p hpl2 (fun e => (R.hx p e).2 rfl)).trans R.hp
              have e1 : w2.cell? ⟨p, 1, none⟩ = some (.pointer (some ⟨gr, 0, none⟩)) := cell_at hp2 1
              have e2 : w2.cell? ⟨p, 2, none⟩ = some room1 := cell_at hp2 2
              have r2 := R.hr.kp hk2 (fun i hi => (R.hy i hi).2.2)
              have hbx : ∀ k, Sb k → ¬ Sx k := fun k hk => HX.out k hk
              have b2 := HRR.out.2.2.1.kp hk2 hbx
              have s3 := refSend_calls w2 Sr Sb gr s r2 to_ v xs b2 (fun e => HX2.out gr e r2.self.1) (by omega) ⟨hok.given0, hgiv⟩
              have HP2 := Lib.hid hp2
              have HK2 := Lib.hid (And.intro hn2 (And.intro hk2 (And.intro r2 b2)))
              clear hn2 hk2 r2 b2 hbx R hp2 hpl2
              go_wp2_with fail
              refine s3.mono ?_
              clear s3
              rintro e w3 ⟨rfl, hr3, hk3⟩
              have R := HRR.out.1
              have hpl3 := lt_of_heap HP2.out
              have hp3 : w3.heap[p]? = _ := (hk3.block p hpl3 (fun e => (R.hy p e).2.1 rfl)).trans HP2.out
              have f2 : w3.cell? ⟨p, 2, none⟩ = some room1 := cell_at hp3 2
              have u2 := HRR.out.2.1.kp HK2.out.2.1 (fun i hi => (R.hro i hi).2.1)
              have u3 := u2.kp hk3 (fun i hi => (R.hro i hi).2.2)
              have b3 := HK2.out.2.2.2.kp hk3 (fun i hi => HX2.out i hi)
              have s4 := sameBytes_calls _ v xs xs w3 _ _ u3 b3
              simp only [decide_true] at s4
              have o3 := own_kp (own_kp R.ho HK2.out.2.1 (fun i hi => (R.hro i hi).2.1)) hk3 (fun i hi => (R.hro i hi).2.2)
              have HP3 := Lib.hid hp3
              have HK3 := Lib.hid (And.intro hr3 (And.intro hk3 o3))
              clear hr3 hk3 o3 R hp3 hpl3 u2 u3 b3 e1 e2
              go_wp2_with fail
              refine s4.mono ?_
              clear s4
              rintro e w4' ⟨rfl, nd, rfl⟩
              have KD : Kp (fun _ => False) w3 (w3.drewN nd) := (Kp.refl _ _).drewN nd
              have hp4 : (w3.drewN nd).heap[p]? = _ := HP3.out
              have o4 : (w3.drewN nd).ownsRow 0 5 1 room1 Z.length (u8s Z) := own_kp HK3.out.2.2 KD (fun _ _ h => h)
              have HKD := Lib.hid KD
              obtain ⟨w4, hw4⟩ : ∃ W, w3.drewN nd = W := ⟨_, rfl⟩
              rw [hw4] at hp4 o4
              have g2 : w4.cell? ⟨p, 2, none⟩ = some room1 := cell_at hp4 2
              have HW4 := Lib.hid hw4
              obtain ⟨gb4, hgb4, i0, fz0, k0⟩ := ownB_idx o4 xs.length (by omega)
              obtain ⟨gb5, hgb5, i1, fz1, k1⟩ := ownB_idx o4 (xs.length + 1) (by omega)
              obtain ⟨gb6, hgb6, i2, fz2, k2⟩ := ownB_idx o4 (xs.length + 2) (by omega)
              have q0 := HRR.out.2.2.2.2.2.1 0 (by omega)
              have q1 := HRR.out.2.2.2.2.2.1 1 (by omega)
              have q2 := HRR.out.2.2.2.2.2.1 2 (by omega)
              simp only [Nat.add_zero] at q0
              rw [q0] at k0
              rw [q1] at k1
              rw [q2] at k2
              simp only [Int.natCast_add, Int.cast_ofNat_Int] at i1 i2 k0 k1 k2
              have HO4 := Lib.hid (And.intro hp4 (And.intro o4 hgb4))
              clear hp4 o4 KD q0 q1 q2 f2 hgb4 hgb5 hgb6
              go_wp2_with fail
              clear hw4
              go_loop [11, 12] (fun a i => ∃ j : Nat, j ≤ 3 ∧ i = .int .i64 j ∧ a = .bool true) (fun _ i => 3 - (intOf i).toNat)
              case atStart => exact ⟨0, by omega, rfl, rfl⟩
              case round =>
                obtain ⟨j, hj, rfl, rfl⟩ := hrel
                rcases (show j = 0 ∨ j = 1 ∨ j = 2 ∨ j = 3 by omega) with rfl | rfl | rfl | rfl
                · go_wp2
                  go_round
                  case rel => exact ⟨1, by omega, rfl, rfl⟩
                  case measure => simp [intOf]
                · go_wp2
                  go_round
                  case rel => exact ⟨2, by omega, rfl, rfl⟩
                  case measure => simp [intOf]
                · go_wp2
                  go_round
                  case rel => exact ⟨3, by omega, rfl, rfl⟩
                  case measure => simp [intOf]
                · clear i0 i1 i2 fz0 fz1 fz2 k0 k1 k2 g2
                  go_wp2_with fail
                  obtain ⟨wl4, hwl⟩ : ∃ wo : World, wo = w4 := ⟨_, rfl⟩
                  have hor4 := HO4.out.2.1
                  go_loopw [13] (fun i wr => ∃ (k : Nat) (Z' : List Int), k ≤ xs.length ∧ i = .int .i64 k ∧ Z'.length = Z.length ∧ IsB Z' ∧ wr.ownsRow 0 5 1 room1 Z'.length (u8s Z') ∧ Kp (fun i => room1.ownBlock = some i) w4 wr) (fun i _ => xs.length - (intOf i).toNat)
                  case atStart => exact ⟨0, Z, Nat.zero_le _, rfl, rfl, HRR.out.2.2.2.2.2.2, hor4, Kp.refl _ _⟩
                  case round =>
                    obtain ⟨k, Z', hk, rfl, hZl', hZB', hor', hkr'⟩ := hrel
                    have hp5 : wr.heap[p]? = _ := (hkr'.block p (lt_of_heap HO4.out.1) (fun e => (HRR.out.1.hro p e).1 rfl)).trans HO4.out.1
                    have g5 : wr.cell? ⟨p, 2, none⟩ = some room1 := cell_at hp5 2
                    by_cases hlt : k < xs.length
                    · have b5 : decide ((k : Int) < (xs.length : Int)) = true := by simp; omega
                      obtain ⟨gb', hgb', hix, hfz, hcell⟩ := ownB_idx hor' k (by omega)
                      have hos := ownB_set hor' hgb' k (by omega) 238
                      have HOS := Lib.hid (And.intro hos (And.intro hgb' (And.intro hZl' (And.intro hZB' hkr'))))
                      clear hos hor' hor4 hwl hp5 hZl' hZB' hkr'
                      go_wp2
                      go_roundw
                      case rel => exact ⟨k + 1, Z'.set k 238, by omega, by go_num, by rw [List.length_set]; exact HOS.out.2.2.1, fun x hx => by
                        rcases List.mem_or_eq_of_mem_set hx with hx | rfl
                        · exact HOS.out.2.2.2.1 x hx
                        · omega, HOS.out.1, HOS.out.2.2.2.2.setCell (p := ⟨gb', k, none⟩) (Or.inl HOS.out.2.1) _⟩
                      case measure => simp [intOf]; omega
                    · have b5 : decide ((k : Int) < (xs.length : Int)) = false := by simp; omega
                      have hkr5 := Lib.hid (And.intro hkr' (And.intro hor' hZB'))
                      clear hor' hor4 hwl hp5 hZl' hZB' hkr'
                      go_wp2
                      go_ret
                      have K5 : Kp (fun i => room1.ownBlock = some i) w3 wr := by
                        have := HKD.out.mono (T := fun i => room1.ownBlock = some i) (fun _ h => h.elim)
                        rw [HW4.out] at this
                        exact this.then_ hkr5.out.1
                      have := pair_close HRR.out.1 (HR.out.2.2.2.2.2.2.2.2.2.trans HRR.out.2.2.2.1 (fun i hi => HR.out.2.2.2.2.2.2.2.2.1 i hi)) (fun k hk => HUX.out k hk) (fun k hk => HUR.out k hk) hU HR.out.2.2.2.2.2.2.2.2.1 HK2.out.1 HK2.out.2.1 HK3.out.1 HK3.out.2.1 hkr5.out.2.1 hkr5.out.2.2 K5
                      exact ⟨rfl, this.1, this.2⟩
end Go.Proofs.Ytpakocgbbggolaa
