import Derived.Test.YtpakocgbbggolaaNetQ
import Derived.Test.YtpakocgbbggolaaNetP0
set_option linter.unusedSimpArgs false
set_option linter.unusedVariables false
namespace Go.Proofs.Ytpakocgbbggolaa
open Go.RowKit Go.Proofs.Cul Go.ChangeMaps

/-- A literal of bytes. -/
theorem RB.lit {w : World} {xs : List Int} {t : TypeId} (hb : IsB xs) (hl : xs.length ≤ 1048576) : RB (w.alloc (.cells (u8s xs).toArray t)) (fun k => k = w.heap.size) (.slice (some ⟨w.heap.size, 0, none⟩) xs.length xs.length) xs := by
  refine ⟨_, _, rfl, Nat.le_refl _, by unfold maxLen; omega, hb, fun _ => ⟨_, rfl, rfl, fun j v hv => ?_⟩⟩
  rw [show (⟨w.heap.size, 0, none⟩ : Addr).add j = ⟨w.heap.size, j, none⟩ by unfold Addr.add; split <;> simp_all, cell_at (heap_alloc_new w _)]
  simpa using hv

set_option maxRecDepth 100000 in
theorem num_calls (w : World) (e : Int) : Calls Try.prog 15 #[.int .i64 e] w fun x w' => x = .returned (.int .i64 e) ∧ w = w' := by
  go_enter Try.func15, Try.ntmps15
  go_wp2
  go_ret
  exact ⟨rfl, rfl⟩

def k1 : St := ⟨1, [⟨1, 1, [65, 66]⟩]⟩
def k2 : St := ⟨2, [⟨1, 1, [65, 66]⟩, ⟨2, 0, []⟩]⟩
def k3 : St := ⟨3, [⟨1, 1, [65, 66]⟩, ⟨2, 0, []⟩, ⟨3, 1, [65, 66]⟩]⟩
def k4 : St := ⟨3, [⟨1, 1, [65, 65]⟩, ⟨2, 0, []⟩, ⟨3, 1, [65, 66]⟩]⟩
def k5 : St := ⟨3, [⟨2, 0, []⟩, ⟨3, 1, [65, 66]⟩]⟩
theorem ek1 : St.new.send 1 [65, 66] = (1, k1) := by simp [St.send, St.new, k1]
theorem ek2 : k1.send 0 [] = (2, k2) := by simp [St.send, k1, k2]
theorem ek3 : k2.copy 1 = (3, k3) := by simp [St.copy, St.send, find, k2, k3]
theorem ek3e : copyE k2 1 = 0 := by simp [copyE, find, k2]
theorem ek4 : k3.flip 1 1 3 = (0, k4) := by
  have h : xor8 66 3 = 65 := by kernel_rfl
  simp [St.flip, find, flips, flipB, alter, k3, k4, h]
theorem ek5 : k4.take 1 = k5 := by simp [St.take, strike, k4, k5]
theorem ek5r : takeR k4 1 = (⟨1, 1, [65, 65]⟩, 0) := by simp [takeR, find, k4]
theorem k1_ok : k1.Ok := by have := St.new_ok.send 1 [65, 66]; rwa [ek1] at this
theorem k2_ok : k2.Ok := by have := k1_ok.send 0 []; rwa [ek2] at this
theorem k3_ok : k3.Ok := by have := k2_ok.copy 1; rwa [ek3] at this
theorem k4_ok : k4.Ok := by have := k3_ok.flip 1 1 3; rwa [ek4] at this
theorem k5_ok : k5.Ok := by have := k4_ok.take 1; rwa [ek5] at this
theorem isB_AB : IsB [65, 66] := fun x hx => by simp at hx; omega
theorem isB_AA : IsB [65, 65] := fun x hx => by simp at hx; omega

set_option maxRecDepth 100000 in
theorem known_calls (w : World) : Calls Try.prog 8 #[] w fun e w' => e = .returned (.bool true) ∧ Below w.heap.size w w' := by
  have hnew := netNew_calls w
  have hnum := num_calls
  go_enter Try.func8, Try.ntmps8
  go_wp2_with fail
  refine hnew.mono ?_
  clear hnew
  rintro e w1 ⟨rfl, hn1, hb1, hz1⟩
  have hn1' : NetP w1 (New w.heap.size w1) (w.heap.size + 1) St.new := hn1.mono (fun k hk _ => by rcases hk with rfl | rfl <;> exact ⟨by omega, by omega⟩)
  have B2 : Below w1.heap.size w1 (w1.alloc (.cells #[.int .u8 65, .int .u8 66] 5)) := (Below.refl _ _).alloc (Nat.le_refl _) _
  have r2 : RB (w1.alloc (.cells #[.int .u8 65, .int .u8 66] 5)) (fun k => k = w1.heap.size) (.slice (some ⟨w1.heap.size, 0, none⟩) 2 2) [65, 66] := RB.lit (xs := [65, 66]) isB_AB (by decide)
  have c2 := netSend_calls _ _ _ _ _ (hn1'.more B2) (fun k hk => hk.2) 1 _ [65, 66] r2 (by omega) (by decide) St.new_ok (by simp [St.new])
  rw [ek1] at c2
  have hgl : w.heap.size + 1 < w1.heap.size := by omega
  clear hn1 hz1
  go_wp2_with fail
  refine c2.mono ?_
  clear c2
  rintro e w2 ⟨rfl, hn2, hk2⟩
  have bs1 := hb1.size
  have s2 := hk2.size
  simp only [World.size_alloc] at s2
  have hn2' := hn2.toNew (by simp; omega) hk2.size
  have L2 := (Kp.of_below hb1 (fun k => w.heap.size ≤ k)).andBelow B2
  have L2' := L2.then_ (New.kp hk2)
  have c3 := netSend_calls w2 _ (fun _ => False) _ _ hn2' (fun k hk => hk.2) 0 _ [] (RB.nil _ _) (fun h => h) (by decide) k1_ok (by simp [k1])
  rw [ek2] at c3
  clear hn2 hn1' r2 B2 hk2 L2
  go_wp2_with fail
  refine c3.mono ?_
  clear c3
  rintro e w3 ⟨rfl, hn3, hk3⟩
  have hn3' := hn3.toNew (by omega) hk3.size
  have L3 := L2'.then_ (New.kp hk3)
  have s3 := hk3.size
  have c4 := netCopy_calls w3 _ _ _ hn3' (fun k hk => hk.2) (by simp [k2]) k2_ok (by simp [k2]) 1
  rw [ek3, ek3e] at c4
  clear hn3 hk3 L2' hn2'
  go_wp2_with fail
  refine c4.mono ?_
  clear c4
  rintro e w4 ⟨rfl, hn4, hk4⟩
  have hn4' := hn4.toNew (by omega) hk4.size
  have L4 := L3.then_ (New.kp hk4)
  have s4 := hk4.size
  have c5 := netFlip_calls w4 _ _ _ hn4' (fun k hk => hk.2) (by simp [k3]) 1 1 3
  rw [ek4] at c5
  clear hn4 hk4 L3 hn3'
  go_wp2_with fail
  refine c5.mono ?_
  clear c5
  rintro e w5 ⟨rfl, hn5, hk5⟩
  have hn5' : NetP w5 (New w.heap.size w5) _ _ := hn5.mono (fun k hk _ => ⟨hk.1, Nat.lt_of_lt_of_le hk.2 hk5.size⟩)
  have L5 := L4.then_ (New.kp hk5)
  have s5 := hk5.size
  have c6 := netTake_calls w5 _ _ _ hn5' (fun k hk => hk.2) 1
  simp only [ek5, ek5r] at c6
  clear hn5 hk5 L4 hn4'
  go_wp2_with fail
  refine c6.mono ?_
  clear c6
  rintro e w6 ⟨d, rfl, ⟨hdo, hdB, _⟩, hn6, hk6⟩
  obtain ⟨dA, dc, rfl⟩ := own_slice hdo
  have L6 := L5.then_ (New.kp hk6)
  have s6 := hk6.size
  have B6 : Below w6.heap.size w6 (w6.alloc (.cells #[.int .i64 1, .int .i64 1, .slice dA 2 dc] 49)) := (Below.refl _ _).alloc (Nat.le_refl _) _
  have c7 := netUnder_calls _ _ _ _ (hn6.below B6) (by simp [k5]) k5_ok (by simp [k5])
  clear hn6 hk6 L5 hn5'
  go_wp2_with fail
  refine c7.mono ?_
  clear c7
  rintro e w7 ⟨v, rfl, hm7, hb7⟩
  have L7 := (L6.andBelow B6).andBelow hb7
  have s7 := hb7.size
  simp only [World.size_alloc] at s7
  have hx6 : w7.heap[w6.heap.size]? = some (.cells #[.int .i64 1, .int .i64 1, .slice dA 2 dc] 49 (0, 0)) := (hb7.block _ (by simp)).trans (heap_alloc_new w6 _)
  have q0 : w7.cell? ⟨w6.heap.size, 0, none⟩ = some (.int .i64 1) := cell_at hx6 0
  have q1 : w7.cell? ⟨w6.heap.size, 1, none⟩ = some (.int .i64 1) := cell_at hx6 1
  have q2 : w7.cell? ⟨w6.heap.size, 2, none⟩ = some (.slice dA 2 dc) := cell_at hx6 2
  have rd : RB w7 (fun _ => True) (.slice dA 2 dc) [65, 65] := ((RB.of_own (S := fun _ => True) hdo hdB (fun _ _ => trivial)).below B6).below hb7
  have B7 : Below w7.heap.size w7 (w7.alloc (.cells #[.int .u8 65, .int .u8 65] 5)) := (Below.refl _ _).alloc (Nat.le_refl _) _
  have r8 : RB (w7.alloc (.cells #[.int .u8 65, .int .u8 65] 5)) (fun k => k = w7.heap.size) (.slice (some ⟨w7.heap.size, 0, none⟩) 2 2) [65, 65] := RB.lit (xs := [65, 65]) isB_AA (by decide)
  have c8 := sameFlight_calls ⟨1, 1, [65, 65]⟩ ⟨1, 1, [65, 65]⟩ _ _ _ _ _ (rd.below B7) r8
  simp only [decide_true] at c8
  have HV := Lib.hid hm7
  clear hm7 hx6 B6 L6 hdo hdB rd r8
  go_wp2_with fail
  refine c8.mono ?_
  clear c8
  rintro e w8 ⟨rfl, hb8⟩
  have L8 := (L7.andBelow B7).andBelow hb8
  have hm8 := (HV.out.below B7).below hb8
  obtain ⟨W9, hW9⟩ : ∃ W, (w8.alloc (.cells #[.int .u8 65, .int .u8 66] 5)).alloc (.cells #[.int .i64 2, .int .i64 0, .slice none 0 0, .int .i64 3, .int .i64 1, .slice (some ⟨w8.heap.size, 0, none⟩) 2 2] 49) = W := ⟨_, rfl⟩
  have B9 : Below w8.heap.size w8 W9 := by rw [← hW9]; exact ((Below.refl _ _).alloc (Nat.le_refl _) _).alloc (by simp) _
  have o9 : W9.ownsRow 0 49 3 (.slice (some ⟨w8.heap.size + 1, 0, none⟩) 2 2) 2 (flCells k5.fl [.slice none 0 0, .slice (some ⟨w8.heap.size, 0, none⟩) 2 2]) := by
    refine ⟨rfl, .inr ⟨w8.heap.size + 1, 2, #[.int .i64 2, .int .i64 0, .slice none 0 0, .int .i64 3, .int .i64 1, .slice (some ⟨w8.heap.size, 0, none⟩) 2 2], rfl, Nat.zero_le _, ?_, Nat.le_refl _, by decide, ?_, ?_⟩⟩
    · rw [← hW9]
      have := heap_alloc_new (w8.alloc (.cells #[.int .u8 65, .int .u8 66] 5)) (.cells #[.int .i64 2, .int .i64 0, .slice none 0 0, .int .i64 3, .int .i64 1, .slice (some ⟨w8.heap.size, 0, none⟩) 2 2] 49)
      simpa using this
    · rfl
    · rfl
  have r9 : RB W9 (fun _ => True) (.slice (some ⟨w8.heap.size, 0, none⟩) 2 2) [65, 66] := by
    have := RB.lit (w := w8) (t := 5) (xs := [65, 66]) isB_AB (by decide)
    rw [← hW9]
    exact (this.mono (T := fun _ => True) (fun _ _ _ => trivial)).below ((Below.refl _ _).alloc (Nat.le_refl _) _)
  have f9 : RF W9 (fun _ => True) (.slice (some ⟨w8.heap.size + 1, 0, none⟩) 2 2) k5.fl := RF.of_own o9 rfl (fun _ _ => trivial) (fun p hp => by
    simp [k5] at hp
    rcases hp with rfl | rfl
    · exact RB.nil _ _
    · exact r9)
  have c9 := sameFlights_calls _ _ _ _ _ _ _ (hm8.below B9).reads f9
  simp only [decide_true] at c9
  have L9 := L8.andBelow B9
  rw [← hW9] at c9 L9
  have HL := Lib.hid L9
  clear hm8 B9 o9 r9 f9 hW9 L9 L8 L7 hb8 hb7 B7
  go_wp2_with fail
  refine c9.mono ?_
  clear c9
  rintro e w10 ⟨rfl, hb10⟩
  have L10 := HL.out.andBelow hb10
  go_wp2_with (go_at_call 15; refine (hnum _ _).mono ?_; rintro e w' ⟨rfl, rfl⟩)
  go_ret
  exact ⟨rfl, L10.below (fun k h => h)⟩
end Go.Proofs.Ytpakocgbbggolaa
