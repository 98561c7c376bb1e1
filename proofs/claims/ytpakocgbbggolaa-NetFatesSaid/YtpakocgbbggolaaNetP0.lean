import Derived.Test.YtpakocgbbggolaaNetM
set_option linter.unusedSimpArgs false
set_option linter.unusedVariables false
namespace Go.Proofs.Ytpakocgbbggolaa
open Go.RowKit Go.Proofs.Cul Go.ChangeMaps

/-- What is new since B. -/
def New (B : Nat) (W : World) : Nat → Prop := fun k => B ≤ k ∧ k < W.heap.size
theorem NetP.toNew {w w' : World} {B g : Nat} {s : St} (h : NetP w' (Ext (New B w) w w') g s) (hB : B ≤ w.heap.size) (hs : w.heap.size ≤ w'.heap.size) : NetP w' (New B w') g s :=
  h.mono (fun k hk _ => by
    rcases hk with hk | hk
    · exact ⟨hk.1, Nat.lt_of_lt_of_le hk.2 hs⟩
    · exact ⟨Nat.le_trans hB hk.1, hk.2⟩)
theorem NetP.more {w w' : World} {B g : Nat} {s : St} (h : NetP w (New B w) g s) (k : Below w.heap.size w w') : NetP w' (New B w') g s :=
  (h.below k).mono (fun i hi _ => ⟨hi.1, Nat.lt_of_lt_of_le hi.2 k.size⟩)
theorem New.kp {w w' : World} {B : Nat} (h : Kp (New B w) w w') : Kp (fun k => B ≤ k) w w' := h.mono (fun _ hi => hi.1)
/-- The statement's pair at block p: both nets in one state, apart from one another. -/
def PairP (w : World) (U : Nat → Prop) (p : Nat) (s : St) (long : Bool) : Prop :=
  ∃ (gx gr : Nat) (Sx Sr : Nat → Prop) (room : Value) (ys : List Int), w.heap[p]? = some (.cells #[.pointer (some ⟨gx, 0, none⟩), .pointer (some ⟨gr, 0, none⟩), room, .bool long] 35 (0, 0)) ∧ U p ∧
    NetP w Sx gx s ∧ RefP w Sr gr s ∧ (∀ k, Sx k → U k ∧ k < w.heap.size ∧ k ≠ p) ∧ (∀ k, Sr k → U k ∧ k < w.heap.size ∧ k ≠ p ∧ ¬ Sx k) ∧
    w.ownsRow 0 5 1 room ys.length (u8s ys) ∧ IsB ys ∧ (∀ k, room.ownBlock = some k → U k ∧ k ≠ p ∧ ¬ Sx k ∧ ¬ Sr k)

theorem PairP.move {w w' : World} {U : Nat → Prop} {p : Nat} {s : St} {long : Bool} (h : PairP w U p s long) (hs : w.heap.size ≤ w'.heap.size) (hm : ∀ k, U k → k < w.heap.size → w'.heap[k]? = w.heap[k]?) : PairP w' U p s long := by
  obtain ⟨gx, gr, Sx, Sr, room, ys, hp, hU, hn, hr, hx, hy, ho, hb, hro⟩ := h
  exact ⟨gx, gr, Sx, Sr, room, ys, (hm p hU (lt_of_heap hp)).trans hp, hU, hn.move (fun k hk hl => hm k (hx k hk).1 hl), hr.move (fun k hk hl => hm k (hy k hk).1 hl),
    fun k hk => ⟨(hx k hk).1, Nat.lt_of_lt_of_le (hx k hk).2.1 hs, (hx k hk).2.2⟩, fun k hk => ⟨(hy k hk).1, Nat.lt_of_lt_of_le (hy k hk).2.1 hs, (hy k hk).2.2⟩, own_move' ho (fun k hk hl => hm k (hro k hk).1 hl), hb, hro⟩
theorem PairP.kp {w w' : World} {U T : Nat → Prop} {p : Nat} {s : St} {long : Bool} (h : PairP w U p s long) (k : Kp T w w') (hd : ∀ i, U i → ¬ T i) : PairP w' U p s long := h.move k.size (fun i hi hl => k.block i hl (hd i hi))
theorem PairP.below {w w' : World} {U : Nat → Prop} {p : Nat} {s : St} {long : Bool} (h : PairP w U p s long) (k : Below w.heap.size w w') : PairP w' U p s long := h.move k.size (fun i _ hl => k.block i hl)
theorem PairP.mono {w : World} {U T : Nat → Prop} {p : Nat} {s : St} {long : Bool} (h : PairP w U p s long) (hs : ∀ k, U k → k < w.heap.size → T k) : PairP w T p s long := by
  obtain ⟨gx, gr, Sx, Sr, room, ys, hp, hU, hn, hr, hx, hy, ho, hb, hro⟩ := h
  exact ⟨gx, gr, Sx, Sr, room, ys, hp, hs p hU (lt_of_heap hp), hn, hr, fun k hk => ⟨hs k (hx k hk).1 (hx k hk).2.1, (hx k hk).2⟩, fun k hk => ⟨hs k (hy k hk).1 (hy k hk).2.1, (hy k hk).2⟩, ho, hb, fun k hk => ⟨hs k (hro k hk).1 (ho.lt k hk).2, (hro k hk).2⟩⟩

set_option maxRecDepth 100000 in
theorem begin_calls (w : World) : Calls Try.prog 9 #[] w fun e w' => ∃ p, e = .returned (.pointer (some ⟨p, 0, none⟩)) ∧ PairP w' (New w.heap.size w') p St.new false ∧ Below w.heap.size w w' := by
  have h1 := netNew_calls w
  go_enter Try.func9, Try.ntmps9
  go_wp2_with fail
  refine h1.mono ?_
  clear h1
  rintro e w1 ⟨rfl, hn, hb1, hz1⟩
  have h2 := refNew_calls w1
  have HZ := Lib.hid hz1
  clear hz1
  go_wp2_with fail
  refine h2.mono ?_
  clear h2
  rintro e w2 ⟨rfl, hr, hb2, hz2⟩
  have hz1 := HZ.out
  have hn2 := hn.below hb2
  have hx := heap_alloc_new w2 (.cells #[.pointer (some ⟨w.heap.size + 1, 0, none⟩), .pointer (some ⟨w1.heap.size, 0, none⟩), .slice none 0 0, .bool false] 35)
  have B2 : Below w2.heap.size w2 (w2.alloc (.cells #[.pointer (some ⟨w.heap.size + 1, 0, none⟩), .pointer (some ⟨w1.heap.size, 0, none⟩), .slice none 0 0, .bool false] 35)) := (Below.refl _ _).alloc (Nat.le_refl _) _
  have HP : PairP (w2.alloc (.cells #[.pointer (some ⟨w.heap.size + 1, 0, none⟩), .pointer (some ⟨w1.heap.size, 0, none⟩), .slice none 0 0, .bool false] 35)) (New w.heap.size (w2.alloc (.cells #[.pointer (some ⟨w.heap.size + 1, 0, none⟩), .pointer (some ⟨w1.heap.size, 0, none⟩), .slice none 0 0, .bool false] 35))) w2.heap.size St.new false := by
    refine ⟨w.heap.size + 1, w1.heap.size, _, _, .slice none 0 0, [], hx, ⟨by omega, by simp⟩, hn2.below B2, hr.below B2, fun k hk => ?_, fun k hk => ?_, World.ownsRow_nil _ _ _ _, fun x hx => by simp at hx, fun k hk => by simp [Value.ownBlock] at hk⟩
    · rcases hk with rfl | rfl
      · exact ⟨⟨by omega, by simp; omega⟩, by simp; omega, by omega⟩
      · exact ⟨⟨by omega, by simp; omega⟩, by simp; omega, by omega⟩
    · have hk : k = w1.heap.size := hk
      subst hk
      exact ⟨⟨by omega, by simp; omega⟩, by simp; omega, by omega, by omega⟩
  have HL : Below w.heap.size w (w2.alloc (.cells #[.pointer (some ⟨w.heap.size + 1, 0, none⟩), .pointer (some ⟨w1.heap.size, 0, none⟩), .slice none 0 0, .bool false] 35)) :=
    (((Kp.of_below hb1 (fun k => w.heap.size ≤ k)).andBelow hb2).alloc _).below (fun k h => h)
  have HH := Lib.hid (And.intro HP HL)
  clear HP HL hx B2 hn2 hn hr hb1 hb2 hz1 hz2
  go_wp2
  go_ret
  exact ⟨_, rfl, HH.out.1, HH.out.2⟩

end Go.Proofs.Ytpakocgbbggolaa
