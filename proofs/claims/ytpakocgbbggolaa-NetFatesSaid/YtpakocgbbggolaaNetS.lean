import Derived.Test.YtpakocgbbggolaaNetR
set_option linter.unusedSimpArgs false
set_option linter.unusedVariables false
namespace Go.Proofs.Ytpakocgbbggolaa
open Go.RowKit Go.Proofs.Cul Go.ChangeMaps

set_option maxRecDepth 100000 in
theorem pairUnder_calls (w : World) (U : Nat → Prop) (p : Nat) (s : St) (long : Bool) (h : PairP w U p s long) (hlen : ∀ f ∈ s.fl, f.data.length ≤ 1048576) (hok : s.Ok) (hgiv : s.given ≤ 4611686018427387904) :
    Calls Try.prog 11 #[.pointer (some ⟨p, 0, none⟩)] w fun e w' => e = .returned (.bool true) ∧ Below w.heap.size w w' := by
  obtain ⟨gx, gr, Sx, Sr, room, ys, hp, hU, hn, hr, hx, hy, ho, hb, hro⟩ := h
  have hpl := lt_of_heap hp
  have c0 : w.cell? ⟨p, 0, none⟩ = some (.pointer (some ⟨gx, 0, none⟩)) := cell_at hp 0
  have c1 : w.cell? ⟨p, 1, none⟩ = some (.pointer (some ⟨gr, 0, none⟩)) := cell_at hp 1
  have h1 := netUnder_calls w Sx gx s hn hlen hok ⟨hok.given0, hgiv⟩
  go_enter Try.func11, Try.ntmps11
  go_wp2_with fail
  refine h1.mono ?_
  clear h1
  rintro e w1 ⟨v, rfl, hm, hb1⟩
  have c1' : w1.cell? ⟨p, 1, none⟩ = some (.pointer (some ⟨gr, 0, none⟩)) := (hb1.cell hpl).trans c1
  have h2 := refUnder_calls w1 Sr gr s (hr.below hb1) hlen (by have := hok.room; omega)
  have HM := Lib.hid hm
  clear hm
  go_wp2_with fail
  refine h2.mono ?_
  clear h2
  rintro e w2 ⟨v2, rfl, hm2, hb2⟩
  have h3 := sameFlights_calls _ _ _ _ _ _ _ (HM.out.below hb2).reads hm2.reads
  simp only [decide_true] at h3
  have L := ((Kp.of_below hb1 (fun k => w.heap.size ≤ k)).andBelow hb2)
  clear hm2
  go_wp2_with fail
  refine h3.mono ?_
  clear h3
  rintro e w3 ⟨rfl, hb3⟩
  go_wp2
  go_ret
  exact ⟨rfl, (L.andBelow hb3).below (fun k h => h)⟩
end Go.Proofs.Ytpakocgbbggolaa
