import Derived.Test.YtpakocgbbggolaaNetE
import Derived.StillTailTactics
set_option linter.unusedSimpArgs false
set_option linter.unusedVariables false
namespace Go.Proofs.Ytpakocgbbggolaa
open Go.RowKit Go.Proofs.Cul

theorem refNew_calls (w : World) : Calls Try.prog 26 #[] w fun e w' => e = .returned (.pointer (some ⟨w.heap.size, 0, none⟩)) ∧ RefP w' (fun k => k = w.heap.size) w.heap.size St.new ∧ Below w.heap.size w w' ∧ w'.heap.size = w.heap.size + 1 := by
  go_enter Try.func26, Try.ntmps26
  go_wp2
  go_ret
  refine ⟨rfl, ⟨.slice none 0 0, [], heap_alloc_new w _, rfl, fun k hk => by simp [Value.ownBlock] at hk, World.ownsRow_nil _ _ _ _, rfl, fun p hp => by simp [St.new] at hp⟩, (Below.refl _ _).alloc (Nat.le_refl _) _, by simp⟩

theorem refDrop_calls (w : World) (S : Nat → Prop) (g : Nat) (s : St) (h : RefP w S g s) (hSb : ∀ k, S k → k < w.heap.size) (hroom : s.fl.length ≤ 4096) (no : Int) :
    Calls Try.prog 29 #[.pointer (some ⟨g, 0, none⟩), .int .i64 no] w fun e w' => e = .returned (.int .i64 (takeR s no).2) ∧
      RefP w' (Ext S w w') g (s.take no) ∧ Kp S w w' := by
  have hp := place_calls _ S g s h no
  obtain ⟨L, hg, c0, _, hS, hR⟩ := h.reads
  have HH := Lib.hid h
  clear h
  go_enter Try.func29, Try.ntmps29
  go_wp2_with fail
  refine hp.mono ?_
  clear hp
  rintro e w' ⟨i, rfl, hpl, rfl⟩
  rcases hpl with ⟨rfl, hf⟩ | ⟨k, hk, rfl, hf, hst, _⟩
  · have HF := Lib.hid hf
    clear hf
    go_wp2
    go_ret
    have e1 : takeR s no = (⟨0, 0, []⟩, 218) := by unfold takeR; rw [HF.out]
    rw [e1, st_same HF.out]
    exact ⟨rfl, HH.out.ext _ _, Kp.refl _ _⟩
  · have HF := Lib.hid hf
    have HST := Lib.hid hst
    clear hf hst
    go_wp2_with fail
    refine (out_calls _ S g s HH.out k hk hroom).mono ?_
    rintro e w3 ⟨rfl, hr3, hk3⟩
    go_wp2
    go_ret
    have e4 : takeR s no = (s.fl[k], 0) := by unfold takeR; rw [HF.out]
    have e5 : s.take no = ⟨s.given, s.fl.take k ++ s.fl.drop (k + 1)⟩ := by unfold St.take; rw [HST.out]
    rw [e4, e5]
    exact ⟨rfl, hr3, hk3.mono (fun i hi => by subst hi; exact hS)⟩

/-- What Copy answers beside the number. -/
def copyE (s : St) (no : Int) : Int := match find no s.fl with | none => 218 | some _ => 0

set_option maxRecDepth 100000 in
theorem refCopy_calls (w : World) (S : Nat → Prop) (g : Nat) (s : St) (h : RefP w S g s) (hSb : ∀ k, S k → k < w.heap.size) (hok : ∀ f ∈ s.fl, f.data.length ≤ 1048576) (hgiv : 0 ≤ s.given ∧ s.given ≤ 4611686018427387904) (no : Int) :
    Calls Try.prog 30 #[.pointer (some ⟨g, 0, none⟩), .int .i64 no] w fun e w' => e = .returned (.tuple #[.int .i64 (s.copy no).1, .int .i64 (copyE s no)]) ∧
      RefP w' (Ext S w w') g (s.copy no).2 ∧ Kp S w w' := by
  have hp := place_calls _ S g s h no
  obtain ⟨L, hg, c0, _, hS, hR⟩ := h.reads
  have HH := Lib.hid h
  clear h
  go_enter Try.func30, Try.ntmps30
  go_wp2_with fail
  refine hp.mono ?_
  clear hp
  rintro e w' ⟨i, rfl, hpl, rfl⟩
  rcases hpl with ⟨rfl, hf⟩ | ⟨k, hk, rfl, hf, hst, _⟩
  · have HF := Lib.hid hf
    clear hf
    go_wp2
    go_ret2
    have e1 : s.copy no = (0, s) := by unfold St.copy; rw [HF.out]
    have e2 : copyE s no = 218 := by unfold copyE; rw [HF.out]
    rw [e1, e2]
    exact ⟨rfl, HH.out.ext _ _, Kp.refl _ _⟩
  · obtain ⟨p, d, hp, _, q, hc, hb⟩ := idxF hR k hk
    have hlen := hok _ (List.getElem_mem hk)
    have HF := Lib.hid hf
    clear hf hst
    have e1 : s.copy no = s.send s.fl[k].to s.fl[k].data := by unfold St.copy; rw [HF.out]
    have e2 : copyE s no = 0 := by unfold copyE; rw [HF.out]
    have E1 := Lib.hid e1
    have E2 := Lib.hid e2
    clear e1 e2
    have HC := Lib.hid hc
    have HLEN := Lib.hid hlen
    have HB := Lib.hid hb
    clear hc hlen hb
    have e2' := HC.out.off 0 rfl
    have e3' := HC.out.off 1 rfl
    simp only [Nat.zero_add, Nat.reduceAdd] at e2' e3'
    go_wp2_with fail
    go_still_tail 17, (by kernel_rfl)
    change wpList _ _ _ _ _ w.drew
    go_wp2_with (go_at_call 37; refine (refSend_calls _ S (fun k => S k ∧ k ≠ g) g s (RefP.below HH.out ((Below.refl _ _).drew)) s.fl[k].to d s.fl[k].data (RB.below HB.out ((Below.refl _ _).drew)) (fun h => h.2 rfl) HLEN.out hgiv).mono ?_; rintro e w3 ⟨rfl, hr3, hk3⟩)
    go_ret2
    rw [E1.out, E2.out]
    exact ⟨rfl, hr3, ((Kp.refl S w).drew).then_ hk3⟩
end Go.Proofs.Ytpakocgbbggolaa
