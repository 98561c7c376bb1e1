import Derived.Test.YtpakocgbbggolaaNetO
import Derived.Maps.RangeRun
set_option linter.unusedSimpArgs false
set_option linter.unusedVariables false
namespace Go.Proofs.Ytpakocgbbggolaa
open Go.RowKit Go.Proofs.Cul Go.ChangeMaps

def seenN (w : World) (r : Nat) : Nat :=
  match w.heap[r]? with
  | some (.mapIter _ _ seen _) => seen.size
  | _ => 0
theorem seenN_at {w : World} {r : Nat} {m : Option Nat} {c c' : Nat} {seen : Array Nat} (h : w.heap[r]? = some (.mapIter m c seen c')) : seenN w r = seen.size := by simp [seenN, h]

theorem mem_ents {T : List Ent} {e : MapEntry} (h : e ∈ ents (esOf T)) : ∃ t ∈ T, e = ⟨.int .i64 t.1.no, .agg #[.int .i64 t.1.to, t.2.1], t.2.2⟩ := by
  simp only [ents, esOf, List.map_map, List.mem_map] at h
  obtain ⟨t, ht, rfl⟩ := h
  exact ⟨t, ht, rfl⟩
theorem pick_left {T dn lf : List Ent} {seen : Array Nat} {e : MapEntry} (hP : (dn ++ lf).Perm T) (hseen : seen.toList = dn.map (·.2.2)) (he : e ∈ (leftOf (ents (esOf T)).toArray seen).toList) :
    ∃ t ∈ T, ∃ lf', e = ⟨.int .i64 t.1.no, .agg #[.int .i64 t.1.to, t.2.1], t.2.2⟩ ∧ (dn ++ [t] ++ lf').Perm T ∧ (seen.push e.born).toList = (dn ++ [t]).map (·.2.2) := by
  simp only [leftOf, Array.toList_filter, List.mem_filter] at he
  obtain ⟨h1, h2⟩ := he
  obtain ⟨t, ht, rfl⟩ := mem_ents (T := T) (by simpa using h1)
  have hn : t.2.2 ∉ dn.map (·.2.2) := by
    rw [← hseen]
    simpa using h2
  have hl : t ∈ lf := by
    rcases List.mem_append.1 (hP.symm.subset ht) with h | h
    · exact absurd (List.mem_map.2 ⟨t, h, rfl⟩) hn
    · exact h
  obtain ⟨a, b, rfl⟩ := List.append_of_mem hl
  refine ⟨t, ht, a ++ b, rfl, ?_, by simp [hseen]⟩
  refine List.Perm.trans ?_ hP
  rw [List.append_assoc]
  exact List.Perm.append_left dn (by rw [List.singleton_append]; exact List.perm_middle.symm)
theorem none_left {T dn lf : List Ent} {seen : Array Nat} (hP : (dn ++ lf).Perm T) (hseen : seen.toList = dn.map (·.2.2)) (hst : T.Pairwise (fun a b => a.2.2 < b.2.2)) (h0 : (leftOf (ents (esOf T)).toArray seen).size = 0) : dn.Perm T := by
  have hlf : lf = [] := by
    cases lf with
    | nil => rfl
    | cons t r =>
      exfalso
      have ht : t ∈ T := hP.subset (by simp)
      have hin : t.2.2 ∈ seen.toList := by
        rcases Classical.em (t.2.2 ∈ seen.toList) with h | h
        · exact h
        · exfalso
          have : (⟨.int .i64 t.1.no, .agg #[.int .i64 t.1.to, t.2.1], t.2.2⟩ : MapEntry) ∈ (leftOf (ents (esOf T)).toArray seen).toList := by
            simp only [leftOf, Array.toList_filter, List.mem_filter]
            refine ⟨?_, by simpa using h⟩
            simp only [ents, esOf, List.map_map, List.mem_map]
            exact ⟨t, ht, rfl⟩
          have hz := List.length_pos_of_mem this
          simp at hz
          simp at h0
          rw [h0] at hz
          simp at hz
      rw [hseen] at hin
      have hnd : (T.map (·.2.2)).Nodup := by
        rw [List.nodup_iff_pairwise_ne, List.pairwise_map]
        exact hst.imp (fun h => by omega)
      have hnd2 := ((hP.map (·.2.2)).nodup_iff).2 hnd
      rw [List.map_append, List.nodup_append] at hnd2
      exact hnd2.2.2 _ hin _ (by simp) rfl
  subst hlf
  simpa using hP

theorem MadeF.lower {w : World} {B B' : Nat} {v : Value} {fs : List Fl} (h : MadeF w B v fs) (hB : B' ≤ B) : MadeF w B' v fs := by
  obtain ⟨ds, hl, ho, hD⟩ := h
  exact ⟨ds, hl, own_lower ho hB, fun p hp => (hD p hp).mono (fun i hi _ => ⟨Nat.le_trans hB hi.1, hi.2⟩)⟩

set_option maxRecDepth 100000 in
theorem netUnder_calls (w : World) (S : Nat → Prop) (g : Nat) (s : St) (h : NetP w S g s) (hlen : ∀ f ∈ s.fl, f.data.length ≤ 1048576) (hok : s.Ok) (hgiv : 0 ≤ s.given ∧ s.given ≤ 4611686018427387904) :
    Calls Try.prog 16 #[.pointer (some ⟨g, 0, none⟩)] w fun e w' => ∃ v, e = .returned v ∧ MadeF w' w.heap.size v s.fl ∧ Below w.heap.size w w' := by
  obtain ⟨m, clock, T, hg, hS, hSm, hM, hT, hst, hcl, hD, hap⟩ := h
  have HT := Lib.hid hT
  have hgl := lt_of_heap hg
  have hml := lt_of_heap hM
  have c0 : w.cell? ⟨g, 0, none⟩ = some (.map (some m)) := cell_at hg 0
  have hrg := run_range_map (P := Try.prog) w 69 _ _ m _ clock Try.underlying69 hM
  clear hT
  go_enter Try.func16, Try.ntmps16
  go_wp2
  go_loopw [3] (fun v wr => ∃ (dn lf : List Ent) (seen : Array Nat), (dn ++ lf).Perm T ∧ seen.toList = dn.map (·.2.2) ∧ wr.heap[w.heap.size]? = some (.mapIter (some m) clock seen clock) ∧ MadeF wr (w.heap.size + 1) v (dn.map (·.1)) ∧ Below w.heap.size w wr) (fun _ wr => T.length - seenN wr w.heap.size)
  case atStart => exact ⟨[], T, #[], List.Perm.refl _, rfl, heap_alloc_new _ _, MadeF.nil _ _, (Below.refl _ _).alloc (Nat.le_refl _) _⟩
  case round =>
    obtain ⟨dn, lf, seen, hP, hseen, hI, hm, hbw⟩ := hrel
    have hMr : MapAt wr m (esOf T) clock := (hbw.block m hml).trans hM
    have hHM := Lib.hid hMr
    unfold MapAt at hMr
    have hsn := seenN_at hI
    have hHI := Lib.hid hI
    have hHP := Lib.hid hP
    have hHS := Lib.hid hseen
    have hold : ∀ x ∈ (ents (esOf T)).toArray.toList, x.born < clock := fun x hx => by
      obtain ⟨t, ht, rfl⟩ := mem_ents (T := T) (by simpa using hx)
      exact hcl t ht
    have hnd : ((ents (esOf T)).toArray.toList.map (·.born)).Nodup := by
      have : (ents (esOf T)).toArray.toList.map (·.born) = T.map (·.2.2) := by simp [ents, esOf]
      rw [this, List.nodup_iff_pairwise_ne, List.pairwise_map]
      exact hst.imp (fun h => by omega)
    have hrl : w.heap.size < wr.heap.size := lt_of_heap hI
    rcases run_next_at (P := Try.prog) wr 0 w.heap.size m clock clock seen _ clock hI hMr hold (Nat.le_refl _) with ⟨h0, hrun⟩ | ⟨e, he, w1, hal, hrun⟩
    · have hdn := none_left hP hseen hst h0
      clear hI hMr hP hseen hold hnd h0 hsn
      have hpf : (dn.map (·.1)).Perm s.fl := by rw [← HT.out]; exact hdn.map _
      have hsc := sortFl_calls wr (w.heap.size + 1) u3 (dn.map (·.1)) hm (fun f hf => by have := hok.range f (hpf.subset hf); omega) (by have := hpf.length_eq; have := hok.room; omega)
      have hown : ∀ i, u3.ownBlock = some i → w.heap.size ≤ i := by obtain ⟨ds, hl, ho, hD⟩ := hm; exact fun i hi => by have := (ho.lt i hi).1; omega
      have HO := Lib.hid hown
      clear hm hown hdn
      go_wp2_with fail
      refine hsc.mono ?_
      clear hsc
      rintro e w2 ⟨rfl, fs', hm2, hp2, hs2, hk2⟩
      have hfs : s.fl = fs' := perm_sorted_eq Fl.no ((hp2.trans hpf).symm) hok.sorted (hs2.imp (fun h => by omega))
      go_wp2
      go_ret
      rw [hfs]
      exact ⟨_, rfl, hm2.lower (Nat.le_succ _), ((Kp.of_below hbw (fun i => w.heap.size ≤ i)).then_ (hk2.mono (fun i hi => HO.out i hi))).below (fun k h => h)⟩
    · obtain ⟨t, htT, lf', rfl, hP', hseen'⟩ := pick_left hP hseen he
      obtain ⟨ho, hBt, hSt⟩ := hD t htT
      obtain ⟨dA, dc, hd⟩ := own_slice ho
      have K1 : Kp (fun i => i = w.heap.size) wr (setBlock w1 w.heap.size (.mapIter (some m) clock (seen.push t.2.2) clock)) := by
        rcases hal with rfl | rfl
        · exact (Kp.refl (fun i => i = w.heap.size) w1).setBlock (b := w.heap.size) (Or.inl rfl) _
        · exact ((Kp.refl (fun i => i = w.heap.size) wr).drew).setBlock (b := w.heap.size) (Or.inl rfl) _
      have hI1 : (setBlock w1 w.heap.size (.mapIter (some m) clock (seen.push t.2.2) clock)).heap[w.heap.size]? = some (.mapIter (some m) clock (seen.push t.2.2) clock) := by
        have : w1.heap[w.heap.size]? = some (.mapIter (some m) clock seen clock) := by rcases hal with rfl | rfl <;> exact hI
        have hlt := lt_of_heap this
        simp [setBlock, hlt]
      have hM1 := (K1.block m (by omega) (by omega)).trans hMr
      have hent := run_entry_at (P := Try.prog) (setBlock w1 w.heap.size (.mapIter (some m) clock (seen.push t.2.2) clock)) w.heap.size m clock seen _ clock _ hI1 hM1 (by simp only [leftOf, Array.toList_filter, List.mem_filter] at he; exact he.1) hnd
      obtain ⟨W1, hW1⟩ : ∃ W, setBlock w1 w.heap.size (.mapIter (some m) clock (seen.push t.2.2) clock) = W := ⟨_, rfl⟩
      simp only at hrun hent
      rw [hW1] at hrun hent K1 hI1 hM1
      rw [hd] at hrun hent
      have HQ := Lib.hid (And.intro hP' hseen')
      clear hW1 hI hMr hP hseen hold hnd he hP' hseen'
      have K2 : Kp (fun i => w.heap.size ≤ i) w (W1.alloc (.cells #[.int .i64 t.1.to, .slice dA t.1.data.length dc] 73)) := ((Kp.of_below hbw _).then_ (K1.mono (fun i hi => by omega))).alloc _
      have b2 : Below w.heap.size w (W1.alloc (.cells #[.int .i64 t.1.to, .slice dA t.1.data.length dc] 73)) := K2.below (fun k h => h)
      have hx := heap_alloc_new W1 (.cells #[.int .i64 t.1.to, .slice dA t.1.data.length dc] 73)
      have x0 : (W1.alloc (.cells #[.int .i64 t.1.to, .slice dA t.1.data.length dc] 73)).cell? ⟨W1.heap.size, 0, none⟩ = some (.int .i64 t.1.to) := cell_at hx 0
      have x1 : (W1.alloc (.cells #[.int .i64 t.1.to, .slice dA t.1.data.length dc] 73)).cell? ⟨W1.heap.size, 1, none⟩ = some (.slice dA t.1.data.length dc) := cell_at hx 1
      have hI2 : (W1.alloc (.cells #[.int .i64 t.1.to, .slice dA t.1.data.length dc] 73)).heap[w.heap.size]? = some (.mapIter (some m) clock (seen.push t.2.2) clock) := (Below.heap_alloc _ _ _ (lt_of_heap hI1)).trans hI1
      have ho2 := own_below ho b2
      have hrb : RB (W1.alloc (.cells #[.int .i64 t.1.to, .slice dA t.1.data.length dc] 73)).drew (fun k => t.2.1.ownBlock = some k) t.2.1 t.1.data := RB.of_own (own_drew ho2) hBt (fun k hk => hk)
      have hl1 : t.1.data.length ≤ 1048576 := hlen _ (by rw [← HT.out]; exact List.mem_map.2 ⟨t, htT, rfl⟩)
      have hcc := clone_calls _ t.1.data _ _ hrb (by omega)
      rw [hd] at hcc
      have hm1 : MadeF W1 (w.heap.size + 1) u3 (dn.map (·.1)) := by
        obtain ⟨ds, hl, ho, hD⟩ := hm
        exact ⟨ds, hl, own_kp ho K1 (fun i hi e => by have := (ho.lt i hi).1; omega), fun p hp => (hD p hp).kp K1 (fun i hi e => by omega)⟩
      have hm2 := hm1.below ((Below.refl W1.heap.size W1).alloc (Nat.le_refl _) (.cells #[.int .i64 t.1.to, .slice dA t.1.data.length dc] 73))
      have hub : ∀ i, u3.ownBlock = some i → w.heap.size + 1 ≤ i ∧ i < W1.heap.size := by obtain ⟨ds, hl, ho, hD⟩ := hm1; exact fun i hi => ho.lt i hi
      have HM2 := Lib.hid hm2
      have HUB := Lib.hid hub
      clear hm hm1 hm2 hub
      have hsz1 := K1.size
      have hk4 : (dn.map (·.1)).length ≤ 4096 := by
        have h1 := HQ.out.1.length_eq
        have h2 := congrArg List.length HT.out
        have := hok.room
        simp at h1 h2 ⊢
        omega
      have hX : ∀ W : World, W.heap[W1.heap.size]? = (W1.alloc (.cells #[.int .i64 t.1.to, .slice dA t.1.data.length dc] 73)).drew.heap[W1.heap.size]? → W.cell? ⟨W1.heap.size, 0, none⟩ = some (.int .i64 t.1.to) ∧ W.cell? ⟨W1.heap.size, 1, none⟩ = some (.slice dA t.1.data.length dc) := fun W hW =>
        ⟨cell_at (hW.trans hx) 0, cell_at (hW.trans hx) 1⟩
      have HX := Lib.hid hX
      have hM3 : ∀ w3, Below (W1.alloc (.cells #[.int .i64 t.1.to, .slice dA t.1.data.length dc] 73)).drew.heap.size (W1.alloc (.cells #[.int .i64 t.1.to, .slice dA t.1.data.length dc] 73)).drew w3 → MadeF w3 (w.heap.size + 1) u3 (dn.map (·.1)) := fun w3 h3 =>
        (show MadeF (W1.alloc (.cells #[.int .i64 t.1.to, .slice dA t.1.data.length dc] 73)).drew (w.heap.size + 1) u3 (dn.map (·.1)) from HM2.out).below h3
      have HM3 := Lib.hid hM3
      clear hX hM3
      go_wp2_with fail
      go_region_held3 (fun W => W.cell? ⟨W1.heap.size, 0, none⟩ = some (.int .i64 t.1.to) ∧ W.cell? ⟨W1.heap.size, 1, none⟩ = some (.slice dA t.1.data.length dc))
        (first | exact ⟨x0, x1⟩ | exact x3 | exact x4 | exact x5)
        (first | (go_simp; go_at_call 33; refine hcc.mono ?_; rintro e w3 ⟨d', rfl, hd', hb3⟩; obtain ⟨eA, ec, rfl⟩ := own_slice hd'; (have hb4 := hb3.alloc hb3.size (.cells #[.int .i64 t.1.no, .int .i64 t.1.to, .slice eA t.1.data.length ec] 49)); (have x3 := HX.out w3 (hb3.block _ (by simp))); (have x4 := HX.out _ (hb4.block _ (by simp))); obtain ⟨ds, hl, ho3, hD3⟩ := HM3.out w3 hb3; have HL := Lib.hid hl; clear hl; have hsz3 := hb3.size; simp only [World.size_drew, World.size_alloc] at hsz3) | (refine step_append_src rfl _ _ rowT49 rfl rfl (ho3.alloc _) rfl (Src.alloc (cs := #[.int .i64 t.1.no, .int .i64 t.1.to, .slice eA t.1.data.length ec]) rfl (by simp [Value.oneCell'])) ?_ ?_ ?_ ?_; omega; (unfold maxLen; omega); (simp; omega); intro v' w5 ho5 hg5 _ hat; (have x5 := HX.out w5 ((hg5.block W1.heap.size (by simp; have := hb3.size; simp at this; omega) (fun e => by have := HUB.out _ e.symm; omega)).trans (hb4.block _ (by simp))))))
      have hg : (w3.alloc (.cells #[.int .i64 t.1.no, .int .i64 t.1.to, .slice eA t.1.data.length ec] 49)).grownBy w5 u3.ownBlock := hg5
      have hat2 : v'.ownBlock = u3.ownBlock ∨ v'.ownBlock = some (w3.alloc (.cells #[.int .i64 t.1.no, .int .i64 t.1.to, .slice eA t.1.data.length ec] 49)).heap.size := hat
      clear hg5 hat
      have hi3 : w3.heap[w.heap.size]? = some (.mapIter (some m) clock (seen.push t.2.2) clock) := (hb3.block _ (lt_of_heap hI2)).trans hI2
      have hl3 := lt_of_heap hi3
      have hI5 : w5.heap[w.heap.size]? = some (.mapIter (some m) clock (seen.push t.2.2) clock) := (hg.block _ (by simp; omega) (fun e => by have := HUB.out _ e.symm; omega)).trans ((Below.heap_alloc w3 _ _ hl3).trans hi3)
      have hs5 := seenN_at hI5
      have hB5 : Below w.heap.size w w5 := (((K2.drew.then_ (Kp.of_below (hb3.mono (by simp)) _)).alloc _).grown hg (fun i hi => Or.inl (by have := HUB.out i hi; omega))).below (fun k h => h)
      have hmf : MadeF w5 (w.heap.size + 1) v' ((dn ++ [t]).map (·.1)) := by
        rw [List.map_append]
        refine MadeF.snoc (w := w3) (w3 := w5) (f := t.1) ds HL.out hD3 (fun i hi => (ho3.lt i hi).2) (RB.of_own hd' hBt (fun i hi => ?_)) ho5 (fun i hi hne => (hg.block i (by simp; omega) (fun e => hne e.symm)).trans (Below.heap_alloc w3 _ i hi)) (hat2.imp id (fun h => ⟨w3.heap.size + 1, by simpa using h, Nat.le_succ _⟩))
        have h1 := (hd'.lt i hi).1
        simp only [World.size_drew, World.size_alloc] at h1
        exact ⟨by omega, fun e => by have := HUB.out i e; omega⟩
      go_wp2
      go_roundw
      case rel => exact ⟨dn ++ [t], lf', seen.push t.2.2, HQ.out.1, HQ.out.2, hI5, hmf, hB5⟩
      case measure =>
        rw [hs5, hsn]
        have h1 := HQ.out.1.length_eq
        have h2 := congrArg List.length HQ.out.2
        simp at h1 h2 ⊢
        omega
end Go.Proofs.Ytpakocgbbggolaa
