import Derived.Test.YtpakocgbbggolaaNetJ
set_option linter.unusedSimpArgs false
set_option linter.unusedVariables false
namespace Go.Proofs.Ytpakocgbbggolaa
open Go.RowKit Go.Proofs.Cul Go.ChangeMaps

theorem own_ne_map {w : World} {base : Nat} {e : TypeId} {size : Nat} {v : Value} {n : Nat} {xs : List Value} (h : w.ownsRow base e size v n xs) {m clock : Nat} {es : List (Int × Value × Nat)} (hM : MapAt w m es clock) : v.ownBlock ≠ some m := fun hk => by
  obtain ⟨cells, hc⟩ := own_typed' h m hk
  unfold MapAt at hM
  rw [hM] at hc
  cases hc
theorem own_ne_type {w : World} {base : Nat} {e : TypeId} {size : Nat} {v : Value} {n : Nat} {xs : List Value} (h : w.ownsRow base e size v n xs) {g t : Nat} {cs : Array Value} {fr : Nat × Nat} (hg : w.heap[g]? = some (.cells cs t fr)) (hne : e ≠ t) : v.ownBlock ≠ some g := fun hk => by
  obtain ⟨cells, hc⟩ := own_typed' h g hk
  rw [hg] at hc
  cases hc
  exact hne rfl
theorem zero73 (W : World) : (zeroValue 73).run Try.prog W = .ok (.agg #[.int .i64 0, .slice none 0 0]) W := by kernel_rfl
theorem lookup_net {W : World} {m clock : Nat} {T : List Ent} (h : MapAt W m (esOf T) clock) (no : Int) :
    (Instr.lookup 69 (.map (some m)) (.int .i64 no) true).run Try.prog W = .ok (.tuple #[((lookT no T).map fun t => Value.agg #[.int .i64 t.1.to, t.2.1]).getD (.agg #[.int .i64 0, .slice none 0 0]), .bool (lookT no T).isSome]) W := by
  have := run_lookup_ok (P := Try.prog) Try.underlying69 Try.underlying3 h no _ (zero73 W)
  rw [look_es] at this
  simpa using this

set_option maxRecDepth 100000 in
theorem netTake_calls (w : World) (S : Nat → Prop) (g : Nat) (s : St) (h : NetP w S g s) (hSb : ∀ k, S k → k < w.heap.size) (no : Int) :
    Calls Try.prog 23 #[.pointer (some ⟨g, 0, none⟩), .int .i64 no] w fun e w' => ∃ d, e = .returned (.tuple #[.agg #[.int .i64 (takeR s no).1.no, .int .i64 (takeR s no).1.to, d], .int .i64 (takeR s no).2]) ∧
      (w'.ownsRow 0 5 1 d (takeR s no).1.data.length (u8s (takeR s no).1.data) ∧ IsB (takeR s no).1.data ∧ ∀ k, d.ownBlock = some k → S k) ∧ NetP w' (fun k => S k ∧ d.ownBlock ≠ some k) g (s.take no) ∧ Kp S w w' := by
  obtain ⟨m, clock, T, hg, hS, hSm, hM, hT, hst, hcl, hD, hap⟩ := h
  have HH : Hid (NetP w S g s) := ⟨m, clock, T, hg, hS, hSm, hM, hT, hst, hcl, hD, hap⟩
  have HT := Lib.hid hT
  have hgl := lt_of_heap hg
  have hml := lt_of_heap hM
  have c0 : w.cell? ⟨g, 0, none⟩ = some (.map (some m)) := cell_at hg 0
  have b1 : Below w.heap.size w (w.alloc (.cells #[.int .i64 0, .int .i64 0, .slice none 0 0] 49)) := (Below.refl _ _).alloc (Nat.le_refl _) _
  have hM1 : MapAt (w.alloc (.cells #[.int .i64 0, .int .i64 0, .slice none 0 0] 49)) m (esOf T) clock := (b1.block m hml).trans hM
  have hlk := lookup_net hM1 no
  have hfind := find_T no T
  rw [hT] at hfind
  clear hT
  cases hL : lookT no T with
  | none =>
    rw [hL] at hfind hlk
    simp only [Option.map_none, Option.getD_none, Option.isSome_none] at hfind hlk
    have HF := Lib.hid hfind
    clear hfind hL
    go_enter Try.func23, Try.ntmps23
    go_wp2
    refine bodyPost_ret (v := .tuple #[.agg #[.int .i64 0, .int .i64 0, .slice none 0 0], .int .i64 218]) (by simp [results, Try.results23, go_sem]) rfl ?_
    have e1 : takeR s no = (⟨0, 0, []⟩, 218) := by unfold takeR; rw [HF.out]
    rw [e1, st_same HF.out]
    have b2 : Below w.heap.size w ((w.alloc (.cells #[.int .i64 0, .int .i64 0, .slice none 0 0] 49)).alloc (.cells #[.int .i64 0, .slice none 0 0] 73)) := b1.alloc (by simp) _
    exact ⟨.slice none 0 0, rfl, ⟨World.ownsRow_nil _ _ _ _, fun x hx => by simp at hx, fun k hk => by simp [Value.ownBlock] at hk⟩, (HH.out.below b2).mono (fun k hk _ => ⟨hk, by simp [Value.ownBlock]⟩), Kp.of_below b2 S⟩
  | some t =>
    rw [hL] at hfind hlk
    simp only [Option.map_some, Option.getD_some, Option.isSome_some] at hfind hlk
    obtain ⟨htm, htn⟩ := lookT_mem hL
    obtain ⟨ho, hBt, hSt⟩ := hD t htm
    obtain ⟨dA, dc, hd⟩ := own_slice ho
    have b2 : Below w.heap.size w ((w.alloc (.cells #[.int .i64 0, .int .i64 0, .slice none 0 0] 49)).alloc (.cells #[.int .i64 t.1.to, t.2.1] 73)) := b1.alloc (by simp) _
    have hM2 : MapAt ((w.alloc (.cells #[.int .i64 0, .int .i64 0, .slice none 0 0] 49)).alloc (.cells #[.int .i64 t.1.to, t.2.1] 73)) m (esOf T) clock := (b2.block m hml).trans hM
    have hdel := run_delete_there (P := Try.prog) Try.underlying69 Try.underlying3 hM2 no 0 (by rw [look_es, hL]; rfl)
    rw [drop1_T] at hdel
    have K1 : Kp (fun i => i = m) w (setBlock ((w.alloc (.cells #[.int .i64 0, .int .i64 0, .slice none 0 0] 49)).alloc (.cells #[.int .i64 t.1.to, t.2.1] 73)) m (.map (ents (esOf (strikeT no T))).toArray clock)) :=
      Kp.setBlock (b := m) (Kp.of_below b2 (fun i => i = m)) (Or.inl rfl) _
    have hM3 := hM2.set (esOf (strikeT no T)) clock
    have hw0 : (setBlock ((w.alloc (.cells #[.int .i64 0, .int .i64 0, .slice none 0 0] 49)).alloc (.cells #[.int .i64 t.1.to, t.2.1] 73)) m (.map (ents (esOf (strikeT no T))).toArray clock)).heap[w.heap.size]? = some (.cells #[.int .i64 0, .int .i64 0, .slice none 0 0] 49 (0, 0)) := by
      rw [heap_setBlock_other hM2 _ (by omega)]
      exact (Below.heap_alloc _ _ _ (by simp)).trans (heap_alloc_new w _)
    have hw1 : (setBlock ((w.alloc (.cells #[.int .i64 0, .int .i64 0, .slice none 0 0] 49)).alloc (.cells #[.int .i64 t.1.to, t.2.1] 73)) m (.map (ents (esOf (strikeT no T))).toArray clock)).heap[w.heap.size + 1]? = some (.cells #[.int .i64 t.1.to, t.2.1] 73 (0, 0)) := by
      rw [heap_setBlock_other hM2 _ (by omega)]
      have := heap_alloc_new (w.alloc (.cells #[.int .i64 0, .int .i64 0, .slice none 0 0] 49)) (.cells #[.int .i64 t.1.to, t.2.1] 73)
      simpa using this
    obtain ⟨W3, hW3⟩ : ∃ W, setBlock ((w.alloc (.cells #[.int .i64 0, .int .i64 0, .slice none 0 0] 49)).alloc (.cells #[.int .i64 t.1.to, t.2.1] 73)) m (.map (ents (esOf (strikeT no T))).toArray clock) = W := ⟨_, rfl⟩
    rw [hW3] at hdel K1 hM3 hw0 hw1
    clear hW3
    have r0 : W3.cell? ⟨w.heap.size, 0, none⟩ = some (.int .i64 0) := cell_at hw0 0
    have r1 : W3.cell? ⟨w.heap.size, 1, none⟩ = some (.int .i64 0) := cell_at hw0 1
    have r2 : W3.cell? ⟨w.heap.size, 2, none⟩ = some (.slice none 0 0) := cell_at hw0 2
    have z0 := frozen_at hw0 0
    have z1 := frozen_at hw0 1
    have z2 := frozen_at hw0 2
    have t0 : W3.cell? ⟨w.heap.size + 1, 0, none⟩ = some (.int .i64 t.1.to) := cell_at hw1 0
    have t1 : W3.cell? ⟨w.heap.size + 1, 1, none⟩ = some t.2.1 := cell_at hw1 1
    have HK := Lib.hid K1
    have HM3 := Lib.hid hM3
    have HF := Lib.hid hfind
    have HL := Lib.hid hL
    have HN := Lib.hid htn
    have HO := Lib.hid ho
    have HD := Lib.hid hd
    obtain ⟨vt, hvt⟩ : ∃ v, t.2.1 = v := ⟨_, rfl⟩
    clear hfind hL htn ho K1 hM3
    rw [hvt] at t1 hlk hdel hw1
    have HVT := Lib.hid hvt
    rw [hd] at hvt
    subst hvt
    go_enter Try.func23, Try.ntmps23
    go_wp2
    refine bodyPost_ret (v := .tuple #[.agg #[.int .i64 no, .int .i64 t.1.to, .slice dA t.1.data.length dc], .int .i64 0]) (by simp [results, Try.results23, go_sem, r0, r1, r2]) rfl ?_
    have e4 : takeR s no = (t.1, 0) := by unfold takeR; rw [HF.out]
    have e5 : s.take no = ⟨s.given, (strikeT no T).map (·.1)⟩ := by unfold St.take; rw [← HT.out, strike_T]
    rw [e4, e5]
    have hgm : ¬ g = m := fun e => by unfold MapAt at hM; rw [← e, hg] at hM; cases hM
    have Q3 : Kp (fun i => i = w.heap.size) W3 (((W3.setCell ⟨w.heap.size, 0, none⟩ (.int .i64 no)).setCell ⟨w.heap.size, 1, none⟩ (.int .i64 t.1.to)).setCell ⟨w.heap.size, 2, none⟩ (.slice dA t.1.data.length dc)) :=
      (((Kp.refl (fun i => i = w.heap.size) W3).setCell (p := ⟨w.heap.size, 0, none⟩) (Or.inl rfl) _).setCell (p := ⟨w.heap.size, 1, none⟩) (Or.inl rfl) _).setCell (p := ⟨w.heap.size, 2, none⟩) (Or.inl rfl) _
    have Q : Kp (fun i => i = m) w (((W3.setCell ⟨w.heap.size, 0, none⟩ (.int .i64 no)).setCell ⟨w.heap.size, 1, none⟩ (.int .i64 t.1.to)).setCell ⟨w.heap.size, 2, none⟩ (.slice dA t.1.data.length dc)) :=
      HK.out.trans Q3 (fun i hi => Or.inr (by rw [hi]; exact Nat.le_refl _))
    have ho := HO.out
    have hm3 := HM3.out
    unfold MapAt at hm3
    have keepD : ∀ u ∈ T, (((W3.setCell ⟨w.heap.size, 0, none⟩ (.int .i64 no)).setCell ⟨w.heap.size, 1, none⟩ (.int .i64 t.1.to)).setCell ⟨w.heap.size, 2, none⟩ (.slice dA t.1.data.length dc)).ownsRow 0 5 1 u.2.1 u.1.data.length (u8s u.1.data) := fun u hu =>
      own_kp (hD u hu).1 Q (fun i hi e => own_ne_map (hD u hu).1 hM (by rw [hi, e]))
    rw [HVT.out] at ho hSt
    refine ⟨_, by rw [HN.out], ⟨by have := keepD t htm; rwa [HVT.out] at this, hBt, hSt⟩, ⟨m, clock, strikeT no T, (Q.block g hgl hgm).trans hg, ⟨hS, own_ne_type ho hg (by decide)⟩, ⟨hSm, own_ne_map ho hM⟩, ?_, rfl, hst.sublist (strikeT_sub no T), fun u hu => hcl u ((strikeT_sub no T).subset hu), fun u hu => ?_, hap.sublist (strikeT_sub no T)⟩, Q.mono (fun i hi => by rw [hi]; exact hSm)⟩
    · exact (Q3.block m (lt_of_heap hm3) (by omega)).trans hm3
    · have huT := (strikeT_sub no T).subset hu
      refine ⟨keepD u huT, (hD u huT).2.1, fun i hi => ⟨(hD u huT).2.2 i hi, ?_⟩⟩
      have := struck_apart (R := fun a b : Ent => ∀ k, a.2.1.ownBlock = some k → b.2.1.ownBlock ≠ some k) (fun a b h k hk e => h k e hk) hap HL.out u hu i hi
      rwa [HVT.out] at this
end Go.Proofs.Ytpakocgbbggolaa
