import Derived.Test.YtpakocgbbggolaaNetL
import Derived.Deep.RegionHeld3
set_option linter.unusedSimpArgs false
set_option linter.unusedVariables false
namespace Go.Proofs.Ytpakocgbbggolaa
open Go.RowKit Go.Proofs.Cul Go.ChangeMaps

theorem lookT_none {no : Int} : ∀ {T : List Ent}, (∀ t ∈ T, t.1.no ≠ no) → lookT no T = none
  | [], _ => rfl
  | t :: r, h => by
    have h0 : ¬ no = t.1.no := fun e => h t List.mem_cons_self e.symm
    simp only [lookT, if_neg h0]
    exact lookT_none (fun u hu => h u (List.mem_cons_of_mem _ hu))
theorem run_len_map {P : Program} {t : TypeId} {m clock : Nat} {es : List (Int × Value × Nat)} {kt et : TypeId} (ht : P.underlying t = some (.map kt et)) {W : World} (h : MapAt W m es clock) (ty : TypeId) :
    (Builtin.len_ #[t] ty #[.map (some m)]).run P W = .ok (.int .i64 es.length) W := by
  unfold MapAt at h
  simp [Builtin.len_, Sem.run_bind, run_underlying ht, Result.andThen, getObj, Sem.run, h, ents]
  rfl

set_option maxRecDepth 100000 in
theorem netSend_calls (w : World) (S Sb : Nat → Prop) (g : Nat) (s : St) (h : NetP w S g s) (hSb : ∀ k, S k → k < w.heap.size) (to : Int) (v : Value) (xs : List Int) (hb : RB w Sb v xs) (hbg : ¬ Sb g)
    (hlen : xs.length ≤ 1048576) (hok : s.Ok) (hgiv : 0 ≤ s.given ∧ s.given ≤ 4611686018427387904) :
    Calls Try.prog 13 #[.pointer (some ⟨g, 0, none⟩), .int .i64 to, v] w fun e w' => e = .returned (.int .i64 (s.send to xs).1) ∧ NetP w' (Ext S w w') g (s.send to xs).2 ∧ Kp S w w' := by
  obtain ⟨m, clock, T, hg, hS, hSm, hM, hT, hst, hcl, hD, hap⟩ := h
  have HH : Hid (NetP w S g s) := ⟨m, clock, T, hg, hS, hSm, hM, hT, hst, hcl, hD, hap⟩
  have HT := Lib.hid hT
  have hgl := lt_of_heap hg
  have hml := lt_of_heap hM
  have c0 : w.cell? ⟨g, 0, none⟩ = some (.map (some m)) := cell_at hg 0
  have c1 : w.cell? ⟨g, 1, none⟩ = some (.int .i64 s.given) := cell_at hg 1
  have f1 : w.frozen? ⟨g, 1, none⟩ = false := frozen_at hg 1
  have hln := run_len_map (P := Try.prog) Try.underlying69 hM 3
  have hTl : (esOf T).length = s.fl.length := by rw [← hT]; simp [esOf]
  rw [hTl] at hln
  clear hT hTl
  by_cases hfull : 1024 ≤ s.fl.length
  · have hs : s.send to xs = (0, s) := by simp [St.send, hfull]
    rw [hs]
    clear hs
    go_enter Try.func13, Try.ntmps13
    go_wp2
    go_ret
    exact ⟨rfl, HH.out.ext _ _, Kp.refl _ _⟩
  · have hs : s.send to xs = (s.given + 1, ⟨s.given + 1, s.fl ++ [⟨s.given + 1, to, xs⟩]⟩) := by simp [St.send, hfull]
    rw [hs]
    clear hs
    have hgm : ¬ g = m := fun e => by unfold MapAt at hM; rw [← e, hg] at hM; cases hM
    have K1 : Kp (fun i => i = g) w (w.setCell ⟨g, 1, none⟩ (.int .i64 (s.given + 1))) := (Kp.refl (fun i => i = g) w).setCell (p := ⟨g, 1, none⟩) (Or.inl rfl) _
    have hg1 := heap_setCell_at hg 1 (.int .i64 (s.given + 1))
    have hM1 : MapAt (w.setCell ⟨g, 1, none⟩ (.int .i64 (s.given + 1))) m (esOf T) clock := (K1.block m hml (fun e => hgm e.symm)).trans hM
    have hb1 : RB (w.setCell ⟨g, 1, none⟩ (.int .i64 (s.given + 1))) Sb v xs := hb.move (fun k hk _ => Below.heap_setCell _ _ _ _ (fun e => hbg (by have e' : k = g := e; rw [← e']; exact hk)))
    obtain ⟨W1, hW1⟩ : ∃ W, w.setCell ⟨g, 1, none⟩ (.int .i64 (s.given + 1)) = W := ⟨_, rfl⟩
    rw [hW1] at K1 hg1 hM1 hb1
    have e0 : W1.cell? ⟨g, 0, none⟩ = some (.map (some m)) := cell_at hg1 0
    have e1 : W1.cell? ⟨g, 1, none⟩ = some (.int .i64 (s.given + 1)) := cell_at hg1 1
    have hgl1 := lt_of_heap hg1
    have hml1 := lt_of_heap hM1
    have hnew : lookT (s.given + 1) T = none := lookT_none (fun t ht => by
      have h1 : t.1 ∈ s.fl := by rw [← HT.out]; exact List.mem_map.2 ⟨t, ht, rfl⟩
      have := (hok.range _ h1).2
      omega)
    have HNEW := Lib.hid hnew
    have hbc := clone_calls v xs _ Sb (hb1.below ((Below.refl _ _).drew)) (by omega)
    have HHG := Lib.hid hg1
    have HHM := Lib.hid hM1
    clear hnew hok
    go_enter Try.func13, Try.ntmps13
    go_wp2_with fail
    have hupd : ∀ w2, Below W1.heap.size W1.drew w2 → ∀ u, (Instr.mapUpdate 69 (.map (some m)) (.int .i64 (s.given + 1)) u).run Try.prog w2 = .ok () (setBlock w2 m (.map (ents (esOf T ++ [(s.given + 1, u, clock)])).toArray (clock + 1))) := fun w2 hbw u =>
      run_update_new (P := Try.prog) Try.underlying69 Try.underlying3 ((hbw.block m hml1).trans hM1) (s.given + 1) u (by rw [look_es, HNEW.out]; rfl)
    have HU := Lib.hid hupd
    clear hupd
    go_region_held3 (fun W => W.cell? ⟨g, 0, none⟩ = some (.map (some m)) ∧ W.cell? ⟨g, 1, none⟩ = some (.int .i64 (s.given + 1)))
      (first | exact ⟨e0, e1⟩ | exact ⟨(hbw.cell hgl1).trans e0, (hbw.cell hgl1).trans e1⟩ | exact h3)
      (first | (go_simp; go_at_call 33; refine hbc.mono ?_; rintro e w2 ⟨d, rfl, hd, hbw⟩; obtain ⟨dA, dc, rfl⟩ := own_slice hd; have hup := HU.out w2 hbw (.agg #[.int .i64 to, .slice dA xs.length dc]); (obtain ⟨W3, hW3⟩ : ∃ W, setBlock w2 m (.map (ents (esOf T ++ [(s.given + 1, .agg #[.int .i64 to, .slice dA xs.length dc], clock)])).toArray (clock + 1)) = W := ⟨_, rfl⟩); rw [hW3] at hup; have hM2 : MapAt w2 m (esOf T) clock := (hbw.block m hml1).trans HHM.out; have hgW : W3.heap[g]? = some (.cells #[.map (some m), .int .i64 (s.given + 1)] 71 (0, 0)) := (by rw [← hW3, heap_setBlock_other hM2 _ hgm]; exact (hbw.block g hgl1).trans HHG.out); have hW3e := Lib.hid hW3; clear hW3; have h3 : W3.cell? ⟨g, 0, none⟩ = some (.map (some m)) ∧ W3.cell? ⟨g, 1, none⟩ = some (.int .i64 (s.given + 1)) := ⟨cell_at hgW 0, cell_at hgW 1⟩))
    all_goals (go_wp2; go_ret)
    refine ⟨rfl, ?_⟩
    have K2 : Kp (fun i => i = g) w w2 := K1.drew.andBelow hbw
    have K3 : Kp (fun i => i = m) w2 W3 := by rw [← hW3e.out]; exact (Kp.refl (fun i => i = m) w2).setBlock (b := m) (Or.inl rfl) _
    have K : Kp S w W3 := (K2.mono (fun i hi => by rw [hi]; exact hS)).then_ (K3.mono (fun i hi => by rw [hi]; exact hSm))
    have sz := hbw.size
    have sz1 := K1.size
    simp only [World.size_drew] at sz
    have hM3 : MapAt W3 m (esOf T ++ [(s.given + 1, .agg #[.int .i64 to, .slice dA xs.length dc], clock)]) (clock + 1) := by rw [← hW3e.out]; exact hM2.set _ _
    have hdl := hd.lt
    have sz3 := K3.size
    have far : ∀ u ∈ T, ∀ k, u.2.1.ownBlock = some k → k < w.heap.size := fun u hu k hk => hSb k ((hD u hu).2.2 k hk)
    have hdm : (Value.slice dA xs.length dc).ownBlock ≠ some m := own_ne_map hd hM2
    refine ⟨⟨m, clock + 1, T ++ [(⟨s.given + 1, to, xs⟩, .slice dA xs.length dc, clock)], hgW, Or.inl hS, Or.inl hSm, ?_, by simp [HT.out], ?_, ?_, ?_, ?_⟩, K⟩
    · have : esOf (T ++ [(⟨s.given + 1, to, xs⟩, .slice dA xs.length dc, clock)]) = esOf T ++ [(s.given + 1, .agg #[.int .i64 to, .slice dA xs.length dc], clock)] := by simp [esOf]
      rw [this]
      exact hM3
    · rw [List.pairwise_append]
      refine ⟨hst, List.pairwise_singleton _ _, fun a ha b hb => ?_⟩
      simp only [List.mem_singleton] at hb
      subst hb
      exact hcl a ha
    · intro t ht
      rw [List.mem_append, List.mem_singleton] at ht
      rcases ht with ht | rfl
      · have := hcl t ht
        omega
      · exact Nat.lt_succ_self _
    · intro t ht
      rw [List.mem_append, List.mem_singleton] at ht
      rcases ht with ht | rfl
      · exact ⟨own_kp (own_kp (hD t ht).1 K2 (fun i hi e => own_ne_type (hD t ht).1 hg (by decide) (by rw [hi, e]))) K3 (fun i hi e => own_ne_map (hD t ht).1 hM (by rw [hi, e])), (hD t ht).2.1, fun k hk => Or.inl ((hD t ht).2.2 k hk)⟩
      · refine ⟨own_kp (own_lower hd (Nat.zero_le _)) K3 (fun i hi e => hdm (by rw [hi, e])), hb.isB, fun k hk => ?_⟩
        have := hdl k hk
        simp only [World.size_drew] at this
        exact Or.inr ⟨by omega, by omega⟩
    · rw [List.pairwise_append]
      refine ⟨hap, List.pairwise_singleton _ _, fun a ha b hb k hk e => ?_⟩
      simp only [List.mem_singleton] at hb
      subst hb
      have h1 := far a ha k hk
      have h2 := (hdl k e).1
      simp only [World.size_drew] at h2
      omega

set_option maxRecDepth 100000 in
theorem netCopy_calls (w : World) (S : Nat → Prop) (g : Nat) (s : St) (h : NetP w S g s) (hSb : ∀ k, S k → k < w.heap.size) (hlen : ∀ f ∈ s.fl, f.data.length ≤ 1048576) (hok : s.Ok) (hgiv : 0 ≤ s.given ∧ s.given ≤ 4611686018427387904) (no : Int) :
    Calls Try.prog 14 #[.pointer (some ⟨g, 0, none⟩), .int .i64 no] w fun e w' => e = .returned (.tuple #[.int .i64 (s.copy no).1, .int .i64 (copyE s no)]) ∧ NetP w' (Ext S w w') g (s.copy no).2 ∧ Kp S w w' := by
  obtain ⟨m, clock, T, hg, hS, hSm, hM, hT, hst, hcl, hD, hap⟩ := h
  have HH : Hid (NetP w S g s) := ⟨m, clock, T, hg, hS, hSm, hM, hT, hst, hcl, hD, hap⟩
  have HT := Lib.hid hT
  have hgl := lt_of_heap hg
  have c0 : w.cell? ⟨g, 0, none⟩ = some (.map (some m)) := cell_at hg 0
  have hlk := lookup_net hM no
  have hfind := find_T no T
  rw [hT] at hfind
  have HB := Lib.hid hSb
  clear hT hSb
  cases hL : lookT no T with
  | none =>
    rw [hL] at hfind hlk
    simp only [Option.map_none, Option.getD_none, Option.isSome_none] at hfind hlk
    have HF := Lib.hid hfind
    clear hfind hL
    go_enter Try.func14, Try.ntmps14
    go_wp2
    go_ret2
    have e1 : s.copy no = (0, s) := by unfold St.copy; rw [HF.out]
    have e2 : copyE s no = 218 := by unfold copyE; rw [HF.out]
    rw [e1, e2]
    have b2 : Below w.heap.size w (w.alloc (.cells #[.int .i64 0, .slice none 0 0] 73)) := (Below.refl _ _).alloc (Nat.le_refl _) _
    exact ⟨rfl, (HH.out.below b2).ext _ _, Kp.of_below b2 S⟩
  | some t =>
    rw [hL] at hfind hlk
    simp only [Option.map_some, Option.getD_some, Option.isSome_some] at hfind hlk
    obtain ⟨htm, htn⟩ := lookT_mem hL
    obtain ⟨ho, hBt, hSt⟩ := hD t htm
    obtain ⟨dA, dc, hd⟩ := own_slice ho
    have b2 : Below w.heap.size w (w.alloc (.cells #[.int .i64 t.1.to, .slice dA t.1.data.length dc] 73)) := (Below.refl _ _).alloc (Nat.le_refl _) _
    have e1 : s.copy no = s.send t.1.to t.1.data := by unfold St.copy; rw [hfind]
    have e2 : copyE s no = 0 := by unfold copyE; rw [hfind]
    have hgt : t.2.1.ownBlock ≠ some g := own_ne_type ho hg (by decide)
    have hrb : RB (w.alloc (.cells #[.int .i64 t.1.to, .slice dA t.1.data.length dc] 73)) (fun k => t.2.1.ownBlock = some k) t.2.1 t.1.data := (RB.of_own ho hBt (fun k hk => hk)).below b2
    have hl1 : t.1.data.length ≤ 1048576 := hlen _ (by rw [← HT.out]; exact List.mem_map.2 ⟨t, htm, rfl⟩)
    have hsc := netSend_calls (w.alloc (.cells #[.int .i64 t.1.to, .slice dA t.1.data.length dc] 73)) S _ g s (HH.out.below b2) (fun k hk => by have := HB.out k hk; simp; omega) t.1.to t.2.1 t.1.data hrb hgt hl1 hok hgiv
    rw [hd] at hsc hlk
    have E1 := Lib.hid e1
    have E2 := Lib.hid e2
    have H0 := Lib.hid (And.intro hd (And.intro ho hrb))
    clear e1 e2 hd ho hrb hfind hL htn
    go_enter Try.func14, Try.ntmps14
    go_wp2_with fail
    refine hsc.mono ?_
    rintro e w3 ⟨rfl, hr3, hk3⟩
    clear hsc
    go_wp2
    go_ret2
    rw [E1.out, E2.out]
    refine ⟨rfl, hr3.mono (fun k hk _ => ?_), (Kp.of_below b2 S).then_ hk3⟩
    rcases hk with hk | hk
    · exact Or.inl hk
    · have := hk.1
      simp at this
      exact Or.inr ⟨by omega, hk.2⟩
end Go.Proofs.Ytpakocgbbggolaa
