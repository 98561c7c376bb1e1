import Derived.Test.YtpakocgbbggolaaNetK
set_option linter.unusedSimpArgs false
set_option linter.unusedVariables false
namespace Go.Proofs.Ytpakocgbbggolaa
open Go.RowKit Go.Proofs.Cul Go.ChangeMaps

set_option maxRecDepth 100000 in
theorem netDrop_calls (w : World) (S : Nat → Prop) (g : Nat) (s : St) (h : NetP w S g s) (hSb : ∀ k, S k → k < w.heap.size) (no : Int) :
    Calls Try.prog 22 #[.pointer (some ⟨g, 0, none⟩), .int .i64 no] w fun e w' => e = .returned (.int .i64 (takeR s no).2) ∧ NetP w' S g (s.take no) ∧ Kp S w w' := by
  have ht := netTake_calls w S g s h hSb no
  clear h
  go_enter Try.func22, Try.ntmps22
  go_wp2_with fail
  refine ht.mono ?_
  clear ht
  rintro e w1 ⟨d, rfl, ⟨ho, _, hd⟩, hn, hk⟩
  obtain ⟨dA, dc, rfl⟩ := own_slice ho
  have HN := Lib.hid hn
  have HK := Lib.hid hk
  clear hn hk hd ho
  go_wp2
  go_ret
  have b2 : Below w1.heap.size w1 (w1.alloc (.cells #[.int .i64 (takeR s no).1.no, .int .i64 (takeR s no).1.to, .slice dA (takeR s no).1.data.length dc] 49)) := (Below.refl _ _).alloc (Nat.le_refl _) _
  exact ⟨rfl, (HN.out.mono (fun k hk _ => hk.1)).below b2, HK.out.andBelow b2⟩

theorem alterT_mem {no : Int} {d : List Int} {R : Ent → Ent → Prop} (hsym : ∀ a b, R a b → R b a) : ∀ {T : List Ent} {t : Ent}, T.Pairwise R → lookT no T = some t → ∀ u ∈ alterT no d T, u = (⟨t.1.no, t.1.to, d⟩, t.2) ∨ (u ∈ T ∧ R u t)
  | [], _, _, h, _, _ => by simp [lookT] at h
  | v :: r, t, hp, h, u, hu => by
    rw [List.pairwise_cons] at hp
    by_cases e : no = v.1.no
    · simp only [lookT, if_pos e, Option.some.injEq] at h
      subst h
      simp only [alterT, if_pos e, List.mem_cons] at hu
      rcases hu with rfl | hu
      · exact Or.inl rfl
      · exact Or.inr ⟨List.mem_cons_of_mem _ hu, hsym _ _ (hp.1 u hu)⟩
    · simp only [lookT, if_neg e] at h
      simp only [alterT, if_neg e, List.mem_cons] at hu
      rcases hu with rfl | hu
      · exact Or.inr ⟨List.mem_cons_self, hp.1 t (lookT_mem h).1⟩
      · rcases alterT_mem hsym hp.2 h u hu with h1 | h1
        · exact Or.inl h1
        · exact Or.inr ⟨List.mem_cons_of_mem _ h1.1, h1.2⟩
theorem alterT_snd (no : Int) (d : List Int) : ∀ T : List Ent, (alterT no d T).map (·.2) = T.map (·.2)
  | [] => rfl
  | t :: r => by
    by_cases h : no = t.1.no
    · simp [alterT, h]
    · simp [alterT, h, alterT_snd no d r]

set_option maxRecDepth 100000 in
theorem netFlip_calls (w : World) (S : Nat → Prop) (g : Nat) (s : St) (h : NetP w S g s) (hSb : ∀ k, S k → k < w.heap.size) (hok : ∀ f ∈ s.fl, f.data.length ≤ 1048576) (no at_ x : Int) :
    Calls Try.prog 19 #[.pointer (some ⟨g, 0, none⟩), .int .i64 no, .int .i64 at_, .int .i64 x] w fun e w' => e = .returned (.int .i64 (s.flip no at_ x).1) ∧ NetP w' S g (s.flip no at_ x).2 ∧ Kp S w w' := by
  obtain ⟨m, clock, T, hg, hS, hSm, hM, hT, hst, hcl, hD, hap⟩ := h
  have HH : Hid (NetP w S g s) := ⟨m, clock, T, hg, hS, hSm, hM, hT, hst, hcl, hD, hap⟩
  have HT := Lib.hid hT
  have hgl := lt_of_heap hg
  have hml := lt_of_heap hM
  have c0 : w.cell? ⟨g, 0, none⟩ = some (.map (some m)) := cell_at hg 0
  have hlk := lookup_net hM no
  have hfind := find_T no T
  rw [hT] at hfind
  clear hT
  cases hL : lookT no T with
  | none =>
    rw [hL] at hfind hlk
    simp only [Option.map_none, Option.getD_none, Option.isSome_none] at hfind hlk
    have e1 : s.flip no at_ x = (218, s) := by unfold St.flip; rw [hfind]
    rw [e1]
    clear e1 hfind hL
    go_enter Try.func19, Try.ntmps19
    go_wp2
    go_ret
    have b2 : Below w.heap.size w (w.alloc (.cells #[.int .i64 0, .slice none 0 0] 73)) := (Below.refl _ _).alloc (Nat.le_refl _) _
    exact ⟨rfl, HH.out.below b2, Kp.of_below b2 S⟩
  | some t =>
    rw [hL] at hfind hlk
    simp only [Option.map_some, Option.getD_some, Option.isSome_some] at hfind hlk
    obtain ⟨htm, htn⟩ := lookT_mem hL
    obtain ⟨ho, hBt, hSt⟩ := hD t htm
    have hlen : t.1.data.length ≤ 1048576 := hok _ (by rw [← HT.out]; exact List.mem_map.2 ⟨t, htm, rfl⟩)
    obtain ⟨dA, dc, hd⟩ := own_slice ho
    have od := own_one ho
    have b2 : Below w.heap.size w (w.alloc (.cells #[.int .i64 t.1.to, .slice dA t.1.data.length dc] 73)) := (Below.refl _ _).alloc (Nat.le_refl _) _
    have ld := lenB (RB.of_own (S := S) ho hBt hSt)
    cases hfb : flips t.1.data at_ x with
    | false =>
      have e1 : s.flip no at_ x = (2, s) := by unfold St.flip; rw [hfind]; simp [hfb]
      rw [e1]
      simp only [flips, decide_eq_false_iff_not] at hfb
      clear e1 hfind hL htn hok
      by_cases t1 : at_ < 0
      · have b1 : decide (at_ < 0) = true := by simpa using t1
        go_enter Try.func19, Try.ntmps19
        go_wp2
        go_ret
        exact ⟨rfl, HH.out.below b2, Kp.of_below b2 S⟩
      · have b1 : decide (at_ < 0) = false := by simpa using t1
        by_cases t2 : (t.1.data.length : Int) ≤ at_
        · have b3 : decide ((t.1.data.length : Int) ≤ at_) = true := by simpa using t2
          go_enter Try.func19, Try.ntmps19
          go_wp2
          go_ret
          exact ⟨rfl, HH.out.below b2, Kp.of_below b2 S⟩
        · have b3 : decide ((t.1.data.length : Int) ≤ at_) = false := by simpa using t2
          by_cases t3 : x < 1
          · have b4 : decide (x < 1) = true := by simpa using t3
            go_enter Try.func19, Try.ntmps19
            go_wp2
            go_ret
            exact ⟨rfl, HH.out.below b2, Kp.of_below b2 S⟩
          · have b4 : decide (x < 1) = false := by simpa using t3
            have t4 : 255 < x := by omega
            have b5 : decide (255 < x) = true := by simpa using t4
            go_enter Try.func19, Try.ntmps19
            go_wp2
            go_ret
            exact ⟨rfl, HH.out.below b2, Kp.of_below b2 S⟩
    | true =>
      have hfb' := hfb
      simp only [flips, decide_eq_true_eq] at hfb'
      obtain ⟨k, rfl⟩ := Int.eq_ofNat_of_zero_le hfb'.1
      have e1 : s.flip no k x = (0, ⟨s.given, alter no (flipB t.1.data k x) s.fl⟩) := by unfold St.flip; rw [hfind]; simp [hfb]
      have hklt : k < t.1.data.length := by omega
      obtain ⟨i5, hi5, hy0, hy1, hy2⟩ := info_parts info5
      obtain ⟨db, hdb, hix, ⟨cur, hcur⟩, hcs⟩ := own_idx ho Try.underlying26 hi5 hy1 k hklt
      have v2 := hcs 0 (.int .u8 (rdI t.1.data k)) (by omega) (by simp [u8s, hklt, rdI_lt hklt])
      simp only [Nat.mul_one, Nat.add_zero] at v2 hix
      have hdbl := ho.lt db hdb
      have b3 : decide ((k : Int) < 0) = false := by simp
      have b4 : decide ((t.1.data.length : Int) ≤ (k : Int)) = false := by simp; omega
      have b5 : decide (x < 1) = false := by simp; omega
      have b6 : decide (255 < x) = false := by simp; omega
      have v3 : (w.alloc (.cells #[.int .i64 t.1.to, .slice dA t.1.data.length dc] 73)).cell? ⟨db, k, none⟩ = some (.int .u8 (rdI t.1.data k)) := (b2.cell hdbl.2).trans v2
      have z3 : (w.alloc (.cells #[.int .i64 t.1.to, .slice dA t.1.data.length dc] 73)).frozen? ⟨db, k, none⟩ = false := (b2.frozen hdbl.2).trans (frozen_at hcur k)
      have HO := Lib.hid (And.intro ho (And.intro hdb hcur))
      have HL := Lib.hid hL
      have E1 := Lib.hid e1
      have HD := Lib.hid hd
      clear e1 hfind hL htn hok hd ho hcs v2
      have n1 : ¬ db = w.heap.size := by omega
      rw [HD.out] at hix hlk ld od
      go_enter Try.func19, Try.ntmps19
      go_wp2
      go_ret
      rw [E1.out]
      obtain ⟨ho, hdb, hcur⟩ := HO.out
      have hv : bits .xor .u8 (rdI t.1.data k) x = xor8 (t.1.data.getD k 0) x := rfl
      rw [hv]
      have hSd : S db := hSt db hdb
      have K3 : Kp (fun i => i = db) w ((w.setCell ⟨db, k, none⟩ (.int .u8 (xor8 (t.1.data.getD k 0) x))).alloc (.cells #[.int .i64 t.1.to, .slice dA t.1.data.length dc] 73)) :=
        ((Kp.refl (fun i => i = db) w).setCell (p := ⟨db, k, none⟩) (Or.inl rfl) _).alloc _
      have hgd : ¬ g = db := fun e => by
        rw [e] at hg
        exact own_ne_type ho hg (by decide) hdb
      have hmd : ¬ m = db := fun e => by
        rw [e] at hM
        exact own_ne_map ho hM hdb
      have oD := own_below (own_set ho hdb k (by omega) (.int .u8 (xor8 (t.1.data.getD k 0) x))) ((Below.refl _ _).alloc (Nat.le_refl _) (.cells #[.int .i64 t.1.to, .slice dA t.1.data.length dc] 73))
      rw [u8s_set] at oD
      have eF : t.1.data.set k (xor8 (t.1.data.getD k 0) x) = flipB t.1.data k x := by simp [flipB]
      rw [eF] at oD
      have hlen2 : t.1.data.length = (flipB t.1.data k x).length := (flipB_len _ _ _).symm
      have hmm := alterT_mem (R := fun a b : Ent => ∀ k, a.2.1.ownBlock = some k → b.2.1.ownBlock ≠ some k) (d := flipB t.1.data k x) (fun a b h k hk e => h k e hk) hap HL.out
      have eS := alterT_snd no (flipB t.1.data k x) T
      refine ⟨rfl, ⟨m, clock, alterT no (flipB t.1.data k x) T, (K3.block g hgl hgd).trans hg, hS, hSm, ?_, by simp only; rw [← HT.out, alter_T], ?_, ?_, fun u hu => ?_, ?_⟩, K3.mono (fun i hi => by rw [hi]; exact hSd)⟩
      · rw [es_alter]
        exact (K3.block m hml hmd).trans hM
      · have : (T.map (·.2)).Pairwise (fun a b : Value × Nat => a.2 < b.2) := by rw [List.pairwise_map]; exact hst
        rw [← eS, List.pairwise_map] at this
        exact this
      · intro u hu
        have h1 : u.2 ∈ (alterT no (flipB t.1.data k x) T).map (·.2) := List.mem_map.2 ⟨u, hu, rfl⟩
        rw [eS] at h1
        obtain ⟨v, hv, e⟩ := List.mem_map.1 h1
        rw [← e]
        exact hcl v hv
      · rcases hmm u hu with rfl | ⟨huT, huR⟩
        · refine ⟨?_, isB_flip hBt _ _, hSt⟩
          simp only
          rw [← hlen2]
          exact oD
        · exact ⟨own_kp (hD u huT).1 K3 (fun i hi e => huR i hi (by rw [hdb, e])), (hD u huT).2⟩
      · have : (T.map (·.2)).Pairwise (fun a b : Value × Nat => ∀ k, a.1.ownBlock = some k → b.1.ownBlock ≠ some k) := by rw [List.pairwise_map]; exact hap
        rw [← eS, List.pairwise_map] at this
        exact this
end Go.Proofs.Ytpakocgbbggolaa
