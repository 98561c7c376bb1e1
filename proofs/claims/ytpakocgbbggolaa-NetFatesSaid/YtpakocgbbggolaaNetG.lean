import Derived.Test.YtpakocgbbggolaaNetF
set_option linter.unusedSimpArgs false
set_option linter.unusedVariables false
namespace Go.Proofs.Ytpakocgbbggolaa
open Go.RowKit Go.Proofs.Cul

theorem flCells_at : ∀ (fs : List Fl) (ds : List Value) (k : Nat) (hk : k < fs.length) (d : Value), ds.length = fs.length → ds[k]? = some d →
    (flCells fs ds)[k * 3]? = some (.int .i64 fs[k].no) ∧ (flCells fs ds)[k * 3 + 1]? = some (.int .i64 fs[k].to) ∧ (flCells fs ds)[k * 3 + 2]? = some d
  | [], _, k, hk, _, _, _ => by simp at hk
  | f :: fs, [], k, _, _, h, _ => by simp at h
  | f :: fs, e :: ds, 0, _, d, _, hd => by
    simp at hd
    subst hd
    simp [flCells]
  | f :: fs, e :: ds, k + 1, hk, d, h, hd => by
    have := flCells_at fs ds k (by simpa using hk) d (by simpa using h) (by simpa using hd)
    rw [show (k + 1) * 3 = k * 3 + 3 by omega]
    simpa [flCells] using this
theorem flCells_set : ∀ (fs : List Fl) (ds : List Value) (k : Nat) (hk : k < fs.length) (d : Value) (b : List Int), ds.length = fs.length →
    flCells (fs.set k ⟨fs[k].no, fs[k].to, b⟩) (ds.set k d) = (flCells fs ds).set (k * 3 + 2) d
  | [], _, k, hk, _, _, _ => by simp at hk
  | f :: fs, [], k, _, _, _, h => by simp at h
  | f :: fs, e :: ds, 0, _, d, b, h => by simp [flCells]
  | f :: fs, e :: ds, k + 1, hk, d, b, h => by
    have := flCells_set fs ds k (by simpa using hk) d b (by simpa using h)
    rw [show (k + 1) * 3 + 2 = k * 3 + 2 + 3 by omega]
    simp [flCells, this]

theorem zip_set {α β : Type} : ∀ (fs : List α) (ds : List β) (k : Nat) (a : α) (b : β), (fs.set k a).zip (ds.set k b) = (fs.zip ds).set k (a, b)
  | [], _, k, _, _ => by simp
  | f :: fs, [], k, _, _ => by simp
  | f :: fs, d :: ds, 0, _, _ => by simp
  | f :: fs, d :: ds, k + 1, a, b => by simp [zip_set fs ds k a b]
theorem u8s_set (xs : List Int) (m : Nat) (x : Int) : (u8s xs).set m (.int .u8 x) = u8s (xs.set m x) := by simp [u8s, List.map_set]
theorem isB_flip {xs : List Int} (h : IsB xs) (i x : Int) : IsB (flipB xs i x) := by
  intro y hy
  rcases List.mem_or_eq_of_mem_set hy with hy | rfl
  · exact h y hy
  · exact xor8_range _ _
theorem flipB_len (xs : List Int) (i x : Int) : (flipB xs i x).length = xs.length := by simp [flipB]

set_option maxRecDepth 100000 in
theorem refFlip_calls (w : World) (S : Nat → Prop) (g : Nat) (s : St) (h : RefP w S g s) (hok : ∀ f ∈ s.fl, f.data.length ≤ 1048576) (no at_ x : Int) :
    Calls Try.prog 31 #[.pointer (some ⟨g, 0, none⟩), .int .i64 no, .int .i64 at_, .int .i64 x] w fun e w' => e = .returned (.int .i64 (s.flip no at_ x).1) ∧
      RefP w' (Ext S w w') g (s.flip no at_ x).2 ∧ Kp S w w' := by
  have hp := place_calls _ S g s h no
  obtain ⟨L, ds, hg, hS, hL, ho, hl, hD⟩ := h
  have HH : Hid (RefP w S g s) := ⟨L, ds, hg, hS, hL, ho, hl, hD⟩
  have c0 : w.cell? ⟨g, 0, none⟩ = some L := cell_at hg 0
  have HL := Lib.hid hl
  clear hl
  have enter : ∀ Q : Prop, Q → Q := fun _ h => h
  by_cases hnone : find no s.fl = none
  · have e1 : s.flip no at_ x = (218, s) := by unfold St.flip; rw [hnone]
    rw [e1]
    have HN := Lib.hid hnone
    clear e1 hnone
    go_enter Try.func31, Try.ntmps31
    go_wp2_with fail
    refine hp.mono ?_
    clear hp
    rintro e w' ⟨i, rfl, hpl, rfl⟩
    rcases hpl with ⟨rfl, hf⟩ | ⟨k, hk, rfl, hf, hst, _⟩
    · have HF := Lib.hid hf
      clear hf
      go_wp2
      go_ret
      exact ⟨rfl, HH.out.ext _ _, Kp.refl _ _⟩
    · rw [HN.out] at hf
      cases hf
  · obtain ⟨i0, hi, hz0, hz1, hz2⟩ := info_parts info49
    by_cases hfl : ∃ f, find no s.fl = some f ∧ flips f.data at_ x = true
    · obtain ⟨f, hf0, hfb⟩ := hfl
      have hfb' := hfb
      simp only [flips, decide_eq_true_eq] at hfb'
      obtain ⟨m, rfl⟩ := Int.eq_ofNat_of_zero_le hfb'.1
      have e1 : s.flip no m x = (0, ⟨s.given, alter no (flipB f.data m x) s.fl⟩) := by unfold St.flip; rw [hf0]; simp [hfb]
      have E1 := Lib.hid e1
      have F0 := Lib.hid hf0
      clear e1 hf0 hnone
      go_enter Try.func31, Try.ntmps31
      go_wp2_with fail
      refine hp.mono ?_
      clear hp
      rintro e w' ⟨i, rfl, hpl, rfl⟩
      rcases hpl with ⟨rfl, hf⟩ | ⟨k, hk, rfl, hf, hst, hal⟩
      · rw [F0.out] at hf
        cases hf
      · rw [F0.out] at hf
        cases hf
        obtain ⟨gb, hLb, hix, ⟨cur, hcur⟩, hcs⟩ := own_idx ho Try.underlying41 hi hz1 k hk
        obtain ⟨d, hd⟩ : ∃ d, ds[k]? = some d := ⟨_, List.getElem?_eq_getElem (by rw [HL.out]; exact hk)⟩
        obtain ⟨q0, q1, q2⟩ := flCells_at s.fl ds k hk d HL.out hd
        have r2 := hcs 2 d (by omega) q2
        have hbd := hD (s.fl[k], d) (List.mem_of_getElem? (i := k) (by simp [List.getElem?_zip_eq_some, hk, hd]))
        have ld := lenB hbd
        have hlen := hok _ (List.getElem_mem hk)
        have hbc := bytes_calls d s.fl[k].data w _ hbd (by omega)
        obtain ⟨i5, hi5, hy0, hy1, hy2⟩ := info_parts info5
        have hmlt : m < s.fl[k].data.length := by omega
        have hgl := lt_of_heap hg
        have hgbl := lt_of_heap hcur
        have b1 : decide ((m : Int) < 0) = false := by simp
        have b2 : decide ((s.fl[k].data.length : Int) ≤ (m : Int)) = false := by simp; omega
        have b3 : decide (x < 1) = false := by simp; omega
        have b4 : decide (255 < x) = false := by simp; omega
        have HQ := Lib.hid (And.intro hd (And.intro hst hal))
        clear hst hal q0 q1 q2 hcs hd
        go_wp2_with fail
        refine hbc.mono ?_
        clear hbc
        rintro e w1 ⟨d', rfl, hd', hbw, _⟩
        obtain ⟨db, hdb, hix2, ⟨cur2, hcur2⟩, hcs2⟩ := own_idx hd' Try.underlying26 hi5 hy1 m hmlt
        have v2 := hcs2 0 (.int .u8 (rdI s.fl[k].data m)) (by omega) (by simp [u8s, hmlt, rdI_lt hmlt])
        simp only [Nat.mul_one, Nat.add_zero] at v2 hix2
        have z2 := frozen_at hcur2 m
        have hdbl := hd'.lt db hdb
        have bs := hbw.size
        have c01 : w1.cell? ⟨g, 0, none⟩ = some L := (hbw.cell hgl).trans c0
        have r21 : w1.cell? ⟨gb, k * 3 + 2, none⟩ = some d := (hbw.cell hgbl).trans r2
        have z3 : w1.frozen? ⟨gb, k * 3 + 2, none⟩ = false := (hbw.frozen hgbl).trans (frozen_at hcur _)
        have n1 : ¬ db = g := by omega
        have n2 : ¬ db = gb := by omega
        have od := own_one hd'
        clear hcs2 c0 r2
        go_wp2
        go_ret
        obtain ⟨hd, hst, hal⟩ := HQ.out
        rw [E1.out]
        refine ⟨rfl, ?_⟩
        have hv : bits .xor .u8 (rdI s.fl[k].data m) x = xor8 (s.fl[k].data.getD m 0) x := rfl
        rw [hv]
        have hSb : S gb := hL gb hLb
        have K3 : Kp S w ((w1.setCell ⟨db, m, none⟩ (.int .u8 (xor8 (s.fl[k].data.getD m 0) x))).setCell ⟨gb, k * 3 + 2, none⟩ d') :=
          ((Kp.of_below hbw S).setCell (p := ⟨db, m, none⟩) (Or.inr hdbl.1) _).setCell (p := ⟨gb, k * 3 + 2, none⟩) (Or.inl hSb) _
        have far : ∀ i, i < w.heap.size → i ≠ gb → ((w1.setCell ⟨db, m, none⟩ (.int .u8 (xor8 (s.fl[k].data.getD m 0) x))).setCell ⟨gb, k * 3 + 2, none⟩ d').heap[i]? = w.heap[i]? := fun i hi hig => by
          rw [Below.heap_setCell _ _ _ _ hig, Below.heap_setCell _ _ _ _ (by have := hdbl.1; show i ≠ db; omega)]
          exact hbw.block i hi
        have oL : (w1.setCell ⟨db, m, none⟩ (.int .u8 (xor8 (s.fl[k].data.getD m 0) x))).ownsRow 0 49 3 L s.fl.length (flCells s.fl ds) :=
          own_setCell (own_below ho hbw) (fun e => by rw [hLb] at e; cases e; exact n2 rfl) _
        have oL3 := own_set oL hLb (k * 3 + 2) (by omega) d'
        have oD := own_set hd' hdb m (by omega) (.int .u8 (xor8 (s.fl[k].data.getD m 0) x))
        rw [u8s_set] at oD
        have oD3 := own_setCell oD (p := ⟨gb, k * 3 + 2, none⟩) (fun e => by rw [hdb] at e; cases e; exact n2 rfl) d'
        have eF : s.fl[k].data.set m (xor8 (s.fl[k].data.getD m 0) x) = flipB s.fl[k].data m x := by simp [flipB]
        rw [eF] at oD3
        have hlen2 : s.fl[k].data.length = (flipB s.fl[k].data m x).length := (flipB_len _ _ _).symm
        rw [hlen2] at oD3
        refine ⟨⟨L, ds.set k d', (far g hgl (fun e => ?_)).trans hg, Or.inl hS, fun i hi => Or.inl (hL i hi), ?_, by rw [hal]; simp [HL.out], fun p hp => ?_⟩, K3⟩
        · rw [e, hcur] at hg
          cases hg
        · rw [hal, flCells_set _ _ _ hk _ _ HL.out]
          simpa using oL3
        · rw [hal, zip_set] at hp
          rcases List.mem_or_eq_of_mem_set hp with hp | rfl
          · refine ((hD p hp).bound.move (fun i hi hil => far i hi.2 (fun e => hi.1.2.2 (by rw [hLb, e])))).mono (fun i hi hil => ⟨Or.inl hi.1.1, hi.1.2⟩)
          · refine RB.of_own oD3 (isB_flip hbd.isB _ _) (fun i hi => ?_)
            rw [hdb] at hi
            cases hi
            refine ⟨Or.inr ⟨hdbl.1, by simpa using hdbl.2⟩, n1, fun e => ?_⟩
            rw [hLb] at e
            cases e
            exact n2 rfl
    · -- a flip that may not be
      have e1 : s.flip no at_ x = (2, s) := by
        unfold St.flip
        cases hf : find no s.fl with
        | none => exact absurd hf hnone
        | some f =>
          have : flips f.data at_ x = false := by
            cases hb : flips f.data at_ x
            · rfl
            · exact absurd ⟨f, hf, hb⟩ hfl
          simp [this]
      rw [e1]
      have HN := Lib.hid hnone
      have HFL := Lib.hid hfl
      clear e1 hnone hfl
      go_enter Try.func31, Try.ntmps31
      go_wp2_with fail
      refine hp.mono ?_
      clear hp
      rintro e w' ⟨i, rfl, hpl, rfl⟩
      rcases hpl with ⟨rfl, hf⟩ | ⟨k, hk, rfl, hf, hst, _⟩
      · exact absurd hf HN.out
      · obtain ⟨gb, hLb, hix, ⟨cur, hcur⟩, hcs⟩ := own_idx ho Try.underlying41 hi hz1 k hk
        obtain ⟨d, hd⟩ : ∃ d, ds[k]? = some d := ⟨_, List.getElem?_eq_getElem (by rw [HL.out]; exact hk)⟩
        obtain ⟨q0, q1, q2⟩ := flCells_at s.fl ds k hk d HL.out hd
        have r2 := hcs 2 d (by omega) q2
        have hbd := hD (s.fl[k], d) (List.mem_of_getElem? (i := k) (by simp [List.getElem?_zip_eq_some, hk, hd]))
        have ld := lenB hbd
        have hno : flips s.fl[k].data at_ x = false := by
          cases hb : flips s.fl[k].data at_ x
          · rfl
          · exact absurd ⟨_, hf, hb⟩ HFL.out
        simp only [flips, decide_eq_false_iff_not] at hno
        have HF := Lib.hid hf
        clear hf hst q0 q1 q2 hcs hd hbd
        by_cases t1 : at_ < 0
        · have b1 : decide (at_ < 0) = true := by simpa using t1
          go_wp2
          go_ret
          exact ⟨rfl, HH.out.ext _ _, Kp.refl _ _⟩
        · have b1 : decide (at_ < 0) = false := by simpa using t1
          by_cases t2 : (s.fl[k].data.length : Int) ≤ at_
          · have b2 : decide ((s.fl[k].data.length : Int) ≤ at_) = true := by simpa using t2
            go_wp2
            go_ret
            exact ⟨rfl, HH.out.ext _ _, Kp.refl _ _⟩
          · have b2 : decide ((s.fl[k].data.length : Int) ≤ at_) = false := by simpa using t2
            by_cases t3 : x < 1
            · have b3 : decide (x < 1) = true := by simpa using t3
              go_wp2
              go_ret
              exact ⟨rfl, HH.out.ext _ _, Kp.refl _ _⟩
            · have b3 : decide (x < 1) = false := by simpa using t3
              have t4 : 255 < x := by omega
              have b4 : decide (255 < x) = true := by simpa using t4
              go_wp2
              go_ret
              exact ⟨rfl, HH.out.ext _ _, Kp.refl _ _⟩
end Go.Proofs.Ytpakocgbbggolaa
