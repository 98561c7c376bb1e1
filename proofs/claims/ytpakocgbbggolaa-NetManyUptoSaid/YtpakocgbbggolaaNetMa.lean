import Derived.Test.YtpakocgbbggolaaNetZa
import Derived.IntWalk
set_option linter.unusedSimpArgs false
set_option linter.unusedVariables false
namespace Go.Proofs.Ytpakocgbbggolaa
open Go.RowKit Go.Proofs.Cul Go.ChangeMaps

/-- Pairs side by side, apart from X. -/
def Fam (B : Nat) (w : World) (ps : List Nat) (n : Int) (X : Nat → Prop) : Prop :=
  ∃ (U : Nat → Nat → Prop) (S : Nat → St) (L : Nat → Bool), (∀ i p, ps[i]? = some p → PairP w (U i) p (S i) (L i) ∧ Good (S i) n ∧ ∀ k, U i k → B ≤ k ∧ k < w.heap.size ∧ ¬ X k) ∧
    ∀ i j, i < ps.length → j < ps.length → i ≠ j → ∀ k, U i k → ¬ U j k
theorem Fam.nil (B : Nat) (w : World) (n : Int) (X : Nat → Prop) : Fam B w [] n X := ⟨fun _ _ => False, fun _ => St.new, fun _ => false, fun i p h => by simp at h, fun i j h => by simp at h⟩
theorem Fam.kp {B : Nat} {w w' : World} {ps : List Nat} {n : Int} {X Y T : Nat → Prop} (h : Fam B w ps n X) (k : Kp T w w') (hT : ∀ i, T i → X i ∨ w.heap.size ≤ i) (hY : ∀ i, Y i → X i ∨ w.heap.size ≤ i) : Fam B w' ps n Y := by
  obtain ⟨U, S, L, h1, h2⟩ := h
  refine ⟨U, S, L, fun i p hp => ?_, h2⟩
  obtain ⟨a, b, c⟩ := h1 i p hp
  refine ⟨a.kp k (fun x hx e => ?_), b, fun x hx => ⟨(c x hx).1, Nat.lt_of_lt_of_le (c x hx).2.1 k.size, fun e => ?_⟩⟩
  · rcases hT x e with h | h
    · exact (c x hx).2.2 h
    · have := (c x hx).2.1
      omega
  · rcases hY x e with h | h
    · exact (c x hx).2.2 h
    · have := (c x hx).2.1
      omega
theorem Fam.add {B : Nat} {w w' : World} {ps : List Nat} {n : Int} {X : Nat → Prop} (h : Fam B w ps n X) (hn : 0 ≤ n) (hB : B ≤ w.heap.size) (hX : ∀ k, X k → k < w.heap.size) {p : Nat} (hp : PairP w' (New w.heap.size w') p St.new false) (b : Below w.heap.size w w') : Fam B w' (ps ++ [p]) n X := by
  obtain ⟨U, S, L, h1, h2⟩ := h
  refine ⟨fun i => if i < ps.length then U i else New w.heap.size w', fun i => if i < ps.length then S i else St.new, fun i => if i < ps.length then L i else false, fun i q hq => ?_, fun i j hi hj hij k hk e => ?_⟩
  · by_cases hi : i < ps.length
    · simp only [hi, if_true]
      rw [List.getElem?_append_left hi] at hq
      obtain ⟨a, c, d⟩ := h1 i q hq
      exact ⟨a.below b, c, fun k hk => ⟨(d k hk).1, Nat.lt_of_lt_of_le (d k hk).2.1 b.size, (d k hk).2.2⟩⟩
    · simp only [hi, if_false]
      have hl : i = ps.length := by
        have := (List.getElem?_eq_some_iff.1 hq).1
        simp at this
        omega
      subst hl
      simp at hq
      subst hq
      exact ⟨hp, good_new.more hn, fun k hk => ⟨Nat.le_trans hB hk.1, hk.2, fun e => by have := hX k e; have := hk.1; omega⟩⟩
  · simp only [List.length_append, List.length_singleton] at hi hj
    by_cases h3 : i < ps.length
    · simp only [h3, if_true] at hk
      obtain ⟨p3, hp3⟩ : ∃ p, ps[i]? = some p := ⟨_, List.getElem?_eq_getElem h3⟩
      have hlt := ((h1 i p3 hp3).2.2 k hk).2.1
      by_cases h4 : j < ps.length
      · simp only [h4, if_true] at e
        exact h2 i j h3 h4 hij k hk e
      · simp only [h4, if_false] at e
        have := e.1
        omega
    · simp only [h3, if_false] at hk
      have h4 : j < ps.length := by omega
      simp only [h4, if_true] at e
      obtain ⟨p3, hp3⟩ : ∃ p, ps[j]? = some p := ⟨_, List.getElem?_eq_getElem h4⟩
      have hlt := ((h1 j p3 hp3).2.2 k e).2.1
      have := hk.1
      omega
theorem Fam.plays {B : Nat} {w : World} {ps : List Nat} {n : Int} {X : Nat → Prop} (h : Fam B w ps n X) (hB : B ≤ w.heap.size) (hX : ∀ k, X k → k < w.heap.size) (hgn : n ≤ 4611686018427380000) {i p : Nat} (hp : ps[i]? = some p) (kind no at_ to_ x : Int) (sec : Bool) (A : Option Addr) (c : Nat) (xs : List Int)
    (hb : RB w (fun k => k < B) (.slice A xs.length c) xs) :
    Calls Try.prog 10 #[.pointer (some ⟨p, 0, none⟩), opV kind sec to_ no x at_ (.slice A xs.length c)] w fun e w' => e = .returned (.bool true) ∧ Fam B w' ps (n + 1026) X ∧ Below B w w' ∧ Kp (fun k => ¬ X k) w w' := by
  obtain ⟨U, S, L, h1, h2⟩ := h
  obtain ⟨a, c1, d⟩ := h1 i p hp
  refine (plays_calls w (U i) _ p (S i) (L i) a (fun k hk => (d k hk).2.1) n c1 hgn kind no at_ to_ x sec A c xs hb (fun k hk => ⟨fun e => by have := (d k e).1; have hk : k < B := hk; omega, by have hk : k < B := hk; omega⟩)).mono ?_
  rintro e w' ⟨s', l', g1, rfl, g2, g3⟩
  have hz := g3.size
  have hil : i < ps.length := (List.getElem?_eq_some_iff.1 hp).1
  refine ⟨rfl, ⟨fun j => if j = i then Ext (U i) w w' else U j, fun j => if j = i then s' else S j, fun j => if j = i then l' else L j, fun j q hq => ?_, fun j j' hj hj' hjj k hk e => ?_⟩, Kp.belowB g3 hB (fun k hk => (d k hk).1), g3.mono (fun k hk => (d k hk).2.2)⟩
  · by_cases hj : j = i
    · subst hj
      simp only [if_true]
      rw [hp] at hq
      cases hq
      refine ⟨g2, g1, fun k hk => ?_⟩
      rcases hk with hk | hk
      · exact ⟨(d k hk).1, Nat.lt_of_lt_of_le (d k hk).2.1 hz, (d k hk).2.2⟩
      · exact ⟨Nat.le_trans hB hk.1, hk.2, fun e => by have := hX k e; omega⟩
    · simp only [hj, if_false]
      obtain ⟨a', c', d'⟩ := h1 j q hq
      exact ⟨a'.kp g3 (fun k hk e => h2 j i (List.getElem?_eq_some_iff.1 hq).1 hil hj k hk e), c'.more (by omega), fun k hk => ⟨(d' k hk).1, Nat.lt_of_lt_of_le (d' k hk).2.1 hz, (d' k hk).2.2⟩⟩
  · by_cases h3 : j = i
    · subst h3
      simp only [if_true] at hk
      have h4 : ¬ j' = j := fun e => hjj e.symm
      simp only [h4, if_false] at e
      rcases hk with hk | hk
      · exact h2 j j' hj hj' hjj k hk e
      · obtain ⟨p3, hp3⟩ : ∃ p, ps[j']? = some p := ⟨_, List.getElem?_eq_getElem hj'⟩
        have := ((h1 j' p3 hp3).2.2 k e).2.1
        omega
    · simp only [h3, if_false] at hk
      by_cases h4 : j' = i
      · subst h4
        simp only [if_true] at e
        rcases e with e | e
        · exact h2 j j' hj hj' hjj k hk e
        · obtain ⟨p3, hp3⟩ : ∃ p, ps[j]? = some p := ⟨_, List.getElem?_eq_getElem hj⟩
          have := ((h1 j p3 hp3).2.2 k hk).2.1
          omega
      · simp only [h4, if_false] at e
        exact h2 j j' hj hj' hjj k hk e
theorem Fam.under {B : Nat} {w : World} {ps : List Nat} {n : Int} {X : Nat → Prop} (h : Fam B w ps n X) (hgn : n ≤ 4611686018427380000) {i p : Nat} (hp : ps[i]? = some p) :
    Calls Try.prog 11 #[.pointer (some ⟨p, 0, none⟩)] w fun e w' => e = .returned (.bool true) ∧ Below w.heap.size w w' := by
  obtain ⟨U, S, L, h1, h2⟩ := h
  obtain ⟨a, c1, d⟩ := h1 i p hp
  exact pairUnder_calls w (U i) p (S i) (L i) a c1.len' c1.ok (by have := c1.giv; omega)

/-- The list of the pairs. -/
def ptrs (ps : List Nat) : List Value := ps.map fun p => .pointer (some ⟨p, 0, none⟩)
theorem infoPair : (Try.prog.info? 24).map (fun i => (i.zero, i.size, i.bytes)) = some (some (.pointer none), 1, 8) := by kernel_rfl
theorem rowTPair : RowT Try.prog 44 24 1 8 := ⟨Try.underlying44, by obtain ⟨i0, hi, hz0, hz1, hz2⟩ := info_parts infoPair; exact ⟨i0, _, hi, hz0, hz1, hz2, rfl⟩, by decide⟩
theorem ptrs_get (ps : List Nat) (i : Nat) (p : Nat) (h : ps[i]? = some p) : (ptrs ps)[i]? = some (.pointer (some ⟨p, 0, none⟩)) := by simp [ptrs, h]
theorem lenPairs {w : World} {base : Nat} {l : Value} {ps : List Nat} (h : w.ownsRow base 24 1 l ps.length (ptrs ps)) (i : Nat) (p : Nat) (hp : ps[i]? = some p) :
    ∃ a : Addr, (∀ W : World, (Instr.indexAt 44 l (.int .i64 (i : Int))).run Try.prog W = .ok (.pointer (some a)) W) ∧ w.cell? a = some (.pointer (some ⟨p, 0, none⟩)) ∧ l.ownBlock = some a.block := by
  obtain ⟨i5, hi5, hy0, hy1, hy2⟩ := info_parts infoPair
  obtain ⟨gb, hgb, hix, _, hcs⟩ := own_idx h Try.underlying44 hi5 hy1 i (List.getElem?_eq_some_iff.1 hp).1
  have := hcs 0 _ (by omega) (by simpa using ptrs_get ps i p hp)
  exact ⟨⟨gb, i, none⟩, by simpa using hix, by simpa using this, hgb⟩

set_option maxHeartbeats 1000000 in
set_option maxRecDepth 100000 in
theorem netMany_calls (w : World) (v : Value) (os : List Opx) (h : RO w (fun k => k < w.heap.size) v os) :
    Calls Try.prog 5 #[v] w fun e w' => e = .returned (.bool true) ∧ Below w.heap.size w w' := by
  have hk := known_calls w
  have lo := lenO h
  have hle := RRow.le h
  have HO := Lib.hid h
  clear h
  go_enter Try.func5, Try.ntmps5
  go_wp2_with fail
  refine hk.mono ?_
  clear hk
  rintro e w0 ⟨rfl, hb0⟩
  have HB := Lib.hid hb0
  clear hb0
  go_wp2_with fail
  go_loopw [3, 4] (fun l' i wr => ∃ (k : Nat) (ps : List Nat), k ≤ 20 ∧ i = .int .i64 k ∧ ps.length = k ∧ wr.ownsRow w0.heap.size 24 1 l' ps.length (ptrs ps) ∧ Fam w0.heap.size wr ps 0 (fun b => l'.ownBlock = some b) ∧ Below w0.heap.size w0 wr) (fun _ i _ => 20 - (intOf i).toNat)
  case atStart => exact ⟨0, [], by omega, rfl, rfl, World.ownsRow_nil _ _ _ _, Fam.nil _ _ _ _, Below.refl _ _⟩
  case round =>
    obtain ⟨k, ps, hk, rfl, hpl, hor, hfam, hbr⟩ := hrel
    by_cases hlt : k < 20
    · have b1 : decide ((k : Int) < 20) = true := by simp; omega
      have hc := begin_calls wr
      have HF := Lib.hid (And.intro hfam (And.intro hbr (And.intro hor hpl)))
      clear hfam hbr hor hpl
      go_wp2_with fail
      refine hc.mono ?_
      clear hc
      rintro e w1 ⟨p, rfl, hp1, hb1⟩
      have ho1 := own_below HF.out.2.2.1 hb1
      have s1 : Src (w1.alloc (.cells #[.pointer (some ⟨p, 0, none⟩)] 24)) (.slice (some ⟨w1.heap.size, 0, none⟩) 1 1) 1 1 [.pointer (some ⟨p, 0, none⟩)] := Src.alloc rfl (by simp [Value.oneCell'])
      have ho2 := own_below ho1 ((Below.refl w1.heap.size w1).alloc (Nat.le_refl _) (.cells #[.pointer (some ⟨p, 0, none⟩)] 24))
      have hpl2 : ps.length ≤ 20 := by have := HF.out.2.2.2; omega
      have bsz : w0.heap.size ≤ w1.heap.size := by have := HF.out.2.1.size; have := hb1.size; omega
      have H1 := Lib.hid (And.intro hp1 hb1)
      clear hp1 hb1 ho1
      go_wp2_with (at_builtin; refine wpList_append_src rfl _ _ rowTPair rfl rfl ho2 rfl s1 ?c4 ?c3 (by simp; omega) ?_)
      case c4 => omega
      case c3 => unfold maxLen; omega
      intro v' w2 ho' hg' _ hat
      have HA := Lib.hid (And.intro ho' (And.intro hg' hat))
      clear ho' hg' hat ho2 s1
      go_wp2_with fail
      go_roundw
      case rel =>
        refine ⟨k + 1, ps ++ [p], by omega, by go_num, by simp; exact HF.out.2.2.2, ?_, ?_, ?_⟩
        · have := HA.out.1
          rw [List.length_append, List.length_singleton]
          rw [show ptrs (ps ++ [p]) = ptrs ps ++ [.pointer (some ⟨p, 0, none⟩)] by simp [ptrs]]
          exact this
        · have hX : ∀ b, u3.ownBlock = some b → b < wr.heap.size := fun b hb => (HF.out.2.2.1.lt b hb).2
          have f1 := HF.out.1.add (Int.le_refl 0) HF.out.2.1.size hX H1.out.1 H1.out.2
          have K : Kp (fun b => u3.ownBlock = some b) w1 w2 := ((Kp.refl _ w1).alloc _).grown HA.out.2.1 (fun b hb => Or.inl hb)
          refine f1.kp K (fun i hi => Or.inl hi) (fun i hi => ?_)
          rcases HA.out.2.2 with e | e
          · exact Or.inl (by rw [← e]; exact hi)
          · rw [hi] at e
            simp at e
            exact Or.inr (by omega)
        · have K : Kp (fun b => w0.heap.size ≤ b) w1 w2 := ((Kp.refl _ w1).alloc _).grown HA.out.2.1 (fun b hb => Or.inl (HF.out.2.2.1.lt b hb).1)
          exact (HF.out.2.1.trans (H1.out.2.mono HF.out.2.1.size)).trans (Kp.belowB K bsz (fun _ h => h))
      case measure => simp [intOf]; omega
    · have hkk : k = 20 := by omega
      have b1 : decide ((k : Int) < 20) = false := by simp; omega
      obtain ⟨wa, hwa⟩ : ∃ wa : World, wa = wr := ⟨_, rfl⟩
      subst hwa
      have hX : ∀ b, u3.ownBlock = some b → b < wa.heap.size := fun b hb => (hor.lt b hb).2
      have HX := Lib.hid (And.intro hX (And.intro hor hbr))
      have hpp : ps.length = 20 := hpl.trans hkk
      have lp : ∀ i : Nat, i < 20 → ∃ p, ps[i]? = some p := fun i hi => ⟨_, List.getElem?_eq_getElem (by omega)⟩
      have LP := Lib.hid lp
      have HPL := Lib.hid hpl
      have hkk' := Lib.hid hkk
      clear hX lp hpp hor hbr hpl hkk
      go_wp2_with fail
      go_loopw [6] (fun i wr => ∃ k : Nat, k ≤ os.length ∧ k ≤ 2000 ∧ i = .int .i64 k ∧ Fam w0.heap.size wr ps (1026 * k) (fun b => u3.ownBlock = some b) ∧ Below w0.heap.size w0 wr ∧ Kp (fun b => ¬ u3.ownBlock = some b) wa wr) (fun i _ => os.length - (intOf i).toNat)
      case atStart => exact ⟨0, Nat.zero_le _, by omega, rfl, by simpa using hfam, HX.out.2.2, Kp.refl _ _⟩
      case round =>
        obtain ⟨k2, hk, hk3, rfl, hfr, hbr, hkr⟩ := hrel
        have hor := own_kp HX.out.2.1 hkr (fun i hi e => e hi)
        have ho : RO wr (fun k => k < w.heap.size) v os := HO.out.move (fun i hi _ => by
          rw [hbr.block i (by have := HB.out.size; omega), HB.out.block i hi])
        by_cases hlt : k2 < os.length
        · by_cases h3 : k2 < 2000
          · have b1 : decide ((k2 : Int) < (os.length : Int)) = true := by simp; omega
            have b2 : decide ((k2 : Int) < 2000) = true := by simp; omega
            obtain ⟨q, A, c, hq, hqS, hql, hcs, hrb⟩ := idxO ho k2 hlt
            have q0 := hcs.at0
            have q1 := hcs.off 0 rfl
            have q2 := hcs.off 1 rfl
            have q3 := hcs.off 2 rfl
            have q4 := hcs.off 3 rfl
            have q5 := hcs.off 4 rfl
            have q6 := hcs.off 5 rfl
            simp only [Nat.reduceAdd] at q1 q2 q3 q4 q5 q6
            by_cases hk7 : os[k2].kind = 7
            · have e7 : (os[k2].kind == 7) = true := by simpa using hk7
              have HE := Lib.hid (And.intro hfr (And.intro hbr hkr))
              clear hfr hbr hkr hor ho hcs hrb hk7 hfam
              go_wp2_with fail
              go_roundw
              case rel => exact ⟨k2 + 1, by omega, by omega, by go_num, by
                obtain ⟨U, S, L, g1, g2⟩ := HE.out.1
                exact ⟨U, S, L, fun i p hp => ⟨(g1 i p hp).1, (g1 i p hp).2.1.more (by omega), (g1 i p hp).2.2⟩, g2⟩, HE.out.2.1, HE.out.2.2⟩
              case measure => simp [intOf]; omega
            · have e7 : (os[k2].kind == 7) = false := by simpa using hk7
              obtain ⟨p, hp⟩ := LP.out ((3 * k2) % 20) (Nat.mod_lt _ (by omega))
              obtain ⟨ad, had, hca, _⟩ := lenPairs hor _ p hp
              have hfd : Fam w0.heap.size wr.drew ps (1026 * k2) (fun b => u3.ownBlock = some b) := hfr.kp (T := fun _ => False) ((Kp.refl _ _).drew) (fun _ h => h.elim) (fun i hi => Or.inl hi)
              have hc := hfd.plays (by have := hbr.size; simpa using this) (fun i hi => Nat.lt_of_lt_of_le (HX.out.1 i hi) hkr.size) (by omega) hp os[k2].kind os[k2].no os[k2].at_ os[k2].to_ os[k2].x os[k2].sec A c os[k2].data ((hrb.below ((Below.refl _ _).drew)).mono (fun i hi _ => by have := HB.out.size; omega))
              have ecast : (((3 * k2) % 20 : Nat) : Int) = (3 * (k2 : Int)) % 20 := by omega
              rw [ecast] at had
              have m1 : IntKind.i64.wrap (3 * (k2 : Int)) = 3 * (k2 : Int) := IntWalk.i64_in _ (by omega)
              have m2 : (3 * (k2 : Int)).tmod 20 = 3 * (k2 : Int) % 20 := Int.tmod_eq_emod_of_nonneg (by omega)
              have HE := Lib.hid (And.intro hfr (And.intro hbr hkr))
              clear hfr hbr hkr hor ho hcs hrb hk7 hfd ecast hp hfam
              go_wp2_with fail
              go_still_tail 10, (by kernel_rfl)
              change wpList _ _ _ _ _ wr.drew
              go_wp2_with fail
              refine hc.mono ?_
              clear hc
              rintro e w' ⟨rfl, hf', hb', hk'⟩
              have HG := Lib.hid (And.intro hf' (And.intro hb' hk'))
              clear hf' hb' hk' hca q0 q1 q2 q3 q4 q5 q6
              go_wp2_with fail
              go_roundw
              case rel => exact ⟨k2 + 1, by omega, by omega, by go_num, by
                have := HG.out.1
                rwa [show (1026 * ((k2 + 1 : Nat) : Int)) = 1026 * (k2 : Int) + 1026 by omega], HE.out.2.1.trans ((((Below.refl wr.heap.size wr).drew).mono (by have := HE.out.2.1.size; omega)).trans HG.out.2.1), (HE.out.2.2.drew).then_ HG.out.2.2⟩
              case measure => simp [intOf]; omega
          · have b1 : decide ((k2 : Int) < (os.length : Int)) = true := by simp; omega
            have b2 : decide ((k2 : Int) < 2000) = false := by simp; omega
            have HE := Lib.hid (And.intro hfr (And.intro hbr (And.intro hor hkr)))
            clear hfr hbr hor hkr ho hfam
            obtain ⟨wb, hwb⟩ : ∃ wb : World, wb = wr := ⟨_, rfl⟩
            subst hwb
            go_wp2_with fail
            go_loopw [8] (fun i wr => ∃ j : Nat, j ≤ 20 ∧ i = .int .i64 j ∧ Below wb.heap.size wb wr) (fun i _ => 20 - (intOf i).toNat)
            case atStart => exact ⟨0, by omega, rfl, Below.refl _ _⟩
            case round =>
              obtain ⟨j, hj, rfl, hbj⟩ := hrel
              by_cases hlt : j < 20
              · have d1 : decide ((j : Int) < 20) = true := by simp; omega
                obtain ⟨p, hp⟩ := LP.out j hlt
                have hoj := own_below HE.out.2.2.1 hbj
                obtain ⟨ad, had, hca, _⟩ := lenPairs hoj j p hp
                have hc := (HE.out.1.kp (Y := fun b => u3.ownBlock = some b) (T := fun _ => False) (Kp.of_below hbj _) (fun _ h => h.elim) (fun i hi => Or.inl hi)).under (by omega) hp
                have HJ := Lib.hid hbj
                clear hbj hoj hp
                go_wp2_with fail
                refine hc.mono ?_
                clear hc
                rintro e w' ⟨rfl, hb'⟩
                have HBB := Lib.hid hb'
                clear hb' hca
                go_wp2_with fail
                go_roundw
                case rel => exact ⟨j + 1, by omega, by go_num, HJ.out.trans (HBB.out.mono HJ.out.size)⟩
                case measure => simp [intOf]; omega
              · have d1 : decide ((j : Int) < 20) = false := by simp; omega
                have HJ := Lib.hid hbj
                clear hbj
                go_wp2_with fail
                go_ret
                have z1 := HB.out.size
                have z2 := HE.out.2.1.size
                exact ⟨rfl, (HB.out.trans (HE.out.2.1.mono z1)).trans (HJ.out.mono (by omega))⟩
            
        · have b1 : decide ((k2 : Int) < (os.length : Int)) = false := by simp; omega
          have HE := Lib.hid (And.intro hfr (And.intro hbr (And.intro hor hkr)))
          clear hfr hbr hor hkr ho hfam
          obtain ⟨wb, hwb⟩ : ∃ wb : World, wb = wr := ⟨_, rfl⟩
          subst hwb
          go_wp2_with fail
          go_loopw [8] (fun i wr => ∃ j : Nat, j ≤ 20 ∧ i = .int .i64 j ∧ Below wb.heap.size wb wr) (fun i _ => 20 - (intOf i).toNat)
          case atStart => exact ⟨0, by omega, rfl, Below.refl _ _⟩
          case round =>
            obtain ⟨j, hj, rfl, hbj⟩ := hrel
            by_cases hlt : j < 20
            · have d1 : decide ((j : Int) < 20) = true := by simp; omega
              obtain ⟨p, hp⟩ := LP.out j hlt
              have hoj := own_below HE.out.2.2.1 hbj
              obtain ⟨ad, had, hca, _⟩ := lenPairs hoj j p hp
              have hc := (HE.out.1.kp (Y := fun b => u3.ownBlock = some b) (T := fun _ => False) (Kp.of_below hbj _) (fun _ h => h.elim) (fun i hi => Or.inl hi)).under (by omega) hp
              have HJ := Lib.hid hbj
              clear hbj hoj hp
              go_wp2_with fail
              refine hc.mono ?_
              clear hc
              rintro e w' ⟨rfl, hb'⟩
              have HBB := Lib.hid hb'
              clear hb' hca
              go_wp2_with fail
              go_roundw
              case rel => exact ⟨j + 1, by omega, by go_num, HJ.out.trans (HBB.out.mono HJ.out.size)⟩
              case measure => simp [intOf]; omega
            · have d1 : decide ((j : Int) < 20) = false := by simp; omega
              have HJ := Lib.hid hbj
              clear hbj
              go_wp2_with fail
              go_ret
              have z1 := HB.out.size
              have z2 := HE.out.2.1.size
              exact ⟨rfl, (HB.out.trans (HE.out.2.1.mono z1)).trans (HJ.out.mono (by omega))⟩
          
end Go.Proofs.Ytpakocgbbggolaa
