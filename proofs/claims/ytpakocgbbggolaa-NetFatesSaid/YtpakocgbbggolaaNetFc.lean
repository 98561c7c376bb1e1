import Derived.Test.YtpakocgbbggolaaNetFl
set_option linter.unusedSimpArgs false
set_option linter.unusedVariables false
namespace Go.Proofs.Ytpakocgbbggolaa
open Go.RowKit Go.Proofs.Cul Go.ChangeMaps

/-- Those that are here. -/
def sel : List (Fl × Value) → List Bool → List (Fl × Value)
  | e :: E, b :: hs => if b then e :: sel E hs else sel E hs
  | _, _ => []
theorem sel_here : ∀ (E : List (Fl × Value)) (hs : List Bool), E.length = hs.length → (sel E hs).map (·.1) = hereOf ((E.map (·.1)).zip hs)
  | [], [], _ => rfl
  | [], b :: hs, h => by simp at h
  | e :: E, [], h => by simp at h
  | e :: E, b :: hs, h => by
    have := sel_here E hs (by simpa using h)
    cases b <;> simp [sel, hereOf, this]
theorem sel_snoc : ∀ (E : List (Fl × Value)) (hs : List Bool) (e : Fl × Value) (b : Bool), E.length = hs.length → sel (E ++ [e]) (hs ++ [b]) = sel E hs ++ if b then [e] else []
  | [], [], e, b, _ => by cases b <;> simp [sel]
  | [], c :: hs, e, b, h => by simp at h
  | a :: E, [], e, b, h => by simp at h
  | a :: E, c :: hs, e, b, h => by
    have := sel_snoc E hs e b (by simpa using h)
    cases c <;> simp [sel, this]
theorem sel_mem : ∀ {E : List (Fl × Value)} {hs : List Bool} {e : Fl × Value}, e ∈ sel E hs → e ∈ E
  | [], _, e, h => by cases h
  | a :: E, [], e, h => by simp [sel] at h
  | a :: E, c :: hs, e, h => by
    cases c
    · simp only [sel, Bool.false_eq_true, if_false] at h
      exact List.mem_cons_of_mem _ (sel_mem h)
    · simp only [sel, if_true, List.mem_cons] at h
      rcases h with rfl | h
      · exact List.mem_cons_self
      · exact List.mem_cons_of_mem _ (sel_mem h)
theorem sel_len : ∀ (E : List (Fl × Value)) (hs : List Bool), (sel E hs).length ≤ E.length
  | [], _ => by simp [sel]
  | a :: E, [] => by simp [sel]
  | a :: E, c :: hs => by
    have := sel_len E hs
    cases c <;> simp [sel] <;> omega
/-- An own row of flags: an index. -/
theorem ownH_idx {w : World} {base : Nat} {v : Value} {hs : List Bool} (h : w.ownsRow base 4 1 v hs.length (bools hs)) (k : Nat) (hk : k < hs.length) :
    ∃ gb, v.ownBlock = some gb ∧ (∀ W : World, (Instr.indexAt 46 v (.int .i64 (k : Int))).run Try.prog W = .ok (.pointer (some ⟨gb, k, none⟩)) W) ∧ w.frozen? ⟨gb, k, none⟩ = false ∧ w.cell? ⟨gb, k, none⟩ = some (.bool hs[k]) := by
  obtain ⟨i5, hi5, hy0, hy1, hy2⟩ := info_parts infoBool
  obtain ⟨gb, hgb, hix, ⟨cur, hcur⟩, hcs⟩ := own_idx h Try.underlying46 hi5 hy1 k hk
  have v2 := hcs 0 (.bool hs[k]) (by omega) (by simp [bools, hk])
  simp only [Nat.mul_one, Nat.add_zero] at v2 hix
  exact ⟨gb, hgb, hix, frozen_at hcur k, v2⟩

theorem flCells_get (E : List (Fl × Value)) (k : Nat) (f : Fl) (d : Value) (h : E[k]? = some (f, d)) (j : Nat) (u : Value) (hj : [Value.int .i64 f.no, .int .i64 f.to, d][j]? = some u) : (flCells (E.map (·.1)) (E.map (·.2)))[k * 3 + j]? = some u := by
  have hk := (List.getElem?_eq_some_iff.1 h).1
  rw [← List.getElem?_drop, flCells_drop k _ _ (by simp)]
  have e1 : (E.map (·.1)).drop k = f :: (E.map (·.1)).drop (k + 1) := by
    rw [List.drop_eq_getElem_cons (by simpa using hk)]
    simp [(List.getElem?_eq_some_iff.1 h).2]
  have e2 : (E.map (·.2)).drop k = d :: (E.map (·.2)).drop (k + 1) := by
    rw [List.drop_eq_getElem_cons (by simpa using hk)]
    simp [(List.getElem?_eq_some_iff.1 h).2]
  rw [e1, e2, flCells]
  have hj3 : j < 3 := (List.getElem?_eq_some_iff.1 hj).1
  rw [List.getElem?_append_left hj3]
  exact hj
/-- An entry of the book. -/
theorem FM.entry {B : Nat} {w : World} {g : Nat} {s : St} {L H : Value} {E : List (Fl × Value)} {hs : List Bool} {S : Nat → Prop} (h : FM B w g s L H E hs S) {k : Nat} {f : Fl} {d : Value} (he : E[k]? = some (f, d)) :
    ∃ q : Addr, L.ownBlock = some q.block ∧ (∀ W : World, (Instr.indexAt 41 L (.int .i64 (k : Int))).run Try.prog W = .ok (.pointer (some q)) W) ∧ Cells w q [.int .i64 f.no, .int .i64 f.to, d] ∧ (∃ A c, d = .slice A f.data.length c) ∧ RB w (fun k => XB L H E k) d f.data := by
  obtain ⟨i5, hi5, hy0, hy1, hy2⟩ := info_parts info49
  obtain ⟨gb, hgb, hix, _, hcs⟩ := own_idx h.rowL Try.underlying41 hi5 hy1 k (List.getElem?_eq_some_iff.1 he).1
  have hm := List.mem_of_getElem? he
  have ho := (h.data _ hm).1
  refine ⟨⟨gb, k * 3, none⟩, hgb, hix, fun j u hu => ?_, own_slice ho, RB.of_own ho (h.data _ hm).2 (fun i hi => Or.inr (Or.inr ⟨_, hm, hi⟩))⟩
  have hj3 : j < 3 := (List.getElem?_eq_some_iff.1 hu).1
  have := hcs j u hj3 (flCells_get E k f d he j u hu)
  rw [show (⟨gb, k * 3, none⟩ : Addr).add j = ⟨gb, k * 3 + j, none⟩ by unfold Addr.add; split <;> simp_all]
  exact this

set_option maxHeartbeats 1000000 in
set_option maxRecDepth 100000 in
theorem counted_calls {B : Nat} {w : World} {g : Nat} {s : St} {L H : Value} {E : List (Fl × Value)} {hs : List Bool} {S : Nat → Prop} (h : FM B w g s L H E hs S) (hl : E.length = hs.length) (hE : E.length ≤ 4096) {n : Int} (hg : Good s n) (hgn : n ≤ 4611686018427380000) (hfl : s.fl = hereOf ((E.map (·.1)).zip hs)) :
    Calls Try.prog 21 #[.pointer (some ⟨g, 0, none⟩), L, H] w fun e w' => e = .returned (.bool true) ∧ Below w.heap.size w w' := by
  have hrf := h.reads
  have ll := lenF hrf
  simp only [List.length_map] at ll
  have HH := Lib.hid h
  have HL := Lib.hid hl
  clear hrf h hl
  go_enter Try.func21, Try.ntmps21
  go_wp2_with fail
  go_loopw [7, 8] (fun l i wr => ∃ k : Nat, k ≤ E.length ∧ i = .int .i64 k ∧ wr.ownsRow w.heap.size 49 3 l (sel (E.take k) (hs.take k)).length (flCells ((sel (E.take k) (hs.take k)).map (·.1)) ((sel (E.take k) (hs.take k)).map (·.2))) ∧ Below w.heap.size w wr) (fun _ i _ => E.length - (intOf i).toNat)
  case atStart => exact ⟨0, Nat.zero_le _, rfl, by simpa [sel, flCells] using World.ownsRow_nil w w.heap.size _ _, Below.refl _ _⟩
  case round =>
    obtain ⟨k, hk, rfl, hor, hbr⟩ := hrel
    by_cases hlt : k < E.length
    · have b1 : decide ((k : Int) < (E.length : Int)) = true := by simp; omega
      have hkh : k < hs.length := by have := HL.out; omega
      have fr := HH.out.below hbr
      obtain ⟨gb, hgb, hix, hfz, hcell⟩ := ownH_idx fr.rowH k hkh
      have hst : sel (E.take (k + 1)) (hs.take (k + 1)) = sel (E.take k) (hs.take k) ++ if hs[k] then [E[k]] else [] := by
        rw [List.take_succ_eq_append_getElem hlt, List.take_succ_eq_append_getElem hkh]
        exact sel_snoc _ _ _ _ (by simp; omega)
      have hselL : (sel (E.take k) (hs.take k)).length ≤ 4096 := by have := sel_len (E.take k) (hs.take k); simp at this; omega
      obtain ⟨bk, hbk⟩ : ∃ b, hs[k] = b := ⟨_, rfl⟩
      rw [hbk] at hcell hst
      cases bk
      · simp only [Bool.false_eq_true, if_false, List.append_nil] at hst
        have HS := Lib.hid (And.intro hst (And.intro hor hbr))
        clear hst hor hbr fr hbk
        go_wp2_with fail
        go_roundw
        case rel => exact ⟨k + 1, by omega, by go_num, by rw [HS.out.1]; exact HS.out.2.1, HS.out.2.2⟩
        case measure => simp [intOf]; omega
      · simp only [if_true] at hst
        obtain ⟨q, hqS, hq, hcs, ⟨dA, dc, hd⟩, hqb⟩ := fr.entry (k := k) (f := E[k].1) (d := E[k].2) (by simp [hlt])
        rw [hd] at hcs
        have q0 := hcs.at0
        have q1 := hcs.off 0 rfl
        have q2 := hcs.off 1 rfl
        simp only [Nat.reduceAdd] at q1 q2
        have s1 : Src (wr.alloc (.cells #[.int .i64 E[k].1.no, .int .i64 E[k].1.to, .slice dA E[k].1.data.length dc] 49)) (.slice (some ⟨wr.heap.size, 0, none⟩) 1 1) 1 3 [.int .i64 E[k].1.no, .int .i64 E[k].1.to, .slice dA E[k].1.data.length dc] := Src.alloc rfl (by simp [Value.oneCell'])
        have bz := hbr.size
        have ho2 := own_below hor ((Below.refl wr.heap.size wr).alloc (Nat.le_refl _) (.cells #[.int .i64 E[k].1.no, .int .i64 E[k].1.to, .slice dA E[k].1.data.length dc] 49))
        have HS := Lib.hid (And.intro hst (And.intro hor (And.intro hbr hd)))
        clear hst hor hbr fr hbk hcs hqb hd
        go_wp2_with (at_builtin; refine wpList_append_src rfl _ _ rowT49 rfl rfl ho2 rfl s1 ?c4 ?c3 (by simp; omega) ?_)
        case c4 => omega
        case c3 => unfold maxLen; omega
        intro v' w2 ho' hg' _ hat
        have HA := Lib.hid (And.intro ho' hg')
        clear ho' hg' hat ho2 s1 q0 q1 q2
        go_wp2_with fail
        go_roundw
        case rel => exact ⟨k + 1, by omega, by go_num, by
          rw [HS.out.1, List.length_append, List.length_singleton, List.map_append, List.map_append, List.map_singleton, List.map_singleton, flCells_append _ _ _ _ (by simp), HS.out.2.2.2]
          exact HA.out.1, by
          have K : Kp (fun b => w.heap.size ≤ b) wr w2 := ((Kp.refl _ wr).alloc _).grown HA.out.2 (fun b hb => Or.inl (HS.out.2.1.lt b hb).1)
          exact HS.out.2.2.1.trans (Kp.belowB K bz (fun _ h => h))⟩
        case measure => simp [intOf]; omega
    · have hkl : k = E.length := by omega
      have b1 : decide ((k : Int) < (E.length : Int)) = false := by simp; omega
      have hkh : hs.length ≤ k := by have := HL.out; omega
      rw [List.take_of_length_le (by omega), List.take_of_length_le hkh] at hor
      have fr := HH.out.below hbr
      have hc := netUnder_calls wr S g s fr.net hg.len' hg.ok ⟨hg.ok.given0, by have := hg.giv; omega⟩
      have HS := Lib.hid (And.intro hor (And.intro hbr fr))
      clear hor hbr fr
      go_wp2_with fail
      refine hc.mono ?_
      clear hc
      rintro e w3 ⟨vu, rfl, hm, hb3⟩
      have ho3 := own_below HS.out.1 hb3
      have f3 := HS.out.2.2.below hb3
      have hrl : RF w3 (fun _ => True) u7 ((sel E hs).map (·.1)) := by
        have h9 : (sel E hs).length = ((sel E hs).map (·.1)).length := by simp
        rw [h9] at ho3
        refine RF.of_own (ds := (sel E hs).map (·.2)) (own_lower ho3 (Nat.zero_le _)) (by simp) (fun _ _ => trivial) (fun p hp => ?_)
        have hz : (((sel E hs).map (·.1)).zip ((sel E hs).map (·.2))) = sel E hs := by
          rw [List.zip_map']
          simp
        rw [hz] at hp
        have := f3.data p (sel_mem hp)
        exact RB.of_own this.1 this.2 (fun _ _ => trivial)
      rw [sel_here E hs HL.out, ← hfl] at hrl
      have hc := sameFlights_calls vu u7 s.fl s.fl w3 _ _ hm.reads hrl
      simp only [decide_true] at hc
      have HB3 := Lib.hid hb3
      clear hm hb3 ho3 f3 hrl
      go_wp2_with fail
      refine hc.mono ?_
      clear hc
      rintro e w4 ⟨rfl, hb4⟩
      have HB4 := Lib.hid hb4
      clear hb4
      go_wp2_with fail
      go_ret
      have z1 := HS.out.2.1.size
      have z2 := HB3.out.size
      exact ⟨rfl, (HS.out.2.1.trans (HB3.out.mono z1)).trans (HB4.out.mono (by omega))⟩
end Go.Proofs.Ytpakocgbbggolaa
