import Derived.Test.YtpakocgbbggolaaNetZ
set_option linter.unusedSimpArgs false
set_option linter.unusedVariables false
namespace Go.Proofs.Ytpakocgbbggolaa
open Go.RowKit Go.Proofs.Cul Go.ChangeMaps

theorem plays_calls (w : World) (U Sb : Nat → Prop) (p : Nat) (s : St) (long : Bool) (h : PairP w U p s long) (hUb : ∀ k, U k → k < w.heap.size) (n : Int) (hg : Good s n) (hgn : n ≤ 4611686018427380000) (kind no at_ to_ x : Int) (sec : Bool)
    (A : Option Addr) (c : Nat) (xs : List Int) (hb : RB w Sb (.slice A xs.length c) xs) (hdis : ∀ k, Sb k → ¬ U k ∧ k < w.heap.size) :
    Calls Try.prog 10 #[.pointer (some ⟨p, 0, none⟩), opV kind sec to_ no x at_ (.slice A xs.length c)] w (PlayTo U w p (n + 1026)) := by
  by_cases e1 : kind = 1
  · subst e1; exact plays_send w U Sb p s long h n hg hgn no at_ to_ x sec A c xs hb hdis
  by_cases e2 : kind = 2
  · subst e2; exact plays_take w U p s long h hUb n hg hgn no at_ to_ x sec A c xs.length
  by_cases e3 : kind = 3
  · subst e3; exact plays_drop w U p s long h hUb n hg hgn no at_ to_ x sec A c xs.length
  by_cases e4 : kind = 4
  · subst e4
    cases long
    · exact plays_copy w U p s h hUb n hg hgn no at_ to_ x sec A c xs.length
    · exact plays_copyLong w U p s h n hg no at_ to_ x sec A c xs.length
  by_cases e5 : kind = 5
  · subst e5; exact plays_flip w U p s long h hUb n hg hgn no at_ to_ x sec A c xs.length
  by_cases e6 : kind = 6
  · subst e6; exact plays_under w U p s long h n hg hgn no at_ to_ x sec A c xs.length
  by_cases e7 : kind = 7
  · subst e7; exact plays_many w U Sb p s long h hUb n hg hgn no at_ to_ x sec A c xs hb hdis
  exact plays_other w U p s long h n hg kind no at_ to_ x sec A c xs.length (by omega)

/-- An operation of a script. -/
structure Opx where
  kind : Int
  sec : Bool
  to_ : Int
  no : Int
  x : Int
  at_ : Int
  data : List Int
  deriving Inhabited
def KO (w : World) (S : Nat → Prop) (o : Opx) (cs : List Value) : Prop := ∃ d, cs = [.int .i64 o.kind, .bool o.sec, .int .i64 o.to_, .int .i64 o.no, .int .i64 o.x, .int .i64 o.at_, d] ∧ RB w S d o.data
def RO (w : World) (S : Nat → Prop) (v : Value) (os : List Opx) : Prop := RRow (KO w S) 7 w S v os
theorem RO.move {w w' : World} {S : Nat → Prop} {v : Value} {os : List Opx} (h : RO w S v os) (hm : ∀ k, S k → k < w.heap.size → w'.heap[k]? = w.heap[k]?) : RO w' S v os :=
  RRow.move (by decide) h hm (fun x cs _ ⟨d, e, hb⟩ => ⟨d, e, hb.move hm⟩)
theorem aggOp (W : World) : (isAgg 28).run Try.prog W = .ok true W := by kernel_rfl
theorem sizeOp (W : World) : (sizeOf 28).run Try.prog W = .ok 7 W := by kernel_rfl
theorem infoOp : (Try.prog.info? 28).map (fun i => (i.zero, i.size, i.bytes)) = some (some (.agg #[.int .i64 0, .bool false, .int .i64 0, .int .i64 0, .int .i64 0, .int .i64 0, .slice none 0 0]), 7, 72) := by kernel_rfl
theorem lenO {w : World} {S : Nat → Prop} {v : Value} {os : List Opx} (h : RO w S v os) : ∀ (ty : TypeId) (W : World), (Builtin.len_ #[22] ty #[v]).run Try.prog W = .ok (.int .i64 os.length) W :=
  RRow.len h Try.underlying22
theorem idxO {w : World} {S : Nat → Prop} {v : Value} {os : List Opx} (h : RO w S v os) (k : Nat) (hk : k < os.length) :
    ∃ (p : Addr) (A : Option Addr) (c : Nat), (∀ W : World, (Instr.indexAt 22 v (.int .i64 k)).run Try.prog W = .ok (.pointer (some p)) W) ∧ S p.block ∧ p.block < w.heap.size ∧
      Cells w p [.int .i64 os[k].kind, .bool os[k].sec, .int .i64 os[k].to_, .int .i64 os[k].no, .int .i64 os[k].x, .int .i64 os[k].at_, .slice A os[k].data.length c] ∧ RB w S (.slice A os[k].data.length c) os[k].data := by
  obtain ⟨i0, hi, hz0, hz1, hz2⟩ := info_parts infoOp
  obtain ⟨p, cs, h1, h2, h3, h4, h5, d, rfl, h7⟩ := RRow.idx (by decide) h Try.underlying22 hi hz1 (k : Int) (by omega) (by omega) os[k] (by simp [hk])
  obtain ⟨A, c, rfl, _⟩ := id h7
  exact ⟨p, A, c, h1, h2, h3, h4, h7⟩
theorem loadO {W : World} {p : Addr} {a b c d e f g : Value} (h : Cells W p [a, b, c, d, e, f, g]) : (Instr.loadAt 28 (.pointer (some p))).run Try.prog W = .ok (.agg #[a, b, c, d, e, f, g]) W :=
  run_loadAgg (aggOp W) (sizeOp W) rfl h

/-- Two pairs side by side. -/
structure Duo (B : Nat) (w : World) (pa pb : Nat) (n : Int) : Prop where
  go : ∃ Ua Ub sa sb la lb, PairP w Ua pa sa la ∧ PairP w Ub pb sb lb ∧ Good sa n ∧ Good sb n ∧ (∀ k, Ua k → B ≤ k ∧ k < w.heap.size) ∧ (∀ k, Ub k → B ≤ k ∧ k < w.heap.size) ∧ ∀ k, Ua k → ¬ Ub k
theorem Duo.swap {B : Nat} {w : World} {pa pb : Nat} {n : Int} (h : Duo B w pa pb n) : Duo B w pb pa n := by
  obtain ⟨Ua, Ub, sa, sb, la, lb, h1, h2, h3, h4, h5, h6, h7⟩ := h.go
  exact ⟨Ub, Ua, sb, sa, lb, la, h2, h1, h4, h3, h6, h5, fun k hk e => h7 k e hk⟩
theorem Kp.belowB {U : Nat → Prop} {w w' : World} {B : Nat} (h : Kp U w w') (hB : B ≤ w.heap.size) (hU : ∀ k, U k → B ≤ k) : Below B w w' :=
  ⟨h.os, h.tape, h.output, h.size, fun k hk => h.block k (by omega) (fun e => by have := hU k e; omega)⟩
theorem Duo.plays {B : Nat} {w : World} {pa pb : Nat} {n : Int} (h : Duo B w pa pb n) (hB : B ≤ w.heap.size) (hgn : n ≤ 4611686018427380000) (kind no at_ to_ x : Int) (sec : Bool) (A : Option Addr) (c : Nat) (xs : List Int)
    (hb : RB w (fun k => k < B) (.slice A xs.length c) xs) :
    Calls Try.prog 10 #[.pointer (some ⟨pa, 0, none⟩), opV kind sec to_ no x at_ (.slice A xs.length c)] w fun e w' => e = .returned (.bool true) ∧ Duo B w' pa pb (n + 1026) ∧ Below B w w' := by
  obtain ⟨Ua, Ub, sa, sb, la, lb, h1, h2, h3, h4, h5, h6, h7⟩ := h.go
  refine (plays_calls w Ua _ pa sa la h1 (fun k hk => (h5 k hk).2) n h3 hgn kind no at_ to_ x sec A c xs hb (fun k hk => ⟨fun e => by have := (h5 k e).1; have hk : k < B := hk; omega, by have hk : k < B := hk; omega⟩)).mono ?_
  rintro e w' ⟨s', l', g1, rfl, g2, g3⟩
  have hz := g3.size
  refine ⟨rfl, ⟨Ext Ua w w', Ub, s', sb, l', lb, g2, h2.kp g3 (fun k hk e => h7 k e hk), g1, h4.more (by omega), fun k hk => ?_, fun k hk => ⟨(h6 k hk).1, Nat.lt_of_lt_of_le (h6 k hk).2 hz⟩, fun k hk e => ?_⟩, Kp.belowB g3 hB (fun k hk => (h5 k hk).1)⟩
  · rcases hk with hk | hk
    · exact ⟨(h5 k hk).1, Nat.lt_of_lt_of_le (h5 k hk).2 hz⟩
    · exact ⟨Nat.le_trans hB hk.1, hk.2⟩
  · rcases hk with hk | hk
    · exact h7 k hk e
    · have := (h6 k e).2
      omega
theorem Duo.under {B : Nat} {w : World} {pa pb : Nat} {n : Int} (h : Duo B w pa pb n) (hB : B ≤ w.heap.size) (hgn : n ≤ 4611686018427380000) :
    Calls Try.prog 11 #[.pointer (some ⟨pa, 0, none⟩)] w fun e w' => e = .returned (.bool true) ∧ Duo B w' pa pb n ∧ Below B w w' := by
  obtain ⟨Ua, Ub, sa, sb, la, lb, h1, h2, h3, h4, h5, h6, h7⟩ := h.go
  refine (pairUnder_calls w Ua pa sa la h1 h3.len' h3.ok (by have := h3.giv; omega)).mono ?_
  rintro e w' ⟨rfl, hb⟩
  exact ⟨rfl, ⟨Ua, Ub, sa, sb, la, lb, h1.below hb, h2.below hb, h3, h4, fun k hk => ⟨(h5 k hk).1, Nat.lt_of_lt_of_le (h5 k hk).2 hb.size⟩, fun k hk => ⟨(h6 k hk).1, Nat.lt_of_lt_of_le (h6 k hk).2 hb.size⟩, h7⟩, hb.mono hB⟩
theorem Duo.below {B : Nat} {w w' : World} {pa pb : Nat} {n : Int} (h : Duo B w pa pb n) (hb : Below w.heap.size w w') : Duo B w' pa pb n := by
  obtain ⟨Ua, Ub, sa, sb, la, lb, h1, h2, h3, h4, h5, h6, h7⟩ := h.go
  exact ⟨Ua, Ub, sa, sb, la, lb, h1.below hb, h2.below hb, h3, h4, fun k hk => ⟨(h5 k hk).1, Nat.lt_of_lt_of_le (h5 k hk).2 hb.size⟩, fun k hk => ⟨(h6 k hk).1, Nat.lt_of_lt_of_le (h6 k hk).2 hb.size⟩, h7⟩
theorem good_new : Good St.new 0 := ⟨St.new_ok, by simp [St.new], by simp [St.new]⟩
theorem duo_new {w w1 w2 : World} {pa pb : Nat} (h1 : PairP w1 (New w.heap.size w1) pa St.new false) (b1 : Below w.heap.size w w1) (h2 : PairP w2 (New w1.heap.size w2) pb St.new false) (b2 : Below w1.heap.size w1 w2) : Duo w.heap.size w2 pa pb 0 :=
  ⟨New w.heap.size w1, New w1.heap.size w2, St.new, St.new, false, false, h1.below b2, h2, good_new, good_new, fun k hk => ⟨hk.1, Nat.lt_of_lt_of_le hk.2 b2.size⟩, fun k hk => ⟨Nat.le_trans b1.size hk.1, hk.2⟩, fun k hk e => by have := hk.2; have := e.1; omega⟩

set_option maxHeartbeats 1000000 in
set_option maxRecDepth 100000 in
theorem netPlays_calls (w : World) (v : Value) (os : List Opx) (h : RO w (fun k => k < w.heap.size) v os) :
    Calls Try.prog 3 #[v] w fun e w' => e = .returned (.bool true) ∧ Below w.heap.size w w' := by
  have hk := known_calls w
  have lo := lenO h
  have hle := RRow.le h
  have HO := Lib.hid h
  clear h
  go_enter Try.func3, Try.ntmps3
  go_wp2_with fail
  refine hk.mono ?_
  clear hk
  rintro e w0 ⟨rfl, hb0⟩
  have h1 := begin_calls w0
  go_wp2_with fail
  refine h1.mono ?_
  clear h1
  rintro e w1 ⟨pa, rfl, hp1, hb1⟩
  have h2 := begin_calls w1
  have HP1 := Lib.hid hp1
  clear hp1
  go_wp2_with fail
  refine h2.mono ?_
  clear h2
  rintro e w2 ⟨pb, rfl, hp2, hb2⟩
  have hd := duo_new HP1.out hb1 hp2 hb2
  have HB := Lib.hid (show w.heap.size ≤ w0.heap.size ∧ Below w.heap.size w w2 from ⟨hb0.size, hb0.trans ((hb1.trans (hb2.mono hb1.size)).mono hb0.size)⟩)
  have hz2 : w0.heap.size ≤ w2.heap.size := by have := hb1.size; have := hb2.size; omega
  clear hp2 hb0 hb1 hb2
  go_wp2_with fail
  go_loopw [5] (fun i wr => ∃ k : Nat, k ≤ os.length ∧ k ≤ 300 ∧ i = .int .i64 k ∧ Duo w0.heap.size wr pa pb (1026 * k) ∧ Below w0.heap.size w2 wr) (fun i _ => os.length - (intOf i).toNat)
  case atStart => exact ⟨0, Nat.zero_le _, by omega, rfl, by simpa using hd, Below.refl _ _⟩
  case round =>
    obtain ⟨k, hk, hk3, rfl, hdr, hbr⟩ := hrel
    have HD := Lib.hid (And.intro hdr hbr)
    by_cases hlt : k < os.length
    · by_cases h3 : k < 300
      · have b1 : decide ((k : Int) < (os.length : Int)) = true := by simp; omega
        have b2 : decide ((k : Int) < 300) = true := by simp; omega
        have ho : RO wr (fun k => k < w.heap.size) v os := HO.out.move (fun i hi _ => by
          rw [hbr.block i (by have := HB.out.1; omega), HB.out.2.block i hi])
        obtain ⟨q, A, c, hq, hqS, hql, hcs, hrb⟩ := idxO ho k hlt
        have q0 := hcs.at0
        have q1 := hcs.off 0 rfl
        have q2 := hcs.off 1 rfl
        have q3 := hcs.off 2 rfl
        have q4 := hcs.off 3 rfl
        have q5 := hcs.off 4 rfl
        have q6 := hcs.off 5 rfl
        simp only [Nat.reduceAdd] at q1 q2 q3 q4 q5 q6
        cases hsec : os[k].sec
        · rw [hsec] at q1
          have hc := hdr.plays (by have := hbr.size; omega) (by omega) os[k].kind os[k].no os[k].at_ os[k].to_ os[k].x false A c os[k].data (hrb.mono (fun i hi _ => by have := HB.out.1; omega))
          have HS := Lib.hid hsec
          clear hsec hdr hbr ho hcs hrb hd
          go_wp2_with fail
          refine hc.mono ?_
          clear hc
          rintro e w' ⟨rfl, hd', hb'⟩
          have HE := Lib.hid (And.intro hd' hb')
          clear hd' hb' q0 q1 q2 q3 q4 q5 q6
          go_wp2_with fail
          go_roundw
          case rel => exact ⟨k + 1, by omega, by omega, by go_num, by
            have := HE.out.1
            rwa [show (1026 * ((k + 1 : Nat) : Int)) = 1026 * (k : Int) + 1026 by omega], HD.out.2.trans (HE.out.2)⟩
          case measure => simp [intOf]; omega
        · rw [hsec] at q1
          have hc := hdr.swap.plays (by have := hbr.size; omega) (by omega) os[k].kind os[k].no os[k].at_ os[k].to_ os[k].x true A c os[k].data (hrb.mono (fun i hi _ => by have := HB.out.1; omega))
          have HS := Lib.hid hsec
          clear hsec hdr hbr ho hcs hrb hd
          go_wp2_with fail
          refine hc.mono ?_
          clear hc
          rintro e w' ⟨rfl, hd', hb'⟩
          have HE := Lib.hid (And.intro hd' hb')
          clear hd' hb' q0 q1 q2 q3 q4 q5 q6
          go_wp2_with fail
          go_roundw
          case rel => exact ⟨k + 1, by omega, by omega, by go_num, by
            have := HE.out.1.swap
            rwa [show (1026 * ((k + 1 : Nat) : Int)) = 1026 * (k : Int) + 1026 by omega], HD.out.2.trans (HE.out.2)⟩
          case measure => simp [intOf]; omega
      · have b1 : decide ((k : Int) < (os.length : Int)) = true := by simp; omega
        have b2 : decide ((k : Int) < 300) = false := by simp; omega
        have hc := hdr.under (by have := hbr.size; omega) (by omega)
        clear hdr hbr hd
        go_wp2_with fail
        refine hc.mono ?_
        clear hc
        rintro e w3 ⟨rfl, hd3, hb3⟩
        have hc := hd3.swap.under (by have := HD.out.2.size; have := hb3.size; omega) (by omega)
        have HE := Lib.hid hb3
        clear hd3 hb3
        go_wp2_with fail
        refine hc.mono ?_
        clear hc
        rintro e w4 ⟨rfl, hd4, hb4⟩
        have HF := Lib.hid hb4
        have hc := known_calls w4
        clear hd4 hb4
        go_wp2_with fail
        refine hc.mono ?_
        clear hc
        rintro e w5 ⟨rfl, hb5⟩
        have HG := Lib.hid hb5
        clear hb5
        go_wp2_with fail
        go_ret
        have z1 := HB.out.1
        have z2 := HD.out.2.size
        have z3 := HE.out.size
        have z4 := HF.out.size
        exact ⟨rfl, (HB.out.2.trans (((HD.out.2.trans HE.out).trans HF.out).mono z1)).trans (HG.out.mono (by omega))⟩
    · have b1 : decide ((k : Int) < (os.length : Int)) = false := by simp; omega
      have hc := hdr.under (by have := hbr.size; omega) (by omega)
      clear hdr hbr hd
      go_wp2_with fail
      refine hc.mono ?_
      clear hc
      rintro e w3 ⟨rfl, hd3, hb3⟩
      have hc := hd3.swap.under (by have := HD.out.2.size; have := hb3.size; omega) (by omega)
      have HE := Lib.hid hb3
      clear hd3 hb3
      go_wp2_with fail
      refine hc.mono ?_
      clear hc
      rintro e w4 ⟨rfl, hd4, hb4⟩
      have HF := Lib.hid hb4
      have hc := known_calls w4
      clear hd4 hb4
      go_wp2_with fail
      refine hc.mono ?_
      clear hc
      rintro e w5 ⟨rfl, hb5⟩
      have HG := Lib.hid hb5
      clear hb5
      go_wp2_with fail
      go_ret
      have z1 := HB.out.1
      have z2 := HD.out.2.size
      have z3 := HE.out.size
      have z4 := HF.out.size
      exact ⟨rfl, (HB.out.2.trans (((HD.out.2.trans HE.out).trans HF.out).mono z1)).trans (HG.out.mono (by omega))⟩
end Go.Proofs.Ytpakocgbbggolaa
