import Derived.Test.YtpakocgbbggolaaNetZa
import Derived.Test.YtpakocgbbggolaaCulOpen
set_option linter.unusedSimpArgs false
set_option linter.unusedVariables false
namespace Go.Proofs.Ytpakocgbbggolaa
open Go.RowKit Go.Proofs.Cul Go.ChangeMaps

/-! ### What many sends make. -/
def flood (to_ : Int) (xs : List Int) (k : Nat) : List Fl := (List.range k).map fun (i : Nat) => ⟨(i : Int) + 1, to_, xs⟩
theorem flood_many (to_ : Int) (xs : List Int) : ∀ k : Nat, k ≤ 1024 → sendMany to_ xs k St.new = ⟨k, flood to_ xs k⟩
  | 0, _ => by simp [sendMany, flood, St.new]
  | k + 1, h => by
    rw [sendMany, flood_many to_ xs k (by omega)]
    have hl : ¬ 1024 ≤ (flood to_ xs k).length := by simp [flood]; omega
    simp only [St.send, hl, if_false]
    simp [flood, List.range_succ]
def full (to_ : Int) (xs : List Int) : St := ⟨1024, flood to_ xs 1024⟩
theorem flood_len (to_ : Int) (xs : List Int) (k : Nat) : (flood to_ xs k).length = k := by simp [flood]
theorem many_full (to_ : Int) (xs : List Int) (h : xs.length ≤ 4096) : manyS St.new to_ 0 xs = full to_ xs := by
  unfold manyS
  rw [if_neg (by omega)]
  have e : (1024 + (0 : Int) - (St.new.fl.length : Nat)).toNat = 1024 := by simp [St.new]
  rw [e, flood_many to_ xs 1024 (by omega)]
  rfl
theorem full_send (to_ : Int) (xs : List Int) (t : Int) (ys : List Int) : (full to_ xs).send t ys = (0, full to_ xs) := by
  unfold St.send
  rw [if_pos (by simp [full, flood_len])]
theorem flood_find (to_ : Int) (xs : List Int) (k : Nat) (h : 0 < k) : find 1 (flood to_ xs k) = some ⟨1, to_, xs⟩ := by
  obtain ⟨j, rfl⟩ : ∃ j, k = j + 1 := ⟨k - 1, by omega⟩
  simp [flood, List.range_succ_eq_map, find]
theorem full_copy (to_ : Int) (xs : List Int) : (full to_ xs).copy 1 = (0, full to_ xs) ∧ copyE (full to_ xs) 1 = 0 := by
  have h : find 1 (full to_ xs).fl = some ⟨1, to_, xs⟩ := by simp only [full]; exact flood_find to_ xs 1024 (by decide)
  refine ⟨?_, by simp [copyE, h]⟩
  unfold St.copy
  rw [h]
  exact full_send _ _ _ _

/-- The program's net alone was called, its state is as it was. -/
theorem PairP.netOnly {w w' : World} {U : Nat → Prop} {p gx gr : Nat} {Sx Sr : Nat → Prop} {room : Value} {ys : List Int} {s : St} {long : Bool} (R : Room w p gx gr Sx Sr room ys s long) (hUx : ∀ k, Sx k → U k) (hUr : ∀ k, Sr k → U k) (hUp : U p) (hro : ∀ k, room.ownBlock = some k → U k)
    (n2 : NetP w' (Ext Sx w w') gx s) (k2 : Kp Sx w w') : PairP w' (Ext U w w') p s long ∧ Kp U w w' := by
  have hz := k2.size
  have hrl : ∀ k, room.ownBlock = some k → k < w.heap.size := fun k hk => (R.ho.lt k hk).2
  refine ⟨⟨gx, gr, Ext Sx w w', Sr, room, ys, (k2.block p (lt_of_heap R.hp) (fun e => (R.hx p e).2 rfl)).trans R.hp, Or.inl hUp, n2, R.hr.kp k2 (fun i hi => (R.hy i hi).2.2), fun k hk => ?_, fun k hk => ⟨Or.inl (hUr k hk), Nat.lt_of_lt_of_le (R.hy k hk).1 hz, (R.hy k hk).2.1, fun e => ?_⟩, own_kp R.ho k2 (fun i hi => (R.hro i hi).2.1), R.hb, fun k hk => ⟨Or.inl (hro k hk), (R.hro k hk).1, fun e => ?_, (R.hro k hk).2.2⟩⟩, k2.mono hUx⟩
  · rcases hk with hk | hk
    · exact ⟨Or.inl (hUx k hk), Nat.lt_of_lt_of_le (R.hx k hk).1 hz, (R.hx k hk).2⟩
    · exact ⟨Or.inr hk, hk.2, by have := lt_of_heap R.hp; omega⟩
  · rcases e with e | e
    · exact (R.hy k hk).2.2 e
    · have := (R.hy k hk).1
      omega
  · rcases e with e | e
    · exact (R.hro k hk).2.1 e
    · have := hrl k hk
      omega

/-- Numbers that came in. -/
def KI (z : Int) (cs : List Value) : Prop := cs = [.int .i64 z]
def RIs (w : World) (S : Nat → Prop) (v : Value) (zs : List Int) : Prop := RRow KI 1 w S v zs
theorem infoInt : (Try.prog.info? 3).map (fun i => (i.zero, i.size, i.bytes)) = some (some (.int .i64 0), 1, 8) := by kernel_rfl
theorem lenIs {w : World} {S : Nat → Prop} {v : Value} {zs : List Int} (h : RIs w S v zs) : ∀ (ty : TypeId) (W : World), (Builtin.len_ #[31] ty #[v]).run Try.prog W = .ok (.int .i64 zs.length) W :=
  RRow.len h Try.underlying31
theorem idxIs {w : World} {S : Nat → Prop} {v : Value} {zs : List Int} (h : RIs w S v zs) (k : Nat) (hk : k < zs.length) :
    ∃ p : Addr, (∀ W : World, (Instr.indexAt 31 v (.int .i64 k)).run Try.prog W = .ok (.pointer (some p)) W) ∧ S p.block ∧ p.block < w.heap.size ∧ w.cell? p = some (.int .i64 zs[k]) := by
  obtain ⟨i0, hi, hz0, hz1, hz2⟩ := info_parts infoInt
  obtain ⟨p, cs, h1, h2, h3, h4, h5, rfl⟩ := RRow.idx (by decide) h Try.underlying31 hi hz1 (k : Int) (by omega) (by omega) zs[k] (by simp [hk])
  exact ⟨p, h1, h2, h3, h4.at0⟩
theorem RIs.below {w w' : World} {S : Nat → Prop} {v : Value} {zs : List Int} (h : RIs w S v zs) (hm : ∀ k, S k → k < w.heap.size → w'.heap[k]? = w.heap[k]?) : RIs w' S v zs :=
  RRow.move (by decide) h hm (fun x cs _ e => e)
theorem open_ints' {H : Type} {enc : TypeId × Value → H} {w : World} {base : Nat} {spare : Nat → Bool} {held : Bool} {fuel : Nat} {v : Value} {x : DataW H × List MemPlace} (h : DataW.trod enc Try.prog w base spare held fuel 31 [v] = some x) :
    ∃ zs, RIs w (fun k => k < w.heap.size) v zs := by
  rcases Deep.open_slice Try.underlying31 h with ⟨h0, _⟩ | ⟨a, len, cap, m, n, D, Pl, hcs, hb, hl, hm, hmm, hx, hi⟩
  · simp only [List.cons.injEq, and_true] at h0
    subst h0
    exact ⟨[], RRow.nil _ _ _ _⟩
  · simp only [List.cons.injEq, and_true] at hcs
    subst hcs
    have hC : Try.prog.cellsOf 3 = 1 := by kernel_rfl
    rw [hC] at hi
    have hlm : len ≤ m := by rw [hmm]; split <;> omega
    obtain ⟨zs, hlen, hr⟩ := RRow.of_cells (K := KI) (sz := 1) (S := fun k => k < w.heap.size) (w := w) (a := a) (len := len) (cap := cap) (by decide) hl hm (fun k hk => hk) (fun i hi' => by
      obtain ⟨cs', hc, ht'⟩ := hi i (by omega)
      obtain ⟨z, hz, _, hwf⟩ := DataW.trod_int Try.underlying3 ht'
      obtain ⟨_, hcl, hat⟩ := World.cells?_some hc
      have := hat 0 (by omega)
      rw [hz] at this
      refine ⟨z, [.int .i64 z], rfl, rfl, fun j u hu => ?_⟩
      match j, hu with
      | 0, hu =>
        simp at hu
        subst hu
        simpa [cadd_add] using this
      | j + 1, hu => simp at hu)
    subst hlen
    exact ⟨zs, hr⟩
/-- One pair. -/
def One (B : Nat) (w : World) (p : Nat) (n : Int) : Prop := ∃ U s lg, PairP w U p s lg ∧ Good s n ∧ ∀ k, U k → B ≤ k ∧ k < w.heap.size
theorem One.mk_ {B : Nat} {w w' : World} {U : Nat → Prop} {p : Nat} {s : St} {lg : Bool} {n : Int} (h : PairP w' (Ext U w w') p s lg) (hg : Good s n) (hU : ∀ k, U k → B ≤ k ∧ k < w.heap.size) (hB : B ≤ w.heap.size) (hz : w.heap.size ≤ w'.heap.size) : One B w' p n :=
  ⟨_, s, lg, h, hg, fun k hk => by
    rcases hk with hk | hk
    · exact ⟨(hU k hk).1, Nat.lt_of_lt_of_le (hU k hk).2 hz⟩
    · exact ⟨Nat.le_trans hB hk.1, hk.2⟩⟩
theorem One.plays {B : Nat} {w : World} {p : Nat} {n : Int} (h : One B w p n) (hB : B ≤ w.heap.size) (hgn : n ≤ 4611686018427380000) (kind no at_ to_ x : Int) (sec : Bool) (A : Option Addr) (c : Nat) (xs : List Int)
    (hb : RB w (fun k => k < B) (.slice A xs.length c) xs) :
    Calls Try.prog 10 #[.pointer (some ⟨p, 0, none⟩), opV kind sec to_ no x at_ (.slice A xs.length c)] w fun e w' => e = .returned (.bool true) ∧ One B w' p (n + 1026) ∧ Below B w w' := by
  obtain ⟨U, s, lg, h1, h3, h5⟩ := h
  refine (plays_calls w U _ p s lg h1 (fun k hk => (h5 k hk).2) n h3 hgn kind no at_ to_ x sec A c xs hb (fun k hk => ⟨fun e => by have := (h5 k e).1; have hk : k < B := hk; omega, by have hk : k < B := hk; omega⟩)).mono ?_
  rintro e w' ⟨s', l', g1, rfl, g2, g3⟩
  exact ⟨rfl, One.mk_ g2 g1 h5 hB g3.size, Kp.belowB g3 hB (fun k hk => (h5 k hk).1)⟩
theorem One.under {B : Nat} {w : World} {p : Nat} {n : Int} (h : One B w p n) (hB : B ≤ w.heap.size) (hgn : n ≤ 4611686018427380000) :
    Calls Try.prog 11 #[.pointer (some ⟨p, 0, none⟩)] w fun e w' => e = .returned (.bool true) ∧ Below w.heap.size w w' := by
  obtain ⟨U, s, lg, h1, h3, h5⟩ := h
  exact pairUnder_calls w U p s lg h1 h3.len' h3.ok (by have := h3.giv; omega)
theorem good_full (to_ : Int) (xs : List Int) (hl : xs.length ≤ 4096) : Good (full to_ xs) 1026 := by
  have := good_new.many_ to_ 0 xs
  rw [many_full to_ xs hl] at this
  exact this.more (by omega)

set_option maxHeartbeats 2000000 in
set_option maxRecDepth 100000 in
theorem netFull_calls (w : World) (to_ : Int) (A : Option Addr) (c : Nat) (xs : List Int) (hb : RB w (fun k => k < w.heap.size) (.slice A xs.length c) xs) (v : Value) (zs : List Int) (hz : RIs w (fun k => k < w.heap.size) v zs) (more : Int) (wf : (Lit.int .i64 more).wf = true) :
    Calls Try.prog 4 #[.int .i64 to_, .slice A xs.length c, v, .int .i64 more] w fun e w' => e = .returned (.bool true) ∧ Below w.heap.size w w' := by
  have hk := known_calls w
  have ld := lenB hb
  have li := lenIs hz
  have lle := RRow.le hz
  have hnum := num_calls
  have HO := Lib.hid (And.intro hb hz)
  have hmore : more ≤ 9223372036854775807 := by simp [Lit.wf, IntKind.min, IntKind.max, IntKind.bits, IntKind.signed] at wf; omega
  clear hb hz wf
  go_enter Try.func4, Try.ntmps4
  go_wp2_with fail
  refine hk.mono ?_
  clear hk
  rintro e w0 ⟨rfl, hb0⟩
  have HB := Lib.hid hb0
  clear hb0
  by_cases hlen : 2048 < xs.length
  · have b1 : decide ((2048 : Int) < (xs.length : Int)) = true := by simp; omega
    go_wp2_with fail
    go_ret
    exact ⟨rfl, HB.out⟩
  · have b1 : decide ((2048 : Int) < (xs.length : Int)) = false := by simp; omega
    have hl : xs.length ≤ 4096 := by omega
    have h1 := begin_calls w0
    go_wp2_with fail
    refine h1.mono ?_
    clear h1
    rintro e w1 ⟨p, rfl, hp1, hb1⟩
    have hbw : ∀ W, Below w0.heap.size w0 W → RB W (fun k => k < w.heap.size) (.slice A xs.length c) xs := fun W h => (HO.out.1.below HB.out).move (fun i hi _ => h.block i (by have := HB.out.size; omega))
    have HBW := Lib.hid hbw
    have hc := many_calls w1 (New w0.heap.size w1) (fun k => k < w.heap.size) p St.new false hp1 (fun k hk => hk.2) 0 good_new (by omega) 0 0 0 to_ 0 false A c xs (HBW.out w1 hb1) (fun k hk => ⟨fun e => by have := e.1; have := HB.out.size; omega, by have := hb1.size; have := HB.out.size; omega⟩)
    rw [many_full to_ xs hl] at hc
    have H1 := Lib.hid (And.intro hp1 hb1)
    clear hp1 hb1 hbw
    go_wp2_with fail
    refine hc.mono ?_
    clear hc
    rintro e w2 ⟨lg, rfl, hp2, hk2⟩
    have one2 : One w0.heap.size w2 p 1026 := One.mk_ hp2 (good_full to_ xs hl) (fun k hk => hk) H1.out.2.size hk2.size
    have B2 : Below w0.heap.size w0 w2 := H1.out.2.trans (Kp.belowB hk2 H1.out.2.size (fun k hk => hk.1))
    obtain ⟨gx, gr, Sx, Sr, room, ys, R, hUx, hUr, hUp, hUo⟩ := hp2.room
    have c0 : w2.cell? ⟨p, 0, none⟩ = some (.pointer (some ⟨gx, 0, none⟩)) := cell_at R.hp 0
    have hs := netSend_calls w2 Sx _ gx (full to_ xs) R.hn (fun k hk => (R.hx k hk).1) to_ _ xs (HBW.out w2 B2) (fun e => by
      have h1 := hUx gx R.hn.self.1
      have h2 := HB.out.size
      have h3 := H1.out.2.size
      rcases h1 with h1 | h1
      · have := h1.1
        omega
      · omega) (by omega) (good_full to_ xs hl).ok ⟨(good_full to_ xs hl).ok.given0, by simp [full]⟩
    rw [full_send] at hs
    have H2 := Lib.hid (And.intro R (And.intro hUx (And.intro hUr (And.intro hUp (And.intro hUo (And.intro hk2 (And.intro B2 one2)))))))
    clear R hUx hUr hUp hUo hk2 B2 one2 hp2
    go_wp2_with fail
    refine hs.mono ?_
    clear hs
    rintro e w3 ⟨rfl, hn3, hk3⟩
    have hp3 := PairP.netOnly H2.out.1 H2.out.2.1 H2.out.2.2.1 H2.out.2.2.2.1 H2.out.2.2.2.2.1 hn3 hk3
    have hU2 : ∀ k, Ext (New w0.heap.size w1) w1 w2 k → w0.heap.size ≤ k ∧ k < w2.heap.size := fun k hk => by
      have := H2.out.2.2.2.2.2.1.size
      have := H1.out.2.size
      rcases hk with hk | hk
      · have := hk.1
        have := hk.2
        exact ⟨by omega, by omega⟩
      · exact ⟨by omega, hk.2⟩
    have HU2 := Lib.hid hU2
    have z2 : w0.heap.size ≤ w2.heap.size := H2.out.2.2.2.2.2.2.1.size
    have B3 : Below w0.heap.size w0 w3 := H2.out.2.2.2.2.2.2.1.trans (Kp.belowB hp3.2 z2 (fun k hk => (hU2 k hk).1))
    have hb3 : ∀ k, Ext (Ext (New w0.heap.size w1) w1 w2) w2 w3 k → w0.heap.size ≤ k ∧ k < w3.heap.size := fun k hk => by
      have := hp3.2.size
      rcases hk with hk | hk
      · exact ⟨(hU2 k hk).1, Nat.lt_of_lt_of_le (hU2 k hk).2 this⟩
      · have := hk.1
        exact ⟨by omega, hk.2⟩
    obtain ⟨gx3, gr3, Sx3, Sr3, room3, ys3, R3, hUx3, hUr3, hUp3, hUo3⟩ := hp3.1.room
    have c3 : w3.cell? ⟨p, 0, none⟩ = some (.pointer (some ⟨gx3, 0, none⟩)) := cell_at R3.hp 0
    have hs := netCopy_calls w3 Sx3 gx3 (full to_ xs) R3.hn (fun k hk => (R3.hx k hk).1) (good_full to_ xs hl).len' (good_full to_ xs hl).ok ⟨(good_full to_ xs hl).ok.given0, by simp [full]⟩ 1
    rw [(full_copy to_ xs).1, (full_copy to_ xs).2] at hs
    have H3 := Lib.hid (And.intro R3 (And.intro hUx3 (And.intro hUr3 (And.intro hUp3 (And.intro hUo3 (And.intro B3 (And.intro hb3 hp3.2)))))))
    clear R3 hUx3 hUr3 hUp3 hUo3 B3 hb3 hp3 hn3 hk3 hU2 c0
    go_wp2_with fail
    refine hs.mono ?_
    clear hs
    rintro e w4 ⟨rfl, hn4, hk4⟩
    have hp4 := PairP.netOnly H3.out.1 H3.out.2.1 H3.out.2.2.1 H3.out.2.2.2.1 H3.out.2.2.2.2.1 hn4 hk4
    have B4 : Below w0.heap.size w0 w4 := H3.out.2.2.2.2.2.1.trans (Kp.belowB hp4.2 H3.out.2.2.2.2.2.1.size (fun k hk => (H3.out.2.2.2.2.2.2.1 k hk).1))
    have one4 : One w0.heap.size w4 p 1026 := One.mk_ hp4.1 (good_full to_ xs hl) H3.out.2.2.2.2.2.2.1 H3.out.2.2.2.2.2.1.size hp4.2.size
    obtain ⟨gx4, gr4, Sx4, Sr4, room4, ys4, R4, _⟩ := hp4.1.room
    have c4 : w4.cell? ⟨p, 0, none⟩ = some (.pointer (some ⟨gx4, 0, none⟩)) := cell_at R4.hp 0
    have hu := netUnder_calls w4 Sx4 gx4 (full to_ xs) R4.hn (good_full to_ xs hl).len' (good_full to_ xs hl).ok ⟨(good_full to_ xs hl).ok.given0, by simp [full]⟩
    have H4 := Lib.hid (And.intro one4 B4)
    clear hp4 B4 one4 R4 hn4 hk4 c3
    go_wp2_with (go_at_call 15; refine (hnum _ _).mono ?_; rintro e w' ⟨rfl, rfl⟩)
    refine hu.mono ?_
    clear hu
    rintro e w5 ⟨vu, rfl, hmu, hb5⟩
    have lu := lenF hmu.reads
    rw [show (full to_ xs).fl.length = 1024 by simp [full, flood_len]] at lu
    have one5 : One w0.heap.size w5 p 1026 := by
      obtain ⟨U, s, lg, g1, g2, g3⟩ := H4.out.1
      exact ⟨U, s, lg, g1.below hb5, g2, fun k hk => ⟨(g3 k hk).1, Nat.lt_of_lt_of_le (g3 k hk).2 hb5.size⟩⟩
    have B5 : Below w0.heap.size w0 w5 := H4.out.2.trans (hb5.mono H4.out.2.size)
    have H5 := Lib.hid (And.intro one5 B5)
    clear hmu hb5 one5 B5 c4
    go_wp2_with fail
    go_loopw [14] (fun i wr => ∃ k : Nat, k ≤ zs.length ∧ k ≤ 50 ∧ i = .int .i64 k ∧ One w0.heap.size wr p (1026 + 1026 * k) ∧ Below w0.heap.size w0 wr) (fun i _ => zs.length - (intOf i).toNat)
    case atStart => exact ⟨0, Nat.zero_le _, by omega, rfl, by simpa using H5.out.1, H5.out.2⟩
    case round =>
      obtain ⟨k, hk, hk3, rfl, hone, hbr⟩ := hrel
      by_cases hlt : k < zs.length
      · by_cases h3 : k < 50
        · have b3 : decide ((k : Int) < (zs.length : Int)) = true := by simp; omega
          have b4 : decide ((k : Int) < 50) = true := by simp; omega
          have ho : RIs wr (fun k => k < w.heap.size) v zs := HO.out.2.below (fun i hi _ => by
            rw [hbr.block i (by have := HB.out.size; omega), HB.out.block i hi])
          obtain ⟨q, hq, hqS, hql, hqc⟩ := idxIs ho k hlt
          have hc : Calls Try.prog 10 #[.pointer (some ⟨p, 0, none⟩), opV 3 false 0 zs[k] 0 0 (.slice none 0 0)] wr fun e w' => e = .returned (.bool true) ∧ One w0.heap.size w' p (1026 + 1026 * k + 1026) ∧ Below w0.heap.size wr w' :=
            hone.plays hbr.size (by omega) 3 zs[k] 0 0 0 false none 0 [] (RB.nil _ _)
          have HJ := Lib.hid (And.intro hone hbr)
          clear hone hbr ho
          go_wp2_with fail
          refine hc.mono ?_
          clear hc
          rintro e w' ⟨rfl, hone', hb'⟩
          have HK := Lib.hid (And.intro hone' hb')
          clear hone' hb' hqc
          go_wp2_with fail
          go_roundw
          case rel => exact ⟨k + 1, by omega, by omega, by go_num, by
            have := HK.out.1
            rwa [show (1026 + 1026 * ((k + 1 : Nat) : Int)) = 1026 + 1026 * (k : Int) + 1026 by omega], HJ.out.2.trans HK.out.2⟩
          case measure => simp [intOf]; omega
        · have b3 : decide ((k : Int) < (zs.length : Int)) = true := by simp; omega
          have b4 : decide ((k : Int) < 50) = false := by simp; omega
          have HE := Lib.hid (And.intro hone hbr)
          clear hone hbr
          obtain ⟨wb, hwb⟩ : ∃ wb : World, wb = wr := ⟨_, rfl⟩
          subst hwb
          go_wp2_with fail
          go_loopw [16] (fun i wr => ∃ j : Nat, j ≤ 60 ∧ i = .int .i64 j ∧ One w0.heap.size wr p (1026 + 1026 * 50 + 1026 * j) ∧ Below w0.heap.size w0 wr) (fun i _ => 60 - (intOf i).toNat)
          case atStart => exact ⟨0, by omega, rfl, by
            obtain ⟨U, s, lg, g1, g2, g3⟩ := HE.out.1
            exact ⟨U, s, lg, g1, g2.more (by omega), g3⟩, HE.out.2⟩
          case round =>
            obtain ⟨j, hj, rfl, honj, hbj⟩ := hrel
            by_cases hm : (j : Int) < more
            · have d1 : decide ((j : Int) < more) = true := by simpa using hm
              by_cases h6 : j < 60
              · have d2 : decide ((j : Int) < 60) = true := by simp; omega
                have hc := honj.plays hbj.size (by omega) (1 + 3 * ((j : Int) % 2)) 1024 0 to_ 0 false A c xs ((HBW.out wr hbj).mono (fun i hi _ => by have := HB.out.size; omega))
                have HJ := Lib.hid (And.intro honj hbj)
                clear honj hbj hm
                go_wp2_with fail
                refine hc.mono ?_
                clear hc
                rintro e w' ⟨rfl, hone', hb'⟩
                have HK := Lib.hid (And.intro hone' hb')
                clear hone' hb'
                go_wp2_with fail
                go_roundw
                case rel => exact ⟨j + 1, by omega, by go_num, by
                  have := HK.out.1
                  rwa [show (1026 + 1026 * 50 + 1026 * ((j + 1 : Nat) : Int)) = 1026 + 1026 * 50 + 1026 * (j : Int) + 1026 by omega], HJ.out.2.trans HK.out.2⟩
                case measure => simp [intOf]; omega
              · have d2 : decide ((j : Int) < 60) = false := by simp; omega
                have hc := honj.under hbj.size (by omega)
                have HJ := Lib.hid (And.intro honj hbj)
                clear honj hbj hm
                go_wp2_with fail
                refine hc.mono ?_
                clear hc
                rintro e w' ⟨rfl, hb'⟩
                have HK := Lib.hid hb'
                clear hb'
                go_wp2_with fail
                go_ret
                exact ⟨rfl, HB.out.trans ((HJ.out.2.trans (HK.out.mono HJ.out.2.size)).mono HB.out.size)⟩
            · have d1 : decide ((j : Int) < more) = false := by simpa using hm
              have hc := honj.under hbj.size (by omega)
              have HJ := Lib.hid (And.intro honj hbj)
              clear honj hbj hm
              go_wp2_with fail
              refine hc.mono ?_
              clear hc
              rintro e w' ⟨rfl, hb'⟩
              have HK := Lib.hid hb'
              clear hb'
              go_wp2_with fail
              go_ret
              exact ⟨rfl, HB.out.trans ((HJ.out.2.trans (HK.out.mono HJ.out.2.size)).mono HB.out.size)⟩
      · have b3 : decide ((k : Int) < (zs.length : Int)) = false := by simp; omega
        have HE := Lib.hid (And.intro hone hbr)
        clear hone hbr
        obtain ⟨wb, hwb⟩ : ∃ wb : World, wb = wr := ⟨_, rfl⟩
        subst hwb
        go_wp2_with fail
        go_loopw [16] (fun i wr => ∃ j : Nat, j ≤ 60 ∧ i = .int .i64 j ∧ One w0.heap.size wr p (1026 + 1026 * 50 + 1026 * j) ∧ Below w0.heap.size w0 wr) (fun i _ => 60 - (intOf i).toNat)
        case atStart => exact ⟨0, by omega, rfl, by
          obtain ⟨U, s, lg, g1, g2, g3⟩ := HE.out.1
          exact ⟨U, s, lg, g1, g2.more (by omega), g3⟩, HE.out.2⟩
        case round =>
          obtain ⟨j, hj, rfl, honj, hbj⟩ := hrel
          by_cases hm : (j : Int) < more
          · have d1 : decide ((j : Int) < more) = true := by simpa using hm
            by_cases h6 : j < 60
            · have d2 : decide ((j : Int) < 60) = true := by simp; omega
              have hc := honj.plays hbj.size (by omega) (1 + 3 * ((j : Int) % 2)) 1024 0 to_ 0 false A c xs ((HBW.out wr hbj).mono (fun i hi _ => by have := HB.out.size; omega))
              have HJ := Lib.hid (And.intro honj hbj)
              clear honj hbj hm
              go_wp2_with fail
              refine hc.mono ?_
              clear hc
              rintro e w' ⟨rfl, hone', hb'⟩
              have HK := Lib.hid (And.intro hone' hb')
              clear hone' hb'
              go_wp2_with fail
              go_roundw
              case rel => exact ⟨j + 1, by omega, by go_num, by
                have := HK.out.1
                rwa [show (1026 + 1026 * 50 + 1026 * ((j + 1 : Nat) : Int)) = 1026 + 1026 * 50 + 1026 * (j : Int) + 1026 by omega], HJ.out.2.trans HK.out.2⟩
              case measure => simp [intOf]; omega
            · have d2 : decide ((j : Int) < 60) = false := by simp; omega
              have hc := honj.under hbj.size (by omega)
              have HJ := Lib.hid (And.intro honj hbj)
              clear honj hbj hm
              go_wp2_with fail
              refine hc.mono ?_
              clear hc
              rintro e w' ⟨rfl, hb'⟩
              have HK := Lib.hid hb'
              clear hb'
              go_wp2_with fail
              go_ret
              exact ⟨rfl, HB.out.trans ((HJ.out.2.trans (HK.out.mono HJ.out.2.size)).mono HB.out.size)⟩
          · have d1 : decide ((j : Int) < more) = false := by simpa using hm
            have hc := honj.under hbj.size (by omega)
            have HJ := Lib.hid (And.intro honj hbj)
            clear honj hbj hm
            go_wp2_with fail
            refine hc.mono ?_
            clear hc
            rintro e w' ⟨rfl, hb'⟩
            have HK := Lib.hid hb'
            clear hb'
            go_wp2_with fail
            go_ret
            exact ⟨rfl, HB.out.trans ((HJ.out.2.trans (HK.out.mono HJ.out.2.size)).mono HB.out.size)⟩
end Go.Proofs.Ytpakocgbbggolaa
