import Derived.Test.YtpakocgbbggolaaNetU
set_option linter.unusedSimpArgs false
set_option linter.unusedVariables false
namespace Go.Proofs.Ytpakocgbbggolaa
open Go.RowKit Go.Proofs.Cul Go.ChangeMaps

/-- Many sends. -/
def sendMany (to_ : Int) (xs : List Int) : Nat → St → St
  | 0, s => s
  | k + 1, s => ((sendMany to_ xs k s).send to_ xs).2
/-- A state whose numbers and packets are small. -/
structure Good (s : St) (n : Int) : Prop where
  ok : s.Ok
  giv : s.given ≤ n
  len : ∀ f ∈ s.fl, f.data.length ≤ 65536
theorem Good.send {s : St} {n : Int} (h : Good s n) (to_ : Int) (xs : List Int) (hl : xs.length ≤ 65536) : Good (s.send to_ xs).2 (n + 1) := by
  refine ⟨h.ok.send to_ xs, ?_, ?_⟩
  · have := h.giv
    unfold St.send
    split <;> simp <;> omega
  · intro f hf
    unfold St.send at hf
    split at hf
    · exact h.len f hf
    · simp only [List.mem_append, List.mem_singleton] at hf
      rcases hf with hf | rfl
      · exact h.len f hf
      · exact hl
theorem Good.more {s : St} {n m : Int} (h : Good s n) (hm : n ≤ m) : Good s m := ⟨h.ok, Int.le_trans h.giv hm, h.len⟩
theorem Good.sendMany {s : St} {n : Int} (h : Good s n) (to_ : Int) (xs : List Int) (hl : xs.length ≤ 65536) : ∀ k : Nat, Good (sendMany to_ xs k s) (n + k)
  | 0 => by simpa [Go.Proofs.Ytpakocgbbggolaa.sendMany] using h
  | k + 1 => by
    have := (Good.sendMany h to_ xs hl k).send to_ xs hl
    refine this.more (by omega)
def manyS (s : St) (to_ x : Int) (xs : List Int) : St := if 4096 < xs.length ∨ x < -2 ∨ 2 < x then s else sendMany to_ xs (1024 + x - s.fl.length).toNat s
theorem Good.many_ {s : St} {n : Int} (h : Good s n) (to_ x : Int) (xs : List Int) : Good (manyS s to_ x xs) (n + 1026) := by
  unfold manyS
  split
  · exact h.more (by omega)
  · exact (h.sendMany to_ xs (by omega) _).more (by omega)

theorem Ext.old {U : Nat → Prop} {w w' : World} {k : Nat} (h : Ext U w w' k) (hk : k < w.heap.size) : U k := by
  rcases h with h | h
  · exact h
  · omega
theorem Kp.ext2 {U : Nat → Prop} {w w1 w2 : World} (h : Kp U w w1) (k : Kp (Ext U w w1) w1 w2) : Kp U w w2 :=
  h.trans k (fun i hi => by
    rcases hi with hi | hi
    · exact Or.inl hi
    · exact Or.inr hi.1)
theorem PairP.ext2 {U : Nat → Prop} {w w1 w2 : World} {p : Nat} {s : St} {long : Bool} (h : PairP w2 (Ext (Ext U w w1) w1 w2) p s long) (h1 : w.heap.size ≤ w1.heap.size) (h2 : w1.heap.size ≤ w2.heap.size) : PairP w2 (Ext U w w2) p s long :=
  h.mono (fun k hk _ => by
    rcases hk with hk | hk
    · rcases hk with hk | hk
      · exact Or.inl hk
      · exact Or.inr ⟨hk.1, by omega⟩
    · exact Or.inr ⟨by omega, hk.2⟩)
theorem PairP.ext {U : Nat → Prop} {w w1 w2 : World} {p : Nat} {s : St} {long : Bool} (h : PairP w U p s long) : PairP w (Ext U w1 w2) p s long := h.mono (fun k hk _ => Or.inl hk)
/-- An operation's value. -/
abbrev opV (kind : Int) (sec : Bool) (to_ no x at_ : Int) (v : Value) : Value := .agg #[.int .i64 kind, .bool sec, .int .i64 to_, .int .i64 no, .int .i64 x, .int .i64 at_, v]
abbrev opB (kind : Int) (sec : Bool) (to_ no x at_ : Int) (v : Value) : Obj := .cells #[.int .i64 kind, .bool sec, .int .i64 to_, .int .i64 no, .int .i64 x, .int .i64 at_, v] 28

/-- The pair went on to s'. -/
def PairTo (U : Nat → Prop) (w : World) (p : Nat) (s' : St) (e : Ending) (w' : World) : Prop := ∃ long', e = .returned (.bool true) ∧ PairP w' (Ext U w w') p s' long' ∧ Kp U w w'
theorem Kp.size' {U : Nat → Prop} {w w' : World} (h : Kp U w w') : w.heap.size ≤ w'.heap.size := h.size

set_option maxHeartbeats 1000000 in
set_option maxRecDepth 100000 in
theorem many_calls (w : World) (U Sb : Nat → Prop) (p : Nat) (s : St) (long : Bool) (h : PairP w U p s long) (hUb : ∀ k, U k → k < w.heap.size) (n : Int) (hg : Good s n) (hgn : n ≤ 4611686018427380000) (kind no at_ to_ x : Int) (sec : Bool)
    (A : Option Addr) (c : Nat) (xs : List Int) (hb : RB w Sb (.slice A xs.length c) xs) (hdis : ∀ k, Sb k → ¬ U k ∧ k < w.heap.size) :
    Calls Try.prog 12 #[.pointer (some ⟨p, 0, none⟩), opV kind sec to_ no x at_ (.slice A xs.length c)] w (PairTo U w p (manyS s to_ x xs)) := by
  have ld := lenB hb
  have B1 : Below w.heap.size w (w.alloc (opB kind sec to_ no x at_ (.slice A xs.length c))) := (Below.refl _ _).alloc (Nat.le_refl _) _
  have h1 := h.below B1
  have H1 := Lib.hid (And.intro B1 h1)
  by_cases hq : 4096 < xs.length ∨ x < -2 ∨ 2 < x
  · have em : manyS s to_ x xs = s := by unfold manyS; rw [if_pos hq]
    rw [em]
    clear em h1 B1
    by_cases q1 : 4096 < xs.length
    · have b1 : decide ((4096 : Int) < (xs.length : Int)) = true := by simp; omega
      clear hq
      go_enter Try.func12, Try.ntmps12
      go_wp2
      go_ret
      exact ⟨long, rfl, H1.out.2.ext, Kp.of_below H1.out.1 U⟩
    · have b1 : decide ((4096 : Int) < (xs.length : Int)) = false := by simp; omega
      by_cases q2 : x < -2
      · have b2 : decide (x < -2) = true := by simpa using q2
        clear hq
        go_enter Try.func12, Try.ntmps12
        go_wp2
        go_ret
        exact ⟨long, rfl, H1.out.2.ext, Kp.of_below H1.out.1 U⟩
      · have b2 : decide (x < -2) = false := by simpa using q2
        have b3 : decide ((2 : Int) < x) = true := by simp; omega
        clear hq
        go_enter Try.func12, Try.ntmps12
        go_wp2
        go_ret
        exact ⟨long, rfl, H1.out.2.ext, Kp.of_below H1.out.1 U⟩
  · have em : manyS s to_ x xs = sendMany to_ xs (1024 + x - s.fl.length).toNat s := by unfold manyS; rw [if_neg hq]
    rw [em]
    clear em
    have b1 : decide ((4096 : Int) < (xs.length : Int)) = false := by simp; omega
    have b2 : decide (x < -2) = false := by simp; omega
    have b3 : decide ((2 : Int) < x) = false := by simp; omega
    have hx4 : xs.length ≤ 4096 := by omega
    have hx1 : -2 ≤ x := by omega
    have hx2 : x ≤ 2 := by omega
    have lm := hg.ok.room
    obtain ⟨T, hT⟩ : ∃ T : Nat, (T : Int) = 1024 + x - s.fl.length ∨ (T = 0 ∧ 1024 + x - s.fl.length < 0) := by
      rcases Int.lt_or_le (1024 + x - s.fl.length) 0 with h | h
      · exact ⟨0, Or.inr ⟨rfl, h⟩⟩
      · exact ⟨(1024 + x - s.fl.length).toNat, Or.inl (by omega)⟩
    have hT2 : (1024 + x - s.fl.length).toNat = T := by omega
    rw [hT2]
    clear hT2 hq
    obtain ⟨w1, hw1⟩ : ∃ W, w.alloc (opB kind sec to_ no x at_ (.slice A xs.length c)) = W := ⟨_, rfl⟩
    have hx := heap_alloc_new w (opB kind sec to_ no x at_ (.slice A xs.length c))
    have hsz : w1.heap.size = w.heap.size + 1 := by rw [← hw1]; simp
    have HB1 := Lib.hid B1
    rw [hw1] at h1 hx HB1
    obtain ⟨gx, gr, Sx, Sr, room, ys, hp, hU, hn, hr, hxx, hyy, ho, hyb, hro⟩ := h1
    obtain ⟨L, hL, l0, l1, _, hRF⟩ := hr.reads
    have c1 : w1.cell? ⟨p, 1, none⟩ = some (.pointer (some ⟨gr, 0, none⟩)) := cell_at hp 1
    have ll := lenF hRF
    have P1 := Lib.hid (show PairP w1 U p s long from ⟨gx, gr, Sx, Sr, room, ys, hp, hU, hn, hr, hxx, hyy, ho, hyb, hro⟩)
    have p4 : w1.cell? ⟨w.heap.size, 4, none⟩ = some (.int .i64 x) := cell_at hx 4
    have p6 : w1.cell? ⟨w.heap.size, 6, none⟩ = some (.slice A xs.length c) := cell_at hx 6
    have HX := Lib.hid hx
    have HSZ := Lib.hid hsz
    have HG := Lib.hid (And.intro hg hgn)
    have HD := Lib.hid (And.intro hdis (And.intro hUb hb))
    clear hp hn hr hxx hyy ho hyb hro hL l1 hRF B1 h hx hsz hg hgn hdis hUb hb
    go_enter Try.func12, Try.ntmps12
    go_wp2_with fail
    clear l0 c1 ll p4 p6 hw1
    go_loopw [5] (fun i wr => ∃ k : Nat, k ≤ T ∧ i = .int .i64 (s.fl.length + k) ∧ ∃ lg, PairP wr (Ext U w1 wr) p (sendMany to_ xs k s) lg ∧ Kp U w1 wr) (fun i _ => s.fl.length + T - (intOf i).toNat)
    case atStart => exact ⟨0, Nat.zero_le _, by simp, long, P1.out.ext, Kp.refl _ _⟩
    case round =>
      obtain ⟨k, hk, rfl, lg, hpr, hkr⟩ := hrel
      have hxr : wr.heap[w.heap.size]? = _ := (hkr.block w.heap.size (by rw [HSZ.out]; omega) (fun e => by have := HD.out.2.1 _ e; omega)).trans HX.out
      have o2 : wr.cell? ⟨w.heap.size, 2, none⟩ = some (.int .i64 to_) := cell_at hxr 2
      have o4 : wr.cell? ⟨w.heap.size, 4, none⟩ = some (.int .i64 x) := cell_at hxr 4
      have o6 : wr.cell? ⟨w.heap.size, 6, none⟩ = some (.slice A xs.length c) := cell_at hxr 6
      clear hxr
      by_cases hlt : k < T
      · have hb5 : decide ((s.fl.length : Int) + (k : Int) < 1024 + x) = true := by simp; omega
        have hgk : Good (sendMany to_ xs k s) _ := Good.sendMany HG.out.1 to_ xs (by omega) k
        have hs := sends_calls wr (Ext U w1 wr) Sb p (sendMany to_ xs k s) lg hpr hgk.ok (by have := hgk.giv; have := HG.out.2; omega) to_ (.slice A xs.length c) xs
          ((HD.out.2.2.below HB1.out).kp hkr (fun i hi => (HD.out.1 i hi).1)) (fun i hi => ⟨fun e => by
            have h1 := HD.out.1 i hi
            rcases e with e | e
            · exact h1.1 e
            · have := HSZ.out
              omega, by have h1 := HD.out.1 i hi; have := HSZ.out; have := hkr.size; omega⟩) (by omega)
        have HK := Lib.hid hkr
        clear hpr hkr hgk
        go_wp2_with fail
        refine hs.mono ?_
        clear hs
        rintro e w2 ⟨rfl, hp2, hk2⟩
        have HP := Lib.hid (And.intro hp2 hk2)
        clear hp2 hk2
        go_wp2_with fail
        go_roundw
        case rel => exact ⟨k + 1, by omega, by go_num, _, HP.out.1.ext2 HK.out.size HP.out.2.size, Kp.ext2 HK.out HP.out.2⟩
        case measure => simp [intOf]; omega
      · have hkT : k = T := by omega
        subst hkT
        have hb5 : decide ((s.fl.length : Int) + (k : Int) < 1024 + x) = false := by simp; omega
        have HK := Lib.hid (And.intro hpr hkr)
        clear hpr hkr
        go_wp2_with fail
        go_ret
        exact ⟨lg, rfl, HK.out.1.mono (fun i hi _ => by
          rcases hi with hi | hi
          · exact Or.inl hi
          · exact Or.inr ⟨by have := HB1.out.size; omega, hi.2⟩), (Kp.of_below HB1.out U).then_ HK.out.2⟩
end Go.Proofs.Ytpakocgbbggolaa
