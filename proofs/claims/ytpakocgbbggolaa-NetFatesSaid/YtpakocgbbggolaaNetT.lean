import Derived.Test.YtpakocgbbggolaaNetP0
import Derived.Deep.DeepCutAuto
import Derived.Deep.RegionLaw
import Derived.StillTailTactics
set_option linter.unusedSimpArgs false
set_option linter.unusedVariables false
namespace Go.Proofs.Ytpakocgbbggolaa
open Go.RowKit Go.Proofs.Cul Go.ChangeMaps

/-- A row of bytes of its own: an index. -/
theorem ownB_idx {w : World} {base : Nat} {v : Value} {ys : List Int} (h : w.ownsRow base 5 1 v ys.length (u8s ys)) (k : Nat) (hk : k < ys.length) :
    ∃ gb, v.ownBlock = some gb ∧ (∀ W : World, (Instr.indexAt 26 v (.int .i64 (k : Int))).run Try.prog W = .ok (.pointer (some ⟨gb, k, none⟩)) W) ∧ w.frozen? ⟨gb, k, none⟩ = false ∧ w.cell? ⟨gb, k, none⟩ = some (.int .u8 (rdI ys k)) := by
  obtain ⟨i5, hi5, hy0, hy1, hy2⟩ := info_parts info5
  obtain ⟨gb, hgb, hix, ⟨cur, hcur⟩, hcs⟩ := own_idx h Try.underlying26 hi5 hy1 k hk
  have v2 := hcs 0 (.int .u8 (rdI ys k)) (by omega) (by simp [u8s, hk, rdI_lt hk])
  simp only [Nat.mul_one, Nat.add_zero] at v2 hix
  exact ⟨gb, hgb, hix, frozen_at hcur k, v2⟩
theorem ownB_set {w : World} {base : Nat} {v : Value} {ys : List Int} (h : w.ownsRow base 5 1 v ys.length (u8s ys)) {gb : Nat} (hgb : v.ownBlock = some gb) (k : Nat) (hk : k < ys.length) (x : Int) :
    (w.setCell ⟨gb, k, none⟩ (.int .u8 x)).ownsRow base 5 1 v (ys.set k x).length (u8s (ys.set k x)) := by
  have := own_set h hgb k (by omega) (.int .u8 x)
  rw [u8s_set] at this
  simpa using this

/-- The first loop of 'sends' on the room: b is laid down. -/
def laid (xs ys : List Int) (k : Nat) : List Int := xs.take k ++ ys.drop k
theorem laid_zero (xs ys : List Int) : laid xs ys 0 = ys := by simp [laid]
theorem laid_len {xs ys : List Int} {k : Nat} (h1 : k ≤ xs.length) (h2 : xs.length ≤ ys.length) : (laid xs ys k).length = ys.length := by simp [laid]; omega
theorem laid_step {xs ys : List Int} {k : Nat} (h1 : k < xs.length) (h2 : xs.length ≤ ys.length) : (laid xs ys k).set k (rdI xs k) = laid xs ys (k + 1) := by
  have h3 : (xs.take k).length = k := by simp; omega
  have h4 : k < ys.length := by omega
  rw [laid, laid, List.take_succ_eq_append_getElem h1, List.set_append_right _ _ (by omega), h3, Nat.sub_self, List.drop_eq_getElem_cons h4, rdI_lt h1, List.set_cons_zero, List.append_assoc, List.singleton_append]
theorem laid_isB {xs ys : List Int} (h1 : IsB xs) (h2 : IsB ys) (k : Nat) : IsB (laid xs ys k) := fun x hx => by
  rcases List.mem_append.1 hx with h | h
  · exact h1 x (List.mem_of_mem_take h)
  · exact h2 x (List.mem_of_mem_drop h)

/-- The room after the marks. -/
def marked (xs ys : List Int) : List Int := (((laid xs ys xs.length).set xs.length 201).set (xs.length + 1) 202).set (xs.length + 2) 203

/-- 'sends' past its first looks: the room is long enough. -/
structure Room (w : World) (p gx gr : Nat) (Sx Sr : Nat → Prop) (room : Value) (ys : List Int) (s : St) (long : Bool) : Prop where
  hp : w.heap[p]? = some (.cells #[.pointer (some ⟨gx, 0, none⟩), .pointer (some ⟨gr, 0, none⟩), room, .bool long] 35 (0, 0))
  hn : NetP w Sx gx s
  hr : RefP w Sr gr s
  hx : ∀ k, Sx k → k < w.heap.size ∧ k ≠ p
  hy : ∀ k, Sr k → k < w.heap.size ∧ k ≠ p ∧ ¬ Sx k
  ho : w.ownsRow 0 5 1 room ys.length (u8s ys)
  hb : IsB ys
  hro : ∀ k, room.ownBlock = some k → k ≠ p ∧ ¬ Sx k ∧ ¬ Sr k

theorem NetP.self {w : World} {S : Nat → Prop} {g : Nat} {s : St} (h : NetP w S g s) : S g ∧ g < w.heap.size := by
  obtain ⟨m, clock, T, hg, hS, _⟩ := h
  exact ⟨hS, lt_of_heap hg⟩
theorem RefP.self {w : World} {S : Nat → Prop} {g : Nat} {s : St} (h : RefP w S g s) : S g ∧ g < w.heap.size := by
  obtain ⟨L, ds, hg, hS, _⟩ := h
  exact ⟨hS, lt_of_heap hg⟩
/-- Behind both Sends and the room's last writing. -/
theorem pair_close {w wd w2 w3 w5 : World} {U Sx Sr : Nat → Prop} {p gx gr : Nat} {s s' : St} {room : Value} {Z Z' : List Int} {long : Bool} (R : Room wd p gx gr Sx Sr room Z s long) (hKA : Kp U w wd) (hUx : ∀ k, Sx k → U k) (hUr : ∀ k, Sr k → U k) (hUp : U p)
    (hro1 : ∀ k, room.ownBlock = some k → U k ∨ w.heap.size ≤ k) (n2 : NetP w2 (Ext Sx wd w2) gx s') (k2 : Kp Sx wd w2) (r3 : RefP w3 (Ext Sr w2 w3) gr s') (k3 : Kp Sr w2 w3)
    (o5 : w5.ownsRow 0 5 1 room Z'.length (u8s Z')) (hZ' : IsB Z') (k5 : Kp (fun i => room.ownBlock = some i) w3 w5) : PairP w5 (Ext U w w5) p s' long ∧ Kp U w w5 := by
  have hrl : ∀ k, room.ownBlock = some k → k < wd.heap.size := fun k hk => (R.ho.lt k hk).2
  have hpl := lt_of_heap R.hp
  have z1 := hKA.size
  have z2 := k2.size
  have z3 := k3.size
  have z5 := k5.size
  have hpp : w5.heap[p]? = wd.heap[p]? := by
    rw [k5.block p (by omega) (fun e => (R.hro p e).1 rfl), k3.block p (by omega) (fun e => (R.hy p e).2.1 rfl), k2.block p hpl (fun e => (R.hx p e).2 rfl)]
  have K : Kp U w w5 := by
    refine ((hKA.then_ (k2.mono hUx)).then_ (k3.mono hUr)).trans k5 (fun k hk => hro1 k hk)
  refine ⟨⟨gx, gr, Ext Sx wd w2, Ext Sr w2 w3, room, Z', hpp.trans R.hp, Or.inl hUp, ?_, ?_, fun k hk => ?_, fun k hk => ?_, o5, hZ', fun k hk => ?_⟩, K⟩
  · refine n2.move (fun k hk hl => ?_)
    rw [k5.block k (by omega) (fun e => ?_), k3.block k hl (fun e => ?_)]
    · rcases hk with h | h
      · exact (R.hy k e).2.2 h
      · have := (R.hy k e).1
        omega
    · rcases hk with h | h
      · exact (R.hro k e).2.1 h
      · have := hrl k e
        omega
  · refine r3.move (fun k hk hl => ?_)
    rw [k5.block k (by omega) (fun e => ?_)]
    rcases hk with h | h
    · exact (R.hro k e).2.2 h
    · have := hrl k e
      omega
  · rcases hk with h | h
    · have := (R.hx k h)
      exact ⟨Or.inl (hUx k h), by omega, this.2⟩
    · exact ⟨Or.inr ⟨by omega, by omega⟩, by omega, by omega⟩
  · rcases hk with h | h
    · have := (R.hy k h)
      exact ⟨Or.inl (hUr k h), by omega, this.2.1, fun e => e.elim this.2.2 (fun e => by omega)⟩
    · exact ⟨Or.inr ⟨by omega, by omega⟩, by omega, by omega, fun e => e.elim (fun e => by have := (R.hx k e).1; omega) (fun e => by omega)⟩
  · have h1 := hrl k hk
    have h2 := R.hro k hk
    refine ⟨?_, h2.1, fun e => e.elim h2.2.1 (fun e => by omega), fun e => e.elim h2.2.2 (fun e => by omega)⟩
    rcases hro1 k hk with h | h
    · exact Or.inl h
    · exact Or.inr ⟨h, by omega⟩

set_option maxRecDepth 100000 in
theorem sends_long (w : World) (p : Nat) (to_ : Int) (v : Value) (xs : List Int) (Sb : Nat → Prop) (hb : RB w Sb v xs) (hlong : 65536 < xs.length) :
    Calls Try.prog 27 #[.pointer (some ⟨p, 0, none⟩), .int .i64 to_, v] w fun e w' => e = .returned (.bool true) ∧ w = w' := by
  have ld := lenB hb
  have b1 : decide ((65536 : Int) < (xs.length : Int)) = true := by simp; omega
  go_enter Try.func27, Try.ntmps27
  go_wp2
  go_ret
  exact ⟨rfl, rfl⟩

/-- The marks behind b. -/
def markN (n : Nat) (L : List Int) : Nat → List Int
  | 0 => L
  | j + 1 => (markN n L j).set (n + j) (201 + j)
theorem markN_len (n : Nat) (L : List Int) : ∀ j, (markN n L j).length = L.length
  | 0 => rfl
  | j + 1 => by simp [markN, markN_len n L j]
theorem markN_isB {n : Nat} {L : List Int} (h : IsB L) : ∀ {j}, j ≤ 3 → IsB (markN n L j)
  | 0, _ => h
  | j + 1, hj => fun x hx => by
    rcases List.mem_or_eq_of_mem_set hx with hx | rfl
    · exact markN_isB h (by omega) x hx
    · omega

/-- A new room. -/
theorem make5 (n : Nat) (hn : n ≤ 1048576) (W : World) : (Instr.makeSlice 26 (.int .i64 (n : Int)) (.int .i64 (n : Int))).run Try.prog W = .ok (.slice (some ⟨W.heap.size, 0, none⟩) n n) (W.alloc (.cells (madeCells #[.int .u8 0] n) 5)) := by
  obtain ⟨i0, hi, hz0, hz1, hz2⟩ := info_parts info5
  have h := run_make (P := Try.prog) W 26 5 i0 _ Try.underlying26 hi hz0 .i64 .i64 n n (by omega) (Int.le_refl _) (by rw [hz2]; omega) (by omega)
  rw [hz1] at h
  have hc : (Value.int .u8 0).cells = #[.int .u8 0] := rfl
  simpa [hc] using h
theorem make5_own (n : Nat) (hn : n ≤ 1048576) (W : World) : (W.alloc (.cells (madeCells #[.int .u8 0] n) 5)).ownsRow 0 5 1 (.slice (some ⟨W.heap.size, 0, none⟩) n n) (List.replicate n (0 : Int)).length (u8s (List.replicate n 0)) := by
  refine ⟨by simp [u8s], .inr ⟨W.heap.size, n, madeCells #[.int .u8 0] n, by simp, Nat.zero_le _, heap_alloc_new W _, by simp, by unfold maxLen; omega, by simp [madeCells], ?_⟩⟩
  apply List.ext_getElem?
  intro j
  by_cases hj : j < n
  · simp [madeCells, u8s, hj, List.getElem?_take_of_lt, Nat.mod_one]
  · simp [madeCells, u8s, hj]


theorem laid_take (xs ys : List Int) : (laid xs ys xs.length).take xs.length = xs := by
  simp [laid]
theorem markN_take {n : Nat} {L : List Int} : ∀ j, (markN n L j).take n = L.take n
  | 0 => rfl
  | j + 1 => by rw [markN, List.take_set_of_le (by omega), markN_take j]
theorem markN_rd {n : Nat} {L : List Int} (h : n + 3 ≤ L.length) (i : Nat) (hi : i < 3) : rdI (markN n L 3) (n + i) = 201 + i := by
  have h0 : n < L.length := by omega
  have h1 : n + 1 < L.length := by omega
  have h2 : n + 2 < L.length := by omega
  rcases (show i = 0 ∨ i = 1 ∨ i = 2 by omega) with rfl | rfl | rfl
  all_goals simp [markN, rdI, List.getD, List.getElem?_set, h0, h1, h2]
theorem Room.turned {w w' : World} {p gx gr : Nat} {Sx Sr : Nat → Prop} {room : Value} {ys Z : List Int} {s : St} {long : Bool} (R : Room w p gx gr Sx Sr room ys s long) (K : Kp (fun i => room.ownBlock = some i) w w')
    (ho : w'.ownsRow 0 5 1 room Z.length (u8s Z)) (hZ : IsB Z) : Room w' p gx gr Sx Sr room Z s long :=
  ⟨(K.block p (lt_of_heap R.hp) (fun e => (R.hro p e).1 rfl)).trans R.hp, R.hn.kp K (fun i hi e => (R.hro i e).2.1 hi), R.hr.kp K (fun i hi e => (R.hro i e).2.2 hi),
    fun k hk => ⟨Nat.lt_of_lt_of_le (R.hx k hk).1 K.size, (R.hx k hk).2⟩, fun k hk => ⟨Nat.lt_of_lt_of_le (R.hy k hk).1 K.size, (R.hy k hk).2⟩, ho, hZ, R.hro⟩
theorem Room.drew {w : World} {p gx gr : Nat} {Sx Sr : Nat → Prop} {room : Value} {ys : List Int} {s : St} {long : Bool} (R : Room w p gx gr Sx Sr room ys s long) : Room w.drew p gx gr Sx Sr room ys s long :=
  R.turned ((Kp.refl _ _).drew) (own_kp R.ho ((Kp.refl (fun _ => False) _).drew) (fun _ _ h => h)) R.hb
/-- The room up to b's length. -/
theorem Room.cut {w : World} {p gx gr : Nat} {Sx Sr : Nat → Prop} {room : Value} {ys xs : List Int} {s : St} {long : Bool} (R : Room w p gx gr Sx Sr room ys s long) (h : xs.length ≤ ys.length) (ht : ys.take xs.length = xs) :
    ∃ u, (∀ W : World, (Instr.slice 26 room none (some (.int .i64 (xs.length : Int))) none).run Try.prog W = .ok u W) ∧ RB w (fun k => room.ownBlock = some k) u xs := by
  obtain ⟨i5, hi5, hy0, hy1, hy2⟩ := info_parts info5
  obtain ⟨u, _, h2, h3⟩ := (SV.of_own (S := fun k => room.ownBlock = some k) R.ho (fun k hk => hk)).cut Try.underlying26 hi5 hy1 none (some (.int .i64 (xs.length : Int))) 0 xs.length (Or.inl ⟨rfl, rfl⟩) (Or.inr rfl) (Nat.zero_le _) h
  refine ⟨u, h2, RB.of_sv ?_ (fun x hx => R.hb x (List.mem_of_mem_take (by rw [ht]; exact hx)))⟩
  have e : ((u8s ys).take (xs.length * 1)).drop (0 * 1) = u8s xs := by
    simp only [Nat.mul_one, Nat.zero_mul, List.drop_zero]
    rw [u8s, ← List.map_take, ht]; rfl
  rw [e] at h3
  simpa using h3

end Go.Proofs.Ytpakocgbbggolaa
