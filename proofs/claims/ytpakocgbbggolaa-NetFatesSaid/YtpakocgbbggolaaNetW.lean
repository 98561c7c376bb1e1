import Derived.Test.YtpakocgbbggolaaNetV
import Derived.Test.YtpakocgbbggolaaNetS
set_option linter.unusedSimpArgs false
set_option linter.unusedVariables false
namespace Go.Proofs.Ytpakocgbbggolaa
open Go.RowKit Go.Proofs.Cul Go.ChangeMaps

theorem PairP.room {w : World} {U : Nat → Prop} {p : Nat} {s : St} {long : Bool} (h : PairP w U p s long) :
    ∃ gx gr Sx Sr room ys, Room w p gx gr Sx Sr room ys s long ∧ (∀ k, Sx k → U k) ∧ (∀ k, Sr k → U k) ∧ U p ∧ (∀ k, room.ownBlock = some k → U k) := by
  obtain ⟨gx, gr, Sx, Sr, room, ys, hp, hU, hn, hr, hx, hy, ho, hyb, hro⟩ := h
  exact ⟨gx, gr, Sx, Sr, room, ys, ⟨hp, hn, hr, fun k hk => (hx k hk).2, fun k hk => (hy k hk).2, ho, hyb, fun k hk => (hro k hk).2⟩, fun k hk => (hx k hk).1, fun k hk => (hy k hk).1, hU, fun k hk => (hro k hk).1⟩
/-- One call at each net. -/
theorem pair_next {w wd w2 w2' w3 w5 : World} {U Sx Sr : Nat → Prop} {p gx gr : Nat} {s s' : St} {room : Value} {Z : List Int} {long : Bool} (R : Room wd p gx gr Sx Sr room Z s long) (hKA : Kp U w wd) (hUx : ∀ k, Sx k → U k) (hUr : ∀ k, Sr k → U k) (hUp : U p)
    (hro1 : ∀ k, room.ownBlock = some k → U k) (n2 : NetP w2 (Ext Sx wd w2) gx s') (k2 : Kp Sx wd w2) (b2 : Below w2.heap.size w2 w2') (r3 : RefP w3 (Ext Sr w2' w3) gr s') (k3 : Kp Sr w2' w3) (b5 : Below w3.heap.size w3 w5) :
    PairP w5 (Ext U w w5) p s' long ∧ Kp U w w5 := by
  have k3' : Kp Sr w2 w3 := (Kp.of_below b2 Sr).then_ k3
  have r3' : RefP w3 (Ext Sr w2 w3) gr s' := r3.mono (fun k hk _ => by
    rcases hk with hk | hk
    · exact Or.inl hk
    · exact Or.inr ⟨Nat.le_trans b2.size hk.1, hk.2⟩)
  have k5 : Kp (fun i => room.ownBlock = some i) w3 w5 := Kp.of_below b5 _
  have o5 : w5.ownsRow 0 5 1 room Z.length (u8s Z) := own_move' (own_kp (own_kp R.ho k2 (fun i hi => (R.hro i hi).2.1)) k3' (fun i hi => (R.hro i hi).2.2)) (fun k _ hl => b5.block k hl)
  exact pair_close R hKA hUx hUr hUp (fun k hk => Or.inl (hro1 k hk)) n2 k2 r3' k3' o5 R.hb k5

/-- What 'plays' promises. -/
def PlayTo (U : Nat → Prop) (w : World) (p : Nat) (n : Int) (e : Ending) (w' : World) : Prop := ∃ s' long', Good s' n ∧ e = .returned (.bool true) ∧ PairP w' (Ext U w w') p s' long' ∧ Kp U w w'
theorem PairP.up {w w1 w' : World} {U : Nat → Prop} {p : Nat} {s : St} {long : Bool} (h : PairP w' (Ext U w1 w') p s long) (hb : Below w.heap.size w w1) : PairP w' (Ext U w w') p s long :=
  h.mono (fun k hk _ => by
    rcases hk with hk | hk
    · exact Or.inl hk
    · exact Or.inr ⟨Nat.le_trans hb.size hk.1, hk.2⟩)
theorem find_len {n : Int} {s : St} (h : Good s n) {no : Int} {f : Fl} (hf : find no s.fl = some f) : f.data.length ≤ 65536 := h.len f (find_mem hf).1
theorem Good.take {s : St} {n : Int} (h : Good s n) (no : Int) : Good (s.take no) n :=
  ⟨h.ok.take no, h.giv, fun f hf => h.len f ((strike_sub no _).subset hf)⟩
theorem Good.copy {s : St} {n : Int} (h : Good s n) (no : Int) : Good (s.copy no).2 (n + 1) := by
  unfold St.copy
  split
  · exact h.more (by omega)
  · rename_i f hf
    exact h.send _ _ (find_len h hf)
theorem Good.flip {s : St} {n : Int} (h : Good s n) (no at_ x : Int) : Good (s.flip no at_ x).2 n := by
  refine ⟨h.ok.flip no at_ x, ?_, ?_⟩
  · have := h.giv
    unfold St.flip
    split
    · exact this
    · split <;> exact this
  · have hl := h.len
    unfold St.flip
    split
    · exact hl
    · rename_i f hf
      split
      · intro g hg
        simp only at hg
        have : ∀ l : List Fl, (∀ f ∈ l, f.data.length ≤ 65536) → ∀ g ∈ alter no (flipB f.data at_ x) l, g.data.length ≤ 65536 := by
          intro l
          induction l with
          | nil => intro _ g hg; simp [alter] at hg
          | cons a r ih =>
            intro hl g hg
            by_cases e : no = a.no
            · simp only [alter, if_pos e, List.mem_cons] at hg
              rcases hg with rfl | hg
              · have := find_len h hf
                simpa [flipB] using this
              · exact hl g (List.mem_cons_of_mem _ hg)
            · simp only [alter, if_neg e, List.mem_cons] at hg
              rcases hg with rfl | hg
              · exact hl _ List.mem_cons_self
              · exact ih (fun f hf => hl f (List.mem_cons_of_mem _ hf)) g hg
        exact this _ hl g hg
      · exact hl
theorem Good.len' {s : St} {n : Int} (h : Good s n) : ∀ f ∈ s.fl, f.data.length ≤ 1048576 := fun f hf => by have := h.len f hf; omega
theorem Good.room' {s : St} {n : Int} (h : Good s n) : s.fl.length ≤ 4096 := by have := h.ok.room; omega

set_option maxRecDepth 100000 in
theorem plays_drop (w : World) (U : Nat → Prop) (p : Nat) (s : St) (long : Bool) (h : PairP w U p s long) (hUb : ∀ k, U k → k < w.heap.size) (n : Int) (hg : Good s n) (hgn : n ≤ 4611686018427380000) (no at_ to_ x : Int) (sec : Bool)
    (A : Option Addr) (c m : Nat) :
    Calls Try.prog 10 #[.pointer (some ⟨p, 0, none⟩), opV 3 sec to_ no x at_ (.slice A m c)] w (PlayTo U w p (n + 1026)) := by
  have B1 : Below w.heap.size w (w.alloc (opB 3 sec to_ no x at_ (.slice A m c))) := (Below.refl _ _).alloc (Nat.le_refl _) _
  have hx := heap_alloc_new w (opB 3 sec to_ no x at_ (.slice A m c))
  obtain ⟨gx, gr, Sx, Sr, room, ys, R, hUx, hUr, hUp, hUo⟩ := (h.below B1).room
  obtain ⟨w1, hw1⟩ : ∃ W, w.alloc (opB 3 sec to_ no x at_ (.slice A m c)) = W := ⟨_, rfl⟩
  rw [hw1] at B1 hx R
  have hnum := num_calls
  have c0 : w1.cell? ⟨p, 0, none⟩ = some (.pointer (some ⟨gx, 0, none⟩)) := cell_at R.hp 0
  have o0 : w1.cell? ⟨w.heap.size, 0, none⟩ = some (.int .i64 3) := cell_at hx 0
  have o3 : w1.cell? ⟨w.heap.size, 3, none⟩ = some (.int .i64 no) := cell_at hx 3
  have RD := R.drew
  have s2 := netDrop_calls w1.drew Sx gx s RD.hn (fun k hk => (RD.hx k hk).1) no
  have HR := Lib.hid (And.intro RD (And.intro B1 hx))
  have HU := Lib.hid (And.intro hUx (And.intro hUr (And.intro hUp (And.intro hUo (And.intro hUb hg)))))
  clear R RD B1 hx h hUx hUr hUp hUo hUb hg
  go_enter Try.func10, Try.ntmps10
  go_wp2_with fail
  go_still_tail 6, (by kernel_rfl)
  change wpList _ _ _ _ _ w1.drew
  go_wp2_with fail
  refine s2.mono ?_
  clear s2
  rintro e w2 ⟨rfl, hn2, hk2⟩
  have hp2 : w2.heap[p]? = _ := (hk2.block p (lt_of_heap HR.out.1.hp) (fun e => (HR.out.1.hx p e).2 rfl)).trans HR.out.1.hp
  have hx2 : w2.heap[w.heap.size]? = _ := (hk2.block w.heap.size (lt_of_heap HR.out.2.2) (fun e => by have := HU.out.2.2.2.2.1 _ (HU.out.1 _ e); omega)).trans HR.out.2.2
  have c1 : w2.cell? ⟨p, 1, none⟩ = some (.pointer (some ⟨gr, 0, none⟩)) := cell_at hp2 1
  have o3' : w2.cell? ⟨w.heap.size, 3, none⟩ = some (.int .i64 no) := cell_at hx2 3
  have r2 : RefP w2.drew Sr gr s := (HR.out.1.hr.kp hk2 (fun i hi => (HR.out.1.hy i hi).2.2)).below ((Below.refl _ _).drew)
  have s3 := refDrop_calls w2.drew Sr gr s r2 (fun k hk => Nat.lt_of_lt_of_le (HR.out.1.hy k hk).1 hk2.size) HU.out.2.2.2.2.2.room' no
  have HK2 := Lib.hid (And.intro hn2 hk2)
  clear hn2 hk2 hp2 hx2 r2
  go_wp2_with fail
  go_still_tail 6, (by kernel_rfl)
  change wpList _ _ _ _ _ w2.drew
  go_wp2_with fail
  refine s3.mono ?_
  clear s3
  rintro e w3 ⟨rfl, hr3, hk3⟩
  have HK3 := Lib.hid (And.intro hr3 hk3)
  clear hr3 hk3
  go_wp2_with (go_at_call 15; refine (hnum _ _).mono ?_; rintro e w' ⟨rfl, rfl⟩)
  go_ret
  have := pair_next (w := w) HR.out.1 (Kp.drew (Kp.of_below HR.out.2.1 U)) HU.out.1 HU.out.2.1 HU.out.2.2.1 HU.out.2.2.2.1 (HK2.out.1.ext _ _) HK2.out.2 ((Below.refl _ _).drew) HK3.out.1 HK3.out.2 (Below.refl _ _)
  exact ⟨_, _, (HU.out.2.2.2.2.2.take no).more (by omega), rfl, this.1, this.2⟩
end Go.Proofs.Ytpakocgbbggolaa
