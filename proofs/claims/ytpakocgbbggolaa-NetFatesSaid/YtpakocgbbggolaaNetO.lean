import Derived.Test.YtpakocgbbggolaaNetM
import Derived.Test.YtpakocgbbggolaaNetN
import Derived.Test.YtpakocgbbggolaaCulSortK
set_option linter.unusedSimpArgs false
set_option linter.unusedVariables false
namespace Go.Proofs.Ytpakocgbbggolaa
open Go.RowKit Go.Proofs.Cul Go.Sort Go.Shelf

/-- A flight and its bytes' slice, its number small enough that a difference does not wrap. -/
abbrev FlV := { p : Fl × Value // (1 ≤ p.1.no ∧ p.1.no ≤ 4611686018427387904) ∧ p.2.oneCell' = true }
instance : Inhabited FlV := ⟨⟨(⟨1, 0, []⟩, .slice none 0 0), ⟨by decide, by decide⟩, rfl⟩⟩
def encP (p : Fl × Value) : List Value := [.int .i64 p.1.no, .int .i64 p.1.to, p.2]
def encFl (x : FlV) : List Value := encP x.1
def cmpFl (x y : FlV) : Int := x.1.1.no - y.1.1.no
theorem cmpFl_lt (x y : FlV) : ltOf cmpFl x y = decide (x.1.1.no < y.1.1.no) := by
  unfold ltOf cmpFl
  by_cases h : x.1.1.no < y.1.1.no
  · simp [h]; omega
  · simp [h]; omega
theorem cmpFl_swo : SWO (ltOf cmpFl) where
  irrefl x := by rw [cmpFl_lt]; simp
  trans x y z h1 h2 := by rw [cmpFl_lt] at *; simp at *; omega
  ntrans x y z h1 h2 := by rw [cmpFl_lt] at *; simp at *; omega

theorem flCells_zip : ∀ (fs : List Fl) (ds : List Value), ds.length = fs.length → flCells fs ds = (fs.zip ds).flatMap encP
  | [], [], _ => rfl
  | f :: fs, [], h => by simp at h
  | [], d :: ds, h => by simp at h
  | f :: fs, d :: ds, h => by
    have := flCells_zip fs ds (by simpa using h)
    simp [flCells, encP, this]

set_option maxRecDepth 100000 in
theorem closure_calls (x y : FlV) (W : World) : Calls Try.prog 35 #[.agg (encFl x).toArray, .agg (encFl y).toArray] W fun e w' => e = .returned (.int .i64 (cmpFl x y)) ∧ ∃ q os', w' = grow (W.drewN q) os' := by
  obtain ⟨⟨⟨n1, t1, d1⟩, v1⟩, ⟨ha1, hb1⟩, hv1⟩ := x
  obtain ⟨⟨⟨n2, t2, d2⟩, v2⟩, ⟨ha2, hb2⟩, hv2⟩ := y
  simp only at ha1 hb1 hv1 ha2 hb2 hv2
  show Calls Try.prog 35 #[.agg #[.int .i64 n1, .int .i64 t1, v1], .agg #[.int .i64 n2, .int .i64 t2, v2]] W fun e w' => e = .returned (.int .i64 (n1 - n2)) ∧ ∃ q os', w' = grow (W.drewN q) os'
  go_enter Try.func35, Try.ntmps35
  go_wp2
  go_ret
  refine ⟨rfl, 0, #[.cells #[.int .i64 n1, .int .i64 t1, v1] 49, .cells #[.int .i64 n2, .int .i64 t2, v2] 49], ?_⟩
  rw [alloc_eq_grow, alloc_eq_grow, grow_grow]
  rfl

theorem sortFl_calls (w : World) (B : Nat) (v : Value) (fs : List Fl) (h : MadeF w B v fs) (hr : ∀ f ∈ fs, 1 ≤ f.no ∧ f.no ≤ 4611686018427387904) (hlen : fs.length ≤ 4096) :
    Calls Try.prog 34 #[v, .func (.func 35) #[] #[]] w fun e w' =>
      e = .returned (.tuple #[]) ∧ ∃ fs', MadeF w' B v fs' ∧ fs'.Perm fs ∧ fs'.Pairwise (fun a b => ¬ b.no < a.no) ∧ Kp (fun i => v.ownBlock = some i) w w' := by
  obtain ⟨ds, hl, ho, hD⟩ := h
  have ho' := ho
  rcases ho'.2 with ⟨rfl, h0⟩ | ⟨g, cap, cur, rfl, hb, hh, hn, hc, hs, htk⟩
  · have hf : fs = [] := List.length_eq_zero_iff.1 h0
    subst hf
    refine (AnyF.slices_SortFunc_none Try.sortFl none 0 _ w).mono ?_
    rintro e w' ⟨rfl, rfl⟩
    exact ⟨rfl, [], ⟨ds, hl, ho, hD⟩, List.Perm.refl _, List.Pairwise.nil, Kp.refl _ _⟩
  · have hall : ∀ p ∈ fs.zip ds, (1 ≤ p.1.no ∧ p.1.no ≤ 4611686018427387904) ∧ p.2.oneCell' = true := fun p hp => ⟨hr _ (List.of_mem_zip hp).1, (hD p hp).one⟩
    obtain ⟨l, hlv⟩ : ∃ l : List FlV, l.map (·.1) = fs.zip ds := ⟨(fs.zip ds).attachWith _ hall, List.attachWith_map_subtype_val _⟩
    have hll : l.length = fs.length := by
      have := congrArg List.length hlv
      simpa [hl] using this
    have e1 : flCells fs ds = l.flatMap encFl := by
      rw [flCells_zip _ _ hl, ← hlv, List.flatMap_map]
      rfl
    have hoK : w.ownsRow B 49 3 (.slice (some ⟨g, 0, none⟩) l.toArray.size cap) l.toArray.size (l.toArray.toList.flatMap encFl) := by
      simpa [hll, e1] using ho
    have hH := own_holdsK (enc := encFl) (k := 3) (fun _ => rfl) (by decide) hoK
    have eg : ∀ args w, (callFunc 35 args).run Try.prog w = .ok (.enter 35 args) w := enters_of Try.func35 (by kernel_rfl) rfl
    have hcon := AnyQ.slices_SortFunc Try.sortFl 3 Try.isAgg49 Try.sizeOf49 encFl (fun _ => rfl)
      (fun x v hv => by
        simp only [encFl, encP, List.mem_cons, List.not_mem_nil, or_false] at hv
        rcases hv with rfl | rfl | rfl
        · rfl
        · rfl
        · exact x.2.2) cmpFl cmpFl_swo 35 #[] g 0 cap l.toArray w eg (fun _ _ _ _ x y => closure_calls x y _) hH (lt_of_heap hh) (by simp; omega)
    change Calls Try.prog 34 _ _ _ at hcon
    have e2 : l.toArray.size = fs.length := by simp [hll]
    rw [e2] at hcon
    refine hcon.mono ?_
    rintro e w' ⟨rfl, d', n, os, hp, hs', rfl⟩
    have hsz : d'.size = fs.length := by
      have := hp.1
      simpa [hll] using this
    have hP := permIn_perm _ _ (by rw [e2]; exact hp)
    have hS := sortedIn_pw (ltOf cmpFl) d' (by rw [hsz]; exact hs')
    have hoF := own_sorted (enc := encFl) (k := 3) (n := n) (os := os) (d := d') (fun _ => rfl) (by decide) hsz ho
    have hK := kp_sorted (enc := encFl) (k := 3) w g n d' os
    have hPm : (d'.toList.map (·.1)).Perm (fs.zip ds) := by
      rw [← hlv]
      exact hP.map _
    have hz : (d'.toList.map (·.1.1)).zip (d'.toList.map (·.1.2)) = d'.toList.map (·.1) := by
      rw [List.zip_map']
    have e3 : (d'.toList.map (·.1.1)).length = fs.length := by simp [hsz]
    refine ⟨rfl, d'.toList.map (·.1.1), ⟨d'.toList.map (·.1.2), by simp, ?_, ?_⟩, ?_, ?_, hK.mono (fun i hi => by rw [hi]; rfl)⟩
    · rw [flCells_zip _ _ (by simp), hz, e3, List.flatMap_map]
      exact hoF
    · rw [hz]
      intro p hp2
      exact (hD p (hPm.subset hp2)).kp hK (fun i hi e => hi.2 (by rw [e]; rfl))
    · have := hPm.map Prod.fst
      rw [List.map_fst_zip (by omega), List.map_map] at this
      exact this
    · rw [List.pairwise_map]
      exact hS.imp (fun {a b} h => by rw [cmpFl_lt] at h; simpa using h)
end Go.Proofs.Ytpakocgbbggolaa
