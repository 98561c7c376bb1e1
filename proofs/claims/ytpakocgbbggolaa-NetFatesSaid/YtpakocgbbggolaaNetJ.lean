import Derived.Test.YtpakocgbbggolaaNetI
set_option linter.unusedSimpArgs false
set_option linter.unusedVariables false
namespace Go.Proofs.Ytpakocgbbggolaa
open Go.RowKit Go.Proofs.Cul Go.ChangeMaps

/-- A flight as the program keeps it: itself, its bytes' slice, its stamp in the map. -/
abbrev Ent := Fl × Value × Nat
def esOf (T : List Ent) : List (Int × Value × Nat) := T.map fun t => (t.1.no, .agg #[.int .i64 t.1.to, t.2.1], t.2.2)

/-- The program's net at block g. -/
def NetP (w : World) (S : Nat → Prop) (g : Nat) (s : St) : Prop :=
  ∃ (m clock : Nat) (T : List Ent), w.heap[g]? = some (.cells #[.map (some m), .int .i64 s.given] 71 (0, 0)) ∧ S g ∧ S m ∧ MapAt w m (esOf T) clock ∧
    T.map (·.1) = s.fl ∧ T.Pairwise (fun a b => a.2.2 < b.2.2) ∧ (∀ t ∈ T, t.2.2 < clock) ∧
    (∀ t ∈ T, w.ownsRow 0 5 1 t.2.1 t.1.data.length (u8s t.1.data) ∧ IsB t.1.data ∧ ∀ k, t.2.1.ownBlock = some k → S k) ∧
    T.Pairwise (fun a b => ∀ k, a.2.1.ownBlock = some k → b.2.1.ownBlock ≠ some k)

def lookT (no : Int) : List Ent → Option Ent
  | [] => none
  | t :: r => if no = t.1.no then some t else lookT no r
def strikeT (no : Int) : List Ent → List Ent
  | [] => []
  | t :: r => if no = t.1.no then r else t :: strikeT no r
def alterT (no : Int) (d : List Int) : List Ent → List Ent
  | [] => []
  | t :: r => if no = t.1.no then (⟨t.1.no, t.1.to, d⟩, t.2) :: r else t :: alterT no d r

theorem look_es (no : Int) : ∀ T : List Ent, lookE no (esOf T) = (lookT no T).map fun t => .agg #[.int .i64 t.1.to, t.2.1]
  | [] => rfl
  | t :: r => by
    by_cases h : no = t.1.no
    · simp [esOf, lookE, lookT, h]
    · have := look_es no r
      simp only [esOf] at this
      simp [esOf, lookE, lookT, h, this]
theorem find_T (no : Int) : ∀ T : List Ent, find no (T.map (·.1)) = (lookT no T).map (·.1)
  | [] => rfl
  | t :: r => by
    by_cases h : no = t.1.no
    · simp [find, lookT, h]
    · simp [find, lookT, h, find_T no r]
theorem strike_T (no : Int) : ∀ T : List Ent, strike no (T.map (·.1)) = (strikeT no T).map (·.1)
  | [] => rfl
  | t :: r => by
    by_cases h : no = t.1.no
    · simp [strike, strikeT, h]
    · simp [strike, strikeT, h, strike_T no r]
theorem drop1_T (no : Int) : ∀ T : List Ent, drop1 no (esOf T) = esOf (strikeT no T)
  | [] => rfl
  | t :: r => by
    by_cases h : no = t.1.no
    · simp [esOf, drop1, strikeT, h]
    · have := drop1_T no r
      simp only [esOf] at this
      simp [esOf, drop1, strikeT, h, this]
theorem alter_T (no : Int) (d : List Int) : ∀ T : List Ent, alter no d (T.map (·.1)) = (alterT no d T).map (·.1)
  | [] => rfl
  | t :: r => by
    by_cases h : no = t.1.no
    · simp [alter, alterT, h]
    · simp [alter, alterT, h, alter_T no d r]
theorem es_alter (no : Int) (d : List Int) : ∀ T : List Ent, esOf (alterT no d T) = esOf T
  | [] => rfl
  | t :: r => by
    by_cases h : no = t.1.no
    · simp [esOf, alterT, h]
    · have := es_alter no d r
      simp only [esOf] at this
      simp [esOf, alterT, h, this]
theorem lookT_mem {no : Int} : ∀ {T : List Ent} {t : Ent}, lookT no T = some t → t ∈ T ∧ t.1.no = no
  | [], _, h => by simp [lookT] at h
  | u :: r, t, h => by
    by_cases e : no = u.1.no
    · simp only [lookT, if_pos e, Option.some.injEq] at h
      subst h
      exact ⟨List.mem_cons_self, e.symm⟩
    · simp only [lookT, if_neg e] at h
      exact ⟨List.mem_cons_of_mem _ (lookT_mem h).1, (lookT_mem h).2⟩
theorem strikeT_sub (no : Int) : ∀ T : List Ent, (strikeT no T).Sublist T
  | [] => List.Sublist.slnil
  | t :: r => by
    by_cases e : no = t.1.no
    · simp only [strikeT, if_pos e]; exact List.sublist_cons_self _ _
    · simp only [strikeT, if_neg e]; exact (strikeT_sub no r).cons_cons _
/-- What is struck stands apart from what stays. -/
theorem struck_apart {no : Int} {R : Ent → Ent → Prop} (hsym : ∀ a b, R a b → R b a) : ∀ {T : List Ent} {t : Ent}, T.Pairwise R → lookT no T = some t → ∀ u ∈ strikeT no T, R u t
  | [], _, _, h, _, _ => by simp [lookT] at h
  | v :: r, t, hp, h, u, hu => by
    rw [List.pairwise_cons] at hp
    by_cases e : no = v.1.no
    · simp only [lookT, if_pos e, Option.some.injEq] at h
      subst h
      simp only [strikeT, if_pos e] at hu
      exact hsym _ _ (hp.1 u hu)
    · simp only [lookT, if_neg e] at h
      simp only [strikeT, if_neg e, List.mem_cons] at hu
      rcases hu with rfl | hu
      · exact hp.1 t (lookT_mem h).1
      · exact struck_apart hsym hp.2 h u hu

theorem NetP.move {w w' : World} {S : Nat → Prop} {g : Nat} {s : St} (h : NetP w S g s) (hm : ∀ k, S k → k < w.heap.size → w'.heap[k]? = w.heap[k]?) : NetP w' S g s := by
  obtain ⟨m, clock, T, hg, hS, hSm, hM, hT, hst, hcl, hD, hap⟩ := h
  exact ⟨m, clock, T, (hm g hS (lt_of_heap hg)).trans hg, hS, hSm, (hm m hSm (lt_of_heap hM)).trans hM, hT, hst, hcl, fun t ht => ⟨own_move' (hD t ht).1 (fun k hk hl => hm k ((hD t ht).2.2 k hk) hl), (hD t ht).2⟩, hap⟩
theorem NetP.mono {w : World} {S T : Nat → Prop} {g : Nat} {s : St} (h : NetP w S g s) (hs : ∀ k, S k → k < w.heap.size → T k) : NetP w T g s := by
  obtain ⟨m, clock, T', hg, hS, hSm, hM, hT, hst, hcl, hD, hap⟩ := h
  exact ⟨m, clock, T', hg, hs g hS (lt_of_heap hg), hs m hSm (lt_of_heap hM), hM, hT, hst, hcl, fun t ht => ⟨(hD t ht).1, (hD t ht).2.1, fun k hk => hs k ((hD t ht).2.2 k hk) ((hD t ht).1.lt k hk).2⟩, hap⟩
theorem NetP.kp {w w' : World} {S T : Nat → Prop} {g : Nat} {s : St} (h : NetP w S g s) (k : Kp T w w') (hd : ∀ k, S k → ¬ T k) : NetP w' S g s := h.move (fun i hi hl => k.block i hl (hd i hi))
theorem NetP.below {w w' : World} {S : Nat → Prop} {g : Nat} {s : St} (h : NetP w S g s) (k : Below w.heap.size w w') : NetP w' S g s := h.move (fun i _ hl => k.block i hl)
theorem NetP.ext {w : World} {S : Nat → Prop} {g : Nat} {s : St} (h : NetP w S g s) (w1 w2 : World) : NetP w (Ext S w1 w2) g s := h.mono (fun k hk _ => Or.inl hk)

theorem netNew_calls (w : World) : Calls Try.prog 17 #[] w fun e w' => e = .returned (.pointer (some ⟨w.heap.size + 1, 0, none⟩)) ∧ NetP w' (fun k => k = w.heap.size ∨ k = w.heap.size + 1) (w.heap.size + 1) St.new ∧ Below w.heap.size w w' ∧ w'.heap.size = w.heap.size + 2 := by
  have hmm := @run_makeMap Try.prog
  go_enter Try.func17, Try.ntmps17
  go_wp2
  go_ret
  have e1 : ((w.alloc (.map #[] 0)).alloc (.cells #[.map (some w.heap.size), .int .i64 0] 71)).heap[w.heap.size + 1]? = some (.cells #[.map (some w.heap.size), .int .i64 0] 71 (0, 0)) := by
    have := heap_alloc_new (w.alloc (.map #[] 0)) (.cells #[.map (some w.heap.size), .int .i64 0] 71)
    simpa using this
  have e2 : ((w.alloc (.map #[] 0)).alloc (.cells #[.map (some w.heap.size), .int .i64 0] 71)).heap[w.heap.size]? = some (.map #[] 0) :=
    (Below.heap_alloc _ _ _ (by simp)).trans (heap_alloc_new w _)
  exact ⟨rfl, ⟨w.heap.size, 0, [], e1, Or.inr rfl, Or.inl rfl, e2, rfl, List.Pairwise.nil, by simp, by simp, List.Pairwise.nil⟩, ((Below.refl _ _).alloc (Nat.le_refl _) _).alloc (by simp) _, by simp⟩
end Go.Proofs.Ytpakocgbbggolaa
