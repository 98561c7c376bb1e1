import Derived.OpenShut
set_option linter.unusedSimpArgs false
set_option linter.unusedVariables false
namespace Go.Proofs.Cul

/-- A packet under way. -/
structure Fl where
  no : Int
  to : Int
  data : List Int
  deriving Inhabited, DecidableEq

structure St where
  given : Int
  fl : List Fl

def Fl.lt (a b : Fl) : Prop := a.no < b.no

structure St.Ok (s : St) : Prop where
  given0 : 0 ≤ s.given
  sorted : s.fl.Pairwise Fl.lt
  range : ∀ f ∈ s.fl, 1 ≤ f.no ∧ f.no ≤ s.given
  room : s.fl.length ≤ 1024

def St.new : St := ⟨0, []⟩
theorem St.new_ok : St.new.Ok := ⟨by decide, by simp [St.new], by simp [St.new], by simp [St.new]⟩

def St.send (s : St) (to : Int) (b : List Int) : Int × St :=
  if 1024 ≤ s.fl.length then (0, s) else (s.given + 1, ⟨s.given + 1, s.fl ++ [⟨s.given + 1, to, b⟩]⟩)

def find (no : Int) : List Fl → Option Fl
  | [] => none
  | f :: r => if no = f.no then some f else find no r
def strike (no : Int) : List Fl → List Fl
  | [] => []
  | f :: r => if no = f.no then r else f :: strike no r
def alter (no : Int) (d : List Int) : List Fl → List Fl
  | [] => []
  | f :: r => if no = f.no then ⟨f.no, f.to, d⟩ :: r else f :: alter no d r

def St.take (s : St) (no : Int) : St := ⟨s.given, strike no s.fl⟩
def St.copy (s : St) (no : Int) : Int × St :=
  match find no s.fl with
  | none => (0, s)
  | some f => s.send f.to f.data
/-- A byte spoilt. -/
def xor8 (a x : Int) : Int := bits .xor .u8 a x
theorem xor8_range (a x : Int) : 0 ≤ xor8 a x ∧ xor8 a x ≤ 255 := by
  have h := wf_bits .xor .u8 a x
  simp [Lit.wf, IntKind.min, IntKind.max, IntKind.bits, IntKind.signed] at h
  unfold xor8
  omega
def flipB (b : List Int) (at_ x : Int) : List Int := b.set at_.toNat (xor8 (b.getD at_.toNat 0) x)
def flips (b : List Int) (at_ x : Int) : Bool := decide (0 ≤ at_ ∧ at_ < b.length ∧ 1 ≤ x ∧ x ≤ 255)
def St.flip (s : St) (no at_ x : Int) : Int × St :=
  match find no s.fl with
  | none => (218, s)
  | some f => if flips f.data at_ x then (0, ⟨s.given, alter no (flipB f.data at_ x) s.fl⟩) else (2, s)

theorem find_mem {no : Int} : ∀ {l : List Fl} {f : Fl}, find no l = some f → f ∈ l ∧ f.no = no
  | [], _, h => by simp [find] at h
  | g :: r, f, h => by
    by_cases e : no = g.no
    · simp only [find, if_pos e, Option.some.injEq] at h
      subst h
      exact ⟨List.mem_cons_self, e.symm⟩
    · simp only [find, if_neg e] at h
      obtain ⟨h1, h2⟩ := find_mem h
      exact ⟨List.mem_cons_of_mem _ h1, h2⟩
theorem find_none {no : Int} : ∀ {l : List Fl}, find no l = none → ∀ f ∈ l, f.no ≠ no
  | [], _, _, hf => by simp at hf
  | g :: r, h, f, hf => by
    by_cases e : no = g.no
    · simp [find, e] at h
    · simp only [find, if_neg e] at h
      rcases List.mem_cons.1 hf with rfl | hf
      · exact fun h => e h.symm
      · exact find_none h f hf
theorem strike_sub (no : Int) : ∀ l : List Fl, (strike no l).Sublist l
  | [] => List.Sublist.slnil
  | g :: r => by
    by_cases e : no = g.no
    · simp only [strike, if_pos e]; exact List.sublist_cons_self _ _
    · simp only [strike, if_neg e]; exact (strike_sub no r).cons_cons _
theorem alter_nos (no : Int) (d : List Int) : ∀ l : List Fl, (alter no d l).map Fl.no = l.map Fl.no
  | [] => rfl
  | g :: r => by
    by_cases e : no = g.no
    · simp [alter, e]
    · simp only [alter, if_neg e, List.map_cons, alter_nos no d r]
theorem pw_nos (l : List Fl) : l.Pairwise Fl.lt ↔ (l.map Fl.no).Pairwise (· < ·) := by
  rw [List.pairwise_map]; rfl
theorem St.Ok.send {s : St} (h : s.Ok) (to : Int) (b : List Int) : (s.send to b).2.Ok := by
  unfold St.send
  split
  · exact h
  · refine ⟨by have := h.given0; simp only; omega, ?_, ?_, ?_⟩
    · simp only
      rw [List.pairwise_append]
      refine ⟨h.sorted, List.pairwise_singleton _ _, fun a ha b hb => ?_⟩
      simp only [List.mem_singleton] at hb
      subst hb
      have := (h.range a ha).2
      simp only [Fl.lt]
      omega
    · intro f hf
      simp only [List.mem_append, List.mem_singleton] at hf
      rcases hf with hf | rfl
      · have := h.range f hf
        simp only
        omega
      · have := h.given0
        simp only
        omega
    · simp only [List.length_append, List.length_singleton]
      omega
theorem St.Ok.take {s : St} (h : s.Ok) (no : Int) : (s.take no).Ok :=
  ⟨h.given0, h.sorted.sublist (strike_sub no _), fun f hf => h.range f ((strike_sub no _).subset hf), Nat.le_trans (strike_sub no _).length_le h.room⟩
theorem St.Ok.copy {s : St} (h : s.Ok) (no : Int) : (s.copy no).2.Ok := by
  unfold St.copy
  split
  · exact h
  · exact h.send _ _
theorem alter_len (no : Int) (d : List Int) (l : List Fl) : (alter no d l).length = l.length := by
  have := congrArg List.length (alter_nos no d l)
  simpa using this
theorem St.Ok.flip {s : St} (h : s.Ok) (no at_ x : Int) : (s.flip no at_ x).2.Ok := by
  unfold St.flip
  split
  · exact h
  · split
    · refine ⟨h.given0, ?_, ?_, ?_⟩
      · rw [pw_nos, alter_nos, ← pw_nos]; exact h.sorted
      · intro f hf
        have : f.no ∈ (alter no _ s.fl).map Fl.no := List.mem_map.2 ⟨f, hf, rfl⟩
        rw [alter_nos] at this
        obtain ⟨g, hg, e⟩ := List.mem_map.1 this
        rw [← e]
        exact h.range g hg
      · simp only [alter_len]; exact h.room
    · exact h

theorem at_first {no : Int} : ∀ {l : List Fl} {k : Nat} (hk : k < l.length), l[k].no = no → (∀ j (hj : j < l.length), j < k → l[j].no ≠ no) →
    find no l = some l[k] ∧ strike no l = l.take k ++ l.drop (k + 1) ∧ ∀ d, alter no d l = l.set k ⟨l[k].no, l[k].to, d⟩
  | [], k, hk, _, _ => by simp at hk
  | f :: r, 0, hk, h1, _ => by
    simp only [List.getElem_cons_zero] at h1
    simp [find, strike, alter, h1.symm]
  | f :: r, k + 1, hk, h1, h2 => by
    have h0 : ¬ no = f.no := fun e => h2 0 (by simp) (by omega) (by simpa using e.symm)
    have hk' : k < r.length := by simpa using hk
    obtain ⟨a, b, c⟩ := at_first (l := r) (k := k) hk' (by simpa using h1) (fun j hj hjk => by
      have := h2 (j + 1) (by simp; omega) (by omega)
      simpa using this)
    refine ⟨by simp [find, h0, a], by simp [strike, h0, b], fun d => by simp [alter, h0, c]⟩
theorem not_there {no : Int} : ∀ {l : List Fl}, (∀ j (hj : j < l.length), l[j].no ≠ no) → find no l = none
  | [], _ => rfl
  | f :: r, h => by
    have h0 : ¬ no = f.no := fun e => h 0 (by simp) (by simpa using e.symm)
    simp only [find, if_neg h0]
    exact not_there (fun j hj => by have := h (j + 1) (by simp; omega); rw [List.getElem_cons_succ] at this; exact this)
/-- What 'place' answers. -/
def PlaceOf (no : Int) (l : List Fl) (i : Int) : Prop :=
  (i = -1 ∧ find no l = none) ∨ ∃ k : Nat, ∃ hk : k < l.length, i = (k : Int) ∧ find no l = some l[k] ∧ strike no l = l.take k ++ l.drop (k + 1) ∧ ∀ d, alter no d l = l.set k ⟨l[k].no, l[k].to, d⟩
end Go.Proofs.Cul
