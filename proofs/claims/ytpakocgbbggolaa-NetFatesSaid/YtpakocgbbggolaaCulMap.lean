import Derived.WalkKit
import Derived.Maps.RangeRun
import Derived.MapKept
namespace Go.Proofs.Cul
open Go.RowKit Go.ChangeMaps Go.MapKept

/-- entries with whole keys: key, value, stamp -/
def ents (es : List (Int × Value × Nat)) : List MapEntry := es.map fun e => ⟨.int .i64 e.1, e.2.1, e.2.2⟩

def MapAt (w : World) (m : Nat) (es : List (Int × Value × Nat)) (clock : Nat) : Prop :=
  w.heap[m]? = some (.map (ents es).toArray clock)

def lookE (k : Int) : List (Int × Value × Nat) → Option Value
  | [] => none
  | e :: es => if k = e.1 then some e.2.1 else lookE k es

def placeE (k : Int) : List (Int × Value × Nat) → Nat → Option (Nat × Value)
  | [], _ => none
  | e :: es, i => if k = e.1 then some (i, e.2.1) else placeE k es (i + 1)

theorem findNow_ents (k : Int) : ∀ (es : List (Int × Value × Nat)) (i : Nat), Instr.findNow (.int .i64) (.int .i64 k) (ents es) i = some (placeE k es i)
  | [], i => rfl
  | e :: es, i => by
    have ih := findNow_ents k es (i + 1)
    simp only [ents, List.map_cons] at ih ⊢
    by_cases h : k = e.1
    · simp [Instr.findNow, Instr.sameNow, placeE, h]
    · have : (k == e.1) = false := by simpa using h
      simp only [Instr.findNow, Instr.sameNow, if_true, this, placeE, if_neg h]
      exact ih

theorem placeE_lookE (k : Int) : ∀ (es : List (Int × Value × Nat)) (i : Nat), (placeE k es i).map (·.2) = lookE k es
  | [], i => rfl
  | e :: es, i => by
    by_cases h : k = e.1
    · simp [placeE, lookE, h]
    · simp [placeE, lookE, h, placeE_lookE k es (i + 1)]

section
variable {P : Program} {w : World} {t kt et : TypeId} {m : Nat} {es : List (Int × Value × Nat)} {clock : Nat}

theorem run_lookup_ok (ht : P.underlying t = some (.map kt et)) (hk : P.underlying kt = some (.int .i64)) (hm : MapAt w m es clock) (k : Int) (z : Value) (hz : (zeroValue et).run P w = .ok z w) :
    (Instr.lookup t (.map (some m)) (.int .i64 k) true).run P w = .ok (.tuple #[(lookE k es).getD z, .bool (lookE k es).isSome]) w := by
  unfold MapAt at hm
  have h1 := findNow_ents k es 0
  have h2 := placeE_lookE k es 0
  simp only [Instr.lookup, Sem.run_bind, run_underlying ht, Result.andThen, getObj, Sem.run, hm, Sem.run_pure]
  rw [run_checkKey hk (by simp [IsKey])]
  simp only [Result.andThen]
  rw [run_findKey hk h1]
  cases hp : placeE k es 0 with
  | none =>
    rw [hp] at h2
    have : lookE k es = none := by simpa using h2.symm
    simp [this, hz, Result.andThen]
  | some p =>
    rw [hp] at h2
    have : lookE k es = some p.2 := by simpa using h2.symm
    simp [this]

theorem place_none {k : Int} : ∀ {es : List (Int × Value × Nat)} {i : Nat}, lookE k es = none → placeE k es i = none
  | [], _, _ => rfl
  | e :: es, i, h => by
    by_cases hk : k = e.1
    · simp [lookE, hk] at h
    · simp only [lookE, if_neg hk] at h
      simp only [placeE, if_neg hk]
      exact place_none h

theorem run_update_new (ht : P.underlying t = some (.map kt et)) (hk : P.underlying kt = some (.int .i64)) (hm : MapAt w m es clock) (k : Int) (v : Value) (hn : lookE k es = none) :
    (Instr.mapUpdate t (.map (some m)) (.int .i64 k) v).run P w = .ok () (setBlock w m (.map (ents (es ++ [(k, v, clock)])).toArray (clock + 1))) := by
  unfold MapAt at hm
  have h1 := findNow_ents k es 0
  rw [place_none hn] at h1
  simp only [Instr.mapUpdate, Sem.run_bind, run_underlying ht, Result.andThen, getObj, Sem.run, hm, Sem.run_pure]
  rw [run_checkKey hk (by simp [IsKey])]
  simp only [Result.andThen]
  rw [run_findKey hk h1]
  simp [setObj, Sem.run, hm, setBlock, ents]

theorem MapAt.set (hm : MapAt w m es clock) (es' : List (Int × Value × Nat)) (c' : Nat) : MapAt (setBlock w m (.map (ents es').toArray c')) m es' c' :=
  heap_setBlock_same hm _

def drop1 (k : Int) : List (Int × Value × Nat) → List (Int × Value × Nat)
  | [] => []
  | e :: es => if k = e.1 then es else e :: drop1 k es

theorem place_le {k : Int} : ∀ {es : List (Int × Value × Nat)} {i : Nat} {p : Nat × Value}, placeE k es i = some p → i ≤ p.1 ∧ (ents es).eraseIdx (p.1 - i) = ents (drop1 k es)
  | [], _, _, h => by simp [placeE] at h
  | e :: es, i, p, h => by
    by_cases hk : k = e.1
    · simp only [placeE, if_pos hk, Option.some.injEq] at h
      subst h
      simp [drop1, hk, ents]
    · simp only [placeE, if_neg hk] at h
      obtain ⟨h1, h2⟩ := place_le h
      refine ⟨by omega, ?_⟩
      rw [show p.1 - i = (p.1 - (i + 1)) + 1 by omega]
      simp only [drop1, if_neg hk]
      simp only [ents, List.map_cons, List.eraseIdx_cons_succ] at h2 ⊢
      rw [h2]

theorem run_delete_there (ht : P.underlying t = some (.map kt et)) (hk : P.underlying kt = some (.int .i64)) (hm : MapAt w m es clock) (k : Int) (ty : TypeId) (hn : (lookE k es).isSome) :
    (Builtin.delete_ #[t, kt] ty #[.map (some m), .int .i64 k]).run P w = .ok (.tuple #[]) (setBlock w m (.map (ents (drop1 k es)).toArray clock)) := by
  unfold MapAt at hm
  have h1 := findNow_ents k es 0
  have h2 := placeE_lookE k es 0
  cases hp : placeE k es 0 with
  | none => rw [hp] at h2; simp at h2; rw [← h2] at hn; simp at hn
  | some p =>
    rw [hp] at h1
    obtain ⟨_, h4⟩ := place_le hp
    simp only [Builtin.delete_]
    simp only [Sem.run_bind, run_underlying ht, Result.andThen, getObj, Sem.run, hm, Sem.run_pure, List.getElem?_toArray, List.getElem?_cons_zero, List.getElem?_cons_succ]
    rw [run_checkKey hk (by simp [IsKey])]
    simp only [Result.andThen]
    rw [run_findKey hk h1]
    simp [setObj, Sem.run, hm, setBlock, ← h4]
end
end Go.Proofs.Cul
