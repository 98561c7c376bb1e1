import Derived.Test.YtpakocgbbggolaaNetFb
import Derived.Deep.RegionHeld3
import Derived.Deep.RegionLaw
import Derived.Deep.DeepCutAuto
import Derived.Deep.CutRange
import Derived.Deep.DeepFit
set_option linter.unusedSimpArgs false
set_option linter.unusedVariables false
namespace Go.Proofs.Ytpakocgbbggolaa
open Go.RowKit Go.Proofs.Cul Go.ChangeMaps

set_option maxHeartbeats 40000000 in
set_option maxRecDepth 1000000 in
theorem fates_KO (w w0 w2 wr : World) (v : Value) (os : List Opx) (lo : ∀ (ty : TypeId) (W : World), (Builtin.len_ #[22] ty #[v]).run Try.prog W = .ok (.int .i64 os.length) W) (hle : os.length ≤ 9223372036854775807)
    (hnum : ∀ (w : World) (e : Int), Calls Try.prog 15 #[.int .i64 e] w fun x w' => x = .returned (.int .i64 e) ∧ w = w')
    (HO : Hid (RO w (fun k => k < w.heap.size) v os ∧ ∀ o ∈ os, -9223372036854775808 ≤ o.no ∧ o.no ≤ 9223372036854775807)) (HB : Hid (Below w.heap.size w w0)) (HB2 : Hid (Below w0.heap.size w0 w2)) (hgs : w0.heap.size ≤ w2.heap.size)
    (k : Nat) (hlt : k < os.length) (h3 : k < 1000) (hn1 : os[k].kind ≠ 1) (hn4 : os[k].kind ≠ 4) (hn5 : os[k].kind ≠ 5) (hn3 : os[k].kind ≠ 3) (hn2 : os[k].kind ≠ 2) (K0 : Act → World → Prop) (R0 : Ending → World → Prop) (u2 u4 u5 u7 u8 u9 u10 u11 u12 u13 u14 u15 u21 u22 u23 u24 u25 u26 u27 u28 u29 u30 u31 u32 u33 u34 u35 u36 u37 u38 u39 u40 u41 u42 u43 u44 u45 u46 u47 u48 u49 u50 u51 u52 u53 u54 u55 u56 u57 u58 u59 u60 u61 u62 u63 u64 u65 u66 u67 u68 u69 u70 u71 u72 u73 u74 u75 u76 u77 u78 u79 u80 u81 u82 u83 u84 u85 u86 u87 u88 u89 u90 u91 u92 u93 u94 u95 u96 u97 u98 u99 u100 u101 u102 u103 u104 u105 u106 u107 u108 u109 u110 u111 u112 u113 u114 u115 u116 u117 u118 u119 u120 u121 u122 u123 u124 u125 u126 u127 u128 u129 u130 u131 u132 u133 u134 u135 u136 u137 u138 u139 u140 u141 u142 u143 u144 u145 u146 u147 u148 u149 u150 u151 u152 u153 u154 u155 u156 u157 u158 u159 u160 u161 u162 u163 u164 u165 u166 u167 u168 u169 u170 u171 u172 u173 u174 u175 u176 u177 u178 u179 u180 u181 u182 u183 u184 u185 u186 u187 u188 u189 u190 u191 u192 u193 u194 u195 u196 u197 u198 u199 u200 u201 u202 u203 u204 u205 u206 u207 : Value)
    (s : St) (E : List (Fl × Value)) (hs : List Bool) (S : Nat → Prop) (hEl : E.length = hs.length) (hEk : E.length ≤ k) (fm : FM w0.heap.size wr (w0.heap.size + 1) s u4 u5 E hs S) (led : Ledger s (EB E hs)) (hg : Good s k) (hbr : Below w0.heap.size w2 wr) :
    Code.wp Try.prog fatesBody (Exit.then (fun a' w' => (∃ u2 u4 u5 u6 u7 u8 u9 u10 u11 u12 u13 u14 u15 u21 u22 u23 u24 u25 u26 u27 u28 u29 u30 u31 u32 u33 u34 u35 u36 u37 u38 u39 u40 u41 u42 u43 u44 u45 u46 u47 u48 u49 u50 u51 u52 u53 u54 u55 u56 u57 u58 u59 u60 u61 u62 u63 u64 u65 u66 u67 u68 u69 u70 u71 u72 u73 u74 u75 u76 u77 u78 u79 u80 u81 u82 u83 u84 u85 u86 u87 u88 u89 u90 u91 u92 u93 u94 u95 u96 u97 u98 u99 u100 u101 u102 u103 u104 u105 u106 u107 u108 u109 u110 u111 u112 u113 u114 u115 u116 u117 u118 u119 u120 u121 u122 u123 u124 u125 u126 u127 u128 u129 u130 u131 u132 u133 u134 u135 u136 u137 u138 u139 u140 u141 u142 u143 u144 u145 u146 u147 u148 u149 u150 u151 u152 u153 u154 u155 u156 u157 u158 u159 u160 u161 u162 u163 u164 u165 u166 u167 u168 u169 u170 u171 u172 u173 u174 u175 u176 u177 u178 u179 u180 u181 u182 u183 u184 u185 u186 u187 u188 u189 u190 u191 u192 u193 u194 u195 u196 u197 u198 u199 u200 u201 u202 u203 u204 u205 u206 u207, (∃ k : Nat, k ≤ os.length ∧ k ≤ 1000 ∧ u6 = .int .i64 k ∧ Fates w0.heap.size w2 (w0.heap.size + 1) k u4 u5 w') ∧ a' = { tmps := (List.toArray (v :: undef :: u2 :: Value.pointer (some { block := w0.heap.size + 1, off := 0 }) :: u4 :: u5 :: u6 :: u7 :: u8 :: u9 :: u10 :: u11 :: u12 :: u13 :: u14 :: u15 :: Value.bool true :: Value.bool false :: Value.pointer (some { block := w0.heap.size + 1, off := 0 }) :: Value.pointer (some { block := w0.heap.size + 1, off := 0 }) :: Value.bool false :: u21 :: u22 :: u23 :: u24 :: u25 :: u26 :: u27 :: u28 :: u29 :: u30 :: u31 :: u32 :: u33 :: u34 :: u35 :: u36 :: u37 :: u38 :: u39 :: u40 :: u41 :: u42 :: u43 :: u44 :: u45 :: u46 :: u47 :: u48 :: u49 :: u50 :: u51 :: u52 :: u53 :: u54 :: u55 :: u56 :: u57 :: u58 :: u59 :: u60 :: u61 :: u62 :: u63 :: u64 :: u65 :: u66 :: u67 :: u68 :: u69 :: u70 :: u71 :: u72 :: u73 :: u74 :: u75 :: u76 :: u77 :: u78 :: u79 :: u80 :: u81 :: u82 :: u83 :: u84 :: u85 :: u86 :: u87 :: u88 :: u89 :: u90 :: u91 :: u92 :: u93 :: u94 :: u95 :: u96 :: u97 :: u98 :: u99 :: u100 :: u101 :: u102 :: u103 :: u104 :: u105 :: u106 :: u107 :: u108 :: u109 :: u110 :: u111 :: u112 :: u113 :: u114 :: u115 :: u116 :: u117 :: u118 :: u119 :: u120 :: u121 :: u122 :: u123 :: u124 :: u125 :: u126 :: u127 :: u128 :: u129 :: u130 :: u131 :: u132 :: u133 :: u134 :: u135 :: u136 :: u137 :: u138 :: u139 :: u140 :: u141 :: u142 :: u143 :: u144 :: u145 :: u146 :: u147 :: u148 :: u149 :: u150 :: u151 :: u152 :: u153 :: u154 :: u155 :: u156 :: u157 :: u158 :: u159 :: u160 :: u161 :: u162 :: u163 :: u164 :: u165 :: u166 :: u167 :: u168 :: u169 :: u170 :: u171 :: u172 :: u173 :: u174 :: u175 :: u176 :: u177 :: u178 :: u179 :: u180 :: u181 :: u182 :: u183 :: u184 :: u185 :: u186 :: u187 :: u188 :: u189 :: u190 :: u191 :: u192 :: u193 :: u194 :: u195 :: u196 :: u197 :: u198 :: u199 :: u200 :: u201 :: u202 :: u203 :: u204 :: u205 :: u206 :: u207 :: undef :: undef :: undef :: undef :: [])), defers := [] }) ∧ os.length - (intOf (a'.tmps.getD 6 undef)).toNat < os.length - (intOf ((List.toArray (v :: undef :: u2 :: Value.pointer (some { block := w0.heap.size + 1, off := 0 }) :: u4 :: u5 :: Value.int IntKind.i64 (k : Int) :: u7 :: u8 :: u9 :: u10 :: u11 :: u12 :: u13 :: u14 :: u15 :: Value.bool true :: Value.bool false :: Value.pointer (some { block := w0.heap.size + 1, off := 0 }) :: Value.pointer (some { block := w0.heap.size + 1, off := 0 }) :: Value.bool false :: u21 :: u22 :: u23 :: u24 :: u25 :: u26 :: u27 :: u28 :: u29 :: u30 :: u31 :: u32 :: u33 :: u34 :: u35 :: u36 :: u37 :: u38 :: u39 :: u40 :: u41 :: u42 :: u43 :: u44 :: u45 :: u46 :: u47 :: u48 :: u49 :: u50 :: u51 :: u52 :: u53 :: u54 :: u55 :: u56 :: u57 :: u58 :: u59 :: u60 :: u61 :: u62 :: u63 :: u64 :: u65 :: u66 :: u67 :: u68 :: u69 :: u70 :: u71 :: u72 :: u73 :: u74 :: u75 :: u76 :: u77 :: u78 :: u79 :: u80 :: u81 :: u82 :: u83 :: u84 :: u85 :: u86 :: u87 :: u88 :: u89 :: u90 :: u91 :: u92 :: u93 :: u94 :: u95 :: u96 :: u97 :: u98 :: u99 :: u100 :: u101 :: u102 :: u103 :: u104 :: u105 :: u106 :: u107 :: u108 :: u109 :: u110 :: u111 :: u112 :: u113 :: u114 :: u115 :: u116 :: u117 :: u118 :: u119 :: u120 :: u121 :: u122 :: u123 :: u124 :: u125 :: u126 :: u127 :: u128 :: u129 :: u130 :: u131 :: u132 :: u133 :: u134 :: u135 :: u136 :: u137 :: u138 :: u139 :: u140 :: u141 :: u142 :: u143 :: u144 :: u145 :: u146 :: u147 :: u148 :: u149 :: u150 :: u151 :: u152 :: u153 :: u154 :: u155 :: u156 :: u157 :: u158 :: u159 :: u160 :: u161 :: u162 :: u163 :: u164 :: u165 :: u166 :: u167 :: u168 :: u169 :: u170 :: u171 :: u172 :: u173 :: u174 :: u175 :: u176 :: u177 :: u178 :: u179 :: u180 :: u181 :: u182 :: u183 :: u184 :: u185 :: u186 :: u187 :: u188 :: u189 :: u190 :: u191 :: u192 :: u193 :: u194 :: u195 :: u196 :: u197 :: u198 :: u199 :: u200 :: u201 :: u202 :: u203 :: u204 :: u205 :: u206 :: u207 :: undef :: undef :: undef :: undef :: [])).getD 6 undef)).toNat) (Exit.inBlock 0 (Exit.then K0 (bodyPost Try.prog Try.f6 R0)))) { tmps := (List.toArray (v :: undef :: u2 :: Value.pointer (some { block := w0.heap.size + 1, off := 0 }) :: u4 :: u5 :: Value.int IntKind.i64 (k : Int) :: u7 :: u8 :: u9 :: u10 :: u11 :: u12 :: u13 :: u14 :: u15 :: Value.bool true :: Value.bool false :: Value.pointer (some { block := w0.heap.size + 1, off := 0 }) :: Value.pointer (some { block := w0.heap.size + 1, off := 0 }) :: Value.bool false :: u21 :: u22 :: u23 :: u24 :: u25 :: u26 :: u27 :: u28 :: u29 :: u30 :: u31 :: u32 :: u33 :: u34 :: u35 :: u36 :: u37 :: u38 :: u39 :: u40 :: u41 :: u42 :: u43 :: u44 :: u45 :: u46 :: u47 :: u48 :: u49 :: u50 :: u51 :: u52 :: u53 :: u54 :: u55 :: u56 :: u57 :: u58 :: u59 :: u60 :: u61 :: u62 :: u63 :: u64 :: u65 :: u66 :: u67 :: u68 :: u69 :: u70 :: u71 :: u72 :: u73 :: u74 :: u75 :: u76 :: u77 :: u78 :: u79 :: u80 :: u81 :: u82 :: u83 :: u84 :: u85 :: u86 :: u87 :: u88 :: u89 :: u90 :: u91 :: u92 :: u93 :: u94 :: u95 :: u96 :: u97 :: u98 :: u99 :: u100 :: u101 :: u102 :: u103 :: u104 :: u105 :: u106 :: u107 :: u108 :: u109 :: u110 :: u111 :: u112 :: u113 :: u114 :: u115 :: u116 :: u117 :: u118 :: u119 :: u120 :: u121 :: u122 :: u123 :: u124 :: u125 :: u126 :: u127 :: u128 :: u129 :: u130 :: u131 :: u132 :: u133 :: u134 :: u135 :: u136 :: u137 :: u138 :: u139 :: u140 :: u141 :: u142 :: u143 :: u144 :: u145 :: u146 :: u147 :: u148 :: u149 :: u150 :: u151 :: u152 :: u153 :: u154 :: u155 :: u156 :: u157 :: u158 :: u159 :: u160 :: u161 :: u162 :: u163 :: u164 :: u165 :: u166 :: u167 :: u168 :: u169 :: u170 :: u171 :: u172 :: u173 :: u174 :: u175 :: u176 :: u177 :: u178 :: u179 :: u180 :: u181 :: u182 :: u183 :: u184 :: u185 :: u186 :: u187 :: u188 :: u189 :: u190 :: u191 :: u192 :: u193 :: u194 :: u195 :: u196 :: u197 :: u198 :: u199 :: u200 :: u201 :: u202 :: u203 :: u204 :: u205 :: u206 :: u207 :: undef :: undef :: undef :: undef :: [])), defers := [] } wr := by
  conv => arg 2; whnf
  have hk : k ≤ os.length := by omega
  have hk3' : k ≤ 1000 := by omega
  have b1 : decide ((k : Int) < (os.length : Int)) = true := by simp; omega
  have b2 : decide ((k : Int) < 1000) = true := by simp; omega
  have ho : RO wr (fun k => k < w.heap.size) v os := HO.out.1.move (fun i hi _ => by
    rw [hbr.block i (by have := HB.out.size; omega), HB2.out.block i (by have := HB.out.size; omega), HB.out.block i hi])
  obtain ⟨q, A, c, hq, hqS, hql, hcs, hrb⟩ := idxO ho k hlt
  obtain ⟨z, th, hz, hspec⟩ := fates_at os[k].no (HO.out.2 _ (List.getElem_mem hlt)) E hs hEl (by omega)
  have q0 := hcs.at0
  have q1 := hcs.off 0 rfl
  have q2 := hcs.off 1 rfl
  have q3 := hcs.off 2 rfl
  have q4 := hcs.off 3 rfl
  have q5 := hcs.off 4 rfl
  have q6 := hcs.off 5 rfl
  simp only [Nat.reduceAdd] at q1 q2 q3 q4 q5 q6
  obtain ⟨o, ho'⟩ : ∃ o, os[k] = o := ⟨_, rfl⟩
  rw [ho'] at hn1 hn4 hn5 hn3 hn2 q0 q1 q2 q3 q4 q5 q6 hz hspec hrb
  have Hhn1 := Lib.hid hn1
  clear hn1
  have Hhn4 := Lib.hid hn4
  clear hn4
  have Hhn5 := Lib.hid hn5
  clear hn5
  have Hhn3 := Lib.hid hn3
  clear hn3
  have Hhn2 := Lib.hid hn2
  clear hn2
  have B1 : Below wr.heap.size wr (wr.alloc (opB o.kind o.sec o.to_ o.no o.x o.at_ (.slice A o.data.length c))) := (Below.refl _ _).alloc (Nat.le_refl _) _
  have hx1 := heap_alloc_new wr (opB o.kind o.sec o.to_ o.no o.x o.at_ (.slice A o.data.length c))
  have fm1 := fm.below B1
  have hrb1 := hrb.below B1
  obtain ⟨w1, hw1⟩ : ∃ W, wr.alloc (opB o.kind o.sec o.to_ o.no o.x o.at_ (.slice A o.data.length c)) = W := ⟨_, rfl⟩
  rw [hw1] at B1 hx1 fm1 hrb1
  have ll := lenF fm1.reads
  simp only [List.length_map] at ll
  have HF := Lib.hid (And.intro fm1 (And.intro led (And.intro hg (And.intro (hbr.trans (B1.mono fm.hB)) (And.intro hx1 (And.intro hrb1 (And.intro hEl hspec)))))))
  have HW1 := Lib.hid hw1
  have hxS : ∀ j, S j → j < wr.heap.size := fun j hj => (fm.hS j hj).2.1
  have HXS := Lib.hid hxS
  have hxX : ∀ j, XB u4 u5 E j → j < wr.heap.size := fun j hj => (fm.xlt hj).2
  have HXX := Lib.hid hxX
  clear hxS hxX
  clear hEl fm led hg hbr ho hcs hrb B1 hx1 fm1 hrb1 hw1 hspec ho'
  go_upto_region 12 with (fail)
  rw [HW1.out]
  clear q0 q1 q2 q3 q4 q5 q6
  have hx1 := HF.out.2.2.2.2.1
  have o0 : w1.cell? ⟨wr.heap.size, 0, none⟩ = some (.int .i64 o.kind) := cell_at hx1 0
  have o2 : w1.cell? ⟨wr.heap.size, 2, none⟩ = some (.int .i64 o.to_) := cell_at hx1 2
  have o3 : w1.cell? ⟨wr.heap.size, 3, none⟩ = some (.int .i64 o.no) := cell_at hx1 3
  have o6 : w1.cell? ⟨wr.heap.size, 6, none⟩ = some (.slice A o.data.length c) := cell_at hx1 6
  have HX1 := Lib.hid hx1
  clear hx1
  go_upto_region 13 with (fail)
  rw [hz]
  clear hz
  go_cut [9] from 38 to 51 (fun a wx => wx = w1 ∧ a = .bool th)
  case first =>
    rcases HF.out.2.2.2.2.2.2.2 with ⟨hth, i, f, d, hzi, hnoi, he, hh⟩ | ⟨hth, hgone, hzz⟩
    · subst hzi
      have hil := (List.getElem?_eq_some_iff.1 he).1
      have z1 : decide (0 ≤ (i : Int)) = true := by simp
      have z2 : decide ((i : Int) < (E.length : Int)) = true := by simp; omega
      obtain ⟨gb, hgb, hix, hfz, hcell⟩ := ownH_idx HF.out.1.rowH i (List.getElem?_eq_some_iff.1 hh).1
      rw [(List.getElem?_eq_some_iff.1 hh).2] at hcell
      clear he hh hnoi
      go_wp2_with fail
      go_meet
      case rel => exact ⟨rfl, by rw [hth]⟩
    · clear hgone
      rcases hzz with hzz | hzz | ⟨i, rfl, hil, hh⟩
      · have z1 : decide (0 ≤ z) = false := by simp; omega
        go_wp2_with fail
        go_meet
        case rel => exact ⟨rfl, by rw [hth]⟩
      · have z1 : decide (0 ≤ z) = true := by simp; omega
        have z2 : decide (z < (E.length : Int)) = false := by simp; omega
        go_wp2_with fail
        go_meet
        case rel => exact ⟨rfl, by rw [hth]⟩
      · have z1 : decide (0 ≤ (i : Int)) = true := by simp
        have z2 : decide ((i : Int) < (E.length : Int)) = true := by simp; omega
        obtain ⟨gb, hgb, hix, hfz, hcell⟩ := ownH_idx HF.out.1.rowH i (List.getElem?_eq_some_iff.1 hh).1
        rw [(List.getElem?_eq_some_iff.1 hh).2] at hcell
        clear hh
        go_wp2_with fail
        go_meet
        case rel => exact ⟨rfl, by rw [hth]⟩
  case rest =>
    obtain ⟨hwc, rfl⟩ := hcut
    rw [hwc]
    clear hwc
    have hlt1 : wr.heap.size < w1.heap.size := lt_of_heap HX1.out
    have o1 : w1.cell? ⟨wr.heap.size, 1, none⟩ = some (.bool o.sec) := cell_at HX1.out 1
    have o4 : w1.cell? ⟨wr.heap.size, 4, none⟩ = some (.int .i64 o.x) := cell_at HX1.out 4
    have o5 : w1.cell? ⟨wr.heap.size, 5, none⟩ = some (.int .i64 o.at_) := cell_at HX1.out 5
    have hn1 := Hhn1.out
    have hn4 := Hhn4.out
    have hn5 := Hhn5.out
    have hn3 := Hhn3.out
    have hn2 := Hhn2.out
    have hk1 := hn1
    have e1 : (o.kind == 1) = false := by simpa using hn1
    have hk4 := hn4
    have e4 : (o.kind == 4) = false := by simpa using hn4
    have hk5 := hn5
    have e5 : (o.kind == 5) = false := by simpa using hn5
    have hk3 := hn3
    have e3 : (o.kind == 3) = false := by simpa using hn3
    have hk2 := hn2
    have e2 : (o.kind == 2) = false := by simpa using hk2
    clear hk1 hk4 hk5 hk3 hk2
    go_wp2_with fail
    go_roundw
    case rel => exact ⟨k + 1, by omega, by omega, by go_num, s, E, hs, S, HF.out.2.2.2.2.2.2.1, by omega, HF.out.1, HF.out.2.1, HF.out.2.2.1.more (by omega), HF.out.2.2.2.1⟩
    case measure => simp [intOf]; omega
end Go.Proofs.Ytpakocgbbggolaa
