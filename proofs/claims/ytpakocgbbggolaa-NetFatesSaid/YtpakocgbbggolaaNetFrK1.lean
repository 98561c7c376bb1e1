import Derived.Test.YtpakocgbbggolaaNetFb
import Derived.Deep.RegionHeld3
import Derived.Deep.RegionLaw
import Derived.Deep.DeepCutAuto
import Derived.Deep.CutRange
import Derived.Deep.DeepFit
set_option linter.unusedSimpArgs false
set_option linter.unusedVariables false
namespace Go.Proofs.Ytpakocgbbggolaa
open Go.RowKit Go.Proofs.Cul Go.ChangeMaps

set_option maxHeartbeats 40000000 in
set_option maxRecDepth 1000000 in
theorem fates_K1 (w w0 w2 wr : World) (v : Value) (os : List Opx) (lo : ∀ (ty : TypeId) (W : World), (Builtin.len_ #[22] ty #[v]).run Try.prog W = .ok (.int .i64 os.length) W) (hle : os.length ≤ 9223372036854775807)
    (hnum : ∀ (w : World) (e : Int), Calls Try.prog 15 #[.int .i64 e] w fun x w' => x = .returned (.int .i64 e) ∧ w = w')
    (HO : Hid (RO w (fun k => k < w.heap.size) v os ∧ ∀ o ∈ os, -9223372036854775808 ≤ o.no ∧ o.no ≤ 9223372036854775807)) (HB : Hid (Below w.heap.size w w0)) (HB2 : Hid (Below w0.heap.size w0 w2)) (hgs : w0.heap.size ≤ w2.heap.size)
    (k : Nat) (hlt : k < os.length) (h3 : k < 1000)  (hk1 : os[k].kind = 1) (K0 : Act → World → Prop) (R0 : Ending → World → Prop) (u2 u4 u5 u7 u8 u9 u10 u11 u12 u13 u14 u15 u21 u22 u23 u24 u25 u26 u27 u28 u29 u30 u31 u32 u33 u34 u35 u36 u37 u38 u39 u40 u41 u42 u43 u44 u45 u46 u47 u48 u49 u50 u51 u52 u53 u54 u55 u56 u57 u58 u59 u60 u61 u62 u63 u64 u65 u66 u67 u68 u69 u70 u71 u72 u73 u74 u75 u76 u77 u78 u79 u80 u81 u82 u83 u84 u85 u86 u87 u88 u89 u90 u91 u92 u93 u94 u95 u96 u97 u98 u99 u100 u101 u102 u103 u104 u105 u106 u107 u108 u109 u110 u111 u112 u113 u114 u115 u116 u117 u118 u119 u120 u121 u122 u123 u124 u125 u126 u127 u128 u129 u130 u131 u132 u133 u134 u135 u136 u137 u138 u139 u140 u141 u142 u143 u144 u145 u146 u147 u148 u149 u150 u151 u152 u153 u154 u155 u156 u157 u158 u159 u160 u161 u162 u163 u164 u165 u166 u167 u168 u169 u170 u171 u172 u173 u174 u175 u176 u177 u178 u179 u180 u181 u182 u183 u184 u185 u186 u187 u188 u189 u190 u191 u192 u193 u194 u195 u196 u197 u198 u199 u200 u201 u202 u203 u204 u205 u206 u207 : Value)
    (s : St) (E : List (Fl × Value)) (hs : List Bool) (S : Nat → Prop) (hEl : E.length = hs.length) (hEk : E.length ≤ k) (fm : FM w0.heap.size wr (w0.heap.size + 1) s u4 u5 E hs S) (led : Ledger s (EB E hs)) (hg : Good s k) (hbr : Below w0.heap.size w2 wr) :
    Code.wp Try.prog fatesBody (Exit.then (fun a' w' => (∃ u2 u4 u5 u6 u7 u8 u9 u10 u11 u12 u13 u14 u15 u21 u22 u23 u24 u25 u26 u27 u28 u29 u30 u31 u32 u33 u34 u35 u36 u37 u38 u39 u40 u41 u42 u43 u44 u45 u46 u47 u48 u49 u50 u51 u52 u53 u54 u55 u56 u57 u58 u59 u60 u61 u62 u63 u64 u65 u66 u67 u68 u69 u70 u71 u72 u73 u74 u75 u76 u77 u78 u79 u80 u81 u82 u83 u84 u85 u86 u87 u88 u89 u90 u91 u92 u93 u94 u95 u96 u97 u98 u99 u100 u101 u102 u103 u104 u105 u106 u107 u108 u109 u110 u111 u112 u113 u114 u115 u116 u117 u118 u119 u120 u121 u122 u123 u124 u125 u126 u127 u128 u129 u130 u131 u132 u133 u134 u135 u136 u137 u138 u139 u140 u141 u142 u143 u144 u145 u146 u147 u148 u149 u150 u151 u152 u153 u154 u155 u156 u157 u158 u159 u160 u161 u162 u163 u164 u165 u166 u167 u168 u169 u170 u171 u172 u173 u174 u175 u176 u177 u178 u179 u180 u181 u182 u183 u184 u185 u186 u187 u188 u189 u190 u191 u192 u193 u194 u195 u196 u197 u198 u199 u200 u201 u202 u203 u204 u205 u206 u207, (∃ k : Nat, k ≤ os.length ∧ k ≤ 1000 ∧ u6 = .int .i64 k ∧ Fates w0.heap.size w2 (w0.heap.size + 1) k u4 u5 w') ∧ a' = { tmps := (List.toArray (v :: undef :: u2 :: Value.pointer (some { block := w0.heap.size + 1, off := 0 }) :: u4 :: u5 :: u6 :: u7 :: u8 :: u9 :: u10 :: u11 :: u12 :: u13 :: u14 :: u15 :: Value.bool true :: Value.bool false :: Value.pointer (some { block := w0.heap.size + 1, off := 0 }) :: Value.pointer (some { block := w0.heap.size + 1, off := 0 }) :: Value.bool false :: u21 :: u22 :: u23 :: u24 :: u25 :: u26 :: u27 :: u28 :: u29 :: u30 :: u31 :: u32 :: u33 :: u34 :: u35 :: u36 :: u37 :: u38 :: u39 :: u40 :: u41 :: u42 :: u43 :: u44 :: u45 :: u46 :: u47 :: u48 :: u49 :: u50 :: u51 :: u52 :: u53 :: u54 :: u55 :: u56 :: u57 :: u58 :: u59 :: u60 :: u61 :: u62 :: u63 :: u64 :: u65 :: u66 :: u67 :: u68 :: u69 :: u70 :: u71 :: u72 :: u73 :: u74 :: u75 :: u76 :: u77 :: u78 :: u79 :: u80 :: u81 :: u82 :: u83 :: u84 :: u85 :: u86 :: u87 :: u88 :: u89 :: u90 :: u91 :: u92 :: u93 :: u94 :: u95 :: u96 :: u97 :: u98 :: u99 :: u100 :: u101 :: u102 :: u103 :: u104 :: u105 :: u106 :: u107 :: u108 :: u109 :: u110 :: u111 :: u112 :: u113 :: u114 :: u115 :: u116 :: u117 :: u118 :: u119 :: u120 :: u121 :: u122 :: u123 :: u124 :: u125 :: u126 :: u127 :: u128 :: u129 :: u130 :: u131 :: u132 :: u133 :: u134 :: u135 :: u136 :: u137 :: u138 :: u139 :: u140 :: u141 :: u142 :: u143 :: u144 :: u145 :: u146 :: u147 :: u148 :: u149 :: u150 :: u151 :: u152 :: u153 :: u154 :: u155 :: u156 :: u157 :: u158 :: u159 :: u160 :: u161 :: u162 :: u163 :: u164 :: u165 :: u166 :: u167 :: u168 :: u169 :: u170 :: u171 :: u172 :: u173 :: u174 :: u175 :: u176 :: u177 :: u178 :: u179 :: u180 :: u181 :: u182 :: u183 :: u184 :: u185 :: u186 :: u187 :: u188 :: u189 :: u190 :: u191 :: u192 :: u193 :: u194 :: u195 :: u196 :: u197 :: u198 :: u199 :: u200 :: u201 :: u202 :: u203 :: u204 :: u205 :: u206 :: u207 :: undef :: undef :: undef :: undef :: [])), defers := [] }) ∧ os.length - (intOf (a'.tmps.getD 6 undef)).toNat < os.length - (intOf ((List.toArray (v :: undef :: u2 :: Value.pointer (some { block := w0.heap.size + 1, off := 0 }) :: u4 :: u5 :: Value.int IntKind.i64 (k : Int) :: u7 :: u8 :: u9 :: u10 :: u11 :: u12 :: u13 :: u14 :: u15 :: Value.bool true :: Value.bool false :: Value.pointer (some { block := w0.heap.size + 1, off := 0 }) :: Value.pointer (some { block := w0.heap.size + 1, off := 0 }) :: Value.bool false :: u21 :: u22 :: u23 :: u24 :: u25 :: u26 :: u27 :: u28 :: u29 :: u30 :: u31 :: u32 :: u33 :: u34 :: u35 :: u36 :: u37 :: u38 :: u39 :: u40 :: u41 :: u42 :: u43 :: u44 :: u45 :: u46 :: u47 :: u48 :: u49 :: u50 :: u51 :: u52 :: u53 :: u54 :: u55 :: u56 :: u57 :: u58 :: u59 :: u60 :: u61 :: u62 :: u63 :: u64 :: u65 :: u66 :: u67 :: u68 :: u69 :: u70 :: u71 :: u72 :: u73 :: u74 :: u75 :: u76 :: u77 :: u78 :: u79 :: u80 :: u81 :: u82 :: u83 :: u84 :: u85 :: u86 :: u87 :: u88 :: u89 :: u90 :: u91 :: u92 :: u93 :: u94 :: u95 :: u96 :: u97 :: u98 :: u99 :: u100 :: u101 :: u102 :: u103 :: u104 :: u105 :: u106 :: u107 :: u108 :: u109 :: u110 :: u111 :: u112 :: u113 :: u114 :: u115 :: u116 :: u117 :: u118 :: u119 :: u120 :: u121 :: u122 :: u123 :: u124 :: u125 :: u126 :: u127 :: u128 :: u129 :: u130 :: u131 :: u132 :: u133 :: u134 :: u135 :: u136 :: u137 :: u138 :: u139 :: u140 :: u141 :: u142 :: u143 :: u144 :: u145 :: u146 :: u147 :: u148 :: u149 :: u150 :: u151 :: u152 :: u153 :: u154 :: u155 :: u156 :: u157 :: u158 :: u159 :: u160 :: u161 :: u162 :: u163 :: u164 :: u165 :: u166 :: u167 :: u168 :: u169 :: u170 :: u171 :: u172 :: u173 :: u174 :: u175 :: u176 :: u177 :: u178 :: u179 :: u180 :: u181 :: u182 :: u183 :: u184 :: u185 :: u186 :: u187 :: u188 :: u189 :: u190 :: u191 :: u192 :: u193 :: u194 :: u195 :: u196 :: u197 :: u198 :: u199 :: u200 :: u201 :: u202 :: u203 :: u204 :: u205 :: u206 :: u207 :: undef :: undef :: undef :: undef :: [])).getD 6 undef)).toNat) (Exit.inBlock 0 (Exit.then K0 (bodyPost Try.prog Try.f6 R0)))) { tmps := (List.toArray (v :: undef :: u2 :: Value.pointer (some { block := w0.heap.size + 1, off := 0 }) :: u4 :: u5 :: Value.int IntKind.i64 (k : Int) :: u7 :: u8 :: u9 :: u10 :: u11 :: u12 :: u13 :: u14 :: u15 :: Value.bool true :: Value.bool false :: Value.pointer (some { block := w0.heap.size + 1, off := 0 }) :: Value.pointer (some { block := w0.heap.size + 1, off := 0 }) :: Value.bool false :: u21 :: u22 :: u23 :: u24 :: u25 :: u26 :: u27 :: u28 :: u29 :: u30 :: u31 :: u32 :: u33 :: u34 :: u35 :: u36 :: u37 :: u38 :: u39 :: u40 :: u41 :: u42 :: u43 :: u44 :: u45 :: u46 :: u47 :: u48 :: u49 :: u50 :: u51 :: u52 :: u53 :: u54 :: u55 :: u56 :: u57 :: u58 :: u59 :: u60 :: u61 :: u62 :: u63 :: u64 :: u65 :: u66 :: u67 :: u68 :: u69 :: u70 :: u71 :: u72 :: u73 :: u74 :: u75 :: u76 :: u77 :: u78 :: u79 :: u80 :: u81 :: u82 :: u83 :: u84 :: u85 :: u86 :: u87 :: u88 :: u89 :: u90 :: u91 :: u92 :: u93 :: u94 :: u95 :: u96 :: u97 :: u98 :: u99 :: u100 :: u101 :: u102 :: u103 :: u104 :: u105 :: u106 :: u107 :: u108 :: u109 :: u110 :: u111 :: u112 :: u113 :: u114 :: u115 :: u116 :: u117 :: u118 :: u119 :: u120 :: u121 :: u122 :: u123 :: u124 :: u125 :: u126 :: u127 :: u128 :: u129 :: u130 :: u131 :: u132 :: u133 :: u134 :: u135 :: u136 :: u137 :: u138 :: u139 :: u140 :: u141 :: u142 :: u143 :: u144 :: u145 :: u146 :: u147 :: u148 :: u149 :: u150 :: u151 :: u152 :: u153 :: u154 :: u155 :: u156 :: u157 :: u158 :: u159 :: u160 :: u161 :: u162 :: u163 :: u164 :: u165 :: u166 :: u167 :: u168 :: u169 :: u170 :: u171 :: u172 :: u173 :: u174 :: u175 :: u176 :: u177 :: u178 :: u179 :: u180 :: u181 :: u182 :: u183 :: u184 :: u185 :: u186 :: u187 :: u188 :: u189 :: u190 :: u191 :: u192 :: u193 :: u194 :: u195 :: u196 :: u197 :: u198 :: u199 :: u200 :: u201 :: u202 :: u203 :: u204 :: u205 :: u206 :: u207 :: undef :: undef :: undef :: undef :: [])), defers := [] } wr := by
  conv => arg 2; whnf
  have hk : k ≤ os.length := by omega
  have hk3' : k ≤ 1000 := by omega
  have b1 : decide ((k : Int) < (os.length : Int)) = true := by simp; omega
  have b2 : decide ((k : Int) < 1000) = true := by simp; omega
  have ho : RO wr (fun k => k < w.heap.size) v os := HO.out.1.move (fun i hi _ => by
    rw [hbr.block i (by have := HB.out.size; omega), HB2.out.block i (by have := HB.out.size; omega), HB.out.block i hi])
  obtain ⟨q, A, c, hq, hqS, hql, hcs, hrb⟩ := idxO ho k hlt
  obtain ⟨z, th, hz, hspec⟩ := fates_at os[k].no (HO.out.2 _ (List.getElem_mem hlt)) E hs hEl (by omega)
  have q0 := hcs.at0
  have q1 := hcs.off 0 rfl
  have q2 := hcs.off 1 rfl
  have q3 := hcs.off 2 rfl
  have q4 := hcs.off 3 rfl
  have q5 := hcs.off 4 rfl
  have q6 := hcs.off 5 rfl
  simp only [Nat.reduceAdd] at q1 q2 q3 q4 q5 q6
  obtain ⟨o, ho'⟩ : ∃ o, os[k] = o := ⟨_, rfl⟩
  rw [ho'] at hk1 q0 q1 q2 q3 q4 q5 q6 hz hspec hrb
  have Hhk1 := Lib.hid hk1
  clear hk1
  have B1 : Below wr.heap.size wr (wr.alloc (opB o.kind o.sec o.to_ o.no o.x o.at_ (.slice A o.data.length c))) := (Below.refl _ _).alloc (Nat.le_refl _) _
  have hx1 := heap_alloc_new wr (opB o.kind o.sec o.to_ o.no o.x o.at_ (.slice A o.data.length c))
  have fm1 := fm.below B1
  have hrb1 := hrb.below B1
  obtain ⟨w1, hw1⟩ : ∃ W, wr.alloc (opB o.kind o.sec o.to_ o.no o.x o.at_ (.slice A o.data.length c)) = W := ⟨_, rfl⟩
  rw [hw1] at B1 hx1 fm1 hrb1
  have ll := lenF fm1.reads
  simp only [List.length_map] at ll
  have HF := Lib.hid (And.intro fm1 (And.intro led (And.intro hg (And.intro (hbr.trans (B1.mono fm.hB)) (And.intro hx1 (And.intro hrb1 (And.intro hEl hspec)))))))
  have HW1 := Lib.hid hw1
  have hxS : ∀ j, S j → j < wr.heap.size := fun j hj => (fm.hS j hj).2.1
  have HXS := Lib.hid hxS
  have hxX : ∀ j, XB u4 u5 E j → j < wr.heap.size := fun j hj => (fm.xlt hj).2
  have HXX := Lib.hid hxX
  clear hxS hxX
  clear hEl fm led hg hbr ho hcs hrb B1 hx1 fm1 hrb1 hw1 hspec ho'
  go_upto_region 12 with (fail)
  rw [HW1.out]
  clear q0 q1 q2 q3 q4 q5 q6
  have hx1 := HF.out.2.2.2.2.1
  have o0 : w1.cell? ⟨wr.heap.size, 0, none⟩ = some (.int .i64 o.kind) := cell_at hx1 0
  have o2 : w1.cell? ⟨wr.heap.size, 2, none⟩ = some (.int .i64 o.to_) := cell_at hx1 2
  have o3 : w1.cell? ⟨wr.heap.size, 3, none⟩ = some (.int .i64 o.no) := cell_at hx1 3
  have o6 : w1.cell? ⟨wr.heap.size, 6, none⟩ = some (.slice A o.data.length c) := cell_at hx1 6
  have HX1 := Lib.hid hx1
  clear hx1
  go_upto_region 13 with (fail)
  rw [hz]
  clear hz
  go_cut [9] from 38 to 51 (fun a wx => wx = w1 ∧ a = .bool th)
  case first =>
    rcases HF.out.2.2.2.2.2.2.2 with ⟨hth, i, f, d, hzi, hnoi, he, hh⟩ | ⟨hth, hgone, hzz⟩
    · subst hzi
      have hil := (List.getElem?_eq_some_iff.1 he).1
      have z1 : decide (0 ≤ (i : Int)) = true := by simp
      have z2 : decide ((i : Int) < (E.length : Int)) = true := by simp; omega
      obtain ⟨gb, hgb, hix, hfz, hcell⟩ := ownH_idx HF.out.1.rowH i (List.getElem?_eq_some_iff.1 hh).1
      rw [(List.getElem?_eq_some_iff.1 hh).2] at hcell
      clear he hh hnoi
      go_wp2_with fail
      go_meet
      case rel => exact ⟨rfl, by rw [hth]⟩
    · clear hgone
      rcases hzz with hzz | hzz | ⟨i, rfl, hil, hh⟩
      · have z1 : decide (0 ≤ z) = false := by simp; omega
        go_wp2_with fail
        go_meet
        case rel => exact ⟨rfl, by rw [hth]⟩
      · have z1 : decide (0 ≤ z) = true := by simp; omega
        have z2 : decide (z < (E.length : Int)) = false := by simp; omega
        go_wp2_with fail
        go_meet
        case rel => exact ⟨rfl, by rw [hth]⟩
      · have z1 : decide (0 ≤ (i : Int)) = true := by simp
        have z2 : decide ((i : Int) < (E.length : Int)) = true := by simp; omega
        obtain ⟨gb, hgb, hix, hfz, hcell⟩ := ownH_idx HF.out.1.rowH i (List.getElem?_eq_some_iff.1 hh).1
        rw [(List.getElem?_eq_some_iff.1 hh).2] at hcell
        clear hh
        go_wp2_with fail
        go_meet
        case rel => exact ⟨rfl, by rw [hth]⟩
  case rest =>
    obtain ⟨hwc, rfl⟩ := hcut
    rw [hwc]
    clear hwc
    have hlt1 : wr.heap.size < w1.heap.size := lt_of_heap HX1.out
    have o1 : w1.cell? ⟨wr.heap.size, 1, none⟩ = some (.bool o.sec) := cell_at HX1.out 1
    have o4 : w1.cell? ⟨wr.heap.size, 4, none⟩ = some (.int .i64 o.x) := cell_at HX1.out 4
    have o5 : w1.cell? ⟨wr.heap.size, 5, none⟩ = some (.int .i64 o.at_) := cell_at HX1.out 5
    have hk1 := Hhk1.out
    have e1 : (o.kind == 1) = true := by simpa using hk1
    have ld := lenB HF.out.2.2.2.2.2.1
    by_cases hlen : 4096 < o.data.length
    · have b3 : decide ((4096 : Int) < (o.data.length : Int)) = true := by simp; omega
      clear hk1 o1 o4 o5
      go_wp2_with fail
      go_roundw
      case rel => exact ⟨k + 1, by omega, by omega, by go_num, s, E, hs, S, HF.out.2.2.2.2.2.2.1, by omega, HF.out.1, HF.out.2.1, HF.out.2.2.1.more (by omega), HF.out.2.2.2.1⟩
      case measure => simp [intOf]; omega
    · have b3 : decide ((4096 : Int) < (o.data.length : Int)) = false := by simp; omega
      have hl4 : o.data.length ≤ 4096 := by omega
      have hEl := HF.out.2.2.2.2.2.2.1
      obtain ⟨hs1, hled⟩ := led_send HF.out.2.1 hEl (by omega) o.to_ o.data hl4
      have hBy := bytes_calls (.slice A o.data.length c) o.data w1.drew _ (HF.out.2.2.2.2.2.1.below ((Below.refl _ _).drew)) (by omega)
      have hSn : ∀ wb bA bc, Below w1.heap.size w1 wb → wb.ownsRow w1.heap.size 5 1 (.slice bA o.data.length bc) o.data.length (u8s o.data) → Calls Try.prog 13 #[.pointer (some ⟨w0.heap.size + 1, 0, none⟩), .int .i64 o.to_, .slice bA o.data.length bc] wb fun e w' => ∃ S', e = .returned (.int .i64 ((E.length : Int) + 1)) ∧ FM w0.heap.size w' (w0.heap.size + 1) (s.send o.to_ o.data).2 u4 u5 E hs S' ∧ Kp S wb w' := fun wb bA bc hb ho => by
        have f := (HF.out.1.below hb).send HF.out.2.2.1 (by omega) o.to_ (.slice bA o.data.length bc) o.data (RB.of_own ho HF.out.2.2.2.2.2.1.isB (fun j hj => hj)) (fun e => by
          have h1 := (ho.lt _ e).1
          have h2 := HXS.out _ HF.out.1.net.self.1
          omega) (by omega)
        rw [hs1] at f
        exact f
      have hop : ∀ wb W, Below w1.heap.size w1 wb → Kp S wb W → W.heap[wr.heap.size]? = w1.heap[wr.heap.size]? := fun wb W hb hk => by
        rw [hk.block wr.heap.size (by have := hb.size; omega) (fun e => by have := HXS.out _ e; omega), hb.block _ hlt1]
      have HSN := Lib.hid hSn
      have HOP := Lib.hid hop
      have HLD := Lib.hid hled
      have HEL := Lib.hid hEl
      have HS1 := Lib.hid hs1
      clear hk1 o1 o4 o5 hlen hSn hop hled hEl hs1
      go_wp2_with fail
      go_region_held3 (fun W => W.cell? ⟨wr.heap.size, 2, none⟩ = some (.int .i64 o.to_) ∧ W.cell? ⟨wr.heap.size, 6, none⟩ = some (.slice A o.data.length c))
        (first | exact ⟨o2, o6⟩ | exact c1 | exact c2)
        (first | (go_simp; go_at_call 18; refine hBy.mono ?_; rintro e wb ⟨bd, rfl, hbo, hbb0, _⟩; have hbb : Below w1.heap.size w1 wb := ((Below.refl w1.heap.size w1).drew).trans hbb0; obtain ⟨bA, bc, rfl⟩ := own_slice hbo; have xb : wb.heap[wr.heap.size]? = _ := (HOP.out wb wb hbb (Kp.refl _ _)).trans HX1.out; have c1 := And.intro (cell_at xb 2) (cell_at xb 6)) | (go_simp; go_at_call 13; refine (HSN.out wb bA bc hbb hbo).mono ?_; rintro e w3 ⟨S3, rfl, fm3, kp3⟩; have x3 : w3.heap[wr.heap.size]? = _ := (HOP.out wb w3 hbb kp3).trans HX1.out; have c2 := And.intro (cell_at x3 2) (cell_at x3 6)))
      have d2 : w3.cell? ⟨wr.heap.size, 2, none⟩ = some (.int .i64 o.to_) := cell_at x3 2
      have d6 : w3.cell? ⟨wr.heap.size, 6, none⟩ = some (.slice A o.data.length c) := cell_at x3 6
      have b13 : Below w0.heap.size w1 w3 := (hbb.mono HF.out.1.hB).trans ((HF.out.1.below hbb).kpB kp3)
      have rb3 : RB w3 (fun k => k < w.heap.size) (.slice A o.data.length c) o.data := HF.out.2.2.2.2.2.1.move (fun i hi _ => b13.block i (by have := HB.out.size; omega))
      have hBy2 := bytes_calls (.slice A o.data.length c) o.data w3.drew _ (rb3.below ((Below.refl _ _).drew)) (by omega)
      have x3l := lt_of_heap x3
      have H3 := Lib.hid (And.intro fm3 (And.intro b13 x3))
      have oL3 := Lib.hid fm3.rowL
      have z3 : w0.heap.size ≤ w3.heap.size := fm3.hB
      clear fm3 b13 x3 rb3 kp3 hbb hbo xb c1 c2 hBy o2 o3 o6 o0
      go_wp2_with fail
      go_region_held3 (fun W => W.cell? ⟨wr.heap.size, 2, none⟩ = some (.int .i64 o.to_) ∧ W.cell? ⟨wr.heap.size, 6, none⟩ = some (.slice A o.data.length c))
        (first | exact ⟨d2, d6⟩ | exact c3 | exact c4.out _ | exact c5)
        (first | (go_simp; go_at_call 18; refine hBy2.mono ?_; rintro e w4 ⟨bd4, rfl, hbo4, hbb40, _⟩; have hbb4 : Below w3.heap.size w3 w4 := ((Below.refl w3.heap.size w3).drew).trans hbb40; obtain ⟨bA4, bc4, rfl⟩ := own_slice hbo4; have xb4 : w4.heap[wr.heap.size]? = _ := (hbb4.block _ x3l).trans H3.out.2.2; have c3 := And.intro (cell_at xb4 2) (cell_at xb4 6); have c4 := Lib.hid (fun (O : Obj) => And.intro ((cell_same (w' := w4.alloc O) (Below.heap_alloc w4 O wr.heap.size (lt_of_heap xb4))).trans (cell_at xb4 2)) ((cell_same (w' := w4.alloc O) (a := ⟨wr.heap.size, 6, none⟩) (Below.heap_alloc w4 O wr.heap.size (lt_of_heap xb4))).trans (cell_at xb4 6))); have oL4 := own_below oL3.out hbb4; have z4 := hbb4.size; have z44 := z4) | (refine step_append_src rfl _ _ rowT49 rfl rfl (oL4.alloc _) rfl (Src.alloc (cs := #[.int .i64 ((E.length : Int) + 1), .int .i64 o.to_, .slice bA4 o.data.length bc4]) rfl (by simp [Value.oneCell'])) ?_ ?_ ?_ ?_; omega; (unfold maxLen; omega); (simp; omega); intro v5 w5 ho5 hg5 _ hat5; have x5 : w5.heap[wr.heap.size]? = _ := (hg5.block wr.heap.size (by simp; omega) (fun e => by have := HXX.out _ (Or.inl e.symm); omega)).trans ((Below.heap_alloc w4 _ wr.heap.size (lt_of_heap xb4)).trans xb4); have c5 := And.intro (cell_at x5 2) (cell_at x5 6)))
      have k45 : Kp (fun i => u4.ownBlock = some i) w4 w5 := ((Kp.refl _ w4).alloc _).grown hg5 (fun b hb => Or.inl hb)
      have fm5 := H3.out.1.appL (f := ⟨(E.length : Int) + 1, o.to_, o.data⟩) hbb4 (Nat.le_refl _) hbo4 HF.out.2.2.2.2.2.1.isB k45 ho5 (hat5.imp id (fun e => ⟨_, e, by simp⟩))
      have b35 : Below w0.heap.size w3 w5 := (hbb4.mono z3).trans (Kp.belowB k45 (by omega) (fun j hj => (oL3.out.lt j hj).1))
      have oH5 := fm5.rowH
      have oH6 := own_below oH5 ((Below.refl w5.heap.size w5).alloc (Nat.le_refl _) (.cells #[.bool true] 4))
      have s6 : Src (w5.alloc (.cells #[.bool true] 4)) (.slice (some ⟨w5.heap.size, 0, none⟩) 1 1) 1 1 [.bool true] := Src.alloc rfl (by simp [Value.oneCell'])
      have z5 : w0.heap.size ≤ w5.heap.size := fm5.hB
      have hsl : hs.length ≤ 1000 := by have := HEL.out; omega
      have H5 := Lib.hid (And.intro fm5 (And.intro b35 oH5))
      clear fm5 b35 oH5 ho5 hg5 hat5 k45 x5 c5 c3 c4 xb4 hbo4 hbb4 hBy2 oL4 d2 d6
      go_wp2_with (at_builtin; refine wpList_append_src rfl _ _ rowTBool rfl rfl oH6 rfl s6 ?c4 ?c3 (by simp; omega) ?_)
      case c4 => omega
      case c3 => unfold maxLen; omega
      intro v6 w6 ho6 hg6 _ hat6
      have k56 : Kp (fun i => u5.ownBlock = some i) w5 w6 := ((Kp.refl _ w5).alloc _).grown hg6 (fun b hb => Or.inl hb)
      have fm6 := H5.out.1.appH (b := true) k56 ho6 (hat6.imp id (fun e => ⟨_, e, by simp⟩))
      have b56 : Below w0.heap.size w5 w6 := Kp.belowB k56 z5 (fun j hj => (H5.out.2.2.lt j hj).1)
      have H6 := Lib.hid (And.intro fm6 b56)
      clear fm6 b56 k56 ho6 hg6 hat6 oH6 s6
      go_wp2_with fail
      go_roundw
      case rel => exact ⟨k + 1, by omega, by omega, by go_num, _, _, _, _, by have := HEL.out; simp; omega, by simp; omega, H6.out.1, HLD.out _, (HF.out.2.2.1.send o.to_ o.data (by omega)).more (by omega), ((HF.out.2.2.2.1.trans H3.out.2.1).trans H5.out.2.1).trans H6.out.2⟩
      case measure => simp [intOf]; omega
end Go.Proofs.Ytpakocgbbggolaa
