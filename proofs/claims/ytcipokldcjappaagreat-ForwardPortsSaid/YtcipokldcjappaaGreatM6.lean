/-
  Part 6 of the walks behind the claim: Dec, Bld, Bld2, Awk0, Awake, Port7.
-/
import Derived.Test.YtcipokldcjappaaGreatM5
import Derived.Laws.IdiomCopy
import Derived.Lib.SlBytesConst
set_option linter.unusedVariables false
set_option linter.unusedSimpArgs false

namespace Go.Proofs.YtcipokldcjappaaGreat
open Go.RowKit

theorem fread0_results (tmps : Array Value) (W : World) (a b : Nat) (x0 x1 x3 x4 k : Int) (v : Bool) (h2 : tmps[2]? = some (.pointer (some ⟨a, 0, none⟩))) (h3 : tmps[3]? = some (.pointer (some ⟨b, 0, none⟩))) (h4 : tmps[4]? = some (.int .i64 k)) (ha : Blk W a 80 #[.nilFunc, .nilFunc]) (hb : Blk W b 82 #[.int .u64 x0, .int .u64 x1, .bool v, .int .i64 x3, .int .i64 x4]) :
    (results Tryz.f29 tmps).run Tryz.prog W = .ok (.tuple #[.agg #[.nilFunc, .nilFunc], .agg #[.int .u64 x0, .int .u64 x1, .bool v, .int .i64 x3, .int .i64 x4], .int .i64 k]) W := by
  have c0 := hb.cell 0
  have c1 := hb.cell 1
  have c2 := hb.cell 2
  have c3 := hb.cell 3
  have c4 := hb.cell 4
  have d0 := ha.cell 0
  have d1 := ha.cell 1
  simp at c0 c1 c2 c3 c4 d0 d1
  simp [results, Tryz.results29, go_sem, h2, h3, h4, c0, c1, c2, c3, c4, d0, d1]

set_option maxRecDepth 100000 in
set_option maxHeartbeats 1000000 in
theorem fread0_c (a : Option Addr) (c : Nat) (w : World) :
    Calls Tryz.prog 29 #[.slice a 0 c] w fun e w' => e = .returned (.tuple #[.agg #[.nilFunc, .nilFunc], .agg #[.int .u64 0, .int .u64 0, .bool false, .int .i64 0, .int .i64 0], (.int .i64 (1))]) ∧ Ext w w' := by
  go_enter Tryz.func29, Tryz.ntmps29
  go_wp2_with (go_at_call 52; (with_reducible refine (fof0_c _ _ _).mono ?_); rintro e w1 ⟨rfl, h1⟩; have c_h1 := h1.cell; have f_h1 := h1.frozen; have z_h1_0 := h1.lt (b := w.heap.size) (by first | omega | (simp <;> omega)); have z_h1_1 := h1.lt (b := w.heap.size + 1) (by first | omega | (simp <;> omega)))
  have hA := (((((((((((Blk.new w 80 #[.nilFunc, .nilFunc]).ext ((Ext.refl _).alloc (.cells #[.int .u64 0, .int .u64 0, .bool false, .int .i64 0, .int .i64 0] 82))).ext h1)).set 0 (.nilFunc)).set 1 (.nilFunc)).far (p := ⟨w.heap.size + 1, 0, none⟩) (by simp <;> omega) (.int .u64 0)).far (p := ⟨w.heap.size + 1, 1, none⟩) (by simp <;> omega) (.int .u64 0)).far (p := ⟨w.heap.size + 1, 2, none⟩) (by simp <;> omega) (.bool false)).far (p := ⟨w.heap.size + 1, 3, none⟩) (by simp <;> omega) (.int .i64 0)).far (p := ⟨w.heap.size + 1, 4, none⟩) (by simp <;> omega) (.int .i64 0)).ext ((Ext.refl _).alloc (.cells #[.nilFunc, .nilFunc] 80))
  have hB := (((((((((Blk.new' (w.alloc (.cells #[.nilFunc, .nilFunc] 80)) (w.heap.size + 1) 82 #[.int .u64 0, .int .u64 0, .bool false, .int .i64 0, .int .i64 0] (by simp)).ext h1).far (p := ⟨w.heap.size, 0, none⟩) (by simp <;> omega) (.nilFunc)).far (p := ⟨w.heap.size, 1, none⟩) (by simp <;> omega) (.nilFunc)).set 0 (.int .u64 0)).set 1 (.int .u64 0)).set 2 (.bool false)).set 3 (.int .i64 0)).set 4 (.int .i64 0)).ext ((Ext.refl _).alloc (.cells #[.nilFunc, .nilFunc] 80))
  simp only [List.setIfInBounds_toArray, List.set_cons_zero, List.set_cons_succ] at hA hB
  refine bodyPost_ret (v := .tuple #[.agg #[.nilFunc, .nilFunc], .agg #[.int .u64 0, .int .u64 0, .bool false, .int .i64 0, .int .i64 0], (.int .i64 (1))]) (fread0_results _ _ w.heap.size (w.heap.size + 1) _ _ _ _ _ _ rfl rfl rfl hA hB) rfl ⟨rfl, ?_⟩
  (repeat (first | with_reducible exact Ext.refl _ | with_reducible assumption | (with_reducible refine Ext.set ?_ (by simp <;> omega) _) | (with_reducible refine Ext.alloc ?_ _) | (with_reducible refine Ext.drew ?_) | (with_reducible refine Ext.trans ?_ (by assumption)) | exact Ext.refl _))

set_option maxRecDepth 100000 in
set_option maxHeartbeats 1000000 in
theorem judge0_c (h a : Option Addr) (c : Nat) (w : World) :
    Calls Tryz.prog 42 #[.pointer h, .slice a 0 c] w fun e w' => e = .returned (.agg #[(.int .i64 (0)), (.int .i64 (1)), (.int .i64 (0)), (.int .i64 (0)), .slice none 0 0]) ∧ Ext w w' := by
  go_enter Tryz.func42, Tryz.ntmps42
  go_wp2_with (go_at_call 29; (with_reducible refine (fread0_c _ _ _).mono ?_); rintro e w1 ⟨rfl, h1⟩; have c_h1 := h1.cell; have f_h1 := h1.frozen; have z_h1_0 := h1.lt (b := w.heap.size) (by first | omega | (simp <;> omega)))
  have hb := (((((((Blk.new w 30 #[(.int .i64 (0)), (.int .i64 (0)), (.int .i64 (0)), (.int .i64 (0)), .slice none 0 0]).ext h1).set 0 ((.int .i64 (0)))).set 1 ((.int .i64 (1)))).set 2 ((.int .i64 (0)))).set 3 ((.int .i64 (0)))).set 4 (.slice none 0 0)).ext (((Ext.refl _).alloc (.cells #[.nilFunc, .nilFunc] 80)).alloc (.cells #[.int .u64 0, .int .u64 0, .bool false, .int .i64 0, .int .i64 0] 82))
  simp only [List.setIfInBounds_toArray, List.set_cons_zero, List.set_cons_succ] at hb
  refine bodyPost_ret (v := .agg #[(.int .i64 (0)), (.int .i64 (1)), (.int .i64 (0)), (.int .i64 (0)), .slice none 0 0]) (judge_results _ _ w.heap.size _ _ _ _ _ _ _ rfl hb) rfl ⟨rfl, ?_⟩
  (repeat (first | with_reducible exact Ext.refl _ | with_reducible assumption | (with_reducible refine Ext.set ?_ (by simp <;> omega) _) | (with_reducible refine Ext.alloc ?_ _) | (with_reducible refine Ext.drew ?_) | (with_reducible refine Ext.trans ?_ (by assumption)) | exact Ext.refl _))

theorem decide_results (tmps : Array Value) (W : World) (b : Nat) (x0 x1 x2 x3 : Int) (s : Option Addr) (n c : Nat) (h2 : tmps[4]? = some (.pointer (some ⟨b, 0, none⟩))) (hb : Blk W b 30 #[(.int .i64 (x0)), (.int .i64 (x1)), (.int .i64 (x2)), (.int .i64 (x3)), .slice s n c]) :
    (results Tryz.f18 tmps).run Tryz.prog W = .ok (.agg #[(.int .i64 (x0)), (.int .i64 (x1)), (.int .i64 (x2)), (.int .i64 (x3)), .slice s n c]) W := by
  have c0 := hb.cell 0
  have c1 := hb.cell 1
  have c2 := hb.cell 2
  have c3 := hb.cell 3
  have c4 := hb.cell 4
  simp at c0 c1 c2 c3 c4
  simp [results, Tryz.results18, go_sem, h2, c0, c1, c2, c3, c4]

set_option maxRecDepth 100000 in
set_option maxHeartbeats 1000000 in
theorem decide0_c (h r rb um t tb : Nat) (A F A2 F2 : Value) (ar ar2 : List Nd) (fr fr2 : List Nat) (n n2 most hops : Int) (st : List Int) (a : Option Addr) (c : Nat) (w : World)
    (hH : HierE w h r rb um t tb A F A2 F2 ar ar2 fr fr2 n n2 most hops 0 st) :
    Calls Tryz.prog 18 #[.pointer (some ⟨h, 0, none⟩), .slice a 0 c] w fun e w' => e = .returned (.agg #[(.int .i64 (0)), (.int .i64 (1)), (.int .i64 (0)), (.int .i64 (0)), .slice none 0 0]) ∧ Keep (fun k => k = h) w w' ∧ HierE w' h r rb um t tb A F A2 F2 ar ar2 fr fr2 n n2 most hops 0 (bumpL st 16 1) := by
  have hlt := hH.lt
  have HH0 := Lib.hid hH
  have HB := Lib.hid (Blk.new w 30 #[(.int .i64 (0)), (.int .i64 (0)), (.int .i64 (0)), (.int .i64 (0)), .slice none 0 0])
  clear hH
  go_enter Tryz.func18, Tryz.ntmps18
  go_wp2_with (first
    | (go_at_call 42; (with_reducible refine (judge0_c _ _ _ _).mono ?_); rintro e w1 ⟨rfl, h1⟩; have c_h1 := h1.cell; have f_h1 := h1.frozen; have z_h1_0 := h1.lt (b := w.heap.size) (by first | omega | (simp <;> omega)); have hx1 := ((Ext.refl w).alloc (.cells #[(.int .i64 (0)), (.int .i64 (0)), (.int .i64 (0)), (.int .i64 (0)), .slice none 0 0] 30)).trans h1; have HH1 := Lib.hid (HH0.out.ext hx1); have HB1 := Lib.hid (HB.out.ext h1); have Hx1 := Lib.hid h1; have Hxw := Lib.hid hx1; have z1 : w.heap.size < w1.heap.size := z_h1_0; clear h1 hx1 c_h1 f_h1)
    | (go_at_call 43; (with_reducible refine (countE_c (HH1.out.ext (((Ext.refl _).alloc (.cells #[(.int .i64 (0)), (.int .i64 (1)), (.int .i64 (0)), (.int .i64 (0)), .slice none 0 0] 30)).alloc (.cells #[(.int .i64 (16)), (.int .i64 (14)), (.int .i64 (15))] 3))) 16 16 1 rfl (by omega) (by omega)).mono ?_); rintro e w2 ⟨rfl, hK, hH2⟩; have hB1 := (Blk.new w1 30 #[(.int .i64 (0)), (.int .i64 (1)), (.int .i64 (0)), (.int .i64 (0)), .slice none 0 0]).ext ((Ext.refl _).alloc (.cells #[(.int .i64 (16)), (.int .i64 (14)), (.int .i64 (15))] 3)) |>.keep hK (by have := Hx1.out.size; omega); have hB2 := (HB.out.ext Hx1.out |>.ext (((Ext.refl _).alloc (.cells #[(.int .i64 (0)), (.int .i64 (1)), (.int .i64 (0)), (.int .i64 (0)), .slice none 0 0] 30)).alloc (.cells #[(.int .i64 (16)), (.int .i64 (14)), (.int .i64 (15))] 3))).keep hK (by omega); have r0 : w2.cell? ⟨w1.heap.size, 0, none⟩ = some ((.int .i64 (0))) := hB1.cell 0; have r1 : w2.cell? ⟨w1.heap.size, 1, none⟩ = some ((.int .i64 (1))) := hB1.cell 1; have r2 : w2.cell? ⟨w1.heap.size, 2, none⟩ = some ((.int .i64 (0))) := hB1.cell 2; have r3 : w2.cell? ⟨w1.heap.size, 3, none⟩ = some ((.int .i64 (0))) := hB1.cell 3; have r4 : w2.cell? ⟨w1.heap.size, 4, none⟩ = some (.slice none 0 0) := hB1.cell 4; have s0 : w2.cell? ⟨w.heap.size, 0, none⟩ = some ((.int .i64 (0))) := hB2.cell 0; have s1 : w2.cell? ⟨w.heap.size, 1, none⟩ = some ((.int .i64 (0))) := hB2.cell 1; have s2 : w2.cell? ⟨w.heap.size, 2, none⟩ = some ((.int .i64 (0))) := hB2.cell 2; have s3 : w2.cell? ⟨w.heap.size, 3, none⟩ = some ((.int .i64 (0))) := hB2.cell 3; have s4 : w2.cell? ⟨w.heap.size, 4, none⟩ = some (.slice none 0 0) := hB2.cell 4; have fr1 := hB1.frozen; have fr2 := hB2.frozen; have z2 : w1.heap.size < w2.heap.size := hB1.lt; have z3 : w.heap.size < w2.heap.size := hB2.lt; have HB2 := Lib.hid hB2; have HKw := Lib.hid (((Hxw.out.alloc (.cells #[(.int .i64 (0)), (.int .i64 (1)), (.int .i64 (0)), (.int .i64 (0)), .slice none 0 0] 30)).alloc (.cells #[(.int .i64 (16)), (.int .i64 (14)), (.int .i64 (15))] 3)).keep _ |>.trans hK); have HH2 := Lib.hid hH2; clear hB1 hB2 hK hH2))
  have hb4 := (((((HB2.out.set 0 ((.int .i64 (0)))).set 1 ((.int .i64 (1)))).set 2 ((.int .i64 (0)))).set 3 ((.int .i64 (0)))).set 4 (.slice none 0 0))
  simp only [List.setIfInBounds_toArray, List.set_cons_zero, List.set_cons_succ] at hb4
  have hKK := (((((HKw.out.set (p := ⟨w.heap.size, 0, none⟩) (.inr (Nat.le_refl _)) ((.int .i64 (0)))).set (p := ⟨w.heap.size, 1, none⟩) (.inr (Nat.le_refl _)) ((.int .i64 (1)))).set (p := ⟨w.heap.size, 2, none⟩) (.inr (Nat.le_refl _)) ((.int .i64 (0)))).set (p := ⟨w.heap.size, 3, none⟩) (.inr (Nat.le_refl _)) ((.int .i64 (0)))).set (p := ⟨w.heap.size, 4, none⟩) (.inr (Nat.le_refl _)) (.slice none 0 0))
  have hx3 : Keep (fun k => k = w.heap.size) w2 (((((w2.setCell ⟨w.heap.size, 0, none⟩ ((.int .i64 (0)))).setCell ⟨w.heap.size, 1, none⟩ ((.int .i64 (1)))).setCell ⟨w.heap.size, 2, none⟩ ((.int .i64 (0)))).setCell ⟨w.heap.size, 3, none⟩ ((.int .i64 (0)))).setCell ⟨w.heap.size, 4, none⟩ (.slice none 0 0)) := ((((((Keep.refl (fun k => k = w.heap.size) w2).set (p := ⟨w.heap.size, 0, none⟩) (.inl rfl) ((.int .i64 (0)))).set (p := ⟨w.heap.size, 1, none⟩) (.inl rfl) ((.int .i64 (1)))).set (p := ⟨w.heap.size, 2, none⟩) (.inl rfl) ((.int .i64 (0)))).set (p := ⟨w.heap.size, 3, none⟩) (.inl rfl) ((.int .i64 (0)))).set (p := ⟨w.heap.size, 4, none⟩) (.inl rfl) (.slice none 0 0))
  refine bodyPost_ret (v := .agg #[(.int .i64 (0)), (.int .i64 (1)), (.int .i64 (0)), (.int .i64 (0)), .slice none 0 0]) (decide_results _ _ w.heap.size _ _ _ _ _ _ _ rfl hb4) rfl ⟨rfl, hKK, ?_⟩
  exact HH0.out.keep hKK (HH2.out.head.keep hx3 (show ¬ h = w.heap.size by omega)) HH2.out.ok

set_option maxRecDepth 100000 in
set_option maxHeartbeats 2000000 in
theorem decideLocal_c (h r rb um t tb : Nat) (A F A2 F2 : Value) (ar ar2 : List Nd) (fr fr2 : List Nat) (n n2 most hops : Int) (st : List Int) (g off c : Nat) (l : List UInt8) (w : World)
    (hH : HierE w h r rb um t tb A F A2 F2 ar ar2 fr fr2 n n2 most hops 0 st) (hl : ByA w g off l) (h0 : 0 < l.length) (hcap : l.length ≤ c) (hmx : c ≤ 9223372036854775000) (hg : g < w.heap.size) (hv : ((bAt l 0).toNat : Int) / 16 = 4) (hr : wrong4 l = 0)
    (ht : 0 < tot4 l) (htl : tot4 l ≤ l.length) (hgh : g ≠ h)
    (hs : saneA ⟨dst4 l, 0#64, false⟩ = true) (hg1 : govB ar (leafP ar ⟨dst4 l, 0#64, false⟩) = true) (hnil : (aboveL ar2 (wholeP ⟨dst4 l, 0#64, false⟩)).isEmpty = true) (hg2 : govB ar (wholeP ⟨dst4 l, 0#64, false⟩) = true) (hhop : (govR ar (wholeP ⟨dst4 l, 0#64, false⟩)).hop = 0) :
    Calls Tryz.prog 18 #[.pointer (some ⟨h, 0, none⟩), .slice (some ⟨g, off, none⟩) l.length c] w
      fun e w' => ∃ q c', e = .returned (.agg #[(.int .i64 (2)), (.int .i64 (0)), (.int .i64 (0)), (.int .i64 (2)), .slice (some ⟨q, 0, none⟩) (tot4 l) c']) ∧ ByA w' q 0 (l.take (tot4 l)) ∧ w.heap.size ≤ q ∧ q < w'.heap.size ∧ Keep (fun k => k = h) w w' ∧ HierE w' h r rb um t tb A F A2 F2 ar ar2 fr fr2 n n2 most hops 0 (bumpL (bumpL (bumpL (bumpL st 0 1) 2 1) 5 1) 15 1) := by
  have hlt := hH.lt
  have HH0 := Lib.hid hH
  have HJ := Lib.hid (fun w1 (hx : Ext w w1) => judgeLocal_c h r rb um t tb A F A2 F2 ar ar2 fr fr2 n n2 most hops st g off c l w1 (hH.ext hx) (hl.ext hg hx) h0 hcap hmx (hx.lt hg) hv hr ht htl hgh hs hg1 hnil hg2 hhop)
  have HB := Lib.hid (Blk.new w 30 #[(.int .i64 (0)), (.int .i64 (0)), (.int .i64 (0)), (.int .i64 (0)), .slice none 0 0])
  clear hH hl hv hr hs hg1 hnil hg2 hhop
  go_enter Tryz.func18, Tryz.ntmps18
  go_wp2_with (first
    | (go_at_call 42; (with_reducible refine (HJ.out _ (?hx : Ext w _)).mono ?_); (case hx => exact (Ext.refl w).alloc _); rintro e w1 ⟨q, c', rfl, hb, hq, hq2, hK1, hH1⟩; have hqw : w.heap.size < q := (by simp at hq; omega); have z1 : w.heap.size < w1.heap.size := (by have := hK1.size; simp at this; omega); have HB1 := Lib.hid (HB.out.keep hK1 (by omega)); have HK1 := Lib.hid ((((Ext.refl w).alloc (.cells #[(.int .i64 (0)), (.int .i64 (0)), (.int .i64 (0)), (.int .i64 (0)), .slice none 0 0] 30)).keep (fun k => k = h)).trans hK1); have HH1 := Lib.hid hH1; have Hb := Lib.hid hb; clear hK1 hH1 hb hq)
    | (go_at_call 43; (with_reducible refine (countE_c (HH1.out.ext (((Ext.refl _).alloc (.cells #[(.int .i64 (2)), (.int .i64 (0)), (.int .i64 (0)), (.int .i64 (2)), .slice (some ⟨q, 0, none⟩) (tot4 l) c'] 30)).alloc (.cells #[(.int .i64 (16)), (.int .i64 (14)), (.int .i64 (15))] 3))) 15 15 1 rfl (by omega) (by omega)).mono ?_); rintro e w2 ⟨rfl, hK, hH2⟩; have hB1 := (Blk.new w1 30 #[(.int .i64 (2)), (.int .i64 (0)), (.int .i64 (0)), (.int .i64 (2)), .slice (some ⟨q, 0, none⟩) (tot4 l) c']).ext ((Ext.refl _).alloc (.cells #[(.int .i64 (16)), (.int .i64 (14)), (.int .i64 (15))] 3)) |>.keep hK (by omega); have hB2 := (HB1.out.ext (((Ext.refl _).alloc (.cells #[(.int .i64 (2)), (.int .i64 (0)), (.int .i64 (0)), (.int .i64 (2)), .slice (some ⟨q, 0, none⟩) (tot4 l) c'] 30)).alloc (.cells #[(.int .i64 (16)), (.int .i64 (14)), (.int .i64 (15))] 3))).keep hK (by omega); have r0 : w2.cell? ⟨w1.heap.size, 0, none⟩ = some ((.int .i64 (2))) := hB1.cell 0; have r1 : w2.cell? ⟨w1.heap.size, 1, none⟩ = some ((.int .i64 (0))) := hB1.cell 1; have r2 : w2.cell? ⟨w1.heap.size, 2, none⟩ = some ((.int .i64 (0))) := hB1.cell 2; have r3 : w2.cell? ⟨w1.heap.size, 3, none⟩ = some ((.int .i64 (2))) := hB1.cell 3; have r4 : w2.cell? ⟨w1.heap.size, 4, none⟩ = some (.slice (some ⟨q, 0, none⟩) (tot4 l) c') := hB1.cell 4; have s0 : w2.cell? ⟨w.heap.size, 0, none⟩ = some ((.int .i64 (0))) := hB2.cell 0; have s1 : w2.cell? ⟨w.heap.size, 1, none⟩ = some ((.int .i64 (0))) := hB2.cell 1; have s2 : w2.cell? ⟨w.heap.size, 2, none⟩ = some ((.int .i64 (0))) := hB2.cell 2; have s3 : w2.cell? ⟨w.heap.size, 3, none⟩ = some ((.int .i64 (0))) := hB2.cell 3; have s4 : w2.cell? ⟨w.heap.size, 4, none⟩ = some (.slice none 0 0) := hB2.cell 4; have fr1 := hB1.frozen; have fr2 := hB2.frozen; have z2 : w1.heap.size < w2.heap.size := hB1.lt; have z3 : w.heap.size < w2.heap.size := hB2.lt; have HB2 := Lib.hid hB2; have HKw := Lib.hid (((HK1.out.alloc (.cells #[(.int .i64 (2)), (.int .i64 (0)), (.int .i64 (0)), (.int .i64 (2)), .slice (some ⟨q, 0, none⟩) (tot4 l) c'] 30)).alloc (.cells #[(.int .i64 (16)), (.int .i64 (14)), (.int .i64 (15))] 3)).trans hK); have HH2 := Lib.hid hH2; have Hb2 := Lib.hid (fun j b hb => ((((Ext.refl w1).alloc (.cells #[(.int .i64 (2)), (.int .i64 (0)), (.int .i64 (0)), (.int .i64 (2)), .slice (some ⟨q, 0, none⟩) (tot4 l) c'] 30)).alloc (.cells #[(.int .i64 (16)), (.int .i64 (14)), (.int .i64 (15))] 3)).keep (fun k => k = h) |>.trans hK).cell (p := ⟨q, 0 + j, none⟩) hq2 (show ¬ q = h by omega) |>.trans (Hb.out j b hb)); have hq3 : q < w2.heap.size := Nat.lt_trans hq2 z2; clear hB1 hB2 hK hH2))
  have hb4 := (((((HB2.out.set 0 ((.int .i64 (2)))).set 1 ((.int .i64 (0)))).set 2 ((.int .i64 (0)))).set 3 ((.int .i64 (2)))).set 4 (.slice (some ⟨q, 0, none⟩) (tot4 l) c'))
  simp only [List.setIfInBounds_toArray, List.set_cons_zero, List.set_cons_succ] at hb4
  have hKK := (((((HKw.out.set (p := ⟨w.heap.size, 0, none⟩) (.inr (Nat.le_refl _)) ((.int .i64 (2)))).set (p := ⟨w.heap.size, 1, none⟩) (.inr (Nat.le_refl _)) ((.int .i64 (0)))).set (p := ⟨w.heap.size, 2, none⟩) (.inr (Nat.le_refl _)) ((.int .i64 (0)))).set (p := ⟨w.heap.size, 3, none⟩) (.inr (Nat.le_refl _)) ((.int .i64 (2)))).set (p := ⟨w.heap.size, 4, none⟩) (.inr (Nat.le_refl _)) (.slice (some ⟨q, 0, none⟩) (tot4 l) c'))
  have hx3 : Keep (fun k => k = w.heap.size) w2 (((((w2.setCell ⟨w.heap.size, 0, none⟩ ((.int .i64 (2)))).setCell ⟨w.heap.size, 1, none⟩ ((.int .i64 (0)))).setCell ⟨w.heap.size, 2, none⟩ ((.int .i64 (0)))).setCell ⟨w.heap.size, 3, none⟩ ((.int .i64 (2)))).setCell ⟨w.heap.size, 4, none⟩ (.slice (some ⟨q, 0, none⟩) (tot4 l) c')) := ((((((Keep.refl (fun k => k = w.heap.size) w2).set (p := ⟨w.heap.size, 0, none⟩) (.inl rfl) ((.int .i64 (2)))).set (p := ⟨w.heap.size, 1, none⟩) (.inl rfl) ((.int .i64 (0)))).set (p := ⟨w.heap.size, 2, none⟩) (.inl rfl) ((.int .i64 (0)))).set (p := ⟨w.heap.size, 3, none⟩) (.inl rfl) ((.int .i64 (2)))).set (p := ⟨w.heap.size, 4, none⟩) (.inl rfl) (.slice (some ⟨q, 0, none⟩) (tot4 l) c'))
  refine bodyPost_ret (v := .agg #[(.int .i64 (2)), (.int .i64 (0)), (.int .i64 (0)), (.int .i64 (2)), .slice (some ⟨q, 0, none⟩) (tot4 l) c']) (decide_results _ _ w.heap.size _ _ _ _ _ _ _ rfl hb4) rfl ⟨q, c', rfl, ?_, by omega, ?_, hKK, ?_⟩
  · intro j b hj
    exact (hx3.cell (p := ⟨q, 0 + j, none⟩) hq3 (show ¬ q = w.heap.size by omega)).trans (Hb2.out j b hj)
  · exact Nat.lt_of_lt_of_le hq3 hx3.size
  · exact HH0.out.keep hKK (HH2.out.head.keep hx3 (show ¬ h = w.heap.size by omega)) HH2.out.ok
end Go.Proofs.YtcipokldcjappaaGreat

namespace Go.Proofs.YtcipokldcjappaaGreat
open Go.RowKit


set_option maxRecDepth 100000 in
theorem put16_c (q o n cap x : Nat) (xx : Int) (hxx : xx = (x : Int)) (cs : Array Value) (w : World) (hB : Blk w q 5 cs) (ho : o + 1 < cs.size) (hn : 2 ≤ n) (hx : x < 65536) :
    Calls Tryz.prog 44 #[.slice (some ⟨q, o, none⟩) n cap, .int .u16 xx] w
      fun e w' => e = .returned (.tuple #[]) ∧ Keep (fun k => k = q) w w' ∧ Blk w' q 5 (spliceA cs o [.int .u8 ((x / 256 : Nat) : Int), .int .u8 ((x % 256 : Nat) : Int)]) := by
  subst hxx
  have hW := fun W (hb : Blk W q 5 cs) (hs : W.cell? ⟨w.heap.size, 0, none⟩ = some (.int .u8 ((x / 256 : Nat) : Int)) ∧ W.cell? ⟨w.heap.size, 1, none⟩ = some (.int .u8 ((x % 256 : Nat) : Int))) =>
    run_copy_cells (P := Tryz.prog) W 23 23 3 5 q o n cap ⟨w.heap.size, 0, none⟩ 2 2 [.int .u8 ((x / 256 : Nat) : Int), .int .u8 ((x % 256 : Nat) : Int)] Tryz.underlying23 rfl (by rw [show Nat.min 2 n = 2 from Nat.min_eq_left hn]; rfl)
      (by
        intro j v hj
        rcases j with _ | _ | j
        · simp at hj; subst hj; exact hs.1
        · simp at hj; subst hj; exact hs.2
        · simp at hj)
      (fun j hj => by rw [hb.cell]; simp at hj; simp; omega) (fun j _ => hb.frozen _) (by intro v hv; simp at hv; rcases hv with rfl | rfl <;> rfl)
  have hc := hW (w.alloc (.cells #[.int .u8 ((x / 256 : Nat) : Int), .int .u8 ((x % 256 : Nat) : Int)] 5)) (hB.ext ((Ext.refl _).alloc _)) ⟨(Blk.new w _ _).cell 0, (Blk.new w _ _).cell 1⟩
  clear hW
  have e1 : IntKind.u8.wrap ((x : Int) / 256) = ((x / 256 : Nat) : Int) := by rw [IntKind.wrap_u8]; omega
  have e2 : IntKind.u8.wrap (x : Int) = ((x % 256 : Nat) : Int) := by rw [IntKind.wrap_u8]; omega
  generalize hA : ((x / 256 : Nat) : Int) = A at *
  generalize hC : ((x % 256 : Nat) : Int) = C at *
  have HB := Lib.hid hB
  clear hA hC hB
  go_enter Tryz.func44, Tryz.ntmps44
  go_wp2
  have hx1 : Ext w (w.alloc (.cells #[.int .u8 A, .int .u8 C] 5)) := (Ext.refl w).alloc _
  go_end0
  exact ⟨rfl, (hx1.keep (fun k => k = q)).setCells _ _ (.inl rfl), (HB.out.ext hx1).setCells _ _⟩
/-- the address 10.0.0.1 -/
theorem readA_c (w : World) :
    Calls Tryz.prog 71 #[.agg #[.int .u64 720575944674246656, .int .u64 0, .bool false]] w fun e w' => e = .returned (.agg #[.int .u64 720575944674246656, .int .u64 0]) ∧ Ext w w' := by
  have h := read_c 720575944674246656#64 0#64 false w
  rw [show rdHi ⟨720575944674246656#64, 0#64, false⟩ = 720575944674246656#64 by decide, show rdLo ⟨720575944674246656#64, 0#64, false⟩ = 0#64 by decide] at h
  exact h

set_option maxRecDepth 100000 in
set_option maxHeartbeats 2000000 in
theorem bytesA_c (w : World) :
    Calls Tryz.prog 45 #[.agg #[.int .u64 720575944674246656, .int .u64 0, .bool false]] w
      fun e w' => ∃ q, e = .returned (.slice (some ⟨q, 0, none⟩) 4 4) ∧ Blk w' q 5 #[.int .u8 10, .int .u8 0, .int .u8 0, .int .u8 1] ∧ w.heap.size ≤ q ∧ Ext w w' := by
  have hwd : Wd false = 32 := by decide
  have hmk : ∀ w, (Instr.makeSlice 23 ((.int .i64 (4))) ((.int .i64 (4)))).run Tryz.prog w = .ok (.slice (some ⟨w.heap.size, 0, none⟩) 4 4) (w.alloc (.cells #[.int .u8 0, .int .u8 0, .int .u8 0, .int .u8 0] 5)) := fun w => by kernel_rfl
  go_enter Tryz.func45, Tryz.ntmps45
  go_wp2_with (first
    | (go_at_call 71; (with_reducible refine (readA_c _).mono ?_); rintro e w1 ⟨rfl, h1⟩; have c_h1 := h1.cell; have f_h1 := h1.frozen; have z_h1_0 := h1.lt (b := w.heap.size) (by first | omega | (simp <;> omega)))
    | (go_at_call 72; (with_reducible refine (width_c _ _).mono ?_); rintro e w2 ⟨rfl, rfl⟩))
  refine wp_loop_rounds 5 ?_
  rw [rounds_succ]
  go_wp2
  rw [rounds_succ]
  go_wp2
  rw [rounds_succ]
  go_wp2
  rw [rounds_succ]
  go_wp2
  rw [rounds_succ]
  go_wp2
  have hx : Ext w (w1.alloc (.cells #[.int .u64 720575944674246656, .int .u64 0] 93)) := (((Ext.refl w).alloc _).trans h1).alloc _
  go_ret
  exact ⟨w1.heap.size + 1, rfl, Blk.new' _ _ _ _ (by simp), by have := z_h1_0; omega, hx.alloc _⟩
end Go.Proofs.YtcipokldcjappaaGreat

namespace Go.Proofs.YtcipokldcjappaaGreat
open Go.RowKit

theorem ByA.of_blk {w : World} {q : Nat} {T : TypeId} {l : List UInt8} (h : Blk w q T (u8s l).toArray) : ByA w q 0 l := by
  intro j b hb
  rw [Nat.zero_add, h.cell]
  simpa using u8s_of l j b hb
theorem cellOne {w : World} {g o : Nat} {v : Value} (h : w.cell? ⟨g, o, none⟩ = some v) (j : Nat) (u : Value) (hj : [v][j]? = some u) : w.cell? ((⟨g, o, none⟩ : Addr).add j) = some u := by
  rcases j with _ | j
  · simp at hj; subst hj; rw [Addr.add_lit]; exact h
  · simp at hj
def L5 : List UInt8 := [69, 0, 0, 21, 0, 0, 0, 0, 1, 0, 0, 0, 10, 0, 0, 1, 10, 0, 0, 1, 0]
theorem sumA : sumW (L5.take 20) = 42472 := by
  unfold sumW
  rw [show sumN (L5.take 20) = 23063 by decide, foldN, if_neg (by decide)]

set_option maxRecDepth 100000 in
set_option maxHeartbeats 4000000 in
theorem buildA_c (g o c : Nat) (w : World) (cx : w.cell? ⟨g, o, none⟩ = some (.int .u8 120)) (hc : 1 ≤ c) :
    Calls Tryz.prog 19 #[.agg #[(.int .i64 (0)), (.int .i64 (0)), (.int .i64 (1)), (.int .i64 (0)), .int .u64 720575944674246656, .int .u64 0, .bool false, .int .u64 720575944674246656, .int .u64 0, .bool false], .slice (some ⟨g, o, none⟩) 1 c] w
      fun e w' => ∃ q, e = .returned (.slice (some ⟨q, 0, none⟩) 21 21) ∧ Blk w' q 5 #[.int .u8 69, .int .u8 0, .int .u8 0, .int .u8 21, .int .u8 0, .int .u8 0, .int .u8 0, .int .u8 0, .int .u8 1, .int .u8 0, .int .u8 165, .int .u8 232, .int .u8 10, .int .u8 0, .int .u8 0, .int .u8 1, .int .u8 10, .int .u8 0, .int .u8 0, .int .u8 1, .int .u8 120] ∧ w.heap.size ≤ q ∧ Ext w w' := by
  have hmk : ∀ w, (Instr.makeSlice 23 ((.int .i64 (20))) ((.int .i64 (21)))).run Tryz.prog w = .ok (.slice (some ⟨w.heap.size, 0, none⟩) 20 21) (w.alloc (.cells #[.int .u8 0, .int .u8 0, .int .u8 0, .int .u8 0, .int .u8 0, .int .u8 0, .int .u8 0, .int .u8 0, .int .u8 0, .int .u8 0, .int .u8 0, .int .u8 0, .int .u8 0, .int .u8 0, .int .u8 0, .int .u8 0, .int .u8 0, .int .u8 0, .int .u8 0, .int .u8 0, .int .u8 0] 5)) := fun w => by kernel_rfl
  have hg := World.block_lt_of_cell? w _ cx
  have hmin : (min 1 2028 : Int) = 1 := by decide
  have hmax : (max 1 0 : Int) = 1 := by decide
  have hA := Lib.hid (Blk.new w 61 #[(.int .i64 (0)), (.int .i64 (0)), (.int .i64 (1)), (.int .i64 (0)), .int .u64 720575944674246656, .int .u64 0, .bool false, .int .u64 720575944674246656, .int .u64 0, .bool false])
  go_enter Tryz.func19, Tryz.ntmps19
  go_wp2_with (first
    | (go_at_call 44; (with_reducible refine (put16_c (w.heap.size + 1) 2 18 19 21 21 rfl #[.int .u8 69, .int .u8 0, .int .u8 0, .int .u8 0, .int .u8 0, .int .u8 0, .int .u8 0, .int .u8 0, .int .u8 0, .int .u8 0, .int .u8 0, .int .u8 0, .int .u8 0, .int .u8 0, .int .u8 0, .int .u8 0, .int .u8 0, .int .u8 0, .int .u8 0, .int .u8 0, .int .u8 0] _ ?hb (by decide) (by omega) (by omega)).mono ?_); (case hb => exact Blk.new' _ _ _ _ (by simp)); rintro e w1 ⟨rfl, hK, hB⟩; have hB1 : Blk w1 (w.heap.size + 1) 5 #[.int .u8 69, .int .u8 0, .int .u8 0, .int .u8 21, .int .u8 0, .int .u8 0, .int .u8 0, .int .u8 0, .int .u8 0, .int .u8 0, .int .u8 0, .int .u8 0, .int .u8 0, .int .u8 0, .int .u8 0, .int .u8 0, .int .u8 0, .int .u8 0, .int .u8 0, .int .u8 0, .int .u8 0] := hB; have hA1 := (hA.out.ext ((Ext.refl _).alloc (.cells #[.int .u8 69, .int .u8 0, .int .u8 0, .int .u8 0, .int .u8 0, .int .u8 0, .int .u8 0, .int .u8 0, .int .u8 0, .int .u8 0, .int .u8 0, .int .u8 0, .int .u8 0, .int .u8 0, .int .u8 0, .int .u8 0, .int .u8 0, .int .u8 0, .int .u8 0, .int .u8 0, .int .u8 0] 5))).keep hK (by omega); have HK1 := Lib.hid (((((Ext.refl w).alloc (.cells #[(.int .i64 (0)), (.int .i64 (0)), (.int .i64 (1)), (.int .i64 (0)), .int .u64 720575944674246656, .int .u64 0, .bool false, .int .u64 720575944674246656, .int .u64 0, .bool false] 61)).alloc (.cells #[.int .u8 69, .int .u8 0, .int .u8 0, .int .u8 0, .int .u8 0, .int .u8 0, .int .u8 0, .int .u8 0, .int .u8 0, .int .u8 0, .int .u8 0, .int .u8 0, .int .u8 0, .int .u8 0, .int .u8 0, .int .u8 0, .int .u8 0, .int .u8 0, .int .u8 0, .int .u8 0, .int .u8 0] 5)).keep _).trans hK); have a2 : w1.cell? ⟨w.heap.size, 2, none⟩ = some ((.int .i64 (1))) := hA1.cell 2; have a3 : w1.cell? ⟨w.heap.size, 3, none⟩ = some ((.int .i64 (0))) := hA1.cell 3; have b8 : w1.cell? ⟨w.heap.size + 1, 8, none⟩ = some (.int .u8 0) := hB1.cell 8; have b9 : w1.cell? ⟨w.heap.size + 1, 9, none⟩ = some (.int .u8 0) := hB1.cell 9; have fb := hB1.frozen; have HA1 := Lib.hid hA1; have HB1 := Lib.hid hB1; clear hA1 hB1 hB hK hA))
  go_region
  have hB3 : Blk ((w1.setCell ⟨w.heap.size + 1, 8, none⟩ (.int .u8 1)).setCell ⟨w.heap.size + 1, 9, none⟩ (.int .u8 0)) (w.heap.size + 1) 5 #[.int .u8 69, .int .u8 0, .int .u8 0, .int .u8 21, .int .u8 0, .int .u8 0, .int .u8 0, .int .u8 0, .int .u8 1, .int .u8 0, .int .u8 0, .int .u8 0, .int .u8 0, .int .u8 0, .int .u8 0, .int .u8 0, .int .u8 0, .int .u8 0, .int .u8 0, .int .u8 0, .int .u8 0] := (HB1.out.set 8 _).set 9 _
  have hA3 : Blk ((w1.setCell ⟨w.heap.size + 1, 8, none⟩ (.int .u8 1)).setCell ⟨w.heap.size + 1, 9, none⟩ (.int .u8 0)) w.heap.size 61 #[(.int .i64 (0)), (.int .i64 (0)), (.int .i64 (1)), (.int .i64 (0)), .int .u64 720575944674246656, .int .u64 0, .bool false, .int .u64 720575944674246656, .int .u64 0, .bool false] := (HA1.out.far (by simp) _).far (by simp) _
  have HK3 := Lib.hid ((HK1.out.set (p := ⟨w.heap.size + 1, 8, none⟩) (.inl rfl) (.int .u8 1)).set (p := ⟨w.heap.size + 1, 9, none⟩) (.inl rfl) (.int .u8 0)).drew
  replace hB3 := hB3.ext (Ext.refl _).drew
  replace hA3 := hA3.ext (Ext.refl _).drew
  generalize (((w1.setCell ⟨w.heap.size + 1, 8, none⟩ (.int .u8 1)).setCell ⟨w.heap.size + 1, 9, none⟩ (.int .u8 0)).drew) = w3 at hB3 hA3 HK3 ⊢
  have a4 : w3.cell? ⟨w.heap.size, 4, none⟩ = some (.int .u64 720575944674246656) := hA3.cell 4
  have a5 : w3.cell? ⟨w.heap.size, 5, none⟩ = some (.int .u64 0) := hA3.cell 5
  have a6 : w3.cell? ⟨w.heap.size, 6, none⟩ = some (.bool false) := hA3.cell 6
  have a7 : w3.cell? ⟨w.heap.size, 7, none⟩ = some (.int .u64 720575944674246656) := hA3.cell 7
  have a8 : w3.cell? ⟨w.heap.size, 8, none⟩ = some (.int .u64 0) := hA3.cell 8
  have a9 : w3.cell? ⟨w.heap.size, 9, none⟩ = some (.bool false) := hA3.cell 9
  have HB3 := Lib.hid hB3
  clear hB3 hA3 HB1 HA1 HK1 a2 a3 b8 b9 fb
  go_wp2_with fail
  refine wp_loop_rounds 3 ?_
  rw [rounds_succ]
  go_wp2_with fail
  refine region1 7 6 56 (fun u w' => ∃ q, w3.heap.size < q ∧ u = .slice (some ⟨q, 0, none⟩) 4 4 ∧ Blk w' q 5 #[.int .u8 10, .int .u8 0, .int .u8 0, .int .u8 1]) (fun u w1 w2 ⟨q, h1, h2, h3⟩ hx => ⟨q, h1, h2, h3.ext hx⟩) rfl (by kernel_rfl) ?_
  dsimp only [List.take, List.drop]
  repeat ((first | (refine wpT_skip rfl rfl ?_) | (apply wpT_fix rfl rfl; focus (intro w1 hS; have c1 := hS.cell; have f1 := hS.frozen; have z1 := hS.size; go_simp; first | exact ⟨rfl, hS, Ext.refl _⟩ | (((with_reducible refine (bytesA_c _).mono ?_); rintro e w2 ⟨q, rfl, hb, hq, h2⟩; exact ⟨_, rfl, ⟨q, by simp at z1; omega, rfl, hb⟩, hS.trans h2, h2⟩)))) | (refine wpT_loose rfl rfl ?_ ?_; focus (intro w1 hS; have c1 := hS.cell; have f1 := hS.frozen; have z1 := hS.size; go_simp; first | (((with_reducible refine (bytesA_c _).mono ?_); rintro e w2 ⟨q, rfl, hb, hq, h2⟩; exact ⟨_, rfl, ⟨q, by simp at z1; omega, rfl, hb⟩, hS.trans h2, h2⟩))))); try simp only [Act.put, List.setIfInBounds_toArray, List.set_cons_zero, List.set_cons_succ])
  refine wpT_nil ?_
  rintro - u w5 hS ⟨q, hq, rfl, hb⟩
  simp only [Act.put, List.setIfInBounds_toArray, List.set_cons_zero, List.set_cons_succ]
  have hx5 := (((Ext.refl w3).alloc (.cells #[.int .u64 720575944674246656, .int .u64 0, .bool false, .int .u64 720575944674246656, .int .u64 0, .bool false] 37)).alloc (.cells #[.int .u64 720575944674246656, .int .u64 0, .bool false] 37)).trans hS
  have hB5 := HB3.out.ext hx5
  have hA5 := ((Blk.new w3 37 #[.int .u64 720575944674246656, .int .u64 0, .bool false, .int .u64 720575944674246656, .int .u64 0, .bool false]).ext ((Ext.refl _).alloc (.cells #[.int .u64 720575944674246656, .int .u64 0, .bool false] 37))).ext hS
  have hcp := run_copy_cells (P := Tryz.prog) w5 23 23 3 5 (w.heap.size + 1) 12 8 9 ⟨q, 0, none⟩ 4 4 [.int .u8 10, .int .u8 0, .int .u8 0, .int .u8 1] Tryz.underlying23 rfl (by decide) (fun j v hj => by rw [Addr.add_lit, Nat.zero_add, hb.cell]; simpa using hj) (fun j hj => by rw [hB5.cell]; simp at hj; simp; omega) (fun j _ => hB5.frozen _) (by intro v hv; simp at hv; rcases hv with rfl | rfl | rfl | rfl <;> rfl)
  have hK5 := (HK3.out.thenExt hx5).setCells (b := w.heap.size + 1) [.int .u8 10, .int .u8 0, .int .u8 0, .int .u8 1] 12 (.inl rfl)
  have hB6 : Blk _ _ _ #[.int .u8 69, .int .u8 0, .int .u8 0, .int .u8 21, .int .u8 0, .int .u8 0, .int .u8 0, .int .u8 0, .int .u8 1, .int .u8 0, .int .u8 0, .int .u8 0, .int .u8 10, .int .u8 0, .int .u8 0, .int .u8 1, .int .u8 0, .int .u8 0, .int .u8 0, .int .u8 0, .int .u8 0] := hB5.setCells [.int .u8 10, .int .u8 0, .int .u8 0, .int .u8 1] 12
  have z3 := HB3.out.lt
  have hA6 := hA5.keep ((Keep.refl (fun k => k = w.heap.size + 1) w5).setCells (b := w.heap.size + 1) [.int .u8 10, .int .u8 0, .int .u8 0, .int .u8 1] 12 (.inl rfl)) (by omega)
  have HK6 := Lib.hid hK5
  have HB6 := Lib.hid hB6
  have HA6 := Lib.hid hA6
  clear hx5 hB5 hA5 hK5 hB6 hA6 hS hb
  go_wp2_with fail
  clear hcp
  have hz5 : w3.heap.size < (w5.setCells (w.heap.size + 1) 12 [.int .u8 10, .int .u8 0, .int .u8 0, .int .u8 1]).heap.size := HA6.out.lt
  generalize (w5.setCells (w.heap.size + 1) 12 [.int .u8 10, .int .u8 0, .int .u8 0, .int .u8 1]) = w6 at HK6 HB6 HA6 hz5 ⊢
  have s3 : w6.cell? ⟨w3.heap.size, 3, none⟩ = some (.int .u64 720575944674246656) := HA6.out.cell 3
  have s4 : w6.cell? ⟨w3.heap.size, 4, none⟩ = some (.int .u64 0) := HA6.out.cell 4
  have s5 : w6.cell? ⟨w3.heap.size, 5, none⟩ = some (.bool false) := HA6.out.cell 5
  rw [rounds_succ]
  go_wp2_with fail
  refine region1 7 6 56 (fun u w' => ∃ q, w3.heap.size < q ∧ u = .slice (some ⟨q, 0, none⟩) 4 4 ∧ Blk w' q 5 #[.int .u8 10, .int .u8 0, .int .u8 0, .int .u8 1]) (fun u w1 w2 ⟨q, h1, h2, h3⟩ hx => ⟨q, h1, h2, h3.ext hx⟩) rfl (by kernel_rfl) ?_
  dsimp only [List.take, List.drop]
  repeat ((first | (refine wpT_skip rfl rfl ?_) | (apply wpT_fix rfl rfl; focus (intro w1 hS; have c1 := hS.cell; have f1 := hS.frozen; have z1 := hS.size; go_simp; first | exact ⟨rfl, hS, Ext.refl _⟩ | (((with_reducible refine (bytesA_c _).mono ?_); rintro e w2 ⟨q, rfl, hb, hq, h2⟩; exact ⟨_, rfl, ⟨q, by simp at z1; omega, rfl, hb⟩, hS.trans h2, h2⟩)))) | (refine wpT_loose rfl rfl ?_ ?_; focus (intro w1 hS; have c1 := hS.cell; have f1 := hS.frozen; have z1 := hS.size; go_simp; first | (((with_reducible refine (bytesA_c _).mono ?_); rintro e w2 ⟨q, rfl, hb, hq, h2⟩; exact ⟨_, rfl, ⟨q, by simp at z1; omega, rfl, hb⟩, hS.trans h2, h2⟩))))); try simp only [Act.put, List.setIfInBounds_toArray, List.set_cons_zero, List.set_cons_succ])
  refine wpT_nil ?_
  rintro - u w7 hS ⟨q', hq', rfl, hb⟩
  simp only [Act.put, List.setIfInBounds_toArray, List.set_cons_zero, List.set_cons_succ]
  have hx7 := ((Ext.refl w6).alloc (.cells #[.int .u64 720575944674246656, .int .u64 0, .bool false] 37)).trans hS
  have hB7 := HB6.out.ext hx7
  have hcp := run_copy_cells (P := Tryz.prog) w7 23 23 3 5 (w.heap.size + 1) 16 4 5 ⟨q', 0, none⟩ 4 4 [.int .u8 10, .int .u8 0, .int .u8 0, .int .u8 1] Tryz.underlying23 rfl (by decide) (fun j v hj => by rw [Addr.add_lit, Nat.zero_add, hb.cell]; simpa using hj) (fun j hj => by rw [hB7.cell]; simp at hj; simp; omega) (fun j _ => hB7.frozen _) (by intro v hv; simp at hv; rcases hv with rfl | rfl | rfl | rfl <;> rfl)
  have hK7 := (HK6.out.thenExt hx7).setCells (b := w.heap.size + 1) [.int .u8 10, .int .u8 0, .int .u8 0, .int .u8 1] 16 (.inl rfl)
  have hB8 : Blk _ _ _ #[.int .u8 69, .int .u8 0, .int .u8 0, .int .u8 21, .int .u8 0, .int .u8 0, .int .u8 0, .int .u8 0, .int .u8 1, .int .u8 0, .int .u8 0, .int .u8 0, .int .u8 10, .int .u8 0, .int .u8 0, .int .u8 1, .int .u8 10, .int .u8 0, .int .u8 0, .int .u8 1, .int .u8 0] := hB7.setCells [.int .u8 10, .int .u8 0, .int .u8 0, .int .u8 1] 16
  have HK8 := Lib.hid hK7
  have HB8 := Lib.hid hB8
  clear hx7 hB7 hK7 hB8 hS hb s3 s4 s5 HK6 HB6 HA6
  go_wp2_with fail
  clear hcp
  generalize (w7.setCells (w.heap.size + 1) 16 [.int .u8 10, .int .u8 0, .int .u8 0, .int .u8 1]) = w8 at HK8 HB8 ⊢
  rw [rounds_succ]
  go_wp2_with fail
  have hg1 : w.heap.size + 1 < w8.heap.size := HB8.out.lt
  have hsum : ∀ w1, Ext w8 w1 → Calls Tryz.prog 46 #[.slice (some ⟨w.heap.size + 1, 0, none⟩) 20 21] w1 fun e w' => e = .returned (.int .u16 42472) ∧ Ext w1 w' := fun w1 hx => by
    have h := sum_c (w.heap.size + 1) 0 21 (L5.take 20) w1 ((ByA.of_blk (l := L5) (HB8.out.ext hx)).take 20) (by decide) (by decide) (by omega) (hx.lt hg1)
    rw [sumA] at h
    exact h
  have Hsum := Lib.hid hsum
  clear hsum
  refine wp_region_ext 4 (by kernel_rfl) (by kernel_rfl) ?_
  dsimp only [List.take, List.drop]
  repeat (first | (apply hold_skip2 rfl; focus (first | (simp only [Act.put, List.setIfInBounds_toArray, List.set_cons_zero, List.set_cons_succ]; exact rfl) | (simp only [Act.put, List.setIfInBounds_toArray, List.set_cons_zero, List.set_cons_succ]) | exact rfl)) | (apply hold_cons2 rfl; (focus (intro w1 hS; have c1 := hS.cell; have f1 := hS.frozen; have z1 := hS.size; go_simp; first | exact rfl | exact ⟨rfl, hS⟩ | ((go_at_call 46; (with_reducible refine (Hsum.out _ hS).mono ?_); rintro e w2 ⟨rfl, h2⟩; exact ⟨rfl, hS.trans h2⟩)))); (focus (first | (simp only [Act.put, List.setIfInBounds_toArray, List.set_cons_zero, List.set_cons_succ]; exact rfl) | (simp only [Act.put, List.setIfInBounds_toArray, List.set_cons_zero, List.set_cons_succ]) | exact rfl))))
  refine hold_nil ?_
  rintro w1 hE
  have c_hE := hE.cell
  have f_hE := hE.frozen
  have hB9 := HB8.out.ext hE
  have HB9 := Lib.hid hB9
  have HK9 := Lib.hid (HK8.out.thenExt hE)
  clear hB9 hE c_hE f_hE HB8 HK8
  have hOlds : (#[.int .u8 69, .int .u8 0, .int .u8 0, .int .u8 21, .int .u8 0, .int .u8 0, .int .u8 0, .int .u8 0, .int .u8 1, .int .u8 0, .int .u8 165, .int .u8 232, .int .u8 10, .int .u8 0, .int .u8 0, .int .u8 1, .int .u8 10, .int .u8 0, .int .u8 0, .int .u8 1, .int .u8 0] : Array Value).toList.take 20 = [.int .u8 69, .int .u8 0, .int .u8 0, .int .u8 21, .int .u8 0, .int .u8 0, .int .u8 0, .int .u8 0, .int .u8 1, .int .u8 0, .int .u8 165, .int .u8 232, .int .u8 10, .int .u8 0, .int .u8 0, .int .u8 1, .int .u8 10, .int .u8 0, .int .u8 0, .int .u8 1] := rfl
  go_wp2_with (first
    | (go_at_call 44; (with_reducible refine (put16_c (w.heap.size + 1) 10 10 11 42472 42472 rfl #[.int .u8 69, .int .u8 0, .int .u8 0, .int .u8 21, .int .u8 0, .int .u8 0, .int .u8 0, .int .u8 0, .int .u8 1, .int .u8 0, .int .u8 0, .int .u8 0, .int .u8 10, .int .u8 0, .int .u8 0, .int .u8 1, .int .u8 10, .int .u8 0, .int .u8 0, .int .u8 1, .int .u8 0] _ ?hb (by decide) (by omega) (by omega)).mono ?_); (case hb => exact HB9.out); rintro e wp ⟨rfl, hK, hB⟩; have hBp : Blk wp (w.heap.size + 1) 5 #[.int .u8 69, .int .u8 0, .int .u8 0, .int .u8 21, .int .u8 0, .int .u8 0, .int .u8 0, .int .u8 0, .int .u8 1, .int .u8 0, .int .u8 165, .int .u8 232, .int .u8 10, .int .u8 0, .int .u8 0, .int .u8 1, .int .u8 10, .int .u8 0, .int .u8 0, .int .u8 1, .int .u8 0] := hB; have HBp := Lib.hid hBp; have HKp := Lib.hid (HK9.out.trans hK); have cxp := Lib.hid ((HKp.out.cell (p := ⟨g, o, none⟩) hg (show ¬ g = w.heap.size + 1 by omega)).trans cx); clear hB hBp hK)
    | (at_builtin; go_loud (refine wpList_append_arg _ rfl (.tmp 64) (.tmp 65) 23 rfl 5 _ (.int .u8 0) 1 1 Tryz.underlying23 rfl rfl rfl rfl rfl (by decide) (w.heap.size + 1) 0 20 21 [.int .u8 69, .int .u8 0, .int .u8 0, .int .u8 21, .int .u8 0, .int .u8 0, .int .u8 0, .int .u8 0, .int .u8 1, .int .u8 0, .int .u8 165, .int .u8 232, .int .u8 10, .int .u8 0, .int .u8 0, .int .u8 1, .int .u8 10, .int .u8 0, .int .u8 0, .int .u8 1] rfl rfl (fun j u hj => by rw [HBp.out.cell, Nat.zero_add]; have := hOlds ▸ hj; simp only [List.getElem?_take] at this; split at this <;> simp_all) ⟨g, o, none⟩ 1 c [.int .u8 120] rfl rfl (fun j u hj => cellOne cxp.out j u hj) (by intro v hv; simp at hv; subst hv; rfl) (fun _ j hj => by simp at hj; subst hj; exact ⟨by rw [HBp.out.cell]; rfl, HBp.out.frozen _⟩) (by decide) (by decide) (fun _ => ?room) (fun h => absurd h (by decide)))))
  have hB10 := HBp.out.setCells [.int .u8 120] (0 + 20 * 1)
  have hK10 := HKp.out.setCells (b := w.heap.size + 1) [.int .u8 120] (0 + 20 * 1) (.inl rfl)
  go_ret
  exact ⟨w.heap.size + 1, rfl, hB10, by omega, hK10.ext (fun k hk e => by omega)⟩
end Go.Proofs.YtcipokldcjappaaGreat

namespace Go.Proofs.YtcipokldcjappaaGreat
open Go.RowKit

def ar1 : List Nd := [⟨nd0.k0, nd0.k1, nd0.up, true, 0⟩, nd0]
def pkA : List UInt8 := [69, 0, 0, 21, 0, 0, 0, 0, 1, 0, 165, 232, 10, 0, 0, 1, 10, 0, 0, 1, 120]
theorem first1 : Firstable [nd0, nd0] false 0#64 0#64 0 3 3 0 0 nd0 := ⟨by decide, rfl, rfl, by decide, by decide, by decide, by decide, by decide, by decide, by decide, by decide⟩
theorem dstA : dst4 pkA = 720575944674246656#64 := by decide
theorem wrongA : wrong4 pkA = 0 := by
  have h : sumW (pkA.take (hd4 pkA)) = 0 := by
    unfold sumW
    rw [show sumN (pkA.take (hd4 pkA)) = 65535 by decide, foldN, if_neg (by decide)]
  unfold wrong4
  rw [h]
  decide
theorem g1 : govB ar1 (leafP ar1 ⟨720575944674246656#64, 0#64, false⟩) = true := by decide
theorem g2 : govB ar1 (wholeP ⟨720575944674246656#64, 0#64, false⟩) = true := by decide
theorem g3 : (govR ar1 (wholeP ⟨720575944674246656#64, 0#64, false⟩)).hop = 0 := by decide
theorem nil1 : (aboveL [nd0, nd0] (wholeP ⟨720575944674246656#64, 0#64, false⟩)).isEmpty = true := by decide
theorem clear1 : Clear [nd0, nd0] ⟨⟨0#64, 0#64, false⟩, 0⟩ := by constructor <;> decide
end Go.Proofs.YtcipokldcjappaaGreat

namespace Go.Proofs.YtcipokldcjappaaGreat
open Go.RowKit

theorem mark_cell (w : World) {r : Nat × Nat} {T : TypeId} : (w.alloc (.cells #[.int .u8 120] T r)).cell? ⟨w.heap.size, 0, none⟩ = some (.int .u8 120) := by
  have h : (w.alloc (.cells #[.int .u8 120] T r)).heap[w.heap.size]? = some (.cells #[.int .u8 120] T r) := heap_alloc_new w _
  unfold World.cell?
  simp only [h]
  rfl



theorem hierNewA_c (w : World) : Calls Tryz.prog 16 #[.agg #[(.int .i64 (0)), (.int .i64 (0)), (.int .i64 (0)), (.int .i64 (3)), (.int .i64 (3)), .slice none 0 0]] w fun e w' =>
    ∃ hh r rb um t tb A A2, e = .returned (.pointer (some ⟨hh, 0, none⟩)) ∧ HierE w' hh r rb um t tb A (.slice none 0 0) A2 (.slice none 0 0) [nd0, nd0] [nd0, nd0] [] [] 0 0 3 3 0 (List.replicate 17 0) ∧ noUses w' um ∧ Ext w w' ∧ w.heap.size ≤ hh ∧ w.heap.size ≤ rb ∧ w.heap.size ≤ um ∧ (∀ g, A.ownBlock = some g → w.heap.size ≤ g) := by
  refine (hierNew_c 0 0 3 3 w).mono ?_
  rintro e w1 ⟨hh, r, rb, um, t, tb, A, A2, rfl, hH, hM, hx, h1, h2, h3, h4⟩
  rw [show (max 0 (min 3 4096) : Int) = 3 by decide, show (max 0 (min 3 65536) : Int) = 3 by decide, show (max 0 (min 0 1024) : Int) = 0 by decide] at hH
  exact ⟨hh, r, rb, um, t, tb, A, A2, rfl, hH, noUses_of hM, hx, h1, h2, h3, h4⟩

theorem haddA_c (h r rb um t tb : Nat) (A A2 : Value) (w : World) (hH : HierE w h r rb um t tb A (.slice none 0 0) A2 (.slice none 0 0) [nd0, nd0] [nd0, nd0] [] [] 0 0 3 3 0 (List.replicate 17 0)) (hu : noUses w um) :
    Calls Tryz.prog 17 #[.pointer (some ⟨h, 0, none⟩), .agg #[.int .u64 0, .int .u64 0, .bool false, (.int .i64 (0))], (.int .i64 (0))] w
      fun e w' => e = .returned (.tuple #[(.int .i64 (0)), .slice none 0 0]) ∧ Keep (updS A h rb um) w w' ∧ HierE w' h r rb um t tb A (.slice none 0 0) A2 (.slice none 0 0) ar1 [nd0, nd0] [] [] 1 0 3 3 0 (List.replicate 17 0) :=
  hadd0_c h r rb um t tb A (.slice none 0 0) A2 (.slice none 0 0) [nd0, nd0] [nd0, nd0] [] [] 0 0 3 3 0 (List.replicate 17 0) 0#64 0#64 false 0 w 0 nd0 hH hu first1 clear1 (by omega)

theorem fromA_c (g : Nat) (w : World) (h : Blk w g 5 #[.int .u8 10, .int .u8 0, .int .u8 0, .int .u8 1]) :
    Calls Tryz.prog 15 #[.slice (some ⟨g, 0, none⟩) 4 4] w fun e w' => e = .returned (.tuple #[.agg #[.int .u64 720575944674246656, .int .u64 0, .bool false], (.int .i64 (0))]) ∧ Ext w w' := by
  have hb : ByA w g 0 [10, 0, 0, 1] := ByA.of_blk (l := [10, 0, 0, 1]) h
  exact from4_c g 0 4 10 0 0 1 w hb (by omega)

def stA : List Int := bumpL (bumpL (bumpL (bumpL (List.replicate 17 0) 0 1) 2 1) 5 1) 15 1
theorem stA15 : (bumpL stA 16 1)[15]? = some 1 := by decide

theorem stgetA_c (w : World) : Calls Tryz.prog 20 #[.agg (stC (bumpL stA 16 1)), (.int .i64 (15))] w fun e w' => e = .returned (.int .u64 1) ∧ Ext w w' := stget_c (bumpL stA 16 1) 15 1 w (by omega) stA15

theorem decideA_c (h r rb um t tb : Nat) (A A2 : Value) (q : Nat) (w : World) (hH : HierE w h r rb um t tb A (.slice none 0 0) A2 (.slice none 0 0) ar1 [nd0, nd0] [] [] 1 0 3 3 0 (List.replicate 17 0))
    (hB : Blk w q 5 #[.int .u8 69, .int .u8 0, .int .u8 0, .int .u8 21, .int .u8 0, .int .u8 0, .int .u8 0, .int .u8 0, .int .u8 1, .int .u8 0, .int .u8 165, .int .u8 232, .int .u8 10, .int .u8 0, .int .u8 0, .int .u8 1, .int .u8 10, .int .u8 0, .int .u8 0, .int .u8 1, .int .u8 120]) (hq : q ≠ h) :
    Calls Tryz.prog 18 #[.pointer (some ⟨h, 0, none⟩), .slice (some ⟨q, 0, none⟩) 21 21] w
      fun e w' => ∃ g c', e = .returned (.agg #[(.int .i64 (2)), (.int .i64 (0)), (.int .i64 (0)), (.int .i64 (2)), .slice (some ⟨g, 0, none⟩) 21 c']) ∧ Keep (fun k => k = h) w w' ∧ HierE w' h r rb um t tb A (.slice none 0 0) A2 (.slice none 0 0) ar1 [nd0, nd0] [] [] 1 0 3 3 0 stA := by
  have hb : ByA w q 0 pkA := ByA.of_blk (l := pkA) hB
  have ht : tot4 pkA = 21 := by decide
  have h0 := decideLocal_c h r rb um t tb A (.slice none 0 0) A2 (.slice none 0 0) ar1 [nd0, nd0] [] [] 1 0 3 3 (List.replicate 17 0) q 0 21 pkA w hH hb (by decide) (by decide) (by omega) hB.lt (by decide) wrongA (by rw [ht]; decide) (by rw [ht]; decide) hq (by rw [dstA]; decide) (by rw [dstA]; exact g1) (by rw [dstA]; exact nil1) (by rw [dstA]; exact g2) (by rw [dstA]; exact g3)
  rw [ht] at h0
  refine h0.mono ?_
  rintro e w1 ⟨g, c', rfl, _, _, _, hK, hH1⟩
  exact ⟨g, c', rfl, hK, hH1⟩

set_option maxRecDepth 100000 in
set_option maxHeartbeats 4000000 in
theorem awake_c (w : World) : Calls Tryz.prog 5 #[] w fun e w' => e = .returned (.bool true) ∧ Ext w w' := by
  go_enter Tryz.func5, Tryz.ntmps5
  go_wp2_with (first
    | (go_at_call 15; (with_reducible refine (fromA_c w.heap.size _ ?hb).mono ?_); (case hb => exact Blk.new' _ _ _ _ rfl); rintro e w1 ⟨rfl, h1⟩; have hx1 := ((Ext.refl w).alloc (.cells #[.int .u8 10, .int .u8 0, .int .u8 0, .int .u8 1] 5)).trans h1; have HX1 := Lib.hid hx1; clear h1 hx1)
    | (go_at_call 16; (with_reducible refine (hierNewA_c _).mono ?_); rintro e w2 ⟨h, r, rb, um, t, tb, A, A2, rfl, hH, hu, hx, h1, h2, h3, h4⟩; have hx2 := (HX1.out.alloc (.cells #[.int .u64 720575944674246656, .int .u64 0, .bool false] 37)).trans hx; have za : w1.heap.size < w2.heap.size := hx.lt (by simp); have ca : w2.cell? ⟨w1.heap.size, 0, none⟩ = some (.int .u64 720575944674246656) := ((Blk.new w1 37 #[.int .u64 720575944674246656, .int .u64 0, .bool false]).ext hx).cell 0; have Hba := Lib.hid ((Blk.new w1 37 #[.int .u64 720575944674246656, .int .u64 0, .bool false]).ext hx); have zw := HX1.out.size; have hS := Lib.hid (show ∀ k, updS A h rb um k → w1.heap.size < k from (by intro k hk; simp at h1 h2 h3 h4; rcases hk with rfl | rfl | hk | rfl; all_goals first | omega | (have := h4 _ hk; omega))); have hh : w1.heap.size < h := (by simp at h1; omega); have HX2 := Lib.hid hx2; have HH := Lib.hid hH; have HU := Lib.hid hu; clear hx hx2 hH hu h1 h2 h3 h4)
    | (go_at_call 17; (with_reducible refine (haddA_c h r rb um t tb A A2 _ HH.out HU.out).mono ?_); rintro e w3 ⟨rfl, hK, hH⟩; have hx3 := ((HX2.out.keep (updS A h rb um)).trans hK).ext (fun k hk hs => by have := hS.out k hs; have := HX1.out.size; omega); have hba := Hba.out.keep hK (fun hs => by have := hS.out _ hs; omega); have a0 : w3.cell? ⟨w1.heap.size, 0, none⟩ = some (.int .u64 720575944674246656) := hba.cell 0; have a1 : w3.cell? ⟨w1.heap.size, 1, none⟩ = some (.int .u64 0) := hba.cell 1; have a2 : w3.cell? ⟨w1.heap.size, 2, none⟩ = some (.bool false) := hba.cell 2; have z3 : w1.heap.size < w3.heap.size := hba.lt; have hcv := Lib.run_convert_bytes_const (P := Tryz.prog) w3 23 5 #[.int .u8 120] 1 1 (by kernel_rfl) (by kernel_rfl); have HX3 := Lib.hid hx3; have HH3 := Lib.hid hH; clear hx3 hK hH hba HH HU HX2 ca)
    | (go_at_call 19; (with_reducible refine (buildA_c w3.heap.size 0 1 _ ?cx (by omega)).mono ?_); (case cx => exact mark_cell w3); rintro e w4 ⟨q, rfl, hB, hq, hx⟩; have hx4 := ((Ext.refl w3).alloc _).trans hx; have HX4 := Lib.hid hx4; have HB := Lib.hid hB; have hq1 : w3.heap.size < q := (by simp at hq; omega); clear hx hx4 hB hq)
    | (go_at_call 18; first
       | ((with_reducible refine (decideA_c h r rb um t tb A A2 q _ (HH3.out.ext HX4.out) HB.out (by have := HH3.out.lt; omega)).mono ?_); rintro e w5 ⟨g, c', rfl, hK, hH⟩; have hx5 := (((HX3.out.trans HX4.out).keep (fun k => k = h)).trans hK).ext (fun k hk e => by have := HX1.out.size; omega); have z5 : w1.heap.size < w5.heap.size := (by have := HX4.out.size; have := hK.size; omega); have HX5 := Lib.hid hx5; have HH5 := Lib.hid hH; clear hx5 hK hH)
       | ((with_reducible refine (decide0_c h r rb um t tb A (.slice none 0 0) A2 (.slice none 0 0) ar1 [nd0, nd0] [] [] 1 0 3 3 stA none 0 _ (HH5.out.ext ((Ext.refl w5).alloc _))).mono ?_); rintro e w6 ⟨rfl, hK, hH⟩; have hx6 := (((HX5.out.alloc (.cells #[(.int .i64 (2)), (.int .i64 (0)), (.int .i64 (0)), (.int .i64 (2)), .slice (some ⟨g, 0, none⟩) 21 c'] 30)).keep (fun k => k = h)).trans hK).ext (fun k hk e => by have := HX1.out.size; omega); have hb := (Blk.new w5 30 #[(.int .i64 (2)), (.int .i64 (0)), (.int .i64 (0)), (.int .i64 (2)), .slice (some ⟨g, 0, none⟩) 21 c']).keep hK (by have := HH5.out.lt; omega); have v0 : w6.cell? ⟨w5.heap.size, 0, none⟩ = some ((.int .i64 (2))) := hb.cell 0; have v4 : w6.cell? ⟨w5.heap.size, 4, none⟩ = some (.slice (some ⟨g, 0, none⟩) 21 c') := hb.cell 4; have z6 : w5.heap.size < w6.heap.size := hb.lt; have HX6 := Lib.hid hx6; have HH6 := Lib.hid hH; clear hx6 hK hH hb))
    | (go_at_call 21; (with_reducible refine (hstats_c h _ _ _ _ _ _ (HH6.out.head.ext ((Ext.refl w6).alloc _)) HH6.out.ok.1).mono ?_); rintro e w7 ⟨rfl, hx⟩; have hx7 := (HX6.out.alloc (.cells #[(.int .i64 (0)), (.int .i64 (1)), (.int .i64 (0)), (.int .i64 (0)), .slice none 0 0] 30)).trans hx; have HX7 := Lib.hid hx7; clear hx hx7)
    | (go_at_call 20; (with_reducible refine (stgetA_c _).mono ?_); rintro e w8 ⟨rfl, hx⟩; have HX8 := Lib.hid (HX7.out.trans hx); clear hx))
  go_ret
  exact ⟨rfl, HX8.out⟩
end Go.Proofs.YtcipokldcjappaaGreat

namespace Go.Proofs.YtcipokldcjappaaGreat
open Go.RowKit

def SlG (w : World) (A : Option Addr) (l : List Po) : Prop := ∀ (j : Nat) (x : Po), l[j]? = some x → ∃ g off, A = some ⟨g, off, none⟩ ∧ g < w.heap.size ∧ w.cell? ⟨g, off + j * 3, none⟩ = some ((.int .i64 (x.hop))) ∧ w.cell? ⟨g, off + j * 3 + 1, none⟩ = some (.int .u64 x.pk) ∧ w.cell? ⟨g, off + j * 3 + 2, none⟩ = some (.int .u64 x.byt)
theorem SlP.gen {w : World} {v : Value} {l : List Po} (h : SlP w v l) : ∃ A c, v = .slice A l.length c ∧ SlG w A l := by
  rcases h with ⟨rfl, rfl⟩ | ⟨h0, g, off, c, rfl, h⟩
  · exact ⟨none, 0, rfl, fun j x hj => by simp at hj⟩
  · exact ⟨_, c, rfl, fun j x hj => ⟨g, off, rfl, h.lt h0, h j x hj⟩⟩
theorem SlG.ext {w w' : World} {A : Option Addr} {l : List Po} (h : SlG w A l) (hx : Ext w w') : SlG w' A l := by
  intro j x hj
  obtain ⟨g, off, e, hg, a, b, c⟩ := h j x hj
  exact ⟨g, off, e, hx.lt hg, (hx.cell _ _ hg).trans a, (hx.cell _ _ hg).trans b, (hx.cell _ _ hg).trans c⟩

/-- what the law asks of what was counted, for a port that has more -/
theorem sat_pk (a : Int) (h0 : 0 ≤ a) (h1 : a ≤ 18446744073709551615) : (satAdd a 1 = a + 1 ∧ IntKind.u64.wrap (a + 1) = a + 1) ∨ (a = 18446744073709551615 ∧ satAdd a 1 = 18446744073709551615) := by
  by_cases h : a = 18446744073709551615
  · exact .inr ⟨h, by unfold satAdd; rw [if_pos (by omega)]⟩
  · exact .inl ⟨by unfold satAdd; rw [if_neg (by omega)], by rw [IntKind.wrap_u64]; omega⟩
theorem sat_byt (a m : Int) (h0 : 0 ≤ a) (h1 : a ≤ 18446744073709551615) (hm0 : 0 ≤ m) (hm : m ≤ 3000) : a ≤ satAdd a m ∧ ((satAdd a m = a + m ∧ IntKind.u64.wrap (a + m) = a + m) ∨ (satAdd a m = 18446744073709551615 ∧ IntKind.u64.wrap (a + m) ≠ 18446744073709551615)) := by
  by_cases h : 18446744073709551616 ≤ a + m
  · have e : satAdd a m = 18446744073709551615 := by unfold satAdd; rw [if_pos (by omega)]
    exact ⟨by omega, .inr ⟨e, by rw [IntKind.wrap_u64]; omega⟩⟩
  · have e : satAdd a m = a + m := by unfold satAdd; rw [if_neg (by omega)]
    exact ⟨by omega, .inl ⟨e, by rw [IntKind.wrap_u64]; omega⟩⟩
theorem wasN_range {l : List Po} {h : Int} (hl : ∀ x ∈ l, 0 ≤ x.pk ∧ 0 ≤ x.byt ∧ x.pk ≤ 18446744073709551615 ∧ x.byt ≤ 18446744073709551615) : ∀ n, 0 ≤ (wasN l h n).pk ∧ 0 ≤ (wasN l h n).byt ∧ (wasN l h n).pk ≤ 18446744073709551615 ∧ (wasN l h n).byt ≤ 18446744073709551615
  | 0 => ⟨Int.le_refl 0, Int.le_refl 0, by show (0 : Int) ≤ _; omega, by show (0 : Int) ≤ _; omega⟩
  | n + 1 => by
    unfold wasN
    split
    · rename_i x hx
      split
      · exact hl x (List.mem_of_getElem? hx)
      · exact wasN_range hl n
    · exact wasN_range hl n

@[go_sem high] theorem nePo_run (a b c : Int) (w : World) : (binOp .neq 33 (.agg #[(.int .i64 (a)), .int .u64 b, .int .u64 c]) (.agg #[(.int .i64 (a)), .int .u64 b, .int .u64 c])).run Tryz.prog w = .ok (.bool false) w := by
  simp [go_sem, Op.eqFields]

set_option maxRecDepth 100000 in
set_option maxHeartbeats 4000000 in
theorem fports_c (a : Option Addr) (c : Nat) (l : List Po) (hop kind r T : Int) (oa : Option Addr) (m oc : Nat) (w : World)
    (hp : ∀ w1, Ext w w1 → Calls Tryz.prog 6 #[.slice a l.length c] w1 fun e w' => ∃ v, e = .returned v ∧ SlP w' v l ∧ Ext w1 w')
    (hk : bits .and .i64 kind 1 = r) (hr : (r = 0 ∧ T = hop % 65536) ∨ (r = 1 ∧ T = 0)) (hm : m ≤ 140737488355328) (hlen : l.length ≤ 140737488355328)
    (hl : ∀ x ∈ l, 0 ≤ x.pk ∧ 0 ≤ x.byt ∧ x.pk ≤ 18446744073709551615 ∧ x.byt ≤ 18446744073709551615) :
    Calls Tryz.prog 3 #[.slice a l.length c, (.int .i64 (hop)), (.int .i64 (kind)), .slice oa m oc] w fun e w' => e = .returned (.bool true) ∧ Ext w w' := by
  have HP := Lib.hid hp
  have hh := and65535 hop
  have hr0 : 0 ≤ r := by omega
  have hr1 : r ≤ 1 := by omega
  have hkk : (1 + r = 1 ∧ T = hop % 65536) ∨ (1 + r = 2 ∧ T = 0) := by omega
  have hT0 : 0 ≤ T := by omega
  have hT1 : T ≤ 65535 := by omega
  have hb : 0 ≤ hop % 65536 ∧ hop % 65536 ≤ 65535 := by omega
  have HL := Lib.hid hl
  clear hp hl
  by_cases h1 : 200 < l.length
  · go_enter Tryz.func3, Tryz.ntmps3
    go_wp2_with (first
      | (go_at_call 5; (with_reducible refine (awake_c _).mono ?_); rintro e w1 ⟨rfl, h1⟩; have HX1 := Lib.hid h1; clear h1)
      | (go_at_call 6; (with_reducible refine (HP.out _ HX1.out).mono ?_); rintro e w2 ⟨v, rfl, hv, h2⟩; have HX2 := Lib.hid (HX1.out.trans h2); clear h2))
    go_ret
    exact ⟨rfl, HX2.out⟩
  by_cases h2 : 3000 < m
  · go_enter Tryz.func3, Tryz.ntmps3
    go_wp2_with (first
      | (go_at_call 5; (with_reducible refine (awake_c _).mono ?_); rintro e w1 ⟨rfl, h1⟩; have HX1 := Lib.hid h1; clear h1)
      | (go_at_call 6; (with_reducible refine (HP.out _ HX1.out).mono ?_); rintro e w2 ⟨v, rfl, hv, h2⟩; have HX2 := Lib.hid (HX1.out.trans h2); clear h2))
    go_ret
    exact ⟨rfl, HX2.out⟩
  cases h3 : saneFrom (-1) l with
  | false =>
    have H3 := Lib.hid h3
    clear h3
    go_enter Tryz.func3, Tryz.ntmps3
    go_wp2_with (first
      | (go_at_call 5; (with_reducible refine (awake_c _).mono ?_); rintro e w1 ⟨rfl, h1⟩; have HX1 := Lib.hid h1; clear h1)
      | (go_at_call 6; (with_reducible refine (HP.out _ HX1.out).mono ?_); rintro e w2 ⟨v, rfl, hv, h2⟩; have HX2 := Lib.hid (HX1.out.trans h2); have HV := Lib.hid hv; clear h2 hv)
      | (go_at_call 7; (with_reducible refine (sane_s v l _ HV.out (by omega)).mono ?_); rintro e w3 ⟨rfl, h3⟩; rw [H3.out]; have HX3 := Lib.hid (HX2.out.trans h3); clear h3))
    go_ret
    exact ⟨rfl, HX3.out⟩
  | true =>
    have H3 := Lib.hid h3
    clear h3
    go_enter Tryz.func3, Tryz.ntmps3
    go_upto_if 47 with (first
      | (go_at_call 5; (with_reducible refine (awake_c _).mono ?_); rintro e w1 ⟨rfl, h1⟩; have HX1 := Lib.hid h1; clear h1)
      | (go_at_call 6; (with_reducible refine (HP.out _ HX1.out).mono ?_); rintro e w2 ⟨v, rfl, hv, h2⟩; have HX2 := Lib.hid (HX1.out.trans h2); have HV := Lib.hid hv; obtain ⟨A, cp, rfl, hG⟩ := hv.gen; have HG := Lib.hid hG; clear h2 hv hG)
      | (go_at_call 7; (with_reducible refine (sane_s (.slice A l.length cp) l _ HV.out (by omega)).mono ?_); rintro e w3 ⟨rfl, h3⟩; rw [H3.out]; have HX3 := Lib.hid (HX2.out.trans h3); have HG3 := Lib.hid (HG.out.ext h3); have HV3 := Lib.hid (HV.out.ext h3); clear h3)
      | (go_at_call 8; (with_reducible refine (account_c (.slice A l.length cp) l (1 + r) (hop % 65536) T 0 0 oa m oc _ HV3.out (by omega) hkk (by unfold mayB; simp; omega) H3.out (fun x hx => ⟨(HL.out x hx).1, (HL.out x hx).2.1⟩) hm).mono ?_); rintro e w4 ⟨k, vq, rfl, hsp, ho, h4⟩; have HX4 := Lib.hid (HX3.out.trans h4); have HG4 := Lib.hid (HG3.out.ext h4); obtain ⟨xk, hxk, hxt⟩ := withP_at hsp; have hkl := (List.getElem?_eq_some_iff.1 hxk).1; have hql : (bumpP (withP l T k) k m).length = (withP l T k).length := bump_length _ _ _; have hq := SlP.of_own (l := bumpP (withP l T k) k m) (by rw [hql]; exact ho) (by rw [hql]; omega); obtain ⟨gq, cq, rfl, hq1⟩ : ∃ g c, vq = .slice (some ⟨g, 0, none⟩) (withP l T k).length c ∧ PoA w4 g 0 (bumpP (withP l T k) k m) := (by rcases own_form ho with ⟨_, hn⟩ | ⟨g, cap, rfl, _, _, _⟩; exact absurd hn (by omega); exact ⟨g, cap, rfl, PoA.of_own (n := (withP l T k).length) ho⟩); have HQ := Lib.hid hq; have HA := Lib.hid (show SlG w4 (some ⟨gq, 0, none⟩) (bumpP (withP l T k) k m) from fun j x hj => ⟨gq, 0, rfl, hq1.lt (by rw [hql]; omega), hq1 j x hj⟩); have HQS := Lib.hid (bump_sane (m := m) H3.out hsp (show mayB T = true from by unfold mayB; simp; omega)); have HSP := Lib.hid hsp; have hll := withP_length hsp; have HQL := Lib.hid hql; have HXK := Lib.hid hxk; clear hsp ho h4 hq hq1 hql hxk))
    go_cut [12] from 47 to 47 (fun s12 wc => s12 = (.int .i64 (T)) ∧ wc = w4)
    case first =>
      rcases hr with ⟨rfl, rfl⟩ | ⟨rfl, rfl⟩
      · go_wp2_with fail
        go_meet
        case rel => exact ⟨rfl, rfl⟩
      · go_wp2_with fail
        go_meet
        case rel => exact ⟨rfl, rfl⟩
    case rest =>
    obtain ⟨rfl, rfl⟩ := hcut
    go_wp2_with (first
      | (go_at_call 7; (with_reducible refine (sane_s _ _ _ HQ.out (by rw [HQL.out]; omega)).mono ?_); rintro e w5 ⟨rfl, h5⟩; rw [HQS.out]; have HX5 := Lib.hid (HX4.out.trans h5); have HG5 := Lib.hid (HG4.out.ext h5); have HA5 := Lib.hid (HA.out.ext h5); clear h5))
    have hLaw := fun i y (hy : (bumpP (withP l T k) k m)[i]? = some y) => bump_get (m := m) (saneFrom_incr H3.out) HSP.out i y hy
    obtain ⟨yk, hyk⟩ : ∃ y, (bumpP (withP l T k) k m)[k]? = some y := ⟨_, List.getElem?_eq_getElem (by rw [HQL.out]; exact hkl)⟩
    have hQL := HQL.out
    have hkT : ∀ y, (bumpP (withP l T k) k m)[k]? = some y → y.hop = T := fun y hy => by
      obtain ⟨x, hx, e⟩ := bump_hop _ _ _ k y hy
      rw [HXK.out] at hx
      rw [e, ← Option.some.inj hx, hxt]
    generalize bumpP (withP l T k) k m = Q at hLaw hyk hQL HG5 HA5 HQ HA hkT
    generalize (withP l T k).length = N at hQL hkl hll
    have HLaw := Lib.hid hLaw
    have HQL2 := Lib.hid hQL
    have hRg := Lib.hid (fun h => wasN_range (l := l) (h := h) HL.out l.length)
    have HKT := Lib.hid hkT
    clear hkT hLaw hQL hyk HSP HXK HQL HQS HQ HA HV3 HV HG HG3 HG4 HL HP HX1 HX2 HX3 HX4 H3
    go_loopw [14, 15] (fun f i wr => ∃ j : Nat, j ≤ N ∧ i = (.int .i64 ((j : Int))) ∧ f = .bool (decide (k < j)) ∧ Ext w5 wr) (fun _ i _ => N - (intOf i).toNat)
    case atStart => exact ⟨0, by omega, rfl, by simp, Ext.refl w5⟩
    case round =>
      obtain ⟨j, hj, rfl, rfl, hx⟩ := hrel
      by_cases hlt : j < N
      · obtain ⟨y, hjy⟩ : ∃ y, Q[j]? = some y := ⟨_, List.getElem?_eq_getElem (by rw [HQL2.out]; exact hlt)⟩
        obtain ⟨g', off', e', hgq, d0, d1, d2⟩ := (HA5.out.ext hx) j y hjy
        injection e' with e'
        injection e' with e1 e2
        subst e1
        subst e2
        have HX := Lib.hid hx
        have HJ := Lib.hid hjy
        rw [Nat.zero_add] at d0 d1 d2
        obtain ⟨wo, hwo⟩ : ∃ x, x = wr := ⟨_, rfl⟩
        subst hwo
        clear hx hjy
        go_wp2_with fail
        go_loopw [17] (fun jj wr => ∃ j2 : Nat, j2 ≤ l.length ∧ jj = (.int .i64 ((j2 : Int))) ∧ Keep (fun b => b = wo.heap.size) (wo.alloc (.cells #[(.int .i64 (y.hop)), .int .u64 0, .int .u64 0] 33)) wr ∧ Blk wr wo.heap.size 33 (poCells (wasN l y.hop j2)).toArray) (fun jj _ => l.length - (intOf jj).toNat)
        case atStart => exact ⟨0, by omega, rfl, Keep.refl _ _, Blk.new _ _ _⟩
        case round =>
          obtain ⟨j2, hj2, rfl, hK, hB⟩ := hrel
          have hgq2 : gq ≠ wo.heap.size := by omega
          have e0 := (hK.cell (p := ⟨gq, j * 3, none⟩) (by simp; omega) hgq2).trans ((World.cell?_alloc_lt _ _ _ hgq).trans d0)
          have e1 := (hK.cell (p := ⟨gq, j * 3 + 1, none⟩) (by simp; omega) hgq2).trans ((World.cell?_alloc_lt _ _ _ hgq).trans d1)
          have e2 := (hK.cell (p := ⟨gq, j * 3 + 2, none⟩) (by simp; omega) hgq2).trans ((World.cell?_alloc_lt _ _ _ hgq).trans d2)
          have hgw : gq < wr.heap.size := Nat.lt_of_lt_of_le hgq (by have := hK.size; simp at this; omega)
          by_cases hlt2 : j2 < l.length
          · obtain ⟨x, hjx⟩ : ∃ x, l[j2]? = some x := ⟨_, List.getElem?_eq_getElem hlt2⟩
            obtain ⟨ga, off, rfl, hga, x0, x1, x2⟩ := (HG5.out.ext HX.out) j2 x hjx
            have hga2 : ga ≠ wo.heap.size := by omega
            have f0 := (hK.cell (p := ⟨ga, off + j2 * 3, none⟩) (by simp; omega) hga2).trans ((World.cell?_alloc_lt _ _ _ hga).trans x0)
            have f1 := (hK.cell (p := ⟨ga, off + j2 * 3 + 1, none⟩) (by simp; omega) hga2).trans ((World.cell?_alloc_lt _ _ _ hga).trans x1)
            have f2 := (hK.cell (p := ⟨ga, off + j2 * 3 + 2, none⟩) (by simp; omega) hga2).trans ((World.cell?_alloc_lt _ _ _ hga).trans x2)
            have hgw2 : ga < wr.heap.size := Nat.lt_of_lt_of_le hga (by have := hK.size; simp at this; omega)
            clear x0 x1 x2 d0 d1 d2
            have HK := Lib.hid hK
            have HB := Lib.hid hB
            have HJX := Lib.hid hjx
            clear hK hB hjx
            go_wp2_with fail
            refine wp_region_ext 10 (by kernel_rfl) (by kernel_rfl) ?_
            dsimp only [List.take, List.drop]
            repeat (first | (apply hold_skip2 rfl; focus (first | (simp only [Act.put, List.setIfInBounds_toArray, List.set_cons_zero, List.set_cons_succ]; exact rfl) | (simp only [Act.put, List.setIfInBounds_toArray, List.set_cons_zero, List.set_cons_succ]) | exact rfl)) | (apply hold_cons2 rfl; (focus (intro w1 hS; have c1 := hS.cell; have f1 := hS.frozen; have z1 := hS.size; go_simp; first | exact rfl | exact ⟨rfl, hS⟩ | ((have g0 := (hS.cell _ _ hgw).trans e0; have g1 := (hS.cell _ _ hgw2).trans f0; go_simp; exact ⟨rfl, hS⟩)))); (focus (first | (simp only [Act.put, List.setIfInBounds_toArray, List.set_cons_zero, List.set_cons_succ]; exact rfl) | (simp only [Act.put, List.setIfInBounds_toArray, List.set_cons_zero, List.set_cons_succ]) | exact rfl))))
            refine hold_nil ?_
            rintro w1 hE
            have c_hE := hE.cell
            have f_hE := hE.frozen
            have f0' := (hE.cell _ _ hgw2).trans f0
            have f1' := (hE.cell _ _ hgw2).trans f1
            have f2' := (hE.cell _ _ hgw2).trans f2
            have hB1 := HB.out.ext hE
            have hK1 := HK.out.thenExt hE
            have b0 := hB1.cell 0
            have b1 := hB1.cell 1
            have b2 := hB1.cell 2
            have bf := hB1.frozen
            have HB1 := Lib.hid hB1
            have HK1 := Lib.hid hK1
            simp only [poCells] at b0 b1 b2
            clear hB1 hK1 hE c_hE f_hE HK HB e0 e1 e2 f0 f1 f2
            have hwz : wasN l y.hop (j2 + 1) = if x.hop = y.hop then x else wasN l y.hop j2 := by
              show (match l[j2]? with | some x => if x.hop = y.hop then x else wasN l y.hop j2 | none => wasN l y.hop j2) = _
              rw [HJX.out]
            by_cases hxy : x.hop = y.hop
            · rw [if_pos hxy] at hwz
              have hxyb : (x.hop == y.hop) = true := by simpa using hxy
              have HXY := Lib.hid hxy
              have HWZ := Lib.hid hwz
              clear hxy hwz
              go_wp2_with fail
              go_roundw
              case rel =>
                refine ⟨j2 + 1, by omega, by first | rfl | (simp <;> omega), (((HK1.out.set (.inl rfl) _).set (.inl rfl) _).set (.inl rfl) _), ?_⟩
                rw [HWZ.out]
                have := ((HB1.out.set 0 ((.int .i64 (x.hop)))).set 1 (.int .u64 x.pk)).set 2 (.int .u64 x.byt)
                simpa [poCells] using this
              case measure => simp [intOf]; omega
            · rw [if_neg hxy] at hwz
              have hxyb : (x.hop == y.hop) = false := by simpa using hxy
              have HWZ := Lib.hid hwz
              clear hxy hwz
              go_wp2_with fail
              go_roundw
              case rel =>
                refine ⟨j2 + 1, by omega, by first | rfl | (simp <;> omega), HK1.out, ?_⟩
                rw [HWZ.out]
                exact HB1.out
              case measure => simp [intOf]; omega
          · have : j2 = l.length := by omega
            subst this
            have hXo := ((HX.out.alloc (.cells #[(.int .i64 (y.hop)), .int .u64 0, .int .u64 0] 33)).keep (fun b => b = wo.heap.size)).trans' hK (fun _ _ h => h) |>.ext (fun b hb e => by have := HX.out.size; omega)
            have HXo := Lib.hid hXo
            clear hXo hK d0 d1 d2
            rcases HLaw.out j y HJ.out with ⟨hne, heq⟩ | ⟨heq, hjk, hpk, hbyt⟩
            · have hkd : decide (k < j + 1) = decide (k < j) := by
                have : k ≠ j := fun e => hne (HKT.out y (by rw [e]; exact HJ.out))
                by_cases h : k < j <;> simp [h] <;> omega
              rw [← heq] at hB
              have b0 : wr.cell? ⟨wo.heap.size, 0, none⟩ = some ((.int .i64 (y.hop))) := hB.cell 0
              have b1 : wr.cell? ⟨wo.heap.size, 1, none⟩ = some (.int .u64 y.pk) := hB.cell 1
              have b2 : wr.cell? ⟨wo.heap.size, 2, none⟩ = some (.int .u64 y.byt) := hB.cell 2
              have hbl := hB.lt
              have hneb : (y.hop != T) = true := by simpa using hne
              clear heq hne hB
              go_wp2_with fail
              refine wp_region_ext 5 (by kernel_rfl) (by kernel_rfl) ?_
              dsimp only [List.take, List.drop]
              repeat (first | (apply hold_skip2 rfl; focus (first | (simp only [Act.put, List.setIfInBounds_toArray, List.set_cons_zero, List.set_cons_succ]; exact rfl) | (simp only [Act.put, List.setIfInBounds_toArray, List.set_cons_zero, List.set_cons_succ]) | exact rfl)) | (apply hold_cons2 rfl; (focus (intro w1 hS; have c1 := hS.cell; have f1 := hS.frozen; have z1 := hS.size; go_simp; first | exact rfl | exact ⟨rfl, hS⟩ | ((have g0 := (hS.cell _ _ hgw).trans e0; have g1 := (hS.cell _ _ hgw).trans e1; have g2 := (hS.cell _ _ hgw).trans e2; have g3 := (hS.cell _ _ hbl).trans b0; have g4 := (hS.cell _ _ hbl).trans b1; have g5 := (hS.cell _ _ hbl).trans b2; go_simp; exact ⟨rfl, hS⟩)))); (focus (first | (simp only [Act.put, List.setIfInBounds_toArray, List.set_cons_zero, List.set_cons_succ]; exact rfl) | (simp only [Act.put, List.setIfInBounds_toArray, List.set_cons_zero, List.set_cons_succ]) | exact rfl))))
              refine hold_nil ?_
              rintro w1 hE
              have c_hE := hE.cell
              have f_hE := hE.frozen
              have HE := Lib.hid hE
              clear hE c_hE f_hE e0 e1 e2 b0 b1 b2
              go_wp2_with fail
              go_roundw
              case rel => exact ⟨j + 1, by omega, by first | rfl | (simp <;> omega), by rw [hkd], HXo.out.trans HE.out⟩
              case measure => simp [intOf]; omega
            · rw [heq] at hB
              obtain ⟨r0, r1, r2, r3⟩ := hRg.out T
              generalize wasN l T l.length = z at hB hpk hbyt r0 r1 r2 r3
              have b0 : wr.cell? ⟨wo.heap.size, 0, none⟩ = some ((.int .i64 (z.hop))) := hB.cell 0
              have b1 : wr.cell? ⟨wo.heap.size, 1, none⟩ = some (.int .u64 z.pk) := hB.cell 1
              have b2 : wr.cell? ⟨wo.heap.size, 2, none⟩ = some (.int .u64 z.byt) := hB.cell 2
              have hbl := hB.lt
              have hneb : (y.hop != T) = false := by simpa using heq
              have HEQ := Lib.hid heq
              have HPK := Lib.hid hpk
              have HBY := Lib.hid hbyt
              have HJK := Lib.hid hjk
              clear heq hB hpk hbyt hjk
              have hm0 : (0 : Int) ≤ (m : Int) := by omega
              have hm3 : (m : Int) ≤ 3000 := by omega
              obtain ⟨s0, s1⟩ := sat_byt z.byt m r1 r3 hm0 hm3
              have q0 : decide (y.byt < z.byt) = false := by rw [HBY.out]; simp; omega
              have hP : ((y.pk != IntKind.u64.wrap (z.pk + 1)) = false) ∨ ((y.pk != IntKind.u64.wrap (z.pk + 1)) = true ∧ (z.pk != 18446744073709551615) = false) := by
                rcases sat_pk z.pk r0 r2 with ⟨p1, p2⟩ | ⟨p1, p2⟩
                · exact .inl (by rw [HPK.out, p1, p2]; simp)
                · refine .inr ⟨by rw [HPK.out, p2, p1]; decide, by rw [p1]; decide⟩
              have hB' : ((y.byt != IntKind.u64.wrap (z.byt + m)) = false) ∨ ((y.byt != IntKind.u64.wrap (z.byt + m)) = true ∧ (y.byt != 18446744073709551615) = false) := by
                rcases s1 with ⟨p1, p2⟩ | ⟨p1, p2⟩
                · exact .inl (by rw [HBY.out, p1, p2]; simp)
                · refine .inr ⟨by rw [HBY.out, p1]; simp only [bne_iff_ne]; exact fun e => p2 e.symm, by rw [HBY.out, p1]; decide⟩
              have hwm : IntKind.u64.wrap (m : Int) = (m : Int) := by rw [IntKind.wrap_u64]; omega
              clear s0 s1 r0 r1 r2 r3 hm0 hm3
              go_wp2_with fail
              refine wp_region_ext 45 (by kernel_rfl) (by kernel_rfl) ?_
              dsimp only [List.take, List.drop]
              iterate 8 (first | (apply hold_skip2 rfl; focus (first | (simp only [Act.put, List.setIfInBounds_toArray, List.set_cons_zero, List.set_cons_succ]; exact rfl) | (simp only [Act.put, List.setIfInBounds_toArray, List.set_cons_zero, List.set_cons_succ]) | exact rfl)) | (apply hold_cons2 rfl; (focus (intro w1 hS; have g0 := (hS.cell _ _ hgw).trans e0; have g1 := (hS.cell _ _ hgw).trans e1; have g2 := (hS.cell _ _ hgw).trans e2; have g3 := (hS.cell _ _ hbl).trans b0; have g4 := (hS.cell _ _ hbl).trans b1; have g5 := (hS.cell _ _ hbl).trans b2; go_simp; first | exact rfl | exact ⟨rfl, hS⟩)); (focus (first | (simp only [Act.put, List.setIfInBounds_toArray, List.set_cons_zero, List.set_cons_succ]; exact rfl) | (simp only [Act.put, List.setIfInBounds_toArray, List.set_cons_zero, List.set_cons_succ]) | exact rfl))))
              rcases hP with p1 | ⟨p1, p2⟩
              all_goals
                iterate 28 (first | (apply hold_skip2 rfl; focus (first | (simp only [Act.put, List.setIfInBounds_toArray, List.set_cons_zero, List.set_cons_succ]; exact rfl) | (simp only [Act.put, List.setIfInBounds_toArray, List.set_cons_zero, List.set_cons_succ]) | exact rfl)) | (apply hold_cons2 rfl; (focus (intro w1 hS; have g0 := (hS.cell _ _ hgw).trans e0; have g1 := (hS.cell _ _ hgw).trans e1; have g2 := (hS.cell _ _ hgw).trans e2; have g3 := (hS.cell _ _ hbl).trans b0; have g4 := (hS.cell _ _ hbl).trans b1; have g5 := (hS.cell _ _ hbl).trans b2; go_simp; first | exact rfl | exact ⟨rfl, hS⟩)); (focus (first | (simp only [Act.put, List.setIfInBounds_toArray, List.set_cons_zero, List.set_cons_succ]; exact rfl) | (simp only [Act.put, List.setIfInBounds_toArray, List.set_cons_zero, List.set_cons_succ]) | exact rfl))))
                rcases hB' with q1 | ⟨q1, q2⟩
                all_goals
                  repeat (first | (apply hold_skip2 rfl; focus (first | (simp only [Act.put, List.setIfInBounds_toArray, List.set_cons_zero, List.set_cons_succ]; exact rfl) | (simp only [Act.put, List.setIfInBounds_toArray, List.set_cons_zero, List.set_cons_succ]) | exact rfl)) | (apply hold_cons2 rfl; (focus (intro w1 hS; have g0 := (hS.cell _ _ hgw).trans e0; have g1 := (hS.cell _ _ hgw).trans e1; have g2 := (hS.cell _ _ hgw).trans e2; have g3 := (hS.cell _ _ hbl).trans b0; have g4 := (hS.cell _ _ hbl).trans b1; have g5 := (hS.cell _ _ hbl).trans b2; go_simp; first | exact rfl | exact ⟨rfl, hS⟩)); (focus (first | (simp only [Act.put, List.setIfInBounds_toArray, List.set_cons_zero, List.set_cons_succ]; exact rfl) | (simp only [Act.put, List.setIfInBounds_toArray, List.set_cons_zero, List.set_cons_succ]) | exact rfl))))
                  refine hold_nil ?_
                  intro w1 hE
                  have HE := Lib.hid hE
                  clear hE e0 e1 e2 b0 b1 b2
                  go_wp2_with fail
                  go_roundw
                  case rel => exact ⟨j + 1, by omega, by first | rfl | (simp <;> omega), by rw [decide_eq_true (by have := HJK.out; omega)], HXo.out.trans HE.out⟩
                  case measure => simp [intOf]; omega
      · have : j = N := by omega
        subst this
        have hd : decide (k < j) = true := by simp; omega
        rw [hd]
        have HX := Lib.hid hx
        clear hx hd
        go_wp2
        go_ret
        exact ⟨rfl, HX5.out.trans HX.out⟩
end Go.Proofs.YtcipokldcjappaaGreat

