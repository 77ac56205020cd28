/-
  Part 4 of the walks behind the claim: NewC, Q1, Leaf1, Bwd, Gov, Leaf2, QE, QF, Inv3, Tab1, Tab2, Hier1, Hier2, Rib1.
-/
import Derived.Test.YtcipokldcjappaaGreatM3
import Derived.RangeFuncNested
import Derived.RangeFuncBound
import Derived.RangeFuncCalls
import Derived.RangeFuncLeaves
import Derived.Shelf.Abstract
import Derived.OwnWalkIn
import Derived.TacticsInMore
import Derived.LoopNIn
import Derived.LoopIn
set_option linter.unusedVariables false
set_option linter.unusedSimpArgs false

namespace Go.Proofs.YtcipokldcjappaaGreat
open Go.RowKit

/-- all of a hier, with no resident and nothing that waits -/
structure HierE (w : World) (h r rb um t tb : Nat) (A F A2 F2 : Value) (ar ar2 : List Nd) (fr fr2 : List Nat) (n n2 most hops : Int) (bd : Int) (st : List Int) : Prop where
  head : Blk w h 106 (hCells (ptr r) (ptr t) (.slice none 0 0) bd st)
  rib : RibB w r rb um most hops
  tree : TrieAt w rb A F ar fr n
  uses : ∃ es c, w.heap[um]? = some (.map es c)
  tab : TabB w t tb
  leaves : TrieAt w tb A2 F2 ar2 fr2 n2
  ok : StOk st
  apart : tb ≠ rb ∧ ∀ g, A.ownBlock = some g → A2.ownBlock ≠ some g

theorem hC_zero (r t : Nat) (L : Value) (bd : Int) : hCells (ptr r) (ptr t) L bd (List.replicate 17 0) = #[.pointer (some ⟨r, 0, none⟩), .pointer (some ⟨t, 0, none⟩), L, (.int .i64 (bd)), .int .u64 0, .int .u64 0, .int .u64 0, .int .u64 0, .int .u64 0, .int .u64 0, .int .u64 0, .int .u64 0, .int .u64 0, .int .u64 0, .int .u64 0, .int .u64 0, .int .u64 0, .int .u64 0, .int .u64 0, .int .u64 0, .int .u64 0] := by
  simp [hCells, stC, ptr, List.replicate_succ]
theorem stOk0 : StOk (List.replicate 17 0) := ⟨by simp, fun x hx => by simp at hx; omega⟩
theorem statsNewNil_l (w : World) : Calls Tryz.prog 37 #[.slice none 0 0] w fun e w' => e = .returned (.agg #[.int .u64 0, .int .u64 0, .int .u64 0, .int .u64 0, .int .u64 0, .int .u64 0, .int .u64 0, .int .u64 0, .int .u64 0, .int .u64 0, .int .u64 0, .int .u64 0, .int .u64 0, .int .u64 0, .int .u64 0, .int .u64 0, .int .u64 0]) ∧ Ext w w' := statsNewNil_c w

set_option maxRecDepth 100000 in
set_option maxHeartbeats 2000000 in
theorem hierNew_c (pol bd n h : Int) (w : World) : Calls Tryz.prog 16 #[.agg #[(.int .i64 (0)), (.int .i64 (pol)), (.int .i64 (bd)), (.int .i64 (n)), (.int .i64 (h)), .slice none 0 0]] w fun e w' =>
    ∃ hh r rb um t tb A A2, e = .returned (.pointer (some ⟨hh, 0, none⟩)) ∧ HierE w' hh r rb um t tb A (.slice none 0 0) A2 (.slice none 0 0) [nd0, nd0] [nd0, nd0] [] [] 0 0 (max 0 (min n 4096)) (max 0 (min h 65536)) (max 0 (min bd 1024)) (List.replicate 17 0) ∧ w'.heap[um]? = some (.map #[] 0) ∧ Ext w w' ∧ w.heap.size ≤ hh ∧ w.heap.size ≤ rb ∧ w.heap.size ≤ um ∧ (∀ g, A.ownBlock = some g → w.heap.size ≤ g) := by
  go_enter Tryz.func16, Tryz.ntmps16
  go_wp2_with fail
  go_region_held3 (fun w' => w'.cell? ⟨w.heap.size, 0, none⟩ = some ((.int .i64 (0))) ∧ w'.cell? ⟨w.heap.size, 1, none⟩ = some ((.int .i64 (pol))) ∧ w'.cell? ⟨w.heap.size, 2, none⟩ = some ((.int .i64 (bd))) ∧ w'.cell? ⟨w.heap.size, 3, none⟩ = some ((.int .i64 (n))) ∧ w'.cell? ⟨w.heap.size, 4, none⟩ = some ((.int .i64 (h))) ∧ w'.cell? ⟨w.heap.size, 5, none⟩ = some (.slice none 0 0))
    (first | go_keep | (go_split_ands; refine ⟨?_, ?_, ?_, ?_, ?_, ?_⟩ <;> (rw [hx.cell _ _ (by first | assumption | (simp <;> omega))]; assumption)))
    (first
     | (go_at_call 34; (with_reducible refine (ribNew_c n h _).mono ?_); rintro e w1 ⟨r, rb, um, A, rfl, hR, hT, hM, hx, hr, hrb, hum, hAg⟩; have Hfr := Lib.hid (show w.heap.size ≤ rb ∧ w.heap.size ≤ um ∧ ∀ g, A.ownBlock = some g → w.heap.size ≤ g from ⟨(by simp at hrb; omega), (by simp at hum; omega), (fun g hg => by have := hAg g hg; simp at this; omega)⟩); have z1 : w.heap.size < w1.heap.size := hx.lt (by simp); have HR := Lib.hid hR; have HT := Lib.hid hT; have HM := Lib.hid hM; have HX := Lib.hid hx; clear hR hT hM hr hrb hum hAg)
     | (go_at_call 35; (with_reducible refine (tableNew_c pol _).mono ?_); rintro e w2 ⟨t, tb, A2, rfl, hB, hT2, hx, ht, htb, hA2⟩; have Hap := Lib.hid (show tb ≠ rb ∧ ∀ g, A.ownBlock = some g → A2.ownBlock ≠ some g from ⟨(fun e => by have := HT.out.head.lt; omega), (fun g hg hg2 => by have h1 := own_lt HT.out.arena hg; have h2 := hA2 g hg2; omega)⟩); have z2 : w.heap.size < w2.heap.size := hx.lt z1; have HB := Lib.hid hB; have HT2 := Lib.hid hT2; have HX2 := Lib.hid hx; clear hB hT2 ht htb hA2)
     | (go_at_call 36; (with_reducible refine (queueNew_c bd _).mono ?_); rintro e w3 ⟨rfl, hx⟩; have z3 : w.heap.size < w3.heap.size := hx.lt z2; have HX3 := Lib.hid hx)
     | (go_at_call 37; (with_reducible refine (statsNewNil_l _).mono ?_); rintro e w4 ⟨rfl, hx⟩; have z4 : w.heap.size < w4.heap.size := hx.lt z3; have HX4 := Lib.hid hx))
  clear hx
  rename_i hHeld
  clear hHeld
  go_wp2
  have hE : Ext w2 (w4.alloc (.cells #[.pointer (some ⟨r, 0, none⟩), .pointer (some ⟨t, 0, none⟩), .slice none 0 0, (.int .i64 (max 0 (min bd 1024))), .int .u64 0, .int .u64 0, .int .u64 0, .int .u64 0, .int .u64 0, .int .u64 0, .int .u64 0, .int .u64 0, .int .u64 0, .int .u64 0, .int .u64 0, .int .u64 0, .int .u64 0, .int .u64 0, .int .u64 0, .int .u64 0, .int .u64 0] 106)) := (HX3.out.trans HX4.out).alloc _
  have hE2 := HX2.out.trans hE
  have hA : Ext w w1 := (((Ext.refl w).alloc _).drew).trans HX.out
  have hR := HR.out.ext hE2
  have hT := HT.out.ext hE2
  have hT2 := HT2.out.ext hE
  have hB : TabB _ t tb := HB.out.elim fun a h => h.elim fun b h => h.elim fun c h => h.elim fun d h => ⟨a, b, c, d, h.ext hE⟩
  have hM := (hE2.block um ((Array.getElem?_eq_some_iff.1 HM.out).1)).trans HM.out
  have hH := Blk.new w4 106 #[.pointer (some ⟨r, 0, none⟩), .pointer (some ⟨t, 0, none⟩), .slice none 0 0, (.int .i64 (max 0 (min bd 1024))), .int .u64 0, .int .u64 0, .int .u64 0, .int .u64 0, .int .u64 0, .int .u64 0, .int .u64 0, .int .u64 0, .int .u64 0, .int .u64 0, .int .u64 0, .int .u64 0, .int .u64 0, .int .u64 0, .int .u64 0, .int .u64 0, .int .u64 0]
  rw [← hC_zero] at hH
  have hW := hA.trans hE2
  clear HR HT HM HX HX2 HX3 HX4 HB HT2 hE hE2 hA
  go_ret
  exact ⟨_, r, rb, um, t, tb, A, A2, rfl, ⟨hH, hR, hT, ⟨_, _, hM⟩, hB, hT2, stOk0, Hap.out⟩, hM, hW, Nat.le_of_lt z4, Hfr.out⟩
end Go.Proofs.YtcipokldcjappaaGreat

namespace Go.Proofs.YtcipokldcjappaaGreat
open Go.RowKit

/-- may a route be? -/
def goodR (r : Rt) : Bool := decide (0 ≤ r.hop ∧ r.hop ≤ 65535) && saneP r.p
set_option maxRecDepth 100000 in
set_option maxHeartbeats 1000000 in
theorem good_c (hi lo : BitVec 64) (v : Bool) (n hop : Int) (w : World) :
    Calls Tryz.prog 138 #[.agg #[(.int .u64 (BitVec.toNat (hi) : Int)), (.int .u64 (BitVec.toNat (lo) : Int)), .bool v, (.int .i64 (n)), (.int .i64 (hop))]] w fun e w' => e = .returned (.bool (goodR ⟨⟨⟨hi, lo, v⟩, n⟩, hop⟩)) ∧ Ext w w' := by
  by_cases h0 : 0 ≤ hop
  · by_cases h1 : hop ≤ 65535
    · have hg : goodR ⟨⟨⟨hi, lo, v⟩, n⟩, hop⟩ = saneP ⟨⟨hi, lo, v⟩, n⟩ := by unfold goodR; simp [h0, h1]
      rw [hg]
      clear hg
      have d0 : decide (0 ≤ hop) = true := by simpa using h0
      have d1 : decide (hop ≤ 65535) = true := by simpa using h1
      go_enter Tryz.func138, Tryz.ntmps138
      go_wp2_with (go_at_call 59; (with_reducible refine (saneP_c ..).mono ?_); rintro e w1 ⟨rfl, h1⟩; have c_h1 := h1.cell; have f_h1 := h1.frozen; have z_h1_0 := h1.lt (b := w.heap.size) (by first | omega | (simp <;> omega)))
      go_ret
      refine ⟨rfl, ?_⟩
      (repeat (first | with_reducible exact Ext.refl _ | with_reducible assumption | (with_reducible refine Ext.set ?_ (by simp <;> omega) _) | (with_reducible refine Ext.alloc ?_ _) | (with_reducible refine Ext.drew ?_) | (with_reducible refine Ext.trans ?_ (by assumption)) | exact Ext.refl _))
    · have hg : goodR ⟨⟨⟨hi, lo, v⟩, n⟩, hop⟩ = false := by unfold goodR; simp [h1]
      rw [hg]
      clear hg
      have d0 : decide (0 ≤ hop) = true := by simpa using h0
      have d1 : decide (hop ≤ 65535) = false := by simpa using h1
      go_enter Tryz.func138, Tryz.ntmps138
      go_wp2
      go_ret
      refine ⟨rfl, ?_⟩
      (repeat (first | with_reducible exact Ext.refl _ | with_reducible assumption | (with_reducible refine Ext.set ?_ (by simp <;> omega) _) | (with_reducible refine Ext.alloc ?_ _) | (with_reducible refine Ext.drew ?_) | (with_reducible refine Ext.trans ?_ (by assumption)) | exact Ext.refl _))
  · have hg : goodR ⟨⟨⟨hi, lo, v⟩, n⟩, hop⟩ = false := by unfold goodR; simp [h0]
    rw [hg]
    clear hg
    have d0 : decide (0 ≤ hop) = false := by simpa using h0
    go_enter Tryz.func138, Tryz.ntmps138
    go_wp2
    go_ret
    refine ⟨rfl, ?_⟩
    (repeat (first | with_reducible exact Ext.refl _ | with_reducible assumption | (with_reducible refine Ext.set ?_ (by simp <;> omega) _) | (with_reducible refine Ext.alloc ?_ _) | (with_reducible refine Ext.drew ?_) | (with_reducible refine Ext.trans ?_ (by assumption)) | exact Ext.refl _))

set_option maxRecDepth 100000 in
set_option maxHeartbeats 1000000 in
theorem qwhole_c (hi lo : BitVec 64) (v : Bool) (w : World) :
    Calls Tryz.prog 98 #[.agg #[(.int .u64 (BitVec.toNat (hi) : Int)), (.int .u64 (BitVec.toNat (lo) : Int)), .bool v]] w fun e w' => e = .returned ((.agg #[.int .u64 ((wholeP ⟨hi, lo, v⟩).a.hi.toNat : Int), .int .u64 ((wholeP ⟨hi, lo, v⟩).a.lo.toNat : Int), .bool (wholeP ⟨hi, lo, v⟩).a.v6, .int .i64 (wholeP ⟨hi, lo, v⟩).n])) ∧ Ext w w' := by
  go_enter Tryz.func98, Tryz.ntmps98
  go_wp2_with fail
  refine wp_region_ext 5 (by kernel_rfl) (by kernel_rfl) ?_
  dsimp only [List.take, List.drop]
  repeat (first | (apply hold_skip2 rfl; focus (first | (simp only [Act.put, List.setIfInBounds_toArray, List.set_cons_zero, List.set_cons_succ]; exact rfl) | (simp only [Act.put, List.setIfInBounds_toArray, List.set_cons_zero, List.set_cons_succ]) | exact rfl)) | (apply hold_cons2 rfl; (focus (intro w1 hS; have c1 := hS.cell; have f1 := hS.frozen; have z1 := hS.size; go_simp; first | exact rfl | exact ⟨rfl, hS⟩ | (go_at_call 72; (with_reducible refine (width_c ..).mono ?_); rintro e w2 ⟨rfl, rfl⟩; exact ⟨rfl, hS⟩) | (go_at_call 84; (with_reducible refine (ofP_c _ _ _ _ _).mono ?_); rintro e w2 ⟨rfl, h2⟩; exact ⟨rfl, hS.trans h2⟩))); (focus (first | (simp only [Act.put, List.setIfInBounds_toArray, List.set_cons_zero, List.set_cons_succ]; exact rfl) | (simp only [Act.put, List.setIfInBounds_toArray, List.set_cons_zero, List.set_cons_succ]) | exact rfl))))
  refine hold_nil ?_
  rintro w1 hE
  have c_hE := hE.cell
  have f_hE := hE.frozen
  have z_hE_0 := hE.lt (b := w.heap.size) (by first | omega | (simp <;> omega))
  have z_hE_1 := hE.lt (b := w.heap.size + 1) (by first | omega | (simp <;> omega))
  go_wp2
  refine bodyPost_ret (v := (.agg #[.int .u64 ((wholeP ⟨hi, lo, v⟩).a.hi.toNat : Int), .int .u64 ((wholeP ⟨hi, lo, v⟩).a.lo.toNat : Int), .bool (wholeP ⟨hi, lo, v⟩).a.v6, .int .i64 (wholeP ⟨hi, lo, v⟩).n])) ?_ rfl ⟨rfl, ?_⟩
  · simp [results, Tryz.results98, go_sem, wholeP, *]
  · (repeat (first | with_reducible exact Ext.refl _ | with_reducible assumption | (with_reducible refine Ext.set ?_ (by simp <;> omega) _) | (with_reducible refine Ext.alloc ?_ _) | (with_reducible refine Ext.drew ?_) | (with_reducible refine Ext.trans ?_ (by assumption)) | exact Ext.refl _))

/-- may an address wait with a route? -/
def fitsB (a : Ad) (x : Rt) : Bool := saneA a && (goodR x && containsP x.p a)
set_option maxRecDepth 100000 in
set_option maxHeartbeats 1000000 in
theorem fits_c (hi lo : BitVec 64) (v : Bool) (hi2 lo2 : BitVec 64) (v2 : Bool) (n hop : Int) (w : World) :
    Calls Tryz.prog 118 #[.agg #[(.int .u64 (BitVec.toNat (hi) : Int)), (.int .u64 (BitVec.toNat (lo) : Int)), .bool v], .agg #[(.int .u64 (BitVec.toNat (hi2) : Int)), (.int .u64 (BitVec.toNat (lo2) : Int)), .bool v2, (.int .i64 (n)), (.int .i64 (hop))]] w fun e w' => e = .returned (.bool (fitsB ⟨hi, lo, v⟩ ⟨⟨⟨hi2, lo2, v2⟩, n⟩, hop⟩)) ∧ Ext w w' := by
  unfold fitsB
  have hs := fun w => sane_c hi lo v w
  have hg := fun w => good_c hi2 lo2 v2 n hop w
  cases h1 : saneA ⟨hi, lo, v⟩ <;> rw [h1] at hs <;> have Hs := Lib.hid hs <;> clear hs h1
  · clear hg
    go_enter Tryz.func118, Tryz.ntmps118
    go_wp2_with (go_at_call 99; (with_reducible refine (Hs.out _).mono ?_); rintro e w1 ⟨rfl, h1⟩; have c_h1 := h1.cell; have f_h1 := h1.frozen; have z_h1_0 := h1.lt (b := w.heap.size) (by first | omega | (simp <;> omega)); have z_h1_1 := h1.lt (b := w.heap.size + 1) (by first | omega | (simp <;> omega)))
    go_ret
    refine ⟨rfl, ?_⟩
    (repeat (first | with_reducible exact Ext.refl _ | with_reducible assumption | (with_reducible refine Ext.set ?_ (by simp <;> omega) _) | (with_reducible refine Ext.alloc ?_ _) | (with_reducible refine Ext.drew ?_) | (with_reducible refine Ext.trans ?_ (by assumption)) | exact Ext.refl _))
  · cases h2 : goodR ⟨⟨⟨hi2, lo2, v2⟩, n⟩, hop⟩ <;> rw [h2] at hg <;> have Hg := Lib.hid hg <;> clear hg h2
    all_goals
      go_enter Tryz.func118, Tryz.ntmps118
      go_wp2_with (first
        | (go_at_call 99; (with_reducible refine (Hs.out _).mono ?_); rintro e w1 ⟨rfl, h1⟩; have c_h1 := h1.cell; have f_h1 := h1.frozen; have z_h1_0 := h1.lt (b := w.heap.size) (by first | omega | (simp <;> omega)); have z_h1_1 := h1.lt (b := w.heap.size + 1) (by first | omega | (simp <;> omega)))
        | (go_at_call 138; (with_reducible refine (Hg.out _).mono ?_); rintro e w2 ⟨rfl, h2⟩; have c_h2 := h2.cell; have f_h2 := h2.frozen; have z_h2_0 := h2.lt (b := w.heap.size) (by first | omega | (simp <;> omega)); have z_h2_1 := h2.lt (b := w.heap.size + 1) (by first | omega | (simp <;> omega)))
        | (go_at_call 120; (with_reducible refine (containsP_c ..).mono ?_); rintro e w3 ⟨rfl, h3⟩; have c_h3 := h3.cell; have f_h3 := h3.frozen; have z_h3_0 := h3.lt (b := w.heap.size) (by first | omega | (simp <;> omega)); have z_h3_1 := h3.lt (b := w.heap.size + 1) (by first | omega | (simp <;> omega))))
      go_ret
      refine ⟨by simp, ?_⟩
      (repeat (first | with_reducible exact Ext.refl _ | with_reducible assumption | (with_reducible refine Ext.set ?_ (by simp <;> omega) _) | (with_reducible refine Ext.alloc ?_ _) | (with_reducible refine Ext.drew ?_) | (with_reducible refine Ext.trans ?_ (by assumption)) | exact Ext.refl _))

/-- the tree of routes -/
theorem rall_c (r rb : Nat) (w : World) (a0 : w.cell? ⟨r, 0, none⟩ = some (.pointer (some ⟨rb, 0, none⟩))) :
    Calls Tryz.prog 60 #[.pointer (some ⟨r, 0, none⟩)] w fun e w' => e = .returned (.pointer (some ⟨rb, 0, none⟩)) ∧ w = w' := by
  go_enter Tryz.func60, Tryz.ntmps60
  go_wp2
  go_ret
  exact ⟨rfl, rfl⟩

set_option maxRecDepth 100000 in
set_option maxHeartbeats 1000000 in
theorem route_c (hi lo : BitVec 64) (v : Bool) (n hop : Int) (w : World) :
    Calls Tryz.prog 160 #[.agg #[(.int .u64 (BitVec.toNat (hi) : Int)), (.int .u64 (BitVec.toNat (lo) : Int)), .bool v, (.int .i64 (n)), (.int .i64 (hop))]] w fun e w' => e = .returned (.agg #[(.int .u64 (BitVec.toNat (hi) : Int)), (.int .u64 (BitVec.toNat (lo) : Int)), .bool v, (.int .i64 (n)), (.int .i64 (hop))]) ∧ Ext w w' := by
  go_enter Tryz.func160, Tryz.ntmps160
  go_wp2
  refine bodyPost_ret (v := .agg #[(.int .u64 (BitVec.toNat (hi) : Int)), (.int .u64 (BitVec.toNat (lo) : Int)), .bool v, (.int .i64 (n)), (.int .i64 (hop))]) ?_ rfl ⟨rfl, ?_⟩
  · simp [results, Tryz.results160, go_sem, *]
  · (repeat (first | with_reducible exact Ext.refl _ | with_reducible assumption | (with_reducible refine Ext.set ?_ (by simp <;> omega) _) | (with_reducible refine Ext.alloc ?_ _) | (with_reducible refine Ext.drew ?_) | (with_reducible refine Ext.trans ?_ (by assumption)) | exact Ext.refl _))

/-- the routes, as they can be asked -/
structure RibAt (w : World) (r rb : Nat) (A F : Value) (ar : List Nd) (fr : List Nat) (n : Int) : Prop where
  cell : w.cell? ⟨r, 0, none⟩ = some (.pointer (some ⟨rb, 0, none⟩))
  tree : TrieAt w rb A F ar fr n
theorem RibAt.ext {w w' : World} {r rb : Nat} {A F : Value} {ar : List Nd} {fr : List Nat} {n : Int} (h : RibAt w r rb A F ar fr n) (hx : Ext w w') : RibAt w' r rb A F ar fr n :=
  ⟨(hx.cell _ _ (World.block_lt_of_cell? w _ h.cell)).trans h.cell, h.tree.ext hx⟩

set_option maxRecDepth 100000 in
set_option maxHeartbeats 1000000 in
theorem rinside_c (r rb : Nat) (hi lo : BitVec 64) (v : Bool) (n : Int) (A F : Value) (ar : List Nd) (fr : List Nat) (m : Int) (w : World) (hR : RibAt w r rb A F ar fr m) :
    Calls Tryz.prog 167 #[.pointer (some ⟨r, 0, none⟩), .agg #[(.int .u64 (BitVec.toNat (hi) : Int)), (.int .u64 (BitVec.toNat (lo) : Int)), .bool v, (.int .i64 (n))]] w fun e w' => e = .returned (.bool (insideA ar ⟨⟨hi, lo, v⟩, n⟩)) ∧ Ext w w' := by
  have hlt := World.block_lt_of_cell? w _ hR.cell
  have HR := Lib.hid (fun w1 (hx : Ext w w1) => hR.ext hx)
  clear hR
  go_enter Tryz.func167, Tryz.ntmps167
  go_wp2_with fail
  refine wp_region_ext 4 (by kernel_rfl) (by kernel_rfl) ?_
  dsimp only [List.take, List.drop]
  repeat (first | (apply hold_skip2 rfl; focus (first | (simp only [Act.put, List.setIfInBounds_toArray, List.set_cons_zero, List.set_cons_succ]; exact rfl) | (simp only [Act.put, List.setIfInBounds_toArray, List.set_cons_zero, List.set_cons_succ]) | exact rfl)) | (apply hold_cons2 rfl; (focus (intro w1 hS; have c1 := hS.cell; have f1 := hS.frozen; have z1 := hS.size; go_simp; first | exact rfl | exact ⟨rfl, hS⟩ | (go_at_call 60; (with_reducible refine (rall_c r rb _ (HR.out _ (((Ext.refl w).alloc _).trans hS)).cell).mono ?_); rintro e w2 ⟨rfl, rfl⟩; exact ⟨rfl, hS⟩) | (go_at_call 170; (with_reducible refine (insideT_c _ _ _ _ _ _ _ _ _ _ _ (HR.out _ (((Ext.refl w).alloc _).trans hS)).tree).mono ?_); rintro e w2 ⟨rfl, h2⟩; exact ⟨rfl, hS.trans h2⟩))); (focus (first | (simp only [Act.put, List.setIfInBounds_toArray, List.set_cons_zero, List.set_cons_succ]; exact rfl) | (simp only [Act.put, List.setIfInBounds_toArray, List.set_cons_zero, List.set_cons_succ]) | exact rfl))))
  refine hold_nil ?_
  rintro w1 hE
  have c_hE := hE.cell
  have f_hE := hE.frozen
  have z_hE_0 := hE.lt (b := w.heap.size) (by first | omega | (simp <;> omega))
  go_wp2
  go_ret
  refine ⟨rfl, ?_⟩
  (repeat (first | with_reducible exact Ext.refl _ | with_reducible assumption | (with_reducible refine Ext.set ?_ (by simp <;> omega) _) | (with_reducible refine Ext.alloc ?_ _) | (with_reducible refine Ext.drew ?_) | (with_reducible refine Ext.trans ?_ (by assumption)) | exact Ext.refl _))
end Go.Proofs.YtcipokldcjappaaGreat

namespace Go.Proofs.YtcipokldcjappaaGreat
open Go.RowKit

/-- the shortest prefix of an address from one on, inside of which there is none -/
def widFrom (ar : List Nd) (a : Ad) : Nat → Int → Pf
  | 0, n => ofP a n
  | k + 1, n => if insideA ar (ofP a n) then widFrom ar a k (n + 1) else ofP a n
def widest (ar : List Nd) (a : Ad) (least : Int) : Pf := widFrom ar a (Wd a.v6 - cut a.v6 least).toNat (cut a.v6 least)
/-- what is left of it behind some rounds -/
def WidAt (ar : List Nd) (a : Ad) (least : Int) (j : Nat) : Prop := widest ar a least = widFrom ar a ((Wd a.v6 - cut a.v6 least).toNat - j) (cut a.v6 least + j)
theorem WidAt.out {ar : List Nd} {a : Ad} {least : Int} {j : Nat} (h : WidAt ar a least j) (hj : (j : Int) < Wd a.v6 - cut a.v6 least) (hi : insideA ar (ofP a (cut a.v6 least + j)) = false) : widest ar a least = ofP a (cut a.v6 least + j) := by
  unfold WidAt at h
  obtain ⟨k, hk⟩ : ∃ k, (Wd a.v6 - cut a.v6 least).toNat - j = k + 1 := ⟨(Wd a.v6 - cut a.v6 least).toNat - j - 1, by omega⟩
  rw [h, hk, widFrom, hi]; simp
theorem WidAt.next {ar : List Nd} {a : Ad} {least : Int} {j : Nat} (h : WidAt ar a least j) (hj : (j : Int) < Wd a.v6 - cut a.v6 least) (hi : insideA ar (ofP a (cut a.v6 least + j)) = true) : WidAt ar a least (j + 1) := by
  unfold WidAt at h ⊢
  obtain ⟨k, hk⟩ : ∃ k, (Wd a.v6 - cut a.v6 least).toNat - j = k + 1 := ⟨(Wd a.v6 - cut a.v6 least).toNat - j - 1, by omega⟩
  rw [h, hk, widFrom, hi, show (Wd a.v6 - cut a.v6 least).toNat - (j + 1) = k by omega]; simp [Int.add_assoc]
theorem WidAt.last {ar : List Nd} {a : Ad} {least : Int} {j : Nat} (h : WidAt ar a least j) (hj : (j : Int) = Wd a.v6 - cut a.v6 least) : widest ar a least = ofP a (Wd a.v6) := by
  unfold WidAt at h
  rw [h, show (Wd a.v6 - cut a.v6 least).toNat - j = 0 by omega, widFrom, hj]; congr 1; omega
theorem cut_le (v : Bool) (n : Int) : 0 ≤ cut v n ∧ cut v n ≤ Wd v := by
  have := Wd_range v
  unfold cut; omega

set_option maxRecDepth 100000 in
set_option maxHeartbeats 2000000 in
theorem widest_c (r rb : Nat) (hi lo : BitVec 64) (v : Bool) (least : Int) (A F : Value) (ar : List Nd) (fr : List Nat) (m : Int) (w : World) (hR : RibAt w r rb A F ar fr m) :
    Calls Tryz.prog 164 #[.pointer (some ⟨r, 0, none⟩), .agg #[(.int .u64 (BitVec.toNat (hi) : Int)), (.int .u64 (BitVec.toNat (lo) : Int)), .bool v], (.int .i64 (least))] w fun e w' => e = .returned ((.agg #[.int .u64 ((widest ar ⟨hi, lo, v⟩ least).a.hi.toNat : Int), .int .u64 ((widest ar ⟨hi, lo, v⟩ least).a.lo.toNat : Int), .bool (widest ar ⟨hi, lo, v⟩ least).a.v6, .int .i64 (widest ar ⟨hi, lo, v⟩ least).n])) ∧ Ext w w' := by
  have hlt := World.block_lt_of_cell? w _ hR.cell
  have HR := Lib.hid (fun w1 (hx : Ext w w1) => hR.ext hx)
  have hc : max 0 (min least (Wd v)) = cut v least := rfl
  obtain ⟨hc0, hc1⟩ := cut_le v least
  have hw := (Wd_range v).2
  have hstart : WidAt ar ⟨hi, lo, v⟩ least 0 := by unfold WidAt widest; simp
  have Hst := Lib.hid hstart
  clear hR hstart
  go_enter Tryz.func164, Tryz.ntmps164
  go_wp2_with (go_at_call 72; (with_reducible refine (width_c _ _).mono ?_); rintro e w1 ⟨rfl, rfl⟩)
  have Hc := Lib.hid hc
  clear hc
  go_loopw [20] (fun k wr => ∃ j : Nat, (j : Int) ≤ Wd v - cut v least ∧ k = (.int .i64 ((j : Int))) ∧ Ext ((w.alloc (.cells #[(.int .u64 (BitVec.toNat (hi) : Int)), (.int .u64 (BitVec.toNat (lo) : Int)), .bool v] 37)).alloc (.cells #[.int .u64 0, .int .u64 0, .bool false, (.int .i64 (0))] 57)) wr ∧ WidAt ar ⟨hi, lo, v⟩ least j) (fun k _ => (Wd v - cut v least).toNat - (intOf k).toNat)
  case atStart => exact ⟨0, by omega, rfl, Ext.refl _, Hst.out⟩
  case round =>
    obtain ⟨j, hj, rfl, hE, hW⟩ := hrel
    have c_hE := hE.cell; have f_hE := hE.frozen; have z_hE_0 := hE.lt (b := w.heap.size) (by first | omega | (simp <;> omega)); have z_hE_1 := hE.lt (b := w.heap.size + 1) (by first | omega | (simp <;> omega))
    have HE := Lib.hid hE
    have HW := Lib.hid hW
    clear hE hW
    by_cases hl : (j : Int) < Wd v - cut v least
    · have hof := fun w => ofP_c hi lo v (cut v least + j) w
      have hn := fun h => HW.out.next (a := ⟨hi, lo, v⟩) hl h
      have ho := fun h => HW.out.out (a := ⟨hi, lo, v⟩) hl h
      dsimp only at hn ho
      generalize ofP ⟨hi, lo, v⟩ (cut v least + j) = p at hof hn ho
      have hin := fun w1 (hx : Ext w w1) => rinside_c r rb p.a.hi p.a.lo p.a.v6 p.n A F ar fr m w1 (HR.out w1 hx)
      have Hof := Lib.hid hof
      clear hof
      cases hb : insideA ar p <;> (have hin' : ∀ w1, Ext w w1 → Calls _ _ _ _ _ := hin; change ∀ w1, Ext w w1 → Calls _ _ _ w1 (fun e w' => e = .returned (.bool (insideA ar p)) ∧ Ext w1 w') at hin'; rw [hb] at hin'; have Hin := Lib.hid hin'; clear hin hin')
      · have Hfin := Lib.hid (ho hb)
        clear hn ho hb
        go_wp2_with (first
          | (go_at_call 84; (with_reducible refine (Hof.out _).mono ?_); rintro e w1 ⟨rfl, h1⟩; have hx1 := HE.out.trans h1; have Hx1 := Lib.hid hx1; have c_hx1 := hx1.cell; have f_hx1 := hx1.frozen; have z_hx1_0 := hx1.lt (b := w.heap.size) (by first | omega | (simp <;> omega)); have z_hx1_1 := hx1.lt (b := w.heap.size + 1) (by first | omega | (simp <;> omega)); have zz := hx1.size; clear h1 hx1)
          | (go_at_call 167; (with_reducible refine (Hin.out _ ((((Ext.refl w).alloc _).alloc _).trans (Hx1.out.alloc _))).mono ?_); rintro e w2 ⟨rfl, h2⟩; have hx2 := (Hx1.out.alloc _).trans h2; have Hx2 := Lib.hid hx2; have c_h2 := h2.cell; have f_h2 := h2.frozen))
        refine bodyPost_ret (v := (.agg #[.int .u64 ((p).a.hi.toNat : Int), .int .u64 ((p).a.lo.toNat : Int), .bool (p).a.v6, .int .i64 (p).n])) (by simp [results, Tryz.results164, go_sem, *]) rfl ⟨by rw [Hfin.out], ?_⟩
        have := (((Ext.refl w).alloc _).alloc _).trans Hx2.out
        (repeat (first | with_reducible exact Ext.refl _ | with_reducible assumption | (with_reducible refine Ext.set ?_ (by simp <;> omega) _) | (with_reducible refine Ext.alloc ?_ _) | (with_reducible refine Ext.drew ?_) | (with_reducible refine Ext.trans ?_ (by assumption)) | exact Ext.refl _))
      · have Hfin := Lib.hid (hn hb)
        clear hn ho hb
        go_wp2_with (first
          | (go_at_call 84; (with_reducible refine (Hof.out _).mono ?_); rintro e w1 ⟨rfl, h1⟩; have hx1 := HE.out.trans h1; have Hx1 := Lib.hid hx1; have c_hx1 := hx1.cell; have f_hx1 := hx1.frozen; have z_hx1_0 := hx1.lt (b := w.heap.size) (by first | omega | (simp <;> omega)); have z_hx1_1 := hx1.lt (b := w.heap.size + 1) (by first | omega | (simp <;> omega)); have zz := hx1.size; clear h1 hx1)
          | (go_at_call 167; (with_reducible refine (Hin.out _ ((((Ext.refl w).alloc _).alloc _).trans (Hx1.out.alloc _))).mono ?_); rintro e w2 ⟨rfl, h2⟩; have hx2 := (Hx1.out.alloc _).trans h2; have Hx2 := Lib.hid hx2; have c_h2 := h2.cell; have f_h2 := h2.frozen))
        go_roundw
        case rel => exact ⟨j + 1, by omega, by go_num, Hx2.out, Hfin.out⟩
        case measure => simp [intOf]; omega
    · have hfin := HW.out.last (a := ⟨hi, lo, v⟩) (by show (j : Int) = Wd v - cut v least; omega)
      have Hfin := Lib.hid hfin
      have hof := fun w => ofP_c hi lo v (Wd v) w
      dsimp only at hfin
      generalize hp : ofP ⟨hi, lo, v⟩ (Wd v) = p at hof hfin
      have Hp := Lib.hid hp
      have Hof := Lib.hid hof
      clear hof hfin hp
      go_wp2_with (first
          | (go_at_call 84; (with_reducible refine (Hof.out _).mono ?_); rintro e w1 ⟨rfl, h1⟩; have hx1 := HE.out.trans h1; have Hx1 := Lib.hid hx1; have c_hx1 := hx1.cell; have f_hx1 := hx1.frozen; have z_hx1_0 := hx1.lt (b := w.heap.size) (by first | omega | (simp <;> omega)); have z_hx1_1 := hx1.lt (b := w.heap.size + 1) (by first | omega | (simp <;> omega)); have zz := hx1.size; clear h1 hx1))
      refine bodyPost_ret (v := (.agg #[.int .u64 ((p).a.hi.toNat : Int), .int .u64 ((p).a.lo.toNat : Int), .bool (p).a.v6, .int .i64 (p).n])) (by simp [results, Tryz.results164, go_sem, *]) rfl ⟨by rw [Hfin.out, Hp.out], ?_⟩
      have := (((Ext.refl w).alloc _).alloc _).trans Hx1.out
      (repeat (first | with_reducible exact Ext.refl _ | with_reducible assumption | (with_reducible refine Ext.set ?_ (by simp <;> omega) _) | (with_reducible refine Ext.alloc ?_ _) | (with_reducible refine Ext.drew ?_) | (with_reducible refine Ext.trans ?_ (by assumption)) | exact Ext.refl _))

set_option maxRecDepth 100000 in
set_option maxHeartbeats 1000000 in
theorem block_c (r rb : Nat) (hi lo : BitVec 64) (v : Bool) (A F : Value) (ar : List Nd) (fr : List Nat) (m : Int) (w : World) (hR : RibAt w r rb A F ar fr m) :
    Calls Tryz.prog 161 #[.pointer (some ⟨r, 0, none⟩), .agg #[(.int .u64 (BitVec.toNat (hi) : Int)), (.int .u64 (BitVec.toNat (lo) : Int)), .bool v]] w fun e w' => e = .returned ((.agg #[.int .u64 ((widest ar ⟨hi, lo, v⟩ 0).a.hi.toNat : Int), .int .u64 ((widest ar ⟨hi, lo, v⟩ 0).a.lo.toNat : Int), .bool (widest ar ⟨hi, lo, v⟩ 0).a.v6, .int .i64 (widest ar ⟨hi, lo, v⟩ 0).n])) ∧ Ext w w' := by
  have HR := Lib.hid (fun w1 (hx : Ext w w1) => hR.ext hx)
  clear hR
  go_enter Tryz.func161, Tryz.ntmps161
  go_wp2_with (go_at_call 164; (with_reducible refine (widest_c _ _ _ _ _ _ _ _ _ _ _ _ (HR.out _ (((Ext.refl w).alloc _).alloc _))).mono ?_); rintro e w1 ⟨rfl, h1⟩; have c_h1 := h1.cell; have f_h1 := h1.frozen; have z_h1_0 := h1.lt (b := w.heap.size) (by first | omega | (simp <;> omega)); have z_h1_1 := h1.lt (b := w.heap.size + 1) (by first | omega | (simp <;> omega)))
  refine bodyPost_ret (v := (.agg #[.int .u64 ((widest ar ⟨hi, lo, v⟩ 0).a.hi.toNat : Int), .int .u64 ((widest ar ⟨hi, lo, v⟩ 0).a.lo.toNat : Int), .bool (widest ar ⟨hi, lo, v⟩ 0).a.v6, .int .i64 (widest ar ⟨hi, lo, v⟩ 0).n])) (by simp [results, Tryz.results161, go_sem, *]) rfl ⟨rfl, ?_⟩
  (repeat (first | with_reducible exact Ext.refl _ | with_reducible assumption | (with_reducible refine Ext.set ?_ (by simp <;> omega) _) | (with_reducible refine Ext.alloc ?_ _) | (with_reducible refine Ext.drew ?_) | (with_reducible refine Ext.trans ?_ (by assumption)) | exact Ext.refl _))
end Go.Proofs.YtcipokldcjappaaGreat

namespace Go.Proofs.YtcipokldcjappaaGreat
open Go.RowKit Go.Shelf
attribute [local go_sem] Oper.semAt_some

/-- the pairs from the last one on, with their places -/
def revF (l : List Rt) (k : Nat) : Nat × Rt := (l.length - 1 - k, l.getD (l.length - 1 - k) rt0)
def revTo (l : List Rt) (k : Nat) : List (Nat × Rt) := (List.range k).map (revF l)
theorem revTo_succ (l : List Rt) (k : Nat) : revTo l (k + 1) = revTo l k ++ [revF l k] := by simp [revTo, List.range_succ]
theorem revTo_length (l : List Rt) (k : Nat) : (revTo l k).length = k := by simp [revTo]

theorem revTo_one {l : List Rt} {k : Nat} {x : Nat × Rt} (hk : k ≤ l.length) (h : revTo l k = [x]) : l.isEmpty = false ∧ lastOf l = x.2 := by
  have hk1 : k = 1 := by
    have := congrArg List.length h
    rwa [revTo_length] at this
  subst hk1
  have h2 : revF l 0 = x := by simpa [revTo] using h
  refine ⟨?_, ?_⟩
  · cases l with
    | nil => simp at hk
    | cons a b => rfl
  · rw [← h2]
    unfold lastOf revF
    rw [List.getLast?_eq_getElem?, List.getD_eq_getElem?_getD]; simp

set_option maxRecDepth 100000 in
set_option maxHeartbeats 2000000 in
theorem bwd1_in (y Bs n₀ g cap : Nat) (l : List Rt) (hlen : l.length ≤ 1000) (hb : g < n₀) (hBn : Bs < n₀) (J Jx : List (Nat × Rt) → World → Prop)
    (hY : ∀ (pre : List (Nat × Rt)) (x : Nat × Rt) (W : World), J pre W → pre.length < l.length → YieldAt Fence.wide 2 Tryz.prog y #[(.int .i64 ((x.1 : Int))), (.agg #[.int .u64 ((x.2).p.a.hi.toNat : Int), .int .u64 ((x.2).p.a.lo.toNat : Int), .bool (x.2).p.a.v6, .int .i64 (x.2).p.n, .int .i64 (x.2).hop])] W fun e W' =>
      (e = .returned (.bool true) ∧ J (pre ++ [x]) W' ∧ Below n₀ W W') ∨ (e = .returned (.bool false) ∧ Jx (pre ++ [x]) W'))
    (W : World) (hBs : W.cell? ⟨Bs, 0, none⟩ = some (.slice (some ⟨g, 0, none⟩) l.length cap)) (hc : ∀ (i : Nat) (r : Rt), l[i]? = some r → ∀ j, j < 5 → W.cell? ⟨g, i * 5 + j, none⟩ = (rtCells r)[j]?) (h0 : J [] W) :
    CallsIn Fence.wide 3 Tryz.prog 163 #[.func (.yield y) #[] #[], .pointer (some ⟨Bs, 0, none⟩)] W fun e W' => (∃ v, e = .returned v) ∧
      ((∃ ys, ys = revTo l l.length ∧ J ys W') ∨ (∃ pre, (∃ k, k ≤ l.length ∧ pre = revTo l k) ∧ Jx pre W')) := by
  refine callsIn_of_wp Tryz.func163 rfl trivial ?_ rfl
  have HY := Lib.hid hY
  have HC := Lib.hid hc
  clear hY hc
  simp only [Tryz.ntmps163, List.size_toArray, List.length_cons, List.length_nil, Nat.reduceAdd, Nat.reduceSub, Array.replicate_succ, Array.replicate_zero, List.push_toArray, List.append_toArray, List.nil_append, List.cons_append]
  gi_wp2
  gi_loopw [3] (fun i wr => ∃ k : Nat, k ≤ l.length ∧ i = (.int .i64 ((l.length : Int) - 1 - k)) ∧ J (revTo l k) wr ∧ Below n₀ W wr)
    (fun i _ => (intOf i + 1).toNat)
  case atStart => exact ⟨0, Nat.zero_le _, by simp, h0, Below.refl _ _⟩
  case round =>
    obtain ⟨k, hk, rfl, hJs, hnx⟩ := hrel
    have hBx : wr.cell? ⟨Bs, 0, none⟩ = some (.slice (some ⟨g, 0, none⟩) l.length cap) := (hnx.cell (p := ⟨Bs, 0, none⟩) hBn).trans hBs
    by_cases hlt : k < l.length
    · obtain ⟨i, hi⟩ : ∃ i, l.length = i + 1 + k := ⟨l.length - 1 - k, by omega⟩
      obtain ⟨r, hr⟩ : ∃ r, l[i]? = some r := ⟨_, List.getElem?_eq_getElem (by omega)⟩
      have hf : revF l k = (i, r) := by
        unfold revF
        rw [show l.length - 1 - k = i by omega, List.getD_eq_getElem?_getD, hr]; rfl
      have he : (l.length : Int) - 1 - k = (i : Int) := by omega
      obtain ⟨fn, tmps, assign, body, hy, hR⟩ := HY.out _ (revF l k) wr hJs (by rw [revTo_length]; exact hlt)
      rw [hf] at hy hR
      rw [← hf, ← revTo_succ] at hR
      dsimp only at hy
      have hcx := fun j hj => (hnx.cell (p := ⟨g, i * 5 + j, none⟩) hb).trans (HC.out i r hr j hj)
      have e0 : wr.cell? ⟨g, i * 5, none⟩ = some ((.int .u64 (BitVec.toNat (r.p.a.hi) : Int))) := hcx 0 (by omega)
      have e1 : wr.cell? ⟨g, i * 5 + 1, none⟩ = some ((.int .u64 (BitVec.toNat (r.p.a.lo) : Int))) := hcx 1 (by omega)
      have e2 : wr.cell? ⟨g, i * 5 + 2, none⟩ = some (.bool r.p.a.v6) := hcx 2 (by omega)
      have e3 : wr.cell? ⟨g, i * 5 + 3, none⟩ = some ((.int .i64 (r.p.n))) := hcx 3 (by omega)
      have e4 : wr.cell? ⟨g, i * 5 + 4, none⟩ = some ((.int .i64 (r.hop))) := hcx 4 (by omega)
      have hil : i < l.length := by omega
      rw [he]
      have Hi := Lib.hid hi
      have Hr := Lib.hid hR
      have Hn := Lib.hid hnx
      clear hcx hf hr hi he hR hnx hJs
      gi_wp2
      refine Hr.out.mono ?_
      rintro e W3 (⟨rfl, hJ3, hk3⟩ | ⟨rfl, hJx3⟩)
      · have hn3 := Hn.out.trans hk3
        have Hn3 := Lib.hid hn3
        have HJ3 := Lib.hid hJ3
        clear hk3 hn3 hJ3
        gi_wp2
        go_roundw
        case rel => exact ⟨k + 1, by omega, by have := Hi.out; (congr 1 <;> omega), HJ3.out, Hn3.out⟩
        case measure => simp [intOf]
      · have HJ3 := Lib.hid hJx3
        clear hJx3
        gi_wp2
        refine bodyPost_ret (results_none rfl _ _ _) rfl ?_
        exact ⟨⟨_, rfl⟩, .inr ⟨_, ⟨k + 1, by omega, rfl⟩, HJ3.out⟩⟩
    · obtain rfl : k = l.length := by omega
      have he : (l.length : Int) - 1 - l.length = -1 := by omega
      rw [he]
      clear he
      gi_wp2
      go_end0
      exact ⟨⟨_, rfl⟩, .inl ⟨_, rfl, hJs⟩⟩

set_option maxRecDepth 100000 in
set_option maxHeartbeats 1000000 in
theorem bwd1_nil_in (y Bs : Nat) (J : List (Nat × Rt) → World → Prop) (W : World) (hBs : W.cell? ⟨Bs, 0, none⟩ = some (.slice none 0 0)) (h0 : J [] W) :
    CallsIn Fence.wide 3 Tryz.prog 163 #[.func (.yield y) #[] #[], .pointer (some ⟨Bs, 0, none⟩)] W fun e W' => (∃ v, e = .returned v) ∧ J [] W' := by
  refine callsIn_of_wp Tryz.func163 rfl trivial ?_ rfl
  simp only [Tryz.ntmps163, List.size_toArray, List.length_cons, List.length_nil, Nat.reduceAdd, Nat.reduceSub, Array.replicate_succ, Array.replicate_zero, List.push_toArray, List.append_toArray, List.nil_append, List.cons_append]
  gi_wp2
  gi_loopw [3] (fun i wr => i = (.int .i64 (-1)) ∧ J [] wr) (fun _ _ => 0)
  case atStart => exact ⟨rfl, h0⟩
  case round =>
    obtain ⟨rfl, hJs⟩ := hrel
    gi_wp2
    go_end0
    exact ⟨⟨_, rfl⟩, hJs⟩

set_option maxRecDepth 100000 in
set_option maxHeartbeats 1000000 in
theorem backward_c (sv : Value) (w : World) (hs : sv.ownBlock ≠ none ∨ sv = .slice none 0 0 ∨ ∃ g n c, sv = .slice (some ⟨g, 0, none⟩) n c) :
    Calls Tryz.prog 159 #[sv] w fun e w' => e = .returned (.func (.func 163) #[] #[.pointer (some ⟨w.heap.size, 0, none⟩)]) ∧ w' = w.alloc (.cells #[sv] 183) := by
  have : ∃ a n c, sv = .slice a n c := by
    rcases hs with hs | rfl | ⟨g, n, c, rfl⟩
    · cases sv <;> simp [Value.ownBlock] at hs
      exact ⟨_, _, _, rfl⟩
    · exact ⟨_, _, _, rfl⟩
    · exact ⟨_, _, _, rfl⟩
  obtain ⟨a, n, c, rfl⟩ := this
  go_enter Tryz.func159, Tryz.ntmps159
  go_wp2
  go_ret
  exact ⟨rfl, rfl⟩

/-- All pairs, from the last one on; or a part. -/
theorem bwd_stops (Bs n₀ : Nat) (sv : Value) (l : List Rt) (hlen : l.length ≤ 1000) (w : World) (hBn : Bs < n₀) (hn₀ : n₀ ≤ w.heap.size)
    (hc : w.cell? ⟨Bs, 0, none⟩ = some sv) (hO : w.ownsRow 0 212 5 sv l.length (rtsCells l)) (hg : ∀ g, sv.ownBlock = some g → g < n₀) :
    SeqStopsK Fence.wide 3 Tryz.prog 163 #[.pointer (some ⟨Bs, 0, none⟩)] (fun x : Nat × Rt => #[(.int .i64 ((x.1 : Int))), (.agg #[.int .u64 ((x.2).p.a.hi.toNat : Int), .int .u64 ((x.2).p.a.lo.toNat : Int), .bool (x.2).p.a.v6, .int .i64 (x.2).p.n, .int .i64 (x.2).hop])]) (Below n₀) (fun ys => ys = revTo l l.length) (fun pre => ∃ k, k ≤ l.length ∧ pre = revTo l k) l.length w := fun y J Jx W hW _ _ hY h0 => by
  have hB := hW.mono hn₀
  have hc' := (hB.cell (p := ⟨Bs, 0, none⟩) hBn).trans hc
  rcases own_form hO with ⟨rfl, h0'⟩ | ⟨g, cap, rfl, _, _, _⟩
  · obtain rfl : l = [] := List.eq_nil_of_length_eq_zero h0'
    exact (bwd1_nil_in y Bs J W hc' h0).mono fun e W' ⟨he, hj⟩ => ⟨he, .inl ⟨_, rfl, hj⟩⟩
  · have hgn := hg g rfl
    refine (bwd1_in y Bs n₀ g cap l hlen hgn hBn J Jx hY W hc' (fun i r hr j hj => (hB.cell (p := ⟨g, i * 5 + j, none⟩) hgn).trans (rts_cell hO i r hr j hj)) h0).mono ?_
    rintro e W' ⟨he, ⟨ys, rfl, hj⟩ | ⟨pre, ⟨k, hk, rfl⟩, hj⟩⟩
    · exact ⟨he, .inl ⟨_, rfl, hj⟩⟩
    · exact ⟨he, .inr ⟨_, ⟨k, hk, rfl⟩, hj⟩⟩
end Go.Proofs.YtcipokldcjappaaGreat

namespace Go.Proofs.YtcipokldcjappaaGreat
open Go.RowKit Go.Shelf
attribute [local go_sem] Oper.semAt_some

theorem blk_grown {B : Nat} {W W' : World} {row : Option Nat} {b : Nat} {t : TypeId} {cs : Array Value} (h : Blk W b t cs) (hg : W.grownBy W' row) (hr : ∀ r, row = some r → B ≤ r ∧ ∃ o : Obj, W.heap[r]? = some o ∧ o.isCells = false) : Blk W' b t cs := by
  refine (hg.block b h.lt (fun e => ?_)).trans h
  obtain ⟨_, o, ho, hc⟩ := hr b e.symm
  unfold Blk at h
  rw [h] at ho
  cases ho
  cases hc
theorem ext_others {a b : World} (h : Ext a b) : KeepsOthers a b := ⟨h.size, fun i o hi _ => (h.block i (Array.getElem?_eq_some_iff.1 hi).1).trans hi⟩
theorem Blk.putObj {W : World} {b : Nat} {t : TypeId} {cs : Array Value} (h : Blk W b t cs) (D : Nat) (o : Obj) (hne : b ≠ D) : Blk (W.putObj D o) b t cs := (World.putObj_heap_other hne).trans h
theorem own_val {w : World} {base e size n : Nat} {v : Value} {xs : List Value} (h : w.ownsRow base e size v n xs) : v.ownBlock ≠ none ∨ v = .slice none 0 0 ∨ ∃ g n c, v = .slice (some ⟨g, 0, none⟩) n c := by
  rcases own_form h with ⟨rfl, _⟩ | ⟨g, cap, rfl, _⟩
  · exact .inr (.inl rfl)
  · exact .inr (.inr ⟨_, _, _, rfl⟩)
theorem gov_results (tmps : Array Value) (W : World) (b1 b2 : Nat) (x : Rt) (bo : Bool) (h4 : tmps[4]? = some (.pointer (some ⟨b1, 0, none⟩))) (h5 : tmps[5]? = some (.pointer (some ⟨b2, 0, none⟩))) (hb1 : Blk W b1 138 (rtCells x).toArray) (hb2 : Blk W b2 4 #[.bool bo]) :
    (results Tryz.f144 tmps).run Tryz.prog W = .ok (.tuple #[(.agg #[.int .u64 ((x).p.a.hi.toNat : Int), .int .u64 ((x).p.a.lo.toNat : Int), .bool (x).p.a.v6, .int .i64 (x).p.n, .int .i64 (x).hop]), .bool bo]) W := by
  have c0 : W.cell? ⟨b1, 0, none⟩ = some ((.int .u64 (BitVec.toNat (x.p.a.hi) : Int))) := hb1.cell 0
  have c1 : W.cell? ⟨b1, 1, none⟩ = some ((.int .u64 (BitVec.toNat (x.p.a.lo) : Int))) := hb1.cell 1
  have c2 : W.cell? ⟨b1, 2, none⟩ = some (.bool x.p.a.v6) := hb1.cell 2
  have c3 : W.cell? ⟨b1, 3, none⟩ = some ((.int .i64 (x.p.n))) := hb1.cell 3
  have c4 : W.cell? ⟨b1, 4, none⟩ = some ((.int .i64 (x.hop))) := hb1.cell 4
  have c5 : W.cell? ⟨b2, 0, none⟩ = some (.bool bo) := hb2.cell 0
  simp [results, Tryz.results144, go_sem, h4, h5, c0, c1, c2, c3, c4, c5]
set_option maxRecDepth 100000 in
set_option maxHeartbeats 2000000 in
theorem governs_c (r rb : Nat) (hi lo : BitVec 64) (v : Bool) (n : Int) (A F : Value) (ar : List Nd) (fr : List Nat) (m : Int) (w : World) (hR : RibAt w r rb A F ar fr m) :
    Calls Tryz.prog 144 #[.pointer (some ⟨r, 0, none⟩), .agg #[(.int .u64 (BitVec.toNat (hi) : Int)), (.int .u64 (BitVec.toNat (lo) : Int)), .bool v, (.int .i64 (n))]] w
      fun e w' => e = .returned (.tuple #[(.agg #[.int .u64 ((lastOf (aboveL ar ⟨⟨hi, lo, v⟩, n⟩)).p.a.hi.toNat : Int), .int .u64 ((lastOf (aboveL ar ⟨⟨hi, lo, v⟩, n⟩)).p.a.lo.toNat : Int), .bool (lastOf (aboveL ar ⟨⟨hi, lo, v⟩, n⟩)).p.a.v6, .int .i64 (lastOf (aboveL ar ⟨⟨hi, lo, v⟩, n⟩)).p.n, .int .i64 (lastOf (aboveL ar ⟨⟨hi, lo, v⟩, n⟩)).hop]), .bool (!(aboveL ar ⟨⟨hi, lo, v⟩, n⟩).isEmpty)]) ∧ Ext w w' := by
  have HR := Lib.hid (fun w1 (hx : Ext w w1) => hR.ext hx)
  have hlt := World.block_lt_of_cell? w _ hR.cell
  clear hR
  refine (callsIn_wide (n := 5)).1 ?_
  refine callsIn_of_wp_marks Tryz.func144 rfl trivial ?_ rfl
  simp only [Tryz.ntmps144, List.size_toArray, List.length_cons, List.length_nil, Nat.reduceAdd, Nat.reduceSub, Array.replicate_succ, Array.replicate_zero, List.push_toArray, List.append_toArray, List.nil_append, List.cons_append]
  refine wpIn_wide.2 ?_
  go_wp2_with fail
  have hE0 : Ext w ((((w.alloc (.cells #[(.int .u64 (BitVec.toNat (hi) : Int)), (.int .u64 (BitVec.toNat (lo) : Int)), .bool v, (.int .i64 (n))] 57)).alloc (.cells #[.int .u64 0, .int .u64 0, .bool false, (.int .i64 (0)), (.int .i64 (0))] 138)).alloc (.cells #[.bool false] 4)).drew) := (((((Ext.refl w).alloc _).alloc _).alloc _).drew)
  have HE0 := Lib.hid hE0
  clear hE0
  go_region_held3 (fun w' => w'.cell? ⟨w.heap.size, 0, none⟩ = some ((.int .u64 (BitVec.toNat (hi) : Int))) ∧ w'.cell? ⟨w.heap.size, 1, none⟩ = some ((.int .u64 (BitVec.toNat (lo) : Int))) ∧ w'.cell? ⟨w.heap.size, 2, none⟩ = some (.bool v) ∧ w'.cell? ⟨w.heap.size, 3, none⟩ = some ((.int .i64 (n))))
    (first | go_keep | (go_split_ands; refine ⟨?_, ?_, ?_, ?_⟩ <;> (rw [hx.cell _ _ (by first | assumption | (simp <;> omega))]; assumption)))
    (first
     | (go_at_call 60; (with_reducible refine (rall_c r rb _ (HR.out _ HE0.out).cell).mono ?_); rintro e w1 ⟨rfl, rfl⟩)
     | (go_at_call 92; (with_reducible refine (above_c rb hi lo v n A F ar fr m _ (HR.out _ HE0.out).tree).mono ?_); rintro e w2 ⟨sv, rfl, hx, hO⟩; have z2 : w.heap.size < w2.heap.size := hx.lt (by simp; omega); have HX := Lib.hid hx; have HO := Lib.hid hO; clear hO)
     | (go_at_call 159; (with_reducible refine (backward_c sv _ (own_val HO.out)).mono ?_); rintro e w3 ⟨rfl, rfl⟩))
  rename_i hHeld
  clear hHeld
  obtain ⟨W0, hW0⟩ : ∃ W0, w2.alloc (.cells #[sv] 183) = W0 := ⟨_, rfl⟩
  have hz0 : W0.heap.size = w2.heap.size + 1 := by rw [← hW0]; simp
  have hx0 : Ext w2 W0 := by rw [← hW0]; exact (Ext.refl _).alloc _
  have hc0 : W0.cell? ⟨w2.heap.size, 0, none⟩ = some sv := by rw [← hW0]; exact (Blk.new w2 183 #[sv]).cell 0
  rw [hW0]
  have hb1 : Blk W0 (w.heap.size + 1) 138 #[.int .u64 0, .int .u64 0, .bool false, (.int .i64 (0)), (.int .i64 (0))] := ((((Blk.new' (w.alloc _) (w.heap.size + 1) _ _ (by simp)).ext ((Ext.refl _).alloc _)).ext ((Ext.refl _).drew)).ext HX.out).ext hx0
  have hb2 : Blk W0 (w.heap.size + 1 + 1) 4 #[.bool false] := (((Blk.new' ((w.alloc _).alloc _) (w.heap.size + 1 + 1) _ _ (by simp)).ext ((Ext.refl _).drew)).ext HX.out).ext hx0
  have hBW : Below w.heap.size w W0 := (HE0.out.trans HX.out).trans hx0
  have hO0 := own_base (own_ext HO.out hx0) (Nat.zero_le _)
  have hgs : ∀ g, sv.ownBlock = some g → g < W0.heap.size := fun g hg => own_lt hO0 hg
  have hlen := aboveL_length ar ⟨⟨hi, lo, v⟩, n⟩
  generalize hl : aboveL ar ⟨⟨hi, lo, v⟩, n⟩ = l at hO0 hlen
  have Hl := Lib.hid hl
  clear hl
  clear HX HO hx hx0 HE0
  have Hb1 := Lib.hid hb1
  have Hb2 := Lib.hid hb2
  have HBW := Lib.hid hBW
  have hz1 := hb2.lt
  clear hb1 hb2 hBW
  go_wp2
  refine (wpIn_wide (n := 4)).1 ?_
  refine wpIn_rangeFunc_ownH (α := Nat × Rt) rfl (by omega) (gf := 163) (lb := #[.pointer (some ⟨w2.heap.size, 0, none⟩)]) rfl trivial
    (enters_of Tryz.func163 (by kernel_rfl) rfl)
    (bwd_stops w2.heap.size W0.heap.size sv l (by omega) W0 (by omega) (Nat.le_refl _) hc0 hO0 hgs) belowK_t (belowK_b (Nat.le_refl _)) (Below.refl _ _) (fun _ => rfl)
    (fun pre W => W0.heap.size ≤ W.heap.size ∧ pre = [] ∧ Below w.heap.size w W ∧ Blk W (w.heap.size + 1) 138 #[.int .u64 0, .int .u64 0, .bool false, (.int .i64 (0)), (.int .i64 (0))] ∧ Blk W (w.heap.size + 1 + 1) 4 #[.bool false])
    (fun c pre W => c = .ret ∧ ∃ x, pre = [x] ∧ Below w.heap.size w W ∧ Blk W (w.heap.size + 1) 138 (rtCells x.2).toArray ∧ Blk W (w.heap.size + 1 + 1) 4 #[.bool true])
    (fun pre A B row hs hg hr => ⟨Nat.le_trans hs.1 hg.size, hs.2.1, hs.2.2.1.grown hg hs.2.2.1.size (fun k e => by have := (hr k e).1; omega), blk_grown hs.2.2.2.1 hg hr, blk_grown hs.2.2.2.2 hg hr⟩)
    (fun c pre A B row hs hg hr => ⟨hs.1, hs.2.elim fun x hx => ⟨x, hx.1, hx.2.1.grown hg hx.2.1.size (fun k e => by have := (hr k e).1; omega), blk_grown hx.2.2.1 hg hr, blk_grown hx.2.2.2 hg hr⟩⟩)
    ⟨Nat.le_refl _, rfl, HBW.out, Hb1.out, Hb2.out⟩
    (fun x a' W => ∃ Bx, w.heap.size + 1 + 1 < Bx ∧ Blk W Bx 212 (rtCells x.2).toArray ∧ a' = { tmps := #[.pointer (some ⟨r, 0, none⟩), (.agg #[.int .u64 (((⟨⟨hi, lo, v⟩, n⟩ : Pf)).a.hi.toNat : Int), .int .u64 (((⟨⟨hi, lo, v⟩, n⟩ : Pf)).a.lo.toNat : Int), .bool ((⟨⟨hi, lo, v⟩, n⟩ : Pf)).a.v6, .int .i64 ((⟨⟨hi, lo, v⟩, n⟩ : Pf)).n]), undef, .pointer (some ⟨w.heap.size, 0, none⟩), .pointer (some ⟨w.heap.size + 1, 0, none⟩), .pointer (some ⟨w.heap.size + 1 + 1, 0, none⟩), undef, .pointer (some ⟨Bx, 0, none⟩), .pointer (some ⟨r, 0, none⟩), .pointer (some ⟨rb, 0, none⟩), (.agg #[.int .u64 (((⟨⟨hi, lo, v⟩, n⟩ : Pf)).a.hi.toNat : Int), .int .u64 (((⟨⟨hi, lo, v⟩, n⟩ : Pf)).a.lo.toNat : Int), .bool ((⟨⟨hi, lo, v⟩, n⟩ : Pf)).a.v6, .int .i64 ((⟨⟨hi, lo, v⟩, n⟩ : Pf)).n]), sv, .func (.func 163) #[] #[.pointer (some ⟨w2.heap.size, 0, none⟩)], (.int .i64 ((x.1 : Int))), (.agg #[.int .u64 ((x.2).p.a.hi.toNat : Int), .int .u64 ((x.2).p.a.lo.toNat : Int), .bool (x.2).p.a.v6, .int .i64 (x.2).p.n, .int .i64 (x.2).hop]), undef, undef, undef], defers := [] })
    (fun x a' u A B row hs hg hr => hs.elim fun Bx h => ⟨Bx, h.1, blk_grown h.2.1 hg hr, h.2.2⟩)
    ?assign ?body ?done ?stop
  case assign =>
    rintro y pre x W K ⟨hzW, hpre, hB, h1, h2⟩ hK
    have Hpre := Lib.hid hpre
    clear hpre
    have Hk := Lib.hid hK
    have hz2 := h2.lt
    have HB := Lib.hid hB
    have H1 := Lib.hid h1
    have H2 := Lib.hid h2
    clear hK hB h1 h2
    gi_wp2
    exact Hk.out _ _ ((KeepsOthers.alloc _ _).from _) ((Below.refl _ W).alloc hzW _) ⟨by simp; omega, Hpre.out, Ext.alloc HB.out _, H1.out.ext ((Ext.refl _).alloc _), H2.out.ext ((Ext.refl _).alloc _)⟩ ⟨W.heap.size, hz2, Blk.new _ _ _, rfl⟩
  case body =>
    rintro y pre x a' W hy ⟨r0, hr0⟩ ⟨hzW, hpre, hB, h1, h2⟩ ⟨Bx, hBx, h3, rfl⟩ _
    have Hpre := Lib.hid hpre
    have c0 : W.cell? ⟨Bx, 0, none⟩ = some ((.int .u64 (BitVec.toNat (x.2.p.a.hi) : Int))) := h3.cell 0
    have c1 : W.cell? ⟨Bx, 1, none⟩ = some ((.int .u64 (BitVec.toNat (x.2.p.a.lo) : Int))) := h3.cell 1
    have c2 : W.cell? ⟨Bx, 2, none⟩ = some (.bool x.2.p.a.v6) := h3.cell 2
    have c3 : W.cell? ⟨Bx, 3, none⟩ = some ((.int .i64 (x.2.p.n))) := h3.cell 3
    have c4 : W.cell? ⟨Bx, 4, none⟩ = some ((.int .i64 (x.2.hop))) := h3.cell 4
    have hz2 := h2.lt
    have HB := Lib.hid hB
    have H1 := Lib.hid h1
    have H2 := Lib.hid h2
    clear hB h1 h2 h3 hr0 hpre
    gi_wp2_with fail
    refine ⟨trivial, ?_⟩
    have hT := (callsIn_wide (n := 1)).2 (route_c x.2.p.a.hi x.2.p.a.lo x.2.p.a.v6 x.2.p.n x.2.hop W)
    refine (CallsIn.inRound y hT).mono ?_
    rintro e W1 ⟨rfl, hx⟩
    have hb1 := H1.out.ext hx
    have hb2 := H2.out.ext hx
    have e0 : ∀ j, W1.frozen? ⟨w.heap.size + 1, j, none⟩ = false := (fun j => hb1.frozen j)
    have e1 : ∀ j, W1.frozen? ⟨w.heap.size + 1 + 1, j, none⟩ = false := (fun j => hb2.frozen j)
    have d0 : W1.cell? ⟨w.heap.size + 1, 0, none⟩ = some (.int .u64 0) := hb1.cell 0
    have d1 : W1.cell? ⟨w.heap.size + 1, 1, none⟩ = some (.int .u64 0) := hb1.cell 1
    have d2 : W1.cell? ⟨w.heap.size + 1, 2, none⟩ = some (.bool false) := hb1.cell 2
    have d3 : W1.cell? ⟨w.heap.size + 1, 3, none⟩ = some ((.int .i64 (0))) := hb1.cell 3
    have d4 : W1.cell? ⟨w.heap.size + 1, 4, none⟩ = some ((.int .i64 (0))) := hb1.cell 4
    have d5 : W1.cell? ⟨w.heap.size + 1 + 1, 0, none⟩ = some (.bool false) := hb2.cell 0
    have HX := Lib.hid hx
    have Hc1 := Lib.hid hb1
    have Hc2 := Lib.hid hb2
    clear hx hb1 hb2 hT
    gi_wp2
    refine ⟨?_, rfl, x, by rw [Hpre.out]; rfl, ?_, ?_, ?_⟩
    · exact ((((((((ext_others HX.out).trans (KeepsOthers.setCell _ _ _)).trans (KeepsOthers.setCell _ _ _)).trans (KeepsOthers.setCell _ _ _)).trans (KeepsOthers.setCell _ _ _)).trans (KeepsOthers.setCell _ _ _)).trans (KeepsOthers.setCell _ _ _))).from _
    · have h1 : Ext w W := HB.out
      have := h1.trans HX.out
      show Ext _ _
      (repeat (first | with_reducible exact Ext.refl _ | with_reducible assumption | (with_reducible refine Ext.set ?_ (by simp <;> omega) _) | (with_reducible refine Ext.alloc ?_ _) | (with_reducible refine Ext.drew ?_) | (with_reducible refine Ext.trans ?_ (by assumption)) | exact Ext.refl _))
    · exact (((((Hc1.out.set 0 _).set 1 _).set 2 _).set 3 _).set 4 _).far (by simp) _
    · exact (((((Hc2.out.far (by simp) _).far (by simp) _).far (by simp) _).far (by simp) _).far (by simp) _).set 0 _
  case done =>
    rintro D xs W hD hxs ⟨hzW, hpre, hB, h1, h2⟩ hK
    have hl0 : l = [] := by
      rw [hpre] at hxs
      have := congrArg List.length hxs
      rw [revTo_length] at this
      exact List.eq_nil_of_length_eq_zero this.symm
    subst hl0
    have d0 : W.cell? ⟨w.heap.size + 1, 0, none⟩ = some (.int .u64 0) := h1.cell 0
    have d1 : W.cell? ⟨w.heap.size + 1, 1, none⟩ = some (.int .u64 0) := h1.cell 1
    have d2 : W.cell? ⟨w.heap.size + 1, 2, none⟩ = some (.bool false) := h1.cell 2
    have d3 : W.cell? ⟨w.heap.size + 1, 3, none⟩ = some ((.int .i64 (0))) := h1.cell 3
    have d4 : W.cell? ⟨w.heap.size + 1, 4, none⟩ = some ((.int .i64 (0))) := h1.cell 4
    have d5 : W.cell? ⟨w.heap.size + 1 + 1, 0, none⟩ = some (.bool false) := h2.cell 0
    have e0 : ∀ j, W.frozen? ⟨w.heap.size + 1, j, none⟩ = false := (fun j => h1.frozen j)
    have e1 : ∀ j, W.frozen? ⟨w.heap.size + 1 + 1, j, none⟩ = false := (fun j => h2.frozen j)
    have HB := Lib.hid hB
    have HK := Lib.hid hK
    have H1 := Lib.hid h1
    have H2 := Lib.hid h2
    have hzD := h2.lt
    clear hB h1 h2 hK hxs hpre hO0
    go_wp2
    refine ⟨by simp, .inl ⟨_, _, rfl, run_takeDeferred ((((((((KeepsOthers.setCell _ _ _).trans (KeepsOthers.setCell _ _ _)).trans (KeepsOthers.setCell _ _ _)).trans (KeepsOthers.setCell _ _ _)).trans (KeepsOthers.setCell _ _ _)).trans (KeepsOthers.setCell _ _ _))).same D _ HK.out rfl), ?_⟩⟩
    have hz := (Array.getElem?_eq_some_iff.1 HK.out).1
    have hE : Ext w ((((((W.setCell ⟨w.heap.size + 1, 0, none⟩ (.int .u64 0)).setCell ⟨w.heap.size + 1, 1, none⟩ (.int .u64 0)).setCell ⟨w.heap.size + 1, 2, none⟩ (.bool false)).setCell ⟨w.heap.size + 1, 3, none⟩ ((.int .i64 (0)))).setCell ⟨w.heap.size + 1, 4, none⟩ ((.int .i64 (0)))).setCell ⟨w.heap.size + 1 + 1, 0, none⟩ (.bool false)) := by
      have : Ext w W := HB.out
      (repeat (first | with_reducible exact Ext.refl _ | with_reducible assumption | (with_reducible refine Ext.set ?_ (by simp <;> omega) _) | (with_reducible refine Ext.alloc ?_ _) | (with_reducible refine Ext.drew ?_) | (with_reducible refine Ext.trans ?_ (by assumption)) | exact Ext.refl _))
    refine ⟨.tuple #[(.agg #[.int .u64 ((rt0).p.a.hi.toNat : Int), .int .u64 ((rt0).p.a.lo.toNat : Int), .bool (rt0).p.a.v6, .int .i64 (rt0).p.n, .int .i64 (rt0).hop]), .bool false], ?_, ?_, ?_⟩
    · refine gov_results _ _ (w.heap.size + 1) (w.heap.size + 1 + 1) rt0 false rfl rfl ?_ ?_
      · exact Blk.putObj ((((((H1.out.set 0 _).set 1 _).set 2 _).set 3 _).set 4 _).far (by simp) _) D _ (by omega)
      · exact Blk.putObj ((((((H2.out.far (by simp) _).far (by simp) _).far (by simp) _).far (by simp) _).far (by simp) _).set 0 _) D _ (by omega)
    · rw [Hl.out]; rfl
    · exact hE.grown (grownBy_putObj' _ D _) hE.size (fun k e => by cases e; omega)
  case stop =>
    rintro D c pre W hD ⟨k, hkl, hk⟩ ⟨rfl, x, hpre, hB, h1, h2⟩ hK
    obtain ⟨hne, hlast⟩ := revTo_one hkl (hk.symm.trans hpre)
    have HB := Lib.hid hB
    have HK := Lib.hid hK
    have H1 := Lib.hid h1
    have H2 := Lib.hid h2
    have Hne := Lib.hid hne
    have Hlast := Lib.hid hlast
    have hzD := h2.lt
    clear hB h1 h2 hK hpre hk hkl hO0 hne hlast
    gi_wp2
    refine ⟨by simp, .inl ⟨_, _, rfl, run_takeDeferred HK.out, ?_⟩⟩
    have hz := (Array.getElem?_eq_some_iff.1 HK.out).1
    have hE : Ext w W := HB.out
    refine ⟨.tuple #[(.agg #[.int .u64 ((x.2).p.a.hi.toNat : Int), .int .u64 ((x.2).p.a.lo.toNat : Int), .bool (x.2).p.a.v6, .int .i64 (x.2).p.n, .int .i64 (x.2).hop]), .bool true], ?_, ?_, ?_⟩
    · refine gov_results _ _ (w.heap.size + 1) (w.heap.size + 1 + 1) x.2 true rfl rfl ?_ ?_
      · exact Blk.putObj H1.out D _ (by omega)
      · exact Blk.putObj H2.out D _ (by omega)
    · rw [Hl.out, Hlast.out, Hne.out]; rfl
    · exact hE.grown (grownBy_putObj' _ D _) hE.size (fun k e => by cases e; omega)
end Go.Proofs.YtcipokldcjappaaGreat

namespace Go.Proofs.YtcipokldcjappaaGreat
open Go.RowKit

/-- is there a route that covers a prefix; the prefix with that route's hop -/
def govB (ar : List Nd) (p : Pf) : Bool := !(aboveL ar p).isEmpty
def govR (ar : List Nd) (p : Pf) : Rt := if govB ar p then ⟨p, (lastOf (aboveL ar p)).hop⟩ else rt0
theorem lastOf_nil {l : List Rt} (h : l.isEmpty = true) : lastOf l = rt0 := by
  cases l with
  | nil => rfl
  | cons a b => cases h

set_option maxRecDepth 100000 in
set_option maxHeartbeats 2000000 in
theorem governed_c (r rb : Nat) (hi lo : BitVec 64) (v : Bool) (n : Int) (A F : Value) (ar : List Nd) (fr : List Nat) (m : Int) (w : World) (hR : RibAt w r rb A F ar fr m) :
    Calls Tryz.prog 124 #[.pointer (some ⟨r, 0, none⟩), .agg #[(.int .u64 (BitVec.toNat (hi) : Int)), (.int .u64 (BitVec.toNat (lo) : Int)), .bool v, (.int .i64 (n))]] w
      fun e w' => e = .returned (.tuple #[(.agg #[.int .u64 ((govR ar ⟨⟨hi, lo, v⟩, n⟩).p.a.hi.toNat : Int), .int .u64 ((govR ar ⟨⟨hi, lo, v⟩, n⟩).p.a.lo.toNat : Int), .bool (govR ar ⟨⟨hi, lo, v⟩, n⟩).p.a.v6, .int .i64 (govR ar ⟨⟨hi, lo, v⟩, n⟩).p.n, .int .i64 (govR ar ⟨⟨hi, lo, v⟩, n⟩).hop]), .bool (govB ar ⟨⟨hi, lo, v⟩, n⟩)]) ∧ Ext w w' := by
  have hg := fun w1 (hx : Ext w w1) => governs_c r rb hi lo v n A F ar fr m w1 (hR.ext hx)
  clear hR
  cases he : (aboveL ar ⟨⟨hi, lo, v⟩, n⟩).isEmpty
  · have h1 : govR ar ⟨⟨hi, lo, v⟩, n⟩ = ⟨⟨⟨hi, lo, v⟩, n⟩, (lastOf (aboveL ar ⟨⟨hi, lo, v⟩, n⟩)).hop⟩ := by unfold govR govB; simp [he]
    have h2 : govB ar ⟨⟨hi, lo, v⟩, n⟩ = true := by unfold govB; simp [he]
    rw [h1, h2]
    rw [he] at hg
    generalize lastOf (aboveL ar ⟨⟨hi, lo, v⟩, n⟩) = x at hg ⊢
    have Hg := Lib.hid hg
    clear hg he h1 h2
    go_enter Tryz.func124, Tryz.ntmps124
    go_wp2_with (go_at_call 144; (with_reducible refine (Hg.out _ (((Ext.refl w).alloc _).alloc _)).mono ?_); rintro e w1 ⟨rfl, h1⟩; have c_h1 := h1.cell; have f_h1 := h1.frozen; have z_h1_0 := h1.lt (b := w.heap.size) (by first | omega | (simp <;> omega)); have z_h1_1 := h1.lt (b := w.heap.size + 1) (by first | omega | (simp <;> omega)))
    refine bodyPost_ret (v := .tuple #[.agg #[(.int .u64 (BitVec.toNat (hi) : Int)), (.int .u64 (BitVec.toNat (lo) : Int)), .bool v, (.int .i64 (n)), (.int .i64 (x.hop))], .bool true]) (by simp [results, Tryz.results124, go_sem, *]) rfl ⟨rfl, ?_⟩
    (repeat (first | with_reducible exact Ext.refl _ | with_reducible assumption | (with_reducible refine Ext.set ?_ (by simp <;> omega) _) | (with_reducible refine Ext.alloc ?_ _) | (with_reducible refine Ext.drew ?_) | (with_reducible refine Ext.trans ?_ (by assumption)) | exact Ext.refl _))
  · have h0 := lastOf_nil he
    have h1 : govR ar ⟨⟨hi, lo, v⟩, n⟩ = rt0 := by unfold govR govB; simp [he]
    have h2 : govB ar ⟨⟨hi, lo, v⟩, n⟩ = false := by unfold govB; simp [he]
    rw [h1, h2]
    rw [he, h0] at hg
    have Hg := Lib.hid hg
    clear hg he h1 h2 h0
    go_enter Tryz.func124, Tryz.ntmps124
    go_wp2_with (go_at_call 144; (with_reducible refine (Hg.out _ (((Ext.refl w).alloc _).alloc _)).mono ?_); rintro e w1 ⟨rfl, h1⟩; have c_h1 := h1.cell; have f_h1 := h1.frozen; have z_h1_0 := h1.lt (b := w.heap.size) (by first | omega | (simp <;> omega)); have z_h1_1 := h1.lt (b := w.heap.size + 1) (by first | omega | (simp <;> omega)))
    refine bodyPost_ret (v := .tuple #[(.agg #[.int .u64 ((rt0).p.a.hi.toNat : Int), .int .u64 ((rt0).p.a.lo.toNat : Int), .bool (rt0).p.a.v6, .int .i64 (rt0).p.n, .int .i64 (rt0).hop]), .bool false]) (by simp [results, Tryz.results124, go_sem, *]) rfl ⟨rfl, ?_⟩
    (repeat (first | with_reducible exact Ext.refl _ | with_reducible assumption | (with_reducible refine Ext.set ?_ (by simp <;> omega) _) | (with_reducible refine Ext.alloc ?_ _) | (with_reducible refine Ext.drew ?_) | (with_reducible refine Ext.trans ?_ (by assumption)) | exact Ext.refl _))

theorem governed_p (r rb : Nat) (p : Pf) (A F : Value) (ar : List Nd) (fr : List Nat) (m : Int) (w : World) (hR : RibAt w r rb A F ar fr m) :
    Calls Tryz.prog 124 #[.pointer (some ⟨r, 0, none⟩), (.agg #[.int .u64 ((p).a.hi.toNat : Int), .int .u64 ((p).a.lo.toNat : Int), .bool (p).a.v6, .int .i64 (p).n])] w fun e w' => e = .returned (.tuple #[(.agg #[.int .u64 ((govR ar p).p.a.hi.toNat : Int), .int .u64 ((govR ar p).p.a.lo.toNat : Int), .bool (govR ar p).p.a.v6, .int .i64 (govR ar p).p.n, .int .i64 (govR ar p).hop]), .bool (govB ar p)]) ∧ Ext w w' := governed_c r rb p.a.hi p.a.lo p.a.v6 p.n A F ar fr m w hR
/-- the leaf of an address; the address alone -/
def leafP (ar : List Nd) (a : Ad) : Pf := widest ar a 0

set_option maxRecDepth 100000 in
set_option maxHeartbeats 2000000 in
theorem exact_c (r rb : Nat) (hi lo : BitVec 64) (v : Bool) (A F : Value) (ar : List Nd) (fr : List Nat) (m : Int) (w : World) (hR : RibAt w r rb A F ar fr m) :
    Calls Tryz.prog 101 #[.pointer (some ⟨r, 0, none⟩), .agg #[(.int .u64 (BitVec.toNat (hi) : Int)), (.int .u64 (BitVec.toNat (lo) : Int)), .bool v]] w
      fun e w' => e = .returned (.tuple #[(.agg #[.int .u64 ((govR ar (wholeP ⟨hi, lo, v⟩)).p.a.hi.toNat : Int), .int .u64 ((govR ar (wholeP ⟨hi, lo, v⟩)).p.a.lo.toNat : Int), .bool (govR ar (wholeP ⟨hi, lo, v⟩)).p.a.v6, .int .i64 (govR ar (wholeP ⟨hi, lo, v⟩)).p.n, .int .i64 (govR ar (wholeP ⟨hi, lo, v⟩)).hop]), .bool (govB ar (wholeP ⟨hi, lo, v⟩))]) ∧ Ext w w' := by
  have HR := Lib.hid (fun w1 (hx : Ext w w1) => hR.ext hx)
  clear hR
  have hof : ∀ w, Calls Tryz.prog 84 #[.agg #[(.int .u64 (BitVec.toNat (hi) : Int)), (.int .u64 (BitVec.toNat (lo) : Int)), .bool v], (.int .i64 (Wd v))] w fun e w' => e = .returned ((.agg #[.int .u64 ((wholeP ⟨hi, lo, v⟩).a.hi.toNat : Int), .int .u64 ((wholeP ⟨hi, lo, v⟩).a.lo.toNat : Int), .bool (wholeP ⟨hi, lo, v⟩).a.v6, .int .i64 (wholeP ⟨hi, lo, v⟩).n])) ∧ Ext w w' := fun w => ofP_c hi lo v (Wd v) w
  generalize hp : wholeP ⟨hi, lo, v⟩ = p at hof ⊢
  have Hof := Lib.hid hof
  clear hof hp
  go_enter Tryz.func101, Tryz.ntmps101
  go_wp2_with fail
  have HE0 := Lib.hid (show Ext w ((((w.alloc (.cells #[(.int .u64 (BitVec.toNat (hi) : Int)), (.int .u64 (BitVec.toNat (lo) : Int)), .bool v] 37)).alloc (.cells #[.int .u64 0, .int .u64 0, .bool false, (.int .i64 (0)), (.int .i64 (0))] 138)).drew)) from ((((Ext.refl w).alloc _).alloc _).drew))
  go_region_held3 (fun w' => w'.cell? ⟨w.heap.size, 0, none⟩ = some ((.int .u64 (BitVec.toNat (hi) : Int))) ∧ w'.cell? ⟨w.heap.size, 1, none⟩ = some ((.int .u64 (BitVec.toNat (lo) : Int))) ∧ w'.cell? ⟨w.heap.size, 2, none⟩ = some (.bool v) ∧ w.heap.size + 1 < w'.heap.size)
    (first | go_keep | (go_split_ands; refine ⟨?_, ?_, ?_, ?_⟩ <;> first | (rw [hx.cell _ _ (by first | assumption | (simp <;> omega))]; assumption) | exact hx.lt (by first | assumption | (simp <;> omega))))
    (first
     | (go_at_call 72; (with_reducible refine (width_c _ _).mono ?_); rintro e w1 ⟨rfl, rfl⟩)
     | (go_at_call 84; (with_reducible refine (Hof.out _).mono ?_); rintro e w1 ⟨rfl, hx⟩; have z1 : w.heap.size < w1.heap.size := hx.lt (by simp; omega); have HX := Lib.hid hx)
     | (go_at_call 124; (with_reducible refine (governed_p r rb p A F ar fr m _ (HR.out _ (HE0.out.trans HX.out))).mono ?_); rintro e w2 ⟨rfl, hx⟩; have z2 : w.heap.size < w2.heap.size := hx.lt z1; have HX2 := Lib.hid hx; have hb := (((Blk.new' (w.alloc _) (w.heap.size + 1) _ _ (by simp)).ext ((Ext.refl _).drew)).ext HX.out).ext hx; have d0 : w2.cell? ⟨w.heap.size + 1, 0, none⟩ = some (.int .u64 0) := hb.cell 0; have d1 : w2.cell? ⟨w.heap.size + 1, 1, none⟩ = some (.int .u64 0) := hb.cell 1; have d2 : w2.cell? ⟨w.heap.size + 1, 2, none⟩ = some (.bool false) := hb.cell 2; have d3 : w2.cell? ⟨w.heap.size + 1, 3, none⟩ = some ((.int .i64 (0))) := hb.cell 3; have d4 : w2.cell? ⟨w.heap.size + 1, 4, none⟩ = some ((.int .i64 (0))) := hb.cell 4; have e0 : ∀ j, w2.frozen? ⟨w.heap.size + 1, j, none⟩ = false := (fun j => hb.frozen j); have Hb := Lib.hid hb; clear hb))
  go_wp2
  refine bodyPost_ret (v := .tuple #[(.agg #[.int .u64 ((govR ar p).p.a.hi.toNat : Int), .int .u64 ((govR ar p).p.a.lo.toNat : Int), .bool (govR ar p).p.a.v6, .int .i64 (govR ar p).p.n, .int .i64 (govR ar p).hop]), .bool (govB ar p)]) (by simp [results, Tryz.results101, go_sem, *]) rfl ⟨rfl, ?_⟩
  have := (HE0.out.trans HX.out).trans HX2.out
  (repeat (first | with_reducible exact Ext.refl _ | with_reducible assumption | (with_reducible refine Ext.set ?_ (by simp <;> omega) _) | (with_reducible refine Ext.alloc ?_ _) | (with_reducible refine Ext.drew ?_) | (with_reducible refine Ext.trans ?_ (by assumption)) | exact Ext.refl _))

set_option maxRecDepth 100000 in
set_option maxHeartbeats 2000000 in
theorem leaf_c (r rb : Nat) (hi lo : BitVec 64) (v : Bool) (A F : Value) (ar : List Nd) (fr : List Nat) (m : Int) (w : World) (hR : RibAt w r rb A F ar fr m) :
    Calls Tryz.prog 145 #[.pointer (some ⟨r, 0, none⟩), .agg #[(.int .u64 (BitVec.toNat (hi) : Int)), (.int .u64 (BitVec.toNat (lo) : Int)), .bool v]] w
      fun e w' => e = .returned (.tuple #[(.agg #[.int .u64 ((govR ar (leafP ar ⟨hi, lo, v⟩)).p.a.hi.toNat : Int), .int .u64 ((govR ar (leafP ar ⟨hi, lo, v⟩)).p.a.lo.toNat : Int), .bool (govR ar (leafP ar ⟨hi, lo, v⟩)).p.a.v6, .int .i64 (govR ar (leafP ar ⟨hi, lo, v⟩)).p.n, .int .i64 (govR ar (leafP ar ⟨hi, lo, v⟩)).hop]), .bool (govB ar (leafP ar ⟨hi, lo, v⟩))]) ∧ Ext w w' := by
  have HR := Lib.hid (fun w1 (hx : Ext w w1) => hR.ext hx)
  have hof := fun w1 (hx : Ext w w1) => block_c r rb hi lo v A F ar fr m w1 (hR.ext hx)
  clear hR
  change ∀ w1, Ext w w1 → Calls _ _ _ w1 (fun e w' => e = .returned ((.agg #[.int .u64 ((leafP ar ⟨hi, lo, v⟩).a.hi.toNat : Int), .int .u64 ((leafP ar ⟨hi, lo, v⟩).a.lo.toNat : Int), .bool (leafP ar ⟨hi, lo, v⟩).a.v6, .int .i64 (leafP ar ⟨hi, lo, v⟩).n])) ∧ Ext w1 w') at hof
  generalize hp : leafP ar ⟨hi, lo, v⟩ = p at hof ⊢
  have Hof := Lib.hid hof
  clear hof hp
  go_enter Tryz.func145, Tryz.ntmps145
  go_wp2_with (first
    | (go_at_call 161; (with_reducible refine (Hof.out _ (((Ext.refl w).alloc _).alloc _)).mono ?_); rintro e w1 ⟨rfl, h1⟩; have HX := Lib.hid ((((Ext.refl w).alloc _).alloc _).trans h1); have c_h1 := h1.cell; have f_h1 := h1.frozen; have z_h1_0 := h1.lt (b := w.heap.size) (by first | omega | (simp <;> omega)); have z_h1_1 := h1.lt (b := w.heap.size + 1) (by first | omega | (simp <;> omega)))
    | (go_at_call 124; (with_reducible refine (governed_p r rb p A F ar fr m _ (HR.out _ HX.out)).mono ?_); rintro e w2 ⟨rfl, h2⟩; have HX2 := Lib.hid (HX.out.trans h2); have c_h2 := h2.cell; have f_h2 := h2.frozen; have z_h2_0 := h2.lt (b := w.heap.size) (by first | omega | (simp <;> omega)); have z_h2_1 := h2.lt (b := w.heap.size + 1) (by first | omega | (simp <;> omega))))
  refine bodyPost_ret (v := .tuple #[(.agg #[.int .u64 ((govR ar p).p.a.hi.toNat : Int), .int .u64 ((govR ar p).p.a.lo.toNat : Int), .bool (govR ar p).p.a.v6, .int .i64 (govR ar p).p.n, .int .i64 (govR ar p).hop]), .bool (govB ar p)]) (by simp [results, Tryz.results145, go_sem, *]) rfl ⟨rfl, ?_⟩
  have := HX2.out
  (repeat (first | with_reducible exact Ext.refl _ | with_reducible assumption | (with_reducible refine Ext.set ?_ (by simp <;> omega) _) | (with_reducible refine Ext.alloc ?_ _) | (with_reducible refine Ext.drew ?_) | (with_reducible refine Ext.trans ?_ (by assumption)) | exact Ext.refl _))
end Go.Proofs.YtcipokldcjappaaGreat

namespace Go.Proofs.YtcipokldcjappaaGreat
open Go.RowKit Go.Shelf
attribute [local go_sem] Oper.semAt_some

set_option maxRecDepth 100000 in
set_option maxHeartbeats 1000000 in
theorem qsane0_c (bd : Int) (w : World) (h0 : 0 ≤ bd) (h1 : bd ≤ 1024) :
    Calls Tryz.prog 95 #[.agg #[.slice none 0 0, (.int .i64 (bd))]] w fun e w' => e = .returned (.bool true) ∧ Ext w w' := by
  have d0 : decide (bd < 0) = false := by simp; omega
  have d1 : decide (1024 < bd) = false := by simp; omega
  have d2 : decide ((0 : Int) > bd) = false := by simp; omega
  go_enter Tryz.func95, Tryz.ntmps95
  go_wp2
  go_loopw [24] (fun k wr => k = (.int .i64 (0)) ∧ Ext (w.alloc (.cells #[.slice none 0 0, (.int .i64 (bd))] 102)) wr) (fun _ _ => 0)
  case atStart => exact ⟨rfl, Ext.refl _⟩
  case round =>
    obtain ⟨rfl, hE⟩ := hrel
    have HE := Lib.hid hE
    clear hE
    go_wp2
    go_ret
    exact ⟨rfl, ((Ext.refl w).alloc _).trans HE.out⟩

set_option maxRecDepth 100000 in
set_option maxHeartbeats 1000000 in
theorem qclone0_c (w : World) :
    Calls Tryz.prog 96 #[.slice none 0 0] w fun e w' => e = .returned (.slice none 0 0) ∧ w = w' := by
  have he : ∀ w, (binOp .eql 100 (.slice none 0 0) (.slice none 0 0)).run Tryz.prog w = .ok (.bool true) w := fun w => Lib.run_eql_slice_nil w 100 189 none 0 0 0 0 Tryz.underlying100
  go_enter Tryz.func96, Tryz.ntmps96
  go_wp2
  go_ret
  exact ⟨rfl, rfl⟩

set_option maxRecDepth 100000 in
set_option maxHeartbeats 2000000 in
theorem narrow0_c (bd : Int) (hi lo : BitVec 64) (v : Bool) (n : Int) (w : World) (h0 : 0 ≤ bd) (h1 : bd ≤ 1024) :
    Calls Tryz.prog 66 #[.agg #[.slice none 0 0, (.int .i64 (bd))], .agg #[(.int .u64 (BitVec.toNat (hi) : Int)), (.int .u64 (BitVec.toNat (lo) : Int)), .bool v, (.int .i64 (n))]] w fun e w' => e = .returned (.tuple #[.agg #[.slice none 0 0, (.int .i64 (bd))], (.int .i64 (0))]) ∧ Ext w w' := by
  have Hs := Lib.hid (fun w => qsane0_c bd w h0 h1)
  clear h0 h1
  go_enter Tryz.func66, Tryz.ntmps66
  go_wp2_with (first
    | (go_at_call 95; (with_reducible refine (Hs.out _).mono ?_); rintro e w1 ⟨rfl, h1⟩; have c_h1 := h1.cell; have f_h1 := h1.frozen; have z_h1_0 := h1.lt (b := w.heap.size) (by first | omega | (simp <;> omega)); have z_h1_1 := h1.lt (b := w.heap.size + 1) (by first | omega | (simp <;> omega)); have z_h1_2 := h1.lt (b := w.heap.size + 1 + 1) (by first | omega | (simp <;> omega)))
    | (go_at_call 96; (with_reducible refine (qclone0_c _).mono ?_); rintro e w2 ⟨rfl, rfl⟩))
  go_loopw [6, 19] (fun n k wr => n = (.int .i64 (0)) ∧ k = (.int .i64 (0)) ∧ w1 = wr) (fun _ _ _ => 0)
  case atStart => exact ⟨rfl, rfl, rfl⟩
  case round =>
    obtain ⟨rfl, rfl, rfl⟩ := hrel
    go_wp2
    refine bodyPost_ret (v := .tuple #[.agg #[.slice none 0 0, (.int .i64 (bd))], (.int .i64 (0))]) (by simp [results, Tryz.results66, go_sem, *]) rfl ⟨rfl, ?_⟩
    (repeat (first | with_reducible exact Ext.refl _ | with_reducible assumption | (with_reducible refine Ext.set ?_ (by simp <;> omega) _) | (with_reducible refine Ext.alloc ?_ _) | (with_reducible refine Ext.drew ?_) | (with_reducible refine Ext.trans ?_ (by assumption)) | exact Ext.refl _))

theorem qblocks_c (a : Option Addr) (n c : Nat) (hi lo : BitVec 64) (v : Bool) (w : World) :
    Calls Tryz.prog 139 #[.slice a n c, .agg #[(.int .u64 (BitVec.toNat (hi) : Int)), (.int .u64 (BitVec.toNat (lo) : Int)), .bool v]] w fun e w' => e = .returned (.func (.func 153) #[] #[.pointer (some ⟨w.heap.size, 0, none⟩), .pointer (some ⟨w.heap.size + 1, 0, none⟩)]) ∧ w' = (w.alloc (.cells #[.slice a n c] 100)).alloc (.cells #[(.int .u64 (BitVec.toNat (hi) : Int)), (.int .u64 (BitVec.toNat (lo) : Int)), .bool v] 37) := by
  go_enter Tryz.func139, Tryz.ntmps139
  go_wp2
  go_ret
  exact ⟨rfl, rfl⟩

set_option maxRecDepth 100000 in
set_option maxHeartbeats 1000000 in
theorem qblocks0_in (y b1 : Nat) (x2 : Value) (J : List Nat → World → Prop) (W : World) (hB : W.cell? ⟨b1, 0, none⟩ = some (.slice none 0 0)) (h0 : J [] W) :
    CallsIn Fence.wide 3 Tryz.prog 153 #[.func (.yield y) #[] #[], .pointer (some ⟨b1, 0, none⟩), x2] W fun e W' => (∃ v, e = .returned v) ∧ J [] W' := by
  refine callsIn_of_wp Tryz.func153 rfl trivial ?_ rfl
  simp only [Tryz.ntmps153, List.size_toArray, List.length_cons, List.length_nil, Nat.reduceAdd, Nat.reduceSub, Array.replicate_succ, Array.replicate_zero, List.push_toArray, List.append_toArray, List.nil_append, List.cons_append]
  gi_wp2
  gi_loopw [8] (fun i wr => i = (.int .i64 (0)) ∧ J [] wr) (fun _ _ => 0)
  case atStart => exact ⟨rfl, h0⟩
  case round =>
    obtain ⟨rfl, hJs⟩ := hrel
    gi_wp2
    go_end0
    exact ⟨⟨_, rfl⟩, hJs⟩

theorem qblocks0_stops (b1 : Nat) (x2 : Value) (w : World) (hb : b1 < w.heap.size) (hc : w.cell? ⟨b1, 0, none⟩ = some (.slice none 0 0)) :
    SeqStopsK Fence.wide 3 Tryz.prog 153 #[.pointer (some ⟨b1, 0, none⟩), x2] (fun x : Nat => #[(.int .i64 ((x : Int)))]) (Below w.heap.size) (fun ys => ys = []) (fun _ => False) 0 w := fun y J Jx W hW _ _ hY h0 =>
  (qblocks0_in y b1 x2 J W ((hW.cell (p := ⟨b1, 0, none⟩) hb).trans hc) h0).mono fun e W' ⟨he, hj⟩ => ⟨he, .inl ⟨_, rfl, hj⟩⟩

set_option maxRecDepth 100000 in
set_option maxHeartbeats 2000000 in
theorem first0_c (hi lo : BitVec 64) (v : Bool) (w : World) :
    Calls Tryz.prog 119 #[.slice none 0 0, .agg #[(.int .u64 (BitVec.toNat (hi) : Int)), (.int .u64 (BitVec.toNat (lo) : Int)), .bool v]] w fun e w' => e = .returned ((.int .i64 (-1))) ∧ Ext w w' := by
  refine (callsIn_wide (n := 5)).1 ?_
  refine callsIn_of_wp_marks Tryz.func119 rfl trivial ?_ rfl
  simp only [Tryz.ntmps119, List.size_toArray, List.length_cons, List.length_nil, Nat.reduceAdd, Nat.reduceSub, Array.replicate_succ, Array.replicate_zero, List.push_toArray, List.append_toArray, List.nil_append, List.cons_append]
  refine wpIn_wide.2 ?_
  go_wp2_with (go_at_call 139; (with_reducible refine (qblocks_c ..).mono ?_); rintro e w1 ⟨rfl, rfl⟩)
  have hb2 : Blk ((((w.alloc (.cells #[(.int .u64 (BitVec.toNat (hi) : Int)), (.int .u64 (BitVec.toNat (lo) : Int)), .bool v] 37)).alloc (.cells #[(.int .i64 (0))] 3)).alloc (.cells #[.slice none 0 0] 100)).alloc (.cells #[(.int .u64 (BitVec.toNat (hi) : Int)), (.int .u64 (BitVec.toNat (lo) : Int)), .bool v] 37)) (w.heap.size + 1) 3 #[(.int .i64 (0))] := (Blk.new' (w.alloc _) (w.heap.size + 1) _ _ (by simp)).ext (((Ext.refl _).alloc _).alloc _)
  have hb3 : Blk ((((w.alloc (.cells #[(.int .u64 (BitVec.toNat (hi) : Int)), (.int .u64 (BitVec.toNat (lo) : Int)), .bool v] 37)).alloc (.cells #[(.int .i64 (0))] 3)).alloc (.cells #[.slice none 0 0] 100)).alloc (.cells #[(.int .u64 (BitVec.toNat (hi) : Int)), (.int .u64 (BitVec.toNat (lo) : Int)), .bool v] 37)) (w.heap.size + 1 + 1) 100 #[.slice none 0 0] := (Blk.new' ((w.alloc _).alloc _) (w.heap.size + 1 + 1) _ _ (by simp)).ext ((Ext.refl _).alloc _)
  have hB : Below w.heap.size w ((((w.alloc (.cells #[(.int .u64 (BitVec.toNat (hi) : Int)), (.int .u64 (BitVec.toNat (lo) : Int)), .bool v] 37)).alloc (.cells #[(.int .i64 (0))] 3)).alloc (.cells #[.slice none 0 0] 100)).alloc (.cells #[(.int .u64 (BitVec.toNat (hi) : Int)), (.int .u64 (BitVec.toNat (lo) : Int)), .bool v] 37)) := (((((Ext.refl w).alloc _).alloc _).alloc _).alloc _)
  generalize ((((w.alloc (.cells #[(.int .u64 (BitVec.toNat (hi) : Int)), (.int .u64 (BitVec.toNat (lo) : Int)), .bool v] 37)).alloc (.cells #[(.int .i64 (0))] 3)).alloc (.cells #[.slice none 0 0] 100)).alloc (.cells #[(.int .u64 (BitVec.toNat (hi) : Int)), (.int .u64 (BitVec.toNat (lo) : Int)), .bool v] 37)) = W0 at hb2 hb3 hB ⊢
  have hz0 := hb3.lt
  refine (wpIn_wide (n := 4)).1 ?_
  refine wpIn_rangeFunc_ownH (α := Nat) rfl (by omega) (gf := 153) (lb := #[.pointer (some ⟨w.heap.size + 1 + 1, 0, none⟩), .pointer (some ⟨w.heap.size + 1 + 1 + 1, 0, none⟩)]) rfl trivial
    (enters_of Tryz.func153 (by kernel_rfl) rfl)
    (qblocks0_stops (w.heap.size + 1 + 1) _ W0 hz0 (hb3.cell 0)) belowK_t (belowK_b (Nat.le_refl _)) (Below.refl _ _) (fun _ => rfl)
    (fun pre W => W0.heap.size ≤ W.heap.size ∧ Below w.heap.size w W ∧ Blk W (w.heap.size + 1) 3 #[(.int .i64 (0))])
    (fun c pre W => False)
    (fun pre A B row hs hg hr => ⟨Nat.le_trans hs.1 hg.size, hs.2.1.grown hg hs.2.1.size (fun k e => by have := (hr k e).1; omega), blk_grown hs.2.2 hg hr⟩)
    (fun c pre A B row hs hg hr => hs)
    ⟨Nat.le_refl _, hB, hb2⟩
    (fun x a' W => True)
    (fun x a' u A B row hs hg hr => trivial)
    ?assign ?body ?done ?stop
  case assign =>
    rintro y pre x W K ⟨hzW, hB, h1⟩ hK
    have Hk := Lib.hid hK
    have HB := Lib.hid hB
    have H1 := Lib.hid h1
    clear hK hB h1
    gi_wp2
    exact Hk.out _ _ (KeepsFrom.refl _ _) (Below.refl _ W) ⟨hzW, HB.out, H1.out⟩ trivial
  case body =>
    rintro y pre x a' W hy _ _ _ hlt
    exact absurd hlt (by omega)
  case done =>
    rintro D xs W hD hxs ⟨hzW, hB, h1⟩ hK
    have hzD := h1.lt
    have HB := Lib.hid hB
    have HK := Lib.hid hK
    have H1 := Lib.hid h1
    have d0 : W.cell? ⟨w.heap.size + 1, 0, none⟩ = some ((.int .i64 (0))) := h1.cell 0
    have e0 : W.frozen? ⟨w.heap.size + 1, 0, none⟩ = false := h1.frozen 0
    clear hB h1 hK hxs hb2 hb3
    go_wp2
    refine ⟨by simp, .inl ⟨_, _, rfl, run_takeDeferred ((KeepsOthers.setCell _ _ _).same D _ HK.out rfl), ?_⟩⟩
    have hz := (Array.getElem?_eq_some_iff.1 HK.out).1
    have hE : Ext w (W.setCell ⟨w.heap.size + 1, 0, none⟩ ((.int .i64 (-1)))) := by
      have : Ext w W := HB.out
      (repeat (first | with_reducible exact Ext.refl _ | with_reducible assumption | (with_reducible refine Ext.set ?_ (by simp <;> omega) _) | (with_reducible refine Ext.alloc ?_ _) | (with_reducible refine Ext.drew ?_) | (with_reducible refine Ext.trans ?_ (by assumption)) | exact Ext.refl _))
    refine ⟨(.int .i64 (-1)), ?_, rfl, ?_⟩
    · have hb9 : Blk ((W.setCell ⟨w.heap.size + 1, 0, none⟩ ((.int .i64 (-1)))).putObj D (.deferred none)) (w.heap.size + 1) 3 #[(.int .i64 (-1))] := (H1.out.set 0 _).putObj D _ (by omega)
      have c9 := hb9.cell 0
      simp [results, Tryz.results119, go_sem] at c9 ⊢
      simp [c9]
    · exact hE.grown (grownBy_putObj' _ D _) hE.size (fun k e => by cases e; omega)
  case stop =>
    rintro D c pre W hD hf
    exact hf.elim
end Go.Proofs.YtcipokldcjappaaGreat

namespace Go.Proofs.YtcipokldcjappaaGreat
open Go.RowKit

set_option maxRecDepth 100000 in
set_option maxHeartbeats 2000000 in
theorem offer0_c (hi lo : BitVec 64) (v : Bool) (hi2 lo2 : BitVec 64) (v2 : Bool) (n hop : Int) (w : World) :
    Calls Tryz.prog 146 #[.agg #[.slice none 0 0, (.int .i64 (0))], .agg #[(.int .u64 (BitVec.toNat (hi) : Int)), (.int .u64 (BitVec.toNat (lo) : Int)), .bool v], .agg #[(.int .u64 (BitVec.toNat (hi2) : Int)), (.int .u64 (BitVec.toNat (lo2) : Int)), .bool v2, (.int .i64 (n)), (.int .i64 (hop))]] w
      fun e w' => e = .returned (.tuple #[.agg #[.slice none 0 0, (.int .i64 (0))], (.int .i64 (2))]) ∧ Ext w w' := by
  have Hs := Lib.hid (fun w => qsane0_c 0 w (by omega) (by omega))
  go_enter Tryz.func146, Tryz.ntmps146
  go_wp2_with (first
    | (go_at_call 95; (with_reducible refine (Hs.out _).mono ?_); rintro e w1 ⟨rfl, h1⟩; have HX := Lib.hid h1; have c_h1 := h1.cell; have f_h1 := h1.frozen; have z_h1_0 := h1.lt (b := w.heap.size) (by first | omega | (simp <;> omega)); have z_h1_1 := h1.lt (b := w.heap.size + 1) (by first | omega | (simp <;> omega)); have z_h1_2 := h1.lt (b := w.heap.size + 1 + 1) (by first | omega | (simp <;> omega)); have z_h1_3 := h1.lt (b := w.heap.size + 1 + 1 + 1) (by first | omega | (simp <;> omega)))
    | (go_at_call 119; (with_reducible refine (first0_c ..).mono ?_); rintro e w2 ⟨rfl, h2⟩; have HX2 := Lib.hid h2; have c_h2 := h2.cell; have f_h2 := h2.frozen; have z_h2_0 := h2.lt (b := w.heap.size) (by first | omega | (simp <;> omega)); have z_h2_1 := h2.lt (b := w.heap.size + 1) (by first | omega | (simp <;> omega)); have z_h2_2 := h2.lt (b := w.heap.size + 1 + 1) (by first | omega | (simp <;> omega)); have z_h2_3 := h2.lt (b := w.heap.size + 1 + 1 + 1) (by first | omega | (simp <;> omega))))
  refine bodyPost_ret (v := .tuple #[.agg #[.slice none 0 0, (.int .i64 (0))], (.int .i64 (2))]) (by simp [results, Tryz.results146, go_sem, *]) rfl ⟨rfl, ?_⟩
  have := ((((((Ext.refl w).alloc _).alloc _).alloc _).alloc _).trans HX.out).trans HX2.out
  (repeat (first | with_reducible exact Ext.refl _ | with_reducible assumption | (with_reducible refine Ext.set ?_ (by simp <;> omega) _) | (with_reducible refine Ext.alloc ?_ _) | (with_reducible refine Ext.drew ?_) | (with_reducible refine Ext.trans ?_ (by assumption)) | exact Ext.refl _))

set_option maxRecDepth 100000 in
set_option maxHeartbeats 2000000 in
theorem ask0_c (r rb : Nat) (hi lo : BitVec 64) (v : Bool) (A F : Value) (ar : List Nd) (fr : List Nat) (m : Int) (w : World) (hR : RibAt w r rb A F ar fr m)
    (hs : saneA ⟨hi, lo, v⟩ = true) (hg : govB ar (leafP ar ⟨hi, lo, v⟩) = true) :
    Calls Tryz.prog 125 #[.pointer (some ⟨r, 0, none⟩), .agg #[.slice none 0 0, (.int .i64 (0))], .agg #[(.int .u64 (BitVec.toNat (hi) : Int)), (.int .u64 (BitVec.toNat (lo) : Int)), .bool v]] w
      fun e w' => e = .returned (.tuple #[.agg #[.slice none 0 0, (.int .i64 (0))], (.int .i64 (2))]) ∧ Ext w w' := by
  have Hs := Lib.hid (fun w => qsane0_c 0 w (by omega) (by omega))
  have hsa := fun w => sane_c hi lo v w
  rw [hs] at hsa
  have Hsa := Lib.hid hsa
  have hl := fun w1 (hx : Ext w w1) => leaf_c r rb hi lo v A F ar fr m w1 (hR.ext hx)
  rw [hg] at hl
  generalize govR ar (leafP ar ⟨hi, lo, v⟩) = x at hl
  have Hl := Lib.hid hl
  clear hl hsa hs hg hR
  go_enter Tryz.func125, Tryz.ntmps125
  go_wp2_with (first
    | (go_at_call 99; (with_reducible refine (Hsa.out _).mono ?_); rintro e w1 ⟨rfl, h1⟩; have HX := Lib.hid ((((((Ext.refl w).alloc _).alloc _).alloc _)).trans h1); have c_h1 := h1.cell; have f_h1 := h1.frozen; have z_h1_0 := h1.lt (b := w.heap.size) (by first | omega | (simp <;> omega)); have z_h1_1 := h1.lt (b := w.heap.size + 1) (by first | omega | (simp <;> omega)); have z_h1_2 := h1.lt (b := w.heap.size + 1 + 1) (by first | omega | (simp <;> omega)))
    | (go_at_call 95; (with_reducible refine (Hs.out _).mono ?_); rintro e w2 ⟨rfl, h2⟩; have HX2 := Lib.hid (HX.out.trans h2); have c_h2 := h2.cell; have f_h2 := h2.frozen; have z_h2_0 := h2.lt (b := w.heap.size) (by first | omega | (simp <;> omega)); have z_h2_1 := h2.lt (b := w.heap.size + 1) (by first | omega | (simp <;> omega)); have z_h2_2 := h2.lt (b := w.heap.size + 1 + 1) (by first | omega | (simp <;> omega)))
    | (go_at_call 145; (with_reducible refine (Hl.out _ HX2.out).mono ?_); rintro e w3 ⟨rfl, h3⟩; have HX3 := Lib.hid (HX2.out.trans h3); have hzz := h3.size; have c_h3 := h3.cell; have f_h3 := h3.frozen; have z_h3_0 := h3.lt (b := w.heap.size) (by first | omega | (simp <;> omega)); have z_h3_1 := h3.lt (b := w.heap.size + 1) (by first | omega | (simp <;> omega)); have z_h3_2 := h3.lt (b := w.heap.size + 1 + 1) (by first | omega | (simp <;> omega)))
    | (go_at_call 146; (with_reducible refine (offer0_c ..).mono ?_); rintro e w4 ⟨rfl, h4⟩; have HX4 := Lib.hid h4; have c_h4 := h4.cell; have f_h4 := h4.frozen; have z_h4_0 := h4.lt (b := w.heap.size) (by first | omega | (simp <;> omega)); have z_h4_1 := h4.lt (b := w.heap.size + 1) (by first | omega | (simp <;> omega)); have z_h4_2 := h4.lt (b := w.heap.size + 1 + 1) (by first | omega | (simp <;> omega))))
  refine bodyPost_ret (v := .tuple #[.agg #[.slice none 0 0, (.int .i64 (0))], (.int .i64 (2))]) (by simp [results, Tryz.results125, go_sem, *]) rfl ⟨rfl, ?_⟩
  have := (HX3.out.alloc _).trans HX4.out
  (repeat (first | with_reducible exact Ext.refl _ | with_reducible assumption | (with_reducible refine Ext.set ?_ (by simp <;> omega) _) | (with_reducible refine Ext.alloc ?_ _) | (with_reducible refine Ext.drew ?_) | (with_reducible refine Ext.trans ?_ (by assumption)) | exact Ext.refl _))
end Go.Proofs.YtcipokldcjappaaGreat

namespace Go.Proofs.YtcipokldcjappaaGreat
section
variable {P : Program} {ops : Array Oper} {S : World → Prop}

def sinkJ (ops : Array Oper) (n j : Nat) : Bool :=
  (List.range n).all fun i => decide (i = j) || (List.range (n + 1)).any fun k => decide (i < k) && decide (k ≠ j) && Region.waitsFor .any ops k i

theorem tail_past {n : Nat} {listed : Array Bool} (hc : Region.chainB .any ops n = true) (inv : HeadInv .any ops n listed) {t : Nat} (ht : n < t) : t ∉ Region.ready .any ops listed := by
  intro hr
  obtain ⟨_, ot, hot, hall⟩ := mem_ready.1 hr
  have htlt : t < ops.size := (Array.getElem?_eq_some_iff.1 hot).1
  have h1 := List.all_eq_true.1 hc t (List.mem_range.2 htlt)
  simp only [Bool.or_eq_true, decide_eq_true_eq] at h1
  rcases h1 with h1 | h1
  · omega
  · obtain ⟨o', ho', e, he, hb, heq⟩ := Region.waitsFor_spec h1
    have : o' = ot := Option.some.inj (ho'.symm.trans hot)
    subst this
    have h2 := hall e he hb
    rw [heq, getD_both (inv.tail (t - 1) (by omega) (by omega))] at h2
    cases h2

theorem tail_waitsJ {n j : Nat} {listed : Array Bool} (hs : sinkJ ops n j = true) (hc : Region.chainB .any ops n = true) (hn : n < ops.size) (inv : HeadInv .any ops n listed) :
    ∀ (d i : Nat), n - i = d → i < n → i ≠ j → listed.getD i true = false → ∀ t, n ≤ t → t ∉ Region.ready .any ops listed := by
  intro d
  induction d using Nat.strongRecOn with
  | _ d ih =>
    intro i hd hi hij hun t ht hr
    by_cases htn : t = n
    · subst htn
      obtain ⟨_, ot, hot, hall⟩ := mem_ready.1 hr
      have h1 := List.all_eq_true.1 hs i (List.mem_range.2 hi)
      simp only [Bool.or_eq_true, decide_eq_true_eq] at h1
      rcases h1 with h1 | h1
      · exact hij h1
      · obtain ⟨k, hk, hk2⟩ := List.any_eq_true.1 h1
        simp only [Bool.and_eq_true, decide_eq_true_eq] at hk2
        obtain ⟨oj, hoj, e, he, hb, hon⟩ := Region.waitsFor_spec hk2.2
        have hkle : k ≤ t := by have := List.mem_range.1 hk; omega
        by_cases hkt : k = t
        · subst hkt
          have : oj = ot := Option.some.inj (hoj.symm.trans hot)
          subst this
          have h2 := hall e he hb
          rw [hon, getD_both hun] at h2
          cases h2
        · cases hl : listed.getD k false with
          | true =>
            have h2 := inv.closed k oj hoj hl e he hb
            rw [hon, getD_both hun] at h2
            cases h2
          | false =>
            have hks : k < listed.size := by rw [inv.size]; omega
            exact ih (t - k) (by omega) k rfl (by omega) hk2.1.2 (getD_in hks hl) t (Nat.le_refl _) hr
    · exact tail_past hc inv (by omega) hr

def canonN (n m : Nat) : Array Bool := (List.replicate n true ++ List.replicate m false).toArray
def canonJ (n m j : Nat) : Array Bool := (canonN n m).setIfInBounds j false

theorem canonJ_ext {n m j : Nat} {listed : Array Bool} (hs : listed.size = n + m) (h1 : ∀ i, i < n → i ≠ j → listed.getD i true = true) (hj : listed.getD j true = false) (hjn : j < n) (h2 : ∀ i, n ≤ i → i < n + m → listed.getD i true = false) :
    listed = canonJ n m j := by
  unfold canonJ canonN
  apply Array.ext
  · simp; omega
  · intro i hi1 hi2
    by_cases hij : i = j
    · subst hij
      simp [hi1] at hj
      simp [hj]
    · rw [Array.getElem_setIfInBounds_ne (by simp; omega) (Ne.symm hij)]
      by_cases hin : i < n
      · have := h1 i hin hij
        simp [hi1] at this
        simp [List.getElem_append, hin, this]
      · have := h2 i (by omega) (by omega)
        simp [hi1] at this
        simp [List.getElem_append, hin, this]

theorem wpAny_of_invJ {n j : Nat} {lo : Nat → Bool} {E : Nat → Value → World → Prop} (hE : ∀ i v w w', E i v w → Ext w w' → E i v w') {A : Act} {Q : Exit → Act → World → Prop}
    (hsel : Region.noSelect ops = true) (hs : sinkJ ops n j = true) (hc : Region.chainB .any ops n = true) (hn : n < ops.size) (hok : okB ops n lo = true) (hin : inB ops n A.tmps.size = true) (hjn : j < n)
    (hop : ∀ i o, i < n → ops[i]? = some o → if lo i then Loose P ops S o A (E i) else Fix P ops S o A (match o.dst with | some d => A.tmps.getD d undef | none => undef) ∨ o.dst = none ∧ ∃ v, Fix P ops S o A v)
    (hend : ∀ a w, RInv ops n S lo E A (canonN n (ops.size - n)) a w → wpAny P .any ops Q (ops.size - n) (canonN n (ops.size - n)) a w)
    (hlate : ∀ a w, RInv ops n S lo E A (canonJ n (ops.size - n) j) a w → wpOp P ops Q n (wpAny P .any ops Q (ops.size - n) ((canonJ n (ops.size - n) j).setIfInBounds n true)) a w) :
    ∀ (f : Nat) (listed : Array Bool) (a : Act) (w : World), cnt listed n = f → RInv ops n S lo E A listed a w → wpAny P .any ops Q (f + (ops.size - n)) listed a w := by
  intro f
  induction f with
  | zero =>
    intro listed a w hcnt h
    have := canon_ext h.head.size (cnt_zero n hcnt) (fun i h1 h2 => h.head.tail i h1 h2) (Nat.le_of_lt hn)
    subst this
    rw [Nat.zero_add]
    exact hend a w h
  | succ f ih =>
    intro listed a w hcnt h
    obtain ⟨i0, hi0, hu0, hall0⟩ := cnt_pos (listed := listed) n (by omega)
    have okAt : ∀ i, i < n → okOp ops n lo i = true := fun i hi => List.all_eq_true.1 hok i (List.mem_range.2 hi)
    have hr0 : i0 ∈ Region.ready .any ops listed := by
      have hlt : i0 < ops.size := by omega
      refine mem_ready.2 ⟨hu0, ops[i0], Array.getElem?_eq_getElem hlt, fun e he hb => ?_⟩
      have hback := okOp_back (Array.getElem?_eq_getElem hlt) (okAt i0 hi0) he hb
      have h1 := hall0 e.on hback
      have : e.on < listed.size := by rw [h.head.size]; omega
      simp [this] at h1 ⊢; exact h1
    rw [show f + 1 + (ops.size - n) = (f + (ops.size - n)) + 1 by omega]
    refine ⟨fun h0 => (by rw [h0] at hr0; cases hr0), fun i hi => ?_⟩
    rcases Nat.lt_or_ge i n with hin' | hge
    · obtain ⟨hun, o, ho, _⟩ := mem_ready.1 hi
      have hal := h.alike ho (okAt i hin') hi
      have hse : ∀ cs x, o.op ≠ .select cs x := fun cs x => Region.noSelect_spec hsel i o cs x ho
      have hbd : ∀ d, o.dst = some d → d < A.tmps.size := fun d hd => by
        have h1 := List.all_eq_true.1 hin i (List.mem_range.2 hin')
        have h2 : (ops[i]?).bind (·.dst) = some d := by rw [ho]; exact hd
        rw [h2] at h1
        simpa using h1
      have hcnt' : cnt (listed.setIfInBounds i true) n = f := by have := cnt_set hun n hin'; omega
      have hop' := hop i o hin' ho
      unfold wpOp
      simp only [ho]
      cases hlo : lo i with
      | true =>
        rw [hlo] at hop'
        simp only [if_true] at hop'
        rw [if_pos (by rw [alike_wanted hal]; exact hop'.wanted)]
        refine .inl (wp_of_yields (R := fun u w' => E i u w' ∧ S w' ∧ Ext w w') ?_ fun v w' ⟨h1, h2, h3⟩ => ih _ _ _ hcnt' (h.step hE ho (okAt i hin') hin' hi h2 h3 (fun e => by rw [hlo] at e; cases e) (fun _ => h1) hbd))
        have := hop'.out w h.s
        unfold yields at this ⊢
        rw [alike_exec hse hal]
        exact this
      | false =>
        rw [hlo] at hop'
        simp only [Bool.false_eq_true, if_false] at hop'
        obtain ⟨v, hfix, hval⟩ : ∃ v, Fix P ops S o A v ∧ ∀ d, o.dst = some d → d < A.tmps.size → A.tmps[d]? = some v := by
          rcases hop' with h1 | ⟨h1, v, h2⟩
          · cases hd : o.dst with
            | none => rw [hd] at h1; exact ⟨_, h1, fun d e => by cases e⟩
            | some d =>
              rw [hd] at h1
              refine ⟨_, h1, fun d' e hlt => ?_⟩
              obtain rfl : d = d' := Option.some.inj e
              simp [Array.getD_eq_getD_getElem?, hlt]
          · exact ⟨v, h2, fun d e => by rw [h1] at e; cases e⟩
        rcases hfix.out with ⟨hw, hy⟩ | ⟨hw, rfl⟩
        · rw [if_pos (by rw [alike_wanted hal]; exact hw)]
          refine .inl (wp_of_yields (R := fun u w' => u = v ∧ S w' ∧ Ext w w') ?_ fun u w' ⟨h1, h2, h3⟩ => ?_)
          · have := hy w h.s
            unfold yields at this ⊢
            rw [alike_exec hse hal]
            exact this
          · subst h1
            exact ih _ _ _ hcnt' (h.step hE ho (okAt i hin') hin' hi h2 h3 (fun _ => hval) (fun e => by rw [hlo] at e; cases e) hbd)
        · rw [if_neg (by rw [alike_wanted hal, hw]; simp)]
          exact ih _ _ _ hcnt' (h.step hE ho (okAt i hin') hin' hi h.s (Ext.refl w) (fun _ => hval) (fun e => by rw [hlo] at e; cases e) hbd)
    · have hiN : i = n := by
        rcases Nat.lt_or_ge n i with h1 | h1
        · exact absurd hi (tail_past hc h.head h1)
        · omega
      subst hiN
      have hall : ∀ k, k < i → k ≠ j → listed.getD k true = true := fun k hk hkj => by
        cases hl : listed.getD k true with
        | true => rfl
        | false => exact absurd hi (tail_waitsJ hs hc hn h.head _ k rfl hk hkj hl i (Nat.le_refl _))
      have hju : listed.getD j true = false := by
        by_cases hij : i0 = j
        · rw [← hij]; exact hu0
        · rw [hall i0 hi0 hij] at hu0; cases hu0
      have hcan := canonJ_ext (n := i) (m := ops.size - i) (j := j) (by rw [h.head.size]; omega) hall hju hjn (fun k h1 h2 => h.head.tail k h1 (by omega))
      subst hcan
      have hf : f = 0 := by
        have h1 := cnt_set hju i hjn
        have h2 : cnt ((canonJ i (ops.size - i) j).setIfInBounds j true) i = 0 := by
          have h3 : ∀ k, k ≤ i → cnt ((canonJ i (ops.size - i) j).setIfInBounds j true) k = 0 := by
            intro k
            induction k with
            | zero => intro _; rfl
            | succ k ihk =>
              intro hk
              simp only [cnt]
              rw [ihk (by omega)]
              have : ((canonJ i (ops.size - i) j).setIfInBounds j true).getD k true = true := by
                by_cases hkj : k = j
                · subst hkj
                  simp only [Array.getD_eq_getD_getElem?, Array.getElem?_setIfInBounds_self]; split <;> rfl
                · rw [getD_set_ne true (Ne.symm hkj)]; exact hall k (by omega) hkj
              rw [this]; simp
          exact h3 i (Nat.le_refl _)
        omega
      subst hf
      rw [Nat.zero_add]
      exact hlate a w h

/-- the checks of the law -/
def okDef (l : List Oper) (n i0 d j N : Nat) : Bool :=
  Region.noSelect l.toArray && decide (n < l.toArray.size) && sinkJ l.toArray n j && Region.chainB .any l.toArray n && okB l.toArray n (fun i => i == i0) && inB l.toArray n N &&
  decide (j < n) && decide (i0 < n) && decide (j ≠ i0) && ((l.toArray[i0]?).bind (·.dst) == some d) && decide (d < N) &&
  decide (Region.ready .any l.toArray (canonN n (l.toArray.size - n)) = [n]) &&
  decide (Region.ready .any l.toArray ((canonJ n (l.toArray.size - n) j).setIfInBounds n true) = [j]) &&
  decide ((canonN n (l.toArray.size - n)).setIfInBounds n true = canonN (n + 1) (l.toArray.size - (n + 1))) &&
  decide (((canonJ n (l.toArray.size - n) j).setIfInBounds n true).setIfInBounds j true = canonN (n + 1) (l.toArray.size - (n + 1))) &&
  decide ((canonJ n (l.toArray.size - n) j).setIfInBounds j true = canonN n (l.toArray.size - n)) &&
  (Region.ready .any l.toArray (canonJ n (l.toArray.size - n) j)).contains j &&
  Region.seqB .any l.toArray (l.toArray.size - (n + 1)) (n + 1) (canonN (n + 1) (l.toArray.size - (n + 1)))

/-- the variable that the region makes -/
def madeE (w : World) (T : TypeId) (cs : Array Value) (u : Value) (w' : World) : Prop := ∃ q, w.heap.size ≤ q ∧ u = .pointer (some ⟨q, 0, none⟩) ∧ Blk w' q T cs
theorem madeE.ext {w : World} {T : TypeId} {cs : Array Value} {u : Value} {w1 w2 : World} (h : madeE w T cs u w1) (hx : Ext w1 w2) : madeE w T cs u w2 := by
  obtain ⟨q, h1, h2, h3⟩ := h; exact ⟨q, h1, h2, h3.ext hx⟩

theorem RInv.turn {n i0 : Nat} {S' : World → Prop} {E E' : Value → World → Prop} {A b : Act} {listed : Array Bool} {w1 w2 : World} (h : RInv ops n S (fun i => i == i0) (fun _ => E) A listed b w1) (hS : S' w2)
    (hE : ∀ t, (ops[i0]?).bind (·.dst) = some t → E (b.tmps.getD t undef) w1 → E' (b.tmps.getD t undef) w2) : RInv ops n S' (fun i => i == i0) (fun _ => E') A listed b w2 :=
  ⟨hS, h.defers, h.size, h.far, h.near, fun j hj hl hls t hd => by
    have hji : j = i0 := by simpa using hl
    subst hji
    exact hE t hd (h.loose j hj hl hls t hd), h.head⟩

theorem canonN_get {n m i : Nat} (hi : i < n) : (canonN n m).getD i true = true := canon_at hi
theorem canonJ_get {n m j i : Nat} (hi : i < n) (hij : i ≠ j) : (canonJ n m j).getD i true = true := by
  unfold canonJ
  simp only [Array.getD_eq_getD_getElem?]
  rw [Array.getElem?_setIfInBounds_ne (Ne.symm hij), ← Array.getD_eq_getD_getElem?]
  exact canonN_get hi

theorem wpAny_one {f g i : Nat} {L : Array Bool} {Q : Exit → Act → World → Prop} {b : Act} {w : World} (hf : f = g + 1) (hr : Region.ready .any ops L = [i]) (h : wpOp P ops Q i (wpAny P .any ops Q g (L.setIfInBounds i true)) b w) : wpAny P .any ops Q f L b w := by
  subst hf
  exact ⟨fun h0 => (by rw [hr] at h0; cases h0), fun k hk => by
    rw [hr] at hk
    obtain rfl : k = i := by simpa using hk
    exact h⟩

theorem store_step {n i0 d e je : Nat} {o : Oper} {ty T : TypeId} {c0 cells : Array Value} {A b : Act} {listed : Array Bool} {w w1 : World} {Q : Exit → Act → World → Prop} {K : Act → World → Prop}
    (h : RInv ops n (Ext w) (fun i => i == i0) (fun _ => madeE w T c0) A listed b w1) (hi0 : i0 < n) (hd0 : (ops[i0]?).bind (·.dst) = some d) (hl0 : listed.getD i0 true = true)
    (ho : ops[n]? = some o) (hop : o.op = .store ty (.tmp d) (.tmp e)) (hog : o.guard = none) (hodst : o.dst = none) (hje : (ops[je]?).bind (·.dst) = some e) (hjen : je < n) (hjei : je ≠ i0) (hlj : listed.getD je true = true)
    (hAe : A.tmps[e]? = some (.agg cells)) (hcs : c0.size = cells.size) (hinfo : (P.info? ty).map (·.size) = some cells.size) (hone : cells.all (·.oneCell') = true)
    (hK : ∀ w2, RInv ops n (Ext w) (fun i => i == i0) (fun _ => madeE w T cells) A listed b w2 → K b w2) : wpOp P ops Q n K b w1 := by
  obtain ⟨q, hq, hv, hB⟩ := h.loose i0 hi0 (by simp) hl0 d hd0
  have he := (h.near je hjen (by simpa using hjei) hlj e hje).trans hAe
  unfold wpOp
  simp only [ho]
  rw [if_pos (by simp [Region.wanted, hog])]
  have hx : b.eval (.tmp d) = .pointer (some ⟨q, 0, none⟩) := by
    rw [← hv]; rfl
  have hy : b.eval (.tmp e) = .agg cells := by
    show b.tmps.getD e undef = _
    rw [Array.getD_eq_getD_getElem?, he]; rfl
  refine .inl (wp_store_mid ty (.tmp d) (.tmp e) hop q 0 cells hx hy (fun k hk => ⟨?_, hB.frozen _⟩) hinfo hone ?_)
  · rw [hB.cell, Array.getElem?_eq_getElem (by omega)]; rfl
  · have hE : Ext w (w1.setCells q 0 cells.toList) := ((h.s.keep (fun _ => False)).setCells _ _ (.inr hq)).ext (fun _ _ h => h)
    have hB2 := hB.setCells cells.toList 0
    rw [spliceA_all _ _ hcs] at hB2
    have hput : b.put o.dst undef = b := by rw [hodst]; rfl
    rw [hput]
    exact hK _ (h.turn hE (fun t ht _ => by
      obtain rfl : d = t := Option.some.inj (hd0.symm.trans ht)
      rw [hv]; exact ⟨q, hq, rfl, hB2⟩))

theorem wp_region_def {id : Nat} {Q : Exit → Act → World → Prop} {a : Act} {w : World} {l : List Oper} (n i0 d j : Nat) (T : TypeId) (c0 : Array Value) (hm : P.follows .mixedOrders = true)
    (hB : okDef l n i0 d j a.tmps.size = true)
    (h : wpT P l.toArray (Ext w) (fun i => i == i0) (fun _ => madeE w T c0) (fun A => A.tmps.size = a.tmps.size → ∃ (ty : TypeId) (e je : Nat) (o : Oper) (cells : Array Value),
        l.toArray[n]? = some o ∧ o.op = .store ty (.tmp d) (.tmp e) ∧ o.guard = none ∧ o.dst = none ∧ (l.toArray[je]?).bind (·.dst) = some e ∧ je < n ∧ je ≠ j ∧ je ≠ i0 ∧ A.tmps[e]? = some (.agg cells) ∧ c0.size = cells.size ∧ (P.info? ty).map (·.size) = some cells.size ∧ cells.all (·.oneCell') = true ∧
        ∀ q w', Ext w w' → w.heap.size ≤ q → Blk w' q T cells → wpList P l.toArray Q (l.drop (n + 1)) (A.put (some d) (.pointer (some ⟨q, 0, none⟩))) w') 0 (l.take n) a) : (Code.region id l.toArray true).wp P Q a w := by
  simp only [okDef, Bool.and_eq_true, decide_eq_true_eq, beq_iff_eq] at hB
  obtain ⟨⟨⟨⟨⟨⟨⟨⟨⟨⟨⟨⟨⟨⟨⟨⟨⟨hsel, hn⟩, hs⟩, hc⟩, hok⟩, hin⟩, hjn⟩, hi0⟩, hji⟩, hd0⟩, hdN⟩, hr1⟩, hr2⟩, hcc1⟩, hcc2⟩, hcc3⟩, hrj⟩, hseq⟩ := hB
  have hn' : n < l.length := by simpa using hn
  have htl : (l.take n).length = n := by simp; omega
  have hdl : (l.drop (n + 1)).length = l.toArray.size - (n + 1) := by simp
  have hsz1 : l.toArray.size - n = (l.toArray.size - (n + 1)) + 1 := by omega
  have hsz2 : n + (l.toArray.size - n) = l.toArray.size := by omega
  obtain ⟨A, hq, hd, hsz, hfar, hops⟩ := wpT_end hsel hok (fun _ _ => trivial) (l.take n) 0 a (fun j hj => by
    have hj' : j < n := by rw [htl] at hj; exact hj
    simp [hj']) (by simpa using htl) hin h
  obtain ⟨ty, e, je, o, cells, ho, hop, hog, hodst, hje, hjen, hjej, hjei, hAe, hcs, hinfo, hone, hfin⟩ := hq hsz
  refine wp_region_any hm ?_
  have hE : ∀ (i : Nat) (v : Value) (w1 w2 : World), (fun (_ : Nat) => madeE w T c0) i v w1 → Ext w1 w2 → (fun (_ : Nat) => madeE w T c0) i v w2 := fun _ _ _ _ h hx => h.ext hx
  have hE1 : ∀ (i : Nat) (v : Value) (w1 w2 : World), (fun (_ : Nat) => madeE w T cells) i v w1 → Ext w1 w2 → (fun (_ : Nat) => madeE w T cells) i v w2 := fun _ _ _ _ h hx => h.ext hx
  have hfinish : ∀ b w1, RInv l.toArray n (Ext w) (fun i => i == i0) (fun _ => madeE w T cells) A (canonN n (l.toArray.size - n)) b w1 → wpAny P .any l.toArray Q (l.toArray.size - (n + 1)) (canonN (n + 1) (l.toArray.size - (n + 1))) b w1 := fun b w1 hI => by
    obtain ⟨v, ⟨q, hq, rfl, hB⟩, rfl⟩ := hI.eq1 hi0 hd0 (by rw [hsz]; exact hdN)
    have := wpAny_of_seq (md := .any) (Q' := Q) (l.drop (n + 1)) (n + 1) _ (A.put (some d) (.pointer (some ⟨q, 0, none⟩))) w1 (fun j => by simp [List.getElem?_drop]) (by rw [hdl]; exact hseq) (hfin q w1 hI.s hq hB)
    rwa [hdl] at this
  have hc0 : cnt (Array.replicate l.toArray.size false) n = n := by
    have : ∀ k, k ≤ l.toArray.size → cnt (Array.replicate l.toArray.size false) k = k := by
      intro k
      induction k with
      | zero => intro _; rfl
      | succ k ih =>
        intro hk
        simp only [cnt]
        rw [ih (by omega)]
        have : (Array.replicate l.toArray.size false).getD k true = false := by simp only [Array.getD_eq_getD_getElem?]; rw [Array.getElem?_replicate, if_pos (by omega)]; rfl
        rw [this]; simp
    exact this n (by omega)
  have h0 : RInv l.toArray n (Ext w) (fun i => i == i0) (fun _ => madeE w T c0) A (Array.replicate l.toArray.size false) a { w with drawn := w.drawn + 1 } := by
    have hno : ∀ j, (Array.replicate l.toArray.size false).getD j true = true → l.toArray.size ≤ j := fun j hj => by
      rcases Nat.lt_or_ge j l.toArray.size with h' | h'
      · simp only [Array.getD_eq_getD_getElem?] at hj
        rw [Array.getElem?_replicate, if_pos h'] at hj
        cases hj
      · exact h'
    refine ⟨(Ext.refl w).drew, hd.symm, hsz.symm, fun t ht => (hfar t fun j _ h2 _ => ht j h2).symm, fun j hj _ hl => ?_, fun j hj _ hl => ?_, ?_⟩
    · have := hno j hl; omega
    · have := hno j hl; omega
    · exact ⟨by simp, fun j oj _ hl => (by rw [getD_replicate_false] at hl; cases hl), fun t _ ht => getD_in (by simpa using ht) (getD_replicate_false _ _)⟩
  have hmain := wpAny_of_invJ (P := P) (Q := Q) (S := Ext w) hE hsel hs hc hn hok (by rw [hsz]; exact hin) hjn (fun i o hi ho => hops i o (Nat.zero_le _) hi ho)
    (fun b w1 hI => by
      refine wpAny_one hsz1 hr1 ?_
      refine store_step hI hi0 hd0 (canonN_get hi0) ho hop hog hodst hje hjen hjei (canonN_get hjen) hAe hcs hinfo hone (fun w2 hI2 => ?_)
      rw [hcc1]
      exact hfinish b w2 hI2)
    (fun b w1 hI => by
      refine store_step hI hi0 hd0 (canonJ_get hi0 (Ne.symm hji)) ho hop hog hodst hje hjen hjei (canonJ_get hjen hjej) hAe hcs hinfo hone (fun w2 hI2 => ?_)
      refine wpAny_one hsz1 hr2 ?_
      have hrj' : j ∈ Region.ready .any l.toArray (canonJ n (l.toArray.size - n) j) := by simpa using hrj
      obtain ⟨hun, oj, hoj, _⟩ := mem_ready.1 hrj'
      have okj := List.all_eq_true.1 hok j (List.mem_range.2 hjn)
      have hal := hI2.alike hoj okj hrj'
      have hse : ∀ cs x, oj.op ≠ .select cs x := fun cs x => Region.noSelect_spec hsel j oj cs x hoj
      have hbd : ∀ d, oj.dst = some d → d < A.tmps.size := fun d hd => by
        have h1 := List.all_eq_true.1 hin j (List.mem_range.2 hjn)
        have h2 : (l.toArray[j]?).bind (·.dst) = some d := by rw [hoj]; exact hd
        rw [h2] at h1
        rw [hsz]; simpa using h1
      have hlo : (j == i0) = false := by simpa using hji
      have hop' := hops j oj (Nat.zero_le _) hjn hoj
      simp only [hlo, Bool.false_eq_true, if_false] at hop'
      unfold wpOp
      simp only [hoj]
      obtain ⟨v, hfix, hval⟩ : ∃ v, Fix P l.toArray (Ext w) oj A v ∧ ∀ d, oj.dst = some d → d < A.tmps.size → A.tmps[d]? = some v := by
        rcases hop' with h1 | ⟨h1, v, h2⟩
        · cases hd : oj.dst with
          | none => rw [hd] at h1; exact ⟨_, h1, fun d e => by cases e⟩
          | some d =>
            rw [hd] at h1
            refine ⟨_, h1, fun d' e hlt => ?_⟩
            obtain rfl : d = d' := Option.some.inj e
            simp [Array.getD_eq_getD_getElem?, hlt]
        · exact ⟨v, h2, fun d e => by rw [h1] at e; cases e⟩
      rcases hfix.out with ⟨hw, hy⟩ | ⟨hw, rfl⟩
      · rw [if_pos (by rw [alike_wanted hal]; exact hw)]
        refine .inl (wp_of_yields (R := fun u w' => u = v ∧ Ext w w' ∧ Ext w2 w') ?_ fun u w' ⟨h1, h2, h3⟩ => ?_)
        · have := hy w2 hI2.s
          unfold yields at this ⊢
          rw [alike_exec hse hal]
          exact this
        · subst h1
          have hI3 := hI2.step hE1 hoj okj hjn hrj' h2 h3 (fun _ => hval) (fun e => by simp [hji] at e) hbd
          rw [hcc3] at hI3
          rw [hcc2]
          exact hfinish _ w' hI3
      · rw [if_neg (by rw [alike_wanted hal, hw]; simp)]
        have hI3 := hI2.step hE1 hoj okj hjn hrj' hI2.s (Ext.refl w2) (fun _ => hval) (fun e => by simp [hji] at e) hbd
        rw [hcc3] at hI3
        rw [hcc2]
        exact hfinish _ w2 hI3)
    n _ _ _ hc0 h0
  rw [hsz2] at hmain
  exact hmain
end
end Go.Proofs.YtcipokldcjappaaGreat

namespace Go.Proofs.YtcipokldcjappaaGreat
open Go.RowKit

theorem TabB.ext {w w' : World} {t tb : Nat} (h : TabB w t tb) (hx : Ext w w') : TabB w' t tb := h.elim fun a h => h.elim fun b h => h.elim fun c h => h.elim fun d h => ⟨a, b, c, d, h.ext hx⟩
theorem TabB.cell {w : World} {t tb : Nat} (h : TabB w t tb) : w.cell? ⟨t, 3, none⟩ = some (.pointer (some ⟨tb, 0, none⟩)) := h.elim fun _ h => h.elim fun _ h => h.elim fun _ h => h.elim fun _ h => h.cell 3
theorem TabB.lt {w : World} {t tb : Nat} (h : TabB w t tb) : t < w.heap.size := World.block_lt_of_cell? w _ h.cell
/-- the table, as it can be asked -/
structure TabAt (w : World) (t tb : Nat) (A F : Value) (ar : List Nd) (fr : List Nat) (n : Int) : Prop where
  head : TabB w t tb
  tree : TrieAt w tb A F ar fr n
theorem TabAt.ext {w w' : World} {t tb : Nat} {A F : Value} {ar : List Nd} {fr : List Nat} {n : Int} (h : TabAt w t tb A F ar fr n) (hx : Ext w w') : TabAt w' t tb A F ar fr n := ⟨h.head.ext hx, h.tree.ext hx⟩

theorem tmade_c (t tb : Nat) (w : World) (a0 : w.cell? ⟨t, 3, none⟩ = some (.pointer (some ⟨tb, 0, none⟩))) :
    Calls Tryz.prog 91 #[.pointer (some ⟨t, 0, none⟩)] w fun e w' => e = .returned (.bool true) ∧ w = w' := by
  go_enter Tryz.func91, Tryz.ntmps91
  go_wp2
  go_ret
  exact ⟨rfl, rfl⟩

set_option maxRecDepth 100000 in
set_option maxHeartbeats 2000000 in
theorem place_c (t tb : Nat) (hi lo : BitVec 64) (v : Bool) (A F : Value) (ar : List Nd) (fr : List Nat) (n : Int) (w : World) (hT : TabAt w t tb A F ar fr n) :
    Calls Tryz.prog 121 #[.pointer (some ⟨t, 0, none⟩), .agg #[(.int .u64 (BitVec.toNat (hi) : Int)), (.int .u64 (BitVec.toNat (lo) : Int)), .bool v]] w
      fun e w' => e = .returned (.tuple #[(.int .i64 ((lastOf (aboveL ar (wholeP ⟨hi, lo, v⟩))).hop)), .bool (!(aboveL ar (wholeP ⟨hi, lo, v⟩)).isEmpty)]) ∧ Ext w w' := by
  have hlo := fun w1 (hx : Ext w w1) => longest_c tb hi lo v A F ar fr n w1 (hT.ext hx).tree
  generalize lastOf (aboveL ar (wholeP ⟨hi, lo, v⟩)) = x at hlo ⊢
  generalize (aboveL ar (wholeP ⟨hi, lo, v⟩)).isEmpty = bo at hlo ⊢
  have Hlo := Lib.hid hlo
  have a0 := hT.head.cell
  have hlt := hT.head.lt
  clear hlo hT
  go_enter Tryz.func121, Tryz.ntmps121
  go_wp2_with (first
    | (go_at_call 91; (with_reducible refine (tmade_c t tb _ (by go_simp)).mono ?_); rintro e w1 ⟨rfl, rfl⟩))
  refine wp_region_def 10 9 6 8 212 #[.int .u64 0, .int .u64 0, .bool false, (.int .i64 (0)), (.int .i64 (0))] rfl (by kernel_rfl) ?_
  dsimp only [List.take, List.drop]
  repeat ((first | (refine wpT_skip rfl rfl ?_) | (apply wpT_fix rfl rfl; focus (intro w1 hS; have c1 := hS.cell; have f1 := hS.frozen; have z1 := hS.size; go_simp; first | exact ⟨rfl, hS, Ext.refl _⟩ | (exact ⟨⟨_, by omega, rfl, Blk.new _ _ _⟩, hS.alloc _, (Ext.refl _).alloc _⟩) | (((with_reducible refine (Hlo.out _ (((Ext.refl w).alloc _).trans hS)).mono ?_); rintro e w2 ⟨rfl, h2⟩; exact ⟨_, rfl, rfl, hS.trans h2, h2⟩)))) | (refine wpT_loose rfl rfl ?_ ?_; focus (intro w1 hS; have c1 := hS.cell; have f1 := hS.frozen; have z1 := hS.size; go_simp; first | (exact ⟨⟨_, by omega, rfl, Blk.new _ _ _⟩, hS.alloc _, (Ext.refl _).alloc _⟩) | (((with_reducible refine (Hlo.out _ (((Ext.refl w).alloc _).trans hS)).mono ?_); rintro e w2 ⟨rfl, h2⟩; exact ⟨_, rfl, rfl, hS.trans h2, h2⟩))))); try simp only [Act.put, List.setIfInBounds_toArray, List.set_cons_zero, List.set_cons_succ])
  refine wpT_nil ?_
  rintro -
  refine ⟨_, 18, 7, _, _, rfl, rfl, rfl, rfl, rfl, by decide, by decide, by decide, rfl, rfl, by kernel_rfl, by simp [Value.oneCell'], ?_⟩
  intro q w1 hS hq hB
  have HE := Lib.hid (show Ext w w1 from ((Ext.refl w).alloc _).trans hS)
  have d4 : w1.cell? ⟨q, 4, none⟩ = some ((.int .i64 (x.hop))) := hB.cell 4
  clear hS hB hq
  simp only [Act.put, List.setIfInBounds_toArray, List.set_cons_zero, List.set_cons_succ]
  go_wp2
  go_ret2
  exact ⟨rfl, HE.out⟩

set_option maxRecDepth 100000 in
set_option maxHeartbeats 2000000 in
theorem hit0_c (t tb : Nat) (hi lo : BitVec 64) (v : Bool) (A F : Value) (ar : List Nd) (fr : List Nat) (n : Int) (w : World) (hT : TabAt w t tb A F ar fr n) (hnil : (aboveL ar (wholeP ⟨hi, lo, v⟩)).isEmpty = true) :
    Calls Tryz.prog 100 #[.pointer (some ⟨t, 0, none⟩), .agg #[(.int .u64 (BitVec.toNat (hi) : Int)), (.int .u64 (BitVec.toNat (lo) : Int)), .bool v]] w
      fun e w' => e = .returned (.tuple #[.agg #[.int .u64 0, .int .u64 0, .bool false, (.int .i64 (0)), (.int .i64 (0))], .bool false]) ∧ Ext w w' := by
  have hlo := fun w1 (hx : Ext w w1) => place_c t tb hi lo v A F ar fr n w1 (hT.ext hx)
  rw [hnil] at hlo
  have Hlo := Lib.hid hlo
  clear hlo hT hnil
  go_enter Tryz.func100, Tryz.ntmps100
  go_wp2_with (first
    | (go_at_call 121; (with_reducible refine (Hlo.out _ (((Ext.refl w).alloc _).alloc _)).mono ?_); rintro e w1 ⟨rfl, h1⟩; have c_h1 := h1.cell; have f_h1 := h1.frozen; have z_h1_0 := h1.lt (b := w.heap.size) (by first | omega | (simp <;> omega)); have z_h1_1 := h1.lt (b := w.heap.size + 1) (by first | omega | (simp <;> omega))))
  refine bodyPost_ret (v := .tuple #[.agg #[.int .u64 0, .int .u64 0, .bool false, (.int .i64 (0)), (.int .i64 (0))], .bool false]) (by simp [results, Tryz.results100, go_sem, *]) rfl ⟨rfl, ?_⟩
  (repeat (first | with_reducible exact Ext.refl _ | with_reducible assumption | (with_reducible refine Ext.set ?_ (by simp <;> omega) _) | (with_reducible refine Ext.alloc ?_ _) | (with_reducible refine Ext.drew ?_) | (with_reducible refine Ext.trans ?_ (by assumption)) | exact Ext.refl _))

set_option maxRecDepth 100000 in
set_option maxHeartbeats 1000000 in
theorem leaveAll0_c (x : Value) (a : Option Addr) (c : Nat) (w : World) :
    Calls Tryz.prog 93 #[x, .slice a 0 c] w fun e w' => e = .returned (.slice none 0 0) ∧ w = w' := by
  go_enter Tryz.func93, Tryz.ntmps93
  go_wp2
  go_loopw [5, 10] (fun o k wr => o = .slice none 0 0 ∧ k = (.int .i64 (0)) ∧ w = wr) (fun _ _ _ => 0)
  case atStart => exact ⟨rfl, rfl, rfl⟩
  case round =>
    obtain ⟨rfl, rfl, rfl⟩ := hrel
    go_wp2
    go_ret
    exact ⟨rfl, rfl⟩
end Go.Proofs.YtcipokldcjappaaGreat

namespace Go.Proofs.YtcipokldcjappaaGreat
open Go.RowKit

theorem own_slice {w : World} {base e size n : Nat} {v : Value} {xs : List Value} (h : w.ownsRow base e size v n xs) : ∃ a c, v = .slice a n c := by
  rcases own_form h with ⟨rfl, rfl⟩ | ⟨g, cap, rfl, _⟩
  · exact ⟨_, _, rfl⟩
  · exact ⟨_, _, rfl⟩

theorem above0_c (b : Nat) (hi lo : BitVec 64) (v : Bool) (n : Int) (A F : Value) (ar : List Nd) (fr : List Nat) (m : Int) (w : World) (hT : TrieAt w b A F ar fr m) (h0 : (aboveL ar ⟨⟨hi, lo, v⟩, n⟩).length = 0) :
    Calls Tryz.prog 92 #[.pointer (some ⟨b, 0, none⟩), .agg #[(.int .u64 (BitVec.toNat (hi) : Int)), (.int .u64 (BitVec.toNat (lo) : Int)), .bool v, (.int .i64 (n))]] w fun e w' => ∃ a c, e = .returned (.slice a 0 c) ∧ Ext w w' :=
  (above_c b hi lo v n A F ar fr m w hT).mono fun e w' ⟨o, he, hx, hO⟩ => by
    rw [h0] at hO
    obtain ⟨a, c, rfl⟩ := own_slice hO
    exact ⟨a, c, he, hx⟩
theorem under0_c (b : Nat) (hi lo : BitVec 64) (v : Bool) (n : Int) (A F : Value) (ar : List Nd) (fr : List Nat) (m : Int) (w : World) (hT : TrieAt w b A F ar fr m) (h0 : (underL ar ⟨⟨hi, lo, v⟩, n⟩).length = 0) (hsz : sizeL ar ⟨⟨hi, lo, v⟩, n⟩ ≤ 1000000) :
    Calls Tryz.prog 94 #[.pointer (some ⟨b, 0, none⟩), .agg #[(.int .u64 (BitVec.toNat (hi) : Int)), (.int .u64 (BitVec.toNat (lo) : Int)), .bool v, (.int .i64 (n))]] w fun e w' => ∃ a c, e = .returned (.slice a 0 c) ∧ Ext w w' :=
  (under_c b hi lo v n A F ar fr m w hT hsz).mono fun e w' ⟨o, he, hx, hO⟩ => by
    rw [h0] at hO
    obtain ⟨a, c, rfl⟩ := own_slice hO
    exact ⟨a, c, he, hx⟩

set_option maxRecDepth 100000 in
set_option maxHeartbeats 2000000 in
theorem flush0_c (t tb : Nat) (hi lo : BitVec 64) (v : Bool) (n : Int) (A F : Value) (ar : List Nd) (fr : List Nat) (m : Int) (w : World) (hT : TabAt w t tb A F ar fr m)
    (hs : saneP ⟨⟨hi, lo, v⟩, n⟩ = true) (ha : (aboveL ar ⟨⟨hi, lo, v⟩, n⟩).length = 0) (hu : (underL ar ⟨⟨hi, lo, v⟩, n⟩).length = 0) (hsz : sizeL ar ⟨⟨hi, lo, v⟩, n⟩ ≤ 1000000) :
    Calls Tryz.prog 65 #[.pointer (some ⟨t, 0, none⟩), .agg #[(.int .u64 (BitVec.toNat (hi) : Int)), (.int .u64 (BitVec.toNat (lo) : Int)), .bool v, (.int .i64 (n))]] w fun e w' => e = .returned (.slice none 0 0) ∧ Ext w w' := by
  have Hab := Lib.hid (fun w1 (hx : Ext w w1) => above0_c tb hi lo v n A F ar fr m w1 (hT.ext hx).tree ha)
  have Hun := Lib.hid (fun w1 (hx : Ext w w1) => under0_c tb hi lo v n A F ar fr m w1 (hT.ext hx).tree hu hsz)
  have hsp := fun w => saneP_c hi lo v n w
  rw [hs] at hsp
  have Hs := Lib.hid hsp
  have a0 := hT.head.cell
  have hlt := hT.head.lt
  clear hsp hs ha hu hsz hT
  go_enter Tryz.func65, Tryz.ntmps65
  go_wp2_with (first
    | (go_at_call 91; (with_reducible refine (tmade_c t tb _ (by go_simp)).mono ?_); rintro e w1 ⟨rfl, rfl⟩)
    | (go_at_call 59; (with_reducible refine (Hs.out _).mono ?_); rintro e w1 ⟨rfl, h1⟩))
  have k0 : w1.cell? ⟨w.heap.size, 0, none⟩ = some ((.int .u64 (BitVec.toNat (hi) : Int))) := by rw [h1.cell _ _ (by simp)]; go_simp
  have k1 : w1.cell? ⟨w.heap.size, 1, none⟩ = some ((.int .u64 (BitVec.toNat (lo) : Int))) := by rw [h1.cell _ _ (by simp)]; go_simp
  have k2 : w1.cell? ⟨w.heap.size, 2, none⟩ = some (.bool v) := by rw [h1.cell _ _ (by simp)]; go_simp
  have k3 : w1.cell? ⟨w.heap.size, 3, none⟩ = some ((.int .i64 (n))) := by rw [h1.cell _ _ (by simp)]; go_simp
  have k4 : w1.cell? ⟨t, 3, none⟩ = some (.pointer (some ⟨tb, 0, none⟩)) := by rw [h1.cell _ _ (by simp; omega)]; go_simp
  have hE : Ext w w1 := ((Ext.refl w).alloc _).trans h1
  have z0 : w.heap.size < w1.heap.size := h1.lt (by simp)
  have zt : t < w1.heap.size := by omega
  have HE := Lib.hid hE
  clear h1 hE
  go_region_held3 (fun w' => w'.cell? ⟨w.heap.size, 0, none⟩ = some ((.int .u64 (BitVec.toNat (hi) : Int))) ∧ w'.cell? ⟨w.heap.size, 1, none⟩ = some ((.int .u64 (BitVec.toNat (lo) : Int))) ∧ w'.cell? ⟨w.heap.size, 2, none⟩ = some (.bool v) ∧ w'.cell? ⟨w.heap.size, 3, none⟩ = some ((.int .i64 (n))) ∧ w'.cell? ⟨t, 3, none⟩ = some (.pointer (some ⟨tb, 0, none⟩)))
    (first | (go_split_ands; refine ⟨?_, ?_, ?_, ?_, ?_⟩ <;> first | with_reducible assumption | (rw [cell_drew_own]; with_reducible assumption) | (rw [hx.cell _ _ (by first | assumption | (simp <;> omega))]; with_reducible assumption) | (exact hx.lt (by first | assumption | (simp <;> omega))) | (rw [World.cell?_alloc_lt _ _ _ (by first | assumption | (simp <;> omega))]; with_reducible assumption) | (((repeat rw [World.cell?_setCell_far _ _ _ _ (by simp <;> omega)])); with_reducible assumption) | (simp <;> omega)) | go_keep)
    (first
     | (go_at_call 92; (with_reducible refine (Hab.out _ HE.out.drew).mono ?_); rintro e w2 ⟨a2, c2, rfl, hx⟩; have HX := Lib.hid hx))
  have hx := HX.out
  have j0 : w2.cell? ⟨w.heap.size, 0, none⟩ = some ((.int .u64 (BitVec.toNat (hi) : Int))) := by rw [hx.cell _ _ z0]; exact k0
  have j1 : w2.cell? ⟨w.heap.size, 1, none⟩ = some ((.int .u64 (BitVec.toNat (lo) : Int))) := by rw [hx.cell _ _ z0]; exact k1
  have j2 : w2.cell? ⟨w.heap.size, 2, none⟩ = some (.bool v) := by rw [hx.cell _ _ z0]; exact k2
  have j3 : w2.cell? ⟨w.heap.size, 3, none⟩ = some ((.int .i64 (n))) := by rw [hx.cell _ _ z0]; exact k3
  have j4 : w2.cell? ⟨t, 3, none⟩ = some (.pointer (some ⟨tb, 0, none⟩)) := by rw [hx.cell _ _ zt]; exact k4
  have y0 : w.heap.size < w2.heap.size := hx.lt z0
  have yt : t < w2.heap.size := by omega
  have HE2 := Lib.hid (HE.out.drew.trans hx)
  rename_i hHeld
  clear hHeld hx k0 k1 k2 k3 k4 z0 zt HX
  go_wp2_with fail
  go_region_held3 (fun w' => w'.cell? ⟨w.heap.size, 0, none⟩ = some ((.int .u64 (BitVec.toNat (hi) : Int))) ∧ w'.cell? ⟨w.heap.size, 1, none⟩ = some ((.int .u64 (BitVec.toNat (lo) : Int))) ∧ w'.cell? ⟨w.heap.size, 2, none⟩ = some (.bool v) ∧ w'.cell? ⟨w.heap.size, 3, none⟩ = some ((.int .i64 (n))) ∧ w'.cell? ⟨t, 3, none⟩ = some (.pointer (some ⟨tb, 0, none⟩)))
    (first | (go_split_ands; refine ⟨?_, ?_, ?_, ?_, ?_⟩ <;> first | with_reducible assumption | (rw [cell_drew_own]; with_reducible assumption) | (rw [hx.cell _ _ (by first | assumption | (simp <;> omega))]; with_reducible assumption) | (exact hx.lt (by first | assumption | (simp <;> omega))) | (rw [World.cell?_alloc_lt _ _ _ (by first | assumption | (simp <;> omega))]; with_reducible assumption) | (((repeat rw [World.cell?_setCell_far _ _ _ _ (by simp <;> omega)])); with_reducible assumption) | (simp <;> omega)) | go_keep)
    (first
     | (go_at_call 94; (with_reducible refine (Hun.out _ HE2.out.drew).mono ?_); rintro e w3 ⟨a3, c3, rfl, hx⟩; have HX := Lib.hid hx)
     | (go_at_call 93; (with_reducible refine (leaveAll0_c _ _ _ _).mono ?_); rintro e w4 ⟨rfl, rfl⟩))
  rename_i hHeld
  clear hHeld
  go_wp2
  go_ret
  exact ⟨rfl, HE2.out.drew.trans HX.out⟩
end Go.Proofs.YtcipokldcjappaaGreat

namespace Go.Proofs.YtcipokldcjappaaGreat
open Go.RowKit

theorem TrieAt.keepH {w w' : World} {b h : Nat} {A F : Value} {ar : List Nd} {fr : List Nat} {n : Int} {cs : Array Value} (hT : TrieAt w b A F ar fr n) (hB : Blk w h 106 cs) (hK : Keep (fun k => k = h) w w') : TrieAt w' b A F ar fr n :=
  hT.keep hK (fun e => Blk.ne hT.head hB (by decide) e) (fun g hg e => own_ne hT.arena hB (by decide) (by rw [hg, e])) (fun g hg e => own_ne hT.free hB (by decide) (by rw [hg, e]))

section
variable {w w' : World} {h r rb um t tb : Nat} {A F A2 F2 : Value} {ar ar2 : List Nd} {fr fr2 : List Nat} {n n2 most hops bd : Int} {st st' : List Int}
theorem HierE.keep (hH : HierE w h r rb um t tb A F A2 F2 ar ar2 fr fr2 n n2 most hops bd st) (hK : Keep (fun k => k = h) w w') (hb : Blk w' h 106 (hCells (ptr r) (ptr t) (.slice none 0 0) bd st')) (hs : StOk st') :
    HierE w' h r rb um t tb A F A2 F2 ar ar2 fr fr2 n n2 most hops bd st' := by
  obtain ⟨es, c, hu⟩ := hH.uses
  have hne : um ≠ h := by
    rintro rfl
    have := hH.head
    unfold Blk at this
    rw [hu] at this
    cases this
  refine ⟨hb, ?_, hH.tree.keepH hH.head hK, ⟨es, c, (hK.block um (Array.getElem?_eq_some_iff.1 hu).1 hne).trans hu⟩, ?_, hH.leaves.keepH hH.head hK, hs, hH.apart⟩
  · exact Blk.keep hH.rib hK (fun e => Blk.ne hH.rib hH.head (by decide) e)
  · obtain ⟨a, b, c, d, hb⟩ := hH.tab
    exact ⟨a, b, c, d, hb.keep hK (fun e => Blk.ne hb hH.head (by decide) e)⟩
theorem HierE.ext (hH : HierE w h r rb um t tb A F A2 F2 ar ar2 fr fr2 n n2 most hops bd st) (hx : Ext w w') : HierE w' h r rb um t tb A F A2 F2 ar ar2 fr fr2 n n2 most hops bd st := by
  obtain ⟨es, c, hu⟩ := hH.uses
  exact ⟨hH.head.ext hx, Blk.ext hH.rib hx, hH.tree.ext hx, ⟨es, c, (hx.block um (Array.getElem?_eq_some_iff.1 hu).1).trans hu⟩, hH.tab.ext hx, hH.leaves.ext hx, hH.ok, hH.apart⟩
theorem HierE.ribAt (hH : HierE w h r rb um t tb A F A2 F2 ar ar2 fr fr2 n n2 most hops bd st) : RibAt w r rb A F ar fr n := ⟨Blk.cell hH.rib 0, hH.tree⟩
theorem HierE.tabAt (hH : HierE w h r rb um t tb A F A2 F2 ar ar2 fr fr2 n n2 most hops bd st) : TabAt w t tb A2 F2 ar2 fr2 n2 := ⟨hH.tab, hH.leaves⟩
theorem HierE.c0 (hH : HierE w h r rb um t tb A F A2 F2 ar ar2 fr fr2 n n2 most hops bd st) : w.cell? ⟨h, 0, none⟩ = some (.pointer (some ⟨r, 0, none⟩)) := (hH.head.cell 0).trans (hC_0 _ _ _ _ _).1
theorem HierE.c1 (hH : HierE w h r rb um t tb A F A2 F2 ar ar2 fr fr2 n n2 most hops bd st) : w.cell? ⟨h, 1, none⟩ = some (.pointer (some ⟨t, 0, none⟩)) := (hH.head.cell 1).trans (hC_0 _ _ _ _ _).2.1
theorem HierE.c2 (hH : HierE w h r rb um t tb A F A2 F2 ar ar2 fr fr2 n n2 most hops bd st) : w.cell? ⟨h, 2, none⟩ = some (.slice none 0 0) := (hH.head.cell 2).trans (hC_0 _ _ _ _ _).2.2.1
theorem HierE.c3 (hH : HierE w h r rb um t tb A F A2 F2 ar ar2 fr fr2 n n2 most hops bd st) : w.cell? ⟨h, 3, none⟩ = some ((.int .i64 (bd))) := (hH.head.cell 3).trans (hC_0 _ _ _ _ _).2.2.2
theorem HierE.lt (hH : HierE w h r rb um t tb A F A2 F2 ar ar2 fr fr2 n n2 most hops bd st) : h < w.heap.size := hH.head.lt
/-- what a hier's own block does not hold stays so -/
theorem hC_set2 (R T : Value) (L : Value) (bd : Int) (st : List Int) : ((hCells R T L bd st).setIfInBounds 2 L).setIfInBounds 3 (.int .i64 bd) = hCells R T L bd st := by
  have e := hC_0 R T L bd st
  apply Array.ext_getElem?
  intro i
  by_cases h3 : i = 3
  · subst h3; rw [Array.getElem?_setIfInBounds_self, e.2.2.2]; simp [hC_size]; omega
  · rw [Array.getElem?_setIfInBounds_ne (by omega)]
    by_cases h2 : i = 2
    · subst h2; rw [Array.getElem?_setIfInBounds_self, e.2.2.1]; simp [hC_size]; omega
    · rw [Array.getElem?_setIfInBounds_ne (by omega)]
/-- A count is bumped. -/
theorem countE_c (hH : HierE w h r rb um t tb A F A2 F2 ar ar2 fr fr2 n n2 most hops bd st) (k : Nat) (kk m : Int) (hkk : kk = k) (hk : k < 17) (hm : m ≤ 9223372036854775807) :
    Calls Tryz.prog 43 #[.pointer (some ⟨h, 0, none⟩), (.int .i64 (kk)), (.int .i64 (m))] w fun e w' => e = .returned (.tuple #[]) ∧ Keep (fun k => k = h) w w' ∧ HierE w' h r rb um t tb A F A2 F2 ar ar2 fr fr2 n n2 most hops bd (bumpL st k m) := by
  subst hkk
  exact (count_c h r (ptr t) (.slice none 0 0) bd st k m w hH.head hH.ok hk hm).mono fun e w' ⟨he, hK, hb⟩ => ⟨he, hK, hH.keep hK hb (hH.ok.bump k m)⟩
end

theorem classed2_c (w : World) : Calls Tryz.prog 126 #[(.int .i64 (2))] w fun e w' => e = .returned ((.int .i64 (5))) ∧ w = w' := by
  go_enter Tryz.func126, Tryz.ntmps126
  go_wp2
  go_ret
  exact ⟨rfl, rfl⟩

set_option maxRecDepth 100000 in
set_option maxHeartbeats 2000000 in
theorem miss0_c (h r rb um t tb : Nat) (A F A2 F2 : Value) (ar ar2 : List Nd) (fr fr2 : List Nat) (n n2 most hops : Int) (st : List Int) (hi lo : BitVec 64) (v : Bool) (w : World)
    (hH : HierE w h r rb um t tb A F A2 F2 ar ar2 fr fr2 n n2 most hops 0 st) (hs : saneA ⟨hi, lo, v⟩ = true) (hg : govB ar (leafP ar ⟨hi, lo, v⟩) = true) :
    Calls Tryz.prog 102 #[.pointer (some ⟨h, 0, none⟩), .agg #[(.int .u64 (BitVec.toNat (hi) : Int)), (.int .u64 (BitVec.toNat (lo) : Int)), .bool v]] w
      fun e w' => e = .returned ((.int .i64 (2))) ∧ Keep (fun k => k = h) w w' ∧ HierE w' h r rb um t tb A F A2 F2 ar ar2 fr fr2 n n2 most hops 0 (bumpL (bumpL st 2 1) 5 1) := by
  have hlt := hH.lt
  have Hc := Lib.hid (countE_c (hH.ext ((Ext.refl w).alloc (.cells #[(.int .u64 (BitVec.toNat (hi) : Int)), (.int .u64 (BitVec.toNat (lo) : Int)), .bool v] 37))) 2 2 1 rfl (by omega) (by omega))
  have Hask := Lib.hid (fun w1 (hR : RibAt w1 r rb A F ar fr n) => ask0_c r rb hi lo v A F ar fr n w1 hR hs hg)
  have HH := Lib.hid hH
  clear hH hs hg
  go_enter Tryz.func102, Tryz.ntmps102
  go_wp2_with (first
    | (go_at_call 43; (with_reducible refine Hc.out.mono ?_); rintro e w1 ⟨rfl, hK, hH1⟩))
  have a0 := hH1.c0
  have a2 := hH1.c2
  have a3 := hH1.c3
  have z1 := hK.size
  have hb := hK.cell (p := ⟨w.heap.size, 0, none⟩) (by simp) (by simp; omega)
  have hb1 := hK.cell (p := ⟨w.heap.size, 1, none⟩) (by simp) (by simp; omega)
  have hb2 := hK.cell (p := ⟨w.heap.size, 2, none⟩) (by simp) (by simp; omega)
  have k0 : w1.cell? ⟨w.heap.size, 0, none⟩ = some ((.int .u64 (BitVec.toNat (hi) : Int))) := by rw [hb]; go_simp
  have k1 : w1.cell? ⟨w.heap.size, 1, none⟩ = some ((.int .u64 (BitVec.toNat (lo) : Int))) := by rw [hb1]; go_simp
  have k2 : w1.cell? ⟨w.heap.size, 2, none⟩ = some (.bool v) := by rw [hb2]; go_simp
  have zl : w.heap.size < w1.heap.size := by simp at z1; omega
  have hl1 : h < w1.heap.size := by omega
  have HK := Lib.hid (((Ext.refl w).alloc (.cells #[(.int .u64 (BitVec.toNat (hi) : Int)), (.int .u64 (BitVec.toNat (lo) : Int)), .bool v] 37)).keep (fun k => k = h) |>.trans hK)
  have HH1 := Lib.hid hH1
  clear hH1 hK hb hb1 hb2 z1
  refine wp_region_def 14 13 5 12 102 #[.slice none 0 0, (.int .i64 (0))] rfl (by kernel_rfl) ?_
  dsimp only [List.take, List.drop]
  repeat ((first | (refine wpT_skip rfl rfl ?_) | (apply wpT_fix rfl rfl; focus (intro w1 hS; have c1 := hS.cell; have f1 := hS.frozen; have z1 := hS.size; go_simp; first | exact ⟨rfl, hS, Ext.refl _⟩ | (exact ⟨⟨_, z1, rfl, Blk.new _ _ _⟩, hS.alloc _, (Ext.refl _).alloc _⟩) | (((with_reducible refine (Hask.out _ ((HH1.out.ext hS).ribAt)).mono ?_); rintro e w2 ⟨rfl, h2⟩; exact ⟨_, rfl, rfl, hS.trans h2, h2⟩)))) | (refine wpT_loose rfl rfl ?_ ?_; focus (intro w1 hS; have c1 := hS.cell; have f1 := hS.frozen; have z1 := hS.size; go_simp; first | (exact ⟨⟨_, z1, rfl, Blk.new _ _ _⟩, hS.alloc _, (Ext.refl _).alloc _⟩) | (((with_reducible refine (Hask.out _ ((HH1.out.ext hS).ribAt)).mono ?_); rintro e w2 ⟨rfl, h2⟩; exact ⟨_, rfl, rfl, hS.trans h2, h2⟩))))); try simp only [Act.put, List.setIfInBounds_toArray, List.set_cons_zero, List.set_cons_succ])
  refine wpT_nil ?_
  rintro -
  refine ⟨_, 20, 11, _, _, rfl, rfl, rfl, rfl, rfl, by decide, by decide, by decide, rfl, rfl, by kernel_rfl, by simp [Value.oneCell'], ?_⟩
  intro q w2 hS hq hB
  simp only [Act.put, List.setIfInBounds_toArray, List.set_cons_zero, List.set_cons_succ]
  have hH2 := HH1.out.ext hS
  have hK3 : Keep (fun k => k = h) w2 ((w2.setCell ⟨h, 2, none⟩ (.slice none 0 0)).setCell ⟨h, 3, none⟩ ((.int .i64 (0)))) := ((Keep.refl (fun k => k = h) w2).set (p := ⟨h, 2, none⟩) (.inl rfl) _).set (p := ⟨h, 3, none⟩) (.inl rfl) _
  have hb3 := (hH2.head.set 2 (.slice none 0 0)).set 3 ((.int .i64 (0)))
  rw [hC_set2] at hb3
  have hH3 := hH2.keep hK3 hb3 hH2.ok
  have Hc3 := Lib.hid (countE_c hH3 5 5 1 rfl (by omega) (by omega))
  have HK3 := Lib.hid ((HK.out.thenExt hS).trans hK3)
  have q0 : w2.cell? ⟨q, 0, none⟩ = some (.slice none 0 0) := hB.cell 0
  have q1 : w2.cell? ⟨q, 1, none⟩ = some ((.int .i64 (0))) := hB.cell 1
  have a0' : w2.cell? ⟨h, 2, none⟩ = some (.slice none 0 0) := hH2.c2
  have a1' : w2.cell? ⟨h, 3, none⟩ = some ((.int .i64 (0))) := hH2.c3
  have f' : ∀ j, w2.frozen? ⟨h, j, none⟩ = false := fun j => hH2.head.frozen j
  clear hH2 hK3 hb3 hH3 hB hS hq a0 a2 a3 k0 k1 k2 HH1
  go_wp2_with (first
    | (go_at_call 126; (with_reducible refine (classed2_c _).mono ?_); rintro e w4 ⟨rfl, rfl⟩)
    | (go_at_call 43; (with_reducible refine Hc3.out.mono ?_); rintro e w4 ⟨rfl, hK, hH4⟩; have HK4 := Lib.hid (HK3.out.trans hK); have HH4 := Lib.hid hH4; clear hK hH4))
  go_ret
  exact ⟨rfl, HK4.out, HH4.out⟩
end Go.Proofs.YtcipokldcjappaaGreat

namespace Go.Proofs.YtcipokldcjappaaGreat
open Go.RowKit

set_option maxRecDepth 100000 in
set_option maxHeartbeats 4000000 in
theorem lookup0_c (h r rb um t tb : Nat) (A F A2 F2 : Value) (ar ar2 : List Nd) (fr fr2 : List Nat) (n n2 most hops : Int) (st : List Int) (hi lo : BitVec 64) (v : Bool) (w : World)
    (hH : HierE w h r rb um t tb A F A2 F2 ar ar2 fr fr2 n n2 most hops 0 st) (hs : saneA ⟨hi, lo, v⟩ = true) (hg : govB ar (leafP ar ⟨hi, lo, v⟩) = true) (hnil : (aboveL ar2 (wholeP ⟨hi, lo, v⟩)).isEmpty = true) :
    Calls Tryz.prog 67 #[.pointer (some ⟨h, 0, none⟩), .agg #[(.int .u64 (BitVec.toNat (hi) : Int)), (.int .u64 (BitVec.toNat (lo) : Int)), .bool v]] w
      fun e w' => e = .returned (.tuple #[(.agg #[.int .u64 ((govR ar (wholeP ⟨hi, lo, v⟩)).p.a.hi.toNat : Int), .int .u64 ((govR ar (wholeP ⟨hi, lo, v⟩)).p.a.lo.toNat : Int), .bool (govR ar (wholeP ⟨hi, lo, v⟩)).p.a.v6, .int .i64 (govR ar (wholeP ⟨hi, lo, v⟩)).p.n, .int .i64 (govR ar (wholeP ⟨hi, lo, v⟩)).hop]), .bool (govB ar (wholeP ⟨hi, lo, v⟩)), (.int .i64 (2))]) ∧ Keep (fun k => k = h) w w' ∧ HierE w' h r rb um t tb A F A2 F2 ar ar2 fr fr2 n n2 most hops 0 (bumpL (bumpL (bumpL st 0 1) 2 1) 5 1) := by
  have hlt := hH.lt
  have a0 := hH.c0
  have hsa := fun w => sane_c hi lo v w
  rw [hs] at hsa
  have Hsa := Lib.hid hsa
  have Hhit := Lib.hid (fun w1 (hT : TabAt w1 t tb A2 F2 ar2 fr2 n2) => hit0_c t tb hi lo v A2 F2 ar2 fr2 n2 w1 hT hnil)
  have Hex := Lib.hid (fun w1 (hR : RibAt w1 r rb A F ar fr n) => exact_c r rb hi lo v A F ar fr n w1 hR)
  have Hmiss := Lib.hid (fun w1 st (hH : HierE w1 h r rb um t tb A F A2 F2 ar ar2 fr fr2 n n2 most hops 0 st) => miss0_c h r rb um t tb A F A2 F2 ar ar2 fr fr2 n n2 most hops st hi lo v w1 hH hs hg)
  have HH := Lib.hid (hH.ext (((Ext.refl w).alloc (.cells #[(.int .u64 (BitVec.toNat (hi) : Int)), (.int .u64 (BitVec.toNat (lo) : Int)), .bool v] 37)).alloc (.cells #[.int .u64 0, .int .u64 0, .bool false, (.int .i64 (0)), (.int .i64 (0))] 138)))
  generalize govR ar (wholeP ⟨hi, lo, v⟩) = x at Hex ⊢
  generalize govB ar (wholeP ⟨hi, lo, v⟩) = bo at Hex ⊢
  have HH0 := Lib.hid hH
  clear hH hs hg hnil hsa
  go_enter Tryz.func67, Tryz.ntmps67
  go_wp2_with (first
    | (go_at_call 69; (with_reducible refine (hmade_c h r _ (by go_simp)).mono ?_); rintro e w1 ⟨rfl, rfl⟩)
    | (go_at_call 99; (with_reducible refine (Hsa.out _).mono ?_); rintro e w1 ⟨rfl, h1⟩; have Hc := Lib.hid (countE_c (HH.out.ext h1) 0 0 1 rfl (by omega) (by omega)); have HX := Lib.hid h1; clear h1)
    | (go_at_call 43; (with_reducible refine Hc.out.mono ?_); rintro e w2 ⟨rfl, hK, hH2⟩))
  have hx := HX.out
  have z1 := hx.size
  have z2 := hK.size
  have hBa := (((Blk.new' w w.heap.size 37 #[(.int .u64 (BitVec.toNat (hi) : Int)), (.int .u64 (BitVec.toNat (lo) : Int)), .bool v] rfl).ext ((Ext.refl _).alloc _)).ext hx).keep hK (by omega)
  have hBb := ((Blk.new' (w.alloc _) (w.heap.size + 1) 138 #[.int .u64 0, .int .u64 0, .bool false, (.int .i64 (0)), (.int .i64 (0))] (by simp)).ext hx).keep hK (by omega)
  have HK := Lib.hid ((((((Ext.refl w).alloc _).alloc _).trans hx).keep (fun k => k = h)).trans hK)
  have HH2 := Lib.hid hH2
  have HBb := Lib.hid hBb
  have zb := hBb.lt
  have zb0 : w.heap.size < w2.heap.size := by omega
  have k0 : w2.cell? ⟨w.heap.size, 0, none⟩ = some ((.int .u64 (BitVec.toNat (hi) : Int))) := hBa.cell 0
  have k1 : w2.cell? ⟨w.heap.size, 1, none⟩ = some ((.int .u64 (BitVec.toNat (lo) : Int))) := hBa.cell 1
  have k2 : w2.cell? ⟨w.heap.size, 2, none⟩ = some (.bool v) := hBa.cell 2
  have a0' := hH2.c0
  have a1' := hH2.c1
  have hl2 := hH2.lt
  have HBa := Lib.hid hBa
  clear hBb hK hH2 hx HX a0 z1 z2 hBa Hc
  refine wp_region_def 10 9 7 8 138 #[.int .u64 0, .int .u64 0, .bool false, (.int .i64 (0)), (.int .i64 (0))] rfl (by kernel_rfl) ?_
  dsimp only [List.take, List.drop]
  repeat ((first | (refine wpT_skip rfl rfl ?_) | (apply wpT_fix rfl rfl; focus (intro w1 hS; have c1 := hS.cell; have f1 := hS.frozen; have z1 := hS.size; go_simp; first | exact ⟨rfl, hS, Ext.refl _⟩ | (exact ⟨⟨_, z1, rfl, Blk.new _ _ _⟩, hS.alloc _, (Ext.refl _).alloc _⟩) | (((with_reducible refine (Hhit.out _ ((HH2.out.ext hS).tabAt)).mono ?_); rintro e w2 ⟨rfl, h2⟩; exact ⟨_, rfl, rfl, hS.trans h2, h2⟩)))) | (refine wpT_loose rfl rfl ?_ ?_; focus (intro w1 hS; have c1 := hS.cell; have f1 := hS.frozen; have z1 := hS.size; go_simp; first | (exact ⟨⟨_, z1, rfl, Blk.new _ _ _⟩, hS.alloc _, (Ext.refl _).alloc _⟩) | (((with_reducible refine (Hhit.out _ ((HH2.out.ext hS).tabAt)).mono ?_); rintro e w2 ⟨rfl, h2⟩; exact ⟨_, rfl, rfl, hS.trans h2, h2⟩))))); try simp only [Act.put, List.setIfInBounds_toArray, List.set_cons_zero, List.set_cons_succ])
  refine wpT_nil ?_
  rintro -
  refine ⟨_, 31, 7, _, _, rfl, rfl, rfl, rfl, rfl, by decide, by decide, by decide, rfl, rfl, by kernel_rfl, by simp [Value.oneCell'], ?_⟩
  intro q w3 hS hq hB
  simp only [Act.put, List.setIfInBounds_toArray, List.set_cons_zero, List.set_cons_succ]
  have HH3 := Lib.hid (HH2.out.ext hS)
  have HK3 := Lib.hid (HK.out.thenExt hS)
  have hBa3 := HBa.out.ext hS
  have HBb3 := Lib.hid (HBb.out.ext hS)
  have HBa3 := Lib.hid hBa3
  have a0'' := HH3.out.c0
  have j0 : w3.cell? ⟨w.heap.size, 0, none⟩ = some ((.int .u64 (BitVec.toNat (hi) : Int))) := hBa3.cell 0
  have j1 : w3.cell? ⟨w.heap.size, 1, none⟩ = some ((.int .u64 (BitVec.toNat (lo) : Int))) := hBa3.cell 1
  have j2 : w3.cell? ⟨w.heap.size, 2, none⟩ = some (.bool v) := hBa3.cell 2
  have hl3 := HH3.out.lt
  have zb3 := HBb3.out.lt
  have zb30 : w.heap.size < w3.heap.size := by omega
  clear hS hB hq HH2 HBb HK k0 k1 k2 a0' a1' HBa hBa3 hl2 zb zb0
  go_wp2_with fail
  refine wp_region_def 10 9 9 8 138 #[.int .u64 0, .int .u64 0, .bool false, (.int .i64 (0)), (.int .i64 (0))] rfl (by kernel_rfl) ?_
  dsimp only [List.take, List.drop]
  repeat ((first | (refine wpT_skip rfl rfl ?_) | (apply wpT_fix rfl rfl; focus (intro w1 hS; have c1 := hS.cell; have f1 := hS.frozen; have z1 := hS.size; go_simp; first | exact ⟨rfl, hS, Ext.refl _⟩ | (exact ⟨⟨_, z1, rfl, Blk.new _ _ _⟩, hS.alloc _, (Ext.refl _).alloc _⟩) | (((with_reducible refine (Hex.out _ ((HH3.out.ext hS).ribAt)).mono ?_); rintro e w2 ⟨rfl, h2⟩; exact ⟨_, rfl, rfl, hS.trans h2, h2⟩)))) | (refine wpT_loose rfl rfl ?_ ?_; focus (intro w1 hS; have c1 := hS.cell; have f1 := hS.frozen; have z1 := hS.size; go_simp; first | (exact ⟨⟨_, z1, rfl, Blk.new _ _ _⟩, hS.alloc _, (Ext.refl _).alloc _⟩) | (((with_reducible refine (Hex.out _ ((HH3.out.ext hS).ribAt)).mono ?_); rintro e w2 ⟨rfl, h2⟩; exact ⟨_, rfl, rfl, hS.trans h2, h2⟩))))); try simp only [Act.put, List.setIfInBounds_toArray, List.set_cons_zero, List.set_cons_succ])
  refine wpT_nil ?_
  rintro -
  refine ⟨_, 42, 7, _, _, rfl, rfl, rfl, rfl, rfl, by decide, by decide, by decide, rfl, rfl, by kernel_rfl, by simp [Value.oneCell'], ?_⟩
  intro q4 w4 hS hq hB
  simp only [Act.put, List.setIfInBounds_toArray, List.set_cons_zero, List.set_cons_succ]
  have hH4 := HH3.out.ext hS
  have HH4 := Lib.hid hH4
  have HK4 := Lib.hid (HK3.out.thenExt hS)
  have hBa4 := HBa3.out.ext hS
  have HBb4 := Lib.hid (HBb3.out.ext hS)
  have i0 : w4.cell? ⟨w.heap.size, 0, none⟩ = some ((.int .u64 (BitVec.toNat (hi) : Int))) := hBa4.cell 0
  have i1 : w4.cell? ⟨w.heap.size, 1, none⟩ = some ((.int .u64 (BitVec.toNat (lo) : Int))) := hBa4.cell 1
  have i2 : w4.cell? ⟨w.heap.size, 2, none⟩ = some (.bool v) := hBa4.cell 2
  have y0 : w4.cell? ⟨q4, 0, none⟩ = some ((.int .u64 (BitVec.toNat (x.p.a.hi) : Int))) := hB.cell 0
  have y1 : w4.cell? ⟨q4, 1, none⟩ = some ((.int .u64 (BitVec.toNat (x.p.a.lo) : Int))) := hB.cell 1
  have y2 : w4.cell? ⟨q4, 2, none⟩ = some (.bool x.p.a.v6) := hB.cell 2
  have y3 : w4.cell? ⟨q4, 3, none⟩ = some ((.int .i64 (x.p.n))) := hB.cell 3
  have y4 : w4.cell? ⟨q4, 4, none⟩ = some ((.int .i64 (x.hop))) := hB.cell 4
  have hl4 := hH4.lt
  have zb4 := HBb4.out.lt
  have zb40 : w.heap.size < w4.heap.size := by omega
  have zq := hB.lt
  have hqB : w.heap.size + 1 < q4 := by omega
  clear hS HH3 HBb3 HK3 j0 j1 j2 a0'' HBa3 hl3 zb3 zb30
  have hqh : ¬ q4 = h := Blk.ne hB hH4.head (by decide)
  have hBh : ¬ w.heap.size = h := by omega
  have Hms := Lib.hid (Hmiss.out w4.drew _ (hH4.ext (Ext.refl _).drew))
  clear hB hH4 HH4
  go_wp2_with fail
  go_region_held3 (fun w' => w'.cell? ⟨q4, 0, none⟩ = some ((.int .u64 (BitVec.toNat (x.p.a.hi) : Int))) ∧ w'.cell? ⟨q4, 1, none⟩ = some ((.int .u64 (BitVec.toNat (x.p.a.lo) : Int))) ∧ w'.cell? ⟨q4, 2, none⟩ = some (.bool x.p.a.v6) ∧ w'.cell? ⟨q4, 3, none⟩ = some ((.int .i64 (x.p.n))) ∧ w'.cell? ⟨q4, 4, none⟩ = some ((.int .i64 (x.hop))) ∧ w'.cell? ⟨w.heap.size, 0, none⟩ = some ((.int .u64 (BitVec.toNat (hi) : Int))) ∧ w'.cell? ⟨w.heap.size, 1, none⟩ = some ((.int .u64 (BitVec.toNat (lo) : Int))) ∧ w'.cell? ⟨w.heap.size, 2, none⟩ = some (.bool v))
    (first | (go_split_ands; refine ⟨?_, ?_, ?_, ?_, ?_, ?_, ?_, ?_⟩ <;> first | with_reducible assumption | (rw [cell_drew_own]; with_reducible assumption) | (((repeat rw [World.cell?_setCell_far _ _ _ _ (by simp <;> omega)])); with_reducible assumption)))
    (first
     | (go_at_call 102; (with_reducible refine Hms.out.mono ?_); rintro e w5 ⟨rfl, hK, hH5⟩; have m0 : w5.cell? ⟨q4, 0, none⟩ = _ := (hK.cell (p := ⟨q4, 0, none⟩) zq hqh).trans y0; have m1 : w5.cell? ⟨q4, 1, none⟩ = _ := (hK.cell (p := ⟨q4, 1, none⟩) zq hqh).trans y1; have m2 : w5.cell? ⟨q4, 2, none⟩ = _ := (hK.cell (p := ⟨q4, 2, none⟩) zq hqh).trans y2; have m3 : w5.cell? ⟨q4, 3, none⟩ = _ := (hK.cell (p := ⟨q4, 3, none⟩) zq hqh).trans y3; have m4 : w5.cell? ⟨q4, 4, none⟩ = _ := (hK.cell (p := ⟨q4, 4, none⟩) zq hqh).trans y4; have m5 : w5.cell? ⟨w.heap.size, 0, none⟩ = _ := (hK.cell (p := ⟨w.heap.size, 0, none⟩) zb40 hBh).trans i0; have m6 : w5.cell? ⟨w.heap.size, 1, none⟩ = _ := (hK.cell (p := ⟨w.heap.size, 1, none⟩) zb40 hBh).trans i1; have m7 : w5.cell? ⟨w.heap.size, 2, none⟩ = _ := (hK.cell (p := ⟨w.heap.size, 2, none⟩) zb40 hBh).trans i2; have hb5 := (HBb4.out.ext (Ext.refl _).drew).keep hK (by omega); have n0 : w5.cell? ⟨w.heap.size + 1, 0, none⟩ = some (.int .u64 0) := hb5.cell 0; have n1 : w5.cell? ⟨w.heap.size + 1, 1, none⟩ = some (.int .u64 0) := hb5.cell 1; have n2_ : w5.cell? ⟨w.heap.size + 1, 2, none⟩ = some (.bool false) := hb5.cell 2; have n3 : w5.cell? ⟨w.heap.size + 1, 3, none⟩ = some ((.int .i64 (0))) := hb5.cell 3; have n4 : w5.cell? ⟨w.heap.size + 1, 4, none⟩ = some ((.int .i64 (0))) := hb5.cell 4; have nf : ∀ j, w5.frozen? ⟨w.heap.size + 1, j, none⟩ = false := (fun j => hb5.frozen j); have HK5 := Lib.hid ((HK4.out.thenExt (Ext.refl _).drew).trans hK); have HH5 := Lib.hid hH5; have zz5 := hK.size; have hz5 : q4 < w5.heap.size := (by simp at zz5; omega); clear hb5 hK hH5 y0 y1 y2 y3 y4 i0 i1 i2 zz5 Hms))
  rename_i hHeld
  clear hHeld
  go_wp2
  refine bodyPost_ret (v := .tuple #[(.agg #[.int .u64 ((x).p.a.hi.toNat : Int), .int .u64 ((x).p.a.lo.toNat : Int), .bool (x).p.a.v6, .int .i64 (x).p.n, .int .i64 (x).hop]), .bool bo, (.int .i64 (2))]) (by simp [results, Tryz.results67, go_sem, n0, n1, n2_, n3, n4]) rfl ⟨rfl, ?_⟩
  have hK9 : Keep (fun k => k = h) w (((((w5.setCell ⟨w.heap.size + 1, 0, none⟩ ((.int .u64 (BitVec.toNat (x.p.a.hi) : Int)))).setCell ⟨w.heap.size + 1, 1, none⟩ ((.int .u64 (BitVec.toNat (x.p.a.lo) : Int)))).setCell ⟨w.heap.size + 1, 2, none⟩ (.bool x.p.a.v6)).setCell ⟨w.heap.size + 1, 3, none⟩ ((.int .i64 (x.p.n)))).setCell ⟨w.heap.size + 1, 4, none⟩ ((.int .i64 (x.hop)))) :=
    ((((HK5.out.set (p := ⟨w.heap.size + 1, 0, none⟩) (.inr (by simp)) _).set (p := ⟨w.heap.size + 1, 1, none⟩) (.inr (by simp)) _).set (p := ⟨w.heap.size + 1, 2, none⟩) (.inr (by simp)) _).set (p := ⟨w.heap.size + 1, 3, none⟩) (.inr (by simp)) _).set (p := ⟨w.heap.size + 1, 4, none⟩) (.inr (by simp)) _
  exact ⟨hK9, HH0.out.keep hK9 (((((HH5.out.head.far (by simp; omega) _).far (by simp; omega) _).far (by simp; omega) _).far (by simp; omega) _).far (by simp; omega) _) HH5.out.ok⟩
end Go.Proofs.YtcipokldcjappaaGreat

namespace Go.Proofs.YtcipokldcjappaaGreat
open Go.RowKit

/-- a map without entries -/
def noUses (w : World) (um : Nat) : Prop := w.ownsMap (H := Unit) Tryz.prog 3 (plainElem Tryz.prog 3) um 0 (.map [])
theorem atKey0 {kl : Lit} {c : Int} (h : (DataW.map [] : DataW Unit).atKey kl (.lit (.int .i64 0)) = .lit (.int .i64 c)) : c = 0 := by
  have : (DataW.lit (.int .i64 0) : DataW Unit) = .lit (.int .i64 c) := h
  injection this with this; injection this with _ this; exact this.symm
theorem noUses.ext {w w' : World} {um : Nat} (h : noUses w um) (hx : Ext w w') : noUses w' um := by
  unfold noUses World.ownsMap at *
  obtain ⟨es, c, he, r⟩ := h
  exact ⟨es, c, (hx.block um (Array.getElem?_eq_some_iff.1 he).1).trans he, r⟩
theorem noUses_of {w : World} {um : Nat} (h : w.heap[um]? = some (.map #[] 0)) : noUses w um := by
  obtain ⟨W, hW⟩ : ∃ W : World, W = { w with heap := w.heap.extract 0 um } := ⟨_, rfl⟩
  have hlt := (Array.getElem?_eq_some_iff.1 h).1
  have hs : W.heap.size = um := by rw [hW]; simp; omega
  have h0 := World.ownsMap_made W Tryz.prog 3 (plainElem (H := Unit) Tryz.prog 3)
  rw [hs] at h0
  unfold noUses World.ownsMap at *
  obtain ⟨es, c, he, r⟩ := h0
  have he' : (W.alloc (.map #[] 0)).heap[um]? = some (.map #[] 0) := by rw [← hs]; exact heap_alloc_new W _
  rw [he'] at he
  cases he
  exact ⟨_, _, h, r⟩

set_option maxRecDepth 100000 in
set_option maxHeartbeats 2000000 in
theorem room0_c (r rb um : Nat) (most hops : Int) (hi lo : BitVec 64) (v : Bool) (n hop : Int) (A F : Value) (ar : List Nd) (fr : List Nat) (m : Int) (w : World) (hR : RibB w r rb um most hops) (hT : TrieAt w rb A F ar fr m) (hu : noUses w um)
    (hg : getA ar ⟨⟨hi, lo, v⟩, n⟩ = none) (hm : m < most) (hh : 1 ≤ hops) (hw : (Lit.int .i64 hop).wf = true) :
    Calls Tryz.prog 61 #[.pointer (some ⟨r, 0, none⟩), .agg #[(.int .u64 (BitVec.toNat (hi) : Int)), (.int .u64 (BitVec.toNat (lo) : Int)), .bool v, (.int .i64 (n))], (.int .i64 (hop))] w fun e w' => e = .returned (.bool true) ∧ Ext w w' := by
  have hget := fun w1 (hx : Ext w w1) => get_c rb hi lo v n A F ar fr m w1 (hT.ext hx)
  rw [hg] at hget
  have Hget := Lib.hid hget
  have Hlen := Lib.hid (fun w1 (hx : Ext w w1) => lenT_c rb A F ar fr m w1 (hT.ext hx))
  have hlt := Blk.lt hR
  have a0 : w.cell? ⟨r, 0, none⟩ = some (.pointer (some ⟨rb, 0, none⟩)) := Blk.cell hR 0
  have a1 : w.cell? ⟨r, 1, none⟩ = some (.map (some um)) := Blk.cell hR 1
  have a2 : w.cell? ⟨r, 2, none⟩ = some ((.int .i64 (most))) := Blk.cell hR 2
  have a3 : w.cell? ⟨r, 3, none⟩ = some ((.int .i64 (hops))) := Blk.cell hR 3
  have Hu := Lib.hid hu
  clear hget hR hT hu hg
  go_enter Tryz.func61, Tryz.ntmps61
  go_wp2_with fail
  go_region_held3 (fun w' => w'.cell? ⟨w.heap.size, 0, none⟩ = some ((.int .u64 (BitVec.toNat (hi) : Int))) ∧ w'.cell? ⟨w.heap.size, 1, none⟩ = some ((.int .u64 (BitVec.toNat (lo) : Int))) ∧ w'.cell? ⟨w.heap.size, 2, none⟩ = some (.bool v) ∧ w'.cell? ⟨w.heap.size, 3, none⟩ = some ((.int .i64 (n))) ∧ w'.cell? ⟨r, 0, none⟩ = some (.pointer (some ⟨rb, 0, none⟩)))
    (first | (go_split_ands; refine ⟨?_, ?_, ?_, ?_, ?_⟩ <;> first | with_reducible assumption | (rw [cell_drew_own]; with_reducible assumption) | (rw [hx.cell _ _ (by first | assumption | (simp <;> omega))]; with_reducible assumption) | (exact hx.lt (by first | assumption | (simp <;> omega))) | (rw [World.cell?_alloc_lt _ _ _ (by first | assumption | (simp <;> omega))]; with_reducible assumption) | (((repeat rw [World.cell?_setCell_far _ _ _ _ (by simp <;> omega)])); with_reducible assumption) | (simp <;> omega)) | go_keep)
    (first
     | (go_at_call 62; (with_reducible refine (Hget.out _ (((Ext.refl w).alloc _).drew)).mono ?_); rintro e w1 ⟨rfl, hx⟩; have HX := Lib.hid hx))
  rename_i hHeld
  clear hHeld
  have hx := HX.out
  have b0 : w1.cell? ⟨r, 0, none⟩ = some (.pointer (some ⟨rb, 0, none⟩)) := (hx.cell _ _ (by simp; omega)).trans (by go_simp)
  have b1 : w1.cell? ⟨r, 1, none⟩ = some (.map (some um)) := (hx.cell _ _ (by simp; omega)).trans (by go_simp)
  have b2 : w1.cell? ⟨r, 2, none⟩ = some ((.int .i64 (most))) := (hx.cell _ _ (by simp; omega)).trans (by go_simp)
  have b3 : w1.cell? ⟨r, 3, none⟩ = some ((.int .i64 (hops))) := (hx.cell _ _ (by simp; omega)).trans (by go_simp)
  have hl1 : r < w1.heap.size := hx.lt (by simp; omega)
  have hE := (((Ext.refl w).alloc _).drew).trans hx
  have HE := Lib.hid hE
  have hu1 : noUses w1 um := Hu.out.ext hE
  have Hu1 := Lib.hid hu1
  have hlen1 := Hlen.out w1.drew hE.drew
  have Hlen1 := Lib.hid hlen1
  have hd : decide (most ≤ m) = false := by simp; omega
  have hk := Maps.keyOf_int_mk (P := Tryz.prog) (k := 3) Tryz.underlying3 hw
  have Hk := Lib.hid hk
  have hz : ∀ W, (zeroValue 3).run Tryz.prog W = .ok (.int .i64 0) W := fun W => by kernel_rfl
  clear a0 a1 a2 a3 hx hE hu1 hlen1 HX hlt hk
  go_wp2_with fail
  go_region_held3 (fun w' => w'.cell? ⟨r, 0, none⟩ = some (.pointer (some ⟨rb, 0, none⟩)) ∧ w'.cell? ⟨r, 2, none⟩ = some ((.int .i64 (most))))
    (first | (go_split_ands; refine ⟨?_, ?_⟩ <;> first | with_reducible assumption | (rw [cell_drew_own]; with_reducible assumption) | (rw [hx.cell _ _ (by first | assumption | (simp <;> omega))]; with_reducible assumption) | (exact hx.lt (by first | assumption | (simp <;> omega))) | (rw [World.cell?_alloc_lt _ _ _ (by first | assumption | (simp <;> omega))]; with_reducible assumption) | (((repeat rw [World.cell?_setCell_far _ _ _ _ (by simp <;> omega)])); with_reducible assumption) | (simp <;> omega)) | go_keep)
    (first
     | (go_at_call 85; (with_reducible refine Hlen1.out.mono ?_); rintro e w1 ⟨rfl, rfl⟩))
  rename_i hHeld
  clear hHeld
  have hs0 : Maps.size (.map [] : DataW Unit) = 0 := rfl
  have c0 : w1.drew.cell? ⟨r, 0, none⟩ = some (.pointer (some ⟨rb, 0, none⟩)) := b0
  have c1 : w1.drew.cell? ⟨r, 1, none⟩ = some (.map (some um)) := b1
  have c3 : w1.drew.cell? ⟨r, 3, none⟩ = some ((.int .i64 (hops))) := b3
  have Hu2 := Lib.hid (show noUses w1.drew um from Hu1.out)
  clear hd b2
  go_wp2_with (first
    | (at_len; refine wpList_len_own (H := Unit) _ rfl _ 128 rfl 3 3 Tryz.underlying128 (plainElem Tryz.prog 3) um 0 (.map []) rfl Hu2.out ?_)
    | (at_lookup; refine wpList_lookup_own_int (H := Unit) _ rfl _ _ 128 rfl 3 3 .i64 (Maps.int_keyed Tryz.underlying3) Tryz.underlying128 Tryz.underlying3 (hz _) um 0 (.map []) rfl Hu2.out _ _ rfl Hk.out ?_; intro c hat hwc; obtain rfl : c = 0 := (atKey0 hat); clear hat hwc))
  go_ret
  exact ⟨by simp [hh], HE.out.drew⟩
end Go.Proofs.YtcipokldcjappaaGreat

