/-
  Part 5 of the walks behind the claim: Put0, Rib2, Hier3, Hier4, By, Sums, Ip4, Ip4p, Fw1, Clone, Judge.
-/
import Derived.Test.YtcipokldcjappaaGreatM4
import Derived.Laws.EntriesVeiled
import Derived.Laws.BitsAllLaws
import Derived.ArgAppend
set_option linter.unusedVariables false
set_option linter.unusedSimpArgs false

namespace Go.Proofs.YtcipokldcjappaaGreat
open Go.RowKit

set_option maxRecDepth 100000 in
set_option maxHeartbeats 2000000 in
/-- A prefix of no digits is put. -/
theorem put0_c (b : Nat) (hi lo : BitVec 64) (v : Bool) (hop : Int) (A F : Value) (ar : List Nd) (fr : List Nat) (m : Int) (w : World) (hT : TrieAt w b A F ar fr m) (i : Nat) (x : Nd) (hi' : rootI v = i) (hx : ar[i]? = some x) (he : x.ends = false)
    (hs : saneP ⟨⟨hi, lo, v⟩, 0⟩ = true) (hm0 : 0 ≤ m) (hm : m ≤ 1000000) :
    Calls Tryz.prog 64 #[.pointer (some ⟨b, 0, none⟩), .agg #[(.int .u64 (BitVec.toNat (hi) : Int)), (.int .u64 (BitVec.toNat (lo) : Int)), .bool v, (.int .i64 (0))], (.int .i64 (hop))] w
      fun e w' => e = .returned ((.int .i64 (0))) ∧ Keep (fun k => k = b ∨ A.ownBlock = some k) w w' ∧ TrieAt w' b A F (ar.set i ⟨x.k0, x.k1, x.up, true, hop⟩) fr (m + 1) := by
  obtain ⟨g, cap, rfl, hcap, hmax, hg⟩ := hT.form
  have hlt := hT.head.lt
  have h2 := hT.two
  have a0 : w.cell? ⟨b, 0, none⟩ = some (.slice (some ⟨g, 0, none⟩) ar.length cap) := hT.head.cell 0
  have hpos : 0 < ar.length := by omega
  have hgb : g ≠ b := fun e => own_ne hT.arena hT.head (by decide) (by rw [← e]; rfl)
  have hfb : ∀ q, F.ownBlock = some q → ¬ q = b := fun q hq e => own_ne hT.free hT.head (by decide) (by rw [hq, e])
  have hfg : ∀ q, F.ownBlock = some q → ¬ q = g := fun q hq e => own_own_ne hT.free hT.arena (by decide) hq (by rw [e]; rfl)
  have hil : i < ar.length := (List.getElem?_eq_some_iff.1 hx).1
  have hsp := fun w => saneP_c hi lo v 0 w
  rw [hs] at hsp
  have Hs := Lib.hid hsp
  have Hro := Lib.hid hi'
  have HT := Lib.hid hT
  have Hx := Lib.hid hx
  have He := Lib.hid he
  have Hfb := Lib.hid hfb
  have Hfg := Lib.hid hfg
  unfold maxLen at hmax
  have hroot : ∀ W, Calls Tryz.prog 88 #[.bool v] W fun e w' => e = .returned ((.int .i64 ((i : Int)))) ∧ W = w' := fun W => by rw [← hi']; exact root_c v W
  have Hroot := Lib.hid hroot
  clear hsp hs hi' hT hx he hfb hfg hroot
  go_enter Tryz.func64, Tryz.ntmps64
  go_wp2_with (first
    | (go_at_call 87; (with_reducible refine (made_c b g cap ar.length _ hpos (by go_simp)).mono ?_); rintro e w1 ⟨rfl, rfl⟩)
    | (go_at_call 59; (with_reducible refine (Hs.out _).mono ?_); rintro e w1 ⟨rfl, h1⟩; have c_h1 := h1.cell; have f_h1 := h1.frozen; have z_h1_0 := h1.lt (b := w.heap.size) (by first | omega | (simp <;> omega)))
    | (go_at_call 88; (with_reducible refine (Hroot.out _).mono ?_); rintro e w2 ⟨rfl, rfl⟩))
  have hE : Ext w w1 := ((Ext.refl w).alloc _).trans h1
  have HE := Lib.hid hE
  have hT1 := HT.out.ext hE
  have HT1 := Lib.hid hT1
  have hlt1 := hT1.head.lt
  have b0 : w1.cell? ⟨b, 0, none⟩ = some (.slice (some ⟨g, 0, none⟩) ar.length cap) := hT1.head.cell 0
  have b2 : w1.cell? ⟨b, 2, none⟩ = some ((.int .i64 (m))) := hT1.head.cell 2
  have bf : ∀ j, w1.frozen? ⟨b, j, none⟩ = false := fun j => hT1.head.frozen j
  have x3 : w1.cell? ⟨g, i * 5 + 3, none⟩ = some (.bool false) := by rw [hT1.cell i x Hx.out 3 (by omega)]; simp [ndCells, He.out]
  have x4 : w1.cell? ⟨g, i * 5 + 4, none⟩ = some ((.int .i64 (x.v))) := hT1.cell i x Hx.out 4 (by omega)
  have gf : ∀ j, w1.frozen? ⟨g, j, none⟩ = false := fun j => own_frozen hT1.arena j
  clear hT1 hE h1 c_h1 f_h1 z_h1_0
  go_loopw [7, 26] (fun at_ k wr => at_ = (.int .i64 ((i : Int))) ∧ k = (.int .i64 (0)) ∧ w1 = wr) (fun _ _ _ => 0)
  case atStart => exact ⟨rfl, rfl, rfl⟩
  case round =>
    obtain ⟨rfl, rfl, rfl⟩ := hrel
    go_wp2
    go_ret
    have hT1 := HT1.out
    have hgb' : b ≠ g := fun e => hgb e.symm
    refine ⟨rfl, ((((HE.out.keep (fun k => k = b ∨ (Value.slice (some ⟨g, 0, none⟩) ar.length cap).ownBlock = some k)).set (p := ⟨b, 2, none⟩) (.inl (.inl rfl)) _).set (p := ⟨g, i * 5 + 3, none⟩) (.inl (.inr rfl)) _).set (p := ⟨g, i * 5 + 4, none⟩) (.inl (.inr rfl)) _), ?_⟩
    have hO1 := own_same (w' := w1.setCell ⟨b, 2, none⟩ ((.int .i64 (m + 1)))) hT1.arena fun q hq => Below.heap_setCell _ _ _ _ (by have := ownB hq; subst this; exact hgb)
    have hO2 := arena_put1 (y := ⟨x.k0, x.k1, x.up, true, x.v⟩) hO1 Hx.out 3 (by omega) (.bool true) rfl
    have hO3 := arena_put1 (x := ⟨x.k0, x.k1, x.up, true, x.v⟩) (y := ⟨x.k0, x.k1, x.up, true, hop⟩) hO2 (List.getElem?_set_self hil) 4 (by omega) ((.int .i64 (hop))) rfl
    rw [List.set_set] at hO3
    refine ⟨(((hT1.head.set 2 _).far hgb' _).far hgb' _), ?_, ?_, by simpa using h2, ?_⟩
    · rw [List.length_set]; exact hO3
    · exact own_same hT1.free fun q hq => ((Below.heap_setCell _ _ _ _ (Hfg.out q hq)).trans (Below.heap_setCell _ _ _ _ (Hfg.out q hq))).trans (Below.heap_setCell _ _ _ _ (Hfb.out q hq))
    · have := hT1.wf i x Hx.out
      exact WFar_set hT1.wf i _ this.1 this.2
end Go.Proofs.YtcipokldcjappaaGreat

namespace Go.Proofs.YtcipokldcjappaaGreat
open Go.RowKit

theorem wf_hop {hop : Int} (h0 : 0 ≤ hop) (h1 : hop ≤ 65535) : (Lit.int .i64 hop).wf = true := by
  have a : IntKind.i64.min = -9223372036854775808 := by decide
  have b : IntKind.i64.max = 9223372036854775807 := by decide
  show (decide (IntKind.i64.min ≤ hop) && decide (hop ≤ IntKind.i64.max)) = true
  rw [a, b]
  simp
  omega
theorem map_at {w : World} {um : Nat} (h : noUses w um) : ∃ es c, w.heap[um]? = some (.map es c) := by
  unfold noUses World.ownsMap at h
  obtain ⟨es, c, he, _⟩ := h
  exact ⟨es, c, he⟩
theorem blk_map {w : World} {b um : Nat} {t : TypeId} {cs : Array Value} (h : Blk w b t cs) (hu : noUses w um) : b ≠ um := by
  rintro rfl
  obtain ⟨es, c, he⟩ := map_at hu
  unfold Blk at h
  rw [h] at he
  cases he
theorem own_map {w : World} {um base size n : Nat} {e : TypeId} {v : Value} {xs : List Value} (h : w.ownsRow base e size v n xs) (hu : noUses w um) {g : Nat} (hg : v.ownBlock = some g) : g ≠ um := by
  rcases h.2 with ⟨rfl, _⟩ | ⟨g', cap, cur, rfl, _, hh, _⟩
  · simp [Value.ownBlock] at hg
  · have : g' = g := by simpa [Value.ownBlock] using hg
    subst this
    exact blk_map (t := e) (cs := cur) hh hu
set_option maxRecDepth 100000 in
set_option maxHeartbeats 2000000 in
/-- The first route: one of no digits. -/
theorem radd0_c (r rb um : Nat) (most hops : Int) (hi lo : BitVec 64) (v : Bool) (hop : Int) (A F : Value) (ar : List Nd) (fr : List Nat) (m : Int) (w : World) (hR : RibB w r rb um most hops) (hT : TrieAt w rb A F ar fr m) (hu : noUses w um)
    (hg : getA ar ⟨⟨hi, lo, v⟩, 0⟩ = none) (hm : m < most) (hh : 1 ≤ hops) (h0 : 0 ≤ hop) (h1 : hop ≤ 65535)
    (i : Nat) (x : Nd) (hi' : rootI v = i) (hx : ar[i]? = some x) (he : x.ends = false) (hs : saneP ⟨⟨hi, lo, v⟩, 0⟩ = true) (hm0 : 0 ≤ m) (hm1 : m ≤ 1000000) :
    Calls Tryz.prog 39 #[.pointer (some ⟨r, 0, none⟩), .agg #[(.int .u64 (BitVec.toNat (hi) : Int)), (.int .u64 (BitVec.toNat (lo) : Int)), .bool v, (.int .i64 (0))], (.int .i64 (hop))] w
      fun e w' => e = .returned ((.int .i64 (0))) ∧ Keep (fun k => k = rb ∨ A.ownBlock = some k ∨ k = um) w w' ∧ TrieAt w' rb A F (ar.set i ⟨x.k0, x.k1, x.up, true, hop⟩) fr (m + 1) ∧ ∃ es c, w'.heap[um]? = some (.map es c) := by
  have hsp := fun w => saneP_c hi lo v 0 w
  rw [hs] at hsp
  have Hs := Lib.hid hsp
  have hget := fun w1 (hx : Ext w w1) => get_c rb hi lo v 0 A F ar fr m w1 (hT.ext hx)
  rw [hg] at hget
  have Hget := Lib.hid hget
  have hw : (Lit.int .i64 hop).wf = true := wf_hop h0 h1
  have Hroom := Lib.hid (fun w1 (hx : Ext w w1) => room0_c r rb um most hops hi lo v 0 hop A F ar fr m w1 (Blk.ext hR hx) (hT.ext hx) (hu.ext hx) hg hm hh hw)
  have a0 : w.cell? ⟨r, 0, none⟩ = some (.pointer (some ⟨rb, 0, none⟩)) := Blk.cell hR 0
  have a1 : w.cell? ⟨r, 1, none⟩ = some (.map (some um)) := Blk.cell hR 1
  have hlt := Blk.lt hR
  have d0 : decide (hop < 0) = false := by simp; omega
  have d1 : decide (65535 < hop) = false := by simp; omega
  have HR := Lib.hid hR
  have HT := Lib.hid hT
  have Hu := Lib.hid hu
  have hk := Maps.keyOf_int_mk (P := Tryz.prog) (k := 3) Tryz.underlying3 hw
  have Hk := Lib.hid hk
  have hz : ∀ W, (zeroValue 3).run Tryz.prog W = .ok (.int .i64 0) W := fun W => by kernel_rfl
  have Hx := Lib.hid hx
  have He := Lib.hid he
  have Hi := Lib.hid hi'
  have Hsp := Lib.hid hs
  clear hsp hget hR hT hu hg hs hx he hi' hw hk
  go_enter Tryz.func39, Tryz.ntmps39
  go_wp2_with (first
    | (go_at_call 59; (with_reducible refine (Hs.out _).mono ?_); rintro e w1 ⟨rfl, h1⟩; have HE := Lib.hid (((Ext.refl w).alloc _).trans h1); have c_h1 := h1.cell; have f_h1 := h1.frozen; have z_h1_0 := h1.lt (b := w.heap.size) (by first | omega | (simp <;> omega)); have zr := h1.lt (b := r) (by simp; omega))
    | (go_at_call 60; (with_reducible refine (rall_c r rb _ (by go_simp)).mono ?_); rintro e w2 ⟨rfl, rfl⟩)
    | (go_at_call 61; (with_reducible refine (Hroom.out _ HE.out).mono ?_); rintro e w3 ⟨rfl, h3⟩; have HE3 := Lib.hid (HE.out.trans h3); have c_h3 := h3.cell; have f_h3 := h3.frozen; have z_h3_0 := h3.lt (b := w.heap.size) (by first | omega | (simp <;> omega)); have zr3 := h3.lt (b := r) zr))
  have k0 : w3.cell? ⟨w.heap.size, 0, none⟩ = some ((.int .u64 (BitVec.toNat (hi) : Int))) := by go_simp
  have k1 : w3.cell? ⟨w.heap.size, 1, none⟩ = some ((.int .u64 (BitVec.toNat (lo) : Int))) := by go_simp
  have k2 : w3.cell? ⟨w.heap.size, 2, none⟩ = some (.bool v) := by go_simp
  have k3 : w3.cell? ⟨w.heap.size, 3, none⟩ = some ((.int .i64 (0))) := by go_simp
  have k4 : w3.cell? ⟨r, 0, none⟩ = some (.pointer (some ⟨rb, 0, none⟩)) := by go_simp
  have z3 : w.heap.size < w3.heap.size := z_h3_0
  clear c_h1 f_h1 c_h3 f_h3 z_h1_0 z_h3_0 a0 a1 h1 h3 zr
  go_region_held3 (fun w' => w'.cell? ⟨w.heap.size, 0, none⟩ = some ((.int .u64 (BitVec.toNat (hi) : Int))) ∧ w'.cell? ⟨w.heap.size, 1, none⟩ = some ((.int .u64 (BitVec.toNat (lo) : Int))) ∧ w'.cell? ⟨w.heap.size, 2, none⟩ = some (.bool v) ∧ w'.cell? ⟨w.heap.size, 3, none⟩ = some ((.int .i64 (0))) ∧ w'.cell? ⟨r, 0, none⟩ = some (.pointer (some ⟨rb, 0, none⟩)))
    (first | (go_split_ands; refine ⟨?_, ?_, ?_, ?_, ?_⟩ <;> first | with_reducible assumption | (rw [cell_drew_own]; with_reducible assumption) | (rw [hx.cell _ _ (by first | assumption | (simp <;> omega))]; with_reducible assumption) | (exact hx.lt (by first | assumption | (simp <;> omega))) | (rw [World.cell?_alloc_lt _ _ _ (by first | assumption | (simp <;> omega))]; with_reducible assumption) | (((repeat rw [World.cell?_setCell_far _ _ _ _ (by simp <;> omega)])); with_reducible assumption) | (simp <;> omega)) | go_keep)
    (first
     | (go_at_call 62; (with_reducible refine (Hget.out _ HE3.out.drew).mono ?_); rintro e w4 ⟨rfl, hx⟩; have HX := Lib.hid hx))
  rename_i hHeld
  clear hHeld
  have hx := HX.out
  have hE4 := HE3.out.drew.trans hx
  have HE4 := Lib.hid hE4
  have j0 : w4.cell? ⟨w.heap.size, 0, none⟩ = some ((.int .u64 (BitVec.toNat (hi) : Int))) := (hx.cell _ _ z3).trans k0
  have j1 : w4.cell? ⟨w.heap.size, 1, none⟩ = some ((.int .u64 (BitVec.toNat (lo) : Int))) := (hx.cell _ _ z3).trans k1
  have j2 : w4.cell? ⟨w.heap.size, 2, none⟩ = some (.bool v) := (hx.cell _ _ z3).trans k2
  have j3 : w4.cell? ⟨w.heap.size, 3, none⟩ = some ((.int .i64 (0))) := (hx.cell _ _ z3).trans k3
  have hR4 := Blk.ext HR.out hE4
  have j4 : w4.cell? ⟨r, 0, none⟩ = some (.pointer (some ⟨rb, 0, none⟩)) := Blk.cell hR4 0
  have j5 : w4.cell? ⟨r, 1, none⟩ = some (.map (some um)) := Blk.cell hR4 1
  have z4 : w.heap.size < w4.heap.size := hx.lt z3
  have zr4 : r < w4.heap.size := hx.lt zr3
  have Hu4 := Lib.hid (Hu.out.ext hE4)
  have HR4 := Lib.hid hR4
  clear k0 k1 k2 k3 k4 z3 zr3 hx hE4 HX hR4
  go_wp2_with (first
    | (at_lookup; refine wpList_lookup_own_int (H := Unit) _ rfl _ _ 128 rfl 3 3 .i64 (Maps.int_keyed Tryz.underlying3) Tryz.underlying128 Tryz.underlying3 (hz _) um 0 (.map []) rfl Hu4.out _ _ rfl Hk.out ?_; intro c hat hwc; obtain rfl : c = 0 := (atKey0 hat); clear hat hwc)
    | (at_mapUpdate; refine wpList_mapUpdate_own (H := Unit) _ rfl _ _ _ 128 rfl 3 3 (Maps.int_keyed Tryz.underlying3) Tryz.underlying128 _ um 0 (.map []) rfl Hu4.out (by unfold maxLen; omega) _ _ _ rfl rfl Hk.out _ [] (plainElem_int Tryz.underlying3 (by decide)) ?_; intro w5 hown5 hgrow5))
  have hR5 := HR4.out
  have hT4 := HT.out.ext HE4.out
  have hru := blk_map hR5 Hu4.out
  have hum : um < w.heap.size := by obtain ⟨es, c, he⟩ := map_at Hu.out; exact (Array.getElem?_eq_some_iff.1 he).1
  have hKu : Keep (fun k => k = um) w4 w5 := (Keep.refl _ w4).grown hgrow5 (fun k e => .inl (by cases e; rfl))
  have hT5 := hT4.keep hKu (blk_map hT4.head Hu4.out) (fun g hg => own_map hT4.arena Hu4.out hg) (fun g hg => own_map hT4.free Hu4.out hg)
  have hPut := put0_c rb hi lo v hop A F ar fr m w5.drew (hT5.ext (Ext.refl _).drew) i x Hi.out Hx.out He.out Hsp.out hm0 hm1
  have HPut := Lib.hid hPut
  have hK5 : Keep (fun k => k = rb ∨ A.ownBlock = some k ∨ k = um) w w5 := (HE4.out.keep _).trans (hKu.mono (fun k _ hk => .inr (.inr hk)))
  have HK5 := Lib.hid hK5
  have i0 : w5.cell? ⟨w.heap.size, 0, none⟩ = some ((.int .u64 (BitVec.toNat (hi) : Int))) := (hKu.cell (p := ⟨w.heap.size, 0, none⟩) z4 (by show ¬ w.heap.size = um; omega)).trans j0
  have i1 : w5.cell? ⟨w.heap.size, 1, none⟩ = some ((.int .u64 (BitVec.toNat (lo) : Int))) := (hKu.cell (p := ⟨w.heap.size, 1, none⟩) z4 (by show ¬ w.heap.size = um; omega)).trans j1
  have i2 : w5.cell? ⟨w.heap.size, 2, none⟩ = some (.bool v) := (hKu.cell (p := ⟨w.heap.size, 2, none⟩) z4 (by show ¬ w.heap.size = um; omega)).trans j2
  have i3 : w5.cell? ⟨w.heap.size, 3, none⟩ = some ((.int .i64 (0))) := (hKu.cell (p := ⟨w.heap.size, 3, none⟩) z4 (by show ¬ w.heap.size = um; omega)).trans j3
  have i4 : w5.cell? ⟨r, 0, none⟩ = some (.pointer (some ⟨rb, 0, none⟩)) := (hKu.cell (p := ⟨r, 0, none⟩) zr4 hru).trans j4
  have z5 : w.heap.size < w5.heap.size := Nat.lt_of_lt_of_le z4 hKu.size
  have zr5 : r < w5.heap.size := Nat.lt_of_lt_of_le zr4 hKu.size
  have hbB : ¬ (w.heap.size = rb ∨ A.ownBlock = some w.heap.size) := by
    rintro (e | e)
    · have := HT.out.head.lt; omega
    · have := own_lt HT.out.arena e; omega
  have hbr : ¬ (r = rb ∨ A.ownBlock = some r) := by
    rintro (e | e)
    · exact Blk.ne HR.out HT.out.head (by decide) e
    · exact own_ne HT.out.arena HR.out (by decide) e
  have hEs : ∃ es c, w5.heap[um]? = some (.map es c) := by obtain ⟨es, c, he, _⟩ := hown5; exact ⟨es, c, he⟩
  have HEs := Lib.hid hEs
  have humb : ¬ (um = rb ∨ A.ownBlock = some um) := by
    rintro (e | e)
    · exact blk_map HT.out.head Hu.out e.symm
    · exact own_map HT.out.arena Hu.out e rfl
  have Humb := Lib.hid humb
  have HbB := Lib.hid hbB
  have Hbr := Lib.hid hbr
  clear hR5 hT4 hKu hT5 hPut hK5 j0 j1 j2 j3 j4 j5 z4 zr4 hown5 hgrow5 hEs hbB hbr humb
  go_region_held3 (fun w' => w'.cell? ⟨w.heap.size, 0, none⟩ = some ((.int .u64 (BitVec.toNat (hi) : Int))) ∧ w'.cell? ⟨w.heap.size, 1, none⟩ = some ((.int .u64 (BitVec.toNat (lo) : Int))) ∧ w'.cell? ⟨w.heap.size, 2, none⟩ = some (.bool v) ∧ w'.cell? ⟨w.heap.size, 3, none⟩ = some ((.int .i64 (0))) ∧ w'.cell? ⟨r, 0, none⟩ = some (.pointer (some ⟨rb, 0, none⟩)))
    (first | (go_split_ands; refine ⟨?_, ?_, ?_, ?_, ?_⟩ <;> first | with_reducible assumption | (rw [cell_drew_own]; with_reducible assumption) | (rw [hx.cell _ _ (by first | assumption | (simp <;> omega))]; with_reducible assumption) | (exact hx.lt (by first | assumption | (simp <;> omega))) | (rw [World.cell?_alloc_lt _ _ _ (by first | assumption | (simp <;> omega))]; with_reducible assumption) | (((repeat rw [World.cell?_setCell_far _ _ _ _ (by simp <;> omega)])); with_reducible assumption) | (simp <;> omega)) | go_keep)
    (first
     | (go_at_call 64; (with_reducible refine HPut.out.mono ?_); rintro e w6 ⟨rfl, hK, hT6⟩; have m0 : w6.cell? ⟨w.heap.size, 0, none⟩ = _ := (hK.cell (p := ⟨w.heap.size, 0, none⟩) z5 HbB.out).trans i0; have m1 : w6.cell? ⟨w.heap.size, 1, none⟩ = _ := (hK.cell (p := ⟨w.heap.size, 1, none⟩) z5 HbB.out).trans i1; have m2_ : w6.cell? ⟨w.heap.size, 2, none⟩ = _ := (hK.cell (p := ⟨w.heap.size, 2, none⟩) z5 HbB.out).trans i2; have m3 : w6.cell? ⟨w.heap.size, 3, none⟩ = _ := (hK.cell (p := ⟨w.heap.size, 3, none⟩) z5 HbB.out).trans i3; have m4 : w6.cell? ⟨r, 0, none⟩ = _ := (hK.cell (p := ⟨r, 0, none⟩) zr5 Hbr.out).trans i4; have HK6 := Lib.hid hK; have HT6 := Lib.hid hT6; clear hK hT6))
  rename_i hHeld
  clear hHeld
  go_wp2
  go_ret
  refine ⟨rfl, HK5.out.trans (((Keep.refl _ w5).drew.trans HK6.out).mono (fun k _ hk => ?_)), HT6.out, ?_⟩
  · rcases hk with hk | hk
    · exact .inl hk
    · exact .inr (.inl hk)
  · obtain ⟨es, c, he⟩ := HEs.out
    exact ⟨es, c, (HK6.out.block um (Array.getElem?_eq_some_iff.1 he).1 Humb.out).trans he⟩
end Go.Proofs.YtcipokldcjappaaGreat

namespace Go.Proofs.YtcipokldcjappaaGreat
open Go.RowKit

/-- what the first route wants of the tree -/
structure Firstable (ar : List Nd) (v : Bool) (hi lo : BitVec 64) (n most hops hop : Int) (i : Nat) (x : Nd) : Prop where
  root : rootI v = i
  node : ar[i]? = some x
  ends : x.ends = false
  sane : saneP ⟨⟨hi, lo, v⟩, 0⟩ = true
  none_ : getA ar ⟨⟨hi, lo, v⟩, 0⟩ = none
  n0 : 0 ≤ n
  n1 : n ≤ 1000000
  room : n < most
  hops1 : 1 ≤ hops
  hop0 : 0 ≤ hop
  hop1 : hop ≤ 65535
/-- what an addition turns -/
def addS (A : Value) (rb um : Nat) (k : Nat) : Prop := k = rb ∨ A.ownBlock = some k ∨ k = um

set_option maxRecDepth 100000 in
set_option maxHeartbeats 2000000 in
theorem addClo_c (b8 b4 b5 r rb um : Nat) (most hops : Int) (hi lo : BitVec 64) (v : Bool) (hop : Int) (A F : Value) (ar : List Nd) (fr : List Nat) (m : Int) (w : World) (hR : RibB w r rb um most hops) (hT : TrieAt w rb A F ar fr m) (hu : noUses w um) (i : Nat) (x : Nd) (hF : Firstable ar v hi lo m most hops hop i x)
    (c8 : w.cell? ⟨b8, 0, none⟩ = some (.func (.func 39) #[.pointer (some ⟨r, 0, none⟩)] #[])) (c4 : Blk w b4 57 #[(.int .u64 (BitVec.toNat (hi) : Int)), (.int .u64 (BitVec.toNat (lo) : Int)), .bool v, (.int .i64 (0))]) (c5 : w.cell? ⟨b5, 0, none⟩ = some ((.int .i64 (hop)))) :
    Calls Tryz.prog 41 #[.pointer (some ⟨b8, 0, none⟩), .pointer (some ⟨b4, 0, none⟩), .pointer (some ⟨b5, 0, none⟩)] w
      fun e w' => e = .returned ((.int .i64 (0))) ∧ Keep (addS A rb um) w w' ∧ TrieAt w' rb A F (ar.set i ⟨x.k0, x.k1, x.up, true, hop⟩) fr (m + 1) ∧ ∃ es c, w'.heap[um]? = some (.map es c) := by
  have Hadd := Lib.hid (radd0_c r rb um most hops hi lo v hop A F ar fr m w hR hT hu hF.none_ hF.room hF.hops1 hF.hop0 hF.hop1 i x hF.root hF.node hF.ends hF.sane hF.n0 hF.n1)
  have k0 : w.cell? ⟨b4, 0, none⟩ = some ((.int .u64 (BitVec.toNat (hi) : Int))) := c4.cell 0
  have k1 : w.cell? ⟨b4, 1, none⟩ = some ((.int .u64 (BitVec.toNat (lo) : Int))) := c4.cell 1
  have k2 : w.cell? ⟨b4, 2, none⟩ = some (.bool v) := c4.cell 2
  have k3 : w.cell? ⟨b4, 3, none⟩ = some ((.int .i64 (0))) := c4.cell 3
  clear hR hT hu hF c4
  go_enter Tryz.func41, Tryz.ntmps41
  go_wp2_with (go_at_call 39; (with_reducible refine Hadd.out.mono ?_); rintro e w1 ⟨rfl, hK, hT, hM⟩; have HK := Lib.hid hK; have HT := Lib.hid hT; have HM := Lib.hid hM; clear hK hT hM)
  go_ret
  exact ⟨rfl, HK.out, HT.out, HM.out⟩

theorem blk_map' {w : World} {b um : Nat} {t : TypeId} {cs : Array Value} (h : Blk w b t cs) (hu : ∃ es c, w.heap[um]? = some (.map es c)) : b ≠ um := by
  rintro rfl
  obtain ⟨es, c, he⟩ := hu
  unfold Blk at h
  rw [h] at he
  cases he
theorem own_map' {w : World} {um base size n : Nat} {e : TypeId} {v : Value} {xs : List Value} (h : w.ownsRow base e size v n xs) (hu : ∃ es c, w.heap[um]? = some (.map es c)) {g : Nat} (hg : v.ownBlock = some g) : g ≠ um := by
  rcases h.2 with ⟨rfl, _⟩ | ⟨g', cap, cur, rfl, _, hh, _⟩
  · simp [Value.ownBlock] at hg
  · have : g' = g := by simpa [Value.ownBlock] using hg
    subst this
    exact blk_map' (t := e) (cs := cur) hh hu
theorem HierE.added {w w' : World} {h r rb um t tb : Nat} {A F A2 F2 : Value} {ar ar2 ar' : List Nd} {fr fr2 : List Nat} {n n2 n' most hops bd : Int} {st : List Int}
    (hH : HierE w h r rb um t tb A F A2 F2 ar ar2 fr fr2 n n2 most hops bd st) (hK : Keep (addS A rb um) w w') (hT : TrieAt w' rb A F ar' fr n') (hM : ∃ es c, w'.heap[um]? = some (.map es c)) :
    HierE w' h r rb um t tb A F A2 F2 ar' ar2 fr fr2 n' n2 most hops bd st := by
  have hb : ∀ {b : Nat} {ty : TypeId} {cs : Array Value}, Blk w b ty cs → ty ≠ 167 → ty ≠ 163 → ¬ addS A rb um b := fun hB h1 h2 => by
    rintro (e | e | e)
    · exact Blk.ne hB hH.tree.head h1 e
    · exact own_ne hH.tree.arena hB (Ne.symm h2) e
    · exact blk_map' hB hH.uses e
  refine ⟨hH.head.keep hK (hb hH.head (by decide) (by decide)), Blk.keep hH.rib hK (hb hH.rib (by decide) (by decide)), hT, hM, ?_, hH.leaves.keep hK ?_ ?_ ?_, hH.ok, hH.apart⟩
  · obtain ⟨a, b, c, d, hB⟩ := hH.tab
    exact ⟨a, b, c, d, hB.keep hK (hb hB (by decide) (by decide))⟩
  · rintro (e | e | e)
    · exact hH.apart.1 e
    · exact own_ne hH.tree.arena hH.leaves.head (by decide) e
    · exact blk_map' hH.leaves.head hH.uses e
  · rintro g hg (e | e | e)
    · exact own_ne hH.leaves.arena hH.tree.head (by decide) (by rw [hg, e])
    · exact hH.apart.2 g e hg
    · exact own_map' hH.leaves.arena hH.uses hg e
  · rintro g hg (e | e | e)
    · exact own_ne hH.leaves.free hH.tree.head (by decide) (by rw [hg, e])
    · exact own_own_ne hH.leaves.free hH.tree.arena (by decide) hg e
    · exact own_map' hH.leaves.free hH.uses hg e

/-- what an update turns -/
def updS (A : Value) (h rb um : Nat) (k : Nat) : Prop := k = h ∨ addS A rb um k
/-- the table, where nothing overlaps a prefix -/
structure Clear (ar2 : List Nd) (p : Pf) : Prop where
  above : (aboveL ar2 p).length = 0
  under : (underL ar2 p).length = 0
  small : sizeL ar2 p ≤ 1000000

set_option maxRecDepth 100000 in
set_option maxHeartbeats 4000000 in
theorem update0_c (b8 b4 b5 h r rb um t tb : Nat) (A F A2 F2 : Value) (ar ar2 : List Nd) (fr fr2 : List Nat) (n n2 most hops bd : Int) (st : List Int) (hi lo : BitVec 64) (v : Bool) (hop : Int) (w : World) (i : Nat) (x : Nd)
    (hH : HierE w h r rb um t tb A F A2 F2 ar ar2 fr fr2 n n2 most hops bd st) (hu : noUses w um) (hF : Firstable ar v hi lo n most hops hop i x) (hC : Clear ar2 ⟨⟨hi, lo, v⟩, 0⟩) (hbd : 0 ≤ bd ∧ bd ≤ 1024)
    (c8 : w.cell? ⟨b8, 0, none⟩ = some (.func (.func 39) #[.pointer (some ⟨r, 0, none⟩)] #[])) (c4 : Blk w b4 57 #[(.int .u64 (BitVec.toNat (hi) : Int)), (.int .u64 (BitVec.toNat (lo) : Int)), .bool v, (.int .i64 (0))]) (c5 : w.cell? ⟨b5, 0, none⟩ = some ((.int .i64 (hop)))) :
    Calls Tryz.prog 40 #[.pointer (some ⟨h, 0, none⟩), .agg #[(.int .u64 (BitVec.toNat (hi) : Int)), (.int .u64 (BitVec.toNat (lo) : Int)), .bool v, (.int .i64 (0))], .func (.func 41) #[] #[.pointer (some ⟨b8, 0, none⟩), .pointer (some ⟨b4, 0, none⟩), .pointer (some ⟨b5, 0, none⟩)]] w
      fun e w' => e = .returned (.tuple #[(.int .i64 (0)), .slice none 0 0]) ∧ Keep (updS A h rb um) w w' ∧ HierE w' h r rb um t tb A F A2 F2 (ar.set i ⟨x.k0, x.k1, x.up, true, hop⟩) ar2 fr fr2 (n + 1) n2 most hops bd st := by
  have hx0 : Ext w (w.alloc (.cells #[(.int .u64 (BitVec.toNat (hi) : Int)), (.int .u64 (BitVec.toNat (lo) : Int)), .bool v, (.int .i64 (0))] 57)) := (Ext.refl w).alloc _
  have hH0 := hH.ext hx0
  have l8 := World.block_lt_of_cell? w _ c8
  have l5 := World.block_lt_of_cell? w _ c5
  have Hclo := Lib.hid (addClo_c b8 b4 b5 r rb um most hops hi lo v hop A F ar fr n _ hH0.rib hH0.tree (hu.ext hx0) i x hF ((hx0.cell _ _ l8).trans c8) (c4.ext hx0) ((hx0.cell _ _ l5).trans c5))
  have HH0 := Lib.hid hH0
  have Hnb := Lib.hid (show ¬ addS A rb um w.heap.size from by
    rintro (e | e | e)
    · have := hH.tree.head.lt; omega
    · have := own_lt hH.tree.arena e; omega
    · obtain ⟨es, c, he⟩ := hH.uses; have := (Array.getElem?_eq_some_iff.1 he).1; omega)
  have HH := Lib.hid hH
  have Hfl := Lib.hid (fun w1 (hT : TabAt w1 t tb A2 F2 ar2 fr2 n2) => flush0_c t tb hi lo v 0 A2 F2 ar2 fr2 n2 w1 hT hF.sane hC.above hC.under hC.small)
  have Hna := Lib.hid (fun w => narrow0_c bd hi lo v 0 w hbd.1 hbd.2)
  have hlt := hH.lt
  clear hH hu hF hC hbd c8 c4 c5 hx0 hH0 l8 l5
  go_enter Tryz.func40, Tryz.ntmps40
  go_wp2_with (first
    | (go_at_call 41; (with_reducible refine Hclo.out.mono ?_); rintro e w1 ⟨rfl, hK, hT, hM⟩))
  have hH1 := HH0.out.added hK hT hM
  have z1 : w.heap.size < w1.heap.size := by have := hK.size; simp at this; omega
  have k0 : w1.cell? ⟨w.heap.size, 0, none⟩ = some ((.int .u64 (BitVec.toNat (hi) : Int))) := (hK.cell (p := ⟨w.heap.size, 0, none⟩) (by simp) Hnb.out).trans (by go_simp)
  have k1 : w1.cell? ⟨w.heap.size, 1, none⟩ = some ((.int .u64 (BitVec.toNat (lo) : Int))) := (hK.cell (p := ⟨w.heap.size, 1, none⟩) (by simp) Hnb.out).trans (by go_simp)
  have k2 : w1.cell? ⟨w.heap.size, 2, none⟩ = some (.bool v) := (hK.cell (p := ⟨w.heap.size, 2, none⟩) (by simp) Hnb.out).trans (by go_simp)
  have k3 : w1.cell? ⟨w.heap.size, 3, none⟩ = some ((.int .i64 (0))) := (hK.cell (p := ⟨w.heap.size, 3, none⟩) (by simp) Hnb.out).trans (by go_simp)
  have k4 := hH1.c1
  have hl1 := hH1.lt
  have HK1 := Lib.hid ((((Ext.refl w).alloc (.cells #[(.int .u64 (BitVec.toNat (hi) : Int)), (.int .u64 (BitVec.toNat (lo) : Int)), .bool v, (.int .i64 (0))] 57)).keep (addS A rb um)).trans hK)
  have HH1 := Lib.hid hH1
  clear hK hT hM hH1
  go_region_held3 (fun w' => w'.cell? ⟨w.heap.size, 0, none⟩ = some ((.int .u64 (BitVec.toNat (hi) : Int))) ∧ w'.cell? ⟨w.heap.size, 1, none⟩ = some ((.int .u64 (BitVec.toNat (lo) : Int))) ∧ w'.cell? ⟨w.heap.size, 2, none⟩ = some (.bool v) ∧ w'.cell? ⟨w.heap.size, 3, none⟩ = some ((.int .i64 (0))) ∧ w'.cell? ⟨h, 1, none⟩ = some (.pointer (some ⟨t, 0, none⟩)))
    (first | (go_split_ands; refine ⟨?_, ?_, ?_, ?_, ?_⟩ <;> first | with_reducible assumption | (rw [cell_drew_own]; with_reducible assumption) | (rw [hx.cell _ _ (by first | assumption | (simp <;> omega))]; with_reducible assumption) | (exact hx.lt (by first | assumption | (simp <;> omega))) | (rw [World.cell?_alloc_lt _ _ _ (by first | assumption | (simp <;> omega))]; with_reducible assumption) | (((repeat rw [World.cell?_setCell_far _ _ _ _ (by simp <;> omega)])); with_reducible assumption) | (simp <;> omega)) | go_keep)
    (first
     | (go_at_call 65; (with_reducible refine (Hfl.out _ (HH1.out.ext (Ext.refl _).drew).tabAt).mono ?_); rintro e w2 ⟨rfl, hx⟩; have HX := Lib.hid hx))
  rename_i hHeld
  clear hHeld
  have hx := HX.out
  have hH2 := HH1.out.ext ((Ext.refl w1).drew.trans hx)
  have j0 : w2.cell? ⟨w.heap.size, 0, none⟩ = some ((.int .u64 (BitVec.toNat (hi) : Int))) := (hx.cell _ _ z1).trans k0
  have j1 : w2.cell? ⟨w.heap.size, 1, none⟩ = some ((.int .u64 (BitVec.toNat (lo) : Int))) := (hx.cell _ _ z1).trans k1
  have j2 : w2.cell? ⟨w.heap.size, 2, none⟩ = some (.bool v) := (hx.cell _ _ z1).trans k2
  have j3 : w2.cell? ⟨w.heap.size, 3, none⟩ = some ((.int .i64 (0))) := (hx.cell _ _ z1).trans k3
  have j4 := hH2.c2
  have j5 := hH2.c3
  have z2 : w.heap.size < w2.heap.size := hx.lt z1
  have hl2 := hH2.lt
  have HK2 := Lib.hid (HK1.out.thenExt ((Ext.refl w1).drew.trans hx))
  have HH2 := Lib.hid hH2
  have nh : w.heap.size ≠ h := by omega
  clear k0 k1 k2 k3 k4 hl1 z1 hx hH2 HX HH1 HK1
  go_wp2_with fail
  go_region_held3 (fun w' => w'.cell? ⟨w.heap.size, 0, none⟩ = some ((.int .u64 (BitVec.toNat (hi) : Int))) ∧ w'.cell? ⟨w.heap.size, 1, none⟩ = some ((.int .u64 (BitVec.toNat (lo) : Int))) ∧ w'.cell? ⟨w.heap.size, 2, none⟩ = some (.bool v) ∧ w'.cell? ⟨w.heap.size, 3, none⟩ = some ((.int .i64 (0))) ∧ w'.cell? ⟨h, 2, none⟩ = some (.slice none 0 0) ∧ w'.cell? ⟨h, 3, none⟩ = some ((.int .i64 (bd))))
    (first | (go_split_ands; refine ⟨?_, ?_, ?_, ?_, ?_, ?_⟩ <;> first | with_reducible assumption | (rw [cell_drew_own]; with_reducible assumption) | (rw [hx.cell _ _ (by first | assumption | (simp <;> omega))]; with_reducible assumption) | (go_simp; done)) | go_keep)
    (first
     | (go_at_call 66; (with_reducible refine (Hna.out _).mono ?_); rintro e w3 ⟨rfl, hx⟩; have m0 : w3.cell? ⟨w.heap.size, 0, none⟩ = some ((.int .u64 (BitVec.toNat (hi) : Int))) := (hx.cell _ _ z2).trans j0; have m1 : w3.cell? ⟨w.heap.size, 1, none⟩ = some ((.int .u64 (BitVec.toNat (lo) : Int))) := (hx.cell _ _ z2).trans j1; have m2_ : w3.cell? ⟨w.heap.size, 2, none⟩ = some (.bool v) := (hx.cell _ _ z2).trans j2; have m3 : w3.cell? ⟨w.heap.size, 3, none⟩ = some ((.int .i64 (0))) := (hx.cell _ _ z2).trans j3; have m4 : w3.cell? ⟨h, 2, none⟩ = some (.slice none 0 0) := (hx.cell _ _ hl2).trans j4; have m5 : w3.cell? ⟨h, 3, none⟩ = some ((.int .i64 (bd))) := (hx.cell _ _ hl2).trans j5; have mf : ∀ j, w3.frozen? ⟨h, j, none⟩ = false := (fun j => (HH2.out.ext ((Ext.refl w2).drew.trans hx)).head.frozen j); have HX := Lib.hid hx; clear j0 j1 j2 j3 j4 j5))
  rename_i hHeld
  clear hHeld
  have hx := (Ext.refl w2).drew.trans HX.out
  have hH3 := HH2.out.ext hx
  have hK4 : Keep (fun k => k = h) w3 ((w3.setCell ⟨h, 2, none⟩ (.slice none 0 0)).setCell ⟨h, 3, none⟩ ((.int .i64 (bd)))) := ((Keep.refl (fun k => k = h) w3).set (p := ⟨h, 2, none⟩) (.inl rfl) _).set (p := ⟨h, 3, none⟩) (.inl rfl) _
  have hb4 := (hH3.head.set 2 (.slice none 0 0)).set 3 ((.int .i64 (bd)))
  rw [hC_set2] at hb4
  have hH4 := hH3.keep hK4 hb4 hH3.ok
  have Hc4 := Lib.hid (countE_c hH4 11 11 0 rfl (by omega) (by omega))
  have HK4 := Lib.hid ((HK2.out.thenExt hx).mono (S' := updS A h rb um) (fun k _ hk => .inr hk) |>.trans (hK4.mono (S' := updS A h rb um) (fun k _ hk => .inl hk)))
  clear hx hH3 hK4 hb4 hH4 HX
  go_wp2_with (first
    | (go_at_call 43; (with_reducible refine Hc4.out.mono ?_); rintro e w5 ⟨rfl, hK, hH5⟩; have HK5 := Lib.hid (HK4.out.trans (hK.mono (S' := updS A h rb um) (fun k _ hk => .inl hk))); have HH5 := Lib.hid hH5; clear hK hH5))
  go_ret2
  refine ⟨rfl, HK5.out, ?_⟩
  have e : bumpL st 11 0 = st := by unfold bumpL; rfl
  have := HH5.out
  rwa [e] at this
end Go.Proofs.YtcipokldcjappaaGreat

namespace Go.Proofs.YtcipokldcjappaaGreat
open Go.RowKit

set_option maxRecDepth 100000 in
set_option maxHeartbeats 4000000 in
theorem hadd0_c (h r rb um t tb : Nat) (A F A2 F2 : Value) (ar ar2 : List Nd) (fr fr2 : List Nat) (n n2 most hops bd : Int) (st : List Int) (hi lo : BitVec 64) (v : Bool) (hop : Int) (w : World) (i : Nat) (x : Nd)
    (hH : HierE w h r rb um t tb A F A2 F2 ar ar2 fr fr2 n n2 most hops bd st) (hu : noUses w um) (hF : Firstable ar v hi lo n most hops hop i x) (hC : Clear ar2 ⟨⟨hi, lo, v⟩, 0⟩) (hbd : 0 ≤ bd ∧ bd ≤ 1024) :
    Calls Tryz.prog 17 #[.pointer (some ⟨h, 0, none⟩), .agg #[(.int .u64 (BitVec.toNat (hi) : Int)), (.int .u64 (BitVec.toNat (lo) : Int)), .bool v, (.int .i64 (0))], (.int .i64 (hop))] w
      fun e w' => e = .returned (.tuple #[(.int .i64 (0)), .slice none 0 0]) ∧ Keep (updS A h rb um) w w' ∧ HierE w' h r rb um t tb A F A2 F2 (ar.set i ⟨x.k0, x.k1, x.up, true, hop⟩) ar2 fr fr2 (n + 1) n2 most hops bd st := by
  have hx : Ext w (((w.alloc (.cells #[(.int .u64 (BitVec.toNat (hi) : Int)), (.int .u64 (BitVec.toNat (lo) : Int)), .bool v, (.int .i64 (0))] 57)).alloc (.cells #[(.int .i64 (hop))] 3)).alloc (.cells #[.func (.func 39) #[.pointer (some ⟨r, 0, none⟩)] #[]] 107)) := (((Ext.refl w).alloc _).alloc _).alloc _
  have c4 : Blk (((w.alloc (.cells #[(.int .u64 (BitVec.toNat (hi) : Int)), (.int .u64 (BitVec.toNat (lo) : Int)), .bool v, (.int .i64 (0))] 57)).alloc (.cells #[(.int .i64 (hop))] 3)).alloc (.cells #[.func (.func 39) #[.pointer (some ⟨r, 0, none⟩)] #[]] 107)) w.heap.size 57 #[(.int .u64 (BitVec.toNat (hi) : Int)), (.int .u64 (BitVec.toNat (lo) : Int)), .bool v, (.int .i64 (0))] := (Blk.new' w w.heap.size _ _ rfl).ext (((Ext.refl _).alloc _).alloc _)
  have c5 : Blk (((w.alloc (.cells #[(.int .u64 (BitVec.toNat (hi) : Int)), (.int .u64 (BitVec.toNat (lo) : Int)), .bool v, (.int .i64 (0))] 57)).alloc (.cells #[(.int .i64 (hop))] 3)).alloc (.cells #[.func (.func 39) #[.pointer (some ⟨r, 0, none⟩)] #[]] 107)) (w.heap.size + 1) 3 #[(.int .i64 (hop))] := (Blk.new' (w.alloc _) (w.heap.size + 1) _ _ (by simp)).ext ((Ext.refl _).alloc _)
  have c8 : Blk (((w.alloc (.cells #[(.int .u64 (BitVec.toNat (hi) : Int)), (.int .u64 (BitVec.toNat (lo) : Int)), .bool v, (.int .i64 (0))] 57)).alloc (.cells #[(.int .i64 (hop))] 3)).alloc (.cells #[.func (.func 39) #[.pointer (some ⟨r, 0, none⟩)] #[]] 107)) (w.heap.size + 1 + 1) 107 #[.func (.func 39) #[.pointer (some ⟨r, 0, none⟩)] #[]] := Blk.new' ((w.alloc _).alloc _) (w.heap.size + 1 + 1) _ _ (by simp)
  have Hup := Lib.hid (update0_c (w.heap.size + 1 + 1) w.heap.size (w.heap.size + 1) h r rb um t tb A F A2 F2 ar ar2 fr fr2 n n2 most hops bd st hi lo v hop _ i x (hH.ext hx) (hu.ext hx) hF hC hbd (c8.cell 0) c4 (c5.cell 0))
  have HX := Lib.hid hx
  have hlt := hH.lt
  have a0 := hH.c0
  clear hH hu hF hC hbd hx c4 c5 c8
  go_enter Tryz.func17, Tryz.ntmps17
  go_wp2_with (first
    | (go_at_call 38; (with_reducible refine (hroutes_c h r _ (by go_simp)).mono ?_); rintro e w1 ⟨rfl, rfl⟩)
    | (go_at_call 40; (with_reducible refine Hup.out.mono ?_); rintro e w1 ⟨rfl, hK, hH⟩; have HK := Lib.hid hK; have HH := Lib.hid hH; clear hK hH))
  go_ret2
  exact ⟨rfl, (HX.out.keep _).trans HK.out, HH.out⟩
end Go.Proofs.YtcipokldcjappaaGreat

namespace Go.Proofs.YtcipokldcjappaaGreat
open Go.RowKit

/-- these bytes stand in a block from a place on -/
def ByA (w : World) (g off : Nat) (l : List UInt8) : Prop := ∀ (j : Nat) (b : UInt8), l[j]? = some b → w.cell? ⟨g, off + j, none⟩ = some (.int .u8 (b.toNat : Int))
theorem ByA.ext {w w' : World} {g off : Nat} {l : List UInt8} (h : ByA w g off l) (hg : g < w.heap.size) (hx : Ext w w') : ByA w' g off l := fun j b hb => (hx.cell _ _ hg).trans (h j b hb)

/-- a byte, so many digits from the last one -/
def bw (b : UInt8) (s : Nat) : BitVec 64 := (BitVec.ofNat 64 b.toNat) <<< s
theorem bw_eq (b : UInt8) (s : Nat) : IntKind.u64.wrap ((b.toNat : Int) * ((2 ^ s : Nat) : Int)) = ((bw b s).toNat : Int) := by
  unfold bw
  have := b.toNat_lt
  rw [IntKind.wrap_u64, BitVec.toNat_shiftLeft, Nat.shiftLeft_eq, BitVec.toNat_ofNat, Nat.mod_eq_of_lt (a := b.toNat) (by omega)]
  rfl
@[go_sem] theorem bw56 (b : UInt8) : IntKind.u64.wrap ((b.toNat : Int) * 72057594037927936) = ((bw b 56).toNat : Int) := bw_eq b 56
@[go_sem] theorem bw48 (b : UInt8) : IntKind.u64.wrap ((b.toNat : Int) * 281474976710656) = ((bw b 48).toNat : Int) := bw_eq b 48
@[go_sem] theorem bw40 (b : UInt8) : IntKind.u64.wrap ((b.toNat : Int) * 1099511627776) = ((bw b 40).toNat : Int) := bw_eq b 40
@[go_sem] theorem bw32 (b : UInt8) : IntKind.u64.wrap ((b.toNat : Int) * 4294967296) = ((bw b 32).toNat : Int) := bw_eq b 32
@[go_sem] theorem bw24 (b : UInt8) : IntKind.u64.wrap ((b.toNat : Int) * 16777216) = ((bw b 24).toNat : Int) := bw_eq b 24
@[go_sem] theorem bw16 (b : UInt8) : IntKind.u64.wrap ((b.toNat : Int) * 65536) = ((bw b 16).toNat : Int) := bw_eq b 16
@[go_sem] theorem bw8 (b : UInt8) : IntKind.u64.wrap ((b.toNat : Int) * 256) = ((bw b 8).toNat : Int) := bw_eq b 8
@[go_sem] theorem or_zero_l (x : BitVec 64) : bits .or .u64 0 ((x.toNat : Int)) = (x.toNat : Int) := by
  have := and_u64
  have h := or_u64 0#64 x
  simp only [wOr, BitVec.toNat_ofNat] at h
  simpa using h

/-- an address of four bytes -/
def ip4 (a b c d : UInt8) : BitVec 64 := wOr (wOr (wOr (bw a 56) (bw b 48)) (bw c 40)) (bw d 32)

theorem of0_c (hi : BitVec 64) (v : Bool) (w : World) :
    Calls Tryz.prog 33 #[.agg #[(.int .u64 (BitVec.toNat (hi) : Int)), .int .u64 0], .bool v] w fun e w' => e = .returned (.agg #[(.int .u64 (BitVec.toNat (hi) : Int)), .int .u64 0, .bool v]) ∧ Ext w w' := of_c hi 0#64 v w
theorem from_results (tmps : Array Value) (W : World) (b : Nat) (x y e : Int) (v : Bool) (h2 : tmps[2]? = some (.pointer (some ⟨b, 0, none⟩))) (h3 : tmps[3]? = some (.int .i64 e)) (hb : Blk W b 37 #[.int .u64 x, .int .u64 y, .bool v]) :
    (results Tryz.f15 tmps).run Tryz.prog W = .ok (.tuple #[.agg #[.int .u64 x, .int .u64 y, .bool v], .int .i64 e]) W := by
  have c0 : W.cell? ⟨b, 0, none⟩ = some (.int .u64 x) := hb.cell 0
  have c1 : W.cell? ⟨b, 1, none⟩ = some (.int .u64 y) := hb.cell 1
  have c2 : W.cell? ⟨b, 2, none⟩ = some (.bool v) := hb.cell 2
  simp [results, Tryz.results15, go_sem, h2, h3, c0, c1, c2]
set_option maxRecDepth 100000 in
set_option maxHeartbeats 2000000 in
theorem from4_c (g off cap : Nat) (a b c d : UInt8) (w : World) (h : ByA w g off [a, b, c, d]) (hcap : 4 ≤ cap) :
    Calls Tryz.prog 15 #[.slice (some ⟨g, off, none⟩) 4 cap] w fun e w' => e = .returned (.tuple #[.agg #[(.int .u64 (BitVec.toNat (ip4 a b c d) : Int)), .int .u64 0, .bool false], (.int .i64 (0))]) ∧ Ext w w' := by
  have c0 : w.cell? ⟨g, off, none⟩ = some (.int .u8 (a.toNat : Int)) := h 0 a rfl
  have c1 : w.cell? ⟨g, off + 1, none⟩ = some (.int .u8 (b.toNat : Int)) := h 1 b rfl
  have c2 : w.cell? ⟨g, off + 2, none⟩ = some (.int .u8 (c.toNat : Int)) := h 2 c rfl
  have c3 : w.cell? ⟨g, off + 3, none⟩ = some (.int .u8 (d.toNat : Int)) := h 3 d rfl
  have hg := World.block_lt_of_cell? w _ c0
  have ba := a.toNat_lt
  have bb := b.toNat_lt
  have bc := c.toNat_lt
  have bd := d.toNat_lt
  clear h
  go_enter Tryz.func15, Tryz.ntmps15
  go_wp2_with fail
  refine wp_loop_rounds 5 ?_
  rw [rounds_succ]
  go_wp2
  rw [rounds_succ]
  go_wp2
  rw [rounds_succ]
  go_wp2
  rw [rounds_succ]
  go_wp2
  rw [rounds_succ]
  go_wp2_with (go_at_call 33; (with_reducible refine (of0_c (wOr (wOr (wOr (bw a 56) (bw b 48)) (bw c 40)) (bw d 32)) false _).mono ?_); rintro e w1 ⟨rfl, h1⟩; have c_h1 := h1.cell; have f_h1 := h1.frozen; have z_h1_0 := h1.lt (b := w.heap.size) (by first | omega | (simp <;> omega)); have z_h1_1 := h1.lt (b := w.heap.size + 1) (by first | omega | (simp <;> omega)))
  have hb := ((((Blk.new' w w.heap.size 37 #[.int .u64 0, .int .u64 0, .bool false] rfl).ext ((Ext.refl _).alloc _)).ext h1).set 0 ((.int .u64 (BitVec.toNat (wOr (wOr (wOr (bw a 56) (bw b 48)) (bw c 40)) (bw d 32)) : Int)))).set 1 (.int .u64 0) |>.set 2 (.bool false)
  refine bodyPost_ret (v := .tuple #[.agg #[(.int .u64 (BitVec.toNat (ip4 a b c d) : Int)), .int .u64 0, .bool false], (.int .i64 (0))]) (from_results _ _ w.heap.size _ _ _ _ rfl rfl hb) rfl ⟨rfl, ?_⟩
  (repeat (first | with_reducible exact Ext.refl _ | with_reducible assumption | (with_reducible refine Ext.set ?_ (by simp <;> omega) _) | (with_reducible refine Ext.alloc ?_ _) | (with_reducible refine Ext.drew ?_) | (with_reducible refine Ext.trans ?_ (by assumption)) | exact Ext.refl _))
end Go.Proofs.YtcipokldcjappaaGreat

namespace Go.Proofs.YtcipokldcjappaaGreat
open Go.RowKit

/-- a word of two bytes -/
def wd (a b : UInt8) : Nat := a.toNat * 256 + b.toNat
theorem wd_lt (a b : UInt8) : wd a b < 65536 := by have := a.toNat_lt; have := b.toNat_lt; unfold wd; omega
@[go_sem] theorem wrap16_byte (a : UInt8) : IntKind.u16.wrap (a.toNat : Int) = (a.toNat : Int) := by
  have ha := a.toNat_lt
  rw [IntKind.wrap_u16]; omega
@[go_sem] theorem wrap64_byte' (a : UInt8) : IntKind.u64.wrap (a.toNat : Int) = (a.toNat : Int) := by
  have ha := a.toNat_lt
  rw [IntKind.wrap_u64]; omega
@[go_sem] theorem or_w16 (a b : UInt8) : bits .or .u16 (IntKind.u16.wrap ((a.toNat : Int) * 256)) (b.toNat : Int) = ((wd a b : Nat) : Int) := by
  have ha := a.toNat_lt
  have hb := b.toNat_lt
  rw [IntKind.wrap_u16, show ((a.toNat : Int) * 256) % 65536 = ((a.toNat * 256 : Nat) : Int) by omega, u16_or_nat _ _ (by omega) (by omega), nat_join 8 _ _ (by omega) (by omega)]
  rfl
theorem bw8_nat (a : UInt8) : (bw a 8).toNat = a.toNat * 256 := by
  have ha := a.toNat_lt
  unfold bw
  rw [BitVec.toNat_shiftLeft, Nat.shiftLeft_eq, BitVec.toNat_ofNat, Nat.mod_eq_of_lt (a := a.toNat) (by omega)]
  omega
@[go_sem] theorem or_w64 (a b : UInt8) : bits .or .u64 ((bw a 8).toNat : Int) (b.toNat : Int) = ((wd a b : Nat) : Int) := by
  have ha := a.toNat_lt
  have hb := b.toNat_lt
  rw [bw8_nat, u64_or_nat _ _ (by omega) (by omega), nat_join 8 _ _ (by omega) (by omega)]
  rfl

set_option maxRecDepth 100000 in
set_option maxHeartbeats 1000000 in
theorem word_c (g off n cap : Nat) (a b : UInt8) (w : World) (hn : 2 ≤ n) (c0 : w.cell? ⟨g, off, none⟩ = some (.int .u8 (a.toNat : Int))) (c1 : w.cell? ⟨g, off + 1, none⟩ = some (.int .u8 (b.toNat : Int))) :
    Calls Tryz.prog 107 #[.slice (some ⟨g, off, none⟩) n cap] w fun e w' => e = .returned (.int .u16 ((wd a b : Nat) : Int)) ∧ Ext w w' := by
  have ba := a.toNat_lt
  have bb := b.toNat_lt
  have hg := World.block_lt_of_cell? w _ c0
  have h0 : 0 < n := by omega
  have h1 : 1 < n := by omega
  have h1' : (1 : Int) < (n : Int) := by omega
  have h0' : (0 : Int) < (n : Int) := by omega
  go_enter Tryz.func107, Tryz.ntmps107
  go_wp2_with fail
  refine wp_region_ext 10 (by kernel_rfl) (by kernel_rfl) ?_
  dsimp only [List.take, List.drop]
  repeat (first | (apply hold_skip2 rfl; focus (first | (simp only [Act.put, List.setIfInBounds_toArray, List.set_cons_zero, List.set_cons_succ]; exact rfl) | (simp only [Act.put, List.setIfInBounds_toArray, List.set_cons_zero, List.set_cons_succ]) | exact rfl)) | (apply hold_cons2 rfl; (focus (intro w1 hS; have c1 := hS.cell; have f1 := hS.frozen; have z1 := hS.size; go_simp; first | exact rfl | exact ⟨rfl, hS⟩ )); (focus (first | (simp only [Act.put, List.setIfInBounds_toArray, List.set_cons_zero, List.set_cons_succ]; exact rfl) | (simp only [Act.put, List.setIfInBounds_toArray, List.set_cons_zero, List.set_cons_succ]) | exact rfl))))
  refine hold_nil ?_
  rintro w1 hE
  have c_hE := hE.cell
  have f_hE := hE.frozen
  go_wp2
  go_ret
  exact ⟨rfl, hE⟩

/-- the sum of all words; the last byte stands alone, if there is one -/
def sumN : List UInt8 → Nat
  | a :: b :: l => wd a b + sumN l
  | [a] => a.toNat * 256
  | [] => 0
theorem sumN_le (l : List UInt8) : sumN l ≤ 65536 * l.length := by
  induction l using sumN.induct with
  | case1 a b l ih => have := wd_lt a b; simp only [sumN, List.length_cons]; omega
  | case2 a => have := a.toNat_lt; simp [sumN]; omega
  | case3 => simp [sumN]

set_option maxRecDepth 100000 in
set_option maxHeartbeats 1000000 in
theorem sumClo_c (q : Nat) (x : Int) (m : Nat) (w : World) (hB : Blk w q 31 #[.int .u64 (m : Int)]) (hx : 0 ≤ x) (hb : (m : Int) + x ≤ 4611686018427387904) :
    Calls Tryz.prog 74 #[.int .u64 x, .pointer (some ⟨q, 0, none⟩)] w fun e w' => e = .returned (.tuple #[]) ∧ w.setCell ⟨q, 0, none⟩ (.int .u64 ((m : Int) + x)) = w' := by
  have c0 : w.cell? ⟨q, 0, none⟩ = some (.int .u64 (m : Int)) := hB.cell 0
  have f0 : w.frozen? ⟨q, 0, none⟩ = false := hB.frozen 0
  have hw : IntKind.u64.wrap ((m : Int) + x) = (m : Int) + x := by rw [IntKind.wrap_u64]; omega
  clear hB
  go_enter Tryz.func74, Tryz.ntmps74
  go_wp2
  go_end0
  exact ⟨rfl, rfl⟩

/-- a slice of bytes behind some of them -/
theorem sum_drop2 (l : List UInt8) (k : Nat) (a b : UInt8) (ha : l[k]? = some a) (hb : l[k + 1]? = some b) : sumN (l.drop k) = wd a b + sumN (l.drop (k + 2)) := by
  have h1 : l.drop k = a :: b :: l.drop (k + 2) := by
    have hk : k < l.length := (List.getElem?_eq_some_iff.1 ha).1
    have hk1 : k + 1 < l.length := (List.getElem?_eq_some_iff.1 hb).1
    rw [List.drop_eq_getElem_cons hk, List.drop_eq_getElem_cons hk1]
    rw [List.getElem?_eq_getElem hk] at ha
    rw [List.getElem?_eq_getElem hk1] at hb
    rw [Option.some.inj ha, Option.some.inj hb]
  rw [h1]; rfl
theorem sum_drop1 (l : List UInt8) (k : Nat) (a : UInt8) (ha : l[k]? = some a) (hk : k + 1 = l.length) : sumN (l.drop k) = a.toNat * 256 := by
  have hk0 : k < l.length := by omega
  rw [List.drop_eq_getElem_cons hk0, List.drop_of_length_le (by omega)]
  rw [List.getElem?_eq_getElem hk0] at ha
  rw [Option.some.inj ha]; rfl

/-- How the sum goes on. -/
structure WAt (w : World) (g off q : Nat) (l : List UInt8) (n k : Nat) (wr : World) : Prop where
  keep : Keep (fun k => k = q) w wr
  cell : ∃ m : Nat, Blk wr q 31 #[.int .u64 (m : Int)] ∧ m + sumN (l.drop (2 * k)) = n + sumN l

set_option maxRecDepth 100000 in
set_option maxHeartbeats 2000000 in
theorem words_c (g off cap q n : Nat) (l : List UInt8) (w : World) (hl : ByA w g off l) (hlen : l.length ≤ 1000000) (hcap : l.length ≤ cap) (hmx : cap ≤ 9223372036854775807) (hB : Blk w q 31 #[.int .u64 (n : Int)]) (hn : n ≤ 1000000) (hgq : g ≠ q) (hg : g < w.heap.size) :
    Calls Tryz.prog 73 #[.slice (some ⟨g, off, none⟩) l.length cap, .func (.func 74) #[] #[.pointer (some ⟨q, 0, none⟩)]] w
      fun e w' => e = .returned (.tuple #[]) ∧ Keep (fun k => k = q) w w' ∧ Blk w' q 31 #[.int .u64 ((n + sumN l : Nat) : Int)] := by
  have hs := sumN_le l
  have h0 : WAt w g off q l n 0 w := ⟨Keep.refl _ _, n, hB, by simp⟩
  have H0 := Lib.hid h0
  have HL := Lib.hid hl
  clear h0 hl hB
  go_enter Tryz.func73, Tryz.ntmps73
  go_wp2_with fail
  go_loopw [0] (fun s wr => ∃ (k : Nat) (a : Addr), 2 * k ≤ l.length ∧ s = .slice (some a) (l.length - 2 * k) (cap - 2 * k) ∧ (2 * k < l.length → a = ⟨g, off + 2 * k, none⟩) ∧ WAt w g off q l n k wr) (fun s _ => match s with | .slice _ n _ => n | _ => 0)
  case atStart => exact ⟨0, ⟨g, off, none⟩, by omega, rfl, fun _ => rfl, H0.out⟩
  case round =>
    obtain ⟨k, a, hk, rfl, ha, hK, m, hB, hm⟩ := hrel
    have hcell := fun j b hb => (hK.cell (p := ⟨g, off + j, none⟩) hg hgq).trans (HL.out j b hb)
    have hgr : g < wr.heap.size := Nat.lt_of_lt_of_le hg hK.size
    by_cases h2 : 2 * k + 1 < l.length
    · obtain ⟨b0, hb0⟩ : ∃ b, l[2 * k]? = some b := ⟨_, List.getElem?_eq_getElem (by omega)⟩
      obtain ⟨b1, hb1⟩ : ∃ b, l[2 * k + 1]? = some b := ⟨_, List.getElem?_eq_getElem (by omega)⟩
      obtain rfl := ha (by omega)
      have hsum := sum_drop2 l (2 * k) b0 b1 hb0 hb1
      have hw := wd_lt b0 b1
      have c0 : wr.cell? ⟨g, off + 2 * k, none⟩ = some (.int .u8 (b0.toNat : Int)) := hcell _ _ hb0
      have c1 : wr.cell? ⟨g, off + 2 * k + 1, none⟩ = some (.int .u8 (b1.toNat : Int)) := hcell _ _ hb1
      obtain ⟨r, hr⟩ : ∃ r, l.length - 2 * k = r + 2 := ⟨l.length - 2 * k - 2, by omega⟩
      obtain ⟨c, hc⟩ : ∃ c, cap - 2 * k = c + 2 := ⟨cap - 2 * k - 2, by omega⟩
      rw [hr, hc]
      have hr1 : r ≤ c := by omega
      have hmb : (m : Int) + ((wd b0 b1 : Nat) : Int) ≤ 4611686018427387904 := by omega
      have ba := b0.toNat_lt
      have bb := b1.toNat_lt
      have hl1 : (1 : Int) < ((r : Int) + 2) := by omega
      have hl0 : (0 : Int) < ((r : Int) + 2) := by omega
      have hlc : (2 : Int) ≤ ((r : Int) + 2) := by omega
      have HK := Lib.hid hK
      have HB := Lib.hid hB
      have Hm := Lib.hid hm
      have Hsum := Lib.hid hsum
      clear hcell hsum hb0 hb1 hK hB hm ha
      have Hrc := Lib.hid (show l.length - 2 * k = r + 2 ∧ cap - 2 * k = c + 2 from ⟨hr, hc⟩)
      clear hr hc
      go_wp2_with fail
      refine wp_region_ext 11 (by kernel_rfl) (by kernel_rfl) ?_
      dsimp only [List.take, List.drop]
      repeat (first | (apply hold_skip2 rfl; focus (first | (simp only [Act.put, List.setIfInBounds_toArray, List.set_cons_zero, List.set_cons_succ]; exact rfl) | (simp only [Act.put, List.setIfInBounds_toArray, List.set_cons_zero, List.set_cons_succ]) | exact rfl)) | (apply hold_cons2 rfl; (focus (intro w1 hS; have c1 := hS.cell; have f1 := hS.frozen; have z1 := hS.size; go_simp; first | exact rfl | exact ⟨rfl, hS⟩ )); (focus (first | (simp only [Act.put, List.setIfInBounds_toArray, List.set_cons_zero, List.set_cons_succ]; exact rfl) | (simp only [Act.put, List.setIfInBounds_toArray, List.set_cons_zero, List.set_cons_succ]) | exact rfl))))
      refine hold_nil ?_
      rintro w1 hE
      have c_hE := hE.cell
      have f_hE := hE.frozen
      have hB1 := HB.out.ext hE
      have Hclo := Lib.hid (sumClo_c q ((wd b0 b1 : Nat) : Int) m w1 hB1 (by omega) hmb)
      have hnext : ∀ a', (2 * (k + 1) < l.length → a' = (⟨g, off + 2 * k + 2, none⟩ : Addr)) → ∃ (k' : Nat) (a : Addr), 2 * k' ≤ l.length ∧ (.slice (some a') r c : Value) = .slice (some a) (l.length - 2 * k') (cap - 2 * k') ∧ (2 * k' < l.length → a = ⟨g, off + 2 * k', none⟩) ∧ WAt w g off q l n k' (w1.setCell ⟨q, 0, none⟩ (.int .u64 ((m : Int) + ((wd b0 b1 : Nat) : Int)))) := fun a' ha' =>
        ⟨k + 1, a', by have := Hrc.out; omega, by have := Hrc.out; rw [show l.length - 2 * (k + 1) = r by omega, show cap - 2 * (k + 1) = c by omega], fun h => by rw [ha' h]; rfl,
          (HK.out.thenExt hE).set (p := ⟨q, 0, none⟩) (.inl rfl) _, m + wd b0 b1, by simpa using hB1.set 0 (.int .u64 ((m : Int) + ((wd b0 b1 : Nat) : Int))), by have := Hm.out; have := Hsum.out; rw [show 2 * (k + 1) = 2 * k + 2 by omega]; omega⟩
      have Hnext := Lib.hid hnext
      clear hnext hB1 hE c_hE f_hE c0 c1
      go_wp2_with (go_at_call 74; (with_reducible refine Hclo.out.mono ?_); rintro e w2 ⟨rfl, rfl⟩)
      by_cases hc0 : c = 0
      · rw [if_pos hc0]
        exact ⟨Hnext.out _ (fun h => by have := Hrc.out; omega), by show r < r + 2; omega⟩
      · rw [if_neg hc0]
        exact ⟨Hnext.out _ (fun _ => rfl), by show r < r + 2; omega⟩
    · by_cases h1 : 2 * k + 1 = l.length
      · obtain ⟨b0, hb0⟩ : ∃ b, l[2 * k]? = some b := ⟨_, List.getElem?_eq_getElem (by omega)⟩
        obtain rfl := ha (by omega)
        have hsum := sum_drop1 l (2 * k) b0 hb0 h1
        have c0 : wr.cell? ⟨g, off + 2 * k, none⟩ = some (.int .u8 (b0.toNat : Int)) := hcell _ _ hb0
        have hbw := bw8_nat b0
        have ba := b0.toNat_lt
        have hr : l.length - 2 * k = 1 := by omega
        rw [hr]
        have Hclo := Lib.hid (sumClo_c q ((bw b0 8).toNat : Int) m wr hB (by omega) (by omega))
        have Hfin := Lib.hid (show Keep (fun k => k = q) w (wr.setCell ⟨q, 0, none⟩ (.int .u64 ((m : Int) + ((bw b0 8).toNat : Int)))) ∧ Blk (wr.setCell ⟨q, 0, none⟩ (.int .u64 ((m : Int) + ((bw b0 8).toNat : Int)))) q 31 #[.int .u64 ((n + sumN l : Nat) : Int)] from by
          refine ⟨hK.set (p := ⟨q, 0, none⟩) (.inl rfl) _, ?_⟩
          have e : (m : Int) + ((bw b0 8).toNat : Int) = ((n + sumN l : Nat) : Int) := by omega
          rw [e]
          simpa using hB.set 0 (.int .u64 ((n + sumN l : Nat) : Int)))
        clear hcell hsum hb0 hK hB hm ha hr hbw h1 h2
        go_wp2_with (go_at_call 74; (with_reducible refine Hclo.out.mono ?_); rintro e w2 ⟨rfl, rfl⟩)
        go_end0
        exact ⟨rfl, Hfin.out.1, Hfin.out.2⟩
      · have hr : l.length - 2 * k = 0 := by omega
        rw [hr]
        have hd : l.drop (2 * k) = [] := List.drop_of_length_le (by omega)
        rw [hd] at hm
        have Hfin := Lib.hid (show Keep (fun k => k = q) w wr ∧ Blk wr q 31 #[.int .u64 ((n + sumN l : Nat) : Int)] from by
          refine ⟨hK, ?_⟩
          have e : m = n + sumN l := hm
          rw [← e]; exact hB)
        clear hcell hK hB hm ha hr hd h1 h2
        go_wp2
        go_end0
        exact ⟨rfl, Hfin.out.1, Hfin.out.2⟩

/-- what is above a word added to it, until nothing is -/
def foldN (n : Nat) : Nat := if n > 65535 then foldN (n % 65536 + n / 65536) else n
termination_by n
decreasing_by omega
theorem foldN_lt (n : Nat) : foldN n < 65536 := by
  induction n using foldN.induct with
  | case1 n h ih => rw [foldN, if_pos h]; exact ih
  | case2 n h => rw [foldN, if_neg h]; omega

set_option maxRecDepth 100000 in
set_option maxHeartbeats 1000000 in
theorem fold_c (n : Nat) (w : World) (hn : n ≤ 4611686018427387904) : Calls Tryz.prog 75 #[.int .u64 (n : Int)] w fun e w' => e = .returned (.int .u16 ((foldN n : Nat) : Int)) ∧ w = w' := by
  go_enter Tryz.func75, Tryz.ntmps75
  go_wp2_with fail
  go_loop [0] (fun v => ∃ m : Nat, v = .int .u64 (m : Int) ∧ m ≤ 4611686018427387904 ∧ foldN m = foldN n) (fun v => (intOf v).toNat)
  case atStart => exact ⟨n, rfl, hn, rfl⟩
  case round =>
    obtain ⟨m, rfl, hm, hf⟩ := hrel
    by_cases h : 65535 < m
    · have ha : bits .and .u64 (m : Int) 65535 = ((m % 65536 : Nat) : Int) := by
        rw [show (65535 : Int) = ((65535 : Nat) : Int) from rfl, u64_and_nat _ _ (by omega) (by omega)]
        congr 1
        exact Nat.and_two_pow_sub_one_eq_mod m 16
      have hstep : foldN m = foldN (m % 65536 + m / 65536) := by rw [foldN, if_pos h]
      have hw : IntKind.u64.wrap (((m % 65536 : Nat) : Int) + (m : Int) / 65536) = ((m % 65536 + m / 65536 : Nat) : Int) := by rw [IntKind.wrap_u64]; omega
      have Hs := Lib.hid (hstep.symm.trans hf)
      clear hstep hf
      go_wp2
      exact ⟨⟨m % 65536 + m / 65536, by congr 1, by omega, Hs.out⟩, by simp [intOf]; omega⟩
    · have hstep : foldN m = m := by rw [foldN, if_neg (by omega)]
      have Hf := Lib.hid (hstep.symm.trans hf)
      have hw : IntKind.u16.wrap (m : Int) = (m : Int) := by rw [IntKind.wrap_u16]; omega
      clear hf hstep
      go_wp2
      go_ret
      exact ⟨by rw [← Hf.out]; rfl, rfl⟩

/-- the sum of bytes -/
def sumW (l : List UInt8) : Nat := 65535 - foldN (sumN l)
theorem not_u16 (x : Nat) (h : x < 65536) : bits .xor .u16 IntKind.u16.max ((x : Nat) : Int) = ((65535 - x : Nat) : Int) := by
  rw [show IntKind.u16.max = ((65535 : Nat) : Int) by decide, u16_xor_nat 65535 x (by decide) h]
  have h2 : (65535 ^^^ x) = 65535 - x := by
    have := BitVec.toNat_not (x := BitVec.ofNat 16 x)
    rw [← BitVec.allOnes_xor, BitVec.toNat_xor, BitVec.toNat_allOnes, BitVec.toNat_ofNat, Nat.mod_eq_of_lt (by omega)] at this
    simpa using this
  rw [h2]

set_option maxRecDepth 100000 in
set_option maxHeartbeats 1000000 in
theorem sum_c (g off cap : Nat) (l : List UInt8) (w : World) (hl : ByA w g off l) (hlen : l.length ≤ 1000000) (hcap : l.length ≤ cap) (hmx : cap ≤ 9223372036854775807) (hg : g < w.heap.size) :
    Calls Tryz.prog 46 #[.slice (some ⟨g, off, none⟩) l.length cap] w fun e w' => e = .returned (.int .u16 ((sumW l : Nat) : Int)) ∧ Ext w w' := by
  have hx : Ext w (w.alloc (.cells #[.int .u64 0] 31)) := (Ext.refl w).alloc _
  have Hw := Lib.hid (words_c g off cap w.heap.size 0 l _ (hl.ext hg hx) hlen hcap hmx (Blk.new w _ _) (by omega) (by omega) (hx.lt hg))
  have hs := sumN_le l
  have Hf := Lib.hid (fun w => fold_c (sumN l) w (by omega))
  have hN := not_u16 (foldN (sumN l)) (foldN_lt _)
  clear hl
  go_enter Tryz.func46, Tryz.ntmps46
  go_wp2_with (first
    | (go_at_call 73; (with_reducible refine Hw.out.mono ?_); rintro e w1 ⟨rfl, hK, hB⟩; have c0 : w1.cell? ⟨w.heap.size, 0, none⟩ = some (.int .u64 ((sumN l : Nat) : Int)) := (by have := hB.cell 0; simpa using this); have HK := Lib.hid hK; clear hK hB)
    | (go_at_call 75; (with_reducible refine (Hf.out _).mono ?_); rintro e w2 ⟨rfl, rfl⟩))
  go_ret
  exact ⟨rfl, ((hx.keep (fun k => k = w.heap.size)).trans HK.out).ext (fun k hk e => by omega)⟩
end Go.Proofs.YtcipokldcjappaaGreat

namespace Go.Proofs.YtcipokldcjappaaGreat
open Go.RowKit

/-- a byte at a place -/
def bAt (l : List UInt8) (k : Nat) : UInt8 := l.getD k 0
theorem ByA.at {w : World} {g off : Nat} {l : List UInt8} (h : ByA w g off l) (k : Nat) (hk : k < l.length) : w.cell? ⟨g, off + k, none⟩ = some (.int .u8 ((bAt l k).toNat : Int)) :=
  h k _ (by unfold bAt; rw [List.getD_eq_getElem?_getD, List.getElem?_eq_getElem hk]; rfl)
theorem ByA.four {w : World} {g off : Nat} {l : List UInt8} (h : ByA w g off l) (k : Nat) (hk : k + 4 ≤ l.length) : ByA w g (off + k) [bAt l k, bAt l (k + 1), bAt l (k + 2), bAt l (k + 3)] := by
  intro j b hb
  have hj : j < 4 := by have := (List.getElem?_eq_some_iff.1 hb).1; simpa using this
  have h1 := h.at (k + j) (by omega)
  rw [← Nat.add_assoc] at h1
  rw [h1]
  rcases j with _ | _ | _ | _ | j
  · simp at hb; subst hb; rfl
  · simp at hb; subst hb; rfl
  · simp at hb; subst hb; rfl
  · simp at hb; subst hb; rfl
  · omega

def hd4 (l : List UInt8) : Nat := (bAt l 0).toNat % 16 * 4
def tot4 (l : List UInt8) : Nat := wd (bAt l 2) (bAt l 3)
def src4 (l : List UInt8) : BitVec 64 := ip4 (bAt l 12) (bAt l 13) (bAt l 14) (bAt l 15)
def dst4 (l : List UInt8) : BitVec 64 := ip4 (bAt l 16) (bAt l 17) (bAt l 18) (bAt l 19)
/-- the head -/
def headV (l : List UInt8) : Value := .agg #[.int .i64 (hd4 l : Int), .int .i64 (tot4 l : Int), .int .i64 ((bAt l 8).toNat : Int), .int .i64 ((bAt l 9).toNat : Int), (.int .u64 (BitVec.toNat (src4 l) : Int)), .int .u64 0, .bool false, (.int .u64 (BitVec.toNat (dst4 l) : Int)), .int .u64 0, .bool false]
@[go_sem] theorem and15 (a : UInt8) : bits .and .u8 (a.toNat : Int) 15 = (a.toNat : Int) % 16 := by
  have ha := a.toNat_lt
  rw [show (15 : Int) = ((15 : Nat) : Int) by rfl, u8_and_nat a.toNat 15 (by omega) (by omega)]
  have := Nat.and_two_pow_sub_one_eq_mod a.toNat 4
  simp only [show 2 ^ 4 - 1 = 15 by rfl, show 2 ^ 4 = 16 by rfl] at this
  rw [this]; rfl
@[go_sem] theorem wrapi_byte (a : UInt8) : IntKind.i64.wrap (a.toNat : Int) = (a.toNat : Int) := by
  have ha := a.toNat_lt
  rw [IntKind.wrap_i64]; omega
@[go_sem] theorem wrapi_mod (a : UInt8) : IntKind.i64.wrap ((a.toNat : Int) % 16) = (a.toNat : Int) % 16 := by
  rw [IntKind.wrap_i64]; omega
@[go_sem] theorem wrapi_hd (l : List UInt8) : IntKind.i64.wrap (((bAt l 0).toNat : Int) % 16 * 4) = ((hd4 l : Nat) : Int) := by
  unfold hd4
  rw [IntKind.wrap_i64]; omega
@[go_sem] theorem wrapi_wd (a b : UInt8) : IntKind.i64.wrap ((wd a b : Nat) : Int) = ((wd a b : Nat) : Int) := by
  have ha := wd_lt a b
  rw [IntKind.wrap_i64]; omega

theorem read4_results (tmps : Array Value) (W : World) (b : Nat) (x0 x1 x2 x3 y0 y1 z0 z1 : Int) (v v' : Bool) (h2 : tmps[2]? = some (.pointer (some ⟨b, 0, none⟩))) (hb : Blk W b 61 #[.int .i64 x0, .int .i64 x1, .int .i64 x2, .int .i64 x3, .int .u64 y0, .int .u64 y1, .bool v, .int .u64 z0, .int .u64 z1, .bool v']) :
    (results Tryz.f128 tmps).run Tryz.prog W = .ok (.agg #[.int .i64 x0, .int .i64 x1, .int .i64 x2, .int .i64 x3, .int .u64 y0, .int .u64 y1, .bool v, .int .u64 z0, .int .u64 z1, .bool v']) W := by
  have c0 := hb.cell 0
  have c1 := hb.cell 1
  have c2 := hb.cell 2
  have c3 := hb.cell 3
  have c4 := hb.cell 4
  have c5 := hb.cell 5
  have c6 := hb.cell 6
  have c7 := hb.cell 7
  have c8 := hb.cell 8
  have c9 := hb.cell 9
  simp at c0 c1 c2 c3 c4 c5 c6 c7 c8 c9
  simp [results, Tryz.results128, go_sem, h2, c0, c1, c2, c3, c4, c5, c6, c7, c8, c9]

set_option maxRecDepth 100000 in
set_option maxHeartbeats 2000000 in
theorem read4_c (g off m c : Nat) (l : List UInt8) (w : World) (hl : ByA w g off l) (hlen : l.length = m + 20) (hcap : m ≤ c) (hmx : c ≤ 9223372036854775000) (hg : g < w.heap.size) :
    Calls Tryz.prog 128 #[.slice (some ⟨g, off, none⟩) (m + 20) (c + 20)] w fun e w' => e = .returned (headV l) ∧ Ext w w' := by
  have c0 : w.cell? ⟨g, off, none⟩ = some (.int .u8 ((bAt l 0).toNat : Int)) := hl.at 0 (by omega)
  have c8 : w.cell? ⟨g, off + 8, none⟩ = some (.int .u8 ((bAt l 8).toNat : Int)) := hl.at 8 (by omega)
  have c9 : w.cell? ⟨g, off + 9, none⟩ = some (.int .u8 ((bAt l 9).toNat : Int)) := hl.at 9 (by omega)
  have hw := fun w1 (hx : Ext w w1) => word_c g (off + 2) (m + 18) (c + 18) (bAt l 2) (bAt l 3) w1 (by omega) ((hx.cell _ _ hg).trans (hl.at 2 (by omega))) ((hx.cell _ _ hg).trans (hl.at 3 (by omega)))
  have hs := fun w1 (hx : Ext w w1) => from4_c g (off + 12) (c + 8) (bAt l 12) (bAt l 13) (bAt l 14) (bAt l 15) w1 ((hl.four 12 (by omega)).ext hg hx) (by omega)
  have hd := fun w1 (hx : Ext w w1) => from4_c g (off + 16) (c + 4) (bAt l 16) (bAt l 17) (bAt l 18) (bAt l 19) w1 ((hl.four 16 (by omega)).ext hg hx) (by omega)
  have Hw := Lib.hid hw
  have Hs := Lib.hid hs
  have Hd := Lib.hid hd
  have hn0 : (0 : Int) < ((m : Int) + 20) := by omega
  have hn8 : (8 : Int) < ((m : Int) + 20) := by omega
  have hn9 : (9 : Int) < ((m : Int) + 20) := by omega
  have hn2 : (2 : Int) ≤ ((m : Int) + 20) := by omega
  have hmc : (m : Int) ≤ (c : Int) := by omega
  clear hl hlen hw hs hd
  go_enter Tryz.func128, Tryz.ntmps128
  go_wp2_with fail
  refine wp_region_def 20 19 3 0 61 #[.int .i64 0, .int .i64 0, .int .i64 0, .int .i64 0, .int .u64 0, .int .u64 0, .bool false, .int .u64 0, .int .u64 0, .bool false] rfl (by kernel_rfl) ?_
  dsimp only [List.take, List.drop]
  repeat ((first | (refine wpT_skip rfl rfl ?_) | (apply wpT_fix rfl rfl; focus (intro w1 hS; have c1 := hS.cell; have f1 := hS.frozen; have z1 := hS.size; go_simp; first | exact ⟨rfl, hS, Ext.refl _⟩ | (exact ⟨⟨_, by omega, rfl, Blk.new _ _ _⟩, hS.alloc _, (Ext.refl _).alloc _⟩) | (((with_reducible refine (Hw.out _ (((Ext.refl w).alloc _).trans hS)).mono ?_); rintro e w2 ⟨rfl, h2⟩; exact ⟨_, rfl, rfl, hS.trans h2, h2⟩)))) | (refine wpT_loose rfl rfl ?_ ?_; focus (intro w1 hS; have c1 := hS.cell; have f1 := hS.frozen; have z1 := hS.size; go_simp; first | (exact ⟨⟨_, by omega, rfl, Blk.new _ _ _⟩, hS.alloc _, (Ext.refl _).alloc _⟩) | (((with_reducible refine (Hw.out _ (((Ext.refl w).alloc _).trans hS)).mono ?_); rintro e w2 ⟨rfl, h2⟩; exact ⟨_, rfl, rfl, hS.trans h2, h2⟩))))); try simp only [Act.put, List.setIfInBounds_toArray, List.set_cons_zero, List.set_cons_succ])
  refine wpT_nil ?_
  rintro -
  refine ⟨_, 22, 18, _, _, rfl, rfl, rfl, rfl, rfl, by decide, by decide, by decide, rfl, rfl, by kernel_rfl, by simp [Value.oneCell'], ?_⟩
  intro q w1 hS hq hB
  have HE := Lib.hid (show Ext w w1 from ((Ext.refl w).alloc _).trans hS)
  simp only [Act.put, List.setIfInBounds_toArray, List.set_cons_zero, List.set_cons_succ]
  have d0 : w1.cell? ⟨q, 0, none⟩ = some (.int .i64 ((hd4 l : Nat) : Int)) := hB.cell 0
  have d1 : w1.cell? ⟨q, 1, none⟩ = some (.int .i64 ((tot4 l : Nat) : Int)) := hB.cell 1
  have d2 : w1.cell? ⟨q, 2, none⟩ = some (.int .i64 ((bAt l 8).toNat : Int)) := hB.cell 2
  have d3 : w1.cell? ⟨q, 3, none⟩ = some (.int .i64 ((bAt l 9).toNat : Int)) := hB.cell 3
  have hR := (Blk.new w 61 #[.int .i64 0, .int .i64 0, .int .i64 0, .int .i64 0, .int .u64 0, .int .u64 0, .bool false, .int .u64 0, .int .u64 0, .bool false]).ext hS
  have d4 : w1.cell? ⟨q, 4, none⟩ = some (.int .u64 0) := hB.cell 4
  have d5 : w1.cell? ⟨q, 5, none⟩ = some (.int .u64 0) := hB.cell 5
  have d6 : w1.cell? ⟨q, 6, none⟩ = some (.bool false) := hB.cell 6
  have HB := Lib.hid hB
  have HR := Lib.hid hR
  have zq := hB.lt
  have hqw : w.heap.size < q := by simp at hq; omega
  clear hS hB hR hq
  go_wp2_with (first
    | (go_at_call 15; (with_reducible refine (Hs.out _ HE.out).mono ?_); rintro e w2 ⟨rfl, h2⟩; have fq := (HB.out.ext h2).frozen; have c_h2 := h2.cell; have zq2 := h2.lt zq; have H2 := Lib.hid h2; clear h2)
    | (go_at_call 15; (with_reducible refine (Hd.out _ (?hx : Ext w _)).mono ?_); (case hx => exact ((((HE.out.trans H2.out).set (by simp; omega) _).set (by simp; omega) _).set (by simp; omega) _)); rintro e w3 ⟨rfl, h3⟩; have hB3 := ((((HB.out.ext H2.out).set 4 ((.int .u64 (BitVec.toNat (ip4 (bAt l 12) (bAt l 13) (bAt l 14) (bAt l 15)) : Int)))).set 5 (.int .u64 0)).set 6 (.bool false)).ext h3; have hR3 := ((((HR.out.ext H2.out).far (p := ⟨q, 4, none⟩) (by simp; omega) ((.int .u64 (BitVec.toNat (ip4 (bAt l 12) (bAt l 13) (bAt l 14) (bAt l 15)) : Int)))).far (p := ⟨q, 5, none⟩) (by simp; omega) (.int .u64 0)).far (p := ⟨q, 6, none⟩) (by simp; omega) (.bool false)).ext h3; have e0 : w3.cell? ⟨q, 0, none⟩ = some (.int .i64 ((hd4 l : Nat) : Int)) := hB3.cell 0; have e1 : w3.cell? ⟨q, 1, none⟩ = some (.int .i64 ((tot4 l : Nat) : Int)) := hB3.cell 1; have e2 : w3.cell? ⟨q, 2, none⟩ = some (.int .i64 ((bAt l 8).toNat : Int)) := hB3.cell 2; have e3 : w3.cell? ⟨q, 3, none⟩ = some (.int .i64 ((bAt l 9).toNat : Int)) := hB3.cell 3; have e4 : w3.cell? ⟨q, 4, none⟩ = some ((.int .u64 (BitVec.toNat (ip4 (bAt l 12) (bAt l 13) (bAt l 14) (bAt l 15)) : Int))) := hB3.cell 4; have e5 : w3.cell? ⟨q, 5, none⟩ = some (.int .u64 0) := hB3.cell 5; have e6 : w3.cell? ⟨q, 6, none⟩ = some (.bool false) := hB3.cell 6; have e7 : w3.cell? ⟨q, 7, none⟩ = some (.int .u64 0) := hB3.cell 7; have e8 : w3.cell? ⟨q, 8, none⟩ = some (.int .u64 0) := hB3.cell 8; have e9 : w3.cell? ⟨q, 9, none⟩ = some (.bool false) := hB3.cell 9; have r0 : w3.cell? ⟨w.heap.size, 0, none⟩ = some (.int .i64 0) := hR3.cell 0; have r1 : w3.cell? ⟨w.heap.size, 1, none⟩ = some (.int .i64 0) := hR3.cell 1; have r2 : w3.cell? ⟨w.heap.size, 2, none⟩ = some (.int .i64 0) := hR3.cell 2; have r3 : w3.cell? ⟨w.heap.size, 3, none⟩ = some (.int .i64 0) := hR3.cell 3; have r4 : w3.cell? ⟨w.heap.size, 4, none⟩ = some (.int .u64 0) := hR3.cell 4; have r5 : w3.cell? ⟨w.heap.size, 5, none⟩ = some (.int .u64 0) := hR3.cell 5; have r6 : w3.cell? ⟨w.heap.size, 6, none⟩ = some (.bool false) := hR3.cell 6; have r7 : w3.cell? ⟨w.heap.size, 7, none⟩ = some (.int .u64 0) := hR3.cell 7; have r8 : w3.cell? ⟨w.heap.size, 8, none⟩ = some (.int .u64 0) := hR3.cell 8; have r9 : w3.cell? ⟨w.heap.size, 9, none⟩ = some (.bool false) := hR3.cell 9; have f3 := hB3.frozen; have g3 := hR3.frozen; have zq3 := hB3.lt; have zr3 := hR3.lt; have HR3 := Lib.hid hR3; have H3 := Lib.hid h3; clear hB3 hR3 h3))
  have hb := (((((((((((((HR3.out.far (p := ⟨q, 7, none⟩) (by simp; omega) ((.int .u64 (BitVec.toNat (ip4 (bAt l 16) (bAt l 17) (bAt l 18) (bAt l 19)) : Int)))).far (p := ⟨q, 8, none⟩) (by simp; omega) (.int .u64 0)).far (p := ⟨q, 9, none⟩) (by simp; omega) (.bool false)).set 0 (.int .i64 ((hd4 l : Nat) : Int))).set 1 (.int .i64 ((tot4 l : Nat) : Int))).set 2 (.int .i64 ((bAt l 8).toNat : Int))).set 3 (.int .i64 ((bAt l 9).toNat : Int))).set 4 ((.int .u64 (BitVec.toNat (ip4 (bAt l 12) (bAt l 13) (bAt l 14) (bAt l 15)) : Int)))).set 5 (.int .u64 0)).set 6 (.bool false)).set 7 ((.int .u64 (BitVec.toNat (ip4 (bAt l 16) (bAt l 17) (bAt l 18) (bAt l 19)) : Int)))).set 8 (.int .u64 0)).set 9 (.bool false))
  simp only [List.setIfInBounds_toArray, List.set_cons_zero, List.set_cons_succ] at hb
  have h2 := H2.out
  have h3 := H3.out
  have h1 := HE.out
  refine bodyPost_ret (v := headV l) (read4_results _ _ w.heap.size _ _ _ _ _ _ _ _ _ _ rfl hb) rfl ⟨rfl, ?_⟩
  (repeat (first | with_reducible exact Ext.refl _ | with_reducible assumption | (with_reducible refine Ext.set ?_ (by simp <;> omega) _) | (with_reducible refine Ext.alloc ?_ _) | (with_reducible refine Ext.drew ?_) | (with_reducible refine Ext.trans ?_ (by assumption)) | exact Ext.refl _))
end Go.Proofs.YtcipokldcjappaaGreat

namespace Go.Proofs.YtcipokldcjappaaGreat
open Go.RowKit

theorem nat_beq0 (n : Nat) : (((n : Nat) : Int) == 0) = decide (n = 0) := by
  rw [Bool.eq_iff_iff]; simp
theorem check_c (g off cap : Nat) (l : List UInt8) (w : World) (hl : ByA w g off l) (hlen : l.length ≤ 1000000) (hcap : l.length ≤ cap) (hmx : cap ≤ 9223372036854775807) (hg : g < w.heap.size) :
    Calls Tryz.prog 129 #[.slice (some ⟨g, off, none⟩) l.length cap] w fun e w' => e = .returned (.bool (decide (sumW l = 0))) ∧ Ext w w' := by
  have Hc := Lib.hid (sum_c g off cap l w hl hlen hcap hmx hg)
  clear hl
  go_enter Tryz.func129, Tryz.ntmps129
  go_wp2_with (go_at_call 46; (with_reducible refine Hc.out.mono ?_); rintro e w1 ⟨rfl, h1⟩)
  refine bodyPost_ret (v := .bool (decide (sumW l = 0))) (by simp [results, Tryz.results129, go_sem, nat_beq0]) rfl ⟨rfl, h1⟩

def strangeB (a b : UInt8) : Bool := (a.toNat : Int) == 127 || decide (224 ≤ (a.toNat : Int)) || (b.toNat : Int) == 0
set_option maxRecDepth 100000 in
theorem strange_c (a b : UInt8) (w : World) :
    Calls Tryz.prog 130 #[.int .u8 (a.toNat : Int), .int .u8 (b.toNat : Int)] w fun e w' => e = .returned (.bool (strangeB a b)) ∧ w = w' := by
  go_enter Tryz.func130, Tryz.ntmps130
  go_wp2
  all_goals exact bodyPost_ret (v := .bool (strangeB a b)) (by simp [results, Tryz.results130, strangeB, go_sem, *]) rfl ⟨rfl, rfl⟩

/-- what is wrong with a packet of four -/
def wrong4 (l : List UInt8) : Nat :=
  if l.length < 20 then 1 else if (bAt l 0).toNat / 16 ≠ 4 then 2 else if hd4 l < 20 ∨ l.length < hd4 l then 3 else if tot4 l < hd4 l ∨ l.length < tot4 l then 4
  else if sumW (l.take (hd4 l)) ≠ 0 then 5 else if strangeB (bAt l 12) (bAt l 16) then 6 else 0
def zeroHead : Value := .agg #[.int .i64 0, .int .i64 0, .int .i64 0, .int .i64 0, .int .u64 0, .int .u64 0, .bool false, .int .u64 0, .int .u64 0, .bool false]

set_option maxRecDepth 100000 in
set_option maxHeartbeats 1000000 in
theorem parse4short_c (g : Option Addr) (n c : Nat) (w : World) (h : n < 20) :
    Calls Tryz.prog 106 #[.slice g n c] w fun e w' => e = .returned (.tuple #[zeroHead, (.int .i64 (1))]) ∧ Ext w w' := by
  have h1 : (n : Int) < 20 := by omega
  go_enter Tryz.func106, Tryz.ntmps106
  go_wp2
  refine bodyPost_ret (v := .tuple #[zeroHead, (.int .i64 (1))]) (by simp [results, Tryz.results106, go_sem, zeroHead]) rfl ⟨rfl, ?_⟩
  (repeat (first | with_reducible exact Ext.refl _ | with_reducible assumption | (with_reducible refine Ext.set ?_ (by simp <;> omega) _) | (with_reducible refine Ext.alloc ?_ _) | (with_reducible refine Ext.drew ?_) | (with_reducible refine Ext.trans ?_ (by assumption)) | exact Ext.refl _))

theorem ByA.take {w : World} {g off : Nat} {l : List UInt8} (h : ByA w g off l) (k : Nat) : ByA w g off (l.take k) := by
  intro j b hb
  rw [List.getElem?_take] at hb
  split at hb
  · exact h j b hb
  · cases hb

theorem parse4_results (tmps : Array Value) (W : World) (b : Nat) (x0 x1 x2 x3 y0 y1 z0 z1 k : Int) (v v' : Bool) (h2 : tmps[2]? = some (.pointer (some ⟨b, 0, none⟩))) (h3 : tmps[3]? = some (.int .i64 k)) (hb : Blk W b 61 #[.int .i64 x0, .int .i64 x1, .int .i64 x2, .int .i64 x3, .int .u64 y0, .int .u64 y1, .bool v, .int .u64 z0, .int .u64 z1, .bool v']) :
    (results Tryz.f106 tmps).run Tryz.prog W = .ok (.tuple #[.agg #[.int .i64 x0, .int .i64 x1, .int .i64 x2, .int .i64 x3, .int .u64 y0, .int .u64 y1, .bool v, .int .u64 z0, .int .u64 z1, .bool v'], .int .i64 k]) W := by
  have c0 := hb.cell 0
  have c1 := hb.cell 1
  have c2 := hb.cell 2
  have c3 := hb.cell 3
  have c4 := hb.cell 4
  have c5 := hb.cell 5
  have c6 := hb.cell 6
  have c7 := hb.cell 7
  have c8 := hb.cell 8
  have c9 := hb.cell 9
  simp at c0 c1 c2 c3 c4 c5 c6 c7 c8 c9
  simp [results, Tryz.results106, go_sem, h2, h3, c0, c1, c2, c3, c4, c5, c6, c7, c8, c9]

set_option maxRecDepth 100000 in
set_option maxHeartbeats 2000000 in
theorem parse4_2 (g off m c : Nat) (l : List UInt8) (w : World) (hl : ByA w g off l) (hlen : l.length = m + 20) (hcap : m ≤ c) (hmx : c ≤ 9223372036854775000) (hg : g < w.heap.size) (hv : ¬ ((bAt l 0).toNat : Int) / 16 = 4) :
    Calls Tryz.prog 106 #[.slice (some ⟨g, off, none⟩) (m + 20) (c + 20)] w fun e w' => e = .returned (.tuple #[zeroHead, (.int .i64 (2))]) ∧ Ext w w' := by
  have Hr := Lib.hid (fun w1 (hx : Ext w w1) => read4_c g off m c l w1 (hl.ext hg hx) hlen hcap hmx (hx.lt hg))
  have c0 : w.cell? ⟨g, off, none⟩ = some (.int .u8 ((bAt l 0).toNat : Int)) := hl.at 0 (by omega)
  have c12 : w.cell? ⟨g, off + 12, none⟩ = some (.int .u8 ((bAt l 12).toNat : Int)) := hl.at 12 (by omega)
  have c16 : w.cell? ⟨g, off + 16, none⟩ = some (.int .u8 ((bAt l 16).toNat : Int)) := hl.at 16 (by omega)
  have h1 : ¬ (m : Int) + 20 < 20 := by omega
  have hn0 : (0 : Int) < (m : Int) + 20 := by omega
  have hn12 : (12 : Int) < (m : Int) + 20 := by omega
  have hn16 : (16 : Int) < (m : Int) + 20 := by omega
  clear hl
  have hR0 := Lib.hid (Blk.new w 61 #[.int .i64 0, .int .i64 0, .int .i64 0, .int .i64 0, .int .u64 0, .int .u64 0, .bool false, .int .u64 0, .int .u64 0, .bool false])
  go_enter Tryz.func106, Tryz.ntmps106
  go_wp2_with (first
    | (go_at_call 128; (with_reducible refine (Hr.out _ ((Ext.refl w).alloc _)).mono ?_); rintro e wr ⟨rfl, h1⟩; simp only [headV]; have c_h1 := h1.cell; have f_h1 := h1.frozen; have z_h1_0 := h1.lt (b := w.heap.size) (by first | omega | (simp <;> omega)); have hx0 : Ext w wr := ((Ext.refl w).alloc _).trans h1; have hw1 : w.heap.size < wr.heap.size := z_h1_0; have hgw1 : g < wr.heap.size := hx0.lt hg; have Hx0 := Lib.hid hx0; have HR1 := Lib.hid (hR0.out.ext h1); clear hx0 hR0))
  have hb := ((((((((((HR1.out.set 0 (.int .i64 0)).set 1 (.int .i64 0)).set 2 (.int .i64 0)).set 3 (.int .i64 0)).set 4 (.int .u64 0)).set 5 (.int .u64 0)).set 6 (.bool false)).set 7 (.int .u64 0)).set 8 (.int .u64 0)).set 9 (.bool false)).ext ((Ext.refl _).alloc (.cells #[.int .i64 ((hd4 l : Nat) : Int), .int .i64 ((tot4 l : Nat) : Int), .int .i64 ((bAt l 8).toNat : Int), .int .i64 ((bAt l 9).toNat : Int), (.int .u64 (BitVec.toNat (src4 l) : Int)), .int .u64 0, .bool false, (.int .u64 (BitVec.toNat (dst4 l) : Int)), .int .u64 0, .bool false] 61))
  simp only [List.setIfInBounds_toArray, List.set_cons_zero, List.set_cons_succ] at hb
  have h0 := Hx0.out
  refine bodyPost_ret (v := .tuple #[zeroHead, (.int .i64 (2))]) (parse4_results _ _ w.heap.size _ _ _ _ _ _ _ _ _ _ _ rfl rfl hb) rfl ⟨rfl, ?_⟩
  (repeat (first | with_reducible exact Ext.refl _ | with_reducible assumption | (with_reducible refine Ext.set ?_ (by simp <;> omega) _) | (with_reducible refine Ext.alloc ?_ _) | (with_reducible refine Ext.drew ?_) | (with_reducible refine Ext.trans ?_ (by assumption)) | exact Ext.refl _))

set_option maxRecDepth 100000 in
set_option maxHeartbeats 2000000 in
theorem parse4_3a (g off m c : Nat) (l : List UInt8) (w : World) (hl : ByA w g off l) (hlen : l.length = m + 20) (hcap : m ≤ c) (hmx : c ≤ 9223372036854775000) (hg : g < w.heap.size) (hv : ((bAt l 0).toNat : Int) / 16 = 4) (h3 : ((hd4 l : Nat) : Int) < 20) :
    Calls Tryz.prog 106 #[.slice (some ⟨g, off, none⟩) (m + 20) (c + 20)] w fun e w' => e = .returned (.tuple #[zeroHead, (.int .i64 (3))]) ∧ Ext w w' := by
  have Hr := Lib.hid (fun w1 (hx : Ext w w1) => read4_c g off m c l w1 (hl.ext hg hx) hlen hcap hmx (hx.lt hg))
  have c0 : w.cell? ⟨g, off, none⟩ = some (.int .u8 ((bAt l 0).toNat : Int)) := hl.at 0 (by omega)
  have c12 : w.cell? ⟨g, off + 12, none⟩ = some (.int .u8 ((bAt l 12).toNat : Int)) := hl.at 12 (by omega)
  have c16 : w.cell? ⟨g, off + 16, none⟩ = some (.int .u8 ((bAt l 16).toNat : Int)) := hl.at 16 (by omega)
  have h1 : ¬ (m : Int) + 20 < 20 := by omega
  have hn0 : (0 : Int) < (m : Int) + 20 := by omega
  have hn12 : (12 : Int) < (m : Int) + 20 := by omega
  have hn16 : (16 : Int) < (m : Int) + 20 := by omega
  clear hl
  have hR0 := Lib.hid (Blk.new w 61 #[.int .i64 0, .int .i64 0, .int .i64 0, .int .i64 0, .int .u64 0, .int .u64 0, .bool false, .int .u64 0, .int .u64 0, .bool false])
  go_enter Tryz.func106, Tryz.ntmps106
  go_wp2_with (first
    | (go_at_call 128; (with_reducible refine (Hr.out _ ((Ext.refl w).alloc _)).mono ?_); rintro e wr ⟨rfl, h1⟩; simp only [headV]; have c_h1 := h1.cell; have f_h1 := h1.frozen; have z_h1_0 := h1.lt (b := w.heap.size) (by first | omega | (simp <;> omega)); have hx0 : Ext w wr := ((Ext.refl w).alloc _).trans h1; have hw1 : w.heap.size < wr.heap.size := z_h1_0; have hgw1 : g < wr.heap.size := hx0.lt hg; have Hx0 := Lib.hid hx0; have HR1 := Lib.hid (hR0.out.ext h1); clear hx0 hR0))
  have hb := ((((((((((HR1.out.set 0 (.int .i64 0)).set 1 (.int .i64 0)).set 2 (.int .i64 0)).set 3 (.int .i64 0)).set 4 (.int .u64 0)).set 5 (.int .u64 0)).set 6 (.bool false)).set 7 (.int .u64 0)).set 8 (.int .u64 0)).set 9 (.bool false)).ext ((Ext.refl _).alloc (.cells #[.int .i64 ((hd4 l : Nat) : Int), .int .i64 ((tot4 l : Nat) : Int), .int .i64 ((bAt l 8).toNat : Int), .int .i64 ((bAt l 9).toNat : Int), (.int .u64 (BitVec.toNat (src4 l) : Int)), .int .u64 0, .bool false, (.int .u64 (BitVec.toNat (dst4 l) : Int)), .int .u64 0, .bool false] 61))
  simp only [List.setIfInBounds_toArray, List.set_cons_zero, List.set_cons_succ] at hb
  have h0 := Hx0.out
  refine bodyPost_ret (v := .tuple #[zeroHead, (.int .i64 (3))]) (parse4_results _ _ w.heap.size _ _ _ _ _ _ _ _ _ _ _ rfl rfl hb) rfl ⟨rfl, ?_⟩
  (repeat (first | with_reducible exact Ext.refl _ | with_reducible assumption | (with_reducible refine Ext.set ?_ (by simp <;> omega) _) | (with_reducible refine Ext.alloc ?_ _) | (with_reducible refine Ext.drew ?_) | (with_reducible refine Ext.trans ?_ (by assumption)) | exact Ext.refl _))

set_option maxRecDepth 100000 in
set_option maxHeartbeats 2000000 in
theorem parse4_3b (g off m c : Nat) (l : List UInt8) (w : World) (hl : ByA w g off l) (hlen : l.length = m + 20) (hcap : m ≤ c) (hmx : c ≤ 9223372036854775000) (hg : g < w.heap.size) (hv : ((bAt l 0).toNat : Int) / 16 = 4) (h3 : ¬ ((hd4 l : Nat) : Int) < 20) (h3b : (m : Int) + 20 < ((hd4 l : Nat) : Int)) :
    Calls Tryz.prog 106 #[.slice (some ⟨g, off, none⟩) (m + 20) (c + 20)] w fun e w' => e = .returned (.tuple #[zeroHead, (.int .i64 (3))]) ∧ Ext w w' := by
  have Hr := Lib.hid (fun w1 (hx : Ext w w1) => read4_c g off m c l w1 (hl.ext hg hx) hlen hcap hmx (hx.lt hg))
  have c0 : w.cell? ⟨g, off, none⟩ = some (.int .u8 ((bAt l 0).toNat : Int)) := hl.at 0 (by omega)
  have c12 : w.cell? ⟨g, off + 12, none⟩ = some (.int .u8 ((bAt l 12).toNat : Int)) := hl.at 12 (by omega)
  have c16 : w.cell? ⟨g, off + 16, none⟩ = some (.int .u8 ((bAt l 16).toNat : Int)) := hl.at 16 (by omega)
  have h1 : ¬ (m : Int) + 20 < 20 := by omega
  have hn0 : (0 : Int) < (m : Int) + 20 := by omega
  have hn12 : (12 : Int) < (m : Int) + 20 := by omega
  have hn16 : (16 : Int) < (m : Int) + 20 := by omega
  clear hl
  have hR0 := Lib.hid (Blk.new w 61 #[.int .i64 0, .int .i64 0, .int .i64 0, .int .i64 0, .int .u64 0, .int .u64 0, .bool false, .int .u64 0, .int .u64 0, .bool false])
  go_enter Tryz.func106, Tryz.ntmps106
  go_wp2_with (first
    | (go_at_call 128; (with_reducible refine (Hr.out _ ((Ext.refl w).alloc _)).mono ?_); rintro e wr ⟨rfl, h1⟩; simp only [headV]; have c_h1 := h1.cell; have f_h1 := h1.frozen; have z_h1_0 := h1.lt (b := w.heap.size) (by first | omega | (simp <;> omega)); have hx0 : Ext w wr := ((Ext.refl w).alloc _).trans h1; have hw1 : w.heap.size < wr.heap.size := z_h1_0; have hgw1 : g < wr.heap.size := hx0.lt hg; have Hx0 := Lib.hid hx0; have HR1 := Lib.hid (hR0.out.ext h1); clear hx0 hR0))
  have hb := ((((((((((HR1.out.set 0 (.int .i64 0)).set 1 (.int .i64 0)).set 2 (.int .i64 0)).set 3 (.int .i64 0)).set 4 (.int .u64 0)).set 5 (.int .u64 0)).set 6 (.bool false)).set 7 (.int .u64 0)).set 8 (.int .u64 0)).set 9 (.bool false)).ext ((Ext.refl _).alloc (.cells #[.int .i64 ((hd4 l : Nat) : Int), .int .i64 ((tot4 l : Nat) : Int), .int .i64 ((bAt l 8).toNat : Int), .int .i64 ((bAt l 9).toNat : Int), (.int .u64 (BitVec.toNat (src4 l) : Int)), .int .u64 0, .bool false, (.int .u64 (BitVec.toNat (dst4 l) : Int)), .int .u64 0, .bool false] 61))
  simp only [List.setIfInBounds_toArray, List.set_cons_zero, List.set_cons_succ] at hb
  have h0 := Hx0.out
  refine bodyPost_ret (v := .tuple #[zeroHead, (.int .i64 (3))]) (parse4_results _ _ w.heap.size _ _ _ _ _ _ _ _ _ _ _ rfl rfl hb) rfl ⟨rfl, ?_⟩
  (repeat (first | with_reducible exact Ext.refl _ | with_reducible assumption | (with_reducible refine Ext.set ?_ (by simp <;> omega) _) | (with_reducible refine Ext.alloc ?_ _) | (with_reducible refine Ext.drew ?_) | (with_reducible refine Ext.trans ?_ (by assumption)) | exact Ext.refl _))

set_option maxRecDepth 100000 in
set_option maxHeartbeats 2000000 in
theorem parse4_4a (g off m c : Nat) (l : List UInt8) (w : World) (hl : ByA w g off l) (hlen : l.length = m + 20) (hcap : m ≤ c) (hmx : c ≤ 9223372036854775000) (hg : g < w.heap.size) (hv : ((bAt l 0).toNat : Int) / 16 = 4) (h3 : ¬ ((hd4 l : Nat) : Int) < 20) (h3b : ¬ (m : Int) + 20 < ((hd4 l : Nat) : Int)) (h4 : ((tot4 l : Nat) : Int) < ((hd4 l : Nat) : Int)) :
    Calls Tryz.prog 106 #[.slice (some ⟨g, off, none⟩) (m + 20) (c + 20)] w fun e w' => e = .returned (.tuple #[zeroHead, (.int .i64 (4))]) ∧ Ext w w' := by
  have Hr := Lib.hid (fun w1 (hx : Ext w w1) => read4_c g off m c l w1 (hl.ext hg hx) hlen hcap hmx (hx.lt hg))
  have c0 : w.cell? ⟨g, off, none⟩ = some (.int .u8 ((bAt l 0).toNat : Int)) := hl.at 0 (by omega)
  have c12 : w.cell? ⟨g, off + 12, none⟩ = some (.int .u8 ((bAt l 12).toNat : Int)) := hl.at 12 (by omega)
  have c16 : w.cell? ⟨g, off + 16, none⟩ = some (.int .u8 ((bAt l 16).toNat : Int)) := hl.at 16 (by omega)
  have h1 : ¬ (m : Int) + 20 < 20 := by omega
  have hn0 : (0 : Int) < (m : Int) + 20 := by omega
  have hn12 : (12 : Int) < (m : Int) + 20 := by omega
  have hn16 : (16 : Int) < (m : Int) + 20 := by omega
  clear hl
  have hR0 := Lib.hid (Blk.new w 61 #[.int .i64 0, .int .i64 0, .int .i64 0, .int .i64 0, .int .u64 0, .int .u64 0, .bool false, .int .u64 0, .int .u64 0, .bool false])
  go_enter Tryz.func106, Tryz.ntmps106
  go_wp2_with (first
    | (go_at_call 128; (with_reducible refine (Hr.out _ ((Ext.refl w).alloc _)).mono ?_); rintro e wr ⟨rfl, h1⟩; simp only [headV]; have c_h1 := h1.cell; have f_h1 := h1.frozen; have z_h1_0 := h1.lt (b := w.heap.size) (by first | omega | (simp <;> omega)); have hx0 : Ext w wr := ((Ext.refl w).alloc _).trans h1; have hw1 : w.heap.size < wr.heap.size := z_h1_0; have hgw1 : g < wr.heap.size := hx0.lt hg; have Hx0 := Lib.hid hx0; have HR1 := Lib.hid (hR0.out.ext h1); clear hx0 hR0))
  have hb := ((((((((((HR1.out.set 0 (.int .i64 0)).set 1 (.int .i64 0)).set 2 (.int .i64 0)).set 3 (.int .i64 0)).set 4 (.int .u64 0)).set 5 (.int .u64 0)).set 6 (.bool false)).set 7 (.int .u64 0)).set 8 (.int .u64 0)).set 9 (.bool false)).ext ((Ext.refl _).alloc (.cells #[.int .i64 ((hd4 l : Nat) : Int), .int .i64 ((tot4 l : Nat) : Int), .int .i64 ((bAt l 8).toNat : Int), .int .i64 ((bAt l 9).toNat : Int), (.int .u64 (BitVec.toNat (src4 l) : Int)), .int .u64 0, .bool false, (.int .u64 (BitVec.toNat (dst4 l) : Int)), .int .u64 0, .bool false] 61))
  simp only [List.setIfInBounds_toArray, List.set_cons_zero, List.set_cons_succ] at hb
  have h0 := Hx0.out
  refine bodyPost_ret (v := .tuple #[zeroHead, (.int .i64 (4))]) (parse4_results _ _ w.heap.size _ _ _ _ _ _ _ _ _ _ _ rfl rfl hb) rfl ⟨rfl, ?_⟩
  (repeat (first | with_reducible exact Ext.refl _ | with_reducible assumption | (with_reducible refine Ext.set ?_ (by simp <;> omega) _) | (with_reducible refine Ext.alloc ?_ _) | (with_reducible refine Ext.drew ?_) | (with_reducible refine Ext.trans ?_ (by assumption)) | exact Ext.refl _))

set_option maxRecDepth 100000 in
set_option maxHeartbeats 2000000 in
theorem parse4_4b (g off m c : Nat) (l : List UInt8) (w : World) (hl : ByA w g off l) (hlen : l.length = m + 20) (hcap : m ≤ c) (hmx : c ≤ 9223372036854775000) (hg : g < w.heap.size) (hv : ((bAt l 0).toNat : Int) / 16 = 4) (h3 : ¬ ((hd4 l : Nat) : Int) < 20) (h3b : ¬ (m : Int) + 20 < ((hd4 l : Nat) : Int)) (h4 : ¬ ((tot4 l : Nat) : Int) < ((hd4 l : Nat) : Int)) (h4b : (m : Int) + 20 < ((tot4 l : Nat) : Int)) :
    Calls Tryz.prog 106 #[.slice (some ⟨g, off, none⟩) (m + 20) (c + 20)] w fun e w' => e = .returned (.tuple #[zeroHead, (.int .i64 (4))]) ∧ Ext w w' := by
  have Hr := Lib.hid (fun w1 (hx : Ext w w1) => read4_c g off m c l w1 (hl.ext hg hx) hlen hcap hmx (hx.lt hg))
  have c0 : w.cell? ⟨g, off, none⟩ = some (.int .u8 ((bAt l 0).toNat : Int)) := hl.at 0 (by omega)
  have c12 : w.cell? ⟨g, off + 12, none⟩ = some (.int .u8 ((bAt l 12).toNat : Int)) := hl.at 12 (by omega)
  have c16 : w.cell? ⟨g, off + 16, none⟩ = some (.int .u8 ((bAt l 16).toNat : Int)) := hl.at 16 (by omega)
  have h1 : ¬ (m : Int) + 20 < 20 := by omega
  have hn0 : (0 : Int) < (m : Int) + 20 := by omega
  have hn12 : (12 : Int) < (m : Int) + 20 := by omega
  have hn16 : (16 : Int) < (m : Int) + 20 := by omega
  clear hl
  have hR0 := Lib.hid (Blk.new w 61 #[.int .i64 0, .int .i64 0, .int .i64 0, .int .i64 0, .int .u64 0, .int .u64 0, .bool false, .int .u64 0, .int .u64 0, .bool false])
  go_enter Tryz.func106, Tryz.ntmps106
  go_wp2_with (first
    | (go_at_call 128; (with_reducible refine (Hr.out _ ((Ext.refl w).alloc _)).mono ?_); rintro e wr ⟨rfl, h1⟩; simp only [headV]; have c_h1 := h1.cell; have f_h1 := h1.frozen; have z_h1_0 := h1.lt (b := w.heap.size) (by first | omega | (simp <;> omega)); have hx0 : Ext w wr := ((Ext.refl w).alloc _).trans h1; have hw1 : w.heap.size < wr.heap.size := z_h1_0; have hgw1 : g < wr.heap.size := hx0.lt hg; have Hx0 := Lib.hid hx0; have HR1 := Lib.hid (hR0.out.ext h1); clear hx0 hR0))
  have hb := ((((((((((HR1.out.set 0 (.int .i64 0)).set 1 (.int .i64 0)).set 2 (.int .i64 0)).set 3 (.int .i64 0)).set 4 (.int .u64 0)).set 5 (.int .u64 0)).set 6 (.bool false)).set 7 (.int .u64 0)).set 8 (.int .u64 0)).set 9 (.bool false)).ext ((Ext.refl _).alloc (.cells #[.int .i64 ((hd4 l : Nat) : Int), .int .i64 ((tot4 l : Nat) : Int), .int .i64 ((bAt l 8).toNat : Int), .int .i64 ((bAt l 9).toNat : Int), (.int .u64 (BitVec.toNat (src4 l) : Int)), .int .u64 0, .bool false, (.int .u64 (BitVec.toNat (dst4 l) : Int)), .int .u64 0, .bool false] 61))
  simp only [List.setIfInBounds_toArray, List.set_cons_zero, List.set_cons_succ] at hb
  have h0 := Hx0.out
  refine bodyPost_ret (v := .tuple #[zeroHead, (.int .i64 (4))]) (parse4_results _ _ w.heap.size _ _ _ _ _ _ _ _ _ _ _ rfl rfl hb) rfl ⟨rfl, ?_⟩
  (repeat (first | with_reducible exact Ext.refl _ | with_reducible assumption | (with_reducible refine Ext.set ?_ (by simp <;> omega) _) | (with_reducible refine Ext.alloc ?_ _) | (with_reducible refine Ext.drew ?_) | (with_reducible refine Ext.trans ?_ (by assumption)) | exact Ext.refl _))

set_option maxRecDepth 100000 in
set_option maxHeartbeats 2000000 in
theorem parse4_5 (g off m c : Nat) (l : List UInt8) (w : World) (hl : ByA w g off l) (hlen : l.length = m + 20) (hcap : m ≤ c) (hmx : c ≤ 9223372036854775000) (hg : g < w.heap.size) (hv : ((bAt l 0).toNat : Int) / 16 = 4) (h3 : ¬ ((hd4 l : Nat) : Int) < 20) (h3b : ¬ (m : Int) + 20 < ((hd4 l : Nat) : Int)) (h4 : ¬ ((tot4 l : Nat) : Int) < ((hd4 l : Nat) : Int)) (h4b : ¬ (m : Int) + 20 < ((tot4 l : Nat) : Int)) (h5 : decide (sumW (l.take (hd4 l)) = 0) = false) :
    Calls Tryz.prog 106 #[.slice (some ⟨g, off, none⟩) (m + 20) (c + 20)] w fun e w' => e = .returned (.tuple #[zeroHead, (.int .i64 (5))]) ∧ Ext w w' := by
  have Hr := Lib.hid (fun w1 (hx : Ext w w1) => read4_c g off m c l w1 (hl.ext hg hx) hlen hcap hmx (hx.lt hg))
  have c0 : w.cell? ⟨g, off, none⟩ = some (.int .u8 ((bAt l 0).toNat : Int)) := hl.at 0 (by omega)
  have c12 : w.cell? ⟨g, off + 12, none⟩ = some (.int .u8 ((bAt l 12).toNat : Int)) := hl.at 12 (by omega)
  have c16 : w.cell? ⟨g, off + 16, none⟩ = some (.int .u8 ((bAt l 16).toNat : Int)) := hl.at 16 (by omega)
  have h1 : ¬ (m : Int) + 20 < 20 := by omega
  have hn0 : (0 : Int) < (m : Int) + 20 := by omega
  have hn12 : (12 : Int) < (m : Int) + 20 := by omega
  have hn16 : (16 : Int) < (m : Int) + 20 := by omega
  have hk : (l.take (hd4 l)).length = hd4 l := by rw [List.length_take]; omega
  have hh60 : hd4 l ≤ 60 := by unfold hd4; omega
  have hhc : ((hd4 l : Nat) : Int) ≤ (c : Int) + 20 := by omega
  have hh0 : (0 : Int) ≤ ((hd4 l : Nat) : Int) := by omega
  have hc1 := fun w1 (hx : Ext w w1) => check_c g off (c + 20) (l.take (hd4 l)) w1 ((hl.take (hd4 l)).ext hg hx) (by omega) (by omega) (by omega) (hx.lt hg)
  rw [hk] at hc1
  generalize decide (sumW (l.take (hd4 l)) = 0) = bsum at hc1 h5
  subst h5
  have Hc := Lib.hid hc1
  clear hc1
  clear hl
  have hR0 := Lib.hid (Blk.new w 61 #[.int .i64 0, .int .i64 0, .int .i64 0, .int .i64 0, .int .u64 0, .int .u64 0, .bool false, .int .u64 0, .int .u64 0, .bool false])
  go_enter Tryz.func106, Tryz.ntmps106
  go_wp2_with (first
    | (go_at_call 128; (with_reducible refine (Hr.out _ ((Ext.refl w).alloc _)).mono ?_); rintro e wr ⟨rfl, h1⟩; simp only [headV]; have c_h1 := h1.cell; have f_h1 := h1.frozen; have z_h1_0 := h1.lt (b := w.heap.size) (by first | omega | (simp <;> omega)); have hx0 : Ext w wr := ((Ext.refl w).alloc _).trans h1; have hw1 : w.heap.size < wr.heap.size := z_h1_0; have hgw1 : g < wr.heap.size := hx0.lt hg; have Hx0 := Lib.hid hx0; have HR1 := Lib.hid (hR0.out.ext h1); clear hx0 hR0)
    | (go_at_call 129; (with_reducible refine (Hc.out _ (?hx : Ext w _)).mono ?_); (case hx => (have hx0 := Hx0.out; (repeat (first | with_reducible exact Ext.refl _ | with_reducible assumption | (with_reducible refine Ext.set ?_ (by simp <;> omega) _) | (with_reducible refine Ext.alloc ?_ _) | (with_reducible refine Ext.drew ?_) | (with_reducible refine Ext.trans ?_ (by assumption)) | exact Ext.refl _)))); rintro e wc ⟨rfl, h2⟩; have hRc := (HR1.out.ext ((Ext.refl _).alloc (.cells #[.int .i64 ((hd4 l : Nat) : Int), .int .i64 ((tot4 l : Nat) : Int), .int .i64 ((bAt l 8).toNat : Int), .int .i64 ((bAt l 9).toNat : Int), (.int .u64 (BitVec.toNat (src4 l) : Int)), .int .u64 0, .bool false, (.int .u64 (BitVec.toNat (dst4 l) : Int)), .int .u64 0, .bool false] 61))).ext h2; have hBc := (Blk.new wr 61 #[.int .i64 ((hd4 l : Nat) : Int), .int .i64 ((tot4 l : Nat) : Int), .int .i64 ((bAt l 8).toNat : Int), .int .i64 ((bAt l 9).toNat : Int), (.int .u64 (BitVec.toNat (src4 l) : Int)), .int .u64 0, .bool false, (.int .u64 (BitVec.toNat (dst4 l) : Int)), .int .u64 0, .bool false]).ext h2; have r0 : wc.cell? ⟨w.heap.size, 0, none⟩ = some (.int .i64 0) := hRc.cell 0; have r1 : wc.cell? ⟨w.heap.size, 1, none⟩ = some (.int .i64 0) := hRc.cell 1; have r2 : wc.cell? ⟨w.heap.size, 2, none⟩ = some (.int .i64 0) := hRc.cell 2; have r3 : wc.cell? ⟨w.heap.size, 3, none⟩ = some (.int .i64 0) := hRc.cell 3; have r4 : wc.cell? ⟨w.heap.size, 4, none⟩ = some (.int .u64 0) := hRc.cell 4; have r5 : wc.cell? ⟨w.heap.size, 5, none⟩ = some (.int .u64 0) := hRc.cell 5; have r6 : wc.cell? ⟨w.heap.size, 6, none⟩ = some (.bool false) := hRc.cell 6; have r7 : wc.cell? ⟨w.heap.size, 7, none⟩ = some (.int .u64 0) := hRc.cell 7; have r8 : wc.cell? ⟨w.heap.size, 8, none⟩ = some (.int .u64 0) := hRc.cell 8; have r9 : wc.cell? ⟨w.heap.size, 9, none⟩ = some (.bool false) := hRc.cell 9; have e0 : wc.cell? ⟨wr.heap.size, 0, none⟩ = some (.int .i64 ((hd4 l : Nat) : Int)) := hBc.cell 0; have e1 : wc.cell? ⟨wr.heap.size, 1, none⟩ = some (.int .i64 ((tot4 l : Nat) : Int)) := hBc.cell 1; have e2 : wc.cell? ⟨wr.heap.size, 2, none⟩ = some (.int .i64 ((bAt l 8).toNat : Int)) := hBc.cell 2; have e3 : wc.cell? ⟨wr.heap.size, 3, none⟩ = some (.int .i64 ((bAt l 9).toNat : Int)) := hBc.cell 3; have e4 : wc.cell? ⟨wr.heap.size, 4, none⟩ = some ((.int .u64 (BitVec.toNat (src4 l) : Int))) := hBc.cell 4; have e5 : wc.cell? ⟨wr.heap.size, 5, none⟩ = some (.int .u64 0) := hBc.cell 5; have e6 : wc.cell? ⟨wr.heap.size, 6, none⟩ = some (.bool false) := hBc.cell 6; have e7 : wc.cell? ⟨wr.heap.size, 7, none⟩ = some ((.int .u64 (BitVec.toNat (dst4 l) : Int))) := hBc.cell 7; have e8 : wc.cell? ⟨wr.heap.size, 8, none⟩ = some (.int .u64 0) := hBc.cell 8; have e9 : wc.cell? ⟨wr.heap.size, 9, none⟩ = some (.bool false) := hBc.cell 9; have g1 := hRc.frozen; have g2 := hBc.frozen; have y1 := hRc.lt; have y2 := hBc.lt; have hgc : g < wc.heap.size := (by omega); have d12 : wc.cell? ⟨g, off + 12, none⟩ = _ := (h2.cell _ _ (by simp <;> omega)).trans ((((Ext.refl wr).alloc (.cells #[.int .i64 ((hd4 l : Nat) : Int), .int .i64 ((tot4 l : Nat) : Int), .int .i64 ((bAt l 8).toNat : Int), .int .i64 ((bAt l 9).toNat : Int), (.int .u64 (BitVec.toNat (src4 l) : Int)), .int .u64 0, .bool false, (.int .u64 (BitVec.toNat (dst4 l) : Int)), .int .u64 0, .bool false] 61)).cell _ _ hgw1).trans ((Hx0.out.cell _ _ hg).trans c12)); have d16 : wc.cell? ⟨g, off + 16, none⟩ = _ := (h2.cell _ _ (by simp <;> omega)).trans ((((Ext.refl wr).alloc (.cells #[.int .i64 ((hd4 l : Nat) : Int), .int .i64 ((tot4 l : Nat) : Int), .int .i64 ((bAt l 8).toNat : Int), .int .i64 ((bAt l 9).toNat : Int), (.int .u64 (BitVec.toNat (src4 l) : Int)), .int .u64 0, .bool false, (.int .u64 (BitVec.toNat (dst4 l) : Int)), .int .u64 0, .bool false] 61)).cell _ _ hgw1).trans ((Hx0.out.cell _ _ hg).trans c16)); have HRc := Lib.hid hRc; have HBc := Lib.hid hBc; have Hx2 := Lib.hid ((Hx0.out.alloc (.cells #[.int .i64 ((hd4 l : Nat) : Int), .int .i64 ((tot4 l : Nat) : Int), .int .i64 ((bAt l 8).toNat : Int), .int .i64 ((bAt l 9).toNat : Int), (.int .u64 (BitVec.toNat (src4 l) : Int)), .int .u64 0, .bool false, (.int .u64 (BitVec.toNat (dst4 l) : Int)), .int .u64 0, .bool false] 61)).trans h2); clear hRc hBc h2 HR1 Hx0))
  have hb := ((((((((((HRc.out.set 0 (.int .i64 0)).set 1 (.int .i64 0)).set 2 (.int .i64 0)).set 3 (.int .i64 0)).set 4 (.int .u64 0)).set 5 (.int .u64 0)).set 6 (.bool false)).set 7 (.int .u64 0)).set 8 (.int .u64 0)).set 9 (.bool false))
  simp only [List.setIfInBounds_toArray, List.set_cons_zero, List.set_cons_succ] at hb
  have h0 := Hx2.out
  refine bodyPost_ret (v := .tuple #[zeroHead, (.int .i64 (5))]) (parse4_results _ _ w.heap.size _ _ _ _ _ _ _ _ _ _ _ rfl rfl hb) rfl ⟨rfl, ?_⟩
  (repeat (first | with_reducible exact Ext.refl _ | with_reducible assumption | (with_reducible refine Ext.set ?_ (by simp <;> omega) _) | (with_reducible refine Ext.alloc ?_ _) | (with_reducible refine Ext.drew ?_) | (with_reducible refine Ext.trans ?_ (by assumption)) | exact Ext.refl _))

set_option maxRecDepth 100000 in
set_option maxHeartbeats 2000000 in
theorem parse4_6 (g off m c : Nat) (l : List UInt8) (w : World) (hl : ByA w g off l) (hlen : l.length = m + 20) (hcap : m ≤ c) (hmx : c ≤ 9223372036854775000) (hg : g < w.heap.size) (hv : ((bAt l 0).toNat : Int) / 16 = 4) (h3 : ¬ ((hd4 l : Nat) : Int) < 20) (h3b : ¬ (m : Int) + 20 < ((hd4 l : Nat) : Int)) (h4 : ¬ ((tot4 l : Nat) : Int) < ((hd4 l : Nat) : Int)) (h4b : ¬ (m : Int) + 20 < ((tot4 l : Nat) : Int)) (h5 : decide (sumW (l.take (hd4 l)) = 0) = true) (h6 : strangeB (bAt l 12) (bAt l 16) = true) :
    Calls Tryz.prog 106 #[.slice (some ⟨g, off, none⟩) (m + 20) (c + 20)] w fun e w' => e = .returned (.tuple #[zeroHead, (.int .i64 (6))]) ∧ Ext w w' := by
  have Hr := Lib.hid (fun w1 (hx : Ext w w1) => read4_c g off m c l w1 (hl.ext hg hx) hlen hcap hmx (hx.lt hg))
  have c0 : w.cell? ⟨g, off, none⟩ = some (.int .u8 ((bAt l 0).toNat : Int)) := hl.at 0 (by omega)
  have c12 : w.cell? ⟨g, off + 12, none⟩ = some (.int .u8 ((bAt l 12).toNat : Int)) := hl.at 12 (by omega)
  have c16 : w.cell? ⟨g, off + 16, none⟩ = some (.int .u8 ((bAt l 16).toNat : Int)) := hl.at 16 (by omega)
  have h1 : ¬ (m : Int) + 20 < 20 := by omega
  have hn0 : (0 : Int) < (m : Int) + 20 := by omega
  have hn12 : (12 : Int) < (m : Int) + 20 := by omega
  have hn16 : (16 : Int) < (m : Int) + 20 := by omega
  have hk : (l.take (hd4 l)).length = hd4 l := by rw [List.length_take]; omega
  have hh60 : hd4 l ≤ 60 := by unfold hd4; omega
  have hhc : ((hd4 l : Nat) : Int) ≤ (c : Int) + 20 := by omega
  have hh0 : (0 : Int) ≤ ((hd4 l : Nat) : Int) := by omega
  have hc1 := fun w1 (hx : Ext w w1) => check_c g off (c + 20) (l.take (hd4 l)) w1 ((hl.take (hd4 l)).ext hg hx) (by omega) (by omega) (by omega) (hx.lt hg)
  rw [hk] at hc1
  generalize decide (sumW (l.take (hd4 l)) = 0) = bsum at hc1 h5
  subst h5
  have Hc := Lib.hid hc1
  clear hc1
  clear hl
  have hR0 := Lib.hid (Blk.new w 61 #[.int .i64 0, .int .i64 0, .int .i64 0, .int .i64 0, .int .u64 0, .int .u64 0, .bool false, .int .u64 0, .int .u64 0, .bool false])
  go_enter Tryz.func106, Tryz.ntmps106
  go_wp2_with (first
    | (go_at_call 128; (with_reducible refine (Hr.out _ ((Ext.refl w).alloc _)).mono ?_); rintro e wr ⟨rfl, h1⟩; simp only [headV]; have c_h1 := h1.cell; have f_h1 := h1.frozen; have z_h1_0 := h1.lt (b := w.heap.size) (by first | omega | (simp <;> omega)); have hx0 : Ext w wr := ((Ext.refl w).alloc _).trans h1; have hw1 : w.heap.size < wr.heap.size := z_h1_0; have hgw1 : g < wr.heap.size := hx0.lt hg; have Hx0 := Lib.hid hx0; have HR1 := Lib.hid (hR0.out.ext h1); clear hx0 hR0)
    | (go_at_call 129; (with_reducible refine (Hc.out _ (?hx : Ext w _)).mono ?_); (case hx => (have hx0 := Hx0.out; (repeat (first | with_reducible exact Ext.refl _ | with_reducible assumption | (with_reducible refine Ext.set ?_ (by simp <;> omega) _) | (with_reducible refine Ext.alloc ?_ _) | (with_reducible refine Ext.drew ?_) | (with_reducible refine Ext.trans ?_ (by assumption)) | exact Ext.refl _)))); rintro e wc ⟨rfl, h2⟩; have hRc := (HR1.out.ext ((Ext.refl _).alloc (.cells #[.int .i64 ((hd4 l : Nat) : Int), .int .i64 ((tot4 l : Nat) : Int), .int .i64 ((bAt l 8).toNat : Int), .int .i64 ((bAt l 9).toNat : Int), (.int .u64 (BitVec.toNat (src4 l) : Int)), .int .u64 0, .bool false, (.int .u64 (BitVec.toNat (dst4 l) : Int)), .int .u64 0, .bool false] 61))).ext h2; have hBc := (Blk.new wr 61 #[.int .i64 ((hd4 l : Nat) : Int), .int .i64 ((tot4 l : Nat) : Int), .int .i64 ((bAt l 8).toNat : Int), .int .i64 ((bAt l 9).toNat : Int), (.int .u64 (BitVec.toNat (src4 l) : Int)), .int .u64 0, .bool false, (.int .u64 (BitVec.toNat (dst4 l) : Int)), .int .u64 0, .bool false]).ext h2; have r0 : wc.cell? ⟨w.heap.size, 0, none⟩ = some (.int .i64 0) := hRc.cell 0; have r1 : wc.cell? ⟨w.heap.size, 1, none⟩ = some (.int .i64 0) := hRc.cell 1; have r2 : wc.cell? ⟨w.heap.size, 2, none⟩ = some (.int .i64 0) := hRc.cell 2; have r3 : wc.cell? ⟨w.heap.size, 3, none⟩ = some (.int .i64 0) := hRc.cell 3; have r4 : wc.cell? ⟨w.heap.size, 4, none⟩ = some (.int .u64 0) := hRc.cell 4; have r5 : wc.cell? ⟨w.heap.size, 5, none⟩ = some (.int .u64 0) := hRc.cell 5; have r6 : wc.cell? ⟨w.heap.size, 6, none⟩ = some (.bool false) := hRc.cell 6; have r7 : wc.cell? ⟨w.heap.size, 7, none⟩ = some (.int .u64 0) := hRc.cell 7; have r8 : wc.cell? ⟨w.heap.size, 8, none⟩ = some (.int .u64 0) := hRc.cell 8; have r9 : wc.cell? ⟨w.heap.size, 9, none⟩ = some (.bool false) := hRc.cell 9; have e0 : wc.cell? ⟨wr.heap.size, 0, none⟩ = some (.int .i64 ((hd4 l : Nat) : Int)) := hBc.cell 0; have e1 : wc.cell? ⟨wr.heap.size, 1, none⟩ = some (.int .i64 ((tot4 l : Nat) : Int)) := hBc.cell 1; have e2 : wc.cell? ⟨wr.heap.size, 2, none⟩ = some (.int .i64 ((bAt l 8).toNat : Int)) := hBc.cell 2; have e3 : wc.cell? ⟨wr.heap.size, 3, none⟩ = some (.int .i64 ((bAt l 9).toNat : Int)) := hBc.cell 3; have e4 : wc.cell? ⟨wr.heap.size, 4, none⟩ = some ((.int .u64 (BitVec.toNat (src4 l) : Int))) := hBc.cell 4; have e5 : wc.cell? ⟨wr.heap.size, 5, none⟩ = some (.int .u64 0) := hBc.cell 5; have e6 : wc.cell? ⟨wr.heap.size, 6, none⟩ = some (.bool false) := hBc.cell 6; have e7 : wc.cell? ⟨wr.heap.size, 7, none⟩ = some ((.int .u64 (BitVec.toNat (dst4 l) : Int))) := hBc.cell 7; have e8 : wc.cell? ⟨wr.heap.size, 8, none⟩ = some (.int .u64 0) := hBc.cell 8; have e9 : wc.cell? ⟨wr.heap.size, 9, none⟩ = some (.bool false) := hBc.cell 9; have g1 := hRc.frozen; have g2 := hBc.frozen; have y1 := hRc.lt; have y2 := hBc.lt; have hgc : g < wc.heap.size := (by omega); have d12 : wc.cell? ⟨g, off + 12, none⟩ = _ := (h2.cell _ _ (by simp <;> omega)).trans ((((Ext.refl wr).alloc (.cells #[.int .i64 ((hd4 l : Nat) : Int), .int .i64 ((tot4 l : Nat) : Int), .int .i64 ((bAt l 8).toNat : Int), .int .i64 ((bAt l 9).toNat : Int), (.int .u64 (BitVec.toNat (src4 l) : Int)), .int .u64 0, .bool false, (.int .u64 (BitVec.toNat (dst4 l) : Int)), .int .u64 0, .bool false] 61)).cell _ _ hgw1).trans ((Hx0.out.cell _ _ hg).trans c12)); have d16 : wc.cell? ⟨g, off + 16, none⟩ = _ := (h2.cell _ _ (by simp <;> omega)).trans ((((Ext.refl wr).alloc (.cells #[.int .i64 ((hd4 l : Nat) : Int), .int .i64 ((tot4 l : Nat) : Int), .int .i64 ((bAt l 8).toNat : Int), .int .i64 ((bAt l 9).toNat : Int), (.int .u64 (BitVec.toNat (src4 l) : Int)), .int .u64 0, .bool false, (.int .u64 (BitVec.toNat (dst4 l) : Int)), .int .u64 0, .bool false] 61)).cell _ _ hgw1).trans ((Hx0.out.cell _ _ hg).trans c16)); have HRc := Lib.hid hRc; have HBc := Lib.hid hBc; have Hx2 := Lib.hid ((Hx0.out.alloc (.cells #[.int .i64 ((hd4 l : Nat) : Int), .int .i64 ((tot4 l : Nat) : Int), .int .i64 ((bAt l 8).toNat : Int), .int .i64 ((bAt l 9).toNat : Int), (.int .u64 (BitVec.toNat (src4 l) : Int)), .int .u64 0, .bool false, (.int .u64 (BitVec.toNat (dst4 l) : Int)), .int .u64 0, .bool false] 61)).trans h2); clear hRc hBc h2 HR1 Hx0))
  refine wp_region_ext 7 (by kernel_rfl) (by kernel_rfl) ?_
  dsimp only [List.take, List.drop]
  repeat (first | (apply hold_skip2 rfl; focus (first | (simp only [Act.put, List.setIfInBounds_toArray, List.set_cons_zero, List.set_cons_succ]; exact rfl) | (simp only [Act.put, List.setIfInBounds_toArray, List.set_cons_zero, List.set_cons_succ]) | exact rfl)) | (apply hold_cons2 rfl; (focus (intro w1 hS; have c1 := hS.cell; have f1 := hS.frozen; have z1 := hS.size; go_simp; first | exact rfl | exact ⟨rfl, hS⟩ | ((go_at_call 130; (with_reducible refine (strange_c _ _ _).mono ?_); rintro e w2 ⟨rfl, rfl⟩; rw [h6]; exact ⟨rfl, hS⟩)))); (focus (first | (simp only [Act.put, List.setIfInBounds_toArray, List.set_cons_zero, List.set_cons_succ]; exact rfl) | (simp only [Act.put, List.setIfInBounds_toArray, List.set_cons_zero, List.set_cons_succ]) | exact rfl))))
  refine hold_nil ?_
  rintro w1 hE
  have c_hE := hE.cell
  have f_hE := hE.frozen
  go_wp2
  have hb := (((((((((((HRc.out.ext hE).set 0 (.int .i64 0)).set 1 (.int .i64 0)).set 2 (.int .i64 0)).set 3 (.int .i64 0)).set 4 (.int .u64 0)).set 5 (.int .u64 0)).set 6 (.bool false)).set 7 (.int .u64 0)).set 8 (.int .u64 0)).set 9 (.bool false))
  simp only [List.setIfInBounds_toArray, List.set_cons_zero, List.set_cons_succ] at hb
  have h0 := Hx2.out.trans hE
  refine bodyPost_ret (v := .tuple #[zeroHead, (.int .i64 (6))]) (parse4_results _ _ w.heap.size _ _ _ _ _ _ _ _ _ _ _ rfl rfl hb) rfl ⟨rfl, ?_⟩
  (repeat (first | with_reducible exact Ext.refl _ | with_reducible assumption | (with_reducible refine Ext.set ?_ (by simp <;> omega) _) | (with_reducible refine Ext.alloc ?_ _) | (with_reducible refine Ext.drew ?_) | (with_reducible refine Ext.trans ?_ (by assumption)) | exact Ext.refl _))

set_option maxRecDepth 100000 in
set_option maxHeartbeats 2000000 in
theorem parse4_0 (g off m c : Nat) (l : List UInt8) (w : World) (hl : ByA w g off l) (hlen : l.length = m + 20) (hcap : m ≤ c) (hmx : c ≤ 9223372036854775000) (hg : g < w.heap.size) (hv : ((bAt l 0).toNat : Int) / 16 = 4) (h3 : ¬ ((hd4 l : Nat) : Int) < 20) (h3b : ¬ (m : Int) + 20 < ((hd4 l : Nat) : Int)) (h4 : ¬ ((tot4 l : Nat) : Int) < ((hd4 l : Nat) : Int)) (h4b : ¬ (m : Int) + 20 < ((tot4 l : Nat) : Int)) (h5 : decide (sumW (l.take (hd4 l)) = 0) = true) (h6 : strangeB (bAt l 12) (bAt l 16) = false) :
    Calls Tryz.prog 106 #[.slice (some ⟨g, off, none⟩) (m + 20) (c + 20)] w fun e w' => e = .returned (.tuple #[headV l, (.int .i64 (0))]) ∧ Ext w w' := by
  have Hr := Lib.hid (fun w1 (hx : Ext w w1) => read4_c g off m c l w1 (hl.ext hg hx) hlen hcap hmx (hx.lt hg))
  have c0 : w.cell? ⟨g, off, none⟩ = some (.int .u8 ((bAt l 0).toNat : Int)) := hl.at 0 (by omega)
  have c12 : w.cell? ⟨g, off + 12, none⟩ = some (.int .u8 ((bAt l 12).toNat : Int)) := hl.at 12 (by omega)
  have c16 : w.cell? ⟨g, off + 16, none⟩ = some (.int .u8 ((bAt l 16).toNat : Int)) := hl.at 16 (by omega)
  have h1 : ¬ (m : Int) + 20 < 20 := by omega
  have hn0 : (0 : Int) < (m : Int) + 20 := by omega
  have hn12 : (12 : Int) < (m : Int) + 20 := by omega
  have hn16 : (16 : Int) < (m : Int) + 20 := by omega
  have hk : (l.take (hd4 l)).length = hd4 l := by rw [List.length_take]; omega
  have hh60 : hd4 l ≤ 60 := by unfold hd4; omega
  have hhc : ((hd4 l : Nat) : Int) ≤ (c : Int) + 20 := by omega
  have hh0 : (0 : Int) ≤ ((hd4 l : Nat) : Int) := by omega
  have hc1 := fun w1 (hx : Ext w w1) => check_c g off (c + 20) (l.take (hd4 l)) w1 ((hl.take (hd4 l)).ext hg hx) (by omega) (by omega) (by omega) (hx.lt hg)
  rw [hk] at hc1
  generalize decide (sumW (l.take (hd4 l)) = 0) = bsum at hc1 h5
  subst h5
  have Hc := Lib.hid hc1
  clear hc1
  clear hl
  have hR0 := Lib.hid (Blk.new w 61 #[.int .i64 0, .int .i64 0, .int .i64 0, .int .i64 0, .int .u64 0, .int .u64 0, .bool false, .int .u64 0, .int .u64 0, .bool false])
  go_enter Tryz.func106, Tryz.ntmps106
  go_wp2_with (first
    | (go_at_call 128; (with_reducible refine (Hr.out _ ((Ext.refl w).alloc _)).mono ?_); rintro e wr ⟨rfl, h1⟩; simp only [headV]; have c_h1 := h1.cell; have f_h1 := h1.frozen; have z_h1_0 := h1.lt (b := w.heap.size) (by first | omega | (simp <;> omega)); have hx0 : Ext w wr := ((Ext.refl w).alloc _).trans h1; have hw1 : w.heap.size < wr.heap.size := z_h1_0; have hgw1 : g < wr.heap.size := hx0.lt hg; have Hx0 := Lib.hid hx0; have HR1 := Lib.hid (hR0.out.ext h1); clear hx0 hR0)
    | (go_at_call 129; (with_reducible refine (Hc.out _ (?hx : Ext w _)).mono ?_); (case hx => (have hx0 := Hx0.out; (repeat (first | with_reducible exact Ext.refl _ | with_reducible assumption | (with_reducible refine Ext.set ?_ (by simp <;> omega) _) | (with_reducible refine Ext.alloc ?_ _) | (with_reducible refine Ext.drew ?_) | (with_reducible refine Ext.trans ?_ (by assumption)) | exact Ext.refl _)))); rintro e wc ⟨rfl, h2⟩; have hRc := (HR1.out.ext ((Ext.refl _).alloc (.cells #[.int .i64 ((hd4 l : Nat) : Int), .int .i64 ((tot4 l : Nat) : Int), .int .i64 ((bAt l 8).toNat : Int), .int .i64 ((bAt l 9).toNat : Int), (.int .u64 (BitVec.toNat (src4 l) : Int)), .int .u64 0, .bool false, (.int .u64 (BitVec.toNat (dst4 l) : Int)), .int .u64 0, .bool false] 61))).ext h2; have hBc := (Blk.new wr 61 #[.int .i64 ((hd4 l : Nat) : Int), .int .i64 ((tot4 l : Nat) : Int), .int .i64 ((bAt l 8).toNat : Int), .int .i64 ((bAt l 9).toNat : Int), (.int .u64 (BitVec.toNat (src4 l) : Int)), .int .u64 0, .bool false, (.int .u64 (BitVec.toNat (dst4 l) : Int)), .int .u64 0, .bool false]).ext h2; have r0 : wc.cell? ⟨w.heap.size, 0, none⟩ = some (.int .i64 0) := hRc.cell 0; have r1 : wc.cell? ⟨w.heap.size, 1, none⟩ = some (.int .i64 0) := hRc.cell 1; have r2 : wc.cell? ⟨w.heap.size, 2, none⟩ = some (.int .i64 0) := hRc.cell 2; have r3 : wc.cell? ⟨w.heap.size, 3, none⟩ = some (.int .i64 0) := hRc.cell 3; have r4 : wc.cell? ⟨w.heap.size, 4, none⟩ = some (.int .u64 0) := hRc.cell 4; have r5 : wc.cell? ⟨w.heap.size, 5, none⟩ = some (.int .u64 0) := hRc.cell 5; have r6 : wc.cell? ⟨w.heap.size, 6, none⟩ = some (.bool false) := hRc.cell 6; have r7 : wc.cell? ⟨w.heap.size, 7, none⟩ = some (.int .u64 0) := hRc.cell 7; have r8 : wc.cell? ⟨w.heap.size, 8, none⟩ = some (.int .u64 0) := hRc.cell 8; have r9 : wc.cell? ⟨w.heap.size, 9, none⟩ = some (.bool false) := hRc.cell 9; have e0 : wc.cell? ⟨wr.heap.size, 0, none⟩ = some (.int .i64 ((hd4 l : Nat) : Int)) := hBc.cell 0; have e1 : wc.cell? ⟨wr.heap.size, 1, none⟩ = some (.int .i64 ((tot4 l : Nat) : Int)) := hBc.cell 1; have e2 : wc.cell? ⟨wr.heap.size, 2, none⟩ = some (.int .i64 ((bAt l 8).toNat : Int)) := hBc.cell 2; have e3 : wc.cell? ⟨wr.heap.size, 3, none⟩ = some (.int .i64 ((bAt l 9).toNat : Int)) := hBc.cell 3; have e4 : wc.cell? ⟨wr.heap.size, 4, none⟩ = some ((.int .u64 (BitVec.toNat (src4 l) : Int))) := hBc.cell 4; have e5 : wc.cell? ⟨wr.heap.size, 5, none⟩ = some (.int .u64 0) := hBc.cell 5; have e6 : wc.cell? ⟨wr.heap.size, 6, none⟩ = some (.bool false) := hBc.cell 6; have e7 : wc.cell? ⟨wr.heap.size, 7, none⟩ = some ((.int .u64 (BitVec.toNat (dst4 l) : Int))) := hBc.cell 7; have e8 : wc.cell? ⟨wr.heap.size, 8, none⟩ = some (.int .u64 0) := hBc.cell 8; have e9 : wc.cell? ⟨wr.heap.size, 9, none⟩ = some (.bool false) := hBc.cell 9; have g1 := hRc.frozen; have g2 := hBc.frozen; have y1 := hRc.lt; have y2 := hBc.lt; have hgc : g < wc.heap.size := (by omega); have d12 : wc.cell? ⟨g, off + 12, none⟩ = _ := (h2.cell _ _ (by simp <;> omega)).trans ((((Ext.refl wr).alloc (.cells #[.int .i64 ((hd4 l : Nat) : Int), .int .i64 ((tot4 l : Nat) : Int), .int .i64 ((bAt l 8).toNat : Int), .int .i64 ((bAt l 9).toNat : Int), (.int .u64 (BitVec.toNat (src4 l) : Int)), .int .u64 0, .bool false, (.int .u64 (BitVec.toNat (dst4 l) : Int)), .int .u64 0, .bool false] 61)).cell _ _ hgw1).trans ((Hx0.out.cell _ _ hg).trans c12)); have d16 : wc.cell? ⟨g, off + 16, none⟩ = _ := (h2.cell _ _ (by simp <;> omega)).trans ((((Ext.refl wr).alloc (.cells #[.int .i64 ((hd4 l : Nat) : Int), .int .i64 ((tot4 l : Nat) : Int), .int .i64 ((bAt l 8).toNat : Int), .int .i64 ((bAt l 9).toNat : Int), (.int .u64 (BitVec.toNat (src4 l) : Int)), .int .u64 0, .bool false, (.int .u64 (BitVec.toNat (dst4 l) : Int)), .int .u64 0, .bool false] 61)).cell _ _ hgw1).trans ((Hx0.out.cell _ _ hg).trans c16)); have HRc := Lib.hid hRc; have HBc := Lib.hid hBc; have Hx2 := Lib.hid ((Hx0.out.alloc (.cells #[.int .i64 ((hd4 l : Nat) : Int), .int .i64 ((tot4 l : Nat) : Int), .int .i64 ((bAt l 8).toNat : Int), .int .i64 ((bAt l 9).toNat : Int), (.int .u64 (BitVec.toNat (src4 l) : Int)), .int .u64 0, .bool false, (.int .u64 (BitVec.toNat (dst4 l) : Int)), .int .u64 0, .bool false] 61)).trans h2); clear hRc hBc h2 HR1 Hx0))
  refine wp_region_ext 7 (by kernel_rfl) (by kernel_rfl) ?_
  dsimp only [List.take, List.drop]
  repeat (first | (apply hold_skip2 rfl; focus (first | (simp only [Act.put, List.setIfInBounds_toArray, List.set_cons_zero, List.set_cons_succ]; exact rfl) | (simp only [Act.put, List.setIfInBounds_toArray, List.set_cons_zero, List.set_cons_succ]) | exact rfl)) | (apply hold_cons2 rfl; (focus (intro w1 hS; have c1 := hS.cell; have f1 := hS.frozen; have z1 := hS.size; go_simp; first | exact rfl | exact ⟨rfl, hS⟩ | ((go_at_call 130; (with_reducible refine (strange_c _ _ _).mono ?_); rintro e w2 ⟨rfl, rfl⟩; rw [h6]; exact ⟨rfl, hS⟩)))); (focus (first | (simp only [Act.put, List.setIfInBounds_toArray, List.set_cons_zero, List.set_cons_succ]; exact rfl) | (simp only [Act.put, List.setIfInBounds_toArray, List.set_cons_zero, List.set_cons_succ]) | exact rfl))))
  refine hold_nil ?_
  rintro w1 hE
  have c_hE := hE.cell
  have f_hE := hE.frozen
  go_wp2
  have hb := (((((((((((HRc.out.ext hE).set 0 (.int .i64 ((hd4 l : Nat) : Int))).set 1 (.int .i64 ((tot4 l : Nat) : Int))).set 2 (.int .i64 ((bAt l 8).toNat : Int))).set 3 (.int .i64 ((bAt l 9).toNat : Int))).set 4 ((.int .u64 (BitVec.toNat (src4 l) : Int)))).set 5 (.int .u64 0)).set 6 (.bool false)).set 7 ((.int .u64 (BitVec.toNat (dst4 l) : Int)))).set 8 (.int .u64 0)).set 9 (.bool false))
  simp only [List.setIfInBounds_toArray, List.set_cons_zero, List.set_cons_succ] at hb
  have h0 := Hx2.out.trans hE
  refine bodyPost_ret (v := .tuple #[headV l, (.int .i64 (0))]) (parse4_results _ _ w.heap.size _ _ _ _ _ _ _ _ _ _ _ rfl rfl hb) rfl ⟨rfl, ?_⟩
  (repeat (first | with_reducible exact Ext.refl _ | with_reducible assumption | (with_reducible refine Ext.set ?_ (by simp <;> omega) _) | (with_reducible refine Ext.alloc ?_ _) | (with_reducible refine Ext.drew ?_) | (with_reducible refine Ext.trans ?_ (by assumption)) | exact Ext.refl _))

end Go.Proofs.YtcipokldcjappaaGreat

namespace Go.Proofs.YtcipokldcjappaaGreat
open Go.RowKit

theorem parse4_c (g off c : Nat) (l : List UInt8) (w : World) (hl : ByA w g off l) (hcap : l.length ≤ c) (hmx : c ≤ 9223372036854775000) (hg : g < w.heap.size) :
    Calls Tryz.prog 106 #[.slice (some ⟨g, off, none⟩) l.length c] w fun e w' => e = .returned (.tuple #[if wrong4 l = 0 then headV l else zeroHead, (.int .i64 ((wrong4 l : Nat)))]) ∧ Ext w w' := by
  by_cases h1 : l.length < 20
  · have : wrong4 l = 1 := by unfold wrong4; rw [if_pos h1]
    rw [this]
    exact parse4short_c _ _ _ _ h1
  obtain ⟨m, hm⟩ : ∃ m, l.length = m + 20 := ⟨l.length - 20, by omega⟩
  obtain ⟨d, rfl⟩ : ∃ d, c = d + 20 := ⟨c - 20, by omega⟩
  have hmd : m ≤ d := by omega
  have hmx' : d ≤ 9223372036854775000 := by omega
  have key : ∀ k v, wrong4 l = k → (if k = 0 then headV l else zeroHead) = v → Calls Tryz.prog 106 #[.slice (some ⟨g, off, none⟩) (m + 20) (d + 20)] w (fun e w' => e = .returned (.tuple #[v, (.int .i64 ((k : Nat)))]) ∧ Ext w w') → Calls Tryz.prog 106 #[.slice (some ⟨g, off, none⟩) l.length (d + 20)] w fun e w' => e = .returned (.tuple #[if wrong4 l = 0 then headV l else zeroHead, (.int .i64 ((wrong4 l : Nat)))]) ∧ Ext w w' := by
    intro k v hk hv h
    rw [hk, hv, hm]; exact h
  have hn : wrong4 l = wrong4 l := rfl
  conv at hn => lhs; unfold wrong4
  rw [if_neg h1] at hn
  by_cases h2 : (bAt l 0).toNat / 16 = 4
  · rw [if_neg (by simp [h2])] at hn
    have hv : ((bAt l 0).toNat : Int) / 16 = 4 := by omega
    by_cases h3 : hd4 l < 20
    · rw [if_pos (.inl h3)] at hn
      exact key 3 _ hn.symm rfl (parse4_3a g off m d l w hl hm hmd hmx' hg hv (by omega))
    by_cases h3b : l.length < hd4 l
    · rw [if_pos (.inr h3b)] at hn
      exact key 3 _ hn.symm rfl (parse4_3b g off m d l w hl hm hmd hmx' hg hv (by omega) (by omega))
    rw [if_neg (by omega)] at hn
    by_cases h4 : tot4 l < hd4 l
    · rw [if_pos (.inl h4)] at hn
      exact key 4 _ hn.symm rfl (parse4_4a g off m d l w hl hm hmd hmx' hg hv (by omega) (by omega) (by omega))
    by_cases h4b : l.length < tot4 l
    · rw [if_pos (.inr h4b)] at hn
      exact key 4 _ hn.symm rfl (parse4_4b g off m d l w hl hm hmd hmx' hg hv (by omega) (by omega) (by omega) (by omega))
    rw [if_neg (by omega)] at hn
    by_cases h5 : sumW (l.take (hd4 l)) = 0
    · rw [if_neg (by simp [h5])] at hn
      cases h6 : strangeB (bAt l 12) (bAt l 16) with
      | true =>
        rw [if_pos h6] at hn
        exact key 6 _ hn.symm rfl (parse4_6 g off m d l w hl hm hmd hmx' hg hv (by omega) (by omega) (by omega) (by omega) (by simp [h5]) h6)
      | false =>
        rw [if_neg (by simp [h6])] at hn
        exact key 0 _ hn.symm rfl (parse4_0 g off m d l w hl hm hmd hmx' hg hv (by omega) (by omega) (by omega) (by omega) (by simp [h5]) h6)
    · rw [if_pos h5] at hn
      exact key 5 _ hn.symm rfl (parse4_5 g off m d l w hl hm hmd hmx' hg hv (by omega) (by omega) (by omega) (by omega) (by simp [h5]))
  · rw [if_pos h2] at hn
    exact key 2 _ hn.symm rfl (parse4_2 g off m d l w hl hm hmd hmx' hg (by omega))

theorem fparse4_results (tmps : Array Value) (W : World) (b : Nat) (x0 x1 x3 x4 k : Int) (v : Bool) (h2 : tmps[2]? = some (.pointer (some ⟨b, 0, none⟩))) (h3 : tmps[3]? = some (.int .i64 k)) (hb : Blk W b 82 #[.int .u64 x0, .int .u64 x1, .bool v, .int .i64 x3, .int .i64 x4]) :
    (results Tryz.f77 tmps).run Tryz.prog W = .ok (.tuple #[.agg #[.int .u64 x0, .int .u64 x1, .bool v, .int .i64 x3, .int .i64 x4], .int .i64 k]) W := by
  have c0 := hb.cell 0
  have c1 := hb.cell 1
  have c2 := hb.cell 2
  have c3 := hb.cell 3
  have c4 := hb.cell 4
  simp at c0 c1 c2 c3 c4
  simp [results, Tryz.results77, go_sem, h2, h3, c0, c1, c2, c3, c4]

set_option maxRecDepth 100000 in
/-- forward.parse4, from what Parse says -/
theorem fparse4_c (s : Value) (x0 x1 x2 x3 y0 y1 z0 z1 k : Int) (v v' : Bool) (w : World)
    (h : ∀ w1, Ext w w1 → Calls Tryz.prog 106 #[s] w1 fun e w' => e = .returned (.tuple #[.agg #[.int .i64 x0, .int .i64 x1, .int .i64 x2, .int .i64 x3, .int .u64 y0, .int .u64 y1, .bool v, .int .u64 z0, .int .u64 z1, .bool v'], .int .i64 k]) ∧ Ext w1 w') :
    Calls Tryz.prog 77 #[s] w fun e w' => e = .returned (.tuple #[.agg #[.int .u64 z0, .int .u64 z1, .bool v', .int .i64 x1, .int .i64 x2], .int .i64 k]) ∧ Ext w w' := by
  have H := Lib.hid h
  clear h
  go_enter Tryz.func77, Tryz.ntmps77
  go_wp2_with (go_at_call 106; (with_reducible refine (H.out _ ((Ext.refl w).alloc _)).mono ?_); rintro e w1 ⟨rfl, h1⟩; have c_h1 := h1.cell; have f_h1 := h1.frozen; have z_h1_0 := h1.lt (b := w.heap.size) (by first | omega | (simp <;> omega)))
  have hb := (((((((Blk.new w 82 #[.int .u64 0, .int .u64 0, .bool false, .int .i64 0, .int .i64 0]).ext h1).set 0 (.int .u64 z0)).set 1 (.int .u64 z1)).set 2 (.bool v')).set 3 (.int .i64 x1)).set 4 (.int .i64 x2)).ext ((Ext.refl _).alloc (.cells #[.int .i64 x0, .int .i64 x1, .int .i64 x2, .int .i64 x3, .int .u64 y0, .int .u64 y1, .bool v, .int .u64 z0, .int .u64 z1, .bool v'] 61))
  simp only [List.setIfInBounds_toArray, List.set_cons_zero, List.set_cons_succ] at hb
  refine bodyPost_ret (v := .tuple #[.agg #[.int .u64 z0, .int .u64 z1, .bool v', .int .i64 x1, .int .i64 x2], .int .i64 k]) (fparse4_results _ _ w.heap.size _ _ _ _ _ _ rfl rfl hb) rfl ⟨rfl, ?_⟩
  (repeat (first | with_reducible exact Ext.refl _ | with_reducible assumption | (with_reducible refine Ext.set ?_ (by simp <;> omega) _) | (with_reducible refine Ext.alloc ?_ _) | (with_reducible refine Ext.drew ?_) | (with_reducible refine Ext.trans ?_ (by assumption)) | exact Ext.refl _))

set_option maxRecDepth 100000 in
theorem fof0_c (a : Option Addr) (c : Nat) (w : World) :
    Calls Tryz.prog 52 #[.slice a 0 c] w fun e w' => e = .returned (.tuple #[.agg #[.nilFunc, .nilFunc], (.int .i64 (1))]) ∧ Ext w w' := by
  go_enter Tryz.func52, Tryz.ntmps52
  go_wp2
  refine bodyPost_ret (v := .tuple #[.agg #[.nilFunc, .nilFunc], (.int .i64 (1))]) (by simp [results, Tryz.results52, go_sem]) rfl ⟨rfl, ?_⟩
  (repeat (first | with_reducible exact Ext.refl _ | with_reducible assumption | (with_reducible refine Ext.set ?_ (by simp <;> omega) _) | (with_reducible refine Ext.alloc ?_ _) | (with_reducible refine Ext.drew ?_) | (with_reducible refine Ext.trans ?_ (by assumption)) | exact Ext.refl _))

set_option maxRecDepth 100000 in
theorem fof4_c (g off n c : Nat) (b : UInt8) (w : World) (hn : 0 < n) (c0 : w.cell? ⟨g, off, none⟩ = some (.int .u8 (b.toNat : Int))) (hb : (b.toNat : Int) / 16 = 4) :
    Calls Tryz.prog 52 #[.slice (some ⟨g, off, none⟩) n c] w fun e w' => e = .returned (.tuple #[.agg #[.func (.func 77) #[] #[], .func (.func 78) #[] #[]], (.int .i64 (0))]) ∧ Ext w w' := by
  have hn' : (0 : Int) < (n : Int) := by omega
  have hg := World.block_lt_of_cell? w _ c0
  go_enter Tryz.func52, Tryz.ntmps52
  go_wp2
  refine bodyPost_ret (v := .tuple #[.agg #[.func (.func 77) #[] #[], .func (.func 78) #[] #[]], (.int .i64 (0))]) (by simp [results, Tryz.results52, go_sem]) rfl ⟨rfl, ?_⟩
  (repeat (first | with_reducible exact Ext.refl _ | with_reducible assumption | (with_reducible refine Ext.set ?_ (by simp <;> omega) _) | (with_reducible refine Ext.alloc ?_ _) | (with_reducible refine Ext.drew ?_) | (with_reducible refine Ext.trans ?_ (by assumption)) | exact Ext.refl _))

set_option maxRecDepth 100000 in
theorem fof6_c (g off n c : Nat) (b : UInt8) (w : World) (hn : 0 < n) (c0 : w.cell? ⟨g, off, none⟩ = some (.int .u8 (b.toNat : Int))) (hb : (b.toNat : Int) / 16 = 6) :
    Calls Tryz.prog 52 #[.slice (some ⟨g, off, none⟩) n c] w fun e w' => e = .returned (.tuple #[.agg #[.func (.func 79) #[] #[], .func (.func 80) #[] #[]], (.int .i64 (0))]) ∧ Ext w w' := by
  have hn' : (0 : Int) < (n : Int) := by omega
  have hg := World.block_lt_of_cell? w _ c0
  go_enter Tryz.func52, Tryz.ntmps52
  go_wp2
  refine bodyPost_ret (v := .tuple #[.agg #[.func (.func 79) #[] #[], .func (.func 80) #[] #[]], (.int .i64 (0))]) (by simp [results, Tryz.results52, go_sem]) rfl ⟨rfl, ?_⟩
  (repeat (first | with_reducible exact Ext.refl _ | with_reducible assumption | (with_reducible refine Ext.set ?_ (by simp <;> omega) _) | (with_reducible refine Ext.alloc ?_ _) | (with_reducible refine Ext.drew ?_) | (with_reducible refine Ext.trans ?_ (by assumption)) | exact Ext.refl _))

set_option maxRecDepth 100000 in
theorem fofx_c (g off n c : Nat) (b : UInt8) (w : World) (hn : 0 < n) (c0 : w.cell? ⟨g, off, none⟩ = some (.int .u8 (b.toNat : Int))) (hb : ¬ (b.toNat : Int) / 16 = 4) (hb6 : ¬ (b.toNat : Int) / 16 = 6) :
    Calls Tryz.prog 52 #[.slice (some ⟨g, off, none⟩) n c] w fun e w' => e = .returned (.tuple #[.agg #[.nilFunc, .nilFunc], (.int .i64 (2))]) ∧ Ext w w' := by
  have hn' : (0 : Int) < (n : Int) := by omega
  have hg := World.block_lt_of_cell? w _ c0
  go_enter Tryz.func52, Tryz.ntmps52
  go_wp2
  refine bodyPost_ret (v := .tuple #[.agg #[.nilFunc, .nilFunc], (.int .i64 (2))]) (by simp [results, Tryz.results52, go_sem]) rfl ⟨rfl, ?_⟩
  (repeat (first | with_reducible exact Ext.refl _ | with_reducible assumption | (with_reducible refine Ext.set ?_ (by simp <;> omega) _) | (with_reducible refine Ext.alloc ?_ _) | (with_reducible refine Ext.drew ?_) | (with_reducible refine Ext.trans ?_ (by assumption)) | exact Ext.refl _))


theorem fread_results (tmps : Array Value) (W : World) (a b : Nat) (x0 x1 x3 x4 k : Int) (v : Bool) (f g : Fn) (h2 : tmps[2]? = some (.pointer (some ⟨a, 0, none⟩))) (h3 : tmps[3]? = some (.pointer (some ⟨b, 0, none⟩))) (h4 : tmps[4]? = some (.int .i64 k)) (ha : Blk W a 80 #[.func f #[] #[], .func g #[] #[]]) (hb : Blk W b 82 #[.int .u64 x0, .int .u64 x1, .bool v, .int .i64 x3, .int .i64 x4]) :
    (results Tryz.f29 tmps).run Tryz.prog W = .ok (.tuple #[.agg #[.func f #[] #[], .func g #[] #[]], .agg #[.int .u64 x0, .int .u64 x1, .bool v, .int .i64 x3, .int .i64 x4], .int .i64 k]) W := by
  have c0 := hb.cell 0
  have c1 := hb.cell 1
  have c2 := hb.cell 2
  have c3 := hb.cell 3
  have c4 := hb.cell 4
  have d0 := ha.cell 0
  have d1 := ha.cell 1
  simp at c0 c1 c2 c3 c4 d0 d1
  simp [results, Tryz.results29, go_sem, h2, h3, h4, c0, c1, c2, c3, c4, d0, d1]

set_option maxRecDepth 100000 in
set_option maxHeartbeats 1000000 in
/-- forward.read of a packet of four that is right or wrong -/
theorem fread4_c (g off c : Nat) (l : List UInt8) (w : World) (hl : ByA w g off l) (h0 : 0 < l.length) (hcap : l.length ≤ c) (hmx : c ≤ 9223372036854775000) (hg : g < w.heap.size) (hv : ((bAt l 0).toNat : Int) / 16 = 4) (hr : wrong4 l = 0) :
    Calls Tryz.prog 29 #[.slice (some ⟨g, off, none⟩) l.length c] w fun e w' => e = .returned (.tuple #[.agg #[.func (.func 77) #[] #[], .func (.func 78) #[] #[]], .agg #[(.int .u64 (BitVec.toNat (dst4 l) : Int)), .int .u64 0, .bool false, .int .i64 (tot4 l : Nat), .int .i64 ((bAt l 8).toNat : Int)], (.int .i64 (0))]) ∧ Ext w w' := by
  have hp := fun w1 (hx : Ext w w1) => parse4_c g off c l w1 (hl.ext hg hx) hcap hmx (hx.lt hg)
  rw [hr] at hp
  simp only [if_true, headV] at hp
  have hf := fun w1 (hx : Ext w w1) => fparse4_c _ _ _ _ _ _ _ _ _ _ _ _ w1 (fun w2 hx2 => hp w2 (hx.trans hx2))
  have Ho := Lib.hid (fun w1 (hx : Ext w w1) => fof4_c g off l.length c (bAt l 0) w1 h0 ((hx.cell _ _ hg).trans (hl.at 0 h0)) hv)
  have Hf := Lib.hid hf
  clear hl hp hf hr hv
  go_enter Tryz.func29, Tryz.ntmps29
  go_wp2_with (first
    | (go_at_call 52; (with_reducible refine (Ho.out _ (?hx : Ext w _)).mono ?_); (case hx => (repeat (first | with_reducible exact Ext.refl _ | with_reducible assumption | (with_reducible refine Ext.set ?_ (by simp <;> omega) _) | (with_reducible refine Ext.alloc ?_ _) | (with_reducible refine Ext.drew ?_) | (with_reducible refine Ext.trans ?_ (by assumption)) | exact Ext.refl _))); rintro e w1 ⟨rfl, h1⟩; have c_h1 := h1.cell; have f_h1 := h1.frozen; have z_h1_0 := h1.lt (b := w.heap.size) (by first | omega | (simp <;> omega)); have z_h1_1 := h1.lt (b := w.heap.size + 1) (by first | omega | (simp <;> omega)))
    | (go_at_call 77; (with_reducible refine (Hf.out _ (?hx : Ext w _)).mono ?_); (case hx => (repeat (first | with_reducible exact Ext.refl _ | with_reducible assumption | (with_reducible refine Ext.set ?_ (by simp <;> omega) _) | (with_reducible refine Ext.alloc ?_ _) | (with_reducible refine Ext.drew ?_) | (with_reducible refine Ext.trans ?_ (by assumption)) | exact Ext.refl _))); rintro e w2 ⟨rfl, h2⟩; have hx1 := (((Ext.refl w).alloc (.cells #[.nilFunc, .nilFunc] 80)).alloc (.cells #[.int .u64 0, .int .u64 0, .bool false, .int .i64 0, .int .i64 0] 82)).trans h1; have hA := ((((Blk.new w 80 #[.nilFunc, .nilFunc]).ext ((Ext.refl _).alloc (.cells #[.int .u64 0, .int .u64 0, .bool false, .int .i64 0, .int .i64 0] 82))).ext h1).ext ((Ext.refl _).alloc (.cells #[.func (.func 77) #[] #[], .func (.func 78) #[] #[]] 80))).ext h2; have hB := (((Blk.new' (w.alloc (.cells #[.nilFunc, .nilFunc] 80)) (w.heap.size + 1) 82 #[.int .u64 0, .int .u64 0, .bool false, .int .i64 0, .int .i64 0] (by simp)).ext h1).ext ((Ext.refl _).alloc (.cells #[.func (.func 77) #[] #[], .func (.func 78) #[] #[]] 80))).ext h2; have hC := (Blk.new w1 80 #[.func (.func 77) #[] #[], .func (.func 78) #[] #[]]).ext h2; have hA0 : w2.cell? ⟨w.heap.size, 0, none⟩ = _ := hA.cell 0; have hA1 : w2.cell? ⟨w.heap.size, 1, none⟩ = _ := hA.cell 1; have hB0 : w2.cell? ⟨w.heap.size + 1, 0, none⟩ = _ := hB.cell 0; have hB1 : w2.cell? ⟨w.heap.size + 1, 1, none⟩ = _ := hB.cell 1; have hB2 : w2.cell? ⟨w.heap.size + 1, 2, none⟩ = _ := hB.cell 2; have hB3 : w2.cell? ⟨w.heap.size + 1, 3, none⟩ = _ := hB.cell 3; have hB4 : w2.cell? ⟨w.heap.size + 1, 4, none⟩ = _ := hB.cell 4; have hC0 : w2.cell? ⟨w1.heap.size, 0, none⟩ = some (.func (.func 77) #[] #[]) := hC.cell 0; have hC1 : w2.cell? ⟨w1.heap.size, 1, none⟩ = some (.func (.func 78) #[] #[]) := hC.cell 1; have fA := hA.frozen; have fB := hB.frozen; have fC := hC.frozen; have zA := hA.lt; have zB := hB.lt; have zC := hC.lt; have z01 : w.heap.size < w1.heap.size := z_h1_0; have z11 : w.heap.size + 1 < w1.heap.size := z_h1_1; have HA := Lib.hid hA; have HB := Lib.hid hB; have HC := Lib.hid hC; have Hx2 := Lib.hid ((hx1.alloc (.cells #[.func (.func 77) #[] #[], .func (.func 78) #[] #[]] 80)).trans h2); clear hA hB hC h2 h1 hx1 c_h1 f_h1 z_h1_0 z_h1_1))
  go_region
  go_wp2
  have hA := (((((((HA.out.set 0 (.func (.func 77) #[] #[])).set 1 (.func (.func 78) #[] #[])).far (p := ⟨w.heap.size + 1, 0, none⟩) (by simp <;> omega) ((.int .u64 (BitVec.toNat (dst4 l) : Int)))).far (p := ⟨w.heap.size + 1, 1, none⟩) (by simp <;> omega) (.int .u64 0)).far (p := ⟨w.heap.size + 1, 2, none⟩) (by simp <;> omega) (.bool false)).far (p := ⟨w.heap.size + 1, 3, none⟩) (by simp <;> omega) (.int .i64 (tot4 l : Nat))).far (p := ⟨w.heap.size + 1, 4, none⟩) (by simp <;> omega) (.int .i64 ((bAt l 8).toNat : Int))).ext (((Ext.refl _).alloc (.cells #[(.int .u64 (BitVec.toNat (dst4 l) : Int)), .int .u64 0, .bool false, .int .i64 (tot4 l : Nat), .int .i64 ((bAt l 8).toNat : Int)] 82)).drew)
  have hB := (((((((HB.out.far (p := ⟨w.heap.size, 0, none⟩) (by simp <;> omega) (.func (.func 77) #[] #[])).far (p := ⟨w.heap.size, 1, none⟩) (by simp <;> omega) (.func (.func 78) #[] #[])).set 0 ((.int .u64 (BitVec.toNat (dst4 l) : Int)))).set 1 (.int .u64 0)).set 2 (.bool false)).set 3 (.int .i64 (tot4 l : Nat))).set 4 (.int .i64 ((bAt l 8).toNat : Int))).ext (((Ext.refl _).alloc (.cells #[(.int .u64 (BitVec.toNat (dst4 l) : Int)), .int .u64 0, .bool false, .int .i64 (tot4 l : Nat), .int .i64 ((bAt l 8).toNat : Int)] 82)).drew)
  simp only [List.setIfInBounds_toArray, List.set_cons_zero, List.set_cons_succ] at hA hB
  have h0 := Hx2.out
  refine bodyPost_ret (v := .tuple #[.agg #[.func (.func 77) #[] #[], .func (.func 78) #[] #[]], .agg #[(.int .u64 (BitVec.toNat (dst4 l) : Int)), .int .u64 0, .bool false, .int .i64 (tot4 l : Nat), .int .i64 ((bAt l 8).toNat : Int)], (.int .i64 (0))]) (fread_results _ _ w.heap.size (w.heap.size + 1) _ _ _ _ _ _ _ _ rfl rfl rfl hA hB) rfl ⟨rfl, ?_⟩
  (repeat (first | with_reducible exact Ext.refl _ | with_reducible assumption | (with_reducible refine Ext.set ?_ (by simp <;> omega) _) | (with_reducible refine Ext.alloc ?_ _) | (with_reducible refine Ext.drew ?_) | (with_reducible refine Ext.trans ?_ (by assumption)) | exact Ext.refl _))
end Go.Proofs.YtcipokldcjappaaGreat

namespace Go.Proofs.YtcipokldcjappaaGreat
open Go.RowKit

/-- bytes as values -/
def u8s (l : List UInt8) : List Value := l.map fun b => .int .u8 (b.toNat : Int)
theorem u8s_get (l : List UInt8) (j : Nat) (u : Value) (h : (u8s l)[j]? = some u) : ∃ b, l[j]? = some b ∧ u = .int .u8 (b.toNat : Int) := by
  unfold u8s at h
  rw [List.getElem?_map] at h
  cases hb : l[j]? with
  | none => rw [hb] at h; cases h
  | some b => rw [hb] at h; exact ⟨b, rfl, (Option.some.inj h).symm⟩
theorem u8s_of (l : List UInt8) (j : Nat) (b : UInt8) (h : l[j]? = some b) : (u8s l)[j]? = some (.int .u8 (b.toNat : Int)) := by
  unfold u8s; rw [List.getElem?_map, h]; rfl
theorem u8s_length (l : List UInt8) : (u8s l).length = l.length := by unfold u8s; simp
theorem u8s_one (l : List UInt8) : ∀ u ∈ u8s l, u.oneCell' = true := by
  intro u hu
  unfold u8s at hu
  obtain ⟨b, _, rfl⟩ := List.mem_map.1 hu
  rfl
theorem ByA.of_own {w : World} {base n g cap : Nat} {l : List UInt8} {T : TypeId} (h : w.ownsRow base T 1 (.slice (some ⟨g, 0, none⟩) n cap) n (u8s l)) : ByA w g 0 l := by
  intro j b hb
  rw [Nat.zero_add]
  exact own_cell h j _ (u8s_of l j b hb)
theorem grown_ext {w w' : World} (h : w.grownBy w' none) : Ext w w' := ((Keep.refl (fun _ => False) w).grown h (fun k hk => by cases hk)).ext (fun _ _ h => h)

set_option maxRecDepth 100000 in
theorem clone_c (g off c : Nat) (l : List UInt8) (w : World) (hl : ByA w g off l) (h0 : 0 < l.length) (hmx : l.length ≤ 1000000) (hg : g < w.heap.size) :
    Calls Tryz.prog 68 #[.slice (some ⟨g, off, none⟩) l.length c] w fun e w' => ∃ q c', e = .returned (.slice (some ⟨q, 0, none⟩) l.length c') ∧ ByA w' q 0 l ∧ l.length ≤ c' ∧ c' ≤ 9223372036854775807 ∧ w.heap.size ≤ q ∧ q < w'.heap.size ∧ Ext w w' := by
  have he : ∀ w, (binOp .eql 23 (.slice (some ⟨g, off, none⟩) l.length c) (.slice none 0 0)).run Tryz.prog w = .ok (.bool false) w := fun w => Lib.run_eql_slice_nil w 23 5 (some ⟨g, off, none⟩) l.length c 0 0 Tryz.underlying23
  have hgW := fun o => hl.ext hg ((Ext.refl w).alloc o)
  have HG := Lib.hid hgW
  clear hgW hl
  go_enter Tryz.func68, Tryz.ntmps68
  go_wp2_with (at_builtin; go_loud (refine wpList_append_grows _ rfl (.tmp 5) (.tmp 6) 23 rfl 5 _ (.int .u8 0) 1 1 Tryz.underlying23 rfl rfl rfl rfl rfl (by decide) (some ⟨w.heap.size, 0, none⟩) 0 0 [] rfl (fun h => by cases h) rfl (fun b _ j u h => by cases h) ⟨g, off, none⟩ l.length c (u8s l) rfl (by rw [u8s_length]; omega) (fun j u hj => by rw [Addr.add_lit]; obtain ⟨b, hb, rfl⟩ := u8s_get l j u hj; exact HG.out _ j b hb) (u8s_one l) (by omega) (by simp only [maxLen]; omega) (by omega) ?_; intro v' w' hown hgr))
  have hx := ((Ext.refl w).alloc (.cells #[] 5)).trans (grown_ext hgr)
  rw [Nat.zero_add, List.nil_append] at hown
  rcases own_form hown with ⟨_, hn⟩ | ⟨q, c', rfl, h1, h2, h3⟩
  · omega
  have hq := own_base_le hown (g := q) rfl
  go_ret
  exact ⟨q, c', rfl, ByA.of_own hown, h1, h2, by simp at hq; omega, h3, hx⟩
end Go.Proofs.YtcipokldcjappaaGreat

namespace Go.Proofs.YtcipokldcjappaaGreat
open Go.RowKit

theorem judge_results (tmps : Array Value) (W : World) (b : Nat) (x0 x1 x2 x3 : Int) (s : Option Addr) (n c : Nat) (h2 : tmps[4]? = some (.pointer (some ⟨b, 0, none⟩))) (hb : Blk W b 30 #[(.int .i64 (x0)), (.int .i64 (x1)), (.int .i64 (x2)), (.int .i64 (x3)), .slice s n c]) :
    (results Tryz.f42 tmps).run Tryz.prog W = .ok (.agg #[(.int .i64 (x0)), (.int .i64 (x1)), (.int .i64 (x2)), (.int .i64 (x3)), .slice s n c]) W := by
  have c0 := hb.cell 0
  have c1 := hb.cell 1
  have c2 := hb.cell 2
  have c3 := hb.cell 3
  have c4 := hb.cell 4
  simp at c0 c1 c2 c3 c4
  simp [results, Tryz.results42, go_sem, h2, c0, c1, c2, c3, c4]

set_option maxRecDepth 100000 in
set_option maxHeartbeats 2000000 in
theorem judgeLocal_c (h r rb um t tb : Nat) (A F A2 F2 : Value) (ar ar2 : List Nd) (fr fr2 : List Nat) (n n2 most hops : Int) (st : List Int) (g off c : Nat) (l : List UInt8) (w : World)
    (hH : HierE w h r rb um t tb A F A2 F2 ar ar2 fr fr2 n n2 most hops 0 st) (hl : ByA w g off l) (h0 : 0 < l.length) (hcap : l.length ≤ c) (hmx : c ≤ 9223372036854775000) (hg : g < w.heap.size) (hv : ((bAt l 0).toNat : Int) / 16 = 4) (hr : wrong4 l = 0)
    (ht : 0 < tot4 l) (htl : tot4 l ≤ l.length) (hgh : g ≠ h)
    (hs : saneA ⟨dst4 l, 0#64, false⟩ = true) (hg1 : govB ar (leafP ar ⟨dst4 l, 0#64, false⟩) = true) (hnil : (aboveL ar2 (wholeP ⟨dst4 l, 0#64, false⟩)).isEmpty = true) (hg2 : govB ar (wholeP ⟨dst4 l, 0#64, false⟩) = true) (hhop : (govR ar (wholeP ⟨dst4 l, 0#64, false⟩)).hop = 0) :
    Calls Tryz.prog 42 #[.pointer (some ⟨h, 0, none⟩), .slice (some ⟨g, off, none⟩) l.length c] w
      fun e w' => ∃ q c', e = .returned (.agg #[(.int .i64 (2)), (.int .i64 (0)), (.int .i64 (0)), (.int .i64 (2)), .slice (some ⟨q, 0, none⟩) (tot4 l) c']) ∧ ByA w' q 0 (l.take (tot4 l)) ∧ w.heap.size ≤ q ∧ q < w'.heap.size ∧ Keep (fun k => k = h) w w' ∧ HierE w' h r rb um t tb A F A2 F2 ar ar2 fr fr2 n n2 most hops 0 (bumpL (bumpL (bumpL st 0 1) 2 1) 5 1) := by
  have hlt := hH.lt
  have HH0 := Lib.hid hH
  have Hr := Lib.hid (fun w1 (hx : Ext w w1) => fread4_c g off c l w1 (hl.ext hg hx) h0 hcap hmx (hx.lt hg) hv hr)
  have hlk := fun w1 (hx : Ext w w1) => lookup0_c h r rb um t tb A F A2 F2 ar ar2 fr fr2 n n2 most hops st (dst4 l) 0#64 false w1 (hH.ext hx) hs hg1 hnil
  rw [hg2] at hlk
  have e0 : ((BitVec.toNat 0#64 : Nat) : Int) = 0 := rfl
  simp only [e0] at hlk
  have hl60 : tot4 l < 65536 := wd_lt _ _
  have htk : (l.take (tot4 l)).length = tot4 l := by rw [List.length_take]; omega
  have hcl := fun w1 c' (hx : Keep (fun k => k = h) w w1) => clone_c g off c' (l.take (tot4 l)) w1 ((show ByA w1 g off l from fun j b hb => (hx.cell (p := ⟨g, off + j, none⟩) hg hgh).trans (hl j b hb)).take (tot4 l)) (by omega) (by omega) (Nat.lt_of_lt_of_le hg hx.size)
  rw [htk] at hcl
  generalize govR ar (wholeP ⟨dst4 l, 0#64, false⟩) = x at hlk hhop
  have Hl := Lib.hid hlk
  have Hc := Lib.hid hcl
  have HB := Lib.hid (Blk.new w 30 #[(.int .i64 (0)), (.int .i64 (0)), (.int .i64 (0)), (.int .i64 (0)), .slice none 0 0])
  have htc : ((tot4 l : Nat) : Int) ≤ (c : Int) := by omega
  have ht0 : (0 : Int) ≤ ((tot4 l : Nat) : Int) := by omega
  clear hlk hcl hl hH hr hv hs hg1 hg2 hnil
  go_enter Tryz.func42, Tryz.ntmps42
  go_wp2_with (first
    | (go_at_call 29; (with_reducible refine (Hr.out _ (?hx : Ext w _)).mono ?_); (case hx => (repeat (first | with_reducible exact Ext.refl _ | with_reducible assumption | (with_reducible refine Ext.set ?_ (by simp <;> omega) _) | (with_reducible refine Ext.alloc ?_ _) | (with_reducible refine Ext.drew ?_) | (with_reducible refine Ext.trans ?_ (by assumption)) | exact Ext.refl _))); rintro e w1 ⟨rfl, h1⟩; have c_h1 := h1.cell; have f_h1 := h1.frozen; have z_h1_0 := h1.lt (b := w.heap.size) (by first | omega | (simp <;> omega)); have hx1 : Ext w w1 := ((Ext.refl w).alloc _).trans h1; have HB1 := Lib.hid (HB.out.ext h1); have Hx1 := Lib.hid hx1; have z1 : w.heap.size < w1.heap.size := z_h1_0; clear h1 hx1 HB)
    | (go_at_call 67; (with_reducible refine (Hl.out _ (?hx : Ext w _)).mono ?_); (case hx => (have hx1 := Hx1.out; (repeat (first | with_reducible exact Ext.refl _ | with_reducible assumption | (with_reducible refine Ext.set ?_ (by simp <;> omega) _) | (with_reducible refine Ext.alloc ?_ _) | (with_reducible refine Ext.drew ?_) | (with_reducible refine Ext.trans ?_ (by assumption)) | exact Ext.refl _)))); rintro e w2 ⟨rfl, hK, hH2⟩; have hKw := (((Hx1.out.alloc (.cells #[.func (.func 77) #[] #[], .func (.func 78) #[] #[]] 80)).alloc (.cells #[(.int .u64 (BitVec.toNat (dst4 l) : Int)), .int .u64 0, .bool false, (.int .i64 ((tot4 l : Nat))), .int .i64 ((bAt l 8).toNat : Int)] 82)).keep (fun k => k = h)).trans hK; have hB4 := ((HB1.out.ext ((Ext.refl _).alloc (.cells #[.func (.func 77) #[] #[], .func (.func 78) #[] #[]] 80))).ext ((Ext.refl _).alloc (.cells #[(.int .u64 (BitVec.toNat (dst4 l) : Int)), .int .u64 0, .bool false, (.int .i64 ((tot4 l : Nat))), .int .i64 ((bAt l 8).toNat : Int)] 82))).keep hK (by omega); have hB6 := (Blk.new' (w1.alloc (.cells #[.func (.func 77) #[] #[], .func (.func 78) #[] #[]] 80)) (w1.heap.size + 1) 82 #[(.int .u64 (BitVec.toNat (dst4 l) : Int)), .int .u64 0, .bool false, (.int .i64 ((tot4 l : Nat))), .int .i64 ((bAt l 8).toNat : Int)] (by simp)).keep hK (by have := Hx1.out.size; omega); have r0 : w2.cell? ⟨w.heap.size, 0, none⟩ = some ((.int .i64 (0))) := hB4.cell 0; have r1 : w2.cell? ⟨w.heap.size, 1, none⟩ = some ((.int .i64 (0))) := hB4.cell 1; have r2 : w2.cell? ⟨w.heap.size, 2, none⟩ = some ((.int .i64 (0))) := hB4.cell 2; have r3 : w2.cell? ⟨w.heap.size, 3, none⟩ = some ((.int .i64 (0))) := hB4.cell 3; have r4 : w2.cell? ⟨w.heap.size, 4, none⟩ = some (.slice none 0 0) := hB4.cell 4; have p3 : w2.cell? ⟨w1.heap.size + 1, 3, none⟩ = some ((.int .i64 ((tot4 l : Nat)))) := hB6.cell 3; have fr4 := hB4.frozen; have z2 : w.heap.size < w2.heap.size := hB4.lt; have z6 : w1.heap.size + 1 < w2.heap.size := hB6.lt; have HB2 := Lib.hid hB4; have HKw := Lib.hid hKw; have HH2 := Lib.hid hH2; clear hB4 hB6 hKw hH2 hK c_h1 f_h1 HB1)
    | (go_at_call 68; (with_reducible refine (Hc.out _ c (?hx : Keep (fun k => k = h) w _)).mono ?_); (case hx => exact HKw.out.alloc _); rintro e w3 ⟨q, c', rfl, hb, hc1, hc2, hq, hq2, h3⟩; have hB4 := (HB2.out.ext ((Ext.refl _).alloc (.cells #[(.int .u64 (BitVec.toNat (x.p.a.hi) : Int)), (.int .u64 (BitVec.toNat (x.p.a.lo) : Int)), .bool x.p.a.v6, (.int .i64 (x.p.n)), (.int .i64 (0))] 138))).ext h3; have s0 : w3.cell? ⟨w.heap.size, 0, none⟩ = some ((.int .i64 (0))) := hB4.cell 0; have s1 : w3.cell? ⟨w.heap.size, 1, none⟩ = some ((.int .i64 (0))) := hB4.cell 1; have s2 : w3.cell? ⟨w.heap.size, 2, none⟩ = some ((.int .i64 (0))) := hB4.cell 2; have s3 : w3.cell? ⟨w.heap.size, 3, none⟩ = some ((.int .i64 (0))) := hB4.cell 3; have s4 : w3.cell? ⟨w.heap.size, 4, none⟩ = some (.slice none 0 0) := hB4.cell 4; have fs4 := hB4.frozen; have HB3 := Lib.hid hB4; have HK3 := Lib.hid ((HKw.out.alloc (.cells #[(.int .u64 (BitVec.toNat (x.p.a.hi) : Int)), (.int .u64 (BitVec.toNat (x.p.a.lo) : Int)), .bool x.p.a.v6, (.int .i64 (x.p.n)), (.int .i64 (0))] 138)).thenExt h3); have HH3 := Lib.hid ((HH2.out.ext ((Ext.refl _).alloc (.cells #[(.int .u64 (BitVec.toNat (x.p.a.hi) : Int)), (.int .u64 (BitVec.toNat (x.p.a.lo) : Int)), .bool x.p.a.v6, (.int .i64 (x.p.n)), (.int .i64 (0))] 138))).ext h3); have Hb := Lib.hid hb; have hq0 : w2.heap.size < q := (by simp at hq; omega); clear hB4 h3 hb hq r0 r1 r2 r3 r4 p3 fr4))
  have hb4 := (((((HB3.out.set 0 ((.int .i64 (2)))).set 1 ((.int .i64 (0)))).set 2 ((.int .i64 (0)))).set 3 ((.int .i64 (2)))).set 4 (.slice (some ⟨q, 0, none⟩) (tot4 l) c'))
  simp only [List.setIfInBounds_toArray, List.set_cons_zero, List.set_cons_succ] at hb4
  have hKK := (((((HK3.out.set (p := ⟨w.heap.size, 0, none⟩) (.inr (Nat.le_refl _)) ((.int .i64 (2)))).set (p := ⟨w.heap.size, 1, none⟩) (.inr (Nat.le_refl _)) ((.int .i64 (0)))).set (p := ⟨w.heap.size, 2, none⟩) (.inr (Nat.le_refl _)) ((.int .i64 (0)))).set (p := ⟨w.heap.size, 3, none⟩) (.inr (Nat.le_refl _)) ((.int .i64 (2)))).set (p := ⟨w.heap.size, 4, none⟩) (.inr (Nat.le_refl _)) (.slice (some ⟨q, 0, none⟩) (tot4 l) c'))
  have hx3 : Keep (fun k => k = w.heap.size) w3 (((((w3.setCell ⟨w.heap.size, 0, none⟩ ((.int .i64 (2)))).setCell ⟨w.heap.size, 1, none⟩ ((.int .i64 (0)))).setCell ⟨w.heap.size, 2, none⟩ ((.int .i64 (0)))).setCell ⟨w.heap.size, 3, none⟩ ((.int .i64 (2)))).setCell ⟨w.heap.size, 4, none⟩ (.slice (some ⟨q, 0, none⟩) (tot4 l) c')) := ((((((Keep.refl (fun k => k = w.heap.size) w3).set (p := ⟨w.heap.size, 0, none⟩) (.inl rfl) ((.int .i64 (2)))).set (p := ⟨w.heap.size, 1, none⟩) (.inl rfl) ((.int .i64 (0)))).set (p := ⟨w.heap.size, 2, none⟩) (.inl rfl) ((.int .i64 (0)))).set (p := ⟨w.heap.size, 3, none⟩) (.inl rfl) ((.int .i64 (2)))).set (p := ⟨w.heap.size, 4, none⟩) (.inl rfl) (.slice (some ⟨q, 0, none⟩) (tot4 l) c'))
  refine bodyPost_ret (v := .agg #[(.int .i64 (2)), (.int .i64 (0)), (.int .i64 (0)), (.int .i64 (2)), .slice (some ⟨q, 0, none⟩) (tot4 l) c']) (judge_results _ _ w.heap.size _ _ _ _ _ _ _ rfl hb4) rfl ⟨q, c', rfl, ?_, by omega, ?_, hKK, ?_⟩
  · intro j b hj
    exact (hx3.cell (p := ⟨q, 0 + j, none⟩) hq2 (show ¬ q = w.heap.size by omega)).trans (Hb.out j b hj)
  · exact Nat.lt_of_lt_of_le hq2 hx3.size
  · exact HH0.out.keep hKK (HH3.out.head.keep hx3 (show ¬ h = w.heap.size by omega)) HH3.out.ok
end Go.Proofs.YtcipokldcjappaaGreat

