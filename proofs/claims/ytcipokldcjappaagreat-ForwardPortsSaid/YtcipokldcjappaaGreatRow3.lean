/-
  The law ForwardPorts holds: for every list of ports, every hop, kind and packet, the call returns true, and each argument reads behind it as before. No condition.
-/
import Derived.Test.YtcipokldcjappaaGreatM6
import Derived.Test.YtcipokldcjappaaGreatRows
import Derived.ProofKit
import Derived.SizedLaws
import Derived.Deep.Slices
import Derived.Deep.Strs
import Derived.OpenShut
set_option linter.unusedVariables false
set_option linter.unusedSimpArgs false

namespace Go.Proofs.YtcipokldcjappaaGreat
open Go.ChangeShapes Go.WideShapes Go.ChangeAt Go.RowKit

theorem own_knob : ownKnob Tryz.prog.godebug = none := by kernel_rfl
theorem laid_out : laidOutB Tryz.prog = true := by kernel_rfl
theorem cells_u8 : Tryz.prog.cellsOf 5 = 1 := by kernel_rfl
theorem cells_port : Tryz.prog.cellsOf 67 = 3 := by kernel_rfl
theorem bytes_port : Tryz.prog.bytesOf 67 = 24 := by kernel_rfl
theorem bytes_u8 : Tryz.prog.bytesOf 5 = 1 := by kernel_rfl
theorem und_port : ∃ f0 f1 f2, Tryz.prog.underlying 67 = some (.struct #[f0, f1, f2]) ∧ f0.offset = 0 ∧ f1.offset = 1 ∧ f2.offset = 2 ∧ f0.type = 3 ∧ f1.type = 31 ∧ f2.type = 31 := ⟨_, _, _, Tryz.underlying67, rfl, rfl, rfl, rfl, rfl, rfl⟩
theorem cells_int : Tryz.prog.cellsOf 3 = 1 := by kernel_rfl
theorem cells_u64 : Tryz.prog.cellsOf 31 = 1 := by kernel_rfl

theorem lit_u64 {n : Int} (h : (Lit.int .u64 n).wf = true) : 0 ≤ n ∧ n ≤ 18446744073709551615 := by
  exact bounds_u64 h

/-- ports that came in -/
theorem open_ports {H : Type} {enc : TypeId × Value → H} {W : World} {fuel : Nat} {cs : List Value} {x : DataW H × List MemPlace} (hf : DataW.trod enc Tryz.prog W 0 (fun _ => true) true fuel 22 cs = some x) :
    ∃ (l : List Po) (a : Option Addr) (c : Nat) (el sp : List (DataW H)), cs = [.slice a l.length c] ∧ ((l = [] ∧ a = none) ∨ (∃ g off, a = some ⟨g, off, none⟩ ∧ PoA W g off l) ∨ l = []) ∧
      (∀ x ∈ l, 0 ≤ x.pk ∧ 0 ≤ x.byt ∧ x.pk ≤ 18446744073709551615 ∧ x.byt ≤ 18446744073709551615) ∧ ((l = []) ∨ (x.1 = .slice el sp ∧ l.length ≤ el.length + sp.length)) := by
  rcases Go.Deep.open_slice Tryz.underlying22 hf with ⟨rfl, rfl⟩ | ⟨a, len, cap, m, n, D, Pl, rfl, hb, hl, hm, hmm, rfl, hx⟩
  · exact ⟨[], none, 0, [], [], rfl, .inl ⟨rfl, rfl⟩, fun x hx => (by cases hx), .inl rfl⟩
  simp only [if_true] at hmm
  subst hmm
  rw [cells_port] at hx
  obtain ⟨f0, f1, f2, hu, o0, o1, o2, t0, t1, t2⟩ := und_port
  have each : ∀ i, i < len → ∃ y : Po, (W.cell? (a.add (i * 3)) = some ((.int .i64 (y.hop))) ∧ W.cell? ((a.add (i * 3)).add 1) = some (.int .u64 y.pk) ∧ W.cell? ((a.add (i * 3)).add 2) = some (.int .u64 y.byt)) ∧ 0 ≤ y.pk ∧ 0 ≤ y.byt ∧ y.pk ≤ 18446744073709551615 ∧ y.byt ≤ 18446744073709551615 := by
    intro i hi
    obtain ⟨cs', h1, h2⟩ := hx i (by omega)
    obtain ⟨_, hlen, hget⟩ := World.cells?_some h1
    obtain ⟨y0, y1, y2, n', _, _, g0, g1, g2⟩ := Go.Deep.trod_struct3 hu h2
    rw [o0, t0, cells_int] at g0
    rw [o1, t1, cells_u64] at g1
    rw [o2, t2, cells_u64] at g2
    obtain ⟨z0, e0, _, _⟩ := DataW.trod_int Tryz.underlying3 g0
    obtain ⟨z1, e1, _, w1⟩ := DataW.trod_int Tryz.underlying31 g1
    obtain ⟨z2, e2, _, w2⟩ := DataW.trod_int Tryz.underlying31 g2
    match cs', hlen with
    | [c0, c1, c2], _ =>
      simp at e0 e1 e2
      subst e0; subst e1; subst e2
      have r1 := lit_u64 w1
      have r2 := lit_u64 w2
      have k0 := hget 0 (by omega)
      have k1 := hget 1 (by omega)
      have k2 := hget 2 (by omega)
      have ka : (a.add (i * 3)).add 0 = a.add (i * 3) := by unfold Addr.add; simp
      rw [ka] at k0
      exact ⟨⟨z0, z1, z2⟩, ⟨k0, k1, k2⟩, r1.1, r2.1, r1.2, r2.2⟩
  haveI : Inhabited Po := ⟨⟨0, 0, 0⟩⟩
  obtain ⟨f, hf'⟩ := Go.Deep.choose_lt (α := Po) (p := fun i y => (W.cell? (a.add (i * 3)) = some ((.int .i64 (y.hop))) ∧ W.cell? ((a.add (i * 3)).add 1) = some (.int .u64 y.pk) ∧ W.cell? ((a.add (i * 3)).add 2) = some (.int .u64 y.byt)) ∧ 0 ≤ y.pk ∧ 0 ≤ y.byt ∧ y.pk ≤ 18446744073709551615 ∧ y.byt ≤ 18446744073709551615) each
  by_cases h0 : len = 0
  · subst h0
    exact ⟨[], some a, m, [], [], rfl, .inr (.inr rfl), fun x hx => (by cases hx), .inl rfl⟩
  obtain ⟨g, off, spot⟩ := a
  have hspot : spot = none := by
    have h1 := (hf' 0 (by omega)).1.1
    have := World.cell?_spot h1
    simpa [Addr.add] using this
  subst hspot
  refine ⟨(List.range len).map f, some ⟨g, off, none⟩, m, (List.range len).map D, (List.range (m - len)).map fun j => D (len + j), by simp, .inr (.inl ⟨g, off, rfl, ?_⟩), ?_, .inr ⟨rfl, by simp⟩⟩
  · intro j x hj
    simp only [List.getElem?_map] at hj
    have hjl : j < len := by
      rcases Nat.lt_or_ge j len with h | h
      · exact h
      · rw [List.getElem?_eq_none (by simpa using h)] at hj; cases hj
    rw [List.getElem?_range hjl] at hj
    simp at hj
    subst hj
    obtain ⟨⟨k0, k1, k2⟩, _⟩ := hf' j hjl
    have ea : (⟨g, off, none⟩ : Addr).add (j * 3) = ⟨g, off + j * 3, none⟩ := by unfold Addr.add; split <;> simp_all
    rw [ea] at k0 k1 k2
    exact ⟨k0, by simpa [Addr.add] using k1, by simpa [Addr.add] using k2⟩
  · intro x hx
    obtain ⟨i, hi, rfl⟩ := List.mem_map.1 hx
    exact (hf' i (List.mem_range.1 hi)).2

/-- ports of the law, at whatever came in -/
theorem ports_any (l : List Po) (a : Option Addr) (c : Nat) (W : World) (ha : (l = [] ∧ a = none) ∨ (∃ g off, a = some ⟨g, off, none⟩ ∧ PoA W g off l) ∨ l = []) (hb : l.length * 24 ≤ 140737488355328) :
    ∀ w1, Ext W w1 → Calls Tryz.prog 6 #[.slice a l.length c] w1 fun e w' => ∃ v, e = .returned v ∧ SlP w' v l ∧ Ext w1 w' := by
  intro w1 hx
  by_cases h0 : l = []
  · subst h0
    refine (ports0_c a c w1).mono ?_
    rintro e w2 ⟨rfl, h2⟩
    exact ⟨_, rfl, .inl ⟨rfl, rfl⟩, h2⟩
  · have hpos : 0 < l.length := List.length_pos_iff.2 h0
    rcases ha with ⟨h, _⟩ | ⟨g, off, rfl, hp⟩ | h
    · exact absurd h h0
    · refine (ports_c g off c l w1 (hp.ext hpos hx) hpos hb).mono ?_
      rintro e w2 ⟨v, rfl, ho, h2⟩
      exact ⟨v, rfl, SlP.of_own ho hpos, h2⟩
    · exact absurd h h0

set_option maxRecDepth 100000 in
set_option maxHeartbeats 4000000 in
theorem forwardPorts_lifted (os : Os) (started : os.Started) (H : Type) (enc : TypeId × Value → H) :
    ReturnsInHanded {} Tryz.checked os 3 .any (Rows.forwardPortsSpec.pre6 enc Tryz.prog Tryz.f3 Rows.forwardPortsRow.domain false) (Rows.forwardPortsSpec.post enc Tryz.prog Tryz.f3 false true false false) := by
  refine returnsInHanded_of_change_sized (C := Tryz.checked) own_knob started (by kernel_rfl) Tryz.func3
    (ChangeSpec.witness6 (enc := enc) (C := Tryz.checked) false ⟨#[], #[.slice none 0 0, .int .i64 0, .int .i64 0, .slice none 0 0], []⟩ 8 (by kernel_rfl) (by kernel_rfl) (by kernel_rfl) (by kernel_rfl)) ?_
  intro W base args ds gs before hval0 hW _ hsz0 _
  have hsz : (DataW.weightsEach Tryz.prog (Tryz.f3.params.toList ++ Rows.forwardPortsSpec.plain.varTypes Tryz.prog) (ds ++ gs)).all (· ≤ reachBytes) = true := hsz0
  clear hsz0
  have hval : ∀ (j : Nat) t v, Tryz.f3.params[j]? = some t → args[j]? = some v → Value.okWide Tryz.prog W .any base t v := hval0
  have hW' := hW
  obtain ⟨p, q, hA0, hV, rfl, _, _⟩ := hW
  have hA : DataW.TrodAll enc Tryz.prog W 0 (fun _ => true) true Tryz.f3.params.toList args.toList ds p := hA0
  rw [Tryz.params3] at hA hval hsz
  obtain ⟨v0, v1, v2, v3, d0, d1, d2, d3, p0, p1, p2, p3, rfl, rfl, rfl, h0, h1, h2, h3⟩ := trodAll_four hA
  obtain ⟨rfl, rfl⟩ := trodVars_none hV
  obtain ⟨x1, rfl, rfl, rfl, w1⟩ := open_int Tryz.underlying3 (hval 1 3 v1 rfl rfl) h1
  obtain ⟨x2, rfl, rfl, rfl, w2⟩ := open_int Tryz.underlying3 (hval 2 3 v2 rfl rfl) h2
  obtain ⟨a0, len0, cap0, rfl⟩ := okWide_slice Tryz.underlying22 (hval 0 22 v0 rfl rfl)
  obtain ⟨a3, len3, cap3, rfl⟩ := okWide_slice Tryz.underlying23 (hval 3 23 v3 rfl rfl)
  have h0k := h0
  have h3k := h3
  obtain ⟨fuel0, hf0⟩ := h0
  obtain ⟨fuel3, hf3⟩ := h3
  clear hA0 hval0
  simp only [List.append_nil] at hW'
  have hlt : ∀ x ∈ p0 ++ [] ++ [] ++ p3, x.block < W.heap.size := fun x hx => by simpa using hW'.lt x (by simpa using hx)
  have hlt0 : ∀ x ∈ p0, x.block < W.heap.size := fun x hx => hlt x (by simp [hx])
  have hlt3 : ∀ x ∈ p3, x.block < W.heap.size := fun x hx => hlt x (by simp [hx])
  have hargs : ∀ (W' : World), Below W.heap.size W W' → DataW.TrodAll enc Tryz.prog W' 0 (fun b => decide (b < W.heap.size)) true [22, 3, 3, 23] [.slice a0 len0 cap0, .int .i64 x1, .int .i64 x2, .slice a3 len3 cap3] [d0, .lit (.int .i64 x1), .lit (.int .i64 x2), d3] (p0 ++ ([] ++ ([] ++ p3))) :=
    fun W' hn => trodAll_mk4 (Below.trod laid_out (by kernel_rfl) (of_decide_eq_true (by kernel_rfl)) h0k hn hlt0) (shut_int Tryz.underlying3 w1) (shut_int Tryz.underlying3 w2) (Below.trod laid_out (by kernel_rfl) (of_decide_eq_true (by kernel_rfl)) h3k hn hlt3)
  -- what came in: ports, and how many bytes
  obtain ⟨l, a, c, el, sp, hcs, ha, hl, hd⟩ := open_ports hf0
  simp [Value.cells] at hcs
  obtain ⟨rfl, rfl, rfl⟩ := hcs
  have hb : l.length * 24 ≤ 140737488351232 := by
    rcases hd with rfl | ⟨rfl, hle⟩
    · simp
    · have := sized_slice hsz (j := 0) (t := 22) (e := 67) rfl rfl Tryz.underlying22
      rw [bytes_port] at this
      have e : reachBytes = 140737488351232 := rfl
      omega
  have hm : len3 ≤ 140737488351232 := by
    rcases open_ints Tryz.underlying23 Tryz.underlying5 cells_u8 hf3 with ⟨hcs, hx⟩ | ⟨a, len', cap', zs, hcs, _, hle, _, hz, hx, _, _⟩
    · simp [Value.cells] at hcs; omega
    · simp [Value.cells] at hcs
      obtain ⟨rfl, rfl, rfl⟩ := hcs
      simp only [Prod.mk.injEq] at hx
      obtain ⟨rfl, rfl⟩ := hx
      simp only [if_true] at hz
      have := sized_slice hsz (j := 3) (t := 23) (e := 5) rfl rfl Tryz.underlying23
      rw [bytes_u8] at this
      have e : reachBytes = 140737488351232 := rfl
      simp [lits] at this
      omega
  have hr := and1 x2
  refine (fports_c a0 cap0 l x1 x2 (x2 % 2) (if x2 % 2 = 0 then x1 % 65536 else 0) a3 len3 cap3 W (ports_any l a0 cap0 W ha (by omega)) hr (by split <;> omega) (by omega) (by omega) hl).mono ?_
  rintro e W' ⟨rfl, hx⟩
  refine ⟨_, rfl, _, _, _, [], _, [], hW', trodAll_mk1 (shut_bool Tryz.underlying4 true), hargs _ hx, rfl, ?_, fun h => by cases h⟩
  exact Below.frame hx _

theorem forwardPorts_holds : Rows.ForwardPortsSaid :=
  OpenClaim.holds_of_wide 3 Tryz.f3 rfl rfl rfl rfl rfl rfl rfl ⟨rfl, rfl, rfl, rfl, rfl⟩ rfl rfl rfl rfl rfl (by kernel_rfl) Tryz.func3 (by kernel_rfl)
    (of_decide_eq_true (by kernel_rfl)) (by unfold Func.isWrapper; first | (rw [if_pos (by decide +kernel)]; kernel_rfl) | (rw [if_neg (by decide +kernel)]; exact ⟨rfl, rfl⟩))
    (fun os started H enc _ => forwardPorts_lifted os started H enc)
end Go.Proofs.YtcipokldcjappaaGreat

