/-
  Part 3 of the walks behind the claim: TrieM, TrieW, TrieF, TrieG, TrieA, TrieB, TrieL, Math1, TrieU, TrieV, TrieP, Hier0, NewA, NewB.
-/
import Derived.Test.YtcipokldcjappaaGreatM2
import Derived.ChangeKeysEq
import Derived.Deep.LoopGhost
import Derived.Deep.CutRange
import Derived.Maps.OwnOps
import Derived.Laws.CopyRow
import Derived.Maps.OwnSet
import Derived.Deep.RegionHeld3
set_option linter.unusedVariables false
set_option linter.unusedSimpArgs false

namespace Go.Proofs.YtcipokldcjappaaGreat
open Go.RowKit

structure Nd where
  k0 : Int
  k1 : Int
  up : Int
  ends : Bool
  v : Int
  deriving DecidableEq

def ndCells (x : Nd) : List Value := [.int .i64 x.k0, .int .i64 x.k1, .int .i64 x.up, .bool x.ends, .int .i64 x.v]
def arCells (ar : List Nd) : List Value := ar.flatMap ndCells
theorem arCells_length (ar : List Nd) : (arCells ar).length = ar.length * 5 := by
  induction ar with
  | nil => rfl
  | cons x l ih => simp [arCells, ndCells] at *; omega
theorem arCells_get (ar : List Nd) (i : Nat) (x : Nd) (h : ar[i]? = some x) (j : Nat) (hj : j < 5) : (arCells ar)[i * 5 + j]? = (ndCells x)[j]? := by
  induction ar generalizing i with
  | nil => simp at h
  | cons y l ih =>
    have e : arCells (y :: l) = ndCells y ++ arCells l := by simp [arCells]
    rw [e]
    cases i with
    | zero =>
      simp at h; subst h
      rw [List.getElem?_append_left (by simp [ndCells]; omega)]; simp
    | succ i =>
      simp at h
      rw [List.getElem?_append_right (by simp [ndCells]; omega), ← ih i h]
      congr 1; simp [ndCells]; omega
theorem arCells_set (ar : List Nd) (i : Nat) (x y : Nd) (h : ar[i]? = some x) (j : Nat) (u : Value) (hj : j < 5) (hu : ndCells y = (ndCells x).set j u) : (arCells ar).set (i * 5 + j) u = arCells (ar.set i y) := by
  induction ar generalizing i with
  | nil => simp at h
  | cons z l ih =>
    have e : arCells (z :: l) = ndCells z ++ arCells l := by simp [arCells]
    have hl : (ndCells z).length = 5 := rfl
    rw [e]
    cases i with
    | zero =>
      simp at h; subst h
      rw [List.set_append_left _ _ (by omega)]
      simp [arCells, hu]
    | succ i =>
      simp at h
      rw [List.set_append_right _ _ (by omega), show (i + 1) * 5 + j - (ndCells z).length = i * 5 + j by omega, ih i h]
      simp [arCells]
theorem arCells_append (ar : List Nd) (x : Nd) : arCells (ar ++ [x]) = arCells ar ++ ndCells x := by simp [arCells]

/-- the kid of a node on a side; none: -1 -/
def kidOf (ar : List Nd) (i : Int) (b : Bool) : Int := match ar[i.toNat]? with
  | some x => if b then x.k1 else x.k0
  | none => -1
/-- the way down from a node by digits -/
def desc (ar : List Nd) : Int → List Bool → Int
  | i, [] => i
  | i, b :: bs => if i < 0 then -1 else desc ar (kidOf ar i b) bs
/-- All kids are nodes of the arena, or none. -/
def WFar (ar : List Nd) : Prop := ∀ (i : Nat) (x : Nd), ar[i]? = some x → (-1 ≤ x.k0 ∧ x.k0 < ar.length) ∧ (-1 ≤ x.k1 ∧ x.k1 < ar.length)
theorem kidOf_range {ar : List Nd} (h : WFar ar) (i : Int) (b : Bool) : -1 ≤ kidOf ar i b ∧ kidOf ar i b < ar.length := by
  unfold kidOf
  split
  · rename_i x hx
    have := h _ _ hx
    cases b <;> simp <;> omega
  · omega
theorem desc_neg (ar : List Nd) (bs : List Bool) : desc ar (-1) bs = -1 := by cases bs <;> simp [desc]
theorem desc_range {ar : List Nd} (h : WFar ar) (bs : List Bool) : ∀ (i : Int), -1 ≤ i → i < ar.length → -1 ≤ desc ar i bs ∧ desc ar i bs < ar.length := by
  induction bs with
  | nil => intro i h1 h2; exact ⟨h1, h2⟩
  | cons b bs ih =>
    intro i h1 h2
    unfold desc
    split
    · omega
    · exact ih _ (kidOf_range h i b).1 (kidOf_range h i b).2
theorem desc_snoc (ar : List Nd) (bs : List Bool) (b : Bool) : ∀ (i : Int), desc ar i (bs ++ [b]) = if desc ar i bs < 0 then -1 else kidOf ar (desc ar i bs) b := by
  induction bs with
  | nil => intro i; rfl
  | cons c bs ih =>
    intro i
    simp only [List.cons_append, desc]
    split
    · simp
    · exact ih _
theorem desc_none {ar : List Nd} {bs : List Bool} {i : Int} (k : Nat) (h : desc ar i (bs.take k) = -1) : desc ar i bs = -1 := by
  have : ∀ (l m : List Bool) (i : Int), desc ar i l = -1 → desc ar i (l ++ m) = -1 := by
    intro l
    induction l with
    | nil => intro m i h; simp only [desc] at h; subst h; simpa using desc_neg ar m
    | cons c l ih =>
      intro m i h
      simp only [List.cons_append, desc] at h ⊢
      split
      · rfl
      · rename_i hi; rw [if_neg hi] at h; exact ih m _ h
  have := this _ (bs.drop k) _ h
  rwa [List.take_append_drop] at this

/-- the digits of a prefix -/
def digs (p : Pf) : List Bool := (List.range p.n.toNat).map (dig p.a)
theorem digs_length (p : Pf) : (digs p).length = p.n.toNat := by simp [digs]
theorem digs_take (p : Pf) (k : Nat) (hk : k < p.n.toNat) : (digs p).take (k + 1) = (digs p).take k ++ [dig p.a k] := by
  rw [List.take_succ_eq_append_getElem (by rw [digs_length]; exact hk)]
  simp [digs]
def rootI (v : Bool) : Int := if v then 1 else 0

/-- The trie behind a pointer: its head's block b; the arena A and the free list F own their rows. -/
structure TrieAt (w : World) (b : Nat) (A F : Value) (ar : List Nd) (fr : List Nat) (n : Int) : Prop where
  head : Blk w b 167 #[A, F, .int .i64 n]
  arena : w.ownsRow 0 163 5 A ar.length (arCells ar)
  free : w.ownsRow 0 3 1 F fr.length (fr.map fun (i : Nat) => .int .i64 (i : Int))
  two : 2 ≤ ar.length
  wf : WFar ar

section
variable {w w' : World} {b : Nat} {A F : Value} {ar : List Nd} {fr : List Nat} {n : Int} {S : Nat → Prop}
theorem TrieAt.ext (h : TrieAt w b A F ar fr n) (hx : Ext w w') : TrieAt w' b A F ar fr n := ⟨h.head.ext hx, own_ext h.arena hx, own_ext h.free hx, h.two, h.wf⟩
theorem TrieAt.keep (h : TrieAt w b A F ar fr n) (hx : Keep S w w') (h1 : ¬ S b) (h2 : ∀ g, A.ownBlock = some g → ¬ S g) (h3 : ∀ g, F.ownBlock = some g → ¬ S g) : TrieAt w' b A F ar fr n :=
  ⟨h.head.keep hx h1, own_keep h.arena hx h2, own_keep h.free hx h3, h.two, h.wf⟩
theorem TrieAt.form (h : TrieAt w b A F ar fr n) : ∃ g cap, A = .slice (some ⟨g, 0, none⟩) ar.length cap ∧ ar.length ≤ cap ∧ cap ≤ maxLen ∧ g < w.heap.size := by
  rcases own_form h.arena with ⟨_, h2⟩ | h2
  · have := h.two; omega
  · exact h2
theorem TrieAt.cell {g cap : Nat} (h : TrieAt w b (.slice (some ⟨g, 0, none⟩) ar.length cap) F ar fr n) (i : Nat) (x : Nd) (hx : ar[i]? = some x) (j : Nat) (hj : j < 5) : w.cell? ⟨g, i * 5 + j, none⟩ = (ndCells x)[j]? := by
  have h1 := arCells_get ar i x hx j hj
  cases hc : (ndCells x)[j]? with
  | none => simp [ndCells] at hc; omega
  | some u => exact own_cell h.arena _ u (h1.trans hc)
end
end Go.Proofs.YtcipokldcjappaaGreat

namespace Go.Proofs.YtcipokldcjappaaGreat
open Go.RowKit

theorem root_c (v : Bool) (w : World) : Calls Tryz.prog 88 #[.bool v] w fun e w' => e = .returned ((.int .i64 (rootI v))) ∧ w = w' := by
  cases v
  all_goals
    go_enter Tryz.func88, Tryz.ntmps88
    go_wp2
    go_ret
    exact ⟨rfl, rfl⟩

set_option maxRecDepth 100000 in
set_option maxHeartbeats 1000000 in
/-- The closure of find: at the prefix's own depth it tells the node. -/
theorem findClo_hit (at_ k : Int) (c3 c5 : Nat) (n : Int) (o : Value) (w : World) (h3 : w.cell? ⟨c3, 3, none⟩ = some ((.int .i64 (n)))) (h5 : Blk w c5 3 #[o]) (hk : k = n) :
    Calls Tryz.prog 113 #[(.int .i64 (at_)), (.int .i64 (k)), .pointer (some ⟨c3, 0, none⟩), .pointer (some ⟨c5, 0, none⟩)] w fun e w' => e = .returned (.bool true) ∧ w.setCell ⟨c5, 0, none⟩ ((.int .i64 (at_))) = w' := by
  have h5c : w.cell? ⟨c5, 0, none⟩ = some o := h5.cell 0
  have h5f : w.frozen? ⟨c5, 0, none⟩ = false := h5.frozen 0
  have hd : (k == n) = true := by simpa using hk
  clear hk h5
  go_enter Tryz.func113, Tryz.ntmps113
  go_wp2
  go_ret
  exact ⟨rfl, rfl⟩

set_option maxRecDepth 100000 in
set_option maxHeartbeats 1000000 in
theorem findClo_miss (at_ k : Int) (c3 : Nat) (x5 : Value) (n : Int) (w : World) (h3 : w.cell? ⟨c3, 3, none⟩ = some ((.int .i64 (n)))) (hk : k ≠ n) :
    Calls Tryz.prog 113 #[(.int .i64 (at_)), (.int .i64 (k)), .pointer (some ⟨c3, 0, none⟩), x5] w fun e w' => e = .returned (.bool true) ∧ w = w' := by
  have hd : (k == n) = false := by simpa using hk
  clear hk
  go_enter Tryz.func113, Tryz.ntmps113
  go_wp2
  go_ret
  exact ⟨rfl, rfl⟩

theorem kid_of_cell {ar : List Nd} {i : Nat} {x : Nd} (h : ar[i]? = some x) (b : Bool) : kidOf ar (i : Int) b = if b then x.k1 else x.k0 := by
  unfold kidOf; simp [h]

theorem desc_next {ar : List Nd} {p : Pf} {r : Int} {j i : Nat} {x : Nd} (hj : j < p.n.toNat) (hd : desc ar r ((digs p).take j) = (i : Int)) (hx : ar[i]? = some x) :
    desc ar r ((digs p).take (j + 1)) = if dig p.a j then x.k1 else x.k0 := by
  rw [digs_take p j hj, desc_snoc, hd, if_neg (by omega), kid_of_cell hx]

theorem bitOf_dig {p : Pf} {j : Nat} (hn : p.n ≤ Wd p.a.v6) (hj : j < p.n.toNat) : bitOf p.a (j : Int) = dig p.a j := by
  unfold bitOf
  have : decide (0 ≤ (j : Int) ∧ (j : Int) < Wd p.a.v6) = true := by simp; omega
  rw [this]; simp

set_option maxRecDepth 100000 in
set_option maxHeartbeats 4000000 in
theorem walkF_c (b c3 c5 : Nat) (hi lo : BitVec 64) (v : Bool) (n : Int) (A F : Value) (ar : List Nd) (fr : List Nat) (m : Int) (w : World)
    (hT : TrieAt w b A F ar fr m) (hn0 : 0 ≤ n) (hn : n ≤ Wd v) (h3 : w.cell? ⟨c3, 3, none⟩ = some ((.int .i64 (n)))) (h5 : Blk w c5 3 #[(.int .i64 (-1))]) (hF : ∀ g, F.ownBlock = some g → ¬ g = c5) :
    Calls Tryz.prog 112 #[.pointer (some ⟨b, 0, none⟩), .agg #[(.int .u64 (BitVec.toNat (hi) : Int)), (.int .u64 (BitVec.toNat (lo) : Int)), .bool v, (.int .i64 (n))], .func (.func 113) #[] #[.pointer (some ⟨c3, 0, none⟩), .pointer (some ⟨c5, 0, none⟩)]] w
      fun e w' => e = .returned (.tuple #[]) ∧ Keep (fun k => k = c5) w w' ∧ Blk w' c5 3 #[(.int .i64 (desc ar (rootI v) (digs ⟨⟨hi, lo, v⟩, n⟩)))] := by
  obtain ⟨g, cap, rfl, hcap, hmax, hg⟩ := hT.form
  have hW := (Wd_range v).2
  have hne5 : c5 ≠ b := Blk.ne h5 hT.head (by decide)
  have hneg : c5 ≠ g := fun e => own_blk_ne hT.arena h5 (by decide) (by rw [e]; rfl)
  have hlt5 := h5.lt
  have hltb := hT.head.lt
  have hlt3 : c3 < w.heap.size := World.block_lt_of_cell? w _ h3
  have hne3 : c3 ≠ c5 := by
    rintro rfl
    rw [h5.cell 3] at h3
    simp at h3
  unfold maxLen at hmax
  have hroot : -1 ≤ rootI v ∧ rootI v < ar.length := by have := hT.two; unfold rootI; split <;> omega
  have HT := Lib.hid hT
  have H5 := Lib.hid h5
  have H3 := Lib.hid h3
  clear hT h5 h3
  go_enter Tryz.func112, Tryz.ntmps112
  go_wp2_with (go_at_call 88; (with_reducible refine (root_c _ _).mono ?_); rintro e w1 ⟨rfl, rfl⟩)
  go_loopw [6, 7] (fun at_ k wr => ∃ j : Nat, j ≤ n.toNat ∧ at_ = (.int .i64 (desc ar (rootI v) ((digs ⟨⟨hi, lo, v⟩, n⟩).take j))) ∧ k = (.int .i64 ((j : Int))) ∧ Keep (fun k => k = c5) w wr ∧ Blk wr w.heap.size 57 #[(.int .u64 (BitVec.toNat (hi) : Int)), (.int .u64 (BitVec.toNat (lo) : Int)), .bool v, (.int .i64 (n))] ∧ Blk wr c5 3 #[(.int .i64 (-1))]) (fun _ k _ => n.toNat - (intOf k).toNat)
  case atStart =>
    refine ⟨0, by omega, rfl, rfl, (Keep.refl _ _).alloc _, Blk.new _ _ _, H5.out.ext ((Ext.refl w).alloc _)⟩
  case round =>
    obtain ⟨j, hj, rfl, rfl, hK, h4, h5'⟩ := hrel
    have hr := desc_range HT.out.wf ((digs ⟨⟨hi, lo, v⟩, n⟩).take j) _ hroot.1 hroot.2
    have hTr : TrieAt wr b (.slice (some ⟨g, 0, none⟩) ar.length cap) F ar fr m := HT.out.keep hK (fun e => hne5 e.symm) (fun g' hg' e => hneg (e.symm.trans (ownB hg').symm)) hF
    by_cases hneg1 : desc ar (rootI v) ((digs ⟨⟨hi, lo, v⟩, n⟩).take j) = -1
    · rw [hneg1]
      have hfin := desc_none _ hneg1
      clear hTr hneg1 hr
      have HK := Lib.hid hK
      have H5' := Lib.hid h5'
      have Hfin := Lib.hid hfin
      clear hK h5' hfin
      go_wp2
      go_end0
      exact ⟨rfl, HK.out, by rw [Hfin.out]; exact H5'.out⟩
    · obtain ⟨i, hi'⟩ : ∃ i : Nat, desc ar (rootI v) ((digs ⟨⟨hi, lo, v⟩, n⟩).take j) = (i : Int) := ⟨_, (Int.toNat_of_nonneg (by omega)).symm⟩
      have hil : i < ar.length := by omega
      obtain ⟨x, hx⟩ : ∃ x, ar[i]? = some x := ⟨_, List.getElem?_eq_getElem hil⟩
      rw [hi'] at hneg1 ⊢
      have h3' : wr.cell? ⟨c3, 3, none⟩ = some ((.int .i64 (n))) := (hK.cell (p := ⟨c3, 3, none⟩) hlt3 hne3).trans H3.out
      have n4 : wr.cell? ⟨w.heap.size, 3, none⟩ = some ((.int .i64 (n))) := h4.cell 3
      by_cases hjn : (j : Int) = n
      · have hfin : desc ar (rootI v) (digs ⟨⟨hi, lo, v⟩, n⟩) = (i : Int) := by
          rw [← hi', List.take_of_length_le (by rw [digs_length]; simp; omega)]
        have HK := Lib.hid hK
        have H5' := Lib.hid h5'
        have Hfin := Lib.hid hfin
        have hlt : n ≤ (j : Int) := by omega
        have Hjn := Lib.hid hjn
        clear hjn
        have hne1 : (((i : Nat) : Int) != -1) = true := by simp
        have z4 := h4.lt
        have z5 := h5'.lt
        have hne45 : w.heap.size ≠ c5 := by omega
        clear hK hfin h5' h4 hi' hx hTr hneg1 hr
        go_wp2_with (go_at_call 113; (with_reducible refine (findClo_hit _ _ _ _ n _ _ h3' H5'.out Hjn.out).mono ?_); rintro e w1 ⟨rfl, rfl⟩)
        go_end0
        rw [Hfin.out]
        exact ⟨rfl, HK.out.set (.inl rfl) _, H5'.out.set 0 _⟩
      · have HK := Lib.hid hK
        have H5' := Lib.hid h5'
        have H4 := Lib.hid h4
        have HTr := Lib.hid hTr
        have Hi := Lib.hid hi'
        have Hx := Lib.hid hx
        have hlt : (j : Int) < n := by omega
        have hne1 : (((i : Nat) : Int) != -1) = true := by simp
        have a0 : wr.cell? ⟨b, 0, none⟩ = some (.slice (some ⟨g, 0, none⟩) ar.length cap) := hTr.head.cell 0
        have b0 : wr.cell? ⟨w.heap.size, 0, none⟩ = some ((.int .u64 (BitVec.toNat (hi) : Int))) := h4.cell 0
        have b1 : wr.cell? ⟨w.heap.size, 1, none⟩ = some ((.int .u64 (BitVec.toNat (lo) : Int))) := h4.cell 1
        have b2 : wr.cell? ⟨w.heap.size, 2, none⟩ = some (.bool v) := h4.cell 2
        have z4 := h4.lt
        have zb : b < wr.heap.size := hTr.head.lt
        have zg : g < wr.heap.size := own_lt hTr.arena rfl
        have k0 : wr.cell? ⟨g, i * 5, none⟩ = some ((.int .i64 (x.k0))) := hTr.cell i x hx 0 (by omega)
        have k1 : wr.cell? ⟨g, i * 5 + 1, none⟩ = some ((.int .i64 (x.k1))) := hTr.cell i x hx 1 (by omega)
        have hbit := fun w => bit_c hi lo v j w
        rw [bitOf_dig (p := ⟨⟨hi, lo, v⟩, n⟩) hn (by simp; omega)] at hbit
        have hnext := desc_next (p := ⟨⟨hi, lo, v⟩, n⟩) (j := j) (by simp; omega) hi' hx
        clear hK h5' h4 hi' hx hTr hneg1 hr
        cases hb : dig ⟨hi, lo, v⟩ j <;> rw [hb] at hbit hnext <;> simp only [b2i, Bool.false_eq_true, if_false, if_true] at hbit hnext
        all_goals
        have Hbit := Lib.hid hbit
        have Hnext := Lib.hid hnext
        clear hbit hnext hb
        go_wp2_with (go_at_call 113; (with_reducible refine (findClo_miss _ _ _ _ n _ h3' hjn).mono ?_); rintro e w1 ⟨rfl, rfl⟩)
        refine wp_region_ext 13 (by kernel_rfl) (by kernel_rfl) ?_
        dsimp only [List.take, List.drop]
        repeat (first | (apply hold_skip2 rfl; focus (first | (simp only [Act.put, List.setIfInBounds_toArray, List.set_cons_zero, List.set_cons_succ]; exact rfl) | (simp only [Act.put, List.setIfInBounds_toArray, List.set_cons_zero, List.set_cons_succ]) | exact rfl)) | (apply hold_cons2 rfl; (focus (intro w1 hS; have c1 := hS.cell; have f1 := hS.frozen; have z1 := hS.size; go_simp; first | exact rfl | exact ⟨rfl, hS⟩ | (go_at_call 89; (with_reducible refine (Hbit.out _).mono ?_); rintro e w2 ⟨rfl, h2⟩; exact ⟨rfl, hS.trans h2⟩))); (focus (first | (simp only [Act.put, List.setIfInBounds_toArray, List.set_cons_zero, List.set_cons_succ]; exact rfl) | (simp only [Act.put, List.setIfInBounds_toArray, List.set_cons_zero, List.set_cons_succ]) | exact rfl))))
        refine hold_nil ?_
        rintro w1 hE
        have c_hE := hE.cell
        have f_hE := hE.frozen
        have z_hE_0 := hE.lt (b := w.heap.size) (by first | omega | (simp <;> omega))
        go_wp2
        go_roundw
        case rel => exact ⟨j + 1, by omega, by rw [Hnext.out], by go_num, HK.out.thenExt hE, H4.out.ext hE, H5'.out.ext hE⟩
        case measure => simp [intOf]; omega

end Go.Proofs.YtcipokldcjappaaGreat

namespace Go.Proofs.YtcipokldcjappaaGreat
open Go.RowKit

set_option maxRecDepth 100000 in
set_option maxHeartbeats 1000000 in
theorem made_c (b g cap l : Nat) (w : World) (hl : 0 < l) (a0 : w.cell? ⟨b, 0, none⟩ = some (.slice (some ⟨g, 0, none⟩) l cap)) :
    Calls Tryz.prog 87 #[.pointer (some ⟨b, 0, none⟩)] w fun e w' => e = .returned (.bool true) ∧ w = w' := by
  go_enter Tryz.func87, Tryz.ntmps87
  go_wp2
  go_ret
  exact ⟨by simp, rfl⟩
theorem made_nil (w : World) :
    Calls Tryz.prog 87 #[.pointer none] w fun e w' => e = .returned (.bool false) ∧ w = w' := by
  go_enter Tryz.func87, Tryz.ntmps87
  go_wp2
  go_ret
  exact ⟨rfl, rfl⟩

/-- where a prefix's node is; -1: nowhere -/
def findI (ar : List Nd) (p : Pf) : Int := if saneP p then desc ar (rootI p.a.v6) (digs p) else -1

set_option maxRecDepth 100000 in
set_option maxHeartbeats 2000000 in
theorem find_c (b : Nat) (hi lo : BitVec 64) (v : Bool) (n : Int) (A F : Value) (ar : List Nd) (fr : List Nat) (m : Int) (w : World) (hT : TrieAt w b A F ar fr m) :
    Calls Tryz.prog 86 #[.pointer (some ⟨b, 0, none⟩), .agg #[(.int .u64 (BitVec.toNat (hi) : Int)), (.int .u64 (BitVec.toNat (lo) : Int)), .bool v, (.int .i64 (n))]] w fun e w' => e = .returned ((.int .i64 (findI ar ⟨⟨hi, lo, v⟩, n⟩))) ∧ Ext w w' := by
  obtain ⟨g, cap, rfl, hcap, hmax, hg⟩ := hT.form
  have hlt := hT.head.lt
  have h2 := hT.two
  have a0 : w.cell? ⟨b, 0, none⟩ = some (.slice (some ⟨g, 0, none⟩) ar.length cap) := hT.head.cell 0
  have hpos : 0 < ar.length := by omega
  have HT := Lib.hid hT
  have hs := fun w => saneP_c hi lo v n w
  clear hT
  unfold findI
  cases hsn : saneP ⟨⟨hi, lo, v⟩, n⟩ <;> rw [hsn] at hs <;> have Hs := Lib.hid hs <;> clear hs
  · simp only [Bool.false_eq_true, if_false]
    clear hsn
    go_enter Tryz.func86, Tryz.ntmps86
    go_wp2_with (first
      | (go_at_call 87; (with_reducible refine (made_c b g cap ar.length _ hpos (by go_simp)).mono ?_); rintro e w1 ⟨rfl, rfl⟩)
      | (go_at_call 59; (with_reducible refine (Hs.out _).mono ?_); rintro e w1 ⟨rfl, h1⟩; have c_h1 := h1.cell; have f_h1 := h1.frozen; have z_h1_0 := h1.lt (b := w.heap.size) (by first | omega | (simp <;> omega)); have z_h1_1 := h1.lt (b := w.heap.size + 1) (by first | omega | (simp <;> omega))))
    go_ret
    refine ⟨rfl, ?_⟩
    (repeat (first | with_reducible exact Ext.refl _ | with_reducible assumption | (with_reducible refine Ext.set ?_ (by simp <;> omega) _) | (with_reducible refine Ext.alloc ?_ _) | (with_reducible refine Ext.drew ?_) | (with_reducible refine Ext.trans ?_ (by assumption)) | exact Ext.refl _))
  · simp only [if_true]
    have hr := saneP_range hsn
    have Hr := Lib.hid hr
    clear hsn hr
    go_enter Tryz.func86, Tryz.ntmps86
    go_wp2_with (first
      | (go_at_call 87; (with_reducible refine (made_c b g cap ar.length _ hpos (by go_simp)).mono ?_); rintro e w1 ⟨rfl, rfl⟩)
      | (go_at_call 59; (with_reducible refine (Hs.out _).mono ?_); rintro e w1 ⟨rfl, h1⟩; have c_h1 := h1.cell; have f_h1 := h1.frozen; have z_h1_0 := h1.lt (b := w.heap.size) (by first | omega | (simp <;> omega)); have z_h1_1 := h1.lt (b := w.heap.size + 1) (by first | omega | (simp <;> omega))))
    have hE : Ext w w1 := by (repeat (first | with_reducible exact Ext.refl _ | with_reducible assumption | (with_reducible refine Ext.set ?_ (by simp <;> omega) _) | (with_reducible refine Ext.alloc ?_ _) | (with_reducible refine Ext.drew ?_) | (with_reducible refine Ext.trans ?_ (by assumption)) | exact Ext.refl _))
    have hT1 := HT.out.ext hE
    have h5 : Blk w1 (w.heap.size + 1) 3 #[(.int .i64 (-1))] := by
      have e : w1.heap[w.heap.size + 1]? = ((w.alloc (.cells #[(.int .u64 (BitVec.toNat (hi) : Int)), (.int .u64 (BitVec.toNat (lo) : Int)), .bool v, (.int .i64 (n))] 57)).alloc (.cells #[(.int .i64 (-1))] 3)).heap[w.heap.size + 1]? := h1.block _ (by simp)
      unfold Blk
      rw [e]
      simpa using heap_alloc_new (w.alloc (.cells #[(.int .u64 (BitVec.toNat (hi) : Int)), (.int .u64 (BitVec.toNat (lo) : Int)), .bool v, (.int .i64 (n))] 57)) (.cells #[(.int .i64 (-1))] 3)
    have h3 : w1.cell? ⟨w.heap.size, 3, none⟩ = some ((.int .i64 (n))) := by go_simp
    have hF : ∀ g', F.ownBlock = some g' → ¬ g' = w.heap.size + 1 := fun g' hg' e => by have := own_lt HT.out.free hg'; omega
    have Hwalk := Lib.hid (walkF_c b w.heap.size (w.heap.size + 1) hi lo v n _ F ar fr m w1 hT1 Hr.out.1 Hr.out.2 h3 h5 hF)
    have HE := Lib.hid hE
    clear hT1 h5 h3 hF hE
    go_wp2_with (go_at_call 112; (with_reducible refine Hwalk.out.mono ?_); rintro e w2 ⟨rfl, hK, hB⟩; have c5 : w2.cell? ⟨w.heap.size + 1, 0, none⟩ = _ := hB.cell 0; have HK := Lib.hid hK; clear hK hB)
    go_ret
    exact ⟨rfl, (HE.out.keep (fun k => k = w.heap.size + 1)).trans HK.out |>.ext (fun k hk e => by omega)⟩

end Go.Proofs.YtcipokldcjappaaGreat

namespace Go.Proofs.YtcipokldcjappaaGreat
open Go.RowKit

theorem findI_range {ar : List Nd} (h : WFar ar) (h2 : 2 ≤ ar.length) (p : Pf) : -1 ≤ findI ar p ∧ findI ar p < ar.length := by
  unfold findI
  split
  · exact desc_range h _ _ (by unfold rootI; split <;> omega) (by unfold rootI; split <;> omega)
  · omega

/-- what a prefix has -/
def getA (ar : List Nd) (p : Pf) : Option Int := if findI ar p < 0 then none else match ar[(findI ar p).toNat]? with
  | some x => if x.ends then some x.v else none
  | none => none
/-- no kid on either side -/
def noKids (a b : Int) : Bool := decide (a = -1) && decide (b = -1)
/-- has its node kids? -/
def insideA (ar : List Nd) (p : Pf) : Bool := if findI ar p < 0 then false else match ar[(findI ar p).toNat]? with
  | some x => !noKids x.k0 x.k1
  | none => false

theorem find_cases {ar : List Nd} (h : WFar ar) (h2 : 2 ≤ ar.length) (p : Pf) : findI ar p = -1 ∨ ∃ (i : Nat) (x : Nd), findI ar p = (i : Int) ∧ ar[i]? = some x := by
  have hr := findI_range h h2 p
  by_cases hn : findI ar p = -1
  · exact .inl hn
  · refine .inr ⟨(findI ar p).toNat, ar[(findI ar p).toNat]'(by omega), by omega, List.getElem?_eq_getElem _⟩

set_option maxRecDepth 100000 in
set_option maxHeartbeats 2000000 in
theorem get_c (b : Nat) (hi lo : BitVec 64) (v : Bool) (n : Int) (A F : Value) (ar : List Nd) (fr : List Nat) (m : Int) (w : World) (hT : TrieAt w b A F ar fr m) :
    Calls Tryz.prog 62 #[.pointer (some ⟨b, 0, none⟩), .agg #[(.int .u64 (BitVec.toNat (hi) : Int)), (.int .u64 (BitVec.toNat (lo) : Int)), .bool v, (.int .i64 (n))]] w fun e w' => e = .returned (.tuple #[(.int .i64 ((getA ar ⟨⟨hi, lo, v⟩, n⟩).getD 0)), .bool (getA ar ⟨⟨hi, lo, v⟩, n⟩).isSome]) ∧ Ext w w' := by
  obtain ⟨g, cap, rfl, hcap, hmax, hg⟩ := hT.form
  have hlt := hT.head.lt
  unfold maxLen at hmax
  have a0 : w.cell? ⟨b, 0, none⟩ = some (.slice (some ⟨g, 0, none⟩) ar.length cap) := hT.head.cell 0
  have Hf := fun w' (h : Ext w w') => find_c b hi lo v n _ F ar fr m w' (hT.ext h)
  rcases find_cases hT.wf hT.two ⟨⟨hi, lo, v⟩, n⟩ with hn | ⟨i, x, hn, hx⟩
  · have hg' : getA ar ⟨⟨hi, lo, v⟩, n⟩ = none := by unfold getA; rw [if_pos (by omega)]
    rw [hg']
    rw [hn] at Hf
    have HF := Lib.hid Hf
    clear Hf hn hg' hT
    go_enter Tryz.func62, Tryz.ntmps62
    go_wp2_with (go_at_call 86; (with_reducible refine (HF.out _ ((Ext.refl w).alloc _)).mono ?_); rintro e w1 ⟨rfl, h1⟩; have c_h1 := h1.cell; have f_h1 := h1.frozen; have z_h1_0 := h1.lt (b := w.heap.size) (by first | omega | (simp <;> omega)))
    go_ret2
    refine ⟨rfl, ?_⟩
    (repeat (first | with_reducible exact Ext.refl _ | with_reducible assumption | (with_reducible refine Ext.set ?_ (by simp <;> omega) _) | (with_reducible refine Ext.alloc ?_ _) | (with_reducible refine Ext.drew ?_) | (with_reducible refine Ext.trans ?_ (by assumption)) | exact Ext.refl _))
  · have hg' : getA ar ⟨⟨hi, lo, v⟩, n⟩ = if x.ends then some x.v else none := by unfold getA; rw [if_neg (by omega), hn]; simp [hx]
    rw [hg']
    rw [hn] at Hf
    have HF := Lib.hid Hf
    have e3 : w.cell? ⟨g, i * 5 + 3, none⟩ = some (.bool x.ends) := hT.cell i x hx 3 (by omega)
    have e4 : w.cell? ⟨g, i * 5 + 4, none⟩ = some ((.int .i64 (x.v))) := hT.cell i x hx 4 (by omega)
    have hil : i < ar.length := (List.getElem?_eq_some_iff.1 hx).1
    have hne : (((i : Nat) : Int) == -1) = false := by simp
    clear Hf hn hg' hT hx
    cases he : x.ends <;> rw [he] at e3
    all_goals
      clear he
      go_enter Tryz.func62, Tryz.ntmps62
      go_wp2_with (go_at_call 86; (with_reducible refine (HF.out _ ((Ext.refl w).alloc _)).mono ?_); rintro e w1 ⟨rfl, h1⟩; have c_h1 := h1.cell; have f_h1 := h1.frozen; have z_h1_0 := h1.lt (b := w.heap.size) (by first | omega | (simp <;> omega)); have zb := h1.lt (b := b) (by first | omega | (simp <;> omega)); have zg := h1.lt (b := g) (by first | omega | (simp <;> omega)))
      go_ret2
      refine ⟨rfl, ?_⟩
      (repeat (first | with_reducible exact Ext.refl _ | with_reducible assumption | (with_reducible refine Ext.set ?_ (by simp <;> omega) _) | (with_reducible refine Ext.alloc ?_ _) | (with_reducible refine Ext.drew ?_) | (with_reducible refine Ext.trans ?_ (by assumption)) | exact Ext.refl _))

theorem cellsInt : Tryz.prog.cellsOf 3 = 1 := by kernel_rfl
theorem infoInt : (Tryz.prog.info? 3).isSome = true := by kernel_rfl
@[go_sem high] theorem neq_kids (x y : Int) (w : World) : (binOp .neq 161 (.agg #[(.int .i64 (x)), (.int .i64 (y))]) (.agg #[(.int .i64 (-1)), (.int .i64 (-1))])).run Tryz.prog w = .ok (.bool (!noKids x y)) w := by
  rw [run_neq_struct]
  obtain ⟨i, hi⟩ := Option.isSome_iff_exists.1 infoInt
  rw [Go.run_equalIn_array w 9999 _ _ Tryz.underlying161 hi, cellsInt]
  simp [Op.eqItems, List.range_succ, go_sem, noKids]
  (repeat' split) <;> simp_all

set_option maxRecDepth 100000 in
set_option maxHeartbeats 2000000 in
theorem insideT_c (b : Nat) (hi lo : BitVec 64) (v : Bool) (n : Int) (A F : Value) (ar : List Nd) (fr : List Nat) (m : Int) (w : World) (hT : TrieAt w b A F ar fr m) :
    Calls Tryz.prog 170 #[.pointer (some ⟨b, 0, none⟩), .agg #[(.int .u64 (BitVec.toNat (hi) : Int)), (.int .u64 (BitVec.toNat (lo) : Int)), .bool v, (.int .i64 (n))]] w fun e w' => e = .returned (.bool (insideA ar ⟨⟨hi, lo, v⟩, n⟩)) ∧ Ext w w' := by
  obtain ⟨g, cap, rfl, hcap, hmax, hg⟩ := hT.form
  have hlt := hT.head.lt
  unfold maxLen at hmax
  have a0 : w.cell? ⟨b, 0, none⟩ = some (.slice (some ⟨g, 0, none⟩) ar.length cap) := hT.head.cell 0
  have Hf := fun w' (h : Ext w w') => find_c b hi lo v n _ F ar fr m w' (hT.ext h)
  rcases find_cases hT.wf hT.two ⟨⟨hi, lo, v⟩, n⟩ with hn | ⟨i, x, hn, hx⟩
  · have hg' : insideA ar ⟨⟨hi, lo, v⟩, n⟩ = false := by unfold insideA; rw [if_pos (by omega)]
    rw [hg']
    rw [hn] at Hf
    have HF := Lib.hid Hf
    clear Hf hn hg' hT
    go_enter Tryz.func170, Tryz.ntmps170
    go_wp2_with (go_at_call 86; (with_reducible refine (HF.out _ ((Ext.refl w).alloc _)).mono ?_); rintro e w1 ⟨rfl, h1⟩; have c_h1 := h1.cell; have f_h1 := h1.frozen; have z_h1_0 := h1.lt (b := w.heap.size) (by first | omega | (simp <;> omega)))
    go_ret
    refine ⟨rfl, ?_⟩
    (repeat (first | with_reducible exact Ext.refl _ | with_reducible assumption | (with_reducible refine Ext.set ?_ (by simp <;> omega) _) | (with_reducible refine Ext.alloc ?_ _) | (with_reducible refine Ext.drew ?_) | (with_reducible refine Ext.trans ?_ (by assumption)) | exact Ext.refl _))
  · have hg' : insideA ar ⟨⟨hi, lo, v⟩, n⟩ = !noKids x.k0 x.k1 := by unfold insideA; rw [if_neg (by omega), hn]; simp [hx]
    rw [hg']
    rw [hn] at Hf
    have HF := Lib.hid Hf
    have e0 : w.cell? ⟨g, i * 5, none⟩ = some ((.int .i64 (x.k0))) := hT.cell i x hx 0 (by omega)
    have e1 : w.cell? ⟨g, i * 5 + 1, none⟩ = some ((.int .i64 (x.k1))) := hT.cell i x hx 1 (by omega)
    have hil : i < ar.length := (List.getElem?_eq_some_iff.1 hx).1
    have hne : (((i : Nat) : Int) != -1) = true := by simp
    clear Hf hn hg' hT hx
    go_enter Tryz.func170, Tryz.ntmps170
    go_wp2_with (go_at_call 86; (with_reducible refine (HF.out _ ((Ext.refl w).alloc _)).mono ?_); rintro e w1 ⟨rfl, h1⟩; have c_h1 := h1.cell; have f_h1 := h1.frozen; have z_h1_0 := h1.lt (b := w.heap.size) (by first | omega | (simp <;> omega)); have zb := h1.lt (b := b) (by first | omega | (simp <;> omega)); have zg := h1.lt (b := g) (by first | omega | (simp <;> omega)))
    go_ret
    refine ⟨rfl, ?_⟩
    (repeat (first | with_reducible exact Ext.refl _ | with_reducible assumption | (with_reducible refine Ext.set ?_ (by simp <;> omega) _) | (with_reducible refine Ext.alloc ?_ _) | (with_reducible refine Ext.drew ?_) | (with_reducible refine Ext.trans ?_ (by assumption)) | exact Ext.refl _))

set_option maxRecDepth 100000 in
set_option maxHeartbeats 2000000 in
theorem lenT_c (b : Nat) (A F : Value) (ar : List Nd) (fr : List Nat) (m : Int) (w : World) (hT : TrieAt w b A F ar fr m) :
    Calls Tryz.prog 85 #[.pointer (some ⟨b, 0, none⟩)] w fun e w' => e = .returned ((.int .i64 (m))) ∧ w = w' := by
  obtain ⟨g, cap, rfl, hcap, hmax, hg⟩ := hT.form
  have h2 := hT.two
  have hpos : 0 < ar.length := by omega
  have a0 : w.cell? ⟨b, 0, none⟩ = some (.slice (some ⟨g, 0, none⟩) ar.length cap) := hT.head.cell 0
  have a2 : w.cell? ⟨b, 2, none⟩ = some ((.int .i64 (m))) := hT.head.cell 2
  clear hT
  go_enter Tryz.func85, Tryz.ntmps85
  go_wp2_with (go_at_call 87; (with_reducible refine (made_c b g cap ar.length _ hpos (by go_simp)).mono ?_); rintro e w1 ⟨rfl, rfl⟩)
  go_ret
  exact ⟨rfl, rfl⟩

end Go.Proofs.YtcipokldcjappaaGreat

namespace Go.Proofs.YtcipokldcjappaaGreat
open Go.RowKit

def rtCells (r : Rt) : List Value := [(.int .u64 (BitVec.toNat (r.p.a.hi) : Int)), (.int .u64 (BitVec.toNat (r.p.a.lo) : Int)), .bool r.p.a.v6, (.int .i64 (r.p.n)), (.int .i64 (r.hop))]
def rtsCells (l : List Rt) : List Value := l.flatMap rtCells
theorem rtsCells_append (l : List Rt) (r : Rt) : rtsCells (l ++ [r]) = rtsCells l ++ rtCells r := by simp [rtsCells]
theorem rtsCells_length (l : List Rt) : (rtsCells l).length = l.length * 5 := by
  induction l with
  | nil => rfl
  | cons x l ih => simp [rtsCells, rtCells] at *; omega

theorem infoPair : (Tryz.prog.info? 212).map (fun i => (i.zero, i.size, i.bytes)) = some (some (.agg #[.int .u64 0, .int .u64 0, .bool false, .int .i64 0, .int .i64 0]), 5, 40) := by kernel_rfl

set_option maxRecDepth 100000 in
set_option maxHeartbeats 2000000 in
theorem aboveClo_no (b g cap i : Nat) (c2 c3 c4 : Nat) (k : Int) (F : Value) (x : Nd) (ar : List Nd) (fr : List Nat) (m : Int) (w : World) (hT : TrieAt w b (.slice (some ⟨g, 0, none⟩) ar.length cap) F ar fr m)
    (hx : ar[i]? = some x) (he : x.ends = false) (h2 : w.cell? ⟨c2, 0, none⟩ = some (.pointer (some ⟨b, 0, none⟩))) :
    Calls Tryz.prog 115 #[(.int .i64 ((i : Int))), (.int .i64 (k)), .pointer (some ⟨c2, 0, none⟩), .pointer (some ⟨c3, 0, none⟩), .pointer (some ⟨c4, 0, none⟩)] w fun e w' => e = .returned (.bool true) ∧ Ext w w' := by
  have hlt := hT.head.lt
  have hg : g < w.heap.size := own_lt hT.arena rfl
  have a0 : w.cell? ⟨b, 0, none⟩ = some (.slice (some ⟨g, 0, none⟩) ar.length cap) := hT.head.cell 0
  have e0 : w.cell? ⟨g, i * 5, none⟩ = some ((.int .i64 (x.k0))) := hT.cell i x hx 0 (by omega)
  have e1 : w.cell? ⟨g, i * 5 + 1, none⟩ = some ((.int .i64 (x.k1))) := hT.cell i x hx 1 (by omega)
  have e2 : w.cell? ⟨g, i * 5 + 2, none⟩ = some ((.int .i64 (x.up))) := hT.cell i x hx 2 (by omega)
  have e3 : w.cell? ⟨g, i * 5 + 3, none⟩ = some (.bool x.ends) := hT.cell i x hx 3 (by omega)
  have e4 : w.cell? ⟨g, i * 5 + 4, none⟩ = some ((.int .i64 (x.v))) := hT.cell i x hx 4 (by omega)
  have hil : i < ar.length := (List.getElem?_eq_some_iff.1 hx).1
  obtain ⟨_, _, _, _, hm, _⟩ := hT.form
  unfold maxLen at hm
  rw [he] at e3
  clear hT hx he
  go_enter Tryz.func115, Tryz.ntmps115
  go_wp2
  go_ret
  refine ⟨rfl, ?_⟩
  (repeat (first | with_reducible exact Ext.refl _ | with_reducible assumption | (with_reducible refine Ext.set ?_ (by simp <;> omega) _) | (with_reducible refine Ext.alloc ?_ _) | (with_reducible refine Ext.drew ?_) | (with_reducible refine Ext.trans ?_ (by assumption)) | exact Ext.refl _))

set_option maxRecDepth 100000 in
set_option maxHeartbeats 3000000 in
theorem aboveClo_yes (b g cap i : Nat) (c2 c3 c4 : Nat) (k : Int) (hi lo : BitVec 64) (v : Bool) (n : Int) (F o : Value) (x : Nd) (ar : List Nd) (fr : List Nat) (m : Int) (l : List Rt) (base : Nat) (w : World) (hT : TrieAt w b (.slice (some ⟨g, 0, none⟩) ar.length cap) F ar fr m)
    (hx : ar[i]? = some x) (he : x.ends = true) (h2 : w.cell? ⟨c2, 0, none⟩ = some (.pointer (some ⟨b, 0, none⟩))) (h3 : Blk w c3 183 #[o]) (ho : w.ownsRow base 212 5 o l.length (rtsCells l)) (hl : l.length ≤ 1000000) (hbase : base ≤ w.heap.size)
    (p0 : w.cell? ⟨c4, 0, none⟩ = some ((.int .u64 (BitVec.toNat (hi) : Int)))) (p1 : w.cell? ⟨c4, 1, none⟩ = some ((.int .u64 (BitVec.toNat (lo) : Int)))) (p2 : w.cell? ⟨c4, 2, none⟩ = some (.bool v)) :
    Calls Tryz.prog 115 #[(.int .i64 ((i : Int))), (.int .i64 (k)), .pointer (some ⟨c2, 0, none⟩), .pointer (some ⟨c3, 0, none⟩), .pointer (some ⟨c4, 0, none⟩)] w
      fun e w' => e = .returned (.bool true) ∧ ∃ o', Blk w' c3 183 #[o'] ∧ w'.ownsRow base 212 5 o' (l.length + 1) (rtsCells (l ++ [⟨ofP ⟨hi, lo, v⟩ k, x.v⟩])) ∧ Keep (fun j => j = c3 ∨ o.ownBlock = some j) w w' ∧ (o'.ownBlock = o.ownBlock ∨ ∃ q, o'.ownBlock = some q ∧ w.heap.size ≤ q) := by
  obtain ⟨i0, hi0, hz0, hz1, hz2⟩ := info_parts infoPair
  have hlt := hT.head.lt
  have hg : g < w.heap.size := own_lt hT.arena rfl
  have a0 : w.cell? ⟨b, 0, none⟩ = some (.slice (some ⟨g, 0, none⟩) ar.length cap) := hT.head.cell 0
  have e0 : w.cell? ⟨g, i * 5, none⟩ = some ((.int .i64 (x.k0))) := hT.cell i x hx 0 (by omega)
  have e1 : w.cell? ⟨g, i * 5 + 1, none⟩ = some ((.int .i64 (x.k1))) := hT.cell i x hx 1 (by omega)
  have e2 : w.cell? ⟨g, i * 5 + 2, none⟩ = some ((.int .i64 (x.up))) := hT.cell i x hx 2 (by omega)
  have e3 : w.cell? ⟨g, i * 5 + 3, none⟩ = some (.bool x.ends) := hT.cell i x hx 3 (by omega)
  have e4 : w.cell? ⟨g, i * 5 + 4, none⟩ = some ((.int .i64 (x.v))) := hT.cell i x hx 4 (by omega)
  have hil : i < ar.length := (List.getElem?_eq_some_iff.1 hx).1
  obtain ⟨_, _, _, _, hm, _⟩ := hT.form
  unfold maxLen at hm
  rw [he] at e3
  have l2 := World.block_lt_of_cell? w _ h2
  have l3 := h3.lt
  have l4 := World.block_lt_of_cell? w _ p0
  have o0 : w.cell? ⟨c3, 0, none⟩ = some o := h3.cell 0
  have of0 : w.frozen? ⟨c3, 0, none⟩ = false := h3.frozen 0
  have H3 := Lib.hid h3
  have HO := Lib.hid ho
  clear hT hx he h3 ho
  go_enter Tryz.func115, Tryz.ntmps115
  go_wp2_with fail
  refine region1 9 8 26 (fun u w' => ∃ q, w.heap.size ≤ q ∧ u = .slice (some ⟨q, 0, none⟩) 1 1 ∧ Blk w' q 212 (rtCells ⟨ofP ⟨hi, lo, v⟩ k, x.v⟩).toArray) (fun u w1 w2 ⟨q, h1, h2, h3⟩ hx => ⟨q, h1, h2, h3.ext hx⟩) rfl (by kernel_rfl) ?_
  dsimp only [List.take, List.drop]
  repeat ((first | (refine wpT_skip rfl rfl ?_) | (apply wpT_fix rfl rfl; focus (intro w1 hS; have c1 := hS.cell; have f1 := hS.frozen; have z1 := hS.size; go_simp; first | exact ⟨rfl, hS, Ext.refl _⟩ | (((with_reducible refine (ofP_c ..).mono ?_); rintro e w2 ⟨rfl, h2⟩; exact ⟨_, rfl, rfl, hS.trans h2, h2⟩)) | (exact ⟨⟨_, by simp at z1; omega, rfl, Blk.new _ _ _⟩, hS.alloc _, (Ext.refl _).alloc _⟩))) | (refine wpT_loose rfl rfl ?_ ?_; focus (intro w1 hS; have c1 := hS.cell; have f1 := hS.frozen; have z1 := hS.size; go_simp; first | (((with_reducible refine (ofP_c ..).mono ?_); rintro e w2 ⟨rfl, h2⟩; exact ⟨_, rfl, rfl, hS.trans h2, h2⟩)) | (exact ⟨⟨_, by simp at z1; omega, rfl, Blk.new _ _ _⟩, hS.alloc _, (Ext.refl _).alloc _⟩)))); try simp only [Act.put, List.setIfInBounds_toArray, List.set_cons_zero, List.set_cons_succ])
  refine wpT_nil ?_
  rintro - u w1 hS ⟨q, hq, rfl, hb⟩
  have hX : Ext w w1 := Ext.trans ((Ext.refl w).alloc _) hS
  simp only [Act.put, List.setIfInBounds_toArray, List.set_cons_zero, List.set_cons_succ]
  have ho1 := own_ext HO.out hX
  have hc1 := H3.out.ext hX
  refine wpList_app1 (.tmp 18) (.tmp 26) 183 212 rfl rfl Tryz.underlying183 5 40 _ infoPair rfl (by decide) base o l.length (rtsCells l) rfl ho1 q _ _ rfl hb rfl (by simp [rtCells, Value.oneCell']) (by omega) (by unfold maxLen; omega) (by have := hX.size; omega) (fun o' w2 h4 h5 h6 => ?_)
  have hc2 := hc1.keep h5 (own_ne ho1 hc1 (by decide))
  have o02 : w2.cell? ⟨c3, 0, none⟩ = some o := hc2.cell 0
  have of2 : w2.frozen? ⟨c3, 0, none⟩ = false := hc2.frozen 0
  simp only [Act.put, List.setIfInBounds_toArray, List.set_cons_zero, List.set_cons_succ]
  obtain ⟨g2, cp2, rfl, h7, h8, h9⟩ := (own_form h4).resolve_left (by omega)
  have H4 := Lib.hid h4
  have H5 := Lib.hid h5
  have HC := Lib.hid hc2
  have hne := own_ne h4 hc2 (by decide)
  clear h4 h5 hc2 hb ho1 hc1 H3 HO
  go_wp2
  go_ret
  refine ⟨rfl, _, HC.out.set 0 _, ?_, ?_, ?_⟩
  · rw [rtsCells_append]
    exact own_same H4.out fun g' hg' => Below.heap_setCell _ _ _ _ (fun e => hne (hg'.trans (congrArg some e)))
  · exact (((hX.keep _).trans' (S' := fun k => o.ownBlock = some k) H5.out (fun _ _ h => .inr h)).set (.inl (.inl rfl)) _)
  · rcases h6 with h6 | h6
    · exact .inl h6
    · exact .inr ⟨_, h6, hX.size⟩


/-- What the closure lays down at a node. -/
def aboveAt (p : Pf) (k : Int) (x : Nd) : List Rt := if x.ends then [⟨ofP p.a k, x.v⟩] else []
theorem aboveClo_c (b g cap i : Nat) (c2 c3 c4 : Nat) (k : Int) (hi lo : BitVec 64) (v : Bool) (n : Int) (F o : Value) (x : Nd) (ar : List Nd) (fr : List Nat) (m : Int) (l : List Rt) (base : Nat) (w : World) (hT : TrieAt w b (.slice (some ⟨g, 0, none⟩) ar.length cap) F ar fr m)
    (hx : ar[i]? = some x) (h2 : w.cell? ⟨c2, 0, none⟩ = some (.pointer (some ⟨b, 0, none⟩))) (h3 : Blk w c3 183 #[o]) (ho : w.ownsRow base 212 5 o l.length (rtsCells l)) (hl : l.length ≤ 1000000) (hbase : base ≤ w.heap.size)
    (p0 : w.cell? ⟨c4, 0, none⟩ = some ((.int .u64 (BitVec.toNat (hi) : Int)))) (p1 : w.cell? ⟨c4, 1, none⟩ = some ((.int .u64 (BitVec.toNat (lo) : Int)))) (p2 : w.cell? ⟨c4, 2, none⟩ = some (.bool v)) :
    Calls Tryz.prog 115 #[(.int .i64 ((i : Int))), (.int .i64 (k)), .pointer (some ⟨c2, 0, none⟩), .pointer (some ⟨c3, 0, none⟩), .pointer (some ⟨c4, 0, none⟩)] w
      fun e w' => e = .returned (.bool true) ∧ ∃ o', Blk w' c3 183 #[o'] ∧ w'.ownsRow base 212 5 o' (l ++ aboveAt ⟨⟨hi, lo, v⟩, n⟩ k x).length (rtsCells (l ++ aboveAt ⟨⟨hi, lo, v⟩, n⟩ k x)) ∧ Keep (fun j => j = c3 ∨ o.ownBlock = some j) w w' := by
  cases he : x.ends with
  | false =>
    refine (aboveClo_no b g cap i c2 c3 c4 k F x ar fr m w hT hx he h2).mono ?_
    rintro e w' ⟨rfl, hE⟩
    refine ⟨rfl, o, h3.ext hE, ?_, hE.keep _⟩
    simp only [aboveAt, he, Bool.false_eq_true, if_false, List.append_nil]
    exact own_ext ho hE
  | true =>
    refine (aboveClo_yes b g cap i c2 c3 c4 k hi lo v n F o x ar fr m l base w hT hx he h2 h3 ho hl hbase p0 p1 p2).mono ?_
    rintro e w' ⟨rfl, o', h4, h5, h6, _⟩
    refine ⟨rfl, o', h4, ?_, h6⟩
    simp only [aboveAt, he, if_true, List.length_append, List.length_singleton]
    exact h5

/-- What the walk down lays down by the nodes of the first k depths. -/
def upTo (ar : List Nd) (r : Int) (p : Pf) : Nat → List Rt
  | 0 => []
  | k + 1 => upTo ar r p k ++ (match ar[(desc ar r ((digs p).take k)).toNat]? with
    | some x => if 0 ≤ desc ar r ((digs p).take k) then aboveAt p (k : Int) x else []
    | none => [])
theorem upTo_length (ar : List Nd) (r : Int) (p : Pf) (k : Nat) : (upTo ar r p k).length ≤ k := by
  induction k with
  | zero => simp [upTo]
  | succ k ih =>
    simp only [upTo, List.length_append]
    split
    · split
      · unfold aboveAt; split <;> simp <;> omega
      · simp; omega
    · simp; omega
theorem upTo_none (ar : List Nd) (r : Int) (p : Pf) (k : Nat) (h : desc ar r ((digs p).take k) = -1) (j : Nat) : upTo ar r p (k + j) = upTo ar r p k := by
  induction j with
  | zero => rfl
  | succ j ih =>
    rw [← Nat.add_assoc]
    simp only [upTo]
    have : desc ar r ((digs p).take (k + j)) = -1 := by
      have e : ((digs p).take (k + j)).take k = (digs p).take k := by rw [List.take_take]; congr 1; omega
      exact desc_none k (by rw [e]; exact h)
    rw [this, ih]
    simp
    split <;> simp

set_option maxRecDepth 100000 in
set_option maxHeartbeats 4000000 in
theorem walkA_c (b c2 c3 c4 : Nat) (hi lo : BitVec 64) (v : Bool) (n : Int) (A F : Value) (ar : List Nd) (fr : List Nat) (m : Int) (w : World)
    (hT : TrieAt w b A F ar fr m) (hn0 : 0 ≤ n) (hn : n ≤ Wd v) (h2 : w.cell? ⟨c2, 0, none⟩ = some (.pointer (some ⟨b, 0, none⟩))) (h2' : c2 ≠ c3) (h3 : Blk w c3 183 #[.slice none 0 0])
    (h4 : Blk w c4 57 #[(.int .u64 (BitVec.toNat (hi) : Int)), (.int .u64 (BitVec.toNat (lo) : Int)), .bool v, (.int .i64 (n))]) (hF : ∀ g, F.ownBlock = some g → ¬ g = c3) :
    Calls Tryz.prog 112 #[.pointer (some ⟨b, 0, none⟩), .agg #[(.int .u64 (BitVec.toNat (hi) : Int)), (.int .u64 (BitVec.toNat (lo) : Int)), .bool v, (.int .i64 (n))], .func (.func 115) #[] #[.pointer (some ⟨c2, 0, none⟩), .pointer (some ⟨c3, 0, none⟩), .pointer (some ⟨c4, 0, none⟩)]] w
      fun e w' => e = .returned (.tuple #[]) ∧ Keep (fun k => k = c3) w w' ∧ ∃ o, Blk w' c3 183 #[o] ∧ w'.ownsRow w.heap.size 212 5 o (upTo ar (rootI v) ⟨⟨hi, lo, v⟩, n⟩ (n.toNat + 1)).length (rtsCells (upTo ar (rootI v) ⟨⟨hi, lo, v⟩, n⟩ (n.toNat + 1))) := by
  obtain ⟨g, cap, rfl, hcap, hmax, hg⟩ := hT.form
  have hW := (Wd_range v).2
  have hne3 : c3 ≠ b := Blk.ne h3 hT.head (by decide)
  have hneg : c3 ≠ g := fun e => own_blk_ne hT.arena h3 (by decide) (by rw [e]; rfl)
  have hne4 : c4 ≠ c3 := Blk.ne h4 h3 (by decide)
  have hlt3 := h3.lt
  have hlt4 := h4.lt
  have hltb := hT.head.lt
  have hlt2 : c2 < w.heap.size := World.block_lt_of_cell? w _ h2
  unfold maxLen at hmax
  have hroot : -1 ≤ rootI v ∧ rootI v < ar.length := by have := hT.two; unfold rootI; split <;> omega
  have HT := Lib.hid hT
  have H2 := Lib.hid h2
  have H4 := Lib.hid h4
  have H3 := Lib.hid h3
  clear hT h4 h3 h2
  go_enter Tryz.func112, Tryz.ntmps112
  go_wp2_with (go_at_call 88; (with_reducible refine (root_c _ _).mono ?_); rintro e w1 ⟨rfl, rfl⟩)
  go_loopw [6, 7] (fun at_ k wr => ∃ j : Nat, j ≤ n.toNat ∧ at_ = (.int .i64 (desc ar (rootI v) ((digs ⟨⟨hi, lo, v⟩, n⟩).take j))) ∧ k = (.int .i64 ((j : Int))) ∧ Keep (fun k => k = c3) w wr ∧ Blk wr w.heap.size 57 #[(.int .u64 (BitVec.toNat (hi) : Int)), (.int .u64 (BitVec.toNat (lo) : Int)), .bool v, (.int .i64 (n))]
    ∧ ∃ o, Blk wr c3 183 #[o] ∧ wr.ownsRow (w.heap.size + 1) 212 5 o (upTo ar (rootI v) ⟨⟨hi, lo, v⟩, n⟩ j).length (rtsCells (upTo ar (rootI v) ⟨⟨hi, lo, v⟩, n⟩ j))) (fun _ k _ => n.toNat - (intOf k).toNat)
  case atStart =>
    refine ⟨0, by omega, rfl, rfl, (Keep.refl _ _).alloc _, Blk.new _ _ _, _, H3.out.ext ((Ext.refl w).alloc _), ?_⟩
    exact ⟨rfl, .inl ⟨rfl, rfl⟩⟩
  case round =>
    obtain ⟨j, hj, rfl, rfl, hK, h4, o, h5, h6⟩ := hrel
    have hr := desc_range HT.out.wf ((digs ⟨⟨hi, lo, v⟩, n⟩).take j) _ hroot.1 hroot.2
    have hTr : TrieAt wr b (.slice (some ⟨g, 0, none⟩) ar.length cap) F ar fr m := HT.out.keep hK (fun e => hne3 e.symm) (fun g' hg' e => hneg (e.symm.trans (ownB hg').symm)) hF
    by_cases hneg1 : desc ar (rootI v) ((digs ⟨⟨hi, lo, v⟩, n⟩).take j) = -1
    · rw [hneg1]
      have hfin := upTo_none ar (rootI v) ⟨⟨hi, lo, v⟩, n⟩ j hneg1 (n.toNat + 1 - j)
      rw [show j + (n.toNat + 1 - j) = n.toNat + 1 by omega] at hfin
      rw [← hfin] at h6
      clear hTr hneg1 hr hfin
      have HK := Lib.hid hK
      have H5 := Lib.hid h5
      have H6 := Lib.hid h6
      clear hK h5 h6
      go_wp2
      go_end0
      exact ⟨rfl, HK.out, o, H5.out, own_base H6.out (by omega)⟩
    · obtain ⟨i, hi'⟩ : ∃ i : Nat, desc ar (rootI v) ((digs ⟨⟨hi, lo, v⟩, n⟩).take j) = (i : Int) := ⟨_, (Int.toNat_of_nonneg (by omega)).symm⟩
      have hil : i < ar.length := by omega
      obtain ⟨x, hx⟩ : ∃ x, ar[i]? = some x := ⟨_, List.getElem?_eq_getElem hil⟩
      have hup : upTo ar (rootI v) ⟨⟨hi, lo, v⟩, n⟩ (j + 1) = upTo ar (rootI v) ⟨⟨hi, lo, v⟩, n⟩ j ++ aboveAt ⟨⟨hi, lo, v⟩, n⟩ (j : Int) x := by
        simp only [upTo, hi', Int.toNat_natCast, hx, if_pos (Int.natCast_nonneg i)]
      have hlen := upTo_length ar (rootI v) ⟨⟨hi, lo, v⟩, n⟩ j
      rw [hi'] at hneg1 ⊢
      have h2r : wr.cell? ⟨c2, 0, none⟩ = some (.pointer (some ⟨b, 0, none⟩)) := (hK.cell (p := ⟨c2, 0, none⟩) hlt2 h2').trans H2.out
      have h4r := H4.out.keep hK hne4
      have hclo := aboveClo_c b g cap i c2 c3 c4 (j : Int) hi lo v n F o x ar fr m _ (w.heap.size + 1) wr hTr hx h2r h5 h6 (by omega) (by have := h4.lt; omega) (h4r.cell 0) (h4r.cell 1) (h4r.cell 2)
      rw [← hup] at hclo
      have hob : ∀ g, o.ownBlock = some g → w.heap.size + 1 ≤ g := fun g hg => own_base_le h6 hg
      have n4 : wr.cell? ⟨w.heap.size, 3, none⟩ = some ((.int .i64 (n))) := h4.cell 3
      have z4 := h4.lt
      have Hclo := Lib.hid hclo
      have HK := Lib.hid hK
      have Hup := Lib.hid hup
      have Hb := Lib.hid hob
      have H4' := Lib.hid h4
      have HTr := Lib.hid hTr
      have Hi := Lib.hid hi'
      have Hx := Lib.hid hx
      have hne1 : (((i : Nat) : Int) != -1) = true := by simp
      clear hclo hK hup hob h4 hTr hi' hx h2r h4r h5 h6 hneg1 hr hne4 h2'
      by_cases hjn : (j : Int) = n
      · have hlt : n ≤ (j : Int) := by omega
        have hjn' := Lib.hid (show j = n.toNat by omega)
        clear hjn
        go_wp2_with (go_at_call 115; (with_reducible refine Hclo.out.mono ?_); rintro e w1 ⟨rfl, o', h7, h8, h9⟩; have n5 : w1.cell? ⟨w.heap.size, 3, none⟩ = some ((.int .i64 (n))) := (H4'.out.keep h9 (fun hc => hc.elim (fun e => by omega) (fun e => by have := Hb.out _ e; omega))).cell 3; have H7 := Lib.hid h7; have H8 := Lib.hid h8; have H9 := Lib.hid h9; clear h7 h8 h9)
        go_end0
        have hjn2 := hjn'.out
        subst hjn2
        refine ⟨rfl, HK.out.trans' H9.out (fun k hk hc => hc.elim id (fun e => by have := Hb.out _ e; omega)), o', H7.out, own_base H8.out (by omega)⟩
      · have hlt : (j : Int) < n := by omega
        have b0 := fun (w1 : World) (hB : Blk w1 w.heap.size 57 #[(.int .u64 (BitVec.toNat (hi) : Int)), (.int .u64 (BitVec.toNat (lo) : Int)), .bool v, (.int .i64 (n))]) => hB.cell 0
        have hbit := fun w => bit_c hi lo v j w
        rw [bitOf_dig (p := ⟨⟨hi, lo, v⟩, n⟩) hn (by simp; omega)] at hbit
        have hnext := desc_next (p := ⟨⟨hi, lo, v⟩, n⟩) (j := j) (by simp; omega) Hi.out Hx.out
        cases hb : dig ⟨hi, lo, v⟩ j <;> rw [hb] at hbit hnext <;> simp only [b2i, Bool.false_eq_true, if_false, if_true] at hbit hnext
        all_goals
        have Hbit := Lib.hid hbit
        have Hnext := Lib.hid hnext
        have B0 := Lib.hid b0
        clear hbit hnext hb b0
        go_wp2_with (go_at_call 115; (with_reducible refine Hclo.out.mono ?_); rintro e w1 ⟨rfl, o', h7, h8, h9⟩; have hS := H4'.out.keep h9 (fun hc => hc.elim (fun e => by omega) (fun e => by have := Hb.out _ e; omega)); have c40 : w1.cell? ⟨w.heap.size, 0, none⟩ = some ((.int .u64 (BitVec.toNat (hi) : Int))) := hS.cell 0; have c41 : w1.cell? ⟨w.heap.size, 1, none⟩ = some ((.int .u64 (BitVec.toNat (lo) : Int))) := hS.cell 1; have c42 : w1.cell? ⟨w.heap.size, 2, none⟩ = some (.bool v) := hS.cell 2; have c43 : w1.cell? ⟨w.heap.size, 3, none⟩ = some ((.int .i64 (n))) := hS.cell 3; have z4 := hS.lt; have hK1 := HK.out.trans' h9 (fun k hk hc => hc.elim id (fun e => by have := Hb.out _ e; omega)); have hT1 : TrieAt w1 b (.slice (some ⟨g, 0, none⟩) ar.length cap) F ar fr m := HT.out.keep hK1 (fun e => hne3 e.symm) (fun g' hg' e => hneg (e.symm.trans (ownB hg').symm)) hF; have a0 : w1.cell? ⟨b, 0, none⟩ = some (.slice (some ⟨g, 0, none⟩) ar.length cap) := hT1.head.cell 0; have k0 : w1.cell? ⟨g, i * 5, none⟩ = some ((.int .i64 (x.k0))) := hT1.cell i x Hx.out 0 (by omega); have k1 : w1.cell? ⟨g, i * 5 + 1, none⟩ = some ((.int .i64 (x.k1))) := hT1.cell i x Hx.out 1 (by omega); have zb : b < w1.heap.size := hT1.head.lt; have zg : g < w1.heap.size := own_lt hT1.arena rfl; have HS := Lib.hid hS; have HT1 := Lib.hid hT1; have HK1 := Lib.hid hK1; have H7 := Lib.hid h7; have H8 := Lib.hid h8; have H9 := Lib.hid h9; clear h7 h8 h9 hS hT1 hK1)
        refine wp_region_ext 13 (by kernel_rfl) (by kernel_rfl) ?_
        dsimp only [List.take, List.drop]
        repeat (first | (apply hold_skip2 rfl; focus (first | (simp only [Act.put, List.setIfInBounds_toArray, List.set_cons_zero, List.set_cons_succ]; exact rfl) | (simp only [Act.put, List.setIfInBounds_toArray, List.set_cons_zero, List.set_cons_succ]) | exact rfl)) | (apply hold_cons2 rfl; (focus (intro w1 hS; have c1 := hS.cell; have f1 := hS.frozen; have z1 := hS.size; go_simp; first | exact rfl | exact ⟨rfl, hS⟩ | (go_at_call 89; (with_reducible refine (Hbit.out _).mono ?_); rintro e w2 ⟨rfl, h2⟩; exact ⟨rfl, hS.trans h2⟩))); (focus (first | (simp only [Act.put, List.setIfInBounds_toArray, List.set_cons_zero, List.set_cons_succ]; exact rfl) | (simp only [Act.put, List.setIfInBounds_toArray, List.set_cons_zero, List.set_cons_succ]) | exact rfl))))
        refine hold_nil ?_
        rintro w1 hE
        have c_hE := hE.cell
        have f_hE := hE.frozen
        have z_hE_0 := hE.lt (b := w.heap.size) (by first | omega | (simp <;> omega))
        go_wp2
        go_roundw
        case rel => exact ⟨j + 1, by omega, by rw [Hnext.out], by go_num, HK1.out.thenExt hE, HS.out.ext hE, o', H7.out.ext hE, own_ext H8.out hE⟩
        case measure => simp [intOf]; omega

end Go.Proofs.YtcipokldcjappaaGreat

namespace Go.Proofs.YtcipokldcjappaaGreat
open Go.RowKit

/-- those that cover a prefix, from the shortest -/
def aboveL (ar : List Nd) (p : Pf) : List Rt := if saneP p then upTo ar (rootI p.a.v6) p (p.n.toNat + 1) else []
theorem aboveL_length (ar : List Nd) (p : Pf) : (aboveL ar p).length ≤ 129 := by
  unfold aboveL
  split
  · rename_i h
    have h1 := saneP_range h
    have h2 := (Wd_range p.a.v6).2
    have h3 := upTo_length ar (rootI p.a.v6) p (p.n.toNat + 1)
    omega
  · simp

set_option maxRecDepth 100000 in
set_option maxHeartbeats 2000000 in
theorem above_c (b : Nat) (hi lo : BitVec 64) (v : Bool) (n : Int) (A F : Value) (ar : List Nd) (fr : List Nat) (m : Int) (w : World) (hT : TrieAt w b A F ar fr m) :
    Calls Tryz.prog 92 #[.pointer (some ⟨b, 0, none⟩), .agg #[(.int .u64 (BitVec.toNat (hi) : Int)), (.int .u64 (BitVec.toNat (lo) : Int)), .bool v, (.int .i64 (n))]] w
      fun e w' => ∃ o, e = .returned o ∧ Ext w w' ∧ w'.ownsRow w.heap.size 212 5 o (aboveL ar ⟨⟨hi, lo, v⟩, n⟩).length (rtsCells (aboveL ar ⟨⟨hi, lo, v⟩, n⟩)) := by
  obtain ⟨g, cap, rfl, hcap, hmax, hg⟩ := hT.form
  have hlt := hT.head.lt
  have h2 := hT.two
  have a0 : w.cell? ⟨b, 0, none⟩ = some (.slice (some ⟨g, 0, none⟩) ar.length cap) := hT.head.cell 0
  have hpos : 0 < ar.length := by omega
  have HT := Lib.hid hT
  have hs := fun w => saneP_c hi lo v n w
  clear hT
  unfold aboveL
  cases hsn : saneP ⟨⟨hi, lo, v⟩, n⟩ <;> rw [hsn] at hs <;> have Hs := Lib.hid hs <;> clear hs
  · simp only [Bool.false_eq_true, if_false]
    clear hsn
    go_enter Tryz.func92, Tryz.ntmps92
    go_wp2_with (first
      | (go_at_call 87; (with_reducible refine (made_c b g cap ar.length _ hpos (by go_simp)).mono ?_); rintro e w1 ⟨rfl, rfl⟩)
      | (go_at_call 59; (with_reducible refine (Hs.out _).mono ?_); rintro e w1 ⟨rfl, h1⟩; have c_h1 := h1.cell; have f_h1 := h1.frozen; have z_h1_0 := h1.lt (b := w.heap.size) (by first | omega | (simp <;> omega)); have z_h1_1 := h1.lt (b := w.heap.size + 1) (by first | omega | (simp <;> omega))))
    go_ret
    refine ⟨_, rfl, ?_, rfl, .inl ⟨rfl, rfl⟩⟩
    (repeat (first | with_reducible exact Ext.refl _ | with_reducible assumption | (with_reducible refine Ext.set ?_ (by simp <;> omega) _) | (with_reducible refine Ext.alloc ?_ _) | (with_reducible refine Ext.drew ?_) | (with_reducible refine Ext.trans ?_ (by assumption)) | exact Ext.refl _))
  · simp only [if_true]
    have hr := saneP_range hsn
    have Hr := Lib.hid hr
    clear hsn hr
    go_enter Tryz.func92, Tryz.ntmps92
    go_wp2_with (first
      | (go_at_call 87; (with_reducible refine (made_c b g cap ar.length _ hpos (by go_simp)).mono ?_); rintro e w1 ⟨rfl, rfl⟩)
      | (go_at_call 59; (with_reducible refine (Hs.out _).mono ?_); rintro e w1 ⟨rfl, h1⟩; have c_h1 := h1.cell; have f_h1 := h1.frozen; have z_h1_0 := h1.lt (b := w.heap.size) (by first | omega | (simp <;> omega)); have z_h1_1 := h1.lt (b := w.heap.size + 1) (by first | omega | (simp <;> omega))))
    have hE : Ext w w1 := by (repeat (first | with_reducible exact Ext.refl _ | with_reducible assumption | (with_reducible refine Ext.set ?_ (by simp <;> omega) _) | (with_reducible refine Ext.alloc ?_ _) | (with_reducible refine Ext.drew ?_) | (with_reducible refine Ext.trans ?_ (by assumption)) | exact Ext.refl _))
    have z1 := h1.size
    have hw2 : w.heap.size + 2 ≤ w1.heap.size := by simp at z1; omega
    have h4 : Blk w1 (w.heap.size + 1) 57 #[(.int .u64 (BitVec.toNat (hi) : Int)), (.int .u64 (BitVec.toNat (lo) : Int)), .bool v, (.int .i64 (n))] := by
      have e : w1.heap[w.heap.size + 1]? = ((w.alloc (.cells #[.pointer (some ⟨b, 0, none⟩)] 126)).alloc (.cells #[(.int .u64 (BitVec.toNat (hi) : Int)), (.int .u64 (BitVec.toNat (lo) : Int)), .bool v, (.int .i64 (n))] 57)).heap[w.heap.size + 1]? := h1.block _ (by simp)
      unfold Blk
      rw [e]
      simpa using heap_alloc_new (w.alloc (.cells #[.pointer (some ⟨b, 0, none⟩)] 126)) (.cells #[(.int .u64 (BitVec.toNat (hi) : Int)), (.int .u64 (BitVec.toNat (lo) : Int)), .bool v, (.int .i64 (n))] 57)
    have h5 : w1.cell? ⟨w.heap.size, 0, none⟩ = some (.pointer (some ⟨b, 0, none⟩)) := by go_simp
    have hx2 : Ext w1 (w1.alloc (.cells #[.slice none 0 0] 183)) := (Ext.refl _).alloc _
    have Hwalk := Lib.hid (walkA_c b w.heap.size w1.heap.size (w.heap.size + 1) hi lo v n _ F ar fr m _ ((HT.out.ext hE).ext hx2) Hr.out.1 Hr.out.2 ((hx2.cell _ _ (by omega)).trans h5) (by omega) (Blk.new _ _ _) (h4.ext hx2) (fun g' hg' e => by have := own_lt HT.out.free hg'; omega))
    have HE := Lib.hid (hE.trans hx2)
    clear h4 h5 hx2 hE
    go_wp2_with (go_at_call 112; (with_reducible refine Hwalk.out.mono ?_); rintro e w2 ⟨rfl, hK, o, hB, hO⟩; have c5 : w2.cell? ⟨w1.heap.size, 0, none⟩ = _ := hB.cell 0; have HK := Lib.hid hK; have HO := Lib.hid hO; clear hK hB hO)
    go_ret
    have hz := HE.out.size
    refine ⟨_, rfl, (HE.out.keep (fun k => k = w1.heap.size)).trans HK.out |>.ext (fun k hk e => by omega), own_base HO.out hz⟩

end Go.Proofs.YtcipokldcjappaaGreat

namespace Go.Proofs.YtcipokldcjappaaGreat
open Go.RowKit

theorem rtsCells_get (l : List Rt) (i : Nat) (r : Rt) (h : l[i]? = some r) (j : Nat) (hj : j < 5) : (rtsCells l)[i * 5 + j]? = (rtCells r)[j]? := by
  induction l generalizing i with
  | nil => simp at h
  | cons y l ih =>
    have e : rtsCells (y :: l) = rtCells y ++ rtsCells l := by simp [rtsCells]
    rw [e]
    cases i with
    | zero =>
      simp at h; subst h
      rw [List.getElem?_append_left (by simp [rtCells]; omega)]; simp
    | succ i =>
      simp at h
      rw [List.getElem?_append_right (by simp [rtCells]; omega), ← ih i h]
      congr 1; simp [rtCells]; omega
theorem rts_cell {w : World} {base g cap n : Nat} {l : List Rt} (h : w.ownsRow base 212 5 (.slice (some ⟨g, 0, none⟩) n cap) n (rtsCells l)) (i : Nat) (r : Rt) (hr : l[i]? = some r) (j : Nat) (hj : j < 5) :
    w.cell? ⟨g, i * 5 + j, none⟩ = (rtCells r)[j]? := by
  have h1 := rtsCells_get l i r hr j hj
  cases hc : (rtCells r)[j]? with
  | none => simp [rtCells] at hc; omega
  | some u => exact own_cell h _ u (h1.trans hc)

def rt0 : Rt := ⟨⟨⟨0, 0, false⟩, 0⟩, 0⟩
/-- the longest of some, and whether there is one -/
def lastOf (l : List Rt) : Rt := l.getLast?.getD rt0
def wholeP (a : Ad) : Pf := ofP a (Wd a.v6)

set_option maxRecDepth 100000 in
set_option maxHeartbeats 2000000 in
theorem longest_c (b : Nat) (hi lo : BitVec 64) (v : Bool) (A F : Value) (ar : List Nd) (fr : List Nat) (m : Int) (w : World) (hT : TrieAt w b A F ar fr m) :
    Calls Tryz.prog 140 #[.pointer (some ⟨b, 0, none⟩), .agg #[(.int .u64 (BitVec.toNat (hi) : Int)), (.int .u64 (BitVec.toNat (lo) : Int)), .bool v]] w
      fun e w' => e = .returned (.tuple #[(.agg #[.int .u64 ((lastOf (aboveL ar (wholeP ⟨hi, lo, v⟩))).p.a.hi.toNat : Int), .int .u64 ((lastOf (aboveL ar (wholeP ⟨hi, lo, v⟩))).p.a.lo.toNat : Int), .bool (lastOf (aboveL ar (wholeP ⟨hi, lo, v⟩))).p.a.v6, .int .i64 (lastOf (aboveL ar (wholeP ⟨hi, lo, v⟩))).p.n, .int .i64 (lastOf (aboveL ar (wholeP ⟨hi, lo, v⟩))).hop]), .bool (!(aboveL ar (wholeP ⟨hi, lo, v⟩)).isEmpty)]) ∧ Ext w w' := by
  have Hab := Lib.hid (fun w1 (hx : Ext w w1) hi lo v n => above_c b hi lo v n A F ar fr m w1 (hT.ext hx))
  have hlt := hT.head.lt
  clear hT
  go_enter Tryz.func140, Tryz.ntmps140
  go_wp2_with fail
  refine region1 7 6 13 (fun u w' => w'.ownsRow w.heap.size 212 5 u (aboveL ar (wholeP ⟨hi, lo, v⟩)).length (rtsCells (aboveL ar (wholeP ⟨hi, lo, v⟩)))) (fun _ _ _ h hx => own_ext h hx) rfl (by kernel_rfl) ?_
  dsimp only [List.take, List.drop]
  repeat ((first | (refine wpT_skip rfl rfl ?_) | (apply wpT_fix rfl rfl; focus (intro w1 hS; have c1 := hS.cell; have f1 := hS.frozen; have z1 := hS.size; go_simp; first | exact ⟨rfl, hS, Ext.refl _⟩ | (((with_reducible refine (width_c ..).mono ?_); rintro e w2 ⟨rfl, rfl⟩; exact ⟨_, rfl, rfl, hS, Ext.refl _⟩)) | (((with_reducible refine (ofP_c ..).mono ?_); rintro e w2 ⟨rfl, h2⟩; exact ⟨_, rfl, rfl, hS.trans h2, h2⟩)) | (((with_reducible refine (Hab.out _ (((Ext.refl w).alloc _).alloc _ |>.trans hS) ..).mono ?_); rintro e w2 ⟨o, rfl, h2, h3⟩; exact ⟨_, rfl, own_base h3 (by have := (((Ext.refl w).alloc _).alloc _ |>.trans hS).size; exact this), hS.trans h2, h2⟩)))) | (refine wpT_loose rfl rfl ?_ ?_; focus (intro w1 hS; have c1 := hS.cell; have f1 := hS.frozen; have z1 := hS.size; go_simp; first | (((with_reducible refine (width_c ..).mono ?_); rintro e w2 ⟨rfl, rfl⟩; exact ⟨_, rfl, rfl, hS, Ext.refl _⟩)) | (((with_reducible refine (ofP_c ..).mono ?_); rintro e w2 ⟨rfl, h2⟩; exact ⟨_, rfl, rfl, hS.trans h2, h2⟩)) | (((with_reducible refine (Hab.out _ (((Ext.refl w).alloc _).alloc _ |>.trans hS) ..).mono ?_); rintro e w2 ⟨o, rfl, h2, h3⟩; exact ⟨_, rfl, own_base h3 (by have := (((Ext.refl w).alloc _).alloc _ |>.trans hS).size; exact this), hS.trans h2, h2⟩))))); try simp only [Act.put, List.setIfInBounds_toArray, List.set_cons_zero, List.set_cons_succ])
  refine wpT_nil ?_
  rintro - u w1 hS hO
  have hE : Ext w w1 := ((Ext.refl w).alloc _).alloc _ |>.trans hS
  have c1 := hS.cell
  have f1 := hS.frozen
  have z1 := hS.size
  have z2 : w.heap.size + 1 < w1.heap.size := by simp at z1; omega
  clear z1
  simp only [Act.put, List.setIfInBounds_toArray, List.set_cons_zero, List.set_cons_succ]
  generalize hl : aboveL ar (wholeP ⟨hi, lo, v⟩) = l at *
  have hlen : l.length ≤ 129 := by rw [← hl]; exact aboveL_length ar _
  clear Hab
  have HE := Lib.hid hE
  have Hhl := Lib.hid hl
  clear hE hl
  rcases own_form hO with ⟨rfl, h0⟩ | ⟨g, cap, rfl, hcap, hmax, hg⟩
  · obtain rfl : l = [] := List.eq_nil_of_length_eq_zero h0
    clear hO h0
    go_wp2
    refine bodyPost_ret (v := .tuple #[(.agg #[.int .u64 ((rt0).p.a.hi.toNat : Int), .int .u64 ((rt0).p.a.lo.toNat : Int), .bool (rt0).p.a.v6, .int .i64 (rt0).p.n, .int .i64 (rt0).hop]), .bool false]) (by simp [results, Tryz.results140, go_sem, rt0, *]) rfl ⟨by rw [Hhl.out]; rfl, ?_⟩
    have := HE.out
    (repeat (first | with_reducible exact Ext.refl _ | with_reducible assumption | (with_reducible refine Ext.set ?_ (by simp <;> omega) _) | (with_reducible refine Ext.alloc ?_ _) | (with_reducible refine Ext.drew ?_) | (with_reducible refine Ext.trans ?_ (by assumption)) | exact Ext.refl _))
  · by_cases h0 : l = []
    · subst h0
      clear hO
      go_wp2
      refine bodyPost_ret (v := .tuple #[(.agg #[.int .u64 ((rt0).p.a.hi.toNat : Int), .int .u64 ((rt0).p.a.lo.toNat : Int), .bool (rt0).p.a.v6, .int .i64 (rt0).p.n, .int .i64 (rt0).hop]), .bool false]) (by simp [results, Tryz.results140, go_sem, rt0, *]) rfl ⟨by rw [Hhl.out]; rfl, ?_⟩
      have := HE.out
      (repeat (first | with_reducible exact Ext.refl _ | with_reducible assumption | (with_reducible refine Ext.set ?_ (by simp <;> omega) _) | (with_reducible refine Ext.alloc ?_ _) | (with_reducible refine Ext.drew ?_) | (with_reducible refine Ext.trans ?_ (by assumption)) | exact Ext.refl _))
    · have hpos : 0 < l.length := List.length_pos_iff.2 h0
      obtain ⟨r, hr⟩ : ∃ r, l[l.length - 1]? = some r := ⟨_, List.getElem?_eq_getElem (by omega)⟩
      have hlast : lastOf l = r := by unfold lastOf; rw [List.getLast?_eq_getElem?, hr]; rfl
      have hemp : l.isEmpty = false := by cases l <;> simp at h0 ⊢
      have e0 : w1.cell? ⟨g, (l.length - 1) * 5, none⟩ = some ((.int .u64 (BitVec.toNat (r.p.a.hi) : Int))) := rts_cell hO _ r hr 0 (by omega)
      have e1 : w1.cell? ⟨g, (l.length - 1) * 5 + 1, none⟩ = some ((.int .u64 (BitVec.toNat (r.p.a.lo) : Int))) := rts_cell hO _ r hr 1 (by omega)
      have e2 : w1.cell? ⟨g, (l.length - 1) * 5 + 2, none⟩ = some (.bool r.p.a.v6) := rts_cell hO _ r hr 2 (by omega)
      have e3 : w1.cell? ⟨g, (l.length - 1) * 5 + 3, none⟩ = some ((.int .i64 (r.p.n))) := rts_cell hO _ r hr 3 (by omega)
      have e4 : w1.cell? ⟨g, (l.length - 1) * 5 + 4, none⟩ = some ((.int .i64 (r.hop))) := rts_cell hO _ r hr 4 (by omega)
      have Hl := Lib.hid hlast
      have Hm := Lib.hid hemp
      clear hO hr hlast hemp h0
      obtain ⟨k, hk⟩ : ∃ k, l.length = k + 1 := ⟨l.length - 1, by omega⟩
      rw [hk] at e0 e1 e2 e3 e4 hlen hcap ⊢
      simp only [Nat.add_sub_cancel] at e0 e1 e2 e3 e4
      clear hk hpos
      go_wp2
      refine bodyPost_ret (v := .tuple #[(.agg #[.int .u64 ((r).p.a.hi.toNat : Int), .int .u64 ((r).p.a.lo.toNat : Int), .bool (r).p.a.v6, .int .i64 (r).p.n, .int .i64 (r).hop]), .bool true]) (by simp [results, Tryz.results140, go_sem, *]) rfl ⟨by rw [Hhl.out, Hl.out, Hm.out]; rfl, ?_⟩
      have := HE.out
      (repeat (first | with_reducible exact Ext.refl _ | with_reducible assumption | (with_reducible refine Ext.set ?_ (by simp <;> omega) _) | (with_reducible refine Ext.alloc ?_ _) | (with_reducible refine Ext.drew ?_) | (with_reducible refine Ext.trans ?_ (by assumption)) | exact Ext.refl _))
end Go.Proofs.YtcipokldcjappaaGreat

namespace Go.Proofs.YtcipokldcjappaaGreat

/-- the raw digit j of an address, j below 128 -/
def D (a : Ad) (j : Nat) : Bool := if j < 64 then a.hi.getMsbD j else a.lo.getMsbD (j - 64)

theorem hiW_msb (n : Int) (i : Nat) (hi : i < 64) : (hiW n).getMsbD i = decide ((i : Int) < n ∨ 64 ≤ n) := by
  unfold hiW
  rw [BitVec.getMsbD_shiftLeft, BitVec.getMsbD_allOnes]
  rw [decide_eq_decide]
  omega
theorem onesW_msb (k a b : Int) (i : Nat) (hi : i < 64) : (onesW k a b).getMsbD i = decide ((k + i < b) ∧ ¬ (k + i < a)) := by
  unfold onesW wAndN
  rw [BitVec.getMsbD_and, BitVec.getMsbD_not, hiW_msb _ _ hi, hiW_msb _ _ hi]
  simp only [hi, decide_true, Bool.true_and]
  rw [← decide_not, ← Bool.decide_and, decide_eq_decide]
  omega
theorem rd_v6 (a : Ad) : (rd a).v6 = a.v6 := rfl
theorem D_rd (a : Ad) (j : Nat) (hj : j < 128) : D (rd a) j = (D a j && decide ((j : Int) < Wd a.v6)) := by
  unfold D rd rdHi rdLo wAnd
  have := Wd_range a.v6
  split
  · rename_i h
    simp only [BitVec.getMsbD_and, onesW_msb _ _ _ _ h]
    congr 1
    rw [decide_eq_decide]; omega
  · rename_i h
    simp only [BitVec.getMsbD_and, onesW_msb _ _ _ (j - 64) (by omega)]
    congr 1
    rw [decide_eq_decide]; omega
theorem dig_D (a : Ad) (j : Nat) (hj : j < 128) : dig a j = (D a j && decide ((j : Int) < Wd a.v6)) := by
  rw [← D_rd a j hj]; rfl
theorem D_mask (a : Ad) (n : Int) (j : Nat) (hj : j < 128) : D (maskA a n) j = (D a j && decide ((j : Int) < cut a.v6 n)) := by
  unfold D maskA rdHi rdLo wAnd wAndN
  have := Wd_range a.v6
  have hc := cut_range a.v6 n
  have hc2 : cut a.v6 n ≤ Wd a.v6 := by unfold cut; omega
  split
  · rename_i h
    simp only [BitVec.getMsbD_and, BitVec.getMsbD_not, onesW_msb _ _ _ _ h, h, decide_true, Bool.true_and, Bool.and_assoc]
    congr 1
    rw [← decide_not, ← Bool.decide_and, decide_eq_decide]; omega
  · rename_i h
    have h' : j - 64 < 64 := by omega
    simp only [BitVec.getMsbD_and, BitVec.getMsbD_not, onesW_msb _ _ _ (j - 64) h', h', decide_true, Bool.true_and, Bool.and_assoc]
    congr 1
    rw [← decide_not, ← Bool.decide_and, decide_eq_decide]; omega
theorem ad_ext {a b : Ad} (hv : a.v6 = b.v6) (h : ∀ j, j < 128 → D a j = D b j) : a = b := by
  obtain ⟨ah, al, av⟩ := a
  obtain ⟨bh, bl, bv⟩ := b
  simp only at hv
  subst hv
  have h1 : ah = bh := by
    apply BitVec.eq_of_getMsbD_eq
    intro i hi
    have := h i (by omega)
    simpa [D, hi] using this
  have h2 : al = bl := by
    apply BitVec.eq_of_getMsbD_eq
    intro i hi
    have := h (64 + i) (by omega)
    have e : ¬ (64 + i < 64) := by omega
    simpa only [D, e, if_false, Nat.add_sub_cancel_left] using this
  rw [h1, h2]
theorem pf_ext {p q : Pf} (h1 : p.a = q.a) (h2 : p.n = q.n) : p = q := by cases p; cases q; simp_all

theorem saneA_iff (a : Ad) : saneA a = true ↔ ∀ j : Nat, j < 128 → Wd a.v6 ≤ (j : Int) → D a j = false := by
  unfold saneA
  rw [adEq_iff]
  constructor
  · intro h j hj hw
    rw [← h, D_rd a j hj]
    simp; omega
  · intro h
    refine ad_ext rfl fun j hj => ?_
    rw [D_rd a j hj]
    by_cases hw : (j : Int) < Wd a.v6
    · simp [hw]
    · rw [h j hj (by omega)]; rfl
theorem ofP_n (a : Ad) (n : Int) : (ofP a n).n = cut a.v6 n := rfl
theorem ofP_v6 (a : Ad) (n : Int) : (ofP a n).a.v6 = a.v6 := rfl
theorem cut_cut (v : Bool) (n : Int) : cut v (cut v n) = cut v n := by unfold cut; have := Wd_range v; omega
theorem D_ofP (a : Ad) (n : Int) (j : Nat) (hj : j < 128) : D (ofP a n).a j = (D a j && decide ((j : Int) < cut a.v6 n)) := (D_mask a (cut a.v6 n) j hj).trans (by rw [cut_cut])
theorem cut_eq {v : Bool} {n : Int} (h : 0 ≤ n) (h2 : n ≤ Wd v) : cut v n = n := by unfold cut; omega

theorem saneP_iff (p : Pf) : saneP p = true ↔ 0 ≤ p.n ∧ p.n ≤ Wd p.a.v6 ∧ ∀ j : Nat, j < 128 → p.n ≤ (j : Int) → D p.a j = false := by
  constructor
  · intro h
    have hr := saneP_range h
    refine ⟨hr.1, hr.2, fun j hj hn => ?_⟩
    unfold saneP at h
    rw [pfEq_iff] at h
    have := congrArg Pf.a h
    rw [this, D_ofP _ _ j hj, cut_eq hr.1 hr.2]
    simp; omega
  · rintro ⟨h1, h2, h3⟩
    unfold saneP
    rw [pfEq_iff]
    refine pf_ext (ad_ext rfl fun j hj => ?_) (cut_eq h1 h2).symm
    rw [D_ofP _ _ j hj, cut_eq h1 h2]
    by_cases hw : (j : Int) < p.n
    · simp [hw]
    · rw [h3 j hj (by omega)]; rfl
theorem saneP_ofP (a : Ad) (n : Int) : saneP (ofP a n) = true := by
  rw [saneP_iff]
  have := cut_range a.v6 n
  refine ⟨this.1, by rw [ofP_n, ofP_v6]; unfold cut; have := Wd_range a.v6; omega, fun j hj hn => ?_⟩
  rw [D_ofP _ _ j hj]
  rw [ofP_n] at hn
  simp; omega
/-- Two sane prefixes with the same kind, length and digits are one. -/
theorem saneP_ext {p q : Pf} (hp : saneP p = true) (hq : saneP q = true) (hv : p.a.v6 = q.a.v6) (hn : p.n = q.n) (h : ∀ j : Nat, (j : Int) < p.n → D p.a j = D q.a j) : p = q := by
  rw [saneP_iff] at hp hq
  refine pf_ext (ad_ext hv fun j hj => ?_) hn
  by_cases hw : (j : Int) < p.n
  · exact h j hw
  · rw [hp.2.2 j hj (by omega), hq.2.2 j hj (by omega)]

theorem oneW_msb (k i : Nat) (hk : k < 64) (hi : i < 64) : (oneW (63 - k)).getMsbD i = decide (i = k) := by
  unfold oneW
  rw [BitVec.getMsbD_eq_getLsbD, BitVec.getLsbD_shiftLeft]
  simp only [BitVec.getLsbD_one]
  by_cases h : i = k
  · subst h; simp; omega
  · simp [hi, h]; omega
theorem setW_msb (x : BitVec 64) (k : Nat) (b : Bool) (i : Nat) (hk : k < 64) (hi : i < 64) : (setW x k b).getMsbD i = if i = k then b else x.getMsbD i := by
  unfold setW wOr wAndN
  cases b
  · simp only [Bool.false_eq_true, if_false, BitVec.getMsbD_and, BitVec.getMsbD_not, oneW_msb k i hk hi, hi, decide_true, Bool.true_and]
    by_cases h : i = k <;> simp [h]
  · simp only [if_true, BitVec.getMsbD_or, BitVec.getMsbD_and, BitVec.getMsbD_not, oneW_msb k i hk hi, hi, decide_true, Bool.true_and]
    by_cases h : i = k <;> simp [h]
theorem D_set (a : Ad) (k : Nat) (b : Bool) (j : Nat) (hk : k < 128) (hj : j < 128) : D (setD a k b) j = if j = k then b else dig a j := by
  unfold setD
  have hd : dig a j = D (rd a) j := rfl
  rw [hd]
  by_cases hk64 : k < 64
  · rw [if_pos hk64]
    unfold D rd
    by_cases hj64 : j < 64
    · simp only [hj64, if_true]; rw [setW_msb _ k b j hk64 hj64]
    · simp only [hj64, if_false]; rw [if_neg (by omega)]
  · rw [if_neg hk64]
    unfold D rd
    by_cases hj64 : j < 64
    · simp only [hj64, if_true]; rw [if_neg (by omega)]
    · simp only [hj64, if_false]; rw [setW_msb _ (k - 64) b (j - 64) (by omega) (by omega)]
      by_cases h : j = k
      · subst h; simp
      · rw [if_neg (by omega), if_neg h]
theorem setD_v6 (a : Ad) (k : Nat) (b : Bool) : (setD a k b).v6 = a.v6 := by unfold setD; split <;> rfl
theorem saneP_child {p : Pf} (h : saneP p = true) (hn : p.n < Wd p.a.v6) (b : Bool) : saneP (childP p b) = true := by
  rw [saneP_iff] at h ⊢
  have hw := (Wd_range p.a.v6).2
  refine ⟨by simp only [childP]; omega, by simp only [childP, setD_v6]; omega, fun j hj hnj => ?_⟩
  simp only [childP] at hnj ⊢
  rw [D_set _ _ _ _ (by omega) hj, if_neg (by omega), dig_D _ _ hj, h.2.2 j hj (by omega)]
  rfl
theorem D_child {p : Pf} (h : saneP p = true) (hn : p.n < Wd p.a.v6) (b : Bool) (j : Nat) (hj : (j : Int) ≤ p.n) : D (childP p b).a j = if (j : Int) = p.n then b else D p.a j := by
  have hw := (Wd_range p.a.v6).2
  have h1 := saneP_range h
  simp only [childP]
  rw [D_set _ _ _ _ (by omega) (by omega)]
  by_cases hjn : (j : Int) = p.n
  · rw [if_pos (by omega), if_pos hjn]
  · rw [if_neg (by omega), if_neg hjn, dig_D _ _ (by omega)]
    have : (j : Int) < Wd p.a.v6 := by omega
    simp [this]

end Go.Proofs.YtcipokldcjappaaGreat

namespace Go.Proofs.YtcipokldcjappaaGreat
open Go.RowKit

structure Pl where
  i : Int
  p : Pf
def plCells (x : Pl) : List Value := [(.int .i64 (x.i)), (.int .u64 (BitVec.toNat (x.p.a.hi) : Int)), (.int .u64 (BitVec.toNat (x.p.a.lo) : Int)), .bool x.p.a.v6, (.int .i64 (x.p.n))]
def plsCells (l : List Pl) : List Value := l.flatMap plCells
theorem plsCells_append (l : List Pl) (r : Pl) : plsCells (l ++ [r]) = plsCells l ++ plCells r := by simp [plsCells]
theorem plsCells_length (l : List Pl) : (plsCells l).length = l.length * 5 := by
  induction l with
  | nil => rfl
  | cons x l ih => simp [plsCells, plCells] at *; omega
theorem placeInfo : (Tryz.prog.info? 215).map (fun i => (i.zero, i.size, i.bytes)) = some (some (.agg #[.int .i64 0, .int .u64 0, .int .u64 0, .bool false, .int .i64 0]), 5, 40) := by kernel_rfl

def underAt (ar : List Nd) : Nat → Int → Pf → List Rt
  | 0, i, p => if i < 0 then [] else match ar[i.toNat]? with
    | some x => if x.ends then [⟨p, x.v⟩] else []
    | none => []
  | d + 1, i, p => if i < 0 then [] else match ar[i.toNat]? with
    | some x => (if x.ends then [⟨p, x.v⟩] else []) ++ (underAt ar d x.k0 (childP p false) ++ underAt ar d x.k1 (childP p true))
    | none => []
def sizeAt (ar : List Nd) : Nat → Int → Nat
  | 0, i => if i < 0 then 0 else 1
  | d + 1, i => if i < 0 then 0 else match ar[i.toNat]? with
    | some x => 1 + (sizeAt ar d x.k0 + sizeAt ar d x.k1)
    | none => 1
/-- all that a prefix covers -/
def depthP (p : Pf) : Nat := (Wd p.a.v6 - p.n).toNat
def underL (ar : List Nd) (p : Pf) : List Rt := underAt ar (depthP p) (findI ar p) p
def sizeL (ar : List Nd) (p : Pf) : Nat := sizeAt ar (depthP p) (findI ar p)

def stackOut (ar : List Nd) (L : List Pl) : List Rt := L.reverse.flatMap fun x => underAt ar (depthP x.p) x.i x.p
def stackSize (ar : List Nd) (L : List Pl) : Nat := (L.map fun x => sizeAt ar (depthP x.p) x.i).sum
def okPl (ar : List Nd) (x : Pl) : Prop := 0 ≤ x.i ∧ x.i < ar.length ∧ saneP x.p = true
theorem sizeAt_pos (ar : List Nd) (d : Nat) (i : Int) (h : 0 ≤ i) : 1 ≤ sizeAt ar d i := by
  cases d with
  | zero => simp only [sizeAt]; rw [if_neg (by omega)]; omega
  | succ d => simp only [sizeAt]; rw [if_neg (by omega)]; split <;> omega
theorem stackSize_append (ar : List Nd) (L M : List Pl) : stackSize ar (L ++ M) = stackSize ar L + stackSize ar M := by simp [stackSize]
theorem stackOut_append (ar : List Nd) (L M : List Pl) : stackOut ar (L ++ M) = stackOut ar M ++ stackOut ar L := by simp [stackOut]
theorem stackSize_len (ar : List Nd) (L : List Pl) (h : ∀ x ∈ L, okPl ar x) : L.length ≤ stackSize ar L := by
  induction L with
  | nil => simp [stackSize]
  | cons x L ih =>
    have h1 := ih (fun y hy => h y (List.mem_cons_of_mem _ hy))
    have h2 := sizeAt_pos ar (depthP x.p) x.i (h x (List.mem_cons_self)).1
    simp [stackSize] at h1 ⊢
    omega
/-- The kid on a side, to be laid on the stack. -/
def kidPl (p : Pf) (x : Nd) (b : Bool) : List Pl := if p.n < Wd p.a.v6 ∧ (if b then x.k1 else x.k0) ≠ -1 then [⟨if b then x.k1 else x.k0, childP p b⟩] else []
theorem childP_depth {p : Pf} (hn : p.n < Wd p.a.v6) (b : Bool) : depthP p = depthP (childP p b) + 1 := by
  unfold depthP
  simp only [childP, setD_v6]; omega
theorem under_split {ar : List Nd} (hW : WFar ar) {i : Nat} {p : Pf} {x : Nd} (hx : ar[i]? = some x) (hs : saneP p = true) :
    underAt ar (depthP p) (i : Int) p = (if x.ends then [⟨p, x.v⟩] else []) ++ stackOut ar (kidPl p x true ++ kidPl p x false) ∧
    sizeAt ar (depthP p) (i : Int) = 1 + stackSize ar (kidPl p x true ++ kidPl p x false) ∧ ∀ y ∈ kidPl p x true ++ kidPl p x false, okPl ar y := by
  have hr := saneP_range hs
  have hwf := hW i x hx
  have hun : ∀ d p, underAt ar d (-1) p = [] := fun d p => by cases d <;> simp [underAt]
  have hsz : ∀ d, sizeAt ar d (-1) = 0 := fun d => by cases d <;> simp [sizeAt]
  by_cases hn : p.n < Wd p.a.v6
  · have hd := fun b => childP_depth hn b
    have e0 : depthP (childP p false) = depthP (childP p true) := by have := hd false; have := hd true; omega
    have hkid : ∀ b, stackOut ar (kidPl p x b) = underAt ar (depthP (childP p true)) (if b then x.k1 else x.k0) (childP p b) ∧ stackSize ar (kidPl p x b) = sizeAt ar (depthP (childP p true)) (if b then x.k1 else x.k0) ∧ ∀ y ∈ kidPl p x b, okPl ar y := by
      intro b
      have ek : depthP (childP p b) = depthP (childP p true) := by cases b; exact e0; rfl
      by_cases hk : (if b then x.k1 else x.k0) = -1
      · have : kidPl p x b = [] := by unfold kidPl; rw [if_neg]; rintro ⟨_, h⟩; exact h hk
        rw [this, hk, hun, hsz]
        exact ⟨rfl, rfl, fun y hy => by cases hy⟩
      · have : kidPl p x b = [⟨if b then x.k1 else x.k0, childP p b⟩] := by unfold kidPl; rw [if_pos ⟨hn, hk⟩]
        rw [this]
        refine ⟨by simp [stackOut, ek], by simp [stackSize, ek], fun y hy => ?_⟩
        obtain rfl := List.mem_singleton.1 hy
        refine ⟨?_, ?_, saneP_child hs hn b⟩ <;> cases b <;> simp only [Bool.false_eq_true, if_false, if_true] at hk ⊢ <;> omega
    rw [hd true]
    refine ⟨?_, ?_, fun y hy => (List.mem_append.1 hy).elim ((hkid true).2.2 y) ((hkid false).2.2 y)⟩
    · simp only [underAt]
      rw [if_neg (by omega), stackOut_append, (hkid true).1, (hkid false).1]
      simp [hx]
    · simp only [sizeAt]
      rw [if_neg (by omega), stackSize_append, (hkid true).2.1, (hkid false).2.1]
      simp [hx]; omega
  · have hd : depthP p = 0 := by unfold depthP; omega
    have hk : ∀ b, kidPl p x b = [] := fun b => by unfold kidPl; rw [if_neg]; rintro ⟨h, _⟩; exact hn h
    rw [hd, hk, hk]
    simp only [underAt, sizeAt]
    have hni : ¬ ((i : Int) < 0) := by omega
    simp only [hni, if_false, Int.toNat_natCast, hx]
    refine ⟨by simp [stackOut], by simp [stackSize], fun y hy => by cases hy⟩

end Go.Proofs.YtcipokldcjappaaGreat

namespace Go.Proofs.YtcipokldcjappaaGreat
open Go.RowKit

theorem findI_range2 {ar : List Nd} (hW : WFar ar) (h2 : 2 ≤ ar.length) (p : Pf) : -1 ≤ findI ar p ∧ findI ar p < ar.length ∧ (findI ar p ≠ -1 → saneP p = true) := by
  unfold findI
  split
  · rename_i h
    have hroot : -1 ≤ rootI p.a.v6 ∧ rootI p.a.v6 < ar.length := by unfold rootI; split <;> omega
    have := desc_range hW (digs p) _ hroot.1 hroot.2
    exact ⟨this.1, this.2, fun _ => h⟩
  · exact ⟨by omega, by omega, fun h => absurd rfl h⟩

/-- What the inner loop has laid on the stack when r rounds are still to come. -/
def pushed (p : Pf) (x : Nd) (r : Nat) : List Pl := (if r < 2 then kidPl p x true else []) ++ (if r < 1 then kidPl p x false else [])
theorem kidPl_length (p : Pf) (x : Nd) (b : Bool) : (kidPl p x b).length ≤ 1 := by
  unfold kidPl
  generalize (if b then x.k1 else x.k0) = z
  split <;> simp
theorem pushed_length (p : Pf) (x : Nd) (r : Nat) : (pushed p x r).length ≤ 2 := by
  have h := fun b => kidPl_length p x b
  have h1 := h true
  have h2 := h false
  unfold pushed
  rw [List.length_append]
  split <;> split <;> simp <;> omega

set_option maxRecDepth 100000 in
set_option maxHeartbeats 40000000 in
theorem under_c (b : Nat) (hi lo : BitVec 64) (v : Bool) (n : Int) (A F : Value) (ar : List Nd) (fr : List Nat) (m : Int) (w : World) (hT : TrieAt w b A F ar fr m) (hsz : sizeL ar ⟨⟨hi, lo, v⟩, n⟩ ≤ 1000000) :
    Calls Tryz.prog 94 #[.pointer (some ⟨b, 0, none⟩), .agg #[(.int .u64 (BitVec.toNat (hi) : Int)), (.int .u64 (BitVec.toNat (lo) : Int)), .bool v, (.int .i64 (n))]] w
      fun e w' => ∃ o, e = .returned o ∧ Ext w w' ∧ w'.ownsRow w.heap.size 212 5 o (underL ar ⟨⟨hi, lo, v⟩, n⟩).length (rtsCells (underL ar ⟨⟨hi, lo, v⟩, n⟩)) := by
  obtain ⟨g, cap, rfl, hcap, hmax, hg⟩ := hT.form
  have hlt := hT.head.lt
  have hf := findI_range2 hT.wf hT.two ⟨⟨hi, lo, v⟩, n⟩
  have Hfind := Lib.hid (fun w1 (hx : Ext w w1) => find_c b hi lo v n _ F ar fr m w1 (hT.ext hx))
  have HT := Lib.hid hT
  clear hT
  unfold underL
  by_cases hneg : findI ar ⟨⟨hi, lo, v⟩, n⟩ = -1
  · rw [hneg] at Hfind ⊢
    have e0 : underAt ar (depthP ⟨⟨hi, lo, v⟩, n⟩) (-1) ⟨⟨hi, lo, v⟩, n⟩ = [] := by cases depthP ⟨⟨hi, lo, v⟩, n⟩ <;> simp [underAt]
    rw [e0]
    clear e0 hneg hf hsz
    go_enter Tryz.func94, Tryz.ntmps94
    go_wp2_with (go_at_call 86; (with_reducible refine (Hfind.out _ (by (repeat (first | with_reducible exact Ext.refl _ | with_reducible assumption | (with_reducible refine Ext.set ?_ (by simp <;> omega) _) | (with_reducible refine Ext.alloc ?_ _) | (with_reducible refine Ext.drew ?_) | (with_reducible refine Ext.trans ?_ (by assumption)) | exact Ext.refl _)))).mono ?_); rintro e w1 ⟨rfl, h1⟩; have c_h1 := h1.cell; have f_h1 := h1.frozen; have z_h1_0 := h1.lt (b := w.heap.size) (by first | omega | (simp <;> omega)))
    go_ret
    refine ⟨_, rfl, ?_, rfl, .inl ⟨rfl, rfl⟩⟩
    (repeat (first | with_reducible exact Ext.refl _ | with_reducible assumption | (with_reducible refine Ext.set ?_ (by simp <;> omega) _) | (with_reducible refine Ext.alloc ?_ _) | (with_reducible refine Ext.drew ?_) | (with_reducible refine Ext.trans ?_ (by assumption)) | exact Ext.refl _))
  · obtain ⟨i, hi'⟩ : ∃ i : Nat, findI ar ⟨⟨hi, lo, v⟩, n⟩ = (i : Int) := ⟨_, (Int.toNat_of_nonneg (by omega)).symm⟩
    have hsane := hf.2.2 hneg
    unfold sizeL at hsz
    rw [hi'] at Hfind hsz hf ⊢
    have hil : i < ar.length := by omega
    clear hneg hi'
    have Hs := Lib.hid hsane
    have Hz := Lib.hid hsz
    have hne1 : (((i : Nat) : Int) == -1) = false := by simp
    clear hsane hsz hf
    go_enter Tryz.func94, Tryz.ntmps94
    go_wp2_with (go_at_call 86; (with_reducible refine (Hfind.out _ (by (repeat (first | with_reducible exact Ext.refl _ | with_reducible assumption | (with_reducible refine Ext.set ?_ (by simp <;> omega) _) | (with_reducible refine Ext.alloc ?_ _) | (with_reducible refine Ext.drew ?_) | (with_reducible refine Ext.trans ?_ (by assumption)) | exact Ext.refl _)))).mono ?_); rintro e w1 ⟨rfl, h1⟩; have c_h1 := h1.cell; have f_h1 := h1.frozen; have z_h1_0 := h1.lt (b := w.heap.size) (by first | omega | (simp <;> omega)))
    have hE : Ext w w1 := by (repeat (first | with_reducible exact Ext.refl _ | with_reducible assumption | (with_reducible refine Ext.set ?_ (by simp <;> omega) _) | (with_reducible refine Ext.alloc ?_ _) | (with_reducible refine Ext.drew ?_) | (with_reducible refine Ext.trans ?_ (by assumption)) | exact Ext.refl _))
    have hE2 : Ext w (w1.alloc (.cells #[(.int .i64 ((i : Int))), (.int .u64 (BitVec.toNat (hi) : Int)), (.int .u64 (BitVec.toNat (lo) : Int)), .bool v, (.int .i64 (n))] 215)) := hE.alloc _
    have HE2 := Lib.hid hE2
    have hz1 := hE.size
    go_loopg [6, 7] (sizeAt ar (depthP ⟨⟨hi, lo, v⟩, n⟩) (i : Int)) (fun N s6 s7 wr => ∃ (L : List Pl) (O : List Rt), N = stackSize ar L ∧ (∀ x ∈ L, okPl ar x) ∧ O ++ stackOut ar L = underAt ar (depthP ⟨⟨hi, lo, v⟩, n⟩) (i : Int) ⟨⟨hi, lo, v⟩, n⟩ ∧ O.length + N ≤ 1000000 ∧ Ext w wr ∧ wr.ownsRow w.heap.size 215 5 s7 L.length (plsCells L) ∧ wr.ownsRow w.heap.size 212 5 s6 O.length (rtsCells O))
    case atStart =>
      refine ⟨[⟨i, ⟨⟨hi, lo, v⟩, n⟩⟩], [], by simp [stackSize], fun x hx => ?_, by simp [stackOut], by have := Hz.out; simpa using this, hE2, ?_, rfl, .inl ⟨rfl, rfl⟩⟩
      · obtain rfl := List.mem_singleton.1 hx
        exact ⟨by simp, by simp; omega, Hs.out⟩
      · exact own_new1 w1 _ [_, _, _, _, _] 5 _ rfl hz1
    case round =>
      obtain ⟨L, O, hN, hok, hflat, hlen, hEr, hOL, hOO⟩ := hrel
      rcases List.eq_nil_or_concat L with rfl | ⟨L', x, rfl⟩
      · have hfin : O = underAt ar (depthP ⟨⟨hi, lo, v⟩, n⟩) (i : Int) ⟨⟨hi, lo, v⟩, n⟩ := by simpa [stackOut] using hflat
        clear hN hlen
        have HEr := Lib.hid hEr
        have HOO := Lib.hid hOO
        have Hfin := Lib.hid hfin
        have hform := own_form hOL
        clear hEr hOO hfin hflat hok hOL hE2 hE h1 c_h1 f_h1
        rcases hform with ⟨rfl, _⟩ | ⟨g2, cap2, rfl, _, _, _⟩
        all_goals
          go_wp2
          go_ret
          refine ⟨_, rfl, HEr.out, ?_⟩
          rw [← Hfin.out]
          exact HOO.out
      · simp only [List.concat_eq_append] at hok hflat hOL hN
        obtain ⟨⟨xi, xp⟩, hx⟩ : ∃ y, x = y := ⟨_, rfl⟩
        subst hx
        obtain ⟨hx0, hx1, hxs⟩ := hok ⟨xi, xp⟩ (by simp)
        obtain ⟨k, rfl⟩ : ∃ k : Nat, xi = (k : Int) := ⟨_, (Int.toNat_of_nonneg hx0).symm⟩
        simp only at hx0 hx1 hxs
        have hkl : k < ar.length := by omega
        obtain ⟨y, hy⟩ : ∃ y, ar[k]? = some y := ⟨_, List.getElem?_eq_getElem hkl⟩
        obtain ⟨hsp1, hsp2, hsp3⟩ := under_split HT.out.wf hy hxs
        have hokL : ∀ z ∈ L', okPl ar z := fun z hz => hok z (by simp [hz])
        rw [stackOut_append, show stackOut ar [⟨(k : Int), xp⟩] = underAt ar (depthP xp) (k : Int) xp by simp [stackOut], hsp1] at hflat
        rw [stackSize_append, show stackSize ar [⟨(k : Int), xp⟩] = sizeAt ar (depthP xp) (k : Int) by simp [stackSize], hsp2] at hN
        obtain ⟨⟨xh, xl, xv⟩, xn⟩ := xp
        rw [List.length_append, List.length_singleton] at hOL
        rw [plsCells_append] at hOL
        have hLl := stackSize_len ar L' hokL
        have hpl := plsCells_length L'
        obtain ⟨g2, cap2, rfl, hcp, hcm, hg2⟩ := (own_form hOL).resolve_left (by omega)
        unfold maxLen at hcm
        have q0 : wr.cell? ⟨g2, L'.length * 5, none⟩ = some ((.int .i64 ((k : Int)))) := own_cell hOL _ _ (by rw [List.getElem?_append_right (by omega), hpl]; simp [plCells])
        have q1 : wr.cell? ⟨g2, L'.length * 5 + 1, none⟩ = some ((.int .u64 (BitVec.toNat (xh) : Int))) := own_cell hOL _ _ (by rw [List.getElem?_append_right (by omega), hpl]; simp [plCells])
        have q2 : wr.cell? ⟨g2, L'.length * 5 + 2, none⟩ = some ((.int .u64 (BitVec.toNat (xl) : Int))) := own_cell hOL _ _ (by rw [List.getElem?_append_right (by omega), hpl]; simp [plCells])
        have q3 : wr.cell? ⟨g2, L'.length * 5 + 3, none⟩ = some (.bool xv) := own_cell hOL _ _ (by rw [List.getElem?_append_right (by omega), hpl]; simp [plCells])
        have q4 : wr.cell? ⟨g2, L'.length * 5 + 4, none⟩ = some ((.int .i64 (xn))) := own_cell hOL _ _ (by rw [List.getElem?_append_right (by omega), hpl]; simp [plCells])
        have HOL := Lib.hid hOL
        have HOO := Lib.hid hOO
        have HEr := Lib.hid hEr
        have Hflat := Lib.hid hflat
        have Hlen := Lib.hid hlen
        have HGK := Lib.hid hN
        have hL6 : L'.length ≤ 1000000 := by omega
        have hO6 : O.length ≤ 1000000 := by omega
        have Hsp3 := Lib.hid hsp3
        have HokL := Lib.hid hokL
        have Hxs := Lib.hid hxs
        have Hy := Lib.hid hy
        have hTr := HT.out.ext hEr
        have zb : b < wr.heap.size := hTr.head.lt
        have zg : g < wr.heap.size := own_lt hTr.arena rfl
        have a0 : wr.cell? ⟨b, 0, none⟩ = some (.slice (some ⟨g, 0, none⟩) ar.length cap) := hTr.head.cell 0
        have e0 : wr.cell? ⟨g, k * 5, none⟩ = some ((.int .i64 (y.k0))) := hTr.cell k y hy 0 (by omega)
        have e1 : wr.cell? ⟨g, k * 5 + 1, none⟩ = some ((.int .i64 (y.k1))) := hTr.cell k y hy 1 (by omega)
        have e2 : wr.cell? ⟨g, k * 5 + 2, none⟩ = some ((.int .i64 (y.up))) := hTr.cell k y hy 2 (by omega)
        have e3 : wr.cell? ⟨g, k * 5 + 3, none⟩ = some (.bool y.ends) := hTr.cell k y hy 3 (by omega)
        have e4 : wr.cell? ⟨g, k * 5 + 4, none⟩ = some ((.int .i64 (y.v))) := hTr.cell k y hy 4 (by omega)
        clear hOL hOO hEr hflat hlen hN hsp1 hsp2 hsp3 hokL hxs hy hTr hok hE2 hE h1 c_h1 f_h1 hx0 hx1
        go_wp2_with fail
        refine region1 9 8 9 (fun u w' => ∃ q, wr.heap.size < q ∧ u = .pointer (some ⟨q, 0, none⟩) ∧ Blk w' q 163 #[(.int .i64 (0)), (.int .i64 (0)), (.int .i64 (0)), .bool false, (.int .i64 (0))]) (fun u w1 w2 ⟨q, h1, h2, h3⟩ hx => ⟨q, h1, h2, h3.ext hx⟩) rfl (by kernel_rfl) ?_
        dsimp only [List.take, List.drop]
        repeat ((first | (refine wpT_skip rfl rfl ?_) | (apply wpT_fix rfl rfl; focus (intro w1 hS; have c1 := hS.cell; have f1 := hS.frozen; have z1 := hS.size; go_simp; first | exact ⟨rfl, hS, Ext.refl _⟩ | (exact ⟨⟨_, by simp at z1; omega, rfl, Blk.new _ _ _⟩, hS.alloc _, (Ext.refl _).alloc _⟩))) | (refine wpT_loose rfl rfl ?_ ?_; focus (intro w1 hS; have c1 := hS.cell; have f1 := hS.frozen; have z1 := hS.size; go_simp; first | (exact ⟨⟨_, by simp at z1; omega, rfl, Blk.new _ _ _⟩, hS.alloc _, (Ext.refl _).alloc _⟩)))); try simp only [Act.put, List.setIfInBounds_toArray, List.set_cons_zero, List.set_cons_succ])
        refine wpT_nil ?_
        rintro - u w2 hS ⟨q, hq, rfl, hB⟩
        have c2 := hS.cell
        have zq := hB.lt
        have zs := hS.size
        have qf : ∀ o, w2.frozen? ⟨q, o, none⟩ = false := fun o => hB.frozen o
        have hX2 : Ext wr w2 := ((Ext.refl wr).alloc _).trans hS
        have hB8 : Blk w2 wr.heap.size 215 #[(.int .i64 ((k : Int))), (.int .u64 (BitVec.toNat (xh) : Int)), (.int .u64 (BitVec.toNat (xl) : Int)), .bool xv, (.int .i64 (xn))] := (Blk.new _ _ _).ext hS
        simp only [Act.put, List.setIfInBounds_toArray, List.set_cons_zero, List.set_cons_succ]
        have HX2 := Lib.hid hX2
        have HB8 := Lib.hid hB8
        have HB := Lib.hid hB
        clear hX2 hB8 hB
        have hqne : wr.heap.size ≠ q := by omega
        have d0 : w2.cell? ⟨q, 0, none⟩ = some ((.int .i64 (0))) := HB.out.cell 0
        have d1 : w2.cell? ⟨q, 1, none⟩ = some ((.int .i64 (0))) := HB.out.cell 1
        have d2 : w2.cell? ⟨q, 2, none⟩ = some ((.int .i64 (0))) := HB.out.cell 2
        have d3 : w2.cell? ⟨q, 3, none⟩ = some (.bool false) := HB.out.cell 3
        have d4 : w2.cell? ⟨q, 4, none⟩ = some ((.int .i64 (0))) := HB.out.cell 4
        have p1 : w2.cell? ⟨wr.heap.size, 1, none⟩ = some ((.int .u64 (BitVec.toNat (xh) : Int))) := HB8.out.cell 1
        have p2 : w2.cell? ⟨wr.heap.size, 2, none⟩ = some ((.int .u64 (BitVec.toNat (xl) : Int))) := HB8.out.cell 2
        have p3 : w2.cell? ⟨wr.heap.size, 3, none⟩ = some (.bool xv) := HB8.out.cell 3
        have p4 : w2.cell? ⟨wr.heap.size, 4, none⟩ = some ((.int .i64 (xn))) := HB8.out.cell 4
        clear q0 q1 q2 q3 q4 a0 e0 e1 e2 e3 e4 c2 hS zs zb zg hpl hLl hcp hcm hkl
        go_upto_if 45 with fail
        have hw3 : ∃ w3, w3 = ((((w2.setCell ⟨q, 0, none⟩ ((.int .i64 (y.k0)))).setCell ⟨q, 1, none⟩ ((.int .i64 (y.k1)))).setCell ⟨q, 2, none⟩ ((.int .i64 (y.up)))).setCell ⟨q, 3, none⟩ (.bool y.ends)).setCell ⟨q, 4, none⟩ ((.int .i64 (y.v))) := ⟨_, rfl⟩
        obtain ⟨w3, hw3⟩ := hw3
        rw [← hw3]
        have hN4 : Blk w3 q 163 #[(.int .i64 (y.k0)), (.int .i64 (y.k1)), (.int .i64 (y.up)), .bool y.ends, (.int .i64 (y.v))] := by rw [hw3]; exact (((((HB.out.set 0 _).set 1 _).set 2 _).set 3 _).set 4 _)
        have hP4 : Blk w3 wr.heap.size 215 #[(.int .i64 ((k : Int))), (.int .u64 (BitVec.toNat (xh) : Int)), (.int .u64 (BitVec.toNat (xl) : Int)), .bool xv, (.int .i64 (xn))] := by rw [hw3]; exact (((((HB8.out.far hqne _).far hqne _).far hqne _).far hqne _).far hqne _)
        have hX3 : Ext wr w3 := by rw [hw3]; exact (((((HX2.out.set (Nat.le_of_lt hq) _).set (Nat.le_of_lt hq) _).set (Nat.le_of_lt hq) _).set (Nat.le_of_lt hq) _).set (Nat.le_of_lt hq) _)
        have hL4 := own_take (own_ext HOL.out hX3) L'.length (by omega)
        rw [show (plsCells L' ++ plCells ⟨(k : Int), ⟨⟨xh, xl, xv⟩, xn⟩⟩).take (L'.length * 5) = plsCells L' by rw [← plsCells_length, List.take_left']; rfl] at hL4
        have hO4 := own_ext HOO.out hX3
        have p1 : w3.cell? ⟨wr.heap.size, 1, none⟩ = some ((.int .u64 (BitVec.toNat (xh) : Int))) := hP4.cell 1
        have p2 : w3.cell? ⟨wr.heap.size, 2, none⟩ = some ((.int .u64 (BitVec.toNat (xl) : Int))) := hP4.cell 2
        have p3 : w3.cell? ⟨wr.heap.size, 3, none⟩ = some (.bool xv) := hP4.cell 3
        have p4 : w3.cell? ⟨wr.heap.size, 4, none⟩ = some ((.int .i64 (xn))) := hP4.cell 4
        have n4 : w3.cell? ⟨q, 4, none⟩ = some ((.int .i64 (y.v))) := hN4.cell 4
        have lq := hN4.lt
        have lp := hP4.lt
        have HN4 := Lib.hid hN4
        have HP4 := Lib.hid hP4
        have HX3 := Lib.hid hX3
        have HL4 := Lib.hid hL4
        have HO4 := Lib.hid hO4
        have HX4 := Lib.hid (HEr.out.trans hX3)
        clear hw3 hN4 hP4 hX3 hL4 hO4 d0 d1 d2 d3 d4 qf HB HB8 HX2 HOO HOL hqne zq
        go_cut [6] from 36 to 81 (fun s6 wc => ∃ O2 : List Rt, Ext w wc ∧ Blk wc q 163 #[(.int .i64 (y.k0)), (.int .i64 (y.k1)), (.int .i64 (y.up)), .bool y.ends, (.int .i64 (y.v))] ∧ Blk wc wr.heap.size 215 #[(.int .i64 ((k : Int))), (.int .u64 (BitVec.toNat (xh) : Int)), (.int .u64 (BitVec.toNat (xl) : Int)), .bool xv, (.int .i64 (xn))] ∧ wc.ownsRow w.heap.size 215 5 (.slice (some ⟨g2, 0, none⟩) L'.length cap2) L'.length (plsCells L') ∧ wc.ownsRow w.heap.size 212 5 s6 O2.length (rtsCells O2) ∧ O2 ++ (stackOut ar (kidPl ⟨⟨xh, xl, xv⟩, xn⟩ y true ++ kidPl ⟨⟨xh, xl, xv⟩, xn⟩ y false) ++ stackOut ar L') = underAt ar (depthP ⟨⟨hi, lo, v⟩, n⟩) (i : Int) ⟨⟨hi, lo, v⟩, n⟩ ∧ O2.length ≤ O.length + 1)
        case first =>
          cases hye : y.ends
          · have Hye := Lib.hid hye
            clear hye
            go_wp2
            go_meet
            case rel => exact ⟨O, HX4.out, HN4.out, HP4.out, HL4.out, HO4.out, by have := Hflat.out; rw [Hye.out] at this; simpa using this, by omega⟩
          · have Hye := Lib.hid hye
            clear hye
            go_wp2_with (at_builtin; go_loud (refine wpList_app1 (.tmp 46) (.tmp 52) 183 212 rfl rfl Tryz.underlying183 5 40 _ infoPair rfl (by decide) w.heap.size u6 O.length (rtsCells O) rfl (own_ext HO4.out ((Ext.refl _).alloc _)) w3.heap.size (rtCells ⟨⟨⟨xh, xl, xv⟩, xn⟩, y.v⟩) 212 rfl (Blk.new' _ _ _ _ (by simp)) rfl (by simp [rtCells, Value.oneCell']) (by omega) (by unfold maxLen; omega) (by have := HX4.out.size; simp; omega) (fun o6 w4 h4 h5 h6 => ?_); have H4 := Lib.hid h4; have H5 := Lib.hid h5; have H6 := Lib.hid h6; clear h4 h5 h6))
            go_meet
            case rel =>
              have hA := (Ext.refl w3).alloc (.cells #[(.int .u64 (BitVec.toNat (xh) : Int)), (.int .u64 (BitVec.toNat (xl) : Int)), .bool xv, (.int .i64 (xn)), (.int .i64 (y.v))] 212)
              have hOA := own_ext HO4.out hA
              refine ⟨O ++ [⟨⟨⟨xh, xl, xv⟩, xn⟩, y.v⟩], ?_, ?_, ?_, ?_, ?_, ?_, by simp⟩
              · exact (((HX4.out.trans hA).keep (fun k => u6.ownBlock = some k)).trans' H5.out (fun _ _ h => h)).ext (fun k hk e => by have := own_base_le HO4.out e; omega)
              · have := HN4.out
                exact (this.ext hA).keep H5.out (own_ne hOA (this.ext hA) (by decide))
              · exact (HP4.out.ext hA).keep H5.out (own_ne hOA (HP4.out.ext hA) (by decide))
              · exact own_keep (own_ext HL4.out hA) H5.out (fun g' hg' => own_own_ne (own_ext HL4.out hA) hOA (by decide) hg')
              · have := H4.out
                rw [rtsCells_append]
                simpa using this
              · have := Hflat.out
                rw [Hye.out] at this
                simpa using this
        case rest =>
          obtain ⟨O2, hX, hN, hP, hL, hO, hf, hO2⟩ := hcut
          have HX := Lib.hid hX
          have HN := Lib.hid hN
          have HP := Lib.hid hP
          have HL := Lib.hid hL
          have HO := Lib.hid hO
          have Hf := Lib.hid hf
          have hz := hN.lt
          clear hX hN hP hL hO hf
          go_wp2_with fail
          go_loopg [7, 10] 3 (fun N s7 s10 wq => ∃ r : Nat, N = r + 1 ∧ r ≤ 2 ∧ s10 = (.int .i64 ((r : Int) - 1)) ∧ Ext w wq ∧ Blk wq q 163 #[(.int .i64 (y.k0)), (.int .i64 (y.k1)), (.int .i64 (y.up)), .bool y.ends, (.int .i64 (y.v))] ∧ Blk wq wr.heap.size 215 #[(.int .i64 ((k : Int))), (.int .u64 (BitVec.toNat (xh) : Int)), (.int .u64 (BitVec.toNat (xl) : Int)), .bool xv, (.int .i64 (xn))] ∧ wq.ownsRow w.heap.size 215 5 s7 (L' ++ pushed ⟨⟨xh, xl, xv⟩, xn⟩ y r).length (plsCells (L' ++ pushed ⟨⟨xh, xl, xv⟩, xn⟩ y r)) ∧ wq.ownsRow w.heap.size 212 5 u6 O2.length (rtsCells O2) ∧ ¬ s7.ownBlock = some wr.heap.size)
          case atStart => exact ⟨2, rfl, by omega, rfl, HX.out, HN.out, HP.out, by simpa [pushed] using HL.out, HO.out, fun e => absurd (show g2 = wr.heap.size by simpa [Value.ownBlock] using e) (by omega)⟩
          case round =>
            obtain ⟨r, hr, hr2, rfl, hX, hN, hP, hL, hO, hT7⟩ := hrel
            have HT7 := Lib.hid hT7
            clear hT7
            have HX := Lib.hid hX
            have HN := Lib.hid hN
            have HP := Lib.hid hP
            have HL := Lib.hid hL
            have HO := Lib.hid hO
            rcases r with _ | r
            · clear hX hN hP hL hO
              go_wp2
              go_roundg (stackSize ar (L' ++ pushed ⟨⟨xh, xl, xv⟩, xn⟩ y 0))
              case measure => have := HGK.out; rw [stackSize_append]; simp only [pushed, show (0 : Nat) < 2 by decide, show (0 : Nat) < 1 by decide, if_true]; omega
              case rel =>
                refine ⟨_, O2, rfl, fun z hz' => ?_, ?_, ?_, HX.out, HL.out, HO.out⟩
                · exact (List.mem_append.1 hz').elim (HokL.out z) (Hsp3.out z)
                · rw [stackOut_append]; exact Hf.out
                · have := HGK.out; have := Hlen.out; rw [stackSize_append]; simp only [pushed, show (0 : Nat) < 2 by decide, show (0 : Nat) < 1 by decide, if_true]; omega
            · have p1 : wr.cell? ⟨_, 1, none⟩ = some ((.int .u64 (BitVec.toNat (xh) : Int))) := hP.cell 1
              have p2 : wr.cell? ⟨_, 2, none⟩ = some ((.int .u64 (BitVec.toNat (xl) : Int))) := hP.cell 2
              have p3 : wr.cell? ⟨_, 3, none⟩ = some (.bool xv) := hP.cell 3
              have p4 : wr.cell? ⟨_, 4, none⟩ = some ((.int .i64 (xn))) := hP.cell 4
              have n0 : wr.cell? ⟨q, 0, none⟩ = some ((.int .i64 (y.k0))) := hN.cell 0
              have n1 : wr.cell? ⟨q, 1, none⟩ = some ((.int .i64 (y.k1))) := hN.cell 1
              have lq := hN.lt
              have lp := hP.lt
              clear hX hN hP hL hO
              rcases r with _ | _ | r
              · have er : (((0 + 1 : Nat) : Int) - 1) = 0 := rfl
                rw [er]
                by_cases hw : xn = Wd xv
                · have hkid : kidPl ⟨⟨xh, xl, xv⟩, xn⟩ y false = [] := by unfold kidPl; rw [if_neg]; rintro ⟨h, _⟩; simp only at h; omega
                  have Hw := Lib.hid hw
                  have Hk := Lib.hid hkid
                  clear hw hkid
                  go_wp2_with (go_at_call 117; go_loud ((with_reducible refine (childP_no _ _ _ _ _ _ (.inr Hw.out)).mono ?_); rintro e w5 ⟨rfl, h5⟩; have c5 := h5.cell; have f5 := h5.frozen; have lq5 := h5.lt lq; have lp5 := h5.lt lp))
                  go_roundg 1
                  case measure => omega
                  case rel =>
                    have hx := h5.alloc (.cells #[(.int .u64 (BitVec.toNat (zeroP.a.hi) : Int)), (.int .u64 (BitVec.toNat (zeroP.a.lo) : Int)), .bool zeroP.a.v6, (.int .i64 (zeroP.n))] 57)
                    refine ⟨0, rfl, by omega, rfl, HX.out.trans hx, HN.out.ext hx, HP.out.ext hx, ?_, own_ext HO.out hx, HT7.out⟩
                    have := own_ext HL.out hx
                    simpa [pushed, Hk.out] using this
                · have hlt : xn < Wd xv := by have := saneP_range Hxs.out; simp only at this; omega
                  have Hlt := Lib.hid hlt
                  clear hw hlt
                  have hbit : bits .and .i64 0 1 = b2i false := by decide
                  have Hch := Lib.hid (fun w => childP_yes xh xl xv xn 0 false w Hxs.out Hlt.out hbit)
                  clear hbit
                  by_cases hkid : y.k0 = -1
                  · have hk2 : kidPl ⟨⟨xh, xl, xv⟩, xn⟩ y false = [] := by unfold kidPl; rw [if_neg]; rintro ⟨_, h⟩; simp at h; exact h hkid
                    have Hk := Lib.hid hk2
                    clear hk2
                    go_wp2_with (go_at_call 117; go_loud ((with_reducible refine (Hch.out _).mono ?_); rintro e w5 ⟨rfl, h5⟩; have c5 := h5.cell; have f5 := h5.frozen; have lq5 := h5.lt lq; have lp5 := h5.lt lp))
                    go_roundg 1
                    case measure => omega
                    case rel =>
                      have hx := h5.alloc (.cells #[(.int .u64 (BitVec.toNat ((childP ⟨⟨xh, xl, xv⟩, xn⟩ false).a.hi) : Int)), (.int .u64 (BitVec.toNat ((childP ⟨⟨xh, xl, xv⟩, xn⟩ false).a.lo) : Int)), .bool (childP ⟨⟨xh, xl, xv⟩, xn⟩ false).a.v6, (.int .i64 ((childP ⟨⟨xh, xl, xv⟩, xn⟩ false).n))] 57)
                      refine ⟨0, rfl, by omega, rfl, HX.out.trans hx, HN.out.ext hx, HP.out.ext hx, ?_, own_ext HO.out hx, HT7.out⟩
                      have := own_ext HL.out hx
                      simpa [pushed, Hk.out] using this
                  · have hk2 : kidPl ⟨⟨xh, xl, xv⟩, xn⟩ y false = [⟨y.k0, childP ⟨⟨xh, xl, xv⟩, xn⟩ false⟩] := by unfold kidPl; rw [if_pos ⟨Hlt.out, by simpa using hkid⟩]; rfl
                    have hkne : (y.k0 != -1) = true := by simpa using hkid
                    have Hk := Lib.hid hk2
                    clear hk2 hkid
                    go_wp2_with (go_at_call 117; go_loud ((with_reducible refine (Hch.out _).mono ?_); rintro e w5 ⟨rfl, h5⟩; have c5 := h5.cell; have f5 := h5.frozen; have lq5 := h5.lt lq; have lp5 := h5.lt lp))
                    have hx := h5.alloc (.cells #[(.int .u64 (BitVec.toNat ((childP ⟨⟨xh, xl, xv⟩, xn⟩ false).a.hi) : Int)), (.int .u64 (BitVec.toNat ((childP ⟨⟨xh, xl, xv⟩, xn⟩ false).a.lo) : Int)), .bool (childP ⟨⟨xh, xl, xv⟩, xn⟩ false).a.v6, (.int .i64 ((childP ⟨⟨xh, xl, xv⟩, xn⟩ false).n))] 57)
                    have Hx := Lib.hid hx
                    clear hx
                    refine region1 8 7 80 (fun u w' => ∃ q, w.heap.size ≤ q ∧ u = .slice (some ⟨q, 0, none⟩) 1 1 ∧ Blk w' q 215 (plCells ⟨y.k0, childP ⟨⟨xh, xl, xv⟩, xn⟩ false⟩).toArray) (fun u w1 w2 ⟨q, h1, h2, h3⟩ hx => ⟨q, h1, h2, h3.ext hx⟩) rfl (by kernel_rfl) ?_
                    dsimp only [List.take, List.drop]
                    repeat ((first | (refine wpT_skip rfl rfl ?_) | (apply wpT_fix rfl rfl; focus (intro w1 hS; have c1 := hS.cell; have f1 := hS.frozen; have z1 := hS.size; go_simp; first | exact ⟨rfl, hS, Ext.refl _⟩ | (exact ⟨⟨_, by have := (HX.out.trans (Hx.out.trans hS)).size; exact this, rfl, Blk.new _ _ _⟩, hS.alloc _, (Ext.refl _).alloc _⟩))) | (refine wpT_loose rfl rfl ?_ ?_; focus (intro w1 hS; have c1 := hS.cell; have f1 := hS.frozen; have z1 := hS.size; go_simp; first | (exact ⟨⟨_, by have := (HX.out.trans (Hx.out.trans hS)).size; exact this, rfl, Blk.new _ _ _⟩, hS.alloc _, (Ext.refl _).alloc _⟩)))); try simp only [Act.put, List.setIfInBounds_toArray, List.set_cons_zero, List.set_cons_succ])
                    refine wpT_nil ?_
                    rintro - u w6 hS ⟨q6, hq6, rfl, hB6⟩
                    have hX6 := Hx.out.trans hS
                    simp only [Act.put, List.setIfInBounds_toArray, List.set_cons_zero, List.set_cons_succ]
                    have hL6' := own_ext HL.out hX6
                    have hO6' := own_ext HO.out hX6
                    have hpl := pushed_length ⟨⟨xh, xl, xv⟩, xn⟩ y (0 + 1)
                    refine wpList_app1 (.tmp 73) (.tmp 80) 216 215 rfl rfl Tryz.underlying216 5 40 _ placeInfo rfl (by decide) w.heap.size _ _ _ rfl hL6' q6 _ _ rfl hB6 rfl (by simp [plCells, Value.oneCell']) (by rw [List.length_append]; omega) (by rw [List.length_append]; unfold maxLen; omega) (by have := (HX.out.trans hX6).size; exact this) (fun o7 w7 k4 k5 k6 => ?_)
                    have hX7 := (((HX.out.trans hX6).keep (fun k => u7.ownBlock = some k)).trans' k5 (fun _ _ h => h)).ext (fun k hk e => by have := own_base_le HL.out e; omega)
                    have hN7 := (HN.out.ext hX6).keep k5 (own_ne hL6' (HN.out.ext hX6) (by decide))
                    have hP7 : Blk w7 _ 215 _ := (HP.out.ext hX6).keep k5 HT7.out
                    have hT8 : ¬ o7.ownBlock = some _ := fun e => k6.elim (fun h => HT7.out (h.symm.trans e)) (fun h => by have h7 := (HP.out.ext hX6).lt; have h8 : w6.heap.size = _ := Option.some.inj (h.symm.trans e); omega)
                    have hO7 := own_keep hO6' k5 (fun g' hg' => own_own_ne hO6' hL6' (by decide) hg')
                    have H7 := Lib.hid k4
                    have HX7 := Lib.hid hX7
                    have HN7 := Lib.hid hN7
                    have HP7 := Lib.hid hP7
                    have HO7 := Lib.hid hO7
                    have HT8 := Lib.hid hT8
                    clear k4 k5 k6 hX7 hN7 hP7 hO7 hL6' hO6' hX6 hS hB6 c5 f5 h5 hT8
                    simp only [Act.put, List.setIfInBounds_toArray, List.set_cons_zero, List.set_cons_succ]
                    go_wp2
                    go_roundg 1
                    case measure => omega
                    case rel =>
                      refine ⟨0, rfl, by omega, rfl, HX7.out, HN7.out, HP7.out, ?_, HO7.out, HT8.out⟩
                      have e7 : L' ++ pushed ⟨⟨xh, xl, xv⟩, xn⟩ y 0 = (L' ++ pushed ⟨⟨xh, xl, xv⟩, xn⟩ y (0 + 1)) ++ [⟨y.k0, childP ⟨⟨xh, xl, xv⟩, xn⟩ false⟩] := by simp [pushed, Hk.out]
                      rw [e7, plsCells_append, List.length_append]
                      exact H7.out
              · have er : (((1 + 1 : Nat) : Int) - 1) = 1 := rfl
                rw [er]
                by_cases hw : xn = Wd xv
                · have hkid : kidPl ⟨⟨xh, xl, xv⟩, xn⟩ y true = [] := by unfold kidPl; rw [if_neg]; rintro ⟨h, _⟩; simp only at h; omega
                  have Hw := Lib.hid hw
                  have Hk := Lib.hid hkid
                  clear hw hkid
                  go_wp2_with (go_at_call 117; go_loud ((with_reducible refine (childP_no _ _ _ _ _ _ (.inr Hw.out)).mono ?_); rintro e w5 ⟨rfl, h5⟩; have c5 := h5.cell; have f5 := h5.frozen; have lq5 := h5.lt lq; have lp5 := h5.lt lp))
                  go_roundg 2
                  case measure => omega
                  case rel =>
                    have hx := h5.alloc (.cells #[(.int .u64 (BitVec.toNat (zeroP.a.hi) : Int)), (.int .u64 (BitVec.toNat (zeroP.a.lo) : Int)), .bool zeroP.a.v6, (.int .i64 (zeroP.n))] 57)
                    refine ⟨1, rfl, by omega, rfl, HX.out.trans hx, HN.out.ext hx, HP.out.ext hx, ?_, own_ext HO.out hx, HT7.out⟩
                    have := own_ext HL.out hx
                    simpa [pushed, Hk.out] using this
                · have hlt : xn < Wd xv := by have := saneP_range Hxs.out; simp only at this; omega
                  have Hlt := Lib.hid hlt
                  clear hw hlt
                  have hbit : bits .and .i64 1 1 = b2i true := by decide
                  have Hch := Lib.hid (fun w => childP_yes xh xl xv xn 1 true w Hxs.out Hlt.out hbit)
                  clear hbit
                  by_cases hkid : y.k1 = -1
                  · have hk2 : kidPl ⟨⟨xh, xl, xv⟩, xn⟩ y true = [] := by unfold kidPl; rw [if_neg]; rintro ⟨_, h⟩; simp at h; exact h hkid
                    have Hk := Lib.hid hk2
                    clear hk2
                    go_wp2_with (go_at_call 117; go_loud ((with_reducible refine (Hch.out _).mono ?_); rintro e w5 ⟨rfl, h5⟩; have c5 := h5.cell; have f5 := h5.frozen; have lq5 := h5.lt lq; have lp5 := h5.lt lp))
                    go_roundg 2
                    case measure => omega
                    case rel =>
                      have hx := h5.alloc (.cells #[(.int .u64 (BitVec.toNat ((childP ⟨⟨xh, xl, xv⟩, xn⟩ true).a.hi) : Int)), (.int .u64 (BitVec.toNat ((childP ⟨⟨xh, xl, xv⟩, xn⟩ true).a.lo) : Int)), .bool (childP ⟨⟨xh, xl, xv⟩, xn⟩ true).a.v6, (.int .i64 ((childP ⟨⟨xh, xl, xv⟩, xn⟩ true).n))] 57)
                      refine ⟨1, rfl, by omega, rfl, HX.out.trans hx, HN.out.ext hx, HP.out.ext hx, ?_, own_ext HO.out hx, HT7.out⟩
                      have := own_ext HL.out hx
                      simpa [pushed, Hk.out] using this
                  · have hk2 : kidPl ⟨⟨xh, xl, xv⟩, xn⟩ y true = [⟨y.k1, childP ⟨⟨xh, xl, xv⟩, xn⟩ true⟩] := by unfold kidPl; rw [if_pos ⟨Hlt.out, by simpa using hkid⟩]; rfl
                    have hkne : (y.k1 != -1) = true := by simpa using hkid
                    have Hk := Lib.hid hk2
                    clear hk2 hkid
                    go_wp2_with (go_at_call 117; go_loud ((with_reducible refine (Hch.out _).mono ?_); rintro e w5 ⟨rfl, h5⟩; have c5 := h5.cell; have f5 := h5.frozen; have lq5 := h5.lt lq; have lp5 := h5.lt lp))
                    have hx := h5.alloc (.cells #[(.int .u64 (BitVec.toNat ((childP ⟨⟨xh, xl, xv⟩, xn⟩ true).a.hi) : Int)), (.int .u64 (BitVec.toNat ((childP ⟨⟨xh, xl, xv⟩, xn⟩ true).a.lo) : Int)), .bool (childP ⟨⟨xh, xl, xv⟩, xn⟩ true).a.v6, (.int .i64 ((childP ⟨⟨xh, xl, xv⟩, xn⟩ true).n))] 57)
                    have Hx := Lib.hid hx
                    clear hx
                    refine region1 8 7 80 (fun u w' => ∃ q, w.heap.size ≤ q ∧ u = .slice (some ⟨q, 0, none⟩) 1 1 ∧ Blk w' q 215 (plCells ⟨y.k1, childP ⟨⟨xh, xl, xv⟩, xn⟩ true⟩).toArray) (fun u w1 w2 ⟨q, h1, h2, h3⟩ hx => ⟨q, h1, h2, h3.ext hx⟩) rfl (by kernel_rfl) ?_
                    dsimp only [List.take, List.drop]
                    repeat ((first | (refine wpT_skip rfl rfl ?_) | (apply wpT_fix rfl rfl; focus (intro w1 hS; have c1 := hS.cell; have f1 := hS.frozen; have z1 := hS.size; go_simp; first | exact ⟨rfl, hS, Ext.refl _⟩ | (exact ⟨⟨_, by have := (HX.out.trans (Hx.out.trans hS)).size; exact this, rfl, Blk.new _ _ _⟩, hS.alloc _, (Ext.refl _).alloc _⟩))) | (refine wpT_loose rfl rfl ?_ ?_; focus (intro w1 hS; have c1 := hS.cell; have f1 := hS.frozen; have z1 := hS.size; go_simp; first | (exact ⟨⟨_, by have := (HX.out.trans (Hx.out.trans hS)).size; exact this, rfl, Blk.new _ _ _⟩, hS.alloc _, (Ext.refl _).alloc _⟩)))); try simp only [Act.put, List.setIfInBounds_toArray, List.set_cons_zero, List.set_cons_succ])
                    refine wpT_nil ?_
                    rintro - u w6 hS ⟨q6, hq6, rfl, hB6⟩
                    have hX6 := Hx.out.trans hS
                    simp only [Act.put, List.setIfInBounds_toArray, List.set_cons_zero, List.set_cons_succ]
                    have hL6' := own_ext HL.out hX6
                    have hO6' := own_ext HO.out hX6
                    have hpl := pushed_length ⟨⟨xh, xl, xv⟩, xn⟩ y (0 + 1 + 1)
                    refine wpList_app1 (.tmp 73) (.tmp 80) 216 215 rfl rfl Tryz.underlying216 5 40 _ placeInfo rfl (by decide) w.heap.size _ _ _ rfl hL6' q6 _ _ rfl hB6 rfl (by simp [plCells, Value.oneCell']) (by rw [List.length_append]; omega) (by rw [List.length_append]; unfold maxLen; omega) (by have := (HX.out.trans hX6).size; exact this) (fun o7 w7 k4 k5 k6 => ?_)
                    have hX7 := (((HX.out.trans hX6).keep (fun k => u7.ownBlock = some k)).trans' k5 (fun _ _ h => h)).ext (fun k hk e => by have := own_base_le HL.out e; omega)
                    have hN7 := (HN.out.ext hX6).keep k5 (own_ne hL6' (HN.out.ext hX6) (by decide))
                    have hP7 : Blk w7 _ 215 _ := (HP.out.ext hX6).keep k5 HT7.out
                    have hT8 : ¬ o7.ownBlock = some _ := fun e => k6.elim (fun h => HT7.out (h.symm.trans e)) (fun h => by have h7 := (HP.out.ext hX6).lt; have h8 : w6.heap.size = _ := Option.some.inj (h.symm.trans e); omega)
                    have hO7 := own_keep hO6' k5 (fun g' hg' => own_own_ne hO6' hL6' (by decide) hg')
                    have H7 := Lib.hid k4
                    have HX7 := Lib.hid hX7
                    have HN7 := Lib.hid hN7
                    have HP7 := Lib.hid hP7
                    have HO7 := Lib.hid hO7
                    have HT8 := Lib.hid hT8
                    clear k4 k5 k6 hX7 hN7 hP7 hO7 hL6' hO6' hX6 hS hB6 c5 f5 h5 hT8
                    simp only [Act.put, List.setIfInBounds_toArray, List.set_cons_zero, List.set_cons_succ]
                    go_wp2
                    go_roundg 2
                    case measure => omega
                    case rel =>
                      refine ⟨1, rfl, by omega, rfl, HX7.out, HN7.out, HP7.out, ?_, HO7.out, HT8.out⟩
                      have e7 : L' ++ pushed ⟨⟨xh, xl, xv⟩, xn⟩ y 1 = (L' ++ pushed ⟨⟨xh, xl, xv⟩, xn⟩ y (0 + 1 + 1)) ++ [⟨y.k1, childP ⟨⟨xh, xl, xv⟩, xn⟩ true⟩] := by simp [pushed, Hk.out]
                      rw [e7, plsCells_append, List.length_append]
                      exact H7.out
              · exfalso; omega

end Go.Proofs.YtcipokldcjappaaGreat

namespace Go.Proofs.YtcipokldcjappaaGreat
open Go.RowKit

def frNd (up : Int) : Nd := ⟨-1, -1, up, false, 0⟩
theorem nodeInfo : (Tryz.prog.info? 163).map (fun i => (i.zero, i.size, i.bytes)) = some (some (.agg #[.int .i64 0, .int .i64 0, .int .i64 0, .bool false, .int .i64 0]), 5, 40) := by kernel_rfl

set_option maxRecDepth 100000 in
theorem fresh_c (up : Int) (w : World) : Calls Tryz.prog 83 #[(.int .i64 (up))] w fun e w' => e = .returned (.agg #[(.int .i64 (-1)), (.int .i64 (-1)), (.int .i64 (up)), .bool false, (.int .i64 (0))]) ∧ Ext w w' := by
  go_enter Tryz.func83, Tryz.ntmps83
  go_wp2
  refine bodyPost_ret (v := .agg #[(.int .i64 (-1)), (.int .i64 (-1)), (.int .i64 (up)), .bool false, (.int .i64 (0))]) (by simp [results, Tryz.results83, go_sem, *]) rfl ⟨rfl, ?_⟩
  (repeat (first | with_reducible exact Ext.refl _ | with_reducible assumption | (with_reducible refine Ext.set ?_ (by simp <;> omega) _) | (with_reducible refine Ext.alloc ?_ _) | (with_reducible refine Ext.drew ?_) | (with_reducible refine Ext.trans ?_ (by assumption)) | exact Ext.refl _))

def takeI (ar : List Nd) (fr : List Nat) : Nat := match fr.getLast? with
  | some i => i
  | none => ar.length
def takeAr (ar : List Nd) (fr : List Nat) (up : Int) : List Nd := match fr.getLast? with
  | some i => ar.set i (frNd up)
  | none => ar ++ [frNd up]
theorem takeAr_length (ar : List Nd) (fr : List Nat) (up : Int) : ar.length ≤ (takeAr ar fr up).length ∧ (takeAr ar fr up).length ≤ ar.length + 1 := by
  unfold takeAr; split <;> simp
theorem WFar_set {ar : List Nd} (h : WFar ar) (i : Nat) (x : Nd) (h0 : -1 ≤ x.k0 ∧ x.k0 < ar.length) (h1 : -1 ≤ x.k1 ∧ x.k1 < ar.length) : WFar (ar.set i x) := by
  intro j y hj
  rw [List.length_set]
  rw [List.getElem?_set] at hj
  split at hj
  · split at hj
    · obtain rfl := Option.some.inj hj; exact ⟨h0, h1⟩
    · cases hj
  · exact h j y hj
theorem WFar_take {ar : List Nd} (h : WFar ar) (fr : List Nat) (up : Int) : WFar (takeAr ar fr up) := by
  unfold takeAr
  split
  · exact WFar_set h _ _ (by simp [frNd]; omega) (by simp [frNd]; omega)
  · intro j y hj
    rw [List.length_append, List.length_singleton]
    rw [List.getElem?_append] at hj
    split at hj
    · have := h j y hj; omega
    · rw [List.getElem?_singleton] at hj
      split at hj
      · obtain rfl := Option.some.inj hj; simp [frNd]; omega
      · cases hj

theorem own_far {w : World} {base : Nat} {e : TypeId} {size n : Nat} {v : Value} {xs : List Value} (h : w.ownsRow base e size v n xs) {p : Addr} (hp : ¬ v.ownBlock = some p.block) (u : Value) : (w.setCell p u).ownsRow base e size v n xs :=
  own_same h fun g' hg' => Below.heap_setCell w p u g' (fun e => hp (hg'.trans (congrArg some e)))
/-- Five stores into the arena's row make another node. -/
theorem arena_put {w : World} {g cap n : Nat} {ar : List Nd} {i : Nat} {x y : Nd} (h : w.ownsRow 0 163 5 (.slice (some ⟨g, 0, none⟩) n cap) n (arCells ar)) (hx : ar[i]? = some x) :
    (((((w.setCell ⟨g, i * 5, none⟩ ((.int .i64 (y.k0)))).setCell ⟨g, i * 5 + 1, none⟩ ((.int .i64 (y.k1)))).setCell ⟨g, i * 5 + 2, none⟩ ((.int .i64 (y.up)))).setCell ⟨g, i * 5 + 3, none⟩ (.bool y.ends)).setCell ⟨g, i * 5 + 4, none⟩ ((.int .i64 (y.v)))).ownsRow 0 163 5 (.slice (some ⟨g, 0, none⟩) n cap) n (arCells (ar.set i y)) := by
  have hi : i < ar.length := (List.getElem?_eq_some_iff.1 hx).1
  have hl : ∀ a : List Nd, a.length = ar.length → ∀ j, j < 5 → i * 5 + j < (arCells a).length := fun a ha j hj => by rw [arCells_length, ha]; omega
  have s0 := own_set h (i * 5 + 0) ((.int .i64 (y.k0))) (hl _ rfl 0 (by omega))
  rw [arCells_set ar i x ⟨y.k0, x.k1, x.up, x.ends, x.v⟩ hx 0 _ (by omega) rfl] at s0
  have s1 := own_set s0 (i * 5 + 1) ((.int .i64 (y.k1))) (hl _ (by simp) 1 (by omega))
  rw [arCells_set _ i ⟨y.k0, x.k1, x.up, x.ends, x.v⟩ ⟨y.k0, y.k1, x.up, x.ends, x.v⟩ (by simp [hi]) 1 _ (by omega) rfl] at s1
  have s2 := own_set s1 (i * 5 + 2) ((.int .i64 (y.up))) (hl _ (by simp) 2 (by omega))
  rw [arCells_set _ i ⟨y.k0, y.k1, x.up, x.ends, x.v⟩ ⟨y.k0, y.k1, y.up, x.ends, x.v⟩ (by simp [hi]) 2 _ (by omega) rfl] at s2
  have s3 := own_set s2 (i * 5 + 3) (.bool y.ends) (hl _ (by simp) 3 (by omega))
  rw [arCells_set _ i ⟨y.k0, y.k1, y.up, x.ends, x.v⟩ ⟨y.k0, y.k1, y.up, y.ends, x.v⟩ (by simp [hi]) 3 _ (by omega) rfl] at s3
  have s4 := own_set s3 (i * 5 + 4) ((.int .i64 (y.v))) (hl _ (by simp) 4 (by omega))
  rw [arCells_set _ i ⟨y.k0, y.k1, y.up, y.ends, x.v⟩ y (by simp [hi]) 4 _ (by omega) rfl] at s4
  simpa [List.set_set] using s4
/-- One store. -/
theorem arena_put1 {w : World} {g cap n : Nat} {ar : List Nd} {i : Nat} {x y : Nd} (h : w.ownsRow 0 163 5 (.slice (some ⟨g, 0, none⟩) n cap) n (arCells ar)) (hx : ar[i]? = some x) (j : Nat) (hj : j < 5) (u : Value) (hu : ndCells y = (ndCells x).set j u) :
    (w.setCell ⟨g, i * 5 + j, none⟩ u).ownsRow 0 163 5 (.slice (some ⟨g, 0, none⟩) n cap) n (arCells (ar.set i y)) := by
  have hi : i < ar.length := (List.getElem?_eq_some_iff.1 hx).1
  have s0 := own_set h (i * 5 + j) u (by rw [arCells_length]; omega)
  rwa [arCells_set ar i x y hx j u hj hu] at s0

set_option maxRecDepth 100000 in
set_option maxHeartbeats 4000000 in
theorem take_c (b : Nat) (up : Int) (A F : Value) (ar : List Nd) (fr : List Nat) (m : Int) (w : World) (hT : TrieAt w b A F ar fr m) (hfr : ∀ i ∈ fr, i < ar.length) (hl : ar.length ≤ 1000000) :
    Calls Tryz.prog 90 #[.pointer (some ⟨b, 0, none⟩), (.int .i64 (up))] w fun e w' => e = .returned ((.int .i64 ((takeI ar fr : Int)))) ∧ ∃ A' F', TrieAt w' b A' F' (takeAr ar fr up) fr.dropLast m ∧
      Keep (fun k => k = b ∨ A.ownBlock = some k) w w' ∧ (A'.ownBlock = A.ownBlock ∨ ∃ q, A'.ownBlock = some q ∧ w.heap.size ≤ q) ∧ (F'.ownBlock = F.ownBlock) := by
  obtain ⟨g, cap, rfl, hcap, hmax, hg⟩ := hT.form
  have hlt := hT.head.lt
  have a0 : w.cell? ⟨b, 0, none⟩ = some (.slice (some ⟨g, 0, none⟩) ar.length cap) := hT.head.cell 0
  have a1 : w.cell? ⟨b, 1, none⟩ = some F := hT.head.cell 1
  have af : ∀ o, w.frozen? ⟨b, o, none⟩ = false := fun o => hT.head.frozen o
  have gf : ∀ o, w.frozen? ⟨g, o, none⟩ = false := fun o => own_frozen hT.arena o
  have hgb : g ≠ b := fun e => own_ne hT.arena hT.head (by decide) (by rw [← e]; rfl)
  rcases List.eq_nil_or_concat fr with rfl | ⟨fr', i, rfl⟩
  · have HT := Lib.hid hT
    have hF : F = .slice none 0 0 ∨ ∃ g2 c, F = .slice (some ⟨g2, 0, none⟩) 0 c := by
      rcases own_form hT.free with ⟨rfl, _⟩ | ⟨g2, c, rfl, _, _, _⟩
      · exact .inl rfl
      · exact .inr ⟨g2, c, rfl⟩
    have hgF := fun g' hg' e => own_ne hT.free hT.head (by decide) (show F.ownBlock = some b from (hg' : F.ownBlock = some g').trans (congrArg some e))
    have hAF := fun g' (hg' : F.ownBlock = some g') => own_own_ne hT.free hT.arena (by decide) hg'
    have HgF := Lib.hid hgF
    have HAF := Lib.hid hAF
    clear hT hgF hAF hfr gf
    rcases hF with rfl | ⟨g2, c, rfl⟩
    all_goals
      go_enter Tryz.func90, Tryz.ntmps90
      go_wp2_with fail
      have hA := HT.out.arena
      refine L2.regionApp 11 7 48 8 49 0 163 5 _ ar.length (arCells ar) (ndCells (frNd up)) hA rfl (by kernel_rfl) ?_
      dsimp only [List.take, List.drop]
      repeat ((first | (apply L2.app_fix rfl rfl rfl; focus (intro w1 hS; have b0 : w1.cell? ⟨b, 0, none⟩ = some (.slice (some ⟨g, 0, none⟩) ar.length cap) := (hS.1.cell (p := ⟨b, 0, none⟩) hlt (fun e => hgb (ownB e))).trans a0; go_simp; first | exact ⟨rfl, Ext.refl _⟩ | (((with_reducible refine (fresh_c ..).mono ?_); rintro e w2 ⟨rfl, h2⟩; exact ⟨_, rfl, rfl, h2⟩)) | (exact ⟨⟨_, hz, rfl, Blk.new _ _ _⟩, (Ext.refl _).alloc _⟩))) | (refine L2.app_build rfl rfl (by kernel_rfl) (fun _ _ h => by cases h) rfl ?_ ?_; focus (intro w1 hS hz; have b0 : w1.cell? ⟨b, 0, none⟩ = some (.slice (some ⟨g, 0, none⟩) ar.length cap) := (hS.1.cell (p := ⟨b, 0, none⟩) hlt (fun e => hgb (ownB e))).trans a0; go_simp; first | (((with_reducible refine (fresh_c ..).mono ?_); rintro e w2 ⟨rfl, h2⟩; exact ⟨_, rfl, rfl, h2⟩)) | (exact ⟨⟨_, hz, rfl, Blk.new _ _ _⟩, (Ext.refl _).alloc _⟩))) | (refine L2.app_app 45 48 165 40 _ rfl rfl rfl rfl (by kernel_rfl) rfl (by decide) Tryz.underlying165 nodeInfo rfl (by decide) rfl rfl (by simp [ndCells, frNd, Value.oneCell']) (by omega) (by unfold maxLen; omega) (Nat.zero_le _) ?_)); try simp only [Act.put, List.setIfInBounds_toArray, List.set_cons_zero, List.set_cons_succ])
      refine L2.app_nil ?_
      intro _ u0 A' w3 h5 h4 h6
      have hT2 := HT.out
      have hb3 := hT2.head.keep h5 (own_ne hT2.arena hT2.head (by decide))
      have hf3 := own_keep hT2.free h5 (fun g' hg' => HAF.out g' hg')
      obtain ⟨g3, c3, rfl, hc3, hcm3, hg3⟩ := (own_form h4).resolve_left (by omega)
      have hgb3 : ¬ g3 = b := fun e => own_ne h4 hb3 (by decide) (congrArg some e)
      have b0 : w3.cell? ⟨b, 0, none⟩ = some (.slice (some ⟨g, 0, none⟩) ar.length cap) := hb3.cell 0
      have bf : ∀ o, w3.frozen? ⟨b, o, none⟩ = false := fun o => hb3.frozen o
      have H4 := Lib.hid h4
      have HK := Lib.hid h5
      have H6 := Lib.hid h6
      have H3 := Lib.hid hb3
      have Hf3 := Lib.hid hf3
      clear h4 h5 h6 hb3 hf3 hT2 a0 a1 af
      simp only [Act.put, List.setIfInBounds_toArray, List.set_cons_zero, List.set_cons_succ]
      go_wp2
      go_ret
      have ear : takeAr ar [] up = ar ++ [frNd up] := rfl
      refine ⟨by simp [takeI], _, _, ⟨H3.out.set 0 _, ?_, ?_, ?_, ?_⟩, ?_, ?_, rfl⟩
      · rw [ear, arCells_append]
        have := own_same (w' := w3.setCell ⟨b, 0, none⟩ (.slice (some ⟨g3, 0, none⟩) (ar.length + 1) c3)) H4.out fun g' hg' => Below.heap_setCell _ _ _ _ (by have := ownB hg'; subst this; exact hgb3)
        simpa using this
      · exact own_same Hf3.out fun g' hg' => Below.heap_setCell _ _ _ _ (fun e => HgF.out g' hg' e)
      · have := (takeAr_length ar [] up).1; have := HT.out.two; omega
      · exact WFar_take HT.out.wf _ _
      · exact (HK.out.mono (fun _ _ h => .inr h)).set (.inl (.inl rfl)) _
      · rcases H6.out with h | h
        · exact .inl h
        · exact .inr h
  · simp only [List.concat_eq_append] at hT hfr ⊢
    have hi : i < ar.length := hfr i (by simp)
    obtain ⟨x, hx⟩ : ∃ x, ar[i]? = some x := ⟨_, List.getElem?_eq_getElem hi⟩
    have hF := hT.free
    rw [List.length_append, List.length_singleton] at hF
    obtain ⟨g2, c2, rfl, hc2, hcm, hg2⟩ := (own_form hF).resolve_left (by omega)
    unfold maxLen at hcm hmax
    have f0 : w.cell? ⟨g2, fr'.length, none⟩ = some ((.int .i64 ((i : Int)))) := own_cell hF _ _ (by simp)
    have hgg : g2 ≠ g := fun e => own_own_ne hT.arena hT.free (by decide) (g := g) rfl (by rw [← e]; rfl)
    have hbg : g2 ≠ b := fun e => own_ne hT.free hT.head (by decide) (by rw [← e]; rfl)
    have HT := Lib.hid hT
    have HF := Lib.hid hF
    have Hx := Lib.hid hx
    clear hT hx hF hfr
    go_enter Tryz.func90, Tryz.ntmps90
    go_wp2_with fail
    have hT1 : TrieAt (w.setCell ⟨b, 1, none⟩ (.slice (some ⟨g2, 0, none⟩) fr'.length c2)) b (.slice (some ⟨g, 0, none⟩) ar.length cap) (.slice (some ⟨g2, 0, none⟩) fr'.length c2) ar fr' m := by
      refine ⟨HT.out.head.set 1 _, own_same HT.out.arena fun g' hg' => Below.heap_setCell _ _ _ _ (by have := ownB hg'; subst this; exact hgb), ?_, HT.out.two, HT.out.wf⟩
      have h1 := own_take HF.out fr'.length (by omega)
      have h2 := own_same (w' := w.setCell ⟨b, 1, none⟩ (.slice (some ⟨g2, 0, none⟩) fr'.length c2)) h1 fun g' hg' => Below.heap_setCell _ _ _ _ (by have := ownB hg'; subst this; exact hbg)
      simpa using h2
    have HT1 := Lib.hid hT1
    have hK1 : Keep (fun k => k = b ∨ (Value.slice (some ⟨g, 0, none⟩) ar.length cap).ownBlock = some k) w (w.setCell ⟨b, 1, none⟩ (.slice (some ⟨g2, 0, none⟩) fr'.length c2)) := (Keep.refl _ w).set (.inl (.inl rfl)) _
    have HK1 := Lib.hid hK1
    clear hT1 hK1
    refine region0 8 rfl (by kernel_rfl) ?_
    dsimp only [List.take, List.drop]
    repeat ((first | (refine wpT_skip rfl rfl ?_) | (apply wpT_fix rfl rfl; focus (intro w1 hS; have c1 := hS.cell; have f1 := hS.frozen; have z1 := hS.size; go_simp; first | exact ⟨rfl, hS, Ext.refl _⟩ | (((with_reducible refine (fresh_c ..).mono ?_); rintro e w2 ⟨rfl, h2⟩; exact ⟨_, rfl, rfl, hS.trans h2, h2⟩)))) | (refine wpT_loose rfl rfl ?_ ?_; focus (intro w1 hS; have c1 := hS.cell; have f1 := hS.frozen; have z1 := hS.size; go_simp; first | (((with_reducible refine (fresh_c ..).mono ?_); rintro e w2 ⟨rfl, h2⟩; exact ⟨_, rfl, rfl, hS.trans h2, h2⟩))))); try simp only [Act.put, List.setIfInBounds_toArray, List.set_cons_zero, List.set_cons_succ])
    refine wpT_nil ?_
    intro w2 hS
    have hT2 := HT1.out.ext hS
    have gf2 : ∀ o, w2.frozen? ⟨g, o, none⟩ = false := fun o => own_frozen hT2.arena o
    have d0 : w2.cell? ⟨g, i * 5, none⟩ = some ((.int .i64 (x.k0))) := hT2.cell i x Hx.out 0 (by omega)
    have d1 : w2.cell? ⟨g, i * 5 + 1, none⟩ = some ((.int .i64 (x.k1))) := hT2.cell i x Hx.out 1 (by omega)
    have d2 : w2.cell? ⟨g, i * 5 + 2, none⟩ = some ((.int .i64 (x.up))) := hT2.cell i x Hx.out 2 (by omega)
    have d3 : w2.cell? ⟨g, i * 5 + 3, none⟩ = some (.bool x.ends) := hT2.cell i x Hx.out 3 (by omega)
    have d4 : w2.cell? ⟨g, i * 5 + 4, none⟩ = some ((.int .i64 (x.v))) := hT2.cell i x Hx.out 4 (by omega)
    have hA2 := arena_put (y := frNd up) hT2.arena Hx.out
    have Har := Lib.hid hA2
    have HT2 := Lib.hid hT2
    have HK2 := Lib.hid (HK1.out.thenExt hS)
    clear hA2 hT2 hS a0 a1 af gf f0
    go_wp2
    go_ret
    have ear : takeAr ar (fr' ++ [i]) up = ar.set i (frNd up) := by simp [takeAr]
    have efr : (fr' ++ [i]).dropLast = fr' := by simp
    refine ⟨by simp [takeI], _, _, ⟨HT2.out.head.far hgb.symm _ |>.far hgb.symm _ |>.far hgb.symm _ |>.far hgb.symm _ |>.far hgb.symm _, ?_, ?_, ?_, ?_⟩, ?_, .inl rfl, rfl⟩
    · rw [ear, List.length_set]; exact Har.out
    · rw [efr]
      have hn : ¬ (Value.slice (some ⟨g2, 0, none⟩) fr'.length c2).ownBlock = some g := fun h => hgg (ownB h)
      exact own_far (own_far (own_far (own_far (own_far HT2.out.free hn _) hn _) hn _) hn _) hn _
    · have := (takeAr_length ar (fr' ++ [i]) up).1; have := HT.out.two; omega
    · exact WFar_take HT.out.wf _ _
    · iterate 5 refine Keep.set ?_ (.inl (.inr rfl)) _
      exact HK2.out

end Go.Proofs.YtcipokldcjappaaGreat

namespace Go.Proofs.YtcipokldcjappaaGreat
open Go.RowKit

/-- the cells of a hier -/
def hCells (R T L : Value) (bd : Int) (st : List Int) : Array Value := #[R, T, L, .int .i64 bd] ++ stC st
def ptr (b : Nat) : Value := .pointer (some ⟨b, 0, none⟩)

set_option maxRecDepth 100000 in
set_option maxHeartbeats 1000000 in
theorem stget_c (st : List Int) (k : Nat) (x : Int) (w : World) (hk : k < 17) (hx : st[k]? = some x) :
    Calls Tryz.prog 20 #[.agg (stC st), (.int .i64 ((k : Int)))] w fun e w' => e = .returned (.int .u64 x) ∧ Ext w w' := by
  have hck : (stC st)[k]? = some (.int .u64 x) := stC_get st k x hx
  clear hx
  go_enter Tryz.func20, Tryz.ntmps20
  go_wp2_with (first
      | (go_at_call 47; (with_reducible refine (stis_c _ _ hk).mono ?_); rintro e w1 ⟨rfl, rfl⟩))
  go_ret
  refine ⟨rfl, ?_⟩
  (repeat (first | with_reducible exact Ext.refl _ | with_reducible assumption | (with_reducible refine Ext.set ?_ (by simp <;> omega) _) | (with_reducible refine Ext.alloc ?_ _) | (with_reducible refine Ext.drew ?_) | (with_reducible refine Ext.trans ?_ (by assumption)) | exact Ext.refl _))

theorem hmade_c (h rb : Nat) (w : World) (a0 : w.cell? ⟨h, 0, none⟩ = some (.pointer (some ⟨rb, 0, none⟩))) :
    Calls Tryz.prog 69 #[.pointer (some ⟨h, 0, none⟩)] w fun e w' => e = .returned (.bool true) ∧ w = w' := by
  go_enter Tryz.func69, Tryz.ntmps69
  go_wp2
  go_ret
  exact ⟨rfl, rfl⟩
theorem hroutes_c (h rb : Nat) (w : World) (a0 : w.cell? ⟨h, 0, none⟩ = some (.pointer (some ⟨rb, 0, none⟩))) :
    Calls Tryz.prog 38 #[.pointer (some ⟨h, 0, none⟩)] w fun e w' => e = .returned (.pointer (some ⟨rb, 0, none⟩)) ∧ w = w' := by
  go_enter Tryz.func38, Tryz.ntmps38
  go_wp2
  go_ret
  exact ⟨rfl, rfl⟩

theorem hC_0 (R T L : Value) (bd : Int) (st : List Int) : (hCells R T L bd st)[0]? = some R ∧ (hCells R T L bd st)[1]? = some T ∧ (hCells R T L bd st)[2]? = some L ∧ (hCells R T L bd st)[3]? = some (.int .i64 bd) := by
  unfold hCells
  refine ⟨?_, ?_, ?_, ?_⟩ <;> (rw [Array.getElem?_append_left (by simp)]; rfl)
theorem hC_splice (R T L : Value) (bd : Int) (st st' : List Int) (h : (stC st).size = (stC st').size) : spliceA (hCells R T L bd st) 4 (stC st').toList = hCells R T L bd st' := spliceA_tail #[R, T, L, .int .i64 bd] _ _ h
theorem hC_size (R T L : Value) (bd : Int) (st : List Int) : (hCells R T L bd st).size = 4 + (stC st).size := by simp [hCells]
theorem hC_get (R T L : Value) (bd : Int) (st : List Int) (j : Nat) : (hCells R T L bd st)[4 + j]? = (stC st)[j]? := by
  unfold hCells
  rw [Array.getElem?_append_right (by simp)]
  simp

set_option maxRecDepth 100000 in
set_option maxHeartbeats 1000000 in
theorem hstats_c (h : Nat) (R T L : Value) (bd : Int) (st : List Int) (w : World) (hB : Blk w h 106 (hCells R T L bd st)) (hl : st.length = 17) :
    Calls Tryz.prog 21 #[.pointer (some ⟨h, 0, none⟩)] w fun e w' => e = .returned (.agg (stC st)) ∧ Ext w w' := by
  have hz : (stC st).size = 17 := by rw [stC_size, hl]
  have hlt := hB.lt
  have Hz := Lib.hid hz
  have HB := Lib.hid hB
  clear hB hz hl
  go_enter Tryz.func21, Tryz.ntmps21
  go_wp2_with (first
      | (refine wpList_load_blk rfl 65 _ rfl h 4 (stC st) rfl 106 _ (HB.out.ext ((Ext.refl w).alloc _)) (fun j _ => hC_get _ _ _ _ _ j) _ Tryz.underlying65 rfl ?hi ?_; (case hi => (rw [Hz.out]; exact infoSt)))
      | (refine wpList_store_blk rfl 65 _ _ rfl w.heap.size 0 (stC st) rfl rfl 65 _ (heap_alloc_new _ _) ?hle ?hi2 (stC_one _) ?_; (case hle => (rw [Hz.out]; decide)); (case hi2 => (rw [Hz.out]; exact infoSt)); intro w1 hz hk1 hb1; rw [spliceA_all _ _ (by rw [Hz.out]; rfl)] at hb1; have HE := Lib.hid (show Ext w w1 from ((((Ext.refl w).alloc _).keep (fun k => k = w.heap.size)).trans hk1).ext (fun k hk e => by omega)); have Hb1 := Lib.hid hb1; clear hk1 hb1 hz))
  refine bodyPost_ret (v := .agg (stC st)) (results_blk rfl _ _ w.heap.size 65 _ _ rfl Hb1.out Tryz.underlying65 rfl (by rw [Hz.out]; exact infoSt)) rfl ⟨rfl, HE.out⟩

set_option maxRecDepth 100000 in
set_option maxHeartbeats 1000000 in
theorem count_c (h rb : Nat) (T L : Value) (bd : Int) (st : List Int) (k : Nat) (n : Int) (w : World) (hB : Blk w h 106 (hCells (ptr rb) T L bd st)) (hs : StOk st) (hk : k < 17) (hn : n ≤ 9223372036854775807) :
    Calls Tryz.prog 43 #[.pointer (some ⟨h, 0, none⟩), (.int .i64 ((k : Int))), (.int .i64 (n))] w fun e w' => e = .returned (.tuple #[]) ∧ Keep (fun k => k = h) w w' ∧ Blk w' h 106 (hCells (ptr rb) T L bd (bumpL st k n)) := by
  have hz : (stC st).size = 17 := by rw [stC_size, hs.len]
  have hlt := hB.lt
  have hz' : (stC (bumpL st k n)).size = 17 := by rw [stC_size, (hs.bump k n).len]
  have a0 : w.cell? ⟨h, 0, none⟩ = some (.pointer (some ⟨rb, 0, none⟩)) := (hB.cell 0).trans (hC_0 _ _ _ _ _).1
  have Hz := Lib.hid hz
  have Hz' := Lib.hid hz'
  have HB := Lib.hid hB
  have Hs := Lib.hid hs
  clear hB hz hz' hs
  go_enter Tryz.func43, Tryz.ntmps43
  go_wp2_with (first
      | (go_at_call 69; (with_reducible refine (hmade_c h rb _ a0).mono ?_); rintro e w1 ⟨rfl, rfl⟩)
      | (refine wpList_load_blk rfl 65 _ rfl h 4 (stC st) rfl 106 _ HB.out (fun j _ => hC_get _ _ _ _ _ j) _ Tryz.underlying65 rfl ?hi ?_; (case hi => (rw [Hz.out]; exact infoSt)))
      | (go_at_call 70; (with_reducible refine (bump_c st k n _ Hs.out hk hn).mono ?_); rintro e w1 ⟨rfl, h1⟩; have hB1 := HB.out.ext h1; have HB1 := Lib.hid hB1; have H1 := Lib.hid h1; clear hB1 h1)
      | (refine wpList_store_blk rfl 65 _ _ rfl h 4 (stC (bumpL st k n)) rfl rfl 106 _ HB1.out ?hle ?hi2 (stC_one _) ?_; (case hle => (rw [hC_size, Hz.out, Hz'.out]; decide)); (case hi2 => (rw [Hz'.out]; exact infoSt)); intro w2 hz hk1 hb1; rw [hC_splice _ _ _ _ _ _ (by rw [Hz.out, Hz'.out])] at hb1; have HE := Lib.hid ((H1.out.keep (fun k => k = h)).trans hk1); have Hb1 := Lib.hid hb1; clear hk1 hb1 hz))
  go_end0
  exact ⟨rfl, HE.out, Hb1.out⟩
end Go.Proofs.YtcipokldcjappaaGreat

namespace Go.Proofs.YtcipokldcjappaaGreat
open Go.RowKit

theorem own_newN (w : World) (e : TypeId) (cs : List Value) (n size base : Nat) (h : cs.length = n * size) (hb : base ≤ w.heap.size) (hn : n ≤ maxLen) :
    (w.alloc (.cells cs.toArray e)).ownsRow base e size (.slice (some ⟨w.heap.size, 0, none⟩) n n) n cs :=
  ⟨h, .inr ⟨w.heap.size, n, cs.toArray, rfl, hb, heap_alloc_new w _, Nat.le_refl _, hn, by simp [h], by rw [← h]; simp⟩⟩
theorem own_nil (w : World) (e : TypeId) (size base : Nat) : w.ownsRow base e size (.slice none 0 0) 0 [] := ⟨by simp, .inl ⟨rfl, rfl⟩⟩
def zeros128 : Array Value := (Array.range 128).map fun _ => Value.int .u8 0
def nd0 : Nd := frNd (-1)
set_option maxRecDepth 100000 in
set_option maxHeartbeats 1000000 in
theorem trieNew_c (w : World) : Calls Tryz.prog 55 #[] w fun e w' => ∃ b A, e = .returned (.pointer (some ⟨b, 0, none⟩)) ∧ TrieAt w' b A (.slice none 0 0) [nd0, nd0] [] 0 ∧ Ext w w' ∧ w.heap.size ≤ b ∧ (∀ g, A.ownBlock = some g → w.heap.size ≤ g) := by
  go_enter Tryz.func55, Tryz.ntmps55
  go_wp2_with (go_at_call 83; (with_reducible refine (fresh_c ..).mono ?_); rintro e w1 ⟨rfl, h1⟩; have hE : Ext w w1 := (by (repeat (first | with_reducible exact Ext.refl _ | with_reducible assumption | (with_reducible refine Ext.set ?_ (by simp <;> omega) _) | (with_reducible refine Ext.alloc ?_ _) | (with_reducible refine Ext.drew ?_) | (with_reducible refine Ext.trans ?_ (by assumption)) | exact Ext.refl _))); clear h1)
  have hz := hE.size
  go_ret
  refine ⟨_, _, rfl, ⟨Blk.new' _ _ _ _ (by simp), own_ext (own_newN w1 163 (arCells [nd0, nd0]) 2 5 0 rfl (Nat.zero_le _) (by unfold maxLen; omega)) ((Ext.refl _).alloc _), own_nil _ _ _ _, by simp, ?_⟩, (hE.alloc _).alloc _, by omega, fun g hg => by have := ownB hg; omega⟩
  intro i x hx
  have : x = nd0 := by
    match i, hx with
    | 0, hx => simpa using hx.symm
    | 1, hx => simpa using hx.symm
    | (j + 2), hx => simp at hx
  subst this
  decide

set_option maxRecDepth 100000 in
set_option maxHeartbeats 1000000 in
theorem slotsNew_c (m : Int) (w : World) : Calls Tryz.prog 57 #[(.int .i64 (m))] w fun e w' => ∃ b, e = .returned (.pointer (some ⟨b, 0, none⟩)) ∧ Ext w w' ∧ w.heap.size ≤ b ∧ Blk w' b 174 #[.slice none 0 0, (.int .i64 (max 0 (min m 1024))), (.int .i64 (-1)), (.int .i64 (0))] := by
  go_enter Tryz.func57, Tryz.ntmps57
  go_wp2
  go_ret
  exact ⟨_, rfl, (Ext.refl _).alloc _, Nat.le_refl _, Blk.new _ _ _⟩

set_option maxRecDepth 100000 in
set_option maxHeartbeats 1000000 in
theorem queueNew_c (m : Int) (w : World) : Calls Tryz.prog 36 #[(.int .i64 (m))] w fun e w' => e = .returned (.agg #[.slice none 0 0, (.int .i64 (max 0 (min m 1024)))]) ∧ Ext w w' := by
  go_enter Tryz.func36, Tryz.ntmps36
  go_wp2
  refine bodyPost_ret (v := .agg #[.slice none 0 0, (.int .i64 (max 0 (min m 1024)))]) (by simp [results, Tryz.results36, go_sem, *]) rfl ⟨rfl, ?_⟩
  (repeat (first | with_reducible exact Ext.refl _ | with_reducible assumption | (with_reducible refine Ext.set ?_ (by simp <;> omega) _) | (with_reducible refine Ext.alloc ?_ _) | (with_reducible refine Ext.drew ?_) | (with_reducible refine Ext.trans ?_ (by assumption)) | exact Ext.refl _))

theorem mk1 (w : World) : (Instr.makeSlice 168 ((.int .i64 (IntKind.i64.wrap 1))) ((.int .i64 (IntKind.i64.wrap 1)))).run Tryz.prog w = .ok (.slice (some ⟨w.heap.size, 0, none⟩) 1 1) (w.alloc (.cells #[(.int .i64 (0)), (.int .i64 (0))] 161)) := by kernel_rfl
theorem mk0 (w : World) : (Instr.makeSlice 169 ((.int .i64 (0))) ((.int .i64 (0)))).run Tryz.prog w = .ok (.slice (some ⟨w.heap.size, 0, none⟩) 0 0) (w.alloc (.cells #[] 4)) := by kernel_rfl
set_option maxRecDepth 100000 in
set_option maxHeartbeats 1000000 in
theorem recNew0_c (w : World) : Calls Tryz.prog 56 #[(.int .i64 (0))] w fun e w' => ∃ b, e = .returned (.pointer (some ⟨b, 0, none⟩)) ∧ Ext w w' ∧ w.heap.size ≤ b := by
  have e0 : (max 0 (min 0 1024) : Int) = 0 := by decide
  go_enter Tryz.func56, Tryz.ntmps56
  go_wp2
  refine region2 5 2 9 4 11 (fun u w' => ∃ q, u = .slice (some ⟨q, 0, none⟩) 1 1 ∧ w.heap.size ≤ q ∧ Blk w' q 161 #[(.int .i64 (0)), (.int .i64 (0))]) (fun u w' => ∃ q, u = .slice (some ⟨q, 0, none⟩) 0 0 ∧ w.heap.size ≤ q) (fun v w w' h hx => by obtain ⟨q, h1, h2, h3⟩ := h; exact ⟨q, h1, h2, h3.ext hx⟩) (fun v w w' h hx => h) rfl (by kernel_rfl) ?_
  dsimp only [List.take, List.drop]
  repeat ((first | (refine wpT_skip rfl rfl ?_) | (apply wpT_fix rfl rfl; focus (intro w1 hS; have c1 := hS.cell; have f1 := hS.frozen; have z1 := hS.size; go_simp; first | exact ⟨rfl, hS, Ext.refl _⟩ | (rw [mk1]; exact ⟨⟨_, rfl, hS.size, Blk.new _ _ _⟩, hS.alloc _, (Ext.refl _).alloc _⟩) | (rw [mk0]; exact ⟨⟨_, rfl, hS.size⟩, hS.alloc _, (Ext.refl _).alloc _⟩))) | (refine wpT_loose rfl rfl ?_ ?_; focus (intro w1 hS; have c1 := hS.cell; have f1 := hS.frozen; have z1 := hS.size; go_simp; first | (rw [mk1]; exact ⟨⟨_, rfl, hS.size, Blk.new _ _ _⟩, hS.alloc _, (Ext.refl _).alloc _⟩) | (rw [mk0]; exact ⟨⟨_, rfl, hS.size⟩, hS.alloc _, (Ext.refl _).alloc _⟩)))); try simp only [Act.put, List.setIfInBounds_toArray, List.set_cons_zero, List.set_cons_succ])
  refine wpT_nil ?_
  rintro - u1 u2 w1 hS ⟨q, rfl, hq, hB⟩ ⟨q2, rfl, hq2⟩
  simp only [Act.put, List.setIfInBounds_toArray, List.set_cons_zero, List.set_cons_succ]
  have hlt := hB.lt
  have hz := hS.size
  have c0 : w1.cell? ⟨q, 0, none⟩ = some ((.int .i64 (0))) := hB.cell 0
  have c1 : w1.cell? ⟨q, 1, none⟩ = some ((.int .i64 (0))) := hB.cell 1
  have f0 : ∀ j, w1.frozen? ⟨q, j, none⟩ = false := fun j => hB.frozen j
  have HS := Lib.hid hS
  clear hB hS
  go_wp2
  go_ret
  refine ⟨_, rfl, ?_, by omega⟩
  have := HS.out
  (repeat (first | with_reducible exact Ext.refl _ | with_reducible assumption | (with_reducible refine Ext.set ?_ (by simp <;> omega) _) | (with_reducible refine Ext.alloc ?_ _) | (with_reducible refine Ext.drew ?_) | (with_reducible refine Ext.trans ?_ (by assumption)) | exact Ext.refl _))

set_option maxRecDepth 100000 in
set_option maxHeartbeats 1000000 in
theorem skNew_c (w : World) : Calls Tryz.prog 58 #[(.int .i64 (2)), (.int .i64 (64))] w fun e w' => ∃ b, e = .returned (.pointer (some ⟨b, 0, none⟩)) ∧ Ext w w' ∧ w.heap.size ≤ b := by
  have e0 : (max 1 (min 2 4) : Int) = 2 := by decide
  have e1 : (max 1 (min 64 256) : Int) = 64 := by decide
  have hmk : ∀ w, (Instr.makeSlice 23 ((.int .i64 (128))) ((.int .i64 (128)))).run Tryz.prog w = .ok (.slice (some ⟨w.heap.size, 0, none⟩) 128 128) (w.alloc (.cells zeros128 5)) := fun w => by kernel_rfl
  go_enter Tryz.func58, Tryz.ntmps58
  go_wp2
  go_ret
  exact ⟨_, rfl, ((Ext.refl _).alloc _).alloc _, by simp⟩
end Go.Proofs.YtcipokldcjappaaGreat

namespace Go.Proofs.YtcipokldcjappaaGreat
open Go.RowKit

/-- the head of a table -/
def TabB (w : World) (t tb : Nat) : Prop := ∃ rc sl sk pol, Blk w t 142 #[ptr rc, (.int .i64 (pol)), ptr sl, ptr tb, ptr sk]

set_option maxRecDepth 100000 in
set_option maxHeartbeats 1000000 in
theorem tableNew_c (pol : Int) (w : World) : Calls Tryz.prog 35 #[(.int .i64 (0)), (.int .i64 (pol))] w fun e w' => ∃ t tb A, e = .returned (.pointer (some ⟨t, 0, none⟩)) ∧ TabB w' t tb ∧ TrieAt w' tb A (.slice none 0 0) [nd0, nd0] [] 0 ∧ Ext w w' ∧ w.heap.size ≤ t ∧ w.heap.size ≤ tb ∧ (∀ g, A.ownBlock = some g → w.heap.size ≤ g) := by
  go_enter Tryz.func35, Tryz.ntmps35
  go_wp2_with (first
    | (go_at_call 56; (with_reducible refine (recNew0_c _).mono ?_); rintro e w1 ⟨b1, rfl, h1, _⟩; have H1 := Lib.hid h1; clear h1)
    | (go_at_call 57; (with_reducible refine (slotsNew_c _ _).mono ?_); rintro e w2 ⟨b2, rfl, h2, _, _⟩; have H2 := Lib.hid (H1.out.trans h2); clear h2)
    | (go_at_call 55; (with_reducible refine (trieNew_c _).mono ?_); rintro e w3 ⟨b3, A3, rfl, hT, h3, hb3, hA3⟩; have HT := Lib.hid hT; have H3 := Lib.hid (H2.out.trans h3); have Hb3 := Lib.hid (Nat.le_trans H2.out.size hb3); have HA3 := Lib.hid (fun g hg => Nat.le_trans H2.out.size (hA3 g hg)); clear hT h3 hA3 hb3)
    | (go_at_call 58; (with_reducible refine (skNew_c _).mono ?_); rintro e w4 ⟨b4, rfl, h4, _⟩; have HT4 := Lib.hid (HT.out.ext h4); have H4 := Lib.hid (H3.out.trans h4); clear h4))
  go_ret
  refine ⟨_, _, _, rfl, ⟨_, _, _, _, Blk.new _ _ _⟩, HT4.out.ext ((Ext.refl _).alloc _), H4.out.alloc _, H4.out.size, Hb3.out, HA3.out⟩

/-- the head of the routes: its tree, how often each hop is used, how many there may be -/
def RibB (w : World) (r rb um : Nat) (most hops : Int) : Prop := Blk w r 130 #[ptr rb, .map (some um), (.int .i64 (most)), (.int .i64 (hops))]

set_option maxRecDepth 100000 in
set_option maxHeartbeats 1000000 in
theorem ribNew_c (n h : Int) (w : World) : Calls Tryz.prog 34 #[(.int .i64 (n)), (.int .i64 (h))] w fun e w' => ∃ r rb um A, e = .returned (.pointer (some ⟨r, 0, none⟩)) ∧ RibB w' r rb um (max 0 (min n 4096)) (max 0 (min h 65536)) ∧ TrieAt w' rb A (.slice none 0 0) [nd0, nd0] [] 0 ∧ w'.heap[um]? = some (.map #[] 0) ∧ Ext w w' ∧ w.heap.size ≤ r ∧ w.heap.size ≤ rb ∧ w.heap.size ≤ um ∧ (∀ g, A.ownBlock = some g → w.heap.size ≤ g) := by
  have hmm := @run_makeMap Tryz.prog
  go_enter Tryz.func34, Tryz.ntmps34
  go_wp2_with (first
    | (go_at_call 55; (with_reducible refine (trieNew_c _).mono ?_); rintro e w3 ⟨b3, A3, rfl, hT, h3, hb3, hA3⟩; have HT := Lib.hid hT; have H3 := Lib.hid h3; have Hb3 := Lib.hid hb3; have HA3 := Lib.hid hA3; clear hT h3 hA3 hb3))
  go_ret
  have hz := H3.out.size
  refine ⟨_, _, w3.heap.size, _, rfl, ?_, HT.out.ext (((Ext.refl _).alloc _).alloc _), ?_, (H3.out.alloc _).alloc _, ?_, Hb3.out, hz, HA3.out⟩
  · exact Blk.new' _ _ _ _ (by simp)
  · exact heap_alloc2_old _ _ _
  · omega

theorem copyNil (a : Addr) (W : World) : (Builtin.copy_ #[50, 50] 3 #[.slice (some a) 17 17, .slice none 0 0]).run Tryz.prog W = .ok (.int .i64 0) W := run_copy_nil _ W _ _ _ 31 a 17 17 Tryz.underlying50 (by kernel_rfl)
set_option maxRecDepth 100000 in
set_option maxHeartbeats 1000000 in
theorem statsNewNil_c (w : World) : Calls Tryz.prog 37 #[.slice none 0 0] w fun e w' => e = .returned (.agg (stC (List.replicate 17 0))) ∧ Ext w w' := by
  have hcp := copyNil
  go_enter Tryz.func37, Tryz.ntmps37
  go_wp2
  refine bodyPost_ret (v := .agg (stC (List.replicate 17 0))) (results_cell_row rfl _ _ w.heap.size 65 _ (0, 0) _ rfl (heap_alloc2_old _ _ _) Tryz.underlying65 rfl infoSt) rfl ⟨rfl, ?_⟩
  (repeat (first | with_reducible exact Ext.refl _ | with_reducible assumption | (with_reducible refine Ext.set ?_ (by simp <;> omega) _) | (with_reducible refine Ext.alloc ?_ _) | (with_reducible refine Ext.drew ?_) | (with_reducible refine Ext.trans ?_ (by assumption)) | exact Ext.refl _))
end Go.Proofs.YtcipokldcjappaaGreat

