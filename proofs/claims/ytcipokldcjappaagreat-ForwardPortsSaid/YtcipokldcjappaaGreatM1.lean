/-
  Part 1 of the walks behind the claim: Kit, Heap, Hold, Inv, Reg, App, Eq, Rows2, Stats, Port, Port2, Port3, Port4, Port5.
-/
import Derived.WalkKit
import Derived.WalkSpells
import Derived.WalkLawsBesides
import Derived.Maps.AppendAt
import Derived.Laws.OwnMore
import Derived.StillTail
import Derived.StillTactics
import Derived.Deep.Draws
import Derived.KernelRfl
import Derived.Test.YtcipokldcjappaaGreatProg
import Derived.Deep.MidRow
import Derived.Laws.Rows
import Derived.Laws.Externs
import Derived.Lib.Hide
import Derived.Deep.LoopGhost
import Derived.ArgAppend
import Derived.Shelf.Spec.SlicesInsertGrow
set_option linter.unusedVariables false
set_option linter.unusedSimpArgs false

namespace Go.Proofs.YtcipokldcjappaaGreat
open Go.RowKit

structure Ad where
  hi : BitVec 64
  lo : BitVec 64
  v6 : Bool
  deriving DecidableEq

structure Pf where
  a : Ad
  n : Int
  deriving DecidableEq

structure Rt where
  p : Pf
  hop : Int
  deriving DecidableEq

/-- Are two the same? By names of their own, so that simp does not take them apart. -/
def adEq (a b : Ad) : Bool := decide (a = b)
def pfEq (a b : Pf) : Bool := decide (a = b)
def rtEq (a b : Rt) : Bool := decide (a = b)
theorem adEq_iff (a b : Ad) : adEq a b = true ↔ a = b := by unfold adEq; simp
theorem pfEq_iff (a b : Pf) : pfEq a b = true ↔ a = b := by unfold pfEq; simp
theorem rtEq_iff (a b : Rt) : rtEq a b = true ↔ a = b := by unfold rtEq; simp

theorem run_min_i (P : Program) (ts : Array TypeId) (t : TypeId) (k k' : IntKind) (x y : Int) (w : World) : (Builtin.min_ ts t #[.int k x, .int k' y]).run P w = .ok (.int k (min x y)) w := by
  rw [run_min_int2]; congr 2; split <;> omega
theorem run_max_i (P : Program) (ts : Array TypeId) (t : TypeId) (k k' : IntKind) (x y : Int) (w : World) : (Builtin.max_ ts t #[.int k x, .int k' y]).run P w = .ok (.int k (max x y)) w := by
  rw [run_max_int2]; congr 2; split <;> omega
attribute [go_sem high] run_min_i run_max_i

/-- a word whose first n digits are 1 -/
def hiW (n : Int) : BitVec 64 := (BitVec.allOnes 64) <<< (64 - n).toNat

@[go_sem] theorem hiW_shl (n : Int) : IntKind.u64.wrap (18446744073709551615 * 2 ^ (64 - n).toNat) = ((hiW n).toNat : Int) := by
  unfold hiW
  generalize (64 - n).toNat = k
  rw [IntKind.wrap_u64, BitVec.toNat_shiftLeft, Nat.shiftLeft_eq, BitVec.toNat_allOnes, Int.natCast_emod, Int.natCast_mul, Int.natCast_pow]
  rfl

theorem hiW_zero : hiW 0 = 0#64 := by decide

/-- The bit operations on words, by names of their own, so that simp does not take them apart. -/
def wAnd (a b : BitVec 64) : BitVec 64 := a &&& b
def wOr (a b : BitVec 64) : BitVec 64 := a ||| b
def wXor (a b : BitVec 64) : BitVec 64 := a ^^^ b
def wAndN (a b : BitVec 64) : BitVec 64 := a &&& ~~~b

@[go_sem] theorem andNot_u64 (a b : BitVec 64) : bits .andNot .u64 (a.toNat : Int) (b.toNat : Int) = ((wAndN a b).toNat : Int) := by
  have ha := a.isLt
  have hb := b.isLt
  unfold wAndN
  rw [u64_andNot_nat _ _ ha hb, BitVec.toNat_and, BitVec.toNat_not]
@[go_sem] theorem and_u64 (a b : BitVec 64) : bits .and .u64 (a.toNat : Int) (b.toNat : Int) = ((wAnd a b).toNat : Int) := by
  unfold wAnd
  rw [u64_and_nat _ _ a.isLt b.isLt, BitVec.toNat_and]
@[go_sem] theorem or_u64 (a b : BitVec 64) : bits .or .u64 (a.toNat : Int) (b.toNat : Int) = ((wOr a b).toNat : Int) := by
  unfold wOr
  rw [u64_or_nat _ _ a.isLt b.isLt, BitVec.toNat_or]
@[go_sem] theorem xor_u64 (a b : BitVec 64) : bits .xor .u64 (a.toNat : Int) (b.toNat : Int) = ((wXor a b).toNat : Int) := by
  unfold wXor
  rw [u64_xor_nat _ _ a.isLt b.isLt, BitVec.toNat_xor]

@[go_sem] theorem setCell_twice (w : World) (a : Addr) (u v : Value) : (w.setCell a u).setCell a v = w.setCell a v := by
  unfold World.setCell
  congr 1
  apply Array.ext
  · simp
  · intro i h1 h2
    simp only [Array.getElem_modify]
    split
    · split <;> rename_i h
      · split at h <;> simp_all
        split <;> simp_all
        rw [← h.1]; simp
      · split at h <;> simp_all
    · rfl

/-- The world has grown, and nothing that was there has turned. -/
def Ext (w w' : World) : Prop := Below w.heap.size w w'
theorem Ext.refl (w : World) : Ext w w := Below.refl _ _
theorem Ext.trans {a b c : World} (h : Ext a b) (k : Ext b c) : Ext a c := Below.trans h (Below.mono k h.size)
theorem Ext.alloc {w a : World} (h : Ext w a) (o : Obj) : Ext w (a.alloc o) := Below.alloc h h.size o
theorem Ext.drew {w a : World} (h : Ext w a) : Ext w a.drew := Below.drew h
theorem Ext.set {w a : World} (h : Ext w a) {p : Addr} (hp : w.heap.size ≤ p.block) (u : Value) : Ext w (a.setCell p u) := Below.setCell h hp u
theorem Ext.size {w a : World} (h : Ext w a) : w.heap.size ≤ a.heap.size := Below.size h
theorem Ext.lt {w a : World} (h : Ext w a) {b : Nat} (hb : b < w.heap.size) : b < a.heap.size := Nat.lt_of_lt_of_le hb h.size
theorem Ext.cell {w a : World} (h : Ext w a) (b o : Nat) (hb : b < w.heap.size) : a.cell? ⟨b, o, none⟩ = w.cell? ⟨b, o, none⟩ := Below.cell (p := ⟨b, o, none⟩) h hb
theorem Ext.frozen {w a : World} (h : Ext w a) (b o : Nat) (hb : b < w.heap.size) : a.frozen? ⟨b, o, none⟩ = w.frozen? ⟨b, o, none⟩ := Below.frozen (p := ⟨b, o, none⟩) h hb
theorem Ext.block {w a : World} (h : Ext w a) (b : Nat) (hb : b < w.heap.size) : a.heap[b]? = w.heap[b]? := Below.block h b hb

end Go.Proofs.YtcipokldcjappaaGreat

namespace Go.Proofs.YtcipokldcjappaaGreat
open Go.RowKit

/-- Nothing that was there has turned, but for the blocks of S. -/
structure Keep (S : Nat → Prop) (w w' : World) : Prop where
  os : w'.os = w.os
  tape : w'.tape = w.tape
  output : w'.output = w.output
  size : w.heap.size ≤ w'.heap.size
  block : ∀ k, k < w.heap.size → ¬ S k → w'.heap[k]? = w.heap[k]?

section
variable {S S' : Nat → Prop} {w w' a b c : World}
theorem Keep.refl (S : Nat → Prop) (w : World) : Keep S w w := ⟨rfl, rfl, rfl, Nat.le_refl _, fun _ _ _ => rfl⟩
theorem Keep.trans (h : Keep S a b) (k : Keep S b c) : Keep S a c :=
  ⟨k.os.trans h.os, k.tape.trans h.tape, k.output.trans h.output, Nat.le_trans h.size k.size,
   fun i hi hs => (k.block i (Nat.lt_of_lt_of_le hi h.size) hs).trans (h.block i hi hs)⟩
theorem Keep.mono (h : Keep S a b) (hS : ∀ k, k < a.heap.size → S k → S' k) : Keep S' a b :=
  ⟨h.os, h.tape, h.output, h.size, fun k hk hs => h.block k hk (fun h' => hs (hS k hk h'))⟩
/-- What is new at the beginning may turn later. -/
theorem Keep.trans' (h : Keep S a b) (k : Keep S' b c) (hS : ∀ i, i < a.heap.size → S' i → S i) : Keep S a c :=
  ⟨k.os.trans h.os, k.tape.trans h.tape, k.output.trans h.output, Nat.le_trans h.size k.size,
   fun i hi hs => (k.block i (Nat.lt_of_lt_of_le hi h.size) (fun h' => hs (hS i hi h'))).trans (h.block i hi hs)⟩
theorem Ext.keep (h : Ext a b) (S : Nat → Prop) : Keep S a b := ⟨Below.os h, Below.tape h, Below.output h, Below.size h, fun k hk _ => Below.block h k hk⟩
theorem Keep.ext (h : Keep S a b) (hS : ∀ k, k < a.heap.size → ¬ S k) : Ext a b := ⟨h.os, h.tape, h.output, h.size, fun k hk => h.block k hk (hS k hk)⟩
theorem Keep.alloc (h : Keep S a b) (o : Obj) : Keep S a (b.alloc o) := h.trans (((Ext.refl b).alloc o).keep S)
theorem Keep.drew (h : Keep S a b) : Keep S a b.drew := h.trans (((Ext.refl b).drew).keep S)
theorem Keep.thenExt (h : Keep S a b) (k : Ext b c) : Keep S a c := h.trans (k.keep S)
theorem Keep.set (h : Keep S a b) {p : Addr} (hp : S p.block ∨ a.heap.size ≤ p.block) (u : Value) : Keep S a (b.setCell p u) :=
  h.trans' (S' := fun k => k = p.block) ⟨rfl, rfl, rfl, by simp [World.setCell], fun k _ hne => Below.heap_setCell b p u k hne⟩
    (fun i hi e => by subst e; rcases hp with hp | hp; exact hp; omega)
theorem Keep.grown (h : Keep S a b) {row : Option Nat} (hg : b.grownBy c row) (hr : ∀ k, row = some k → S k ∨ a.heap.size ≤ k) : Keep S a c :=
  h.trans' (S' := fun k => row = some k) ⟨hg.os, hg.tape, hg.output, hg.size, fun k hk hne => hg.block k hk (fun e => hne e.symm)⟩
    (fun i hi e => by rcases hr i e with hp | hp; exact hp; omega)
theorem Keep.cell (h : Keep S a b) {p : Addr} (hp : p.block < a.heap.size) (hs : ¬ S p.block) : b.cell? p = a.cell? p := World.cell?_of_block (h.block p.block hp hs)

theorem own_lt {base : Nat} {e : TypeId} {size n : Nat} {v : Value} {xs : List Value} (h : w.ownsRow base e size v n xs) {g : Nat} (hg : v.ownBlock = some g) : g < w.heap.size := by
  rcases h.2 with ⟨rfl, _⟩ | ⟨g', cap, cur, rfl, _, hh, _⟩
  · simp [Value.ownBlock] at hg
  · have : g' = g := by simpa [Value.ownBlock] using hg
    subst this
    rcases Nat.lt_or_ge g' w.heap.size with hlt | hge
    · exact hlt
    · rw [Array.getElem?_eq_none hge] at hh; cases hh

/-- An owned row stays so where its block has not turned. -/
theorem own_same {base : Nat} {e : TypeId} {size n : Nat} {v : Value} {xs : List Value} (h : w.ownsRow base e size v n xs)
    (hs : ∀ g, v.ownBlock = some g → w'.heap[g]? = w.heap[g]?) : w'.ownsRow base e size v n xs := by
  refine ⟨h.1, ?_⟩
  rcases h.2 with h2 | ⟨g', cap, cur, rfl, hb, hh, r⟩
  · exact .inl h2
  · exact .inr ⟨g', cap, cur, rfl, hb, (hs g' rfl).trans hh, r⟩
theorem own_ext {base : Nat} {e : TypeId} {size n : Nat} {v : Value} {xs : List Value} (h : w.ownsRow base e size v n xs) (hx : Ext w w') : w'.ownsRow base e size v n xs :=
  own_same h fun g hg => hx.block g (own_lt h hg)
theorem own_keep {base : Nat} {e : TypeId} {size n : Nat} {v : Value} {xs : List Value} (h : w.ownsRow base e size v n xs) (hx : Keep S w w') (hS : ∀ g, v.ownBlock = some g → ¬ S g) : w'.ownsRow base e size v n xs :=
  own_same h fun g hg => hx.block g (own_lt h hg) (hS g hg)

/-- The cells of an owned row. -/
theorem own_cell {base : Nat} {e : TypeId} {size n g cap : Nat} {xs : List Value} (h : w.ownsRow base e size (.slice (some ⟨g, 0, none⟩) n cap) n xs) (k : Nat) (u : Value) (hk : xs[k]? = some u) : w.cell? ⟨g, k, none⟩ = some u := by
  rcases h.2 with ⟨h2, _⟩ | ⟨g', cap', cur, hv, _, hh, hn, _, hcs, ht⟩
  · cases h2
  · simp only [Value.slice.injEq, Option.some.injEq, Addr.mk.injEq, and_true] at hv
    obtain ⟨rfl, _⟩ := hv
    have hlt : k < xs.length := (List.getElem?_eq_some_iff.1 hk).1
    rw [h.1] at hlt
    rw [← ht, List.getElem?_take, if_pos hlt] at hk
    simp only [World.cell?, hh, Option.isSome_none, Bool.false_eq_true, if_false]
    rw [← hk, Array.getElem?_toList]
theorem own_frozen {base : Nat} {e : TypeId} {size n g cap : Nat} {xs : List Value} (h : w.ownsRow base e size (.slice (some ⟨g, 0, none⟩) n cap) n xs) (k : Nat) : w.frozen? ⟨g, k, none⟩ = false := by
  rcases h.2 with ⟨h2, _⟩ | ⟨g', cap', cur, hv, _, hh, _⟩
  · cases h2
  · simp only [Value.slice.injEq, Option.some.injEq, Addr.mk.injEq, and_true] at hv
    obtain ⟨rfl, _⟩ := hv
    simp [World.frozen?, hh]
/-- A store into an owned row. -/
theorem own_set {base : Nat} {e : TypeId} {size n g cap : Nat} {xs : List Value} (h : w.ownsRow base e size (.slice (some ⟨g, 0, none⟩) n cap) n xs) (k : Nat) (u : Value) (hk : k < xs.length) :
    (w.setCell ⟨g, k, none⟩ u).ownsRow base e size (.slice (some ⟨g, 0, none⟩) n cap) n (xs.set k u) := by
  refine ⟨by simpa using h.1, ?_⟩
  rcases h.2 with ⟨h2, _⟩ | ⟨g', cap', cur, hv, hb, hh, hn, hm, hcs, ht⟩
  · cases h2
  · simp only [Value.slice.injEq, Option.some.injEq, Addr.mk.injEq, and_true] at hv
    obtain ⟨rfl, _, rfl⟩ := hv
    refine .inr ⟨g, cap, cur.setIfInBounds k u, rfl, hb, ?_, hn, hm, by simpa using hcs, ?_⟩
    · simp [World.setCell, Array.getElem?_modify, hh]
    · rw [Array.toList_setIfInBounds, List.take_set, ht]
/-- An owned row of which fewer are told. -/
theorem own_take {base : Nat} {e : TypeId} {size n g cap : Nat} {xs : List Value} (h : w.ownsRow base e size (.slice (some ⟨g, 0, none⟩) n cap) n xs) (m : Nat) (hm : m ≤ n) :
    w.ownsRow base e size (.slice (some ⟨g, 0, none⟩) m cap) m (xs.take (m * size)) := by
  rcases h.2 with ⟨h2, _⟩ | ⟨g', cap', cur, hv, hb, hh, hn, hmx, hcs, ht⟩
  · cases h2
  · simp only [Value.slice.injEq, Option.some.injEq, Addr.mk.injEq, and_true] at hv
    obtain ⟨rfl, _, rfl⟩ := hv
    have hle : m * size ≤ n * size := Nat.mul_le_mul_right _ hm
    refine ⟨by rw [List.length_take, h.1]; omega, .inr ⟨g, cap, cur, rfl, hb, hh, by omega, hmx, hcs, ?_⟩⟩
    rw [← ht, List.take_take]; congr 1; omega
/-- An owned row that is not empty lies in a block. -/
theorem own_form {base : Nat} {e : TypeId} {size n : Nat} {v : Value} {xs : List Value} (h : w.ownsRow base e size v n xs) : (v = .slice none 0 0 ∧ n = 0) ∨ ∃ g cap, v = .slice (some ⟨g, 0, none⟩) n cap ∧ n ≤ cap ∧ cap ≤ maxLen ∧ g < w.heap.size := by
  rcases h.2 with h2 | ⟨g', cap', cur, hv, hb, hh, hn, hm, _⟩
  · exact .inl h2
  · exact .inr ⟨g', cap', hv, hn, hm, own_lt h (by rw [hv]; rfl)⟩
end
theorem ownB {g g' n c : Nat} (h : (Value.slice (some ⟨g, 0, none⟩) n c).ownBlock = some g') : g = g' := by simpa [Value.ownBlock] using h
/-- Block b holds just these cells. -/
def Blk (w : World) (b : Nat) (t : TypeId) (cs : Array Value) : Prop := w.heap[b]? = some (.cells cs t (0, 0))
section
variable {S : Nat → Prop} {w w' : World} {b : Nat} {t : TypeId} {cs : Array Value}
theorem Blk.lt (h : Blk w b t cs) : b < w.heap.size := by
  rcases Nat.lt_or_ge b w.heap.size with hlt | hge
  · exact hlt
  · unfold Blk at h; rw [Array.getElem?_eq_none hge] at h; cases h
theorem Blk.cell (h : Blk w b t cs) (i : Nat) : w.cell? ⟨b, i, none⟩ = cs[i]? := by unfold Blk at h; simp [World.cell?, h]
theorem Blk.frozen (h : Blk w b t cs) (i : Nat) : w.frozen? ⟨b, i, none⟩ = false := by unfold Blk at h; simp [World.frozen?, h]
theorem Blk.ext (h : Blk w b t cs) (hx : Ext w w') : Blk w' b t cs := (hx.block b h.lt).trans h
theorem Blk.keep (h : Blk w b t cs) (hx : Keep S w w') (hS : ¬ S b) : Blk w' b t cs := (hx.block b h.lt hS).trans h
theorem Blk.set (h : Blk w b t cs) (i : Nat) (u : Value) : Blk (w.setCell ⟨b, i, none⟩ u) b t (cs.setIfInBounds i u) := by
  unfold Blk at h ⊢
  simp [World.setCell, Array.getElem?_modify, h]
theorem Blk.far (h : Blk w b t cs) {p : Addr} (hp : b ≠ p.block) (u : Value) : Blk (w.setCell p u) b t cs := (Below.heap_setCell w p u b hp).trans h
theorem Blk.new (w : World) (t : TypeId) (cs : Array Value) : Blk (w.alloc (.cells cs t)) w.heap.size t cs := heap_alloc_new w _
theorem Blk.ne {b' : Nat} {t' : TypeId} {cs' : Array Value} (h : Blk w b t cs) (h' : Blk w b' t' cs') (hne : t ≠ t') : b ≠ b' := by
  rintro rfl
  unfold Blk at h h'
  rw [h] at h'
  injection h' with h'
  injection h' with _ ht
  exact hne ht
theorem own_blk_ne {base : Nat} {e : TypeId} {size n : Nat} {v : Value} {xs : List Value} (h : w.ownsRow base e size v n xs) (hg : Blk w b t cs) (hne : e ≠ t) : v.ownBlock ≠ some b := by
  rcases h.2 with ⟨rfl, _⟩ | ⟨g', cap, cur, rfl, _, hh, _⟩
  · simp [Value.ownBlock]
  · intro he
    have : g' = b := by simpa [Value.ownBlock] using he
    subst this
    exact Blk.ne (t := e) hh hg hne rfl
theorem own_own_ne {base base' : Nat} {e e' : TypeId} {size size' n n' : Nat} {v v' : Value} {xs xs' : List Value} (h : w.ownsRow base e size v n xs) (h' : w.ownsRow base' e' size' v' n' xs') (hne : e ≠ e') {g : Nat} (hg : v.ownBlock = some g) : v'.ownBlock ≠ some g := by
  rcases h.2 with ⟨rfl, _⟩ | ⟨g1, cap, cur, rfl, _, hh, _⟩
  · simp [Value.ownBlock] at hg
  · have : g1 = g := by simpa [Value.ownBlock] using hg
    subst this
    exact own_blk_ne h' (b := g1) (t := e) (cs := cur) hh (Ne.symm hne)
end
end Go.Proofs.YtcipokldcjappaaGreat

namespace Go.Proofs.YtcipokldcjappaaGreat
section
variable {P : Program} {ops : Array Oper} {md : Region.Mode} {S : World → Prop}

/-- Operation o yields v in every world that meets S, and leaves one that meets S. -/
def HoldsAt (P : Program) (ops : Array Oper) (S : World → Prop) (o : Oper) (v : Value) (a : Act) : Prop :=
  (Region.wanted o (yielded ops a.tmps) = true ∧ ∀ w, S w → o.wp P a w (fun a' w' => a' = a.put o.dst v ∧ S w') (fun _ _ _ => False)) ∨
  (Region.wanted o (yielded ops a.tmps) = false ∧ v = undef)

def hOp (P : Program) (ops : Array Oper) (S : World → Prop) (i : Nat) (K : Act → Prop) (a : Act) : Prop :=
  match ops[i]? with
  | none => K a
  | some o => ∃ v, HoldsAt P ops S o v a ∧ K (a.put o.dst v)

def wpHold (P : Program) (ops : Array Oper) (S : World → Prop) (Q : Act → Prop) : List Oper → Act → Prop
  | [], a => Q a
  | o :: rest, a => ∃ v, HoldsAt P ops S o v a ∧ wpHold P ops S Q rest (a.put o.dst v)

theorem hOp_mono {i : Nat} {a : Act} {K K' : Act → Prop} (h : ∀ a, K a → K' a) (hh : hOp P ops S i K a) : hOp P ops S i K' a := by
  unfold hOp at *
  split
  · exact h _ (by simpa [*] using hh)
  · rename_i o ho
    simp only [ho] at hh
    obtain ⟨v, hy, hk⟩ := hh
    exact ⟨v, hy, h _ hk⟩

theorem upon_noQ {o : Oper} {a : Act} {K : Act → World → Prop} {Q : Exit → Act → World → Prop} {r : Result Next}
    (h : o.upon P a K (fun _ _ _ => False) r) : o.upon P a K Q r := by
  cases r with
  | ok n w' =>
    cases n <;> simp only [Oper.upon] at h ⊢ <;> first | exact h | skip
    case enter f args =>
      refine Calls.mono h (fun e w'' he => ?_)
      cases e with
      | returned v => exact he
      | panicked c => exact he.elim
      | outgrown => obtain ⟨_, _, hf⟩ := he; exact hf.elim
  | halt x w' => cases x <;> simp only [Oper.upon] at h ⊢ <;> exact h.elim

theorem wp_noQ {o : Oper} {a : Act} {w : World} {K : Act → World → Prop} {Q : Exit → Act → World → Prop}
    (h : o.wp P a w K (fun _ _ _ => False)) : o.wp P a w K Q := upon_noQ h

theorem HoldsAt.hOp {i : Nat} {o : Oper} {v : Value} {a : Act} (hi : ops[i]? = some o) (hy : HoldsAt P ops S o v a) {K : Act → Prop} (h : K (a.put o.dst v)) : hOp P ops S i K a := by
  unfold Go.Proofs.YtcipokldcjappaaGreat.hOp
  simp only [hi]
  exact ⟨v, hy, h⟩

theorem HoldsAt.of_same {o : Oper} {v : Value} {a a' : Act} {dst : Option Tmp} {u : Value} (hy : HoldsAt P ops S o v a) (ha : a' = a.put dst u) (hd : ∀ d, dst = some d → o.dst ≠ some d)
    (he : execOp a'.eval o = execOp a.eval o) (hw : Region.wanted o (yielded ops a'.tmps) = Region.wanted o (yielded ops a.tmps)) : HoldsAt P ops S o v a' := by
  rcases hy with ⟨h1, h2⟩ | ⟨h1, h2⟩
  · refine .inl ⟨by rw [hw]; exact h1, fun w hS => ?_⟩
    have h3 := h2 w hS
    unfold Oper.wp at h3 ⊢
    rw [he]
    generalize (execOp a.eval o).run P w = r at *
    subst ha
    cases r with
    | ok n w' =>
      cases n <;> simp only [Oper.upon] at h3 ⊢
      case value x => exact ⟨by rw [Act.put_comm a u x hd, h3.1, Act.put_comm a u v hd], h3.2⟩
      case skip => exact ⟨by rw [Act.put_comm a u undef hd, h3.1, Act.put_comm a u v hd], h3.2⟩
      case enter f args =>
        refine Calls.mono h3 (fun e w'' he => ?_)
        cases e with
        | returned x => exact ⟨by rw [Act.put_comm a u x hd, he.1, Act.put_comm a u v hd], he.2⟩
        | panicked c => exact he
        | outgrown => obtain ⟨_, _, hf⟩ := he; exact hf.elim
      case row f args =>
        refine Rows.mono h3 (fun x w'' he => ?_)
        exact ⟨by rw [Act.put_comm a u x hd, he.1, Act.put_comm a u v hd], he.2⟩
      case defer d =>
        exfalso
        have h4 := congrArg Act.defers h3.1
        have : ∀ (b : Act) (t : Option Tmp) (x : Value), (b.put t x).defers = b.defers := fun b t x => by cases t <;> rfl
        simp only [this] at h4
        simpa using congrArg List.length h4
    | halt x w' => cases x <;> simp only [Oper.upon] at h3 ⊢ <;> exact h3
  · exact .inr ⟨by rw [hw]; exact h1, h2⟩

theorem hOp_put {j : Nat} {oi oj : Oper} {v : Value} (hj : ops[j]? = some oj) (hap : oi.apart ops oj = true)
    (hsi : ∀ cs b, oi.op ≠ .select cs b) (hsj : ∀ cs b, oj.op ≠ .select cs b) {K : Act → Prop} {a : Act}
    (hy : HoldsAt P ops S oi v a) (h : hOp P ops S j K (a.put oi.dst v)) :
    hOp P ops S j (fun a' => HoldsAt P ops S oi v a' ∧ K (a'.put oi.dst v)) a := by
  obtain ⟨h1, h2, h3⟩ := Oper.apart_spec hap
  have h2' : ∀ d, oj.dst = some d → oi.dst ≠ some d := fun d hd he => h2 d he hd
  have keep : ∀ u, HoldsAt P ops S oi v (a.put oj.dst u) := fun u =>
    hy.of_same rfl h2' (execOp_put oi hsi a oj.dst u h3) (wanted_put oi a oj.dst u h3)
  unfold hOp at *
  simp only [hj] at *
  obtain ⟨u, hu, hk⟩ := h
  refine ⟨u, ?_, keep u, by rw [← Act.put_comm a v u h2]; exact hk⟩
  -- oj holds at a: from a.put oi.dst v back to a
  rcases hu with ⟨g1, g2⟩ | ⟨g1, g2⟩
  · rw [wanted_put oj a oi.dst v h1] at g1
    refine .inl ⟨g1, fun w hS => ?_⟩
    have g3 := g2 w hS
    unfold Oper.wp at g3 ⊢
    rw [execOp_put oj hsj a oi.dst v h1] at g3
    generalize (execOp a.eval oj).run P w = r at *
    have back : ∀ x, (a.put oi.dst v).put oj.dst x = (a.put oi.dst v).put oj.dst u → a.put oj.dst x = a.put oj.dst u := fun x hx => by
      cases hd : oj.dst with
      | none => rfl
      | some d =>
        have hne : ∀ d', oi.dst = some d' → d' ≠ d := fun d' h' e => h2 d' h' (by rw [hd, e])
        rw [hd] at hx
        cases ho : oi.dst with
        | none => rw [ho] at hx; exact hx
        | some d' =>
          rw [ho] at hx
          have hne' := hne d' ho
          simp only [Act.put, Act.mk.injEq, and_true] at hx ⊢
          by_cases hds : d < a.tmps.size
          · have h5 := congrArg (fun t => t[d]?) hx
            simp [hds] at h5
            rw [h5]
          · simp [Array.setIfInBounds, hds]
    cases r with
    | ok n w' =>
      cases n <;> simp only [Oper.upon] at g3 ⊢
      case value x => exact ⟨back x g3.1, g3.2⟩
      case skip => exact ⟨back _ g3.1, g3.2⟩
      case enter f args =>
        refine Calls.mono g3 (fun e w'' he => ?_)
        cases e with
        | returned x => exact ⟨back x he.1, he.2⟩
        | panicked c => exact he
        | outgrown => obtain ⟨_, _, hf⟩ := he; exact hf.elim
      case row f args => exact Rows.mono g3 (fun x w'' he => ⟨back x he.1, he.2⟩)
      case defer d =>
        exfalso
        have h4 := congrArg Act.defers g3.1
        have : ∀ (b : Act) (t : Option Tmp) (x : Value), (b.put t x).defers = b.defers := fun b t x => by cases t <;> rfl
        simp only [this] at h4
        simpa using congrArg List.length h4
    | halt x w' => cases x <;> simp only [Oper.upon] at g3 ⊢ <;> exact g3
  · exact .inr ⟨by rw [← wanted_put oj a oi.dst v h1]; exact g1, g2⟩

def wpAnyHL (P : Program) (md : Region.Mode) (ops : Array Oper) (S : World → Prop) (n : Nat) (L : Array Bool → Act → Prop) : Nat → Array Bool → Act → Prop
  | 0, listed, a => L listed a
  | f + 1, listed, a =>
    Region.ready md ops listed ≠ [] ∧ ∀ i ∈ Region.ready md ops listed, i < n ∧ hOp P ops S i (wpAnyHL P md ops S n L f (listed.setIfInBounds i true)) a

theorem wpOp_of_hOp {i : Nat} {a : Act} {K : Act → Prop} {K' : Act → World → Prop} {Q' : Exit → Act → World → Prop} {w : World} (hS : S w) (h : ∀ a w, S w → K a → K' a w) (hh : hOp P ops S i K a) : wpOp P ops Q' i K' a w := by
  unfold hOp at hh
  unfold wpOp
  split
  · rename_i ho; simp only [ho] at hh; exact h _ _ hS hh
  · rename_i o ho
    simp only [ho] at hh
    obtain ⟨v, ⟨hw, hy⟩ | ⟨hw, rfl⟩, hk⟩ := hh
    · rw [if_pos hw]
      exact .inl (Oper.wp_mono (fun a' w' ⟨ha, hs⟩ => by subst ha; exact h _ _ hs hk) (wp_noQ (hy w hS)))
    · rw [if_neg (by simp [hw])]
      exact h _ _ hS hk

theorem wpAny_of_headH {n g : Nat} {L : Array Bool → Act → Prop} {Q' : Exit → Act → World → Prop} (hL : ∀ listed a w, S w → L listed a → wpAny P md ops Q' g listed a w) :
    ∀ (f : Nat) (listed : Array Bool) (a : Act) (w : World), S w → wpAnyHL P md ops S n L f listed a → wpAny P md ops Q' (f + g) listed a w
  | 0, listed, a, w, hS, h => by rw [Nat.zero_add]; exact hL _ _ _ hS h
  | f + 1, listed, a, w, hS, h => by
    rw [show f + 1 + g = (f + g) + 1 by omega]
    exact ⟨fun h0 => absurd h0 h.1, fun i hi => wpOp_of_hOp hS (fun a' w' hs' h' => wpAny_of_headH hL f _ a' w' hs' h') (h.2 i hi).2⟩

theorem wpAnyHL_first {n i : Nat} {oi : Oper} {v : Value} {L : Array Bool → Act → Prop} (hi : ops[i]? = some oi) (hsel : ∀ (j : Nat) (o : Oper) cs b, ops[j]? = some o → o.op ≠ .select cs b)
    (hs : Region.sinkB md ops n = true) (hc : Region.chainB md ops n = true) (hn : n < ops.size) (hin : i < n)
    (hdone : ∀ listed a, L listed a → ∀ j ∈ Region.ready md ops listed, n ≤ j) :
    ∀ (f : Nat) (listed : Array Bool) (a : Act), HeadInv md ops n listed →
      (∀ j oj, ops[j]? = some oj → j ≠ i → listed.getD j true = false → (∀ e ∈ oj.after, Region.binds md e = true → e.on ≠ i) → oi.apart ops oj = true) →
      i ∈ Region.ready md ops listed → HoldsAt P ops S oi v a →
      wpAnyHL P md ops S n L f (listed.setIfInBounds i true) (a.put oi.dst v) → wpAnyHL P md ops S n L (f + 1) listed a := by
  intro f
  induction f with
  | zero =>
    intro listed a inv _ hr hy H
    have hun := (mem_ready.1 hr).1
    refine ⟨fun h => (by rw [h] at hr; cases hr), fun j hj => ?_⟩
    have hjn : j < n := by
      rcases Nat.lt_or_ge j n with h | h
      · exact h
      · exact absurd hj (tail_waits hs hc hn inv _ i rfl hin hun j h)
    refine ⟨hjn, ?_⟩
    by_cases hji : j = i
    · subst hji; exact hy.hOp hi H
    · have := hdone _ _ H j (ready_mono hj hji)
      omega
  | succ f ih =>
    intro listed a inv hfree hr hy H
    have hun := (mem_ready.1 hr).1
    refine ⟨fun h => (by rw [h] at hr; cases hr), fun j hj => ?_⟩
    have hjn : j < n := by
      rcases Nat.lt_or_ge j n with h | h
      · exact h
      · exact absurd hj (tail_waits hs hc hn inv _ i rfl hin hun j h)
    refine ⟨hjn, ?_⟩
    by_cases hji : j = i
    · subst hji; exact hy.hOp hi H
    · have h1 := (H.2 j (ready_mono hj hji)).2
      obtain ⟨hjun, oj, hoj, hall⟩ := mem_ready.1 hj
      have hnot : ∀ e ∈ oj.after, Region.binds md e = true → e.on ≠ i := fun e he hb heq => by
        have h1 := hall e he hb
        rw [heq, getD_both hun] at h1
        cases h1
      have h2 := hOp_put hoj (hfree j oj hoj hji hjun hnot) (fun cs b => hsel i oi cs b hi) (fun cs b => hsel j oj cs b hoj) hy h1
      have hfree' : ∀ k ok, ops[k]? = some ok → k ≠ i → (listed.setIfInBounds j true).getD k true = false →
          (∀ e ∈ ok.after, Region.binds md e = true → e.on ≠ i) → oi.apart ops ok = true := fun k ok hk hki hun hno => by
        refine hfree k ok hk hki ?_ hno
        by_cases hjk : j = k
        · subst hjk; exact hjun
        · rw [getD_set_ne true hjk] at hun; exact hun
      refine hOp_mono (fun a' h3 => ih (listed.setIfInBounds j true) a' (inv.set hj hjn) hfree' (ready_mono hr (Ne.symm hji)) h3.1 ?_) h2
      rw [Array.setIfInBounds_comm _ _ hji]
      exact h3.2

theorem wpAnyHL_lex {n g : Nat} {Lq : Act → Prop} (hsel : Region.noSelect ops = true) (hs : Region.sinkB md ops n = true) (hc : Region.chainB md ops n = true) (hn : n < ops.size) :
    ∀ (l : List Oper) (k : Nat) (listed : Array Bool) (a : Act), (∀ j, j < l.length → l[j]? = ops[k + j]?) → k + l.length = n → HeadInv md ops n listed →
    Region.lexHead md ops g l.length k listed = true → wpHold P ops S Lq l a →
    wpAnyHL P md ops S n (fun listed' a' => Region.seqB md ops g n listed' = true ∧ Lq a') l.length listed a
  | [], k, listed, a, _, hk, _, hB, h => by
    have : k = n := by simpa using hk
    subst this
    exact ⟨by simpa [Region.lexHead] using hB, h⟩
  | o :: l, k, listed, a, hl, hk, inv, hB, h => by
    have h0 : ops[k]? = some o := by simpa using (hl 0 (by simp)).symm
    simp only [List.length_cons, Region.lexHead, Bool.and_eq_true] at hB
    obtain ⟨⟨hr, hf⟩, hB'⟩ := hB
    have hkn : k < n := by simp only [List.length_cons] at hk; omega
    have hr' : k ∈ Region.ready md ops listed := by simpa using hr
    obtain ⟨v, hy, hK⟩ := h
    exact wpAnyHL_first h0 (Region.noSelect_spec hsel) hs hc hn hkn (fun listed' a' hL => seqB_ready hL.1) l.length listed a inv (Region.free_spec h0 hf) hr' hy
      (wpAnyHL_lex hsel hs hc hn l (k + 1) _ _ (fun j hj => by have := hl (j + 1) (by simp; omega); simpa [Nat.add_assoc, Nat.add_comm 1 j] using this) (by simp only [List.length_cons] at hk; omega) (inv.set hr' hkn) hB' hK)

theorem wp_region_hold {id : Nat} {Q : Exit → Act → World → Prop} {a : Act} {w : World} {l : List Oper} (S : World → Prop) (n : Nat) (hm : P.follows .mixedOrders = true) (hB : Region.lexTailB .any l.toArray n = true)
    (hS : S { w with drawn := w.drawn + 1 })
    (h : wpHold P l.toArray S (fun a' => ∀ w', S w' → wpList P l.toArray Q (l.drop n) a' w') (l.take n) a) : (Code.region id l.toArray true).wp P Q a w := by
  simp only [Region.lexTailB, Bool.and_eq_true, decide_eq_true_eq] at hB
  obtain ⟨⟨⟨⟨hsel, hn⟩, hs⟩, hc⟩, hlex⟩ := hB
  have hn' : n < l.length := by simpa using hn
  have htl : (l.take n).length = n := by simp; omega
  have hdl : (l.drop n).length = l.toArray.size - n := by simp
  have inv0 : HeadInv .any l.toArray n (Array.replicate l.toArray.size false) :=
    ⟨by simp, fun j oj _ hl => (by rw [getD_replicate_false] at hl; cases hl), fun t _ ht => getD_in (by simpa using ht) (getD_replicate_false _ _)⟩
  have H := wpAnyHL_lex (md := .any) (g := l.toArray.size - n) hsel hs hc hn (l.take n) 0 _ a (fun j hj => by
    have hj' : j < n := by rw [htl] at hj; exact hj
    simp [hj']) (by simpa using htl) inv0 (by rw [htl]; exact hlex) h
  refine wp_region_any hm ?_
  have := wpAny_of_headH (Q' := Q) (g := l.toArray.size - n) (fun listed a' w' hS' hL => by
    have := wpAny_of_seq (md := .any) (Q' := Q) (l.drop n) n listed a' w' (fun j => by simp [List.getElem?_drop]) (by rw [hdl]; exact hL.1) (hL.2 w' hS')
    rwa [hdl] at this) _ _ _ { w with drawn := w.drawn + 1 } hS H
  rw [htl, show n + (l.toArray.size - n) = l.toArray.size by omega] at this
  exact this

theorem hold_nil {Q : Act → Prop} {a : Act} (h : Q a) : wpHold P ops S Q [] a := h
theorem hold_cons {Q : Act → Prop} {a : Act} {o : Oper} {rest : List Oper} {v : Value} (hg : Region.wanted o (yielded ops a.tmps) = true)
    (h : ∀ w, S w → o.wp P a w (fun a' w' => a' = a.put o.dst v ∧ S w') (fun _ _ _ => False))
    (hk : wpHold P ops S Q rest (a.put o.dst v)) : wpHold P ops S Q (o :: rest) a := ⟨v, .inl ⟨hg, h⟩, hk⟩
theorem hold_skip {Q : Act → Prop} {a : Act} {o : Oper} {rest : List Oper} (hg : Region.wanted o (yielded ops a.tmps) = false)
    (hk : wpHold P ops S Q rest (a.put o.dst undef)) : wpHold P ops S Q (o :: rest) a := ⟨undef, .inr ⟨hg, rfl⟩, hk⟩

theorem hold_cons2 {Q : Act → Prop} {a a' : Act} {o : Oper} {rest : List Oper} {v : Value} (hg : Region.wanted o (yielded ops a.tmps) = true)
    (h : ∀ w, S w → o.wp P a w (fun a' w' => a' = a.put o.dst v ∧ S w') (fun _ _ _ => False)) (hp : a.put o.dst v = a')
    (hk : wpHold P ops S Q rest a') : wpHold P ops S Q (o :: rest) a := ⟨v, .inl ⟨hg, h⟩, hp ▸ hk⟩
theorem hold_skip2 {Q : Act → Prop} {a a' : Act} {o : Oper} {rest : List Oper} (hg : Region.wanted o (yielded ops a.tmps) = false) (hp : a.put o.dst undef = a')
    (hk : wpHold P ops S Q rest a') : wpHold P ops S Q (o :: rest) a := ⟨undef, .inr ⟨hg, rfl⟩, hp ▸ hk⟩

/-- The walk of a region in which nothing that was there before it is written. -/
theorem wp_region_ext {id : Nat} {Q : Exit → Act → World → Prop} {a : Act} {w : World} {l : List Oper} (n : Nat) (hm : P.follows .mixedOrders = true) (hB : Region.lexTailB .any l.toArray n = true)
    (h : wpHold P l.toArray (Ext w) (fun a' => ∀ w', Ext w w' → wpList P l.toArray Q (l.drop n) a' w') (l.take n) a) : (Code.region id l.toArray true).wp P Q a w :=
  wp_region_hold (Ext w) n hm hB (Ext.refl w).drew h
end
end Go.Proofs.YtcipokldcjappaaGreat

namespace Go.Proofs.YtcipokldcjappaaGreat
section
variable {P : Program} {ops : Array Oper} {md : Region.Mode} {S : World → Prop}

/-- What an operation yields, where it panics nowhere. -/
def yields (P : Program) (o : Oper) (a : Act) (w : World) (R : Value → World → Prop) : Prop :=
  match (execOp a.eval o).run P w with
  | .ok (.value v) w' => R v w'
  | .ok .skip w' => R undef w'
  | .ok (.enter f args) w' => Calls P f args w' fun e w'' => ∃ v, e = .returned v ∧ R v w''
  | _ => False

theorem wp_of_yields {o : Oper} {a : Act} {w : World} {R : Value → World → Prop} {K : Act → World → Prop} {Q : Exit → Act → World → Prop}
    (h : yields P o a w R) (hk : ∀ v w', R v w' → K (a.put o.dst v) w') : o.wp P a w K Q := by
  unfold yields at h
  unfold Oper.wp
  generalize (execOp a.eval o).run P w = r at *
  cases r with
  | ok n w' =>
    cases n <;> simp only [Oper.upon] at h ⊢ <;> first | exact hk _ _ h | skip
    case enter f args =>
      refine Calls.mono h (fun e w'' he => ?_)
      obtain ⟨v, rfl, hr⟩ := he
      exact hk _ _ hr
    all_goals exact h.elim
  | halt x w' => exact h.elim

structure Fix (P : Program) (ops : Array Oper) (S : World → Prop) (o : Oper) (a : Act) (v : Value) : Prop where
  out : (Region.wanted o (yielded ops a.tmps) = true ∧ ∀ w, S w → yields P o a w fun u w' => u = v ∧ S w' ∧ Ext w w') ∨ (Region.wanted o (yielded ops a.tmps) = false ∧ v = undef)
structure Loose (P : Program) (ops : Array Oper) (S : World → Prop) (o : Oper) (a : Act) (E : Value → World → Prop) : Prop where
  wanted : Region.wanted o (yielded ops a.tmps) = true
  out : ∀ w, S w → yields P o a w fun u w' => E u w' ∧ S w' ∧ Ext w w'

/-- The walk in the order of the text: loose operations lay nothing in their slots. -/
def wpT (P : Program) (ops : Array Oper) (S : World → Prop) (lo : Nat → Bool) (E : Nat → Value → World → Prop) (Q : Act → Prop) : Nat → List Oper → Act → Prop
  | _, [], a => Q a
  | i, o :: rest, a => if lo i then Loose P ops S o a (E i) ∧ wpT P ops S lo E Q (i + 1) rest a else ∃ v, Fix P ops S o a v ∧ wpT P ops S lo E Q (i + 1) rest (a.put o.dst v)

/-- Two acts agree on what an operation looks at. -/
def Alike (ops : Array Oper) (o : Oper) (a b : Act) : Prop := ∀ t ∈ o.looksAt ops, a.tmps[t]? = b.tmps[t]?
theorem alike_eval {o : Oper} {a b : Act} (h : Alike ops o a b) : ∀ x ∈ o.op.operands, a.eval x = b.eval x := by
  intro x hx
  cases x with
  | tmp t =>
    have : t ∈ o.looksAt ops := by
      unfold Oper.looksAt
      refine List.mem_append_left _ (List.mem_filterMap.2 ⟨.tmp t, by simpa using hx, rfl⟩)
    have := h t this
    simp [Act.eval, this]
  | const v => rfl
  | global g => rfl
  | func f => rfl
theorem alike_exec {o : Oper} {a b : Act} (hs : ∀ cs x, o.op ≠ .select cs x) (h : Alike ops o a b) : execOp a.eval o = execOp b.eval o := execOp_congr o hs (alike_eval h)
theorem alike_wanted {o : Oper} {a b : Act} (h : Alike ops o a b) : Region.wanted o (yielded ops a.tmps) = Region.wanted o (yielded ops b.tmps) := by
  unfold Region.wanted
  cases hg : o.guard with
  | none => rfl
  | some g =>
    obtain ⟨g, want⟩ := g
    simp only
    congr 1
    unfold yielded
    cases hd : (ops[g]?).bind (·.dst) with
    | none => rfl
    | some t =>
      have : t ∈ o.looksAt ops := by
        unfold Oper.looksAt
        rw [hg]
        refine List.mem_append_right _ ?_
        simp [hd]
      have := h t this
      simp [this]

/-- Each operation ahead of n looks at slots that no such operation writes, or that one writes that is not loose and that it waits for itself; no two write one slot; edges go back. -/
def okOp (ops : Array Oper) (n : Nat) (lo : Nat → Bool) (i : Nat) : Bool :=
  match ops[i]? with
  | none => false
  | some o =>
    (o.looksAt ops).all (fun t => (List.range n).all fun j => ((ops[j]?).bind (·.dst) != some t) || (decide (j < i) && !lo j && o.after.any (fun e => Region.binds .any e && e.on == j))) &&
    (match o.dst with | none => !lo i | some d => (List.range n).all fun j => decide (j = i) || ((ops[j]?).bind (·.dst) != some d)) &&
    o.after.all (fun e => !Region.binds .any e || decide (e.on < i))
def okB (ops : Array Oper) (n : Nat) (lo : Nat → Bool) : Bool := (List.range n).all (okOp ops n lo)

def cnt (listed : Array Bool) : Nat → Nat
  | 0 => 0
  | k + 1 => cnt listed k + if listed.getD k true then 0 else 1
theorem cnt_ne {listed : Array Bool} {i : Nat} : ∀ k, k ≤ i → cnt (listed.setIfInBounds i true) k = cnt listed k
  | 0, _ => rfl
  | k + 1, h => by simp only [cnt]; rw [cnt_ne k (by omega), getD_set_ne true (by omega)]
theorem cnt_set {listed : Array Bool} {i : Nat} (hi : listed.getD i true = false) : ∀ k, i < k → cnt (listed.setIfInBounds i true) k + 1 = cnt listed k
  | 0, h => by omega
  | k + 1, h => by
    simp only [cnt]
    by_cases hk : i = k
    · subst hk
      rw [cnt_ne i (Nat.le_refl _), hi]
      have : i < listed.size := by
        rcases Nat.lt_or_ge i listed.size with h' | h'
        · exact h'
        · simp [Array.getElem?_eq_none h'] at hi
      simp [this]
    · rw [getD_set_ne true hk, ← cnt_set hi k (by omega)]
      omega
theorem cnt_zero {listed : Array Bool} : ∀ k, cnt listed k = 0 → ∀ i, i < k → listed.getD i true = true
  | 0, _, i, hi => by omega
  | k + 1, h, i, hi => by
    simp only [cnt] at h
    by_cases hk : i = k
    · subst hk
      cases hb : listed.getD i true with
      | true => rfl
      | false => rw [hb] at h; simp at h
    · exact cnt_zero k (by omega) i (by omega)
theorem cnt_pos {listed : Array Bool} : ∀ k, 0 < cnt listed k → ∃ i, i < k ∧ listed.getD i true = false ∧ ∀ j, j < i → listed.getD j true = true
  | 0, h => by simp [cnt] at h
  | k + 1, h => by
    by_cases hk : 0 < cnt listed k
    · obtain ⟨i, h1, h2, h3⟩ := cnt_pos k hk
      exact ⟨i, by omega, h2, h3⟩
    · simp only [cnt] at h
      refine ⟨k, by omega, ?_, fun j hj => cnt_zero k (by omega) j hj⟩
      cases hb : listed.getD k true with
      | false => rfl
      | true => rw [hb] at h; simp at h; omega

structure RInv (ops : Array Oper) (n : Nat) (S : World → Prop) (lo : Nat → Bool) (E : Nat → Value → World → Prop) (A : Act) (listed : Array Bool) (a : Act) (w : World) : Prop where
  s : S w
  defers : a.defers = A.defers
  size : a.tmps.size = A.tmps.size
  far : ∀ t, (∀ j, j < n → (ops[j]?).bind (·.dst) ≠ some t) → a.tmps[t]? = A.tmps[t]?
  near : ∀ j, j < n → lo j = false → listed.getD j true = true → ∀ t, (ops[j]?).bind (·.dst) = some t → a.tmps[t]? = A.tmps[t]?
  loose : ∀ j, j < n → lo j = true → listed.getD j true = true → ∀ t, (ops[j]?).bind (·.dst) = some t → E j (a.tmps.getD t undef) w
  head : HeadInv .any ops n listed

theorem okOp_looks {n : Nat} {lo : Nat → Bool} {i : Nat} {o : Oper} (ho : ops[i]? = some o) (h : okOp ops n lo i = true) {t : Tmp} (ht : t ∈ o.looksAt ops) {j : Nat} (hj : j < n) (hd : (ops[j]?).bind (·.dst) = some t) :
    lo j = false ∧ ∃ e ∈ o.after, Region.binds .any e = true ∧ e.on = j := by
  unfold okOp at h
  simp only [ho, Bool.and_eq_true] at h
  have h1 := List.all_eq_true.1 h.1.1 t ht
  have h2 := List.all_eq_true.1 h1 j (List.mem_range.2 hj)
  rw [hd] at h2
  simp only [bne_self_eq_false, Bool.false_or, Bool.and_eq_true, Bool.not_eq_true', decide_eq_true_eq] at h2
  obtain ⟨⟨_, h3⟩, h4⟩ := h2
  obtain ⟨e, he, hb⟩ := Array.any_eq_true'.1 h4
  simp only [Bool.and_eq_true, beq_iff_eq] at hb
  exact ⟨h3, e, he, hb.1, hb.2⟩
theorem okOp_dst {n : Nat} {lo : Nat → Bool} {i : Nat} {o : Oper} (ho : ops[i]? = some o) (h : okOp ops n lo i = true) {d : Tmp} (hd : o.dst = some d) {j : Nat} (hj : j < n) (hji : j ≠ i) : (ops[j]?).bind (·.dst) ≠ some d := by
  unfold okOp at h
  simp only [ho, Bool.and_eq_true, hd] at h
  have h2 := List.all_eq_true.1 h.1.2 j (List.mem_range.2 hj)
  simp only [Bool.or_eq_true, decide_eq_true_eq, bne_iff_ne] at h2
  exact h2.resolve_left hji
theorem okOp_back {n : Nat} {lo : Nat → Bool} {i : Nat} {o : Oper} (ho : ops[i]? = some o) (h : okOp ops n lo i = true) {e : Edge} (he : e ∈ o.after) (hb : Region.binds .any e = true) : e.on < i := by
  unfold okOp at h
  simp only [ho, Bool.and_eq_true] at h
  have h2 := Array.all_eq_true_iff_forall_mem.1 h.2 e he
  simpa [hb] using h2

theorem RInv.alike {n : Nat} {lo : Nat → Bool} {E : Nat → Value → World → Prop} {A a : Act} {listed : Array Bool} {w : World} (h : RInv ops n S lo E A listed a w) {i : Nat} {o : Oper} (ho : ops[i]? = some o) (hok : okOp ops n lo i = true)
    (hi : i ∈ Region.ready .any ops listed) : Alike ops o a A := by
  intro t ht
  by_cases hex : ∃ j, j < n ∧ (ops[j]?).bind (·.dst) = some t
  · obtain ⟨j, hj, hd⟩ := hex
    obtain ⟨hl, e, he, hb, rfl⟩ := okOp_looks ho hok ht hj hd
    obtain ⟨_, o', ho', hall⟩ := mem_ready.1 hi
    have : o' = o := Option.some.inj (ho'.symm.trans ho)
    subst this
    have h1 := hall e he hb
    refine h.near e.on hj hl ?_ t hd
    rcases Nat.lt_or_ge e.on listed.size with h' | h'
    · simp [h'] at h1 ⊢; exact h1
    · simp [Array.getElem?_eq_none h']
  · exact h.far t fun j hj hd => hex ⟨j, hj, hd⟩

theorem RInv.step {n : Nat} {lo : Nat → Bool} {E : Nat → Value → World → Prop} (hE : ∀ i v w w', E i v w → Ext w w' → E i v w') {A a : Act} {listed : Array Bool} {w w' : World} (h : RInv ops n S lo E A listed a w) {i : Nat} {o : Oper}
    (ho : ops[i]? = some o) (hok : okOp ops n lo i = true) (hin : i < n) (hi : i ∈ Region.ready .any ops listed) {v : Value} (hS : S w') (hX : Ext w w')
    (hv : lo i = false → ∀ d, o.dst = some d → d < A.tmps.size → A.tmps[d]? = some v) (hl : lo i = true → E i v w') (hb : ∀ d, o.dst = some d → d < A.tmps.size) : RInv ops n S lo E A (listed.setIfInBounds i true) (a.put o.dst v) w' := by
  have hbind : (ops[i]?).bind (·.dst) = o.dst := by rw [ho]; rfl
  have keep : ∀ t, o.dst ≠ some t → (a.put o.dst v).tmps[t]? = a.tmps[t]? := fun t ht => by
    cases hd : o.dst with
    | none => rfl
    | some d => simp only [Act.put]; rw [Array.getElem?_setIfInBounds_ne (fun e => ht (by rw [hd, e]))]
  have keepD : ∀ t, o.dst ≠ some t → (a.put o.dst v).tmps.getD t undef = a.tmps.getD t undef := fun t ht => by
    simp only [Array.getD_eq_getD_getElem?, keep t ht]
  refine ⟨hS, ?_, ?_, fun t ht => ?_, fun j hj hlj hls t hd => ?_, fun j hj hlj hls t hd => ?_, h.head.set hi hin⟩
  · rw [← h.defers]; cases o.dst <;> rfl
  · rw [← h.size]; cases o.dst <;> simp [Act.put]
  · rw [keep t (fun e => ht i hin (hbind.trans e))]; exact h.far t ht
  · by_cases hji : j = i
    · subst hji
      rw [hbind] at hd
      rw [hd]
      simp only [Act.put]
      have hlt := hb t hd
      rw [hv hlj t hd hlt]; simp [h.size, hlt]
    · rw [keep t (fun e => okOp_dst ho hok e hj hji hd)]
      rw [getD_set_ne true (Ne.symm hji)] at hls
      exact h.near j hj hlj hls t hd
  · by_cases hji : j = i
    · subst hji
      rw [hbind] at hd
      rw [hd]
      simp only [Act.put]
      have hlt : t < a.tmps.size := Nat.lt_of_lt_of_eq (hb t hd) h.size.symm
      simp [hlt]; exact hl hlj
    · rw [keepD t (fun e => okOp_dst ho hok e hj hji hd)]
      rw [getD_set_ne true (Ne.symm hji)] at hls
      exact hE j _ _ _ (h.loose j hj hlj hls t hd) hX

/-- All slots that are written lie in the frame. -/
def inB (ops : Array Oper) (n N : Nat) : Bool := (List.range n).all fun i => match (ops[i]?).bind (·.dst) with | some d => decide (d < N) | none => true

theorem canon_ext {n m : Nat} {listed : Array Bool} (hs : listed.size = m) (h1 : ∀ i, i < n → listed.getD i true = true) (h2 : ∀ i, n ≤ i → i < m → listed.getD i true = false) (hn : n ≤ m) :
    listed = (List.replicate n true ++ List.replicate (m - n) false).toArray := by
  apply Array.ext
  · simp; omega
  · intro i hi1 hi2
    have hi : i < m := by omega
    by_cases hin : i < n
    · have := h1 i hin
      simp [hi1] at this
      simp [List.getElem_append, hin, this]
    · have := h2 i (by omega) hi
      simp [hi1] at this
      simp [List.getElem_append, hin, this]

theorem wpAny_of_inv {n : Nat} {lo : Nat → Bool} {E : Nat → Value → World → Prop} (hE : ∀ i v w w', E i v w → Ext w w' → E i v w') {A : Act} {Q : Exit → Act → World → Prop}
    (hsel : Region.noSelect ops = true) (hs : Region.sinkB .any ops n = true) (hc : Region.chainB .any ops n = true) (hn : n < ops.size) (hok : okB ops n lo = true) (hin : inB ops n A.tmps.size = true)
    (hop : ∀ i o, i < n → ops[i]? = some o → if lo i then Loose P ops S o A (E i) else Fix P ops S o A (match o.dst with | some d => A.tmps.getD d undef | none => undef) ∨ o.dst = none ∧ ∃ v, Fix P ops S o A v)
    (hend : ∀ a w, RInv ops n S lo E A (List.replicate n true ++ List.replicate (ops.size - n) false).toArray a w → wpAny P .any ops Q (ops.size - n) (List.replicate n true ++ List.replicate (ops.size - n) false).toArray a w) :
    ∀ (f : Nat) (listed : Array Bool) (a : Act) (w : World), cnt listed n = f → RInv ops n S lo E A listed a w → wpAny P .any ops Q (f + (ops.size - n)) listed a w := by
  intro f
  induction f with
  | zero =>
    intro listed a w hcnt h
    have := canon_ext h.head.size (cnt_zero n hcnt) (fun i h1 h2 => h.head.tail i h1 h2) (Nat.le_of_lt hn)
    subst this
    rw [Nat.zero_add]
    exact hend a w h
  | succ f ih =>
    intro listed a w hcnt h
    obtain ⟨i0, hi0, hu0, hall0⟩ := cnt_pos (listed := listed) n (by omega)
    have okAt : ∀ i, i < n → okOp ops n lo i = true := fun i hi => List.all_eq_true.1 hok i (List.mem_range.2 hi)
    have hr0 : i0 ∈ Region.ready .any ops listed := by
      have hlt : i0 < ops.size := by omega
      refine mem_ready.2 ⟨hu0, ops[i0], Array.getElem?_eq_getElem hlt, fun e he hb => ?_⟩
      have hback := okOp_back (Array.getElem?_eq_getElem hlt) (okAt i0 hi0) he hb
      have h1 := hall0 e.on hback
      have : e.on < listed.size := by rw [h.head.size]; omega
      simp [this] at h1 ⊢; exact h1
    rw [show f + 1 + (ops.size - n) = (f + (ops.size - n)) + 1 by omega]
    refine ⟨fun h0 => (by rw [h0] at hr0; cases hr0), fun i hi => ?_⟩
    have hin' : i < n := by
      rcases Nat.lt_or_ge i n with h' | h'
      · exact h'
      · exact absurd hi (tail_waits hs hc hn h.head _ i0 rfl hi0 hu0 i h')
    obtain ⟨hun, o, ho, _⟩ := mem_ready.1 hi
    have hal := h.alike ho (okAt i hin') hi
    have hse : ∀ cs x, o.op ≠ .select cs x := fun cs x => Region.noSelect_spec hsel i o cs x ho
    have hbd : ∀ d, o.dst = some d → d < A.tmps.size := fun d hd => by
      have h1 := List.all_eq_true.1 hin i (List.mem_range.2 hin')
      have h2 : (ops[i]?).bind (·.dst) = some d := by rw [ho]; exact hd
      rw [h2] at h1
      simpa using h1
    have hcnt' : cnt (listed.setIfInBounds i true) n = f := by have := cnt_set hun n hin'; omega
    have hop' := hop i o hin' ho
    unfold wpOp
    simp only [ho]
    cases hlo : lo i with
    | true =>
      rw [hlo] at hop'
      simp only [if_true] at hop'
      rw [if_pos (by rw [alike_wanted hal]; exact hop'.wanted)]
      refine .inl (wp_of_yields (R := fun u w' => E i u w' ∧ S w' ∧ Ext w w') ?_ fun v w' ⟨h1, h2, h3⟩ => ih _ _ _ hcnt' (h.step hE ho (okAt i hin') hin' hi h2 h3 (fun e => by rw [hlo] at e; cases e) (fun _ => h1) hbd))
      have := hop'.out w h.s
      unfold yields at this ⊢
      rw [alike_exec hse hal]
      exact this
    | false =>
      rw [hlo] at hop'
      simp only [Bool.false_eq_true, if_false] at hop'
      obtain ⟨v, hfix, hval⟩ : ∃ v, Fix P ops S o A v ∧ ∀ d, o.dst = some d → d < A.tmps.size → A.tmps[d]? = some v := by
        rcases hop' with h1 | ⟨h1, v, h2⟩
        · cases hd : o.dst with
          | none => rw [hd] at h1; exact ⟨_, h1, fun d e => by cases e⟩
          | some d =>
            rw [hd] at h1
            refine ⟨_, h1, fun d' e hlt => ?_⟩
            obtain rfl : d = d' := Option.some.inj e
            simp [Array.getD_eq_getD_getElem?, hlt]
        · exact ⟨v, h2, fun d e => by rw [h1] at e; cases e⟩
      rcases hfix.out with ⟨hw, hy⟩ | ⟨hw, rfl⟩
      · rw [if_pos (by rw [alike_wanted hal]; exact hw)]
        refine .inl (wp_of_yields (R := fun u w' => u = v ∧ S w' ∧ Ext w w') ?_ fun u w' ⟨h1, h2, h3⟩ => ?_)
        · have := hy w h.s
          unfold yields at this ⊢
          rw [alike_exec hse hal]
          exact this
        · subst h1
          exact ih _ _ _ hcnt' (h.step hE ho (okAt i hin') hin' hi h2 h3 (fun _ => hval) (fun e => by rw [hlo] at e; cases e) hbd)
      · rw [if_neg (by rw [alike_wanted hal, hw]; simp)]
        exact ih _ _ _ hcnt' (h.step hE ho (okAt i hin') hin' hi h.s (Ext.refl w) (fun _ => hval) (fun e => by rw [hlo] at e; cases e) hbd)

theorem Fix.of_alike {o : Oper} {a b : Act} {v : Value} (hs : ∀ cs x, o.op ≠ .select cs x) (h : Alike ops o a b) (hf : Fix P ops S o a v) : Fix P ops S o b v := by
  refine ⟨?_⟩
  rcases hf.out with ⟨h1, h2⟩ | ⟨h1, h2⟩
  · refine .inl ⟨by rw [← alike_wanted h]; exact h1, fun w hw => ?_⟩
    have := h2 w hw
    unfold yields at this ⊢
    rw [← alike_exec hs h]
    exact this
  · exact .inr ⟨by rw [← alike_wanted h]; exact h1, h2⟩
theorem Loose.of_alike {o : Oper} {a b : Act} {E : Value → World → Prop} (hs : ∀ cs x, o.op ≠ .select cs x) (h : Alike ops o a b) (hf : Loose P ops S o a E) : Loose P ops S o b E := by
  refine ⟨by rw [← alike_wanted h]; exact hf.wanted, fun w hw => ?_⟩
  have := hf.out w hw
  unfold yields at this ⊢
  rw [← alike_exec hs h]
  exact this

theorem looks_dst {n : Nat} {lo : Nat → Bool} {i k : Nat} {o : Oper} (ho : ops[i]? = some o) (h : okOp ops n lo i = true) (hk : k < n) (hik : i ≤ k) {d : Tmp} (hd : (ops[k]?).bind (·.dst) = some d) : d ∉ o.looksAt ops := by
  intro ht
  obtain ⟨_, e, he, hb, heq⟩ := okOp_looks ho h ht hk hd
  have := okOp_back ho h he hb
  omega

/-- What the walk in the text's order has laid open, at its end. -/
theorem wpT_end {n : Nat} {lo : Nat → Bool} {E : Nat → Value → World → Prop} {Qe : Act → Prop} (hsel : Region.noSelect ops = true) (hok : okB ops n lo = true) (hin : ∀ N, inB ops n N = true → True) :
    ∀ (l : List Oper) (k : Nat) (a : Act), (∀ j, j < l.length → l[j]? = ops[k + j]?) → k + l.length = n → inB ops n a.tmps.size = true → wpT P ops S lo E Qe k l a →
    ∃ A : Act, Qe A ∧ A.defers = a.defers ∧ A.tmps.size = a.tmps.size ∧
      (∀ t, (∀ j, k ≤ j → j < n → lo j = false → (ops[j]?).bind (·.dst) ≠ some t) → A.tmps[t]? = a.tmps[t]?) ∧
      (∀ i o, k ≤ i → i < n → ops[i]? = some o → if lo i then Loose P ops S o A (E i) else Fix P ops S o A (match o.dst with | some d => A.tmps.getD d undef | none => undef) ∨ o.dst = none ∧ ∃ v, Fix P ops S o A v)
  | [], k, a, hl, hk, hb, h => ⟨a, h, rfl, rfl, fun _ _ => rfl, fun i o h1 h2 _ => by simp at hk; omega⟩
  | o :: l, k, a, hl, hk, hb, h => by
    have h0 : ops[k]? = some o := by simpa using (hl 0 (by simp)).symm
    have hkn : k < n := by simp only [List.length_cons] at hk; omega
    have okAt : ∀ i, i < n → okOp ops n lo i = true := fun i hi => List.all_eq_true.1 hok i (List.mem_range.2 hi)
    have hse : ∀ (i : Nat) (o : Oper), ops[i]? = some o → ∀ cs x, o.op ≠ .select cs x := fun i o ho cs x => Region.noSelect_spec hsel i o cs x ho
    have hl' : ∀ j, j < l.length → l[j]? = ops[k + 1 + j]? := fun j hj => by have := hl (j + 1) (by simp; omega); simpa [Nat.add_assoc, Nat.add_comm 1 j] using this
    have hk' : k + 1 + l.length = n := by simp only [List.length_cons] at hk; omega
    have alikeA : ∀ {A b : Act}, (∀ t, (∀ j, k + 1 ≤ j → j < n → lo j = false → (ops[j]?).bind (·.dst) ≠ some t) → A.tmps[t]? = b.tmps[t]?) → Alike ops o b A := fun hA t ht =>
      (hA t fun j h1 h2 _ hd => looks_dst h0 (okAt k hkn) h2 (by omega) hd ht).symm
    unfold wpT at h
    cases hlo : lo k with
    | true =>
      rw [hlo] at h
      simp only [if_true] at h
      obtain ⟨A, hq, hd, hs, hfar, hops⟩ := wpT_end hsel hok hin l (k + 1) a hl' hk' hb h.2
      refine ⟨A, hq, hd, hs, fun t ht => hfar t fun j h1 h2 h3 => ht j (by omega) h2 h3, fun i o' h1 h2 ho' => ?_⟩
      by_cases hik : i = k
      · subst hik
        obtain rfl : o = o' := Option.some.inj (h0.symm.trans ho')
        rw [hlo]; simp only [if_true]
        exact h.1.of_alike (hse i o h0) (alikeA hfar)
      · exact hops i o' (by omega) h2 ho'
    | false =>
      rw [hlo] at h
      simp only [Bool.false_eq_true, if_false] at h
      obtain ⟨v, hf, hr⟩ := h
      have hsz : (a.put o.dst v).tmps.size = a.tmps.size := by cases o.dst <;> simp [Act.put]
      obtain ⟨A, hq, hd, hs, hfar, hops⟩ := wpT_end hsel hok hin l (k + 1) (a.put o.dst v) hl' hk' (by rw [hsz]; exact hb) hr
      have hbind : (ops[k]?).bind (·.dst) = o.dst := by rw [h0]; rfl
      have hal : Alike ops o a A := fun t ht => by
        rw [hfar t fun j h1 h2 _ hd' => looks_dst h0 (okAt k hkn) h2 (by omega) hd' ht]
        cases hdo : o.dst with
        | none => rfl
        | some d =>
          have hne : d ≠ t := fun e => looks_dst h0 (okAt k hkn) hkn (Nat.le_refl _) (hbind.trans hdo) (e ▸ ht)
          simp only [Act.put]
          rw [Array.getElem?_setIfInBounds_ne hne]
      refine ⟨A, hq, by rw [hd]; cases o.dst <;> rfl, hs.trans hsz, fun t ht => ?_, fun i o' h1 h2 ho' => ?_⟩
      · rw [hfar t fun j h1 h2 h3 => ht j (by omega) h2 h3]
        have := ht k (Nat.le_refl _) hkn hlo
        rw [hbind] at this
        cases hdo : o.dst with
        | none => rfl
        | some d =>
          have hne : d ≠ t := fun e => this (by rw [hdo, e])
          simp only [Act.put]
          rw [Array.getElem?_setIfInBounds_ne hne]
      · by_cases hik : i = k
        · subst hik
          obtain rfl : o = o' := Option.some.inj (h0.symm.trans ho')
          rw [hlo]; simp only [Bool.false_eq_true, if_false]
          have hfA := hf.of_alike (hse i o h0) hal
          cases hdo : o.dst with
          | none => exact .inr ⟨rfl, v, hfA⟩
          | some d =>
            refine .inl ?_
            have hdn : (ops[i]?).bind (·.dst) = some d := hbind.trans hdo
            have hlt : d < a.tmps.size := by
              have h3 := List.all_eq_true.1 hb i (List.mem_range.2 h2)
              rw [hdn] at h3
              simpa using h3
            have : A.tmps[d]? = some v := by
              rw [hfar d fun j h3 h4 _ => okOp_dst h0 (okAt i h2) hdo h4 (by omega), hdo]
              simp [Act.put, hlt]
            simp only [Array.getD_eq_getD_getElem?, this, Option.getD_some]
            exact hfA
        · exact hops i o' (by omega) h2 ho'

/-- ████ THE LAW: a region that draws its order: n operations ahead of a forced tail, walked once. -/
theorem wp_region_T {id : Nat} {Q : Exit → Act → World → Prop} {a : Act} {w : World} {l : List Oper} (S : World → Prop) (n : Nat) (lo : Nat → Bool) (E : Nat → Value → World → Prop)
    (hE : ∀ i v w w', E i v w → Ext w w' → E i v w') (hm : P.follows .mixedOrders = true)
    (hB : (Region.noSelect l.toArray && decide (n < l.toArray.size) && Region.sinkB .any l.toArray n && Region.chainB .any l.toArray n && okB l.toArray n lo && inB l.toArray n a.tmps.size &&
      Region.seqB .any l.toArray (l.toArray.size - n) n (List.replicate n true ++ List.replicate (l.toArray.size - n) false).toArray) = true)
    (hS : S { w with drawn := w.drawn + 1 })
    (h : wpT P l.toArray S lo E (fun A => ∀ (b : Act) (w' : World), RInv l.toArray n S lo E A (List.replicate n true ++ List.replicate (l.toArray.size - n) false).toArray b w' → wpList P l.toArray Q (l.drop n) b w') 0 (l.take n) a) :
    (Code.region id l.toArray true).wp P Q a w := by
  simp only [Bool.and_eq_true, decide_eq_true_eq] at hB
  obtain ⟨⟨⟨⟨⟨⟨hsel, hn⟩, hs⟩, hc⟩, hok⟩, hin⟩, hseq⟩ := hB
  have hn' : n < l.length := by simpa using hn
  have htl : (l.take n).length = n := by simp; omega
  have hdl : (l.drop n).length = l.toArray.size - n := by simp
  obtain ⟨A, hq, hd, hsz, hfar, hops⟩ := wpT_end hsel hok (fun _ _ => trivial) (l.take n) 0 a (fun j hj => by
    have hj' : j < n := by rw [htl] at hj; exact hj
    simp [hj']) (by simpa using htl) hin h
  refine wp_region_any hm ?_
  have hc0 : cnt (Array.replicate l.toArray.size false) n = n := by
    have : ∀ k, k ≤ l.toArray.size → cnt (Array.replicate l.toArray.size false) k = k := by
      intro k
      induction k with
      | zero => intro _; rfl
      | succ k ih =>
        intro hk
        simp only [cnt]
        rw [ih (by omega)]
        have : (Array.replicate l.toArray.size false).getD k true = false := by simp only [Array.getD_eq_getD_getElem?]; rw [Array.getElem?_replicate, if_pos (by omega)]; rfl
        rw [this]; simp
    exact this n (by omega)
  have h0 : RInv l.toArray n S lo E A (Array.replicate l.toArray.size false) a { w with drawn := w.drawn + 1 } := by
    have hno : ∀ j, (Array.replicate l.toArray.size false).getD j true = true → l.toArray.size ≤ j := fun j hj => by
      rcases Nat.lt_or_ge j l.toArray.size with h' | h'
      · simp only [Array.getD_eq_getD_getElem?] at hj
        rw [Array.getElem?_replicate, if_pos h'] at hj
        cases hj
      · exact h'
    refine ⟨hS, hd.symm, hsz.symm, fun t ht => (hfar t fun j _ h2 _ => ht j h2).symm, fun j hj _ hl => ?_, fun j hj _ hl => ?_, ?_⟩
    · have := hno j hl; omega
    · have := hno j hl; omega
    · exact ⟨by simp, fun j oj _ hl => (by rw [getD_replicate_false] at hl; cases hl), fun t _ ht => getD_in (by simpa using ht) (getD_replicate_false _ _)⟩
  have hfin := wpAny_of_inv (P := P) (Q := Q) hE hsel hs hc hn hok (by rw [hsz]; exact hin) (fun i o hi ho => hops i o (Nat.zero_le _) hi ho) (fun b w' hb => by
    have := wpAny_of_seq (md := .any) (Q' := Q) (l.drop n) n _ b w' (fun j => by simp [List.getElem?_drop]) (by rw [hdl]; exact hseq) (hq b w' hb)
    rwa [hdl] at this) n _ _ _ hc0 h0
  rw [show n + (l.toArray.size - n) = l.toArray.size by omega] at hfin
  exact hfin
end
end Go.Proofs.YtcipokldcjappaaGreat

namespace Go.Proofs.YtcipokldcjappaaGreat
section
variable {P : Program} {ops : Array Oper} {S : World → Prop}
attribute [go_sem] yields

def FixR (S : World → Prop) (w : World) (v u : Value) (w' : World) : Prop := u = v ∧ S w' ∧ Ext w w'
def LooR (S : World → Prop) (w : World) (E : Value → World → Prop) (u : Value) (w' : World) : Prop := E u w' ∧ S w' ∧ Ext w w'

theorem wpT_nil {lo : Nat → Bool} {E : Nat → Value → World → Prop} {Q : Act → Prop} {i : Nat} {a : Act} (h : Q a) : wpT P ops S lo E Q i [] a := h
theorem wpT_fix {lo : Nat → Bool} {E : Nat → Value → World → Prop} {Q : Act → Prop} {i : Nat} {a : Act} {o : Oper} {rest : List Oper} {v : Value} (hlo : lo i = false) (hw : Region.wanted o (yielded ops a.tmps) = true)
    (h : ∀ w, S w → yields P o a w (FixR S w v)) (hk : wpT P ops S lo E Q (i + 1) rest (a.put o.dst v)) : wpT P ops S lo E Q i (o :: rest) a := by
  unfold wpT; rw [hlo]; exact ⟨v, ⟨.inl ⟨hw, h⟩⟩, hk⟩
theorem wpT_skip {lo : Nat → Bool} {E : Nat → Value → World → Prop} {Q : Act → Prop} {i : Nat} {a : Act} {o : Oper} {rest : List Oper} (hlo : lo i = false) (hw : Region.wanted o (yielded ops a.tmps) = false)
    (hk : wpT P ops S lo E Q (i + 1) rest (a.put o.dst undef)) : wpT P ops S lo E Q i (o :: rest) a := by
  unfold wpT; rw [hlo]; exact ⟨undef, ⟨.inr ⟨hw, rfl⟩⟩, hk⟩
theorem wpT_loose {lo : Nat → Bool} {E : Nat → Value → World → Prop} {Q : Act → Prop} {i : Nat} {a : Act} {o : Oper} {rest : List Oper} (hlo : lo i = true) (hw : Region.wanted o (yielded ops a.tmps) = true)
    (h : ∀ w, S w → yields P o a w (LooR S w (E i))) (hk : wpT P ops S lo E Q (i + 1) rest a) : wpT P ops S lo E Q i (o :: rest) a := by
  unfold wpT; rw [hlo]; exact ⟨⟨hw, h⟩, hk⟩

theorem canon_at {n m i : Nat} (hi : i < n) : (List.replicate n true ++ List.replicate m false).toArray.getD i true = true := by
  simp only [Array.getD_eq_getD_getElem?, List.getElem?_toArray]
  rw [List.getElem?_append_left (by simpa using hi), List.getElem?_replicate, if_pos hi]; rfl

theorem act_ext {a b : Act} (h1 : a.tmps = b.tmps) (h2 : a.defers = b.defers) : a = b := by cases a; cases b; simp_all

theorem RInv.eq0 {n m : Nat} {E : Nat → Value → World → Prop} {A b : Act} {w : World} (h : RInv ops n S (fun _ => false) E A (List.replicate n true ++ List.replicate m false).toArray b w) : b = A := by
  refine act_ext (Array.ext h.size fun i h1 h2 => ?_) h.defers
  have : b.tmps[i]? = A.tmps[i]? := by
    by_cases hex : ∃ j, j < n ∧ (ops[j]?).bind (·.dst) = some i
    · obtain ⟨j, hj, hd⟩ := hex
      exact h.near j hj rfl (canon_at hj) i hd
    · exact h.far i fun j hj hd => hex ⟨j, hj, hd⟩
  rw [Array.getElem?_eq_getElem h1, Array.getElem?_eq_getElem h2] at this
  exact Option.some.inj this

theorem RInv.eq1 {n m i0 d : Nat} {E : Nat → Value → World → Prop} {A b : Act} {w : World} (h : RInv ops n S (fun i => i == i0) E A (List.replicate n true ++ List.replicate m false).toArray b w) (hi : i0 < n) (hd : (ops[i0]?).bind (·.dst) = some d) (hlt : d < A.tmps.size) :
    ∃ v, E i0 v w ∧ b = A.put (some d) v := by
  refine ⟨b.tmps.getD d undef, h.loose i0 hi (by simp) (canon_at hi) d hd, act_ext (Array.ext (by simp [Act.put, h.size]) fun i h1 h2 => ?_) h.defers⟩
  by_cases hdi : d = i
  · subst hdi
    simp [Act.put, h1]
  · have : b.tmps[i]? = A.tmps[i]? := by
      by_cases hex : ∃ j, j < n ∧ (ops[j]?).bind (·.dst) = some i
      · obtain ⟨j, hj, hd'⟩ := hex
        have hji : j ≠ i0 := fun e => by subst e; rw [hd] at hd'; exact hdi (Option.some.inj hd')
        exact h.near j hj (by simpa using hji) (canon_at hj) i hd'
      · exact h.far i fun j hj hd => hex ⟨j, hj, hd⟩
    have h3 : i < A.tmps.size := by simpa [Act.put] using h2
    rw [Array.getElem?_eq_getElem h1, Array.getElem?_eq_getElem h3] at this
    simp only [Act.put]
    rw [Array.getElem_setIfInBounds_ne h3 hdi]
    exact Option.some.inj this

theorem RInv.eq2 {n m i0 i1 d d' : Nat} {E : Nat → Value → World → Prop} {A b : Act} {w : World} (h : RInv ops n S (fun i => i == i0 || i == i1) E A (List.replicate n true ++ List.replicate m false).toArray b w) (hi : i0 < n) (hi' : i1 < n)
    (hd : (ops[i0]?).bind (·.dst) = some d) (hd' : (ops[i1]?).bind (·.dst) = some d') (hne : d ≠ d') (hlt : d < A.tmps.size) (hlt' : d' < A.tmps.size) :
    ∃ v v', E i0 v w ∧ E i1 v' w ∧ b = (A.put (some d) v).put (some d') v' := by
  refine ⟨b.tmps.getD d undef, b.tmps.getD d' undef, h.loose i0 hi (by simp) (canon_at hi) d hd, h.loose i1 hi' (by simp) (canon_at hi') d' hd', act_ext (Array.ext (by simp [Act.put, h.size]) fun i h1 h2 => ?_) h.defers⟩
  have h3 : i < A.tmps.size := by simpa [Act.put] using h2
  by_cases hdi' : d' = i
  · subst hdi'
    simp [Act.put, h1]
  · by_cases hdi : d = i
    · subst hdi
      simp only [Act.put]
      rw [Array.getElem_setIfInBounds_ne (by simpa using h3) hdi']
      simp [h1]
    · have : b.tmps[i]? = A.tmps[i]? := by
        by_cases hex : ∃ j, j < n ∧ (ops[j]?).bind (·.dst) = some i
        · obtain ⟨j, hj, hd2⟩ := hex
          have hji : j ≠ i0 := fun e => by subst e; rw [hd] at hd2; exact hdi (Option.some.inj hd2)
          have hji' : j ≠ i1 := fun e => by subst e; rw [hd'] at hd2; exact hdi' (Option.some.inj hd2)
          exact h.near j hj (by simp [hji, hji']) (canon_at hj) i hd2
        · exact h.far i fun j hj hd => hex ⟨j, hj, hd⟩
      rw [Array.getElem?_eq_getElem h1, Array.getElem?_eq_getElem h3] at this
      simp only [Act.put]
      rw [Array.getElem_setIfInBounds_ne (by simpa using h3) hdi', Array.getElem_setIfInBounds_ne h3 hdi]
      exact Option.some.inj this

def okReg (l : List Oper) (n : Nat) (lo : Nat → Bool) (N : Nat) : Bool :=
  Region.noSelect l.toArray && decide (n < l.toArray.size) && Region.sinkB .any l.toArray n && Region.chainB .any l.toArray n && okB l.toArray n lo && inB l.toArray n N &&
      Region.seqB .any l.toArray (l.toArray.size - n) n (List.replicate n true ++ List.replicate (l.toArray.size - n) false).toArray

theorem wpT_mono {lo : Nat → Bool} {E : Nat → Value → World → Prop} {Q1 Q2 : Act → Prop} (h : ∀ A : Act, Q1 A → Q2 A) : ∀ (l : List Oper) (i : Nat) (a : Act), wpT P ops S lo E Q1 i l a → wpT P ops S lo E Q2 i l a
  | [], _, _, hh => h _ hh
  | o :: l, i, a, hh => by
    unfold wpT at hh ⊢
    split
    · rename_i hl; rw [if_pos hl] at hh; exact ⟨hh.1, wpT_mono h l _ _ hh.2⟩
    · rename_i hl; rw [if_neg hl] at hh; obtain ⟨v, h1, h2⟩ := hh; exact ⟨v, h1, wpT_mono h l _ _ h2⟩

theorem wpT_size {lo : Nat → Bool} {E : Nat → Value → World → Prop} {Q : Act → Prop} : ∀ (l : List Oper) (i : Nat) (a : Act), wpT P ops S lo E Q i l a → wpT P ops S lo E (fun A => A.tmps.size = a.tmps.size ∧ Q A) i l a
  | [], _, _, hh => ⟨rfl, hh⟩
  | o :: l, i, a, hh => by
    unfold wpT at hh ⊢
    split
    · rename_i hl; rw [if_pos hl] at hh; exact ⟨hh.1, wpT_size l _ _ hh.2⟩
    · rename_i hl; rw [if_neg hl] at hh; obtain ⟨v, h1, h2⟩ := hh
      exact ⟨v, h1, wpT_mono (fun A ⟨h3, h4⟩ => ⟨by rw [h3]; cases o.dst <;> simp [Act.put], h4⟩) _ _ _ (wpT_size l _ _ h2)⟩
theorem inB_lt {n N i d : Nat} (h : inB ops n N = true) (hi : i < n) (hd : (ops[i]?).bind (·.dst) = some d) : d < N := by
  have h1 := List.all_eq_true.1 h i (List.mem_range.2 hi)
  rw [hd] at h1
  simpa using h1

theorem RInv.sizeA {n : Nat} {lo : Nat → Bool} {E : Nat → Value → World → Prop} {A b : Act} {listed : Array Bool} {w : World} (h : RInv ops n S lo E A listed b w) : b.tmps.size = A.tmps.size := h.size

theorem region0 {id : Nat} {Q : Exit → Act → World → Prop} {a : Act} {w : World} {l : List Oper} (n : Nat) (hm : P.follows .mixedOrders = true) (hB : okReg l n (fun _ => false) a.tmps.size = true)
    (h : wpT P l.toArray (Ext w) (fun _ => false) (fun _ _ _ => True) (fun A => ∀ w', Ext w w' → wpList P l.toArray Q (l.drop n) A w') 0 (l.take n) a) : (Code.region id l.toArray true).wp P Q a w :=
  wp_region_T (Ext w) n (fun _ => false) (fun _ _ _ => True) (fun _ _ _ _ h _ => h) hm hB (Ext.refl w).drew
    (wpT_mono (fun A hA b w' hI => by rw [hI.eq0]; exact hA w' hI.s) _ _ _ h)

theorem region1 {id : Nat} {Q : Exit → Act → World → Prop} {a : Act} {w : World} {l : List Oper} (n i0 d : Nat) (E : Value → World → Prop) (hE : ∀ v w w', E v w → Ext w w' → E v w') (hm : P.follows .mixedOrders = true)
    (hB : (okReg l n (fun i => i == i0) a.tmps.size && decide (i0 < n) && ((l.toArray[i0]?).bind (·.dst) == some d) && decide (d < a.tmps.size)) = true)
    (h : wpT P l.toArray (Ext w) (fun i => i == i0) (fun _ => E) (fun A => A.tmps.size = a.tmps.size → ∀ v w', Ext w w' → E v w' → wpList P l.toArray Q (l.drop n) (A.put (some d) v) w') 0 (l.take n) a) : (Code.region id l.toArray true).wp P Q a w := by
  simp only [Bool.and_eq_true, decide_eq_true_eq, beq_iff_eq] at hB
  obtain ⟨⟨⟨hB, hi⟩, hd⟩, hlt⟩ := hB
  refine wp_region_T (Ext w) n (fun i => i == i0) (fun _ => E) (fun _ _ _ _ h hx => hE _ _ _ h hx) hm hB (Ext.refl w).drew (wpT_mono (fun A hA b w' hI => ?_) _ _ _ (wpT_size _ _ _ h))
  obtain ⟨hsz, hA⟩ := hA
  obtain ⟨v, hv, rfl⟩ := hI.eq1 hi hd (by rw [hsz]; exact hlt)
  exact hA hsz v w' hI.s hv

theorem region2 {id : Nat} {Q : Exit → Act → World → Prop} {a : Act} {w : World} {l : List Oper} (n i0 d i1 d' : Nat) (E E' : Value → World → Prop) (hE : ∀ v w w', E v w → Ext w w' → E v w') (hE' : ∀ v w w', E' v w → Ext w w' → E' v w') (hm : P.follows .mixedOrders = true)
    (hB : (okReg l n (fun i => i == i0 || i == i1) a.tmps.size && decide (i0 < n) && ((l.toArray[i0]?).bind (·.dst) == some d) && decide (d < a.tmps.size) && decide (i1 < n) && ((l.toArray[i1]?).bind (·.dst) == some d') && decide (d' < a.tmps.size) && decide (d ≠ d') && decide (i0 ≠ i1)) = true)
    (h : wpT P l.toArray (Ext w) (fun i => i == i0 || i == i1) (fun i => if i = i0 then E else E') (fun A => A.tmps.size = a.tmps.size → ∀ v v' w', Ext w w' → E v w' → E' v' w' → wpList P l.toArray Q (l.drop n) ((A.put (some d) v).put (some d') v') w') 0 (l.take n) a) : (Code.region id l.toArray true).wp P Q a w := by
  simp only [Bool.and_eq_true, decide_eq_true_eq, beq_iff_eq] at hB
  obtain ⟨⟨⟨⟨⟨⟨⟨⟨hB, hi⟩, hd⟩, hlt⟩, hi'⟩, hd'⟩, hlt'⟩, hne⟩, hii⟩ := hB
  refine wp_region_T (Ext w) n (fun i => i == i0 || i == i1) (fun i => if i = i0 then E else E') (fun i _ _ _ h hx => by by_cases hc : i = i0 <;> simp only [hc, if_true, if_false] at h ⊢ <;> first | exact hE _ _ _ h hx | exact hE' _ _ _ h hx) hm hB (Ext.refl w).drew (wpT_mono (fun A hA b w' hI => ?_) _ _ _ (wpT_size _ _ _ h))
  obtain ⟨hsz, hA⟩ := hA
  obtain ⟨v, v', hv, hv', rfl⟩ := hI.eq2 hi hi' hd hd' hne (by rw [hsz]; exact hlt) (by rw [hsz]; exact hlt')
  simp only [if_true] at hv
  rw [if_neg (Ne.symm hii)] at hv'
  exact hA hsz v v' w' hI.s hv hv'
end
end Go.Proofs.YtcipokldcjappaaGreat

namespace Go.Proofs.YtcipokldcjappaaGreat
open Go.RowKit

theorem wpList_app1 {P : Program} {ops : Array Oper} {rest : List Oper} {o : Oper} {a : Act} {w : World} {Q : Exit → Act → World → Prop} (s x : Operand) (t e : TypeId) (hgd : o.guard = none)
    (ho : o.op = .call { callee := .builtin .append, args := #[s, x], argTypes := #[t, t] })
    (ht : P.underlying t = some (.slice e)) (size bytes : Nat) (z : Value) (hinfo : (P.info? e).map (fun i => (i.zero, i.size, i.bytes)) = some (some z, size, bytes)) (hzs : z.cells.size = size) (hsz : 0 < size)
    (base : Nat) (v : Value) (n : Nat) (xs : List Value) (hs : a.eval s = v) (hown : w.ownsRow base e size v n xs)
    (q : Nat) (news : List Value) (t' : TypeId) (hx : a.eval x = .slice (some ⟨q, 0, none⟩) 1 1) (hq : Blk w q t' news.toArray) (hl : news.length = size) (h1 : news.all (fun u => u.oneCell') = true)
    (hb : (n + 1) * bytes ≤ 140737488355328) (h63 : n + 1 ≤ maxLen) (hbase : base ≤ w.heap.size)
    (h : ∀ v' w', w'.ownsRow base e size v' (n + 1) (xs ++ news) → Keep (fun k => v.ownBlock = some k) w w' → (v'.ownBlock = v.ownBlock ∨ v'.ownBlock = some w.heap.size) → wpList P ops Q rest (a.put o.dst v') w') :
    wpList P ops Q (o :: rest) a w := by
  obtain ⟨i, hi, hz, hsize, hby⟩ := info_parts hinfo
  refine wpList_append_own_at w hgd s x t ho base e i z size bytes ht hi hz hsize hby hzs hsz v n xs hs hown ⟨q, 0, none⟩ 1 1 news hx (by omega) (fun j u hj => ?_) (fun u hu => List.all_eq_true.1 h1 u hu) h63 hb hbase (fun v' w' h2 h3 h4 h5 => h v' w' h2 ((Keep.refl _ w).grown h3 (fun k hk => .inl hk)) h5)
  have : (⟨q, 0, none⟩ : Addr).add j = ⟨q, j, none⟩ := by simp [Addr.add]; omega
  rw [this, hq.cell]
  simpa using hj
theorem own_ne {base size n : Nat} {e t : TypeId} {v : Value} {xs : List Value} {w : World} {b : Nat} {cs : Array Value} (h : w.ownsRow base e size v n xs) (hb : Blk w b t cs) (hne : e ≠ t) : ¬ v.ownBlock = some b := by
  intro hv
  rcases h.2 with ⟨rfl, _⟩ | ⟨g', cap, cur, rfl, _, hh, _⟩
  · simp [Value.ownBlock] at hv
  · have : g' = b := by simpa [Value.ownBlock] using hv
    subst this
    unfold Blk at hb
    rw [hh] at hb
    simp only [Option.some.injEq, Obj.cells.injEq] at hb
    exact hne hb.2.1
theorem own_base {base base' size n : Nat} {e : TypeId} {v : Value} {xs : List Value} {w : World} (h : w.ownsRow base e size v n xs) (hb : base' ≤ base) : w.ownsRow base' e size v n xs := by
  refine ⟨h.1, ?_⟩
  rcases h.2 with h2 | ⟨g', cap, cur, hv, hb', r⟩
  · exact .inl h2
  · exact .inr ⟨g', cap, cur, hv, Nat.le_trans hb hb', r⟩
theorem own_base_le {base size n : Nat} {e : TypeId} {v : Value} {xs : List Value} {w : World} (h : w.ownsRow base e size v n xs) {g : Nat} (hg : v.ownBlock = some g) : base ≤ g := by
  rcases h.2 with ⟨rfl, _⟩ | ⟨g', cap, cur, rfl, hb', r⟩
  · simp [Value.ownBlock] at hg
  · have : g' = g := by simpa [Value.ownBlock] using hg
    subst this; exact hb'
theorem own_new1 (w : World) (e : TypeId) (cs : List Value) (size base : Nat) (h : cs.length = size) (hb : base ≤ w.heap.size) :
    (w.alloc (.cells cs.toArray e)).ownsRow base e size (.slice (some ⟨w.heap.size, 0, none⟩) 1 1) 1 cs :=
  ⟨by simp [h], .inr ⟨w.heap.size, 1, cs.toArray, rfl, hb, heap_alloc_new w _, Nat.le_refl _, by unfold maxLen; omega, by simp [h], by simp [← h]⟩⟩
theorem Blk.new' (W : World) (n : Nat) (t : TypeId) (cs : Array Value) (h : W.heap.size = n) : Blk (W.alloc (.cells cs t)) n t cs := h ▸ Blk.new W t cs
theorem blk_one {t : TypeId} {cs : Array Value} {w' : World} {q : Nat} (h : Blk w' q t cs) (w1 : World) (hx : Ext w' w1) : Blk w1 q t cs := h.ext hx
end Go.Proofs.YtcipokldcjappaaGreat

namespace Go.Proofs.YtcipokldcjappaaGreat
open Go.RowKit

theorem toNat_eq_iff (x y : BitVec 64) : ((x.toNat : Int) = (y.toNat : Int)) ↔ x = y := by
  constructor
  · intro h; exact BitVec.eq_of_toNat_eq (by omega)
  · intro h; rw [h]

@[go_sem high] theorem eqAd_run (x y x' y' : BitVec 64) (c c' : Bool) (w : World) : (binOp .eql 37 (.agg #[(.int .u64 (BitVec.toNat (x) : Int)), (.int .u64 (BitVec.toNat (y) : Int)), .bool c]) (.agg #[(.int .u64 (BitVec.toNat (x') : Int)), (.int .u64 (BitVec.toNat (y') : Int)), .bool c'])).run Tryz.prog w = .ok (.bool (adEq ⟨x, y, c⟩ ⟨x', y', c'⟩)) w := by
  simp [go_sem, Op.eqFields, toNat_eq_iff, adEq]
  (repeat' split) <;> simp_all
@[go_sem high] theorem neAd_run (x y x' y' : BitVec 64) (c c' : Bool) (w : World) : (binOp .neq 37 (.agg #[(.int .u64 (BitVec.toNat (x) : Int)), (.int .u64 (BitVec.toNat (y) : Int)), .bool c]) (.agg #[(.int .u64 (BitVec.toNat (x') : Int)), (.int .u64 (BitVec.toNat (y') : Int)), .bool c'])).run Tryz.prog w = .ok (.bool (!adEq ⟨x, y, c⟩ ⟨x', y', c'⟩)) w := by
  simp [go_sem, Op.eqFields, toNat_eq_iff, adEq]
  (repeat' split) <;> simp_all
@[go_sem high] theorem eqPf_run (x y x' y' : BitVec 64) (c c' : Bool) (n n' : Int) (w : World) : (binOp .eql 57 (.agg #[(.int .u64 (BitVec.toNat (x) : Int)), (.int .u64 (BitVec.toNat (y) : Int)), .bool c, (.int .i64 (n))]) (.agg #[(.int .u64 (BitVec.toNat (x') : Int)), (.int .u64 (BitVec.toNat (y') : Int)), .bool c', (.int .i64 (n'))])).run Tryz.prog w = .ok (.bool (pfEq ⟨⟨x, y, c⟩, n⟩ ⟨⟨x', y', c'⟩, n'⟩)) w := by
  simp [go_sem, Op.eqFields, toNat_eq_iff, pfEq]
  (repeat' split) <;> simp_all
@[go_sem high] theorem nePf_run (x y x' y' : BitVec 64) (c c' : Bool) (n n' : Int) (w : World) : (binOp .neq 57 (.agg #[(.int .u64 (BitVec.toNat (x) : Int)), (.int .u64 (BitVec.toNat (y) : Int)), .bool c, (.int .i64 (n))]) (.agg #[(.int .u64 (BitVec.toNat (x') : Int)), (.int .u64 (BitVec.toNat (y') : Int)), .bool c', (.int .i64 (n'))])).run Tryz.prog w = .ok (.bool (!pfEq ⟨⟨x, y, c⟩, n⟩ ⟨⟨x', y', c'⟩, n'⟩)) w := by
  simp [go_sem, Op.eqFields, toNat_eq_iff, pfEq]
  (repeat' split) <;> simp_all
@[go_sem high] theorem eqRt_run (x y x' y' : BitVec 64) (c c' : Bool) (n n' h h' : Int) (w : World) : (binOp .eql 138 (.agg #[(.int .u64 (BitVec.toNat (x) : Int)), (.int .u64 (BitVec.toNat (y) : Int)), .bool c, (.int .i64 (n)), (.int .i64 (h))]) (.agg #[(.int .u64 (BitVec.toNat (x') : Int)), (.int .u64 (BitVec.toNat (y') : Int)), .bool c', (.int .i64 (n')), (.int .i64 (h'))])).run Tryz.prog w = .ok (.bool (rtEq ⟨⟨⟨x, y, c⟩, n⟩, h⟩ ⟨⟨⟨x', y', c'⟩, n'⟩, h'⟩)) w := by
  simp [go_sem, Op.eqFields, toNat_eq_iff, rtEq]
  (repeat' split) <;> simp_all
@[go_sem high] theorem neRt_run (x y x' y' : BitVec 64) (c c' : Bool) (n n' h h' : Int) (w : World) : (binOp .neq 138 (.agg #[(.int .u64 (BitVec.toNat (x) : Int)), (.int .u64 (BitVec.toNat (y) : Int)), .bool c, (.int .i64 (n)), (.int .i64 (h))]) (.agg #[(.int .u64 (BitVec.toNat (x') : Int)), (.int .u64 (BitVec.toNat (y') : Int)), .bool c', (.int .i64 (n')), (.int .i64 (h'))])).run Tryz.prog w = .ok (.bool (!rtEq ⟨⟨⟨x, y, c⟩, n⟩, h⟩ ⟨⟨⟨x', y', c'⟩, n'⟩, h'⟩)) w := by
  simp [go_sem, Op.eqFields, toNat_eq_iff, rtEq]
  (repeat' split) <;> simp_all
end Go.Proofs.YtcipokldcjappaaGreat

namespace Go.Proofs.YtcipokldcjappaaGreat
open Go.RowKit
section
variable {P : Program}

theorem wpList_load_blk {ops : Array Oper} {rest : List Oper} {op : Oper} {a : Act} {w : World} {Q : Exit → Act → World → Prop} (hgd : op.guard = none) (ty : TypeId) (x : Operand) (ho : op.op = .load ty x)
    (b o : Nat) (vs : Array Value) (hx : a.eval x = .pointer (some ⟨b, o, none⟩)) (t : TypeId) (cs : Array Value) (hb : Blk w b t cs) (hv : ∀ j, j < vs.size → cs[o + j]? = vs[j]?)
    (d : TypeDesc) (hu : P.underlying ty = some d) (hd : d.isRow = true) (hi : (P.info? ty).map (·.size) = some vs.size)
    (h : wpList P ops Q rest (a.put op.dst (.agg vs)) w) : wpList P ops Q (op :: rest) a w := by
  refine wpList_load_mid hgd ty x ho b o hx vs.toList d (fun j v hj => ?_) hu hd (by simpa using hi) (by simpa using h)
  have hlt : j < vs.size := by
    have := (List.getElem?_eq_some_iff.1 hj).1
    simpa using this
  rw [hb.cell, hv j hlt]
  simpa using hj

/-- cells laid over others from a place on -/
def spliceA (cs : Array Value) (o : Nat) (vs : List Value) : Array Value := match vs with
  | [] => cs
  | v :: r => spliceA (cs.setIfInBounds o v) (o + 1) r
theorem Blk.setCells {b : Nat} {t : TypeId} (vs : List Value) : ∀ {cs : Array Value} (o : Nat) {w : World}, Blk w b t cs → Blk (w.setCells b o vs) b t (spliceA cs o vs) := by
  induction vs with
  | nil => intro cs o w h; exact h
  | cons v r ih => intro cs o w h; exact ih (o + 1) (h.set o v)
theorem Keep.setCells {S : Nat → Prop} {b : Nat} (vs : List Value) : ∀ (o : Nat) {a w : World}, Keep S a w → (S b ∨ a.heap.size ≤ b) → Keep S a (w.setCells b o vs) := by
  induction vs with
  | nil => intro o a w h _; exact h
  | cons v r ih => intro o a w h hb; exact ih (o + 1) (h.set (p := ⟨b, o, none⟩) hb v) hb
theorem size_setCells (b : Nat) (vs : List Value) : ∀ (o : Nat) (w : World), (w.setCells b o vs).heap.size = w.heap.size := by
  induction vs with
  | nil => intro o w; rfl
  | cons v r ih => intro o w; rw [World.setCells, ih]; simp [World.setCell]
theorem spliceA_size (vs : List Value) : ∀ (cs : Array Value) (o : Nat), (spliceA cs o vs).size = cs.size := by
  induction vs with
  | nil => intro cs o; rfl
  | cons v r ih => intro cs o; rw [spliceA, ih]; simp
theorem spliceA_get (vs : List Value) : ∀ (cs : Array Value) (o j : Nat), o + vs.length ≤ cs.size → (spliceA cs o vs)[j]? = if o ≤ j ∧ j < o + vs.length then vs[j - o]? else cs[j]? := by
  induction vs with
  | nil => intro cs o j _; rw [spliceA, if_neg (by simp)]
  | cons v r ih =>
    intro cs o j hle
    simp only [List.length_cons] at hle ⊢
    rw [spliceA, ih _ _ _ (by rw [Array.size_setIfInBounds]; omega)]
    by_cases h1 : o + 1 ≤ j ∧ j < o + 1 + r.length
    · rw [if_pos h1, if_pos (by omega), show j - o = (j - (o + 1)) + 1 by omega]; simp
    · rw [if_neg h1]
      by_cases h2 : o = j
      · subst h2
        rw [if_pos (by omega), Array.getElem?_setIfInBounds_self]
        simp; omega
      · rw [if_neg (by omega)]
        simp [h2]
/-- the whole row -/
theorem spliceA_all (cs : Array Value) (vs : Array Value) (h : cs.size = vs.size) : spliceA cs 0 vs.toList = vs := by
  apply Array.ext_getElem?
  intro j
  rw [spliceA_get _ _ _ _ (by simp; omega)]
  by_cases hj : j < vs.size
  · rw [if_pos (by simp; omega)]; simp
  · rw [if_neg (by simp; omega), Array.getElem?_eq_none (by omega), Array.getElem?_eq_none (by omega)]
/-- the end of a row -/
theorem spliceA_tail (a cs vs : Array Value) (h : cs.size = vs.size) : spliceA (a ++ cs) a.size vs.toList = a ++ vs := by
  apply Array.ext_getElem?
  intro j
  rw [spliceA_get _ _ _ _ (by simp; omega)]
  by_cases hj : a.size ≤ j ∧ j < a.size + vs.toList.length
  · rw [if_pos hj, Array.getElem?_append_right hj.1]; simp
  · rw [if_neg hj]
    by_cases h1 : j < a.size
    · rw [Array.getElem?_append_left h1, Array.getElem?_append_left h1]
    · simp at hj
      rw [Array.getElem?_append_right (by omega), Array.getElem?_append_right (by omega), Array.getElem?_eq_none (by omega), Array.getElem?_eq_none (by omega)]

theorem wpList_store_blk {ops : Array Oper} {rest : List Oper} {op : Oper} {a : Act} {w : World} {Q : Exit → Act → World → Prop} (hgd : op.guard = none) (ty : TypeId) (x y : Operand) (ho : op.op = .store ty x y)
    (b o : Nat) (cells : Array Value) (hx : a.eval x = .pointer (some ⟨b, o, none⟩)) (hy : a.eval y = .agg cells) (t : TypeId) (cs : Array Value) (hb : Blk w b t cs) (hle : o + cells.size ≤ cs.size)
    (hi : (P.info? ty).map (·.size) = some cells.size) (h1 : cells.all (·.oneCell') = true)
    (h : ∀ w', w'.heap.size = w.heap.size → Keep (fun k => k = b) w w' → Blk w' b t (spliceA cs o cells.toList) → wpList P ops Q rest (a.put op.dst undef) w') : wpList P ops Q (op :: rest) a w := by
  refine wpList_store_mid hgd ty x y ho b o cells hx hy (fun j hj => ⟨?_, hb.frozen _⟩) hi h1 (h _ (size_setCells ..) ((Keep.refl _ _).setCells _ _ (.inl rfl)) (hb.setCells _ _))
  rw [hb.cell, Array.getElem?_eq_getElem (by omega)]; rfl

theorem results_blk {fn : Func} {p : Tmp} {ty : TypeId} (h : fn.results = #[.cell p ty]) (tmps : Array Value) (w : World) (g : Nat) (t : TypeId) (cs : Array Value) (d : TypeDesc)
    (hp : tmps.getD p undef = .pointer (some ⟨g, 0, none⟩)) (hg : Blk w g t cs)
    (hu : P.underlying ty = some d) (hd : (match d with | .struct _ | .array _ _ => true | _ => false) = true) (hi : (P.info? ty).map (·.size) = some cs.size) :
    (results fn tmps).run P w = .ok (.agg cs) w := results_cell_row h tmps w g t cs (0, 0) d hp hg hu hd hi
end
end Go.Proofs.YtcipokldcjappaaGreat

namespace Go.Proofs.YtcipokldcjappaaGreat
open Go.RowKit

theorem add64_0 (x y : Int) (hx : 0 ≤ x) (hy : 0 ≤ y) (w : World) : (callFunc 51 #[.int .u64 x, .int .u64 y, .int .u64 0]).run Tryz.prog w =
    .ok (.value (.tuple #[.int .u64 ((x + y) % 18446744073709551616), .int .u64 ((x + y) / 18446744073709551616)])) w := by
  rw [run_callFunc_extern Tryz.func51 (by kernel_rfl) (by kernel_rfl) (by kernel_rfl) (e := add64Entry) (by kernel_rfl), run_add64 x y 0 hx hy (by omega) (by omega)]
  simp [Result.andThen]

/-- two words added, as far as it goes -/
def satAdd (x y : Int) : Int := if 18446744073709551616 ≤ x + y then 18446744073709551615 else x + y
def carry (x y : Int) : Bool := !(((x + y) / 18446744073709551616) == 0)
theorem satAdd_of (x y : Int) (hx : 0 ≤ x) (hy : 0 ≤ y) (h : carry x y = false) : (x + y) % 18446744073709551616 = satAdd x y := by
  unfold satAdd
  have h2 : (x + y) / 18446744073709551616 = 0 := by simpa [carry] using h
  rw [if_neg (by omega)]
  omega
theorem satAdd_full (x y : Int) (hx : 0 ≤ x) (hy : 0 ≤ y) (h : carry x y = true) : satAdd x y = 18446744073709551615 := by
  unfold satAdd
  have h2 : (x + y) / 18446744073709551616 ≠ 0 := by simpa [carry] using h
  rw [if_pos (by omega)]

set_option maxHeartbeats 400000 in
theorem stadd_c (x y : Int) (w : World) (hx : 0 ≤ x) (hy : 0 ≤ y) :
    Calls Tryz.prog 103 #[.int .u64 x, .int .u64 y] w fun e w' => e = .returned (.int .u64 (satAdd x y)) ∧ w = w' := by
  cases hc : carry x y
  · have H := Lib.hid (satAdd_of x y hx hy hc)
    have hc' : ((x + y) / 18446744073709551616 != 0) = false := by simpa [carry] using hc
    clear hc
    go_enter Tryz.func103, Tryz.ntmps103
    go_wp2_with (simp only [add64_0 x y hx hy])
    go_ret
    exact ⟨by rw [H.out]; rfl, rfl⟩
  · have H := Lib.hid (satAdd_full x y hx hy hc)
    have hc' : ((x + y) / 18446744073709551616 != 0) = true := by simpa [carry] using hc
    clear hc
    go_enter Tryz.func103, Tryz.ntmps103
    go_wp2_with (simp only [add64_0 x y hx hy])
    go_ret
    exact ⟨by rw [H.out]; rfl, rfl⟩


theorem stis_c (k : Nat) (w : World) (hk : k < 17) : Calls Tryz.prog 47 #[(.int .i64 ((k : Int)))] w fun e w' => e = .returned (.bool true) ∧ w = w' := by
  have h1 : ((k : Int) < 17) := by omega
  go_enter Tryz.func47, Tryz.ntmps47
  go_wp2
  go_ret
  exact ⟨by simp [h1], rfl⟩
/-- the cells of counts -/
def stC (st : List Int) : Array Value := (st.map fun x => Value.int .u64 x).toArray
theorem stC_size (st : List Int) : (stC st).size = st.length := by simp [stC]
theorem stC_get (st : List Int) (k : Nat) (x : Int) (h : st[k]? = some x) : (stC st)[k]? = some (.int .u64 x) := by simp [stC, h]
theorem stC_set (st : List Int) (k : Nat) (x : Int) : (stC st).setIfInBounds k (.int .u64 x) = stC (st.set k x) := by simp [stC, List.map_set]
theorem stC_one (st : List Int) : (stC st).all (·.oneCell') = true := by unfold stC; exact all_oneCell_toArray (by intro v hv; obtain ⟨x, _, rfl⟩ := List.mem_map.1 hv; rfl)
theorem infoSt : (Tryz.prog.info? 65).map (·.size) = some 17 := by kernel_rfl

structure StOk (st : List Int) : Prop where
  len : st.length = 17
  pos : ∀ x ∈ st, 0 ≤ x
def bumpL (st : List Int) (k : Nat) (n : Int) : List Int := if 0 < n then st.set k (satAdd (st.getD k 0) n) else st
theorem satAdd_pos (x y : Int) (hx : 0 ≤ x) (hy : 0 ≤ y) : 0 ≤ satAdd x y := by unfold satAdd; split <;> omega
theorem StOk.bump {st : List Int} (h : StOk st) (k : Nat) (n : Int) : StOk (bumpL st k n) := by
  unfold bumpL
  split
  · refine ⟨by simp [h.len], fun x hx => ?_⟩
    rcases List.mem_or_eq_of_mem_set hx with hx | rfl
    · exact h.pos x hx
    · refine satAdd_pos _ _ ?_ (by omega)
      rw [List.getD_eq_getElem?_getD]
      cases hk : st[k]? with
      | none => simp
      | some y => exact h.pos y (List.mem_of_getElem? hk)
  · exact h

set_option maxRecDepth 100000 in
set_option maxHeartbeats 1000000 in
theorem bump_c (st : List Int) (k : Nat) (n : Int) (w : World) (hs : StOk st) (hk : k < 17) (hn : n ≤ 9223372036854775807) :
    Calls Tryz.prog 70 #[.agg (stC st), (.int .i64 ((k : Int))), (.int .i64 (n))] w fun e w' => e = .returned (.agg (stC (bumpL st k n))) ∧ Ext w w' := by
  obtain ⟨x, hx⟩ : ∃ x, st[k]? = some x := ⟨_, List.getElem?_eq_getElem (by rw [hs.len]; exact hk)⟩
  have hx0 := hs.pos x (List.mem_of_getElem? hx)
  have hg : st.getD k 0 = x := by rw [List.getD_eq_getElem?_getD, hx]; rfl
  have hsz : (stC st).size = 17 := by rw [stC_size, hs.len]
  by_cases h : 0 < n
  · have hb : bumpL st k n = st.set k (satAdd x n) := by unfold bumpL; rw [if_pos h, hg]
    rw [hb]
    have hck : (stC st)[k]? = some (.int .u64 x) := stC_get st k x hx
    have hfin : (stC st).setIfInBounds k (.int .u64 (satAdd x n)) = stC (st.set k (satAdd x n)) := stC_set _ _ _
    have Hfin := Lib.hid hfin
    have Hs := Lib.hid hsz
    clear hb hg hsz hx hs hfin
    go_enter Tryz.func70, Tryz.ntmps70
    go_wp2_with (first
      | (go_at_call 47; (with_reducible refine (stis_c _ _ hk).mono ?_); rintro e w1 ⟨rfl, rfl⟩)
      | (go_at_call 103; (with_reducible refine (stadd_c x n _ hx0 (by omega)).mono ?_); rintro e w1 ⟨rfl, rfl⟩)
      | (refine wpList_load_row rfl 65 _ rfl w.heap.size rfl 65 _ (0,0) _ (heap_alloc2_old _ _ _) Tryz.underlying65 rfl ?hi ?_; (case hi => (rw [Hfin.out, stC_size, List.length_set, ← stC_size, Hs.out]; exact infoSt)); rw [Hfin.out]; have hsz' : (stC (st.set k (satAdd x n))).size = 17 := (by rw [stC_size, List.length_set, ← stC_size, Hs.out]); have Hz := Lib.hid hsz'; clear hsz')
      | (refine wpList_store_blk rfl 65 _ _ rfl (w.heap.size + 1) 0 (stC (st.set k (satAdd x n))) rfl rfl 65 _ (heap_alloc2_new _ _ _) ?hle ?hi2 (stC_one _) ?_; (case hle => (rw [Hz.out]; decide)); (case hi2 => (rw [Hz.out]; exact infoSt)); intro w1 hz hk1 hb1; rw [spliceA_all _ _ (by rw [Hz.out]; rfl)] at hb1; have HE := Lib.hid (show Ext w w1 from (((((Ext.refl w).alloc _).alloc _).keep (fun k => k = w.heap.size + 1)).trans hk1).ext (fun k hk e => by omega)); have Hb1 := Lib.hid hb1; clear hk1 hb1 hz))
    refine bodyPost_ret (v := .agg (stC (st.set k (satAdd x n)))) (results_blk rfl _ _ (w.heap.size + 1) 65 _ _ rfl Hb1.out Tryz.underlying65 rfl (by rw [Hz.out]; exact infoSt)) rfl ⟨rfl, ?_⟩
    exact HE.out
  · have hb : bumpL st k n = st := by unfold bumpL; rw [if_neg h]
    rw [hb]
    have Hs := Lib.hid hsz
    clear hb hg hsz hx hs
    go_enter Tryz.func70, Tryz.ntmps70
    go_wp2_with (first
      | (go_at_call 47; (with_reducible refine (stis_c _ _ hk).mono ?_); rintro e w1 ⟨rfl, rfl⟩)
      | (refine wpList_load_row rfl 65 _ rfl w.heap.size rfl 65 _ (0,0) _ (heap_alloc2_old _ _ _) Tryz.underlying65 rfl ?hi ?_; (case hi => (rw [Hs.out]; exact infoSt)))
      | (refine wpList_store_blk rfl 65 _ _ rfl (w.heap.size + 1) 0 (stC st) rfl rfl 65 _ (heap_alloc2_new _ _ _) ?hle ?hi2 (stC_one _) ?_; (case hle => (rw [Hs.out]; decide)); (case hi2 => (rw [Hs.out]; exact infoSt)); intro w1 hz hk1 hb1; rw [spliceA_all _ _ (by rw [Hs.out]; rfl)] at hb1; have HE := Lib.hid (show Ext w w1 from (((((Ext.refl w).alloc _).alloc _).keep (fun k => k = w.heap.size + 1)).trans hk1).ext (fun k hk e => by omega)); have Hb1 := Lib.hid hb1; clear hk1 hb1 hz))
    refine bodyPost_ret (v := .agg (stC st)) (results_blk rfl _ _ (w.heap.size + 1) 65 _ _ rfl Hb1.out Tryz.underlying65 rfl (by rw [Hs.out]; exact infoSt)) rfl ⟨rfl, ?_⟩
    exact HE.out

end Go.Proofs.YtcipokldcjappaaGreat

namespace Go.Proofs.YtcipokldcjappaaGreat
open Go.RowKit

structure Po where
  hop : Int
  pk : Int
  byt : Int
  deriving DecidableEq

def poCells (x : Po) : List Value := [(.int .i64 (x.hop)), .int .u64 x.pk, .int .u64 x.byt]
def posCells (l : List Po) : List Value := l.flatMap poCells
theorem posCells_append (l m : List Po) : posCells (l ++ m) = posCells l ++ posCells m := by simp [posCells]
theorem posCells_one (x : Po) : posCells [x] = poCells x := by simp [posCells]
theorem posCells_length (l : List Po) : (posCells l).length = l.length * 3 := by
  induction l with
  | nil => rfl
  | cons x l ih =>
    have : posCells (x :: l) = poCells x ++ posCells l := rfl
    rw [this, List.length_append, ih, List.length_cons]
    simp [poCells]
    omega
theorem posCells_get (l : List Po) (j k : Nat) (x : Po) (h : l[j]? = some x) (hk : k < 3) : (posCells l)[j * 3 + k]? = (poCells x)[k]? := by
  induction l generalizing j with
  | nil => simp at h
  | cons y l ih =>
    have e : posCells (y :: l) = poCells y ++ posCells l := rfl
    have hy : (poCells y).length = 3 := rfl
    cases j with
    | zero =>
      simp at h; subst h
      rw [e, List.getElem?_append_left (by omega)]
      simp
    | succ j =>
      simp at h
      rw [e, List.getElem?_append_right (by omega), ← ih j h, hy]
      congr 1; omega
theorem posCells_one' (l : List Po) : (posCells l).all (fun u => u.oneCell') = true := by
  rw [List.all_eq_true]
  intro u hu
  unfold posCells at hu
  obtain ⟨x, _, hx⟩ := List.mem_flatMap.1 hu
  simp [poCells] at hx
  rcases hx with rfl | rfl | rfl <;> rfl

/-- ports at an address -/
def PoA (w : World) (g off : Nat) (l : List Po) : Prop := ∀ (j : Nat) (x : Po), l[j]? = some x → w.cell? ⟨g, off + j * 3, none⟩ = some ((.int .i64 (x.hop))) ∧ w.cell? ⟨g, off + j * 3 + 1, none⟩ = some (.int .u64 x.pk) ∧ w.cell? ⟨g, off + j * 3 + 2, none⟩ = some (.int .u64 x.byt)
theorem PoA.lt {w : World} {g off : Nat} {l : List Po} (h : PoA w g off l) (h0 : 0 < l.length) : g < w.heap.size := by
  obtain ⟨x, hx⟩ : ∃ x, l[0]? = some x := ⟨_, List.getElem?_eq_getElem h0⟩
  exact World.block_lt_of_cell? w _ (h 0 x hx).1
theorem PoA.ext {w w' : World} {g off : Nat} {l : List Po} (h : PoA w g off l) (h0 : 0 < l.length) (hx : Ext w w') : PoA w' g off l := by
  have hg := h.lt h0
  intro j x hj
  obtain ⟨a, b, c⟩ := h j x hj
  exact ⟨(hx.cell _ _ hg).trans a, (hx.cell _ _ hg).trans b, (hx.cell _ _ hg).trans c⟩
theorem PoA.keep {S : Nat → Prop} {w w' : World} {g off : Nat} {l : List Po} (h : PoA w g off l) (h0 : 0 < l.length) (hx : Keep S w w') (hS : ¬ S g) : PoA w' g off l := by
  have hg := h.lt h0
  intro j x hj
  obtain ⟨a, b, c⟩ := h j x hj
  exact ⟨(hx.cell (p := ⟨g, _, none⟩) hg hS).trans a, (hx.cell (p := ⟨g, _, none⟩) hg hS).trans b, (hx.cell (p := ⟨g, _, none⟩) hg hS).trans c⟩
theorem PoA.of_own {w : World} {base n g cap : Nat} {l : List Po} {T : TypeId} (h : w.ownsRow base T 3 (.slice (some ⟨g, 0, none⟩) n cap) n (posCells l)) : PoA w g 0 l := by
  intro j x hj
  have e := fun k hk => posCells_get l j k x hj hk
  refine ⟨?_, ?_, ?_⟩
  · rw [Nat.zero_add]; exact own_cell h (j * 3) _ ((e 0 (by omega)).trans rfl)
  · rw [Nat.zero_add]; exact own_cell h (j * 3 + 1) _ ((e 1 (by omega)).trans rfl)
  · rw [Nat.zero_add]; exact own_cell h (j * 3 + 2) _ ((e 2 (by omega)).trans rfl)

theorem portInfo : (Tryz.prog.info? 33).map (fun i => (i.zero, i.size, i.bytes)) = some (some (.agg #[.int .i64 0, .int .u64 0, .int .u64 0]), 3, 24) := by kernel_rfl

set_option maxRecDepth 100000 in
set_option maxHeartbeats 1000000 in
theorem ports_c (g off c : Nat) (l : List Po) (w : World) (hl : PoA w g off l) (h0 : 0 < l.length) (hmx : l.length * 24 ≤ 140737488355328) :
    Calls Tryz.prog 6 #[.slice (some ⟨g, off, none⟩) l.length c] w fun e w' => ∃ v, e = .returned v ∧ w'.ownsRow w.heap.size 33 3 v l.length (posCells l) ∧ Ext w w' := by
  have hg := hl.lt h0
  have HL := Lib.hid hl
  clear hl
  go_enter Tryz.func6, Tryz.ntmps6
  go_wp2_with fail
  go_loopw [3, 4] (fun out i wr => ∃ j : Nat, j ≤ l.length ∧ i = (.int .i64 ((j : Int))) ∧ Ext w wr ∧ wr.ownsRow w.heap.size 33 3 out j (posCells (l.take j))) (fun _ k _ => l.length - (intOf k).toNat)
  case atStart => exact ⟨0, by omega, rfl, Ext.refl w, ⟨rfl, .inl ⟨rfl, rfl⟩⟩⟩
  case round =>
    obtain ⟨j, hj, rfl, hx, hown⟩ := hrel
    by_cases hlt : j < l.length
    · obtain ⟨x, hjx⟩ : ∃ x, l[j]? = some x := ⟨_, List.getElem?_eq_getElem hlt⟩
      obtain ⟨c0, c1, c2⟩ := HL.out.ext h0 hx j x hjx
      have HX := Lib.hid hx
      have HO := Lib.hid hown
      have HJ := Lib.hid hjx
      clear hx hown hjx
      go_wp2_with fail
      refine region1 18 17 28 (fun u w' => ∃ q, w.heap.size ≤ q ∧ u = .slice (some ⟨q, 0, none⟩) 1 1 ∧ Blk w' q 33 (poCells x).toArray) (fun u w1 w2 ⟨q, h1, h2, h3⟩ hx => ⟨q, h1, h2, h3.ext hx⟩) rfl (by kernel_rfl) ?_
      have hgr := HX.out.lt hg
      dsimp only [List.take, List.drop]
      repeat ((first | (refine wpT_skip rfl rfl ?_) | (apply wpT_fix rfl rfl; focus (intro w1 hS; have c1 := hS.cell; have f1 := hS.frozen; have z1 := hS.size; go_simp; first | exact ⟨rfl, hS, Ext.refl _⟩ | ((have e0 := (hS.cell g (off + j * 3) hgr).trans c0; have e1 := (hS.cell g (off + j * 3 + 1) hgr).trans c1; have e2 := (hS.cell g (off + j * 3 + 2) hgr).trans c2; go_simp; exact ⟨rfl, hS, Ext.refl _⟩)) | (exact ⟨⟨_, by have := (HX.out.trans hS).size; exact this, rfl, Blk.new _ _ _⟩, hS.alloc _, (Ext.refl _).alloc _⟩))) | (refine wpT_loose rfl rfl ?_ ?_; focus (intro w1 hS; have c1 := hS.cell; have f1 := hS.frozen; have z1 := hS.size; go_simp; first | ((have e0 := (hS.cell g (off + j * 3) hgr).trans c0; have e1 := (hS.cell g (off + j * 3 + 1) hgr).trans c1; have e2 := (hS.cell g (off + j * 3 + 2) hgr).trans c2; go_simp; exact ⟨rfl, hS, Ext.refl _⟩)) | (exact ⟨⟨_, by have := (HX.out.trans hS).size; exact this, rfl, Blk.new _ _ _⟩, hS.alloc _, (Ext.refl _).alloc _⟩)))); try simp only [Act.put, List.setIfInBounds_toArray, List.set_cons_zero, List.set_cons_succ])
      refine wpT_nil ?_
      rintro - u w6 hS ⟨q6, hq6, rfl, hB6⟩
      simp only [Act.put, List.setIfInBounds_toArray, List.set_cons_zero, List.set_cons_succ]
      have hO6 := own_ext HO.out hS
      refine wpList_app1 (.tmp 11) (.tmp 28) 25 33 rfl rfl Tryz.underlying25 3 24 _ portInfo rfl (by decide) w.heap.size _ _ _ rfl hO6 q6 _ _ rfl hB6 rfl (by simp [poCells, Value.oneCell']) (by omega) (by unfold maxLen; omega) (by have := (HX.out.trans hS).size; exact this) (fun o7 w7 k4 k5 k6 => ?_)
      have hX7 := (((HX.out.trans hS).keep (fun k => u3.ownBlock = some k)).trans' k5 (fun _ _ h => h)).ext (fun k hk e => by have := own_base_le HO.out e; omega)
      have e7 : posCells (l.take (j + 1)) = posCells (l.take j) ++ poCells x := by rw [List.take_add_one, HJ.out, posCells_append, ← posCells_one]; rfl
      rw [← e7] at k4
      clear k5 k6 hS hO6 hB6
      have HX7 := Lib.hid hX7
      have HO7 := Lib.hid k4
      clear hX7 k4
      simp only [Act.put, List.setIfInBounds_toArray, List.set_cons_zero, List.set_cons_succ]
      go_wp2
      go_roundw
      case rel => exact ⟨j + 1, by omega, by first | rfl | (simp <;> omega), HX7.out, HO7.out⟩
      case measure => simp [intOf]; omega
    · have : j = l.length := by omega
      subst this
      rw [List.take_length] at hown
      have HX := Lib.hid hx
      have HO := Lib.hid hown
      clear hx hown
      go_wp2
      go_ret
      exact ⟨_, rfl, HO.out, HX.out⟩
end Go.Proofs.YtcipokldcjappaaGreat

namespace Go.Proofs.YtcipokldcjappaaGreat
open Go.RowKit

def mayB (h : Int) : Bool := decide (0 ≤ h ∧ h ≤ 65535)
def saneFrom (last : Int) : List Po → Bool
  | [] => true
  | x :: r => decide (last < x.hop) && (mayB x.hop && saneFrom x.hop r)

set_option maxRecDepth 100000 in
theorem may_c (x : Int) (w : World) : Calls Tryz.prog 22 #[(.int .i64 (x))] w fun e w' => e = .returned (.bool (mayB x)) ∧ w = w' := by
  by_cases h0 : 0 ≤ x
  · by_cases h1 : x ≤ 65535
    · have hm : mayB x = true := by unfold mayB; simp; omega
      rw [hm]
      clear hm
      go_enter Tryz.func22, Tryz.ntmps22
      go_wp2
      go_ret
      exact ⟨rfl, rfl⟩
    · have hm : mayB x = false := by unfold mayB; simp; omega
      rw [hm]
      clear hm
      go_enter Tryz.func22, Tryz.ntmps22
      go_wp2
      go_ret
      exact ⟨rfl, rfl⟩
  · have hm : mayB x = false := by unfold mayB; simp; omega
    rw [hm]
    clear hm
    go_enter Tryz.func22, Tryz.ntmps22
    go_wp2
    go_ret
    exact ⟨rfl, rfl⟩

set_option maxRecDepth 100000 in
set_option maxHeartbeats 1000000 in
theorem posane_c (g off c : Nat) (l : List Po) (w : World) (hl : PoA w g off l) (h0 : 0 < l.length) (hmx : l.length ≤ 1000000) :
    Calls Tryz.prog 7 #[.slice (some ⟨g, off, none⟩) l.length c] w fun e w' => e = .returned (.bool (saneFrom (-1) l)) ∧ Ext w w' := by
  have hg := hl.lt h0
  have HL := Lib.hid hl
  generalize hR : saneFrom (-1) l = R
  have HR := Lib.hid hR
  clear hl hR
  go_enter Tryz.func7, Tryz.ntmps7
  go_wp2_with fail
  go_loopw [3, 8] (fun last i wr => ∃ (j : Nat) (a : Int), j ≤ l.length ∧ i = (.int .i64 ((j : Int))) ∧ last = (.int .i64 (a)) ∧ Ext w wr ∧ saneFrom a (l.drop j) = R) (fun _ k _ => l.length - (intOf k).toNat)
  case atStart => exact ⟨0, -1, by omega, rfl, rfl, Ext.refl w, by rw [List.drop_zero]; exact HR.out⟩
  case round =>
    obtain ⟨j, a, hj, rfl, rfl, hx, hs⟩ := hrel
    by_cases hlt : j < l.length
    · obtain ⟨x, hjx⟩ : ∃ x, l[j]? = some x := ⟨_, List.getElem?_eq_getElem hlt⟩
      obtain ⟨c0, c1, c2⟩ := HL.out.ext h0 hx j x hjx
      have hd : l.drop j = x :: l.drop (j + 1) := by
        have := List.drop_eq_getElem_cons hlt
        rw [List.getElem?_eq_getElem hlt] at hjx
        rw [this, Option.some.inj hjx]
      rw [hd] at hs
      unfold saneFrom at hs
      have hgr := hx.lt hg
      have HX := Lib.hid hx
      clear hx hd hjx
      by_cases h1 : x.hop ≤ a
      · have hR : R = false := by rw [← hs]; simp; omega
        subst hR
        clear hs
        go_wp2
        go_ret
        refine ⟨rfl, ?_⟩
        have hx := HX.out
        (repeat (first | with_reducible exact Ext.refl _ | with_reducible assumption | (with_reducible refine Ext.set ?_ (by simp <;> omega) _) | (with_reducible refine Ext.alloc ?_ _) | (with_reducible refine Ext.drew ?_) | (with_reducible refine Ext.trans ?_ (by assumption)) | exact Ext.refl _))
      · cases h2 : mayB x.hop
        · have hR : R = false := by rw [← hs, h2]; simp
          subst hR
          have H2 := Lib.hid h2
          clear hs h2
          go_wp2_with (go_at_call 22; (with_reducible refine (may_c _ _).mono ?_); rintro e w1 ⟨rfl, rfl⟩; rw [H2.out])
          go_ret
          refine ⟨rfl, ?_⟩
          have hx := HX.out
          (repeat (first | with_reducible exact Ext.refl _ | with_reducible assumption | (with_reducible refine Ext.set ?_ (by simp <;> omega) _) | (with_reducible refine Ext.alloc ?_ _) | (with_reducible refine Ext.drew ?_) | (with_reducible refine Ext.trans ?_ (by assumption)) | exact Ext.refl _))
        · have hs2 : saneFrom x.hop (l.drop (j + 1)) = R := by rw [← hs, h2]; simp; omega
          have H2 := Lib.hid h2
          have HS := Lib.hid hs2
          clear hs h2 hs2
          go_wp2_with (go_at_call 22; (with_reducible refine (may_c _ _).mono ?_); rintro e w1 ⟨rfl, rfl⟩; rw [H2.out])
          go_roundw
          case rel => exact ⟨j + 1, x.hop, by omega, by first | rfl | (simp <;> omega), rfl, HX.out.alloc _, HS.out⟩
          case measure => simp [intOf]; omega
    · have : j = l.length := by omega
      subst this
      rw [List.drop_length] at hs
      unfold saneFrom at hs
      subst hs
      go_wp2
      go_ret
      exact ⟨rfl, hx⟩
end Go.Proofs.YtcipokldcjappaaGreat

namespace Go.Proofs.YtcipokldcjappaaGreat
open Go.RowKit

set_option maxRecDepth 100000 in
theorem ports0_c (a : Option Addr) (c : Nat) (w : World) : Calls Tryz.prog 6 #[.slice a 0 c] w fun e w' => e = .returned (.slice none 0 0) ∧ Ext w w' := by
  go_enter Tryz.func6, Tryz.ntmps6
  go_wp2_with fail
  refine wp_loop_rounds 1 ?_
  rw [rounds_succ]
  go_wp2
  go_ret
  exact ⟨rfl, Ext.refl w⟩

set_option maxRecDepth 100000 in
theorem sane0_c (a : Option Addr) (c : Nat) (w : World) : Calls Tryz.prog 7 #[.slice a 0 c] w fun e w' => e = .returned (.bool true) ∧ Ext w w' := by
  go_enter Tryz.func7, Tryz.ntmps7
  go_wp2_with fail
  refine wp_loop_rounds 1 ?_
  rw [rounds_succ]
  go_wp2
  go_ret
  exact ⟨rfl, Ext.refl w⟩

set_option maxHeartbeats 400000 in
theorem fwadd_c (x y : Int) (w : World) (hx : 0 ≤ x) (hy : 0 ≤ y) :
    Calls Tryz.prog 28 #[.int .u64 x, .int .u64 y] w fun e w' => e = .returned (.int .u64 (satAdd x y)) ∧ w = w' := by
  cases hc : carry x y
  · have H := Lib.hid (satAdd_of x y hx hy hc)
    have hc' : ((x + y) / 18446744073709551616 != 0) = false := by simpa [carry] using hc
    clear hc
    go_enter Tryz.func28, Tryz.ntmps28
    go_wp2_with (simp only [add64_0 x y hx hy])
    go_ret
    exact ⟨by rw [H.out]; rfl, rfl⟩
  · have H := Lib.hid (satAdd_full x y hx hy hc)
    have hc' : ((x + y) / 18446744073709551616 != 0) = true := by simpa [carry] using hc
    clear hc
    go_enter Tryz.func28, Tryz.ntmps28
    go_wp2_with (simp only [add64_0 x y hx hy])
    go_ret
    exact ⟨by rw [H.out]; rfl, rfl⟩

def cmpI (x y : Int) : Int := if x < y then -1 else if y < x then 1 else 0

set_option maxRecDepth 100000 in
theorem cmp_c (x y : Int) (w : World) : Calls Tryz.prog 26 #[(.int .i64 (x)), (.int .i64 (y))] w fun e w' => e = .returned ((.int .i64 (cmpI x y))) ∧ w = w' := by
  by_cases h1 : x < y
  · have hc : cmpI x y = -1 := by unfold cmpI; rw [if_pos h1]
    rw [hc]
    clear hc
    go_enter Tryz.func26, Tryz.ntmps26
    go_wp2
    go_ret
    exact ⟨rfl, rfl⟩
  · by_cases h2 : y < x
    · have hc : cmpI x y = 1 := by unfold cmpI; rw [if_neg h1, if_pos h2]
      rw [hc]
      clear hc
      go_enter Tryz.func26, Tryz.ntmps26
      go_wp2
      go_ret
      exact ⟨rfl, rfl⟩
    · have hc : cmpI x y = 0 := by unfold cmpI; rw [if_neg h1, if_neg h2]
      rw [hc]
      clear hc
      go_enter Tryz.func26, Tryz.ntmps26
      go_wp2
      go_ret
      exact ⟨rfl, rfl⟩

theorem acmp_c (x : Po) (t : Int) (w : World) : Calls Tryz.prog 25 #[.agg #[(.int .i64 (x.hop)), .int .u64 x.pk, .int .u64 x.byt], (.int .i64 (t))] w fun e w' => e = .returned ((.int .i64 (cmpI x.hop t))) ∧ Ext w w' := by
  go_enter Tryz.func25, Tryz.ntmps25
  go_wp2_with (go_at_call 26; (with_reducible refine (cmp_c _ _ _).mono ?_); rintro e w1 ⟨rfl, rfl⟩)
  go_ret
  refine ⟨rfl, ?_⟩
  (repeat (first | with_reducible exact Ext.refl _ | with_reducible assumption | (with_reducible refine Ext.set ?_ (by simp <;> omega) _) | (with_reducible refine Ext.alloc ?_ _) | (with_reducible refine Ext.drew ?_) | (with_reducible refine Ext.trans ?_ (by assumption)) | exact Ext.refl _))

/-- where a hop stands, or would -/
def Spot (l : List Po) (t : Int) (k : Nat) : Prop := k ≤ l.length ∧ (∀ m x, l[m]? = some x → m < k → x.hop < t) ∧ (∀ m x, l[m]? = some x → k ≤ m → t ≤ x.hop)
def hasHop (l : List Po) (t : Int) (k : Nat) : Bool := match l[k]? with | some x => decide (x.hop = t) | none => false

/-- of increasing ports: what is ahead of one that is less is less -/
def Incr (l : List Po) : Prop := ∀ (m k : Nat) (x y : Po), l[m]? = some x → l[k]? = some y → m < k → x.hop < y.hop

set_option maxRecDepth 100000 in
set_option maxHeartbeats 1000000 in
theorem bs_c (g off c : Nat) (l : List Po) (t : Int) (w : World) (hl : PoA w g off l) (h0 : 0 < l.length) (hmx : l.length ≤ 1000000) (hi : Incr l) :
    Calls Tryz.prog 24 #[.slice (some ⟨g, off, none⟩) l.length c, (.int .i64 (t)), .func (.func 25) #[] #[]] w
      fun e w' => ∃ k, e = .returned (.tuple #[(.int .i64 ((k : Nat))), .bool (hasHop l t k)]) ∧ Spot l t k ∧ Ext w w' := by
  have hg := hl.lt h0
  have HL := Lib.hid hl
  have HI := Lib.hid hi
  clear hl hi
  go_enter Tryz.func24, Tryz.ntmps24
  go_wp2_with fail
  go_loopw [9, 10] (fun i j wr => ∃ (a b : Nat), a ≤ b ∧ b ≤ l.length ∧ i = (.int .i64 ((a : Int))) ∧ j = (.int .i64 ((b : Int))) ∧ Ext w wr ∧ (∀ m x, l[m]? = some x → m < a → x.hop < t) ∧ (∀ m x, l[m]? = some x → b ≤ m → t ≤ x.hop)) (fun i j _ => (intOf j).toNat - (intOf i).toNat)
  case atStart => exact ⟨0, l.length, by omega, by omega, rfl, rfl, Ext.refl w, fun m x _ h => by omega, fun m x hx h => by rw [List.getElem?_eq_none h] at hx; cases hx⟩
  case round =>
    obtain ⟨a, b, hab, hb, rfl, rfl, hx, hA, hB⟩ := hrel
    have HA := Lib.hid hA
    have HB := Lib.hid hB
    have HX := Lib.hid hx
    clear hA hB hx
    by_cases hlt : a < b
    · obtain ⟨x, hjx⟩ : ∃ x, l[(a + b) / 2]? = some x := ⟨_, List.getElem?_eq_getElem (by omega)⟩
      obtain ⟨c0, c1, c2⟩ := HL.out.ext h0 HX.out ((a + b) / 2) x hjx
      have HJ := Lib.hid hjx
      clear hjx
      by_cases hxt : x.hop < t
      · have hcm : cmpI x.hop t = -1 := by unfold cmpI; rw [if_pos hxt]
        have Hcm := Lib.hid hcm
        clear hcm
        go_wp2_with (go_at_call 25; (with_reducible refine (acmp_c x t _).mono ?_); rintro e w1 ⟨rfl, h1⟩; rw [Hcm.out]; have HX1 := Lib.hid (HX.out.trans h1); clear h1)
        go_roundw
        case rel =>
          refine ⟨(a + b) / 2 + 1, b, by omega, hb, by first | rfl | (congr 1; omega) | congr 1, rfl, HX1.out, fun m y hm h => ?_, HB.out⟩
          by_cases hme : m = (a + b) / 2
          · subst hme
            rw [HJ.out] at hm
            exact Option.some.inj hm ▸ hxt
          · exact Int.lt_trans (HI.out m _ y x hm HJ.out (by omega)) hxt
        case measure => simp [intOf]; omega
      · have hcm : cmpI x.hop t = 0 ∨ cmpI x.hop t = 1 := by unfold cmpI; rw [if_neg hxt]; split <;> simp
        have hcm2 : ¬ cmpI x.hop t < 0 := by omega
        clear hcm
        go_wp2_with (go_at_call 25; (with_reducible refine (acmp_c x t _).mono ?_); rintro e w1 ⟨rfl, h1⟩; have HX1 := Lib.hid (HX.out.trans h1); clear h1)
        go_roundw
        case rel =>
          refine ⟨a, (a + b) / 2, by omega, by omega, rfl, by congr 1, HX1.out, HA.out, fun m y hm h => ?_⟩
          by_cases hme : m = (a + b) / 2
          · subst hme
            rw [HJ.out] at hm
            rw [← Option.some.inj hm]
            omega
          · have := HI.out _ m x y HJ.out hm (by omega)
            omega
        case measure => simp [intOf]; omega
    · have : a = b := by omega
      subst this
      have hsp : Spot l t a := ⟨hb, HA.out, HB.out⟩
      by_cases hlen : a < l.length
      · obtain ⟨x, hjx⟩ : ∃ x, l[a]? = some x := ⟨_, List.getElem?_eq_getElem hlen⟩
        obtain ⟨c0, c1, c2⟩ := HL.out.ext h0 HX.out a x hjx
        have hh : hasHop l t a = decide (x.hop = t) := by unfold hasHop; rw [hjx]
        have hge : t ≤ x.hop := HB.out a x hjx (by omega)
        have HS := Lib.hid hsp
        have HH := Lib.hid hh
        clear hjx hsp hh
        by_cases hxt : x.hop = t
        · have hcm : cmpI x.hop t = 0 := by unfold cmpI; rw [if_neg (by omega), if_neg (by omega)]
          have Hcm := Lib.hid hcm
          have Hxt := Lib.hid hxt
          clear hcm hxt
          go_wp2_with (go_at_call 25; (with_reducible refine (acmp_c x t _).mono ?_); rintro e w1 ⟨rfl, h1⟩; rw [Hcm.out]; have HX1 := Lib.hid (HX.out.trans h1); clear h1)
          go_ret2
          exact ⟨a, by rw [HH.out, decide_eq_true Hxt.out]; rfl, HS.out, HX1.out⟩
        · have hcm : cmpI x.hop t = 1 := by unfold cmpI; rw [if_neg (by omega), if_pos (by omega)]
          have Hcm := Lib.hid hcm
          clear hcm
          go_wp2_with (go_at_call 25; (with_reducible refine (acmp_c x t _).mono ?_); rintro e w1 ⟨rfl, h1⟩; rw [Hcm.out]; have HX1 := Lib.hid (HX.out.trans h1); clear h1)
          go_ret2
          exact ⟨a, by rw [HH.out, decide_eq_false hxt]; rfl, HS.out, HX1.out⟩
      · have hh : hasHop l t a = false := by unfold hasHop; rw [List.getElem?_eq_none (by omega)]
        have HS := Lib.hid hsp
        have HH := Lib.hid hh
        clear hsp hh
        go_wp2
        go_ret2
        exact ⟨a, by rw [HH.out]; rfl, HS.out, HX.out⟩
end Go.Proofs.YtcipokldcjappaaGreat

namespace Go.Proofs.YtcipokldcjappaaGreat
open Go.RowKit

theorem run_copy3 {P : Program} (w : World) (dT sT ty elem : TypeId) (g o dLen dCap : Nat) (a : Addr) (sLen sCap : Nat) (cur : Array Value) (t : TypeId) (cs : List Value)
    (hu : P.underlying dT = some (.slice elem)) (hs : (P.info? elem).map (·.size) = some 3)
    (hg : w.heap[g]? = some (.cells cur t (0, 0))) (hn : cs.length = Nat.min sLen dLen * 3)
    (hsrc : ∀ j v, cs[j]? = some v → w.cell? (a.add j) = some v) (hfit : o + cs.length ≤ cur.size) (h1 : ∀ v ∈ cs, v.oneCell' = true) :
    (Builtin.copy_ #[dT, sT] ty #[.slice (some ⟨g, o, none⟩) dLen dCap, .slice (some a) sLen sCap]).run P w =
      .ok (goInt (Nat.min sLen dLen)) (w.setRow g (cur.toList.take o ++ cs ++ cur.toList.drop (o + cs.length)).toArray) := by
  have hl := run_loadCells_list (P := P) w a cs hsrc
  have hst := run_storeCells_at P g o t cs 0 cur w hg (by simpa using hfit) h1
  cases hq : P.info? elem with
  | none => simp [hq] at hs
  | some i =>
    have hi : i.size = 3 := by simpa [hq] using hs
    rw [hn] at hl
    simp [Builtin.copy_, run_underlying hu, Builtin.lenOf, Builtin.firstCells, sizeOf, typeInfo, hq, hi, hl]
    simp at hst
    rw [hst]
    rfl

theorem Keep.setRow {S : Nat → Prop} {w a : World} (h : Keep S w a) {g : Nat} (hg : S g ∨ w.heap.size ≤ g) (cs : Array Value) : Keep S w (a.setRow g cs) := by
  refine ⟨h.os, h.tape, h.output, by rw [setRow_size]; exact h.size, fun k hk hs => ?_⟩
  rw [setRow_other _ _ _ _ (by rintro rfl; rcases hg with h1 | h1; exact hs h1; omega)]
  exact h.block k hk hs

theorem PoA.flat {w : World} {g off : Nat} {l : List Po} (h : PoA w g off l) (j : Nat) (u : Value) (hj : (posCells l)[j]? = some u) : w.cell? ⟨g, off + j, none⟩ = some u := by
  have hlt : j < l.length * 3 := by
    rw [← posCells_length]
    exact (List.getElem?_eq_some_iff.1 hj).1
  obtain ⟨x, hx⟩ : ∃ x, l[j / 3]? = some x := ⟨_, List.getElem?_eq_getElem (by omega)⟩
  obtain ⟨a, b, c⟩ := h _ x hx
  have hm := Nat.div_add_mod j 3
  have hg := posCells_get l (j / 3) (j % 3) x hx (by omega)
  rw [show j / 3 * 3 + j % 3 = j by omega, hj] at hg
  rcases (show j % 3 = 0 ∨ j % 3 = 1 ∨ j % 3 = 2 by omega) with e | e | e
  · rw [e] at hg; rw [hg, show off + j = off + j / 3 * 3 by omega]; exact a
  · rw [e] at hg; rw [hg, show off + j = off + j / 3 * 3 + 1 by omega]; exact b
  · rw [e] at hg; rw [hg, show off + j = off + j / 3 * 3 + 2 by omega]; exact c
theorem posCells_mem (l : List Po) : ∀ u ∈ posCells l, u.oneCell' = true := fun u hu => List.all_eq_true.1 (posCells_one' l) u hu
theorem posCells_take (l : List Po) (k : Nat) : posCells (l.take k) = (posCells l).take (k * 3) := by
  by_cases hk : k ≤ l.length
  · have h1 : posCells l = posCells (l.take k) ++ posCells (l.drop k) := by rw [← posCells_append, List.take_append_drop]
    have h2 : (posCells (l.take k)).length = k * 3 := by rw [posCells_length, List.length_take]; congr 1; omega
    rw [h1, ← h2, List.take_left']
    rfl
  · rw [List.take_of_length_le (by omega), List.take_of_length_le (by rw [posCells_length]; omega)]
theorem posCells_drop (l : List Po) (k : Nat) : posCells (l.drop k) = (posCells l).drop (k * 3) := by
  by_cases hk : k ≤ l.length
  · have h1 : posCells l = posCells (l.take k) ++ posCells (l.drop k) := by rw [← posCells_append, List.take_append_drop]
    have h2 : (posCells (l.take k)).length = k * 3 := by rw [posCells_length, List.length_take]; congr 1; omega
    rw [h1, ← h2, List.drop_left']
    rfl
  · rw [List.drop_eq_nil_of_le (by omega), List.drop_eq_nil_of_le (by rw [posCells_length]; omega)]
    rfl

set_option maxRecDepth 100000 in
theorem pclone_c (g off c : Nat) (l : List Po) (w : World) (hl : PoA w g off l) (h0 : 0 < l.length) (hmx : l.length ≤ 1000000) :
    Calls Tryz.prog 23 #[.slice (some ⟨g, off, none⟩) l.length c] w fun e w' => ∃ v, e = .returned v ∧ w'.ownsRow w.heap.size 33 3 v l.length (posCells l) ∧ Ext w w' := by
  have he : ∀ w, (binOp .eql 25 (.slice (some ⟨g, off, none⟩) l.length c) (.slice none 0 0)).run Tryz.prog w = .ok (.bool false) w := fun w => Lib.run_eql_slice_nil w 25 33 (some ⟨g, off, none⟩) l.length c 0 0 Tryz.underlying25
  have hgW := fun o => hl.ext h0 ((Ext.refl w).alloc o)
  have HG := Lib.hid hgW
  clear hgW hl
  go_enter Tryz.func23, Tryz.ntmps23
  go_wp2_with (at_builtin; go_loud (refine wpList_append_grows _ rfl (.tmp 5) (.tmp 6) 25 rfl 33 _ (.agg #[.int .i64 0, .int .u64 0, .int .u64 0]) 3 24 Tryz.underlying25 rfl rfl rfl rfl rfl (by decide) (some ⟨w.heap.size, 0, none⟩) 0 0 [] rfl (fun h => by cases h) rfl (fun b _ j u h => by cases h) ⟨g, off, none⟩ l.length c (posCells l) rfl (posCells_length l) (fun j u hj => by rw [Addr.add_lit]; exact (HG.out _).flat j u hj) (posCells_mem l) (by omega) (by simp only [maxLen]; omega) (by omega) ?_; intro v' w' hown hgr))
  have hx := ((Ext.refl w).alloc (.cells #[] 33)).trans (((Keep.refl (fun _ => False) _).grown hgr (fun k hk => by cases hk)).ext (fun _ _ h => h))
  rw [Nat.zero_add, List.nil_append] at hown
  have ho := own_base hown (base' := w.heap.size) (by simp)
  go_ret
  exact ⟨v', rfl, ho, hx⟩

/-- a port put in ahead of the k-th -/
def insP (l : List Po) (k : Nat) (x : Po) : List Po := l.take k ++ x :: l.drop k
theorem insP_length (l : List Po) (k : Nat) (x : Po) (hk : k ≤ l.length) : (insP l k x).length = l.length + 1 := by
  simp [insP]; omega
theorem insP_cells (l : List Po) (k : Nat) (x : Po) : posCells (insP l k x) = (posCells l).take (k * 3) ++ (poCells x ++ (posCells l).drop (k * 3)) := by
  have : insP l k x = l.take k ++ ([x] ++ l.drop k) := rfl
  rw [this, posCells_append, posCells_append, posCells_one, posCells_take, posCells_drop]
theorem insP_end (l : List Po) (x : Po) : posCells (insP l l.length x) = posCells l ++ poCells x := by
  rw [insP_cells, ← posCells_length, List.take_length, List.drop_length, List.append_nil]

/-- what the two copies leave -/
theorem two_copies (cur : List Value) (l : List Po) (x : Po) (k cap : Nat) (hk : k < l.length) (hcap : l.length + 1 ≤ cap) (hsz : cur.length = cap * 3) (ht : cur.take (k * 3) = (posCells l).take (k * 3)) :
    let r1 := cur.take ((k + 1) * 3) ++ (posCells l).drop (k * 3) ++ cur.drop ((k + 1) * 3 + ((posCells l).drop (k * 3)).length)
    let r2 := r1.take (k * 3) ++ poCells x ++ r1.drop (k * 3 + (poCells x).length)
    r1.length = cap * 3 ∧ r2.length = cap * 3 ∧ r2.take ((l.length + 1) * 3) = posCells (insP l k x) := by
  intro r1 r2
  have hp := posCells_length l
  have hd : ((posCells l).drop (k * 3)).length = (l.length - k) * 3 := by rw [List.length_drop, hp]; omega
  have hx : (poCells x).length = 3 := rfl
  have h1 : r1.length = cap * 3 := by
    simp only [r1, List.length_append, List.length_take, List.length_drop, hp, hsz]
    omega
  have h2 : r2.length = cap * 3 := by
    simp only [r2, List.length_append, List.length_take, List.length_drop, h1, hx]
    omega
  refine ⟨h1, h2, ?_⟩
  have e1 : r1.take (k * 3) = (posCells l).take (k * 3) := by
    rw [← ht]
    simp only [r1, List.append_assoc]
    rw [List.take_append_of_le_length (by rw [List.length_take]; omega), List.take_take]
    congr 1
    omega
  have e2 : r1.drop (k * 3 + 3) = (posCells l).drop (k * 3) ++ cur.drop ((k + 1) * 3 + ((posCells l).drop (k * 3)).length) := by
    simp only [r1, List.append_assoc]
    rw [show k * 3 + 3 = (cur.take ((k + 1) * 3)).length by rw [List.length_take]; omega, List.drop_left']
    rfl
  have e3 : (posCells (insP l k x)).length = (l.length + 1) * 3 := by rw [posCells_length, insP_length _ _ _ (by omega)]
  simp only [r2, e1, hx, e2]
  rw [← e3, insP_cells]
  have : (posCells l).take (k * 3) ++ poCells x ++ ((posCells l).drop (k * 3) ++ cur.drop ((k + 1) * 3 + ((posCells l).drop (k * 3)).length)) = (posCells l).take (k * 3) ++ (poCells x ++ (posCells l).drop (k * 3)) ++ cur.drop ((k + 1) * 3 + ((posCells l).drop (k * 3)).length) := by simp only [List.append_assoc]
  rw [this, List.take_left']
  rfl

/-- what the two copies leave, the element first -/
theorem two_copies' (cur : List Value) (l : List Po) (x : Po) (k cap : Nat) (hk : k < l.length) (hcap : l.length + 1 ≤ cap) (hsz : cur.length = cap * 3) (ht : cur.take (k * 3) = (posCells l).take (k * 3)) :
    let r1 := cur.take (k * 3) ++ poCells x ++ cur.drop (k * 3 + (poCells x).length)
    let r2 := r1.take ((k + 1) * 3) ++ (posCells l).drop (k * 3) ++ r1.drop ((k + 1) * 3 + ((posCells l).drop (k * 3)).length)
    r1.length = cap * 3 ∧ r2.length = cap * 3 ∧ r2.take ((l.length + 1) * 3) = posCells (insP l k x) := by
  intro r1 r2
  have hp := posCells_length l
  have hd : ((posCells l).drop (k * 3)).length = (l.length - k) * 3 := by rw [List.length_drop, hp]; omega
  have hx : (poCells x).length = 3 := rfl
  have h1 : r1.length = cap * 3 := by
    simp only [r1, List.length_append, List.length_take, List.length_drop, hx, hsz]
    omega
  have h2 : r2.length = cap * 3 := by
    simp only [r2, List.length_append, List.length_take, List.length_drop, h1, hp]
    omega
  refine ⟨h1, h2, ?_⟩
  have e1 : r1.take ((k + 1) * 3) = (posCells l).take (k * 3) ++ poCells x := by
    rw [← ht]
    have : (cur.take (k * 3) ++ poCells x).length = (k + 1) * 3 := by rw [List.length_append, List.length_take, hx]; omega
    rw [← this, List.take_left']
    rfl
  have e3 : (posCells (insP l k x)).length = (l.length + 1) * 3 := by rw [posCells_length, insP_length _ _ _ (by omega)]
  simp only [r2, e1]
  rw [← e3, insP_cells]
  rw [show (posCells l).take (k * 3) ++ poCells x ++ (posCells l).drop (k * 3) = (posCells l).take (k * 3) ++ (poCells x ++ (posCells l).drop (k * 3)) by simp only [List.append_assoc], List.take_left']
  rfl

set_option maxRecDepth 100000 in
set_option maxHeartbeats 4000000 in
theorem insEnd_c (base q : Nat) (v : Value) (l : List Po) (x : Po) (w : World) (ho : w.ownsRow base 33 3 v l.length (posCells l)) (hq : Blk w q 33 (poCells x).toArray) (hb : base ≤ w.heap.size) (hmx : l.length ≤ 1000000) :
    Calls Tryz.prog 27 #[v, (.int .i64 ((l.length : Nat))), .slice (some ⟨q, 0, none⟩) 1 1] w
      fun e w' => ∃ v', e = .returned v' ∧ w'.ownsRow base 33 3 v' (l.length + 1) (posCells (insP l l.length x)) ∧ Keep (fun k => v.ownBlock = some k) w w' := by
  have HO := Lib.hid ho
  have HQ := Lib.hid hq
  rcases own_form ho with ⟨rfl, hn⟩ | ⟨g, cap, rfl, h1, h2, h3⟩
  · have hl : l = [] := List.eq_nil_of_length_eq_zero hn
    subst hl
    clear ho hq
    go_enter Tryz.func27, Tryz.ntmps27
    go_wp2_with (at_builtin; go_loud (refine wpList_app1 (.tmp 23) (.tmp 24) 25 33 rfl rfl Tryz.underlying25 3 24 _ portInfo rfl (by decide) base _ _ _ rfl HO.out q _ _ rfl HQ.out rfl (by simp [poCells, Value.oneCell']) (by simp) (by unfold maxLen; simp) hb (fun o7 w7 k4 k5 k6 => ?_)))
    rw [← insP_end] at k4
    have H4 := Lib.hid k4
    have H5 := Lib.hid k5
    clear k4 k5 k6
    go_ret
    exact ⟨o7, rfl, H4.out, H5.out⟩
  · clear ho hq
    unfold maxLen at h2
    have hs : ((l.length : Int) ≤ (cap : Int)) := by omega
    go_enter Tryz.func27, Tryz.ntmps27
    go_wp2_with (at_builtin; go_loud (refine wpList_app1 (.tmp 23) (.tmp 24) 25 33 rfl rfl Tryz.underlying25 3 24 _ portInfo rfl (by decide) base _ _ _ rfl HO.out q _ _ rfl HQ.out rfl (by simp [poCells, Value.oneCell']) (by omega) (by unfold maxLen; omega) hb (fun o7 w7 k4 k5 k6 => ?_)))
    all_goals
      rw [← insP_end] at k4
      have H4 := Lib.hid k4
      have H5 := Lib.hid k5
      clear k4 k5 k6
      go_ret
      exact ⟨o7, rfl, H4.out, H5.out⟩

theorem portSize (w : World) : (Go.sizeOf 33).run Tryz.prog w = .ok 3 w := by kernel_rfl

set_option maxRecDepth 100000 in
set_option maxHeartbeats 4000000 in
theorem insIn_c (base q g cap k : Nat) (l : List Po) (x : Po) (w : World) (ho : w.ownsRow base 33 3 (.slice (some ⟨g, 0, none⟩) l.length cap) l.length (posCells l)) (hq : Blk w q 33 (poCells x).toArray) (hk : k < l.length) (hcap : l.length + 1 ≤ cap) (hqg : q ≠ g) (hmx : l.length ≤ 1000000) :
    Calls Tryz.prog 27 #[.slice (some ⟨g, 0, none⟩) l.length cap, (.int .i64 ((k : Nat))), .slice (some ⟨q, 0, none⟩) 1 1] w
      fun e w' => ∃ v', e = .returned v' ∧ w'.ownsRow base 33 3 v' (l.length + 1) (posCells (insP l k x)) ∧ Keep (fun k => k = g) w w' := by
  obtain ⟨hlen, hform⟩ := ho
  rcases hform with ⟨h, _⟩ | ⟨g', cap', cur, hv, hbg, hg, hnc, hcm, hcs, htake⟩
  · cases h
  injection hv with e1 e2 e3
  injection e1 with e1
  injection e1 with e1
  subst e1
  subst e3
  unfold maxLen at hcm
  have hp := posCells_length l
  have htk : cur.toList.take (k * 3) = (posCells l).take (k * 3) := by
    rw [← htake, List.take_take]
    congr 1
    omega
  obtain ⟨f1, f2, f3⟩ := two_copies cur.toList l x k cap hk hcap (by simpa using hcs) htk
  have hz2 : ¬ ((k : Int) = (l.length : Int)) := by omega
  have hz3 : ¬ ((l.length : Int) + 1 > (cap : Int)) := by omega
  have hsq : w.shape? q = some (33, 3) := by unfold Blk at hq; unfold World.shape?; rw [hq]; rfl
  have hsg : w.shape? g = some (33, cap * 3) := by unfold World.shape?; rw [hg, ← hcs]
  have hov : ∀ o lb cb, (callFunc 49 #[.slice (some ⟨q, 0, none⟩) 1 1, .slice (some ⟨g, o, none⟩) lb cb]).run Tryz.prog w = .ok (.value (.bool false)) w := fun o lb cb => by
    rw [run_callFunc_extern Tryz.func49 (by kernel_rfl) (by kernel_rfl) (by kernel_rfl) (e := Extern.SlicesOverlaps.overlaps #[25, 25] #[4]) (by kernel_rfl),
      Lib.run_overlaps_apart w 25 4 33 Tryz.underlying25 3 portSize ⟨q, 0, none⟩ ⟨g, o, none⟩ 1 1 lb cb hqg _ _ _ _ hsq hsg (by omega) (hq.frozen 0) (hq.frozen 3)]
    rfl
  have hinf : (Tryz.prog.info? 33).map (·.size) = some 3 := by kernel_rfl
  have hov' := Lib.hid hov
  have hsrc1 : ∀ (w1 : World), w1.heap[g]? = some (.cells cur 33) → ∀ j v, ((posCells l).drop (k * 3))[j]? = some v → w1.cell? ((⟨g, k * 3, none⟩ : Addr).add j) = some v := fun w1 hg1 j v hj => by
    rw [Addr.add_lit]
    rw [List.getElem?_drop, ← htake, List.getElem?_take] at hj
    split at hj
    · simp only [World.cell?, hg1]; simpa using hj
    · cases hj
  have hcp1 := fun (w1 : World) (hg1 : w1.heap[g]? = some (.cells cur 33)) (ty : TypeId) (dc sc : Nat) =>
    run_copy3 (P := Tryz.prog) w1 25 25 ty 33 g ((k + 1) * 3) (l.length - k) dc ⟨g, k * 3, none⟩ (l.length + 1 - k) sc cur 33 ((posCells l).drop (k * 3)) Tryz.underlying25 hinf hg1
      (by rw [List.length_drop, hp]; simp only [Nat.min_def]; split <;> omega) (hsrc1 w1 hg1)
      (by rw [List.length_drop, hp, hcs]; omega) (fun v hv => posCells_mem l v (List.mem_of_mem_drop hv))
  generalize hr1 : cur.toList.take ((k + 1) * 3) ++ (posCells l).drop (k * 3) ++ cur.toList.drop ((k + 1) * 3 + ((posCells l).drop (k * 3)).length) = r1 at hcp1 f1 f2 f3
  have hcp2 := fun (w1 : World) (hg1 : w1.heap[g]? = some (.cells r1.toArray 33)) (hq1 : Blk w1 q 33 (poCells x).toArray) (ty : TypeId) (dc : Nat) =>
    run_copy3 (P := Tryz.prog) w1 25 25 ty 33 g (k * 3) (l.length + 1 - k) dc ⟨q, 0, none⟩ 1 1 r1.toArray 33 (poCells x) Tryz.underlying25 hinf hg1
      (by simp only [Nat.min_def]; rw [if_pos (by omega)]; rfl) (fun j v hj => by rw [Addr.add_lit, Nat.zero_add, hq1.cell]; simpa using hj)
      (by simp only [List.size_toArray, f1]; show k * 3 + 3 ≤ _; omega) (fun v hv => List.all_eq_true.1 (show (poCells x).all (fun u => u.oneCell') = true from rfl) v hv)
  have Hcp1 := Lib.hid hcp1
  have Hcp2 := Lib.hid hcp2
  have Hg := Lib.hid hg
  have Hq := Lib.hid hq
  have F2 := Lib.hid f2
  have F3 := Lib.hid f3
  have hglt : g < w.heap.size := (Array.getElem?_eq_some_iff.1 hg).1
  have hw1 : IntKind.i64.wrap ((k : Int) + 1) = (k : Int) + 1 := by rw [IntKind.wrap_i64]; omega
  have hb1 : (0 : Int) ≤ (k : Int) + 1 := by omega
  have htn : ((k : Int) + 1).toNat = k + 1 := by omega
  have hb2 : ¬ (cap = k + 1) := by omega
  have hb3 : (k : Int) ≤ (l.length : Int) + 1 := by omega
  have hb5 : (k : Int) + 1 ≤ (l.length : Int) + 1 := by omega
  have hb4 : ¬ (cap = k) := by omega
  clear hsrc1 hcp1 hcp2 hg hq f1 f2 f3 hov' hlen htk htake hr1 hcs
  go_enter Tryz.func27, Tryz.ntmps27
  go_wp2_with (simp only [hov])
  clear hov
  refine wp_region_ext 8 (by kernel_rfl) (by kernel_rfl) ?_
  dsimp only [List.take, List.drop]
  repeat (first | (apply hold_skip2 rfl; focus (first | (simp only [Act.put, List.setIfInBounds_toArray, List.set_cons_zero, List.set_cons_succ]; exact rfl) | (simp only [Act.put, List.setIfInBounds_toArray, List.set_cons_zero, List.set_cons_succ]) | exact rfl)) | (apply hold_cons2 rfl; (focus (intro w1 hS; have c1 := hS.cell; have f1 := hS.frozen; have z1 := hS.size; go_simp; first | exact rfl | exact ⟨rfl, hS⟩ )); (focus (first | (simp only [Act.put, List.setIfInBounds_toArray, List.set_cons_zero, List.set_cons_succ]; exact rfl) | (simp only [Act.put, List.setIfInBounds_toArray, List.set_cons_zero, List.set_cons_succ]) | exact rfl))))
  refine hold_nil ?_
  rintro w1 hE
  have c_hE := hE.cell
  have f_hE := hE.frozen
  have hg1 := (hE.block g hglt).trans Hg.out
  have hq1 := Hq.out.ext hE
  refine wpList_copy_runI _ rfl _ _ 25 25 rfl _ _ rfl rfl (Hcp1.out w1 hg1 _ _ _) ?_
  have hg2 := setRow_heap w1 g cur r1.toArray 33 _ hg1
  have hq2 : Blk (w1.setRow g r1.toArray) q 33 (poCells x).toArray := (setRow_other w1 g q r1.toArray hqg).trans hq1
  have hK2 := (hE.keep (fun k => k = g)).setRow (g := g) (.inl rfl) r1.toArray
  have HE := Lib.hid hE
  have Hg2 := Lib.hid hg2
  have Hq2 := Lib.hid hq2
  have HK2 := Lib.hid hK2
  clear hE hg1 hq1 hg2 hq2 hK2 c_hE f_hE Hcp1
  generalize w1.setRow g r1.toArray = w2 at Hg2 Hq2 HK2 ⊢
  have hcp2 := Hcp2.out w2 Hg2.out Hq2.out 3 (cap - k)
  go_wp2_with fail
  clear hcp2
  go_ret
  refine ⟨_, rfl, ⟨?_, .inr ⟨g, cap, _, rfl, hbg, setRow_heap w2 g _ _ 33 _ Hg2.out, by omega, by unfold maxLen; omega, by simpa using F2.out, by simpa using F3.out⟩⟩, HK2.out.setRow (.inl rfl) _⟩
  rw [posCells_length, insP_length _ _ _ (by omega)]

set_option maxRecDepth 100000 in
set_option maxHeartbeats 4000000 in
theorem insGrow_c (base q g cap k : Nat) (l : List Po) (x : Po) (w : World) (ho : w.ownsRow base 33 3 (.slice (some ⟨g, 0, none⟩) l.length cap) l.length (posCells l)) (hq : Blk w q 33 (poCells x).toArray) (hb : base ≤ w.heap.size) (hk : k < l.length) (hcap : cap < l.length + 1) (hmx : l.length ≤ 1000000) :
    Calls Tryz.prog 27 #[.slice (some ⟨g, 0, none⟩) l.length cap, (.int .i64 ((k : Nat))), .slice (some ⟨q, 0, none⟩) 1 1] w
      fun e w' => ∃ v', e = .returned v' ∧ w'.ownsRow base 33 3 v' (l.length + 1) (posCells (insP l k x)) ∧ Ext w w' := by
  obtain ⟨hlen, hform⟩ := ho
  rcases hform with ⟨h, _⟩ | ⟨g', cap', cur, hv, hbg, hg, hnc, hcm, hcs, htake⟩
  · cases h
  injection hv with e1 e2 e3
  injection e1 with e1
  injection e1 with e1
  subst e1
  subst e3
  have hcl : cap = l.length := by omega
  subst hcl
  clear hnc hcap hcm
  have hp := posCells_length l
  have hcur : cur.toList = posCells l := by
    rw [← htake, List.take_of_length_le (by rw [Array.length_toList, hcs]; omega)]
  obtain ⟨i0, hi0, hz0, hzs, hzb⟩ := info_parts portInfo
  have hinf : (Tryz.prog.info? 33).map (·.size) = some 3 := by kernel_rfl
  have hold : (Builtin.firstCells i0.size k (.slice (some ⟨g, 0, none⟩) k l.length)).run Tryz.prog w.drew = .ok ((posCells l).take (k * 3)).toArray w.drew := by
    rw [hzs]
    exact run_firstCells_some w.drew 3 k ⟨g, 0, none⟩ k l.length ((posCells l).take (k * 3)) (by rw [List.length_take, hp]; omega) (fun j v hj => by
      rw [Addr.add_lit, Nat.zero_add]
      rw [List.getElem?_take] at hj
      split at hj
      · show w.cell? _ = _
        simp only [World.cell?, hg]
        rw [← hcur] at hj
        simpa using hj
      · cases hj)
  have hik : k + (l.length + 1 - k) = l.length + 1 := by omega
  have hkk : (l.length : Int) + 1 - (k : Int) = ((l.length + 1 - k : Nat) : Int) := by omega
  have hrz := fun ty => Lib.run_append_grow_zeros (P := Tryz.prog) w 25 3 ty 33 i0 _ .i64 .i64 Tryz.underlying25 Tryz.underlying3 hi0 hz0 (some ⟨g, 0, none⟩) k l.length ((posCells l).take (k * 3)) hold (l.length + 1 - k) (by omega) (by rw [hzs]; omega) (by omega) (by omega) (by rw [hzb]; omega) (by rw [hzb, hik]; exact growslice_fits (by omega) (by omega))
  rw [hik] at hrz
  have hGn := grownCap_ge w (l.length + 1) l.length 33
  have hG63 := grownCap_le_maxLen w (l.length + 1) l.length 33 (by unfold maxLen; omega)
  generalize grownCap w (l.length + 1) l.length 33 = G at hrz hGn hG63
  generalize hROW : (List.take (k * 3) (posCells l)).toArray ++ Builtin.zeroCells (Value.agg #[.int .i64 0, .int .u64 0, .int .u64 0]).cells (l.length + 1 - k) ++ Builtin.zeroCells (Value.agg #[.int .i64 0, .int .u64 0, .int .u64 0]).cells (G - (l.length + 1)) = ROW at hrz
  have hRs : ROW.toList.length = G * 3 := by
    rw [← hROW]
    simp [Builtin.zeroCells, Value.cells, hp]
    omega
  have hRt : ROW.toList.take (k * 3) = (posCells l).take (k * 3) := by
    rw [← hROW]
    simp only [Array.toList_append, List.append_assoc]
    rw [List.take_append_of_le_length (by rw [List.length_take, hp]; omega), List.take_of_length_le (by rw [List.length_take, hp]; omega)]
  obtain ⟨f1, f2, f3⟩ := two_copies' ROW.toList l x k G hk hGn hRs hRt
  have hG3 : ROW.size = G * 3 := by simpa using hRs
  clear hROW hold hi0 hz0 hzs hzb i0
  have hW1 : Ext w (w.drew.alloc (.cells ROW 33)) := ((Ext.refl w).drew).alloc _
  have hB1 : Blk (w.drew.alloc (.cells ROW 33)) w.heap.size 33 ROW := Blk.new' w.drew w.heap.size _ _ rfl
  have hglt : g < w.heap.size := (Array.getElem?_eq_some_iff.1 hg).1
  have hqlt := hq.lt
  have hcp1 := fun (w1 : World) (hg1 : Blk w1 w.heap.size 33 ROW) (hq1 : Blk w1 q 33 (poCells x).toArray) (ty : TypeId) (dc : Nat) =>
    run_copy3 (P := Tryz.prog) w1 25 25 ty 33 w.heap.size (k * 3) (l.length + 1 - k) dc ⟨q, 0, none⟩ 1 1 ROW 33 (poCells x) Tryz.underlying25 hinf hg1
      (by simp only [Nat.min_def]; rw [if_pos (by omega)]; rfl) (fun j v hj => by rw [Addr.add_lit, Nat.zero_add, hq1.cell]; simpa using hj)
      (by rw [hG3]; show k * 3 + 3 ≤ _; omega) (fun v hv => List.all_eq_true.1 (show (poCells x).all (fun u => u.oneCell') = true from rfl) v hv)
  generalize hr1 : ROW.toList.take (k * 3) ++ poCells x ++ ROW.toList.drop (k * 3 + (poCells x).length) = r1 at hcp1 f1 f2 f3
  have hsrc1 : ∀ (w1 : World), w1.heap[g]? = some (.cells cur 33) → ∀ j v, ((posCells l).drop (k * 3))[j]? = some v → w1.cell? ((⟨g, k * 3, none⟩ : Addr).add j) = some v := fun w1 hg1 j v hj => by
    rw [Addr.add_lit]
    rw [List.getElem?_drop, ← hcur] at hj
    simp only [World.cell?, hg1]
    simpa using hj
  have hcp2 := fun (w1 : World) (hg1 : Blk w1 w.heap.size 33 r1.toArray) (ho1 : w1.heap[g]? = some (.cells cur 33)) (ty : TypeId) (dc sc : Nat) =>
    run_copy3 (P := Tryz.prog) w1 25 25 ty 33 w.heap.size ((k + 1) * 3) (l.length - k) dc ⟨g, k * 3, none⟩ (l.length - k) sc r1.toArray 33 ((posCells l).drop (k * 3)) Tryz.underlying25 hinf hg1
      (by rw [List.length_drop, hp]; simp only [Nat.min_def]; split <;> omega) (hsrc1 w1 ho1)
      (by rw [List.length_drop, hp]; simp only [List.size_toArray, f1]; omega) (fun v hv => posCells_mem l v (List.mem_of_mem_drop hv))
  have Hcp1 := Lib.hid hcp1
  have Hcp2 := Lib.hid hcp2
  have Hg := Lib.hid (hW1.block g hglt |>.trans hg)
  have Hq := Lib.hid (hq.ext hW1)
  have F2 := Lib.hid f2
  have F3 := Lib.hid f3
  have HW1 := Lib.hid hW1
  have HB1 := Lib.hid hB1
  have hrz1 := hrz 25
  clear hsrc1 hcp1 hcp2 hg hq f1 f2 f3 hlen htake hcur hr1 hcs hRs hRt hW1 hB1 hrz hG3
  have hn1 : w.heap.size ≠ g := by omega
  have hn2 : w.heap.size ≠ q := by omega
  unfold maxLen at hG63
  generalize w.drew.alloc (.cells ROW 33) = W1 at Hg Hq HW1 HB1 hrz1
  have hz2 : ¬ ((k : Int) = (l.length : Int)) := by omega
  have hz3 : ((l.length : Int) + 1 > (l.length : Int)) := by omega
  have hw1 : IntKind.i64.wrap ((k : Int) + 1) = (k : Int) + 1 := by rw [IntKind.wrap_i64]; omega
  have hb1 : (0 : Int) ≤ (k : Int) + 1 := by omega
  have htn : ((k : Int) + 1).toNat = k + 1 := by omega
  have hb2 : ¬ (G = k + 1) := by omega
  have hb3 : (k : Int) ≤ (l.length : Int) + 1 := by omega
  have hb5 : (k : Int) + 1 ≤ (l.length : Int) + 1 := by omega
  have hb4 : ¬ (G = k) := by omega
  have hb6 : ¬ (l.length = k) := by omega
  have hb7 : (k : Int) ≤ (l.length : Int) := by omega
  have hcpA := Hcp1.out W1 HB1.out Hq.out 3 (G - k)
  go_enter Tryz.func27, Tryz.ntmps27
  go_wp2_with (at_builtin; first
    | (refine Lib.wpList_append_run _ rfl _ _ _ _ rfl _ _ rfl rfl _ _ hrz1 ?_)
    | (refine wpList_copy_runI _ rfl _ _ 25 25 rfl _ _ rfl rfl hcpA ?_))
  have hg2 := setRow_heap W1 w.heap.size ROW r1.toArray 33 _ HB1.out
  have ho2 := (setRow_other W1 w.heap.size g r1.toArray (Ne.symm hn1)).trans Hg.out
  have hK2 := (HW1.out.keep (fun _ => False)).setRow (g := w.heap.size) (.inr (Nat.le_refl _)) r1.toArray
  have Hg2 := Lib.hid (show Blk (W1.setRow w.heap.size r1.toArray) w.heap.size 33 r1.toArray from hg2)
  have Ho2 := Lib.hid ho2
  have HK2 := Lib.hid (hK2.ext (fun _ _ h => h))
  clear hg2 ho2 hK2 hcpA hrz1 Hcp1
  generalize W1.setRow w.heap.size r1.toArray = W2 at Hg2 Ho2 HK2 ⊢
  refine wp_region_ext 8 (by kernel_rfl) (by kernel_rfl) ?_
  dsimp only [List.take, List.drop]
  repeat (first | (refine hold_skip rfl ?_) | (apply hold_cons rfl; focus (intro w1 hS; go_simp; first | exact rfl | exact ⟨rfl, hS⟩)); simp only [Act.put, List.setIfInBounds_toArray, List.set_cons_zero, List.set_cons_succ])
  refine hold_nil ?_
  rintro w3 hE
  have hg3 := Hg2.out.ext hE
  have ho3 := (hE.block g (Nat.lt_of_lt_of_le hglt HK2.out.size)).trans Ho2.out
  refine wpList_copy_runI _ rfl _ _ 25 25 rfl _ _ rfl rfl (Hcp2.out w3 hg3 ho3 _ _ _) ?_
  have hK3 := ((HK2.out.trans hE).keep (fun _ => False)).setRow (g := w.heap.size) (.inr (Nat.le_refl _)) ((List.take ((k + 1) * 3) r1 ++ List.drop (k * 3) (posCells l) ++ List.drop ((k + 1) * 3 + (List.drop (k * 3) (posCells l)).length) r1).toArray)
  have HK3 := Lib.hid (hK3.ext (fun _ _ h => h))
  have HF := Lib.hid (setRow_heap w3 w.heap.size r1.toArray ((List.take ((k + 1) * 3) r1 ++ List.drop (k * 3) (posCells l) ++ List.drop ((k + 1) * 3 + (List.drop (k * 3) (posCells l)).length) r1).toArray) 33 _ hg3)
  clear hg3 ho3 hK3 hE Hcp2 Hg2 Ho2 HK2
  generalize hr2 : (List.take ((k + 1) * 3) r1 ++ List.drop (k * 3) (posCells l) ++ List.drop ((k + 1) * 3 + (List.drop (k * 3) (posCells l)).length) r1) = r2 at F2 F3 HK3 HF ⊢
  clear hr2
  generalize w3.setRow w.heap.size r2.toArray = W4 at HK3 HF ⊢
  simp only [Act.put, List.setIfInBounds_toArray, List.set_cons_zero, List.set_cons_succ]
  go_wp2
  go_ret
  refine ⟨_, rfl, ⟨?_, .inr ⟨w.heap.size, G, r2.toArray, rfl, hb, HF.out, hGn, by unfold maxLen; exact hG63, by simpa using F2.out, by simpa using F3.out⟩⟩, HK3.out⟩
  rw [posCells_length, insP_length _ _ _ (by omega)]

/-- slices.Insert of one port -/
theorem pinsert_c (base q k : Nat) (v : Value) (l : List Po) (x : Po) (w : World) (ho : w.ownsRow base 33 3 v l.length (posCells l)) (hq : Blk w q 33 (poCells x).toArray) (hb : base ≤ w.heap.size) (hqv : v.ownBlock ≠ some q) (hk : k ≤ l.length) (hmx : l.length ≤ 1000000) :
    Calls Tryz.prog 27 #[v, (.int .i64 ((k : Nat))), .slice (some ⟨q, 0, none⟩) 1 1] w
      fun e w' => ∃ v', e = .returned v' ∧ w'.ownsRow base 33 3 v' (l.length + 1) (posCells (insP l k x)) ∧ Keep (fun k => v.ownBlock = some k) w w' := by
  by_cases he : k = l.length
  · subst he
    exact insEnd_c base q v l x w ho hq hb hmx
  · rcases own_form ho with ⟨rfl, hn⟩ | ⟨g, cap, rfl, h1, h2, h3⟩
    · omega
    · by_cases hc : l.length + 1 ≤ cap
      · refine (insIn_c base q g cap k l x w ho hq (by omega) hc (fun e => hqv (by rw [e]; rfl)) hmx).mono ?_
        rintro e w1 ⟨v', h1, h2, h3⟩
        exact ⟨v', h1, h2, h3.mono (fun j _ h => by rw [h]; rfl)⟩
      · refine (insGrow_c base q g cap k l x w ho hq hb (by omega) (by omega) hmx).mono ?_
        rintro e w1 ⟨v', h1, h2, h3⟩
        exact ⟨v', h1, h2, h3.keep _⟩
end Go.Proofs.YtcipokldcjappaaGreat

namespace Go.Proofs.YtcipokldcjappaaGreat
open Go.RowKit

/-- ports as a slice -/
def SlP (w : World) (v : Value) (l : List Po) : Prop := (l = [] ∧ v = .slice none 0 0) ∨ (0 < l.length ∧ ∃ g off c, v = .slice (some ⟨g, off, none⟩) l.length c ∧ PoA w g off l)
theorem SlP.ext {w w' : World} {v : Value} {l : List Po} (h : SlP w v l) (hx : Ext w w') : SlP w' v l := by
  rcases h with h | ⟨h0, g, off, c, rfl, h⟩
  · exact .inl h
  · exact .inr ⟨h0, g, off, c, rfl, h.ext h0 hx⟩
theorem SlP.of_own {w : World} {base : Nat} {v : Value} {l : List Po} {T : TypeId} (h : w.ownsRow base T 3 v l.length (posCells l)) (h0 : 0 < l.length) : SlP w v l := by
  rcases own_form h with ⟨rfl, hn⟩ | ⟨g, cap, rfl, h1, h2, h3⟩
  · omega
  · exact .inr ⟨h0, g, 0, cap, rfl, PoA.of_own h⟩

theorem sane_s (v : Value) (l : List Po) (w : World) (h : SlP w v l) (hmx : l.length ≤ 1000000) : Calls Tryz.prog 7 #[v] w fun e w' => e = .returned (.bool (saneFrom (-1) l)) ∧ Ext w w' := by
  rcases h with ⟨rfl, rfl⟩ | ⟨h0, g, off, c, rfl, h⟩
  · exact sane0_c none 0 w
  · exact posane_c g off c l w h h0 hmx

set_option maxRecDepth 100000 in
theorem pclone_s (v : Value) (l : List Po) (w : World) (h : SlP w v l) (hmx : l.length ≤ 1000000) : Calls Tryz.prog 23 #[v] w fun e w' => ∃ v', e = .returned v' ∧ w'.ownsRow w.heap.size 33 3 v' l.length (posCells l) ∧ Ext w w' ∧ (l = [] → v' = .slice none 0 0) := by
  rcases h with ⟨rfl, rfl⟩ | ⟨h0, g, off, c, rfl, h⟩
  · have he : ∀ w, (binOp .eql 25 (.slice none 0 0) (.slice none 0 0)).run Tryz.prog w = .ok (.bool true) w := fun w => Lib.run_eql_slice_nil w 25 33 none 0 0 0 0 Tryz.underlying25
    go_enter Tryz.func23, Tryz.ntmps23
    go_wp2_with fail
    go_ret
    exact ⟨_, rfl, ⟨rfl, .inl ⟨rfl, rfl⟩⟩, Ext.refl w, fun _ => rfl⟩
  · refine (pclone_c g off c l w h h0 hmx).mono ?_
    rintro e w1 ⟨v', rfl, h1, h2⟩
    exact ⟨v', rfl, h1, h2, fun e => by rw [e] at h0; simp at h0⟩

set_option maxRecDepth 100000 in
theorem bs_s (v : Value) (l : List Po) (t : Int) (w : World) (h : SlP w v l) (hmx : l.length ≤ 1000000) (hi : Incr l) :
    Calls Tryz.prog 24 #[v, (.int .i64 (t)), .func (.func 25) #[] #[]] w
      fun e w' => ∃ k, e = .returned (.tuple #[(.int .i64 ((k : Nat))), .bool (hasHop l t k)]) ∧ Spot l t k ∧ Ext w w' := by
  rcases h with ⟨rfl, rfl⟩ | ⟨h0, g, off, c, rfl, h⟩
  · go_enter Tryz.func24, Tryz.ntmps24
    go_wp2_with fail
    refine wp_loop_rounds 1 ?_
    rw [rounds_succ]
    go_wp2
    go_ret2
    exact ⟨0, by first | rfl | (simp [hasHop]), ⟨by simp, fun m x hx _ => by simp at hx, fun m x hx _ => by simp at hx⟩, Ext.refl w⟩
  · exact bs_c g off c l t w h h0 hmx hi

/-- one more packet by the k-th port -/
def bumpP (l : List Po) (k : Nat) (n : Int) : List Po := match l[k]? with | some x => l.set k ⟨x.hop, satAdd x.pk 1, satAdd x.byt n⟩ | none => l
/-- ports with that of a hop -/
def withP (l : List Po) (t : Int) (k : Nat) : List Po := if hasHop l t k = true then l else insP l k ⟨t, 0, 0⟩

theorem saneFrom_head {a : Int} {l : List Po} (h : saneFrom a l = true) : ∀ x ∈ l, a < x.hop := by
  induction l generalizing a with
  | nil => intro x hx; cases hx
  | cons y l ih =>
    unfold saneFrom at h
    simp only [Bool.and_eq_true, decide_eq_true_eq] at h
    intro x hx
    rcases List.mem_cons.1 hx with rfl | hx
    · exact h.1
    · have := ih h.2.2 x hx; omega
theorem saneFrom_may {a : Int} {l : List Po} (h : saneFrom a l = true) : ∀ x ∈ l, mayB x.hop = true := by
  induction l generalizing a with
  | nil => intro x hx; cases hx
  | cons y l ih =>
    unfold saneFrom at h
    simp only [Bool.and_eq_true, decide_eq_true_eq] at h
    intro x hx
    rcases List.mem_cons.1 hx with rfl | hx
    · exact h.2.1
    · exact ih h.2.2 x hx
theorem saneFrom_incr {a : Int} {l : List Po} (h : saneFrom a l = true) : Incr l := by
  induction l generalizing a with
  | nil => intro m k x y hx; simp at hx
  | cons z l ih =>
    unfold saneFrom at h
    simp only [Bool.and_eq_true, decide_eq_true_eq] at h
    intro m k x y hx hy hmk
    cases k with
    | zero => omega
    | succ k =>
      simp only [List.getElem?_cons_succ] at hy
      cases m with
      | zero =>
        simp only [List.getElem?_cons_zero, Option.some.injEq] at hx
        subst hx
        exact saneFrom_head h.2.2 y (List.mem_of_getElem? hy)
      | succ m =>
        simp only [List.getElem?_cons_succ] at hx
        exact ih h.2.2 m k x y hx hy (by omega)
theorem saneFrom_of {a : Int} {l : List Po} (hi : Incr l) (hm : ∀ x ∈ l, mayB x.hop = true) (h0 : ∀ x ∈ l, a < x.hop) : saneFrom a l = true := by
  induction l generalizing a with
  | nil => rfl
  | cons z l ih =>
    unfold saneFrom
    rw [hm z List.mem_cons_self, decide_eq_true (h0 z List.mem_cons_self), ih (fun m k x y hx hy h => hi (m + 1) (k + 1) x y (by simpa using hx) (by simpa using hy) (by omega)) (fun x hx => hm x (List.mem_cons_of_mem _ hx))]
    · rfl
    · intro x hx
      obtain ⟨k, hk⟩ := List.getElem?_of_mem hx
      exact hi 0 (k + 1) z x rfl (by simpa using hk) (by omega)
end Go.Proofs.YtcipokldcjappaaGreat

