/-
  Part 2 of the walks behind the claim: Inv2, App2, Reg2, Reg5, Port6, PortLaw, Bits, Addr, Addr2, Prefix, Prefix2.
-/
import Derived.Test.YtcipokldcjappaaGreatM1
import Derived.Test.YtcipokldcjappaaGreatProg
import Derived.Lib.Hide
set_option linter.unusedVariables false
set_option linter.unusedSimpArgs false

namespace Go.Proofs.YtcipokldcjappaaGreat.L2
open Go.Proofs.YtcipokldcjappaaGreat (yields wp_of_yields Alike alike_eval alike_exec alike_wanted cnt cnt_ne cnt_set cnt_zero cnt_pos inB canon_ext canon_at act_ext Ext)
section
variable {P : Program} {ops : Array Oper} {md : Region.Mode} {S : World → Prop}

structure Fix (P : Program) (ops : Array Oper) (S : World → Prop) (X : World → World → Prop) (o : Oper) (a : Act) (v : Value) : Prop where
  out : (Region.wanted o (yielded ops a.tmps) = true ∧ ∀ w, S w → yields P o a w fun u w' => u = v ∧ S w' ∧ X w w') ∨ (Region.wanted o (yielded ops a.tmps) = false ∧ v = undef ∧ ∀ w, X w w)
/-- Alike in all slots that no loose operation writes. -/
def AlikeL (ops : Array Oper) (n : Nat) (lo : Nat → Bool) (o : Oper) (a b : Act) : Prop := ∀ t ∈ o.looksAt ops, (∀ j, j < n → lo j = true → (ops[j]?).bind (·.dst) ≠ some t) → a.tmps[t]? = b.tmps[t]?
structure Loose (P : Program) (ops : Array Oper) (S : World → Prop) (X : World → World → Prop) (n : Nat) (lo : Nat → Bool) (E : Nat → Value → World → Prop) (i : Nat) (o : Oper) (a : Act) : Prop where
  wanted : ∀ a', AlikeL ops n lo o a' a → Region.wanted o (yielded ops a'.tmps) = true
  out : ∀ w a', S w → AlikeL ops n lo o a' a → (∀ j t, j < n → lo j = true → (ops[j]?).bind (·.dst) = some t → t ∈ o.looksAt ops → E j (a'.tmps.getD t undef) w) → yields P o a' w fun u w' => E i u w' ∧ S w' ∧ X w w'

/-- The walk in the order of the text: loose operations lay nothing in their slots. -/
def wpT (P : Program) (ops : Array Oper) (S : World → Prop) (X : Nat → World → World → Prop) (n : Nat) (lo : Nat → Bool) (E : Nat → Value → World → Prop) (Q : Act → Prop) : Nat → List Oper → Act → Prop
  | _, [], a => Q a
  | i, o :: rest, a => if lo i then Loose P ops S (X i) n lo E i o a ∧ wpT P ops S X n lo E Q (i + 1) rest a else ∃ v, Fix P ops S (X i) o a v ∧ wpT P ops S X n lo E Q (i + 1) rest (a.put o.dst v)

/-- Each operation ahead of n looks at slots that no such operation writes, or that one writes that is not loose and that it waits for itself; no two write one slot; edges go back. -/
def okOp (ops : Array Oper) (n : Nat) (lo : Nat → Bool) (i : Nat) : Bool :=
  match ops[i]? with
  | none => false
  | some o =>
    (o.looksAt ops).all (fun t => (List.range n).all fun j => ((ops[j]?).bind (·.dst) != some t) || (decide (j < i) && (!lo j || lo i) && o.after.any (fun e => Region.binds .any e && e.on == j))) &&
    (match o.dst with | none => !lo i | some d => (List.range n).all fun j => decide (j = i) || ((ops[j]?).bind (·.dst) != some d)) &&
    o.after.all (fun e => !Region.binds .any e || decide (e.on < i))
def okB (ops : Array Oper) (n : Nat) (lo : Nat → Bool) : Bool := (List.range n).all (okOp ops n lo)

structure RInv (ops : Array Oper) (n : Nat) (S : World → Prop) (lo : Nat → Bool) (E : Nat → Value → World → Prop) (A : Act) (listed : Array Bool) (a : Act) (w : World) : Prop where
  s : S w
  defers : a.defers = A.defers
  size : a.tmps.size = A.tmps.size
  far : ∀ t, (∀ j, j < n → (ops[j]?).bind (·.dst) ≠ some t) → a.tmps[t]? = A.tmps[t]?
  near : ∀ j, j < n → lo j = false → listed.getD j true = true → ∀ t, (ops[j]?).bind (·.dst) = some t → a.tmps[t]? = A.tmps[t]?
  loose : ∀ j, j < n → lo j = true → listed.getD j true = true → ∀ t, (ops[j]?).bind (·.dst) = some t → E j (a.tmps.getD t undef) w
  head : HeadInv .any ops n listed

theorem okOp_looks {n : Nat} {lo : Nat → Bool} {i : Nat} {o : Oper} (ho : ops[i]? = some o) (h : okOp ops n lo i = true) {t : Tmp} (ht : t ∈ o.looksAt ops) {j : Nat} (hj : j < n) (hd : (ops[j]?).bind (·.dst) = some t) :
    (lo j = false ∨ lo i = true) ∧ ∃ e ∈ o.after, Region.binds .any e = true ∧ e.on = j := by
  unfold okOp at h
  simp only [ho, Bool.and_eq_true] at h
  have h1 := List.all_eq_true.1 h.1.1 t ht
  have h2 := List.all_eq_true.1 h1 j (List.mem_range.2 hj)
  rw [hd] at h2
  simp only [bne_self_eq_false, Bool.false_or, Bool.and_eq_true, Bool.or_eq_true, Bool.not_eq_true', decide_eq_true_eq] at h2
  obtain ⟨⟨_, h3⟩, h4⟩ := h2
  obtain ⟨e, he, hb⟩ := Array.any_eq_true'.1 h4
  simp only [Bool.and_eq_true, beq_iff_eq] at hb
  exact ⟨h3, e, he, hb.1, hb.2⟩
theorem okOp_dst {n : Nat} {lo : Nat → Bool} {i : Nat} {o : Oper} (ho : ops[i]? = some o) (h : okOp ops n lo i = true) {d : Tmp} (hd : o.dst = some d) {j : Nat} (hj : j < n) (hji : j ≠ i) : (ops[j]?).bind (·.dst) ≠ some d := by
  unfold okOp at h
  simp only [ho, Bool.and_eq_true, hd] at h
  have h2 := List.all_eq_true.1 h.1.2 j (List.mem_range.2 hj)
  simp only [Bool.or_eq_true, decide_eq_true_eq, bne_iff_ne] at h2
  exact h2.resolve_left hji
theorem okOp_back {n : Nat} {lo : Nat → Bool} {i : Nat} {o : Oper} (ho : ops[i]? = some o) (h : okOp ops n lo i = true) {e : Edge} (he : e ∈ o.after) (hb : Region.binds .any e = true) : e.on < i := by
  unfold okOp at h
  simp only [ho, Bool.and_eq_true] at h
  have h2 := Array.all_eq_true_iff_forall_mem.1 h.2 e he
  simpa [hb] using h2

theorem ready_listed {listed : Array Bool} {i : Nat} {o : Oper} (ho : ops[i]? = some o) (hi : i ∈ Region.ready .any ops listed) {e : Edge} (he : e ∈ o.after) (hb : Region.binds .any e = true) : listed.getD e.on true = true := by
  obtain ⟨_, o', ho', hall⟩ := mem_ready.1 hi
  have : o' = o := Option.some.inj (ho'.symm.trans ho)
  subst this
  have h1 := hall e he hb
  rcases Nat.lt_or_ge e.on listed.size with h' | h'
  · simp [h'] at h1 ⊢; exact h1
  · simp [Array.getElem?_eq_none h']
theorem RInv.alikeL {n : Nat} {lo : Nat → Bool} {E : Nat → Value → World → Prop} {A a : Act} {listed : Array Bool} {w : World} (h : RInv ops n S lo E A listed a w) {i : Nat} {o : Oper} (ho : ops[i]? = some o) (hok : okOp ops n lo i = true)
    (hi : i ∈ Region.ready .any ops listed) : AlikeL ops n lo o a A := by
  intro t ht hnl
  by_cases hex : ∃ j, j < n ∧ (ops[j]?).bind (·.dst) = some t
  · obtain ⟨j, hj, hd⟩ := hex
    obtain ⟨hl, e, he, hb, rfl⟩ := okOp_looks ho hok ht hj hd
    have hlf : lo e.on = false := by
      cases hlj : lo e.on with
      | false => rfl
      | true => exact absurd hd (hnl _ hj hlj)
    exact h.near e.on hj hlf (ready_listed ho hi he hb) t hd
  · exact h.far t fun j hj hd => hex ⟨j, hj, hd⟩
theorem RInv.alike {n : Nat} {lo : Nat → Bool} {E : Nat → Value → World → Prop} {A a : Act} {listed : Array Bool} {w : World} (h : RInv ops n S lo E A listed a w) {i : Nat} {o : Oper} (ho : ops[i]? = some o) (hok : okOp ops n lo i = true)
    (hi : i ∈ Region.ready .any ops listed) (hli : lo i = false) : Alike ops o a A := by
  intro t ht
  refine h.alikeL ho hok hi t ht fun j hj hlj hd => ?_
  obtain ⟨hl, _⟩ := okOp_looks ho hok ht hj hd
  rcases hl with h1 | h1
  · rw [hlj] at h1; cases h1
  · rw [hli] at h1; cases h1
theorem RInv.reads {n : Nat} {lo : Nat → Bool} {E : Nat → Value → World → Prop} {A a : Act} {listed : Array Bool} {w : World} (h : RInv ops n S lo E A listed a w) {i : Nat} {o : Oper} (ho : ops[i]? = some o) (hok : okOp ops n lo i = true)
    (hi : i ∈ Region.ready .any ops listed) : ∀ j t, j < n → lo j = true → (ops[j]?).bind (·.dst) = some t → t ∈ o.looksAt ops → E j (a.tmps.getD t undef) w := by
  intro j t hj hlj hd ht
  obtain ⟨_, e, he, hb, rfl⟩ := okOp_looks ho hok ht hj hd
  exact h.loose e.on hj hlj (ready_listed ho hi he hb) t hd

theorem RInv.step {X : Nat → World → World → Prop} {n : Nat} {lo : Nat → Bool} {E : Nat → Value → World → Prop} (hE : ∀ i j v w w', i ≠ j → E i v w → X j w w' → E i v w') {A a : Act} {listed : Array Bool} {w w' : World} (h : RInv ops n S lo E A listed a w) {i : Nat} {o : Oper}
    (ho : ops[i]? = some o) (hok : okOp ops n lo i = true) (hin : i < n) (hi : i ∈ Region.ready .any ops listed) {v : Value} (hS : S w') (hX : X i w w')
    (hv : lo i = false → ∀ d, o.dst = some d → d < A.tmps.size → A.tmps[d]? = some v) (hl : lo i = true → E i v w') (hb : ∀ d, o.dst = some d → d < A.tmps.size) : RInv ops n S lo E A (listed.setIfInBounds i true) (a.put o.dst v) w' := by
  have hbind : (ops[i]?).bind (·.dst) = o.dst := by rw [ho]; rfl
  have keep : ∀ t, o.dst ≠ some t → (a.put o.dst v).tmps[t]? = a.tmps[t]? := fun t ht => by
    cases hd : o.dst with
    | none => rfl
    | some d => simp only [Act.put]; rw [Array.getElem?_setIfInBounds_ne (fun e => ht (by rw [hd, e]))]
  have keepD : ∀ t, o.dst ≠ some t → (a.put o.dst v).tmps.getD t undef = a.tmps.getD t undef := fun t ht => by
    simp only [Array.getD_eq_getD_getElem?, keep t ht]
  refine ⟨hS, ?_, ?_, fun t ht => ?_, fun j hj hlj hls t hd => ?_, fun j hj hlj hls t hd => ?_, h.head.set hi hin⟩
  · rw [← h.defers]; cases o.dst <;> rfl
  · rw [← h.size]; cases o.dst <;> simp [Act.put]
  · rw [keep t (fun e => ht i hin (hbind.trans e))]; exact h.far t ht
  · by_cases hji : j = i
    · subst hji
      rw [hbind] at hd
      rw [hd]
      simp only [Act.put]
      have hlt := hb t hd
      rw [hv hlj t hd hlt]; simp [h.size, hlt]
    · rw [keep t (fun e => okOp_dst ho hok e hj hji hd)]
      rw [getD_set_ne true (Ne.symm hji)] at hls
      exact h.near j hj hlj hls t hd
  · by_cases hji : j = i
    · subst hji
      rw [hbind] at hd
      rw [hd]
      simp only [Act.put]
      have hlt : t < a.tmps.size := Nat.lt_of_lt_of_eq (hb t hd) h.size.symm
      simp [hlt]; exact hl hlj
    · rw [keepD t (fun e => okOp_dst ho hok e hj hji hd)]
      rw [getD_set_ne true (Ne.symm hji)] at hls
      exact hE j i _ _ _ hji (h.loose j hj hlj hls t hd) hX

theorem wpAny_of_inv {X : Nat → World → World → Prop} {n : Nat} {lo : Nat → Bool} {E : Nat → Value → World → Prop} (hE : ∀ i j v w w', i ≠ j → E i v w → X j w w' → E i v w') {A : Act} {Q : Exit → Act → World → Prop}
    (hsel : Region.noSelect ops = true) (hs : Region.sinkB .any ops n = true) (hc : Region.chainB .any ops n = true) (hn : n < ops.size) (hok : okB ops n lo = true) (hin : inB ops n A.tmps.size = true)
    (hop : ∀ i o, i < n → ops[i]? = some o → if lo i then Loose P ops S (X i) n lo E i o A else Fix P ops S (X i) o A (match o.dst with | some d => A.tmps.getD d undef | none => undef) ∨ o.dst = none ∧ ∃ v, Fix P ops S (X i) o A v)
    (hend : ∀ a w, RInv ops n S lo E A (List.replicate n true ++ List.replicate (ops.size - n) false).toArray a w → wpAny P .any ops Q (ops.size - n) (List.replicate n true ++ List.replicate (ops.size - n) false).toArray a w) :
    ∀ (f : Nat) (listed : Array Bool) (a : Act) (w : World), cnt listed n = f → RInv ops n S lo E A listed a w → wpAny P .any ops Q (f + (ops.size - n)) listed a w := by
  intro f
  induction f with
  | zero =>
    intro listed a w hcnt h
    have := canon_ext h.head.size (cnt_zero n hcnt) (fun i h1 h2 => h.head.tail i h1 h2) (Nat.le_of_lt hn)
    subst this
    rw [Nat.zero_add]
    exact hend a w h
  | succ f ih =>
    intro listed a w hcnt h
    obtain ⟨i0, hi0, hu0, hall0⟩ := cnt_pos (listed := listed) n (by omega)
    have okAt : ∀ i, i < n → okOp ops n lo i = true := fun i hi => List.all_eq_true.1 hok i (List.mem_range.2 hi)
    have hr0 : i0 ∈ Region.ready .any ops listed := by
      have hlt : i0 < ops.size := by omega
      refine mem_ready.2 ⟨hu0, ops[i0], Array.getElem?_eq_getElem hlt, fun e he hb => ?_⟩
      have hback := okOp_back (Array.getElem?_eq_getElem hlt) (okAt i0 hi0) he hb
      have h1 := hall0 e.on hback
      have : e.on < listed.size := by rw [h.head.size]; omega
      simp [this] at h1 ⊢; exact h1
    rw [show f + 1 + (ops.size - n) = (f + (ops.size - n)) + 1 by omega]
    refine ⟨fun h0 => (by rw [h0] at hr0; cases hr0), fun i hi => ?_⟩
    have hin' : i < n := by
      rcases Nat.lt_or_ge i n with h' | h'
      · exact h'
      · exact absurd hi (tail_waits hs hc hn h.head _ i0 rfl hi0 hu0 i h')
    obtain ⟨hun, o, ho, _⟩ := mem_ready.1 hi
    have halL := h.alikeL ho (okAt i hin') hi
    have hrd := h.reads ho (okAt i hin') hi
    have hse : ∀ cs x, o.op ≠ .select cs x := fun cs x => Region.noSelect_spec hsel i o cs x ho
    have hbd : ∀ d, o.dst = some d → d < A.tmps.size := fun d hd => by
      have h1 := List.all_eq_true.1 hin i (List.mem_range.2 hin')
      have h2 : (ops[i]?).bind (·.dst) = some d := by rw [ho]; exact hd
      rw [h2] at h1
      simpa using h1
    have hcnt' : cnt (listed.setIfInBounds i true) n = f := by have := cnt_set hun n hin'; omega
    have hop' := hop i o hin' ho
    unfold wpOp
    simp only [ho]
    cases hlo : lo i with
    | true =>
      rw [hlo] at hop'
      simp only [if_true] at hop'
      rw [if_pos (hop'.wanted _ halL)]
      refine .inl (wp_of_yields (R := fun u w' => E i u w' ∧ S w' ∧ X i w w') ?_ fun v w' ⟨h1, h2, h3⟩ => ih _ _ _ hcnt' (h.step hE ho (okAt i hin') hin' hi h2 h3 (fun e => by rw [hlo] at e; cases e) (fun _ => h1) hbd))
      exact hop'.out w _ h.s halL hrd
    | false =>
      rw [hlo] at hop'
      simp only [Bool.false_eq_true, if_false] at hop'
      have hal := h.alike ho (okAt i hin') hi hlo
      obtain ⟨v, hfix, hval⟩ : ∃ v, Fix P ops S (X i) o A v ∧ ∀ d, o.dst = some d → d < A.tmps.size → A.tmps[d]? = some v := by
        rcases hop' with h1 | ⟨h1, v, h2⟩
        · cases hd : o.dst with
          | none => rw [hd] at h1; exact ⟨_, h1, fun d e => by cases e⟩
          | some d =>
            rw [hd] at h1
            refine ⟨_, h1, fun d' e hlt => ?_⟩
            obtain rfl : d = d' := Option.some.inj e
            simp [Array.getD_eq_getD_getElem?, hlt]
        · exact ⟨v, h2, fun d e => by rw [h1] at e; cases e⟩
      rcases hfix.out with ⟨hw, hy⟩ | ⟨hw, rfl, hXr⟩
      · rw [if_pos (by rw [alike_wanted hal]; exact hw)]
        refine .inl (wp_of_yields (R := fun u w' => u = v ∧ S w' ∧ X i w w') ?_ fun u w' ⟨h1, h2, h3⟩ => ?_)
        · have := hy w h.s
          unfold yields at this ⊢
          rw [alike_exec hse hal]
          exact this
        · subst h1
          exact ih _ _ _ hcnt' (h.step hE ho (okAt i hin') hin' hi h2 h3 (fun _ => hval) (fun e => by rw [hlo] at e; cases e) hbd)
      · rw [if_neg (by rw [alike_wanted hal, hw]; simp)]
        exact ih _ _ _ hcnt' (h.step hE ho (okAt i hin') hin' hi h.s (hXr w) (fun _ => hval) (fun e => by rw [hlo] at e; cases e) hbd)

theorem Fix.of_alike {X : World → World → Prop} {o : Oper} {a b : Act} {v : Value} (hs : ∀ cs x, o.op ≠ .select cs x) (h : Alike ops o a b) (hf : Fix P ops S X o a v) : Fix P ops S X o b v := by
  refine ⟨?_⟩
  rcases hf.out with ⟨h1, h2⟩ | ⟨h1, h2, h3⟩
  · refine .inl ⟨by rw [← alike_wanted h]; exact h1, fun w hw => ?_⟩
    have := h2 w hw
    unfold yields at this ⊢
    rw [← alike_exec hs h]
    exact this
  · exact .inr ⟨by rw [← alike_wanted h]; exact h1, h2, h3⟩
theorem Loose.of_alike {X : World → World → Prop} {n : Nat} {lo : Nat → Bool} {E : Nat → Value → World → Prop} {i : Nat} {o : Oper} {a b : Act} (h : Alike ops o a b) (hf : Loose P ops S X n lo E i o a) : Loose P ops S X n lo E i o b :=
  ⟨fun a' ha => hf.wanted a' fun t ht hn => (ha t ht hn).trans (h t ht).symm, fun w a' hs ha hr => hf.out w a' hs (fun t ht hn => (ha t ht hn).trans (h t ht).symm) hr⟩

theorem looks_dst {n : Nat} {lo : Nat → Bool} {i k : Nat} {o : Oper} (ho : ops[i]? = some o) (h : okOp ops n lo i = true) (hk : k < n) (hik : i ≤ k) {d : Tmp} (hd : (ops[k]?).bind (·.dst) = some d) : d ∉ o.looksAt ops := by
  intro ht
  obtain ⟨_, e, he, hb, heq⟩ := okOp_looks ho h ht hk hd
  have := okOp_back ho h he hb
  omega

/-- What the walk in the text's order has laid open, at its end. -/
theorem wpT_end {X : Nat → World → World → Prop} {n : Nat} {lo : Nat → Bool} {E : Nat → Value → World → Prop} {Qe : Act → Prop} (hsel : Region.noSelect ops = true) (hok : okB ops n lo = true) (hin : ∀ N, inB ops n N = true → True) :
    ∀ (l : List Oper) (k : Nat) (a : Act), (∀ j, j < l.length → l[j]? = ops[k + j]?) → k + l.length = n → inB ops n a.tmps.size = true → wpT P ops S X n lo E Qe k l a →
    ∃ A : Act, Qe A ∧ A.defers = a.defers ∧ A.tmps.size = a.tmps.size ∧
      (∀ t, (∀ j, k ≤ j → j < n → lo j = false → (ops[j]?).bind (·.dst) ≠ some t) → A.tmps[t]? = a.tmps[t]?) ∧
      (∀ i o, k ≤ i → i < n → ops[i]? = some o → if lo i then Loose P ops S (X i) n lo E i o A else Fix P ops S (X i) o A (match o.dst with | some d => A.tmps.getD d undef | none => undef) ∨ o.dst = none ∧ ∃ v, Fix P ops S (X i) o A v)
  | [], k, a, hl, hk, hb, h => ⟨a, h, rfl, rfl, fun _ _ => rfl, fun i o h1 h2 _ => by simp at hk; omega⟩
  | o :: l, k, a, hl, hk, hb, h => by
    have h0 : ops[k]? = some o := by simpa using (hl 0 (by simp)).symm
    have hkn : k < n := by simp only [List.length_cons] at hk; omega
    have okAt : ∀ i, i < n → okOp ops n lo i = true := fun i hi => List.all_eq_true.1 hok i (List.mem_range.2 hi)
    have hse : ∀ (i : Nat) (o : Oper), ops[i]? = some o → ∀ cs x, o.op ≠ .select cs x := fun i o ho cs x => Region.noSelect_spec hsel i o cs x ho
    have hl' : ∀ j, j < l.length → l[j]? = ops[k + 1 + j]? := fun j hj => by have := hl (j + 1) (by simp; omega); simpa [Nat.add_assoc, Nat.add_comm 1 j] using this
    have hk' : k + 1 + l.length = n := by simp only [List.length_cons] at hk; omega
    have alikeA : ∀ {A b : Act}, (∀ t, (∀ j, k + 1 ≤ j → j < n → lo j = false → (ops[j]?).bind (·.dst) ≠ some t) → A.tmps[t]? = b.tmps[t]?) → Alike ops o b A := fun hA t ht =>
      (hA t fun j h1 h2 _ hd => looks_dst h0 (okAt k hkn) h2 (by omega) hd ht).symm
    unfold wpT at h
    cases hlo : lo k with
    | true =>
      rw [hlo] at h
      simp only [if_true] at h
      obtain ⟨A, hq, hd, hs, hfar, hops⟩ := wpT_end hsel hok hin l (k + 1) a hl' hk' hb h.2
      refine ⟨A, hq, hd, hs, fun t ht => hfar t fun j h1 h2 h3 => ht j (by omega) h2 h3, fun i o' h1 h2 ho' => ?_⟩
      by_cases hik : i = k
      · subst hik
        obtain rfl : o = o' := Option.some.inj (h0.symm.trans ho')
        rw [hlo]; simp only [if_true]
        exact h.1.of_alike (alikeA hfar)
      · exact hops i o' (by omega) h2 ho'
    | false =>
      rw [hlo] at h
      simp only [Bool.false_eq_true, if_false] at h
      obtain ⟨v, hf, hr⟩ := h
      have hsz : (a.put o.dst v).tmps.size = a.tmps.size := by cases o.dst <;> simp [Act.put]
      obtain ⟨A, hq, hd, hs, hfar, hops⟩ := wpT_end hsel hok hin l (k + 1) (a.put o.dst v) hl' hk' (by rw [hsz]; exact hb) hr
      have hbind : (ops[k]?).bind (·.dst) = o.dst := by rw [h0]; rfl
      have hal : Alike ops o a A := fun t ht => by
        rw [hfar t fun j h1 h2 _ hd' => looks_dst h0 (okAt k hkn) h2 (by omega) hd' ht]
        cases hdo : o.dst with
        | none => rfl
        | some d =>
          have hne : d ≠ t := fun e => looks_dst h0 (okAt k hkn) hkn (Nat.le_refl _) (hbind.trans hdo) (e ▸ ht)
          simp only [Act.put]
          rw [Array.getElem?_setIfInBounds_ne hne]
      refine ⟨A, hq, by rw [hd]; cases o.dst <;> rfl, hs.trans hsz, fun t ht => ?_, fun i o' h1 h2 ho' => ?_⟩
      · rw [hfar t fun j h1 h2 h3 => ht j (by omega) h2 h3]
        have := ht k (Nat.le_refl _) hkn hlo
        rw [hbind] at this
        cases hdo : o.dst with
        | none => rfl
        | some d =>
          have hne : d ≠ t := fun e => this (by rw [hdo, e])
          simp only [Act.put]
          rw [Array.getElem?_setIfInBounds_ne hne]
      · by_cases hik : i = k
        · subst hik
          obtain rfl : o = o' := Option.some.inj (h0.symm.trans ho')
          rw [hlo]; simp only [Bool.false_eq_true, if_false]
          have hfA := hf.of_alike (hse i o h0) hal
          cases hdo : o.dst with
          | none => exact .inr ⟨rfl, v, hfA⟩
          | some d =>
            refine .inl ?_
            have hdn : (ops[i]?).bind (·.dst) = some d := hbind.trans hdo
            have hlt : d < a.tmps.size := by
              have h3 := List.all_eq_true.1 hb i (List.mem_range.2 h2)
              rw [hdn] at h3
              simpa using h3
            have : A.tmps[d]? = some v := by
              rw [hfar d fun j h3 h4 _ => okOp_dst h0 (okAt i h2) hdo h4 (by omega), hdo]
              simp [Act.put, hlt]
            simp only [Array.getD_eq_getD_getElem?, this, Option.getD_some]
            exact hfA
        · exact hops i o' (by omega) h2 ho'

/-- ████ THE LAW: a region that draws its order: n operations ahead of a forced tail, walked once. -/
theorem wp_region_T {X : Nat → World → World → Prop} {id : Nat} {Q : Exit → Act → World → Prop} {a : Act} {w : World} {l : List Oper} (S : World → Prop) (n : Nat) (lo : Nat → Bool) (E : Nat → Value → World → Prop)
    (hE : ∀ i j v w w', i ≠ j → E i v w → X j w w' → E i v w') (hm : P.follows .mixedOrders = true)
    (hB : (Region.noSelect l.toArray && decide (n < l.toArray.size) && Region.sinkB .any l.toArray n && Region.chainB .any l.toArray n && okB l.toArray n lo && inB l.toArray n a.tmps.size &&
      Region.seqB .any l.toArray (l.toArray.size - n) n (List.replicate n true ++ List.replicate (l.toArray.size - n) false).toArray) = true)
    (hS : S { w with drawn := w.drawn + 1 })
    (h : wpT P l.toArray S X n lo E (fun A => ∀ (b : Act) (w' : World), RInv l.toArray n S lo E A (List.replicate n true ++ List.replicate (l.toArray.size - n) false).toArray b w' → wpList P l.toArray Q (l.drop n) b w') 0 (l.take n) a) :
    (Code.region id l.toArray true).wp P Q a w := by
  simp only [Bool.and_eq_true, decide_eq_true_eq] at hB
  obtain ⟨⟨⟨⟨⟨⟨hsel, hn⟩, hs⟩, hc⟩, hok⟩, hin⟩, hseq⟩ := hB
  have hn' : n < l.length := by simpa using hn
  have htl : (l.take n).length = n := by simp; omega
  have hdl : (l.drop n).length = l.toArray.size - n := by simp
  obtain ⟨A, hq, hd, hsz, hfar, hops⟩ := wpT_end hsel hok (fun _ _ => trivial) (l.take n) 0 a (fun j hj => by
    have hj' : j < n := by rw [htl] at hj; exact hj
    simp [hj']) (by simpa using htl) hin h
  refine wp_region_any hm ?_
  have hc0 : cnt (Array.replicate l.toArray.size false) n = n := by
    have : ∀ k, k ≤ l.toArray.size → cnt (Array.replicate l.toArray.size false) k = k := by
      intro k
      induction k with
      | zero => intro _; rfl
      | succ k ih =>
        intro hk
        simp only [cnt]
        rw [ih (by omega)]
        have : (Array.replicate l.toArray.size false).getD k true = false := by simp only [Array.getD_eq_getD_getElem?]; rw [Array.getElem?_replicate, if_pos (by omega)]; rfl
        rw [this]; simp
    exact this n (by omega)
  have h0 : RInv l.toArray n S lo E A (Array.replicate l.toArray.size false) a { w with drawn := w.drawn + 1 } := by
    have hno : ∀ j, (Array.replicate l.toArray.size false).getD j true = true → l.toArray.size ≤ j := fun j hj => by
      rcases Nat.lt_or_ge j l.toArray.size with h' | h'
      · simp only [Array.getD_eq_getD_getElem?] at hj
        rw [Array.getElem?_replicate, if_pos h'] at hj
        cases hj
      · exact h'
    refine ⟨hS, hd.symm, hsz.symm, fun t ht => (hfar t fun j _ h2 _ => ht j h2).symm, fun j hj _ hl => ?_, fun j hj _ hl => ?_, ?_⟩
    · have := hno j hl; omega
    · have := hno j hl; omega
    · exact ⟨by simp, fun j oj _ hl => (by rw [getD_replicate_false] at hl; cases hl), fun t _ ht => getD_in (by simpa using ht) (getD_replicate_false _ _)⟩
  have hfin := wpAny_of_inv (P := P) (Q := Q) hE hsel hs hc hn hok (by rw [hsz]; exact hin) (fun i o hi ho => hops i o (Nat.zero_le _) hi ho) (fun b w' hb => by
    have := wpAny_of_seq (md := .any) (Q' := Q) (l.drop n) n _ b w' (fun j => by simp [List.getElem?_drop]) (by rw [hdl]; exact hseq) (hq b w' hb)
    rwa [hdl] at this) n _ _ _ hc0 h0
  rw [show n + (l.toArray.size - n) = l.toArray.size by omega] at hfin
  exact hfin
end
end Go.Proofs.YtcipokldcjappaaGreat.L2

namespace Go.Proofs.YtcipokldcjappaaGreat
open Go.RowKit

theorem run_app_keep {P : Program} (w : World) (base : Nat) (t ty e : TypeId) (size bytes : Nat) (z : Value) (ht : P.underlying t = some (.slice e)) (hinfo : (P.info? e).map (fun i => (i.zero, i.size, i.bytes)) = some (some z, size, bytes)) (hzs : z.cells.size = size) (hsz : 0 < size)
    (v : Value) (n : Nat) (xs : List Value) (hown : w.ownsRow base e size v n xs) (q : Nat) (news : List Value) (t' : TypeId) (hq : Blk w q t' news.toArray) (hl : news.length = size) (h1 : news.all (fun u => u.oneCell') = true)
    (hb : (n + 1) * bytes ≤ 140737488355328) (h63 : n + 1 ≤ maxLen) (hbase : base ≤ w.heap.size) :
    ∃ v' w', (Builtin.append_ #[t, t] ty #[v, .slice (some ⟨q, 0, none⟩) 1 1]).run P w = .ok v' w' ∧ w'.ownsRow base e size v' (n + 1) (xs ++ news) ∧ Keep (fun k => v.ownBlock = some k) w w' ∧ (v'.ownBlock = v.ownBlock ∨ v'.ownBlock = some w.heap.size) ∧ w'.ownsRow base e size v n xs := by
  obtain ⟨i, hi, hz, hsize, hby⟩ := info_parts hinfo
  have hnews : ∀ j u, news[j]? = some u → w.cell? ((⟨q, 0, none⟩ : Addr).add j) = some u := fun j u hj => by
    have : (⟨q, 0, none⟩ : Addr).add j = ⟨q, j, none⟩ := by simp [Addr.add]; omega
    rw [this, hq.cell]
    simpa using hj
  have h1' : ∀ u ∈ news, u.oneCell' = true := fun u hu => List.all_eq_true.1 h1 u hu
  obtain ⟨v', w', hr, h2, h3, h4, h5⟩ := run_append_own_at (P := P) w base t ty e i z size bytes ht hi hz hsize hby hzs hsz v n xs hown ⟨q, 0, none⟩ 1 1 news (by omega) hnews h1' h63 hb hbase
  refine ⟨v', w', hr, h2, (Keep.refl _ w).grown h3 (fun k hk => .inl hk), h5, ?_⟩
  subst hsize
  subst hby
  rcases hown.2 with ⟨rfl, rfl⟩ | ⟨g, cap, cur, rfl, hbg, hg, hnc, hcm, hcs, htake⟩
  · exact ⟨hown.1, .inl ⟨rfl, rfl⟩⟩
  · by_cases hroom : n + 1 ≤ cap
    · have hfit : n * i.size + news.length ≤ cur.size := by rw [hl, hcs, ← Nat.succ_mul]; exact Nat.mul_le_mul_right _ hroom
      have hr2 := run_append_room (P := P) w t ty e i ht hi g n cap cur hg ⟨q, 0, none⟩ 1 1 news (by omega) hnews h1' hroom hfit
      rw [hr] at hr2
      injection hr2 with e1 e2
      rw [e2]
      refine ⟨hown.1, .inr ⟨g, cap, _, rfl, hbg, setRow_heap w g cur _ e _ hg, hnc, hcm, ?_, ?_⟩⟩
      · simp only [List.size_toArray, List.length_append, List.length_take, List.length_drop, Array.length_toList]
        omega
      · rw [htake]
        have : xs.length = n * i.size := hown.1
        show ((xs ++ news) ++ _).take (n * i.size) = xs
        rw [List.append_assoc, ← this]
        exact List.take_left
    · have holds : ∀ j u, xs[j]? = some u → w.cell? ((⟨g, 0, none⟩ : Addr).add j) = some u := hown.cells (g := g) rfl
      have hm63 : n + 1 ≤ 9223372036854775807 := by simp only [maxLen] at h63; omega
      have hr2 := run_append_grow (P := P) w t ty e i z ht hi hz ⟨g, 0, none⟩ n cap xs hown.1 holds ⟨q, 0, none⟩ 1 1 news (by omega) hnews (by omega) (by omega) (growslice_fits (by omega) hb)
      rw [hr] at hr2
      injection hr2 with e1 e2
      rw [e2]
      exact own_ext hown (((Ext.refl w).drew).alloc _)

theorem yields_app {P : Program} {o : Oper} {a : Act} {w : World} {R : Value → World → Prop} (s x : Operand) (t e : TypeId)
    (ho : o.op = .call { callee := .builtin .append, args := #[s, x], argTypes := #[t, t] })
    (ht : P.underlying t = some (.slice e)) (size bytes : Nat) (z : Value) (hinfo : (P.info? e).map (fun i => (i.zero, i.size, i.bytes)) = some (some z, size, bytes)) (hzs : z.cells.size = size) (hsz : 0 < size)
    (base : Nat) (v : Value) (n : Nat) (xs : List Value) (hs : a.eval s = v) (hown : w.ownsRow base e size v n xs)
    (q : Nat) (news : List Value) (t' : TypeId) (hx : a.eval x = .slice (some ⟨q, 0, none⟩) 1 1) (hq : Blk w q t' news.toArray) (hl : news.length = size) (h1 : news.all (fun u => u.oneCell') = true)
    (hb : (n + 1) * bytes ≤ 140737488355328) (h63 : n + 1 ≤ maxLen) (hbase : base ≤ w.heap.size)
    (h : ∀ v' w', w'.ownsRow base e size v' (n + 1) (xs ++ news) → Keep (fun k => v.ownBlock = some k) w w' → (v'.ownBlock = v.ownBlock ∨ v'.ownBlock = some w.heap.size) → w'.ownsRow base e size v n xs → R v' w') :
    yields P o a w R := by
  obtain ⟨v', w', hr, h2, h3, h4, h5⟩ := run_app_keep (P := P) w base t o.type e size bytes z ht hinfo hzs hsz v n xs hown q news t' hq hl h1 hb h63 hbase
  unfold yields execOp
  simp only [ho, resolve, invoke, builtin, Sem.run_bind, Sem.run_pure, Result.andThen_ok, List.map_toArray, List.map_cons, List.map_nil, hs, hx, hr]
  exact h v' w' h2 h3 h4 h5

end Go.Proofs.YtcipokldcjappaaGreat

namespace Go.Proofs.YtcipokldcjappaaGreat.L2
open Go.RowKit
open Go.Proofs.YtcipokldcjappaaGreat (yields wp_of_yields Alike alike_eval alike_exec alike_wanted cnt cnt_ne cnt_set cnt_zero cnt_pos inB canon_ext canon_at act_ext Ext Keep Blk own_ext own_lt yields_app)
section
variable {P : Program} {ops : Array Oper} {S : World → Prop}

theorem yields_mono {o : Oper} {a : Act} {w : World} {R R' : Value → World → Prop} (h : yields P o a w R) (hm : ∀ v w', R v w' → R' v w') : yields P o a w R' := by
  unfold yields at h ⊢
  generalize (execOp a.eval o).run P w = r at *
  cases r with
  | ok n w' =>
    cases n <;> simp only at h ⊢ <;> first | exact hm _ _ h | skip
    case enter f args => exact Calls.mono h fun e w'' ⟨v, h1, h2⟩ => ⟨v, h1, hm _ _ h2⟩
  | halt x w' => exact h.elim
theorem RInv.eq2 {n m i0 i1 d d' : Nat} {E : Nat → Value → World → Prop} {A b : Act} {w : World} (h : RInv ops n S (fun i => i == i0 || i == i1) E A (List.replicate n true ++ List.replicate m false).toArray b w) (hi : i0 < n) (hi' : i1 < n)
    (hd : (ops[i0]?).bind (·.dst) = some d) (hd' : (ops[i1]?).bind (·.dst) = some d') (hne : d ≠ d') (hlt : d < A.tmps.size) (hlt' : d' < A.tmps.size) :
    ∃ v v', E i0 v w ∧ E i1 v' w ∧ b = (A.put (some d) v).put (some d') v' := by
  refine ⟨b.tmps.getD d undef, b.tmps.getD d' undef, h.loose i0 hi (by simp) (canon_at hi) d hd, h.loose i1 hi' (by simp) (canon_at hi') d' hd', act_ext (Array.ext (by simp [Act.put, h.size]) fun i h1 h2 => ?_) h.defers⟩
  have h3 : i < A.tmps.size := by simpa [Act.put] using h2
  by_cases hdi' : d' = i
  · subst hdi'
    simp [Act.put, h1]
  · by_cases hdi : d = i
    · subst hdi
      simp only [Act.put]
      rw [Array.getElem_setIfInBounds_ne (by simpa using h3) hdi']
      simp [h1]
    · have : b.tmps[i]? = A.tmps[i]? := by
        by_cases hex : ∃ j, j < n ∧ (ops[j]?).bind (·.dst) = some i
        · obtain ⟨j, hj, hd2⟩ := hex
          have hji : j ≠ i0 := fun e => by subst e; rw [hd] at hd2; exact hdi (Option.some.inj hd2)
          have hji' : j ≠ i1 := fun e => by subst e; rw [hd'] at hd2; exact hdi' (Option.some.inj hd2)
          exact h.near j hj (by simp [hji, hji']) (canon_at hj) i hd2
        · exact h.far i fun j hj hd => hex ⟨j, hj, hd⟩
      rw [Array.getElem?_eq_getElem h1, Array.getElem?_eq_getElem h3] at this
      simp only [Act.put]
      rw [Array.getElem_setIfInBounds_ne (by simpa using h3) hdi', Array.getElem_setIfInBounds_ne h3 hdi]
      exact Option.some.inj this


def okReg (l : List Oper) (n : Nat) (lo : Nat → Bool) (N : Nat) : Bool :=
  Region.noSelect l.toArray && decide (n < l.toArray.size) && Region.sinkB .any l.toArray n && Region.chainB .any l.toArray n && okB l.toArray n lo && inB l.toArray n N &&
      Region.seqB .any l.toArray (l.toArray.size - n) n (List.replicate n true ++ List.replicate (l.toArray.size - n) false).toArray

theorem wpT_mono {X : Nat → World → World → Prop} {n : Nat} {lo : Nat → Bool} {E : Nat → Value → World → Prop} {Q1 Q2 : Act → Prop} (h : ∀ A : Act, Q1 A → Q2 A) : ∀ (l : List Oper) (i : Nat) (a : Act), wpT P ops S X n lo E Q1 i l a → wpT P ops S X n lo E Q2 i l a
  | [], _, _, hh => h _ hh
  | o :: l, i, a, hh => by
    unfold wpT at hh ⊢
    split
    · rename_i hl; rw [if_pos hl] at hh; exact ⟨hh.1, wpT_mono h l _ _ hh.2⟩
    · rename_i hl; rw [if_neg hl] at hh; obtain ⟨v, h1, h2⟩ := hh; exact ⟨v, h1, wpT_mono h l _ _ h2⟩
theorem wpT_size {X : Nat → World → World → Prop} {n : Nat} {lo : Nat → Bool} {E : Nat → Value → World → Prop} {Q : Act → Prop} : ∀ (l : List Oper) (i : Nat) (a : Act), wpT P ops S X n lo E Q i l a → wpT P ops S X n lo E (fun A => A.tmps.size = a.tmps.size ∧ Q A) i l a
  | [], _, _, hh => ⟨rfl, hh⟩
  | o :: l, i, a, hh => by
    unfold wpT at hh ⊢
    split
    · rename_i hl; rw [if_pos hl] at hh; exact ⟨hh.1, wpT_size l _ _ hh.2⟩
    · rename_i hl; rw [if_neg hl] at hh; obtain ⟨v, h1, h2⟩ := hh
      exact ⟨v, h1, wpT_mono (fun A ⟨h3, h4⟩ => ⟨by rw [h3]; cases o.dst <;> simp [Act.put], h4⟩) _ _ _ (wpT_size l _ _ h2)⟩

def appS (w : World) (base : Nat) (e : TypeId) (size : Nat) (v : Value) (m : Nat) (xs : List Value) (w' : World) : Prop := Keep (fun k => v.ownBlock = some k) w w' ∧ w'.ownsRow base e size v m xs
def appX (v : Value) (i1 i : Nat) (w w' : World) : Prop := if i = i1 then Keep (fun k => v.ownBlock = some k) w w' else Ext w w'
def appE (w : World) (base : Nat) (e : TypeId) (size : Nat) (v : Value) (m : Nat) (xs news : List Value) (i0 i1 i : Nat) (u : Value) (w' : World) : Prop :=
  if i = i0 then (∃ q, w.heap.size ≤ q ∧ u = .slice (some ⟨q, 0, none⟩) 1 1 ∧ Blk w' q e news.toArray)
  else if i = i1 then (w'.ownsRow base e size u (m + 1) (xs ++ news) ∧ (u.ownBlock = v.ownBlock ∨ ∃ q, u.ownBlock = some q ∧ w.heap.size ≤ q))
  else True
def lo2 (i0 i1 i : Nat) : Bool := i == i0 || i == i1

theorem regionApp {id : Nat} {Q : Exit → Act → World → Prop} {a : Act} {w : World} {l : List Oper} (n i0 d i1 d' base : Nat) (e : TypeId) (size : Nat) (v : Value) (m : Nat) (xs news : List Value)
    (hown : w.ownsRow base e size v m xs) (hm : P.follows .mixedOrders = true)
    (hB : (okReg l n (lo2 i0 i1) a.tmps.size && decide (i0 < n) && ((l.toArray[i0]?).bind (·.dst) == some d) && decide (d < a.tmps.size) && decide (i1 < n) && ((l.toArray[i1]?).bind (·.dst) == some d') && decide (d' < a.tmps.size) && decide (d ≠ d') && decide (i0 ≠ i1)) = true)
    (h : wpT P l.toArray (appS w base e size v m xs) (appX v i1) n (lo2 i0 i1) (appE w base e size v m xs news i0 i1)
      (fun A => A.tmps.size = a.tmps.size → ∀ u0 v' w', Keep (fun k => v.ownBlock = some k) w w' → w'.ownsRow base e size v' (m + 1) (xs ++ news) → (v'.ownBlock = v.ownBlock ∨ ∃ q, v'.ownBlock = some q ∧ w.heap.size ≤ q) → wpList P l.toArray Q (l.drop n) ((A.put (some d) u0).put (some d') v') w') 0 (l.take n) a) : (Code.region id l.toArray true).wp P Q a w := by
  simp only [Bool.and_eq_true, decide_eq_true_eq, beq_iff_eq] at hB
  obtain ⟨⟨⟨⟨⟨⟨⟨⟨hB, hi⟩, hd⟩, hlt⟩, hi'⟩, hd'⟩, hlt'⟩, hne⟩, hii⟩ := hB
  refine wp_region_T (X := appX v i1) (appS w base e size v m xs) n (lo2 i0 i1) (appE w base e size v m xs news i0 i1) (fun i j u w1 w2 hij hE hX => ?_) hm hB ⟨(Keep.refl _ w).drew, own_ext hown ((Ext.refl w).drew)⟩ (wpT_mono (fun A hA b w' hI => ?_) _ _ _ (wpT_size _ _ _ h))
  · unfold appE at hE ⊢
    unfold appX at hX
    split at hE
    · rename_i h0
      rw [if_pos h0]
      obtain ⟨q, h1, h2, h3⟩ := hE
      split at hX
      · exact ⟨q, h1, h2, h3.keep hX (fun hq => by have := own_lt hown hq; omega)⟩
      · exact ⟨q, h1, h2, h3.ext hX⟩
    · rename_i h0
      rw [if_neg h0]
      split at hE
      · rename_i h1
        rw [if_pos h1]
        rw [if_neg (fun e => hij (h1.trans e.symm))] at hX
        exact ⟨own_ext hE.1 hX, hE.2⟩
      · rename_i h1
        rw [if_neg h1]; trivial
  · obtain ⟨hsz, hA⟩ := hA
    obtain ⟨u, u', hu, hu', rfl⟩ := RInv.eq2 hI hi hi' hd hd' hne (by rw [hsz]; exact hlt) (by rw [hsz]; exact hlt')
    unfold appE at hu'
    rw [if_neg (Ne.symm hii), if_pos rfl] at hu'
    exact hA hsz u u' w' hI.s.1 hu'.1 hu'.2

variable {w : World} {base : Nat} {e : TypeId} {size : Nat} {v : Value} {m : Nat} {xs news : List Value} {n i0 i1 : Nat} {Q : Act → Prop}
theorem app_nil {E : Nat → Value → World → Prop} {X : Nat → World → World → Prop} {lo : Nat → Bool} {i : Nat} {a : Act} (h : Q a) : wpT P ops S X n lo E Q i [] a := h
theorem app_fix {i : Nat} {o : Oper} {a : Act} {rest : List Oper} {u0 : Value} (hi : decide (i = i1) = false) (hlo : lo2 i0 i1 i = false) (hw : Region.wanted o (yielded ops a.tmps) = true)
    (h : ∀ w1, appS w base e size v m xs w1 → yields P o a w1 fun u w2 => u = u0 ∧ Ext w1 w2)
    (hk : wpT P ops (appS w base e size v m xs) (appX v i1) n (lo2 i0 i1) (appE w base e size v m xs news i0 i1) Q (i + 1) rest (a.put o.dst u0)) :
    wpT P ops (appS w base e size v m xs) (appX v i1) n (lo2 i0 i1) (appE w base e size v m xs news i0 i1) Q i (o :: rest) a := by
  unfold wpT
  rw [hlo]
  refine ⟨u0, ⟨.inl ⟨hw, fun w1 hS => ?_⟩⟩, hk⟩
  have hy := h w1 hS
  have hm : ∀ u w2, (u = u0 ∧ Ext w1 w2) → (u = u0 ∧ appS w base e size v m xs w2 ∧ appX v i1 i w1 w2) := fun u w2 ⟨h1, h2⟩ =>
    ⟨h1, ⟨hS.1.thenExt h2, own_ext hS.2 h2⟩, by unfold appX; rw [if_neg (by simpa using hi)]; exact h2⟩
  exact yields_mono hy hm
theorem app_build {i : Nat} {o : Oper} {a : Act} {rest : List Oper} (hi : decide (i = i0) = true) (hii : decide (i = i1) = false)
    (hlook : (o.looksAt ops).all (fun t => (List.range n).all fun j => !(lo2 i0 i1 j) || ((ops[j]?).bind (·.dst) != some t)) = true) (hs : ∀ cs x, o.op ≠ .select cs x) (hw : Region.wanted o (yielded ops a.tmps) = true)
    (h : ∀ w1, appS w base e size v m xs w1 → w.heap.size ≤ w1.heap.size → yields P o a w1 fun u w2 => (∃ q, w.heap.size ≤ q ∧ u = .slice (some ⟨q, 0, none⟩) 1 1 ∧ Blk w2 q e news.toArray) ∧ Ext w1 w2)
    (hk : wpT P ops (appS w base e size v m xs) (appX v i1) n (lo2 i0 i1) (appE w base e size v m xs news i0 i1) Q (i + 1) rest a) :
    wpT P ops (appS w base e size v m xs) (appX v i1) n (lo2 i0 i1) (appE w base e size v m xs news i0 i1) Q i (o :: rest) a := by
  have hi' : i = i0 := by simpa using hi
  have hne : i ≠ i1 := by simpa using hii
  have hall : ∀ a', AlikeL ops n (lo2 i0 i1) o a' a → Alike ops o a' a := fun a' ha t ht => ha t ht fun j hj hl hd => by
    have h1 := List.all_eq_true.1 hlook t ht
    have h2 := List.all_eq_true.1 h1 j (List.mem_range.2 hj)
    rw [hl, hd] at h2
    simp at h2
  unfold wpT
  rw [show lo2 i0 i1 i = true by unfold lo2; simp [hi']]
  refine ⟨⟨fun a' ha => by rw [alike_wanted (hall a' ha)]; exact hw, fun w1 a' hS ha _ => ?_⟩, hk⟩
  have hy := h w1 hS hS.1.size
  have : yields P o a' w1 fun u w2 => (∃ q, w.heap.size ≤ q ∧ u = .slice (some ⟨q, 0, none⟩) 1 1 ∧ Blk w2 q e news.toArray) ∧ Ext w1 w2 := by
    unfold yields at hy ⊢
    rw [alike_exec hs (hall a' ha)]
    exact hy
  refine yields_mono this fun u w2 ⟨h1, h2⟩ => ⟨by unfold appE; rw [if_pos hi']; exact h1, ⟨hS.1.thenExt h2, own_ext hS.2 h2⟩, by unfold appX; rw [if_neg hne]; exact h2⟩
theorem app_app {i : Nat} {o : Oper} {a : Act} {rest : List Oper} (ts d : Nat) (t : TypeId) (bytes : Nat) (z : Value) (hi : decide (i = i1) = true) (hii : decide (i = i0) = false) (hgd : o.guard = none)
    (ho : o.op = .call { callee := .builtin .append, args := #[.tmp ts, .tmp d], argTypes := #[t, t] })
    (hlook : (List.range n).all (fun j => !(lo2 i0 i1 j) || ((ops[j]?).bind (·.dst) != some ts)) = true) (hd : (ops[i0]?).bind (·.dst) = some d) (hi0 : i0 < n)
    (ht : P.underlying t = some (.slice e)) (hinfo : (P.info? e).map (fun i => (i.zero, i.size, i.bytes)) = some (some z, size, bytes)) (hzs : z.cells.size = size) (hsz : 0 < size)
    (hs : a.tmps[ts]? = some v) (hl : news.length = size) (h1 : news.all (fun u => u.oneCell') = true)
    (hb : (m + 1) * bytes ≤ 140737488355328) (h63 : m + 1 ≤ maxLen) (hbase : base ≤ w.heap.size)
    (hk : wpT P ops (appS w base e size v m xs) (appX v i1) n (lo2 i0 i1) (appE w base e size v m xs news i0 i1) Q (i + 1) rest a) :
    wpT P ops (appS w base e size v m xs) (appX v i1) n (lo2 i0 i1) (appE w base e size v m xs news i0 i1) Q i (o :: rest) a := by
  have hi' : i = i1 := by simpa using hi
  have hne : i ≠ i0 := by simpa using hii
  unfold wpT
  rw [show lo2 i0 i1 i = true by unfold lo2; simp [hi']]
  have hta : ts ∈ o.looksAt ops := by unfold Oper.looksAt; rw [ho]; exact List.mem_append_left _ (List.mem_filterMap.2 ⟨.tmp ts, by simp [Op.operands, Call.operands], rfl⟩)
  have htd : d ∈ o.looksAt ops := by unfold Oper.looksAt; rw [ho]; exact List.mem_append_left _ (List.mem_filterMap.2 ⟨.tmp d, by simp [Op.operands, Call.operands], rfl⟩)
  refine ⟨⟨fun a' _ => by unfold Region.wanted; rw [hgd], fun w1 a' hS ha hr => ?_⟩, hk⟩
  have e1 : a'.tmps[ts]? = some v := (ha ts hta fun j hj hl2 hd2 => by
    have h2 := List.all_eq_true.1 hlook j (List.mem_range.2 hj)
    rw [hl2, hd2] at h2
    simp at h2).trans hs
  have e2 := hr i0 d hi0 (by unfold lo2; simp) hd htd
  unfold appE at e2
  rw [if_pos rfl] at e2
  obtain ⟨q, hq1, hq2, hq3⟩ := e2
  refine yields_app (.tmp ts) (.tmp d) t e ho ht size bytes z hinfo hzs hsz base v m xs (by simp [Act.eval, e1]) hS.2 q news e (by simp only [Act.eval]; exact hq2) hq3 hl h1 hb h63 (Nat.le_trans hbase hS.1.size) (fun v' w' h2 h3 h4 h5 => ⟨?_, ⟨?_, h5⟩, ?_⟩)
  · unfold appE
    rw [if_neg hne, if_pos hi']
    refine ⟨h2, ?_⟩
    rcases h4 with h4 | h4
    · exact .inl h4
    · exact .inr ⟨_, h4, hS.1.size⟩
  · exact hS.1.trans h3
  · unfold appX
    rw [if_pos hi']; exact h3
end
end Go.Proofs.YtcipokldcjappaaGreat.L2

namespace Go.Proofs.YtcipokldcjappaaGreat.L5
open Go.Proofs.YtcipokldcjappaaGreat (yields wp_of_yields Alike alike_eval alike_exec alike_wanted cnt cnt_ne cnt_set cnt_zero cnt_pos inB canon_ext canon_at act_ext Ext)
section
variable {P : Program} {ops : Array Oper}

def Closed (ops : Array Oper) (listed : Array Bool) : Prop := ∀ k ok, ops[k]? = some ok → listed.getD k false = true → ∀ e ∈ ok.after, Region.binds .any e = true → listed.getD e.on false = true
def Waits (ops : Array Oper) (listed : Array Bool) (i : Nat) : Prop := ∀ o, ops[i]? = some o → ∀ e ∈ o.after, Region.binds .any e = true → listed.getD e.on false = true
theorem Closed.waits {listed : Array Bool} (hc : Closed ops listed) {i : Nat} (hi : listed.getD i false = true) : Waits ops listed i := fun o ho => hc i o ho hi

/-- what an operation waits for, as a mask, out of the masks of those ahead of it -/
def maskOf (tab : List Nat) (o : Oper) : Nat := o.after.toList.foldr (fun e m => if Region.binds .any e then (2 ^ e.on ||| tab.getD e.on 0) ||| m else m) 0
def maskGo : List Oper → List Nat → List Nat
  | [], tab => tab
  | o :: l, tab => maskGo l (tab ++ [maskOf tab o])
def Good (ops : Array Oper) (i m : Nat) : Prop := ∀ j, m.testBit j = true → ∀ listed : Array Bool, Closed ops listed → Waits ops listed i → listed.getD j false = true
theorem good_zero (i : Nat) : Good ops i 0 := fun j hj => by simp at hj
theorem good_mask {tab : List Nat} {i : Nat} {o : Oper} (ho : ops[i]? = some o) (ht : ∀ k, Good ops k (tab.getD k 0)) : Good ops i (maskOf tab o) := by
  intro j hj listed hc hw
  have hall := hw o ho
  unfold maskOf at hj
  have : ∀ l : List Edge, (∀ e ∈ l, e ∈ o.after) → (l.foldr (fun e m => if Region.binds .any e then (2 ^ e.on ||| tab.getD e.on 0) ||| m else m) 0).testBit j = true → listed.getD j false = true := by
    intro l
    induction l with
    | nil => intro _ h; simp at h
    | cons e l ih =>
      intro hm h
      simp only [List.foldr_cons] at h
      have ih' := ih (fun e he => hm e (List.mem_cons_of_mem _ he))
      split at h
      · rename_i hb
        have hd := hall e (hm e List.mem_cons_self) hb
        rw [Nat.testBit_or, Bool.or_eq_true] at h
        rcases h with h | h
        · rw [Nat.testBit_or, Bool.or_eq_true] at h
          rcases h with h | h
          · rw [Nat.testBit_two_pow] at h
            have : e.on = j := by simpa using h
            rw [← this]; exact hd
          · exact ht e.on j h listed hc (hc.waits hd)
        · exact ih' h
      · exact ih' h
  exact this _ (fun e he => by simpa using he) hj
theorem good_go : ∀ (l : List Oper) (tab : List Nat), (∀ j, l[j]? = ops[tab.length + j]?) → (∀ k, Good ops k (tab.getD k 0)) → ∀ k, Good ops k ((maskGo l tab).getD k 0)
  | [], tab, _, h => h
  | o :: l, tab, hl, h => by
    have h0 : ops[tab.length]? = some o := by simpa using (hl 0).symm
    unfold maskGo
    refine good_go l _ (fun j => ?_) (fun k => ?_)
    · have := hl (j + 1)
      simp only [List.getElem?_cons_succ] at this
      rw [this, List.length_append]
      congr 1
      simp only [List.length_cons, List.length_nil]
      omega
    · by_cases hk : k < tab.length
      · have := h k
        rwa [List.getD_eq_getElem?_getD, List.getElem?_append_left hk, ← List.getD_eq_getElem?_getD]
      · by_cases he : k = tab.length
        · subst he
          have hg := good_mask h0 h
          rwa [List.getD_eq_getElem?_getD, List.getElem?_append_right (Nat.le_refl _), Nat.sub_self]
        · rw [List.getD_eq_getElem?_getD, List.getElem?_eq_none (by simp; omega)]
          exact good_zero _
/-- the masks of a region -/
def masks (l : List Oper) : List Nat := maskGo l []
theorem good_masks (l : List Oper) : ∀ k, Good l.toArray k ((masks l).getD k 0) := good_go l [] (fun j => by simp) (fun k => by simp only [List.getD_nil]; exact good_zero _)

def allAs : List Nat → List (List (Nat × Bool))
  | [] => [[]]
  | e :: es => (allAs es).flatMap fun l => [(e, false) :: l, (e, true) :: l]
theorem mem_allAs (f : Nat → Bool) : ∀ es : List Nat, es.map (fun e => (e, f e)) ∈ allAs es
  | [] => by simp [allAs]
  | e :: es => by
    unfold allAs
    refine List.mem_flatMap.2 ⟨_, mem_allAs f es, ?_⟩
    cases h : f e <;> simp [h]
/-- can these be done when the i-th runs? -/
def feasP (tab : List Nat) (i : Nat) (l : List (Nat × Bool)) : Bool :=
  l.all fun p => (!(p.1 == i) || !p.2) && ((!((tab.getD p.1 0).testBit i) || !p.2) && (!((tab.getD i 0).testBit p.1) || p.2)) && l.all fun q => !((tab.getD p.1 0).testBit q.1) || (!p.2 || q.2)
def feas (tab : List Nat) (es : List Nat) (i : Nat) : List (List Bool) := ((allAs es).filter (feasP tab i)).map fun l => l.map (·.2)
theorem mem_feas {tab : List Nat} {es : List Nat} {i : Nat} (ht : ∀ k, Good ops k (tab.getD k 0)) {listed : Array Bool} (hc : Closed ops listed) (hi : listed.getD i false = false) (hr : Waits ops listed i) :
    es.map (fun e => listed.getD e false) ∈ feas tab es i := by
  unfold feas
  refine List.mem_map.2 ⟨es.map (fun e => (e, listed.getD e false)), List.mem_filter.2 ⟨mem_allAs _ es, ?_⟩, by simp [List.map_map, Function.comp_def]⟩
  unfold feasP
  refine List.all_eq_true.2 fun p hp => ?_
  obtain ⟨e, _, rfl⟩ := List.mem_map.1 hp
  simp only [Bool.and_eq_true]
  refine ⟨⟨?_, ?_, ?_⟩, List.all_eq_true.2 fun q hq => ?_⟩
  · by_cases he : e = i
    · subst he; simp only [hi]; simp
    · simp [he]
  · cases hb : (tab.getD e 0).testBit i with
    | false => simp
    | true =>
      cases hd : listed.getD e false with
      | false => simp
      | true =>
        have := ht e i hb listed hc (hc.waits hd)
        rw [hi] at this
        cases this
  · cases hb : (tab.getD i 0).testBit e with
    | false => simp
    | true => rw [ht i e hb listed hc hr]; simp
  · obtain ⟨e', _, rfl⟩ := List.mem_map.1 hq
    cases hb : (tab.getD e 0).testBit e' with
    | false => simp
    | true =>
      cases hd : listed.getD e false with
      | false => simp
      | true => simp only [ht e e' hb listed hc (hc.waits hd)]; simp

/-- the i-th is done -/
def stepB (es : List Nat) (i : Nat) (bs : List Bool) : List Bool := List.zipWith (fun e b => b || e == i) es bs
def nextB (es : List Nat) (i : Nat) (bs : List Bool) : List Bool := if es.contains i then stepB es i bs else bs
theorem nextB_done {es : List Nat} {i n : Nat} {listed : Array Bool} (hs : listed.size = n) (hi : i < n) : nextB es i (es.map fun e => listed.getD e false) = es.map fun e => (listed.setIfInBounds i true).getD e false := by
  have hset : ∀ e, (listed.setIfInBounds i true).getD e false = (listed.getD e false || e == i) := fun e => by
    by_cases he : i = e
    · subst he
      simp [Array.getD_eq_getD_getElem?, hs, hi]
    · have : (e == i) = false := by simp; omega
      rw [this, Bool.or_false]
      simp only [Array.getD_eq_getD_getElem?]
      rw [Array.getElem?_setIfInBounds_ne he]
  unfold nextB
  split
  · unfold stepB
    have : ∀ l : List Nat, List.zipWith (fun e b => b || e == i) l (l.map fun e => listed.getD e false) = l.map fun e => (listed.setIfInBounds i true).getD e false := by
      intro l
      induction l with
      | nil => rfl
      | cons e l ih => simp only [List.map_cons, List.zipWith_cons_cons, ih, hset]
    exact this es
  · rename_i hn
    refine List.map_congr_left fun e he => ?_
    rw [hset]
    have : (e == i) = false := by
      cases h : (e == i) with
      | false => rfl
      | true =>
        have : e = i := by simpa using h
        subst this
        exact absurd (List.contains_iff_mem.2 he) hn
    rw [this, Bool.or_false]

variable {tab es : List Nat} {T : List Bool → World → Prop} {X : Nat → World → World → Prop} {n : Nat} {lo : Nat → Bool} {E : Nat → Value → World → Prop}

structure Fix (P : Program) (ops : Array Oper) (tab es : List Nat) (T : List Bool → World → Prop) (X : World → World → Prop) (i : Nat) (o : Oper) (a : Act) (v : Value) : Prop where
  out : (Region.wanted o (yielded ops a.tmps) = true ∧ ∀ bs ∈ feas tab es i, ∀ w, T bs w → yields P o a w fun u w' => u = v ∧ T (nextB es i bs) w' ∧ X w w') ∨ (Region.wanted o (yielded ops a.tmps) = false ∧ v = undef ∧ es.contains i = false ∧ ∀ w, X w w)
structure Loose (P : Program) (ops : Array Oper) (tab es : List Nat) (T : List Bool → World → Prop) (X : World → World → Prop) (n : Nat) (lo : Nat → Bool) (E : Nat → Value → World → Prop) (i : Nat) (o : Oper) (a : Act) : Prop where
  wanted : ∀ a', L2.AlikeL ops n lo o a' a → Region.wanted o (yielded ops a'.tmps) = true
  out : ∀ bs ∈ feas tab es i, ∀ w a', T bs w → L2.AlikeL ops n lo o a' a → (∀ j t, j < n → lo j = true → (ops[j]?).bind (·.dst) = some t → t ∈ o.looksAt ops → E j (a'.tmps.getD t undef) w) → yields P o a' w fun u w' => E i u w' ∧ T (nextB es i bs) w' ∧ X w w'

def wpT (P : Program) (ops : Array Oper) (tab es : List Nat) (T : List Bool → World → Prop) (X : Nat → World → World → Prop) (n : Nat) (lo : Nat → Bool) (E : Nat → Value → World → Prop) (Q : Act → Prop) : Nat → List Oper → Act → Prop
  | _, [], a => Q a
  | i, o :: rest, a => if lo i then Loose P ops tab es T (X i) n lo E i o a ∧ wpT P ops tab es T X n lo E Q (i + 1) rest a else ∃ v, Fix P ops tab es T (X i) i o a v ∧ wpT P ops tab es T X n lo E Q (i + 1) rest (a.put o.dst v)

theorem step_any (ht : ∀ k, Good ops k (tab.getD k 0)) (hE : ∀ i j v w w', i ≠ j → E i v w → X j w w' → E i v w') {A : Act} {Q : Exit → Act → World → Prop}
    (hsel : Region.noSelect ops = true) (hn : n = ops.size) (hok : L2.okB ops n lo = true) (hin : inB ops n A.tmps.size = true)
    (hop : ∀ i o, i < n → ops[i]? = some o → if lo i then Loose P ops tab es T (X i) n lo E i o A else Fix P ops tab es T (X i) i o A (match o.dst with | some d => A.tmps.getD d undef | none => undef) ∨ o.dst = none ∧ ∃ v, Fix P ops tab es T (X i) i o A v)
    (hend : ∀ a w, L2.RInv ops n (T (es.map fun _ => true)) lo E A (List.replicate n true).toArray a w → Q .normal a w) (hes : ∀ e ∈ es, e < n) :
    ∀ (f : Nat) (listed : Array Bool) (a : Act) (w : World), cnt listed n = f → L2.RInv ops n (T (es.map fun e => listed.getD e false)) lo E A listed a w → wpAny P .any ops Q f listed a w := by
  intro f
  induction f with
  | zero =>
    intro listed a w hcnt h
    have hall := cnt_zero n hcnt
    have := canon_ext (n := n) (m := n) (h.head.size.trans hn.symm) hall (fun i h1 h2 => by omega) (Nat.le_refl n)
    rw [Nat.sub_self, List.replicate_zero, List.append_nil] at this
    refine ⟨List.eq_nil_iff_forall_not_mem.2 fun i hi => ?_, hend a w ?_⟩
    · obtain ⟨hu, o, ho, _⟩ := mem_ready.1 hi
      have hlt : i < n := by rw [hn]; exact (Array.getElem?_eq_some_iff.1 ho).1
      rw [hall i hlt] at hu
      cases hu
    · rw [← this]
      have he : (es.map fun e => listed.getD e false) = es.map fun _ => true := List.map_congr_left fun e he => by
        have := hall e (hes e he)
        have hl : e < listed.size := by rw [h.head.size, ← hn]; exact hes e he
        simp only [Array.getD_eq_getD_getElem?, Array.getElem?_eq_getElem hl, Option.getD_some] at this ⊢
        exact this
      rw [← he]
      exact h
  | succ f ih =>
    intro listed a w hcnt h
    obtain ⟨i0, hi0, hu0, hall0⟩ := cnt_pos (listed := listed) n (by omega)
    have okAt : ∀ i, i < n → L2.okOp ops n lo i = true := fun i hi => List.all_eq_true.1 hok i (List.mem_range.2 hi)
    have hr0 : i0 ∈ Region.ready .any ops listed := by
      have hlt : i0 < ops.size := by omega
      refine mem_ready.2 ⟨hu0, ops[i0], Array.getElem?_eq_getElem hlt, fun e he hb => ?_⟩
      have hback := L2.okOp_back (Array.getElem?_eq_getElem hlt) (okAt i0 hi0) he hb
      have h1 := hall0 e.on hback
      have : e.on < listed.size := by rw [h.head.size]; omega
      simp [this] at h1 ⊢; exact h1
    refine ⟨fun h0 => (by rw [h0] at hr0; cases hr0), fun i hi => ?_⟩
    obtain ⟨hun, o, ho, hrd0⟩ := mem_ready.1 hi
    have hin' : i < n := by rw [hn]; exact (Array.getElem?_eq_some_iff.1 ho).1
    have hunf : listed.getD i false = false := getD_both hun
    have hbs : (es.map fun e => listed.getD e false) ∈ feas tab es i := mem_feas ht (fun k ok hk hl => h.head.closed k ok hk hl) hunf (fun o' ho' => by rw [ho] at ho'; rw [← Option.some.inj ho']; exact hrd0)
    have hnx := nextB_done (es := es) (h.head.size.trans hn.symm) hin'
    have halL := h.alikeL ho (okAt i hin') hi
    have hrd := h.reads ho (okAt i hin') hi
    have hse : ∀ cs x, o.op ≠ .select cs x := fun cs x => Region.noSelect_spec hsel i o cs x ho
    have hbd : ∀ d, o.dst = some d → d < A.tmps.size := fun d hd => by
      have h1 := List.all_eq_true.1 hin i (List.mem_range.2 hin')
      have h2 : (ops[i]?).bind (·.dst) = some d := by rw [ho]; exact hd
      rw [h2] at h1
      simpa using h1
    have hcnt' : cnt (listed.setIfInBounds i true) n = f := by have := cnt_set hun n hin'; omega
    have hop' := hop i o hin' ho
    -- the invariant goes on, with what lasts behind the step
    have go : ∀ (v : Value) (w' : World), T (es.map fun e => (listed.setIfInBounds i true).getD e false) w' → X i w w' → (lo i = false → ∀ d, o.dst = some d → d < A.tmps.size → A.tmps[d]? = some v) → (lo i = true → E i v w') →
        L2.RInv ops n (T (es.map fun e => (listed.setIfInBounds i true).getD e false)) lo E A (listed.setIfInBounds i true) (a.put o.dst v) w' := fun v w' hT hX hv hl => by
      have h' : L2.RInv ops n (fun _ => True) lo E A listed a w := ⟨trivial, h.defers, h.size, h.far, h.near, h.loose, h.head⟩
      have h2 := h'.step hE ho (okAt i hin') hin' hi (v := v) trivial hX hv hl hbd
      exact ⟨hT, h2.defers, h2.size, h2.far, h2.near, h2.loose, h2.head⟩
    unfold wpOp
    simp only [ho]
    cases hlo : lo i with
    | true =>
      rw [hlo] at hop'
      simp only [if_true] at hop'
      rw [if_pos (hop'.wanted _ halL)]
      refine .inl (wp_of_yields (R := fun u w' => E i u w' ∧ T (nextB es i (es.map fun e => listed.getD e false)) w' ∧ X i w w') ?_ fun v w' ⟨h1, h2, h3⟩ => ih _ _ _ hcnt' (go v w' (hnx ▸ h2) h3 (fun e => by rw [hlo] at e; cases e) (fun _ => h1)))
      exact hop'.out _ hbs w _ h.s halL hrd
    | false =>
      rw [hlo] at hop'
      simp only [Bool.false_eq_true, if_false] at hop'
      have hal := h.alike ho (okAt i hin') hi hlo
      obtain ⟨v, hfix, hval⟩ : ∃ v, Fix P ops tab es T (X i) i o A v ∧ ∀ d, o.dst = some d → d < A.tmps.size → A.tmps[d]? = some v := by
        rcases hop' with h1 | ⟨h1, v, h2⟩
        · cases hd : o.dst with
          | none => rw [hd] at h1; exact ⟨_, h1, fun d e => by cases e⟩
          | some d =>
            rw [hd] at h1
            refine ⟨_, h1, fun d' e hlt => ?_⟩
            obtain rfl : d = d' := Option.some.inj e
            simp [Array.getD_eq_getD_getElem?, hlt]
        · exact ⟨v, h2, fun d e => by rw [h1] at e; cases e⟩
      rcases hfix.out with ⟨hw, hy⟩ | ⟨hw, rfl, hne, hXr⟩
      · rw [if_pos (by rw [alike_wanted hal]; exact hw)]
        refine .inl (wp_of_yields (R := fun u w' => u = v ∧ T (nextB es i (es.map fun e => listed.getD e false)) w' ∧ X i w w') ?_ fun u w' ⟨h1, h2, h3⟩ => ?_)
        · have := hy _ hbs w h.s
          unfold yields at this ⊢
          rw [alike_exec hse hal]
          exact this
        · subst h1
          exact ih _ _ _ hcnt' (go u w' (hnx ▸ h2) h3 (fun _ => hval) (fun e => by rw [hlo] at e; cases e))
      · rw [if_neg (by rw [alike_wanted hal, hw]; simp)]
        refine ih _ _ _ hcnt' (go undef w ?_ (hXr w) (fun _ => hval) (fun e => by rw [hlo] at e; cases e))
        rw [← hnx]
        unfold nextB
        rw [hne]
        exact h.s

theorem Fix.of_alike {X : World → World → Prop} {i : Nat} {o : Oper} {a b : Act} {v : Value} (hs : ∀ cs x, o.op ≠ .select cs x) (h : Alike ops o a b) (hf : Fix P ops tab es T X i o a v) : Fix P ops tab es T X i o b v := by
  refine ⟨?_⟩
  rcases hf.out with ⟨h1, h2⟩ | ⟨h1, h2, h3⟩
  · refine .inl ⟨by rw [← alike_wanted h]; exact h1, fun bs hb w hw => ?_⟩
    have := h2 bs hb w hw
    unfold yields at this ⊢
    rw [← alike_exec hs h]
    exact this
  · exact .inr ⟨by rw [← alike_wanted h]; exact h1, h2, h3⟩
theorem Loose.of_alike {X : World → World → Prop} {i : Nat} {o : Oper} {a b : Act} (h : Alike ops o a b) (hf : Loose P ops tab es T X n lo E i o a) : Loose P ops tab es T X n lo E i o b :=
  ⟨fun a' ha => hf.wanted a' fun t ht hn => (ha t ht hn).trans (h t ht).symm, fun bs hb w a' hs ha hr => hf.out bs hb w a' hs (fun t ht hn => (ha t ht hn).trans (h t ht).symm) hr⟩
/-- What the walk in the text's order has laid open, at its end. -/
theorem wpT_end {Qe : Act → Prop} (hsel : Region.noSelect ops = true) (hok : L2.okB ops n lo = true) (hin : ∀ N, inB ops n N = true → True) :
    ∀ (l : List Oper) (k : Nat) (a : Act), (∀ j, j < l.length → l[j]? = ops[k + j]?) → k + l.length = n → inB ops n a.tmps.size = true → wpT P ops tab es T X n lo E Qe k l a →
    ∃ A : Act, Qe A ∧ A.defers = a.defers ∧ A.tmps.size = a.tmps.size ∧
      (∀ t, (∀ j, k ≤ j → j < n → lo j = false → (ops[j]?).bind (·.dst) ≠ some t) → A.tmps[t]? = a.tmps[t]?) ∧
      (∀ i o, k ≤ i → i < n → ops[i]? = some o → if lo i then Loose P ops tab es T (X i) n lo E i o A else Fix P ops tab es T (X i) i o A (match o.dst with | some d => A.tmps.getD d undef | none => undef) ∨ o.dst = none ∧ ∃ v, Fix P ops tab es T (X i) i o A v)
  | [], k, a, hl, hk, hb, h => ⟨a, h, rfl, rfl, fun _ _ => rfl, fun i o h1 h2 _ => by simp at hk; omega⟩
  | o :: l, k, a, hl, hk, hb, h => by
    have h0 : ops[k]? = some o := by simpa using (hl 0 (by simp)).symm
    have hkn : k < n := by simp only [List.length_cons] at hk; omega
    have okAt : ∀ i, i < n → L2.okOp ops n lo i = true := fun i hi => List.all_eq_true.1 hok i (List.mem_range.2 hi)
    have hse : ∀ (i : Nat) (o : Oper), ops[i]? = some o → ∀ cs x, o.op ≠ .select cs x := fun i o ho cs x => Region.noSelect_spec hsel i o cs x ho
    have hl' : ∀ j, j < l.length → l[j]? = ops[k + 1 + j]? := fun j hj => by have := hl (j + 1) (by simp; omega); simpa [Nat.add_assoc, Nat.add_comm 1 j] using this
    have hk' : k + 1 + l.length = n := by simp only [List.length_cons] at hk; omega
    have alikeA : ∀ {A b : Act}, (∀ t, (∀ j, k + 1 ≤ j → j < n → lo j = false → (ops[j]?).bind (·.dst) ≠ some t) → A.tmps[t]? = b.tmps[t]?) → Alike ops o b A := fun hA t ht =>
      (hA t fun j h1 h2 _ hd => L2.looks_dst h0 (okAt k hkn) h2 (by omega) hd ht).symm
    unfold wpT at h
    cases hlo : lo k with
    | true =>
      rw [hlo] at h
      simp only [if_true] at h
      obtain ⟨A, hq, hd, hs, hfar, hops⟩ := wpT_end hsel hok hin l (k + 1) a hl' hk' hb h.2
      refine ⟨A, hq, hd, hs, fun t ht => hfar t fun j h1 h2 h3 => ht j (by omega) h2 h3, fun i o' h1 h2 ho' => ?_⟩
      by_cases hik : i = k
      · subst hik
        obtain rfl : o = o' := Option.some.inj (h0.symm.trans ho')
        rw [hlo]; simp only [if_true]
        exact h.1.of_alike (alikeA hfar)
      · exact hops i o' (by omega) h2 ho'
    | false =>
      rw [hlo] at h
      simp only [Bool.false_eq_true, if_false] at h
      obtain ⟨v, hf, hr⟩ := h
      have hsz : (a.put o.dst v).tmps.size = a.tmps.size := by cases o.dst <;> simp [Act.put]
      obtain ⟨A, hq, hd, hs, hfar, hops⟩ := wpT_end hsel hok hin l (k + 1) (a.put o.dst v) hl' hk' (by rw [hsz]; exact hb) hr
      have hbind : (ops[k]?).bind (·.dst) = o.dst := by rw [h0]; rfl
      have hal : Alike ops o a A := fun t ht => by
        rw [hfar t fun j h1 h2 _ hd' => L2.looks_dst h0 (okAt k hkn) h2 (by omega) hd' ht]
        cases hdo : o.dst with
        | none => rfl
        | some d =>
          have hne : d ≠ t := fun e => L2.looks_dst h0 (okAt k hkn) hkn (Nat.le_refl _) (hbind.trans hdo) (e ▸ ht)
          simp only [Act.put]
          rw [Array.getElem?_setIfInBounds_ne hne]
      refine ⟨A, hq, by rw [hd]; cases o.dst <;> rfl, hs.trans hsz, fun t ht => ?_, fun i o' h1 h2 ho' => ?_⟩
      · rw [hfar t fun j h1 h2 h3 => ht j (by omega) h2 h3]
        have := ht k (Nat.le_refl _) hkn hlo
        rw [hbind] at this
        cases hdo : o.dst with
        | none => rfl
        | some d =>
          have hne : d ≠ t := fun e => this (by rw [hdo, e])
          simp only [Act.put]
          rw [Array.getElem?_setIfInBounds_ne hne]
      · by_cases hik : i = k
        · subst hik
          obtain rfl : o = o' := Option.some.inj (h0.symm.trans ho')
          rw [hlo]; simp only [Bool.false_eq_true, if_false]
          have hfA := hf.of_alike (hse i o h0) hal
          cases hdo : o.dst with
          | none => exact .inr ⟨rfl, v, hfA⟩
          | some d =>
            refine .inl ?_
            have hdn : (ops[i]?).bind (·.dst) = some d := hbind.trans hdo
            have hlt : d < a.tmps.size := by
              have h3 := List.all_eq_true.1 hb i (List.mem_range.2 h2)
              rw [hdn] at h3
              simpa using h3
            have : A.tmps[d]? = some v := by
              rw [hfar d fun j h3 h4 _ => L2.okOp_dst h0 (okAt i h2) hdo h4 (by omega), hdo]
              simp [Act.put, hlt]
            simp only [Array.getD_eq_getD_getElem?, this, Option.getD_some]
            exact hfA
        · exact hops i o' (by omega) h2 ho'

/-- THE LAW: a region that draws its order, walked once. -/
theorem region (es : List Nat) (T : List Bool → World → Prop) (X : Nat → World → World → Prop) (lo : Nat → Bool) (E : Nat → Value → World → Prop) {id : Nat} {Q : Exit → Act → World → Prop} {a : Act} {w : World} {l : List Oper}
    (hE : ∀ i j v w w', i ≠ j → E i v w → X j w w' → E i v w') (hm : P.follows .mixedOrders = true)
    (hB : (Region.noSelect l.toArray && L2.okB l.toArray l.length lo && inB l.toArray l.length a.tmps.size && es.all fun e => decide (e < l.length)) = true)
    (hS : T (es.map fun _ => false) { w with drawn := w.drawn + 1 })
    (h : wpT P l.toArray (masks l) es T X l.length lo E (fun A => A.tmps.size = a.tmps.size → ∀ (b : Act) (w' : World), L2.RInv l.toArray l.length (T (es.map fun _ => true)) lo E A (List.replicate l.length true).toArray b w' → Q .normal b w') 0 l a) :
    (Code.region id l.toArray true).wp P Q a w := by
  simp only [Bool.and_eq_true] at hB
  obtain ⟨⟨⟨hsel, hok⟩, hin⟩, hes⟩ := hB
  have hes' : ∀ e ∈ es, e < l.length := fun e he => by simpa using List.all_eq_true.1 hes e he
  obtain ⟨A, hq, hd, hsz, hfar, hops⟩ := wpT_end hsel hok (fun _ _ => trivial) l 0 a (fun j hj => by simp) (by simp) hin h
  have hq' := hq hsz
  refine wp_region_any hm ?_
  have hrep : ∀ e, (Array.replicate l.toArray.size false).getD e false = false := fun e => by
    simp only [Array.getD_eq_getD_getElem?]
    rw [Array.getElem?_replicate]
    split <;> rfl
  have hc0 : cnt (Array.replicate l.toArray.size false) l.length = l.length := by
    have : ∀ k, k ≤ l.toArray.size → cnt (Array.replicate l.toArray.size false) k = k := by
      intro k
      induction k with
      | zero => intro _; rfl
      | succ k ih =>
        intro hk
        simp only [cnt]
        rw [ih (by omega)]
        have : (Array.replicate l.toArray.size false).getD k true = false := by simp only [Array.getD_eq_getD_getElem?]; rw [Array.getElem?_replicate, if_pos (by omega)]; rfl
        rw [this]; simp
    exact this l.length (by simp)
  have h0 : L2.RInv l.toArray l.length (T (es.map fun e => (Array.replicate l.toArray.size false).getD e false)) lo E A (Array.replicate l.toArray.size false) a { w with drawn := w.drawn + 1 } := by
    have hno : ∀ j, (Array.replicate l.toArray.size false).getD j true = true → l.toArray.size ≤ j := fun j hj => by
      rcases Nat.lt_or_ge j l.toArray.size with h' | h'
      · simp only [Array.getD_eq_getD_getElem?] at hj
        rw [Array.getElem?_replicate, if_pos h'] at hj
        cases hj
      · exact h'
    have hT : (es.map fun e => (Array.replicate l.toArray.size false).getD e false) = es.map fun _ => false := List.map_congr_left fun e _ => hrep e
    rw [hT]
    refine ⟨hS, hd.symm, hsz.symm, fun t ht => (hfar t fun j _ h2 _ => ht j h2).symm, fun j hj _ hl => ?_, fun j hj _ hl => ?_, ?_⟩
    · have := hno j hl; simp at this; omega
    · have := hno j hl; simp at this; omega
    · exact ⟨by simp, fun j oj _ hl => (by rw [hrep] at hl; cases hl), fun t h1 ht => by simp at ht; omega⟩
  have hfin := step_any (P := P) (Q := Q) (good_masks l) hE hsel (by simp) hok (by rw [hsz]; exact hin) (fun i o hi ho => hops i o (Nat.zero_le _) hi ho) (fun b w' hb => hq' b w' hb) hes' l.length _ _ _ hc0 h0
  simpa using hfin

theorem eqA {n : Nat} {S : World → Prop} {E : Nat → Value → World → Prop} {A b : Act} {w : World} (h : L2.RInv ops n S (fun _ => false) E A (List.replicate n true).toArray b w) : b = A := by
  refine act_ext (Array.ext h.size fun i h1 h2 => ?_) h.defers
  have : b.tmps[i]? = A.tmps[i]? := by
    by_cases hex : ∃ j, j < n ∧ (ops[j]?).bind (·.dst) = some i
    · obtain ⟨j, hj, hd2⟩ := hex
      exact h.near j hj rfl (by simp [Array.getD_eq_getD_getElem?, hj]) i hd2
    · exact h.far i fun j hj hd => hex ⟨j, hj, hd⟩
  rw [Array.getElem?_eq_getElem h1, Array.getElem?_eq_getElem h2] at this
  exact Option.some.inj this

/-- no value hangs on the order -/
theorem region0 (es : List Nat) (T : List Bool → World → Prop) {id : Nat} {Q : Exit → Act → World → Prop} {a : Act} {w : World} {l : List Oper} (hm : P.follows .mixedOrders = true)
    (hB : (Region.noSelect l.toArray && L2.okB l.toArray l.length (fun _ => false) && inB l.toArray l.length a.tmps.size && es.all fun e => decide (e < l.length)) = true)
    (hS : T (es.map fun _ => false) { w with drawn := w.drawn + 1 })
    (h : wpT P l.toArray (masks l) es T (fun _ _ _ => True) l.length (fun _ => false) (fun _ _ _ => True) (fun A => A.tmps.size = a.tmps.size → ∀ w', T (es.map fun _ => true) w' → Q .normal A w') 0 l a) :
    (Code.region id l.toArray true).wp P Q a w := by
  refine region es T (fun _ _ _ => True) (fun _ => false) (fun _ _ _ => True) (fun _ _ _ _ _ _ _ _ => trivial) hm hB hS ?_
  have mono : ∀ (Q1 Q2 : Act → Prop), (∀ A, Q1 A → Q2 A) → ∀ (l' : List Oper) (i : Nat) (a' : Act), wpT P l.toArray (masks l) es T (fun _ _ _ => True) l.length (fun _ => false) (fun _ _ _ => True) Q1 i l' a' → wpT P l.toArray (masks l) es T (fun _ _ _ => True) l.length (fun _ => false) (fun _ _ _ => True) Q2 i l' a' := by
    intro Q1 Q2 hq l'
    induction l' with
    | nil => intro i a' h; exact hq _ h
    | cons o l' ih =>
      intro i a' h
      unfold wpT at h ⊢
      simp only [Bool.false_eq_true, if_false] at h ⊢
      obtain ⟨v, h1, h2⟩ := h
      exact ⟨v, h1, ih _ _ h2⟩
  refine mono _ _ (fun A hA hsz b w' hI => ?_) _ _ _ h
  rw [eqA hI]
  exact hA hsz w' hI.s

-- the steps of region0
variable {Q : Act → Prop} {i : Nat} {o : Oper} {a : Act} {rest : List Oper} {ns : Nat}
abbrev wpT0 (P : Program) (ops : Array Oper) (tab es : List Nat) (T : List Bool → World → Prop) (n : Nat) (Q : Act → Prop) : Nat → List Oper → Act → Prop := wpT P ops tab es T (fun _ _ _ => True) n (fun _ => false) (fun _ _ _ => True) Q
theorem nil0 (h : Q a) : wpT0 P ops tab es T ns Q i [] a := h
theorem skip0 (hes : es.contains i = false) (hw : Region.wanted o (yielded ops a.tmps) = false) (h : wpT0 P ops tab es T ns Q (i + 1) rest (a.put o.dst undef)) : wpT0 P ops tab es T ns Q i (o :: rest) a :=
  ⟨undef, ⟨.inr ⟨hw, rfl, hes, fun _ => trivial⟩⟩, h⟩
/-- an operation that stores nothing, at what may be done then -/
theorem fix0 {v : Value} (hes : es.contains i = false) (hw : Region.wanted o (yielded ops a.tmps) = true)
    (h1 : ∀ bs ∈ feas tab es i, ∀ w1, T bs w1 → yields P o a w1 fun u w' => u = v ∧ T bs w') (h : wpT0 P ops tab es T ns Q (i + 1) rest (a.put o.dst v)) : wpT0 P ops tab es T ns Q i (o :: rest) a :=
  ⟨v, ⟨.inl ⟨hw, fun bs hb w1 hT => L2.yields_mono (h1 bs hb w1 hT) fun u w' ⟨h2, h3⟩ => ⟨h2, by unfold nextB; rw [hes]; exact h3, trivial⟩⟩⟩, h⟩
/-- one that reads no memory -/
theorem pure0 {v : Value} (hes : es.contains i = false) (hw : Region.wanted o (yielded ops a.tmps) = true)
    (h1 : ∀ w1, yields P o a w1 fun u w' => u = v ∧ w1 = w') (h : wpT0 P ops tab es T ns Q (i + 1) rest (a.put o.dst v)) : wpT0 P ops tab es T ns Q i (o :: rest) a :=
  fix0 hes hw (fun bs _ w1 hT => L2.yields_mono (h1 w1) fun u w' ⟨h2, h3⟩ => ⟨h2, h3 ▸ hT⟩) h
/-- one that runs when just 'bs' is done -/
theorem at0 {v : Value} (bs : List Bool) (hes : es.contains i = false) (hw : Region.wanted o (yielded ops a.tmps) = true) (hf : feas tab es i = [bs])
    (h1 : ∀ w1, T bs w1 → yields P o a w1 fun u w' => u = v ∧ T bs w') (h : wpT0 P ops tab es T ns Q (i + 1) rest (a.put o.dst v)) : wpT0 P ops tab es T ns Q i (o :: rest) a :=
  fix0 hes hw (fun bs' hb w1 hT => by rw [hf] at hb; have := List.mem_singleton.1 hb; subst this; exact h1 w1 hT) h
/-- one that stores, when just 'bs' is done -/
theorem store0 {v : Value} (bs bs' : List Bool) (hw : Region.wanted o (yielded ops a.tmps) = true) (hf : feas tab es i = [bs]) (hn : nextB es i bs = bs')
    (h1 : ∀ w1, T bs w1 → yields P o a w1 fun u w' => u = v ∧ T bs' w') (h : wpT0 P ops tab es T ns Q (i + 1) rest (a.put o.dst v)) : wpT0 P ops tab es T ns Q i (o :: rest) a :=
  ⟨v, ⟨.inl ⟨hw, fun b hb w1 hT => by
    rw [hf] at hb
    have := List.mem_singleton.1 hb
    subst this
    rw [hn]
    exact L2.yields_mono (h1 w1 hT) fun u w' ⟨h2, h3⟩ => ⟨h2, h3, trivial⟩⟩⟩, h⟩
end
end Go.Proofs.YtcipokldcjappaaGreat.L5

namespace Go.Proofs.YtcipokldcjappaaGreat
open Go.RowKit

def accS (w0 : World) (base g cap n : Nat) (xs xs1 xs2 : List Value) (bs : List Bool) (w : World) : Prop :=
  Keep (fun b => b = g) w0 w ∧ w.ownsRow base 33 3 (.slice (some ⟨g, 0, none⟩) n cap) n (match bs with | [false, false] => xs | [true, false] => xs1 | _ => xs2)

theorem accS1 {w0 w : World} {base g cap n k : Nat} {xs xs2 : List Value} {u : Value} (h : accS w0 base g cap n xs (xs.set k u) xs2 [false, false] w) (hk : k < xs.length) : accS w0 base g cap n xs (xs.set k u) xs2 [true, false] (w.setCell ⟨g, k, none⟩ u) :=
  ⟨h.1.set (.inl rfl) u, own_set h.2 k u hk⟩
theorem accS2 {w0 w : World} {base g cap n k : Nat} {xs xs1 : List Value} {u : Value} (h : accS w0 base g cap n xs xs1 (xs1.set k u) [true, false] w) (hk : k < xs1.length) : accS w0 base g cap n xs xs1 (xs1.set k u) [true, true] (w.setCell ⟨g, k, none⟩ u) :=
  ⟨h.1.set (.inl rfl) u, own_set h.2 k u hk⟩

theorem insP_at (l : List Po) (k : Nat) (x : Po) (hk : k ≤ l.length) : (insP l k x)[k]? = some x := by
  unfold insP
  rw [List.getElem?_append_right (by rw [List.length_take]; omega), List.length_take, show k - min k l.length = 0 by omega]
  rfl
theorem bump_cells (L : List Po) (k : Nat) (x : Po) (n : Int) (h : L[k]? = some x) : posCells (bumpP L k n) = ((posCells L).set (k * 3 + 1) (.int .u64 (satAdd x.pk 1))).set (k * 3 + 2) (.int .u64 (satAdd x.byt n)) := by
  unfold bumpP
  rw [h]
  simp only
  induction L generalizing k with
  | nil => simp at h
  | cons y L ih =>
    have e : ∀ z M, posCells (z :: M) = poCells z ++ posCells M := fun _ _ => rfl
    cases k with
    | zero =>
      simp at h; subst h
      simp [e, poCells]
    | succ k =>
      simp at h
      rw [List.set_cons_succ, e, e, ih k h, show (k + 1) * 3 = k * 3 + 3 by omega]
      have h3 : (poCells y).length = 3 := rfl
      rw [List.set_append_right (k * 3 + 3 + 1) _ (by omega), List.set_append_right (k * 3 + 3 + 2) _ (by omega), h3]
      rw [show k * 3 + 3 + 1 - 3 = k * 3 + 1 by omega, show k * 3 + 3 + 2 - 3 = k * 3 + 2 by omega]

theorem hasHop_get {l : List Po} {t : Int} {k : Nat} (h : hasHop l t k = true) : ∃ x, l[k]? = some x ∧ x.hop = t := by
  unfold hasHop at h
  split at h
  · rename_i x hx
    exact ⟨x, hx, by simpa using h⟩
  · cases h

theorem slp_of {w : World} {base : Nat} {v : Value} {l : List Po} {T : TypeId} (h : w.ownsRow base T 3 v l.length (posCells l)) (hn : l = [] → v = .slice none 0 0) : SlP w v l := by
  by_cases h0 : 0 < l.length
  · exact SlP.of_own h h0
  · have : l = [] := List.eq_nil_of_length_eq_zero (by omega)
    exact .inl ⟨this, hn this⟩

set_option maxRecDepth 100000 in
set_option maxHeartbeats 4000000 in
/-- ports and a verdict by a hop -/
theorem account_c (v : Value) (l : List Po) (kind hop t why cls : Int) (oa : Option Addr) (m oc : Nat) (w : World) (hv : SlP w v l) (hmx : l.length ≤ 100000) (hkt : (kind = 1 ∧ t = hop) ∨ (kind = 2 ∧ t = 0)) (hh : mayB hop = true) (hs : saneFrom (-1) l = true) (hnn : ∀ x ∈ l, 0 ≤ x.pk ∧ 0 ≤ x.byt) (hm : m ≤ 140737488355328) :
    Calls Tryz.prog 8 #[v, .agg #[(.int .i64 (kind)), (.int .i64 (why)), (.int .i64 (hop)), (.int .i64 (cls)), .slice oa m oc]] w
      fun e w' => ∃ k v', e = .returned v' ∧ Spot l t k ∧ w'.ownsRow w.heap.size 33 3 v' (withP l t k).length (posCells (bumpP (withP l t k) k m)) ∧ Ext w w' := by
  have hinc := saneFrom_incr hs
  have hwm : IntKind.u64.wrap (m : Int) = (m : Int) := by rw [IntKind.wrap_u64]; omega
  have HV := Lib.hid hv
  have HI := Lib.hid hinc
  have HH := Lib.hid hh
  have HS := Lib.hid hs
  have hbx := Blk.new w 30 #[(.int .i64 (kind)), (.int .i64 (why)), (.int .i64 (hop)), (.int .i64 (cls)), .slice oa m oc]
  have HB := Lib.hid hbx
  have HNN := Lib.hid hnn
  clear hv hinc hh hs hbx hnn
  go_enter Tryz.func8, Tryz.ntmps8
  rcases hkt with ⟨rfl, rfl⟩ | ⟨rfl, rfl⟩
  · go_wp2_with (first
      | (go_at_call 22; (with_reducible refine (may_c _ _).mono ?_); rintro e w1 ⟨rfl, rfl⟩; rw [HH.out])
      | (go_at_call 7; (with_reducible refine (sane_s v l _ (HV.out.ext ((Ext.refl w).alloc _)) (by omega)).mono ?_); rintro e w1 ⟨rfl, h1⟩; rw [HS.out]; have c_h1 := h1.cell; have f_h1 := h1.frozen; have z_h1_0 := h1.lt (b := w.heap.size) (by first | omega | (simp <;> omega)); have HX1 := Lib.hid (((Ext.refl w).alloc (.cells #[(.int .i64 (1)), (.int .i64 (why)), (.int .i64 (t)), (.int .i64 (cls)), .slice oa m oc] 30)).trans h1); have HB1 := Lib.hid (HB.out.ext h1); clear h1)
      | (go_at_call 23; (with_reducible refine (pclone_s v l _ (HV.out.ext HX1.out) (by omega)).mono ?_); rintro e w2 ⟨v2, rfl, ho, h2, h2n⟩; have z1 := HX1.out.size; have HX2 := Lib.hid (HX1.out.trans h2); have HB2 := Lib.hid (HB1.out.ext h2); have HO2 := Lib.hid (own_base ho z1); have HN2 := Lib.hid h2n; clear h2 ho h2n))
    refine (bs_s v2 l t _ (slp_of HO2.out HN2.out) (by omega) HI.out).mono ?_
    rintro e w3 ⟨k, rfl, hsp, h3⟩
    have HX3 := Lib.hid (HX2.out.trans h3)
    have HB3 := Lib.hid (HB2.out.ext h3)
    have HO3 := Lib.hid (own_ext HO2.out h3)
    have HSP := Lib.hid hsp
    have hk := hsp.1
    clear h3 hsp HX1 HX2 HB1 HB2 HO2
    cases hb : hasHop l t k
    · have HHB := Lib.hid hb
      clear hb
      go_wp2_with (first
        | (go_at_call 27; (with_reducible refine (pinsert_c w.heap.size w3.heap.size k v2 l ⟨t, 0, 0⟩ _ (own_ext HO3.out ((Ext.refl w3).alloc (.cells #[(.int .i64 (t)), .int .u64 0, .int .u64 0] 33))) (Blk.new w3 _ _) (by have := HX3.out.size; simp; omega) (fun e => by have := own_lt HO3.out e; omega) hk (by omega)).mono ?_); rintro e w5 ⟨v3, rfl, ho, hK⟩; have hX5 := (((HX3.out.alloc (.cells #[(.int .i64 (t)), .int .u64 0, .int .u64 0] 33)).keep (fun k => v2.ownBlock = some k)).trans' hK (fun _ _ h => h)).ext (fun b hb e => by have := own_base_le HO3.out e; omega); rcases own_form ho with ⟨_, hn⟩ | ⟨g, cap, rfl, g1, g2, g3⟩)
        | (exfalso; omega))
      have hlx : (insP l k ⟨t, 0, 0⟩)[k]? = some ⟨t, 0, 0⟩ := insP_at l k _ hk
      have hxs := bump_cells _ k _ m hlx
      have HO5 := Lib.hid (own_base ho (base' := w.heap.size) (Nat.le_refl _))
      have HX5 := Lib.hid hX5
      have HB5 := Lib.hid (HB3.out.ext ((Ext.refl w3).alloc (.cells #[(.int .i64 (t)), .int .u64 0, .int .u64 0] 33)) |>.keep hK (fun e => own_blk_ne HO3.out HB3.out (by decide) e))
      have hgb : w.heap.size ≠ g := fun e => own_blk_ne HO5.out HB5.out (by decide) (by rw [e]; rfl)
      have hbl := HB5.out.lt
      have b4 : w5.cell? ⟨w.heap.size, 4, none⟩ = some (.slice oa m oc) := HB5.out.cell 4
      have HW := Lib.hid (show withP l t k = insP l k ⟨t, 0, 0⟩ from by unfold withP; rw [HHB.out]; rfl)
      have HL := Lib.hid (insP_length l k ⟨t, 0, 0⟩ hk)
      generalize insP l k ⟨t, 0, 0⟩ = L at hxs hlx HO5 HW HL
      have HXS := Lib.hid hxs
      have q0 := posCells_get L k 0 _ hlx (by omega)
      have q1 := posCells_get L k 1 _ hlx (by omega)
      have q2 := posCells_get L k 2 _ hlx (by omega)
      have hpl : (posCells L).length = (l.length + 1) * 3 := HO5.out.1
      have q2' : ((posCells L).set (k * 3 + 1) (.int .u64 (satAdd 0 1)))[k * 3 + 2]? = (poCells ⟨t, 0, 0⟩)[2]? := (List.getElem?_set_ne (by omega)).trans q2
      clear hxs ho hX5 hK
      refine L5.region0 [18, 21] (accS w5 w.heap.size g cap (l.length + 1) (posCells L) ((posCells L).set (k * 3 + 1) (.int .u64 (satAdd 0 1))) (((posCells L).set (k * 3 + 1) (.int .u64 (satAdd 0 1))).set (k * 3 + 2) (.int .u64 (satAdd 0 m)))) rfl (by kernel_rfl) ⟨(Keep.refl _ w5).drew, own_ext HO5.out ((Ext.refl w5).drew)⟩ ?_
      repeat ((first | (refine L5.skip0 rfl rfl ?_) | (apply L5.pure0 rfl rfl; focus (intro w1; go_simp; first | exact rfl | exact ⟨rfl, rfl⟩)) | (apply L5.at0 [false,false] rfl rfl (by kernel_rfl); focus (intro w1 hS; have e1 := own_cell hS.2 (k * 3 + 1) _ q1; have e2 := own_cell hS.2 (k * 3 + 2) _ q2; have e3 := (hS.1.cell (p := ⟨w.heap.size, 4, none⟩) hbl hgb).trans b4; (try simp only [poCells] at e1 e2); go_simp; first | exact rfl | exact ⟨rfl, hS⟩)) | ((apply L5.at0 [false, false] rfl rfl (by kernel_rfl); focus (intro w1 hS; go_simp; with_reducible refine (fwadd_c _ _ w1 ?_ ?_).mono ?_; all_goals (first | omega | (rintro e w2 ⟨rfl, rfl⟩; exact ⟨_, rfl, rfl, hS⟩))))) | (apply L5.store0 [false,false] [true,false] rfl (by kernel_rfl) (by kernel_rfl); focus (intro w1 hS; have f1 := own_frozen hS.2 (k * 3 + 1); have e1 := own_cell hS.2 (k * 3 + 1) _ q1; (try simp only [poCells] at e1); have hst := accS1 hS (by omega); go_simp; first | exact rfl | exact ⟨rfl, hst⟩)) | (apply L5.store0 [true,false] [true,true] rfl (by kernel_rfl) (by kernel_rfl); focus (intro w1 hS; have f2 := own_frozen hS.2 (k * 3 + 2); have e2 := own_cell hS.2 (k * 3 + 2) _ q2'; (try simp only [poCells] at e2); have hst := accS2 hS (by rw [List.length_set]; omega); go_simp; first | exact rfl | exact ⟨rfl, hst⟩))); try simp only [Act.put, List.setIfInBounds_toArray, List.set_cons_zero, List.set_cons_succ])
      refine L5.nil0 ?_
      intro _ w6 hS6
      have hown : w6.ownsRow w.heap.size 33 3 (.slice (some ⟨g, 0, none⟩) (l.length + 1) cap) (l.length + 1) (posCells (bumpP L k m)) := by rw [HXS.out]; exact hS6.2
      have hX6 := (((HX5.out.keep (fun b => b = g)).trans' hS6.1 (fun _ _ h => h)).ext (fun b hb e => by have := own_base_le HO5.out (g := g) rfl; omega))
      have HF := Lib.hid hown
      have HX6 := Lib.hid hX6
      clear hS6 hown hX6
      go_wp2
      go_ret
      exact ⟨k, _, rfl, HSP.out, by rw [HW.out, HL.out]; exact HF.out, HX6.out⟩
    · obtain ⟨x, hlx, hxh⟩ := hasHop_get hb
      have HHB := Lib.hid hb
      clear hb
      obtain ⟨hxp, hxb⟩ := HNN.out x (List.mem_of_getElem? hlx)
      rcases own_form HO3.out with ⟨_, hn⟩ | ⟨g, cap, rfl, g1, g2, g3⟩
      · have := (List.getElem?_eq_some_iff.1 hlx).1
        exfalso; omega
      have hkl : k < l.length := (List.getElem?_eq_some_iff.1 hlx).1
      have hxs := bump_cells _ k _ m hlx
      have HW := Lib.hid (show withP l t k = l from by unfold withP; rw [HHB.out]; rfl)
      have hgb : w.heap.size ≠ g := fun e => own_blk_ne HO3.out HB3.out (by decide) (by rw [e]; rfl)
      have hbl := HB3.out.lt
      have b4 : w3.cell? ⟨w.heap.size, 4, none⟩ = some (.slice oa m oc) := HB3.out.cell 4
      have HXS := Lib.hid hxs
      have HO5 := HO3
      have HX5 := HX3
      have q0 := posCells_get l k 0 _ hlx (by omega)
      have q1 := posCells_get l k 1 _ hlx (by omega)
      have q2 := posCells_get l k 2 _ hlx (by omega)
      have hpl : (posCells l).length = l.length * 3 := posCells_length l
      have q2' : ((posCells l).set (k * 3 + 1) (.int .u64 (satAdd x.pk 1)))[k * 3 + 2]? = (poCells x)[2]? := (List.getElem?_set_ne (by omega)).trans q2
      have HLX := Lib.hid hlx
      clear hxs hlx hxh
      go_wp2_with fail
      refine L5.region0 [18, 21] (accS w3 w.heap.size g cap l.length (posCells l) ((posCells l).set (k * 3 + 1) (.int .u64 (satAdd x.pk 1))) (((posCells l).set (k * 3 + 1) (.int .u64 (satAdd x.pk 1))).set (k * 3 + 2) (.int .u64 (satAdd x.byt m)))) rfl (by kernel_rfl) ⟨(Keep.refl _ w3).drew, own_ext HO5.out ((Ext.refl w3).drew)⟩ ?_
      repeat ((first | (refine L5.skip0 rfl rfl ?_) | (apply L5.pure0 rfl rfl; focus (intro w1; go_simp; first | exact rfl | exact ⟨rfl, rfl⟩)) | (apply L5.at0 [false,false] rfl rfl (by kernel_rfl); focus (intro w1 hS; have e1 := own_cell hS.2 (k * 3 + 1) _ q1; have e2 := own_cell hS.2 (k * 3 + 2) _ q2; have e3 := (hS.1.cell (p := ⟨w.heap.size, 4, none⟩) hbl hgb).trans b4; (try simp only [poCells] at e1 e2); go_simp; first | exact rfl | exact ⟨rfl, hS⟩)) | ((apply L5.at0 [false, false] rfl rfl (by kernel_rfl); focus (intro w1 hS; go_simp; with_reducible refine (fwadd_c _ _ w1 ?_ ?_).mono ?_; all_goals (first | omega | (rintro e w2 ⟨rfl, rfl⟩; exact ⟨_, rfl, rfl, hS⟩))))) | (apply L5.store0 [false,false] [true,false] rfl (by kernel_rfl) (by kernel_rfl); focus (intro w1 hS; have f1 := own_frozen hS.2 (k * 3 + 1); have e1 := own_cell hS.2 (k * 3 + 1) _ q1; (try simp only [poCells] at e1); have hst := accS1 hS (by omega); go_simp; first | exact rfl | exact ⟨rfl, hst⟩)) | (apply L5.store0 [true,false] [true,true] rfl (by kernel_rfl) (by kernel_rfl); focus (intro w1 hS; have f2 := own_frozen hS.2 (k * 3 + 2); have e2 := own_cell hS.2 (k * 3 + 2) _ q2'; (try simp only [poCells] at e2); have hst := accS2 hS (by rw [List.length_set]; omega); go_simp; first | exact rfl | exact ⟨rfl, hst⟩))); try simp only [Act.put, List.setIfInBounds_toArray, List.set_cons_zero, List.set_cons_succ])
      refine L5.nil0 ?_
      intro _ w6 hS6
      have hown : w6.ownsRow w.heap.size 33 3 (.slice (some ⟨g, 0, none⟩) l.length cap) l.length (posCells (bumpP l k m)) := by rw [HXS.out]; exact hS6.2
      have hX6 := (((HX5.out.keep (fun b => b = g)).trans' hS6.1 (fun _ _ h => h)).ext (fun b hb e => by have := own_base_le HO5.out (g := g) rfl; omega))
      have HF := Lib.hid hown
      have HX6 := Lib.hid hX6
      clear hS6 hown hX6
      go_wp2
      go_ret
      exact ⟨k, _, rfl, HSP.out, by rw [HW.out]; exact HF.out, HX6.out⟩
  · go_wp2_with (first
      | (go_at_call 22; (with_reducible refine (may_c _ _).mono ?_); rintro e w1 ⟨rfl, rfl⟩; rw [HH.out])
      | (go_at_call 7; (with_reducible refine (sane_s v l _ (HV.out.ext ((Ext.refl w).alloc _)) (by omega)).mono ?_); rintro e w1 ⟨rfl, h1⟩; rw [HS.out]; have c_h1 := h1.cell; have f_h1 := h1.frozen; have z_h1_0 := h1.lt (b := w.heap.size) (by first | omega | (simp <;> omega)); have HX1 := Lib.hid (((Ext.refl w).alloc (.cells #[(.int .i64 (2)), (.int .i64 (why)), (.int .i64 (hop)), (.int .i64 (cls)), .slice oa m oc] 30)).trans h1); have HB1 := Lib.hid (HB.out.ext h1); clear h1)
      | (go_at_call 23; (with_reducible refine (pclone_s v l _ (HV.out.ext HX1.out) (by omega)).mono ?_); rintro e w2 ⟨v2, rfl, ho, h2, h2n⟩; have z1 := HX1.out.size; have HX2 := Lib.hid (HX1.out.trans h2); have HB2 := Lib.hid (HB1.out.ext h2); have HO2 := Lib.hid (own_base ho z1); have HN2 := Lib.hid h2n; clear h2 ho h2n))
    refine (bs_s v2 l 0 _ (slp_of HO2.out HN2.out) (by omega) HI.out).mono ?_
    rintro e w3 ⟨k, rfl, hsp, h3⟩
    have HX3 := Lib.hid (HX2.out.trans h3)
    have HB3 := Lib.hid (HB2.out.ext h3)
    have HO3 := Lib.hid (own_ext HO2.out h3)
    have HSP := Lib.hid hsp
    have hk := hsp.1
    clear h3 hsp HX1 HX2 HB1 HB2 HO2
    cases hb : hasHop l 0 k
    · have HHB := Lib.hid hb
      clear hb
      go_wp2_with (first
        | (go_at_call 27; (with_reducible refine (pinsert_c w.heap.size w3.heap.size k v2 l ⟨0, 0, 0⟩ _ (own_ext HO3.out ((Ext.refl w3).alloc (.cells #[(.int .i64 (0)), .int .u64 0, .int .u64 0] 33))) (Blk.new w3 _ _) (by have := HX3.out.size; simp; omega) (fun e => by have := own_lt HO3.out e; omega) hk (by omega)).mono ?_); rintro e w5 ⟨v3, rfl, ho, hK⟩; have hX5 := (((HX3.out.alloc (.cells #[(.int .i64 (0)), .int .u64 0, .int .u64 0] 33)).keep (fun k => v2.ownBlock = some k)).trans' hK (fun _ _ h => h)).ext (fun b hb e => by have := own_base_le HO3.out e; omega); rcases own_form ho with ⟨_, hn⟩ | ⟨g, cap, rfl, g1, g2, g3⟩)
        | (exfalso; omega))
      have hlx : (insP l k ⟨0, 0, 0⟩)[k]? = some ⟨0, 0, 0⟩ := insP_at l k _ hk
      have hxs := bump_cells _ k _ m hlx
      have HO5 := Lib.hid (own_base ho (base' := w.heap.size) (Nat.le_refl _))
      have HX5 := Lib.hid hX5
      have HB5 := Lib.hid (HB3.out.ext ((Ext.refl w3).alloc (.cells #[(.int .i64 (0)), .int .u64 0, .int .u64 0] 33)) |>.keep hK (fun e => own_blk_ne HO3.out HB3.out (by decide) e))
      have hgb : w.heap.size ≠ g := fun e => own_blk_ne HO5.out HB5.out (by decide) (by rw [e]; rfl)
      have hbl := HB5.out.lt
      have b4 : w5.cell? ⟨w.heap.size, 4, none⟩ = some (.slice oa m oc) := HB5.out.cell 4
      have HW := Lib.hid (show withP l 0 k = insP l k ⟨0, 0, 0⟩ from by unfold withP; rw [HHB.out]; rfl)
      have HL := Lib.hid (insP_length l k ⟨0, 0, 0⟩ hk)
      generalize insP l k ⟨0, 0, 0⟩ = L at hxs hlx HO5 HW HL
      have HXS := Lib.hid hxs
      have q0 := posCells_get L k 0 _ hlx (by omega)
      have q1 := posCells_get L k 1 _ hlx (by omega)
      have q2 := posCells_get L k 2 _ hlx (by omega)
      have hpl : (posCells L).length = (l.length + 1) * 3 := HO5.out.1
      have q2' : ((posCells L).set (k * 3 + 1) (.int .u64 (satAdd 0 1)))[k * 3 + 2]? = (poCells ⟨0, 0, 0⟩)[2]? := (List.getElem?_set_ne (by omega)).trans q2
      clear hxs ho hX5 hK
      refine L5.region0 [18, 21] (accS w5 w.heap.size g cap (l.length + 1) (posCells L) ((posCells L).set (k * 3 + 1) (.int .u64 (satAdd 0 1))) (((posCells L).set (k * 3 + 1) (.int .u64 (satAdd 0 1))).set (k * 3 + 2) (.int .u64 (satAdd 0 m)))) rfl (by kernel_rfl) ⟨(Keep.refl _ w5).drew, own_ext HO5.out ((Ext.refl w5).drew)⟩ ?_
      repeat ((first | (refine L5.skip0 rfl rfl ?_) | (apply L5.pure0 rfl rfl; focus (intro w1; go_simp; first | exact rfl | exact ⟨rfl, rfl⟩)) | (apply L5.at0 [false,false] rfl rfl (by kernel_rfl); focus (intro w1 hS; have e1 := own_cell hS.2 (k * 3 + 1) _ q1; have e2 := own_cell hS.2 (k * 3 + 2) _ q2; have e3 := (hS.1.cell (p := ⟨w.heap.size, 4, none⟩) hbl hgb).trans b4; (try simp only [poCells] at e1 e2); go_simp; first | exact rfl | exact ⟨rfl, hS⟩)) | ((apply L5.at0 [false, false] rfl rfl (by kernel_rfl); focus (intro w1 hS; go_simp; with_reducible refine (fwadd_c _ _ w1 ?_ ?_).mono ?_; all_goals (first | omega | (rintro e w2 ⟨rfl, rfl⟩; exact ⟨_, rfl, rfl, hS⟩))))) | (apply L5.store0 [false,false] [true,false] rfl (by kernel_rfl) (by kernel_rfl); focus (intro w1 hS; have f1 := own_frozen hS.2 (k * 3 + 1); have e1 := own_cell hS.2 (k * 3 + 1) _ q1; (try simp only [poCells] at e1); have hst := accS1 hS (by omega); go_simp; first | exact rfl | exact ⟨rfl, hst⟩)) | (apply L5.store0 [true,false] [true,true] rfl (by kernel_rfl) (by kernel_rfl); focus (intro w1 hS; have f2 := own_frozen hS.2 (k * 3 + 2); have e2 := own_cell hS.2 (k * 3 + 2) _ q2'; (try simp only [poCells] at e2); have hst := accS2 hS (by rw [List.length_set]; omega); go_simp; first | exact rfl | exact ⟨rfl, hst⟩))); try simp only [Act.put, List.setIfInBounds_toArray, List.set_cons_zero, List.set_cons_succ])
      refine L5.nil0 ?_
      intro _ w6 hS6
      have hown : w6.ownsRow w.heap.size 33 3 (.slice (some ⟨g, 0, none⟩) (l.length + 1) cap) (l.length + 1) (posCells (bumpP L k m)) := by rw [HXS.out]; exact hS6.2
      have hX6 := (((HX5.out.keep (fun b => b = g)).trans' hS6.1 (fun _ _ h => h)).ext (fun b hb e => by have := own_base_le HO5.out (g := g) rfl; omega))
      have HF := Lib.hid hown
      have HX6 := Lib.hid hX6
      clear hS6 hown hX6
      go_wp2
      go_ret
      exact ⟨k, _, rfl, HSP.out, by rw [HW.out, HL.out]; exact HF.out, HX6.out⟩
    · obtain ⟨x, hlx, hxh⟩ := hasHop_get hb
      have HHB := Lib.hid hb
      clear hb
      obtain ⟨hxp, hxb⟩ := HNN.out x (List.mem_of_getElem? hlx)
      rcases own_form HO3.out with ⟨_, hn⟩ | ⟨g, cap, rfl, g1, g2, g3⟩
      · have := (List.getElem?_eq_some_iff.1 hlx).1
        exfalso; omega
      have hkl : k < l.length := (List.getElem?_eq_some_iff.1 hlx).1
      have hxs := bump_cells _ k _ m hlx
      have HW := Lib.hid (show withP l 0 k = l from by unfold withP; rw [HHB.out]; rfl)
      have hgb : w.heap.size ≠ g := fun e => own_blk_ne HO3.out HB3.out (by decide) (by rw [e]; rfl)
      have hbl := HB3.out.lt
      have b4 : w3.cell? ⟨w.heap.size, 4, none⟩ = some (.slice oa m oc) := HB3.out.cell 4
      have HXS := Lib.hid hxs
      have HO5 := HO3
      have HX5 := HX3
      have q0 := posCells_get l k 0 _ hlx (by omega)
      have q1 := posCells_get l k 1 _ hlx (by omega)
      have q2 := posCells_get l k 2 _ hlx (by omega)
      have hpl : (posCells l).length = l.length * 3 := posCells_length l
      have q2' : ((posCells l).set (k * 3 + 1) (.int .u64 (satAdd x.pk 1)))[k * 3 + 2]? = (poCells x)[2]? := (List.getElem?_set_ne (by omega)).trans q2
      have HLX := Lib.hid hlx
      clear hxs hlx hxh
      go_wp2_with fail
      refine L5.region0 [18, 21] (accS w3 w.heap.size g cap l.length (posCells l) ((posCells l).set (k * 3 + 1) (.int .u64 (satAdd x.pk 1))) (((posCells l).set (k * 3 + 1) (.int .u64 (satAdd x.pk 1))).set (k * 3 + 2) (.int .u64 (satAdd x.byt m)))) rfl (by kernel_rfl) ⟨(Keep.refl _ w3).drew, own_ext HO5.out ((Ext.refl w3).drew)⟩ ?_
      repeat ((first | (refine L5.skip0 rfl rfl ?_) | (apply L5.pure0 rfl rfl; focus (intro w1; go_simp; first | exact rfl | exact ⟨rfl, rfl⟩)) | (apply L5.at0 [false,false] rfl rfl (by kernel_rfl); focus (intro w1 hS; have e1 := own_cell hS.2 (k * 3 + 1) _ q1; have e2 := own_cell hS.2 (k * 3 + 2) _ q2; have e3 := (hS.1.cell (p := ⟨w.heap.size, 4, none⟩) hbl hgb).trans b4; (try simp only [poCells] at e1 e2); go_simp; first | exact rfl | exact ⟨rfl, hS⟩)) | ((apply L5.at0 [false, false] rfl rfl (by kernel_rfl); focus (intro w1 hS; go_simp; with_reducible refine (fwadd_c _ _ w1 ?_ ?_).mono ?_; all_goals (first | omega | (rintro e w2 ⟨rfl, rfl⟩; exact ⟨_, rfl, rfl, hS⟩))))) | (apply L5.store0 [false,false] [true,false] rfl (by kernel_rfl) (by kernel_rfl); focus (intro w1 hS; have f1 := own_frozen hS.2 (k * 3 + 1); have e1 := own_cell hS.2 (k * 3 + 1) _ q1; (try simp only [poCells] at e1); have hst := accS1 hS (by omega); go_simp; first | exact rfl | exact ⟨rfl, hst⟩)) | (apply L5.store0 [true,false] [true,true] rfl (by kernel_rfl) (by kernel_rfl); focus (intro w1 hS; have f2 := own_frozen hS.2 (k * 3 + 2); have e2 := own_cell hS.2 (k * 3 + 2) _ q2'; (try simp only [poCells] at e2); have hst := accS2 hS (by rw [List.length_set]; omega); go_simp; first | exact rfl | exact ⟨rfl, hst⟩))); try simp only [Act.put, List.setIfInBounds_toArray, List.set_cons_zero, List.set_cons_succ])
      refine L5.nil0 ?_
      intro _ w6 hS6
      have hown : w6.ownsRow w.heap.size 33 3 (.slice (some ⟨g, 0, none⟩) l.length cap) l.length (posCells (bumpP l k m)) := by rw [HXS.out]; exact hS6.2
      have hX6 := (((HX5.out.keep (fun b => b = g)).trans' hS6.1 (fun _ _ h => h)).ext (fun b hb e => by have := own_base_le HO5.out (g := g) rfl; omega))
      have HF := Lib.hid hown
      have HX6 := Lib.hid hX6
      clear hS6 hown hX6
      go_wp2
      go_ret
      exact ⟨k, _, rfl, HSP.out, by rw [HW.out]; exact HF.out, HX6.out⟩
end Go.Proofs.YtcipokldcjappaaGreat

namespace Go.Proofs.YtcipokldcjappaaGreat

theorem and65535 (n : Int) : bits .and .i64 n 65535 = n % 65536 := by
  have h127 : (BitVec.ofInt 64 65535).toNat = 2 ^ 16 - 1 := by decide
  have key : (BitVec.ofInt 64 n &&& BitVec.ofInt 64 65535).toNat = (n % ((2 ^ 64 : Nat) : Int)).toNat % 2 ^ 16 := by
    rw [BitVec.toNat_and, BitVec.toNat_ofInt, h127, Nat.and_two_pow_sub_one_eq_mod]
  show IntKind.i64.wrap ((BitVec.ofInt 64 n &&& BitVec.ofInt 64 65535).toNat : Nat) = n % 65536
  rw [key, IntKind.wrap_i64]
  omega
theorem and1 (n : Int) : bits .and .i64 n 1 = n % 2 := by
  have h127 : (BitVec.ofInt 64 1).toNat = 2 ^ 1 - 1 := by decide
  have key : (BitVec.ofInt 64 n &&& BitVec.ofInt 64 1).toNat = (n % ((2 ^ 64 : Nat) : Int)).toNat % 2 ^ 1 := by
    rw [BitVec.toNat_and, BitVec.toNat_ofInt, h127, Nat.and_two_pow_sub_one_eq_mod]
  show IntKind.i64.wrap ((BitVec.ofInt 64 n &&& BitVec.ofInt 64 1).toNat : Nat) = n % 2
  rw [key, IntKind.wrap_i64]
  omega

/-- the last port of a hop among the first j; else one without packets -/
def wasN (l : List Po) (h : Int) : Nat → Po
  | 0 => ⟨h, 0, 0⟩
  | j + 1 => match l[j]? with
    | some x => if x.hop = h then x else wasN l h j
    | none => wasN l h j
theorem wasN_none {l : List Po} {h : Int} (hn : ∀ x ∈ l, x.hop ≠ h) : ∀ n, wasN l h n = ⟨h, 0, 0⟩
  | 0 => rfl
  | n + 1 => by
    unfold wasN
    split
    · rename_i x hx
      rw [if_neg (hn x (List.mem_of_getElem? hx)), wasN_none hn n]
    · exact wasN_none hn n
theorem wasN_some {l : List Po} {h : Int} (hi : Incr l) {k : Nat} {x : Po} (hk : l[k]? = some x) (hx : x.hop = h) : ∀ n, k < n → wasN l h n = x
  | 0, hn => by omega
  | n + 1, hn => by
    unfold wasN
    by_cases hkn : k = n
    · subst hkn
      rw [hk]
      simp only
      rw [if_pos hx]
    · have ih := wasN_some hi hk hx n (by omega)
      split
      · rename_i y hy
        rw [if_neg (fun e => by have := hi k n x y hk hy (by omega); omega), ih]
      · exact ih

theorem Incr.inj {l : List Po} (hi : Incr l) {i j : Nat} {x y : Po} (hx : l[i]? = some x) (hy : l[j]? = some y) (h : x.hop = y.hop) : i = j := by
  rcases Nat.lt_trichotomy i j with h1 | h1 | h1
  · have := hi i j x y hx hy h1; omega
  · exact h1
  · have := hi j i y x hy hx h1; omega

/-- the ports behind a verdict, one by one -/
theorem bump_get {l : List Po} {t : Int} {k : Nat} {m : Int} (hi : Incr l) (hs : Spot l t k) (i : Nat) (y : Po) (hy : (bumpP (withP l t k) k m)[i]? = some y) :
    (y.hop ≠ t ∧ y = wasN l y.hop l.length) ∨ (y.hop = t ∧ i = k ∧ y.pk = satAdd (wasN l t l.length).pk 1 ∧ y.byt = satAdd (wasN l t l.length).byt m) := by
  cases hh : hasHop l t k with
  | true =>
    have hw : withP l t k = l := by unfold withP; rw [hh]; rfl
    obtain ⟨x, hx, hxt⟩ : ∃ x, l[k]? = some x ∧ x.hop = t := by
      unfold hasHop at hh
      split at hh
      · rename_i x hx; exact ⟨x, hx, by simpa using hh⟩
      · cases hh
    rw [hw] at hy
    have hb : bumpP l k m = l.set k ⟨x.hop, satAdd x.pk 1, satAdd x.byt m⟩ := by unfold bumpP; rw [hx]
    rw [hb] at hy
    have hkl : k < l.length := (List.getElem?_eq_some_iff.1 hx).1
    by_cases hik : i = k
    · subst hik
      rw [List.getElem?_set_self hkl] at hy
      obtain rfl := Option.some.inj hy
      refine .inr ⟨hxt, rfl, ?_, ?_⟩ <;> rw [wasN_some hi hx hxt _ hkl]
    · rw [List.getElem?_set_ne (Ne.symm hik)] at hy
      have hil : i < l.length := (List.getElem?_eq_some_iff.1 hy).1
      exact .inl ⟨fun e => hik (hi.inj hy hx (e.trans hxt.symm)), (wasN_some hi hy rfl _ hil).symm⟩
  | false =>
    have hw : withP l t k = insP l k ⟨t, 0, 0⟩ := by unfold withP; rw [hh]; rfl
    have hno : ∀ x ∈ l, x.hop ≠ t := by
      intro x hx e
      obtain ⟨j, hj⟩ := List.getElem?_of_mem hx
      rcases Nat.lt_trichotomy j k with h1 | h1 | h1
      · have := hs.2.1 j x hj h1; omega
      · subst h1
        unfold hasHop at hh
        rw [hj] at hh
        simp [e] at hh
      · obtain ⟨z, hz⟩ : ∃ z, l[k]? = some z := ⟨_, List.getElem?_eq_getElem (by have := (List.getElem?_eq_some_iff.1 hj).1; omega)⟩
        have h2 := hs.2.2 k z hz (Nat.le_refl k)
        have h3 := hi k j z x hz hj h1
        omega
    rw [hw] at hy
    have hkl := hs.1
    have hat : (insP l k ⟨t, 0, 0⟩)[k]? = some ⟨t, 0, 0⟩ := by
      unfold insP
      rw [List.getElem?_append_right (by rw [List.length_take]; omega), List.length_take, show k - min k l.length = 0 by omega]
      rfl
    have hb : bumpP (insP l k ⟨t, 0, 0⟩) k m = (insP l k ⟨t, 0, 0⟩).set k ⟨t, satAdd 0 1, satAdd 0 m⟩ := by unfold bumpP; rw [hat]
    rw [hb] at hy
    have hlen : k < (insP l k ⟨t, 0, 0⟩).length := (List.getElem?_eq_some_iff.1 hat).1
    by_cases hik : i = k
    · subst hik
      rw [List.getElem?_set_self hlen] at hy
      obtain rfl := Option.some.inj hy
      refine .inr ⟨rfl, rfl, ?_, ?_⟩ <;> rw [wasN_none hno]
    · rw [List.getElem?_set_ne (Ne.symm hik)] at hy
      have hmem : y ∈ l := by
        unfold insP at hy
        by_cases h1 : i < k
        · rw [List.getElem?_append_left (by rw [List.length_take]; omega), List.getElem?_take, if_pos h1] at hy
          exact List.mem_of_getElem? hy
        · rw [List.getElem?_append_right (by rw [List.length_take]; omega)] at hy
          obtain ⟨d, hd⟩ : ∃ d, i - (l.take k).length = d + 1 := ⟨i - (l.take k).length - 1, by rw [List.length_take]; omega⟩
          rw [hd, List.getElem?_cons_succ] at hy
          exact List.mem_of_mem_drop (List.mem_of_getElem? hy)
      obtain ⟨j, hj⟩ := List.getElem?_of_mem hmem
      exact .inl ⟨hno y hmem, (wasN_some hi hj rfl _ (List.getElem?_eq_some_iff.1 hj).1).symm⟩

theorem withP_at {l : List Po} {t : Int} {k : Nat} (hs : Spot l t k) : ∃ x, (withP l t k)[k]? = some x ∧ x.hop = t := by
  cases hh : hasHop l t k with
  | true =>
    unfold withP
    rw [hh]
    unfold hasHop at hh
    split at hh
    · rename_i x hx; exact ⟨x, hx, by simpa using hh⟩
    · cases hh
  | false =>
    unfold withP
    rw [hh]
    refine ⟨⟨t, 0, 0⟩, ?_, rfl⟩
    have := hs.1
    simp only [Bool.false_eq_true, if_false]
    unfold insP
    rw [List.getElem?_append_right (by rw [List.length_take]; omega), List.length_take, show k - min k l.length = 0 by omega]
    rfl
theorem withP_length {l : List Po} {t : Int} {k : Nat} (hs : Spot l t k) : (withP l t k).length = l.length ∨ (withP l t k).length = l.length + 1 := by
  unfold withP
  split
  · exact .inl rfl
  · exact .inr (insP_length _ _ _ hs.1)
theorem bump_length (l : List Po) (k : Nat) (m : Int) : (bumpP l k m).length = l.length := by
  unfold bumpP
  split
  · simp
  · rfl
/-- with the port of a hop, ports still go up -/
theorem withP_incr {l : List Po} {t : Int} {k : Nat} (hi : Incr l) (hs : Spot l t k) : Incr (withP l t k) := by
  cases hh : hasHop l t k with
  | true => unfold withP; rw [hh]; exact hi
  | false =>
    have hno : ∀ j x, l[j]? = some x → k ≤ j → t < x.hop := by
      intro j x hj hkj
      have h1 := hs.2.2 j x hj hkj
      rcases Nat.lt_or_ge k j with h2 | h2
      · obtain ⟨z, hz⟩ : ∃ z, l[k]? = some z := ⟨_, List.getElem?_eq_getElem (by have := (List.getElem?_eq_some_iff.1 hj).1; omega)⟩
        have h2 := hs.2.2 k z hz (Nat.le_refl k)
        have h3 := hi k j z x hz hj (by omega)
        omega
      · have : j = k := by omega
        subst this
        unfold hasHop at hh
        rw [hj] at hh
        have : x.hop ≠ t := by simpa using hh
        omega
    unfold withP
    rw [hh]
    simp only [Bool.false_eq_true, if_false]
    have hkl := hs.1
    have get : ∀ i x, (insP l k ⟨t, 0, 0⟩)[i]? = some x → (i < k ∧ l[i]? = some x) ∨ (i = k ∧ x = ⟨t, 0, 0⟩) ∨ (k < i ∧ l[i - 1]? = some x) := by
      intro i x hx
      unfold insP at hx
      by_cases h1 : i < k
      · rw [List.getElem?_append_left (by rw [List.length_take]; omega), List.getElem?_take, if_pos h1] at hx
        exact .inl ⟨h1, hx⟩
      · rw [List.getElem?_append_right (by rw [List.length_take]; omega), List.length_take, show min k l.length = k by omega] at hx
        by_cases h2 : i = k
        · subst h2
          rw [Nat.sub_self, List.getElem?_cons_zero] at hx
          exact .inr (.inl ⟨rfl, (Option.some.inj hx).symm⟩)
        · obtain ⟨d, hd⟩ : ∃ d, i - k = d + 1 := ⟨i - k - 1, by omega⟩
          rw [hd, List.getElem?_cons_succ, List.getElem?_drop] at hx
          exact .inr (.inr ⟨by omega, by rw [show i - 1 = k + d by omega]; exact hx⟩)
    intro a b x y hx hy hab
    rcases get a x hx with ⟨h1, h2⟩ | ⟨h1, h2⟩ | ⟨h1, h2⟩ <;> rcases get b y hy with ⟨h3, h4⟩ | ⟨h3, h4⟩ | ⟨h3, h4⟩
    · exact hi a b x y h2 h4 hab
    · rw [h4]; exact hs.2.1 a x h2 h1
    · exact hi a (b - 1) x y h2 h4 (by omega)
    · omega
    · omega
    · rw [h2]; exact hno _ y h4 (by omega)
    · omega
    · omega
    · exact hi (a - 1) (b - 1) x y h2 h4 (by omega)
theorem bump_hop (l : List Po) (k : Nat) (m : Int) (i : Nat) (y : Po) (hy : (bumpP l k m)[i]? = some y) : ∃ x, l[i]? = some x ∧ y.hop = x.hop := by
  unfold bumpP at hy
  split at hy
  · rename_i x hx
    by_cases hik : i = k
    · subst hik
      rw [List.getElem?_set_self (List.getElem?_eq_some_iff.1 hx).1] at hy
      exact ⟨x, hx, by rw [← Option.some.inj hy]⟩
    · rw [List.getElem?_set_ne (Ne.symm hik)] at hy
      exact ⟨y, hy, rfl⟩
  · exact ⟨y, hy, rfl⟩
theorem bump_incr {l : List Po} (hi : Incr l) (k : Nat) (m : Int) : Incr (bumpP l k m) := by
  intro a b x y hx hy hab
  obtain ⟨x', hx', e1⟩ := bump_hop l k m a x hx
  obtain ⟨y', hy', e2⟩ := bump_hop l k m b y hy
  rw [e1, e2]
  exact hi a b x' y' hx' hy' hab
theorem withP_mem {l : List Po} {t : Int} {k : Nat} (x : Po) (hx : x ∈ withP l t k) : x ∈ l ∨ x.hop = t := by
  unfold withP at hx
  split at hx
  · exact .inl hx
  · unfold insP at hx
    rcases List.mem_append.1 hx with h | h
    · exact .inl (List.mem_of_mem_take h)
    · rcases List.mem_cons.1 h with h | h
      · exact .inr (by rw [h])
      · exact .inl (List.mem_of_mem_drop h)
/-- ports that may be stay so -/
theorem bump_sane {l : List Po} {t : Int} {k : Nat} {m : Int} (h : saneFrom (-1) l = true) (hs : Spot l t k) (ht : mayB t = true) : saneFrom (-1) (bumpP (withP l t k) k m) = true := by
  have hi := saneFrom_incr h
  have hm : ∀ x ∈ bumpP (withP l t k) k m, mayB x.hop = true := by
    intro x hx
    obtain ⟨i, hx⟩ := List.getElem?_of_mem hx
    obtain ⟨y, hy, e⟩ := bump_hop _ _ _ i x hx
    rw [e]
    rcases withP_mem y (List.mem_of_getElem? hy) with h1 | h1
    · exact saneFrom_may h y h1
    · rw [h1]; exact ht
  refine saneFrom_of (bump_incr (withP_incr hi hs) k m) hm fun x hx => ?_
  have := hm x hx
  unfold mayB at this
  simp at this
  omega
end Go.Proofs.YtcipokldcjappaaGreat

namespace Go.Proofs.YtcipokldcjappaaGreat
open Go.RowKit

def b2i (b : Bool) : Int := if b then 1 else 0
theorem b2i_range (b : Bool) : 0 ≤ b2i b ∧ b2i b ≤ 1 := by cases b <;> decide
theorem b2i_inj (a b : Bool) : b2i a = b2i b ↔ a = b := by cases a <;> cases b <;> decide

theorem div_pow (x : BitVec 64) (k : Nat) : (x.toNat : Int) / 2 ^ k = ((x.toNat >>> k : Nat) : Int) := by
  rw [Nat.shiftRight_eq_div_pow, Int.natCast_ediv, Int.natCast_pow]; rfl

theorem shr_and_one (x : BitVec 64) (i : Int) (h0 : 0 ≤ i) (h1 : i < 64) : bits .and .u64 ((x.toNat : Int) / 2 ^ (63 - i).toNat) 1 = b2i (x.getMsbD i.toNat) := by
  rw [div_pow]
  have hx := x.isLt
  have hlt : x.toNat >>> (63 - i).toNat < 18446744073709551616 := by
    rw [Nat.shiftRight_eq_div_pow]; exact Nat.lt_of_le_of_lt (Nat.div_le_self _ _) hx
  have := u64_and_nat (x.toNat >>> (63 - i).toNat) 1 hlt (by omega)
  rw [show ((1 : Nat) : Int) = 1 from rfl] at this
  rw [this, Nat.and_one_is_mod]
  have hk : (63 - i).toNat = 64 - 1 - i.toNat := by omega
  have hi : i.toNat < 64 := by omega
  rw [BitVec.getMsbD_eq_getLsbD, hk]
  simp only [hi, decide_true, Bool.true_and]
  unfold BitVec.getLsbD Nat.testBit
  rw [Nat.one_and_eq_mod_two]
  unfold b2i
  rcases Nat.mod_two_eq_zero_or_one (x.toNat >>> (64 - 1 - i.toNat)) with h | h <;> simp [h]

theorem wrap_b2i (b : Bool) : wrap64 (b2i b) = b2i b := by have := b2i_range b; unfold wrap64; omega

end Go.Proofs.YtcipokldcjappaaGreat

namespace Go.Proofs.YtcipokldcjappaaGreat
open Go.RowKit

set_option maxHeartbeats 400000 in
theorem high_c (n : Int) (w : World) (h0 : 0 ≤ n) (h1 : n ≤ 64) :
    Calls Tryz.prog 127 #[(.int .i64 (n))] w fun e w' => e = .returned ((.int .u64 (BitVec.toNat (hiW n) : Int))) ∧ w = w' := by
  by_cases h : n = 0
  · subst h
    go_enter Tryz.func127, Tryz.ntmps127
    go_wp2
    go_ret
    exact ⟨rfl, rfl⟩
  · have hb : (n == 0) = false := by simp [h]
    go_enter Tryz.func127, Tryz.ntmps127
    go_wp2
    go_ret
    exact ⟨rfl, rfl⟩

def Wd (v6 : Bool) : Int := if v6 then 128 else 32

set_option maxHeartbeats 400000 in
theorem width_c (b : Bool) (w : World) :
    Calls Tryz.prog 72 #[.bool b] w fun e w' => e = .returned ((.int .i64 (Wd b))) ∧ w = w' := by
  cases b
  all_goals
    go_enter Tryz.func72, Tryz.ntmps72
    go_wp2
    go_ret
    exact ⟨rfl, rfl⟩


/-- the clamp of a digit's number into a word -/
def onesW (k a b : Int) : BitVec 64 := wAndN (hiW (max 0 (min (b - k) 64))) (hiW (max 0 (min (a - k) 64)))

set_option maxHeartbeats 1000000 in
theorem ones_c (a b : Int) (w : World) (ha : 0 ≤ a) (ha2 : a ≤ 128) (hb : 0 ≤ b) (hb2 : b ≤ 128) :
    Calls Tryz.prog 104 #[(.int .i64 (a)), (.int .i64 (b))] w fun e w' => e = .returned (.agg #[(.int .u64 (BitVec.toNat (onesW 0 a b) : Int)), (.int .u64 (BitVec.toNat (onesW 64 a b) : Int))]) ∧ Ext w w' := by
  go_enter Tryz.func104, Tryz.ntmps104
  go_wp2_with fail
  refine wp_loop_rounds 3 ?_
  rw [rounds_succ]
  go_wp2_with (go_at_call 127; refine (high_c _ _ (by omega) (by omega)).mono ?_; rintro e w1 ⟨rfl, rfl⟩)
  rw [rounds_succ]
  go_wp2_with (go_at_call 127; refine (high_c _ _ (by omega) (by omega)).mono ?_; rintro e w1 ⟨rfl, rfl⟩)
  rw [rounds_succ]
  go_wp2
  refine bodyPost_ret (v := .agg #[(.int .u64 (BitVec.toNat (onesW 0 a b) : Int)), (.int .u64 (BitVec.toNat (onesW 64 a b) : Int))]) (by simp [results, Tryz.results104, go_sem, onesW]) rfl ⟨rfl, ?_⟩
  exact ((Ext.refl w).alloc _).alloc _

/-- the words of an address: what is no digit of it is struck -/
def rdHi (a : Ad) : BitVec 64 := wAnd a.hi (onesW 0 0 (Wd a.v6))
def rdLo (a : Ad) : BitVec 64 := wAnd a.lo (onesW 64 0 (Wd a.v6))

@[go_sem] theorem idx0 (x y : Int) (w : World) : (Instr.index 93 (.agg #[.int .u64 x, .int .u64 y]) (.int .i64 0)).run Tryz.prog w = .ok (.int .u64 x) w := by kernel_rfl
@[go_sem] theorem idx1 (x y : Int) (w : World) : (Instr.index 93 (.agg #[.int .u64 x, .int .u64 y]) (.int .i64 1)).run Tryz.prog w = .ok (.int .u64 y) w := by kernel_rfl

theorem Wd_range (b : Bool) : 0 ≤ Wd b ∧ Wd b ≤ 128 := by cases b <;> decide

set_option maxRecDepth 100000 in
set_option maxHeartbeats 1000000 in
theorem read_c (hi lo : BitVec 64) (v : Bool) (w : World) :
    Calls Tryz.prog 71 #[.agg #[(.int .u64 (BitVec.toNat (hi) : Int)), (.int .u64 (BitVec.toNat (lo) : Int)), .bool v]] w fun e w' => e = .returned (.agg #[(.int .u64 (BitVec.toNat (rdHi ⟨hi, lo, v⟩) : Int)), (.int .u64 (BitVec.toNat (rdLo ⟨hi, lo, v⟩) : Int))]) ∧ Ext w w' := by
  have hw := Wd_range v
  go_enter Tryz.func71, Tryz.ntmps71
  go_wp2_with (first
    | (go_at_call 72; refine (width_c _ _).mono ?_; rintro e w1 ⟨rfl, rfl⟩)
    | (go_at_call 104; refine (ones_c 0 (Wd v) _ (by omega) (by omega) (by omega) (by omega)).mono ?_; rintro e w1 ⟨rfl, h1⟩; have c1 := h1.cell; have f1 := h1.frozen))
  refine wp_loop_rounds 3 ?_
  rw [rounds_succ]
  go_wp2
  rw [rounds_succ]
  go_wp2
  rw [rounds_succ]
  go_wp2
  refine bodyPost_ret (v := .agg #[(.int .u64 (BitVec.toNat (rdHi ⟨hi, lo, v⟩) : Int)), (.int .u64 (BitVec.toNat (rdLo ⟨hi, lo, v⟩) : Int))]) ?_ rfl ⟨rfl, ?_⟩
  · simp [results, Tryz.results71, go_sem, rdHi, rdLo, c1]
  · (repeat (first | with_reducible exact Ext.refl _ | with_reducible assumption | (with_reducible refine Ext.set ?_ (by simp <;> omega) _) | (with_reducible refine Ext.alloc ?_ _) | (with_reducible refine Ext.drew ?_) | (with_reducible refine Ext.trans ?_ (by assumption)) | exact Ext.refl _))

set_option maxRecDepth 100000 in
set_option maxHeartbeats 1000000 in
theorem of_c (hi lo : BitVec 64) (v : Bool) (w : World) :
    Calls Tryz.prog 33 #[.agg #[(.int .u64 (BitVec.toNat (hi) : Int)), (.int .u64 (BitVec.toNat (lo) : Int))], .bool v] w fun e w' => e = .returned (.agg #[(.int .u64 (BitVec.toNat (hi) : Int)), (.int .u64 (BitVec.toNat (lo) : Int)), .bool v]) ∧ Ext w w' := by
  go_enter Tryz.func33, Tryz.ntmps33
  go_wp2
  refine bodyPost_ret (v := .agg #[(.int .u64 (BitVec.toNat (hi) : Int)), (.int .u64 (BitVec.toNat (lo) : Int)), .bool v]) ?_ rfl ⟨rfl, ?_⟩
  · simp [results, Tryz.results33, go_sem]
  · (repeat (first | with_reducible exact Ext.refl _ | with_reducible assumption | (with_reducible refine Ext.set ?_ (by simp <;> omega) _) | (with_reducible refine Ext.alloc ?_ _) | (with_reducible refine Ext.drew ?_) | (with_reducible refine Ext.trans ?_ (by assumption)) | exact Ext.refl _))


def rd (a : Ad) : Ad := ⟨rdHi a, rdLo a, a.v6⟩
def saneA (a : Ad) : Bool := adEq (rd a) a

set_option maxRecDepth 100000 in
set_option maxHeartbeats 1000000 in
theorem sane_c (hi lo : BitVec 64) (v : Bool) (w : World) :
    Calls Tryz.prog 99 #[.agg #[(.int .u64 (BitVec.toNat (hi) : Int)), (.int .u64 (BitVec.toNat (lo) : Int)), .bool v]] w fun e w' => e = .returned (.bool (saneA ⟨hi, lo, v⟩)) ∧ Ext w w' := by
  go_enter Tryz.func99, Tryz.ntmps99
  go_wp2_with fail
  refine wp_region_ext 7 (by kernel_rfl) (by kernel_rfl) ?_
  dsimp only [List.take, List.drop]
  repeat (first | (apply hold_skip2 rfl; focus (first | (simp only [Act.put, List.setIfInBounds_toArray, List.set_cons_zero, List.set_cons_succ]; exact rfl) | (simp only [Act.put, List.setIfInBounds_toArray, List.set_cons_zero, List.set_cons_succ]) | exact rfl)) | (apply hold_cons2 rfl; (focus (intro w1 hS; have c1 := hS.cell; have f1 := hS.frozen; have z1 := hS.size; go_simp; first | exact rfl | exact ⟨rfl, hS⟩ | (go_at_call 71; refine (read_c _ _ _ _).mono ?_; rintro e w2 ⟨rfl, h2⟩; exact ⟨rfl, hS.trans h2⟩) | (go_at_call 33; refine (of_c _ _ _ _).mono ?_; rintro e w2 ⟨rfl, h2⟩; exact ⟨rfl, hS.trans h2⟩))); (focus (first | (simp only [Act.put, List.setIfInBounds_toArray, List.set_cons_zero, List.set_cons_succ]; exact rfl) | (simp only [Act.put, List.setIfInBounds_toArray, List.set_cons_zero, List.set_cons_succ]) | exact rfl))))
  refine hold_nil ?_
  rintro w1 hE
  have c_hE := hE.cell
  have f_hE := hE.frozen
  have z_hE_0 := hE.lt (b := w.heap.size) (by first | omega | (simp <;> omega))
  go_wp2
  go_ret
  refine ⟨rfl, ?_⟩
  (repeat (first | with_reducible exact Ext.refl _ | with_reducible assumption | (with_reducible refine Ext.set ?_ (by simp <;> omega) _) | (with_reducible refine Ext.alloc ?_ _) | (with_reducible refine Ext.drew ?_) | (with_reducible refine Ext.trans ?_ (by assumption)) | exact Ext.refl _))

set_option maxRecDepth 100000 in
set_option maxHeartbeats 1000000 in
theorem is_c (hi lo : BitVec 64) (v : Bool) (i : Int) (w : World) :
    Calls Tryz.prog 114 #[.agg #[(.int .u64 (BitVec.toNat (hi) : Int)), (.int .u64 (BitVec.toNat (lo) : Int)), .bool v], (.int .i64 (i))] w fun e w' => e = .returned (.bool (decide (0 ≤ i ∧ i < Wd v))) ∧ Ext w w' := by
  by_cases h : 0 ≤ i
  all_goals
    have hd := h
    go_enter Tryz.func114, Tryz.ntmps114
    go_wp2_with (go_at_call 72; refine (width_c _ _).mono ?_; rintro e w1 ⟨rfl, rfl⟩)
    go_ret
    refine ⟨by simp [h] <;> omega, ?_⟩
    (repeat (first | with_reducible exact Ext.refl _ | with_reducible assumption | (with_reducible refine Ext.set ?_ (by simp <;> omega) _) | (with_reducible refine Ext.alloc ?_ _) | (with_reducible refine Ext.drew ?_) | (with_reducible refine Ext.trans ?_ (by assumption)) | exact Ext.refl _))

/-- digit k of an address, the highest first -/
def dig (a : Ad) (k : Nat) : Bool := if k < 64 then (rdHi a).getMsbD k else (rdLo a).getMsbD (k - 64)
def bitOf (a : Ad) (i : Int) : Bool := decide (0 ≤ i ∧ i < Wd a.v6) && dig a i.toNat

set_option maxRecDepth 100000 in
set_option maxHeartbeats 1000000 in
theorem bit_lo (hi lo : BitVec 64) (v : Bool) (i : Int) (w : World) (h0 : 0 ≤ i) (h1 : i < 64) (h2 : i < Wd v) :
    Calls Tryz.prog 89 #[.agg #[(.int .u64 (BitVec.toNat (hi) : Int)), (.int .u64 (BitVec.toNat (lo) : Int)), .bool v], (.int .i64 (i))] w fun e w' => e = .returned ((.int .i64 (b2i (bitOf ⟨hi, lo, v⟩ i)))) ∧ Ext w w' := by
  have hd : decide (0 ≤ i ∧ i < Wd v) = true := by simp; omega
  have hfin : wrap64 (bits .and .u64 (((rdHi ⟨hi, lo, v⟩).toNat : Int) / 2 ^ (63 - i).toNat) 1) = b2i (bitOf ⟨hi, lo, v⟩ i) := by
    rw [shr_and_one _ i h0 h1, wrap_b2i, b2i_inj]; unfold bitOf dig; simp only [hd, Bool.true_and]; rw [if_pos (by omega)]
  have Hfin := Lib.hid hfin; clear hfin
  have hq : i / 64 = 0 := by omega
  have hr : i % 64 = i := by omega
  go_enter Tryz.func89, Tryz.ntmps89
  go_wp2_with (first
    | (go_at_call 114; refine (is_c _ _ _ _ _).mono ?_; rintro e w1 ⟨rfl, h1⟩; have c1 := h1.cell; have f1 := h1.frozen)
    | (go_at_call 71; refine (read_c _ _ _ _).mono ?_; rintro e w2 ⟨rfl, h2⟩; have c2 := h2.cell; have f2 := h2.frozen))
  go_ret
  refine ⟨?_, ?_⟩
  · rw [← Hfin.out]; rfl
  · (repeat (first | with_reducible exact Ext.refl _ | with_reducible assumption | (with_reducible refine Ext.set ?_ (by simp <;> omega) _) | (with_reducible refine Ext.alloc ?_ _) | (with_reducible refine Ext.drew ?_) | (with_reducible refine Ext.trans ?_ (by assumption)) | exact Ext.refl _))

set_option maxRecDepth 100000 in
set_option maxHeartbeats 1000000 in
theorem bit_hi (hi lo : BitVec 64) (v : Bool) (i : Int) (w : World) (h0 : 0 ≤ i) (h1 : 64 ≤ i) (h2 : i < Wd v) :
    Calls Tryz.prog 89 #[.agg #[(.int .u64 (BitVec.toNat (hi) : Int)), (.int .u64 (BitVec.toNat (lo) : Int)), .bool v], (.int .i64 (i))] w fun e w' => e = .returned ((.int .i64 (b2i (bitOf ⟨hi, lo, v⟩ i)))) ∧ Ext w w' := by
  have hd : decide (0 ≤ i ∧ i < Wd v) = true := by simp; omega
  have hfin : wrap64 (bits .and .u64 (((rdLo ⟨hi, lo, v⟩).toNat : Int) / 2 ^ (63 - (i - 64)).toNat) 1) = b2i (bitOf ⟨hi, lo, v⟩ i) := by
    have hW := (Wd_range v).2
    rw [shr_and_one _ (i - 64) (by omega) (by omega), wrap_b2i, b2i_inj]; unfold bitOf dig; simp only [hd, Bool.true_and]; rw [if_neg (by omega), show (i - 64).toNat = i.toNat - 64 by omega]
  have Hfin := Lib.hid hfin; clear hfin
  have hW := (Wd_range v).2
  have hq : i / 64 = 1 := by omega
  have hr : i % 64 = i - 64 := by omega
  have hn : 63 - (i - 64) ≤ 63 := by omega
  have hn0 : 0 ≤ 63 - (i - 64) := by omega
  clear hW
  go_enter Tryz.func89, Tryz.ntmps89
  go_wp2_with (first
    | (go_at_call 114; refine (is_c _ _ _ _ _).mono ?_; rintro e w1 ⟨rfl, h1⟩; have c1 := h1.cell; have f1 := h1.frozen)
    | (go_at_call 71; refine (read_c _ _ _ _).mono ?_; rintro e w2 ⟨rfl, h2⟩; have c2 := h2.cell; have f2 := h2.frozen))
  go_ret
  refine ⟨?_, ?_⟩
  · rw [← Hfin.out]; rfl
  · (repeat (first | with_reducible exact Ext.refl _ | with_reducible assumption | (with_reducible refine Ext.set ?_ (by simp <;> omega) _) | (with_reducible refine Ext.alloc ?_ _) | (with_reducible refine Ext.drew ?_) | (with_reducible refine Ext.trans ?_ (by assumption)) | exact Ext.refl _))

set_option maxRecDepth 100000 in
set_option maxHeartbeats 1000000 in
theorem bit_c (hi lo : BitVec 64) (v : Bool) (i : Int) (w : World) :
    Calls Tryz.prog 89 #[.agg #[(.int .u64 (BitVec.toNat (hi) : Int)), (.int .u64 (BitVec.toNat (lo) : Int)), .bool v], (.int .i64 (i))] w fun e w' => e = .returned ((.int .i64 (b2i (bitOf ⟨hi, lo, v⟩ i)))) ∧ Ext w w' := by
  by_cases h : 0 ≤ i ∧ i < Wd v
  · by_cases h1 : i < 64
    · exact bit_lo hi lo v i w h.1 h1 h.2
    · exact bit_hi hi lo v i w h.1 (by omega) h.2
  · have hd : decide (0 ≤ i ∧ i < Wd v) = false := by simpa using h
    have hb : bitOf ⟨hi, lo, v⟩ i = false := by unfold bitOf; simp only [hd, Bool.false_and]
    rw [hb]
    clear h hb
    go_enter Tryz.func89, Tryz.ntmps89
    go_wp2_with (first
      | (go_at_call 114; refine (is_c _ _ _ _ _).mono ?_; rintro e w1 ⟨rfl, h1⟩; have c1 := h1.cell; have f1 := h1.frozen))
    go_ret
    refine ⟨rfl, ?_⟩
    (repeat (first | with_reducible exact Ext.refl _ | with_reducible assumption | (with_reducible refine Ext.set ?_ (by simp <;> omega) _) | (with_reducible refine Ext.alloc ?_ _) | (with_reducible refine Ext.drew ?_) | (with_reducible refine Ext.trans ?_ (by assumption)) | exact Ext.refl _))

end Go.Proofs.YtcipokldcjappaaGreat

namespace Go.Proofs.YtcipokldcjappaaGreat
open Go.RowKit

def cut (v6 : Bool) (n : Int) : Int := max 0 (min n (Wd v6))
theorem cut_range (v : Bool) (n : Int) : 0 ≤ cut v n ∧ cut v n ≤ 128 := by have := Wd_range v; unfold cut; omega

set_option maxRecDepth 100000 in
set_option maxHeartbeats 1000000 in
theorem tail_c (hi lo : BitVec 64) (v : Bool) (n : Int) (w : World) :
    Calls Tryz.prog 133 #[.agg #[(.int .u64 (BitVec.toNat (hi) : Int)), (.int .u64 (BitVec.toNat (lo) : Int)), .bool v], (.int .i64 (n))] w fun e w' => e = .returned (.agg #[(.int .u64 (BitVec.toNat (onesW 0 (cut v n) (Wd v)) : Int)), (.int .u64 (BitVec.toNat (onesW 64 (cut v n) (Wd v)) : Int))]) ∧ Ext w w' := by
  have hw := Wd_range v
  have hc := cut_range v n
  go_enter Tryz.func133, Tryz.ntmps133
  go_wp2_with (first
    | (go_at_call 72; (with_reducible refine (width_c _ _).mono ?_); rintro e w1 ⟨rfl, rfl⟩)
    | (go_at_call 104; refine (ones_c (cut v n) (Wd v) _ hc.1 hc.2 hw.1 hw.2).mono ?_; rintro e w1 ⟨rfl, h1⟩; have c1 := h1.cell; have f1 := h1.frozen))
  refine bodyPost_ret (v := .agg #[(.int .u64 (BitVec.toNat (onesW 0 (cut v n) (Wd v)) : Int)), (.int .u64 (BitVec.toNat (onesW 64 (cut v n) (Wd v)) : Int))]) ?_ rfl ⟨rfl, ?_⟩
  · simp [results, Tryz.results133, go_sem, c1]
  · (repeat (first | with_reducible exact Ext.refl _ | with_reducible assumption | (with_reducible refine Ext.set ?_ (by simp <;> omega) _) | (with_reducible refine Ext.alloc ?_ _) | (with_reducible refine Ext.drew ?_) | (with_reducible refine Ext.trans ?_ (by assumption)) | exact Ext.refl _))

def maskA (a : Ad) (n : Int) : Ad := ⟨wAndN (rdHi a) (onesW 0 (cut a.v6 n) (Wd a.v6)), wAndN (rdLo a) (onesW 64 (cut a.v6 n) (Wd a.v6)), a.v6⟩

set_option maxRecDepth 100000 in
set_option maxHeartbeats 1000000 in
theorem mask_c (hi lo : BitVec 64) (v : Bool) (n : Int) (w : World) :
    Calls Tryz.prog 111 #[.agg #[(.int .u64 (BitVec.toNat (hi) : Int)), (.int .u64 (BitVec.toNat (lo) : Int)), .bool v], (.int .i64 (n))] w fun e w' => e = .returned ((.agg #[.int .u64 ((maskA ⟨hi, lo, v⟩ n).hi.toNat : Int), .int .u64 ((maskA ⟨hi, lo, v⟩ n).lo.toNat : Int), .bool (maskA ⟨hi, lo, v⟩ n).v6])) ∧ Ext w w' := by
  have hfin : maskA ⟨hi, lo, v⟩ n = ⟨wAndN (rdHi ⟨hi, lo, v⟩) (onesW 0 (cut v n) (Wd v)), wAndN (rdLo ⟨hi, lo, v⟩) (onesW 64 (cut v n) (Wd v)), v⟩ := rfl
  have Hfin := Lib.hid hfin; clear hfin
  go_enter Tryz.func111, Tryz.ntmps111
  go_wp2_with (first
    | (go_at_call 71; (with_reducible refine (read_c _ _ _ _).mono ?_); rintro e w1 ⟨rfl, h1⟩; have c_h1 := h1.cell; have f_h1 := h1.frozen; have z_h1_0 := h1.lt (b := w.heap.size) (by first | omega | (simp <;> omega)); have z_h1_1 := h1.lt (b := w.heap.size + 1) (by first | omega | (simp <;> omega)))
    | (go_at_call 133; (with_reducible refine (tail_c _ _ _ _ _).mono ?_); rintro e w2 ⟨rfl, h2⟩; have c_h2 := h2.cell; have f_h2 := h2.frozen; have z_h2_0 := h2.lt (b := w.heap.size) (by first | omega | (simp <;> omega)); have z_h2_1 := h2.lt (b := w.heap.size + 1) (by first | omega | (simp <;> omega))))
  generalize rdHi ⟨hi, lo, v⟩ = A at *
  generalize rdLo ⟨hi, lo, v⟩ = B at *
  generalize onesW 0 (cut v n) (Wd v) = C at *
  generalize onesW 64 (cut v n) (Wd v) = D at *
  refine wp_loop_rounds 3 ?_
  rw [rounds_succ]
  go_wp2
  rw [rounds_succ]
  go_wp2
  rw [rounds_succ]
  go_wp2_with (go_at_call 33; (with_reducible refine (of_c (wAndN A C) (wAndN B D) _ _).mono ?_); rintro e w3 ⟨rfl, h3⟩; have c_h3 := h3.cell; have f_h3 := h3.frozen; have z_h3_0 := h3.lt (b := w.heap.size) (by first | omega | (simp <;> omega)); have z_h3_1 := h3.lt (b := w.heap.size + 1) (by first | omega | (simp <;> omega)))
  rw [Hfin.out]
  refine bodyPost_ret (v := .agg #[(.int .u64 (BitVec.toNat (wAndN A C) : Int)), (.int .u64 (BitVec.toNat (wAndN B D) : Int)), .bool v]) ?_ rfl ⟨rfl, ?_⟩
  · simp [results, Tryz.results111, go_sem, *]
  · (repeat (first | with_reducible exact Ext.refl _ | with_reducible assumption | (with_reducible refine Ext.set ?_ (by simp <;> omega) _) | (with_reducible refine Ext.alloc ?_ _) | (with_reducible refine Ext.drew ?_) | (with_reducible refine Ext.trans ?_ (by assumption)) | exact Ext.refl _))

def oneW (k : Nat) : BitVec 64 := 1#64 <<< k
/-- the word with its digit i (0 to 63) set to b -/
def setW (x : BitVec 64) (i : Nat) (b : Bool) : BitVec 64 := if b then wOr (wAndN x (oneW (63 - i))) (oneW (63 - i)) else wAndN x (oneW (63 - i))
/-- an address with another digit: what Set does where there is such a digit, the new one's lowest bit given -/
def setD (a : Ad) (i : Nat) (b : Bool) : Ad := if i < 64 then ⟨setW (rdHi a) i b, rdLo a, a.v6⟩ else ⟨rdHi a, setW (rdLo a) (i - 64) b, a.v6⟩

theorem one_shl (i : Int) (h0 : 0 ≤ i) (h1 : i < 64) : IntKind.u64.wrap (2 ^ (63 - i).toNat) = ((oneW (63 - i.toNat)).toNat : Int) := by
  unfold oneW
  rw [← Int.one_mul (2 ^ (63 - i).toNat), IntKind.wrap_u64, BitVec.toNat_shiftLeft, Nat.shiftLeft_eq, show (63 - i).toNat = 63 - i.toNat by omega, Int.natCast_emod, Int.natCast_mul, Int.natCast_pow]
  rfl

set_option maxRecDepth 100000 in
set_option maxHeartbeats 1000000 in
theorem set_lo (hi lo : BitVec 64) (v : Bool) (i x : Int) (b : Bool) (w : World) (h0 : 0 ≤ i) (h1 : i < 64) (h2 : i < Wd v) (hx : bits .and .i64 x 1 = b2i b) :
    Calls Tryz.prog 137 #[.agg #[(.int .u64 (BitVec.toNat (hi) : Int)), (.int .u64 (BitVec.toNat (lo) : Int)), .bool v], (.int .i64 (i)), (.int .i64 (x))] w fun e w' => e = .returned ((.agg #[.int .u64 ((setD ⟨hi, lo, v⟩ i.toNat b).hi.toNat : Int), .int .u64 ((setD ⟨hi, lo, v⟩ i.toNat b).lo.toNat : Int), .bool (setD ⟨hi, lo, v⟩ i.toNat b).v6])) ∧ Ext w w' := by
  have hd : decide (0 ≤ i ∧ i < Wd v) = true := by simp; omega
  have hfin : setD ⟨hi, lo, v⟩ i.toNat b = ⟨setW (rdHi ⟨hi, lo, v⟩) i.toNat b, rdLo ⟨hi, lo, v⟩, v⟩ := by unfold setD; rw [if_pos (by omega)]
  have Hfin := Lib.hid hfin; clear hfin
  have hq : i / 64 = 0 := by omega
  have hr : i % 64 = i := by omega
  have hs : IntKind.u64.wrap (2 ^ (63 - i).toNat) = ((oneW (63 - i.toNat)).toNat : Int) := one_shl i h0 h1
  cases b
  all_goals
    simp only [b2i, Bool.false_eq_true, if_true, if_false] at hx
    go_enter Tryz.func137, Tryz.ntmps137
    go_wp2_with (first
      | (go_at_call 114; (with_reducible refine (is_c _ _ _ _ _).mono ?_); rintro e w1 ⟨rfl, h1⟩; have c_h1 := h1.cell; have f_h1 := h1.frozen; have z_h1_0 := h1.lt (b := w.heap.size) (by first | omega | (simp <;> omega)); have z_h1_1 := h1.lt (b := w.heap.size + 1) (by first | omega | (simp <;> omega)); have z_h1_9 := h1.lt (b := w2.heap.size) (by simp <;> omega))
      | (go_at_call 71; (with_reducible refine (read_c _ _ _ _).mono ?_); rintro e w2 ⟨rfl, h2⟩; have c_h2 := h2.cell; have f_h2 := h2.frozen; have z_h2_0 := h2.lt (b := w.heap.size) (by first | omega | (simp <;> omega)); have z_h2_1 := h2.lt (b := w.heap.size + 1) (by first | omega | (simp <;> omega)))
      | (go_at_call 33; (with_reducible refine (of_c _ _ _ _).mono ?_); rintro e w3 ⟨rfl, h3⟩; have c_h3 := h3.cell; have f_h3 := h3.frozen; have z_h3_0 := h3.lt (b := w.heap.size) (by first | omega | (simp <;> omega)); have z_h3_1 := h3.lt (b := w.heap.size + 1) (by first | omega | (simp <;> omega))))
    rw [Hfin.out]
    refine bodyPost_ret (v := _) ?_ rfl ⟨rfl, ?_⟩
    · simp [results, Tryz.results137, go_sem, setW, *]
    · (repeat (first | with_reducible exact Ext.refl _ | with_reducible assumption | (with_reducible refine Ext.set ?_ (by simp <;> omega) _) | (with_reducible refine Ext.alloc ?_ _) | (with_reducible refine Ext.drew ?_) | (with_reducible refine Ext.trans ?_ (by assumption)) | exact Ext.refl _))

theorem setD_hi (hi lo : BitVec 64) (v : Bool) (i : Int) (b : Bool) (h : 64 ≤ i) : setD ⟨hi, lo, v⟩ i.toNat b = ⟨rdHi ⟨hi, lo, v⟩, setW (rdLo ⟨hi, lo, v⟩) (i - 64).toNat b, v⟩ := by
  unfold setD; rw [if_neg (by omega), show (i - 64).toNat = i.toNat - 64 by omega]

set_option maxRecDepth 100000 in
set_option maxHeartbeats 1000000 in
theorem set_hi (hi lo : BitVec 64) (v : Bool) (i x : Int) (b : Bool) (w : World) (h0 : 0 ≤ i) (h1 : 64 ≤ i) (h2 : i < Wd v) (hx : bits .and .i64 x 1 = b2i b) :
    Calls Tryz.prog 137 #[.agg #[(.int .u64 (BitVec.toNat (hi) : Int)), (.int .u64 (BitVec.toNat (lo) : Int)), .bool v], (.int .i64 (i)), (.int .i64 (x))] w fun e w' => e = .returned ((.agg #[.int .u64 ((setD ⟨hi, lo, v⟩ i.toNat b).hi.toNat : Int), .int .u64 ((setD ⟨hi, lo, v⟩ i.toNat b).lo.toNat : Int), .bool (setD ⟨hi, lo, v⟩ i.toNat b).v6])) ∧ Ext w w' := by
  have hW := (Wd_range v).2
  have hd : decide (0 ≤ i ∧ i < Wd v) = true := by simp; omega
  have Hfin := Lib.hid (setD_hi hi lo v i b h1)
  have hq : i / 64 = 1 := by omega
  have hr : i % 64 = i - 64 := by omega
  have hs : IntKind.u64.wrap (2 ^ (63 - (i - 64)).toNat) = ((oneW (63 - (i - 64).toNat)).toNat : Int) := one_shl (i - 64) (by omega) (by omega)
  have hn : 63 - (i - 64) ≤ 63 := by omega
  have hn0 : 0 ≤ 63 - (i - 64) := by omega
  clear hW
  cases b
  all_goals
    simp only [b2i, Bool.false_eq_true, if_true, if_false] at hx
    go_enter Tryz.func137, Tryz.ntmps137
    go_wp2_with (first
      | (go_at_call 114; (with_reducible refine (is_c _ _ _ _ _).mono ?_); rintro e w1 ⟨rfl, h1⟩; have c_h1 := h1.cell; have f_h1 := h1.frozen; have z_h1_0 := h1.lt (b := w.heap.size) (by first | omega | (simp <;> omega)); have z_h1_1 := h1.lt (b := w.heap.size + 1) (by first | omega | (simp <;> omega)); have z_h1_9 := h1.lt (b := w2.heap.size) (by simp <;> omega))
      | (go_at_call 71; (with_reducible refine (read_c _ _ _ _).mono ?_); rintro e w2 ⟨rfl, h2⟩; have c_h2 := h2.cell; have f_h2 := h2.frozen; have z_h2_0 := h2.lt (b := w.heap.size) (by first | omega | (simp <;> omega)); have z_h2_1 := h2.lt (b := w.heap.size + 1) (by first | omega | (simp <;> omega)))
      | (go_at_call 33; (with_reducible refine (of_c _ _ _ _).mono ?_); rintro e w3 ⟨rfl, h3⟩; have c_h3 := h3.cell; have f_h3 := h3.frozen; have z_h3_0 := h3.lt (b := w.heap.size) (by first | omega | (simp <;> omega)); have z_h3_1 := h3.lt (b := w.heap.size + 1) (by first | omega | (simp <;> omega))))
    rw [Hfin.out]
    refine bodyPost_ret (v := _) ?_ rfl ⟨rfl, ?_⟩
    · simp [results, Tryz.results137, go_sem, setW, *]
    · (repeat (first | with_reducible exact Ext.refl _ | with_reducible assumption | (with_reducible refine Ext.set ?_ (by simp <;> omega) _) | (with_reducible refine Ext.alloc ?_ _) | (with_reducible refine Ext.drew ?_) | (with_reducible refine Ext.trans ?_ (by assumption)) | exact Ext.refl _))


end Go.Proofs.YtcipokldcjappaaGreat

namespace Go.Proofs.YtcipokldcjappaaGreat
open Go.RowKit

/-- the first digits of an address -/
def ofP (a : Ad) (n : Int) : Pf := ⟨maskA a (cut a.v6 n), cut a.v6 n⟩
def saneP (p : Pf) : Bool := pfEq p (ofP p.a p.n)
def containsP (p : Pf) (a : Ad) : Bool := saneP p && pfEq p (ofP a p.n)
def coversP (p q : Pf) : Bool := decide (p.n ≤ q.n) && (saneP q && containsP p q.a)

set_option maxRecDepth 100000 in
set_option maxHeartbeats 1000000 in
theorem ofP_c (hi lo : BitVec 64) (v : Bool) (n : Int) (w : World) :
    Calls Tryz.prog 84 #[.agg #[(.int .u64 (BitVec.toNat (hi) : Int)), (.int .u64 (BitVec.toNat (lo) : Int)), .bool v], (.int .i64 (n))] w fun e w' => e = .returned ((.agg #[.int .u64 ((ofP ⟨hi, lo, v⟩ n).a.hi.toNat : Int), .int .u64 ((ofP ⟨hi, lo, v⟩ n).a.lo.toNat : Int), .bool (ofP ⟨hi, lo, v⟩ n).a.v6, .int .i64 (ofP ⟨hi, lo, v⟩ n).n])) ∧ Ext w w' := by
  have hc : max 0 (min n (Wd v)) = cut v n := rfl
  go_enter Tryz.func84, Tryz.ntmps84
  go_wp2_with (first
    | (go_at_call 72; (with_reducible refine (width_c _ _).mono ?_); rintro e w1 ⟨rfl, rfl⟩)
    | (go_at_call 111; (with_reducible refine (mask_c _ _ _ _ _).mono ?_); rintro e w1 ⟨rfl, h1⟩; have c_h1 := h1.cell; have f_h1 := h1.frozen; have z_h1_0 := h1.lt (b := w.heap.size) (by first | omega | (simp <;> omega)); have z_h1_1 := h1.lt (b := w.heap.size + 1) (by first | omega | (simp <;> omega))))
  refine bodyPost_ret (v := (.agg #[.int .u64 ((ofP ⟨hi, lo, v⟩ n).a.hi.toNat : Int), .int .u64 ((ofP ⟨hi, lo, v⟩ n).a.lo.toNat : Int), .bool (ofP ⟨hi, lo, v⟩ n).a.v6, .int .i64 (ofP ⟨hi, lo, v⟩ n).n])) ?_ rfl ⟨rfl, ?_⟩
  · simp [results, Tryz.results84, go_sem, ofP, *]
  · (repeat (first | with_reducible exact Ext.refl _ | with_reducible assumption | (with_reducible refine Ext.set ?_ (by simp <;> omega) _) | (with_reducible refine Ext.alloc ?_ _) | (with_reducible refine Ext.drew ?_) | (with_reducible refine Ext.trans ?_ (by assumption)) | exact Ext.refl _))

set_option maxRecDepth 100000 in
set_option maxHeartbeats 1000000 in
theorem saneP_c (hi lo : BitVec 64) (v : Bool) (n : Int) (w : World) :
    Calls Tryz.prog 59 #[.agg #[(.int .u64 (BitVec.toNat (hi) : Int)), (.int .u64 (BitVec.toNat (lo) : Int)), .bool v, (.int .i64 (n))]] w fun e w' => e = .returned (.bool (saneP ⟨⟨hi, lo, v⟩, n⟩)) ∧ Ext w w' := by
  go_enter Tryz.func59, Tryz.ntmps59
  go_wp2_with fail
  refine wp_region_ext 7 (by kernel_rfl) (by kernel_rfl) ?_
  dsimp only [List.take, List.drop]
  repeat (first | (apply hold_skip2 rfl; focus (first | (simp only [Act.put, List.setIfInBounds_toArray, List.set_cons_zero, List.set_cons_succ]; exact rfl) | (simp only [Act.put, List.setIfInBounds_toArray, List.set_cons_zero, List.set_cons_succ]) | exact rfl)) | (apply hold_cons2 rfl; (focus (intro w1 hS; have c1 := hS.cell; have f1 := hS.frozen; have z1 := hS.size; go_simp; first | exact rfl | exact ⟨rfl, hS⟩ | (go_at_call 84; (with_reducible refine (ofP_c _ _ _ _ _).mono ?_); rintro e w2 ⟨rfl, h2⟩; exact ⟨rfl, hS.trans h2⟩))); (focus (first | (simp only [Act.put, List.setIfInBounds_toArray, List.set_cons_zero, List.set_cons_succ]; exact rfl) | (simp only [Act.put, List.setIfInBounds_toArray, List.set_cons_zero, List.set_cons_succ]) | exact rfl))))
  refine hold_nil ?_
  rintro w1 hE
  have c_hE := hE.cell
  have f_hE := hE.frozen
  have z_hE_0 := hE.lt (b := w.heap.size) (by first | omega | (simp <;> omega))
  go_wp2
  go_ret
  refine ⟨rfl, ?_⟩
  (repeat (first | with_reducible exact Ext.refl _ | with_reducible assumption | (with_reducible refine Ext.set ?_ (by simp <;> omega) _) | (with_reducible refine Ext.alloc ?_ _) | (with_reducible refine Ext.drew ?_) | (with_reducible refine Ext.trans ?_ (by assumption)) | exact Ext.refl _))

set_option maxRecDepth 100000 in
set_option maxHeartbeats 1000000 in
theorem containsP_c (hi lo : BitVec 64) (v : Bool) (n : Int) (hi' lo' : BitVec 64) (v' : Bool) (w : World) :
    Calls Tryz.prog 120 #[.agg #[(.int .u64 (BitVec.toNat (hi) : Int)), (.int .u64 (BitVec.toNat (lo) : Int)), .bool v, (.int .i64 (n))], .agg #[(.int .u64 (BitVec.toNat (hi') : Int)), (.int .u64 (BitVec.toNat (lo') : Int)), .bool v']] w fun e w' => e = .returned (.bool (containsP ⟨⟨hi, lo, v⟩, n⟩ ⟨hi', lo', v'⟩)) ∧ Ext w w' := by
  unfold containsP
  have hs := saneP_c hi lo v n
  cases h : saneP ⟨⟨hi, lo, v⟩, n⟩ <;> rw [h] at hs <;> have Hs := Lib.hid hs <;> clear hs
  all_goals
    go_enter Tryz.func120, Tryz.ntmps120
    go_wp2_with fail
    refine wp_region_ext 10 (by kernel_rfl) (by kernel_rfl) ?_
    dsimp only [List.take, List.drop]
    repeat (first | (apply hold_skip2 rfl; focus (first | (simp only [Act.put, List.setIfInBounds_toArray, List.set_cons_zero, List.set_cons_succ]; exact rfl) | (simp only [Act.put, List.setIfInBounds_toArray, List.set_cons_zero, List.set_cons_succ]) | exact rfl)) | (apply hold_cons2 rfl; (focus (intro w1 hS; have c1 := hS.cell; have f1 := hS.frozen; have z1 := hS.size; go_simp; first | exact rfl | exact ⟨rfl, hS⟩ | (go_at_call 84; (with_reducible refine (ofP_c _ _ _ _ _).mono ?_); rintro e w2 ⟨rfl, h2⟩; exact ⟨rfl, hS.trans h2⟩) | (go_at_call 59; (with_reducible refine (Hs.out _).mono ?_); rintro e w2 ⟨rfl, h2⟩; exact ⟨rfl, hS.trans h2⟩))); (focus (first | (simp only [Act.put, List.setIfInBounds_toArray, List.set_cons_zero, List.set_cons_succ]; exact rfl) | (simp only [Act.put, List.setIfInBounds_toArray, List.set_cons_zero, List.set_cons_succ]) | exact rfl))))
    refine hold_nil ?_
    rintro w1 hE
    have c_hE := hE.cell
    have f_hE := hE.frozen
    have z_hE_0 := hE.lt (b := w.heap.size) (by first | omega | (simp <;> omega))
    have z_hE_1 := hE.lt (b := w.heap.size + 1) (by first | omega | (simp <;> omega))
    go_wp2
    go_ret
    refine ⟨rfl, ?_⟩
    (repeat (first | with_reducible exact Ext.refl _ | with_reducible assumption | (with_reducible refine Ext.set ?_ (by simp <;> omega) _) | (with_reducible refine Ext.alloc ?_ _) | (with_reducible refine Ext.drew ?_) | (with_reducible refine Ext.trans ?_ (by assumption)) | exact Ext.refl _))

set_option maxRecDepth 100000 in
set_option maxHeartbeats 1000000 in
theorem coversP_c (hi lo : BitVec 64) (v : Bool) (n : Int) (hi' lo' : BitVec 64) (v' : Bool) (n' : Int) (w : World) :
    Calls Tryz.prog 97 #[.agg #[(.int .u64 (BitVec.toNat (hi) : Int)), (.int .u64 (BitVec.toNat (lo) : Int)), .bool v, (.int .i64 (n))], .agg #[(.int .u64 (BitVec.toNat (hi') : Int)), (.int .u64 (BitVec.toNat (lo') : Int)), .bool v', (.int .i64 (n'))]] w fun e w' => e = .returned (.bool (coversP ⟨⟨hi, lo, v⟩, n⟩ ⟨⟨hi', lo', v'⟩, n'⟩)) ∧ Ext w w' := by
  unfold coversP
  have hs := saneP_c hi' lo' v' n'
  by_cases hn : n ≤ n'
  · have hd : decide (n ≤ n') = true := by simpa using hn
    cases h : saneP ⟨⟨hi', lo', v'⟩, n'⟩ <;> rw [h] at hs <;> have Hs := Lib.hid hs <;> clear hs
    all_goals
      go_enter Tryz.func97, Tryz.ntmps97
      go_wp2_with (first
        | (go_at_call 59; (with_reducible refine (Hs.out _).mono ?_); rintro e w1 ⟨rfl, h1⟩; have c_h1 := h1.cell; have f_h1 := h1.frozen; have z_h1_0 := h1.lt (b := w.heap.size) (by first | omega | (simp <;> omega)); have z_h1_1 := h1.lt (b := w.heap.size + 1) (by first | omega | (simp <;> omega)))
        | (go_at_call 120; (with_reducible refine (containsP_c _ _ _ _ _ _ _ _).mono ?_); rintro e w2 ⟨rfl, h2⟩; have c_h2 := h2.cell; have f_h2 := h2.frozen; have z_h2_0 := h2.lt (b := w.heap.size) (by first | omega | (simp <;> omega)); have z_h2_1 := h2.lt (b := w.heap.size + 1) (by first | omega | (simp <;> omega))))

      go_ret
      refine ⟨by first | (simp; done) | (simp [hn]; done), ?_⟩
      (repeat (first | with_reducible exact Ext.refl _ | with_reducible assumption | (with_reducible refine Ext.set ?_ (by simp <;> omega) _) | (with_reducible refine Ext.alloc ?_ _) | (with_reducible refine Ext.drew ?_) | (with_reducible refine Ext.trans ?_ (by assumption)) | exact Ext.refl _))
  · have hd : decide (n ≤ n') = false := by simpa using hn
    clear hs
    go_enter Tryz.func97, Tryz.ntmps97
    go_wp2
    go_ret
    refine ⟨by first | (simp; done) | (simp [hn]; done), ?_⟩
    (repeat (first | with_reducible exact Ext.refl _ | with_reducible assumption | (with_reducible refine Ext.set ?_ (by simp <;> omega) _) | (with_reducible refine Ext.alloc ?_ _) | (with_reducible refine Ext.drew ?_) | (with_reducible refine Ext.trans ?_ (by assumption)) | exact Ext.refl _))

end Go.Proofs.YtcipokldcjappaaGreat

namespace Go.Proofs.YtcipokldcjappaaGreat
open Go.RowKit

theorem saneP_range {p : Pf} (h : saneP p = true) : 0 ≤ p.n ∧ p.n ≤ Wd p.a.v6 := by
  unfold saneP at h
  rw [pfEq_iff] at h
  have h2 : p.n = cut p.a.v6 p.n := by have := congrArg Pf.n h; exact this
  have hw := Wd_range p.a.v6
  unfold cut at h2
  omega

theorem set_c (hi lo : BitVec 64) (v : Bool) (i x : Int) (b : Bool) (w : World) (h0 : 0 ≤ i) (h2 : i < Wd v) (hx : bits .and .i64 x 1 = b2i b) :
    Calls Tryz.prog 137 #[.agg #[(.int .u64 (BitVec.toNat (hi) : Int)), (.int .u64 (BitVec.toNat (lo) : Int)), .bool v], (.int .i64 (i)), (.int .i64 (x))] w fun e w' => e = .returned ((.agg #[.int .u64 ((setD ⟨hi, lo, v⟩ i.toNat b).hi.toNat : Int), .int .u64 ((setD ⟨hi, lo, v⟩ i.toNat b).lo.toNat : Int), .bool (setD ⟨hi, lo, v⟩ i.toNat b).v6])) ∧ Ext w w' := by
  by_cases h : i < 64
  · exact set_lo hi lo v i x b w h0 h h2 hx
  · exact set_hi hi lo v i x b w h0 (by omega) h2 hx

def zeroP : Pf := ⟨⟨0#64, 0#64, false⟩, 0⟩
def childP (p : Pf) (b : Bool) : Pf := ⟨setD p.a p.n.toNat b, p.n + 1⟩

theorem Wd_ne {n : Int} {v : Bool} (h : n ≤ Wd v) (h2 : (n == Wd v) = false) : n < Wd v := by
  have : n ≠ Wd v := by simpa using h2
  omega

set_option maxRecDepth 100000 in
set_option maxHeartbeats 2000000 in
theorem childP_no (hi lo : BitVec 64) (v : Bool) (n x : Int) (w : World) (h : saneP ⟨⟨hi, lo, v⟩, n⟩ = false ∨ n = Wd v) :
    Calls Tryz.prog 117 #[.agg #[(.int .u64 (BitVec.toNat (hi) : Int)), (.int .u64 (BitVec.toNat (lo) : Int)), .bool v, (.int .i64 (n))], (.int .i64 (x))] w fun e w' => e = .returned (.tuple #[(.agg #[.int .u64 ((zeroP).a.hi.toNat : Int), .int .u64 ((zeroP).a.lo.toNat : Int), .bool (zeroP).a.v6, .int .i64 (zeroP).n]), .bool false]) ∧ Ext w w' := by
  have hs := saneP_c hi lo v n
  cases hsn : saneP ⟨⟨hi, lo, v⟩, n⟩ <;> rw [hsn] at hs <;> have Hs := Lib.hid hs <;> clear hs
  · clear h
    go_enter Tryz.func117, Tryz.ntmps117
    go_wp2_with fail
    refine wp_region_ext 11 (by kernel_rfl) (by kernel_rfl) ?_
    dsimp only [List.take, List.drop]
    repeat (first | (apply hold_skip2 rfl; focus (first | (simp only [Act.put, List.setIfInBounds_toArray, List.set_cons_zero, List.set_cons_succ]; exact rfl) | (simp only [Act.put, List.setIfInBounds_toArray, List.set_cons_zero, List.set_cons_succ]) | exact rfl)) | (apply hold_cons2 rfl; (focus (intro w1 hS; have c1 := hS.cell; have f1 := hS.frozen; have z1 := hS.size; go_simp; first | exact rfl | exact ⟨rfl, hS⟩ | (go_at_call 59; (with_reducible refine (Hs.out _).mono ?_); rintro e w2 ⟨rfl, h2⟩; exact ⟨rfl, hS.trans h2⟩))); (focus (first | (simp only [Act.put, List.setIfInBounds_toArray, List.set_cons_zero, List.set_cons_succ]; exact rfl) | (simp only [Act.put, List.setIfInBounds_toArray, List.set_cons_zero, List.set_cons_succ]) | exact rfl))))
    refine hold_nil ?_
    rintro w1 hE
    have c_hE := hE.cell
    have f_hE := hE.frozen
    have z_hE_0 := hE.lt (b := w.heap.size) (by first | omega | (simp <;> omega))
    have z_hE_1 := hE.lt (b := w.heap.size + 1) (by first | omega | (simp <;> omega))
    go_wp2
    refine bodyPost_ret (v := _) ?_ rfl ⟨rfl, ?_⟩
    · simp [results, Tryz.results117, go_sem, zeroP, *]
    · (repeat (first | with_reducible exact Ext.refl _ | with_reducible assumption | (with_reducible refine Ext.set ?_ (by simp <;> omega) _) | (with_reducible refine Ext.alloc ?_ _) | (with_reducible refine Ext.drew ?_) | (with_reducible refine Ext.trans ?_ (by assumption)) | exact Ext.refl _))
  · have hn : n = Wd v := by
      rcases h with h | h
      · rw [hsn] at h; cases h
      · exact h
    clear h hsn
    subst hn
    go_enter Tryz.func117, Tryz.ntmps117
    go_wp2_with fail
    refine wp_region_ext 11 (by kernel_rfl) (by kernel_rfl) ?_
    dsimp only [List.take, List.drop]
    repeat (first | (apply hold_skip2 rfl; focus (first | (simp only [Act.put, List.setIfInBounds_toArray, List.set_cons_zero, List.set_cons_succ]; exact rfl) | (simp only [Act.put, List.setIfInBounds_toArray, List.set_cons_zero, List.set_cons_succ]) | exact rfl)) | (apply hold_cons2 rfl; (focus (intro w1 hS; have c1 := hS.cell; have f1 := hS.frozen; have z1 := hS.size; go_simp; first | exact rfl | exact ⟨rfl, hS⟩ | (go_at_call 59; (with_reducible refine (Hs.out _).mono ?_); rintro e w2 ⟨rfl, h2⟩; exact ⟨rfl, hS.trans h2⟩) | (go_at_call 72; (with_reducible refine (width_c _ _).mono ?_); rintro e w2 ⟨rfl, rfl⟩; exact ⟨rfl, hS⟩))); (focus (first | (simp only [Act.put, List.setIfInBounds_toArray, List.set_cons_zero, List.set_cons_succ]; exact rfl) | (simp only [Act.put, List.setIfInBounds_toArray, List.set_cons_zero, List.set_cons_succ]) | exact rfl))))
    refine hold_nil ?_
    rintro w1 hE
    have c_hE := hE.cell
    have f_hE := hE.frozen
    have z_hE_0 := hE.lt (b := w.heap.size) (by first | omega | (simp <;> omega))
    have z_hE_1 := hE.lt (b := w.heap.size + 1) (by first | omega | (simp <;> omega))
    go_wp2
    refine bodyPost_ret (v := _) ?_ rfl ⟨rfl, ?_⟩
    · simp [results, Tryz.results117, go_sem, zeroP, *]
    · (repeat (first | with_reducible exact Ext.refl _ | with_reducible assumption | (with_reducible refine Ext.set ?_ (by simp <;> omega) _) | (with_reducible refine Ext.alloc ?_ _) | (with_reducible refine Ext.drew ?_) | (with_reducible refine Ext.trans ?_ (by assumption)) | exact Ext.refl _))

set_option maxRecDepth 100000 in
set_option maxHeartbeats 2000000 in
theorem childP_yes (hi lo : BitVec 64) (v : Bool) (n x : Int) (b : Bool) (w : World) (hsn : saneP ⟨⟨hi, lo, v⟩, n⟩ = true) (hn : n < Wd v) (hx : bits .and .i64 x 1 = b2i b) :
    Calls Tryz.prog 117 #[.agg #[(.int .u64 (BitVec.toNat (hi) : Int)), (.int .u64 (BitVec.toNat (lo) : Int)), .bool v, (.int .i64 (n))], (.int .i64 (x))] w fun e w' => e = .returned (.tuple #[(.agg #[.int .u64 ((childP ⟨⟨hi, lo, v⟩, n⟩ b).a.hi.toNat : Int), .int .u64 ((childP ⟨⟨hi, lo, v⟩, n⟩ b).a.lo.toNat : Int), .bool (childP ⟨⟨hi, lo, v⟩, n⟩ b).a.v6, .int .i64 (childP ⟨⟨hi, lo, v⟩, n⟩ b).n]), .bool true]) ∧ Ext w w' := by
  have hs := saneP_c hi lo v n
  have h0 := (saneP_range hsn).1
  rw [hsn] at hs
  have Hs := Lib.hid hs
  have hS0 := fun w => set_c hi lo v n x b w h0 hn hx
  have HS0 := Lib.hid hS0
  have hW := (Wd_range v).2
  have hne : (n == Wd v) = false := by simp; omega
  clear hs hsn hx hS0
  go_enter Tryz.func117, Tryz.ntmps117
  go_wp2_with fail
  refine wp_region_ext 11 (by kernel_rfl) (by kernel_rfl) ?_
  dsimp only [List.take, List.drop]
  repeat (first | (apply hold_skip2 rfl; focus (first | (simp only [Act.put, List.setIfInBounds_toArray, List.set_cons_zero, List.set_cons_succ]; exact rfl) | (simp only [Act.put, List.setIfInBounds_toArray, List.set_cons_zero, List.set_cons_succ]) | exact rfl)) | (apply hold_cons2 rfl; (focus (intro w1 hS; have c1 := hS.cell; have f1 := hS.frozen; have z1 := hS.size; go_simp; first | exact rfl | exact ⟨rfl, hS⟩ | (go_at_call 59; (with_reducible refine (Hs.out _).mono ?_); rintro e w2 ⟨rfl, h2⟩; exact ⟨rfl, hS.trans h2⟩) | (go_at_call 72; (with_reducible refine (width_c _ _).mono ?_); rintro e w2 ⟨rfl, rfl⟩; exact ⟨rfl, hS⟩))); (focus (first | (simp only [Act.put, List.setIfInBounds_toArray, List.set_cons_zero, List.set_cons_succ]; exact rfl) | (simp only [Act.put, List.setIfInBounds_toArray, List.set_cons_zero, List.set_cons_succ]) | exact rfl))))
  refine hold_nil ?_
  rintro w1 hE
  have c_hE := hE.cell
  have f_hE := hE.frozen
  have z_hE_0 := hE.lt (b := w.heap.size) (by first | omega | (simp <;> omega))
  have z_hE_1 := hE.lt (b := w.heap.size + 1) (by first | omega | (simp <;> omega))
  go_wp2_with fail
  refine wp_region_ext 10 (by kernel_rfl) (by kernel_rfl) ?_
  dsimp only [List.take, List.drop]
  repeat (first | (apply hold_skip2 rfl; focus (first | (simp only [Act.put, List.setIfInBounds_toArray, List.set_cons_zero, List.set_cons_succ]; exact rfl) | (simp only [Act.put, List.setIfInBounds_toArray, List.set_cons_zero, List.set_cons_succ]) | exact rfl)) | (apply hold_cons2 rfl; (focus (intro w1 hS; have c1 := hS.cell; have f1 := hS.frozen; have z1 := hS.size; go_simp; first | exact rfl | exact ⟨rfl, hS⟩ | (go_at_call 137; (with_reducible refine (HS0.out _).mono ?_); rintro e w2 ⟨rfl, h2⟩; exact ⟨rfl, hS.trans h2⟩))); (focus (first | (simp only [Act.put, List.setIfInBounds_toArray, List.set_cons_zero, List.set_cons_succ]; exact rfl) | (simp only [Act.put, List.setIfInBounds_toArray, List.set_cons_zero, List.set_cons_succ]) | exact rfl))))
  refine hold_nil ?_
  rintro w1 hE
  have c_hE := hE.cell
  have f_hE := hE.frozen
  have z_hE_0 := hE.lt (b := w.heap.size) (by first | omega | (simp <;> omega))
  have z_hE_1 := hE.lt (b := w.heap.size + 1) (by first | omega | (simp <;> omega))
  go_wp2
  refine bodyPost_ret (v := _) ?_ rfl ⟨rfl, ?_⟩
  · simp [results, Tryz.results117, go_sem, childP, *]
  · (repeat (first | with_reducible exact Ext.refl _ | with_reducible assumption | (with_reducible refine Ext.set ?_ (by simp <;> omega) _) | (with_reducible refine Ext.alloc ?_ _) | (with_reducible refine Ext.drew ?_) | (with_reducible refine Ext.trans ?_ (by assumption)) | exact Ext.refl _))

end Go.Proofs.YtcipokldcjappaaGreat

