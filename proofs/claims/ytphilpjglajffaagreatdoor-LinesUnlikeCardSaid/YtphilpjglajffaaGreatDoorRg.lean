/- A region that draws its order: each operation once, in whatever world the others have led to (rely and guarantee). Generic: any program. -/
import Derived.Orders
import Derived.Tactics
import Derived.Below
namespace Go.Rg
open Go

/-- the values x of the operations, written into the frame -/
def fillOps (x : Nat → Value) : List Oper → Nat → Act → Act
  | [], _, a => a
  | o :: os, i, a => fillOps x os (i + 1) (a.put o.dst (x i))

/-- what is asked of one operation: it ends, and R holds of what it yields -/
def StepQ (F : Act) (d : Option Tmp) (R : Value → World → Prop) : Exit → Act → World → Prop := fun e a w =>
  e = .normal ∧ a.defers = F.defers ∧ R (match d with | some d => a.tmps.getD d undef | none => undef) w

def Known (V : List (Value → World → Prop)) (x : Nat → Value) (w : World) : List Nat → Prop
  | [] => True
  | j :: js => V.getD j (fun _ _ => True) (x j) w ∧ Known V x w js

def direct (o : Oper) : List Nat := (o.after.toList.filter (Region.binds .any)).map (·.on)

def needsTab : List Oper → List (List Nat) → List (List Nat)
  | [], acc => acc
  | o :: os, acc => needsTab os (acc ++ [((direct o) ++ (direct o).flatMap fun j => acc.getD j []).eraseDups])

/-- all slots that an operation looks at, which another of the region writes, are written ahead of it -/
def looksOk (all : List Oper) (i : Nat) (o : Oper) : Bool :=
  (o.looksAt all.toArray).all fun t => all.zipIdx.all fun (oj, j) => oj.dst != some t || (j < i && (direct o).contains j)

def check (n : Nat) (all : List Oper) : Bool :=
  Region.noSelect all.toArray &&
  all.zipIdx.all (fun (o, i) => looksOk all i o && (direct o).all (fun j => decide (j < i)) &&
    (match o.dst with | some d => decide (d < n) && all.zipIdx.all (fun (oj, j) => decide (j = i) || oj.dst != some d) | none => true))

def Steps (P : Program) (V : List (Value → World → Prop)) (G : World → World → Prop) (L : (Nat → Value) → Nat → World → Value → World → Prop) (a0 : Act) (w0 : World) (all : List Oper) : List Oper → List (List Nat) → Nat → Prop
  | [], _, _ => True
  | o :: os, ns, i =>
    (∀ (x : Nat → Value) (w : World), G w0 w → Known V x w (ns.headD []) →
      wpList P all.toArray (StepQ a0 o.dst fun v w' => L x i w v w') [o] (fillOps x (all.take i) 0 a0) w) ∧
    Steps P V G L a0 w0 all os ns.tail (i + 1)

/-- the block that a value points to -/
def blk : Value → Option Nat
  | .slice (some a) _ _ => some a.block
  | .pointer (some a) => some a.block
  | .map (some r) => some r
  | _ => none
/-- a value points to what was made between w and w' -/
def Fresh (w : World) (v : Value) (w' : World) : Prop := ∀ b, blk v = some b → w.heap.size ≤ b ∧ b < w'.heap.size
/-- these values are those -/
def Copies (cp : List (Nat × Nat)) (x : Nat → Value) : Prop := ∀ p ∈ cp, x p.1 = x p.2
def cpOk (all : List Oper) (cp : List (Nat × Nat)) : Bool := cp.all fun p => decide (p.1 < all.length) && ((all[p.1]?).map fun o => (direct o).contains p.2).getD false
/-- no two of these values point to one block -/
def Apart (own : List Nat) (x : Nat → Value) : Prop := ∀ i ∈ own, ∀ j ∈ own, i ≠ j → ∀ b, blk (x i) = some b → blk (x j) ≠ some b

section
variable {P : Program} {V : List (Value → World → Prop)} {G : World → World → Prop} {L : (Nat → Value) → Nat → World → Value → World → Prop} {cp : List (Nat × Nat)} {own : List Nat} {a0 : Act} {w0 : World} {all : List Oper}

theorem steps_at : ∀ (os : List Oper) (ns : List (List Nat)) (i j : Nat) (o : Oper), Steps P V G L a0 w0 all os ns i → os[j]? = some o →
    ∀ (x : Nat → Value) (w : World), G w0 w → Known V x w (ns.getD j []) →
      wpList P all.toArray (StepQ a0 o.dst fun v w' => L x (i + j) w v w') [o] (fillOps x (all.take (i + j)) 0 a0) w
  | [], _, _, _, _, _, h => by simp at h
  | o :: os, ns, i, 0, o', hs, h => by
    simp only [List.getElem?_cons_zero, Option.some.injEq] at h
    subst h
    intro x w hg hk
    refine hs.1 x w hg ?_
    cases ns <;> simpa using hk
  | o :: os, ns, i, j + 1, o', hs, h => by
    have := steps_at os ns.tail (i + 1) j o' hs.2 (by simpa using h)
    intro x w hg hk
    have h2 := this x w hg (by cases ns <;> simpa using hk)
    rw [show i + 1 + j = i + (j + 1) from by omega] at h2
    exact h2

theorem known_of {x : Nat → Value} {w : World} : ∀ l : List Nat, (∀ j ∈ l, V.getD j (fun _ _ => True) (x j) w) → Known V x w l
  | [], _ => trivial
  | j :: js, h => ⟨h j (by simp), known_of js fun k hk => h k (by simp [hk])⟩

theorem put_tmps_size (a : Act) (d : Option Tmp) (v : Value) : (a.put d v).tmps.size = a.tmps.size := by
  cases d <;> simp [Act.put]
theorem put_defers (a : Act) (d : Option Tmp) (v : Value) : (a.put d v).defers = a.defers := by
  cases d <;> simp [Act.put]

theorem fill_size (x : Nat → Value) : ∀ (os : List Oper) (i : Nat) (a : Act), (fillOps x os i a).tmps.size = a.tmps.size
  | [], _, _ => rfl
  | o :: os, i, a => by rw [fillOps, fill_size x os, put_tmps_size]
theorem fill_defers (x : Nat → Value) : ∀ (os : List Oper) (i : Nat) (a : Act), (fillOps x os i a).defers = a.defers
  | [], _, _ => rfl
  | o :: os, i, a => by rw [fillOps, fill_defers x os, put_defers]

theorem fill_other (x : Nat → Value) (t : Tmp) : ∀ (os : List Oper) (i : Nat) (a : Act), (∀ o ∈ os, o.dst ≠ some t) → (fillOps x os i a).tmps[t]? = a.tmps[t]?
  | [], _, _, _ => rfl
  | o :: os, i, a, h => by
    rw [fillOps, fill_other x t os (i + 1) _ (fun o' ho' => h o' (by simp [ho']))]
    have := h o (by simp)
    cases hd : o.dst with
    | none => rfl
    | some d =>
      have hne : d ≠ t := fun e => this (by rw [hd, e])
      simp [Act.put, Array.getElem?_setIfInBounds_ne hne]

theorem fill_at (x : Nat → Value) (d : Tmp) : ∀ (os : List Oper) (i j : Nat) (o : Oper) (a : Act), os[j]? = some o → o.dst = some d → d < a.tmps.size →
    (∀ k o', os[k]? = some o' → o'.dst = some d → k = j) → (fillOps x os i a).tmps[d]? = some (x (i + j))
  | [], _, _, _, _, h, _, _, _ => by simp at h
  | o :: os, i, 0, o', a, h, hd, hs, hu => by
    simp only [List.getElem?_cons_zero, Option.some.injEq] at h
    subst h
    rw [fillOps, fill_other x d os (i + 1) _ (fun o' ho' hd' => by
      obtain ⟨k, hk, he⟩ := List.getElem_of_mem ho'
      have := hu (k + 1) o' (by simp [List.getElem?_eq_getElem hk, he]) hd'
      omega)]
    simp [Act.put, hd, hs]
  | o :: os, i, j + 1, o', a, h, hd, hs, hu => by
    rw [fillOps, fill_at x d os (i + 1) j o' _ (by simpa using h) hd (by rw [put_tmps_size]; exact hs) (fun k o'' hk hd' => by
      have := hu (k + 1) o'' (by simpa using hk) hd'
      omega)]
    rw [show i + 1 + j = i + (j + 1) from by omega]

/-! ### what `check` says -/
structure Good (all : List Oper) (n : Nat) : Prop where
  nosel : ∀ (j : Nat) (o : Oper) cs b, all[j]? = some o → o.op ≠ .select cs b
  looks : ∀ i o t j oj, all[i]? = some o → t ∈ o.looksAt all.toArray → all[j]? = some oj → oj.dst = some t → j < i ∧ j ∈ direct o
  deps : ∀ (i : Nat) (o : Oper) j, all[i]? = some o → j ∈ direct o → j < i
  dst : ∀ (i : Nat) (o : Oper) d, all[i]? = some o → o.dst = some d → d < n
  uniq : ∀ (i j : Nat) (o oj : Oper) d, all[i]? = some o → all[j]? = some oj → o.dst = some d → oj.dst = some d → j = i

theorem mem_zipIdx {l : List Oper} {i : Nat} {o : Oper} (h : l[i]? = some o) : (o, i) ∈ l.zipIdx := by
  rw [List.mem_zipIdx_iff_getElem?]; simpa using h

theorem good_of {n : Nat} (h : check n all = true) : Good all n := by
  unfold check at h
  rw [Bool.and_eq_true, List.all_eq_true] at h
  obtain ⟨h0, h1⟩ := h
  have at_ : ∀ i o, all[i]? = some o → looksOk all i o = true ∧ (direct o).all (fun j => decide (j < i)) = true ∧
      (match o.dst with | some d => decide (d < n) && all.zipIdx.all (fun (oj, j) => decide (j = i) || oj.dst != some d) | none => true) = true := fun i o hi => by
    have := h1 (o, i) (mem_zipIdx hi)
    simp only [Bool.and_eq_true] at this
    exact ⟨this.1.1, this.1.2, this.2⟩
  refine ⟨?_, ?_, ?_, ?_, ?_⟩
  · intro j o cs b hj
    exact Region.noSelect_spec h0 j o cs b (by simpa using hj)
  · intro i o t j oj hi ht hj hd
    have := (at_ i o hi).1
    unfold looksOk at this
    rw [List.all_eq_true] at this
    have := this t ht
    rw [List.all_eq_true] at this
    have := this (oj, j) (mem_zipIdx hj)
    simp only [hd, bne_self_eq_false, Bool.false_or, Bool.and_eq_true, decide_eq_true_eq, List.contains_iff_mem] at this
    exact this
  · intro i o j hi hj
    have := (at_ i o hi).2.1
    rw [List.all_eq_true] at this
    exact of_decide_eq_true (this j hj)
  · intro i o d hi hd
    have := (at_ i o hi).2.2
    simp only [hd, Bool.and_eq_true, decide_eq_true_eq] at this
    exact this.1
  · intro i j o oj d hi hj hd hdj
    have := (at_ i o hi).2.2
    simp only [hd, Bool.and_eq_true, List.all_eq_true] at this
    have := this.2 (oj, j) (mem_zipIdx hj)
    simpa [hdj] using this

/-! ### needs -/
theorem needsTab_length : ∀ (os : List Oper) (acc : List (List Nat)), (needsTab os acc).length = acc.length + os.length
  | [], _ => rfl
  | o :: os, acc => by rw [needsTab, needsTab_length os]; simp; omega

theorem needsTab_keep : ∀ (os : List Oper) (acc : List (List Nat)) (j : Nat), j < acc.length → (needsTab os acc)[j]? = acc[j]?
  | [], _, _, _ => rfl
  | o :: os, acc, j, h => by
    rw [needsTab, needsTab_keep os _ j (by simp; omega), List.getElem?_append_left h]

/-- `listed` closed under what comes before -/
def Closed (all : List Oper) (L : Nat → Prop) : Prop := ∀ j o, all[j]? = some o → L j → ∀ k ∈ direct o, L k

theorem needs_listed (L : Nat → Prop) (hL : Closed all L) (hg : ∀ (i : Nat) (o : Oper) j, all[i]? = some o → j ∈ direct o → j < i) :
    ∀ (os : List Oper) (acc : List (List Nat)), all.drop acc.length = os →
      (∀ i o, i < acc.length → all[i]? = some o → (∀ k ∈ direct o, L k) → ∀ j ∈ acc.getD i [], L j) →
      ∀ i o, all[i]? = some o → (∀ k ∈ direct o, L k) → ∀ j ∈ (needsTab os acc).getD i [], L j
  | [], acc, hd, hacc, i, o, hi, hk, j, hj => by
    have hlen : all.length ≤ acc.length := by simpa using hd
    have hi' : i < all.length := (List.getElem?_eq_some_iff.1 hi).1
    exact hacc i o (by omega) hi hk j hj
  | o0 :: os, acc, hd, hacc, i, o, hi, hk, j, hj => by
    rw [needsTab] at hj
    have hd0 : all[acc.length]? = some o0 := by
      have := congrArg (fun l : List Oper => l[0]?) hd
      simpa using this
    have hnx : all.drop (acc ++ [((direct o0) ++ (direct o0).flatMap fun j => acc.getD j []).eraseDups]).length = os := by
      rw [List.length_append, List.length_singleton, ← List.drop_drop, hd]; rfl
    refine needs_listed L hL hg os _ hnx ?_ i o hi hk j hj
    intro i' o' hlt hi' hk' j' hj'
    by_cases he : i' < acc.length
    · rw [List.getD_eq_getElem?_getD, List.getElem?_append_left he, ← List.getD_eq_getElem?_getD] at hj'
      exact hacc i' o' he hi' hk' j' hj'
    · have hie : i' = acc.length := by simp at hlt; omega
      subst hie
      rw [hd0] at hi'
      simp only [Option.some.injEq] at hi'
      subst hi'
      rw [List.getD_eq_getElem?_getD, List.getElem?_append_right (Nat.le_refl _)] at hj'
      simp only [Nat.sub_self, List.getElem?_cons_zero, Option.getD_some, List.mem_eraseDups, List.mem_append, List.mem_flatMap] at hj'
      rcases hj' with h | ⟨d, hd', hjd⟩
      · exact hk' j' h
      · have hdlt := hg _ _ _ hd0 hd'
        obtain ⟨od, hod⟩ : ∃ od, all[d]? = some od := by
          have : acc.length < all.length := (List.getElem?_eq_some_iff.1 hd0).1
          exact ⟨all[d], List.getElem?_eq_getElem (by omega)⟩
        exact hacc d od hdlt hod (hL d od hod (hk' d hd')) j' hjd

/-! ### one operation, in another frame that looks alike -/
theorem wp_transfer {o : Oper} {F a : Act} {w : World} {K : Act → World → Prop} {Q : Exit → Act → World → Prop} {R : Value → World → Prop} {ops : Array Oper}
    (hsel : ∀ cs b, o.op ≠ .select cs b) (hev : ∀ y ∈ o.op.operands, a.eval y = F.eval y)
    (hwt : Region.wanted o (yielded ops a.tmps) = Region.wanted o (yielded ops F.tmps))
    (hF : ∀ v w', StepQ F o.dst R .normal (F.put o.dst v) w' → K (a.put o.dst v) w')
    (h : wpList P ops (StepQ F o.dst R) [o] F w) :
    if Region.wanted o (yielded ops a.tmps) then o.wp P a w K Q ∨ (o.asks P a w ∧ LetsOut Q) else K (a.put o.dst undef) w := by
  unfold wpList at h
  rw [hwt]
  split at h
  · rename_i hw
    rw [if_pos hw]
    rcases h with h | ⟨_, a1, w1, h, _⟩
    · refine .inl ?_
      unfold Oper.wp at *
      rw [execOp_congr o hsel hev]
      generalize (execOp F.eval o).run P w = r at *
      cases r with
      | ok n w' =>
        cases n <;> simp only [Oper.upon, wpList] at h ⊢
        case value v => exact hF _ _ h
        case skip => exact hF _ _ h
        case defer d =>
          exfalso
          have h2 := h.2.1
          rw [put_defers] at h2
          have := congrArg List.length h2
          simp at this
        case enter f args =>
          refine Calls.mono h fun e w'' he => ?_
          cases e with
          | returned v => exact hF _ _ he
          | panicked c => exact absurd he.1 (by simp)
          | outgrown => obtain ⟨_, _, he, _⟩ := he; simp at he
        case row row args => exact Rows.mono h fun v w'' he => hF _ _ he
      | halt x w' =>
        cases x <;> simp only [Oper.upon] at h ⊢
        case panic v => exact absurd h.1 (by simp)
    · simp at h
  · rename_i hw
    rw [if_neg hw]
    exact hF _ _ h

/-! ### all orders -/
structure Inv (all : List Oper) (V : List (Value → World → Prop)) (G : World → World → Prop) (own : List Nat) (cp : List (Nat × Nat)) (a0 : Act) (w0 : World) (x : Nat → Value) (listed : Array Bool) (a : Act) (w : World) : Prop where
  size : listed.size = all.length
  defers : a.defers = a0.defers
  tsize : a.tmps.size = a0.tmps.size
  other : ∀ t : Nat, (∀ j o, all[j]? = some o → listed.getD j false = true → o.dst ≠ some t) → a.tmps[t]? = a0.tmps[t]?
  slot : ∀ (j : Nat) o (d : Nat), all[j]? = some o → listed.getD j false = true → o.dst = some d → a.tmps[d]? = some (x j)
  closed : Closed all fun j => listed.getD j false = true
  known : ∀ j, listed.getD j false = true → V.getD j (fun _ _ => True) (x j) w
  world : G w0 w
  made : ∀ i ∈ own, listed.getD i false = true → ∀ b, blk (x i) = some b → b < w.heap.size
  apart : ∀ i ∈ own, ∀ j ∈ own, i ≠ j → listed.getD i false = true → listed.getD j false = true → ∀ b, blk (x i) = some b → blk (x j) ≠ some b
  copies : ∀ p ∈ cp, listed.getD p.1 false = true → x p.1 = x p.2

theorem mem_ready_iff {listed : Array Bool} {i : Nat} (h : i ∈ Region.ready .any all.toArray listed) :
    listed.getD i true = false ∧ ∃ o, all[i]? = some o ∧ ∀ j ∈ direct o, listed.getD j false = true := by
  obtain ⟨h1, o, ho, h2⟩ := mem_ready.1 h
  refine ⟨h1, o, by simpa using ho, fun j hj => ?_⟩
  unfold direct at hj
  simp only [List.mem_map, List.mem_filter] at hj
  obtain ⟨e, ⟨he, hb⟩, rfl⟩ := hj
  exact h2 e (by simpa using he) hb

theorem all_listed {listed : Array Bool} {n : Nat} (hs : listed.size = all.length) (hg : Good all n) (h : Region.ready .any all.toArray listed = []) :
    ∀ i, i < all.length → listed.getD i false = true := by
  intro i
  induction i using Nat.strongRecOn with
  | ind i ih =>
    intro hi
    cases hl : listed.getD i false with
    | true => rfl
    | false =>
      exfalso
      have hlt : i < listed.size := by omega
      have : i ∈ Region.ready .any all.toArray listed := by
        refine mem_ready.2 ⟨by simpa [Array.getD, hlt] using hl, all[i], by simp [hi], fun e he hb => ?_⟩
        have hd : e.on ∈ direct all[i] := by
          unfold direct
          exact List.mem_map.2 ⟨e, List.mem_filter.2 ⟨by simpa using he, hb⟩, rfl⟩
        have hlt := hg.deps i all[i] e.on (by simp [hi]) hd
        exact ih e.on hlt (by omega)
      rw [h] at this
      simp at this

theorem act_ext {a b : Act} (h1 : a.tmps = b.tmps) (h2 : a.defers = b.defers) : a = b := by
  cases a; cases b; simp_all

theorem frame_all {x : Nat → Value} {listed : Array Bool} {a : Act} {w : World} (hi : Inv all V G own cp a0 w0 x listed a w) (hg : Good all a0.tmps.size) (hl : ∀ i, i < all.length → listed.getD i false = true) :
    a = fillOps x all 0 a0 := by
  refine act_ext ?_ (by rw [fill_defers]; exact hi.defers)
  apply Array.ext_getElem?
  intro t
  by_cases h : ∃ (j : Nat) (o : Oper), all[j]? = some o ∧ o.dst = some t
  · obtain ⟨j, o, hj, hd⟩ := h
    rw [hi.slot j o t hj (hl j (List.getElem?_eq_some_iff.1 hj).1) hd, fill_at x t all 0 j o a0 hj hd (hg.dst j o t hj hd) (fun k o' hk hd' => hg.uniq j k o o' t hj hk hd hd'), Nat.zero_add]
  · have hn : ∀ (j : Nat) (o : Oper), all[j]? = some o → o.dst ≠ some t := fun j o hj hd => h ⟨j, o, hj, hd⟩
    rw [hi.other t (fun j o hj _ => hn j o hj), fill_other x t all 0 a0 (fun o ho => by
      obtain ⟨k, hk, he⟩ := List.getElem_of_mem ho
      exact hn k o (by simp [hk, he]))]

theorem frame_looks {x : Nat → Value} {listed : Array Bool} {a : Act} {w : World} (hi : Inv all V G own cp a0 w0 x listed a w) (hg : Good all a0.tmps.size) {i : Nat} {o : Oper} (ho : all[i]? = some o)
    (hd : ∀ j ∈ direct o, listed.getD j false = true) {t : Nat} (ht : t ∈ o.looksAt all.toArray) : a.tmps[t]? = (fillOps x (all.take i) 0 a0).tmps[t]? := by
  by_cases h : ∃ (j : Nat) (oj : Oper), all[j]? = some oj ∧ oj.dst = some t
  · obtain ⟨j, oj, hj, hdj⟩ := h
    obtain ⟨hlt, hmem⟩ := hg.looks i o t j oj ho ht hj hdj
    rw [hi.slot j oj t hj (hd j hmem) hdj, fill_at x t (all.take i) 0 j oj a0 (by rw [List.getElem?_take]; simp [hlt, hj]) hdj (hg.dst j oj t hj hdj) (fun k o' hk hd' => by
      rw [List.getElem?_take] at hk
      split at hk
      · exact hg.uniq j k oj o' t hj hk hdj hd'
      · simp at hk), Nat.zero_add]
  · have hn : ∀ (j : Nat) (o : Oper), all[j]? = some o → o.dst ≠ some t := fun j o hj hd => h ⟨j, o, hj, hd⟩
    rw [hi.other t (fun j o hj _ => hn j o hj), fill_other x t (all.take i) 0 a0 (fun o ho => by
      obtain ⟨k, hk, he⟩ := List.getElem_of_mem (List.mem_of_mem_take ho)
      exact hn k o (by simp [hk, he]))]

theorem step_inv {x : Nat → Value} {listed : Array Bool} {a : Act} {w w' : World} (hi : Inv all V G own cp a0 w0 x listed a w) (hg : Good all a0.tmps.size) {i : Nat} {o : Oper} (ho : all[i]? = some o)
    (hnl : listed.getD i false = false) (hd : ∀ j ∈ direct o, listed.getD j false = true) (hgt : ∀ a b c, G a b → G b c → G a c) (hmono : ∀ j v u u', G u u' → V.getD j (fun _ _ => True) v u → V.getD j (fun _ _ => True) v u')
    (hgs : ∀ u u', G u u' → u.heap.size ≤ u'.heap.size)
    {v : Value} (hG : G w w') (hv : V.getD i (fun _ _ => True) v w') (hf : i ∈ own → Fresh w v w') (hcp : cpOk all cp = true) (hc : ∀ j, (i, j) ∈ cp → v = x j) : Inv all V G own cp a0 w0 (fun j => if j = i then v else x j) (listed.setIfInBounds i true) (a.put o.dst v) w' := by
  have hlt : i < all.length := (List.getElem?_eq_some_iff.1 ho).1
  have hget : ∀ j, (listed.setIfInBounds i true).getD j false = true ↔ j = i ∨ listed.getD j false = true := fun j => by
    have hs := hi.size
    by_cases hji : j = i
    · subst hji; simp [Array.getD, hs, hlt]
    · simp only [hji, false_or, Array.getD_eq_getD_getElem?]
      rw [Array.getElem?_setIfInBounds_ne (fun e => hji e.symm)]
  have hne : ∀ j, (listed.setIfInBounds i true).getD j false = true → j ≠ i → listed.getD j false = true := fun j hl hji => ((hget j).1 hl).resolve_left hji
  refine ⟨by simp [hi.size], by rw [put_defers]; exact hi.defers, by rw [put_tmps_size]; exact hi.tsize, ?_, ?_, ?_, ?_, hgt _ _ _ hi.world hG, ?_, ?_, ?_⟩
  · intro t ht
    have hne : o.dst ≠ some t := ht i o ho ((hget i).2 (.inl rfl))
    rw [← hi.other t (fun j oj hj hl => ht j oj hj ((hget j).2 (.inr hl)))]
    cases hdst : o.dst with
    | none => rfl
    | some d =>
      have : d ≠ t := fun e => hne (by rw [hdst, e])
      simp [Act.put, Array.getElem?_setIfInBounds_ne this]
  · intro j oj d hj hl hdj
    by_cases hji : j = i
    · subst hji
      rw [ho] at hj
      simp only [Option.some.injEq] at hj
      subst hj
      have hds := hg.dst _ _ _ ho hdj
      rw [← hi.tsize] at hds
      simp [Act.put, hdj, hds]
    · have hl' : listed.getD j false = true := ((hget j).1 hl).resolve_left hji
      simp only [hji, if_false]
      rw [← hi.slot j oj d hj hl' hdj]
      cases hdst : o.dst with
      | none => rfl
      | some d' =>
        have : d' ≠ d := fun e => hji (hg.uniq i j o oj d ho hj (by rw [hdst, e]) hdj)
        simp [Act.put, Array.getElem?_setIfInBounds_ne this]
  · intro j oj hj hl k hk
    rcases (hget j).1 hl with rfl | hl'
    · rw [ho] at hj
      simp only [Option.some.injEq] at hj
      subst hj
      exact (hget k).2 (.inr (hd k hk))
    · exact (hget k).2 (.inr (hi.closed j oj hj hl' k hk))
  · intro j hl
    by_cases hji : j = i
    · subst hji; simpa using hv
    · simp only [hji, if_false]
      exact hmono _ _ _ _ hG (hi.known j (((hget j).1 hl).resolve_left hji))
  · intro j hj hl b hb
    by_cases hji : j = i
    · subst hji
      simp only [if_true] at hb
      exact (hf hj b hb).2
    · simp only [hji, if_false] at hb
      exact Nat.lt_of_lt_of_le (hi.made j hj (hne j hl hji) b hb) (hgs _ _ hG)
  · intro j hj k hk hjk hlj hlk b hb hb'
    by_cases hji : j = i
    · subst hji
      have hkj : k ≠ j := fun e => hjk e.symm
      simp only [if_true] at hb
      simp only [hkj, if_false] at hb'
      have h1 := hi.made k hk (hne k hlk hkj) b hb'
      have h2 := (hf hj b hb).1
      omega
    · by_cases hki : k = i
      · subst hki
        simp only [hji, if_false] at hb
        simp only [if_true] at hb'
        have h1 := hi.made j hj (hne j hlj hji) b hb
        have h2 := (hf hk b hb').1
        omega
      · simp only [hji, if_false] at hb
        simp only [hki, if_false] at hb'
        exact hi.apart j hj k hk hjk (hne j hlj hji) (hne k hlk hki) b hb hb'
  · rintro ⟨j, k⟩ hp hl
    have hun : listed.getD i false ≠ true := by rw [hnl]; simp
    have hck := List.all_eq_true.1 hcp (j, k) hp
    simp only [Bool.and_eq_true, decide_eq_true_eq] at hck
    have hkl : listed.getD j false = true ∨ j = i → listed.getD k false = true := fun h => by
      have hoj : all[j]? = some all[j] := List.getElem?_eq_getElem hck.1
      have hkd : k ∈ direct all[j] := by
        have := hck.2
        rw [hoj] at this
        simpa using this
      rcases h with h | rfl
      · exact hi.closed j _ hoj h k hkd
      · rw [ho] at hoj
        have := Option.some.inj hoj
        rw [← this] at hkd
        exact hd k hkd
    by_cases hji : j = i
    · subst hji
      have hk2 := hkl (.inr rfl)
      have hkj : k ≠ j := fun e => hun (by rw [← e]; exact hk2)
      simp only [if_true, hkj, if_false]
      exact hc k hp
    · have hl2 := hne j hl hji
      have hk2 := hkl (.inl hl2)
      have hki : k ≠ i := fun e => hun (by rw [← e]; exact hk2)
      simp only [hji, hki, if_false]
      exact hi.copies (j, k) hp hl2

def left (listed : Array Bool) : Nat := listed.toList.count false

theorem left_set {listed : Array Bool} {i : Nat} (h : listed.getD i true = false) : left (listed.setIfInBounds i true) + 1 = left listed := by
  have hlt : i < listed.size := by
    rcases Nat.lt_or_ge i listed.size with h' | h'
    · exact h'
    · simp [Array.getD, Nat.not_lt.2 h'] at h
  have hv : listed[i] = false := by simpa [Array.getD, hlt] using h
  unfold left
  rw [Array.toList_setIfInBounds, List.count_set (by simpa using hlt)]
  have hpos : 0 < listed.toList.count false := List.count_pos_iff.2 (by
    have : listed.toList[i]'(by simpa using hlt) = false := by simpa using hv
    rw [← this]; exact List.getElem_mem _)
  have h1 : (listed.toList[i]'(by simpa using hlt) == false) = true := by simp [hv]
  rw [h1]
  simp only [if_true, show ((true : Bool) == false) = false from rfl, Bool.false_eq_true, if_false]
  omega

theorem left_zero {listed : Array Bool} (h : left listed = 0) (i : Nat) : listed.getD i true ≠ false := fun hi => by
  have := left_set hi
  omega

theorem any_rg {Q : Exit → Act → World → Prop} (hg : Good all a0.tmps.size)
    (hgt : ∀ a b c, G a b → G b c → G a c) (hmono : ∀ j v u u', G u u' → V.getD j (fun _ _ => True) v u → V.getD j (fun _ _ => True) v u')
    (hgs : ∀ u u', G u u' → u.heap.size ≤ u'.heap.size) (hL : ∀ x i w v w', L x i w v w' → G w w' ∧ V.getD i (fun _ _ => True) v w' ∧ (i ∈ own → Fresh w v w') ∧ ∀ j, (i, j) ∈ cp → v = x j)
    (hsteps : Steps P V G L a0 w0 all all (needsTab all []) 0)
    (hfin : ∀ x w, G w0 w → Apart own x → Copies cp x → Known V x w (List.range all.length) → Q .normal (fillOps x all 0 a0) w) (hown : ∀ i ∈ own, i < all.length) (hcp : cpOk all cp = true) :
    ∀ (fuel : Nat) (listed : Array Bool) (a : Act) (w : World) (x : Nat → Value), left listed ≤ fuel → Inv all V G own cp a0 w0 x listed a w → wpAny P .any all.toArray Q fuel listed a w := by
  intro fuel
  have fin : ∀ (listed : Array Bool) (a : Act) (w : World) (x : Nat → Value), Inv all V G own cp a0 w0 x listed a w → Region.ready .any all.toArray listed = [] → Q .normal a w := fun listed a w x hi hr => by
    have hl := all_listed hi.size hg hr
    rw [frame_all hi hg hl]
    exact hfin x w hi.world (fun i h1 j h2 hij b hb => hi.apart i h1 j h2 hij (hl i (hown i h1)) (hl j (hown j h2)) b hb) (fun p hp => hi.copies p hp (hl p.1 (by
      have := List.all_eq_true.1 hcp p hp
      simp only [Bool.and_eq_true, decide_eq_true_eq] at this
      exact this.1))) (known_of _ fun j hj => hi.known j (hl j (by simpa using hj)))
  induction fuel with
  | zero =>
    intro listed a w x hle hi
    have hr : Region.ready .any all.toArray listed = [] := by
      apply List.eq_nil_iff_forall_not_mem.2
      intro i hmem
      exact left_zero (by omega) i (mem_ready_iff hmem).1
    exact ⟨hr, fin listed a w x hi hr⟩
  | succ fuel ih =>
    intro listed a w x hle hi
    refine ⟨fin listed a w x hi, fun i hmem => ?_⟩
    obtain ⟨hun, o, ho, hd⟩ := mem_ready_iff hmem
    unfold wpOp
    have ho' : (all.toArray)[i]? = some o := by simpa using ho
    simp only [ho']
    have hk : Known V x w ((needsTab all []).getD i []) := known_of _ fun j hj => hi.known j
      (needs_listed (fun j => listed.getD j false = true) hi.closed hg.deps all [] rfl (fun i o h => by simp at h) i o ho hd j hj)
    have hst := steps_at all (needsTab all []) 0 i o hsteps ho x w hi.world hk
    rw [Nat.zero_add] at hst
    have hlooks : ∀ t ∈ o.looksAt all.toArray, a.tmps[t]? = (fillOps x (all.take i) 0 a0).tmps[t]? := fun t ht => frame_looks hi hg ho hd ht
    have hdf : (fillOps x (all.take i) 0 a0).defers = a0.defers := fill_defers ..
    have hdt : (fillOps x (all.take i) 0 a0).tmps.size = a0.tmps.size := fill_size ..
    refine wp_transfer (F := fillOps x (all.take i) 0 a0) (R := fun v w' => L x i w v w') (hg.nosel i o · · ho) ?_ ?_ ?_ ?_
    · intro y hy
      cases y with
      | tmp t =>
        have := hlooks t (List.mem_append_left _ (List.mem_filterMap.2 ⟨.tmp t, by simpa using hy, rfl⟩))
        simp only [Act.eval, Array.getD_eq_getD_getElem?, this]
      | _ => rfl
    · unfold Region.wanted
      cases hgd : o.guard with
      | none => rfl
      | some gw =>
        obtain ⟨g, want⟩ := gw
        have : yielded all.toArray a.tmps g = yielded all.toArray (fillOps x (all.take i) 0 a0).tmps g := by
          unfold yielded
          cases ht : (all.toArray[g]?).bind (·.dst) with
          | none => rfl
          | some t =>
            have := hlooks t (List.mem_append_right _ (by simp only [hgd, ht]; simp))
            simp only [Option.bind_some, this]
        simp only [this]
    · rintro v w' ⟨_, _, hR⟩
      have hv : (match o.dst with | some d => ((fillOps x (all.take i) 0 a0).put o.dst v).tmps.getD d undef | none => undef) = (match o.dst with | some _ => v | none => undef) := by
        cases hdst : o.dst with
        | none => rfl
        | some d =>
          have hds := hg.dst i o d ho hdst
          rw [← hdt] at hds
          simp [Act.put, hds]
      rw [hv] at hR
      have hput : a.put o.dst v = a.put o.dst (match o.dst with | some _ => v | none => undef) := by
        cases o.dst <;> rfl
      rw [hput]
      exact ih _ _ _ _ (by have := left_set hun; omega) (step_inv hi hg ho (by
        rcases Nat.lt_or_ge i listed.size with h | h
        · simpa [Array.getD, h] using hun
        · simp [Array.getD, Nat.not_lt.2 h]) hd hgt hmono hgs (hL _ _ _ _ _ hR).1 (hL _ _ _ _ _ hR).2.1 (hL _ _ _ _ _ hR).2.2.1 hcp (hL _ _ _ _ _ hR).2.2.2)
    · unfold StepQ at hst ⊢
      rw [hdf]
      exact hst

/-- THE LAW -/
theorem region_rg {Q : Exit → Act → World → Prop} {id : Nat} (V : List (Value → World → Prop)) (G : World → World → Prop) (L : (Nat → Value) → Nat → World → Value → World → Prop) (own : List Nat) (cp : List (Nat × Nat)) (hm : P.follows .mixedOrders = true)
    (hc : check a0.tmps.size all = true) (hdrew : G w0 w0.drew)
    (hgt : ∀ a b c, G a b → G b c → G a c) (hgs : ∀ u u', G u u' → u.heap.size ≤ u'.heap.size) (hmono : ∀ R ∈ V, ∀ v u u', G u u' → R v u → R v u')
    (hL : ∀ x i w v w', L x i w v w' → G w w' ∧ V.getD i (fun _ _ => True) v w' ∧ (i ∈ own → Fresh w v w') ∧ ∀ j, (i, j) ∈ cp → v = x j)
    (hsteps : Steps P V G L a0 w0 all all (needsTab all []) 0)
    (hfin : ∀ x w, G w0 w → Apart own x → Copies cp x → Known V x w (List.range all.length) → Q .normal (fillOps x all 0 a0) w) (hown : ∀ i ∈ own, i < all.length) (hcp : cpOk all cp = true) :
    (Code.region id all.toArray true).wp P Q a0 w0 := by
  have hgd := good_of hc
  refine wp_region_any hm ?_
  have hmono' : ∀ j v u u', G u u' → V.getD j (fun _ _ => True) v u → V.getD j (fun _ _ => True) v u' := fun j v u u' hG h => by
    rw [List.getD_eq_getElem?_getD] at h ⊢
    cases hj : V[j]? with
    | none => trivial
    | some R => rw [hj] at h; exact hmono R (List.mem_of_getElem? hj) v u u' hG h
  refine any_rg hgd hgt hmono' hgs hL hsteps hfin hown hcp _ _ _ _ (fun _ => undef) ?_ ⟨by simp, rfl, rfl, fun t _ => rfl, ?_, ?_, ?_, hdrew, ?_, ?_, ?_⟩
  · unfold left
    refine Nat.le_trans List.count_le_length ?_
    simp
  · intro j o d _ hl; simp [Array.getD] at hl
  · intro j o _ hl; simp [Array.getD] at hl
  · intro j hl; simp [Array.getD] at hl
  · intro j _ hl; simp [Array.getD] at hl
  · intro j _ k _ _ hl; simp [Array.getD] at hl
  · intro p _ hl; simp [Array.getD] at hl

/-- a value that is known -/
def Is (c : Value) : Value → World → Prop := fun v _ => v = c

/-- a fact that what others make does not turn -/
def Kept (R : Value → World → Prop) : Prop := ∀ v u u', Go.RowKit.Below u.heap.size u u' → R v u → R v u'
theorem kept_is (c : Value) : Kept (Is c) := fun _ _ _ _ h => h
def AllKept : List (Value → World → Prop) → Prop
  | [] => True
  | R :: l => Kept R ∧ AllKept l
theorem AllKept.mem : ∀ {l : List (Value → World → Prop)}, AllKept l → ∀ R ∈ l, Kept R
  | R :: l, h, R', hm => by
    rcases List.mem_cons.1 hm with rfl | h'
    · exact h.1
    · exact AllKept.mem h.2 R' h'
theorem kept_cons {R : Value → World → Prop} {l : List (Value → World → Prop)} (h : Kept R) (h2 : AllKept l) : AllKept (R :: l) := ⟨h, h2⟩
theorem kept_nil : AllKept [] := trivial

def subs : List (List Nat) → List (List Nat) → Bool
  | [], _ => true
  | a :: as, b => a.all (b.headD []).contains && subs as b.tail

theorem steps_weaken : ∀ (os : List Oper) (ns ms : List (List Nat)) (i : Nat), subs ns ms = true → Steps P V G L a0 w0 all os ns i → Steps P V G L a0 w0 all os ms i
  | [], _, _, _, _, _ => trivial
  | o :: os, ns, ms, i, hs, h => by
    have get : ∀ (l : List Nat) (x : Nat → Value) (w : World), Known V x w l → ∀ j ∈ l, V.getD j (fun _ _ => True) (x j) w := by
      intro l
      induction l with
      | nil => intro x w _ j hj; simp at hj
      | cons a l ih =>
        intro x w hk j hj
        rcases List.mem_cons.1 hj with rfl | h'
        · exact hk.1
        · exact ih x w hk.2 j h'
    match ns, hs with
    | [], _ => exact ⟨fun x w hg _ => h.1 x w hg trivial, steps_weaken os [] _ (i + 1) rfl h.2⟩
    | n :: ns, hs =>
      simp only [subs, Bool.and_eq_true, List.all_eq_true] at hs
      refine ⟨fun x w hg hk => h.1 x w hg (known_of _ fun j hj => get _ x w hk j (by simpa using hs.1 j hj)), steps_weaken os ns _ (i + 1) hs.2 h.2⟩

/-- THE LAW, what each operation wants to know written out; others only make memory -/
theorem region_rg' {Q : Exit → Act → World → Prop} {id : Nat} (V : List (Value → World → Prop)) (ns : List (List Nat)) (hm : P.follows .mixedOrders = true)
    (hc : check a0.tmps.size all = true) (hns : subs ns (needsTab all []) = true) (hmono : AllKept V)
    (hsteps : Steps P V (fun u u' => Go.RowKit.Below u.heap.size u u') (fun _ i w v w' => Go.RowKit.Below w.heap.size w w' ∧ V.getD i (fun _ _ => True) v w') a0 w0 all all ns 0)
    (hfin : ∀ x w, Go.RowKit.Below w0.heap.size w0 w → Known V x w (List.range all.length) → Q .normal (fillOps x all 0 a0) w) :
    (Code.region id all.toArray true).wp P Q a0 w0 :=
  region_rg V (fun u u' => Go.RowKit.Below u.heap.size u u') _ [] [] hm hc (Go.RowKit.Below.refl _ _).drew (fun _ _ _ h1 h2 => h1.trans (h2.mono h1.size)) (fun _ _ h => h.size) (fun R hR v u u' => hmono.mem R hR v u u')
    (fun _ _ _ _ _ h => ⟨h.1, h.2, (fun hi => by simp at hi), fun j hj => by simp at hj⟩) (steps_weaken all _ _ 0 hns hsteps) (fun x w h1 _ _ h2 => hfin x w h1 h2) (fun i hi => by simp at hi) rfl

/-- the same; the values of the operations `own` point to new memory, each to its own; those of `cp` are copies -/
theorem region_rgo {Q : Exit → Act → World → Prop} {id : Nat} (V : List (Value → World → Prop)) (ns : List (List Nat)) (own : List Nat) (cp : List (Nat × Nat)) (hm : P.follows .mixedOrders = true)
    (hc : check a0.tmps.size all = true) (hns : subs ns (needsTab all []) = true) (hown : own.all (fun i => decide (i < all.length)) = true) (hcp : cpOk all cp = true) (hmono : AllKept V)
    (hsteps : Steps P V (fun u u' => Go.RowKit.Below u.heap.size u u') (fun x i w v w' => Go.RowKit.Below w.heap.size w w' ∧ V.getD i (fun _ _ => True) v w' ∧ (i ∈ own → Fresh w v w') ∧ ∀ j, (i, j) ∈ cp → v = x j) a0 w0 all all ns 0)
    (hfin : ∀ x w, Go.RowKit.Below w0.heap.size w0 w → Apart own x → Copies cp x → Known V x w (List.range all.length) → Q .normal (fillOps x all 0 a0) w) :
    (Code.region id all.toArray true).wp P Q a0 w0 :=
  region_rg V (fun u u' => Go.RowKit.Below u.heap.size u u') _ own cp hm hc (Go.RowKit.Below.refl _ _).drew (fun _ _ _ h1 h2 => h1.trans (h2.mono h1.size)) (fun _ _ h => h.size) (fun R hR v u u' => hmono.mem R hR v u u')
    (fun _ _ _ _ _ h => h) (steps_weaken all _ _ 0 hns hsteps) hfin (fun i hi => of_decide_eq_true (List.all_eq_true.1 hown i hi)) hcp

theorem none_own {i : Nat} {own : List Nat} {A : Prop} (h : own.contains i = false) : i ∈ own → A := fun hi => by
  have : own.contains i = true := by simpa using hi
  rw [h] at this; simp at this
theorem none_cp {i : Nat} {cp : List (Nat × Nat)} {A : Nat → Prop} (h : cp.all (fun p => decide (p.1 ≠ i)) = true) : ∀ j, (i, j) ∈ cp → A j := fun j hj => by
  have := List.all_eq_true.1 h (i, j) hj
  simp at this

theorem steps_cons {o : Oper} {os : List Oper} {n : List Nat} {ns : List (List Nat)} {i : Nat}
    (h1 : ∀ (x : Nat → Value) (w : World), G w0 w → Known V x w n → wpList P all.toArray (StepQ a0 o.dst fun v w' => L x i w v w') [o] (fillOps x (all.take i) 0 a0) w)
    (h2 : Steps P V G L a0 w0 all os ns (i + 1)) : Steps P V G L a0 w0 all (o :: os) (n :: ns) i := ⟨h1, h2⟩
theorem steps_nil {i : Nat} {ns : List (List Nat)} : Steps P V G L a0 w0 all [] ns i := trivial
end
end Go.Rg
