/- A store of numbered things as a binary trie, and values renamed: what an address names is told by two functions. No program in sight. | An evaluator of the program's code over a memory of numbered blocks: one order, no draws; where it cannot tell what every run gives it gives nothing. Definitions only. | The evaluator, whole: regions in one order that stands for all, code, calls. Definitions only. -/
import Derived.Orders
import Derived.Laws.Sem
import Derived.Laws.World
import Derived.Below
import Derived.Laws.Tables
namespace Go.Ev

/-! ### a trie -/
inductive T (α : Type) where
  | nil
  | node (l : T α) (o : Option α) (r : T α)

noncomputable def T.get {α : Type} (t : T α) : Nat → Option α :=
  T.rec (motive := fun _ => Nat → Option α) (fun _ => none)
    (fun _ o _ gl gr n => match n with
      | 0 => o
      | m + 1 => match m % 2 with
        | 0 => gl (m / 2)
        | _ + 1 => gr (m / 2)) t

def T.left {α : Type} : T α → T α
  | .nil => .nil
  | .node l _ _ => l
def T.right {α : Type} : T α → T α
  | .nil => .nil
  | .node _ _ r => r
def T.top {α : Type} : T α → Option α
  | .nil => none
  | .node _ o _ => o

def T.putS {α : Type} (v : α) (ih : T α → Nat → T α) (t : T α) (n : Nat) : T α :=
  match n with
  | 0 => .node t.left (some v) t.right
  | m + 1 => match m % 2 with
    | 0 => .node (ih t.left (m / 2)) t.top t.right
    | _ + 1 => .node t.left t.top (ih t.right (m / 2))

noncomputable def T.put {α : Type} (k : Nat) (t : T α) (n : Nat) (v : α) : T α :=
  Nat.rec (motive := fun _ => T α → Nat → T α) (fun t _ => t) (fun _ ih => T.putS v ih) k t n

theorem T.get_nil {α : Type} (n : Nat) : (T.nil : T α).get n = none := rfl
theorem T.get_node_zero {α : Type} (l : T α) (o : Option α) (r : T α) : (T.node l o r).get 0 = o := rfl
theorem T.get_node_succ {α : Type} (l : T α) (o : Option α) (r : T α) (m : Nat) : (T.node l o r).get (m + 1) = match m % 2 with | 0 => l.get (m / 2) | _ + 1 => r.get (m / 2) := rfl

theorem T.get_zero {α : Type} (t : T α) : t.get 0 = t.top := by cases t <;> rfl
theorem T.get_succ {α : Type} (t : T α) (m : Nat) : t.get (m + 1) = if m % 2 = 0 then t.left.get (m / 2) else t.right.get (m / 2) := by
  cases t with
  | nil => by_cases h : m % 2 = 0 <;> simp [T.get_nil, T.left, T.right, h]
  | node l o r =>
    rw [T.get_node_succ]
    have h2 : m % 2 = 0 ∨ m % 2 = 1 := by omega
    rcases h2 with h | h <;> simp [T.left, T.right, h]

theorem T.put_at {α : Type} (k : Nat) (t : T α) (n : Nat) (v : α) : T.put (k + 1) t n v = T.putS v (fun t n => T.put k t n v) t n := rfl

theorem T.put_zero {α : Type} (k : Nat) (t : T α) (v : α) : T.put (k + 1) t 0 v = .node t.left (some v) t.right := rfl
theorem T.put_succ {α : Type} (k : Nat) (t : T α) (m : Nat) (v : α) :
    T.put (k + 1) t (m + 1) v = if m % 2 = 0 then .node (T.put k t.left (m / 2) v) t.top t.right else .node t.left t.top (T.put k t.right (m / 2) v) := by
  rw [T.put_at]
  unfold T.putS
  have h2 : m % 2 = 0 ∨ m % 2 = 1 := by omega
  rcases h2 with h | h <;> simp [h]

theorem T.get_put {α : Type} (v : α) : ∀ (k : Nat) (t : T α) (n i : Nat), n + 1 < 2 ^ k → (T.put k t n v).get i = if i = n then some v else t.get i := by
  intro k
  induction k with
  | zero => intro t n i h; omega
  | succ k ih =>
    intro t n i h
    cases n with
    | zero =>
      rw [T.put_zero]
      cases i with
      | zero => rfl
      | succ i => rw [T.get_succ, T.get_succ]; simp [T.left, T.right]
    | succ m =>
      rw [T.put_succ]
      have hb : m / 2 + 1 < 2 ^ k := by rw [Nat.pow_succ] at h; omega
      cases i with
      | zero => rw [T.get_zero, T.get_zero]; by_cases hm : m % 2 = 0 <;> simp [hm, T.top]
      | succ i =>
        rw [T.get_succ, T.get_succ]
        by_cases hm : m % 2 = 0 <;> by_cases hi : i % 2 = 0
        · simp only [hm, hi, if_true, T.left]
          rw [ih _ _ _ hb]
          have : (i / 2 = m / 2) ↔ (i + 1 = m + 1) := by omega
          simp only [this]
        · have : ¬ (i + 1 = m + 1) := by omega
          simp only [hm, hi, if_true, if_false, T.right, this]
        · have : ¬ (i + 1 = m + 1) := by omega
          simp only [hm, hi, if_true, if_false, T.left, this]
        · simp only [hm, hi, if_false, T.right]
          rw [ih _ _ _ hb]
          have : (i / 2 = m / 2) ↔ (i + 1 = m + 1) := by omega
          simp only [this]

theorem T.put_comm {α : Type} (u v : α) : ∀ (k : Nat) (t : T α) (n m : Nat), n ≠ m → T.put k (T.put k t n u) m v = T.put k (T.put k t m v) n u := by
  intro k
  induction k with
  | zero => intro t n m _; rfl
  | succ k ih =>
    intro t n m hne
    cases n with
    | zero =>
      cases m with
      | zero => exact absurd rfl hne
      | succ m =>
        rw [T.put_zero, T.put_succ, T.put_succ]
        by_cases h : m % 2 = 0 <;> simp [h, T.left, T.right, T.top, T.put_zero]
    | succ n =>
      cases m with
      | zero =>
        rw [T.put_zero, T.put_succ, T.put_succ]
        by_cases h : n % 2 = 0 <;> simp [h, T.left, T.right, T.top, T.put_zero]
      | succ m =>
        rw [T.put_succ, T.put_succ, T.put_succ, T.put_succ]
        by_cases h1 : n % 2 = 0 <;> by_cases h2 : m % 2 = 0 <;> simp only [h1, h2, if_true, if_false, T.left, T.right, T.top]
        · rw [ih _ _ _ (by omega)]
        · rw [ih _ _ _ (by omega)]

/-- how many numbers there are -/
def K : Nat := 48
def LIM : Nat := 140737488355328
theorem lim_ok {n : Nat} (h : n < LIM) : n + 1 < 2 ^ K := by unfold LIM at h; unfold K; omega

/-! ### values, renamed -/
def BIG : Nat := 18446744073709551616
/-- a slice's capacity: known, or (from BIG on) what its block has, less so many -/
def capR (g : Nat → Nat) (b cap : Nat) : Nat := if cap < BIG then cap else g b - (cap - BIG)
def adr (f : Nat → Nat) (a : Addr) : Addr := { a with block := f a.block }

def ren (f g : Nat → Nat) : Value → Value
  | .pointer (some a) => .pointer (some (adr f a))
  | .slice (some a) len cap => .slice (some (adr f a)) len (capR g a.block cap)
  | .map (some r) => .map (some (f r))
  | .chan (some r) => .chan (some (f r))
  | .func fn first captured => .func fn (first.attach.map fun x => ren f g x.1) (captured.attach.map fun x => ren f g x.1)
  | .iface t v => .iface t (ren f g v)
  | .agg cs => .agg (cs.attach.map fun x => ren f g x.1)
  | .tuple vs => .tuple (vs.attach.map fun x => ren f g x.1)
  | .bool b => .bool b
  | .int k n => .int k n
  | .float k n => .float k n
  | .complex k a b => .complex k a b
  | .string s => .string s
  | .pointer none => .pointer none
  | .slice none l c => .slice none l c
  | .map none => .map none
  | .chan none => .chan none
  | .nilFunc => .nilFunc
  | .nilIface => .nilIface
termination_by v => SizeOf.sizeOf v
decreasing_by
  all_goals simp_wf
  all_goals (first | omega | (have := Array.sizeOf_lt_of_mem x.2; omega))

/-- all blocks that a value names are such -/
def allB (p : Nat → Prop) : Value → Prop
  | .pointer (some a) => p a.block
  | .slice (some a) _ _ => p a.block
  | .map (some r) => p r
  | .chan (some r) => p r
  | .func _ first captured => (∀ x : { x // x ∈ first }, allB p x.1) ∧ (∀ x : { x // x ∈ captured }, allB p x.1)
  | .iface _ v => allB p v
  | .agg cs => ∀ x : { x // x ∈ cs }, allB p x.1
  | .tuple vs => ∀ x : { x // x ∈ vs }, allB p x.1
  | _ => True
termination_by v => SizeOf.sizeOf v
decreasing_by
  all_goals simp_wf
  all_goals (first | omega | (have := Array.sizeOf_lt_of_mem x.2; omega))

section
variable (f g : Nat → Nat)
theorem ren_pointer (a : Addr) : ren f g (.pointer (some a)) = .pointer (some (adr f a)) := by rw [ren]
theorem ren_nilptr : ren f g (.pointer none) = .pointer none := by rw [ren]
theorem ren_slice (a : Addr) (l c : Nat) : ren f g (.slice (some a) l c) = .slice (some (adr f a)) l (capR g a.block c) := by rw [ren]
theorem ren_nilslice (l c : Nat) : ren f g (.slice none l c) = .slice none l c := by rw [ren]
theorem ren_agg (cs : Array Value) : ren f g (.agg cs) = .agg (cs.map (ren f g)) := by rw [ren]; simp
theorem ren_tuple (cs : Array Value) : ren f g (.tuple cs) = .tuple (cs.map (ren f g)) := by rw [ren]; simp
theorem ren_func (fn : Fn) (a b : Array Value) : ren f g (.func fn a b) = .func fn (a.map (ren f g)) (b.map (ren f g)) := by rw [ren]; simp
theorem ren_iface (t : TypeId) (v : Value) : ren f g (.iface t v) = .iface t (ren f g v) := by rw [ren]
theorem ren_bool (b : Bool) : ren f g (.bool b) = .bool b := by rw [ren]
theorem ren_int (k : IntKind) (n : Int) : ren f g (.int k n) = .int k n := by rw [ren]
theorem ren_string (s : ByteArray) : ren f g (.string s) = .string s := by rw [ren]
theorem ren_nilFunc : ren f g .nilFunc = .nilFunc := by rw [ren]
theorem ren_nilIface : ren f g .nilIface = .nilIface := by rw [ren]
theorem ren_float (k : FloatKind) (n : Nat) : ren f g (.float k n) = .float k n := by rw [ren]
theorem ren_complex (k : FloatKind) (a b : Nat) : ren f g (.complex k a b) = .complex k a b := by rw [ren]
theorem ren_nilmap : ren f g (.map none) = .map none := by rw [ren]
theorem ren_nilchan : ren f g (.chan none) = .chan none := by rw [ren]
theorem ren_map (r : Nat) : ren f g (.map (some r)) = .map (some (f r)) := by rw [ren]
theorem ren_chan (r : Nat) : ren f g (.chan (some r)) = .chan (some (f r)) := by rw [ren]
theorem ren_undef : ren f g undef = undef := by unfold undef; rw [ren_tuple]; simp
end

section
variable (p : Nat → Prop)
theorem all_pointer (a : Addr) : allB p (.pointer (some a)) = p a.block := by rw [allB]
theorem all_nilptr : allB p (.pointer none) = True := by rw [allB] <;> simp
theorem all_slice (a : Addr) (l c : Nat) : allB p (.slice (some a) l c) = p a.block := by rw [allB]
theorem all_nilslice (l c : Nat) : allB p (.slice none l c) = True := by rw [allB] <;> simp
theorem all_agg (cs : Array Value) : allB p (.agg cs) ↔ ∀ x ∈ cs, allB p x := by rw [allB]; simp
theorem all_tuple (cs : Array Value) : allB p (.tuple cs) ↔ ∀ x ∈ cs, allB p x := by rw [allB]; simp
theorem all_func (fn : Fn) (a b : Array Value) : allB p (.func fn a b) ↔ (∀ x ∈ a, allB p x) ∧ (∀ x ∈ b, allB p x) := by rw [allB]; simp
theorem all_iface (t : TypeId) (v : Value) : allB p (.iface t v) = allB p v := by rw [allB]
theorem all_bool (b : Bool) : allB p (.bool b) = True := by rw [allB] <;> simp
theorem all_int (k : IntKind) (n : Int) : allB p (.int k n) = True := by rw [allB] <;> simp
theorem all_string (s : ByteArray) : allB p (.string s) = True := by rw [allB] <;> simp
theorem all_nilFunc : allB p .nilFunc = True := by rw [allB] <;> simp
theorem all_nilIface : allB p .nilIface = True := by rw [allB] <;> simp
theorem all_float (k : FloatKind) (n : Nat) : allB p (.float k n) = True := by rw [allB] <;> simp
theorem all_complex (k : FloatKind) (a b : Nat) : allB p (.complex k a b) = True := by rw [allB] <;> simp
theorem all_nilmap : allB p (.map none) = True := by rw [allB] <;> simp
theorem all_nilchan : allB p (.chan none) = True := by rw [allB] <;> simp
theorem all_map (r : Nat) : allB p (.map (some r)) = p r := by rw [allB]
theorem all_chan (r : Nat) : allB p (.chan (some r)) = p r := by rw [allB]
theorem all_undef : allB p undef := by unfold undef; rw [all_tuple]; simp
end

theorem all_mono {p q : Nat → Prop} (h : ∀ b, p b → q b) : ∀ v, allB p v → allB q v := by
  intro v
  induction v using ren.induct with
  | case1 a => rw [all_pointer, all_pointer]; exact h _
  | case2 a l c => rw [all_slice, all_slice]; exact h _
  | case3 r => rw [all_map, all_map]; exact h _
  | case4 r => rw [all_chan, all_chan]; exact h _
  | case5 fn a b iha ihb =>
    rw [all_func, all_func]
    exact fun ⟨h1, h2⟩ => ⟨fun x hx => iha ⟨x, hx⟩ (h1 x hx), fun x hx => ihb ⟨x, hx⟩ (h2 x hx)⟩
  | case6 t v ih => rw [all_iface, all_iface]; exact ih
  | case7 cs ih => rw [all_agg, all_agg]; exact fun h1 x hx => ih ⟨x, hx⟩ (h1 x hx)
  | case8 cs ih => rw [all_tuple, all_tuple]; exact fun h1 x hx => ih ⟨x, hx⟩ (h1 x hx)
  | case9 | case10 | case11 | case12 | case13 | case14 | case15 | case16 | case17 | case18 | case19 => intro _; rw [allB] <;> simp

theorem ren_congr {f g f' g' : Nat → Nat} {p : Nat → Prop} (hf : ∀ b, p b → f b = f' b) (hg : ∀ b, p b → g b = g' b) : ∀ v, allB p v → ren f g v = ren f' g' v := by
  intro v
  induction v using ren.induct with
  | case1 a => rw [all_pointer, ren_pointer, ren_pointer]; intro h; unfold adr; rw [hf _ h]
  | case2 a l c => rw [all_slice, ren_slice, ren_slice]; intro h; unfold adr capR; rw [hf _ h, hg _ h]
  | case3 r => rw [all_map, ren_map, ren_map]; intro h; rw [hf _ h]
  | case4 r => rw [all_chan, ren_chan, ren_chan]; intro h; rw [hf _ h]
  | case5 fn a b iha ihb =>
    rw [all_func, ren_func, ren_func]
    intro ⟨h1, h2⟩
    rw [Array.map_congr_left (fun x hx => iha ⟨x, hx⟩ (h1 x hx)), Array.map_congr_left (fun x hx => ihb ⟨x, hx⟩ (h2 x hx))]
  | case6 t v ih => rw [all_iface, ren_iface, ren_iface]; intro h; rw [ih h]
  | case7 cs ih => rw [all_agg, ren_agg, ren_agg]; intro h1; rw [Array.map_congr_left (fun x hx => ih ⟨x, hx⟩ (h1 x hx))]
  | case8 cs ih => rw [all_tuple, ren_tuple, ren_tuple]; intro h1; rw [Array.map_congr_left (fun x hx => ih ⟨x, hx⟩ (h1 x hx))]
  | case9 | case10 | case11 | case12 | case13 | case14 | case15 | case16 | case17 | case18 | case19 => intro _; rw [ren, ren]

/-! ### flat values: no address in them -/
def flatN : Nat → Value → Bool
  | 0, _ => false
  | d + 1, v => match v with
    | .bool _ | .int .. | .float .. | .complex .. | .string _ | .nilFunc | .nilIface => true
    | .pointer none | .slice none _ _ | .map none | .chan none => true
    | .func _ a b => a.toList.all (flatN d) && b.toList.all (flatN d)
    | .iface _ v => flatN d v
    | .agg cs => cs.toList.all (flatN d)
    | .tuple cs => cs.toList.all (flatN d)
    | _ => false

theorem map_id_of {cs : Array Value} {h : Value → Value} (hh : ∀ x ∈ cs, h x = x) : cs.map h = cs := by
  conv => rhs; rw [← Array.map_id cs]
  exact Array.map_congr_left hh

theorem flat_ren (f g : Nat → Nat) : ∀ (d : Nat) (v : Value), flatN d v = true → ren f g v = v := by
  intro d
  induction d with
  | zero => intro v h; simp [flatN] at h
  | succ d ih =>
    intro v h
    have many : ∀ cs : Array Value, cs.toList.all (flatN d) = true → cs.map (ren f g) = cs := fun cs hc =>
      map_id_of fun x hx => ih x (List.all_eq_true.1 hc x (Array.mem_def.1 hx))
    cases v with
    | pointer a => cases a with | none => exact ren_nilptr f g | some a => simp [flatN] at h
    | slice a l c => cases a with | none => exact ren_nilslice f g l c | some a => simp [flatN] at h
    | map a => cases a with | none => exact ren_nilmap f g | some a => simp [flatN] at h
    | chan a => cases a with | none => exact ren_nilchan f g | some a => simp [flatN] at h
    | func fn a b =>
      simp only [flatN, Bool.and_eq_true] at h
      rw [ren_func, many a h.1, many b h.2]
    | iface t v => rw [ren_iface, ih v (by simpa [flatN] using h)]
    | agg cs => rw [ren_agg, many cs (by simpa only [flatN] using h)]
    | tuple cs => rw [ren_tuple, many cs (by simpa only [flatN] using h)]
    | _ => rw [ren]

theorem flat_all (p : Nat → Prop) : ∀ (d : Nat) (v : Value), flatN d v = true → allB p v := by
  intro d
  induction d with
  | zero => intro v h; simp [flatN] at h
  | succ d ih =>
    intro v h
    have many : ∀ cs : Array Value, cs.toList.all (flatN d) = true → ∀ x ∈ cs, allB p x := fun cs hc x hx =>
      ih x (List.all_eq_true.1 hc x (Array.mem_def.1 hx))
    cases v with
    | pointer a => cases a with | none => rw [all_nilptr]; trivial | some a => simp [flatN] at h
    | slice a l c => cases a with | none => rw [all_nilslice]; trivial | some a => simp [flatN] at h
    | map a => cases a with | none => rw [all_nilmap]; trivial | some a => simp [flatN] at h
    | chan a => cases a with | none => rw [all_nilchan]; trivial | some a => simp [flatN] at h
    | func fn a b =>
      simp only [flatN, Bool.and_eq_true] at h
      rw [all_func]; exact ⟨many a h.1, many b h.2⟩
    | iface t v => rw [all_iface]; exact ih v (by simpa [flatN] using h)
    | agg cs => rw [all_agg]; exact many cs (by simpa only [flatN] using h)
    | tuple cs => rw [all_tuple]; exact many cs (by simpa only [flatN] using h)
    | _ => rw [allB] <;> simp

end Go.Ev

namespace Go.Ev

/-- what a block holds, as far as it is known: the first cells of a row (fixed, or of a row with room that is not known), an iterator over a text; or nothing is known any more -/
inductive AO where
  | cells (c : List Value) (elem : TypeId)
  | grow (c : List Value) (elem : TypeId)
  | iter (s : ByteArray) (pos : Nat)
  | dead

structure H where
  t : T AO
  nx : Nat

structure St where
  fr : T Value
  nt : Nat
  h : H

noncomputable def H.get (h : H) (b : Nat) : Option AO := h.t.get b
noncomputable def H.put (h : H) (b : Nat) (o : AO) : H := { h with t := T.put K h.t b o }

noncomputable def opd (fr : T Value) : Operand → Value
  | .tmp t => match fr.get t with | some v => v | none => undef
  | .const v => v
  | .global g => .pointer (some ⟨g, 0, none⟩)
  | .func f => .func (.func f) #[] #[]

noncomputable def flat (v : Value) : Bool := flatN 5 v

/-- what a computation gives that asks neither memory nor the tape -/
noncomputable def pureRun {α : Type} (P : Program) : Sem α → Option α
  | .pure a => some a
  | .program k => pureRun P (k P)
  | .mark _ k => pureRun P k
  | _ => none

noncomputable def isAggT (P : Program) (t : TypeId) : Option Bool :=
  match P.underlying t with
  | some (.struct _) => some true
  | some (.array _ _) => some true
  | some _ => some false
  | none => none

noncomputable def szOf (P : Program) (t : TypeId) : Option Nat := (P.info? t).map (·.size)

noncomputable def cellsV : Value → List Value
  | .agg cs => cs.toList
  | v => [v]

noncomputable def rowOf (h : H) (b : Nat) : Option (List Value × TypeId) :=
  match h.get b with
  | some (.cells c e) => some (c, e)
  | some (.grow c e) => some (c, e)
  | _ => none

/-- n cells from an address on -/
noncomputable def ldN (h : H) (a : Addr) (n : Nat) : Option (List Value) :=
  match a.spot with
  | some _ => none
  | none => match rowOf h a.block with
    | some (c, _) => match Nat.ble (a.off + n) c.length with
      | true => some ((c.drop a.off).take n)
      | false => none
    | none => none

noncomputable def evLoad (P : Program) (h : H) (t : TypeId) (a : Addr) : Option Value :=
  match isAggT P t with
  | some true => match szOf P t with
    | some n => match ldN h a n with
      | some l => some (.agg ⟨l⟩)
      | none => none
    | none => none
  | some false => match ldN h a 1 with
    | some [v] => some v
    | _ => none
  | none => none

/-- one cell's value -/
noncomputable def one : Value → Bool
  | .agg _ => false
  | .tuple _ => false
  | _ => true

noncomputable def splice (c : List Value) (off : Nat) (l : List Value) : List Value := c.take off ++ (l ++ c.drop (off + l.length))

/-- cells written from an address on, into a block of the run's own -/
noncomputable def stN (ro : Nat) (h : H) (a : Addr) (l : List Value) : Option H :=
  match a.spot, Nat.ble ro a.block, l.all one with
  | none, true, true => match h.get a.block with
    | some (.cells c e) => match Nat.ble (a.off + l.length) c.length with
      | true => some (h.put a.block (.cells (splice c a.off l) e))
      | false => none
    | some (.grow c e) => match Nat.ble (a.off + l.length) c.length with
      | true => some (h.put a.block (.grow (splice c a.off l) e))
      | false => none
    | _ => none
  | _, _, _ => none

noncomputable def evStore (P : Program) (ro : Nat) (h : H) (t : TypeId) (a : Addr) (v : Value) : Option H :=
  match szOf P t with
  | some n => match Nat.beq (cellsV v).length n with
    | true => stN ro h a (cellsV v)
    | false => none
  | none => none

noncomputable def partOf (P : Program) (t : TypeId) (cs : List Value) (off : Nat) : Option Value :=
  match isAggT P t with
  | some true => match szOf P t with
    | some n => some (.agg ⟨(cs.drop off).take n⟩)
    | none => none
  | some false => match cs.drop off with
    | v :: _ => some v
    | [] => none
  | none => none

/-- a bound: an integer from 0 to y -/
noncomputable def bnd (y : Nat) : Option Value → Nat → Option Nat
  | none, d => some d
  | some (.int _ (.ofNat n)), _ => match Nat.ble n y with
    | true => some n
    | false => none
  | some _, _ => none

noncomputable def evSlice (P : Program) (h : H) (t : TypeId) (x : Value) (lo hi mx : Option Value) : Option Value :=
  match mx, P.underlying t, x with
  | none, some (.array n e), .pointer (some a) => match szOf P e, bnd n hi n, Nat.blt n BIG with
    | some size, some b, true => match bnd b lo 0 with
      | some l => some (.slice (some (if n = l then a else a.add (l * size))) (b - l) (n - l))
      | none => none
    | _, _, _ => none
  | none, some (.slice e), .slice (some a) len cap => match szOf P e with
    | none => none
    | some size => match Nat.blt cap BIG with
      | true => match bnd cap hi len with
        | some b => match bnd b lo 0 with
          | some l => some (.slice (some (if cap = l then a else a.add (l * size))) (b - l) (cap - l))
          | none => none
        | none => none
      | false => match h.get a.block, bnd len hi len with
        | some (.grow c e'), some b => match bnd b lo 0 with
          | some l =>
            -- the row has more than is cut off
            match Nat.beq e e', Nat.ble ((cap - BIG) * size + len * size) c.length, (Nat.beq l 0 || Nat.blt ((cap - BIG) * size + l * size) c.length) with
            | true, true, true => some (.slice (some (a.add (l * size))) (b - l) (cap + l))
            | _, _, _ => none
          | none => none
        | _, _ => none
  | _, _, _ => none

noncomputable def zerosOf (P : Program) (e : TypeId) (n : Nat) : Option (List Value) :=
  match P.info? e with
  | some i => match i.zero with
    | some z => match flat z, Nat.beq (cellsV z).length i.size, Nat.blt n BIG with
      | true, true, true => some (List.flatten (List.replicate n (cellsV z)))
      | _, _, _ => none
    | none => none
  | none => none

noncomputable def byteOf : Value → Option UInt8
  | .int .u8 n => some (UInt8.ofNat n.toNat)
  | _ => none

noncomputable def bytesOf : List Value → Option (List UInt8)
  | [] => some []
  | v :: l => match byteOf v, bytesOf l with
    | some b, some r => some (b :: r)
    | _, _ => none

noncomputable def bytesV (s : ByteArray) : List Value := s.data.toList.map fun b => .int .u8 b.toNat

/-- an operation on values without addresses -/
noncomputable def evFlat (P : Program) (o : Oper) (ρ : Operand → Value) : Option Value :=
  match o.op.operands.toList.all (fun x => flat (ρ x)) with
  | true => match pureRun P (execOp ρ o) with
    | some (.value v) => match flat v with
      | true => some v
      | false => none
    | _ => none
  | false => none

/-- '==' where an address is on one side, nil on the other; or one address on both -/
noncomputable def evEq (P : Program) (t : TypeId) (x y : Value) : Option Bool :=
  match P.underlying t, x, y with
  | some (.pointer _), .pointer (some _), .pointer none => some false
  | some (.pointer _), .pointer none, .pointer (some _) => some false
  | some (.slice _), .slice (some _) _ _, .slice none _ _ => some false
  | some (.slice _), .slice none _ _, .slice (some _) _ _ => some false
  | some (.func ..), .func .., .nilFunc => some false
  | some (.func ..), .nilFunc, .func .. => some false
  | some (.interface _), .iface .., .nilIface => some false
  | some (.interface _), .nilIface, .iface .. => some false
  | _, _, _ => none

/-- how many bits a number of a kind has that isn't negative -/
noncomputable def mbits : IntKind → Nat
  | .i8 => 7
  | .u8 => 8
  | .i16 => 15
  | .u16 => 16
  | .i32 => 31
  | .u32 => 32
  | .i64 => 63
  | .u64 => 64

noncomputable def bitOp (k : IntKind) (f : Nat → Nat → Nat) (a b : Int) : Option Value :=
  match a, b with
  | .ofNat x, .ofNat y => match Nat.blt x (2 ^ mbits k), Nat.blt y (2 ^ mbits k) with
    | true, true => some (.int k (.ofNat (f x y)))
    | _, _ => none
  | _, _ => none

/-- two integers of one kind -/
noncomputable def intOp (op : BinOp) (k : IntKind) (a b : Int) : Option Value :=
  match op with
  | .add => some (.int k (k.wrap (a + b)))
  | .sub => some (.int k (k.wrap (a - b)))
  | .mul => some (.int k (k.wrap (a * b)))
  | .eql => some (.bool (a == b))
  | .neq => some (.bool (a != b))
  | .lss => some (.bool (a < b))
  | .leq => some (.bool (a ≤ b))
  | .gtr => some (.bool (a > b))
  | .geq => some (.bool (a ≥ b))
  | .quo => match b with
    | .ofNat (n + 1) => some (.int k (k.wrap (a.tdiv (.ofNat (n + 1)))))
    | _ => none
  | .rem => match b with
    | .ofNat (n + 1) => some (.int k (a.tmod (.ofNat (n + 1))))
    | _ => none
  | .and => bitOp k Nat.land a b
  | .or => bitOp k Nat.lor a b
  | .xor => bitOp k Nat.xor a b
  | _ => none

noncomputable def shl1 (k : IntKind) (a b : Int) : Option Value :=
  match a, b with
  | .ofNat x, .ofNat n => match Nat.ble n k.bits with
    | true => some (.int k (k.wrap (.ofNat (x * 2 ^ n))))
    | false => none
  | _, _ => none

noncomputable def shr1 (k : IntKind) (a b : Int) : Option Value :=
  match a, b with
  | .ofNat x, .ofNat n => match Nat.ble n k.bits with
    | true => some (.int k (.ofNat (x / 2 ^ n)))
    | false => none
  | _, _ => none

noncomputable def shOp (op : BinOp) (k : IntKind) (a b : Int) : Option Value :=
  match op with
  | .shl => shl1 k a b
  | .shr => shr1 k a b
  | _ => none

noncomputable def eqL : List UInt8 → List UInt8 → Bool
  | [], [] => true
  | a :: x, b :: y => match Nat.beq a.toNat b.toNat with
    | true => eqL x y
    | false => false
  | _, _ => false

noncomputable def strOp (op : BinOp) (a b : ByteArray) : Option Value :=
  match op with
  | .add => match Nat.ble (a.size + b.size) 1073741824 with
    | true => some (.string ⟨⟨a.data.toList ++ b.data.toList⟩⟩)
    | false => none
  | .eql => some (.bool (eqL a.data.toList b.data.toList))
  | .neq => some (.bool (!eqL a.data.toList b.data.toList))
  | _ => none

abbrev NE := Option (Value × Option AO)

noncomputable def val1 : Option Value → NE
  | some v => some (v, none)
  | none => none

noncomputable def neFlat (P : Program) (o : Oper) (ρ : Operand → Value) : NE := val1 (evFlat P o ρ)

noncomputable def nePick (c a b : Value) : NE :=
  match c with
  | .bool true => some (a, none)
  | .bool false => some (b, none)
  | _ => none

noncomputable def neAlloc (P : Program) (nm e : Nat) : NE :=
  match P.info? e with
  | some i => match i.zero with
    | some z => match flat z with
      | true => some (.pointer (some ⟨nm, 0, none⟩), some (.cells (cellsV z) e))
      | false => none
    | none => none
  | none => none

noncomputable def neBuild (P : Program) (t : TypeId) (ps : List (Nat × Value)) : NE :=
  match P.info? t with
  | some i => match i.zero with
    | some z => match flat z, P.built t ps with
      | true, some cs => some (.agg cs, none)
      | _, _ => none
    | none => none
  | none => none

noncomputable def neBuildSlice (P : Program) (nm : Nat) (t : TypeId) (len : Nat) (ps : List (Nat × Value)) : NE :=
  match P.underlying t with
  | some (.slice e) => match P.info? e, zerosOf P e len with
    | some i, some zs => match Nat.ble (len * i.size) 65536 with
      | true => match Instr.fill (fun j => some (j * i.size, i.size)) ⟨zs⟩ ps with
        | some cs => some (.slice (some ⟨nm, 0, none⟩) len len, some (.cells cs.toList e))
        | none => none
      | _ => none
    | _, _ => none
  | _ => none

noncomputable def neLoad (P : Program) (h : H) (t : TypeId) (a : Value) : NE :=
  match a with
  | .pointer (some a) => val1 (evLoad P h t a)
  | _ => none

noncomputable def neNil (x : Value) : NE :=
  match x with
  | .pointer (some a) => some (.pointer (some a), none)
  | .func (.func f) a b => some (.func (.func f) a b, none)
  | .iface t v => some (.iface t v, none)
  | _ => none

noncomputable def neEq (P : Program) (op : BinOp) (t : TypeId) (x y : Value) : NE :=
  match op, evEq P t x y with
  | .eql, some b => some (.bool b, none)
  | .neq, some b => some (.bool (!b), none)
  | _, _ => none

noncomputable def neBin2 (P : Program) (o : Oper) (ρ : Operand → Value) (op : BinOp) (t : TypeId) (x y : Value) : NE :=
  match flat x && flat y with
  | true => neFlat P o ρ
  | false => neEq P op t x y

noncomputable def neBin (P : Program) (o : Oper) (ρ : Operand → Value) (op : BinOp) (t : TypeId) (x y : Value) : NE :=
  match x, y with
  | .int k a, .int l b => match shOp op k a b with
    | some v => some (v, none)
    | none => match decide (k = l), intOp op k a b with
      | true, some v => some (v, none)
      | _, _ => neFlat P o ρ
  | .string a, .string b => match strOp op a b with
    | some v => some (v, none)
    | none => neFlat P o ρ
  | x, y => neBin2 P o ρ op t x y

noncomputable def neConvS (P : Program) (nm e : Nat) (s : ByteArray) : NE :=
  match P.underlying e, szOf P e with
  | some (.int .u8), some 1 => match Nat.ble s.size 1048576 with
    | true => some (.slice (some ⟨nm, 0, none⟩) s.size BIG, some (.grow (bytesV s) e))
    | false => none
  | _, _ => none

noncomputable def neConvB (P : Program) (h : H) (e : Nat) (a : Addr) (len : Nat) : NE :=
  match P.underlying e, ldN h a len with
  | some (.int .u8), some l => match bytesOf l with
    | some bs => some (.string ⟨⟨bs⟩⟩, none)
    | none => none
  | _, _ => none

noncomputable def neConv (P : Program) (nm : Nat) (h : H) (o : Oper) (ρ : Operand → Value) (src dst : TypeId) (x : Value) : NE :=
  match P.underlying src, P.underlying dst, x with
  | some .string, some (.slice e), .string s => neConvS P nm e s
  | some (.slice e), some .string, .slice (some a) len _ => neConvB P h e a len
  | some (.int _), some (.int k), .int _ n => some (.int k (k.wrap n), none)
  | _, _, _ => neFlat P o ρ

noncomputable def neS2A (P : Program) (arr : TypeId) (x : Value) : NE :=
  match P.underlying arr, x with
  | some (.array n _), .slice (some a) len _ => match Nat.ble n len with
    | true => some (.pointer (some a), none)
    | false => none
  | _, _ => none

noncomputable def neIface (P : Program) (t : TypeId) (x : Value) : NE :=
  match P.underlying t with
  | some (.interface _) => none
  | some _ => some (.iface t x, none)
  | none => none

noncomputable def neMake (P : Program) (nm : Nat) (t : TypeId) (l c : Value) : NE :=
  match P.underlying t, l, c with
  | some (.slice e), .int _ (.ofNat n), .int _ (.ofNat m) => match zerosOf P e m, P.info? e, Nat.ble n m, Nat.ble m 1048576 with
    | some zs, some i, true, true => match Nat.ble i.bytes 65536 with
      | true => some (.slice (some ⟨nm, 0, none⟩) n m, some (.cells zs e))
      | false => none
    | _, _, _, _ => none
  | _, _, _ => none

noncomputable def neUn (P : Program) (o : Oper) (ρ : Operand → Value) (op : UnOp) (x : Value) : NE :=
  match op, x with
  | .not, .bool b => some (.bool (!b), none)
  | _, _ => neFlat P o ρ

noncomputable def neSliceS (s : ByteArray) (lo hi : Option Value) : NE :=
  match bnd s.size hi s.size with
  | some h => match bnd h lo 0 with
    | some l => some (.string ⟨⟨(s.data.toList.drop l).take (h - l)⟩⟩, none)
    | none => none
  | none => none

noncomputable def neSlice (P : Program) (h : H) (o : Oper) (ρ : Operand → Value) (t : TypeId) (x : Value) (lo hi mx : Option Value) : NE :=
  match x with
  | .string s => match mx, P.underlying t with
    | none, some .string => neSliceS s lo hi
    | _, _ => none
  | .slice none _ _ => neFlat P o ρ
  | x => val1 (evSlice P h t x lo hi mx)

noncomputable def neFieldAddr (P : Program) (s : TypeId) (x : Value) (j : Nat) : NE :=
  match P.underlying s, x with
  | some (.struct fs), .pointer (some a) => match fs[j]? with
    | some f => match szOf P f.type with
      | some (_ + 1) => some (.pointer (some (a.add f.offset)), none)
      | _ => none
    | none => none
  | _, _ => none

noncomputable def neField (P : Program) (t : TypeId) (x : Value) (j : Nat) : NE :=
  match P.underlying t, x with
  | some (.struct fs), .agg cs => match fs[j]? with
    | some f => val1 (partOf P f.type cs.toList f.offset)
    | none => none
  | _, _ => none

noncomputable def neIndexAddr (P : Program) (t : TypeId) (x i : Value) : NE :=
  match P.underlying t, x, i with
  | some (.array n e), .pointer (some a), .int _ (.ofNat k) => match Nat.blt k n, szOf P e with
    | true, some sz => some (.pointer (some (a.add (k * sz))), none)
    | _, _ => none
  | some (.slice e), .slice (some a) len _, .int _ (.ofNat k) => match Nat.blt k len, szOf P e with
    | true, some sz => some (.pointer (some (a.add (k * sz))), none)
    | _, _ => none
  | _, _, _ => none

noncomputable def neIndex (P : Program) (o : Oper) (ρ : Operand → Value) (t : TypeId) (x i : Value) : NE :=
  match x with
  | .agg cs => match P.underlying t, i with
    | some (.array n e), .int _ (.ofNat k) => match Nat.blt k n, szOf P e with
      | true, some sz => val1 (partOf P e cs.toList (k * sz))
      | _, _ => none
    | _, _ => none
  | .string s => match P.underlying t, i with
    | some .string, .int _ (.ofNat k) => match s.data.toList.drop k with
      | b :: _ => some (.int .u8 b.toNat, none)
      | [] => none
    | _, _ => none
  | _ => neFlat P o ρ

noncomputable def neExtract (x : Value) (i : Nat) : NE :=
  match x with
  | .tuple vs => match vs.toList.drop i with
    | v :: _ => some (v, none)
    | [] => none
  | _ => none

noncomputable def neRange (P : Program) (nm : Nat) (t : TypeId) (x : Value) : NE :=
  match P.underlying t, x with
  | some .string, .string s => some (.pointer (some ⟨nm, 0, none⟩), some (.iter s 0))
  | _, _ => none

noncomputable def neLen (P : Program) (o : Oper) (ρ : Operand → Value) (args : List Operand) (ts : List TypeId) : NE :=
  match args, ts with
  | x :: _, t :: _ => match P.underlying t, ρ x with
    | some (.slice _), .slice (some _) n _ => some (.int .i64 n, none)
    | some .string, .string s => some (.int .i64 s.size, none)
    | some (.array n _), _ => some (.int .i64 n, none)
    | _, _ => neFlat P o ρ
  | _, _ => none

noncomputable def neCap (P : Program) (o : Oper) (ρ : Operand → Value) (args : List Operand) (ts : List TypeId) : NE :=
  match args, ts with
  | x :: _, t :: _ => match P.underlying t, ρ x with
    | some (.slice _), .slice (some _) _ n => match Nat.blt n BIG with
      | true => some (.int .i64 n, none)
      | false => none
    | _, _ => neFlat P o ρ
  | _, _ => none

noncomputable def neCall (P : Program) (o : Oper) (ρ : Operand → Value) (c : Call) : NE :=
  match c.callee with
  | .builtin .len => neLen P o ρ c.args.toList c.argTypes.toList
  | .builtin .cap => neCap P o ρ c.args.toList c.argTypes.toList
  | _ => neFlat P o ρ

/-- an operation that writes nothing and runs no code: its value, and what stands in the block that it makes (number nm) -/
noncomputable def evNE (P : Program) (nm : Nat) (h : H) (o : Oper) (ρ : Operand → Value) : NE :=
  match o.op with
  | .move x => some (ρ x, none)
  | .assign x => some (ρ x, none)
  | .pick c a b => nePick (ρ c) (ρ a) (ρ b)
  | .alloc e => neAlloc P nm e
  | .box e x => some (.pointer (some ⟨nm, 0, none⟩), some (.cells (cellsV (ρ x)) e))
  | .build t ps => neBuild P t (ps.toList.map fun (j, x) => (j, ρ x))
  | .buildSlice t len ps => neBuildSlice P nm t len (ps.toList.map fun (j, x) => (j, ρ x))
  | .load t a => neLoad P h t (ρ a)
  | .nilCheck x => neNil (ρ x)
  | .binOp op t x y _ => neBin P o ρ op t (ρ x) (ρ y)
  | .unOp op _ x => neUn P o ρ op (ρ x)
  | .convert src dst x => neConv P nm h o ρ src dst (ρ x)
  | .sliceToArrayPointer arr x => neS2A P arr (ρ x)
  | .makeInterface t x => neIface P t (ρ x)
  | .makeFunc fn a b => some (.func fn (a.map ρ) (b.map ρ), none)
  | .makeSlice t l c => neMake P nm t (ρ l) (ρ c)
  | .slice t x lo hi mx => neSlice P h o ρ t (ρ x) (lo.map ρ) (hi.map ρ) (mx.map ρ)
  | .fieldAddr s x j => neFieldAddr P s (ρ x) j
  | .field t x j => neField P t (ρ x) j
  | .indexAddr t x i => neIndexAddr P t (ρ x) (ρ i)
  | .index t x i => neIndex P o ρ t (ρ x) (ρ i)
  | .extract t i => neExtract (ρ t) i
  | .range t x => neRange P nm t (ρ x)
  | .call c => neCall P o ρ c
  | _ => neFlat P o ρ

/-- the appended cells -/
noncomputable def srcOf (h : H) (size : Nat) : Value → Option (Nat × List Value)
  | .slice none 0 _ => some (0, [])
  | .slice (some a) n _ => match ldN h a (n * size) with
    | some l => some (n, l)
    | none => none
  | .string s => some (s.size, bytesV s)
  | _ => none

noncomputable def zOk (i : TypeInfo) : Bool :=
  match i.zero with
  | some z => Nat.beq (cellsV z).length i.size && flat z
  | none => false

noncomputable def apOk (h : H) (i : TypeInfo) (n : Nat) (new : List Value) : Bool :=
  Nat.blt h.nx LIM && (Nat.ble i.bytes 65536 && (zOk i && (Nat.beq new.length (n * i.size) && (Nat.ble n 1048576 && (Nat.blt 0 i.size && new.all one)))))

/-- a new row, with room that is not known -/
noncomputable def apNew (h : H) (e : TypeId) (n : Nat) (cs : List Value) : Option (Value × H) :=
  some (.slice (some ⟨h.nx, 0, none⟩) n BIG, { h.put h.nx (.grow cs e) with nx := h.nx + 1 })

noncomputable def apKnown (ro : Nat) (h : H) (e : TypeId) (size n : Nat) (new : List Value) (a : Addr) (len cap : Nat) : Option (Value × H) :=
  match Nat.ble (len + n) cap with
  | true => match stN ro h (a.add (len * size)) new with
    | some h' => some (.slice (some a) (len + n) cap, h')
    | none => none
  | false => match ldN h a (len * size), Nat.ble len cap with
    | some old, true => apNew h e (len + n) (old ++ new)
    | _, _ => none

noncomputable def apBig (ro : Nat) (h : H) (e : TypeId) (size n : Nat) (new : List Value) (a : Addr) (len cap : Nat) : Option (Value × H) :=
  match h.get a.block, a.spot with
  | some (.grow c e'), none => match Nat.beq e e' && (Nat.ble c.length 1048576 && Nat.ble ((cap - BIG) * size + len * size) c.length) with
    | true => match n with
      | 0 => some (.slice (some a) len cap, h)
      | _ + 1 => match Nat.beq a.off 0 && (Nat.beq cap BIG && Nat.ble ro a.block) with
        | true => some (.slice (some ⟨h.nx, 0, none⟩) (len + n) BIG, { (h.put h.nx (.grow (c.take (len * size) ++ new) e)).put a.block .dead with nx := h.nx + 1 })
        | false => none
    | false => none
  | _, _ => none

noncomputable def apGo (ro : Nat) (h : H) (e : TypeId) (size n : Nat) (new : List Value) (s : Value) : Option (Value × H) :=
  match s with
  | .slice none 0 0 => match n with
    | 0 => some (.slice none 0 0, h)
    | _ + 1 => apNew h e n new
  | .slice (some a) len cap => match Nat.ble len 1048576, Nat.blt cap BIG with
    | true, true => apKnown ro h e size n new a len cap
    | true, false => apBig ro h e size n new a len cap
    | _, _ => none
  | _ => none

noncomputable def evAppend (P : Program) (ro : Nat) (h : H) (ts : List TypeId) (args : List Value) : Option (Value × H) :=
  match ts, args with
  | st :: xt :: _, s :: x :: _ => match P.underlying st, P.underlying xt with
    | some (.slice _), some (.int _) => none
    | some (.slice e), some _ => match P.info? e with
      | some i => match srcOf h i.size x with
        | some (n, new) => match apOk h i n new with
          | true => apGo ro h e i.size n new s
          | false => none
        | none => none
      | none => none
    | _, _ => none
  | _, _ => none

noncomputable def cpGo (ro : Nat) (h : H) (size : Nat) (a : Addr) (dl : Nat) (x : Value) : Option (Value × H) :=
  match x with
  | .slice (some b) n _ => match ldN h b (Nat.min n dl * size) with
    | some l => match stN ro h a l with
      | some h' => some (.int .i64 (Nat.min n dl : Nat), h')
      | none => none
    | none => none
  | .string s => match stN ro h a ((bytesV s).take (Nat.min s.size dl)) with
    | some h' => some (.int .i64 (Nat.min s.size dl : Nat), h')
    | none => none
  | _ => none

noncomputable def evCopy (P : Program) (ro : Nat) (h : H) (ts : List TypeId) (args : List Value) : Option (Value × H) :=
  match ts, args with
  | dt :: _, d :: x :: _ => match P.underlying dt with
    | some (.slice e) => match szOf P e, d with
      | some size, .slice (some a) dl _ => cpGo ro h size a dl x
      | _, _ => none
    | _ => none
  | _, _ => none

noncomputable def effStore (P : Program) (ro : Nat) (h : H) (t : TypeId) (a x : Value) : Option (Value × H) :=
  match a with
  | .pointer (some a) => match evStore P ro h t a x with
    | some h' => some (undef, h')
    | none => none
  | _ => none

noncomputable def effNext (ro : Nat) (h : H) (it : Value) : Option (Value × H) :=
  match it with
  | .pointer (some ⟨b, 0, none⟩) => match Nat.ble ro b, h.get b with
    | true, some (.iter s pos) => match Nat.blt pos s.size with
      | true => some (.tuple #[.bool true, .int .i64 pos, .int .i32 (Utf8.decode s pos).1], h.put b (.iter s (pos + (Utf8.decode s pos).2)))
      | false => some (.tuple #[.bool false], h)
    | _, _ => none
  | _ => none

noncomputable def effUStr (P : Program) (ro : Nat) (h : H) (ts : List TypeId) (args : List Value) : Option (Value × H) :=
  match ts, args with
  | pt :: _, [.pointer (some a), .int _ (.ofNat (n + 1))] => match P.underlying pt, h.get a.block, ldN h a (n + 1) with
    | some (.pointer e'), some (.cells c e), some l => match liesAt P P.depth e (c.length / P.cellsOf e) a.off e' (n + 1), bytesOf l, Nat.ble ro a.block, Nat.ble n 1048576 with
      | true, some bs, true, true => some (.string ⟨⟨bs⟩⟩, h.put a.block .dead)
      | _, _, _, _ => none
    | _, _, _ => none
  | _, _ => none

noncomputable def effCall (P : Program) (call : FuncId → List Value → H → Option (Value × H)) (h : H) (o : Oper) (ρ : Operand → Value) (x : Value) (args : List Value) : Option (Value × H) :=
  match x with
  | .func (.func f) first cap => match P.funcs[f]? with
    | some fn => match fn.body with
      | some _ => match fn.name == "runtime.NumGoroutine" with
        | true => none
        | false => call f (first.toList ++ (args ++ cap.toList)) h
      | none => match evFlat P o ρ with
        | some v => some (v, h)
        | none => none
    | none => none
  | _ => none

/-- an operation that writes, or runs code -/
noncomputable def evEff (P : Program) (ro : Nat) (call : FuncId → List Value → H → Option (Value × H)) (h : H) (o : Oper) (ρ : Operand → Value) : Option (Value × H) :=
  match o.op with
  | .store t a x => effStore P ro h t (ρ a) (ρ x)
  | .next it true => effNext ro h (ρ it)
  | .call c => match c.callee with
    | .builtin .append => evAppend P ro h c.argTypes.toList (c.args.toList.map ρ)
    | .builtin .copy => evCopy P ro h c.argTypes.toList (c.args.toList.map ρ)
    | .builtin .unsafeString => effUStr P ro h c.argTypes.toList (c.args.toList.map ρ)
    | .value x => effCall P call h o ρ (ρ x) (c.args.toList.map ρ)
    | _ => none
  | _ => none

/-- 0: of values alone; 1: reads; 2: makes a block; 3: writes, or runs code -/
noncomputable def cls (P : Program) (o : Oper) : Nat :=
  match o.op with
  | .load .. | .slice .. => 1
  | .alloc _ | .box .. | .buildSlice .. | .makeSlice .. | .range .. => 2
  | .convert src dst _ => match P.underlying src, P.underlying dst with
    | some .string, some (.slice _) => 2
    | some (.slice _), some .string => 1
    | _, _ => 0
  | .store .. | .next .. => 3
  | .call c => match c.callee with
    | .builtin .len | .builtin .cap | .builtin .min | .builtin .max => 0
    | _ => 3
  | _ => 0

noncomputable def putD (s : St) (d : Option Tmp) (v : Value) : Option St :=
  match d with
  | none => some s
  | some d => match Nat.blt d s.nt with
    | true => some { s with fr := T.put K s.fr d v }
    | false => none

noncomputable def yieldV (ops : Array Oper) (fr : T Value) (j : Nat) : Option Bool :=
  match (ops[j]?).bind (·.dst) with
  | some t => match opd fr (.tmp t) with
    | .bool b => some b
    | _ => none
  | none => none

/-- is an operation wanted? (its guard's test read) -/
noncomputable def wantV (ops : Array Oper) (o : Oper) (fr : T Value) : Bool :=
  match o.guard with
  | none => true
  | some (j, w) => match yieldV ops fr j, w with
    | some true, true => true
    | some false, false => true
    | _, _ => false

/-- the operation number i of a region whose blocks are numbered from base on -/
noncomputable def step1 (P : Program) (ro : Nat) (call : FuncId → List Value → H → Option (Value × H)) (ops : Array Oper) (base i : Nat) (o : Oper) (s : St) : Option St :=
  match wantV ops o s.fr with
  | false => putD s o.dst undef
  | true => match cls P o with
    | 3 => match evEff P ro call s.h o (opd s.fr) with
      | some (v, h') => putD { s with h := h' } o.dst v
      | none => none
    | _ => match evNE P (base + i) s.h o (opd s.fr) with
      | some (v, none) => putD s o.dst v
      | some (v, some ob) => putD { s with h := s.h.put (base + i) ob } o.dst v
      | none => none

noncomputable def runText (P : Program) (ro : Nat) (call : FuncId → List Value → H → Option (Value × H)) (ops : Array Oper) (base : Nat) : Nat → List Oper → St → Option St
  | _, [], s => some s
  | i, o :: r, s => match step1 P ro call ops base i o s with
    | some s' => runText P ro call ops base (i + 1) r s'
    | none => none

/-- no constant bears an address; a global is one of the program's -/
noncomputable def opdOk (P : Program) : Operand → Bool
  | .const v => flat v
  | .global g => Nat.blt g P.globals.size
  | _ => true

noncomputable def opsOk (P : Program) (ops : Array Oper) : Bool := ops.toList.all fun o => o.op.operands.toList.all (opdOk P) && !(o.op matches .select ..)

inductive Ex where
  | normal
  | exit (id : Nat)
  | ret

noncomputable def loadArgs : Nat → List Value → T Value → T Value
  | _, [], t => t
  | i, v :: l, t => loadArgs (i + 1) l (T.put K t i v)

noncomputable def resV (P : Program) (s : St) : ResultVar → Option Value
  | .tmp t => some (opd s.fr (.tmp t))
  | .cell a t => match opd s.fr (.tmp a) with
    | .pointer (some a) => evLoad P s.h t a
    | _ => none

noncomputable def resAll (P : Program) (s : St) : List ResultVar → Option (List Value)
  | [] => some []
  | r :: l => match resV P s r, resAll P s l with
    | some v, some vs => some (v :: vs)
    | _, _ => none

noncomputable def evFn (P : Program) (S : FuncId → Option (List Value → H → Option (Value × H))) (rec : Code → St → Option (Ex × St)) (f : FuncId) (args : List Value) (h : H) : Option (Value × H) :=
  match S f with
  | some m => m args h
  | none => match P.funcs[f]? with
    | none => none
    | some fn => match fn.body with
      | none => none
      | some c => match Nat.blt (args.length + fn.ntmps) LIM with
        | false => none
        | true => match rec c { fr := loadArgs 0 args .nil, nt := args.length + (fn.ntmps - args.length), h } with
          | some (.exit _, _) => none
          | some (_, s) => match resAll P s fn.results.toList with
            | some [v] => some (v, s.h)
            | some vs => some (.tuple ⟨vs⟩, s.h)
            | none => none
          | none => none

end Go.Ev

namespace Go.Ev

noncomputable def bit (m i : Nat) : Bool := Nat.testBit m i

/-- of each operation: those that every order has ahead of it (a bit each) -/
noncomputable def befs : List Oper → List Nat → List Nat
  | [], acc => acc
  | o :: r, acc => befs r (acc ++ [o.after.toList.foldl (fun m e => match Region.binds .any e with | true => m ||| (2 ^ e.on) ||| (acc.getD e.on 0) | false => m) 0])

noncomputable def afterIn (o : Oper) (done : Nat) : Bool := o.after.toList.all fun e => !Region.binds .any e || bit done e.on

/-- what may go ahead: of values alone, or reading, and all that it waits for is done -/
noncomputable def early (P : Program) : Nat → List Oper → Nat → List Nat → Nat × List Nat
  | _, [], done, acc => (done, acc)
  | i, o :: r, done, acc => match !bit done i && (Nat.blt (cls P o) 2 && afterIn o done) with
    | true => early P (i + 1) r (done ||| 2 ^ i) (acc ++ [i])
    | false => early P (i + 1) r done acc

/-- all that stands ahead of an operation (the set m) -/
noncomputable def fore (m : Nat) : Nat → List Oper → Nat → List Nat → Nat × List Nat
  | _, [], done, acc => (done, acc)
  | i, _ :: r, done, acc => match !bit done i && bit m i with
    | true => fore m (i + 1) r (done ||| 2 ^ i) (acc ++ [i])
    | false => fore m (i + 1) r done acc

noncomputable def orderGo (P : Program) (ops : List Oper) (bs : List Nat) : Nat → List Oper → Nat × List Nat → Nat × List Nat
  | _, [], st => st
  | i, o :: r, st => match cls P o with
    | 3 =>
      let st := early P 0 ops st.1 st.2
      let st := fore (bs.getD i 0) 0 ops st.1 st.2
      orderGo P ops bs (i + 1) r (st.1 ||| 2 ^ i, st.2 ++ [i])
    | _ => orderGo P ops bs (i + 1) r st

noncomputable def orderOf (P : Program) (ops : List Oper) : List Nat :=
  let st := orderGo P ops (befs ops []) 0 ops (0, [])
  let st := early P 0 ops st.1 st.2
  (fore (2 ^ ops.length - 1) 0 ops st.1 st.2).2

/-- may the operation i come ahead of x, which stands ahead of it in the order, and which it need not wait for? -/
noncomputable def pairOk (P : Program) (ops : Array Oper) (x i : Oper) : Bool :=
  (match cls P i with
   | 3 => Nat.blt (cls P x) 2
   | 1 => Nat.blt (cls P x) 2
   | _ => true) && x.apart ops i

noncomputable def pairsOk (P : Program) (ops : Array Oper) (bs : List Nat) : List Nat → Bool
  | [] => true
  | x :: r => (r.all fun i => bit (bs.getD i 0) x || (match ops[x]?, ops[i]? with | some ox, some oi => pairOk P ops ox oi | _, _ => false)) && pairsOk P ops bs r

/-- each number once; what an operation waits for stands ahead of it -/
noncomputable def linOk (ops : Array Oper) : List Nat → List Nat → Bool
  | [], _ => true
  | i :: r, seen => !seen.contains i && (match ops[i]? with | some o => o.after.toList.all (fun e => !Region.binds .any e || seen.contains e.on) | none => false) && linOk ops r (i :: seen)

noncomputable def befOk (ops : Array Oper) (bs : List Nat) : Bool := (List.range ops.size).all fun i => (List.range ops.size).all fun j =>
  !bit (bs.getD i 0) j || (match ops[i]? with | some o => o.after.toList.any (fun e => Region.binds .any e && (e.on == j || bit (bs.getD e.on 0) j)) | none => false)

structure Plan where
  order : List Nat
  bs : List Nat

/-- the order of a region that draws, if it may stand for all -/
noncomputable def planOf (P : Program) (ops : Array Oper) : Option Plan :=
  let bs := befs ops.toList []
  let o := orderOf P ops.toList
  match Nat.beq o.length ops.size && (List.range ops.size).all (fun j => o.contains j), linOk ops o [], pairsOk P ops bs o, befOk ops bs && opsOk P ops with
  | true, true, true, true => some ⟨o, bs⟩
  | _, _, _, _ => none

noncomputable def veqN : Nat → Value → Value → Bool
  | 0, _, _ => false
  | d + 1, a, b => match a, b with
    | .bool x, .bool y => x == y
    | .int k x, .int l y => decide (k = l) && decide (x = y)
    | .string s, .string t => decide (s.data.toList = t.data.toList)
    | .pointer none, .pointer none => true
    | .pointer (some x), .pointer (some y) => decide (x = y)
    | .slice none l c, .slice none l' c' => Nat.beq l l' && Nat.beq c c'
    | .slice (some x) l c, .slice (some y) l' c' => decide (x = y) && Nat.beq l l' && Nat.beq c c'
    | .nilFunc, .nilFunc => true
    | .nilIface, .nilIface => true
    | .map none, .map none => true
    | .agg xs, .agg ys => veqL d xs.toList ys.toList
    | .tuple xs, .tuple ys => veqL d xs.toList ys.toList
    | .iface t x, .iface u y => Nat.beq t u && veqN d x y
    | _, _ => false
where
  veqL : Nat → List Value → List Value → Bool
  | _, [], [] => true
  | d, x :: xs, y :: ys => veqN d x y && veqL d xs ys
  | _, _, _ => false

/-- do earlier reads read the same behind an effect? -/
noncomputable def recheck (P : Program) (h h' : H) (bef : Nat) (acc : List (Nat × Oper × T Value)) : Bool :=
  acc.all fun (i, o, fr) => bit bef i || (match evNE P 0 h o (opd fr), evNE P 0 h' o (opd fr) with
    | some (v, none), some (v', none) => veqN 5 v v'
    | _, _ => false)

section
variable (P : Program) (ro : Nat) (call : FuncId → List Value → H → Option (Value × H)) (ops : Array Oper) (base : Nat) (bs : List Nat)

noncomputable def runSeq : List Nat → List (Nat × Oper × T Value) → St → Option St
  | [], _, s => some s
  | i :: r, acc, s => match ops[i]? with
    | none => none
    | some o => match step1 P ro call ops base i o s with
      | none => none
      | some s' => match wantV ops o s.fr with
        | false => runSeq r acc s'
        | true => match cls P o with
          | 3 => match recheck P s.h s'.h (bs.getD i 0) acc with
            | true => runSeq r acc s'
            | false => none
          | 1 => runSeq r ((i, o, s.fr) :: acc) s'
          | _ => runSeq r acc s'
end

noncomputable def evRegion (P : Program) (ro : Nat) (call : FuncId → List Value → H → Option (Value × H)) (ops : Array Oper) (draw : Bool) (s : St) : Option St :=
  match Nat.blt (s.h.nx + ops.size) LIM with
  | false => none
  | true =>
    let s1 : St := { s with h := { s.h with nx := s.h.nx + ops.size } }
    match draw with
    | false => match opsOk P ops with
      | true => runText P ro call ops s.h.nx 0 ops.toList s1
      | false => none
    | true => match planOf P ops with
      | some p => runSeq P ro call ops s.h.nx p.bs p.order [] s1
      | none => none

noncomputable def evSeq (r : Option (Ex × St)) (next : St → Option (Ex × St)) : Option (Ex × St) :=
  match r with
  | some (.normal, s) => next s
  | r => r

noncomputable def evBlock (id : Nat) (r : Option (Ex × St)) : Option (Ex × St) :=
  match r with
  | some (.exit j, s) => match Nat.beq j id with
    | true => some (.normal, s)
    | false => some (.exit j, s)
  | r => r

noncomputable def evCond (c : Bool) (v : Value) (a b : Option (Ex × St)) : Option (Ex × St) :=
  match c, v with
  | true, .bool true => a
  | true, .bool false => b
  | _, _ => none

noncomputable def evNormal (r : Option St) : Option (Ex × St) :=
  match r with
  | some s => some (.normal, s)
  | none => none

noncomputable def evStep (P : Program) (ro : Nat) (S : FuncId → Option (List Value → H → Option (Value × H))) (rec : Code → St → Option (Ex × St)) (c : Code) (s : St) : Option (Ex × St) :=
  match c with
  | .skip => some (.normal, s)
  | .region _ ops draw => evNormal (evRegion P ro (evFn P S rec) ops draw s)
  | .seq a b => evSeq (rec a s) (rec b)
  | .cond c a b => evCond (opdOk P c) (opd s.fr c) (rec a s) (rec b s)
  | .block id c => evBlock id (rec c s)
  | .loop c => evSeq (rec c s) (rec (.loop c))
  | .exit id => some (.exit id, s)
  | .ret => some (.ret, s)
  | _ => none

noncomputable def evCode (P : Program) (ro : Nat) (S : FuncId → Option (List Value → H → Option (Value × H))) (n : Nat) : Code → St → Option (Ex × St) :=
  Nat.rec (motive := fun _ => Code → St → Option (Ex × St)) (fun _ _ => none) (fun _ ih => evStep P ro S ih) n

theorem evCode_zero (P : Program) (ro : Nat) (S : FuncId → Option (List Value → H → Option (Value × H))) (c : Code) (s : St) : evCode P ro S 0 c s = none := rfl
theorem evCode_succ (P : Program) (ro : Nat) (S : FuncId → Option (List Value → H → Option (Value × H))) (n : Nat) (c : Code) (s : St) : evCode P ro S (n + 1) c s = evStep P ro S (evCode P ro S n) c s := rfl

noncomputable def evCall (P : Program) (ro : Nat) (S : FuncId → Option (List Value → H → Option (Value × H))) (n : Nat) : FuncId → List Value → H → Option (Value × H) :=
  evFn P S (evCode P ro S n)

end Go.Ev
