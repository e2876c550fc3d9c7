/- A store of numbered things as a binary trie, and values renamed: what an address names is told by two functions. No program in sight. -/
import Derived.Orders
import Derived.Laws.Sem
import Derived.Laws.World
import Derived.Below
namespace Go.Ev

/-! ### a trie -/
inductive T (α : Type) where
  | nil
  | node (l : T α) (o : Option α) (r : T α)

noncomputable def T.get {α : Type} (t : T α) : Nat → Option α :=
  T.rec (motive := fun _ => Nat → Option α) (fun _ => none)
    (fun _ o _ gl gr n => match n with
      | 0 => o
      | m + 1 => match m % 2 with
        | 0 => gl (m / 2)
        | _ + 1 => gr (m / 2)) t

def T.left {α : Type} : T α → T α
  | .nil => .nil
  | .node l _ _ => l
def T.right {α : Type} : T α → T α
  | .nil => .nil
  | .node _ _ r => r
def T.top {α : Type} : T α → Option α
  | .nil => none
  | .node _ o _ => o

def T.putS {α : Type} (v : α) (ih : T α → Nat → T α) (t : T α) (n : Nat) : T α :=
  match n with
  | 0 => .node t.left (some v) t.right
  | m + 1 => match m % 2 with
    | 0 => .node (ih t.left (m / 2)) t.top t.right
    | _ + 1 => .node t.left t.top (ih t.right (m / 2))

noncomputable def T.put {α : Type} (k : Nat) (t : T α) (n : Nat) (v : α) : T α :=
  Nat.rec (motive := fun _ => T α → Nat → T α) (fun t _ => t) (fun _ ih => T.putS v ih) k t n

theorem T.get_nil {α : Type} (n : Nat) : (T.nil : T α).get n = none := rfl
theorem T.get_node_zero {α : Type} (l : T α) (o : Option α) (r : T α) : (T.node l o r).get 0 = o := rfl
theorem T.get_node_succ {α : Type} (l : T α) (o : Option α) (r : T α) (m : Nat) : (T.node l o r).get (m + 1) = match m % 2 with | 0 => l.get (m / 2) | _ + 1 => r.get (m / 2) := rfl

theorem T.get_zero {α : Type} (t : T α) : t.get 0 = t.top := by cases t <;> rfl
theorem T.get_succ {α : Type} (t : T α) (m : Nat) : t.get (m + 1) = if m % 2 = 0 then t.left.get (m / 2) else t.right.get (m / 2) := by
  cases t with
  | nil => by_cases h : m % 2 = 0 <;> simp [T.get_nil, T.left, T.right, h]
  | node l o r =>
    rw [T.get_node_succ]
    have h2 : m % 2 = 0 ∨ m % 2 = 1 := by omega
    rcases h2 with h | h <;> simp [T.left, T.right, h]

theorem T.put_at {α : Type} (k : Nat) (t : T α) (n : Nat) (v : α) : T.put (k + 1) t n v = T.putS v (fun t n => T.put k t n v) t n := rfl

theorem T.put_zero {α : Type} (k : Nat) (t : T α) (v : α) : T.put (k + 1) t 0 v = .node t.left (some v) t.right := rfl
theorem T.put_succ {α : Type} (k : Nat) (t : T α) (m : Nat) (v : α) :
    T.put (k + 1) t (m + 1) v = if m % 2 = 0 then .node (T.put k t.left (m / 2) v) t.top t.right else .node t.left t.top (T.put k t.right (m / 2) v) := by
  rw [T.put_at]
  unfold T.putS
  have h2 : m % 2 = 0 ∨ m % 2 = 1 := by omega
  rcases h2 with h | h <;> simp [h]

theorem T.get_put {α : Type} (v : α) : ∀ (k : Nat) (t : T α) (n i : Nat), n + 1 < 2 ^ k → (T.put k t n v).get i = if i = n then some v else t.get i := by
  intro k
  induction k with
  | zero => intro t n i h; omega
  | succ k ih =>
    intro t n i h
    cases n with
    | zero =>
      rw [T.put_zero]
      cases i with
      | zero => rfl
      | succ i => rw [T.get_succ, T.get_succ]; simp [T.left, T.right]
    | succ m =>
      rw [T.put_succ]
      have hb : m / 2 + 1 < 2 ^ k := by rw [Nat.pow_succ] at h; omega
      cases i with
      | zero => rw [T.get_zero, T.get_zero]; by_cases hm : m % 2 = 0 <;> simp [hm, T.top]
      | succ i =>
        rw [T.get_succ, T.get_succ]
        by_cases hm : m % 2 = 0 <;> by_cases hi : i % 2 = 0
        · simp only [hm, hi, if_true, T.left]
          rw [ih _ _ _ hb]
          have : (i / 2 = m / 2) ↔ (i + 1 = m + 1) := by omega
          simp only [this]
        · have : ¬ (i + 1 = m + 1) := by omega
          simp only [hm, hi, if_true, if_false, T.right, this]
        · have : ¬ (i + 1 = m + 1) := by omega
          simp only [hm, hi, if_true, if_false, T.left, this]
        · simp only [hm, hi, if_false, T.right]
          rw [ih _ _ _ hb]
          have : (i / 2 = m / 2) ↔ (i + 1 = m + 1) := by omega
          simp only [this]

theorem T.put_comm {α : Type} (u v : α) : ∀ (k : Nat) (t : T α) (n m : Nat), n ≠ m → T.put k (T.put k t n u) m v = T.put k (T.put k t m v) n u := by
  intro k
  induction k with
  | zero => intro t n m _; rfl
  | succ k ih =>
    intro t n m hne
    cases n with
    | zero =>
      cases m with
      | zero => exact absurd rfl hne
      | succ m =>
        rw [T.put_zero, T.put_succ, T.put_succ]
        by_cases h : m % 2 = 0 <;> simp [h, T.left, T.right, T.top, T.put_zero]
    | succ n =>
      cases m with
      | zero =>
        rw [T.put_zero, T.put_succ, T.put_succ]
        by_cases h : n % 2 = 0 <;> simp [h, T.left, T.right, T.top, T.put_zero]
      | succ m =>
        rw [T.put_succ, T.put_succ, T.put_succ, T.put_succ]
        by_cases h1 : n % 2 = 0 <;> by_cases h2 : m % 2 = 0 <;> simp only [h1, h2, if_true, if_false, T.left, T.right, T.top]
        · rw [ih _ _ _ (by omega)]
        · rw [ih _ _ _ (by omega)]

/-- how many numbers there are -/
def K : Nat := 48
def LIM : Nat := 140737488355328
theorem lim_ok {n : Nat} (h : n < LIM) : n + 1 < 2 ^ K := by unfold LIM at h; unfold K; omega

/-! ### values, renamed -/
def BIG : Nat := 18446744073709551616
/-- a slice's capacity: known, or (from BIG on) what its block has, less so many -/
def capR (g : Nat → Nat) (b cap : Nat) : Nat := if cap < BIG then cap else g b - (cap - BIG)
def adr (f : Nat → Nat) (a : Addr) : Addr := { a with block := f a.block }

def ren (f g : Nat → Nat) : Value → Value
  | .pointer (some a) => .pointer (some (adr f a))
  | .slice (some a) len cap => .slice (some (adr f a)) len (capR g a.block cap)
  | .map (some r) => .map (some (f r))
  | .chan (some r) => .chan (some (f r))
  | .func fn first captured => .func fn (first.attach.map fun x => ren f g x.1) (captured.attach.map fun x => ren f g x.1)
  | .iface t v => .iface t (ren f g v)
  | .agg cs => .agg (cs.attach.map fun x => ren f g x.1)
  | .tuple vs => .tuple (vs.attach.map fun x => ren f g x.1)
  | .bool b => .bool b
  | .int k n => .int k n
  | .float k n => .float k n
  | .complex k a b => .complex k a b
  | .string s => .string s
  | .pointer none => .pointer none
  | .slice none l c => .slice none l c
  | .map none => .map none
  | .chan none => .chan none
  | .nilFunc => .nilFunc
  | .nilIface => .nilIface
termination_by v => SizeOf.sizeOf v
decreasing_by
  all_goals simp_wf
  all_goals (first | omega | (have := Array.sizeOf_lt_of_mem x.2; omega))

/-- all blocks that a value names are such -/
def allB (p : Nat → Prop) : Value → Prop
  | .pointer (some a) => p a.block
  | .slice (some a) _ _ => p a.block
  | .map (some r) => p r
  | .chan (some r) => p r
  | .func _ first captured => (∀ x : { x // x ∈ first }, allB p x.1) ∧ (∀ x : { x // x ∈ captured }, allB p x.1)
  | .iface _ v => allB p v
  | .agg cs => ∀ x : { x // x ∈ cs }, allB p x.1
  | .tuple vs => ∀ x : { x // x ∈ vs }, allB p x.1
  | _ => True
termination_by v => SizeOf.sizeOf v
decreasing_by
  all_goals simp_wf
  all_goals (first | omega | (have := Array.sizeOf_lt_of_mem x.2; omega))

section
variable (f g : Nat → Nat)
theorem ren_pointer (a : Addr) : ren f g (.pointer (some a)) = .pointer (some (adr f a)) := by rw [ren]
theorem ren_nilptr : ren f g (.pointer none) = .pointer none := by rw [ren]
theorem ren_slice (a : Addr) (l c : Nat) : ren f g (.slice (some a) l c) = .slice (some (adr f a)) l (capR g a.block c) := by rw [ren]
theorem ren_nilslice (l c : Nat) : ren f g (.slice none l c) = .slice none l c := by rw [ren]
theorem ren_agg (cs : Array Value) : ren f g (.agg cs) = .agg (cs.map (ren f g)) := by rw [ren]; simp
theorem ren_tuple (cs : Array Value) : ren f g (.tuple cs) = .tuple (cs.map (ren f g)) := by rw [ren]; simp
theorem ren_func (fn : Fn) (a b : Array Value) : ren f g (.func fn a b) = .func fn (a.map (ren f g)) (b.map (ren f g)) := by rw [ren]; simp
theorem ren_iface (t : TypeId) (v : Value) : ren f g (.iface t v) = .iface t (ren f g v) := by rw [ren]
theorem ren_bool (b : Bool) : ren f g (.bool b) = .bool b := by rw [ren]
theorem ren_int (k : IntKind) (n : Int) : ren f g (.int k n) = .int k n := by rw [ren]
theorem ren_string (s : ByteArray) : ren f g (.string s) = .string s := by rw [ren]
theorem ren_nilFunc : ren f g .nilFunc = .nilFunc := by rw [ren]
theorem ren_nilIface : ren f g .nilIface = .nilIface := by rw [ren]
theorem ren_float (k : FloatKind) (n : Nat) : ren f g (.float k n) = .float k n := by rw [ren]
theorem ren_complex (k : FloatKind) (a b : Nat) : ren f g (.complex k a b) = .complex k a b := by rw [ren]
theorem ren_nilmap : ren f g (.map none) = .map none := by rw [ren]
theorem ren_nilchan : ren f g (.chan none) = .chan none := by rw [ren]
theorem ren_map (r : Nat) : ren f g (.map (some r)) = .map (some (f r)) := by rw [ren]
theorem ren_chan (r : Nat) : ren f g (.chan (some r)) = .chan (some (f r)) := by rw [ren]
theorem ren_undef : ren f g undef = undef := by unfold undef; rw [ren_tuple]; simp
end

section
variable (p : Nat → Prop)
theorem all_pointer (a : Addr) : allB p (.pointer (some a)) = p a.block := by rw [allB]
theorem all_nilptr : allB p (.pointer none) = True := by rw [allB] <;> simp
theorem all_slice (a : Addr) (l c : Nat) : allB p (.slice (some a) l c) = p a.block := by rw [allB]
theorem all_nilslice (l c : Nat) : allB p (.slice none l c) = True := by rw [allB] <;> simp
theorem all_agg (cs : Array Value) : allB p (.agg cs) ↔ ∀ x ∈ cs, allB p x := by rw [allB]; simp
theorem all_tuple (cs : Array Value) : allB p (.tuple cs) ↔ ∀ x ∈ cs, allB p x := by rw [allB]; simp
theorem all_func (fn : Fn) (a b : Array Value) : allB p (.func fn a b) ↔ (∀ x ∈ a, allB p x) ∧ (∀ x ∈ b, allB p x) := by rw [allB]; simp
theorem all_iface (t : TypeId) (v : Value) : allB p (.iface t v) = allB p v := by rw [allB]
theorem all_bool (b : Bool) : allB p (.bool b) = True := by rw [allB] <;> simp
theorem all_int (k : IntKind) (n : Int) : allB p (.int k n) = True := by rw [allB] <;> simp
theorem all_string (s : ByteArray) : allB p (.string s) = True := by rw [allB] <;> simp
theorem all_nilFunc : allB p .nilFunc = True := by rw [allB] <;> simp
theorem all_nilIface : allB p .nilIface = True := by rw [allB] <;> simp
theorem all_float (k : FloatKind) (n : Nat) : allB p (.float k n) = True := by rw [allB] <;> simp
theorem all_complex (k : FloatKind) (a b : Nat) : allB p (.complex k a b) = True := by rw [allB] <;> simp
theorem all_nilmap : allB p (.map none) = True := by rw [allB] <;> simp
theorem all_nilchan : allB p (.chan none) = True := by rw [allB] <;> simp
theorem all_map (r : Nat) : allB p (.map (some r)) = p r := by rw [allB]
theorem all_chan (r : Nat) : allB p (.chan (some r)) = p r := by rw [allB]
theorem all_undef : allB p undef := by unfold undef; rw [all_tuple]; simp
end

theorem all_mono {p q : Nat → Prop} (h : ∀ b, p b → q b) : ∀ v, allB p v → allB q v := by
  intro v
  induction v using ren.induct with
  | case1 a => rw [all_pointer, all_pointer]; exact h _
  | case2 a l c => rw [all_slice, all_slice]; exact h _
  | case3 r => rw [all_map, all_map]; exact h _
  | case4 r => rw [all_chan, all_chan]; exact h _
  | case5 fn a b iha ihb =>
    rw [all_func, all_func]
    exact fun ⟨h1, h2⟩ => ⟨fun x hx => iha ⟨x, hx⟩ (h1 x hx), fun x hx => ihb ⟨x, hx⟩ (h2 x hx)⟩
  | case6 t v ih => rw [all_iface, all_iface]; exact ih
  | case7 cs ih => rw [all_agg, all_agg]; exact fun h1 x hx => ih ⟨x, hx⟩ (h1 x hx)
  | case8 cs ih => rw [all_tuple, all_tuple]; exact fun h1 x hx => ih ⟨x, hx⟩ (h1 x hx)
  | case9 | case10 | case11 | case12 | case13 | case14 | case15 | case16 | case17 | case18 | case19 => intro _; rw [allB] <;> simp

theorem ren_congr {f g f' g' : Nat → Nat} {p : Nat → Prop} (hf : ∀ b, p b → f b = f' b) (hg : ∀ b, p b → g b = g' b) : ∀ v, allB p v → ren f g v = ren f' g' v := by
  intro v
  induction v using ren.induct with
  | case1 a => rw [all_pointer, ren_pointer, ren_pointer]; intro h; unfold adr; rw [hf _ h]
  | case2 a l c => rw [all_slice, ren_slice, ren_slice]; intro h; unfold adr capR; rw [hf _ h, hg _ h]
  | case3 r => rw [all_map, ren_map, ren_map]; intro h; rw [hf _ h]
  | case4 r => rw [all_chan, ren_chan, ren_chan]; intro h; rw [hf _ h]
  | case5 fn a b iha ihb =>
    rw [all_func, ren_func, ren_func]
    intro ⟨h1, h2⟩
    rw [Array.map_congr_left (fun x hx => iha ⟨x, hx⟩ (h1 x hx)), Array.map_congr_left (fun x hx => ihb ⟨x, hx⟩ (h2 x hx))]
  | case6 t v ih => rw [all_iface, ren_iface, ren_iface]; intro h; rw [ih h]
  | case7 cs ih => rw [all_agg, ren_agg, ren_agg]; intro h1; rw [Array.map_congr_left (fun x hx => ih ⟨x, hx⟩ (h1 x hx))]
  | case8 cs ih => rw [all_tuple, ren_tuple, ren_tuple]; intro h1; rw [Array.map_congr_left (fun x hx => ih ⟨x, hx⟩ (h1 x hx))]
  | case9 | case10 | case11 | case12 | case13 | case14 | case15 | case16 | case17 | case18 | case19 => intro _; rw [ren, ren]

/-! ### flat values: no address in them -/
def flatN : Nat → Value → Bool
  | 0, _ => false
  | d + 1, v => match v with
    | .bool _ | .int .. | .float .. | .complex .. | .string _ | .nilFunc | .nilIface => true
    | .pointer none | .slice none _ _ | .map none | .chan none => true
    | .func _ a b => a.toList.all (flatN d) && b.toList.all (flatN d)
    | .iface _ v => flatN d v
    | .agg cs => cs.toList.all (flatN d)
    | .tuple cs => cs.toList.all (flatN d)
    | _ => false

theorem map_id_of {cs : Array Value} {h : Value → Value} (hh : ∀ x ∈ cs, h x = x) : cs.map h = cs := by
  conv => rhs; rw [← Array.map_id cs]
  exact Array.map_congr_left hh

theorem flat_ren (f g : Nat → Nat) : ∀ (d : Nat) (v : Value), flatN d v = true → ren f g v = v := by
  intro d
  induction d with
  | zero => intro v h; simp [flatN] at h
  | succ d ih =>
    intro v h
    have many : ∀ cs : Array Value, cs.toList.all (flatN d) = true → cs.map (ren f g) = cs := fun cs hc =>
      map_id_of fun x hx => ih x (List.all_eq_true.1 hc x (Array.mem_def.1 hx))
    cases v with
    | pointer a => cases a with | none => exact ren_nilptr f g | some a => simp [flatN] at h
    | slice a l c => cases a with | none => exact ren_nilslice f g l c | some a => simp [flatN] at h
    | map a => cases a with | none => exact ren_nilmap f g | some a => simp [flatN] at h
    | chan a => cases a with | none => exact ren_nilchan f g | some a => simp [flatN] at h
    | func fn a b =>
      simp only [flatN, Bool.and_eq_true] at h
      rw [ren_func, many a h.1, many b h.2]
    | iface t v => rw [ren_iface, ih v (by simpa [flatN] using h)]
    | agg cs => rw [ren_agg, many cs (by simpa only [flatN] using h)]
    | tuple cs => rw [ren_tuple, many cs (by simpa only [flatN] using h)]
    | _ => rw [ren]

theorem flat_all (p : Nat → Prop) : ∀ (d : Nat) (v : Value), flatN d v = true → allB p v := by
  intro d
  induction d with
  | zero => intro v h; simp [flatN] at h
  | succ d ih =>
    intro v h
    have many : ∀ cs : Array Value, cs.toList.all (flatN d) = true → ∀ x ∈ cs, allB p x := fun cs hc x hx =>
      ih x (List.all_eq_true.1 hc x (Array.mem_def.1 hx))
    cases v with
    | pointer a => cases a with | none => rw [all_nilptr]; trivial | some a => simp [flatN] at h
    | slice a l c => cases a with | none => rw [all_nilslice]; trivial | some a => simp [flatN] at h
    | map a => cases a with | none => rw [all_nilmap]; trivial | some a => simp [flatN] at h
    | chan a => cases a with | none => rw [all_nilchan]; trivial | some a => simp [flatN] at h
    | func fn a b =>
      simp only [flatN, Bool.and_eq_true] at h
      rw [all_func]; exact ⟨many a h.1, many b h.2⟩
    | iface t v => rw [all_iface]; exact ih v (by simpa [flatN] using h)
    | agg cs => rw [all_agg]; exact many cs (by simpa only [flatN] using h)
    | tuple cs => rw [all_tuple]; exact many cs (by simpa only [flatN] using h)
    | _ => rw [allB] <;> simp

end Go.Ev
