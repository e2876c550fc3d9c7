/- What ties the evaluator's memory to a world; reading, making and writing blocks. | The evaluator's operations that write nothing answer as the program's: flat ones, moves, new variables, addresses. | The evaluator's operations on values: arithmetic, comparisons, conversions, parts of structs, addresses. | The evaluator's operations on slices, structs, texts: parts, addresses, cuts, makes. -/
import Derived.Test.YtphilpjglajffaaGreatDoorEvC
import Derived.Laws.Rows
import Derived.Laws.Cells
import Derived.Laws.Append
import Derived.Laws.Entries
import Derived.Deep.Draws
import Derived.Laws.BytesArg
import Derived.Lib.ConvBytes
import Derived.Laws.Strings
namespace Go.Ev
open Go.RowKit (Below)

def dom (ro : Nat) (h : H) (b : Nat) : Prop := b < ro ∨ (h.get b).isSome = true
def okV (ro : Nat) (h : H) (v : Value) : Prop := allB (dom ro h) v

/-- may cells 0 .. n be written? -/
def freeTo (fz : Nat × Nat) (n : Nat) : Prop := ∀ j, j < n → ¬ (fz.1 ≤ j ∧ j < fz.2)

structure RelH (P : Program) (ro : Nat) (w0 : World) (f g : Nat → Nat) (h : H) (w : World) : Prop where
  below : Below w0.heap.size w0 w
  row : ∀ b c e, h.get b = some (.cells c e) → ∃ fz, w.heap[f b]? = some (.cells (c.map (ren f g)).toArray e fz) ∧ (ro ≤ b → freeTo fz c.length)
  grow : ∀ b c e, h.get b = some (.grow c e) → ro ≤ b ∧ ∃ (rest : List Value) (fz : Nat × Nat) (i : TypeInfo),
    w.heap[f b]? = some (.cells (c.map (ren f g) ++ rest).toArray e fz) ∧ P.info? e = some i ∧ 0 < i.size ∧ g b * i.size = c.length + rest.length ∧ freeTo fz (c.length + rest.length) ∧ g b < BIG
  iter : ∀ b s p, h.get b = some (.iter s p) → w.heap[f b]? = some (.stringIter s p)
  cok : ∀ b c e, rowOf h b = some (c, e) → ∀ v ∈ c, okV ro h v
  new : ∀ b o, ro ≤ b → h.get b = some o → o ≠ .dead → w0.heap.size ≤ f b
  old : ∀ b o, b < ro → h.get b = some o → o ≠ .dead → f b < w0.heap.size
  inj : ∀ b b' o o', ro ≤ b → ro ≤ b' → h.get b = some o → h.get b' = some o' → o ≠ .dead → o' ≠ .dead → f b = f b' → b = b'
  glob : ∀ x, x < P.globals.size → f x = x ∧ x < ro
  lim : ro ≤ LIM
  lt : ∀ b o, h.get b = some o → b < LIM

theorem H.get_put {h : H} {b : Nat} (hb : b < LIM) (o : AO) (i : Nat) : (h.put b o).get i = if i = b then some o else h.get i := by
  unfold H.put H.get
  exact T.get_put o K h.t b i (lim_ok hb)

theorem H.get_put_same {h : H} {b : Nat} (hb : b < LIM) (o : AO) : (h.put b o).get b = some o := by rw [H.get_put hb, if_pos rfl]
theorem H.get_put_other {h : H} {b i : Nat} (hb : b < LIM) (o : AO) (hi : i ≠ b) : (h.put b o).get i = h.get i := by rw [H.get_put hb, if_neg hi]

theorem dom_put {ro : Nat} {h : H} {b : Nat} (hb : b < LIM) (o : AO) (x : Nat) (hx : dom ro h x) : dom ro (h.put b o) x := by
  rcases hx with hx | hx
  · exact .inl hx
  · refine .inr ?_
    rw [H.get_put hb]
    split
    · rfl
    · exact hx

theorem okV_put {ro : Nat} {h : H} {b : Nat} (hb : b < LIM) (o : AO) {v : Value} (hv : okV ro h v) : okV ro (h.put b o) v :=
  all_mono (fun x hx => dom_put hb o x hx) v hv

/-- the renaming of what is known stays -/
structure Agree (ro : Nat) (h : H) (f g f' g' : Nat → Nat) : Prop where
  f : ∀ b, dom ro h b → f b = f' b
  g : ∀ b, dom ro h b → g b = g' b

theorem Agree.refl (ro : Nat) (h : H) (f g : Nat → Nat) : Agree ro h f g f g := ⟨fun _ _ => rfl, fun _ _ => rfl⟩
theorem Agree.trans {ro : Nat} {h h' : H} {f g f' g' f'' g'' : Nat → Nat} (a : Agree ro h f g f' g') (b : Agree ro h' f' g' f'' g'') (hd : ∀ x, dom ro h x → dom ro h' x) : Agree ro h f g f'' g'' :=
  ⟨fun x hx => (a.f x hx).trans (b.f x (hd x hx)), fun x hx => (a.g x hx).trans (b.g x (hd x hx))⟩
theorem Agree.ren {ro : Nat} {h : H} {f g f' g' : Nat → Nat} (a : Agree ro h f g f' g') {v : Value} (hv : okV ro h v) : ren f g v = ren f' g' v :=
  ren_congr a.f a.g v hv

def upd (f : Nat → Nat) (b x : Nat) : Nat → Nat := fun i => if i = b then x else f i
theorem upd_same (f : Nat → Nat) (b x : Nat) : upd f b x b = x := by simp [upd]
theorem upd_other (f : Nat → Nat) {b i : Nat} (x : Nat) (h : i ≠ b) : upd f b x i = f i := by simp [upd, h]

theorem agree_upd {ro : Nat} {h : H} {b : Nat} (f g : Nat → Nat) (hr : ro ≤ b) (hn : h.get b = none) (x y : Nat) : Agree ro h f g (upd f b x) (upd g b y) := by
  constructor
  · intro i hi
    rw [upd_other]
    rintro rfl
    rcases hi with hi | hi
    · omega
    · rw [hn] at hi; simp at hi
  · intro i hi
    rw [upd_other]
    rintro rfl
    rcases hi with hi | hi
    · omega
    · rw [hn] at hi; simp at hi

theorem get_dom {ro : Nat} {h : H} {b : Nat} {o : AO} (hb : h.get b = some o) : dom ro h b := .inr (by rw [hb]; rfl)

theorem rowOf_some {h : H} {b : Nat} {c : List Value} {e : TypeId} (hr : rowOf h b = some (c, e)) : h.get b = some (.cells c e) ∨ h.get b = some (.grow c e) := by
  unfold rowOf at hr
  split at hr
  · rename_i c' e' hb
    simp only [Option.some.injEq, Prod.mk.injEq] at hr
    obtain ⟨rfl, rfl⟩ := hr
    exact .inl hb
  · rename_i c' e' hb
    simp only [Option.some.injEq, Prod.mk.injEq] at hr
    obtain ⟨rfl, rfl⟩ := hr
    exact .inr hb
  · simp at hr

theorem cells_renamed {ro : Nat} {h : H} {f g f' g' : Nat → Nat} (a : Agree ro h f g f' g') {c : List Value} (hc : ∀ v ∈ c, okV ro h v) : c.map (ren f g) = c.map (ren f' g') :=
  List.map_congr_left fun v hv => a.ren (hc v hv)

section
variable {P : Program} {ro : Nat} {w0 : World} {f g : Nat → Nat} {h : H} {w : World}

/-- a row's cells stand in the world -/
theorem RelH.cellAt (r : RelH P ro w0 f g h w) {b : Nat} {c : List Value} {e : TypeId} (hb : rowOf h b = some (c, e)) {i : Nat} {v : Value} (hv : c[i]? = some v) :
    w.cell? ⟨f b, i, none⟩ = some (ren f g v) := by
  have hi : i < c.length := (List.getElem?_eq_some_iff.1 hv).1
  rcases rowOf_some hb with hg | hg
  · obtain ⟨fz, hw, _⟩ := r.row b c e hg
    simp [World.cell?, hw, List.getElem?_map, hv]
  · obtain ⟨_, rest, fz, i', hw, _⟩ := r.grow b c e hg
    obtain ⟨_, rfl⟩ := List.getElem?_eq_some_iff.1 hv
    simp [World.cell?, hw, List.getElem?_append, hi]

/-- what is the same of every block keeps the tie -/
theorem RelH.same (r : RelH P ro w0 f g h w) {w' : World} (hh : w'.heap = w.heap) (hb : Below w0.heap.size w0 w') : RelH P ro w0 f g h w' :=
  ⟨hb, fun b c e hg => by rw [hh]; exact r.row b c e hg, fun b c e hg => by rw [hh]; exact r.grow b c e hg, fun b s p hg => by rw [hh]; exact r.iter b s p hg,
    r.cok, r.new, r.old, r.inj, r.glob, r.lim, r.lt⟩

theorem RelH.drew (r : RelH P ro w0 f g h w) : RelH P ro w0 f g h w.drew := r.same rfl r.below.drew

theorem RelH.nx (r : RelH P ro w0 f g h w) (n : Nat) : RelH P ro w0 f g { h with nx := n } w :=
  ⟨r.below, r.row, r.grow, r.iter, r.cok, r.new, r.old, r.inj, r.glob, r.lim, r.lt⟩

/-- the lives of blocks -/
theorem RelH.lives (r : RelH P ro w0 f g h w) {b : Nat} {o : AO} (hb : h.get b = some o) (hd : o ≠ .dead) : f b < w.heap.size := by
  cases o with
  | cells c e => obtain ⟨fz, hw, _⟩ := r.row b c e hb; exact (Array.getElem?_eq_some_iff.1 hw).1
  | grow c e => obtain ⟨_, rest, fz, i', hw, _⟩ := r.grow b c e hb; exact (Array.getElem?_eq_some_iff.1 hw).1
  | iter s p => exact (Array.getElem?_eq_some_iff.1 (r.iter b s p hb)).1
  | dead => exact absurd rfl hd

theorem wheap_alloc_old (w : World) (o : Obj) {i : Nat} {x : Obj} (h : w.heap[i]? = some x) : (w.alloc o).heap[i]? = some x := by
  rw [heap_alloc_old w o i (Array.getElem?_eq_some_iff.1 h).1]; exact h

/-- what a new block is tied to -/
inductive Tied (P : Program) (f g : Nat → Nat) : AO → Obj → Nat → Prop where
  | cells (c : List Value) (e : TypeId) (fz : Nat × Nat) (hz : freeTo fz c.length) (y : Nat) : Tied P f g (.cells c e) (.cells (c.map (ren f g)).toArray e fz) y
  | grow (c : List Value) (e : TypeId) (rest : List Value) (fz : Nat × Nat) (i : TypeInfo) (y : Nat) (hi : P.info? e = some i) (hp : 0 < i.size)
      (hl : y * i.size = c.length + rest.length) (hz : freeTo fz (c.length + rest.length)) (hB : y < BIG) : Tied P f g (.grow c e) (.cells (c.map (ren f g) ++ rest).toArray e fz) y
  | iter (s : ByteArray) (p : Nat) (y : Nat) : Tied P f g (.iter s p) (.stringIter s p) y

/-- a new block -/
theorem RelH.alloc (r : RelH P ro w0 f g h w) {b : Nat} {ao : AO} {o : Obj} {y : Nat} (hr : ro ≤ b) (hl : b < LIM) (hn : h.get b = none) (ht : Tied P f g ao o y)
    (hc : ∀ c e, ao = .cells c e ∨ ao = .grow c e → ∀ v ∈ c, okV ro h v) :
    RelH P ro w0 (upd f b w.heap.size) (upd g b y) (h.put b ao) (w.alloc o) := by
  have ag := agree_upd f g hr hn w.heap.size y
  have hbw := r.below.size
  have live : ao ≠ .dead := by cases ht <;> simp
  have other : ∀ x o', (h.put b ao).get x = some o' → x ≠ b → h.get x = some o' := fun x o' hx hne => by rwa [H.get_put_other hl _ hne] at hx
  have mine : ∀ o', (h.put b ao).get b = some o' → o' = ao := fun o' hx => by rw [H.get_put_same hl] at hx; exact (Option.some.inj hx).symm
  have cells : ∀ x c e, rowOf h x = some (c, e) → c.map (ren f g) = c.map (ren (upd f b w.heap.size) (upd g b y)) := fun x c e hx => cells_renamed ag (r.cok x c e hx)
  refine ⟨r.below.alloc r.below.size _, ?_, ?_, ?_, ?_, ?_, ?_, ?_, ?_, r.lim, ?_⟩
  · intro x c e hx
    by_cases hxb : x = b
    · subst hxb
      have := mine _ hx
      subst this
      cases ht with
      | cells c e fz hz y =>
        refine ⟨fz, ?_, fun _ => hz⟩
        rw [upd_same, heap_alloc_new, cells_renamed ag (hc c e (.inl rfl))]
    · have hx' := other x _ hx hxb
      obtain ⟨fz, hw, hz⟩ := r.row x c e hx'
      refine ⟨fz, ?_, hz⟩
      rw [upd_other _ _ hxb, ← cells x c e (by simp [rowOf, hx'])]
      exact wheap_alloc_old w o hw
  · intro x c e hx
    by_cases hxb : x = b
    · subst hxb
      have := mine _ hx
      subst this
      cases ht with
      | grow c e rest fz i y hi hp hly hz hB =>
        refine ⟨hr, rest, fz, i, ?_, hi, hp, by rw [upd_same]; exact hly, hz, by rw [upd_same]; exact hB⟩
        rw [upd_same, heap_alloc_new, cells_renamed ag (hc c e (.inr rfl))]
    · have hx' := other x _ hx hxb
      obtain ⟨hro, rest, fz, i, hw, hi, hp, hly, hz, hB⟩ := r.grow x c e hx'
      refine ⟨hro, rest, fz, i, ?_, hi, hp, by rw [upd_other _ _ hxb]; exact hly, hz, by rw [upd_other _ _ hxb]; exact hB⟩
      rw [upd_other _ _ hxb, ← cells x c e (by simp [rowOf, hx'])]
      exact wheap_alloc_old w o hw
  · intro x s p hx
    by_cases hxb : x = b
    · subst hxb
      have := mine _ hx
      subst this
      cases ht with
      | iter s p y => rw [upd_same, heap_alloc_new]
    · rw [upd_other _ _ hxb]
      exact wheap_alloc_old w o (r.iter x s p (other x _ hx hxb))
  · intro x c e hx v hv
    by_cases hxb : x = b
    · subst hxb
      have hx2 := rowOf_some hx
      have : ao = .cells c e ∨ ao = .grow c e := by
        rcases hx2 with h1 | h1
        · exact .inl (mine _ h1).symm
        · exact .inr (mine _ h1).symm
      exact okV_put hl _ (hc c e this v hv)
    · have hx' : rowOf h x = some (c, e) := by unfold rowOf at hx ⊢; rwa [H.get_put_other hl _ hxb] at hx
      exact okV_put hl _ (r.cok x c e hx' v hv)
  · intro x o' hro hx hd
    by_cases hxb : x = b
    · subst hxb; rw [upd_same]; exact hbw
    · rw [upd_other _ _ hxb]; exact r.new x o' hro (other x _ hx hxb) hd
  · intro x o' hro hx hd
    have hxb : x ≠ b := by omega
    rw [upd_other _ _ hxb]
    exact r.old x o' hro (other x _ hx hxb) hd
  · intro x x' o1 o2 hx hx' h1 h2 d1 d2 he
    by_cases e1 : x = b
    · by_cases e2 : x' = b
      · rw [e1, e2]
      · subst e1
        rw [upd_same, upd_other _ _ e2] at he
        have := r.lives (other x' _ h2 e2) d2
        omega
    · by_cases e2 : x' = b
      · subst e2
        rw [upd_same, upd_other _ _ e1] at he
        have := r.lives (other x _ h1 e1) d1
        omega
      · rw [upd_other _ _ e1, upd_other _ _ e2] at he
        exact r.inj x x' o1 o2 hx hx' (other x _ h1 e1) (other x' _ h2 e2) d1 d2 he
  · intro x hx
    have hg := r.glob x hx
    exact ⟨by rw [upd_other _ _ (by omega)]; exact hg.1, hg.2⟩
  · intro x o' hx
    by_cases hxb : x = b
    · subst hxb; exact hl
    · exact r.lt x o' (other x _ hx hxb)
end

/-- only block k may differ -/
structure Wr (w w' : World) (k : Nat) : Prop where
  os : w'.os = w.os
  tape : w'.tape = w.tape
  output : w'.output = w.output
  size : w'.heap.size = w.heap.size
  other : ∀ i, i ≠ k → w'.heap[i]? = w.heap[i]?

theorem Wr.refl (w : World) (k : Nat) : Wr w w k := ⟨rfl, rfl, rfl, rfl, fun _ _ => rfl⟩
theorem Wr.trans {a b c : World} {k : Nat} (x : Wr a b k) (y : Wr b c k) : Wr a c k :=
  ⟨y.os.trans x.os, y.tape.trans x.tape, y.output.trans x.output, y.size.trans x.size, fun i hi => (y.other i hi).trans (x.other i hi)⟩
theorem Wr.below {w0 w w' : World} {k : Nat} (x : Wr w w' k) (hb : Below w0.heap.size w0 w) (hk : w0.heap.size ≤ k) : Below w0.heap.size w0 w' :=
  ⟨x.os.trans hb.os, x.tape.trans hb.tape, x.output.trans hb.output, by rw [x.size]; exact hb.size, fun i hi => (x.other i (by omega)).trans (hb.block i hi)⟩
theorem Wr.setCell (w : World) (k i : Nat) (v : Value) : Wr w (w.setCell ⟨k, i, none⟩ v) k :=
  ⟨rfl, rfl, rfl, by simp [World.setCell], fun j hj => by simp only [World.setCell, Array.getElem?_modify]; rw [if_neg (fun e => hj e.symm)]⟩

theorem heap_setCell_at {w : World} {k i : Nat} {cs : Array Value} {e : TypeId} {fz : Nat × Nat} (v : Value) (hg : w.heap[k]? = some (.cells cs e fz)) :
    (w.setCell ⟨k, i, none⟩ v).heap[k]? = some (.cells (cs.setIfInBounds i v) e fz) := by
  simp [World.setCell, Array.getElem?_modify, hg]

theorem add_plainE (b off i : Nat) : (⟨b, off, none⟩ : Addr).add i = ⟨b, off + i, none⟩ := by
  unfold Addr.add; split <;> simp_all

theorem splice_cons (c : List Value) (off : Nat) (v : Value) (l : List Value) (h : off + (l.length + 1) ≤ c.length) : splice (c.set off v) (off + 1) l = splice c off (v :: l) := by
  unfold splice
  have e1 : (c.set off v).take (off + 1) = c.take off ++ [v] := by
    rw [List.take_succ_eq_append_getElem (by rw [List.length_set]; omega), List.getElem_set_self, List.take_set_of_le (Nat.le_refl _)]
  rw [e1, List.drop_set_of_lt (by omega)]
  simp only [List.append_assoc, List.cons_append, List.nil_append, List.length_cons]
  rw [show off + 1 + l.length = off + (l.length + 1) from by omega]

theorem splice_length (c : List Value) (off : Nat) (l : List Value) (h : off + l.length ≤ c.length) : (splice c off l).length = c.length := by
  unfold splice
  simp only [List.length_append, List.length_take, List.length_drop]
  omega

theorem run_storeCells_row (P : Program) (k e : Nat) (fz : Nat × Nat) : ∀ (vs : List Value) (off i : Nat) (cur : List Value) (w : World), w.heap[k]? = some (.cells cur.toArray e fz) → off + i + vs.length ≤ cur.length →
    freeTo fz cur.length → (∀ v ∈ vs, v.oneCell' = true) →
    ∃ w', (storeCells ⟨k, off, none⟩ vs i).run P w = .ok () w' ∧ Wr w w' k ∧ w'.heap[k]? = some (.cells (splice cur (off + i) vs).toArray e fz) := by
  intro vs
  induction vs with
  | nil =>
    intro off i cur w hw _ _ _
    refine ⟨w, by simp [storeCells], Wr.refl w k, ?_⟩
    rw [hw]; simp [splice]
  | cons v vs ih =>
    intro off i cur w hw hl hz h1
    simp only [List.length_cons] at hl
    have hc : w.cell? ⟨k, off + i, none⟩ = some cur[off + i] := by
      simp only [World.cell?, hw]
      simp
    have hfz : w.frozen? ⟨k, off + i, none⟩ = false := by
      simp only [World.frozen?, hw]
      have := hz (off + i) (by omega)
      simpa using this
    have hs := run_store P w ⟨k, off + i, none⟩ v .plain (h1 v (by simp))
    have hw1 := heap_setCell_at (i := off + i) v hw
    obtain ⟨w', hrun, hwr, hh⟩ := ih off (i + 1) (cur.set (off + i) v) (w.setCell ⟨k, off + i, none⟩ v) (by rw [hw1]; simp) (by rw [List.length_set]; omega) (by rw [List.length_set]; exact hz) (fun u hu => h1 u (by simp [hu]))
    refine ⟨w', ?_, (Wr.setCell w k (off + i) v).trans hwr, ?_⟩
    · simp only [storeCells, Sem.run_bind, add_plainE, hs, hc, hfz]
      simpa using hrun
    · rw [hh, ← Nat.add_assoc, splice_cons cur (off + i) v vs (by omega)]


theorem one_ren (f g : Nat → Nat) (v : Value) (h : one v = true) : (ren f g v).oneCell' = true := by
  cases v with
  | pointer a => cases a with | none => rw [ren_nilptr]; rfl | some a => rw [ren_pointer]; rfl
  | slice a l c => cases a with | none => rw [ren_nilslice]; rfl | some a => rw [ren_slice]; rfl
  | map a => cases a with | none => rw [ren_nilmap]; rfl | some a => rw [ren_map]; rfl
  | chan a => cases a with | none => rw [ren_nilchan]; rfl | some a => rw [ren_chan]; rfl
  | func fn a b => rw [ren_func]; rfl
  | iface t v => rw [ren_iface]; rfl
  | agg cs => simp [one] at h
  | tuple cs => simp [one] at h
  | bool b => rw [ren_bool]; rfl
  | int k n => rw [ren_int]; rfl
  | float k n => rw [ren_float]; rfl
  | complex k a b => rw [ren_complex]; rfl
  | string s => rw [ren_string]; rfl
  | nilFunc => rw [ren_nilFunc]; rfl
  | nilIface => rw [ren_nilIface]; rfl

theorem splice_map (c : List Value) (off : Nat) (l : List Value) (k : Value → Value) : (splice c off l).map k = splice (c.map k) off (l.map k) := by
  unfold splice
  simp [List.map_take, List.map_drop]

theorem splice_append (c r : List Value) (off : Nat) (l : List Value) (h : off + l.length ≤ c.length) : splice (c ++ r) off l = splice c off l ++ r := by
  unfold splice
  rw [List.take_append_of_le_length (by omega), List.drop_append_of_le_length h]
  simp [List.append_assoc]

theorem mem_splice {c : List Value} {off : Nat} {l : List Value} {v : Value} (h : v ∈ splice c off l) : v ∈ c ∨ v ∈ l := by
  unfold splice at h
  simp only [List.mem_append] at h
  rcases h with h | h | h
  · exact .inl (List.mem_of_mem_take h)
  · exact .inr h
  · exact .inl (List.mem_of_mem_drop h)

section
variable {P : Program} {ro : Nat} {w0 : World} {f g : Nat → Nat} {h : H} {w : World}

/-- one block's content turned, its place and kind kept -/
theorem RelH.turn (r : RelH P ro w0 f g h w) {b : Nat} {o ao : AO} {w' : World} (hro : ro ≤ b) (hb : h.get b = some o) (ho : o ≠ .dead) (hwr : Wr w w' (f b)) (x : Obj) (hx : w'.heap[f b]? = some x)
    (ht : ao = .dead ∨ Tied P f g ao x (g b)) (hc : ∀ c e, ao = .cells c e ∨ ao = .grow c e → ∀ v ∈ c, okV ro h v) : RelH P ro w0 f g (h.put b ao) w' := by
  have hl := r.lt b o hb
  have hge := r.new b o hro hb ho
  have other : ∀ x o', (h.put b ao).get x = some o' → x ≠ b → h.get x = some o' := fun x o' hx hne => by rwa [H.get_put_other hl _ hne] at hx
  have mine : ∀ o', (h.put b ao).get b = some o' → o' = ao := fun o' hx => by rw [H.get_put_same hl] at hx; exact (Option.some.inj hx).symm
  have far : ∀ y o', h.get y = some o' → o' ≠ .dead → y ≠ b → f y ≠ f b := by
    intro y o' hy hd hne he
    rcases Nat.lt_or_ge y ro with h1 | h1
    · have := r.old y o' h1 hy hd; omega
    · exact hne (r.inj y b o' o h1 hro hy hb hd ho he)
  refine ⟨hwr.below r.below hge, ?_, ?_, ?_, ?_, ?_, ?_, ?_, r.glob, r.lim, ?_⟩
  · intro y c e hy
    by_cases hyb : y = b
    · subst hyb
      have := mine _ hy
      subst this
      rcases ht with ht | ht
      · simp at ht
      · generalize g y = gy at ht
        cases ht with
        | cells c e fz hz => exact ⟨fz, hx, fun _ => hz⟩
    · have hy' := other y _ hy hyb
      obtain ⟨fz, hw, hz⟩ := r.row y c e hy'
      exact ⟨fz, by rw [hwr.other _ (far y _ hy' (by simp) hyb)]; exact hw, hz⟩
  · intro y c e hy
    by_cases hyb : y = b
    · subst hyb
      have := mine _ hy
      subst this
      rcases ht with ht | ht
      · simp at ht
      · generalize g y = gy at ht ⊢
        cases ht with
        | grow c e rest fz i _ hi hp hly hz hB => exact ⟨hro, rest, fz, i, hx, hi, hp, hly, hz, hB⟩
    · have hy' := other y _ hy hyb
      obtain ⟨h1, rest, fz, i, hw, h2⟩ := r.grow y c e hy'
      exact ⟨h1, rest, fz, i, by rw [hwr.other _ (far y _ hy' (by simp) hyb)]; exact hw, h2⟩
  · intro y s p hy
    by_cases hyb : y = b
    · subst hyb
      have := mine _ hy
      subst this
      rcases ht with ht | ht
      · simp at ht
      · generalize g y = gy at ht
        cases ht with
        | iter s p => exact hx
    · have hy' := other y _ hy hyb
      rw [hwr.other _ (far y _ hy' (by simp) hyb)]
      exact r.iter y s p hy'
  · intro y c e hy v hv
    by_cases hyb : y = b
    · subst hyb
      have : ao = .cells c e ∨ ao = .grow c e := by
        rcases rowOf_some hy with h1 | h1
        · exact .inl (mine _ h1).symm
        · exact .inr (mine _ h1).symm
      exact okV_put hl _ (hc c e this v hv)
    · have hy' : rowOf h y = some (c, e) := by unfold rowOf at hy ⊢; rwa [H.get_put_other hl _ hyb] at hy
      exact okV_put hl _ (r.cok y c e hy' v hv)
  · intro y o' hy1 hy hd
    by_cases hyb : y = b
    · subst hyb; exact hge
    · exact r.new y o' hy1 (other y _ hy hyb) hd
  · intro y o' hy1 hy hd
    exact r.old y o' hy1 (other y _ hy (by omega)) hd
  · intro y y' o1 o2 hy hy' h1 h2 d1 d2 he
    have alive : ∀ z o', (h.put b ao).get z = some o' → o' ≠ .dead → ∃ o'', h.get z = some o'' ∧ o'' ≠ .dead := by
      intro z o' hz hd
      by_cases hzb : z = b
      · subst hzb; exact ⟨o, hb, ho⟩
      · exact ⟨o', other z _ hz hzb, hd⟩
    obtain ⟨p1, q1, k1⟩ := alive y o1 h1 d1
    obtain ⟨p2, q2, k2⟩ := alive y' o2 h2 d2
    exact r.inj y y' p1 p2 hy hy' q1 q2 k1 k2 he
  · intro y o' hy
    by_cases hyb : y = b
    · subst hyb; exact hl
    · exact r.lt y o' (other y _ hy hyb)

theorem stN_some {a : Addr} {l : List Value} {h' : H} (hs : stN ro h a l = some h') :
    a.spot = none ∧ ro ≤ a.block ∧ l.all one = true ∧ ∃ c e, a.off + l.length ≤ c.length ∧
      ((h.get a.block = some (.cells c e) ∧ h' = h.put a.block (.cells (splice c a.off l) e)) ∨ (h.get a.block = some (.grow c e) ∧ h' = h.put a.block (.grow (splice c a.off l) e))) := by
  unfold stN at hs
  split at hs
  · rename_i h1 h2 h3
    refine ⟨h1, Nat.le_of_ble_eq_true h2, h3, ?_⟩
    split at hs
    · rename_i c e hg
      split at hs
      · rename_i hb
        exact ⟨c, e, Nat.le_of_ble_eq_true hb, .inl ⟨hg, (Option.some.inj hs).symm⟩⟩
      · simp at hs
    · rename_i c e hg
      split at hs
      · rename_i hb
        exact ⟨c, e, Nat.le_of_ble_eq_true hb, .inr ⟨hg, (Option.some.inj hs).symm⟩⟩
      · simp at hs
    · simp at hs
  · simp at hs

theorem dom_of_put {b : Nat} {ao : AO} (hb : b < LIM) : ∀ x, dom ro h x → dom ro (h.put b ao) x := fun x hx => dom_put hb ao x hx

/-- cells written -/
theorem RelH.stored (r : RelH P ro w0 f g h w) {a : Addr} {l : List Value} {h' : H} (hs : stN ro h a l = some h') (hl : ∀ v ∈ l, okV ro h v) :
    ∃ w', (storeCells (adr f a) (l.map (ren f g)) 0).run P w = .ok () w' ∧ RelH P ro w0 f g h' w' ∧ (∀ x, dom ro h x → dom ro h' x) := by
  obtain ⟨hsp, hro, h1, c, e, hlen, hcase⟩ := stN_some hs
  have ha : adr f a = ⟨f a.block, a.off, none⟩ := by unfold adr; rw [← hsp]
  have hone : ∀ v ∈ l.map (ren f g), v.oneCell' = true := by
    intro v hv
    obtain ⟨u, hu, rfl⟩ := List.mem_map.1 hv
    exact one_ren f g u (List.all_eq_true.1 h1 u hu)
  rw [ha]
  rcases hcase with ⟨hg, rfl⟩ | ⟨hg, rfl⟩
  · obtain ⟨fz, hw, hz⟩ := r.row a.block c e hg
    obtain ⟨w', hrun, hwr, hh⟩ := run_storeCells_row P (f a.block) e fz (l.map (ren f g)) a.off 0 (c.map (ren f g)) w hw (by simpa using hlen) (by simpa using hz hro) hone
    refine ⟨w', hrun, r.turn hro hg (by simp) hwr _ hh (.inr ?_) ?_, dom_of_put (r.lt _ _ hg)⟩
    · rw [Nat.add_zero, ← splice_map]
      exact .cells _ e fz (by rw [splice_length _ _ _ hlen]; exact hz hro) _
    · intro c' e' hc' v hv
      have : c' = splice c a.off l := by rcases hc' with h | h <;> simp at h; exact h.1.symm
      subst this
      rcases mem_splice hv with h | h
      · exact r.cok a.block c e (by simp [rowOf, hg]) v h
      · exact hl v h
  · obtain ⟨_, rest, fz, i, hw, hi, hp, hly, hz, hB⟩ := r.grow a.block c e hg
    obtain ⟨w', hrun, hwr, hh⟩ := run_storeCells_row P (f a.block) e fz (l.map (ren f g)) a.off 0 (c.map (ren f g) ++ rest) w hw (by simp; omega) (by simpa using hz) hone
    refine ⟨w', hrun, r.turn hro hg (by simp) hwr _ hh (.inr ?_) ?_, dom_of_put (r.lt _ _ hg)⟩
    · rw [Nat.add_zero, splice_append _ _ _ _ (by simpa using hlen), ← splice_map]
      exact .grow _ e rest fz i _ hi hp (by rw [splice_length _ _ _ hlen]; exact hly) (by rw [splice_length _ _ _ hlen]; exact hz) hB
    · intro c' e' hc' v hv
      have : c' = splice c a.off l := by rcases hc' with h | h <;> simp at h; exact h.1.symm
      subst this
      rcases mem_splice hv with h | h
      · exact r.cok a.block c e (by simp [rowOf, hg]) v h
      · exact hl v h

theorem ldN_some {a : Addr} {n : Nat} {l : List Value} (hl : ldN h a n = some l) :
    a.spot = none ∧ ∃ c e, rowOf h a.block = some (c, e) ∧ a.off + n ≤ c.length ∧ l = (c.drop a.off).take n := by
  unfold ldN at hl
  split at hl
  · simp at hl
  · rename_i hsp
    split at hl
    · rename_i c e hr
      split at hl
      · rename_i hb
        exact ⟨hsp, c, e, hr, Nat.le_of_ble_eq_true hb, (Option.some.inj hl).symm⟩
      · simp at hl
    · simp at hl

theorem ldN_length {a : Addr} {n : Nat} {l : List Value} (hl : ldN h a n = some l) : l.length = n := by
  obtain ⟨_, c, e, _, hlen, rfl⟩ := ldN_some hl
  simp; omega

theorem RelH.ldOk (r : RelH P ro w0 f g h w) {a : Addr} {n : Nat} {l : List Value} (hl : ldN h a n = some l) : ∀ v ∈ l, okV ro h v := by
  obtain ⟨_, c, e, hr, _, rfl⟩ := ldN_some hl
  exact fun v hv => r.cok a.block c e hr v (List.mem_of_mem_drop (List.mem_of_mem_take hv))

/-- cells read -/
theorem RelH.loaded (r : RelH P ro w0 f g h w) {a : Addr} {n : Nat} {l : List Value} (hl : ldN h a n = some l) :
    ∀ j v, (l.map (ren f g))[j]? = some v → w.cell? ((adr f a).add j) = some v := by
  have hlen := ldN_length hl
  obtain ⟨hsp, c, e, hr, hle, rfl⟩ := ldN_some hl
  intro j v hv
  have ha : adr f a = ⟨f a.block, a.off, none⟩ := by unfold adr; rw [← hsp]
  rw [ha, add_plainE]
  rw [List.getElem?_map, Option.map_eq_some_iff] at hv
  obtain ⟨u, hu, rfl⟩ := hv
  refine r.cellAt hr ?_
  have hj : j < n := by
    have := (List.getElem?_eq_some_iff.1 hu).1
    simp at this; omega
  rw [List.getElem?_take, if_pos hj, List.getElem?_drop] at hu
  exact hu

theorem RelH.loadedRun (r : RelH P ro w0 f g h w) {a : Addr} {n : Nat} {l : List Value} (hl : ldN h a n = some l) :
    (loadCells (adr f a) n).run P w = .ok (l.map (ren f g)).toArray w := by
  have := run_loadCells_list (P := P) w (adr f a) (l.map (ren f g)) (r.loaded hl)
  rw [List.length_map, ldN_length hl] at this
  exact this

end
end Go.Ev

namespace Go.Ev
open Go.RowKit (Below)

noncomputable def putO (h : H) (nm : Nat) : Option AO → H
  | none => h
  | some ob => h.put nm ob

/-- an operation's run answers as it was evaluated -/
def SimV (P : Program) (ro : Nat) (w0 : World) (f g : Nat → Nat) (h : H) (nm : Nat) (w : World) (S : Sem Next) (v : Value) (ob : Option AO) : Prop :=
  ∃ f' g' w', S.run P w = .ok (.value (ren f' g' v)) w' ∧ RelH P ro w0 f' g' (putO h nm ob) w' ∧ Agree ro h f g f' g' ∧ okV ro (putO h nm ob) v

theorem pureRun_run {α : Type} (P : Program) (w : World) : ∀ (s : Sem α) (a : α), pureRun P s = some a → s.run P w = .ok a w := by
  intro s
  induction s with
  | pure a => intro b h; simp only [pureRun, Option.some.injEq] at h; subst h; rfl
  | program k ih => intro a h; simp only [pureRun] at h; simp only [Sem.run]; exact ih P a h
  | mark m k ih => intro a h; simp only [pureRun] at h; simp only [Sem.run]; exact ih a h
  | _ => intro a h; simp [pureRun] at h

theorem flat_id {v : Value} (h : flat v = true) (f g : Nat → Nat) : ren f g v = v := flat_ren f g 5 v h
theorem flat_ok {v : Value} (h : flat v = true) (ro : Nat) (hp : H) : okV ro hp v := flat_all _ 5 v h

section
variable {P : Program} {ro : Nat} {w0 : World} {f g : Nat → Nat} {h : H} {w : World} {nm : Nat} {ρ ρc : Operand → Value} {o : Oper}

/-- the operands in the world are the evaluator's, renamed -/
def Opds (ro : Nat) (h : H) (f g : Nat → Nat) (ρ ρc : Operand → Value) (o : Oper) : Prop := ∀ x ∈ o.op.operands, ρc x = ren f g (ρ x) ∧ okV ro h (ρ x)

theorem SimV.same (r : RelH P ro w0 f g h w) {S : Sem Next} {v : Value} (hrun : S.run P w = .ok (.value (ren f g v)) w) (hv : okV ro h v) : SimV P ro w0 f g h nm w S v none :=
  ⟨f, g, w, hrun, r, Agree.refl .., hv⟩

theorem SimV.made (hr : ro ≤ nm) (hl : nm < LIM) (hn : h.get nm = none) {S : Sem Next} {ao : AO} {ob : Obj} {y : Nat} {w1 : World} (v : Value)
    (hw1 : RelH P ro w0 f g h w1) (hrun : S.run P w = .ok (.value (ren (upd f nm w1.heap.size) (upd g nm y) v)) (w1.alloc ob)) (ht : Tied P f g ao ob y)
    (hc : ∀ c e, ao = .cells c e ∨ ao = .grow c e → ∀ v ∈ c, okV ro h v) (hv : okV ro (h.put nm ao) v) : SimV P ro w0 f g h nm w S v (some ao) :=
  ⟨_, _, _, hrun, hw1.alloc hr hl hn ht hc, agree_upd f g hr hn _ _, hv⟩

theorem evFlat_sim (hop : Opds ro h f g ρ ρc o) (hs : ∀ cs b, o.op ≠ .select cs b) {v : Value} (he : evFlat P o ρ = some v) :
    (execOp ρc o).run P w = .ok (.value v) w ∧ flat v = true := by
  unfold evFlat at he
  split at he
  · rename_i hall
    split at he
    · rename_i u hp
      split at he
      · rename_i hf
        simp only [Option.some.injEq] at he
        subst he
        refine ⟨?_, hf⟩
        have hcong : execOp ρc o = execOp ρ o := execOp_congr o hs fun x hx => by
          rw [(hop x hx).1]
          exact flat_id (List.all_eq_true.1 hall x (Array.mem_def.1 hx)) f g
        rw [hcong]
        exact pureRun_run P w _ _ hp
      · simp at he
    · simp at he
  · simp at he

theorem flat_sim (r : RelH P ro w0 f g h w) (hop : Opds ro h f g ρ ρc o) (hs : ∀ cs b, o.op ≠ .select cs b) {v : Value} {ob : Option AO} (he : neFlat P o ρ = some (v, ob)) :
    SimV P ro w0 f g h nm w (execOp ρc o) v ob := by
  unfold neFlat val1 at he
  split at he
  · rename_i u hu
    simp only [Option.some.injEq, Prod.mk.injEq] at he
    obtain ⟨rfl, rfl⟩ := he
    obtain ⟨h1, h2⟩ := evFlat_sim (w := w) hop hs hu
    exact .same r (by rw [h1, flat_id h2]) (flat_ok h2 ro h)
  · simp at he

theorem cells_toList (v : Value) : v.cells.toList = cellsV v := by cases v <;> rfl
theorem cellsV_arr (v : Value) : v.cells = (cellsV v).toArray := by rw [← cells_toList]

theorem cellsV_ren (f g : Nat → Nat) (v : Value) : cellsV (ren f g v) = (cellsV v).map (ren f g) := by
  cases v with
  | agg cs => rw [ren_agg]; simp [cellsV]
  | pointer a => cases a with | none => rw [ren_nilptr]; simp [cellsV, ren_nilptr] | some a => rw [ren_pointer]; simp [cellsV, ren_pointer]
  | slice a l c => cases a with | none => rw [ren_nilslice]; simp [cellsV, ren_nilslice] | some a => rw [ren_slice]; simp [cellsV, ren_slice]
  | map a => cases a with | none => rw [ren_nilmap]; simp [cellsV, ren_nilmap] | some a => rw [ren_map]; simp [cellsV, ren_map]
  | chan a => cases a with | none => rw [ren_nilchan]; simp [cellsV, ren_nilchan] | some a => rw [ren_chan]; simp [cellsV, ren_chan]
  | func fn a b => rw [ren_func]; simp [cellsV, ren_func]
  | iface t v => rw [ren_iface]; simp [cellsV, ren_iface]
  | tuple cs => rw [ren_tuple]; simp [cellsV, ren_tuple]
  | bool b => rw [ren_bool]; simp [cellsV, ren_bool]
  | int k n => rw [ren_int]; simp [cellsV, ren_int]
  | float k n => rw [ren_float]; simp [cellsV, ren_float]
  | complex k a b => rw [ren_complex]; simp [cellsV, ren_complex]
  | string s => rw [ren_string]; simp [cellsV, ren_string]
  | nilFunc => rw [ren_nilFunc]; simp [cellsV, ren_nilFunc]
  | nilIface => rw [ren_nilIface]; simp [cellsV, ren_nilIface]

theorem cellsV_ok {v : Value} (hv : okV ro h v) : ∀ u ∈ cellsV v, okV ro h u := by
  intro u hu
  cases v with
  | agg cs => unfold okV at hv; rw [all_agg] at hv; exact hv u (by simpa [cellsV] using hu)
  | _ => simp only [cellsV, List.mem_singleton] at hu; subst hu; exact hv

theorem arr_ok {cs : List Value} (hc : ∀ v ∈ cs, okV ro h v) : okV ro h (.agg ⟨cs⟩) := by
  unfold okV; rw [all_agg]
  intro x hx
  exact hc x (by simpa using hx)

theorem ren_arr (f g : Nat → Nat) (cs : List Value) : ren f g (.agg ⟨cs⟩) = .agg ⟨cs.map (ren f g)⟩ := by
  rw [ren_agg]; simp

theorem new_ptr (nm : Nat) (hl : nm < LIM) (ao : AO) : okV ro (h.put nm ao) (.pointer (some ⟨nm, 0, none⟩)) := by
  unfold okV; rw [all_pointer]
  exact get_dom (H.get_put_same hl ao)
theorem new_slice (nm : Nat) (hl : nm < LIM) (ao : AO) (n c : Nat) : okV ro (h.put nm ao) (.slice (some ⟨nm, 0, none⟩) n c) := by
  unfold okV; rw [all_slice]
  exact get_dom (H.get_put_same hl ao)

theorem ren_new (f g : Nat → Nat) (nm x y : Nat) : ren (upd f nm x) (upd g nm y) (.pointer (some ⟨nm, 0, none⟩)) = .pointer (some ⟨x, 0, none⟩) := by
  rw [ren_pointer]; unfold adr; rw [upd_same]
theorem ren_newS (f g : Nat → Nat) (nm x y n c : Nat) (hc : c < BIG) : ren (upd f nm x) (upd g nm y) (.slice (some ⟨nm, 0, none⟩) n c) = .slice (some ⟨x, 0, none⟩) n c := by
  rw [ren_slice]; unfold adr capR; rw [upd_same, if_pos hc]
theorem ren_newG (f g : Nat → Nat) (nm x y n : Nat) : ren (upd f nm x) (upd g nm y) (.slice (some ⟨nm, 0, none⟩) n BIG) = .slice (some ⟨x, 0, none⟩) n y := by
  rw [ren_slice]; unfold adr capR; rw [upd_same, if_neg (by omega), upd_same]; simp

theorem freeTo_none (n : Nat) : freeTo (0, 0) n := fun j _ => by omega

theorem sim_alloc (r : RelH P ro w0 f g h w) (hr : ro ≤ nm) (hl : nm < LIM) (hn : h.get nm = none) {e : TypeId} (ho : o.op = .alloc e) {v : Value} {ob : Option AO} (he : neAlloc P nm e = some (v, ob)) :
    SimV P ro w0 f g h nm w (execOp ρc o) v ob := by
  unfold neAlloc at he
  split at he
  · rename_i i hi
    split at he
    · rename_i z hz
      split at he
      · rename_i hf
        simp only [Option.some.injEq, Prod.mk.injEq] at he
        obtain ⟨rfl, rfl⟩ := he
        have hid := flat_id hf f g
        have hcm : (cellsV z).map (ren f g) = cellsV z := by rw [← cellsV_ren, hid]
        refine SimV.made hr hl hn (w1 := w) (y := 0) (ob := .cells ((cellsV z).map (ren f g)).toArray e) _ r ?_ (.cells _ e (0, 0) (freeTo_none _) 0) ?_ (new_ptr nm hl _)
        · rw [ren_new, hcm]
          simp [execOp, ho, Instr.alloc, zeroValue, typeInfo, program, hi, hz, newVar, newRow, newObj, cellsV_arr, Sem.run]
        · intro c e' hc u hu
          have : c = cellsV z := by rcases hc with h | h <;> simp at h; exact h.1.symm
          subst this
          exact cellsV_ok (flat_ok hf ro h) u hu
      · simp at he
    · simp at he
  · simp at he

theorem sim_box (r : RelH P ro w0 f g h w) (hr : ro ≤ nm) (hl : nm < LIM) (hn : h.get nm = none) {e : TypeId} {x : Operand} (ho : o.op = .box e x) (hx : ρc x = ren f g (ρ x) ∧ okV ro h (ρ x)) :
    SimV P ro w0 f g h nm w (execOp ρc o) (.pointer (some ⟨nm, 0, none⟩)) (some (.cells (cellsV (ρ x)) e)) := by
  refine SimV.made hr hl hn (w1 := w) (y := 0) (ob := .cells ((cellsV (ρ x)).map (ren f g)).toArray e) _ r ?_ (.cells _ e (0, 0) (freeTo_none _) 0) ?_ (new_ptr nm hl _)
  · rw [ren_new, ← cellsV_ren, ← hx.1]
    simp [execOp, ho, Instr.box, newVar, newRow, newObj, cellsV_arr, Sem.run]
  · intro c e' hc u hu
    have : c = cellsV (ρ x) := by rcases hc with h | h <;> simp at h; exact h.1.symm
    subst this
    exact cellsV_ok hx.2 u hu

end
end Go.Ev

namespace Go.Ev
open Go.RowKit (Below)

section
variable {P : Program} {ro : Nat} {w0 : World} {f g : Nat → Nat} {h : H} {w : World} {nm : Nat} {ρ ρc : Operand → Value} {o : Oper}

theorem isAgg_run {t : TypeId} {b : Bool} (hb : isAggT P t = some b) : (isAgg t).run P w = .ok b w := by
  unfold isAggT at hb
  unfold isAgg
  split at hb
  · rename_i fs hu
    simp only [Option.some.injEq] at hb; subst hb
    simp [run_underlying hu]
  · rename_i n e hu
    simp only [Option.some.injEq] at hb; subst hb
    simp [run_underlying hu]
  · rename_i d hd1 hd2 hu
    simp only [Option.some.injEq] at hb; subst hb
    simp only [Sem.run_bind, run_underlying hu, Result.andThen_ok]
    cases d <;> first | rfl | (exact absurd hu (hd1 _)) | (exact absurd hu (hd2 _ _))
  · simp at hb

theorem sizeOf_run {t : TypeId} {n : Nat} (hn : szOf P t = some n) : (sizeOf t).run P w = .ok n w := by
  unfold szOf at hn
  rw [Option.map_eq_some_iff] at hn
  obtain ⟨i, hi, rfl⟩ := hn
  simp [sizeOf, typeInfo, program, hi, Sem.run]

theorem evLoad_run (r : RelH P ro w0 f g h w) {t : TypeId} {a : Addr} {v : Value} (he : evLoad P h t a = some v) :
    (loadVar t (adr f a)).run P w = .ok (ren f g v) w ∧ okV ro h v := by
  unfold evLoad at he
  split at he
  · rename_i hag
    split at he
    · rename_i n hn
      split at he
      · rename_i l hl
        simp only [Option.some.injEq] at he; subst he
        refine ⟨?_, arr_ok (r.ldOk hl)⟩
        rw [ren_arr]
        simp only [loadVar, Sem.run_bind, isAgg_run hag, Result.andThen_ok, if_true, sizeOf_run hn, r.loadedRun hl]
        rfl
      · simp at he
    · simp at he
  · rename_i hag
    split at he
    · rename_i u hl
      simp only [Option.some.injEq] at he; subst he
      refine ⟨?_, r.ldOk hl u (by simp)⟩
      have hc := r.loaded hl 0 (ren f g u) (by simp)
      have hz : (adr f a).add 0 = adr f a := by simp [Addr.add]
      rw [hz] at hc
      simp [loadVar, isAgg_run hag, hc]
    · simp at he
  · simp at he

theorem sim_load (r : RelH P ro w0 f g h w) {t : TypeId} {x : Operand} (ho : o.op = .load t x) (hx : ρc x = ren f g (ρ x) ∧ okV ro h (ρ x)) {v : Value} {ob : Option AO} (he : neLoad P h t (ρ x) = some (v, ob)) :
    SimV P ro w0 f g h nm w (execOp ρc o) v ob := by
  unfold neLoad at he
  split at he
  · rename_i a ha
    unfold val1 at he
    split at he
    · rename_i u hu
      simp only [Option.some.injEq, Prod.mk.injEq] at he
      obtain ⟨rfl, rfl⟩ := he
      obtain ⟨h1, h2⟩ := evLoad_run r hu
      refine .same r ?_ h2
      have hc : ρc x = .pointer (some (adr f a)) := by rw [hx.1, ha, ren_pointer]
      simp [execOp, ho, hc, Instr.loadAt, Instr.sureAddr, h1]
    · simp at he
  · simp at he

theorem sim_nil (r : RelH P ro w0 f g h w) {x : Operand} (ho : o.op = .nilCheck x) (hx : ρc x = ren f g (ρ x) ∧ okV ro h (ρ x)) {v : Value} {ob : Option AO} (he : neNil (ρ x) = some (v, ob)) :
    SimV P ro w0 f g h nm w (execOp ρc o) v ob := by
  unfold neNil at he
  split at he
  · rename_i a ha
    simp only [Option.some.injEq, Prod.mk.injEq] at he
    obtain ⟨rfl, rfl⟩ := he
    rw [ha] at hx
    have hc := hx.1
    rw [ren_pointer] at hc
    exact .same r (by rw [ren_pointer]; simp [execOp, ho, hc]) hx.2
  · rename_i fi a b ha
    simp only [Option.some.injEq, Prod.mk.injEq] at he
    obtain ⟨rfl, rfl⟩ := he
    rw [ha] at hx
    have hc := hx.1
    rw [ren_func] at hc
    exact .same r (by rw [ren_func]; simp [execOp, ho, hc]) hx.2
  · rename_i t u ha
    simp only [Option.some.injEq, Prod.mk.injEq] at he
    obtain ⟨rfl, rfl⟩ := he
    rw [ha] at hx
    have hc := hx.1
    rw [ren_iface] at hc
    exact .same r (by rw [ren_iface]; simp [execOp, ho, hc]) hx.2
  · simp at he

theorem sim_pick (r : RelH P ro w0 f g h w) {c a b : Operand} (ho : o.op = .pick c a b) (hc : ρc c = ren f g (ρ c) ∧ okV ro h (ρ c)) (ha : ρc a = ren f g (ρ a) ∧ okV ro h (ρ a)) (hb : ρc b = ren f g (ρ b) ∧ okV ro h (ρ b))
    {v : Value} {ob : Option AO} (he : nePick (ρ c) (ρ a) (ρ b) = some (v, ob)) : SimV P ro w0 f g h nm w (execOp ρc o) v ob := by
  unfold nePick at he
  split at he
  · rename_i h1
    simp only [Option.some.injEq, Prod.mk.injEq] at he
    obtain ⟨rfl, rfl⟩ := he
    rw [h1, ren_bool] at hc
    exact .same r (by simp [execOp, ho, hc.1, asBool, ha.1]) ha.2
  · rename_i h1
    simp only [Option.some.injEq, Prod.mk.injEq] at he
    obtain ⟨rfl, rfl⟩ := he
    rw [h1, ren_bool] at hc
    exact .same r (by simp [execOp, ho, hc.1, asBool, hb.1]) hb.2
  · simp at he

theorem okInt (k : IntKind) (n : Int) : okV ro h (.int k n) := by unfold okV; rw [all_int]; trivial
theorem okBool (b : Bool) : okV ro h (.bool b) := by unfold okV; rw [all_bool]; trivial
theorem okStr (s : ByteArray) : okV ro h (.string s) := by unfold okV; rw [all_string]; trivial

/-! ### integers -/
theorem wrap_mbits (k : IntKind) (n : Nat) (hn : n < 2 ^ mbits k) : k.wrap (n : Int) = (n : Int) := by
  have e8 : (2 : Int) ^ 8 = 256 := by decide
  cases k <;> simp only [mbits] at hn <;> simp [IntKind.wrap, IntKind.bits, IntKind.signed] <;> (try split) <;> omega

theorem mbits_le (k : IntKind) : mbits k ≤ k.bits := by cases k <;> decide

theorem ofInt_nat (k : IntKind) (n : Nat) (hn : n < 2 ^ mbits k) : (BitVec.ofInt k.bits (n : Int)).toNat = n := by
  rw [BitVec.ofInt_natCast, BitVec.toNat_ofNat]
  exact Nat.mod_eq_of_lt (Nat.lt_of_lt_of_le hn (Nat.pow_le_pow_right (by decide) (mbits_le k)))

theorem intBits_run (k : IntKind) (x y : Nat) (hx : x < 2 ^ mbits k) (hy : y < 2 ^ mbits k) :
    (Op.intBits .and k x y).run P w = .ok (.int k ((Nat.land x y : Nat) : Int)) w ∧ (Op.intBits .or k x y).run P w = .ok (.int k ((Nat.lor x y : Nat) : Int)) w ∧
    (Op.intBits .xor k x y).run P w = .ok (.int k ((Nat.xor x y : Nat) : Int)) w := by
  have h1 : x &&& y < 2 ^ mbits k := Nat.and_lt_two_pow _ hy
  have h2 : x ||| y < 2 ^ mbits k := Nat.or_lt_two_pow hx hy
  have h3 : x ^^^ y < 2 ^ mbits k := Nat.xor_lt_two_pow hx hy
  refine ⟨?_, ?_, ?_⟩
  · simp only [Op.intBits, Sem.run_pure, BitVec.toNat_and, ofInt_nat k x hx, ofInt_nat k y hy]
    rw [wrap_mbits k _ h1]; rfl
  · simp only [Op.intBits, Sem.run_pure, BitVec.toNat_or, ofInt_nat k x hx, ofInt_nat k y hy]
    rw [wrap_mbits k _ h2]; rfl
  · simp only [Op.intBits, Sem.run_pure, BitVec.toNat_xor, ofInt_nat k x hx, ofInt_nat k y hy]
    rw [wrap_mbits k _ h3]; rfl

theorem bitOp_some {k : IntKind} {fn : Nat → Nat → Nat} {a b : Int} {v : Value} (he : bitOp k fn a b = some v) :
    ∃ x y : Nat, a = x ∧ b = y ∧ x < 2 ^ mbits k ∧ y < 2 ^ mbits k ∧ v = .int k ((fn x y : Nat) : Int) := by
  unfold bitOp at he
  split at he
  · rename_i x y
    split at he
    · rename_i hx hy
      simp only [Option.some.injEq] at he
      exact ⟨x, y, rfl, rfl, by simpa using hx, by simpa using hy, he.symm⟩
    · simp at he
  · simp at he

/-- the program's operation on two integers of one kind -/
theorem intOp_run {op : BinOp} {k : IntKind} {t : TypeId} {a b : Int} {v : Value} (he : intOp op k a b = some v) :
    (binOp op t (.int k a) (.int k b)).run P w = .ok v w ∧ flat v = true := by
  unfold intOp at he
  split at he
  all_goals first
    | (simp only [Option.some.injEq] at he; subst he; exact ⟨by simp [binOp, Op.intArith, Op.intCmp], rfl⟩)
    | skip
  · split at he
    · rename_i n
      simp only [Option.some.injEq] at he; subst he
      refine ⟨?_, rfl⟩
      simp [binOp, Op.intDiv]
      intro hz; omega
    · simp at he
  · split at he
    · rename_i n
      simp only [Option.some.injEq] at he; subst he
      refine ⟨?_, rfl⟩
      simp [binOp, Op.intDiv]
      intro hz; omega
    · simp at he
  · obtain ⟨x, y, rfl, rfl, hx, hy, rfl⟩ := bitOp_some he
    exact ⟨by simpa [binOp] using (intBits_run k x y hx hy).1, rfl⟩
  · obtain ⟨x, y, rfl, rfl, hx, hy, rfl⟩ := bitOp_some he
    exact ⟨by simpa [binOp] using (intBits_run k x y hx hy).2.1, rfl⟩
  · obtain ⟨x, y, rfl, rfl, hx, hy, rfl⟩ := bitOp_some he
    exact ⟨by simpa [binOp] using (intBits_run k x y hx hy).2.2, rfl⟩
  · simp at he

theorem shOp_run {op : BinOp} {k l : IntKind} {t : TypeId} {a b : Int} {v : Value} (he : shOp op k a b = some v) :
    (binOp op t (.int k a) (.int l b)).run P w = .ok v w ∧ flat v = true := by
  unfold shOp at he
  split at he
  · unfold shl1 at he
    split at he
    · rename_i x n
      split at he
      · rename_i hn
        have hn := Nat.le_of_ble_eq_true hn
        simp only [Option.some.injEq] at he; subst he
        refine ⟨?_, rfl⟩
        have h0 : ¬ ((n : Int) < 0) := by omega
        have hm : min n k.bits = n := Nat.min_eq_left hn
        simp only [binOp, Op.shift, Int.ofNat_eq_natCast]
        rw [if_neg h0, Int.toNat_natCast, hm]
        simp
      · simp at he
    · simp at he
  · unfold shr1 at he
    split at he
    · rename_i x n
      split at he
      · rename_i hn
        have hn := Nat.le_of_ble_eq_true hn
        simp only [Option.some.injEq] at he; subst he
        refine ⟨?_, rfl⟩
        have h0 : ¬ ((n : Int) < 0) := by omega
        have hm : min n k.bits = n := Nat.min_eq_left hn
        simp only [binOp, Op.shift, Int.ofNat_eq_natCast]
        rw [if_neg h0, Int.toNat_natCast, hm]
        simp [Int.fdiv_eq_ediv_of_nonneg _ (show (0 : Int) ≤ 2 ^ n from by exact_mod_cast Nat.zero_le _)]
      · simp at he
    · simp at he
  · simp at he

theorem eqL_iff : ∀ a b : List UInt8, eqL a b = (a == b)
  | [], [] => rfl
  | [], _ :: _ => rfl
  | _ :: _, [] => rfl
  | a :: x, b :: y => by
    unfold eqL
    split
    · rename_i hb
      have : a = b := UInt8.toNat_inj.1 (Nat.eq_of_beq_eq_true hb)
      subst this
      rw [eqL_iff x y]; simp
    · rename_i hb
      have : ¬ a = b := fun e => by subst e; simp at hb
      simp [this]

theorem bytes_toList (s : ByteArray) : s.toList = s.data.toList := by
  exact ByteArray.toList_eq s

theorem strOp_run {op : BinOp} {t : TypeId} {a b : ByteArray} {v : Value} (he : strOp op a b = some v) :
    (binOp op t (.string a) (.string b)).run P w = .ok v w ∧ flat v = true := by
  unfold strOp at he
  split at he
  · split at he
    · rename_i hb
      have hb := Nat.le_of_ble_eq_true hb
      simp only [Option.some.injEq] at he; subst he
      refine ⟨?_, rfl⟩
      have h1 : ¬ (((a.size + b.size : Nat) : Int) > IntKind.i64.max) := by
        have : IntKind.i64.max = 9223372036854775807 := rfl
        omega
      have h2 : a ++ b = ⟨⟨a.data.toList ++ b.data.toList⟩⟩ := by
        apply ByteArray.ext; apply Array.ext'; simp
      simp only [binOp, Op.stringOp, h1, if_false, h2]
      rfl
    · simp at he
  · simp only [Option.some.injEq] at he; subst he
    exact ⟨by simp [binOp, Op.stringOp, bytes_toList, eqL_iff], rfl⟩
  · simp only [Option.some.injEq] at he; subst he
    exact ⟨by simp [binOp, Op.stringOp, bytes_toList, eqL_iff], rfl⟩
  · simp at he


theorem eqGuard_plain (op : BinOp) (t : TypeId) (x y : Operand) (a b : Value) (h1 : ¬ (a = .nilIface ∧ b = .nilIface)) (h2 : ∀ c d, ¬ (a = .agg c ∧ b = .agg d)) :
    (eqGuard op t x y a b).run P w = .ok () w := by
  unfold eqGuard
  split
  all_goals simp only [Bool.not_true, Bool.not_false, Bool.false_eq_true, if_false, if_true]
  all_goals first
    | rfl
    | (split
       · exact absurd ⟨rfl, rfl⟩ h1
       · exact absurd ⟨rfl, rfl⟩ (h2 _ _)
       · rfl)

theorem bin_run {op : BinOp} {t yt : TypeId} {x y : Operand} (ho : o.op = .binOp op t x y yt) {v : Value} (h1 : ¬ (ρc x = .nilIface ∧ ρc y = .nilIface)) (h2 : ∀ c d, ¬ (ρc x = .agg c ∧ ρc y = .agg d))
    (hrun : (binOp op t (ρc x) (ρc y)).run P w = .ok v w) : (execOp ρc o).run P w = .ok (.value v) w := by
  simp [execOp, ho, eqGuard_plain op t x y _ _ h1 h2, hrun]

theorem evEq_run {t : TypeId} {a b : Value} {z : Bool} (f g : Nat → Nat) (he : evEq P t a b = some z) :
    (Op.equal t (ren f g a) (ren f g b)).run P w = .ok z w ∧ ¬ (ren f g a = .nilIface ∧ ren f g b = .nilIface) ∧ (∀ c d, ¬ (ren f g a = .agg c ∧ ren f g b = .agg d)) ∧
    (∀ op, op = .eql ∨ op = .neq → binOp op t (ren f g a) (ren f g b) = match op with | .eql => (do pure (.bool (← Op.equal t (ren f g a) (ren f g b)))) | _ => (do pure (.bool (!(← Op.equal t (ren f g a) (ren f g b)))))) := by
  have hd : ∀ d x y, (Op.equalIn (d + 1) t x y).run P w = .ok z w → (∀ x y, (Op.equalIn (d + 1) t x y).run P w = .ok z w → d = 9999 → (Op.equal t x y).run P w = .ok z w) := by
    intro d _ _ _ x y h1 h2; subst h2; exact h1
  suffices H : (∀ d, (Op.equalIn (d + 1) t (ren f g a) (ren f g b)).run P w = .ok z w) ∧ ¬ (ren f g a = .nilIface ∧ ren f g b = .nilIface) ∧ (∀ c d, ¬ (ren f g a = .agg c ∧ ren f g b = .agg d)) ∧
      (∀ op, op = .eql ∨ op = .neq → binOp op t (ren f g a) (ren f g b) = match op with | .eql => (do pure (.bool (← Op.equal t (ren f g a) (ren f g b)))) | _ => (do pure (.bool (!(← Op.equal t (ren f g a) (ren f g b)))))) from
    ⟨hd 9999 _ _ (H.1 9999) _ _ (H.1 9999) rfl, H.2⟩
  unfold evEq at he
  split at he
  all_goals first
    | (rename_i hu
       simp only [Option.some.injEq] at he; subst he
       first
         | (rw [ren_pointer, ren_nilptr]; refine ⟨fun d => by simp [Op.equalIn, run_underlying hu], by simp, by simp, ?_⟩; rintro op (rfl | rfl) <;> rfl)
         | (rw [ren_slice, ren_nilslice]; refine ⟨fun d => by simp [Op.equalIn, run_underlying hu], by simp, by simp, ?_⟩; rintro op (rfl | rfl) <;> rfl)
         | (rw [ren_func, ren_nilFunc]; refine ⟨fun d => by simp [Op.equalIn, run_underlying hu], by simp, by simp, ?_⟩; rintro op (rfl | rfl) <;> rfl)
         | (rw [ren_iface, ren_nilIface]; refine ⟨fun d => by simp [Op.equalIn, run_underlying hu], by simp, by simp, ?_⟩; rintro op (rfl | rfl) <;> rfl))
    | (simp at he; done)

theorem sim_bin (r : RelH P ro w0 f g h w) (hop : Opds ro h f g ρ ρc o) {op : BinOp} {t yt : TypeId} {x y : Operand} (ho : o.op = .binOp op t x y yt) {v : Value} {ob : Option AO}
    (he : neBin P o ρ op t (ρ x) (ρ y) = some (v, ob)) : SimV P ro w0 f g h nm w (execOp ρc o) v ob := by
  have hs : ∀ cs b, o.op ≠ .select cs b := by rw [ho]; simp
  have hx := hop x (by rw [ho]; simp [Op.operands])
  have hy := hop y (by rw [ho]; simp [Op.operands])
  unfold neBin at he
  split at he
  · rename_i k a l b ha hb
    rw [ha, ren_int] at hx
    rw [hb, ren_int] at hy
    split at he
    · rename_i u hu
      simp only [Option.some.injEq, Prod.mk.injEq] at he
      obtain ⟨rfl, rfl⟩ := he
      obtain ⟨h1, h2⟩ := shOp_run (P := P) (w := w) (t := t) (l := l) hu
      refine .same r ?_ (flat_ok h2 ro h)
      rw [flat_id h2]
      exact bin_run ho (by rw [hx.1]; simp) (by rw [hx.1]; simp) (by rw [hx.1, hy.1]; exact h1)
    · split at he
      · rename_i u hk hu
        simp only [Option.some.injEq, Prod.mk.injEq] at he
        obtain ⟨rfl, rfl⟩ := he
        have hkl : k = l := of_decide_eq_true hk
        subst hkl
        obtain ⟨h1, h2⟩ := intOp_run (P := P) (w := w) (t := t) hu
        refine .same r ?_ (flat_ok h2 ro h)
        rw [flat_id h2]
        exact bin_run ho (by rw [hx.1]; simp) (by rw [hx.1]; simp) (by rw [hx.1, hy.1]; exact h1)
      · exact flat_sim r hop hs he
  · rename_i a b ha hb
    rw [ha, ren_string] at hx
    rw [hb, ren_string] at hy
    split at he
    · rename_i u hu
      simp only [Option.some.injEq, Prod.mk.injEq] at he
      obtain ⟨rfl, rfl⟩ := he
      obtain ⟨h1, h2⟩ := strOp_run (P := P) (w := w) (t := t) hu
      refine .same r ?_ (flat_ok h2 ro h)
      rw [flat_id h2]
      exact bin_run ho (by rw [hx.1]; simp) (by rw [hx.1]; simp) (by rw [hx.1, hy.1]; exact h1)
    · exact flat_sim r hop hs he
  · unfold neBin2 at he
    split at he
    · exact flat_sim r hop hs he
    · unfold neEq at he
      split at he
      · rename_i b hb
        simp only [Option.some.injEq, Prod.mk.injEq] at he
        obtain ⟨rfl, rfl⟩ := he
        obtain ⟨h1, h2, h3, h4⟩ := evEq_run (w := w) f g hb
        refine .same r ?_ (okBool b)
        rw [ren_bool]
        refine bin_run ho (by rw [hx.1, hy.1]; exact h2) (by rw [hx.1, hy.1]; exact h3) ?_
        rw [hx.1, hy.1, h4 _ (.inl rfl)]
        simp [h1]
      · rename_i b hb
        simp only [Option.some.injEq, Prod.mk.injEq] at he
        obtain ⟨rfl, rfl⟩ := he
        obtain ⟨h1, h2, h3, h4⟩ := evEq_run (w := w) f g hb
        refine .same r ?_ (okBool _)
        rw [ren_bool]
        refine bin_run ho (by rw [hx.1, hy.1]; exact h2) (by rw [hx.1, hy.1]; exact h3) ?_
        rw [hx.1, hy.1, h4 _ (.inr rfl)]
        simp [h1]
      · simp at he

theorem sim_un (r : RelH P ro w0 f g h w) (hop : Opds ro h f g ρ ρc o) {op : UnOp} {t : TypeId} {x : Operand} (ho : o.op = .unOp op t x) {v : Value} {ob : Option AO}
    (he : neUn P o ρ op (ρ x) = some (v, ob)) : SimV P ro w0 f g h nm w (execOp ρc o) v ob := by
  have hs : ∀ cs b, o.op ≠ .select cs b := by rw [ho]; simp
  have hx := hop x (by rw [ho]; simp [Op.operands])
  unfold neUn at he
  split at he
  · rename_i b hb
    simp only [Option.some.injEq, Prod.mk.injEq] at he
    obtain ⟨rfl, rfl⟩ := he
    rw [hb, ren_bool] at hx
    exact .same r (by rw [ren_bool]; simp [execOp, ho, hx.1, Op.unary]) (okBool _)
  · exact flat_sim r hop hs he

theorem bytesV_ren (s : ByteArray) (f g : Nat → Nat) : (bytesV s).map (ren f g) = bytesV s := by
  unfold bytesV
  rw [List.map_map]
  exact List.map_congr_left fun b _ => ren_int f g _ _

theorem bytesV_ok (s : ByteArray) : ∀ v ∈ bytesV s, okV ro h v := by
  intro v hv
  unfold bytesV at hv
  obtain ⟨b, _, rfl⟩ := List.mem_map.1 hv
  exact okInt _ _

theorem bytesV_length (s : ByteArray) : (bytesV s).length = s.size := by simp [bytesV]

/-- what '[]byte(s)' makes: some capacity, the bytes ahead, the mark behind them -/
theorem conv_run {src dst e : TypeId} {s : ByteArray} {u : TypeDesc} (hs : P.underlying src = some u) (hd : P.underlying dst = some (.slice e)) (he : P.underlying e = some (.int .u8)) (hsz : s.size ≤ 1048576) :
    ∃ (y : Nat) (rest : List Value) (fz : Nat × Nat), (convert src dst (.string s)).run P w = .ok (.slice (some ⟨w.heap.size, 0, none⟩) s.size y) (w.drew.alloc (.cells (bytesV s ++ rest).toArray e fz)) ∧
      y = s.size + rest.length ∧ freeTo fz (s.size + rest.length) ∧ y < BIG := by
  have hge := grownCap_ge w s.size 0 e
  have hle := grownCap_le_maxLen w s.size 0 e (by unfold maxLen; omega)
  have hrun := Lib.run_convert_string_bytes (P := P) w src dst e s hs hd he
  refine ⟨grownCap w s.size 0 e, List.replicate (grownCap w s.size 0 e - s.size) (Value.int .u8 0), (grownCap w s.size 0 e, grownCap w s.size 0 e + 1), ?_, by simp; omega, ?_, by unfold maxLen at hle; unfold BIG; omega⟩
  · rw [hrun]
    have hc : Lib.bytesCells w e s = (bytesV s ++ List.replicate (grownCap w s.size 0 e - s.size) (Value.int .u8 0)).toArray := by
      unfold Lib.bytesCells bytesV
      apply Array.ext'
      simp
    have hl : (Lib.bytesCells w e s).size = grownCap w s.size 0 e := by rw [hc]; simp [bytesV]; omega
    unfold Lib.bytesWorld
    rw [hl, hc]
    congr 1
    unfold World.freeze
    simp only [Nat.succ_ne_zero, if_false]
    have : ∀ (hp : Array Obj) (o : Obj) (k : Obj → Obj), (hp.push o).modify hp.size k = hp.push (k o) := by
      intro hp o k
      apply Array.ext_getElem?
      intro i
      rw [Array.getElem?_modify, Array.getElem?_push, Array.getElem?_push]
      by_cases hi : i = hp.size
      · subst hi; simp
      · rw [if_neg hi, if_neg (fun h => hi h.symm), if_neg hi]
    show World.mk _ _ _ _ _ = World.mk _ _ _ _ _
    congr 1
    exact this w.heap _ _
  · intro j hj
    simp at hj ⊢
    omega

theorem sim_convS (r : RelH P ro w0 f g h w) (hr : ro ≤ nm) (hl : nm < LIM) (hn : h.get nm = none) {src dst e : TypeId} {x : Operand} {s : ByteArray} {u : TypeDesc} (ho : o.op = .convert src dst x) (hx : ρc x = .string s)
    (hs : P.underlying src = some u) (hd : P.underlying dst = some (.slice e)) {v : Value} {ob : Option AO} (he : neConvS P nm e s = some (v, ob)) :
    SimV P ro w0 f g h nm w (execOp ρc o) v ob := by
  unfold neConvS at he
  split at he
  · rename_i hue hsz
    have hsz : ∃ i, P.info? e = some i ∧ i.size = 1 := by
      unfold szOf at hsz; rw [Option.map_eq_some_iff] at hsz; exact hsz
    split at he
    · rename_i hb
      have hb := Nat.le_of_ble_eq_true hb
      simp only [Option.some.injEq, Prod.mk.injEq] at he
      obtain ⟨rfl, rfl⟩ := he
      obtain ⟨y, rest, fz, hrun, hy, hfz, hB⟩ := conv_run (w := w) hs hd hue hb
      obtain ⟨i, hi, hi1⟩ := hsz
      refine SimV.made hr hl hn (w1 := w.drew) (y := y) _ r.drew ?_ (.grow (bytesV s) e rest fz i y hi (by omega) (by rw [hi1, bytesV_length]; omega) (by rw [bytesV_length]; exact hfz) hB) ?_ (new_slice nm hl _ _ _)
      · rw [ren_newG, bytesV_ren]
        simp only [execOp, ho, hx, Sem.run_bind, hrun]
        rfl
      · intro c e' hc u hu
        have : c = bytesV s := by rcases hc with h | h <;> simp at h; exact h.1.symm
        subst this
        exact bytesV_ok s u hu
    · simp at he
  · simp at he

end
end Go.Ev

namespace Go.Ev
open Go.RowKit (Below)

section
variable {P : Program} {ro : Nat} {w0 : World} {f g : Nat → Nat} {h : H} {w : World} {nm : Nat} {ρ ρc : Operand → Value} {o : Oper}

theorem adr_add (f : Nat → Nat) (a : Addr) (n : Nat) : adr f (a.add n) = (adr f a).add n := by
  unfold Addr.add; split <;> rfl
theorem add_block (a : Addr) (n : Nat) : (a.add n).block = a.block := by unfold Addr.add; split <;> rfl

theorem bytesOf_map : ∀ (l : List Value) (bs : List UInt8), bytesOf l = some bs → ∃ ns : List Int, l = ns.map (Value.int .u8) ∧ bs = ns.map fun n => UInt8.ofNat n.toNat
  | [], bs, h => by simp only [bytesOf, Option.some.injEq] at h; subst h; exact ⟨[], rfl, rfl⟩
  | v :: l, bs, h => by
    unfold bytesOf at h
    split at h
    · rename_i b r hb hr
      simp only [Option.some.injEq] at h; subst h
      obtain ⟨ns, rfl, rfl⟩ := bytesOf_map l r hr
      unfold byteOf at hb
      split at hb
      · rename_i n
        simp only [Option.some.injEq] at hb; subst hb
        exact ⟨n :: ns, rfl, rfl⟩
      · simp at hb
    · simp at h

theorem ints_ren (ns : List Int) (k : IntKind) (f g : Nat → Nat) : (ns.map (Value.int k)).map (ren f g) = ns.map (Value.int k) := by
  rw [List.map_map]; exact List.map_congr_left fun n _ => ren_int f g k n

theorem sim_convB (r : RelH P ro w0 f g h w) {src dst e : TypeId} {x : Operand} {a : Addr} {len cap : Nat} (ho : o.op = .convert src dst x) (hx : ρc x = .slice (some (adr f a)) len cap)
    (hs : P.underlying src = some (.slice e)) (hd : P.underlying dst = some .string) {v : Value} {ob : Option AO} (he : neConvB P h e a len = some (v, ob)) : SimV P ro w0 f g h nm w (execOp ρc o) v ob := by
  unfold neConvB at he
  split at he
  · rename_i l hue hl
    split at he
    · rename_i bs hb
      simp only [Option.some.injEq, Prod.mk.injEq] at he
      obtain ⟨rfl, rfl⟩ := he
      obtain ⟨ns, rfl, rfl⟩ := bytesOf_map l bs hb
      have hrun := r.loadedRun hl
      rw [ints_ren] at hrun
      refine .same r ?_ (okStr _)
      rw [ren_string]
      have h1 := run_convert_bytes_string (P := P) w src dst e (some (adr f a)) len cap hs hue hd
      have h2 := run_bytesToString (P := P) w (adr f a) len cap ns (by simpa using hrun)
      simp only [execOp, ho, hx, Sem.run_bind, h1, h2, foldl_push_bytes, Result.andThen_ok, Sem.run_pure]
      simp [ByteArray.empty, ByteArray.emptyWithCapacity]
      rfl
    · simp at he
  · simp at he

theorem sim_conv (r : RelH P ro w0 f g h w) (hop : Opds ro h f g ρ ρc o) (hr : ro ≤ nm) (hl : nm < LIM) (hn : h.get nm = none) {src dst : TypeId} {x : Operand} (ho : o.op = .convert src dst x) {v : Value} {ob : Option AO}
    (he : neConv P nm h o ρ src dst (ρ x) = some (v, ob)) : SimV P ro w0 f g h nm w (execOp ρc o) v ob := by
  have hs : ∀ cs b, o.op ≠ .select cs b := by rw [ho]; simp
  have hx := hop x (by rw [ho]; simp [Op.operands])
  unfold neConv at he
  split at he
  · rename_i e s h1 h2 h3
    exact sim_convS r hr hl hn ho (by rw [hx.1, h3, ren_string]) h1 h2 he
  · rename_i e a len cap h1 h2 h3
    exact sim_convB r ho (by rw [hx.1, h3, ren_slice]) h1 h2 he
  · rename_i sk k kk n h1 h2 h3
    simp only [Option.some.injEq, Prod.mk.injEq] at he
    obtain ⟨rfl, rfl⟩ := he
    refine .same r ?_ (okInt _ _)
    rw [ren_int]
    rw [h3, ren_int] at hx
    simp [execOp, ho, hx.1, convert, run_underlying h1, run_underlying h2, Conv.intToInt]
  · exact flat_sim r hop hs he

theorem sim_s2a (r : RelH P ro w0 f g h w) {arr : TypeId} {x : Operand} (ho : o.op = .sliceToArrayPointer arr x) (hx : ρc x = ren f g (ρ x) ∧ okV ro h (ρ x)) {v : Value} {ob : Option AO}
    (he : neS2A P arr (ρ x) = some (v, ob)) : SimV P ro w0 f g h nm w (execOp ρc o) v ob := by
  unfold neS2A at he
  split at he
  · rename_i n e a len cap hu ha
    split at he
    · rename_i hb
      have hb := Nat.le_of_ble_eq_true hb
      simp only [Option.some.injEq, Prod.mk.injEq] at he
      obtain ⟨rfl, rfl⟩ := he
      rw [ha, ren_slice] at hx
      refine .same r ?_ (by have := hx.2; unfold okV at this ⊢; rw [all_slice] at this; rw [all_pointer]; exact this)
      rw [ren_pointer]
      have : ¬ len < n := by omega
      simp [execOp, ho, hx.1, Instr.arrayAt, run_underlying hu, this]
    · simp at he
  · simp at he

theorem sim_iface (r : RelH P ro w0 f g h w) {t : TypeId} {x : Operand} (ho : o.op = .makeInterface t x) (hx : ρc x = ren f g (ρ x) ∧ okV ro h (ρ x)) {v : Value} {ob : Option AO}
    (he : neIface P t (ρ x) = some (v, ob)) : SimV P ro w0 f g h nm w (execOp ρc o) v ob := by
  unfold neIface at he
  split at he
  · simp at he
  · rename_i d hd hu
    simp only [Option.some.injEq, Prod.mk.injEq] at he
    obtain ⟨rfl, rfl⟩ := he
    refine .same r ?_ (by have := hx.2; unfold okV at this ⊢; rw [all_iface]; exact this)
    rw [ren_iface, ← hx.1]
    simp only [execOp, ho, Instr.makeInterface, Sem.run_bind, run_underlying hu, Result.andThen_ok]
    cases d <;> first | rfl | exact absurd hu (hd _)
  · simp at he

theorem sim_func (r : RelH P ro w0 f g h w) {fn : Fn} {a b : Array Operand} (ho : o.op = .makeFunc fn a b) (hop : Opds ro h f g ρ ρc o) :
    SimV P ro w0 f g h nm w (execOp ρc o) (.func fn (a.map ρ) (b.map ρ)) none := by
  have ha : ∀ x ∈ a, ρc x = ren f g (ρ x) ∧ okV ro h (ρ x) := fun x hx => hop x (by rw [ho]; simp [Op.operands, hx])
  have hb : ∀ x ∈ b, ρc x = ren f g (ρ x) ∧ okV ro h (ρ x) := fun x hx => hop x (by rw [ho]; simp [Op.operands, hx])
  refine .same r ?_ ?_
  · rw [ren_func, Array.map_map, Array.map_map]
    rw [← Array.map_congr_left (f := ρc) (g := ren f g ∘ ρ) (fun x hx => (ha x hx).1), ← Array.map_congr_left (f := ρc) (g := ren f g ∘ ρ) (fun x hx => (hb x hx).1)]
    simp [execOp, ho, Instr.makeFunc]
  · unfold okV; rw [all_func]
    refine ⟨fun x hx => ?_, fun x hx => ?_⟩
    · obtain ⟨y, hy, rfl⟩ := Array.mem_map.1 hx; exact (ha y hy).2
    · obtain ⟨y, hy, rfl⟩ := Array.mem_map.1 hx; exact (hb y hy).2

theorem sim_fieldAddr (r : RelH P ro w0 f g h w) {s : TypeId} {x : Operand} {j : Nat} (ho : o.op = .fieldAddr s x j) (hx : ρc x = ren f g (ρ x) ∧ okV ro h (ρ x)) {v : Value} {ob : Option AO}
    (he : neFieldAddr P s (ρ x) j = some (v, ob)) : SimV P ro w0 f g h nm w (execOp ρc o) v ob := by
  unfold neFieldAddr at he
  split at he
  · rename_i fs a hu ha
    split at he
    · rename_i fl hf
      split at he
      · rename_i n hsz
        simp only [Option.some.injEq, Prod.mk.injEq] at he
        obtain ⟨rfl, rfl⟩ := he
        rw [ha, ren_pointer] at hx
        refine .same r ?_ (by have := hx.2; unfold okV at this ⊢; rw [all_pointer] at this ⊢; rw [add_block]; exact this)
        rw [ren_pointer, adr_add]
        simp [execOp, ho, hx.1, Instr.fieldAt, run_underlying hu, hf, Instr.sureAddr, fieldPlace, sizeOf_run hsz]
      · simp at he
    · simp at he
  · simp at he

theorem part_run {t : TypeId} {cs : List Value} {off : Nat} {v : Value} (he : partOf P t cs off = some v) (f g : Nat → Nat) :
    (part t (cs.map (ren f g)).toArray off).run P w = .ok (ren f g v) w ∧ ((∀ u ∈ cs, okV ro h u) → okV ro h v) := by
  unfold partOf at he
  split at he
  · rename_i hag
    split at he
    · rename_i n hn
      simp only [Option.some.injEq] at he; subst he
      refine ⟨?_, fun hc => arr_ok fun u hu => hc u (List.mem_of_mem_drop (List.mem_of_mem_take hu))⟩
      rw [ren_arr]
      simp only [part, Sem.run_bind, isAgg_run hag, Result.andThen_ok, if_true, sizeOf_run hn, Sem.run_pure]
      congr 2
      apply Array.ext'
      simp [List.extract_eq_take_drop, List.map_take, List.map_drop]
    · simp at he
  · rename_i hag
    split at he
    · rename_i u l hd
      simp only [Option.some.injEq] at he; subst he
      have hget : cs[off]? = some u := by
        have := congrArg (fun x => x[0]?) hd
        simpa [List.getElem?_drop] using this
      refine ⟨?_, fun hc => hc u (List.mem_of_getElem? hget)⟩
      simp [part, isAgg_run hag, hget]
    · simp at he
  · simp at he

theorem agg_ok {cs : Array Value} (hv : okV ro h (.agg cs)) : ∀ u ∈ cs.toList, okV ro h u := by
  unfold okV at hv; rw [all_agg] at hv
  exact fun u hu => hv u (Array.mem_def.2 hu)
theorem ren_aggL (f g : Nat → Nat) (cs : Array Value) : ren f g (.agg cs) = .agg (cs.toList.map (ren f g)).toArray := by
  rw [ren_agg]; congr 1; apply Array.ext'; simp

theorem sim_field (r : RelH P ro w0 f g h w) {t : TypeId} {x : Operand} {j : Nat} (ho : o.op = .field t x j) (hx : ρc x = ren f g (ρ x) ∧ okV ro h (ρ x)) {v : Value} {ob : Option AO}
    (he : neField P t (ρ x) j = some (v, ob)) : SimV P ro w0 f g h nm w (execOp ρc o) v ob := by
  unfold neField at he
  split at he
  · rename_i fs cs hu ha
    split at he
    · rename_i fl hf
      unfold val1 at he
      split at he
      · rename_i u hp
        simp only [Option.some.injEq, Prod.mk.injEq] at he
        obtain ⟨rfl, rfl⟩ := he
        rw [ha, ren_aggL] at hx
        obtain ⟨h1, h2⟩ := part_run (w := w) (ro := ro) (h := h) hp f g
        refine .same r ?_ (h2 (agg_ok hx.2))
        simp [execOp, ho, hx.1, Instr.field, run_underlying hu, hf, asAgg, h1]
      · simp at he
    · simp at he
  · simp at he

theorem sim_indexAddr (r : RelH P ro w0 f g h w) {t : TypeId} {x i : Operand} (ho : o.op = .indexAddr t x i) (hx : ρc x = ren f g (ρ x) ∧ okV ro h (ρ x)) (hi : ρc i = ren f g (ρ i) ∧ okV ro h (ρ i)) {v : Value} {ob : Option AO}
    (he : neIndexAddr P t (ρ x) (ρ i) = some (v, ob)) : SimV P ro w0 f g h nm w (execOp ρc o) v ob := by
  unfold neIndexAddr at he
  split at he
  · rename_i n e a kk k hu ha hk
    split at he
    · rename_i sz hb hsz
      have hb : k < n := by simpa using hb
      simp only [Option.some.injEq, Prod.mk.injEq] at he
      obtain ⟨rfl, rfl⟩ := he
      rw [ha, ren_pointer] at hx
      rw [hk, ren_int] at hi
      refine .same r ?_ (by have := hx.2; unfold okV at this ⊢; rw [all_pointer] at this ⊢; rw [add_block]; exact this)
      rw [ren_pointer, adr_add]
      have h0 : (0 : Int) ≤ Int.ofNat k ∧ Int.ofNat k < (n : Int) := ⟨by simp, by simpa using hb⟩
      simp only [execOp, ho, hx.1, hi.1, Instr.indexAt, asIntOf, Sem.run_bind, Sem.run_pure, Result.andThen_ok, run_underlying hu, Instr.sureAddr, if_pos h0, sizeOf_run hsz]
      rfl
    · simp at he
  · rename_i e a len cap kk k hu ha hk
    split at he
    · rename_i sz hb hsz
      have hb : k < len := by simpa using hb
      simp only [Option.some.injEq, Prod.mk.injEq] at he
      obtain ⟨rfl, rfl⟩ := he
      rw [ha, ren_slice] at hx
      rw [hk, ren_int] at hi
      refine .same r ?_ (by have := hx.2; unfold okV at this ⊢; rw [all_slice] at this; rw [all_pointer, add_block]; exact this)
      rw [ren_pointer, adr_add]
      have h0 : (0 : Int) ≤ Int.ofNat k ∧ Int.ofNat k < (len : Int) := ⟨by simp, by simpa using hb⟩
      simp only [execOp, ho, hx.1, hi.1, Instr.indexAt, asIntOf, Sem.run_bind, Sem.run_pure, Result.andThen_ok, run_underlying hu, if_pos h0, sizeOf_run hsz]
      rfl
    · simp at he
  · simp at he

theorem sim_index (r : RelH P ro w0 f g h w) (hop : Opds ro h f g ρ ρc o) {t : TypeId} {x i : Operand} (ho : o.op = .index t x i) {v : Value} {ob : Option AO}
    (he : neIndex P o ρ t (ρ x) (ρ i) = some (v, ob)) : SimV P ro w0 f g h nm w (execOp ρc o) v ob := by
  have hs : ∀ cs b, o.op ≠ .select cs b := by rw [ho]; simp
  have hx := hop x (by rw [ho]; simp [Op.operands])
  have hi := hop i (by rw [ho]; simp [Op.operands])
  unfold neIndex at he
  split at he
  · rename_i cs ha
    split at he
    · rename_i n e kk k hu hk
      split at he
      · rename_i sz hb hsz
        have hb : k < n := by simpa using hb
        unfold val1 at he
        split at he
        · rename_i u hp
          simp only [Option.some.injEq, Prod.mk.injEq] at he
          obtain ⟨rfl, rfl⟩ := he
          rw [ha, ren_aggL] at hx
          rw [hk, ren_int] at hi
          obtain ⟨h1, h2⟩ := part_run (w := w) (ro := ro) (h := h) hp f g
          refine .same r ?_ (h2 (agg_ok hx.2))
          have h0 : (0 : Int) ≤ Int.ofNat k ∧ Int.ofNat k < (n : Int) := ⟨by simp, by simpa using hb⟩
          simp only [execOp, ho, hx.1, hi.1, Instr.index, asIntOf, Sem.run_bind, Sem.run_pure, Result.andThen_ok, run_underlying hu, if_pos h0, sizeOf_run hsz]
          simp [h1]
        · simp at he
      · simp at he
    · simp at he
  · rename_i s ha
    split at he
    · rename_i kk k hu hk
      split at he
      · rename_i b l hd
        simp only [Option.some.injEq, Prod.mk.injEq] at he
        obtain ⟨rfl, rfl⟩ := he
        rw [ha, ren_string] at hx
        rw [hk, ren_int] at hi
        have hget : s.data.toList[k]? = some b := by
          have := congrArg (fun x => x[0]?) hd
          simpa [List.getElem?_drop] using this
        have hk' := (List.getElem?_eq_some_iff.1 hget).1
        have hk2 : k < s.size := by simpa using hk'
        have hsk : s[k]? = some b := by
          rw [getElem?_pos s k hk2]
          have := (List.getElem?_eq_some_iff.1 hget).2
          exact congrArg some this
        refine .same r ?_ (okInt _ _)
        rw [ren_int]
        have h0 : (0 : Int) ≤ Int.ofNat k := by simp
        simp only [execOp, ho, hx.1, hi.1, Instr.index, asIntOf, Sem.run_bind, Sem.run_pure, Result.andThen_ok, run_underlying hu, if_pos h0]
        simp [hsk]
      · simp at he
    · simp at he
  · exact flat_sim r hop hs he

theorem sim_extract (r : RelH P ro w0 f g h w) {x : Operand} {i : Nat} (ho : o.op = .extract x i) (hx : ρc x = ren f g (ρ x) ∧ okV ro h (ρ x)) {v : Value} {ob : Option AO}
    (he : neExtract (ρ x) i = some (v, ob)) : SimV P ro w0 f g h nm w (execOp ρc o) v ob := by
  unfold neExtract at he
  split at he
  · rename_i vs ha
    split at he
    · rename_i u l hd
      simp only [Option.some.injEq, Prod.mk.injEq] at he
      obtain ⟨rfl, rfl⟩ := he
      have hget : vs[i]? = some u := by
        have := congrArg (fun x => x[0]?) hd
        simpa [List.getElem?_drop] using this
      rw [ha, ren_tuple] at hx
      have hok := hx.2
      unfold okV at hok; rw [all_tuple] at hok
      refine .same r ?_ (hok u (Array.mem_of_getElem? hget))
      simp [execOp, ho, hx.1, Instr.extract, hget]
    · simp at he
  · simp at he

theorem sim_range (r : RelH P ro w0 f g h w) (hr : ro ≤ nm) (hl : nm < LIM) (hn : h.get nm = none) {t : TypeId} {x : Operand} (ho : o.op = .range t x) (hx : ρc x = ren f g (ρ x) ∧ okV ro h (ρ x)) {v : Value} {ob : Option AO}
    (he : neRange P nm t (ρ x) = some (v, ob)) : SimV P ro w0 f g h nm w (execOp ρc o) v ob := by
  unfold neRange at he
  split at he
  · rename_i s hu ha
    simp only [Option.some.injEq, Prod.mk.injEq] at he
    obtain ⟨rfl, rfl⟩ := he
    rw [ha, ren_string] at hx
    refine SimV.made hr hl hn (w1 := w) (y := 0) _ r ?_ (.iter s 0 0) (fun c e hc => by simp at hc) (new_ptr nm hl _)
    rw [ren_new]
    simp [execOp, ho, hx.1, Instr.range, run_underlying hu, newObj, Sem.run]
  · simp at he

theorem sim_len (r : RelH P ro w0 f g h w) (hop : Opds ro h f g ρ ρc o) {c : Call} (ho : o.op = .call c) (hc : c.callee = .builtin .len) {v : Value} {ob : Option AO}
    (he : neLen P o ρ c.args.toList c.argTypes.toList = some (v, ob)) : SimV P ro w0 f g h nm w (execOp ρc o) v ob := by
  have hs : ∀ cs b, o.op ≠ .select cs b := by rw [ho]; simp
  unfold neLen at he
  split at he
  · rename_i x ar t ts hargs hts
    have hx := hop x (by rw [ho]; simp only [Op.operands, Call.operands, hc]; simp [Array.mem_def, hargs])
    have ha0 : (c.args.map ρc)[0]? = some (ρc x) := by rw [Array.getElem?_map]; rw [← Array.getElem?_toList, hargs]; rfl
    have ht0 : c.argTypes[0]? = some t := by rw [← Array.getElem?_toList, hts]; rfl
    have hrun : (execOp ρc o).run P w = ((Builtin.len_ c.argTypes o.type (c.args.map ρc)).run P w).andThen fun u w' => .ok (.value u) w' := by
      simp [execOp, ho, resolve, hc, invoke, builtin]
    split at he
    · rename_i e a n cap hu ha
      simp only [Option.some.injEq, Prod.mk.injEq] at he
      obtain ⟨rfl, rfl⟩ := he
      rw [ha, ren_slice] at hx
      refine .same r ?_ (okInt _ _)
      rw [ren_int, hrun]
      simp [Builtin.len_, ha0, ht0, run_underlying hu, hx.1, goInt]
    · rename_i s hu ha
      simp only [Option.some.injEq, Prod.mk.injEq] at he
      obtain ⟨rfl, rfl⟩ := he
      rw [ha, ren_string] at hx
      refine .same r ?_ (okInt _ _)
      rw [ren_int, hrun]
      simp [Builtin.len_, ha0, ht0, run_underlying hu, hx.1, goInt]
    · rename_i n e hu
      simp only [Option.some.injEq, Prod.mk.injEq] at he
      obtain ⟨rfl, rfl⟩ := he
      refine .same r ?_ (okInt _ _)
      rw [ren_int, hrun]
      simp [Builtin.len_, ha0, ht0, run_underlying hu, goInt]
    · exact flat_sim r hop hs he
  · simp at he

theorem sim_cap (r : RelH P ro w0 f g h w) (hop : Opds ro h f g ρ ρc o) {c : Call} (ho : o.op = .call c) (hc : c.callee = .builtin .cap) {v : Value} {ob : Option AO}
    (he : neCap P o ρ c.args.toList c.argTypes.toList = some (v, ob)) : SimV P ro w0 f g h nm w (execOp ρc o) v ob := by
  have hs : ∀ cs b, o.op ≠ .select cs b := by rw [ho]; simp
  unfold neCap at he
  split at he
  · rename_i x ar t ts hargs hts
    have hx := hop x (by rw [ho]; simp only [Op.operands, Call.operands, hc]; simp [Array.mem_def, hargs])
    have ha0 : (c.args.map ρc)[0]? = some (ρc x) := by rw [Array.getElem?_map]; rw [← Array.getElem?_toList, hargs]; rfl
    have ht0 : c.argTypes[0]? = some t := by rw [← Array.getElem?_toList, hts]; rfl
    have hrun : (execOp ρc o).run P w = ((Builtin.cap_ c.argTypes o.type (c.args.map ρc)).run P w).andThen fun u w' => .ok (.value u) w' := by
      simp [execOp, ho, resolve, hc, invoke, builtin]
    split at he
    · rename_i e a n cap hu ha
      split at he
      · rename_i hb
        have hb : cap < BIG := by simpa using hb
        simp only [Option.some.injEq, Prod.mk.injEq] at he
        obtain ⟨rfl, rfl⟩ := he
        rw [ha, ren_slice] at hx
        refine .same r ?_ (okInt _ _)
        rw [ren_int, hrun]
        have hcap : capR g a.block cap = cap := by unfold capR; rw [if_pos hb]
        simp [Builtin.cap_, ha0, ht0, run_underlying hu, hx.1, goInt, hcap]
      · simp at he
    · exact flat_sim r hop hs he
  · simp at he

end
end Go.Ev
