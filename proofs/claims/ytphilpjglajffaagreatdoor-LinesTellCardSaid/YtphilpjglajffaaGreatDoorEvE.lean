/- What ties the evaluator's memory to a world; reading, making and writing blocks. -/
import Derived.Test.YtphilpjglajffaaGreatDoorEvC
import Derived.Laws.Rows
import Derived.Laws.Cells
import Derived.Laws.Append
import Derived.Laws.Entries
import Derived.Deep.Draws
namespace Go.Ev
open Go.RowKit (Below)

def dom (ro : Nat) (h : H) (b : Nat) : Prop := b < ro ∨ (h.get b).isSome = true
def okV (ro : Nat) (h : H) (v : Value) : Prop := allB (dom ro h) v

/-- may cells 0 .. n be written? -/
def freeTo (fz : Nat × Nat) (n : Nat) : Prop := ∀ j, j < n → ¬ (fz.1 ≤ j ∧ j < fz.2)

structure RelH (P : Program) (ro : Nat) (w0 : World) (f g : Nat → Nat) (h : H) (w : World) : Prop where
  below : Below w0.heap.size w0 w
  row : ∀ b c e, h.get b = some (.cells c e) → ∃ fz, w.heap[f b]? = some (.cells (c.map (ren f g)).toArray e fz) ∧ (ro ≤ b → freeTo fz c.length)
  grow : ∀ b c e, h.get b = some (.grow c e) → ro ≤ b ∧ ∃ (rest : List Value) (fz : Nat × Nat) (i : TypeInfo),
    w.heap[f b]? = some (.cells (c.map (ren f g) ++ rest).toArray e fz) ∧ P.info? e = some i ∧ 0 < i.size ∧ g b * i.size = c.length + rest.length ∧ freeTo fz (c.length + rest.length) ∧ g b < BIG
  iter : ∀ b s p, h.get b = some (.iter s p) → w.heap[f b]? = some (.stringIter s p)
  cok : ∀ b c e, rowOf h b = some (c, e) → ∀ v ∈ c, okV ro h v
  new : ∀ b o, ro ≤ b → h.get b = some o → o ≠ .dead → w0.heap.size ≤ f b
  old : ∀ b o, b < ro → h.get b = some o → o ≠ .dead → f b < w0.heap.size
  inj : ∀ b b' o o', ro ≤ b → ro ≤ b' → h.get b = some o → h.get b' = some o' → o ≠ .dead → o' ≠ .dead → f b = f b' → b = b'
  glob : ∀ x, x < P.globals.size → f x = x ∧ x < ro
  lim : ro ≤ LIM
  lt : ∀ b o, h.get b = some o → b < LIM

theorem H.get_put {h : H} {b : Nat} (hb : b < LIM) (o : AO) (i : Nat) : (h.put b o).get i = if i = b then some o else h.get i := by
  unfold H.put H.get
  exact T.get_put o K h.t b i (lim_ok hb)

theorem H.get_put_same {h : H} {b : Nat} (hb : b < LIM) (o : AO) : (h.put b o).get b = some o := by rw [H.get_put hb, if_pos rfl]
theorem H.get_put_other {h : H} {b i : Nat} (hb : b < LIM) (o : AO) (hi : i ≠ b) : (h.put b o).get i = h.get i := by rw [H.get_put hb, if_neg hi]

theorem dom_put {ro : Nat} {h : H} {b : Nat} (hb : b < LIM) (o : AO) (x : Nat) (hx : dom ro h x) : dom ro (h.put b o) x := by
  rcases hx with hx | hx
  · exact .inl hx
  · refine .inr ?_
    rw [H.get_put hb]
    split
    · rfl
    · exact hx

theorem okV_put {ro : Nat} {h : H} {b : Nat} (hb : b < LIM) (o : AO) {v : Value} (hv : okV ro h v) : okV ro (h.put b o) v :=
  all_mono (fun x hx => dom_put hb o x hx) v hv

/-- the renaming of what is known stays -/
structure Agree (ro : Nat) (h : H) (f g f' g' : Nat → Nat) : Prop where
  f : ∀ b, dom ro h b → f b = f' b
  g : ∀ b, dom ro h b → g b = g' b

theorem Agree.refl (ro : Nat) (h : H) (f g : Nat → Nat) : Agree ro h f g f g := ⟨fun _ _ => rfl, fun _ _ => rfl⟩
theorem Agree.trans {ro : Nat} {h h' : H} {f g f' g' f'' g'' : Nat → Nat} (a : Agree ro h f g f' g') (b : Agree ro h' f' g' f'' g'') (hd : ∀ x, dom ro h x → dom ro h' x) : Agree ro h f g f'' g'' :=
  ⟨fun x hx => (a.f x hx).trans (b.f x (hd x hx)), fun x hx => (a.g x hx).trans (b.g x (hd x hx))⟩
theorem Agree.ren {ro : Nat} {h : H} {f g f' g' : Nat → Nat} (a : Agree ro h f g f' g') {v : Value} (hv : okV ro h v) : ren f g v = ren f' g' v :=
  ren_congr a.f a.g v hv

def upd (f : Nat → Nat) (b x : Nat) : Nat → Nat := fun i => if i = b then x else f i
theorem upd_same (f : Nat → Nat) (b x : Nat) : upd f b x b = x := by simp [upd]
theorem upd_other (f : Nat → Nat) {b i : Nat} (x : Nat) (h : i ≠ b) : upd f b x i = f i := by simp [upd, h]

theorem agree_upd {ro : Nat} {h : H} {b : Nat} (f g : Nat → Nat) (hr : ro ≤ b) (hn : h.get b = none) (x y : Nat) : Agree ro h f g (upd f b x) (upd g b y) := by
  constructor
  · intro i hi
    rw [upd_other]
    rintro rfl
    rcases hi with hi | hi
    · omega
    · rw [hn] at hi; simp at hi
  · intro i hi
    rw [upd_other]
    rintro rfl
    rcases hi with hi | hi
    · omega
    · rw [hn] at hi; simp at hi

theorem get_dom {ro : Nat} {h : H} {b : Nat} {o : AO} (hb : h.get b = some o) : dom ro h b := .inr (by rw [hb]; rfl)

theorem rowOf_some {h : H} {b : Nat} {c : List Value} {e : TypeId} (hr : rowOf h b = some (c, e)) : h.get b = some (.cells c e) ∨ h.get b = some (.grow c e) := by
  unfold rowOf at hr
  split at hr
  · rename_i c' e' hb
    simp only [Option.some.injEq, Prod.mk.injEq] at hr
    obtain ⟨rfl, rfl⟩ := hr
    exact .inl hb
  · rename_i c' e' hb
    simp only [Option.some.injEq, Prod.mk.injEq] at hr
    obtain ⟨rfl, rfl⟩ := hr
    exact .inr hb
  · simp at hr

theorem cells_renamed {ro : Nat} {h : H} {f g f' g' : Nat → Nat} (a : Agree ro h f g f' g') {c : List Value} (hc : ∀ v ∈ c, okV ro h v) : c.map (ren f g) = c.map (ren f' g') :=
  List.map_congr_left fun v hv => a.ren (hc v hv)

section
variable {P : Program} {ro : Nat} {w0 : World} {f g : Nat → Nat} {h : H} {w : World}

/-- a row's cells stand in the world -/
theorem RelH.cellAt (r : RelH P ro w0 f g h w) {b : Nat} {c : List Value} {e : TypeId} (hb : rowOf h b = some (c, e)) {i : Nat} {v : Value} (hv : c[i]? = some v) :
    w.cell? ⟨f b, i, none⟩ = some (ren f g v) := by
  have hi : i < c.length := (List.getElem?_eq_some_iff.1 hv).1
  rcases rowOf_some hb with hg | hg
  · obtain ⟨fz, hw, _⟩ := r.row b c e hg
    simp [World.cell?, hw, List.getElem?_map, hv]
  · obtain ⟨_, rest, fz, i', hw, _⟩ := r.grow b c e hg
    obtain ⟨_, rfl⟩ := List.getElem?_eq_some_iff.1 hv
    simp [World.cell?, hw, List.getElem?_append, hi]

/-- what is the same of every block keeps the tie -/
theorem RelH.same (r : RelH P ro w0 f g h w) {w' : World} (hh : w'.heap = w.heap) (hb : Below w0.heap.size w0 w') : RelH P ro w0 f g h w' :=
  ⟨hb, fun b c e hg => by rw [hh]; exact r.row b c e hg, fun b c e hg => by rw [hh]; exact r.grow b c e hg, fun b s p hg => by rw [hh]; exact r.iter b s p hg,
    r.cok, r.new, r.old, r.inj, r.glob, r.lim, r.lt⟩

theorem RelH.drew (r : RelH P ro w0 f g h w) : RelH P ro w0 f g h w.drew := r.same rfl r.below.drew

theorem RelH.nx (r : RelH P ro w0 f g h w) (n : Nat) : RelH P ro w0 f g { h with nx := n } w :=
  ⟨r.below, r.row, r.grow, r.iter, r.cok, r.new, r.old, r.inj, r.glob, r.lim, r.lt⟩

/-- the lives of blocks -/
theorem RelH.lives (r : RelH P ro w0 f g h w) {b : Nat} {o : AO} (hb : h.get b = some o) (hd : o ≠ .dead) : f b < w.heap.size := by
  cases o with
  | cells c e => obtain ⟨fz, hw, _⟩ := r.row b c e hb; exact (Array.getElem?_eq_some_iff.1 hw).1
  | grow c e => obtain ⟨_, rest, fz, i', hw, _⟩ := r.grow b c e hb; exact (Array.getElem?_eq_some_iff.1 hw).1
  | iter s p => exact (Array.getElem?_eq_some_iff.1 (r.iter b s p hb)).1
  | dead => exact absurd rfl hd

theorem wheap_alloc_old (w : World) (o : Obj) {i : Nat} {x : Obj} (h : w.heap[i]? = some x) : (w.alloc o).heap[i]? = some x := by
  rw [heap_alloc_old w o i (Array.getElem?_eq_some_iff.1 h).1]; exact h

/-- what a new block is tied to -/
inductive Tied (P : Program) (f g : Nat → Nat) : AO → Obj → Nat → Prop where
  | cells (c : List Value) (e : TypeId) (fz : Nat × Nat) (hz : freeTo fz c.length) (y : Nat) : Tied P f g (.cells c e) (.cells (c.map (ren f g)).toArray e fz) y
  | grow (c : List Value) (e : TypeId) (rest : List Value) (fz : Nat × Nat) (i : TypeInfo) (y : Nat) (hi : P.info? e = some i) (hp : 0 < i.size)
      (hl : y * i.size = c.length + rest.length) (hz : freeTo fz (c.length + rest.length)) (hB : y < BIG) : Tied P f g (.grow c e) (.cells (c.map (ren f g) ++ rest).toArray e fz) y
  | iter (s : ByteArray) (p : Nat) (y : Nat) : Tied P f g (.iter s p) (.stringIter s p) y

/-- a new block -/
theorem RelH.alloc (r : RelH P ro w0 f g h w) {b : Nat} {ao : AO} {o : Obj} {y : Nat} (hr : ro ≤ b) (hl : b < LIM) (hn : h.get b = none) (ht : Tied P f g ao o y)
    (hc : ∀ c e, ao = .cells c e ∨ ao = .grow c e → ∀ v ∈ c, okV ro h v) :
    RelH P ro w0 (upd f b w.heap.size) (upd g b y) (h.put b ao) (w.alloc o) := by
  have ag := agree_upd f g hr hn w.heap.size y
  have hbw := r.below.size
  have live : ao ≠ .dead := by cases ht <;> simp
  have other : ∀ x o', (h.put b ao).get x = some o' → x ≠ b → h.get x = some o' := fun x o' hx hne => by rwa [H.get_put_other hl _ hne] at hx
  have mine : ∀ o', (h.put b ao).get b = some o' → o' = ao := fun o' hx => by rw [H.get_put_same hl] at hx; exact (Option.some.inj hx).symm
  have cells : ∀ x c e, rowOf h x = some (c, e) → c.map (ren f g) = c.map (ren (upd f b w.heap.size) (upd g b y)) := fun x c e hx => cells_renamed ag (r.cok x c e hx)
  refine ⟨r.below.alloc r.below.size _, ?_, ?_, ?_, ?_, ?_, ?_, ?_, ?_, r.lim, ?_⟩
  · intro x c e hx
    by_cases hxb : x = b
    · subst hxb
      have := mine _ hx
      subst this
      cases ht with
      | cells c e fz hz y =>
        refine ⟨fz, ?_, fun _ => hz⟩
        rw [upd_same, heap_alloc_new, cells_renamed ag (hc c e (.inl rfl))]
    · have hx' := other x _ hx hxb
      obtain ⟨fz, hw, hz⟩ := r.row x c e hx'
      refine ⟨fz, ?_, hz⟩
      rw [upd_other _ _ hxb, ← cells x c e (by simp [rowOf, hx'])]
      exact wheap_alloc_old w o hw
  · intro x c e hx
    by_cases hxb : x = b
    · subst hxb
      have := mine _ hx
      subst this
      cases ht with
      | grow c e rest fz i y hi hp hly hz hB =>
        refine ⟨hr, rest, fz, i, ?_, hi, hp, by rw [upd_same]; exact hly, hz, by rw [upd_same]; exact hB⟩
        rw [upd_same, heap_alloc_new, cells_renamed ag (hc c e (.inr rfl))]
    · have hx' := other x _ hx hxb
      obtain ⟨hro, rest, fz, i, hw, hi, hp, hly, hz, hB⟩ := r.grow x c e hx'
      refine ⟨hro, rest, fz, i, ?_, hi, hp, by rw [upd_other _ _ hxb]; exact hly, hz, by rw [upd_other _ _ hxb]; exact hB⟩
      rw [upd_other _ _ hxb, ← cells x c e (by simp [rowOf, hx'])]
      exact wheap_alloc_old w o hw
  · intro x s p hx
    by_cases hxb : x = b
    · subst hxb
      have := mine _ hx
      subst this
      cases ht with
      | iter s p y => rw [upd_same, heap_alloc_new]
    · rw [upd_other _ _ hxb]
      exact wheap_alloc_old w o (r.iter x s p (other x _ hx hxb))
  · intro x c e hx v hv
    by_cases hxb : x = b
    · subst hxb
      have hx2 := rowOf_some hx
      have : ao = .cells c e ∨ ao = .grow c e := by
        rcases hx2 with h1 | h1
        · exact .inl (mine _ h1).symm
        · exact .inr (mine _ h1).symm
      exact okV_put hl _ (hc c e this v hv)
    · have hx' : rowOf h x = some (c, e) := by unfold rowOf at hx ⊢; rwa [H.get_put_other hl _ hxb] at hx
      exact okV_put hl _ (r.cok x c e hx' v hv)
  · intro x o' hro hx hd
    by_cases hxb : x = b
    · subst hxb; rw [upd_same]; exact hbw
    · rw [upd_other _ _ hxb]; exact r.new x o' hro (other x _ hx hxb) hd
  · intro x o' hro hx hd
    have hxb : x ≠ b := by omega
    rw [upd_other _ _ hxb]
    exact r.old x o' hro (other x _ hx hxb) hd
  · intro x x' o1 o2 hx hx' h1 h2 d1 d2 he
    by_cases e1 : x = b
    · by_cases e2 : x' = b
      · rw [e1, e2]
      · subst e1
        rw [upd_same, upd_other _ _ e2] at he
        have := r.lives (other x' _ h2 e2) d2
        omega
    · by_cases e2 : x' = b
      · subst e2
        rw [upd_same, upd_other _ _ e1] at he
        have := r.lives (other x _ h1 e1) d1
        omega
      · rw [upd_other _ _ e1, upd_other _ _ e2] at he
        exact r.inj x x' o1 o2 hx hx' (other x _ h1 e1) (other x' _ h2 e2) d1 d2 he
  · intro x hx
    have hg := r.glob x hx
    exact ⟨by rw [upd_other _ _ (by omega)]; exact hg.1, hg.2⟩
  · intro x o' hx
    by_cases hxb : x = b
    · subst hxb; exact hl
    · exact r.lt x o' (other x _ hx hxb)
end

/-- only block k may differ -/
structure Wr (w w' : World) (k : Nat) : Prop where
  os : w'.os = w.os
  tape : w'.tape = w.tape
  output : w'.output = w.output
  size : w'.heap.size = w.heap.size
  other : ∀ i, i ≠ k → w'.heap[i]? = w.heap[i]?

theorem Wr.refl (w : World) (k : Nat) : Wr w w k := ⟨rfl, rfl, rfl, rfl, fun _ _ => rfl⟩
theorem Wr.trans {a b c : World} {k : Nat} (x : Wr a b k) (y : Wr b c k) : Wr a c k :=
  ⟨y.os.trans x.os, y.tape.trans x.tape, y.output.trans x.output, y.size.trans x.size, fun i hi => (y.other i hi).trans (x.other i hi)⟩
theorem Wr.below {w0 w w' : World} {k : Nat} (x : Wr w w' k) (hb : Below w0.heap.size w0 w) (hk : w0.heap.size ≤ k) : Below w0.heap.size w0 w' :=
  ⟨x.os.trans hb.os, x.tape.trans hb.tape, x.output.trans hb.output, by rw [x.size]; exact hb.size, fun i hi => (x.other i (by omega)).trans (hb.block i hi)⟩
theorem Wr.setCell (w : World) (k i : Nat) (v : Value) : Wr w (w.setCell ⟨k, i, none⟩ v) k :=
  ⟨rfl, rfl, rfl, by simp [World.setCell], fun j hj => by simp only [World.setCell, Array.getElem?_modify]; rw [if_neg (fun e => hj e.symm)]⟩

theorem heap_setCell_at {w : World} {k i : Nat} {cs : Array Value} {e : TypeId} {fz : Nat × Nat} (v : Value) (hg : w.heap[k]? = some (.cells cs e fz)) :
    (w.setCell ⟨k, i, none⟩ v).heap[k]? = some (.cells (cs.setIfInBounds i v) e fz) := by
  simp [World.setCell, Array.getElem?_modify, hg]

theorem add_plainE (b off i : Nat) : (⟨b, off, none⟩ : Addr).add i = ⟨b, off + i, none⟩ := by
  unfold Addr.add; split <;> simp_all

theorem splice_cons (c : List Value) (off : Nat) (v : Value) (l : List Value) (h : off + (l.length + 1) ≤ c.length) : splice (c.set off v) (off + 1) l = splice c off (v :: l) := by
  unfold splice
  have e1 : (c.set off v).take (off + 1) = c.take off ++ [v] := by
    rw [List.take_succ_eq_append_getElem (by rw [List.length_set]; omega), List.getElem_set_self, List.take_set_of_le (Nat.le_refl _)]
  rw [e1, List.drop_set_of_lt (by omega)]
  simp only [List.append_assoc, List.cons_append, List.nil_append, List.length_cons]
  rw [show off + 1 + l.length = off + (l.length + 1) from by omega]

theorem splice_length (c : List Value) (off : Nat) (l : List Value) (h : off + l.length ≤ c.length) : (splice c off l).length = c.length := by
  unfold splice
  simp only [List.length_append, List.length_take, List.length_drop]
  omega

theorem run_storeCells_row (P : Program) (k e : Nat) (fz : Nat × Nat) : ∀ (vs : List Value) (off i : Nat) (cur : List Value) (w : World), w.heap[k]? = some (.cells cur.toArray e fz) → off + i + vs.length ≤ cur.length →
    freeTo fz cur.length → (∀ v ∈ vs, v.oneCell' = true) →
    ∃ w', (storeCells ⟨k, off, none⟩ vs i).run P w = .ok () w' ∧ Wr w w' k ∧ w'.heap[k]? = some (.cells (splice cur (off + i) vs).toArray e fz) := by
  intro vs
  induction vs with
  | nil =>
    intro off i cur w hw _ _ _
    refine ⟨w, by simp [storeCells], Wr.refl w k, ?_⟩
    rw [hw]; simp [splice]
  | cons v vs ih =>
    intro off i cur w hw hl hz h1
    simp only [List.length_cons] at hl
    have hc : w.cell? ⟨k, off + i, none⟩ = some cur[off + i] := by
      simp only [World.cell?, hw]
      simp
    have hfz : w.frozen? ⟨k, off + i, none⟩ = false := by
      simp only [World.frozen?, hw]
      have := hz (off + i) (by omega)
      simpa using this
    have hs := run_store P w ⟨k, off + i, none⟩ v .plain (h1 v (by simp))
    have hw1 := heap_setCell_at (i := off + i) v hw
    obtain ⟨w', hrun, hwr, hh⟩ := ih off (i + 1) (cur.set (off + i) v) (w.setCell ⟨k, off + i, none⟩ v) (by rw [hw1]; simp) (by rw [List.length_set]; omega) (by rw [List.length_set]; exact hz) (fun u hu => h1 u (by simp [hu]))
    refine ⟨w', ?_, (Wr.setCell w k (off + i) v).trans hwr, ?_⟩
    · simp only [storeCells, Sem.run_bind, add_plainE, hs, hc, hfz]
      simpa using hrun
    · rw [hh, ← Nat.add_assoc, splice_cons cur (off + i) v vs (by omega)]


theorem one_ren (f g : Nat → Nat) (v : Value) (h : one v = true) : (ren f g v).oneCell' = true := by
  cases v with
  | pointer a => cases a with | none => rw [ren_nilptr]; rfl | some a => rw [ren_pointer]; rfl
  | slice a l c => cases a with | none => rw [ren_nilslice]; rfl | some a => rw [ren_slice]; rfl
  | map a => cases a with | none => rw [ren_nilmap]; rfl | some a => rw [ren_map]; rfl
  | chan a => cases a with | none => rw [ren_nilchan]; rfl | some a => rw [ren_chan]; rfl
  | func fn a b => rw [ren_func]; rfl
  | iface t v => rw [ren_iface]; rfl
  | agg cs => simp [one] at h
  | tuple cs => simp [one] at h
  | bool b => rw [ren_bool]; rfl
  | int k n => rw [ren_int]; rfl
  | float k n => rw [ren_float]; rfl
  | complex k a b => rw [ren_complex]; rfl
  | string s => rw [ren_string]; rfl
  | nilFunc => rw [ren_nilFunc]; rfl
  | nilIface => rw [ren_nilIface]; rfl

theorem splice_map (c : List Value) (off : Nat) (l : List Value) (k : Value → Value) : (splice c off l).map k = splice (c.map k) off (l.map k) := by
  unfold splice
  simp [List.map_take, List.map_drop]

theorem splice_append (c r : List Value) (off : Nat) (l : List Value) (h : off + l.length ≤ c.length) : splice (c ++ r) off l = splice c off l ++ r := by
  unfold splice
  rw [List.take_append_of_le_length (by omega), List.drop_append_of_le_length h]
  simp [List.append_assoc]

theorem mem_splice {c : List Value} {off : Nat} {l : List Value} {v : Value} (h : v ∈ splice c off l) : v ∈ c ∨ v ∈ l := by
  unfold splice at h
  simp only [List.mem_append] at h
  rcases h with h | h | h
  · exact .inl (List.mem_of_mem_take h)
  · exact .inr h
  · exact .inl (List.mem_of_mem_drop h)

section
variable {P : Program} {ro : Nat} {w0 : World} {f g : Nat → Nat} {h : H} {w : World}

/-- one block's content turned, its place and kind kept -/
theorem RelH.turn (r : RelH P ro w0 f g h w) {b : Nat} {o ao : AO} {w' : World} (hro : ro ≤ b) (hb : h.get b = some o) (ho : o ≠ .dead) (hwr : Wr w w' (f b)) (x : Obj) (hx : w'.heap[f b]? = some x)
    (ht : ao = .dead ∨ Tied P f g ao x (g b)) (hc : ∀ c e, ao = .cells c e ∨ ao = .grow c e → ∀ v ∈ c, okV ro h v) : RelH P ro w0 f g (h.put b ao) w' := by
  have hl := r.lt b o hb
  have hge := r.new b o hro hb ho
  have other : ∀ x o', (h.put b ao).get x = some o' → x ≠ b → h.get x = some o' := fun x o' hx hne => by rwa [H.get_put_other hl _ hne] at hx
  have mine : ∀ o', (h.put b ao).get b = some o' → o' = ao := fun o' hx => by rw [H.get_put_same hl] at hx; exact (Option.some.inj hx).symm
  have far : ∀ y o', h.get y = some o' → o' ≠ .dead → y ≠ b → f y ≠ f b := by
    intro y o' hy hd hne he
    rcases Nat.lt_or_ge y ro with h1 | h1
    · have := r.old y o' h1 hy hd; omega
    · exact hne (r.inj y b o' o h1 hro hy hb hd ho he)
  refine ⟨hwr.below r.below hge, ?_, ?_, ?_, ?_, ?_, ?_, ?_, r.glob, r.lim, ?_⟩
  · intro y c e hy
    by_cases hyb : y = b
    · subst hyb
      have := mine _ hy
      subst this
      rcases ht with ht | ht
      · simp at ht
      · generalize g y = gy at ht
        cases ht with
        | cells c e fz hz => exact ⟨fz, hx, fun _ => hz⟩
    · have hy' := other y _ hy hyb
      obtain ⟨fz, hw, hz⟩ := r.row y c e hy'
      exact ⟨fz, by rw [hwr.other _ (far y _ hy' (by simp) hyb)]; exact hw, hz⟩
  · intro y c e hy
    by_cases hyb : y = b
    · subst hyb
      have := mine _ hy
      subst this
      rcases ht with ht | ht
      · simp at ht
      · generalize g y = gy at ht ⊢
        cases ht with
        | grow c e rest fz i _ hi hp hly hz hB => exact ⟨hro, rest, fz, i, hx, hi, hp, hly, hz, hB⟩
    · have hy' := other y _ hy hyb
      obtain ⟨h1, rest, fz, i, hw, h2⟩ := r.grow y c e hy'
      exact ⟨h1, rest, fz, i, by rw [hwr.other _ (far y _ hy' (by simp) hyb)]; exact hw, h2⟩
  · intro y s p hy
    by_cases hyb : y = b
    · subst hyb
      have := mine _ hy
      subst this
      rcases ht with ht | ht
      · simp at ht
      · generalize g y = gy at ht
        cases ht with
        | iter s p => exact hx
    · have hy' := other y _ hy hyb
      rw [hwr.other _ (far y _ hy' (by simp) hyb)]
      exact r.iter y s p hy'
  · intro y c e hy v hv
    by_cases hyb : y = b
    · subst hyb
      have : ao = .cells c e ∨ ao = .grow c e := by
        rcases rowOf_some hy with h1 | h1
        · exact .inl (mine _ h1).symm
        · exact .inr (mine _ h1).symm
      exact okV_put hl _ (hc c e this v hv)
    · have hy' : rowOf h y = some (c, e) := by unfold rowOf at hy ⊢; rwa [H.get_put_other hl _ hyb] at hy
      exact okV_put hl _ (r.cok y c e hy' v hv)
  · intro y o' hy1 hy hd
    by_cases hyb : y = b
    · subst hyb; exact hge
    · exact r.new y o' hy1 (other y _ hy hyb) hd
  · intro y o' hy1 hy hd
    exact r.old y o' hy1 (other y _ hy (by omega)) hd
  · intro y y' o1 o2 hy hy' h1 h2 d1 d2 he
    have alive : ∀ z o', (h.put b ao).get z = some o' → o' ≠ .dead → ∃ o'', h.get z = some o'' ∧ o'' ≠ .dead := by
      intro z o' hz hd
      by_cases hzb : z = b
      · subst hzb; exact ⟨o, hb, ho⟩
      · exact ⟨o', other z _ hz hzb, hd⟩
    obtain ⟨p1, q1, k1⟩ := alive y o1 h1 d1
    obtain ⟨p2, q2, k2⟩ := alive y' o2 h2 d2
    exact r.inj y y' p1 p2 hy hy' q1 q2 k1 k2 he
  · intro y o' hy
    by_cases hyb : y = b
    · subst hyb; exact hl
    · exact r.lt y o' (other y _ hy hyb)

theorem stN_some {a : Addr} {l : List Value} {h' : H} (hs : stN ro h a l = some h') :
    a.spot = none ∧ ro ≤ a.block ∧ l.all one = true ∧ ∃ c e, a.off + l.length ≤ c.length ∧
      ((h.get a.block = some (.cells c e) ∧ h' = h.put a.block (.cells (splice c a.off l) e)) ∨ (h.get a.block = some (.grow c e) ∧ h' = h.put a.block (.grow (splice c a.off l) e))) := by
  unfold stN at hs
  split at hs
  · rename_i h1 h2 h3
    refine ⟨h1, Nat.le_of_ble_eq_true h2, h3, ?_⟩
    split at hs
    · rename_i c e hg
      split at hs
      · rename_i hb
        exact ⟨c, e, Nat.le_of_ble_eq_true hb, .inl ⟨hg, (Option.some.inj hs).symm⟩⟩
      · simp at hs
    · rename_i c e hg
      split at hs
      · rename_i hb
        exact ⟨c, e, Nat.le_of_ble_eq_true hb, .inr ⟨hg, (Option.some.inj hs).symm⟩⟩
      · simp at hs
    · simp at hs
  · simp at hs

theorem dom_of_put {b : Nat} {ao : AO} (hb : b < LIM) : ∀ x, dom ro h x → dom ro (h.put b ao) x := fun x hx => dom_put hb ao x hx

/-- cells written -/
theorem RelH.stored (r : RelH P ro w0 f g h w) {a : Addr} {l : List Value} {h' : H} (hs : stN ro h a l = some h') (hl : ∀ v ∈ l, okV ro h v) :
    ∃ w', (storeCells (adr f a) (l.map (ren f g)) 0).run P w = .ok () w' ∧ RelH P ro w0 f g h' w' ∧ (∀ x, dom ro h x → dom ro h' x) := by
  obtain ⟨hsp, hro, h1, c, e, hlen, hcase⟩ := stN_some hs
  have ha : adr f a = ⟨f a.block, a.off, none⟩ := by unfold adr; rw [← hsp]
  have hone : ∀ v ∈ l.map (ren f g), v.oneCell' = true := by
    intro v hv
    obtain ⟨u, hu, rfl⟩ := List.mem_map.1 hv
    exact one_ren f g u (List.all_eq_true.1 h1 u hu)
  rw [ha]
  rcases hcase with ⟨hg, rfl⟩ | ⟨hg, rfl⟩
  · obtain ⟨fz, hw, hz⟩ := r.row a.block c e hg
    obtain ⟨w', hrun, hwr, hh⟩ := run_storeCells_row P (f a.block) e fz (l.map (ren f g)) a.off 0 (c.map (ren f g)) w hw (by simpa using hlen) (by simpa using hz hro) hone
    refine ⟨w', hrun, r.turn hro hg (by simp) hwr _ hh (.inr ?_) ?_, dom_of_put (r.lt _ _ hg)⟩
    · rw [Nat.add_zero, ← splice_map]
      exact .cells _ e fz (by rw [splice_length _ _ _ hlen]; exact hz hro) _
    · intro c' e' hc' v hv
      have : c' = splice c a.off l := by rcases hc' with h | h <;> simp at h; exact h.1.symm
      subst this
      rcases mem_splice hv with h | h
      · exact r.cok a.block c e (by simp [rowOf, hg]) v h
      · exact hl v h
  · obtain ⟨_, rest, fz, i, hw, hi, hp, hly, hz, hB⟩ := r.grow a.block c e hg
    obtain ⟨w', hrun, hwr, hh⟩ := run_storeCells_row P (f a.block) e fz (l.map (ren f g)) a.off 0 (c.map (ren f g) ++ rest) w hw (by simp; omega) (by simpa using hz) hone
    refine ⟨w', hrun, r.turn hro hg (by simp) hwr _ hh (.inr ?_) ?_, dom_of_put (r.lt _ _ hg)⟩
    · rw [Nat.add_zero, splice_append _ _ _ _ (by simpa using hlen), ← splice_map]
      exact .grow _ e rest fz i _ hi hp (by rw [splice_length _ _ _ hlen]; exact hly) (by rw [splice_length _ _ _ hlen]; exact hz) hB
    · intro c' e' hc' v hv
      have : c' = splice c a.off l := by rcases hc' with h | h <;> simp at h; exact h.1.symm
      subst this
      rcases mem_splice hv with h | h
      · exact r.cok a.block c e (by simp [rowOf, hg]) v h
      · exact hl v h

theorem ldN_some {a : Addr} {n : Nat} {l : List Value} (hl : ldN h a n = some l) :
    a.spot = none ∧ ∃ c e, rowOf h a.block = some (c, e) ∧ a.off + n ≤ c.length ∧ l = (c.drop a.off).take n := by
  unfold ldN at hl
  split at hl
  · simp at hl
  · rename_i hsp
    split at hl
    · rename_i c e hr
      split at hl
      · rename_i hb
        exact ⟨hsp, c, e, hr, Nat.le_of_ble_eq_true hb, (Option.some.inj hl).symm⟩
      · simp at hl
    · simp at hl

theorem ldN_length {a : Addr} {n : Nat} {l : List Value} (hl : ldN h a n = some l) : l.length = n := by
  obtain ⟨_, c, e, _, hlen, rfl⟩ := ldN_some hl
  simp; omega

theorem RelH.ldOk (r : RelH P ro w0 f g h w) {a : Addr} {n : Nat} {l : List Value} (hl : ldN h a n = some l) : ∀ v ∈ l, okV ro h v := by
  obtain ⟨_, c, e, hr, _, rfl⟩ := ldN_some hl
  exact fun v hv => r.cok a.block c e hr v (List.mem_of_mem_drop (List.mem_of_mem_take hv))

/-- cells read -/
theorem RelH.loaded (r : RelH P ro w0 f g h w) {a : Addr} {n : Nat} {l : List Value} (hl : ldN h a n = some l) :
    ∀ j v, (l.map (ren f g))[j]? = some v → w.cell? ((adr f a).add j) = some v := by
  have hlen := ldN_length hl
  obtain ⟨hsp, c, e, hr, hle, rfl⟩ := ldN_some hl
  intro j v hv
  have ha : adr f a = ⟨f a.block, a.off, none⟩ := by unfold adr; rw [← hsp]
  rw [ha, add_plainE]
  rw [List.getElem?_map, Option.map_eq_some_iff] at hv
  obtain ⟨u, hu, rfl⟩ := hv
  refine r.cellAt hr ?_
  have hj : j < n := by
    have := (List.getElem?_eq_some_iff.1 hu).1
    simp at this; omega
  rw [List.getElem?_take, if_pos hj, List.getElem?_drop] at hu
  exact hu

theorem RelH.loadedRun (r : RelH P ro w0 f g h w) {a : Addr} {n : Nat} {l : List Value} (hl : ldN h a n = some l) :
    (loadCells (adr f a) n).run P w = .ok (l.map (ren f g)).toArray w := by
  have := run_loadCells_list (P := P) w (adr f a) (l.map (ren f g)) (r.loaded hl)
  rw [List.length_map, ldN_length hl] at this
  exact this

end
end Go.Ev
