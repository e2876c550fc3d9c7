/- The evaluator's appends, copies, texts made without a copy. -/
import Derived.Test.YtphilpjglajffaaGreatDoorEvK
namespace Go.Ev
open Go.RowKit (Below)

section
variable {P : Program} {ro : Nat} {w0 : World} {f g : Nat → Nat} {h : H} {w : World} {ρ ρc : Operand → Value} {o : Oper}

/-- a new name for a block that stands in the world, and that no other name has -/
theorem RelH.name (r : RelH P ro w0 f g h w) {b k : Nat} {ao : AO} {o : Obj} {y : Nat} (hr : ro ≤ b) (hl : b < LIM) (hn : h.get b = none) (hk : w0.heap.size ≤ k) (ho : w.heap[k]? = some o) (ht : Tied P f g ao o y)
    (hfar : ∀ x o', ro ≤ x → h.get x = some o' → o' ≠ .dead → f x ≠ k) (hc : ∀ c e, ao = .cells c e ∨ ao = .grow c e → ∀ v ∈ c, okV ro h v) :
    RelH P ro w0 (upd f b k) (upd g b y) (h.put b ao) w := by
  have ag := agree_upd f g hr hn k y
  have other : ∀ x o', (h.put b ao).get x = some o' → x ≠ b → h.get x = some o' := fun x o' hx hne => by rwa [H.get_put_other hl _ hne] at hx
  have mine : ∀ o', (h.put b ao).get b = some o' → o' = ao := fun o' hx => by rw [H.get_put_same hl] at hx; exact (Option.some.inj hx).symm
  have cells : ∀ x c e, rowOf h x = some (c, e) → c.map (ren f g) = c.map (ren (upd f b k) (upd g b y)) := fun x c e hx => cells_renamed ag (r.cok x c e hx)
  refine ⟨r.below, ?_, ?_, ?_, ?_, ?_, ?_, ?_, ?_, r.lim, ?_⟩
  · intro x c e hx
    by_cases hxb : x = b
    · subst hxb
      have := mine _ hx
      subst this
      cases ht with
      | cells c e fz hz y =>
        refine ⟨fz, ?_, fun _ => hz⟩
        rw [upd_same, ho, cells_renamed ag (hc c e (.inl rfl))]
    · have hx' := other x _ hx hxb
      obtain ⟨fz, hw, hz⟩ := r.row x c e hx'
      refine ⟨fz, ?_, hz⟩
      rw [upd_other _ _ hxb, ← cells x c e (by simp [rowOf, hx'])]
      exact hw
  · intro x c e hx
    by_cases hxb : x = b
    · subst hxb
      have := mine _ hx
      subst this
      cases ht with
      | grow c e rest fz i y hi hp hly hz hB =>
        refine ⟨hr, rest, fz, i, ?_, hi, hp, by rw [upd_same]; exact hly, hz, by rw [upd_same]; exact hB⟩
        rw [upd_same, ho, cells_renamed ag (hc c e (.inr rfl))]
    · have hx' := other x _ hx hxb
      obtain ⟨hro, rest, fz, i, hw, hi, hp, hly, hz, hB⟩ := r.grow x c e hx'
      refine ⟨hro, rest, fz, i, ?_, hi, hp, by rw [upd_other _ _ hxb]; exact hly, hz, by rw [upd_other _ _ hxb]; exact hB⟩
      rw [upd_other _ _ hxb, ← cells x c e (by simp [rowOf, hx'])]
      exact hw
  · intro x s p hx
    by_cases hxb : x = b
    · subst hxb
      have := mine _ hx
      subst this
      cases ht with
      | iter s p y => rw [upd_same, ho]
    · rw [upd_other _ _ hxb]
      exact r.iter x s p (other x _ hx hxb)
  · intro x c e hx v hv
    by_cases hxb : x = b
    · subst hxb
      have hx2 := rowOf_some hx
      have : ao = .cells c e ∨ ao = .grow c e := by
        rcases hx2 with h1 | h1
        · exact .inl (mine _ h1).symm
        · exact .inr (mine _ h1).symm
      exact okV_put hl _ (hc c e this v hv)
    · have hx' : rowOf h x = some (c, e) := by unfold rowOf at hx ⊢; rwa [H.get_put_other hl _ hxb] at hx
      exact okV_put hl _ (r.cok x c e hx' v hv)
  · intro x o' hro hx hd
    by_cases hxb : x = b
    · subst hxb; rw [upd_same]; exact hk
    · rw [upd_other _ _ hxb]; exact r.new x o' hro (other x _ hx hxb) hd
  · intro x o' hro hx hd
    have hxb : x ≠ b := by omega
    rw [upd_other _ _ hxb]
    exact r.old x o' hro (other x _ hx hxb) hd
  · intro x x' o1 o2 hx hx' h1 h2 d1 d2 he
    by_cases e1 : x = b
    · by_cases e2 : x' = b
      · rw [e1, e2]
      · subst e1
        rw [upd_same, upd_other _ _ e2] at he
        exact absurd he.symm (hfar x' o2 hx' (other x' _ h2 e2) d2)
    · by_cases e2 : x' = b
      · subst e2
        rw [upd_same, upd_other _ _ e1] at he
        exact absurd he (hfar x o1 hx (other x _ h1 e1) d1)
      · rw [upd_other _ _ e1, upd_other _ _ e2] at he
        exact r.inj x x' o1 o2 hx hx' (other x _ h1 e1) (other x' _ h2 e2) d1 d2 he
  · intro x hx
    have hg := r.glob x hx
    exact ⟨by rw [upd_other _ _ (by omega)]; exact hg.1, hg.2⟩
  · intro x o' hx
    by_cases hxb : x = b
    · subst hxb; exact hl
    · exact r.lt x o' (other x _ hx hxb)

theorem zOk_some {i : TypeInfo} (hz : zOk i = true) : ∃ z, i.zero = some z ∧ (cellsV z).length = i.size ∧ flat z = true := by
  unfold zOk at hz
  split at hz
  · rename_i z hzz
    simp only [Bool.and_eq_true] at hz
    exact ⟨z, hzz, Nat.eq_of_beq_eq_true hz.1, hz.2⟩
  · simp at hz

structure ApOk (h : H) (i : TypeInfo) (n : Nat) (new : List Value) (z : Value) : Prop where
  nx : h.nx < LIM
  bytes : i.bytes ≤ 65536
  zero : i.zero = some z
  zl : z.cells.size = i.size
  len : new.length = n * i.size
  n : n ≤ 1048576
  pos : 0 < i.size
  one : new.all one = true

theorem apOk_some {i : TypeInfo} {n : Nat} {new : List Value} (hs : apOk h i n new = true) : ∃ z, ApOk h i n new z := by
  unfold apOk at hs
  simp only [Bool.and_eq_true] at hs
  obtain ⟨h1, h2, h3, h4, h5, h6, h7⟩ := hs
  obtain ⟨z, z1, z2, _⟩ := zOk_some h3
  exact ⟨z, by simpa using h1, Nat.le_of_ble_eq_true h2, z1, by rw [← z2, ← cells_toList]; simp, Nat.eq_of_beq_eq_true h4, Nat.le_of_ble_eq_true h5, by simpa using h6, h7⟩

theorem zeroCells_size (z : Array Value) (n : Nat) : (Builtin.zeroCells z n).size = n * z.size := by simp [Builtin.zeroCells]

/-- a new row as an append lays it -/
theorem grown_sim (r : RelH P ro w0 f g h w) (hro : ro ≤ h.nx) (hn : h.get h.nx = none) {e : TypeId} {i : TypeInfo} {n m : Nat} {new cs : List Value} {z v : Value} {h' : H} (hi : P.info? e = some i) (ap : ApOk h i n new z)
    (hcs : cs.length = m * i.size) (hok : ∀ u ∈ cs, okV ro h u) (cap : Nat) (hcap : m ≤ cap) (hB : cap < BIG) (he : apNew h e m cs = some (v, h')) :
    ∃ f' g', ren f' g' v = .slice (some ⟨w.heap.size, 0, none⟩) m cap ∧
      RelH P ro w0 f' g' h' (w.drew.alloc (.cells ((cs.map (ren f g)).toArray ++ Builtin.zeroCells z.cells (cap - m)) e)) ∧ Agree ro h f g f' g' ∧ okV ro h' v := by
  unfold apNew at he
  simp only [Option.some.injEq, Prod.mk.injEq] at he
  obtain ⟨rfl, rfl⟩ := he
  refine ⟨upd f h.nx w.heap.size, upd g h.nx cap, ren_newG .., ?_, agree_upd f g hro hn _ _, new_slice h.nx ap.nx _ _ _⟩
  refine RelH.nx ?_ _
  have := r.drew.alloc (b := h.nx) (ao := .grow cs e) (o := .cells ((cs.map (ren f g)).toArray ++ Builtin.zeroCells z.cells (cap - m)) e) (y := cap) hro ap.nx hn ?_ ?_
  · exact this
  · have hrest : (cs.map (ren f g)).toArray ++ Builtin.zeroCells z.cells (cap - m) = (cs.map (ren f g) ++ (Builtin.zeroCells z.cells (cap - m)).toList).toArray := by
      apply Array.ext'; simp
    rw [hrest]
    refine .grow cs e _ (0, 0) i cap hi ap.pos ?_ (freeTo_none _) hB
    show cap * i.size = cs.length + (Builtin.zeroCells z.cells (cap - m)).size
    rw [zeroCells_size, ap.zl, hcs, ← Nat.add_mul]
    congr 1; omega
  · intro c e' hc u hu
    have : c = cs := by rcases hc with h | h <;> simp at h; exact h.1.symm
    subst this
    exact hok u hu

theorem next_fits {n need cap bytes : Nat} (h : cap < need) (hn : need ≤ 2 * n) (hn2 : n ≤ 1048576) (hb : bytes ≤ 65536) : Builtin.nextslicecap need cap * bytes ≤ 281474976710656 := by
  apply growslice_fits h
  have : need * bytes ≤ (2 * 1048576) * 65536 := Nat.mul_le_mul (by omega) hb
  omega

/-- a block that is known no more -/
theorem RelH.kill (r : RelH P ro w0 f g h w) {b : Nat} {c : List Value} {e : TypeId} (hro : ro ≤ b) (hb : h.get b = some (.grow c e)) : RelH P ro w0 f g (h.put b .dead) w := by
  obtain ⟨_, rest, fz, i, hw, _⟩ := r.grow b c e hb
  exact r.turn hro hb (by simp) (Wr.refl w _) _ hw (.inl rfl) (fun c e hc => by simp at hc)

theorem put_swap (h : H) {a b : Nat} (x y : AO) (hab : a ≠ b) : (h.put a x).put b y = (h.put b y).put a x := by
  unfold H.put
  simp only
  rw [T.put_comm x y K h.t a b hab]

theorem splice_mid (c : List Value) (off : Nat) (l : List Value) : splice c off l = (c.take off ++ l) ++ c.drop (off + l.length) := by unfold splice; simp

theorem apBig_sim (r : RelH P ro w0 f g h w) (hro : ro ≤ h.nx) (hn : h.get h.nx = none) {c : Call} {st xt e : TypeId} {d : TypeDesc} {i : TypeInfo} {z : Value} {n : Nat} {new : List Value} {a : Addr} {len cap : Nat} {x : Value}
    (_ho : o.op = .call c) (hu : P.underlying st = some (.slice e)) (hxu : P.underlying xt = some d) (hd : ∀ k, d ≠ .int k) (hi : P.info? e = some i) (ap : ApOk h i n new z)
    (hlen : (Builtin.lenOf (ren f g x)).run P w = .ok n w) (hfc : ∀ w', w'.heap = w.heap → (Builtin.firstCells i.size n (ren f g x)).run P w' = .ok (new.map (ren f g)).toArray w') (hok : ∀ v ∈ new, okV ro h v)
    (hl : len ≤ 1048576) (hcb : ¬ cap < BIG) (h0 : c.argTypes[0]? = some st) (h1 : c.argTypes[1]? = some xt) (a0 : (c.args.map ρc)[0]? = some (.slice (some (adr f a)) len (capR g a.block cap))) (a1 : (c.args.map ρc)[1]? = some (ren f g x))
    (hrun : (execOp ρc o).run P w = ((Builtin.append_ c.argTypes o.type (c.args.map ρc)).run P w).andThen fun u w' => .ok (.value u) w') (hsok : okV ro h (.slice (some a) len cap))
    {v : Value} {h' : H} (he : apBig ro h e i.size n new a len cap = some (v, h')) : SimE P ro w0 f g h w (execOp ρc o) v h' := by
  obtain ⟨k, hk⟩ : ∃ k, cap = BIG + k := ⟨cap - BIG, (Nat.add_sub_cancel' (Nat.le_of_not_lt hcb)).symm⟩
  have hsub : cap - BIG = k := by rw [hk, Nat.add_sub_cancel_left]
  have hcap : capR g a.block cap = g a.block - k := by rw [hk]; exact capR_big g a.block k
  unfold apBig at he
  rw [hsub] at he
  split at he
  · rename_i cs e' hget hspot
    split at he
    · rename_i hc
      simp only [Bool.and_eq_true] at hc
      obtain ⟨c1, c2, c3⟩ := hc
      have c1 := Nat.eq_of_beq_eq_true c1
      subst c1
      have c2 := Nat.le_of_ble_eq_true c2
      have c3 := Nat.le_of_ble_eq_true c3
      obtain ⟨hrb, rest, fz, i', hw, hi', hp, hly, hfz, hB⟩ := r.grow a.block cs e hget
      rw [hi] at hi'
      simp only [Option.some.injEq] at hi'; subst hi'
      have hkl : k + len ≤ g a.block := by
        have : (k + len) * i.size ≤ g a.block * i.size := by rw [Nat.add_mul]; omega
        exact Nat.le_of_mul_le_mul_right this hp
      split at he
      · rename_i _ hn0
        simp only [Option.some.injEq, Prod.mk.injEq] at he
        obtain ⟨rfl, rfl⟩ := he
        have hnil : new = [] := List.eq_nil_of_length_eq_zero (by rw [ap.len, Nat.zero_mul])
        have hfit := append_fit (P := P) (w := w) (ty := o.type) h0 h1 a0 a1 hu hxu hd hi hlen (hfc w rfl) (by rw [hcap]; omega)
        refine ⟨f, g, w, .inl ?_, r, Agree.refl .., hsok⟩
        rw [hrun, hfit, ren_slice, hnil]
        rfl
      · rename_i m
        split at he
        · rename_i hc
          simp only [Bool.and_eq_true] at hc
          obtain ⟨d1, d2, d3⟩ := hc
          have d1 := Nat.eq_of_beq_eq_true d1
          have d2 := Nat.eq_of_beq_eq_true d2
          have hk0 : k = 0 := by rw [d2] at hk; exact (Nat.add_left_cancel (n := BIG) (m := 0) (by rw [Nat.add_zero]; exact hk)).symm
          subst hk0
          rw [Nat.zero_mul, Nat.zero_add] at c3
          rw [Nat.zero_add] at hkl
          rw [Nat.sub_zero] at hcap
          rw [hcap] at a0
          have hadr : adr f a = ⟨f a.block, 0, none⟩ := by unfold adr; rw [d1, hspot]
          have hne : h.nx ≠ a.block := fun e1 => by rw [← e1, hn] at hget; simp at hget
          have hlt := ap.nx
          have hltb := r.lt _ _ hget
          simp only [Option.some.injEq, Prod.mk.injEq] at he
          obtain ⟨rfl, rfl⟩ := he
          have hokc : ∀ u ∈ cs.take (len * i.size) ++ new, okV ro h u := fun u hu => by
            rcases List.mem_append.1 hu with hu | hu
            · exact r.cok a.block cs e (by simp [rowOf, hget]) u (List.mem_of_mem_take hu)
            · exact hok u hu
          have hokr : ∀ h2 : H, okV ro ({ (h2.put h.nx (.grow (cs.take (len * i.size) ++ new) e)).put a.block .dead with nx := h.nx + 1 } : H) (.slice (some ⟨h.nx, 0, none⟩) (len + (m + 1)) BIG) := by
            intro h2
            unfold okV; rw [all_slice]
            exact dom_put (h := h2.put h.nx _) hltb .dead _ (get_dom (H.get_put_same hlt _))
          by_cases hfit : len + (m + 1) ≤ g a.block
          · have hfr := append_fit (P := P) (w := w) (ty := o.type) h0 h1 a0 a1 hu hxu hd hi hlen (hfc w rfl) hfit
            have hmul : (len + (m + 1)) * i.size ≤ g a.block * i.size := Nat.mul_le_mul_right _ hfit
            rw [Nat.add_mul] at hmul
            have hlen2 : new.length = (m + 1) * i.size := ap.len
            have hone : ∀ u ∈ new.map (ren f g), u.oneCell' = true := by
              intro u hu
              obtain ⟨u', hu', rfl⟩ := List.mem_map.1 hu
              exact one_ren f g u' (List.all_eq_true.1 ap.one u' hu')
            obtain ⟨w', hst, hwr, hh⟩ := run_storeCells_row P (f a.block) e fz (new.map (ren f g)) (len * i.size) 0 (cs.map (ren f g) ++ rest) w hw (by simp only [List.length_append, List.length_map]; omega) (by simpa using hfz) hone
            have rk := r.turn (ao := .dead) hrb hget (by simp) hwr _ hh (.inl rfl) (fun c e hc => by simp at hc)
            rw [Nat.add_zero] at hh
            have hsp : splice (cs.map (ren f g) ++ rest) (len * i.size) (new.map (ren f g)) = (cs.take (len * i.size) ++ new).map (ren f g) ++ (cs.map (ren f g) ++ rest).drop (len * i.size + (new.map (ren f g)).length) := by
              rw [splice_mid, List.take_append_of_le_length (by simpa using c3), List.map_append, List.map_take]
            rw [hsp] at hh
            have hgd : ∀ x, x ≠ a.block → (h.put a.block .dead).get x = h.get x := fun x hx => H.get_put_other hltb _ hx
            have rn := rk.name (b := h.nx) (k := f a.block) (ao := .grow (cs.take (len * i.size) ++ new) e) (y := g a.block) hro hlt (by rw [hgd _ hne]; exact hn) (r.new _ _ hrb hget (by simp)) hh
              (by
                have hL : (cs.take (len * i.size) ++ new).length + ((cs.map (ren f g) ++ rest).drop (len * i.size + (new.map (ren f g)).length)).length = cs.length + rest.length := by
                  simp only [List.length_append, List.length_take, List.length_drop, List.length_map]; omega
                exact .grow _ e _ fz i _ hi hp (by rw [hL]; exact hly) (by rw [hL]; exact hfz) hB)
              (fun x o' hx1 hx2 hx3 hx4 => by
                by_cases hxb : x = a.block
                · subst hxb
                  rw [H.get_put_same hltb] at hx2
                  exact hx3 (Option.some.inj hx2).symm
                · rw [hgd x hxb] at hx2
                  exact hxb (r.inj x a.block o' _ hx1 hrb hx2 hget hx3 (by simp) hx4))
              (fun c' e'' hc u hu => by
                have : c' = cs.take (len * i.size) ++ new := by rcases hc with h | h <;> simp at h; exact h.1.symm
                subst this
                exact okV_put hltb _ (hokc u hu))
            refine ⟨_, _, w', .inl ?_, RelH.nx (by rw [put_swap h _ _ hne]; exact rn) _, agree_upd f g hro hn _ _, hokr h⟩
            rw [hrun, hfr, ren_newG]
            simp only [hadr, add_plainE, Nat.zero_add]
            simp only [hst]
            rfl
          · have hold : ldN h a (len * i.size) = some (cs.take (len * i.size)) := by
              unfold ldN
              rw [hspot]
              simp only [rowOf, hget, d1, Nat.zero_add, Nat.ble_eq_true_of_le c3, List.drop_zero]
            have hcell := r.drew.loaded hold
            have hfo := run_firstCells_some (P := P) w.drew i.size len (adr f a) len (g a.block) ((cs.take (len * i.size)).map (ren f g)) (by rw [List.length_map]; exact ldN_length hold) hcell
            have hg := append_grow (P := P) (w := w) (ty := o.type) h0 h1 a0 a1 hu hxu hd hi ap.zero hlen (hfc w.drew rfl) hfo hfit (by have := ap.n; omega)
              (next_fits (n := 1048576) (by omega) (by have := ap.n; omega) (Nat.le_refl _) ap.bytes)
            obtain ⟨f', g', e1, e2, e3, e4⟩ := grown_sim r hro hn (cs := cs.take (len * i.size) ++ new) hi ap (by rw [List.length_append, ldN_length hold, ap.len, Nat.add_mul]) hokc
              (grownCap w (len + (m + 1)) (g a.block) e) (grownCap_ge ..) (by have := grownCap_le_maxLen w (len + (m + 1)) (g a.block) e (by have := ap.n; unfold maxLen; omega); unfold maxLen at this; unfold BIG; omega) rfl
            refine ⟨f', g', _, .inl ?_, RelH.nx (RelH.kill (e2.nx h.nx) (c := cs) (e := e) hrb ?_) _, e3, hokr h⟩
            · rw [hrun, hg, e1]
              simp
            · show (h.put h.nx _).get a.block = _
              rw [H.get_put_other hlt _ (fun e1 => hne e1.symm)]; exact hget
        · simp at he
    · simp at he
  · simp at he

theorem sim_append (r : RelH P ro w0 f g h w) (hro : ro ≤ h.nx) (hn : h.get h.nx = none) {c : Call} (ho : o.op = .call c) (hc : c.callee = .builtin .append) (hargs : ∀ x ∈ c.args, ρc x = ren f g (ρ x) ∧ okV ro h (ρ x))
    {v : Value} {h' : H} (he : evAppend P ro h c.argTypes.toList (c.args.toList.map ρ) = some (v, h')) : SimE P ro w0 f g h w (execOp ρc o) v h' := by
  unfold evAppend at he
  split at he
  · rename_i st xt tr s x ar hts has
    have h0 : c.argTypes[0]? = some st := by rw [← Array.getElem?_toList, hts]; rfl
    have h1 : c.argTypes[1]? = some xt := by rw [← Array.getElem?_toList, hts]; rfl
    obtain ⟨so, l1, hl1, rfl, hl2⟩ : ∃ so l1, c.args.toList = so :: l1 ∧ ρ so = s ∧ l1.map ρ = x :: ar := by
      cases hcl : c.args.toList with
      | nil => rw [hcl] at has; simp at has
      | cons a l => rw [hcl] at has; simp only [List.map_cons, List.cons.injEq] at has; exact ⟨a, l, rfl, has.1, has.2⟩
    obtain ⟨xo, l2, rfl, rfl⟩ : ∃ xo l2, l1 = xo :: l2 ∧ ρ xo = x := by
      cases l1 with
      | nil => simp at hl2
      | cons a l => simp only [List.map_cons, List.cons.injEq] at hl2; exact ⟨a, l, rfl, hl2.1⟩
    have hs := hargs so (by rw [Array.mem_def, hl1]; simp)
    have hx := hargs xo (by rw [Array.mem_def, hl1]; simp)
    have a0 : (c.args.map ρc)[0]? = some (ren f g (ρ so)) := by rw [Array.getElem?_map, ← Array.getElem?_toList, hl1]; simp [hs.1]
    have a1 : (c.args.map ρc)[1]? = some (ren f g (ρ xo)) := by rw [Array.getElem?_map, ← Array.getElem?_toList, hl1]; simp [hx.1]
    have hrun := builtin_run (P := P) (w := w) (ρc := ρc) (k := Builtin.append_) ho hc (fun _ _ _ _ => rfl)
    split at he
    · simp at he
    · rename_i e d hnd hu hxu
      have hd : ∀ k, d ≠ .int k := fun k hk => hnd k hk
      split at he
      · rename_i i hi
        split at he
        · rename_i n new hsrc
          split at he
          · rename_i hap
            obtain ⟨z, ap⟩ := apOk_some hap
            obtain ⟨hlen, hfc, hok⟩ := src_sim r hsrc
            unfold apGo at he
            split at he
            · rename_i hsn
              rw [hsn, ren_nilslice] at a0
              split at he
              · rename_i _ hn0
                simp only [Option.some.injEq, Prod.mk.injEq] at he
                obtain ⟨rfl, rfl⟩ := he
                have hnil := append_fit (P := P) (w := w) (ty := o.type) h0 h1 a0 a1 hu hxu hd hi hlen (hfc w rfl) (by omega)
                refine ⟨f, g, w, .inl ?_, r, Agree.refl .., by unfold okV; rw [all_nilslice]; trivial⟩
                rw [hrun, hnil, ren_nilslice]; rfl
              · rename_i m
                have hg := append_grow (P := P) (w := w) (ty := o.type) (olds := #[]) h0 h1 a0 a1 hu hxu hd hi ap.zero hlen (hfc w.drew rfl) rfl (by omega) (by have := ap.n; omega)
                  (next_fits (n := 1048576) (by omega) (by have := ap.n; omega) (Nat.le_refl _) ap.bytes)
                rw [Nat.zero_add] at hg
                obtain ⟨f', g', e1, e2, e3, e4⟩ := grown_sim r hro hn hi ap ap.len hok (grownCap w (m + 1) 0 e) (grownCap_ge ..) (by have := grownCap_le_maxLen w (m + 1) 0 e (by have := ap.n; unfold maxLen; omega); unfold maxLen at this; unfold BIG; omega) he
                refine ⟨f', g', _, .inl ?_, e2, e3, e4⟩
                rw [hrun, hg, e1]
                simp
            · rename_i a len cap hsv
              rw [hsv, ren_slice] at a0
              have hsok := hs.2
              rw [hsv] at hsok
              split at he
              · rename_i hl hcb
                have hl := Nat.le_of_ble_eq_true hl
                have hcb : cap < BIG := by simpa using hcb
                have hcap : capR g a.block cap = cap := by unfold capR; rw [if_pos hcb]
                rw [hcap] at a0
                unfold apKnown at he
                split at he
                · rename_i hf
                  have hf := Nat.le_of_ble_eq_true hf
                  split at he
                  · rename_i h1' hst
                    simp only [Option.some.injEq, Prod.mk.injEq] at he
                    obtain ⟨rfl, rfl⟩ := he
                    obtain ⟨w', hw', hr', hdm⟩ := r.stored hst hok
                    rw [adr_add] at hw'
                    have hfit := append_fit (P := P) (w := w) (ty := o.type) h0 h1 a0 a1 hu hxu hd hi hlen (hfc w rfl) hf
                    refine ⟨f, g, w', .inl ?_, hr', Agree.refl .., ?_⟩
                    · rw [hrun, hfit, ren_slice, hcap]
                      simp only [hw']
                      rfl
                    · unfold okV at hsok ⊢
                      rw [all_slice] at hsok ⊢
                      exact hdm _ hsok
                  · simp at he
                · rename_i hf
                  have hf : ¬ len + n ≤ cap := fun hle => by rw [Nat.ble_eq_true_of_le hle] at hf; cases hf
                  split at he
                  · rename_i old hold hlc
                    have hlc := Nat.le_of_ble_eq_true hlc
                    have hcell := r.drew.loaded hold
                    have hfo := run_firstCells_some (P := P) w.drew i.size len (adr f a) len cap (old.map (ren f g)) (by rw [List.length_map]; exact ldN_length hold) hcell
                    have hg := append_grow (P := P) (w := w) (ty := o.type) h0 h1 a0 a1 hu hxu hd hi ap.zero hlen (hfc w.drew rfl) hfo hf (by have := ap.n; omega)
                      (next_fits (n := 1048576) (by omega) (by have := ap.n; omega) (Nat.le_refl _) ap.bytes)
                    obtain ⟨f', g', e1, e2, e3, e4⟩ := grown_sim r hro hn (cs := old ++ new) hi ap (by rw [List.length_append, ldN_length hold, ap.len, Nat.add_mul]) (fun u hu => by
                      rcases List.mem_append.1 hu with hu | hu
                      · exact r.ldOk hold u hu
                      · exact hok u hu) (grownCap w (len + n) cap e) (grownCap_ge ..) (by have := grownCap_le_maxLen w (len + n) cap e (by have := ap.n; unfold maxLen; omega); unfold maxLen at this; unfold BIG; omega) he
                    refine ⟨f', g', _, .inl ?_, e2, e3, e4⟩
                    rw [hrun, hg, e1]
                    simp
                  · simp at he
              · rename_i hl hcb
                exact apBig_sim r hro hn ho hu hxu hd hi ap hlen hfc hok (Nat.le_of_ble_eq_true hl) (blt_false hcb) h0 h1 a0 a1 hrun hsok he
              · simp at he
            · simp at he
          · simp at he
        · simp at he
      · simp at he
    · simp at he
  · simp at he

end
end Go.Ev
