/- The evaluator's copies, texts made without a copy; all writes together but calls. | The evaluator by itself: reads see what they saw when blocks are added; writes do not touch what they did not know. | The evaluator's writes keep apart: a block that they do not know may stand there or not. | One operation of a region, evaluated: what it looks at; two that are apart change places. | Two operations that are apart change places. | A run in the chosen order: an operation that waits for nothing more is pulled to the front. | The program's step answers as the evaluator's; a region in the text's order. -/
import Derived.Test.YtphilpjglajffaaGreatDoorEvL
namespace Go.Ev
open Go.RowKit (Below)

section
variable {P : Program} {ro : Nat} {w0 : World} {f g : Nat → Nat} {h : H} {w : World} {ρ ρc : Operand → Value} {o : Oper}

theorem two_args {c : Call} {s x : Value} {ar : List Value} (hargs : ∀ x ∈ c.args, ρc x = ren f g (ρ x) ∧ okV ro h (ρ x)) (has : c.args.toList.map ρ = s :: x :: ar) :
    (c.args.map ρc)[0]? = some (ren f g s) ∧ (c.args.map ρc)[1]? = some (ren f g x) ∧ okV ro h s ∧ okV ro h x := by
  obtain ⟨so, l1, hl1, rfl, hl2⟩ : ∃ so l1, c.args.toList = so :: l1 ∧ ρ so = s ∧ l1.map ρ = x :: ar := by
    cases hcl : c.args.toList with
    | nil => rw [hcl] at has; simp at has
    | cons a l => rw [hcl] at has; simp only [List.map_cons, List.cons.injEq] at has; exact ⟨a, l, rfl, has.1, has.2⟩
  obtain ⟨xo, l2, rfl, rfl⟩ : ∃ xo l2, l1 = xo :: l2 ∧ ρ xo = x := by
    cases l1 with
    | nil => simp at hl2
    | cons a l => simp only [List.map_cons, List.cons.injEq] at hl2; exact ⟨a, l, rfl, hl2.1⟩
  have hs := hargs so (by rw [Array.mem_def, hl1]; simp)
  have hx := hargs xo (by rw [Array.mem_def, hl1]; simp)
  exact ⟨by rw [Array.getElem?_map, ← Array.getElem?_toList, hl1]; simp [hs.1], by rw [Array.getElem?_map, ← Array.getElem?_toList, hl1]; simp [hx.1], hs.2, hx.2⟩

theorem copy_run {ts : Array TypeId} {args : Array Value} {dt e ty : TypeId} {size dl dc n : Nat} {a : Addr} {x : Value} {cells : Array Value} (h0 : ts[0]? = some dt) (a0 : args[0]? = some (.slice (some a) dl dc)) (a1 : args[1]? = some x)
    (hu : P.underlying dt = some (.slice e)) (hsz : szOf P e = some size) (hlen : (Builtin.lenOf x).run P w = .ok n w) (hfc : (Builtin.firstCells size (Nat.min n dl) x).run P w = .ok cells w) :
    (Builtin.copy_ ts ty args).run P w = ((storeCells a cells.toList).run P w).andThen fun _ w' => .ok (.int .i64 ((Nat.min n dl : Nat) : Int)) w' := by
  simp only [Builtin.copy_, h0, a0, a1, Sem.run_bind, run_underlying hu, Result.andThen_ok, hlen, sizeOf_run hsz, hfc, goInt, Sem.run_pure]

theorem sim_copy (r : RelH P ro w0 f g h w) {c : Call} (ho : o.op = .call c) (hc : c.callee = .builtin .copy) (hargs : ∀ x ∈ c.args, ρc x = ren f g (ρ x) ∧ okV ro h (ρ x))
    {v : Value} {h' : H} (he : evCopy P ro h c.argTypes.toList (c.args.toList.map ρ) = some (v, h')) : SimE P ro w0 f g h w (execOp ρc o) v h' := by
  unfold evCopy at he
  split at he
  · rename_i dt tr d x ar hts has
    have h0 : c.argTypes[0]? = some dt := by rw [← Array.getElem?_toList, hts]; rfl
    obtain ⟨a0, a1, okd, okx⟩ := two_args hargs has
    have hrun := builtin_run (P := P) (w := w) (ρc := ρc) (k := Builtin.copy_) ho hc (fun _ _ _ _ => rfl)
    split at he
    · rename_i e hu
      split at he
      · rename_i size a dl dc hsz
        rw [ren_slice] at a0
        unfold cpGo at he
        split at he
        · rename_i b n cap
          split at he
          · rename_i l hl
            split at he
            · rename_i h1 hst
              simp only [Option.some.injEq, Prod.mk.injEq] at he
              obtain ⟨rfl, rfl⟩ := he
              obtain ⟨w', hw', hr', hdm⟩ := r.stored hst (r.ldOk hl)
              have hfc := run_firstCells_some (P := P) w size (Nat.min n dl) (adr f b) n (capR g b.block cap) (l.map (ren f g)) (by rw [List.length_map]; exact ldN_length hl) (r.loaded hl)
              have hcr := copy_run (P := P) (w := w) (ty := o.type) h0 a0 a1 hu hsz (n := n) (by rw [ren_slice]; rfl) (by rw [ren_slice]; exact hfc)
              refine ⟨f, g, w', .inl ?_, hr', Agree.refl .., okInt _ _⟩
              rw [hrun, hcr, ren_int]
              simp only [hw']
              rfl
            · simp at he
          · simp at he
        · rename_i s
          split at he
          · rename_i h1 hst
            simp only [Option.some.injEq, Prod.mk.injEq] at he
            obtain ⟨rfl, rfl⟩ := he
            have hok : ∀ v ∈ (bytesV s).take (Nat.min s.size dl), okV ro h v := fun v hv => bytesV_ok s v (List.mem_of_mem_take hv)
            obtain ⟨w', hw', hr', hdm⟩ := r.stored hst hok
            have hfc : (Builtin.firstCells size (Nat.min s.size dl) (.string s)).run P w = .ok ((bytesV s).take (Nat.min s.size dl)).toArray w := by
              simp only [Builtin.firstCells, Sem.run_pure, bytesV]
              congr 1
              apply Array.ext'
              simp [List.extract_eq_take_drop]
            have hcr := copy_run (P := P) (w := w) (ty := o.type) h0 a0 a1 hu hsz (n := s.size) (by rw [ren_string]; rfl) (by rw [ren_string]; exact hfc)
            have hbr : ((bytesV s).take (Nat.min s.size dl)).map (ren f g) = (bytesV s).take (Nat.min s.size dl) := by rw [List.map_take, bytesV_ren]
            rw [hbr] at hw'
            refine ⟨f, g, w', .inl ?_, hr', Agree.refl .., okInt _ _⟩
            rw [hrun, hcr, ren_int]
            simp only [hw']
            rfl
          · simp at he
        · simp at he
      · simp at he
    · simp at he
  · simp at he

theorem loadInts_run {p : Program} : ∀ (ns : List Int) (a : Addr) (acc : ByteArray), (∀ j x, (ns.map (Value.int .u8))[j]? = some x → w.cell? (a.add j) = some x) →
    (loadBytes a acc ns.length).run p w = .ok ⟨⟨acc.data.toList ++ ns.map fun n => UInt8.ofNat n.toNat⟩⟩ w
  | [], a, acc, _ => by simp [loadBytes]
  | x :: l, a, acc, h => by
    have h0 : w.cell? a = some (.int .u8 x) := by
      have := h 0 _ rfl
      simpa [Addr.add] using this
    have ih := loadInts_run (p := p) l (a.add 1) (acc.push (UInt8.ofNat x.toNat)) (fun j y hy => by
      have := h (j + 1) y (by simpa using hy)
      have e : (a.add 1).add j = a.add (j + 1) := by
        unfold Addr.add
        by_cases hj : j = 0
        · subst hj; simp
        · simp [hj]; omega
      rw [e]; exact this)
    have hpush : (acc.push (UInt8.ofNat x.toNat)).data.toList = acc.data.toList ++ [UInt8.ofNat x.toNat] := by simp
    rw [hpush] at ih
    simp only [loadBytes, List.length_cons, Sem.run_bind, run_load, h0, Result.andThen_ok]
    rw [show x.toNat.toUInt8 = UInt8.ofNat x.toNat from rfl, ih]
    simp

theorem ustr_run {pt ty e' e : TypeId} {a : Addr} {n cells : Nat} {ns : List Int} {p : Program} (hp : p.underlying pt = some (.pointer e')) (hsh : w.shape? a.block = some (e, cells)) (hlies : liesAt p p.depth e (cells / p.cellsOf e) a.off e' (n + 1) = true)
    (hbl : ns.length = n + 1) (hn : n ≤ 1048576) (k : IntKind) (hcell : ∀ j x, (ns.map (Value.int .u8))[j]? = some x → w.cell? (a.add j) = some x) (ts : Array TypeId) (hts : ts[0]? = some pt) :
    (Builtin.unsafeString_ ts ty #[.pointer (some a), .int k ((n + 1 : Nat) : Int)]).run p w = .ok (.string ⟨⟨ns.map fun n => UInt8.ofNat n.toNat⟩⟩) (w.freeze a (n + 1)) := by
  have hlb := loadInts_run (p := p) (w := w) ns a .empty hcell
  rw [hbl] at hlb
  show Sem.run p (asInt (.int k ((n + 1 : Nat) : Int)) >>= _) w = _
  have hmax : IntKind.i64.max = 9223372036854775807 := rfl
  have h1 : ¬ (((n + 1 : Nat) : Int) < 0) := by omega
  have h2 : ¬ (((n + 1 : Nat) : Int) > 9223372036854775807) := by omega
  have h3 : ¬ (((n + 1 : Nat) : Int) = 0) := by omega
  simp only [asInt, asIntOf, hts, hmax, Sem.run_bind, Sem.run_pure, Result.andThen_ok, h1, h2, h3, if_false, Int.toNat_natCast, elemOf, run_underlying hp, variablesAt]
  simp [hsh, hlies, hlb]

theorem sim_ustr (r : RelH P ro w0 f g h w) {c : Call} (ho : o.op = .call c) (hc : c.callee = .builtin .unsafeString) (hargs : ∀ x ∈ c.args, ρc x = ren f g (ρ x) ∧ okV ro h (ρ x))
    {v : Value} {h' : H} (he : effUStr P ro h c.argTypes.toList (c.args.toList.map ρ) = some (v, h')) : SimE P ro w0 f g h w (execOp ρc o) v h' := by
  unfold effUStr at he
  split at he
  · rename_i pt tr a k n hts has
    have h0 : c.argTypes[0]? = some pt := by rw [← Array.getElem?_toList, hts]; rfl
    have hrun := builtin_run (P := P) (w := w) (ρc := ρc) (k := Builtin.unsafeString_) ho hc (fun _ _ _ _ => rfl)
    have hal : c.args.map ρc = #[.pointer (some (adr f a)), .int k ((n + 1 : Nat) : Int)] := by
      apply Array.ext'
      rw [Array.toList_map]
      have : c.args.toList.map ρc = (c.args.toList.map ρ).map (ren f g) := by
        rw [List.map_map]; exact List.map_congr_left fun x hx => (hargs x (Array.mem_def.2 hx)).1
      rw [this, has]
      simp [ren_pointer, ren_int]
    split at he
    · rename_i e' cs e l hu hget hl
      split at he
      · rename_i bs hlies hb hro hn
        have hro := Nat.le_of_ble_eq_true hro
        have hn := Nat.le_of_ble_eq_true hn
        simp only [Option.some.injEq, Prod.mk.injEq] at he
        obtain ⟨rfl, rfl⟩ := he
        obtain ⟨ns, rfl, rfl⟩ := bytesOf_map l bs hb
        obtain ⟨fz, hw, hz⟩ := r.row a.block cs e hget
        have hsh : w.shape? (adr f a).block = some (e, cs.length) := by
          simp [World.shape?, adr, hw]
        have hcell := r.loaded hl
        rw [ints_ren] at hcell
        have hlen : ns.length = n + 1 := by have := ldN_length hl; simpa using this
        have hu2 := ustr_run (w := w) (p := P) (ty := o.type) hu hsh hlies hlen hn k hcell c.argTypes h0
        have hne : ¬ (n + 1 = 0) := by omega
        refine ⟨f, g, w.freeze (adr f a) (n + 1), .inl ?_, ?_, Agree.refl .., okStr _⟩
        · rw [hrun, hal, hu2, ren_string]; rfl
        · have hfr : (w.freeze (adr f a) (n + 1)).heap = w.heap.modify (f a.block) (fun
              | .cells c elem (lo, hi) => .cells c elem (if lo == hi then (a.off, a.off + (n + 1)) else (min lo a.off, max hi (a.off + (n + 1))))
              | o => o) := by
            simp only [World.freeze, hne, if_false]; rfl
          obtain ⟨x, hx⟩ : ∃ x, (w.freeze (adr f a) (n + 1)).heap[f a.block]? = some x := by
            rw [hfr, Array.getElem?_modify, if_pos rfl, hw]; exact ⟨_, rfl⟩
          have hwr : Wr w (w.freeze (adr f a) (n + 1)) (f a.block) :=
            ⟨by simp [World.freeze], by simp [World.freeze], by simp [World.freeze], by rw [hfr]; simp, fun i hi => by rw [hfr, Array.getElem?_modify, if_neg (fun e => hi e.symm)]⟩
          exact r.turn hro hget (by simp) hwr x hx (.inl rfl) (fun c e hc => by simp at hc)
      · simp at he
    · simp at he
  · simp at he

theorem bytesOf_spec : ∀ (l : List Value) (bs : List UInt8), bytesOf l = some bs → bs.length = l.length
  | [], bs, h => by simp only [bytesOf, Option.some.injEq] at h; subst h; rfl
  | v :: l, bs, h => by
    unfold bytesOf at h
    split at h
    · rename_i b r hb hr
      simp only [Option.some.injEq] at h; subst h
      rw [List.length_cons, List.length_cons, bytesOf_spec l r hr]
    · simp at h

end
end Go.Ev

namespace Go.Ev

structure Fresh (h : H) : Prop where
  none : ∀ b, h.nx ≤ b → h.get b = none
  lim : h.nx ≤ LIM

theorem Fresh.lt {h : H} (hf : Fresh h) {b : Nat} {o : AO} (hb : h.get b = some o) : b < h.nx := by
  rcases Nat.lt_or_ge b h.nx with h1 | h1
  · exact h1
  · rw [hf.none b h1] at hb; simp at hb

structure Fwd (h h' : H) : Prop where
  fresh : Fresh h'
  nx : h.nx ≤ h'.nx
  same : ∀ b, b < h.nx → (h'.get b).isSome = (h.get b).isSome

theorem Fwd.refl {h : H} (hf : Fresh h) : Fwd h h := ⟨hf, Nat.le_refl _, fun _ _ => rfl⟩
theorem Fwd.trans {a b c : H} (x : Fwd a b) (y : Fwd b c) : Fwd a c := ⟨y.fresh, Nat.le_trans x.nx y.nx, fun i hi => (y.same i (Nat.lt_of_lt_of_le hi x.nx)).trans (x.same i hi)⟩

theorem Fwd.dom {ro : Nat} {h h' : H} (x : Fwd h h') (hf : Fresh h) (b : Nat) (hb : dom ro h b) : dom ro h' b := by
  rcases hb with hb | hb
  · exact .inl hb
  · refine .inr ?_
    obtain ⟨o, ho⟩ := Option.isSome_iff_exists.1 hb
    rw [x.same b (hf.lt ho)]; exact hb

/-- a known block written -/
theorem fwd_put {h : H} (hf : Fresh h) {b : Nat} {o : AO} (x : AO) (hb : h.get b = some o) : Fwd h (h.put b x) := by
  have hlt := hf.lt hb
  have hl := Nat.lt_of_lt_of_le hlt hf.lim
  refine ⟨⟨fun i hi => ?_, hf.lim⟩, Nat.le_refl _, fun i _ => ?_⟩
  · rw [H.get_put_other hl _ (show i ≠ b from fun e => by subst e; exact absurd hi (Nat.not_le.2 hlt))]
    exact hf.none i hi
  · rw [H.get_put hl]
    split
    · rename_i e; subst e; rw [hb]; rfl
    · rfl

/-- a new block -/
theorem fwd_new {h : H} (hf : Fresh h) (hl : h.nx < LIM) (x : AO) : Fwd h { h.put h.nx x with nx := h.nx + 1 } := by
  refine ⟨⟨fun i hi => ?_, hl⟩, Nat.le_succ _, fun i hi => ?_⟩
  · show (h.put h.nx x).get i = none
    have hi : h.nx + 1 ≤ i := hi
    rw [H.get_put_other hl _ (by omega)]
    exact hf.none i (by omega)
  · show ((h.put h.nx x).get i).isSome = _
    rw [H.get_put_other hl _ (by omega)]

/-- what h knows, h1 knows -/
def Mono (h h1 : H) : Prop := ∀ b o, h.get b = some o → h1.get b = some o

theorem mono_put {h : H} {nm : Nat} (ob : AO) (hl : nm < LIM) (hn : h.get nm = none) : Mono h (h.put nm ob) := fun b o hb => by
  rw [H.get_put_other hl _ (fun e => by subst e; rw [hn] at hb; simp at hb)]; exact hb

section
variable {P : Program} {h h1 : H}

theorem rowOf_mono (hm : Mono h h1) {b : Nat} {r : List Value × TypeId} (hr : rowOf h b = some r) : rowOf h1 b = some r := by
  obtain ⟨c, e⟩ := r
  rcases rowOf_some hr with hb | hb <;> simp [rowOf, hm _ _ hb]

theorem ldN_mono (hm : Mono h h1) {a : Addr} {n : Nat} {l : List Value} (hl : ldN h a n = some l) : ldN h1 a n = some l := by
  unfold ldN at hl ⊢
  split at hl
  · simp at hl
  · rename_i hs
    split at hl
    · rename_i c e hr
      rw [rowOf_mono hm hr]
      exact hl
    · simp at hl

theorem evLoad_mono (hm : Mono h h1) {t : TypeId} {a : Addr} {v : Value} (he : evLoad P h t a = some v) : evLoad P h1 t a = some v := by
  unfold evLoad at he ⊢
  split at he
  · split at he
    · rename_i n hn
      split at he
      · rename_i l hl
        simp only [ldN_mono hm hl]; exact he
      · simp at he
    · simp at he
  · split at he
    · rename_i v' hl
      simp only [ldN_mono hm hl]; exact he
    · simp at he
  · simp at he

theorem evSlice_mono (hm : Mono h h1) {t : TypeId} {x : Value} {lo hi mx : Option Value} {v : Value} (he : evSlice P h t x lo hi mx = some v) : evSlice P h1 t x lo hi mx = some v := by
  unfold evSlice at he ⊢
  split at he
  · exact he
  · split at he
    · simp at he
    · split at he
      · exact he
      · split at he
        · rename_i c e' b hg hbd
          simp only [hm _ _ hg, hbd]; exact he
        · simp at he
  · simp at he

theorem neConv_mono (hm : Mono h h1) {nm : Nat} {o : Oper} {ρ : Operand → Value} {src dst : TypeId} {x : Value} {r : Value × Option AO} (he : neConv P nm h o ρ src dst x = some r) : neConv P nm h1 o ρ src dst x = some r := by
  unfold neConv at he ⊢
  split at he
  · exact he
  · rename_i e a len c h1' h2 
    unfold neConvB at he ⊢
    split at he
    · rename_i l hu hl
      simp only [hu, ldN_mono hm hl]; exact he
    · simp at he
  · exact he
  · exact he

theorem evNE_mono (hm : Mono h h1) {nm : Nat} {o : Oper} {ρ : Operand → Value} {r : Value × Option AO} (he : evNE P nm h o ρ = some r) : evNE P nm h1 o ρ = some r := by
  cases hop : o.op <;> simp only [evNE, hop] at he ⊢ <;> try exact he
  · rename_i t a
    unfold neLoad at he ⊢
    split at he
    · unfold val1 at he ⊢
      split at he
      · rename_i v hv
        simp only [evLoad_mono hm hv]; exact he
      · simp at he
    · simp at he
  · exact neConv_mono hm he
  · rename_i t x lo hi mx
    unfold neSlice at he ⊢
    split at he
    · exact he
    · exact he
    · rename_i x' hx1 hx2
      unfold val1 at he ⊢
      split at he
      · rename_i v hv
        simp only [evSlice_mono hm hv]; exact he
      · simp at he

/-- of values alone: memory does not matter -/
theorem evNE_free {o : Oper} (h h1 : H) (hc : cls P o = 0 ∨ cls P o = 2) (nm : Nat) (ρ : Operand → Value) : evNE P nm h o ρ = evNE P nm h1 o ρ := by
  cases hop : o.op <;> simp only [evNE, hop] <;> simp only [cls, hop] at hc <;> try (exfalso; simp at hc; done)
  rename_i src dst x
  unfold neConv
  split
  · rfl
  · rename_i e a len c h1' h2' h3'
    simp [h1', h2'] at hc
  · rfl
  · rfl

/-- a read makes nothing, and its number does not matter -/
theorem evNE_read {o : Oper} (hc : cls P o = 1) {nm : Nat} (nm' : Nat) {ρ : Operand → Value} {v : Value} {ob : Option AO} (he : evNE P nm h o ρ = some (v, ob)) : ob = none ∧ evNE P nm' h o ρ = some (v, none) := by
  have val : ∀ {x : Option Value}, val1 x = some (v, ob) → ob = none := by
    intro x hx
    unfold val1 at hx
    split at hx
    · simp only [Option.some.injEq, Prod.mk.injEq] at hx; exact hx.2.symm
    · simp at hx
  cases hop : o.op <;> simp only [cls, hop] at hc <;> simp only [evNE, hop] at he ⊢ <;> try (exfalso; simp at hc; done)
  · have : ob = none := by
      unfold neLoad at he
      split at he
      · exact val he
      · simp at he
    subst this; exact ⟨rfl, he⟩
  · unfold neConv at he ⊢
    split at he
    · rename_i e s h1' h2' h3'
      simp [h1', h2'] at hc
    · have : ob = none := by
        unfold neConvB at he
        split at he
        · split at he
          · simp only [Option.some.injEq, Prod.mk.injEq] at he; exact he.2.symm
          · simp at he
        · simp at he
      subst this; exact ⟨rfl, he⟩
    · have : ob = none := by simp only [Option.some.injEq, Prod.mk.injEq] at he; exact he.2.symm
      subst this; exact ⟨rfl, he⟩
    · have : ob = none := val he
      subst this; exact ⟨rfl, he⟩
  · have : ob = none := by
      unfold neSlice at he
      split at he
      · split at he
        · unfold neSliceS at he
          split at he
          · split at he
            · simp only [Option.some.injEq, Prod.mk.injEq] at he; exact he.2.symm
            · simp at he
          · simp at he
        · simp at he
      · exact val he
      · exact val he
    subst this; exact ⟨rfl, he⟩
  · exfalso
    revert hc
    split <;> simp
end
end Go.Ev

namespace Go.Ev

def EffOk (F : H → Option (Value × H)) : Prop :=
  ∀ h v h', Fresh h → F h = some (v, h') → Fwd h h' ∧ ∀ nm ob, nm < h.nx → h.get nm = none → F (h.put nm ob) = some (v, h'.put nm ob)

theorem nm_lim {h : H} (hf : Fresh h) {nm : Nat} (hn : nm < h.nx) : nm < LIM := Nat.lt_of_lt_of_le hn hf.lim

theorem get_away {h : H} {nm b : Nat} {o : AO} (hn : h.get nm = none) (hb : h.get b = some o) : b ≠ nm := fun e => by subst e; rw [hn] at hb; simp at hb

section
variable {P : Program} {ro : Nat} {h : H}

theorem put_ok {b : Nat} {o : AO} (hf : Fresh h) (hb : h.get b = some o) (x : AO) : Fwd h (h.put b x) ∧ ∀ nm ob, nm < h.nx → h.get nm = none → (h.put nm ob).get b = some o ∧ (h.put nm ob).put b x = (h.put b x).put nm ob :=
  ⟨fwd_put hf x hb, fun _ ob hn hg => ⟨mono_put ob (nm_lim hf hn) hg _ _ hb, put_swap h ob x (fun e => get_away hg hb e.symm)⟩⟩

theorem stN_ok {a : Addr} {l : List Value} {h' : H} (hf : Fresh h) (hs : stN ro h a l = some h') : Fwd h h' ∧ ∀ nm ob, nm < h.nx → h.get nm = none → stN ro (h.put nm ob) a l = some (h'.put nm ob) := by
  obtain ⟨hsp, hro, h1, c, e, hlen, hcase⟩ := stN_some hs
  rcases hcase with ⟨hg, rfl⟩ | ⟨hg, rfl⟩
  · obtain ⟨k1, k2⟩ := put_ok hf hg (.cells (splice c a.off l) e)
    refine ⟨k1, fun nm ob hn hgn => ?_⟩
    obtain ⟨q1, q2⟩ := k2 nm ob hn hgn
    unfold stN
    simp only [hsp, Nat.ble_eq_true_of_le hro, h1, q1, Nat.ble_eq_true_of_le hlen, q2]
  · obtain ⟨k1, k2⟩ := put_ok hf hg (.grow (splice c a.off l) e)
    refine ⟨k1, fun nm ob hn hgn => ?_⟩
    obtain ⟨q1, q2⟩ := k2 nm ob hn hgn
    unfold stN
    simp only [hsp, Nat.ble_eq_true_of_le hro, h1, q1, Nat.ble_eq_true_of_le hlen, q2]

theorem evStore_ok {t : TypeId} {a : Addr} {x : Value} {h' : H} (hf : Fresh h) (hst : evStore P ro h t a x = some h') : Fwd h h' ∧ ∀ nm ob, nm < h.nx → h.get nm = none → evStore P ro (h.put nm ob) t a x = some (h'.put nm ob) := by
  unfold evStore at hst ⊢
  split at hst
  · split at hst
    · exact stN_ok hf hst
    · simp at hst
  · simp at hst

theorem store_ok (t : TypeId) (a x : Value) : EffOk fun h => effStore P ro h t a x := by
  intro h v h' hf he
  simp only [effStore] at he ⊢
  split at he
  · rename_i ad
    split at he
    · rename_i h1 hst
      simp only [Option.some.injEq, Prod.mk.injEq] at he
      obtain ⟨rfl, rfl⟩ := he
      obtain ⟨k1, k2⟩ := evStore_ok hf hst
      refine ⟨k1, fun nm ob h1 h2 => ?_⟩
      simp only [k2 nm ob h1 h2]
    · simp at he
  · simp at he

theorem next_ok (it : Value) : EffOk fun h => effNext ro h it := by
  intro h v h' hf he
  simp only [effNext] at he ⊢
  split at he
  · rename_i b
    split at he
    · rename_i s pos hro hg
      split at he
      · rename_i hp
        simp only [Option.some.injEq, Prod.mk.injEq] at he
        obtain ⟨rfl, rfl⟩ := he
        obtain ⟨k1, k2⟩ := put_ok hf hg (.iter s (pos + (Utf8.decode s pos).2))
        refine ⟨k1, fun nm ob h1 h2 => ?_⟩
        obtain ⟨q1, q2⟩ := k2 nm ob h1 h2
        simp only [hro, q1, hp, q2]
      · rename_i hp
        simp only [Option.some.injEq, Prod.mk.injEq] at he
        obtain ⟨rfl, rfl⟩ := he
        refine ⟨Fwd.refl hf, fun nm ob h1 h2 => ?_⟩
        simp only [hro, mono_put ob (nm_lim hf h1) h2 _ _ hg, hp]
    · simp at he
  · simp at he

theorem copy_ok (ts : List TypeId) (args : List Value) : EffOk fun h => evCopy P ro h ts args := by
  intro h v h' hf he
  simp only [evCopy] at he ⊢
  split at he
  · split at he
    · rename_i e hu
      split at he
      · rename_i size a dl dc hsz
        unfold cpGo at he ⊢
        split at he
        · rename_i b n c
          split at he
          · rename_i l hl
            split at he
            · rename_i h1 hst
              simp only [Option.some.injEq, Prod.mk.injEq] at he
              obtain ⟨rfl, rfl⟩ := he
              obtain ⟨k1, k2⟩ := stN_ok hf hst
              refine ⟨k1, fun nm ob h1 h2 => ?_⟩
              simp only [ldN_mono (mono_put ob (nm_lim hf h1) h2) hl, k2 nm ob h1 h2]
            · simp at he
          · simp at he
        · split at he
          · rename_i h1 hst
            simp only [Option.some.injEq, Prod.mk.injEq] at he
            obtain ⟨rfl, rfl⟩ := he
            obtain ⟨k1, k2⟩ := stN_ok hf hst
            refine ⟨k1, fun nm ob h1 h2 => ?_⟩
            simp only [k2 nm ob h1 h2]
          · simp at he
        · simp at he
      · simp at he
    · simp at he
  · simp at he

theorem ustr_ok (ts : List TypeId) (args : List Value) : EffOk fun h => effUStr P ro h ts args := by
  intro h v h' hf he
  simp only [effUStr] at he ⊢
  split at he
  · split at he
    · rename_i hu hg hl
      split at he
      · rename_i bs h1 h2 h3 h4
        simp only [Option.some.injEq, Prod.mk.injEq] at he
        obtain ⟨rfl, rfl⟩ := he
        obtain ⟨k1, k2⟩ := put_ok hf hg .dead
        refine ⟨k1, fun nm ob g1 g2 => ?_⟩
        obtain ⟨q1, q2⟩ := k2 nm ob g1 g2
        simp only [hu, q1, ldN_mono (mono_put ob (nm_lim hf g1) g2) hl, h1, h2, h3, h4, q2]
      · simp at he
    · simp at he
  · simp at he

/-- a new row -/
theorem apNew_ok {e : TypeId} {n : Nat} {cs : List Value} (hf : Fresh h) (hl : h.nx < LIM) {v : Value} {h' : H} (he : apNew h e n cs = some (v, h')) :
    Fwd h h' ∧ ∀ nm ob, nm < h.nx → h.get nm = none → apNew (h.put nm ob) e n cs = some (v, h'.put nm ob) := by
  unfold apNew at he ⊢
  simp only [Option.some.injEq, Prod.mk.injEq] at he
  obtain ⟨rfl, rfl⟩ := he
  refine ⟨fwd_new hf hl _, fun nm ob h1 h2 => ?_⟩
  have hne : nm ≠ h.nx := by omega
  have := put_swap h ob (.grow cs e) hne
  show some (_, ({ (h.put nm ob).put h.nx (.grow cs e) with nx := h.nx + 1 } : H)) = _
  rw [this]
  rfl

theorem srcOf_mono {h1 : H} (hm : Mono h h1) {size : Nat} {x : Value} {r : Nat × List Value} (hs : srcOf h size x = some r) : srcOf h1 size x = some r := by
  unfold srcOf at hs ⊢
  split at hs
  · exact hs
  · split at hs
    · rename_i l hl
      simp only [ldN_mono hm hl]; exact hs
    · simp at hs
  · exact hs
  · simp at hs

theorem apKnown_ok {e : TypeId} {size n len cap : Nat} {new : List Value} {a : Addr} (hf : Fresh h) (hl : h.nx < LIM) {v : Value} {h' : H} (he : apKnown ro h e size n new a len cap = some (v, h')) :
    Fwd h h' ∧ ∀ nm ob, nm < h.nx → h.get nm = none → apKnown ro (h.put nm ob) e size n new a len cap = some (v, h'.put nm ob) := by
  unfold apKnown at he ⊢
  split at he
  · split at he
    · rename_i h1 hst
      simp only [Option.some.injEq, Prod.mk.injEq] at he
      obtain ⟨rfl, rfl⟩ := he
      obtain ⟨k1, k2⟩ := stN_ok hf hst
      refine ⟨k1, fun nm ob g1 g2 => ?_⟩
      simp only [k2 nm ob g1 g2]
    · simp at he
  · split at he
    · rename_i old hold hlc
      obtain ⟨k1, k2⟩ := apNew_ok hf hl he
      refine ⟨k1, fun nm ob g1 g2 => ?_⟩
      simp only [ldN_mono (mono_put ob (nm_lim hf g1) g2) hold, hlc]
      exact k2 nm ob g1 g2
    · simp at he

theorem apBig_ok {e : TypeId} {size n len cap : Nat} {new : List Value} {a : Addr} (hf : Fresh h) (hl : h.nx < LIM) {v : Value} {h' : H} (he : apBig ro h e size n new a len cap = some (v, h')) :
    Fwd h h' ∧ ∀ nm ob, nm < h.nx → h.get nm = none → apBig ro (h.put nm ob) e size n new a len cap = some (v, h'.put nm ob) := by
  unfold apBig at he ⊢
  split at he
  · rename_i c e' hg hs
    have hmono : ∀ nm ob, nm < h.nx → h.get nm = none → (h.put nm ob).get a.block = some (.grow c e') := fun nm ob g1 g2 => mono_put ob (nm_lim hf g1) g2 _ _ hg
    split at he
    · rename_i hc
      split at he
      · rename_i _ hn0
        simp only [Option.some.injEq, Prod.mk.injEq] at he
        obtain ⟨rfl, rfl⟩ := he
        refine ⟨Fwd.refl hf, fun nm ob g1 g2 => ?_⟩
        simp only [hmono nm ob g1 g2, hs, hc]
      · rename_i m
        split at he
        · rename_i hc2
          simp only [Option.some.injEq, Prod.mk.injEq] at he
          obtain ⟨rfl, rfl⟩ := he
          have hab : h.nx ≠ a.block := fun e1 => by have := hf.lt hg; omega
          have hlt := hf.lt hg
          constructor
          · have f1 := fwd_new hf hl (.grow (c.take (len * size) ++ new) e)
            have hg1 : ({ h.put h.nx (.grow (c.take (len * size) ++ new) e) with nx := h.nx + 1 } : H).get a.block = some (.grow c e') := by
              show (h.put h.nx _).get a.block = _
              rw [H.get_put_other hl _ (fun e1 => hab e1.symm)]; exact hg
            exact f1.trans (fwd_put f1.fresh .dead hg1)
          · intro nm ob g1 g2
            simp only [hmono nm ob g1 g2, hs, hc]
            have n1 : nm ≠ h.nx := by omega
            have n2 : nm ≠ a.block := fun e1 => get_away g2 hg e1.symm
            have e1 := put_swap h ob (.grow (c.take (len * size) ++ new) e) n1
            have e2 := put_swap (h.put h.nx (.grow (c.take (len * size) ++ new) e)) ob .dead n2
            show some (_, ({ ((h.put nm ob).put h.nx (.grow (c.take (len * size) ++ new) e)).put a.block .dead with nx := h.nx + 1 } : H)) = _
            rw [e1, e2]
            rfl
        · simp at he
    · simp at he
  · simp at he

theorem append_ok (ts : List TypeId) (args : List Value) : EffOk fun h => evAppend P ro h ts args := by
  intro h v h' hf he
  simp only [evAppend] at he ⊢
  split at he
  · rename_i st xt tr s x ar
    split at he
    · simp at he
    · rename_i e d hnd hu hxu
      split at he
      · rename_i i hi
        split at he
        · rename_i n new hsrc
          split at he
          · rename_i hap
            obtain ⟨z, ap⟩ := apOk_some hap
            have hl := ap.nx
            have hap2 : ∀ nm ob, apOk (h.put nm ob) i n new = true := fun nm ob => hap
            have hsrc2 : ∀ nm ob, nm < h.nx → h.get nm = none → srcOf (h.put nm ob) i.size x = some (n, new) := fun nm ob g1 g2 => srcOf_mono (mono_put ob (nm_lim hf g1) g2) hsrc
            suffices HH : Fwd h h' ∧ ∀ nm ob, nm < h.nx → h.get nm = none → apGo ro (h.put nm ob) e i.size n new s = some (v, h'.put nm ob) by
              refine ⟨HH.1, fun nm ob g1 g2 => ?_⟩
              simp only [hsrc2 nm ob g1 g2, hap2 nm ob]
              exact HH.2 nm ob g1 g2
            unfold apGo at he ⊢
            split at he
            · split at he
              · simp only [Option.some.injEq, Prod.mk.injEq] at he
                obtain ⟨rfl, rfl⟩ := he
                exact ⟨Fwd.refl hf, fun nm ob _ _ => rfl⟩
              · exact apNew_ok hf hl he
            · split at he
              · exact apKnown_ok hf hl he
              · exact apBig_ok hf hl he
              · simp at he
            · simp at he
          · simp at he
        · simp at he
      · simp at he
    · simp at he
  · simp at he

theorem call_ok {call : FuncId → List Value → H → Option (Value × H)} (hcall : ∀ f args, EffOk (call f args)) (o : Oper) (ρ : Operand → Value) (x : Value) (args : List Value) : EffOk fun h => effCall P call h o ρ x args := by
  intro h v h' hf he
  simp only [effCall] at he ⊢
  split at he
  · rename_i f first cap
    split at he
    · rename_i fn hfn
      split at he
      · rename_i hb
        split at he
        · simp at he
        · rename_i hng
          have := hcall f _ h v h' hf he
          refine ⟨this.1, fun nm ob g1 g2 => ?_⟩
          exact this.2 nm ob g1 g2
      · rename_i hb
        split at he
        · rename_i u hu
          simp only [Option.some.injEq, Prod.mk.injEq] at he
          obtain ⟨rfl, rfl⟩ := he
          exact ⟨Fwd.refl hf, fun nm ob _ _ => rfl⟩
        · simp at he
    · simp at he
  · simp at he

theorem evEff_ok {call : FuncId → List Value → H → Option (Value × H)} (hcall : ∀ f args, EffOk (call f args)) (o : Oper) (ρ : Operand → Value) : EffOk fun h => evEff P ro call h o ρ := by
  intro h v h' hf he
  simp only [evEff] at he ⊢
  split at he
  · exact store_ok _ _ _ h v h' hf he
  · exact next_ok _ h v h' hf he
  · rename_i c hop
    split at he
    · exact append_ok _ _ h v h' hf he
    · exact copy_ok _ _ h v h' hf he
    · exact ustr_ok _ _ h v h' hf he
    · exact call_ok hcall o ρ _ _ h v h' hf he
    · simp at he
  · simp at he

end
end Go.Ev

namespace Go.Ev

section
variable {P : Program} {ro : Nat} {call : FuncId → List Value → H → Option (Value × H)} {ops : Array Oper} {base : Nat}

noncomputable def stepVal (P : Program) (ro : Nat) (call : FuncId → List Value → H → Option (Value × H)) (ops : Array Oper) (nm : Nat) (o : Oper) (fr : T Value) (h : H) : Option (Value × H) :=
  match wantV ops o fr with
  | false => some (undef, h)
  | true => match cls P o with
    | 3 => evEff P ro call h o (opd fr)
    | _ => match evNE P nm h o (opd fr) with
      | some (v, ob) => some (v, putO h nm ob)
      | none => none

theorem step1_eq (i : Nat) (o : Oper) (s : St) : step1 P ro call ops base i o s = match stepVal P ro call ops (base + i) o s.fr s.h with | some (v, h') => putD { s with h := h' } o.dst v | none => none := by
  unfold step1 stepVal
  cases wantV ops o s.fr with
  | false => rfl
  | true =>
    simp only
    by_cases hc : cls P o = 3
    · rw [hc]; rfl
    · split
      · rename_i h3; exact absurd h3 hc
      · split
        · rename_i h2
          simp only [h2]; rfl
        · rename_i h2
          simp only [h2]; rfl
        · rename_i h2
          simp only [h2]

theorem evFlat_congr {o : Oper} (hs : ∀ cs b, o.op ≠ .select cs b) {ρ ρ' : Operand → Value} (h : ∀ x ∈ o.op.operands, ρ x = ρ' x) : evFlat P o ρ = evFlat P o ρ' := by
  unfold evFlat
  rw [execOp_congr o hs h]
  have : o.op.operands.toList.all (fun x => flat (ρ x)) = o.op.operands.toList.all (fun x => flat (ρ' x)) := by
    rw [Bool.eq_iff_iff, List.all_eq_true, List.all_eq_true]
    constructor
    · intro hh x hx; rw [← h x (Array.mem_def.2 hx)]; exact hh x hx
    · intro hh x hx; rw [h x (Array.mem_def.2 hx)]; exact hh x hx
  rw [this]

theorem parts_congr {ps : Array (Nat × Operand)} {ρ ρ' : Operand → Value} (h : ∀ p ∈ ps, ρ p.2 = ρ' p.2) : ps.toList.map (fun (j, x) => (j, ρ x)) = ps.toList.map (fun (j, x) => (j, ρ' x)) :=
  List.map_congr_left fun p hp => by
    show (p.1, ρ p.2) = (p.1, ρ' p.2)
    rw [h p (Array.mem_def.2 hp)]

theorem evNE_congr {o : Oper} (hs : ∀ cs b, o.op ≠ .select cs b) {ρ ρ' : Operand → Value} (h : ∀ x ∈ o.op.operands, ρ x = ρ' x) (nm : Nat) (hp : H) : evNE P nm hp o ρ = evNE P nm hp o ρ' := by
  have hflat : neFlat P o ρ = neFlat P o ρ' := by unfold neFlat; rw [evFlat_congr hs h]
  have opt : ∀ y : Option Operand, (∀ z, y = some z → z ∈ o.op.operands) → y.map ρ = y.map ρ' := by
    intro y hy
    cases y with
    | none => rfl
    | some z => simp [h z (hy z rfl)]
  have arr : ∀ a : Array Operand, (∀ z ∈ a, z ∈ o.op.operands) → a.map ρ = a.map ρ' := fun a ha => Array.map_congr_left fun z hz => h z (ha z hz)
  unfold evNE
  split
  · rename_i x ho; rw [h x (by rw [ho]; simp [Op.operands])]
  · rename_i x ho; rw [h x (by rw [ho]; simp [Op.operands])]
  · rename_i c a b ho; rw [h c (by rw [ho]; simp [Op.operands]), h a (by rw [ho]; simp [Op.operands]), h b (by rw [ho]; simp [Op.operands])]
  · rfl
  · rename_i e x ho; rw [h x (by rw [ho]; simp [Op.operands])]
  · rename_i t q ho
    rw [parts_congr fun p hp => h p.2 (by rw [ho]; simp only [Op.operands, List.mem_toArray, List.mem_map]; exact ⟨p, Array.mem_def.1 hp, rfl⟩)]
  · rename_i t len q ho
    rw [parts_congr fun p hp => h p.2 (by rw [ho]; simp only [Op.operands, List.mem_toArray, List.mem_map]; exact ⟨p, Array.mem_def.1 hp, rfl⟩)]
  · rename_i t x ho; rw [h x (by rw [ho]; simp [Op.operands])]
  · rename_i x ho; rw [h x (by rw [ho]; simp [Op.operands])]
  · rename_i op t x y yt ho
    rw [h x (by rw [ho]; simp [Op.operands]), h y (by rw [ho]; simp [Op.operands])]
    unfold neBin neBin2; rw [hflat]
  · rename_i op t x ho
    rw [h x (by rw [ho]; simp [Op.operands])]
    unfold neUn; rw [hflat]
  · rename_i src dst x ho
    rw [h x (by rw [ho]; simp [Op.operands])]
    unfold neConv; rw [hflat]
  · rename_i arr x ho; rw [h x (by rw [ho]; simp [Op.operands])]
  · rename_i t x ho; rw [h x (by rw [ho]; simp [Op.operands])]
  · rename_i fn a b ho
    rw [arr a (fun z hz => by rw [ho]; simp [Op.operands, hz]), arr b (fun z hz => by rw [ho]; simp [Op.operands, hz])]
  · rename_i t l c ho; rw [h l (by rw [ho]; simp [Op.operands]), h c (by rw [ho]; simp [Op.operands])]
  · rename_i t x lo hi mx ho
    rw [h x (by rw [ho]; simp [Op.operands]), opt lo (by rintro z rfl; rw [ho]; simp [Op.operands]), opt hi (by rintro z rfl; rw [ho]; simp [Op.operands]), opt mx (by rintro z rfl; rw [ho]; simp [Op.operands])]
    unfold neSlice; rw [hflat]
  · rename_i s x j ho; rw [h x (by rw [ho]; simp [Op.operands])]
  · rename_i t x j ho; rw [h x (by rw [ho]; simp [Op.operands])]
  · rename_i t x i ho; rw [h x (by rw [ho]; simp [Op.operands]), h i (by rw [ho]; simp [Op.operands])]
  · rename_i t x i ho
    rw [h x (by rw [ho]; simp [Op.operands]), h i (by rw [ho]; simp [Op.operands])]
    unfold neIndex; rw [hflat]
  · rename_i x i ho; rw [h x (by rw [ho]; simp [Op.operands])]
  · rename_i t x ho; rw [h x (by rw [ho]; simp [Op.operands])]
  · rename_i c ho
    unfold neCall
    have hargs : ∀ x ∈ c.args.toList, ρ x = ρ' x := fun x hx => h x (by rw [ho]; simp [Op.operands, Call.operands, Array.mem_def.2 hx])
    split
    · unfold neLen
      split
      · rename_i x ar t ts ha ht
        rw [hargs x (by rw [ha]; simp), hflat]
      · rfl
    · unfold neCap
      split
      · rename_i x ar t ts ha ht
        rw [hargs x (by rw [ha]; simp), hflat]
      · rfl
    · exact hflat
  · exact hflat

theorem evEff_congr {o : Oper} (hs : ∀ cs b, o.op ≠ .select cs b) {ρ ρ' : Operand → Value} (h : ∀ x ∈ o.op.operands, ρ x = ρ' x) (hp : H) : evEff P ro call hp o ρ = evEff P ro call hp o ρ' := by
  unfold evEff
  split
  · rename_i t a x ho; rw [h a (by rw [ho]; simp [Op.operands]), h x (by rw [ho]; simp [Op.operands])]
  · rename_i it ho; rw [h it (by rw [ho]; simp [Op.operands])]
  · rename_i c ho
    have hargs : c.args.toList.map ρ = c.args.toList.map ρ' := List.map_congr_left fun x hx => h x (by rw [ho]; simp [Op.operands, Call.operands, Array.mem_def.2 hx])
    rw [hargs]
    split
    · rfl
    · rfl
    · rfl
    · rename_i x hc
      rw [h x (by rw [ho]; simp [Op.operands, Call.operands, hc])]
      unfold effCall
      rw [evFlat_congr hs h]
    · rfl
  · rfl

/-- two frames alike in what an operation looks at -/
def Alike (ops : Array Oper) (o : Oper) (fr fr' : T Value) : Prop := ∀ t ∈ o.looksAt ops, opd fr (.tmp t) = opd fr' (.tmp t)

theorem Alike.opds {o : Oper} {fr fr' : T Value} (h : Alike ops o fr fr') : ∀ x ∈ o.op.operands, opd fr x = opd fr' x := by
  intro x hx
  cases x with
  | tmp t =>
    refine h t ?_
    exact List.mem_append_left _ (List.mem_filterMap.2 ⟨.tmp t, by simpa using hx, rfl⟩)
  | const v => rfl
  | global g => rfl
  | func f => rfl

theorem Alike.want {o : Oper} {fr fr' : T Value} (h : Alike ops o fr fr') : wantV ops o fr = wantV ops o fr' := by
  unfold wantV
  split
  · rfl
  · rename_i j w hg
    have : yieldV ops fr j = yieldV ops fr' j := by
      unfold yieldV
      split
      · rename_i t ht
        have hl : t ∈ o.looksAt ops := by
          unfold Oper.looksAt
          rw [hg]
          exact List.mem_append_right _ (by simp [ht])
        rw [h t hl]
      · rfl
    rw [this]

theorem stepVal_congr {o : Oper} (hs : ∀ cs b, o.op ≠ .select cs b) {fr fr' : T Value} (h : Alike ops o fr fr') (nm : Nat) (hp : H) : stepVal P ro call ops nm o fr hp = stepVal P ro call ops nm o fr' hp := by
  unfold stepVal
  rw [h.want, evNE_congr hs h.opds, evEff_congr hs h.opds]

end
end Go.Ev

namespace Go.Ev

theorem veqN_eq : ∀ (d : Nat) (a b : Value), veqN d a b = true → a = b := by
  intro d
  induction d with
  | zero => intro a b h; simp [veqN] at h
  | succ d ih =>
    have many : ∀ xs ys : List Value, veqN.veqL d xs ys = true → xs = ys := by
      intro xs
      induction xs with
      | nil => intro ys h; cases ys with | nil => rfl | cons y ys => simp [veqN.veqL] at h
      | cons x xs ihx =>
        intro ys h
        cases ys with
        | nil => simp [veqN.veqL] at h
        | cons y ys =>
          simp only [veqN.veqL, Bool.and_eq_true] at h
          rw [ih x y h.1, ihx ys h.2]
    intro a b h
    unfold veqN at h
    split at h
    · simp at h; rw [h]
    · simp only [Bool.and_eq_true, decide_eq_true_eq] at h; rw [h.1, h.2]
    · rename_i s t
      have h := of_decide_eq_true h
      have : s = t := by apply ByteArray.ext; apply Array.ext'; exact h
      rw [this]
    · rfl
    · rw [of_decide_eq_true h]
    · simp only [Bool.and_eq_true] at h; rw [Nat.eq_of_beq_eq_true h.1, Nat.eq_of_beq_eq_true h.2]
    · simp only [Bool.and_eq_true, decide_eq_true_eq] at h; rw [h.1.1, Nat.eq_of_beq_eq_true h.1.2, Nat.eq_of_beq_eq_true h.2]
    · rfl
    · rfl
    · rfl
    · rename_i xs ys
      have := many _ _ h
      congr 1; apply Array.ext'; exact this
    · rename_i xs ys
      have := many _ _ h
      congr 1; apply Array.ext'; exact this
    · simp only [Bool.and_eq_true] at h; rw [Nat.eq_of_beq_eq_true h.1, ih _ _ h.2]
    · simp at h

section
variable {P : Program} {ro : Nat} {call : FuncId → List Value → H → Option (Value × H)} {ops : Array Oper} {base : Nat}

theorem val1_none {x : Option Value} {v : Value} {ob : Option AO} (h : val1 x = some (v, ob)) : ob = none := by
  unfold val1 at h
  split at h
  · simp only [Option.some.injEq, Prod.mk.injEq] at h; exact h.2.symm
  · simp at h

theorem neFlat_none {o : Oper} {ρ : Operand → Value} {v : Value} {ob : Option AO} (h : neFlat P o ρ = some (v, ob)) : ob = none := val1_none h

/-- operations on values make nothing -/
theorem evNE_zero {o : Oper} (hc : cls P o = 0) {nm : Nat} {h : H} {ρ : Operand → Value} {v : Value} {ob : Option AO} (he : evNE P nm h o ρ = some (v, ob)) : ob = none := by
  have fin : ∀ {a : Value}, (some (a, (none : Option AO)) = some (v, ob)) → ob = none := fun h => by simp only [Option.some.injEq, Prod.mk.injEq] at h; exact h.2.symm
  cases hop : o.op <;> simp only [cls, hop] at hc <;> simp only [evNE, hop] at he <;> first
    | (exfalso; simp at hc; done)
    | exact fin he
    | exact neFlat_none he
    | skip
  all_goals first
    | (unfold nePick at he; split at he <;> first | exact fin he | simp at he)
    | (unfold neNil at he; split at he <;> first | exact fin he | simp at he)
    | (unfold neUn at he; split at he <;> first | exact fin he | exact neFlat_none he)
    | (unfold neS2A at he; split at he <;> first | (split at he <;> first | exact fin he | simp at he) | simp at he)
    | (unfold neIface at he; split at he <;> first | exact fin he | simp at he)
    | (unfold neExtract at he; split at he <;> first | (split at he <;> first | exact fin he | simp at he) | simp at he)
    | (unfold neFieldAddr at he; split at he <;> first | (split at he <;> first | (split at he <;> first | exact fin he | simp at he) | simp at he) | simp at he)
    | (unfold neField at he; split at he <;> first | (split at he <;> first | exact val1_none he | simp at he) | simp at he)
    | (unfold neIndexAddr at he; split at he <;> first | (split at he <;> first | exact fin he | simp at he) | simp at he)
    | (unfold neBuild at he; split at he <;> first | (split at he <;> first | (split at he <;> first | exact fin he | simp at he) | simp at he) | simp at he)
    | (unfold neIndex at he; split at he <;> first | exact neFlat_none he | (split at he <;> first | (split at he <;> first | exact fin he | exact val1_none he | simp at he) | simp at he))
    | (unfold neBin neBin2 neEq at he
       split at he
       · split at he
         · exact fin he
         · split at he <;> first | exact fin he | exact neFlat_none he
       · split at he <;> first | exact fin he | exact neFlat_none he
       · split at he
         · exact neFlat_none he
         · split at he <;> first | exact fin he | simp at he)
    | (unfold neConv at he
       split at he
       · rename_i h1 h2 h3; simp [h1, h2] at hc
       · rename_i h1 h2 h3; simp [h1, h2] at hc
       · exact fin he
       · exact neFlat_none he)
    | (unfold neCall neLen neCap at he
       split at he
       · split at he
         · split at he <;> first | exact fin he | exact neFlat_none he
         · simp at he
       · split at he
         · split at he
           · split at he <;> first | exact fin he | simp at he
           · exact neFlat_none he
         · simp at he
       · exact neFlat_none he)

theorem cls_le (o : Oper) : cls P o = 0 ∨ cls P o = 1 ∨ cls P o = 2 ∨ cls P o = 3 := by
  unfold cls
  split <;> try simp
  · split <;> simp
  · split <;> simp

/-- what an operation's step is -/
inductive Kind (P : Program) (ro : Nat) (call : FuncId → List Value → H → Option (Value × H)) (ops : Array Oper) (nm : Nat) (o : Oper) (fr : T Value) (h : H) (v : Value) (h' : H) : Prop where
  | free (hh : h' = h) (all : ∀ k, stepVal P ro call ops nm o fr k = some (v, k))
  | new (ob : AO) (hw : wantV ops o fr = true) (hc : cls P o = 2) (hh : h' = h.put nm ob) (all : ∀ k, stepVal P ro call ops nm o fr k = some (v, k.put nm ob))
  | read (hw : wantV ops o fr = true) (hc : cls P o = 1) (hh : h' = h) (he : evNE P 0 h o (opd fr) = some (v, none)) (all : ∀ k, evNE P 0 k o (opd fr) = some (v, none) → stepVal P ro call ops nm o fr k = some (v, k))
  | eff (hw : wantV ops o fr = true) (hc : cls P o = 3) (he : evEff P ro call h o (opd fr) = some (v, h')) (all : ∀ k, stepVal P ro call ops nm o fr k = evEff P ro call k o (opd fr))

theorem stepVal_ne {nm : Nat} {o : Oper} {fr : T Value} (hw : wantV ops o fr = true) (hc : cls P o ≠ 3) (k : H) : stepVal P ro call ops nm o fr k = match evNE P nm k o (opd fr) with | some (v, ob) => some (v, putO k nm ob) | none => none := by
  unfold stepVal
  rw [hw]
  simp only
  all_goals rfl

theorem kind {nm : Nat} {o : Oper} {fr : T Value} {h : H} {v : Value} {h' : H} (hs : stepVal P ro call ops nm o fr h = some (v, h')) : Kind P ro call ops nm o fr h v h' := by
  cases hw : wantV ops o fr with
  | false =>
    unfold stepVal at hs
    rw [hw] at hs
    simp only [Option.some.injEq, Prod.mk.injEq] at hs
    obtain ⟨rfl, rfl⟩ := hs
    exact .free rfl fun k => by unfold stepVal; rw [hw]
  | true =>
    by_cases h3 : cls P o = 3
    · have all : ∀ k, stepVal P ro call ops nm o fr k = evEff P ro call k o (opd fr) := fun k => by unfold stepVal; rw [hw]; simp only [h3]
      rw [all h] at hs
      exact .eff hw h3 hs all
    · have all := fun k => stepVal_ne (P := P) (ro := ro) (call := call) (nm := nm) hw h3 k
      rw [all h] at hs
      split at hs
      · rename_i u ob hu
        simp only [Option.some.injEq, Prod.mk.injEq] at hs
        obtain ⟨rfl, rfl⟩ := hs
        by_cases h1 : cls P o = 1
        · obtain ⟨rfl, hr⟩ := evNE_read h1 0 hu
          refine .read hw h1 rfl hr fun k hk => ?_
          rw [all k, (evNE_read h1 nm hk).2]; rfl
        · have h02 : cls P o = 0 ∨ cls P o = 2 := by rcases cls_le (P := P) o with h | h | h | h <;> simp_all
          have fr : ∀ k, evNE P nm k o (opd fr) = some (u, ob) := fun k => by rw [← hu]; exact evNE_free _ _ h02 _ _
          cases ob with
          | none => exact .free rfl fun k => by rw [all k, fr k]; rfl
          | some ob =>
            have hc : cls P o = 2 := by
              rcases h02 with h0 | h2
              · have := evNE_zero h0 hu; simp at this
              · exact h2
            exact .new ob hw hc rfl fun k => by rw [all k, fr k]; rfl
      · simp at hs

/-- the places changed: first x and then i, or first i and then x -/
theorem swap_val (hcall : ∀ f args, EffOk (call f args)) {x i : Oper} {nx ni : Nat} (hne : nx ≠ ni) {h h1 h2 : H} (hf : Fresh h) (hni : ni < h.nx) (gi : h.get ni = none) {frx fri : T Value} {vx vi : Value}
    (hx : stepVal P ro call ops nx x frx h = some (vx, h1)) (hi : stepVal P ro call ops ni i fri h1 = some (vi, h2))
    (hp : cls P i = 1 ∨ cls P i = 3 → cls P x < 2)
    (hre : wantV ops i fri = true → cls P i = 3 → wantV ops x frx = true → cls P x = 1 → ∃ u, evNE P 0 h1 x (opd frx) = some (u, none) ∧ evNE P 0 h2 x (opd frx) = some (u, none)) :
    ∃ h1', stepVal P ro call ops ni i fri h = some (vi, h1') ∧ stepVal P ro call ops nx x frx h1' = some (vx, h2) ∧
      (wantV ops x frx = true → cls P x = 3 → (h1' = h ∧ h2 = h1) ∨ (∃ ob, h1' = h.put ni ob ∧ h2 = h1.put ni ob)) ∧ (wantV ops i fri = true → cls P i = 3 → h1 = h ∧ h1' = h2) := by
  have kx := kind hx
  rcases kind hi with ⟨hh, all⟩ | ⟨ob, hw, hc, hh, all⟩ | ⟨hw, hc, hh, he, all⟩ | ⟨hw, hc, he, all⟩
  · subst hh
    refine ⟨h, all h, hx, fun _ _ => .inl ⟨rfl, rfl⟩, fun hw hc => ?_⟩
    rcases kx with ⟨hh, _⟩ | ⟨_, _, hc', _, _⟩ | ⟨_, _, hh, _, _⟩ | ⟨_, hc', _, _⟩
    · exact ⟨hh, hh.symm⟩
    · have := hp (.inr hc); omega
    · exact ⟨hh, hh.symm⟩
    · have := hp (.inr hc); omega
  · subst hh
    refine ⟨h.put ni ob, all h, ?_, fun _ _ => .inr ⟨ob, rfl, rfl⟩, fun _ hc' => by omega⟩
    rcases kx with ⟨hh, allx⟩ | ⟨obx, _, _, hh, allx⟩ | ⟨_, _, hh, hex, allx⟩ | ⟨_, _, hex, allx⟩
    · subst hh; exact allx _
    · subst hh
      rw [allx, put_swap h ob obx (fun e => hne e.symm)]
    · subst hh
      exact allx _ (evNE_mono (mono_put ob (nm_lim hf hni) gi) hex)
    · rw [allx]
      exact (evEff_ok hcall x (opd frx) h vx h1 hf hex).2 ni ob hni gi
  · subst hh
    have hh : h2 = h := by
      rcases kx with ⟨hh, _⟩ | ⟨_, _, hc', _, _⟩ | ⟨_, _, hh, _, _⟩ | ⟨_, hc', _, _⟩
      · exact hh
      · have := hp (.inl hc); omega
      · exact hh
      · have := hp (.inl hc); omega
    subst hh
    exact ⟨h2, all _ he, hx, fun _ _ => .inl ⟨rfl, rfl⟩, fun _ hc' => by omega⟩
  · rcases kx with ⟨hh, allx⟩ | ⟨_, _, hc', _, _⟩ | ⟨hwx, hcx, hh, hex, allx⟩ | ⟨_, hc', _, _⟩
    · subst hh
      exact ⟨h2, hi, allx _, fun hwx hcx => by have := hp (.inr hc); omega, fun _ _ => ⟨rfl, rfl⟩⟩
    · have := hp (.inr hc); omega
    · subst hh
      obtain ⟨u, u1, u2⟩ := hre hw hc hwx hcx
      rw [hex] at u1
      simp only [Option.some.injEq, Prod.mk.injEq, and_true] at u1
      subst u1
      exact ⟨h2, hi, allx _ u2, fun _ hcx' => by omega, fun _ _ => ⟨rfl, rfl⟩⟩
    · have := hp (.inr hc); omega

/-! ### frames -/
noncomputable def setF (fr : T Value) (d : Option Tmp) (v : Value) : T Value :=
  match d with
  | none => fr
  | some d => T.put K fr d v

theorem putD_some {s s' : St} {d : Option Tmp} {v : Value} (h : putD s d v = some s') : s' = { s with fr := setF s.fr d v } ∧ ∀ t, d = some t → t < s.nt := by
  unfold putD at h
  split at h
  · simp only [Option.some.injEq] at h; subst h
    exact ⟨rfl, fun t ht => by simp at ht⟩
  · rename_i t
    split at h
    · rename_i hb
      simp only [Option.some.injEq] at h; subst h
      exact ⟨rfl, fun t' ht => by simp only [Option.some.injEq] at ht; subst ht; simpa using hb⟩
    · simp at h

theorem putD_of {s : St} {d : Option Tmp} (v : Value) (h : ∀ t, d = some t → t < s.nt) : putD s d v = some { s with fr := setF s.fr d v } := by
  cases d with
  | none => rfl
  | some t =>
    unfold putD
    have : Nat.blt t s.nt = true := by simpa using h t rfl
    simp only [this]
    rfl

theorem opd_set (fr : T Value) (d : Option Tmp) (v : Value) (t : Nat) (hd : ∀ t, d = some t → t < LIM) (h : d ≠ some t) : opd (setF fr d v) (.tmp t) = opd fr (.tmp t) := by
  cases d with
  | none => rfl
  | some d =>
    show (match (T.put K fr d v).get t with | some v => v | none => undef) = _
    rw [T.get_put v K fr d t (lim_ok (hd d rfl)), if_neg (fun e => h (by rw [e]))]
    rfl

theorem opd_set_same (fr : T Value) (d : Nat) (v : Value) (hd : d < LIM) : opd (setF fr (some d) v) (.tmp d) = v := by
  show (match (T.put K fr d v).get d with | some v => v | none => undef) = _
  rw [T.get_put v K fr d d (lim_ok hd), if_pos rfl]

theorem set_swap (fr : T Value) {d d' : Option Tmp} (v v' : Value) (h : ∀ t, d = some t → d' ≠ some t) : setF (setF fr d v) d' v' = setF (setF fr d' v') d v := by
  cases d with
  | none => rfl
  | some d =>
    cases d' with
    | none => rfl
    | some d' => exact T.put_comm v v' K fr d d' (fun e => h d rfl (by rw [e]))

theorem alike_set {o : Oper} (fr : T Value) (d : Option Tmp) (v : Value) (hd : ∀ t, d = some t → t < LIM) (h : ∀ t, d = some t → t ∉ o.looksAt ops) : Alike ops o (setF fr d v) fr := fun t ht =>
  opd_set fr d v t hd (fun e => h t e ht)

theorem step1_some {i : Nat} {o : Oper} {s s' : St} (h : step1 P ro call ops base i o s = some s') : ∃ v h', stepVal P ro call ops (base + i) o s.fr s.h = some (v, h') ∧ s' = { s with fr := setF s.fr o.dst v, h := h' } ∧ ∀ t, o.dst = some t → t < s.nt := by
  rw [step1_eq] at h
  split at h
  · rename_i v h' hv
    obtain ⟨h1, h2⟩ := putD_some h
    exact ⟨v, h', hv, h1, h2⟩
  · simp at h

theorem step1_of {i : Nat} {o : Oper} {s : St} {v : Value} {h' : H} (hv : stepVal P ro call ops (base + i) o s.fr s.h = some (v, h')) (hd : ∀ t, o.dst = some t → t < s.nt) : step1 P ro call ops base i o s = some { s with fr := setF s.fr o.dst v, h := h' } := by
  rw [step1_eq, hv]
  exact putD_of v hd

theorem swap_step (hcall : ∀ f args, EffOk (call f args)) {x i : Nat} {ox oi : Oper} (hne : x ≠ i) (hsx : ∀ cs b, ox.op ≠ .select cs b) (hsi : ∀ cs b, oi.op ≠ .select cs b) (hap : ox.apart ops oi = true) {s s1 s2 : St} (hf : Fresh s.h) (hnt : s.nt ≤ LIM)
    (hni : base + i < s.h.nx) (gi : s.h.get (base + i) = none) (hx : step1 P ro call ops base x ox s = some s1) (hi : step1 P ro call ops base i oi s1 = some s2) (hp : cls P oi = 1 ∨ cls P oi = 3 → cls P ox < 2)
    (hre : wantV ops oi s1.fr = true → cls P oi = 3 → wantV ops ox s.fr = true → cls P ox = 1 → ∃ u, evNE P 0 s1.h ox (opd s.fr) = some (u, none) ∧ evNE P 0 s2.h ox (opd s.fr) = some (u, none)) :
    ∃ s1', step1 P ro call ops base i oi s = some s1' ∧ step1 P ro call ops base x ox s1' = some s2 ∧ Alike ops ox s1'.fr s.fr ∧ Alike ops oi s1.fr s.fr ∧
      (wantV ops ox s.fr = true → cls P ox = 3 → (s1'.h = s.h ∧ s2.h = s1.h) ∨ (∃ ob, s1'.h = s.h.put (base + i) ob ∧ s2.h = s1.h.put (base + i) ob)) ∧ (wantV ops oi s.fr = true → cls P oi = 3 → s1.h = s.h ∧ s1'.h = s2.h) := by
  obtain ⟨vx, h1, ex, rfl, dx⟩ := step1_some hx
  obtain ⟨vi, h2, ei, rfl, di⟩ := step1_some hi
  obtain ⟨a1, a2, a3⟩ := Oper.apart_spec hap
  have dxl : ∀ t, ox.dst = some t → t < LIM := fun t ht => Nat.lt_of_lt_of_le (dx t ht) hnt
  have dil : ∀ t, oi.dst = some t → t < LIM := fun t ht => Nat.lt_of_lt_of_le (di t ht) hnt
  have al1 : Alike ops oi (setF s.fr ox.dst vx) s.fr := alike_set s.fr ox.dst vx dxl a1
  have ei' : stepVal P ro call ops (base + i) oi s.fr h1 = some (vi, h2) := by rw [← stepVal_congr hsi al1]; exact ei
  have hw : wantV ops oi (setF s.fr ox.dst vx) = wantV ops oi s.fr := al1.want
  obtain ⟨h1', e1, e2, e3, e4⟩ := swap_val hcall (x := ox) (i := oi) (nx := base + x) (ni := base + i) (by omega) hf hni gi ex ei' hp (fun q1 q2 q3 q4 => hre (by show wantV ops oi (setF s.fr ox.dst vx) = true; rw [hw]; exact q1) q2 q3 q4)
  have al2 : Alike ops ox (setF s.fr oi.dst vi) s.fr := alike_set s.fr oi.dst vi dil a3
  refine ⟨{ s with fr := setF s.fr oi.dst vi, h := h1' }, step1_of e1 di, ?_, al2, al1, e3, e4⟩
  have e2' : stepVal P ro call ops (base + x) ox (setF s.fr oi.dst vi) h1' = some (vx, h2) := by rw [stepVal_congr hsx al2]; exact e2
  rw [step1_of (s := { s with fr := setF s.fr oi.dst vi, h := h1' }) e2' dx]
  simp only
  rw [set_swap s.fr vx vi (fun t ht => a2 t ht)]

end
end Go.Ev

namespace Go.Ev

abbrev Ent := Nat × Oper × T Value

def EntEq (a b : Ent) : Prop := a.1 = b.1 ∧ a.2.1 = b.2.1 ∧ (∀ cs bl, b.2.1.op ≠ .select cs bl) ∧ ∀ y ∈ b.2.1.op.operands, opd a.2.2 y = opd b.2.2 y
def AccLe (acc acc' : List Ent) : Prop := ∀ e' ∈ acc', ∃ e ∈ acc, EntEq e e'

section
variable {P : Program} {ro : Nat} {call : FuncId → List Value → H → Option (Value × H)} {ops : Array Oper} {base : Nat} {bs : List Nat}

theorem recheck_mem {h h' : H} {bef : Nat} {acc : List Ent} (hr : recheck P h h' bef acc = true) {i : Nat} {o : Oper} {fr : T Value} (he : (i, o, fr) ∈ acc) (hb : bit bef i = false) : ∃ u, evNE P 0 h o (opd fr) = some (u, none) ∧ evNE P 0 h' o (opd fr) = some (u, none) := by
  unfold recheck at hr
  have := List.all_eq_true.1 hr _ he
  simp only [hb, Bool.false_or] at this
  split at this
  · rename_i v v' h1 h2
    have := veqN_eq _ _ _ this
    subst this
    exact ⟨v, h1, h2⟩
  · simp at this

theorem recheck_of {h h' : H} {bef : Nat} {acc : List Ent} (hr : ∀ i o fr, (i, o, fr) ∈ acc → bit bef i = true ∨ ∃ v v', evNE P 0 h o (opd fr) = some (v, none) ∧ evNE P 0 h' o (opd fr) = some (v', none) ∧ veqN 5 v v' = true) : recheck P h h' bef acc = true := by
  unfold recheck
  rw [List.all_eq_true]
  rintro ⟨i, o, fr⟩ he
  rcases hr i o fr he with h1 | ⟨v, v', h1, h2, h3⟩
  · simp [h1]
  · simp only [h1, h2, h3, Bool.or_true]

theorem recheck_split {h h' : H} {bef : Nat} {acc : List Ent} (hr : recheck P h h' bef acc = true) {i : Nat} {o : Oper} {fr : T Value} (he : (i, o, fr) ∈ acc) : bit bef i = true ∨ ∃ v v', evNE P 0 h o (opd fr) = some (v, none) ∧ evNE P 0 h' o (opd fr) = some (v', none) ∧ veqN 5 v v' = true := by
  unfold recheck at hr
  have := List.all_eq_true.1 hr _ he
  simp only [Bool.or_eq_true] at this
  rcases this with h1 | h1
  · exact .inl h1
  · right
    split at h1
    · rename_i v v' e1 e2
      exact ⟨v, v', e1, e2, h1⟩
    · simp at h1

theorem recheck_le {h h' : H} {bef : Nat} {acc acc' : List Ent} (hl : AccLe acc acc') (hr : recheck P h h' bef acc = true) : recheck P h h' bef acc' = true := by
  refine recheck_of fun i o fr he => ?_
  obtain ⟨⟨j, oo, fr2⟩, he2, e1, e2, e3, e4⟩ := hl _ he
  simp only at e1 e2 e3 e4
  subst e1 e2
  rcases recheck_split hr he2 with h1 | ⟨v, v', h1, h2, h3⟩
  · exact .inl h1
  · exact .inr ⟨v, v', by rw [← evNE_congr e3 e4]; exact h1, by rw [← evNE_congr e3 e4]; exact h2, h3⟩

theorem recheck_mono {h h' k k' : H} {bef : Nat} {acc : List Ent} (m : Mono h k) (m' : Mono h' k') (hr : recheck P h h' bef acc = true) : recheck P k k' bef acc = true := by
  refine recheck_of fun i o fr he => ?_
  rcases recheck_split hr he with h1 | ⟨v, v', h1, h2, h3⟩
  · exact .inl h1
  · exact .inr ⟨v, v', evNE_mono m h1, evNE_mono m' h2, h3⟩

noncomputable def accN (P : Program) (ops : Array Oper) (i : Nat) (o : Oper) (fr : T Value) (acc : List Ent) : List Ent :=
  match wantV ops o fr with
  | false => acc
  | true => match cls P o with
    | 1 => (i, o, fr) :: acc
    | _ => acc

theorem accN_eq (i : Nat) (o : Oper) (fr : T Value) (acc : List Ent) : accN P ops i o fr acc = if wantV ops o fr = true ∧ cls P o = 1 then (i, o, fr) :: acc else acc := by
  unfold accN
  cases wantV ops o fr with
  | false => simp
  | true =>
    simp only [true_and]
    split
    · rename_i h; simp [h]
    · rename_i h; rw [if_neg h]

theorem accN_drop (i : Nat) (o : Oper) (fr : T Value) (acc : List Ent) (hsel : ∀ e ∈ acc, ∀ cs b, e.2.1.op ≠ .select cs b) : AccLe (accN P ops i o fr acc) acc := by
  intro e he
  refine ⟨e, ?_, rfl, rfl, hsel e he, fun _ _ => rfl⟩
  rw [accN_eq]
  split
  · exact List.mem_cons_of_mem _ he
  · exact he

theorem runSeq_cons {i : Nat} {r : List Nat} {acc : List Ent} {s sf : St} (h : runSeq P ro call ops base bs (i :: r) acc s = some sf) :
    ∃ o s', ops[i]? = some o ∧ step1 P ro call ops base i o s = some s' ∧ (wantV ops o s.fr = true → cls P o = 3 → recheck P s.h s'.h (bs.getD i 0) acc = true) ∧ runSeq P ro call ops base bs r (accN P ops i o s.fr acc) s' = some sf := by
  unfold runSeq at h
  split at h
  · simp at h
  · rename_i o ho
    split at h
    · simp at h
    · rename_i s' hs
      refine ⟨o, s', ho, hs, ?_⟩
      rw [accN_eq]
      split at h
      · rename_i hw
        rw [hw]
        exact ⟨fun h => by simp at h, by simpa using h⟩
      · rename_i hw
        rw [hw]
        split at h
        · rename_i hc
          split at h
          · rename_i hr
            exact ⟨fun _ _ => hr, by simpa [hc] using h⟩
          · simp at h
        · rename_i hc
          exact ⟨fun _ h3 => by omega, by simpa [hc] using h⟩
        · have n1 : ¬ cls P o = 1 := by assumption
          have n3 : ¬ cls P o = 3 := by assumption
          exact ⟨fun _ h3 => absurd h3 n3, by simpa [n1] using h⟩

theorem runSeq_of {i : Nat} {r : List Nat} {acc : List Ent} {s s' sf : St} {o : Oper} (ho : ops[i]? = some o) (hs : step1 P ro call ops base i o s = some s') (hr : wantV ops o s.fr = true → cls P o = 3 → recheck P s.h s'.h (bs.getD i 0) acc = true)
    (h : runSeq P ro call ops base bs r (accN P ops i o s.fr acc) s' = some sf) : runSeq P ro call ops base bs (i :: r) acc s = some sf := by
  unfold runSeq
  simp only [ho, hs]
  rw [accN_eq] at h
  split
  · rename_i hw
    rw [hw] at h; simpa using h
  · rename_i hw
    rw [hw] at h
    split
    · rename_i hc
      rw [hr hw hc]
      simpa [hc] using h
    · rename_i hc
      simpa [hc] using h
    · have n1 : ¬ cls P o = 1 := by assumption
      simpa [n1] using h

theorem accN_le {i : Nat} {o : Oper} {fr fr' : T Value} {acc acc' : List Ent} (hs : ∀ cs b, o.op ≠ .select cs b) (hal : Alike ops o fr fr') (hl : AccLe acc acc') : AccLe (accN P ops i o fr acc) (accN P ops i o fr' acc') := by
  rw [accN_eq, accN_eq, hal.want]
  split
  · intro e he
    rcases List.mem_cons.1 he with rfl | he
    · exact ⟨(i, o, fr), List.mem_cons_self .., rfl, rfl, hs, hal.opds⟩
    · obtain ⟨e0, h0, h1⟩ := hl e he
      exact ⟨e0, List.mem_cons_of_mem _ h0, h1⟩
  · exact hl

theorem runSeq_le (hsel : ∀ (j : Nat) (o : Oper), ops[j]? = some o → ∀ cs b, o.op ≠ .select cs b) : ∀ (r : List Nat) {acc acc' : List Ent} {s sf : St}, AccLe acc acc' → runSeq P ro call ops base bs r acc s = some sf → runSeq P ro call ops base bs r acc' s = some sf
  | [], _, _, _, _, _, h => h
  | i :: r, acc, acc', s, sf, hl, h => by
    obtain ⟨o, s', ho, hs, hr, hn⟩ := runSeq_cons h
    exact runSeq_of ho hs (fun h1 h2 => recheck_le hl (hr h1 h2)) (runSeq_le hsel r (accN_le (hsel i o ho) (fun _ _ => rfl) hl) hn)

/-- what a step leaves -/
theorem step_fwd (hcall : ∀ f args, EffOk (call f args)) {i : Nat} {o : Oper} {s s' : St} (hf : Fresh s.h) (hi : base + i < s.h.nx) (h : step1 P ro call ops base i o s = some s') :
    Fresh s'.h ∧ s.h.nx ≤ s'.h.nx ∧ s'.nt = s.nt ∧ (∀ b, b < s.h.nx → b ≠ base + i → (s'.h.get b).isSome = (s.h.get b).isSome) ∧ (∀ b, (s.h.get b).isSome = true → (s'.h.get b).isSome = true) := by
  obtain ⟨v, h', hv, rfl, _⟩ := step1_some h
  rcases kind hv with ⟨hh, _⟩ | ⟨ob, _, _, hh, _⟩ | ⟨_, _, hh, _, _⟩ | ⟨_, _, he, _⟩
  · subst hh; exact ⟨hf, Nat.le_refl _, rfl, fun _ _ _ => rfl, fun _ h => h⟩
  · subst hh
    have hl := nm_lim hf hi
    refine ⟨⟨fun b hb => ?_, hf.lim⟩, Nat.le_refl _, rfl, fun b hb hne => ?_, fun b hb => ?_⟩
    · have hb : s.h.nx ≤ b := hb
      show (s.h.put _ _).get b = none
      rw [H.get_put_other hl _ (by omega)]; exact hf.none b hb
    · show ((s.h.put _ _).get b).isSome = _
      rw [H.get_put_other hl _ hne]
    · show ((s.h.put _ _).get b).isSome = true
      rw [H.get_put hl]
      split
      · rfl
      · exact hb
  · subst hh; exact ⟨hf, Nat.le_refl _, rfl, fun _ _ _ => rfl, fun _ h => h⟩
  · have := (evEff_ok hcall o (opd s.fr) s.h v h' hf he).1
    refine ⟨this.fresh, this.nx, rfl, fun b hb _ => this.same b hb, fun b hb => ?_⟩
    obtain ⟨x, hx⟩ := Option.isSome_iff_exists.1 hb
    show (h'.get b).isSome = true
    rw [this.same b (hf.lt hx)]; exact hb

theorem isSome_none {α : Type} {x y : Option α} (h : x.isSome = y.isSome) (hy : y = none) : x = none := by
  rw [hy] at h; cases x with | none => rfl | some a => simp at h

/-- the step that waits for nothing more may come first -/
theorem pull (hcall : ∀ f args, EffOk (call f args)) (hsel : ∀ (j : Nat) (o : Oper), ops[j]? = some o → ∀ cs b, o.op ≠ .select cs b) {i : Nat} {post : List Nat} {sf : St} : ∀ (pre : List Nat) {acc : List Ent} {s : St}, Fresh s.h → s.nt ≤ LIM → base + i < s.h.nx → s.h.get (base + i) = none →
    (∀ x ∈ pre, x ≠ i ∧ base + x < s.h.nx ∧ bit (bs.getD i 0) x = false ∧ ∀ ox oi, ops[x]? = some ox → ops[i]? = some oi → pairOk P ops ox oi = true) → (∀ e ∈ acc, ∀ cs b, e.2.1.op ≠ .select cs b) →
    runSeq P ro call ops base bs (pre ++ i :: post) acc s = some sf →
    ∃ oi s1, ops[i]? = some oi ∧ step1 P ro call ops base i oi s = some s1 ∧ runSeq P ro call ops base bs (pre ++ post) acc s1 = some sf ∧ (wantV ops oi s.fr = true → cls P oi = 3 → recheck P s.h s1.h (bs.getD i 0) acc = true)
  | [], acc, s, hf, hnt, hni, gi, hpre, hacc, h => by
    obtain ⟨o, s', ho, hs, hr, hn⟩ := runSeq_cons h
    exact ⟨o, s', ho, hs, runSeq_le hsel _ (accN_drop i o s.fr acc hacc) hn, hr⟩
  | x :: pre, acc, s, hf, hnt, hni, gi, hpre, hacc, h => by
    obtain ⟨ox, sx, hox, hsx, hrx, hn⟩ := runSeq_cons h
    obtain ⟨hxi, hxn, hbx, hpk⟩ := hpre x (List.mem_cons_self ..)
    obtain ⟨fx, nx, ntx, same, _⟩ := step_fwd hcall hf hxn hsx
    have selx := hsel x ox hox
    have hacc2 : ∀ e ∈ accN P ops x ox s.fr acc, ∀ cs b, e.2.1.op ≠ .select cs b := by
      intro e he
      rw [accN_eq] at he
      split at he
      · rcases List.mem_cons.1 he with rfl | he
        · exact selx
        · exact hacc e he
      · exact hacc e he
    obtain ⟨oi, s2, hoi, hsi, hrun, hri⟩ := pull hcall hsel pre (acc := accN P ops x ox s.fr acc) (s := sx) fx (by rw [ntx]; exact hnt) (Nat.lt_of_lt_of_le hni nx)
      (isSome_none (same _ hni (by omega)) gi)
      (fun y hy => by
        obtain ⟨q1, q2, q3, q4⟩ := hpre y (List.mem_cons_of_mem _ hy)
        exact ⟨q1, Nat.lt_of_lt_of_le q2 nx, q3, q4⟩) hacc2 hn
    have hpo := hpk ox oi hox hoi
    unfold pairOk at hpo
    rw [Bool.and_eq_true] at hpo
    obtain ⟨hpc, hap⟩ := hpo
    have hp : cls P oi = 1 ∨ cls P oi = 3 → cls P ox < 2 := by
      intro hc
      rcases hc with hc | hc <;> (rw [hc] at hpc; simpa using hpc)
    obtain ⟨s1', e1, e2, al2, al1, e3, e4⟩ := swap_step hcall hxi selx (hsel i oi hoi) hap hf hnt hni gi hsx hsi hp (by
      intro q1 q2 q3 q4
      have hr := hri q1 q2
      refine recheck_mem hr (i := x) (o := ox) (fr := s.fr) ?_ hbx
      rw [accN_eq, if_pos ⟨q3, q4⟩]
      exact List.mem_cons_self ..)
    refine ⟨oi, s1', hoi, e1, ?_, ?_⟩
    · refine runSeq_of hox e2 (fun q1 q2 => ?_) (runSeq_le hsel _ (accN_le selx (fun t ht => (al2 t ht).symm) (fun e he => ⟨e, he, rfl, rfl, hacc e he, fun _ _ => rfl⟩)) hrun)
      have hwx : wantV ops ox s.fr = true := by rw [← al2.want]; exact q1
      rcases e3 hwx q2 with ⟨r1, r2⟩ | ⟨ob, r1, r2⟩
      · rw [r1, r2]; exact hrx hwx q2
      · rw [r1, r2]
        exact recheck_mono (mono_put ob (nm_lim hf hni) gi) (mono_put ob (nm_lim hf hni) (isSome_none (same _ hni (by omega)) gi)) (hrx hwx q2)
    · intro q1 q2
      obtain ⟨r1, r2⟩ := e4 q1 q2
      have := hri (by rw [al1.want]; exact q1) q2
      rw [r1, ← r2] at this
      exact recheck_le (accN_drop x ox s.fr acc hacc) this

end
end Go.Ev

namespace Go.Ev
open Go.RowKit (Below)

/-- a call answers as it was evaluated -/
def SimCall (P : Program) (ro : Nat) (w0 : World) (call : FuncId → List Value → H → Option (Value × H)) : Prop :=
  ∀ f args h v h' F g w, call f args h = some (v, h') → RelH P ro w0 F g h w → Fresh h → ro ≤ h.nx → (∀ x ∈ args, okV ro h x) →
    Calls P f (args.map (ren F g)).toArray w fun e w' => ∃ F' g', e = .returned (ren F' g' v) ∧ RelH P ro w0 F' g' h' w' ∧ Agree ro h F g F' g' ∧ okV ro h' v

structure RelS (P : Program) (ro : Nat) (w0 : World) (f g : Nat → Nat) (s : St) (a : Act) (w : World) : Prop where
  mem : RelH P ro w0 f g s.h w
  fr : ∀ t, a.tmps.getD t undef = ren f g (opd s.fr (.tmp t)) ∧ okV ro s.h (opd s.fr (.tmp t))
  nt : a.tmps.size = s.nt
  dfr : a.defers = []
  fresh : Fresh s.h
  nx : ro ≤ s.h.nx
  lim : s.nt ≤ LIM

section
variable {P : Program} {ro : Nat} {w0 : World} {f g : Nat → Nat} {call : FuncId → List Value → H → Option (Value × H)} {ops : Array Oper} {base : Nat}

theorem RelS.opd {s : St} {a : Act} {w : World} (r : RelS P ro w0 f g s a w) {x : Operand} (hx : opdOk P x = true) : a.eval x = ren f g (opd s.fr x) ∧ okV ro s.h (opd s.fr x) := by
  cases x with
  | tmp t => exact r.fr t
  | const v => exact ⟨(flat_id hx f g).symm, flat_ok hx ro s.h⟩
  | global q =>
    have hq : q < P.globals.size := by simpa [opdOk] using hx
    obtain ⟨h1, h2⟩ := r.mem.glob q hq
    refine ⟨?_, ?_⟩
    · show Value.pointer (some ⟨q, 0, none⟩) = ren f g (.pointer (some ⟨q, 0, none⟩))
      rw [ren_pointer]; unfold adr; simp only [h1]
    · show okV ro s.h (.pointer (some ⟨q, 0, none⟩))
      unfold okV; rw [all_pointer]; exact .inl h2
  | func q =>
    refine ⟨?_, ?_⟩
    · show Value.func (.func q) #[] #[] = ren f g (.func (.func q) #[] #[])
      rw [ren_func]; simp
    · show okV ro s.h (.func (.func q) #[] #[])
      unfold okV; rw [all_func]; simp

theorem ren_bool_iff (v : Value) (b : Bool) : ren f g v = .bool b ↔ v = .bool b := by
  constructor
  · intro h
    cases v with
    | bool c => rw [ren_bool] at h; exact h
    | pointer a => cases a with | none => rw [ren_nilptr] at h; cases h | some a => rw [ren_pointer] at h; cases h
    | slice a l c => cases a with | none => rw [ren_nilslice] at h; cases h | some a => rw [ren_slice] at h; cases h
    | map a => cases a with | none => rw [ren_nilmap] at h; cases h | some a => rw [ren_map] at h; cases h
    | chan a => cases a with | none => rw [ren_nilchan] at h; cases h | some a => rw [ren_chan] at h; cases h
    | func fn a b => rw [ren_func] at h; cases h
    | iface t v => rw [ren_iface] at h; cases h
    | agg cs => rw [ren_agg] at h; cases h
    | tuple cs => rw [ren_tuple] at h; cases h
    | int k n => rw [ren_int] at h; cases h
    | float k n => rw [ren_float] at h; cases h
    | complex k a b => rw [ren_complex] at h; cases h
    | string s => rw [ren_string] at h; cases h
    | nilFunc => rw [ren_nilFunc] at h; cases h
    | nilIface => rw [ren_nilIface] at h; cases h
  · rintro rfl; exact ren_bool ..

theorem notbool (v : Value) : (¬ ∃ b, v = .bool b) → (match v with | .bool b => some b | _ => none) = (none : Option Bool) := by
  intro hb
  split
  · rename_i b; exact absurd ⟨b, rfl⟩ hb
  · rfl

theorem RelS.yield {s : St} {a : Act} {w : World} (r : RelS P ro w0 f g s a w) (j : Nat) : yielded ops a.tmps j = yieldV ops s.fr j := by
  unfold yielded yieldV
  cases hd : (ops[j]?).bind (·.dst) with
  | none => rfl
  | some t =>
    simp only [Option.bind_some]
    have ht := (r.fr t).1
    generalize Ev.opd s.fr (.tmp t) = v at ht ⊢
    by_cases hb : ∃ b, v = .bool b
    · obtain ⟨b, rfl⟩ := hb
      rw [ren_bool] at ht
      have hl : t < a.tmps.size := by
        rcases Nat.lt_or_ge t a.tmps.size with h1 | h1
        · exact h1
        · have hu : a.tmps.getD t undef = undef := by simp [Nat.not_lt.2 h1]
          rw [hu] at ht; unfold undef at ht; cases ht
      have hg : a.tmps[t]? = some (a.tmps.getD t undef) := by simp [hl]
      rw [hg, ht]
    · refine Eq.trans ?_ (notbool v hb).symm
      split
      · rename_i b hbb
        have hl : t < a.tmps.size := (Array.getElem?_eq_some_iff.1 hbb).1
        have hg : a.tmps[t]? = some (a.tmps.getD t undef) := by simp [hl]
        rw [hg, ht] at hbb
        exact absurd ⟨b, (ren_bool_iff v b).1 (Option.some.inj hbb)⟩ hb
      · rfl

theorem RelS.wanted {s : St} {a : Act} {w : World} (r : RelS P ro w0 f g s a w) (o : Oper) : Region.wanted o (yielded ops a.tmps) = wantV ops o s.fr := by
  unfold Region.wanted wantV
  split
  · rename_i h; simp only [h]
  · rename_i j b h
    simp only [h, r.yield j]
    cases yieldV ops s.fr j with
    | none => rfl
    | some c => cases b <;> cases c <;> rfl

/-- a frame's slot set -/
theorem RelS.put {s : St} {a : Act} {w w' : World} {f' g' : Nat → Nat} {h' : H} (r : RelS P ro w0 f g s a w) (hm : RelH P ro w0 f' g' h' w') (hag : Agree ro s.h f g f' g') (hd : ∀ b, dom ro s.h b → dom ro h' b) (hf : Fresh h') (hn : ro ≤ h'.nx) {v : Value} (hv : okV ro h' v)
    {d : Option Tmp} (hdt : ∀ t, d = some t → t < s.nt) : RelS P ro w0 f' g' { s with fr := setF s.fr d v, h := h' } (a.put d (ren f' g' v)) w' := by
  refine ⟨hm, fun t => ?_, ?_, ?_, hf, hn, r.lim⟩
  · have old : (a.tmps.getD t undef = ren f' g' (Ev.opd s.fr (.tmp t))) ∧ okV ro h' (Ev.opd s.fr (.tmp t)) := ⟨by rw [(r.fr t).1]; exact hag.ren (r.fr t).2, all_mono hd _ (r.fr t).2⟩
    cases d with
    | none => exact old
    | some d =>
      have hd' := hdt d rfl
      have hl : d < LIM := Nat.lt_of_lt_of_le hd' r.lim
      have hsz := r.nt
      by_cases htd : t = d
      · subst htd
        have e1 : Ev.opd (setF s.fr (some t) v) (.tmp t) = v := opd_set_same s.fr t v hl
        simp only [e1]
        refine ⟨?_, hv⟩
        have ht : t < a.tmps.size := by rw [hsz]; exact hd'
        simp [Act.put, ht]
      · have e1 : Ev.opd (setF s.fr (some d) v) (.tmp t) = Ev.opd s.fr (.tmp t) := opd_set s.fr (some d) v t (fun q hq => by simp only [Option.some.injEq] at hq; subst hq; exact hl) (fun e => htd (Option.some.inj e).symm)
        simp only [e1]
        refine ⟨?_, old.2⟩
        rw [← old.1]
        have hne : ¬ d = t := fun e => htd e.symm
        simp only [Act.put, Array.getD_eq_getD_getElem?, Array.getElem?_setIfInBounds, hne, if_false]
  · cases d with
    | none => exact r.nt
    | some d => simp [Act.put, r.nt]
  · cases d with
    | none => exact r.dfr
    | some d => exact r.dfr

/-- what an operation of a region may be -/
structure OpOk (P : Program) (o : Oper) : Prop where
  sel : ∀ cs b, o.op ≠ .select cs b
  opd : ∀ x ∈ o.op.operands, opdOk P x = true

theorem opsOk_some (h : opsOk P ops = true) {j : Nat} {o : Oper} (ho : ops[j]? = some o) : OpOk P o := by
  unfold opsOk at h
  have := List.all_eq_true.1 h o (Array.mem_def.1 (Array.mem_of_getElem? ho))
  simp only [Bool.and_eq_true] at this
  refine ⟨fun cs b hs => ?_, fun x hx => List.all_eq_true.1 this.1 x (Array.mem_def.1 hx)⟩
  have := this.2
  rw [hs] at this
  simp at this

theorem wp_value {o : Oper} {a : Act} {w w' : World} {v : Value} {K : Act → World → Prop} {Q : Exit → Act → World → Prop} (hr : (execOp a.eval o).run P w = .ok (.value v) w') (h : K (a.put o.dst v) w') : o.wp P a w K Q := by
  unfold Oper.wp; rw [hr, Oper.upon_value]; exact h
theorem wp_skip {o : Oper} {a : Act} {w w' : World} {K : Act → World → Prop} {Q : Exit → Act → World → Prop} (hr : (execOp a.eval o).run P w = .ok .skip w') (h : K (a.put o.dst undef) w') : o.wp P a w K Q := by
  unfold Oper.wp; rw [hr, Oper.upon_skip]; exact h

/-- a write, or a call -/
theorem eff_wp (hcall : SimCall P ro w0 call) {o : Oper} {s : St} {a : Act} {w : World} (r : RelS P ro w0 f g s a w) (hok : OpOk P o) {v : Value} {h' : H} (he : evEff P ro call s.h o (Ev.opd s.fr) = some (v, h')) {K : Act → World → Prop} {Q : Exit → Act → World → Prop}
    (hK : ∀ f' g' w', RelH P ro w0 f' g' h' w' → Agree ro s.h f g f' g' → okV ro h' v → K (a.put o.dst (ren f' g' v)) w') : o.wp P a w K Q := by
  have hop : ∀ x ∈ o.op.operands, a.eval x = ren f g (Ev.opd s.fr x) ∧ okV ro s.h (Ev.opd s.fr x) := fun x hx => r.opd (hok.opd x hx)
  have fin : SimE P ro w0 f g s.h w (execOp a.eval o) v h' → o.wp P a w K Q := by
    rintro ⟨f', g', w', hrun, hm, hag, hv⟩
    rcases hrun with hrun | ⟨hu, hrun⟩
    · exact wp_value hrun (hK f' g' w' hm hag hv)
    · have := hK f' g' w' hm hag hv
      rw [hu, ren_undef] at this
      exact wp_skip hrun this
  have hnew := r.fresh.none s.h.nx (Nat.le_refl _)
  unfold evEff at he
  split at he
  · rename_i t ad x ho
    exact fin (sim_store r.mem ho (hop ad (by rw [ho]; simp [Op.operands])).1 (hop x (by rw [ho]; simp [Op.operands])) he)
  · rename_i it ho
    exact fin (sim_next r.mem ho (hop it (by rw [ho]; simp [Op.operands])).1 he)
  · rename_i c ho
    have hargs : ∀ x ∈ c.args, a.eval x = ren f g (Ev.opd s.fr x) ∧ okV ro s.h (Ev.opd s.fr x) := fun x hx => hop x (by rw [ho]; simp [Op.operands, Call.operands, hx])
    split at he
    · rename_i hc
      exact fin (sim_append r.mem r.nx hnew ho hc hargs he)
    · rename_i hc
      exact fin (sim_copy r.mem ho hc hargs he)
    · rename_i hc
      exact fin (sim_ustr r.mem ho hc hargs he)
    · rename_i x hc
      have hx := hop x (by rw [ho]; simp [Op.operands, Call.operands, hc])
      unfold effCall at he
      split at he
      · rename_i fi first cap hfv
        rw [hfv, ren_func] at hx
        have okf := hx.2
        unfold okV at okf
        rw [all_func] at okf
        split at he
        · rename_i fn hfn
          split at he
          · rename_i body hb
            split at he
            · simp at he
            · rename_i hng
              have hsc := hcall _ _ _ _ _ f g w he r.mem r.fresh r.nx (by
                intro y hy
                rcases List.mem_append.1 hy with hy | hy
                · exact okf.1 y (Array.mem_def.2 hy)
                · rcases List.mem_append.1 hy with hy | hy
                  · obtain ⟨z, hz, rfl⟩ := List.mem_map.1 hy
                    exact (hargs z (Array.mem_def.2 hz)).2
                  · exact okf.2 y (Array.mem_def.2 hy))
              have hlist : ((first.toList ++ (c.args.toList.map (Ev.opd s.fr) ++ cap.toList)).map (ren f g)).toArray = first.map (ren f g) ++ c.args.map a.eval ++ cap.map (ren f g) := by
                apply Array.ext'
                simp only [Array.toList_append, Array.toList_map, List.map_append, List.map_map, List.append_assoc]
                congr 2
                exact List.map_congr_left fun z hz => ((hargs z (Array.mem_def.2 hz)).1).symm
              rw [hlist] at hsc
              have hrun : (execOp a.eval o).run P w = .ok (.enter fi (first.map (ren f g) ++ c.args.map a.eval ++ cap.map (ren f g))) w := by
                have hng' : ¬ fn.name = "runtime.NumGoroutine" := by simpa using hng
                simp [execOp, ho, resolve, hc, hx.1, Deferred.ofValue, invoke, callFunc, hfn, hng', hb]
              unfold Oper.wp
              rw [hrun, Oper.upon_enter]
              refine Calls.mono hsc fun e w'' hew => ?_
              obtain ⟨F', g', rfl, hm, hag, hv⟩ := hew
              exact hK F' g' w'' hm hag hv
          · rename_i hb
            split at he
            · rename_i u hu
              simp only [Option.some.injEq, Prod.mk.injEq] at he
              obtain ⟨rfl, rfl⟩ := he
              obtain ⟨h1, h2⟩ := evFlat_sim (w := w) (ro := ro) (h := s.h) (f := f) (g := g) (ρc := a.eval) hop hok.sel hu
              exact wp_value h1 (by have := hK f g w r.mem (Agree.refl ..) (flat_ok h2 ro s.h); rwa [flat_id h2] at this)
            · simp at he
        · simp at he
      · simp at he
    · simp at he
  · simp at he

/-- one operation -/
theorem step_wp (hcall : SimCall P ro w0 call) (heff : ∀ f args, EffOk (call f args)) {i : Nat} {o : Oper} {s s' : St} {a : Act} {w : World} (r : RelS P ro w0 f g s a w) (hok : OpOk P o) (hi : base + i < s.h.nx) (hro : ro ≤ base) (hn : s.h.get (base + i) = none)
    (he : step1 P ro call ops base i o s = some s') {K : Act → World → Prop} {Q : Exit → Act → World → Prop}
    (hK : ∀ f' g' a' w', RelS P ro w0 f' g' s' a' w' → Agree ro s.h f g f' g' → K a' w') :
    if Region.wanted o (yielded ops a.tmps) then o.wp P a w K Q ∨ (o.asks P a w ∧ LetsOut Q) else K (a.put o.dst undef) w := by
  obtain ⟨ff, nx, ntx, same, mono⟩ := step_fwd heff r.fresh hi he
  have hdom : ∀ b, dom ro s.h b → dom ro s'.h b := fun b hb => by
    rcases hb with hb | hb
    · exact .inl hb
    · exact .inr (mono b hb)
  obtain ⟨v, h', hv, rfl, hdt⟩ := step1_some he
  rw [r.wanted o]
  cases hw : wantV ops o s.fr with
  | false =>
    unfold stepVal at hv
    rw [hw] at hv
    simp only [Option.some.injEq, Prod.mk.injEq] at hv
    obtain ⟨rfl, rfl⟩ := hv
    have := r.put r.mem (Agree.refl ..) hdom r.fresh r.nx (v := undef) (by unfold okV; exact all_undef _) hdt
    rw [ren_undef] at this
    exact hK f g _ w this (Agree.refl ..)
  | true =>
    refine .inl ?_
    by_cases h3 : cls P o = 3
    · have hv' : evEff P ro call s.h o (Ev.opd s.fr) = some (v, h') := by
        unfold stepVal at hv; rw [hw] at hv; simpa only [h3] using hv
      exact eff_wp hcall r hok hv' fun f' g' w' hm hag hokv => hK f' g' _ w' (r.put hm hag hdom ff (Nat.le_trans r.nx nx) hokv hdt) hag
    · rw [stepVal_ne hw h3] at hv
      split at hv
      · rename_i u ob hu
        simp only [Option.some.injEq, Prod.mk.injEq] at hv
        obtain ⟨rfl, rfl⟩ := hv
        have hop : Opds ro s.h f g (Ev.opd s.fr) a.eval o := fun x hx => r.opd (hok.opd x hx)
        obtain ⟨f', g', w', hrun, hm, hag, hokv⟩ := simNE (w := w) r.mem hop hok.sel (Nat.le_trans hro (Nat.le_add_right ..)) (nm_lim r.fresh hi) hn hu
        exact wp_value hrun (hK f' g' _ w' (r.put hm hag hdom ff (Nat.le_trans r.nx nx) hokv hdt) hag)
      · simp at hv

end
end Go.Ev
