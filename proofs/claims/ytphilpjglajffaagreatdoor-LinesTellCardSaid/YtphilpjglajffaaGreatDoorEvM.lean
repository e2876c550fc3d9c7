/- The evaluator's copies, texts made without a copy; all writes together but calls. -/
import Derived.Test.YtphilpjglajffaaGreatDoorEvL
namespace Go.Ev
open Go.RowKit (Below)

section
variable {P : Program} {ro : Nat} {w0 : World} {f g : Nat → Nat} {h : H} {w : World} {ρ ρc : Operand → Value} {o : Oper}

theorem two_args {c : Call} {s x : Value} {ar : List Value} (hargs : ∀ x ∈ c.args, ρc x = ren f g (ρ x) ∧ okV ro h (ρ x)) (has : c.args.toList.map ρ = s :: x :: ar) :
    (c.args.map ρc)[0]? = some (ren f g s) ∧ (c.args.map ρc)[1]? = some (ren f g x) ∧ okV ro h s ∧ okV ro h x := by
  obtain ⟨so, l1, hl1, rfl, hl2⟩ : ∃ so l1, c.args.toList = so :: l1 ∧ ρ so = s ∧ l1.map ρ = x :: ar := by
    cases hcl : c.args.toList with
    | nil => rw [hcl] at has; simp at has
    | cons a l => rw [hcl] at has; simp only [List.map_cons, List.cons.injEq] at has; exact ⟨a, l, rfl, has.1, has.2⟩
  obtain ⟨xo, l2, rfl, rfl⟩ : ∃ xo l2, l1 = xo :: l2 ∧ ρ xo = x := by
    cases l1 with
    | nil => simp at hl2
    | cons a l => simp only [List.map_cons, List.cons.injEq] at hl2; exact ⟨a, l, rfl, hl2.1⟩
  have hs := hargs so (by rw [Array.mem_def, hl1]; simp)
  have hx := hargs xo (by rw [Array.mem_def, hl1]; simp)
  exact ⟨by rw [Array.getElem?_map, ← Array.getElem?_toList, hl1]; simp [hs.1], by rw [Array.getElem?_map, ← Array.getElem?_toList, hl1]; simp [hx.1], hs.2, hx.2⟩

theorem copy_run {ts : Array TypeId} {args : Array Value} {dt e ty : TypeId} {size dl dc n : Nat} {a : Addr} {x : Value} {cells : Array Value} (h0 : ts[0]? = some dt) (a0 : args[0]? = some (.slice (some a) dl dc)) (a1 : args[1]? = some x)
    (hu : P.underlying dt = some (.slice e)) (hsz : szOf P e = some size) (hlen : (Builtin.lenOf x).run P w = .ok n w) (hfc : (Builtin.firstCells size (Nat.min n dl) x).run P w = .ok cells w) :
    (Builtin.copy_ ts ty args).run P w = ((storeCells a cells.toList).run P w).andThen fun _ w' => .ok (.int .i64 ((Nat.min n dl : Nat) : Int)) w' := by
  simp only [Builtin.copy_, h0, a0, a1, Sem.run_bind, run_underlying hu, Result.andThen_ok, hlen, sizeOf_run hsz, hfc, goInt, Sem.run_pure]

theorem sim_copy (r : RelH P ro w0 f g h w) {c : Call} (ho : o.op = .call c) (hc : c.callee = .builtin .copy) (hargs : ∀ x ∈ c.args, ρc x = ren f g (ρ x) ∧ okV ro h (ρ x))
    {v : Value} {h' : H} (he : evCopy P ro h c.argTypes.toList (c.args.toList.map ρ) = some (v, h')) : SimE P ro w0 f g h w (execOp ρc o) v h' := by
  unfold evCopy at he
  split at he
  · rename_i dt tr d x ar hts has
    have h0 : c.argTypes[0]? = some dt := by rw [← Array.getElem?_toList, hts]; rfl
    obtain ⟨a0, a1, okd, okx⟩ := two_args hargs has
    have hrun := builtin_run (P := P) (w := w) (ρc := ρc) (k := Builtin.copy_) ho hc (fun _ _ _ _ => rfl)
    split at he
    · rename_i e hu
      split at he
      · rename_i size a dl dc hsz
        rw [ren_slice] at a0
        unfold cpGo at he
        split at he
        · rename_i b n cap
          split at he
          · rename_i l hl
            split at he
            · rename_i h1 hst
              simp only [Option.some.injEq, Prod.mk.injEq] at he
              obtain ⟨rfl, rfl⟩ := he
              obtain ⟨w', hw', hr', hdm⟩ := r.stored hst (r.ldOk hl)
              have hfc := run_firstCells_some (P := P) w size (Nat.min n dl) (adr f b) n (capR g b.block cap) (l.map (ren f g)) (by rw [List.length_map]; exact ldN_length hl) (r.loaded hl)
              have hcr := copy_run (P := P) (w := w) (ty := o.type) h0 a0 a1 hu hsz (n := n) (by rw [ren_slice]; rfl) (by rw [ren_slice]; exact hfc)
              refine ⟨f, g, w', .inl ?_, hr', Agree.refl .., okInt _ _⟩
              rw [hrun, hcr, ren_int]
              simp only [hw']
              rfl
            · simp at he
          · simp at he
        · rename_i s
          split at he
          · rename_i h1 hst
            simp only [Option.some.injEq, Prod.mk.injEq] at he
            obtain ⟨rfl, rfl⟩ := he
            have hok : ∀ v ∈ (bytesV s).take (Nat.min s.size dl), okV ro h v := fun v hv => bytesV_ok s v (List.mem_of_mem_take hv)
            obtain ⟨w', hw', hr', hdm⟩ := r.stored hst hok
            have hfc : (Builtin.firstCells size (Nat.min s.size dl) (.string s)).run P w = .ok ((bytesV s).take (Nat.min s.size dl)).toArray w := by
              simp only [Builtin.firstCells, Sem.run_pure, bytesV]
              congr 1
              apply Array.ext'
              simp [List.extract_eq_take_drop]
            have hcr := copy_run (P := P) (w := w) (ty := o.type) h0 a0 a1 hu hsz (n := s.size) (by rw [ren_string]; rfl) (by rw [ren_string]; exact hfc)
            have hbr : ((bytesV s).take (Nat.min s.size dl)).map (ren f g) = (bytesV s).take (Nat.min s.size dl) := by rw [List.map_take, bytesV_ren]
            rw [hbr] at hw'
            refine ⟨f, g, w', .inl ?_, hr', Agree.refl .., okInt _ _⟩
            rw [hrun, hcr, ren_int]
            simp only [hw']
            rfl
          · simp at he
        · simp at he
      · simp at he
    · simp at he
  · simp at he

theorem loadInts_run {p : Program} : ∀ (ns : List Int) (a : Addr) (acc : ByteArray), (∀ j x, (ns.map (Value.int .u8))[j]? = some x → w.cell? (a.add j) = some x) →
    (loadBytes a acc ns.length).run p w = .ok ⟨⟨acc.data.toList ++ ns.map fun n => UInt8.ofNat n.toNat⟩⟩ w
  | [], a, acc, _ => by simp [loadBytes]
  | x :: l, a, acc, h => by
    have h0 : w.cell? a = some (.int .u8 x) := by
      have := h 0 _ rfl
      simpa [Addr.add] using this
    have ih := loadInts_run (p := p) l (a.add 1) (acc.push (UInt8.ofNat x.toNat)) (fun j y hy => by
      have := h (j + 1) y (by simpa using hy)
      have e : (a.add 1).add j = a.add (j + 1) := by
        unfold Addr.add
        by_cases hj : j = 0
        · subst hj; simp
        · simp [hj]; omega
      rw [e]; exact this)
    have hpush : (acc.push (UInt8.ofNat x.toNat)).data.toList = acc.data.toList ++ [UInt8.ofNat x.toNat] := by simp
    rw [hpush] at ih
    simp only [loadBytes, List.length_cons, Sem.run_bind, run_load, h0, Result.andThen_ok]
    rw [show x.toNat.toUInt8 = UInt8.ofNat x.toNat from rfl, ih]
    simp

theorem ustr_run {pt ty e' e : TypeId} {a : Addr} {n cells : Nat} {ns : List Int} {p : Program} (hp : p.underlying pt = some (.pointer e')) (hsh : w.shape? a.block = some (e, cells)) (hlies : liesAt p p.depth e (cells / p.cellsOf e) a.off e' (n + 1) = true)
    (hbl : ns.length = n + 1) (hn : n ≤ 1048576) (k : IntKind) (hcell : ∀ j x, (ns.map (Value.int .u8))[j]? = some x → w.cell? (a.add j) = some x) (ts : Array TypeId) (hts : ts[0]? = some pt) :
    (Builtin.unsafeString_ ts ty #[.pointer (some a), .int k ((n + 1 : Nat) : Int)]).run p w = .ok (.string ⟨⟨ns.map fun n => UInt8.ofNat n.toNat⟩⟩) (w.freeze a (n + 1)) := by
  have hlb := loadInts_run (p := p) (w := w) ns a .empty hcell
  rw [hbl] at hlb
  show Sem.run p (asInt (.int k ((n + 1 : Nat) : Int)) >>= _) w = _
  have hmax : IntKind.i64.max = 9223372036854775807 := rfl
  have h1 : ¬ (((n + 1 : Nat) : Int) < 0) := by omega
  have h2 : ¬ (((n + 1 : Nat) : Int) > 9223372036854775807) := by omega
  have h3 : ¬ (((n + 1 : Nat) : Int) = 0) := by omega
  simp only [asInt, asIntOf, hts, hmax, Sem.run_bind, Sem.run_pure, Result.andThen_ok, h1, h2, h3, if_false, Int.toNat_natCast, elemOf, run_underlying hp, variablesAt]
  simp [hsh, hlies, hlb]

theorem sim_ustr (r : RelH P ro w0 f g h w) {c : Call} (ho : o.op = .call c) (hc : c.callee = .builtin .unsafeString) (hargs : ∀ x ∈ c.args, ρc x = ren f g (ρ x) ∧ okV ro h (ρ x))
    {v : Value} {h' : H} (he : effUStr P ro h c.argTypes.toList (c.args.toList.map ρ) = some (v, h')) : SimE P ro w0 f g h w (execOp ρc o) v h' := by
  unfold effUStr at he
  split at he
  · rename_i pt tr a k n hts has
    have h0 : c.argTypes[0]? = some pt := by rw [← Array.getElem?_toList, hts]; rfl
    have hrun := builtin_run (P := P) (w := w) (ρc := ρc) (k := Builtin.unsafeString_) ho hc (fun _ _ _ _ => rfl)
    have hal : c.args.map ρc = #[.pointer (some (adr f a)), .int k ((n + 1 : Nat) : Int)] := by
      apply Array.ext'
      rw [Array.toList_map]
      have : c.args.toList.map ρc = (c.args.toList.map ρ).map (ren f g) := by
        rw [List.map_map]; exact List.map_congr_left fun x hx => (hargs x (Array.mem_def.2 hx)).1
      rw [this, has]
      simp [ren_pointer, ren_int]
    split at he
    · rename_i e' cs e l hu hget hl
      split at he
      · rename_i bs hlies hb hro hn
        have hro := Nat.le_of_ble_eq_true hro
        have hn := Nat.le_of_ble_eq_true hn
        simp only [Option.some.injEq, Prod.mk.injEq] at he
        obtain ⟨rfl, rfl⟩ := he
        obtain ⟨ns, rfl, rfl⟩ := bytesOf_map l bs hb
        obtain ⟨fz, hw, hz⟩ := r.row a.block cs e hget
        have hsh : w.shape? (adr f a).block = some (e, cs.length) := by
          simp [World.shape?, adr, hw]
        have hcell := r.loaded hl
        rw [ints_ren] at hcell
        have hlen : ns.length = n + 1 := by have := ldN_length hl; simpa using this
        have hu2 := ustr_run (w := w) (p := P) (ty := o.type) hu hsh hlies hlen hn k hcell c.argTypes h0
        have hne : ¬ (n + 1 = 0) := by omega
        refine ⟨f, g, w.freeze (adr f a) (n + 1), .inl ?_, ?_, Agree.refl .., okStr _⟩
        · rw [hrun, hal, hu2, ren_string]; rfl
        · have hfr : (w.freeze (adr f a) (n + 1)).heap = w.heap.modify (f a.block) (fun
              | .cells c elem (lo, hi) => .cells c elem (if lo == hi then (a.off, a.off + (n + 1)) else (min lo a.off, max hi (a.off + (n + 1))))
              | o => o) := by
            simp only [World.freeze, hne, if_false]; rfl
          obtain ⟨x, hx⟩ : ∃ x, (w.freeze (adr f a) (n + 1)).heap[f a.block]? = some x := by
            rw [hfr, Array.getElem?_modify, if_pos rfl, hw]; exact ⟨_, rfl⟩
          have hwr : Wr w (w.freeze (adr f a) (n + 1)) (f a.block) :=
            ⟨by simp [World.freeze], by simp [World.freeze], by simp [World.freeze], by rw [hfr]; simp, fun i hi => by rw [hfr, Array.getElem?_modify, if_neg (fun e => hi e.symm)]⟩
          exact r.turn hro hget (by simp) hwr x hx (.inl rfl) (fun c e hc => by simp at hc)
      · simp at he
    · simp at he
  · simp at he

theorem bytesOf_spec : ∀ (l : List Value) (bs : List UInt8), bytesOf l = some bs → bs.length = l.length
  | [], bs, h => by simp only [bytesOf, Option.some.injEq] at h; subst h; rfl
  | v :: l, bs, h => by
    unfold bytesOf at h
    split at h
    · rename_i b r hb hr
      simp only [Option.some.injEq] at h; subst h
      rw [List.length_cons, List.length_cons, bytesOf_spec l r hr]
    · simp at h

end
end Go.Ev
