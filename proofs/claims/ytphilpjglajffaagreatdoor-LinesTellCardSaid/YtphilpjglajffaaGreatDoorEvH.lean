/- The evaluator's operations on slices, structs, texts: parts, addresses, cuts, makes. -/
import Derived.Test.YtphilpjglajffaaGreatDoorEvG
namespace Go.Ev
open Go.RowKit (Below)

section
variable {P : Program} {ro : Nat} {w0 : World} {f g : Nat → Nat} {h : H} {w : World} {nm : Nat} {ρ ρc : Operand → Value} {o : Oper}

theorem adr_add (f : Nat → Nat) (a : Addr) (n : Nat) : adr f (a.add n) = (adr f a).add n := by
  unfold Addr.add; split <;> rfl
theorem add_block (a : Addr) (n : Nat) : (a.add n).block = a.block := by unfold Addr.add; split <;> rfl

theorem bytesOf_map : ∀ (l : List Value) (bs : List UInt8), bytesOf l = some bs → ∃ ns : List Int, l = ns.map (Value.int .u8) ∧ bs = ns.map fun n => UInt8.ofNat n.toNat
  | [], bs, h => by simp only [bytesOf, Option.some.injEq] at h; subst h; exact ⟨[], rfl, rfl⟩
  | v :: l, bs, h => by
    unfold bytesOf at h
    split at h
    · rename_i b r hb hr
      simp only [Option.some.injEq] at h; subst h
      obtain ⟨ns, rfl, rfl⟩ := bytesOf_map l r hr
      unfold byteOf at hb
      split at hb
      · rename_i n
        simp only [Option.some.injEq] at hb; subst hb
        exact ⟨n :: ns, rfl, rfl⟩
      · simp at hb
    · simp at h

theorem ints_ren (ns : List Int) (k : IntKind) (f g : Nat → Nat) : (ns.map (Value.int k)).map (ren f g) = ns.map (Value.int k) := by
  rw [List.map_map]; exact List.map_congr_left fun n _ => ren_int f g k n

theorem sim_convB (r : RelH P ro w0 f g h w) {src dst e : TypeId} {x : Operand} {a : Addr} {len cap : Nat} (ho : o.op = .convert src dst x) (hx : ρc x = .slice (some (adr f a)) len cap)
    (hs : P.underlying src = some (.slice e)) (hd : P.underlying dst = some .string) {v : Value} {ob : Option AO} (he : neConvB P h e a len = some (v, ob)) : SimV P ro w0 f g h nm w (execOp ρc o) v ob := by
  unfold neConvB at he
  split at he
  · rename_i l hue hl
    split at he
    · rename_i bs hb
      simp only [Option.some.injEq, Prod.mk.injEq] at he
      obtain ⟨rfl, rfl⟩ := he
      obtain ⟨ns, rfl, rfl⟩ := bytesOf_map l bs hb
      have hrun := r.loadedRun hl
      rw [ints_ren] at hrun
      refine .same r ?_ (okStr _)
      rw [ren_string]
      have h1 := run_convert_bytes_string (P := P) w src dst e (some (adr f a)) len cap hs hue hd
      have h2 := run_bytesToString (P := P) w (adr f a) len cap ns (by simpa using hrun)
      simp only [execOp, ho, hx, Sem.run_bind, h1, h2, foldl_push_bytes, Result.andThen_ok, Sem.run_pure]
      simp [ByteArray.empty, ByteArray.emptyWithCapacity]
      rfl
    · simp at he
  · simp at he

theorem sim_conv (r : RelH P ro w0 f g h w) (hop : Opds ro h f g ρ ρc o) (hr : ro ≤ nm) (hl : nm < LIM) (hn : h.get nm = none) {src dst : TypeId} {x : Operand} (ho : o.op = .convert src dst x) {v : Value} {ob : Option AO}
    (he : neConv P nm h o ρ src dst (ρ x) = some (v, ob)) : SimV P ro w0 f g h nm w (execOp ρc o) v ob := by
  have hs : ∀ cs b, o.op ≠ .select cs b := by rw [ho]; simp
  have hx := hop x (by rw [ho]; simp [Op.operands])
  unfold neConv at he
  split at he
  · rename_i e s h1 h2 h3
    exact sim_convS r hr hl hn ho (by rw [hx.1, h3, ren_string]) h1 h2 he
  · rename_i e a len cap h1 h2 h3
    exact sim_convB r ho (by rw [hx.1, h3, ren_slice]) h1 h2 he
  · rename_i sk k kk n h1 h2 h3
    simp only [Option.some.injEq, Prod.mk.injEq] at he
    obtain ⟨rfl, rfl⟩ := he
    refine .same r ?_ (okInt _ _)
    rw [ren_int]
    rw [h3, ren_int] at hx
    simp [execOp, ho, hx.1, convert, run_underlying h1, run_underlying h2, Conv.intToInt]
  · exact flat_sim r hop hs he

theorem sim_s2a (r : RelH P ro w0 f g h w) {arr : TypeId} {x : Operand} (ho : o.op = .sliceToArrayPointer arr x) (hx : ρc x = ren f g (ρ x) ∧ okV ro h (ρ x)) {v : Value} {ob : Option AO}
    (he : neS2A P arr (ρ x) = some (v, ob)) : SimV P ro w0 f g h nm w (execOp ρc o) v ob := by
  unfold neS2A at he
  split at he
  · rename_i n e a len cap hu ha
    split at he
    · rename_i hb
      have hb := Nat.le_of_ble_eq_true hb
      simp only [Option.some.injEq, Prod.mk.injEq] at he
      obtain ⟨rfl, rfl⟩ := he
      rw [ha, ren_slice] at hx
      refine .same r ?_ (by have := hx.2; unfold okV at this ⊢; rw [all_slice] at this; rw [all_pointer]; exact this)
      rw [ren_pointer]
      have : ¬ len < n := by omega
      simp [execOp, ho, hx.1, Instr.arrayAt, run_underlying hu, this]
    · simp at he
  · simp at he

theorem sim_iface (r : RelH P ro w0 f g h w) {t : TypeId} {x : Operand} (ho : o.op = .makeInterface t x) (hx : ρc x = ren f g (ρ x) ∧ okV ro h (ρ x)) {v : Value} {ob : Option AO}
    (he : neIface P t (ρ x) = some (v, ob)) : SimV P ro w0 f g h nm w (execOp ρc o) v ob := by
  unfold neIface at he
  split at he
  · simp at he
  · rename_i d hd hu
    simp only [Option.some.injEq, Prod.mk.injEq] at he
    obtain ⟨rfl, rfl⟩ := he
    refine .same r ?_ (by have := hx.2; unfold okV at this ⊢; rw [all_iface]; exact this)
    rw [ren_iface, ← hx.1]
    simp only [execOp, ho, Instr.makeInterface, Sem.run_bind, run_underlying hu, Result.andThen_ok]
    cases d <;> first | rfl | exact absurd hu (hd _)
  · simp at he

theorem sim_func (r : RelH P ro w0 f g h w) {fn : Fn} {a b : Array Operand} (ho : o.op = .makeFunc fn a b) (hop : Opds ro h f g ρ ρc o) :
    SimV P ro w0 f g h nm w (execOp ρc o) (.func fn (a.map ρ) (b.map ρ)) none := by
  have ha : ∀ x ∈ a, ρc x = ren f g (ρ x) ∧ okV ro h (ρ x) := fun x hx => hop x (by rw [ho]; simp [Op.operands, hx])
  have hb : ∀ x ∈ b, ρc x = ren f g (ρ x) ∧ okV ro h (ρ x) := fun x hx => hop x (by rw [ho]; simp [Op.operands, hx])
  refine .same r ?_ ?_
  · rw [ren_func, Array.map_map, Array.map_map]
    rw [← Array.map_congr_left (f := ρc) (g := ren f g ∘ ρ) (fun x hx => (ha x hx).1), ← Array.map_congr_left (f := ρc) (g := ren f g ∘ ρ) (fun x hx => (hb x hx).1)]
    simp [execOp, ho, Instr.makeFunc]
  · unfold okV; rw [all_func]
    refine ⟨fun x hx => ?_, fun x hx => ?_⟩
    · obtain ⟨y, hy, rfl⟩ := Array.mem_map.1 hx; exact (ha y hy).2
    · obtain ⟨y, hy, rfl⟩ := Array.mem_map.1 hx; exact (hb y hy).2

theorem sim_fieldAddr (r : RelH P ro w0 f g h w) {s : TypeId} {x : Operand} {j : Nat} (ho : o.op = .fieldAddr s x j) (hx : ρc x = ren f g (ρ x) ∧ okV ro h (ρ x)) {v : Value} {ob : Option AO}
    (he : neFieldAddr P s (ρ x) j = some (v, ob)) : SimV P ro w0 f g h nm w (execOp ρc o) v ob := by
  unfold neFieldAddr at he
  split at he
  · rename_i fs a hu ha
    split at he
    · rename_i fl hf
      split at he
      · rename_i n hsz
        simp only [Option.some.injEq, Prod.mk.injEq] at he
        obtain ⟨rfl, rfl⟩ := he
        rw [ha, ren_pointer] at hx
        refine .same r ?_ (by have := hx.2; unfold okV at this ⊢; rw [all_pointer] at this ⊢; rw [add_block]; exact this)
        rw [ren_pointer, adr_add]
        simp [execOp, ho, hx.1, Instr.fieldAt, run_underlying hu, hf, Instr.sureAddr, fieldPlace, sizeOf_run hsz]
      · simp at he
    · simp at he
  · simp at he

theorem part_run {t : TypeId} {cs : List Value} {off : Nat} {v : Value} (he : partOf P t cs off = some v) (f g : Nat → Nat) :
    (part t (cs.map (ren f g)).toArray off).run P w = .ok (ren f g v) w ∧ ((∀ u ∈ cs, okV ro h u) → okV ro h v) := by
  unfold partOf at he
  split at he
  · rename_i hag
    split at he
    · rename_i n hn
      simp only [Option.some.injEq] at he; subst he
      refine ⟨?_, fun hc => arr_ok fun u hu => hc u (List.mem_of_mem_drop (List.mem_of_mem_take hu))⟩
      rw [ren_arr]
      simp only [part, Sem.run_bind, isAgg_run hag, Result.andThen_ok, if_true, sizeOf_run hn, Sem.run_pure]
      congr 2
      apply Array.ext'
      simp [List.extract_eq_take_drop, List.map_take, List.map_drop]
    · simp at he
  · rename_i hag
    split at he
    · rename_i u l hd
      simp only [Option.some.injEq] at he; subst he
      have hget : cs[off]? = some u := by
        have := congrArg (fun x => x[0]?) hd
        simpa [List.getElem?_drop] using this
      refine ⟨?_, fun hc => hc u (List.mem_of_getElem? hget)⟩
      simp [part, isAgg_run hag, hget]
    · simp at he
  · simp at he

theorem agg_ok {cs : Array Value} (hv : okV ro h (.agg cs)) : ∀ u ∈ cs.toList, okV ro h u := by
  unfold okV at hv; rw [all_agg] at hv
  exact fun u hu => hv u (Array.mem_def.2 hu)
theorem ren_aggL (f g : Nat → Nat) (cs : Array Value) : ren f g (.agg cs) = .agg (cs.toList.map (ren f g)).toArray := by
  rw [ren_agg]; congr 1; apply Array.ext'; simp

theorem sim_field (r : RelH P ro w0 f g h w) {t : TypeId} {x : Operand} {j : Nat} (ho : o.op = .field t x j) (hx : ρc x = ren f g (ρ x) ∧ okV ro h (ρ x)) {v : Value} {ob : Option AO}
    (he : neField P t (ρ x) j = some (v, ob)) : SimV P ro w0 f g h nm w (execOp ρc o) v ob := by
  unfold neField at he
  split at he
  · rename_i fs cs hu ha
    split at he
    · rename_i fl hf
      unfold val1 at he
      split at he
      · rename_i u hp
        simp only [Option.some.injEq, Prod.mk.injEq] at he
        obtain ⟨rfl, rfl⟩ := he
        rw [ha, ren_aggL] at hx
        obtain ⟨h1, h2⟩ := part_run (w := w) (ro := ro) (h := h) hp f g
        refine .same r ?_ (h2 (agg_ok hx.2))
        simp [execOp, ho, hx.1, Instr.field, run_underlying hu, hf, asAgg, h1]
      · simp at he
    · simp at he
  · simp at he

theorem sim_indexAddr (r : RelH P ro w0 f g h w) {t : TypeId} {x i : Operand} (ho : o.op = .indexAddr t x i) (hx : ρc x = ren f g (ρ x) ∧ okV ro h (ρ x)) (hi : ρc i = ren f g (ρ i) ∧ okV ro h (ρ i)) {v : Value} {ob : Option AO}
    (he : neIndexAddr P t (ρ x) (ρ i) = some (v, ob)) : SimV P ro w0 f g h nm w (execOp ρc o) v ob := by
  unfold neIndexAddr at he
  split at he
  · rename_i n e a kk k hu ha hk
    split at he
    · rename_i sz hb hsz
      have hb : k < n := by simpa using hb
      simp only [Option.some.injEq, Prod.mk.injEq] at he
      obtain ⟨rfl, rfl⟩ := he
      rw [ha, ren_pointer] at hx
      rw [hk, ren_int] at hi
      refine .same r ?_ (by have := hx.2; unfold okV at this ⊢; rw [all_pointer] at this ⊢; rw [add_block]; exact this)
      rw [ren_pointer, adr_add]
      have h0 : (0 : Int) ≤ Int.ofNat k ∧ Int.ofNat k < (n : Int) := ⟨by simp, by simpa using hb⟩
      simp only [execOp, ho, hx.1, hi.1, Instr.indexAt, asIntOf, Sem.run_bind, Sem.run_pure, Result.andThen_ok, run_underlying hu, Instr.sureAddr, if_pos h0, sizeOf_run hsz]
      rfl
    · simp at he
  · rename_i e a len cap kk k hu ha hk
    split at he
    · rename_i sz hb hsz
      have hb : k < len := by simpa using hb
      simp only [Option.some.injEq, Prod.mk.injEq] at he
      obtain ⟨rfl, rfl⟩ := he
      rw [ha, ren_slice] at hx
      rw [hk, ren_int] at hi
      refine .same r ?_ (by have := hx.2; unfold okV at this ⊢; rw [all_slice] at this; rw [all_pointer, add_block]; exact this)
      rw [ren_pointer, adr_add]
      have h0 : (0 : Int) ≤ Int.ofNat k ∧ Int.ofNat k < (len : Int) := ⟨by simp, by simpa using hb⟩
      simp only [execOp, ho, hx.1, hi.1, Instr.indexAt, asIntOf, Sem.run_bind, Sem.run_pure, Result.andThen_ok, run_underlying hu, if_pos h0, sizeOf_run hsz]
      rfl
    · simp at he
  · simp at he

theorem sim_index (r : RelH P ro w0 f g h w) (hop : Opds ro h f g ρ ρc o) {t : TypeId} {x i : Operand} (ho : o.op = .index t x i) {v : Value} {ob : Option AO}
    (he : neIndex P o ρ t (ρ x) (ρ i) = some (v, ob)) : SimV P ro w0 f g h nm w (execOp ρc o) v ob := by
  have hs : ∀ cs b, o.op ≠ .select cs b := by rw [ho]; simp
  have hx := hop x (by rw [ho]; simp [Op.operands])
  have hi := hop i (by rw [ho]; simp [Op.operands])
  unfold neIndex at he
  split at he
  · rename_i cs ha
    split at he
    · rename_i n e kk k hu hk
      split at he
      · rename_i sz hb hsz
        have hb : k < n := by simpa using hb
        unfold val1 at he
        split at he
        · rename_i u hp
          simp only [Option.some.injEq, Prod.mk.injEq] at he
          obtain ⟨rfl, rfl⟩ := he
          rw [ha, ren_aggL] at hx
          rw [hk, ren_int] at hi
          obtain ⟨h1, h2⟩ := part_run (w := w) (ro := ro) (h := h) hp f g
          refine .same r ?_ (h2 (agg_ok hx.2))
          have h0 : (0 : Int) ≤ Int.ofNat k ∧ Int.ofNat k < (n : Int) := ⟨by simp, by simpa using hb⟩
          simp only [execOp, ho, hx.1, hi.1, Instr.index, asIntOf, Sem.run_bind, Sem.run_pure, Result.andThen_ok, run_underlying hu, if_pos h0, sizeOf_run hsz]
          simp [h1]
        · simp at he
      · simp at he
    · simp at he
  · rename_i s ha
    split at he
    · rename_i kk k hu hk
      split at he
      · rename_i b l hd
        simp only [Option.some.injEq, Prod.mk.injEq] at he
        obtain ⟨rfl, rfl⟩ := he
        rw [ha, ren_string] at hx
        rw [hk, ren_int] at hi
        have hget : s.data.toList[k]? = some b := by
          have := congrArg (fun x => x[0]?) hd
          simpa [List.getElem?_drop] using this
        have hk' := (List.getElem?_eq_some_iff.1 hget).1
        have hk2 : k < s.size := by simpa using hk'
        have hsk : s[k]? = some b := by
          rw [getElem?_pos s k hk2]
          have := (List.getElem?_eq_some_iff.1 hget).2
          exact congrArg some this
        refine .same r ?_ (okInt _ _)
        rw [ren_int]
        have h0 : (0 : Int) ≤ Int.ofNat k := by simp
        simp only [execOp, ho, hx.1, hi.1, Instr.index, asIntOf, Sem.run_bind, Sem.run_pure, Result.andThen_ok, run_underlying hu, if_pos h0]
        simp [hsk]
      · simp at he
    · simp at he
  · exact flat_sim r hop hs he

theorem sim_extract (r : RelH P ro w0 f g h w) {x : Operand} {i : Nat} (ho : o.op = .extract x i) (hx : ρc x = ren f g (ρ x) ∧ okV ro h (ρ x)) {v : Value} {ob : Option AO}
    (he : neExtract (ρ x) i = some (v, ob)) : SimV P ro w0 f g h nm w (execOp ρc o) v ob := by
  unfold neExtract at he
  split at he
  · rename_i vs ha
    split at he
    · rename_i u l hd
      simp only [Option.some.injEq, Prod.mk.injEq] at he
      obtain ⟨rfl, rfl⟩ := he
      have hget : vs[i]? = some u := by
        have := congrArg (fun x => x[0]?) hd
        simpa [List.getElem?_drop] using this
      rw [ha, ren_tuple] at hx
      have hok := hx.2
      unfold okV at hok; rw [all_tuple] at hok
      refine .same r ?_ (hok u (Array.mem_of_getElem? hget))
      simp [execOp, ho, hx.1, Instr.extract, hget]
    · simp at he
  · simp at he

theorem sim_range (r : RelH P ro w0 f g h w) (hr : ro ≤ nm) (hl : nm < LIM) (hn : h.get nm = none) {t : TypeId} {x : Operand} (ho : o.op = .range t x) (hx : ρc x = ren f g (ρ x) ∧ okV ro h (ρ x)) {v : Value} {ob : Option AO}
    (he : neRange P nm t (ρ x) = some (v, ob)) : SimV P ro w0 f g h nm w (execOp ρc o) v ob := by
  unfold neRange at he
  split at he
  · rename_i s hu ha
    simp only [Option.some.injEq, Prod.mk.injEq] at he
    obtain ⟨rfl, rfl⟩ := he
    rw [ha, ren_string] at hx
    refine SimV.made hr hl hn (w1 := w) (y := 0) _ r ?_ (.iter s 0 0) (fun c e hc => by simp at hc) (new_ptr nm hl _)
    rw [ren_new]
    simp [execOp, ho, hx.1, Instr.range, run_underlying hu, newObj, Sem.run]
  · simp at he

theorem sim_len (r : RelH P ro w0 f g h w) (hop : Opds ro h f g ρ ρc o) {c : Call} (ho : o.op = .call c) (hc : c.callee = .builtin .len) {v : Value} {ob : Option AO}
    (he : neLen P o ρ c.args.toList c.argTypes.toList = some (v, ob)) : SimV P ro w0 f g h nm w (execOp ρc o) v ob := by
  have hs : ∀ cs b, o.op ≠ .select cs b := by rw [ho]; simp
  unfold neLen at he
  split at he
  · rename_i x ar t ts hargs hts
    have hx := hop x (by rw [ho]; simp only [Op.operands, Call.operands, hc]; simp [Array.mem_def, hargs])
    have ha0 : (c.args.map ρc)[0]? = some (ρc x) := by rw [Array.getElem?_map]; rw [← Array.getElem?_toList, hargs]; rfl
    have ht0 : c.argTypes[0]? = some t := by rw [← Array.getElem?_toList, hts]; rfl
    have hrun : (execOp ρc o).run P w = ((Builtin.len_ c.argTypes o.type (c.args.map ρc)).run P w).andThen fun u w' => .ok (.value u) w' := by
      simp [execOp, ho, resolve, hc, invoke, builtin]
    split at he
    · rename_i e a n cap hu ha
      simp only [Option.some.injEq, Prod.mk.injEq] at he
      obtain ⟨rfl, rfl⟩ := he
      rw [ha, ren_slice] at hx
      refine .same r ?_ (okInt _ _)
      rw [ren_int, hrun]
      simp [Builtin.len_, ha0, ht0, run_underlying hu, hx.1, goInt]
    · rename_i s hu ha
      simp only [Option.some.injEq, Prod.mk.injEq] at he
      obtain ⟨rfl, rfl⟩ := he
      rw [ha, ren_string] at hx
      refine .same r ?_ (okInt _ _)
      rw [ren_int, hrun]
      simp [Builtin.len_, ha0, ht0, run_underlying hu, hx.1, goInt]
    · rename_i n e hu
      simp only [Option.some.injEq, Prod.mk.injEq] at he
      obtain ⟨rfl, rfl⟩ := he
      refine .same r ?_ (okInt _ _)
      rw [ren_int, hrun]
      simp [Builtin.len_, ha0, ht0, run_underlying hu, goInt]
    · exact flat_sim r hop hs he
  · simp at he

theorem sim_cap (r : RelH P ro w0 f g h w) (hop : Opds ro h f g ρ ρc o) {c : Call} (ho : o.op = .call c) (hc : c.callee = .builtin .cap) {v : Value} {ob : Option AO}
    (he : neCap P o ρ c.args.toList c.argTypes.toList = some (v, ob)) : SimV P ro w0 f g h nm w (execOp ρc o) v ob := by
  have hs : ∀ cs b, o.op ≠ .select cs b := by rw [ho]; simp
  unfold neCap at he
  split at he
  · rename_i x ar t ts hargs hts
    have hx := hop x (by rw [ho]; simp only [Op.operands, Call.operands, hc]; simp [Array.mem_def, hargs])
    have ha0 : (c.args.map ρc)[0]? = some (ρc x) := by rw [Array.getElem?_map]; rw [← Array.getElem?_toList, hargs]; rfl
    have ht0 : c.argTypes[0]? = some t := by rw [← Array.getElem?_toList, hts]; rfl
    have hrun : (execOp ρc o).run P w = ((Builtin.cap_ c.argTypes o.type (c.args.map ρc)).run P w).andThen fun u w' => .ok (.value u) w' := by
      simp [execOp, ho, resolve, hc, invoke, builtin]
    split at he
    · rename_i e a n cap hu ha
      split at he
      · rename_i hb
        have hb : cap < BIG := by simpa using hb
        simp only [Option.some.injEq, Prod.mk.injEq] at he
        obtain ⟨rfl, rfl⟩ := he
        rw [ha, ren_slice] at hx
        refine .same r ?_ (okInt _ _)
        rw [ren_int, hrun]
        have hcap : capR g a.block cap = cap := by unfold capR; rw [if_pos hb]
        simp [Builtin.cap_, ha0, ht0, run_underlying hu, hx.1, goInt, hcap]
      · simp at he
    · exact flat_sim r hop hs he
  · simp at he

end
end Go.Ev
