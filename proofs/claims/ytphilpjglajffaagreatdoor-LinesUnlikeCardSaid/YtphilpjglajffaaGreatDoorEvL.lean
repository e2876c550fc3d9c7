/- The evaluator's cuts, makes and builds; all operations that write nothing, together. | All operations that write nothing and run no code, together. | The evaluator's writes: stores, steps of iterators, appends, copies. | The evaluator's appends, copies, texts made without a copy. -/
import Derived.Test.YtphilpjglajffaaGreatDoorEvH
import Derived.Great.BuildSlice
import Derived.Laws.AppendOwn
import Derived.Lib.UnsafeStr
namespace Go.Ev
open Go.RowKit (Below)

section
variable {P : Program} {ro : Nat} {w0 : World} {f g : Nat → Nat} {h : H} {w : World} {nm : Nat} {ρ ρc : Operand → Value} {o : Oper}

theorem flatten_get (l : List Value) : ∀ (m i : Nat), i < m * l.length → (List.flatten (List.replicate m l))[i]? = l[i % l.length]?
  | 0, i, h => by simp at h
  | m + 1, i, h => by
    rw [List.replicate_succ, List.flatten_cons]
    by_cases hi : i < l.length
    · rw [List.getElem?_append_left hi, Nat.mod_eq_of_lt hi]
    · rw [List.getElem?_append_right (by omega), flatten_get l m (i - l.length) (by rw [Nat.add_mul] at h; omega)]
      congr 1
      conv => rhs; rw [show i = (i - l.length) + l.length from by omega, Nat.add_mod_right]

theorem zerosOf_some {e : TypeId} {n : Nat} {zs : List Value} (hz : zerosOf P e n = some zs) :
    ∃ i z, P.info? e = some i ∧ i.zero = some z ∧ flat z = true ∧ (cellsV z).length = i.size ∧ zs = List.flatten (List.replicate n (cellsV z)) ∧ n < BIG := by
  unfold zerosOf at hz
  split at hz
  · rename_i i hi
    split at hz
    · rename_i z hzz
      split at hz
      · rename_i h1 h2 h3
        simp only [Option.some.injEq] at hz
        exact ⟨i, z, hi, hzz, h1, Nat.eq_of_beq_eq_true h2, hz.symm, by simpa using h3⟩
      · simp at hz
    · simp at hz
  · simp at hz

theorem zeros_length (z : List Value) (n : Nat) : (List.flatten (List.replicate n z)).length = n * z.length := by simp

theorem zeros_flat {z : Value} (hf : flat z = true) (n : Nat) (f g : Nat → Nat) : (List.flatten (List.replicate n (cellsV z))).map (ren f g) = List.flatten (List.replicate n (cellsV z)) := by
  have hc : (cellsV z).map (ren f g) = cellsV z := by rw [← cellsV_ren, flat_id hf]
  rw [List.map_flatten, List.map_replicate, hc]

theorem zeros_ok {z : Value} (hf : flat z = true) (n : Nat) : ∀ v ∈ List.flatten (List.replicate n (cellsV z)), okV ro h v := by
  intro v hv
  rw [List.mem_flatten] at hv
  obtain ⟨l, hl, hvl⟩ := hv
  rw [List.eq_of_mem_replicate hl] at hvl
  exact cellsV_ok (flat_ok hf ro h) v hvl

/-- what a make lays: the zero value's cells, again and again -/
theorem zeros_arr (z : Array Value) (n : Nat) : ((Array.range (n * z.size)).map (z[· % z.size]!)) = (List.flatten (List.replicate n z.toList)).toArray := by
  apply Array.ext'
  rw [Array.toList_map, Array.toList_range]
  apply List.ext_getElem?
  intro i
  rw [List.getElem?_map]
  by_cases hi : i < n * z.size
  · rw [List.getElem?_range hi]
    have hp : 0 < z.size := by
      rcases Nat.eq_zero_or_pos z.size with h0 | h0
      · rw [h0] at hi; simp at hi
      · exact h0
    have hm : i % z.size < z.size := Nat.mod_lt _ hp
    have := flatten_get z.toList n i (by simpa using hi)
    rw [show ((List.replicate n z.toList).flatten.toArray.toList) = (List.replicate n z.toList).flatten from rfl, this]
    simp [hm]
  · rw [List.getElem?_eq_none (by simpa using hi), List.getElem?_eq_none (by simp; omega)]
    rfl

theorem blt_false {a b : Nat} (h : Nat.blt a b = false) : ¬ a < b := by
  intro h'
  have e : Nat.blt a b = true := Nat.ble_eq_true_of_le h'
  rw [e] at h; cases h

theorem bnd_some {y d b : Nat} {v : Option Value} (hb : bnd y v d = some b) : (v = none ∧ b = d) ∨ (∃ k, v = some (.int k (b : Int)) ∧ b ≤ y) := by
  unfold bnd at hb
  split at hb
  · simp only [Option.some.injEq] at hb; subst hb
    exact .inl ⟨rfl, rfl⟩
  · rename_i k n
    split at hb
    · rename_i hn
      have hn := Nat.le_of_ble_eq_true hn
      simp only [Option.some.injEq] at hb; subst hb
      exact .inr ⟨k, rfl, hn⟩
    · simp at hb
  · simp at hb

theorem bnd_le {y d b : Nat} {v : Option Value} (hb : bnd y v d = some b) (hd : d ≤ y) : b ≤ y := by
  rcases bnd_some hb with ⟨_, rfl⟩ | ⟨_, _, h⟩
  · exact hd
  · exact h

theorem bounds_run {isS : Bool} {len cap b l : Nat} {lo hi : Option Value} (f g : Nat → Nat) (h1 : bnd cap hi len = some b) (h2 : bnd b lo 0 = some l) :
    (Instr.sliceBounds isS len cap (lo.map (ren f g)) (hi.map (ren f g)) none).run P w = .ok (l, b, cap) w := by
  rcases bnd_some h1 with ⟨rfl, rfl⟩ | ⟨k, rfl, hb⟩ <;> rcases bnd_some h2 with ⟨rfl, rfl⟩ | ⟨k2, rfl, hl⟩
  · simp [Instr.sliceBounds]
  · simp only [Instr.sliceBounds, Instr.sliceBound, asIntOf, Option.map_none, Option.map_some, ren_int, Sem.run_bind, Sem.run_pure, Result.andThen_ok]
    rw [if_pos ⟨by omega, by omega⟩]
    simp
  · simp only [Instr.sliceBounds, Instr.sliceBound, asIntOf, Option.map_none, Option.map_some, ren_int, Sem.run_bind, Sem.run_pure, Result.andThen_ok]
    rw [if_pos ⟨by omega, by omega⟩]
    simp
  · simp only [Instr.sliceBounds, Instr.sliceBound, asIntOf, Option.map_some, ren_int, Sem.run_bind, Sem.run_pure, Result.andThen_ok]
    rw [if_pos ⟨by omega, by omega⟩]
    simp only [Sem.run_pure, Result.andThen_ok, Int.toNat_natCast]
    rw [if_pos ⟨by omega, by omega⟩]
    simp

theorem cutG {t e : TypeId} {a : Addr} {len cap size y b l : Nat} {lo hi : Option Value} (hu : P.underlying t = some (.slice e)) (hsz : szOf P e = some size) (hcap : capR g a.block cap = y) (hc2 : capR g a.block (cap + l) = y - l)
    (hne : l = 0 ∨ y ≠ l) (hb : bnd y hi len = some b) (hl : bnd b lo 0 = some l) :
    (Instr.sliceAt t (ren f g (.slice (some a) len cap)) (lo.map (ren f g)) (hi.map (ren f g)) none).run P w = .ok (ren f g (.slice (some (a.add (l * size))) (b - l) (cap + l))) w := by
  have hbr := bounds_run (P := P) (w := w) (isS := true) f g hb hl
  rw [ren_slice, hcap, ren_slice, adr_add, add_block, hc2]
  simp only [Instr.sliceAt, Sem.run_bind, run_underlying hu, Result.andThen_ok, Instr.slice, Sem.run_pure, hbr, sizeOf_run hsz]
  rcases hne with h0 | hne
  · have hz0 : ∀ x : Addr, x.add 0 = x := fun x => by simp [Addr.add]
    rw [h0, Nat.zero_mul, hz0, Nat.sub_zero]
    simp [hz0]
  · rw [if_neg hne]; rfl

theorem capG_facts {gb len l cl size : Nat} (k : Nat) (hp : 0 < size) (hcl : cl ≤ gb * size) (h2 : k * size + len * size ≤ cl) (h3 : l = 0 ∨ k * size + l * size < cl) :
    k + len ≤ gb ∧ (l = 0 ∨ gb - k ≠ l) := by
  have h1 : k + len ≤ gb := by
    have : (k + len) * size ≤ gb * size := by rw [Nat.add_mul]; omega
    exact Nat.le_of_mul_le_mul_right this hp
  refine ⟨h1, ?_⟩
  rcases h3 with h0 | h0
  · exact .inl h0
  · right
    intro heq
    have : (k + l) * size < gb * size := by rw [Nat.add_mul]; omega
    have := Nat.lt_of_mul_lt_mul_right this
    omega

theorem capR_big (g : Nat → Nat) (b k : Nat) : capR g b (BIG + k) = g b - k := by
  unfold capR
  generalize BIG = B
  rw [if_neg (by omega)]
  congr 1; omega

theorem evSlice_run (r : RelH P ro w0 f g h w) {t : TypeId} {x : Value} {lo hi mx : Option Value} {v : Value} (he : evSlice P h t x lo hi mx = some v) (hx : okV ro h x) :
    (Instr.sliceAt t (ren f g x) (lo.map (ren f g)) (hi.map (ren f g)) (mx.map (ren f g))).run P w = .ok (ren f g v) w ∧ okV ro h v := by
  unfold evSlice at he
  split at he
  · rename_i n e a hu
    split at he
    · rename_i size b hsz hb hn
      have hn : n < BIG := by simpa using hn
      split at he
      · rename_i l hl
        simp only [Option.some.injEq] at he; subst he
        have hbr := bounds_run (P := P) (w := w) (isS := false) f g hb hl
        refine ⟨?_, ?_⟩
        · rw [ren_pointer]
          simp only [Option.map_none, Instr.sliceAt, Sem.run_bind, run_underlying hu, Result.andThen_ok, Instr.sureAddr, Sem.run_pure, hbr, sizeOf_run hsz]
          by_cases hnl : n = l
          · simp only [if_pos hnl, ren_slice]
            have : n - l < BIG := by omega
            unfold capR; rw [if_pos this]
          · simp only [if_neg hnl, ren_slice, adr_add, add_block]
            have : n - l < BIG := by omega
            unfold capR; rw [if_pos this]
        · unfold okV at hx ⊢
          rw [all_pointer] at hx
          rw [all_slice]
          split
          · exact hx
          · rw [add_block]; exact hx
      · simp at he
    · simp at he
  · rename_i e a len cap hu
    split at he
    · simp at he
    · rename_i size hsz
      split at he
      · rename_i hcb
        have hcb : cap < BIG := by simpa using hcb
        split at he
        · rename_i b hb
          split at he
          · rename_i l hl
            simp only [Option.some.injEq] at he; subst he
            have hbr := bounds_run (P := P) (w := w) (isS := true) f g hb hl
            have hcap : capR g a.block cap = cap := by unfold capR; rw [if_pos hcb]
            refine ⟨?_, ?_⟩
            · rw [ren_slice, hcap]
              simp only [Option.map_none, Instr.sliceAt, Sem.run_bind, run_underlying hu, Result.andThen_ok, Instr.slice, Sem.run_pure, hbr, sizeOf_run hsz]
              by_cases hnl : cap = l
              · simp only [if_pos hnl, ren_slice]
                have : cap - l < BIG := by omega
                unfold capR; rw [if_pos this]
              · simp only [if_neg hnl, ren_slice, adr_add, add_block, Option.map_some]
                have : cap - l < BIG := by omega
                unfold capR; rw [if_pos this]
            · unfold okV at hx ⊢
              rw [all_slice] at hx
              rw [all_slice]
              split
              · exact hx
              · rw [add_block]; exact hx
          · simp at he
        · simp at he
      · rename_i hcb
        have hcb : ¬ cap < BIG := blt_false hcb
        split at he
        · rename_i c e' b hget hb
          split at he
          · rename_i l hl
            split at he
            · rename_i h1 h2 h3
              have h1 := Nat.eq_of_beq_eq_true h1
              subst h1
              have h2 := Nat.le_of_ble_eq_true h2
              simp only [Option.some.injEq] at he; subst he
              obtain ⟨hro, rest, fz, i, hw, hii, hp, hly, hz, hB⟩ := r.grow a.block c e hget
              have hs2 : size = i.size := by unfold szOf at hsz; rw [hii] at hsz; simpa using hsz.symm
              subst hs2
              obtain ⟨k, hk⟩ : ∃ k, cap = BIG + k := ⟨cap - BIG, (Nat.add_sub_cancel' (Nat.le_of_not_lt hcb)).symm⟩
              have hsub : cap - BIG = k := by rw [hk, Nat.add_sub_cancel_left]
              rw [hsub] at h2 h3
              have h3' : l = 0 ∨ k * i.size + l * i.size < c.length := by
                simp only [Bool.or_eq_true] at h3
                rcases h3 with h4 | h4
                · exact .inl (Nat.eq_of_beq_eq_true h4)
                · exact .inr (by simpa using h4)
              obtain ⟨f1, f2⟩ := capG_facts (gb := g a.block) k hp (by omega) h2 h3'
              have hb' : bnd (g a.block - k) hi len = some b := by
                rcases bnd_some hb with ⟨rfl, rfl⟩ | ⟨kk, rfl, hle⟩
                · rfl
                · show (match Nat.ble b (g a.block - k) with | true => some b | false => none) = some b
                  rw [show Nat.ble b (g a.block - k) = true from Nat.ble_eq_true_of_le (by omega)]
              refine ⟨?_, ?_⟩
              · refine cutG hu hsz (by rw [hk]; exact capR_big g a.block k) ?_ f2 hb' hl
                rw [hk, Nat.add_assoc, capR_big]; omega
              · unfold okV at hx ⊢
                rw [all_slice] at hx
                rw [all_slice, add_block]; exact hx
            · simp at he
          · simp at he
        · simp at he
  · simp at he

theorem sim_slice (r : RelH P ro w0 f g h w) (hop : Opds ro h f g ρ ρc o) {t : TypeId} {x : Operand} {lo hi mx : Option Operand} (ho : o.op = .slice t x lo hi mx) {v : Value} {ob : Option AO}
    (he : neSlice P h o ρ t (ρ x) (lo.map ρ) (hi.map ρ) (mx.map ρ) = some (v, ob)) : SimV P ro w0 f g h nm w (execOp ρc o) v ob := by
  have hs : ∀ cs b, o.op ≠ .select cs b := by rw [ho]; simp
  have hx := hop x (by rw [ho]; simp [Op.operands])
  have hopt : ∀ y : Option Operand, (∀ z, y = some z → z ∈ o.op.operands) → y.map ρc = (y.map ρ).map (ren f g) := by
    intro y hy
    cases y with
    | none => rfl
    | some z => simp [(hop z (hy z rfl)).1]
  have hlo := hopt lo (by rintro z rfl; rw [ho]; simp [Op.operands])
  have hhi := hopt hi (by rintro z rfl; rw [ho]; simp [Op.operands])
  have hmx := hopt mx (by rintro z rfl; rw [ho]; simp [Op.operands])
  have hrun : (execOp ρc o).run P w = ((Instr.sliceAt t (ren f g (ρ x)) ((lo.map ρ).map (ren f g)) ((hi.map ρ).map (ren f g)) ((mx.map ρ).map (ren f g))).run P w).andThen fun u w' => .ok (.value u) w' := by
    rw [← hx.1, ← hlo, ← hhi, ← hmx]
    simp [execOp, ho]
  unfold neSlice at he
  split at he
  · rename_i s ha
    split at he
    · rename_i hm hu
      unfold neSliceS at he
      split at he
      · rename_i b hb
        split at he
        · rename_i l hl
          simp only [Option.some.injEq, Prod.mk.injEq] at he
          obtain ⟨rfl, rfl⟩ := he
          refine .same r ?_ (okStr _)
          have hbr := bounds_run (P := P) (w := w) (isS := false) f g hb hl
          rw [hrun, ren_string, ha, ren_string, hm]
          have hst : (Instr.sliceAt t (.string s) ((lo.map ρ).map (ren f g)) ((hi.map ρ).map (ren f g)) none).run P w = .ok (.string (s.extract l b)) w := by
            simp only [Instr.sliceAt, Sem.run_bind, run_underlying hu, Result.andThen_ok, Instr.slice, Option.isSome_none, Bool.false_eq_true, if_false, Sem.run_pure, hbr]
          have hext : s.extract l b = ⟨⟨(s.data.toList.drop l).take (b - l)⟩⟩ := by
            apply ByteArray.ext; apply Array.ext'; simp [List.extract_eq_take_drop]
          rw [Option.map_none, hst, hext]; rfl
        · simp at he
      · simp at he
    · simp at he
  · exact flat_sim r hop hs he
  · unfold val1 at he
    split at he
    · rename_i u hu
      simp only [Option.some.injEq, Prod.mk.injEq] at he
      obtain ⟨rfl, rfl⟩ := he
      obtain ⟨h1, h2⟩ := evSlice_run r hu hx.2
      refine .same r ?_ h2
      rw [hrun, h1]; rfl
    · simp at he

theorem sim_make (r : RelH P ro w0 f g h w) (hr : ro ≤ nm) (hl : nm < LIM) (hn : h.get nm = none) {t : TypeId} {l c : Operand} (ho : o.op = .makeSlice t l c) (hlx : ρc l = ren f g (ρ l)) (hcx : ρc c = ren f g (ρ c)) {v : Value} {ob : Option AO}
    (he : neMake P nm t (ρ l) (ρ c) = some (v, ob)) : SimV P ro w0 f g h nm w (execOp ρc o) v ob := by
  unfold neMake at he
  split at he
  · rename_i e k1 n k2 m hu h1 h2
    split at he
    · rename_i zs i hz hi hnm hm
      have hnm := Nat.le_of_ble_eq_true hnm
      have hm := Nat.le_of_ble_eq_true hm
      split at he
      · rename_i hb
        have hb := Nat.le_of_ble_eq_true hb
        simp only [Option.some.injEq, Prod.mk.injEq] at he
        obtain ⟨rfl, rfl⟩ := he
        obtain ⟨i', z, hi', hz', hf, hlen, rfl, hB⟩ := zerosOf_some hz
        rw [hi] at hi'
        simp only [Option.some.injEq] at hi'; subst hi'
        rw [h1, ren_int] at hlx
        rw [h2, ren_int] at hcx
        have hbytes : i.bytes * m ≤ 65536 * 1048576 := Nat.mul_le_mul hb hm
        have hrun := run_make (P := P) w t e i z hu hi hz' k1 k2 (n : Int) (m : Int) (by omega) (by omega) (by omega) (by omega)
        have harr : madeCells z.cells (m * i.size) = (List.flatten (List.replicate m (cellsV z))).toArray := by
          have := zeros_arr z.cells m
          have hzs : z.cells.size = i.size := by rw [← hlen, ← cells_toList]; simp
          rw [hzs, cells_toList] at this
          rw [← this]; unfold madeCells; rw [hzs]
        refine SimV.made hr hl hn (w1 := w) (y := 0) (ob := .cells ((List.flatten (List.replicate m (cellsV z))).map (ren f g)).toArray e) _ r ?_ (.cells _ e (0, 0) (freeTo_none _) 0) ?_ (new_slice nm hl _ _ _)
        · rw [ren_newS f g nm _ _ _ _ hB, zeros_flat hf, ← harr]
          have hrun' : (Instr.makeSlice t (ρc l) (ρc c)).run P w = .ok (.slice (some ⟨w.heap.size, 0, none⟩) n m) (w.alloc (.cells (madeCells z.cells (m * i.size)) e)) := by
            rw [hlx, hcx]; simpa using hrun
          simp only [execOp, ho, Sem.run_bind, hrun']
          rfl
        · intro c' e' hc u hu
          have : c' = List.flatten (List.replicate m (cellsV z)) := by rcases hc with h | h <;> simp at h; exact h.1.symm
          subst this
          exact zeros_ok hf m u hu
      · simp at he
    · simp at he
  · simp at he

/-! ### parts laid into zero -/
theorem foldl_set_ren (f g : Nat → Nat) (off : Nat) : ∀ (L : List (Value × Nat)) (cells : Array Value),
    ((L.map fun p => (ren f g p.1, p.2)).foldl (fun cs p => cs.setIfInBounds (off + p.2) p.1) (cells.map (ren f g))) = (L.foldl (fun cs p => cs.setIfInBounds (off + p.2) p.1) cells).map (ren f g) ∧
    (L.foldl (fun cs p => cs.setIfInBounds (off + p.2) p.1) cells).size = cells.size ∧
    ∀ v ∈ L.foldl (fun cs p => cs.setIfInBounds (off + p.2) p.1) cells, v ∈ cells ∨ ∃ p ∈ L, v = p.1
  | [], cells => ⟨rfl, rfl, fun v hv => .inl hv⟩
  | p :: L, cells => by
    obtain ⟨h1, h3, h2⟩ := foldl_set_ren f g off L (cells.setIfInBounds (off + p.2) p.1)
    refine ⟨?_, ?_, ?_⟩
    · rw [List.map_cons, List.foldl_cons, List.foldl_cons, ← h1, Array.map_setIfInBounds]
    · rw [List.foldl_cons, h3, Array.size_setIfInBounds]
    · intro v hv
      rw [List.foldl_cons] at hv
      rcases h2 v hv with hv | ⟨q, hq, rfl⟩
      · rcases Array.mem_or_eq_of_mem_setIfInBounds hv with hv | rfl
        · exact .inl hv
        · exact .inr ⟨p, by simp, rfl⟩
      · exact .inr ⟨q, by simp [hq], rfl⟩

theorem cells_ren (f g : Nat → Nat) (v : Value) : (ren f g v).cells = v.cells.map (ren f g) := by
  rw [cellsV_arr, cellsV_ren, cellsV_arr]; simp

theorem fill_ren (f g : Nat → Nat) (place : Nat → Option (Nat × Nat)) : ∀ (ps : List (Nat × Value)) (cells r : Array Value), Instr.fill place cells ps = some r →
    Instr.fill place (cells.map (ren f g)) (ps.map fun p => (p.1, ren f g p.2)) = some (r.map (ren f g)) ∧ (∀ v ∈ r, v ∈ cells ∨ ∃ p ∈ ps, v ∈ p.2.cells)
  | [], cells, r, h => by
    simp only [Instr.fill, Option.some.injEq] at h; subst h
    exact ⟨rfl, fun v hv => .inl hv⟩
  | (i, u) :: ps, cells, r, h => by
    rw [Instr.fill] at h
    split at h
    · simp at h
    · rename_i off size hp
      split at h
      · simp at h
      · rename_i hc
        have hfold : ∀ (w : Value) (cs : Array Value), w.cells.zipIdx.foldl (fun cs (c, j) => cs.setIfInBounds (off + j) c) cs = w.cells.zipIdx.toList.foldl (fun cs p => cs.setIfInBounds (off + p.2) p.1) cs := by
          intro w cs; rw [← Array.foldl_toList]
        rw [hfold] at h
        obtain ⟨h1, h3, h2⟩ := foldl_set_ren f g off u.cells.zipIdx.toList cells
        obtain ⟨k1, k2⟩ := fill_ren f g place ps _ r h
        refine ⟨?_, ?_⟩
        · rw [List.map_cons, Instr.fill, hp]
          simp only [cells_ren, Array.size_map]
          rw [if_neg hc]
          have hz : (u.cells.map (ren f g)).zipIdx.toList = u.cells.zipIdx.toList.map fun p => (ren f g p.1, p.2) := by
            simp [List.zipIdx_map]
          rw [← Array.foldl_toList, hz]
          rw [show (fun (cs : Array Value) (x : Value × Nat) => match x with | (c, j) => cs.setIfInBounds (off + j) c) = fun cs p => cs.setIfInBounds (off + p.2) p.1 from rfl, h1]
          exact k1
        · intro v hv
          rcases k2 v hv with hv | ⟨p, hp, hv⟩
          · rcases h2 v hv with hv | ⟨p, hp, rfl⟩
            · exact .inl hv
            · refine .inr ⟨(i, u), by simp, ?_⟩
              have := Array.mem_def.2 hp
              rw [Array.mem_zipIdx_iff_getElem?] at this
              exact Array.mem_of_getElem? this
          · exact .inr ⟨p, by simp [hp], hv⟩

theorem cells_ok {v : Value} (hv : okV ro h v) : ∀ u ∈ v.cells, okV ro h u := by
  intro u hu
  rw [Array.mem_def, cells_toList] at hu
  exact cellsV_ok hv u hu

theorem sim_build (r : RelH P ro w0 f g h w) {t : TypeId} {ps : Array (Nat × Operand)} (ho : o.op = .build t ps) (hps : ∀ p ∈ ps, ρc p.2 = ren f g (ρ p.2) ∧ okV ro h (ρ p.2)) {v : Value} {ob : Option AO}
    (he : neBuild P t (ps.toList.map fun (j, x) => (j, ρ x)) = some (v, ob)) : SimV P ro w0 f g h nm w (execOp ρc o) v ob := by
  unfold neBuild at he
  split at he
  · rename_i i hi
    split at he
    · rename_i z hz
      split at he
      · rename_i cs hf hb
        simp only [Option.some.injEq, Prod.mk.injEq] at he
        obtain ⟨rfl, rfl⟩ := he
        have hzc : z.cells.map (ren f g) = z.cells := by rw [← cells_ren, flat_id hf]
        have hparts : (ps.map fun (j, x) => (j, ρc x)).toList = (ps.toList.map fun (j, x) => (j, ρ x)).map fun p => (p.1, ren f g p.2) := by
          rw [Array.toList_map, List.map_map]
          exact List.map_congr_left fun p hp => by
            show (p.1, ρc p.2) = (p.1, ren f g (ρ p.2))
            rw [(hps p (Array.mem_def.2 hp)).1]
        have key : P.built t (ps.map fun (j, x) => (j, ρc x)).toList = some (cs.map (ren f g)) ∧ ∀ v ∈ cs, v ∈ z.cells ∨ ∃ p ∈ (ps.toList.map fun (j, x) => (j, ρ x)), v ∈ p.2.cells := by
          rw [hparts]
          unfold Program.built at hb ⊢
          rw [hi] at hb ⊢
          split at hb
          · rename_i it n e hit hu
            simp only [Option.some.injEq] at hit; subst hit
            simp only [hz] at hb ⊢
            split at hb
            · rename_i z' ie hz' hie
              simp only [Option.some.injEq] at hz'; subst hz'
              have := fill_ren f g _ _ _ _ hb
              rw [hzc] at this
              exact this
            · simp at hb
          · rename_i it fields hit hu
            simp only [Option.some.injEq] at hit; subst hit
            simp only [hz] at hb ⊢
            split at hb
            · rename_i z' places hz' hpl
              simp only [Option.some.injEq] at hz'; subst hz'
              have := fill_ren f g _ _ _ _ hb
              rw [hzc] at this
              exact this
            · simp at hb
          · simp at hb
        refine .same r ?_ ?_
        · rw [ren_agg]
          simp only [execOp, ho, Sem.run_bind, run_build w t _ _ key.1]
          rfl
        · unfold okV; rw [all_agg]
          intro u hu
          rcases key.2 u hu with hu | ⟨p, hp, hu⟩
          · exact cells_ok (flat_ok hf ro h) u hu
          · obtain ⟨q, hq, rfl⟩ := List.mem_map.1 hp
            exact cells_ok (hps q (Array.mem_def.2 hq)).2 u hu
      · simp at he
    · simp at he
  · simp at he

theorem sim_buildSlice (r : RelH P ro w0 f g h w) (hr : ro ≤ nm) (hl : nm < LIM) (hn : h.get nm = none) {t : TypeId} {len : Nat} {ps : Array (Nat × Operand)} (ho : o.op = .buildSlice t len ps) (hps : ∀ p ∈ ps, ρc p.2 = ren f g (ρ p.2) ∧ okV ro h (ρ p.2)) {v : Value} {ob : Option AO}
    (he : neBuildSlice P nm t len (ps.toList.map fun (j, x) => (j, ρ x)) = some (v, ob)) : SimV P ro w0 f g h nm w (execOp ρc o) v ob := by
  unfold neBuildSlice at he
  split at he
  · rename_i e hu
    split at he
    · rename_i i zs hi hzs
      split at he
      · rename_i hb
        have hb := Nat.le_of_ble_eq_true hb
        split at he
        · rename_i cs hfill
          simp only [Option.some.injEq, Prod.mk.injEq] at he
          obtain ⟨rfl, rfl⟩ := he
          obtain ⟨i', z, hi', hz', hf, hlen, rfl, hB⟩ := zerosOf_some hzs
          rw [hi] at hi'
          simp only [Option.some.injEq] at hi'; subst hi'
          have hzs : z.cells.size = i.size := by rw [← hlen, ← cells_toList]; simp
          have hparts : (ps.map fun (j, x) => (j, ρc x)).toList = (ps.toList.map fun (j, x) => (j, ρ x)).map fun p => (p.1, ren f g p.2) := by
            rw [Array.toList_map, List.map_map]
            exact List.map_congr_left fun p hp => by
              show (p.1, ρc p.2) = (p.1, ren f g (ρ p.2))
              rw [(hps p (Array.mem_def.2 hp)).1]
          have harr : (Array.range (len * i.size)).map (z.cells[· % z.cells.size]!) = (List.flatten (List.replicate len (cellsV z))).toArray := by
            have := zeros_arr z.cells len
            rw [hzs, cells_toList] at this
            rw [hzs]; exact this
          have hkey := fill_ren f g _ _ _ _ hfill
          rw [← hparts] at hkey
          have hzm : (List.flatten (List.replicate len (cellsV z))).toArray.map (ren f g) = (List.flatten (List.replicate len (cellsV z))).toArray := by
            have := zeros_flat hf len f g
            apply Array.ext'; simpa using this
          rw [show (⟨(List.flatten (List.replicate len (cellsV z)))⟩ : Array Value) = (List.flatten (List.replicate len (cellsV z))).toArray from rfl, hzm] at hkey
          have hrun : (Instr.buildSlice t len (ps.map fun (j, x) => (j, ρc x))).run P w = .ok (.slice (some ⟨w.heap.size, 0, none⟩) len len) (w.alloc (.cells (cs.map (ren f g)) e)) := by
            by_cases hpos : len * i.size = 0
            · have hnil : (List.flatten (List.replicate len (cellsV z))) = [] := by
                apply List.eq_nil_of_length_eq_zero
                rw [zeros_length, hlen]; exact hpos
              rw [hnil] at hkey
              have hk1 := hkey.1
              have e0 : ∀ k : Nat → Value, (Array.range 0).map k = #[] := fun k => by simp
              simp only [Instr.buildSlice, Sem.run_bind, run_underlying hu, Result.andThen_ok, sizeOf_run (show szOf P e = some i.size from by simp [szOf, hi]), hpos, e0]
              have e1 : ¬ (0 : Nat) > 2 ^ 24 := by decide
              simp only [e1, if_false, if_true, Sem.run_bind, Sem.run_pure, Result.andThen_ok, hk1, newRow]
              rfl
            · refine run_buildSlice w t e len _ _ i z hu hi hz' (by have : (2:Nat)^24 = 16777216 := by decide
                                                                    omega) hpos ?_
              rw [harr]; exact hkey.1
          refine SimV.made hr hl hn (w1 := w) (y := 0) (ob := .cells (cs.toList.map (ren f g)).toArray e) _ r ?_ (.cells _ e (0, 0) (freeTo_none _) 0) ?_ (new_slice nm hl _ _ _)
          · have hlB : len < BIG := hB
            rw [ren_newS f g nm _ _ _ _ hlB]
            have hc : (cs.toList.map (ren f g)).toArray = cs.map (ren f g) := by apply Array.ext'; simp
            rw [hc]
            simp only [execOp, ho, Sem.run_bind, hrun]
            rfl
          · intro c' e' hc u hu
            have : c' = cs.toList := by rcases hc with h | h <;> simp at h; exact h.1.symm
            subst this
            rcases hkey.2 u (Array.mem_def.2 hu) with hu | ⟨p, hp, hu⟩
            · exact zeros_ok hf len u (by simpa using hu)
            · obtain ⟨q, hq, rfl⟩ := List.mem_map.1 hp
              exact cells_ok (hps q (Array.mem_def.2 hq)).2 u hu
        · simp at he
      · simp at he
    · simp at he
  · simp at he

end
end Go.Ev

namespace Go.Ev
open Go.RowKit (Below)

section
variable {P : Program} {ro : Nat} {w0 : World} {f g : Nat → Nat} {h : H} {w : World} {nm : Nat} {ρ ρc : Operand → Value} {o : Oper}

theorem sim_move (r : RelH P ro w0 f g h w) {x : Operand} (ho : o.op = .move x ∨ o.op = .assign x) (hx : ρc x = ren f g (ρ x) ∧ okV ro h (ρ x)) : SimV P ro w0 f g h nm w (execOp ρc o) (ρ x) none := by
  refine .same r ?_ hx.2
  rw [← hx.1]
  rcases ho with ho | ho <;> simp [execOp, ho]

theorem simNE (r : RelH P ro w0 f g h w) (hop : Opds ro h f g ρ ρc o) (hs : ∀ cs b, o.op ≠ .select cs b) (hr : ro ≤ nm) (hl : nm < LIM) (hn : h.get nm = none) {v : Value} {ob : Option AO}
    (he : evNE P nm h o ρ = some (v, ob)) : SimV P ro w0 f g h nm w (execOp ρc o) v ob := by
  have one : ∀ x, x ∈ o.op.operands → ρc x = ren f g (ρ x) ∧ okV ro h (ρ x) := hop
  have ps : ∀ (ps : Array (Nat × Operand)), o.op.operands = ps.map (·.2) → ∀ p ∈ ps, ρc p.2 = ren f g (ρ p.2) ∧ okV ro h (ρ p.2) := fun ps hps p hp => hop p.2 (by rw [hps]; exact Array.mem_map.2 ⟨p, hp, rfl⟩)
  unfold evNE at he
  split at he
  · rename_i x ho
    simp only [Option.some.injEq, Prod.mk.injEq] at he
    obtain ⟨rfl, rfl⟩ := he
    exact sim_move r (.inl ho) (one x (by rw [ho]; simp [Op.operands]))
  · rename_i x ho
    simp only [Option.some.injEq, Prod.mk.injEq] at he
    obtain ⟨rfl, rfl⟩ := he
    exact sim_move r (.inr ho) (one x (by rw [ho]; simp [Op.operands]))
  · rename_i c a b ho
    exact sim_pick r ho (one c (by rw [ho]; simp [Op.operands])) (one a (by rw [ho]; simp [Op.operands])) (one b (by rw [ho]; simp [Op.operands])) he
  · rename_i e ho
    exact sim_alloc r hr hl hn ho he
  · rename_i e x ho
    simp only [Option.some.injEq, Prod.mk.injEq] at he
    obtain ⟨rfl, rfl⟩ := he
    exact sim_box r hr hl hn ho (one x (by rw [ho]; simp [Op.operands]))
  · rename_i t q ho
    exact sim_build r ho (ps q (by rw [ho]; apply Array.ext'; simp [Op.operands])) he
  · rename_i t len q ho
    exact sim_buildSlice r hr hl hn ho (ps q (by rw [ho]; apply Array.ext'; simp [Op.operands])) he
  · rename_i t x ho
    exact sim_load r ho (one x (by rw [ho]; simp [Op.operands])) he
  · rename_i x ho
    exact sim_nil r ho (one x (by rw [ho]; simp [Op.operands])) he
  · rename_i op t x y yt ho
    exact sim_bin r hop ho he
  · rename_i op t x ho
    exact sim_un r hop ho he
  · rename_i src dst x ho
    exact sim_conv r hop hr hl hn ho he
  · rename_i arr x ho
    exact sim_s2a r ho (one x (by rw [ho]; simp [Op.operands])) he
  · rename_i t x ho
    exact sim_iface r ho (one x (by rw [ho]; simp [Op.operands])) he
  · rename_i fn a b ho
    simp only [Option.some.injEq, Prod.mk.injEq] at he
    obtain ⟨rfl, rfl⟩ := he
    exact sim_func r ho hop
  · rename_i t l c ho
    exact sim_make r hr hl hn ho (one l (by rw [ho]; simp [Op.operands])).1 (one c (by rw [ho]; simp [Op.operands])).1 he
  · rename_i t x lo hi mx ho
    exact sim_slice r hop ho he
  · rename_i s x j ho
    exact sim_fieldAddr r ho (one x (by rw [ho]; simp [Op.operands])) he
  · rename_i t x j ho
    exact sim_field r ho (one x (by rw [ho]; simp [Op.operands])) he
  · rename_i t x i ho
    exact sim_indexAddr r ho (one x (by rw [ho]; simp [Op.operands])) (one i (by rw [ho]; simp [Op.operands])) he
  · rename_i t x i ho
    exact sim_index r hop ho he
  · rename_i x i ho
    exact sim_extract r ho (one x (by rw [ho]; simp [Op.operands])) he
  · rename_i t x ho
    exact sim_range r hr hl hn ho (one x (by rw [ho]; simp [Op.operands])) he
  · rename_i c ho
    unfold neCall at he
    split at he
    · rename_i hc
      exact sim_len r hop ho hc he
    · rename_i hc
      exact sim_cap r hop ho hc he
    · exact flat_sim r hop hs he
  · exact flat_sim r hop hs he

end
end Go.Ev

namespace Go.Ev
open Go.RowKit (Below)

section
variable {P : Program} {ro : Nat} {w0 : World} {f g : Nat → Nat} {h : H} {w : World} {ρ ρc : Operand → Value} {o : Oper}

/-- a write answers as it was evaluated -/
def SimE (P : Program) (ro : Nat) (w0 : World) (f g : Nat → Nat) (h : H) (w : World) (S : Sem Next) (v : Value) (h' : H) : Prop :=
  ∃ f' g' w', (S.run P w = .ok (.value (ren f' g' v)) w' ∨ (v = undef ∧ S.run P w = .ok .skip w')) ∧ RelH P ro w0 f' g' h' w' ∧ Agree ro h f g f' g' ∧ okV ro h' v

theorem sim_store (r : RelH P ro w0 f g h w) {t : TypeId} {a x : Operand} (ho : o.op = .store t a x) (ha : ρc a = ren f g (ρ a)) (hx : ρc x = ren f g (ρ x) ∧ okV ro h (ρ x)) {v : Value} {h' : H}
    (he : effStore P ro h t (ρ a) (ρ x) = some (v, h')) : SimE P ro w0 f g h w (execOp ρc o) v h' := by
  unfold effStore at he
  split at he
  · rename_i ad had
    split at he
    · rename_i h1 hst
      simp only [Option.some.injEq, Prod.mk.injEq] at he
      obtain ⟨rfl, rfl⟩ := he
      unfold evStore at hst
      split at hst
      · rename_i n hn
        split at hst
        · rename_i hb
          have hb := Nat.eq_of_beq_eq_true hb
          obtain ⟨w', hrun, hr, hd⟩ := r.stored hst (cellsV_ok hx.2)
          refine ⟨f, g, w', .inr ⟨rfl, ?_⟩, hr, Agree.refl .., by unfold okV; exact all_undef _⟩
          rw [had, ren_pointer] at ha
          have hsz : ¬ (ren f g (ρ x)).cells.size ≠ n := by
            rw [cells_ren, Array.size_map, ← Array.length_toList, cells_toList, hb]; simp
          have hl : (ren f g (ρ x)).cells.toList = (cellsV (ρ x)).map (ren f g) := by rw [cells_toList, cellsV_ren]
          simp only [execOp, ho, ha, hx.1, Instr.storeAt, Instr.sureAddr, storeVar, Sem.run_bind, Sem.run_pure, Result.andThen_ok, sizeOf_run hn, if_neg hsz, hl, hrun]
        · simp at hst
      · simp at hst
    · simp at he
  · simp at he

theorem okTup1 (b : Bool) : okV ro h (.tuple #[.bool b]) := by unfold okV; rw [all_tuple]; simp [all_bool]

theorem sim_next (r : RelH P ro w0 f g h w) {it : Operand} (ho : o.op = .next it true) (hit : ρc it = ren f g (ρ it)) {v : Value} {h' : H}
    (he : effNext ro h (ρ it) = some (v, h')) : SimE P ro w0 f g h w (execOp ρc o) v h' := by
  unfold effNext at he
  split at he
  · rename_i b hb
    rw [hb, ren_pointer] at hit
    split at he
    · rename_i s pos hro hg
      have hro := Nat.le_of_ble_eq_true hro
      have hw := r.iter b s pos hg
      have hlt := (Array.getElem?_eq_some_iff.1 hw).1
      split at he
      · rename_i hp
        have hp : pos < s.size := by simpa using hp
        simp only [Option.some.injEq, Prod.mk.injEq] at he
        obtain ⟨rfl, rfl⟩ := he
        refine ⟨f, g, { w with heap := w.heap.setIfInBounds (f b) (.stringIter s (pos + (Utf8.decode s pos).2)) }, .inl ?_, ?_, Agree.refl .., ?_⟩
        · simp [execOp, ho, hit, adr, Instr.next, getObj, setObj, Sem.run, hw, hp, goInt, ren_tuple, ren_bool, ren_int]
        · refine r.turn hro hg (by simp) ⟨rfl, rfl, rfl, by simp, fun i hi => ?_⟩ (.stringIter s (pos + (Utf8.decode s pos).2)) ?_ (.inr (.iter _ _ _)) (fun c e hc => by simp at hc)
          · simp only [Array.getElem?_setIfInBounds]
            rw [if_neg (fun e => hi e.symm)]
          · simp only [Array.getElem?_setIfInBounds]
            simp [hlt]
        · unfold okV; rw [all_tuple]
          intro x hx
          simp only [List.mem_toArray, List.mem_cons, List.not_mem_nil, or_false] at hx
          rcases hx with rfl | rfl | rfl
          · rw [all_bool]; trivial
          · rw [all_int]; trivial
          · rw [all_int]; trivial
      · rename_i hp
        have hp : ¬ pos < s.size := blt_false hp
        simp only [Option.some.injEq, Prod.mk.injEq] at he
        obtain ⟨rfl, rfl⟩ := he
        refine ⟨f, g, w, .inl ?_, r, Agree.refl .., okTup1 _⟩
        simp [execOp, ho, hit, adr, Instr.next, getObj, Sem.run, hw, hp, ren_tuple, ren_bool]
    · simp at he
  · simp at he

/-- a call of a builtin runs as the builtin -/
theorem builtin_run {c : Call} {b : Builtin} {k : Array TypeId → TypeId → Array Value → Sem Value} (ho : o.op = .call c) (hc : c.callee = .builtin b)
    (hb : ∀ ats ty cs args, builtin b ats ty cs args = (do pure (.value (← k ats ty args)))) :
    (execOp ρc o).run P w = ((k c.argTypes o.type (c.args.map ρc)).run P w).andThen fun u w' => .ok (.value u) w' := by
  simp [execOp, ho, resolve, hc, invoke, hb]

theorem src_sim (r : RelH P ro w0 f g h w) {size n : Nat} {x : Value} {new : List Value} (hs : srcOf h size x = some (n, new)) :
    (Builtin.lenOf (ren f g x)).run P w = .ok n w ∧ (∀ w', w'.heap = w.heap → (Builtin.firstCells size n (ren f g x)).run P w' = .ok (new.map (ren f g)).toArray w') ∧ (∀ v ∈ new, okV ro h v) := by
  unfold srcOf at hs
  split at hs
  · rename_i c
    simp only [Option.some.injEq, Prod.mk.injEq] at hs
    obtain ⟨rfl, rfl⟩ := hs
    rw [ren_nilslice]
    exact ⟨rfl, fun w' _ => rfl, by simp⟩
  · rename_i a m c
    split at hs
    · rename_i l hl
      simp only [Option.some.injEq, Prod.mk.injEq] at hs
      obtain ⟨rfl, rfl⟩ := hs
      rw [ren_slice]
      refine ⟨rfl, fun w' hw' => ?_, r.ldOk hl⟩
      have hcell := r.loaded hl
      refine run_firstCells_some (P := P) w' size m (adr f a) m _ (l.map (ren f g)) (by rw [List.length_map]; exact ldN_length hl) fun j v hv => ?_
      have := hcell j v hv
      rw [← this]
      simp only [World.cell?, hw']
    · simp at hs
  · rename_i s
    simp only [Option.some.injEq, Prod.mk.injEq] at hs
    obtain ⟨rfl, rfl⟩ := hs
    rw [ren_string]
    refine ⟨rfl, fun w' _ => ?_, bytesV_ok s⟩
    rw [bytesV_ren]
    simp only [Builtin.firstCells, Sem.run_pure, bytesV]
    congr 1
    apply Array.ext'
    simp
  · simp at hs

section app
variable {st xt e ty : TypeId} {d : TypeDesc} {i : TypeInfo} {z : Value} {base : Option Addr} {len cap n : Nat} {x : Value} {news : Array Value} {ts : Array TypeId} {args : Array Value}

theorem append_fit (h0 : ts[0]? = some st) (h1 : ts[1]? = some xt) (a0 : args[0]? = some (.slice base len cap)) (a1 : args[1]? = some x) (hu : P.underlying st = some (.slice e)) (hx : P.underlying xt = some d) (hd : ∀ k, d ≠ .int k)
    (hi : P.info? e = some i) (hlen : (Builtin.lenOf x).run P w = .ok n w) (hfc : (Builtin.firstCells i.size n x).run P w = .ok news w) (hfit : len + n ≤ cap) :
    (Builtin.append_ ts ty args).run P w = ((match base with | some a => storeCells (a.add (len * i.size)) news.toList | none => pure ()).run P w).andThen fun _ w' => .ok (.slice base (len + n) cap) w' := by
  have hsz : szOf P e = some i.size := by simp [szOf, hi]
  cases d <;> first
    | exact absurd rfl (hd _)
    | (simp only [Builtin.append_, h0, a0, a1, h1, Sem.run_bind, run_underlying hu, run_underlying hx, Result.andThen_ok, sizeOf_run hsz, Sem.run_pure, Bool.false_eq_true, if_false, hlen, Bool.not_false, if_true, hfit, hfc]
       cases base <;> simp only [Sem.run_bind, Sem.run_pure, Result.andThen_ok])

theorem append_grow {olds : Array Value} (h0 : ts[0]? = some st) (h1 : ts[1]? = some xt) (a0 : args[0]? = some (.slice base len cap)) (a1 : args[1]? = some x) (hu : P.underlying st = some (.slice e)) (hx : P.underlying xt = some d) (hd : ∀ k, d ≠ .int k)
    (hi : P.info? e = some i) (hz : i.zero = some z) (hlen : (Builtin.lenOf x).run P w = .ok n w) (hfc : (Builtin.firstCells i.size n x).run P w.drew = .ok news w.drew) (hfo : (Builtin.firstCells i.size len (.slice base len cap)).run P w.drew = .ok olds w.drew)
    (hfit : ¬ len + n ≤ cap) (h63 : (len + n : Nat) ≤ 9223372036854775807) (hroom : Builtin.nextslicecap (len + n) cap * i.bytes ≤ 281474976710656) :
    (Builtin.append_ ts ty args).run P w = .ok (.slice (some ⟨w.heap.size, 0, none⟩) (len + n) (grownCap w (len + n) cap e))
      (w.drew.alloc (.cells (olds ++ news ++ Builtin.zeroCells z.cells (grownCap w (len + n) cap e - (len + n))) e)) := by
  have hsz : szOf P e = some i.size := by simp [szOf, hi]
  have h63' : ¬ (9223372036854775807 < (len : Int) + (n : Int)) := by omega
  have h48 : ¬ (281474976710656 < Builtin.nextslicecap (len + n) cap * i.bytes) := by omega
  cases d <;> first
    | exact absurd rfl (hd _)
    | (simp only [Builtin.append_, h0, a0, a1, h1, Sem.run_bind, run_underlying hu, run_underlying hx, Result.andThen_ok, sizeOf_run hsz, Sem.run_pure, Bool.false_eq_true, if_false, hlen, Bool.not_false, if_true, hfit]
       simp [typeInfo, zeroValue, hi, hz, h63', h48, Question.forced, hfc, hfo, newRow, grownCap])

end app
end
end Go.Ev

namespace Go.Ev
open Go.RowKit (Below)

section
variable {P : Program} {ro : Nat} {w0 : World} {f g : Nat → Nat} {h : H} {w : World} {ρ ρc : Operand → Value} {o : Oper}

/-- a new name for a block that stands in the world, and that no other name has -/
theorem RelH.name (r : RelH P ro w0 f g h w) {b k : Nat} {ao : AO} {o : Obj} {y : Nat} (hr : ro ≤ b) (hl : b < LIM) (hn : h.get b = none) (hk : w0.heap.size ≤ k) (ho : w.heap[k]? = some o) (ht : Tied P f g ao o y)
    (hfar : ∀ x o', ro ≤ x → h.get x = some o' → o' ≠ .dead → f x ≠ k) (hc : ∀ c e, ao = .cells c e ∨ ao = .grow c e → ∀ v ∈ c, okV ro h v) :
    RelH P ro w0 (upd f b k) (upd g b y) (h.put b ao) w := by
  have ag := agree_upd f g hr hn k y
  have other : ∀ x o', (h.put b ao).get x = some o' → x ≠ b → h.get x = some o' := fun x o' hx hne => by rwa [H.get_put_other hl _ hne] at hx
  have mine : ∀ o', (h.put b ao).get b = some o' → o' = ao := fun o' hx => by rw [H.get_put_same hl] at hx; exact (Option.some.inj hx).symm
  have cells : ∀ x c e, rowOf h x = some (c, e) → c.map (ren f g) = c.map (ren (upd f b k) (upd g b y)) := fun x c e hx => cells_renamed ag (r.cok x c e hx)
  refine ⟨r.below, ?_, ?_, ?_, ?_, ?_, ?_, ?_, ?_, r.lim, ?_⟩
  · intro x c e hx
    by_cases hxb : x = b
    · subst hxb
      have := mine _ hx
      subst this
      cases ht with
      | cells c e fz hz y =>
        refine ⟨fz, ?_, fun _ => hz⟩
        rw [upd_same, ho, cells_renamed ag (hc c e (.inl rfl))]
    · have hx' := other x _ hx hxb
      obtain ⟨fz, hw, hz⟩ := r.row x c e hx'
      refine ⟨fz, ?_, hz⟩
      rw [upd_other _ _ hxb, ← cells x c e (by simp [rowOf, hx'])]
      exact hw
  · intro x c e hx
    by_cases hxb : x = b
    · subst hxb
      have := mine _ hx
      subst this
      cases ht with
      | grow c e rest fz i y hi hp hly hz hB =>
        refine ⟨hr, rest, fz, i, ?_, hi, hp, by rw [upd_same]; exact hly, hz, by rw [upd_same]; exact hB⟩
        rw [upd_same, ho, cells_renamed ag (hc c e (.inr rfl))]
    · have hx' := other x _ hx hxb
      obtain ⟨hro, rest, fz, i, hw, hi, hp, hly, hz, hB⟩ := r.grow x c e hx'
      refine ⟨hro, rest, fz, i, ?_, hi, hp, by rw [upd_other _ _ hxb]; exact hly, hz, by rw [upd_other _ _ hxb]; exact hB⟩
      rw [upd_other _ _ hxb, ← cells x c e (by simp [rowOf, hx'])]
      exact hw
  · intro x s p hx
    by_cases hxb : x = b
    · subst hxb
      have := mine _ hx
      subst this
      cases ht with
      | iter s p y => rw [upd_same, ho]
    · rw [upd_other _ _ hxb]
      exact r.iter x s p (other x _ hx hxb)
  · intro x c e hx v hv
    by_cases hxb : x = b
    · subst hxb
      have hx2 := rowOf_some hx
      have : ao = .cells c e ∨ ao = .grow c e := by
        rcases hx2 with h1 | h1
        · exact .inl (mine _ h1).symm
        · exact .inr (mine _ h1).symm
      exact okV_put hl _ (hc c e this v hv)
    · have hx' : rowOf h x = some (c, e) := by unfold rowOf at hx ⊢; rwa [H.get_put_other hl _ hxb] at hx
      exact okV_put hl _ (r.cok x c e hx' v hv)
  · intro x o' hro hx hd
    by_cases hxb : x = b
    · subst hxb; rw [upd_same]; exact hk
    · rw [upd_other _ _ hxb]; exact r.new x o' hro (other x _ hx hxb) hd
  · intro x o' hro hx hd
    have hxb : x ≠ b := by omega
    rw [upd_other _ _ hxb]
    exact r.old x o' hro (other x _ hx hxb) hd
  · intro x x' o1 o2 hx hx' h1 h2 d1 d2 he
    by_cases e1 : x = b
    · by_cases e2 : x' = b
      · rw [e1, e2]
      · subst e1
        rw [upd_same, upd_other _ _ e2] at he
        exact absurd he.symm (hfar x' o2 hx' (other x' _ h2 e2) d2)
    · by_cases e2 : x' = b
      · subst e2
        rw [upd_same, upd_other _ _ e1] at he
        exact absurd he (hfar x o1 hx (other x _ h1 e1) d1)
      · rw [upd_other _ _ e1, upd_other _ _ e2] at he
        exact r.inj x x' o1 o2 hx hx' (other x _ h1 e1) (other x' _ h2 e2) d1 d2 he
  · intro x hx
    have hg := r.glob x hx
    exact ⟨by rw [upd_other _ _ (by omega)]; exact hg.1, hg.2⟩
  · intro x o' hx
    by_cases hxb : x = b
    · subst hxb; exact hl
    · exact r.lt x o' (other x _ hx hxb)

theorem zOk_some {i : TypeInfo} (hz : zOk i = true) : ∃ z, i.zero = some z ∧ (cellsV z).length = i.size ∧ flat z = true := by
  unfold zOk at hz
  split at hz
  · rename_i z hzz
    simp only [Bool.and_eq_true] at hz
    exact ⟨z, hzz, Nat.eq_of_beq_eq_true hz.1, hz.2⟩
  · simp at hz

structure ApOk (h : H) (i : TypeInfo) (n : Nat) (new : List Value) (z : Value) : Prop where
  nx : h.nx < LIM
  bytes : i.bytes ≤ 65536
  zero : i.zero = some z
  zl : z.cells.size = i.size
  len : new.length = n * i.size
  n : n ≤ 1048576
  pos : 0 < i.size
  one : new.all one = true

theorem apOk_some {i : TypeInfo} {n : Nat} {new : List Value} (hs : apOk h i n new = true) : ∃ z, ApOk h i n new z := by
  unfold apOk at hs
  simp only [Bool.and_eq_true] at hs
  obtain ⟨h1, h2, h3, h4, h5, h6, h7⟩ := hs
  obtain ⟨z, z1, z2, _⟩ := zOk_some h3
  exact ⟨z, by simpa using h1, Nat.le_of_ble_eq_true h2, z1, by rw [← z2, ← cells_toList]; simp, Nat.eq_of_beq_eq_true h4, Nat.le_of_ble_eq_true h5, by simpa using h6, h7⟩

theorem zeroCells_size (z : Array Value) (n : Nat) : (Builtin.zeroCells z n).size = n * z.size := by simp [Builtin.zeroCells]

/-- a new row as an append lays it -/
theorem grown_sim (r : RelH P ro w0 f g h w) (hro : ro ≤ h.nx) (hn : h.get h.nx = none) {e : TypeId} {i : TypeInfo} {n m : Nat} {new cs : List Value} {z v : Value} {h' : H} (hi : P.info? e = some i) (ap : ApOk h i n new z)
    (hcs : cs.length = m * i.size) (hok : ∀ u ∈ cs, okV ro h u) (cap : Nat) (hcap : m ≤ cap) (hB : cap < BIG) (he : apNew h e m cs = some (v, h')) :
    ∃ f' g', ren f' g' v = .slice (some ⟨w.heap.size, 0, none⟩) m cap ∧
      RelH P ro w0 f' g' h' (w.drew.alloc (.cells ((cs.map (ren f g)).toArray ++ Builtin.zeroCells z.cells (cap - m)) e)) ∧ Agree ro h f g f' g' ∧ okV ro h' v := by
  unfold apNew at he
  simp only [Option.some.injEq, Prod.mk.injEq] at he
  obtain ⟨rfl, rfl⟩ := he
  refine ⟨upd f h.nx w.heap.size, upd g h.nx cap, ren_newG .., ?_, agree_upd f g hro hn _ _, new_slice h.nx ap.nx _ _ _⟩
  refine RelH.nx ?_ _
  have := r.drew.alloc (b := h.nx) (ao := .grow cs e) (o := .cells ((cs.map (ren f g)).toArray ++ Builtin.zeroCells z.cells (cap - m)) e) (y := cap) hro ap.nx hn ?_ ?_
  · exact this
  · have hrest : (cs.map (ren f g)).toArray ++ Builtin.zeroCells z.cells (cap - m) = (cs.map (ren f g) ++ (Builtin.zeroCells z.cells (cap - m)).toList).toArray := by
      apply Array.ext'; simp
    rw [hrest]
    refine .grow cs e _ (0, 0) i cap hi ap.pos ?_ (freeTo_none _) hB
    show cap * i.size = cs.length + (Builtin.zeroCells z.cells (cap - m)).size
    rw [zeroCells_size, ap.zl, hcs, ← Nat.add_mul]
    congr 1; omega
  · intro c e' hc u hu
    have : c = cs := by rcases hc with h | h <;> simp at h; exact h.1.symm
    subst this
    exact hok u hu

theorem next_fits {n need cap bytes : Nat} (h : cap < need) (hn : need ≤ 2 * n) (hn2 : n ≤ 1048576) (hb : bytes ≤ 65536) : Builtin.nextslicecap need cap * bytes ≤ 281474976710656 := by
  apply growslice_fits h
  have : need * bytes ≤ (2 * 1048576) * 65536 := Nat.mul_le_mul (by omega) hb
  omega

/-- a block that is known no more -/
theorem RelH.kill (r : RelH P ro w0 f g h w) {b : Nat} {c : List Value} {e : TypeId} (hro : ro ≤ b) (hb : h.get b = some (.grow c e)) : RelH P ro w0 f g (h.put b .dead) w := by
  obtain ⟨_, rest, fz, i, hw, _⟩ := r.grow b c e hb
  exact r.turn hro hb (by simp) (Wr.refl w _) _ hw (.inl rfl) (fun c e hc => by simp at hc)

theorem put_swap (h : H) {a b : Nat} (x y : AO) (hab : a ≠ b) : (h.put a x).put b y = (h.put b y).put a x := by
  unfold H.put
  simp only
  rw [T.put_comm x y K h.t a b hab]

theorem splice_mid (c : List Value) (off : Nat) (l : List Value) : splice c off l = (c.take off ++ l) ++ c.drop (off + l.length) := by unfold splice; simp

theorem apBig_sim (r : RelH P ro w0 f g h w) (hro : ro ≤ h.nx) (hn : h.get h.nx = none) {c : Call} {st xt e : TypeId} {d : TypeDesc} {i : TypeInfo} {z : Value} {n : Nat} {new : List Value} {a : Addr} {len cap : Nat} {x : Value}
    (_ho : o.op = .call c) (hu : P.underlying st = some (.slice e)) (hxu : P.underlying xt = some d) (hd : ∀ k, d ≠ .int k) (hi : P.info? e = some i) (ap : ApOk h i n new z)
    (hlen : (Builtin.lenOf (ren f g x)).run P w = .ok n w) (hfc : ∀ w', w'.heap = w.heap → (Builtin.firstCells i.size n (ren f g x)).run P w' = .ok (new.map (ren f g)).toArray w') (hok : ∀ v ∈ new, okV ro h v)
    (hl : len ≤ 1048576) (hcb : ¬ cap < BIG) (h0 : c.argTypes[0]? = some st) (h1 : c.argTypes[1]? = some xt) (a0 : (c.args.map ρc)[0]? = some (.slice (some (adr f a)) len (capR g a.block cap))) (a1 : (c.args.map ρc)[1]? = some (ren f g x))
    (hrun : (execOp ρc o).run P w = ((Builtin.append_ c.argTypes o.type (c.args.map ρc)).run P w).andThen fun u w' => .ok (.value u) w') (hsok : okV ro h (.slice (some a) len cap))
    {v : Value} {h' : H} (he : apBig ro h e i.size n new a len cap = some (v, h')) : SimE P ro w0 f g h w (execOp ρc o) v h' := by
  obtain ⟨k, hk⟩ : ∃ k, cap = BIG + k := ⟨cap - BIG, (Nat.add_sub_cancel' (Nat.le_of_not_lt hcb)).symm⟩
  have hsub : cap - BIG = k := by rw [hk, Nat.add_sub_cancel_left]
  have hcap : capR g a.block cap = g a.block - k := by rw [hk]; exact capR_big g a.block k
  unfold apBig at he
  rw [hsub] at he
  split at he
  · rename_i cs e' hget hspot
    split at he
    · rename_i hc
      simp only [Bool.and_eq_true] at hc
      obtain ⟨c1, c2, c3⟩ := hc
      have c1 := Nat.eq_of_beq_eq_true c1
      subst c1
      have c2 := Nat.le_of_ble_eq_true c2
      have c3 := Nat.le_of_ble_eq_true c3
      obtain ⟨hrb, rest, fz, i', hw, hi', hp, hly, hfz, hB⟩ := r.grow a.block cs e hget
      rw [hi] at hi'
      simp only [Option.some.injEq] at hi'; subst hi'
      have hkl : k + len ≤ g a.block := by
        have : (k + len) * i.size ≤ g a.block * i.size := by rw [Nat.add_mul]; omega
        exact Nat.le_of_mul_le_mul_right this hp
      split at he
      · rename_i _ hn0
        simp only [Option.some.injEq, Prod.mk.injEq] at he
        obtain ⟨rfl, rfl⟩ := he
        have hnil : new = [] := List.eq_nil_of_length_eq_zero (by rw [ap.len, Nat.zero_mul])
        have hfit := append_fit (P := P) (w := w) (ty := o.type) h0 h1 a0 a1 hu hxu hd hi hlen (hfc w rfl) (by rw [hcap]; omega)
        refine ⟨f, g, w, .inl ?_, r, Agree.refl .., hsok⟩
        rw [hrun, hfit, ren_slice, hnil]
        rfl
      · rename_i m
        split at he
        · rename_i hc
          simp only [Bool.and_eq_true] at hc
          obtain ⟨d1, d2, d3⟩ := hc
          have d1 := Nat.eq_of_beq_eq_true d1
          have d2 := Nat.eq_of_beq_eq_true d2
          have hk0 : k = 0 := by rw [d2] at hk; exact (Nat.add_left_cancel (n := BIG) (m := 0) (by rw [Nat.add_zero]; exact hk)).symm
          subst hk0
          rw [Nat.zero_mul, Nat.zero_add] at c3
          rw [Nat.zero_add] at hkl
          rw [Nat.sub_zero] at hcap
          rw [hcap] at a0
          have hadr : adr f a = ⟨f a.block, 0, none⟩ := by unfold adr; rw [d1, hspot]
          have hne : h.nx ≠ a.block := fun e1 => by rw [← e1, hn] at hget; simp at hget
          have hlt := ap.nx
          have hltb := r.lt _ _ hget
          simp only [Option.some.injEq, Prod.mk.injEq] at he
          obtain ⟨rfl, rfl⟩ := he
          have hokc : ∀ u ∈ cs.take (len * i.size) ++ new, okV ro h u := fun u hu => by
            rcases List.mem_append.1 hu with hu | hu
            · exact r.cok a.block cs e (by simp [rowOf, hget]) u (List.mem_of_mem_take hu)
            · exact hok u hu
          have hokr : ∀ h2 : H, okV ro ({ (h2.put h.nx (.grow (cs.take (len * i.size) ++ new) e)).put a.block .dead with nx := h.nx + 1 } : H) (.slice (some ⟨h.nx, 0, none⟩) (len + (m + 1)) BIG) := by
            intro h2
            unfold okV; rw [all_slice]
            exact dom_put (h := h2.put h.nx _) hltb .dead _ (get_dom (H.get_put_same hlt _))
          by_cases hfit : len + (m + 1) ≤ g a.block
          · have hfr := append_fit (P := P) (w := w) (ty := o.type) h0 h1 a0 a1 hu hxu hd hi hlen (hfc w rfl) hfit
            have hmul : (len + (m + 1)) * i.size ≤ g a.block * i.size := Nat.mul_le_mul_right _ hfit
            rw [Nat.add_mul] at hmul
            have hlen2 : new.length = (m + 1) * i.size := ap.len
            have hone : ∀ u ∈ new.map (ren f g), u.oneCell' = true := by
              intro u hu
              obtain ⟨u', hu', rfl⟩ := List.mem_map.1 hu
              exact one_ren f g u' (List.all_eq_true.1 ap.one u' hu')
            obtain ⟨w', hst, hwr, hh⟩ := run_storeCells_row P (f a.block) e fz (new.map (ren f g)) (len * i.size) 0 (cs.map (ren f g) ++ rest) w hw (by simp only [List.length_append, List.length_map]; omega) (by simpa using hfz) hone
            have rk := r.turn (ao := .dead) hrb hget (by simp) hwr _ hh (.inl rfl) (fun c e hc => by simp at hc)
            rw [Nat.add_zero] at hh
            have hsp : splice (cs.map (ren f g) ++ rest) (len * i.size) (new.map (ren f g)) = (cs.take (len * i.size) ++ new).map (ren f g) ++ (cs.map (ren f g) ++ rest).drop (len * i.size + (new.map (ren f g)).length) := by
              rw [splice_mid, List.take_append_of_le_length (by simpa using c3), List.map_append, List.map_take]
            rw [hsp] at hh
            have hgd : ∀ x, x ≠ a.block → (h.put a.block .dead).get x = h.get x := fun x hx => H.get_put_other hltb _ hx
            have rn := rk.name (b := h.nx) (k := f a.block) (ao := .grow (cs.take (len * i.size) ++ new) e) (y := g a.block) hro hlt (by rw [hgd _ hne]; exact hn) (r.new _ _ hrb hget (by simp)) hh
              (by
                have hL : (cs.take (len * i.size) ++ new).length + ((cs.map (ren f g) ++ rest).drop (len * i.size + (new.map (ren f g)).length)).length = cs.length + rest.length := by
                  simp only [List.length_append, List.length_take, List.length_drop, List.length_map]; omega
                exact .grow _ e _ fz i _ hi hp (by rw [hL]; exact hly) (by rw [hL]; exact hfz) hB)
              (fun x o' hx1 hx2 hx3 hx4 => by
                by_cases hxb : x = a.block
                · subst hxb
                  rw [H.get_put_same hltb] at hx2
                  exact hx3 (Option.some.inj hx2).symm
                · rw [hgd x hxb] at hx2
                  exact hxb (r.inj x a.block o' _ hx1 hrb hx2 hget hx3 (by simp) hx4))
              (fun c' e'' hc u hu => by
                have : c' = cs.take (len * i.size) ++ new := by rcases hc with h | h <;> simp at h; exact h.1.symm
                subst this
                exact okV_put hltb _ (hokc u hu))
            refine ⟨_, _, w', .inl ?_, RelH.nx (by rw [put_swap h _ _ hne]; exact rn) _, agree_upd f g hro hn _ _, hokr h⟩
            rw [hrun, hfr, ren_newG]
            simp only [hadr, add_plainE, Nat.zero_add]
            simp only [hst]
            rfl
          · have hold : ldN h a (len * i.size) = some (cs.take (len * i.size)) := by
              unfold ldN
              rw [hspot]
              simp only [rowOf, hget, d1, Nat.zero_add, Nat.ble_eq_true_of_le c3, List.drop_zero]
            have hcell := r.drew.loaded hold
            have hfo := run_firstCells_some (P := P) w.drew i.size len (adr f a) len (g a.block) ((cs.take (len * i.size)).map (ren f g)) (by rw [List.length_map]; exact ldN_length hold) hcell
            have hg := append_grow (P := P) (w := w) (ty := o.type) h0 h1 a0 a1 hu hxu hd hi ap.zero hlen (hfc w.drew rfl) hfo hfit (by have := ap.n; omega)
              (next_fits (n := 1048576) (by omega) (by have := ap.n; omega) (Nat.le_refl _) ap.bytes)
            obtain ⟨f', g', e1, e2, e3, e4⟩ := grown_sim r hro hn (cs := cs.take (len * i.size) ++ new) hi ap (by rw [List.length_append, ldN_length hold, ap.len, Nat.add_mul]) hokc
              (grownCap w (len + (m + 1)) (g a.block) e) (grownCap_ge ..) (by have := grownCap_le_maxLen w (len + (m + 1)) (g a.block) e (by have := ap.n; unfold maxLen; omega); unfold maxLen at this; unfold BIG; omega) rfl
            refine ⟨f', g', _, .inl ?_, RelH.nx (RelH.kill (e2.nx h.nx) (c := cs) (e := e) hrb ?_) _, e3, hokr h⟩
            · rw [hrun, hg, e1]
              simp
            · show (h.put h.nx _).get a.block = _
              rw [H.get_put_other hlt _ (fun e1 => hne e1.symm)]; exact hget
        · simp at he
    · simp at he
  · simp at he

theorem sim_append (r : RelH P ro w0 f g h w) (hro : ro ≤ h.nx) (hn : h.get h.nx = none) {c : Call} (ho : o.op = .call c) (hc : c.callee = .builtin .append) (hargs : ∀ x ∈ c.args, ρc x = ren f g (ρ x) ∧ okV ro h (ρ x))
    {v : Value} {h' : H} (he : evAppend P ro h c.argTypes.toList (c.args.toList.map ρ) = some (v, h')) : SimE P ro w0 f g h w (execOp ρc o) v h' := by
  unfold evAppend at he
  split at he
  · rename_i st xt tr s x ar hts has
    have h0 : c.argTypes[0]? = some st := by rw [← Array.getElem?_toList, hts]; rfl
    have h1 : c.argTypes[1]? = some xt := by rw [← Array.getElem?_toList, hts]; rfl
    obtain ⟨so, l1, hl1, rfl, hl2⟩ : ∃ so l1, c.args.toList = so :: l1 ∧ ρ so = s ∧ l1.map ρ = x :: ar := by
      cases hcl : c.args.toList with
      | nil => rw [hcl] at has; simp at has
      | cons a l => rw [hcl] at has; simp only [List.map_cons, List.cons.injEq] at has; exact ⟨a, l, rfl, has.1, has.2⟩
    obtain ⟨xo, l2, rfl, rfl⟩ : ∃ xo l2, l1 = xo :: l2 ∧ ρ xo = x := by
      cases l1 with
      | nil => simp at hl2
      | cons a l => simp only [List.map_cons, List.cons.injEq] at hl2; exact ⟨a, l, rfl, hl2.1⟩
    have hs := hargs so (by rw [Array.mem_def, hl1]; simp)
    have hx := hargs xo (by rw [Array.mem_def, hl1]; simp)
    have a0 : (c.args.map ρc)[0]? = some (ren f g (ρ so)) := by rw [Array.getElem?_map, ← Array.getElem?_toList, hl1]; simp [hs.1]
    have a1 : (c.args.map ρc)[1]? = some (ren f g (ρ xo)) := by rw [Array.getElem?_map, ← Array.getElem?_toList, hl1]; simp [hx.1]
    have hrun := builtin_run (P := P) (w := w) (ρc := ρc) (k := Builtin.append_) ho hc (fun _ _ _ _ => rfl)
    split at he
    · simp at he
    · rename_i e d hnd hu hxu
      have hd : ∀ k, d ≠ .int k := fun k hk => hnd k hk
      split at he
      · rename_i i hi
        split at he
        · rename_i n new hsrc
          split at he
          · rename_i hap
            obtain ⟨z, ap⟩ := apOk_some hap
            obtain ⟨hlen, hfc, hok⟩ := src_sim r hsrc
            unfold apGo at he
            split at he
            · rename_i hsn
              rw [hsn, ren_nilslice] at a0
              split at he
              · rename_i _ hn0
                simp only [Option.some.injEq, Prod.mk.injEq] at he
                obtain ⟨rfl, rfl⟩ := he
                have hnil := append_fit (P := P) (w := w) (ty := o.type) h0 h1 a0 a1 hu hxu hd hi hlen (hfc w rfl) (by omega)
                refine ⟨f, g, w, .inl ?_, r, Agree.refl .., by unfold okV; rw [all_nilslice]; trivial⟩
                rw [hrun, hnil, ren_nilslice]; rfl
              · rename_i m
                have hg := append_grow (P := P) (w := w) (ty := o.type) (olds := #[]) h0 h1 a0 a1 hu hxu hd hi ap.zero hlen (hfc w.drew rfl) rfl (by omega) (by have := ap.n; omega)
                  (next_fits (n := 1048576) (by omega) (by have := ap.n; omega) (Nat.le_refl _) ap.bytes)
                rw [Nat.zero_add] at hg
                obtain ⟨f', g', e1, e2, e3, e4⟩ := grown_sim r hro hn hi ap ap.len hok (grownCap w (m + 1) 0 e) (grownCap_ge ..) (by have := grownCap_le_maxLen w (m + 1) 0 e (by have := ap.n; unfold maxLen; omega); unfold maxLen at this; unfold BIG; omega) he
                refine ⟨f', g', _, .inl ?_, e2, e3, e4⟩
                rw [hrun, hg, e1]
                simp
            · rename_i a len cap hsv
              rw [hsv, ren_slice] at a0
              have hsok := hs.2
              rw [hsv] at hsok
              split at he
              · rename_i hl hcb
                have hl := Nat.le_of_ble_eq_true hl
                have hcb : cap < BIG := by simpa using hcb
                have hcap : capR g a.block cap = cap := by unfold capR; rw [if_pos hcb]
                rw [hcap] at a0
                unfold apKnown at he
                split at he
                · rename_i hf
                  have hf := Nat.le_of_ble_eq_true hf
                  split at he
                  · rename_i h1' hst
                    simp only [Option.some.injEq, Prod.mk.injEq] at he
                    obtain ⟨rfl, rfl⟩ := he
                    obtain ⟨w', hw', hr', hdm⟩ := r.stored hst hok
                    rw [adr_add] at hw'
                    have hfit := append_fit (P := P) (w := w) (ty := o.type) h0 h1 a0 a1 hu hxu hd hi hlen (hfc w rfl) hf
                    refine ⟨f, g, w', .inl ?_, hr', Agree.refl .., ?_⟩
                    · rw [hrun, hfit, ren_slice, hcap]
                      simp only [hw']
                      rfl
                    · unfold okV at hsok ⊢
                      rw [all_slice] at hsok ⊢
                      exact hdm _ hsok
                  · simp at he
                · rename_i hf
                  have hf : ¬ len + n ≤ cap := fun hle => by rw [Nat.ble_eq_true_of_le hle] at hf; cases hf
                  split at he
                  · rename_i old hold hlc
                    have hlc := Nat.le_of_ble_eq_true hlc
                    have hcell := r.drew.loaded hold
                    have hfo := run_firstCells_some (P := P) w.drew i.size len (adr f a) len cap (old.map (ren f g)) (by rw [List.length_map]; exact ldN_length hold) hcell
                    have hg := append_grow (P := P) (w := w) (ty := o.type) h0 h1 a0 a1 hu hxu hd hi ap.zero hlen (hfc w.drew rfl) hfo hf (by have := ap.n; omega)
                      (next_fits (n := 1048576) (by omega) (by have := ap.n; omega) (Nat.le_refl _) ap.bytes)
                    obtain ⟨f', g', e1, e2, e3, e4⟩ := grown_sim r hro hn (cs := old ++ new) hi ap (by rw [List.length_append, ldN_length hold, ap.len, Nat.add_mul]) (fun u hu => by
                      rcases List.mem_append.1 hu with hu | hu
                      · exact r.ldOk hold u hu
                      · exact hok u hu) (grownCap w (len + n) cap e) (grownCap_ge ..) (by have := grownCap_le_maxLen w (len + n) cap e (by have := ap.n; unfold maxLen; omega); unfold maxLen at this; unfold BIG; omega) he
                    refine ⟨f', g', _, .inl ?_, e2, e3, e4⟩
                    rw [hrun, hg, e1]
                    simp
                  · simp at he
              · rename_i hl hcb
                exact apBig_sim r hro hn ho hu hxu hd hi ap hlen hfc hok (Nat.le_of_ble_eq_true hl) (blt_false hcb) h0 h1 a0 a1 hrun hsok he
              · simp at he
            · simp at he
          · simp at he
        · simp at he
      · simp at he
    · simp at he
  · simp at he

end
end Go.Ev
