/- The evaluator's cuts, makes and builds; all operations that write nothing, together. -/
import Derived.Test.YtphilpjglajffaaGreatDoorEvH
import Derived.Great.BuildSlice
namespace Go.Ev
open Go.RowKit (Below)

section
variable {P : Program} {ro : Nat} {w0 : World} {f g : Nat → Nat} {h : H} {w : World} {nm : Nat} {ρ ρc : Operand → Value} {o : Oper}

theorem flatten_get (l : List Value) : ∀ (m i : Nat), i < m * l.length → (List.flatten (List.replicate m l))[i]? = l[i % l.length]?
  | 0, i, h => by simp at h
  | m + 1, i, h => by
    rw [List.replicate_succ, List.flatten_cons]
    by_cases hi : i < l.length
    · rw [List.getElem?_append_left hi, Nat.mod_eq_of_lt hi]
    · rw [List.getElem?_append_right (by omega), flatten_get l m (i - l.length) (by rw [Nat.add_mul] at h; omega)]
      congr 1
      conv => rhs; rw [show i = (i - l.length) + l.length from by omega, Nat.add_mod_right]

theorem zerosOf_some {e : TypeId} {n : Nat} {zs : List Value} (hz : zerosOf P e n = some zs) :
    ∃ i z, P.info? e = some i ∧ i.zero = some z ∧ flat z = true ∧ (cellsV z).length = i.size ∧ zs = List.flatten (List.replicate n (cellsV z)) ∧ n < BIG := by
  unfold zerosOf at hz
  split at hz
  · rename_i i hi
    split at hz
    · rename_i z hzz
      split at hz
      · rename_i h1 h2 h3
        simp only [Option.some.injEq] at hz
        exact ⟨i, z, hi, hzz, h1, Nat.eq_of_beq_eq_true h2, hz.symm, by simpa using h3⟩
      · simp at hz
    · simp at hz
  · simp at hz

theorem zeros_length (z : List Value) (n : Nat) : (List.flatten (List.replicate n z)).length = n * z.length := by simp

theorem zeros_flat {z : Value} (hf : flat z = true) (n : Nat) (f g : Nat → Nat) : (List.flatten (List.replicate n (cellsV z))).map (ren f g) = List.flatten (List.replicate n (cellsV z)) := by
  have hc : (cellsV z).map (ren f g) = cellsV z := by rw [← cellsV_ren, flat_id hf]
  rw [List.map_flatten, List.map_replicate, hc]

theorem zeros_ok {z : Value} (hf : flat z = true) (n : Nat) : ∀ v ∈ List.flatten (List.replicate n (cellsV z)), okV ro h v := by
  intro v hv
  rw [List.mem_flatten] at hv
  obtain ⟨l, hl, hvl⟩ := hv
  rw [List.eq_of_mem_replicate hl] at hvl
  exact cellsV_ok (flat_ok hf ro h) v hvl

/-- what a make lays: the zero value's cells, again and again -/
theorem zeros_arr (z : Array Value) (n : Nat) : ((Array.range (n * z.size)).map (z[· % z.size]!)) = (List.flatten (List.replicate n z.toList)).toArray := by
  apply Array.ext'
  rw [Array.toList_map, Array.toList_range]
  apply List.ext_getElem?
  intro i
  rw [List.getElem?_map]
  by_cases hi : i < n * z.size
  · rw [List.getElem?_range hi]
    have hp : 0 < z.size := by
      rcases Nat.eq_zero_or_pos z.size with h0 | h0
      · rw [h0] at hi; simp at hi
      · exact h0
    have hm : i % z.size < z.size := Nat.mod_lt _ hp
    have := flatten_get z.toList n i (by simpa using hi)
    rw [show ((List.replicate n z.toList).flatten.toArray.toList) = (List.replicate n z.toList).flatten from rfl, this]
    simp [hm]
  · rw [List.getElem?_eq_none (by simpa using hi), List.getElem?_eq_none (by simp; omega)]
    rfl

theorem blt_false {a b : Nat} (h : Nat.blt a b = false) : ¬ a < b := by
  intro h'
  have e : Nat.blt a b = true := Nat.ble_eq_true_of_le h'
  rw [e] at h; cases h

theorem bnd_some {y d b : Nat} {v : Option Value} (hb : bnd y v d = some b) : (v = none ∧ b = d) ∨ (∃ k, v = some (.int k (b : Int)) ∧ b ≤ y) := by
  unfold bnd at hb
  split at hb
  · simp only [Option.some.injEq] at hb; subst hb
    exact .inl ⟨rfl, rfl⟩
  · rename_i k n
    split at hb
    · rename_i hn
      have hn := Nat.le_of_ble_eq_true hn
      simp only [Option.some.injEq] at hb; subst hb
      exact .inr ⟨k, rfl, hn⟩
    · simp at hb
  · simp at hb

theorem bnd_le {y d b : Nat} {v : Option Value} (hb : bnd y v d = some b) (hd : d ≤ y) : b ≤ y := by
  rcases bnd_some hb with ⟨_, rfl⟩ | ⟨_, _, h⟩
  · exact hd
  · exact h

theorem bounds_run {isS : Bool} {len cap b l : Nat} {lo hi : Option Value} (f g : Nat → Nat) (h1 : bnd cap hi len = some b) (h2 : bnd b lo 0 = some l) :
    (Instr.sliceBounds isS len cap (lo.map (ren f g)) (hi.map (ren f g)) none).run P w = .ok (l, b, cap) w := by
  rcases bnd_some h1 with ⟨rfl, rfl⟩ | ⟨k, rfl, hb⟩ <;> rcases bnd_some h2 with ⟨rfl, rfl⟩ | ⟨k2, rfl, hl⟩
  · simp [Instr.sliceBounds]
  · simp only [Instr.sliceBounds, Instr.sliceBound, asIntOf, Option.map_none, Option.map_some, ren_int, Sem.run_bind, Sem.run_pure, Result.andThen_ok]
    rw [if_pos ⟨by omega, by omega⟩]
    simp
  · simp only [Instr.sliceBounds, Instr.sliceBound, asIntOf, Option.map_none, Option.map_some, ren_int, Sem.run_bind, Sem.run_pure, Result.andThen_ok]
    rw [if_pos ⟨by omega, by omega⟩]
    simp
  · simp only [Instr.sliceBounds, Instr.sliceBound, asIntOf, Option.map_some, ren_int, Sem.run_bind, Sem.run_pure, Result.andThen_ok]
    rw [if_pos ⟨by omega, by omega⟩]
    simp only [Sem.run_pure, Result.andThen_ok, Int.toNat_natCast]
    rw [if_pos ⟨by omega, by omega⟩]
    simp

theorem cutG {t e : TypeId} {a : Addr} {len cap size y b l : Nat} {lo hi : Option Value} (hu : P.underlying t = some (.slice e)) (hsz : szOf P e = some size) (hcap : capR g a.block cap = y) (hc2 : capR g a.block (cap + l) = y - l)
    (hne : l = 0 ∨ y ≠ l) (hb : bnd y hi len = some b) (hl : bnd b lo 0 = some l) :
    (Instr.sliceAt t (ren f g (.slice (some a) len cap)) (lo.map (ren f g)) (hi.map (ren f g)) none).run P w = .ok (ren f g (.slice (some (a.add (l * size))) (b - l) (cap + l))) w := by
  have hbr := bounds_run (P := P) (w := w) (isS := true) f g hb hl
  rw [ren_slice, hcap, ren_slice, adr_add, add_block, hc2]
  simp only [Instr.sliceAt, Sem.run_bind, run_underlying hu, Result.andThen_ok, Instr.slice, Sem.run_pure, hbr, sizeOf_run hsz]
  rcases hne with h0 | hne
  · have hz0 : ∀ x : Addr, x.add 0 = x := fun x => by simp [Addr.add]
    rw [h0, Nat.zero_mul, hz0, Nat.sub_zero]
    simp [hz0]
  · rw [if_neg hne]; rfl

theorem capG_facts {gb len l cl size : Nat} (k : Nat) (hp : 0 < size) (hcl : cl ≤ gb * size) (h2 : k * size + len * size ≤ cl) (h3 : l = 0 ∨ k * size + l * size < cl) :
    k + len ≤ gb ∧ (l = 0 ∨ gb - k ≠ l) := by
  have h1 : k + len ≤ gb := by
    have : (k + len) * size ≤ gb * size := by rw [Nat.add_mul]; omega
    exact Nat.le_of_mul_le_mul_right this hp
  refine ⟨h1, ?_⟩
  rcases h3 with h0 | h0
  · exact .inl h0
  · right
    intro heq
    have : (k + l) * size < gb * size := by rw [Nat.add_mul]; omega
    have := Nat.lt_of_mul_lt_mul_right this
    omega

theorem capR_big (g : Nat → Nat) (b k : Nat) : capR g b (BIG + k) = g b - k := by
  unfold capR
  generalize BIG = B
  rw [if_neg (by omega)]
  congr 1; omega

theorem evSlice_run (r : RelH P ro w0 f g h w) {t : TypeId} {x : Value} {lo hi mx : Option Value} {v : Value} (he : evSlice P h t x lo hi mx = some v) (hx : okV ro h x) :
    (Instr.sliceAt t (ren f g x) (lo.map (ren f g)) (hi.map (ren f g)) (mx.map (ren f g))).run P w = .ok (ren f g v) w ∧ okV ro h v := by
  unfold evSlice at he
  split at he
  · rename_i n e a hu
    split at he
    · rename_i size b hsz hb hn
      have hn : n < BIG := by simpa using hn
      split at he
      · rename_i l hl
        simp only [Option.some.injEq] at he; subst he
        have hbr := bounds_run (P := P) (w := w) (isS := false) f g hb hl
        refine ⟨?_, ?_⟩
        · rw [ren_pointer]
          simp only [Option.map_none, Instr.sliceAt, Sem.run_bind, run_underlying hu, Result.andThen_ok, Instr.sureAddr, Sem.run_pure, hbr, sizeOf_run hsz]
          by_cases hnl : n = l
          · simp only [if_pos hnl, ren_slice]
            have : n - l < BIG := by omega
            unfold capR; rw [if_pos this]
          · simp only [if_neg hnl, ren_slice, adr_add, add_block]
            have : n - l < BIG := by omega
            unfold capR; rw [if_pos this]
        · unfold okV at hx ⊢
          rw [all_pointer] at hx
          rw [all_slice]
          split
          · exact hx
          · rw [add_block]; exact hx
      · simp at he
    · simp at he
  · rename_i e a len cap hu
    split at he
    · simp at he
    · rename_i size hsz
      split at he
      · rename_i hcb
        have hcb : cap < BIG := by simpa using hcb
        split at he
        · rename_i b hb
          split at he
          · rename_i l hl
            simp only [Option.some.injEq] at he; subst he
            have hbr := bounds_run (P := P) (w := w) (isS := true) f g hb hl
            have hcap : capR g a.block cap = cap := by unfold capR; rw [if_pos hcb]
            refine ⟨?_, ?_⟩
            · rw [ren_slice, hcap]
              simp only [Option.map_none, Instr.sliceAt, Sem.run_bind, run_underlying hu, Result.andThen_ok, Instr.slice, Sem.run_pure, hbr, sizeOf_run hsz]
              by_cases hnl : cap = l
              · simp only [if_pos hnl, ren_slice]
                have : cap - l < BIG := by omega
                unfold capR; rw [if_pos this]
              · simp only [if_neg hnl, ren_slice, adr_add, add_block, Option.map_some]
                have : cap - l < BIG := by omega
                unfold capR; rw [if_pos this]
            · unfold okV at hx ⊢
              rw [all_slice] at hx
              rw [all_slice]
              split
              · exact hx
              · rw [add_block]; exact hx
          · simp at he
        · simp at he
      · rename_i hcb
        have hcb : ¬ cap < BIG := blt_false hcb
        split at he
        · rename_i c e' b hget hb
          split at he
          · rename_i l hl
            split at he
            · rename_i h1 h2 h3
              have h1 := Nat.eq_of_beq_eq_true h1
              subst h1
              have h2 := Nat.le_of_ble_eq_true h2
              simp only [Option.some.injEq] at he; subst he
              obtain ⟨hro, rest, fz, i, hw, hii, hp, hly, hz, hB⟩ := r.grow a.block c e hget
              have hs2 : size = i.size := by unfold szOf at hsz; rw [hii] at hsz; simpa using hsz.symm
              subst hs2
              obtain ⟨k, hk⟩ : ∃ k, cap = BIG + k := ⟨cap - BIG, (Nat.add_sub_cancel' (Nat.le_of_not_lt hcb)).symm⟩
              have hsub : cap - BIG = k := by rw [hk, Nat.add_sub_cancel_left]
              rw [hsub] at h2 h3
              have h3' : l = 0 ∨ k * i.size + l * i.size < c.length := by
                simp only [Bool.or_eq_true] at h3
                rcases h3 with h4 | h4
                · exact .inl (Nat.eq_of_beq_eq_true h4)
                · exact .inr (by simpa using h4)
              obtain ⟨f1, f2⟩ := capG_facts (gb := g a.block) k hp (by omega) h2 h3'
              have hb' : bnd (g a.block - k) hi len = some b := by
                rcases bnd_some hb with ⟨rfl, rfl⟩ | ⟨kk, rfl, hle⟩
                · rfl
                · show (match Nat.ble b (g a.block - k) with | true => some b | false => none) = some b
                  rw [show Nat.ble b (g a.block - k) = true from Nat.ble_eq_true_of_le (by omega)]
              refine ⟨?_, ?_⟩
              · refine cutG hu hsz (by rw [hk]; exact capR_big g a.block k) ?_ f2 hb' hl
                rw [hk, Nat.add_assoc, capR_big]; omega
              · unfold okV at hx ⊢
                rw [all_slice] at hx
                rw [all_slice, add_block]; exact hx
            · simp at he
          · simp at he
        · simp at he
  · simp at he

theorem sim_slice (r : RelH P ro w0 f g h w) (hop : Opds ro h f g ρ ρc o) {t : TypeId} {x : Operand} {lo hi mx : Option Operand} (ho : o.op = .slice t x lo hi mx) {v : Value} {ob : Option AO}
    (he : neSlice P h o ρ t (ρ x) (lo.map ρ) (hi.map ρ) (mx.map ρ) = some (v, ob)) : SimV P ro w0 f g h nm w (execOp ρc o) v ob := by
  have hs : ∀ cs b, o.op ≠ .select cs b := by rw [ho]; simp
  have hx := hop x (by rw [ho]; simp [Op.operands])
  have hopt : ∀ y : Option Operand, (∀ z, y = some z → z ∈ o.op.operands) → y.map ρc = (y.map ρ).map (ren f g) := by
    intro y hy
    cases y with
    | none => rfl
    | some z => simp [(hop z (hy z rfl)).1]
  have hlo := hopt lo (by rintro z rfl; rw [ho]; simp [Op.operands])
  have hhi := hopt hi (by rintro z rfl; rw [ho]; simp [Op.operands])
  have hmx := hopt mx (by rintro z rfl; rw [ho]; simp [Op.operands])
  have hrun : (execOp ρc o).run P w = ((Instr.sliceAt t (ren f g (ρ x)) ((lo.map ρ).map (ren f g)) ((hi.map ρ).map (ren f g)) ((mx.map ρ).map (ren f g))).run P w).andThen fun u w' => .ok (.value u) w' := by
    rw [← hx.1, ← hlo, ← hhi, ← hmx]
    simp [execOp, ho]
  unfold neSlice at he
  split at he
  · rename_i s ha
    split at he
    · rename_i hm hu
      unfold neSliceS at he
      split at he
      · rename_i b hb
        split at he
        · rename_i l hl
          simp only [Option.some.injEq, Prod.mk.injEq] at he
          obtain ⟨rfl, rfl⟩ := he
          refine .same r ?_ (okStr _)
          have hbr := bounds_run (P := P) (w := w) (isS := false) f g hb hl
          rw [hrun, ren_string, ha, ren_string, hm]
          have hst : (Instr.sliceAt t (.string s) ((lo.map ρ).map (ren f g)) ((hi.map ρ).map (ren f g)) none).run P w = .ok (.string (s.extract l b)) w := by
            simp only [Instr.sliceAt, Sem.run_bind, run_underlying hu, Result.andThen_ok, Instr.slice, Option.isSome_none, Bool.false_eq_true, if_false, Sem.run_pure, hbr]
          have hext : s.extract l b = ⟨⟨(s.data.toList.drop l).take (b - l)⟩⟩ := by
            apply ByteArray.ext; apply Array.ext'; simp [List.extract_eq_take_drop]
          rw [Option.map_none, hst, hext]; rfl
        · simp at he
      · simp at he
    · simp at he
  · exact flat_sim r hop hs he
  · unfold val1 at he
    split at he
    · rename_i u hu
      simp only [Option.some.injEq, Prod.mk.injEq] at he
      obtain ⟨rfl, rfl⟩ := he
      obtain ⟨h1, h2⟩ := evSlice_run r hu hx.2
      refine .same r ?_ h2
      rw [hrun, h1]; rfl
    · simp at he

theorem sim_make (r : RelH P ro w0 f g h w) (hr : ro ≤ nm) (hl : nm < LIM) (hn : h.get nm = none) {t : TypeId} {l c : Operand} (ho : o.op = .makeSlice t l c) (hlx : ρc l = ren f g (ρ l)) (hcx : ρc c = ren f g (ρ c)) {v : Value} {ob : Option AO}
    (he : neMake P nm t (ρ l) (ρ c) = some (v, ob)) : SimV P ro w0 f g h nm w (execOp ρc o) v ob := by
  unfold neMake at he
  split at he
  · rename_i e k1 n k2 m hu h1 h2
    split at he
    · rename_i zs i hz hi hnm hm
      have hnm := Nat.le_of_ble_eq_true hnm
      have hm := Nat.le_of_ble_eq_true hm
      split at he
      · rename_i hb
        have hb := Nat.le_of_ble_eq_true hb
        simp only [Option.some.injEq, Prod.mk.injEq] at he
        obtain ⟨rfl, rfl⟩ := he
        obtain ⟨i', z, hi', hz', hf, hlen, rfl, hB⟩ := zerosOf_some hz
        rw [hi] at hi'
        simp only [Option.some.injEq] at hi'; subst hi'
        rw [h1, ren_int] at hlx
        rw [h2, ren_int] at hcx
        have hbytes : i.bytes * m ≤ 65536 * 1048576 := Nat.mul_le_mul hb hm
        have hrun := run_make (P := P) w t e i z hu hi hz' k1 k2 (n : Int) (m : Int) (by omega) (by omega) (by omega) (by omega)
        have harr : madeCells z.cells (m * i.size) = (List.flatten (List.replicate m (cellsV z))).toArray := by
          have := zeros_arr z.cells m
          have hzs : z.cells.size = i.size := by rw [← hlen, ← cells_toList]; simp
          rw [hzs, cells_toList] at this
          rw [← this]; unfold madeCells; rw [hzs]
        refine SimV.made hr hl hn (w1 := w) (y := 0) (ob := .cells ((List.flatten (List.replicate m (cellsV z))).map (ren f g)).toArray e) _ r ?_ (.cells _ e (0, 0) (freeTo_none _) 0) ?_ (new_slice nm hl _ _ _)
        · rw [ren_newS f g nm _ _ _ _ hB, zeros_flat hf, ← harr]
          have hrun' : (Instr.makeSlice t (ρc l) (ρc c)).run P w = .ok (.slice (some ⟨w.heap.size, 0, none⟩) n m) (w.alloc (.cells (madeCells z.cells (m * i.size)) e)) := by
            rw [hlx, hcx]; simpa using hrun
          simp only [execOp, ho, Sem.run_bind, hrun']
          rfl
        · intro c' e' hc u hu
          have : c' = List.flatten (List.replicate m (cellsV z)) := by rcases hc with h | h <;> simp at h; exact h.1.symm
          subst this
          exact zeros_ok hf m u hu
      · simp at he
    · simp at he
  · simp at he

/-! ### parts laid into zero -/
theorem foldl_set_ren (f g : Nat → Nat) (off : Nat) : ∀ (L : List (Value × Nat)) (cells : Array Value),
    ((L.map fun p => (ren f g p.1, p.2)).foldl (fun cs p => cs.setIfInBounds (off + p.2) p.1) (cells.map (ren f g))) = (L.foldl (fun cs p => cs.setIfInBounds (off + p.2) p.1) cells).map (ren f g) ∧
    (L.foldl (fun cs p => cs.setIfInBounds (off + p.2) p.1) cells).size = cells.size ∧
    ∀ v ∈ L.foldl (fun cs p => cs.setIfInBounds (off + p.2) p.1) cells, v ∈ cells ∨ ∃ p ∈ L, v = p.1
  | [], cells => ⟨rfl, rfl, fun v hv => .inl hv⟩
  | p :: L, cells => by
    obtain ⟨h1, h3, h2⟩ := foldl_set_ren f g off L (cells.setIfInBounds (off + p.2) p.1)
    refine ⟨?_, ?_, ?_⟩
    · rw [List.map_cons, List.foldl_cons, List.foldl_cons, ← h1, Array.map_setIfInBounds]
    · rw [List.foldl_cons, h3, Array.size_setIfInBounds]
    · intro v hv
      rw [List.foldl_cons] at hv
      rcases h2 v hv with hv | ⟨q, hq, rfl⟩
      · rcases Array.mem_or_eq_of_mem_setIfInBounds hv with hv | rfl
        · exact .inl hv
        · exact .inr ⟨p, by simp, rfl⟩
      · exact .inr ⟨q, by simp [hq], rfl⟩

theorem cells_ren (f g : Nat → Nat) (v : Value) : (ren f g v).cells = v.cells.map (ren f g) := by
  rw [cellsV_arr, cellsV_ren, cellsV_arr]; simp

theorem fill_ren (f g : Nat → Nat) (place : Nat → Option (Nat × Nat)) : ∀ (ps : List (Nat × Value)) (cells r : Array Value), Instr.fill place cells ps = some r →
    Instr.fill place (cells.map (ren f g)) (ps.map fun p => (p.1, ren f g p.2)) = some (r.map (ren f g)) ∧ (∀ v ∈ r, v ∈ cells ∨ ∃ p ∈ ps, v ∈ p.2.cells)
  | [], cells, r, h => by
    simp only [Instr.fill, Option.some.injEq] at h; subst h
    exact ⟨rfl, fun v hv => .inl hv⟩
  | (i, u) :: ps, cells, r, h => by
    rw [Instr.fill] at h
    split at h
    · simp at h
    · rename_i off size hp
      split at h
      · simp at h
      · rename_i hc
        have hfold : ∀ (w : Value) (cs : Array Value), w.cells.zipIdx.foldl (fun cs (c, j) => cs.setIfInBounds (off + j) c) cs = w.cells.zipIdx.toList.foldl (fun cs p => cs.setIfInBounds (off + p.2) p.1) cs := by
          intro w cs; rw [← Array.foldl_toList]
        rw [hfold] at h
        obtain ⟨h1, h3, h2⟩ := foldl_set_ren f g off u.cells.zipIdx.toList cells
        obtain ⟨k1, k2⟩ := fill_ren f g place ps _ r h
        refine ⟨?_, ?_⟩
        · rw [List.map_cons, Instr.fill, hp]
          simp only [cells_ren, Array.size_map]
          rw [if_neg hc]
          have hz : (u.cells.map (ren f g)).zipIdx.toList = u.cells.zipIdx.toList.map fun p => (ren f g p.1, p.2) := by
            simp [List.zipIdx_map]
          rw [← Array.foldl_toList, hz]
          rw [show (fun (cs : Array Value) (x : Value × Nat) => match x with | (c, j) => cs.setIfInBounds (off + j) c) = fun cs p => cs.setIfInBounds (off + p.2) p.1 from rfl, h1]
          exact k1
        · intro v hv
          rcases k2 v hv with hv | ⟨p, hp, hv⟩
          · rcases h2 v hv with hv | ⟨p, hp, rfl⟩
            · exact .inl hv
            · refine .inr ⟨(i, u), by simp, ?_⟩
              have := Array.mem_def.2 hp
              rw [Array.mem_zipIdx_iff_getElem?] at this
              exact Array.mem_of_getElem? this
          · exact .inr ⟨p, by simp [hp], hv⟩

theorem cells_ok {v : Value} (hv : okV ro h v) : ∀ u ∈ v.cells, okV ro h u := by
  intro u hu
  rw [Array.mem_def, cells_toList] at hu
  exact cellsV_ok hv u hu

theorem sim_build (r : RelH P ro w0 f g h w) {t : TypeId} {ps : Array (Nat × Operand)} (ho : o.op = .build t ps) (hps : ∀ p ∈ ps, ρc p.2 = ren f g (ρ p.2) ∧ okV ro h (ρ p.2)) {v : Value} {ob : Option AO}
    (he : neBuild P t (ps.toList.map fun (j, x) => (j, ρ x)) = some (v, ob)) : SimV P ro w0 f g h nm w (execOp ρc o) v ob := by
  unfold neBuild at he
  split at he
  · rename_i i hi
    split at he
    · rename_i z hz
      split at he
      · rename_i cs hf hb
        simp only [Option.some.injEq, Prod.mk.injEq] at he
        obtain ⟨rfl, rfl⟩ := he
        have hzc : z.cells.map (ren f g) = z.cells := by rw [← cells_ren, flat_id hf]
        have hparts : (ps.map fun (j, x) => (j, ρc x)).toList = (ps.toList.map fun (j, x) => (j, ρ x)).map fun p => (p.1, ren f g p.2) := by
          rw [Array.toList_map, List.map_map]
          exact List.map_congr_left fun p hp => by
            show (p.1, ρc p.2) = (p.1, ren f g (ρ p.2))
            rw [(hps p (Array.mem_def.2 hp)).1]
        have key : P.built t (ps.map fun (j, x) => (j, ρc x)).toList = some (cs.map (ren f g)) ∧ ∀ v ∈ cs, v ∈ z.cells ∨ ∃ p ∈ (ps.toList.map fun (j, x) => (j, ρ x)), v ∈ p.2.cells := by
          rw [hparts]
          unfold Program.built at hb ⊢
          rw [hi] at hb ⊢
          split at hb
          · rename_i it n e hit hu
            simp only [Option.some.injEq] at hit; subst hit
            simp only [hz] at hb ⊢
            split at hb
            · rename_i z' ie hz' hie
              simp only [Option.some.injEq] at hz'; subst hz'
              have := fill_ren f g _ _ _ _ hb
              rw [hzc] at this
              exact this
            · simp at hb
          · rename_i it fields hit hu
            simp only [Option.some.injEq] at hit; subst hit
            simp only [hz] at hb ⊢
            split at hb
            · rename_i z' places hz' hpl
              simp only [Option.some.injEq] at hz'; subst hz'
              have := fill_ren f g _ _ _ _ hb
              rw [hzc] at this
              exact this
            · simp at hb
          · simp at hb
        refine .same r ?_ ?_
        · rw [ren_agg]
          simp only [execOp, ho, Sem.run_bind, run_build w t _ _ key.1]
          rfl
        · unfold okV; rw [all_agg]
          intro u hu
          rcases key.2 u hu with hu | ⟨p, hp, hu⟩
          · exact cells_ok (flat_ok hf ro h) u hu
          · obtain ⟨q, hq, rfl⟩ := List.mem_map.1 hp
            exact cells_ok (hps q (Array.mem_def.2 hq)).2 u hu
      · simp at he
    · simp at he
  · simp at he

theorem sim_buildSlice (r : RelH P ro w0 f g h w) (hr : ro ≤ nm) (hl : nm < LIM) (hn : h.get nm = none) {t : TypeId} {len : Nat} {ps : Array (Nat × Operand)} (ho : o.op = .buildSlice t len ps) (hps : ∀ p ∈ ps, ρc p.2 = ren f g (ρ p.2) ∧ okV ro h (ρ p.2)) {v : Value} {ob : Option AO}
    (he : neBuildSlice P nm t len (ps.toList.map fun (j, x) => (j, ρ x)) = some (v, ob)) : SimV P ro w0 f g h nm w (execOp ρc o) v ob := by
  unfold neBuildSlice at he
  split at he
  · rename_i e hu
    split at he
    · rename_i i zs hi hzs
      split at he
      · rename_i hb
        have hb := Nat.le_of_ble_eq_true hb
        split at he
        · rename_i cs hfill
          simp only [Option.some.injEq, Prod.mk.injEq] at he
          obtain ⟨rfl, rfl⟩ := he
          obtain ⟨i', z, hi', hz', hf, hlen, rfl, hB⟩ := zerosOf_some hzs
          rw [hi] at hi'
          simp only [Option.some.injEq] at hi'; subst hi'
          have hzs : z.cells.size = i.size := by rw [← hlen, ← cells_toList]; simp
          have hparts : (ps.map fun (j, x) => (j, ρc x)).toList = (ps.toList.map fun (j, x) => (j, ρ x)).map fun p => (p.1, ren f g p.2) := by
            rw [Array.toList_map, List.map_map]
            exact List.map_congr_left fun p hp => by
              show (p.1, ρc p.2) = (p.1, ren f g (ρ p.2))
              rw [(hps p (Array.mem_def.2 hp)).1]
          have harr : (Array.range (len * i.size)).map (z.cells[· % z.cells.size]!) = (List.flatten (List.replicate len (cellsV z))).toArray := by
            have := zeros_arr z.cells len
            rw [hzs, cells_toList] at this
            rw [hzs]; exact this
          have hkey := fill_ren f g _ _ _ _ hfill
          rw [← hparts] at hkey
          have hzm : (List.flatten (List.replicate len (cellsV z))).toArray.map (ren f g) = (List.flatten (List.replicate len (cellsV z))).toArray := by
            have := zeros_flat hf len f g
            apply Array.ext'; simpa using this
          rw [show (⟨(List.flatten (List.replicate len (cellsV z)))⟩ : Array Value) = (List.flatten (List.replicate len (cellsV z))).toArray from rfl, hzm] at hkey
          have hrun : (Instr.buildSlice t len (ps.map fun (j, x) => (j, ρc x))).run P w = .ok (.slice (some ⟨w.heap.size, 0, none⟩) len len) (w.alloc (.cells (cs.map (ren f g)) e)) := by
            by_cases hpos : len * i.size = 0
            · have hnil : (List.flatten (List.replicate len (cellsV z))) = [] := by
                apply List.eq_nil_of_length_eq_zero
                rw [zeros_length, hlen]; exact hpos
              rw [hnil] at hkey
              have hk1 := hkey.1
              have e0 : ∀ k : Nat → Value, (Array.range 0).map k = #[] := fun k => by simp
              simp only [Instr.buildSlice, Sem.run_bind, run_underlying hu, Result.andThen_ok, sizeOf_run (show szOf P e = some i.size from by simp [szOf, hi]), hpos, e0]
              have e1 : ¬ (0 : Nat) > 2 ^ 24 := by decide
              simp only [e1, if_false, if_true, Sem.run_bind, Sem.run_pure, Result.andThen_ok, hk1, newRow]
              rfl
            · refine run_buildSlice w t e len _ _ i z hu hi hz' (by have : (2:Nat)^24 = 16777216 := by decide
                                                                    omega) hpos ?_
              rw [harr]; exact hkey.1
          refine SimV.made hr hl hn (w1 := w) (y := 0) (ob := .cells (cs.toList.map (ren f g)).toArray e) _ r ?_ (.cells _ e (0, 0) (freeTo_none _) 0) ?_ (new_slice nm hl _ _ _)
          · have hlB : len < BIG := hB
            rw [ren_newS f g nm _ _ _ _ hlB]
            have hc : (cs.toList.map (ren f g)).toArray = cs.map (ren f g) := by apply Array.ext'; simp
            rw [hc]
            simp only [execOp, ho, Sem.run_bind, hrun]
            rfl
          · intro c' e' hc u hu
            have : c' = cs.toList := by rcases hc with h | h <;> simp at h; exact h.1.symm
            subst this
            rcases hkey.2 u (Array.mem_def.2 hu) with hu | ⟨p, hp, hu⟩
            · exact zeros_ok hf len u (by simpa using hu)
            · obtain ⟨q, hq, rfl⟩ := List.mem_map.1 hp
              exact cells_ok (hps q (Array.mem_def.2 hq)).2 u hu
        · simp at he
      · simp at he
    · simp at he
  · simp at he

end
end Go.Ev
