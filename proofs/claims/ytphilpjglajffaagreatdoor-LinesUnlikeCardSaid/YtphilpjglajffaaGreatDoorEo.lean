/- Walk: are two events one? -/
import Derived.Test.YtphilpjglajffaaGreatDoorEn
namespace Go.Proofs.YtphilpjglajffaaGreatDoor.Lin
open Go.RowKit

theorem rangeAt_of_block {W : World} {b : Nat} {cs : List Value} {t : TypeId} (h : W.heap[b]? = some (.cells cs.toArray t (0, 0))) : W.rangeAt b 0 cs := fun j v hj => by
  rw [Nat.zero_add, cell_of_row _ _ _ _ _ _ h]; simpa using hj

/-- are two events one? -/
def sameB (r r' : Raw) (keys tags keys' tags' : List ByteArray) (keep keep' : List Bool) : Bool :=
  decide (keep = keep') && (decide (r.kind = r'.kind) && (decide (r.q = r'.q) && (decide (r.n = r'.n) && (decide (r.pos = r'.pos) && (decide (r.lack = r'.lack) && (decide (r.topic = r'.topic) && (decide (r.group = r'.group) && (decide (r.tag = r'.tag) && (decide (r.key = r'.key) && (decide (r.body = r'.body) && (decide (keys = keys') && (decide (tags = tags') && decide (r.sync = r'.sync)))))))))))))

set_option maxRecDepth 100000 in
set_option maxHeartbeats 8000000 in
theorem alike_calls (r r' : Raw) (keys tags keys' tags' : List ByteArray) (keep keep' : List Bool) (w : World) (hk : StrsIn w r.ks keys) (ht : StrsIn w r.ts tags) (hp : BoolsIn w r.ps keep) (hk' : StrsIn w r'.ks keys') (ht' : StrsIn w r'.ts tags') (hp' : BoolsIn w r'.ps keep')
    (hl : r.ks.n ≤ 1000 ∧ r.ts.n ≤ 1000 ∧ r.ps.n ≤ 1000) :
    Calls Tryz.prog 12 #[r.val, r'.val] w fun e w' => e = .returned (.bool (sameB r r' keys tags keys' tags' keep keep')) ∧ Below w.heap.size w w' := by
  obtain ⟨kind, q, n, pos, lack, topic, group, tag, key, body, ⟨ka, kn, kc⟩, ⟨ta, tn, tc⟩, ⟨pa, pn, pc⟩, sync⟩ := r
  obtain ⟨kind', q', n', pos', lack', topic', group', tag', key', body', ⟨ka', kn', kc'⟩, ⟨ta', tn', tc'⟩, ⟨pa', pn', pc'⟩, sync'⟩ := r'
  have HG : Hid (sameB ⟨kind, q, n, pos, lack, topic, group, tag, key, body, ⟨ka, kn, kc⟩, ⟨ta, tn, tc⟩, ⟨pa, pn, pc⟩, sync⟩ ⟨kind', q', n', pos', lack', topic', group', tag', key', body', ⟨ka', kn', kc'⟩, ⟨ta', tn', tc'⟩, ⟨pa', pn', pc'⟩, sync'⟩ keys tags keys' tags' keep keep' = (decide (keep = keep') && (decide (kind = kind') && (decide (q = q') && (decide (n = n') && (decide (pos = pos') && (decide (lack = lack') && (decide (topic = topic') && (decide (group = group') && (decide (tag = tag') && (decide (key = key') && (decide (body = body') && (decide (keys = keys') && (decide (tags = tags') && decide (sync = sync'))))))))))))))) := Lib.hid rfl
  generalize sameB ⟨kind, q, n, pos, lack, topic, group, tag, key, body, ⟨ka, kn, kc⟩, ⟨ta, tn, tc⟩, ⟨pa, pn, pc⟩, sync⟩ ⟨kind', q', n', pos', lack', topic', group', tag', key', body', ⟨ka', kn', kc'⟩, ⟨ta', tn', tc'⟩, ⟨pa', pn', pc'⟩, sync'⟩ keys tags keys' tags' keep keep' = GB at *
  obtain ⟨W0, HWE0⟩ : ∃ W0, Hid ((w.alloc (.cells #[.int .i64 kind, .int .i64 q, .int .i64 n, .int .i64 pos, .int .i64 lack, .string topic, .string group, .string tag, .string key, .string body, .slice ka kn kc, .slice ta tn tc, .slice pa pn pc, .bool sync] 25)) = W0) := ⟨_, Lib.hid rfl⟩
  obtain ⟨W, HWE⟩ : ∃ W, Hid ((W0.alloc (.cells #[.int .i64 kind', .int .i64 q', .int .i64 n', .int .i64 pos', .int .i64 lack', .string topic', .string group', .string tag', .string key', .string body', .slice ka' kn' kc', .slice ta' tn' tc', .slice pa' pn' pc', .bool sync'] 25)) = W) := ⟨_, Lib.hid rfl⟩
  have HS0 : Hid (W0.heap.size = w.heap.size + 1) := Lib.hid (by rw [← HWE0.out]; simp)
  have HB0 : Hid (Below w.heap.size w W0) := Lib.hid (by rw [← HWE0.out]; exact (Below.refl _ _).alloc (Nat.le_refl _) _)
  have HB1 : Hid (Below W0.heap.size W0 W) := Lib.hid (by rw [← HWE.out]; exact (Below.refl _ _).alloc (Nat.le_refl _) _)
  have HBW : Hid (Below w.heap.size w W) := Lib.hid (HB0.out.trans (HB1.out.mono HB0.out.size))
  have HK := Lib.hid (hk.below HBW.out)
  have HT := Lib.hid (ht.below HBW.out)
  have HP := Lib.hid (hp.below HBW.out)
  have HK' := Lib.hid (hk'.below HBW.out)
  have HT' := Lib.hid (ht'.below HBW.out)
  have HP' := Lib.hid (hp'.below HBW.out)
  have HN : Hid (pn = keep.length) := Lib.hid hp.1
  have HN' : Hid (pn' = keep'.length) := Lib.hid hp'.1
  have HL1 : Hid (kn ≤ 1000) := Lib.hid hl.1
  have HL2 : Hid (tn ≤ 1000) := Lib.hid hl.2.1
  have HL3 : pn ≤ 1000 := hl.2.2
  clear hk ht hp hk' ht' hp' hl
  have HR : Hid (W.rangeAt w.heap.size 0 [.int .i64 kind, .int .i64 q, .int .i64 n, .int .i64 pos, .int .i64 lack, .string topic, .string group, .string tag, .string key, .string body, .slice ka kn kc, .slice ta tn tc, .slice pa pn pc, .bool sync]) := Lib.hid (rangeAt_of_block (b := w.heap.size) (t := 25) ((HB1.out.block _ (by rw [HS0.out]; exact Nat.lt_succ_self _)).trans (by rw [← HWE0.out]; exact heap_alloc_new w _)))
  have HR' : Hid (W.rangeAt (w.heap.size + 1) 0 [.int .i64 kind', .int .i64 q', .int .i64 n', .int .i64 pos', .int .i64 lack', .string topic', .string group', .string tag', .string key', .string body', .slice ka' kn' kc', .slice ta' tn' tc', .slice pa' pn' pc', .bool sync']) := Lib.hid (rangeAt_of_block (b := w.heap.size + 1) (t := 25) (by rw [← HWE.out, ← HS0.out]; exact heap_alloc_new W0 _))
  have c12 : W.cell? ⟨w.heap.size, 12, none⟩ = some (.slice pa pn pc) := HR.out 12 _ rfl
  have c12' : W.cell? ⟨w.heap.size + 1, 12, none⟩ = some (.slice pa' pn' pc') := HR'.out 12 _ rfl
  unfold Raw.val Raw.cells
  by_cases hnn : pn = pn'
  · subst hnn
    have hz : ((pn : Int) != (pn : Int)) = false := by simp
    go_enter Tryz.func12, Tryz.ntmps12
    go_upto_region 1 with fail
    rw [HWE0.out, HWE.out]
    go_wp2_with fail
    go_loopw [16] (fun i wr => ∃ k : Nat, k ≤ pn ∧ i = .int .i64 k ∧ Hid (keep.take k = keep'.take k) ∧ Hid (Below W.heap.size W wr)) (fun i _ => pn - (intOf i).toNat)
    case atStart => exact ⟨0, Nat.zero_le _, rfl, Lib.hid rfl, Lib.hid (Below.refl _ _)⟩
    case round =>
      obtain ⟨k, hk, rfl, HE, HW⟩ := hrel
      have HQ := Lib.hid (rangeAt_below HR.out HW.out)
      have HQ' := Lib.hid (rangeAt_below HR'.out HW.out)
      by_cases hlt : k < pn
      · have d1 : decide ((k : Int) < (pn : Int)) = true := by simp; omega
        have hki : (k : Int) < (pn : Int) := by omega
        have hkl : k < keep.length := by rw [← HN.out]; exact hlt
        have hkl' : k < keep'.length := by rw [← HN'.out]; exact hlt
        have g12 : wr.cell? ⟨w.heap.size, 12, none⟩ = some (.slice pa pn pc) := HQ.out 12 _ rfl
        have g12' : wr.cell? ⟨w.heap.size + 1, 12, none⟩ = some (.slice pa' pn pc') := HQ'.out 12 _ rfl
        obtain ⟨b, off, rfl, hcell⟩ := (HP.out.below HW.out).at k hkl
        obtain ⟨b', off', rfl, hcell'⟩ := (HP'.out.below HW.out).at k hkl'
        have HS := Lib.hid (take_eq_step keep keep' k hkl hkl' HE.out)
        have HT : Hid (¬ keep[k] = keep'[k] → ¬ keep = keep') := Lib.hid fun hne he => hne (by subst he; rfl)
        generalize keep[k] = m at *
        generalize keep'[k] = m' at *
        clear hkl hkl' c12 c12'
        cases m <;> cases m'
        · go_wp2_with fail
          go_quiet (fail)
          go_wp2_with fail
          go_roundw
          case rel => exact ⟨k + 1, by omega, by go_num, Lib.hid (HS.out (by trivial)), Lib.hid (HW.out.trans (below_drewN (Below.refl _ _) _))⟩
          case measure => simp [intOf]; omega
        · go_wp2_with fail
          go_quiet (fail)
          go_wp2_with fail
          go_ret
          refine ⟨ret_bool ?_, HBW.out.trans ((HW.out.trans (below_drewN (Below.refl _ _) _)).mono HBW.out.size)⟩
          rw [HG.out, decide_eq_false (HT.out (by simp))]; rfl
        · go_wp2_with fail
          go_quiet (fail)
          go_wp2_with fail
          go_ret
          refine ⟨ret_bool ?_, HBW.out.trans ((HW.out.trans (below_drewN (Below.refl _ _) _)).mono HBW.out.size)⟩
          rw [HG.out, decide_eq_false (HT.out (by simp))]; rfl
        · go_wp2_with fail
          go_quiet (fail)
          go_wp2_with fail
          go_roundw
          case rel => exact ⟨k + 1, by omega, by go_num, Lib.hid (HS.out (by trivial)), Lib.hid (HW.out.trans (below_drewN (Below.refl _ _) _))⟩
          case measure => simp [intOf]; omega
      · have d1 : decide ((k : Int) < (pn : Int)) = false := by simp; omega
        have hkp : keep = keep' := by
          have h := HE.out
          have hkn : k = pn := by omega
          rw [hkn] at h
          rwa [HN.out, List.take_length, ← HN.out, HN'.out, List.take_length] at h
        have HG2 := HG.out
        rw [decide_eq_true hkp] at HG2
        replace HG := Lib.hid HG2
        have HBR := Lib.hid (HBW.out.trans (HW.out.mono HBW.out.size))
        have HKR := Lib.hid (HK.out.below HW.out)
        have HTR := Lib.hid (HT.out.below HW.out)
        have HKR' := Lib.hid (HK'.out.below HW.out)
        have HTR' := Lib.hid (HT'.out.below HW.out)
        clear HG2 hkp HE HBW HK HT HK' HT' HP HP' HR HR' HW c12 c12' HWE0 HWE HS0 HB0 HB1 HN HN'
        have e0 : wr.cell? ⟨w.heap.size, 0, none⟩ = some (.int .i64 kind) := HQ.out 0 _ rfl
        have e1 : wr.cell? ⟨w.heap.size, 1, none⟩ = some (.int .i64 q) := HQ.out 1 _ rfl
        have e2 : wr.cell? ⟨w.heap.size, 2, none⟩ = some (.int .i64 n) := HQ.out 2 _ rfl
        have e3 : wr.cell? ⟨w.heap.size, 3, none⟩ = some (.int .i64 pos) := HQ.out 3 _ rfl
        have e4 : wr.cell? ⟨w.heap.size, 4, none⟩ = some (.int .i64 lack) := HQ.out 4 _ rfl
        have e5 : wr.cell? ⟨w.heap.size, 5, none⟩ = some (.string topic) := HQ.out 5 _ rfl
        have e6 : wr.cell? ⟨w.heap.size, 6, none⟩ = some (.string group) := HQ.out 6 _ rfl
        have e7 : wr.cell? ⟨w.heap.size, 7, none⟩ = some (.string tag) := HQ.out 7 _ rfl
        have e8 : wr.cell? ⟨w.heap.size, 8, none⟩ = some (.string key) := HQ.out 8 _ rfl
        have e9 : wr.cell? ⟨w.heap.size, 9, none⟩ = some (.string body) := HQ.out 9 _ rfl
        have e10 : wr.cell? ⟨w.heap.size, 10, none⟩ = some (.slice ka kn kc) := HQ.out 10 _ rfl
        have e11 : wr.cell? ⟨w.heap.size, 11, none⟩ = some (.slice ta tn tc) := HQ.out 11 _ rfl
        have e12 : wr.cell? ⟨w.heap.size, 12, none⟩ = some (.slice pa pn pc) := HQ.out 12 _ rfl
        have e13 : wr.cell? ⟨w.heap.size, 13, none⟩ = some (.bool sync) := HQ.out 13 _ rfl
        have e0' : wr.cell? ⟨w.heap.size + 1, 0, none⟩ = some (.int .i64 kind') := HQ'.out 0 _ rfl
        have e1' : wr.cell? ⟨w.heap.size + 1, 1, none⟩ = some (.int .i64 q') := HQ'.out 1 _ rfl
        have e2' : wr.cell? ⟨w.heap.size + 1, 2, none⟩ = some (.int .i64 n') := HQ'.out 2 _ rfl
        have e3' : wr.cell? ⟨w.heap.size + 1, 3, none⟩ = some (.int .i64 pos') := HQ'.out 3 _ rfl
        have e4' : wr.cell? ⟨w.heap.size + 1, 4, none⟩ = some (.int .i64 lack') := HQ'.out 4 _ rfl
        have e5' : wr.cell? ⟨w.heap.size + 1, 5, none⟩ = some (.string topic') := HQ'.out 5 _ rfl
        have e6' : wr.cell? ⟨w.heap.size + 1, 6, none⟩ = some (.string group') := HQ'.out 6 _ rfl
        have e7' : wr.cell? ⟨w.heap.size + 1, 7, none⟩ = some (.string tag') := HQ'.out 7 _ rfl
        have e8' : wr.cell? ⟨w.heap.size + 1, 8, none⟩ = some (.string key') := HQ'.out 8 _ rfl
        have e9' : wr.cell? ⟨w.heap.size + 1, 9, none⟩ = some (.string body') := HQ'.out 9 _ rfl
        have e10' : wr.cell? ⟨w.heap.size + 1, 10, none⟩ = some (.slice ka' kn' kc') := HQ'.out 10 _ rfl
        have e11' : wr.cell? ⟨w.heap.size + 1, 11, none⟩ = some (.slice ta' tn' tc') := HQ'.out 11 _ rfl
        have e12' : wr.cell? ⟨w.heap.size + 1, 12, none⟩ = some (.slice pa' pn pc') := HQ'.out 12 _ rfl
        have e13' : wr.cell? ⟨w.heap.size + 1, 13, none⟩ = some (.bool sync') := HQ'.out 13 _ rfl
        by_cases h0 : kind = kind'
        rotate_left
        · have d : (kind == kind') = false := by simp [h0]
          go_wp2_with fail
          go_ret
          exact ⟨ret_bool (by rw [HG.out, decide_eq_false h0]; rfl), HBR.out⟩
        have d0 : (kind == kind') = true := by simp [h0]
        by_cases h1 : q = q'
        rotate_left
        · have d : (q == q') = false := by simp [h1]
          go_wp2_with fail
          go_ret
          exact ⟨ret_bool (by rw [HG.out, decide_eq_true h0, decide_eq_false h1]; rfl), HBR.out⟩
        have d1 : (q == q') = true := by simp [h1]
        by_cases h2 : n = n'
        rotate_left
        · have d : (n == n') = false := by simp [h2]
          go_wp2_with fail
          go_ret
          exact ⟨ret_bool (by rw [HG.out, decide_eq_true h0, decide_eq_true h1, decide_eq_false h2]; rfl), HBR.out⟩
        have d2 : (n == n') = true := by simp [h2]
        by_cases h3 : pos = pos'
        rotate_left
        · have d : (pos == pos') = false := by simp [h3]
          go_wp2_with fail
          go_ret
          exact ⟨ret_bool (by rw [HG.out, decide_eq_true h0, decide_eq_true h1, decide_eq_true h2, decide_eq_false h3]; rfl), HBR.out⟩
        have d3 : (pos == pos') = true := by simp [h3]
        by_cases h4 : lack = lack'
        rotate_left
        · have d : (lack == lack') = false := by simp [h4]
          go_wp2_with fail
          go_ret
          exact ⟨ret_bool (by rw [HG.out, decide_eq_true h0, decide_eq_true h1, decide_eq_true h2, decide_eq_true h3, decide_eq_false h4]; rfl), HBR.out⟩
        have d4 : (lack == lack') = true := by simp [h4]
        by_cases h5 : topic = topic'
        rotate_left
        · have d : (topic.toList == topic'.toList) = false := by rw [str_eq]; simp [h5]
          go_wp2_with fail
          go_ret
          exact ⟨ret_bool (by rw [HG.out, decide_eq_true h0, decide_eq_true h1, decide_eq_true h2, decide_eq_true h3, decide_eq_true h4, decide_eq_false h5]; rfl), HBR.out⟩
        have d5 : (topic.toList == topic'.toList) = true := by rw [str_eq]; simp [h5]
        by_cases h6 : group = group'
        rotate_left
        · have d : (group.toList == group'.toList) = false := by rw [str_eq]; simp [h6]
          go_wp2_with fail
          go_ret
          exact ⟨ret_bool (by rw [HG.out, decide_eq_true h0, decide_eq_true h1, decide_eq_true h2, decide_eq_true h3, decide_eq_true h4, decide_eq_true h5, decide_eq_false h6]; rfl), HBR.out⟩
        have d6 : (group.toList == group'.toList) = true := by rw [str_eq]; simp [h6]
        by_cases h7 : tag = tag'
        rotate_left
        · have d : (tag.toList == tag'.toList) = false := by rw [str_eq]; simp [h7]
          go_wp2_with fail
          go_ret
          exact ⟨ret_bool (by rw [HG.out, decide_eq_true h0, decide_eq_true h1, decide_eq_true h2, decide_eq_true h3, decide_eq_true h4, decide_eq_true h5, decide_eq_true h6, decide_eq_false h7]; rfl), HBR.out⟩
        have d7 : (tag.toList == tag'.toList) = true := by rw [str_eq]; simp [h7]
        by_cases h8 : key = key'
        rotate_left
        · have d : (key.toList == key'.toList) = false := by rw [str_eq]; simp [h8]
          go_wp2_with fail
          go_ret
          exact ⟨ret_bool (by rw [HG.out, decide_eq_true h0, decide_eq_true h1, decide_eq_true h2, decide_eq_true h3, decide_eq_true h4, decide_eq_true h5, decide_eq_true h6, decide_eq_true h7, decide_eq_false h8]; rfl), HBR.out⟩
        have d8 : (key.toList == key'.toList) = true := by rw [str_eq]; simp [h8]
        by_cases h9 : body = body'
        rotate_left
        · have d : (body.toList == body'.toList) = false := by rw [str_eq]; simp [h9]
          go_wp2_with fail
          go_ret
          exact ⟨ret_bool (by rw [HG.out, decide_eq_true h0, decide_eq_true h1, decide_eq_true h2, decide_eq_true h3, decide_eq_true h4, decide_eq_true h5, decide_eq_true h6, decide_eq_true h7, decide_eq_true h8, decide_eq_false h9]; rfl), HBR.out⟩
        have d9 : (body.toList == body'.toList) = true := by rw [str_eq]; simp [h9]
        have HG3 : Hid (GB = (decide (keys = keys') && (decide (tags = tags') && decide (sync = sync')))) := Lib.hid (by rw [HG.out, decide_eq_true h0, decide_eq_true h1, decide_eq_true h2, decide_eq_true h3, decide_eq_true h4, decide_eq_true h5, decide_eq_true h6, decide_eq_true h7, decide_eq_true h8, decide_eq_true h9]; rfl)
        clear HG
        have HSK := Lib.hid (same_calls ka kn kc keys ka' kn' kc' keys' wr HKR.out HKR'.out (Nat.le_trans HL1.out (by decide)))
        go_wp2_with fail
        refine HSK.out.mono ?_
        rintro e w5 ⟨rfl, hb5⟩
        have HB5 := Lib.hid (HBR.out.trans (hb5.mono HBR.out.size))
        have HQ5 := Lib.hid (rangeAt_below HQ.out hb5)
        have HQ5' := Lib.hid (rangeAt_below HQ'.out hb5)
        have HT5 := Lib.hid (HTR.out.below hb5)
        have HT5' := Lib.hid (HTR'.out.below hb5)
        clear hb5 HSK HBR HQ HQ' HTR HTR' HKR HKR'
        clear e0 e0' e1 e1' e2 e2' e3 e3' e4 e4' e5 e5' e6 e6' e7 e7' e8 e8' e9 e9' e10 e10' e11 e11' e12 e12' e13 e13' d0 d1 d2 d3 d4 d5 d6 d7 d8 d9
        generalize decide (keys = keys') = x1 at *
        cases x1
        · go_wp2_with fail
          go_ret
          exact ⟨ret_bool (by rw [HG3.out]; rfl), HB5.out⟩
        · have f11 : w5.cell? ⟨w.heap.size, 11, none⟩ = some (.slice ta tn tc) := HQ5.out 11 _ rfl
          have f11' : w5.cell? ⟨w.heap.size + 1, 11, none⟩ = some (.slice ta' tn' tc') := HQ5'.out 11 _ rfl
          have HST := Lib.hid (same_calls ta tn tc tags ta' tn' tc' tags' w5 HT5.out HT5'.out (Nat.le_trans HL2.out (by decide)))
          go_wp2_with fail
          refine HST.out.mono ?_
          rintro e w6 ⟨rfl, hb6⟩
          have HB6 := Lib.hid (HB5.out.trans (hb6.mono HB5.out.size))
          have f13 : w6.cell? ⟨w.heap.size, 13, none⟩ = some (.bool sync) := (rangeAt_below HQ5.out hb6) 13 _ rfl
          have f13' : w6.cell? ⟨w.heap.size + 1, 13, none⟩ = some (.bool sync') := (rangeAt_below HQ5'.out hb6) 13 _ rfl
          clear hb6 HST f11 f11'
          generalize decide (tags = tags') = x2 at *
          cases x2
          · go_wp2_with fail
            go_ret
            exact ⟨ret_bool (by rw [HG3.out]; rfl), HB6.out⟩
          · cases sync <;> cases sync'
            all_goals
              go_wp2_with fail
              go_ret
              exact ⟨ret_bool (by rw [HG3.out]; rfl), HB6.out⟩
  · have hz : ((pn : Int) != (pn' : Int)) = true := by simp; omega
    have hz1 : ¬ (pn : Int) = (pn' : Int) := by omega
    have hne : ¬ keep = keep' := fun h => hnn (by rw [HN.out, HN'.out, h])
    go_enter Tryz.func12, Tryz.ntmps12
    go_upto_region 1 with fail
    rw [HWE0.out, HWE.out]
    go_wp2_with fail
    go_ret
    exact ⟨ret_bool (by rw [HG.out, decide_eq_false hne]; rfl), HBW.out⟩

end Go.Proofs.YtphilpjglajffaaGreatDoor.Lin
