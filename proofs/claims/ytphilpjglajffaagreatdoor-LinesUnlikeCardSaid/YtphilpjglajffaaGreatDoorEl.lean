/- Walk: an event's line. -/
import Derived.Test.YtphilpjglajffaaGreatDoorEk
namespace Go.Proofs.YtphilpjglajffaaGreatDoor.Lin
open Go.RowKit

/-- one text appended to an own row; an iterator stays -/
theorem app_keep {ops : Array Oper} {rest : List Oper} {o : Oper} {a : Act} {Q : Exit → Act → World → Prop} {w0 W : World} (base K : Nat) (sk : ByteArray) (pk : Nat) (hK : W.heap[K]? = some (.stringIter sk pk)) (hgd : o.guard = none) (s x : Operand)
    (ho : o.op = .call { callee := .builtin .append, args := #[s, x], argTypes := #[22, 22] }) (v y : Value) (n : Nat) (xs : List Value) (hs : a.eval s = v) (hx : a.eval x = .slice (some ⟨W.heap.size, 0, none⟩) 1 1)
    (h1 : y.oneCell' = true) (HO : W.ownsRow base 9 1 v n xs) (HB : Below base w0 W) (hbase : base ≤ W.heap.size) (hl : n + 1 ≤ 1099511627776)
    (h : ∀ g cap w1, w1.ownsRow base 9 1 (.slice (some ⟨g, 0, none⟩) (n + 1) cap) (n + 1) (xs ++ [y]) → Below base w0 w1 → w1.heap[K]? = some (.stringIter sk pk) → wpList Tryz.prog ops Q rest (a.put o.dst (.slice (some ⟨g, 0, none⟩) (n + 1) cap)) w1) :
    wpList Tryz.prog ops Q (o :: rest) a (W.alloc (.cells #[y] 9)) := by
  obtain ⟨i0, hi, hzz⟩ := Option.map_eq_some_iff.1 strInfo
  simp only [Prod.mk.injEq] at hzz
  obtain ⟨hz0, hz1, hz2⟩ := hzz
  refine wpList_append_lies (P := Tryz.prog) (W.alloc (.cells #[y] 9)) hgd s x 22 ho base 9 i0 _ 1 16 Tryz.underlying22 hi hz0 hz1 hz2 rfl (by omega) v n xs hs (HO.alloc _) ⟨W.heap.size, 0, none⟩ 1 1 [y] hx (by simp)
    (by simpa using World.news_of_block (cs := #[y]) (t := 9) (fr := (0, 0)) (heap_alloc_new W (.cells #[y] 9))) (by simpa using h1) (by omega) (by simp only [maxLen]; omega) (by omega) (by simp; omega) _ rfl ?_
  intro g cap w1 hown hg _ _
  have hlt : K < W.heap.size := (Array.getElem?_eq_some_iff.1 hK).1
  have hne : some K ≠ v.ownBlock := by
    rcases HO.2 with ⟨rfl, _⟩ | ⟨g0, cap0, cur0, rfl, _, hgg, _⟩
    · simp [Value.ownBlock]
    · simp only [Value.ownBlock, ne_eq, Option.some.injEq]
      rintro rfl
      rw [hK] at hgg
      simp at hgg
  exact h g cap w1 hown ((HB.alloc hbase _).grown hg (by simp; omega) (own_base HO)) ((hg.block K (by simp; omega) hne).trans ((Below.heap_alloc _ _ K hlt).trans hK))

theorem lets_size (k : Nat) (hk : k < 16) : (bs (verbT.getD k ([], [])).2).size ≤ 100 := by
  have : k = 0 ∨ k = 1 ∨ k = 2 ∨ k = 3 ∨ k = 4 ∨ k = 5 ∨ k = 6 ∨ k = 7 ∨ k = 8 ∨ k = 9 ∨ k = 10 ∨ k = 11 ∨ k = 12 ∨ k = 13 ∨ k = 14 ∨ k = 15 := by omega
  rcases this with rfl | rfl | rfl | rfl | rfl | rfl | rfl | rfl | rfl | rfl | rfl | rfl | rfl | rfl | rfl | rfl <;> decide
theorem own_iterAt {w : World} {base : Nat} {e : TypeId} {size n : Nat} {v : Value} {xs : List Value} (h : w.ownsRow base e size v n xs) {k : Nat} {s : ByteArray} {p : Nat} (hk : w.heap[k]? = some (.stringIter s p)) (p' : Nat) : (w.iterAt k s p').ownsRow base e size v n xs := by
  refine ⟨h.1, ?_⟩
  rcases h.2 with h2 | ⟨g, cap, cur, a, b, c, d⟩
  · exact .inl h2
  · exact .inr ⟨g, cap, cur, a, b, by rw [Lib.iterAt_other _ _ _ _ _ (by rintro rfl; rw [hk] at c; simp at c)]; exact c, d⟩

theorem words_step (r : Raw) (keys tags : List ByteArray) (keep : List Bool) (nm : ByteArray) (l : List UInt8) (i : Nat) (h : i < l.length) :
    wordsL r keys tags keep nm (l.take (i + 1)) = if (wordB r keys tags keep l[i]).size = 0 then wordsL r keys tags keep nm (l.take i) else wordsL r keys tags keep nm (l.take i) ++ [wordB r keys tags keep l[i]] := by
  unfold wordsL
  rw [List.take_succ_eq_append_getElem h, List.map_append, List.filter_append]
  simp only [List.map_cons, List.map_nil, List.filter_cons, List.filter_nil, nonE]
  by_cases hz : (wordB r keys tags keep l[i]).size = 0
  · simp [hz]
  · simp [hz]
theorem small_of {x : Int} (h : (!farI x) = true) : SmallI x := by
  unfold farI at h
  simp at h
  exact ⟨by omega, by omega⟩
theorem right_tellable {r : Raw} {keys tags : List ByteArray} {s : ByteArray} (h : rightB r keys tags s = true) (hm : Mild r) (hk : ∀ x ∈ keys, x.size ≤ 1000) (ht : ∀ x ∈ tags, x.size ≤ 1000) : Tellable r keys tags := by
  unfold rightB at h
  by_cases h1 : (numsB r && (tagB r.tag && decide (newE tags = 0))) = false
  · rw [if_pos h1] at h; simp at h
  · simp only [Bool.not_eq_false, Bool.and_eq_true, decide_eq_true_eq] at h1
    obtain ⟨h2, _, h3⟩ := h1
    unfold numsB at h2
    simp only [List.all_cons, List.all_nil, Bool.and_true, Bool.and_eq_true] at h2
    exact ⟨hm, small_of h2.1, small_of h2.2.1, small_of h2.2.2.1, small_of h2.2.2.2, hk, ht, h3⟩

set_option maxRecDepth 100000 in
set_option maxHeartbeats 4000000 in
theorem event_calls (r : Raw) (keys tags : List ByteArray) (keep : List Bool) (w : World) (hc : Ctx w r keys tags keep) (hm : Mild r) (hk : 1 ≤ r.kind ∧ r.kind ≤ 15) (hkt : ∀ x ∈ keys, x.size ≤ 1000) (htt : ∀ x ∈ tags, x.size ≤ 1000) :
    Calls Tryz.prog 9 #[r.val] w fun e w' => e = .returned (.string (eventB r keys tags keep)) ∧ Below w.heap.size w w' := by
  have HEV : Hid (eventB r keys tags keep = (if r.kind < 1 ∨ 15 < r.kind then ⟨#[]⟩ else
    if (rightB r keys tags (bs (verbT.getD r.kind.toNat ([], [])).2) && emptyB (r.without (verbT.getD r.kind.toNat ([], [])).2)) = false then ⟨#[]⟩ else joinS (wordsL r keys tags keep (bs (verbT.getD r.kind.toNat ([], [])).1) (verbT.getD r.kind.toNat ([], [])).2) ⟨#[32]⟩)) := Lib.hid rfl
  rw [if_neg (by omega)] at HEV
  generalize eventB r keys tags keep = EB at *
  obtain ⟨kind, q, n, pos, lack, topic, group, tag, key, body, ⟨ka, kn, kc⟩, ⟨ta, tn, tc⟩, ⟨pa, pn, pc⟩, sync⟩ := r
  obtain ⟨k, rfl⟩ : ∃ k : Nat, kind = k := ⟨kind.toNat, by have := hk.1; change 1 ≤ kind at this; omega⟩
  have hk1 : 1 ≤ k := by have := hk.1; change (1 : Int) ≤ (k : Int) at this; omega
  have hk2 : k ≤ 15 := by have := hk.2; change (k : Int) ≤ 15 at this; omega
  clear hk
  obtain ⟨cells, HCE⟩ : ∃ cells, Hid (Raw.cells ⟨k, q, n, pos, lack, topic, group, tag, key, body, ⟨ka, kn, kc⟩, ⟨ta, tn, tc⟩, ⟨pa, pn, pc⟩, sync⟩ = cells) := ⟨_, Lib.hid rfl⟩
  obtain ⟨W, HWE⟩ : ∃ W, Hid ((w.alloc (.cells #[.int .i64 k, .int .i64 q, .int .i64 n, .int .i64 pos, .int .i64 lack, .string topic, .string group, .string tag, .string key, .string body, .slice ka kn kc, .slice ta tn tc, .slice pa pn pc, .bool sync] 25)) = W) := ⟨_, Lib.hid rfl⟩
  have HBW : Hid (Below w.heap.size w W) := Lib.hid (by rw [← HWE.out]; exact (Below.refl _ _).alloc (Nat.le_refl _) _)
  have HC := Lib.hid (hc.below HBW.out)
  have HM := Lib.hid hm
  have HRA : Hid (W.rangeAt w.heap.size 0 cells) := Lib.hid fun j v hj => by
    rw [← HCE.out] at hj
    rw [← HWE.out, Nat.zero_add]
    have : (w.alloc (.cells (Raw.cells ⟨k, q, n, pos, lack, topic, group, tag, key, body, ⟨ka, kn, kc⟩, ⟨ta, tn, tc⟩, ⟨pa, pn, pc⟩, sync⟩).toArray 25)).cell? ⟨w.heap.size, j, none⟩ = some v := by
      rw [cell_of_row _ _ _ _ _ _ (heap_alloc_new w _)]; simpa using hj
    exact this
  have c0 : W.cell? ⟨w.heap.size, 0, none⟩ = some (.int .i64 k) := HRA.out 0 _ (by rw [← HCE.out]; rfl)
  clear hc hm
  unfold Raw.val Raw.cells
  have d1 : decide ((k : Int) < 1) = false := by simp; omega
  have d2 : decide ((15 : Int) < (k : Int)) = false := by simp; omega
  go_enter Tryz.func9, Tryz.ntmps9
  go_upto_region 1 with fail
  rw [HWE.out]
  go_upto_region 3 with fail
  obtain ⟨nm, HNM⟩ : ∃ nm, Hid (bs (verbT.getD k ([], [])).1 = nm) := ⟨_, Lib.hid rfl⟩
  obtain ⟨ls, HLS⟩ : ∃ ls, Hid (bs (verbT.getD k ([], [])).2 = ls) := ⟨_, Lib.hid rfl⟩
  have hverbs := verbs_at k (by omega)
  rw [HNM.out, HLS.out] at hverbs
  go_cut [3] (fun s3 wx => VerbAt wx nm ls s3 ∧ Hid (Below W.heap.size W wx))
  case first =>
    have hk16 : (k : Int) < 16 := by omega
    have hk16n : k < 16 := by omega
    have HC0 : Hid (∀ X, Below W.heap.size W X → X.cell? ⟨w.heap.size, 0, none⟩ = some (.int .i64 k)) := Lib.hid fun X hX => (hX.cell (cell_lt c0)).trans c0
    have hBlt : w.heap.size < W.heap.size := cell_lt c0
    have c0a : (W.drew.alloc (.cells #[.string ⟨#[]⟩, .string ⟨#[]⟩] 48)).cell? ⟨w.heap.size, 0, none⟩ = some (.int .i64 k) := HC0.out _ ((Below.refl _ W).drew.alloc (Nat.le_refl _) _)
    have hkz : ¬ k = 0 := by omega
    have hkz2 : ¬ k * 2 = 0 := by omega
    have hkz3 : ¬ 2 * k = 0 := by omega
    have HIX : Hid (∀ b X, (Instr.indexAt 49 (.slice (some ⟨b, 0, none⟩) 16 16) (.int .i64 k)).run Tryz.prog X = .ok (.pointer (some ⟨b, k * 2, none⟩)) X) := Lib.hid fun b X => idx49 b k (by omega) hk1 X
    go_region_with (go_at_call 19; refine (hverbs _).mono ?_; rintro e w' ⟨b, rfl, hv, hb⟩; have hx : w'.cell? ⟨w.heap.size, 0, none⟩ = some (.int .i64 k) := HC0.out _ (by first | exact (Below.refl _ W).drew.trans (hb.mono (Nat.le_refl _)) | exact ((Below.refl _ W).drew.alloc (Nat.le_refl _) _).trans (hb.mono (by simp))); have hix := HIX.out b; have hbl := cell_lt hv.1; have hBl := cell_lt hx; have hx2 := (((Below.refl _ w').alloc (Nat.le_refl _) (.cells #[.string ⟨#[]⟩, .string ⟨#[]⟩] 48)).cell hBl).trans hx; have hl1 := hv.1; have hl2 := hv.2; have hl3 := (hv.below ((Below.refl _ w').alloc (Nat.le_refl _) (.cells #[.string ⟨#[]⟩, .string ⟨#[]⟩] 48))).1; have hl4 := (hv.below ((Below.refl _ w').alloc (Nat.le_refl _) (.cells #[.string ⟨#[]⟩, .string ⟨#[]⟩] 48))).2; have HV := Lib.hid hv; clear hv; try (have hbk := box_kept hb; obtain ⟨hz0, hz1, hf0, hf1⟩ := hbk))
    all_goals (go_wp2_with fail)
    all_goals go_meet
    all_goals first
      | exact ⟨verbAt_new _ _ _, Lib.hid (((Below.refl _ W).drew.trans (hb.mono (Nat.le_refl _))).alloc ((Below.refl _ W).drew.trans (hb.mono (Nat.le_refl _))).size _)⟩
      | exact ⟨verbAt_set _ _ hz0 hz1, Lib.hid (((((Below.refl _ W).drew.alloc (Nat.le_refl _) _).trans (hb.mono (by simp))).setCell (Nat.le_refl _) _).setCell (Nat.le_refl _) _)⟩
  case rest =>
    obtain ⟨⟨bv, rfl, hv0, hv1⟩, HWX⟩ := hcut
    have HRX := Lib.hid (rangeAt_below HRA.out HWX.out)
    have HCX := Lib.hid (HC.out.below HWX.out)
    have HBX := Lib.hid (HBW.out.trans (HWX.out.mono HBW.out.size))
    have HKT := Lib.hid hkt
    have HTT := Lib.hid htt
    clear hkt htt hverbs c0 d1 d2 HRA HC HBW HWX HWE
    generalize wc = wx at *
    have HRT : Hid (Calls Tryz.prog 20 #[.agg #[.int .i64 k, .int .i64 q, .int .i64 n, .int .i64 pos, .int .i64 lack, .string topic, .string group, .string tag, .string key, .string body, .slice ka kn kc, .slice ta tn tc, .slice pa pn pc, .bool sync], .string ls] wx fun e w' => e = .returned (.bool (rightB ⟨k, q, n, pos, lack, topic, group, tag, key, body, ⟨ka, kn, kc⟩, ⟨ta, tn, tc⟩, ⟨pa, pn, pc⟩, sync⟩ keys tags ls)) ∧ Below wx.heap.size wx w') := Lib.hid (right_calls ⟨k, q, n, pos, lack, topic, group, tag, key, body, ⟨ka, kn, kc⟩, ⟨ta, tn, tc⟩, ⟨pa, pn, pc⟩, sync⟩ keys tags keep ls wx HCX.out HM.out)
    have HEV2 : Hid (EB = if (rightB ⟨k, q, n, pos, lack, topic, group, tag, key, body, ⟨ka, kn, kc⟩, ⟨ta, tn, tc⟩, ⟨pa, pn, pc⟩, sync⟩ keys tags ls && emptyB (Raw.without ⟨k, q, n, pos, lack, topic, group, tag, key, body, ⟨ka, kn, kc⟩, ⟨ta, tn, tc⟩, ⟨pa, pn, pc⟩, sync⟩ (verbT.getD k ([], [])).2)) = false then ⟨#[]⟩ else joinS (wordsL ⟨k, q, n, pos, lack, topic, group, tag, key, body, ⟨ka, kn, kc⟩, ⟨ta, tn, tc⟩, ⟨pa, pn, pc⟩, sync⟩ keys tags keep nm (verbT.getD k ([], [])).2) ⟨#[32]⟩) := Lib.hid (by rw [← HLS.out, ← HNM.out]; exact HEV.out)
    clear HEV
    have e0 : wx.cell? ⟨w.heap.size, 0, none⟩ = some (.int .i64 k) := HRX.out 0 _ (by rw [← HCE.out]; rfl)
    have e1 : wx.cell? ⟨w.heap.size, 1, none⟩ = some (.int .i64 q) := HRX.out 1 _ (by rw [← HCE.out]; rfl)
    have e2 : wx.cell? ⟨w.heap.size, 2, none⟩ = some (.int .i64 n) := HRX.out 2 _ (by rw [← HCE.out]; rfl)
    have e3 : wx.cell? ⟨w.heap.size, 3, none⟩ = some (.int .i64 pos) := HRX.out 3 _ (by rw [← HCE.out]; rfl)
    have e4 : wx.cell? ⟨w.heap.size, 4, none⟩ = some (.int .i64 lack) := HRX.out 4 _ (by rw [← HCE.out]; rfl)
    have e5 : wx.cell? ⟨w.heap.size, 5, none⟩ = some (.string topic) := HRX.out 5 _ (by rw [← HCE.out]; rfl)
    have e6 : wx.cell? ⟨w.heap.size, 6, none⟩ = some (.string group) := HRX.out 6 _ (by rw [← HCE.out]; rfl)
    have e7 : wx.cell? ⟨w.heap.size, 7, none⟩ = some (.string tag) := HRX.out 7 _ (by rw [← HCE.out]; rfl)
    have e8 : wx.cell? ⟨w.heap.size, 8, none⟩ = some (.string key) := HRX.out 8 _ (by rw [← HCE.out]; rfl)
    have e9 : wx.cell? ⟨w.heap.size, 9, none⟩ = some (.string body) := HRX.out 9 _ (by rw [← HCE.out]; rfl)
    have e10 : wx.cell? ⟨w.heap.size, 10, none⟩ = some (.slice ka kn kc) := HRX.out 10 _ (by rw [← HCE.out]; rfl)
    have e11 : wx.cell? ⟨w.heap.size, 11, none⟩ = some (.slice ta tn tc) := HRX.out 11 _ (by rw [← HCE.out]; rfl)
    have e12 : wx.cell? ⟨w.heap.size, 12, none⟩ = some (.slice pa pn pc) := HRX.out 12 _ (by rw [← HCE.out]; rfl)
    have e13 : wx.cell? ⟨w.heap.size, 13, none⟩ = some (.bool sync) := HRX.out 13 _ (by rw [← HCE.out]; rfl)
    -- THE REST
    have HLL : Hid ((verbT.getD k ([], [])).2 = ls.data.toList) := Lib.hid (by rw [← HLS.out]; rfl)
    have HLT : Hid (∀ c ∈ ls.data.toList, c ∈ letters) := Lib.hid (by rw [← HLL.out]; exact verb_letters k (by omega))
    have HNS : Hid (nm.size ≤ 10) := Lib.hid (by rw [← HNM.out]; exact name_size k (by omega))
    rw [HLL.out] at HEV2
    go_wp2_with fail
    refine HRT.out.mono ?_
    rintro e w3 ⟨rfl, hb3⟩
    have HB3 := Lib.hid (HBX.out.trans (hb3.mono HBX.out.size))
    have HRX3 := Lib.hid (rangeAt_below HRX.out hb3)
    have HCX3 := Lib.hid (HCX.out.below hb3)
    have HV0 := Lib.hid ((hb3.cell (cell_lt hv0)).trans hv0)
    have HV1 := Lib.hid ((hb3.cell (cell_lt hv1)).trans hv1)
    clear hb3 hv0 hv1 HRT HBX HRX HCX
    clear e0 e1 e2 e3 e4 e5 e6 e7 e8 e9 e10 e11 e12 e13
    have HTE := Lib.hid (fun hr => @right_tellable ⟨k, q, n, pos, lack, topic, group, tag, key, body, ⟨ka, kn, kc⟩, ⟨ta, tn, tc⟩, ⟨pa, pn, pc⟩, sync⟩ keys tags ls hr HM.out HKT.out HTT.out)
    obtain ⟨RB, HRB⟩ : ∃ RB, Hid (rightB ⟨k, q, n, pos, lack, topic, group, tag, key, body, ⟨ka, kn, kc⟩, ⟨ta, tn, tc⟩, ⟨pa, pn, pc⟩, sync⟩ keys tags ls = RB) := ⟨_, Lib.hid rfl⟩
    rw [HRB.out] at HEV2 HTE
    rw [HRB.out]
    cases RB
    · go_wp2_with fail
      go_ret
      exact ⟨ret_text (by rw [HEV2.out]; rfl), HB3.out⟩
    · have HT := Lib.hid (HTE.out rfl)
      have HWO := Lib.hid (without_calls ⟨k, q, n, pos, lack, topic, group, tag, key, body, ⟨ka, kn, kc⟩, ⟨ta, tn, tc⟩, ⟨pa, pn, pc⟩, sync⟩ ls w3 (fun i hi => HLT.out _ (by rw [Array.mem_toList_iff]; exact Array.getElem_mem (xs := ls.data) hi)))
      have HMW := Lib.hid (mild_without HM.out ls.data.toList)
      obtain ⟨rw', HRW⟩ : ∃ rw', Hid (Raw.without ⟨k, q, n, pos, lack, topic, group, tag, key, body, ⟨ka, kn, kc⟩, ⟨ta, tn, tc⟩, ⟨pa, pn, pc⟩, sync⟩ ls.data.toList = rw') := ⟨_, Lib.hid rfl⟩
      rw [HRW.out] at HWO HMW HEV2
      have hv1 := HV1.out
      have e0 : w3.cell? ⟨w.heap.size, 0, none⟩ = some (.int .i64 k) := HRX3.out 0 _ (by rw [← HCE.out]; rfl)
      have e1 : w3.cell? ⟨w.heap.size, 1, none⟩ = some (.int .i64 q) := HRX3.out 1 _ (by rw [← HCE.out]; rfl)
      have e2 : w3.cell? ⟨w.heap.size, 2, none⟩ = some (.int .i64 n) := HRX3.out 2 _ (by rw [← HCE.out]; rfl)
      have e3 : w3.cell? ⟨w.heap.size, 3, none⟩ = some (.int .i64 pos) := HRX3.out 3 _ (by rw [← HCE.out]; rfl)
      have e4 : w3.cell? ⟨w.heap.size, 4, none⟩ = some (.int .i64 lack) := HRX3.out 4 _ (by rw [← HCE.out]; rfl)
      have e5 : w3.cell? ⟨w.heap.size, 5, none⟩ = some (.string topic) := HRX3.out 5 _ (by rw [← HCE.out]; rfl)
      have e6 : w3.cell? ⟨w.heap.size, 6, none⟩ = some (.string group) := HRX3.out 6 _ (by rw [← HCE.out]; rfl)
      have e7 : w3.cell? ⟨w.heap.size, 7, none⟩ = some (.string tag) := HRX3.out 7 _ (by rw [← HCE.out]; rfl)
      have e8 : w3.cell? ⟨w.heap.size, 8, none⟩ = some (.string key) := HRX3.out 8 _ (by rw [← HCE.out]; rfl)
      have e9 : w3.cell? ⟨w.heap.size, 9, none⟩ = some (.string body) := HRX3.out 9 _ (by rw [← HCE.out]; rfl)
      have e10 : w3.cell? ⟨w.heap.size, 10, none⟩ = some (.slice ka kn kc) := HRX3.out 10 _ (by rw [← HCE.out]; rfl)
      have e11 : w3.cell? ⟨w.heap.size, 11, none⟩ = some (.slice ta tn tc) := HRX3.out 11 _ (by rw [← HCE.out]; rfl)
      have e12 : w3.cell? ⟨w.heap.size, 12, none⟩ = some (.slice pa pn pc) := HRX3.out 12 _ (by rw [← HCE.out]; rfl)
      have e13 : w3.cell? ⟨w.heap.size, 13, none⟩ = some (.bool sync) := HRX3.out 13 _ (by rw [← HCE.out]; rfl)
      go_wp2_with fail
      refine (show Calls Tryz.prog 22 #[.agg #[.int .i64 k, .int .i64 q, .int .i64 n, .int .i64 pos, .int .i64 lack, .string topic, .string group, .string tag, .string key, .string body, .slice ka kn kc, .slice ta tn tc, .slice pa pn pc, .bool sync], .string ls] w3 fun e w' => e = .returned rw'.val ∧ Below w3.heap.size w3 w' from HWO.out).mono ?_
      rintro e w4 ⟨rfl, hb4⟩
      clear e0 e1 e2 e3 e4 e5 e6 e7 e8 e9 e10 e11 e12 e13
      have HB4 := Lib.hid (HB3.out.trans (hb4.mono HB3.out.size))
      have HRX4 := Lib.hid (rangeAt_below HRX3.out hb4)
      have HCX4 := Lib.hid (HCX3.out.below hb4)
      have HV04 := Lib.hid ((hb4.cell (cell_lt HV0.out)).trans HV0.out)
      have HV14 := Lib.hid ((hb4.cell (cell_lt HV1.out)).trans HV1.out)
      clear hb4 hv1 HWO HB3 HRX3 HCX3 HV0 HV1
      go_wp2_with fail
      refine (empty_calls rw' w4 HMW.out).mono ?_
      rintro e w5 ⟨rfl, hb5⟩
      have HB5 := Lib.hid (HB4.out.trans (hb5.mono HB4.out.size))
      have HRX5 := Lib.hid (rangeAt_below HRX4.out hb5)
      have HCX5 := Lib.hid (HCX4.out.below hb5)
      have HV05 := Lib.hid ((hb5.cell (cell_lt HV04.out)).trans HV04.out)
      have HV15 := Lib.hid ((hb5.cell (cell_lt HV14.out)).trans HV14.out)
      clear hb5 HB4 HRX4 HCX4 HV04 HV14
      generalize emptyB rw' = EM at *
      cases EM
      · go_wp2_with fail
        go_ret
        exact ⟨ret_text (by rw [HEV2.out]; rfl), HB5.out⟩
      · have HEV3 : Hid (EB = joinS (wordsL ⟨k, q, n, pos, lack, topic, group, tag, key, body, ⟨ka, kn, kc⟩, ⟨ta, tn, tc⟩, ⟨pa, pn, pc⟩, sync⟩ keys tags keep nm ls.data.toList) ⟨#[32]⟩) := Lib.hid (by rw [HEV2.out]; rfl)
        clear HEV2
        have hv0 := HV05.out
        have hvl : ((w5.alloc (.cells #[.string nm] 9))).cell? ⟨bv, 1, none⟩ = some (.string ls) := (((Below.refl w5.heap.size w5).alloc (Nat.le_refl _) (.cells #[.string nm] 9)).cell (cell_lt HV15.out)).trans HV15.out
        go_wp2_with fail
        -- LOOP
        have HZB : Hid (Below w5.heap.size w5 ((w5.alloc (.cells #[.string nm] 9)).iter ls 0)) := Lib.hid (((Below.refl w5.heap.size w5).alloc (Nat.le_refl _) _).alloc (by simp) _)
        have HZK : Hid (((w5.alloc (.cells #[.string nm] 9)).iter ls 0).heap[w5.heap.size + 1]? = some (.stringIter ls 0)) := Lib.hid (by have := World.iter_heap (w5.alloc (.cells #[.string nm] 9)) ls 0; simpa using this)
        have HZO : Hid (((w5.alloc (.cells #[.string nm] 9)).iter ls 0).ownsRow w5.heap.size 9 1 (.slice (some ⟨w5.heap.size, 0, none⟩) 1 1) 1 (strsV [nm])) := Lib.hid (World.ownsRow.alloc ⟨rfl, .inr ⟨w5.heap.size, 1, #[.string nm], rfl, Nat.le_refl _, heap_alloc_new w5 _, Nat.le_refl _, by decide, rfl, rfl⟩⟩ _)
        have HSZ : Hid (ls.size ≤ 100) := Lib.hid (by rw [← HLS.out]; exact lets_size k (by omega))
        generalize (w5.alloc (.cells #[.string nm] 9)).iter ls 0 = wz at *
        clear hvl hv0
        go_loopw [4] (fun v wr => ∃ i m : Nat, i ≤ ls.size ∧ m ≤ i + 1 ∧ 1 ≤ m ∧ Hid (wr.heap[w5.heap.size + 1]? = some (.stringIter ls i)) ∧ Hid (m = (wordsL ⟨k, q, n, pos, lack, topic, group, tag, key, body, ⟨ka, kn, kc⟩, ⟨ta, tn, tc⟩, ⟨pa, pn, pc⟩, sync⟩ keys tags keep nm (ls.data.toList.take i)).length) ∧ Hid (wr.ownsRow w5.heap.size 9 1 v m (strsV (wordsL ⟨k, q, n, pos, lack, topic, group, tag, key, body, ⟨ka, kn, kc⟩, ⟨ta, tn, tc⟩, ⟨pa, pn, pc⟩, sync⟩ keys tags keep nm (ls.data.toList.take i)))) ∧ Hid (Below w5.heap.size w5 wr)) (fun _ wr => ls.size - wr.iterPos (w5.heap.size + 1))
        case atStart => exact ⟨0, 1, Nat.zero_le _, Nat.le_refl _, Nat.le_refl _, HZK, Lib.hid rfl, HZO, HZB⟩
        case round =>
          obtain ⟨i, m, hi, hm1, hm2, HK, HML, HO, HW⟩ := hrel
          have HP : Hid (wr.iterPos (w5.heap.size + 1) = i) := Lib.hid (iterPos_of HK.out)
          by_cases hlt : i < ls.size
          · have hll : i < ls.data.toList.length := by rw [len_size]; exact hlt
            have hcl : ls[i]'hlt ∈ letters := HLT.out _ (by rw [Array.mem_toList_iff]; exact Array.getElem_mem (xs := ls.data) hlt)
            have hnx : ∀ ty, (Instr.next (.pointer (some ⟨w5.heap.size + 1, 0, none⟩)) true ty).run Tryz.prog wr = .ok (.tuple #[.bool true, .int .i64 i, .int .i32 (ls[i]'hlt).toNat]) (wr.iterAt (w5.heap.size + 1) ls (i + 1)) := fun ty => Lib.run_next_ascii_at wr (w5.heap.size + 1) ls i ty HK.out hlt (letter_low hcl)
            have HWS : Hid (wordsL ⟨k, q, n, pos, lack, topic, group, tag, key, body, ⟨ka, kn, kc⟩, ⟨ta, tn, tc⟩, ⟨pa, pn, pc⟩, sync⟩ keys tags keep nm (ls.data.toList.take (i + 1)) = if (wordB ⟨k, q, n, pos, lack, topic, group, tag, key, body, ⟨ka, kn, kc⟩, ⟨ta, tn, tc⟩, ⟨pa, pn, pc⟩, sync⟩ keys tags keep (ls[i]'hlt)).size = 0 then wordsL ⟨k, q, n, pos, lack, topic, group, tag, key, body, ⟨ka, kn, kc⟩, ⟨ta, tn, tc⟩, ⟨pa, pn, pc⟩, sync⟩ keys tags keep nm (ls.data.toList.take i) else wordsL ⟨k, q, n, pos, lack, topic, group, tag, key, body, ⟨ka, kn, kc⟩, ⟨ta, tn, tc⟩, ⟨pa, pn, pc⟩, sync⟩ keys tags keep nm (ls.data.toList.take i) ++ [wordB ⟨k, q, n, pos, lack, topic, group, tag, key, body, ⟨ka, kn, kc⟩, ⟨ta, tn, tc⟩, ⟨pa, pn, pc⟩, sync⟩ keys tags keep (ls[i]'hlt)]) := Lib.hid (words_step ⟨k, q, n, pos, lack, topic, group, tag, key, body, ⟨ka, kn, kc⟩, ⟨ta, tn, tc⟩, ⟨pa, pn, pc⟩, sync⟩ keys tags keep nm ls.data.toList i hll)
            have HB6 : Hid (Below w5.heap.size w5 (wr.iterAt (w5.heap.size + 1) ls (i + 1))) := Lib.hid (Lib.below_iterAt HW.out (Nat.le_succ _) _ _)
            have HK6 : Hid ((wr.iterAt (w5.heap.size + 1) ls (i + 1)).heap[w5.heap.size + 1]? = some (.stringIter ls (i + 1))) := Lib.hid (Lib.iterAt_heap _ _ _ _ _ HK.out)
            have HO6 : Hid ((wr.iterAt (w5.heap.size + 1) ls (i + 1)).ownsRow w5.heap.size 9 1 u4 m (strsV (wordsL ⟨k, q, n, pos, lack, topic, group, tag, key, body, ⟨ka, kn, kc⟩, ⟨ta, tn, tc⟩, ⟨pa, pn, pc⟩, sync⟩ keys tags keep nm (ls.data.toList.take i)))) := Lib.hid (own_iterAt HO.out HK.out _)
            generalize wr.iterAt (w5.heap.size + 1) ls (i + 1) = w6 at *
            have HRX6 := Lib.hid (rangeAt_below HRX5.out HB6.out)
            have HWD := Lib.hid (word_calls ⟨k, q, n, pos, lack, topic, group, tag, key, body, ⟨ka, kn, kc⟩, ⟨ta, tn, tc⟩, ⟨pa, pn, pc⟩, sync⟩ keys tags keep w6 (HCX5.out.below HB6.out) HT.out (ls[i]'hlt) hcl)
            obtain ⟨x, HX⟩ : ∃ x, Hid (wordB ⟨k, q, n, pos, lack, topic, group, tag, key, body, ⟨ka, kn, kc⟩, ⟨ta, tn, tc⟩, ⟨pa, pn, pc⟩, sync⟩ keys tags keep (ls[i]'hlt) = x) := ⟨_, Lib.hid rfl⟩
            rw [HX.out] at HWS HWD
            generalize ls[i]'hlt = c at *
            clear HO HK HW
            have e0 : w6.cell? ⟨w.heap.size, 0, none⟩ = some (.int .i64 k) := HRX6.out 0 _ (by rw [← HCE.out]; rfl)
            have e1 : w6.cell? ⟨w.heap.size, 1, none⟩ = some (.int .i64 q) := HRX6.out 1 _ (by rw [← HCE.out]; rfl)
            have e2 : w6.cell? ⟨w.heap.size, 2, none⟩ = some (.int .i64 n) := HRX6.out 2 _ (by rw [← HCE.out]; rfl)
            have e3 : w6.cell? ⟨w.heap.size, 3, none⟩ = some (.int .i64 pos) := HRX6.out 3 _ (by rw [← HCE.out]; rfl)
            have e4 : w6.cell? ⟨w.heap.size, 4, none⟩ = some (.int .i64 lack) := HRX6.out 4 _ (by rw [← HCE.out]; rfl)
            have e5 : w6.cell? ⟨w.heap.size, 5, none⟩ = some (.string topic) := HRX6.out 5 _ (by rw [← HCE.out]; rfl)
            have e6 : w6.cell? ⟨w.heap.size, 6, none⟩ = some (.string group) := HRX6.out 6 _ (by rw [← HCE.out]; rfl)
            have e7 : w6.cell? ⟨w.heap.size, 7, none⟩ = some (.string tag) := HRX6.out 7 _ (by rw [← HCE.out]; rfl)
            have e8 : w6.cell? ⟨w.heap.size, 8, none⟩ = some (.string key) := HRX6.out 8 _ (by rw [← HCE.out]; rfl)
            have e9 : w6.cell? ⟨w.heap.size, 9, none⟩ = some (.string body) := HRX6.out 9 _ (by rw [← HCE.out]; rfl)
            have e10 : w6.cell? ⟨w.heap.size, 10, none⟩ = some (.slice ka kn kc) := HRX6.out 10 _ (by rw [← HCE.out]; rfl)
            have e11 : w6.cell? ⟨w.heap.size, 11, none⟩ = some (.slice ta tn tc) := HRX6.out 11 _ (by rw [← HCE.out]; rfl)
            have e12 : w6.cell? ⟨w.heap.size, 12, none⟩ = some (.slice pa pn pc) := HRX6.out 12 _ (by rw [← HCE.out]; rfl)
            have e13 : w6.cell? ⟨w.heap.size, 13, none⟩ = some (.bool sync) := HRX6.out 13 _ (by rw [← HCE.out]; rfl)
            go_wp2_with fail
            refine (show Calls Tryz.prog 23 #[.agg #[.int .i64 k, .int .i64 q, .int .i64 n, .int .i64 pos, .int .i64 lack, .string topic, .string group, .string tag, .string key, .string body, .slice ka kn kc, .slice ta tn tc, .slice pa pn pc, .bool sync], .int .i32 c.toNat] w6 fun e w' => e = .returned (.string x) ∧ Below w6.heap.size w6 w' from HWD.out).mono ?_
            rintro e w7 ⟨rfl, hb7⟩
            clear e0 e1 e2 e3 e4 e5 e6 e7 e8 e9 e10 e11 e12 e13
            have HB7 := Lib.hid (HB6.out.trans (hb7.mono HB6.out.size))
            have HK7 : Hid (w7.heap[w5.heap.size + 1]? = some (.stringIter ls (i + 1))) := Lib.hid ((hb7.block _ (Array.getElem?_eq_some_iff.1 HK6.out).1).trans HK6.out)
            have HO7 := Lib.hid (own_below HO6.out hb7)
            clear hb7 HB6 HK6 HO6 HWD HRX6 hnx
            have hne := is_empty x
            by_cases hz : x.size = 0
            · simp only [hz, decide_true] at hne
              have HZ := Lib.hid hz
              clear hz
              go_wp2_with fail
              go_roundw
              case rel => exact ⟨i + 1, m, hlt, by omega, hm2, HK7, Lib.hid (by rw [HWS.out, if_pos HZ.out]; exact HML.out), Lib.hid (by rw [HWS.out, if_pos HZ.out]; exact HO7.out), HB7⟩
              case measure => rw [iterPos_of HK7.out, HP.out]; omega
            · simp only [hz, decide_false] at hne
              have HZ := Lib.hid hz
              clear hz
              go_wp2_with (at_builtin; refine app_keep w5.heap.size (w5.heap.size + 1) ls (i + 1) HK7.out (by rfl) _ _ (by rfl) u4 (.string x) m _ (by rfl) (by rfl) (by rfl) HO7.out HB7.out HB7.out.size (by have := HSZ.out; omega) ?_; intro g cap w8 hown8 hbel8 hk8; have HO8 := Lib.hid hown8; have HB8 := Lib.hid hbel8; have HK8 := Lib.hid hk8; clear hown8 hbel8 hk8)
              go_roundw
              case rel => exact ⟨i + 1, m + 1, hlt, by omega, by omega, HK8, Lib.hid (by rw [HWS.out, if_neg HZ.out, List.length_append, ← HML.out]; rfl), Lib.hid (by rw [HWS.out, if_neg HZ.out]; unfold strsV; rw [List.map_append]; exact HO8.out), HB8⟩
              case measure => rw [iterPos_of HK8.out, HP.out]; omega
          · have hnx : ∀ ty, (Instr.next (.pointer (some ⟨w5.heap.size + 1, 0, none⟩)) true ty).run Tryz.prog wr = .ok (.tuple #[.bool false]) wr := fun ty => Lib.run_next_end_at wr (w5.heap.size + 1) ls i ty HK.out hlt
            have hil : i = ls.size := by omega
            have HO2 := HO.out
            rw [hil, ← len_size, List.take_length] at HO2
            have HML2 := HML.out
            rw [hil, ← len_size, List.take_length] at HML2
            have hm3 : m ≤ 200 := by have := HSZ.out; omega
            rcases HO2.2 with ⟨_, h0⟩ | ⟨g, cap, cur, rfl, _⟩
            · omega
            · have HJ := Lib.hid (join_own g m cap (wordsL ⟨k, q, n, pos, lack, topic, group, tag, key, body, ⟨ka, kn, kc⟩, ⟨ta, tn, tc⟩, ⟨pa, pn, pc⟩, sync⟩ keys tags keep nm ls.data.toList) ⟨#[32]⟩ wr w5.heap.size HO2 (fun y hy => by
                unfold wordsL at hy
                rcases List.mem_cons.1 hy with rfl | hy
                · have := HNS.out; omega
                · obtain ⟨c, _, rfl⟩ := List.mem_map.1 (List.mem_filter.1 hy).1
                  exact word_size _ _ _ _ HM.out HT.out (HCX5.out.ks.1.symm) (HCX5.out.ts.1.symm) (HCX5.out.ps.1.symm) c) (by decide) (by omega))
              clear HO2 HML2
              go_wp2_with fail
              refine HJ.out.mono ?_
              rintro e w9 ⟨rfl, hb9⟩
              have HB9 := Lib.hid (HB5.out.trans ((HW.out.trans (hb9.mono HW.out.size)).mono HB5.out.size))
              clear hb9
              go_wp2_with fail
              go_ret
              exact ⟨ret_text HEV3.out.symm, HB9.out⟩

end Go.Proofs.YtphilpjglajffaaGreatDoor.Lin
