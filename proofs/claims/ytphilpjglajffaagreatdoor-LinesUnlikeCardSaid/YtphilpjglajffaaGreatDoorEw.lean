/- Walk: the law of unlike events (under way). -/
import Derived.Test.YtphilpjglajffaaGreatDoorEp
import Derived.Test.YtphilpjglajffaaGreatDoorAwake2
import Derived.Test.YtphilpjglajffaaGreatDoorRg
namespace Go.Proofs.YtphilpjglajffaaGreatDoor.Lin
open Go.RowKit

set_option maxRecDepth 100000 in
set_option maxHeartbeats 8000000 in
theorem unlike_law (r r' : Raw) (keys tags keys' tags' : List ByteArray) (keep keep' : List Bool) (s t : ByteArray) (w : World) (hc : Ctx w r keys tags keep) (hc' : Ctx w r' keys' tags' keep')
    (hz : (r.ks.a = none → r.ks.n = 0 ∧ r.ks.c = 0) ∧ (r.ts.a = none → r.ts.n = 0 ∧ r.ts.c = 0)) (hz' : (r'.ks.a = none → r'.ks.n = 0 ∧ r'.ks.c = 0) ∧ (r'.ts.a = none → r'.ts.n = 0 ∧ r'.ts.c = 0))
    {tp : TypeId} {p : Value} (hw : w.cell? ⟨2, 0, none⟩ = some (.iface tp p)) :
    Calls Tryz.prog 5 #[r.val, r'.val, .agg #[.string s, .string t]] w fun e w' => e = .returned (.bool true) ∧ Below w.heap.size w w' := by
  obtain ⟨kind, q, n, pos, lack, topic, group, tag, key, body, ⟨ka, kn, kc⟩, ⟨ta, tn, tc⟩, ⟨pa, pn, pc⟩, sync⟩ := r
  obtain ⟨kind', q', n', pos', lack', topic', group', tag', key', body', ⟨ka', kn', kc'⟩, ⟨ta', tn', tc'⟩, ⟨pa', pn', pc'⟩, sync'⟩ := r'
  obtain ⟨W0, HWE0⟩ : ∃ W0, Hid ((w.alloc (.cells #[.int .i64 kind, .int .i64 q, .int .i64 n, .int .i64 pos, .int .i64 lack, .string topic, .string group, .string tag, .string key, .string body, .slice ka kn kc, .slice ta tn tc, .slice pa pn pc, .bool sync] 25)) = W0) := ⟨_, Lib.hid rfl⟩
  obtain ⟨W1, HWE1⟩ : ∃ W1, Hid ((W0.alloc (.cells #[.int .i64 kind', .int .i64 q', .int .i64 n', .int .i64 pos', .int .i64 lack', .string topic', .string group', .string tag', .string key', .string body', .slice ka' kn' kc', .slice ta' tn' tc', .slice pa' pn' pc', .bool sync'] 25)) = W1) := ⟨_, Lib.hid rfl⟩
  obtain ⟨W, HWE⟩ : ∃ W, Hid ((W1.alloc (.cells #[.string s, .string t] 39)) = W) := ⟨_, Lib.hid rfl⟩
  have HS0 : Hid (W0.heap.size = w.heap.size + 1) := Lib.hid (by rw [← HWE0.out]; simp)
  have HS1 : Hid (W1.heap.size = w.heap.size + 2) := Lib.hid (by rw [← HWE1.out]; simp [HS0.out])
  have HB0 : Hid (Below w.heap.size w W0) := Lib.hid (by rw [← HWE0.out]; exact (Below.refl _ _).alloc (Nat.le_refl _) _)
  have HB1 : Hid (Below W0.heap.size W0 W1) := Lib.hid (by rw [← HWE1.out]; exact (Below.refl _ _).alloc (Nat.le_refl _) _)
  have HB2 : Hid (Below W1.heap.size W1 W) := Lib.hid (by rw [← HWE.out]; exact (Below.refl _ _).alloc (Nat.le_refl _) _)
  have HBW : Hid (Below w.heap.size w W) := Lib.hid ((HB0.out.trans (HB1.out.mono HB0.out.size)).trans (HB2.out.mono (Nat.le_trans HB0.out.size HB1.out.size)))
  have HC := Lib.hid (hc.below HBW.out)
  have HC' := Lib.hid (hc'.below HBW.out)
  have HW2 : Hid (W.cell? ⟨2, 0, none⟩ = some (.iface tp p)) := Lib.hid ((HBW.out.cell (cell_lt hw)).trans hw)
  have HR : Hid (W.rangeAt w.heap.size 0 [.int .i64 kind, .int .i64 q, .int .i64 n, .int .i64 pos, .int .i64 lack, .string topic, .string group, .string tag, .string key, .string body, .slice ka kn kc, .slice ta tn tc, .slice pa pn pc, .bool sync]) := Lib.hid (rangeAt_of_block (b := w.heap.size) (t := 25) ((HB2.out.block _ (by rw [HS1.out]; omega)).trans ((HB1.out.block _ (by rw [HS0.out]; omega)).trans (by rw [← HWE0.out]; exact heap_alloc_new w _))))
  have HR' : Hid (W.rangeAt (w.heap.size + 1) 0 [.int .i64 kind', .int .i64 q', .int .i64 n', .int .i64 pos', .int .i64 lack', .string topic', .string group', .string tag', .string key', .string body', .slice ka' kn' kc', .slice ta' tn' tc', .slice pa' pn' pc', .bool sync']) := Lib.hid (rangeAt_of_block (b := w.heap.size + 1) (t := 25) ((HB2.out.block _ (by rw [HS1.out]; omega)).trans (by rw [← HWE1.out, ← HS0.out]; exact heap_alloc_new W0 _)))
  have HRS : Hid (W.rangeAt (w.heap.size + 1 + 1) 0 [.string s, .string t]) := Lib.hid (rangeAt_of_block (b := w.heap.size + 1 + 1) (t := 39) (by rw [← HWE.out, show w.heap.size + 1 + 1 = W1.heap.size from HS1.out.symm]; exact heap_alloc_new W1 _))
  clear hc hc' hw
  unfold Raw.val Raw.cells
  go_enter Tryz.func5, Tryz.ntmps5
  go_upto_region 1 with fail
  rw [HWE0.out, HWE1.out, HWE.out]
  go_wp2_with fail
  refine (Go.Ev.awake_calls HW2.out (cell_lt HW2.out)).mono ?_
  rintro e wa ⟨rfl, hba⟩
  have HBA := Lib.hid (HBW.out.trans (hba.mono HBW.out.size))
  have HCA := Lib.hid (HC.out.below hba)
  have HCA' := Lib.hid (HC'.out.below hba)
  have HRA := Lib.hid (rangeAt_below HR.out hba)
  have HRA' := Lib.hid (rangeAt_below HR'.out hba)
  have HRT := Lib.hid (rangeAt_below HRS.out hba)
  clear hba HC HC' HR HR' HRS HW2 HBW HWE HWE0 HWE1 HS0 HS1 HB0 HB1 HB2
  have HG := Lib.hid (great_calls ⟨kind, q, n, pos, lack, topic, group, tag, key, body, ⟨ka, kn, kc⟩, ⟨ta, tn, tc⟩, ⟨pa, pn, pc⟩, sync⟩ keys tags wa HCA.out.ks HCA.out.ts hz.1 hz.2)
  obtain ⟨G, HGE⟩ : ∃ G, Hid (greatB ⟨kind, q, n, pos, lack, topic, group, tag, key, body, ⟨ka, kn, kc⟩, ⟨ta, tn, tc⟩, ⟨pa, pn, pc⟩, sync⟩ keys tags = G) := ⟨_, Lib.hid rfl⟩
  rw [HGE.out] at HG
  have e0 : wa.cell? ⟨w.heap.size, 0, none⟩ = some (.int .i64 kind) := HRA.out 0 _ rfl
  have e1 : wa.cell? ⟨w.heap.size, 1, none⟩ = some (.int .i64 q) := HRA.out 1 _ rfl
  have e2 : wa.cell? ⟨w.heap.size, 2, none⟩ = some (.int .i64 n) := HRA.out 2 _ rfl
  have e3 : wa.cell? ⟨w.heap.size, 3, none⟩ = some (.int .i64 pos) := HRA.out 3 _ rfl
  have e4 : wa.cell? ⟨w.heap.size, 4, none⟩ = some (.int .i64 lack) := HRA.out 4 _ rfl
  have e5 : wa.cell? ⟨w.heap.size, 5, none⟩ = some (.string topic) := HRA.out 5 _ rfl
  have e6 : wa.cell? ⟨w.heap.size, 6, none⟩ = some (.string group) := HRA.out 6 _ rfl
  have e7 : wa.cell? ⟨w.heap.size, 7, none⟩ = some (.string tag) := HRA.out 7 _ rfl
  have e8 : wa.cell? ⟨w.heap.size, 8, none⟩ = some (.string key) := HRA.out 8 _ rfl
  have e9 : wa.cell? ⟨w.heap.size, 9, none⟩ = some (.string body) := HRA.out 9 _ rfl
  have e10 : wa.cell? ⟨w.heap.size, 10, none⟩ = some (.slice ka kn kc) := HRA.out 10 _ rfl
  have e11 : wa.cell? ⟨w.heap.size, 11, none⟩ = some (.slice ta tn tc) := HRA.out 11 _ rfl
  have e12 : wa.cell? ⟨w.heap.size, 12, none⟩ = some (.slice pa pn pc) := HRA.out 12 _ rfl
  have e13 : wa.cell? ⟨w.heap.size, 13, none⟩ = some (.bool sync) := HRA.out 13 _ rfl
  have e0' : wa.cell? ⟨w.heap.size + 1, 0, none⟩ = some (.int .i64 kind') := HRA'.out 0 _ rfl
  have e1' : wa.cell? ⟨w.heap.size + 1, 1, none⟩ = some (.int .i64 q') := HRA'.out 1 _ rfl
  have e2' : wa.cell? ⟨w.heap.size + 1, 2, none⟩ = some (.int .i64 n') := HRA'.out 2 _ rfl
  have e3' : wa.cell? ⟨w.heap.size + 1, 3, none⟩ = some (.int .i64 pos') := HRA'.out 3 _ rfl
  have e4' : wa.cell? ⟨w.heap.size + 1, 4, none⟩ = some (.int .i64 lack') := HRA'.out 4 _ rfl
  have e5' : wa.cell? ⟨w.heap.size + 1, 5, none⟩ = some (.string topic') := HRA'.out 5 _ rfl
  have e6' : wa.cell? ⟨w.heap.size + 1, 6, none⟩ = some (.string group') := HRA'.out 6 _ rfl
  have e7' : wa.cell? ⟨w.heap.size + 1, 7, none⟩ = some (.string tag') := HRA'.out 7 _ rfl
  have e8' : wa.cell? ⟨w.heap.size + 1, 8, none⟩ = some (.string key') := HRA'.out 8 _ rfl
  have e9' : wa.cell? ⟨w.heap.size + 1, 9, none⟩ = some (.string body') := HRA'.out 9 _ rfl
  have e10' : wa.cell? ⟨w.heap.size + 1, 10, none⟩ = some (.slice ka' kn' kc') := HRA'.out 10 _ rfl
  have e11' : wa.cell? ⟨w.heap.size + 1, 11, none⟩ = some (.slice ta' tn' tc') := HRA'.out 11 _ rfl
  have e12' : wa.cell? ⟨w.heap.size + 1, 12, none⟩ = some (.slice pa' pn' pc') := HRA'.out 12 _ rfl
  have e13' : wa.cell? ⟨w.heap.size + 1, 13, none⟩ = some (.bool sync') := HRA'.out 13 _ rfl
  go_wp2_with fail
  refine (show Calls Tryz.prog 8 #[.agg #[.int .i64 kind, .int .i64 q, .int .i64 n, .int .i64 pos, .int .i64 lack, .string topic, .string group, .string tag, .string key, .string body, .slice ka kn kc, .slice ta tn tc, .slice pa pn pc, .bool sync]] wa fun e w' => e = .returned (.bool G) ∧ Below wa.heap.size wa w' from HG.out).mono ?_
  rintro e w1 ⟨rfl, hb1⟩
  have HB1 := Lib.hid (HBA.out.trans (hb1.mono HBA.out.size))
  have HC1 := Lib.hid (HCA.out.below hb1)
  have HC1' := Lib.hid (HCA'.out.below hb1)
  have HR1 := Lib.hid (rangeAt_below HRA.out hb1)
  have HR1' := Lib.hid (rangeAt_below HRA'.out hb1)
  have HS1 := Lib.hid (rangeAt_below HRT.out hb1)
  clear hb1 HG HBA HCA HCA' HRA HRA' HRT
  clear e0 e0' e1 e1' e2 e2' e3 e3' e4 e4' e5 e5' e6 e6' e7 e7' e8 e8' e9 e9' e10 e10' e11 e11' e12 e12' e13 e13'
  cases G
  rotate_left
  · go_wp2_with fail
    go_ret
    exact ⟨rfl, HB1.out⟩
  have HG := Lib.hid (great_calls ⟨kind', q', n', pos', lack', topic', group', tag', key', body', ⟨ka', kn', kc'⟩, ⟨ta', tn', tc'⟩, ⟨pa', pn', pc'⟩, sync'⟩ keys' tags' w1 HC1'.out.ks HC1'.out.ts hz'.1 hz'.2)
  obtain ⟨G', HGE'⟩ : ∃ G', Hid (greatB ⟨kind', q', n', pos', lack', topic', group', tag', key', body', ⟨ka', kn', kc'⟩, ⟨ta', tn', tc'⟩, ⟨pa', pn', pc'⟩, sync'⟩ keys' tags' = G') := ⟨_, Lib.hid rfl⟩
  rw [HGE'.out] at HG
  have e0' : w1.cell? ⟨w.heap.size + 1, 0, none⟩ = some (.int .i64 kind') := HR1'.out 0 _ rfl
  have e1' : w1.cell? ⟨w.heap.size + 1, 1, none⟩ = some (.int .i64 q') := HR1'.out 1 _ rfl
  have e2' : w1.cell? ⟨w.heap.size + 1, 2, none⟩ = some (.int .i64 n') := HR1'.out 2 _ rfl
  have e3' : w1.cell? ⟨w.heap.size + 1, 3, none⟩ = some (.int .i64 pos') := HR1'.out 3 _ rfl
  have e4' : w1.cell? ⟨w.heap.size + 1, 4, none⟩ = some (.int .i64 lack') := HR1'.out 4 _ rfl
  have e5' : w1.cell? ⟨w.heap.size + 1, 5, none⟩ = some (.string topic') := HR1'.out 5 _ rfl
  have e6' : w1.cell? ⟨w.heap.size + 1, 6, none⟩ = some (.string group') := HR1'.out 6 _ rfl
  have e7' : w1.cell? ⟨w.heap.size + 1, 7, none⟩ = some (.string tag') := HR1'.out 7 _ rfl
  have e8' : w1.cell? ⟨w.heap.size + 1, 8, none⟩ = some (.string key') := HR1'.out 8 _ rfl
  have e9' : w1.cell? ⟨w.heap.size + 1, 9, none⟩ = some (.string body') := HR1'.out 9 _ rfl
  have e10' : w1.cell? ⟨w.heap.size + 1, 10, none⟩ = some (.slice ka' kn' kc') := HR1'.out 10 _ rfl
  have e11' : w1.cell? ⟨w.heap.size + 1, 11, none⟩ = some (.slice ta' tn' tc') := HR1'.out 11 _ rfl
  have e12' : w1.cell? ⟨w.heap.size + 1, 12, none⟩ = some (.slice pa' pn' pc') := HR1'.out 12 _ rfl
  have e13' : w1.cell? ⟨w.heap.size + 1, 13, none⟩ = some (.bool sync') := HR1'.out 13 _ rfl
  go_wp2_with fail
  refine (show Calls Tryz.prog 8 #[.agg #[.int .i64 kind', .int .i64 q', .int .i64 n', .int .i64 pos', .int .i64 lack', .string topic', .string group', .string tag', .string key', .string body', .slice ka' kn' kc', .slice ta' tn' tc', .slice pa' pn' pc', .bool sync']] w1 fun e w' => e = .returned (.bool G') ∧ Below w1.heap.size w1 w' from HG.out).mono ?_
  rintro e w2 ⟨rfl, hb2⟩
  have HB2 := Lib.hid (HB1.out.trans (hb2.mono HB1.out.size))
  have HC2 := Lib.hid (HC1.out.below hb2)
  have HC2' := Lib.hid (HC1'.out.below hb2)
  have HR2 := Lib.hid (rangeAt_below HR1.out hb2)
  have HR2' := Lib.hid (rangeAt_below HR1'.out hb2)
  have HS2 := Lib.hid (rangeAt_below HS1.out hb2)
  clear hb2 HG HB1 HC1 HC1' HR1 HR1' HS1
  clear e0' e1' e2' e3' e4' e5' e6' e7' e8' e9' e10' e11' e12' e13'
  cases G'
  rotate_left
  · go_wp2_with fail
    go_ret
    exact ⟨rfl, HB2.out⟩
  have s0 : w2.cell? ⟨w.heap.size + 1 + 1, 0, none⟩ = some (.string s) := HS2.out 0 _ rfl
  have s1 : w2.cell? ⟨w.heap.size + 1 + 1, 1, none⟩ = some (.string t) := HS2.out 1 _ rfl
  by_cases hs : 1000 < s.size
  · have ds : decide ((1000 : Int) < (s.size : Int)) = true := by simp; omega
    go_wp2_with fail
    go_ret
    exact ⟨rfl, HB2.out⟩
  have ds : decide ((1000 : Int) < (s.size : Int)) = false := by simp; omega
  by_cases ht : 1000 < t.size
  · have dt : decide ((1000 : Int) < (t.size : Int)) = true := by simp; omega
    go_wp2_with fail
    go_ret
    exact ⟨rfl, HB2.out⟩
  have dt : decide ((1000 : Int) < (t.size : Int)) = false := by simp; omega
  have GM := Lib.hid (great_mild HGE.out)
  have GM' := Lib.hid (great_mild HGE'.out)
  have HE1 : Hid (∀ X, Below w2.heap.size w2 X → Calls Tryz.prog 9 #[.agg #[.int .i64 kind, .int .i64 q, .int .i64 n, .int .i64 pos, .int .i64 lack, .string topic, .string group, .string tag, .string key, .string body, .slice ka kn kc, .slice ta tn tc, .slice pa pn pc, .bool sync]] X fun e w' => e = .returned (.string (eventB ⟨kind, q, n, pos, lack, topic, group, tag, key, body, ⟨ka, kn, kc⟩, ⟨ta, tn, tc⟩, ⟨pa, pn, pc⟩, sync⟩ keys tags keep)) ∧ Below X.heap.size X w') := Lib.hid fun X hX => event_any ⟨kind, q, n, pos, lack, topic, group, tag, key, body, ⟨ka, kn, kc⟩, ⟨ta, tn, tc⟩, ⟨pa, pn, pc⟩, sync⟩ keys tags keep X (HC2.out.below hX) GM.out.1 GM.out.2.1 GM.out.2.2
  have HE2 : Hid (∀ X, Below w2.heap.size w2 X → Calls Tryz.prog 9 #[.agg #[.int .i64 kind', .int .i64 q', .int .i64 n', .int .i64 pos', .int .i64 lack', .string topic', .string group', .string tag', .string key', .string body', .slice ka' kn' kc', .slice ta' tn' tc', .slice pa' pn' pc', .bool sync']] X fun e w' => e = .returned (.string (eventB ⟨kind', q', n', pos', lack', topic', group', tag', key', body', ⟨ka', kn', kc'⟩, ⟨ta', tn', tc'⟩, ⟨pa', pn', pc'⟩, sync'⟩ keys' tags' keep')) ∧ Below X.heap.size X w') := Lib.hid fun X hX => event_any ⟨kind', q', n', pos', lack', topic', group', tag', key', body', ⟨ka', kn', kc'⟩, ⟨ta', tn', tc'⟩, ⟨pa', pn', pc'⟩, sync'⟩ keys' tags' keep' X (HC2'.out.below hX) GM'.out.1 GM'.out.2.1 GM'.out.2.2
  obtain ⟨EA, HEA⟩ : ∃ EA, Hid (eventB ⟨kind, q, n, pos, lack, topic, group, tag, key, body, ⟨ka, kn, kc⟩, ⟨ta, tn, tc⟩, ⟨pa, pn, pc⟩, sync⟩ keys tags keep = EA) := ⟨_, Lib.hid rfl⟩
  obtain ⟨EB, HEB⟩ : ∃ EB, Hid (eventB ⟨kind', q', n', pos', lack', topic', group', tag', key', body', ⟨ka', kn', kc'⟩, ⟨ta', tn', tc'⟩, ⟨pa', pn', pc'⟩, sync'⟩ keys' tags' keep' = EB) := ⟨_, Lib.hid rfl⟩
  obtain ⟨SB, HSB⟩ : ∃ SB, Hid (sameB ⟨kind, q, n, pos, lack, topic, group, tag, key, body, ⟨ka, kn, kc⟩, ⟨ta, tn, tc⟩, ⟨pa, pn, pc⟩, sync⟩ ⟨kind', q', n', pos', lack', topic', group', tag', key', body', ⟨ka', kn', kc'⟩, ⟨ta', tn', tc'⟩, ⟨pa', pn', pc'⟩, sync'⟩ keys tags keys' tags' keep keep' = SB) := ⟨_, Lib.hid rfl⟩
  obtain ⟨D, HD⟩ : ∃ D, Hid (decide (s = t) = D) := ⟨_, Lib.hid rfl⟩
  have HPL : Hid (¬ EA = ⟨#[]⟩ → ¬ EB = ⟨#[]⟩ → decide (EA = EB) = SB) := Lib.hid fun h1 h2 => by
    rw [← HEA.out, ← HEB.out, ← HSB.out]
    rw [← HEA.out] at h1
    rw [← HEB.out] at h2
    exact unlike_plain GM.out.1 GM.out.2.1 GM.out.2.2 HC2.out.ks.1.symm HC2.out.ts.1.symm HC2.out.ps.1.symm GM'.out.1 GM'.out.2.1 GM'.out.2.2 HC2'.out.ks.1.symm HC2'.out.ts.1.symm HC2'.out.ps.1.symm h1 h2
  rw [HEA.out] at HE1
  rw [HEB.out] at HE2
  clear HEA HEB
  have HSM : Hid (∀ X, Below w2.heap.size w2 X → Calls Tryz.prog 12 #[.agg #[.int .i64 kind, .int .i64 q, .int .i64 n, .int .i64 pos, .int .i64 lack, .string topic, .string group, .string tag, .string key, .string body, .slice ka kn kc, .slice ta tn tc, .slice pa pn pc, .bool sync], .agg #[.int .i64 kind', .int .i64 q', .int .i64 n', .int .i64 pos', .int .i64 lack', .string topic', .string group', .string tag', .string key', .string body', .slice ka' kn' kc', .slice ta' tn' tc', .slice pa' pn' pc', .bool sync']] X fun e w' => e = .returned (.bool SB) ∧ Below X.heap.size X w') := Lib.hid fun X hX => by
    have h := alike_calls ⟨kind, q, n, pos, lack, topic, group, tag, key, body, ⟨ka, kn, kc⟩, ⟨ta, tn, tc⟩, ⟨pa, pn, pc⟩, sync⟩ ⟨kind', q', n', pos', lack', topic', group', tag', key', body', ⟨ka', kn', kc'⟩, ⟨ta', tn', tc'⟩, ⟨pa', pn', pc'⟩, sync'⟩ keys tags keys' tags' keep keep' X (HC2.out.below hX).ks (HC2.out.below hX).ts (HC2.out.below hX).ps (HC2'.out.below hX).ks (HC2'.out.below hX).ts (HC2'.out.below hX).ps ⟨Nat.le_trans GM.out.1.ks (by decide), Nat.le_trans GM.out.1.ts (by decide), Nat.le_trans GM.out.1.ps (by decide)⟩
    rw [HSB.out] at h
    exact h
  have HX1 : Hid (∀ X, Calls Tryz.prog 13 #[.string s] X fun e w' => e = .returned (.string (hexS s)) ∧ Below X.heap.size X w') := Lib.hid fun X => hex_calls s X (by omega)
  have HX2 : Hid (∀ X, Calls Tryz.prog 13 #[.string t] X fun e w' => e = .returned (.string (hexS t)) ∧ Below X.heap.size X w') := Lib.hid fun X => hex_calls t X (by omega)
  have dst1 : (s.toList == t.toList) = D := by rw [str_eq]; exact HD.out
  have dst2 : ((hexS s).toList == (hexS t).toList) = D := by
    rw [str_eq, ← HD.out]
    exact decide_eq_decide.2 ⟨hexS_inj, fun h => by rw [h]⟩
  generalize hexS s = ZS at *
  generalize hexS t = ZT at *
  clear hs ht GM GM' HC2 HC2' HSB HD
  have HS0 := Lib.hid s0
  have HS1 := Lib.hid s1
  go_upto_region 5 with fail
  clear s0 s1 ds dt
  refine Rg.region_rg' [Rg.Is (.agg #[.int .i64 kind, .int .i64 q, .int .i64 n, .int .i64 pos, .int .i64 lack, .string topic, .string group, .string tag, .string key, .string body, .slice ka kn kc, .slice ta tn tc, .slice pa pn pc, .bool sync]),
    Rg.Is (.string EA),
    Rg.Is (.agg #[.int .i64 kind', .int .i64 q', .int .i64 n', .int .i64 pos', .int .i64 lack', .string topic', .string group', .string tag', .string key', .string body', .slice ka' kn' kc', .slice ta' tn' tc', .slice pa' pn' pc', .bool sync']),
    Rg.Is (.string EB),
    Rg.Is (.string EA),
    Rg.Is (.string EB)]
    [[], [0], [], [2], [1], [3]] (by kernel_rfl) (by kernel_rfl) (by kernel_rfl) ?kept ?steps ?fin
  case steps =>
    refine Rg.steps_cons (fun x w1 hG hK => ?_) ?_
    · -- 0: t29 := Op.load 25 (Operand.tmp 3)
      clear hK
      simp only [Rg.fillOps, Act.put, List.take_succ_cons, List.take_zero, List.setIfInBounds_toArray, List.set_cons_zero, List.set_cons_succ, Nat.zero_add, Nat.reduceAdd]
      have HQ := Lib.hid (rangeAt_below HR2.out (hG))
      clear hG
      have f0 : w1.cell? ⟨w.heap.size, 0, none⟩ = some (.int .i64 kind) := HQ.out 0 _ rfl
      have f1 : w1.cell? ⟨w.heap.size, 1, none⟩ = some (.int .i64 q) := HQ.out 1 _ rfl
      have f2 : w1.cell? ⟨w.heap.size, 2, none⟩ = some (.int .i64 n) := HQ.out 2 _ rfl
      have f3 : w1.cell? ⟨w.heap.size, 3, none⟩ = some (.int .i64 pos) := HQ.out 3 _ rfl
      have f4 : w1.cell? ⟨w.heap.size, 4, none⟩ = some (.int .i64 lack) := HQ.out 4 _ rfl
      have f5 : w1.cell? ⟨w.heap.size, 5, none⟩ = some (.string topic) := HQ.out 5 _ rfl
      have f6 : w1.cell? ⟨w.heap.size, 6, none⟩ = some (.string group) := HQ.out 6 _ rfl
      have f7 : w1.cell? ⟨w.heap.size, 7, none⟩ = some (.string tag) := HQ.out 7 _ rfl
      have f8 : w1.cell? ⟨w.heap.size, 8, none⟩ = some (.string key) := HQ.out 8 _ rfl
      have f9 : w1.cell? ⟨w.heap.size, 9, none⟩ = some (.string body) := HQ.out 9 _ rfl
      have f10 : w1.cell? ⟨w.heap.size, 10, none⟩ = some (.slice ka kn kc) := HQ.out 10 _ rfl
      have f11 : w1.cell? ⟨w.heap.size, 11, none⟩ = some (.slice ta tn tc) := HQ.out 11 _ rfl
      have f12 : w1.cell? ⟨w.heap.size, 12, none⟩ = some (.slice pa pn pc) := HQ.out 12 _ rfl
      have f13 : w1.cell? ⟨w.heap.size, 13, none⟩ = some (.bool sync) := HQ.out 13 _ rfl
      clear HQ
      go_wp2_with fail
      exact ⟨rfl, rfl, Below.refl _ _, rfl⟩
    refine Rg.steps_cons (fun x w1 hG hK => ?_) ?_
    · -- 1: t30 := Op.call { callee := Callee.value (Operand.func 9), args := #[Operand.tmp 29], argTypes := #[25] }
      have q0 : x 0 = .agg #[.int .i64 kind, .int .i64 q, .int .i64 n, .int .i64 pos, .int .i64 lack, .string topic, .string group, .string tag, .string key, .string body, .slice ka kn kc, .slice ta tn tc, .slice pa pn pc, .bool sync] := hK.1
      clear hK
      simp only [Rg.fillOps, Act.put, List.take_succ_cons, List.take_zero, List.setIfInBounds_toArray, List.set_cons_zero, List.set_cons_succ, Nat.zero_add, Nat.reduceAdd]
      go_wp2_with fail
      refine (HE1.out _ hG).mono ?_
      rintro e w9 ⟨rfl, hb⟩
      go_wp2_with fail
      exact ⟨rfl, rfl, hb, rfl⟩
    refine Rg.steps_cons (fun x w1 hG hK => ?_) ?_
    · -- 2: t31 := Op.load 25 (Operand.tmp 4)
      clear hK
      simp only [Rg.fillOps, Act.put, List.take_succ_cons, List.take_zero, List.setIfInBounds_toArray, List.set_cons_zero, List.set_cons_succ, Nat.zero_add, Nat.reduceAdd]
      have HQ := Lib.hid (rangeAt_below HR2'.out (hG))
      clear hG
      have f0 : w1.cell? ⟨w.heap.size + 1, 0, none⟩ = some (.int .i64 kind') := HQ.out 0 _ rfl
      have f1 : w1.cell? ⟨w.heap.size + 1, 1, none⟩ = some (.int .i64 q') := HQ.out 1 _ rfl
      have f2 : w1.cell? ⟨w.heap.size + 1, 2, none⟩ = some (.int .i64 n') := HQ.out 2 _ rfl
      have f3 : w1.cell? ⟨w.heap.size + 1, 3, none⟩ = some (.int .i64 pos') := HQ.out 3 _ rfl
      have f4 : w1.cell? ⟨w.heap.size + 1, 4, none⟩ = some (.int .i64 lack') := HQ.out 4 _ rfl
      have f5 : w1.cell? ⟨w.heap.size + 1, 5, none⟩ = some (.string topic') := HQ.out 5 _ rfl
      have f6 : w1.cell? ⟨w.heap.size + 1, 6, none⟩ = some (.string group') := HQ.out 6 _ rfl
      have f7 : w1.cell? ⟨w.heap.size + 1, 7, none⟩ = some (.string tag') := HQ.out 7 _ rfl
      have f8 : w1.cell? ⟨w.heap.size + 1, 8, none⟩ = some (.string key') := HQ.out 8 _ rfl
      have f9 : w1.cell? ⟨w.heap.size + 1, 9, none⟩ = some (.string body') := HQ.out 9 _ rfl
      have f10 : w1.cell? ⟨w.heap.size + 1, 10, none⟩ = some (.slice ka' kn' kc') := HQ.out 10 _ rfl
      have f11 : w1.cell? ⟨w.heap.size + 1, 11, none⟩ = some (.slice ta' tn' tc') := HQ.out 11 _ rfl
      have f12 : w1.cell? ⟨w.heap.size + 1, 12, none⟩ = some (.slice pa' pn' pc') := HQ.out 12 _ rfl
      have f13 : w1.cell? ⟨w.heap.size + 1, 13, none⟩ = some (.bool sync') := HQ.out 13 _ rfl
      clear HQ
      go_wp2_with fail
      exact ⟨rfl, rfl, Below.refl _ _, rfl⟩
    refine Rg.steps_cons (fun x w1 hG hK => ?_) ?_
    · -- 3: t32 := Op.call { callee := Callee.value (Operand.func 9), args := #[Operand.tmp 31], argTypes := #[25] }
      have q2 : x 2 = .agg #[.int .i64 kind', .int .i64 q', .int .i64 n', .int .i64 pos', .int .i64 lack', .string topic', .string group', .string tag', .string key', .string body', .slice ka' kn' kc', .slice ta' tn' tc', .slice pa' pn' pc', .bool sync'] := hK.1
      clear hK
      simp only [Rg.fillOps, Act.put, List.take_succ_cons, List.take_zero, List.setIfInBounds_toArray, List.set_cons_zero, List.set_cons_succ, Nat.zero_add, Nat.reduceAdd]
      go_wp2_with fail
      refine (HE2.out _ hG).mono ?_
      rintro e w9 ⟨rfl, hb⟩
      go_wp2_with fail
      exact ⟨rfl, rfl, hb, rfl⟩
    refine Rg.steps_cons (fun x w1 hG hK => ?_) ?_
    · -- 4: t7 := Op.assign (Operand.tmp 30)
      have q1 : x 1 = .string EA := hK.1
      clear hK
      simp only [Rg.fillOps, Act.put, List.take_succ_cons, List.take_zero, List.setIfInBounds_toArray, List.set_cons_zero, List.set_cons_succ, Nat.zero_add, Nat.reduceAdd]
      clear hG
      go_wp2
      exact ⟨rfl, rfl, Below.refl _ _, q1⟩
    refine Rg.steps_cons (fun x w1 hG hK => ?_) ?_
    · -- 5: t8 := Op.assign (Operand.tmp 32)
      have q3 : x 3 = .string EB := hK.1
      clear hK
      simp only [Rg.fillOps, Act.put, List.take_succ_cons, List.take_zero, List.setIfInBounds_toArray, List.set_cons_zero, List.set_cons_succ, Nat.zero_add, Nat.reduceAdd]
      clear hG
      go_wp2
      exact ⟨rfl, rfl, Below.refl _ _, q3⟩
    exact Rg.steps_nil
  case kept => exact Rg.kept_cons (Rg.kept_is _) (Rg.kept_cons (Rg.kept_is _) (Rg.kept_cons (Rg.kept_is _) (Rg.kept_cons (Rg.kept_is _) (Rg.kept_cons (Rg.kept_is _) (Rg.kept_cons (Rg.kept_is _) (Rg.kept_nil))))))
  case fin =>
    intro x w3 hG hK
    have q4 : x 4 = .string EA := hK.2.2.2.2.1
    have q5 : x 5 = .string EB := hK.2.2.2.2.2.1
    have q0 : x 0 = .agg #[.int .i64 kind, .int .i64 q, .int .i64 n, .int .i64 pos, .int .i64 lack, .string topic, .string group, .string tag, .string key, .string body, .slice ka kn kc, .slice ta tn tc, .slice pa pn pc, .bool sync] := hK.1
    have q1 : x 1 = .string EA := hK.2.1
    have q2 : x 2 = .agg #[.int .i64 kind', .int .i64 q', .int .i64 n', .int .i64 pos', .int .i64 lack', .string topic', .string group', .string tag', .string key', .string body', .slice ka' kn' kc', .slice ta' tn' tc', .slice pa' pn' pc', .bool sync'] := hK.2.2.1
    have q3 : x 3 = .string EB := hK.2.2.2.1
    clear hK
    simp only [Rg.fillOps, Act.put, List.setIfInBounds_toArray, List.set_cons_zero, List.set_cons_succ, Nat.zero_add, Nat.reduceAdd]
    simp only [q0, q1, q2, q3, q4, q5]
    clear q0 q1 q2 q3 q4 q5
    have HB3 := Lib.hid hG
    clear hG
    by_cases hea : EA = ⟨#[]⟩
    · have da : EA.toList.isEmpty = true := by rw [is_empty, hea]; rfl
      clear hea
      go_upto_region 6 with fail
      refine Rg.region_rg' [Rg.Is (.string EA),
        Rg.Is (.bool true),
        Rg.Is (.bool true),
        Rg.Is (undef),
        Rg.Is (undef),
        Rg.Is (.bool true),
        Rg.Is (.bool true),
        Rg.Is (undef),
        Rg.Is (undef),
        Rg.Is (undef),
        Rg.Is (undef),
        Rg.Is (undef),
        Rg.Is (undef),
        Rg.Is (undef),
        Rg.Is (.bool true),
        Rg.Is (.bool true),
        Rg.Is (.pointer (some ⟨w.heap.size + 1 + 1, 0, none⟩)),
        Rg.Is (.string s),
        Rg.Is (.string ZS),
        Rg.Is (.pointer (some ⟨w.heap.size + 1 + 1, 1, none⟩)),
        Rg.Is (.string t),
        Rg.Is (.string ZT),
        Rg.Is (.bool D),
        Rg.Is (.pointer (some ⟨w.heap.size + 1 + 1, 0, none⟩)),
        Rg.Is (.string s),
        Rg.Is (.pointer (some ⟨w.heap.size + 1 + 1, 1, none⟩)),
        Rg.Is (.string t),
        Rg.Is (.bool D),
        Rg.Is (.bool true),
        Rg.Is (.bool true),
        Rg.Is (.bool true)]
        [[], [0], [1], [2], [3, 2], [2, 4], [5], [6], [6], [7, 8, 6], [6], [6], [10, 11, 6], [9, 12, 6], [6, 13], [14], [15], [16, 15], [17, 15], [15], [19, 15], [20, 15], [18, 21, 15], [15], [23, 15], [15], [25, 15], [24, 26, 15], [22, 27, 15], [15, 28], [29]] (by kernel_rfl) (by kernel_rfl) (by kernel_rfl) ?kept ?steps ?fin
      case steps =>
        refine Rg.steps_cons (fun x w1 hG hK => ?_) ?_
        · -- 0: t33 := Op.move (Operand.tmp 7)
          clear hK
          simp only [Rg.fillOps, Act.put, List.take_succ_cons, List.take_zero, List.setIfInBounds_toArray, List.set_cons_zero, List.set_cons_succ, Nat.zero_add, Nat.reduceAdd]
          clear hG
          go_wp2
          exact ⟨rfl, rfl, Below.refl _ _, rfl⟩
        refine Rg.steps_cons (fun x w1 hG hK => ?_) ?_
        · -- 1: t34 := Op.binOp BinOp.eql 9 (Operand.tmp 33) (Operand.const (Value.string { data := #[] })) 9
          have q0 : x 0 = .string EA := hK.1
          clear hK
          simp only [Rg.fillOps, Act.put, List.take_succ_cons, List.take_zero, List.setIfInBounds_toArray, List.set_cons_zero, List.set_cons_succ, Nat.zero_add, Nat.reduceAdd]
          clear hG
          go_wp2
          exact ⟨rfl, rfl, Below.refl _ _, rfl⟩
        refine Rg.steps_cons (fun x w1 hG hK => ?_) ?_
        · -- 2: t35 := Op.move (Operand.tmp 34)
          have q1 : x 1 = .bool true := hK.1
          clear hK
          simp only [Rg.fillOps, Act.put, List.take_succ_cons, List.take_zero, List.setIfInBounds_toArray, List.set_cons_zero, List.set_cons_succ, Nat.zero_add, Nat.reduceAdd]
          clear hG
          go_wp2
          exact ⟨rfl, rfl, Below.refl _ _, q1⟩
        refine Rg.steps_cons (fun x w1 hG hK => ?_) ?_
        · -- 3: t36 := Op.move (Operand.tmp 8)
          have q2 : x 2 = .bool true := hK.1
          clear hK
          simp only [Rg.fillOps, Act.put, List.take_succ_cons, List.take_zero, List.setIfInBounds_toArray, List.set_cons_zero, List.set_cons_succ, Nat.zero_add, Nat.reduceAdd]
          clear hG
          go_wp2
          exact ⟨rfl, rfl, Below.refl _ _, rfl⟩
        refine Rg.steps_cons (fun x w1 hG hK => ?_) ?_
        · -- 4: t37 := Op.binOp BinOp.eql 9 (Operand.tmp 36) (Operand.const (Value.string { data := #[] })) 9
          have q3 : x 3 = undef := hK.1
          have q2 : x 2 = .bool true := hK.2.1
          clear hK
          simp only [Rg.fillOps, Act.put, List.take_succ_cons, List.take_zero, List.setIfInBounds_toArray, List.set_cons_zero, List.set_cons_succ, Nat.zero_add, Nat.reduceAdd]
          clear hG
          go_wp2
          exact ⟨rfl, rfl, Below.refl _ _, rfl⟩
        refine Rg.steps_cons (fun x w1 hG hK => ?_) ?_
        · -- 5: t38 := Op.pick (Operand.tmp 35) (Operand.const (Value.bool true)) (Operand.tmp 37)
          have q2 : x 2 = .bool true := hK.1
          have q4 : x 4 = undef := hK.2.1
          clear hK
          simp only [Rg.fillOps, Act.put, List.take_succ_cons, List.take_zero, List.setIfInBounds_toArray, List.set_cons_zero, List.set_cons_succ, Nat.zero_add, Nat.reduceAdd]
          clear hG
          go_wp2
          exact ⟨rfl, rfl, Below.refl _ _, rfl⟩
        refine Rg.steps_cons (fun x w1 hG hK => ?_) ?_
        · -- 6: t39 := Op.move (Operand.tmp 38)
          have q5 : x 5 = .bool true := hK.1
          clear hK
          simp only [Rg.fillOps, Act.put, List.take_succ_cons, List.take_zero, List.setIfInBounds_toArray, List.set_cons_zero, List.set_cons_succ, Nat.zero_add, Nat.reduceAdd]
          clear hG
          go_wp2
          exact ⟨rfl, rfl, Below.refl _ _, q5⟩
        refine Rg.steps_cons (fun x w1 hG hK => ?_) ?_
        · -- 7: t40 := Op.move (Operand.tmp 7)
          have q6 : x 6 = .bool true := hK.1
          clear hK
          simp only [Rg.fillOps, Act.put, List.take_succ_cons, List.take_zero, List.setIfInBounds_toArray, List.set_cons_zero, List.set_cons_succ, Nat.zero_add, Nat.reduceAdd]
          clear hG
          go_wp2
          exact ⟨rfl, rfl, Below.refl _ _, rfl⟩
        refine Rg.steps_cons (fun x w1 hG hK => ?_) ?_
        · -- 8: t41 := Op.move (Operand.tmp 8)
          have q6 : x 6 = .bool true := hK.1
          clear hK
          simp only [Rg.fillOps, Act.put, List.take_succ_cons, List.take_zero, List.setIfInBounds_toArray, List.set_cons_zero, List.set_cons_succ, Nat.zero_add, Nat.reduceAdd]
          clear hG
          go_wp2
          exact ⟨rfl, rfl, Below.refl _ _, rfl⟩
        refine Rg.steps_cons (fun x w1 hG hK => ?_) ?_
        · -- 9: t42 := Op.binOp BinOp.eql 9 (Operand.tmp 40) (Operand.tmp 41) 9
          have q7 : x 7 = undef := hK.1
          have q8 : x 8 = undef := hK.2.1
          have q6 : x 6 = .bool true := hK.2.2.1
          clear hK
          simp only [Rg.fillOps, Act.put, List.take_succ_cons, List.take_zero, List.setIfInBounds_toArray, List.set_cons_zero, List.set_cons_succ, Nat.zero_add, Nat.reduceAdd]
          clear hG
          go_wp2
          exact ⟨rfl, rfl, Below.refl _ _, rfl⟩
        refine Rg.steps_cons (fun x w1 hG hK => ?_) ?_
        · -- 10: t43 := Op.load 25 (Operand.tmp 3)
          have q6 : x 6 = .bool true := hK.1
          clear hK
          simp only [Rg.fillOps, Act.put, List.take_succ_cons, List.take_zero, List.setIfInBounds_toArray, List.set_cons_zero, List.set_cons_succ, Nat.zero_add, Nat.reduceAdd]
          clear hG
          go_wp2
          exact ⟨rfl, rfl, Below.refl _ _, rfl⟩
        refine Rg.steps_cons (fun x w1 hG hK => ?_) ?_
        · -- 11: t44 := Op.load 25 (Operand.tmp 4)
          have q6 : x 6 = .bool true := hK.1
          clear hK
          simp only [Rg.fillOps, Act.put, List.take_succ_cons, List.take_zero, List.setIfInBounds_toArray, List.set_cons_zero, List.set_cons_succ, Nat.zero_add, Nat.reduceAdd]
          clear hG
          go_wp2
          exact ⟨rfl, rfl, Below.refl _ _, rfl⟩
        refine Rg.steps_cons (fun x w1 hG hK => ?_) ?_
        · -- 12: t45 := Op.call { callee := Callee.value (Operand.func 12), args := #[Operand.tmp 43, Operand.tmp 44], argTypes := #[25, 25] }
          have q10 : x 10 = undef := hK.1
          have q11 : x 11 = undef := hK.2.1
          have q6 : x 6 = .bool true := hK.2.2.1
          clear hK
          simp only [Rg.fillOps, Act.put, List.take_succ_cons, List.take_zero, List.setIfInBounds_toArray, List.set_cons_zero, List.set_cons_succ, Nat.zero_add, Nat.reduceAdd]
          clear hG
          go_wp2
          exact ⟨rfl, rfl, Below.refl _ _, rfl⟩
        refine Rg.steps_cons (fun x w1 hG hK => ?_) ?_
        · -- 13: t46 := Op.binOp BinOp.eql 4 (Operand.tmp 42) (Operand.tmp 45) 4
          have q9 : x 9 = undef := hK.1
          have q12 : x 12 = undef := hK.2.1
          have q6 : x 6 = .bool true := hK.2.2.1
          clear hK
          simp only [Rg.fillOps, Act.put, List.take_succ_cons, List.take_zero, List.setIfInBounds_toArray, List.set_cons_zero, List.set_cons_succ, Nat.zero_add, Nat.reduceAdd]
          clear hG
          go_wp2
          exact ⟨rfl, rfl, Below.refl _ _, rfl⟩
        refine Rg.steps_cons (fun x w1 hG hK => ?_) ?_
        · -- 14: t47 := Op.pick (Operand.tmp 39) (Operand.const (Value.bool true)) (Operand.tmp 46)
          have q6 : x 6 = .bool true := hK.1
          have q13 : x 13 = undef := hK.2.1
          clear hK
          simp only [Rg.fillOps, Act.put, List.take_succ_cons, List.take_zero, List.setIfInBounds_toArray, List.set_cons_zero, List.set_cons_succ, Nat.zero_add, Nat.reduceAdd]
          clear hG
          go_wp2
          exact ⟨rfl, rfl, Below.refl _ _, rfl⟩
        refine Rg.steps_cons (fun x w1 hG hK => ?_) ?_
        · -- 15: t48 := Op.move (Operand.tmp 47)
          have q14 : x 14 = .bool true := hK.1
          clear hK
          simp only [Rg.fillOps, Act.put, List.take_succ_cons, List.take_zero, List.setIfInBounds_toArray, List.set_cons_zero, List.set_cons_succ, Nat.zero_add, Nat.reduceAdd]
          clear hG
          go_wp2
          exact ⟨rfl, rfl, Below.refl _ _, q14⟩
        refine Rg.steps_cons (fun x w1 hG hK => ?_) ?_
        · -- 16: t49 := Op.indexAddr 39 (Operand.tmp 5) (Operand.const (Value.int IntKind.i64 0))
          have q15 : x 15 = .bool true := hK.1
          clear hK
          simp only [Rg.fillOps, Act.put, List.take_succ_cons, List.take_zero, List.setIfInBounds_toArray, List.set_cons_zero, List.set_cons_succ, Nat.zero_add, Nat.reduceAdd]
          clear hG
          go_wp2
          exact ⟨rfl, rfl, Below.refl _ _, rfl⟩
        refine Rg.steps_cons (fun x w1 hG hK => ?_) ?_
        · -- 17: t50 := Op.load 9 (Operand.tmp 49)
          have q16 : x 16 = .pointer (some ⟨w.heap.size + 1 + 1, 0, none⟩) := hK.1
          have q15 : x 15 = .bool true := hK.2.1
          clear hK
          simp only [Rg.fillOps, Act.put, List.take_succ_cons, List.take_zero, List.setIfInBounds_toArray, List.set_cons_zero, List.set_cons_succ, Nat.zero_add, Nat.reduceAdd]
          have hc := ((HB3.out.trans (hG.mono HB3.out.size)).cell (p := ⟨w.heap.size + 1 + 1, 0, none⟩) (cell_lt HS0.out)).trans HS0.out
          go_wp2_with fail
          exact ⟨rfl, rfl, Below.refl _ _, rfl⟩
        refine Rg.steps_cons (fun x w1 hG hK => ?_) ?_
        · -- 18: t51 := Op.call { callee := Callee.value (Operand.func 13), args := #[Operand.tmp 50], argTypes := #[9] }
          have q17 : x 17 = .string s := hK.1
          have q15 : x 15 = .bool true := hK.2.1
          clear hK
          simp only [Rg.fillOps, Act.put, List.take_succ_cons, List.take_zero, List.setIfInBounds_toArray, List.set_cons_zero, List.set_cons_succ, Nat.zero_add, Nat.reduceAdd]
          go_wp2_with fail
          refine (HX1.out _).mono ?_
          rintro e w9 ⟨rfl, hb⟩
          go_wp2_with fail
          exact ⟨rfl, rfl, hb, rfl⟩
        refine Rg.steps_cons (fun x w1 hG hK => ?_) ?_
        · -- 19: t52 := Op.indexAddr 39 (Operand.tmp 5) (Operand.const (Value.int IntKind.i64 1))
          have q15 : x 15 = .bool true := hK.1
          clear hK
          simp only [Rg.fillOps, Act.put, List.take_succ_cons, List.take_zero, List.setIfInBounds_toArray, List.set_cons_zero, List.set_cons_succ, Nat.zero_add, Nat.reduceAdd]
          clear hG
          go_wp2
          exact ⟨rfl, rfl, Below.refl _ _, rfl⟩
        refine Rg.steps_cons (fun x w1 hG hK => ?_) ?_
        · -- 20: t53 := Op.load 9 (Operand.tmp 52)
          have q19 : x 19 = .pointer (some ⟨w.heap.size + 1 + 1, 1, none⟩) := hK.1
          have q15 : x 15 = .bool true := hK.2.1
          clear hK
          simp only [Rg.fillOps, Act.put, List.take_succ_cons, List.take_zero, List.setIfInBounds_toArray, List.set_cons_zero, List.set_cons_succ, Nat.zero_add, Nat.reduceAdd]
          have hc := ((HB3.out.trans (hG.mono HB3.out.size)).cell (p := ⟨w.heap.size + 1 + 1, 1, none⟩) (cell_lt HS1.out)).trans HS1.out
          go_wp2_with fail
          exact ⟨rfl, rfl, Below.refl _ _, rfl⟩
        refine Rg.steps_cons (fun x w1 hG hK => ?_) ?_
        · -- 21: t54 := Op.call { callee := Callee.value (Operand.func 13), args := #[Operand.tmp 53], argTypes := #[9] }
          have q20 : x 20 = .string t := hK.1
          have q15 : x 15 = .bool true := hK.2.1
          clear hK
          simp only [Rg.fillOps, Act.put, List.take_succ_cons, List.take_zero, List.setIfInBounds_toArray, List.set_cons_zero, List.set_cons_succ, Nat.zero_add, Nat.reduceAdd]
          go_wp2_with fail
          refine (HX2.out _).mono ?_
          rintro e w9 ⟨rfl, hb⟩
          go_wp2_with fail
          exact ⟨rfl, rfl, hb, rfl⟩
        refine Rg.steps_cons (fun x w1 hG hK => ?_) ?_
        · -- 22: t55 := Op.binOp BinOp.eql 9 (Operand.tmp 51) (Operand.tmp 54) 9
          have q18 : x 18 = .string ZS := hK.1
          have q21 : x 21 = .string ZT := hK.2.1
          have q15 : x 15 = .bool true := hK.2.2.1
          clear hK
          simp only [Rg.fillOps, Act.put, List.take_succ_cons, List.take_zero, List.setIfInBounds_toArray, List.set_cons_zero, List.set_cons_succ, Nat.zero_add, Nat.reduceAdd]
          go_wp2_with fail
          exact ⟨rfl, rfl, Below.refl _ _, by first | rfl | exact congrArg Value.bool dst2⟩
        refine Rg.steps_cons (fun x w1 hG hK => ?_) ?_
        · -- 23: t56 := Op.indexAddr 39 (Operand.tmp 5) (Operand.const (Value.int IntKind.i64 0))
          have q15 : x 15 = .bool true := hK.1
          clear hK
          simp only [Rg.fillOps, Act.put, List.take_succ_cons, List.take_zero, List.setIfInBounds_toArray, List.set_cons_zero, List.set_cons_succ, Nat.zero_add, Nat.reduceAdd]
          clear hG
          go_wp2
          exact ⟨rfl, rfl, Below.refl _ _, rfl⟩
        refine Rg.steps_cons (fun x w1 hG hK => ?_) ?_
        · -- 24: t57 := Op.load 9 (Operand.tmp 56)
          have q23 : x 23 = .pointer (some ⟨w.heap.size + 1 + 1, 0, none⟩) := hK.1
          have q15 : x 15 = .bool true := hK.2.1
          clear hK
          simp only [Rg.fillOps, Act.put, List.take_succ_cons, List.take_zero, List.setIfInBounds_toArray, List.set_cons_zero, List.set_cons_succ, Nat.zero_add, Nat.reduceAdd]
          have hc := ((HB3.out.trans (hG.mono HB3.out.size)).cell (p := ⟨w.heap.size + 1 + 1, 0, none⟩) (cell_lt HS0.out)).trans HS0.out
          go_wp2_with fail
          exact ⟨rfl, rfl, Below.refl _ _, rfl⟩
        refine Rg.steps_cons (fun x w1 hG hK => ?_) ?_
        · -- 25: t58 := Op.indexAddr 39 (Operand.tmp 5) (Operand.const (Value.int IntKind.i64 1))
          have q15 : x 15 = .bool true := hK.1
          clear hK
          simp only [Rg.fillOps, Act.put, List.take_succ_cons, List.take_zero, List.setIfInBounds_toArray, List.set_cons_zero, List.set_cons_succ, Nat.zero_add, Nat.reduceAdd]
          clear hG
          go_wp2
          exact ⟨rfl, rfl, Below.refl _ _, rfl⟩
        refine Rg.steps_cons (fun x w1 hG hK => ?_) ?_
        · -- 26: t59 := Op.load 9 (Operand.tmp 58)
          have q25 : x 25 = .pointer (some ⟨w.heap.size + 1 + 1, 1, none⟩) := hK.1
          have q15 : x 15 = .bool true := hK.2.1
          clear hK
          simp only [Rg.fillOps, Act.put, List.take_succ_cons, List.take_zero, List.setIfInBounds_toArray, List.set_cons_zero, List.set_cons_succ, Nat.zero_add, Nat.reduceAdd]
          have hc := ((HB3.out.trans (hG.mono HB3.out.size)).cell (p := ⟨w.heap.size + 1 + 1, 1, none⟩) (cell_lt HS1.out)).trans HS1.out
          go_wp2_with fail
          exact ⟨rfl, rfl, Below.refl _ _, rfl⟩
        refine Rg.steps_cons (fun x w1 hG hK => ?_) ?_
        · -- 27: t60 := Op.binOp BinOp.eql 9 (Operand.tmp 57) (Operand.tmp 59) 9
          have q24 : x 24 = .string s := hK.1
          have q26 : x 26 = .string t := hK.2.1
          have q15 : x 15 = .bool true := hK.2.2.1
          clear hK
          simp only [Rg.fillOps, Act.put, List.take_succ_cons, List.take_zero, List.setIfInBounds_toArray, List.set_cons_zero, List.set_cons_succ, Nat.zero_add, Nat.reduceAdd]
          go_wp2_with fail
          exact ⟨rfl, rfl, Below.refl _ _, by first | rfl | exact congrArg Value.bool dst1⟩
        refine Rg.steps_cons (fun x w1 hG hK => ?_) ?_
        · -- 28: t61 := Op.binOp BinOp.eql 4 (Operand.tmp 55) (Operand.tmp 60) 4
          have q22 : x 22 = .bool D := hK.1
          have q27 : x 27 = .bool D := hK.2.1
          have q15 : x 15 = .bool true := hK.2.2.1
          clear hK
          simp only [Rg.fillOps, Act.put, List.take_succ_cons, List.take_zero, List.setIfInBounds_toArray, List.set_cons_zero, List.set_cons_succ, Nat.zero_add, Nat.reduceAdd]
          go_wp2_with fail
          exact ⟨rfl, rfl, Below.refl _ _, by first | rfl | exact congrArg Value.bool (by cases D <;> rfl)⟩
        refine Rg.steps_cons (fun x w1 hG hK => ?_) ?_
        · -- 29: t62 := Op.pick (Operand.tmp 48) (Operand.tmp 61) (Operand.const (Value.bool false))
          have q15 : x 15 = .bool true := hK.1
          have q28 : x 28 = .bool true := hK.2.1
          clear hK
          simp only [Rg.fillOps, Act.put, List.take_succ_cons, List.take_zero, List.setIfInBounds_toArray, List.set_cons_zero, List.set_cons_succ, Nat.zero_add, Nat.reduceAdd]
          clear hG
          go_wp2
          exact ⟨rfl, rfl, Below.refl _ _, rfl⟩
        refine Rg.steps_cons (fun x w1 hG hK => ?_) ?_
        · -- 30: t6 := Op.assign (Operand.tmp 62)
          have q29 : x 29 = .bool true := hK.1
          clear hK
          simp only [Rg.fillOps, Act.put, List.take_succ_cons, List.take_zero, List.setIfInBounds_toArray, List.set_cons_zero, List.set_cons_succ, Nat.zero_add, Nat.reduceAdd]
          clear hG
          go_wp2
          exact ⟨rfl, rfl, Below.refl _ _, q29⟩
        exact Rg.steps_nil
      case kept => exact Rg.kept_cons (Rg.kept_is _) (Rg.kept_cons (Rg.kept_is _) (Rg.kept_cons (Rg.kept_is _) (Rg.kept_cons (Rg.kept_is _) (Rg.kept_cons (Rg.kept_is _) (Rg.kept_cons (Rg.kept_is _) (Rg.kept_cons (Rg.kept_is _) (Rg.kept_cons (Rg.kept_is _) (Rg.kept_cons (Rg.kept_is _) (Rg.kept_cons (Rg.kept_is _) (Rg.kept_cons (Rg.kept_is _) (Rg.kept_cons (Rg.kept_is _) (Rg.kept_cons (Rg.kept_is _) (Rg.kept_cons (Rg.kept_is _) (Rg.kept_cons (Rg.kept_is _) (Rg.kept_cons (Rg.kept_is _) (Rg.kept_cons (Rg.kept_is _) (Rg.kept_cons (Rg.kept_is _) (Rg.kept_cons (Rg.kept_is _) (Rg.kept_cons (Rg.kept_is _) (Rg.kept_cons (Rg.kept_is _) (Rg.kept_cons (Rg.kept_is _) (Rg.kept_cons (Rg.kept_is _) (Rg.kept_cons (Rg.kept_is _) (Rg.kept_cons (Rg.kept_is _) (Rg.kept_cons (Rg.kept_is _) (Rg.kept_cons (Rg.kept_is _) (Rg.kept_cons (Rg.kept_is _) (Rg.kept_cons (Rg.kept_is _) (Rg.kept_cons (Rg.kept_is _) (Rg.kept_cons (Rg.kept_is _) (Rg.kept_nil)))))))))))))))))))))))))))))))
      case fin =>
        intro x w4 hG hK
        have q30 : x 30 = .bool true := hK.2.2.2.2.2.2.2.2.2.2.2.2.2.2.2.2.2.2.2.2.2.2.2.2.2.2.2.2.2.2.1
        clear hK
        simp only [Rg.fillOps, Act.put, List.setIfInBounds_toArray, List.set_cons_zero, List.set_cons_succ, Nat.zero_add, Nat.reduceAdd]
        simp only [q30]
        have HG4 := Lib.hid (HB2.out.trans ((HB3.out.trans (hG.mono HB3.out.size)).mono HB2.out.size))
        clear hG
        go_wp2_with fail
        go_ret
        exact ⟨rfl, HG4.out⟩
    · have da : EA.toList.isEmpty = false := by rw [is_empty]; exact decide_eq_false fun h => hea (size_zero h)
      by_cases heb : EB = ⟨#[]⟩
      · have db : EB.toList.isEmpty = true := by rw [is_empty, heb]; rfl
        clear heb
        go_upto_region 6 with fail
        refine Rg.region_rg' [Rg.Is (.string EA),
          Rg.Is (.bool false),
          Rg.Is (.bool false),
          Rg.Is (.string EB),
          Rg.Is (.bool true),
          Rg.Is (.bool true),
          Rg.Is (.bool true),
          Rg.Is (undef),
          Rg.Is (undef),
          Rg.Is (undef),
          Rg.Is (undef),
          Rg.Is (undef),
          Rg.Is (undef),
          Rg.Is (undef),
          Rg.Is (.bool true),
          Rg.Is (.bool true),
          Rg.Is (.pointer (some ⟨w.heap.size + 1 + 1, 0, none⟩)),
          Rg.Is (.string s),
          Rg.Is (.string ZS),
          Rg.Is (.pointer (some ⟨w.heap.size + 1 + 1, 1, none⟩)),
          Rg.Is (.string t),
          Rg.Is (.string ZT),
          Rg.Is (.bool D),
          Rg.Is (.pointer (some ⟨w.heap.size + 1 + 1, 0, none⟩)),
          Rg.Is (.string s),
          Rg.Is (.pointer (some ⟨w.heap.size + 1 + 1, 1, none⟩)),
          Rg.Is (.string t),
          Rg.Is (.bool D),
          Rg.Is (.bool true),
          Rg.Is (.bool true),
          Rg.Is (.bool true)]
          [[], [0], [1], [2], [3, 2], [2, 4], [5], [6], [6], [7, 8, 6], [6], [6], [10, 11, 6], [9, 12, 6], [6, 13], [14], [15], [16, 15], [17, 15], [15], [19, 15], [20, 15], [18, 21, 15], [15], [23, 15], [15], [25, 15], [24, 26, 15], [22, 27, 15], [15, 28], [29]] (by kernel_rfl) (by kernel_rfl) (by kernel_rfl) ?kept ?steps ?fin
        case steps =>
          refine Rg.steps_cons (fun x w1 hG hK => ?_) ?_
          · -- 0: t33 := Op.move (Operand.tmp 7)
            clear hK
            simp only [Rg.fillOps, Act.put, List.take_succ_cons, List.take_zero, List.setIfInBounds_toArray, List.set_cons_zero, List.set_cons_succ, Nat.zero_add, Nat.reduceAdd]
            clear hG
            go_wp2
            exact ⟨rfl, rfl, Below.refl _ _, rfl⟩
          refine Rg.steps_cons (fun x w1 hG hK => ?_) ?_
          · -- 1: t34 := Op.binOp BinOp.eql 9 (Operand.tmp 33) (Operand.const (Value.string { data := #[] })) 9
            have q0 : x 0 = .string EA := hK.1
            clear hK
            simp only [Rg.fillOps, Act.put, List.take_succ_cons, List.take_zero, List.setIfInBounds_toArray, List.set_cons_zero, List.set_cons_succ, Nat.zero_add, Nat.reduceAdd]
            clear hG
            go_wp2
            exact ⟨rfl, rfl, Below.refl _ _, rfl⟩
          refine Rg.steps_cons (fun x w1 hG hK => ?_) ?_
          · -- 2: t35 := Op.move (Operand.tmp 34)
            have q1 : x 1 = .bool false := hK.1
            clear hK
            simp only [Rg.fillOps, Act.put, List.take_succ_cons, List.take_zero, List.setIfInBounds_toArray, List.set_cons_zero, List.set_cons_succ, Nat.zero_add, Nat.reduceAdd]
            clear hG
            go_wp2
            exact ⟨rfl, rfl, Below.refl _ _, q1⟩
          refine Rg.steps_cons (fun x w1 hG hK => ?_) ?_
          · -- 3: t36 := Op.move (Operand.tmp 8)
            have q2 : x 2 = .bool false := hK.1
            clear hK
            simp only [Rg.fillOps, Act.put, List.take_succ_cons, List.take_zero, List.setIfInBounds_toArray, List.set_cons_zero, List.set_cons_succ, Nat.zero_add, Nat.reduceAdd]
            clear hG
            go_wp2
            exact ⟨rfl, rfl, Below.refl _ _, rfl⟩
          refine Rg.steps_cons (fun x w1 hG hK => ?_) ?_
          · -- 4: t37 := Op.binOp BinOp.eql 9 (Operand.tmp 36) (Operand.const (Value.string { data := #[] })) 9
            have q3 : x 3 = .string EB := hK.1
            have q2 : x 2 = .bool false := hK.2.1
            clear hK
            simp only [Rg.fillOps, Act.put, List.take_succ_cons, List.take_zero, List.setIfInBounds_toArray, List.set_cons_zero, List.set_cons_succ, Nat.zero_add, Nat.reduceAdd]
            clear hG
            go_wp2
            exact ⟨rfl, rfl, Below.refl _ _, rfl⟩
          refine Rg.steps_cons (fun x w1 hG hK => ?_) ?_
          · -- 5: t38 := Op.pick (Operand.tmp 35) (Operand.const (Value.bool true)) (Operand.tmp 37)
            have q2 : x 2 = .bool false := hK.1
            have q4 : x 4 = .bool true := hK.2.1
            clear hK
            simp only [Rg.fillOps, Act.put, List.take_succ_cons, List.take_zero, List.setIfInBounds_toArray, List.set_cons_zero, List.set_cons_succ, Nat.zero_add, Nat.reduceAdd]
            clear hG
            go_wp2
            exact ⟨rfl, rfl, Below.refl _ _, rfl⟩
          refine Rg.steps_cons (fun x w1 hG hK => ?_) ?_
          · -- 6: t39 := Op.move (Operand.tmp 38)
            have q5 : x 5 = .bool true := hK.1
            clear hK
            simp only [Rg.fillOps, Act.put, List.take_succ_cons, List.take_zero, List.setIfInBounds_toArray, List.set_cons_zero, List.set_cons_succ, Nat.zero_add, Nat.reduceAdd]
            clear hG
            go_wp2
            exact ⟨rfl, rfl, Below.refl _ _, q5⟩
          refine Rg.steps_cons (fun x w1 hG hK => ?_) ?_
          · -- 7: t40 := Op.move (Operand.tmp 7)
            have q6 : x 6 = .bool true := hK.1
            clear hK
            simp only [Rg.fillOps, Act.put, List.take_succ_cons, List.take_zero, List.setIfInBounds_toArray, List.set_cons_zero, List.set_cons_succ, Nat.zero_add, Nat.reduceAdd]
            clear hG
            go_wp2
            exact ⟨rfl, rfl, Below.refl _ _, rfl⟩
          refine Rg.steps_cons (fun x w1 hG hK => ?_) ?_
          · -- 8: t41 := Op.move (Operand.tmp 8)
            have q6 : x 6 = .bool true := hK.1
            clear hK
            simp only [Rg.fillOps, Act.put, List.take_succ_cons, List.take_zero, List.setIfInBounds_toArray, List.set_cons_zero, List.set_cons_succ, Nat.zero_add, Nat.reduceAdd]
            clear hG
            go_wp2
            exact ⟨rfl, rfl, Below.refl _ _, rfl⟩
          refine Rg.steps_cons (fun x w1 hG hK => ?_) ?_
          · -- 9: t42 := Op.binOp BinOp.eql 9 (Operand.tmp 40) (Operand.tmp 41) 9
            have q7 : x 7 = undef := hK.1
            have q8 : x 8 = undef := hK.2.1
            have q6 : x 6 = .bool true := hK.2.2.1
            clear hK
            simp only [Rg.fillOps, Act.put, List.take_succ_cons, List.take_zero, List.setIfInBounds_toArray, List.set_cons_zero, List.set_cons_succ, Nat.zero_add, Nat.reduceAdd]
            clear hG
            go_wp2
            exact ⟨rfl, rfl, Below.refl _ _, rfl⟩
          refine Rg.steps_cons (fun x w1 hG hK => ?_) ?_
          · -- 10: t43 := Op.load 25 (Operand.tmp 3)
            have q6 : x 6 = .bool true := hK.1
            clear hK
            simp only [Rg.fillOps, Act.put, List.take_succ_cons, List.take_zero, List.setIfInBounds_toArray, List.set_cons_zero, List.set_cons_succ, Nat.zero_add, Nat.reduceAdd]
            clear hG
            go_wp2
            exact ⟨rfl, rfl, Below.refl _ _, rfl⟩
          refine Rg.steps_cons (fun x w1 hG hK => ?_) ?_
          · -- 11: t44 := Op.load 25 (Operand.tmp 4)
            have q6 : x 6 = .bool true := hK.1
            clear hK
            simp only [Rg.fillOps, Act.put, List.take_succ_cons, List.take_zero, List.setIfInBounds_toArray, List.set_cons_zero, List.set_cons_succ, Nat.zero_add, Nat.reduceAdd]
            clear hG
            go_wp2
            exact ⟨rfl, rfl, Below.refl _ _, rfl⟩
          refine Rg.steps_cons (fun x w1 hG hK => ?_) ?_
          · -- 12: t45 := Op.call { callee := Callee.value (Operand.func 12), args := #[Operand.tmp 43, Operand.tmp 44], argTypes := #[25, 25] }
            have q10 : x 10 = undef := hK.1
            have q11 : x 11 = undef := hK.2.1
            have q6 : x 6 = .bool true := hK.2.2.1
            clear hK
            simp only [Rg.fillOps, Act.put, List.take_succ_cons, List.take_zero, List.setIfInBounds_toArray, List.set_cons_zero, List.set_cons_succ, Nat.zero_add, Nat.reduceAdd]
            clear hG
            go_wp2
            exact ⟨rfl, rfl, Below.refl _ _, rfl⟩
          refine Rg.steps_cons (fun x w1 hG hK => ?_) ?_
          · -- 13: t46 := Op.binOp BinOp.eql 4 (Operand.tmp 42) (Operand.tmp 45) 4
            have q9 : x 9 = undef := hK.1
            have q12 : x 12 = undef := hK.2.1
            have q6 : x 6 = .bool true := hK.2.2.1
            clear hK
            simp only [Rg.fillOps, Act.put, List.take_succ_cons, List.take_zero, List.setIfInBounds_toArray, List.set_cons_zero, List.set_cons_succ, Nat.zero_add, Nat.reduceAdd]
            clear hG
            go_wp2
            exact ⟨rfl, rfl, Below.refl _ _, rfl⟩
          refine Rg.steps_cons (fun x w1 hG hK => ?_) ?_
          · -- 14: t47 := Op.pick (Operand.tmp 39) (Operand.const (Value.bool true)) (Operand.tmp 46)
            have q6 : x 6 = .bool true := hK.1
            have q13 : x 13 = undef := hK.2.1
            clear hK
            simp only [Rg.fillOps, Act.put, List.take_succ_cons, List.take_zero, List.setIfInBounds_toArray, List.set_cons_zero, List.set_cons_succ, Nat.zero_add, Nat.reduceAdd]
            clear hG
            go_wp2
            exact ⟨rfl, rfl, Below.refl _ _, rfl⟩
          refine Rg.steps_cons (fun x w1 hG hK => ?_) ?_
          · -- 15: t48 := Op.move (Operand.tmp 47)
            have q14 : x 14 = .bool true := hK.1
            clear hK
            simp only [Rg.fillOps, Act.put, List.take_succ_cons, List.take_zero, List.setIfInBounds_toArray, List.set_cons_zero, List.set_cons_succ, Nat.zero_add, Nat.reduceAdd]
            clear hG
            go_wp2
            exact ⟨rfl, rfl, Below.refl _ _, q14⟩
          refine Rg.steps_cons (fun x w1 hG hK => ?_) ?_
          · -- 16: t49 := Op.indexAddr 39 (Operand.tmp 5) (Operand.const (Value.int IntKind.i64 0))
            have q15 : x 15 = .bool true := hK.1
            clear hK
            simp only [Rg.fillOps, Act.put, List.take_succ_cons, List.take_zero, List.setIfInBounds_toArray, List.set_cons_zero, List.set_cons_succ, Nat.zero_add, Nat.reduceAdd]
            clear hG
            go_wp2
            exact ⟨rfl, rfl, Below.refl _ _, rfl⟩
          refine Rg.steps_cons (fun x w1 hG hK => ?_) ?_
          · -- 17: t50 := Op.load 9 (Operand.tmp 49)
            have q16 : x 16 = .pointer (some ⟨w.heap.size + 1 + 1, 0, none⟩) := hK.1
            have q15 : x 15 = .bool true := hK.2.1
            clear hK
            simp only [Rg.fillOps, Act.put, List.take_succ_cons, List.take_zero, List.setIfInBounds_toArray, List.set_cons_zero, List.set_cons_succ, Nat.zero_add, Nat.reduceAdd]
            have hc := ((HB3.out.trans (hG.mono HB3.out.size)).cell (p := ⟨w.heap.size + 1 + 1, 0, none⟩) (cell_lt HS0.out)).trans HS0.out
            go_wp2_with fail
            exact ⟨rfl, rfl, Below.refl _ _, rfl⟩
          refine Rg.steps_cons (fun x w1 hG hK => ?_) ?_
          · -- 18: t51 := Op.call { callee := Callee.value (Operand.func 13), args := #[Operand.tmp 50], argTypes := #[9] }
            have q17 : x 17 = .string s := hK.1
            have q15 : x 15 = .bool true := hK.2.1
            clear hK
            simp only [Rg.fillOps, Act.put, List.take_succ_cons, List.take_zero, List.setIfInBounds_toArray, List.set_cons_zero, List.set_cons_succ, Nat.zero_add, Nat.reduceAdd]
            go_wp2_with fail
            refine (HX1.out _).mono ?_
            rintro e w9 ⟨rfl, hb⟩
            go_wp2_with fail
            exact ⟨rfl, rfl, hb, rfl⟩
          refine Rg.steps_cons (fun x w1 hG hK => ?_) ?_
          · -- 19: t52 := Op.indexAddr 39 (Operand.tmp 5) (Operand.const (Value.int IntKind.i64 1))
            have q15 : x 15 = .bool true := hK.1
            clear hK
            simp only [Rg.fillOps, Act.put, List.take_succ_cons, List.take_zero, List.setIfInBounds_toArray, List.set_cons_zero, List.set_cons_succ, Nat.zero_add, Nat.reduceAdd]
            clear hG
            go_wp2
            exact ⟨rfl, rfl, Below.refl _ _, rfl⟩
          refine Rg.steps_cons (fun x w1 hG hK => ?_) ?_
          · -- 20: t53 := Op.load 9 (Operand.tmp 52)
            have q19 : x 19 = .pointer (some ⟨w.heap.size + 1 + 1, 1, none⟩) := hK.1
            have q15 : x 15 = .bool true := hK.2.1
            clear hK
            simp only [Rg.fillOps, Act.put, List.take_succ_cons, List.take_zero, List.setIfInBounds_toArray, List.set_cons_zero, List.set_cons_succ, Nat.zero_add, Nat.reduceAdd]
            have hc := ((HB3.out.trans (hG.mono HB3.out.size)).cell (p := ⟨w.heap.size + 1 + 1, 1, none⟩) (cell_lt HS1.out)).trans HS1.out
            go_wp2_with fail
            exact ⟨rfl, rfl, Below.refl _ _, rfl⟩
          refine Rg.steps_cons (fun x w1 hG hK => ?_) ?_
          · -- 21: t54 := Op.call { callee := Callee.value (Operand.func 13), args := #[Operand.tmp 53], argTypes := #[9] }
            have q20 : x 20 = .string t := hK.1
            have q15 : x 15 = .bool true := hK.2.1
            clear hK
            simp only [Rg.fillOps, Act.put, List.take_succ_cons, List.take_zero, List.setIfInBounds_toArray, List.set_cons_zero, List.set_cons_succ, Nat.zero_add, Nat.reduceAdd]
            go_wp2_with fail
            refine (HX2.out _).mono ?_
            rintro e w9 ⟨rfl, hb⟩
            go_wp2_with fail
            exact ⟨rfl, rfl, hb, rfl⟩
          refine Rg.steps_cons (fun x w1 hG hK => ?_) ?_
          · -- 22: t55 := Op.binOp BinOp.eql 9 (Operand.tmp 51) (Operand.tmp 54) 9
            have q18 : x 18 = .string ZS := hK.1
            have q21 : x 21 = .string ZT := hK.2.1
            have q15 : x 15 = .bool true := hK.2.2.1
            clear hK
            simp only [Rg.fillOps, Act.put, List.take_succ_cons, List.take_zero, List.setIfInBounds_toArray, List.set_cons_zero, List.set_cons_succ, Nat.zero_add, Nat.reduceAdd]
            go_wp2_with fail
            exact ⟨rfl, rfl, Below.refl _ _, by first | rfl | exact congrArg Value.bool dst2⟩
          refine Rg.steps_cons (fun x w1 hG hK => ?_) ?_
          · -- 23: t56 := Op.indexAddr 39 (Operand.tmp 5) (Operand.const (Value.int IntKind.i64 0))
            have q15 : x 15 = .bool true := hK.1
            clear hK
            simp only [Rg.fillOps, Act.put, List.take_succ_cons, List.take_zero, List.setIfInBounds_toArray, List.set_cons_zero, List.set_cons_succ, Nat.zero_add, Nat.reduceAdd]
            clear hG
            go_wp2
            exact ⟨rfl, rfl, Below.refl _ _, rfl⟩
          refine Rg.steps_cons (fun x w1 hG hK => ?_) ?_
          · -- 24: t57 := Op.load 9 (Operand.tmp 56)
            have q23 : x 23 = .pointer (some ⟨w.heap.size + 1 + 1, 0, none⟩) := hK.1
            have q15 : x 15 = .bool true := hK.2.1
            clear hK
            simp only [Rg.fillOps, Act.put, List.take_succ_cons, List.take_zero, List.setIfInBounds_toArray, List.set_cons_zero, List.set_cons_succ, Nat.zero_add, Nat.reduceAdd]
            have hc := ((HB3.out.trans (hG.mono HB3.out.size)).cell (p := ⟨w.heap.size + 1 + 1, 0, none⟩) (cell_lt HS0.out)).trans HS0.out
            go_wp2_with fail
            exact ⟨rfl, rfl, Below.refl _ _, rfl⟩
          refine Rg.steps_cons (fun x w1 hG hK => ?_) ?_
          · -- 25: t58 := Op.indexAddr 39 (Operand.tmp 5) (Operand.const (Value.int IntKind.i64 1))
            have q15 : x 15 = .bool true := hK.1
            clear hK
            simp only [Rg.fillOps, Act.put, List.take_succ_cons, List.take_zero, List.setIfInBounds_toArray, List.set_cons_zero, List.set_cons_succ, Nat.zero_add, Nat.reduceAdd]
            clear hG
            go_wp2
            exact ⟨rfl, rfl, Below.refl _ _, rfl⟩
          refine Rg.steps_cons (fun x w1 hG hK => ?_) ?_
          · -- 26: t59 := Op.load 9 (Operand.tmp 58)
            have q25 : x 25 = .pointer (some ⟨w.heap.size + 1 + 1, 1, none⟩) := hK.1
            have q15 : x 15 = .bool true := hK.2.1
            clear hK
            simp only [Rg.fillOps, Act.put, List.take_succ_cons, List.take_zero, List.setIfInBounds_toArray, List.set_cons_zero, List.set_cons_succ, Nat.zero_add, Nat.reduceAdd]
            have hc := ((HB3.out.trans (hG.mono HB3.out.size)).cell (p := ⟨w.heap.size + 1 + 1, 1, none⟩) (cell_lt HS1.out)).trans HS1.out
            go_wp2_with fail
            exact ⟨rfl, rfl, Below.refl _ _, rfl⟩
          refine Rg.steps_cons (fun x w1 hG hK => ?_) ?_
          · -- 27: t60 := Op.binOp BinOp.eql 9 (Operand.tmp 57) (Operand.tmp 59) 9
            have q24 : x 24 = .string s := hK.1
            have q26 : x 26 = .string t := hK.2.1
            have q15 : x 15 = .bool true := hK.2.2.1
            clear hK
            simp only [Rg.fillOps, Act.put, List.take_succ_cons, List.take_zero, List.setIfInBounds_toArray, List.set_cons_zero, List.set_cons_succ, Nat.zero_add, Nat.reduceAdd]
            go_wp2_with fail
            exact ⟨rfl, rfl, Below.refl _ _, by first | rfl | exact congrArg Value.bool dst1⟩
          refine Rg.steps_cons (fun x w1 hG hK => ?_) ?_
          · -- 28: t61 := Op.binOp BinOp.eql 4 (Operand.tmp 55) (Operand.tmp 60) 4
            have q22 : x 22 = .bool D := hK.1
            have q27 : x 27 = .bool D := hK.2.1
            have q15 : x 15 = .bool true := hK.2.2.1
            clear hK
            simp only [Rg.fillOps, Act.put, List.take_succ_cons, List.take_zero, List.setIfInBounds_toArray, List.set_cons_zero, List.set_cons_succ, Nat.zero_add, Nat.reduceAdd]
            go_wp2_with fail
            exact ⟨rfl, rfl, Below.refl _ _, by first | rfl | exact congrArg Value.bool (by cases D <;> rfl)⟩
          refine Rg.steps_cons (fun x w1 hG hK => ?_) ?_
          · -- 29: t62 := Op.pick (Operand.tmp 48) (Operand.tmp 61) (Operand.const (Value.bool false))
            have q15 : x 15 = .bool true := hK.1
            have q28 : x 28 = .bool true := hK.2.1
            clear hK
            simp only [Rg.fillOps, Act.put, List.take_succ_cons, List.take_zero, List.setIfInBounds_toArray, List.set_cons_zero, List.set_cons_succ, Nat.zero_add, Nat.reduceAdd]
            clear hG
            go_wp2
            exact ⟨rfl, rfl, Below.refl _ _, rfl⟩
          refine Rg.steps_cons (fun x w1 hG hK => ?_) ?_
          · -- 30: t6 := Op.assign (Operand.tmp 62)
            have q29 : x 29 = .bool true := hK.1
            clear hK
            simp only [Rg.fillOps, Act.put, List.take_succ_cons, List.take_zero, List.setIfInBounds_toArray, List.set_cons_zero, List.set_cons_succ, Nat.zero_add, Nat.reduceAdd]
            clear hG
            go_wp2
            exact ⟨rfl, rfl, Below.refl _ _, q29⟩
          exact Rg.steps_nil
        case kept => exact Rg.kept_cons (Rg.kept_is _) (Rg.kept_cons (Rg.kept_is _) (Rg.kept_cons (Rg.kept_is _) (Rg.kept_cons (Rg.kept_is _) (Rg.kept_cons (Rg.kept_is _) (Rg.kept_cons (Rg.kept_is _) (Rg.kept_cons (Rg.kept_is _) (Rg.kept_cons (Rg.kept_is _) (Rg.kept_cons (Rg.kept_is _) (Rg.kept_cons (Rg.kept_is _) (Rg.kept_cons (Rg.kept_is _) (Rg.kept_cons (Rg.kept_is _) (Rg.kept_cons (Rg.kept_is _) (Rg.kept_cons (Rg.kept_is _) (Rg.kept_cons (Rg.kept_is _) (Rg.kept_cons (Rg.kept_is _) (Rg.kept_cons (Rg.kept_is _) (Rg.kept_cons (Rg.kept_is _) (Rg.kept_cons (Rg.kept_is _) (Rg.kept_cons (Rg.kept_is _) (Rg.kept_cons (Rg.kept_is _) (Rg.kept_cons (Rg.kept_is _) (Rg.kept_cons (Rg.kept_is _) (Rg.kept_cons (Rg.kept_is _) (Rg.kept_cons (Rg.kept_is _) (Rg.kept_cons (Rg.kept_is _) (Rg.kept_cons (Rg.kept_is _) (Rg.kept_cons (Rg.kept_is _) (Rg.kept_cons (Rg.kept_is _) (Rg.kept_cons (Rg.kept_is _) (Rg.kept_cons (Rg.kept_is _) (Rg.kept_nil)))))))))))))))))))))))))))))))
        case fin =>
          intro x w4 hG hK
          have q30 : x 30 = .bool true := hK.2.2.2.2.2.2.2.2.2.2.2.2.2.2.2.2.2.2.2.2.2.2.2.2.2.2.2.2.2.2.1
          clear hK
          simp only [Rg.fillOps, Act.put, List.setIfInBounds_toArray, List.set_cons_zero, List.set_cons_succ, Nat.zero_add, Nat.reduceAdd]
          simp only [q30]
          have HG4 := Lib.hid (HB2.out.trans ((HB3.out.trans (hG.mono HB3.out.size)).mono HB2.out.size))
          clear hG
          go_wp2_with fail
          go_ret
          exact ⟨rfl, HG4.out⟩
      · have db : EB.toList.isEmpty = false := by rw [is_empty]; exact decide_eq_false fun h => heb (size_zero h)
        have dab : (EA.toList == EB.toList) = SB := by rw [str_eq]; exact HPL.out hea heb
        clear hea heb
        go_upto_region 6 with fail
        refine Rg.region_rg' [Rg.Is (.string EA),
          Rg.Is (.bool false),
          Rg.Is (.bool false),
          Rg.Is (.string EB),
          Rg.Is (.bool false),
          Rg.Is (.bool false),
          Rg.Is (.bool false),
          Rg.Is (.string EA),
          Rg.Is (.string EB),
          Rg.Is (.bool SB),
          Rg.Is (.agg #[.int .i64 kind, .int .i64 q, .int .i64 n, .int .i64 pos, .int .i64 lack, .string topic, .string group, .string tag, .string key, .string body, .slice ka kn kc, .slice ta tn tc, .slice pa pn pc, .bool sync]),
          Rg.Is (.agg #[.int .i64 kind', .int .i64 q', .int .i64 n', .int .i64 pos', .int .i64 lack', .string topic', .string group', .string tag', .string key', .string body', .slice ka' kn' kc', .slice ta' tn' tc', .slice pa' pn' pc', .bool sync']),
          Rg.Is (.bool SB),
          Rg.Is (.bool true),
          Rg.Is (.bool true),
          Rg.Is (.bool true),
          Rg.Is (.pointer (some ⟨w.heap.size + 1 + 1, 0, none⟩)),
          Rg.Is (.string s),
          Rg.Is (.string ZS),
          Rg.Is (.pointer (some ⟨w.heap.size + 1 + 1, 1, none⟩)),
          Rg.Is (.string t),
          Rg.Is (.string ZT),
          Rg.Is (.bool D),
          Rg.Is (.pointer (some ⟨w.heap.size + 1 + 1, 0, none⟩)),
          Rg.Is (.string s),
          Rg.Is (.pointer (some ⟨w.heap.size + 1 + 1, 1, none⟩)),
          Rg.Is (.string t),
          Rg.Is (.bool D),
          Rg.Is (.bool true),
          Rg.Is (.bool true),
          Rg.Is (.bool true)]
          [[], [0], [1], [2], [3, 2], [2, 4], [5], [6], [6], [7, 8, 6], [6], [6], [10, 11, 6], [9, 12, 6], [6, 13], [14], [15], [16, 15], [17, 15], [15], [19, 15], [20, 15], [18, 21, 15], [15], [23, 15], [15], [25, 15], [24, 26, 15], [22, 27, 15], [15, 28], [29]] (by kernel_rfl) (by kernel_rfl) (by kernel_rfl) ?kept ?steps ?fin
        case steps =>
          refine Rg.steps_cons (fun x w1 hG hK => ?_) ?_
          · -- 0: t33 := Op.move (Operand.tmp 7)
            clear hK
            simp only [Rg.fillOps, Act.put, List.take_succ_cons, List.take_zero, List.setIfInBounds_toArray, List.set_cons_zero, List.set_cons_succ, Nat.zero_add, Nat.reduceAdd]
            clear hG
            go_wp2
            exact ⟨rfl, rfl, Below.refl _ _, rfl⟩
          refine Rg.steps_cons (fun x w1 hG hK => ?_) ?_
          · -- 1: t34 := Op.binOp BinOp.eql 9 (Operand.tmp 33) (Operand.const (Value.string { data := #[] })) 9
            have q0 : x 0 = .string EA := hK.1
            clear hK
            simp only [Rg.fillOps, Act.put, List.take_succ_cons, List.take_zero, List.setIfInBounds_toArray, List.set_cons_zero, List.set_cons_succ, Nat.zero_add, Nat.reduceAdd]
            clear hG
            go_wp2
            exact ⟨rfl, rfl, Below.refl _ _, rfl⟩
          refine Rg.steps_cons (fun x w1 hG hK => ?_) ?_
          · -- 2: t35 := Op.move (Operand.tmp 34)
            have q1 : x 1 = .bool false := hK.1
            clear hK
            simp only [Rg.fillOps, Act.put, List.take_succ_cons, List.take_zero, List.setIfInBounds_toArray, List.set_cons_zero, List.set_cons_succ, Nat.zero_add, Nat.reduceAdd]
            clear hG
            go_wp2
            exact ⟨rfl, rfl, Below.refl _ _, q1⟩
          refine Rg.steps_cons (fun x w1 hG hK => ?_) ?_
          · -- 3: t36 := Op.move (Operand.tmp 8)
            have q2 : x 2 = .bool false := hK.1
            clear hK
            simp only [Rg.fillOps, Act.put, List.take_succ_cons, List.take_zero, List.setIfInBounds_toArray, List.set_cons_zero, List.set_cons_succ, Nat.zero_add, Nat.reduceAdd]
            clear hG
            go_wp2
            exact ⟨rfl, rfl, Below.refl _ _, rfl⟩
          refine Rg.steps_cons (fun x w1 hG hK => ?_) ?_
          · -- 4: t37 := Op.binOp BinOp.eql 9 (Operand.tmp 36) (Operand.const (Value.string { data := #[] })) 9
            have q3 : x 3 = .string EB := hK.1
            have q2 : x 2 = .bool false := hK.2.1
            clear hK
            simp only [Rg.fillOps, Act.put, List.take_succ_cons, List.take_zero, List.setIfInBounds_toArray, List.set_cons_zero, List.set_cons_succ, Nat.zero_add, Nat.reduceAdd]
            clear hG
            go_wp2
            exact ⟨rfl, rfl, Below.refl _ _, rfl⟩
          refine Rg.steps_cons (fun x w1 hG hK => ?_) ?_
          · -- 5: t38 := Op.pick (Operand.tmp 35) (Operand.const (Value.bool true)) (Operand.tmp 37)
            have q2 : x 2 = .bool false := hK.1
            have q4 : x 4 = .bool false := hK.2.1
            clear hK
            simp only [Rg.fillOps, Act.put, List.take_succ_cons, List.take_zero, List.setIfInBounds_toArray, List.set_cons_zero, List.set_cons_succ, Nat.zero_add, Nat.reduceAdd]
            clear hG
            go_wp2
            exact ⟨rfl, rfl, Below.refl _ _, rfl⟩
          refine Rg.steps_cons (fun x w1 hG hK => ?_) ?_
          · -- 6: t39 := Op.move (Operand.tmp 38)
            have q5 : x 5 = .bool false := hK.1
            clear hK
            simp only [Rg.fillOps, Act.put, List.take_succ_cons, List.take_zero, List.setIfInBounds_toArray, List.set_cons_zero, List.set_cons_succ, Nat.zero_add, Nat.reduceAdd]
            clear hG
            go_wp2
            exact ⟨rfl, rfl, Below.refl _ _, q5⟩
          refine Rg.steps_cons (fun x w1 hG hK => ?_) ?_
          · -- 7: t40 := Op.move (Operand.tmp 7)
            have q6 : x 6 = .bool false := hK.1
            clear hK
            simp only [Rg.fillOps, Act.put, List.take_succ_cons, List.take_zero, List.setIfInBounds_toArray, List.set_cons_zero, List.set_cons_succ, Nat.zero_add, Nat.reduceAdd]
            clear hG
            go_wp2
            exact ⟨rfl, rfl, Below.refl _ _, rfl⟩
          refine Rg.steps_cons (fun x w1 hG hK => ?_) ?_
          · -- 8: t41 := Op.move (Operand.tmp 8)
            have q6 : x 6 = .bool false := hK.1
            clear hK
            simp only [Rg.fillOps, Act.put, List.take_succ_cons, List.take_zero, List.setIfInBounds_toArray, List.set_cons_zero, List.set_cons_succ, Nat.zero_add, Nat.reduceAdd]
            clear hG
            go_wp2
            exact ⟨rfl, rfl, Below.refl _ _, rfl⟩
          refine Rg.steps_cons (fun x w1 hG hK => ?_) ?_
          · -- 9: t42 := Op.binOp BinOp.eql 9 (Operand.tmp 40) (Operand.tmp 41) 9
            have q7 : x 7 = .string EA := hK.1
            have q8 : x 8 = .string EB := hK.2.1
            have q6 : x 6 = .bool false := hK.2.2.1
            clear hK
            simp only [Rg.fillOps, Act.put, List.take_succ_cons, List.take_zero, List.setIfInBounds_toArray, List.set_cons_zero, List.set_cons_succ, Nat.zero_add, Nat.reduceAdd]
            go_wp2_with fail
            exact ⟨rfl, rfl, Below.refl _ _, by first | rfl | exact congrArg Value.bool dab⟩
          refine Rg.steps_cons (fun x w1 hG hK => ?_) ?_
          · -- 10: t43 := Op.load 25 (Operand.tmp 3)
            have q6 : x 6 = .bool false := hK.1
            clear hK
            simp only [Rg.fillOps, Act.put, List.take_succ_cons, List.take_zero, List.setIfInBounds_toArray, List.set_cons_zero, List.set_cons_succ, Nat.zero_add, Nat.reduceAdd]
            have HQ := Lib.hid (rangeAt_below HR2.out (HB3.out.trans (hG.mono HB3.out.size)))
            clear hG
            have f0 : w1.cell? ⟨w.heap.size, 0, none⟩ = some (.int .i64 kind) := HQ.out 0 _ rfl
            have f1 : w1.cell? ⟨w.heap.size, 1, none⟩ = some (.int .i64 q) := HQ.out 1 _ rfl
            have f2 : w1.cell? ⟨w.heap.size, 2, none⟩ = some (.int .i64 n) := HQ.out 2 _ rfl
            have f3 : w1.cell? ⟨w.heap.size, 3, none⟩ = some (.int .i64 pos) := HQ.out 3 _ rfl
            have f4 : w1.cell? ⟨w.heap.size, 4, none⟩ = some (.int .i64 lack) := HQ.out 4 _ rfl
            have f5 : w1.cell? ⟨w.heap.size, 5, none⟩ = some (.string topic) := HQ.out 5 _ rfl
            have f6 : w1.cell? ⟨w.heap.size, 6, none⟩ = some (.string group) := HQ.out 6 _ rfl
            have f7 : w1.cell? ⟨w.heap.size, 7, none⟩ = some (.string tag) := HQ.out 7 _ rfl
            have f8 : w1.cell? ⟨w.heap.size, 8, none⟩ = some (.string key) := HQ.out 8 _ rfl
            have f9 : w1.cell? ⟨w.heap.size, 9, none⟩ = some (.string body) := HQ.out 9 _ rfl
            have f10 : w1.cell? ⟨w.heap.size, 10, none⟩ = some (.slice ka kn kc) := HQ.out 10 _ rfl
            have f11 : w1.cell? ⟨w.heap.size, 11, none⟩ = some (.slice ta tn tc) := HQ.out 11 _ rfl
            have f12 : w1.cell? ⟨w.heap.size, 12, none⟩ = some (.slice pa pn pc) := HQ.out 12 _ rfl
            have f13 : w1.cell? ⟨w.heap.size, 13, none⟩ = some (.bool sync) := HQ.out 13 _ rfl
            clear HQ
            go_wp2_with fail
            exact ⟨rfl, rfl, Below.refl _ _, rfl⟩
          refine Rg.steps_cons (fun x w1 hG hK => ?_) ?_
          · -- 11: t44 := Op.load 25 (Operand.tmp 4)
            have q6 : x 6 = .bool false := hK.1
            clear hK
            simp only [Rg.fillOps, Act.put, List.take_succ_cons, List.take_zero, List.setIfInBounds_toArray, List.set_cons_zero, List.set_cons_succ, Nat.zero_add, Nat.reduceAdd]
            have HQ := Lib.hid (rangeAt_below HR2'.out (HB3.out.trans (hG.mono HB3.out.size)))
            clear hG
            have f0 : w1.cell? ⟨w.heap.size + 1, 0, none⟩ = some (.int .i64 kind') := HQ.out 0 _ rfl
            have f1 : w1.cell? ⟨w.heap.size + 1, 1, none⟩ = some (.int .i64 q') := HQ.out 1 _ rfl
            have f2 : w1.cell? ⟨w.heap.size + 1, 2, none⟩ = some (.int .i64 n') := HQ.out 2 _ rfl
            have f3 : w1.cell? ⟨w.heap.size + 1, 3, none⟩ = some (.int .i64 pos') := HQ.out 3 _ rfl
            have f4 : w1.cell? ⟨w.heap.size + 1, 4, none⟩ = some (.int .i64 lack') := HQ.out 4 _ rfl
            have f5 : w1.cell? ⟨w.heap.size + 1, 5, none⟩ = some (.string topic') := HQ.out 5 _ rfl
            have f6 : w1.cell? ⟨w.heap.size + 1, 6, none⟩ = some (.string group') := HQ.out 6 _ rfl
            have f7 : w1.cell? ⟨w.heap.size + 1, 7, none⟩ = some (.string tag') := HQ.out 7 _ rfl
            have f8 : w1.cell? ⟨w.heap.size + 1, 8, none⟩ = some (.string key') := HQ.out 8 _ rfl
            have f9 : w1.cell? ⟨w.heap.size + 1, 9, none⟩ = some (.string body') := HQ.out 9 _ rfl
            have f10 : w1.cell? ⟨w.heap.size + 1, 10, none⟩ = some (.slice ka' kn' kc') := HQ.out 10 _ rfl
            have f11 : w1.cell? ⟨w.heap.size + 1, 11, none⟩ = some (.slice ta' tn' tc') := HQ.out 11 _ rfl
            have f12 : w1.cell? ⟨w.heap.size + 1, 12, none⟩ = some (.slice pa' pn' pc') := HQ.out 12 _ rfl
            have f13 : w1.cell? ⟨w.heap.size + 1, 13, none⟩ = some (.bool sync') := HQ.out 13 _ rfl
            clear HQ
            go_wp2_with fail
            exact ⟨rfl, rfl, Below.refl _ _, rfl⟩
          refine Rg.steps_cons (fun x w1 hG hK => ?_) ?_
          · -- 12: t45 := Op.call { callee := Callee.value (Operand.func 12), args := #[Operand.tmp 43, Operand.tmp 44], argTypes := #[25, 25] }
            have q10 : x 10 = .agg #[.int .i64 kind, .int .i64 q, .int .i64 n, .int .i64 pos, .int .i64 lack, .string topic, .string group, .string tag, .string key, .string body, .slice ka kn kc, .slice ta tn tc, .slice pa pn pc, .bool sync] := hK.1
            have q11 : x 11 = .agg #[.int .i64 kind', .int .i64 q', .int .i64 n', .int .i64 pos', .int .i64 lack', .string topic', .string group', .string tag', .string key', .string body', .slice ka' kn' kc', .slice ta' tn' tc', .slice pa' pn' pc', .bool sync'] := hK.2.1
            have q6 : x 6 = .bool false := hK.2.2.1
            clear hK
            simp only [Rg.fillOps, Act.put, List.take_succ_cons, List.take_zero, List.setIfInBounds_toArray, List.set_cons_zero, List.set_cons_succ, Nat.zero_add, Nat.reduceAdd]
            go_wp2_with fail
            refine (HSM.out _ (HB3.out.trans (hG.mono HB3.out.size))).mono ?_
            rintro e w9 ⟨rfl, hb⟩
            go_wp2_with fail
            exact ⟨rfl, rfl, hb, rfl⟩
          refine Rg.steps_cons (fun x w1 hG hK => ?_) ?_
          · -- 13: t46 := Op.binOp BinOp.eql 4 (Operand.tmp 42) (Operand.tmp 45) 4
            have q9 : x 9 = .bool SB := hK.1
            have q12 : x 12 = .bool SB := hK.2.1
            have q6 : x 6 = .bool false := hK.2.2.1
            clear hK
            simp only [Rg.fillOps, Act.put, List.take_succ_cons, List.take_zero, List.setIfInBounds_toArray, List.set_cons_zero, List.set_cons_succ, Nat.zero_add, Nat.reduceAdd]
            go_wp2_with fail
            exact ⟨rfl, rfl, Below.refl _ _, by first | rfl | exact congrArg Value.bool (by cases SB <;> rfl)⟩
          refine Rg.steps_cons (fun x w1 hG hK => ?_) ?_
          · -- 14: t47 := Op.pick (Operand.tmp 39) (Operand.const (Value.bool true)) (Operand.tmp 46)
            have q6 : x 6 = .bool false := hK.1
            have q13 : x 13 = .bool true := hK.2.1
            clear hK
            simp only [Rg.fillOps, Act.put, List.take_succ_cons, List.take_zero, List.setIfInBounds_toArray, List.set_cons_zero, List.set_cons_succ, Nat.zero_add, Nat.reduceAdd]
            clear hG
            go_wp2
            exact ⟨rfl, rfl, Below.refl _ _, rfl⟩
          refine Rg.steps_cons (fun x w1 hG hK => ?_) ?_
          · -- 15: t48 := Op.move (Operand.tmp 47)
            have q14 : x 14 = .bool true := hK.1
            clear hK
            simp only [Rg.fillOps, Act.put, List.take_succ_cons, List.take_zero, List.setIfInBounds_toArray, List.set_cons_zero, List.set_cons_succ, Nat.zero_add, Nat.reduceAdd]
            clear hG
            go_wp2
            exact ⟨rfl, rfl, Below.refl _ _, q14⟩
          refine Rg.steps_cons (fun x w1 hG hK => ?_) ?_
          · -- 16: t49 := Op.indexAddr 39 (Operand.tmp 5) (Operand.const (Value.int IntKind.i64 0))
            have q15 : x 15 = .bool true := hK.1
            clear hK
            simp only [Rg.fillOps, Act.put, List.take_succ_cons, List.take_zero, List.setIfInBounds_toArray, List.set_cons_zero, List.set_cons_succ, Nat.zero_add, Nat.reduceAdd]
            clear hG
            go_wp2
            exact ⟨rfl, rfl, Below.refl _ _, rfl⟩
          refine Rg.steps_cons (fun x w1 hG hK => ?_) ?_
          · -- 17: t50 := Op.load 9 (Operand.tmp 49)
            have q16 : x 16 = .pointer (some ⟨w.heap.size + 1 + 1, 0, none⟩) := hK.1
            have q15 : x 15 = .bool true := hK.2.1
            clear hK
            simp only [Rg.fillOps, Act.put, List.take_succ_cons, List.take_zero, List.setIfInBounds_toArray, List.set_cons_zero, List.set_cons_succ, Nat.zero_add, Nat.reduceAdd]
            have hc := ((HB3.out.trans (hG.mono HB3.out.size)).cell (p := ⟨w.heap.size + 1 + 1, 0, none⟩) (cell_lt HS0.out)).trans HS0.out
            go_wp2_with fail
            exact ⟨rfl, rfl, Below.refl _ _, rfl⟩
          refine Rg.steps_cons (fun x w1 hG hK => ?_) ?_
          · -- 18: t51 := Op.call { callee := Callee.value (Operand.func 13), args := #[Operand.tmp 50], argTypes := #[9] }
            have q17 : x 17 = .string s := hK.1
            have q15 : x 15 = .bool true := hK.2.1
            clear hK
            simp only [Rg.fillOps, Act.put, List.take_succ_cons, List.take_zero, List.setIfInBounds_toArray, List.set_cons_zero, List.set_cons_succ, Nat.zero_add, Nat.reduceAdd]
            go_wp2_with fail
            refine (HX1.out _).mono ?_
            rintro e w9 ⟨rfl, hb⟩
            go_wp2_with fail
            exact ⟨rfl, rfl, hb, rfl⟩
          refine Rg.steps_cons (fun x w1 hG hK => ?_) ?_
          · -- 19: t52 := Op.indexAddr 39 (Operand.tmp 5) (Operand.const (Value.int IntKind.i64 1))
            have q15 : x 15 = .bool true := hK.1
            clear hK
            simp only [Rg.fillOps, Act.put, List.take_succ_cons, List.take_zero, List.setIfInBounds_toArray, List.set_cons_zero, List.set_cons_succ, Nat.zero_add, Nat.reduceAdd]
            clear hG
            go_wp2
            exact ⟨rfl, rfl, Below.refl _ _, rfl⟩
          refine Rg.steps_cons (fun x w1 hG hK => ?_) ?_
          · -- 20: t53 := Op.load 9 (Operand.tmp 52)
            have q19 : x 19 = .pointer (some ⟨w.heap.size + 1 + 1, 1, none⟩) := hK.1
            have q15 : x 15 = .bool true := hK.2.1
            clear hK
            simp only [Rg.fillOps, Act.put, List.take_succ_cons, List.take_zero, List.setIfInBounds_toArray, List.set_cons_zero, List.set_cons_succ, Nat.zero_add, Nat.reduceAdd]
            have hc := ((HB3.out.trans (hG.mono HB3.out.size)).cell (p := ⟨w.heap.size + 1 + 1, 1, none⟩) (cell_lt HS1.out)).trans HS1.out
            go_wp2_with fail
            exact ⟨rfl, rfl, Below.refl _ _, rfl⟩
          refine Rg.steps_cons (fun x w1 hG hK => ?_) ?_
          · -- 21: t54 := Op.call { callee := Callee.value (Operand.func 13), args := #[Operand.tmp 53], argTypes := #[9] }
            have q20 : x 20 = .string t := hK.1
            have q15 : x 15 = .bool true := hK.2.1
            clear hK
            simp only [Rg.fillOps, Act.put, List.take_succ_cons, List.take_zero, List.setIfInBounds_toArray, List.set_cons_zero, List.set_cons_succ, Nat.zero_add, Nat.reduceAdd]
            go_wp2_with fail
            refine (HX2.out _).mono ?_
            rintro e w9 ⟨rfl, hb⟩
            go_wp2_with fail
            exact ⟨rfl, rfl, hb, rfl⟩
          refine Rg.steps_cons (fun x w1 hG hK => ?_) ?_
          · -- 22: t55 := Op.binOp BinOp.eql 9 (Operand.tmp 51) (Operand.tmp 54) 9
            have q18 : x 18 = .string ZS := hK.1
            have q21 : x 21 = .string ZT := hK.2.1
            have q15 : x 15 = .bool true := hK.2.2.1
            clear hK
            simp only [Rg.fillOps, Act.put, List.take_succ_cons, List.take_zero, List.setIfInBounds_toArray, List.set_cons_zero, List.set_cons_succ, Nat.zero_add, Nat.reduceAdd]
            go_wp2_with fail
            exact ⟨rfl, rfl, Below.refl _ _, by first | rfl | exact congrArg Value.bool dst2⟩
          refine Rg.steps_cons (fun x w1 hG hK => ?_) ?_
          · -- 23: t56 := Op.indexAddr 39 (Operand.tmp 5) (Operand.const (Value.int IntKind.i64 0))
            have q15 : x 15 = .bool true := hK.1
            clear hK
            simp only [Rg.fillOps, Act.put, List.take_succ_cons, List.take_zero, List.setIfInBounds_toArray, List.set_cons_zero, List.set_cons_succ, Nat.zero_add, Nat.reduceAdd]
            clear hG
            go_wp2
            exact ⟨rfl, rfl, Below.refl _ _, rfl⟩
          refine Rg.steps_cons (fun x w1 hG hK => ?_) ?_
          · -- 24: t57 := Op.load 9 (Operand.tmp 56)
            have q23 : x 23 = .pointer (some ⟨w.heap.size + 1 + 1, 0, none⟩) := hK.1
            have q15 : x 15 = .bool true := hK.2.1
            clear hK
            simp only [Rg.fillOps, Act.put, List.take_succ_cons, List.take_zero, List.setIfInBounds_toArray, List.set_cons_zero, List.set_cons_succ, Nat.zero_add, Nat.reduceAdd]
            have hc := ((HB3.out.trans (hG.mono HB3.out.size)).cell (p := ⟨w.heap.size + 1 + 1, 0, none⟩) (cell_lt HS0.out)).trans HS0.out
            go_wp2_with fail
            exact ⟨rfl, rfl, Below.refl _ _, rfl⟩
          refine Rg.steps_cons (fun x w1 hG hK => ?_) ?_
          · -- 25: t58 := Op.indexAddr 39 (Operand.tmp 5) (Operand.const (Value.int IntKind.i64 1))
            have q15 : x 15 = .bool true := hK.1
            clear hK
            simp only [Rg.fillOps, Act.put, List.take_succ_cons, List.take_zero, List.setIfInBounds_toArray, List.set_cons_zero, List.set_cons_succ, Nat.zero_add, Nat.reduceAdd]
            clear hG
            go_wp2
            exact ⟨rfl, rfl, Below.refl _ _, rfl⟩
          refine Rg.steps_cons (fun x w1 hG hK => ?_) ?_
          · -- 26: t59 := Op.load 9 (Operand.tmp 58)
            have q25 : x 25 = .pointer (some ⟨w.heap.size + 1 + 1, 1, none⟩) := hK.1
            have q15 : x 15 = .bool true := hK.2.1
            clear hK
            simp only [Rg.fillOps, Act.put, List.take_succ_cons, List.take_zero, List.setIfInBounds_toArray, List.set_cons_zero, List.set_cons_succ, Nat.zero_add, Nat.reduceAdd]
            have hc := ((HB3.out.trans (hG.mono HB3.out.size)).cell (p := ⟨w.heap.size + 1 + 1, 1, none⟩) (cell_lt HS1.out)).trans HS1.out
            go_wp2_with fail
            exact ⟨rfl, rfl, Below.refl _ _, rfl⟩
          refine Rg.steps_cons (fun x w1 hG hK => ?_) ?_
          · -- 27: t60 := Op.binOp BinOp.eql 9 (Operand.tmp 57) (Operand.tmp 59) 9
            have q24 : x 24 = .string s := hK.1
            have q26 : x 26 = .string t := hK.2.1
            have q15 : x 15 = .bool true := hK.2.2.1
            clear hK
            simp only [Rg.fillOps, Act.put, List.take_succ_cons, List.take_zero, List.setIfInBounds_toArray, List.set_cons_zero, List.set_cons_succ, Nat.zero_add, Nat.reduceAdd]
            go_wp2_with fail
            exact ⟨rfl, rfl, Below.refl _ _, by first | rfl | exact congrArg Value.bool dst1⟩
          refine Rg.steps_cons (fun x w1 hG hK => ?_) ?_
          · -- 28: t61 := Op.binOp BinOp.eql 4 (Operand.tmp 55) (Operand.tmp 60) 4
            have q22 : x 22 = .bool D := hK.1
            have q27 : x 27 = .bool D := hK.2.1
            have q15 : x 15 = .bool true := hK.2.2.1
            clear hK
            simp only [Rg.fillOps, Act.put, List.take_succ_cons, List.take_zero, List.setIfInBounds_toArray, List.set_cons_zero, List.set_cons_succ, Nat.zero_add, Nat.reduceAdd]
            go_wp2_with fail
            exact ⟨rfl, rfl, Below.refl _ _, by first | rfl | exact congrArg Value.bool (by cases D <;> rfl)⟩
          refine Rg.steps_cons (fun x w1 hG hK => ?_) ?_
          · -- 29: t62 := Op.pick (Operand.tmp 48) (Operand.tmp 61) (Operand.const (Value.bool false))
            have q15 : x 15 = .bool true := hK.1
            have q28 : x 28 = .bool true := hK.2.1
            clear hK
            simp only [Rg.fillOps, Act.put, List.take_succ_cons, List.take_zero, List.setIfInBounds_toArray, List.set_cons_zero, List.set_cons_succ, Nat.zero_add, Nat.reduceAdd]
            clear hG
            go_wp2
            exact ⟨rfl, rfl, Below.refl _ _, rfl⟩
          refine Rg.steps_cons (fun x w1 hG hK => ?_) ?_
          · -- 30: t6 := Op.assign (Operand.tmp 62)
            have q29 : x 29 = .bool true := hK.1
            clear hK
            simp only [Rg.fillOps, Act.put, List.take_succ_cons, List.take_zero, List.setIfInBounds_toArray, List.set_cons_zero, List.set_cons_succ, Nat.zero_add, Nat.reduceAdd]
            clear hG
            go_wp2
            exact ⟨rfl, rfl, Below.refl _ _, q29⟩
          exact Rg.steps_nil
        case kept => exact Rg.kept_cons (Rg.kept_is _) (Rg.kept_cons (Rg.kept_is _) (Rg.kept_cons (Rg.kept_is _) (Rg.kept_cons (Rg.kept_is _) (Rg.kept_cons (Rg.kept_is _) (Rg.kept_cons (Rg.kept_is _) (Rg.kept_cons (Rg.kept_is _) (Rg.kept_cons (Rg.kept_is _) (Rg.kept_cons (Rg.kept_is _) (Rg.kept_cons (Rg.kept_is _) (Rg.kept_cons (Rg.kept_is _) (Rg.kept_cons (Rg.kept_is _) (Rg.kept_cons (Rg.kept_is _) (Rg.kept_cons (Rg.kept_is _) (Rg.kept_cons (Rg.kept_is _) (Rg.kept_cons (Rg.kept_is _) (Rg.kept_cons (Rg.kept_is _) (Rg.kept_cons (Rg.kept_is _) (Rg.kept_cons (Rg.kept_is _) (Rg.kept_cons (Rg.kept_is _) (Rg.kept_cons (Rg.kept_is _) (Rg.kept_cons (Rg.kept_is _) (Rg.kept_cons (Rg.kept_is _) (Rg.kept_cons (Rg.kept_is _) (Rg.kept_cons (Rg.kept_is _) (Rg.kept_cons (Rg.kept_is _) (Rg.kept_cons (Rg.kept_is _) (Rg.kept_cons (Rg.kept_is _) (Rg.kept_cons (Rg.kept_is _) (Rg.kept_cons (Rg.kept_is _) (Rg.kept_cons (Rg.kept_is _) (Rg.kept_nil)))))))))))))))))))))))))))))))
        case fin =>
          intro x w4 hG hK
          have q30 : x 30 = .bool true := hK.2.2.2.2.2.2.2.2.2.2.2.2.2.2.2.2.2.2.2.2.2.2.2.2.2.2.2.2.2.2.1
          clear hK
          simp only [Rg.fillOps, Act.put, List.setIfInBounds_toArray, List.set_cons_zero, List.set_cons_succ, Nat.zero_add, Nat.reduceAdd]
          simp only [q30]
          have HG4 := Lib.hid (HB2.out.trans ((HB3.out.trans (hG.mono HB3.out.size)).mono HB2.out.size))
          clear hG
          go_wp2_with fail
          go_ret
          exact ⟨rfl, HG4.out⟩

end Go.Proofs.YtphilpjglajffaaGreatDoor.Lin
