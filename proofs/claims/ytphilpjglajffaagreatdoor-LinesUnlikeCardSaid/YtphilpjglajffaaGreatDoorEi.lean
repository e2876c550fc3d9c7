/- Walk: what a letter stands for. -/
import Derived.Test.YtphilpjglajffaaGreatDoorEf
import Derived.Test.YtphilpjglajffaaGreatDoorEh
namespace Go.Proofs.YtphilpjglajffaaGreatDoor.Lin
open Go.RowKit

/-- what an event's slices hold, in a world -/
structure Ctx (w : World) (r : Raw) (keys tags : List ByteArray) (keep : List Bool) : Prop where
  ks : StrsIn w r.ks keys
  ts : StrsIn w r.ts tags
  ps : BoolsIn w r.ps keep
  kz : r.ks.a = none → r.ks.n = 0
  tz : r.ts.a = none → r.ts.n = 0
  pow : PowIs w
theorem Ctx.below {w w' : World} {r : Raw} {keys tags : List ByteArray} {keep : List Bool} (h : Ctx w r keys tags keep) (hb : Below w.heap.size w w') : Ctx w' r keys tags keep :=
  ⟨h.ks.below hb, h.ts.below hb, h.ps.below hb, h.kz, h.tz, h.pow.below hb⟩

/-- it may be told -/
structure Tellable (r : Raw) (keys tags : List ByteArray) : Prop where
  mild : Mild r
  q : SmallI r.q
  n : SmallI r.n
  pos : SmallI r.pos
  lack : SmallI r.lack
  key : ∀ k ∈ keys, k.size ≤ 1000
  tag : ∀ k ∈ tags, k.size ≤ 1000
  new : newE tags = 0

def syncS : ByteArray := ⟨#[83, 89, 78, 67]⟩
/-- what a letter stands for -/
def wordB (r : Raw) (keys tags : List ByteArray) (keep : List Bool) (c : UInt8) : ByteArray :=
  if c = 84 then r.topic else if c = 71 then r.group else if c = 81 then itoaB r.q else if c = 78 then itoaB r.n
  else if c = 65 then itoaB r.pos else if c = 76 then itoaB r.lack else if c = 116 then plainW r.tag else if c = 107 then keysW keys
  else if c = 98 then hexS r.body else if c = 120 then hexS r.key else if c = 112 then bitsW keep else if c = 102 then filterW tags
  else if r.sync then syncS else ⟨#[]⟩

set_option maxRecDepth 100000 in
set_option maxHeartbeats 1000000 in
theorem word_84 (r : Raw) (keys tags : List ByteArray) (keep : List Bool) (w : World) (hc : Ctx w r keys tags keep) (ht : Tellable r keys tags) :
    Calls Tryz.prog 23 #[r.val, .int .i32 84] w fun e w' => e = .returned (.string (wordB r keys tags keep 84)) ∧ Below w.heap.size w w' := by
  obtain ⟨kind, q, n, pos, lack, topic, group, tag, key, body, ⟨ka, kn, kc⟩, ⟨ta, tn, tc⟩, ⟨pa, pn, pc⟩, sync⟩ := r
  have HT := Lib.hid ht
  obtain ⟨W, HWE⟩ : ∃ W, Hid (w.alloc (.cells #[.int .i64 kind, .int .i64 q, .int .i64 n, .int .i64 pos, .int .i64 lack, .string topic, .string group, .string tag, .string key, .string body, .slice ka kn kc, .slice ta tn tc, .slice pa pn pc, .bool sync] 25) = W) := ⟨_, Lib.hid rfl⟩
  have HBW : Hid (Below w.heap.size w W) := Lib.hid (by rw [← HWE.out]; exact (Below.refl _ _).alloc (Nat.le_refl _) _)
  have HC := Lib.hid (hc.below HBW.out)
  clear hc ht
  unfold Raw.val Raw.cells
  have cx : W.cell? ⟨w.heap.size, 5, none⟩ = some (.string topic) := by rw [← HWE.out]; simp
  go_enter Tryz.func23, Tryz.ntmps23
  go_upto_region 1 with fail
  rw [HWE.out]
  go_wp2_with fail
  go_ret
  exact ⟨rfl, HBW.out⟩

set_option maxRecDepth 100000 in
set_option maxHeartbeats 1000000 in
theorem word_71 (r : Raw) (keys tags : List ByteArray) (keep : List Bool) (w : World) (hc : Ctx w r keys tags keep) (ht : Tellable r keys tags) :
    Calls Tryz.prog 23 #[r.val, .int .i32 71] w fun e w' => e = .returned (.string (wordB r keys tags keep 71)) ∧ Below w.heap.size w w' := by
  obtain ⟨kind, q, n, pos, lack, topic, group, tag, key, body, ⟨ka, kn, kc⟩, ⟨ta, tn, tc⟩, ⟨pa, pn, pc⟩, sync⟩ := r
  have HT := Lib.hid ht
  obtain ⟨W, HWE⟩ : ∃ W, Hid (w.alloc (.cells #[.int .i64 kind, .int .i64 q, .int .i64 n, .int .i64 pos, .int .i64 lack, .string topic, .string group, .string tag, .string key, .string body, .slice ka kn kc, .slice ta tn tc, .slice pa pn pc, .bool sync] 25) = W) := ⟨_, Lib.hid rfl⟩
  have HBW : Hid (Below w.heap.size w W) := Lib.hid (by rw [← HWE.out]; exact (Below.refl _ _).alloc (Nat.le_refl _) _)
  have HC := Lib.hid (hc.below HBW.out)
  clear hc ht
  unfold Raw.val Raw.cells
  have cx : W.cell? ⟨w.heap.size, 6, none⟩ = some (.string group) := by rw [← HWE.out]; simp
  go_enter Tryz.func23, Tryz.ntmps23
  go_upto_region 1 with fail
  rw [HWE.out]
  go_wp2_with fail
  go_ret
  exact ⟨rfl, HBW.out⟩

set_option maxRecDepth 100000 in
set_option maxHeartbeats 1000000 in
theorem word_81 (r : Raw) (keys tags : List ByteArray) (keep : List Bool) (w : World) (hc : Ctx w r keys tags keep) (ht : Tellable r keys tags) :
    Calls Tryz.prog 23 #[r.val, .int .i32 81] w fun e w' => e = .returned (.string (wordB r keys tags keep 81)) ∧ Below w.heap.size w w' := by
  obtain ⟨kind, q, n, pos, lack, topic, group, tag, key, body, ⟨ka, kn, kc⟩, ⟨ta, tn, tc⟩, ⟨pa, pn, pc⟩, sync⟩ := r
  have HT := Lib.hid ht
  obtain ⟨W, HWE⟩ : ∃ W, Hid (w.alloc (.cells #[.int .i64 kind, .int .i64 q, .int .i64 n, .int .i64 pos, .int .i64 lack, .string topic, .string group, .string tag, .string key, .string body, .slice ka kn kc, .slice ta tn tc, .slice pa pn pc, .bool sync] 25) = W) := ⟨_, Lib.hid rfl⟩
  have HBW : Hid (Below w.heap.size w W) := Lib.hid (by rw [← HWE.out]; exact (Below.refl _ _).alloc (Nat.le_refl _) _)
  have HC := Lib.hid (hc.below HBW.out)
  clear hc ht
  unfold Raw.val Raw.cells
  have cx : W.cell? ⟨w.heap.size, 1, none⟩ = some (.int .i64 q) := by rw [← HWE.out]; simp
  have HS : Hid (SmallI q) := Lib.hid HT.out.q
  go_enter Tryz.func23, Tryz.ntmps23
  go_upto_region 1 with fail
  rw [HWE.out]
  go_wp2_with fail
  refine (itoa_calls q _ HS.out.1 HS.out.2 HC.out.pow).mono ?_
  rintro e w3 ⟨rfl, hb3⟩
  have HB3 := Lib.hid (HBW.out.trans (hb3.mono HBW.out.size))
  clear hb3
  go_wp2_with fail
  go_ret
  exact ⟨rfl, HB3.out⟩

set_option maxRecDepth 100000 in
set_option maxHeartbeats 1000000 in
theorem word_78 (r : Raw) (keys tags : List ByteArray) (keep : List Bool) (w : World) (hc : Ctx w r keys tags keep) (ht : Tellable r keys tags) :
    Calls Tryz.prog 23 #[r.val, .int .i32 78] w fun e w' => e = .returned (.string (wordB r keys tags keep 78)) ∧ Below w.heap.size w w' := by
  obtain ⟨kind, q, n, pos, lack, topic, group, tag, key, body, ⟨ka, kn, kc⟩, ⟨ta, tn, tc⟩, ⟨pa, pn, pc⟩, sync⟩ := r
  have HT := Lib.hid ht
  obtain ⟨W, HWE⟩ : ∃ W, Hid (w.alloc (.cells #[.int .i64 kind, .int .i64 q, .int .i64 n, .int .i64 pos, .int .i64 lack, .string topic, .string group, .string tag, .string key, .string body, .slice ka kn kc, .slice ta tn tc, .slice pa pn pc, .bool sync] 25) = W) := ⟨_, Lib.hid rfl⟩
  have HBW : Hid (Below w.heap.size w W) := Lib.hid (by rw [← HWE.out]; exact (Below.refl _ _).alloc (Nat.le_refl _) _)
  have HC := Lib.hid (hc.below HBW.out)
  clear hc ht
  unfold Raw.val Raw.cells
  have cx : W.cell? ⟨w.heap.size, 2, none⟩ = some (.int .i64 n) := by rw [← HWE.out]; simp
  have HS : Hid (SmallI n) := Lib.hid HT.out.n
  go_enter Tryz.func23, Tryz.ntmps23
  go_upto_region 1 with fail
  rw [HWE.out]
  go_wp2_with fail
  refine (itoa_calls n _ HS.out.1 HS.out.2 HC.out.pow).mono ?_
  rintro e w3 ⟨rfl, hb3⟩
  have HB3 := Lib.hid (HBW.out.trans (hb3.mono HBW.out.size))
  clear hb3
  go_wp2_with fail
  go_ret
  exact ⟨rfl, HB3.out⟩

set_option maxRecDepth 100000 in
set_option maxHeartbeats 1000000 in
theorem word_65 (r : Raw) (keys tags : List ByteArray) (keep : List Bool) (w : World) (hc : Ctx w r keys tags keep) (ht : Tellable r keys tags) :
    Calls Tryz.prog 23 #[r.val, .int .i32 65] w fun e w' => e = .returned (.string (wordB r keys tags keep 65)) ∧ Below w.heap.size w w' := by
  obtain ⟨kind, q, n, pos, lack, topic, group, tag, key, body, ⟨ka, kn, kc⟩, ⟨ta, tn, tc⟩, ⟨pa, pn, pc⟩, sync⟩ := r
  have HT := Lib.hid ht
  obtain ⟨W, HWE⟩ : ∃ W, Hid (w.alloc (.cells #[.int .i64 kind, .int .i64 q, .int .i64 n, .int .i64 pos, .int .i64 lack, .string topic, .string group, .string tag, .string key, .string body, .slice ka kn kc, .slice ta tn tc, .slice pa pn pc, .bool sync] 25) = W) := ⟨_, Lib.hid rfl⟩
  have HBW : Hid (Below w.heap.size w W) := Lib.hid (by rw [← HWE.out]; exact (Below.refl _ _).alloc (Nat.le_refl _) _)
  have HC := Lib.hid (hc.below HBW.out)
  clear hc ht
  unfold Raw.val Raw.cells
  have cx : W.cell? ⟨w.heap.size, 3, none⟩ = some (.int .i64 pos) := by rw [← HWE.out]; simp
  have HS : Hid (SmallI pos) := Lib.hid HT.out.pos
  go_enter Tryz.func23, Tryz.ntmps23
  go_upto_region 1 with fail
  rw [HWE.out]
  go_wp2_with fail
  refine (itoa_calls pos _ HS.out.1 HS.out.2 HC.out.pow).mono ?_
  rintro e w3 ⟨rfl, hb3⟩
  have HB3 := Lib.hid (HBW.out.trans (hb3.mono HBW.out.size))
  clear hb3
  go_wp2_with fail
  go_ret
  exact ⟨rfl, HB3.out⟩

set_option maxRecDepth 100000 in
set_option maxHeartbeats 1000000 in
theorem word_76 (r : Raw) (keys tags : List ByteArray) (keep : List Bool) (w : World) (hc : Ctx w r keys tags keep) (ht : Tellable r keys tags) :
    Calls Tryz.prog 23 #[r.val, .int .i32 76] w fun e w' => e = .returned (.string (wordB r keys tags keep 76)) ∧ Below w.heap.size w w' := by
  obtain ⟨kind, q, n, pos, lack, topic, group, tag, key, body, ⟨ka, kn, kc⟩, ⟨ta, tn, tc⟩, ⟨pa, pn, pc⟩, sync⟩ := r
  have HT := Lib.hid ht
  obtain ⟨W, HWE⟩ : ∃ W, Hid (w.alloc (.cells #[.int .i64 kind, .int .i64 q, .int .i64 n, .int .i64 pos, .int .i64 lack, .string topic, .string group, .string tag, .string key, .string body, .slice ka kn kc, .slice ta tn tc, .slice pa pn pc, .bool sync] 25) = W) := ⟨_, Lib.hid rfl⟩
  have HBW : Hid (Below w.heap.size w W) := Lib.hid (by rw [← HWE.out]; exact (Below.refl _ _).alloc (Nat.le_refl _) _)
  have HC := Lib.hid (hc.below HBW.out)
  clear hc ht
  unfold Raw.val Raw.cells
  have cx : W.cell? ⟨w.heap.size, 4, none⟩ = some (.int .i64 lack) := by rw [← HWE.out]; simp
  have HS : Hid (SmallI lack) := Lib.hid HT.out.lack
  go_enter Tryz.func23, Tryz.ntmps23
  go_upto_region 1 with fail
  rw [HWE.out]
  go_wp2_with fail
  refine (itoa_calls lack _ HS.out.1 HS.out.2 HC.out.pow).mono ?_
  rintro e w3 ⟨rfl, hb3⟩
  have HB3 := Lib.hid (HBW.out.trans (hb3.mono HBW.out.size))
  clear hb3
  go_wp2_with fail
  go_ret
  exact ⟨rfl, HB3.out⟩

set_option maxRecDepth 100000 in
set_option maxHeartbeats 1000000 in
theorem word_116 (r : Raw) (keys tags : List ByteArray) (keep : List Bool) (w : World) (hc : Ctx w r keys tags keep) (ht : Tellable r keys tags) :
    Calls Tryz.prog 23 #[r.val, .int .i32 116] w fun e w' => e = .returned (.string (wordB r keys tags keep 116)) ∧ Below w.heap.size w w' := by
  obtain ⟨kind, q, n, pos, lack, topic, group, tag, key, body, ⟨ka, kn, kc⟩, ⟨ta, tn, tc⟩, ⟨pa, pn, pc⟩, sync⟩ := r
  have HT := Lib.hid ht
  obtain ⟨W, HWE⟩ : ∃ W, Hid (w.alloc (.cells #[.int .i64 kind, .int .i64 q, .int .i64 n, .int .i64 pos, .int .i64 lack, .string topic, .string group, .string tag, .string key, .string body, .slice ka kn kc, .slice ta tn tc, .slice pa pn pc, .bool sync] 25) = W) := ⟨_, Lib.hid rfl⟩
  have HBW : Hid (Below w.heap.size w W) := Lib.hid (by rw [← HWE.out]; exact (Below.refl _ _).alloc (Nat.le_refl _) _)
  have HC := Lib.hid (hc.below HBW.out)
  clear hc ht
  unfold Raw.val Raw.cells
  have cx : W.cell? ⟨w.heap.size, 7, none⟩ = some (.string tag) := by rw [← HWE.out]; simp
  go_enter Tryz.func23, Tryz.ntmps23
  go_upto_region 1 with fail
  rw [HWE.out]
  go_wp2_with fail
  refine (plain_calls tag _).mono ?_
  rintro e w3 ⟨rfl, rfl⟩
  go_wp2_with fail
  go_ret
  exact ⟨rfl, HBW.out⟩

set_option maxRecDepth 100000 in
set_option maxHeartbeats 1000000 in
theorem word_107 (r : Raw) (keys tags : List ByteArray) (keep : List Bool) (w : World) (hc : Ctx w r keys tags keep) (ht : Tellable r keys tags) :
    Calls Tryz.prog 23 #[r.val, .int .i32 107] w fun e w' => e = .returned (.string (wordB r keys tags keep 107)) ∧ Below w.heap.size w w' := by
  obtain ⟨kind, q, n, pos, lack, topic, group, tag, key, body, ⟨ka, kn, kc⟩, ⟨ta, tn, tc⟩, ⟨pa, pn, pc⟩, sync⟩ := r
  have HT := Lib.hid ht
  obtain ⟨W, HWE⟩ : ∃ W, Hid (w.alloc (.cells #[.int .i64 kind, .int .i64 q, .int .i64 n, .int .i64 pos, .int .i64 lack, .string topic, .string group, .string tag, .string key, .string body, .slice ka kn kc, .slice ta tn tc, .slice pa pn pc, .bool sync] 25) = W) := ⟨_, Lib.hid rfl⟩
  have HBW : Hid (Below w.heap.size w W) := Lib.hid (by rw [← HWE.out]; exact (Below.refl _ _).alloc (Nat.le_refl _) _)
  have HC := Lib.hid (hc.below HBW.out)
  clear hc ht
  unfold Raw.val Raw.cells
  have cx : W.cell? ⟨w.heap.size, 10, none⟩ = some (.slice ka kn kc) := by rw [← HWE.out]; simp
  go_enter Tryz.func23, Tryz.ntmps23
  go_upto_region 1 with fail
  rw [HWE.out]
  go_wp2_with fail
  refine (keys_calls ka kn kc keys _ HC.out.ks HT.out.mild.ks HT.out.key).mono ?_
  rintro e w3 ⟨rfl, hb3⟩
  have HB3 := Lib.hid (HBW.out.trans (hb3.mono HBW.out.size))
  clear hb3
  go_wp2_with fail
  go_ret
  exact ⟨rfl, HB3.out⟩

set_option maxRecDepth 100000 in
set_option maxHeartbeats 1000000 in
theorem word_98 (r : Raw) (keys tags : List ByteArray) (keep : List Bool) (w : World) (hc : Ctx w r keys tags keep) (ht : Tellable r keys tags) :
    Calls Tryz.prog 23 #[r.val, .int .i32 98] w fun e w' => e = .returned (.string (wordB r keys tags keep 98)) ∧ Below w.heap.size w w' := by
  obtain ⟨kind, q, n, pos, lack, topic, group, tag, key, body, ⟨ka, kn, kc⟩, ⟨ta, tn, tc⟩, ⟨pa, pn, pc⟩, sync⟩ := r
  have HT := Lib.hid ht
  obtain ⟨W, HWE⟩ : ∃ W, Hid (w.alloc (.cells #[.int .i64 kind, .int .i64 q, .int .i64 n, .int .i64 pos, .int .i64 lack, .string topic, .string group, .string tag, .string key, .string body, .slice ka kn kc, .slice ta tn tc, .slice pa pn pc, .bool sync] 25) = W) := ⟨_, Lib.hid rfl⟩
  have HBW : Hid (Below w.heap.size w W) := Lib.hid (by rw [← HWE.out]; exact (Below.refl _ _).alloc (Nat.le_refl _) _)
  have HC := Lib.hid (hc.below HBW.out)
  clear hc ht
  unfold Raw.val Raw.cells
  have cx : W.cell? ⟨w.heap.size, 9, none⟩ = some (.string body) := by rw [← HWE.out]; simp
  have HS : Hid (body.size ≤ 1000) := Lib.hid HT.out.mild.b
  go_enter Tryz.func23, Tryz.ntmps23
  go_upto_region 1 with fail
  rw [HWE.out]
  go_wp2_with fail
  refine (hex_calls body _ (Nat.le_trans HS.out (by decide))).mono ?_
  rintro e w3 ⟨rfl, hb3⟩
  have HB3 := Lib.hid (HBW.out.trans (hb3.mono HBW.out.size))
  clear hb3
  go_wp2_with fail
  go_ret
  exact ⟨rfl, HB3.out⟩

set_option maxRecDepth 100000 in
set_option maxHeartbeats 1000000 in
theorem word_120 (r : Raw) (keys tags : List ByteArray) (keep : List Bool) (w : World) (hc : Ctx w r keys tags keep) (ht : Tellable r keys tags) :
    Calls Tryz.prog 23 #[r.val, .int .i32 120] w fun e w' => e = .returned (.string (wordB r keys tags keep 120)) ∧ Below w.heap.size w w' := by
  obtain ⟨kind, q, n, pos, lack, topic, group, tag, key, body, ⟨ka, kn, kc⟩, ⟨ta, tn, tc⟩, ⟨pa, pn, pc⟩, sync⟩ := r
  have HT := Lib.hid ht
  obtain ⟨W, HWE⟩ : ∃ W, Hid (w.alloc (.cells #[.int .i64 kind, .int .i64 q, .int .i64 n, .int .i64 pos, .int .i64 lack, .string topic, .string group, .string tag, .string key, .string body, .slice ka kn kc, .slice ta tn tc, .slice pa pn pc, .bool sync] 25) = W) := ⟨_, Lib.hid rfl⟩
  have HBW : Hid (Below w.heap.size w W) := Lib.hid (by rw [← HWE.out]; exact (Below.refl _ _).alloc (Nat.le_refl _) _)
  have HC := Lib.hid (hc.below HBW.out)
  clear hc ht
  unfold Raw.val Raw.cells
  have cx : W.cell? ⟨w.heap.size, 8, none⟩ = some (.string key) := by rw [← HWE.out]; simp
  have HS : Hid (key.size ≤ 1000) := Lib.hid HT.out.mild.k
  go_enter Tryz.func23, Tryz.ntmps23
  go_upto_region 1 with fail
  rw [HWE.out]
  go_wp2_with fail
  refine (hex_calls key _ (Nat.le_trans HS.out (by decide))).mono ?_
  rintro e w3 ⟨rfl, hb3⟩
  have HB3 := Lib.hid (HBW.out.trans (hb3.mono HBW.out.size))
  clear hb3
  go_wp2_with fail
  go_ret
  exact ⟨rfl, HB3.out⟩

set_option maxRecDepth 100000 in
set_option maxHeartbeats 1000000 in
theorem word_112 (r : Raw) (keys tags : List ByteArray) (keep : List Bool) (w : World) (hc : Ctx w r keys tags keep) (ht : Tellable r keys tags) :
    Calls Tryz.prog 23 #[r.val, .int .i32 112] w fun e w' => e = .returned (.string (wordB r keys tags keep 112)) ∧ Below w.heap.size w w' := by
  obtain ⟨kind, q, n, pos, lack, topic, group, tag, key, body, ⟨ka, kn, kc⟩, ⟨ta, tn, tc⟩, ⟨pa, pn, pc⟩, sync⟩ := r
  have HT := Lib.hid ht
  obtain ⟨W, HWE⟩ : ∃ W, Hid (w.alloc (.cells #[.int .i64 kind, .int .i64 q, .int .i64 n, .int .i64 pos, .int .i64 lack, .string topic, .string group, .string tag, .string key, .string body, .slice ka kn kc, .slice ta tn tc, .slice pa pn pc, .bool sync] 25) = W) := ⟨_, Lib.hid rfl⟩
  have HBW : Hid (Below w.heap.size w W) := Lib.hid (by rw [← HWE.out]; exact (Below.refl _ _).alloc (Nat.le_refl _) _)
  have HC := Lib.hid (hc.below HBW.out)
  clear hc ht
  unfold Raw.val Raw.cells
  have cx : W.cell? ⟨w.heap.size, 12, none⟩ = some (.slice pa pn pc) := by rw [← HWE.out]; simp
  go_enter Tryz.func23, Tryz.ntmps23
  go_upto_region 1 with fail
  rw [HWE.out]
  go_wp2_with fail
  refine (bits_calls pa pn pc keep _ HC.out.ps (Nat.le_trans HT.out.mild.ps (by decide))).mono ?_
  rintro e w3 ⟨rfl, hb3⟩
  have HB3 := Lib.hid (HBW.out.trans (hb3.mono HBW.out.size))
  clear hb3
  go_wp2_with fail
  go_ret
  exact ⟨rfl, HB3.out⟩

set_option maxRecDepth 100000 in
set_option maxHeartbeats 1000000 in
theorem word_102 (r : Raw) (keys tags : List ByteArray) (keep : List Bool) (w : World) (hc : Ctx w r keys tags keep) (ht : Tellable r keys tags) :
    Calls Tryz.prog 23 #[r.val, .int .i32 102] w fun e w' => e = .returned (.string (wordB r keys tags keep 102)) ∧ Below w.heap.size w w' := by
  obtain ⟨kind, q, n, pos, lack, topic, group, tag, key, body, ⟨ka, kn, kc⟩, ⟨ta, tn, tc⟩, ⟨pa, pn, pc⟩, sync⟩ := r
  have HT := Lib.hid ht
  obtain ⟨W, HWE⟩ : ∃ W, Hid (w.alloc (.cells #[.int .i64 kind, .int .i64 q, .int .i64 n, .int .i64 pos, .int .i64 lack, .string topic, .string group, .string tag, .string key, .string body, .slice ka kn kc, .slice ta tn tc, .slice pa pn pc, .bool sync] 25) = W) := ⟨_, Lib.hid rfl⟩
  have HBW : Hid (Below w.heap.size w W) := Lib.hid (by rw [← HWE.out]; exact (Below.refl _ _).alloc (Nat.le_refl _) _)
  have HC := Lib.hid (hc.below HBW.out)
  clear hc ht
  unfold Raw.val Raw.cells
  have cx : W.cell? ⟨w.heap.size, 11, none⟩ = some (.slice ta tn tc) := by rw [← HWE.out]; simp
  have HTL : Hid (tags.length ≤ 100) := Lib.hid (by have h1 : tn = tags.length := HC.out.ts.1; have h2 : tn ≤ 10 := HT.out.mild.ts; omega)
  go_enter Tryz.func23, Tryz.ntmps23
  go_upto_region 1 with fail
  rw [HWE.out]
  go_wp2_with fail
  refine (new_calls ta tn tc tags _ HC.out.ts HC.out.tz (Nat.le_trans HT.out.mild.ts (by decide))).mono ?_
  rintro e w3 ⟨p, rfl, hf, hb3⟩
  have HF := Lib.hid (hf HT.out.new)
  have HB3 := Lib.hid (HBW.out.trans (hb3.mono HBW.out.size))
  clear hb3 hf
  go_wp2_with fail
  refine (text_calls p tags _ HF.out HTL.out HT.out.tag).mono ?_
  rintro e w4 ⟨rfl, hb4⟩
  have HB4 := Lib.hid (HB3.out.trans (hb4.mono HB3.out.size))
  clear hb4
  go_wp2_with fail
  go_ret
  exact ⟨rfl, HB4.out⟩

set_option maxRecDepth 100000 in
set_option maxHeartbeats 1000000 in
theorem word_115 (r : Raw) (keys tags : List ByteArray) (keep : List Bool) (w : World) (hc : Ctx w r keys tags keep) (ht : Tellable r keys tags) :
    Calls Tryz.prog 23 #[r.val, .int .i32 115] w fun e w' => e = .returned (.string (wordB r keys tags keep 115)) ∧ Below w.heap.size w w' := by
  obtain ⟨kind, q, n, pos, lack, topic, group, tag, key, body, ⟨ka, kn, kc⟩, ⟨ta, tn, tc⟩, ⟨pa, pn, pc⟩, sync⟩ := r
  have HT := Lib.hid ht
  obtain ⟨W, HWE⟩ : ∃ W, Hid (w.alloc (.cells #[.int .i64 kind, .int .i64 q, .int .i64 n, .int .i64 pos, .int .i64 lack, .string topic, .string group, .string tag, .string key, .string body, .slice ka kn kc, .slice ta tn tc, .slice pa pn pc, .bool sync] 25) = W) := ⟨_, Lib.hid rfl⟩
  have HBW : Hid (Below w.heap.size w W) := Lib.hid (by rw [← HWE.out]; exact (Below.refl _ _).alloc (Nat.le_refl _) _)
  have HC := Lib.hid (hc.below HBW.out)
  clear hc ht
  unfold Raw.val Raw.cells
  have cx : W.cell? ⟨w.heap.size, 13, none⟩ = some (.bool sync) := by rw [← HWE.out]; simp
  cases sync
  all_goals
    go_enter Tryz.func23, Tryz.ntmps23
    go_upto_region 1 with fail
    rw [HWE.out]
    go_wp2_with fail
    go_ret
    exact ⟨rfl, HBW.out⟩

theorem word_calls (r : Raw) (keys tags : List ByteArray) (keep : List Bool) (w : World) (hc : Ctx w r keys tags keep) (ht : Tellable r keys tags) (c : UInt8) (hl : c ∈ letters) :
    Calls Tryz.prog 23 #[r.val, .int .i32 c.toNat] w fun e w' => e = .returned (.string (wordB r keys tags keep c)) ∧ Below w.heap.size w w' := by
  rcases letter_cases hl with h | h | h | h | h | h | h | h | h | h | h | h | h <;> subst h
  · exact word_84 r keys tags keep w hc ht
  · exact word_71 r keys tags keep w hc ht
  · exact word_81 r keys tags keep w hc ht
  · exact word_78 r keys tags keep w hc ht
  · exact word_65 r keys tags keep w hc ht
  · exact word_76 r keys tags keep w hc ht
  · exact word_116 r keys tags keep w hc ht
  · exact word_107 r keys tags keep w hc ht
  · exact word_98 r keys tags keep w hc ht
  · exact word_120 r keys tags keep w hc ht
  · exact word_112 r keys tags keep w hc ht
  · exact word_102 r keys tags keep w hc ht
  · exact word_115 r keys tags keep w hc ht

end Go.Proofs.YtphilpjglajffaaGreatDoor.Lin
