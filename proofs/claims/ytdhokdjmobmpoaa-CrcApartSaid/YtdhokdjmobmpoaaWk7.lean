/- Walks of crc.word, Table.Seal, the document's Num and Seal. -/
import Derived.Test.YtdhokdjmobmpoaaWk6
import Derived.Laws.BytesArg
import Derived.Laws.IdiomStrings
import Derived.OpenShut
namespace Go.Proofs.Ytdhokdjmobmpoaa.Crc
open Go.RowKit

/-- a sum's four bytes, the highest first -/
def wordL (n : Nat) : List UInt8 := [UInt8.ofNat (n / 16777216 % 256), UInt8.ofNat (n / 65536 % 256), UInt8.ofNat (n / 256 % 256), UInt8.ofNat (n % 256)]
def wordA (n : Nat) : Array Value := #[.int .u8 ((n / 16777216 % 256 : Nat) : Int), .int .u8 ((n / 65536 % 256 : Nat) : Int), .int .u8 ((n / 256 % 256 : Nat) : Int), .int .u8 ((n % 256 : Nat) : Int)]

theorem ret_text {a b : ByteArray} (h : a = b) : Ending.returned (.string a) = .returned (.string b) := by rw [h]

theorem append_bytes (a b : ByteArray) : a ++ b = ⟨⟨a.data.toList ++ b.data.toList⟩⟩ := by
  apply ByteArray.ext
  apply Array.ext'
  simp

/-- text made of the bytes of a new block -/
theorem conv_new (w : World) (T : TypeId) (l : List UInt8) (ns : List Int) (hl : ns = l.map fun b => (b.toNat : Int)) (n : Nat) (hn : n = l.length) :
    (convert 29 9 (.slice (some ⟨w.heap.size, 0, none⟩) n n)).run Try.prog (w.alloc (.cells (ns.map (Value.int .u8)).toArray T)) = .ok (.string ⟨⟨l⟩⟩) (w.alloc (.cells (ns.map (Value.int .u8)).toArray T)) := by
  subst hn hl
  refine run_convert_bytes_back _ 29 9 5 _ _ l Try.underlying29 Try.underlying5 Try.underlying9 fun j hj => ?_
  rw [Go.WideShapes.add_plain, Nat.zero_add, cell_new]
  simp [List.getElem?_eq_getElem hj]

theorem u8_of (n : Nat) (h : n < 256) : ((UInt8.ofNat n).toNat : Int) = (n : Int) := by
  rw [UInt8.toNat_ofNat']; omega

theorem word_ints (x : Nat) (hx : x < 4294967296) : [(x : Int) / 16777216, (x : Int) / 65536 % 256, (x : Int) / 256 % 256, (x : Int) % 256] = (wordL x).map fun b => (b.toNat : Int) := by
  unfold wordL
  simp only [List.map_cons, List.map_nil]
  rw [u8_of _ (by omega), u8_of _ (by omega), u8_of _ (by omega), u8_of _ (by omega)]
  rw [show ((x / 16777216 % 256 : Nat) : Int) = (x : Int) / 16777216 from by omega, show ((x / 65536 % 256 : Nat) : Int) = (x : Int) / 65536 % 256 from by omega,
    show ((x / 256 % 256 : Nat) : Int) = (x : Int) / 256 % 256 from by omega, show ((x % 256 : Nat) : Int) = (x : Int) % 256 from by omega]

theorem word_tail (x k m : Nat) (l : List UInt8) (hk : k < 4) (hm : m = x / 256 ^ k) (hl : l = (wordL x).drop (4 - k)) : UInt8.ofNat (m % 256) :: l = (wordL x).drop (4 - (k + 1)) := by
  subst hm hl
  have h : k = 0 ∨ k = 1 ∨ k = 2 ∨ k = 3 := by omega
  rcases h with rfl | rfl | rfl | rfl <;> simp [wordL]

theorem word_cells (n : Nat) (hn : n < 4294967296) : (#[.int .u8 ((n : Int) / 16777216), .int .u8 ((n : Int) / 65536 % 256), .int .u8 ((n : Int) / 256 % 256), .int .u8 ((n : Int) % 256)] : Array Value) = wordA n := by
  unfold wordA
  rw [show ((n / 16777216 % 256 : Nat) : Int) = (n : Int) / 16777216 from by omega, show ((n / 65536 % 256 : Nat) : Int) = (n : Int) / 65536 % 256 from by omega,
    show ((n / 256 % 256 : Nat) : Int) = (n : Int) / 256 % 256 from by omega, show ((n % 256 : Nat) : Int) = (n : Int) % 256 from by omega]

set_option maxRecDepth 100000 in
set_option maxHeartbeats 400000 in
theorem word_calls (n : Nat) (w : World) (hn : n < 4294967296) :
    Calls Try.prog 21 #[.int .i64 (n : Int)] w fun e w' => e = .returned (.agg #[.int .u8 ((n : Int) / 16777216), .int .u8 ((n : Int) / 65536 % 256), .int .u8 ((n : Int) / 256 % 256), .int .u8 ((n : Int) % 256)]) ∧ Below w.heap.size w w' := by
  go_enter Try.func21, Try.ntmps21
  go_wp2
  exact bodyPost_ret (v := .agg #[.int .u8 ((n : Int) / 16777216), .int .u8 ((n : Int) / 65536 % 256), .int .u8 ((n : Int) / 256 % 256), .int .u8 ((n : Int) % 256)]) (by simp [results, Try.results21, go_sem]) rfl ⟨rfl, (Below.refl _ _).alloc (Nat.le_refl _) _⟩

theorem sum_calls1 (B : Nat) (v : Value) (s : ByteArray) (x : Nat) (w : World) (hx : sum s.data.toList = x) (ht : Tab w B) (hs : StrsIn w v [s]) :
    Calls Try.prog 12 #[.pointer (some ⟨B, 0, none⟩), v] w fun e w' => e = .returned (.int .i64 (x : Int)) ∧ ∃ n, w' = w.drewN n := by
  have := sum_any B v [s] w ht hs
  rw [show cat [s] = s.data.toList from by simp [cat], hx] at this
  exact this

theorem seal_off (v : Value) (w : World) :
    Calls Try.prog 15 #[.pointer none, v] w fun e w' => e = .returned (.string ⟨#[]⟩) ∧ w' = w := by
  go_enter Try.func15, Try.ntmps15
  go_wp2
  go_ret
  exact ⟨rfl, rfl⟩

set_option maxRecDepth 100000 in
set_option maxHeartbeats 400000 in
theorem seal_calls (B : Nat) (s : ByteArray) (w : World) (ht : Tab w B) (hs : s.size ≤ 140737488355328) :
    Calls Try.prog 15 #[.pointer (some ⟨B, 0, none⟩), .string s] w fun e w' => e = .returned (.string ⟨⟨wordL (sum s.data.toList) ++ s.data.toList⟩⟩) ∧ Below w.heap.size w w' := by
  have HT := Lib.hid ht
  clear ht
  have hlt := sum_lt s.data.toList
  generalize hx : sum s.data.toList = x at *
  have HX := Lib.hid hx
  clear hx
  go_enter Try.func15, Try.ntmps15
  go_wp2_with fail
  refine (sum_calls1 B _ s x _ HX.out (HT.out.alloc _) (strs_new1 w s hs)).mono ?_
  rintro e w1 ⟨rfl, hd⟩
  have HB1 := Lib.hid (alloc_below (below_drewN hd _))
  clear hd
  go_wp2_with fail
  refine (word_calls x _ hlt).mono ?_
  rintro e w2 ⟨rfl, hb2⟩
  have HB2 := Lib.hid hb2
  clear hb2
  have hcv := conv_new w2 50 (wordL x) _ (word_ints x hlt) 4 rfl
  simp only [List.map_cons, List.map_nil] at hcv
  have hts : (⟨⟨wordL x⟩⟩ : ByteArray).size ≤ 4 := Nat.le_refl 4
  generalize hte : (⟨⟨wordL x⟩⟩ : ByteArray) = t at *
  have HTE := Lib.hid hte
  clear hte
  go_wp2_with fail
  go_ret
  refine ⟨?_, (HB1.out.trans (HB2.out.mono HB1.out.size)).alloc (Nat.le_trans HB1.out.size HB2.out.size) _⟩
  exact ret_text (by rw [append_bytes, ← HTE.out])

set_option maxRecDepth 100000 in
set_option maxHeartbeats 400000 in
theorem num_calls (x : Nat) (w : World) (hx : x < 4294967296) :
    Calls Try.prog 22 #[.int .i64 4, .int .i64 (x : Int)] w fun e w' => e = .returned (.string ⟨⟨wordL x⟩⟩) ∧ Below w.heap.size w w' := by
  go_enter Try.func22, Try.ntmps22
  go_wp2_with fail
  go_loopw [1, 5, 6] (fun y t i wr => ∃ (k m : Nat) (l : List UInt8), k ≤ 4 ∧ i = .int .i64 k ∧ y = .int .i64 (m : Int) ∧ m < 4294967296 ∧ t = .string ⟨⟨l⟩⟩ ∧ (⟨⟨l⟩⟩ : ByteArray).size ≤ 4 ∧ Hid (l.length ≤ 4 ∧ m = x / 256 ^ k ∧ l = (wordL x).drop (4 - k)) ∧ Below w.heap.size w wr) (fun _ _ i _ => 4 - (intOf i).toNat)
  case atStart => exact ⟨0, x, [], by omega, rfl, rfl, hx, rfl, Nat.zero_le _, Lib.hid ⟨by simp, by simp, by simp [wordL]⟩, Below.refl _ _⟩
  case round =>
    obtain ⟨k, m, l, hk, rfl, rfl, hm, rfl, hls, HR, hbel⟩ := hrel
    generalize hle : (⟨⟨l⟩⟩ : ByteArray) = lb at *
    have HLE := Lib.hid hle
    clear hle
    have HB := Lib.hid hbel
    clear hbel
    by_cases hlt : k < 4
    · have d1 : decide ((k : Int) < 4) = true := by simp; omega
      have hcv := conv_new wr 5 [UInt8.ofNat (m % 256)] [(m : Int) % 256] (by simp only [List.map_cons, List.map_nil]; rw [u8_of _ (by omega)]; rw [show ((m % 256 : Nat) : Int) = (m : Int) % 256 from by omega]) 1 rfl
      simp only [List.map_cons, List.map_nil] at hcv
      have hts : (⟨⟨[UInt8.ofNat (m % 256)]⟩⟩ : ByteArray).size ≤ 1 := Nat.le_refl 1
      generalize hte : (⟨⟨[UInt8.ofNat (m % 256)]⟩⟩ : ByteArray) = t at *
      have HTE := Lib.hid hte
      clear hte
      go_wp2_with fail
      go_roundw
      case rel =>
        refine ⟨k + 1, m / 256, UInt8.ofNat (m % 256) :: l, by omega, by go_num, by go_num, by omega, ?_, ?_, Lib.hid ⟨?_, ?_, ?_⟩, HB.out.alloc HB.out.size _⟩
        · rw [append_bytes, ← HTE.out, ← HLE.out]; rfl
        · have h2 := HR.out.2.2; show (UInt8.ofNat (m % 256) :: l).length ≤ 4; rw [h2]; simp [wordL]; omega
        · have := HR.out.1; have h2 := HR.out.2.2; rw [h2]; simp [wordL]; omega
        · rw [HR.out.2.1, Nat.div_div_eq_div_mul, Nat.pow_succ]
        · exact word_tail x k m l hlt HR.out.2.1 HR.out.2.2
      case measure => simp [intOf]; omega
    · have d1 : decide ((k : Int) < 4) = false := by simp; omega
      have HK := Lib.hid (show k = 4 by omega)
      go_wp2_with fail
      go_ret
      refine ⟨?_, HB.out⟩
      have := HR.out.2.2
      rw [HK.out] at this
      rw [← HLE.out, this]; rfl

set_option maxRecDepth 100000 in
set_option maxHeartbeats 400000 in
theorem refSeal_calls (s : ByteArray) (w : World) (hs : s.size ≤ 140737488355328) :
    Calls Try.prog 17 #[.string s] w fun e w' => e = .returned (.string ⟨⟨wordL (sum s.data.toList) ++ s.data.toList⟩⟩) ∧ Below w.heap.size w w' := by
  have hlt := sum_lt s.data.toList
  have hr := refSum s w hs
  generalize sum s.data.toList = x at *
  have HR : Hid (Calls Try.prog 9 #[.string s] w fun e w' => e = .returned (.int .i64 (x : Int)) ∧ w' = w) := Lib.hid hr
  clear hr
  go_enter Try.func17, Try.ntmps17
  go_wp2_with fail
  refine HR.out.mono ?_
  rintro e w' ⟨rfl, rfl⟩
  go_wp2_with fail
  refine (num_calls x _ hlt).mono ?_
  rintro e w2 ⟨rfl, hb2⟩
  have HB2 := Lib.hid hb2
  clear hb2
  have hts : (⟨⟨wordL x⟩⟩ : ByteArray).size ≤ 4 := Nat.le_refl 4
  generalize hte : (⟨⟨wordL x⟩⟩ : ByteArray) = t at *
  have HTE := Lib.hid hte
  clear hte
  go_wp2_with fail
  go_ret
  refine ⟨?_, HB2.out⟩
  exact ret_text (by rw [append_bytes, ← HTE.out])
end Go.Proofs.Ytdhokdjmobmpoaa.Crc
