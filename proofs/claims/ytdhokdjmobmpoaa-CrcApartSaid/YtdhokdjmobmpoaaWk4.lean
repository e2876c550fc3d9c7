/- Walk of Table.Sum over a slice of texts that lies in memory. -/
import Derived.Test.YtdhokdjmobmpoaaWk3
import Derived.Lib.SliceRun
namespace Go.Proofs.Ytdhokdjmobmpoaa.Crc
open Go.RowKit

theorem one_still (B x : Nat) (c : Int) (b : Nat) (w : World) (hc : c = (b : Int)) (hx : x < 4294967296) (hb : b < 256) (ht : Tab w B) :
    Calls Try.prog 20 #[.pointer (some ⟨B, 0, none⟩), .int .u32 (x : Int), .int .u8 c] w fun e w' => e = .returned (.int .u32 ((sts 8 (x ^^^ b) : Nat) : Int)) ∧ w' = w := by
  subst hc
  exact (one_calls B x b w hx hb ht).mono fun _ _ ⟨h1, h2⟩ => ⟨h1, h2.symm⟩

/-- the bytes of texts, one behind the other -/
def cat (ss : List ByteArray) : List UInt8 := (ss.map fun s => s.data.toList).flatten

theorem cat_take_succ (ss : List ByteArray) (k : Nat) (h : k < ss.length) : cat (ss.take (k + 1)) = cat (ss.take k) ++ (ss[k]).data.toList := by
  unfold cat
  rw [List.take_succ_eq_append_getElem h, List.map_append, List.flatten_append]
  simp

theorem ext_list (r : ByteArray) (k : Nat) : (r.extract k r.size).data.toList = r.data.toList.drop k := by
  rw [ByteArray.data_extract]
  simp only [Array.toList_extract, List.extract_eq_take_drop]
  exact List.take_of_length_le (by simp)

theorem four_any : ∀ (l : List UInt8) (h : 4 ≤ l.length), l = l[0] :: l[1] :: l[2] :: l[3] :: l.drop 4
  | _ :: _ :: _ :: _ :: _, _ => rfl

theorem four_list (r : ByteArray) (h : 4 ≤ r.size) : r.data.toList = r[0] :: r[1] :: r[2] :: r[3] :: (r.extract 4 r.size).data.toList := by
  rw [ext_list]
  exact four_any r.data.toList (by simpa using h)

theorem fold_ext (x : Nat) (r : ByteArray) (h : 4 ≤ r.size) :
    fold (sts 32 (x ^^^ word4 r[0].toNat r[1].toNat r[2].toNat r[3].toNat)) (r.extract 4 r.size).data.toList = fold x r.data.toList := by
  rw [four_list r h, fold_four]

theorem ext_size (r : ByteArray) (k : Nat) : (r.extract k r.size).size = r.size - k := by
  simp [ByteArray.size_extract]

theorem fold_take_succ (y : Nat) (r : ByteArray) (j : Nat) (h : j < r.size) :
    fold y (r.data.toList.take (j + 1)) = sts 8 (fold y (r.data.toList.take j) ^^^ r[j].toNat) := by
  rw [List.take_succ_eq_append_getElem (by simpa using h), fold_append]
  rfl

theorem drews {w w' : World} (h : ∃ n, w' = w.drewN n) (m : Nat) : ∃ n, w'.drewN m = w.drewN n := by
  obtain ⟨n, rfl⟩ := h
  exact ⟨_, World.drewN_drewN _ _ _⟩

theorem ret_int {a b : Int} (h : a = b) : Ending.returned (.int .i64 a) = .returned (.int .i64 b) := by rw [h]

theorem not_sum (l : List UInt8) : wrap64 (Go.bits .xor .u32 IntKind.u32.max ((fold 4294967295 l : Nat) : Int)) = ((sum l : Nat) : Int) := by
  have h := fold_le l
  have e := u32_xor_nat 4294967295 (fold 4294967295 l) (by decide) (by omega)
  rw [show IntKind.u32.max = ((4294967295 : Nat) : Int) from rfl, e, ← compl_eq _ h]
  unfold sum wrap64
  omega

theorem Tab.drewN {w : World} {B : Nat} (h : Tab w B) (n : Nat) : Tab (w.drewN n) B := h

set_option maxRecDepth 100000 in
set_option maxHeartbeats 400000 in
theorem sum_some (B b off cap : Nat) (ss : List ByteArray) (w : World) (ht : Tab w B)
    (hlen : ss.length ≤ 140737488355328) (hsz : ∀ s ∈ ss, s.size ≤ 140737488355328) (hs : ∀ i (h : i < ss.length), w.cell? ⟨b, off + i, none⟩ = some (.string ss[i])) :
    Calls Try.prog 12 #[.pointer (some ⟨B, 0, none⟩), .slice (some ⟨b, off, none⟩) ss.length cap] w fun e w' => e = .returned (.int .i64 ((sum (cat ss) : Nat) : Int)) ∧ ∃ n, w' = w.drewN n := by
  have HT := Lib.hid ht
  have HS := Lib.hid hs
  have HZ := Lib.hid hsz
  clear ht hs hsz
  go_enter Try.func12, Try.ntmps12
  go_wp2
  go_loopw [5, 13] (fun x i wr => ∃ k : Nat, k ≤ ss.length ∧ i = .int .i64 k ∧ x = .int .u32 ((fold 4294967295 (cat (ss.take k)) : Nat) : Int) ∧ ∃ n, wr = w.drewN n) (fun _ i _ => ss.length - (intOf i).toNat)
  case atStart => exact ⟨0, by omega, rfl, rfl, 0, rfl⟩
  case round =>
    obtain ⟨k, hk, rfl, rfl, nd, rfl⟩ := hrel
    have hX := fold_lt (cat (ss.take k)) (r := 4294967295) (by decide)
    by_cases hlt : k < ss.length
    · have hcell := HS.out k hlt
      have hss := HZ.out ss[k] (List.getElem_mem _)
      have hct := cat_take_succ ss k hlt
      have HC := Lib.hid hct
      clear hct
      generalize hXe : fold 4294967295 (cat (ss.take k)) = X at *
      have HX := Lib.hid hXe
      clear hXe
      generalize ss[k] = s at *
      have d3 : decide ((k : Int) < (ss.length : Int)) = true := by simp; omega
      go_wp2
      obtain ⟨wo, hwo⟩ : ∃ wo : World, wo = w.drewN nd := ⟨_, rfl⟩
      have HWO := Lib.hid hwo
      rw [← hwo]
      clear hwo
      go_loopw [5, 7] (fun x s' wr => ∃ (y : Nat) (r : ByteArray), y < 4294967296 ∧ x = .int .u32 (y : Int) ∧ s' = .string r ∧ r.size ≤ s.size ∧ Hid (fold y r.data.toList = fold X s.data.toList) ∧ ∃ n, wr = w.drewN n) (fun _ s' _ => match s' with | .string r => r.size | _ => 0)
      case atStart => exact ⟨X, s, hX, rfl, rfl, Nat.le_refl _, Lib.hid rfl, nd, HWO.out⟩
      case round =>
        clear HWO
        obtain ⟨y, r, hy, rfl, rfl, hr, HE, n2, rfl⟩ := hrel
        by_cases h4 : 4 ≤ r.size
        · have d4 : decide ((4 : Int) ≤ (r.size : Int)) = true := by simp; omega
          go_wp2_with fail
          refine (four_calls B y r _ hy h4 (HT.out.drewN _)).mono ?_
          rintro e w' ⟨rfl, n3, rfl⟩
          go_wp2
          go_roundw
          case rel =>
            exact ⟨_, _, sts_lt 32 (Nat.xor_lt_two_pow (n := 32) hy (word4_lt _ _ _ _ r[0].toNat_lt r[1].toNat_lt r[2].toNat_lt r[3].toNat_lt)), rfl, rfl, by rw [ext_size]; omega, Lib.hid (by rw [fold_ext y r h4, HE.out]), _, rfl⟩
          case measure => simp only [ext_size]; omega
        · have d4 : decide ((4 : Int) ≤ (r.size : Int)) = false := by simp; omega
          go_wp2
          obtain ⟨wo, hwo⟩ : ∃ wo : World, wo = w.drewN n2 := ⟨_, rfl⟩
          have HWO := Lib.hid hwo
          rw [← hwo]
          clear hwo
          go_loopw [5, 30] (fun x i wr => ∃ j : Nat, j ≤ r.size ∧ i = .int .i64 j ∧ x = .int .u32 ((fold y (r.data.toList.take j) : Nat) : Int) ∧ ∃ n, wr = w.drewN n) (fun _ i _ => r.size - (intOf i).toNat)
          case atStart => exact ⟨0, by omega, rfl, rfl, n2, HWO.out⟩
          case round =>
            clear HWO
            obtain ⟨j, hj, rfl, rfl, hw4⟩ := hrel
            have HTr : Hid (Tab wr B) := by obtain ⟨n, rfl⟩ := hw4; exact HT.out.drewN n
            have HW4 := Lib.hid hw4
            clear hw4
            have hz : fold y (r.data.toList.take j) < 4294967296 := fold_lt _ hy
            by_cases hjl : j < r.size
            · have hst := fold_take_succ y r j hjl
              have HST := Lib.hid hst
              clear hst
              generalize fold y (r.data.toList.take j) = z at *
              have hjI : (j : Int) < (r.size : Int) := by omega
              have hbb := r[j].toNat_lt
              have d5 : decide ((j : Int) < (r.size : Int)) = true := by simp; omega
              go_wp2_with fail
              go_quiet ((go_at_call 20; exact Calls.quiet_of_same (one_still B z _ r[j].toNat _ rfl hz hbb (HTr.out.drewN _))))
              go_wp2
              go_roundw
              case rel => exact ⟨j + 1, by omega, by go_num, by rw [HST.out], drews HW4.out _⟩
              case measure => simp [intOf]; omega
            · have d5 : decide ((j : Int) < (r.size : Int)) = false := by simp; omega
              have HJ := Lib.hid (show j = r.size by omega)
              go_wp2
              go_roundw
              case rel =>
                refine ⟨k + 1, by omega, by go_num, ?_, HW4.out⟩
                rw [HC.out, fold_append, HX.out, ← HE.out, HJ.out, List.take_of_length_le (by simp)]
              case measure => simp [intOf]; omega
    · have hk2 : k = ss.length := by omega
      have HK := Lib.hid hk2
      clear hk2
      have d3 : decide ((k : Int) < (ss.length : Int)) = false := by simp; omega
      rw [HK.out, List.take_of_length_le (Nat.le_refl _)]
      go_wp2
      go_ret
      exact ⟨ret_int (not_sum _), nd, rfl⟩

end Go.Proofs.Ytdhokdjmobmpoaa.Crc
