/- Events: what they are; walks of the small functions. -/
import Derived.Test.YtphilpjglajffaaGreatDoorLw6
import Derived.Laws.RangeString
namespace Go.Proofs.YtphilpjglajffaaGreatDoor.Lin
open Go.RowKit

/-- a slice -/
structure Sl where
  a : Option Addr
  n : Nat
  c : Nat
/-- an event -/
structure Raw where
  kind : Int
  q : Int
  n : Int
  pos : Int
  lack : Int
  topic : ByteArray
  group : ByteArray
  tag : ByteArray
  key : ByteArray
  body : ByteArray
  ks : Sl
  ts : Sl
  ps : Sl
  sync : Bool
def Raw.cells (r : Raw) : List Value :=
  [.int .i64 r.kind, .int .i64 r.q, .int .i64 r.n, .int .i64 r.pos, .int .i64 r.lack, .string r.topic, .string r.group, .string r.tag, .string r.key, .string r.body,
   .slice r.ks.a r.ks.n r.ks.c, .slice r.ts.a r.ts.n r.ts.c, .slice r.ps.a r.ps.n r.ps.c, .bool r.sync]
def Raw.val (r : Raw) : Value := .agg r.cells.toArray

theorem ret_bool {a b : Bool} (h : a = b) : Ending.returned (.bool a) = .returned (.bool b) := by rw [h]
theorem ret_int {a b : Int} (h : a = b) : Ending.returned (.int .i64 a) = .returned (.int .i64 b) := by rw [h]

def signI (c : Int) : Bool := (decide (97 ≤ c) && decide (c ≤ 122)) || (decide (48 ≤ c) && decide (c ≤ 57)) || decide (c = 45)

theorem sign_calls (c : Int) (w : World) : Calls Tryz.prog 87 #[.int .i32 c] w fun e w' => e = .returned (.bool (signI c)) ∧ w' = w := by
  unfold signI
  by_cases h1 : 97 ≤ c <;> by_cases h2 : c ≤ 122 <;> by_cases h3 : 48 ≤ c <;> by_cases h4 : c ≤ 57 <;> by_cases h5 : c = 45
  all_goals first | (exfalso; omega) | skip
  all_goals
    go_enter Tryz.func87, Tryz.ntmps87
    go_wp2
    all_goals first | (exfalso; omega) | (go_ret; refine ⟨ret_bool ?_, rfl⟩; (rw [Bool.eq_iff_iff]) <;> (first | (simp; done) | (simp; omega)))

theorem unsign_calls (c : Int) (w : World) : Calls Tryz.prog 86 #[.int .i32 c] w fun e w' => e = .returned (.bool (!signI c)) ∧ w' = w := by
  go_enter Tryz.func86, Tryz.ntmps86
  go_wp2_with fail
  refine (sign_calls c _).mono ?_
  rintro e w3 ⟨rfl, rfl⟩
  go_wp2_with fail
  go_ret
  exact ⟨rfl, rfl⟩

def farI (n : Int) : Bool := decide (n < -1099511627776) || decide (1099511627776 < n)
theorem far_calls (n : Int) (w : World) : Calls Tryz.prog 71 #[.int .i64 n] w fun e w' => e = .returned (.bool (farI n)) ∧ w' = w := by
  unfold farI
  by_cases h1 : n < -1099511627776 <;> by_cases h2 : 1099511627776 < n
  all_goals
    go_enter Tryz.func71, Tryz.ntmps71
    go_wp2
    all_goals first | (exfalso; omega) | (go_ret; refine ⟨ret_bool ?_, rfl⟩; simp [h1, h2])

def badB (k : ByteArray) : Bool := decide (k.size = 0) || decide (300 < k.size)
theorem is_empty (k : ByteArray) : k.toList.isEmpty = decide (k.size = 0) := by
  rw [ByteArray.toList_eq, ← ByteArray.size_data, ← Array.length_toList]
  cases k.data.toList <;> simp
theorem bad_calls (k : ByteArray) (w : World) : Calls Tryz.prog 40 #[.string k] w fun e w' => e = .returned (.bool (badB k)) ∧ w' = w := by
  unfold badB
  by_cases h1 : k.size = 0 <;> by_cases h2 : 300 < k.size
  all_goals
    have hne := is_empty k
    simp only [h1, decide_true, decide_false] at hne
    have h3 : (300 < (k.size : Int)) = (300 < k.size) := by simp; omega
    simp only [h2] at h3
    go_enter Tryz.func40, Tryz.ntmps40
    go_wp2
    all_goals first | (exfalso; omega) | (go_ret; refine ⟨ret_bool ?_, rfl⟩; simp [h1, h2])

def plainW (t : ByteArray) : ByteArray := if t.size = 0 then ⟨#[46]⟩ else t
theorem plain_calls (t : ByteArray) (w : World) : Calls Tryz.prog 47 #[.string t] w fun e w' => e = .returned (.string (plainW t)) ∧ w' = w := by
  unfold plainW
  by_cases h1 : t.size = 0
  all_goals
    have hne := is_empty t
    simp only [h1, decide_true, decide_false] at hne
    simp only [h1, if_true, if_false]
    go_enter Tryz.func47, Tryz.ntmps47
    go_wp2
    all_goals first | (exfalso; omega) | (go_ret; exact ⟨rfl, rfl⟩)

end Go.Proofs.YtphilpjglajffaaGreatDoor.Lin
