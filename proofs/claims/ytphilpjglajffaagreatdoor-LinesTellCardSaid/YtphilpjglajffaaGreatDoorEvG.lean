/- The evaluator's operations on values: arithmetic, comparisons, conversions, parts of structs, addresses. -/
import Derived.Test.YtphilpjglajffaaGreatDoorEvF
import Derived.Laws.BytesArg
import Derived.Lib.ConvBytes
import Derived.Laws.Strings
namespace Go.Ev
open Go.RowKit (Below)

section
variable {P : Program} {ro : Nat} {w0 : World} {f g : Nat → Nat} {h : H} {w : World} {nm : Nat} {ρ ρc : Operand → Value} {o : Oper}

theorem isAgg_run {t : TypeId} {b : Bool} (hb : isAggT P t = some b) : (isAgg t).run P w = .ok b w := by
  unfold isAggT at hb
  unfold isAgg
  split at hb
  · rename_i fs hu
    simp only [Option.some.injEq] at hb; subst hb
    simp [run_underlying hu]
  · rename_i n e hu
    simp only [Option.some.injEq] at hb; subst hb
    simp [run_underlying hu]
  · rename_i d hd1 hd2 hu
    simp only [Option.some.injEq] at hb; subst hb
    simp only [Sem.run_bind, run_underlying hu, Result.andThen_ok]
    cases d <;> first | rfl | (exact absurd hu (hd1 _)) | (exact absurd hu (hd2 _ _))
  · simp at hb

theorem sizeOf_run {t : TypeId} {n : Nat} (hn : szOf P t = some n) : (sizeOf t).run P w = .ok n w := by
  unfold szOf at hn
  rw [Option.map_eq_some_iff] at hn
  obtain ⟨i, hi, rfl⟩ := hn
  simp [sizeOf, typeInfo, program, hi, Sem.run]

theorem evLoad_run (r : RelH P ro w0 f g h w) {t : TypeId} {a : Addr} {v : Value} (he : evLoad P h t a = some v) :
    (loadVar t (adr f a)).run P w = .ok (ren f g v) w ∧ okV ro h v := by
  unfold evLoad at he
  split at he
  · rename_i hag
    split at he
    · rename_i n hn
      split at he
      · rename_i l hl
        simp only [Option.some.injEq] at he; subst he
        refine ⟨?_, arr_ok (r.ldOk hl)⟩
        rw [ren_arr]
        simp only [loadVar, Sem.run_bind, isAgg_run hag, Result.andThen_ok, if_true, sizeOf_run hn, r.loadedRun hl]
        rfl
      · simp at he
    · simp at he
  · rename_i hag
    split at he
    · rename_i u hl
      simp only [Option.some.injEq] at he; subst he
      refine ⟨?_, r.ldOk hl u (by simp)⟩
      have hc := r.loaded hl 0 (ren f g u) (by simp)
      have hz : (adr f a).add 0 = adr f a := by simp [Addr.add]
      rw [hz] at hc
      simp [loadVar, isAgg_run hag, hc]
    · simp at he
  · simp at he

theorem sim_load (r : RelH P ro w0 f g h w) {t : TypeId} {x : Operand} (ho : o.op = .load t x) (hx : ρc x = ren f g (ρ x) ∧ okV ro h (ρ x)) {v : Value} {ob : Option AO} (he : neLoad P h t (ρ x) = some (v, ob)) :
    SimV P ro w0 f g h nm w (execOp ρc o) v ob := by
  unfold neLoad at he
  split at he
  · rename_i a ha
    unfold val1 at he
    split at he
    · rename_i u hu
      simp only [Option.some.injEq, Prod.mk.injEq] at he
      obtain ⟨rfl, rfl⟩ := he
      obtain ⟨h1, h2⟩ := evLoad_run r hu
      refine .same r ?_ h2
      have hc : ρc x = .pointer (some (adr f a)) := by rw [hx.1, ha, ren_pointer]
      simp [execOp, ho, hc, Instr.loadAt, Instr.sureAddr, h1]
    · simp at he
  · simp at he

theorem sim_nil (r : RelH P ro w0 f g h w) {x : Operand} (ho : o.op = .nilCheck x) (hx : ρc x = ren f g (ρ x) ∧ okV ro h (ρ x)) {v : Value} {ob : Option AO} (he : neNil (ρ x) = some (v, ob)) :
    SimV P ro w0 f g h nm w (execOp ρc o) v ob := by
  unfold neNil at he
  split at he
  · rename_i a ha
    simp only [Option.some.injEq, Prod.mk.injEq] at he
    obtain ⟨rfl, rfl⟩ := he
    rw [ha] at hx
    have hc := hx.1
    rw [ren_pointer] at hc
    exact .same r (by rw [ren_pointer]; simp [execOp, ho, hc]) hx.2
  · rename_i fi a b ha
    simp only [Option.some.injEq, Prod.mk.injEq] at he
    obtain ⟨rfl, rfl⟩ := he
    rw [ha] at hx
    have hc := hx.1
    rw [ren_func] at hc
    exact .same r (by rw [ren_func]; simp [execOp, ho, hc]) hx.2
  · rename_i t u ha
    simp only [Option.some.injEq, Prod.mk.injEq] at he
    obtain ⟨rfl, rfl⟩ := he
    rw [ha] at hx
    have hc := hx.1
    rw [ren_iface] at hc
    exact .same r (by rw [ren_iface]; simp [execOp, ho, hc]) hx.2
  · simp at he

theorem sim_pick (r : RelH P ro w0 f g h w) {c a b : Operand} (ho : o.op = .pick c a b) (hc : ρc c = ren f g (ρ c) ∧ okV ro h (ρ c)) (ha : ρc a = ren f g (ρ a) ∧ okV ro h (ρ a)) (hb : ρc b = ren f g (ρ b) ∧ okV ro h (ρ b))
    {v : Value} {ob : Option AO} (he : nePick (ρ c) (ρ a) (ρ b) = some (v, ob)) : SimV P ro w0 f g h nm w (execOp ρc o) v ob := by
  unfold nePick at he
  split at he
  · rename_i h1
    simp only [Option.some.injEq, Prod.mk.injEq] at he
    obtain ⟨rfl, rfl⟩ := he
    rw [h1, ren_bool] at hc
    exact .same r (by simp [execOp, ho, hc.1, asBool, ha.1]) ha.2
  · rename_i h1
    simp only [Option.some.injEq, Prod.mk.injEq] at he
    obtain ⟨rfl, rfl⟩ := he
    rw [h1, ren_bool] at hc
    exact .same r (by simp [execOp, ho, hc.1, asBool, hb.1]) hb.2
  · simp at he

theorem okInt (k : IntKind) (n : Int) : okV ro h (.int k n) := by unfold okV; rw [all_int]; trivial
theorem okBool (b : Bool) : okV ro h (.bool b) := by unfold okV; rw [all_bool]; trivial
theorem okStr (s : ByteArray) : okV ro h (.string s) := by unfold okV; rw [all_string]; trivial

/-! ### integers -/
theorem wrap_mbits (k : IntKind) (n : Nat) (hn : n < 2 ^ mbits k) : k.wrap (n : Int) = (n : Int) := by
  have e8 : (2 : Int) ^ 8 = 256 := by decide
  cases k <;> simp only [mbits] at hn <;> simp [IntKind.wrap, IntKind.bits, IntKind.signed] <;> (try split) <;> omega

theorem mbits_le (k : IntKind) : mbits k ≤ k.bits := by cases k <;> decide

theorem ofInt_nat (k : IntKind) (n : Nat) (hn : n < 2 ^ mbits k) : (BitVec.ofInt k.bits (n : Int)).toNat = n := by
  rw [BitVec.ofInt_natCast, BitVec.toNat_ofNat]
  exact Nat.mod_eq_of_lt (Nat.lt_of_lt_of_le hn (Nat.pow_le_pow_right (by decide) (mbits_le k)))

theorem intBits_run (k : IntKind) (x y : Nat) (hx : x < 2 ^ mbits k) (hy : y < 2 ^ mbits k) :
    (Op.intBits .and k x y).run P w = .ok (.int k ((Nat.land x y : Nat) : Int)) w ∧ (Op.intBits .or k x y).run P w = .ok (.int k ((Nat.lor x y : Nat) : Int)) w ∧
    (Op.intBits .xor k x y).run P w = .ok (.int k ((Nat.xor x y : Nat) : Int)) w := by
  have h1 : x &&& y < 2 ^ mbits k := Nat.and_lt_two_pow _ hy
  have h2 : x ||| y < 2 ^ mbits k := Nat.or_lt_two_pow hx hy
  have h3 : x ^^^ y < 2 ^ mbits k := Nat.xor_lt_two_pow hx hy
  refine ⟨?_, ?_, ?_⟩
  · simp only [Op.intBits, Sem.run_pure, BitVec.toNat_and, ofInt_nat k x hx, ofInt_nat k y hy]
    rw [wrap_mbits k _ h1]; rfl
  · simp only [Op.intBits, Sem.run_pure, BitVec.toNat_or, ofInt_nat k x hx, ofInt_nat k y hy]
    rw [wrap_mbits k _ h2]; rfl
  · simp only [Op.intBits, Sem.run_pure, BitVec.toNat_xor, ofInt_nat k x hx, ofInt_nat k y hy]
    rw [wrap_mbits k _ h3]; rfl

theorem bitOp_some {k : IntKind} {fn : Nat → Nat → Nat} {a b : Int} {v : Value} (he : bitOp k fn a b = some v) :
    ∃ x y : Nat, a = x ∧ b = y ∧ x < 2 ^ mbits k ∧ y < 2 ^ mbits k ∧ v = .int k ((fn x y : Nat) : Int) := by
  unfold bitOp at he
  split at he
  · rename_i x y
    split at he
    · rename_i hx hy
      simp only [Option.some.injEq] at he
      exact ⟨x, y, rfl, rfl, by simpa using hx, by simpa using hy, he.symm⟩
    · simp at he
  · simp at he

/-- the program's operation on two integers of one kind -/
theorem intOp_run {op : BinOp} {k : IntKind} {t : TypeId} {a b : Int} {v : Value} (he : intOp op k a b = some v) :
    (binOp op t (.int k a) (.int k b)).run P w = .ok v w ∧ flat v = true := by
  unfold intOp at he
  split at he
  all_goals first
    | (simp only [Option.some.injEq] at he; subst he; exact ⟨by simp [binOp, Op.intArith, Op.intCmp], rfl⟩)
    | skip
  · split at he
    · rename_i n
      simp only [Option.some.injEq] at he; subst he
      refine ⟨?_, rfl⟩
      simp [binOp, Op.intDiv]
      intro hz; omega
    · simp at he
  · split at he
    · rename_i n
      simp only [Option.some.injEq] at he; subst he
      refine ⟨?_, rfl⟩
      simp [binOp, Op.intDiv]
      intro hz; omega
    · simp at he
  · obtain ⟨x, y, rfl, rfl, hx, hy, rfl⟩ := bitOp_some he
    exact ⟨by simpa [binOp] using (intBits_run k x y hx hy).1, rfl⟩
  · obtain ⟨x, y, rfl, rfl, hx, hy, rfl⟩ := bitOp_some he
    exact ⟨by simpa [binOp] using (intBits_run k x y hx hy).2.1, rfl⟩
  · obtain ⟨x, y, rfl, rfl, hx, hy, rfl⟩ := bitOp_some he
    exact ⟨by simpa [binOp] using (intBits_run k x y hx hy).2.2, rfl⟩
  · simp at he

theorem shOp_run {op : BinOp} {k l : IntKind} {t : TypeId} {a b : Int} {v : Value} (he : shOp op k a b = some v) :
    (binOp op t (.int k a) (.int l b)).run P w = .ok v w ∧ flat v = true := by
  unfold shOp at he
  split at he
  · unfold shl1 at he
    split at he
    · rename_i x n
      split at he
      · rename_i hn
        have hn := Nat.le_of_ble_eq_true hn
        simp only [Option.some.injEq] at he; subst he
        refine ⟨?_, rfl⟩
        have h0 : ¬ ((n : Int) < 0) := by omega
        have hm : min n k.bits = n := Nat.min_eq_left hn
        simp only [binOp, Op.shift, Int.ofNat_eq_natCast]
        rw [if_neg h0, Int.toNat_natCast, hm]
        simp
      · simp at he
    · simp at he
  · unfold shr1 at he
    split at he
    · rename_i x n
      split at he
      · rename_i hn
        have hn := Nat.le_of_ble_eq_true hn
        simp only [Option.some.injEq] at he; subst he
        refine ⟨?_, rfl⟩
        have h0 : ¬ ((n : Int) < 0) := by omega
        have hm : min n k.bits = n := Nat.min_eq_left hn
        simp only [binOp, Op.shift, Int.ofNat_eq_natCast]
        rw [if_neg h0, Int.toNat_natCast, hm]
        simp [Int.fdiv_eq_ediv_of_nonneg _ (show (0 : Int) ≤ 2 ^ n from by exact_mod_cast Nat.zero_le _)]
      · simp at he
    · simp at he
  · simp at he

theorem eqL_iff : ∀ a b : List UInt8, eqL a b = (a == b)
  | [], [] => rfl
  | [], _ :: _ => rfl
  | _ :: _, [] => rfl
  | a :: x, b :: y => by
    unfold eqL
    split
    · rename_i hb
      have : a = b := UInt8.toNat_inj.1 (Nat.eq_of_beq_eq_true hb)
      subst this
      rw [eqL_iff x y]; simp
    · rename_i hb
      have : ¬ a = b := fun e => by subst e; simp at hb
      simp [this]

theorem bytes_toList (s : ByteArray) : s.toList = s.data.toList := by
  exact ByteArray.toList_eq s

theorem strOp_run {op : BinOp} {t : TypeId} {a b : ByteArray} {v : Value} (he : strOp op a b = some v) :
    (binOp op t (.string a) (.string b)).run P w = .ok v w ∧ flat v = true := by
  unfold strOp at he
  split at he
  · split at he
    · rename_i hb
      have hb := Nat.le_of_ble_eq_true hb
      simp only [Option.some.injEq] at he; subst he
      refine ⟨?_, rfl⟩
      have h1 : ¬ (((a.size + b.size : Nat) : Int) > IntKind.i64.max) := by
        have : IntKind.i64.max = 9223372036854775807 := rfl
        omega
      have h2 : a ++ b = ⟨⟨a.data.toList ++ b.data.toList⟩⟩ := by
        apply ByteArray.ext; apply Array.ext'; simp
      simp only [binOp, Op.stringOp, h1, if_false, h2]
      rfl
    · simp at he
  · simp only [Option.some.injEq] at he; subst he
    exact ⟨by simp [binOp, Op.stringOp, bytes_toList, eqL_iff], rfl⟩
  · simp only [Option.some.injEq] at he; subst he
    exact ⟨by simp [binOp, Op.stringOp, bytes_toList, eqL_iff], rfl⟩
  · simp at he


theorem eqGuard_plain (op : BinOp) (t : TypeId) (x y : Operand) (a b : Value) (h1 : ¬ (a = .nilIface ∧ b = .nilIface)) (h2 : ∀ c d, ¬ (a = .agg c ∧ b = .agg d)) :
    (eqGuard op t x y a b).run P w = .ok () w := by
  unfold eqGuard
  split
  all_goals simp only [Bool.not_true, Bool.not_false, Bool.false_eq_true, if_false, if_true]
  all_goals first
    | rfl
    | (split
       · exact absurd ⟨rfl, rfl⟩ h1
       · exact absurd ⟨rfl, rfl⟩ (h2 _ _)
       · rfl)

theorem bin_run {op : BinOp} {t yt : TypeId} {x y : Operand} (ho : o.op = .binOp op t x y yt) {v : Value} (h1 : ¬ (ρc x = .nilIface ∧ ρc y = .nilIface)) (h2 : ∀ c d, ¬ (ρc x = .agg c ∧ ρc y = .agg d))
    (hrun : (binOp op t (ρc x) (ρc y)).run P w = .ok v w) : (execOp ρc o).run P w = .ok (.value v) w := by
  simp [execOp, ho, eqGuard_plain op t x y _ _ h1 h2, hrun]

theorem evEq_run {t : TypeId} {a b : Value} {z : Bool} (f g : Nat → Nat) (he : evEq P t a b = some z) :
    (Op.equal t (ren f g a) (ren f g b)).run P w = .ok z w ∧ ¬ (ren f g a = .nilIface ∧ ren f g b = .nilIface) ∧ (∀ c d, ¬ (ren f g a = .agg c ∧ ren f g b = .agg d)) ∧
    (∀ op, op = .eql ∨ op = .neq → binOp op t (ren f g a) (ren f g b) = match op with | .eql => (do pure (.bool (← Op.equal t (ren f g a) (ren f g b)))) | _ => (do pure (.bool (!(← Op.equal t (ren f g a) (ren f g b)))))) := by
  have hd : ∀ d x y, (Op.equalIn (d + 1) t x y).run P w = .ok z w → (∀ x y, (Op.equalIn (d + 1) t x y).run P w = .ok z w → d = 9999 → (Op.equal t x y).run P w = .ok z w) := by
    intro d _ _ _ x y h1 h2; subst h2; exact h1
  suffices H : (∀ d, (Op.equalIn (d + 1) t (ren f g a) (ren f g b)).run P w = .ok z w) ∧ ¬ (ren f g a = .nilIface ∧ ren f g b = .nilIface) ∧ (∀ c d, ¬ (ren f g a = .agg c ∧ ren f g b = .agg d)) ∧
      (∀ op, op = .eql ∨ op = .neq → binOp op t (ren f g a) (ren f g b) = match op with | .eql => (do pure (.bool (← Op.equal t (ren f g a) (ren f g b)))) | _ => (do pure (.bool (!(← Op.equal t (ren f g a) (ren f g b)))))) from
    ⟨hd 9999 _ _ (H.1 9999) _ _ (H.1 9999) rfl, H.2⟩
  unfold evEq at he
  split at he
  all_goals first
    | (rename_i hu
       simp only [Option.some.injEq] at he; subst he
       first
         | (rw [ren_pointer, ren_nilptr]; refine ⟨fun d => by simp [Op.equalIn, run_underlying hu], by simp, by simp, ?_⟩; rintro op (rfl | rfl) <;> rfl)
         | (rw [ren_slice, ren_nilslice]; refine ⟨fun d => by simp [Op.equalIn, run_underlying hu], by simp, by simp, ?_⟩; rintro op (rfl | rfl) <;> rfl)
         | (rw [ren_func, ren_nilFunc]; refine ⟨fun d => by simp [Op.equalIn, run_underlying hu], by simp, by simp, ?_⟩; rintro op (rfl | rfl) <;> rfl)
         | (rw [ren_iface, ren_nilIface]; refine ⟨fun d => by simp [Op.equalIn, run_underlying hu], by simp, by simp, ?_⟩; rintro op (rfl | rfl) <;> rfl))
    | (simp at he; done)

theorem sim_bin (r : RelH P ro w0 f g h w) (hop : Opds ro h f g ρ ρc o) {op : BinOp} {t yt : TypeId} {x y : Operand} (ho : o.op = .binOp op t x y yt) {v : Value} {ob : Option AO}
    (he : neBin P o ρ op t (ρ x) (ρ y) = some (v, ob)) : SimV P ro w0 f g h nm w (execOp ρc o) v ob := by
  have hs : ∀ cs b, o.op ≠ .select cs b := by rw [ho]; simp
  have hx := hop x (by rw [ho]; simp [Op.operands])
  have hy := hop y (by rw [ho]; simp [Op.operands])
  unfold neBin at he
  split at he
  · rename_i k a l b ha hb
    rw [ha, ren_int] at hx
    rw [hb, ren_int] at hy
    split at he
    · rename_i u hu
      simp only [Option.some.injEq, Prod.mk.injEq] at he
      obtain ⟨rfl, rfl⟩ := he
      obtain ⟨h1, h2⟩ := shOp_run (P := P) (w := w) (t := t) (l := l) hu
      refine .same r ?_ (flat_ok h2 ro h)
      rw [flat_id h2]
      exact bin_run ho (by rw [hx.1]; simp) (by rw [hx.1]; simp) (by rw [hx.1, hy.1]; exact h1)
    · split at he
      · rename_i u hk hu
        simp only [Option.some.injEq, Prod.mk.injEq] at he
        obtain ⟨rfl, rfl⟩ := he
        have hkl : k = l := of_decide_eq_true hk
        subst hkl
        obtain ⟨h1, h2⟩ := intOp_run (P := P) (w := w) (t := t) hu
        refine .same r ?_ (flat_ok h2 ro h)
        rw [flat_id h2]
        exact bin_run ho (by rw [hx.1]; simp) (by rw [hx.1]; simp) (by rw [hx.1, hy.1]; exact h1)
      · exact flat_sim r hop hs he
  · rename_i a b ha hb
    rw [ha, ren_string] at hx
    rw [hb, ren_string] at hy
    split at he
    · rename_i u hu
      simp only [Option.some.injEq, Prod.mk.injEq] at he
      obtain ⟨rfl, rfl⟩ := he
      obtain ⟨h1, h2⟩ := strOp_run (P := P) (w := w) (t := t) hu
      refine .same r ?_ (flat_ok h2 ro h)
      rw [flat_id h2]
      exact bin_run ho (by rw [hx.1]; simp) (by rw [hx.1]; simp) (by rw [hx.1, hy.1]; exact h1)
    · exact flat_sim r hop hs he
  · unfold neBin2 at he
    split at he
    · exact flat_sim r hop hs he
    · unfold neEq at he
      split at he
      · rename_i b hb
        simp only [Option.some.injEq, Prod.mk.injEq] at he
        obtain ⟨rfl, rfl⟩ := he
        obtain ⟨h1, h2, h3, h4⟩ := evEq_run (w := w) f g hb
        refine .same r ?_ (okBool b)
        rw [ren_bool]
        refine bin_run ho (by rw [hx.1, hy.1]; exact h2) (by rw [hx.1, hy.1]; exact h3) ?_
        rw [hx.1, hy.1, h4 _ (.inl rfl)]
        simp [h1]
      · rename_i b hb
        simp only [Option.some.injEq, Prod.mk.injEq] at he
        obtain ⟨rfl, rfl⟩ := he
        obtain ⟨h1, h2, h3, h4⟩ := evEq_run (w := w) f g hb
        refine .same r ?_ (okBool _)
        rw [ren_bool]
        refine bin_run ho (by rw [hx.1, hy.1]; exact h2) (by rw [hx.1, hy.1]; exact h3) ?_
        rw [hx.1, hy.1, h4 _ (.inr rfl)]
        simp [h1]
      · simp at he

theorem sim_un (r : RelH P ro w0 f g h w) (hop : Opds ro h f g ρ ρc o) {op : UnOp} {t : TypeId} {x : Operand} (ho : o.op = .unOp op t x) {v : Value} {ob : Option AO}
    (he : neUn P o ρ op (ρ x) = some (v, ob)) : SimV P ro w0 f g h nm w (execOp ρc o) v ob := by
  have hs : ∀ cs b, o.op ≠ .select cs b := by rw [ho]; simp
  have hx := hop x (by rw [ho]; simp [Op.operands])
  unfold neUn at he
  split at he
  · rename_i b hb
    simp only [Option.some.injEq, Prod.mk.injEq] at he
    obtain ⟨rfl, rfl⟩ := he
    rw [hb, ren_bool] at hx
    exact .same r (by rw [ren_bool]; simp [execOp, ho, hx.1, Op.unary]) (okBool _)
  · exact flat_sim r hop hs he

theorem bytesV_ren (s : ByteArray) (f g : Nat → Nat) : (bytesV s).map (ren f g) = bytesV s := by
  unfold bytesV
  rw [List.map_map]
  exact List.map_congr_left fun b _ => ren_int f g _ _

theorem bytesV_ok (s : ByteArray) : ∀ v ∈ bytesV s, okV ro h v := by
  intro v hv
  unfold bytesV at hv
  obtain ⟨b, _, rfl⟩ := List.mem_map.1 hv
  exact okInt _ _

theorem bytesV_length (s : ByteArray) : (bytesV s).length = s.size := by simp [bytesV]

/-- what '[]byte(s)' makes: some capacity, the bytes ahead, the mark behind them -/
theorem conv_run {src dst e : TypeId} {s : ByteArray} {u : TypeDesc} (hs : P.underlying src = some u) (hd : P.underlying dst = some (.slice e)) (he : P.underlying e = some (.int .u8)) (hsz : s.size ≤ 1048576) :
    ∃ (y : Nat) (rest : List Value) (fz : Nat × Nat), (convert src dst (.string s)).run P w = .ok (.slice (some ⟨w.heap.size, 0, none⟩) s.size y) (w.drew.alloc (.cells (bytesV s ++ rest).toArray e fz)) ∧
      y = s.size + rest.length ∧ freeTo fz (s.size + rest.length) ∧ y < BIG := by
  have hge := grownCap_ge w s.size 0 e
  have hle := grownCap_le_maxLen w s.size 0 e (by unfold maxLen; omega)
  have hrun := Lib.run_convert_string_bytes (P := P) w src dst e s hs hd he
  refine ⟨grownCap w s.size 0 e, List.replicate (grownCap w s.size 0 e - s.size) (Value.int .u8 0), (grownCap w s.size 0 e, grownCap w s.size 0 e + 1), ?_, by simp; omega, ?_, by unfold maxLen at hle; unfold BIG; omega⟩
  · rw [hrun]
    have hc : Lib.bytesCells w e s = (bytesV s ++ List.replicate (grownCap w s.size 0 e - s.size) (Value.int .u8 0)).toArray := by
      unfold Lib.bytesCells bytesV
      apply Array.ext'
      simp
    have hl : (Lib.bytesCells w e s).size = grownCap w s.size 0 e := by rw [hc]; simp [bytesV]; omega
    unfold Lib.bytesWorld
    rw [hl, hc]
    congr 1
    unfold World.freeze
    simp only [Nat.succ_ne_zero, if_false]
    have : ∀ (hp : Array Obj) (o : Obj) (k : Obj → Obj), (hp.push o).modify hp.size k = hp.push (k o) := by
      intro hp o k
      apply Array.ext_getElem?
      intro i
      rw [Array.getElem?_modify, Array.getElem?_push, Array.getElem?_push]
      by_cases hi : i = hp.size
      · subst hi; simp
      · rw [if_neg hi, if_neg (fun h => hi h.symm), if_neg hi]
    show World.mk _ _ _ _ _ = World.mk _ _ _ _ _
    congr 1
    exact this w.heap _ _
  · intro j hj
    simp at hj ⊢
    omega

theorem sim_convS (r : RelH P ro w0 f g h w) (hr : ro ≤ nm) (hl : nm < LIM) (hn : h.get nm = none) {src dst e : TypeId} {x : Operand} {s : ByteArray} {u : TypeDesc} (ho : o.op = .convert src dst x) (hx : ρc x = .string s)
    (hs : P.underlying src = some u) (hd : P.underlying dst = some (.slice e)) {v : Value} {ob : Option AO} (he : neConvS P nm e s = some (v, ob)) :
    SimV P ro w0 f g h nm w (execOp ρc o) v ob := by
  unfold neConvS at he
  split at he
  · rename_i hue hsz
    have hsz : ∃ i, P.info? e = some i ∧ i.size = 1 := by
      unfold szOf at hsz; rw [Option.map_eq_some_iff] at hsz; exact hsz
    split at he
    · rename_i hb
      have hb := Nat.le_of_ble_eq_true hb
      simp only [Option.some.injEq, Prod.mk.injEq] at he
      obtain ⟨rfl, rfl⟩ := he
      obtain ⟨y, rest, fz, hrun, hy, hfz, hB⟩ := conv_run (w := w) hs hd hue hb
      obtain ⟨i, hi, hi1⟩ := hsz
      refine SimV.made hr hl hn (w1 := w.drew) (y := y) _ r.drew ?_ (.grow (bytesV s) e rest fz i y hi (by omega) (by rw [hi1, bytesV_length]; omega) (by rw [bytesV_length]; exact hfz) hB) ?_ (new_slice nm hl _ _ _)
      · rw [ren_newG, bytesV_ren]
        simp only [execOp, ho, hx, Sem.run_bind, hrun]
        rfl
      · intro c e' hc u hu
        have : c = bytesV s := by rcases hc with h | h <;> simp at h; exact h.1.symm
        subst this
        exact bytesV_ok s u hu
    · simp at he
  · simp at he

end
end Go.Ev
