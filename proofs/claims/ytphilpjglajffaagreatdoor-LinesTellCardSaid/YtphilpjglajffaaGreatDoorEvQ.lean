/- Two operations that are apart change places. -/
import Derived.Test.YtphilpjglajffaaGreatDoorEvP
namespace Go.Ev

theorem veqN_eq : ∀ (d : Nat) (a b : Value), veqN d a b = true → a = b := by
  intro d
  induction d with
  | zero => intro a b h; simp [veqN] at h
  | succ d ih =>
    have many : ∀ xs ys : List Value, veqN.veqL d xs ys = true → xs = ys := by
      intro xs
      induction xs with
      | nil => intro ys h; cases ys with | nil => rfl | cons y ys => simp [veqN.veqL] at h
      | cons x xs ihx =>
        intro ys h
        cases ys with
        | nil => simp [veqN.veqL] at h
        | cons y ys =>
          simp only [veqN.veqL, Bool.and_eq_true] at h
          rw [ih x y h.1, ihx ys h.2]
    intro a b h
    unfold veqN at h
    split at h
    · simp at h; rw [h]
    · simp only [Bool.and_eq_true, decide_eq_true_eq] at h; rw [h.1, h.2]
    · rename_i s t
      have h := of_decide_eq_true h
      have : s = t := by apply ByteArray.ext; apply Array.ext'; exact h
      rw [this]
    · rfl
    · rw [of_decide_eq_true h]
    · simp only [Bool.and_eq_true] at h; rw [Nat.eq_of_beq_eq_true h.1, Nat.eq_of_beq_eq_true h.2]
    · simp only [Bool.and_eq_true, decide_eq_true_eq] at h; rw [h.1.1, Nat.eq_of_beq_eq_true h.1.2, Nat.eq_of_beq_eq_true h.2]
    · rfl
    · rfl
    · rfl
    · rename_i xs ys
      have := many _ _ h
      congr 1; apply Array.ext'; exact this
    · rename_i xs ys
      have := many _ _ h
      congr 1; apply Array.ext'; exact this
    · simp only [Bool.and_eq_true] at h; rw [Nat.eq_of_beq_eq_true h.1, ih _ _ h.2]
    · simp at h

section
variable {P : Program} {ro : Nat} {call : FuncId → List Value → H → Option (Value × H)} {ops : Array Oper} {base : Nat}

theorem val1_none {x : Option Value} {v : Value} {ob : Option AO} (h : val1 x = some (v, ob)) : ob = none := by
  unfold val1 at h
  split at h
  · simp only [Option.some.injEq, Prod.mk.injEq] at h; exact h.2.symm
  · simp at h

theorem neFlat_none {o : Oper} {ρ : Operand → Value} {v : Value} {ob : Option AO} (h : neFlat P o ρ = some (v, ob)) : ob = none := val1_none h

/-- operations on values make nothing -/
theorem evNE_zero {o : Oper} (hc : cls P o = 0) {nm : Nat} {h : H} {ρ : Operand → Value} {v : Value} {ob : Option AO} (he : evNE P nm h o ρ = some (v, ob)) : ob = none := by
  have fin : ∀ {a : Value}, (some (a, (none : Option AO)) = some (v, ob)) → ob = none := fun h => by simp only [Option.some.injEq, Prod.mk.injEq] at h; exact h.2.symm
  cases hop : o.op <;> simp only [cls, hop] at hc <;> simp only [evNE, hop] at he <;> first
    | (exfalso; simp at hc; done)
    | exact fin he
    | exact neFlat_none he
    | skip
  all_goals first
    | (unfold nePick at he; split at he <;> first | exact fin he | simp at he)
    | (unfold neNil at he; split at he <;> first | exact fin he | simp at he)
    | (unfold neUn at he; split at he <;> first | exact fin he | exact neFlat_none he)
    | (unfold neS2A at he; split at he <;> first | (split at he <;> first | exact fin he | simp at he) | simp at he)
    | (unfold neIface at he; split at he <;> first | exact fin he | simp at he)
    | (unfold neExtract at he; split at he <;> first | (split at he <;> first | exact fin he | simp at he) | simp at he)
    | (unfold neFieldAddr at he; split at he <;> first | (split at he <;> first | (split at he <;> first | exact fin he | simp at he) | simp at he) | simp at he)
    | (unfold neField at he; split at he <;> first | (split at he <;> first | exact val1_none he | simp at he) | simp at he)
    | (unfold neIndexAddr at he; split at he <;> first | (split at he <;> first | exact fin he | simp at he) | simp at he)
    | (unfold neBuild at he; split at he <;> first | (split at he <;> first | (split at he <;> first | exact fin he | simp at he) | simp at he) | simp at he)
    | (unfold neIndex at he; split at he <;> first | exact neFlat_none he | (split at he <;> first | (split at he <;> first | exact fin he | exact val1_none he | simp at he) | simp at he))
    | (unfold neBin neBin2 neEq at he
       split at he
       · split at he
         · exact fin he
         · split at he <;> first | exact fin he | exact neFlat_none he
       · split at he <;> first | exact fin he | exact neFlat_none he
       · split at he
         · exact neFlat_none he
         · split at he <;> first | exact fin he | simp at he)
    | (unfold neConv at he
       split at he
       · rename_i h1 h2 h3; simp [h1, h2] at hc
       · rename_i h1 h2 h3; simp [h1, h2] at hc
       · exact fin he
       · exact neFlat_none he)
    | (unfold neCall neLen neCap at he
       split at he
       · split at he
         · split at he <;> first | exact fin he | exact neFlat_none he
         · simp at he
       · split at he
         · split at he
           · split at he <;> first | exact fin he | simp at he
           · exact neFlat_none he
         · simp at he
       · exact neFlat_none he)

theorem cls_le (o : Oper) : cls P o = 0 ∨ cls P o = 1 ∨ cls P o = 2 ∨ cls P o = 3 := by
  unfold cls
  split <;> try simp
  · split <;> simp
  · split <;> simp

/-- what an operation's step is -/
inductive Kind (P : Program) (ro : Nat) (call : FuncId → List Value → H → Option (Value × H)) (ops : Array Oper) (nm : Nat) (o : Oper) (fr : T Value) (h : H) (v : Value) (h' : H) : Prop where
  | free (hh : h' = h) (all : ∀ k, stepVal P ro call ops nm o fr k = some (v, k))
  | new (ob : AO) (hw : wantV ops o fr = true) (hc : cls P o = 2) (hh : h' = h.put nm ob) (all : ∀ k, stepVal P ro call ops nm o fr k = some (v, k.put nm ob))
  | read (hw : wantV ops o fr = true) (hc : cls P o = 1) (hh : h' = h) (he : evNE P 0 h o (opd fr) = some (v, none)) (all : ∀ k, evNE P 0 k o (opd fr) = some (v, none) → stepVal P ro call ops nm o fr k = some (v, k))
  | eff (hw : wantV ops o fr = true) (hc : cls P o = 3) (he : evEff P ro call h o (opd fr) = some (v, h')) (all : ∀ k, stepVal P ro call ops nm o fr k = evEff P ro call k o (opd fr))

theorem stepVal_ne {nm : Nat} {o : Oper} {fr : T Value} (hw : wantV ops o fr = true) (hc : cls P o ≠ 3) (k : H) : stepVal P ro call ops nm o fr k = match evNE P nm k o (opd fr) with | some (v, ob) => some (v, putO k nm ob) | none => none := by
  unfold stepVal
  rw [hw]
  simp only
  rfl

theorem kind {nm : Nat} {o : Oper} {fr : T Value} {h : H} {v : Value} {h' : H} (hs : stepVal P ro call ops nm o fr h = some (v, h')) : Kind P ro call ops nm o fr h v h' := by
  cases hw : wantV ops o fr with
  | false =>
    unfold stepVal at hs
    rw [hw] at hs
    simp only [Option.some.injEq, Prod.mk.injEq] at hs
    obtain ⟨rfl, rfl⟩ := hs
    exact .free rfl fun k => by unfold stepVal; rw [hw]
  | true =>
    by_cases h3 : cls P o = 3
    · have all : ∀ k, stepVal P ro call ops nm o fr k = evEff P ro call k o (opd fr) := fun k => by unfold stepVal; rw [hw]; simp only [h3]
      rw [all h] at hs
      exact .eff hw h3 hs all
    · have all := fun k => stepVal_ne (P := P) (ro := ro) (call := call) (nm := nm) hw h3 k
      rw [all h] at hs
      split at hs
      · rename_i u ob hu
        simp only [Option.some.injEq, Prod.mk.injEq] at hs
        obtain ⟨rfl, rfl⟩ := hs
        by_cases h1 : cls P o = 1
        · obtain ⟨rfl, hr⟩ := evNE_read h1 0 hu
          refine .read hw h1 rfl hr fun k hk => ?_
          rw [all k, (evNE_read h1 nm hk).2]; rfl
        · have h02 : cls P o = 0 ∨ cls P o = 2 := by rcases cls_le (P := P) o with h | h | h | h <;> simp_all
          have fr : ∀ k, evNE P nm k o (opd fr) = some (u, ob) := fun k => by rw [← hu]; exact evNE_free _ _ h02 _ _
          cases ob with
          | none => exact .free rfl fun k => by rw [all k, fr k]; rfl
          | some ob =>
            have hc : cls P o = 2 := by
              rcases h02 with h0 | h2
              · have := evNE_zero h0 hu; simp at this
              · exact h2
            exact .new ob hw hc rfl fun k => by rw [all k, fr k]; rfl
      · simp at hs

/-- the places changed: first x and then i, or first i and then x -/
theorem swap_val (hcall : ∀ f args, EffOk (call f args)) {x i : Oper} {nx ni : Nat} (hne : nx ≠ ni) {h h1 h2 : H} (hf : Fresh h) (hni : ni < h.nx) (gi : h.get ni = none) {frx fri : T Value} {vx vi : Value}
    (hx : stepVal P ro call ops nx x frx h = some (vx, h1)) (hi : stepVal P ro call ops ni i fri h1 = some (vi, h2))
    (hp : cls P i = 1 ∨ cls P i = 3 → cls P x < 2)
    (hre : wantV ops i fri = true → cls P i = 3 → wantV ops x frx = true → cls P x = 1 → ∃ u, evNE P 0 h1 x (opd frx) = some (u, none) ∧ evNE P 0 h2 x (opd frx) = some (u, none)) :
    ∃ h1', stepVal P ro call ops ni i fri h = some (vi, h1') ∧ stepVal P ro call ops nx x frx h1' = some (vx, h2) ∧
      (wantV ops x frx = true → cls P x = 3 → (h1' = h ∧ h2 = h1) ∨ (∃ ob, h1' = h.put ni ob ∧ h2 = h1.put ni ob)) ∧ (wantV ops i fri = true → cls P i = 3 → h1 = h ∧ h1' = h2) := by
  have kx := kind hx
  rcases kind hi with ⟨hh, all⟩ | ⟨ob, hw, hc, hh, all⟩ | ⟨hw, hc, hh, he, all⟩ | ⟨hw, hc, he, all⟩
  · subst hh
    refine ⟨h, all h, hx, fun _ _ => .inl ⟨rfl, rfl⟩, fun hw hc => ?_⟩
    rcases kx with ⟨hh, _⟩ | ⟨_, _, hc', _, _⟩ | ⟨_, _, hh, _, _⟩ | ⟨_, hc', _, _⟩
    · exact ⟨hh, hh.symm⟩
    · have := hp (.inr hc); omega
    · exact ⟨hh, hh.symm⟩
    · have := hp (.inr hc); omega
  · subst hh
    refine ⟨h.put ni ob, all h, ?_, fun _ _ => .inr ⟨ob, rfl, rfl⟩, fun _ hc' => by omega⟩
    rcases kx with ⟨hh, allx⟩ | ⟨obx, _, _, hh, allx⟩ | ⟨_, _, hh, hex, allx⟩ | ⟨_, _, hex, allx⟩
    · subst hh; exact allx _
    · subst hh
      rw [allx, put_swap h ob obx (fun e => hne e.symm)]
    · subst hh
      exact allx _ (evNE_mono (mono_put ob (nm_lim hf hni) gi) hex)
    · rw [allx]
      exact (evEff_ok hcall x (opd frx) h vx h1 hf hex).2 ni ob hni gi
  · subst hh
    have hh : h2 = h := by
      rcases kx with ⟨hh, _⟩ | ⟨_, _, hc', _, _⟩ | ⟨_, _, hh, _, _⟩ | ⟨_, hc', _, _⟩
      · exact hh
      · have := hp (.inl hc); omega
      · exact hh
      · have := hp (.inl hc); omega
    subst hh
    exact ⟨h2, all _ he, hx, fun _ _ => .inl ⟨rfl, rfl⟩, fun _ hc' => by omega⟩
  · rcases kx with ⟨hh, allx⟩ | ⟨_, _, hc', _, _⟩ | ⟨hwx, hcx, hh, hex, allx⟩ | ⟨_, hc', _, _⟩
    · subst hh
      exact ⟨h2, hi, allx _, fun hwx hcx => by have := hp (.inr hc); omega, fun _ _ => ⟨rfl, rfl⟩⟩
    · have := hp (.inr hc); omega
    · subst hh
      obtain ⟨u, u1, u2⟩ := hre hw hc hwx hcx
      rw [hex] at u1
      simp only [Option.some.injEq, Prod.mk.injEq, and_true] at u1
      subst u1
      exact ⟨h2, hi, allx _ u2, fun _ hcx' => by omega, fun _ _ => ⟨rfl, rfl⟩⟩
    · have := hp (.inr hc); omega

/-! ### frames -/
noncomputable def setF (fr : T Value) (d : Option Tmp) (v : Value) : T Value :=
  match d with
  | none => fr
  | some d => T.put K fr d v

theorem putD_some {s s' : St} {d : Option Tmp} {v : Value} (h : putD s d v = some s') : s' = { s with fr := setF s.fr d v } ∧ ∀ t, d = some t → t < s.nt := by
  unfold putD at h
  split at h
  · simp only [Option.some.injEq] at h; subst h
    exact ⟨rfl, fun t ht => by simp at ht⟩
  · rename_i t
    split at h
    · rename_i hb
      simp only [Option.some.injEq] at h; subst h
      exact ⟨rfl, fun t' ht => by simp only [Option.some.injEq] at ht; subst ht; simpa using hb⟩
    · simp at h

theorem putD_of {s : St} {d : Option Tmp} (v : Value) (h : ∀ t, d = some t → t < s.nt) : putD s d v = some { s with fr := setF s.fr d v } := by
  cases d with
  | none => rfl
  | some t =>
    unfold putD
    have : Nat.blt t s.nt = true := by simpa using h t rfl
    simp only [this]
    rfl

theorem opd_set (fr : T Value) (d : Option Tmp) (v : Value) (t : Nat) (hd : ∀ t, d = some t → t < LIM) (h : d ≠ some t) : opd (setF fr d v) (.tmp t) = opd fr (.tmp t) := by
  cases d with
  | none => rfl
  | some d =>
    show (match (T.put K fr d v).get t with | some v => v | none => undef) = _
    rw [T.get_put v K fr d t (lim_ok (hd d rfl)), if_neg (fun e => h (by rw [e]))]
    rfl

theorem opd_set_same (fr : T Value) (d : Nat) (v : Value) (hd : d < LIM) : opd (setF fr (some d) v) (.tmp d) = v := by
  show (match (T.put K fr d v).get d with | some v => v | none => undef) = _
  rw [T.get_put v K fr d d (lim_ok hd), if_pos rfl]

theorem set_swap (fr : T Value) {d d' : Option Tmp} (v v' : Value) (h : ∀ t, d = some t → d' ≠ some t) : setF (setF fr d v) d' v' = setF (setF fr d' v') d v := by
  cases d with
  | none => rfl
  | some d =>
    cases d' with
    | none => rfl
    | some d' => exact T.put_comm v v' K fr d d' (fun e => h d rfl (by rw [e]))

theorem alike_set {o : Oper} (fr : T Value) (d : Option Tmp) (v : Value) (hd : ∀ t, d = some t → t < LIM) (h : ∀ t, d = some t → t ∉ o.looksAt ops) : Alike ops o (setF fr d v) fr := fun t ht =>
  opd_set fr d v t hd (fun e => h t e ht)

theorem step1_some {i : Nat} {o : Oper} {s s' : St} (h : step1 P ro call ops base i o s = some s') : ∃ v h', stepVal P ro call ops (base + i) o s.fr s.h = some (v, h') ∧ s' = { s with fr := setF s.fr o.dst v, h := h' } ∧ ∀ t, o.dst = some t → t < s.nt := by
  rw [step1_eq] at h
  split at h
  · rename_i v h' hv
    obtain ⟨h1, h2⟩ := putD_some h
    exact ⟨v, h', hv, h1, h2⟩
  · simp at h

theorem step1_of {i : Nat} {o : Oper} {s : St} {v : Value} {h' : H} (hv : stepVal P ro call ops (base + i) o s.fr s.h = some (v, h')) (hd : ∀ t, o.dst = some t → t < s.nt) : step1 P ro call ops base i o s = some { s with fr := setF s.fr o.dst v, h := h' } := by
  rw [step1_eq, hv]
  exact putD_of v hd

theorem swap_step (hcall : ∀ f args, EffOk (call f args)) {x i : Nat} {ox oi : Oper} (hne : x ≠ i) (hsx : ∀ cs b, ox.op ≠ .select cs b) (hsi : ∀ cs b, oi.op ≠ .select cs b) (hap : ox.apart ops oi = true) {s s1 s2 : St} (hf : Fresh s.h) (hnt : s.nt ≤ LIM)
    (hni : base + i < s.h.nx) (gi : s.h.get (base + i) = none) (hx : step1 P ro call ops base x ox s = some s1) (hi : step1 P ro call ops base i oi s1 = some s2) (hp : cls P oi = 1 ∨ cls P oi = 3 → cls P ox < 2)
    (hre : wantV ops oi s1.fr = true → cls P oi = 3 → wantV ops ox s.fr = true → cls P ox = 1 → ∃ u, evNE P 0 s1.h ox (opd s.fr) = some (u, none) ∧ evNE P 0 s2.h ox (opd s.fr) = some (u, none)) :
    ∃ s1', step1 P ro call ops base i oi s = some s1' ∧ step1 P ro call ops base x ox s1' = some s2 ∧ Alike ops ox s1'.fr s.fr ∧ Alike ops oi s1.fr s.fr ∧
      (wantV ops ox s.fr = true → cls P ox = 3 → (s1'.h = s.h ∧ s2.h = s1.h) ∨ (∃ ob, s1'.h = s.h.put (base + i) ob ∧ s2.h = s1.h.put (base + i) ob)) ∧ (wantV ops oi s.fr = true → cls P oi = 3 → s1.h = s.h ∧ s1'.h = s2.h) := by
  obtain ⟨vx, h1, ex, rfl, dx⟩ := step1_some hx
  obtain ⟨vi, h2, ei, rfl, di⟩ := step1_some hi
  obtain ⟨a1, a2, a3⟩ := Oper.apart_spec hap
  have dxl : ∀ t, ox.dst = some t → t < LIM := fun t ht => Nat.lt_of_lt_of_le (dx t ht) hnt
  have dil : ∀ t, oi.dst = some t → t < LIM := fun t ht => Nat.lt_of_lt_of_le (di t ht) hnt
  have al1 : Alike ops oi (setF s.fr ox.dst vx) s.fr := alike_set s.fr ox.dst vx dxl a1
  have ei' : stepVal P ro call ops (base + i) oi s.fr h1 = some (vi, h2) := by rw [← stepVal_congr hsi al1]; exact ei
  have hw : wantV ops oi (setF s.fr ox.dst vx) = wantV ops oi s.fr := al1.want
  obtain ⟨h1', e1, e2, e3, e4⟩ := swap_val hcall (x := ox) (i := oi) (nx := base + x) (ni := base + i) (by omega) hf hni gi ex ei' hp (fun q1 q2 q3 q4 => hre (by show wantV ops oi (setF s.fr ox.dst vx) = true; rw [hw]; exact q1) q2 q3 q4)
  have al2 : Alike ops ox (setF s.fr oi.dst vi) s.fr := alike_set s.fr oi.dst vi dil a3
  refine ⟨{ s with fr := setF s.fr oi.dst vi, h := h1' }, step1_of e1 di, ?_, al2, al1, e3, e4⟩
  have e2' : stepVal P ro call ops (base + x) ox (setF s.fr oi.dst vi) h1' = some (vx, h2) := by rw [stepVal_congr hsx al2]; exact e2
  rw [step1_of (s := { s with fr := setF s.fr oi.dst vi, h := h1' }) e2' dx]
  simp only
  rw [set_swap s.fr vx vi (fun t ht => a2 t ht)]

end
end Go.Ev
