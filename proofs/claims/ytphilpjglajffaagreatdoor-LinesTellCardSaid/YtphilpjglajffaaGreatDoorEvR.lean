/- A run in the chosen order: an operation that waits for nothing more is pulled to the front. -/
import Derived.Test.YtphilpjglajffaaGreatDoorEvQ
namespace Go.Ev

abbrev Ent := Nat × Oper × T Value

def EntEq (a b : Ent) : Prop := a.1 = b.1 ∧ a.2.1 = b.2.1 ∧ (∀ cs bl, b.2.1.op ≠ .select cs bl) ∧ ∀ y ∈ b.2.1.op.operands, opd a.2.2 y = opd b.2.2 y
def AccLe (acc acc' : List Ent) : Prop := ∀ e' ∈ acc', ∃ e ∈ acc, EntEq e e'

section
variable {P : Program} {ro : Nat} {call : FuncId → List Value → H → Option (Value × H)} {ops : Array Oper} {base : Nat} {bs : List Nat}

theorem recheck_mem {h h' : H} {bef : Nat} {acc : List Ent} (hr : recheck P h h' bef acc = true) {i : Nat} {o : Oper} {fr : T Value} (he : (i, o, fr) ∈ acc) (hb : bit bef i = false) : ∃ u, evNE P 0 h o (opd fr) = some (u, none) ∧ evNE P 0 h' o (opd fr) = some (u, none) := by
  unfold recheck at hr
  have := List.all_eq_true.1 hr _ he
  simp only [hb, Bool.false_or] at this
  split at this
  · rename_i v v' h1 h2
    have := veqN_eq _ _ _ this
    subst this
    exact ⟨v, h1, h2⟩
  · simp at this

theorem recheck_of {h h' : H} {bef : Nat} {acc : List Ent} (hr : ∀ i o fr, (i, o, fr) ∈ acc → bit bef i = true ∨ ∃ v v', evNE P 0 h o (opd fr) = some (v, none) ∧ evNE P 0 h' o (opd fr) = some (v', none) ∧ veqN 5 v v' = true) : recheck P h h' bef acc = true := by
  unfold recheck
  rw [List.all_eq_true]
  rintro ⟨i, o, fr⟩ he
  rcases hr i o fr he with h1 | ⟨v, v', h1, h2, h3⟩
  · simp [h1]
  · simp only [h1, h2, h3, Bool.or_true]

theorem recheck_split {h h' : H} {bef : Nat} {acc : List Ent} (hr : recheck P h h' bef acc = true) {i : Nat} {o : Oper} {fr : T Value} (he : (i, o, fr) ∈ acc) : bit bef i = true ∨ ∃ v v', evNE P 0 h o (opd fr) = some (v, none) ∧ evNE P 0 h' o (opd fr) = some (v', none) ∧ veqN 5 v v' = true := by
  unfold recheck at hr
  have := List.all_eq_true.1 hr _ he
  simp only [Bool.or_eq_true] at this
  rcases this with h1 | h1
  · exact .inl h1
  · right
    split at h1
    · rename_i v v' e1 e2
      exact ⟨v, v', e1, e2, h1⟩
    · simp at h1

theorem recheck_le {h h' : H} {bef : Nat} {acc acc' : List Ent} (hl : AccLe acc acc') (hr : recheck P h h' bef acc = true) : recheck P h h' bef acc' = true := by
  refine recheck_of fun i o fr he => ?_
  obtain ⟨⟨j, oo, fr2⟩, he2, e1, e2, e3, e4⟩ := hl _ he
  simp only at e1 e2 e3 e4
  subst e1 e2
  rcases recheck_split hr he2 with h1 | ⟨v, v', h1, h2, h3⟩
  · exact .inl h1
  · exact .inr ⟨v, v', by rw [← evNE_congr e3 e4]; exact h1, by rw [← evNE_congr e3 e4]; exact h2, h3⟩

theorem recheck_mono {h h' k k' : H} {bef : Nat} {acc : List Ent} (m : Mono h k) (m' : Mono h' k') (hr : recheck P h h' bef acc = true) : recheck P k k' bef acc = true := by
  refine recheck_of fun i o fr he => ?_
  rcases recheck_split hr he with h1 | ⟨v, v', h1, h2, h3⟩
  · exact .inl h1
  · exact .inr ⟨v, v', evNE_mono m h1, evNE_mono m' h2, h3⟩

noncomputable def accN (P : Program) (ops : Array Oper) (i : Nat) (o : Oper) (fr : T Value) (acc : List Ent) : List Ent :=
  match wantV ops o fr with
  | false => acc
  | true => match cls P o with
    | 1 => (i, o, fr) :: acc
    | _ => acc

theorem accN_eq (i : Nat) (o : Oper) (fr : T Value) (acc : List Ent) : accN P ops i o fr acc = if wantV ops o fr = true ∧ cls P o = 1 then (i, o, fr) :: acc else acc := by
  unfold accN
  cases wantV ops o fr with
  | false => simp
  | true =>
    simp only [true_and]
    split
    · rename_i h; simp [h]
    · rename_i h; rw [if_neg h]

theorem accN_drop (i : Nat) (o : Oper) (fr : T Value) (acc : List Ent) (hsel : ∀ e ∈ acc, ∀ cs b, e.2.1.op ≠ .select cs b) : AccLe (accN P ops i o fr acc) acc := by
  intro e he
  refine ⟨e, ?_, rfl, rfl, hsel e he, fun _ _ => rfl⟩
  rw [accN_eq]
  split
  · exact List.mem_cons_of_mem _ he
  · exact he

theorem runSeq_cons {i : Nat} {r : List Nat} {acc : List Ent} {s sf : St} (h : runSeq P ro call ops base bs (i :: r) acc s = some sf) :
    ∃ o s', ops[i]? = some o ∧ step1 P ro call ops base i o s = some s' ∧ (wantV ops o s.fr = true → cls P o = 3 → recheck P s.h s'.h (bs.getD i 0) acc = true) ∧ runSeq P ro call ops base bs r (accN P ops i o s.fr acc) s' = some sf := by
  unfold runSeq at h
  split at h
  · simp at h
  · rename_i o ho
    split at h
    · simp at h
    · rename_i s' hs
      refine ⟨o, s', ho, hs, ?_⟩
      rw [accN_eq]
      split at h
      · rename_i hw
        rw [hw]
        exact ⟨fun h => by simp at h, by simpa using h⟩
      · rename_i hw
        rw [hw]
        split at h
        · rename_i hc
          split at h
          · rename_i hr
            exact ⟨fun _ _ => hr, by simpa [hc] using h⟩
          · simp at h
        · rename_i hc
          exact ⟨fun _ h3 => by omega, by simpa [hc] using h⟩
        · have n1 : ¬ cls P o = 1 := by assumption
          have n3 : ¬ cls P o = 3 := by assumption
          exact ⟨fun _ h3 => absurd h3 n3, by simpa [n1] using h⟩

theorem runSeq_of {i : Nat} {r : List Nat} {acc : List Ent} {s s' sf : St} {o : Oper} (ho : ops[i]? = some o) (hs : step1 P ro call ops base i o s = some s') (hr : wantV ops o s.fr = true → cls P o = 3 → recheck P s.h s'.h (bs.getD i 0) acc = true)
    (h : runSeq P ro call ops base bs r (accN P ops i o s.fr acc) s' = some sf) : runSeq P ro call ops base bs (i :: r) acc s = some sf := by
  unfold runSeq
  simp only [ho, hs]
  rw [accN_eq] at h
  split
  · rename_i hw
    rw [hw] at h; simpa using h
  · rename_i hw
    rw [hw] at h
    split
    · rename_i hc
      rw [hr hw hc]
      simpa [hc] using h
    · rename_i hc
      simpa [hc] using h
    · have n1 : ¬ cls P o = 1 := by assumption
      simpa [n1] using h

theorem accN_le {i : Nat} {o : Oper} {fr fr' : T Value} {acc acc' : List Ent} (hs : ∀ cs b, o.op ≠ .select cs b) (hal : Alike ops o fr fr') (hl : AccLe acc acc') : AccLe (accN P ops i o fr acc) (accN P ops i o fr' acc') := by
  rw [accN_eq, accN_eq, hal.want]
  split
  · intro e he
    rcases List.mem_cons.1 he with rfl | he
    · exact ⟨(i, o, fr), List.mem_cons_self .., rfl, rfl, hs, hal.opds⟩
    · obtain ⟨e0, h0, h1⟩ := hl e he
      exact ⟨e0, List.mem_cons_of_mem _ h0, h1⟩
  · exact hl

theorem runSeq_le (hsel : ∀ (j : Nat) (o : Oper), ops[j]? = some o → ∀ cs b, o.op ≠ .select cs b) : ∀ (r : List Nat) {acc acc' : List Ent} {s sf : St}, AccLe acc acc' → runSeq P ro call ops base bs r acc s = some sf → runSeq P ro call ops base bs r acc' s = some sf
  | [], _, _, _, _, _, h => h
  | i :: r, acc, acc', s, sf, hl, h => by
    obtain ⟨o, s', ho, hs, hr, hn⟩ := runSeq_cons h
    exact runSeq_of ho hs (fun h1 h2 => recheck_le hl (hr h1 h2)) (runSeq_le hsel r (accN_le (hsel i o ho) (fun _ _ => rfl) hl) hn)

/-- what a step leaves -/
theorem step_fwd (hcall : ∀ f args, EffOk (call f args)) {i : Nat} {o : Oper} {s s' : St} (hf : Fresh s.h) (hi : base + i < s.h.nx) (h : step1 P ro call ops base i o s = some s') :
    Fresh s'.h ∧ s.h.nx ≤ s'.h.nx ∧ s'.nt = s.nt ∧ (∀ b, b < s.h.nx → b ≠ base + i → (s'.h.get b).isSome = (s.h.get b).isSome) ∧ (∀ b, (s.h.get b).isSome = true → (s'.h.get b).isSome = true) := by
  obtain ⟨v, h', hv, rfl, _⟩ := step1_some h
  rcases kind hv with ⟨hh, _⟩ | ⟨ob, _, _, hh, _⟩ | ⟨_, _, hh, _, _⟩ | ⟨_, _, he, _⟩
  · subst hh; exact ⟨hf, Nat.le_refl _, rfl, fun _ _ _ => rfl, fun _ h => h⟩
  · subst hh
    have hl := nm_lim hf hi
    refine ⟨⟨fun b hb => ?_, hf.lim⟩, Nat.le_refl _, rfl, fun b hb hne => ?_, fun b hb => ?_⟩
    · have hb : s.h.nx ≤ b := hb
      show (s.h.put _ _).get b = none
      rw [H.get_put_other hl _ (by omega)]; exact hf.none b hb
    · show ((s.h.put _ _).get b).isSome = _
      rw [H.get_put_other hl _ hne]
    · show ((s.h.put _ _).get b).isSome = true
      rw [H.get_put hl]
      split
      · rfl
      · exact hb
  · subst hh; exact ⟨hf, Nat.le_refl _, rfl, fun _ _ _ => rfl, fun _ h => h⟩
  · have := (evEff_ok hcall o (opd s.fr) s.h v h' hf he).1
    refine ⟨this.fresh, this.nx, rfl, fun b hb _ => this.same b hb, fun b hb => ?_⟩
    obtain ⟨x, hx⟩ := Option.isSome_iff_exists.1 hb
    show (h'.get b).isSome = true
    rw [this.same b (hf.lt hx)]; exact hb

theorem isSome_none {α : Type} {x y : Option α} (h : x.isSome = y.isSome) (hy : y = none) : x = none := by
  rw [hy] at h; cases x with | none => rfl | some a => simp at h

/-- the step that waits for nothing more may come first -/
theorem pull (hcall : ∀ f args, EffOk (call f args)) (hsel : ∀ (j : Nat) (o : Oper), ops[j]? = some o → ∀ cs b, o.op ≠ .select cs b) {i : Nat} {post : List Nat} {sf : St} : ∀ (pre : List Nat) {acc : List Ent} {s : St}, Fresh s.h → s.nt ≤ LIM → base + i < s.h.nx → s.h.get (base + i) = none →
    (∀ x ∈ pre, x ≠ i ∧ base + x < s.h.nx ∧ bit (bs.getD i 0) x = false ∧ ∀ ox oi, ops[x]? = some ox → ops[i]? = some oi → pairOk P ops ox oi = true) → (∀ e ∈ acc, ∀ cs b, e.2.1.op ≠ .select cs b) →
    runSeq P ro call ops base bs (pre ++ i :: post) acc s = some sf →
    ∃ oi s1, ops[i]? = some oi ∧ step1 P ro call ops base i oi s = some s1 ∧ runSeq P ro call ops base bs (pre ++ post) acc s1 = some sf ∧ (wantV ops oi s.fr = true → cls P oi = 3 → recheck P s.h s1.h (bs.getD i 0) acc = true)
  | [], acc, s, hf, hnt, hni, gi, hpre, hacc, h => by
    obtain ⟨o, s', ho, hs, hr, hn⟩ := runSeq_cons h
    exact ⟨o, s', ho, hs, runSeq_le hsel _ (accN_drop i o s.fr acc hacc) hn, hr⟩
  | x :: pre, acc, s, hf, hnt, hni, gi, hpre, hacc, h => by
    obtain ⟨ox, sx, hox, hsx, hrx, hn⟩ := runSeq_cons h
    obtain ⟨hxi, hxn, hbx, hpk⟩ := hpre x (List.mem_cons_self ..)
    obtain ⟨fx, nx, ntx, same, _⟩ := step_fwd hcall hf hxn hsx
    have selx := hsel x ox hox
    have hacc2 : ∀ e ∈ accN P ops x ox s.fr acc, ∀ cs b, e.2.1.op ≠ .select cs b := by
      intro e he
      rw [accN_eq] at he
      split at he
      · rcases List.mem_cons.1 he with rfl | he
        · exact selx
        · exact hacc e he
      · exact hacc e he
    obtain ⟨oi, s2, hoi, hsi, hrun, hri⟩ := pull hcall hsel pre (acc := accN P ops x ox s.fr acc) (s := sx) fx (by rw [ntx]; exact hnt) (Nat.lt_of_lt_of_le hni nx)
      (isSome_none (same _ hni (by omega)) gi)
      (fun y hy => by
        obtain ⟨q1, q2, q3, q4⟩ := hpre y (List.mem_cons_of_mem _ hy)
        exact ⟨q1, Nat.lt_of_lt_of_le q2 nx, q3, q4⟩) hacc2 hn
    have hpo := hpk ox oi hox hoi
    unfold pairOk at hpo
    rw [Bool.and_eq_true] at hpo
    obtain ⟨hpc, hap⟩ := hpo
    have hp : cls P oi = 1 ∨ cls P oi = 3 → cls P ox < 2 := by
      intro hc
      rcases hc with hc | hc <;> (rw [hc] at hpc; simpa using hpc)
    obtain ⟨s1', e1, e2, al2, al1, e3, e4⟩ := swap_step hcall hxi selx (hsel i oi hoi) hap hf hnt hni gi hsx hsi hp (by
      intro q1 q2 q3 q4
      have hr := hri q1 q2
      refine recheck_mem hr (i := x) (o := ox) (fr := s.fr) ?_ hbx
      rw [accN_eq, if_pos ⟨q3, q4⟩]
      exact List.mem_cons_self ..)
    refine ⟨oi, s1', hoi, e1, ?_, ?_⟩
    · refine runSeq_of hox e2 (fun q1 q2 => ?_) (runSeq_le hsel _ (accN_le selx (fun t ht => (al2 t ht).symm) (fun e he => ⟨e, he, rfl, rfl, hacc e he, fun _ _ => rfl⟩)) hrun)
      have hwx : wantV ops ox s.fr = true := by rw [← al2.want]; exact q1
      rcases e3 hwx q2 with ⟨r1, r2⟩ | ⟨ob, r1, r2⟩
      · rw [r1, r2]; exact hrx hwx q2
      · rw [r1, r2]
        exact recheck_mono (mono_put ob (nm_lim hf hni) gi) (mono_put ob (nm_lim hf hni) (isSome_none (same _ hni (by omega)) gi)) (hrx hwx q2)
    · intro q1 q2
      obtain ⟨r1, r2⟩ := e4 q1 q2
      have := hri (by rw [al1.want]; exact q1) q2
      rw [r1, ← r2] at this
      exact recheck_le (accN_drop x ox s.fr acc hacc) this

end
end Go.Ev
