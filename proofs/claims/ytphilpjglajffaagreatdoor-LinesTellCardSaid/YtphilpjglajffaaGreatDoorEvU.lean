/- Regions, code, calls, evaluated: they keep apart from what they did not know. -/
import Derived.Test.YtphilpjglajffaaGreatDoorEvT
namespace Go.Ev

noncomputable def St.putH (s : St) (nm : Nat) (ob : AO) : St := { s with h := s.h.put nm ob }

section
variable {P : Program} {ro : Nat} {call : FuncId → List Value → H → Option (Value × H)} {ops : Array Oper} {base : Nat} {bs : List Nat}

theorem step_frame (heff : ∀ f args, EffOk (call f args)) {i : Nat} {o : Oper} {s s' : St} (hf : Fresh s.h) (hi : base + i < s.h.nx) (he : step1 P ro call ops base i o s = some s') (nm : Nat) (ob : AO) (hnm : nm < base) (hg : s.h.get nm = none) :
    step1 P ro call ops base i o (s.putH nm ob) = some (s'.putH nm ob) ∧ s'.h.get nm = none := by
  obtain ⟨_, nx, _, same, _⟩ := step_fwd heff hf hi he
  have hlt : nm < s.h.nx := by omega
  refine ⟨?_, isSome_none (same nm hlt (by omega)) hg⟩
  obtain ⟨v, h', hv, rfl, hd⟩ := step1_some he
  have hv2 : stepVal P ro call ops (base + i) o s.fr (s.h.put nm ob) = some (v, h'.put nm ob) := by
    rcases kind hv with ⟨hh, all⟩ | ⟨ob2, _, _, hh, all⟩ | ⟨_, _, hh, hex, all⟩ | ⟨_, _, hex, all⟩
    · subst hh; exact all _
    · subst hh
      rw [all, put_swap s.h ob ob2 (show nm ≠ base + i by omega)]
    · subst hh; exact all _ (evNE_mono (mono_put ob (nm_lim hf hlt) hg) hex)
    · rw [all]; exact (evEff_ok heff o (opd s.fr) s.h v h' hf hex).2 nm ob hlt hg
  exact step1_of (s := s.putH nm ob) hv2 hd

theorem text_ok (heff : ∀ f args, EffOk (call f args)) {sf : St} : ∀ (l : List Oper) (i : Nat) {s : St}, Fresh s.h → base + (i + l.length) ≤ s.h.nx → runText P ro call ops base i l s = some sf →
    Fresh sf.h ∧ s.h.nx ≤ sf.h.nx ∧ sf.nt = s.nt ∧ (∀ b, b < base → (sf.h.get b).isSome = (s.h.get b).isSome) ∧
    ∀ nm ob, nm < base → s.h.get nm = none → runText P ro call ops base i l (s.putH nm ob) = some (sf.putH nm ob)
  | [], i, s, hf, _, he => by
    simp only [runText, Option.some.injEq] at he
    subst he
    exact ⟨hf, Nat.le_refl _, rfl, fun _ _ => rfl, fun _ _ _ _ => rfl⟩
  | o :: l, i, s, hf, hnx, he => by
    unfold runText at he
    split at he
    · rename_i s1 h1
      have hlen : (o :: l).length = l.length + 1 := rfl
      rw [hlen] at hnx
      have hi : base + i < s.h.nx := by omega
      obtain ⟨ff, nx, ntx, same, _⟩ := step_fwd heff hf hi h1
      obtain ⟨a1, a2, a3, a4, a5⟩ := text_ok heff l (i + 1) ff (by omega) he
      refine ⟨a1, Nat.le_trans nx a2, a3.trans ntx, fun b hb => (a4 b hb).trans (same b (by omega) (by omega)), fun nm ob hnm hg => ?_⟩
      obtain ⟨f1, f2⟩ := step_frame heff hf hi h1 nm ob hnm hg
      unfold runText
      rw [f1]
      exact a5 nm ob hnm f2
    · simp at he

theorem seq_ok (heff : ∀ f args, EffOk (call f args)) {sf : St} : ∀ (L : List Nat) {acc : List Ent} {s : St}, Fresh s.h → (∀ i ∈ L, base + i < s.h.nx) → runSeq P ro call ops base bs L acc s = some sf →
    Fresh sf.h ∧ s.h.nx ≤ sf.h.nx ∧ sf.nt = s.nt ∧ (∀ b, b < base → (sf.h.get b).isSome = (s.h.get b).isSome) ∧
    ∀ nm ob, nm < base → s.h.get nm = none → runSeq P ro call ops base bs L acc (s.putH nm ob) = some (sf.putH nm ob)
  | [], acc, s, hf, _, he => by
    simp only [runSeq, Option.some.injEq] at he
    subst he
    exact ⟨hf, Nat.le_refl _, rfl, fun _ _ => rfl, fun _ _ _ _ => rfl⟩
  | i :: L, acc, s, hf, hL, he => by
    obtain ⟨o, s1, ho, h1, hr, hn⟩ := runSeq_cons he
    have hi := hL i (List.mem_cons_self ..)
    obtain ⟨ff, nx, ntx, same, _⟩ := step_fwd heff hf hi h1
    obtain ⟨a1, a2, a3, a4, a5⟩ := seq_ok heff L ff (fun j hj => Nat.lt_of_lt_of_le (hL j (List.mem_cons_of_mem _ hj)) nx) hn
    refine ⟨a1, Nat.le_trans nx a2, a3.trans ntx, fun b hb => (a4 b hb).trans (same b (by omega) (by omega)), fun nm ob hnm hg => ?_⟩
    obtain ⟨f1, f2⟩ := step_frame heff hf hi h1 nm ob hnm hg
    have hlt : nm < s.h.nx := by omega
    exact runSeq_of ho f1 (fun q1 q2 => recheck_mono (mono_put ob (nm_lim hf hlt) hg) (mono_put ob (nm_lim ff (Nat.lt_of_lt_of_le hlt nx)) f2) (hr q1 q2)) (a5 nm ob hnm f2)

/-- what planned means -/
theorem lin_spec : ∀ (L seen : List Nat), linOk ops L seen = true → (∀ x ∈ L, x ∉ seen ∧ x < ops.size ∧ ¬ waits ops x x ∧ ∀ i, waits ops x i → i ∈ seen ∨ i ∈ L) ∧ L.Pairwise (fun x i => x ≠ i ∧ ¬ waits ops x i)
  | [], seen, _ => ⟨by simp, List.Pairwise.nil⟩
  | x :: L, seen, h => by
    unfold linOk at h
    simp only [Bool.and_eq_true] at h
    obtain ⟨⟨h1, h2⟩, h3⟩ := h
    have hns : x ∉ seen := by simpa using h1
    split at h2
    · rename_i o ho
      have hx := (Array.getElem?_eq_some_iff.1 ho).1
      have hw : ∀ i, waits ops x i → i ∈ seen := by
        rintro i ⟨o', ho', e, he, hb, rfl⟩
        rw [ho] at ho'
        simp only [Option.some.injEq] at ho'; subst ho'
        have := List.all_eq_true.1 h2 e (Array.mem_def.1 he)
        simpa [hb] using this
      obtain ⟨i1, i2⟩ := lin_spec L (x :: seen) h3
      refine ⟨fun y hy => ?_, List.pairwise_cons.2 ⟨fun i hi => ?_, i2⟩⟩
      · rcases List.mem_cons.1 hy with rfl | hy
        · exact ⟨hns, hx, fun hww => hns (hw _ hww), fun i hi => .inl (hw i hi)⟩
        · obtain ⟨q1, q2, q3, q4⟩ := i1 y hy
          refine ⟨fun hs => q1 (List.mem_cons_of_mem _ hs), q2, q3, fun i hi => ?_⟩
          rcases q4 i hi with h5 | h5
          · rcases List.mem_cons.1 h5 with rfl | h5
            · exact .inr (List.mem_cons_self ..)
            · exact .inl h5
          · exact .inr (List.mem_cons_of_mem _ h5)
      · have := (i1 i hi).1
        exact ⟨fun e => this (e ▸ List.mem_cons_self ..), fun hww => this (List.mem_cons_of_mem _ (hw i hww))⟩
    · simp at h2

theorem pairs_spec : ∀ (L : List Nat), pairsOk P ops bs L = true → L.Pairwise (fun x i => bit (bs.getD i 0) x = true ∨ ∀ ox oi, ops[x]? = some ox → ops[i]? = some oi → pairOk P ops ox oi = true)
  | [], _ => List.Pairwise.nil
  | x :: L, h => by
    unfold pairsOk at h
    simp only [Bool.and_eq_true] at h
    refine List.pairwise_cons.2 ⟨fun i hi => ?_, pairs_spec L h.2⟩
    have := List.all_eq_true.1 h.1 i hi
    simp only [Bool.or_eq_true] at this
    rcases this with h1 | h1
    · exact .inl h1
    · refine .inr fun ox oi hx hi' => ?_
      rw [hx, hi'] at h1
      exact h1

theorem planOf_some {p : Plan} (h : planOf P ops = some p) : Left P ops p.bs p.order (Array.replicate ops.size false) ∧ befOk ops p.bs = true ∧ opsOk P ops = true ∧ p.order.length = ops.size := by
  unfold planOf at h
  simp only at h
  split at h
  · rename_i h1 h2 h3 h4
    simp only [Option.some.injEq] at h
    subst h
    rw [Bool.and_eq_true] at h1 h4
    obtain ⟨k1, k2⟩ := lin_spec _ _ h2
    have k3 := pairs_spec _ h3
    have hall : ∀ j, j < ops.size → j ∈ orderOf P ops.toList := fun j hj => by
      have := List.all_eq_true.1 h1.2 j (List.mem_range.2 hj)
      simpa using this
    refine ⟨⟨by simp, fun j hj => ?_, fun j hj => (k1 j hj).2.1, ?_, fun x hx => ⟨(k1 x hx).2.2.1, fun i hi => ?_⟩, fun j hj hn => absurd (hall j hj) hn⟩, h4.1, h4.2, Nat.eq_of_beq_eq_true h1.1⟩
    · have : (Array.replicate ops.size false).getD j true = false := by simp [hj]
      rw [this]
      simp [hall j hj]
    · have := k2.and k3
      exact this.imp fun ⟨⟨a, b⟩, c⟩ => ⟨a, b, c⟩
    · rcases (k1 x hx).2.2.2 i hi with h5 | h5
      · simp at h5
      · exact (k1 i h5).2.1
  · simp at h

/-- a state's step ahead -/
structure Ahead (s s' : St) : Prop where
  fwd : Fwd s.h s'.h
  nt : s'.nt = s.nt

theorem Ahead.refl {s : St} (hf : Fresh s.h) : Ahead s s := ⟨Fwd.refl hf, rfl⟩
theorem Ahead.trans {a b c : St} (x : Ahead a b) (y : Ahead b c) : Ahead a c := ⟨x.fwd.trans y.fwd, y.nt.trans x.nt⟩

theorem bump_fresh {h : H} (hf : Fresh h) {n : Nat} (hl : h.nx + n ≤ LIM) : Fresh { h with nx := h.nx + n } :=
  ⟨fun b hb => hf.none b (by have : h.nx + n ≤ b := hb; omega), hl⟩

theorem region_ok (heff : ∀ f args, EffOk (call f args)) {draw : Bool} {s sf : St} (hf : Fresh s.h) (he : evRegion P ro call ops draw s = some sf) :
    Ahead s sf ∧ ∀ nm ob, nm < s.h.nx → s.h.get nm = none → evRegion P ro call ops draw (s.putH nm ob) = some (sf.putH nm ob) := by
  unfold evRegion at he
  split at he
  · simp at he
  · rename_i hb
    have hlim : s.h.nx + ops.size < LIM := by simpa using hb
    have hf1 := bump_fresh hf (Nat.le_of_lt hlim)
    simp only at he
    have fin : (Fresh sf.h ∧ s.h.nx + ops.size ≤ sf.h.nx ∧ sf.nt = s.nt ∧ (∀ b, b < s.h.nx → (sf.h.get b).isSome = (s.h.get b).isSome)) → Ahead s sf := fun ⟨a1, a2, a3, a4⟩ => ⟨⟨a1, by omega, a4⟩, a3⟩
    split at he
    · split at he
      · rename_i hok
        obtain ⟨a1, a2, a3, a4, a5⟩ := text_ok (s := { s with h := { s.h with nx := s.h.nx + ops.size } }) heff ops.toList 0 hf1 (by simp) he
        refine ⟨fin ⟨a1, a2, a3, a4⟩, fun nm ob hnm hg => ?_⟩
        unfold evRegion
        show (match Nat.blt (s.h.nx + ops.size) LIM with | false => none | true => _) = _
        rw [hb]
        simp only
        rw [hok]
        exact a5 nm ob hnm hg
      · simp at he
    · split at he
      · rename_i p hp
        obtain ⟨l1, l2, l3, l4⟩ := planOf_some hp
        obtain ⟨a1, a2, a3, a4, a5⟩ := seq_ok (s := { s with h := { s.h with nx := s.h.nx + ops.size } }) heff p.order hf1 (fun i hi => by have := l1.lt i hi; show s.h.nx + i < s.h.nx + ops.size; omega) he
        refine ⟨fin ⟨a1, a2, a3, a4⟩, fun nm ob hnm hg => ?_⟩
        unfold evRegion
        show (match Nat.blt (s.h.nx + ops.size) LIM with | false => none | true => _) = _
        rw [hb]
        simp only
        rw [hp]
        exact a5 nm ob hnm hg
      · simp at he

end
end Go.Ev
