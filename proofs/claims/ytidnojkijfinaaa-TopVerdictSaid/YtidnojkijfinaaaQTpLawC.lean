/- Part of the proof of TopVerdictSaid. -/
import Derived.Test.YtidnojkijfinaaaQTpLawB
namespace Go.Proofs.Ytidnojkijfinaaa.Fns
open Go.RowKit Go.Proofs.YtidnojkijfinaaaW.PrintWords Go.Proofs.YtidnojkijfinaaaW.PrintLast Go.Proofs.YtidnojkijfinaaaW.PrintMore
set_option linter.unusedVariables false
set_option linter.unusedSimpArgs false
def ISpec (d : DT) (c : List S84) (o : Option Int) : Prop := ∀ P p a, CodeAt P p c → match o with
  | some v => Runs d P a p v
  | none => ∀ u, (∀ a', Runs d P a' (p + c.length) u) → Runs d P a p u
theorem ISpec.nil (d : DT) : ISpec d [] none := fun P p a _ u hu => by simpa using hu a
theorem ISpec.append {d : DT} {c1 c2 : List S84} {o1 o2 : Option Int} (h1 : ISpec d c1 o1) (h2 : ISpec d c2 o2) : ISpec d (c1 ++ c2) (o1.or o2) := by
  intro P p a hp
  obtain ⟨p1, p2⟩ := hp.split
  have k1 := h1 P p a p1
  have k2 := fun a' => h2 P (p + c1.length) a' p2
  cases o1 with
  | some v => exact k1
  | none =>
    cases o2 with
    | some v => exact k1 v k2
    | none => exact fun u hu => k1 u (fun a' => k2 a' u (fun a'' => runs_at (hu a'') (by simp [Nat.add_assoc])))
theorem rule_ispec {d : DT} (hd : d.Ok) {r : S72} (h : RuleOk r) : ISpec d (ruleC r) (if r.f2.all (fun c => holdsB c d) = true then some (actV r.f0) else none) := by
  intro P p a hp
  have hs := rule_spec hd h P p a hp
  cases hb : r.f2.all (fun c => holdsB c d) with
  | true => rw [if_pos rfl]; exact hs.1 hb
  | false => rw [if_neg Bool.false_ne_true]; exact hs.2 hb
def namesC (r : S72) (name : ByteArray) (ns : List ByteArray) : List S84 := ns.flatMap (fun n => if n.toList = name.toList then ruleC r else [])
def bodyC (rs : List S72) (name : ByteArray) : List S84 := rs.flatMap (fun r => namesC r name r.f1)
def leafR (other : Int) (rs : List S72) (name : ByteArray) : List S84 := bodyC rs name ++ [⟨6, 0, 0, other⟩]
theorem names_ispec {d : DT} (hd : d.Ok) {r : S72} (h : RuleOk r) (name : ByteArray) : ∀ ns : List ByteArray, ISpec d (namesC r name ns) (if (hasB ns name && r.f2.all (fun c => holdsB c d)) = true then some (actV r.f0) else none)
  | [] => by simpa [namesC, hasB] using ISpec.nil d
  | n :: ns => by
    have ih := names_ispec hd h name ns
    have e : hasB (n :: ns) name = ((name.toList == n.toList) || hasB ns name) := rfl
    unfold namesC at ih ⊢
    rw [List.flatMap_cons, e]
    by_cases hq : n.toList = name.toList
    · rw [if_pos hq, beq_iff_eq.mpr hq.symm]
      have := (rule_ispec hd h).append ih
      cases hb : r.f2.all (fun c => holdsB c d) with
      | true =>
        rw [hb] at this
        simpa using this
      | false =>
        rw [hb] at this
        simpa using this
    · rw [if_neg hq, beq_eq_false_iff_ne.mpr (fun h => hq h.symm)]
      simpa using ih
theorem body_ispec {d : DT} (hd : d.Ok) (name : ByteArray) : ∀ rs : List S72, (∀ r ∈ rs, RuleOk r) → ISpec d (bodyC rs name) ((rs.find? (fun r => hasB r.f1 name && r.f2.all (fun c => holdsB c d))).map (fun r => actV r.f0))
  | [], _ => by simpa [bodyC] using ISpec.nil d
  | r :: rs, h => by
    have ih := body_ispec hd name rs (fun x hx => h x (List.mem_cons_of_mem _ hx))
    have hr := names_ispec hd (h r (List.mem_cons_self ..)) name r.f1
    have := hr.append ih
    unfold bodyC at this ⊢
    rw [List.flatMap_cons, List.find?_cons]
    cases hb : (hasB r.f1 name && r.f2.all (fun c => holdsB c d)) with
    | true => rw [hb] at this; simpa using this
    | false => rw [hb] at this; simpa using this
def foundV (other : Int) (rs : List S72) (name : ByteArray) (d : DT) : Int := match rs.find? (fun r => hasB r.f1 name && r.f2.all (fun c => holdsB c d)) with
  | some r => actV r.f0
  | none => other
theorem leaf_runs {d : DT} (hd : d.Ok) {other : Int} (ho : U32 other) {rs : List S72} (h : ∀ r ∈ rs, RuleOk r) (name : ByteArray) {P : List S84} {p : Nat} {a : Int} (hp : CodeAt P p (leafR other rs name)) : Runs d P a p (foundV other rs name d) := by
  obtain ⟨p1, p2⟩ := CodeAt.split (c1 := bodyC rs name) hp
  have hb := body_ispec hd name rs h P p a p1
  unfold foundV
  cases hf : rs.find? (fun r => hasB r.f1 name && r.f2.all (fun c => holdsB c d)) with
  | some r => rw [hf] at hb; exact hb
  | none =>
    rw [hf] at hb
    exact hb other (fun a' => runs_end p2 (step_retk d ho))
theorem names_fits {r : S72} (h : RuleOk r) (name : ByteArray) {e : Nat} (he : 0 < e) : ∀ ns : List ByteArray, Fits (namesC r name ns) e
  | [] => Fits.nil e
  | n :: ns => by
    unfold namesC
    rw [List.flatMap_cons]
    refine Fits.append ?_ (names_fits h name he ns)
    split
    · exact rule_fits h (by omega)
    · exact Fits.nil _
theorem body_fits (name : ByteArray) {e : Nat} (he : 0 < e) : ∀ rs : List S72, (∀ r ∈ rs, RuleOk r) → Fits (bodyC rs name) e
  | [], _ => Fits.nil e
  | r :: rs, h => by
    unfold bodyC
    rw [List.flatMap_cons]
    exact Fits.append (names_fits (h r (List.mem_cons_self ..)) name (by omega) r.f1) (body_fits name he rs (fun x hx => h x (List.mem_cons_of_mem _ hx)))
theorem names_len {r : S72} (h : RuleOk r) (name : ByteArray) : ∀ ns : List ByteArray, (namesC r name ns).length ≤ 57 * ns.length
  | [] => Nat.le_refl 0
  | n :: ns => by
    have ih := names_len h name ns
    have h57 := ruleC_len h
    unfold namesC at ih ⊢
    rw [List.flatMap_cons, List.length_append, List.length_cons]
    split
    · omega
    · simp only [List.length_nil]
      omega
theorem body_len (name : ByteArray) : ∀ rs : List S72, (∀ r ∈ rs, RuleOk r) → (bodyC rs name).length ≤ 912 * rs.length
  | [], _ => Nat.le_refl 0
  | r :: rs, h => by
    have ih := body_len name rs (fun x hx => h x (List.mem_cons_of_mem _ hx))
    have hr := h r (List.mem_cons_self ..)
    have h1 := names_len hr name r.f1
    have h2 := hr.names
    unfold bodyC at ih ⊢
    rw [List.flatMap_cons, List.length_append, List.length_cons]
    omega
theorem leafR_len (other : Int) (name : ByteArray) {rs : List S72} (h : ∀ r ∈ rs, RuleOk r) (h64 : rs.length ≤ 64) : 1 ≤ (leafR other rs name).length ∧ (leafR other rs name).length ≤ 58369 := by
  have := body_len name rs h
  unfold leafR
  rw [List.length_append, List.length_singleton]
  omega
theorem leafR_fits {other : Int} (ho : U32 other) (name : ByteArray) {rs : List S72} (h : ∀ r ∈ rs, RuleOk r) : Fits (leafR other rs name) 0 :=
  Fits.append (body_fits name (by simp) rs h) (Fits.cons (ok_ret ho) (Fits.nil _))
def leafC (nr : Int) (b : List S84) : List S84 := ⟨21, 1, 0, nr⟩ :: ⟨5, 0, 0, ((b.length - 1 : Nat) : Int)⟩ :: b
def partC (nrs : List Int) (ls : List (List S84)) : Nat → Nat → Nat → List S84
  | 0, _, _ => []
  | k + 1, i, j => if j - i = 1 then leafC (nrs.getD i 0) (ls.getD i []) else
    ⟨53, 0, 1, nrs.getD (i + (j - i) / 2) 0⟩ :: ⟨5, 0, 0, ((partC nrs ls k i (i + (j - i) / 2)).length : Int)⟩ :: (partC nrs ls k i (i + (j - i) / 2) ++ partC nrs ls k (i + (j - i) / 2) j)
structure PlanOk (nrs : List Int) (ls : List (List S84)) (other : Int) : Prop where
  len : ls.length = nrs.length
  few : nrs.length ≤ 30
  nr : ∀ n ∈ nrs, U32 n
  leaf : ∀ b ∈ ls, 1 ≤ b.length ∧ b.length ≤ 58369 ∧ Fits b 0 ∧ ∃ c, b = c ++ [⟨6, 0, 0, other⟩]
  other : U32 other
  sorted : ∀ i j, i < j → j < nrs.length → nrs.getD i 0 < nrs.getD j 0
theorem getD_mem {α : Type} (l : List α) (i : Nat) (x : α) (h : i < l.length) : l.getD i x ∈ l := by
  rw [List.getD_eq_getElem?_getD, List.getElem?_eq_getElem h]
  exact List.getElem_mem h
section
variable {nrs : List Int} {ls : List (List S84)} {other : Int} (H : PlanOk nrs ls other)
include H
theorem part_len : ∀ k i j, i < j → j ≤ nrs.length → j - i ≤ k → 1 ≤ (partC nrs ls k i j).length ∧ (partC nrs ls k i j).length + 2 ≤ 58373 * (j - i) := by
  intro k
  induction k with
  | zero => intro i j h1 h2 h3; omega
  | succ k ih =>
    intro i j h1 h2 h3
    unfold partC
    split
    · have hb := H.leaf _ (getD_mem ls i [] (by rw [H.len]; omega))
      unfold leafC
      simp only [List.length_append, List.length_cons, List.length_nil]
      omega
    · have a1 := ih i (i + (j - i) / 2) (by omega) (by omega) (by omega)
      have a2 := ih (i + (j - i) / 2) j (by omega) (by omega) (by omega)
      simp only [List.length_append, List.length_cons, List.length_nil]
      omega
theorem part_fits : ∀ k i j, i < j → j ≤ nrs.length → j - i ≤ k → Fits (partC nrs ls k i j) 0 := by
  intro k
  induction k with
  | zero => intro i j h1 h2 h3; omega
  | succ k ih =>
    intro i j h1 h2 h3
    have hf := H.few
    unfold partC
    split
    · obtain ⟨b1, b2, b3, _⟩ := H.leaf _ (getD_mem ls i [] (by rw [H.len]; omega))
      have hn := H.nr _ (getD_mem nrs i 0 (by omega))
      exact Fits.cons (ok_jmp (.inl rfl) ⟨by decide, by decide⟩ ⟨by decide, by decide⟩ hn (by rw [List.length_cons]; omega) (by rw [List.length_cons]; omega)) (Fits.cons (ok_ja ⟨by omega, by omega⟩ (by omega)) b3)
    · have a1 := part_len H k i (i + (j - i) / 2) (by omega) (by omega) (by omega)
      have a2 := part_len H k (i + (j - i) / 2) j (by omega) (by omega) (by omega)
      have f1 := ih i (i + (j - i) / 2) (by omega) (by omega) (by omega)
      have f2 := ih (i + (j - i) / 2) j (by omega) (by omega) (by omega)
      have hn := H.nr _ (getD_mem nrs (i + (j - i) / 2) 0 (by omega))
      exact Fits.cons (ok_jmp (.inr (.inr rfl)) ⟨by decide, by decide⟩ ⟨by decide, by decide⟩ hn (by rw [List.length_cons]; omega) (by rw [List.length_cons, List.length_append]; omega)) (Fits.cons (ok_ja ⟨by omega, by omega⟩ (by rw [List.length_append]; omega)) (Fits.append (f1.more (by omega)) f2))
theorem part_runs {d : DT} (hd : d.Ok) {w : Int} (P : List S84) : ∀ k i j p, i < j → j ≤ nrs.length → j - i ≤ k →
    (∀ m, i ≤ m → m < j → nrs.getD m 0 = d.nr → ∀ q a, CodeAt P q (ls.getD m []) → Runs d P a q w) → ((∀ m, i ≤ m → m < j → nrs.getD m 0 ≠ d.nr) → w = other) →
    CodeAt P p (partC nrs ls k i j) → Runs d P d.nr p w := by
  intro k
  induction k with
  | zero => intro i j p h1 h2 h3; omega
  | succ k ih =>
    intro i j p h1 h2 h3 hy hno hp
    have hf := H.few
    unfold partC at hp
    by_cases h1' : j - i = 1
    · rw [if_pos h1'] at hp
      obtain ⟨b1, b2, b3, c, hc⟩ := H.leaf _ (getD_mem ls i [] (by rw [H.len]; omega))
      have hn := H.nr _ (getD_mem nrs i 0 (by omega))
      unfold leafC at hp
      refine runs_cons hp (step_jmp d (.inl rfl) ⟨by omega, by omega⟩ ⟨by omega, by omega⟩ hn) ?_
      show Runs d P d.nr (p + 1 + (if (d.nr == nrs.getD i 0) = true then (1 : Int) else 0).toNat) w
      by_cases hq : nrs.getD i 0 = d.nr
      · rw [hq, if_pos (by simp)]
        exact runs_at (hy i (Nat.le_refl _) (by omega) hq (p + 1 + 1) d.nr hp.head.2.head.2) (by rfl)
      · rw [if_neg (by simp; exact fun h => hq h.symm)]
        have hw := hno (fun m h1 h2 => by obtain rfl : m = i := by omega
                                          exact hq)
        refine runs_at (p := p + 1) ?_ (by simp)
        refine runs_cons hp.head.2 (step_jump_a d ⟨by omega, by omega⟩) ?_
        have hp3 := hp.head.2.head.2
        rw [hc] at hp3
        have := hp3.split.2
        rw [hw]
        refine runs_at (runs_end this (step_retk d H.other)) ?_
        rw [hc]
        simp only [List.length_append, List.length_singleton]
        omega
    · rw [if_neg h1'] at hp
      obtain ⟨m, hm⟩ : ∃ m, i + (j - i) / 2 = m := ⟨_, rfl⟩
      rw [hm] at hp
      have hmi : i < m := by omega
      have hmj : m < j := by omega
      have a1 := part_len H k i m (by omega) (by omega) (by omega)
      have hn := H.nr _ (getD_mem nrs m 0 (by omega))
      refine runs_cons hp (step_jmp d (.inr (.inr rfl)) ⟨by omega, by omega⟩ ⟨by omega, by omega⟩ hn) ?_
      show Runs d P d.nr (p + 1 + (if decide (nrs.getD m 0 ≤ d.nr) = true then (0 : Int) else 1).toNat) w
      obtain ⟨p1, p2⟩ := hp.head.2.head.2.split
      by_cases hq : nrs.getD m 0 ≤ d.nr
      · rw [if_pos (decide_eq_true hq)]
        refine runs_at (p := p + 1) ?_ (by simp)
        refine runs_cons hp.head.2 (step_jump_a d ⟨by omega, by omega⟩) ?_
        refine runs_at (ih m j _ hmj h2 (by omega) (fun x h1 h2 => hy x (by omega) h2) (fun h => hno (fun x h3 h4 => ?_)) p2) (by show p + 1 + 1 + (partC nrs ls k i m).length = p + 1 + 1 + ((partC nrs ls k i m).length : Int).toNat; omega)
        by_cases hx : x < m
        · have := H.sorted x m hx (by omega)
          omega
        · exact h x (by omega) h4
      · rw [if_neg (by rw [decide_eq_true_iff]; exact hq)]
        refine runs_at (ih i m _ hmi (by omega) (by omega) (fun x h1 h2 => hy x h1 (by omega)) (fun h => hno (fun x h3 h4 => ?_)) p1) (by rfl)
        by_cases hx : x < m
        · exact h x h3 hx
        · by_cases hxm : x = m
          · subst hxm; omega
          · have := H.sorted m x (by omega) (by omega)
            omega
end
def progC (kill other : Int) (nrs : List Int) (ls : List (List S84)) : List S84 := ⟨32, 0, 0, 4⟩ :: ⟨21, 1, 0, 3221225534⟩ :: ⟨6, 0, 0, kill⟩ :: ⟨32, 0, 0, 0⟩ :: (if nrs.length = 0 then [⟨6, 0, 0, other⟩] else partC nrs ls 40 0 nrs.length)
theorem prog_fits {kill other : Int} {nrs : List Int} {ls : List (List S84)} (H : PlanOk nrs ls other) (hk : U32 kill) : Fits (progC kill other nrs ls) 0 ∧ 5 ≤ (progC kill other nrs ls).length ∧ (progC kill other nrs ls).length ≤ 1751194 := by
  have hf := H.few
  have h1 : ∃ c, (if nrs.length = 0 then [(⟨6, 0, 0, other⟩ : S84)] else partC nrs ls 40 0 nrs.length) = c ∧ Fits c 0 ∧ 1 ≤ c.length ∧ c.length ≤ 1751190 := by
    split
    · exact ⟨_, rfl, Fits.cons (ok_ret H.other) (Fits.nil _), by simp, by simp⟩
    · have := part_len H 40 0 nrs.length (by omega) (Nat.le_refl _) (by omega)
      exact ⟨_, rfl, part_fits H 40 0 nrs.length (by omega) (Nat.le_refl _) (by omega), by omega, by omega⟩
  unfold progC
  obtain ⟨c, hc, h2, h3, h4⟩ := h1
  rw [hc]
  refine ⟨?_, by simp; omega, by simp; omega⟩
  exact Fits.cons (ok_ld (by decide) (by decide) (by decide) (by rw [List.length_cons]; omega)) (Fits.cons (ok_jmp (.inl rfl) ⟨by decide, by decide⟩ ⟨by decide, by decide⟩ ⟨by decide, by decide⟩ (by rw [List.length_cons, List.length_cons]; omega) (by rw [List.length_cons, List.length_cons]; omega)) (Fits.cons (ok_ret hk) (Fits.cons (ok_ld (by decide) (by decide) (by decide) (by omega)) h2)))
theorem prog_ok {kill other : Int} {nrs : List Int} {ls : List (List S84)} (H : PlanOk nrs ls other) (hk : U32 kill) (h : (progC kill other nrs ls).length ≤ 4096) : ProgOk (progC kill other nrs ls) := by
  obtain ⟨h1, h2, h3⟩ := prog_fits H hk
  exact ⟨by omega, h, h1⟩
theorem prog_runs {d : DT} (hd : d.Ok) {kill other w : Int} {nrs : List Int} {ls : List (List S84)} (H : PlanOk nrs ls other) (hk : U32 kill)
    (hy : ∀ m, m < nrs.length → nrs.getD m 0 = d.nr → ∀ P q a, CodeAt P q (ls.getD m []) → Runs d P a q w) (hno : (∀ m, m < nrs.length → nrs.getD m 0 ≠ d.nr) → w = other) :
    Runs d (progC kill other nrs ls) 0 0 (if d.arch = 3221225534 then w else kill) := by
  have hf := H.few
  have hp : CodeAt (progC kill other nrs ls) 0 (progC kill other nrs ls) := ⟨[], [], by simp, rfl⟩
  generalize hP : progC kill other nrs ls = P at hp
  have hp2 : CodeAt P 0 (⟨32, 0, 0, 4⟩ :: ⟨21, 1, 0, 3221225534⟩ :: ⟨6, 0, 0, kill⟩ :: ⟨32, 0, 0, 0⟩ :: (if nrs.length = 0 then [⟨6, 0, 0, other⟩] else partC nrs ls 40 0 nrs.length)) := by
    have : P = ⟨32, 0, 0, 4⟩ :: ⟨21, 1, 0, 3221225534⟩ :: ⟨6, 0, 0, kill⟩ :: ⟨32, 0, 0, 0⟩ :: (if nrs.length = 0 then [⟨6, 0, 0, other⟩] else partC nrs ls 40 0 nrs.length) := hP.symm
    rw [← this]
    exact hp
  clear hp hP
  refine runs_cons hp2 (step_ldabs d (by decide) (by decide) (by decide)) ?_
  show Runs d P d.arch 1 _
  refine runs_cons hp2.head.2 (step_jmp d (.inl rfl) ⟨by decide, by decide⟩ ⟨by decide, by decide⟩ ⟨by decide, by decide⟩) ?_
  show Runs d P d.arch (1 + 1 + (if (d.arch == 3221225534) = true then (1 : Int) else 0).toNat) _
  by_cases ha : d.arch = 3221225534
  · rw [if_pos (by simp [ha]), if_pos ha]
    refine runs_at (p := 3) ?_ (by simp)
    refine runs_cons hp2.head.2.head.2.head.2 (step_ldabs d (by decide) (by decide) (by decide)) ?_
    show Runs d P d.nr 4 _
    have h4 := hp2.head.2.head.2.head.2.head.2
    by_cases h0 : nrs.length = 0
    · rw [if_pos h0] at h4
      rw [hno (fun m hm => by omega)]
      exact runs_end h4 (step_retk d H.other)
    · rw [if_neg h0] at h4
      exact part_runs H hd P 40 0 nrs.length 4 (by omega) (Nat.le_refl _) (by omega) (fun m _ hm hq q a hc => hy m hm hq P q a hc) (fun h => hno (fun m hm => h m (Nat.zero_le _) hm)) h4
  · rw [if_neg (by simp [ha]), if_neg ha]
    refine runs_at (p := 2) ?_ (by simp)
    exact runs_end hp2.head.2.head.2 (step_retk d hk)
end Go.Proofs.Ytidnojkijfinaaa.Fns
