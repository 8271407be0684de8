/- Part of the proof of TopVerdictSaid. -/
import Derived.Test.YtidnojkijfinaaaQTpLawA
namespace Go.Proofs.Ytidnojkijfinaaa.Fns
open Go.RowKit Go.Proofs.YtidnojkijfinaaaW.PrintWords Go.Proofs.YtidnojkijfinaaaW.PrintLast Go.Proofs.YtidnojkijfinaaaW.PrintMore
set_option linter.unusedVariables false
set_option linter.unusedSimpArgs false
theorem load_is (k m v : Int) : compile_word_load.f k m v = some (loadC k m) := by
  unfold compile_word_load.f loadC
  by_cases h : m = 4294967295
  · rw [Option.bind_some, if_pos h, if_pos h]
  · rw [Option.bind_some, if_neg h, if_neg h, if_pos (by simp)]
    rfl
theorem place_is (n : Nat) (h : n ≤ 5) : data_Place.f (n : Int) = some (16 + 8 * (n : Int), 20 + 8 * (n : Int), 0) := by
  have e1 : wrap64 (8 * (n : Int)) = 8 * (n : Int) := IntWalk.wrap64_in _ (by omega)
  have e2 : wrap64 (16 + 8 * (n : Int)) = 16 + 8 * (n : Int) := IntWalk.wrap64_in _ (by omega)
  have e3 : (16 + 8 * (n : Int)) % 4294967296 = 16 + 8 * (n : Int) := by omega
  have e4 : (16 + 8 * (n : Int) + 4) % 4294967296 = 20 + 8 * (n : Int) := by omega
  unfold data_Place.f
  rw [if_neg (by omega), if_neg (by omega), e1, e2, e3, e4]
theorem test_is (k : Nat) (alw nev not : Bool) (op mask val : Int) (n els : Nat) (hn : n ≤ 5) (hop : op = 1 ∨ op = 5 ∨ op = 6) (hels : els ≤ 200) :
    compile_test.f (k + 1) alw nev not op mask val (n : Int) (els : Int) = some (testC not op mask val (n : Int) els) := by
  have hh : ∀ x, data_Halves.f x = some (loW x, hiW x) := fun _ => rfl
  have hc : code_of.f op = some (if op = 1 then 21 else if op = 5 then 37 else 53) := by
    rcases hop with rfl | rfl | rfl <;> rfl
  have hl := loadC_len (16 + 8 * (n : Int)) (loW mask)
  have hl2 := loadC_len (20 + 8 * (n : Int)) (hiW mask)
  have e0 : (els : Int) % 256 = (els : Int) := by omega
  unfold compile_test.f
  rw [place_is n hn, Option.bind_some, hh, Option.bind_some, hh, Option.bind_some, hc, Option.bind_some]
  simp only
  rw [load_is, Option.bind_some, e0]
  have hj : ∀ E : List S84, E = endC not op mask val (n : Int) els → compile_test.j0 (k + 1) (els : Int) (hiW val) E alw nev not op mask val (20 + 8 * (n : Int)) (hiW mask) (hiW val) = some (testC not op mask val (n : Int) els) := by
    intro E hE
    have hel := endC_len not op mask val (n : Int) els
    rw [← hE] at hel
    have e1 : ((E.length : Nat) : Int) % 256 = (E.length : Int) := by omega
    have e2 : (wrap64 ((E.length : Int) + (els : Int))) % 256 = ((E.length + els : Nat) : Int) := by rw [IntWalk.wrap64_in _ (by omega)]; omega
    have e3 : ((wrap64 ((E.length : Int) + (els : Int))) + 1) % 256 = ((E.length + els + 1 : Nat) : Int) := by rw [IntWalk.wrap64_in _ (by omega)]; omega
    have e4 : ((E.length : Int) + 1) % 256 = ((E.length + 1 : Nat) : Int) := by omega
    rw [compile_test.j0]
    unfold testC midC
    rw [load_is, Option.bind_some, e1, e2, e3, e4, ← hE]
    have l1 : (loadC (20 + 8 * (n : Int)) (hiW mask)).length < 17592186044416 := by omega
    have l2 : ∀ i : S84, (loadC (20 + 8 * (n : Int)) (hiW mask) ++ [i]).length < 17592186044416 := fun i => by simp; omega
    have l3 : ∀ i : S84, (loadC (20 + 8 * (n : Int)) (hiW mask) ++ [i]).length + E.length < 17592186044416 := fun i => by simp; omega
    have l4 : ∀ i j : S84, ((loadC (20 + 8 * (n : Int)) (hiW mask) ++ [i]) ++ [j]).length + E.length < 17592186044416 := fun i j => by simp; omega
    by_cases h1 : op = 1
    · rw [if_pos h1, if_pos h1]
      cases not with
      | true => rw [if_pos rfl, if_pos rfl, if_pos l1, Option.bind_some, if_pos (l3 _)]; simp
      | false => rw [if_neg Bool.false_ne_true, if_neg Bool.false_ne_true, if_pos l1, Option.bind_some, if_pos (l3 _)]; simp
    · rw [if_neg h1, if_neg h1]
      cases not with
      | true => rw [if_pos rfl, if_pos rfl, if_pos l1, Option.bind_some, if_pos (l2 _), Option.bind_some, if_pos (l4 _ _)]; simp
      | false => rw [if_neg Bool.false_ne_true, if_neg Bool.false_ne_true, if_pos l1, Option.bind_some, if_pos (l2 _), Option.bind_some, if_pos (l4 _ _)]; simp
  cases hnot : not with
  | true =>
    rw [hnot] at hj
    rw [if_pos rfl, if_pos (by omega)]
    exact hj _ (by unfold endC; rw [if_pos rfl])
  | false =>
    rw [hnot] at hj
    rw [if_neg Bool.false_ne_true, if_pos (by omega)]
    exact hj _ (by unfold endC; rw [if_neg Bool.false_ne_true])
structure CondOk (c : S98) : Prop where
  a0 : 0 ≤ c.f0
  a5 : c.f0 ≤ 5
  o1 : 1 ≤ c.f1
  o6 : c.f1 ≤ 6
  m : U64 c.f2
  v : U64 c.f3
theorem held_way {op x v : Int} (h1 : 1 ≤ op) (h6 : op ≤ 6) : heldB op x v = heldOp (wayOp op) x v := by
  have : op = 1 ∨ op = 2 ∨ op = 3 ∨ op = 4 ∨ op = 5 ∨ op = 6 := by omega
  rcases this with rfl | rfl | rfl | rfl | rfl | rfl <;> rfl
theorem way_ok {op : Int} (h1 : 1 ≤ op) (h6 : op ≤ 6) : wayOp op = 1 ∨ wayOp op = 5 ∨ wayOp op = 6 := by
  have : op = 1 ∨ op = 2 ∨ op = 3 ∨ op = 4 ∨ op = 5 ∨ op = 6 := by omega
  rcases this with rfl | rfl | rfl | rfl | rfl | rfl <;> simp [wayOp]
theorem holds_is {c : S98} (h : CondOk c) (d : DT) : holdsB c d = (heldOp (wayOp c.f1) (bits .and .u64 (d.arg c.f0.toNat) c.f2) c.f3 != wayNot c.f1) := by
  unfold holdsB
  rw [held_way h.o1 h.o6]
theorem andNot_and {x m : Int} (hx : U64 x) (hm : U64 m) : bits .andNot .u64 (bits .and .u64 x m) m = 0 := by
  obtain ⟨n, rfl⟩ := Int.eq_ofNat_of_zero_le hx.1
  obtain ⟨k, rfl⟩ := Int.eq_ofNat_of_zero_le hm.1
  have h1 := hx.2; have h2 := hm.2
  have h3 : n &&& k ≤ k := Nat.and_le_right
  rw [Go.u64_and_nat n k (by omega) (by omega), Go.u64_andNot_nat _ _ (by omega) (by omega)]
  have : n &&& k &&& (18446744073709551615 - k) = 0 := by
    apply Nat.eq_of_testBit_eq
    intro i
    rw [Nat.testBit_and, Nat.testBit_and, Nat.zero_testBit, show 18446744073709551615 - k = 2 ^ 64 - (k + 1) by omega, Nat.testBit_two_pow_sub_succ (by omega)]
    cases n.testBit i <;> cases k.testBit i <;> simp
  rw [this]
  rfl
theorem never_no {c : S98} (h : CondOk c) {d : DT} (hd : d.Ok) (hn : normNever c.f1 c.f2 c.f3 = true) : holdsB c d = false := by
  rw [holds_is h]
  have hx := hd.arg c.f0.toNat
  obtain ⟨hy, hle⟩ := and_u64 hx h.m
  have han := andNot_and hx h.m
  have h1 := h.o1; have h6 := h.o6
  have hv := h.v.1
  generalize c.f1 = op at *
  generalize bits .and .u64 (d.arg c.f0.toNat) c.f2 = y at *
  have : op = 1 ∨ op = 2 ∨ op = 3 ∨ op = 4 ∨ op = 5 ∨ op = 6 := by omega
  rcases this with rfl | rfl | rfl | rfl | rfl | rfl
  · simp [normNever] at hn
    simp [wayOp, wayNot, heldOp]
    intro e
    rw [e] at han
    exact hn han
  · simp [normNever] at hn
  · simp [normNever] at hn
    simp [wayOp, wayNot, heldOp, hn]
    exact hy.1
  · simp [normNever] at hn
  · simp [normNever] at hn
    simp [wayOp, wayNot, heldOp]
    omega
  · simp [normNever] at hn
    simp [wayOp, wayNot, heldOp]
    omega
theorem always_yes {c : S98} (h : CondOk c) {d : DT} (hd : d.Ok) (hn : normAlways c.f1 c.f2 c.f3 = true) : holdsB c d = true := by
  rw [holds_is h]
  have hx := hd.arg c.f0.toNat
  obtain ⟨hy, hle⟩ := and_u64 hx h.m
  have han := andNot_and hx h.m
  have h1 := h.o1; have h6 := h.o6
  have hv := h.v.1
  generalize c.f1 = op at *
  generalize bits .and .u64 (d.arg c.f0.toNat) c.f2 = y at *
  have : op = 1 ∨ op = 2 ∨ op = 3 ∨ op = 4 ∨ op = 5 ∨ op = 6 := by omega
  rcases this with rfl | rfl | rfl | rfl | rfl | rfl
  · simp [normAlways] at hn
  · simp [normAlways] at hn
    simp [wayOp, wayNot, heldOp]
    intro e
    rw [e] at han
    exact hn han
  · simp [normAlways] at hn
    simp [wayOp, wayNot, heldOp]
    omega
  · simp [normAlways] at hn
    simp [wayOp, wayNot, heldOp]
    omega
  · simp [normAlways] at hn
  · simp [normAlways] at hn
    simp [wayOp, wayNot, heldOp, hn]
    exact hy.1
def ruleGo (l : List S84) : List S98 → List S84
  | [] => l
  | c :: rest => if normNever c.f1 c.f2 c.f3 = true then [] else if normAlways c.f1 c.f2 c.f3 = true then ruleGo l rest else ruleGo (testC (wayNot c.f1) (wayOp c.f1) c.f2 c.f3 c.f0 l.length ++ l) rest
theorem ruleGo_len : ∀ (cs : List S98) (l : List S84), (ruleGo l cs).length ≤ l.length + 7 * cs.length
  | [], l => by simp [ruleGo]
  | c :: cs, l => by
    unfold ruleGo
    split
    · simp
    · split
      · have := ruleGo_len cs l
        simp only [List.length_cons]
        omega
      · have := ruleGo_len cs (testC (wayNot c.f1) (wayOp c.f1) c.f2 c.f3 c.f0 l.length ++ l)
        have h7 := testC_len (wayNot c.f1) (wayOp c.f1) c.f2 c.f3 c.f0 l.length
        simp only [List.length_append, List.length_cons] at this ⊢
        omega
theorem norm_is {c : S98} (h : CondOk c) : cond_Norm.f c.f0 c.f1 c.f2 c.f3 = some (if (normAlways c.f1 c.f2 c.f3 || normNever c.f1 c.f2 c.f3) = true then (normAlways c.f1 c.f2 c.f3, normNever c.f1 c.f2 c.f3, false, 0, 0, 0) else (false, false, wayNot c.f1, wayOp c.f1, c.f2, c.f3)) := by
  unfold cond_Norm.f
  rw [if_pos ⟨h.a0, h.a5, h.o1, h.o6⟩]
  split <;> rfl
theorem rule_loop (cs : List S98) (hcs : ∀ c ∈ cs, CondOk c) (h8 : cs.length ≤ 8) (a b : Int) (ns : List ByteArray) : ∀ (i k : Nat) (l : List S84), i ≤ cs.length → i + 2 ≤ k → l.length + 7 * i ≤ 100 →
    compile_rule.l0 k l ((i : Int) - 1) a b ns cs = some (ruleGo l (cs.take i).reverse) := by
  intro i
  induction i with
  | zero =>
    intro k l _ hk hl
    obtain ⟨k, rfl⟩ : ∃ m, k = m + 1 := ⟨k - 1, by omega⟩
    rw [compile_rule.l0, if_neg (by omega)]
    rfl
  | succ i ih =>
    intro k l hi hk hl
    obtain ⟨k, rfl⟩ : ∃ m, k = m + 1 + 1 := ⟨k - 2, by omega⟩
    have hlt : i < cs.length := by omega
    have e1 : ((i + 1 : Nat) : Int) - 1 = (i : Int) := by omega
    have e2 : rd_T98 cs (i : Int) = cs[i] := by simp [rd_T98, List.getD_eq_getElem?_getD, hlt]
    have hc := hcs cs[i] (List.getElem_mem hlt)
    have e3 : wrap64 ((i : Int) - 1) = (i : Int) - 1 := IntWalk.wrap64_in _ (by omega)
    have e4 : (cs.take (i + 1)).reverse = cs[i] :: (cs.take i).reverse := by rw [List.take_succ_eq_append_getElem hlt, List.reverse_append]; rfl
    rw [compile_rule.l0, e1, if_pos (by omega), if_pos (by omega), if_pos (by omega), e2, norm_is hc, Option.bind_some, e3, e4]
    generalize cs[i] = c at hc ⊢
    unfold ruleGo
    by_cases hn : normNever c.f1 c.f2 c.f3 = true
    · rw [if_pos (show (normAlways c.f1 c.f2 c.f3 || normNever c.f1 c.f2 c.f3) = true by simp [hn])]
      dsimp only
      rw [if_pos hn, if_pos hn]
    · by_cases ha : normAlways c.f1 c.f2 c.f3 = true
      · rw [if_pos (show (normAlways c.f1 c.f2 c.f3 || normNever c.f1 c.f2 c.f3) = true by simp [ha])]
        dsimp only
        rw [if_neg hn, if_neg hn, if_pos ha, if_pos ha]
        exact ih (k + 1) l (by omega) (by omega) (by omega)
      · rw [if_neg (show ¬ (normAlways c.f1 c.f2 c.f3 || normNever c.f1 c.f2 c.f3) = true by simp [ha, hn]), if_neg hn, if_neg ha]
        dsimp only
        rw [if_neg Bool.false_ne_true, if_neg Bool.false_ne_true]
        have e5 : c.f0 = ((c.f0.toNat : Nat) : Int) := by have := hc.a0; omega
        have h5 := hc.a5
        have h7 := testC_len (wayNot c.f1) (wayOp c.f1) c.f2 c.f3 c.f0 l.length
        rw [e5, test_is k _ _ _ _ _ _ c.f0.toNat l.length (by omega) (way_ok hc.o1 hc.o6) (by omega), Option.bind_some, ← e5, if_pos (by omega)]
        exact ih (k + 1) _ (by omega) (by omega) (by simp only [List.length_append]; omega)
def actV (a : S35) : Int := match act_Value.f a.f0 a.f1 with | some (v, _) => v | none => 0
def ActOk (a : S35) : Prop := act_Right.f a.f0 a.f1 = some true
theorem or_u32 {a b : Int} (ha : U32 a) (hb : U32 b) : U32 (bits .or .u32 a b) := by
  obtain ⟨n, rfl⟩ := Int.eq_ofNat_of_zero_le ha.1
  obtain ⟨k, rfl⟩ := Int.eq_ofNat_of_zero_le hb.1
  have h1 := ha.2; have h2 := hb.2
  rw [Go.u32_or_nat n k (by omega) (by omega)]
  have : n ||| k < 2 ^ 32 := Nat.or_lt_two_pow (by omega) (by omega)
  exact ⟨by omega, by omega⟩
theorem act_range {a : S35} (h : ActOk a) : 1 ≤ a.f0 ∧ a.f0 ≤ 8 ∧ 0 ≤ a.f1 ∧ a.f1 ≤ 65535 := by
  unfold ActOk act_Right.f at h
  repeat' split at h
  all_goals first
    | omega
    | (injection h with h; cases h)
theorem tab_u32 {a : Int} (h1 : 1 ≤ a) (h8 : a ≤ 8) : U32 (rd actTab (a - 1)) := by
  have : a = 1 ∨ a = 2 ∨ a = 3 ∨ a = 4 ∨ a = 5 ∨ a = 6 ∨ a = 7 ∨ a = 8 := by omega
  rcases this with rfl | rfl | rfl | rfl | rfl | rfl | rfl | rfl <;> exact ⟨by decide, by decide⟩
theorem value_is {a : S35} (h : ActOk a) : act_Value.f a.f0 a.f1 = some (actV a, 0) ∧ U32 (actV a) := by
  obtain ⟨h1, h2, h3, h4⟩ := act_range h
  have e : act_Value.f a.f0 a.f1 = some (bits .or .u32 (rd actTab (a.f0 - 1)) (a.f1 % 4294967296), 0) := by
    unfold act_Value.f
    rw [show act_Right.f a.f0 a.f1 = some true from h, Option.bind_some, if_pos rfl]
    unfold act_number.f
    rw [if_pos ⟨h1, h2⟩]
    rfl
  have e2 : actV a = bits .or .u32 (rd actTab (a.f0 - 1)) (a.f1 % 4294967296) := by unfold actV; rw [e]
  rw [e2]
  exact ⟨e, or_u32 (tab_u32 h1 h2) ⟨by omega, by omega⟩⟩
structure RuleOk (r : S72) : Prop where
  act : ActOk r.f0
  names : r.f1.length ≤ 16
  conds : r.f2.length ≤ 8
  ok : ∀ c ∈ r.f2, CondOk c
def ruleC (r : S72) : List S84 := ruleGo [⟨6, 0, 0, actV r.f0⟩] r.f2.reverse
theorem rule_is {r : S72} (h : RuleOk r) : compile_rule.f 20 r.f0.f0 r.f0.f1 r.f1 r.f2 = some (ruleC r) := by
  unfold compile_rule.f
  have h8 := h.conds
  rw [(value_is h.act).1, Option.bind_some, IntWalk.wrap64_in _ (by omega)]
  have := rule_loop r.f2 h.ok h.conds r.f0.f0 r.f0.f1 r.f1 r.f2.length 20 [⟨6, 0, 0, actV r.f0⟩] (Nat.le_refl _) (by omega) (by simp; omega)
  rw [List.take_length] at this
  exact this
theorem ruleC_len {r : S72} (h : RuleOk r) : (ruleC r).length ≤ 57 := by
  have := ruleGo_len r.f2.reverse [⟨6, 0, 0, actV r.f0⟩]
  have h8 := h.conds
  simp at this
  unfold ruleC
  omega
def RSpec (d : DT) (c : List S84) (ok : Bool) (v : Int) : Prop := ∀ P p a, CodeAt P p c → (ok = true → Runs d P a p v) ∧ (ok = false → ∀ u, (∀ a', Runs d P a' (p + c.length) u) → Runs d P a p u)
theorem ruleGo_spec {d : DT} (hd : d.Ok) {v : Int} : ∀ (cs : List S98) (l : List S84) (ok : Bool), (∀ c ∈ cs, CondOk c) → RSpec d l ok v → l.length + 7 * cs.length ≤ 200 → RSpec d (ruleGo l cs) (cs.all (fun c => holdsB c d) && ok) v
  | [], l, ok, _, h, _ => by simpa [ruleGo] using h
  | c :: cs, l, ok, hcs, h, hl => by
    have hc := hcs c (List.mem_cons_self ..)
    have hcs' : ∀ c ∈ cs, CondOk c := fun x hx => hcs x (List.mem_cons_of_mem _ hx)
    simp only [List.length_cons] at hl
    unfold ruleGo
    rw [List.all_cons]
    by_cases hn : normNever c.f1 c.f2 c.f3 = true
    · rw [if_pos hn, never_no hc hd hn]
      intro P p a hp
      exact ⟨fun h => by simp at h, fun _ u hu => by simpa using hu a⟩
    · rw [if_neg hn]
      by_cases ha : normAlways c.f1 c.f2 c.f3 = true
      · rw [if_pos ha, always_yes hc hd ha, Bool.true_and]
        exact ruleGo_spec hd cs l ok hcs' h (by omega)
      · rw [if_neg ha]
        have h7 := testC_len (wayNot c.f1) (wayOp c.f1) c.f2 c.f3 c.f0 l.length
        have key : RSpec d (testC (wayNot c.f1) (wayOp c.f1) c.f2 c.f3 c.f0 l.length ++ l) (holdsB c d && ok) v := by
          intro P p a hp
          obtain ⟨p1, p2⟩ := hp.split
          have e5 : c.f0 = ((c.f0.toNat : Nat) : Int) := by have := hc.a0; omega
          have h5 := hc.a5
          rw [e5] at p1
          have hr := fun u => runs_test (d := d) (l := P) (p := p) (a := a) (v := u) hd (n := c.f0.toNat) (by omega) (way_ok hc.o1 hc.o6) hc.m hc.v (by omega) p1
          rw [← e5, ← holds_is hc d] at hr
          cases hb : holdsB c d with
          | true =>
            rw [hb] at hr
            simp only [if_pos, Nat.add_zero, Bool.true_and] at hr ⊢
            refine ⟨fun ho => hr v (fun a' => (h P _ a' p2).1 ho), fun ho u hu => hr u (fun a' => (h P _ a' p2).2 ho u (fun a'' => runs_at (hu a'') (by simp [Nat.add_assoc])))⟩
          | false =>
            rw [hb] at hr
            simp only [Bool.false_eq_true, if_false, Bool.false_and] at hr ⊢
            refine ⟨fun ho => ho.elim, fun _ u hu => hr u (fun a' => runs_at (hu a') (by simp [Nat.add_assoc]))⟩
        have := ruleGo_spec hd cs _ (holdsB c d && ok) hcs' key (by simp only [List.length_append]; omega)
        rw [show (holdsB c d && cs.all (fun c => holdsB c d) && ok) = (cs.all (fun c => holdsB c d) && (holdsB c d && ok)) by cases holdsB c d <;> simp]
        exact this
theorem rule_spec {d : DT} (hd : d.Ok) {r : S72} (h : RuleOk r) : RSpec d (ruleC r) (r.f2.all (fun c => holdsB c d)) (actV r.f0) := by
  have h0 : RSpec d [⟨6, 0, 0, actV r.f0⟩] true (actV r.f0) := fun P p a hp => ⟨fun _ => runs_end hp (step_retk d (value_is h.act).2), fun h => by cases h⟩
  have h8 := h.conds
  have := ruleGo_spec hd r.f2.reverse _ true (fun c hc => h.ok c (List.mem_reverse.1 hc)) h0 (by simp; omega)
  rw [List.all_reverse, Bool.and_true] at this
  exact this
def Fits (c : List S84) (e : Nat) : Prop := ∀ (n : Nat) (h : n < c.length), InsOk c[n] (c.length - 1 - n + e)
theorem InsOk.more {i : S84} {b b' : Nat} (h : InsOk i b) (hb : b ≤ b') : InsOk i b' := by
  obtain ⟨h1, h2, h3, h4, h5, h6, h7⟩ := h
  refine ⟨h1, h2, h3, h4, h5, h6, ?_⟩
  rcases h7 with ⟨a, b, c, d⟩ | ⟨a, b⟩ | ⟨a, b, c⟩ | ⟨a, b⟩ | a
  · exact .inl ⟨a, b, c, by omega⟩
  · exact .inr (.inl ⟨a, by omega⟩)
  · exact .inr (.inr (.inl ⟨a, by omega, by omega⟩))
  · exact .inr (.inr (.inr (.inl ⟨a, by omega⟩)))
  · exact .inr (.inr (.inr (.inr a)))
theorem Fits.nil (e : Nat) : Fits [] e := fun n h => by simp at h
theorem Fits.more {c : List S84} {e e' : Nat} (h : Fits c e) (he : e ≤ e') : Fits c e' := fun n hn => (h n hn).more (by omega)
theorem Fits.append {c1 c2 : List S84} {e : Nat} (h1 : Fits c1 (c2.length + e)) (h2 : Fits c2 e) : Fits (c1 ++ c2) e := by
  intro n hn
  simp only [List.length_append] at hn ⊢
  by_cases h : n < c1.length
  · rw [List.getElem_append_left h]
    exact (h1 n h).more (by omega)
  · rw [List.getElem_append_right (by omega)]
    exact (h2 (n - c1.length) (by omega)).more (by omega)
theorem Fits.cons {i : S84} {c : List S84} {e : Nat} (h1 : InsOk i (c.length + e)) (h2 : Fits c e) : Fits (i :: c) e := by
  intro n hn
  cases n with
  | zero => exact h1.more (by simp)
  | succ n =>
    simp only [List.length_cons] at hn ⊢
    exact (h2 n (by omega)).more (by omega)
theorem ok_ld {k : Int} {b : Nat} (h0 : 0 ≤ k) (h64 : k < 64) (h4 : k % 4 = 0) (hb : 0 < b) : InsOk ⟨32, 0, 0, k⟩ b := ⟨h0, by show k < 4294967296; omega, Int.le_refl 0, by show (0 : Int) < 256; decide, Int.le_refl 0, by show (0 : Int) < 256; decide, .inl ⟨rfl, h4, h64, hb⟩⟩
theorem ok_and {k : Int} {b : Nat} (h : U32 k) (hb : 0 < b) : InsOk ⟨84, 0, 0, k⟩ b := ⟨h.1, h.2, Int.le_refl 0, by show (0 : Int) < 256; decide, Int.le_refl 0, by show (0 : Int) < 256; decide, .inr (.inl ⟨rfl, hb⟩)⟩
theorem ok_ret {k : Int} {b : Nat} (h : U32 k) : InsOk ⟨6, 0, 0, k⟩ b := ⟨h.1, h.2, Int.le_refl 0, by show (0 : Int) < 256; decide, Int.le_refl 0, by show (0 : Int) < 256; decide, .inr (.inr (.inr (.inr rfl)))⟩
theorem ok_ja {k : Int} {b : Nat} (h : U32 k) (hb : k < b) : InsOk ⟨5, 0, 0, k⟩ b := ⟨h.1, h.2, Int.le_refl 0, by show (0 : Int) < 256; decide, Int.le_refl 0, by show (0 : Int) < 256; decide, .inr (.inr (.inr (.inl ⟨rfl, hb⟩)))⟩
theorem ok_jmp {c t f k : Int} {b : Nat} (hc : c = 21 ∨ c = 37 ∨ c = 53) (ht : 0 ≤ t ∧ t < 256) (hf : 0 ≤ f ∧ f < 256) (hk : U32 k) (htb : t < b) (hfb : f < b) : InsOk ⟨c, t, f, k⟩ b := ⟨hk.1, hk.2, ht.1, ht.2, hf.1, hf.2, .inr (.inr (.inl ⟨hc, htb, hfb⟩))⟩
theorem fits_load {k m : Int} {e : Nat} (h0 : 0 ≤ k) (h64 : k < 64) (h4 : k % 4 = 0) (hm : U32 m) (he : 0 < e) : Fits (loadC k m) e := by
  unfold loadC
  split
  · exact Fits.cons (ok_ld h0 h64 h4 (by simp; omega)) (Fits.nil _)
  · exact Fits.cons (ok_ld h0 h64 h4 (by simp; omega)) (Fits.cons (ok_and hm (by simp; omega)) (Fits.nil _))
theorem fits_test {not : Bool} {op mask val : Int} {n els e : Nat} (hn : n ≤ 5) (hop : op = 1 ∨ op = 5 ∨ op = 6) (hels : els ≤ 200) (he : els < e) : Fits (testC not op mask val (n : Int) els) e := by
  have hc : (if op = 1 then (21 : Int) else if op = 5 then 37 else 53) = 21 ∨ (if op = 1 then (21 : Int) else if op = 5 then 37 else 53) = 37 ∨ (if op = 1 then (21 : Int) else if op = 5 then 37 else 53) = 53 := by
    rcases hop with rfl | rfl | rfl <;> simp
  have hend : Fits (endC not op mask val (n : Int) els) e := by
    unfold endC
    refine Fits.append (fits_load (by omega) (by omega) (by omega) (loW_u32 _) (by simp; omega)) ?_
    split
    · exact Fits.cons (ok_jmp hc ⟨by omega, by omega⟩ ⟨by omega, by omega⟩ (loW_u32 _) (by simp; omega) (by simp; omega)) (Fits.nil _)
    · exact Fits.cons (ok_jmp hc ⟨by omega, by omega⟩ ⟨by omega, by omega⟩ (loW_u32 _) (by simp; omega) (by simp; omega)) (Fits.nil _)
  have hel := endC_len not op mask val (n : Int) els
  have hml := midC_len not op val (endC not op mask val (n : Int) els).length els
  unfold testC
  refine Fits.append (fits_load (by omega) (by omega) (by omega) (hiW_u32 _) (by simp only [List.length_append]; omega)) (Fits.append ?_ hend)
  generalize (endC not op mask val (n : Int) els).length = E at hel hml ⊢
  clear hml
  unfold midC
  split
  · exact Fits.cons (ok_jmp (.inl rfl) ⟨by omega, by omega⟩ ⟨by split <;> omega, by split <;> omega⟩ (hiW_u32 _) (by simp; omega) (by simp; split <;> omega)) (Fits.nil _)
  · split
    · exact Fits.cons (ok_jmp (.inr (.inl rfl)) ⟨by omega, by omega⟩ ⟨by omega, by omega⟩ (hiW_u32 _) (by simp; omega) (by simp; omega)) (Fits.cons (ok_jmp (.inl rfl) ⟨by omega, by omega⟩ ⟨by omega, by omega⟩ (hiW_u32 _) (by simp; omega) (by simp; omega)) (Fits.nil _))
    · exact Fits.cons (ok_jmp (.inr (.inl rfl)) ⟨by omega, by omega⟩ ⟨by omega, by omega⟩ (hiW_u32 _) (by simp; omega) (by simp; omega)) (Fits.cons (ok_jmp (.inl rfl) ⟨by omega, by omega⟩ ⟨by omega, by omega⟩ (hiW_u32 _) (by simp; omega) (by simp; omega)) (Fits.nil _))
theorem ruleGo_fits {e : Nat} (he : 0 < e) : ∀ (cs : List S98) (l : List S84), (∀ c ∈ cs, CondOk c) → l.length + 7 * cs.length ≤ 200 → Fits l e → Fits (ruleGo l cs) e
  | [], l, _, _, h => h
  | c :: cs, l, hcs, hl, h => by
    have hc := hcs c (List.mem_cons_self ..)
    have hcs' : ∀ c ∈ cs, CondOk c := fun x hx => hcs x (List.mem_cons_of_mem _ hx)
    simp only [List.length_cons] at hl
    unfold ruleGo
    split
    · exact Fits.nil _
    · split
      · exact ruleGo_fits he cs l hcs' (by omega) h
      · have h7 := testC_len (wayNot c.f1) (wayOp c.f1) c.f2 c.f3 c.f0 l.length
        refine ruleGo_fits he cs _ hcs' (by simp only [List.length_append]; omega) (Fits.append ?_ h)
        have e5 : c.f0 = ((c.f0.toNat : Nat) : Int) := by have := hc.a0; omega
        have h5 := hc.a5
        rw [e5]
        exact fits_test (by omega) (way_ok hc.o1 hc.o6) (by omega) (by omega)
theorem rule_fits {r : S72} (h : RuleOk r) {e : Nat} (he : 0 < e) : Fits (ruleC r) e := by
  have h8 := h.conds
  exact ruleGo_fits he _ _ (fun c hc => h.ok c (List.mem_reverse.1 hc)) (by simp; omega) (Fits.cons (ok_ret (value_is h.act).2) (Fits.nil _))
end Go.Proofs.Ytidnojkijfinaaa.Fns
