/- Part of the proof of TopVerdictSaid. -/
import Derived.Test.YtidnojkijfinaaaQTpHolds
import Derived.Laws.BitsAllLaws
namespace Go.Proofs.Ytidnojkijfinaaa.Fns
open Go.RowKit Go.Proofs.YtidnojkijfinaaaW.PrintWords Go.Proofs.YtidnojkijfinaaaW.PrintLast Go.Proofs.YtidnojkijfinaaaW.PrintMore
set_option linter.unusedVariables false
set_option linter.unusedSimpArgs false
def Runs (d : DT) (l : List S84) (a : Int) (p : Nat) (v : Int) : Prop := ∃ K, vmRun d l K a p = some v
def CodeAt (l : List S84) (p : Nat) (c : List S84) : Prop := ∃ pre post, l = pre ++ (c ++ post) ∧ pre.length = p
theorem CodeAt.split {l c1 c2 : List S84} {p : Nat} (h : CodeAt l p (c1 ++ c2)) : CodeAt l p c1 ∧ CodeAt l (p + c1.length) c2 := by
  obtain ⟨pre, post, e, hp⟩ := h
  exact ⟨⟨pre, c2 ++ post, by simp [e], hp⟩, ⟨pre ++ c1, post, by simp [e], by simp [hp]⟩⟩
theorem CodeAt.head {l c : List S84} {i : S84} {p : Nat} (h : CodeAt l p (i :: c)) : (∃ hp : p < l.length, l[p] = i) ∧ CodeAt l (p + 1) c := by
  obtain ⟨pre, post, e, hp⟩ := h
  subst e; subst hp
  exact ⟨⟨by simp, by simp⟩, ⟨pre ++ [i], post, by simp, by simp⟩⟩
theorem runs_cons {d : DT} {l c : List S84} {i : S84} {p : Nat} {a a' s v : Int} (h : CodeAt l p (i :: c)) (hs : vmStep d i a = some (.inl (a', s))) (hr : Runs d l a' (p + 1 + s.toNat) v) : Runs d l a p v := by
  obtain ⟨⟨hp, hi⟩, _⟩ := h.head
  obtain ⟨K, hk⟩ := hr
  refine ⟨K + 1, ?_⟩
  rw [vmRun, dif_pos hp, hi, hs]
  exact hk
theorem runs_at {d : DT} {l : List S84} {p q : Nat} {a v : Int} (h : Runs d l a p v) (e : p = q) : Runs d l a q v := by rw [← e]; exact h
theorem runs_end {d : DT} {l c : List S84} {i : S84} {p : Nat} {a v : Int} (h : CodeAt l p (i :: c)) (hs : vmStep d i a = some (.inr v)) : Runs d l a p v := by
  obtain ⟨⟨hp, hi⟩, _⟩ := h.head
  refine ⟨1, ?_⟩
  rw [vmRun, dif_pos hp, hi, hs]
def U32 (x : Int) : Prop := 0 ≤ x ∧ x < 4294967296
def U64 (x : Int) : Prop := 0 ≤ x ∧ x < 18446744073709551616
theorem step_jmp (d : DT) {c t f k a : Int} (hc : c = 21 ∨ c = 37 ∨ c = 53) (ht : 0 ≤ t ∧ t < 256) (hf : 0 ≤ f ∧ f < 256) (hk : U32 k) : vmStep d ⟨c, t, f, k⟩ a = some (.inl (a, if jmpB c a k then t else f)) := by
  unfold vmStep skipOf
  rw [if_pos ⟨hk.1, hk.2, ht.1, ht.2, hf.1, hf.2⟩]
  rcases hc with rfl | rfl | rfl <;> rfl
theorem step_jump_a (d : DT) {k a : Int} (hk : U32 k) : vmStep d ⟨5, 0, 0, k⟩ a = some (.inl (a, k)) := by
  unfold vmStep
  rw [if_pos ⟨hk.1, hk.2, Int.le_refl 0, show (0 : Int) < 256 by decide, Int.le_refl 0, show (0 : Int) < 256 by decide⟩]
  rfl
theorem step_retk (d : DT) {k a : Int} (hk : U32 k) : vmStep d ⟨6, 0, 0, k⟩ a = some (.inr k) := by
  unfold vmStep
  rw [if_pos ⟨hk.1, hk.2, Int.le_refl 0, show (0 : Int) < 256 by decide, Int.le_refl 0, show (0 : Int) < 256 by decide⟩]
  rfl
theorem step_ldabs (d : DT) {k a : Int} (h0 : 0 ≤ k) (h64 : k < 64) (h4 : k % 4 = 0) : vmStep d ⟨32, 0, 0, k⟩ a = some (.inl (d.word (k / 4).toNat, 0)) := by
  unfold vmStep
  rw [if_pos ⟨h0, by show k < 4294967296; omega, Int.le_refl 0, show (0 : Int) < 256 by decide, Int.le_refl 0, show (0 : Int) < 256 by decide⟩]
  show (if k % 4 = 0 ∧ k < 64 then some (Sum.inl (d.word (k / 4).toNat, (0 : Int)) : Sum (Int × Int) Int) else none) = _
  rw [if_pos ⟨h4, h64⟩]
theorem step_andk (d : DT) {k a : Int} (hk : U32 k) : vmStep d ⟨84, 0, 0, k⟩ a = some (.inl (bits .and .u32 a k, 0)) := by
  unfold vmStep
  rw [if_pos ⟨hk.1, hk.2, Int.le_refl 0, show (0 : Int) < 256 by decide, Int.le_refl 0, show (0 : Int) < 256 by decide⟩]
  rfl
def loadC (k m : Int) : List S84 := if m = 4294967295 then [⟨32, 0, 0, k⟩] else [⟨32, 0, 0, k⟩, ⟨84, 0, 0, m⟩]
theorem loadC_len (k m : Int) : 1 ≤ (loadC k m).length ∧ (loadC k m).length ≤ 2 := by
  unfold loadC
  split <;> simp
theorem and_full {x : Int} (h : U32 x) : bits .and .u32 x 4294967295 = x := by
  rw [Go.u32_and x 4294967295 h.1 h.2 (by decide) (by decide)]
  have : x.toNat &&& (4294967295 : Int).toNat = x.toNat := by
    show x.toNat &&& (2 ^ 32 - 1) = x.toNat
    rw [Nat.and_two_pow_sub_one_eq_mod]
    have := h.1; have := h.2
    omega
  rw [this]
  have := h.1
  omega
theorem runs_load {d : DT} {l : List S84} {p : Nat} {k m a v : Int} (h0 : 0 ≤ k) (h64 : k < 64) (h4 : k % 4 = 0) (hm : U32 m) (hw : U32 (d.word (k / 4).toNat)) (h : CodeAt l p (loadC k m))
    (hr : Runs d l (bits .and .u32 (d.word (k / 4).toNat) m) (p + (loadC k m).length) v) : Runs d l a p v := by
  unfold loadC at h hr
  by_cases e : m = 4294967295
  · rw [if_pos e] at h hr
    rw [e, and_full hw] at hr
    exact runs_cons h (step_ldabs d h0 h64 h4) hr
  · rw [if_neg e] at h hr
    refine runs_cons h (step_ldabs d h0 h64 h4) ?_
    refine runs_cons h.head.2 (step_andk d hm) ?_
    exact hr
def endC (not : Bool) (op mask val arg : Int) (els : Nat) : List S84 :=
  loadC (16 + 8 * arg) (loW mask) ++ [if not = true then ⟨if op = 1 then 21 else if op = 5 then 37 else 53, (els : Int), 0, loW val⟩ else ⟨if op = 1 then 21 else if op = 5 then 37 else 53, 0, (els : Int), loW val⟩]
def midC (not : Bool) (op val : Int) (e els : Nat) : List S84 :=
  if op = 1 then [⟨21, 0, if not = true then (e : Int) else ((e + els : Nat) : Int), hiW val⟩]
  else if not = true then [⟨37, ((e + els + 1 : Nat) : Int), 0, hiW val⟩, ⟨21, 0, (e : Int), hiW val⟩] else [⟨37, ((e + 1 : Nat) : Int), 0, hiW val⟩, ⟨21, 0, ((e + els : Nat) : Int), hiW val⟩]
def testC (not : Bool) (op mask val arg : Int) (els : Nat) : List S84 :=
  loadC (20 + 8 * arg) (hiW mask) ++ (midC not op val (endC not op mask val arg els).length els ++ endC not op mask val arg els)
theorem endC_len (not : Bool) (op mask val arg : Int) (els : Nat) : 2 ≤ (endC not op mask val arg els).length ∧ (endC not op mask val arg els).length ≤ 3 := by
  have := loadC_len (16 + 8 * arg) (loW mask)
  unfold endC
  simp
  omega
theorem midC_len (not : Bool) (op val : Int) (e els : Nat) : 1 ≤ (midC not op val e els).length ∧ (midC not op val e els).length ≤ 2 := by
  unfold midC
  split
  · simp
  · split <;> simp
theorem testC_len (not : Bool) (op mask val arg : Int) (els : Nat) : 4 ≤ (testC not op mask val arg els).length ∧ (testC not op mask val arg els).length ≤ 7 := by
  have h1 := loadC_len (20 + 8 * arg) (hiW mask)
  have h2 := midC_len not op val (endC not op mask val arg els).length els
  have h3 := endC_len not op mask val arg els
  unfold testC
  simp only [List.length_append]
  omega
theorem lo_and {x m : Int} (hx : U64 x) (hm : U64 m) : loW (bits .and .u64 x m) = bits .and .u32 (loW x) (loW m) := by
  obtain ⟨n, rfl⟩ := Int.eq_ofNat_of_zero_le hx.1
  obtain ⟨k, rfl⟩ := Int.eq_ofNat_of_zero_le hm.1
  have h1 := hx.2; have h2 := hm.2
  rw [Go.u64_and_nat n k (by omega) (by omega)]
  have e1 : loW (n : Int) = ((n % 4294967296 : Nat) : Int) := by unfold loW; omega
  have e2 : loW (k : Int) = ((k % 4294967296 : Nat) : Int) := by unfold loW; omega
  have e3 : loW ((n &&& k : Nat) : Int) = (((n &&& k) % 4294967296 : Nat) : Int) := by unfold loW; omega
  rw [e1, e2, e3, Go.u32_and_nat _ _ (by omega) (by omega)]
  have := Nat.and_mod_two_pow (a := n) (b := k) (n := 32)
  exact congrArg Int.ofNat this
theorem hi_and {x m : Int} (hx : U64 x) (hm : U64 m) : hiW (bits .and .u64 x m) = bits .and .u32 (hiW x) (hiW m) := by
  obtain ⟨n, rfl⟩ := Int.eq_ofNat_of_zero_le hx.1
  obtain ⟨k, rfl⟩ := Int.eq_ofNat_of_zero_le hm.1
  have h1 := hx.2; have h2 := hm.2
  have h3 : n &&& k ≤ n := Nat.and_le_left
  rw [Go.u64_and_nat n k (by omega) (by omega)]
  have e1 : hiW (n : Int) = ((n / 4294967296 : Nat) : Int) := by unfold hiW; omega
  have e2 : hiW (k : Int) = ((k / 4294967296 : Nat) : Int) := by unfold hiW; omega
  have e3 : hiW ((n &&& k : Nat) : Int) = (((n &&& k) / 4294967296 : Nat) : Int) := by unfold hiW; omega
  rw [e1, e2, e3, Go.u32_and_nat _ _ (by omega) (by omega)]
  have := Nat.and_div_two_pow (a := n) (b := k) (n := 32)
  exact congrArg Int.ofNat this
theorem and_u64 {x m : Int} (hx : U64 x) (hm : U64 m) : U64 (bits .and .u64 x m) ∧ bits .and .u64 x m ≤ m := by
  rw [Go.u64_and x m hx.1 hx.2 hm.1 hm.2]
  have h3 : x.toNat &&& m.toNat ≤ m.toNat := Nat.and_le_right
  have := hm.1; have := hm.2
  exact ⟨⟨by omega, by omega⟩, by omega⟩
theorem loW_u32 (x : Int) : U32 (loW x) := by unfold loW U32; omega
theorem hiW_u32 (x : Int) : U32 (hiW x) := by unfold hiW U32; omega
structure DT.Ok (d : DT) : Prop where
  nr : U32 d.nr
  arch : U32 d.arch
  arg : ∀ n, U64 (d.arg n)
theorem word_lo (d : DT) (n : Nat) (h : n ≤ 5) : d.word (4 + 2 * n) = loW (d.arg n) := by
  have : n = 0 ∨ n = 1 ∨ n = 2 ∨ n = 3 ∨ n = 4 ∨ n = 5 := by omega
  rcases this with rfl | rfl | rfl | rfl | rfl | rfl <;> rfl
theorem word_hi (d : DT) (n : Nat) (h : n ≤ 5) : d.word (5 + 2 * n) = hiW (d.arg n) := by
  have : n = 0 ∨ n = 1 ∨ n = 2 ∨ n = 3 ∨ n = 4 ∨ n = 5 := by omega
  rcases this with rfl | rfl | rfl | rfl | rfl | rfl <;> rfl
def heldOp (op y v : Int) : Bool := if op = 1 then y == v else if op = 5 then decide (v < y) else decide (v ≤ y)
theorem halves_eq {x y : Int} (hx : U64 x) (hy : U64 y) : (x == y) = (hiW x == hiW y && loW x == loW y) := by
  rw [Bool.eq_iff_iff, Bool.and_eq_true, beq_iff_eq, beq_iff_eq, beq_iff_eq]
  have := hx.1; have := hx.2; have := hy.1; have := hy.2
  unfold hiW loW
  omega
theorem halves_lt {x y : Int} (hx : U64 x) (hy : U64 y) : decide (x < y) = (decide (hiW x < hiW y) || (hiW y == hiW x && decide (loW x < loW y))) := by
  rw [Bool.eq_iff_iff, Bool.or_eq_true, Bool.and_eq_true, decide_eq_true_iff, decide_eq_true_iff, decide_eq_true_iff, beq_iff_eq]
  have := hx.1; have := hx.2; have := hy.1; have := hy.2
  unfold hiW loW
  omega
theorem halves_le {x y : Int} (hx : U64 x) (hy : U64 y) : decide (x ≤ y) = (decide (hiW x < hiW y) || (hiW y == hiW x && decide (loW x ≤ loW y))) := by
  rw [Bool.eq_iff_iff, Bool.or_eq_true, Bool.and_eq_true, decide_eq_true_iff, decide_eq_true_iff, decide_eq_true_iff, beq_iff_eq]
  have := hx.1; have := hx.2; have := hy.1; have := hy.2
  unfold hiW loW
  omega
theorem runs_test {d : DT} {l : List S84} {p : Nat} {a v op mask val : Int} {not : Bool} {n els : Nat} (hd : d.Ok) (hn : n ≤ 5) (hop : op = 1 ∨ op = 5 ∨ op = 6) (hm : U64 mask) (hv : U64 val) (hels : els ≤ 200)
    (h : CodeAt l p (testC not op mask val (n : Int) els))
    (hr : ∀ a', Runs d l a' (p + (testC not op mask val (n : Int) els).length + (if (heldOp op (bits .and .u64 (d.arg n) mask) val != not) = true then 0 else els)) v) : Runs d l a p v := by
  have hx := hd.arg n
  obtain ⟨hy, _⟩ := and_u64 hx hm
  have elo := lo_and hx hm
  have ehi := hi_and hx hm
  have helen := endC_len not op mask val (n : Int) els
  have hlen : (testC not op mask val (n : Int) els).length = (loadC (20 + 8 * (n : Int)) (hiW mask)).length + ((midC not op val (endC not op mask val (n : Int) els).length els).length + (endC not op mask val (n : Int) els).length) := by
    unfold testC; simp only [List.length_append]
  rw [hlen] at hr
  unfold testC at h
  obtain ⟨h1, h⟩ := h.split
  obtain ⟨h2, h3⟩ := h.split
  have w1 : d.word ((20 + 8 * (n : Int)) / 4).toNat = hiW (d.arg n) := by rw [← word_hi d n hn]; congr 1; omega
  have w2 : d.word ((16 + 8 * (n : Int)) / 4).toNat = loW (d.arg n) := by rw [← word_lo d n hn]; congr 1; omega
  refine runs_load (by omega) (by omega) (by omega) (hiW_u32 mask) (by rw [w1]; exact hiW_u32 _) h1 ?_
  rw [w1, ← ehi]
  clear h1 w1 ehi
  have hend : ∀ a' u, (∀ a'', Runs d l a'' (p + (loadC (20 + 8 * (n : Int)) (hiW mask)).length + (midC not op val (endC not op mask val (n : Int) els).length els).length + (endC not op mask val (n : Int) els).length + (if (jmpB (if op = 1 then 21 else if op = 5 then 37 else 53) (loW (bits .and .u64 (d.arg n) mask)) (loW val) != not) = true then 0 else els)) u) → Runs d l a' (p + (loadC (20 + 8 * (n : Int)) (hiW mask)).length + (midC not op val (endC not op mask val (n : Int) els).length els).length) u := by
    intro a' u hu
    obtain ⟨g1, g2⟩ := CodeAt.split (c1 := loadC (16 + 8 * (n : Int)) (loW mask)) (c2 := [if not = true then ⟨if op = 1 then 21 else if op = 5 then 37 else 53, (els : Int), 0, loW val⟩ else ⟨if op = 1 then 21 else if op = 5 then 37 else 53, 0, (els : Int), loW val⟩]) h3
    refine runs_load (by omega) (by omega) (by omega) (loW_u32 mask) (by rw [w2]; exact loW_u32 _) g1 ?_
    rw [w2, ← elo]
    have hel : (endC not op mask val (n : Int) els).length = (loadC (16 + 8 * (n : Int)) (loW mask)).length + 1 := by unfold endC; simp
    rw [hel] at hu ⊢
    rw [hel] at g2
    have hc : ∀ op : Int, op = 1 ∨ op = 5 ∨ op = 6 → (if op = 1 then (21 : Int) else if op = 5 then 37 else 53) = 21 ∨ (if op = 1 then (21 : Int) else if op = 5 then 37 else 53) = 37 ∨ (if op = 1 then (21 : Int) else if op = 5 then 37 else 53) = 53 := by
      intro op h
      rcases h with rfl | rfl | rfl <;> simp
    cases hnot : not with
    | true =>
      rw [hnot, if_pos rfl] at g2
      rw [hnot] at hu
      refine runs_cons g2 (step_jmp d (hc op hop) ⟨by omega, by omega⟩ ⟨by omega, by omega⟩ (loW_u32 _)) ?_
      have := hu (loW (bits .and .u64 (d.arg n) mask))
      cases hj : jmpB (if op = 1 then 21 else if op = 5 then 37 else 53) (loW (bits .and .u64 (d.arg n) mask)) (loW val)
      · rw [hj] at this
        simpa [Nat.add_assoc] using this
      · rw [hj] at this
        simpa [Nat.add_assoc] using this
    | false =>
      rw [hnot, if_neg (by simp)] at g2
      rw [hnot] at hu
      refine runs_cons g2 (step_jmp d (hc op hop) ⟨by omega, by omega⟩ ⟨by omega, by omega⟩ (loW_u32 _)) ?_
      have := hu (loW (bits .and .u64 (d.arg n) mask))
      cases hj : jmpB (if op = 1 then 21 else if op = 5 then 37 else 53) (loW (bits .and .u64 (d.arg n) mask)) (loW val)
      · rw [hj] at this
        simpa [Nat.add_assoc] using this
      · rw [hj] at this
        simpa [Nat.add_assoc] using this
  generalize bits .and .u64 (d.arg n) mask = y at hr hend hy ⊢
  generalize (endC not op mask val (n : Int) els).length = E at *
  generalize (loadC (20 + 8 * (n : Int)) (hiW mask)).length = L at *
  clear h3 w2 elo hlen
  have hyu := hiW_u32 y
  have hvu := hiW_u32 val
  unfold midC at h2 hr hend
  rcases hop with rfl | hop
  ·
    rw [if_pos rfl] at h2 hr hend
    simp only [List.length_singleton] at hr hend
    have hb : heldOp 1 y val = (hiW y == hiW val && loW y == loW val) := by rw [← halves_eq hy hv]; rfl
    rw [hb] at hr
    refine runs_cons h2 (step_jmp d (.inl rfl) ⟨by omega, by omega⟩ ⟨by split <;> omega, by split <;> omega⟩ (hiW_u32 _)) ?_
    show Runs d l (hiW y) (p + L + 1 + (if (hiW y == hiW val) = true then (0 : Int) else if not = true then (E : Int) else ((E + els : Nat) : Int)).toNat) v
    cases hq : (hiW y == hiW val)
    · rw [hq, Bool.false_and] at hr
      have := hr (hiW y)
      cases not <;> simp [Nat.add_assoc] at this ⊢ <;> exact this
    · rw [hq, Bool.true_and] at hr
      refine hend _ _ (fun a'' => ?_)
      have := hr a''
      show Runs d l a'' (p + L + 1 + E + (if ((loW y == loW val) != not) = true then 0 else els)) v
      exact runs_at this (by omega)
  · have h1 : op ≠ 1 := by omega
    rw [if_neg h1] at h2 hr hend
    have hb : heldOp op y val = (decide (hiW val < hiW y) || (hiW y == hiW val && jmpB (if op = 1 then 21 else if op = 5 then 37 else 53) (loW y) (loW val))) := by
      rcases hop with rfl | rfl
      · exact halves_lt hv hy
      · exact halves_le hv hy
    rw [hb] at hr
    clear hb
    generalize jmpB (if op = 1 then 21 else if op = 5 then 37 else 53) (loW y) (loW val) = J at hr hend
    cases hnot : not with
    | true =>
      rw [hnot] at hr hend
      rw [hnot, if_pos rfl] at h2
      simp only [if_pos rfl, List.length_cons, List.length_nil] at hr hend
      refine runs_cons h2 (step_jmp d (.inr (.inl rfl)) ⟨by omega, by omega⟩ ⟨by omega, by omega⟩ (hiW_u32 _)) ?_
      show Runs d l (hiW y) (p + L + 1 + (if decide (hiW val < hiW y) = true then ((E + els + 1 : Nat) : Int) else 0).toNat) v
      cases hq : decide (hiW val < hiW y)
      · rw [hq] at hr
        simp only [Bool.false_or] at hr
        simp only [Bool.false_eq_true, if_false, Int.toNat_zero, Nat.add_zero]
        refine runs_cons h2.head.2 (step_jmp d (.inl rfl) ⟨by omega, by omega⟩ ⟨by omega, by omega⟩ (hiW_u32 _)) ?_
        show Runs d l (hiW y) (p + L + 1 + 1 + (if (hiW y == hiW val) = true then (0 : Int) else (E : Int)).toNat) v
        cases hq2 : (hiW y == hiW val)
        · rw [hq2] at hr
          have := hr (hiW y)
          simpa [Nat.add_assoc] using this
        · rw [hq2] at hr
          refine hend _ _ (fun a'' => ?_)
          have := hr a''
          simpa [Nat.add_assoc] using this
      · rw [hq] at hr
        have := hr (hiW y)
        simp at this ⊢
        exact runs_at this (by omega)
    | false =>
      rw [hnot] at hr hend
      rw [hnot, if_neg (by simp)] at h2
      simp only [Bool.false_eq_true, if_false, List.length_cons, List.length_nil] at hr hend
      refine runs_cons h2 (step_jmp d (.inr (.inl rfl)) ⟨by omega, by omega⟩ ⟨by omega, by omega⟩ (hiW_u32 _)) ?_
      show Runs d l (hiW y) (p + L + 1 + (if decide (hiW val < hiW y) = true then ((E + 1 : Nat) : Int) else 0).toNat) v
      cases hq : decide (hiW val < hiW y)
      · rw [hq] at hr
        simp only [Bool.false_or] at hr
        simp only [Bool.false_eq_true, if_false, Int.toNat_zero, Nat.add_zero]
        refine runs_cons h2.head.2 (step_jmp d (.inl rfl) ⟨by omega, by omega⟩ ⟨by omega, by omega⟩ (hiW_u32 _)) ?_
        show Runs d l (hiW y) (p + L + 1 + 1 + (if (hiW y == hiW val) = true then (0 : Int) else ((E + els : Nat) : Int)).toNat) v
        cases hq2 : (hiW y == hiW val)
        · rw [hq2] at hr
          have := hr (hiW y)
          simp at this ⊢
          exact runs_at this (by omega)
        · rw [hq2] at hr
          refine hend _ _ (fun a'' => ?_)
          have := hr a''
          simpa [Nat.add_assoc] using this
      · rw [hq] at hr
        have := hr (hiW y)
        simp at this ⊢
        exact runs_at this (by omega)
end Go.Proofs.Ytidnojkijfinaaa.Fns
