/- Tables of files: any install, any close; rows of calls that came in; the law FdsLowest. -/
import Derived.Test.YtlohaefhigbdjaaFdsFull
namespace Go.Proofs.Ytlohaefhigbdjaa.Fds
open Go.RowKit Go.Proofs.YtlohaefhigbdjaaW.PrintWords
set_option linter.unusedVariables false
set_option linter.unusedSimpArgs false

theorem free_spec (I : List Bool) : (∀ j, j < free I → I.getD j false = true) ∧ (free I < I.length → I.getD (free I) false = false) ∧ free I ≤ I.length := by
  unfold free
  induction I with
  | nil => simp
  | cons b I ih =>
    cases b with
    | false => simp
    | true =>
      simp only [List.takeWhile_cons, if_true, List.length_cons]
      refine ⟨fun j hj => ?_, fun h => ?_, by omega⟩
      · cases j with
        | zero => rfl
        | succ j => exact ih.1 j (by omega)
      · exact ih.2.1 (by omega)

def inR (I : List Bool) : Int := if free I < 16 then (free I : Int) else -1
def inE (I : List Bool) : Int := if free I < 16 then 0 else 16
def inV (V : List Int) (I : List Bool) (val : Int) : List Int := if free I < 16 then V.set (free I) val else V
def inI (I : List Bool) : List Bool := if free I < 16 then I.set (free I) true else I
def has (I : List Bool) (k : Int) : Bool := decide (0 ≤ k) && decide (k < 16) && I.getD k.toNat false
def clE (I : List Bool) (k : Int) : Int := if has I k = true then 0 else 17
def clV (V : List Int) (I : List Bool) (k : Int) : List Int := if has I k = true then V.set k.toNat 0 else V
def clI (I : List Bool) (k : Int) : List Bool := if has I k = true then I.set k.toNat false else I
def gv (V : List Int) (I : List Bool) (k : Nat) : Int := if I.getD k false = true then V.getD k 0 else 0

theorem install_any (w : World) (g : Nat) (V : List Int) (I : List Bool) (ht : Tab w g V I) (val : Int) :
    Calls Try.prog 9 #[.pointer (some ⟨g, 0, none⟩), .int .i64 val] w fun e w' => e = .returned (.tuple #[.int .i64 (inR I), .int .i64 (inE I)]) ∧ Turned g w (inV V I val) (inI I) w' := by
  have hs := free_spec I
  rw [ht.li] at hs
  unfold inR inE inV inI
  by_cases h : free I < 16
  · simp only [if_pos h]
    exact install_in w g V I ht val (free I) h (hs.2.1 h) hs.1
  · simp only [if_neg h]
    refine (install_full w g V I ht val (fun j hj => hs.1 j (by omega))).mono ?_
    rintro e w' ⟨he, rfl⟩
    exact ⟨he, ht, Kept.refl _ _⟩
theorem close_any (w : World) (g : Nat) (V : List Int) (I : List Bool) (ht : Tab w g V I) (k : Int) :
    Calls Try.prog 15 #[.pointer (some ⟨g, 0, none⟩), .int .i64 k] w fun e w' => e = .returned (.int .i64 (clE I k)) ∧ Turned g w (clV V I k) (clI I k) w' := by
  unfold clE clV clI
  by_cases h : has I k = true
  · simp only [if_pos h]
    unfold has at h
    simp only [Bool.and_eq_true, decide_eq_true_eq] at h
    obtain ⟨n, rfl⟩ := Int.eq_ofNat_of_zero_le h.1.1
    exact close_in w g V I ht n (by omega) (by simpa using h.2)
  · simp only [if_neg h]
    refine (close_not w g V I ht k ?_).mono ?_
    · unfold has at h
      simp only [Bool.and_eq_true, decide_eq_true_eq] at h
      by_cases h1 : k < 0
      · exact .inl h1
      · by_cases h2 : 16 ≤ k
        · exact .inr (.inl h2)
        · refine .inr (.inr ?_)
          have : ¬ I.getD k.toNat false = true := fun e => h ⟨⟨by omega, by omega⟩, e⟩
          simpa using this
    · rintro e w' ⟨he, rfl⟩
      exact ⟨he, ht, Kept.refl _ _⟩
theorem get_any (w : World) (g : Nat) (V : List Int) (I : List Bool) (ht : Tab w g V I) (k : Nat) (hk : k < 16) :
    Calls Try.prog 13 #[.pointer (some ⟨g, 0, none⟩), .int .i64 k] w fun e w' => e = .returned (.tuple #[.int .i64 (gv V I k), .bool (I.getD k false)]) ∧ w = w' := get_is w g V I ht k hk

/-- A row of calls: what each is, and to whom. -/
def OpsRow (w : World) (A : Option Addr) (len : Nat) : Prop :=
  len ≤ 9223372036854775807 ∧ ∀ i, i < len → ∃ b off x y, A = some ⟨b, off, none⟩ ∧ w.cell? ⟨b, off + i * 2, none⟩ = some (.int .i64 x) ∧ w.cell? ⟨b, off + i * 2 + 1, none⟩ = some (.int .i64 y)

theorem set_num (I : List Bool) (f : Nat) (hf : f < I.length) (h : I.getD f false = false) : numOf (I.set f true) = numOf I + 1 := by
  unfold numOf
  induction I generalizing f with
  | nil => simp at hf
  | cons b I ih =>
    cases f with
    | zero =>
      have : b = false := by simpa using h
      subst this
      simp [List.countP_cons]
    | succ f =>
      simp only [List.set_cons_succ, List.countP_cons]
      have := ih f (by simpa using hf) (by simpa using h)
      omega
theorem num_all (I : List Bool) : numOf I = I.length ↔ free I = I.length := by
  unfold numOf free
  induction I with
  | nil => simp
  | cons b I ih =>
    cases b with
    | false =>
      simp only [List.countP_cons, List.takeWhile_cons, List.length_cons]
      have := List.countP_le_length (p := fun b => b) (l := I)
      simp
      omega
    | true =>
      simp only [List.countP_cons, List.takeWhile_cons, List.length_cons, if_true]
      omega
end Go.Proofs.Ytlohaefhigbdjaa.Fds
