/- The plain law of Adler sums: the two running numbers of a list of bytes, in closed form. -/
import Derived.RowKit
import Derived.IntWalk
import Derived.Laws.BitsLemmas
import Derived.Laws.BitsAllLaws
namespace Go.Proofs.Ytpkgpapdmjapmaa.SumMath
open Go.RowKit

def st (p : Int × Int) (b : Int) : Int × Int := ((p.1 + b) % 65521, (p.2 + (p.1 + b) % 65521) % 65521)
def run (p : Int × Int) (bs : List Int) : Int × Int := bs.foldl st p
def pk (p : Int × Int) : Int := p.2 * 65536 + p.1
def un (s : Int) : Int × Int := ((s % 65536) % 65521, (s / 65536) % 65521)
def Fine (p : Int × Int) : Prop := 0 ≤ p.1 ∧ p.1 < 65521 ∧ 0 ≤ p.2 ∧ p.2 < 65521
def Bytes (l : List Int) : Prop := ∀ x ∈ l, 0 ≤ x ∧ x ≤ 255
def S : List Int → Int
  | [] => 0
  | b :: bs => b + S bs
def W : List Int → Int
  | [] => 0
  | b :: bs => ((bs.length : Int) + 1) * b + W bs
/-- the sum gone on with bytes -/
def G (s : Int) (l : List Int) : Int := pk (run (un s) l)

theorem fine_un (s : Int) : Fine (un s) := by unfold Fine un; simp only; omega
theorem fine_st {p : Int × Int} (b : Int) : Fine (st p b) := by unfold Fine st; simp only; omega
theorem fine_run : ∀ (bs : List Int) (p : Int × Int), Fine p → Fine (run p bs)
  | [], _, h => h
  | b :: bs, p, _ => fine_run bs (st p b) (fine_st b)
theorem run_cons (p : Int × Int) (b : Int) (bs : List Int) : run p (b :: bs) = run (st p b) bs := rfl
theorem run_append (p : Int × Int) (a b : List Int) : run p (a ++ b) = run (run p a) b := by unfold run; exact List.foldl_append ..
theorem un_pk {p : Int × Int} (h : Fine p) : un (pk p) = p := by
  obtain ⟨a, b⟩ := p
  unfold Fine at h; unfold un pk
  simp only at h ⊢
  rw [Prod.mk.injEq]; constructor <;> omega
theorem pk_inj {p q : Int × Int} (hp : Fine p) (hq : Fine q) (h : pk p = pk q) : p = q := by rw [← un_pk hp, ← un_pk hq, h]
theorem pk_range {p : Int × Int} (h : Fine p) : 0 ≤ pk p ∧ pk p < 4294967296 := by unfold Fine at h; unfold pk; omega
theorem G_range (s : Int) (l : List Int) : 0 ≤ G s l ∧ G s l < 4294967296 := pk_range (fine_run _ _ (fine_un _))
theorem G_append (s : Int) (a b : List Int) : G (G s a) b = G s (a ++ b) := by
  unfold G
  rw [un_pk (fine_run _ _ (fine_un _)), run_append]

theorem S_append : ∀ (a b : List Int), S (a ++ b) = S a + S b
  | [], b => by simp [S]
  | x :: a, b => by simp only [List.cons_append, S, S_append a b]; omega
theorem W_snoc : ∀ (t : List Int) (c : Int), W (t ++ [c]) = W t + S t + c
  | [], c => by simp [W, S]
  | x :: t, c => by
    simp only [List.cons_append, W, S, W_snoc t c, List.length_append, List.length_singleton]
    push_cast
    have e : ((t.length : Int) + 1 + 1) * x = ((t.length : Int) + 1) * x + x := by rw [Int.add_mul ((t.length : Int) + 1), Int.one_mul]
    rw [e]; omega

theorem run_closed : ∀ (bs : List Int) (p : Int × Int), Fine p → run p bs = ((p.1 + S bs) % 65521, (p.2 + (bs.length : Int) * p.1 + W bs) % 65521)
  | [], p, h => by
    obtain ⟨a, b⟩ := p
    unfold Fine at h; simp only at h
    simp only [run, List.foldl_nil, S, W, List.length_nil, Int.natCast_zero, Int.zero_mul, Int.add_zero, Prod.mk.injEq]
    constructor <;> omega
  | b :: bs, p, h => by
    rw [run_cons, run_closed bs (st p b) (fine_st b)]
    obtain ⟨x, y⟩ := p
    simp only [st, S, W, List.length_cons]
    push_cast
    generalize hn : (bs.length : Int) = n
    generalize S bs = s
    generalize W bs = w
    have e0 := Int.emod_add_mul_ediv (x + b) 65521
    generalize hr : (x + b) % 65521 = r at *
    generalize hq : (x + b) / 65521 = q at *
    have e1 : n * r = n * x + n * b - 65521 * (n * q) := by
      have : r = x + b - 65521 * q := by omega
      rw [this, Int.mul_sub, Int.mul_add, Int.mul_left_comm]
    have e2 : (n + 1) * x = n * x + x := by rw [Int.add_mul, Int.one_mul]
    have e3 : (n + 1) * b = n * b + b := by rw [Int.add_mul, Int.one_mul]
    rw [e1, e2, e3]
    generalize n * x = nx
    generalize n * b = nb
    generalize n * q = nq
    rw [Prod.mk.injEq]; constructor <;> omega

theorem or_join (hi lo : Int) (h0 : 0 ≤ hi) (h1 : hi < 65536) (l0 : 0 ≤ lo) (l1 : lo < 65536) : Go.bits .or .u32 (hi * 65536) lo = hi * 65536 + lo :=
  bits_join .u32 32 (by decide) (fun n a b => by rw [IntKind.wrap_u32]; omega) 16 (hi * 65536) lo (by omega) (by simp only [Int.reducePow]; omega) (by simp only [Int.reducePow]; omega) l0 (by simp only [Int.reducePow]; omega) (by simp only [Int.reducePow]; omega)
theorem and_low (s : Int) (h0 : 0 ≤ s) (h1 : s < 4294967296) : Go.bits .and .u32 s 65535 = s % 65536 := by
  have := bits_mask .u32 32 (by decide) (fun n a b => by rw [IntKind.wrap_u32]; omega) 16 (by decide) s h0 (by simp only [Int.reducePow]; omega)
  simpa using this

theorem u64_in' (n : Int) (h : 0 ≤ n) (h' : n ≤ 18446744073709551615) : IntKind.u64.wrap n = n := IntWalk.u64_in n ⟨h, h'⟩

/-- two texts that are unlike in one byte have unlike sums -/
theorem G_one (s : Int) (a b : List Int) (x y : Int) (hx : 0 ≤ x ∧ x ≤ 255) (hy : 0 ≤ y ∧ y ≤ 255) (h : x ≠ y) : G s (a ++ x :: b) ≠ G s (a ++ y :: b) := by
  intro e
  have e' := pk_inj (fine_run _ _ (fine_un _)) (fine_run _ _ (fine_un _)) e
  rw [run_closed _ _ (fine_un _), run_closed _ _ (fine_un _)] at e'
  have := (Prod.mk.inj e').1
  simp only [S_append, S] at this
  omega

/-- the window rolled on -/
theorem G_roll (x : Int) (t : List Int) (c : Int) :
    run (1, 0) (t ++ [c]) = (((run (1, 0) (x :: t)).1 + c + 65521 - x) % 65521,
      ((run (1, 0) (x :: t)).2 + ((run (1, 0) (x :: t)).1 + c + 65521 - x) % 65521 + 131042 - 1 - (((t.length : Int) + 1) * x) % 65521) % 65521) := by
  have f : Fine (1, 0) := by unfold Fine; simp
  rw [run_closed _ _ f, run_closed _ _ f, S_append, W_snoc]
  simp only [S, W, List.length_append, List.length_cons, List.length_nil]
  push_cast
  generalize W t = w
  generalize S t = s
  generalize (t.length : Int) = n
  generalize (n + 1) * x = nx
  rw [Prod.mk.injEq]; constructor <;> omega

/-- the loop of the document's answer -/
theorem worth_step (n i b : Int) : ((n - i) % 65521 * b) % 65521 = ((n - i) * b) % 65521 := by
  have e0 := Int.emod_add_mul_ediv (n - i) 65521
  generalize (n - i) % 65521 = r at *
  generalize (n - i) / 65521 = q at *
  rw [← e0, Int.add_mul, Int.mul_assoc]
  generalize q * b = qb
  generalize r * b = rb
  omega
end Go.Proofs.Ytpkgpapdmjapmaa.SumMath
