/- The two readers, side by side: what a step keeps. -/
import Derived.Test.YtpkgpapdmjapmaaFrRefN
import Derived.Test.YtpkgpapdmjapmaaFrSt
namespace Go.Proofs.Ytpkgpapdmjapmaa.Fns
open Go.RowKit Go.Proofs.YtpkgpapdmjapmaaW.PrintWords Go.Proofs.YtpkgpapdmjapmaaW.PrintLast Go.Proofs.YtpkgpapdmjapmaaW.PrintMore Go.Proofs.Ytpkgpapdmjapmaa.SumMath Go.Proofs.Ytpkgpapdmjapmaa.Pure
set_option linter.unusedVariables false
set_option linter.unusedSimpArgs false

structure Tw (tag : Nat → Nat) (base : Nat) (w : World) (g1 g2 : Nat) (B1 B2 : List Int) (l1 l2 : Int) : Prop where
  r1 : Rd (fun j => tag j = 1 ∧ j < w.heap.size) base w g1 B1 l1
  r2 : Rf (fun j => tag j = 2 ∧ j < w.heap.size) base w g2 B2 l2
  t1 : tag g1 = 4
  t2 : tag g2 = 5
  lo : ∀ j, tag j ≠ 0 → base ≤ j
theorem Tw.turn1 {tag : Nat → Nat} {base g1 g2 : Nat} {w w' : World} {B1 B2 B : List Int} {l1 l2 l : Int} (h : Tw tag base w g1 g2 B1 B2 l1 l2) (t : Nat)
    (hr : Rd (fun k => (tag k = 1 ∧ k < w.heap.size) ∨ (t = 1 ∧ w.heap.size ≤ k)) base w' g1 B l) (hk : Kp (fun k => k = g1 ∨ (tag k = 1 ∧ k < w.heap.size)) w w') : Tw (retag tag w.heap.size t) base w' g1 g2 B B2 l l2 where
  r1 := hr.bound.mono (fun j hj => by
    obtain ⟨h1, _, h3, _⟩ := hj
    refine ⟨?_, h3⟩
    rcases h1 with ⟨h1, h2⟩ | ⟨rfl, h2⟩
    · rw [retag_old h2]; exact h1
    · exact retag_new h2)
  r2 := (h.r2.move hk (fun hs => by
    rcases hs with hs | hs
    · have := h.t1; have := h.t2; rw [hs] at this; omega
    · have := h.t2; omega) (fun j hj hs => by
    rcases hs with hs | hs
    · have := h.t1; rw [← hs] at this; omega
    · omega)).mono (fun j hj => ⟨by rw [retag_old hj.2]; exact hj.1, Nat.lt_of_lt_of_le hj.2 hk.size⟩)
  t1 := by rw [retag_old h.r1.lt]; exact h.t1
  t2 := by rw [retag_old h.r2.lt]; exact h.t2
  lo := fun j hj => by
    by_cases hlt : j < w.heap.size
    · rw [retag_old hlt] at hj; exact h.lo j hj
    · have := h.r1.1; have := h.r1.lt; omega
theorem Tw.turn2 {tag : Nat → Nat} {base g1 g2 : Nat} {w w' : World} {B1 B2 B : List Int} {l1 l2 l : Int} (h : Tw tag base w g1 g2 B1 B2 l1 l2)
    (hr : Rf (fun k => (tag k = 2 ∧ k < w.heap.size) ∨ w.heap.size ≤ k) base w' g2 B l) (hk : Kp (fun k => k = g2 ∨ (tag k = 2 ∧ k < w.heap.size)) w w') : Tw (retag tag w.heap.size 2) base w' g1 g2 B1 B l1 l where
  r2 := hr.bound.mono (fun j hj => by
    obtain ⟨h1, _, h3, _⟩ := hj
    refine ⟨?_, h3⟩
    rcases h1 with ⟨h1, h2⟩ | h2
    · rw [retag_old h2]; exact h1
    · exact retag_new h2)
  r1 := (h.r1.move hk (fun hs => by
    rcases hs with hs | hs
    · have := h.t1; have := h.t2; rw [hs] at *; omega
    · have := h.t1; omega) (fun j hj hs => by
    rcases hs with hs | hs
    · have := h.t2; rw [← hs] at this; omega
    · omega)).mono (fun j hj => ⟨by rw [retag_old hj.2]; exact hj.1, Nat.lt_of_lt_of_le hj.2 hk.size⟩)
  t1 := by rw [retag_old h.r1.lt]; exact h.t1
  t2 := by rw [retag_old h.r2.lt]; exact h.t2
  lo := fun j hj => by
    by_cases hlt : j < w.heap.size
    · rw [retag_old hlt] at hj; exact h.lo j hj
    · have := h.r1.1; have := h.r1.lt; omega
theorem Tw.below {tag : Nat → Nat} {base g1 g2 : Nat} {w w' : World} {B1 B2 : List Int} {l1 l2 : Int} (h : Tw tag base w g1 g2 B1 B2 l1 l2)
    (hb : Below w.heap.size w w') : Tw tag base w' g1 g2 B1 B2 l1 l2 where
  r1 := (h.r1.below hb).mono (fun j hj => ⟨hj.1, Nat.lt_of_lt_of_le hj.2 hb.size⟩)
  r2 := (h.r2.below hb).mono (fun j hj => ⟨hj.1, Nat.lt_of_lt_of_le hj.2 hb.size⟩)
  t1 := h.t1
  t2 := h.t2
  lo := h.lo
theorem Tw.start (w : World) (base : Nat) (hb : base ≤ w.heap.size) :
    ∃ tag, Tw tag base ((w.alloc (.cells #[.slice none 0 0, .int .i64 0] 32 (0, 0))).alloc (.cells #[.slice none 0 0, .int .i64 0] 34 (0, 0))) w.heap.size (w.heap.size + 1) [] [] 0 0 := by
  have h1 := (Rd.new w base hb).below (below_alloc (Below.refl _ _) (.cells #[.slice none 0 0, .int .i64 0] 34 (0, 0)))
  have hs : (w.alloc (.cells #[.slice none 0 0, .int .i64 0] 32 (0, 0))).heap.size = w.heap.size + 1 := by simp
  have hn := blk_new (w.alloc (.cells #[.slice none 0 0, .int .i64 0] 32 (0, 0))) (.cells #[.slice none 0 0, .int .i64 0] 34 (0, 0))
  rw [hs] at hn
  refine ⟨fun j => if j = w.heap.size then 4 else if j = w.heap.size + 1 then 5 else 0, h1.mono (fun _ h => h.elim), ⟨by omega, _, hn, Kd.R_nil _ _ _ _ _⟩, by simp, by simp, fun j hj => ?_⟩
  by_cases e1 : j = w.heap.size
  · omega
  · by_cases e2 : j = w.heap.size + 1
    · omega
    · simp [e1, e2] at hj
/-- a row of ints that came in. -/
def IntRow (w : World) (A : Option Addr) (n c : Nat) (l : List Int) : Prop := n = l.length ∧ l.length ≤ c ∧ Kd.C (Kd.int .i64) w A l.length l
end Go.Proofs.Ytpkgpapdmjapmaa.Fns
