/- Two readers and a row of bodies: what a step keeps. -/
import Derived.Test.YtpkgpapdmjapmaaFrPieceP
namespace Go.Proofs.Ytpkgpapdmjapmaa.Fns
open Go.RowKit Go.Proofs.YtpkgpapdmjapmaaW.PrintWords Go.Proofs.YtpkgpapdmjapmaaW.PrintLast Go.Proofs.YtpkgpapdmjapmaaW.PrintMore Go.Proofs.Ytpkgpapdmjapmaa.SumMath Go.Proofs.Ytpkgpapdmjapmaa.Pure
set_option linter.unusedVariables false
set_option linter.unusedSimpArgs false

def retag (tag : Nat → Nat) (n t : Nat) : Nat → Nat := fun j => if j < n then tag j else t
theorem retag_old {tag : Nat → Nat} {n t j : Nat} (h : j < n) : retag tag n t j = tag j := by unfold retag; rw [if_pos h]
theorem retag_new {tag : Nat → Nat} {n t j : Nat} (h : n ≤ j) : retag tag n t j = t := by unfold retag; rw [if_neg (by omega)]
/-- Each block has a tag: 1 and 2 the readers' rows, 3 the bodies, 4 and 5 the readers. -/
structure St (tag : Nat → Nat) (base : Nat) (w : World) (g1 g2 : Nat) (B1 B2 : List Int) (l1 l2 : Int) (v : Value) (xs : List (List Int)) : Prop where
  r1 : Rd (fun j => tag j = 1 ∧ j < w.heap.size) base w g1 B1 l1
  r2 : Rd (fun j => tag j = 2 ∧ j < w.heap.size) base w g2 B2 l2
  row : Kd.R (Kd.slice 5 (Kd.int .u8)) 22 w base (fun j => tag j = 3 ∧ j < w.heap.size) v xs
  t1 : tag g1 = 4
  t2 : tag g2 = 5
  lo : ∀ j, tag j ≠ 0 → base ≤ j
theorem St.turn1 {tag : Nat → Nat} {base g1 g2 : Nat} {w w' : World} {B1 B2 B : List Int} {l1 l2 l : Int} {v : Value} {xs : List (List Int)} (h : St tag base w g1 g2 B1 B2 l1 l2 v xs) (t : Nat)
    (hr : Rd (fun k => (tag k = 1 ∧ k < w.heap.size) ∨ (t = 1 ∧ w.heap.size ≤ k)) base w' g1 B l) (hk : Kp (fun k => k = g1 ∨ (tag k = 1 ∧ k < w.heap.size)) w w') : St (retag tag w.heap.size t) base w' g1 g2 B B2 l l2 v xs where
  r1 := hr.bound.mono (fun j hj => by
    obtain ⟨h1, _, h3, _⟩ := hj
    refine ⟨?_, h3⟩
    rcases h1 with ⟨h1, h2⟩ | ⟨rfl, h2⟩
    · rw [retag_old h2]; exact h1
    · exact retag_new h2)
  r2 := (h.r2.move hk (fun hs => by
    rcases hs with hs | hs
    · have := h.t1; have := h.t2; rw [hs] at this; omega
    · have := h.t2; omega) (fun j hj hs => by
    rcases hs with hs | hs
    · have := h.t1; rw [← hs] at this; omega
    · omega)).mono (fun j hj => ⟨by rw [retag_old hj.2]; exact hj.1, Nat.lt_of_lt_of_le hj.2 hk.size⟩)
  row := Kd.R_mono (Kd.R_step h.row (fun j hj hlt => hk.block j hlt (fun hs => by
    rcases hs with hs | hs
    · have := h.t1; rw [← hs] at this; omega
    · omega))) (fun j hj => ⟨by rw [retag_old hj.2]; exact hj.1, Nat.lt_of_lt_of_le hj.2 hk.size⟩)
  t1 := by rw [retag_old h.r1.lt]; exact h.t1
  t2 := by rw [retag_old h.r2.lt]; exact h.t2
  lo := fun j hj => by
    by_cases hlt : j < w.heap.size
    · rw [retag_old hlt] at hj; exact h.lo j hj
    · have := h.r1.1; have := h.r1.lt; omega
theorem St.turn2 {tag : Nat → Nat} {base g1 g2 : Nat} {w w' : World} {B1 B2 B : List Int} {l1 l2 l : Int} {v : Value} {xs : List (List Int)} (h : St tag base w g1 g2 B1 B2 l1 l2 v xs) (t : Nat)
    (hr : Rd (fun k => (tag k = 2 ∧ k < w.heap.size) ∨ (t = 2 ∧ w.heap.size ≤ k)) base w' g2 B l) (hk : Kp (fun k => k = g2 ∨ (tag k = 2 ∧ k < w.heap.size)) w w') : St (retag tag w.heap.size t) base w' g1 g2 B1 B l1 l v xs where
  r2 := hr.bound.mono (fun j hj => by
    obtain ⟨h1, _, h3, _⟩ := hj
    refine ⟨?_, h3⟩
    rcases h1 with ⟨h1, h2⟩ | ⟨rfl, h2⟩
    · rw [retag_old h2]; exact h1
    · exact retag_new h2)
  r1 := (h.r1.move hk (fun hs => by
    rcases hs with hs | hs
    · have := h.t1; have := h.t2; rw [hs] at *; omega
    · have := h.t1; omega) (fun j hj hs => by
    rcases hs with hs | hs
    · have := h.t2; rw [← hs] at this; omega
    · omega)).mono (fun j hj => ⟨by rw [retag_old hj.2]; exact hj.1, Nat.lt_of_lt_of_le hj.2 hk.size⟩)
  row := Kd.R_mono (Kd.R_step h.row (fun j hj hlt => hk.block j hlt (fun hs => by
    rcases hs with hs | hs
    · have := h.t2; rw [← hs] at this; omega
    · omega))) (fun j hj => ⟨by rw [retag_old hj.2]; exact hj.1, Nat.lt_of_lt_of_le hj.2 hk.size⟩)
  t1 := by rw [retag_old h.r1.lt]; exact h.t1
  t2 := by rw [retag_old h.r2.lt]; exact h.t2
  lo := fun j hj => by
    by_cases hlt : j < w.heap.size
    · rw [retag_old hlt] at hj; exact h.lo j hj
    · have := h.r1.1; have := h.r1.lt; omega
theorem St.grow {tag : Nat → Nat} {base g1 g2 : Nat} {w w' : World} {B1 B2 : List Int} {l1 l2 : Int} {v v' : Value} {xs xs' : List (List Int)} (h : St tag base w g1 g2 B1 B2 l1 l2 v xs)
    (hR : Kd.R (Kd.slice 5 (Kd.int .u8)) 22 w' base (fun j => tag j = 3) v' xs') (hg : w.grownBy w' v.ownBlock) : St tag base w' g1 g2 B1 B2 l1 l2 v' xs' where
  r1 := (h.r1.move (Kp.of_grown hg) (fun hs => by have := (h.row.1 g1 hs.symm).1; have := h.t1; omega) (fun j hj hs => by have := (h.row.1 j hs.symm).1; omega)).mono (fun j hj => ⟨hj.1, Nat.lt_of_lt_of_le hj.2 hg.size⟩)
  r2 := (h.r2.move (Kp.of_grown hg) (fun hs => by have := (h.row.1 g2 hs.symm).1; have := h.t2; omega) (fun j hj hs => by have := (h.row.1 j hs.symm).1; omega)).mono (fun j hj => ⟨hj.1, Nat.lt_of_lt_of_le hj.2 hg.size⟩)
  row := Kd.R_mono (Kd.R_bound hR) (fun j hj => ⟨hj.1, hj.2.2.1⟩)
  t1 := h.t1
  t2 := h.t2
  lo := h.lo
theorem St.below {tag : Nat → Nat} {base g1 g2 : Nat} {w w' : World} {B1 B2 : List Int} {l1 l2 : Int} {v : Value} {xs : List (List Int)} (h : St tag base w g1 g2 B1 B2 l1 l2 v xs)
    (hb : Below w.heap.size w w') : St tag base w' g1 g2 B1 B2 l1 l2 v xs where
  r1 := (h.r1.below hb).mono (fun j hj => ⟨hj.1, Nat.lt_of_lt_of_le hj.2 hb.size⟩)
  r2 := (h.r2.below hb).mono (fun j hj => ⟨hj.1, Nat.lt_of_lt_of_le hj.2 hb.size⟩)
  row := Kd.R_mono (Kd.R_below h.row hb) (fun j hj => ⟨hj.1, Nat.lt_of_lt_of_le hj.2 hb.size⟩)
  t1 := h.t1
  t2 := h.t2
  lo := h.lo
theorem St.start (w : World) (base : Nat) (hb : base ≤ w.heap.size) :
    ∃ tag, St tag base ((w.alloc (.cells #[.slice none 0 0, .int .i64 0] 32 (0, 0))).alloc (.cells #[.slice none 0 0, .int .i64 0] 32 (0, 0))) w.heap.size (w.heap.size + 1) [] [] 0 0 (.slice none 0 0) [] := by
  have h1 := (Rd.new w base hb).below (below_alloc (Below.refl _ _) (.cells #[.slice none 0 0, .int .i64 0] 32 (0, 0)))
  have hs : (w.alloc (.cells #[.slice none 0 0, .int .i64 0] 32 (0, 0))).heap.size = w.heap.size + 1 := by simp
  have h2 := Rd.new (w.alloc (.cells #[.slice none 0 0, .int .i64 0] 32 (0, 0))) base (by rw [hs]; omega)
  rw [hs] at h2
  refine ⟨fun j => if j = w.heap.size then 4 else if j = w.heap.size + 1 then 5 else 0, h1.mono (fun _ h => h.elim), h2.mono (fun _ h => h.elim), Kd.R_nil _ _ _ _ _, by simp, by simp, fun j hj => ?_⟩
  by_cases e1 : j = w.heap.size
  · omega
  · by_cases e2 : j = w.heap.size + 1
    · omega
    · simp [e1, e2] at hj
/-- a row of bodies that was made: what append reads. -/
theorem rows_reads {w' : World} {n0 base n c : Nat} {A : Option Addr} {ys : List (List Int)} (h : Kd.R (Kd.slice 5 (Kd.int .u8)) 22 w' n0 (fun _ => True) (.slice A n c) ys) (hb : base ≤ n0) :
    ReadsRow ((Kd.slice 5 (Kd.int .u8)).M w' base (fun k => n0 ≤ k ∧ k < w'.heap.size)) (Kd.slice 5 (Kd.int .u8)).sz w' A n ys := by
  obtain ⟨A', c', he, hl, hr⟩ := OwnRow.reads (Kd.R_bound h).2
  injection he with h1 h2 h3
  subst h1
  subst h2
  exact hr.imp_ (Below.refl _ _) (fun _ _ hp => (Kd.slice 5 (Kd.int .u8)).M_lower hb ((Kd.slice 5 (Kd.int .u8)).M_mono (fun k hk => ⟨hk.1.2.1, hk.1.2.2.1⟩) hp))
/-- a row of bools that came in. -/
def BoolRow (w : World) (A : Option Addr) (n c : Nat) (l : List Bool) : Prop := n = l.length ∧ l.length ≤ c ∧ Kd.C Kd.bool w A l.length l
theorem open_bools {H : Type} {enc : TypeId × Value → H} {w : World} {base : Nat} {spare : Nat → Bool} {held : Bool} {A : Option Addr} {len cap : Nat} {d : DataW H} {p : List MemPlace}
    (h : DataW.Trod enc Try.prog w base spare held 43 (.slice A len cap) d p) : ∃ l, BoolRow w A len cap l := by
  obtain ⟨fuel, hf⟩ := h
  rcases Deep.open_slice (e := 4) Try.underlying43 hf with ⟨hcs, _⟩ | ⟨a, l, c, m, n, D, Pl, hcs, _, hl, hm, hmm, _, hi⟩
  · simp [Value.cells] at hcs
    obtain ⟨rfl, rfl, rfl⟩ := hcs
    exact ⟨[], rfl, by simp, ⟨rfl, by simp, fun h => by simp at h⟩⟩
  · simp [Value.cells] at hcs
    obtain ⟨rfl, rfl, rfl⟩ := hcs
    unfold maxLen at hm
    have h1 : Try.prog.cellsOf 4 = 1 := by kernel_rfl
    have hall : ∀ i, ∃ r : Bool, i < len → w.cell? (a.add i) = some (.bool r) := by
      intro i
      by_cases hlt : i < len
      · obtain ⟨cs, hc, ht⟩ := hi i (by rw [hmm]; split <;> omega)
        rw [h1, Nat.mul_one] at hc
        obtain ⟨r, rfl, _⟩ := DataW.trod_bool Try.underlying4 ht
        obtain ⟨_, _, hat⟩ := World.cells?_some hc
        have h0 := hat 0 (by omega)
        rw [Deep.add_add, Nat.add_zero] at h0
        exact ⟨r, fun _ => h0⟩
      · exact ⟨false, fun h => absurd h hlt⟩
    obtain ⟨f, hf⟩ := Classical.axiomOfChoice hall
    have el : ((List.range len).map f).length = len := by simp
    refine ⟨(List.range len).map f, by rw [el], by omega, ⟨rfl, by omega, fun _ => ⟨a, rfl, fun j r hj => ?_⟩⟩⟩
    simp only [List.getElem?_map] at hj
    by_cases hjl : j < len
    · rw [List.getElem?_range hjl] at hj
      simp only [Option.map_some, Option.some.injEq] at hj
      subst hj
      refine ⟨[.bool (f j)], rfl, rfl, fun i u hu => ?_⟩
      cases i with
      | zero =>
        simp only [List.getElem?_cons_zero, Option.some.injEq] at hu
        subst hu
        show w.cell? (a.add (j * 1 + 0)) = _
        rw [Nat.mul_one, Nat.add_zero]
        exact hf j hjl
      | succ i => simp at hu
    · rw [List.getElem?_eq_none (by simp; omega)] at hj
      cases hj
theorem at_bool {w : World} {A : Option Addr} {n : Nat} {xs : List Bool} (h : Kd.C Kd.bool w A n xs) (i : Nat) (h1 : i < n) : ∃ ad, A = some ad ∧ w.cell? (ad.add i) = some (.bool (xs.getD i false)) := by
  obtain ⟨ad, c, e, _, hK, hc0⟩ := Kd.C_get h false (i : Int) (by omega) (by omega)
  have hc : ∀ j u, c[j]? = some u → w.cell? (ad.add ((i : Int).toNat * 1 + j)) = some u := hc0
  have hK' : c = [Value.bool (xs.getD (i : Int).toNat false)] := hK
  subst hK'
  refine ⟨ad, e, ?_⟩
  have hq := hc 0 _ rfl
  rwa [Nat.mul_one, Nat.add_zero, Int.toNat_natCast] at hq
end Go.Proofs.Ytpkgpapdmjapmaa.Fns
