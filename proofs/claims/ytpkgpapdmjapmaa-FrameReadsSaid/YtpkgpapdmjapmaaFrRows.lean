/- A row of rows of bytes that came in, opened. -/
import Derived.Test.YtpkgpapdmjapmaaFrTurnP
import Derived.ProofKit
import Derived.ChangeSlices
import Derived.Deep.Slices
namespace Go.Proofs.Ytpkgpapdmjapmaa.Pure
open Go.RowKit Go.ChangeShapes Go.WideShapes Go.Deep Go.Proofs.YtpkgpapdmjapmaaW.PrintWords Go.Proofs.YtpkgpapdmjapmaaW.PrintLast Go.Proofs.YtpkgpapdmjapmaaW.PrintMore Go.Proofs.Ytpkgpapdmjapmaa.SumMath Go.Proofs.Ytpkgpapdmjapmaa.Fns
set_option linter.unusedVariables false
set_option linter.unusedSimpArgs false

theorem open_row {H : Type} {enc : TypeId × Value → H} {w : World} {base fuel : Nat} {spare : Nat → Bool} {held : Bool} {cs : List Value} {x : DataW H × List MemPlace}
    (h : DataW.trod enc Try.prog w base spare held fuel 22 cs = some x) : ∃ (A : Option Addr) (l : List Int) (c : Nat), cs = [.slice A l.length c] ∧ l.length ≤ c ∧ Kd.C (Kd.int .u8) w A l.length l ∧ Bytes l := by
  rcases ChangeShapes.open_ints Try.underlying22 Try.underlying5 (by kernel_rfl) h with ⟨hcs, _⟩ | ⟨a, l, c, zs, hcs, _, hl, hm, hz, _, hcell, hwz⟩
  · exact ⟨none, [], 0, hcs, by simp, ⟨rfl, by simp, fun h => by simp at h⟩, fun x hx => by simp at hx⟩
  · have hlz : l ≤ zs.length := by rw [hz]; split <;> omega
    have e : (zs.take l).length = l := by simp; omega
    unfold maxLen at hm
    refine ⟨some a, zs.take l, c, by rw [e]; exact hcs, by omega, ?_, bytes_of (fun x hx => hwz x (List.mem_of_mem_take hx))⟩
    refine Kd.C_of_reads (d := (0 : Int)) (h1 := fun _ => rfl) ⟨rfl, by omega, fun _ => ⟨a, rfl, fun j hj => ?_⟩⟩
    rw [hcell j (by omega)]
    simp only [List.getD_eq_getElem?_getD, List.getElem?_take]
    rw [if_pos (by omega)]
/-- what is known of the argument [][]byte. -/
def BytesRows (w : World) (A : Option Addr) (n c : Nat) (l : List (List Int)) : Prop := n = l.length ∧ l.length ≤ c ∧ Kd.C (Kd.slice 5 (Kd.int .u8)) w A l.length l ∧ (∀ b ∈ l, Bytes b)
theorem open_rows {H : Type} {enc : TypeId × Value → H} {w : World} {base : Nat} {spare : Nat → Bool} {held : Bool} {A : Option Addr} {len cap : Nat} {d : DataW H} {p : List MemPlace}
    (h : DataW.Trod enc Try.prog w base spare held 28 (.slice A len cap) d p) : ∃ l, BytesRows w A len cap l := by
  obtain ⟨fuel, hf⟩ := h
  rcases open_slice (e := 22) Try.underlying28 hf with ⟨hcs, _⟩ | ⟨a, l, c, m, n, D, Pl, hcs, _, hl, hm, hmm, _, hi⟩
  · simp [Value.cells] at hcs
    obtain ⟨rfl, rfl, rfl⟩ := hcs
    exact ⟨[], rfl, by simp, ⟨rfl, by simp, fun h => by simp at h⟩, fun x hx => by simp at hx⟩
  · simp [Value.cells] at hcs
    obtain ⟨rfl, rfl, rfl⟩ := hcs
    unfold maxLen at hm
    have h1 : Try.prog.cellsOf 22 = 1 := by kernel_rfl
    have hall : ∀ i, ∃ r : List Int, i < len → ∃ A c, w.cell? (a.add i) = some (.slice A r.length c) ∧ r.length ≤ c ∧ Kd.C (Kd.int .u8) w A r.length r ∧ Bytes r := by
      intro i
      by_cases hlt : i < len
      · obtain ⟨cs, hc, ht⟩ := hi i (by rw [hmm]; split <;> omega)
        rw [h1, Nat.mul_one] at hc
        obtain ⟨A, r, c, rfl, h2, h3, h4⟩ := open_row ht
        obtain ⟨_, _, hat⟩ := World.cells?_some hc
        have h0 := hat 0 (by omega)
        rw [Deep.add_add, Nat.add_zero] at h0
        exact ⟨r, fun _ => ⟨A, c, h0, h2, h3, h4⟩⟩
      · exact ⟨[], fun h => absurd h hlt⟩
    obtain ⟨f, hf⟩ := Classical.axiomOfChoice hall
    have el : ((List.range len).map f).length = len := by simp
    refine ⟨(List.range len).map f, by rw [el], by omega, ⟨rfl, by omega, fun _ => ⟨a, rfl, fun j r hj => ?_⟩⟩, fun b hb => ?_⟩
    · simp only [List.getElem?_map] at hj
      by_cases hjl : j < len
      · rw [List.getElem?_range hjl] at hj
        simp only [Option.map_some, Option.some.injEq] at hj
        subst hj
        obtain ⟨A, c, g1, g2, g3, g4⟩ := hf j hjl
        refine ⟨[.slice A (f j).length c], rfl, ⟨A, c, rfl, g2, g3⟩, fun i u hu => ?_⟩
        cases i with
        | zero =>
          simp only [List.getElem?_cons_zero, Option.some.injEq] at hu
          subst hu
          show w.cell? (a.add (j * 1 + 0)) = _
          rw [Nat.mul_one, Nat.add_zero]
          exact g1
        | succ i => simp at hu
      · rw [List.getElem?_eq_none (by simp; omega)] at hj
        cases hj
    · obtain ⟨j, hj, rfl⟩ := List.mem_map.1 hb
      obtain ⟨_, _, _, _, _, g4⟩ := hf j (List.mem_range.1 hj)
      exact g4
end Go.Proofs.Ytpkgpapdmjapmaa.Pure
