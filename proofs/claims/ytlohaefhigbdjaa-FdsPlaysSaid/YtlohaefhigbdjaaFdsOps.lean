/- A slice of calls (structs of two ints) that came in, opened. -/
import Derived.Test.YtlohaefhigbdjaaFdsPlay
import Derived.ProofKit
import Derived.Deep.Slices
import Derived.Deep.Fields
import Derived.ChangeSame
namespace Go.Proofs.Ytlohaefhigbdjaa.Fds
open Go.RowKit Go.ChangeShapes Go.WideShapes Go.Deep

theorem fields35 : Try.prog.underlying 35 = some (.struct #[(Try.prog.fieldsOf 35).getD 0 default, (Try.prog.fieldsOf 35).getD 1 default]) := by kernel_rfl
theorem open_ops {H : Type} {enc : TypeId × Value → H} {w : World} {base : Nat} {spare : Nat → Bool} {held : Bool} {A : Option Addr} {len cap : Nat} {d : DataW H} {p : List MemPlace}
    (h : DataW.Trod enc Try.prog w base spare held 30 (.slice A len cap) d p) : OpsRow w A len := by
  obtain ⟨fuel, hf⟩ := h
  rcases open_slice (e := 35) Try.underlying30 hf with ⟨hcs, _⟩ | ⟨a, l, c, m, n, D, Pl, hcs, _, hl, hm, hmm, _, hi⟩
  · simp [Value.cells] at hcs
    obtain ⟨rfl, rfl, rfl⟩ := hcs
    exact ⟨by omega, fun i hi => by omega⟩
  · simp [Value.cells] at hcs
    obtain ⟨rfl, rfl, rfl⟩ := hcs
    unfold maxLen at hm
    refine ⟨by omega, fun i hlt => ?_⟩
    have hmi : i < m := by rw [hmm]; split <;> omega
    obtain ⟨cs, hc, ht⟩ := hi i hmi
    have h2 : Try.prog.cellsOf 35 = 2 := by kernel_rfl
    rw [h2] at hc
    obtain ⟨_, hcl, hat⟩ := World.cells?_some hc
    obtain ⟨y0, y1, n', _, _, g0, g1⟩ := trod_struct2 fields35 ht
    have o0 : ((Try.prog.fieldsOf 35).getD 0 default).offset = 0 := by kernel_rfl
    have o1 : ((Try.prog.fieldsOf 35).getD 1 default).offset = 1 := by kernel_rfl
    have t0 : ((Try.prog.fieldsOf 35).getD 0 default).type = 3 := by kernel_rfl
    have t1 : ((Try.prog.fieldsOf 35).getD 1 default).type = 3 := by kernel_rfl
    have c3 : Try.prog.cellsOf 3 = 1 := by kernel_rfl
    rw [o0, t0, c3] at g0
    rw [o1, t1, c3] at g1
    match cs, hcl with
    | [u, v], _ =>
      simp only [List.drop_zero, List.take_succ_cons, List.take_zero, List.drop_succ_cons] at g0 g1
      obtain ⟨x, e0, _, _⟩ := DataW.trod_int Try.underlying3 g0
      obtain ⟨y, e1, _, _⟩ := DataW.trod_int Try.underlying3 g1
      simp at e0 e1
      subst e0 e1
      have k0 := hat 0 (by omega)
      have k1 := hat 1 (by omega)
      rw [add_add] at k0 k1
      obtain ⟨b, off, spot⟩ := a
      have hspot : spot = none := by
        obtain ⟨cs2, hc2, _⟩ := hi 0 (by omega)
        rw [h2] at hc2
        obtain ⟨_, hcl2, hat2⟩ := World.cells?_some hc2
        match cs2, hcl2 with
        | [u2, v2], _ =>
          have q0 := hat2 0 (by omega)
          rw [add_add] at q0
          have q1 := World.cell?_spot (w := w) (a := (⟨b, off, spot⟩ : Addr).add (0 * 2 + 0)) (by simpa using q0)
          simpa [Addr.add] using q1
      subst hspot
      rw [Go.WideShapes.add_plain] at k0 k1
      exact ⟨b, off, x, y, rfl, by simpa using k0, by simpa [Nat.add_assoc] using k1⟩
end Go.Proofs.Ytlohaefhigbdjaa.Fds
