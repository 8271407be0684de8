/- Part of the proof of TopVerdictSaid. -/
import Derived.Test.YtidnojkijfinaaaQTpTop
import Derived.ProofKit
import Derived.OpenShut
import Derived.SliceStrings
namespace Go.Proofs.Ytidnojkijfinaaa.Fns
open Go.RowKit Go.ChangeShapes Go.WideShapes Go.Proofs.YtidnojkijfinaaaW.PrintWords Go.Proofs.YtidnojkijfinaaaW.PrintLast Go.Proofs.YtidnojkijfinaaaW.PrintMore
set_option linter.unusedVariables false
set_option linter.unusedSimpArgs false
theorem open_texts {H : Type} {enc : TypeId × Value → H} {w : World} {base : Nat} {spare : Nat → Bool} {held : Bool} {A : Option Addr} {len cap : Nat} {d : DataW H} {p : List MemPlace}
    (h : DataW.Trod enc Try.prog w base spare held 22 (.slice A len cap) d p) : ∃ l : List ByteArray, len = l.length ∧ l.length ≤ cap ∧ Kd.C Kd.string w A l.length l := by
  obtain ⟨fuel, hf⟩ := h
  rcases open_strings Try.underlying22 Try.underlying9 (by kernel_rfl) hf with ⟨hcs, _⟩ | ⟨a, l, c, ss, hcs, _, hl, hm, hz, _, hcell, _⟩
  · simp [Value.cells] at hcs
    obtain ⟨rfl, rfl, rfl⟩ := hcs
    exact ⟨[], rfl, by simp, ⟨rfl, by simp, fun h => by simp at h⟩⟩
  · simp [Value.cells] at hcs
    obtain ⟨rfl, rfl, rfl⟩ := hcs
    unfold maxLen at hm
    have hls : len ≤ ss.length := by rw [hz]; split <;> omega
    have e : (ss.take len).length = len := by simp; omega
    refine ⟨ss.take len, e.symm, by omega, ⟨rfl, by omega, fun _ => ⟨a, rfl, fun j r hj => ?_⟩⟩⟩
    have hjl : j < len := by
      have := (List.getElem?_eq_some_iff.1 hj).1
      omega
    refine ⟨[.string r], rfl, rfl, fun i u hu => ?_⟩
    cases i with
    | zero =>
      simp only [List.getElem?_cons_zero, Option.some.injEq] at hu
      subst hu
      show w.cell? (a.add (j * 1 + 0)) = _
      rw [Nat.mul_one, Nat.add_zero, hcell j (by omega)]
      rw [List.getElem?_take, if_pos hjl] at hj
      rw [List.getD_eq_getElem?_getD, hj]
      rfl
    | succ i => simp at hu
theorem wf_u32 {n : Int} (h : (Lit.int .u32 n).wf = true) : U32 n := by
  simp [Lit.wf, IntKind.min, IntKind.max, IntKind.signed, IntKind.bits] at h
  unfold U32
  omega
theorem wf_u64 {n : Int} (h : (Lit.int .u64 n).wf = true) : U64 n := by
  simp [Lit.wf, IntKind.min, IntKind.max, IntKind.signed, IntKind.bits] at h
  unfold U64
  omega
set_option linter.constructorNameAsVariable false in
set_option maxRecDepth 100000 in
theorem open_data {H : Type} {enc : TypeId × Value → H} {w : World} {base b0 : Nat} {r : Reach} {spare : Nat → Bool} {held : Bool} {v : Value} {d : DataW H} {p : List MemPlace}
    (hv : Value.okWide Try.prog w r b0 27 v) (h : DataW.Trod enc Try.prog w base spare held 27 v d p) : ∃ dt : DT, v = .agg dt.cells ∧ dt.Ok := by
  obtain ⟨cs, rfl, hsz⟩ := okWide_struct Try.underlying27 hv
  obtain ⟨l⟩ := cs
  have hC : Try.prog.cellsOf 27 = 9 := by kernel_rfl
  have h23 : Try.prog.cellsOf 23 = 1 := by kernel_rfl
  have h24 : Try.prog.cellsOf 24 = 1 := by kernel_rfl
  have h25 : Try.prog.cellsOf 25 = 6 := by kernel_rfl
  match l, hsz.trans hC with
  | [c0, c1, c2, c3, c4, c5, c6, c7, c8], _ =>
    obtain ⟨fuel, hf⟩ := h
    obtain ⟨xs, n, _, _, _, hlen, hg⟩ := DataW.trod_struct Try.underlying27 hf
    match xs, hlen with
    | [y0, y1, y2, y3], _ =>
      have g0 : DataW.trod enc Try.prog w base spare held n 23 [c0] = some y0 := by simpa [Value.cells, h23] using hg 0 _ rfl
      have g1 : DataW.trod enc Try.prog w base spare held n 23 [c1] = some y1 := by simpa [Value.cells, h23] using hg 1 _ rfl
      have g2 : DataW.trod enc Try.prog w base spare held n 24 [c2] = some y2 := by simpa [Value.cells, h24] using hg 2 _ rfl
      have g3 : DataW.trod enc Try.prog w base spare held n 25 [c3, c4, c5, c6, c7, c8] = some y3 := by simpa [Value.cells, h25] using hg 3 _ rfl
      obtain ⟨n0, e0, _, w0⟩ := DataW.trod_int Try.underlying23 g0
      obtain ⟨n1, e1, _, w1⟩ := DataW.trod_int Try.underlying23 g1
      obtain ⟨n2, e2, _, w2⟩ := DataW.trod_int Try.underlying24 g2
      obtain ⟨zs, m, _, _, _, hl3, ha⟩ := DataW.trod_array Try.underlying25 g3
      match zs, hl3 with
      | [z0, z1, z2, z3, z4, z5], _ =>
        have a0 := ha 0 (by omega)
        have a1 := ha 1 (by omega)
        have a2 := ha 2 (by omega)
        have a3 := ha 3 (by omega)
        have a4 := ha 4 (by omega)
        have a5 := ha 5 (by omega)
        rw [h24] at a0 a1 a2 a3 a4 a5
        obtain ⟨k0, q0, _, x0⟩ := DataW.trod_int Try.underlying24 (show DataW.trod enc Try.prog w base spare held m 24 [c3] = some z0 from a0)
        obtain ⟨k1, q1, _, x1⟩ := DataW.trod_int Try.underlying24 (show DataW.trod enc Try.prog w base spare held m 24 [c4] = some z1 from a1)
        obtain ⟨k2, q2, _, x2⟩ := DataW.trod_int Try.underlying24 (show DataW.trod enc Try.prog w base spare held m 24 [c5] = some z2 from a2)
        obtain ⟨k3, q3, _, x3⟩ := DataW.trod_int Try.underlying24 (show DataW.trod enc Try.prog w base spare held m 24 [c6] = some z3 from a3)
        obtain ⟨k4, q4, _, x4⟩ := DataW.trod_int Try.underlying24 (show DataW.trod enc Try.prog w base spare held m 24 [c7] = some z4 from a4)
        obtain ⟨k5, q5, _, x5⟩ := DataW.trod_int Try.underlying24 (show DataW.trod enc Try.prog w base spare held m 24 [c8] = some z5 from a5)
        cases e0; cases e1; cases e2; cases q0; cases q1; cases q2; cases q3; cases q4; cases q5
        refine ⟨⟨n0, n1, n2, k0, k1, k2, k3, k4, k5⟩, rfl, ⟨wf_u32 w0, wf_u32 w1, fun n => ?_⟩⟩
        unfold DT.arg
        split
        · exact wf_u64 x0
        · exact wf_u64 x1
        · exact wf_u64 x2
        · exact wf_u64 x3
        · exact wf_u64 x4
        · exact wf_u64 x5
theorem verdict_any (A : Option Addr) (len cap : Nat) (d : DT) (W : World) (o : ∃ l : List ByteArray, len = l.length ∧ l.length ≤ cap ∧ Kd.C Kd.string W A l.length l) (hd : d.Ok) :
    Calls Try.prog 3 #[.slice A len cap, .agg d.cells] W fun e w' => e = .returned (.bool true) ∧ Below W.heap.size W w' := by
  obtain ⟨l, rfl, hc, hr⟩ := o
  exact top_calls W A cap l d hd hr hc
end Go.Proofs.Ytidnojkijfinaaa.Fns
