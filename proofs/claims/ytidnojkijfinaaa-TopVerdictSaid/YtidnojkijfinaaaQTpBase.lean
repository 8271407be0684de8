/- Part of the proof of TopVerdictSaid. -/
import Derived.Test.YtidnojkijfinaaaQFns0
import Derived.Deep.MidRow
import Derived.WalkMore
namespace Go.Proofs.Ytidnojkijfinaaa.Fns
open Go.RowKit Go.Proofs.YtidnojkijfinaaaW.PrintWords Go.Proofs.YtidnojkijfinaaaW.PrintLast Go.Proofs.YtidnojkijfinaaaW.PrintMore
attribute [local go_sem] max2_int min2_int max_two min_two max_three min_three max_four min_four
set_option linter.unusedVariables false
set_option linter.unusedSimpArgs false
def putL (old : Array Value) : Nat → List Value → Array Value
  | _, [] => old
  | o, v :: vs => putL (old.setIfInBounds o v) (o + 1) vs
theorem blk_setCells (b : Nat) (t : TypeId) : ∀ (vs : List Value) (o : Nat) (W : World) (old : Array Value), W.heap[b]? = some (.cells old t (0, 0)) → (W.setCells b o vs).heap[b]? = some (.cells (putL old o vs) t (0, 0))
  | [], _, _, _, h => h
  | v :: vs, o, W, old, h => blk_setCells b t vs (o + 1) _ _ (blk_set h o v)
theorem below_setCells (b B : Nat) (w0 : World) (hB : B ≤ b) : ∀ (vs : List Value) (o : Nat) (W : World), Below B w0 W → Below B w0 (W.setCells b o vs)
  | [], _, _, h => h
  | v :: vs, o, W, h => below_setCells b B w0 hB vs (o + 1) _ (h.setCell (p := ⟨b, o, none⟩) hB v)
section
variable {P : Program} {ops : Array Oper} {rest : List Oper} {o : Oper} {a : Act} {Q : Exit → Act → World → Prop} {W : World}
theorem store_whole (hgd : o.guard = none) {ty : TypeId} {p : Tmp} {y : Operand} (ho : o.op = .store ty (.tmp p) y) (hN : o.dst = none)
    {b : Nat} {old cells : Array Value} (hx : a.eval (.tmp p) = .pointer (some ⟨b, 0, none⟩)) (hy : a.eval y = .agg cells) (hb : W.heap[b]? = some (.cells old ty (0, 0))) (hsz : old.size = cells.size)
    (hi : (P.info? ty).map (·.size) = some cells.size) (h1 : cells.all (·.oneCell') = true)
    (h : ∀ w1, w1.heap[b]? = some (.cells (putL old 0 cells.toList) ty (0, 0)) → (∀ B w0, B ≤ b → Below B w0 W → Below B w0 w1) → wpList P ops Q rest a w1) : wpList P ops Q (o :: rest) a W := by
  refine wpList_store_mid hgd ty (.tmp p) y ho b 0 cells hx hy (fun j hj => ?_) hi h1 ?_
  · rw [Nat.zero_add]
    refine ⟨?_, blk_frozen hb j⟩
    rw [blk_cell hb j]
    simp [hsz, hj]
  · rw [hN]
    exact h _ (blk_setCells b ty _ _ _ _ hb) (fun B w0 hB hb => below_setCells b B w0 hB _ _ _ hb)
end
theorem run_index_arr {P : Program} (t e : TypeId) (n : Nat) (cs : Array Value) (k : IntKind) (i : Int) (v : Value) (W : World) (d : TypeDesc) (h : P.underlying t = some (.array n e)) (hd : P.underlying e = some d) (hr : d.isRow = false)
    (hs : (P.info? e).map (·.size) = some 1) (h0 : 0 ≤ i) (h1 : i < (n : Int)) (hv : cs[i.toNat]? = some v) : (Instr.index t (.agg cs) (.int k i)).run P W = .ok v W := by
  cases hq : P.info? e with
  | none => rw [hq] at hs; cases hs
  | some q =>
    have hz : q.size = 1 := by simpa [hq] using hs
    have hagg : (isAgg e).run P W = .ok false W := by
      unfold isAgg
      rw [Sem.run_bind, run_underlying hd W]
      cases d <;> simp_all
    simp [Instr.index, run_underlying h, asIntOf, h0, h1, part, hagg, sizeOf, typeInfo, hq, hz, hv]
end Go.Proofs.Ytidnojkijfinaaa.Fns
