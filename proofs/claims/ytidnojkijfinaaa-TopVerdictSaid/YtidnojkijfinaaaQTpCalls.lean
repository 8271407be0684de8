/- Part of the proof of TopVerdictSaid. -/
import Derived.Test.YtidnojkijfinaaaQTpBase
namespace Go.Proofs.Ytidnojkijfinaaa.Fns
open Go.RowKit Go.Proofs.YtidnojkijfinaaaW.PrintWords Go.Proofs.YtidnojkijfinaaaW.PrintLast Go.Proofs.YtidnojkijfinaaaW.PrintMore
attribute [local go_sem] max2_int min2_int max_two min_two max_three min_three max_four min_four
set_option linter.unusedVariables false
set_option linter.unusedSimpArgs false
def callsTab : List S109 := [⟨⟨#[114, 101, 97, 100]⟩, 0⟩, ⟨⟨#[119, 114, 105, 116, 101]⟩, 1⟩, ⟨⟨#[111, 112, 101, 110]⟩, 2⟩, ⟨⟨#[99, 108, 111, 115, 101]⟩, 3⟩, ⟨⟨#[115, 116, 97, 116]⟩, 4⟩, ⟨⟨#[102, 115, 116, 97, 116]⟩, 5⟩, ⟨⟨#[108, 115, 116, 97, 116]⟩, 6⟩, ⟨⟨#[112, 111, 108, 108]⟩, 7⟩, ⟨⟨#[108, 115, 101, 101, 107]⟩, 8⟩, ⟨⟨#[109, 109, 97, 112]⟩, 9⟩, ⟨⟨#[109, 112, 114, 111, 116, 101, 99, 116]⟩, 10⟩, ⟨⟨#[109, 117, 110, 109, 97, 112]⟩, 11⟩, ⟨⟨#[98, 114, 107]⟩, 12⟩, ⟨⟨#[105, 111, 99, 116, 108]⟩, 16⟩, ⟨⟨#[97, 99, 99, 101, 115, 115]⟩, 21⟩, ⟨⟨#[112, 105, 112, 101]⟩, 22⟩, ⟨⟨#[100, 117, 112]⟩, 32⟩, ⟨⟨#[103, 101, 116, 112, 105, 100]⟩, 39⟩, ⟨⟨#[115, 111, 99, 107, 101, 116]⟩, 41⟩, ⟨⟨#[99, 111, 110, 110, 101, 99, 116]⟩, 42⟩, ⟨⟨#[102, 111, 114, 107]⟩, 57⟩, ⟨⟨#[101, 120, 101, 99, 118, 101]⟩, 59⟩, ⟨⟨#[101, 120, 105, 116]⟩, 60⟩, ⟨⟨#[119, 97, 105, 116, 52]⟩, 61⟩, ⟨⟨#[107, 105, 108, 108]⟩, 62⟩, ⟨⟨#[117, 110, 97, 109, 101]⟩, 63⟩, ⟨⟨#[109, 107, 100, 105, 114]⟩, 83⟩, ⟨⟨#[117, 110, 108, 105, 110, 107]⟩, 87⟩, ⟨⟨#[111, 112, 101, 110, 97, 116]⟩, 257⟩, ⟨⟨#[115, 101, 99, 99, 111, 109, 112]⟩, 317⟩]
def mean_calls.f : Option (List S109) := some callsTab
def callsCells : List Value := [.string ⟨#[114, 101, 97, 100]⟩, .int .u32 0, .string ⟨#[119, 114, 105, 116, 101]⟩, .int .u32 1, .string ⟨#[111, 112, 101, 110]⟩, .int .u32 2, .string ⟨#[99, 108, 111, 115, 101]⟩, .int .u32 3, .string ⟨#[115, 116, 97, 116]⟩, .int .u32 4, .string ⟨#[102, 115, 116, 97, 116]⟩, .int .u32 5, .string ⟨#[108, 115, 116, 97, 116]⟩, .int .u32 6, .string ⟨#[112, 111, 108, 108]⟩, .int .u32 7, .string ⟨#[108, 115, 101, 101, 107]⟩, .int .u32 8, .string ⟨#[109, 109, 97, 112]⟩, .int .u32 9, .string ⟨#[109, 112, 114, 111, 116, 101, 99, 116]⟩, .int .u32 10, .string ⟨#[109, 117, 110, 109, 97, 112]⟩, .int .u32 11, .string ⟨#[98, 114, 107]⟩, .int .u32 12, .string ⟨#[105, 111, 99, 116, 108]⟩, .int .u32 16, .string ⟨#[97, 99, 99, 101, 115, 115]⟩, .int .u32 21, .string ⟨#[112, 105, 112, 101]⟩, .int .u32 22, .string ⟨#[100, 117, 112]⟩, .int .u32 32, .string ⟨#[103, 101, 116, 112, 105, 100]⟩, .int .u32 39, .string ⟨#[115, 111, 99, 107, 101, 116]⟩, .int .u32 41, .string ⟨#[99, 111, 110, 110, 101, 99, 116]⟩, .int .u32 42, .string ⟨#[102, 111, 114, 107]⟩, .int .u32 57, .string ⟨#[101, 120, 101, 99, 118, 101]⟩, .int .u32 59, .string ⟨#[101, 120, 105, 116]⟩, .int .u32 60, .string ⟨#[119, 97, 105, 116, 52]⟩, .int .u32 61, .string ⟨#[107, 105, 108, 108]⟩, .int .u32 62, .string ⟨#[117, 110, 97, 109, 101]⟩, .int .u32 63, .string ⟨#[109, 107, 100, 105, 114]⟩, .int .u32 83, .string ⟨#[117, 110, 108, 105, 110, 107]⟩, .int .u32 87, .string ⟨#[111, 112, 101, 110, 97, 116]⟩, .int .u32 257, .string ⟨#[115, 101, 99, 99, 111, 109, 112]⟩, .int .u32 317]
def callsZero : List Value := [.string ⟨#[]⟩, .int .u32 0, .string ⟨#[]⟩, .int .u32 0, .string ⟨#[]⟩, .int .u32 0, .string ⟨#[]⟩, .int .u32 0, .string ⟨#[]⟩, .int .u32 0, .string ⟨#[]⟩, .int .u32 0, .string ⟨#[]⟩, .int .u32 0, .string ⟨#[]⟩, .int .u32 0, .string ⟨#[]⟩, .int .u32 0, .string ⟨#[]⟩, .int .u32 0, .string ⟨#[]⟩, .int .u32 0, .string ⟨#[]⟩, .int .u32 0, .string ⟨#[]⟩, .int .u32 0, .string ⟨#[]⟩, .int .u32 0, .string ⟨#[]⟩, .int .u32 0, .string ⟨#[]⟩, .int .u32 0, .string ⟨#[]⟩, .int .u32 0, .string ⟨#[]⟩, .int .u32 0, .string ⟨#[]⟩, .int .u32 0, .string ⟨#[]⟩, .int .u32 0, .string ⟨#[]⟩, .int .u32 0, .string ⟨#[]⟩, .int .u32 0, .string ⟨#[]⟩, .int .u32 0, .string ⟨#[]⟩, .int .u32 0, .string ⟨#[]⟩, .int .u32 0, .string ⟨#[]⟩, .int .u32 0, .string ⟨#[]⟩, .int .u32 0, .string ⟨#[]⟩, .int .u32 0, .string ⟨#[]⟩, .int .u32 0, .string ⟨#[]⟩, .int .u32 0]
theorem callsReps (w : World) (base : Nat) (ok : Nat → Prop) : Reps (k109.M w base ok) 2 callsTab callsCells := by
  repeat (refine Reps.c2 (k109_mkM w base ok _) ?_)
  exact Reps.none _ _
set_option maxHeartbeats 8000000 in
set_option maxRecDepth 100000 in
theorem mean_calls.calls (r : List S109) (w : World) (h : mean_calls.f = some r) :
    Calls Try.prog 41 #[] w fun e w' => ∃ v0_ : Value, e = .returned v0_ ∧ Kd.R k109 130 w' w.heap.size (fun _ => True) v0_ r ∧ Below w.heap.size w w' := by
  obtain rfl : callsTab = r := by unfold mean_calls.f at h; injection h
  have hu := Try.underlying130
  have HB := Aside0.mk (Below.refl w.heap.size w)
  go_enter Try.func41, Try.ntmps41
  go_wp2_with (first
    | ((with_reducible refine gate_dst (N := 1) rfl ?_); refine box_event ?hg (N := 1) ?hd (cs := callsZero.toArray) (t := 130) ?hr ?_; (case hd => rfl); (case hg => rfl); (case hr => (go_simp; rfl)); intro g hg w1 hk1 hb1; have HK1 := Aside0.mk hk1; have HB1 := Aside0.mk hb1; have HG := Aside0.mk hg; clear hk1 hb1 hg)
    | ((with_reducible refine gate_store (p := 1) rfl ?_); refine store_whole (ty := 130) (p := 1) (y := .tmp 32) (b := g) (old := callsZero.toArray) (cells := callsCells.toArray) rfl rfl rfl rfl rfl HK1.out rfl (by kernel_rfl) (by kernel_rfl) ?_; intro w2 hk2 hb2; have HK2 := Aside0.mk hk2; have HB2 := Aside0.mk hb2; clear hk2 hb2))
  go_ret
  have e : putL callsZero.toArray 0 callsCells.toArray.toList = callsCells.toArray := by kernel_rfl
  have hk := HK2.out
  rw [e] at hk
  refine ⟨_, rfl, ⟨fun _ _ => trivial, callsCells, ⟨rfl, .inr ⟨g, 30, callsCells.toArray, rfl, Nat.le_of_eq HG.out.symm, hk, Nat.le_refl _, by decide, rfl, rfl⟩⟩, callsReps _ _ _⟩, HB2.out _ _ (Nat.le_of_eq HG.out.symm) HB1.out⟩
end Go.Proofs.Ytidnojkijfinaaa.Fns
