/- Part of the proof of TopVerdictSaid. -/
import Derived.Test.YtidnojkijfinaaaQTpCond
import Derived.Test.YtidnojkijfinaaaQTpStack
import Derived.Test.YtidnojkijfinaaaQTpAct
import Derived.Deep.RegionLaw
namespace Go.Proofs.Ytidnojkijfinaaa.Fns
open Go.RowKit Go.Proofs.YtidnojkijfinaaaW.PrintWords Go.Proofs.YtidnojkijfinaaaW.PrintLast Go.Proofs.YtidnojkijfinaaaW.PrintMore
attribute [local go_sem] max2_int min2_int max_two min_two max_three min_three max_four min_four
set_option linter.unusedVariables false
set_option linter.unusedSimpArgs false
theorem wanted_none {o : Oper} {y : Nat → Option Bool} (hg : o.guard = none) : Region.wanted o y = true := by simp [Region.wanted, hg]
theorem gate_step {N : Tmp} {o : Oper} {y : Nat → Option Bool} {X E : Prop} (hN : o.dst = some N) (h : if Region.wanted o y = true then X else E) : if Region.wanted o y = true then X else E := h
def okOf {α : Type} (m : PR α) (d : α × Nat) : α × Nat := match m with
  | .ok p => p
  | .error _ => d
theorem step_parsed {P : Program} {ops : Array Oper} {o : Oper} {a : Act} {w : World} {K : Act → World → Prop} {Q : Exit → Act → World → Prop} {E : Prop}
    (N : Tmp) (hN : o.dst = some N) (hg : o.guard = none) {F : FuncId} {fn : Func} (hf : P.funcs[F]? = some fn) (hn : (fn.name == "runtime.NumGoroutine") = false) (hbd : fn.body.isSome = true) {xs : Array Operand} {ts : Array TypeId} (hop : o.op = Op.call { callee := Callee.value (Operand.func F), args := xs, argTypes := ts })
    {args : Array Value} {α : Type} {enc : World → Value → α → Prop} {g : Nat} {A : Option Addr} {c : Nat} {l : List S68} {m : PR α} {d p : α × Nat} (hd : okOf m d = p)
    (hc : Calls P F args w (Parsed enc w g A c l m)) (hargs0 : (xs.toList.map a.eval).toArray = args) (V : α → Value) (hv : ∀ w' v x, enc w' v x → v = V x) (hp : ∀ er at_ w', m = .error (er, at_) → w.grownBy w' (some g) → Q (.panic [pan er at_]) a w')
    (hK : ∀ w', m = .ok p → Rdr w' g A c l p.2 → w.grownBy w' (some g) → K (a.put o.dst (V p.1)) w') :
    if Region.wanted o (yielded ops a.tmps) = true then Oper.wp P o a w K Q else E := by
  have hw : Region.wanted o (yielded ops a.tmps) = true := by simp [Region.wanted, hg]
  rw [if_pos hw]
  have hargs : xs.map a.eval = args := by rw [← hargs0]; exact Array.ext' (by simp)
  have hn' : fn.name ≠ "runtime.NumGoroutine" := by simpa using hn
  have hb' : fn.body ≠ none := by intro h; rw [h] at hbd; cases hbd
  have h2 : (execOp a.eval o).run P w = .ok (.enter F args) w := by
    simp [execOp, hop, resolve, invoke, Act.eval, hargs, Deferred.ofValue, callFunc, Result.andThen, hf, hn', hb']
  unfold Oper.wp
  rw [h2, Oper.upon_enter]
  refine hc.mono ?_
  intro e w1 hq
  rcases m with ⟨er, at_⟩ | ⟨x, n⟩
  · obtain ⟨rfl, hg⟩ := hq
    exact hp er at_ w1 rfl hg
  · obtain ⟨v, rfl, he, hr, hg⟩ := hq
    subst hd
    rw [hv _ _ _ he]
    exact hK w1 rfl hr hg
def namesR (l : List S68) : Nat → List ByteArray → Nat → PR (List ByteArray)
  | 0, _, _ => .error (0, 0)
  | d + 1, ns, n => if (l.getD n z68).f0 = 1 ∧ ns.length = 16 then .error (4, (l.getD n z68).f1) else match mustR l 1 n with
    | .error e => .error e
    | .ok (t, n2) => if takeB l 3 ⟨#[44]⟩ n2 = true then namesR l d (ns ++ [t.f2]) (n2 + 1) else .ok (ns ++ [t.f2], n2)
def condsR (l : List S68) : Nat → List S98 → Nat → PR (List S98)
  | 0, _, _ => .error (0, 0)
  | d + 1, cs, n => match condR l (decide (cs.length < 8)) n with
    | .error e => .error e
    | .ok (t, n2) => if takeB l 1 ⟨#[97, 110, 100]⟩ n2 = true then condsR l d (cs ++ [t]) (n2 + 1) else .ok (cs ++ [t], n2)
def endR (l : List S68) (r : S72) (n : Nat) : PR S72 := if takeB l 3 ⟨#[59]⟩ n = true then .ok (r, n + 1) else .error (7, (l.getD n z68).f1)
def condsK (l : List S68) (a : S35) (ns : List ByteArray) : PR (List S98) → PR S72
  | .error e => .error e
  | .ok (cs, n3) => endR l ⟨a, ns, cs⟩ n3
def namesK (l : List S68) (a : S35) : PR (List ByteArray) → PR S72
  | .error e => .error e
  | .ok (ns, n2) => if takeB l 1 ⟨#[119, 104, 101, 110]⟩ n2 = true then condsK l a ns (condsR l 9 [] (n2 + 1)) else endR l ⟨a, ns, []⟩ n2
def ruleR (l : List S68) (room : Bool) (n : Nat) : PR S72 := match actR l room n with
  | .error e => .error e
  | .ok (a, n1) => namesK l a (namesR l 17 [] n1)
structure RBox (w wr : World) (g b : Nat) (a : S35) (vn vc : Value) (ns : List ByteArray) (cs : List S98) : Prop where
  out : wr.heap[w.heap.size]? = some (.cells #[.int .i64 0, .int .i64 0, .slice none 0 0, .slice none 0 0] 72 (0, 0))
  box : wr.heap[b]? = some (.cells #[.int .i64 a.f0, .int .i64 a.f1, vn, vc] 72 (0, 0))
  nr : Kd.string.R 9 wr w.heap.size (fun k => k ≠ g ∧ k ≠ b ∧ k ≠ w.heap.size) vn ns
  cr : k98.R 98 wr w.heap.size (fun k => k ≠ g ∧ k ≠ b ∧ k ≠ w.heap.size) vc cs
  gr : w.grownBy wr (some g)
  lt : w.heap.size < b
  gl : g < w.heap.size
section
variable {w wr w2 : World} {g b : Nat} {a : S35} {vn vc : Value} {ns : List ByteArray} {cs : List S98}
theorem RBox.moved (h : RBox w wr g b a vn vc ns cs) (hg : wr.grownBy w2 (some g)) : RBox w w2 g b a vn vc ns cs :=
  ⟨gr_blk hg h.out (fun e => by cases e; exact Nat.lt_irrefl _ h.gl), gr_blk hg h.box (fun e => by cases e; have := h.gl; have := h.lt; omega), Kd.R_grown h.nr hg (fun k hk e => hk.1 (by injection e)), Kd.R_grown h.cr hg (fun k hk e => hk.1 (by injection e)), h.gr.trans hg, h.lt, h.gl⟩
theorem RBox.below (h : RBox w wr g b a vn vc ns cs) (hb : Below wr.heap.size wr w2) : RBox w w2 g b a vn vc ns cs := h.moved (gr_below (gr_refl _ _) hb)
theorem RBox.name (h : RBox w wr g b a vn vc ns cs) {v1 : Value} {w1 : World} {p : ByteArray} (hr : Kd.string.R 9 w1 w.heap.size (fun k => k ≠ g ∧ k ≠ b ∧ k ≠ w.heap.size) v1 (ns ++ [p])) (hg : wr.grownBy w1 vn.ownBlock) : RBox w (w1.setCell ⟨b, 2, none⟩ v1) g b a v1 vc (ns ++ [p]) cs := by
  have h1 : some w.heap.size ≠ vn.ownBlock := Kd.R_away h.nr (fun k hk => hk.2.2)
  have h2 : some b ≠ vn.ownBlock := Kd.R_away h.nr (fun k hk => hk.2.1)
  refine ⟨blk_far (gr_blk hg h.out h1) (p := ⟨b, 2, none⟩) (Nat.ne_of_lt h.lt) _, blk_put (gr_blk hg h.box h2) 2 v1 rfl, Kd.R_far hr (p := ⟨b, 2, none⟩) (fun k hk => hk.2.1) _, Kd.R_far (Kd.R_over h.cr h.nr (fun q hq => ?_) hg) (p := ⟨b, 2, none⟩) (fun k hk => hk.2.1) _, ?_, h.lt, h.gl⟩
  · have : k98.E = [] := rfl
    rw [this] at hq
    simp at hq
    omega
  · exact gr_new (h.gr.andThen hg (fun j hj => .inl (Kd.R_base h.nr j hj))) (Nat.le_of_lt h.lt) 2 v1
theorem RBox.cond (h : RBox w wr g b a vn vc ns cs) {v1 : Value} {w1 : World} {p : S98} (hr : k98.R 98 w1 w.heap.size (fun k => k ≠ g ∧ k ≠ b ∧ k ≠ w.heap.size) v1 (cs ++ [p])) (hg : wr.grownBy w1 vc.ownBlock) : RBox w (w1.setCell ⟨b, 3, none⟩ v1) g b a vn v1 ns (cs ++ [p]) := by
  have h1 : some w.heap.size ≠ vc.ownBlock := Kd.R_away h.cr (fun k hk => hk.2.2)
  have h2 : some b ≠ vc.ownBlock := Kd.R_away h.cr (fun k hk => hk.2.1)
  refine ⟨blk_far (gr_blk hg h.out h1) (p := ⟨b, 3, none⟩) (Nat.ne_of_lt h.lt) _, blk_put (gr_blk hg h.box h2) 3 v1 rfl, Kd.R_far (Kd.R_over h.nr h.cr (fun q hq => ?_) hg) (p := ⟨b, 3, none⟩) (fun k hk => hk.2.1) _, Kd.R_far hr (p := ⟨b, 3, none⟩) (fun k hk => hk.2.1) _, ?_, h.lt, h.gl⟩
  · have : (Kd.string).E = [] := rfl
    rw [this] at hq
    simp at hq
    omega
  · exact gr_new (h.gr.andThen hg (fun j hj => .inl (Kd.R_base h.cr j hj))) (Nat.le_of_lt h.lt) 3 v1
theorem RBox.rd {A : Option Addr} {c n m : Nat} {l : List S68} {w1 : World} {v1 : Value} {j : Nat} {r : Option Nat} (H : Rdr w g A c l n) (h : RBox w (w1.setCell ⟨b, j, none⟩ v1) g b a vn vc ns cs) (hb : Rdr wr g A c l m) (hg : wr.grownBy w1 r) (hr : some g ≠ r) : Rdr (w1.setCell ⟨b, j, none⟩ v1) g A c l m :=
  H.at_ h.gr (blk_far (gr_blk hg hb.blk hr) (p := ⟨b, j, none⟩) (fun e => by have := h.lt; have := h.gl; simp at e; omega) v1) hb.lt
end
def nAt (w : World) (g : Nat) : Nat := match w.cell? ⟨g, 1, none⟩ with
  | some (.int _ n) => n.toNat
  | _ => 0
theorem nAt_is {w : World} {g : Nat} {A : Option Addr} {c : Nat} {l : List S68} {n : Nat} (h : Rdr w g A c l n) : nAt w g = n := by
  unfold nAt
  rw [(blk_cell h.blk 1).trans rfl]
  simp
theorem info9 : (Try.prog.info? 9).map (fun i => (i.zero, i.size, i.bytes)) = some (some (.string ⟨#[]⟩), 1, 16) := by kernel_rfl
theorem info98 : (Try.prog.info? 98).map (fun i => (i.zero, i.size, i.bytes)) = some (some (.agg #[(.int .i64 0), (.int .i64 0), (.int .u64 0), (.int .u64 0)]), 4, 32) := by kernel_rfl
theorem info72s (x y z u : Value) : (Try.prog.info? 72).map (·.size) = some (#[x, y, z, u] : Array Value).size := by
  have h : (Try.prog.info? 72).map (·.size) = some 4 := by kernel_rfl
  exact h
def S98.cellsV (x : S98) : Value := .agg #[.int .i64 x.f0, .int .i64 x.f1, .int .u64 x.f2, .int .u64 x.f3]
def S68.cellsV (t : S68) : Value := .agg t.cells
theorem fn35 : (Try.f35.name == "runtime.NumGoroutine") = false := by decide +kernel
theorem bd35 : Try.f35.body.isSome = true := by rfl
theorem fn36 : (Try.f36.name == "runtime.NumGoroutine") = false := by decide +kernel
theorem bd36 : Try.f36.body.isSome = true := by rfl
theorem must_adv {l : List S68} {k : Int} {n n2 : Nat} {t : S68} (h : mustR l k n = .ok (t, n2)) : n2 = n + 1 := by
  unfold mustR at h
  split at h
  · injection h with h; injection h with _ h; exact h.symm
  · cases h
theorem op_adv {l : List S68} {n n2 : Nat} {t : Int} (h : opR l n = .ok (t, n2)) : n2 = n + 1 := by
  unfold opR at h
  split at h
  · injection h with h; injection h with _ h; exact h.symm
  · cases h
theorem tail_adv {l : List S68} {a m : Int} {n n2 : Nat} {t : S98} (h : condTail l a m n = .ok (t, n2)) : n < n2 := by
  unfold condTail at h
  split at h
  · cases h
  · rename_i op k2 h1
    split at h
    · cases h
    · rename_i v k3 h2
      have := op_adv h1
      have := must_adv h2
      injection h with h; injection h with _ h
      omega
theorem cond_adv {l : List S68} {rb : Bool} {n n2 : Nat} {t : S98} (h : condR l rb n = .ok (t, n2)) : n < n2 := by
  unfold condR at h
  split at h
  · split at h
    · split at h
      · split at h
        · cases h
        · rename_i u k2 h1
          have := must_adv h1
          have := tail_adv h
          omega
      · have := tail_adv h
        omega
    · cases h
  · cases h
theorem cond_full (l : List S68) (n : Nat) : ∃ e, condR l false n = .error e := by
  unfold condR
  split
  · exact ⟨_, rfl⟩
  · exact ⟨_, rfl⟩
def encR (w : World) (g : Nat) : World → Value → S72 → Prop := fun w' v r => ∃ cs : List Value, v = .agg cs.toArray ∧ k72.M w' w.heap.size (fun k => k ≠ g) r cs
set_option maxHeartbeats 32000000 in
set_option maxRecDepth 100000 in
theorem rule_calls (room : Bool) (w : World) (g : Nat) (A : Option Addr) (c : Nat) (l : List S68) (n : Nat) (h : Rdr w g A c l n) :
    Calls Try.prog 20 #[.pointer (some ⟨g, 0, none⟩), .bool room] w fun e w' => Parsed (encR w g) w g A c l (ruleR l room n) e w' := by
  have H := Aside0.mk h
  obtain ⟨r, hr⟩ : ∃ r, ruleR l room n = r := ⟨_, rfl⟩
  have HTB := Aside0.mk hr
  unfold ruleR at hr
  obtain ⟨m, hm⟩ : ∃ m, actR l room n = m := ⟨_, rfl⟩
  rw [hm] at hr
  have HRR := Aside0.mk hr
  have GL := Aside0.mk (show g < w.heap.size from blk_lt h.blk)
  have pac := pact_calls room (w.alloc (.cells #[.int .i64 0, .int .i64 0, .slice none 0 0, .slice none 0 0] 72 (0, 0))) g A c l n (h.grown (below_alloc (Below.refl _ _) _))
  rw [hm] at pac
  have PAC := Aside0.mk pac
  clear h hr hm pac
  go_enter Try.func20, Try.ntmps20
  go_wp2_with fail
  refine PAC.out.mono ?_
  rintro e w1 hp
  rcases m with ⟨er, at_⟩ | ⟨a, n1⟩
  · obtain ⟨rfl, hG⟩ := hp
    refine ⟨rfl, ?_⟩
    rw [HTB.out, ← HRR.out]
    exact ⟨rfl, (gr_alloc (gr_refl w (some g)) _).trans hG⟩
  obtain ⟨v, rfl, hv, hR, hG⟩ := hp
  obtain rfl : v = .agg #[.int .i64 a.f0, .int .i64 a.f1] := hv
  have R1 := Aside0.mk hR
  have G1 := Aside0.mk ((gr_alloc (gr_refl w (some g)) (.cells #[.int .i64 0, .int .i64 0, .slice none 0 0, .slice none 0 0] 72 (0, 0))).trans hG)
  have B1 := Aside0.mk (gr_blk hG (blk_new w (.cells #[.int .i64 0, .int .i64 0, .slice none 0 0, .slice none 0 0] 72 (0, 0))) (fun e => by cases e; exact Nat.lt_irrefl _ GL.out))
  clear PAC hR hG
  go_wp2_with fail
  have RB0 : Aside0 (RBox w (w1.alloc (.cells #[.int .i64 a.f0, .int .i64 a.f1, .slice none 0 0, .slice none 0 0] 72 (0, 0))) g w1.heap.size a (.slice none 0 0) (.slice none 0 0) [] []) := ⟨⟨blk_alloc B1.out _, blk_new w1 _, Kd.R_nil _ _ _ _ _, Kd.R_nil _ _ _ _ _, gr_alloc G1.out _, blk_lt B1.out, GL.out⟩⟩
  have RR0 := Aside0.mk (R1.out.grown (below_alloc (Below.refl _ _) (.cells #[.int .i64 a.f0, .int .i64 a.f1, .slice none 0 0, .slice none 0 0] 72 (0, 0))))
  clear R1 G1 B1
  generalize w1.alloc (.cells #[.int .i64 a.f0, .int .i64 a.f1, .slice none 0 0, .slice none 0 0] 72 (0, 0)) = w2 at RB0 RR0 ⊢
  generalize w1.heap.size = b at RB0 ⊢
  go_loopw [6] (fun v6 wr => ∃ (more : Bool) (vn : Value) (ns : List ByteArray) (n2 : Nat), v6 = .bool more ∧ ns.length ≤ 16 ∧ Aside0 (namesK l a (if more = true then namesR l (17 - ns.length) ns n2 else .ok (ns, n2)) = r) ∧ Aside0 (RBox w wr g b a vn (.slice none 0 0) ns []) ∧ Aside0 (Rdr wr g A c l n2)) (fun _ wr => l.length - nAt wr g)
  case atStart => exact ⟨true, .slice none 0 0, [], n1, rfl, by simp, HRR, RB0, RR0⟩
  case round =>
    clear HRR RB0 RR0
    obtain ⟨more, vn, ns, n2, rfl, hlen, HS, RB, RR⟩ := hrel
    obtain ⟨An, cn, rfl⟩ := Kd.R_slice RB.out.nr
    have NW := Aside0.mk (And.intro (nAt_is RR.out) RR.out.lt)
    cases more with
    | true =>
      have hs := HS.out
      rw [if_pos rfl, show 17 - ns.length = (16 - ns.length) + 1 by omega, namesR] at hs
      have HS2 := Aside0.mk hs
      have HLE := Aside0.mk hlen
      clear HS hs hlen
      go_upto_region 5 with (fail)
      go_cut [24] from 12 to 34 (fun v24 wc => v24 = .bool ((l.getD n2 z68).f0 == 1 && ((ns.length : Int) == 16)) ∧ Aside0 (RBox w wc g b a (.slice An ns.length cn) (.slice none 0 0) ns []) ∧ Aside0 (Rdr wc g A c l n2))
      case first =>
        go_wp2_with fail
        refine (now_calls wr g A c l n2 RR.out).mono ?_
        rintro e w3 ⟨rfl, hb⟩
        have RB3 := Aside0.mk (RB.out.below hb)
        have RR3 := Aside0.mk (RR.out.grown hb)
        have c2 : w3.cell? ⟨b, 2, none⟩ = some (.slice An ns.length cn) := (blk_cell RB3.out.box 2).trans rfl
        clear hb RB
        obtain ⟨t, htt⟩ : ∃ t, l.getD n2 z68 = t := ⟨_, rfl⟩
        have HTT := Aside0.mk htt
        rw [htt]
        clear htt
        have hfd := run_field68_0 t
        cases h1 : (t.f0 == 1) with
        | true =>
          go_wp2_with fail
          go_meet
          case rel => exact ⟨by rw [HTT.out, h1]; rfl, RB3, RR3⟩
        | false =>
          go_wp2_with fail
          go_meet
          case rel => exact ⟨by rw [HTT.out, h1]; rfl, RB3, RR3⟩
      case rest =>
        obtain ⟨rfl, RB3, RR3⟩ := hcut
        obtain ⟨t, htt⟩ : ∃ t, l.getD n2 z68 = t := ⟨_, rfl⟩
        have HTT := Aside0.mk htt
        have hs := HS2.out
        rw [htt] at hs ⊢
        clear htt
        by_cases h1 : t.f0 = 1 ∧ ns.length = 16
        · rw [if_pos h1] at hs
          have HS3 := Aside0.mk hs
          have e1 : (t.f0 == 1 && ((ns.length : Int) == 16)) = true := by simp [h1.1]; omega
          clear h1 hs HS2
          rw [e1]
          go_wp2_with fail
          refine (fail_calls 4 _ g A c l n2 RR3.out).mono ?_
          rintro e w4 ⟨rfl, hb⟩
          refine ⟨rfl, ?_⟩
          rw [HTB.out, ← HS3.out, HTT.out]
          exact ⟨rfl, gr_below RB3.out.gr hb⟩
        · rw [if_neg h1] at hs
          have HS3 := Aside0.mk hs
          have e1 : (t.f0 == 1 && ((ns.length : Int) == 16)) = false := by
            cases hq : (t.f0 == 1 && ((ns.length : Int) == 16)) with
            | false => rfl
            | true =>
              simp at hq
              exact absurd ⟨hq.1, by omega⟩ h1
          have H1 := Aside0.mk h1
          clear hs HS2 h1
          rw [e1]
          go_upto_region 7 with (fail)
          have c2 : wc.cell? ⟨b, 2, none⟩ = some (.slice An ns.length cn) := (blk_cell RB3.out.box 2).trans rfl
          have f2 := blk_frozen RB3.out.box 2
          obtain ⟨m, hm⟩ : ∃ m, mustR l 1 n2 = m := ⟨_, rfl⟩
          have hmc := must_calls 1 wc.drew g A c l n2 (RR3.out.grown (below_drew (Below.refl _ _))) (by decide)
          rw [hm] at hmc
          have hs := HS3.out
          rw [hm] at hs
          have HMC := Aside0.mk hmc
          have HS4 := Aside0.mk hs
          have HN := Aside0.mk hm
          have RBD := Aside0.mk (RB3.out.below (below_drew (Below.refl _ _)))
          clear hmc hs hm HS3 RR
          obtain ⟨⟨u, n3⟩, hp0⟩ : ∃ p, okOf m (z68, 0) = p := ⟨_, rfl⟩
          have HP0 := Aside0.mk hp0
          clear hp0
          have hfd : ∀ W, (Instr.field 68 (S68.cellsV u) 2).run Try.prog W = .ok (.string u.f2) W := run_field68_2 u
          have GLT := Aside0.mk (And.intro RB3.out.lt RB3.out.gl)
          go_region_law (first
            | ((with_reducible refine gate_step (N := 30) rfl ?_); refine step_parsed 30 rfl rfl Try.func35 fn35 bd35 rfl HP0.out HMC.out rfl S68.cellsV (fun _ _ _ h => h) ?hp ?_; (case hp => intro er at_ w' he hg5; refine ⟨rfl, ?_⟩; rw [HTB.out, ← HS4.out, he]; exact ⟨rfl, RBD.out.gr.trans hg5⟩); intro w5 hm5 hr5 hg5; have RB5 := Aside0.mk (RBD.out.moved hg5); have RR5 := Aside0.mk hr5; have M5 := Aside0.mk hm5; have x5 : w5.cell? ⟨b, 2, none⟩ = some (.slice An ns.length cn) := (blk_cell RB5.out.box 2).trans rfl; have x6 : ∀ o, (w5.alloc o).cell? ⟨b, 2, none⟩ = some (.slice An ns.length cn) := fun o => (blk_cell (blk_alloc RB5.out.box o) 2).trans rfl; clear hm5 hr5 hg5)
            | ((with_reducible refine gate_step (N := 33) rfl ?_); refine Kd.R_append_step Kd.string (w0 := w5) w.heap.size (wanted_none rfl) (.tmp 28) (.tmp 32) 22 9 (.string ⟨#[]⟩) 16 rfl Try.underlying22 info9 rfl (by decide) (by decide) (.slice An ns.length cn) ns u.f2 [.string u.f2] (fun k => k ≠ g ∧ k ≠ b ∧ k ≠ w.heap.size) (fun _ => False) rfl rfl rfl (fun _ h => h.elim) ?aF RB5.out.nr (Below.refl _ _) RB5.out.gr.size ?aL ?_; (case aF => intro k hk; have := RB5.out.gr.size; have := RB5.out.lt; have := RB5.out.gl; have := blk_lt RB5.out.box; refine ⟨?_, ?_, ?_⟩ <;> omega); (case aL => have := HLE.out; omega); intro v6 w6 ho6 hb6 hg6 hat6; have e6 := Kd.R_slice ho6; rw [List.length_append, List.length_singleton] at e6; obtain ⟨A6, c6, rfl⟩ := e6; have HO6 := Aside0.mk ho6; have HG6 := Aside0.mk hg6; have RB6 := Aside0.mk (RB5.out.name ho6 hg6); have RR6 := Aside0.mk (RBox.rd H.out RB6.out RR5.out hg6 (Kd.R_away RB5.out.nr (fun k hk => hk.1))); have f6 : w6.frozen? ⟨b, 2, none⟩ = false := blk_frozen (gr_blk hg6 RB5.out.box (Kd.R_away RB5.out.nr (fun k hk => hk.2.1))) 2; have x7 : w6.cell? ⟨b, 2, none⟩ = some (.slice An ns.length cn) := (blk_cell (gr_blk hg6 RB5.out.box (Kd.R_away RB5.out.nr (fun k hk => hk.2.1))) 2).trans rfl; clear ho6 hb6 hg6 hat6))
          all_goals
            have hs := HS4.out
            rw [M5.out] at hs
            have HS5 : Aside0 (namesK l a (if takeB l 3 ⟨#[44]⟩ n3 = true then namesR l (16 - ns.length) (ns ++ [u.f2]) (n3 + 1) else .ok (ns ++ [u.f2], n3)) = r) := ⟨hs⟩
            have HLT : Aside0 (ns.length < 16) := ⟨by
              have h1 := HLE.out
              have h2 := HN.out
              rw [M5.out] at h2
              unfold mustR at h2
              rw [HTT.out] at h2
              by_cases h3 : t.f0 = 1
              · by_cases h4 : ns.length = 16
                · exact absurd ⟨h3, h4⟩ H1.out
                · omega
              · rw [if_neg h3] at h2
                cases h2⟩
            have HN3 : Aside0 (n3 = n2 + 1) := ⟨by
              have h2 := HN.out
              rw [M5.out] at h2
              unfold mustR at h2
              split at h2
              · injection h2 with h2; injection h2 with _ h2; exact h2.symm
              · cases h2⟩
            have RB7 := RB6
            have RR7 := RR6
            clear hs HS4 HN HMC HP0 hfd x5 x6 x7 f6 c2 f2 M5 RB5 RR5 RB6 RR6 RB3 RR3 RBD HO6 HG6
            generalize w6.setCell ⟨b, 2, none⟩ (.slice A6 (ns.length + 1) c6) = w7 at RB7 RR7 ⊢
            go_wp2_with fail
            obtain ⟨tb, htb⟩ : ∃ tb, takeB l 3 ⟨#[44]⟩ n3 = tb := ⟨_, rfl⟩
            have htc := take_calls 3 ⟨#[44]⟩ w7 g A c l n3 RR7.out (by decide)
            rw [htb] at htc
            have hs := HS5.out
            rw [htb] at hs
            have HS6 := Aside0.mk hs
            have HTB2 := Aside0.mk htb
            clear htb hs HS5
            refine htc.mono ?_
            clear htc
            rintro e w8 ⟨rfl, hR8, hG8⟩
            have RB8 := Aside0.mk (RB7.out.moved hG8)
            have RR8 := Aside0.mk hR8
            clear hR8 hG8 RB7 RR7
            go_wp2_with fail
            have hq : takeN l 3 ⟨#[44]⟩ n3 = if tb = true then n3 + 1 else n3 := by unfold takeN; rw [HTB2.out]
            rw [hq] at RR8
            refine ⟨⟨tb, _, ns ++ [u.f2], _, rfl, by rw [List.length_append, List.length_singleton]; have := HLT.out; omega, ?_, RB8, RR8⟩, ?_⟩
            · refine ⟨?_⟩
              rw [← HS6.out, List.length_append, List.length_singleton]
              cases tb with
              | true => rw [if_pos rfl, if_pos rfl, if_pos rfl, show 17 - (ns.length + 1) = 16 - ns.length by omega]
              | false => rw [if_neg (by simp), if_neg (by simp), if_neg (by simp)]
            · rw [nAt_is RR8.out, NW.out.1]
              have h1 := HN3.out
              have h2 := NW.out.2
              have h3 := RR8.out.lt
              cases tb
              · rw [if_neg (by simp)] at h3 ⊢; omega
              · rw [if_pos rfl] at h3 ⊢; omega
    | false =>
      have hs := HS.out
      rw [if_neg (by simp)] at hs
      unfold namesK at hs
      have HS2 := Aside0.mk hs
      clear HS hs NW
      go_wp2_with fail
      obtain ⟨tb, htb⟩ : ∃ tb, takeB l 1 ⟨#[119, 104, 101, 110]⟩ n2 = tb := ⟨_, rfl⟩
      have htc := take_calls 1 ⟨#[119, 104, 101, 110]⟩ wr g A c l n2 RR.out (by decide)
      rw [htb] at htc
      have hs := HS2.out
      rw [htb] at hs
      have HS6 := Aside0.mk hs
      have HTB2 := Aside0.mk htb
      clear htb hs HS2
      refine htc.mono ?_
      clear htc
      rintro e w3 ⟨rfl, hR3, hG3⟩
      have RB3 := Aside0.mk (RB.out.moved hG3)
      have hq : takeN l 1 ⟨#[119, 104, 101, 110]⟩ n2 = if tb = true then n2 + 1 else n2 := by unfold takeN; rw [HTB2.out]
      rw [hq] at hR3
      have RR3 := Aside0.mk hR3
      clear hR3 hG3 RB RR hq HTB2 hlen
      go_upto_if 36 with (fail)
      go_cut [] from 37 to 50 (fun wc => ∃ (vc : Value) (cs : List S98) (n4 : Nat), Aside0 (endR l ⟨a, ns, cs⟩ n4 = r) ∧ Aside0 (RBox w wc g b a (.slice An ns.length cn) vc ns cs) ∧ Aside0 (Rdr wc g A c l n4))
      case first =>
        cases tb with
        | false =>
          have hs := HS6.out
          rw [if_neg (by simp)] at hs
          have hr := RR3.out
          rw [if_neg (by simp)] at hr
          go_wp2_with fail
          go_meet
          case rel => exact ⟨.slice none 0 0, [], n2, ⟨hs⟩, RB3, ⟨hr⟩⟩
        | true =>
          have hs := HS6.out
          rw [if_pos rfl] at hs
          have hr := RR3.out
          rw [if_pos rfl] at hr
          have HS7 := Aside0.mk hs
          have RR4 := Aside0.mk hr
          clear hs hr HS6 RR3
          go_wp2_with fail
          go_loopw [7] (fun v7 wr => ∃ (more : Bool) (vc : Value) (cs : List S98) (n4 : Nat), v7 = .bool more ∧ cs.length ≤ 8 ∧ Aside0 (condsK l a ns (if more = true then condsR l (9 - cs.length) cs n4 else .ok (cs, n4)) = r) ∧ Aside0 (RBox w wr g b a (.slice An ns.length cn) vc ns cs) ∧ Aside0 (Rdr wr g A c l n4)) (fun _ wr => l.length - nAt wr g)
          case atStart => exact ⟨true, .slice none 0 0, [], n2 + 1, rfl, by simp, HS7, RB3, RR4⟩
          case round =>
            clear HS7 RB3 RR4
            obtain ⟨more, vc, cs, n4, rfl, hlen, HS, RB, RR⟩ := hrel
            obtain ⟨Ac, cc, rfl⟩ := Kd.R_slice RB.out.cr
            have NW := Aside0.mk (And.intro (nAt_is RR.out) RR.out.lt)
            cases more with
            | false =>
              have hs := HS.out
              rw [if_neg (by simp)] at hs
              clear HS
              go_wp2_with fail
              go_meet
              case rel => exact ⟨_, cs, n4, ⟨hs⟩, RB, RR⟩
            | true =>
              have hs := HS.out
              rw [if_pos rfl, show 9 - cs.length = (8 - cs.length) + 1 by omega, condsR] at hs
              obtain ⟨rb, hrb⟩ : ∃ rb, decide (cs.length < 8) = rb := ⟨_, rfl⟩
              have hrb2 : decide ((cs.length : Int) < 8) = rb := by rw [← hrb]; exact decide_eq_decide.2 (by omega)
              rw [hrb] at hs
              have HRB := Aside0.mk hrb
              obtain ⟨m, hm⟩ : ∃ m, condR l rb n4 = m := ⟨_, rfl⟩
              rw [hm] at hs
              have hmc := pcond_calls rb wr.drew g A c l n4 (RR.out.grown (below_drew (Below.refl _ _)))
              rw [hm] at hmc
              have HMC := Aside0.mk hmc
              have HS4 := Aside0.mk hs
              have HN := Aside0.mk hm
              have HLE := Aside0.mk hlen
              have c3 : wr.cell? ⟨b, 3, none⟩ = some (.slice Ac cs.length cc) := (blk_cell RB.out.box 3).trans rfl
              have RBD := Aside0.mk (RB.out.below (below_drew (Below.refl _ _)))
              clear hs hm hmc HS RR hlen
              obtain ⟨⟨u, n5⟩, hp0⟩ : ∃ p, okOf m (z98, 0) = p := ⟨_, rfl⟩
              have HP0 := Aside0.mk hp0
              clear hp0
              go_upto_region 12 with (fail)
              go_region_law (first
                | ((with_reducible refine gate_step (N := 47) rfl ?_); refine step_parsed 47 rfl rfl Try.func36 fn36 bd36 rfl HP0.out HMC.out rfl S98.cellsV (fun _ _ _ h => h) ?hp ?_; (case hp => intro er at_ w' he hg5; refine ⟨rfl, ?_⟩; rw [HTB.out, ← HS4.out, he]; exact ⟨rfl, RBD.out.gr.trans hg5⟩); intro w5 hm5 hr5 hg5; have RB5 := Aside0.mk (RBD.out.moved hg5); have RR5 := Aside0.mk hr5; have M5 := Aside0.mk hm5; have x5 : w5.cell? ⟨b, 3, none⟩ = some (.slice Ac cs.length cc) := (blk_cell RB5.out.box 3).trans rfl; have x6 : ∀ o, (w5.alloc o).cell? ⟨b, 3, none⟩ = some (.slice Ac cs.length cc) := fun o => (blk_cell (blk_alloc RB5.out.box o) 3).trans rfl; clear hm5 hr5 hg5; unfold S98.cellsV)
                | ((with_reducible refine gate_step (N := 49) rfl ?_); refine Kd.R_append_step k98 (w0 := w5) w.heap.size (wanted_none rfl) (.tmp 41) (.tmp 48) 70 98 _ 32 rfl Try.underlying70 info98 rfl (by decide) (by decide) (.slice Ac cs.length cc) cs u _ (fun k => k ≠ g ∧ k ≠ b ∧ k ≠ w.heap.size) (fun _ => False) rfl rfl (k98_mkM _ _ _ u) (fun _ h => h.elim) ?aF RB5.out.cr (Below.refl _ _) RB5.out.gr.size ?aL ?_; (case aF => intro k hk; have := RB5.out.gr.size; have := RB5.out.lt; have := RB5.out.gl; have := blk_lt RB5.out.box; refine ⟨?_, ?_, ?_⟩ <;> omega); (case aL => have := HLE.out; omega); intro v6 w6 ho6 hb6 hg6 hat6; have e6 := Kd.R_slice ho6; rw [List.length_append, List.length_singleton] at e6; obtain ⟨A6, c6, rfl⟩ := e6; have HO6 := Aside0.mk ho6; have HG6 := Aside0.mk hg6; have RB6 := Aside0.mk (RB5.out.cond ho6 hg6); have RR6 := Aside0.mk (RBox.rd H.out RB6.out RR5.out hg6 (Kd.R_away RB5.out.cr (fun k hk => hk.1))); have f6 : w6.frozen? ⟨b, 3, none⟩ = false := blk_frozen (gr_blk hg6 RB5.out.box (Kd.R_away RB5.out.cr (fun k hk => hk.2.1))) 3; have x7 : w6.cell? ⟨b, 3, none⟩ = some (.slice Ac cs.length cc) := (blk_cell (gr_blk hg6 RB5.out.box (Kd.R_away RB5.out.cr (fun k hk => hk.2.1))) 3).trans rfl; clear ho6 hb6 hg6 hat6))
              all_goals
                have hs := HS4.out
                rw [M5.out] at hs
                have HS5 : Aside0 (condsK l a ns (if takeB l 1 ⟨#[97, 110, 100]⟩ n5 = true then condsR l (8 - cs.length) (cs ++ [u]) (n5 + 1) else .ok (cs ++ [u], n5)) = r) := ⟨hs⟩
                have HLT : Aside0 (cs.length < 8) := ⟨by
                  have h2 := HN.out
                  rw [M5.out] at h2
                  cases rb with
                  | true => exact of_decide_eq_true HRB.out
                  | false =>
                    obtain ⟨e, he⟩ := cond_full l n4
                    rw [he] at h2
                    cases h2⟩
                have HN3 : Aside0 (n4 < n5) := ⟨by
                  have h2 := HN.out
                  rw [M5.out] at h2
                  exact cond_adv h2⟩
                have RB7 := RB6
                have RR7 := RR6
                clear hs HS4 HN HMC HP0 x5 x6 x7 f6 c3 M5 RB5 RR5 RB6 RR6 RB RBD HO6 HG6 HRB hrb hrb2
                generalize w6.setCell ⟨b, 3, none⟩ (.slice A6 (cs.length + 1) c6) = w7 at RB7 RR7 ⊢
                go_wp2_with fail
                obtain ⟨tb, htb⟩ : ∃ tb, takeB l 1 ⟨#[97, 110, 100]⟩ n5 = tb := ⟨_, rfl⟩
                have htc := take_calls 1 ⟨#[97, 110, 100]⟩ w7 g A c l n5 RR7.out (by decide)
                rw [htb] at htc
                have hs := HS5.out
                rw [htb] at hs
                have HS6 := Aside0.mk hs
                have HTB2 := Aside0.mk htb
                clear htb hs HS5
                refine htc.mono ?_
                clear htc
                rintro e w8 ⟨rfl, hR8, hG8⟩
                have RB8 := Aside0.mk (RB7.out.moved hG8)
                have RR8 := Aside0.mk hR8
                clear hR8 hG8 RB7 RR7
                go_wp2_with fail
                have hq : takeN l 1 ⟨#[97, 110, 100]⟩ n5 = if tb = true then n5 + 1 else n5 := by unfold takeN; rw [HTB2.out]
                rw [hq] at RR8
                refine ⟨⟨tb, _, cs ++ [u], _, rfl, by rw [List.length_append, List.length_singleton]; have := HLT.out; omega, ?_, RB8, RR8⟩, ?_⟩
                · refine ⟨?_⟩
                  rw [← HS6.out, List.length_append, List.length_singleton]
                  cases tb with
                  | true => rw [if_pos rfl, if_pos rfl, if_pos rfl, show 9 - (cs.length + 1) = 8 - cs.length by omega]
                  | false => rw [if_neg (by simp), if_neg (by simp), if_neg (by simp)]
                · rw [nAt_is RR8.out, NW.out.1]
                  have h1 := HN3.out
                  have h2 := NW.out.2
                  have h3 := RR8.out.lt
                  cases tb
                  · rw [if_neg (by simp)] at h3 ⊢; omega
                  · rw [if_pos rfl] at h3 ⊢; omega
      case rest =>
        obtain ⟨vc, cs, n4, HS9, RB9, RR9⟩ := hcut
        clear RB3 RR3 HS6
        obtain ⟨te, hte⟩ : ∃ te, takeB l 3 ⟨#[59]⟩ n4 = te := ⟨_, rfl⟩
        have hs := HS9.out
        unfold endR at hs
        have hte2 := take_calls 3 ⟨#[59]⟩ wc g A c l n4 RR9.out (by decide)
        rw [hte] at hs hte2
        have HS10 := Aside0.mk hs
        have HTE := Aside0.mk hte
        clear hs HS9 hte
        go_wp2_with fail
        refine hte2.mono ?_
        clear hte2
        rintro e w3 ⟨rfl, hR3, hG3⟩
        have RB3 := Aside0.mk (RB9.out.moved hG3)
        have hq : takeN l 3 ⟨#[59]⟩ n4 = if te = true then n4 + 1 else n4 := by unfold takeN; rw [HTE.out]
        rw [hq] at hR3
        have RR3 := Aside0.mk hR3
        clear hR3 hG3 RB9 RR9 hq HTE
        cases te with
        | false =>
          have hs := HS10.out
          rw [if_neg (by simp)] at hs
          have hr := RR3.out
          rw [if_neg (by simp)] at hr
          have HS11 := Aside0.mk hs
          have RR4 := Aside0.mk hr
          clear hs hr HS10 RR3
          go_wp2_with fail
          refine (fail_calls 7 _ g A c l n4 RR4.out).mono ?_
          rintro e w4 ⟨rfl, hb⟩
          refine ⟨rfl, ?_⟩
          rw [HTB.out, ← HS11.out]
          exact ⟨rfl, gr_below RB3.out.gr hb⟩
        | true =>
          have hs := HS10.out
          rw [if_pos rfl] at hs
          have hr := RR3.out
          rw [if_pos rfl] at hr
          have HS11 := Aside0.mk hs
          have RR4 := Aside0.mk hr
          clear hs hr HS10 RR3
          obtain ⟨Ac, cc, rfl⟩ := Kd.R_slice RB3.out.cr
          go_wp2_with (first
            | ((with_reducible refine gate_dst (N := 56) rfl ?_); refine wpList_load_row rfl 72 (.tmp 5) rfl b rfl 72 _ (0, 0) _ RB3.out.box Try.underlying72 rfl (info72s _ _ _ _) ?_)
            | ((with_reducible refine gate_store (p := 4) rfl ?_); refine store_all (ty := 72) (p := 4) (y := .tmp 56) (b := w.heap.size) (cells := #[.int .i64 a.f0, .int .i64 a.f1, .slice An ns.length cn, .slice Ac cs.length cc]) rfl rfl rfl rfl rfl RB3.out.out rfl (info72s _ _ _ _) (by simp [Value.oneCell']) ?_; intro w9 hk9 hg9; have K9 := Aside0.mk hk9; have G9 := Aside0.mk hg9; clear hk9 hg9))
          have hgw := RB3.out.gr.andThen G9.out (fun j hj => .inl (by cases hj; exact Nat.le_refl _))
          have hbg := gr_blk G9.out RR4.out.blk (fun e => by cases e; exact Nat.lt_irrefl _ GL.out)
          refine bodyPost_ret (results_cell_row rfl _ _ w.heap.size 72 _ (0, 0) _ rfl K9.out Try.underlying72 rfl (info72s _ _ _ _)) rfl ?_
          rw [HTB.out, ← HS11.out]
          refine ⟨_, rfl, ⟨_, rfl, ?_⟩, H.out.at_ hgw hbg RR4.out.lt, hgw⟩
          exact k72_mkM _ _ _ ⟨a, ns, cs⟩ (Kd.R_mono (Kd.R_grown RB3.out.nr G9.out (fun k hk e => hk.2.2 (by injection e))) (fun k hk => hk.1)) (Kd.R_mono (Kd.R_grown RB3.out.cr G9.out (fun k hk e => hk.2.2 (by injection e))) (fun k hk => hk.1))
end Go.Proofs.Ytidnojkijfinaaa.Fns
