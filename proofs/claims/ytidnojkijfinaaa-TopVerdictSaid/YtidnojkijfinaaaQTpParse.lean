/- Part of the proof of TopVerdictSaid. -/
import Derived.Test.YtidnojkijfinaaaQTpCatch
import Derived.Test.YtidnojkijfinaaaQTpAll
namespace Go.Proofs.Ytidnojkijfinaaa.Fns
open Go.RowKit Go.Proofs.YtidnojkijfinaaaW.PrintWords Go.Proofs.YtidnojkijfinaaaW.PrintLast Go.Proofs.YtidnojkijfinaaaW.PrintMore
attribute [local go_sem] max2_int min2_int max_two min_two max_three min_three max_four min_four
set_option linter.unusedVariables false
set_option linter.unusedSimpArgs false
def rulesR (l : List S68) : Nat → List S72 → Nat → PR (List S72)
  | 0, _, _ => .error (0, 0)
  | d + 1, rs, n => if (l.getD n z68).f0 = 4 then .ok (rs, n) else match ruleR l (decide (rs.length < 64)) n with
    | .error e => .error e
    | .ok (r, n2) => rulesR l d (rs ++ [r]) n2
def bodyK (a : S35) : PR (List S72) → Except (Int × Int) (S35 × List S72)
  | .error e => .error e
  | .ok (rs, _) => .ok (a, rs)
def bodyR (l : List S68) : Except (Int × Int) (S35 × List S72) :=
  if takeB l 1 ⟨#[100, 101, 102, 97, 117, 108, 116]⟩ 0 = true then
    match actR l true 1 with
    | .error e => .error e
    | .ok (a, n1) => if takeB l 3 ⟨#[59]⟩ n1 = true then bodyK a (rulesR l 65 [] (n1 + 1)) else .error (7, (l.getD n1 z68).f1)
  else .error (7, (l.getD 0 z68).f1)
def ParseAns (w : World) (r : Except (Int × Int) (S35 × List S72)) (e : Ending) (w' : World) : Prop := Below w.heap.size w w' ∧ match r with
  | .error (er, at_) => e = .returned (.tuple #[.agg z38, .int .i64 er, .int .i64 at_])
  | .ok (a, rs) => ∃ v, e = .returned (.tuple #[.agg #[.int .i64 a.f0, .int .i64 a.f1, v], .int .i64 0, .int .i64 (-1)]) ∧ k72.R 72 w' w.heap.size (fun _ => True) v rs
structure TokOk (l : List S68) : Prop where
  pos : 0 < l.length
  short : l.length ≤ 9000
  last : ∀ (h : l.length - 1 < l.length), (l[l.length - 1]).f0 = 4
structure PBox (w wr : World) (g ga : Nat) (a0 a1 : Int) (v : Value) (rs : List S72) : Prop where
  out : wr.heap[w.heap.size]? = some (.cells #[.int .i64 a0, .int .i64 a1, v] 38 (0, 0))
  o3 : wr.heap[w.heap.size + 1]? = some (.cells #[.int .i64 0] 39 (0, 0))
  o4 : ∃ x, wr.heap[w.heap.size + 1 + 1]? = some (.cells #[x] 3 (0, 0))
  rr : k72.R 72 wr w.heap.size (fun k => k ≠ g ∧ k ≠ ga ∧ k ≠ w.heap.size ∧ k ≠ w.heap.size + 1 ∧ k ≠ w.heap.size + 1 + 1) v rs
  bl : Below w.heap.size w wr
  gl : w.heap.size + 1 + 1 < ga
  gg : ga < g
section
variable {w wr w2 : World} {g ga : Nat} {a0 a1 : Int} {v : Value} {rs : List S72}
theorem PBox.moved (h : PBox w wr g ga a0 a1 v rs) (hg : wr.grownBy w2 (some g)) : PBox w w2 g ga a0 a1 v rs := by
  obtain ⟨x, hx⟩ := h.o4
  have gl := h.gl
  have gg := h.gg
  refine ⟨gr_blk hg h.out (fun e => ?_), gr_blk hg h.o3 (fun e => ?_), ⟨x, gr_blk hg hx (fun e => ?_)⟩, Kd.R_grown h.rr hg (fun k hk e => hk.1 (by injection e)), below_of_gr (g := g) (B := w.heap.size) h.bl.size hg (by omega) h.bl, gl, gg⟩ <;> (injection e; omega)
theorem PBox.below (h : PBox w wr g ga a0 a1 v rs) (hb : Below wr.heap.size wr w2) : PBox w w2 g ga a0 a1 v rs := h.moved (gr_below (gr_refl _ _) hb)
theorem PBox.put (h : PBox w wr g ga a0 a1 v rs) (x y : Int) : PBox w ((wr.setCell ⟨w.heap.size, 0, none⟩ (.int .i64 x)).setCell ⟨w.heap.size, 1, none⟩ (.int .i64 y)) g ga x y v rs := by
  obtain ⟨z, hz⟩ := h.o4
  refine ⟨blk_put (blk_put h.out 0 _ rfl) 1 _ rfl, blk_far (blk_far h.o3 (p := ⟨w.heap.size, 0, none⟩) (by show w.heap.size + 1 ≠ w.heap.size; omega) _) (p := ⟨w.heap.size, 1, none⟩) (by show w.heap.size + 1 ≠ w.heap.size; omega) _, ⟨z, blk_far (blk_far hz (p := ⟨w.heap.size, 0, none⟩) (by show w.heap.size + 1 + 1 ≠ w.heap.size; omega) _) (p := ⟨w.heap.size, 1, none⟩) (by show w.heap.size + 1 + 1 ≠ w.heap.size; omega) _⟩, ?_, (h.bl.setCell (Nat.le_refl _) _).setCell (Nat.le_refl _) _, h.gl, h.gg⟩
  exact Kd.R_far (Kd.R_far h.rr (p := ⟨w.heap.size, 0, none⟩) (fun k hk => hk.2.2.1) _) (p := ⟨w.heap.size, 1, none⟩) (fun k hk => hk.2.2.1) _
theorem PBox.rule (h : PBox w wr g ga a0 a1 v rs) {v1 : Value} {w1 : World} {r : S72} (hr : k72.R 72 w1 w.heap.size (fun k => k ≠ g ∧ k ≠ ga ∧ k ≠ w.heap.size ∧ k ≠ w.heap.size + 1 ∧ k ≠ w.heap.size + 1 + 1) v1 (rs ++ [r])) (hg : wr.grownBy w1 v.ownBlock) : PBox w (w1.setCell ⟨w.heap.size, 2, none⟩ v1) g ga a0 a1 v1 (rs ++ [r]) := by
  obtain ⟨z, hz⟩ := h.o4
  refine ⟨blk_put (gr_blk hg h.out (Kd.R_away h.rr (fun k hk => hk.2.2.1))) 2 _ rfl, blk_far (gr_blk hg h.o3 (Kd.R_away h.rr (fun k hk => hk.2.2.2.1))) (p := ⟨w.heap.size, 2, none⟩) (by show w.heap.size + 1 ≠ w.heap.size; omega) _, ⟨z, blk_far (gr_blk hg hz (Kd.R_away h.rr (fun k hk => hk.2.2.2.2))) (p := ⟨w.heap.size, 2, none⟩) (by show w.heap.size + 1 + 1 ≠ w.heap.size; omega) _⟩, Kd.R_far hr (p := ⟨w.heap.size, 2, none⟩) (fun k hk => hk.2.2.1) _, ?_, h.gl, h.gg⟩
  exact (h.bl.grown hg h.bl.size (fun j hj => Kd.R_base h.rr j hj)).setCell (Nat.le_refl _) _
theorem Rdr.keep {W W' : World} {c n : Nat} {l : List S68} (h : Rdr W g (some ⟨ga, 0, none⟩) c l n) (h1 : W'.heap[g]? = W.heap[g]?) (h2 : W'.heap[ga]? = W.heap[ga]?) : Rdr W' g (some ⟨ga, 0, none⟩) c l n := by
  have hlt := h.lt
  have hne : ga ≠ g := Kd.F_in h.row rfl (by omega) (by decide)
  refine ⟨h1.trans h.blk, h.le, ?_, h.lt, h.last, h.short⟩
  have hF : Kd.F k68 W (fun k => k = ga) (some ⟨ga, 0, none⟩) l.length l := by
    refine rows_F ?_ rfl
    obtain ⟨q1, q2, q3⟩ := Kd.F_now h.row
    refine ⟨q1, q2, fun hn => ?_⟩
    obtain ⟨ad, e, hc⟩ := q3 hn
    refine ⟨ad, e, fun j p hj => ?_⟩
    obtain ⟨c, e1, e2, e3⟩ := hc j p hj
    exact ⟨c, e1, by rw [k68_open e2]; exact k68_mkF _ _ _, e3⟩
  exact Kd.F_mono (Kd.F_step hF (fun k hk _ => by subst hk; exact h2)) (fun k hk => by subst hk; exact hne)
end
theorem leaves_tmps {P : Program} {fn : Func} {t1 t2 : Array Value} {R : Ending → World → Prop} (h : ∀ w, (results fn t1).run P w = (results fn t2).run P w) : ∀ (ds : List Deferred) (m : FrameMode) (w : World), Leaves P fn t1 R ds m w → Leaves P fn t2 R ds m w
  | [], .returning, w, hl => by
    obtain ⟨v, h1, h2⟩ := hl
    exact ⟨v, by rw [← h]; exact h1, h2⟩
  | [], .panicking _, _, hl => hl
  | [], .run, _, hl => hl
  | d :: ds, u, w, hl => by
    obtain ⟨h0, fv, cap, f, args, h1, h2, h3⟩ := hl
    refine ⟨h0, fv, cap, f, args, h1, h2, h3.mono ?_⟩
    intro e u' w' hq
    cases e with
    | returned v => exact leaves_tmps h ds _ _ hq
    | panicked ch => exact leaves_tmps h ds _ _ hq
    | outgrown => exact hq
theorem leaves_put (d : Tmp) (h2 : d ≠ 2) (h3 : d ≠ 3) (h4 : d ≠ 4) {a : Act} {v : Value} {R : Ending → World → Prop} {m : FrameMode} {w : World} (h : Leaves Try.prog Try.f5 (a.put (some d) v).tmps R (a.put (some d) v).defers m w) : Leaves Try.prog Try.f5 a.tmps R a.defers m w := by
  have hr : Try.f5.results = #[.cell 2 38, .cell 3 39, .cell 4 3] := by kernel_rfl
  refine leaves_tmps (fun w => ?_) _ _ _ h
  simp [results, hr, Act.put, Array.getElem?_setIfInBounds, h2, h3, h4]
theorem info72 : (Try.prog.info? 72).map (fun i => (i.zero, i.size, i.bytes)) = some (some (.agg #[(.int .i64 0), (.int .i64 0), (.slice none 0 0), (.slice none 0 0)]), 4, 64) := by kernel_rfl
theorem act_adv {l : List S68} {room : Bool} {n n2 : Nat} {t : S35} (h : actR l room n = .ok (t, n2)) : n < n2 := by
  unfold actR at h
  repeat' split at h
  all_goals first | cases h; done | (injection h with h; injection h with _ h; omega)
theorem names_adv {l : List S68} : ∀ (d : Nat) (ns : List ByteArray) (n n2 : Nat) (t : List ByteArray), namesR l d ns n = .ok (t, n2) → n ≤ n2
  | 0, _, _, _, _, h => by simp [namesR] at h
  | d + 1, ns, n, n2, t, h => by
    rw [namesR] at h
    split at h
    · cases h
    · split at h
      · cases h
      · rename_i u k2 h1
        have := must_adv h1
        split at h
        · have := names_adv d _ _ _ _ h
          omega
        · injection h with h; injection h with _ h; omega
theorem conds_adv {l : List S68} : ∀ (d : Nat) (ns : List S98) (n n2 : Nat) (t : List S98), condsR l d ns n = .ok (t, n2) → n ≤ n2
  | 0, _, _, _, _, h => by simp [condsR] at h
  | d + 1, ns, n, n2, t, h => by
    rw [condsR] at h
    split at h
    · cases h
    · rename_i u k2 h1
      have := cond_adv h1
      split at h
      · have := conds_adv d _ _ _ _ h
        omega
      · injection h with h; injection h with _ h; omega
theorem end_adv {l : List S68} {r t : S72} {n n2 : Nat} (h : endR l r n = .ok (t, n2)) : n < n2 := by
  unfold endR at h
  split at h
  · injection h with h; injection h with _ h; omega
  · cases h
theorem rule_adv {l : List S68} {room : Bool} {n n2 : Nat} {t : S72} (h : ruleR l room n = .ok (t, n2)) : n < n2 := by
  unfold ruleR at h
  split at h
  · cases h
  · rename_i a n1 h1
    have := act_adv h1
    unfold namesK at h
    split at h
    · cases h
    · rename_i ns k2 h2
      have := names_adv _ _ _ _ _ h2
      split at h
      · unfold condsK at h
        split at h
        · cases h
        · rename_i cs k3 h3
          have := conds_adv _ _ _ _ _ h3
          have := end_adv h
          omega
      · have := end_adv h
        omega
theorem rule_full (l : List S68) (n : Nat) : ∃ e, ruleR l false n = .error e := by
  unfold ruleR actR
  simp only [Bool.false_eq_true, if_false]
  split
  · exact ⟨_, rfl⟩
  · rename_i h
    split at h <;> cases h
theorem fn20 : (Try.f20.name == "runtime.NumGoroutine") = false := by decide +kernel
theorem bd20 : Try.f20.body.isSome = true := by rfl
theorem step_parsed2 {P : Program} {ops : Array Oper} {o : Oper} {a : Act} {w : World} {K : Act → World → Prop} {Q : Exit → Act → World → Prop} {E : Prop}
    (hg : o.guard = none) {F : FuncId} {fn : Func} (hf : P.funcs[F]? = some fn) (hn : (fn.name == "runtime.NumGoroutine") = false) (hbd : fn.body.isSome = true) {xs : Array Operand} {ts : Array TypeId} (hop : o.op = Op.call { callee := Callee.value (Operand.func F), args := xs, argTypes := ts })
    {args : Array Value} {α : Type} {enc : World → Value → α → Prop} {g : Nat} {A : Option Addr} {c : Nat} {l : List S68} {m : PR α} {d p : α × Nat} (hd : okOf m d = p)
    (hc : Calls P F args w (Parsed enc w g A c l m)) (hargs0 : (xs.toList.map a.eval).toArray = args) (hp : ∀ er at_ w', m = .error (er, at_) → w.grownBy w' (some g) → Q (.panic [pan er at_]) a w')
    (hK : ∀ v w', m = .ok p → enc w' v p.1 → Rdr w' g A c l p.2 → w.grownBy w' (some g) → K (a.put o.dst v) w') :
    if Region.wanted o (yielded ops a.tmps) = true then Oper.wp P o a w K Q else E := by
  have hw : Region.wanted o (yielded ops a.tmps) = true := by simp [Region.wanted, hg]
  rw [if_pos hw]
  have hargs : xs.map a.eval = args := by rw [← hargs0]; exact Array.ext' (by simp)
  have hn' : fn.name ≠ "runtime.NumGoroutine" := by simpa using hn
  have hb' : fn.body ≠ none := by intro h; rw [h] at hbd; cases hbd
  have h2 : (execOp a.eval o).run P w = .ok (.enter F args) w := by
    simp [execOp, hop, resolve, invoke, Act.eval, hargs, Deferred.ofValue, callFunc, Result.andThen, hf, hn', hb']
  unfold Oper.wp
  rw [h2, Oper.upon_enter]
  refine hc.mono ?_
  intro e w1 hq
  rcases m with ⟨er, at_⟩ | ⟨x, n⟩
  · obtain ⟨rfl, hg⟩ := hq
    exact hp er at_ w1 rfl hg
  · obtain ⟨v, rfl, he, hr, hg⟩ := hq
    subst hd
    exact hK v w1 rfl he hr hg
def clos (w : World) : Array Value := #[.pointer (some ⟨w.heap.size, 0, none⟩), .pointer (some ⟨w.heap.size + 1, 0, none⟩), .pointer (some ⟨w.heap.size + 1 + 1, 0, none⟩)]
theorem res5 (tmps : Array Value) (b2 b3 b4 : Nat) (x0 x1 x2 y z : Value) (W : World) (t2 : tmps[2]? = some (.pointer (some ⟨b2, 0, none⟩))) (t3 : tmps[3]? = some (.pointer (some ⟨b3, 0, none⟩))) (t4 : tmps[4]? = some (.pointer (some ⟨b4, 0, none⟩)))
    (h2 : W.heap[b2]? = some (.cells #[x0, x1, x2] 38 (0, 0))) (h3 : W.heap[b3]? = some (.cells #[y] 39 (0, 0))) (h4 : W.heap[b4]? = some (.cells #[z] 3 (0, 0))) :
    (results Try.f5 tmps).run Try.prog W = .ok (.tuple #[.agg #[x0, x1, x2], y, z]) W := by
  have c0 : W.cell? ⟨b2, 0, none⟩ = some x0 := (blk_cell h2 0).trans rfl
  have c1 : W.cell? ⟨b2, 1, none⟩ = some x1 := (blk_cell h2 1).trans rfl
  have c2 : W.cell? ⟨b2, 2, none⟩ = some x2 := (blk_cell h2 2).trans rfl
  have c3 : W.cell? ⟨b3, 0, none⟩ = some y := (blk_cell h3 0).trans rfl
  have c4 : W.cell? ⟨b4, 0, none⟩ = some z := (blk_cell h4 0).trans rfl
  have hr : Try.f5.results = #[.cell 2 38, .cell 3 39, .cell 4 3] := by kernel_rfl
  have hu38 := Try.underlying38
  simp [results, hr, go_sem, t2, t3, t4, c0, c1, c2, c3, c4]
theorem parse_door {w w4 : World} {g ga : Nat} {a0 a1 : Int} {v : Value} {rs : List S72} (h : PBox w w4 g ga a0 a1 v rs) (er at_ : Int) (tmps : Array Value)
    {res : Except (Int × Int) (S35 × List S72)} (hres : Except.error (er, at_) = res)
    (t2 : tmps[2]? = some (.pointer (some ⟨w.heap.size, 0, none⟩))) (t3 : tmps[3]? = some (.pointer (some ⟨w.heap.size + 1, 0, none⟩))) (t4 : tmps[4]? = some (.pointer (some ⟨w.heap.size + 1 + 1, 0, none⟩))) :
    Leaves Try.prog Try.f5 tmps (fun e w' => ParseAns w res e w') [{ target := Target.fn (Fn.func 15) (clos w), args := #[] }] (.panicking [pan er at_]) w4 := by
  subst hres
  obtain ⟨x, hx⟩ := h.o4
  refine leaves_cons (f := 15) (args := clos w) (by simp) (by simp [go_sem, clos, Try.func15]) ?_
  refine (catch_panics er at_ _ _ _ _ _ _ w w4 h.out rfl h.o3 hx (by omega) (by omega) (by omega) (Nat.le_refl _) (by omega) (by omega) h.bl).mono ?_
  rintro e u' w'' ⟨rfl, rfl, k2, k3, k4, hb⟩
  refine ⟨_, ?_, hb, rfl⟩
  exact res5 tmps _ _ _ _ _ _ _ _ w'' t2 t3 t4 k2 k3 k4
set_option maxHeartbeats 16000000 in
set_option maxRecDepth 100000 in
theorem parse_calls (k : Nat) (s : ByteArray) (toks : List S68) (er at_ : Int) (w : World) (h : lex_All.f k s = some (toks, er, at_)) (hok : er = 0 → TokOk toks) :
    Calls Try.prog 5 #[.string s] w fun e w' => ParseAns w (if er = 0 then bodyR toks else .error (er, at_)) e w' := by
  have hmf : ∀ (fn : Fn) (first cap : Array Value) (w : World), (Instr.makeFunc fn first cap).run Try.prog w = .ok (.func fn first cap) w := fun _ _ _ _ => rfl
  have hu38 := Try.underlying38
  have HALL := Aside0.mk (all_calls k s toks er at_ (((w.alloc (.cells z38 38 (0, 0))).alloc (.cells #[.int .i64 0] 39 (0, 0))).alloc (.cells #[.int .i64 0] 3 (0, 0))) h)
  have HOK := Aside0.mk hok
  obtain ⟨res, hres⟩ : ∃ res, (if er = 0 then bodyR toks else .error (er, at_)) = res := ⟨_, rfl⟩
  rw [hres]
  have HRES := Aside0.mk hres
  clear h hok hres
  go_enter_defers Try.func5, Try.ntmps5
  go_wp2_with fail
  refine HALL.out.mono ?_
  rintro e w1 ⟨v, rfl, hr, hb⟩
  obtain ⟨A, c, hv⟩ := Kd.R_slice hr
  subst hv
  have HR := Aside0.mk hr
  have q2 := blk_below (blk_alloc (blk_alloc (blk_new w (.cells z38 38 (0, 0))) (.cells #[.int .i64 0] 39 (0, 0))) (.cells #[.int .i64 0] 3 (0, 0))) hb
  have q3 := blk_below (blk_alloc (blk_new (w.alloc (.cells z38 38 (0, 0))) (.cells #[.int .i64 0] 39 (0, 0))) (.cells #[.int .i64 0] 3 (0, 0))) hb
  have q4 := blk_below (blk_new ((w.alloc (.cells z38 38 (0, 0))).alloc (.cells #[.int .i64 0] 39 (0, 0))) (.cells #[.int .i64 0] 3 (0, 0))) hb
  have z1 : (w.alloc (.cells z38 38 (0, 0))).heap.size = w.heap.size + 1 := by simp
  have z2 : ((w.alloc (.cells z38 38 (0, 0))).alloc (.cells #[.int .i64 0] 39 (0, 0))).heap.size = w.heap.size + 1 + 1 := by simp
  rw [z1] at q3
  rw [z2] at q4
  have Q2 := Aside0.mk q2
  have Q3 := Aside0.mk q3
  have Q4 := Aside0.mk q4
  have BW := Aside0.mk (below_then (below_alloc (below_alloc (below_alloc (Below.refl w.heap.size w) (.cells z38 38 (0, 0))) (.cells #[.int .i64 0] 39 (0, 0))) (.cells #[.int .i64 0] 3 (0, 0))) (by simp; omega) hb)
  have e3 : w1.cell? ⟨w.heap.size + 1, 0, none⟩ = some (.int .i64 0) := (blk_cell q3 0).trans rfl
  have e4 : w1.cell? ⟨w.heap.size + 1 + 1, 0, none⟩ = some (.int .i64 0) := (blk_cell q4 0).trans rfl
  have f3 := blk_frozen q3 0
  have f4 := blk_frozen q4 0
  have d0 : w1.cell? ⟨w.heap.size, 0, none⟩ = some (.int .i64 0) := (blk_cell q2 0).trans rfl
  have d1 : w1.cell? ⟨w.heap.size, 1, none⟩ = some (.int .i64 0) := (blk_cell q2 1).trans rfl
  have d2 : w1.cell? ⟨w.heap.size, 2, none⟩ = some (.slice none 0 0) := (blk_cell q2 2).trans rfl
  have g0 := blk_frozen q2 0
  have g1 := blk_frozen q2 1
  have g2 := blk_frozen q2 2
  clear q2 q3 q4 z1 z2 hr hb HALL
  by_cases he : er = 0
  rotate_left
  · have x0 : (er != 0) = true := by simpa using he
    have hres := HRES.out
    rw [if_neg he] at hres
    subst hres
    clear he HOK HRES
    go_wp2_with fail
    go_region
    go_wp2
    refine ⟨_, res5 _ w.heap.size (w.heap.size + 1) (w.heap.size + 1 + 1) (.int .i64 0) (.int .i64 0) (.slice none 0 0) (.int .i64 er) (.int .i64 at_) _ rfl rfl rfl ?_ ?_ ?_, ?_, rfl⟩
    · exact blk_drew (blk_far (blk_far (blk_put (blk_put (blk_put (blk_far (blk_far Q2.out (p := ⟨w.heap.size + 1, 0, none⟩) (by show w.heap.size ≠ w.heap.size + 1; omega) _) (p := ⟨w.heap.size + 1 + 1, 0, none⟩) (by show w.heap.size ≠ w.heap.size + 1 + 1; omega) _) 0 _ rfl) 1 _ rfl) 2 _ rfl) (p := ⟨w.heap.size + 1, 0, none⟩) (by show w.heap.size ≠ w.heap.size + 1; omega) _) (p := ⟨w.heap.size + 1 + 1, 0, none⟩) (by show w.heap.size ≠ w.heap.size + 1 + 1; omega) _)
    · exact blk_drew (blk_far (blk_put (blk_far (blk_far (blk_far (blk_far (blk_put Q3.out 0 _ rfl) (p := ⟨w.heap.size + 1 + 1, 0, none⟩) (by show w.heap.size + 1 ≠ w.heap.size + 1 + 1; omega) _) (p := ⟨w.heap.size, 0, none⟩) (by show w.heap.size + 1 ≠ w.heap.size; omega) _) (p := ⟨w.heap.size, 1, none⟩) (by show w.heap.size + 1 ≠ w.heap.size; omega) _) (p := ⟨w.heap.size, 2, none⟩) (by show w.heap.size + 1 ≠ w.heap.size; omega) _) 0 _ rfl) (p := ⟨w.heap.size + 1 + 1, 0, none⟩) (by show w.heap.size + 1 ≠ w.heap.size + 1 + 1; omega) _)
    · exact blk_drew (blk_put (blk_far (blk_far (blk_far (blk_far (blk_put (blk_far Q4.out (p := ⟨w.heap.size + 1, 0, none⟩) (by show w.heap.size + 1 + 1 ≠ w.heap.size + 1; omega) _) 0 _ rfl) (p := ⟨w.heap.size, 0, none⟩) (by show w.heap.size + 1 + 1 ≠ w.heap.size; omega) _) (p := ⟨w.heap.size, 1, none⟩) (by show w.heap.size + 1 + 1 ≠ w.heap.size; omega) _) (p := ⟨w.heap.size, 2, none⟩) (by show w.heap.size + 1 + 1 ≠ w.heap.size; omega) _) (p := ⟨w.heap.size + 1, 0, none⟩) (by show w.heap.size + 1 + 1 ≠ w.heap.size + 1; omega) _) 0 _ rfl)
    · exact below_drew (((((((BW.out.setCell (by show w.heap.size ≤ w.heap.size + 1; omega) _).setCell (by show w.heap.size ≤ w.heap.size + 1 + 1; omega) _).setCell (Nat.le_refl _) _).setCell (Nat.le_refl _) _).setCell (Nat.le_refl _) _).setCell (by show w.heap.size ≤ w.heap.size + 1; omega) _).setCell (by show w.heap.size ≤ w.heap.size + 1 + 1; omega) _)
  · subst he
    have hres := HRES.out
    rw [if_pos rfl] at hres
    have HR2 := Aside0.mk hres
    have OK := Aside0.mk (HOK.out rfl)
    clear hres HRES HOK
    go_wp2_with fail
    obtain ⟨g, hg⟩ : ∃ g, w1.heap.size = g := ⟨_, rfl⟩
    obtain ⟨ga, cq, hga, hbase, hglt, _⟩ := Kd.R_form HR.out OK.out.pos
    obtain rfl : A = some ⟨ga, 0, none⟩ := by injection hga
    clear hga
    have hbase2 : w.heap.size + 1 + 1 < ga := by simp at hbase; omega
    have PB : Aside0 (PBox w (((w1.setCell ⟨w.heap.size + 1, 0, none⟩ (.int .i64 0)).setCell ⟨w.heap.size + 1 + 1, 0, none⟩ (.int .i64 at_)).alloc (.cells #[.slice (some ⟨ga, 0, none⟩) toks.length c, .int .i64 0] 63 (0, 0))) g ga 0 0 (.slice none 0 0) []) := ⟨by
      have hl := blk_lt Q4.out
      refine ⟨blk_alloc (blk_far (blk_far Q2.out (p := ⟨w.heap.size + 1, 0, none⟩) (by simp) _) (p := ⟨w.heap.size + 1 + 1, 0, none⟩) (by show w.heap.size ≠ w.heap.size + 1 + 1; omega) _) _, blk_alloc (blk_far (blk_put Q3.out 0 _ rfl) (p := ⟨w.heap.size + 1 + 1, 0, none⟩) (by show w.heap.size + 1 ≠ w.heap.size + 1 + 1; omega) _) _, ⟨_, blk_alloc (blk_put (blk_far Q4.out (p := ⟨w.heap.size + 1, 0, none⟩) (by show w.heap.size + 1 + 1 ≠ w.heap.size + 1; omega) _) 0 _ rfl) _⟩, Kd.R_nil _ _ _ _ _, below_alloc ((BW.out.setCell (by show w.heap.size ≤ w.heap.size + 1; omega) _).setCell (by show w.heap.size ≤ w.heap.size + 1 + 1; omega) _) _, hbase2, by omega⟩⟩
    have RD : Aside0 (Rdr (((w1.setCell ⟨w.heap.size + 1, 0, none⟩ (.int .i64 0)).setCell ⟨w.heap.size + 1 + 1, 0, none⟩ (.int .i64 at_)).alloc (.cells #[.slice (some ⟨ga, 0, none⟩) toks.length c, .int .i64 0] 63 (0, 0))) g (some ⟨ga, 0, none⟩) c toks 0) := ⟨by
      have hz : ((w1.setCell ⟨w.heap.size + 1, 0, none⟩ (.int .i64 0)).setCell ⟨w.heap.size + 1 + 1, 0, none⟩ (.int .i64 at_)).heap.size = g := by simp [hg]
      have hF : Kd.F k68 w1 (fun k => k ≠ g ∧ w.heap.size + 1 + 1 < k) (some ⟨ga, 0, none⟩) toks.length toks := Kd.F_mono (Kd.R_F (Kd.R_bound HR.out)) (fun k hk => ⟨by have := hk.2.2.1; omega, by have := hk.2.1; simp at this; omega⟩)
      refine ⟨by have := blk_new ((w1.setCell ⟨w.heap.size + 1, 0, none⟩ (.int .i64 0)).setCell ⟨w.heap.size + 1 + 1, 0, none⟩ (.int .i64 at_)) (.cells #[.slice (some ⟨ga, 0, none⟩) toks.length c, .int .i64 0] 63 (0, 0)); rw [hz] at this; exact this, (Kd.R_reads' HR.out).2.1, ?_, OK.out.pos, OK.out.last, OK.out.short⟩
      exact Kd.F_mono (Kd.F_alloc (Kd.F_far (Kd.F_far hF (p := ⟨w.heap.size + 1, 0, none⟩) (fun k hk => by show k ≠ w.heap.size + 1; omega) _) (p := ⟨w.heap.size + 1 + 1, 0, none⟩) (fun k hk => by show k ≠ w.heap.size + 1 + 1; omega) _) _) (fun k hk => hk.1)⟩
    clear Q2 Q3 Q4 BW e3 e4 f3 f4 d0 d1 d2 g0 g1 g2 HR OK
    rw [hg]
    generalize ((w1.setCell ⟨w.heap.size + 1, 0, none⟩ (.int .i64 0)).setCell ⟨w.heap.size + 1 + 1, 0, none⟩ (.int .i64 at_)).alloc (.cells #[.slice (some ⟨ga, 0, none⟩) toks.length c, .int .i64 0] 63 (0, 0)) = w2 at PB RD ⊢
    clear hg
    unfold bodyR at HR2
    obtain ⟨tb, htb⟩ : ∃ tb, takeB toks 1 ⟨#[100, 101, 102, 97, 117, 108, 116]⟩ 0 = tb := ⟨_, rfl⟩
    have htc := take_calls 1 ⟨#[100, 101, 102, 97, 117, 108, 116]⟩ w2 g (some ⟨ga, 0, none⟩) c toks 0 RD.out (by decide)
    rw [htb] at htc
    have hs := HR2.out
    rw [htb] at hs
    have HS3 := Aside0.mk hs
    have HTB2 := Aside0.mk htb
    clear htb hs HR2
    refine htc.mono ?_
    clear htc
    rintro e w3 ⟨rfl, hR3, hG3⟩
    have PB3 := Aside0.mk (PB.out.moved hG3)
    have hq : takeN toks 1 ⟨#[100, 101, 102, 97, 117, 108, 116]⟩ 0 = if tb = true then 1 else 0 := by unfold takeN; rw [HTB2.out]
    rw [hq] at hR3
    have RD3 := Aside0.mk hR3
    clear hR3 hG3 PB RD hq HTB2
    cases tb with
    | false =>
      have hs := HS3.out
      rw [if_neg (by simp)] at hs
      have hr := RD3.out
      rw [if_neg (by simp)] at hr
      have HS4 := Aside0.mk hs
      have RD4 := Aside0.mk hr
      clear hs hr HS3 RD3
      go_wp2_with fail
      refine (fail_calls 7 _ g (some ⟨ga, 0, none⟩) c toks 0 RD4.out).mono ?_
      rintro e w4 ⟨rfl, hb⟩
      exact parse_door (PB3.out.below hb) _ _ _ HS4.out rfl rfl rfl
    | true =>
      have hs := HS3.out
      rw [if_pos rfl] at hs
      have hr := RD3.out
      rw [if_pos rfl] at hr
      have RD4 := Aside0.mk hr
      obtain ⟨m, hm⟩ : ∃ m, actR toks true 1 = m := ⟨_, rfl⟩
      rw [hm] at hs
      have HS4 := Aside0.mk hs
      have pac := pact_calls true w3 g (some ⟨ga, 0, none⟩) c toks 1 RD4.out
      rw [hm] at pac
      have PAC := Aside0.mk pac
      clear hs hr HS3 RD3 hm pac
      go_wp2_with fail
      refine PAC.out.mono ?_
      rintro e w4 hp
      rcases m with ⟨er, at2⟩ | ⟨a, n1⟩
      · obtain ⟨rfl, hG⟩ := hp
        exact parse_door (PB3.out.moved hG) _ _ _ HS4.out rfl rfl rfl
      obtain ⟨v, rfl, hv, hR, hG⟩ := hp
      obtain rfl : v = .agg #[.int .i64 a.f0, .int .i64 a.f1] := hv
      have RD5 := Aside0.mk hR
      have PB5 := Aside0.mk (PB3.out.moved hG)
      clear PAC hR hG PB3 RD4
      have d0 : w4.cell? ⟨w.heap.size, 0, none⟩ = some (.int .i64 0) := (blk_cell PB5.out.out 0).trans rfl
      have d1 : w4.cell? ⟨w.heap.size, 1, none⟩ = some (.int .i64 0) := (blk_cell PB5.out.out 1).trans rfl
      have g0 := blk_frozen PB5.out.out 0
      have g1 := blk_frozen PB5.out.out 1
      go_wp2_with fail
      have n0 : w.heap.size ≠ g := by have := PB5.out.gl; have := PB5.out.gg; omega
      have n1' : w.heap.size ≠ ga := by have := PB5.out.gl; omega
      have PB6 := Aside0.mk (PB5.out.put a.f0 a.f1)
      have RD6 : Aside0 (Rdr ((w4.setCell ⟨w.heap.size, 0, none⟩ (.int .i64 a.f0)).setCell ⟨w.heap.size, 1, none⟩ (.int .i64 a.f1)) g (some ⟨ga, 0, none⟩) c toks n1) := ⟨RD5.out.keep ((Below.heap_setCell _ _ _ g (Ne.symm n0)).trans (Below.heap_setCell _ _ _ g (Ne.symm n0))) ((Below.heap_setCell _ _ _ ga (Ne.symm n1')).trans (Below.heap_setCell _ _ _ ga (Ne.symm n1')))⟩
      clear d0 d1 g0 g1 PB5 RD5
      generalize (w4.setCell ⟨w.heap.size, 0, none⟩ (.int .i64 a.f0)).setCell ⟨w.heap.size, 1, none⟩ (.int .i64 a.f1) = w5 at PB6 RD6 ⊢
      obtain ⟨tb, htb⟩ : ∃ tb, takeB toks 3 ⟨#[59]⟩ n1 = tb := ⟨_, rfl⟩
      have htc := take_calls 3 ⟨#[59]⟩ w5 g _ c toks n1 RD6.out (by decide)
      rw [htb] at htc
      have hs := HS4.out
      rw [htb] at hs
      have HS5 := Aside0.mk hs
      have HTB3 := Aside0.mk htb
      clear htb hs HS4
      refine htc.mono ?_
      clear htc
      rintro e w6 ⟨rfl, hR3, hG3⟩
      have PB7 := Aside0.mk (PB6.out.moved hG3)
      have hq : takeN toks 3 ⟨#[59]⟩ n1 = if tb = true then n1 + 1 else n1 := by unfold takeN; rw [HTB3.out]
      rw [hq] at hR3
      have RD7 := Aside0.mk hR3
      clear hR3 hG3 PB6 RD6 hq HTB3
      cases tb with
      | false =>
        have hs := HS5.out
        rw [if_neg (by simp)] at hs
        have hr := RD7.out
        rw [if_neg (by simp)] at hr
        have HS6 := Aside0.mk hs
        have RD8 := Aside0.mk hr
        clear hs hr HS5 RD7
        go_wp2_with fail
        refine (fail_calls 7 _ g _ c toks n1 RD8.out).mono ?_
        rintro e w7 ⟨rfl, hb⟩
        exact parse_door (PB7.out.below hb) _ _ _ HS6.out rfl rfl rfl
      | true =>
        have hs := HS5.out
        rw [if_pos rfl] at hs
        have hr := RD7.out
        rw [if_pos rfl] at hr
        have HS6 := Aside0.mk hs
        have RD8 := Aside0.mk hr
        clear hs hr HS5 RD7
        go_wp2_with fail
        go_loopw [] (fun wr => ∃ (v : Value) (rs : List S72) (n : Nat), rs.length ≤ 64 ∧ Aside0 (bodyK a (rulesR toks (65 - rs.length) rs n) = res) ∧ Aside0 (PBox w wr g ga a.f0 a.f1 v rs) ∧ Aside0 (Rdr wr g (some ⟨ga, 0, none⟩) c toks n)) (fun wr => toks.length - nAt wr g)
        case atStart => exact ⟨_, [], n1 + 1, by simp, HS6, PB7, RD8⟩
        case round =>
          clear HS6 PB7 RD8
          obtain ⟨v, rs, n, hlen, HS, PB, RD⟩ := hrel
          obtain ⟨Ac, cc, rfl⟩ := Kd.R_slice PB.out.rr
          have NW := Aside0.mk (And.intro (nAt_is RD.out) RD.out.lt)
          have hs := HS.out
          rw [show 65 - rs.length = (64 - rs.length) + 1 by omega, rulesR] at hs
          have HS2 := Aside0.mk hs
          have HLE := Aside0.mk hlen
          clear HS hs hlen
          go_wp2_with fail
          refine (now_calls wr g _ c toks n RD.out).mono ?_
          rintro e w7 ⟨rfl, hb⟩
          have PB8 := Aside0.mk (PB.out.below hb)
          have RD8 := Aside0.mk (RD.out.grown hb)
          clear hb PB RD
          obtain ⟨t, htt⟩ : ∃ t, toks.getD n z68 = t := ⟨_, rfl⟩
          have hs := HS2.out
          rw [htt] at hs ⊢
          have hfd := run_field68_0 t
          clear htt HS2
          by_cases h1 : t.f0 = 4
          · rw [if_pos h1] at hs
            have e1 : (t.f0 != 4) = false := by simp [h1]
            have HS9 := Aside0.mk hs
            clear hs h1
            obtain ⟨x4, hx4⟩ := PB8.out.o4
            have d0 : w7.cell? ⟨w.heap.size, 0, none⟩ = some (.int .i64 a.f0) := (blk_cell PB8.out.out 0).trans rfl
            have d1 : w7.cell? ⟨w.heap.size, 1, none⟩ = some (.int .i64 a.f1) := (blk_cell PB8.out.out 1).trans rfl
            have d2 : w7.cell? ⟨w.heap.size, 2, none⟩ = some (.slice Ac rs.length cc) := (blk_cell PB8.out.out 2).trans rfl
            have e3 : w7.cell? ⟨w.heap.size + 1, 0, none⟩ = some (.int .i64 0) := (blk_cell PB8.out.o3 0).trans rfl
            have e4 : w7.cell? ⟨w.heap.size + 1 + 1, 0, none⟩ = some x4 := (blk_cell hx4 0).trans rfl
            have g0 := blk_frozen PB8.out.out 0
            have g1 := blk_frozen PB8.out.out 1
            have g2 := blk_frozen PB8.out.out 2
            have f3 := blk_frozen PB8.out.o3 0
            have f4 := blk_frozen hx4 0
            have HX4 := Aside0.mk hx4
            clear hx4 RD8 NW
            go_wp2
            refine leaves_cons (f := 15) (args := clos w) (by simp) (by simp [go_sem, clos, Try.func15]) ?_
            refine (catch_idle _ _ _ _).mono ?_
            rintro e u' w'' ⟨rfl, rfl, hb⟩
            have K2 := blk_below (blk_far (blk_far (blk_put (blk_put (blk_put PB8.out.out 0 (.int .i64 a.f0) rfl) 1 (.int .i64 a.f1) rfl) 2 (.slice Ac rs.length cc) rfl) (p := ⟨w.heap.size + 1, 0, none⟩) (by show w.heap.size ≠ w.heap.size + 1; omega) (.int .i64 0)) (p := ⟨w.heap.size + 1 + 1, 0, none⟩) (by show w.heap.size ≠ w.heap.size + 1 + 1; omega) (.int .i64 (-1))) hb
            have K3 := blk_below (blk_far (blk_put (blk_far (blk_far (blk_far PB8.out.o3 (p := ⟨w.heap.size, 0, none⟩) (by show w.heap.size + 1 ≠ w.heap.size; omega) (.int .i64 a.f0)) (p := ⟨w.heap.size, 1, none⟩) (by show w.heap.size + 1 ≠ w.heap.size; omega) (.int .i64 a.f1)) (p := ⟨w.heap.size, 2, none⟩) (by show w.heap.size + 1 ≠ w.heap.size; omega) (.slice Ac rs.length cc)) 0 (.int .i64 0) rfl) (p := ⟨w.heap.size + 1 + 1, 0, none⟩) (by show w.heap.size + 1 ≠ w.heap.size + 1 + 1; omega) (.int .i64 (-1))) hb
            have K4 := blk_below (blk_put (blk_far (blk_far (blk_far (blk_far HX4.out (p := ⟨w.heap.size, 0, none⟩) (by show w.heap.size + 1 + 1 ≠ w.heap.size; omega) (.int .i64 a.f0)) (p := ⟨w.heap.size, 1, none⟩) (by show w.heap.size + 1 + 1 ≠ w.heap.size; omega) (.int .i64 a.f1)) (p := ⟨w.heap.size, 2, none⟩) (by show w.heap.size + 1 + 1 ≠ w.heap.size; omega) (.slice Ac rs.length cc)) (p := ⟨w.heap.size + 1, 0, none⟩) (by show w.heap.size + 1 + 1 ≠ w.heap.size + 1; omega) (.int .i64 0)) 0 (.int .i64 (-1)) rfl) hb
            refine ⟨_, res5 _ w.heap.size (w.heap.size + 1) (w.heap.size + 1 + 1) (.int .i64 a.f0) (.int .i64 a.f1) (.slice Ac rs.length cc) (.int .i64 0) (.int .i64 (-1)) w'' rfl rfl rfl K2 K3 K4, ?_⟩
            rw [← HS9.out]
            have B8 := ((((PB8.out.bl.setCell (p := ⟨w.heap.size, 0, none⟩) (Nat.le_refl _) (.int .i64 a.f0)).setCell (p := ⟨w.heap.size, 1, none⟩) (Nat.le_refl _) (.int .i64 a.f1)).setCell (p := ⟨w.heap.size, 2, none⟩) (Nat.le_refl _) (.slice Ac rs.length cc)).setCell (p := ⟨w.heap.size + 1, 0, none⟩) (by show w.heap.size ≤ w.heap.size + 1; omega) (.int .i64 0)).setCell (p := ⟨w.heap.size + 1 + 1, 0, none⟩) (by show w.heap.size ≤ w.heap.size + 1 + 1; omega) (.int .i64 (-1))
            refine ⟨below_then B8 B8.size hb, ⟨_, rfl, ?_⟩⟩
            have RR9 := Kd.R_far (Kd.R_far (Kd.R_far (Kd.R_far (Kd.R_far PB8.out.rr (p := ⟨w.heap.size, 0, none⟩) (fun k hk => hk.2.2.1) (.int .i64 a.f0)) (p := ⟨w.heap.size, 1, none⟩) (fun k hk => hk.2.2.1) (.int .i64 a.f1)) (p := ⟨w.heap.size, 2, none⟩) (fun k hk => hk.2.2.1) (.slice Ac rs.length cc)) (p := ⟨w.heap.size + 1, 0, none⟩) (fun k hk => hk.2.2.2.1) (.int .i64 0)) (p := ⟨w.heap.size + 1 + 1, 0, none⟩) (fun k hk => hk.2.2.2.2) (.int .i64 (-1))
            exact Kd.R_mono (Kd.R_below RR9 hb) (fun _ _ => trivial)
          · rw [if_neg h1] at hs
            have e1 : (t.f0 != 4) = true := by simpa using h1
            have HS9 := Aside0.mk hs
            clear hs h1
            obtain ⟨rb, hrb⟩ : ∃ rb, decide (rs.length < 64) = rb := ⟨_, rfl⟩
            have hrb2 : decide ((rs.length : Int) < 64) = rb := by rw [← hrb]; exact decide_eq_decide.2 (by omega)
            have hs := HS9.out
            rw [hrb] at hs
            have HRB := Aside0.mk hrb
            obtain ⟨m, hm⟩ : ∃ m, ruleR toks rb n = m := ⟨_, rfl⟩
            rw [hm] at hs
            have hmc := rule_calls rb w7.drew g _ c toks n (RD8.out.grown (below_drew (Below.refl _ _)))
            rw [hm] at hmc
            have HMC := Aside0.mk hmc
            have HS10 := Aside0.mk hs
            have HN := Aside0.mk hm
            have c3 : w7.cell? ⟨w.heap.size, 2, none⟩ = some (.slice Ac rs.length cc) := (blk_cell PB8.out.out 2).trans rfl
            have PBD := Aside0.mk (PB8.out.below (below_drew (Below.refl _ _)))
            clear hs hm hmc HS9
            obtain ⟨⟨u, n5⟩, hp0⟩ : ∃ p, okOf m ((⟨⟨0, 0⟩, [], []⟩ : S72), 0) = p := ⟨_, rfl⟩
            have HP0 := Aside0.mk hp0
            clear hp0
            go_upto_region 12 with (fail)
            refine wp_region_any (by kernel_rfl) ?_
            change wpAny _ _ _ _ _ _ _ (World.drew _)
            refine wpAny_take (i := 0) (v := .pointer (some ⟨w.heap.size, 2, none⟩)) rfl (by kernel_rfl) (by kernel_rfl) (by kernel_rfl) (fun _ _ _ h => leaves_put 39 (by decide) (by decide) (by decide) h) (Or.inl ⟨by rfl, by intro w'; go_simp⟩) ?_
            refine wpAny_take (i := 2) (v := .pointer (some ⟨g, 0, none⟩)) rfl (by kernel_rfl) (by kernel_rfl) (by kernel_rfl) (fun _ _ _ h => leaves_put 41 (by decide) (by decide) (by decide) h) (Or.inl ⟨by rfl, by intro w'; go_simp⟩) ?_
            refine wpAny_take (i := 3) (v := .pointer (some ⟨w.heap.size, 2, none⟩)) rfl (by kernel_rfl) (by kernel_rfl) (by kernel_rfl) (fun _ _ _ h => leaves_put 42 (by decide) (by decide) (by decide) h) (Or.inl ⟨by rfl, by intro w'; go_simp⟩) ?_
            refine wpAny_ready (rs := [1, 4]) (by kernel_rfl) (by simp) ?_
            refine AllReady.cons rfl (fun K hK => ?_) ?_
            · skip
              go_simp
              refine hK _ _ ?_
              clear hK K
              refine wpAny_ready (rs := [4]) (by kernel_rfl) (by simp) ?_
              refine AllReady.cons rfl (fun K hK => ?_) AllReady.nil
              go_simp
              refine hK _ _ ?_
              clear hK K
              refine wpAny_take (i := 5) (v := .int .i64 (rs.length : Int)) rfl (by kernel_rfl) (by kernel_rfl) (by kernel_rfl) (fun _ _ _ h => leaves_put 44 (by decide) (by decide) (by decide) h) (Or.inl ⟨by rfl, by intro w'; go_simp⟩) ?_
              refine wpAny_take (i := 6) (v := .bool rb) rfl (by kernel_rfl) (by kernel_rfl) (by kernel_rfl) (fun _ _ _ h => leaves_put 45 (by decide) (by decide) (by decide) h) (Or.inl ⟨by rfl, by intro w'; go_simp⟩) ?_
              refine wpAny_ready (rs := [7]) (by kernel_rfl) (by simp) ?_
              refine AllReady.cons rfl (fun K hK => ?_) AllReady.nil
              (refine step_parsed2 rfl Try.func20 fn20 bd20 rfl HP0.out HMC.out rfl ?hp ?_; (case hp => intro er at2 w' he hg5; exact parse_door (PBD.out.moved hg5) _ _ _ (by rw [← HS10.out, he]; rfl) rfl rfl rfl); intro v5 w5 hm5 hv5 hr5 hg5; obtain ⟨cs5, rfl, hM5⟩ := hv5; obtain ⟨y2, y3, rfl, hy2, hy3⟩ := k72_openM hM5; have HM5 := Aside0.mk hM5; have PB9 := Aside0.mk (PBD.out.moved hg5); have RD9 := Aside0.mk hr5; have M5 := Aside0.mk hm5; have GS5 := Aside0.mk hg5.size; have x5 : w5.cell? ⟨w.heap.size, 2, none⟩ = some (.slice Ac rs.length cc) := (blk_cell PB9.out.out 2).trans rfl; have x6 : ∀ o, (w5.alloc o).cell? ⟨w.heap.size, 2, none⟩ = some (.slice Ac rs.length cc) := fun o => (blk_cell (blk_alloc PB9.out.out o) 2).trans rfl; clear hm5 hr5 hg5 hM5 hy2 hy3)
              try go_simp
              refine hK _ _ ?_
              clear hK K
              refine wpAny_ready (rs := [8]) (by kernel_rfl) (by simp) ?_
              refine AllReady.cons rfl (fun K hK => ?_) AllReady.nil
              go_simp
              refine hK _ _ ?_
              clear hK K
              refine wpAny_ready (rs := [9]) (by kernel_rfl) (by simp) ?_
              refine AllReady.cons rfl (fun K hK => ?_) AllReady.nil
              (refine Kd.R_append_step k72 (w0 := w5) w.heap.size (wanted_none rfl) (.tmp 40) (.tmp 47) 36 72 _ 64 rfl Try.underlying36 info72 rfl (by decide) (by decide) (.slice Ac rs.length cc) rs u _ (fun k => k ≠ g ∧ k ≠ ga ∧ k ≠ w.heap.size ∧ k ≠ w.heap.size + 1 ∧ k ≠ w.heap.size + 1 + 1) (fun k => w7.heap.size ≤ k) rfl rfl (k72.M_lower PBD.out.bl.size (k72.M_mono (fun k hk => by have := hk.2.1; simpa using this) (k72.M_bound HM5.out))) ?aK ?aF PB9.out.rr (Below.refl _ _) PB9.out.bl.size ?aL ?_; (case aK => intro k hk; have h1 := PB8.out.gl; have h2 := PB8.out.gg; have h3 := blk_lt RD8.out.blk; refine ⟨⟨?_, ?_, ?_, ?_, ?_⟩, fun e => by have := Kd.R_lt PB8.out.rr k e.symm; omega⟩ <;> omega); (case aF => intro k hk; have h1 := PB9.out.gl; have h2 := PB9.out.gg; have h3 := blk_lt RD9.out.blk; refine ⟨?_, ?_, ?_, ?_, ?_⟩ <;> omega); (case aL => have := HLE.out; omega); intro v6 w6 ho6 hb6 hg6 hat6; have e6 := Kd.R_slice ho6; rw [List.length_append, List.length_singleton] at e6; obtain ⟨A6, c6, rfl⟩ := e6; have PB10 := Aside0.mk (PB9.out.rule ho6 hg6); have RD10 := Aside0.mk (RD9.out.keep ((Below.heap_setCell w6 ⟨w.heap.size, 2, none⟩ (.slice A6 (rs.length + 1) c6) g (Ne.symm n0)).trans (hg6.block g (blk_lt RD9.out.blk) (Kd.R_away PB9.out.rr (fun k hk => hk.1)))) ((Below.heap_setCell w6 ⟨w.heap.size, 2, none⟩ (.slice A6 (rs.length + 1) c6) ga (Ne.symm n1')).trans (hg6.block ga (by have := PB9.out.gg; have := blk_lt RD9.out.blk; omega) (Kd.R_away PB9.out.rr (fun k hk => hk.2.1))))); have f6 : w6.frozen? ⟨w.heap.size, 2, none⟩ = false := blk_frozen (gr_blk hg6 PB9.out.out (Kd.R_away PB9.out.rr (fun k hk => hk.2.2.1))) 2; have x7 : w6.cell? ⟨w.heap.size, 2, none⟩ = some (.slice Ac rs.length cc) := (blk_cell (gr_blk hg6 PB9.out.out (Kd.R_away PB9.out.rr (fun k hk => hk.2.2.1))) 2).trans rfl; clear ho6 hb6 hg6 hat6)
              try go_simp
              refine hK _ _ ?_
              clear hK K
              refine wpAny_take (i := 10) (v := .pointer (some ⟨w.heap.size, 2, none⟩)) rfl (by kernel_rfl) (by kernel_rfl) (by kernel_rfl) (fun _ _ _ h => leaves_put 49 (by decide) (by decide) (by decide) h) (Or.inl ⟨by rfl, by intro w'; go_simp⟩) ?_
              refine wpAny_ready (rs := [11]) (by kernel_rfl) (by simp) ?_
              refine AllReady.cons rfl (fun K hK => ?_) AllReady.nil
              go_simp
              refine hK _ _ ?_
              clear hK K
              refine wpAny_done (by kernel_rfl) ?_ _
              have HS11 : Aside0 (bodyK a (rulesR toks (64 - rs.length) (rs ++ [u]) n5) = res) := ⟨by have h := HS10.out; rw [M5.out] at h; exact h⟩
              have HLT : Aside0 (rs.length < 64) := ⟨by
                have h2 := HN.out
                rw [M5.out] at h2
                cases rb with
                | true => exact of_decide_eq_true HRB.out
                | false =>
                  obtain ⟨e, he⟩ := rule_full toks n
                  rw [he] at h2
                  cases h2⟩
              have HN3 : Aside0 (n < n5) := ⟨by
                have h2 := HN.out
                rw [M5.out] at h2
                exact rule_adv h2⟩
              go_wp2_with fail
              refine ⟨⟨_, rs ++ [u], n5, by rw [List.length_append, List.length_singleton]; have := HLT.out; omega, ⟨by rw [List.length_append, List.length_singleton, show 65 - (rs.length + 1) = 64 - rs.length by omega]; exact HS11.out⟩, PB10, RD10⟩, ?_⟩
              rw [nAt_is RD10.out, NW.out.1]
              have h1 := HN3.out
              have h2 := NW.out.2
              have h3 := RD10.out.lt
              simp only at h3 ⊢
              omega
            refine AllReady.cons rfl (fun K hK => ?_) ?_
            · skip
              go_simp
              refine hK _ _ ?_
              clear hK K
              refine wpAny_take (i := 5) (v := .int .i64 (rs.length : Int)) rfl (by kernel_rfl) (by kernel_rfl) (by kernel_rfl) (fun _ _ _ h => leaves_put 44 (by decide) (by decide) (by decide) h) (Or.inl ⟨by rfl, by intro w'; go_simp⟩) ?_
              refine wpAny_take (i := 6) (v := .bool rb) rfl (by kernel_rfl) (by kernel_rfl) (by kernel_rfl) (fun _ _ _ h => leaves_put 45 (by decide) (by decide) (by decide) h) (Or.inl ⟨by rfl, by intro w'; go_simp⟩) ?_
              refine wpAny_ready (rs := [1, 7]) (by kernel_rfl) (by simp) ?_
              refine AllReady.cons rfl (fun K hK => ?_) ?_
              · skip
                go_simp
                refine hK _ _ ?_
                clear hK K
                refine wpAny_ready (rs := [7]) (by kernel_rfl) (by simp) ?_
                refine AllReady.cons rfl (fun K hK => ?_) AllReady.nil
                (refine step_parsed2 rfl Try.func20 fn20 bd20 rfl HP0.out HMC.out rfl ?hp ?_; (case hp => intro er at2 w' he hg5; exact parse_door (PBD.out.moved hg5) _ _ _ (by rw [← HS10.out, he]; rfl) rfl rfl rfl); intro v5 w5 hm5 hv5 hr5 hg5; obtain ⟨cs5, rfl, hM5⟩ := hv5; obtain ⟨y2, y3, rfl, hy2, hy3⟩ := k72_openM hM5; have HM5 := Aside0.mk hM5; have PB9 := Aside0.mk (PBD.out.moved hg5); have RD9 := Aside0.mk hr5; have M5 := Aside0.mk hm5; have GS5 := Aside0.mk hg5.size; have x5 : w5.cell? ⟨w.heap.size, 2, none⟩ = some (.slice Ac rs.length cc) := (blk_cell PB9.out.out 2).trans rfl; have x6 : ∀ o, (w5.alloc o).cell? ⟨w.heap.size, 2, none⟩ = some (.slice Ac rs.length cc) := fun o => (blk_cell (blk_alloc PB9.out.out o) 2).trans rfl; clear hm5 hr5 hg5 hM5 hy2 hy3)
                try go_simp
                refine hK _ _ ?_
                clear hK K
                refine wpAny_ready (rs := [8]) (by kernel_rfl) (by simp) ?_
                refine AllReady.cons rfl (fun K hK => ?_) AllReady.nil
                go_simp
                refine hK _ _ ?_
                clear hK K
                refine wpAny_ready (rs := [9]) (by kernel_rfl) (by simp) ?_
                refine AllReady.cons rfl (fun K hK => ?_) AllReady.nil
                (refine Kd.R_append_step k72 (w0 := w5) w.heap.size (wanted_none rfl) (.tmp 40) (.tmp 47) 36 72 _ 64 rfl Try.underlying36 info72 rfl (by decide) (by decide) (.slice Ac rs.length cc) rs u _ (fun k => k ≠ g ∧ k ≠ ga ∧ k ≠ w.heap.size ∧ k ≠ w.heap.size + 1 ∧ k ≠ w.heap.size + 1 + 1) (fun k => w7.heap.size ≤ k) rfl rfl (k72.M_lower PBD.out.bl.size (k72.M_mono (fun k hk => by have := hk.2.1; simpa using this) (k72.M_bound HM5.out))) ?aK ?aF PB9.out.rr (Below.refl _ _) PB9.out.bl.size ?aL ?_; (case aK => intro k hk; have h1 := PB8.out.gl; have h2 := PB8.out.gg; have h3 := blk_lt RD8.out.blk; refine ⟨⟨?_, ?_, ?_, ?_, ?_⟩, fun e => by have := Kd.R_lt PB8.out.rr k e.symm; omega⟩ <;> omega); (case aF => intro k hk; have h1 := PB9.out.gl; have h2 := PB9.out.gg; have h3 := blk_lt RD9.out.blk; refine ⟨?_, ?_, ?_, ?_, ?_⟩ <;> omega); (case aL => have := HLE.out; omega); intro v6 w6 ho6 hb6 hg6 hat6; have e6 := Kd.R_slice ho6; rw [List.length_append, List.length_singleton] at e6; obtain ⟨A6, c6, rfl⟩ := e6; have PB10 := Aside0.mk (PB9.out.rule ho6 hg6); have RD10 := Aside0.mk (RD9.out.keep ((Below.heap_setCell w6 ⟨w.heap.size, 2, none⟩ (.slice A6 (rs.length + 1) c6) g (Ne.symm n0)).trans (hg6.block g (blk_lt RD9.out.blk) (Kd.R_away PB9.out.rr (fun k hk => hk.1)))) ((Below.heap_setCell w6 ⟨w.heap.size, 2, none⟩ (.slice A6 (rs.length + 1) c6) ga (Ne.symm n1')).trans (hg6.block ga (by have := PB9.out.gg; have := blk_lt RD9.out.blk; omega) (Kd.R_away PB9.out.rr (fun k hk => hk.2.1))))); have f6 : w6.frozen? ⟨w.heap.size, 2, none⟩ = false := blk_frozen (gr_blk hg6 PB9.out.out (Kd.R_away PB9.out.rr (fun k hk => hk.2.2.1))) 2; have x7 : w6.cell? ⟨w.heap.size, 2, none⟩ = some (.slice Ac rs.length cc) := (blk_cell (gr_blk hg6 PB9.out.out (Kd.R_away PB9.out.rr (fun k hk => hk.2.2.1))) 2).trans rfl; clear ho6 hb6 hg6 hat6)
                try go_simp
                refine hK _ _ ?_
                clear hK K
                refine wpAny_take (i := 10) (v := .pointer (some ⟨w.heap.size, 2, none⟩)) rfl (by kernel_rfl) (by kernel_rfl) (by kernel_rfl) (fun _ _ _ h => leaves_put 49 (by decide) (by decide) (by decide) h) (Or.inl ⟨by rfl, by intro w'; go_simp⟩) ?_
                refine wpAny_ready (rs := [11]) (by kernel_rfl) (by simp) ?_
                refine AllReady.cons rfl (fun K hK => ?_) AllReady.nil
                go_simp
                refine hK _ _ ?_
                clear hK K
                refine wpAny_done (by kernel_rfl) ?_ _
                have HS11 : Aside0 (bodyK a (rulesR toks (64 - rs.length) (rs ++ [u]) n5) = res) := ⟨by have h := HS10.out; rw [M5.out] at h; exact h⟩
                have HLT : Aside0 (rs.length < 64) := ⟨by
                  have h2 := HN.out
                  rw [M5.out] at h2
                  cases rb with
                  | true => exact of_decide_eq_true HRB.out
                  | false =>
                    obtain ⟨e, he⟩ := rule_full toks n
                    rw [he] at h2
                    cases h2⟩
                have HN3 : Aside0 (n < n5) := ⟨by
                  have h2 := HN.out
                  rw [M5.out] at h2
                  exact rule_adv h2⟩
                go_wp2_with fail
                refine ⟨⟨_, rs ++ [u], n5, by rw [List.length_append, List.length_singleton]; have := HLT.out; omega, ⟨by rw [List.length_append, List.length_singleton, show 65 - (rs.length + 1) = 64 - rs.length by omega]; exact HS11.out⟩, PB10, RD10⟩, ?_⟩
                rw [nAt_is RD10.out, NW.out.1]
                have h1 := HN3.out
                have h2 := NW.out.2
                have h3 := RD10.out.lt
                simp only at h3 ⊢
                omega
              refine AllReady.cons rfl (fun K hK => ?_) ?_
              · skip
                (refine step_parsed2 rfl Try.func20 fn20 bd20 rfl HP0.out HMC.out rfl ?hp ?_; (case hp => intro er at2 w' he hg5; exact parse_door (PBD.out.moved hg5) _ _ _ (by rw [← HS10.out, he]; rfl) rfl rfl rfl); intro v5 w5 hm5 hv5 hr5 hg5; obtain ⟨cs5, rfl, hM5⟩ := hv5; obtain ⟨y2, y3, rfl, hy2, hy3⟩ := k72_openM hM5; have HM5 := Aside0.mk hM5; have PB9 := Aside0.mk (PBD.out.moved hg5); have RD9 := Aside0.mk hr5; have M5 := Aside0.mk hm5; have GS5 := Aside0.mk hg5.size; have x5 : w5.cell? ⟨w.heap.size, 2, none⟩ = some (.slice Ac rs.length cc) := (blk_cell PB9.out.out 2).trans rfl; have x6 : ∀ o, (w5.alloc o).cell? ⟨w.heap.size, 2, none⟩ = some (.slice Ac rs.length cc) := fun o => (blk_cell (blk_alloc PB9.out.out o) 2).trans rfl; clear hm5 hr5 hg5 hM5 hy2 hy3)
                try go_simp
                refine hK _ _ ?_
                clear hK K
                refine wpAny_ready (rs := [1, 8]) (by kernel_rfl) (by simp) ?_
                refine AllReady.cons rfl (fun K hK => ?_) ?_
                · skip
                  go_simp
                  refine hK _ _ ?_
                  clear hK K
                  refine wpAny_ready (rs := [8]) (by kernel_rfl) (by simp) ?_
                  refine AllReady.cons rfl (fun K hK => ?_) AllReady.nil
                  go_simp
                  refine hK _ _ ?_
                  clear hK K
                  refine wpAny_ready (rs := [9]) (by kernel_rfl) (by simp) ?_
                  refine AllReady.cons rfl (fun K hK => ?_) AllReady.nil
                  (refine Kd.R_append_step k72 (w0 := w5) w.heap.size (wanted_none rfl) (.tmp 40) (.tmp 47) 36 72 _ 64 rfl Try.underlying36 info72 rfl (by decide) (by decide) (.slice Ac rs.length cc) rs u _ (fun k => k ≠ g ∧ k ≠ ga ∧ k ≠ w.heap.size ∧ k ≠ w.heap.size + 1 ∧ k ≠ w.heap.size + 1 + 1) (fun k => w7.heap.size ≤ k) rfl rfl (k72.M_lower PBD.out.bl.size (k72.M_mono (fun k hk => by have := hk.2.1; simpa using this) (k72.M_bound HM5.out))) ?aK ?aF PB9.out.rr (Below.refl _ _) PB9.out.bl.size ?aL ?_; (case aK => intro k hk; have h1 := PB8.out.gl; have h2 := PB8.out.gg; have h3 := blk_lt RD8.out.blk; refine ⟨⟨?_, ?_, ?_, ?_, ?_⟩, fun e => by have := Kd.R_lt PB8.out.rr k e.symm; omega⟩ <;> omega); (case aF => intro k hk; have h1 := PB9.out.gl; have h2 := PB9.out.gg; have h3 := blk_lt RD9.out.blk; refine ⟨?_, ?_, ?_, ?_, ?_⟩ <;> omega); (case aL => have := HLE.out; omega); intro v6 w6 ho6 hb6 hg6 hat6; have e6 := Kd.R_slice ho6; rw [List.length_append, List.length_singleton] at e6; obtain ⟨A6, c6, rfl⟩ := e6; have PB10 := Aside0.mk (PB9.out.rule ho6 hg6); have RD10 := Aside0.mk (RD9.out.keep ((Below.heap_setCell w6 ⟨w.heap.size, 2, none⟩ (.slice A6 (rs.length + 1) c6) g (Ne.symm n0)).trans (hg6.block g (blk_lt RD9.out.blk) (Kd.R_away PB9.out.rr (fun k hk => hk.1)))) ((Below.heap_setCell w6 ⟨w.heap.size, 2, none⟩ (.slice A6 (rs.length + 1) c6) ga (Ne.symm n1')).trans (hg6.block ga (by have := PB9.out.gg; have := blk_lt RD9.out.blk; omega) (Kd.R_away PB9.out.rr (fun k hk => hk.2.1))))); have f6 : w6.frozen? ⟨w.heap.size, 2, none⟩ = false := blk_frozen (gr_blk hg6 PB9.out.out (Kd.R_away PB9.out.rr (fun k hk => hk.2.2.1))) 2; have x7 : w6.cell? ⟨w.heap.size, 2, none⟩ = some (.slice Ac rs.length cc) := (blk_cell (gr_blk hg6 PB9.out.out (Kd.R_away PB9.out.rr (fun k hk => hk.2.2.1))) 2).trans rfl; clear ho6 hb6 hg6 hat6)
                  try go_simp
                  refine hK _ _ ?_
                  clear hK K
                  refine wpAny_take (i := 10) (v := .pointer (some ⟨w.heap.size, 2, none⟩)) rfl (by kernel_rfl) (by kernel_rfl) (by kernel_rfl) (fun _ _ _ h => leaves_put 49 (by decide) (by decide) (by decide) h) (Or.inl ⟨by rfl, by intro w'; go_simp⟩) ?_
                  refine wpAny_ready (rs := [11]) (by kernel_rfl) (by simp) ?_
                  refine AllReady.cons rfl (fun K hK => ?_) AllReady.nil
                  go_simp
                  refine hK _ _ ?_
                  clear hK K
                  refine wpAny_done (by kernel_rfl) ?_ _
                  have HS11 : Aside0 (bodyK a (rulesR toks (64 - rs.length) (rs ++ [u]) n5) = res) := ⟨by have h := HS10.out; rw [M5.out] at h; exact h⟩
                  have HLT : Aside0 (rs.length < 64) := ⟨by
                    have h2 := HN.out
                    rw [M5.out] at h2
                    cases rb with
                    | true => exact of_decide_eq_true HRB.out
                    | false =>
                      obtain ⟨e, he⟩ := rule_full toks n
                      rw [he] at h2
                      cases h2⟩
                  have HN3 : Aside0 (n < n5) := ⟨by
                    have h2 := HN.out
                    rw [M5.out] at h2
                    exact rule_adv h2⟩
                  go_wp2_with fail
                  refine ⟨⟨_, rs ++ [u], n5, by rw [List.length_append, List.length_singleton]; have := HLT.out; omega, ⟨by rw [List.length_append, List.length_singleton, show 65 - (rs.length + 1) = 64 - rs.length by omega]; exact HS11.out⟩, PB10, RD10⟩, ?_⟩
                  rw [nAt_is RD10.out, NW.out.1]
                  have h1 := HN3.out
                  have h2 := NW.out.2
                  have h3 := RD10.out.lt
                  simp only at h3 ⊢
                  omega
                refine AllReady.cons rfl (fun K hK => ?_) ?_
                · skip
                  go_simp
                  refine hK _ _ ?_
                  clear hK K
                  refine wpAny_ready (rs := [1]) (by kernel_rfl) (by simp) ?_
                  refine AllReady.cons rfl (fun K hK => ?_) AllReady.nil
                  go_simp
                  refine hK _ _ ?_
                  clear hK K
                  refine wpAny_ready (rs := [9]) (by kernel_rfl) (by simp) ?_
                  refine AllReady.cons rfl (fun K hK => ?_) AllReady.nil
                  (refine Kd.R_append_step k72 (w0 := w5) w.heap.size (wanted_none rfl) (.tmp 40) (.tmp 47) 36 72 _ 64 rfl Try.underlying36 info72 rfl (by decide) (by decide) (.slice Ac rs.length cc) rs u _ (fun k => k ≠ g ∧ k ≠ ga ∧ k ≠ w.heap.size ∧ k ≠ w.heap.size + 1 ∧ k ≠ w.heap.size + 1 + 1) (fun k => w7.heap.size ≤ k) rfl rfl (k72.M_lower PBD.out.bl.size (k72.M_mono (fun k hk => by have := hk.2.1; simpa using this) (k72.M_bound HM5.out))) ?aK ?aF PB9.out.rr (Below.refl _ _) PB9.out.bl.size ?aL ?_; (case aK => intro k hk; have h1 := PB8.out.gl; have h2 := PB8.out.gg; have h3 := blk_lt RD8.out.blk; refine ⟨⟨?_, ?_, ?_, ?_, ?_⟩, fun e => by have := Kd.R_lt PB8.out.rr k e.symm; omega⟩ <;> omega); (case aF => intro k hk; have h1 := PB9.out.gl; have h2 := PB9.out.gg; have h3 := blk_lt RD9.out.blk; refine ⟨?_, ?_, ?_, ?_, ?_⟩ <;> omega); (case aL => have := HLE.out; omega); intro v6 w6 ho6 hb6 hg6 hat6; have e6 := Kd.R_slice ho6; rw [List.length_append, List.length_singleton] at e6; obtain ⟨A6, c6, rfl⟩ := e6; have PB10 := Aside0.mk (PB9.out.rule ho6 hg6); have RD10 := Aside0.mk (RD9.out.keep ((Below.heap_setCell w6 ⟨w.heap.size, 2, none⟩ (.slice A6 (rs.length + 1) c6) g (Ne.symm n0)).trans (hg6.block g (blk_lt RD9.out.blk) (Kd.R_away PB9.out.rr (fun k hk => hk.1)))) ((Below.heap_setCell w6 ⟨w.heap.size, 2, none⟩ (.slice A6 (rs.length + 1) c6) ga (Ne.symm n1')).trans (hg6.block ga (by have := PB9.out.gg; have := blk_lt RD9.out.blk; omega) (Kd.R_away PB9.out.rr (fun k hk => hk.2.1))))); have f6 : w6.frozen? ⟨w.heap.size, 2, none⟩ = false := blk_frozen (gr_blk hg6 PB9.out.out (Kd.R_away PB9.out.rr (fun k hk => hk.2.2.1))) 2; have x7 : w6.cell? ⟨w.heap.size, 2, none⟩ = some (.slice Ac rs.length cc) := (blk_cell (gr_blk hg6 PB9.out.out (Kd.R_away PB9.out.rr (fun k hk => hk.2.2.1))) 2).trans rfl; clear ho6 hb6 hg6 hat6)
                  try go_simp
                  refine hK _ _ ?_
                  clear hK K
                  refine wpAny_take (i := 10) (v := .pointer (some ⟨w.heap.size, 2, none⟩)) rfl (by kernel_rfl) (by kernel_rfl) (by kernel_rfl) (fun _ _ _ h => leaves_put 49 (by decide) (by decide) (by decide) h) (Or.inl ⟨by rfl, by intro w'; go_simp⟩) ?_
                  refine wpAny_ready (rs := [11]) (by kernel_rfl) (by simp) ?_
                  refine AllReady.cons rfl (fun K hK => ?_) AllReady.nil
                  go_simp
                  refine hK _ _ ?_
                  clear hK K
                  refine wpAny_done (by kernel_rfl) ?_ _
                  have HS11 : Aside0 (bodyK a (rulesR toks (64 - rs.length) (rs ++ [u]) n5) = res) := ⟨by have h := HS10.out; rw [M5.out] at h; exact h⟩
                  have HLT : Aside0 (rs.length < 64) := ⟨by
                    have h2 := HN.out
                    rw [M5.out] at h2
                    cases rb with
                    | true => exact of_decide_eq_true HRB.out
                    | false =>
                      obtain ⟨e, he⟩ := rule_full toks n
                      rw [he] at h2
                      cases h2⟩
                  have HN3 : Aside0 (n < n5) := ⟨by
                    have h2 := HN.out
                    rw [M5.out] at h2
                    exact rule_adv h2⟩
                  go_wp2_with fail
                  refine ⟨⟨_, rs ++ [u], n5, by rw [List.length_append, List.length_singleton]; have := HLT.out; omega, ⟨by rw [List.length_append, List.length_singleton, show 65 - (rs.length + 1) = 64 - rs.length by omega]; exact HS11.out⟩, PB10, RD10⟩, ?_⟩
                  rw [nAt_is RD10.out, NW.out.1]
                  have h1 := HN3.out
                  have h2 := NW.out.2
                  have h3 := RD10.out.lt
                  simp only at h3 ⊢
                  omega
                exact AllReady.nil
              exact AllReady.nil
            exact AllReady.nil
end Go.Proofs.Ytidnojkijfinaaa.Fns
