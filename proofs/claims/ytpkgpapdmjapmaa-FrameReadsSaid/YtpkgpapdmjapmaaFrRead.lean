/- The reader of the frames: its state; Feed. -/
import Derived.Test.YtpkgpapdmjapmaaFns0
namespace Go.Proofs.Ytpkgpapdmjapmaa.Fns
open Go.RowKit Go.Proofs.YtpkgpapdmjapmaaW.PrintWords Go.Proofs.YtpkgpapdmjapmaaW.PrintLast Go.Proofs.YtpkgpapdmjapmaaW.PrintMore
set_option linter.unusedVariables false
set_option linter.unusedSimpArgs false

/-- What a call leaves: the streams, and all blocks but those of S. -/
structure Kp (S : Nat → Prop) (w w' : World) : Prop where
  os : w'.os = w.os
  tape : w'.tape = w.tape
  output : w'.output = w.output
  size : w.heap.size ≤ w'.heap.size
  block : ∀ i, i < w.heap.size → ¬ S i → w'.heap[i]? = w.heap[i]?
theorem Kp.refl (S : Nat → Prop) (w : World) : Kp S w w := ⟨rfl, rfl, rfl, Nat.le_refl _, fun _ _ _ => rfl⟩
theorem Kp.mono {S S' : Nat → Prop} {a b : World} (h : Kp S a b) (hs : ∀ k, S k → S' k) : Kp S' a b := ⟨h.os, h.tape, h.output, h.size, fun i hi hn => h.block i hi (fun hk => hn (hs i hk))⟩
theorem Kp.trans {S S' : Nat → Prop} {a b c : World} (h : Kp S a b) (k : Kp S' b c) (hs : ∀ k, S' k → S k ∨ a.heap.size ≤ k) : Kp S a c :=
  ⟨k.os.trans h.os, k.tape.trans h.tape, k.output.trans h.output, Nat.le_trans h.size k.size, fun i hi hn => (k.block i (Nat.lt_of_lt_of_le hi h.size) (fun h2 => (hs i h2).elim hn (fun h3 => by omega))).trans (h.block i hi hn)⟩
theorem Kp.of_below {S : Nat → Prop} {a b : World} (h : Below a.heap.size a b) : Kp S a b := ⟨h.os, h.tape, h.output, h.size, fun i hi _ => h.block i hi⟩
theorem Kp.of_grown {a b : World} {row : Option Nat} (h : a.grownBy b row) : Kp (fun k => some k = row) a b := ⟨h.os, h.tape, h.output, h.size, fun i hi hn => h.block i hi hn⟩
theorem Kp.set {S : Nat → Prop} {a b : World} (h : Kp S a b) (g j : Nat) (v : Value) (hg : S g) : Kp S a (b.setCell ⟨g, j, none⟩ v) :=
  ⟨h.os, h.tape, h.output, by simpa [World.setCell] using h.size, fun i hi hn => (Below.heap_setCell b ⟨g, j, none⟩ v i (fun e => hn (by rw [e]; exact hg))).trans (h.block i hi hn)⟩
theorem Kp.drewN {S : Nat → Prop} {a b : World} (h : Kp S a b) (n : Nat) : Kp S a (b.drewN n) := ⟨h.os, h.tape, h.output, h.size, h.block⟩
theorem Kp.below {S : Nat → Prop} {B : Nat} {a b c : World} (h : Below B a b) (k : Kp S b c) (hS : ∀ i, S i → B ≤ i) (hB : B ≤ b.heap.size) : Below B a c :=
  ⟨k.os.trans h.os, k.tape.trans h.tape, k.output.trans h.output, Nat.le_trans h.size k.size, fun i hi => (k.block i (by omega) (fun hs => by have := hS i hs; omega)).trans (h.block i hi)⟩

theorem q_types5 : ∀ q, q ∈ 5 :: (Kd.int .u8).E → q ≠ 32 := fun q hq => by
  have : q = 5 := by simpa [Kd.int, Kd.scalar] using hq
  subst this
  decide
/-- A reader: in block g, its bytes in a row of its own (in a block of ok). -/
def Rd (ok : Nat → Prop) (base : Nat) (w : World) (g : Nat) (B : List Int) (lost : Int) : Prop :=
  base ≤ g ∧ ∃ v, w.heap[g]? = some (.cells #[v, .int .i64 lost] 32 (0, 0)) ∧ (Kd.int .u8).Q 5 w base ok v B
theorem Rd.mono {ok ok' : Nat → Prop} {base g : Nat} {w : World} {B : List Int} {lost : Int} (h : Rd ok base w g B lost) (hok : ∀ k, ok k → ok' k) : Rd ok' base w g B lost := by
  obtain ⟨h1, v, h2, h3⟩ := h
  exact ⟨h1, v, h2, Kd.Q_mono h3 hok⟩
theorem Rd.lt {ok : Nat → Prop} {base g : Nat} {w : World} {B : List Int} {lost : Int} (h : Rd ok base w g B lost) : g < w.heap.size := by
  obtain ⟨_, v, h2, _⟩ := h
  exact blk_lt h2
theorem Rd.bound {ok : Nat → Prop} {base g : Nat} {w : World} {B : List Int} {lost : Int} (h : Rd ok base w g B lost) : Rd (fun k => ok k ∧ base ≤ k ∧ k < w.heap.size ∧ k ≠ g) base w g B lost := by
  obtain ⟨h1, v, h2, h3⟩ := h
  refine ⟨h1, v, h2, Kd.Q_mono (Kd.Q_types (Kd.Q_bound h3) h2 q_types5) (fun k hk => ⟨hk.1.1, hk.1.2.1, hk.1.2.2.1, hk.2⟩)⟩
theorem Rd.move {ok S : Nat → Prop} {base g : Nat} {w w' : World} {B : List Int} {lost : Int} (h : Rd ok base w g B lost) (k : Kp S w w') (hg : ¬ S g) (hS : ∀ k, ok k → ¬ S k) : Rd ok base w' g B lost := by
  have hlt := h.lt
  obtain ⟨h1, v, h2, h3⟩ := h
  exact ⟨h1, v, (k.block g hlt hg).trans h2, Kd.Q_step h3 (fun j hj hl => k.block j hl (hS j hj))⟩
theorem Rd.below {ok : Nat → Prop} {base g : Nat} {w w' : World} {B : List Int} {lost : Int} (h : Rd ok base w g B lost) (k : Below w.heap.size w w') : Rd ok base w' g B lost :=
  h.move (S := fun _ => False) (Kp.of_below k) (fun h => h) (fun _ _ h => h)
theorem Rd.drewN {ok : Nat → Prop} {base g : Nat} {w : World} {B : List Int} {lost : Int} (h : Rd ok base w g B lost) (n : Nat) : Rd ok base (w.drewN n) g B lost := h.below (pw_below_drewN (Below.refl _ _) n)
theorem Rd.set_row {ok : Nat → Prop} {base g : Nat} {w : World} {B : List Int} {lost : Int} {u v : Value} (hg : base ≤ g) (hb : w.heap[g]? = some (.cells #[u, .int .i64 lost] 32 (0, 0))) (hq : (Kd.int .u8).Q 5 w base ok v B) : Rd ok base (w.setCell ⟨g, 0, none⟩ v) g B lost :=
  ⟨hg, v, (blk_set hb 0 v).trans (by simp), Kd.Q_set hq hb q_types5 0 v⟩
theorem Rd.set_lost {ok : Nat → Prop} {base g : Nat} {w : World} {B : List Int} {lost : Int} (h : Rd ok base w g B lost) (x : Int) : Rd ok base (w.setCell ⟨g, 1, none⟩ (.int .i64 x)) g B x := by
  obtain ⟨h1, v, h2, h3⟩ := h
  exact ⟨h1, v, (blk_set h2 1 _).trans (by simp), Kd.Q_set h3 h2 q_types5 1 _⟩

section
variable {P : Program} {ops : Array Oper} {rest : List Oper} {o : Oper} {a : Act} {Q' : Exit → Act → World → Prop}
/-- append(v, ys...) of bytes, v a row whose front may have been dropped. -/
theorem q_bytes_run (W : World) (base : Nat) (ty : TypeId) (v : Value) (xs ys : List Int) (A : Option Addr) (m c : Nat) (ok : Nat → Prop)
    (HO : (Kd.int .u8).Q 5 W base ok v xs) (HC : (Kd.int .u8).C W A m ys) (hfresh : ∀ k, W.heap.size ≤ k → ok k) (hbase : base ≤ W.heap.size) (hl : xs.length + m ≤ 140737488355328) :
    ∃ v1 w1, (Builtin.append_ #[22, 22] ty #[v, .slice A m c]).run Try.prog W = .ok v1 w1 ∧ (Kd.int .u8).Q 5 w1 base ok v1 (xs ++ ys) ∧ W.grownBy w1 v.ownBlock ∧ (v1.ownBlock = v.ownBlock ∨ ∃ b, v1.ownBlock = some b ∧ W.heap.size ≤ b) := by
  obtain ⟨i0, hi, hzz⟩ := Option.map_eq_some_iff.1 info5
  simp only [Prod.mk.injEq] at hzz
  obtain ⟨hz0, hz1, hz2⟩ := hzz
  have hm : ys.length = m := HC.1
  obtain ⟨h0, inner, hown, hr⟩ := HO
  rcases Nat.eq_zero_or_pos m with h00 | hpos
  · subst h00
    obtain rfl : ys = [] := List.eq_nil_of_length_eq_zero hm
    refine ⟨v, W, ?_, by rw [List.append_nil]; exact ⟨h0, inner, hown, hr⟩, World.grownBy.refl W _, .inl rfl⟩
    rcases hown.2 with ⟨hn, A', rfl, _⟩ | ⟨g, off, cap, cur, rfl, _, _, hnc, _⟩
    · cases A <;> cases A' <;> simp [Builtin.append_, run_underlying Try.underlying22, sizeOf, typeInfo, hi, Builtin.lenOf, Builtin.firstCells, loadCells, loadCellsFrom, storeCells]
    · cases A <;> simp [Builtin.append_, run_underlying Try.underlying22, sizeOf, typeInfo, hi, Builtin.lenOf, Builtin.firstCells, hnc, storeCells, loadCells, loadCellsFrom]
  · obtain ⟨ad, rfl, hcells⟩ := HC.2.2 hpos
    obtain ⟨news, hnr, hnc⟩ := ReadsRow.inner_ HC
    have hone : ∀ u ∈ news, u.oneCell' = true := by
      intro u hu
      obtain ⟨q, hq, rfl⟩ := List.mem_iff_getElem.1 hu
      have hql : q < ys.length := by have := hnr.1; simp only [Kd.int, Kd.scalar] at this; omega
      have hc := hnr.2 q _ (List.getElem?_eq_getElem hql)
      refine (Kd.int .u8).K_one hc _ ?_
      simp only [Kd.int, Kd.scalar, Nat.mul_one]
      rw [List.mem_iff_getElem?]
      exact ⟨0, by rw [List.getElem?_take, if_pos (by decide), List.getElem?_drop, Nat.add_zero, List.getElem?_eq_getElem hq]⟩
    obtain ⟨v1, w1, hrun, hq1, hg, hat⟩ := q_append (P := Try.prog) W base 22 ty 5 i0 (.int .u8 0) 1 1 Try.underlying22 hi hz0 hz1 hz2 rfl (by decide) v xs.length inner hown ad m c news
      (by have := hnr.1; simp only [Kd.int, Kd.scalar] at this; omega) hnc hone hpos (by simp only [maxLen]; omega) (by omega) hbase
    refine ⟨v1, w1, hrun, ⟨fun k hk => ?_, inner ++ news, by rw [List.length_append, hm]; exact hq1, ?_⟩, hg, hat⟩
    · rcases hat with hat | ⟨b, hb, hle⟩
      · exact h0 k (hat ▸ hk)
      · rw [hb] at hk
        injection hk with hk
        exact hfresh k (by omega)
    · exact Kd.reps_append hr hnr

theorem q_bytes_event {W : World} (base : Nat) (hgd : o.guard = none) (s x : Operand)
    (ho : o.op = .call { callee := .builtin .append, args := #[s, x], argTypes := #[22, 22] })
    (v : Value) (xs ys : List Int) (A : Option Addr) (m c : Nat) (ok : Nat → Prop) (hs : a.eval s = v) (hx : a.eval x = .slice A m c)
    (HO : (Kd.int .u8).Q 5 W base ok v xs) (HC : (Kd.int .u8).C W A m ys) (hfresh : ∀ k, W.heap.size ≤ k → ok k) (hbase : base ≤ W.heap.size) (hl : xs.length + m ≤ 140737488355328)
    (h : ∀ v1 w1, (Kd.int .u8).Q 5 w1 base ok v1 (xs ++ ys) → W.grownBy w1 v.ownBlock → (v1.ownBlock = v.ownBlock ∨ ∃ b, v1.ownBlock = some b ∧ W.heap.size ≤ b) → wpList Try.prog ops Q' rest (a.put o.dst v1) w1) :
    wpList Try.prog ops Q' (o :: rest) a W := by
  obtain ⟨v1, w1, hr, h1, h2, h3⟩ := q_bytes_run W base o.type v xs ys A m c ok HO HC hfresh hbase hl
  refine wpList_plain hgd fun K hK => ?_
  unfold Oper.wp execOp
  simp only [ho, resolve, invoke, builtin, Sem.run_bind, Sem.run_pure, Result.andThen_ok, List.map_toArray, List.map_cons, List.map_nil, hs, hx, hr]
  exact hK _ _ (h v1 w1 h1 h2 h3)
end

set_option maxHeartbeats 4000000 in
set_option maxRecDepth 100000 in
theorem feed (ok : Nat → Prop) (base g : Nat) (B : List Int) (lost : Int) (A1 : Option Addr) (c1 : Nat) (l1 : List Int) (w : World) (hI : Rd ok base w g B lost)
    (hr1 : Kd.C (Kd.int .u8) w A1 l1.length l1) (hlen : B.length + l1.length ≤ 140737488355328) :
    Calls Try.prog 13 #[.pointer (some ⟨g, 0, none⟩), .slice A1 l1.length c1] w fun e w' => (∃ u, e = .returned u) ∧ Rd (fun k => ok k ∨ w.heap.size ≤ k) base w' g (B ++ l1) lost ∧ Kp (fun k => k = g ∨ ok k) w w' := by
  have hlt := hI.lt
  obtain ⟨hbg, v, hblk, hq⟩ := hI
  have HI := Aside0.mk (And.intro hbg (And.intro hlt hblk))
  have HQ := Aside0.mk hq
  have HR := Aside0.mk hr1
  have HL := Aside0.mk hlen
  have hc0 : w.cell? ⟨g, 0, none⟩ = some v := (blk_cell hblk 0).trans rfl
  clear hblk hq hr1 hlen hlt hbg
  go_enter Try.func13, Try.ntmps13
  go_wp2_with (first | ((with_reducible refine gate_dst (N := 10) rfl ?_); refine q_bytes_event base ?hg (.tmp 8) (.tmp 9) ?ho v B l1 A1 l1.length c1 (fun k => ok k ∨ w.heap.size ≤ k) ?hs ?hx ?hQ ?hC ?hf ?hb ?hl ?_; (case hg => rfl); (case ho => rfl); (case hs => rfl); (case hx => rfl); (case hQ => exact Kd.Q_mono HQ.out (fun _ hk => .inl hk)); (case hC => exact HR.out); (case hf => exact fun _ hk => .inr hk); (case hb => have := HI.out.1; have := HI.out.2.1; omega); (case hl => exact HL.out); intro v1 w1 hq1 hg1 hat; obtain ⟨A2, c2, rfl, _⟩ := Kd.Q_slice hq1; have HQ1 := Aside0.mk hq1; have HG1 := Aside0.mk hg1; have hb1 : w1.heap[g]? = some (.cells #[v, .int .i64 lost] 32 (0, 0)) := (hg1.block g HI.out.2.1 (Kd.Q_ne HQ.out HI.out.2.2 (by decide))).trans HI.out.2.2; have HB1 := Aside0.mk hb1; have hc1 : w1.cell? ⟨g, 0, none⟩ = some v := (blk_cell hb1 0).trans rfl; have hf1 := blk_frozen hb1 0; clear hq1 hg1 hb1))
  go_end0
  have HQ2 : (Kd.int .u8).Q 5 w1 base (fun k => ok k ∨ w.heap.size ≤ k) (.slice A2 (B.length + l1.length) c2) (B ++ l1) := by
    rw [← List.length_append]; exact HQ1.out
  exact ⟨⟨_, rfl⟩, Rd.set_row HI.out.1 HB1.out HQ2, Kp.set ((Kp.of_grown HG1.out).mono (fun k hk => .inr (HQ.out.1 k hk.symm))) g 0 _ (.inl rfl)⟩

end Go.Proofs.Ytpkgpapdmjapmaa.Fns
