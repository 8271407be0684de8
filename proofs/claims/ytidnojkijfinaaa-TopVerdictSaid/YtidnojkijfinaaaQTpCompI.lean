/- Part of the proof of TopVerdictSaid. -/
import Derived.Test.YtidnojkijfinaaaQTpNums
import Derived.Test.YtidnojkijfinaaaQTpLawD
import Derived.Test.YtidnojkijfinaaaQTpLawE
namespace Go.Proofs.Ytidnojkijfinaaa.Fns
open Go.RowKit Go.Maps Go.Proofs.YtidnojkijfinaaaW.PrintWords Go.Proofs.YtidnojkijfinaaaW.PrintLast Go.Proofs.YtidnojkijfinaaaW.PrintMore
set_option linter.unusedVariables false
set_option linter.unusedSimpArgs false
abbrev kL := Kd.slice 84 k84
def box38 (dk da : Int) (A : Option Addr) (n c : Nat) : Array Value := #[.int .i64 dk, .int .i64 da, .slice A n c]
def plan78 (An : Option Addr) (n cn GL cl : Nat) : Array Value := #[.slice An n cn, .slice (some ⟨GL, 0, none⟩) n cl]
structure CO (w : World) (B PL : Array Value) (nrs : List Int) (An : Option Addr) (gp GL n i : Nat) (done : List (List S84)) (W : World) : Prop where
  bx : W.heap[w.heap.size]? = some (.cells B 38 (0, 0))
  pl : W.heap[gp]? = some (.cells PL 78 (0, 0))
  nr : Kd.F (Kd.int .u32) W (fun k => k ≠ GL) An nrs.length nrs
  bl : Below w.heap.size w W
  lv : ∃ cs : Array Value, W.heap[GL]? = some (.cells cs 42 (0, 0)) ∧ n ≤ cs.size ∧ Reps (fun x c => Kd.FK kL W (fun k => k ≠ GL) x c) 1 done (cs.toList.take i) ∧ ∀ j, i ≤ j → j < n → cs[j]? = some (.slice none 0 0)
  od : w.heap.size < GL ∧ w.heap.size < gp ∧ GL ≠ gp
structure CI (w : World) (B PL : Array Value) (nrs : List Int) (An : Option Addr) (gp GL n i : Nat) (done : List (List S84)) (base : Nat) (v : Value) (cur : List S84) (W : World) : Prop where
  bx : W.heap[w.heap.size]? = some (.cells B 38 (0, 0))
  pl : W.heap[gp]? = some (.cells PL 78 (0, 0))
  nr : Kd.F (Kd.int .u32) W (fun k => k ≠ GL ∧ k < base) An nrs.length nrs
  bl : Below w.heap.size w W
  lv : ∃ cs : Array Value, W.heap[GL]? = some (.cells cs 42 (0, 0)) ∧ n ≤ cs.size ∧ Reps (fun x c => Kd.FK kL W (fun k => k ≠ GL ∧ k < base) x c) 1 done (cs.toList.take i) ∧ cs[i]? = some v ∧ ∀ j, i < j → j < n → cs[j]? = some (.slice none 0 0)
  row : k84.R 84 W base (fun k => k ≠ GL) v cur
  ba : base ≤ W.heap.size
  od : w.heap.size < GL ∧ w.heap.size < gp ∧ GL ≠ gp ∧ GL < base ∧ gp < base ∧ i < n
section
variable {w W W1 : World} {B PL : Array Value} {nrs : List Int} {An : Option Addr} {gp GL n i base : Nat} {done : List (List S84)} {v v1 : Value} {cur cur1 : List S84}
theorem CO.below (h : CO w B PL nrs An gp GL n i done W) (hb : Below W.heap.size W W1) : CO w B PL nrs An gp GL n i done W1 := by
  obtain ⟨cs, l1, l2, l3, l4⟩ := h.lv
  exact ⟨blk_below h.bx hb, blk_below h.pl hb, Kd.F_below h.nr hb, below_then h.bl h.bl.size hb, ⟨cs, blk_below l1 hb, l2, l3.imp_ (fun _ _ q => Kd.FK_below q hb), l4⟩, h.od⟩
theorem CO.start (h : CO w B PL nrs An gp GL n i done W) (hi : i < n) : CI w B PL nrs An gp GL n i done W.heap.size (.slice none 0 0) [] W := by
  obtain ⟨cs, l1, l2, l3, l4⟩ := h.lv
  obtain ⟨o1, o2, o3⟩ := h.od
  exact ⟨h.bx, h.pl, Kd.F_bound h.nr, h.bl, ⟨cs, l1, l2, l3.imp_ (fun _ _ q => Kd.FK_bound q), l4 i (Nat.le_refl _) hi, fun j h1 h2 => l4 j (by omega) h2⟩, Kd.R_nil _ _ _ _ _, Nat.le_refl _, o1, o2, o3, blk_lt l1, blk_lt h.pl, hi⟩
theorem CI.below (h : CI w B PL nrs An gp GL n i done base v cur W) (hb : Below W.heap.size W W1) : CI w B PL nrs An gp GL n i done base v cur W1 := by
  obtain ⟨cs, l1, l2, l3, l4, l5⟩ := h.lv
  exact ⟨blk_below h.bx hb, blk_below h.pl hb, Kd.F_below h.nr hb, below_then h.bl h.bl.size hb, ⟨cs, blk_below l1 hb, l2, l3.imp_ (fun _ _ q => Kd.FK_below q hb), l4, l5⟩, Kd.R_below h.row hb, Nat.le_trans h.ba hb.size, h.od⟩
theorem CI.cells (h : CI w B PL nrs An gp GL n i done base v cur W) : W.cell? ⟨GL, i, none⟩ = some v ∧ W.frozen? ⟨GL, i, none⟩ = false := by
  obtain ⟨cs, l1, l2, l3, l4, l5⟩ := h.lv
  exact ⟨(blk_cell l1 i).trans l4, blk_frozen l1 i⟩
theorem CI.put (h : CI w B PL nrs An gp GL n i done base v cur W) (hg : W.grownBy W1 v.ownBlock) (hr : k84.R 84 W1 base (fun k => k ≠ GL) v1 cur1) : CI w B PL nrs An gp GL n i done base v1 cur1 (W1.setCell ⟨GL, i, none⟩ v1) := by
  obtain ⟨cs, l1, l2, l3, l4, l5⟩ := h.lv
  obtain ⟨o1, o2, o3, o4, o5, o6⟩ := h.od
  have hv := Kd.R_base h.row
  have hne : ∀ g, g < base → some g ≠ v.ownBlock := fun g hg e => by have := hv g e.symm; omega
  have l1' := gr_blk hg l1 (hne GL o4)
  refine ⟨blk_far (gr_blk hg h.bx (hne _ (by omega))) (p := ⟨GL, i, none⟩) (by show w.heap.size ≠ GL; omega) _, blk_far (gr_blk hg h.pl (hne _ o5)) (p := ⟨GL, i, none⟩) (by show gp ≠ GL; omega) _, ?_, ?_, ?_, Kd.R_far hr (p := ⟨GL, i, none⟩) (fun k hk => hk) _, ?_, h.od⟩
  · exact Kd.F_far (Kd.F_grown h.nr hg (fun k hk => hne k hk.2)) (p := ⟨GL, i, none⟩) (fun k hk => hk.1) _
  · exact (h.bl.grown hg h.bl.size (fun j hj => by have := hv j hj; omega)).setCell (show w.heap.size ≤ GL by omega) _
  · refine ⟨cs.setIfInBounds i v1, blk_set l1' i v1, by simpa using l2, ?_, ?_, fun j h1 h2 => ?_⟩
    · have e : (cs.setIfInBounds i v1).toList.take i = cs.toList.take i := by
        rw [Array.toList_setIfInBounds, List.take_set_of_le (Nat.le_refl _)]
      rw [e]
      exact l3.imp_ (fun _ _ q => Kd.FK_step (Kd.FK_grown q hg (fun k hk => hne k hk.2)) (fun k hk _ => Below.heap_setCell W1 ⟨GL, i, none⟩ v1 k hk.1))
    · rw [Array.getElem?_setIfInBounds_self]
      rw [if_pos (by omega)]
    · rw [Array.getElem?_setIfInBounds_ne (by omega)]
      exact l5 j h1 h2
  · have := hg.size
    have := h.ba
    simp [World.setCell]
    omega
theorem CI.finish (h : CI w B PL nrs An gp GL n i done base v cur W) (hc : 0 < cur.length) (hd : done.length = i) : CO w B PL nrs An gp GL n (i + 1) (done ++ [cur]) W := by
  obtain ⟨cs, l1, l2, l3, l4, l5⟩ := h.lv
  obtain ⟨o1, o2, o3, o4, o5, o6⟩ := h.od
  obtain ⟨g, cap, rfl, hb, hlt, _⟩ := Kd.R_form h.row hc
  refine ⟨h.bx, h.pl, Kd.F_mono h.nr (fun k hk => hk.1), h.bl, ⟨cs, l1, l2, ?_, fun j h1 h2 => l5 j (by omega) h2⟩, o1, o2, o3⟩
  have hi : i < cs.size := by omega
  have e : cs.toList.take (i + 1) = cs.toList.take i ++ [.slice (some ⟨g, 0, none⟩) cur.length cap] := by
    have h2 : i < cs.toList.length := by simpa using hi
    rw [List.take_succ_eq_append_getElem h2]
    congr 1
    have := l4
    rw [Array.getElem?_eq_getElem hi] at this
    injection this with this
    simpa using this
  rw [e]
  refine (l3.imp_ (fun _ _ q => Kd.FK_mono q (fun k hk => hk.1))).snoc ?_ rfl
  exact Kd.FK_slice_mk (Kd.R_reads' h.row).2.1 (Kd.R_F h.row)
theorem CO.rows (h : CO w B PL nrs An gp GL n n done W) (hd : done.length = n) (hn : n ≤ 9223372036854775807) : Kd.C kL W (some ⟨GL, 0, none⟩) done.length done := by
  obtain ⟨cs, l1, l2, l3, l4⟩ := h.lv
  refine ⟨rfl, by omega, fun h0 => ⟨_, rfl, fun j p hj => ?_⟩⟩
  have hj2 : j < done.length := (List.getElem?_eq_some_iff.1 hj).1
  have := l3.2 j p hj
  refine ⟨_, ?_, Kd.FK_now this, fun q u hu => ?_⟩
  · simp [kL, Kd.slice]
    omega
  · rw [List.getElem?_take] at hu
    split at hu
    · rename_i hq
      have hq0 : q = 0 := by simpa using hq
      subst hq0
      rw [List.getElem?_drop, List.getElem?_take] at hu
      split at hu
      · rw [add_plain]
        show W.cell? ⟨GL, j * 1 + 0, none⟩ = some u
        refine (blk_cell l1 _).trans ?_
        rw [← Array.getElem?_toList]
        exact hu
      · cases hu
    · cases hu
end
def nilCells (n : Nat) : Array Value := madeCells (Value.slice none 0 0).cells (n * 1)
theorem nilCells_size (n : Nat) : (nilCells n).size = n := by unfold nilCells; rw [size_madeCells]; omega
theorem nilCells_at {n j : Nat} (h : j < n) : (nilCells n)[j]? = some (.slice none 0 0) := by
  simp [nilCells, madeCells, Value.cells, h, Nat.mod_one]
theorem run_make30 (n : Nat) (hn : n ≤ 100) (W : World) : (Instr.makeSlice 30 (.int .i64 (n : Int)) (.int .i64 (n : Int))).run Try.prog W = .ok (.slice (some ⟨W.heap.size, 0, none⟩) n n) (W.alloc (.cells (nilCells n) 42)) := by
  obtain ⟨i0, hi, hz⟩ := Option.map_eq_some_iff.1 info42
  simp only [Prod.mk.injEq] at hz
  have hr := run_make (P := Try.prog) W 30 42 i0 (.slice none 0 0) Try.underlying30 hi hz.1 .i64 .i64 (n : Int) (n : Int) (by omega) (by omega) (by rw [hz.2.2]; omega) (by omega)
  rw [hz.2.1] at hr
  simpa [nilCells] using hr
theorem below_thn {w w1 w2 : World} (h : Below w.heap.size w w1) (k : Below w1.heap.size w1 w2) : Below w.heap.size w w2 := below_then h h.size k
section
variable {w W : World} {B : Array Value} {nrs : List Int} {An : Option Addr} {cn gp : Nat}
theorem CO.first {PL : Array Value} {GL n : Nat} (hbx : W.heap[w.heap.size]? = some (.cells B 38 (0, 0))) (hpl : W.heap[gp]? = some (.cells PL 78 (0, 0))) (hgl : W.heap[GL]? = some (.cells (nilCells n) 42 (0, 0)))
    (hF : Kd.F (Kd.int .u32) W (fun k => k ≠ GL) An nrs.length nrs) (hb : Below w.heap.size w W) (ho : w.heap.size < GL ∧ w.heap.size < gp ∧ GL ≠ gp) : CO w B PL nrs An gp GL n 0 [] W :=
  ⟨hbx, hpl, hF, hb, ⟨nilCells n, hgl, by rw [nilCells_size]; exact Nat.le_refl _, by rw [List.take_zero]; exact Reps.none _ _, fun j _ h => nilCells_at h⟩, ho⟩
theorem planA (hbx : W.heap[w.heap.size]? = some (.cells B 38 (0, 0))) (hF : Kd.F (Kd.int .u32) W (fun k => k < W.heap.size) An nrs.length nrs) (hb : Below w.heap.size w W) :
    CO w B (plan78 An nrs.length cn W.heap.size nrs.length) nrs An (W.heap.size + 1) W.heap.size nrs.length 0 [] ((W.alloc (.cells (nilCells nrs.length) 42 (0, 0))).alloc (.cells (plan78 An nrs.length cn W.heap.size nrs.length) 78 (0, 0))) := by
  have h := blk_lt hbx
  exact CO.first (blk_alloc (blk_alloc hbx _) _) (blk_new1 W _ _) (blk_alloc (blk_new W _) _) (Kd.F_mono (Kd.F_alloc (Kd.F_alloc hF _) _) (fun k hk => by omega)) (below_alloc (below_alloc hb _) _) ⟨h, by omega, by omega⟩
theorem planB (hbx : W.heap[w.heap.size]? = some (.cells B 38 (0, 0))) (hF : Kd.F (Kd.int .u32) W (fun k => k < W.heap.size) An nrs.length nrs) (hb : Below w.heap.size w W) :
    CO w B (plan78 An nrs.length cn (W.heap.size + 1) nrs.length) nrs An W.heap.size (W.heap.size + 1) nrs.length 0 [] ((W.alloc (.cells (plan78 An nrs.length cn (W.heap.size + 1) nrs.length) 78 (0, 0))).alloc (.cells (nilCells nrs.length) 42 (0, 0))) := by
  have h := blk_lt hbx
  exact CO.first (blk_alloc (blk_alloc hbx _) _) (blk_alloc (blk_new W _) _) (blk_new1 W _ _) (Kd.F_mono (Kd.F_alloc (Kd.F_alloc hF _) _) (fun k hk => by omega)) (below_alloc (below_alloc hb _) _) ⟨by omega, h, by omega⟩
theorem planC (hbx : W.heap[w.heap.size]? = some (.cells B 38 (0, 0))) (hgb : W.heap[gp]? = some (.cells #[.slice none 0 0, .slice none 0 0] 78 (0, 0))) (hF : Kd.F (Kd.int .u32) W (fun k => k < W.heap.size ∧ k ≠ gp) An nrs.length nrs) (hb : Below w.heap.size w W) (hg : w.heap.size < gp) :
    CO w B (plan78 An nrs.length cn W.heap.size nrs.length) nrs An gp W.heap.size nrs.length 0 [] (((W.setCell ⟨gp, 0, none⟩ (.slice An nrs.length cn)).setCell ⟨gp, 1, none⟩ (.slice (some ⟨W.heap.size, 0, none⟩) nrs.length nrs.length)).alloc (.cells (nilCells nrs.length) 42 (0, 0))) := by
  have h := blk_lt hbx
  have h2 := blk_lt hgb
  have hz : ((W.setCell ⟨gp, 0, none⟩ (.slice An nrs.length cn)).setCell ⟨gp, 1, none⟩ (.slice (some ⟨W.heap.size, 0, none⟩) nrs.length nrs.length)).heap.size = W.heap.size := by simp
  have hn := blk_new ((W.setCell ⟨gp, 0, none⟩ (.slice An nrs.length cn)).setCell ⟨gp, 1, none⟩ (.slice (some ⟨W.heap.size, 0, none⟩) nrs.length nrs.length)) (.cells (nilCells nrs.length) 42 (0, 0))
  rw [hz] at hn
  exact CO.first (blk_alloc (blk_far (blk_far hbx (p := ⟨gp, 0, none⟩) (by show w.heap.size ≠ gp; omega) _) (p := ⟨gp, 1, none⟩) (by show w.heap.size ≠ gp; omega) _) _) (blk_alloc (blk_put (blk_put hgb 0 _ rfl) 1 _ rfl) _) hn
    (Kd.F_mono (Kd.F_alloc (Kd.F_far (Kd.F_far hF (p := ⟨gp, 0, none⟩) (fun k hk => hk.2) _) (p := ⟨gp, 1, none⟩) (fun k hk => hk.2) _) _) (fun k hk => by have := hk.1; omega))
    (below_alloc ((hb.setCell (show w.heap.size ≤ gp by omega) _).setCell (show w.heap.size ≤ gp by omega) _) _) ⟨h, hg, by omega⟩
end
theorem name_d (n : Int) : ∃ b, mean_Name.f 40 n = some (nameD n, b) := by
  rw [name_is]
  unfold nameD
  cases nameOf n <;> exact ⟨_, rfl⟩
def leafL (ot : Int) (l : List S72) (nrs : List Int) : List (List S84) := nrs.map (fun n => leafR ot l (nameD n))
theorem leafL_succ {ot : Int} {l : List S72} {nrs : List Int} {i : Nat} (h : i < nrs.length) : (leafL ot l nrs).take (i + 1) = (leafL ot l nrs).take i ++ [leafR ot l (nameD (rd nrs (i : Int)))] := by
  have h2 : i < (leafL ot l nrs).length := by simp [leafL, h]
  rw [List.take_succ_eq_append_getElem h2]
  simp [leafL, rd, List.getD_eq_getElem?_getD, h]
theorem leafL_len (ot : Int) (l : List S72) (nrs : List Int) : (leafL ot l nrs).length = nrs.length := by simp [leafL]
theorem bodyC_succ {l : List S72} {k : Nat} {nm : ByteArray} {q : S72} (h : k < l.length) (hq : l[k] = q) : bodyC (l.take (k + 1)) nm = bodyC (l.take k) nm ++ namesC q nm q.f1 := by
  rw [List.take_succ_eq_append_getElem h, hq]
  simp [bodyC]
theorem namesC_succ {q : S72} {nm : ByteArray} {ns : List ByteArray} {j : Nat} {s : ByteArray} (h : j < ns.length) (hs : ns.getD j ByteArray.empty = s) : namesC q nm (ns.take (j + 1)) = namesC q nm (ns.take j) ++ (if s.toList = nm.toList then ruleC q else []) := by
  have e : ns[j] = s := by rw [← hs]; simp [List.getD_eq_getElem?_getD, h]
  rw [List.take_succ_eq_append_getElem h, e]
  simp [namesC]
def headC (kl : Int) : List S84 := [⟨32, 0, 0, 4⟩, ⟨21, 1, 0, 3221225534⟩, ⟨6, 0, 0, kl⟩, ⟨32, 0, 0, 0⟩]
def headV (kl : Int) : List Value := [.int .u16 32, .int .u8 0, .int .u8 0, .int .u32 4, .int .u16 21, .int .u8 1, .int .u8 0, .int .u32 3221225534, .int .u16 6, .int .u8 0, .int .u8 0, .int .u32 kl, .int .u16 32, .int .u8 0, .int .u8 0, .int .u32 0]
theorem head_reps (w : World) (base : Nat) (ok : Nat → Prop) (kl : Int) : Reps (k84.M w base ok) k84.sz (headC kl) (headV kl) := by
  unfold headC headV
  repeat (refine Reps.c4 (k84_mkM w base ok _) ?_)
  exact Reps.none _ _
theorem progR_is {dk da kl ot : Int} {l : List S72} {nrs : List Int} (h1 : actV ⟨1, 0⟩ = kl) (h2 : actV ⟨dk, da⟩ = ot) (h3 : numsR l = nrs) : progR dk da l = headC kl ++ (if nrs.length = 0 then [⟨6, 0, 0, ot⟩] else partC nrs (leafL ot l nrs) 40 0 nrs.length) := by
  subst h1; subst h2; subst h3
  rfl
theorem head_R (W : World) (kl : Int) : ∃ w6 : World, W.alloc (.cells #[.int .u16 32, .int .u8 0, .int .u8 0, .int .u32 4, .int .u16 21, .int .u8 1, .int .u8 0, .int .u32 3221225534, .int .u16 6, .int .u8 0, .int .u8 0, .int .u32 kl, .int .u16 32, .int .u8 0, .int .u8 0, .int .u32 0] 84 (0, 0)) = w6 ∧
    k84.R 84 w6 W.heap.size (fun _ => True) (.slice (some ⟨W.heap.size, 0, none⟩) 4 4) (headC kl) ∧ Below W.heap.size W w6 := by
  refine ⟨_, rfl, ⟨fun _ _ => trivial, headV kl, ?_, ?_⟩, below_alloc (Below.refl _ _) _⟩
  · have h2 := World.ownsRow_lit (base := W.heap.size) (e := 84) (size := 4) W (headV kl).toArray 4 (Nat.le_refl _) (by decide) (by simp [headV])
    exact h2
  · refine (head_reps W W.heap.size (fun _ => True) kl).imp_ (fun p c hp => k84.M_mono (fun k hk => ⟨trivial, fun he => ?_⟩) (Kd.M_below (k84.M_bound hp) (below_alloc (Below.refl _ _) _)))
    have h3 : k = W.heap.size := by simpa [Value.ownBlock] using he
    have := hk.2.2.1
    omega
theorem part_calls {nrs : List Int} {L : List (List S84)} {ot : Int} {W : World} {An : Option Addr} {cn GL : Nat} {ok : Nat → Prop} (H : PlanOk nrs L ot) (h0 : 0 < nrs.length) (hF : Kd.F (Kd.int .u32) W ok An nrs.length nrs) (hcn : nrs.length ≤ cn) (hL : Kd.C kL W (some ⟨GL, 0, none⟩) L.length L) :
    Calls Try.prog 25 #[.agg #[.slice An nrs.length cn, .slice (some ⟨GL, 0, none⟩) nrs.length nrs.length], .int .i64 0, .int .i64 (nrs.length : Int)] W fun e w' => ∃ v0 : Value, e = .returned v0 ∧ k84.R 84 w' W.heap.size (fun _ => True) v0 (partC nrs L 40 0 nrs.length) ∧ Below W.heap.size W w' := by
  have h := compile_plan_part.calls 44 An cn nrs (some ⟨GL, 0, none⟩) L.length L ((0 : Nat) : Int) (nrs.length : Int) _ W (Kd.F_now hF) hcn hL (Nat.le_refl _) (part_is H 40 0 nrs.length 44 h0 (Nat.le_refl _) (by have := H.few; omega) (Nat.le_refl _))
  rw [H.len] at h
  exact h
end Go.Proofs.Ytidnojkijfinaaa.Fns
