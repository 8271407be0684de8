/- Part of the proof of TopVerdictSaid. -/
import Derived.Test.YtidnojkijfinaaaQFns1
import Derived.Test.YtidnojkijfinaaaQTpBase
namespace Go.Proofs.Ytidnojkijfinaaa.Fns
open Go.RowKit Go.Proofs.YtidnojkijfinaaaW.PrintWords Go.Proofs.YtidnojkijfinaaaW.PrintLast Go.Proofs.YtidnojkijfinaaaW.PrintMore
attribute [local go_sem] max2_int min2_int max_two min_two max_three min_three max_four min_four
set_option linter.unusedVariables false
set_option linter.unusedSimpArgs false
structure DT where
  nr : Int
  arch : Int
  ip : Int
  a0 : Int
  a1 : Int
  a2 : Int
  a3 : Int
  a4 : Int
  a5 : Int
def DT.arg (d : DT) : Nat → Int
  | 0 => d.a0
  | 1 => d.a1
  | 2 => d.a2
  | 3 => d.a3
  | 4 => d.a4
  | _ => d.a5
def DT.cells (d : DT) : Array Value := #[.int .u32 d.nr, .int .u32 d.arch, .int .u64 d.ip, .int .u64 d.a0, .int .u64 d.a1, .int .u64 d.a2, .int .u64 d.a3, .int .u64 d.a4, .int .u64 d.a5]
def loW (n : Int) : Int := n % 4294967296
def hiW (n : Int) : Int := (n / 4294967296) % 4294967296
def DT.word (d : DT) : Nat → Int
  | 0 => d.nr
  | 1 => d.arch
  | 2 => loW d.ip
  | 3 => hiW d.ip
  | 4 => loW d.a0
  | 5 => hiW d.a0
  | 6 => loW d.a1
  | 7 => hiW d.a1
  | 8 => loW d.a2
  | 9 => hiW d.a2
  | 10 => loW d.a3
  | 11 => hiW d.a3
  | 12 => loW d.a4
  | 13 => hiW d.a4
  | 14 => loW d.a5
  | 15 => hiW d.a5
  | _ => 0
def laidAt (d : DT) (k : Nat) : List Value := (List.range 16).map fun j => .int .u32 (if j < k then d.word j else 0)
def zeros16 : Array Value := (List.replicate 16 (.int .u32 0)).toArray
theorem laid_size {d : DT} : (laidAt d 16).toArray.size = zeros16.size := rfl
theorem laid_info {d : DT} : (Try.prog.info? 181).map (·.size) = some (laidAt d 16).toArray.size := by
  have h : (Try.prog.info? 181).map (·.size) = some 16 := by kernel_rfl
  exact h
theorem laid_one (d : DT) : (laidAt d 16).toArray.all (·.oneCell') = true := by simp [laidAt, Value.oneCell']
theorem putL_get : ∀ (vs : List Value) (o : Nat) (old : Array Value), old.size = o + vs.length → ∀ j, (putL old o vs)[j]? = if j < o then old[j]? else vs[j - o]?
  | [], o, old, h, j => by
    rw [putL]
    split
    · rfl
    · rw [Array.getElem?_eq_none (by simp at h; omega)]
      rfl
  | v :: vs, o, old, h, j => by
    rw [putL, putL_get vs (o + 1) _ (by simp at h ⊢; omega)]
    rw [Array.getElem?_setIfInBounds]
    by_cases h1 : j < o
    · rw [if_pos (by omega), if_pos h1, if_neg (by omega)]
    · by_cases h2 : o = j
      · subst h2
        rw [if_pos (by omega), if_neg h1, if_pos rfl, if_pos (by simp at h; omega), Nat.sub_self]
        rfl
      · rw [if_neg (by omega), if_neg h1, show j - o = (j - (o + 1)) + 1 by omega, List.getElem?_cons_succ]
theorem putL_whole (old cells : Array Value) (h : old.size = cells.size) : putL old 0 cells.toList = cells := by
  apply Array.ext_getElem?
  intro j
  rw [putL_get _ _ _ (by simp [h])]
  simp
theorem laid_put (d : DT) : putL zeros16 0 (laidAt d 16).toArray.toList = (laidAt d 16).toArray := putL_whole _ _ laid_size.symm
theorem blk_top {W : World} {o : Obj} {g : Nat} (h : g = W.heap.size) : (W.alloc o).heap[g]? = some o := by
  subst h
  exact blk_new W o
set_option maxHeartbeats 4000000 in
set_option maxRecDepth 100000 in
theorem data_laid.calls (d : DT) (w : World) :
    Calls Try.prog 100 #[.agg d.cells] w fun e w' => e = .returned (.agg (laidAt d 16).toArray) ∧ Below w.heap.size w w' := by
  have hu27 := Try.underlying27
  have hu181 := Try.underlying181
  have hu25 := Try.underlying25
  have HB := Aside0.mk (Below.refl w.heap.size w)
  unfold DT.cells
  go_enter Try.func100, Try.ntmps100
  go_wp2_with fail
  refine (data_Halves.calls _ _ _ _ rfl).mono ?_
  rintro e w1 ⟨rfl, ⟨n, rfl⟩⟩
  go_wp2_with fail
  go_loopw [21] (fun v21 wr => ∃ k : Nat, v21 = .int .i64 (k : Int) ∧ k ≤ 6 ∧ Aside0 (wr.heap[w.heap.size + 1 + 1]? = some (.cells (laidAt d (4 + 2 * k)).toArray 181 (0, 0))) ∧ Aside0 (wr.heap[w.heap.size + 1]? = some (.cells zeros16 181 (0, 0))) ∧ Aside0 (Below w.heap.size w wr)) (fun v21 _ => 6 - (intOf v21).toNat)
  case atStart =>
    refine ⟨0, rfl, by omega, ⟨?_⟩, ⟨?_⟩, ⟨?_⟩⟩
    · exact blk_put (blk_put (blk_drewN (blk_top (by simp)) n) 2 _ rfl) 3 _ (by rfl)
    · exact blk_far (blk_far (blk_drewN (blk_alloc (blk_top (by simp)) _) n) (by simp) _) (by simp) _
    · exact ((pw_below_drewN (((HB.out.alloc (Nat.le_refl _) _).alloc (by simp) _).alloc (by simp; omega) _) n).setCell (by simp; omega) _).setCell (by simp; omega) _
  case round =>
    obtain ⟨k, rfl, hk, H1, H2, HB1⟩ := hrel
    by_cases h6 : k = 6
    · subst h6
      go_wp2_with (first
        | ((with_reducible refine gate_dst (N := 40) rfl ?_); refine wpList_load_row rfl 181 (.tmp 3) rfl (w.heap.size + 1 + 1) rfl 181 _ (0, 0) _ H1.out Try.underlying181 rfl laid_info ?_)
        | ((with_reducible refine gate_store (p := 2) rfl ?_); refine store_whole (ty := 181) (p := 2) (y := .tmp 40) (b := w.heap.size + 1) (old := zeros16) (cells := (laidAt d 16).toArray) rfl rfl rfl rfl rfl H2.out laid_size.symm laid_info (laid_one d) ?_; intro w2 hk2 hb2; have HK2 := Aside0.mk hk2; have HB2 := Aside0.mk hb2; clear hk2 hb2))
      have hk2 := HK2.out
      rw [laid_put] at hk2
      exact bodyPost_ret (results_cell_row rfl _ _ (w.heap.size + 1) 181 _ (0, 0) _ rfl hk2 Try.underlying181 rfl laid_info) rfl ⟨rfl, HB2.out _ _ (by omega) HB1.out⟩
    have hk' : k = 0 ∨ k = 1 ∨ k = 2 ∨ k = 3 ∨ k = 4 ∨ k = 5 := by omega
    clear h6 hk
    rcases hk' with rfl | rfl | rfl | rfl | rfl | rfl
    · have hix := fun W => run_index_arr (P := Try.prog) 25 24 6 #[.int .u64 d.a0, .int .u64 d.a1, .int .u64 d.a2, .int .u64 d.a3, .int .u64 d.a4, .int .u64 d.a5] .i64 0 (.int .u64 d.a0) W _ Try.underlying25 Try.underlying24 rfl (by kernel_rfl) (by omega) (by omega) rfl
      have c1 : wr.cell? ⟨w.heap.size + 1 + 1, 4, none⟩ = some (.int .u32 0) := (blk_cell H1.out 4).trans rfl
      have c2 : wr.cell? ⟨w.heap.size + 1 + 1, 5, none⟩ = some (.int .u32 0) := (blk_cell H1.out 5).trans rfl
      have f1 := blk_frozen H1.out 4
      have f2 := blk_frozen H1.out 5
      go_wp2_with fail
      refine (data_Halves.calls _ _ _ _ rfl).mono ?_
      rintro e w1 ⟨rfl, ⟨m, rfl⟩⟩
      go_wp2_with fail
      refine ⟨⟨1, by simp, by omega, ⟨?_⟩, ⟨?_⟩, ⟨?_⟩⟩, by simp [intOf]⟩
      · exact blk_put (blk_put (blk_drewN H1.out m) 4 _ rfl) 5 _ (by rfl)
      · exact blk_far (blk_far (blk_drewN H2.out m) (by simp) _) (by simp) _
      · exact ((pw_below_drewN HB1.out m).setCell (by simp; omega) _).setCell (by simp; omega) _
    · have hix := fun W => run_index_arr (P := Try.prog) 25 24 6 #[.int .u64 d.a0, .int .u64 d.a1, .int .u64 d.a2, .int .u64 d.a3, .int .u64 d.a4, .int .u64 d.a5] .i64 1 (.int .u64 d.a1) W _ Try.underlying25 Try.underlying24 rfl (by kernel_rfl) (by omega) (by omega) rfl
      have c1 : wr.cell? ⟨w.heap.size + 1 + 1, 6, none⟩ = some (.int .u32 0) := (blk_cell H1.out 6).trans rfl
      have c2 : wr.cell? ⟨w.heap.size + 1 + 1, 7, none⟩ = some (.int .u32 0) := (blk_cell H1.out 7).trans rfl
      have f1 := blk_frozen H1.out 6
      have f2 := blk_frozen H1.out 7
      go_wp2_with fail
      refine (data_Halves.calls _ _ _ _ rfl).mono ?_
      rintro e w1 ⟨rfl, ⟨m, rfl⟩⟩
      go_wp2_with fail
      refine ⟨⟨2, by simp, by omega, ⟨?_⟩, ⟨?_⟩, ⟨?_⟩⟩, by simp [intOf]⟩
      · exact blk_put (blk_put (blk_drewN H1.out m) 6 _ rfl) 7 _ (by rfl)
      · exact blk_far (blk_far (blk_drewN H2.out m) (by simp) _) (by simp) _
      · exact ((pw_below_drewN HB1.out m).setCell (by simp; omega) _).setCell (by simp; omega) _
    · have hix := fun W => run_index_arr (P := Try.prog) 25 24 6 #[.int .u64 d.a0, .int .u64 d.a1, .int .u64 d.a2, .int .u64 d.a3, .int .u64 d.a4, .int .u64 d.a5] .i64 2 (.int .u64 d.a2) W _ Try.underlying25 Try.underlying24 rfl (by kernel_rfl) (by omega) (by omega) rfl
      have c1 : wr.cell? ⟨w.heap.size + 1 + 1, 8, none⟩ = some (.int .u32 0) := (blk_cell H1.out 8).trans rfl
      have c2 : wr.cell? ⟨w.heap.size + 1 + 1, 9, none⟩ = some (.int .u32 0) := (blk_cell H1.out 9).trans rfl
      have f1 := blk_frozen H1.out 8
      have f2 := blk_frozen H1.out 9
      go_wp2_with fail
      refine (data_Halves.calls _ _ _ _ rfl).mono ?_
      rintro e w1 ⟨rfl, ⟨m, rfl⟩⟩
      go_wp2_with fail
      refine ⟨⟨3, by simp, by omega, ⟨?_⟩, ⟨?_⟩, ⟨?_⟩⟩, by simp [intOf]⟩
      · exact blk_put (blk_put (blk_drewN H1.out m) 8 _ rfl) 9 _ (by rfl)
      · exact blk_far (blk_far (blk_drewN H2.out m) (by simp) _) (by simp) _
      · exact ((pw_below_drewN HB1.out m).setCell (by simp; omega) _).setCell (by simp; omega) _
    · have hix := fun W => run_index_arr (P := Try.prog) 25 24 6 #[.int .u64 d.a0, .int .u64 d.a1, .int .u64 d.a2, .int .u64 d.a3, .int .u64 d.a4, .int .u64 d.a5] .i64 3 (.int .u64 d.a3) W _ Try.underlying25 Try.underlying24 rfl (by kernel_rfl) (by omega) (by omega) rfl
      have c1 : wr.cell? ⟨w.heap.size + 1 + 1, 10, none⟩ = some (.int .u32 0) := (blk_cell H1.out 10).trans rfl
      have c2 : wr.cell? ⟨w.heap.size + 1 + 1, 11, none⟩ = some (.int .u32 0) := (blk_cell H1.out 11).trans rfl
      have f1 := blk_frozen H1.out 10
      have f2 := blk_frozen H1.out 11
      go_wp2_with fail
      refine (data_Halves.calls _ _ _ _ rfl).mono ?_
      rintro e w1 ⟨rfl, ⟨m, rfl⟩⟩
      go_wp2_with fail
      refine ⟨⟨4, by simp, by omega, ⟨?_⟩, ⟨?_⟩, ⟨?_⟩⟩, by simp [intOf]⟩
      · exact blk_put (blk_put (blk_drewN H1.out m) 10 _ rfl) 11 _ (by rfl)
      · exact blk_far (blk_far (blk_drewN H2.out m) (by simp) _) (by simp) _
      · exact ((pw_below_drewN HB1.out m).setCell (by simp; omega) _).setCell (by simp; omega) _
    · have hix := fun W => run_index_arr (P := Try.prog) 25 24 6 #[.int .u64 d.a0, .int .u64 d.a1, .int .u64 d.a2, .int .u64 d.a3, .int .u64 d.a4, .int .u64 d.a5] .i64 4 (.int .u64 d.a4) W _ Try.underlying25 Try.underlying24 rfl (by kernel_rfl) (by omega) (by omega) rfl
      have c1 : wr.cell? ⟨w.heap.size + 1 + 1, 12, none⟩ = some (.int .u32 0) := (blk_cell H1.out 12).trans rfl
      have c2 : wr.cell? ⟨w.heap.size + 1 + 1, 13, none⟩ = some (.int .u32 0) := (blk_cell H1.out 13).trans rfl
      have f1 := blk_frozen H1.out 12
      have f2 := blk_frozen H1.out 13
      go_wp2_with fail
      refine (data_Halves.calls _ _ _ _ rfl).mono ?_
      rintro e w1 ⟨rfl, ⟨m, rfl⟩⟩
      go_wp2_with fail
      refine ⟨⟨5, by simp, by omega, ⟨?_⟩, ⟨?_⟩, ⟨?_⟩⟩, by simp [intOf]⟩
      · exact blk_put (blk_put (blk_drewN H1.out m) 12 _ rfl) 13 _ (by rfl)
      · exact blk_far (blk_far (blk_drewN H2.out m) (by simp) _) (by simp) _
      · exact ((pw_below_drewN HB1.out m).setCell (by simp; omega) _).setCell (by simp; omega) _
    · have hix := fun W => run_index_arr (P := Try.prog) 25 24 6 #[.int .u64 d.a0, .int .u64 d.a1, .int .u64 d.a2, .int .u64 d.a3, .int .u64 d.a4, .int .u64 d.a5] .i64 5 (.int .u64 d.a5) W _ Try.underlying25 Try.underlying24 rfl (by kernel_rfl) (by omega) (by omega) rfl
      have c1 : wr.cell? ⟨w.heap.size + 1 + 1, 14, none⟩ = some (.int .u32 0) := (blk_cell H1.out 14).trans rfl
      have c2 : wr.cell? ⟨w.heap.size + 1 + 1, 15, none⟩ = some (.int .u32 0) := (blk_cell H1.out 15).trans rfl
      have f1 := blk_frozen H1.out 14
      have f2 := blk_frozen H1.out 15
      go_wp2_with fail
      refine (data_Halves.calls _ _ _ _ rfl).mono ?_
      rintro e w1 ⟨rfl, ⟨m, rfl⟩⟩
      go_wp2_with fail
      refine ⟨⟨6, by simp, by omega, ⟨?_⟩, ⟨?_⟩, ⟨?_⟩⟩, by simp [intOf]⟩
      · exact blk_put (blk_put (blk_drewN H1.out m) 14 _ rfl) 15 _ (by rfl)
      · exact blk_far (blk_far (blk_drewN H2.out m) (by simp) _) (by simp) _
      · exact ((pw_below_drewN HB1.out m).setCell (by simp; omega) _).setCell (by simp; omega) _
set_option maxHeartbeats 4000000 in
set_option maxRecDepth 100000 in
theorem data_Load.calls (d : DT) (j : Nat) (at_ : Int) (w : World) (hj : j < 16) (ha : at_ = 4 * (j : Int)) :
    Calls Try.prog 97 #[.agg d.cells, .int .u32 at_] w fun e w' => e = .returned (.tuple #[.int .u32 (d.word j), .int .i64 0]) ∧ Below w.heap.size w w' := by
  have hu27 := Try.underlying27
  have hu181 := Try.underlying181
  have HB := Aside0.mk (Below.refl w.heap.size w)
  have hj' : j = 0 ∨ j = 1 ∨ j = 2 ∨ j = 3 ∨ j = 4 ∨ j = 5 ∨ j = 6 ∨ j = 7 ∨ j = 8 ∨ j = 9 ∨ j = 10 ∨ j = 11 ∨ j = 12 ∨ j = 13 ∨ j = 14 ∨ j = 15 := by omega
  clear hj
  rcases hj' with rfl | rfl | rfl | rfl | rfl | rfl | rfl | rfl | rfl | rfl | rfl | rfl | rfl | rfl | rfl | rfl
  · obtain rfl : at_ = 0 := ha
    have hix := fun W => run_index_arr (P := Try.prog) 181 23 16 (laidAt d 16).toArray .u32 0 (.int .u32 (d.word 0)) W _ Try.underlying181 Try.underlying23 rfl (by kernel_rfl) (by omega) (by omega) rfl
    have HX := Aside0.mk hix
    clear hix
    unfold DT.cells
    go_enter Try.func97, Try.ntmps97
    go_wp2_with fail
    refine (data_laid.calls d _).mono ?_
    rintro e w1 ⟨rfl, hb⟩
    have HB1 := Aside0.mk hb
    clear hb
    generalize (laidAt d 16).toArray = A at HX
    have hix := HX.out
    go_wp2
    go_ret2
    exact ⟨rfl, below_then (below_alloc HB.out _) (by simp) HB1.out⟩
  · obtain rfl : at_ = 4 := ha
    have hix := fun W => run_index_arr (P := Try.prog) 181 23 16 (laidAt d 16).toArray .u32 1 (.int .u32 (d.word 1)) W _ Try.underlying181 Try.underlying23 rfl (by kernel_rfl) (by omega) (by omega) rfl
    have HX := Aside0.mk hix
    clear hix
    unfold DT.cells
    go_enter Try.func97, Try.ntmps97
    go_wp2_with fail
    refine (data_laid.calls d _).mono ?_
    rintro e w1 ⟨rfl, hb⟩
    have HB1 := Aside0.mk hb
    clear hb
    generalize (laidAt d 16).toArray = A at HX
    have hix := HX.out
    go_wp2
    go_ret2
    exact ⟨rfl, below_then (below_alloc HB.out _) (by simp) HB1.out⟩
  · obtain rfl : at_ = 8 := ha
    have hix := fun W => run_index_arr (P := Try.prog) 181 23 16 (laidAt d 16).toArray .u32 2 (.int .u32 (d.word 2)) W _ Try.underlying181 Try.underlying23 rfl (by kernel_rfl) (by omega) (by omega) rfl
    have HX := Aside0.mk hix
    clear hix
    unfold DT.cells
    go_enter Try.func97, Try.ntmps97
    go_wp2_with fail
    refine (data_laid.calls d _).mono ?_
    rintro e w1 ⟨rfl, hb⟩
    have HB1 := Aside0.mk hb
    clear hb
    generalize (laidAt d 16).toArray = A at HX
    have hix := HX.out
    go_wp2
    go_ret2
    exact ⟨rfl, below_then (below_alloc HB.out _) (by simp) HB1.out⟩
  · obtain rfl : at_ = 12 := ha
    have hix := fun W => run_index_arr (P := Try.prog) 181 23 16 (laidAt d 16).toArray .u32 3 (.int .u32 (d.word 3)) W _ Try.underlying181 Try.underlying23 rfl (by kernel_rfl) (by omega) (by omega) rfl
    have HX := Aside0.mk hix
    clear hix
    unfold DT.cells
    go_enter Try.func97, Try.ntmps97
    go_wp2_with fail
    refine (data_laid.calls d _).mono ?_
    rintro e w1 ⟨rfl, hb⟩
    have HB1 := Aside0.mk hb
    clear hb
    generalize (laidAt d 16).toArray = A at HX
    have hix := HX.out
    go_wp2
    go_ret2
    exact ⟨rfl, below_then (below_alloc HB.out _) (by simp) HB1.out⟩
  · obtain rfl : at_ = 16 := ha
    have hix := fun W => run_index_arr (P := Try.prog) 181 23 16 (laidAt d 16).toArray .u32 4 (.int .u32 (d.word 4)) W _ Try.underlying181 Try.underlying23 rfl (by kernel_rfl) (by omega) (by omega) rfl
    have HX := Aside0.mk hix
    clear hix
    unfold DT.cells
    go_enter Try.func97, Try.ntmps97
    go_wp2_with fail
    refine (data_laid.calls d _).mono ?_
    rintro e w1 ⟨rfl, hb⟩
    have HB1 := Aside0.mk hb
    clear hb
    generalize (laidAt d 16).toArray = A at HX
    have hix := HX.out
    go_wp2
    go_ret2
    exact ⟨rfl, below_then (below_alloc HB.out _) (by simp) HB1.out⟩
  · obtain rfl : at_ = 20 := ha
    have hix := fun W => run_index_arr (P := Try.prog) 181 23 16 (laidAt d 16).toArray .u32 5 (.int .u32 (d.word 5)) W _ Try.underlying181 Try.underlying23 rfl (by kernel_rfl) (by omega) (by omega) rfl
    have HX := Aside0.mk hix
    clear hix
    unfold DT.cells
    go_enter Try.func97, Try.ntmps97
    go_wp2_with fail
    refine (data_laid.calls d _).mono ?_
    rintro e w1 ⟨rfl, hb⟩
    have HB1 := Aside0.mk hb
    clear hb
    generalize (laidAt d 16).toArray = A at HX
    have hix := HX.out
    go_wp2
    go_ret2
    exact ⟨rfl, below_then (below_alloc HB.out _) (by simp) HB1.out⟩
  · obtain rfl : at_ = 24 := ha
    have hix := fun W => run_index_arr (P := Try.prog) 181 23 16 (laidAt d 16).toArray .u32 6 (.int .u32 (d.word 6)) W _ Try.underlying181 Try.underlying23 rfl (by kernel_rfl) (by omega) (by omega) rfl
    have HX := Aside0.mk hix
    clear hix
    unfold DT.cells
    go_enter Try.func97, Try.ntmps97
    go_wp2_with fail
    refine (data_laid.calls d _).mono ?_
    rintro e w1 ⟨rfl, hb⟩
    have HB1 := Aside0.mk hb
    clear hb
    generalize (laidAt d 16).toArray = A at HX
    have hix := HX.out
    go_wp2
    go_ret2
    exact ⟨rfl, below_then (below_alloc HB.out _) (by simp) HB1.out⟩
  · obtain rfl : at_ = 28 := ha
    have hix := fun W => run_index_arr (P := Try.prog) 181 23 16 (laidAt d 16).toArray .u32 7 (.int .u32 (d.word 7)) W _ Try.underlying181 Try.underlying23 rfl (by kernel_rfl) (by omega) (by omega) rfl
    have HX := Aside0.mk hix
    clear hix
    unfold DT.cells
    go_enter Try.func97, Try.ntmps97
    go_wp2_with fail
    refine (data_laid.calls d _).mono ?_
    rintro e w1 ⟨rfl, hb⟩
    have HB1 := Aside0.mk hb
    clear hb
    generalize (laidAt d 16).toArray = A at HX
    have hix := HX.out
    go_wp2
    go_ret2
    exact ⟨rfl, below_then (below_alloc HB.out _) (by simp) HB1.out⟩
  · obtain rfl : at_ = 32 := ha
    have hix := fun W => run_index_arr (P := Try.prog) 181 23 16 (laidAt d 16).toArray .u32 8 (.int .u32 (d.word 8)) W _ Try.underlying181 Try.underlying23 rfl (by kernel_rfl) (by omega) (by omega) rfl
    have HX := Aside0.mk hix
    clear hix
    unfold DT.cells
    go_enter Try.func97, Try.ntmps97
    go_wp2_with fail
    refine (data_laid.calls d _).mono ?_
    rintro e w1 ⟨rfl, hb⟩
    have HB1 := Aside0.mk hb
    clear hb
    generalize (laidAt d 16).toArray = A at HX
    have hix := HX.out
    go_wp2
    go_ret2
    exact ⟨rfl, below_then (below_alloc HB.out _) (by simp) HB1.out⟩
  · obtain rfl : at_ = 36 := ha
    have hix := fun W => run_index_arr (P := Try.prog) 181 23 16 (laidAt d 16).toArray .u32 9 (.int .u32 (d.word 9)) W _ Try.underlying181 Try.underlying23 rfl (by kernel_rfl) (by omega) (by omega) rfl
    have HX := Aside0.mk hix
    clear hix
    unfold DT.cells
    go_enter Try.func97, Try.ntmps97
    go_wp2_with fail
    refine (data_laid.calls d _).mono ?_
    rintro e w1 ⟨rfl, hb⟩
    have HB1 := Aside0.mk hb
    clear hb
    generalize (laidAt d 16).toArray = A at HX
    have hix := HX.out
    go_wp2
    go_ret2
    exact ⟨rfl, below_then (below_alloc HB.out _) (by simp) HB1.out⟩
  · obtain rfl : at_ = 40 := ha
    have hix := fun W => run_index_arr (P := Try.prog) 181 23 16 (laidAt d 16).toArray .u32 10 (.int .u32 (d.word 10)) W _ Try.underlying181 Try.underlying23 rfl (by kernel_rfl) (by omega) (by omega) rfl
    have HX := Aside0.mk hix
    clear hix
    unfold DT.cells
    go_enter Try.func97, Try.ntmps97
    go_wp2_with fail
    refine (data_laid.calls d _).mono ?_
    rintro e w1 ⟨rfl, hb⟩
    have HB1 := Aside0.mk hb
    clear hb
    generalize (laidAt d 16).toArray = A at HX
    have hix := HX.out
    go_wp2
    go_ret2
    exact ⟨rfl, below_then (below_alloc HB.out _) (by simp) HB1.out⟩
  · obtain rfl : at_ = 44 := ha
    have hix := fun W => run_index_arr (P := Try.prog) 181 23 16 (laidAt d 16).toArray .u32 11 (.int .u32 (d.word 11)) W _ Try.underlying181 Try.underlying23 rfl (by kernel_rfl) (by omega) (by omega) rfl
    have HX := Aside0.mk hix
    clear hix
    unfold DT.cells
    go_enter Try.func97, Try.ntmps97
    go_wp2_with fail
    refine (data_laid.calls d _).mono ?_
    rintro e w1 ⟨rfl, hb⟩
    have HB1 := Aside0.mk hb
    clear hb
    generalize (laidAt d 16).toArray = A at HX
    have hix := HX.out
    go_wp2
    go_ret2
    exact ⟨rfl, below_then (below_alloc HB.out _) (by simp) HB1.out⟩
  · obtain rfl : at_ = 48 := ha
    have hix := fun W => run_index_arr (P := Try.prog) 181 23 16 (laidAt d 16).toArray .u32 12 (.int .u32 (d.word 12)) W _ Try.underlying181 Try.underlying23 rfl (by kernel_rfl) (by omega) (by omega) rfl
    have HX := Aside0.mk hix
    clear hix
    unfold DT.cells
    go_enter Try.func97, Try.ntmps97
    go_wp2_with fail
    refine (data_laid.calls d _).mono ?_
    rintro e w1 ⟨rfl, hb⟩
    have HB1 := Aside0.mk hb
    clear hb
    generalize (laidAt d 16).toArray = A at HX
    have hix := HX.out
    go_wp2
    go_ret2
    exact ⟨rfl, below_then (below_alloc HB.out _) (by simp) HB1.out⟩
  · obtain rfl : at_ = 52 := ha
    have hix := fun W => run_index_arr (P := Try.prog) 181 23 16 (laidAt d 16).toArray .u32 13 (.int .u32 (d.word 13)) W _ Try.underlying181 Try.underlying23 rfl (by kernel_rfl) (by omega) (by omega) rfl
    have HX := Aside0.mk hix
    clear hix
    unfold DT.cells
    go_enter Try.func97, Try.ntmps97
    go_wp2_with fail
    refine (data_laid.calls d _).mono ?_
    rintro e w1 ⟨rfl, hb⟩
    have HB1 := Aside0.mk hb
    clear hb
    generalize (laidAt d 16).toArray = A at HX
    have hix := HX.out
    go_wp2
    go_ret2
    exact ⟨rfl, below_then (below_alloc HB.out _) (by simp) HB1.out⟩
  · obtain rfl : at_ = 56 := ha
    have hix := fun W => run_index_arr (P := Try.prog) 181 23 16 (laidAt d 16).toArray .u32 14 (.int .u32 (d.word 14)) W _ Try.underlying181 Try.underlying23 rfl (by kernel_rfl) (by omega) (by omega) rfl
    have HX := Aside0.mk hix
    clear hix
    unfold DT.cells
    go_enter Try.func97, Try.ntmps97
    go_wp2_with fail
    refine (data_laid.calls d _).mono ?_
    rintro e w1 ⟨rfl, hb⟩
    have HB1 := Aside0.mk hb
    clear hb
    generalize (laidAt d 16).toArray = A at HX
    have hix := HX.out
    go_wp2
    go_ret2
    exact ⟨rfl, below_then (below_alloc HB.out _) (by simp) HB1.out⟩
  · obtain rfl : at_ = 60 := ha
    have hix := fun W => run_index_arr (P := Try.prog) 181 23 16 (laidAt d 16).toArray .u32 15 (.int .u32 (d.word 15)) W _ Try.underlying181 Try.underlying23 rfl (by kernel_rfl) (by omega) (by omega) rfl
    have HX := Aside0.mk hix
    clear hix
    unfold DT.cells
    go_enter Try.func97, Try.ntmps97
    go_wp2_with fail
    refine (data_laid.calls d _).mono ?_
    rintro e w1 ⟨rfl, hb⟩
    have HB1 := Aside0.mk hb
    clear hb
    generalize (laidAt d 16).toArray = A at HX
    have hix := HX.out
    go_wp2
    go_ret2
    exact ⟨rfl, below_then (below_alloc HB.out _) (by simp) HB1.out⟩
end Go.Proofs.Ytidnojkijfinaaa.Fns
