/- A frame that is all of the bytes. -/
import Derived.Test.YtpkgpapdmjapmaaFrCount
namespace Go.Proofs.Ytpkgpapdmjapmaa.Pure
open Go.RowKit Go.Proofs.YtpkgpapdmjapmaaW.PrintWords Go.Proofs.YtpkgpapdmjapmaaW.PrintLast Go.Proofs.YtpkgpapdmjapmaaW.PrintMore Go.Proofs.Ytpkgpapdmjapmaa.SumMath Go.Proofs.Ytpkgpapdmjapmaa.Fns

theorem head_mk (B : List Int) (hb : Bytes B) (hg : bgn B = true) (h8 : 8 ≤ B.length) (hl : 8 + nn B ≤ B.length) (hs : sumv (bodyAt B (nn B)) = tS B) : B = mk (bodyAt B (nn B)) ++ B.drop (8 + nn B) := by
  obtain ⟨n1, n2, n3, _, _⟩ := bgn_long B hb hg (by omega)
  have hbl := body_length B (nn B) hl
  match B, hb, h8 with
  | a :: b :: c :: d :: e :: f :: g :: h :: l, hb, _ =>
    have hc := hb c (by simp)
    have hd := hb d (by simp)
    have he := hb e (by simp)
    have hf := hb f (by simp)
    have hgg := hb g (by simp)
    have hh := hb h (by simp)
    have ht := tN_is (a :: b :: c :: d :: e :: f :: g :: h :: l) (by rw [rd_2]; exact hc) (by rw [rd_3]; exact hd)
    rw [rd_2, rd_3] at ht
    have hts := tS_is (a :: b :: c :: d :: e :: f :: g :: h :: l) he hf hgg hh
    have hts' : tS (a :: b :: c :: d :: e :: f :: g :: h :: l) = e * 16777216 + f * 65536 + g * 256 + h := hts
    simp only [bgn, decide_eq_true_eq] at hg
    rw [hts'] at hs
    have hn : (nn (a :: b :: c :: d :: e :: f :: g :: h :: l) : Int) = c * 256 + d := by rw [← n3, ht]
    generalize nn (a :: b :: c :: d :: e :: f :: g :: h :: l) = n at *
    have hbody : bodyAt (a :: b :: c :: d :: e :: f :: g :: h :: l) n = l.take n := by
      unfold bodyAt
      rw [show 8 + n = n + 8 by omega]
      simp
    rw [hbody] at hs hbl ⊢
    unfold mk
    rw [hs, hbl, show 8 + n = n + 8 by omega]
    simp only [List.cons_append, List.nil_append, List.drop_succ_cons, List.take_append_drop]
    obtain ⟨ea, eb, _⟩ := hg
    have e2 : c = (n : Int) / 256 % 256 := by omega
    have e3 : d = (n : Int) % 256 := by omega
    have e4 : e = (e * 16777216 + f * 65536 + g * 256 + h) / 16777216 % 256 := by omega
    have e5 : f = (e * 16777216 + f * 65536 + g * 256 + h) / 65536 % 256 := by omega
    have e6 : g = (e * 16777216 + f * 65536 + g * 256 + h) / 256 % 256 := by omega
    have e7 : h = (e * 16777216 + f * 65536 + g * 256 + h) % 256 := by omega
    rw [← e2, ← e3, ← e4, ← e5, ← e6, ← e7, ea, eb]
theorem mem_costs : ∀ {l : List (List Int)} {b : List Int}, b ∈ l → 8 + b.length ≤ costs l
  | [], b, h => by simp at h
  | c :: l, b, h => by
    rcases List.mem_cons.1 h with rfl | h
    · simp only [costs]; omega
    · have := mem_costs h
      simp only [costs]; omega
/-- a body whose frame is as long as all bytes is their frame. -/
theorem drn_whole (f : Nat) (B b : List Int) (hb : Bytes B) (hm : b ∈ (drn f B).1) (hl : B.length = 8 + b.length) : B = mk b := by
  cases f with
  | zero => simp [drn] at hm
  | succ f =>
    have hr := nx_rest B hb
    cases h : (nx B).1 with
    | none => rw [drn_none f B h] at hm; simp at hm
    | some b1 =>
      rw [h] at hr
      have hr2 := hr.2
      simp only [Option.elim_some] at hr2
      rw [drn_some f B b1 h] at hm
      have hc := (drn_costs f (nx B).2.1 (fun x hx => hb x (hr.1.subset hx))).1
      rcases List.mem_cons.1 hm with rfl | hm
      · cases B with
        | nil => simp at hl; omega
        | cons x B =>
          by_cases hs : skips (x :: B)
          · rw [nx_skip x B hs] at hr2
            simp only at hr2
            omega
          · have hg : bgn (x :: B) = true := by
              cases h : bgn (x :: B) with
              | true => rfl
              | false => exact absurd (.inl h) hs
            by_cases hw : (x :: B).length < 8 ∨ (x :: B).length < 8 + nn (x :: B)
            · rw [nx_wait _ (by simp) hg hw] at h
              cases h
            · have hq : sumv (bodyAt (x :: B) (nn (x :: B))) = tS (x :: B) := by
                by_cases h : sumv (bodyAt (x :: B) (nn (x :: B))) = tS (x :: B)
                · exact h
                · exact absurd (.inr ⟨by omega, by omega, h⟩) hs
              have he := head_mk (x :: B) hb hg (by omega) (by omega) hq
              rw [nx_found _ (by simp) hg (by omega) (by omega) hq] at h
              injection h with h
              have hbl := body_length (x :: B) (nn (x :: B)) (by omega)
              rw [h] at he hbl
              rw [List.drop_eq_nil_of_le (by omega), List.append_nil] at he
              exact he
      · have := mem_costs hm
        omega
end Go.Proofs.Ytpkgpapdmjapmaa.Pure
