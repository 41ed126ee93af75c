/- jalousieref07.Same, jalousieref11.has -/
import Derived.Test.YtopmghfjdpdncaaDoorF8
set_option linter.unusedSimpArgs false
set_option linter.unusedVariables false
namespace Go.Lw
open Go Go.Proofs Go.RowKit
variable {G : List (Nat × List V)}
attribute [local irreducible] LW callK LC lany lrun ldo oK oK2 oKH gK yieldK LY

theorem same_LC (a b : List ByteArray) (ha : a.length < 4611686018427387904) (H : List LB) : LC Tryd.prog G 9 [ssl a, ssl b] H fun v H' => v = .b (decide (a = b)) ∧ H' = H := by
  refine LC.of_walk Tryd.f9 26 (by kernel_rfl) (by kernel_rfl) rfl rfl fun Z hZ => ?_
  repeat (first | refine LW.seq_ops ?_ | refine lrun_end ?_ | (refine lrun_step (by decide) ?_; intro K hK; simp [ssl, llen]; refine hK _ _ ?_; clear hK K) | (refine lrun_stepG rfl (by decide) (by decide) ?_; intro K hK; simp [ssl, llen]; refine hK _ _ ?_; clear hK K) | (refine lrun_stepN ?_; intro K hK; simp [ssl, llen]; refine hK _ _ ?_; clear hK K) | refine LW.seq ?_ | refine LW.block ?_ | refine LW.ops ?_ | refine LW.skip ?_ | refine LW.ret ?_ | refine LW.exit ?_ | refine LW.label ?_ | refine thn_n ?_ | refine thn_r ?_ | refine thn_e ?_ | refine inb_n ?_ | refine inb_r ?_ | refine inb_x ?_ | refine inb_e (by decide) ?_ | (refine LW.ct ?_ ?_; · simp [ssl, llen]; done) | (refine LW.cf ?_ ?_; · simp [ssl, llen]; done) | fail)
  refine LW.dec (p := ¬ (a.length : Int) = b.length) (by simp) (fun h1 => ?_) (fun h1 => ?_)
  · have hab : a ≠ b := fun e => h1 (by rw [e])
    repeat (first | refine LW.seq_ops ?_ | refine lrun_end ?_ | (refine lrun_step (by decide) ?_; intro K hK; simp; refine hK _ _ ?_; clear hK K) | (refine lrun_stepG rfl (by decide) (by decide) ?_; intro K hK; simp; refine hK _ _ ?_; clear hK K) | (refine lrun_stepN ?_; intro K hK; simp; refine hK _ _ ?_; clear hK K) | refine LW.seq ?_ | refine LW.block ?_ | refine LW.ops ?_ | refine LW.skip ?_ | refine LW.ret ?_ | refine LW.exit ?_ | refine LW.label ?_ | refine thn_n ?_ | refine thn_r ?_ | refine thn_e ?_ | refine inb_n ?_ | refine inb_r ?_ | refine inb_x ?_ | refine inb_e (by decide) ?_ | (refine LW.ct ?_ ?_; · simp; done) | (refine LW.cf ?_ ?_; · simp; done) | fail)
    refine hZ _ _ ⟨.inr rfl, .b false, by simp [lres, lres1, Tryd.f9], .inl ⟨by simp [hab], rfl⟩⟩
  · have hl : a.length = b.length := by omega
    repeat (first | refine LW.seq_ops ?_ | refine lrun_end ?_ | (refine lrun_step (by decide) ?_; intro K hK; simp; refine hK _ _ ?_; clear hK K) | (refine lrun_stepG rfl (by decide) (by decide) ?_; intro K hK; simp; refine hK _ _ ?_; clear hK K) | (refine lrun_stepN ?_; intro K hK; simp; refine hK _ _ ?_; clear hK K) | refine LW.seq ?_ | refine LW.block ?_ | refine LW.ops ?_ | refine LW.skip ?_ | refine LW.ret ?_ | refine LW.exit ?_ | refine LW.label ?_ | refine thn_n ?_ | refine thn_r ?_ | refine thn_e ?_ | refine inb_n ?_ | refine inb_r ?_ | refine inb_x ?_ | refine inb_e (by decide) ?_ | (refine LW.ct ?_ ?_; · simp; done) | (refine LW.cf ?_ ?_; · simp; done) | fail)
    refine LW.loopN (fun m s => ∃ i : Nat, i ≤ a.length ∧ m = a.length - i ∧ s.t 0 = ssl a ∧ s.t 1 = ssl b ∧ s.t 5 = .i .i64 i ∧ s.H = H ∧ ∀ k, k < i → a[k]? = b[k]?) (m := a.length)
      ⟨0, by omega, by omega, by simp [ssl], by simp [ssl], by simp, rfl, fun k hk => by omega⟩ ?_
    rintro m ⟨t, H'⟩ ⟨i, hi, rfl, h0, h1, h5, rfl, heq⟩
    dsimp only at h0 h1 h5 hi
    refine LW.toK fun Z2 hZ2 => ?_
    repeat (first | refine LW.seq_ops ?_ | refine lrun_end ?_ | (refine lrun_step (by decide) ?_; intro K hK; simp [h0, h1, h5, ssl, llen]; refine hK _ _ ?_; clear hK K) | (refine lrun_stepG rfl (by decide) (by decide) ?_; intro K hK; simp [h0, h1, h5, ssl, llen]; refine hK _ _ ?_; clear hK K) | (refine lrun_stepN ?_; intro K hK; simp [h0, h1, h5, ssl, llen]; refine hK _ _ ?_; clear hK K) | refine LW.seq ?_ | refine LW.block ?_ | refine LW.ops ?_ | refine LW.skip ?_ | refine LW.ret ?_ | refine LW.exit ?_ | refine LW.label ?_ | refine thn_n ?_ | refine thn_r ?_ | refine thn_e ?_ | refine inb_n ?_ | refine inb_r ?_ | refine inb_x ?_ | refine inb_e (by decide) ?_ | (refine LW.ct ?_ ?_; · simp [h0, h1, h5, ssl, llen]; done) | (refine LW.cf ?_ ?_; · simp [h0, h1, h5, ssl, llen]; done) | fail)
    refine LW.dec (p := i < a.length) (by simp) (fun h2 => ?_) (fun h2 => ?_)
    rotate_left
    · have hab : a = b := List.ext_getElem? fun k => by
        rcases Nat.lt_or_ge k i with hk | hk
        · exact heq k hk
        · rw [List.getElem?_eq_none (by omega), List.getElem?_eq_none (by omega)]
      repeat (first | refine LW.seq_ops ?_ | refine lrun_end ?_ | (refine lrun_step (by decide) ?_; intro K hK; simp; refine hK _ _ ?_; clear hK K) | (refine lrun_stepG rfl (by decide) (by decide) ?_; intro K hK; simp; refine hK _ _ ?_; clear hK K) | (refine lrun_stepN ?_; intro K hK; simp; refine hK _ _ ?_; clear hK K) | refine LW.seq ?_ | refine LW.block ?_ | refine LW.ops ?_ | refine LW.skip ?_ | refine LW.ret ?_ | refine LW.exit ?_ | refine LW.label ?_ | refine thn_n ?_ | refine thn_r ?_ | refine thn_e ?_ | refine inb_n ?_ | refine inb_r ?_ | refine inb_x ?_ | refine inb_e (by decide) ?_ | (refine LW.ct ?_ ?_; · simp; done) | (refine LW.cf ?_ ?_; · simp; done) | fail)
      refine hZ2 _ _ ?_
      repeat (first | refine LW.seq_ops ?_ | refine lrun_end ?_ | (refine lrun_step (by decide) ?_; intro K hK; simp; refine hK _ _ ?_; clear hK K) | (refine lrun_stepG rfl (by decide) (by decide) ?_; intro K hK; simp; refine hK _ _ ?_; clear hK K) | (refine lrun_stepN ?_; intro K hK; simp; refine hK _ _ ?_; clear hK K) | refine LW.seq ?_ | refine LW.block ?_ | refine LW.ops ?_ | refine LW.skip ?_ | refine LW.ret ?_ | refine LW.exit ?_ | refine LW.label ?_ | refine thn_n ?_ | refine thn_r ?_ | refine thn_e ?_ | refine inb_n ?_ | refine inb_r ?_ | refine inb_x ?_ | refine inb_e (by decide) ?_ | (refine LW.ct ?_ ?_; · simp; done) | (refine LW.cf ?_ ?_; · simp; done) | fail)
      refine hZ _ _ ⟨.inr rfl, .b true, by simp [lres, lres1, Tryd.f9], .inl ⟨by simp [hab], rfl⟩⟩
    · have h2b : i < b.length := by omega
      repeat (first | refine LW.seq_ops ?_ | refine lrun_end ?_ | (refine lrun_step (by decide) ?_; intro K hK; simp; refine hK _ _ ?_; clear hK K) | (refine lrun_stepG rfl (by decide) (by decide) ?_; intro K hK; simp; refine hK _ _ ?_; clear hK K) | (refine lrun_stepN ?_; intro K hK; simp; refine hK _ _ ?_; clear hK K) | refine LW.seq ?_ | refine LW.block ?_ | refine LW.ops ?_ | refine LW.skip ?_ | refine LW.ret ?_ | refine LW.exit ?_ | refine LW.label ?_ | refine thn_n ?_ | refine thn_r ?_ | refine thn_e ?_ | refine inb_n ?_ | refine inb_r ?_ | refine inb_x ?_ | refine inb_e (by decide) ?_ | (refine LW.ct ?_ ?_; · simp; done) | (refine LW.cf ?_ ?_; · simp; done) | fail)
      first | refine LW.seq_draw (by kernel_rfl) ?_ | refine LW.draw (by kernel_rfl) ?_
      refine lany_qK 0 rfl (by kernel_rfl) rfl rfl (by decide) ?_; intro K hK; simp [h0, h1, h5, ssl, liaddr, rdv, h2, h2b]; refine hK _ ?_; clear hK K
      refine lany_qK 1 rfl (by kernel_rfl) rfl rfl (by decide) ?_; intro K hK; simp [h0, h1, h5, ssl, liaddr, rdv, h2, h2b]; refine hK _ ?_; clear hK K
      refine lany_qK 2 rfl (by kernel_rfl) rfl rfl (by decide) ?_; intro K hK; simp [h0, h1, h5, ssl, liaddr, rdv, h2, h2b]; refine hK _ ?_; clear hK K
      refine lany_qK 3 rfl (by kernel_rfl) rfl rfl (by decide) ?_; intro K hK; simp [h0, h1, h5, ssl, liaddr, rdv, h2, h2b]; refine hK _ ?_; clear hK K
      refine lany_qK 4 rfl (by kernel_rfl) rfl rfl (by decide) ?_; intro K hK; simp [h0, h1, h5, ssl, liaddr, rdv, h2, h2b]; refine hK _ ?_; clear hK K
      refine lany_qK 5 rfl (by kernel_rfl) rfl rfl (by decide) ?_; intro K hK; simp [h0, h1, h5, ssl, liaddr, rdv, h2, h2b]; refine hK _ ?_; clear hK K
      refine lany_qK 6 rfl (by kernel_rfl) rfl rfl (by decide) ?_; intro K hK; simp [h0, h1, h5, ssl, liaddr, rdv, h2, h2b]; refine hK _ ?_; clear hK K
      refine lany_qK 7 rfl (by kernel_rfl) rfl rfl (by decide) ?_; intro K hK; simp [h0, h1, h5, ssl, liaddr, rdv, h2, h2b]; refine hK _ ?_; clear hK K
      refine lany_qK 8 rfl (by kernel_rfl) rfl rfl (by decide) ?_; intro K hK; simp [h0, h1, h5, ssl, liaddr, rdv, h2, h2b]; refine hK _ ?_; clear hK K
      refine lany_done (by kernel_rfl) ?_ _
      refine LW.dec (p := ¬ a[i] = b[i]) (by simp) (fun h3 => ?_) (fun h3 => ?_)
      · have hab : a ≠ b := fun e => h3 (by simp [e])
        repeat (first | refine LW.seq_ops ?_ | refine lrun_end ?_ | (refine lrun_step (by decide) ?_; intro K hK; simp; refine hK _ _ ?_; clear hK K) | (refine lrun_stepG rfl (by decide) (by decide) ?_; intro K hK; simp; refine hK _ _ ?_; clear hK K) | (refine lrun_stepN ?_; intro K hK; simp; refine hK _ _ ?_; clear hK K) | refine LW.seq ?_ | refine LW.block ?_ | refine LW.ops ?_ | refine LW.skip ?_ | refine LW.ret ?_ | refine LW.exit ?_ | refine LW.label ?_ | refine thn_n ?_ | refine thn_r ?_ | refine thn_e ?_ | refine inb_n ?_ | refine inb_r ?_ | refine inb_x ?_ | refine inb_e (by decide) ?_ | (refine LW.ct ?_ ?_; · simp; done) | (refine LW.cf ?_ ?_; · simp; done) | fail)
        refine hZ2 _ _ ?_
        repeat (first | refine LW.seq_ops ?_ | refine lrun_end ?_ | (refine lrun_step (by decide) ?_; intro K hK; simp; refine hK _ _ ?_; clear hK K) | (refine lrun_stepG rfl (by decide) (by decide) ?_; intro K hK; simp; refine hK _ _ ?_; clear hK K) | (refine lrun_stepN ?_; intro K hK; simp; refine hK _ _ ?_; clear hK K) | refine LW.seq ?_ | refine LW.block ?_ | refine LW.ops ?_ | refine LW.skip ?_ | refine LW.ret ?_ | refine LW.exit ?_ | refine LW.label ?_ | refine thn_n ?_ | refine thn_r ?_ | refine thn_e ?_ | refine inb_n ?_ | refine inb_r ?_ | refine inb_x ?_ | refine inb_e (by decide) ?_ | (refine LW.ct ?_ ?_; · simp; done) | (refine LW.cf ?_ ?_; · simp; done) | fail)
        refine hZ _ _ ⟨.inr rfl, .b false, by simp [lres, lres1, Tryd.f9], .inl ⟨by simp [hab], rfl⟩⟩
      · repeat (first | refine LW.seq_ops ?_ | refine lrun_end ?_ | (refine lrun_step (by decide) ?_; intro K hK; simp [h5]; refine hK _ _ ?_; clear hK K) | (refine lrun_stepG rfl (by decide) (by decide) ?_; intro K hK; simp [h5]; refine hK _ _ ?_; clear hK K) | (refine lrun_stepN ?_; intro K hK; simp [h5]; refine hK _ _ ?_; clear hK K) | refine LW.seq ?_ | refine LW.block ?_ | refine LW.ops ?_ | refine LW.skip ?_ | refine LW.ret ?_ | refine LW.exit ?_ | refine LW.label ?_ | refine thn_n ?_ | refine thn_r ?_ | refine thn_e ?_ | refine inb_n ?_ | refine inb_r ?_ | refine inb_x ?_ | refine inb_e (by decide) ?_ | (refine LW.ct ?_ ?_; · simp [h5]; done) | (refine LW.cf ?_ ?_; · simp [h5]; done) | fail)
        rw [wrap_i64 (by omega) (by omega)]
        refine hZ2 _ _ ⟨a.length - (i + 1), by omega, i + 1, by omega, rfl, by simp [h0], by simp [h1], by simp, rfl, fun k hk => ?_⟩
        rcases Nat.lt_or_ge k i with hk' | hk'
        · exact heq k hk'
        · obtain rfl : k = i := by omega
          rw [List.getElem?_eq_getElem h2, List.getElem?_eq_getElem h2b]
          exact congrArg some (Classical.not_not.1 h3)

theorem has_LC (l : List Int) (n : Int) (hl : l.length < 4611686018427387904) (H : List LB) : LC Tryd.prog G 21 [isl l, .i .i64 n] H fun v H' => v = .b (decide (n ∈ l)) ∧ H' = H := by
  refine LC.of_walk Tryd.f21 18 (by kernel_rfl) (by kernel_rfl) rfl rfl fun Z hZ => ?_
  repeat (first | refine LW.seq_ops ?_ | refine lrun_end ?_ | (refine lrun_step (by decide) ?_; intro K hK; simp; refine hK _ _ ?_; clear hK K) | (refine lrun_stepG rfl (by decide) (by decide) ?_; intro K hK; simp; refine hK _ _ ?_; clear hK K) | (refine lrun_stepN ?_; intro K hK; simp; refine hK _ _ ?_; clear hK K) | refine LW.seq ?_ | refine LW.block ?_ | refine LW.ops ?_ | refine LW.skip ?_ | refine LW.ret ?_ | refine LW.exit ?_ | refine LW.label ?_ | refine thn_n ?_ | refine thn_r ?_ | refine thn_e ?_ | refine inb_n ?_ | refine inb_r ?_ | refine inb_x ?_ | refine inb_e (by decide) ?_ | (refine LW.ct ?_ ?_; · simp; done) | (refine LW.cf ?_ ?_; · simp; done) | fail)
  refine LW.loopN (fun m s => ∃ i : Nat, i ≤ l.length ∧ m = l.length - i ∧ s.t 0 = isl l ∧ s.t 1 = .i .i64 n ∧ s.t 5 = .i .i64 i ∧ s.H = H ∧ ∀ k, k < i → l[k]? ≠ some n) (m := l.length)
    ⟨0, by omega, by omega, by simp, by simp, by simp, rfl, fun k hk => by omega⟩ ?_
  rintro m ⟨t, H'⟩ ⟨i, hi, rfl, h0, h1, h5, rfl, heq⟩
  dsimp only at h0 h1 h5 hi
  refine LW.toK fun Z2 hZ2 => ?_
  repeat (first | refine LW.seq_ops ?_ | refine lrun_end ?_ | (refine lrun_step (by decide) ?_; intro K hK; simp [h0, h1, h5, isl, llen]; refine hK _ _ ?_; clear hK K) | (refine lrun_stepG rfl (by decide) (by decide) ?_; intro K hK; simp [h0, h1, h5, isl, llen]; refine hK _ _ ?_; clear hK K) | (refine lrun_stepN ?_; intro K hK; simp [h0, h1, h5, isl, llen]; refine hK _ _ ?_; clear hK K) | refine LW.seq ?_ | refine LW.block ?_ | refine LW.ops ?_ | refine LW.skip ?_ | refine LW.ret ?_ | refine LW.exit ?_ | refine LW.label ?_ | refine thn_n ?_ | refine thn_r ?_ | refine thn_e ?_ | refine inb_n ?_ | refine inb_r ?_ | refine inb_x ?_ | refine inb_e (by decide) ?_ | (refine LW.ct ?_ ?_; · simp [h0, h1, h5, isl, llen]; done) | (refine LW.cf ?_ ?_; · simp [h0, h1, h5, isl, llen]; done) | fail)
  refine LW.dec (p := i < l.length) (by simp) (fun h2 => ?_) (fun h2 => ?_)
  rotate_left
  · have hn : n ∉ l := fun hm => by
      obtain ⟨k, hk⟩ := List.getElem?_of_mem hm
      have := (List.getElem?_eq_some_iff.1 hk).1
      exact heq k (by omega) hk
    repeat (first | refine LW.seq_ops ?_ | refine lrun_end ?_ | (refine lrun_step (by decide) ?_; intro K hK; simp; refine hK _ _ ?_; clear hK K) | (refine lrun_stepG rfl (by decide) (by decide) ?_; intro K hK; simp; refine hK _ _ ?_; clear hK K) | (refine lrun_stepN ?_; intro K hK; simp; refine hK _ _ ?_; clear hK K) | refine LW.seq ?_ | refine LW.block ?_ | refine LW.ops ?_ | refine LW.skip ?_ | refine LW.ret ?_ | refine LW.exit ?_ | refine LW.label ?_ | refine thn_n ?_ | refine thn_r ?_ | refine thn_e ?_ | refine inb_n ?_ | refine inb_r ?_ | refine inb_x ?_ | refine inb_e (by decide) ?_ | (refine LW.ct ?_ ?_; · simp; done) | (refine LW.cf ?_ ?_; · simp; done) | fail)
    refine hZ2 _ _ ?_
    repeat (first | refine LW.seq_ops ?_ | refine lrun_end ?_ | (refine lrun_step (by decide) ?_; intro K hK; simp; refine hK _ _ ?_; clear hK K) | (refine lrun_stepG rfl (by decide) (by decide) ?_; intro K hK; simp; refine hK _ _ ?_; clear hK K) | (refine lrun_stepN ?_; intro K hK; simp; refine hK _ _ ?_; clear hK K) | refine LW.seq ?_ | refine LW.block ?_ | refine LW.ops ?_ | refine LW.skip ?_ | refine LW.ret ?_ | refine LW.exit ?_ | refine LW.label ?_ | refine thn_n ?_ | refine thn_r ?_ | refine thn_e ?_ | refine inb_n ?_ | refine inb_r ?_ | refine inb_x ?_ | refine inb_e (by decide) ?_ | (refine LW.ct ?_ ?_; · simp; done) | (refine LW.cf ?_ ?_; · simp; done) | fail)
    refine hZ _ _ ⟨.inr rfl, .b false, by simp [lres, lres1, Tryd.f21], .inl ⟨by simp [hn], rfl⟩⟩
  · repeat (first | refine LW.seq_ops ?_ | refine lrun_end ?_ | (refine lrun_step (by decide) ?_; intro K hK; simp [h0, h1, h5, isl, liaddr, lload, rdv, h2]; refine hK _ _ ?_; clear hK K) | (refine lrun_stepG rfl (by decide) (by decide) ?_; intro K hK; simp [h0, h1, h5, isl, liaddr, lload, rdv, h2]; refine hK _ _ ?_; clear hK K) | (refine lrun_stepN ?_; intro K hK; simp [h0, h1, h5, isl, liaddr, lload, rdv, h2]; refine hK _ _ ?_; clear hK K) | refine LW.seq ?_ | refine LW.block ?_ | refine LW.ops ?_ | refine LW.skip ?_ | refine LW.ret ?_ | refine LW.exit ?_ | refine LW.label ?_ | refine thn_n ?_ | refine thn_r ?_ | refine thn_e ?_ | refine inb_n ?_ | refine inb_r ?_ | refine inb_x ?_ | refine inb_e (by decide) ?_ | (refine LW.ct ?_ ?_; · simp [h0, h1, h5, isl, liaddr, lload, rdv, h2]; done) | (refine LW.cf ?_ ?_; · simp [h0, h1, h5, isl, liaddr, lload, rdv, h2]; done) | fail)
    refine LW.dec (p := l[i] = n) (by simp) (fun h3 => ?_) (fun h3 => ?_)
    · have hn : n ∈ l := by rw [← h3]; exact List.getElem_mem h2
      repeat (first | refine LW.seq_ops ?_ | refine lrun_end ?_ | (refine lrun_step (by decide) ?_; intro K hK; simp; refine hK _ _ ?_; clear hK K) | (refine lrun_stepG rfl (by decide) (by decide) ?_; intro K hK; simp; refine hK _ _ ?_; clear hK K) | (refine lrun_stepN ?_; intro K hK; simp; refine hK _ _ ?_; clear hK K) | refine LW.seq ?_ | refine LW.block ?_ | refine LW.ops ?_ | refine LW.skip ?_ | refine LW.ret ?_ | refine LW.exit ?_ | refine LW.label ?_ | refine thn_n ?_ | refine thn_r ?_ | refine thn_e ?_ | refine inb_n ?_ | refine inb_r ?_ | refine inb_x ?_ | refine inb_e (by decide) ?_ | (refine LW.ct ?_ ?_; · simp; done) | (refine LW.cf ?_ ?_; · simp; done) | fail)
      refine hZ2 _ _ ?_
      repeat (first | refine LW.seq_ops ?_ | refine lrun_end ?_ | (refine lrun_step (by decide) ?_; intro K hK; simp; refine hK _ _ ?_; clear hK K) | (refine lrun_stepG rfl (by decide) (by decide) ?_; intro K hK; simp; refine hK _ _ ?_; clear hK K) | (refine lrun_stepN ?_; intro K hK; simp; refine hK _ _ ?_; clear hK K) | refine LW.seq ?_ | refine LW.block ?_ | refine LW.ops ?_ | refine LW.skip ?_ | refine LW.ret ?_ | refine LW.exit ?_ | refine LW.label ?_ | refine thn_n ?_ | refine thn_r ?_ | refine thn_e ?_ | refine inb_n ?_ | refine inb_r ?_ | refine inb_x ?_ | refine inb_e (by decide) ?_ | (refine LW.ct ?_ ?_; · simp; done) | (refine LW.cf ?_ ?_; · simp; done) | fail)
      refine hZ _ _ ⟨.inr rfl, .b true, by simp [lres, lres1, Tryd.f21], .inl ⟨by simp [hn], rfl⟩⟩
    · repeat (first | refine LW.seq_ops ?_ | refine lrun_end ?_ | (refine lrun_step (by decide) ?_; intro K hK; simp [h5]; refine hK _ _ ?_; clear hK K) | (refine lrun_stepG rfl (by decide) (by decide) ?_; intro K hK; simp [h5]; refine hK _ _ ?_; clear hK K) | (refine lrun_stepN ?_; intro K hK; simp [h5]; refine hK _ _ ?_; clear hK K) | refine LW.seq ?_ | refine LW.block ?_ | refine LW.ops ?_ | refine LW.skip ?_ | refine LW.ret ?_ | refine LW.exit ?_ | refine LW.label ?_ | refine thn_n ?_ | refine thn_r ?_ | refine thn_e ?_ | refine inb_n ?_ | refine inb_r ?_ | refine inb_x ?_ | refine inb_e (by decide) ?_ | (refine LW.ct ?_ ?_; · simp [h5]; done) | (refine LW.cf ?_ ?_; · simp [h5]; done) | fail)
      rw [wrap_i64 (by omega) (by omega)]
      refine hZ2 _ _ ⟨l.length - (i + 1), by omega, i + 1, by omega, rfl, by simp [h0], by simp [h1], by simp, rfl, fun k hk => ?_⟩
      rcases Nat.lt_or_ge k i with hk' | hk'
      · exact heq k hk'
      · obtain rfl : k = i := by omega
        rw [List.getElem?_eq_getElem h2]
        exact fun e => h3 (Option.some.inj e)
end Go.Lw
