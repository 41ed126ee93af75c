/- The reference's Need; list.page -/
import Derived.Test.YtopmghfjdpdncaaDoorF7
set_option linter.unusedSimpArgs false
set_option linter.unusedVariables false
namespace Go.Lw
open Go Go.Proofs Go.RowKit
variable {G : List (Nat × List V)}
attribute [local irreducible] LW callK LC lany lrun ldo oK oK2 oKH gK yieldK LY

theorem rneed_LC (n : Int) (h : -9223372036854775808 < n ∧ n < 9223372036854775808) (H : List LB) : LC Tryd.prog G 8 [.i .i64 n] H fun v H' => v = .i .i64 (need n) ∧ H' = H := by
  refine LC.of_walk Tryd.f8 9 (by kernel_rfl) (by kernel_rfl) rfl rfl fun Z hZ => ?_
  repeat (first | refine LW.seq_ops ?_ | refine lrun_end ?_ | (refine lrun_step (by decide) ?_; intro K hK; simp; refine hK _ _ ?_; clear hK K) | (refine lrun_stepG rfl (by decide) (by decide) ?_; intro K hK; simp; refine hK _ _ ?_; clear hK K) | (refine lrun_stepN ?_; intro K hK; simp; refine hK _ _ ?_; clear hK K) | refine LW.seq ?_ | refine LW.block ?_ | refine LW.ops ?_ | refine LW.skip ?_ | refine LW.ret ?_ | refine LW.exit ?_ | refine LW.label ?_ | refine thn_n ?_ | refine thn_r ?_ | refine thn_e ?_ | refine inb_n ?_ | refine inb_r ?_ | refine inb_x ?_ | refine inb_e (by decide) ?_ | (refine LW.ct ?_ ?_; · simp; done) | (refine LW.cf ?_ ?_; · simp; done) | fail)
  refine LW.dec (p := n < 1) (by simp) (fun h1 => ?_) (fun h1 => ?_)
  · repeat (first | refine LW.seq_ops ?_ | refine lrun_end ?_ | (refine lrun_step (by decide) ?_; intro K hK; simp; refine hK _ _ ?_; clear hK K) | (refine lrun_stepG rfl (by decide) (by decide) ?_; intro K hK; simp; refine hK _ _ ?_; clear hK K) | (refine lrun_stepN ?_; intro K hK; simp; refine hK _ _ ?_; clear hK K) | refine LW.seq ?_ | refine LW.block ?_ | refine LW.ops ?_ | refine LW.skip ?_ | refine LW.ret ?_ | refine LW.exit ?_ | refine LW.label ?_ | refine thn_n ?_ | refine thn_r ?_ | refine thn_e ?_ | refine inb_n ?_ | refine inb_r ?_ | refine inb_x ?_ | refine inb_e (by decide) ?_ | (refine LW.ct ?_ ?_; · simp; done) | (refine LW.cf ?_ ?_; · simp; done) | fail)
    refine hZ _ _ ⟨.inr rfl, .i .i64 0, by simp [lres, lres1, Tryd.f8], .inl ⟨by simp [need, h1], rfl⟩⟩
  · have h2 : IntKind.i64.wrap (n - 1) = n - 1 := wrap_i64 (by omega) (by omega)
    have h3 : (n - 1).tdiv 59 = (n - 1) / 59 := Int.tdiv_eq_ediv_of_nonneg (by omega)
    have h4 : IntKind.i64.wrap ((n - 1) / 59) = (n - 1) / 59 := wrap_i64 (by omega) (by omega)
    have h5 : IntKind.i64.wrap ((n - 1) / 59 + 1) = (n - 1) / 59 + 1 := wrap_i64 (by omega) (by omega)
    repeat (first | refine LW.seq_ops ?_ | refine lrun_end ?_ | (refine lrun_step (by decide) ?_; intro K hK; simp [h2, h3, h4, h5]; refine hK _ _ ?_; clear hK K) | (refine lrun_stepG rfl (by decide) (by decide) ?_; intro K hK; simp [h2, h3, h4, h5]; refine hK _ _ ?_; clear hK K) | (refine lrun_stepN ?_; intro K hK; simp [h2, h3, h4, h5]; refine hK _ _ ?_; clear hK K) | refine LW.seq ?_ | refine LW.block ?_ | refine LW.ops ?_ | refine LW.skip ?_ | refine LW.ret ?_ | refine LW.exit ?_ | refine LW.label ?_ | refine thn_n ?_ | refine thn_r ?_ | refine thn_e ?_ | refine inb_n ?_ | refine inb_r ?_ | refine inb_x ?_ | refine inb_e (by decide) ?_ | (refine LW.ct ?_ ?_; · simp [h2, h3, h4, h5]; done) | (refine LW.cf ?_ ?_; · simp [h2, h3, h4, h5]; done) | fail)
    refine hZ _ _ ⟨.inr rfl, .i .i64 ((n - 1) / 59 + 1), by simp [lres, lres1, Tryd.f8], .inl ⟨by simp [need, h1], rfl⟩⟩

/-- May a number be a page's? -/
def isPage (n : Int) : Bool := decide (2 ≤ n ∧ n ≤ 999)

theorem page_LC (n : Int) (H : List LB) : LC Tryd.prog G 27 [.i .i64 n] H fun v H' => v = .b (isPage n) ∧ H' = H := by
  refine LC.of_walk Tryd.f27 9 (by kernel_rfl) (by kernel_rfl) rfl rfl fun Z hZ => ?_
  by_cases h1 : 2 ≤ n
  · repeat (first | refine LW.seq_ops ?_ | refine lrun_end ?_ | (refine lrun_step (by decide) ?_; intro K hK; simp [h1]; refine hK _ _ ?_; clear hK K) | (refine lrun_stepG rfl (by decide) (by decide) ?_; intro K hK; simp [h1]; refine hK _ _ ?_; clear hK K) | (refine lrun_stepN ?_; intro K hK; simp [h1]; refine hK _ _ ?_; clear hK K) | refine LW.seq ?_ | refine LW.block ?_ | refine LW.ops ?_ | refine LW.skip ?_ | refine LW.ret ?_ | refine LW.exit ?_ | refine LW.label ?_ | refine thn_n ?_ | refine thn_r ?_ | refine thn_e ?_ | refine inb_n ?_ | refine inb_r ?_ | refine inb_x ?_ | refine inb_e (by decide) ?_ | (refine LW.ct ?_ ?_; · simp [h1]; done) | (refine LW.cf ?_ ?_; · simp [h1]; done) | fail)
    refine hZ _ _ ⟨.inr rfl, .b (decide (n ≤ 999)), by simp [lres, lres1, Tryd.f27], .inl ⟨by simp [isPage, h1], rfl⟩⟩
  · repeat (first | refine LW.seq_ops ?_ | refine lrun_end ?_ | (refine lrun_step (by decide) ?_; intro K hK; simp [h1]; refine hK _ _ ?_; clear hK K) | (refine lrun_stepG rfl (by decide) (by decide) ?_; intro K hK; simp [h1]; refine hK _ _ ?_; clear hK K) | (refine lrun_stepN ?_; intro K hK; simp [h1]; refine hK _ _ ?_; clear hK K) | refine LW.seq ?_ | refine LW.block ?_ | refine LW.ops ?_ | refine LW.skip ?_ | refine LW.ret ?_ | refine LW.exit ?_ | refine LW.label ?_ | refine thn_n ?_ | refine thn_r ?_ | refine thn_e ?_ | refine inb_n ?_ | refine inb_r ?_ | refine inb_x ?_ | refine inb_e (by decide) ?_ | (refine LW.ct ?_ ?_; · simp [h1]; done) | (refine LW.cf ?_ ?_; · simp [h1]; done) | fail)
    refine hZ _ _ ⟨.inr rfl, .b false, by simp [lres, lres1, Tryd.f27], .inl ⟨by simp [isPage, h1], rfl⟩⟩
end Go.Lw
