/- jalousieref11.Own -/
import Derived.Test.YtopmghfjdpdncaaDoorF10
set_option linter.unusedSimpArgs false
set_option linter.unusedVariables false
namespace Go.Lw
open Go Go.Proofs Go.RowKit
variable {G : List (Nat × List V)}
attribute [local irreducible] LW callK LC lany lrun ldo oK oK2 oKH gK yieldK LY

theorem need_sub (f w : Int) (m : Nat) (h : (m : Int) = need f + need w) (hf : 0 ≤ f) (hw : 0 ≤ w) : Fits f w m := by
  unfold Fits need at *
  (repeat' split at h) <;> (repeat' split) <;> omega

theorem need_bd (x : Int) (h : x ≤ 1000000) : 0 ≤ need x ∧ need x ≤ 1000000 := by
  unfold need
  split <;> omega

theorem rown_LC (f w : Int) (hf : -1000000 ≤ f ∧ f ≤ 1000000) (hw : -1000000 ≤ w ∧ w ≤ 1000000) (H : List LB) :
    LC Tryd.prog G 11 [.i .i64 f, .i .i64 w] H fun v H' => (∃ k : Nat, v = .i .i64 (k : Int) ∧ Least (if f < 0 then 0 else f) (if w < 0 then 0 else w) k) ∧ H' = H := by
  refine LC.of_walk Tryd.f11 40 (by kernel_rfl) (by kernel_rfl) rfl rfl fun Z hZ => ?_
  have hF0 : 0 ≤ (if f < 0 then 0 else f) ∧ (if f < 0 then 0 else f) ≤ 1000000 := by split <;> omega
  have hW0 : 0 ≤ (if w < 0 then 0 else w) ∧ (if w < 0 then 0 else w) ≤ 1000000 := by split <;> omega
  generalize hFe : (if f < 0 then 0 else f) = F at *
  generalize hWe : (if w < 0 then 0 else w) = W at *
  repeat (first | refine LW.seq_ops ?_ | refine lrun_end ?_ | (refine lrun_step (by decide) ?_; intro K hK; simp; refine hK _ _ ?_; clear hK K) | (refine lrun_stepG rfl (by decide) (by decide) ?_; intro K hK; simp; refine hK _ _ ?_; clear hK K) | (refine lrun_stepN ?_; intro K hK; simp; refine hK _ _ ?_; clear hK K) | refine LW.seq ?_ | refine LW.block ?_ | refine LW.ops ?_ | refine LW.skip ?_ | refine LW.ret ?_ | refine LW.exit ?_ | refine LW.label ?_ | refine thn_n ?_ | refine thn_r ?_ | refine thn_e ?_ | refine inb_n ?_ | refine inb_r ?_ | refine inb_x ?_ | refine inb_e (by decide) ?_ | (refine LW.ct ?_ ?_; · simp; done) | (refine LW.cf ?_ ?_; · simp; done) | fail)
  refine LW.toK fun Z1 hZ1 => ?_
  have go1 : ∀ t : Nat → V, t 0 = .i .i64 F → t 1 = .i .i64 w → Z1 .normal ⟨t, H⟩ := fun t h0 h1 => by
    refine hZ1 _ _ ?_
    repeat (first | refine LW.seq_ops ?_ | refine lrun_end ?_ | (refine lrun_step (by decide) ?_; intro K hK; simp [h0, h1]; refine hK _ _ ?_; clear hK K) | (refine lrun_stepG rfl (by decide) (by decide) ?_; intro K hK; simp [h0, h1]; refine hK _ _ ?_; clear hK K) | (refine lrun_stepN ?_; intro K hK; simp [h0, h1]; refine hK _ _ ?_; clear hK K) | refine LW.seq ?_ | refine LW.block ?_ | refine LW.ops ?_ | refine LW.skip ?_ | refine LW.ret ?_ | refine LW.exit ?_ | refine LW.label ?_ | refine thn_n ?_ | refine thn_r ?_ | refine thn_e ?_ | refine inb_n ?_ | refine inb_r ?_ | refine inb_x ?_ | refine inb_e (by decide) ?_ | (refine LW.ct ?_ ?_; · simp [h0, h1]; done) | (refine LW.cf ?_ ?_; · simp [h0, h1]; done) | fail)
    refine LW.toK fun Z2 hZ2 => ?_
    have go2 : ∀ t : Nat → V, t 0 = .i .i64 F → t 1 = .i .i64 W → Z2 .normal ⟨t, H⟩ := fun t h0 h1 => by
      refine hZ2 _ _ ?_
      repeat (first | refine LW.seq_ops ?_ | refine lrun_end ?_ | (refine lrun_step (by decide) ?_; intro K hK; simp [h0, h1]; refine hK _ _ ?_; clear hK K) | (refine lrun_stepG rfl (by decide) (by decide) ?_; intro K hK; simp [h0, h1]; refine hK _ _ ?_; clear hK K) | (refine lrun_stepN ?_; intro K hK; simp [h0, h1]; refine hK _ _ ?_; clear hK K) | refine LW.seq ?_ | refine LW.block ?_ | refine LW.ops ?_ | refine LW.skip ?_ | refine LW.ret ?_ | refine LW.exit ?_ | refine LW.label ?_ | refine thn_n ?_ | refine thn_r ?_ | refine thn_e ?_ | refine inb_n ?_ | refine inb_r ?_ | refine inb_x ?_ | refine inb_e (by decide) ?_ | (refine LW.ct ?_ ?_; · simp [h0, h1]; done) | (refine LW.cf ?_ ?_; · simp [h0, h1]; done) | fail)
      refine lrun_step (by decide) ?_; intro K hK; simp
      refine callK.by (rneed_LC F (by omega) _) ?_
      rintro v H2 ⟨rfl, rfl⟩
      refine hK _ _ ?_; clear hK K
      repeat (first | refine LW.seq_ops ?_ | refine lrun_end ?_ | (refine lrun_step (by decide) ?_; intro K hK; simp [h0, h1]; refine hK _ _ ?_; clear hK K) | (refine lrun_stepG rfl (by decide) (by decide) ?_; intro K hK; simp [h0, h1]; refine hK _ _ ?_; clear hK K) | (refine lrun_stepN ?_; intro K hK; simp [h0, h1]; refine hK _ _ ?_; clear hK K) | refine LW.seq ?_ | refine LW.block ?_ | refine LW.ops ?_ | refine LW.skip ?_ | refine LW.ret ?_ | refine LW.exit ?_ | refine LW.label ?_ | refine thn_n ?_ | refine thn_r ?_ | refine thn_e ?_ | refine inb_n ?_ | refine inb_r ?_ | refine inb_x ?_ | refine inb_e (by decide) ?_ | (refine LW.ct ?_ ?_; · simp [h0, h1]; done) | (refine LW.cf ?_ ?_; · simp [h0, h1]; done) | fail)
      refine lrun_step (by decide) ?_; intro K hK; simp
      refine callK.by (rneed_LC W (by omega) _) ?_
      rintro v H2 ⟨rfl, rfl⟩
      refine hK _ _ ?_; clear hK K
      have b1 := need_bd F hF0.2
      have b2 := need_bd W hW0.2
      have e1 : IntKind.i64.wrap (need F + need W) = ((need F + need W).toNat : Int) := by rw [wrap_i64 (by omega) (by omega)]; omega
      have hm := need_sub F W (need F + need W).toNat (by omega) hF0.1 hW0.1
      have hmb : (need F + need W).toNat ≤ 2000000 := by omega
      generalize (need F + need W).toNat = M at *
      repeat (first | refine LW.seq_ops ?_ | refine lrun_end ?_ | (refine lrun_step (by decide) ?_; intro K hK; simp [e1]; refine hK _ _ ?_; clear hK K) | (refine lrun_stepG rfl (by decide) (by decide) ?_; intro K hK; simp [e1]; refine hK _ _ ?_; clear hK K) | (refine lrun_stepN ?_; intro K hK; simp [e1]; refine hK _ _ ?_; clear hK K) | refine LW.seq ?_ | refine LW.block ?_ | refine LW.ops ?_ | refine LW.skip ?_ | refine LW.ret ?_ | refine LW.exit ?_ | refine LW.label ?_ | refine thn_n ?_ | refine thn_r ?_ | refine thn_e ?_ | refine inb_n ?_ | refine inb_r ?_ | refine inb_x ?_ | refine inb_e (by decide) ?_ | (refine LW.ct ?_ ?_; · simp [e1]; done) | (refine LW.cf ?_ ?_; · simp [e1]; done) | fail)
      refine LW.loopN (fun m s => ∃ k p : Nat, m = p - k ∧ k ≤ p ∧ p ≤ 2000000 ∧ s.t 0 = .i .i64 F ∧ s.t 1 = .i .i64 W ∧ s.t 5 = .i .i64 k ∧ s.t 6 = .i .i64 p ∧ s.H = H2 ∧ Fits F W p ∧ ∀ j, j < k → ¬ Fits F W j) (m := M)
        ⟨0, M, by omega, by omega, hmb, by simp [h0], by simp [h1], by simp, by simp, rfl, hm, fun j hj => by omega⟩ ?_
      rintro m ⟨t, H'⟩ ⟨k, p, rfl, hkp, hp, h0, h1, h5, h6, rfl, hfp, hl⟩
      dsimp only at h0 h1 h5 h6
      refine LW.toK fun Z3 hZ3 => ?_
      repeat (first | refine LW.seq_ops ?_ | refine lrun_end ?_ | (refine lrun_step (by decide) ?_; intro K hK; simp [h5, h6]; refine hK _ _ ?_; clear hK K) | (refine lrun_stepG rfl (by decide) (by decide) ?_; intro K hK; simp [h5, h6]; refine hK _ _ ?_; clear hK K) | (refine lrun_stepN ?_; intro K hK; simp [h5, h6]; refine hK _ _ ?_; clear hK K) | refine LW.seq ?_ | refine LW.block ?_ | refine LW.ops ?_ | refine LW.skip ?_ | refine LW.ret ?_ | refine LW.exit ?_ | refine LW.label ?_ | refine thn_n ?_ | refine thn_r ?_ | refine thn_e ?_ | refine inb_n ?_ | refine inb_r ?_ | refine inb_x ?_ | refine inb_e (by decide) ?_ | (refine LW.ct ?_ ?_; · simp [h5, h6]; done) | (refine LW.cf ?_ ?_; · simp [h5, h6]; done) | fail)
      refine LW.dec (p := (k : Int) < p) (by simp) (fun h2 => ?_) (fun h2 => ?_)
      rotate_left
      · obtain rfl : k = p := by omega
        repeat (first | refine LW.seq_ops ?_ | refine lrun_end ?_ | (refine lrun_step (by decide) ?_; intro K hK; simp; refine hK _ _ ?_; clear hK K) | (refine lrun_stepG rfl (by decide) (by decide) ?_; intro K hK; simp; refine hK _ _ ?_; clear hK K) | (refine lrun_stepN ?_; intro K hK; simp; refine hK _ _ ?_; clear hK K) | refine LW.seq ?_ | refine LW.block ?_ | refine LW.ops ?_ | refine LW.skip ?_ | refine LW.ret ?_ | refine LW.exit ?_ | refine LW.label ?_ | refine thn_n ?_ | refine thn_r ?_ | refine thn_e ?_ | refine inb_n ?_ | refine inb_r ?_ | refine inb_x ?_ | refine inb_e (by decide) ?_ | (refine LW.ct ?_ ?_; · simp; done) | (refine LW.cf ?_ ?_; · simp; done) | fail)
        refine hZ3 _ _ ?_
        repeat (first | refine LW.seq_ops ?_ | refine lrun_end ?_ | (refine lrun_step (by decide) ?_; intro K hK; simp [h5]; refine hK _ _ ?_; clear hK K) | (refine lrun_stepG rfl (by decide) (by decide) ?_; intro K hK; simp [h5]; refine hK _ _ ?_; clear hK K) | (refine lrun_stepN ?_; intro K hK; simp [h5]; refine hK _ _ ?_; clear hK K) | refine LW.seq ?_ | refine LW.block ?_ | refine LW.ops ?_ | refine LW.skip ?_ | refine LW.ret ?_ | refine LW.exit ?_ | refine LW.label ?_ | refine thn_n ?_ | refine thn_r ?_ | refine thn_e ?_ | refine inb_n ?_ | refine inb_r ?_ | refine inb_x ?_ | refine inb_e (by decide) ?_ | (refine LW.ct ?_ ?_; · simp [h5]; done) | (refine LW.cf ?_ ?_; · simp [h5]; done) | fail)
        refine hZ _ _ ⟨.inr rfl, .i .i64 k, by simp [lres, lres1, Tryd.f11], .inl ⟨⟨k, rfl, hfp, hl⟩, rfl⟩⟩
      · have e2 : IntKind.i64.wrap ((k : Int) + p) = ((k + p : Nat) : Int) := by rw [wrap_i64 (by omega) (by omega)]; omega
        have e3 : IntKind.i64.wrap (((k + p : Nat) : Int).tdiv 2) = (((k + p) / 2 : Nat) : Int) := by
          rw [Int.tdiv_eq_ediv_of_nonneg (by omega), wrap_i64 (by omega) (by omega)]
          omega
        have e3' : IntKind.i64.wrap (((k + p : Nat) : Int) / 2) = (((k + p) / 2 : Nat) : Int) := by
          rw [wrap_i64 (by omega) (by omega)]
          omega
        have hh : k ≤ (k + p) / 2 ∧ (k + p) / 2 < p := by omega
        generalize hS : k + p = S at *
        generalize hh2 : S / 2 = h at *
        have e4 : IntKind.i64.wrap (F - (h : Int)) = F - h := wrap_i64 (by omega) (by omega)
        have e6 : IntKind.i64.wrap ((h : Int) + 1) = (h : Int) + 1 := wrap_i64 (by omega) (by omega)
        repeat (first | refine LW.seq_ops ?_ | refine lrun_end ?_ | (refine lrun_step (by decide) ?_; intro K hK; simp [h5, h6, e2, e3, e3', h0, e4]; refine hK _ _ ?_; clear hK K) | (refine lrun_stepG rfl (by decide) (by decide) ?_; intro K hK; simp [h5, h6, e2, e3, e3', h0, e4]; refine hK _ _ ?_; clear hK K) | (refine lrun_stepN ?_; intro K hK; simp [h5, h6, e2, e3, e3', h0, e4]; refine hK _ _ ?_; clear hK K) | refine LW.seq ?_ | refine LW.block ?_ | refine LW.ops ?_ | refine LW.skip ?_ | refine LW.ret ?_ | refine LW.exit ?_ | refine LW.label ?_ | refine thn_n ?_ | refine thn_r ?_ | refine thn_e ?_ | refine inb_n ?_ | refine inb_r ?_ | refine inb_x ?_ | refine inb_e (by decide) ?_ | (refine LW.ct ?_ ?_; · simp [h5, h6, e2, e3, e3', h0, e4]; done) | (refine LW.cf ?_ ?_; · simp [h5, h6, e2, e3, e3', h0, e4]; done) | fail)
        refine LW.toK fun Z4 hZ4 => ?_
        have go4 : ∀ t : Nat → V, t 0 = .i .i64 F → t 1 = .i .i64 W → t 5 = .i .i64 k → t 6 = .i .i64 p → t 7 = .i .i64 h → t 8 = .i .i64 (if F - (h : Int) < 0 then 0 else F - h) → Z4 .normal ⟨t, H'⟩ := fun t g0 g1 g5 g6 g7 g8 => by
          refine hZ4 _ _ ?_
          have e5 : IntKind.i64.wrap ((if F - (h : Int) < 0 then 0 else F - h) + W) = (if F - (h : Int) < 0 then 0 else F - h) + W := by
            refine wrap_i64 ?_ ?_ <;> split <;> omega
          have hx : -9223372036854775808 < (if F - (h : Int) < 0 then 0 else F - h) + W ∧ (if F - (h : Int) < 0 then 0 else F - h) + W < 9223372036854775808 := by split <;> omega
          have hfit : Fits F W h ↔ need ((if F - (h : Int) < 0 then 0 else F - h) + W) ≤ h := Iff.rfl
          generalize (if F - (h : Int) < 0 then 0 else F - h) = L at *
          generalize hX : L + W = X at *
          repeat (first | refine LW.seq_ops ?_ | refine lrun_end ?_ | (refine lrun_step (by decide) ?_; intro K hK; simp [g0, g1, g5, g6, g7, g8, hX, e5]; refine hK _ _ ?_; clear hK K) | (refine lrun_stepG rfl (by decide) (by decide) ?_; intro K hK; simp [g0, g1, g5, g6, g7, g8, hX, e5]; refine hK _ _ ?_; clear hK K) | (refine lrun_stepN ?_; intro K hK; simp [g0, g1, g5, g6, g7, g8, hX, e5]; refine hK _ _ ?_; clear hK K) | refine LW.seq ?_ | refine LW.block ?_ | refine LW.ops ?_ | refine LW.skip ?_ | refine LW.ret ?_ | refine LW.exit ?_ | refine LW.label ?_ | refine thn_n ?_ | refine thn_r ?_ | refine thn_e ?_ | refine inb_n ?_ | refine inb_r ?_ | refine inb_x ?_ | refine inb_e (by decide) ?_ | (refine LW.ct ?_ ?_; · simp [g0, g1, g5, g6, g7, g8, hX, e5]; done) | (refine LW.cf ?_ ?_; · simp [g0, g1, g5, g6, g7, g8, hX, e5]; done) | fail)
          refine lrun_step (by decide) ?_; intro K hK; simp
          refine callK.by (rneed_LC X hx _) ?_
          rintro v H2 ⟨rfl, rfl⟩
          refine hK _ _ ?_; clear hK K
          repeat (first | refine LW.seq_ops ?_ | refine lrun_end ?_ | (refine lrun_step (by decide) ?_; intro K hK; simp [g7]; refine hK _ _ ?_; clear hK K) | (refine lrun_stepG rfl (by decide) (by decide) ?_; intro K hK; simp [g7]; refine hK _ _ ?_; clear hK K) | (refine lrun_stepN ?_; intro K hK; simp [g7]; refine hK _ _ ?_; clear hK K) | refine LW.seq ?_ | refine LW.block ?_ | refine LW.ops ?_ | refine LW.skip ?_ | refine LW.ret ?_ | refine LW.exit ?_ | refine LW.label ?_ | refine thn_n ?_ | refine thn_r ?_ | refine thn_e ?_ | refine inb_n ?_ | refine inb_r ?_ | refine inb_x ?_ | refine inb_e (by decide) ?_ | (refine LW.ct ?_ ?_; · simp [g7]; done) | (refine LW.cf ?_ ?_; · simp [g7]; done) | fail)
          refine LW.dec (p := need X ≤ h) (by simp) (fun h3 => ?_) (fun h3 => ?_)
          · repeat (first | refine LW.seq_ops ?_ | refine lrun_end ?_ | (refine lrun_step (by decide) ?_; intro K hK; simp [g7]; refine hK _ _ ?_; clear hK K) | (refine lrun_stepG rfl (by decide) (by decide) ?_; intro K hK; simp [g7]; refine hK _ _ ?_; clear hK K) | (refine lrun_stepN ?_; intro K hK; simp [g7]; refine hK _ _ ?_; clear hK K) | refine LW.seq ?_ | refine LW.block ?_ | refine LW.ops ?_ | refine LW.skip ?_ | refine LW.ret ?_ | refine LW.exit ?_ | refine LW.label ?_ | refine thn_n ?_ | refine thn_r ?_ | refine thn_e ?_ | refine inb_n ?_ | refine inb_r ?_ | refine inb_x ?_ | refine inb_e (by decide) ?_ | (refine LW.ct ?_ ?_; · simp [g7]; done) | (refine LW.cf ?_ ?_; · simp [g7]; done) | fail)
            refine hZ3 _ _ ⟨h - k, by omega, k, h, rfl, by omega, by omega, by simp [g0], by simp [g1], by simp [g5], by simp, rfl, hfit.2 h3, hl⟩
          · repeat (first | refine LW.seq_ops ?_ | refine lrun_end ?_ | (refine lrun_step (by decide) ?_; intro K hK; simp [g7, e6]; refine hK _ _ ?_; clear hK K) | (refine lrun_stepG rfl (by decide) (by decide) ?_; intro K hK; simp [g7, e6]; refine hK _ _ ?_; clear hK K) | (refine lrun_stepN ?_; intro K hK; simp [g7, e6]; refine hK _ _ ?_; clear hK K) | refine LW.seq ?_ | refine LW.block ?_ | refine LW.ops ?_ | refine LW.skip ?_ | refine LW.ret ?_ | refine LW.exit ?_ | refine LW.label ?_ | refine thn_n ?_ | refine thn_r ?_ | refine thn_e ?_ | refine inb_n ?_ | refine inb_r ?_ | refine inb_x ?_ | refine inb_e (by decide) ?_ | (refine LW.ct ?_ ?_; · simp [g7, e6]; done) | (refine LW.cf ?_ ?_; · simp [g7, e6]; done) | fail)
            refine hZ3 _ _ ⟨p - (h + 1), by omega, h + 1, p, rfl, by omega, by omega, by simp [g0], by simp [g1], by simp, by simp [g6], rfl, hfp, fun j hj hfj => ?_⟩
            exact h3 (hfit.1 (fits_mono hfj (by omega)))
        refine LW.dec (p := F - (h : Int) < 0) (by simp) (fun h3 => ?_) (fun h3 => ?_)
        · repeat (first | refine LW.seq_ops ?_ | refine lrun_end ?_ | (refine lrun_step (by decide) ?_; intro K hK; simp; refine hK _ _ ?_; clear hK K) | (refine lrun_stepG rfl (by decide) (by decide) ?_; intro K hK; simp; refine hK _ _ ?_; clear hK K) | (refine lrun_stepN ?_; intro K hK; simp; refine hK _ _ ?_; clear hK K) | refine LW.seq ?_ | refine LW.block ?_ | refine LW.ops ?_ | refine LW.skip ?_ | refine LW.ret ?_ | refine LW.exit ?_ | refine LW.label ?_ | refine thn_n ?_ | refine thn_r ?_ | refine thn_e ?_ | refine inb_n ?_ | refine inb_r ?_ | refine inb_x ?_ | refine inb_e (by decide) ?_ | (refine LW.ct ?_ ?_; · simp; done) | (refine LW.cf ?_ ?_; · simp; done) | fail)
          refine go4 _ ?_ ?_ ?_ ?_ ?_ ?_ <;> simp [h0, h1, h5, h6, h3]
        · repeat (first | refine LW.seq_ops ?_ | refine lrun_end ?_ | (refine lrun_step (by decide) ?_; intro K hK; simp; refine hK _ _ ?_; clear hK K) | (refine lrun_stepG rfl (by decide) (by decide) ?_; intro K hK; simp; refine hK _ _ ?_; clear hK K) | (refine lrun_stepN ?_; intro K hK; simp; refine hK _ _ ?_; clear hK K) | refine LW.seq ?_ | refine LW.block ?_ | refine LW.ops ?_ | refine LW.skip ?_ | refine LW.ret ?_ | refine LW.exit ?_ | refine LW.label ?_ | refine thn_n ?_ | refine thn_r ?_ | refine thn_e ?_ | refine inb_n ?_ | refine inb_r ?_ | refine inb_x ?_ | refine inb_e (by decide) ?_ | (refine LW.ct ?_ ?_; · simp; done) | (refine LW.cf ?_ ?_; · simp; done) | fail)
          refine go4 _ ?_ ?_ ?_ ?_ ?_ ?_ <;> simp [h0, h1, h5, h6, h3]
    refine LW.dec (p := w < 0) (by simp) (fun h3 => ?_) (fun h3 => ?_)
    · rw [if_pos h3] at hWe
      repeat (first | refine LW.seq_ops ?_ | refine lrun_end ?_ | (refine lrun_step (by decide) ?_; intro K hK; simp; refine hK _ _ ?_; clear hK K) | (refine lrun_stepG rfl (by decide) (by decide) ?_; intro K hK; simp; refine hK _ _ ?_; clear hK K) | (refine lrun_stepN ?_; intro K hK; simp; refine hK _ _ ?_; clear hK K) | refine LW.seq ?_ | refine LW.block ?_ | refine LW.ops ?_ | refine LW.skip ?_ | refine LW.ret ?_ | refine LW.exit ?_ | refine LW.label ?_ | refine thn_n ?_ | refine thn_r ?_ | refine thn_e ?_ | refine inb_n ?_ | refine inb_r ?_ | refine inb_x ?_ | refine inb_e (by decide) ?_ | (refine LW.ct ?_ ?_; · simp; done) | (refine LW.cf ?_ ?_; · simp; done) | fail)
      exact go2 _ (by simp [h0]) (by simp [hWe])
    · rw [if_neg h3] at hWe
      repeat (first | refine LW.seq_ops ?_ | refine lrun_end ?_ | (refine lrun_step (by decide) ?_; intro K hK; simp; refine hK _ _ ?_; clear hK K) | (refine lrun_stepG rfl (by decide) (by decide) ?_; intro K hK; simp; refine hK _ _ ?_; clear hK K) | (refine lrun_stepN ?_; intro K hK; simp; refine hK _ _ ?_; clear hK K) | refine LW.seq ?_ | refine LW.block ?_ | refine LW.ops ?_ | refine LW.skip ?_ | refine LW.ret ?_ | refine LW.exit ?_ | refine LW.label ?_ | refine thn_n ?_ | refine thn_r ?_ | refine thn_e ?_ | refine inb_n ?_ | refine inb_r ?_ | refine inb_x ?_ | refine inb_e (by decide) ?_ | (refine LW.ct ?_ ?_; · simp; done) | (refine LW.cf ?_ ?_; · simp; done) | fail)
      exact go2 _ (by simp [h0]) (by simp [h1, hWe])
  refine LW.dec (p := f < 0) (by simp) (fun h3 => ?_) (fun h3 => ?_)
  · rw [if_pos h3] at hFe
    repeat (first | refine LW.seq_ops ?_ | refine lrun_end ?_ | (refine lrun_step (by decide) ?_; intro K hK; simp; refine hK _ _ ?_; clear hK K) | (refine lrun_stepG rfl (by decide) (by decide) ?_; intro K hK; simp; refine hK _ _ ?_; clear hK K) | (refine lrun_stepN ?_; intro K hK; simp; refine hK _ _ ?_; clear hK K) | refine LW.seq ?_ | refine LW.block ?_ | refine LW.ops ?_ | refine LW.skip ?_ | refine LW.ret ?_ | refine LW.exit ?_ | refine LW.label ?_ | refine thn_n ?_ | refine thn_r ?_ | refine thn_e ?_ | refine inb_n ?_ | refine inb_r ?_ | refine inb_x ?_ | refine inb_e (by decide) ?_ | (refine LW.ct ?_ ?_; · simp; done) | (refine LW.cf ?_ ?_; · simp; done) | fail)
    exact go1 _ (by simp [hFe]) (by simp)
  · rw [if_neg h3] at hFe
    repeat (first | refine LW.seq_ops ?_ | refine lrun_end ?_ | (refine lrun_step (by decide) ?_; intro K hK; simp; refine hK _ _ ?_; clear hK K) | (refine lrun_stepG rfl (by decide) (by decide) ?_; intro K hK; simp; refine hK _ _ ?_; clear hK K) | (refine lrun_stepN ?_; intro K hK; simp; refine hK _ _ ?_; clear hK K) | refine LW.seq ?_ | refine LW.block ?_ | refine LW.ops ?_ | refine LW.skip ?_ | refine LW.ret ?_ | refine LW.exit ?_ | refine LW.label ?_ | refine thn_n ?_ | refine thn_r ?_ | refine thn_e ?_ | refine inb_n ?_ | refine inb_r ?_ | refine inb_x ?_ | refine inb_e (by decide) ?_ | (refine LW.ct ?_ ?_; · simp; done) | (refine LW.cf ?_ ?_; · simp; done) | fail)
    exact go1 _ (by simp [hFe]) (by simp)
end Go.Lw
