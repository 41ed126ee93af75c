/- list.Own, jalousieref11.Own -/
import Derived.Test.YtopmghfjdpdncaaDoorF8
set_option linter.unusedSimpArgs false
set_option linter.unusedVariables false
namespace Go.Lw
open Go Go.Proofs Go.RowKit
variable {G : List (Nat × List V)}
attribute [local irreducible] LW callK LC lany lrun ldo oK oK2 oKH gK yieldK LY

/-- Do so many pages do? -/
def Fits (f w : Int) (k : Nat) : Prop := need ((if f - k < 0 then 0 else f - k) + w) ≤ k

/-- The least number of pages that do. -/
def Least (f w : Int) (k : Nat) : Prop := Fits f w k ∧ ∀ j, j < k → ¬ Fits f w j

theorem Least.unique {f w : Int} {a b : Nat} (ha : Least f w a) (hb : Least f w b) : a = b := by
  rcases Nat.lt_trichotomy a b with h | h | h
  · exact absurd ha.1 (hb.2 a h)
  · exact h
  · exact absurd hb.1 (ha.2 b h)

theorem fits_mono {f w : Int} {j k : Nat} (h : Fits f w j) (hjk : j ≤ k) : Fits f w k := by
  unfold Fits need at *
  (repeat' split at h) <;> (repeat' split) <;> omega

theorem own_LC (f w : Int) (hf : -1000000 ≤ f ∧ f ≤ 1000000) (hw : -1000000 ≤ w ∧ w ≤ 1000000) (H : List LB) :
    LC Tryd.prog G 10 [.i .i64 f, .i .i64 w] H fun v H' => (∃ k : Nat, v = .i .i64 (k : Int) ∧ Least (if f < 0 then 0 else f) (if w < 0 then 0 else w) k) ∧ H' = H := by
  refine LC.of_walk Tryd.f10 22 (by kernel_rfl) (by kernel_rfl) rfl rfl fun Z hZ => ?_
  repeat (first | refine LW.seq_ops ?_ | refine lrun_end ?_ | (refine lrun_step (by decide) ?_; intro K hK; simp; refine hK _ _ ?_; clear hK K) | (refine lrun_stepG rfl (by decide) (by decide) ?_; intro K hK; simp; refine hK _ _ ?_; clear hK K) | (refine lrun_stepN ?_; intro K hK; simp; refine hK _ _ ?_; clear hK K) | refine LW.seq ?_ | refine LW.block ?_ | refine LW.ops ?_ | refine LW.skip ?_ | refine LW.ret ?_ | refine LW.exit ?_ | refine LW.label ?_ | refine thn_n ?_ | refine thn_r ?_ | refine thn_e ?_ | refine inb_n ?_ | refine inb_r ?_ | refine inb_x ?_ | refine inb_e (by decide) ?_ | (refine LW.ct ?_ ?_; · simp; done) | (refine LW.cf ?_ ?_; · simp; done) | fail)
  have hF0 : 0 ≤ (if f < 0 then 0 else f) ∧ (if f < 0 then 0 else f) ≤ 1000000 := by split <;> omega
  have hW0 : 0 ≤ (if w < 0 then 0 else w) ∧ (if w < 0 then 0 else w) ≤ 1000000 := by split <;> omega
  generalize (if f < 0 then 0 else f) = F at *
  generalize (if w < 0 then 0 else w) = W at *
  refine LW.loopN (fun m s => ∃ k : Nat, m = 2000001 - k ∧ k ≤ 2000000 ∧ s.t 0 = .i .i64 F ∧ s.t 1 = .i .i64 W ∧ s.t 5 = .i .i64 k ∧ s.H = H ∧ ∀ j, j < k → ¬ Fits F W j) (m := 2000001)
    ⟨0, by omega, by omega, by simp, by simp, by simp, rfl, fun j hj => by omega⟩ ?_
  rintro m ⟨t, H'⟩ ⟨k, rfl, hk, h0, h1, h5, rfl, hl⟩
  dsimp only at h0 h1 h5
  refine LW.toK fun Z2 hZ2 => ?_
  have e1 : IntKind.i64.wrap (F - (k : Int)) = F - k := wrap_i64 (by omega) (by omega)
  have e2 : IntKind.i64.wrap ((if F - (k : Int) < 0 then 0 else F - k) + W) = (if F - (k : Int) < 0 then 0 else F - k) + W := by
    refine wrap_i64 ?_ ?_ <;> split <;> omega
  have e3 : IntKind.i64.wrap ((k : Int) + 1) = (k : Int) + 1 := wrap_i64 (by omega) (by omega)
  have hx : -9223372036854775808 < (if F - (k : Int) < 0 then 0 else F - k) + W ∧ (if F - (k : Int) < 0 then 0 else F - k) + W < 9223372036854775808 := by split <;> omega
  have hfit : Fits F W k ↔ need ((if F - (k : Int) < 0 then 0 else F - k) + W) ≤ k := Iff.rfl
  have hall : Fits F W 2000000 := by
    unfold Fits need
    (repeat' split) <;> omega
  generalize hX : (if F - (k : Int) < 0 then 0 else F - k) + W = X at *
  repeat (first | refine LW.seq_ops ?_ | refine lrun_end ?_ | (refine lrun_step (by decide) ?_; intro K hK; simp [h0, h1, h5, e1, hX, e2]; refine hK _ _ ?_; clear hK K) | (refine lrun_stepG rfl (by decide) (by decide) ?_; intro K hK; simp [h0, h1, h5, e1, hX, e2]; refine hK _ _ ?_; clear hK K) | (refine lrun_stepN ?_; intro K hK; simp [h0, h1, h5, e1, hX, e2]; refine hK _ _ ?_; clear hK K) | refine LW.seq ?_ | refine LW.block ?_ | refine LW.ops ?_ | refine LW.skip ?_ | refine LW.ret ?_ | refine LW.exit ?_ | refine LW.label ?_ | refine thn_n ?_ | refine thn_r ?_ | refine thn_e ?_ | refine inb_n ?_ | refine inb_r ?_ | refine inb_x ?_ | refine inb_e (by decide) ?_ | (refine LW.ct ?_ ?_; · simp [h0, h1, h5, e1, hX, e2]; done) | (refine LW.cf ?_ ?_; · simp [h0, h1, h5, e1, hX, e2]; done) | fail)
  refine lrun_step (by decide) ?_; intro K hK; simp
  refine callK.by (need_LC X hx _) ?_
  rintro v H2 ⟨rfl, rfl⟩
  refine hK _ _ ?_; clear hK K
  repeat (first | refine LW.seq_ops ?_ | refine lrun_end ?_ | (refine lrun_step (by decide) ?_; intro K hK; simp [h5]; refine hK _ _ ?_; clear hK K) | (refine lrun_stepG rfl (by decide) (by decide) ?_; intro K hK; simp [h5]; refine hK _ _ ?_; clear hK K) | (refine lrun_stepN ?_; intro K hK; simp [h5]; refine hK _ _ ?_; clear hK K) | refine LW.seq ?_ | refine LW.block ?_ | refine LW.ops ?_ | refine LW.skip ?_ | refine LW.ret ?_ | refine LW.exit ?_ | refine LW.label ?_ | refine thn_n ?_ | refine thn_r ?_ | refine thn_e ?_ | refine inb_n ?_ | refine inb_r ?_ | refine inb_x ?_ | refine inb_e (by decide) ?_ | (refine LW.ct ?_ ?_; · simp [h5]; done) | (refine LW.cf ?_ ?_; · simp [h5]; done) | fail)
  refine LW.dec (p := need X ≤ k) (by simp) (fun h2 => ?_) (fun h2 => ?_)
  · repeat (first | refine LW.seq_ops ?_ | refine lrun_end ?_ | (refine lrun_step (by decide) ?_; intro K hK; simp [h5]; refine hK _ _ ?_; clear hK K) | (refine lrun_stepG rfl (by decide) (by decide) ?_; intro K hK; simp [h5]; refine hK _ _ ?_; clear hK K) | (refine lrun_stepN ?_; intro K hK; simp [h5]; refine hK _ _ ?_; clear hK K) | refine LW.seq ?_ | refine LW.block ?_ | refine LW.ops ?_ | refine LW.skip ?_ | refine LW.ret ?_ | refine LW.exit ?_ | refine LW.label ?_ | refine thn_n ?_ | refine thn_r ?_ | refine thn_e ?_ | refine inb_n ?_ | refine inb_r ?_ | refine inb_x ?_ | refine inb_e (by decide) ?_ | (refine LW.ct ?_ ?_; · simp [h5]; done) | (refine LW.cf ?_ ?_; · simp [h5]; done) | fail)
    refine hZ2 _ _ ?_
    repeat (first | refine LW.seq_ops ?_ | refine lrun_end ?_ | (refine lrun_step (by decide) ?_; intro K hK; simp; refine hK _ _ ?_; clear hK K) | (refine lrun_stepG rfl (by decide) (by decide) ?_; intro K hK; simp; refine hK _ _ ?_; clear hK K) | (refine lrun_stepN ?_; intro K hK; simp; refine hK _ _ ?_; clear hK K) | refine LW.seq ?_ | refine LW.block ?_ | refine LW.ops ?_ | refine LW.skip ?_ | refine LW.ret ?_ | refine LW.exit ?_ | refine LW.label ?_ | refine thn_n ?_ | refine thn_r ?_ | refine thn_e ?_ | refine inb_n ?_ | refine inb_r ?_ | refine inb_x ?_ | refine inb_e (by decide) ?_ | (refine LW.ct ?_ ?_; · simp; done) | (refine LW.cf ?_ ?_; · simp; done) | fail)
    refine hZ _ _ ⟨.inr rfl, .i .i64 k, by simp [lres, lres1, Tryd.f10], .inl ⟨⟨k, rfl, hfit.2 h2, hl⟩, rfl⟩⟩
  · repeat (first | refine LW.seq_ops ?_ | refine lrun_end ?_ | (refine lrun_step (by decide) ?_; intro K hK; simp [h5, e3]; refine hK _ _ ?_; clear hK K) | (refine lrun_stepG rfl (by decide) (by decide) ?_; intro K hK; simp [h5, e3]; refine hK _ _ ?_; clear hK K) | (refine lrun_stepN ?_; intro K hK; simp [h5, e3]; refine hK _ _ ?_; clear hK K) | refine LW.seq ?_ | refine LW.block ?_ | refine LW.ops ?_ | refine LW.skip ?_ | refine LW.ret ?_ | refine LW.exit ?_ | refine LW.label ?_ | refine thn_n ?_ | refine thn_r ?_ | refine thn_e ?_ | refine inb_n ?_ | refine inb_r ?_ | refine inb_x ?_ | refine inb_e (by decide) ?_ | (refine LW.ct ?_ ?_; · simp [h5, e3]; done) | (refine LW.cf ?_ ?_; · simp [h5, e3]; done) | fail)
    have hk2 : k ≠ 2000000 := fun e => h2 (hfit.1 (e ▸ hall))
    refine hZ2 _ _ ⟨2000001 - (k + 1), by omega, k + 1, rfl, by omega, by simp [h0], by simp [h1], by simp, rfl, fun j hj => ?_⟩
    rcases Nat.lt_or_ge j k with hj' | hj'
    · exact hl j hj'
    · obtain rfl : j = k := by omega
      exact fun h => h2 (hfit.1 h)
end Go.Lw
