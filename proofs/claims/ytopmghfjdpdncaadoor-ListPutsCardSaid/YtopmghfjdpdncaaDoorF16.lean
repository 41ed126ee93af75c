/- list.rising, jalousieref11.listed -/
import Derived.Test.YtopmghfjdpdncaaDoorF9
set_option linter.unusedSimpArgs false
set_option linter.unusedVariables false
namespace Go.Lw
open Go Go.Proofs Go.RowKit
variable {G : List (Nat × List V)}
attribute [local irreducible] LW callK LC lany lrun ldo oK oK2 oKH gK yieldK LY

/-- Pages' numbers, each above the one ahead of it. -/
def Rising (l : List Int) : Prop := ∀ i, i < l.length → (2 ≤ l.getD i 0 ∧ l.getD i 0 ≤ 999) ∧ (0 < i → l.getD (i - 1) 0 < l.getD i 0)
instance (l : List Int) : Decidable (Rising l) := Nat.decidableBallLT l.length fun i _ => (2 ≤ l.getD i 0 ∧ l.getD i 0 ≤ 999) ∧ (0 < i → l.getD (i - 1) 0 < l.getD i 0)

theorem rising_LC (l : List Int) (hl : l.length < 4611686018427387904) (H : List LB) : LC Tryd.prog G 16 [isl l] H fun v H' => v = .b (decide (Rising l)) ∧ H' = H := by
  refine LC.of_walk Tryd.f16 29 (by kernel_rfl) (by kernel_rfl) rfl rfl fun Z hZ => ?_
  repeat (first | refine LW.seq_ops ?_ | refine lrun_end ?_ | (refine lrun_step (by decide) ?_; intro K hK; simp [isl, llen]; refine hK _ _ ?_; clear hK K) | (refine lrun_stepG rfl (by decide) (by decide) ?_; intro K hK; simp [isl, llen]; refine hK _ _ ?_; clear hK K) | (refine lrun_stepN ?_; intro K hK; simp [isl, llen]; refine hK _ _ ?_; clear hK K) | refine LW.seq ?_ | refine LW.block ?_ | refine LW.ops ?_ | refine LW.skip ?_ | refine LW.ret ?_ | refine LW.exit ?_ | refine LW.label ?_ | refine thn_n ?_ | refine thn_r ?_ | refine thn_e ?_ | refine inb_n ?_ | refine inb_r ?_ | refine inb_x ?_ | refine inb_e (by decide) ?_ | (refine LW.ct ?_ ?_; · simp [isl, llen]; done) | (refine LW.cf ?_ ?_; · simp [isl, llen]; done) | fail)
  refine LW.loopN (fun m s => ∃ i : Nat, i ≤ l.length ∧ m = l.length - i ∧ s.t 0 = isl l ∧ s.t 5 = isl l ∧ s.t 6 = .i .i64 l.length ∧ s.t 7 = .i .i64 i ∧ s.H = H ∧ ∀ k, k < i → (2 ≤ l.getD k 0 ∧ l.getD k 0 ≤ 999) ∧ (0 < k → l.getD (k - 1) 0 < l.getD k 0)) (m := l.length)
    ⟨0, by omega, by omega, by simp [isl], by simp [isl], by simp, by simp, rfl, fun k hk => by omega⟩ ?_
  rintro m ⟨t, H'⟩ ⟨i, hi, rfl, h0, h5, h6, h7, rfl, heq⟩
  dsimp only at h0 h5 h6 h7 hi
  refine LW.toK fun Z2 hZ2 => ?_
  repeat (first | refine LW.seq_ops ?_ | refine lrun_end ?_ | (refine lrun_step (by decide) ?_; intro K hK; simp [h0, h5, h6, h7]; refine hK _ _ ?_; clear hK K) | (refine lrun_stepG rfl (by decide) (by decide) ?_; intro K hK; simp [h0, h5, h6, h7]; refine hK _ _ ?_; clear hK K) | (refine lrun_stepN ?_; intro K hK; simp [h0, h5, h6, h7]; refine hK _ _ ?_; clear hK K) | refine LW.seq ?_ | refine LW.block ?_ | refine LW.ops ?_ | refine LW.skip ?_ | refine LW.ret ?_ | refine LW.exit ?_ | refine LW.label ?_ | refine thn_n ?_ | refine thn_r ?_ | refine thn_e ?_ | refine inb_n ?_ | refine inb_r ?_ | refine inb_x ?_ | refine inb_e (by decide) ?_ | (refine LW.ct ?_ ?_; · simp [h0, h5, h6, h7]; done) | (refine LW.cf ?_ ?_; · simp [h0, h5, h6, h7]; done) | fail)
  refine LW.dec (p := i < l.length) (by simp) (fun h2 => ?_) (fun h2 => ?_)
  rotate_left
  · have hr : Rising l := fun k hk => heq k (by omega)
    repeat (first | refine LW.seq_ops ?_ | refine lrun_end ?_ | (refine lrun_step (by decide) ?_; intro K hK; simp; refine hK _ _ ?_; clear hK K) | (refine lrun_stepG rfl (by decide) (by decide) ?_; intro K hK; simp; refine hK _ _ ?_; clear hK K) | (refine lrun_stepN ?_; intro K hK; simp; refine hK _ _ ?_; clear hK K) | refine LW.seq ?_ | refine LW.block ?_ | refine LW.ops ?_ | refine LW.skip ?_ | refine LW.ret ?_ | refine LW.exit ?_ | refine LW.label ?_ | refine thn_n ?_ | refine thn_r ?_ | refine thn_e ?_ | refine inb_n ?_ | refine inb_r ?_ | refine inb_x ?_ | refine inb_e (by decide) ?_ | (refine LW.ct ?_ ?_; · simp; done) | (refine LW.cf ?_ ?_; · simp; done) | fail)
    refine hZ2 _ _ ?_
    repeat (first | refine LW.seq_ops ?_ | refine lrun_end ?_ | (refine lrun_step (by decide) ?_; intro K hK; simp; refine hK _ _ ?_; clear hK K) | (refine lrun_stepG rfl (by decide) (by decide) ?_; intro K hK; simp; refine hK _ _ ?_; clear hK K) | (refine lrun_stepN ?_; intro K hK; simp; refine hK _ _ ?_; clear hK K) | refine LW.seq ?_ | refine LW.block ?_ | refine LW.ops ?_ | refine LW.skip ?_ | refine LW.ret ?_ | refine LW.exit ?_ | refine LW.label ?_ | refine thn_n ?_ | refine thn_r ?_ | refine thn_e ?_ | refine inb_n ?_ | refine inb_r ?_ | refine inb_x ?_ | refine inb_e (by decide) ?_ | (refine LW.ct ?_ ?_; · simp; done) | (refine LW.cf ?_ ?_; · simp; done) | fail)
    refine hZ _ _ ⟨.inr rfl, .b true, by simp [lres, lres1, Tryd.f16], .inl ⟨by simp [hr], rfl⟩⟩
  · have hli : l.getD i 0 = l[i] := by simp [h2]
    repeat (first | refine LW.seq_ops ?_ | refine lrun_end ?_ | (refine lrun_step (by decide) ?_; intro K hK; simp [h0, h5, h6, h7, isl, liaddr, lload, rdv, h2]; refine hK _ _ ?_; clear hK K) | (refine lrun_stepG rfl (by decide) (by decide) ?_; intro K hK; simp [h0, h5, h6, h7, isl, liaddr, lload, rdv, h2]; refine hK _ _ ?_; clear hK K) | (refine lrun_stepN ?_; intro K hK; simp [h0, h5, h6, h7, isl, liaddr, lload, rdv, h2]; refine hK _ _ ?_; clear hK K) | refine LW.seq ?_ | refine LW.block ?_ | refine LW.ops ?_ | refine LW.skip ?_ | refine LW.ret ?_ | refine LW.exit ?_ | refine LW.label ?_ | refine thn_n ?_ | refine thn_r ?_ | refine thn_e ?_ | refine inb_n ?_ | refine inb_r ?_ | refine inb_x ?_ | refine inb_e (by decide) ?_ | (refine LW.ct ?_ ?_; · simp [h0, h5, h6, h7, isl, liaddr, lload, rdv, h2]; done) | (refine LW.cf ?_ ?_; · simp [h0, h5, h6, h7, isl, liaddr, lload, rdv, h2]; done) | fail)
    refine lrun_step (by decide) ?_
    intro K hK
    simp
    refine callK.by (page_LC _ _) ?_
    rintro v H' ⟨rfl, rfl⟩
    refine hK _ _ ?_; clear hK K
    have hli1 : ∀ hi2 : i - 1 < l.length, l.getD (i - 1) 0 = l[i - 1] := fun hi2 => by simp [hi2]
    have hi2 : i - 1 < l.length := by omega
    have hw : IntKind.i64.wrap ((i : Int) + 1) = (i : Int) + 1 := wrap_i64 (by omega) (by omega)
    have good : ((2 ≤ l[i] ∧ l[i] ≤ 999) ∧ (0 < i → l[i - 1] < l[i])) → ∀ k, k < i + 1 → (2 ≤ l.getD k 0 ∧ l.getD k 0 ≤ 999) ∧ (0 < k → l.getD (k - 1) 0 < l.getD k 0) := fun h k hk => by
      rcases Nat.lt_or_ge k i with hk' | hk'
      · exact heq k hk'
      · obtain rfl : k = i := by omega
        rw [hli, hli1 hi2]
        exact h
    have bad : ¬ ((2 ≤ l[i] ∧ l[i] ≤ 999) ∧ (0 < i → l[i - 1] < l[i])) → ¬ Rising l := fun h hr => h (by
      have := hr i h2
      rw [hli, hli1 hi2] at this
      exact this)
    by_cases hp : isPage l[i] = true
    · have hp' : 2 ≤ l[i] ∧ l[i] ≤ 999 := by simpa [isPage] using hp
      by_cases hi0 : 0 < i
      · have hw1 : IntKind.i64.wrap ((i : Int) - 1) = ((i - 1 : Nat) : Int) := by rw [wrap_i64 (by omega) (by omega)]; omega
        by_cases hlt : l[i] ≤ l[i - 1]
        · have hr := bad (fun h => by have := h.2 hi0; omega)
          repeat (first | refine LW.seq_ops ?_ | refine lrun_end ?_ | (refine lrun_step (by decide) ?_; intro K hK; simp [h0, h7, isl, liaddr, lload, rdv, h2, hp, hi0, hw1, hi2, hlt]; refine hK _ _ ?_; clear hK K) | (refine lrun_stepG rfl (by decide) (by decide) ?_; intro K hK; simp [h0, h7, isl, liaddr, lload, rdv, h2, hp, hi0, hw1, hi2, hlt]; refine hK _ _ ?_; clear hK K) | (refine lrun_stepN ?_; intro K hK; simp [h0, h7, isl, liaddr, lload, rdv, h2, hp, hi0, hw1, hi2, hlt]; refine hK _ _ ?_; clear hK K) | refine LW.seq ?_ | refine LW.block ?_ | refine LW.ops ?_ | refine LW.skip ?_ | refine LW.ret ?_ | refine LW.exit ?_ | refine LW.label ?_ | refine thn_n ?_ | refine thn_r ?_ | refine thn_e ?_ | refine inb_n ?_ | refine inb_r ?_ | refine inb_x ?_ | refine inb_e (by decide) ?_ | (refine LW.ct ?_ ?_; · simp [h0, h7, isl, liaddr, lload, rdv, h2, hp, hi0, hw1, hi2, hlt]; done) | (refine LW.cf ?_ ?_; · simp [h0, h7, isl, liaddr, lload, rdv, h2, hp, hi0, hw1, hi2, hlt]; done) | fail)
          refine hZ2 _ _ ?_
          repeat (first | refine LW.seq_ops ?_ | refine lrun_end ?_ | (refine lrun_step (by decide) ?_; intro K hK; simp; refine hK _ _ ?_; clear hK K) | (refine lrun_stepG rfl (by decide) (by decide) ?_; intro K hK; simp; refine hK _ _ ?_; clear hK K) | (refine lrun_stepN ?_; intro K hK; simp; refine hK _ _ ?_; clear hK K) | refine LW.seq ?_ | refine LW.block ?_ | refine LW.ops ?_ | refine LW.skip ?_ | refine LW.ret ?_ | refine LW.exit ?_ | refine LW.label ?_ | refine thn_n ?_ | refine thn_r ?_ | refine thn_e ?_ | refine inb_n ?_ | refine inb_r ?_ | refine inb_x ?_ | refine inb_e (by decide) ?_ | (refine LW.ct ?_ ?_; · simp; done) | (refine LW.cf ?_ ?_; · simp; done) | fail)
          refine hZ _ _ ⟨.inr rfl, .b false, by simp [lres, lres1, Tryd.f16], .inl ⟨by simp [hr], rfl⟩⟩
        · repeat (first | refine LW.seq_ops ?_ | refine lrun_end ?_ | (refine lrun_step (by decide) ?_; intro K hK; simp [h0, h7, isl, liaddr, lload, rdv, h2, hp, hi0, hw1, hi2, hlt, hw]; refine hK _ _ ?_; clear hK K) | (refine lrun_stepG rfl (by decide) (by decide) ?_; intro K hK; simp [h0, h7, isl, liaddr, lload, rdv, h2, hp, hi0, hw1, hi2, hlt, hw]; refine hK _ _ ?_; clear hK K) | (refine lrun_stepN ?_; intro K hK; simp [h0, h7, isl, liaddr, lload, rdv, h2, hp, hi0, hw1, hi2, hlt, hw]; refine hK _ _ ?_; clear hK K) | refine LW.seq ?_ | refine LW.block ?_ | refine LW.ops ?_ | refine LW.skip ?_ | refine LW.ret ?_ | refine LW.exit ?_ | refine LW.label ?_ | refine thn_n ?_ | refine thn_r ?_ | refine thn_e ?_ | refine inb_n ?_ | refine inb_r ?_ | refine inb_x ?_ | refine inb_e (by decide) ?_ | (refine LW.ct ?_ ?_; · simp [h0, h7, isl, liaddr, lload, rdv, h2, hp, hi0, hw1, hi2, hlt, hw]; done) | (refine LW.cf ?_ ?_; · simp [h0, h7, isl, liaddr, lload, rdv, h2, hp, hi0, hw1, hi2, hlt, hw]; done) | fail)
          refine hZ2 _ _ ⟨l.length - (i + 1), by omega, i + 1, by omega, rfl, by simp [h0], by simp [h5], by simp [h6], by simp, rfl, good ⟨hp', fun _ => by omega⟩⟩
      · repeat (first | refine LW.seq_ops ?_ | refine lrun_end ?_ | (refine lrun_step (by decide) ?_; intro K hK; simp [h0, h7, isl, liaddr, lload, rdv, h2, hp, hi0, hw]; refine hK _ _ ?_; clear hK K) | (refine lrun_stepG rfl (by decide) (by decide) ?_; intro K hK; simp [h0, h7, isl, liaddr, lload, rdv, h2, hp, hi0, hw]; refine hK _ _ ?_; clear hK K) | (refine lrun_stepN ?_; intro K hK; simp [h0, h7, isl, liaddr, lload, rdv, h2, hp, hi0, hw]; refine hK _ _ ?_; clear hK K) | refine LW.seq ?_ | refine LW.block ?_ | refine LW.ops ?_ | refine LW.skip ?_ | refine LW.ret ?_ | refine LW.exit ?_ | refine LW.label ?_ | refine thn_n ?_ | refine thn_r ?_ | refine thn_e ?_ | refine inb_n ?_ | refine inb_r ?_ | refine inb_x ?_ | refine inb_e (by decide) ?_ | (refine LW.ct ?_ ?_; · simp [h0, h7, isl, liaddr, lload, rdv, h2, hp, hi0, hw]; done) | (refine LW.cf ?_ ?_; · simp [h0, h7, isl, liaddr, lload, rdv, h2, hp, hi0, hw]; done) | fail)
        refine hZ2 _ _ ⟨l.length - (i + 1), by omega, i + 1, by omega, rfl, by simp [h0], by simp [h5], by simp [h6], by simp, rfl, good ⟨hp', fun h => absurd h hi0⟩⟩
    · have hr := bad (fun h => hp (by simpa [isPage] using h.1))
      repeat (first | refine LW.seq_ops ?_ | refine lrun_end ?_ | (refine lrun_step (by decide) ?_; intro K hK; simp [h0, h7, isl, liaddr, lload, rdv, h2, hp]; refine hK _ _ ?_; clear hK K) | (refine lrun_stepG rfl (by decide) (by decide) ?_; intro K hK; simp [h0, h7, isl, liaddr, lload, rdv, h2, hp]; refine hK _ _ ?_; clear hK K) | (refine lrun_stepN ?_; intro K hK; simp [h0, h7, isl, liaddr, lload, rdv, h2, hp]; refine hK _ _ ?_; clear hK K) | refine LW.seq ?_ | refine LW.block ?_ | refine LW.ops ?_ | refine LW.skip ?_ | refine LW.ret ?_ | refine LW.exit ?_ | refine LW.label ?_ | refine thn_n ?_ | refine thn_r ?_ | refine thn_e ?_ | refine inb_n ?_ | refine inb_r ?_ | refine inb_x ?_ | refine inb_e (by decide) ?_ | (refine LW.ct ?_ ?_; · simp [h0, h7, isl, liaddr, lload, rdv, h2, hp]; done) | (refine LW.cf ?_ ?_; · simp [h0, h7, isl, liaddr, lload, rdv, h2, hp]; done) | fail)
      refine hZ2 _ _ ?_
      repeat (first | refine LW.seq_ops ?_ | refine lrun_end ?_ | (refine lrun_step (by decide) ?_; intro K hK; simp; refine hK _ _ ?_; clear hK K) | (refine lrun_stepG rfl (by decide) (by decide) ?_; intro K hK; simp; refine hK _ _ ?_; clear hK K) | (refine lrun_stepN ?_; intro K hK; simp; refine hK _ _ ?_; clear hK K) | refine LW.seq ?_ | refine LW.block ?_ | refine LW.ops ?_ | refine LW.skip ?_ | refine LW.ret ?_ | refine LW.exit ?_ | refine LW.label ?_ | refine thn_n ?_ | refine thn_r ?_ | refine thn_e ?_ | refine inb_n ?_ | refine inb_r ?_ | refine inb_x ?_ | refine inb_e (by decide) ?_ | (refine LW.ct ?_ ?_; · simp; done) | (refine LW.cf ?_ ?_; · simp; done) | fail)
      refine hZ _ _ ⟨.inr rfl, .b false, by simp [lres, lres1, Tryd.f16], .inl ⟨by simp [hr], rfl⟩⟩
end Go.Lw
