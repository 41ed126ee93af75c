/- slices.Chunk: the iterator -/
import Derived.Test.YtopmghfjdpdncaaDoorF35
set_option linter.unusedSimpArgs false
set_option linter.unusedVariables false
namespace Go.Lw
open Go Go.Proofs Go.RowKit
variable {G : List (Nat × List V)}
attribute [local irreducible] LW callK LC lany lrun ldo oK oK2 oKH gK yieldK LY

theorem chunk_LC (l : List UInt8) (k : Nat) (hk : 1 ≤ k) (H : List LB) : LC Tryd.prog G 37 [bsl l, .i .i64 k] H fun v H' => v = .f (.func 45) [] [.p H.length 0, .p (H.length + 1) 0] ∧ H' = H ++ [.c [bsl l] 32 true] ++ [.c [.i .i64 k] 3 true] := by
  refine LC.of_walk Tryd.f37 9 (by kernel_rfl) (by kernel_rfl) rfl rfl fun Z hZ => ?_
  have e1 := lnew_one (H := H) (e := 32) (v := bsl l) rfl rfl
  have e2 := lnew_one (H := H ++ [.c [bsl l] 32 true]) (e := 3) (v := .i .i64 k) rfl rfl
  have e3 := lload_p (P := Tryd.prog) (ty := 3) (o := 0) (own_get (H := H ++ [.c [bsl l] 32 true]) (b := .c [.i .i64 k] 3 true)) ag3 rfl
  have hl1 : (H ++ [LB.c [bsl l] 32 true]).length = H.length + 1 := by simp
  have n1 : ¬ (k : Int) < 1 := by omega
  have n2 : ¬ k = 0 := by omega
  rw [hl1] at e2 e3
  generalize hH1 : H ++ [LB.c [bsl l] 32 true] = H1 at *
  generalize hH2 : H1 ++ [LB.c [V.i .i64 k] 3 true] = H2 at *
  repeat (first | refine LW.seq_ops ?_ | refine lrun_end ?_ | (refine lrun_step (by decide) ?_; intro K hK; simp [e1, e2, e3, n1, n2]; refine hK _ _ ?_; clear hK K) | (refine lrun_stepG rfl (by decide) (by decide) ?_; intro K hK; simp [e1, e2, e3, n1, n2]; refine hK _ _ ?_; clear hK K) | (refine lrun_stepN ?_; intro K hK; simp [e1, e2, e3, n1, n2]; refine hK _ _ ?_; clear hK K) | refine LW.seq ?_ | refine LW.block ?_ | refine LW.ops ?_ | refine LW.skip ?_ | refine LW.ret ?_ | refine LW.exit ?_ | refine LW.label ?_ | refine thn_n ?_ | refine thn_r ?_ | refine thn_e ?_ | refine inb_n ?_ | refine inb_r ?_ | refine inb_x ?_ | refine inb_e (by decide) ?_ | (refine LW.ct ?_ ?_; · simp [e1, e2, e3, n1, n2]; done) | (refine LW.cf ?_ ?_; · simp [e1, e2, e3, n1, n2]; done) | fail)
  refine hZ _ _ ⟨.inr rfl, .f (.func 45) [] [.p H.length 0, .p (H.length + 1) 0], by simp [lres, lres1, Tryd.f37], .inl ⟨rfl, rfl⟩⟩
end Go.Lw
