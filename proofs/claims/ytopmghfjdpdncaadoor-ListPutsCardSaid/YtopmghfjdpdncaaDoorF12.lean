/- disk.New, of one region of nine pages -/
import Derived.Test.YtopmghfjdpdncaaDoorC1
set_option linter.unusedSimpArgs false
set_option linter.unusedVariables false
namespace Go.Lw
open Go Go.Proofs Go.RowKit
variable {G : List (Nat × List V)}

theorem build55 : lbuild Tryd.prog 55 [] = some (.a [.nsl]) := by kernel_rfl
theorem build60 (m : Nat) : lbuild Tryd.prog 60 [(0, .i .i64 9), (1, .m m), (3, .i .i64 (-1))] = some (.a [.i .i64 9, .m m, .nsl, .i .i64 (-1), .b false]) := by simp [lbuild, places, lfill, put, V.known, V.cells, Value.cells, ofV1]
attribute [local irreducible] LW callK LC lany lrun ldo oK oK2 oKH gK yieldK LY

theorem new_LC (H : List LB) : LC Tryd.prog G 12 [isl [9]] H fun v H' => ∃ q, v = .t [.p H.length 0, .i .i64 0] ∧ DiskAt H' H.length (H.length + 1) (H.length + 2) q .nsl ∧ H'.take H.length = H ∧ H.length + 4 ≤ q := by
  refine LC.of_walk Tryd.f12 44 (by kernel_rfl) (by kernel_rfl) rfl rfl fun Z hZ => ?_
  have hi : llen Tryd.prog (H ++ [LB.c [V.nsl] 55 true]) 22 (isl [9]) = some (.i .i64 1) := by rw [llen_isl ty22]; rfl
  repeat (first | refine LW.seq_ops ?_ | refine lrun_end ?_ | (refine lrun_step (by decide) ?_; intro K hK; simp [llen_isl ty22, build55, lnew_a]; refine hK _ _ ?_; clear hK K) | (refine lrun_stepG rfl (by decide) (by decide) ?_; intro K hK; simp [llen_isl ty22, build55, lnew_a]; refine hK _ _ ?_; clear hK K) | (refine lrun_stepN ?_; intro K hK; simp [llen_isl ty22, build55, lnew_a]; refine hK _ _ ?_; clear hK K) | refine LW.seq ?_ | refine LW.block ?_ | refine LW.ops ?_ | refine LW.skip ?_ | refine LW.ret ?_ | refine LW.exit ?_ | refine LW.label ?_ | refine thn_n ?_ | refine thn_r ?_ | refine thn_e ?_ | refine inb_n ?_ | refine inb_r ?_ | refine inb_x ?_ | refine inb_e (by decide) ?_ | (refine LW.ct ?_ ?_; · simp [llen_isl ty22, build55, lnew_a]; done) | (refine LW.cf ?_ ?_; · simp [llen_isl ty22, build55, lnew_a]; done) | fail)
  refine LW.unroll 2 (LW.un ?_)
  have e3 : liaddr Tryd.prog 22 (isl [9]) (.i .i64 0) = some (.ep [.i .i64 9] 0) := liaddr_isl (l := [9]) (i := 0) ty22 sz3 (by decide)
  generalize hH1 : H ++ [LB.c [V.nsl] 55 true] = H1 at *
  have l1 : H1.length = H.length + 1 := by rw [← hH1]; simp
  have g0 : H1[H.length]? = some (.c [.nsl] 55 true) := by rw [← hH1]; exact own_get
  have e4 := lload_p (P := Tryd.prog) (ty := 53) (o := 0) g0 ag53 rfl
  have e5 : lmakeMap Tryd.prog H1 57 none = some (.m H1.length, H1 ++ [.mp [] 3]) := by simp [lmakeMap]
  generalize hH2 : H1 ++ [LB.mp [] 3] = H2 at *
  have l2 : H2.length = H.length + 2 := by rw [← hH2]; simp [l1]
  have e6 : lnew H2 60 (.a [.i .i64 9, .m H1.length, .nsl, .i .i64 (-1), .b false]) = some (.p H2.length 0, H2 ++ [.c [.i .i64 9, .m H1.length, .nsl, .i .i64 (-1), .b false] 60 true]) := lnew_a
  generalize hH3 : H2 ++ [LB.c [.i .i64 9, .m H1.length, .nsl, .i .i64 (-1), .b false] 60 true] = H3 at *
  have l3 : H3.length = H.length + 3 := by rw [← hH3]; simp [l2]
  have e7 := lbslice_one (P := Tryd.prog) (H := H3) (t := 53) (e := 56) (v := .p H2.length 0) ty53 sz56 ze56 rfl rfl rfl
  have e8 := build60 H1.length
  repeat (first | refine LW.seq_ops ?_ | refine lrun_end ?_ | (refine lrun_step (by decide) ?_; intro K hK; simp [e3, lload_one ag3, e4, e5, e6, e7, e8]; refine hK _ _ ?_; clear hK K) | (refine lrun_stepG rfl (by decide) (by decide) ?_; intro K hK; simp [e3, lload_one ag3, e4, e5, e6, e7, e8]; refine hK _ _ ?_; clear hK K) | (refine lrun_stepN ?_; intro K hK; simp [e3, lload_one ag3, e4, e5, e6, e7, e8]; refine hK _ _ ?_; clear hK K) | refine LW.seq ?_ | refine LW.block ?_ | refine LW.ops ?_ | refine LW.skip ?_ | refine LW.ret ?_ | refine LW.exit ?_ | refine LW.label ?_ | refine thn_n ?_ | refine thn_r ?_ | refine thn_e ?_ | refine inb_n ?_ | refine inb_r ?_ | refine inb_x ?_ | refine inb_e (by decide) ?_ | (refine LW.ct ?_ ?_; · simp [e3, lload_one ag3, e4, e5, e6, e7, e8]; done) | (refine LW.cf ?_ ?_; · simp [e3, lload_one ag3, e4, e5, e6, e7, e8]; done) | fail)
  refine lrun_step (by decide) ?_; intro K hK; simp
  generalize hH4 : H3 ++ [LB.c [V.p H2.length 0] 56 true] = H4 at *
  have l4 : H4.length = H.length + 4 := by rw [← hH4]; simp [l3]
  have g4 : H4[H3.length]? = some (.c [.p H2.length 0] 56 true) := by rw [← hH4]; exact own_get
  refine append_Own (P := Tryd.prog) (k := H4.length) (ats := #[53, 53]) (e := 56) (zv := .pointer none) (by_ := 8) (news := [.p H2.length 0]) (m := 1) (.inl ⟨rfl, rfl⟩) (Nat.le_refl _) rfl rfl ty53 ty53 rfl nf56 (by omega) rfl (lsrc_own1 g4 rfl (by omega)) rfl rfl (by simp) (by simp) ?_
  intro v' H5 ho ht hl
  refine hK _ _ ?_; clear hK K
  rw [List.take_length] at ht
  have up : ∀ r, r < H4.length → H5[r]? = H4[r]? := fun r hr => by
    conv => rhs; rw [← ht]
    rw [List.getElem?_take_of_lt hr]
  rcases ho with ⟨_, h0⟩ | ⟨q, nq, rfl, hq, hq2, hq3⟩
  · simp at h0
  obtain rfl : nq = 1 := by simpa using hq3.symm
  have hd5 : H5[H.length]? = some (.c [.nsl] 55 true) := by
    rw [up _ (by omega), ← hH4, List.getElem?_append_left (by omega), ← hH3, List.getElem?_append_left (by omega), ← hH2, List.getElem?_append_left (by omega)]
    exact g0
  have e9 := lstore_at (P := Tryd.prog) (ty := 53) (o := 0) (v := .own q 0 1 1 1) hd5 sz53 (by simp) rfl rfl rfl
  have w1 : IntKind.i64.wrap 1 = 1 := rfl
  repeat (first | refine LW.seq_ops ?_ | refine lrun_end ?_ | (refine lrun_step (by decide) ?_; intro K hK; simp [e9, w1]; refine hK _ _ ?_; clear hK K) | (refine lrun_stepG rfl (by decide) (by decide) ?_; intro K hK; simp [e9, w1]; refine hK _ _ ?_; clear hK K) | (refine lrun_stepN ?_; intro K hK; simp [e9, w1]; refine hK _ _ ?_; clear hK K) | refine LW.seq ?_ | refine LW.block ?_ | refine LW.ops ?_ | refine LW.skip ?_ | refine LW.ret ?_ | refine LW.exit ?_ | refine LW.label ?_ | refine thn_n ?_ | refine thn_r ?_ | refine thn_e ?_ | refine inb_n ?_ | refine inb_r ?_ | refine inb_x ?_ | refine inb_e (by decide) ?_ | (refine LW.ct ?_ ?_; · simp [e9, w1]; done) | (refine LW.cf ?_ ?_; · simp [e9, w1]; done) | fail)
  refine hZ _ _ ⟨.inr rfl, .t [.p H.length 0, .i .i64 0], by simp [lres, lres1, Tryd.f12], .inl ⟨q, rfl, ⟨?_, ?_, ?_, ?_⟩, ?_, by omega⟩⟩
  · rw [List.getElem?_set_self (by omega)]
  · rw [List.getElem?_set_ne (by omega), hq2, l2]
    rfl
  · rw [List.getElem?_set_ne (by omega), up _ (by omega), ← hH4, List.getElem?_append_left (by omega), ← hH3, ← l2, own_get, l1]
  · rw [List.getElem?_set_ne (by omega), up _ (by omega), ← hH4, List.getElem?_append_left (by omega), ← hH3, List.getElem?_append_left (by omega), ← hH2, ← l1, own_get]
  · rw [List.take_set_of_le (by omega)]
    have : H5.take H.length = (H5.take H4.length).take H.length := by rw [List.take_take, Nat.min_eq_left (by omega)]
    rw [this, ht, ← hH4, List.take_append_of_le_length (by omega), ← hH3, List.take_append_of_le_length (by omega), ← hH2, List.take_append_of_le_length (by omega), ← hH1, List.take_append_of_le_length (by omega), List.take_length]
end Go.Lw
