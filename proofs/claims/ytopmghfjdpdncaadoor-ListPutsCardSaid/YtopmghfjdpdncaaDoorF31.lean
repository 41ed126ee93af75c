/- bytes.Clone, slices.Clone, bytes.Equal, cells.Size, jalousieref07.Size -/
import Derived.Test.YtopmghfjdpdncaaDoorT
set_option linter.unusedSimpArgs false
set_option linter.unusedVariables false
namespace Go.Lw
open Go Go.Proofs Go.RowKit
variable {G : List (Nat × List V)}
attribute [local irreducible] LW callK LC lany lrun ldo oK oK2 oKH gK yieldK LY

theorem append_clone {H : List LB} {l : List UInt8} (hl : l ≠ []) (hn : l.length ≤ 140737488355328) : lappend Tryd.prog (H ++ [.c [] 5 true]) #[32, 32] (.own H.length 0 0 0 0) (bsl l) = some (.own (H.length + 1) 0 l.length l.length 1, H ++ [.c [] 5 true, .c (bcs l) 5 true]) := by
  obtain ⟨inf, hinf, hi1, hi2, hi3⟩ : ∃ inf, Tryd.prog.info? 5 = some inf ∧ inf.zero = some (.int .u8 0) ∧ inf.size = 1 ∧ inf.bytes = 1 := by
    have := nf5
    unfold tinf at this
    cases hp : Tryd.prog.info? 5 with
    | none => rw [hp] at this; cases this
    | some inf =>
      rw [hp] at this
      injection this with this
      injection this with a b
      injection b with b c
      exact ⟨inf, rfl, a, b, c⟩
  have hl0 : l.length ≠ 0 := fun e => hl (List.eq_nil_of_length_eq_zero e)
  have hflat : (bcs l).flatMap V.cells = bcs l := by
    unfold bcs
    rw [List.flatMap_map]
    induction l with
    | nil => rfl
    | cons c l ih =>
      cases l with
      | nil => rfl
      | cons d l => 
        rw [List.flatMap_cons, ih (by simp) (by simp at hn ⊢; omega) (by simp)]
        rfl
  have hone : (bcs l).all V.one = true := by simp [bcs]
  unfold lappend
  simp only [List.getElem?_toArray, List.getElem?_cons_zero, List.getElem?_cons_succ, ty32, hinf, hi1, hi2, hi3]
  rw [if_pos ⟨rfl, by omega, rfl⟩, bsl, lsrc_sl]
  simp only [hflat, hone, if_true, bcs_length, if_neg hl0, own_get]
  rw [if_pos (by simp), if_neg (by omega), if_pos ⟨by omega, by omega⟩]
  simp

theorem clone_LC (l : List UInt8) (hl : l ≠ []) (hn : l.length ≤ 140737488355328) (H : List LB) : LC Tryd.prog G 31 [bsl l] H fun v H' => v = bsl l ∧ H' = H := by
  refine LC.of_walk Tryd.f31 8 (by kernel_rfl) (by kernel_rfl) rfl rfl fun Z hZ => ?_
  have hnil : ∀ lit, lbin Tryd.prog .eql 32 lit (bsl l) .nsl = some (.b false) := fun lit => by
    cases l with
    | nil => exact absurd rfl hl
    | cons c l => simp [lbin, scal, bsl, bcs, leq]
  have hbs : lbslice Tryd.prog H 32 0 [] = some (.own H.length 0 0 0 0, H ++ [.c [] 5 true]) := by
    simp [lbslice, Value.cells, lfill, rep]
  repeat (first | refine LW.seq_ops ?_ | refine lrun_end ?_ | (refine lrun_step (by decide) ?_; intro K hK; simp [hnil, hbs, append_clone hl hn]; refine hK _ _ ?_; clear hK K) | (refine lrun_stepG rfl (by decide) (by decide) ?_; intro K hK; simp [hnil, hbs, append_clone hl hn]; refine hK _ _ ?_; clear hK K) | (refine lrun_stepN ?_; intro K hK; simp [hnil, hbs, append_clone hl hn]; refine hK _ _ ?_; clear hK K) | refine LW.seq ?_ | refine LW.block ?_ | refine LW.ops ?_ | refine LW.skip ?_ | refine LW.ret ?_ | refine LW.exit ?_ | refine LW.label ?_ | refine thn_n ?_ | refine thn_r ?_ | refine thn_e ?_ | refine inb_n ?_ | refine inb_r ?_ | refine inb_x ?_ | refine inb_e (by decide) ?_ | (refine LW.ct ?_ ?_; · simp [hnil, hbs, append_clone hl hn]; done) | (refine LW.cf ?_ ?_; · simp [hnil, hbs, append_clone hl hn]; done) | fail)
  refine hZ _ _ ⟨.inr rfl, .own (H.length + 1) 0 l.length l.length 1, by simp [lres, lres1, Tryd.f31], leave_pur (pur_bytes (l := l) (mu := true) (e := 5) ?_ (by omega) rfl) ⟨rfl, rfl⟩⟩
  simp

theorem sclone_LC (l : List UInt8) (hl : l ≠ []) (hn : l.length ≤ 140737488355328) (H : List LB) : LC Tryd.prog G 46 [bsl l] H fun v H' => v = bsl l ∧ H' = H := by
  refine LC.of_walk Tryd.f46 8 (by kernel_rfl) (by kernel_rfl) rfl rfl fun Z hZ => ?_
  have hnil : ∀ lit, lbin Tryd.prog .eql 32 lit (bsl l) .nsl = some (.b false) := fun lit => by
    cases l with
    | nil => exact absurd rfl hl
    | cons c l => simp [lbin, scal, bsl, bcs, leq]
  have hbs : lbslice Tryd.prog H 32 0 [] = some (.own H.length 0 0 0 0, H ++ [.c [] 5 true]) := by
    simp [lbslice, Value.cells, lfill, rep]
  repeat (first | refine LW.seq_ops ?_ | refine lrun_end ?_ | (refine lrun_step (by decide) ?_; intro K hK; simp [hnil, hbs, append_clone hl hn]; refine hK _ _ ?_; clear hK K) | (refine lrun_stepG rfl (by decide) (by decide) ?_; intro K hK; simp [hnil, hbs, append_clone hl hn]; refine hK _ _ ?_; clear hK K) | (refine lrun_stepN ?_; intro K hK; simp [hnil, hbs, append_clone hl hn]; refine hK _ _ ?_; clear hK K) | refine LW.seq ?_ | refine LW.block ?_ | refine LW.ops ?_ | refine LW.skip ?_ | refine LW.ret ?_ | refine LW.exit ?_ | refine LW.label ?_ | refine thn_n ?_ | refine thn_r ?_ | refine thn_e ?_ | refine inb_n ?_ | refine inb_r ?_ | refine inb_x ?_ | refine inb_e (by decide) ?_ | (refine LW.ct ?_ ?_; · simp [hnil, hbs, append_clone hl hn]; done) | (refine LW.cf ?_ ?_; · simp [hnil, hbs, append_clone hl hn]; done) | fail)
  refine hZ _ _ ⟨.inr rfl, .own (H.length + 1) 0 l.length l.length 1, by simp [lres, lres1, Tryd.f46], leave_pur (pur_bytes (l := l) (mu := true) (e := 5) ?_ (by omega) rfl) ⟨rfl, rfl⟩⟩
  simp

theorem equal_LC (a b : List UInt8) (H : List LB) : LC Tryd.prog G 44 [bsl a, bsl b] H fun v H' => v = .b (decide (a = b)) ∧ H' = H := by
  refine LC.of_walk Tryd.f44 10 (by kernel_rfl) (by kernel_rfl) rfl rfl fun Z hZ => ?_
  repeat (first | refine LW.seq_ops ?_ | refine lrun_end ?_ | (refine lrun_step (by decide) ?_; intro K hK; simp [convK_bsl ty32 ty9 ty5, BA_inj]; refine hK _ _ ?_; clear hK K) | (refine lrun_stepG rfl (by decide) (by decide) ?_; intro K hK; simp [convK_bsl ty32 ty9 ty5, BA_inj]; refine hK _ _ ?_; clear hK K) | (refine lrun_stepN ?_; intro K hK; simp [convK_bsl ty32 ty9 ty5, BA_inj]; refine hK _ _ ?_; clear hK K) | refine LW.seq ?_ | refine LW.block ?_ | refine LW.ops ?_ | refine LW.skip ?_ | refine LW.ret ?_ | refine LW.exit ?_ | refine LW.label ?_ | refine thn_n ?_ | refine thn_r ?_ | refine thn_e ?_ | refine inb_n ?_ | refine inb_r ?_ | refine inb_x ?_ | refine inb_e (by decide) ?_ | (refine LW.ct ?_ ?_; · simp [convK_bsl ty32 ty9 ty5, BA_inj]; done) | (refine LW.cf ?_ ?_; · simp [convK_bsl ty32 ty9 ty5, BA_inj]; done) | fail)
  refine hZ _ _ ⟨.inr rfl, .b (decide (a = b)), by simp [lres, lres1, Tryd.f44], .inl ⟨rfl, rfl⟩⟩

/-- How many bytes cells take, with a slot each. -/
def sizeOf2 (ls : List (List UInt8)) : Nat := (ls.map fun c => c.length + 1).sum

theorem sizeOf2_take {ls : List (List UInt8)} {i : Nat} (h : i < ls.length) : sizeOf2 (ls.take (i + 1)) = sizeOf2 (ls.take i) + (ls[i].length + 1) := by
  unfold sizeOf2
  rw [List.take_succ_eq_append_getElem h, List.map_append, List.sum_append]
  simp only [List.map_cons, List.map_nil, List.sum_cons, List.sum_nil, Nat.add_zero]

theorem sizeOf2_le {ls : List (List UInt8)} (i : Nat) : sizeOf2 (ls.take i) ≤ sizeOf2 ls := by
  have : sizeOf2 ls = sizeOf2 (ls.take i) + sizeOf2 (ls.drop i) := by
    unfold sizeOf2
    conv => lhs; rw [← List.take_append_drop i ls]
    rw [List.map_append, List.sum_append]
  omega

theorem sizeOf2_len (ls : List (List UInt8)) : ls.length ≤ sizeOf2 ls := by
  unfold sizeOf2
  induction ls with
  | nil => simp
  | cons a ls ih => simp at ih ⊢; omega

theorem size_LC (ls : List (List UInt8)) (hn : sizeOf2 ls ≤ 4611686018427387904) (H : List LB) : LC Tryd.prog G 29 [bbl ls] H fun v H' => v = .i .i64 (sizeOf2 ls : Int) ∧ H' = H := by
  refine LC.of_walk Tryd.f29 20 (by kernel_rfl) (by kernel_rfl) rfl rfl fun Z hZ => ?_
  have hll := sizeOf2_len ls
  repeat (first | refine LW.seq_ops ?_ | refine lrun_end ?_ | (refine lrun_step (by decide) ?_; intro K hK; simp [bbl, llen_sl ty25]; refine hK _ _ ?_; clear hK K) | (refine lrun_stepG rfl (by decide) (by decide) ?_; intro K hK; simp [bbl, llen_sl ty25]; refine hK _ _ ?_; clear hK K) | (refine lrun_stepN ?_; intro K hK; simp [bbl, llen_sl ty25]; refine hK _ _ ?_; clear hK K) | refine LW.seq ?_ | refine LW.block ?_ | refine LW.ops ?_ | refine LW.skip ?_ | refine LW.ret ?_ | refine LW.exit ?_ | refine LW.label ?_ | refine thn_n ?_ | refine thn_r ?_ | refine thn_e ?_ | refine inb_n ?_ | refine inb_r ?_ | refine inb_x ?_ | refine inb_e (by decide) ?_ | (refine LW.ct ?_ ?_; · simp [bbl, llen_sl ty25]; done) | (refine LW.cf ?_ ?_; · simp [bbl, llen_sl ty25]; done) | fail)
  refine LW.loopN (fun m s => ∃ (i : Nat), i ≤ ls.length ∧ m = ls.length - i ∧ s.t 8 = bbl ls ∧ s.t 9 = .i .i64 ls.length ∧ s.t 10 = .i .i64 i ∧ s.t 3 = .i .i64 ((sizeOf2 (ls.take i) + (ls.length - i) : Nat) : Int) ∧ s.H = H) (m := ls.length)
    ⟨0, by omega, by omega, by simp [bbl], by simp, by simp, by simp [sizeOf2], rfl⟩ ?_
  rintro m ⟨t, H'⟩ ⟨i, hi, rfl, h8, h9, h10, h3, rfl⟩
  dsimp only at h8 h9 h10 h3 hi
  refine LW.toK fun Z2 hZ2 => ?_
  repeat (first | refine LW.seq_ops ?_ | refine lrun_end ?_ | (refine lrun_step (by decide) ?_; intro K hK; simp [h9, h10]; refine hK _ _ ?_; clear hK K) | (refine lrun_stepG rfl (by decide) (by decide) ?_; intro K hK; simp [h9, h10]; refine hK _ _ ?_; clear hK K) | (refine lrun_stepN ?_; intro K hK; simp [h9, h10]; refine hK _ _ ?_; clear hK K) | refine LW.seq ?_ | refine LW.block ?_ | refine LW.ops ?_ | refine LW.skip ?_ | refine LW.ret ?_ | refine LW.exit ?_ | refine LW.label ?_ | refine thn_n ?_ | refine thn_r ?_ | refine thn_e ?_ | refine inb_n ?_ | refine inb_r ?_ | refine inb_x ?_ | refine inb_e (by decide) ?_ | (refine LW.ct ?_ ?_; · simp [h9, h10]; done) | (refine LW.cf ?_ ?_; · simp [h9, h10]; done) | fail)
  refine LW.dec (p := i < ls.length) (by simp) (fun h2 => ?_) (fun h2 => ?_)
  rotate_left
  · obtain rfl : i = ls.length := by omega
    repeat (first | refine LW.seq_ops ?_ | refine lrun_end ?_ | (refine lrun_step (by decide) ?_; intro K hK; simp; refine hK _ _ ?_; clear hK K) | (refine lrun_stepG rfl (by decide) (by decide) ?_; intro K hK; simp; refine hK _ _ ?_; clear hK K) | (refine lrun_stepN ?_; intro K hK; simp; refine hK _ _ ?_; clear hK K) | refine LW.seq ?_ | refine LW.block ?_ | refine LW.ops ?_ | refine LW.skip ?_ | refine LW.ret ?_ | refine LW.exit ?_ | refine LW.label ?_ | refine thn_n ?_ | refine thn_r ?_ | refine thn_e ?_ | refine inb_n ?_ | refine inb_r ?_ | refine inb_x ?_ | refine inb_e (by decide) ?_ | (refine LW.ct ?_ ?_; · simp; done) | (refine LW.cf ?_ ?_; · simp; done) | fail)
    refine hZ2 _ _ ?_
    repeat (first | refine LW.seq_ops ?_ | refine lrun_end ?_ | (refine lrun_step (by decide) ?_; intro K hK; simp [h3]; refine hK _ _ ?_; clear hK K) | (refine lrun_stepG rfl (by decide) (by decide) ?_; intro K hK; simp [h3]; refine hK _ _ ?_; clear hK K) | (refine lrun_stepN ?_; intro K hK; simp [h3]; refine hK _ _ ?_; clear hK K) | refine LW.seq ?_ | refine LW.block ?_ | refine LW.ops ?_ | refine LW.skip ?_ | refine LW.ret ?_ | refine LW.exit ?_ | refine LW.label ?_ | refine thn_n ?_ | refine thn_r ?_ | refine thn_e ?_ | refine inb_n ?_ | refine inb_r ?_ | refine inb_x ?_ | refine inb_e (by decide) ?_ | (refine LW.ct ?_ ?_; · simp [h3]; done) | (refine LW.cf ?_ ?_; · simp [h3]; done) | fail)
    refine hZ _ _ ⟨.inr rfl, _, by simp [lres, lres1, Tryd.f29]; rfl, .inl ⟨by simp, rfl⟩⟩
  · have hle := sizeOf2_le (ls := ls) (i + 1)
    rw [sizeOf2_take h2] at hle
    have e1 : IntKind.i64.wrap ((i : Int) + 1) = (i : Int) + 1 := wrap_i64 (by omega) (by omega)
    have e2 : IntKind.i64.wrap (((sizeOf2 (ls.take i) + (ls.length - i) : Nat) : Int) + (ls[i].length : Int)) = ((sizeOf2 (ls.take (i + 1)) + (ls.length - (i + 1)) : Nat) : Int) := by
      rw [wrap_i64 (by omega) (by omega), sizeOf2_take h2]
      omega
    have e3 : liaddr Tryd.prog 25 (bbl ls) (.i .i64 (i : Int)) = some (.ep [bsl ls[i]] 0) := by
      unfold bbl
      exact liaddr_sl (y := bsl ls[i]) ty25 sz32 (by simp [h2])
    generalize hA : sizeOf2 (ls.take i) + (ls.length - i) = A at *
    repeat (first | refine LW.seq_ops ?_ | refine lrun_end ?_ | (refine lrun_step (by decide) ?_; intro K hK; simp [h8, h10, h3, e3, lload_one ag32, llen_bsl ty32, e2, e1]; refine hK _ _ ?_; clear hK K) | (refine lrun_stepG rfl (by decide) (by decide) ?_; intro K hK; simp [h8, h10, h3, e3, lload_one ag32, llen_bsl ty32, e2, e1]; refine hK _ _ ?_; clear hK K) | (refine lrun_stepN ?_; intro K hK; simp [h8, h10, h3, e3, lload_one ag32, llen_bsl ty32, e2, e1]; refine hK _ _ ?_; clear hK K) | refine LW.seq ?_ | refine LW.block ?_ | refine LW.ops ?_ | refine LW.skip ?_ | refine LW.ret ?_ | refine LW.exit ?_ | refine LW.label ?_ | refine thn_n ?_ | refine thn_r ?_ | refine thn_e ?_ | refine inb_n ?_ | refine inb_r ?_ | refine inb_x ?_ | refine inb_e (by decide) ?_ | (refine LW.ct ?_ ?_; · simp [h8, h10, h3, e3, lload_one ag32, llen_bsl ty32, e2, e1]; done) | (refine LW.cf ?_ ?_; · simp [h8, h10, h3, e3, lload_one ag32, llen_bsl ty32, e2, e1]; done) | fail)
    refine hZ2 _ _ ⟨ls.length - (i + 1), by omega, i + 1, by omega, rfl, by simp [h8], by simp [h9], by simp, by simp, rfl⟩

/-- The same, as texts. -/
theorem rsize_LC (ls : List (List UInt8)) (hn : sizeOf2 ls ≤ 4611686018427387904) (H : List LB) : LC Tryd.prog G 32 [ssl (ls.map BA)] H fun v H' => v = .i .i64 (sizeOf2 ls : Int) ∧ H' = H := by
  refine LC.of_walk Tryd.f32 20 (by kernel_rfl) (by kernel_rfl) rfl rfl fun Z hZ => ?_
  have hll := sizeOf2_len ls
  repeat (first | refine LW.seq_ops ?_ | refine lrun_end ?_ | (refine lrun_step (by decide) ?_; intro K hK; simp; refine hK _ _ ?_; clear hK K) | (refine lrun_stepG rfl (by decide) (by decide) ?_; intro K hK; simp; refine hK _ _ ?_; clear hK K) | (refine lrun_stepN ?_; intro K hK; simp; refine hK _ _ ?_; clear hK K) | refine LW.seq ?_ | refine LW.block ?_ | refine LW.ops ?_ | refine LW.skip ?_ | refine LW.ret ?_ | refine LW.exit ?_ | refine LW.label ?_ | refine thn_n ?_ | refine thn_r ?_ | refine thn_e ?_ | refine inb_n ?_ | refine inb_r ?_ | refine inb_x ?_ | refine inb_e (by decide) ?_ | (refine LW.ct ?_ ?_; · simp; done) | (refine LW.cf ?_ ?_; · simp; done) | fail)
  refine LW.loopN (fun m s => ∃ (i : Nat), i ≤ ls.length ∧ m = ls.length - i ∧ s.t 0 = ssl (ls.map BA) ∧ s.t 4 = .i .i64 i ∧ s.t 3 = .i .i64 (sizeOf2 (ls.take i) : Int) ∧ s.H = H) (m := ls.length)
    ⟨0, by omega, by omega, by simp, by simp, by simp [sizeOf2], rfl⟩ ?_
  rintro m ⟨t, H'⟩ ⟨i, hi, rfl, h0, h4, h3, rfl⟩
  dsimp only at h0 h4 h3 hi
  refine LW.toK fun Z2 hZ2 => ?_
  repeat (first | refine LW.seq_ops ?_ | refine lrun_end ?_ | (refine lrun_step (by decide) ?_; intro K hK; simp [h0, h4, ssl, llen_sl ty29]; refine hK _ _ ?_; clear hK K) | (refine lrun_stepG rfl (by decide) (by decide) ?_; intro K hK; simp [h0, h4, ssl, llen_sl ty29]; refine hK _ _ ?_; clear hK K) | (refine lrun_stepN ?_; intro K hK; simp [h0, h4, ssl, llen_sl ty29]; refine hK _ _ ?_; clear hK K) | refine LW.seq ?_ | refine LW.block ?_ | refine LW.ops ?_ | refine LW.skip ?_ | refine LW.ret ?_ | refine LW.exit ?_ | refine LW.label ?_ | refine thn_n ?_ | refine thn_r ?_ | refine thn_e ?_ | refine inb_n ?_ | refine inb_r ?_ | refine inb_x ?_ | refine inb_e (by decide) ?_ | (refine LW.ct ?_ ?_; · simp [h0, h4, ssl, llen_sl ty29]; done) | (refine LW.cf ?_ ?_; · simp [h0, h4, ssl, llen_sl ty29]; done) | fail)
  refine LW.dec (p := i < ls.length) (by simp) (fun h2 => ?_) (fun h2 => ?_)
  rotate_left
  · obtain rfl : i = ls.length := by omega
    repeat (first | refine LW.seq_ops ?_ | refine lrun_end ?_ | (refine lrun_step (by decide) ?_; intro K hK; simp; refine hK _ _ ?_; clear hK K) | (refine lrun_stepG rfl (by decide) (by decide) ?_; intro K hK; simp; refine hK _ _ ?_; clear hK K) | (refine lrun_stepN ?_; intro K hK; simp; refine hK _ _ ?_; clear hK K) | refine LW.seq ?_ | refine LW.block ?_ | refine LW.ops ?_ | refine LW.skip ?_ | refine LW.ret ?_ | refine LW.exit ?_ | refine LW.label ?_ | refine thn_n ?_ | refine thn_r ?_ | refine thn_e ?_ | refine inb_n ?_ | refine inb_r ?_ | refine inb_x ?_ | refine inb_e (by decide) ?_ | (refine LW.ct ?_ ?_; · simp; done) | (refine LW.cf ?_ ?_; · simp; done) | fail)
    refine hZ2 _ _ ?_
    repeat (first | refine LW.seq_ops ?_ | refine lrun_end ?_ | (refine lrun_step (by decide) ?_; intro K hK; simp [h3]; refine hK _ _ ?_; clear hK K) | (refine lrun_stepG rfl (by decide) (by decide) ?_; intro K hK; simp [h3]; refine hK _ _ ?_; clear hK K) | (refine lrun_stepN ?_; intro K hK; simp [h3]; refine hK _ _ ?_; clear hK K) | refine LW.seq ?_ | refine LW.block ?_ | refine LW.ops ?_ | refine LW.skip ?_ | refine LW.ret ?_ | refine LW.exit ?_ | refine LW.label ?_ | refine thn_n ?_ | refine thn_r ?_ | refine thn_e ?_ | refine inb_n ?_ | refine inb_r ?_ | refine inb_x ?_ | refine inb_e (by decide) ?_ | (refine LW.ct ?_ ?_; · simp [h3]; done) | (refine LW.cf ?_ ?_; · simp [h3]; done) | fail)
    refine hZ _ _ ⟨.inr rfl, _, by simp [lres, lres1, Tryd.f32]; rfl, .inl ⟨by simp, rfl⟩⟩
  · have hle := sizeOf2_le (ls := ls) (i + 1)
    rw [sizeOf2_take h2] at hle
    have e1 : IntKind.i64.wrap ((i : Int) + 1) = (i : Int) + 1 := wrap_i64 (by omega) (by omega)
    have e0 : IntKind.i64.wrap ((ls[i].length : Int) + 1) = (ls[i].length : Int) + 1 := wrap_i64 (by omega) (by omega)
    have e2 : IntKind.i64.wrap ((sizeOf2 (ls.take i) : Int) + ((ls[i].length : Int) + 1)) = ((sizeOf2 (ls.take (i + 1)) : Nat) : Int) := by
      rw [wrap_i64 (by omega) (by omega), sizeOf2_take h2]
      omega
    have e3 : liaddr Tryd.prog 29 (ssl (ls.map BA)) (.i .i64 (i : Int)) = some (.ep [.s (BA ls[i])] 0) := by
      unfold ssl
      exact liaddr_sl (y := .s (BA ls[i])) ty29 sz9 (by simp [h2])
    generalize hA : sizeOf2 (ls.take i) = A at *
    repeat (first | refine LW.seq_ops ?_ | refine lrun_end ?_ | (refine lrun_step (by decide) ?_; intro K hK; simp [h0, h4, h3, e3, lload_one ag9, llen_BA ty9, e0, e2, e1]; refine hK _ _ ?_; clear hK K) | (refine lrun_stepG rfl (by decide) (by decide) ?_; intro K hK; simp [h0, h4, h3, e3, lload_one ag9, llen_BA ty9, e0, e2, e1]; refine hK _ _ ?_; clear hK K) | (refine lrun_stepN ?_; intro K hK; simp [h0, h4, h3, e3, lload_one ag9, llen_BA ty9, e0, e2, e1]; refine hK _ _ ?_; clear hK K) | refine LW.seq ?_ | refine LW.block ?_ | refine LW.ops ?_ | refine LW.skip ?_ | refine LW.ret ?_ | refine LW.exit ?_ | refine LW.label ?_ | refine thn_n ?_ | refine thn_r ?_ | refine thn_e ?_ | refine inb_n ?_ | refine inb_r ?_ | refine inb_x ?_ | refine inb_e (by decide) ?_ | (refine LW.ct ?_ ?_; · simp [h0, h4, h3, e3, lload_one ag9, llen_BA ty9, e0, e2, e1]; done) | (refine LW.cf ?_ ?_; · simp [h0, h4, h3, e3, lload_one ag9, llen_BA ty9, e0, e2, e1]; done) | fail)
    refine hZ2 _ _ ⟨ls.length - (i + 1), by omega, i + 1, by omega, rfl, by simp [h0], by simp, by simp, rfl⟩
end Go.Lw
