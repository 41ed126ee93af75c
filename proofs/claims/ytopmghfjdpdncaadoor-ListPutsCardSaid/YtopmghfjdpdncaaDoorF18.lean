/- octet.Num, jalousieref01.Num -/
import Derived.Test.YtopmghfjdpdncaaDoorT
set_option linter.unusedSimpArgs false
set_option linter.unusedVariables false
namespace Go.Lw
open Go Go.Proofs Go.RowKit
variable {G : List (Nat × List V)}
attribute [local irreducible] LW callK LC lany lrun ldo oK oK2 oKH gK yieldK LY

theorem num_LC (x size : Nat) (hx : x < 18446744073709551616) (hs1 : 1 ≤ size) (hs2 : size ≤ 8) (H : List LB) :
    LC Tryd.prog G 18 [.i .u64 (x : Int), .i .i64 (size : Int)] H fun v H' => v = bsl (numB x size) ∧ H' = H := by
  refine LC.of_walk Tryd.f18 33 (by kernel_rfl) (by kernel_rfl) rfl rfl fun Z hZ => ?_
  have n1 : ¬ (size : Int) < 1 := by omega
  have n2 : ¬ 8 < (size : Int) := by omega
  have hmk := lmake_one (P := Tryd.prog) (H := H) (t := 32) (k := .i64) (k' := .i64) ty32 nf5 rfl size (by omega) (by omega)
  repeat (first | refine LW.seq_ops ?_ | refine lrun_end ?_ | (refine lrun_step (by decide) ?_; intro K hK; simp [n1, n2, hmk, ofV1, llen_own ty32]; refine hK _ _ ?_; clear hK K) | (refine lrun_stepG rfl (by decide) (by decide) ?_; intro K hK; simp [n1, n2, hmk, ofV1, llen_own ty32]; refine hK _ _ ?_; clear hK K) | (refine lrun_stepN ?_; intro K hK; simp [n1, n2, hmk, ofV1, llen_own ty32]; refine hK _ _ ?_; clear hK K) | refine LW.seq ?_ | refine LW.block ?_ | refine LW.ops ?_ | refine LW.skip ?_ | refine LW.ret ?_ | refine LW.exit ?_ | refine LW.label ?_ | refine thn_n ?_ | refine thn_r ?_ | refine thn_e ?_ | refine inb_n ?_ | refine inb_r ?_ | refine inb_x ?_ | refine inb_e (by decide) ?_ | (refine LW.ct ?_ ?_; · simp [n1, n2, hmk, ofV1, llen_own ty32]; done) | (refine LW.cf ?_ ?_; · simp [n1, n2, hmk, ofV1, llen_own ty32]; done) | fail)
  refine LW.loopN (fun m s => ∃ (i : Nat), i ≤ size ∧ m = size - i ∧ s.t 0 = .i .u64 (x : Int) ∧ s.t 1 = .i .i64 size ∧ s.t 5 = .own H.length 0 size size 0 ∧ s.t 16 = .i .i64 size ∧ s.t 17 = .i .i64 i ∧ s.H = H ++ [.c (List.replicate (size - i) (.i .u8 0) ++ bcs (numB x i)) 5 true]) (m := size)
    ⟨0, by omega, by omega, by simp, by simp, by simp, by simp, by simp, by simp [numB, bcs]⟩ ?_
  rintro m ⟨t, H'⟩ ⟨i, hi, rfl, h0, h1, h5, h16, h17, rfl⟩
  dsimp only at h0 h1 h5 h16 h17 hi
  refine LW.toK fun Z2 hZ2 => ?_
  repeat (first | refine LW.seq_ops ?_ | refine lrun_end ?_ | (refine lrun_step (by decide) ?_; intro K hK; simp [h16, h17]; refine hK _ _ ?_; clear hK K) | (refine lrun_stepG rfl (by decide) (by decide) ?_; intro K hK; simp [h16, h17]; refine hK _ _ ?_; clear hK K) | (refine lrun_stepN ?_; intro K hK; simp [h16, h17]; refine hK _ _ ?_; clear hK K) | refine LW.seq ?_ | refine LW.block ?_ | refine LW.ops ?_ | refine LW.skip ?_ | refine LW.ret ?_ | refine LW.exit ?_ | refine LW.label ?_ | refine thn_n ?_ | refine thn_r ?_ | refine thn_e ?_ | refine inb_n ?_ | refine inb_r ?_ | refine inb_x ?_ | refine inb_e (by decide) ?_ | (refine LW.ct ?_ ?_; · simp [h16, h17]; done) | (refine LW.cf ?_ ?_; · simp [h16, h17]; done) | fail)
  refine LW.dec (p := i < size) (by simp) (fun h2 => ?_) (fun h2 => ?_)
  rotate_left
  · obtain rfl : i = size := by omega
    repeat (first | refine LW.seq_ops ?_ | refine lrun_end ?_ | (refine lrun_step (by decide) ?_; intro K hK; simp; refine hK _ _ ?_; clear hK K) | (refine lrun_stepG rfl (by decide) (by decide) ?_; intro K hK; simp; refine hK _ _ ?_; clear hK K) | (refine lrun_stepN ?_; intro K hK; simp; refine hK _ _ ?_; clear hK K) | refine LW.seq ?_ | refine LW.block ?_ | refine LW.ops ?_ | refine LW.skip ?_ | refine LW.ret ?_ | refine LW.exit ?_ | refine LW.label ?_ | refine thn_n ?_ | refine thn_r ?_ | refine thn_e ?_ | refine inb_n ?_ | refine inb_r ?_ | refine inb_x ?_ | refine inb_e (by decide) ?_ | (refine LW.ct ?_ ?_; · simp; done) | (refine LW.cf ?_ ?_; · simp; done) | fail)
    refine hZ2 _ _ ?_
    repeat (first | refine LW.seq_ops ?_ | refine lrun_end ?_ | (refine lrun_step (by decide) ?_; intro K hK; simp [h5]; refine hK _ _ ?_; clear hK K) | (refine lrun_stepG rfl (by decide) (by decide) ?_; intro K hK; simp [h5]; refine hK _ _ ?_; clear hK K) | (refine lrun_stepN ?_; intro K hK; simp [h5]; refine hK _ _ ?_; clear hK K) | refine LW.seq ?_ | refine LW.block ?_ | refine LW.ops ?_ | refine LW.skip ?_ | refine LW.ret ?_ | refine LW.exit ?_ | refine LW.label ?_ | refine thn_n ?_ | refine thn_r ?_ | refine thn_e ?_ | refine inb_n ?_ | refine inb_r ?_ | refine inb_x ?_ | refine inb_e (by decide) ?_ | (refine LW.ct ?_ ?_; · simp [h5]; done) | (refine LW.cf ?_ ?_; · simp [h5]; done) | fail)
    refine hZ _ _ ⟨.inr rfl, .own H.length 0 i i 0, by simp [lres, lres1, Tryd.f18], leave_pur (pur_bytes (l := numB x i) (mu := true) (e := 5) ?_ (Nat.le_refl _) (numB_length x i)) ⟨rfl, rfl⟩⟩
    simp
  · have e1 : IntKind.i64.wrap ((size : Int) - 1) = ((size - 1 : Nat) : Int) := by rw [wrap_i64 (by omega) (by omega)]; omega
    have e2 : IntKind.i64.wrap (((size - 1 : Nat) : Int) - (i : Int)) = ((size - 1 - i : Nat) : Int) := by rw [wrap_i64 (by omega) (by omega)]; omega
    have e3 : IntKind.i64.wrap (8 * (i : Int)) = ((8 * i : Nat) : Int) := by rw [wrap_i64 (by omega) (by omega)]; omega
    have e4 : ∀ {P : Program} {ty : TypeId} {lit : Bool}, lbin P .shr ty lit (.i .u64 (x : Int)) (.i .i64 ((8 * i : Nat) : Int)) = some (.i .u64 ((x / 256 ^ i : Nat) : Int)) := by
      intro P ty lit
      rw [lbin_shr (by omega)]
      have : min ((8 * i : Nat) : Int).toNat IntKind.u64.bits = 8 * i := by
        show min ((8 * i : Nat) : Int).toNat 64 = 8 * i
        omega
      rw [this, nat_shr, Nat.pow_mul]
    have e5 : IntKind.u8.wrap ((x / 256 ^ i : Nat) : Int) = (((UInt8.ofNat (x / 256 ^ i % 256)).toNat : Nat) : Int) := wrap_u8_nat _
    have e6 : IntKind.i64.wrap ((i : Int) + 1) = (i : Int) + 1 := wrap_i64 (by omega) (by omega)
    have e7 := liaddr_own (P := Tryd.prog) (t := 32) (e := 5) (z := 1) (i := size - 1 - i) (k := .i64) (r := H.length) (o := 0) (n := size) (c := size) (x := 0) ty32 sz5 (by omega)
    have e8 : put (List.replicate (size - i) (.i .u8 0) ++ bcs (numB x i)) (size - 1 - i) [.i .u8 (((UInt8.ofNat (x / 256 ^ i % 256)).toNat : Nat) : Int)] = List.replicate (size - (i + 1)) (.i .u8 0) ++ bcs (numB x (i + 1)) := by
      rw [put_one, numB_cons]
      rw [List.take_append_of_le_length (by simp; omega), List.drop_append_of_le_length (by simp; omega)]
      rw [List.take_replicate, List.drop_replicate]
      rw [show min (size - 1 - i) (size - i) = size - (i + 1) by omega, show size - i - (size - 1 - i + 1) = 0 by omega]
      rfl
    generalize hq : (UInt8.ofNat (x / 256 ^ i % 256)).toNat = q at *
    generalize hw : x / 256 ^ i = w at *
    have hlen : size - 1 - i + 1 ≤ (List.replicate (size - i) (V.i .u8 0) ++ bcs (numB x i)).length := by simp [numB_length]; omega
    have e9 : lstore Tryd.prog (H ++ [.c (List.replicate (size - i) (.i .u8 0) ++ bcs (numB x i)) 5 true]) 5 (.p H.length (size - 1 - i)) (.i .u8 (q : Int)) = some (H ++ [.c (List.replicate (size - (i + 1)) (.i .u8 0) ++ bcs (numB x (i + 1))) 5 true]) := by
      unfold lstore
      dsimp only
      rw [own_get]
      dsimp only
      rw [sz5]
      dsimp only
      rw [if_pos ⟨rfl, rfl, hlen, rfl⟩, own_set]
      congr 4
    repeat (first | refine LW.seq_ops ?_ | refine lrun_end ?_ | (refine lrun_step (by decide) ?_; intro K hK; simp [h0, h1, h5, h17, e1, e2, e3, e4, convK_int ty46 ty5, e5, e7, e9, e6, -Int.natCast_ediv, -Int.natCast_emod, -Int.natCast_mul]; refine hK _ _ ?_; clear hK K) | (refine lrun_stepG rfl (by decide) (by decide) ?_; intro K hK; simp [h0, h1, h5, h17, e1, e2, e3, e4, convK_int ty46 ty5, e5, e7, e9, e6, -Int.natCast_ediv, -Int.natCast_emod, -Int.natCast_mul]; refine hK _ _ ?_; clear hK K) | (refine lrun_stepN ?_; intro K hK; simp [h0, h1, h5, h17, e1, e2, e3, e4, convK_int ty46 ty5, e5, e7, e9, e6, -Int.natCast_ediv, -Int.natCast_emod, -Int.natCast_mul]; refine hK _ _ ?_; clear hK K) | refine LW.seq ?_ | refine LW.block ?_ | refine LW.ops ?_ | refine LW.skip ?_ | refine LW.ret ?_ | refine LW.exit ?_ | refine LW.label ?_ | refine thn_n ?_ | refine thn_r ?_ | refine thn_e ?_ | refine inb_n ?_ | refine inb_r ?_ | refine inb_x ?_ | refine inb_e (by decide) ?_ | (refine LW.ct ?_ ?_; · simp [h0, h1, h5, h17, e1, e2, e3, e4, convK_int ty46 ty5, e5, e7, e9, e6, -Int.natCast_ediv, -Int.natCast_emod, -Int.natCast_mul]; done) | (refine LW.cf ?_ ?_; · simp [h0, h1, h5, h17, e1, e2, e3, e4, convK_int ty46 ty5, e5, e7, e9, e6, -Int.natCast_ediv, -Int.natCast_emod, -Int.natCast_mul]; done) | fail)
    refine hZ2 _ _ ⟨size - (i + 1), by omega, i + 1, by omega, rfl, by simp [h0], by simp [h1], by simp [h5], by simp [h16], by simp, rfl⟩

theorem rnum_LC (x size : Nat) (hx : x < 18446744073709551616) (hs1 : 1 ≤ size) (hs2 : size ≤ 8) (H : List LB) :
    LC Tryd.prog G 22 [.i .u64 (x : Int), .i .i64 (size : Int)] H fun v H' => v = .s (BA (numB x size)) ∧ H' = H := by
  refine LC.of_walk Tryd.f22 27 (by kernel_rfl) (by kernel_rfl) rfl rfl fun Z hZ => ?_
  have n1 : ¬ (size : Int) < 1 := by omega
  have n2 : ¬ 8 < (size : Int) := by omega
  repeat (first | refine LW.seq_ops ?_ | refine lrun_end ?_ | (refine lrun_step (by decide) ?_; intro K hK; simp [n1, n2]; refine hK _ _ ?_; clear hK K) | (refine lrun_stepG rfl (by decide) (by decide) ?_; intro K hK; simp [n1, n2]; refine hK _ _ ?_; clear hK K) | (refine lrun_stepN ?_; intro K hK; simp [n1, n2]; refine hK _ _ ?_; clear hK K) | refine LW.seq ?_ | refine LW.block ?_ | refine LW.ops ?_ | refine LW.skip ?_ | refine LW.ret ?_ | refine LW.exit ?_ | refine LW.label ?_ | refine thn_n ?_ | refine thn_r ?_ | refine thn_e ?_ | refine inb_n ?_ | refine inb_r ?_ | refine inb_x ?_ | refine inb_e (by decide) ?_ | (refine LW.ct ?_ ?_; · simp [n1, n2]; done) | (refine LW.cf ?_ ?_; · simp [n1, n2]; done) | fail)
  refine LW.loopN (fun m s => ∃ (i : Nat) (J : List LB), i ≤ size ∧ m = size - i ∧ s.t 0 = .i .u64 ((x / 256 ^ i : Nat) : Int) ∧ s.t 1 = .i .i64 size ∧ s.t 5 = .s (BA (numB x i)) ∧ s.t 6 = .i .i64 i ∧ s.H = H ++ J) (m := size)
    ⟨0, [], by omega, by omega, by simp, by simp, by simp [numB, BA], by simp, by simp⟩ ?_
  rintro m ⟨t, H'⟩ ⟨i, J, hi, rfl, h0, h1, h5, h6, rfl⟩
  dsimp only at h0 h1 h5 h6 hi
  refine LW.toK fun Z2 hZ2 => ?_
  repeat (first | refine LW.seq_ops ?_ | refine lrun_end ?_ | (refine lrun_step (by decide) ?_; intro K hK; simp [h1, h6]; refine hK _ _ ?_; clear hK K) | (refine lrun_stepG rfl (by decide) (by decide) ?_; intro K hK; simp [h1, h6]; refine hK _ _ ?_; clear hK K) | (refine lrun_stepN ?_; intro K hK; simp [h1, h6]; refine hK _ _ ?_; clear hK K) | refine LW.seq ?_ | refine LW.block ?_ | refine LW.ops ?_ | refine LW.skip ?_ | refine LW.ret ?_ | refine LW.exit ?_ | refine LW.label ?_ | refine thn_n ?_ | refine thn_r ?_ | refine thn_e ?_ | refine inb_n ?_ | refine inb_r ?_ | refine inb_x ?_ | refine inb_e (by decide) ?_ | (refine LW.ct ?_ ?_; · simp [h1, h6]; done) | (refine LW.cf ?_ ?_; · simp [h1, h6]; done) | fail)
  refine LW.dec (p := i < size) (by simp) (fun h2 => ?_) (fun h2 => ?_)
  rotate_left
  · obtain rfl : i = size := by omega
    repeat (first | refine LW.seq_ops ?_ | refine lrun_end ?_ | (refine lrun_step (by decide) ?_; intro K hK; simp; refine hK _ _ ?_; clear hK K) | (refine lrun_stepG rfl (by decide) (by decide) ?_; intro K hK; simp; refine hK _ _ ?_; clear hK K) | (refine lrun_stepN ?_; intro K hK; simp; refine hK _ _ ?_; clear hK K) | refine LW.seq ?_ | refine LW.block ?_ | refine LW.ops ?_ | refine LW.skip ?_ | refine LW.ret ?_ | refine LW.exit ?_ | refine LW.label ?_ | refine thn_n ?_ | refine thn_r ?_ | refine thn_e ?_ | refine inb_n ?_ | refine inb_r ?_ | refine inb_x ?_ | refine inb_e (by decide) ?_ | (refine LW.ct ?_ ?_; · simp; done) | (refine LW.cf ?_ ?_; · simp; done) | fail)
    refine hZ2 _ _ ?_
    repeat (first | refine LW.seq_ops ?_ | refine lrun_end ?_ | (refine lrun_step (by decide) ?_; intro K hK; simp [h5]; refine hK _ _ ?_; clear hK K) | (refine lrun_stepG rfl (by decide) (by decide) ?_; intro K hK; simp [h5]; refine hK _ _ ?_; clear hK K) | (refine lrun_stepN ?_; intro K hK; simp [h5]; refine hK _ _ ?_; clear hK K) | refine LW.seq ?_ | refine LW.block ?_ | refine LW.ops ?_ | refine LW.skip ?_ | refine LW.ret ?_ | refine LW.exit ?_ | refine LW.label ?_ | refine thn_n ?_ | refine thn_r ?_ | refine thn_e ?_ | refine inb_n ?_ | refine inb_r ?_ | refine inb_x ?_ | refine inb_e (by decide) ?_ | (refine LW.ct ?_ ?_; · simp [h5]; done) | (refine LW.cf ?_ ?_; · simp [h5]; done) | fail)
    refine hZ _ _ ⟨.inr rfl, .s (BA (numB x i)), by simp [lres, lres1, Tryd.f22], leave_drop (.s _) ⟨rfl, rfl⟩⟩
  · have e5 : IntKind.u8.wrap ((x / 256 ^ i : Nat) : Int) = (((UInt8.ofNat (x / 256 ^ i % 256)).toNat : Nat) : Int) := wrap_u8_nat _
    have e6 : IntKind.i64.wrap ((i : Int) + 1) = (i : Int) + 1 := wrap_i64 (by omega) (by omega)
    have e7 := fun b => lbslice_u8 (P := Tryd.prog) (H := H ++ J) (t := 32) (e := 5) ty32 sz5 ze5 b
    have e8' : IntKind.u64.wrap (((x / 256 ^ i : Nat) : Int) / 256) = ((x / 256 ^ (i + 1) : Nat) : Int) := by
      rw [u64_quo256 _ (Nat.lt_of_le_of_lt (Nat.div_le_self _ _) hx), Nat.pow_succ, ← Nat.div_div_eq_div_mul]
    have e9 : (BA [UInt8.ofNat (x / 256 ^ i % 256)]) ++ BA (numB x i) = BA (numB x (i + 1)) := by rw [BA_append, numB_cons]; rfl
    have e10 : (BA [UInt8.ofNat (x / 256 ^ i % 256)]).size + (BA (numB x i)).size ≤ 9223372036854775807 := by simp [numB_length]; omega
    have e11 : ∀ K : V → List LB → Prop, convK Tryd.prog (H ++ J ++ [.c [.i .u8 (((UInt8.ofNat (x / 256 ^ i % 256)).toNat : Nat) : Int)] 5 true]) 32 9 (.own (H ++ J).length 0 1 1 0) K = K (.s (BA [UInt8.ofNat (x / 256 ^ i % 256)])) (H ++ J ++ [.c [.i .u8 (((UInt8.ofNat (x / 256 ^ i % 256)).toNat : Nat) : Int)] 5 true]) := fun K =>
      convK_own ty32 ty9 ty5 own_get rfl (by simp)
    generalize hq : UInt8.ofNat (x / 256 ^ i % 256) = q at *
    generalize hw : x / 256 ^ i = w at *
    generalize hHJ : H ++ J = HJ at *
    repeat (first | refine LW.seq_ops ?_ | refine lrun_end ?_ | (refine lrun_step (by decide) ?_; intro K hK; simp [h0, h1, h5, h6, convK_int ty46 ty5, e5, e7, e11, lbin_sadd e10, e9, e8', e6, -Int.natCast_ediv, -Int.natCast_emod, -ByteArray.size_append]; refine hK _ _ ?_; clear hK K) | (refine lrun_stepG rfl (by decide) (by decide) ?_; intro K hK; simp [h0, h1, h5, h6, convK_int ty46 ty5, e5, e7, e11, lbin_sadd e10, e9, e8', e6, -Int.natCast_ediv, -Int.natCast_emod, -ByteArray.size_append]; refine hK _ _ ?_; clear hK K) | (refine lrun_stepN ?_; intro K hK; simp [h0, h1, h5, h6, convK_int ty46 ty5, e5, e7, e11, lbin_sadd e10, e9, e8', e6, -Int.natCast_ediv, -Int.natCast_emod, -ByteArray.size_append]; refine hK _ _ ?_; clear hK K) | refine LW.seq ?_ | refine LW.block ?_ | refine LW.ops ?_ | refine LW.skip ?_ | refine LW.ret ?_ | refine LW.exit ?_ | refine LW.label ?_ | refine thn_n ?_ | refine thn_r ?_ | refine thn_e ?_ | refine inb_n ?_ | refine inb_r ?_ | refine inb_x ?_ | refine inb_e (by decide) ?_ | (refine LW.ct ?_ ?_; · simp [h0, h1, h5, h6, convK_int ty46 ty5, e5, e7, e11, lbin_sadd e10, e9, e8', e6, -Int.natCast_ediv, -Int.natCast_emod, -ByteArray.size_append]; done) | (refine LW.cf ?_ ?_; · simp [h0, h1, h5, h6, convK_int ty46 ty5, e5, e7, e11, lbin_sadd e10, e9, e8', e6, -Int.natCast_ediv, -Int.natCast_emod, -ByteArray.size_append]; done) | fail)
    refine hZ2 _ _ ⟨size - (i + 1), by omega, i + 1, J ++ [_], by omega, rfl, by simp, by simp [h1], by simp, by simp, by rw [← hHJ, List.append_assoc]⟩
end Go.Lw
