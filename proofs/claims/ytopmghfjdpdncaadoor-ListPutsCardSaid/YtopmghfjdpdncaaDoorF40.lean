/- jalousieref02.On, Of -/
import Derived.Test.YtopmghfjdpdncaaDoorT
set_option linter.unusedSimpArgs false
set_option linter.unusedVariables false
namespace Go.Lw
open Go Go.Proofs Go.RowKit
variable {G : List (Nat × List V)}
attribute [local irreducible] LW callK LC lany lrun ldo oK oK2 oKH gK yieldK LY

theorem rcrcOn_LC (sum : Nat) (hs : sum < 4294967296) (l : List UInt8) (hl : l.length < 4611686018427387904) (H : List LB) :
    LC Tryd.prog G 40 [.i .u32 (sum : Int), .s (BA l)] H fun v H' => v = .i .u32 ((4294967295 - crcRun (4294967295 - sum) l : Nat) : Int) ∧ H' = H := by
  refine LC.of_walk Tryd.f40 37 (by kernel_rfl) (by kernel_rfl) rfl rfl fun Z hZ => ?_
  repeat (first | refine LW.seq_ops ?_ | refine lrun_end ?_ | (refine lrun_step (by decide) ?_; intro K hK; simp [u32_not sum hs]; refine hK _ _ ?_; clear hK K) | (refine lrun_stepG rfl (by decide) (by decide) ?_; intro K hK; simp [u32_not sum hs]; refine hK _ _ ?_; clear hK K) | (refine lrun_stepN ?_; intro K hK; simp [u32_not sum hs]; refine hK _ _ ?_; clear hK K) | refine LW.seq ?_ | refine LW.block ?_ | refine LW.ops ?_ | refine LW.skip ?_ | refine LW.ret ?_ | refine LW.exit ?_ | refine LW.label ?_ | refine thn_n ?_ | refine thn_r ?_ | refine thn_e ?_ | refine inb_n ?_ | refine inb_r ?_ | refine inb_x ?_ | refine inb_e (by decide) ?_ | (refine LW.ct ?_ ?_; · simp [u32_not sum hs]; done) | (refine LW.cf ?_ ?_; · simp [u32_not sum hs]; done) | fail)
  refine LW.loopN (fun m s => ∃ (i : Nat) (x : Nat), i ≤ l.length ∧ m = l.length - i ∧ s.t 1 = .s (BA l) ∧ s.t 6 = .i .i64 i ∧ s.t 5 = .i .u32 (x : Int) ∧ x = crcRun (4294967295 - sum) (l.take i) ∧ s.H = H) (m := l.length)
    ⟨0, 4294967295 - sum, by omega, by omega, by simp, by simp, by simp, by simp [crcRun], rfl⟩ ?_
  rintro m ⟨t, H'⟩ ⟨i, x, hi, rfl, h1, h6, h5, hx, rfl⟩
  dsimp only at h1 h6 h5 hi
  have hxl : x < 4294967296 := by rw [hx]; exact crcRun_lt _ (by omega)
  refine LW.toK fun Z2 hZ2 => ?_
  repeat (first | refine LW.seq_ops ?_ | refine lrun_end ?_ | (refine lrun_step (by decide) ?_; intro K hK; simp [h1, h6, h5, llen_BA ty9]; refine hK _ _ ?_; clear hK K) | (refine lrun_stepG rfl (by decide) (by decide) ?_; intro K hK; simp [h1, h6, h5, llen_BA ty9]; refine hK _ _ ?_; clear hK K) | (refine lrun_stepN ?_; intro K hK; simp [h1, h6, h5, llen_BA ty9]; refine hK _ _ ?_; clear hK K) | refine LW.seq ?_ | refine LW.block ?_ | refine LW.ops ?_ | refine LW.skip ?_ | refine LW.ret ?_ | refine LW.exit ?_ | refine LW.label ?_ | refine thn_n ?_ | refine thn_r ?_ | refine thn_e ?_ | refine inb_n ?_ | refine inb_r ?_ | refine inb_x ?_ | refine inb_e (by decide) ?_ | (refine LW.ct ?_ ?_; · simp [h1, h6, h5, llen_BA ty9]; done) | (refine LW.cf ?_ ?_; · simp [h1, h6, h5, llen_BA ty9]; done) | fail)
  refine LW.dec (p := i < l.length) (by simp) (fun h2 => ?_) (fun h2 => ?_)
  rotate_left
  · repeat (first | refine LW.seq_ops ?_ | refine lrun_end ?_ | (refine lrun_step (by decide) ?_; intro K hK; simp; refine hK _ _ ?_; clear hK K) | (refine lrun_stepG rfl (by decide) (by decide) ?_; intro K hK; simp; refine hK _ _ ?_; clear hK K) | (refine lrun_stepN ?_; intro K hK; simp; refine hK _ _ ?_; clear hK K) | refine LW.seq ?_ | refine LW.block ?_ | refine LW.ops ?_ | refine LW.skip ?_ | refine LW.ret ?_ | refine LW.exit ?_ | refine LW.label ?_ | refine thn_n ?_ | refine thn_r ?_ | refine thn_e ?_ | refine inb_n ?_ | refine inb_r ?_ | refine inb_x ?_ | refine inb_e (by decide) ?_ | (refine LW.ct ?_ ?_; · simp; done) | (refine LW.cf ?_ ?_; · simp; done) | fail)
    refine hZ2 _ _ ?_
    repeat (first | refine LW.seq_ops ?_ | refine lrun_end ?_ | (refine lrun_step (by decide) ?_; intro K hK; simp [h5, u32_not x hxl]; refine hK _ _ ?_; clear hK K) | (refine lrun_stepG rfl (by decide) (by decide) ?_; intro K hK; simp [h5, u32_not x hxl]; refine hK _ _ ?_; clear hK K) | (refine lrun_stepN ?_; intro K hK; simp [h5, u32_not x hxl]; refine hK _ _ ?_; clear hK K) | refine LW.seq ?_ | refine LW.block ?_ | refine LW.ops ?_ | refine LW.skip ?_ | refine LW.ret ?_ | refine LW.exit ?_ | refine LW.label ?_ | refine thn_n ?_ | refine thn_r ?_ | refine thn_e ?_ | refine inb_n ?_ | refine inb_r ?_ | refine inb_x ?_ | refine inb_e (by decide) ?_ | (refine LW.ct ?_ ?_; · simp [h5, u32_not x hxl]; done) | (refine LW.cf ?_ ?_; · simp [h5, u32_not x hxl]; done) | fail)
    refine hZ _ _ ⟨.inr rfl, .i .u32 ((4294967295 - x : Nat) : Int), by simp [lres, lres1, Tryd.f40], .inl ⟨?_, rfl⟩⟩
    rw [hx, List.take_of_length_le (by omega)]
  · have hc : (l[i]).toNat < 256 := (l[i]).toNat_lt
    have hw8 : IntKind.u32.wrap ((l[i]).toNat : Int) = ((l[i]).toNat : Int) := wrap_u32 (by omega) (by omega)
    have hx1 : ∀ {P : Program} {ty : TypeId} {lit : Bool}, lbin P .xor ty lit (.i .u32 (x : Int)) (.i .u32 ((l[i]).toNat : Int)) = some (.i .u32 ((x ^^^ (l[i]).toNat : Nat) : Int)) := x32 x _ hxl (by omega)
    have hl1 : x ^^^ (l[i]).toNat < 4294967296 := Nat.xor_lt_two_pow (n := 32) hxl (by omega)
    have hw : IntKind.i64.wrap ((i : Int) + 1) = (i : Int) + 1 := wrap_i64 (by omega) (by omega)
    generalize hy : x ^^^ (l[i]).toNat = y at *
    repeat (first | refine LW.seq_ops ?_ | refine lrun_end ?_ | (refine lrun_step (by decide) ?_; intro K hK; simp [h1, h6, h5, lindex_s ty9 h2, convK_int ty5 ty23, hw8, hx1, hy]; refine hK _ _ ?_; clear hK K) | (refine lrun_stepG rfl (by decide) (by decide) ?_; intro K hK; simp [h1, h6, h5, lindex_s ty9 h2, convK_int ty5 ty23, hw8, hx1, hy]; refine hK _ _ ?_; clear hK K) | (refine lrun_stepN ?_; intro K hK; simp [h1, h6, h5, lindex_s ty9 h2, convK_int ty5 ty23, hw8, hx1, hy]; refine hK _ _ ?_; clear hK K) | refine LW.seq ?_ | refine LW.block ?_ | refine LW.ops ?_ | refine LW.skip ?_ | refine LW.ret ?_ | refine LW.exit ?_ | refine LW.label ?_ | refine thn_n ?_ | refine thn_r ?_ | refine thn_e ?_ | refine inb_n ?_ | refine inb_r ?_ | refine inb_x ?_ | refine inb_e (by decide) ?_ | (refine LW.ct ?_ ?_; · simp [h1, h6, h5, lindex_s ty9 h2, convK_int ty5 ty23, hw8, hx1, hy]; done) | (refine LW.cf ?_ ?_; · simp [h1, h6, h5, lindex_s ty9 h2, convK_int ty5 ty23, hw8, hx1, hy]; done) | fail)
    refine LW.loopN (fun m s => ∃ (k : Nat), k ≤ 8 ∧ m = 8 - k ∧ s.t 1 = .s (BA l) ∧ s.t 6 = .i .i64 i ∧ s.t 7 = .i .i64 k ∧ s.t 5 = .i .u32 (crcBits k y : Int) ∧ s.H = H') (m := 8)
      ⟨0, by omega, by omega, by simp [h1], by simp [h6], by simp, by simp [crcBits], rfl⟩ ?_
    rintro m ⟨t', H''⟩ ⟨k, hk, rfl, g1, g6, g7, g5, rfl⟩
    dsimp only at g1 g6 g7 g5 hk
    have hbl := crcBits_lt k hl1
    have hwk : IntKind.i64.wrap ((k : Int) + 1) = (k : Int) + 1 := wrap_i64 (by omega) (by omega)
    have hb : crcBits (k + 1) y = crcBit (crcBits k y) := rfl
    generalize hz : crcBits k y = z at *
    refine LW.toK fun Z3 hZ3 => ?_
    repeat (first | refine LW.seq_ops ?_ | refine lrun_end ?_ | (refine lrun_step (by decide) ?_; intro K hK; simp [g1, g6, g7, g5]; refine hK _ _ ?_; clear hK K) | (refine lrun_stepG rfl (by decide) (by decide) ?_; intro K hK; simp [g1, g6, g7, g5]; refine hK _ _ ?_; clear hK K) | (refine lrun_stepN ?_; intro K hK; simp [g1, g6, g7, g5]; refine hK _ _ ?_; clear hK K) | refine LW.seq ?_ | refine LW.block ?_ | refine LW.ops ?_ | refine LW.skip ?_ | refine LW.ret ?_ | refine LW.exit ?_ | refine LW.label ?_ | refine thn_n ?_ | refine thn_r ?_ | refine thn_e ?_ | refine inb_n ?_ | refine inb_r ?_ | refine inb_x ?_ | refine inb_e (by decide) ?_ | (refine LW.ct ?_ ?_; · simp [g1, g6, g7, g5]; done) | (refine LW.cf ?_ ?_; · simp [g1, g6, g7, g5]; done) | fail)
    refine LW.dec (p := k < 8) (by simp; omega) (fun h3 => ?_) (fun h3 => ?_)
    rotate_left
    · obtain rfl : k = 8 := by omega
      repeat (first | refine LW.seq_ops ?_ | refine lrun_end ?_ | (refine lrun_step (by decide) ?_; intro K hK; simp; refine hK _ _ ?_; clear hK K) | (refine lrun_stepG rfl (by decide) (by decide) ?_; intro K hK; simp; refine hK _ _ ?_; clear hK K) | (refine lrun_stepN ?_; intro K hK; simp; refine hK _ _ ?_; clear hK K) | refine LW.seq ?_ | refine LW.block ?_ | refine LW.ops ?_ | refine LW.skip ?_ | refine LW.ret ?_ | refine LW.exit ?_ | refine LW.label ?_ | refine thn_n ?_ | refine thn_r ?_ | refine thn_e ?_ | refine inb_n ?_ | refine inb_r ?_ | refine inb_x ?_ | refine inb_e (by decide) ?_ | (refine LW.ct ?_ ?_; · simp; done) | (refine LW.cf ?_ ?_; · simp; done) | fail)
      refine hZ3 _ _ ?_
      repeat (first | refine LW.seq_ops ?_ | refine lrun_end ?_ | (refine lrun_step (by decide) ?_; intro K hK; simp [g6, hw]; refine hK _ _ ?_; clear hK K) | (refine lrun_stepG rfl (by decide) (by decide) ?_; intro K hK; simp [g6, hw]; refine hK _ _ ?_; clear hK K) | (refine lrun_stepN ?_; intro K hK; simp [g6, hw]; refine hK _ _ ?_; clear hK K) | refine LW.seq ?_ | refine LW.block ?_ | refine LW.ops ?_ | refine LW.skip ?_ | refine LW.ret ?_ | refine LW.exit ?_ | refine LW.label ?_ | refine thn_n ?_ | refine thn_r ?_ | refine thn_e ?_ | refine inb_n ?_ | refine inb_r ?_ | refine inb_x ?_ | refine inb_e (by decide) ?_ | (refine LW.ct ?_ ?_; · simp [g6, hw]; done) | (refine LW.cf ?_ ?_; · simp [g6, hw]; done) | fail)
      refine hZ2 _ _ ⟨l.length - (i + 1), by omega, i + 1, z, by omega, rfl, by simp [g1], by simp, by simp [g5], ?_, rfl⟩
      rw [List.take_succ_eq_append_getElem h2, crcRun_append, ← hx]
      show z = crcHalf (crcHalf (x ^^^ (l[i]).toNat))
      rw [hy, ← hz]
      rfl
    · by_cases ho : z % 2 = 1
      · have hx2 : ∀ {P : Program} {ty : TypeId} {lit : Bool}, lbin P .xor ty lit (.i .u32 ((z / 2 : Nat) : Int)) (.i .u32 3988292384) = some (.i .u32 (crcBit z : Int)) := by
          intro P ty lit
          have := x32 (P := P) (ty := ty) (lit := lit) (z / 2) 3988292384 (by omega) (by omega)
          unfold crcBit
          rw [if_pos ho]
          exact this
        repeat (first | refine LW.seq_ops ?_ | refine lrun_end ?_ | (refine lrun_step (by decide) ?_; intro K hK; simp [g5, g7, u32_rem2, u32_quo2' z hbl, ho, hx2, hwk, -Int.natCast_ediv, -Int.natCast_emod]; refine hK _ _ ?_; clear hK K) | (refine lrun_stepG rfl (by decide) (by decide) ?_; intro K hK; simp [g5, g7, u32_rem2, u32_quo2' z hbl, ho, hx2, hwk, -Int.natCast_ediv, -Int.natCast_emod]; refine hK _ _ ?_; clear hK K) | (refine lrun_stepN ?_; intro K hK; simp [g5, g7, u32_rem2, u32_quo2' z hbl, ho, hx2, hwk, -Int.natCast_ediv, -Int.natCast_emod]; refine hK _ _ ?_; clear hK K) | refine LW.seq ?_ | refine LW.block ?_ | refine LW.ops ?_ | refine LW.skip ?_ | refine LW.ret ?_ | refine LW.exit ?_ | refine LW.label ?_ | refine thn_n ?_ | refine thn_r ?_ | refine thn_e ?_ | refine inb_n ?_ | refine inb_r ?_ | refine inb_x ?_ | refine inb_e (by decide) ?_ | (refine LW.ct ?_ ?_; · simp [g5, g7, u32_rem2, u32_quo2' z hbl, ho, hx2, hwk, -Int.natCast_ediv, -Int.natCast_emod]; done) | (refine LW.cf ?_ ?_; · simp [g5, g7, u32_rem2, u32_quo2' z hbl, ho, hx2, hwk, -Int.natCast_ediv, -Int.natCast_emod]; done) | fail)
        refine hZ3 _ _ ⟨8 - (k + 1), by omega, k + 1, by omega, rfl, by simp [g1], by simp [g6], by simp, by rw [hb]; simp, rfl⟩
      · have hb2 : crcBit z = z / 2 := by unfold crcBit; rw [if_neg ho]
        have ho2 : z % 2 = 0 := by omega
        repeat (first | refine LW.seq_ops ?_ | refine lrun_end ?_ | (refine lrun_step (by decide) ?_; intro K hK; simp [g5, g7, u32_rem2, u32_quo2' z hbl, ho2, hwk, -Int.natCast_ediv, -Int.natCast_emod]; refine hK _ _ ?_; clear hK K) | (refine lrun_stepG rfl (by decide) (by decide) ?_; intro K hK; simp [g5, g7, u32_rem2, u32_quo2' z hbl, ho2, hwk, -Int.natCast_ediv, -Int.natCast_emod]; refine hK _ _ ?_; clear hK K) | (refine lrun_stepN ?_; intro K hK; simp [g5, g7, u32_rem2, u32_quo2' z hbl, ho2, hwk, -Int.natCast_ediv, -Int.natCast_emod]; refine hK _ _ ?_; clear hK K) | refine LW.seq ?_ | refine LW.block ?_ | refine LW.ops ?_ | refine LW.skip ?_ | refine LW.ret ?_ | refine LW.exit ?_ | refine LW.label ?_ | refine thn_n ?_ | refine thn_r ?_ | refine thn_e ?_ | refine inb_n ?_ | refine inb_r ?_ | refine inb_x ?_ | refine inb_e (by decide) ?_ | (refine LW.ct ?_ ?_; · simp [g5, g7, u32_rem2, u32_quo2' z hbl, ho2, hwk, -Int.natCast_ediv, -Int.natCast_emod]; done) | (refine LW.cf ?_ ?_; · simp [g5, g7, u32_rem2, u32_quo2' z hbl, ho2, hwk, -Int.natCast_ediv, -Int.natCast_emod]; done) | fail)
        refine hZ3 _ _ ⟨8 - (k + 1), by omega, k + 1, by omega, rfl, by simp [g1], by simp [g6], by simp, by rw [hb, hb2]; simp, rfl⟩

theorem rcrcOf_LC (l : List UInt8) (hl : l.length < 4611686018427387904) (H : List LB) : LC Tryd.prog G 33 [.s (BA l)] H fun v H' => v = .i .u32 (crcOf l : Int) ∧ H' = H := by
  refine LC.of_walk Tryd.f33 5 (by kernel_rfl) (by kernel_rfl) rfl rfl fun Z hZ => ?_
  repeat (first | refine LW.seq_ops ?_ | refine lrun_end ?_ | (refine lrun_step (by decide) ?_; intro K hK; simp; refine hK _ _ ?_; clear hK K) | (refine lrun_stepG rfl (by decide) (by decide) ?_; intro K hK; simp; refine hK _ _ ?_; clear hK K) | (refine lrun_stepN ?_; intro K hK; simp; refine hK _ _ ?_; clear hK K) | refine LW.seq ?_ | refine LW.block ?_ | refine LW.ops ?_ | refine LW.skip ?_ | refine LW.ret ?_ | refine LW.exit ?_ | refine LW.label ?_ | refine thn_n ?_ | refine thn_r ?_ | refine thn_e ?_ | refine inb_n ?_ | refine inb_r ?_ | refine inb_x ?_ | refine inb_e (by decide) ?_ | (refine LW.ct ?_ ?_; · simp; done) | (refine LW.cf ?_ ?_; · simp; done) | fail)
  refine lrun_step (by decide) ?_
  intro K hK
  simp
  refine callK.by (rcrcOn_LC 0 (by omega) l hl _) ?_
  rintro v H' ⟨rfl, rfl⟩
  refine hK _ _ ?_; clear hK K
  repeat (first | refine LW.seq_ops ?_ | refine lrun_end ?_ | (refine lrun_step (by decide) ?_; intro K hK; simp; refine hK _ _ ?_; clear hK K) | (refine lrun_stepG rfl (by decide) (by decide) ?_; intro K hK; simp; refine hK _ _ ?_; clear hK K) | (refine lrun_stepN ?_; intro K hK; simp; refine hK _ _ ?_; clear hK K) | refine LW.seq ?_ | refine LW.block ?_ | refine LW.ops ?_ | refine LW.skip ?_ | refine LW.ret ?_ | refine LW.exit ?_ | refine LW.label ?_ | refine thn_n ?_ | refine thn_r ?_ | refine thn_e ?_ | refine inb_n ?_ | refine inb_r ?_ | refine inb_x ?_ | refine inb_e (by decide) ?_ | (refine LW.ct ?_ ?_; · simp; done) | (refine LW.cf ?_ ?_; · simp; done) | fail)
  refine hZ _ _ ⟨.inr rfl, _, by simp [lres, lres1, Tryd.f33]; rfl, .inl ⟨rfl, rfl⟩⟩
end Go.Lw
