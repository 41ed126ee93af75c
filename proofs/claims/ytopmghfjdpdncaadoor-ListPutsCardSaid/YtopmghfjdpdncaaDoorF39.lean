/- crc.On, crc.Of -/
import Derived.Test.YtopmghfjdpdncaaDoorT
set_option linter.unusedSimpArgs false
set_option linter.unusedVariables false
namespace Go.Lw
open Go Go.Proofs Go.RowKit
variable {G : List (Nat × List V)}
attribute [local irreducible] LW callK LC lany lrun ldo oK oK2 oKH gK yieldK LY

/-- The table. -/
def halfV : List V := halves.map fun x : Nat => V.i .u32 (x : Int)

theorem halfV_get {j : Nat} (h : j < 16) : halfV[j]? = some (.i .u32 ((hv j : Nat) : Int)) := by
  have hl : j < halves.length := h
  simp [halfV, hv, List.getElem?_eq_getElem hl]

theorem half_ia {j : Nat} (h : j < 16) : liaddr Tryd.prog 94 (.ep halfV 0) (.i .u32 (j : Int)) = some (.ep halfV j) := by
  have h2 : (j : Int) < 16 := by omega
  simp [liaddr, h2]

theorem crcOn_LC (hG : G.lookup 0 = some halfV) (sum : Nat) (hs : sum < 4294967296) (l : List UInt8) (hl : l.length < 4611686018427387904) (H : List LB) :
    LC Tryd.prog G 39 [.i .u32 (sum : Int), bsl l] H fun v H' => v = .i .u32 ((4294967295 - crcRun (4294967295 - sum) l : Nat) : Int) ∧ H' = H := by
  refine LC.of_walk Tryd.f39 37 (by kernel_rfl) (by kernel_rfl) rfl rfl fun Z hZ => ?_
  repeat (first | refine LW.seq_ops ?_ | refine lrun_end ?_ | (refine lrun_step (by decide) ?_; intro K hK; simp [unK_not32 hs, llen_bsl ty32]; refine hK _ _ ?_; clear hK K) | (refine lrun_stepG rfl (by decide) (by decide) ?_; intro K hK; simp [unK_not32 hs, llen_bsl ty32]; refine hK _ _ ?_; clear hK K) | (refine lrun_stepN ?_; intro K hK; simp [unK_not32 hs, llen_bsl ty32]; refine hK _ _ ?_; clear hK K) | refine LW.seq ?_ | refine LW.block ?_ | refine LW.ops ?_ | refine LW.skip ?_ | refine LW.ret ?_ | refine LW.exit ?_ | refine LW.label ?_ | refine thn_n ?_ | refine thn_r ?_ | refine thn_e ?_ | refine inb_n ?_ | refine inb_r ?_ | refine inb_x ?_ | refine inb_e (by decide) ?_ | (refine LW.ct ?_ ?_; · simp [unK_not32 hs, llen_bsl ty32]; done) | (refine LW.cf ?_ ?_; · simp [unK_not32 hs, llen_bsl ty32]; done) | fail)
  refine LW.loopN (fun m s => ∃ (i : Nat) (x : Nat), i ≤ l.length ∧ m = l.length - i ∧ s.t 10 = bsl l ∧ s.t 11 = .i .i64 l.length ∧ s.t 12 = .i .i64 i ∧ s.t 5 = .i .u32 (x : Int) ∧ x = crcRun (4294967295 - sum) (l.take i) ∧ s.H = H) (m := l.length)
    ⟨0, 4294967295 - sum, by omega, by omega, by simp, by simp, by simp, by simp, by simp [crcRun], rfl⟩ ?_
  rintro m ⟨t, H'⟩ ⟨i, x, hi, rfl, h10, h11, h12, h5, hx, rfl⟩
  dsimp only at h10 h11 h12 h5 hi
  have hxl : x < 4294967296 := by rw [hx]; exact crcRun_lt _ (by omega)
  refine LW.toK fun Z2 hZ2 => ?_
  repeat (first | refine LW.seq_ops ?_ | refine lrun_end ?_ | (refine lrun_step (by decide) ?_; intro K hK; simp [h10, h11, h12, h5]; refine hK _ _ ?_; clear hK K) | (refine lrun_stepG rfl (by decide) (by decide) ?_; intro K hK; simp [h10, h11, h12, h5]; refine hK _ _ ?_; clear hK K) | (refine lrun_stepN ?_; intro K hK; simp [h10, h11, h12, h5]; refine hK _ _ ?_; clear hK K) | refine LW.seq ?_ | refine LW.block ?_ | refine LW.ops ?_ | refine LW.skip ?_ | refine LW.ret ?_ | refine LW.exit ?_ | refine LW.label ?_ | refine thn_n ?_ | refine thn_r ?_ | refine thn_e ?_ | refine inb_n ?_ | refine inb_r ?_ | refine inb_x ?_ | refine inb_e (by decide) ?_ | (refine LW.ct ?_ ?_; · simp [h10, h11, h12, h5]; done) | (refine LW.cf ?_ ?_; · simp [h10, h11, h12, h5]; done) | fail)
  refine LW.dec (p := i < l.length) (by simp) (fun h2 => ?_) (fun h2 => ?_)
  rotate_left
  · repeat (first | refine LW.seq_ops ?_ | refine lrun_end ?_ | (refine lrun_step (by decide) ?_; intro K hK; simp; refine hK _ _ ?_; clear hK K) | (refine lrun_stepG rfl (by decide) (by decide) ?_; intro K hK; simp; refine hK _ _ ?_; clear hK K) | (refine lrun_stepN ?_; intro K hK; simp; refine hK _ _ ?_; clear hK K) | refine LW.seq ?_ | refine LW.block ?_ | refine LW.ops ?_ | refine LW.skip ?_ | refine LW.ret ?_ | refine LW.exit ?_ | refine LW.label ?_ | refine thn_n ?_ | refine thn_r ?_ | refine thn_e ?_ | refine inb_n ?_ | refine inb_r ?_ | refine inb_x ?_ | refine inb_e (by decide) ?_ | (refine LW.ct ?_ ?_; · simp; done) | (refine LW.cf ?_ ?_; · simp; done) | fail)
    refine hZ2 _ _ ?_
    repeat (first | refine LW.seq_ops ?_ | refine lrun_end ?_ | (refine lrun_step (by decide) ?_; intro K hK; simp [h5, unK_not32 hxl]; refine hK _ _ ?_; clear hK K) | (refine lrun_stepG rfl (by decide) (by decide) ?_; intro K hK; simp [h5, unK_not32 hxl]; refine hK _ _ ?_; clear hK K) | (refine lrun_stepN ?_; intro K hK; simp [h5, unK_not32 hxl]; refine hK _ _ ?_; clear hK K) | refine LW.seq ?_ | refine LW.block ?_ | refine LW.ops ?_ | refine LW.skip ?_ | refine LW.ret ?_ | refine LW.exit ?_ | refine LW.label ?_ | refine thn_n ?_ | refine thn_r ?_ | refine thn_e ?_ | refine inb_n ?_ | refine inb_r ?_ | refine inb_x ?_ | refine inb_e (by decide) ?_ | (refine LW.ct ?_ ?_; · simp [h5, unK_not32 hxl]; done) | (refine LW.cf ?_ ?_; · simp [h5, unK_not32 hxl]; done) | fail)
    refine hZ _ _ ⟨.inr rfl, .i .u32 ((4294967295 - x : Nat) : Int), by simp [lres, lres1, Tryd.f39], .inl ⟨?_, rfl⟩⟩
    rw [hx, List.take_of_length_le (by omega)]
  · have hc : (l[i]).toNat < 256 := (l[i]).toNat_lt
    have hw8 : IntKind.u32.wrap ((l[i]).toNat : Int) = ((l[i]).toNat : Int) := wrap_u32 (by omega) (by omega)
    have hx1 : ∀ {P : Program} {ty : TypeId} {lit : Bool}, lbin P .xor ty lit (.i .u32 (x : Int)) (.i .u32 ((l[i]).toNat : Int)) = some (.i .u32 ((x ^^^ (l[i]).toNat : Nat) : Int)) := x32 x _ hxl (by omega)
    have hl1 : x ^^^ (l[i]).toNat < 4294967296 := Nat.xor_lt_two_pow (n := 32) hxl (by omega)
    have hl2 := crcHalf_lt hl1
    have hw : IntKind.i64.wrap ((i : Int) + 1) = (i : Int) + 1 := wrap_i64 (by omega) (by omega)
    have hr1 := half_ia (j := (x ^^^ (l[i]).toNat) % 16) (Nat.mod_lt _ (by omega))
    have hr2 := half_ia (j := crcHalf (x ^^^ (l[i]).toNat) % 16) (Nat.mod_lt _ (by omega))
    have hv1 := halfV_get (j := (x ^^^ (l[i]).toNat) % 16) (Nat.mod_lt _ (by omega))
    have hv2 := halfV_get (j := crcHalf (x ^^^ (l[i]).toNat) % 16) (Nat.mod_lt _ (by omega))
    generalize hy : x ^^^ (l[i]).toNat = y at *
    have hf1 := fdiv16 y
    have hf2 := fdiv16 (crcHalf y)
    rw [Int.natCast_ediv] at hf1 hf2
    repeat (first | refine LW.seq_ops ?_ | refine lrun_end ?_ | (refine lrun_step (by decide) ?_; intro K hK; simp [h10, h12, h5, liaddr_bsl ty32 sz5 h2, lload_one ag5, convK_int ty5 ty23, hw8, hx1, hy, bits_u32, fdiv16, a32_15 y hl1, ev_glob hG, hr1, lload_ep ag23 hv1, table32 y hl1, a32_15 (crcHalf y) hl2, hr2, lload_ep ag23 hv2, table32 (crcHalf y) hl2, hw, -Int.natCast_ediv, -Int.natCast_emod]; refine hK _ _ ?_; clear hK K) | (refine lrun_stepG rfl (by decide) (by decide) ?_; intro K hK; simp [h10, h12, h5, liaddr_bsl ty32 sz5 h2, lload_one ag5, convK_int ty5 ty23, hw8, hx1, hy, bits_u32, fdiv16, a32_15 y hl1, ev_glob hG, hr1, lload_ep ag23 hv1, table32 y hl1, a32_15 (crcHalf y) hl2, hr2, lload_ep ag23 hv2, table32 (crcHalf y) hl2, hw, -Int.natCast_ediv, -Int.natCast_emod]; refine hK _ _ ?_; clear hK K) | (refine lrun_stepN ?_; intro K hK; simp [h10, h12, h5, liaddr_bsl ty32 sz5 h2, lload_one ag5, convK_int ty5 ty23, hw8, hx1, hy, bits_u32, fdiv16, a32_15 y hl1, ev_glob hG, hr1, lload_ep ag23 hv1, table32 y hl1, a32_15 (crcHalf y) hl2, hr2, lload_ep ag23 hv2, table32 (crcHalf y) hl2, hw, -Int.natCast_ediv, -Int.natCast_emod]; refine hK _ _ ?_; clear hK K) | refine LW.seq ?_ | refine LW.block ?_ | refine LW.ops ?_ | refine LW.skip ?_ | refine LW.ret ?_ | refine LW.exit ?_ | refine LW.label ?_ | refine thn_n ?_ | refine thn_r ?_ | refine thn_e ?_ | refine inb_n ?_ | refine inb_r ?_ | refine inb_x ?_ | refine inb_e (by decide) ?_ | (refine LW.ct ?_ ?_; · simp [h10, h12, h5, liaddr_bsl ty32 sz5 h2, lload_one ag5, convK_int ty5 ty23, hw8, hx1, hy, bits_u32, fdiv16, a32_15 y hl1, ev_glob hG, hr1, lload_ep ag23 hv1, table32 y hl1, a32_15 (crcHalf y) hl2, hr2, lload_ep ag23 hv2, table32 (crcHalf y) hl2, hw, -Int.natCast_ediv, -Int.natCast_emod]; done) | (refine LW.cf ?_ ?_; · simp [h10, h12, h5, liaddr_bsl ty32 sz5 h2, lload_one ag5, convK_int ty5 ty23, hw8, hx1, hy, bits_u32, fdiv16, a32_15 y hl1, ev_glob hG, hr1, lload_ep ag23 hv1, table32 y hl1, a32_15 (crcHalf y) hl2, hr2, lload_ep ag23 hv2, table32 (crcHalf y) hl2, hw, -Int.natCast_ediv, -Int.natCast_emod]; done) | fail)
    refine hZ2 _ _ ⟨l.length - (i + 1), by omega, i + 1, crcHalf (crcHalf y), by omega, rfl, by simp [h10], by simp [h11], by simp, by simp, ?_, rfl⟩
    rw [List.take_succ_eq_append_getElem h2, crcRun_append, ← hx, ← hy]
    rfl
theorem crcOf_LC (hG : G.lookup 0 = some halfV) (l : List UInt8) (hl : l.length < 4611686018427387904) (H : List LB) : LC Tryd.prog G 30 [bsl l] H fun v H' => v = .i .u32 (crcOf l : Int) ∧ H' = H := by
  refine LC.of_walk Tryd.f30 5 (by kernel_rfl) (by kernel_rfl) rfl rfl fun Z hZ => ?_
  repeat (first | refine LW.seq_ops ?_ | refine lrun_end ?_ | (refine lrun_step (by decide) ?_; intro K hK; simp; refine hK _ _ ?_; clear hK K) | (refine lrun_stepG rfl (by decide) (by decide) ?_; intro K hK; simp; refine hK _ _ ?_; clear hK K) | (refine lrun_stepN ?_; intro K hK; simp; refine hK _ _ ?_; clear hK K) | refine LW.seq ?_ | refine LW.block ?_ | refine LW.ops ?_ | refine LW.skip ?_ | refine LW.ret ?_ | refine LW.exit ?_ | refine LW.label ?_ | refine thn_n ?_ | refine thn_r ?_ | refine thn_e ?_ | refine inb_n ?_ | refine inb_r ?_ | refine inb_x ?_ | refine inb_e (by decide) ?_ | (refine LW.ct ?_ ?_; · simp; done) | (refine LW.cf ?_ ?_; · simp; done) | fail)
  refine lrun_step (by decide) ?_
  intro K hK
  simp
  refine callK.by (crcOn_LC hG 0 (by omega) l hl _) ?_
  rintro v H' ⟨rfl, rfl⟩
  refine hK _ _ ?_; clear hK K
  repeat (first | refine LW.seq_ops ?_ | refine lrun_end ?_ | (refine lrun_step (by decide) ?_; intro K hK; simp; refine hK _ _ ?_; clear hK K) | (refine lrun_stepG rfl (by decide) (by decide) ?_; intro K hK; simp; refine hK _ _ ?_; clear hK K) | (refine lrun_stepN ?_; intro K hK; simp; refine hK _ _ ?_; clear hK K) | refine LW.seq ?_ | refine LW.block ?_ | refine LW.ops ?_ | refine LW.skip ?_ | refine LW.ret ?_ | refine LW.exit ?_ | refine LW.label ?_ | refine thn_n ?_ | refine thn_r ?_ | refine thn_e ?_ | refine inb_n ?_ | refine inb_r ?_ | refine inb_x ?_ | refine inb_e (by decide) ?_ | (refine LW.ct ?_ ?_; · simp; done) | (refine LW.cf ?_ ?_; · simp; done) | fail)
  refine hZ _ _ ⟨.inr rfl, _, by simp [lres, lres1, Tryd.f30]; rfl, .inl ⟨rfl, rfl⟩⟩
end Go.Lw
