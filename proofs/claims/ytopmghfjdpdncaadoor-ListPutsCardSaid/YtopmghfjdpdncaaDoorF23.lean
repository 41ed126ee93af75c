/- jalousieref07.Pack -/
import Derived.Test.YtopmghfjdpdncaaDoorF19
import Derived.Test.YtopmghfjdpdncaaDoorF40
set_option linter.unusedSimpArgs false
set_option linter.unusedVariables false
namespace Go.Lw
open Go Go.Proofs Go.RowKit
variable {G : List (Nat × List V)}
attribute [local irreducible] LW callK LC lany lrun ldo oK oK2 oKH gK yieldK LY

theorem sadd_BA {P : Program} {ty : TypeId} {lit : Bool} {a b : List UInt8} (h : a.length + b.length ≤ 9223372036854775807) : lbin P .add ty lit (.s (BA a)) (.s (BA b)) = some (.s (BA (a ++ b))) := by
  rw [lbin_sadd (by simpa using h), BA_append]

theorem two_bytes (H : List LB) (a b : UInt8) : lbslice Tryd.prog H 32 2 [(0, .i .u8 (a.toNat : Int)), (1, .i .u8 (b.toNat : Int))] = some (.own H.length 0 2 2 0, H ++ [.c (bcs [a, b]) 5 true]) := by
  simp [lbslice, Value.cells, lfill, rep, put, bcs]

theorem one_byte (H : List LB) (a : UInt8) : lbslice Tryd.prog H 32 1 [(0, .i .u8 (a.toNat : Int))] = some (.own H.length 0 1 1 0, H ++ [.c (bcs [a]) 5 true]) := by
  simp [lbslice, Value.cells, lfill, rep, put, bcs]

theorem str_own (H : List LB) (l : List UInt8) (n : Nat) (hn : l.length = n) (c x : Nat) (K : V → List LB → Prop) : convK Tryd.prog (H ++ [.c (bcs l) 5 true]) 32 9 (.own H.length 0 n c x) K = K (.s (BA l)) (H ++ [.c (bcs l) 5 true]) :=
  convK_own ty32 ty9 ty5 own_get (by rw [List.drop_zero, List.take_of_length_le (by simp; omega)]) (by simp; omega)

theorem rpack_LC (kind : UInt8) (hk : kind ≠ 0) (ls : List (List UInt8)) (hs : sizeOf2 ls ≤ 122) (H : List LB) :
    LC Tryd.prog G 23 [.i .u8 (kind.toNat : Int), ssl (ls.map BA)] H fun v H' => v = .t [.s (BA (pageOf kind ls)), .i .i64 0] ∧ H' = H := by
  refine LC.of_walk Tryd.f23 63 (by kernel_rfl) (by kernel_rfl) rfl rfl fun Z hZ => ?_
  have hk0 : ¬ kind.toNat = 0 := fun h => hk (UInt8.toNat_inj.1 (by simpa using h))
  have hlen := sizeOf2_len ls
  have n2 : ¬ (122 : Int) < (sizeOf2 ls : Int) := by omega
  have hback : ∀ i, i ≤ ls.length → (backOf (ls.take i)).length + i ≤ 122 := fun i hi => by
    rw [back_len ls i hi]
    have := sizeOf2_le (ls := ls) i
    unfold sizeOf2 at this hs
    omega
  repeat (first | refine LW.seq_ops ?_ | refine lrun_end ?_ | (refine lrun_step (by decide) ?_; intro K hK; simp [hk0]; refine hK _ _ ?_; clear hK K) | (refine lrun_stepG rfl (by decide) (by decide) ?_; intro K hK; simp [hk0]; refine hK _ _ ?_; clear hK K) | (refine lrun_stepN ?_; intro K hK; simp [hk0]; refine hK _ _ ?_; clear hK K) | refine LW.seq ?_ | refine LW.block ?_ | refine LW.ops ?_ | refine LW.skip ?_ | refine LW.ret ?_ | refine LW.exit ?_ | refine LW.label ?_ | refine thn_n ?_ | refine thn_r ?_ | refine thn_e ?_ | refine inb_n ?_ | refine inb_r ?_ | refine inb_x ?_ | refine inb_e (by decide) ?_ | (refine LW.ct ?_ ?_; · simp [hk0]; done) | (refine LW.cf ?_ ?_; · simp [hk0]; done) | fail)
  refine lrun_stepG rfl (by decide) (by decide) ?_
  intro K hK
  simp [hk0]
  refine callK.by (rsize_LC ls (by omega) _) ?_
  rintro v H' ⟨rfl, rfl⟩
  refine hK _ _ ?_; clear hK K
  repeat (first | refine LW.seq_ops ?_ | refine lrun_end ?_ | (refine lrun_step (by decide) ?_; intro K hK; simp [n2]; refine hK _ _ ?_; clear hK K) | (refine lrun_stepG rfl (by decide) (by decide) ?_; intro K hK; simp [n2]; refine hK _ _ ?_; clear hK K) | (refine lrun_stepN ?_; intro K hK; simp [n2]; refine hK _ _ ?_; clear hK K) | refine LW.seq ?_ | refine LW.block ?_ | refine LW.ops ?_ | refine LW.skip ?_ | refine LW.ret ?_ | refine LW.exit ?_ | refine LW.label ?_ | refine thn_n ?_ | refine thn_r ?_ | refine thn_e ?_ | refine inb_n ?_ | refine inb_r ?_ | refine inb_x ?_ | refine inb_e (by decide) ?_ | (refine LW.ct ?_ ?_; · simp [n2]; done) | (refine LW.cf ?_ ?_; · simp [n2]; done) | fail)
  refine LW.loopN (fun m s => ∃ (i : Nat) (J : List LB), i ≤ ls.length ∧ m = ls.length - i ∧ s.t 0 = .i .u8 (kind.toNat : Int) ∧ s.t 1 = ssl (ls.map BA) ∧ s.t 6 = .s (BA (slotsOf ls i)) ∧ s.t 7 = .s (BA (backOf (ls.take i))) ∧ s.t 8 = .i .i64 i ∧ s.H = H' ++ J) (m := ls.length)
    ⟨0, [], by omega, by omega, by simp, by simp, by simp [slotsOf, BA], by simp [backOf, BA], by simp, by simp⟩ ?_
  rintro m ⟨t, H''⟩ ⟨i, J, hi, rfl, h0, h1, h6, h7, h8, rfl⟩
  dsimp only at h0 h1 h6 h7 h8 hi
  refine LW.toK fun Z2 hZ2 => ?_
  repeat (first | refine LW.seq_ops ?_ | refine lrun_end ?_ | (refine lrun_step (by decide) ?_; intro K hK; simp [h1, h8, ssl, llen_sl ty29]; refine hK _ _ ?_; clear hK K) | (refine lrun_stepG rfl (by decide) (by decide) ?_; intro K hK; simp [h1, h8, ssl, llen_sl ty29]; refine hK _ _ ?_; clear hK K) | (refine lrun_stepN ?_; intro K hK; simp [h1, h8, ssl, llen_sl ty29]; refine hK _ _ ?_; clear hK K) | refine LW.seq ?_ | refine LW.block ?_ | refine LW.ops ?_ | refine LW.skip ?_ | refine LW.ret ?_ | refine LW.exit ?_ | refine LW.label ?_ | refine thn_n ?_ | refine thn_r ?_ | refine thn_e ?_ | refine inb_n ?_ | refine inb_r ?_ | refine inb_x ?_ | refine inb_e (by decide) ?_ | (refine LW.ct ?_ ?_; · simp [h1, h8, ssl, llen_sl ty29]; done) | (refine LW.cf ?_ ?_; · simp [h1, h8, ssl, llen_sl ty29]; done) | fail)
  refine LW.dec (p := i < ls.length) (by simp) (fun h2 => ?_) (fun h2 => ?_)
  rotate_left
  · obtain rfl : i = ls.length := by omega
    have hb := hback ls.length (Nat.le_refl _)
    rw [List.take_length] at hb h7
    repeat (first | refine LW.seq_ops ?_ | refine lrun_end ?_ | (refine lrun_step (by decide) ?_; intro K hK; simp; refine hK _ _ ?_; clear hK K) | (refine lrun_stepG rfl (by decide) (by decide) ?_; intro K hK; simp; refine hK _ _ ?_; clear hK K) | (refine lrun_stepN ?_; intro K hK; simp; refine hK _ _ ?_; clear hK K) | refine LW.seq ?_ | refine LW.block ?_ | refine LW.ops ?_ | refine LW.skip ?_ | refine LW.ret ?_ | refine LW.exit ?_ | refine LW.label ?_ | refine thn_n ?_ | refine thn_r ?_ | refine thn_e ?_ | refine inb_n ?_ | refine inb_r ?_ | refine inb_x ?_ | refine inb_e (by decide) ?_ | (refine LW.ct ?_ ?_; · simp; done) | (refine LW.cf ?_ ?_; · simp; done) | fail)
    refine hZ2 _ _ ?_
    have w1 : IntKind.u8.wrap (ls.length : Int) = (((UInt8.ofNat ls.length).toNat : Nat) : Int) := wrap_u8_small (by omega)
    generalize hHJ : H' ++ J = HJ at *
    have t2 := two_bytes HJ kind (UInt8.ofNat ls.length)
    have a1 : ∀ {P : Program} {ty : TypeId} {lit : Bool}, lbin P .add ty lit (.s (BA [kind, UInt8.ofNat ls.length])) (.s (BA (slotsOf ls ls.length))) = some (.s (BA ([kind, UInt8.ofNat ls.length] ++ slotsOf ls ls.length))) := sadd_BA (by simp [slotsOf_length]; omega)
    have s2 := str_own HJ [kind, UInt8.ofNat ls.length] 2 rfl 2 0
    have hl2 : ([kind, UInt8.ofNat ls.length] ++ slotsOf ls ls.length).length = 2 + ls.length := by simp [slotsOf_length]; omega
    generalize hbn : UInt8.ofNat ls.length = bn at w1 t2 a1 s2 hl2
    generalize hp : [kind, bn] ++ slotsOf ls ls.length = p at a1 hl2
    generalize hH2 : HJ ++ [LB.c (bcs [kind, bn]) 5 true] = H2 at *
    have ll : ∀ (H : List LB) (l : List UInt8), llen Tryd.prog H 9 (.s (BA l)) = some (.i .i64 (l.length : Int)) := fun H l => llen_BA ty9
    have e1 : IntKind.i64.wrap (124 - (p.length : Int)) = ((124 - p.length : Nat) : Int) := by rw [wrap_i64 (by omega) (by omega)]; omega
    have e2 : IntKind.i64.wrap (((124 - p.length : Nat) : Int) - ((backOf ls).length : Int)) = ((122 - ls.length - (backOf ls).length : Nat) : Int) := by rw [wrap_i64 (by omega) (by omega)]; omega
    have mk := lmake_one (P := Tryd.prog) (H := H2) (t := 32) (k := .i64) (k' := .i64) ty32 nf5 rfl (122 - ls.length - (backOf ls).length) (by omega) (by omega)
    have rz : List.replicate (122 - ls.length - (backOf ls).length) (ofV1 (.int .u8 0)) = bcs (List.replicate (122 - ls.length - (backOf ls).length) 0) := by simp [bcs, ofV1]
    rw [rz] at mk
    have s3 := str_own H2 (List.replicate (122 - ls.length - (backOf ls).length) 0) (122 - ls.length - (backOf ls).length) (by simp) (122 - ls.length - (backOf ls).length) 0
    have a2 : ∀ {P : Program} {ty : TypeId} {lit : Bool}, lbin P .add ty lit (.s (BA (List.replicate (122 - ls.length - (backOf ls).length) 0))) (.s (BA (backOf ls))) = some (.s (BA (List.replicate (122 - ls.length - (backOf ls).length) 0 ++ backOf ls))) := sadd_BA (by simp; omega)
    have a3 : ∀ {P : Program} {ty : TypeId} {lit : Bool}, lbin P .add ty lit (.s (BA p)) (.s (BA (List.replicate (122 - ls.length - (backOf ls).length) 0 ++ backOf ls))) = some (.s (BA (bodyOf kind ls))) := by
      intro P ty lit
      rw [sadd_BA (by simp; omega), ← hp, ← hbn]
      rfl
    have hbl : (bodyOf kind ls).length = 124 := by
      have h1 := pageOf_length kind ls hb
      have h2 := numB_length (crcOf (bodyOf kind ls)) 4
      unfold pageOf at h1
      rw [List.length_append, h2] at h1
      omega
    have hcl := crcOf_lt (bodyOf kind ls)
    have w64 : IntKind.u64.wrap (crcOf (bodyOf kind ls) : Int) = (crcOf (bodyOf kind ls) : Int) := wrap_u64 (by omega) (by omega)
    have a4 : ∀ {P : Program} {ty : TypeId} {lit : Bool}, lbin P .add ty lit (.s (BA (numB (crcOf (bodyOf kind ls)) 4))) (.s (BA (bodyOf kind ls))) = some (.s (BA (pageOf kind ls))) := sadd_BA (by rw [numB_length, hbl]; omega)
    generalize hH3 : H2 ++ [LB.c (bcs (List.replicate (122 - ls.length - (backOf ls).length) 0)) 5 true] = H3 at *
    generalize hM : 122 - ls.length - (backOf ls).length = M at *
    generalize hQ : List.replicate M (0 : UInt8) = Q at *
    generalize hN : 124 - p.length = N at *
    repeat (first | refine LW.seq_ops ?_ | refine lrun_end ?_ | (refine lrun_step (by decide) ?_; intro K hK; simp [h0, h1, h6, h7, ssl, llen_sl ty29, convK_int ty3 ty5, w1, t2, s2, a1, ll, e1, e2, mk, s3, a2, a3]; refine hK _ _ ?_; clear hK K) | (refine lrun_stepG rfl (by decide) (by decide) ?_; intro K hK; simp [h0, h1, h6, h7, ssl, llen_sl ty29, convK_int ty3 ty5, w1, t2, s2, a1, ll, e1, e2, mk, s3, a2, a3]; refine hK _ _ ?_; clear hK K) | (refine lrun_stepN ?_; intro K hK; simp [h0, h1, h6, h7, ssl, llen_sl ty29, convK_int ty3 ty5, w1, t2, s2, a1, ll, e1, e2, mk, s3, a2, a3]; refine hK _ _ ?_; clear hK K) | refine LW.seq ?_ | refine LW.block ?_ | refine LW.ops ?_ | refine LW.skip ?_ | refine LW.ret ?_ | refine LW.exit ?_ | refine LW.label ?_ | refine thn_n ?_ | refine thn_r ?_ | refine thn_e ?_ | refine inb_n ?_ | refine inb_r ?_ | refine inb_x ?_ | refine inb_e (by decide) ?_ | (refine LW.ct ?_ ?_; · simp [h0, h1, h6, h7, ssl, llen_sl ty29, convK_int ty3 ty5, w1, t2, s2, a1, ll, e1, e2, mk, s3, a2, a3]; done) | (refine LW.cf ?_ ?_; · simp [h0, h1, h6, h7, ssl, llen_sl ty29, convK_int ty3 ty5, w1, t2, s2, a1, ll, e1, e2, mk, s3, a2, a3]; done) | fail)
    refine lrun_step (by decide) ?_; intro K hK; simp
    refine callK.by (rcrcOf_LC (bodyOf kind ls) (by omega) _) ?_
    rintro v H4 ⟨rfl, rfl⟩
    refine hK _ _ ?_; clear hK K
    refine lrun_step (by decide) ?_; intro K hK; simp [convK_int ty23 ty46, w64]; refine hK _ _ ?_; clear hK K
    refine lrun_step (by decide) ?_; intro K hK; simp
    refine callK.by (rnum_LC (crcOf (bodyOf kind ls)) 4 (by omega) (by omega) (by omega) _) ?_
    rintro v H4 ⟨rfl, rfl⟩
    refine hK _ _ ?_; clear hK K
    repeat (first | refine LW.seq_ops ?_ | refine lrun_end ?_ | (refine lrun_step (by decide) ?_; intro K hK; simp [a4]; refine hK _ _ ?_; clear hK K) | (refine lrun_stepG rfl (by decide) (by decide) ?_; intro K hK; simp [a4]; refine hK _ _ ?_; clear hK K) | (refine lrun_stepN ?_; intro K hK; simp [a4]; refine hK _ _ ?_; clear hK K) | refine LW.seq ?_ | refine LW.block ?_ | refine LW.ops ?_ | refine LW.skip ?_ | refine LW.ret ?_ | refine LW.exit ?_ | refine LW.label ?_ | refine thn_n ?_ | refine thn_r ?_ | refine thn_e ?_ | refine inb_n ?_ | refine inb_r ?_ | refine inb_x ?_ | refine inb_e (by decide) ?_ | (refine LW.ct ?_ ?_; · simp [a4]; done) | (refine LW.cf ?_ ?_; · simp [a4]; done) | fail)
    have hfin : H4 = H' ++ (J ++ ([LB.c (bcs [kind, bn]) 5 true] ++ [LB.c (bcs Q) 5 true])) := by
      rw [← hH3, ← hH2, ← hHJ, List.append_assoc, List.append_assoc]
    rw [hfin]
    refine hZ _ _ ⟨.inr rfl, .t [.s (BA (pageOf kind ls)), .i .i64 0], by simp [lres, lres1, Tryd.f23], leave_drop (.t fun q y hq => ?_) ⟨rfl, rfl⟩⟩
    match q with
    | 0 => simp at hq; subst hq; exact .s _
    | 1 => simp at hq; subst hq; exact .i _ _
    | q + 2 => simp at hq
  · have hb1 := hback i hi
    have hb2 := hback (i + 1) (by omega)
    have hbs : backOf (ls.take (i + 1)) = ls[i] ++ backOf (ls.take i) := by rw [List.take_succ_eq_append_getElem h2, backOf_snoc]
    have hbl : (backOf (ls.take (i + 1))).length = ls[i].length + (backOf (ls.take i)).length := by rw [hbs]; simp
    generalize hHJ : H' ++ J = HJ at *
    have e1 : IntKind.i64.wrap ((i : Int) + 1) = (i : Int) + 1 := wrap_i64 (by omega) (by omega)
    have e3 : liaddr Tryd.prog 29 (ssl (ls.map BA)) (.i .i64 (i : Int)) = some (.ep [.s (BA ls[i])] 0) := by
      unfold ssl
      exact liaddr_sl (y := .s (BA ls[i])) ty29 sz9 (by simp [h2])
    have a1 : ∀ {P : Program} {ty : TypeId} {lit : Bool}, lbin P .add ty lit (.s (BA ls[i])) (.s (BA (backOf (ls.take i)))) = some (.s (BA (backOf (ls.take (i + 1))))) := by
      intro P ty lit
      rw [sadd_BA (by omega), ← hbs]
    have ll : ∀ (H : List LB) (l : List UInt8), llen Tryd.prog H 9 (.s (BA l)) = some (.i .i64 (l.length : Int)) := fun H l => llen_BA ty9
    have e2 : IntKind.i64.wrap (128 - ((backOf (ls.take (i + 1))).length : Int)) = ((128 - (backOf (ls.take (i + 1))).length : Nat) : Int) := by
      rw [wrap_i64 (by omega) (by omega)]
      omega
    have e7 := wrap_u8_small (E := 128 - (backOf (ls.take (i + 1))).length) (by omega)
    have t1 := one_byte HJ (UInt8.ofNat (128 - (backOf (ls.take (i + 1))).length))
    have s1 := str_own HJ [UInt8.ofNat (128 - (backOf (ls.take (i + 1))).length)] 1 rfl 1 0
    have a2 : ∀ {P : Program} {ty : TypeId} {lit : Bool}, lbin P .add ty lit (.s (BA (slotsOf ls i))) (.s (BA [UInt8.ofNat (128 - (backOf (ls.take (i + 1))).length)])) = some (.s (BA (slotsOf ls (i + 1)))) := by
      intro P ty lit
      rw [sadd_BA (by simp [slotsOf_length]; omega), slotsOf_succ]
    generalize hE : 128 - (backOf (ls.take (i + 1))).length = E at *
    generalize hq : UInt8.ofNat E = q at *
    generalize hH2 : HJ ++ [LB.c (bcs [q]) 5 true] = H2 at *
    repeat (first | refine LW.seq_ops ?_ | refine lrun_end ?_ | (refine lrun_step (by decide) ?_; intro K hK; simp [h0, h1, h6, h7, h8, e3, lload_one ag9, a1, ll, e2, convK_int ty3 ty5, e7, t1, s1, a2, e1]; refine hK _ _ ?_; clear hK K) | (refine lrun_stepG rfl (by decide) (by decide) ?_; intro K hK; simp [h0, h1, h6, h7, h8, e3, lload_one ag9, a1, ll, e2, convK_int ty3 ty5, e7, t1, s1, a2, e1]; refine hK _ _ ?_; clear hK K) | (refine lrun_stepN ?_; intro K hK; simp [h0, h1, h6, h7, h8, e3, lload_one ag9, a1, ll, e2, convK_int ty3 ty5, e7, t1, s1, a2, e1]; refine hK _ _ ?_; clear hK K) | refine LW.seq ?_ | refine LW.block ?_ | refine LW.ops ?_ | refine LW.skip ?_ | refine LW.ret ?_ | refine LW.exit ?_ | refine LW.label ?_ | refine thn_n ?_ | refine thn_r ?_ | refine thn_e ?_ | refine inb_n ?_ | refine inb_r ?_ | refine inb_x ?_ | refine inb_e (by decide) ?_ | (refine LW.ct ?_ ?_; · simp [h0, h1, h6, h7, h8, e3, lload_one ag9, a1, ll, e2, convK_int ty3 ty5, e7, t1, s1, a2, e1]; done) | (refine LW.cf ?_ ?_; · simp [h0, h1, h6, h7, h8, e3, lload_one ag9, a1, ll, e2, convK_int ty3 ty5, e7, t1, s1, a2, e1]; done) | fail)
    refine hZ2 _ _ ⟨ls.length - (i + 1), by omega, i + 1, J ++ [LB.c (bcs [q]) 5 true], by omega, rfl, by simp [h0], by simp [h1], by simp, by simp, by simp, by rw [← hH2, ← hHJ, List.append_assoc]⟩
end Go.Lw
