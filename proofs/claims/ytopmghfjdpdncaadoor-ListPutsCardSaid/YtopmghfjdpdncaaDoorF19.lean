/- cells.Pack -/
import Derived.Test.YtopmghfjdpdncaaDoorF31
import Derived.Test.YtopmghfjdpdncaaDoorF39
import Derived.Test.YtopmghfjdpdncaaDoorF18
set_option linter.unusedSimpArgs false
set_option linter.unusedVariables false
namespace Go.Lw
open Go Go.Proofs Go.RowKit
variable {G : List (Nat × List V)}

theorem alloc_page (H : List LB) (K : V → List LB → Prop) : allocK Tryd.prog H 64 K = K (.p H.length 0) (H ++ [.c (bcs (List.replicate 128 0)) 64 true]) := by
  unfold allocK
  rw [ze64]
  rfl

attribute [local irreducible] LW callK LC lany lrun ldo oK oK2 oKH gK yieldK LY

theorem page_ia (r j : Nat) (h : j < 128) : liaddr Tryd.prog 64 (.p r 0) (.i .i64 (j : Int)) = some (.p r j) := by
  have h2 : (j : Int) < 128 := by omega
  simp [liaddr, h2]

theorem page_cut (r E : Nat) (h : E ≤ 128) : lslice Tryd.prog 64 (.p r 0) (some (.i .i64 (E : Int))) none none = some (.own r E (128 - E) (128 - E) 0) := by
  have h2 : (E : Int) ≤ 128 := by omega
  simp [lslice, lbnds, nb, h2]

theorem page_all (r : Nat) : lslice Tryd.prog 64 (.p r 0) none none none = some (.own r 0 128 128 0) := by
  simp [lslice, lbnds, nb]

theorem pack_LC (hG : G.lookup 0 = some halfV) (hG0 : ∀ g cs, (g, cs) ∈ G → V.Lt 0 (.ep cs 0)) (kind : UInt8) (hk : kind ≠ 0) (ls : List (List UInt8)) (hs : sizeOf2 ls ≤ 122) (H : List LB) :
    LC Tryd.prog G 19 [.i .u8 (kind.toNat : Int), bbl ls] H fun v H' => v = .t [bsl (pageOf kind ls), .i .i64 0] ∧ H' = H := by
  refine LC.of_walk Tryd.f19 52 (by kernel_rfl) (by kernel_rfl) rfl rfl fun Z hZ => ?_
  have hk0 : ¬ kind.toNat = 0 := fun h => hk (UInt8.toNat_inj.1 (by simpa using h))
  have hlen := sizeOf2_len ls
  have n2 : ¬ (122 : Int) < (sizeOf2 ls : Int) := by omega
  have hback : ∀ i, i ≤ ls.length → (backOf (ls.take i)).length + i ≤ 122 := fun i hi => by
    rw [back_len ls i hi]
    have := sizeOf2_le (ls := ls) i
    unfold sizeOf2 at this hs
    omega
  repeat (first | refine LW.seq_ops ?_ | refine lrun_end ?_ | (refine lrun_step (by decide) ?_; intro K hK; simp [hk0]; refine hK _ _ ?_; clear hK K) | (refine lrun_stepG rfl (by decide) (by decide) ?_; intro K hK; simp [hk0]; refine hK _ _ ?_; clear hK K) | (refine lrun_stepN ?_; intro K hK; simp [hk0]; refine hK _ _ ?_; clear hK K) | refine LW.seq ?_ | refine LW.block ?_ | refine LW.ops ?_ | refine LW.skip ?_ | refine LW.ret ?_ | refine LW.exit ?_ | refine LW.label ?_ | refine thn_n ?_ | refine thn_r ?_ | refine thn_e ?_ | refine inb_n ?_ | refine inb_r ?_ | refine inb_x ?_ | refine inb_e (by decide) ?_ | (refine LW.ct ?_ ?_; · simp [hk0]; done) | (refine LW.cf ?_ ?_; · simp [hk0]; done) | fail)
  refine lrun_stepG rfl (by decide) (by decide) ?_
  intro K hK
  simp [hk0]
  refine callK.by (size_LC ls (by omega) _) ?_
  rintro v H' ⟨rfl, rfl⟩
  refine hK _ _ ?_; clear hK K
  have w1 : IntKind.u8.wrap (ls.length : Int) = (((UInt8.ofNat (ls.length % 256)).toNat : Nat) : Int) := wrap_u8_nat _
  have hn8 : UInt8.ofNat (ls.length % 256) = UInt8.ofNat ls.length := by rw [Nat.mod_eq_of_lt (by omega)]
  rw [hn8] at w1
  have s1 := lstore_byte (P := Tryd.prog) (H := H' ++ [.c (bcs (List.replicate 128 0)) 64 true]) (e := 5) (o := 4) (s := kind) sz5 own_get (by simp)
  rw [own_set] at s1
  have p0 : (((List.replicate 128 (0 : UInt8)).take 4 ++ [kind] ++ (List.replicate 128 0).drop 5).take 5 ++ [UInt8.ofNat ls.length] ++ ((List.replicate 128 (0 : UInt8)).take 4 ++ [kind] ++ (List.replicate 128 0).drop 5).drop 6) = pg kind ls 0 := by
    simp only [pg, slotsOf, backOf, List.take_zero]
    rfl
  have s2 := lstore_byte (P := Tryd.prog) (H := H' ++ [.c (bcs ((List.replicate 128 (0 : UInt8)).take 4 ++ [kind] ++ (List.replicate 128 0).drop 5)) 64 true]) (e := 5) (o := 5) (s := UInt8.ofNat ls.length) sz5 own_get (by simp)
  rw [own_set, p0] at s2
  have a4 : liaddr Tryd.prog 64 (.p H'.length 0) (.i .i64 4) = some (.p H'.length 4) := page_ia H'.length 4 (by omega)
  have a5 : liaddr Tryd.prog 64 (.p H'.length 0) (.i .i64 5) = some (.p H'.length 5) := page_ia H'.length 5 (by omega)
  generalize (List.replicate 128 (0 : UInt8)).take 4 ++ [kind] ++ (List.replicate 128 0).drop 5 = P1 at *
  generalize hP0 : List.replicate 128 (0 : UInt8) = P0 at *
  generalize hbn : UInt8.ofNat ls.length = bn at w1 s2
  repeat (first | refine LW.seq_ops ?_ | refine lrun_end ?_ | (refine lrun_step (by decide) ?_; intro K hK; simp [n2, alloc_page, hP0, bbl, llen_sl ty25, convK_int ty3 ty5, w1, a4, a5, s1, s2]; refine hK _ _ ?_; clear hK K) | (refine lrun_stepG rfl (by decide) (by decide) ?_; intro K hK; simp [n2, alloc_page, hP0, bbl, llen_sl ty25, convK_int ty3 ty5, w1, a4, a5, s1, s2]; refine hK _ _ ?_; clear hK K) | (refine lrun_stepN ?_; intro K hK; simp [n2, alloc_page, hP0, bbl, llen_sl ty25, convK_int ty3 ty5, w1, a4, a5, s1, s2]; refine hK _ _ ?_; clear hK K) | refine LW.seq ?_ | refine LW.block ?_ | refine LW.ops ?_ | refine LW.skip ?_ | refine LW.ret ?_ | refine LW.exit ?_ | refine LW.label ?_ | refine thn_n ?_ | refine thn_r ?_ | refine thn_e ?_ | refine inb_n ?_ | refine inb_r ?_ | refine inb_x ?_ | refine inb_e (by decide) ?_ | (refine LW.ct ?_ ?_; · simp [n2, alloc_page, hP0, bbl, llen_sl ty25, convK_int ty3 ty5, w1, a4, a5, s1, s2]; done) | (refine LW.cf ?_ ?_; · simp [n2, alloc_page, hP0, bbl, llen_sl ty25, convK_int ty3 ty5, w1, a4, a5, s1, s2]; done) | fail)
  refine LW.loopN (fun m s => ∃ (i : Nat), i ≤ ls.length ∧ m = ls.length - i ∧ s.t 6 = .p H'.length 0 ∧ s.t 23 = bbl ls ∧ s.t 24 = .i .i64 ls.length ∧ s.t 25 = .i .i64 i ∧ s.t 7 = .i .i64 ((128 - (backOf (ls.take i)).length : Nat) : Int) ∧ s.H = H' ++ [.c (bcs (pg kind ls i)) 64 true]) (m := ls.length)
    ⟨0, by omega, by omega, by simp, by simp [bbl], by simp, by simp, by simp [backOf], rfl⟩ ?_
  rintro m ⟨t, H''⟩ ⟨i, hi, rfl, h6, h23, h24, h25, h7, rfl⟩
  dsimp only at h6 h23 h24 h25 h7 hi
  refine LW.toK fun Z2 hZ2 => ?_
  repeat (first | refine LW.seq_ops ?_ | refine lrun_end ?_ | (refine lrun_step (by decide) ?_; intro K hK; simp [h24, h25]; refine hK _ _ ?_; clear hK K) | (refine lrun_stepG rfl (by decide) (by decide) ?_; intro K hK; simp [h24, h25]; refine hK _ _ ?_; clear hK K) | (refine lrun_stepN ?_; intro K hK; simp [h24, h25]; refine hK _ _ ?_; clear hK K) | refine LW.seq ?_ | refine LW.block ?_ | refine LW.ops ?_ | refine LW.skip ?_ | refine LW.ret ?_ | refine LW.exit ?_ | refine LW.label ?_ | refine thn_n ?_ | refine thn_r ?_ | refine thn_e ?_ | refine inb_n ?_ | refine inb_r ?_ | refine inb_x ?_ | refine inb_e (by decide) ?_ | (refine LW.ct ?_ ?_; · simp [h24, h25]; done) | (refine LW.cf ?_ ?_; · simp [h24, h25]; done) | fail)
  refine LW.dec (p := i < ls.length) (by simp) (fun h2 => ?_) (fun h2 => ?_)
  rotate_left
  · obtain rfl : i = ls.length := by omega
    repeat (first | refine LW.seq_ops ?_ | refine lrun_end ?_ | (refine lrun_step (by decide) ?_; intro K hK; simp; refine hK _ _ ?_; clear hK K) | (refine lrun_stepG rfl (by decide) (by decide) ?_; intro K hK; simp; refine hK _ _ ?_; clear hK K) | (refine lrun_stepN ?_; intro K hK; simp; refine hK _ _ ?_; clear hK K) | refine LW.seq ?_ | refine LW.block ?_ | refine LW.ops ?_ | refine LW.skip ?_ | refine LW.ret ?_ | refine LW.exit ?_ | refine LW.label ?_ | refine thn_n ?_ | refine thn_r ?_ | refine thn_e ?_ | refine inb_n ?_ | refine inb_r ?_ | refine inb_x ?_ | refine inb_e (by decide) ?_ | (refine LW.ct ?_ ?_; · simp; done) | (refine LW.cf ?_ ?_; · simp; done) | fail)
    refine hZ2 _ _ ?_
    repeat (first | refine LW.seq_ops ?_ | refine lrun_end ?_ | (refine lrun_step (by decide) ?_; intro K hK; simp; refine hK _ _ ?_; clear hK K) | (refine lrun_stepG rfl (by decide) (by decide) ?_; intro K hK; simp; refine hK _ _ ?_; clear hK K) | (refine lrun_stepN ?_; intro K hK; simp; refine hK _ _ ?_; clear hK K) | refine LW.seq ?_ | refine LW.block ?_ | refine LW.ops ?_ | refine LW.skip ?_ | refine LW.ret ?_ | refine LW.exit ?_ | refine LW.label ?_ | refine thn_n ?_ | refine thn_r ?_ | refine thn_e ?_ | refine inb_n ?_ | refine inb_r ?_ | refine inb_x ?_ | refine inb_e (by decide) ?_ | (refine LW.ct ?_ ?_; · simp; done) | (refine LW.cf ?_ ?_; · simp; done) | fail)
    have hb := hback ls.length (Nat.le_refl _)
    rw [List.take_length] at hb
    have hbl : (bodyOf kind ls).length = 124 := by
      have h1 := pageOf_length kind ls hb
      have h2 := numB_length (crcOf (bodyOf kind ls)) 4
      unfold pageOf at h1
      rw [List.length_append, h2] at h1
      omega
    have hpb := pg_body kind ls
    have c4 : lslice Tryd.prog 64 (.p H'.length 0) (some (.i .i64 4)) none none = some (.own H'.length 4 124 124 0) := page_cut H'.length 4 (by omega)
    have hcl := crcOf_lt (bodyOf kind ls)
    have w64 : IntKind.u64.wrap (crcOf (bodyOf kind ls) : Int) = (crcOf (bodyOf kind ls) : Int) := wrap_u64 (by omega) (by omega)
    refine LW.draw (by kernel_rfl) ?_
    refine lany_qK 0 rfl (by kernel_rfl) rfl rfl (by decide) ?_; intro K hK; simp [h6, page_all]; refine hK _ ?_; clear hK K
    refine lany_qK 1 rfl (by kernel_rfl) rfl rfl (by decide) ?_; intro K hK; simp [h6, c4]; refine hK _ ?_; clear hK K
    refine lany_oK 2 (by kernel_rfl) rfl rfl rfl (by decide) ?_; intro K hK; simp
    refine callK.by (LC.frame (args' := [bsl (bodyOf kind ls)]) (crcOf_LC hG (bodyOf kind ls) (by omega) []) hG0 rfl ?_ ?_) ?_
    · intro j x y hx hy
      match j with
      | 0 =>
        simp at hx hy
        subst hx hy
        refine purR_part own_get ?_ hbl
        rw [hpb]
        show ((bcs ([0, 0, 0, 0] ++ bodyOf kind ls)).drop 4).take 124 = _
        simp only [bcs, List.map_append]
        rw [List.drop_append_of_le_length (by simp)]
        simp
        rw [List.take_of_length_le (by simp; omega)]
      | j + 1 => simp at hx
    · rintro v H2 ⟨rfl, _⟩
      exact .i _ _
    rintro v H2 ⟨⟨H1, rfl, _⟩, rfl⟩
    refine hK _ _ ?_; clear hK K
    refine lany_oK 3 (by kernel_rfl) rfl rfl rfl (by decide) ?_; intro K hK; simp [convK_int ty23 ty46, w64]; refine hK _ _ ?_; clear hK K
    refine lany_oK 4 (by kernel_rfl) rfl rfl rfl (by decide) ?_; intro K hK; simp
    refine callK.by (num_LC (crcOf (bodyOf kind ls)) 4 (by omega) (by omega) (by omega) _) ?_
    rintro v H2 ⟨rfl, rfl⟩
    refine hK _ _ ?_; clear hK K
    have cc := lcopy_bytes (P := Tryd.prog) (H := H' ++ [.c (bcs (pg kind ls ls.length)) 64 true]) (t := 32) (e := 5) (ats := #[32, 32]) (r := H'.length) (o := 0) (n := 128) (c := 128) (x := 0) (B := numB (crcOf (bodyOf kind ls)) 4) rfl ty32 sz5 own_get (by rw [numB_length]; omega) (by rw [hpb]; simp; omega)
    rw [own_set] at cc
    have cp : (pg kind ls ls.length).take 0 ++ numB (crcOf (bodyOf kind ls)) 4 ++ (pg kind ls ls.length).drop (0 + (numB (crcOf (bodyOf kind ls)) 4).length) = pageOf kind ls := by
      rw [hpb, numB_length]
      rfl
    rw [cp, numB_length] at cc
    refine lany_oK 5 (by kernel_rfl) rfl rfl rfl (by decide) ?_; intro K hK; simp [cc]; refine hK _ _ ?_; clear hK K
    refine lany_done (by kernel_rfl) ?_ _
    repeat (first | refine LW.seq_ops ?_ | refine lrun_end ?_ | (refine lrun_step (by decide) ?_; intro K hK; simp [h6, page_all]; refine hK _ _ ?_; clear hK K) | (refine lrun_stepG rfl (by decide) (by decide) ?_; intro K hK; simp [h6, page_all]; refine hK _ _ ?_; clear hK K) | (refine lrun_stepN ?_; intro K hK; simp [h6, page_all]; refine hK _ _ ?_; clear hK K) | refine LW.seq ?_ | refine LW.block ?_ | refine LW.ops ?_ | refine LW.skip ?_ | refine LW.ret ?_ | refine LW.exit ?_ | refine LW.label ?_ | refine thn_n ?_ | refine thn_r ?_ | refine thn_e ?_ | refine inb_n ?_ | refine inb_r ?_ | refine inb_x ?_ | refine inb_e (by decide) ?_ | (refine LW.ct ?_ ?_; · simp [h6, page_all]; done) | (refine LW.cf ?_ ?_; · simp [h6, page_all]; done) | fail)
    refine lrun_step (by decide) ?_; intro K hK; simp
    have hne : pageOf kind ls ≠ [] := fun h => by
      have := pageOf_length kind ls hb
      rw [h] at this
      simp at this
    refine callK.by (LC.retell (args' := [bsl (pageOf kind ls)]) (H' := (H' ++ [LB.c (bcs (pageOf kind ls)) 64 true]).set H'.length .dead) (clone_LC (pageOf kind ls) hne (by rw [pageOf_length kind ls hb]; omega) _) (retell_dead _) rfl ?_) ?_
    · intro j x y hx hy
      match j with
      | 0 =>
        simp at hx hy
        subst hx hy
        refine purS_part own_get (shut_dead (by simp)) ?_ (pageOf_length kind ls hb)
        rw [List.drop_zero, List.take_of_length_le (by simp [pageOf_length kind ls hb])]
      | j + 1 => simp at hx
    rintro v H2 ⟨rfl, rfl⟩
    refine hK _ _ ?_; clear hK K
    repeat (first | refine LW.seq_ops ?_ | refine lrun_end ?_ | (refine lrun_step (by decide) ?_; intro K hK; simp; refine hK _ _ ?_; clear hK K) | (refine lrun_stepG rfl (by decide) (by decide) ?_; intro K hK; simp; refine hK _ _ ?_; clear hK K) | (refine lrun_stepN ?_; intro K hK; simp; refine hK _ _ ?_; clear hK K) | refine LW.seq ?_ | refine LW.block ?_ | refine LW.ops ?_ | refine LW.skip ?_ | refine LW.ret ?_ | refine LW.exit ?_ | refine LW.label ?_ | refine thn_n ?_ | refine thn_r ?_ | refine thn_e ?_ | refine inb_n ?_ | refine inb_r ?_ | refine inb_x ?_ | refine inb_e (by decide) ?_ | (refine LW.ct ?_ ?_; · simp; done) | (refine LW.cf ?_ ?_; · simp; done) | fail)
    refine hZ _ _ ⟨.inr rfl, .t [bsl (pageOf kind ls), .i .i64 0], by simp [lres, lres1, Tryd.f19], leave_drop (.t fun q y hq => ?_) ⟨rfl, rfl⟩⟩
    match q with
    | 0 => simp at hq; subst hq; exact lt_bsl
    | 1 => simp at hq; subst hq; exact .i _ _
    | q + 2 => simp at hq
  · have hb1 := hback i hi
    have hb2 := hback (i + 1) (by omega)
    have hbs : backOf (ls.take (i + 1)) = ls[i] ++ backOf (ls.take i) := by rw [List.take_succ_eq_append_getElem h2, backOf_snoc]
    have hbl : (backOf (ls.take (i + 1))).length = ls[i].length + (backOf (ls.take i)).length := by rw [hbs]; simp
    have e1 : IntKind.i64.wrap ((i : Int) + 1) = (i : Int) + 1 := wrap_i64 (by omega) (by omega)
    have e2 : IntKind.i64.wrap (((128 - (backOf (ls.take i)).length : Nat) : Int) - (ls[i].length : Int)) = ((128 - (backOf (ls.take (i + 1))).length : Nat) : Int) := by
      rw [wrap_i64 (by omega) (by omega)]
      omega
    have e3 : liaddr Tryd.prog 25 (bbl ls) (.i .i64 (i : Int)) = some (.ep [bsl ls[i]] 0) := by
      unfold bbl
      exact liaddr_sl (y := bsl ls[i]) ty25 sz32 (by simp [h2])
    have e4 : IntKind.i64.wrap (6 + (i : Int)) = 6 + (i : Int) := wrap_i64 (by omega) (by omega)
    have e5 : liaddr Tryd.prog 64 (.p H'.length 0) (.i .i64 (6 + (i : Int))) = some (.p H'.length (6 + i)) := by
      have h := page_ia H'.length (6 + i) (by omega)
      rwa [show ((6 + i : Nat) : Int) = 6 + (i : Int) by omega] at h
    have e6 := page_cut H'.length (128 - (backOf (ls.take (i + 1))).length) (by omega)
    have e7 := wrap_u8_small (E := 128 - (backOf (ls.take (i + 1))).length) (by omega)
    have hpl := pg_length kind ls i hb1
    have pre6 : ([0, 0, 0, 0, kind, UInt8.ofNat ls.length] ++ slotsOf ls i).length = 6 + i := by simp [slotsOf_length]; omega
    have c1 := lcopy_bytes (P := Tryd.prog) (H := H' ++ [.c (bcs (pg kind ls i)) 64 true]) (t := 32) (e := 5) (ats := #[32, 32]) (r := H'.length) (o := 128 - (backOf (ls.take (i + 1))).length) (n := 128 - (128 - (backOf (ls.take (i + 1))).length)) (c := 128 - (128 - (backOf (ls.take (i + 1))).length)) (x := 0) (B := ls[i]) rfl ty32 sz5 own_get (by omega) (by rw [hpl]; omega)
    rw [own_set] at c1
    have m1 := put_mid ([0, 0, 0, 0, kind, UInt8.ofNat ls.length] ++ slotsOf ls i) (backOf (ls.take i)) ls[i] (122 - i - (backOf (ls.take i)).length) (by omega)
    rw [pre6, show 6 + i + (122 - i - (backOf (ls.take i)).length - ls[i].length) = 128 - (backOf (ls.take (i + 1))).length by omega] at m1
    rw [← hbs, show 122 - i - (backOf (ls.take i)).length - ls[i].length = 122 - i - (backOf (ls.take (i + 1))).length by omega] at m1
    have m1' : (pg kind ls i).take (128 - (backOf (ls.take (i + 1))).length) ++ ls[i] ++ (pg kind ls i).drop (128 - (backOf (ls.take (i + 1))).length + ls[i].length) = ([0, 0, 0, 0, kind, UInt8.ofNat ls.length] ++ slotsOf ls i) ++ (List.replicate (122 - i - (backOf (ls.take (i + 1))).length) 0 ++ backOf (ls.take (i + 1))) := m1
    rw [m1'] at c1
    have m2 := put_first ([0, 0, 0, 0, kind, UInt8.ofNat ls.length] ++ slotsOf ls i) (backOf (ls.take (i + 1))) (UInt8.ofNat (128 - (backOf (ls.take (i + 1))).length)) (122 - i - (backOf (ls.take (i + 1))).length) (by omega)
    rw [pre6] at m2
    have m2' : ([0, 0, 0, 0, kind, UInt8.ofNat ls.length] ++ slotsOf ls i ++ [UInt8.ofNat (128 - (backOf (ls.take (i + 1))).length)]) ++ (List.replicate (122 - i - (backOf (ls.take (i + 1))).length - 1) 0 ++ backOf (ls.take (i + 1))) = pg kind ls (i + 1) := by
      unfold pg
      rw [slotsOf_succ, show 122 - i - (backOf (ls.take (i + 1))).length - 1 = 122 - (i + 1) - (backOf (ls.take (i + 1))).length by omega]
      simp
    rw [m2'] at m2
    have mlen : (([0, 0, 0, 0, kind, UInt8.ofNat ls.length] ++ slotsOf ls i) ++ (List.replicate (122 - i - (backOf (ls.take (i + 1))).length) 0 ++ backOf (ls.take (i + 1)))).length = 128 := by
      rw [List.length_append, pre6]
      simp
      omega
    have c2 := lstore_byte (P := Tryd.prog) (H := H' ++ [.c (bcs (([0, 0, 0, 0, kind, UInt8.ofNat ls.length] ++ slotsOf ls i) ++ (List.replicate (122 - i - (backOf (ls.take (i + 1))).length) 0 ++ backOf (ls.take (i + 1))))) 64 true]) (e := 5) (r := H'.length) (o := 6 + i) (s := UInt8.ofNat (128 - (backOf (ls.take (i + 1))).length)) sz5 own_get (by omega)
    rw [own_set, m2] at c2
    generalize ([0, 0, 0, 0, kind, UInt8.ofNat ls.length] ++ slotsOf ls i) ++ (List.replicate (122 - i - (backOf (ls.take (i + 1))).length) 0 ++ backOf (ls.take (i + 1))) = P2 at *
    generalize hE : 128 - (backOf (ls.take (i + 1))).length = E at *
    generalize hE0 : 128 - (backOf (ls.take i)).length = E0 at *
    generalize hq : UInt8.ofNat E = q at e7 c2
    repeat (first | refine LW.seq_ops ?_ | refine lrun_end ?_ | (refine lrun_step (by decide) ?_; intro K hK; simp [h6, h23, h25, h7, e3, lload_one ag32, llen_bsl ty32, e2, e6, c1, e4, convK_int ty3 ty5, e7, e5, c2, e1]; refine hK _ _ ?_; clear hK K) | (refine lrun_stepG rfl (by decide) (by decide) ?_; intro K hK; simp [h6, h23, h25, h7, e3, lload_one ag32, llen_bsl ty32, e2, e6, c1, e4, convK_int ty3 ty5, e7, e5, c2, e1]; refine hK _ _ ?_; clear hK K) | (refine lrun_stepN ?_; intro K hK; simp [h6, h23, h25, h7, e3, lload_one ag32, llen_bsl ty32, e2, e6, c1, e4, convK_int ty3 ty5, e7, e5, c2, e1]; refine hK _ _ ?_; clear hK K) | refine LW.seq ?_ | refine LW.block ?_ | refine LW.ops ?_ | refine LW.skip ?_ | refine LW.ret ?_ | refine LW.exit ?_ | refine LW.label ?_ | refine thn_n ?_ | refine thn_r ?_ | refine thn_e ?_ | refine inb_n ?_ | refine inb_r ?_ | refine inb_x ?_ | refine inb_e (by decide) ?_ | (refine LW.ct ?_ ?_; · simp [h6, h23, h25, h7, e3, lload_one ag32, llen_bsl ty32, e2, e6, c1, e4, convK_int ty3 ty5, e7, e5, c2, e1]; done) | (refine LW.cf ?_ ?_; · simp [h6, h23, h25, h7, e3, lload_one ag32, llen_bsl ty32, e2, e6, c1, e4, convK_int ty3 ty5, e7, e5, c2, e1]; done) | fail)
    refine hZ2 _ _ ⟨ls.length - (i + 1), by omega, i + 1, by omega, rfl, by simp [h6], by simp [h23], by simp [h24], by simp, by simp [hE], rfl⟩
end Go.Lw
