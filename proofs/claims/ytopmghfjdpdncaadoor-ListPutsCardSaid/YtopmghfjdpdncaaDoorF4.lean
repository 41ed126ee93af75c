/- awake: a list lies on a disk -/
import Derived.Test.YtopmghfjdpdncaaDoorF14
import Derived.Test.YtopmghfjdpdncaaDoorF11
import Derived.Test.YtopmghfjdpdncaaDoorF15
set_option linter.unusedSimpArgs false
set_option linter.unusedVariables false
namespace Go.Lw
open Go Go.Proofs Go.RowKit
variable {G : List (Nat × List V)}

theorem puts27 : Puts [2, 7] [4] := by decide
theorem pages27 : pagesOf [2, 7] [4] 1 = [pageOf 4 [(0 :: [2, 7]).flatMap fun n : Int => numB n.toNat 2]] := by simp [pagesOf, cellOf, part, List.range_succ]
theorem slice27 (H : List LB) : lbslice Tryd.prog H 22 2 [(0, .i .i64 2), (1, .i .i64 7)] = some (.own H.length 0 2 2 0, H ++ [.c ([2, 7].map (V.i .i64)) 3 true]) := by
  simp [lbslice, Value.cells, lfill, rep, put]
theorem slice1 (H : List LB) (n : Int) : lbslice Tryd.prog H 22 1 [(0, .i .i64 n)] = some (.own H.length 0 1 1 0, H ++ [.c ([n].map (V.i .i64)) 3 true]) := lbslice_one ty22 sz3 ze3 rfl rfl rfl

/-- An array of one's own is told by its numbers: the one place that is struck. -/
theorem purS_own {H : List LB} {r n c x : Nat} {l : List Int} {e : TypeId} {mu : Bool} (hr : H[r]? = some (.c (l.map (V.i .i64)) e mu)) (hn : l.length = n) : PurS H (H.set r .dead) (.own r 0 n c x) (isl l) :=
  purS_isl hr (shut_dead (List.getElem?_eq_some_iff.1 hr).1) hn
theorem DiskAt.up {H H' : List LB} {d m r q : Nat} {log : V} (h : DiskAt H d m r q log) (hu : ∀ (i : Nat) b, H[i]? = some b → H'[i]? = some b) : DiskAt H' d m r q log :=
  ⟨hu _ _ h.hd, hu _ _ h.hq, hu _ _ h.hr, hu _ _ h.hm⟩

theorem take_of_get {H J : List LB} (h : ∀ i, i < H.length → J[i]? = H[i]?) : J.take H.length = H := by
  apply List.ext_getElem?
  intro i
  rcases Nat.lt_or_ge i H.length with hi | hi
  · rw [List.getElem?_take_of_lt hi, h i hi]
  · rw [List.getElem?_eq_none (by simp; omega), List.getElem?_eq_none (by omega)]

instance (f w : Int) (k : Nat) : Decidable (Fits f w k) := inferInstanceAs (Decidable (_ ≤ _))
theorem least_60_0 : Least (if (60 : Int) < 0 then 0 else 60) (if (0 : Int) < 0 then 0 else 0) 1 := ⟨by decide, by decide⟩
theorem least_0_0 : Least (if (0 : Int) < 0 then 0 else 0) (if (0 : Int) < 0 then 0 else 0) 0 := ⟨by decide, by decide⟩
theorem least_0_60 : Least (if (0 : Int) < 0 then 0 else 0) (if (60 : Int) < 0 then 0 else 60) 2 := ⟨by decide, by decide⟩
attribute [local irreducible] LW callK LC lany lrun ldo oK oK2 oKH gK yieldK LY

set_option maxHeartbeats 2000000 in
theorem awake_LC (hG : G.lookup 0 = some halfV) (hG0 : ∀ g cs, (g, cs) ∈ G → V.Lt 0 (.ep cs 0)) (H : List LB) : LC Tryd.prog G 4 [] H fun v H' => v = .b true ∧ H' = H := by
  refine LC.of_walk Tryd.f4 75 (by kernel_rfl) (by kernel_rfl) rfl rfl fun Z hZ => ?_
  repeat (first | refine LW.seq_ops ?_ | refine lrun_end ?_ | (refine lrun_step (by decide) ?_; intro K hK; simp [slice1]; refine hK _ _ ?_; clear hK K) | (refine lrun_stepG rfl (by decide) (by decide) ?_; intro K hK; simp [slice1]; refine hK _ _ ?_; clear hK K) | (refine lrun_stepN ?_; intro K hK; simp [slice1]; refine hK _ _ ?_; clear hK K) | refine LW.seq ?_ | refine LW.block ?_ | refine LW.ops ?_ | refine LW.skip ?_ | refine LW.ret ?_ | refine LW.exit ?_ | refine LW.label ?_ | refine thn_n ?_ | refine thn_r ?_ | refine thn_e ?_ | refine inb_n ?_ | refine inb_r ?_ | refine inb_x ?_ | refine inb_e (by decide) ?_ | (refine LW.ct ?_ ?_; · simp [slice1]; done) | (refine LW.cf ?_ ?_; · simp [slice1]; done) | fail)
  refine lrun_step (by decide) ?_; intro K hK; simp
  have b1 : (H ++ [LB.c ([9].map (V.i .i64)) 3 true])[H.length]? = some (.c ([9].map (V.i .i64)) 3 true) := own_get
  refine callK.by (LC.retell (args' := [isl [9]]) (new_LC _) (retell_dead H.length) rfl fun q x y h1 h2 => ?_) ?_
  · match q with
    | 0 => simp at h1 h2; subst h1 h2; exact purS_own b1 rfl
    | q + 1 => simp at h1
  rintro v H1 ⟨q, rfl, hD, ht1, hq⟩
  have hH0 : ((H ++ [LB.c [V.i .i64 9] 3 true]).set H.length .dead).length = H.length + 1 := by simp
  have pre0 : ∀ i, i < H.length → ((H ++ [LB.c [V.i .i64 9] 3 true]).set H.length .dead)[i]? = H[i]? := fun i hi => by rw [List.getElem?_set_ne (by omega), List.getElem?_append_left hi]
  simp only [hH0] at hD ht1 hq ⊢
  generalize (H ++ [LB.c [V.i .i64 9] 3 true]).set H.length .dead = H0 at *
  refine hK _ _ ?_; clear hK K
  have lH1 : H.length + 1 ≤ H1.length := by
    have := congrArg List.length ht1
    simp [hH0] at this
    omega
  have pre1 : ∀ i, i < H.length → H1[i]? = H[i]? := fun i hi => by
    have := congrArg (fun z => z[i]?) ht1
    simp only [List.getElem?_take_of_lt (show i < H.length + 1 by omega)] at this
    rw [this, pre0 i hi]
  clear ht1 pre0
  generalize hd : H.length + 1 = d at *
  have s2 := slice27 H1
  have s3 := slice1 (H1 ++ [LB.c ([2, 7].map (V.i .i64)) 3 true]) 4
  have l2 : (H1 ++ [LB.c ([2, 7].map (V.i .i64)) 3 true]).length = H1.length + 1 := by simp
  have g2 : (H1 ++ [LB.c ([2, 7].map (V.i .i64)) 3 true] ++ [LB.c ([4].map (V.i .i64)) 3 true])[H1.length]? = some (.c ([2, 7].map (V.i .i64)) 3 true) := by rw [List.getElem?_append_left (by omega), own_get]
  have g3 : (H1 ++ [LB.c ([2, 7].map (V.i .i64)) 3 true] ++ [LB.c ([4].map (V.i .i64)) 3 true])[H1.length + 1]? = some (.c ([4].map (V.i .i64)) 3 true) := by rw [← l2, own_get]
  have up3 : ∀ (i : Nat) b, H1[i]? = some b → (H1 ++ [LB.c ([2, 7].map (V.i .i64)) 3 true] ++ [LB.c ([4].map (V.i .i64)) 3 true])[i]? = some b := fun i b h => by
    have := (List.getElem?_eq_some_iff.1 h).1
    rw [List.getElem?_append_left (by omega), List.getElem?_append_left (by omega)]
    exact h
  have l3 : (H1 ++ [LB.c ([2, 7].map (V.i .i64)) 3 true] ++ [LB.c ([4].map (V.i .i64)) 3 true]).length = H1.length + 2 := by simp
  rw [l2] at s3
  generalize H1 ++ [LB.c ([2, 7].map (V.i .i64)) 3 true] = H2 at *
  generalize H2 ++ [LB.c ([4].map (V.i .i64)) 3 true] = H3 at *
  repeat (first | refine LW.seq_ops ?_ | refine lrun_end ?_ | (refine lrun_step (by decide) ?_; intro K hK; simp [lextract, s2, s3]; refine hK _ _ ?_; clear hK K) | (refine lrun_stepG rfl (by decide) (by decide) ?_; intro K hK; simp [lextract, s2, s3]; refine hK _ _ ?_; clear hK K) | (refine lrun_stepN ?_; intro K hK; simp [lextract, s2, s3]; refine hK _ _ ?_; clear hK K) | refine LW.seq ?_ | refine LW.block ?_ | refine LW.ops ?_ | refine LW.skip ?_ | refine LW.ret ?_ | refine LW.exit ?_ | refine LW.label ?_ | refine thn_n ?_ | refine thn_r ?_ | refine thn_e ?_ | refine inb_n ?_ | refine inb_r ?_ | refine inb_x ?_ | refine inb_e (by decide) ?_ | (refine LW.ct ?_ ?_; · simp [lextract, s2, s3]; done) | (refine LW.cf ?_ ?_; · simp [lextract, s2, s3]; done) | fail)
  refine lrun_step (by decide) ?_; intro K hK; simp
  refine callK.by (LC.retell (args' := [isl [2, 7], isl [4]]) (put_LC hG hG0 [2, 7] [4] (by decide) (by decide) _) (retell_two H3 H1.length (H1.length + 1)) rfl fun q x y h1 h2 => ?_) ?_
  · have sh1 : shut ((H3.set H1.length .dead).set (H1.length + 1) .dead) H1.length := ⟨.dead, by rw [List.getElem?_set_ne (by omega), List.getElem?_set_self (by omega)], rfl⟩
    have sh2 : shut ((H3.set H1.length .dead).set (H1.length + 1) .dead) (H1.length + 1) := ⟨.dead, by rw [List.getElem?_set_self (by simp; omega)], rfl⟩
    match q with
    | 0 => simp at h1 h2; subst h1 h2; exact purS_isl g2 sh1 rfl
    | 1 => simp at h1 h2; subst h1 h2; exact purS_isl g3 sh2 rfl
    | q + 2 => simp at h1
  rintro v H4 ⟨hv, hH4⟩
  rw [if_pos puts27, show [(4 : Int)].length = 1 from rfl, pages27] at hv
  subst hv
  refine hK _ _ ?_; clear hK K
  have pre4 : ∀ (i : Nat) b, H1[i]? = some b → H4[i]? = some b := fun i b h => by
    have := (List.getElem?_eq_some_iff.1 h).1
    rw [hH4, List.getElem?_set_ne (by omega), List.getElem?_set_ne (by omega)]
    exact up3 i b h
  have l4 : H1.length ≤ H4.length := by rw [hH4]; simp; omega
  have hD4 := hD.up pre4
  clear hD up3 s2 s3 g2 g3 hH4
  have hpl : (pageOf 4 [(0 :: [2, 7]).flatMap fun n : Int => numB n.toNat 2]).length = 128 := pageOf_length _ _ (by decide)
  have hget := fun {H5 : List LB} {s : Nat} => get_LC hG hG0 (H := H5) (d := d) (m := d + 1) (r := d + 2) (q := q) (s := s) (a := 4) [2, 7] (by decide) (by decide) (by decide) (by decide)
  generalize pageOf 4 [(0 :: [2, 7]).flatMap fun n : Int => numB n.toNat 2] = page at *
  have e1 : liaddr Tryd.prog 25 (bbl [page]) (.i .i64 0) = some (.ep [bsl page] 0) := liaddr_sl (i := 0) (y := bsl page) ty25 sz32 rfl
  repeat (first | refine LW.seq_ops ?_ | refine lrun_end ?_ | (refine lrun_step (by decide) ?_; intro K hK; simp [lextract, llen_bbl ty25, e1, lload_one ag32]; refine hK _ _ ?_; clear hK K) | (refine lrun_stepG rfl (by decide) (by decide) ?_; intro K hK; simp [lextract, llen_bbl ty25, e1, lload_one ag32]; refine hK _ _ ?_; clear hK K) | (refine lrun_stepN ?_; intro K hK; simp [lextract, llen_bbl ty25, e1, lload_one ag32]; refine hK _ _ ?_; clear hK K) | refine LW.seq ?_ | refine LW.block ?_ | refine LW.ops ?_ | refine LW.skip ?_ | refine LW.ret ?_ | refine LW.exit ?_ | refine LW.label ?_ | refine thn_n ?_ | refine thn_r ?_ | refine thn_e ?_ | refine inb_n ?_ | refine inb_r ?_ | refine inb_x ?_ | refine inb_e (by decide) ?_ | (refine LW.ct ?_ ?_; · simp [lextract, llen_bbl ty25, e1, lload_one ag32]; done) | (refine LW.cf ?_ ?_; · simp [lextract, llen_bbl ty25, e1, lload_one ag32]; done) | fail)
  refine lrun_step (by decide) ?_; intro K hK; simp
  refine callK.by (write_LC hD4 page hpl 4 (by decide)) ?_
  rintro v H5 ⟨rfl, s, hD5, hs5, pre5, l5⟩
  refine hK _ _ ?_; clear hK K
  repeat (first | refine LW.seq_ops ?_ | refine lrun_end ?_ | (refine lrun_step (by decide) ?_; intro K hK; simp; refine hK _ _ ?_; clear hK K) | (refine lrun_stepG rfl (by decide) (by decide) ?_; intro K hK; simp; refine hK _ _ ?_; clear hK K) | (refine lrun_stepN ?_; intro K hK; simp; refine hK _ _ ?_; clear hK K) | refine LW.seq ?_ | refine LW.block ?_ | refine LW.ops ?_ | refine LW.skip ?_ | refine LW.ret ?_ | refine LW.exit ?_ | refine LW.label ?_ | refine thn_n ?_ | refine thn_r ?_ | refine thn_e ?_ | refine inb_n ?_ | refine inb_r ?_ | refine inb_x ?_ | refine inb_e (by decide) ?_ | (refine LW.ct ?_ ?_; · simp; done) | (refine LW.cf ?_ ?_; · simp; done) | fail)
  refine lrun_step (by decide) ?_; intro K hK; simp
  refine callK.by (hget hD5 hs5 (by decide) (by decide)) ?_
  rintro v H6 ⟨rfl, rfl⟩
  refine hK _ _ ?_; clear hK K
  have pre6 : ∀ i, i < H.length → H6[i]? = H[i]? := fun i hi => by
    rw [pre5 i (by omega) (by omega), ← pre1 i hi]
    exact pre4 i _ (List.getElem?_eq_getElem (by omega)) |>.trans (List.getElem?_eq_getElem _).symm
  repeat (first | refine LW.seq_ops ?_ | refine lrun_end ?_ | (refine lrun_step (by decide) ?_; intro K hK; simp [lextract]; refine hK _ _ ?_; clear hK K) | (refine lrun_stepG rfl (by decide) (by decide) ?_; intro K hK; simp [lextract]; refine hK _ _ ?_; clear hK K) | (refine lrun_stepN ?_; intro K hK; simp [lextract]; refine hK _ _ ?_; clear hK K) | refine LW.seq ?_ | refine LW.block ?_ | refine LW.ops ?_ | refine LW.skip ?_ | refine LW.ret ?_ | refine LW.exit ?_ | refine LW.label ?_ | refine thn_n ?_ | refine thn_r ?_ | refine thn_e ?_ | refine inb_n ?_ | refine inb_r ?_ | refine inb_x ?_ | refine inb_e (by decide) ?_ | (refine LW.ct ?_ ?_; · simp [lextract]; done) | (refine LW.cf ?_ ?_; · simp [lextract]; done) | fail)
  refine lrun_step (by decide) ?_; intro K hK; simp
  refine callK.by (own_LC 60 0 (by decide) (by decide) _) ?_
  rintro v H7 ⟨⟨k, rfl, hk⟩, rfl⟩
  obtain rfl := hk.unique least_60_0
  refine hK _ _ ?_; clear hK K
  repeat (first | refine LW.seq_ops ?_ | refine lrun_end ?_ | (refine lrun_step (by decide) ?_; intro K hK; simp; refine hK _ _ ?_; clear hK K) | (refine lrun_stepG rfl (by decide) (by decide) ?_; intro K hK; simp; refine hK _ _ ?_; clear hK K) | (refine lrun_stepN ?_; intro K hK; simp; refine hK _ _ ?_; clear hK K) | refine LW.seq ?_ | refine LW.block ?_ | refine LW.ops ?_ | refine LW.skip ?_ | refine LW.ret ?_ | refine LW.exit ?_ | refine LW.label ?_ | refine thn_n ?_ | refine thn_r ?_ | refine thn_e ?_ | refine inb_n ?_ | refine inb_r ?_ | refine inb_x ?_ | refine inb_e (by decide) ?_ | (refine LW.ct ?_ ?_; · simp; done) | (refine LW.cf ?_ ?_; · simp; done) | fail)
  refine lrun_stepG rfl (by decide) (by decide) ?_; intro K hK; simp
  refine callK.by (own_LC 0 0 (by decide) (by decide) _) ?_
  rintro v H8 ⟨⟨k, rfl, hk⟩, rfl⟩
  obtain rfl := hk.unique least_0_0
  refine hK _ _ ?_; clear hK K
  repeat (first | refine LW.seq_ops ?_ | refine lrun_end ?_ | (refine lrun_step (by decide) ?_; intro K hK; simp; refine hK _ _ ?_; clear hK K) | (refine lrun_stepG rfl (by decide) (by decide) ?_; intro K hK; simp; refine hK _ _ ?_; clear hK K) | (refine lrun_stepN ?_; intro K hK; simp; refine hK _ _ ?_; clear hK K) | refine LW.seq ?_ | refine LW.block ?_ | refine LW.ops ?_ | refine LW.skip ?_ | refine LW.ret ?_ | refine LW.exit ?_ | refine LW.label ?_ | refine thn_n ?_ | refine thn_r ?_ | refine thn_e ?_ | refine inb_n ?_ | refine inb_r ?_ | refine inb_x ?_ | refine inb_e (by decide) ?_ | (refine LW.ct ?_ ?_; · simp; done) | (refine LW.cf ?_ ?_; · simp; done) | fail)
  refine lrun_stepG rfl (by decide) (by decide) ?_; intro K hK; simp
  refine callK.by (own_LC 0 60 (by decide) (by decide) _) ?_
  rintro v H9 ⟨⟨k, rfl, hk⟩, rfl⟩
  obtain rfl := hk.unique least_0_60
  refine hK _ _ ?_; clear hK K
  repeat (first | refine LW.seq_ops ?_ | refine lrun_end ?_ | (refine lrun_step (by decide) ?_; intro K hK; simp; refine hK _ _ ?_; clear hK K) | (refine lrun_stepG rfl (by decide) (by decide) ?_; intro K hK; simp; refine hK _ _ ?_; clear hK K) | (refine lrun_stepN ?_; intro K hK; simp; refine hK _ _ ?_; clear hK K) | refine LW.seq ?_ | refine LW.block ?_ | refine LW.ops ?_ | refine LW.skip ?_ | refine LW.ret ?_ | refine LW.exit ?_ | refine LW.label ?_ | refine thn_n ?_ | refine thn_r ?_ | refine thn_e ?_ | refine inb_n ?_ | refine inb_r ?_ | refine inb_x ?_ | refine inb_e (by decide) ?_ | (refine LW.ct ?_ ?_; · simp; done) | (refine LW.cf ?_ ?_; · simp; done) | fail)
  refine lrun_stepG rfl (by decide) (by decide) ?_; intro K hK; simp
  refine callK.by (need_LC 59 (by decide) _) ?_
  rintro v H10 ⟨rfl, rfl⟩
  refine hK _ _ ?_; clear hK K
  have n59 : need 59 = 1 := by decide
  have n60 : need 60 = 2 := by decide
  repeat (first | refine LW.seq_ops ?_ | refine lrun_end ?_ | (refine lrun_step (by decide) ?_; intro K hK; simp [n59]; refine hK _ _ ?_; clear hK K) | (refine lrun_stepG rfl (by decide) (by decide) ?_; intro K hK; simp [n59]; refine hK _ _ ?_; clear hK K) | (refine lrun_stepN ?_; intro K hK; simp [n59]; refine hK _ _ ?_; clear hK K) | refine LW.seq ?_ | refine LW.block ?_ | refine LW.ops ?_ | refine LW.skip ?_ | refine LW.ret ?_ | refine LW.exit ?_ | refine LW.label ?_ | refine thn_n ?_ | refine thn_r ?_ | refine thn_e ?_ | refine inb_n ?_ | refine inb_r ?_ | refine inb_x ?_ | refine inb_e (by decide) ?_ | (refine LW.ct ?_ ?_; · simp [n59]; done) | (refine LW.cf ?_ ?_; · simp [n59]; done) | fail)
  refine lrun_stepG rfl (by decide) (by decide) ?_; intro K hK; simp
  refine callK.by (need_LC 60 (by decide) _) ?_
  rintro v H11 ⟨rfl, rfl⟩
  refine hK _ _ ?_; clear hK K
  have s5 := slice27 H11
  have g5 : (H11 ++ [LB.c ([2, 7].map (V.i .i64)) 3 true])[H11.length]? = some (.c ([2, 7].map (V.i .i64)) 3 true) := own_get
  have hl5 : H.length ≤ H11.length := by omega
  have pre7 : ∀ i, i < H.length → ((H11 ++ [LB.c ([2, 7].map (V.i .i64)) 3 true]).set H11.length .dead)[i]? = H[i]? := fun i hi => by rw [List.getElem?_set_ne (by omega), List.getElem?_append_left (by omega)]; exact pre6 i hi
  have l7 : ((H11 ++ [LB.c ([2, 7].map (V.i .i64)) 3 true]).set H11.length .dead).length = H11.length + 1 := by simp
  repeat (first | refine LW.seq_ops ?_ | refine lrun_end ?_ | (refine lrun_step (by decide) ?_; intro K hK; simp [n60, s5]; refine hK _ _ ?_; clear hK K) | (refine lrun_stepG rfl (by decide) (by decide) ?_; intro K hK; simp [n60, s5]; refine hK _ _ ?_; clear hK K) | (refine lrun_stepN ?_; intro K hK; simp [n60, s5]; refine hK _ _ ?_; clear hK K) | refine LW.seq ?_ | refine LW.block ?_ | refine LW.ops ?_ | refine LW.skip ?_ | refine LW.ret ?_ | refine LW.exit ?_ | refine LW.label ?_ | refine thn_n ?_ | refine thn_r ?_ | refine thn_e ?_ | refine inb_n ?_ | refine inb_r ?_ | refine inb_x ?_ | refine inb_e (by decide) ?_ | (refine LW.ct ?_ ?_; · simp [n60, s5]; done) | (refine LW.cf ?_ ?_; · simp [n60, s5]; done) | fail)
  refine lrun_stepG rfl (by decide) (by decide) ?_; intro K hK; simp
  refine callK.by (LC.retell (args' := [isl [2, 7], isl [2, 7]]) (ints_LC [2, 7] [2, 7] (by decide) _) (retell_dead H11.length) rfl fun q x y h1 h2 => ?_) ?_
  · match q with
    | 0 => simp at h1 h2; subst h1 h2; exact .same _
    | 1 => simp at h1 h2; subst h1 h2; exact purS_own g5 rfl
    | q + 2 => simp at h1
  rintro v H12 ⟨rfl, hH12⟩
  simp only [List.map_cons, List.map_nil] at pre7 l7
  rw [← hH12] at pre7 l7
  refine hK _ _ ?_; clear hK K
  have s6 := slice1 H12 4
  have g6 : (H12 ++ [LB.c ([4].map (V.i .i64)) 3 true])[H12.length]? = some (.c ([4].map (V.i .i64)) 3 true) := own_get
  have pre8 : ∀ i, i < H.length → ((H12 ++ [LB.c ([4].map (V.i .i64)) 3 true]).set H12.length .dead)[i]? = H[i]? := fun i hi => by rw [List.getElem?_set_ne (by omega), List.getElem?_append_left (by omega)]; exact pre7 i hi
  repeat (first | refine LW.seq_ops ?_ | refine lrun_end ?_ | (refine lrun_step (by decide) ?_; intro K hK; simp [s6]; refine hK _ _ ?_; clear hK K) | (refine lrun_stepG rfl (by decide) (by decide) ?_; intro K hK; simp [s6]; refine hK _ _ ?_; clear hK K) | (refine lrun_stepN ?_; intro K hK; simp [s6]; refine hK _ _ ?_; clear hK K) | refine LW.seq ?_ | refine LW.block ?_ | refine LW.ops ?_ | refine LW.skip ?_ | refine LW.ret ?_ | refine LW.exit ?_ | refine LW.label ?_ | refine thn_n ?_ | refine thn_r ?_ | refine thn_e ?_ | refine inb_n ?_ | refine inb_r ?_ | refine inb_x ?_ | refine inb_e (by decide) ?_ | (refine LW.ct ?_ ?_; · simp [s6]; done) | (refine LW.cf ?_ ?_; · simp [s6]; done) | fail)
  refine lrun_stepG rfl (by decide) (by decide) ?_; intro K hK; simp
  refine callK.by (LC.retell (args' := [isl [4], isl [4]]) (ints_LC [4] [4] (by decide) _) (retell_dead H12.length) rfl fun q x y h1 h2 => ?_) ?_
  · match q with
    | 0 => simp at h1 h2; subst h1 h2; exact .same _
    | 1 => simp at h1 h2; subst h1 h2; exact purS_own g6 rfl
    | q + 2 => simp at h1
  rintro v H13 ⟨rfl, hH13⟩
  simp only [List.map_cons, List.map_nil] at pre8
  rw [← hH13] at pre8
  refine hK _ _ ?_; clear hK K
  repeat (first | refine LW.seq_ops ?_ | refine lrun_end ?_ | (refine lrun_step (by decide) ?_; intro K hK; simp; refine hK _ _ ?_; clear hK K) | (refine lrun_stepG rfl (by decide) (by decide) ?_; intro K hK; simp; refine hK _ _ ?_; clear hK K) | (refine lrun_stepN ?_; intro K hK; simp; refine hK _ _ ?_; clear hK K) | refine LW.seq ?_ | refine LW.block ?_ | refine LW.ops ?_ | refine LW.skip ?_ | refine LW.ret ?_ | refine LW.exit ?_ | refine LW.label ?_ | refine thn_n ?_ | refine thn_r ?_ | refine thn_e ?_ | refine inb_n ?_ | refine inb_r ?_ | refine inb_x ?_ | refine inb_e (by decide) ?_ | (refine LW.ct ?_ ?_; · simp; done) | (refine LW.cf ?_ ?_; · simp; done) | fail)
  have hJ : H13 = H ++ H13.drop H.length := by conv => lhs; rw [← List.take_append_drop H.length H13, take_of_get pre8]
  refine hZ _ _ ⟨.inr rfl, .b true, by simp [lres, lres1, Tryd.f4], ?_⟩
  dsimp only
  rw [hJ]
  exact leave_drop (.b _) ⟨rfl, rfl⟩
end Go.Lw
