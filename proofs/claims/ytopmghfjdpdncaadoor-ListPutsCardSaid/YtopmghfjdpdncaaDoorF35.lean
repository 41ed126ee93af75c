/- disk.Read of the one page that lies on a disk -/
import Derived.Test.YtopmghfjdpdncaaDoorF13
import Derived.Test.YtopmghfjdpdncaaDoorF31
set_option linter.unusedSimpArgs false
set_option linter.unusedVariables false
namespace Go.Lw
open Go Go.Proofs Go.RowKit
variable {G : List (Nat × List V)}

theorem zero65 : ∃ (zv : Value) (zs : List V), tzero Tryd.prog 65 = some zv ∧ ofV zv = .a zs ∧ zs.length = 128 ∧ zs.all V.one = true := ⟨_, _, ze65, rfl, by kernel_rfl, by kernel_rfl⟩
theorem zero67 : ∃ (zv : Value) (zs : List V), tzero Tryd.prog 67 = some zv ∧ ofV zv = .a zs ∧ zs.length = 129 ∧ zs.all V.one = true := ⟨_, _, ze67, rfl, by kernel_rfl, by kernel_rfl⟩

theorem put_all {cs xs : List V} (h : xs.length = cs.length) : put cs 0 xs = xs := by
  unfold put
  rw [List.take_zero, List.drop_of_length_le (by omega)]
  simp

theorem lstore_a {P : Program} {H : List LB} {ty e : TypeId} {r z : Nat} {cs xs : List V} (hr : H[r]? = some (.c cs e true)) (hz : tsz P ty = some z) (hc : cs.length = z) (hx : xs.length = z) (h1 : xs.all V.one = true) : lstore P H ty (.p r 0) (.a xs) = some (H.set r (.c xs e true)) := by
  unfold lstore
  dsimp only
  rw [hr]
  dsimp only
  rw [hz]
  dsimp only
  rw [if_pos ⟨rfl, hx, by omega, h1⟩]
  show some (H.set r (.c (put cs 0 xs) e true)) = _
  rw [put_all (by omega)]

theorem lload_a {P : Program} {H : List LB} {ty e : TypeId} {r o z : Nat} {cs : List V} {mu : Bool} (hr : H[r]? = some (.c cs e mu)) (ha : tagg P ty = some true) (hz : tsz P ty = some z) (hc : o + z ≤ cs.length) : lload P H ty (.p r o) = some (.a ((cs.drop o).take z)) := by
  unfold lload
  dsimp only
  rw [hr]
  dsimp only
  unfold rdv
  rw [ha]
  dsimp only
  rw [hz]
  dsimp only
  rw [if_pos hc]

theorem allocK_a {P : Program} {H : List LB} {t : TypeId} {zv : Value} {zs : List V} {K : V → List LB → Prop} (h1 : tzero P t = some zv) (h2 : ofV zv = .a zs) (hk : K (.p H.length 0) (H ++ [.c zs t true])) : allocK P H t K := by
  unfold allocK
  rw [h1]
  dsimp only
  rw [h2, lnew_a]
  exact hk
attribute [local irreducible] LW callK LC lany lrun ldo oK oK2 oKH gK yieldK LY

theorem read_LC {H : List LB} {d m r q s a : Nat} {B : List UInt8} (hD : DiskAt H d m r q (.own s 0 1 1 129)) (hs : H[s]? = some (.c (.i .i64 a :: bcs B) 67 true)) (hB : B.length = 128) (ha : a < 9) :
    LC Tryd.prog G 35 [.p d 0, .i .i64 0, .i .i64 a] H fun v H' => v = .t [bsl B, .i .i64 0] ∧ H' = H := by
  refine LC.of_walk Tryd.f35 48 (by kernel_rfl) (by kernel_rfl) rfl rfl fun Z hZ => ?_
  repeat (first | refine LW.seq_ops ?_ | refine lrun_end ?_ | (refine lrun_step (by decide) ?_; intro K hK; simp; refine hK _ _ ?_; clear hK K) | (refine lrun_stepG rfl (by decide) (by decide) ?_; intro K hK; simp; refine hK _ _ ?_; clear hK K) | (refine lrun_stepN ?_; intro K hK; simp; refine hK _ _ ?_; clear hK K) | refine LW.seq ?_ | refine LW.block ?_ | refine LW.ops ?_ | refine LW.skip ?_ | refine LW.ret ?_ | refine LW.exit ?_ | refine LW.label ?_ | refine thn_n ?_ | refine thn_r ?_ | refine thn_e ?_ | refine inb_n ?_ | refine inb_r ?_ | refine inb_x ?_ | refine inb_e (by decide) ?_ | (refine LW.ct ?_ ?_; · simp; done) | (refine LW.cf ?_ ?_; · simp; done) | fail)
  refine lrun_step (by decide) ?_; intro K hK; simp
  refine callK.by (paged_LC hD a ha) ?_
  rintro v H' ⟨rfl, rfl⟩
  refine hK _ _ ?_; clear hK K
  obtain ⟨z5, zs5, a1, a2, a3, a4⟩ := zero65
  obtain ⟨z7, zs7, b1, b2, b3, b4⟩ := zero67
  have e1 := lload_p (P := Tryd.prog) (ty := 57) (o := 1) hD.hr (by kernel_rfl) rfl
  have e2 : llookup Tryd.prog H' 57 (.m m) (.i .i64 a) false = some (.a zs5) := by
    unfold llookup
    rw [ty57]
    dsimp only
    rw [ty3, a1]
    dsimp only
    rw [hD.hm]
    simp [keysOk, mget, a2]
  repeat (first | refine LW.seq_ops ?_ | refine lrun_end ?_ | (refine lrun_step (by decide) ?_; intro K hK; simp [lextract, e1, e2]; refine hK _ _ ?_; clear hK K) | (refine lrun_stepG rfl (by decide) (by decide) ?_; intro K hK; simp [lextract, e1, e2]; refine hK _ _ ?_; clear hK K) | (refine lrun_stepN ?_; intro K hK; simp [lextract, e1, e2]; refine hK _ _ ?_; clear hK K) | refine LW.seq ?_ | refine LW.block ?_ | refine LW.ops ?_ | refine LW.skip ?_ | refine LW.ret ?_ | refine LW.exit ?_ | refine LW.label ?_ | refine thn_n ?_ | refine thn_r ?_ | refine thn_e ?_ | refine inb_n ?_ | refine inb_r ?_ | refine inb_x ?_ | refine inb_e (by decide) ?_ | (refine LW.ct ?_ ?_; · simp [lextract, e1, e2]; done) | (refine LW.cf ?_ ?_; · simp [lextract, e1, e2]; done) | fail)
  refine lrun_step (by decide) ?_; intro K hK; simp
  refine allocK_a a1 a2 ?_
  refine hK _ _ ?_; clear hK K
  have w1 : IntKind.i64.wrap 1 = 1 := rfl
  have hbl : (bcs B).length = 128 := by simp [bcs, hB]
  have lt : ∀ {i : Nat} {b : LB}, H'[i]? = some b → i < H'.length := fun h => (List.getElem?_eq_some_iff.1 h).1
  have st1 := lstore_a (P := Tryd.prog) (ty := 65) (xs := zs5) (own_get (H := H') (b := .c zs5 65 true)) sz65 a3 a3 a4
  rw [own_set] at st1
  generalize hH1 : H' ++ [LB.c zs5 65 true] = H1 at *
  have l1 : H1.length = H'.length + 1 := by rw [← hH1]; simp
  have up1 : ∀ {i : Nat} {b : LB}, H'[i]? = some b → H1[i]? = some b := fun {i b} h => by rw [← hH1, List.getElem?_append_left (lt h)]; exact h
  have g1 : H1[H'.length]? = some (.c zs5 65 true) := by rw [← hH1]; exact own_get
  have e3 := lload_p (P := Tryd.prog) (ty := 58) (o := 2) (up1 hD.hr) (by kernel_rfl) rfl
  have e4 : liaddr Tryd.prog 58 (.own s 0 1 1 129) (.i .i64 0) = some (.p s 0) := liaddr_own (i := 0) ty58 sz67 (by omega)
  have e5 := lload_a (P := Tryd.prog) (ty := 67) (o := 0) (up1 hs) (by kernel_rfl) sz67 (by simp [hbl])
  rw [List.drop_zero, List.take_of_length_le (by simp [hbl])] at e5
  repeat (first | refine LW.seq_ops ?_ | refine lrun_end ?_ | (refine lrun_step (by decide) ?_; intro K hK; simp [st1, e3, llen_own ty58]; refine hK _ _ ?_; clear hK K) | (refine lrun_stepG rfl (by decide) (by decide) ?_; intro K hK; simp [st1, e3, llen_own ty58]; refine hK _ _ ?_; clear hK K) | (refine lrun_stepN ?_; intro K hK; simp [st1, e3, llen_own ty58]; refine hK _ _ ?_; clear hK K) | refine LW.seq ?_ | refine LW.block ?_ | refine LW.ops ?_ | refine LW.skip ?_ | refine LW.ret ?_ | refine LW.exit ?_ | refine LW.label ?_ | refine thn_n ?_ | refine thn_r ?_ | refine thn_e ?_ | refine inb_n ?_ | refine inb_r ?_ | refine inb_x ?_ | refine inb_e (by decide) ?_ | (refine LW.ct ?_ ?_; · simp [st1, e3, llen_own ty58]; done) | (refine LW.cf ?_ ?_; · simp [st1, e3, llen_own ty58]; done) | fail)
  refine LW.unroll 2 (LW.un ?_)
  repeat (first | refine LW.seq_ops ?_ | refine lrun_end ?_ | (refine lrun_step (by decide) ?_; intro K hK; simp [e4, e5]; refine hK _ _ ?_; clear hK K) | (refine lrun_stepG rfl (by decide) (by decide) ?_; intro K hK; simp [e4, e5]; refine hK _ _ ?_; clear hK K) | (refine lrun_stepN ?_; intro K hK; simp [e4, e5]; refine hK _ _ ?_; clear hK K) | refine LW.seq ?_ | refine LW.block ?_ | refine LW.ops ?_ | refine LW.skip ?_ | refine LW.ret ?_ | refine LW.exit ?_ | refine LW.label ?_ | refine thn_n ?_ | refine thn_r ?_ | refine thn_e ?_ | refine inb_n ?_ | refine inb_r ?_ | refine inb_x ?_ | refine inb_e (by decide) ?_ | (refine LW.ct ?_ ?_; · simp [e4, e5]; done) | (refine LW.cf ?_ ?_; · simp [e4, e5]; done) | fail)
  refine lrun_step (by decide) ?_; intro K hK; simp
  refine allocK_a b1 b2 ?_
  refine hK _ _ ?_; clear hK K
  have st2 := lstore_a (P := Tryd.prog) (ty := 67) (xs := .i .i64 a :: bcs B) (own_get (H := H1) (b := .c zs7 67 true)) sz67 b3 (by simp [hbl]) (by rw [List.all_cons, one_bcs]; rfl)
  rw [own_set] at st2
  have e6 := lload_p (P := Tryd.prog) (ty := 3) (o := 0) (own_get (H := H1) (b := .c (.i .i64 a :: bcs B) 67 true)) ag3 rfl
  have e7 := lload_a (P := Tryd.prog) (ty := 65) (o := 1) (own_get (H := H1) (b := .c (.i .i64 a :: bcs B) 67 true)) ag65 sz65 (by simp [hbl])
  rw [show (V.i IntKind.i64 (a : Int) :: bcs B).drop 1 = bcs B from rfl, List.take_of_length_le (by omega)] at e7
  have g3 : (H1 ++ [LB.c (.i .i64 a :: bcs B) 67 true])[H'.length]? = some (.c zs5 65 true) := by rw [List.getElem?_append_left (by omega)]; exact g1
  have st3 := lstore_a (P := Tryd.prog) (ty := 65) (xs := bcs B) g3 sz65 a3 hbl (one_bcs B)
  generalize hH3 : H1 ++ [LB.c (.i .i64 a :: bcs B) 67 true] = H3 at *
  have l3 : H3.length = H'.length + 2 := by rw [← hH3]; simp [l1]
  generalize hH4 : H3.set H'.length (.c (bcs B) 65 true) = H4 at *
  have l4 : H4.length = H'.length + 2 := by rw [← hH4]; simp [l3]
  have g4 : (H4 ++ [LB.c [] 5 true])[H'.length]? = some (.c (bcs B) 65 true) := by rw [List.getElem?_append_left (by omega), ← hH4, List.getElem?_set_self (by omega)]
  have hbs : lbslice Tryd.prog H4 32 0 [] = some (.own H4.length 0 0 0 0, H4 ++ [.c [] 5 true]) := by
    simp [lbslice, Value.cells, lfill, rep]
  have e8 : lslice Tryd.prog 65 (.p H'.length 0) none none none = some (.own H'.length 0 128 128 0) := by simp [lslice, lbnds, nb]
  repeat (first | refine LW.seq_ops ?_ | refine lrun_end ?_ | (refine lrun_step (by decide) ?_; intro K hK; simp [st2, e6, e7, st3, w1, hbs, e8]; refine hK _ _ ?_; clear hK K) | (refine lrun_stepG rfl (by decide) (by decide) ?_; intro K hK; simp [st2, e6, e7, st3, w1, hbs, e8]; refine hK _ _ ?_; clear hK K) | (refine lrun_stepN ?_; intro K hK; simp [st2, e6, e7, st3, w1, hbs, e8]; refine hK _ _ ?_; clear hK K) | refine LW.seq ?_ | refine LW.block ?_ | refine LW.ops ?_ | refine LW.skip ?_ | refine LW.ret ?_ | refine LW.exit ?_ | refine LW.label ?_ | refine thn_n ?_ | refine thn_r ?_ | refine thn_e ?_ | refine inb_n ?_ | refine inb_r ?_ | refine inb_x ?_ | refine inb_e (by decide) ?_ | (refine LW.ct ?_ ?_; · simp [st2, e6, e7, st3, w1, hbs, e8]; done) | (refine LW.cf ?_ ?_; · simp [st2, e6, e7, st3, w1, hbs, e8]; done) | fail)
  refine lrun_step (by decide) ?_; intro K hK; simp
  refine append_lit (P := Tryd.prog) (H := H4) (ats := #[32, 32]) (e := 5) (zv := .int .u8 0) (by_ := 1) (x := .own H'.length 0 128 128 0) (cs := []) (news := bcs B) (m := 128) rfl rfl ty32 ty32 rfl nf5 rfl (lsrc_own1 g4 hbl (by omega)) hbl (one_bcs B) (by simp [hB]) (by simp [hB]) ?_
  rintro v' H5 r' c' x' rfl hr' hrl htk hl5
  refine hK _ _ ?_; clear hK K
  repeat (first | refine LW.seq_ops ?_ | refine lrun_end ?_ | (refine lrun_step (by decide) ?_; intro K hK; simp; refine hK _ _ ?_; clear hK K) | (refine lrun_stepG rfl (by decide) (by decide) ?_; intro K hK; simp; refine hK _ _ ?_; clear hK K) | (refine lrun_stepN ?_; intro K hK; simp; refine hK _ _ ?_; clear hK K) | refine LW.seq ?_ | refine LW.block ?_ | refine LW.ops ?_ | refine LW.skip ?_ | refine LW.ret ?_ | refine LW.exit ?_ | refine LW.label ?_ | refine thn_n ?_ | refine thn_r ?_ | refine thn_e ?_ | refine inb_n ?_ | refine inb_r ?_ | refine inb_x ?_ | refine inb_e (by decide) ?_ | (refine LW.ct ?_ ?_; · simp; done) | (refine LW.cf ?_ ?_; · simp; done) | fail)
  have htk4 : H4.take H'.length = H' := by
    rw [← hH4, List.take_set_of_le (Nat.le_refl _), ← hH3, List.take_append_of_le_length (by omega), ← hH1, List.take_append_of_le_length (Nat.le_refl _), List.take_length]
  have htk5 : H5.take H'.length = H' := by
    conv => rhs; rw [← htk4, ← htk]
    rw [List.take_take, Nat.min_eq_left (by omega)]
  have hJ : H5 = H' ++ H5.drop H'.length := by conv => lhs; rw [← List.take_append_drop H'.length H5, htk5]
  rw [List.nil_append] at hr'
  refine hZ _ _ ⟨.inr rfl, .t [.own r' 0 ([] ++ bcs B).length c' x', .i .i64 0], by simp [lres, lres1, Tryd.f35], ?_⟩
  dsimp only
  rw [hJ] at hr' ⊢
  refine leave_pur (v' := .t [bsl B, .i .i64 0]) (.t rfl fun q x y h1 h2 => ?_) ⟨rfl, rfl⟩
  match q with
  | 0 =>
    simp at h1 h2
    subst h1 h2
    exact pur_bytes (l := B) hr' (by omega) (by simp)
  | 1 => simp at h1 h2; subst h1 h2; exact .lt (.i _ _)
  | q + 2 => simp at h1
end Go.Lw
