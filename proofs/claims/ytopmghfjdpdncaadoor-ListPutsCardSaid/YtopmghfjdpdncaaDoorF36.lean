/- cells.Unpack of a page of one cell -/
import Derived.Test.YtopmghfjdpdncaaDoorF43
import Derived.Test.YtopmghfjdpdncaaDoorF5
set_option linter.unusedSimpArgs false
set_option linter.unusedVariables false
namespace Go.Lw
open Go Go.Proofs Go.RowKit
variable {G : List (Nat × List V)}

theorem lslice_bsl3 {P : Program} {t e : TypeId} {k : IntKind} {l : List UInt8} (hu : P.underlying t = some (.slice e)) (hz : tsz P e = some 1) {a b m : Nat} (hab : a ≤ b) (hbm : b ≤ m) (hm : m ≤ l.length) :
    lslice P t (bsl l) (some (.i k (a : Int))) (some (.i k (b : Int))) (some (.i k (m : Int))) = some (bsl ((l.take b).drop a)) := by
  have h1 : (a : Int) ≤ (b : Int) := by omega
  have h2 : (b : Int) ≤ (m : Int) := by omega
  have h3 : (m : Int) ≤ (l.length : Int) := by omega
  simp [lslice, bsl, bcs, hu, hz, lbnds, nb, h1, h2, h3, List.map_drop, List.map_take]

theorem LW.retell1 {P : Program} {rd : Option Nat} {n : Nat} {c : Code} {t : Nat → V} {H H' : List LB} {Q : Exit → St → Prop} (j0 : Nat) {v : V} (hr : Retell H H') (hv : PurS H H' (t j0) v) (h : LW P G rd n c ⟨upd t j0 v, H'⟩ Q) : LW P G rd n c ⟨t, H⟩ Q :=
  h.retell hr fun j => by
    rw [upd_apply]
    split
    · rename_i hj
      subst hj
      exact hv
    · exact .same _

/-- What a page of one cell is made of. -/
theorem page_one (kind : UInt8) (cell : List UInt8) (hc : cell.length ≤ 120) : ∃ (A R : List UInt8) (slot : UInt8), pageOf kind [cell] = A ++ ([kind, 1, slot] ++ R ++ cell) ∧ A = numB (crcOf (bodyOf kind [cell])) 4 ∧ bodyOf kind [cell] = [kind, 1, slot] ++ R ++ cell ∧
    slot.toNat = 128 - cell.length ∧ R.length = 121 - cell.length ∧ A.length = 4 := by
  refine ⟨_, List.replicate (122 - 1 - cell.length) 0, UInt8.ofNat (128 - cell.length), ?_, rfl, ?_, ?_, by simp, numB_length _ _⟩
  · simp [pageOf, bodyOf, slotsOf, backOf, List.range_succ]
  · simp [bodyOf, slotsOf, backOf, List.range_succ]
  · rw [UInt8.toNat_ofNat']
    omega
attribute [local irreducible] LW callK LC lany lrun ldo oK oK2 oKH gK yieldK LY

set_option maxHeartbeats 1000000 in
theorem unpack_LC (hG : G.lookup 0 = some halfV) (hG0 : ∀ g cs, (g, cs) ∈ G → V.Lt 0 (.ep cs 0)) (kind : UInt8) (hk : kind ≠ 0) (cell : List UInt8) (hc : cell.length ≤ 120) (h0 : cell ≠ []) (H : List LB) :
    LC Tryd.prog G 36 [bsl (pageOf kind [cell])] H fun v H' => v = .t [.i .u8 (kind.toNat : Int), bbl [cell], .i .i64 0] ∧ H' = H := by
  refine LC.of_walk Tryd.f36 78 (by kernel_rfl) (by kernel_rfl) rfl rfl fun Z hZ => ?_
  obtain ⟨A, R, slot, hp, hA, hbody, hslot, hR, hAl⟩ := page_one kind cell hc
  have hsz : sizeOf2 [cell] ≤ 122 := by simp [sizeOf2]; omega
  have hpk := pack_LC hG hG0 kind hk [cell] hsz
  have hpos : 0 < cell.length := List.length_pos_iff.2 h0
  have hpl : (pageOf kind [cell]).length = 128 := by rw [hp]; simp; omega
  have hcrc : valB A = crcOf (bodyOf kind [cell]) := by
    rw [hA, valB_numB]
    exact Nat.mod_eq_of_lt (crcOf_lt _)
  have hcl := crcOf_lt (bodyOf kind [cell])
  have hbl : (bodyOf kind [cell]).length = 124 := by rw [hbody]; simp; omega
  rw [hbody] at hcrc hcl hbl
  have ht4 : (pageOf kind [cell]).take 4 = A := by rw [hp, List.take_append_of_le_length (by omega), List.take_of_length_le (by omega)]
  have hd4 : (pageOf kind [cell]).drop 4 = [kind, 1, slot] ++ R ++ cell := by rw [hp, List.drop_append_of_le_length (by omega), List.drop_of_length_le (by omega), List.nil_append]
  have g4 : (pageOf kind [cell])[4]? = some kind := by
    have := congrArg (fun z => z[0]?) hd4
    simpa using this
  have g5 : (pageOf kind [cell])[5]? = some 1 := by
    have := congrArg (fun z => z[1]?) hd4
    simpa using this
  have hs7 : ((pageOf kind [cell]).take 7).drop 6 = [slot] := by
    rw [List.drop_take, show (6 : Nat) = 4 + 2 from rfl, ← List.drop_drop, hd4]
    rfl
  have hs8 : ((pageOf kind [cell]).take 128).drop (128 - cell.length) = cell := by
    rw [List.take_of_length_le (by omega), hp, ← List.append_assoc, ← List.append_assoc, List.drop_append_of_le_length (by simp; omega), List.drop_of_length_le (by simp; omega), List.nil_append]
  have e1 : llen Tryd.prog H 32 (bsl (pageOf kind [cell])) = some (.i .i64 128) := by rw [llen_bsl ty32, hpl]; rfl
  have e2 := (lslice_bsl (P := Tryd.prog) (t := 32) (e := 5) (k := .i64) (l := pageOf kind [cell]) ty32 sz5 (b := 4) (by omega)).2
  rw [hd4] at e2
  have e3 := liaddr_bsl (P := Tryd.prog) (k := .i64) (l := pageOf kind [cell]) (i := 4) (t := 32) (e := 5) ty32 sz5 (by omega)
  rw [(List.getElem?_eq_some_iff.1 g4).2] at e3
  have e4 := liaddr_bsl (P := Tryd.prog) (k := .i64) (l := pageOf kind [cell]) (i := 5) (t := 32) (e := 5) ty32 sz5 (by omega)
  rw [(List.getElem?_eq_some_iff.1 g5).2] at e4
  have e5 := lslice_bsl3 (P := Tryd.prog) (t := 32) (e := 5) (k := .i64) (l := pageOf kind [cell]) ty32 sz5 (a := 6) (b := 7) (m := 128) (by omega) (by omega) (by omega)
  rw [hs7] at e5
  have e6 := lslice_bsl3 (P := Tryd.prog) (t := 32) (e := 5) (k := .i64) (l := pageOf kind [cell]) ty32 sz5 (a := 128 - cell.length) (b := 128) (m := 128) (by omega) (by omega) (by omega)
  rw [hs8] at e6
  simp only [show ((4 : Nat) : Int) = 4 from rfl, show ((5 : Nat) : Int) = 5 from rfl, show ((6 : Nat) : Int) = 6 from rfl, show ((7 : Nat) : Int) = 7 from rfl, show ((128 : Nat) : Int) = 128 from rfl] at e2 e3 e4 e5 e6
  have hne : pageOf kind [cell] ≠ [] := fun e => by rw [e] at hpl; simp at hpl
  generalize hbd : [kind, 1, slot] ++ R ++ cell = body at *
  generalize hpg : pageOf kind [cell] = page at *
  repeat (first | refine LW.seq_ops ?_ | refine lrun_end ?_ | (refine lrun_step (by decide) ?_; intro K hK; simp [e1]; refine hK _ _ ?_; clear hK K) | (refine lrun_stepG rfl (by decide) (by decide) ?_; intro K hK; simp [e1]; refine hK _ _ ?_; clear hK K) | (refine lrun_stepN ?_; intro K hK; simp [e1]; refine hK _ _ ?_; clear hK K) | refine LW.seq ?_ | refine LW.block ?_ | refine LW.ops ?_ | refine LW.skip ?_ | refine LW.ret ?_ | refine LW.exit ?_ | refine LW.label ?_ | refine thn_n ?_ | refine thn_r ?_ | refine thn_e ?_ | refine inb_n ?_ | refine inb_r ?_ | refine inb_x ?_ | refine inb_e (by decide) ?_ | (refine LW.ct ?_ ?_; · simp [e1]; done) | (refine LW.cf ?_ ?_; · simp [e1]; done) | fail)
  first | refine LW.seq_draw (by kernel_rfl) ?_ | refine LW.draw (by kernel_rfl) ?_
  refine lany_qK 0 rfl (by kernel_rfl) rfl rfl (by decide) ?_; intro K hK; simp [e2]; refine hK _ ?_; clear hK K
  refine lany_qK 3 rfl (by kernel_rfl) rfl rfl (by decide) ?_; intro K hK; simp [e2]; refine hK _ ?_; clear hK K
  refine lany_qK 4 rfl (by kernel_rfl) rfl rfl (by decide) ?_; intro K hK; simp [e2]; refine hK _ ?_; clear hK K
  refine lany_oK 1 (by kernel_rfl) rfl rfl rfl (by decide) ?_; intro K hK; simp
  refine callK.by (take_LC page hne (by omega) _) ?_
  rintro v H1 ⟨rfl, hH1⟩
  refine hK _ _ ?_; clear hK K
  have hr1 : H1[H.length]? = some (.c [bsl page, .i .i64 0] 96 true) := by rw [hH1]; exact own_get
  refine lany_oK 2 (by kernel_rfl) rfl rfl rfl (by decide) ?_; intro K hK; simp
  refine callK.by (tnum_LC hr1 4 (by omega) (by omega) (by omega) (by omega)) ?_
  rintro v H2 ⟨rfl, hH2⟩
  refine hK _ _ ?_; clear hK K
  rw [hH1, own_set] at hH2
  refine lany_oK 5 (by kernel_rfl) rfl rfl rfl (by decide) ?_; intro K hK; simp
  refine callK.by (crcOf_LC hG body (by omega) _) ?_
  rintro v H3 ⟨rfl, rfl⟩
  refine hK _ _ ?_; clear hK K
  rw [ht4, hcrc]
  generalize crcOf body = c at *
  have w64 : IntKind.u64.wrap (c : Int) = (c : Int) := wrap_u64 (by omega) (by omega)
  refine lany_qK 6 rfl (by kernel_rfl) rfl rfl (by decide) ?_; intro K hK; simp [scal, q_int ty23 ty46, w64]; refine hK _ ?_; clear hK K
  refine lany_qK 7 rfl (by kernel_rfl) rfl rfl (by decide) ?_; intro K hK; simp [scal, q_int ty23 ty46, w64]; refine hK _ ?_; clear hK K
  refine lany_qK 8 rfl (by kernel_rfl) rfl rfl (by decide) ?_; intro K hK; simp [scal, q_int ty23 ty46, w64]; refine hK _ ?_; clear hK K
  refine lany_done (by kernel_rfl) ?_ _
  repeat (first | refine LW.seq_ops ?_ | refine lrun_end ?_ | (refine lrun_step (by decide) ?_; intro K hK; simp; refine hK _ _ ?_; clear hK K) | (refine lrun_stepG rfl (by decide) (by decide) ?_; intro K hK; simp; refine hK _ _ ?_; clear hK K) | (refine lrun_stepN ?_; intro K hK; simp; refine hK _ _ ?_; clear hK K) | refine LW.seq ?_ | refine LW.block ?_ | refine LW.ops ?_ | refine LW.skip ?_ | refine LW.ret ?_ | refine LW.exit ?_ | refine LW.label ?_ | refine thn_n ?_ | refine thn_r ?_ | refine thn_e ?_ | refine inb_n ?_ | refine inb_r ?_ | refine inb_x ?_ | refine inb_e (by decide) ?_ | (refine LW.ct ?_ ?_; · simp; done) | (refine LW.cf ?_ ?_; · simp; done) | fail)
  first | refine LW.seq_draw (by kernel_rfl) ?_ | refine LW.draw (by kernel_rfl) ?_
  refine lany_qK 0 rfl (by kernel_rfl) rfl rfl (by decide) ?_; intro K hK; simp [e3, e4, rdv, scal, q_int ty5 ty3]; refine hK _ ?_; clear hK K
  refine lany_qK 1 rfl (by kernel_rfl) rfl rfl (by decide) ?_; intro K hK; simp [e3, e4, rdv, scal, q_int ty5 ty3]; refine hK _ ?_; clear hK K
  refine lany_qK 2 rfl (by kernel_rfl) rfl rfl (by decide) ?_; intro K hK; simp [e3, e4, rdv, scal, q_int ty5 ty3]; refine hK _ ?_; clear hK K
  refine lany_qK 3 rfl (by kernel_rfl) rfl rfl (by decide) ?_; intro K hK; simp [e3, e4, rdv, scal, q_int ty5 ty3]; refine hK _ ?_; clear hK K
  refine lany_qK 4 rfl (by kernel_rfl) rfl rfl (by decide) ?_; intro K hK; simp [e3, e4, rdv, scal, q_int ty5 ty3]; refine hK _ ?_; clear hK K
  refine lany_qK 5 rfl (by kernel_rfl) rfl rfl (by decide) ?_; intro K hK; simp [e3, e4, rdv, scal, q_int ty5 ty3]; refine hK _ ?_; clear hK K
  refine lany_qK 6 rfl (by kernel_rfl) rfl rfl (by decide) ?_; intro K hK; simp [e3, e4, rdv, scal, q_int ty5 ty3]; refine hK _ ?_; clear hK K
  refine lany_qK 7 rfl (by kernel_rfl) rfl rfl (by decide) ?_; intro K hK; simp [e3, e4, rdv, scal, q_int ty5 ty3]; refine hK _ ?_; clear hK K
  refine lany_qK 8 rfl (by kernel_rfl) rfl rfl (by decide) ?_; intro K hK; simp [e3, e4, rdv, scal, q_int ty5 ty3]; refine hK _ ?_; clear hK K
  refine lany_done (by kernel_rfl) ?_ _
  have w7 : IntKind.i64.wrap 7 = 7 := rfl
  have w1 : IntKind.i64.wrap 1 = 1 := rfl
  repeat (first | refine LW.seq_ops ?_ | refine lrun_end ?_ | (refine lrun_step (by decide) ?_; intro K hK; simp [e5, w7, w1, llen_bsl ty32]; refine hK _ _ ?_; clear hK K) | (refine lrun_stepG rfl (by decide) (by decide) ?_; intro K hK; simp [e5, w7, w1, llen_bsl ty32]; refine hK _ _ ?_; clear hK K) | (refine lrun_stepN ?_; intro K hK; simp [e5, w7, w1, llen_bsl ty32]; refine hK _ _ ?_; clear hK K) | refine LW.seq ?_ | refine LW.block ?_ | refine LW.ops ?_ | refine LW.skip ?_ | refine LW.ret ?_ | refine LW.exit ?_ | refine LW.label ?_ | refine thn_n ?_ | refine thn_r ?_ | refine thn_e ?_ | refine inb_n ?_ | refine inb_r ?_ | refine inb_x ?_ | refine inb_e (by decide) ?_ | (refine LW.ct ?_ ?_; · simp [e5, w7, w1, llen_bsl ty32]; done) | (refine LW.cf ?_ ?_; · simp [e5, w7, w1, llen_bsl ty32]; done) | fail)
  refine LW.toK fun Z2 hZ2 => ?_
  refine LW.unroll 2 (LW.un ?_)
  have e7 := liaddr_bsl (P := Tryd.prog) (k := .i64) (l := [slot]) (i := 0) (t := 32) (e := 5) ty32 sz5 (by simp)
  simp only [List.getElem_cons_zero, hslot, show ((0 : Nat) : Int) = 0 from rfl] at e7
  have hN0 : 128 - cell.length ≤ 128 := by omega
  generalize hN : 128 - cell.length = N at *
  have wN : IntKind.i64.wrap (N : Int) = (N : Int) := wrap_i64 (by omega) (by omega)
  have n1 : ¬ 128 < N := by omega
  have n2 : ¬ (128 : Int) < (N : Int) := by omega
  repeat (first | refine LW.seq_ops ?_ | refine lrun_end ?_ | (refine lrun_step (by decide) ?_; intro K hK; simp [e7, lload_one ag5, convK_int ty5 ty3, wN, n1, n2, e6]; refine hK _ _ ?_; clear hK K) | (refine lrun_stepG rfl (by decide) (by decide) ?_; intro K hK; simp [e7, lload_one ag5, convK_int ty5 ty3, wN, n1, n2, e6]; refine hK _ _ ?_; clear hK K) | (refine lrun_stepN ?_; intro K hK; simp [e7, lload_one ag5, convK_int ty5 ty3, wN, n1, n2, e6]; refine hK _ _ ?_; clear hK K) | refine LW.seq ?_ | refine LW.block ?_ | refine LW.ops ?_ | refine LW.skip ?_ | refine LW.ret ?_ | refine LW.exit ?_ | refine LW.label ?_ | refine thn_n ?_ | refine thn_r ?_ | refine thn_e ?_ | refine inb_n ?_ | refine inb_r ?_ | refine inb_x ?_ | refine inb_e (by decide) ?_ | (refine LW.ct ?_ ?_; · simp [e7, lload_one ag5, convK_int ty5 ty3, wN, n1, n2, e6]; done) | (refine LW.cf ?_ ?_; · simp [e7, lload_one ag5, convK_int ty5 ty3, wN, n1, n2, e6]; done) | fail)
  refine lrun_step (by decide) ?_; intro K hK; simp
  refine callK.by (clone_LC cell h0 (by omega) _) ?_
  rintro v H4 ⟨rfl, rfl⟩
  refine hK _ _ ?_; clear hK K
  have f1 := lbslice_one (P := Tryd.prog) (H := H4) (t := 25) (e := 32) (v := bsl cell) ty25 sz32 ze32 rfl rfl rfl
  repeat (first | refine LW.seq_ops ?_ | refine lrun_end ?_ | (refine lrun_step (by decide) ?_; intro K hK; simp [f1]; refine hK _ _ ?_; clear hK K) | (refine lrun_stepG rfl (by decide) (by decide) ?_; intro K hK; simp [f1]; refine hK _ _ ?_; clear hK K) | (refine lrun_stepN ?_; intro K hK; simp [f1]; refine hK _ _ ?_; clear hK K) | refine LW.seq ?_ | refine LW.block ?_ | refine LW.ops ?_ | refine LW.skip ?_ | refine LW.ret ?_ | refine LW.exit ?_ | refine LW.label ?_ | refine thn_n ?_ | refine thn_r ?_ | refine thn_e ?_ | refine inb_n ?_ | refine inb_r ?_ | refine inb_x ?_ | refine inb_e (by decide) ?_ | (refine LW.ct ?_ ?_; · simp [f1]; done) | (refine LW.cf ?_ ?_; · simp [f1]; done) | fail)
  refine lrun_step (by decide) ?_; intro K hK; simp
  refine append_Own (P := Tryd.prog) (k := H4.length) (ats := #[25, 25]) (e := 32) (zv := .slice none 0 0) (by_ := 24) (news := [bsl cell]) (m := 1) (.inl ⟨rfl, rfl⟩) (by simp) rfl rfl ty25 ty25 rfl nf32 (by omega) rfl (lsrc_own1 own_get rfl (by omega)) rfl rfl (by simp) (by simp) ?_
  intro w2 H6 ho ht hl
  refine hK _ _ ?_; clear hK K
  rw [List.take_append_of_le_length (Nat.le_refl _), List.take_length] at ht
  rcases ho with ⟨_, hx⟩ | ⟨s, ns, rfl, hs1, hs2, hs3⟩
  · simp at hx
  obtain rfl : ns = 1 := by simpa using hs3.symm
  repeat (first | refine LW.seq_ops ?_ | refine lrun_end ?_ | (refine lrun_step (by decide) ?_; intro K hK; simp [w1]; refine hK _ _ ?_; clear hK K) | (refine lrun_stepG rfl (by decide) (by decide) ?_; intro K hK; simp [w1]; refine hK _ _ ?_; clear hK K) | (refine lrun_stepN ?_; intro K hK; simp [w1]; refine hK _ _ ?_; clear hK K) | refine LW.seq ?_ | refine LW.block ?_ | refine LW.ops ?_ | refine LW.skip ?_ | refine LW.ret ?_ | refine LW.exit ?_ | refine LW.label ?_ | refine thn_n ?_ | refine thn_r ?_ | refine thn_e ?_ | refine inb_n ?_ | refine inb_r ?_ | refine inb_x ?_ | refine inb_e (by decide) ?_ | (refine LW.ct ?_ ?_; · simp [w1]; done) | (refine LW.cf ?_ ?_; · simp [w1]; done) | fail)
  refine hZ2 _ _ ?_
  refine inb_x ?_
  refine thn_n ?_
  have hv : PurS H6 (H6.set s .dead) (.own s 0 1 1 1) (bbl [cell]) := by
    have hsl : s < H6.length := (List.getElem?_eq_some_iff.1 hs2).1
    refine .own (fun _ _ => bsl cell) hs2 (shut_dead hsl) rfl (fun x hx => by simp at hx; subst hx; rfl) (fun j q hj hq => ?_) (fun j x hj q y hq => ?_)
    · obtain rfl : j = 0 := by omega
      obtain rfl : q = 0 := by omega
      rfl
    · match j with
      | 0 =>
        simp at hj
        subst hj
        match q with
        | 0 =>
          obtain rfl : bsl cell = y := Option.some.inj hq
          exact .same _
        | q + 1 => cases hq
      | j + 1 => simp at hj
  refine LW.retell1 8 (retell_dead s) hv ?_
  have hH6 : (H6.set s .dead).take H.length = H := by
    have : H.length ≤ H4.length := by rw [hH2]; simp
    rw [List.take_set_of_le (by omega)]
    have h2 : H6.take H.length = (H6.take H4.length).take H.length := by rw [List.take_take, Nat.min_eq_left (by omega)]
    rw [h2, ht, hH2, List.take_append_of_le_length (Nat.le_refl _), List.take_length]
  generalize H6.set s .dead = H7 at *
  repeat (first | refine LW.seq_ops ?_ | refine lrun_end ?_ | (refine lrun_step (by decide) ?_; intro K hK; simp; refine hK _ _ ?_; clear hK K) | (refine lrun_stepG rfl (by decide) (by decide) ?_; intro K hK; simp; refine hK _ _ ?_; clear hK K) | (refine lrun_stepN ?_; intro K hK; simp; refine hK _ _ ?_; clear hK K) | refine LW.seq ?_ | refine LW.block ?_ | refine LW.ops ?_ | refine LW.skip ?_ | refine LW.ret ?_ | refine LW.exit ?_ | refine LW.label ?_ | refine thn_n ?_ | refine thn_r ?_ | refine thn_e ?_ | refine inb_n ?_ | refine inb_r ?_ | refine inb_x ?_ | refine inb_e (by decide) ?_ | (refine LW.ct ?_ ?_; · simp; done) | (refine LW.cf ?_ ?_; · simp; done) | fail)
  refine lrun_step (by decide) ?_; intro K hK; simp
  refine callK.by (hpk _) ?_
  rintro v H8 ⟨rfl, rfl⟩
  refine hK _ _ ?_; clear hK K
  repeat (first | refine LW.seq_ops ?_ | refine lrun_end ?_ | (refine lrun_step (by decide) ?_; intro K hK; simp [lextract]; refine hK _ _ ?_; clear hK K) | (refine lrun_stepG rfl (by decide) (by decide) ?_; intro K hK; simp [lextract]; refine hK _ _ ?_; clear hK K) | (refine lrun_stepN ?_; intro K hK; simp [lextract]; refine hK _ _ ?_; clear hK K) | refine LW.seq ?_ | refine LW.block ?_ | refine LW.ops ?_ | refine LW.skip ?_ | refine LW.ret ?_ | refine LW.exit ?_ | refine LW.label ?_ | refine thn_n ?_ | refine thn_r ?_ | refine thn_e ?_ | refine inb_n ?_ | refine inb_r ?_ | refine inb_x ?_ | refine inb_e (by decide) ?_ | (refine LW.ct ?_ ?_; · simp [lextract]; done) | (refine LW.cf ?_ ?_; · simp [lextract]; done) | fail)
  refine lrun_stepG rfl (by decide) (by decide) ?_; intro K hK; simp
  refine callK.by (equal_LC page page _) ?_
  rintro v H9 ⟨rfl, rfl⟩
  refine hK _ _ ?_; clear hK K
  repeat (first | refine LW.seq_ops ?_ | refine lrun_end ?_ | (refine lrun_step (by decide) ?_; intro K hK; simp; refine hK _ _ ?_; clear hK K) | (refine lrun_stepG rfl (by decide) (by decide) ?_; intro K hK; simp; refine hK _ _ ?_; clear hK K) | (refine lrun_stepN ?_; intro K hK; simp; refine hK _ _ ?_; clear hK K) | refine LW.seq ?_ | refine LW.block ?_ | refine LW.ops ?_ | refine LW.skip ?_ | refine LW.ret ?_ | refine LW.exit ?_ | refine LW.label ?_ | refine thn_n ?_ | refine thn_r ?_ | refine thn_e ?_ | refine inb_n ?_ | refine inb_r ?_ | refine inb_x ?_ | refine inb_e (by decide) ?_ | (refine LW.ct ?_ ?_; · simp; done) | (refine LW.cf ?_ ?_; · simp; done) | fail)
  have hJ : H9 = H ++ H9.drop H.length := by conv => lhs; rw [← List.take_append_drop H.length H9, hH6]
  refine hZ _ _ ⟨.inr rfl, .t [.i .u8 (kind.toNat : Int), bbl [cell], .i .i64 0], by simp [lres, lres1, Tryd.f36], ?_⟩
  dsimp only
  rw [hJ]
  refine leave_drop (.t fun q y hq => ?_) ⟨rfl, rfl⟩
  match q with
  | 0 => simp at hq; subst hq; exact .i _ _
  | 1 =>
    simp at hq
    subst hq
    exact .sl fun j x hj q y hq => by
      match j with
      | 0 =>
        simp at hj
        subst hj
        match q with
        | 0 =>
          obtain rfl : bsl cell = y := Option.some.inj hq
          exact lt_bsl
        | q + 1 => cases hq
      | j + 1 => simp at hj
  | 2 => simp at hq; subst hq; exact .i _ _
  | q + 3 => simp at hq
end Go.Lw
