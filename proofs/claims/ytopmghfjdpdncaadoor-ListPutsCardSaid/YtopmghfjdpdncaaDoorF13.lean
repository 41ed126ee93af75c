/- disk.Write of one page onto an empty disk -/
import Derived.Test.YtopmghfjdpdncaaDoorF12
set_option linter.unusedSimpArgs false
set_option linter.unusedVariables false
namespace Go.Lw
open Go Go.Proofs Go.RowKit
variable {G : List (Nat × List V)}

/-- Two may come up, in whichever order. -/
theorem lany_2K {P : Program} {n : Nat} {ops : Array Oper} {Q : St → Prop} {t : Nat → V} {H : List LB} (i j : Nat) {oi oj : Oper} {di dj : Nat} {md : Region.Mode} {fuel : Nat} {listed : Array Bool} (hr : Region.ready md ops listed = [i, j])
    (hi : ops[i]? = some oi) (hgi : oi.guard = none) (hdi : oi.dst = some di) (hni : di < n) (hj : ops[j]? = some oj) (hgj : oj.guard = none) (hdj : oj.dst = some dj) (hnj : dj < n)
    (h1 : ∀ K : V → List LB → Prop, (∀ v H', lany P G n md ops Q fuel (listed.setIfInBounds i true) ⟨upd t di v, H'⟩ → K v H') → ldo P G ⟨t, H⟩ oi K)
    (h2 : ∀ K : V → List LB → Prop, (∀ v H', lany P G n md ops Q fuel (listed.setIfInBounds j true) ⟨upd t dj v, H'⟩ → K v H') → ldo P G ⟨t, H⟩ oj K) : lany P G n md ops Q (fuel + 1) listed ⟨t, H⟩ := by
  refine lany_all hr (by simp) fun k hk => ?_
  rcases List.mem_cons.1 hk with rfl | hk
  · unfold lop
    rw [hi]
    dsimp only
    unfold lwant
    rw [hgi]
    refine h1 _ fun v H' hv => ?_
    rw [hdi, updO_some, if_pos hni]
    exact hv
  · rw [List.mem_singleton] at hk
    subst hk
    unfold lop
    rw [hj]
    dsimp only
    unfold lwant
    rw [hgj]
    refine h2 _ fun v H' hv => ?_
    rw [hdj, updO_some, if_pos hnj]
    exact hv

theorem lbslice_1 {P : Program} {H : List LB} {t e : TypeId} {z : Nat} {zv : Value} {v : V} (hu : P.underlying t = some (.slice e)) (hz : tsz P e = some z) (h0 : 0 < z ∧ z ≤ 16777216) (hze : tzero P e = some zv) (hzv : zv.cells.size = z) (hk : v.known = true) (hc : v.cells.length = z) :
    lbslice P H t 1 [(0, v)] = some (.own H.length 0 1 1 0, H ++ [.c v.cells e true]) := by
  unfold lbslice
  rw [hu]
  dsimp only
  rw [hz, hze]
  dsimp only
  rw [if_pos ⟨h0.1, hzv, by omega⟩]
  have hlen : (rep (zv.cells.toList.map ofV1) 1).length = z := by rw [rep_length]; simp [hzv]
  generalize rep (zv.cells.toList.map ofV1) 1 = cs at hlen
  simp only [lfill]
  rw [if_pos ⟨hk, hc, by omega⟩]
  have : put cs (0 * z) v.cells = v.cells := by
    unfold put
    rw [Nat.zero_mul, List.take_zero, List.drop_of_length_le (by omega)]
    simp
  rw [this]
  rfl

theorem nf67x : ∃ zv : Value, tinf Tryd.prog 67 = some (some zv, 129, 136) ∧ tzero Tryd.prog 67 = some zv ∧ zv.cells.size = 129 := ⟨_, nf67, ze67, by kernel_rfl⟩

theorem build67 (xs : List V) (hx : xs.length = 128) (a : Int) : lbuild Tryd.prog 67 [(0, .i .i64 a), (1, .a xs)] = some (.a (.i .i64 a :: xs)) := by
  obtain ⟨zv, _, hz, hs⟩ := nf67x
  have hp : ∀ fs : List (Nat × Nat), fs = [(0, 1), (1, 128)] → ∀ cs : List V, cs.length = 129 → lfill (fun i => fs[i]?) cs [(0, .i .i64 a), (1, .a xs)] = some (.i .i64 a :: xs) := by
    rintro fs rfl cs hc
    have h1 : (put cs 0 [.i .i64 a]).length = 129 := by rw [put_length (by simp; omega), hc]
    have h2 : (put cs 0 [V.i .i64 a]).take 1 = [.i .i64 a] := by simp [put]
    simp only [lfill]
    simp only [List.getElem?_cons_zero, List.getElem?_cons_succ]
    rw [if_pos ⟨rfl, rfl, by omega⟩]
    show (if _ then some (put (put cs 0 [V.i .i64 a]) 1 xs) else none) = _
    rw [if_pos ⟨rfl, hx, by rw [show (V.i IntKind.i64 a).cells = [V.i .i64 a] from rfl, h1]; decide⟩]
    unfold put at h1 h2 ⊢
    rw [h2, List.drop_of_length_le (by omega)]
    simp
  unfold lbuild
  rw [hz]
  dsimp only
  rw [ty67]
  dsimp only
  have hpl : places Tryd.prog (#[{ name := "at", type := 3, offset := 0, embedded := false, tag := "", pkgPath := "jalousie/disk", byteOffset := 0 }, { name := "b", type := 65, offset := 1, embedded := false, tag := "", pkgPath := "jalousie/disk", byteOffset := 8 }] : Array Field).toList = some [(0, 1), (1, 128)] := by simp [places]
  rw [hpl]
  dsimp only
  rw [hp _ rfl _ (by simp [hs])]
  rfl
theorem larr_bsl {B : List UInt8} (hB : B.length = 128) : larr Tryd.prog 65 (bsl B) = some (.ep (bcs B) 0) := by
  unfold larr
  rw [ty65]
  show (if 0 < 1 ∧ 128 ≤ (bcs B).length ∧ 0 < (bcs B).length then some (V.ep ((bcs B).flatMap V.cells) 0) else none) = _
  rw [if_pos ⟨by omega, by simp [bcs, hB], by simp [bcs, hB]⟩, flat_bcs]

theorem rdv_page {B : List UInt8} (hB : B.length = 128) : rdv Tryd.prog 65 (bcs B) 0 = some (.a (bcs B)) := by
  unfold rdv
  rw [ag65]
  dsimp only
  rw [sz65]
  dsimp only
  have hl : (bcs B).length = 128 := by simp [bcs, hB]
  rw [if_pos (by omega), List.drop_zero, List.take_of_length_le (by omega)]
theorem lsrc_own1z {H : List LB} {r z : Nat} {cs : List V} {e : TypeId} {mu : Bool} {c x : Nat} (hr : H[r]? = some (.c cs e mu)) (hn : cs.length = z) (hz : 0 < z) : lsrc H z (.own r 0 1 c x) = some (1, cs) := by
  unfold lsrc
  dsimp only
  rw [if_neg (by decide), hr]
  dsimp only
  rw [if_pos (by omega), List.drop_zero, List.take_of_length_le (by omega)]
attribute [local irreducible] LW callK LC lany lrun ldo oK oK2 oKH gK yieldK LY

theorem write_LC {H : List LB} {d m r q : Nat} (hD : DiskAt H d m r q .nsl) (B : List UInt8) (hB : B.length = 128) (a : Nat) (ha : a < 9) : LC Tryd.prog G 13 [.p d 0, .i .i64 0, .i .i64 a, bsl B] H fun v H' => v = .i .i64 0 ∧
    ∃ s, DiskAt H' d m r q (.own s 0 1 1 129) ∧ H'[s]? = some (.c (.i .i64 a :: bcs B) 67 true) ∧ (∀ i, i < H.length → i ≠ r → H'[i]? = H[i]?) ∧ H.length ≤ H'.length := by
  refine LC.of_walk Tryd.f13 44 (by kernel_rfl) (by kernel_rfl) rfl rfl fun Z hZ => ?_
  repeat (first | refine LW.seq_ops ?_ | refine lrun_end ?_ | (refine lrun_step (by decide) ?_; intro K hK; simp; refine hK _ _ ?_; clear hK K) | (refine lrun_stepG rfl (by decide) (by decide) ?_; intro K hK; simp; refine hK _ _ ?_; clear hK K) | (refine lrun_stepN ?_; intro K hK; simp; refine hK _ _ ?_; clear hK K) | refine LW.seq ?_ | refine LW.block ?_ | refine LW.ops ?_ | refine LW.skip ?_ | refine LW.ret ?_ | refine LW.exit ?_ | refine LW.label ?_ | refine thn_n ?_ | refine thn_r ?_ | refine thn_e ?_ | refine inb_n ?_ | refine inb_r ?_ | refine inb_x ?_ | refine inb_e (by decide) ?_ | (refine LW.ct ?_ ?_; · simp; done) | (refine LW.cf ?_ ?_; · simp; done) | fail)
  refine lrun_step (by decide) ?_; intro K hK; simp
  refine callK.by (paged_LC hD a ha) ?_
  rintro v H' ⟨rfl, rfl⟩
  refine hK _ _ ?_; clear hK K
  have hlen : llen Tryd.prog H' 32 (bsl B) = some (.i .i64 128) := by rw [bsl, llen_sl ty32]; simp [bcs, hB]
  repeat (first | refine LW.seq_ops ?_ | refine lrun_end ?_ | (refine lrun_step (by decide) ?_; intro K hK; simp [lextract, hlen]; refine hK _ _ ?_; clear hK K) | (refine lrun_stepG rfl (by decide) (by decide) ?_; intro K hK; simp [lextract, hlen]; refine hK _ _ ?_; clear hK K) | (refine lrun_stepN ?_; intro K hK; simp [lextract, hlen]; refine hK _ _ ?_; clear hK K) | refine LW.seq ?_ | refine LW.block ?_ | refine LW.ops ?_ | refine LW.skip ?_ | refine LW.ret ?_ | refine LW.exit ?_ | refine LW.label ?_ | refine thn_n ?_ | refine thn_r ?_ | refine thn_e ?_ | refine inb_n ?_ | refine inb_r ?_ | refine inb_x ?_ | refine inb_e (by decide) ?_ | (refine LW.ct ?_ ?_; · simp [lextract, hlen]; done) | (refine LW.cf ?_ ?_; · simp [lextract, hlen]; done) | fail)
  refine lrun_step (by decide) ?_; intro K hK; simp
  refine callK.by (count_LC hD) ?_
  rintro v H2 ⟨rfl, rfl⟩
  refine hK _ _ ?_; clear hK K
  repeat (first | refine LW.seq_ops ?_ | refine lrun_end ?_ | (refine lrun_step (by decide) ?_; intro K hK; simp; refine hK _ _ ?_; clear hK K) | (refine lrun_stepG rfl (by decide) (by decide) ?_; intro K hK; simp; refine hK _ _ ?_; clear hK K) | (refine lrun_stepN ?_; intro K hK; simp; refine hK _ _ ?_; clear hK K) | refine LW.seq ?_ | refine LW.block ?_ | refine LW.ops ?_ | refine LW.skip ?_ | refine LW.ret ?_ | refine LW.exit ?_ | refine LW.label ?_ | refine thn_n ?_ | refine thn_r ?_ | refine thn_e ?_ | refine inb_n ?_ | refine inb_r ?_ | refine inb_x ?_ | refine inb_e (by decide) ?_ | (refine LW.ct ?_ ?_; · simp; done) | (refine LW.cf ?_ ?_; · simp; done) | fail)
  have e1 := lload_p (P := Tryd.prog) (ty := 58) (o := 2) hD.hr (by kernel_rfl) rfl
  have hbl : (bcs B).length = 128 := by simp [bcs, hB]
  have e2 := build67 (bcs B) hbl a
  have e3 := larr_bsl hB
  have e4 := rdv_page hB
  obtain ⟨zv, n1, n2, n3⟩ := nf67x
  have e5 := lbslice_1 (P := Tryd.prog) (H := H2) (v := .a (.i .i64 a :: bcs B)) ty58 sz67 (by decide) n2 n3 rfl (by simp [V.cells, hbl])
  have hc5 : (V.a (V.i IntKind.i64 (a : Int) :: bcs B)).cells = .i .i64 a :: bcs B := rfl
  rw [hc5] at e5
  generalize hH3 : H2 ++ [LB.c (V.i IntKind.i64 (a : Int) :: bcs B) 67 true] = H3 at *
  have l3 : H3.length = H2.length + 1 := by rw [← hH3]; simp
  have up3 : ∀ i, i < H2.length → H3[i]? = H2[i]? := fun i hi => by rw [← hH3, List.getElem?_append_left hi]
  have g3 : H3[H2.length]? = some (.c (.i .i64 a :: bcs B) 67 true) := by rw [← hH3]; exact own_get
  have lt : ∀ {i : Nat} {b : LB}, H2[i]? = some b → i < H2.length := fun h => (List.getElem?_eq_some_iff.1 h).1
  have hr3 : H3[r]? = some (.c [.i .i64 9, .m m, .nsl, .i .i64 (-1), .b false] 60 true) := by rw [up3 _ (lt hD.hr)]; exact hD.hr
  have e6 := lload_p (P := Tryd.prog) (ty := 58) (o := 2) hr3 (by kernel_rfl) rfl
  first | refine LW.seq_draw (by kernel_rfl) ?_ | refine LW.draw (by kernel_rfl) ?_
  refine lany_qK 0 rfl (by kernel_rfl) rfl rfl (by decide) ?_; intro K hK; simp [e2, e3, e4]; refine hK _ ?_; clear hK K
  refine lany_qK 1 rfl (by kernel_rfl) rfl rfl (by decide) ?_; intro K hK; simp [e2, e3, e4]; refine hK _ ?_; clear hK K
  refine lany_qK 2 rfl (by kernel_rfl) rfl rfl (by decide) ?_; intro K hK; simp [e2, e3, e4]; refine hK _ ?_; clear hK K
  refine lany_qK 3 rfl (by kernel_rfl) rfl rfl (by decide) ?_; intro K hK; simp [e2, e3, e4]; refine hK _ ?_; clear hK K
  refine lany_qK 5 rfl (by kernel_rfl) rfl rfl (by decide) ?_; intro K hK; simp [e2, e3, e4]; refine hK _ ?_; clear hK K
  refine lany_qK 6 rfl (by kernel_rfl) rfl rfl (by decide) ?_; intro K hK; simp [e2, e3, e4]; refine hK _ ?_; clear hK K
  refine lany_qK 7 rfl (by kernel_rfl) rfl rfl (by decide) ?_; intro K hK; simp [e2, e3, e4]; refine hK _ ?_; clear hK K
  refine lany_qK 8 rfl (by kernel_rfl) rfl rfl (by decide) ?_; intro K hK; simp [e2, e3, e4]; refine hK _ ?_; clear hK K
  refine lany_qK 9 rfl (by kernel_rfl) rfl rfl (by decide) ?_; intro K hK; simp [e2, e3, e4]; refine hK _ ?_; clear hK K
  refine lany_2K 4 10 (by kernel_rfl) rfl rfl rfl (by decide) rfl rfl rfl (by decide) ?_ ?_
  · intro K hK; simp [e1]; refine hK _ _ ?_; clear hK K
    refine lany_oK 10 (by kernel_rfl) rfl rfl rfl (by decide) ?_; intro K hK; simp [e5]; refine hK _ _ ?_; clear hK K
    refine lany_oK 11 (by kernel_rfl) rfl rfl rfl (by decide) ?_; intro K hK; simp
    refine append_Own (P := Tryd.prog) (k := H3.length) (ats := #[58, 58]) (e := 67) (zv := zv) (by_ := 136) (z := 129) (news := .i .i64 a :: bcs B) (m := 1) (.inl ⟨rfl, rfl⟩) (Nat.le_refl _) rfl rfl ty58 ty58 rfl n1 (by omega) n3 (lsrc_own1z g3 (by simp [hbl]) (by omega)) (by simp [hbl]) (by rw [List.all_cons, one_bcs]; rfl) (by simp [hbl]) (by simp [hbl]) ?_
    intro v' H5 ho ht hl
    refine hK _ _ ?_; clear hK K
    rw [List.take_length] at ht
    have up : ∀ i, i < H3.length → H5[i]? = H3[i]? := fun i hi => by
      conv => rhs; rw [← ht]
      rw [List.getElem?_take_of_lt hi]
    rcases ho with ⟨_, h0⟩ | ⟨s, ns, rfl, hs, hs2, hs3⟩
    · simp at h0
    obtain rfl : ns = 1 := by simp [hbl] at hs3; omega
    have hr5 : H5[r]? = some (.c [.i .i64 9, .m m, .nsl, .i .i64 (-1), .b false] 60 true) := by rw [up _ (by have := lt hD.hr; omega)]; exact hr3
    have e9 := lstore_at (P := Tryd.prog) (ty := 58) (o := 2) (v := .own s 0 1 1 129) hr5 sz58 (by simp) rfl rfl rfl
    refine lany_qK 12 rfl (by kernel_rfl) rfl rfl (by decide) ?_; intro K hK; simp [e9]; refine hK _ ?_; clear hK K
    refine lany_qK 13 rfl (by kernel_rfl) rfl rfl (by decide) ?_; intro K hK; simp [e9]; refine hK _ ?_; clear hK K
    refine lany_oN 14 (by kernel_rfl) rfl rfl rfl ?_; intro K hK; simp [e9]; refine hK _ _ ?_; clear hK K
    refine lany_done (by kernel_rfl) ?_ _
    repeat (first | refine LW.seq_ops ?_ | refine lrun_end ?_ | (refine lrun_step (by decide) ?_; intro K hK; simp; refine hK _ _ ?_; clear hK K) | (refine lrun_stepG rfl (by decide) (by decide) ?_; intro K hK; simp; refine hK _ _ ?_; clear hK K) | (refine lrun_stepN ?_; intro K hK; simp; refine hK _ _ ?_; clear hK K) | refine LW.seq ?_ | refine LW.block ?_ | refine LW.ops ?_ | refine LW.skip ?_ | refine LW.ret ?_ | refine LW.exit ?_ | refine LW.label ?_ | refine thn_n ?_ | refine thn_r ?_ | refine thn_e ?_ | refine inb_n ?_ | refine inb_r ?_ | refine inb_x ?_ | refine inb_e (by decide) ?_ | (refine LW.ct ?_ ?_; · simp; done) | (refine LW.cf ?_ ?_; · simp; done) | fail)
    have hne : ∀ {i : Nat} {b : LB}, H2[i]? = some b → i ≠ r → (H5.set r (.c [.i .i64 9, .m m, .own s 0 1 1 129, .i .i64 (-1), .b false] 60 true))[i]? = some b := fun {i b} h hi => by
      rw [List.getElem?_set_ne (fun e => hi e.symm), up _ (by have := lt h; omega), up3 _ (lt h)]
      exact h
    have n4 : ∀ {i : Nat} {b : LB}, H2[i]? = some b → b ≠ .c [.i .i64 9, .m m, .nsl, .i .i64 (-1), .b false] 60 true → i ≠ r := fun {i b} h hb e => by
      subst e
      rw [hD.hr] at h
      exact hb (Option.some.inj h).symm
    refine hZ _ _ ⟨.inr rfl, .i .i64 0, by simp [lres, lres1, Tryd.f13], .inl ⟨rfl, s, ⟨hne hD.hd (n4 hD.hd (by simp)), hne hD.hq (n4 hD.hq (by simp)), ?_, hne hD.hm (n4 hD.hm (by simp))⟩, ?_, fun i hi hi2 => ?_, ?_⟩⟩
    · rw [List.getElem?_set_self (by have := lt hD.hr; omega)]
    · rw [List.getElem?_set_ne (by have := lt hD.hr; omega), hs2]
      rfl
    · rw [List.getElem?_set_ne (fun e => hi2 e.symm), up _ (by omega), up3 _ hi]
    · simp
      omega
  · intro K hK; simp [e5]; refine hK _ _ ?_; clear hK K
    refine lany_oK 4 (by kernel_rfl) rfl rfl rfl (by decide) ?_; intro K hK; simp [e6]; refine hK _ _ ?_; clear hK K
    refine lany_oK 11 (by kernel_rfl) rfl rfl rfl (by decide) ?_; intro K hK; simp
    refine append_Own (P := Tryd.prog) (k := H3.length) (ats := #[58, 58]) (e := 67) (zv := zv) (by_ := 136) (z := 129) (news := .i .i64 a :: bcs B) (m := 1) (.inl ⟨rfl, rfl⟩) (Nat.le_refl _) rfl rfl ty58 ty58 rfl n1 (by omega) n3 (lsrc_own1z g3 (by simp [hbl]) (by omega)) (by simp [hbl]) (by rw [List.all_cons, one_bcs]; rfl) (by simp [hbl]) (by simp [hbl]) ?_
    intro v' H5 ho ht hl
    refine hK _ _ ?_; clear hK K
    rw [List.take_length] at ht
    have up : ∀ i, i < H3.length → H5[i]? = H3[i]? := fun i hi => by
      conv => rhs; rw [← ht]
      rw [List.getElem?_take_of_lt hi]
    rcases ho with ⟨_, h0⟩ | ⟨s, ns, rfl, hs, hs2, hs3⟩
    · simp at h0
    obtain rfl : ns = 1 := by simp [hbl] at hs3; omega
    have hr5 : H5[r]? = some (.c [.i .i64 9, .m m, .nsl, .i .i64 (-1), .b false] 60 true) := by rw [up _ (by have := lt hD.hr; omega)]; exact hr3
    have e9 := lstore_at (P := Tryd.prog) (ty := 58) (o := 2) (v := .own s 0 1 1 129) hr5 sz58 (by simp) rfl rfl rfl
    refine lany_qK 12 rfl (by kernel_rfl) rfl rfl (by decide) ?_; intro K hK; simp [e9]; refine hK _ ?_; clear hK K
    refine lany_qK 13 rfl (by kernel_rfl) rfl rfl (by decide) ?_; intro K hK; simp [e9]; refine hK _ ?_; clear hK K
    refine lany_oN 14 (by kernel_rfl) rfl rfl rfl ?_; intro K hK; simp [e9]; refine hK _ _ ?_; clear hK K
    refine lany_done (by kernel_rfl) ?_ _
    repeat (first | refine LW.seq_ops ?_ | refine lrun_end ?_ | (refine lrun_step (by decide) ?_; intro K hK; simp; refine hK _ _ ?_; clear hK K) | (refine lrun_stepG rfl (by decide) (by decide) ?_; intro K hK; simp; refine hK _ _ ?_; clear hK K) | (refine lrun_stepN ?_; intro K hK; simp; refine hK _ _ ?_; clear hK K) | refine LW.seq ?_ | refine LW.block ?_ | refine LW.ops ?_ | refine LW.skip ?_ | refine LW.ret ?_ | refine LW.exit ?_ | refine LW.label ?_ | refine thn_n ?_ | refine thn_r ?_ | refine thn_e ?_ | refine inb_n ?_ | refine inb_r ?_ | refine inb_x ?_ | refine inb_e (by decide) ?_ | (refine LW.ct ?_ ?_; · simp; done) | (refine LW.cf ?_ ?_; · simp; done) | fail)
    have hne : ∀ {i : Nat} {b : LB}, H2[i]? = some b → i ≠ r → (H5.set r (.c [.i .i64 9, .m m, .own s 0 1 1 129, .i .i64 (-1), .b false] 60 true))[i]? = some b := fun {i b} h hi => by
      rw [List.getElem?_set_ne (fun e => hi e.symm), up _ (by have := lt h; omega), up3 _ (lt h)]
      exact h
    have n4 : ∀ {i : Nat} {b : LB}, H2[i]? = some b → b ≠ .c [.i .i64 9, .m m, .nsl, .i .i64 (-1), .b false] 60 true → i ≠ r := fun {i b} h hb e => by
      subst e
      rw [hD.hr] at h
      exact hb (Option.some.inj h).symm
    refine hZ _ _ ⟨.inr rfl, .i .i64 0, by simp [lres, lres1, Tryd.f13], .inl ⟨rfl, s, ⟨hne hD.hd (n4 hD.hd (by simp)), hne hD.hq (n4 hD.hq (by simp)), ?_, hne hD.hm (n4 hD.hm (by simp))⟩, ?_, fun i hi hi2 => ?_, ?_⟩⟩
    · rw [List.getElem?_set_self (by have := lt hD.hr; omega)]
    · rw [List.getElem?_set_ne (by have := lt hD.hr; omega), hs2]
      rfl
    · rw [List.getElem?_set_ne (fun e => hi2 e.symm), up _ (by omega), up3 _ hi]
    · simp
      omega
end Go.Lw
