/- ListPuts -/
import Derived.Test.YtopmghfjdpdncaaDoorF4
import Derived.Test.YtopmghfjdpdncaaDoorF6
set_option linter.unusedSimpArgs false
set_option linter.unusedVariables false
namespace Go.Lw
open Go Go.Proofs Go.RowKit
variable {G : List (Nat × List V)}

theorem retell_refl (H : List LB) : Retell H H := ⟨rfl, fun r lb lb' h1 h2 => .inl (Option.some.inj (h2.symm.trans h1))⟩

theorem lt_ssl {k : Nat} {l : List ByteArray} : V.Lt k (ssl l) := .sl fun j x hj q y hq => by
  rw [List.getElem?_map] at hj
  cases hl : l[j]? with
  | none => rw [hl] at hj; cases hj
  | some z =>
    rw [hl] at hj
    obtain rfl := Option.some.inj hj
    match q with
    | 0 =>
      obtain rfl : V.s z = y := Option.some.inj hq
      exact .s _
    | q + 1 => cases hq

/-- Texts that are built, told as values. -/
theorem Own.texts {k : Nat} {H : List LB} {v : V} {e : TypeId} {l : List ByteArray} (h : Own k H v 1 e (l.map V.s)) : ∃ H', Retell H H' ∧ PurS H H' v (ssl l) ∧ H'.length = H.length ∧ ∀ i, i < k → H'[i]? = H[i]? := by
  rcases h with ⟨rfl, h0⟩ | ⟨r, n, rfl, hk, hr, hn⟩
  · obtain rfl : l = [] := by simpa using h0
    exact ⟨H, retell_refl H, .nsl, rfl, fun _ _ => rfl⟩
  · have hrl := (List.getElem?_eq_some_iff.1 hr).1
    refine ⟨H.set r .dead, retell_dead r, ?_, by simp, fun i hi => by rw [List.getElem?_set_ne (by omega)]⟩
    refine .own (fun j _ => V.s (l.getD j ⟨#[]⟩)) hr (shut_dead hrl) (by simpa using hn) (fun x hx => by obtain ⟨z, _, rfl⟩ := List.mem_map.1 hx; rfl) (fun j q hj hq => ?_) (fun j x hj q y hq => ?_)
    · obtain rfl : q = 0 := by omega
      have hjl : j < l.length := by simp at hn; omega
      simp [hjl]
    · rw [List.getElem?_map] at hj
      cases hl : l[j]? with
      | none => rw [hl] at hj; cases hj
      | some z =>
        rw [hl] at hj
        obtain rfl := Option.some.inj hj
        match q with
        | 0 =>
          obtain rfl : V.s z = y := Option.some.inj hq
          rw [List.getD_eq_getElem?_getD, hl]
          exact .same _
        | q + 1 => cases hq
attribute [local irreducible] LW callK LC lany lrun ldo oK oK2 oKH gK yieldK LY

set_option maxHeartbeats 2000000 in
theorem listputs_LC (hG : G.lookup 0 = some halfV) (hG0 : ∀ g cs, (g, cs) ∈ G → V.Lt 0 (.ep cs 0)) (l a : List Int) (ow : Nat) (how : ow < 4294967296) (H : List LB) :
    LC Tryd.prog G 3 [isl l, isl a, .i .u32 (ow : Int)] H fun v H' => v = .b true ∧ H' = H := by
  refine LC.of_walk Tryd.f3 86 (by kernel_rfl) (by kernel_rfl) rfl rfl fun Z hZ => ?_
  repeat (first | refine LW.seq_ops ?_ | refine lrun_end ?_ | (refine lrun_step (by decide) ?_; intro K hK; simp; refine hK _ _ ?_; clear hK K) | (refine lrun_stepG rfl (by decide) (by decide) ?_; intro K hK; simp; refine hK _ _ ?_; clear hK K) | (refine lrun_stepN ?_; intro K hK; simp; refine hK _ _ ?_; clear hK K) | refine LW.seq ?_ | refine LW.block ?_ | refine LW.ops ?_ | refine LW.skip ?_ | refine LW.ret ?_ | refine LW.exit ?_ | refine LW.label ?_ | refine thn_n ?_ | refine thn_r ?_ | refine thn_e ?_ | refine inb_n ?_ | refine inb_r ?_ | refine inb_x ?_ | refine inb_e (by decide) ?_ | (refine LW.ct ?_ ?_; · simp; done) | (refine LW.cf ?_ ?_; · simp; done) | fail)
  refine lrun_step (by decide) ?_; intro K hK; simp
  refine callK.by (awake_LC hG hG0 _) ?_
  rintro v H1 ⟨rfl, rfl⟩
  refine hK _ _ ?_; clear hK K
  by_cases c1 : l.length ≤ 400
  rotate_left
  · have c2 : (400 : Int) < l.length := by omega
    have c3 : 400 < l.length := by omega
    repeat (first | refine LW.seq_ops ?_ | refine lrun_end ?_ | (refine lrun_step (by decide) ?_; intro K hK; simp [llen_isl ty22, c2, c3]; refine hK _ _ ?_; clear hK K) | (refine lrun_stepG rfl (by decide) (by decide) ?_; intro K hK; simp [llen_isl ty22, c2, c3]; refine hK _ _ ?_; clear hK K) | (refine lrun_stepN ?_; intro K hK; simp [llen_isl ty22, c2, c3]; refine hK _ _ ?_; clear hK K) | refine LW.seq ?_ | refine LW.block ?_ | refine LW.ops ?_ | refine LW.skip ?_ | refine LW.ret ?_ | refine LW.exit ?_ | refine LW.label ?_ | refine thn_n ?_ | refine thn_r ?_ | refine thn_e ?_ | refine inb_n ?_ | refine inb_r ?_ | refine inb_x ?_ | refine inb_e (by decide) ?_ | (refine LW.ct ?_ ?_; · simp [llen_isl ty22, c2, c3]; done) | (refine LW.cf ?_ ?_; · simp [llen_isl ty22, c2, c3]; done) | fail)
    exact hZ _ _ ⟨.inr rfl, .b true, by simp [lres, lres1, Tryd.f3], .inl ⟨rfl, rfl⟩⟩
  have c2 : ¬ (400 : Int) < l.length := by omega
  have c3 : ¬ 400 < l.length := by omega
  by_cases d1 : a.length ≤ 20
  rotate_left
  · have d2 : (20 : Int) < a.length := by omega
    have d3 : 20 < a.length := by omega
    repeat (first | refine LW.seq_ops ?_ | refine lrun_end ?_ | (refine lrun_step (by decide) ?_; intro K hK; simp [llen_isl ty22, c2, c3, d2, d3]; refine hK _ _ ?_; clear hK K) | (refine lrun_stepG rfl (by decide) (by decide) ?_; intro K hK; simp [llen_isl ty22, c2, c3, d2, d3]; refine hK _ _ ?_; clear hK K) | (refine lrun_stepN ?_; intro K hK; simp [llen_isl ty22, c2, c3, d2, d3]; refine hK _ _ ?_; clear hK K) | refine LW.seq ?_ | refine LW.block ?_ | refine LW.ops ?_ | refine LW.skip ?_ | refine LW.ret ?_ | refine LW.exit ?_ | refine LW.label ?_ | refine thn_n ?_ | refine thn_r ?_ | refine thn_e ?_ | refine inb_n ?_ | refine inb_r ?_ | refine inb_x ?_ | refine inb_e (by decide) ?_ | (refine LW.ct ?_ ?_; · simp [llen_isl ty22, c2, c3, d2, d3]; done) | (refine LW.cf ?_ ?_; · simp [llen_isl ty22, c2, c3, d2, d3]; done) | fail)
    exact hZ _ _ ⟨.inr rfl, .b true, by simp [lres, lres1, Tryd.f3], .inl ⟨rfl, rfl⟩⟩
  have d2 : ¬ (20 : Int) < a.length := by omega
  have d3 : ¬ 20 < a.length := by omega
  repeat (first | refine LW.seq_ops ?_ | refine lrun_end ?_ | (refine lrun_step (by decide) ?_; intro K hK; simp [llen_isl ty22, c2, c3, d2, d3]; refine hK _ _ ?_; clear hK K) | (refine lrun_stepG rfl (by decide) (by decide) ?_; intro K hK; simp [llen_isl ty22, c2, c3, d2, d3]; refine hK _ _ ?_; clear hK K) | (refine lrun_stepN ?_; intro K hK; simp [llen_isl ty22, c2, c3, d2, d3]; refine hK _ _ ?_; clear hK K) | refine LW.seq ?_ | refine LW.block ?_ | refine LW.ops ?_ | refine LW.skip ?_ | refine LW.ret ?_ | refine LW.exit ?_ | refine LW.label ?_ | refine thn_n ?_ | refine thn_r ?_ | refine thn_e ?_ | refine inb_n ?_ | refine inb_r ?_ | refine inb_x ?_ | refine inb_e (by decide) ?_ | (refine LW.ct ?_ ?_; · simp [llen_isl ty22, c2, c3, d2, d3]; done) | (refine LW.cf ?_ ?_; · simp [llen_isl ty22, c2, c3, d2, d3]; done) | fail)
  refine lrun_step (by decide) ?_; intro K hK; simp
  refine callK.by (put_LC hG hG0 l a c1 d1 _) ?_
  rintro v H2 ⟨hv, rfl⟩
  obtain ⟨ps, er, hps, hv2, hrp⟩ : ∃ (ps : List (List UInt8)) (er : Int), ps.length ≤ 20 ∧ v = .t [bbl ps, .i .i64 er] ∧ (if Puts l a then V.t [ssl ((pagesOf l a a.length).map BA), .i .i64 0] else .t [ssl [], .i .i64 1]) = .t [ssl (ps.map BA), .i .i64 er] := by
    by_cases hP : Puts l a
    · rw [if_pos hP] at hv
      exact ⟨pagesOf l a a.length, 0, by simp [pagesOf, d1], hv, by rw [if_pos hP]⟩
    · rw [if_neg hP] at hv
      exact ⟨[], 1, by simp, hv, by rw [if_neg hP]; rfl⟩
  subst hv2
  clear hv
  refine hK _ _ ?_; clear hK K
  repeat (first | refine LW.seq_ops ?_ | refine lrun_end ?_ | (refine lrun_step (by decide) ?_; intro K hK; simp [lextract]; refine hK _ _ ?_; clear hK K) | (refine lrun_stepG rfl (by decide) (by decide) ?_; intro K hK; simp [lextract]; refine hK _ _ ?_; clear hK K) | (refine lrun_stepN ?_; intro K hK; simp [lextract]; refine hK _ _ ?_; clear hK K) | refine LW.seq ?_ | refine LW.block ?_ | refine LW.ops ?_ | refine LW.skip ?_ | refine LW.ret ?_ | refine LW.exit ?_ | refine LW.label ?_ | refine thn_n ?_ | refine thn_r ?_ | refine thn_e ?_ | refine inb_n ?_ | refine inb_r ?_ | refine inb_x ?_ | refine inb_e (by decide) ?_ | (refine LW.ct ?_ ?_; · simp [lextract]; done) | (refine LW.cf ?_ ?_; · simp [lextract]; done) | fail)
  refine lrun_step (by decide) ?_; intro K hK; simp
  refine callK.by (rput_LC l a c1 d1 _) ?_
  rintro v H3 ⟨rfl, rfl⟩
  rw [hrp]
  refine hK _ _ ?_; clear hK K
  repeat (first | refine LW.seq_ops ?_ | refine lrun_end ?_ | (refine lrun_step (by decide) ?_; intro K hK; simp [lextract]; refine hK _ _ ?_; clear hK K) | (refine lrun_stepG rfl (by decide) (by decide) ?_; intro K hK; simp [lextract]; refine hK _ _ ?_; clear hK K) | (refine lrun_stepN ?_; intro K hK; simp [lextract]; refine hK _ _ ?_; clear hK K) | refine LW.seq ?_ | refine LW.block ?_ | refine LW.ops ?_ | refine LW.skip ?_ | refine LW.ret ?_ | refine LW.exit ?_ | refine LW.label ?_ | refine thn_n ?_ | refine thn_r ?_ | refine thn_e ?_ | refine inb_n ?_ | refine inb_r ?_ | refine inb_x ?_ | refine inb_e (by decide) ?_ | (refine LW.ct ?_ ?_; · simp [lextract]; done) | (refine LW.cf ?_ ?_; · simp [lextract]; done) | fail)
  refine LW.loopN (fun m s => ∃ i : Nat, i ≤ ps.length ∧ m = ps.length - i ∧ s.t 2 = .i .u32 (ow : Int) ∧ s.t 8 = bbl ps ∧ s.t 9 = .i .i64 er ∧ s.t 10 = ssl (ps.map BA) ∧ s.t 11 = .i .i64 er ∧ s.t 13 = .i .i64 i ∧ s.H.take H3.length = H3 ∧ H3.length ≤ s.H.length ∧
      Own H3.length s.H (s.t 12) 1 9 (((ps.take i).map BA).map V.s)) (m := ps.length)
    ⟨0, by omega, by omega, by simp, by simp, by simp, by simp, by simp, by simp, List.take_length, Nat.le_refl _, .inl ⟨by simp, by simp⟩⟩ ?_
  rintro m ⟨t, J⟩ ⟨i, hi, rfl, q2, q8, q9, q10, q11, q13, htk, hlk, hown⟩
  dsimp only at q2 q8 q9 q10 q11 q13 htk hlk hown
  refine LW.toK fun Z2 hZ2 => ?_
  repeat (first | refine LW.seq_ops ?_ | refine lrun_end ?_ | (refine lrun_step (by decide) ?_; intro K hK; simp [q8, q13, llen_bbl ty25]; refine hK _ _ ?_; clear hK K) | (refine lrun_stepG rfl (by decide) (by decide) ?_; intro K hK; simp [q8, q13, llen_bbl ty25]; refine hK _ _ ?_; clear hK K) | (refine lrun_stepN ?_; intro K hK; simp [q8, q13, llen_bbl ty25]; refine hK _ _ ?_; clear hK K) | refine LW.seq ?_ | refine LW.block ?_ | refine LW.ops ?_ | refine LW.skip ?_ | refine LW.ret ?_ | refine LW.exit ?_ | refine LW.label ?_ | refine thn_n ?_ | refine thn_r ?_ | refine thn_e ?_ | refine inb_n ?_ | refine inb_r ?_ | refine inb_x ?_ | refine inb_e (by decide) ?_ | (refine LW.ct ?_ ?_; · simp [q8, q13, llen_bbl ty25]; done) | (refine LW.cf ?_ ?_; · simp [q8, q13, llen_bbl ty25]; done) | fail)
  refine LW.dec (p := i < ps.length) (by simp) (fun h2 => ?_) (fun h2 => ?_)
  · have e1 : liaddr Tryd.prog 25 (bbl ps) (.i .i64 (i : Int)) = some (.ep [bsl ps[i]] 0) := liaddr_sl (y := bsl ps[i]) ty25 sz32 (by simp [h2])
    have w1 : IntKind.i64.wrap ((i : Int) + 1) = (i : Int) + 1 := wrap_i64 (by omega) (by omega)
    have hs : ((ps.take (i + 1)).map BA).map V.s = ((ps.take i).map BA).map V.s ++ [V.s (BA ps[i])] := by rw [List.take_succ_eq_append_getElem h2, List.map_append, List.map_append]; rfl
    have hlen : (((ps.take i).map BA).map V.s).length = i := by simp; omega
    generalize ps[i] = p at *
    have e2 := lbslice_one (P := Tryd.prog) (H := J) (t := 29) (e := 9) (v := .s (BA p)) ty29 sz9 ze9 rfl rfl rfl
    repeat (first | refine LW.seq_ops ?_ | refine lrun_end ?_ | (refine lrun_step (by decide) ?_; intro K hK; simp [q8, q13, e1, lload_one ag32, convK_bsl ty32 ty9 ty5, e2]; refine hK _ _ ?_; clear hK K) | (refine lrun_stepG rfl (by decide) (by decide) ?_; intro K hK; simp [q8, q13, e1, lload_one ag32, convK_bsl ty32 ty9 ty5, e2]; refine hK _ _ ?_; clear hK K) | (refine lrun_stepN ?_; intro K hK; simp [q8, q13, e1, lload_one ag32, convK_bsl ty32 ty9 ty5, e2]; refine hK _ _ ?_; clear hK K) | refine LW.seq ?_ | refine LW.block ?_ | refine LW.ops ?_ | refine LW.skip ?_ | refine LW.ret ?_ | refine LW.exit ?_ | refine LW.label ?_ | refine thn_n ?_ | refine thn_r ?_ | refine thn_e ?_ | refine inb_n ?_ | refine inb_r ?_ | refine inb_x ?_ | refine inb_e (by decide) ?_ | (refine LW.ct ?_ ?_; · simp [q8, q13, e1, lload_one ag32, convK_bsl ty32 ty9 ty5, e2]; done) | (refine LW.cf ?_ ?_; · simp [q8, q13, e1, lload_one ag32, convK_bsl ty32 ty9 ty5, e2]; done) | fail)
    refine lrun_step (by decide) ?_; intro K hK; simp
    refine append_Own (P := Tryd.prog) (k := H3.length) (ats := #[29, 29]) (e := 9) (zv := .string ⟨#[]⟩) (by_ := 16) (news := [.s (BA p)]) (m := 1) (hown.ext2 (H2 := J ++ [LB.c [.s (BA p)] 9 true]) fun r lb _ h => by rw [List.getElem?_append_left (List.getElem?_eq_some_iff.1 h).1]; exact h) (by simp; omega) rfl rfl ty29 ty29 rfl nf9 (by omega) rfl (lsrc_own1 own_get rfl (by omega)) rfl rfl (by rw [hlen]; simp; omega) (by rw [hlen]; simp; omega) ?_
    intro v' J2 ho2 ht2 hl2
    refine hK _ _ ?_; clear hK K
    rw [List.take_append_of_le_length hlk, htk] at ht2
    repeat (first | refine LW.seq_ops ?_ | refine lrun_end ?_ | (refine lrun_step (by decide) ?_; intro K hK; simp [q13, w1]; refine hK _ _ ?_; clear hK K) | (refine lrun_stepG rfl (by decide) (by decide) ?_; intro K hK; simp [q13, w1]; refine hK _ _ ?_; clear hK K) | (refine lrun_stepN ?_; intro K hK; simp [q13, w1]; refine hK _ _ ?_; clear hK K) | refine LW.seq ?_ | refine LW.block ?_ | refine LW.ops ?_ | refine LW.skip ?_ | refine LW.ret ?_ | refine LW.exit ?_ | refine LW.label ?_ | refine thn_n ?_ | refine thn_r ?_ | refine thn_e ?_ | refine inb_n ?_ | refine inb_r ?_ | refine inb_x ?_ | refine inb_e (by decide) ?_ | (refine LW.ct ?_ ?_; · simp [q13, w1]; done) | (refine LW.cf ?_ ?_; · simp [q13, w1]; done) | fail)
    refine hZ2 _ _ ⟨ps.length - (i + 1), by omega, i + 1, by omega, rfl, by simp [q2], by simp [q8], by simp [q9], by simp [q10], by simp [q11], by simp, ht2, hl2, by rw [hs]; simpa using ho2⟩
  · obtain rfl : i = ps.length := by omega
    rw [List.take_length] at hown
    repeat (first | refine LW.seq_ops ?_ | refine lrun_end ?_ | (refine lrun_step (by decide) ?_; intro K hK; simp; refine hK _ _ ?_; clear hK K) | (refine lrun_stepG rfl (by decide) (by decide) ?_; intro K hK; simp; refine hK _ _ ?_; clear hK K) | (refine lrun_stepN ?_; intro K hK; simp; refine hK _ _ ?_; clear hK K) | refine LW.seq ?_ | refine LW.block ?_ | refine LW.ops ?_ | refine LW.skip ?_ | refine LW.ret ?_ | refine LW.exit ?_ | refine LW.label ?_ | refine thn_n ?_ | refine thn_r ?_ | refine thn_e ?_ | refine inb_n ?_ | refine inb_r ?_ | refine inb_x ?_ | refine inb_e (by decide) ?_ | (refine LW.ct ?_ ?_; · simp; done) | (refine LW.cf ?_ ?_; · simp; done) | fail)
    refine hZ2 _ _ ?_
    refine thn_e ?_
    refine inb_x ?_
    refine thn_n ?_
    obtain ⟨J2, r1, r2, r3, r4⟩ := hown.texts
    refine LW.retell1 12 r1 (v := ssl (ps.map BA)) r2 ?_
    have hpre : J2.take H3.length = H3 := take_of_get fun i hi => by
      rw [r4 i hi]
      have := congrArg (fun z => z[i]?) htk
      simp only [List.getElem?_take_of_lt hi] at this
      exact this
    clear r1 r2 r4 hown
    have x1 : (ow : Int).tmod 2000 = ((ow % 2000 : Nat) : Int) := by rw [Int.tmod_eq_emod_of_nonneg (by omega)]; omega
    have x2 : IntKind.u32.wrap ((ow : Int).tdiv 2000) = ((ow / 2000 : Nat) : Int) := by rw [Int.tdiv_eq_ediv_of_nonneg (by omega), wrap_u32 (by omega) (by omega)]; omega
    have x2' : IntKind.u32.wrap ((ow : Int) / 2000) = ((ow / 2000 : Nat) : Int) := by rw [wrap_u32 (by omega) (by omega)]; omega
    have x3 : ((ow / 2000 : Nat) : Int).tmod 2000 = ((ow / 2000 % 2000 : Nat) : Int) := by rw [Int.tmod_eq_emod_of_nonneg (by omega)]; omega
    have m1 : ow % 2000 < 2000 := Nat.mod_lt _ (by decide)
    have m2 : ow / 2000 % 2000 < 2000 := Nat.mod_lt _ (by decide)
    generalize ow / 2000 % 2000 = y at *
    generalize ow % 2000 = x at *
    generalize ow / 2000 = z at *
    have x4 : IntKind.i64.wrap (x : Int) = (x : Int) := wrap_i64 (by omega) (by omega)
    have x5 : IntKind.i64.wrap (y : Int) = (y : Int) := wrap_i64 (by omega) (by omega)
    have x6 : IntKind.i64.wrap ((x : Int) - 10) = (x : Int) - 10 := wrap_i64 (by omega) (by omega)
    have x7 : IntKind.i64.wrap ((y : Int) - 10) = (y : Int) - 10 := wrap_i64 (by omega) (by omega)
    obtain ⟨xx, hxx⟩ : ∃ xx : Int, (x : Int) - 10 = xx := ⟨_, rfl⟩
    obtain ⟨yy, hyy⟩ : ∃ yy : Int, (y : Int) - 10 = yy := ⟨_, rfl⟩
    rw [hxx] at x6
    rw [hyy] at x7
    repeat (first | refine LW.seq_ops ?_ | refine lrun_end ?_ | (refine lrun_step (by decide) ?_; intro K hK; simp [q2, x1, x2, x2', x3, convK_int ty23 ty3, x4, x5, hxx, hyy, x6, x7]; refine hK _ _ ?_; clear hK K) | (refine lrun_stepG rfl (by decide) (by decide) ?_; intro K hK; simp [q2, x1, x2, x2', x3, convK_int ty23 ty3, x4, x5, hxx, hyy, x6, x7]; refine hK _ _ ?_; clear hK K) | (refine lrun_stepN ?_; intro K hK; simp [q2, x1, x2, x2', x3, convK_int ty23 ty3, x4, x5, hxx, hyy, x6, x7]; refine hK _ _ ?_; clear hK K) | refine LW.seq ?_ | refine LW.block ?_ | refine LW.ops ?_ | refine LW.skip ?_ | refine LW.ret ?_ | refine LW.exit ?_ | refine LW.label ?_ | refine thn_n ?_ | refine thn_r ?_ | refine thn_e ?_ | refine inb_n ?_ | refine inb_r ?_ | refine inb_x ?_ | refine inb_e (by decide) ?_ | (refine LW.ct ?_ ?_; · simp [q2, x1, x2, x2', x3, convK_int ty23 ty3, x4, x5, hxx, hyy, x6, x7]; done) | (refine LW.cf ?_ ?_; · simp [q2, x1, x2, x2', x3, convK_int ty23 ty3, x4, x5, hxx, hyy, x6, x7]; done) | fail)
    refine lrun_step (by decide) ?_; intro K hK; simp
    refine callK.by (need_LC xx (by omega) _) ?_
    rintro v H4 ⟨rfl, rfl⟩
    refine hK _ _ ?_; clear hK K
    repeat (first | refine LW.seq_ops ?_ | refine lrun_end ?_ | (refine lrun_step (by decide) ?_; intro K hK; simp; refine hK _ _ ?_; clear hK K) | (refine lrun_stepG rfl (by decide) (by decide) ?_; intro K hK; simp; refine hK _ _ ?_; clear hK K) | (refine lrun_stepN ?_; intro K hK; simp; refine hK _ _ ?_; clear hK K) | refine LW.seq ?_ | refine LW.block ?_ | refine LW.ops ?_ | refine LW.skip ?_ | refine LW.ret ?_ | refine LW.exit ?_ | refine LW.label ?_ | refine thn_n ?_ | refine thn_r ?_ | refine thn_e ?_ | refine inb_n ?_ | refine inb_r ?_ | refine inb_x ?_ | refine inb_e (by decide) ?_ | (refine LW.ct ?_ ?_; · simp; done) | (refine LW.cf ?_ ?_; · simp; done) | fail)
    refine lrun_step (by decide) ?_; intro K hK; simp
    refine callK.by (rneed_LC xx (by omega) _) ?_
    rintro v H5 ⟨rfl, rfl⟩
    refine hK _ _ ?_; clear hK K
    repeat (first | refine LW.seq_ops ?_ | refine lrun_end ?_ | (refine lrun_step (by decide) ?_; intro K hK; simp [q10]; refine hK _ _ ?_; clear hK K) | (refine lrun_stepG rfl (by decide) (by decide) ?_; intro K hK; simp [q10]; refine hK _ _ ?_; clear hK K) | (refine lrun_stepN ?_; intro K hK; simp [q10]; refine hK _ _ ?_; clear hK K) | refine LW.seq ?_ | refine LW.block ?_ | refine LW.ops ?_ | refine LW.skip ?_ | refine LW.ret ?_ | refine LW.exit ?_ | refine LW.label ?_ | refine thn_n ?_ | refine thn_r ?_ | refine thn_e ?_ | refine inb_n ?_ | refine inb_r ?_ | refine inb_x ?_ | refine inb_e (by decide) ?_ | (refine LW.ct ?_ ?_; · simp [q10]; done) | (refine LW.cf ?_ ?_; · simp [q10]; done) | fail)
    refine lrun_stepG rfl (by decide) (by decide) ?_; intro K hK; simp
    refine callK.by (same_LC (ps.map BA) (ps.map BA) (by simp; omega) _) ?_
    rintro v H6 ⟨rfl, rfl⟩
    refine hK _ _ ?_; clear hK K
    repeat (first | refine LW.seq_ops ?_ | refine lrun_end ?_ | (refine lrun_step (by decide) ?_; intro K hK; simp [q9, q11]; refine hK _ _ ?_; clear hK K) | (refine lrun_stepG rfl (by decide) (by decide) ?_; intro K hK; simp [q9, q11]; refine hK _ _ ?_; clear hK K) | (refine lrun_stepN ?_; intro K hK; simp [q9, q11]; refine hK _ _ ?_; clear hK K) | refine LW.seq ?_ | refine LW.block ?_ | refine LW.ops ?_ | refine LW.skip ?_ | refine LW.ret ?_ | refine LW.exit ?_ | refine LW.label ?_ | refine thn_n ?_ | refine thn_r ?_ | refine thn_e ?_ | refine inb_n ?_ | refine inb_r ?_ | refine inb_x ?_ | refine inb_e (by decide) ?_ | (refine LW.ct ?_ ?_; · simp [q9, q11]; done) | (refine LW.cf ?_ ?_; · simp [q9, q11]; done) | fail)
    refine lrun_stepG rfl (by decide) (by decide) ?_; intro K hK; simp
    refine callK.by (own_LC xx yy (by omega) (by omega) _) ?_
    rintro v H7 ⟨⟨k1, rfl, hk1⟩, rfl⟩
    refine hK _ _ ?_; clear hK K
    repeat (first | refine LW.seq_ops ?_ | refine lrun_end ?_ | (refine lrun_step (by decide) ?_; intro K hK; simp; refine hK _ _ ?_; clear hK K) | (refine lrun_stepG rfl (by decide) (by decide) ?_; intro K hK; simp; refine hK _ _ ?_; clear hK K) | (refine lrun_stepN ?_; intro K hK; simp; refine hK _ _ ?_; clear hK K) | refine LW.seq ?_ | refine LW.block ?_ | refine LW.ops ?_ | refine LW.skip ?_ | refine LW.ret ?_ | refine LW.exit ?_ | refine LW.label ?_ | refine thn_n ?_ | refine thn_r ?_ | refine thn_e ?_ | refine inb_n ?_ | refine inb_r ?_ | refine inb_x ?_ | refine inb_e (by decide) ?_ | (refine LW.ct ?_ ?_; · simp; done) | (refine LW.cf ?_ ?_; · simp; done) | fail)
    refine lrun_stepG rfl (by decide) (by decide) ?_; intro K hK; simp
    refine callK.by (rown_LC xx yy (by omega) (by omega) _) ?_
    rintro v H8 ⟨⟨k2, rfl, hk2⟩, rfl⟩
    obtain rfl := hk1.unique hk2
    refine hK _ _ ?_; clear hK K
    repeat (first | refine LW.seq_ops ?_ | refine lrun_end ?_ | (refine lrun_step (by decide) ?_; intro K hK; simp; refine hK _ _ ?_; clear hK K) | (refine lrun_stepG rfl (by decide) (by decide) ?_; intro K hK; simp; refine hK _ _ ?_; clear hK K) | (refine lrun_stepN ?_; intro K hK; simp; refine hK _ _ ?_; clear hK K) | refine LW.seq ?_ | refine LW.block ?_ | refine LW.ops ?_ | refine LW.skip ?_ | refine LW.ret ?_ | refine LW.exit ?_ | refine LW.label ?_ | refine thn_n ?_ | refine thn_r ?_ | refine thn_e ?_ | refine inb_n ?_ | refine inb_r ?_ | refine inb_x ?_ | refine inb_e (by decide) ?_ | (refine LW.ct ?_ ?_; · simp; done) | (refine LW.cf ?_ ?_; · simp; done) | fail)
    have hJ : H8 = H3 ++ H8.drop H3.length := by conv => lhs; rw [← List.take_append_drop H3.length H8, hpre]
    refine hZ _ _ ⟨.inr rfl, .b true, by simp [lres, lres1, Tryd.f3], ?_⟩
    dsimp only
    rw [hJ]
    exact leave_drop (.b _) ⟨rfl, rfl⟩
end Go.Lw
