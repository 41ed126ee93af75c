/- jalousieref11.Put -/
import Derived.Test.YtopmghfjdpdncaaDoorF5
import Derived.Test.YtopmghfjdpdncaaDoorF20
import Derived.Test.YtopmghfjdpdncaaDoorF23
set_option linter.unusedSimpArgs false
set_option linter.unusedVariables false
namespace Go.Lw
open Go Go.Proofs Go.RowKit
variable {G : List (Nat × List V)}
attribute [local irreducible] LW callK LC lany lrun ldo oK oK2 oKH gK yieldK LY

theorem lslice_isl0 {P : Program} {t e : TypeId} {k : IntKind} {l : List Int} {b : Nat} (hu : P.underlying t = some (.slice e)) (hz : tsz P e = some 1) (hb : b ≤ l.length) : lslice P t (isl l) none (some (.i k (b : Int))) none = some (isl (l.take b)) := by
  simp [lslice, isl, hu, hz, lbnds, nb, hb, List.map_take]

/-- Is the next place good? -/
def NextOk (a : List Int) (i : Nat) : Prop := ∀ h : i < a.length, 2 ≤ a[i] ∧ a[i] ≤ 999

theorem wrap_u64_any (n : Int) : ∃ x : Nat, x < 18446744073709551616 ∧ IntKind.u64.wrap n = (x : Int) ∧ (0 ≤ n → n ≤ 999 → x = n.toNat) := by
  refine ⟨(n % 18446744073709551616).toNat, by omega, ?_, fun h1 h2 => by omega⟩
  simp only [IntKind.wrap, IntKind.bits, IntKind.signed]
  simp
  omega

set_option maxHeartbeats 2000000 in
theorem rput_LC (l a : List Int) (hl : l.length ≤ 400) (ha : a.length ≤ 20) (H : List LB) :
    LC Tryd.prog G 6 [isl l, isl a] H fun v H' => v = (if Puts l a then .t [ssl ((pagesOf l a a.length).map BA), .i .i64 0] else .t [ssl [], .i .i64 1]) ∧ H' = H := by
  refine LC.of_walk Tryd.f6 109 (by kernel_rfl) (by kernel_rfl) rfl rfl fun Z hZ => ?_
  have fail : ¬ Puts l a → ∀ (t : Nat → V) (J : List LB), t 4 = .nsl → t 5 = .i .i64 1 → Z .ret ⟨t, H ++ J⟩ := fun h t J h4 h5 =>
    hZ _ _ ⟨.inr rfl, .t [.nsl, .i .i64 1], by simp [lres, lres1, Tryd.f6, h4, h5], put_fail ⟨J, rfl⟩ ⟨by rw [if_neg h]; rfl, rfl⟩⟩
  have fail0 : ¬ Puts l a → ∀ t : Nat → V, t 4 = .nsl → t 5 = .i .i64 1 → Z .ret ⟨t, H⟩ := fun h t h4 h5 => by
    have := fail h t [] h4 h5
    simpa using this
  repeat (first | refine LW.seq_ops ?_ | refine lrun_end ?_ | (refine lrun_step (by decide) ?_; intro K hK; simp; refine hK _ _ ?_; clear hK K) | (refine lrun_stepG rfl (by decide) (by decide) ?_; intro K hK; simp; refine hK _ _ ?_; clear hK K) | (refine lrun_stepN ?_; intro K hK; simp; refine hK _ _ ?_; clear hK K) | refine LW.seq ?_ | refine LW.block ?_ | refine LW.ops ?_ | refine LW.skip ?_ | refine LW.ret ?_ | refine LW.exit ?_ | refine LW.label ?_ | refine thn_n ?_ | refine thn_r ?_ | refine thn_e ?_ | refine inb_n ?_ | refine inb_r ?_ | refine inb_x ?_ | refine inb_e (by decide) ?_ | (refine LW.ct ?_ ?_; · simp; done) | (refine LW.cf ?_ ?_; · simp; done) | fail)
  refine lrun_step (by decide) ?_; intro K hK; simp
  refine callK.by (listed_LC l (by omega) _) ?_
  rintro v H' ⟨rfl, rfl⟩
  refine hK _ _ ?_; clear hK K
  by_cases hr : Rising l
  rotate_left
  · repeat (first | refine LW.seq_ops ?_ | refine lrun_end ?_ | (refine lrun_step (by decide) ?_; intro K hK; simp [hr]; refine hK _ _ ?_; clear hK K) | (refine lrun_stepG rfl (by decide) (by decide) ?_; intro K hK; simp [hr]; refine hK _ _ ?_; clear hK K) | (refine lrun_stepN ?_; intro K hK; simp [hr]; refine hK _ _ ?_; clear hK K) | refine LW.seq ?_ | refine LW.block ?_ | refine LW.ops ?_ | refine LW.skip ?_ | refine LW.ret ?_ | refine LW.exit ?_ | refine LW.label ?_ | refine thn_n ?_ | refine thn_r ?_ | refine thn_e ?_ | refine inb_n ?_ | refine inb_r ?_ | refine inb_x ?_ | refine inb_e (by decide) ?_ | (refine LW.ct ?_ ?_; · simp [hr]; done) | (refine LW.cf ?_ ?_; · simp [hr]; done) | fail)
    exact fail0 (fun h => hr h.1) _ (by simp) (by simp)
  repeat (first | refine LW.seq_ops ?_ | refine lrun_end ?_ | (refine lrun_step (by decide) ?_; intro K hK; simp [hr, llen_isl ty22]; refine hK _ _ ?_; clear hK K) | (refine lrun_stepG rfl (by decide) (by decide) ?_; intro K hK; simp [hr, llen_isl ty22]; refine hK _ _ ?_; clear hK K) | (refine lrun_stepN ?_; intro K hK; simp [hr, llen_isl ty22]; refine hK _ _ ?_; clear hK K) | refine LW.seq ?_ | refine LW.block ?_ | refine LW.ops ?_ | refine LW.skip ?_ | refine LW.ret ?_ | refine LW.exit ?_ | refine LW.label ?_ | refine thn_n ?_ | refine thn_r ?_ | refine thn_e ?_ | refine inb_n ?_ | refine inb_r ?_ | refine inb_x ?_ | refine inb_e (by decide) ?_ | (refine LW.ct ?_ ?_; · simp [hr, llen_isl ty22]; done) | (refine LW.cf ?_ ?_; · simp [hr, llen_isl ty22]; done) | fail)
  refine lrun_stepG rfl (by decide) (by decide) ?_; intro K hK; simp
  refine callK.by (rneed_LC l.length (by omega) _) ?_
  rintro v H' ⟨rfl, rfl⟩
  refine hK _ _ ?_; clear hK K
  by_cases hn : need l.length ≤ a.length
  rotate_left
  · have hn2 : (a.length : Int) < need l.length := by omega
    repeat (first | refine LW.seq_ops ?_ | refine lrun_end ?_ | (refine lrun_step (by decide) ?_; intro K hK; simp [hn2]; refine hK _ _ ?_; clear hK K) | (refine lrun_stepG rfl (by decide) (by decide) ?_; intro K hK; simp [hn2]; refine hK _ _ ?_; clear hK K) | (refine lrun_stepN ?_; intro K hK; simp [hn2]; refine hK _ _ ?_; clear hK K) | refine LW.seq ?_ | refine LW.block ?_ | refine LW.ops ?_ | refine LW.skip ?_ | refine LW.ret ?_ | refine LW.exit ?_ | refine LW.label ?_ | refine thn_n ?_ | refine thn_r ?_ | refine thn_e ?_ | refine inb_n ?_ | refine inb_r ?_ | refine inb_x ?_ | refine inb_e (by decide) ?_ | (refine LW.ct ?_ ?_; · simp [hn2]; done) | (refine LW.cf ?_ ?_; · simp [hn2]; done) | fail)
    exact fail0 (fun h => hn h.2.1) _ (by simp) (by simp)
  have hn2 : ¬ (a.length : Int) < need l.length := by omega
  repeat (first | refine LW.seq_ops ?_ | refine lrun_end ?_ | (refine lrun_step (by decide) ?_; intro K hK; simp [hn2]; refine hK _ _ ?_; clear hK K) | (refine lrun_stepG rfl (by decide) (by decide) ?_; intro K hK; simp [hn2]; refine hK _ _ ?_; clear hK K) | (refine lrun_stepN ?_; intro K hK; simp [hn2]; refine hK _ _ ?_; clear hK K) | refine LW.seq ?_ | refine LW.block ?_ | refine LW.ops ?_ | refine LW.skip ?_ | refine LW.ret ?_ | refine LW.exit ?_ | refine LW.label ?_ | refine thn_n ?_ | refine thn_r ?_ | refine thn_e ?_ | refine inb_n ?_ | refine inb_r ?_ | refine inb_x ?_ | refine inb_e (by decide) ?_ | (refine LW.ct ?_ ?_; · simp [hn2]; done) | (refine LW.cf ?_ ?_; · simp [hn2]; done) | fail)
  refine LW.loopN (fun m s => ∃ (i : Nat) (J : List LB), i ≤ a.length ∧ m = a.length - i ∧ s.t 0 = isl l ∧ s.t 1 = isl a ∧ s.t 8 = .i .i64 i ∧ s.H = H' ++ J ∧ (∃ ps : List (List UInt8), ps.length = i ∧ Own H'.length s.H (s.t 7) 1 9 (ps.map fun p => V.s (BA p)) ∧ (NextOk a i → ps = pagesOf l a i)) ∧
      ∀ j, (h : j < a.length) → j < i → (2 ≤ a[j] ∧ a[j] ≤ 999) ∧ a[j] ∉ a.take j ∧ a[j] ∉ l) (m := a.length)
    ⟨0, [], by omega, by omega, by simp, by simp, by simp, by simp, ⟨[], rfl, .inl ⟨by simp, rfl⟩, fun _ => rfl⟩, fun j h hj => by omega⟩ ?_
  rintro m ⟨t, H2⟩ ⟨i, J, hi, rfl, h0, h1, h8, hJ, ⟨ps, hpl0, hown, hps⟩, hall⟩
  dsimp only at h0 h1 h8 hi hJ hown
  refine LW.toK fun Z2 hZ2 => ?_
  repeat (first | refine LW.seq_ops ?_ | refine lrun_end ?_ | (refine lrun_step (by decide) ?_; intro K hK; simp [h1, h8, llen_isl ty22]; refine hK _ _ ?_; clear hK K) | (refine lrun_stepG rfl (by decide) (by decide) ?_; intro K hK; simp [h1, h8, llen_isl ty22]; refine hK _ _ ?_; clear hK K) | (refine lrun_stepN ?_; intro K hK; simp [h1, h8, llen_isl ty22]; refine hK _ _ ?_; clear hK K) | refine LW.seq ?_ | refine LW.block ?_ | refine LW.ops ?_ | refine LW.skip ?_ | refine LW.ret ?_ | refine LW.exit ?_ | refine LW.label ?_ | refine thn_n ?_ | refine thn_r ?_ | refine thn_e ?_ | refine inb_n ?_ | refine inb_r ?_ | refine inb_x ?_ | refine inb_e (by decide) ?_ | (refine LW.ct ?_ ?_; · simp [h1, h8, llen_isl ty22]; done) | (refine LW.cf ?_ ?_; · simp [h1, h8, llen_isl ty22]; done) | fail)
  refine LW.dec (p := i < a.length) (by simp) (fun h2 => ?_) (fun h2 => ?_)
  rotate_left
  · obtain rfl : i = a.length := by omega
    obtain rfl := hps (fun h => by omega)
    have hP : Puts l a := ⟨hr, hn, fun j h => hall j h h⟩
    repeat (first | refine LW.seq_ops ?_ | refine lrun_end ?_ | (refine lrun_step (by decide) ?_; intro K hK; simp; refine hK _ _ ?_; clear hK K) | (refine lrun_stepG rfl (by decide) (by decide) ?_; intro K hK; simp; refine hK _ _ ?_; clear hK K) | (refine lrun_stepN ?_; intro K hK; simp; refine hK _ _ ?_; clear hK K) | refine LW.seq ?_ | refine LW.block ?_ | refine LW.ops ?_ | refine LW.skip ?_ | refine LW.ret ?_ | refine LW.exit ?_ | refine LW.label ?_ | refine thn_n ?_ | refine thn_r ?_ | refine thn_e ?_ | refine inb_n ?_ | refine inb_r ?_ | refine inb_x ?_ | refine inb_e (by decide) ?_ | (refine LW.ct ?_ ?_; · simp; done) | (refine LW.cf ?_ ?_; · simp; done) | fail)
    refine hZ2 _ _ ?_
    repeat (first | refine LW.seq_ops ?_ | refine lrun_end ?_ | (refine lrun_step (by decide) ?_; intro K hK; simp; refine hK _ _ ?_; clear hK K) | (refine lrun_stepG rfl (by decide) (by decide) ?_; intro K hK; simp; refine hK _ _ ?_; clear hK K) | (refine lrun_stepN ?_; intro K hK; simp; refine hK _ _ ?_; clear hK K) | refine LW.seq ?_ | refine LW.block ?_ | refine LW.ops ?_ | refine LW.skip ?_ | refine LW.ret ?_ | refine LW.exit ?_ | refine LW.label ?_ | refine thn_n ?_ | refine thn_r ?_ | refine thn_e ?_ | refine inb_n ?_ | refine inb_r ?_ | refine inb_x ?_ | refine inb_e (by decide) ?_ | (refine LW.ct ?_ ?_; · simp; done) | (refine LW.cf ?_ ?_; · simp; done) | fail)
    subst hJ
    refine hZ _ _ ⟨.inr rfl, .t [t 7, .i .i64 0], by simp [lres, lres1, Tryd.f6], leave_pur (v' := .t [ssl ((pagesOf l a a.length).map BA), .i .i64 0]) (.t rfl fun q x y e1 e2 => ?_) ⟨by rw [if_pos hP], rfl⟩⟩
    match q with
    | 0 =>
      simp at e1 e2
      subst e1 e2
      have hp := hown.pur fun x hx => by
        obtain ⟨p, _, rfl⟩ := List.mem_map.1 hx
        exact ⟨.s _, rfl⟩
      simpa [ssl, Function.comp_def] using hp
    | 1 => simp at e1 e2; subst e1 e2; exact .lt (.i _ _)
    | q + 2 => simp at e1
  · have e3 := liaddr_isl (P := Tryd.prog) (k := .i64) (l := a) (i := i) (t := 22) (e := 3) ty22 sz3 h2
    have e5 := lslice_isl0 (P := Tryd.prog) (k := .i64) (l := a) (t := 22) (e := 3) (b := i) ty22 sz3 (by omega)
    have bad : ¬ ((2 ≤ a[i] ∧ a[i] ≤ 999) ∧ a[i] ∉ a.take i ∧ a[i] ∉ l) → ¬ Puts l a := fun h hP => h (hP.2.2 i h2)
    have good : ((2 ≤ a[i] ∧ a[i] ≤ 999) ∧ a[i] ∉ a.take i ∧ a[i] ∉ l) → ∀ j, (h : j < a.length) → j < i + 1 → (2 ≤ a[j] ∧ a[j] ≤ 999) ∧ a[j] ∉ a.take j ∧ a[j] ∉ l := fun h j hj hji => by
      rcases Nat.lt_or_ge j i with hlt | hge
      · exact hall j hj hlt
      · obtain rfl : j = i := by omega
        exact h
    generalize hw : a[i] = w at *
    have hlt : (a.take i).length < 4611686018427387904 := by simp; omega
    by_cases p1 : w < 2
    · have hr := bad (fun h => by omega)
      repeat (first | refine LW.seq_ops ?_ | refine lrun_end ?_ | (refine lrun_step (by decide) ?_; intro K hK; simp; refine hK _ _ ?_; clear hK K) | (refine lrun_stepG rfl (by decide) (by decide) ?_; intro K hK; simp; refine hK _ _ ?_; clear hK K) | (refine lrun_stepN ?_; intro K hK; simp; refine hK _ _ ?_; clear hK K) | refine LW.seq ?_ | refine LW.block ?_ | refine LW.ops ?_ | refine LW.skip ?_ | refine LW.ret ?_ | refine LW.exit ?_ | refine LW.label ?_ | refine thn_n ?_ | refine thn_r ?_ | refine thn_e ?_ | refine inb_n ?_ | refine inb_r ?_ | refine inb_x ?_ | refine inb_e (by decide) ?_ | (refine LW.ct ?_ ?_; · simp; done) | (refine LW.cf ?_ ?_; · simp; done) | fail)
      first | refine LW.seq_draw (by kernel_rfl) ?_ | refine LW.draw (by kernel_rfl) ?_
      refine lany_qK 0 rfl (by kernel_rfl) rfl rfl (by decide) ?_; intro K hK; simp [h0, h1, h8, e3, rdv, p1]; refine hK _ ?_; clear hK K
      refine lany_qK 1 rfl (by kernel_rfl) rfl rfl (by decide) ?_; intro K hK; simp [h0, h1, h8, e3, rdv, p1]; refine hK _ ?_; clear hK K
      refine lany_qK 2 rfl (by kernel_rfl) rfl rfl (by decide) ?_; intro K hK; simp [h0, h1, h8, e3, rdv, p1]; refine hK _ ?_; clear hK K
      refine lany_qK 3 rfl (by kernel_rfl) rfl rfl (by decide) ?_; intro K hK; simp [h0, h1, h8, e3, rdv, p1]; refine hK _ ?_; clear hK K
      refine lany_qK 4 rfl (by kernel_rfl) rfl rfl (by decide) ?_; intro K hK; simp [h0, h1, h8, e3, rdv, p1]; refine hK _ ?_; clear hK K
      refine lany_qK 5 rfl (by kernel_rfl) rfl rfl (by decide) ?_; intro K hK; simp [h0, h1, h8, e3, rdv, p1]; refine hK _ ?_; clear hK K
      refine lany_gK 6 rfl (by kernel_rfl) rfl rfl (by decide) rfl (by decide) ?_; intro K hK; simp [h0, h1, h8, e3, rdv, p1]; refine hK _ ?_; clear hK K
      refine lany_gK 7 rfl (by kernel_rfl) rfl rfl (by decide) rfl (by decide) ?_; intro K hK; simp [h0, h1, h8, e3, rdv, p1]; refine hK _ ?_; clear hK K
      refine lany_gK 8 rfl (by kernel_rfl) rfl rfl (by decide) rfl (by decide) ?_; intro K hK; simp [h0, h1, h8, e3, rdv, p1]; refine hK _ ?_; clear hK K
      refine lany_gK 9 rfl (by kernel_rfl) rfl rfl (by decide) rfl (by decide) ?_; intro K hK; simp [h0, h1, h8, e3, rdv, p1]; refine hK _ ?_; clear hK K
      refine lany_gK 10 rfl (by kernel_rfl) rfl rfl (by decide) rfl (by decide) ?_; intro K hK; simp [h0, h1, h8, e3, rdv, p1]; refine hK _ ?_; clear hK K
      refine lany_qK 11 rfl (by kernel_rfl) rfl rfl (by decide) ?_; intro K hK; simp [h0, h1, h8, e3, rdv, p1]; refine hK _ ?_; clear hK K
      refine lany_qK 12 rfl (by kernel_rfl) rfl rfl (by decide) ?_; intro K hK; simp [h0, h1, h8, e3, rdv, p1]; refine hK _ ?_; clear hK K
      refine lany_gK 13 rfl (by kernel_rfl) rfl rfl (by decide) rfl (by decide) ?_; intro K hK; simp [h0, h1, h8, e3, rdv, p1]; refine hK _ ?_; clear hK K
      refine lany_gK 14 rfl (by kernel_rfl) rfl rfl (by decide) rfl (by decide) ?_; intro K hK; simp [h0, h1, h8, e3, rdv, p1]; refine hK _ ?_; clear hK K
      refine lany_gK 15 rfl (by kernel_rfl) rfl rfl (by decide) rfl (by decide) ?_; intro K hK; simp [h0, h1, h8, e3, rdv, p1]; refine hK _ ?_; clear hK K
      refine lany_gK 16 rfl (by kernel_rfl) rfl rfl (by decide) rfl (by decide) ?_; intro K hK; simp [h0, h1, h8, e3, rdv, p1]; refine hK _ ?_; clear hK K
      refine lany_gK 17 rfl (by kernel_rfl) rfl rfl (by decide) rfl (by decide) ?_; intro K hK; simp [h0, h1, h8, e3, rdv, p1]; refine hK _ ?_; clear hK K
      refine lany_gK 18 rfl (by kernel_rfl) rfl rfl (by decide) rfl (by decide) ?_; intro K hK; simp [h0, h1, h8, e3, rdv, p1]; refine hK _ ?_; clear hK K
      refine lany_gK 19 rfl (by kernel_rfl) rfl rfl (by decide) rfl (by decide) ?_; intro K hK; simp [h0, h1, h8, e3, rdv, p1]; refine hK _ ?_; clear hK K
      refine lany_ogK 20 (by kernel_rfl) rfl rfl rfl (by decide) rfl (by decide) ?_; intro K hK; simp [h0, h1, h8, e3, rdv, p1]; refine hK _ _ ?_; clear hK K
      refine lany_qK 21 rfl (by kernel_rfl) rfl rfl (by decide) ?_; intro K hK; simp [h0, h1, h8, e3, rdv, p1]; refine hK _ ?_; clear hK K
      refine lany_qK 22 rfl (by kernel_rfl) rfl rfl (by decide) ?_; intro K hK; simp [h0, h1, h8, e3, rdv, p1]; refine hK _ ?_; clear hK K
      refine lany_gK 23 rfl (by kernel_rfl) rfl rfl (by decide) rfl (by decide) ?_; intro K hK; simp [h0, h1, h8, e3, rdv, p1]; refine hK _ ?_; clear hK K
      refine lany_gK 24 rfl (by kernel_rfl) rfl rfl (by decide) rfl (by decide) ?_; intro K hK; simp [h0, h1, h8, e3, rdv, p1]; refine hK _ ?_; clear hK K
      refine lany_gK 25 rfl (by kernel_rfl) rfl rfl (by decide) rfl (by decide) ?_; intro K hK; simp [h0, h1, h8, e3, rdv, p1]; refine hK _ ?_; clear hK K
      refine lany_gK 26 rfl (by kernel_rfl) rfl rfl (by decide) rfl (by decide) ?_; intro K hK; simp [h0, h1, h8, e3, rdv, p1]; refine hK _ ?_; clear hK K
      refine lany_gK 27 rfl (by kernel_rfl) rfl rfl (by decide) rfl (by decide) ?_; intro K hK; simp [h0, h1, h8, e3, rdv, p1]; refine hK _ ?_; clear hK K
      refine lany_ogK 28 (by kernel_rfl) rfl rfl rfl (by decide) rfl (by decide) ?_; intro K hK; simp [h0, h1, h8, e3, rdv, p1]; refine hK _ _ ?_; clear hK K
      refine lany_qK 29 rfl (by kernel_rfl) rfl rfl (by decide) ?_; intro K hK; simp [h0, h1, h8, e3, rdv, p1]; refine hK _ ?_; clear hK K
      refine lany_done (by kernel_rfl) ?_ _
      repeat (first | refine LW.seq_ops ?_ | refine lrun_end ?_ | (refine lrun_step (by decide) ?_; intro K hK; simp; refine hK _ _ ?_; clear hK K) | (refine lrun_stepG rfl (by decide) (by decide) ?_; intro K hK; simp; refine hK _ _ ?_; clear hK K) | (refine lrun_stepN ?_; intro K hK; simp; refine hK _ _ ?_; clear hK K) | refine LW.seq ?_ | refine LW.block ?_ | refine LW.ops ?_ | refine LW.skip ?_ | refine LW.ret ?_ | refine LW.exit ?_ | refine LW.label ?_ | refine thn_n ?_ | refine thn_r ?_ | refine thn_e ?_ | refine inb_n ?_ | refine inb_r ?_ | refine inb_x ?_ | refine inb_e (by decide) ?_ | (refine LW.ct ?_ ?_; · simp; done) | (refine LW.cf ?_ ?_; · simp; done) | fail)
      subst hJ
      exact hZ2 _ _ (fail hr _ _ (by simp) (by simp))
    by_cases p2 : 999 < w
    · have hr := bad (fun h => by omega)
      repeat (first | refine LW.seq_ops ?_ | refine lrun_end ?_ | (refine lrun_step (by decide) ?_; intro K hK; simp; refine hK _ _ ?_; clear hK K) | (refine lrun_stepG rfl (by decide) (by decide) ?_; intro K hK; simp; refine hK _ _ ?_; clear hK K) | (refine lrun_stepN ?_; intro K hK; simp; refine hK _ _ ?_; clear hK K) | refine LW.seq ?_ | refine LW.block ?_ | refine LW.ops ?_ | refine LW.skip ?_ | refine LW.ret ?_ | refine LW.exit ?_ | refine LW.label ?_ | refine thn_n ?_ | refine thn_r ?_ | refine thn_e ?_ | refine inb_n ?_ | refine inb_r ?_ | refine inb_x ?_ | refine inb_e (by decide) ?_ | (refine LW.ct ?_ ?_; · simp; done) | (refine LW.cf ?_ ?_; · simp; done) | fail)
      first | refine LW.seq_draw (by kernel_rfl) ?_ | refine LW.draw (by kernel_rfl) ?_
      refine lany_qK 0 rfl (by kernel_rfl) rfl rfl (by decide) ?_; intro K hK; simp [h0, h1, h8, e3, rdv, p1, p2]; refine hK _ ?_; clear hK K
      refine lany_qK 1 rfl (by kernel_rfl) rfl rfl (by decide) ?_; intro K hK; simp [h0, h1, h8, e3, rdv, p1, p2]; refine hK _ ?_; clear hK K
      refine lany_qK 2 rfl (by kernel_rfl) rfl rfl (by decide) ?_; intro K hK; simp [h0, h1, h8, e3, rdv, p1, p2]; refine hK _ ?_; clear hK K
      refine lany_qK 3 rfl (by kernel_rfl) rfl rfl (by decide) ?_; intro K hK; simp [h0, h1, h8, e3, rdv, p1, p2]; refine hK _ ?_; clear hK K
      refine lany_qK 4 rfl (by kernel_rfl) rfl rfl (by decide) ?_; intro K hK; simp [h0, h1, h8, e3, rdv, p1, p2]; refine hK _ ?_; clear hK K
      refine lany_qK 5 rfl (by kernel_rfl) rfl rfl (by decide) ?_; intro K hK; simp [h0, h1, h8, e3, rdv, p1, p2]; refine hK _ ?_; clear hK K
      refine lany_gK 6 rfl (by kernel_rfl) rfl rfl (by decide) rfl (by decide) ?_; intro K hK; simp [h0, h1, h8, e3, rdv, p1, p2]; refine hK _ ?_; clear hK K
      refine lany_gK 7 rfl (by kernel_rfl) rfl rfl (by decide) rfl (by decide) ?_; intro K hK; simp [h0, h1, h8, e3, rdv, p1, p2]; refine hK _ ?_; clear hK K
      refine lany_gK 8 rfl (by kernel_rfl) rfl rfl (by decide) rfl (by decide) ?_; intro K hK; simp [h0, h1, h8, e3, rdv, p1, p2]; refine hK _ ?_; clear hK K
      refine lany_gK 9 rfl (by kernel_rfl) rfl rfl (by decide) rfl (by decide) ?_; intro K hK; simp [h0, h1, h8, e3, rdv, p1, p2]; refine hK _ ?_; clear hK K
      refine lany_gK 10 rfl (by kernel_rfl) rfl rfl (by decide) rfl (by decide) ?_; intro K hK; simp [h0, h1, h8, e3, rdv, p1, p2]; refine hK _ ?_; clear hK K
      refine lany_qK 11 rfl (by kernel_rfl) rfl rfl (by decide) ?_; intro K hK; simp [h0, h1, h8, e3, rdv, p1, p2]; refine hK _ ?_; clear hK K
      refine lany_qK 12 rfl (by kernel_rfl) rfl rfl (by decide) ?_; intro K hK; simp [h0, h1, h8, e3, rdv, p1, p2]; refine hK _ ?_; clear hK K
      refine lany_gK 13 rfl (by kernel_rfl) rfl rfl (by decide) rfl (by decide) ?_; intro K hK; simp [h0, h1, h8, e3, rdv, p1, p2]; refine hK _ ?_; clear hK K
      refine lany_gK 14 rfl (by kernel_rfl) rfl rfl (by decide) rfl (by decide) ?_; intro K hK; simp [h0, h1, h8, e3, rdv, p1, p2]; refine hK _ ?_; clear hK K
      refine lany_gK 15 rfl (by kernel_rfl) rfl rfl (by decide) rfl (by decide) ?_; intro K hK; simp [h0, h1, h8, e3, rdv, p1, p2]; refine hK _ ?_; clear hK K
      refine lany_gK 16 rfl (by kernel_rfl) rfl rfl (by decide) rfl (by decide) ?_; intro K hK; simp [h0, h1, h8, e3, rdv, p1, p2]; refine hK _ ?_; clear hK K
      refine lany_gK 17 rfl (by kernel_rfl) rfl rfl (by decide) rfl (by decide) ?_; intro K hK; simp [h0, h1, h8, e3, rdv, p1, p2]; refine hK _ ?_; clear hK K
      refine lany_gK 18 rfl (by kernel_rfl) rfl rfl (by decide) rfl (by decide) ?_; intro K hK; simp [h0, h1, h8, e3, rdv, p1, p2]; refine hK _ ?_; clear hK K
      refine lany_gK 19 rfl (by kernel_rfl) rfl rfl (by decide) rfl (by decide) ?_; intro K hK; simp [h0, h1, h8, e3, rdv, p1, p2]; refine hK _ ?_; clear hK K
      refine lany_ogK 20 (by kernel_rfl) rfl rfl rfl (by decide) rfl (by decide) ?_; intro K hK; simp [h0, h1, h8, e3, rdv, p1, p2]; refine hK _ _ ?_; clear hK K
      refine lany_qK 21 rfl (by kernel_rfl) rfl rfl (by decide) ?_; intro K hK; simp [h0, h1, h8, e3, rdv, p1, p2]; refine hK _ ?_; clear hK K
      refine lany_qK 22 rfl (by kernel_rfl) rfl rfl (by decide) ?_; intro K hK; simp [h0, h1, h8, e3, rdv, p1, p2]; refine hK _ ?_; clear hK K
      refine lany_gK 23 rfl (by kernel_rfl) rfl rfl (by decide) rfl (by decide) ?_; intro K hK; simp [h0, h1, h8, e3, rdv, p1, p2]; refine hK _ ?_; clear hK K
      refine lany_gK 24 rfl (by kernel_rfl) rfl rfl (by decide) rfl (by decide) ?_; intro K hK; simp [h0, h1, h8, e3, rdv, p1, p2]; refine hK _ ?_; clear hK K
      refine lany_gK 25 rfl (by kernel_rfl) rfl rfl (by decide) rfl (by decide) ?_; intro K hK; simp [h0, h1, h8, e3, rdv, p1, p2]; refine hK _ ?_; clear hK K
      refine lany_gK 26 rfl (by kernel_rfl) rfl rfl (by decide) rfl (by decide) ?_; intro K hK; simp [h0, h1, h8, e3, rdv, p1, p2]; refine hK _ ?_; clear hK K
      refine lany_gK 27 rfl (by kernel_rfl) rfl rfl (by decide) rfl (by decide) ?_; intro K hK; simp [h0, h1, h8, e3, rdv, p1, p2]; refine hK _ ?_; clear hK K
      refine lany_ogK 28 (by kernel_rfl) rfl rfl rfl (by decide) rfl (by decide) ?_; intro K hK; simp [h0, h1, h8, e3, rdv, p1, p2]; refine hK _ _ ?_; clear hK K
      refine lany_qK 29 rfl (by kernel_rfl) rfl rfl (by decide) ?_; intro K hK; simp [h0, h1, h8, e3, rdv, p1, p2]; refine hK _ ?_; clear hK K
      refine lany_done (by kernel_rfl) ?_ _
      repeat (first | refine LW.seq_ops ?_ | refine lrun_end ?_ | (refine lrun_step (by decide) ?_; intro K hK; simp; refine hK _ _ ?_; clear hK K) | (refine lrun_stepG rfl (by decide) (by decide) ?_; intro K hK; simp; refine hK _ _ ?_; clear hK K) | (refine lrun_stepN ?_; intro K hK; simp; refine hK _ _ ?_; clear hK K) | refine LW.seq ?_ | refine LW.block ?_ | refine LW.ops ?_ | refine LW.skip ?_ | refine LW.ret ?_ | refine LW.exit ?_ | refine LW.label ?_ | refine thn_n ?_ | refine thn_r ?_ | refine thn_e ?_ | refine inb_n ?_ | refine inb_r ?_ | refine inb_x ?_ | refine inb_e (by decide) ?_ | (refine LW.ct ?_ ?_; · simp; done) | (refine LW.cf ?_ ?_; · simp; done) | fail)
      subst hJ
      exact hZ2 _ _ (fail hr _ _ (by simp) (by simp))
    repeat (first | refine LW.seq_ops ?_ | refine lrun_end ?_ | (refine lrun_step (by decide) ?_; intro K hK; simp; refine hK _ _ ?_; clear hK K) | (refine lrun_stepG rfl (by decide) (by decide) ?_; intro K hK; simp; refine hK _ _ ?_; clear hK K) | (refine lrun_stepN ?_; intro K hK; simp; refine hK _ _ ?_; clear hK K) | refine LW.seq ?_ | refine LW.block ?_ | refine LW.ops ?_ | refine LW.skip ?_ | refine LW.ret ?_ | refine LW.exit ?_ | refine LW.label ?_ | refine thn_n ?_ | refine thn_r ?_ | refine thn_e ?_ | refine inb_n ?_ | refine inb_r ?_ | refine inb_x ?_ | refine inb_e (by decide) ?_ | (refine LW.ct ?_ ?_; · simp; done) | (refine LW.cf ?_ ?_; · simp; done) | fail)
    first | refine LW.seq_draw (by kernel_rfl) ?_ | refine LW.draw (by kernel_rfl) ?_
    refine lany_qK 0 rfl (by kernel_rfl) rfl rfl (by decide) ?_; intro K hK; simp [h0, h1, h8, e3, e5, rdv, p1, p2]; refine hK _ ?_; clear hK K
    refine lany_qK 1 rfl (by kernel_rfl) rfl rfl (by decide) ?_; intro K hK; simp [h0, h1, h8, e3, e5, rdv, p1, p2]; refine hK _ ?_; clear hK K
    refine lany_qK 2 rfl (by kernel_rfl) rfl rfl (by decide) ?_; intro K hK; simp [h0, h1, h8, e3, e5, rdv, p1, p2]; refine hK _ ?_; clear hK K
    refine lany_qK 3 rfl (by kernel_rfl) rfl rfl (by decide) ?_; intro K hK; simp [h0, h1, h8, e3, e5, rdv, p1, p2]; refine hK _ ?_; clear hK K
    refine lany_qK 4 rfl (by kernel_rfl) rfl rfl (by decide) ?_; intro K hK; simp [h0, h1, h8, e3, e5, rdv, p1, p2]; refine hK _ ?_; clear hK K
    refine lany_qK 5 rfl (by kernel_rfl) rfl rfl (by decide) ?_; intro K hK; simp [h0, h1, h8, e3, e5, rdv, p1, p2]; refine hK _ ?_; clear hK K
    refine lany_gK 6 rfl (by kernel_rfl) rfl rfl (by decide) rfl (by decide) ?_; intro K hK; simp [h0, h1, h8, e3, e5, rdv, p1, p2]; refine hK _ ?_; clear hK K
    refine lany_gK 7 rfl (by kernel_rfl) rfl rfl (by decide) rfl (by decide) ?_; intro K hK; simp [h0, h1, h8, e3, e5, rdv, p1, p2]; refine hK _ ?_; clear hK K
    refine lany_gK 8 rfl (by kernel_rfl) rfl rfl (by decide) rfl (by decide) ?_; intro K hK; simp [h0, h1, h8, e3, e5, rdv, p1, p2]; refine hK _ ?_; clear hK K
    refine lany_gK 9 rfl (by kernel_rfl) rfl rfl (by decide) rfl (by decide) ?_; intro K hK; simp [h0, h1, h8, e3, e5, rdv, p1, p2]; refine hK _ ?_; clear hK K
    refine lany_gK 10 rfl (by kernel_rfl) rfl rfl (by decide) rfl (by decide) ?_; intro K hK; simp [h0, h1, h8, e3, e5, rdv, p1, p2]; refine hK _ ?_; clear hK K
    refine lany_qK 11 rfl (by kernel_rfl) rfl rfl (by decide) ?_; intro K hK; simp [h0, h1, h8, e3, e5, rdv, p1, p2]; refine hK _ ?_; clear hK K
    refine lany_qK 12 rfl (by kernel_rfl) rfl rfl (by decide) ?_; intro K hK; simp [h0, h1, h8, e3, e5, rdv, p1, p2]; refine hK _ ?_; clear hK K
    refine lany_gK 13 rfl (by kernel_rfl) rfl rfl (by decide) rfl (by decide) ?_; intro K hK; simp [h0, h1, h8, e3, e5, rdv, p1, p2]; refine hK _ ?_; clear hK K
    refine lany_gK 14 rfl (by kernel_rfl) rfl rfl (by decide) rfl (by decide) ?_; intro K hK; simp [h0, h1, h8, e3, e5, rdv, p1, p2]; refine hK _ ?_; clear hK K
    refine lany_gK 15 rfl (by kernel_rfl) rfl rfl (by decide) rfl (by decide) ?_; intro K hK; simp [h0, h1, h8, e3, e5, rdv, p1, p2]; refine hK _ ?_; clear hK K
    refine lany_gK 16 rfl (by kernel_rfl) rfl rfl (by decide) rfl (by decide) ?_; intro K hK; simp [h0, h1, h8, e3, e5, rdv, p1, p2]; refine hK _ ?_; clear hK K
    refine lany_gK 17 rfl (by kernel_rfl) rfl rfl (by decide) rfl (by decide) ?_; intro K hK; simp [h0, h1, h8, e3, e5, rdv, p1, p2]; refine hK _ ?_; clear hK K
    refine lany_gK 18 rfl (by kernel_rfl) rfl rfl (by decide) rfl (by decide) ?_; intro K hK; simp [h0, h1, h8, e3, e5, rdv, p1, p2]; refine hK _ ?_; clear hK K
    refine lany_gK 19 rfl (by kernel_rfl) rfl rfl (by decide) rfl (by decide) ?_; intro K hK; simp [h0, h1, h8, e3, e5, rdv, p1, p2]; refine hK _ ?_; clear hK K
    refine lany_ogK 20 (by kernel_rfl) rfl rfl rfl (by decide) rfl (by decide) ?_; intro K hK; simp
    refine callK.by (has_LC (a.take i) w hlt _) ?_
    rintro v H3 ⟨rfl, rfl⟩
    refine hK _ _ ?_; clear hK K
    by_cases p3 : w ∈ a.take i
    · have hr := bad (fun h => h.2.1 p3)
      refine lany_qK 21 rfl (by kernel_rfl) rfl rfl (by decide) ?_; intro K hK; simp [h0, h1, h8, p3]; refine hK _ ?_; clear hK K
      refine lany_qK 22 rfl (by kernel_rfl) rfl rfl (by decide) ?_; intro K hK; simp [h0, h1, h8, p3]; refine hK _ ?_; clear hK K
      refine lany_gK 23 rfl (by kernel_rfl) rfl rfl (by decide) rfl (by decide) ?_; intro K hK; simp [h0, h1, h8, p3]; refine hK _ ?_; clear hK K
      refine lany_gK 24 rfl (by kernel_rfl) rfl rfl (by decide) rfl (by decide) ?_; intro K hK; simp [h0, h1, h8, p3]; refine hK _ ?_; clear hK K
      refine lany_gK 25 rfl (by kernel_rfl) rfl rfl (by decide) rfl (by decide) ?_; intro K hK; simp [h0, h1, h8, p3]; refine hK _ ?_; clear hK K
      refine lany_gK 26 rfl (by kernel_rfl) rfl rfl (by decide) rfl (by decide) ?_; intro K hK; simp [h0, h1, h8, p3]; refine hK _ ?_; clear hK K
      refine lany_gK 27 rfl (by kernel_rfl) rfl rfl (by decide) rfl (by decide) ?_; intro K hK; simp [h0, h1, h8, p3]; refine hK _ ?_; clear hK K
      refine lany_ogK 28 (by kernel_rfl) rfl rfl rfl (by decide) rfl (by decide) ?_; intro K hK; simp [h0, h1, h8, p3]; refine hK _ _ ?_; clear hK K
      refine lany_qK 29 rfl (by kernel_rfl) rfl rfl (by decide) ?_; intro K hK; simp [h0, h1, h8, p3]; refine hK _ ?_; clear hK K
      refine lany_done (by kernel_rfl) ?_ _
      repeat (first | refine LW.seq_ops ?_ | refine lrun_end ?_ | (refine lrun_step (by decide) ?_; intro K hK; simp; refine hK _ _ ?_; clear hK K) | (refine lrun_stepG rfl (by decide) (by decide) ?_; intro K hK; simp; refine hK _ _ ?_; clear hK K) | (refine lrun_stepN ?_; intro K hK; simp; refine hK _ _ ?_; clear hK K) | refine LW.seq ?_ | refine LW.block ?_ | refine LW.ops ?_ | refine LW.skip ?_ | refine LW.ret ?_ | refine LW.exit ?_ | refine LW.label ?_ | refine thn_n ?_ | refine thn_r ?_ | refine thn_e ?_ | refine inb_n ?_ | refine inb_r ?_ | refine inb_x ?_ | refine inb_e (by decide) ?_ | (refine LW.ct ?_ ?_; · simp; done) | (refine LW.cf ?_ ?_; · simp; done) | fail)
      subst hJ
      exact hZ2 _ _ (fail hr _ _ (by simp) (by simp))
    refine lany_qK 21 rfl (by kernel_rfl) rfl rfl (by decide) ?_; intro K hK; simp [h0, h1, h8, e3, rdv, p3]; refine hK _ ?_; clear hK K
    refine lany_qK 22 rfl (by kernel_rfl) rfl rfl (by decide) ?_; intro K hK; simp [h0, h1, h8, e3, rdv, p3]; refine hK _ ?_; clear hK K
    refine lany_gK 23 rfl (by kernel_rfl) rfl rfl (by decide) rfl (by decide) ?_; intro K hK; simp [h0, h1, h8, e3, rdv, p3]; refine hK _ ?_; clear hK K
    refine lany_gK 24 rfl (by kernel_rfl) rfl rfl (by decide) rfl (by decide) ?_; intro K hK; simp [h0, h1, h8, e3, rdv, p3]; refine hK _ ?_; clear hK K
    refine lany_gK 25 rfl (by kernel_rfl) rfl rfl (by decide) rfl (by decide) ?_; intro K hK; simp [h0, h1, h8, e3, rdv, p3]; refine hK _ ?_; clear hK K
    refine lany_gK 26 rfl (by kernel_rfl) rfl rfl (by decide) rfl (by decide) ?_; intro K hK; simp [h0, h1, h8, e3, rdv, p3]; refine hK _ ?_; clear hK K
    refine lany_gK 27 rfl (by kernel_rfl) rfl rfl (by decide) rfl (by decide) ?_; intro K hK; simp [h0, h1, h8, e3, rdv, p3]; refine hK _ ?_; clear hK K
    refine lany_ogK 28 (by kernel_rfl) rfl rfl rfl (by decide) rfl (by decide) ?_; intro K hK; simp
    refine callK.by (has_LC l w (by omega) _) ?_
    rintro v H3 ⟨rfl, rfl⟩
    refine hK _ _ ?_; clear hK K
    by_cases p4 : w ∈ l
    · have hr := bad (fun h => h.2.2 p4)
      refine lany_qK 29 rfl (by kernel_rfl) rfl rfl (by decide) ?_; intro K hK; simp [p4]; refine hK _ ?_; clear hK K
      refine lany_done (by kernel_rfl) ?_ _
      repeat (first | refine LW.seq_ops ?_ | refine lrun_end ?_ | (refine lrun_step (by decide) ?_; intro K hK; simp; refine hK _ _ ?_; clear hK K) | (refine lrun_stepG rfl (by decide) (by decide) ?_; intro K hK; simp; refine hK _ _ ?_; clear hK K) | (refine lrun_stepN ?_; intro K hK; simp; refine hK _ _ ?_; clear hK K) | refine LW.seq ?_ | refine LW.block ?_ | refine LW.ops ?_ | refine LW.skip ?_ | refine LW.ret ?_ | refine LW.exit ?_ | refine LW.label ?_ | refine thn_n ?_ | refine thn_r ?_ | refine thn_e ?_ | refine inb_n ?_ | refine inb_r ?_ | refine inb_x ?_ | refine inb_e (by decide) ?_ | (refine LW.ct ?_ ?_; · simp; done) | (refine LW.cf ?_ ?_; · simp; done) | fail)
      subst hJ
      exact hZ2 _ _ (fail hr _ _ (by simp) (by simp))
    have hall2 := good ⟨by omega, p3, p4⟩
    obtain rfl := hps (fun h => by omega)
    clear hps
    refine lany_qK 29 rfl (by kernel_rfl) rfl rfl (by decide) ?_; intro K hK; simp [p4]; refine hK _ ?_; clear hK K
    refine lany_done (by kernel_rfl) ?_ _
    clear bad good
    clear fail0 hall e3 e5 p3 p4 hlt
    have e1 : IntKind.i64.wrap ((i : Int) + 1) = (i : Int) + 1 := wrap_i64 (by omega) (by omega)
    repeat (first | refine LW.seq_ops ?_ | refine lrun_end ?_ | (refine lrun_step (by decide) ?_; intro K hK; simp [h1, h8, llen_isl ty22, e1]; refine hK _ _ ?_; clear hK K) | (refine lrun_stepG rfl (by decide) (by decide) ?_; intro K hK; simp [h1, h8, llen_isl ty22, e1]; refine hK _ _ ?_; clear hK K) | (refine lrun_stepN ?_; intro K hK; simp [h1, h8, llen_isl ty22, e1]; refine hK _ _ ?_; clear hK K) | refine LW.seq ?_ | refine LW.block ?_ | refine LW.ops ?_ | refine LW.skip ?_ | refine LW.ret ?_ | refine LW.exit ?_ | refine LW.label ?_ | refine thn_n ?_ | refine thn_r ?_ | refine thn_e ?_ | refine inb_n ?_ | refine inb_r ?_ | refine inb_x ?_ | refine inb_e (by decide) ?_ | (refine LW.ct ?_ ?_; · simp [h1, h8, llen_isl ty22, e1]; done) | (refine LW.cf ?_ ?_; · simp [h1, h8, llen_isl ty22, e1]; done) | fail)
    refine LW.toK fun Z4 hZ4 => ?_
    have go : ∀ t' : Nat → V, t' 0 = isl l → t' 1 = isl a → t' 8 = .i .i64 i → t' 7 = t 7 → t' 9 = .i .i64 (a.getD (i + 1) 0) → Z4 .normal ⟨t', H3⟩ := fun t' g0 g1 g8 g7 g9 => by
      refine hZ4 _ _ ?_
      have hpt : ∀ x ∈ part l i, 0 ≤ x ∧ x ≤ 999 := fun x hx => by
        obtain ⟨j, hj⟩ := List.getElem?_of_mem (part_mem hx)
        have hjl := (List.getElem?_eq_some_iff.1 hj).1
        have := (hr j hjl).1
        rw [List.getD_eq_getElem?_getD, hj] at this
        simp only [Option.getD_some] at this
        omega
      have hpl := part_length l i
      have hpt2 : ∀ j, (h : j < (part l i).length) → ∃ h2 : 59 * i + j < l.length, l[59 * i + j] = (part l i)[j] := fun j h => by
        simp only [part, List.length_take, List.length_drop] at h
        refine ⟨by omega, ?_⟩
        simp only [part, List.getElem_take, List.getElem_drop]
        congr 1
        omega
      have hptl : (part l i).length = min 59 (l.length - i * 59) := by simp [part]
      have hpages : pagesOf l a (i + 1) = pagesOf l a i ++ [pageOf 4 [(a.getD (i + 1) 0 :: part l i).flatMap fun n => numB n.toNat 2]] := by
        simp [pagesOf, List.range_succ, cellOf]
      have hnxt : NextOk a (i + 1) → 0 ≤ a.getD (i + 1) 0 ∧ a.getD (i + 1) 0 ≤ 999 := fun h => by
        rw [List.getD_eq_getElem?_getD]
        rcases Nat.lt_or_ge (i + 1) a.length with h1 | h1
        · rw [List.getElem?_eq_getElem h1]
          have := h h1
          simp only [Option.getD_some]
          omega
        · rw [List.getElem?_eq_none h1]
          simp
      generalize a.getD (i + 1) 0 = nx at *
      generalize hpp : part l i = pt at *
      obtain ⟨xn, hx1, hx2, hx3⟩ := wrap_u64_any nx
      have hw0 : IntKind.i64.wrap (59 * (i : Int)) = ((59 * i : Nat) : Int) := by rw [wrap_i64 (by omega) (by omega)]; omega
      generalize hbase : 59 * i = base at *
      repeat (first | refine LW.seq_ops ?_ | refine lrun_end ?_ | (refine lrun_step (by decide) ?_; intro K hK; simp [g9, g8, convK_int ty3 ty46, hx2]; refine hK _ _ ?_; clear hK K) | (refine lrun_stepG rfl (by decide) (by decide) ?_; intro K hK; simp [g9, g8, convK_int ty3 ty46, hx2]; refine hK _ _ ?_; clear hK K) | (refine lrun_stepN ?_; intro K hK; simp [g9, g8, convK_int ty3 ty46, hx2]; refine hK _ _ ?_; clear hK K) | refine LW.seq ?_ | refine LW.block ?_ | refine LW.ops ?_ | refine LW.skip ?_ | refine LW.ret ?_ | refine LW.exit ?_ | refine LW.label ?_ | refine thn_n ?_ | refine thn_r ?_ | refine thn_e ?_ | refine inb_n ?_ | refine inb_r ?_ | refine inb_x ?_ | refine inb_e (by decide) ?_ | (refine LW.ct ?_ ?_; · simp [g9, g8, convK_int ty3 ty46, hx2]; done) | (refine LW.cf ?_ ?_; · simp [g9, g8, convK_int ty3 ty46, hx2]; done) | fail)
      refine lrun_step (by decide) ?_; intro K hK; simp
      refine callK.by (rnum_LC xn 2 (by omega) (by omega) (by omega) _) ?_
      rintro v H4 ⟨rfl, rfl⟩
      refine hK _ _ ?_; clear hK K
      have hnl := numB_length xn 2
      generalize hnb : numB xn 2 = nb2 at *
      repeat (first | refine LW.seq_ops ?_ | refine lrun_end ?_ | (refine lrun_step (by decide) ?_; intro K hK; simp [g8, hw0]; refine hK _ _ ?_; clear hK K) | (refine lrun_stepG rfl (by decide) (by decide) ?_; intro K hK; simp [g8, hw0]; refine hK _ _ ?_; clear hK K) | (refine lrun_stepN ?_; intro K hK; simp [g8, hw0]; refine hK _ _ ?_; clear hK K) | refine LW.seq ?_ | refine LW.block ?_ | refine LW.ops ?_ | refine LW.skip ?_ | refine LW.ret ?_ | refine LW.exit ?_ | refine LW.label ?_ | refine thn_n ?_ | refine thn_r ?_ | refine thn_e ?_ | refine inb_n ?_ | refine inb_r ?_ | refine inb_x ?_ | refine inb_e (by decide) ?_ | (refine LW.ct ?_ ?_; · simp [g8, hw0]; done) | (refine LW.cf ?_ ?_; · simp [g8, hw0]; done) | fail)
      have hcl : ∀ j, (pt.take j).length ≤ 59 := fun j => by simp; omega
      refine LW.loopN (fun m s => ∃ j : Nat, j ≤ pt.length ∧ m = pt.length - j ∧ s.t 0 = isl l ∧ s.t 1 = isl a ∧ s.t 8 = .i .i64 i ∧ s.t 7 = t 7 ∧ s.t 11 = .i .i64 ((base + j : Nat) : Int) ∧ s.H = H4 ∧ s.t 10 = .s (BA (nb2 ++ (pt.take j).flatMap fun n => numB n.toNat 2))) (m := pt.length)
        ⟨0, by omega, by omega, by simp [g0], by simp [g1], by simp [g8], by simp [g7], by simp, rfl, by simp⟩ ?_
      rintro m ⟨t2, H5⟩ ⟨j, hj, rfl, k0, k1, k8, k7, k11, rfl, k10⟩
      dsimp only at k0 k1 k8 k7 k11 k10 hJ hown
      refine LW.toK fun Z5 hZ5 => ?_
      have hF : IntKind.i64.wrap ((base : Int) + 59) = ((base + 59 : Nat) : Int) := by rw [wrap_i64 (by omega) (by omega)]; omega
      have hK1 : IntKind.i64.wrap (((base + j : Nat) : Int) + 1) = ((base + (j + 1) : Nat) : Int) := by rw [wrap_i64 (by omega) (by omega)]; omega
      generalize hkk : base + j = kk at *
      generalize hFF : base + 59 = F at *
      by_cases c1 : j < pt.length
      · have c2 : kk < l.length := by omega
        have c3 : kk < F := by omega
        have d1 := liaddr_isl (P := Tryd.prog) (k := .i64) (l := l) (i := kk) (t := 22) (e := 3) ty22 sz3 c2
        have hbl := bytes_len (pt.take j)
        have hbj := hcl j
        have hle : l[kk] = pt[j] := by
          obtain ⟨h2, h3⟩ := hpt2 j c1
          simp only [hkk] at h3
          exact h3
        have hv := hpt pt[j] (List.getElem_mem c1)
        have htakes : nb2 ++ (pt.take (j + 1)).flatMap (fun n => numB n.toNat 2) = (nb2 ++ (pt.take j).flatMap (fun n => numB n.toNat 2)) ++ numB (pt[j]).toNat 2 := by
          rw [List.take_succ_eq_append_getElem c1, List.flatMap_append, List.append_assoc]
          simp
        rw [hle] at d1
        have hBl : (nb2 ++ (pt.take j).flatMap (fun n => numB n.toNat 2)).length ≤ 120 := by rw [List.length_append, hbl, hnl]; omega
        generalize nb2 ++ (pt.take j).flatMap (fun n => numB n.toNat 2) = B at *
        generalize pt[j] = v at *
        have d3 : IntKind.u64.wrap v = ((v.toNat : Nat) : Int) := by rw [wrap_u64 (by omega) (by omega)]; omega
        have d5 := numB_length v.toNat 2
        generalize hvn : v.toNat = vn at *
        have d4 : ∀ {P : Program} {ty : TypeId} {lit : Bool}, lbin P .add ty lit (.s (BA B)) (.s (BA (numB vn 2))) = some (.s (BA (B ++ numB vn 2))) := sadd_BA (by omega)
        repeat (first | refine LW.seq_ops ?_ | refine lrun_end ?_ | (refine lrun_step (by decide) ?_; intro K hK; simp [k0, k8, k10, k11, llen_isl ty22, hw0, hF, c2, c3, d1, lload_one ag3, convK_int ty3 ty46, d3]; refine hK _ _ ?_; clear hK K) | (refine lrun_stepG rfl (by decide) (by decide) ?_; intro K hK; simp [k0, k8, k10, k11, llen_isl ty22, hw0, hF, c2, c3, d1, lload_one ag3, convK_int ty3 ty46, d3]; refine hK _ _ ?_; clear hK K) | (refine lrun_stepN ?_; intro K hK; simp [k0, k8, k10, k11, llen_isl ty22, hw0, hF, c2, c3, d1, lload_one ag3, convK_int ty3 ty46, d3]; refine hK _ _ ?_; clear hK K) | refine LW.seq ?_ | refine LW.block ?_ | refine LW.ops ?_ | refine LW.skip ?_ | refine LW.ret ?_ | refine LW.exit ?_ | refine LW.label ?_ | refine thn_n ?_ | refine thn_r ?_ | refine thn_e ?_ | refine inb_n ?_ | refine inb_r ?_ | refine inb_x ?_ | refine inb_e (by decide) ?_ | (refine LW.ct ?_ ?_; · simp [k0, k8, k10, k11, llen_isl ty22, hw0, hF, c2, c3, d1, lload_one ag3, convK_int ty3 ty46, d3]; done) | (refine LW.cf ?_ ?_; · simp [k0, k8, k10, k11, llen_isl ty22, hw0, hF, c2, c3, d1, lload_one ag3, convK_int ty3 ty46, d3]; done) | fail)
        refine lrun_step (by decide) ?_; intro K hK; simp
        refine callK.by (rnum_LC vn 2 (by omega) (by omega) (by omega) _) ?_
        rintro w H6 ⟨rfl, rfl⟩
        refine hK _ _ ?_; clear hK K
        generalize numB vn 2 = nv at *
        repeat (first | refine LW.seq_ops ?_ | refine lrun_end ?_ | (refine lrun_step (by decide) ?_; intro K hK; simp [d4, k11, hK1]; refine hK _ _ ?_; clear hK K) | (refine lrun_stepG rfl (by decide) (by decide) ?_; intro K hK; simp [d4, k11, hK1]; refine hK _ _ ?_; clear hK K) | (refine lrun_stepN ?_; intro K hK; simp [d4, k11, hK1]; refine hK _ _ ?_; clear hK K) | refine LW.seq ?_ | refine LW.block ?_ | refine LW.ops ?_ | refine LW.skip ?_ | refine LW.ret ?_ | refine LW.exit ?_ | refine LW.label ?_ | refine thn_n ?_ | refine thn_r ?_ | refine thn_e ?_ | refine inb_n ?_ | refine inb_r ?_ | refine inb_x ?_ | refine inb_e (by decide) ?_ | (refine LW.ct ?_ ?_; · simp [d4, k11, hK1]; done) | (refine LW.cf ?_ ?_; · simp [d4, k11, hK1]; done) | fail)
        refine hZ5 _ _ ⟨pt.length - (j + 1), by omega, j + 1, by omega, rfl, by simp [k0], by simp [k1], by simp [k8], by simp [k7], by simp, rfl, by simp [htakes]⟩
      · obtain rfl : j = pt.length := by omega
        rw [List.take_length] at k10
        have hbl := bytes_len pt
        have hBl : (nb2 ++ pt.flatMap (fun n => numB n.toNat 2)).length ≤ 120 := by rw [List.length_append, hbl, hnl]; omega
        have hpn : NextOk a (i + 1) → pagesOf l a (i + 1) = pagesOf l a i ++ [pageOf 4 [nb2 ++ pt.flatMap (fun n => numB n.toNat 2)]] := fun h => by
          obtain ⟨q1, q2⟩ := hnxt h
          rw [hpages, ← hnb, hx3 q1 q2]
          rfl
        generalize hcc : nb2 ++ pt.flatMap (fun n => numB n.toNat 2) = cell at *
        have fin : ∀ t3 : Nat → V, t3 0 = isl l → t3 1 = isl a → t3 8 = .i .i64 i → t3 7 = t 7 → t3 10 = .s (BA cell) → Z5 (.exit 2) ⟨t3, H5⟩ := fun t3 q0 q1 q8 q7 q10 => by
          refine hZ5 _ _ ?_
          have f5 := lbslice_one (P := Tryd.prog) (H := H5) (t := 29) (e := 9) (v := .s (BA cell)) ty29 sz9 ze9 rfl rfl rfl
          repeat (first | refine LW.seq_ops ?_ | refine lrun_end ?_ | (refine lrun_step (by decide) ?_; intro K hK; simp [q10, f5]; refine hK _ _ ?_; clear hK K) | (refine lrun_stepG rfl (by decide) (by decide) ?_; intro K hK; simp [q10, f5]; refine hK _ _ ?_; clear hK K) | (refine lrun_stepN ?_; intro K hK; simp [q10, f5]; refine hK _ _ ?_; clear hK K) | refine LW.seq ?_ | refine LW.block ?_ | refine LW.ops ?_ | refine LW.skip ?_ | refine LW.ret ?_ | refine LW.exit ?_ | refine LW.label ?_ | refine thn_n ?_ | refine thn_r ?_ | refine thn_e ?_ | refine inb_n ?_ | refine inb_r ?_ | refine inb_x ?_ | refine inb_e (by decide) ?_ | (refine LW.ct ?_ ?_; · simp [q10, f5]; done) | (refine LW.cf ?_ ?_; · simp [q10, f5]; done) | fail)
          refine lrun_step (by decide) ?_; intro K hK; simp
          generalize hHA : H5 ++ [LB.c [.s (BA cell)] 9 true] = HA at *
          have hgA : HA[H5.length]? = some (.c [.s (BA cell)] 9 true) := by rw [← hHA]; exact own_get
          have hlA : HA.length = H5.length + 1 := by rw [← hHA]; simp
          have hsz : sizeOf2 [cell] ≤ 122 := by simp [sizeOf2]; omega
          refine callK.by (LC.retell (args' := [.i .u8 (((4 : UInt8).toNat : Nat) : Int), ssl ([cell].map BA)]) (H' := HA.set H5.length .dead) (rpack_LC 4 (by decide) [cell] hsz _) (retell_dead H5.length) rfl ?_) ?_
          · intro q x y e1 e2
            match q with
            | 0 => simp at e1 e2; subst e1 e2; exact .same _
            | 1 =>
              simp at e1 e2
              subst e1 e2
              refine .own (fun _ _ => .s (BA cell)) hgA ⟨.dead, by simp [hlA], rfl⟩ rfl (fun x hx => by simp at hx; subst hx; rfl) (fun j q hj hq => ?_) (fun j x hj q y hq => ?_)
              · obtain rfl : j = 0 := by omega
                obtain rfl : q = 0 := by omega
                rfl
              · match j with
                | 0 =>
                  simp at hj
                  subst hj
                  match q with
                  | 0 =>
                    obtain rfl : V.s (BA cell) = y := Option.some.inj hq
                    exact .same _
                  | q + 1 => cases hq
                | j + 1 => simp at hj
            | q + 2 => simp at e1
          rintro w H6 ⟨rfl, hH6⟩
          refine hK _ _ ?_; clear hK K
          generalize pageOf 4 [cell] = page at *
          have hlen6 : H6.length = H5.length + 1 := by rw [hH6]; simp [hlA]
          have hext : ∀ r, r < H5.length → H6[r]? = H5[r]? := fun r hr2 => by
            rw [hH6, List.getElem?_set, if_neg (by omega), ← hHA, List.getElem?_append_left (by omega)]
          have f6 := lbslice_one (P := Tryd.prog) (H := H6) (t := 29) (e := 9) (v := .s (BA page)) ty29 sz9 ze9 rfl rfl rfl
          have hpl2 : (List.map (fun p => V.s (BA p)) (pagesOf l a i)).length = i := by simp [pagesOf]
          have hkH : H'.length ≤ H5.length := by rw [hJ]; simp
          repeat (first | refine LW.seq_ops ?_ | refine lrun_end ?_ | (refine lrun_step (by decide) ?_; intro K hK; simp [lextract, q7, f6]; refine hK _ _ ?_; clear hK K) | (refine lrun_stepG rfl (by decide) (by decide) ?_; intro K hK; simp [lextract, q7, f6]; refine hK _ _ ?_; clear hK K) | (refine lrun_stepN ?_; intro K hK; simp [lextract, q7, f6]; refine hK _ _ ?_; clear hK K) | refine LW.seq ?_ | refine LW.block ?_ | refine LW.ops ?_ | refine LW.skip ?_ | refine LW.ret ?_ | refine LW.exit ?_ | refine LW.label ?_ | refine thn_n ?_ | refine thn_r ?_ | refine thn_e ?_ | refine inb_n ?_ | refine inb_r ?_ | refine inb_x ?_ | refine inb_e (by decide) ?_ | (refine LW.ct ?_ ?_; · simp [lextract, q7, f6]; done) | (refine LW.cf ?_ ?_; · simp [lextract, q7, f6]; done) | fail)
          refine lrun_step (by decide) ?_; intro K hK; simp
          refine append_Own (P := Tryd.prog) (k := H'.length) (ats := #[29, 29]) (e := 9) (zv := .string ⟨#[]⟩) (by_ := 16) (news := [.s (BA page)]) (m := 1) (hown.ext (H2 := H6 ++ [LB.c [.s (BA page)] 9 true]) fun r hr2 => by rw [List.getElem?_append_left (by omega), hext r hr2]) (by simp; omega) rfl rfl ty29 ty29 rfl nf9 (by omega) rfl (lsrc_own1 own_get rfl (by omega)) rfl rfl (by rw [hpl2]; simp; omega) (by rw [hpl2]; simp; omega) ?_
          intro w2 H7 ho6 ht6 hl6
          refine hK _ _ ?_; clear hK K
          repeat (first | refine LW.seq_ops ?_ | refine lrun_end ?_ | (refine lrun_step (by decide) ?_; intro K hK; simp [q8, e1]; refine hK _ _ ?_; clear hK K) | (refine lrun_stepG rfl (by decide) (by decide) ?_; intro K hK; simp [q8, e1]; refine hK _ _ ?_; clear hK K) | (refine lrun_stepN ?_; intro K hK; simp [q8, e1]; refine hK _ _ ?_; clear hK K) | refine LW.seq ?_ | refine LW.block ?_ | refine LW.ops ?_ | refine LW.skip ?_ | refine LW.ret ?_ | refine LW.exit ?_ | refine LW.label ?_ | refine thn_n ?_ | refine thn_r ?_ | refine thn_e ?_ | refine inb_n ?_ | refine inb_r ?_ | refine inb_x ?_ | refine inb_e (by decide) ?_ | (refine LW.ct ?_ ?_; · simp [q8, e1]; done) | (refine LW.cf ?_ ?_; · simp [q8, e1]; done) | fail)
          have hpre : H7.take H'.length = H' := by
            rw [ht6, List.take_append_of_le_length (by omega)]
            apply List.ext_getElem?
            intro r
            rcases Nat.lt_or_ge r H'.length with h | h
            · rw [List.getElem?_take_of_lt h, hext r (by omega), hJ, List.getElem?_append_left h]
            · rw [List.getElem?_eq_none (by simp; omega), List.getElem?_eq_none (by omega)]
          refine hZ2 _ _ ⟨a.length - (i + 1), by omega, i + 1, H7.drop H'.length, by omega, rfl, by simp [q0], by simp [q1], by simp, by conv => lhs; rw [← List.take_append_drop H'.length H7, hpre], ⟨pagesOf l a i ++ [page], by simp [pagesOf], by simpa using ho6, fun h => (hpn h).symm⟩, hall2⟩
        by_cases c2 : kk < l.length
        · have c3 : ¬ kk < F := by omega
          repeat (first | refine LW.seq_ops ?_ | refine lrun_end ?_ | (refine lrun_step (by decide) ?_; intro K hK; simp [k0, k8, k11, llen_isl ty22, hw0, hF, c2, c3]; refine hK _ _ ?_; clear hK K) | (refine lrun_stepG rfl (by decide) (by decide) ?_; intro K hK; simp [k0, k8, k11, llen_isl ty22, hw0, hF, c2, c3]; refine hK _ _ ?_; clear hK K) | (refine lrun_stepN ?_; intro K hK; simp [k0, k8, k11, llen_isl ty22, hw0, hF, c2, c3]; refine hK _ _ ?_; clear hK K) | refine LW.seq ?_ | refine LW.block ?_ | refine LW.ops ?_ | refine LW.skip ?_ | refine LW.ret ?_ | refine LW.exit ?_ | refine LW.label ?_ | refine thn_n ?_ | refine thn_r ?_ | refine thn_e ?_ | refine inb_n ?_ | refine inb_r ?_ | refine inb_x ?_ | refine inb_e (by decide) ?_ | (refine LW.ct ?_ ?_; · simp [k0, k8, k11, llen_isl ty22, hw0, hF, c2, c3]; done) | (refine LW.cf ?_ ?_; · simp [k0, k8, k11, llen_isl ty22, hw0, hF, c2, c3]; done) | fail)
          exact fin _ (by simp [k0]) (by simp [k1]) (by simp [k8]) (by simp [k7]) (by simp [k10])
        · repeat (first | refine LW.seq_ops ?_ | refine lrun_end ?_ | (refine lrun_step (by decide) ?_; intro K hK; simp [k0, k8, k11, llen_isl ty22, hw0, hF, c2]; refine hK _ _ ?_; clear hK K) | (refine lrun_stepG rfl (by decide) (by decide) ?_; intro K hK; simp [k0, k8, k11, llen_isl ty22, hw0, hF, c2]; refine hK _ _ ?_; clear hK K) | (refine lrun_stepN ?_; intro K hK; simp [k0, k8, k11, llen_isl ty22, hw0, hF, c2]; refine hK _ _ ?_; clear hK K) | refine LW.seq ?_ | refine LW.block ?_ | refine LW.ops ?_ | refine LW.skip ?_ | refine LW.ret ?_ | refine LW.exit ?_ | refine LW.label ?_ | refine thn_n ?_ | refine thn_r ?_ | refine thn_e ?_ | refine inb_n ?_ | refine inb_r ?_ | refine inb_x ?_ | refine inb_e (by decide) ?_ | (refine LW.ct ?_ ?_; · simp [k0, k8, k11, llen_isl ty22, hw0, hF, c2]; done) | (refine LW.cf ?_ ?_; · simp [k0, k8, k11, llen_isl ty22, hw0, hF, c2]; done) | fail)
          exact fin _ (by simp [k0]) (by simp [k1]) (by simp [k8]) (by simp [k7]) (by simp [k10])
    refine LW.dec (p := (i : Int) + 1 < a.length) (by simp) (fun h3 => ?_) (fun h3 => ?_)
    · have h3' : i + 1 < a.length := by omega
      have e3 := liaddr_isl (P := Tryd.prog) (k := .i64) (l := a) (i := i + 1) (t := 22) (e := 3) ty22 sz3 h3'
      rw [show ((i + 1 : Nat) : Int) = (i : Int) + 1 by omega] at e3
      have e4 : a[i + 1] = a.getD (i + 1) 0 := by simp [h3']
      rw [e4] at e3
      generalize a.getD (i + 1) 0 = nx at *
      repeat (first | refine LW.seq_ops ?_ | refine lrun_end ?_ | (refine lrun_step (by decide) ?_; intro K hK; simp [h0, h1, h8, e1, e3, lload_one ag3]; refine hK _ _ ?_; clear hK K) | (refine lrun_stepG rfl (by decide) (by decide) ?_; intro K hK; simp [h0, h1, h8, e1, e3, lload_one ag3]; refine hK _ _ ?_; clear hK K) | (refine lrun_stepN ?_; intro K hK; simp [h0, h1, h8, e1, e3, lload_one ag3]; refine hK _ _ ?_; clear hK K) | refine LW.seq ?_ | refine LW.block ?_ | refine LW.ops ?_ | refine LW.skip ?_ | refine LW.ret ?_ | refine LW.exit ?_ | refine LW.label ?_ | refine thn_n ?_ | refine thn_r ?_ | refine thn_e ?_ | refine inb_n ?_ | refine inb_r ?_ | refine inb_x ?_ | refine inb_e (by decide) ?_ | (refine LW.ct ?_ ?_; · simp [h0, h1, h8, e1, e3, lload_one ag3]; done) | (refine LW.cf ?_ ?_; · simp [h0, h1, h8, e1, e3, lload_one ag3]; done) | fail)
      exact go _ (by simp [h0]) (by simp [h1]) (by simp [h8]) (by simp) (by simp)
    · have e4 : a.getD (i + 1) 0 = 0 := by
        rw [List.getD_eq_getElem?_getD, List.getElem?_eq_none (by omega)]
        rfl
      rw [e4] at go
      repeat (first | refine LW.seq_ops ?_ | refine lrun_end ?_ | (refine lrun_step (by decide) ?_; intro K hK; simp; refine hK _ _ ?_; clear hK K) | (refine lrun_stepG rfl (by decide) (by decide) ?_; intro K hK; simp; refine hK _ _ ?_; clear hK K) | (refine lrun_stepN ?_; intro K hK; simp; refine hK _ _ ?_; clear hK K) | refine LW.seq ?_ | refine LW.block ?_ | refine LW.ops ?_ | refine LW.skip ?_ | refine LW.ret ?_ | refine LW.exit ?_ | refine LW.label ?_ | refine thn_n ?_ | refine thn_r ?_ | refine thn_e ?_ | refine inb_n ?_ | refine inb_r ?_ | refine inb_x ?_ | refine inb_e (by decide) ?_ | (refine LW.ct ?_ ?_; · simp; done) | (refine LW.cf ?_ ?_; · simp; done) | fail)
      exact go _ (by simp [h0]) (by simp [h1]) (by simp [h8]) (by simp) (by simp)
end Go.Lw
