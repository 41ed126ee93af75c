/- list.apart -/
import Derived.Test.YtopmghfjdpdncaaDoorF8
set_option linter.unusedSimpArgs false
set_option linter.unusedVariables false
namespace Go.Lw
open Go Go.Proofs Go.RowKit
variable {G : List (Nat × List V)}
attribute [local irreducible] LW callK LC lany lrun ldo oK oK2 oKH gK yieldK LY

/-- Pages' places, none twice, none of some numbers. -/
def Apart (at_ l : List Int) : Prop := ∀ i, (h : i < at_.length) → (2 ≤ at_[i] ∧ at_[i] ≤ 999) ∧ at_[i] ∉ at_.take i ∧ at_[i] ∉ l
instance (a l : List Int) : Decidable (Apart a l) := Nat.decidableBallLT a.length fun i h => (2 ≤ a[i] ∧ a[i] ≤ 999) ∧ a[i] ∉ a.take i ∧ a[i] ∉ l

theorem apart_LC (a l : List Int) (ha : a.length < 2000000) (hl : l.length < 2000000) (H : List LB) : LC Tryd.prog G 17 [isl a, isl l] H fun v H' => v = .b (decide (Apart a l)) ∧ H' = H := by
  refine LC.of_walk Tryd.f17 42 (by kernel_rfl) (by kernel_rfl) rfl rfl fun Z hZ => ?_
  have hmk : lmakeMap Tryd.prog H 71 none = some (.m H.length, H ++ [.mp [] 3]) := by simp [lmakeMap]
  repeat (first | refine LW.seq_ops ?_ | refine lrun_end ?_ | (refine lrun_step (by decide) ?_; intro K hK; simp [hmk, isl, llen_sl ty22]; refine hK _ _ ?_; clear hK K) | (refine lrun_stepG rfl (by decide) (by decide) ?_; intro K hK; simp [hmk, isl, llen_sl ty22]; refine hK _ _ ?_; clear hK K) | (refine lrun_stepN ?_; intro K hK; simp [hmk, isl, llen_sl ty22]; refine hK _ _ ?_; clear hK K) | refine LW.seq ?_ | refine LW.block ?_ | refine LW.ops ?_ | refine LW.skip ?_ | refine LW.ret ?_ | refine LW.exit ?_ | refine LW.label ?_ | refine thn_n ?_ | refine thn_r ?_ | refine thn_e ?_ | refine inb_n ?_ | refine inb_r ?_ | refine inb_x ?_ | refine inb_e (by decide) ?_ | (refine LW.ct ?_ ?_; · simp [hmk, isl, llen_sl ty22]; done) | (refine LW.cf ?_ ?_; · simp [hmk, isl, llen_sl ty22]; done) | fail)
  refine LW.loopN (fun m s => ∃ (i : Nat) (es : List (V × V)), i ≤ l.length ∧ m = l.length - i ∧ s.t 0 = isl a ∧ s.t 5 = .m H.length ∧ s.t 11 = isl l ∧ s.t 12 = .i .i64 l.length ∧ s.t 13 = .i .i64 i ∧ s.H = H ++ [.mp es 3] ∧ Counts es (fun n => (l.take i).count n)) (m := l.length)
    ⟨0, [], by omega, by omega, by simp [isl], by simp, by simp [isl], by simp, by simp, rfl, by simpa using Counts.nil⟩ ?_
  rintro m ⟨t, H'⟩ ⟨i, es, hi, rfl, h0, h5, h11, h12, h13, rfl, hc⟩
  dsimp only at h0 h5 h11 h12 h13 hi
  refine LW.toK fun Z2 hZ2 => ?_
  repeat (first | refine LW.seq_ops ?_ | refine lrun_end ?_ | (refine lrun_step (by decide) ?_; intro K hK; simp [h12, h13]; refine hK _ _ ?_; clear hK K) | (refine lrun_stepG rfl (by decide) (by decide) ?_; intro K hK; simp [h12, h13]; refine hK _ _ ?_; clear hK K) | (refine lrun_stepN ?_; intro K hK; simp [h12, h13]; refine hK _ _ ?_; clear hK K) | refine LW.seq ?_ | refine LW.block ?_ | refine LW.ops ?_ | refine LW.skip ?_ | refine LW.ret ?_ | refine LW.exit ?_ | refine LW.label ?_ | refine thn_n ?_ | refine thn_r ?_ | refine thn_e ?_ | refine inb_n ?_ | refine inb_r ?_ | refine inb_x ?_ | refine inb_e (by decide) ?_ | (refine LW.ct ?_ ?_; · simp [h12, h13]; done) | (refine LW.cf ?_ ?_; · simp [h12, h13]; done) | fail)
  refine LW.dec (p := i < l.length) (by simp) (fun h2 => ?_) (fun h2 => ?_)
  · have e1 : IntKind.i64.wrap ((i : Int) + 1) = (i : Int) + 1 := wrap_i64 (by omega) (by omega)
    have e3 : liaddr Tryd.prog 22 (isl l) (.i .i64 (i : Int)) = some (.ep [.i .i64 l[i]] 0) := by
      unfold isl
      exact liaddr_sl (y := .i .i64 l[i]) ty22 sz3 (by simp [h2])
    have k1 := hc.look (P := Tryd.prog) (H := H ++ [.mp es 3]) (t := 71) (r := H.length) ty71 ty3 ze3 own_get l[i]
    have hcb : (l.take i).count l[i] ≤ i := Nat.le_trans List.count_le_length (by simp; omega)
    have e2 : IntKind.i64.wrap (((l.take i).count l[i] : Int) + 1) = (((l.take i).count l[i] + 1 : Nat) : Int) := by rw [wrap_i64 (by omega) (by omega)]; omega
    have k2 := hc.upd (P := Tryd.prog) (H := H ++ [.mp es 3]) (t := 71) (r := H.length) ty71 ty3 own_get l[i] (.i .i64 (((l.take i).count l[i] + 1 : Nat) : Int))
    rw [own_set] at k2
    have hc' := hc.put l[i]
    generalize hq : (l.take i).count l[i] = q at *
    generalize hq1 : ((q + 1 : Nat) : Int) = q1 at *
    repeat (first | refine LW.seq_ops ?_ | refine lrun_end ?_ | (refine lrun_step (by decide) ?_; intro K hK; simp [h5, h11, h13, e3, lload_one ag3, k1, e2, k2, e1]; refine hK _ _ ?_; clear hK K) | (refine lrun_stepG rfl (by decide) (by decide) ?_; intro K hK; simp [h5, h11, h13, e3, lload_one ag3, k1, e2, k2, e1]; refine hK _ _ ?_; clear hK K) | (refine lrun_stepN ?_; intro K hK; simp [h5, h11, h13, e3, lload_one ag3, k1, e2, k2, e1]; refine hK _ _ ?_; clear hK K) | refine LW.seq ?_ | refine LW.block ?_ | refine LW.ops ?_ | refine LW.skip ?_ | refine LW.ret ?_ | refine LW.exit ?_ | refine LW.label ?_ | refine thn_n ?_ | refine thn_r ?_ | refine thn_e ?_ | refine inb_n ?_ | refine inb_r ?_ | refine inb_x ?_ | refine inb_e (by decide) ?_ | (refine LW.ct ?_ ?_; · simp [h5, h11, h13, e3, lload_one ag3, k1, e2, k2, e1]; done) | (refine LW.cf ?_ ?_; · simp [h5, h11, h13, e3, lload_one ag3, k1, e2, k2, e1]; done) | fail)
    refine hZ2 _ _ ⟨l.length - (i + 1), by omega, i + 1, _, by omega, rfl, by simp [h0], by simp [h5], by simp [h11], by simp [h12], by simp, rfl, ?_⟩
    have hfun : (fun n => (l.take (i + 1)).count n) = fun m => if m = l[i] then q + 1 else (l.take i).count m := by
      funext m
      rw [List.take_succ_eq_append_getElem h2, List.count_append]
      by_cases hm : m = l[i]
      · subst hm
        rw [hq]
        simp
      · have : ¬ l[i] = m := fun e => hm e.symm
        simp [hm, this, List.count_singleton]
    rw [hfun]
    exact hc'
  · obtain rfl : i = l.length := by omega
    rw [List.take_length] at hc
    repeat (first | refine LW.seq_ops ?_ | refine lrun_end ?_ | (refine lrun_step (by decide) ?_; intro K hK; simp; refine hK _ _ ?_; clear hK K) | (refine lrun_stepG rfl (by decide) (by decide) ?_; intro K hK; simp; refine hK _ _ ?_; clear hK K) | (refine lrun_stepN ?_; intro K hK; simp; refine hK _ _ ?_; clear hK K) | refine LW.seq ?_ | refine LW.block ?_ | refine LW.ops ?_ | refine LW.skip ?_ | refine LW.ret ?_ | refine LW.exit ?_ | refine LW.label ?_ | refine thn_n ?_ | refine thn_r ?_ | refine thn_e ?_ | refine inb_n ?_ | refine inb_r ?_ | refine inb_x ?_ | refine inb_e (by decide) ?_ | (refine LW.ct ?_ ?_; · simp; done) | (refine LW.cf ?_ ?_; · simp; done) | fail)
    refine hZ2 _ _ ?_
    repeat (first | refine LW.seq_ops ?_ | refine lrun_end ?_ | (refine lrun_step (by decide) ?_; intro K hK; simp [h0, isl, llen_sl ty22]; refine hK _ _ ?_; clear hK K) | (refine lrun_stepG rfl (by decide) (by decide) ?_; intro K hK; simp [h0, isl, llen_sl ty22]; refine hK _ _ ?_; clear hK K) | (refine lrun_stepN ?_; intro K hK; simp [h0, isl, llen_sl ty22]; refine hK _ _ ?_; clear hK K) | refine LW.seq ?_ | refine LW.block ?_ | refine LW.ops ?_ | refine LW.skip ?_ | refine LW.ret ?_ | refine LW.exit ?_ | refine LW.label ?_ | refine thn_n ?_ | refine thn_r ?_ | refine thn_e ?_ | refine inb_n ?_ | refine inb_r ?_ | refine inb_x ?_ | refine inb_e (by decide) ?_ | (refine LW.ct ?_ ?_; · simp [h0, isl, llen_sl ty22]; done) | (refine LW.cf ?_ ?_; · simp [h0, isl, llen_sl ty22]; done) | fail)
    refine LW.loopN (fun m s => ∃ (i : Nat) (es : List (V × V)), i ≤ a.length ∧ m = a.length - i ∧ s.t 5 = .m H.length ∧ s.t 22 = isl a ∧ s.t 23 = .i .i64 a.length ∧ s.t 24 = .i .i64 i ∧ s.H = H ++ [.mp es 3] ∧ Counts es (fun n => l.count n + (a.take i).count n) ∧
        ∀ j, (h : j < a.length) → j < i → (2 ≤ a[j] ∧ a[j] ≤ 999) ∧ a[j] ∉ a.take j ∧ a[j] ∉ l) (m := a.length)
      ⟨0, es, by omega, by omega, by simp [h5], by simp [isl], by simp, by simp, rfl, by simpa using hc, fun j h hj => by omega⟩ ?_
    rintro m ⟨t, H'⟩ ⟨i, es, hi, rfl, h5, h22, h23, h24, rfl, hc, hall⟩
    dsimp only at h5 h22 h23 h24 hi
    refine LW.toK fun Z3 hZ3 => ?_
    repeat (first | refine LW.seq_ops ?_ | refine lrun_end ?_ | (refine lrun_step (by decide) ?_; intro K hK; simp [h23, h24]; refine hK _ _ ?_; clear hK K) | (refine lrun_stepG rfl (by decide) (by decide) ?_; intro K hK; simp [h23, h24]; refine hK _ _ ?_; clear hK K) | (refine lrun_stepN ?_; intro K hK; simp [h23, h24]; refine hK _ _ ?_; clear hK K) | refine LW.seq ?_ | refine LW.block ?_ | refine LW.ops ?_ | refine LW.skip ?_ | refine LW.ret ?_ | refine LW.exit ?_ | refine LW.label ?_ | refine thn_n ?_ | refine thn_r ?_ | refine thn_e ?_ | refine inb_n ?_ | refine inb_r ?_ | refine inb_x ?_ | refine inb_e (by decide) ?_ | (refine LW.ct ?_ ?_; · simp [h23, h24]; done) | (refine LW.cf ?_ ?_; · simp [h23, h24]; done) | fail)
    refine LW.dec (p := i < a.length) (by simp) (fun h2 => ?_) (fun h2 => ?_)
    · have e1 : IntKind.i64.wrap ((i : Int) + 1) = (i : Int) + 1 := wrap_i64 (by omega) (by omega)
      have e3 : liaddr Tryd.prog 22 (isl a) (.i .i64 (i : Int)) = some (.ep [.i .i64 a[i]] 0) := by
        unfold isl
        exact liaddr_sl (y := .i .i64 a[i]) ty22 sz3 (by simp [h2])
      have k1 := hc.look (P := Tryd.prog) (H := H ++ [.mp es 3]) (t := 71) (r := H.length) ty71 ty3 ze3 own_get a[i]
      have hcb : (a.take i).count a[i] ≤ i := Nat.le_trans List.count_le_length (by simp; omega)
      have hcl : l.count a[i] ≤ l.length := List.count_le_length
      have e2 : IntKind.i64.wrap ((((l.count a[i] + (a.take i).count a[i] : Nat)) : Int) + 1) = ((l.count a[i] + (a.take i).count a[i] + 1 : Nat) : Int) := by rw [wrap_i64 (by omega) (by omega)]; omega
      have k2 := hc.upd (P := Tryd.prog) (H := H ++ [.mp es 3]) (t := 71) (r := H.length) ty71 ty3 own_get a[i] (.i .i64 ((l.count a[i] + (a.take i).count a[i] + 1 : Nat) : Int))
      rw [own_set] at k2
      have hc' := hc.put a[i]
      have k3 := hc'.look (P := Tryd.prog) (H := H ++ [.mp (mput es (.i .i64 a[i]) (.i .i64 ((l.count a[i] + (a.take i).count a[i] + 1 : Nat) : Int))) 3]) (t := 71) (r := H.length) ty71 ty3 ze3 own_get a[i]
      rw [if_pos rfl] at k3
      have hfun : (fun n => l.count n + (a.take (i + 1)).count n) = fun m => if m = a[i] then l.count a[i] + (a.take i).count a[i] + 1 else l.count m + (a.take i).count m := by
        funext m
        rw [List.take_succ_eq_append_getElem h2, List.count_append]
        by_cases hm : m = a[i]
        · subst hm
          simp
          omega
        · have : ¬ a[i] = m := fun e => hm e.symm
          simp [hm, this, List.count_singleton]
      have hq0 : l.count a[i] + (a.take i).count a[i] = 0 ↔ a[i] ∉ a.take i ∧ a[i] ∉ l := by
        rw [← List.count_eq_zero, ← List.count_eq_zero]
        omega
      have bad : ¬ ((2 ≤ a[i] ∧ a[i] ≤ 999) ∧ a[i] ∉ a.take i ∧ a[i] ∉ l) → ¬ Apart a l := fun h hr => h (hr i h2)
      have good : ((2 ≤ a[i] ∧ a[i] ≤ 999) ∧ a[i] ∉ a.take i ∧ a[i] ∉ l) → ∀ j, (h : j < a.length) → j < i + 1 → (2 ≤ a[j] ∧ a[j] ≤ 999) ∧ a[j] ∉ a.take j ∧ a[j] ∉ l := fun h j hj hji => by
        rcases Nat.lt_or_ge j i with h' | h'
        · exact hall j hj h'
        · obtain rfl : j = i := by omega
          exact h
      generalize hq : l.count a[i] + (a.take i).count a[i] = q at *
      have hq1 : ((q + 1 : Nat) : Int) = (q : Int) + 1 := by omega
      generalize hes : mput es (.i .i64 a[i]) (.i .i64 ((q + 1 : Nat) : Int)) = es2 at *
      rw [hq1] at k2 k3 e2
      repeat (first | refine LW.seq_ops ?_ | refine lrun_end ?_ | (refine lrun_step (by decide) ?_; intro K hK; simp [h5, h22, h24, e3, lload_one ag3, k1, e2, k2]; refine hK _ _ ?_; clear hK K) | (refine lrun_stepG rfl (by decide) (by decide) ?_; intro K hK; simp [h5, h22, h24, e3, lload_one ag3, k1, e2, k2]; refine hK _ _ ?_; clear hK K) | (refine lrun_stepN ?_; intro K hK; simp [h5, h22, h24, e3, lload_one ag3, k1, e2, k2]; refine hK _ _ ?_; clear hK K) | refine LW.seq ?_ | refine LW.block ?_ | refine LW.ops ?_ | refine LW.skip ?_ | refine LW.ret ?_ | refine LW.exit ?_ | refine LW.label ?_ | refine thn_n ?_ | refine thn_r ?_ | refine thn_e ?_ | refine inb_n ?_ | refine inb_r ?_ | refine inb_x ?_ | refine inb_e (by decide) ?_ | (refine LW.ct ?_ ?_; · simp [h5, h22, h24, e3, lload_one ag3, k1, e2, k2]; done) | (refine LW.cf ?_ ?_; · simp [h5, h22, h24, e3, lload_one ag3, k1, e2, k2]; done) | fail)
      refine lrun_step (by decide) ?_; intro K hK; simp
      refine callK.by (page_LC _ _) ?_
      rintro v H2 ⟨rfl, rfl⟩
      refine hK _ _ ?_; clear hK K
      by_cases hp : isPage a[i] = true
      · have hp' : 2 ≤ a[i] ∧ a[i] ≤ 999 := by simpa [isPage] using hp
        by_cases h0 : q = 0
        · have hgt : ¬ (1 : Int) < (q : Int) + 1 := by omega
          repeat (first | refine LW.seq_ops ?_ | refine lrun_end ?_ | (refine lrun_step (by decide) ?_; intro K hK; simp [h5, hp, k3, hgt, h24, e1]; refine hK _ _ ?_; clear hK K) | (refine lrun_stepG rfl (by decide) (by decide) ?_; intro K hK; simp [h5, hp, k3, hgt, h24, e1]; refine hK _ _ ?_; clear hK K) | (refine lrun_stepN ?_; intro K hK; simp [h5, hp, k3, hgt, h24, e1]; refine hK _ _ ?_; clear hK K) | refine LW.seq ?_ | refine LW.block ?_ | refine LW.ops ?_ | refine LW.skip ?_ | refine LW.ret ?_ | refine LW.exit ?_ | refine LW.label ?_ | refine thn_n ?_ | refine thn_r ?_ | refine thn_e ?_ | refine inb_n ?_ | refine inb_r ?_ | refine inb_x ?_ | refine inb_e (by decide) ?_ | (refine LW.ct ?_ ?_; · simp [h5, hp, k3, hgt, h24, e1]; done) | (refine LW.cf ?_ ?_; · simp [h5, hp, k3, hgt, h24, e1]; done) | fail)
          refine hZ3 _ _ ⟨a.length - (i + 1), by omega, i + 1, es2, by omega, rfl, by simp [h5], by simp [h22], by simp [h23], by simp, rfl, ?_, good ⟨hp', hq0.1 h0⟩⟩
          rw [hfun]
          exact hc'
        · have hgt : (1 : Int) < (q : Int) + 1 := by omega
          have hr := bad (fun h => h0 (hq0.2 h.2))
          repeat (first | refine LW.seq_ops ?_ | refine lrun_end ?_ | (refine lrun_step (by decide) ?_; intro K hK; simp [h5, hp, k3, hgt]; refine hK _ _ ?_; clear hK K) | (refine lrun_stepG rfl (by decide) (by decide) ?_; intro K hK; simp [h5, hp, k3, hgt]; refine hK _ _ ?_; clear hK K) | (refine lrun_stepN ?_; intro K hK; simp [h5, hp, k3, hgt]; refine hK _ _ ?_; clear hK K) | refine LW.seq ?_ | refine LW.block ?_ | refine LW.ops ?_ | refine LW.skip ?_ | refine LW.ret ?_ | refine LW.exit ?_ | refine LW.label ?_ | refine thn_n ?_ | refine thn_r ?_ | refine thn_e ?_ | refine inb_n ?_ | refine inb_r ?_ | refine inb_x ?_ | refine inb_e (by decide) ?_ | (refine LW.ct ?_ ?_; · simp [h5, hp, k3, hgt]; done) | (refine LW.cf ?_ ?_; · simp [h5, hp, k3, hgt]; done) | fail)
          refine hZ3 _ _ ?_
          repeat (first | refine LW.seq_ops ?_ | refine lrun_end ?_ | (refine lrun_step (by decide) ?_; intro K hK; simp; refine hK _ _ ?_; clear hK K) | (refine lrun_stepG rfl (by decide) (by decide) ?_; intro K hK; simp; refine hK _ _ ?_; clear hK K) | (refine lrun_stepN ?_; intro K hK; simp; refine hK _ _ ?_; clear hK K) | refine LW.seq ?_ | refine LW.block ?_ | refine LW.ops ?_ | refine LW.skip ?_ | refine LW.ret ?_ | refine LW.exit ?_ | refine LW.label ?_ | refine thn_n ?_ | refine thn_r ?_ | refine thn_e ?_ | refine inb_n ?_ | refine inb_r ?_ | refine inb_x ?_ | refine inb_e (by decide) ?_ | (refine LW.ct ?_ ?_; · simp; done) | (refine LW.cf ?_ ?_; · simp; done) | fail)
          refine hZ _ _ ⟨.inr rfl, .b false, by simp [lres, lres1, Tryd.f17], leave_drop (.b _) ⟨by simp [hr], rfl⟩⟩
      · have hr := bad (fun h => hp (by simpa [isPage] using h.1))
        repeat (first | refine LW.seq_ops ?_ | refine lrun_end ?_ | (refine lrun_step (by decide) ?_; intro K hK; simp [hp]; refine hK _ _ ?_; clear hK K) | (refine lrun_stepG rfl (by decide) (by decide) ?_; intro K hK; simp [hp]; refine hK _ _ ?_; clear hK K) | (refine lrun_stepN ?_; intro K hK; simp [hp]; refine hK _ _ ?_; clear hK K) | refine LW.seq ?_ | refine LW.block ?_ | refine LW.ops ?_ | refine LW.skip ?_ | refine LW.ret ?_ | refine LW.exit ?_ | refine LW.label ?_ | refine thn_n ?_ | refine thn_r ?_ | refine thn_e ?_ | refine inb_n ?_ | refine inb_r ?_ | refine inb_x ?_ | refine inb_e (by decide) ?_ | (refine LW.ct ?_ ?_; · simp [hp]; done) | (refine LW.cf ?_ ?_; · simp [hp]; done) | fail)
        refine hZ3 _ _ ?_
        repeat (first | refine LW.seq_ops ?_ | refine lrun_end ?_ | (refine lrun_step (by decide) ?_; intro K hK; simp; refine hK _ _ ?_; clear hK K) | (refine lrun_stepG rfl (by decide) (by decide) ?_; intro K hK; simp; refine hK _ _ ?_; clear hK K) | (refine lrun_stepN ?_; intro K hK; simp; refine hK _ _ ?_; clear hK K) | refine LW.seq ?_ | refine LW.block ?_ | refine LW.ops ?_ | refine LW.skip ?_ | refine LW.ret ?_ | refine LW.exit ?_ | refine LW.label ?_ | refine thn_n ?_ | refine thn_r ?_ | refine thn_e ?_ | refine inb_n ?_ | refine inb_r ?_ | refine inb_x ?_ | refine inb_e (by decide) ?_ | (refine LW.ct ?_ ?_; · simp; done) | (refine LW.cf ?_ ?_; · simp; done) | fail)
        refine hZ _ _ ⟨.inr rfl, .b false, by simp [lres, lres1, Tryd.f17], leave_drop (.b _) ⟨by simp [hr], rfl⟩⟩
    · have hr : Apart a l := fun j hj => hall j hj (by omega)
      repeat (first | refine LW.seq_ops ?_ | refine lrun_end ?_ | (refine lrun_step (by decide) ?_; intro K hK; simp; refine hK _ _ ?_; clear hK K) | (refine lrun_stepG rfl (by decide) (by decide) ?_; intro K hK; simp; refine hK _ _ ?_; clear hK K) | (refine lrun_stepN ?_; intro K hK; simp; refine hK _ _ ?_; clear hK K) | refine LW.seq ?_ | refine LW.block ?_ | refine LW.ops ?_ | refine LW.skip ?_ | refine LW.ret ?_ | refine LW.exit ?_ | refine LW.label ?_ | refine thn_n ?_ | refine thn_r ?_ | refine thn_e ?_ | refine inb_n ?_ | refine inb_r ?_ | refine inb_x ?_ | refine inb_e (by decide) ?_ | (refine LW.ct ?_ ?_; · simp; done) | (refine LW.cf ?_ ?_; · simp; done) | fail)
      refine hZ3 _ _ ?_
      repeat (first | refine LW.seq_ops ?_ | refine lrun_end ?_ | (refine lrun_step (by decide) ?_; intro K hK; simp; refine hK _ _ ?_; clear hK K) | (refine lrun_stepG rfl (by decide) (by decide) ?_; intro K hK; simp; refine hK _ _ ?_; clear hK K) | (refine lrun_stepN ?_; intro K hK; simp; refine hK _ _ ?_; clear hK K) | refine LW.seq ?_ | refine LW.block ?_ | refine LW.ops ?_ | refine LW.skip ?_ | refine LW.ret ?_ | refine LW.exit ?_ | refine LW.label ?_ | refine thn_n ?_ | refine thn_r ?_ | refine thn_e ?_ | refine inb_n ?_ | refine inb_r ?_ | refine inb_x ?_ | refine inb_e (by decide) ?_ | (refine LW.ct ?_ ?_; · simp; done) | (refine LW.cf ?_ ?_; · simp; done) | fail)
      refine hZ _ _ ⟨.inr rfl, .b true, by simp [lres, lres1, Tryd.f17], leave_drop (.b _) ⟨by simp [hr], rfl⟩⟩
end Go.Lw
