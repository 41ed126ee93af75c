/- list.Put -/
import Derived.Test.YtopmghfjdpdncaaDoorF16
import Derived.Test.YtopmghfjdpdncaaDoorF17
import Derived.Test.YtopmghfjdpdncaaDoorF19
set_option linter.unusedSimpArgs false
set_option linter.unusedVariables false
namespace Go.Lw
open Go Go.Proofs Go.RowKit
variable {G : List (Nat × List V)}
attribute [local irreducible] LW callK LC lany lrun ldo oK oK2 oKH gK yieldK LY

/-- The numbers of one page. -/
def part (l : List Int) (i : Nat) : List Int := (l.drop (i * 59)).take 59
/-- What a page has. -/
def cellOf (l a : List Int) (i : Nat) : List UInt8 := (a.getD (i + 1) 0 :: part l i).flatMap fun n => numB n.toNat 2
def pagesOf (l a : List Int) (i : Nat) : List (List UInt8) := (List.range i).map fun i => pageOf 4 [cellOf l a i]
/-- May pages be put? -/
def Puts (l a : List Int) : Prop := Rising l ∧ need l.length ≤ a.length ∧ Apart a l
instance (l a : List Int) : Decidable (Puts l a) := inferInstanceAs (Decidable (Rising l ∧ need l.length ≤ a.length ∧ Apart a l))

theorem part_eq (l : List Int) (i : Nat) : (l.take (min (min (i * 59) l.length + 59) l.length)).drop (min (i * 59) l.length) = part l i := by
  unfold part
  rw [List.drop_take]
  rcases Nat.lt_or_ge (i * 59) l.length with h | h
  · rw [Nat.min_eq_left (by omega : i * 59 ≤ l.length)]
    rcases Nat.lt_or_ge (i * 59 + 59) l.length with h2 | h2
    · rw [Nat.min_eq_left (by omega)]
      congr 1
      omega
    · rw [Nat.min_eq_right (by omega), List.take_of_length_le (by simp), List.take_of_length_le (by simp; omega)]
  · rw [Nat.min_eq_right h, List.drop_length, List.drop_of_length_le h]
    simp

theorem part_length (l : List Int) (i : Nat) : (part l i).length ≤ 59 := by simp [part]; omega
theorem part_mem {l : List Int} {i : Nat} {x : Int} (h : x ∈ part l i) : x ∈ l := List.mem_of_mem_drop (List.mem_of_mem_take h)

theorem bytes_len (ns : List Int) : (ns.flatMap fun n => numB n.toNat 2).length = 2 * ns.length := by
  induction ns with
  | nil => rfl
  | cons n ns ih => simp [numB_length, ih]; omega

theorem cellOf_length (l a : List Int) (i : Nat) : 2 ≤ (cellOf l a i).length ∧ (cellOf l a i).length ≤ 120 := by
  unfold cellOf
  rw [bytes_len]
  have := part_length l i
  simp
  omega

theorem put_fail {H H' : List LB} (hH : ∃ J, H' = H ++ J) {R : V → List LB → Prop} (hr : R (.t [bbl [], .i .i64 1]) H) : Leave H H' (.t [.nsl, .i .i64 1]) R := by
  obtain ⟨J, rfl⟩ := hH
  refine leave_pur (v' := .t [bbl [], .i .i64 1]) (.t rfl fun q x y h1 h2 => ?_) hr
  match q with
  | 0 => simp at h1 h2; subst h1 h2; exact .nsl
  | 1 => simp at h1 h2; subst h1 h2; exact .lt (.i _ _)
  | q + 2 => simp at h1

theorem Own.ext {k : Nat} {H H2 : List LB} {v : V} {z : Nat} {e : TypeId} {cs : List V} (h : Own k H v z e cs) (hh : ∀ r, r < H.length → H2[r]? = H[r]?) : Own k H2 v z e cs := by
  rcases h with h | ⟨r, n, h1, h2, h3, h4⟩
  · exact .inl h
  · exact .inr ⟨r, n, h1, h2, by rw [hh r (List.getElem?_eq_some_iff.1 h3).1]; exact h3, h4⟩

theorem get_lt_take {H H' : List LB} (h : H'.take H.length = H) (r : Nat) (hr : r < H.length) : H'[r]? = H[r]? := by
  have := congrArg (fun z => z[r]?) h
  simp only [List.getElem?_take_of_lt hr] at this
  exact this

theorem retell_two (H : List LB) (a b : Nat) : Retell H ((H.set a .dead).set b .dead) := by
  refine retell_deads (by simp) fun r => ?_
  rw [List.getElem?_set, List.getElem?_set]
  by_cases h1 : b = r
  · subst h1
    by_cases h2 : b < H.length
    · right; simp [h2]
    · left; simp [h2]
  · rw [if_neg h1]
    by_cases h3 : a = r
    · subst h3
      by_cases h2 : a < H.length
      · right; simp [h2]
      · left; simp [h2]
    · left; rw [if_neg h3]

theorem put_LC (hG : G.lookup 0 = some halfV) (hG0 : ∀ g cs, (g, cs) ∈ G → V.Lt 0 (.ep cs 0)) (l a : List Int) (hl : l.length ≤ 400) (ha : a.length ≤ 20) (H : List LB) :
    LC Tryd.prog G 5 [isl l, isl a] H fun v H' => v = (if Puts l a then .t [bbl (pagesOf l a a.length), .i .i64 0] else .t [bbl [], .i .i64 1]) ∧ H' = H := by
  refine LC.of_walk Tryd.f5 89 (by kernel_rfl) (by kernel_rfl) rfl rfl fun Z hZ => ?_
  have fail : ¬ Puts l a → ∀ t : Nat → V, t 4 = .nsl → t 5 = .i .i64 1 → Z .ret ⟨t, H⟩ := fun h t h4 h5 =>
    hZ _ _ ⟨.inr rfl, .t [.nsl, .i .i64 1], by simp [lres, lres1, Tryd.f5, h4, h5], put_fail ⟨[], by simp⟩ ⟨by rw [if_neg h], rfl⟩⟩
  repeat (first | refine LW.seq_ops ?_ | refine lrun_end ?_ | (refine lrun_step (by decide) ?_; intro K hK; simp; refine hK _ _ ?_; clear hK K) | (refine lrun_stepG rfl (by decide) (by decide) ?_; intro K hK; simp; refine hK _ _ ?_; clear hK K) | (refine lrun_stepN ?_; intro K hK; simp; refine hK _ _ ?_; clear hK K) | refine LW.seq ?_ | refine LW.block ?_ | refine LW.ops ?_ | refine LW.skip ?_ | refine LW.ret ?_ | refine LW.exit ?_ | refine LW.label ?_ | refine thn_n ?_ | refine thn_r ?_ | refine thn_e ?_ | refine inb_n ?_ | refine inb_r ?_ | refine inb_x ?_ | refine inb_e (by decide) ?_ | (refine LW.ct ?_ ?_; · simp; done) | (refine LW.cf ?_ ?_; · simp; done) | fail)
  refine lrun_step (by decide) ?_; intro K hK; simp
  refine callK.by (rising_LC l (by omega) _) ?_
  rintro v H' ⟨rfl, rfl⟩
  refine hK _ _ ?_; clear hK K
  by_cases hr : Rising l
  rotate_left
  · repeat (first | refine LW.seq_ops ?_ | refine lrun_end ?_ | (refine lrun_step (by decide) ?_; intro K hK; simp [hr]; refine hK _ _ ?_; clear hK K) | (refine lrun_stepG rfl (by decide) (by decide) ?_; intro K hK; simp [hr]; refine hK _ _ ?_; clear hK K) | (refine lrun_stepN ?_; intro K hK; simp [hr]; refine hK _ _ ?_; clear hK K) | refine LW.seq ?_ | refine LW.block ?_ | refine LW.ops ?_ | refine LW.skip ?_ | refine LW.ret ?_ | refine LW.exit ?_ | refine LW.label ?_ | refine thn_n ?_ | refine thn_r ?_ | refine thn_e ?_ | refine inb_n ?_ | refine inb_r ?_ | refine inb_x ?_ | refine inb_e (by decide) ?_ | (refine LW.ct ?_ ?_; · simp [hr]; done) | (refine LW.cf ?_ ?_; · simp [hr]; done) | fail)
    exact fail (fun h => hr h.1) _ (by simp) (by simp)
  repeat (first | refine LW.seq_ops ?_ | refine lrun_end ?_ | (refine lrun_step (by decide) ?_; intro K hK; simp [hr, llen_isl ty22]; refine hK _ _ ?_; clear hK K) | (refine lrun_stepG rfl (by decide) (by decide) ?_; intro K hK; simp [hr, llen_isl ty22]; refine hK _ _ ?_; clear hK K) | (refine lrun_stepN ?_; intro K hK; simp [hr, llen_isl ty22]; refine hK _ _ ?_; clear hK K) | refine LW.seq ?_ | refine LW.block ?_ | refine LW.ops ?_ | refine LW.skip ?_ | refine LW.ret ?_ | refine LW.exit ?_ | refine LW.label ?_ | refine thn_n ?_ | refine thn_r ?_ | refine thn_e ?_ | refine inb_n ?_ | refine inb_r ?_ | refine inb_x ?_ | refine inb_e (by decide) ?_ | (refine LW.ct ?_ ?_; · simp [hr, llen_isl ty22]; done) | (refine LW.cf ?_ ?_; · simp [hr, llen_isl ty22]; done) | fail)
  refine lrun_stepG rfl (by decide) (by decide) ?_; intro K hK; simp
  refine callK.by (need_LC l.length (by omega) _) ?_
  rintro v H' ⟨rfl, rfl⟩
  refine hK _ _ ?_; clear hK K
  by_cases hn : need l.length ≤ a.length
  rotate_left
  · have hn2 : (a.length : Int) < need l.length := by omega
    repeat (first | refine LW.seq_ops ?_ | refine lrun_end ?_ | (refine lrun_step (by decide) ?_; intro K hK; simp [hn2]; refine hK _ _ ?_; clear hK K) | (refine lrun_stepG rfl (by decide) (by decide) ?_; intro K hK; simp [hn2]; refine hK _ _ ?_; clear hK K) | (refine lrun_stepN ?_; intro K hK; simp [hn2]; refine hK _ _ ?_; clear hK K) | refine LW.seq ?_ | refine LW.block ?_ | refine LW.ops ?_ | refine LW.skip ?_ | refine LW.ret ?_ | refine LW.exit ?_ | refine LW.label ?_ | refine thn_n ?_ | refine thn_r ?_ | refine thn_e ?_ | refine inb_n ?_ | refine inb_r ?_ | refine inb_x ?_ | refine inb_e (by decide) ?_ | (refine LW.ct ?_ ?_; · simp [hn2]; done) | (refine LW.cf ?_ ?_; · simp [hn2]; done) | fail)
    exact fail (fun h => hn h.2.1) _ (by simp) (by simp)
  have hn2 : ¬ (a.length : Int) < need l.length := by omega
  repeat (first | refine LW.seq_ops ?_ | refine lrun_end ?_ | (refine lrun_step (by decide) ?_; intro K hK; simp [hn2]; refine hK _ _ ?_; clear hK K) | (refine lrun_stepG rfl (by decide) (by decide) ?_; intro K hK; simp [hn2]; refine hK _ _ ?_; clear hK K) | (refine lrun_stepN ?_; intro K hK; simp [hn2]; refine hK _ _ ?_; clear hK K) | refine LW.seq ?_ | refine LW.block ?_ | refine LW.ops ?_ | refine LW.skip ?_ | refine LW.ret ?_ | refine LW.exit ?_ | refine LW.label ?_ | refine thn_n ?_ | refine thn_r ?_ | refine thn_e ?_ | refine inb_n ?_ | refine inb_r ?_ | refine inb_x ?_ | refine inb_e (by decide) ?_ | (refine LW.ct ?_ ?_; · simp [hn2]; done) | (refine LW.cf ?_ ?_; · simp [hn2]; done) | fail)
  refine lrun_stepG rfl (by decide) (by decide) ?_; intro K hK; simp
  refine callK.by (apart_LC a l (by omega) (by omega) _) ?_
  rintro v H' ⟨rfl, rfl⟩
  refine hK _ _ ?_; clear hK K
  by_cases hap : Apart a l
  rotate_left
  · repeat (first | refine LW.seq_ops ?_ | refine lrun_end ?_ | (refine lrun_step (by decide) ?_; intro K hK; simp [hap]; refine hK _ _ ?_; clear hK K) | (refine lrun_stepG rfl (by decide) (by decide) ?_; intro K hK; simp [hap]; refine hK _ _ ?_; clear hK K) | (refine lrun_stepN ?_; intro K hK; simp [hap]; refine hK _ _ ?_; clear hK K) | refine LW.seq ?_ | refine LW.block ?_ | refine LW.ops ?_ | refine LW.skip ?_ | refine LW.ret ?_ | refine LW.exit ?_ | refine LW.label ?_ | refine thn_n ?_ | refine thn_r ?_ | refine thn_e ?_ | refine inb_n ?_ | refine inb_r ?_ | refine inb_x ?_ | refine inb_e (by decide) ?_ | (refine LW.ct ?_ ?_; · simp [hap]; done) | (refine LW.cf ?_ ?_; · simp [hap]; done) | fail)
    exact fail (fun h => hap h.2.2) _ (by simp) (by simp)
  have hP : Puts l a := ⟨hr, hn, hap⟩
  clear fail
  repeat (first | refine LW.seq_ops ?_ | refine lrun_end ?_ | (refine lrun_step (by decide) ?_; intro K hK; simp [hap, llen_isl ty22]; refine hK _ _ ?_; clear hK K) | (refine lrun_stepG rfl (by decide) (by decide) ?_; intro K hK; simp [hap, llen_isl ty22]; refine hK _ _ ?_; clear hK K) | (refine lrun_stepN ?_; intro K hK; simp [hap, llen_isl ty22]; refine hK _ _ ?_; clear hK K) | refine LW.seq ?_ | refine LW.block ?_ | refine LW.ops ?_ | refine LW.skip ?_ | refine LW.ret ?_ | refine LW.exit ?_ | refine LW.label ?_ | refine thn_n ?_ | refine thn_r ?_ | refine thn_e ?_ | refine inb_n ?_ | refine inb_r ?_ | refine inb_x ?_ | refine inb_e (by decide) ?_ | (refine LW.ct ?_ ?_; · simp [hap, llen_isl ty22]; done) | (refine LW.cf ?_ ?_; · simp [hap, llen_isl ty22]; done) | fail)
  refine LW.loopN (fun m s => ∃ (i : Nat) (J : List LB), i ≤ a.length ∧ m = a.length - i ∧ s.t 0 = isl l ∧ s.t 1 = isl a ∧ s.t 32 = isl a ∧ s.t 33 = .i .i64 a.length ∧ s.t 34 = .i .i64 i ∧ s.H = H' ++ J ∧ Own H'.length s.H (s.t 6) 1 32 ((pagesOf l a i).map bsl)) (m := a.length)
    ⟨0, [], by omega, by omega, by simp, by simp, by simp, by simp, by simp, by simp, .inl ⟨by simp, rfl⟩⟩ ?_
  rintro m ⟨t, H2⟩ ⟨i, J, hi, rfl, h0, h1, h32, h33, h34, hJ, hown⟩
  dsimp only at h0 h1 h32 h33 h34 hi hJ hown
  refine LW.toK fun Z2 hZ2 => ?_
  repeat (first | refine LW.seq_ops ?_ | refine lrun_end ?_ | (refine lrun_step (by decide) ?_; intro K hK; simp [h33, h34]; refine hK _ _ ?_; clear hK K) | (refine lrun_stepG rfl (by decide) (by decide) ?_; intro K hK; simp [h33, h34]; refine hK _ _ ?_; clear hK K) | (refine lrun_stepN ?_; intro K hK; simp [h33, h34]; refine hK _ _ ?_; clear hK K) | refine LW.seq ?_ | refine LW.block ?_ | refine LW.ops ?_ | refine LW.skip ?_ | refine LW.ret ?_ | refine LW.exit ?_ | refine LW.label ?_ | refine thn_n ?_ | refine thn_r ?_ | refine thn_e ?_ | refine inb_n ?_ | refine inb_r ?_ | refine inb_x ?_ | refine inb_e (by decide) ?_ | (refine LW.ct ?_ ?_; · simp [h33, h34]; done) | (refine LW.cf ?_ ?_; · simp [h33, h34]; done) | fail)
  refine LW.dec (p := i < a.length) (by simp) (fun h2 => ?_) (fun h2 => ?_)
  rotate_left
  · obtain rfl : i = a.length := by omega
    repeat (first | refine LW.seq_ops ?_ | refine lrun_end ?_ | (refine lrun_step (by decide) ?_; intro K hK; simp; refine hK _ _ ?_; clear hK K) | (refine lrun_stepG rfl (by decide) (by decide) ?_; intro K hK; simp; refine hK _ _ ?_; clear hK K) | (refine lrun_stepN ?_; intro K hK; simp; refine hK _ _ ?_; clear hK K) | refine LW.seq ?_ | refine LW.block ?_ | refine LW.ops ?_ | refine LW.skip ?_ | refine LW.ret ?_ | refine LW.exit ?_ | refine LW.label ?_ | refine thn_n ?_ | refine thn_r ?_ | refine thn_e ?_ | refine inb_n ?_ | refine inb_r ?_ | refine inb_x ?_ | refine inb_e (by decide) ?_ | (refine LW.ct ?_ ?_; · simp; done) | (refine LW.cf ?_ ?_; · simp; done) | fail)
    refine hZ2 _ _ ?_
    repeat (first | refine LW.seq_ops ?_ | refine lrun_end ?_ | (refine lrun_step (by decide) ?_; intro K hK; simp; refine hK _ _ ?_; clear hK K) | (refine lrun_stepG rfl (by decide) (by decide) ?_; intro K hK; simp; refine hK _ _ ?_; clear hK K) | (refine lrun_stepN ?_; intro K hK; simp; refine hK _ _ ?_; clear hK K) | refine LW.seq ?_ | refine LW.block ?_ | refine LW.ops ?_ | refine LW.skip ?_ | refine LW.ret ?_ | refine LW.exit ?_ | refine LW.label ?_ | refine thn_n ?_ | refine thn_r ?_ | refine thn_e ?_ | refine inb_n ?_ | refine inb_r ?_ | refine inb_x ?_ | refine inb_e (by decide) ?_ | (refine LW.ct ?_ ?_; · simp; done) | (refine LW.cf ?_ ?_; · simp; done) | fail)
    subst hJ
    refine hZ _ _ ⟨.inr rfl, .t [t 6, .i .i64 0], by simp [lres, lres1, Tryd.f5], leave_pur (v' := .t [bbl (pagesOf l a a.length), .i .i64 0]) (.t rfl fun q x y e1 e2 => ?_) ⟨by rw [if_pos hP], rfl⟩⟩
    match q with
    | 0 =>
      simp at e1 e2
      subst e1 e2
      refine hown.pur fun x hx => ?_
      obtain ⟨p, _, rfl⟩ := List.mem_map.1 hx
      exact ⟨lt_bsl, rfl⟩
    | 1 => simp at e1 e2; subst e1 e2; exact .lt (.i _ _)
    | q + 2 => simp at e1
  · have e1 : IntKind.i64.wrap ((i : Int) * 59) = (i : Int) * 59 := wrap_i64 (by omega) (by omega)
    have e2 : IntKind.i64.wrap ((i : Int) + 1) = (i : Int) + 1 := wrap_i64 (by omega) (by omega)
    have hF : (if (l.length : Int) < (i : Int) * 59 then (l.length : Int) else (i : Int) * 59) = ((min (i * 59) l.length : Nat) : Int) := by split <;> omega
    repeat (first | refine LW.seq_ops ?_ | refine lrun_end ?_ | (refine lrun_step (by decide) ?_; intro K hK; simp [h0, h1, h34, llen_isl ty22, e1, e2, hF]; refine hK _ _ ?_; clear hK K) | (refine lrun_stepG rfl (by decide) (by decide) ?_; intro K hK; simp [h0, h1, h34, llen_isl ty22, e1, e2, hF]; refine hK _ _ ?_; clear hK K) | (refine lrun_stepN ?_; intro K hK; simp [h0, h1, h34, llen_isl ty22, e1, e2, hF]; refine hK _ _ ?_; clear hK K) | refine LW.seq ?_ | refine LW.block ?_ | refine LW.ops ?_ | refine LW.skip ?_ | refine LW.ret ?_ | refine LW.exit ?_ | refine LW.label ?_ | refine thn_n ?_ | refine thn_r ?_ | refine thn_e ?_ | refine inb_n ?_ | refine inb_r ?_ | refine inb_x ?_ | refine inb_e (by decide) ?_ | (refine LW.ct ?_ ?_; · simp [h0, h1, h34, llen_isl ty22, e1, e2, hF]; done) | (refine LW.cf ?_ ?_; · simp [h0, h1, h34, llen_isl ty22, e1, e2, hF]; done) | fail)
    refine LW.toK fun Z4 hZ4 => ?_
    have go : ∀ t' : Nat → V, t' 0 = isl l → t' 1 = isl a → t' 32 = isl a → t' 33 = .i .i64 a.length → t' 34 = .i .i64 i → t' 6 = t 6 → t' 8 = .i .i64 (a.getD (i + 1) 0) → t' 9 = .i .i64 ((min (i * 59) l.length : Nat) : Int) → Z4 .normal ⟨t', H2⟩ := fun t' g0 g1 g32 g33 g34 g6 g8 g9 => by
      refine hZ4 _ _ ?_
      have f1 : IntKind.i64.wrap (((min (i * 59) l.length : Nat) : Int) + 59) = ((min (i * 59) l.length + 59 : Nat) : Int) := by rw [wrap_i64 (by omega) (by omega)]; omega
      have f2 : (if l.length < min (i * 59) l.length + 59 then (l.length : Int) else ((min (i * 59) l.length + 59 : Nat) : Int)) = ((min (min (i * 59) l.length + 59) l.length : Nat) : Int) := by split <;> omega
      have f3 := lslice_isl (P := Tryd.prog) (k := .i64) (l := l) (t := 22) (e := 3) (a := min (i * 59) l.length) (b := min (min (i * 59) l.length + 59) l.length) ty22 sz3 (by omega) (by omega)
      rw [part_eq] at f3
      have f4 := lbslice_one (P := Tryd.prog) (H := H2) (t := 22) (e := 3) (v := .i .i64 (a.getD (i + 1) 0)) ty22 sz3 ze3 rfl rfl rfl
      have hnx : 0 ≤ a.getD (i + 1) 0 ∧ a.getD (i + 1) 0 ≤ 999 := by
        rw [List.getD_eq_getElem?_getD]
        rcases Nat.lt_or_ge (i + 1) a.length with h | h
        · rw [List.getElem?_eq_getElem h]
          have := (hap (i + 1) h).1
          simp only [Option.getD_some]
          omega
        · rw [List.getElem?_eq_none h]
          simp
      have hpt : ∀ x ∈ part l i, 0 ≤ x ∧ x ≤ 999 := fun x hx => by
        obtain ⟨j, hj⟩ := List.getElem?_of_mem (part_mem hx)
        have hjl := (List.getElem?_eq_some_iff.1 hj).1
        have := (hr j hjl).1
        rw [List.getD_eq_getElem?_getD, hj] at this
        simp only [Option.getD_some] at this
        omega
      have hpl := part_length l i
      have hcell : cellOf l a i = (a.getD (i + 1) 0 :: part l i).flatMap fun n => numB n.toNat 2 := rfl
      generalize a.getD (i + 1) 0 = nx at *
      generalize hpp : part l i = pt at *
      generalize hFF : min (i * 59) l.length = FF at *
      generalize hF59 : FF + 59 = F59 at *
      generalize hTT : min F59 l.length = TT at *
      repeat (first | refine LW.seq_ops ?_ | refine lrun_end ?_ | (refine lrun_step (by decide) ?_; intro K hK; simp [g0, g1, g8, g9, llen_isl ty22, f1, f2, f3, f4]; refine hK _ _ ?_; clear hK K) | (refine lrun_stepG rfl (by decide) (by decide) ?_; intro K hK; simp [g0, g1, g8, g9, llen_isl ty22, f1, f2, f3, f4]; refine hK _ _ ?_; clear hK K) | (refine lrun_stepN ?_; intro K hK; simp [g0, g1, g8, g9, llen_isl ty22, f1, f2, f3, f4]; refine hK _ _ ?_; clear hK K) | refine LW.seq ?_ | refine LW.block ?_ | refine LW.ops ?_ | refine LW.skip ?_ | refine LW.ret ?_ | refine LW.exit ?_ | refine LW.label ?_ | refine thn_n ?_ | refine thn_r ?_ | refine thn_e ?_ | refine inb_n ?_ | refine inb_r ?_ | refine inb_x ?_ | refine inb_e (by decide) ?_ | (refine LW.ct ?_ ?_; · simp [g0, g1, g8, g9, llen_isl ty22, f1, f2, f3, f4]; done) | (refine LW.cf ?_ ?_; · simp [g0, g1, g8, g9, llen_isl ty22, f1, f2, f3, f4]; done) | fail)
      refine lrun_step (by decide) ?_; intro K hK; simp
      refine append_lit (P := Tryd.prog) (H := H2) (ats := #[22, 22]) (e := 3) (zv := .int .i64 0) (by_ := 8) (x := isl pt) (cs := [V.i .i64 nx]) (news := pt.map (V.i .i64)) (m := pt.length) rfl rfl ty22 ty22 rfl nf3 rfl (lsrc_isl pt) (by simp) (by simp) (by simp; omega) (by simp; omega) ?_
      rintro v' H3 r' c' x' rfl hr' hrl htk hl3
      refine hK _ _ ?_; clear hK K
      have hlen3 : [V.i .i64 nx].length + (pt.map (V.i .i64)).length = pt.length + 1 := by simp; omega
      rw [hlen3]
      repeat (first | refine LW.seq_ops ?_ | refine lrun_end ?_ | (refine lrun_step (by decide) ?_; intro K hK; simp [llen_own ty22]; refine hK _ _ ?_; clear hK K) | (refine lrun_stepG rfl (by decide) (by decide) ?_; intro K hK; simp [llen_own ty22]; refine hK _ _ ?_; clear hK K) | (refine lrun_stepN ?_; intro K hK; simp [llen_own ty22]; refine hK _ _ ?_; clear hK K) | refine LW.seq ?_ | refine LW.block ?_ | refine LW.ops ?_ | refine LW.skip ?_ | refine LW.ret ?_ | refine LW.exit ?_ | refine LW.label ?_ | refine thn_n ?_ | refine thn_r ?_ | refine thn_e ?_ | refine inb_n ?_ | refine inb_r ?_ | refine inb_x ?_ | refine inb_e (by decide) ?_ | (refine LW.ct ?_ ?_; · simp [llen_own ty22]; done) | (refine LW.cf ?_ ?_; · simp [llen_own ty22]; done) | fail)
      have hk3 : r' < H3.length := (List.getElem?_eq_some_iff.1 hr').1
      have hns : ∀ x ∈ nx :: pt, 0 ≤ x ∧ x ≤ 999 := fun x hx => by
        rcases List.mem_cons.1 hx with rfl | hx
        · exact hnx
        · exact hpt x hx
      have hcs : [V.i .i64 nx] ++ pt.map (V.i .i64) = (nx :: pt).map (V.i .i64) := rfl
      rw [hcs] at hr'
      have hN : (nx :: pt).length = pt.length + 1 := rfl
      refine LW.loopN (fun m s => ∃ j : Nat, j ≤ pt.length + 1 ∧ m = pt.length + 1 - j ∧ s.t 0 = isl l ∧ s.t 1 = isl a ∧ s.t 32 = isl a ∧ s.t 33 = .i .i64 a.length ∧ s.t 34 = .i .i64 i ∧ s.t 6 = t 6 ∧ s.t 62 = .own r' 0 (pt.length + 1) c' x' ∧ s.t 63 = .i .i64 ((pt.length + 1 : Nat) : Int) ∧ s.t 64 = .i .i64 j ∧
          s.H.take H3.length = H3 ∧ H3.length ≤ s.H.length ∧ Own H3.length s.H (s.t 10) 1 5 (bcs (((nx :: pt).take j).flatMap fun n => numB n.toNat 2))) (m := pt.length + 1)
        ⟨0, by omega, by omega, by simp [g0], by simp [g1], by simp [g32], by simp [g33], by simp [g34], by simp [g6], by simp, by simp, by simp, by simp, Nat.le_refl _, .inl ⟨by simp, rfl⟩⟩ ?_
      rintro m ⟨t2, H4⟩ ⟨j, hj, rfl, k0, k1, k32, k33, k34, k6, k62, k63, k64, htk4, hl4, hown4⟩
      dsimp only at k0 k1 k32 k33 k34 k6 k62 k63 k64 htk4 hl4 hown4
      refine LW.toK fun Z5 hZ5 => ?_
      have hNN : ((pt.length + 1 : Nat) : Int) = (pt.length : Int) + 1 := by omega
      rw [hNN] at k63
      repeat (first | refine LW.seq_ops ?_ | refine lrun_end ?_ | (refine lrun_step (by decide) ?_; intro K hK; simp [k63, k64]; refine hK _ _ ?_; clear hK K) | (refine lrun_stepG rfl (by decide) (by decide) ?_; intro K hK; simp [k63, k64]; refine hK _ _ ?_; clear hK K) | (refine lrun_stepN ?_; intro K hK; simp [k63, k64]; refine hK _ _ ?_; clear hK K) | refine LW.seq ?_ | refine LW.block ?_ | refine LW.ops ?_ | refine LW.skip ?_ | refine LW.ret ?_ | refine LW.exit ?_ | refine LW.label ?_ | refine thn_n ?_ | refine thn_r ?_ | refine thn_e ?_ | refine inb_n ?_ | refine inb_r ?_ | refine inb_x ?_ | refine inb_e (by decide) ?_ | (refine LW.ct ?_ ?_; · simp [k63, k64]; done) | (refine LW.cf ?_ ?_; · simp [k63, k64]; done) | fail)
      refine LW.dec (p := (j : Int) < (pt.length : Int) + 1) (by simp) (fun h5 => ?_) (fun h5 => ?_)
      · have h5' : j < (nx :: pt).length := by rw [hN]; omega
        have d1 := liaddr_own (P := Tryd.prog) (t := 22) (e := 3) (z := 1) (i := j) (k := .i64) (r := r') (o := 0) (n := pt.length + 1) (c := c') (x := x') ty22 sz3 (by omega)
        rw [Nat.zero_add, Nat.mul_one] at d1
        have d2 := lload_p (P := Tryd.prog) (H := H4) (ty := 3) (r := r') (o := j) (y := .i .i64 (nx :: pt)[j]) (get_of_take (by rw [htk4, List.take_length]) hk3 hr') ag3 (by rw [List.getElem?_map, List.getElem?_eq_getElem h5']; rfl)
        have hv := hns _ (List.getElem_mem h5')
        have hbl := bytes_len ((nx :: pt).take j)
        have htakes : ((nx :: pt).take (j + 1)).flatMap (fun n => numB n.toNat 2) = ((nx :: pt).take j).flatMap (fun n => numB n.toNat 2) ++ numB ((nx :: pt)[j]).toNat 2 := by
          rw [List.take_succ_eq_append_getElem h5', List.flatMap_append]
          simp
        rw [List.length_take] at hbl
        generalize ((nx :: pt).take j).flatMap (fun n => numB n.toNat 2) = B at *
        generalize (nx :: pt)[j] = v at *
        have d3 : IntKind.u64.wrap v = ((v.toNat : Nat) : Int) := by rw [wrap_u64 (by omega) (by omega)]; omega
        have d4 : IntKind.i64.wrap ((j : Int) + 1) = (j : Int) + 1 := wrap_i64 (by omega) (by omega)
        generalize hvn : v.toNat = vn at *
        repeat (first | refine LW.seq_ops ?_ | refine lrun_end ?_ | (refine lrun_step (by decide) ?_; intro K hK; simp [k62, k64, d1, d2, convK_int ty3 ty46, d3]; refine hK _ _ ?_; clear hK K) | (refine lrun_stepG rfl (by decide) (by decide) ?_; intro K hK; simp [k62, k64, d1, d2, convK_int ty3 ty46, d3]; refine hK _ _ ?_; clear hK K) | (refine lrun_stepN ?_; intro K hK; simp [k62, k64, d1, d2, convK_int ty3 ty46, d3]; refine hK _ _ ?_; clear hK K) | refine LW.seq ?_ | refine LW.block ?_ | refine LW.ops ?_ | refine LW.skip ?_ | refine LW.ret ?_ | refine LW.exit ?_ | refine LW.label ?_ | refine thn_n ?_ | refine thn_r ?_ | refine thn_e ?_ | refine inb_n ?_ | refine inb_r ?_ | refine inb_x ?_ | refine inb_e (by decide) ?_ | (refine LW.ct ?_ ?_; · simp [k62, k64, d1, d2, convK_int ty3 ty46, d3]; done) | (refine LW.cf ?_ ?_; · simp [k62, k64, d1, d2, convK_int ty3 ty46, d3]; done) | fail)
        refine lrun_step (by decide) ?_; intro K hK; simp
        refine callK.by (num_LC vn 2 (by omega) (by omega) (by omega) _) ?_
        rintro w H5 ⟨rfl, rfl⟩
        refine hK _ _ ?_; clear hK K
        refine lrun_step (by decide) ?_; intro K hK; simp
        have hnl := numB_length vn 2
        refine append_Own (P := Tryd.prog) (ats := #[32, 32]) (e := 5) (zv := .int .u8 0) (by_ := 1) (x := bsl (numB vn 2)) (news := bcs (numB vn 2)) (m := 2) hown4 hl4 rfl rfl ty32 ty32 rfl nf5 (by omega) rfl (by rw [lsrc_bsl, hnl]) (by simp [hnl]) (one_bcs _) (by simp [hnl]; omega) (by simp [hnl]; omega) ?_
        intro w2 H6 ho6 ht6 hl6
        refine hK _ _ ?_; clear hK K
        repeat (first | refine LW.seq_ops ?_ | refine lrun_end ?_ | (refine lrun_step (by decide) ?_; intro K hK; simp [k64, d4]; refine hK _ _ ?_; clear hK K) | (refine lrun_stepG rfl (by decide) (by decide) ?_; intro K hK; simp [k64, d4]; refine hK _ _ ?_; clear hK K) | (refine lrun_stepN ?_; intro K hK; simp [k64, d4]; refine hK _ _ ?_; clear hK K) | refine LW.seq ?_ | refine LW.block ?_ | refine LW.ops ?_ | refine LW.skip ?_ | refine LW.ret ?_ | refine LW.exit ?_ | refine LW.label ?_ | refine thn_n ?_ | refine thn_r ?_ | refine thn_e ?_ | refine inb_n ?_ | refine inb_r ?_ | refine inb_x ?_ | refine inb_e (by decide) ?_ | (refine LW.ct ?_ ?_; · simp [k64, d4]; done) | (refine LW.cf ?_ ?_; · simp [k64, d4]; done) | fail)
        refine hZ5 _ _ ⟨pt.length + 1 - (j + 1), by omega, j + 1, by omega, rfl, by simp [k0], by simp [k1], by simp [k32], by simp [k33], by simp [k34], by simp [k6], by simp [k62], by simp [k63], by simp, by rw [ht6]; exact htk4, hl6, ?_⟩
        rw [htakes]
        simpa [bcs] using ho6
      · obtain rfl : j = pt.length + 1 := by omega
        have hfull : (nx :: pt).take (pt.length + 1) = nx :: pt := List.take_of_length_le (by simp)
        rw [hfull, ← hcell] at hown4
        have hcl := cellOf_length l a i
        generalize hcc : cellOf l a i = cell at *
        repeat (first | refine LW.seq_ops ?_ | refine lrun_end ?_ | (refine lrun_step (by decide) ?_; intro K hK; simp; refine hK _ _ ?_; clear hK K) | (refine lrun_stepG rfl (by decide) (by decide) ?_; intro K hK; simp; refine hK _ _ ?_; clear hK K) | (refine lrun_stepN ?_; intro K hK; simp; refine hK _ _ ?_; clear hK K) | refine LW.seq ?_ | refine LW.block ?_ | refine LW.ops ?_ | refine LW.skip ?_ | refine LW.ret ?_ | refine LW.exit ?_ | refine LW.label ?_ | refine thn_n ?_ | refine thn_r ?_ | refine thn_e ?_ | refine inb_n ?_ | refine inb_r ?_ | refine inb_x ?_ | refine inb_e (by decide) ?_ | (refine LW.ct ?_ ?_; · simp; done) | (refine LW.cf ?_ ?_; · simp; done) | fail)
        refine hZ5 _ _ ?_
        rcases hown4 with ⟨_, h0'⟩ | ⟨rc, nc, hv10, hkc, hrc, hlc⟩
        · have := congrArg List.length h0'
          simp at this
          rw [this] at hcl
          simp at hcl
        · have hlc' : cell.length = nc := by simpa using hlc
          have hrcl : rc < H4.length := (List.getElem?_eq_some_iff.1 hrc).1
          have f5 := lbslice_one (P := Tryd.prog) (H := H4) (t := 25) (e := 32) (v := .own rc 0 nc nc 1) ty25 sz32 ze32 rfl rfl rfl
          have hget : (H4 ++ [LB.c [.own rc 0 nc nc 1] 32 true])[rc]? = some (.c (bcs cell) 5 true) := by rw [List.getElem?_append_left hrcl]; exact hrc
          repeat (first | refine LW.seq_ops ?_ | refine lrun_end ?_ | (refine lrun_step (by decide) ?_; intro K hK; simp [hv10, f5]; refine hK _ _ ?_; clear hK K) | (refine lrun_stepG rfl (by decide) (by decide) ?_; intro K hK; simp [hv10, f5]; refine hK _ _ ?_; clear hK K) | (refine lrun_stepN ?_; intro K hK; simp [hv10, f5]; refine hK _ _ ?_; clear hK K) | refine LW.seq ?_ | refine LW.block ?_ | refine LW.ops ?_ | refine LW.skip ?_ | refine LW.ret ?_ | refine LW.exit ?_ | refine LW.label ?_ | refine thn_n ?_ | refine thn_r ?_ | refine thn_e ?_ | refine inb_n ?_ | refine inb_r ?_ | refine inb_x ?_ | refine inb_e (by decide) ?_ | (refine LW.ct ?_ ?_; · simp [hv10, f5]; done) | (refine LW.cf ?_ ?_; · simp [hv10, f5]; done) | fail)
          refine lrun_step (by decide) ?_; intro K hK; simp
          generalize hHA : H4 ++ [LB.c [.own rc 0 nc nc 1] 32 true] = HA at *
          have hgA : HA[H4.length]? = some (.c [.own rc 0 nc nc 1] 32 true) := by rw [← hHA]; exact own_get
          have hlA : HA.length = H4.length + 1 := by rw [← hHA]; simp
          have hsz : sizeOf2 [cell] ≤ 122 := by simp [sizeOf2]; omega
          refine callK.by (LC.retell (args' := [.i .u8 (((4 : UInt8).toNat : Nat) : Int), bbl [cell]]) (H' := (HA.set rc .dead).set H4.length .dead) (pack_LC hG hG0 4 (by decide) [cell] hsz _) (retell_two HA rc H4.length) rfl ?_) ?_
          · intro q x y e1 e2
            match q with
            | 0 => simp at e1 e2; subst e1 e2; exact .same _
            | 1 =>
              simp at e1 e2
              subst e1 e2
              refine .own (fun _ _ => .own rc 0 nc nc 1) hgA ⟨.dead, by simp [hlA], rfl⟩ rfl (fun x hx => by simp at hx; subst hx; rfl) (fun j q hj hq => ?_) (fun j x hj q y hq => ?_)
              · obtain rfl : j = 0 := by omega
                obtain rfl : q = 0 := by omega
                rfl
              · match j with
                | 0 =>
                  simp at hj
                  subst hj
                  match q with
                  | 0 =>
                    obtain rfl : bsl cell = y := Option.some.inj hq
                    refine purS_part hget ⟨.dead, ?_, rfl⟩ (by rw [List.drop_zero, List.take_of_length_le (by simp; omega)]) hlc'
                    rw [List.getElem?_set, if_neg (by omega), List.getElem?_set_self (by omega)]
                  | q + 1 => cases hq
                | j + 1 => simp at hj
            | q + 2 => simp at e1
          rintro w H5 ⟨rfl, hH5⟩
          refine hK _ _ ?_; clear hK K
          have hpage : pagesOf l a (i + 1) = pagesOf l a i ++ [pageOf 4 [cell]] := by
            simp [pagesOf, List.range_succ, hcc]
          generalize pageOf 4 [cell] = page at *
          have hl2 : H2.length ≤ H3.length := hl3
          have hlen5 : H5.length = H4.length + 1 := by rw [hH5]; simp [hlA]
          have hext : ∀ r, r < H2.length → H5[r]? = H2[r]? := fun r hr2 => by
            rw [hH5, List.getElem?_set, if_neg (by omega), List.getElem?_set, if_neg (by omega), ← hHA, List.getElem?_append_left (by omega), get_lt_take (by exact htk4) r (by omega), get_lt_take htk r hr2]
          have f6 := lbslice_one (P := Tryd.prog) (H := H5) (t := 25) (e := 32) (v := bsl page) ty25 sz32 ze32 rfl rfl rfl
          have hpl2 : ((pagesOf l a i).map bsl).length = i := by simp [pagesOf]
          have hkH : H'.length ≤ H2.length := by rw [hJ]; simp
          repeat (first | refine LW.seq_ops ?_ | refine lrun_end ?_ | (refine lrun_step (by decide) ?_; intro K hK; simp [lextract, k6, f6]; refine hK _ _ ?_; clear hK K) | (refine lrun_stepG rfl (by decide) (by decide) ?_; intro K hK; simp [lextract, k6, f6]; refine hK _ _ ?_; clear hK K) | (refine lrun_stepN ?_; intro K hK; simp [lextract, k6, f6]; refine hK _ _ ?_; clear hK K) | refine LW.seq ?_ | refine LW.block ?_ | refine LW.ops ?_ | refine LW.skip ?_ | refine LW.ret ?_ | refine LW.exit ?_ | refine LW.label ?_ | refine thn_n ?_ | refine thn_r ?_ | refine thn_e ?_ | refine inb_n ?_ | refine inb_r ?_ | refine inb_x ?_ | refine inb_e (by decide) ?_ | (refine LW.ct ?_ ?_; · simp [lextract, k6, f6]; done) | (refine LW.cf ?_ ?_; · simp [lextract, k6, f6]; done) | fail)
          refine lrun_step (by decide) ?_; intro K hK; simp
          refine append_Own (P := Tryd.prog) (k := H'.length) (ats := #[25, 25]) (e := 32) (zv := .slice none 0 0) (by_ := 24) (news := [bsl page]) (m := 1) (hown.ext (H2 := H5 ++ [LB.c [bsl page] 32 true]) fun r hr2 => by rw [List.getElem?_append_left (by omega), hext r hr2]) (by simp; omega) rfl rfl ty25 ty25 rfl nf32 (by omega) rfl (lsrc_own1 own_get rfl (by omega)) rfl rfl (by rw [hpl2]; simp; omega) (by rw [hpl2]; simp; omega) ?_
          intro w2 H6 ho6 ht6 hl6
          refine hK _ _ ?_; clear hK K
          repeat (first | refine LW.seq_ops ?_ | refine lrun_end ?_ | (refine lrun_step (by decide) ?_; intro K hK; simp [k34, e2]; refine hK _ _ ?_; clear hK K) | (refine lrun_stepG rfl (by decide) (by decide) ?_; intro K hK; simp [k34, e2]; refine hK _ _ ?_; clear hK K) | (refine lrun_stepN ?_; intro K hK; simp [k34, e2]; refine hK _ _ ?_; clear hK K) | refine LW.seq ?_ | refine LW.block ?_ | refine LW.ops ?_ | refine LW.skip ?_ | refine LW.ret ?_ | refine LW.exit ?_ | refine LW.label ?_ | refine thn_n ?_ | refine thn_r ?_ | refine thn_e ?_ | refine inb_n ?_ | refine inb_r ?_ | refine inb_x ?_ | refine inb_e (by decide) ?_ | (refine LW.ct ?_ ?_; · simp [k34, e2]; done) | (refine LW.cf ?_ ?_; · simp [k34, e2]; done) | fail)
          have hpre : H6.take H'.length = H' := by
            rw [ht6, List.take_append_of_le_length (by omega)]
            apply List.ext_getElem?
            intro r
            rcases Nat.lt_or_ge r H'.length with h | h
            · rw [List.getElem?_take_of_lt h, hext r (by omega), hJ, List.getElem?_append_left h]
            · rw [List.getElem?_eq_none (by simp; omega), List.getElem?_eq_none (by omega)]
          refine hZ2 _ _ ⟨a.length - (i + 1), by omega, i + 1, H6.drop H'.length, by omega, rfl, by simp [k0], by simp [k1], by simp [k32], by simp [k33], by simp, by conv => lhs; rw [← List.take_append_drop H'.length H6, hpre], ?_⟩
          rw [hpage]
          simpa using ho6
    refine LW.dec (p := (i : Int) + 1 < a.length) (by simp) (fun h3 => ?_) (fun h3 => ?_)
    · have h3' : i + 1 < a.length := by omega
      have e3 := liaddr_isl (P := Tryd.prog) (k := .i64) (l := a) (i := i + 1) (t := 22) (e := 3) ty22 sz3 h3'
      rw [show ((i + 1 : Nat) : Int) = (i : Int) + 1 by omega] at e3
      have e4 : a[i + 1] = a.getD (i + 1) 0 := by simp [h3']
      rw [e4] at e3
      generalize a.getD (i + 1) 0 = nx at *
      repeat (first | refine LW.seq_ops ?_ | refine lrun_end ?_ | (refine lrun_step (by decide) ?_; intro K hK; simp [h0, h1, h34, e2, e3, lload_one ag3]; refine hK _ _ ?_; clear hK K) | (refine lrun_stepG rfl (by decide) (by decide) ?_; intro K hK; simp [h0, h1, h34, e2, e3, lload_one ag3]; refine hK _ _ ?_; clear hK K) | (refine lrun_stepN ?_; intro K hK; simp [h0, h1, h34, e2, e3, lload_one ag3]; refine hK _ _ ?_; clear hK K) | refine LW.seq ?_ | refine LW.block ?_ | refine LW.ops ?_ | refine LW.skip ?_ | refine LW.ret ?_ | refine LW.exit ?_ | refine LW.label ?_ | refine thn_n ?_ | refine thn_r ?_ | refine thn_e ?_ | refine inb_n ?_ | refine inb_r ?_ | refine inb_x ?_ | refine inb_e (by decide) ?_ | (refine LW.ct ?_ ?_; · simp [h0, h1, h34, e2, e3, lload_one ag3]; done) | (refine LW.cf ?_ ?_; · simp [h0, h1, h34, e2, e3, lload_one ag3]; done) | fail)
      exact go _ (by simp [h0]) (by simp [h1]) (by simp [h32]) (by simp [h33]) (by simp [h34]) (by simp) (by simp) (by simp)
    · have e4 : a.getD (i + 1) 0 = 0 := by
        rw [List.getD_eq_getElem?_getD, List.getElem?_eq_none (by omega)]
        rfl
      rw [e4] at go
      repeat (first | refine LW.seq_ops ?_ | refine lrun_end ?_ | (refine lrun_step (by decide) ?_; intro K hK; simp; refine hK _ _ ?_; clear hK K) | (refine lrun_stepG rfl (by decide) (by decide) ?_; intro K hK; simp; refine hK _ _ ?_; clear hK K) | (refine lrun_stepN ?_; intro K hK; simp; refine hK _ _ ?_; clear hK K) | refine LW.seq ?_ | refine LW.block ?_ | refine LW.ops ?_ | refine LW.skip ?_ | refine LW.ret ?_ | refine LW.exit ?_ | refine LW.label ?_ | refine thn_n ?_ | refine thn_r ?_ | refine thn_e ?_ | refine inb_n ?_ | refine inb_r ?_ | refine inb_x ?_ | refine inb_e (by decide) ?_ | (refine LW.ct ?_ ?_; · simp; done) | (refine LW.cf ?_ ?_; · simp; done) | fail)
      exact go _ (by simp [h0]) (by simp [h1]) (by simp [h32]) (by simp [h33]) (by simp [h34]) (by simp) (by simp) (by simp)
end Go.Lw
