/- Fields' addresses; slices.Index, slices.Contains; the disk. -/
import Derived.Test.YtopmghfjdpdncaaDoorF9
set_option linter.unusedSimpArgs false
set_option linter.unusedVariables false
namespace Go.Lw
open Go Go.Proofs Go.RowKit
variable {G : List (Nat × List V)}
attribute [local irreducible] LW callK LC lany lrun ldo oK oK2 oKH gK yieldK LY

section
variable {r o : Nat}
@[simp] theorem fa55_0 : lfaddr Tryd.prog 55 0 (.p r o) = some (.p r o) := by simp [lfaddr]
@[simp] theorem fa60_0 : lfaddr Tryd.prog 60 0 (.p r o) = some (.p r o) := by simp [lfaddr]
@[simp] theorem fa60_1 : lfaddr Tryd.prog 60 1 (.p r o) = some (.p r (o + 1)) := by simp [lfaddr]
@[simp] theorem fa60_2 : lfaddr Tryd.prog 60 2 (.p r o) = some (.p r (o + 2)) := by simp [lfaddr]
@[simp] theorem fa60_3 : lfaddr Tryd.prog 60 3 (.p r o) = some (.p r (o + 3)) := by simp [lfaddr]
@[simp] theorem fa60_4 : lfaddr Tryd.prog 60 4 (.p r o) = some (.p r (o + 4)) := by simp [lfaddr]
@[simp] theorem fa67_0 : lfaddr Tryd.prog 67 0 (.p r o) = some (.p r o) := by simp [lfaddr]
@[simp] theorem fa67_1 : lfaddr Tryd.prog 67 1 (.p r o) = some (.p r (o + 1)) := by simp [lfaddr]
@[simp] theorem fa96_0 : lfaddr Tryd.prog 96 0 (.p r o) = some (.p r o) := by simp [lfaddr]
@[simp] theorem fa96_1 : lfaddr Tryd.prog 96 1 (.p r o) = some (.p r (o + 1)) := by simp [lfaddr]
end

section
variable {P : Program} {ty e : TypeId} {lit : Bool} {r o : Nat}
theorem lbin_eqp (hu : P.underlying ty = some (.pointer e)) : lbin P .eql ty lit (.p r o) .np = some (.b false) := by simp [lbin, scal, leq, hu]
theorem lbin_nep (hu : P.underlying ty = some (.pointer e)) : lbin P .neq ty lit (.p r o) .np = some (.b true) := by simp [lbin, scal, leq, hu]
end

theorem put_set {cs : List V} {o : Nat} {v : V} (h : o < cs.length) : put cs o [v] = cs.set o v := by
  unfold put
  rw [List.set_eq_take_append_cons_drop, if_pos h, List.append_assoc]
  rfl

theorem lstore_at {P : Program} {H : List LB} {ty e : TypeId} {r o : Nat} {cs : List V} {v : V} (hr : H[r]? = some (.c cs e true)) (hz : tsz P ty = some 1) (h : o < cs.length) (hk : v.known = true) (hc : v.cells = [v]) (h1 : v.one = true) : lstore P H ty (.p r o) v = some (H.set r (.c (cs.set o v) e true)) := by
  unfold lstore
  dsimp only
  rw [hr]
  dsimp only
  rw [hz]
  dsimp only
  rw [if_pos ⟨hk, by rw [hc]; rfl, by omega, by simp [hc, h1]⟩, hc, put_set h]

theorem lnew_one {H : List LB} {e : TypeId} {v : V} (hk : v.known = true) (hc : v.cells = [v]) : lnew H e v = some (.p H.length 0, H ++ [.c [v] e true]) := by
  unfold lnew
  rw [if_pos hk, hc]

theorem lnew_a {H : List LB} {e : TypeId} {cs : List V} : lnew H e (.a cs) = some (.p H.length 0, H ++ [.c cs e true]) := rfl

theorem index_LC (l : List Int) (n : Int) (hl : l.length < 4611686018427387904) (H : List LB) : LC Tryd.prog G 38 [isl l, .i .i64 n] H fun v H' => (∃ x : Int, v = .i .i64 x ∧ (0 ≤ x ↔ n ∈ l)) ∧ H' = H := by
  refine LC.of_walk Tryd.f38 19 (by kernel_rfl) (by kernel_rfl) rfl rfl fun Z hZ => ?_
  repeat (first | refine LW.seq_ops ?_ | refine lrun_end ?_ | (refine lrun_step (by decide) ?_; intro K hK; simp [llen_isl ty22]; refine hK _ _ ?_; clear hK K) | (refine lrun_stepG rfl (by decide) (by decide) ?_; intro K hK; simp [llen_isl ty22]; refine hK _ _ ?_; clear hK K) | (refine lrun_stepN ?_; intro K hK; simp [llen_isl ty22]; refine hK _ _ ?_; clear hK K) | refine LW.seq ?_ | refine LW.block ?_ | refine LW.ops ?_ | refine LW.skip ?_ | refine LW.ret ?_ | refine LW.exit ?_ | refine LW.label ?_ | refine thn_n ?_ | refine thn_r ?_ | refine thn_e ?_ | refine inb_n ?_ | refine inb_r ?_ | refine inb_x ?_ | refine inb_e (by decide) ?_ | (refine LW.ct ?_ ?_; · simp [llen_isl ty22]; done) | (refine LW.cf ?_ ?_; · simp [llen_isl ty22]; done) | fail)
  refine LW.loopN (fun m s => ∃ i : Nat, i ≤ l.length ∧ m = l.length - i ∧ s.t 0 = isl l ∧ s.t 1 = .i .i64 n ∧ s.t 7 = .i .i64 l.length ∧ s.t 8 = .i .i64 i ∧ s.H = H ∧ ∀ k, k < i → l[k]? ≠ some n) (m := l.length)
    ⟨0, by omega, by omega, by simp, by simp, by simp, by simp, rfl, fun k hk => by omega⟩ ?_
  rintro m ⟨t, H'⟩ ⟨i, hi, rfl, h0, h1, h7, h8, rfl, heq⟩
  dsimp only at h0 h1 h7 h8 hi
  refine LW.toK fun Z2 hZ2 => ?_
  repeat (first | refine LW.seq_ops ?_ | refine lrun_end ?_ | (refine lrun_step (by decide) ?_; intro K hK; simp [h7, h8]; refine hK _ _ ?_; clear hK K) | (refine lrun_stepG rfl (by decide) (by decide) ?_; intro K hK; simp [h7, h8]; refine hK _ _ ?_; clear hK K) | (refine lrun_stepN ?_; intro K hK; simp [h7, h8]; refine hK _ _ ?_; clear hK K) | refine LW.seq ?_ | refine LW.block ?_ | refine LW.ops ?_ | refine LW.skip ?_ | refine LW.ret ?_ | refine LW.exit ?_ | refine LW.label ?_ | refine thn_n ?_ | refine thn_r ?_ | refine thn_e ?_ | refine inb_n ?_ | refine inb_r ?_ | refine inb_x ?_ | refine inb_e (by decide) ?_ | (refine LW.ct ?_ ?_; · simp [h7, h8]; done) | (refine LW.cf ?_ ?_; · simp [h7, h8]; done) | fail)
  refine LW.dec (p := i < l.length) (by simp) (fun h2 => ?_) (fun h2 => ?_)
  rotate_left
  · have hn : n ∉ l := fun hm => by
      obtain ⟨k, hk⟩ := List.getElem?_of_mem hm
      have := (List.getElem?_eq_some_iff.1 hk).1
      exact heq k (by omega) hk
    repeat (first | refine LW.seq_ops ?_ | refine lrun_end ?_ | (refine lrun_step (by decide) ?_; intro K hK; simp; refine hK _ _ ?_; clear hK K) | (refine lrun_stepG rfl (by decide) (by decide) ?_; intro K hK; simp; refine hK _ _ ?_; clear hK K) | (refine lrun_stepN ?_; intro K hK; simp; refine hK _ _ ?_; clear hK K) | refine LW.seq ?_ | refine LW.block ?_ | refine LW.ops ?_ | refine LW.skip ?_ | refine LW.ret ?_ | refine LW.exit ?_ | refine LW.label ?_ | refine thn_n ?_ | refine thn_r ?_ | refine thn_e ?_ | refine inb_n ?_ | refine inb_r ?_ | refine inb_x ?_ | refine inb_e (by decide) ?_ | (refine LW.ct ?_ ?_; · simp; done) | (refine LW.cf ?_ ?_; · simp; done) | fail)
    refine hZ2 _ _ ?_
    repeat (first | refine LW.seq_ops ?_ | refine lrun_end ?_ | (refine lrun_step (by decide) ?_; intro K hK; simp; refine hK _ _ ?_; clear hK K) | (refine lrun_stepG rfl (by decide) (by decide) ?_; intro K hK; simp; refine hK _ _ ?_; clear hK K) | (refine lrun_stepN ?_; intro K hK; simp; refine hK _ _ ?_; clear hK K) | refine LW.seq ?_ | refine LW.block ?_ | refine LW.ops ?_ | refine LW.skip ?_ | refine LW.ret ?_ | refine LW.exit ?_ | refine LW.label ?_ | refine thn_n ?_ | refine thn_r ?_ | refine thn_e ?_ | refine inb_n ?_ | refine inb_r ?_ | refine inb_x ?_ | refine inb_e (by decide) ?_ | (refine LW.ct ?_ ?_; · simp; done) | (refine LW.cf ?_ ?_; · simp; done) | fail)
    refine hZ _ _ ⟨.inr rfl, .i .i64 (-1), by simp [lres, lres1, Tryd.f38], .inl ⟨⟨-1, rfl, by simp [hn]⟩, rfl⟩⟩
  · have e3 := liaddr_isl (P := Tryd.prog) (k := .i64) (l := l) (i := i) (t := 22) (e := 3) ty22 sz3 h2
    repeat (first | refine LW.seq_ops ?_ | refine lrun_end ?_ | (refine lrun_step (by decide) ?_; intro K hK; simp [h0, h1, h8, e3, lload_one ag3]; refine hK _ _ ?_; clear hK K) | (refine lrun_stepG rfl (by decide) (by decide) ?_; intro K hK; simp [h0, h1, h8, e3, lload_one ag3]; refine hK _ _ ?_; clear hK K) | (refine lrun_stepN ?_; intro K hK; simp [h0, h1, h8, e3, lload_one ag3]; refine hK _ _ ?_; clear hK K) | refine LW.seq ?_ | refine LW.block ?_ | refine LW.ops ?_ | refine LW.skip ?_ | refine LW.ret ?_ | refine LW.exit ?_ | refine LW.label ?_ | refine thn_n ?_ | refine thn_r ?_ | refine thn_e ?_ | refine inb_n ?_ | refine inb_r ?_ | refine inb_x ?_ | refine inb_e (by decide) ?_ | (refine LW.ct ?_ ?_; · simp [h0, h1, h8, e3, lload_one ag3]; done) | (refine LW.cf ?_ ?_; · simp [h0, h1, h8, e3, lload_one ag3]; done) | fail)
    refine LW.dec (p := n = l[i]) (by simp) (fun h3 => ?_) (fun h3 => ?_)
    · have hn : n ∈ l := by rw [h3]; exact List.getElem_mem h2
      repeat (first | refine LW.seq_ops ?_ | refine lrun_end ?_ | (refine lrun_step (by decide) ?_; intro K hK; simp; refine hK _ _ ?_; clear hK K) | (refine lrun_stepG rfl (by decide) (by decide) ?_; intro K hK; simp; refine hK _ _ ?_; clear hK K) | (refine lrun_stepN ?_; intro K hK; simp; refine hK _ _ ?_; clear hK K) | refine LW.seq ?_ | refine LW.block ?_ | refine LW.ops ?_ | refine LW.skip ?_ | refine LW.ret ?_ | refine LW.exit ?_ | refine LW.label ?_ | refine thn_n ?_ | refine thn_r ?_ | refine thn_e ?_ | refine inb_n ?_ | refine inb_r ?_ | refine inb_x ?_ | refine inb_e (by decide) ?_ | (refine LW.ct ?_ ?_; · simp; done) | (refine LW.cf ?_ ?_; · simp; done) | fail)
      refine hZ2 _ _ ?_
      repeat (first | refine LW.seq_ops ?_ | refine lrun_end ?_ | (refine lrun_step (by decide) ?_; intro K hK; simp; refine hK _ _ ?_; clear hK K) | (refine lrun_stepG rfl (by decide) (by decide) ?_; intro K hK; simp; refine hK _ _ ?_; clear hK K) | (refine lrun_stepN ?_; intro K hK; simp; refine hK _ _ ?_; clear hK K) | refine LW.seq ?_ | refine LW.block ?_ | refine LW.ops ?_ | refine LW.skip ?_ | refine LW.ret ?_ | refine LW.exit ?_ | refine LW.label ?_ | refine thn_n ?_ | refine thn_r ?_ | refine thn_e ?_ | refine inb_n ?_ | refine inb_r ?_ | refine inb_x ?_ | refine inb_e (by decide) ?_ | (refine LW.ct ?_ ?_; · simp; done) | (refine LW.cf ?_ ?_; · simp; done) | fail)
      refine hZ _ _ ⟨.inr rfl, .i .i64 i, by simp [lres, lres1, Tryd.f38], .inl ⟨⟨i, rfl, by simp [hn]⟩, rfl⟩⟩
    · have e1 : IntKind.i64.wrap ((i : Int) + 1) = (i : Int) + 1 := wrap_i64 (by omega) (by omega)
      repeat (first | refine LW.seq_ops ?_ | refine lrun_end ?_ | (refine lrun_step (by decide) ?_; intro K hK; simp [h8, e1]; refine hK _ _ ?_; clear hK K) | (refine lrun_stepG rfl (by decide) (by decide) ?_; intro K hK; simp [h8, e1]; refine hK _ _ ?_; clear hK K) | (refine lrun_stepN ?_; intro K hK; simp [h8, e1]; refine hK _ _ ?_; clear hK K) | refine LW.seq ?_ | refine LW.block ?_ | refine LW.ops ?_ | refine LW.skip ?_ | refine LW.ret ?_ | refine LW.exit ?_ | refine LW.label ?_ | refine thn_n ?_ | refine thn_r ?_ | refine thn_e ?_ | refine inb_n ?_ | refine inb_r ?_ | refine inb_x ?_ | refine inb_e (by decide) ?_ | (refine LW.ct ?_ ?_; · simp [h8, e1]; done) | (refine LW.cf ?_ ?_; · simp [h8, e1]; done) | fail)
      refine hZ2 _ _ ⟨l.length - (i + 1), by omega, i + 1, by omega, rfl, by simp [h0], by simp [h1], by simp [h7], by simp, rfl, fun k hk => ?_⟩
      rcases Nat.lt_or_ge k i with hk' | hk'
      · exact heq k hk'
      · obtain rfl : k = i := by omega
        rw [List.getElem?_eq_getElem h2]
        exact fun e => h3 (Option.some.inj e).symm

theorem contains_LC (l : List Int) (n : Int) (hl : l.length < 4611686018427387904) (H : List LB) : LC Tryd.prog G 28 [isl l, .i .i64 n] H fun v H' => v = .b (decide (n ∈ l)) ∧ H' = H := by
  refine LC.of_walk Tryd.f28 9 (by kernel_rfl) (by kernel_rfl) rfl rfl fun Z hZ => ?_
  repeat (first | refine LW.seq_ops ?_ | refine lrun_end ?_ | (refine lrun_step (by decide) ?_; intro K hK; simp; refine hK _ _ ?_; clear hK K) | (refine lrun_stepG rfl (by decide) (by decide) ?_; intro K hK; simp; refine hK _ _ ?_; clear hK K) | (refine lrun_stepN ?_; intro K hK; simp; refine hK _ _ ?_; clear hK K) | refine LW.seq ?_ | refine LW.block ?_ | refine LW.ops ?_ | refine LW.skip ?_ | refine LW.ret ?_ | refine LW.exit ?_ | refine LW.label ?_ | refine thn_n ?_ | refine thn_r ?_ | refine thn_e ?_ | refine inb_n ?_ | refine inb_r ?_ | refine inb_x ?_ | refine inb_e (by decide) ?_ | (refine LW.ct ?_ ?_; · simp; done) | (refine LW.cf ?_ ?_; · simp; done) | fail)
  refine lrun_step (by decide) ?_; intro K hK; simp
  refine callK.by (index_LC l n hl _) ?_
  rintro v H' ⟨⟨x, rfl, hx⟩, rfl⟩
  refine hK _ _ ?_; clear hK K
  repeat (first | refine LW.seq_ops ?_ | refine lrun_end ?_ | (refine lrun_step (by decide) ?_; intro K hK; simp; refine hK _ _ ?_; clear hK K) | (refine lrun_stepG rfl (by decide) (by decide) ?_; intro K hK; simp; refine hK _ _ ?_; clear hK K) | (refine lrun_stepN ?_; intro K hK; simp; refine hK _ _ ?_; clear hK K) | refine LW.seq ?_ | refine LW.block ?_ | refine LW.ops ?_ | refine LW.skip ?_ | refine LW.ret ?_ | refine LW.exit ?_ | refine LW.label ?_ | refine thn_n ?_ | refine thn_r ?_ | refine thn_e ?_ | refine inb_n ?_ | refine inb_r ?_ | refine inb_x ?_ | refine inb_e (by decide) ?_ | (refine LW.ct ?_ ?_; · simp; done) | (refine LW.cf ?_ ?_; · simp; done) | fail)
  refine hZ _ _ ⟨.inr rfl, .b (decide (n ∈ l)), by simp [lres, lres1, Tryd.f28, hx], .inl ⟨rfl, rfl⟩⟩

/-- A disk of one region of nine pages, laid in memory. -/
structure DiskAt (H : List LB) (d m r q : Nat) (log : V) : Prop where
  hd : H[d]? = some (.c [.own q 0 1 1 1] 55 true)
  hq : H[q]? = some (.c [.p r 0] 56 true)
  hr : H[r]? = some (.c [.i .i64 9, .m m, log, .i .i64 (-1), .b false] 60 true)
  hm : H[m]? = some (.mp [] 3)

section
variable {H : List LB} {d m r q : Nat} {log : V}

theorem of_LC (hD : DiskAt H d m r q log) : LC Tryd.prog G 41 [.p d 0, .i .i64 0] H fun v H' => v = .p r 0 ∧ H' = H := by
  refine LC.of_walk Tryd.f41 27 (by kernel_rfl) (by kernel_rfl) rfl rfl fun Z hZ => ?_
  have e1 := lload_p (P := Tryd.prog) (ty := 53) (o := 0) hD.hd ag53 rfl
  have e2 := lload_p (P := Tryd.prog) (ty := 56) (o := 0) hD.hq ag56 rfl
  have e3 : liaddr Tryd.prog 53 (.own q 0 1 1 1) (.i .i64 0) = some (.p q 0) := liaddr_own (i := 0) ty53 sz56 (by omega)
  repeat (first | refine LW.seq_ops ?_ | refine lrun_end ?_ | (refine lrun_step (by decide) ?_; intro K hK; simp [lbin_eqp ty37, llen_own ty53, e1, e2, e3]; refine hK _ _ ?_; clear hK K) | (refine lrun_stepG rfl (by decide) (by decide) ?_; intro K hK; simp [lbin_eqp ty37, llen_own ty53, e1, e2, e3]; refine hK _ _ ?_; clear hK K) | (refine lrun_stepN ?_; intro K hK; simp [lbin_eqp ty37, llen_own ty53, e1, e2, e3]; refine hK _ _ ?_; clear hK K) | refine LW.seq ?_ | refine LW.block ?_ | refine LW.ops ?_ | refine LW.skip ?_ | refine LW.ret ?_ | refine LW.exit ?_ | refine LW.label ?_ | refine thn_n ?_ | refine thn_r ?_ | refine thn_e ?_ | refine inb_n ?_ | refine inb_r ?_ | refine inb_x ?_ | refine inb_e (by decide) ?_ | (refine LW.ct ?_ ?_; · simp [lbin_eqp ty37, llen_own ty53, e1, e2, e3]; done) | (refine LW.cf ?_ ?_; · simp [lbin_eqp ty37, llen_own ty53, e1, e2, e3]; done) | fail)
  refine hZ _ _ ⟨.inr rfl, .p r 0, by simp [lres, lres1, Tryd.f41], .inl ⟨rfl, rfl⟩⟩

theorem up_LC (hD : DiskAt H d m r q log) : LC Tryd.prog G 34 [.p d 0, .i .i64 0] H fun v H' => v = .t [.p r 0, .i .i64 0] ∧ H' = H := by
  refine LC.of_walk Tryd.f34 22 (by kernel_rfl) (by kernel_rfl) rfl rfl fun Z hZ => ?_
  have e4 := lload_p (P := Tryd.prog) (ty := 4) (o := 4) hD.hr ag4 rfl
  repeat (first | refine LW.seq_ops ?_ | refine lrun_end ?_ | (refine lrun_step (by decide) ?_; intro K hK; simp; refine hK _ _ ?_; clear hK K) | (refine lrun_stepG rfl (by decide) (by decide) ?_; intro K hK; simp; refine hK _ _ ?_; clear hK K) | (refine lrun_stepN ?_; intro K hK; simp; refine hK _ _ ?_; clear hK K) | refine LW.seq ?_ | refine LW.block ?_ | refine LW.ops ?_ | refine LW.skip ?_ | refine LW.ret ?_ | refine LW.exit ?_ | refine LW.label ?_ | refine thn_n ?_ | refine thn_r ?_ | refine thn_e ?_ | refine inb_n ?_ | refine inb_r ?_ | refine inb_x ?_ | refine inb_e (by decide) ?_ | (refine LW.ct ?_ ?_; · simp; done) | (refine LW.cf ?_ ?_; · simp; done) | fail)
  refine lrun_step (by decide) ?_; intro K hK; simp
  refine callK.by (of_LC hD) ?_
  rintro v H' ⟨rfl, rfl⟩
  refine hK _ _ ?_; clear hK K
  repeat (first | refine LW.seq_ops ?_ | refine lrun_end ?_ | (refine lrun_step (by decide) ?_; intro K hK; simp [lbin_eqp ty37, lbin_eqp ty56, e4]; refine hK _ _ ?_; clear hK K) | (refine lrun_stepG rfl (by decide) (by decide) ?_; intro K hK; simp [lbin_eqp ty37, lbin_eqp ty56, e4]; refine hK _ _ ?_; clear hK K) | (refine lrun_stepN ?_; intro K hK; simp [lbin_eqp ty37, lbin_eqp ty56, e4]; refine hK _ _ ?_; clear hK K) | refine LW.seq ?_ | refine LW.block ?_ | refine LW.ops ?_ | refine LW.skip ?_ | refine LW.ret ?_ | refine LW.exit ?_ | refine LW.label ?_ | refine thn_n ?_ | refine thn_r ?_ | refine thn_e ?_ | refine inb_n ?_ | refine inb_r ?_ | refine inb_x ?_ | refine inb_e (by decide) ?_ | (refine LW.ct ?_ ?_; · simp [lbin_eqp ty37, lbin_eqp ty56, e4]; done) | (refine LW.cf ?_ ?_; · simp [lbin_eqp ty37, lbin_eqp ty56, e4]; done) | fail)
  refine hZ _ _ ⟨.inr rfl, .t [.p r 0, .i .i64 0], by simp [lres, lres1, Tryd.f34], .inl ⟨rfl, rfl⟩⟩

theorem paged_LC (hD : DiskAt H d m r q log) (a : Nat) (ha : a < 9) : LC Tryd.prog G 24 [.p d 0, .i .i64 0, .i .i64 a] H fun v H' => v = .t [.p r 0, .i .i64 0] ∧ H' = H := by
  refine LC.of_walk Tryd.f24 32 (by kernel_rfl) (by kernel_rfl) rfl rfl fun Z hZ => ?_
  have e4 := lload_p (P := Tryd.prog) (ty := 3) (o := 0) hD.hr ag3 rfl
  have h0 : ¬ (a : Int) < 0 := by omega
  have h9 : ¬ (9 : Int) ≤ a := by omega
  have h9' : (a : Int) < 9 := by omega
  repeat (first | refine LW.seq_ops ?_ | refine lrun_end ?_ | (refine lrun_step (by decide) ?_; intro K hK; simp; refine hK _ _ ?_; clear hK K) | (refine lrun_stepG rfl (by decide) (by decide) ?_; intro K hK; simp; refine hK _ _ ?_; clear hK K) | (refine lrun_stepN ?_; intro K hK; simp; refine hK _ _ ?_; clear hK K) | refine LW.seq ?_ | refine LW.block ?_ | refine LW.ops ?_ | refine LW.skip ?_ | refine LW.ret ?_ | refine LW.exit ?_ | refine LW.label ?_ | refine thn_n ?_ | refine thn_r ?_ | refine thn_e ?_ | refine inb_n ?_ | refine inb_r ?_ | refine inb_x ?_ | refine inb_e (by decide) ?_ | (refine LW.ct ?_ ?_; · simp; done) | (refine LW.cf ?_ ?_; · simp; done) | fail)
  refine lrun_step (by decide) ?_; intro K hK; simp
  refine callK.by (up_LC hD) ?_
  rintro v H' ⟨rfl, rfl⟩
  refine hK _ _ ?_; clear hK K
  repeat (first | refine LW.seq_ops ?_ | refine lrun_end ?_ | (refine lrun_step (by decide) ?_; intro K hK; simp [lextract, lbin_eqp ty56, e4, h0, h9, h9']; refine hK _ _ ?_; clear hK K) | (refine lrun_stepG rfl (by decide) (by decide) ?_; intro K hK; simp [lextract, lbin_eqp ty56, e4, h0, h9, h9']; refine hK _ _ ?_; clear hK K) | (refine lrun_stepN ?_; intro K hK; simp [lextract, lbin_eqp ty56, e4, h0, h9, h9']; refine hK _ _ ?_; clear hK K) | refine LW.seq ?_ | refine LW.block ?_ | refine LW.ops ?_ | refine LW.skip ?_ | refine LW.ret ?_ | refine LW.exit ?_ | refine LW.label ?_ | refine thn_n ?_ | refine thn_r ?_ | refine thn_e ?_ | refine inb_n ?_ | refine inb_r ?_ | refine inb_x ?_ | refine inb_e (by decide) ?_ | (refine LW.ct ?_ ?_; · simp [lextract, lbin_eqp ty56, e4, h0, h9, h9']; done) | (refine LW.cf ?_ ?_; · simp [lextract, lbin_eqp ty56, e4, h0, h9, h9']; done) | fail)
  refine hZ _ _ ⟨.inr rfl, .t [.p r 0, .i .i64 0], by simp [lres, lres1, Tryd.f24], .inl ⟨rfl, rfl⟩⟩

theorem count_LC (hD : DiskAt H d m r q log) : LC Tryd.prog G 25 [.p r 0] H fun v H' => v = .i .i64 0 ∧ H' = H := by
  refine LC.of_walk Tryd.f25 25 (by kernel_rfl) (by kernel_rfl) rfl rfl fun Z hZ => ?_
  have e4 := lload_p (P := Tryd.prog) (ty := 3) (o := 3) hD.hr ag3 rfl
  repeat (first | refine LW.seq_ops ?_ | refine lrun_end ?_ | (refine lrun_step (by decide) ?_; intro K hK; simp [e4]; refine hK _ _ ?_; clear hK K) | (refine lrun_stepG rfl (by decide) (by decide) ?_; intro K hK; simp [e4]; refine hK _ _ ?_; clear hK K) | (refine lrun_stepN ?_; intro K hK; simp [e4]; refine hK _ _ ?_; clear hK K) | refine LW.seq ?_ | refine LW.block ?_ | refine LW.ops ?_ | refine LW.skip ?_ | refine LW.ret ?_ | refine LW.exit ?_ | refine LW.label ?_ | refine thn_n ?_ | refine thn_r ?_ | refine thn_e ?_ | refine inb_n ?_ | refine inb_r ?_ | refine inb_x ?_ | refine inb_e (by decide) ?_ | (refine LW.ct ?_ ?_; · simp [e4]; done) | (refine LW.cf ?_ ?_; · simp [e4]; done) | fail)
  refine hZ _ _ ⟨.inr rfl, .i .i64 0, by simp [lres, lres1, Tryd.f25], .inl ⟨rfl, rfl⟩⟩
end
end Go.Lw
