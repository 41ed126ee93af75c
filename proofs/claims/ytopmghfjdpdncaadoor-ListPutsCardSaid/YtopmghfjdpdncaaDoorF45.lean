/- slices.Chunk's loop -/
import Derived.Test.YtopmghfjdpdncaaDoorF36
import Derived.Test.YtopmghfjdpdncaaDoorF37
set_option linter.unusedSimpArgs false
set_option linter.unusedVariables false
namespace Go.Lw
open Go Go.Proofs Go.RowKit
variable {G : List (Nat × List V)}

theorem q_lenS {P : Program} {t : Nat → V} {d : Option Nat} {ty t1 : TypeId} {pos : String} {af : Array Edge} {g : Option (Nat × Bool)} {x : Operand} : qleff P G t ⟨d, .call ⟨.builtin .len, #[x], #[t1]⟩, ty, pos, af, g⟩ = if (ev G t x).noMap = true then llen P [] t1 (ev G t x) else none := by
  unfold qleff
  simp only [List.map_cons, List.map_nil, lbi]
  cases (ev G t x).noMap
  · rfl
  · cases h : llen P [] t1 (ev G t x) <;> simp [h]
theorem noMap_bsl {l : List UInt8} : (bsl l).noMap = true := rfl
attribute [local irreducible] LW callK LC lany lrun ldo oK oK2 oKH gK yieldK LY

theorem each_LC {l : List UInt8} {k a b r : Nat} (hk : 1 ≤ k) (hkb : k ≤ 1000000) (hl : l.length ≤ 1000000) (I : Nat → List LB → Prop) (hI : ∀ i H, I i H → H[a]? = some (.c [bsl l] 32 true) ∧ H[b]? = some (.c [.i .i64 k] 3 true))
    (hY : ∀ i H, i * k < l.length → I i H → LY Tryd.prog G r [bsl ((l.drop (i * k)).take k)] H fun v H' => v = .b true ∧ I (i + 1) H') (H : List LB) (h0 : I 0 H) :
    LC Tryd.prog G 45 [.y r, .p a 0, .p b 0] H fun _ H' => ∃ i, l.length ≤ i * k ∧ I i H' := by
  refine LC.of_walk Tryd.f45 31 (by kernel_rfl) (by kernel_rfl) rfl rfl fun Z hZ => ?_
  repeat (first | refine LW.seq_ops ?_ | refine lrun_end ?_ | (refine lrun_step (by decide) ?_; intro K hK; simp; refine hK _ _ ?_; clear hK K) | (refine lrun_stepG rfl (by decide) (by decide) ?_; intro K hK; simp; refine hK _ _ ?_; clear hK K) | (refine lrun_stepN ?_; intro K hK; simp; refine hK _ _ ?_; clear hK K) | refine LW.seq ?_ | refine LW.block ?_ | refine LW.ops ?_ | refine LW.skip ?_ | refine LW.ret ?_ | refine LW.exit ?_ | refine LW.label ?_ | refine thn_n ?_ | refine thn_r ?_ | refine thn_e ?_ | refine inb_n ?_ | refine inb_r ?_ | refine inb_x ?_ | refine inb_e (by decide) ?_ | (refine LW.ct ?_ ?_; · simp; done) | (refine LW.cf ?_ ?_; · simp; done) | fail)
  refine LW.loopN (fun m s => ∃ i : Nat, m = l.length - i * k ∧ i * k ≤ l.length + k ∧ s.t 0 = .y r ∧ s.t 1 = .p a 0 ∧ s.t 2 = .p b 0 ∧ s.t 4 = .i .i64 ((i * k : Nat) : Int) ∧ I i s.H) (m := l.length)
    ⟨0, by simp, by simp, by simp, by simp, by simp, by simp, h0⟩ ?_
  rintro m ⟨t, H'⟩ ⟨i, rfl, hik, q0, q1, q2, q4, hi⟩
  dsimp only at q0 q1 q2 q4 hi
  obtain ⟨ha, hb⟩ := hI i H' hi
  have e1 := lload_p (P := Tryd.prog) (ty := 32) (o := 0) ha ag32 rfl
  have e2 := lload_p (P := Tryd.prog) (ty := 3) (o := 0) hb ag3 rfl
  have hY' := hY i H'
  have hs : (i + 1) * k = i * k + k := by rw [Nat.add_mul, Nat.one_mul]
  have hcl : ((l.drop (i * k)).take k).length = min k (l.length - i * k) := by simp
  have hcx : (l.drop (i * k)).take k = (l.take (i * k + min k (l.length - i * k))).drop (i * k) := by
    rw [List.drop_take, Nat.add_sub_cancel_left]
    rcases Nat.le_total k (l.length - i * k) with h | h
    · rw [Nat.min_eq_left h]
    · rw [Nat.min_eq_right h, List.take_of_length_le (by simp; omega), List.take_of_length_le (by simp)]
  rw [hcx] at hY'
  generalize hbase : i * k = base at *
  refine LW.toK fun Z2 hZ2 => ?_
  repeat (first | refine LW.seq_ops ?_ | refine lrun_end ?_ | (refine lrun_step (by decide) ?_; intro K hK; simp [q1, q4, e1, llen_bsl ty32]; refine hK _ _ ?_; clear hK K) | (refine lrun_stepG rfl (by decide) (by decide) ?_; intro K hK; simp [q1, q4, e1, llen_bsl ty32]; refine hK _ _ ?_; clear hK K) | (refine lrun_stepN ?_; intro K hK; simp [q1, q4, e1, llen_bsl ty32]; refine hK _ _ ?_; clear hK K) | refine LW.seq ?_ | refine LW.block ?_ | refine LW.ops ?_ | refine LW.skip ?_ | refine LW.ret ?_ | refine LW.exit ?_ | refine LW.label ?_ | refine thn_n ?_ | refine thn_r ?_ | refine thn_e ?_ | refine inb_n ?_ | refine inb_r ?_ | refine inb_x ?_ | refine inb_e (by decide) ?_ | (refine LW.ct ?_ ?_; · simp [q1, q4, e1, llen_bsl ty32]; done) | (refine LW.cf ?_ ?_; · simp [q1, q4, e1, llen_bsl ty32]; done) | fail)
  refine LW.dec (p := base < l.length) (by simp) (fun h2 => ?_) (fun h2 => ?_)
  rotate_left
  · repeat (first | refine LW.seq_ops ?_ | refine lrun_end ?_ | (refine lrun_step (by decide) ?_; intro K hK; simp; refine hK _ _ ?_; clear hK K) | (refine lrun_stepG rfl (by decide) (by decide) ?_; intro K hK; simp; refine hK _ _ ?_; clear hK K) | (refine lrun_stepN ?_; intro K hK; simp; refine hK _ _ ?_; clear hK K) | refine LW.seq ?_ | refine LW.block ?_ | refine LW.ops ?_ | refine LW.skip ?_ | refine LW.ret ?_ | refine LW.exit ?_ | refine LW.label ?_ | refine thn_n ?_ | refine thn_r ?_ | refine thn_e ?_ | refine inb_n ?_ | refine inb_r ?_ | refine inb_x ?_ | refine inb_e (by decide) ?_ | (refine LW.ct ?_ ?_; · simp; done) | (refine LW.cf ?_ ?_; · simp; done) | fail)
    refine hZ2 _ _ ?_
    repeat (first | refine LW.seq_ops ?_ | refine lrun_end ?_ | (refine lrun_step (by decide) ?_; intro K hK; simp; refine hK _ _ ?_; clear hK K) | (refine lrun_stepG rfl (by decide) (by decide) ?_; intro K hK; simp; refine hK _ _ ?_; clear hK K) | (refine lrun_stepN ?_; intro K hK; simp; refine hK _ _ ?_; clear hK K) | refine LW.seq ?_ | refine LW.block ?_ | refine LW.ops ?_ | refine LW.skip ?_ | refine LW.ret ?_ | refine LW.exit ?_ | refine LW.label ?_ | refine thn_n ?_ | refine thn_r ?_ | refine thn_e ?_ | refine inb_n ?_ | refine inb_r ?_ | refine inb_x ?_ | refine inb_e (by decide) ?_ | (refine LW.ct ?_ ?_; · simp; done) | (refine LW.cf ?_ ?_; · simp; done) | fail)
    refine hZ _ _ ⟨.inl rfl, .t [], by simp [lres, lres1, Tryd.f45], .inl ⟨i, by omega, hi⟩⟩
  · have e3 := (lslice_bsl (P := Tryd.prog) (t := 32) (e := 5) (k := .i64) (l := l) ty32 sz5 (b := base) (by omega)).2
    have hdl : (l.drop base).length = l.length - base := by simp
    have e4 : llen Tryd.prog [] 32 (bsl (l.drop base)) = some (.i .i64 ((l.length - base : Nat) : Int)) := by rw [llen_bsl ty32, hdl]
    have e4' : ∀ H, llen Tryd.prog H 32 (bsl (l.drop base)) = some (.i .i64 ((l.length - base : Nat) : Int)) := fun H => by rw [llen_bsl ty32, hdl]
    have e5 := lslice_bsl3 (P := Tryd.prog) (t := 32) (e := 5) (k := .i64) (l := l) ty32 sz5 (a := base) (b := base + min k (l.length - base)) (m := base + min k (l.length - base)) (by omega) (by omega) (by omega)
    have hmin : (if ((l.length - base : Nat) : Int) < (k : Int) then ((l.length - base : Nat) : Int) else (k : Int)) = ((min k (l.length - base) : Nat) : Int) := by split <;> omega
    have w1 : IntKind.i64.wrap ((base : Int) + ((min k (l.length - base) : Nat) : Int)) = ((base + min k (l.length - base) : Nat) : Int) := by rw [wrap_i64 (by omega) (by omega)]; omega
    have w2 : IntKind.i64.wrap ((base : Int) + (k : Int)) = (((i + 1) * k : Nat) : Int) := by rw [hs, wrap_i64 (by omega) (by omega)]; omega
    have hY2 := hY' h2 hi
    generalize hD : l.drop base = D at *
    generalize hrest : l.length - base = rest at *
    generalize hmm : min k rest = mm at *
    generalize hend : base + mm = en at *
    generalize (l.take en).drop base = part at *
    repeat (first | refine LW.seq_ops ?_ | refine lrun_end ?_ | (refine lrun_step (by decide) ?_; intro K hK; simp; refine hK _ _ ?_; clear hK K) | (refine lrun_stepG rfl (by decide) (by decide) ?_; intro K hK; simp; refine hK _ _ ?_; clear hK K) | (refine lrun_stepN ?_; intro K hK; simp; refine hK _ _ ?_; clear hK K) | refine LW.seq ?_ | refine LW.block ?_ | refine LW.ops ?_ | refine LW.skip ?_ | refine LW.ret ?_ | refine LW.exit ?_ | refine LW.label ?_ | refine thn_n ?_ | refine thn_r ?_ | refine thn_e ?_ | refine inb_n ?_ | refine inb_r ?_ | refine inb_x ?_ | refine inb_e (by decide) ?_ | (refine LW.ct ?_ ?_; · simp; done) | (refine LW.cf ?_ ?_; · simp; done) | fail)
    first | refine LW.seq_draw (by kernel_rfl) ?_ | refine LW.draw (by kernel_rfl) ?_
    refine lany_qK 2 rfl (by kernel_rfl) rfl rfl (by decide) ?_; intro K hK; simp [q4]; refine hK _ ?_; clear hK K
    have hmin' : (if rest < k then (rest : Int) else (k : Int)) = (mm : Int) := by rw [← hmin]; split <;> split <;> omega
    refine lany_2K 0 1 (by kernel_rfl) rfl rfl rfl (by decide) rfl rfl rfl (by decide) ?_ ?_
    · intro K hK; simp [q2, e2]; refine hK _ _ ?_; clear hK K
      refine lany_oK 1 (by kernel_rfl) rfl rfl rfl (by decide) ?_; intro K hK; simp [q1, e1]; refine hK _ _ ?_; clear hK K
      refine lany_oK 3 (by kernel_rfl) rfl rfl rfl (by decide) ?_; intro K hK; simp [e3, e4', hmin']; refine hK _ _ ?_; clear hK K
      refine lany_oK 4 (by kernel_rfl) rfl rfl rfl (by decide) ?_; intro K hK; simp [e3, e4', hmin']; refine hK _ _ ?_; clear hK K
      refine lany_oK 5 (by kernel_rfl) rfl rfl rfl (by decide) ?_; intro K hK; simp [e3, e4', hmin']; refine hK _ _ ?_; clear hK K
      refine lany_oK 6 (by kernel_rfl) rfl rfl rfl (by decide) ?_; intro K hK; simp [e3, e4', hmin']; refine hK _ _ ?_; clear hK K
      refine lany_done (by kernel_rfl) ?_ _
      repeat (first | refine LW.seq_ops ?_ | refine lrun_end ?_ | (refine lrun_step (by decide) ?_; intro K hK; simp [q0, q1, q4, e1, e5, w1]; refine hK _ _ ?_; clear hK K) | (refine lrun_stepG rfl (by decide) (by decide) ?_; intro K hK; simp [q0, q1, q4, e1, e5, w1]; refine hK _ _ ?_; clear hK K) | (refine lrun_stepN ?_; intro K hK; simp [q0, q1, q4, e1, e5, w1]; refine hK _ _ ?_; clear hK K) | refine LW.seq ?_ | refine LW.block ?_ | refine LW.ops ?_ | refine LW.skip ?_ | refine LW.ret ?_ | refine LW.exit ?_ | refine LW.label ?_ | refine thn_n ?_ | refine thn_r ?_ | refine thn_e ?_ | refine inb_n ?_ | refine inb_r ?_ | refine inb_x ?_ | refine inb_e (by decide) ?_ | (refine LW.ct ?_ ?_; · simp [q0, q1, q4, e1, e5, w1]; done) | (refine LW.cf ?_ ?_; · simp [q0, q1, q4, e1, e5, w1]; done) | fail)
      refine lrun_step (by decide) ?_; intro K hK; simp
      refine yieldK.by hY2 ?_
      rintro v H2 ⟨rfl, hi2⟩
      refine hK _ _ ?_; clear hK K
      have e6 := lload_p (P := Tryd.prog) (ty := 3) (o := 0) (hI (i + 1) H2 hi2).2 ag3 rfl
      repeat (first | refine LW.seq_ops ?_ | refine lrun_end ?_ | (refine lrun_step (by decide) ?_; intro K hK; simp [q2, q4, e6, w2]; refine hK _ _ ?_; clear hK K) | (refine lrun_stepG rfl (by decide) (by decide) ?_; intro K hK; simp [q2, q4, e6, w2]; refine hK _ _ ?_; clear hK K) | (refine lrun_stepN ?_; intro K hK; simp [q2, q4, e6, w2]; refine hK _ _ ?_; clear hK K) | refine LW.seq ?_ | refine LW.block ?_ | refine LW.ops ?_ | refine LW.skip ?_ | refine LW.ret ?_ | refine LW.exit ?_ | refine LW.label ?_ | refine thn_n ?_ | refine thn_r ?_ | refine thn_e ?_ | refine inb_n ?_ | refine inb_r ?_ | refine inb_x ?_ | refine inb_e (by decide) ?_ | (refine LW.ct ?_ ?_; · simp [q2, q4, e6, w2]; done) | (refine LW.cf ?_ ?_; · simp [q2, q4, e6, w2]; done) | fail)
      refine hZ2 _ _ ⟨l.length - (i + 1) * k, by omega, i + 1, rfl, by omega, by simp [q0], by simp [q1], by simp [q2], by simp, hi2⟩
    · intro K hK; simp [q1, e1]; refine hK _ _ ?_; clear hK K
      refine lany_qK 3 rfl (by kernel_rfl) rfl rfl (by decide) ?_; intro K hK; simp [e3]; refine hK _ ?_; clear hK K
      refine lany_qK 4 rfl (by kernel_rfl) rfl rfl (by decide) ?_; intro K hK; simp [q_lenS, noMap_bsl, e4]; refine hK _ ?_; clear hK K
      refine lany_oK 0 (by kernel_rfl) rfl rfl rfl (by decide) ?_; intro K hK; simp [q2, e2, hmin']; refine hK _ _ ?_; clear hK K
      refine lany_oK 5 (by kernel_rfl) rfl rfl rfl (by decide) ?_; intro K hK; simp [q2, e2, hmin']; refine hK _ _ ?_; clear hK K
      refine lany_oK 6 (by kernel_rfl) rfl rfl rfl (by decide) ?_; intro K hK; simp [q2, e2, hmin']; refine hK _ _ ?_; clear hK K
      refine lany_done (by kernel_rfl) ?_ _
      repeat (first | refine LW.seq_ops ?_ | refine lrun_end ?_ | (refine lrun_step (by decide) ?_; intro K hK; simp [q0, q1, q4, e1, e5, w1]; refine hK _ _ ?_; clear hK K) | (refine lrun_stepG rfl (by decide) (by decide) ?_; intro K hK; simp [q0, q1, q4, e1, e5, w1]; refine hK _ _ ?_; clear hK K) | (refine lrun_stepN ?_; intro K hK; simp [q0, q1, q4, e1, e5, w1]; refine hK _ _ ?_; clear hK K) | refine LW.seq ?_ | refine LW.block ?_ | refine LW.ops ?_ | refine LW.skip ?_ | refine LW.ret ?_ | refine LW.exit ?_ | refine LW.label ?_ | refine thn_n ?_ | refine thn_r ?_ | refine thn_e ?_ | refine inb_n ?_ | refine inb_r ?_ | refine inb_x ?_ | refine inb_e (by decide) ?_ | (refine LW.ct ?_ ?_; · simp [q0, q1, q4, e1, e5, w1]; done) | (refine LW.cf ?_ ?_; · simp [q0, q1, q4, e1, e5, w1]; done) | fail)
      refine lrun_step (by decide) ?_; intro K hK; simp
      refine yieldK.by hY2 ?_
      rintro v H2 ⟨rfl, hi2⟩
      refine hK _ _ ?_; clear hK K
      have e6 := lload_p (P := Tryd.prog) (ty := 3) (o := 0) (hI (i + 1) H2 hi2).2 ag3 rfl
      repeat (first | refine LW.seq_ops ?_ | refine lrun_end ?_ | (refine lrun_step (by decide) ?_; intro K hK; simp [q2, q4, e6, w2]; refine hK _ _ ?_; clear hK K) | (refine lrun_stepG rfl (by decide) (by decide) ?_; intro K hK; simp [q2, q4, e6, w2]; refine hK _ _ ?_; clear hK K) | (refine lrun_stepN ?_; intro K hK; simp [q2, q4, e6, w2]; refine hK _ _ ?_; clear hK K) | refine LW.seq ?_ | refine LW.block ?_ | refine LW.ops ?_ | refine LW.skip ?_ | refine LW.ret ?_ | refine LW.exit ?_ | refine LW.label ?_ | refine thn_n ?_ | refine thn_r ?_ | refine thn_e ?_ | refine inb_n ?_ | refine inb_r ?_ | refine inb_x ?_ | refine inb_e (by decide) ?_ | (refine LW.ct ?_ ?_; · simp [q2, q4, e6, w2]; done) | (refine LW.cf ?_ ?_; · simp [q2, q4, e6, w2]; done) | fail)
      refine hZ2 _ _ ⟨l.length - (i + 1) * k, by omega, i + 1, rfl, by omega, by simp [q0], by simp [q1], by simp [q2], by simp, hi2⟩
end Go.Lw
