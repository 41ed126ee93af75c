/- list.Get of a list of one page -/
import Derived.Scope
import Derived.ControlIn
import Derived.Test.YtopmghfjdpdncaaDoorF26
set_option linter.unusedSimpArgs false
set_option linter.unusedVariables false
namespace Go.Lw
open Go Go.Proofs Go.RowKit
variable {G : List (Nat × List V)}

def NoGoto (Q : Exit → St → Prop) : Exit → St → Prop
  | .goto _, _ => False
  | e, s => Q e s

theorem LW.scope {P : Program} {n : Nat} {c : Code} {st : St} {Q : Exit → St → Prop} (h : LW P G none n c st (NoGoto Q)) : LW P G none n (.scope c) st Q := by
  intro w0 ρ w a N h1 h2 h3
  refine wpIn_wide.2 (wp_scope_straight (wpIn_wide.1 (wpIn_mono (h w0 ρ w a N h1 h2 h3) fun e a' w' hp => ?_)))
  obtain ⟨s, ρ', k1, k2⟩ := hp
  cases e with
  | goto l => exact k1.elim
  | normal => exact ⟨s, ρ', k1, k2⟩
  | exit id => exact ⟨s, ρ', k1, k2⟩
  | ret => exact ⟨s, ρ', k1, k2⟩
  | panic ch => exact ⟨s, ρ', k1, k2⟩
  | outgrown => exact ⟨s, ρ', k1, k2⟩

theorem purS_isl {H H' : List LB} {r n c x : Nat} {l : List Int} {e : TypeId} {mu : Bool} (hr : H[r]? = some (.c (l.map (V.i .i64)) e mu)) (hs : shut H' r) (hn : l.length = n) : PurS H H' (.own r 0 n c x) (isl l) := by
  refine .own (fun j _ => V.i .i64 (l.getD j 0)) hr hs (by simpa using hn) (fun x hx => by obtain ⟨z, _, rfl⟩ := List.mem_map.1 hx; rfl) (fun j q hj hq => ?_) (fun j x hj q y hq => ?_)
  · obtain rfl : q = 0 := by omega
    have hjl : j < l.length := by omega
    simp [hjl]
  · rw [List.getElem?_map] at hj
    cases hl : l[j]? with
    | none => rw [hl] at hj; cases hj
    | some z =>
      rw [hl] at hj
      obtain rfl := Option.some.inj hj
      match q with
      | 0 =>
        obtain rfl : V.i .i64 z = y := Option.some.inj hq
        rw [List.getD_eq_getElem?_getD, hl]
        exact .same _
      | q + 1 => cases hq

theorem lt_isl {k : Nat} {l : List Int} : V.Lt k (isl l) := .sl fun j x hj q y hq => by
  rw [List.getElem?_map] at hj
  cases hl : l[j]? with
  | none => rw [hl] at hj; cases hj
  | some z =>
    rw [hl] at hj
    obtain rfl := Option.some.inj hj
    match q with
    | 0 =>
      obtain rfl : V.i .i64 z = y := Option.some.inj hq
      exact .i _ _
    | q + 1 => cases hq
attribute [local irreducible] LW callK LC lany lrun ldo oK oK2 oKH gK yieldK LY

set_option maxHeartbeats 1000000 in
theorem get_LC (hG : G.lookup 0 = some halfV) (hG0 : ∀ g cs, (g, cs) ∈ G → V.Lt 0 (.ep cs 0)) {H : List LB} {d m r q s a : Nat} (l : List Int) (hl0 : l ≠ []) (hl : l.length ≤ 59) (hr : Rising l) (hls : ∀ x ∈ l, 0 ≤ x ∧ x ≤ 999) (hD : DiskAt H d m r q (.own s 0 1 1 129))
    (hs : H[s]? = some (.c (.i .i64 a :: bcs (pageOf 4 [(0 :: l).flatMap fun n => numB n.toNat 2])) 67 true)) (ha : a < 9) (ha0 : a ≠ 0) :
    LC Tryd.prog G 14 [.p d 0, .i .i64 0, .i .i64 a] H fun v H' => v = .t [isl l, isl [(a : Int)], .i .i64 0] ∧ H' = H := by
  refine LC.of_walk Tryd.f14 71 (by kernel_rfl) (by kernel_rfl) rfl rfl fun Z hZ => ?_
  have hone := one_LC hG hG0 (H := H) (0 :: l) (by simp) (by simp; omega) (fun x hx => by
    rcases List.mem_cons.1 hx with rfl | hx
    · omega
    · exact hls x hx) hD hs ha
  repeat (first | refine LW.seq_ops ?_ | refine lrun_end ?_ | (refine lrun_step (by decide) ?_; intro K hK; simp; refine hK _ _ ?_; clear hK K) | (refine lrun_stepG rfl (by decide) (by decide) ?_; intro K hK; simp; refine hK _ _ ?_; clear hK K) | (refine lrun_stepN ?_; intro K hK; simp; refine hK _ _ ?_; clear hK K) | refine LW.seq ?_ | refine LW.block ?_ | refine LW.ops ?_ | refine LW.skip ?_ | refine LW.ret ?_ | refine LW.exit ?_ | refine LW.label ?_ | refine thn_n ?_ | refine thn_r ?_ | refine thn_e ?_ | refine inb_n ?_ | refine inb_r ?_ | refine inb_x ?_ | refine inb_e (by decide) ?_ | (refine LW.ct ?_ ?_; · simp; done) | (refine LW.cf ?_ ?_; · simp; done) | fail)
  refine LW.scope (LW.toK fun Z0 hZ0 => ?_)
  have a0 : ¬ (a : Int) = 0 := by omega
  repeat (first | refine LW.seq_ops ?_ | refine lrun_end ?_ | (refine lrun_step (by decide) ?_; intro K hK; simp; refine hK _ _ ?_; clear hK K) | (refine lrun_stepG rfl (by decide) (by decide) ?_; intro K hK; simp; refine hK _ _ ?_; clear hK K) | (refine lrun_stepN ?_; intro K hK; simp; refine hK _ _ ?_; clear hK K) | refine LW.seq ?_ | refine LW.block ?_ | refine LW.ops ?_ | refine LW.skip ?_ | refine LW.ret ?_ | refine LW.exit ?_ | refine LW.label ?_ | refine thn_n ?_ | refine thn_r ?_ | refine thn_e ?_ | refine inb_n ?_ | refine inb_r ?_ | refine inb_x ?_ | refine inb_e (by decide) ?_ | (refine LW.ct ?_ ?_; · simp; done) | (refine LW.cf ?_ ?_; · simp; done) | fail)
  refine LW.unroll 1 (LW.un ?_)
  repeat (first | refine LW.seq_ops ?_ | refine lrun_end ?_ | (refine lrun_step (by decide) ?_; intro K hK; simp [a0, ha0]; refine hK _ _ ?_; clear hK K) | (refine lrun_stepG rfl (by decide) (by decide) ?_; intro K hK; simp [a0, ha0]; refine hK _ _ ?_; clear hK K) | (refine lrun_stepN ?_; intro K hK; simp [a0, ha0]; refine hK _ _ ?_; clear hK K) | refine LW.seq ?_ | refine LW.block ?_ | refine LW.ops ?_ | refine LW.skip ?_ | refine LW.ret ?_ | refine LW.exit ?_ | refine LW.label ?_ | refine thn_n ?_ | refine thn_r ?_ | refine thn_e ?_ | refine inb_n ?_ | refine inb_r ?_ | refine inb_x ?_ | refine inb_e (by decide) ?_ | (refine LW.ct ?_ ?_; · simp [a0, ha0]; done) | (refine LW.cf ?_ ?_; · simp [a0, ha0]; done) | fail)
  refine lrun_step (by decide) ?_; intro K hK; simp
  refine callK.by hone ?_
  rintro v H1 ⟨rfl, rfl⟩
  refine hK _ _ ?_; clear hK K
  have e1 : lslice Tryd.prog 22 (isl (0 :: l)) (some (.i .i64 1)) none none = some (isl l) := by
    have h : (1 : Int) ≤ (l.length : Int) + 1 := by omega
    have h2 : (l.map fun c => V.i .i64 c).take l.length = l.map fun c => V.i .i64 c := List.take_of_length_le (by simp)
    simp [lslice, isl, lbnds, nb, h, h2]
  have w0 : IntKind.i64.wrap 0 = 0 := rfl
  repeat (first | refine LW.seq_ops ?_ | refine lrun_end ?_ | (refine lrun_step (by decide) ?_; intro K hK; simp [lextract, llen_nsl ty22, w0, e1]; refine hK _ _ ?_; clear hK K) | (refine lrun_stepG rfl (by decide) (by decide) ?_; intro K hK; simp [lextract, llen_nsl ty22, w0, e1]; refine hK _ _ ?_; clear hK K) | (refine lrun_stepN ?_; intro K hK; simp [lextract, llen_nsl ty22, w0, e1]; refine hK _ _ ?_; clear hK K) | refine LW.seq ?_ | refine LW.block ?_ | refine LW.ops ?_ | refine LW.skip ?_ | refine LW.ret ?_ | refine LW.exit ?_ | refine LW.label ?_ | refine thn_n ?_ | refine thn_r ?_ | refine thn_e ?_ | refine inb_n ?_ | refine inb_r ?_ | refine inb_x ?_ | refine inb_e (by decide) ?_ | (refine LW.ct ?_ ?_; · simp [lextract, llen_nsl ty22, w0, e1]; done) | (refine LW.cf ?_ ?_; · simp [lextract, llen_nsl ty22, w0, e1]; done) | fail)
  refine lrun_step (by decide) ?_; intro K hK; simp
  refine append_Own (P := Tryd.prog) (k := H1.length) (ats := #[22, 22]) (e := 3) (zv := .int .i64 0) (by_ := 8) (news := l.map (V.i .i64)) (m := l.length) (.inl ⟨rfl, rfl⟩) (Nat.le_refl _) rfl rfl ty22 ty22 rfl nf3 (by omega) rfl (lsrc_isl l) (by simp) (by simp) (by simp; omega) (by simp; omega) ?_
  intro v1 J1 ho1 ht1 hl1
  refine hK _ _ ?_; clear hK K
  rw [List.take_length] at ht1
  have e2 := lbslice_one (P := Tryd.prog) (H := J1) (t := 22) (e := 3) (v := .i .i64 (a : Int)) ty22 sz3 ze3 rfl rfl rfl
  repeat (first | refine LW.seq_ops ?_ | refine lrun_end ?_ | (refine lrun_step (by decide) ?_; intro K hK; simp [e2]; refine hK _ _ ?_; clear hK K) | (refine lrun_stepG rfl (by decide) (by decide) ?_; intro K hK; simp [e2]; refine hK _ _ ?_; clear hK K) | (refine lrun_stepN ?_; intro K hK; simp [e2]; refine hK _ _ ?_; clear hK K) | refine LW.seq ?_ | refine LW.block ?_ | refine LW.ops ?_ | refine LW.skip ?_ | refine LW.ret ?_ | refine LW.exit ?_ | refine LW.label ?_ | refine thn_n ?_ | refine thn_r ?_ | refine thn_e ?_ | refine inb_n ?_ | refine inb_r ?_ | refine inb_x ?_ | refine inb_e (by decide) ?_ | (refine LW.ct ?_ ?_; · simp [e2]; done) | (refine LW.cf ?_ ?_; · simp [e2]; done) | fail)
  refine lrun_step (by decide) ?_; intro K hK; simp
  have o2 : (J1 ++ [LB.c [V.i .i64 (a : Int)] 3 true])[J1.length]? = some (.c [V.i .i64 (a : Int)] 3 true) := own_get
  have l2 : (J1 ++ [LB.c [V.i .i64 (a : Int)] 3 true]).length = J1.length + 1 := by simp
  have ho2 : Own H1.length (J1 ++ [LB.c [V.i .i64 (a : Int)] 3 true]) v1 1 3 (l.map (V.i .i64)) := by
    rw [List.nil_append] at ho1
    exact ho1.ext2 fun r lb _ h => by rw [List.getElem?_append_left (List.getElem?_eq_some_iff.1 h).1]; exact h
  have t2 : (J1 ++ [LB.c [V.i .i64 (a : Int)] 3 true]).take H1.length = H1 := by rw [List.take_append_of_le_length (by omega)]; exact ht1
  generalize J1 ++ [LB.c [V.i .i64 (a : Int)] 3 true] = J2 at *
  refine append_Own (P := Tryd.prog) (k := J2.length) (ats := #[22, 22]) (e := 3) (zv := .int .i64 0) (by_ := 8) (news := [.i .i64 (a : Int)]) (m := 1) (.inl ⟨rfl, rfl⟩) (Nat.le_refl _) rfl rfl ty22 ty22 rfl nf3 (by omega) rfl (lsrc_own1 o2 rfl (by omega)) rfl rfl (by simp) (by simp) ?_
  intro v2 J3 ho3 ht3 hl3
  rw [List.take_length] at ht3
  refine hK _ _ ?_; clear hK K
  refine lrun_step (by decide) ?_; intro K hK; simp; refine hK _ _ ?_; clear hK K
  refine lrun_step (by decide) ?_; intro K hK; simp; refine hK _ _ ?_; clear hK K
  refine lrun_end ?_
  rcases ho2 with ⟨_, hx⟩ | ⟨r1, n1, rfl, k1, k2, k3⟩
  · exact absurd (by simpa using hx) hl0
  rcases ho3 with ⟨_, hx⟩ | ⟨r2, n2, rfl, k4, k5, k6⟩
  · simp at hx
  rw [List.nil_append] at k5
  have r1l : r1 < J2.length := (List.getElem?_eq_some_iff.1 k2).1
  have r2l : r2 < J3.length := (List.getElem?_eq_some_iff.1 k5).1
  have g1 : J3[r1]? = some (.c (l.map (V.i .i64)) 3 true) := by
    rw [← ht3, List.getElem?_take_of_lt r1l] at k2
    exact k2
  refine LW.retell1 9 (retell_dead r1) (v := isl l) (purS_isl g1 (shut_dead (by omega)) (by simpa using k3)) ?_
  have g2 : (J3.set r1 .dead)[r2]? = some (.c ([(a : Int)].map (V.i .i64)) 3 true) := by rw [List.getElem?_set_ne (by omega)]; exact k5
  refine LW.retell1 10 (retell_dead r2) (v := isl [(a : Int)]) (purS_isl g2 (shut_dead (by simpa using r2l)) (by simpa using k6)) ?_
  have hpre : ((J3.set r1 .dead).set r2 .dead).take H1.length = H1 := by
    rw [List.take_set_of_le (by omega), List.take_set_of_le (by omega)]
    have := congrArg (List.take H1.length) ht3
    rw [List.take_take, Nat.min_eq_left (by omega), t2] at this
    exact this
  generalize (J3.set r1 .dead).set r2 .dead = J4 at *
  have e3 : liaddr Tryd.prog 22 (isl (0 :: l)) (.i .i64 0) = some (.ep [.i .i64 0] 0) := liaddr_isl (l := 0 :: l) (i := 0) ty22 sz3 (by simp)
  repeat (first | refine LW.seq_ops ?_ | refine lrun_end ?_ | (refine lrun_step (by decide) ?_; intro K hK; simp [e3, lload_one ag3]; refine hK _ _ ?_; clear hK K) | (refine lrun_stepG rfl (by decide) (by decide) ?_; intro K hK; simp [e3, lload_one ag3]; refine hK _ _ ?_; clear hK K) | (refine lrun_stepN ?_; intro K hK; simp [e3, lload_one ag3]; refine hK _ _ ?_; clear hK K) | refine LW.seq ?_ | refine LW.block ?_ | refine LW.ops ?_ | refine LW.skip ?_ | refine LW.ret ?_ | refine LW.exit ?_ | refine LW.label ?_ | refine thn_n ?_ | refine thn_r ?_ | refine thn_e ?_ | refine inb_n ?_ | refine inb_r ?_ | refine inb_x ?_ | refine inb_e (by decide) ?_ | (refine LW.ct ?_ ?_; · simp [e3, lload_one ag3]; done) | (refine LW.cf ?_ ?_; · simp [e3, lload_one ag3]; done) | fail)
  refine lrun_step (by decide) ?_; intro K hK; simp
  refine callK.by (rising_LC l (by omega) _) ?_
  rintro v J5 ⟨rfl, rfl⟩
  refine hK _ _ ?_; clear hK K
  repeat (first | refine LW.seq_ops ?_ | refine lrun_end ?_ | (refine lrun_step (by decide) ?_; intro K hK; simp [hr]; refine hK _ _ ?_; clear hK K) | (refine lrun_stepG rfl (by decide) (by decide) ?_; intro K hK; simp [hr]; refine hK _ _ ?_; clear hK K) | (refine lrun_stepN ?_; intro K hK; simp [hr]; refine hK _ _ ?_; clear hK K) | refine LW.seq ?_ | refine LW.block ?_ | refine LW.ops ?_ | refine LW.skip ?_ | refine LW.ret ?_ | refine LW.exit ?_ | refine LW.label ?_ | refine thn_n ?_ | refine thn_r ?_ | refine thn_e ?_ | refine inb_n ?_ | refine inb_r ?_ | refine inb_x ?_ | refine inb_e (by decide) ?_ | (refine LW.ct ?_ ?_; · simp [hr]; done) | (refine LW.cf ?_ ?_; · simp [hr]; done) | fail)
  have hJ : J5 = H1 ++ J5.drop H1.length := by conv => lhs; rw [← List.take_append_drop H1.length J5, hpre]
  refine hZ0 _ _ ?_
  refine hZ _ _ ⟨.inr rfl, .t [isl l, isl [(a : Int)], .i .i64 0], by simp [lres, lres1, Tryd.f14], ?_⟩
  dsimp only
  rw [hJ]
  refine leave_drop (.t fun q y hq => ?_) ⟨rfl, rfl⟩
  match q with
  | 0 => simp at hq; subst hq; exact lt_isl
  | 1 => simp at hq; subst hq; exact lt_isl
  | 2 => simp at hq; subst hq; exact .i _ _
  | q + 3 => simp at hq
end Go.Lw
