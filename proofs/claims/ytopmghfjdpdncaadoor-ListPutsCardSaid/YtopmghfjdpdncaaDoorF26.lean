/- list.one, of the one page that lies on a disk -/
import Derived.Test.YtopmghfjdpdncaaDoorF45
set_option linter.unusedSimpArgs false
set_option linter.unusedVariables false
namespace Go.Lw
open Go Go.Proofs Go.RowKit
variable {G : List (Nat × List V)}

section
variable {P : Program} {ty : TypeId} {lit : Bool}
theorem shl8_i64 (x : Nat) (h : x < 256) : lbin P .shl ty lit (.i .i64 (x : Int)) (.i .u64 8) = some (.i .i64 ((x * 256 : Nat) : Int)) := by
  rw [lbin_shl (by decide)]
  rw [show (x : Int) * 2 ^ min (8 : Int).toNat IntKind.i64.bits = (x : Int) * 256 by rfl]
  rw [wrap_i64 (by omega) (by omega), Int.natCast_mul]
  rfl

theorem or8_i64 (x c : Nat) (h : x < 256) (hc : c < 256) : lbin P .or ty lit (.i .i64 ((x * 256 : Nat) : Int)) (.i .i64 (c : Int)) = some (.i .i64 ((x * 256 + c : Nat) : Int)) := by
  rw [lbin_or]
  have h1 : (BitVec.ofInt IntKind.i64.bits ((x * 256 : Nat) : Int)).toNat = x * 256 := by
    rw [BitVec.ofInt_natCast, BitVec.toNat_ofNat]
    exact Nat.mod_eq_of_lt (by simp only [IntKind.bits]; omega)
  have h2 : (BitVec.ofInt IntKind.i64.bits (c : Int)).toNat = c := by
    rw [BitVec.ofInt_natCast, BitVec.toNat_ofNat]
    exact Nat.mod_eq_of_lt (by simp only [IntKind.bits]; omega)
  rw [BitVec.toNat_or, h1, h2, or8 x c hc, wrap_i64 (by omega) (by omega)]
end

theorem two_of (x : Nat) (h : x < 65536) : ∃ c0 c1 : UInt8, numB x 2 = [c0, c1] ∧ c0.toNat * 256 + c1.toNat = x := by
  refine ⟨UInt8.ofNat (x / 256 % 256), UInt8.ofNat (x % 256), by simp [numB], ?_⟩
  rw [UInt8.toNat_ofNat', UInt8.toNat_ofNat']
  omega

theorem Own.ext2 {k : Nat} {H H2 : List LB} {v : V} {z : Nat} {e : TypeId} {cs : List V} (h : Own k H v z e cs) (hh : ∀ r lb, k ≤ r → H[r]? = some lb → H2[r]? = some lb) : Own k H2 v z e cs := by
  rcases h with h | ⟨r, n, h1, h2, h3, h4⟩
  · exact .inl h
  · exact .inr ⟨r, n, h1, h2, hh r _ h2 h3, h4⟩

theorem part_num (ns : List Int) (i : Nat) (h : i < ns.length) : ((ns.flatMap fun n => numB n.toNat 2).drop (i * 2)).take 2 = numB (ns[i]).toNat 2 := by
  have h1 : ns = ns.take i ++ ns[i] :: ns.drop (i + 1) := by rw [List.getElem_cons_drop, List.take_append_drop]
  conv => lhs; rw [h1]
  have h2 := bytes_len (ns.take i)
  have h3 : (ns.take i).length = i := by simp; omega
  rw [List.flatMap_append, List.drop_append_of_le_length (by rw [h2, h3]; omega), List.drop_of_length_le (by rw [h2, h3]; omega), List.nil_append, List.flatMap_cons, List.take_append_of_le_length (by rw [numB_length]; exact Nat.le_refl _), List.take_of_length_le (by rw [numB_length]; exact Nat.le_refl _)]

section
variable {P : Program} {n : Nat} {t : Nat → V} {H : List LB} {Q : Exit → St → Prop}
/-- A range over a function; the temporaries and the record are hidden. -/
theorem LW.rangeT {g : Operand} {ps : Array Tmp} {assign body : Code} {gf : FuncId} {caps : List V} (hg : ev G t g = .f (.func gf) [] caps)
    (h : ∀ (T : Nat → V), (∀ j, T j = t j) → ∀ (fn : FuncId) (lp : LoopState → Option Code → LB), (∀ s p, lp s p = .lp fn n T ps assign body s p) → ∃ R : V → List LB → Prop, LC P G gf (.y H.length :: caps) (H ++ [lp .ready none]) R ∧
      ∀ v H', R v H' → ∃ sst pe, H'[H.length]? = some (lp sst pe) ∧ sst ≠ .busy ∧
        match pe with
        | none => Q .normal ⟨T, H'.set H.length (lp .exhausted none)⟩
        | some c => LW P G none n c ⟨T, H'.set H.length (lp .exhausted (some c))⟩ Q) :
    LW P G none n (.rangeFunc g ps assign body) ⟨t, H⟩ Q :=
  LW.range hg fun fn => h t (fun _ => rfl) fn (fun s p => .lp fn n t ps assign body s p) fun _ _ => rfl

/-- A round. -/
theorem LY.by {r : Nat} {args : List V} {R : V → List LB → Prop} {ps : Array Tmp} {assign body : Code} {fn : FuncId} {lp : LoopState → Option Code → LB} (hlp : ∀ s p, lp s p = .lp fn n t ps assign body s p) (hr : H[r]? = some (lp .ready none)) (hps : ps.size = args.length)
    (h : ∀ (rd : Nat) (Z1 : Exit → St → Prop), (∀ s : St, s.H[r]? = some (lp .ready none) → (∀ Z2 : Exit → St → Prop,
        (∀ s2 : St, s2.H[r]? = some (lp .busy none) → R (.b true) (s2.H.set r (lp .ready none)) → Z2 .normal s2) →
        (∀ s2 : St, s2.H[r]? = some (lp .busy none) → R (.b false) (s2.H.set r (lp .done (some .ret))) → Z2 .ret s2) →
        (∀ (s2 : St) (id : Nat), s2.H[r]? = some (lp .busy none) → R (.b false) (s2.H.set r (lp .done (some (.exit id)))) → Z2 (.exit id) s2) →
        (∀ (s2 : St) (id : Nat), s2.H[r]? = some (lp .busy none) → R (.b false) (s2.H.set r (lp .done (some (.goto id)))) → Z2 (.goto id) s2) →
        LW P G (some rd) n body ⟨s.t, s.H.set r (lp .busy none)⟩ Z2) → Z1 .normal s) → LW P G (some rd) n assign ⟨putT n t ps.toList args, H⟩ Z1) : LY P G r args H R := by
  refine ⟨fn, n, t, ps, assign, body, by rw [hr, hlp], hps, fun rd => ?_⟩
  refine h rd _ fun s hs hb => ⟨rfl, by rw [hs, hlp], ?_⟩
  have := hb (roundK r fn n t ps assign body R) (fun s2 h1 h2 => ⟨by rw [h1, hlp], by rw [hlp] at h2; exact h2⟩) (fun s2 h1 h2 => ⟨by rw [h1, hlp], by rw [hlp] at h2; exact h2⟩)
    (fun s2 id h1 h2 => ⟨by rw [h1, hlp], by rw [hlp] at h2; exact h2⟩) (fun s2 id h1 h2 => ⟨by rw [h1, hlp], by rw [hlp] at h2; exact h2⟩)
  rw [hlp] at this
  exact this
end

theorem llen_bbl {P : Program} {H : List LB} {t e : TypeId} {l : List (List UInt8)} (hu : P.underlying t = some (.slice e)) : llen P H t (bbl l) = some (.i .i64 (l.length : Int)) := by
  rw [bbl, llen_sl hu]
  simp
theorem allocK_v {P : Program} {H : List LB} {t : TypeId} {zv : Value} {v : V} {K : V → List LB → Prop} (h1 : tzero P t = some zv) (h2 : ofV zv = v) (h3 : v.known = true) (h4 : v.cells = [v]) (hk : K (.p H.length 0) (H ++ [.c [v] t true])) : allocK P H t K := by
  unfold allocK
  rw [h1]
  dsimp only
  rw [h2, lnew_one h3 h4]
  exact hk
attribute [local irreducible] LW callK LC lany lrun ldo oK oK2 oKH gK yieldK LY

set_option maxHeartbeats 1000000 in
theorem one_LC (hG : G.lookup 0 = some halfV) (hG0 : ∀ g cs, (g, cs) ∈ G → V.Lt 0 (.ep cs 0)) {H : List LB} {d m r q s a : Nat} (ns : List Int) (hn0 : ns ≠ []) (hn : ns.length ≤ 60) (hns : ∀ x ∈ ns, 0 ≤ x ∧ x ≤ 999) (hD : DiskAt H d m r q (.own s 0 1 1 129))
    (hs : H[s]? = some (.c (.i .i64 a :: bcs (pageOf 4 [ns.flatMap fun n => numB n.toNat 2])) 67 true)) (ha : a < 9) :
    LC Tryd.prog G 26 [.p d 0, .i .i64 0, .i .i64 a] H fun v H' => v = .t [isl ns, .i .i64 0] ∧ H' = H := by
  refine LC.of_walk Tryd.f26 77 (by kernel_rfl) (by kernel_rfl) rfl rfl fun Z hZ => ?_
  have hcl := bytes_len ns
  have hnl : 0 < ns.length := List.length_pos_iff.2 hn0
  have hcz : (ns.flatMap fun n => numB n.toNat 2) ≠ [] := fun e => by rw [e] at hcl; simp at hcl; omega
  have hpl : (pageOf 4 [ns.flatMap fun n => numB n.toNat 2]).length = 128 := pageOf_length _ _ (by simp [backOf, hcl]; omega)
  have hpart := part_num ns
  have hun := unpack_LC hG hG0 4 (by decide) (ns.flatMap fun n => numB n.toNat 2) (by omega) hcz
  generalize hcell : (ns.flatMap fun n => numB n.toNat 2) = cell at *
  generalize pageOf 4 [cell] = page at *
  repeat (first | refine LW.seq_ops ?_ | refine lrun_end ?_ | (refine lrun_step (by decide) ?_; intro K hK; simp; refine hK _ _ ?_; clear hK K) | (refine lrun_stepG rfl (by decide) (by decide) ?_; intro K hK; simp; refine hK _ _ ?_; clear hK K) | (refine lrun_stepN ?_; intro K hK; simp; refine hK _ _ ?_; clear hK K) | refine LW.seq ?_ | refine LW.block ?_ | refine LW.ops ?_ | refine LW.skip ?_ | refine LW.ret ?_ | refine LW.exit ?_ | refine LW.label ?_ | refine thn_n ?_ | refine thn_r ?_ | refine thn_e ?_ | refine inb_n ?_ | refine inb_r ?_ | refine inb_x ?_ | refine inb_e (by decide) ?_ | (refine LW.ct ?_ ?_; · simp; done) | (refine LW.cf ?_ ?_; · simp; done) | fail)
  refine lrun_step (by decide) ?_; intro K hK; simp
  refine callK.by (read_LC hD hs hpl ha) ?_
  rintro v H1 ⟨rfl, rfl⟩
  refine hK _ _ ?_; clear hK K
  repeat (first | refine LW.seq_ops ?_ | refine lrun_end ?_ | (refine lrun_step (by decide) ?_; intro K hK; simp [lextract]; refine hK _ _ ?_; clear hK K) | (refine lrun_stepG rfl (by decide) (by decide) ?_; intro K hK; simp [lextract]; refine hK _ _ ?_; clear hK K) | (refine lrun_stepN ?_; intro K hK; simp [lextract]; refine hK _ _ ?_; clear hK K) | refine LW.seq ?_ | refine LW.block ?_ | refine LW.ops ?_ | refine LW.skip ?_ | refine LW.ret ?_ | refine LW.exit ?_ | refine LW.label ?_ | refine thn_n ?_ | refine thn_r ?_ | refine thn_e ?_ | refine inb_n ?_ | refine inb_r ?_ | refine inb_x ?_ | refine inb_e (by decide) ?_ | (refine LW.ct ?_ ?_; · simp [lextract]; done) | (refine LW.cf ?_ ?_; · simp [lextract]; done) | fail)
  refine lrun_step (by decide) ?_; intro K hK; simp
  refine callK.by (hun _) ?_
  rintro v H2 ⟨rfl, rfl⟩
  refine hK _ _ ?_; clear hK K
  have e1 : liaddr Tryd.prog 25 (bbl [cell]) (.i .i64 0) = some (.ep [bsl cell] 0) := liaddr_sl (i := 0) (y := bsl cell) ty25 sz32 rfl
  have e2 : (cell.length : Int).tmod 2 = 0 := by rw [Int.tmod_eq_emod_of_nonneg (by omega), hcl]; omega
  repeat (first | refine LW.seq_ops ?_ | refine lrun_end ?_ | (refine lrun_step (by decide) ?_; intro K hK; simp [lextract, llen_bbl ty25, e1, lload_one ag32, llen_bsl ty32, e2]; refine hK _ _ ?_; clear hK K) | (refine lrun_stepG rfl (by decide) (by decide) ?_; intro K hK; simp [lextract, llen_bbl ty25, e1, lload_one ag32, llen_bsl ty32, e2]; refine hK _ _ ?_; clear hK K) | (refine lrun_stepN ?_; intro K hK; simp [lextract, llen_bbl ty25, e1, lload_one ag32, llen_bsl ty32, e2]; refine hK _ _ ?_; clear hK K) | refine LW.seq ?_ | refine LW.block ?_ | refine LW.ops ?_ | refine LW.skip ?_ | refine LW.ret ?_ | refine LW.exit ?_ | refine LW.label ?_ | refine thn_n ?_ | refine thn_r ?_ | refine thn_e ?_ | refine inb_n ?_ | refine inb_r ?_ | refine inb_x ?_ | refine inb_e (by decide) ?_ | (refine LW.ct ?_ ?_; · simp [lextract, llen_bbl ty25, e1, lload_one ag32, llen_bsl ty32, e2]; done) | (refine LW.cf ?_ ?_; · simp [lextract, llen_bbl ty25, e1, lload_one ag32, llen_bsl ty32, e2]; done) | fail)
  refine lrun_step (by decide) ?_; intro K hK; simp
  refine allocK_v (v := .nsl) ze22 rfl rfl rfl ?_
  refine hK _ _ ?_; clear hK K
  obtain ⟨o, ho⟩ : ∃ o, H2.length = o := ⟨_, rfl⟩
  rw [ho]
  generalize hH3 : H2 ++ [LB.c [V.nsl] 22 true] = H3 at *
  have l3 : H3.length = o + 1 := by rw [← hH3]; simp [ho]
  repeat (first | refine LW.seq_ops ?_ | refine lrun_end ?_ | (refine lrun_step (by decide) ?_; intro K hK; simp [e1, lload_one ag32]; refine hK _ _ ?_; clear hK K) | (refine lrun_stepG rfl (by decide) (by decide) ?_; intro K hK; simp [e1, lload_one ag32]; refine hK _ _ ?_; clear hK K) | (refine lrun_stepN ?_; intro K hK; simp [e1, lload_one ag32]; refine hK _ _ ?_; clear hK K) | refine LW.seq ?_ | refine LW.block ?_ | refine LW.ops ?_ | refine LW.skip ?_ | refine LW.ret ?_ | refine LW.exit ?_ | refine LW.label ?_ | refine thn_n ?_ | refine thn_r ?_ | refine thn_e ?_ | refine inb_n ?_ | refine inb_r ?_ | refine inb_x ?_ | refine inb_e (by decide) ?_ | (refine LW.ct ?_ ?_; · simp [e1, lload_one ag32]; done) | (refine LW.cf ?_ ?_; · simp [e1, lload_one ag32]; done) | fail)
  refine lrun_step (by decide) ?_; intro K hK; simp
  refine callK.by (chunk_LC cell 2 (by omega) _) ?_
  rintro v H4 ⟨rfl, hH4⟩
  refine hK _ _ ?_; clear hK K
  have l4 : H4.length = o + 3 := by rw [hH4]; simp [l3]
  rw [l3]
  repeat (first | refine LW.seq_ops ?_ | refine lrun_end ?_ | (refine lrun_step (by decide) ?_; intro K hK; simp; refine hK _ _ ?_; clear hK K) | (refine lrun_stepG rfl (by decide) (by decide) ?_; intro K hK; simp; refine hK _ _ ?_; clear hK K) | (refine lrun_stepN ?_; intro K hK; simp; refine hK _ _ ?_; clear hK K) | refine LW.seq ?_ | refine LW.block ?_ | refine LW.ops ?_ | refine LW.skip ?_ | refine LW.ret ?_ | refine LW.exit ?_ | refine LW.label ?_ | refine thn_n ?_ | refine thn_r ?_ | refine thn_e ?_ | refine inb_n ?_ | refine inb_r ?_ | refine inb_x ?_ | refine inb_e (by decide) ?_ | (refine LW.ct ?_ ?_; · simp; done) | (refine LW.cf ?_ ?_; · simp; done) | fail)
  refine LW.rangeT (gf := 45) (caps := [.p (o + 1) 0, .p (o + 1 + 1) 0]) (by simp) fun T hT fn lp hlp => ?_
  have h12 : T 12 = .p o 0 := by rw [hT]; simp
  clear hT
  let I : Nat → List LB → Prop := fun i J => J[o + 1]? = some (.c [bsl cell] 32 true) ∧ J[o + 2]? = some (.c [.i .i64 2] 3 true) ∧ J[o + 3]? = some (lp .ready none) ∧ i ≤ ns.length ∧ J.take o = H2 ∧ o + 4 ≤ J.length ∧
    ∃ w, J[o]? = some (.c [w] 22 true) ∧ Own (o + 4) J w 1 3 ((ns.take i).map (.i .i64))
  rw [l4]
  refine ⟨_, each_LC (l := cell) (k := 2) (by omega) (by omega) (by omega) I (fun i J h => ⟨h.1, h.2.1⟩) (fun i J hlt hI => ?_) _ ?_, fun v H' hR => ?_⟩
  · obtain ⟨g1, g2, g3, g4, g5, g6, w, g7, g8⟩ := hI
    have hi : i < ns.length := by omega
    refine LY.by hlp g3 rfl fun rd Z1 hZ1 => ?_
    have hx := hns _ (List.getElem_mem hi)
    rw [hpart i hi]
    obtain ⟨c0, c1, hc, hcv⟩ := two_of (ns[i]).toNat (by omega)
    rw [hc]
    rw [show putT 77 T #[54].toList [bsl [c0, c1]] = upd T 54 (bsl [c0, c1]) from rfl]
    repeat (first | refine LW.seq_ops ?_ | refine lrun_end ?_ | (refine lrun_step (by decide) ?_; intro K hK; simp; refine hK _ _ ?_; clear hK K) | (refine lrun_stepG rfl (by decide) (by decide) ?_; intro K hK; simp; refine hK _ _ ?_; clear hK K) | (refine lrun_stepN ?_; intro K hK; simp; refine hK _ _ ?_; clear hK K) | refine LW.seq ?_ | refine LW.block ?_ | refine LW.ops ?_ | refine LW.skip ?_ | refine LW.ret ?_ | refine LW.exit ?_ | refine LW.label ?_ | refine thn_n ?_ | refine thn_r ?_ | refine thn_e ?_ | refine inb_n ?_ | refine inb_r ?_ | refine inb_x ?_ | refine inb_e (by decide) ?_ | (refine LW.ct ?_ ?_; · simp; done) | (refine LW.cf ?_ ?_; · simp; done) | fail)
    refine hZ1 _ g3 fun Z2 hn _ _ _ => ?_
    clear hZ1
    have c0l := c0.toNat_lt
    have c1l := c1.toNat_lt
    have f1 := liaddr_bsl (P := Tryd.prog) (k := .i64) (l := [c0, c1]) (i := 0) (t := 32) (e := 5) ty32 sz5 (by simp)
    have f2 := liaddr_bsl (P := Tryd.prog) (k := .i64) (l := [c0, c1]) (i := 1) (t := 32) (e := 5) ty32 sz5 (by simp)
    simp only [List.getElem_cons_zero, List.getElem_cons_succ, show ((0 : Nat) : Int) = 0 from rfl, show ((1 : Nat) : Int) = 1 from rfl] at f1 f2
    generalize c0.toNat = x0 at *
    generalize c1.toNat = x1 at *
    have f3 : IntKind.i64.wrap (x0 : Int) = (x0 : Int) := wrap_i64 (by omega) (by omega)
    have f4 : IntKind.i64.wrap (x1 : Int) = (x1 : Int) := wrap_i64 (by omega) (by omega)
    have f5 : ∀ lit, lbin Tryd.prog .shl 3 lit (.i .i64 (x0 : Int)) (.i .u64 8) = _ := fun lit => shl8_i64 x0 (by omega)
    have f6 : ∀ lit, lbin Tryd.prog .or 3 lit _ _ = _ := fun lit => or8_i64 x0 x1 (by omega) (by omega)
    have hnv : ((x0 * 256 + x1 : Nat) : Int) = ns[i] := by omega
    rw [hnv] at f6
    obtain ⟨y0, hy0⟩ : ∃ y0 : Int, ((x0 * 256 : Nat) : Int) = y0 := ⟨_, rfl⟩
    rw [hy0] at f5 f6
    have l1 : (J.set (o + 3) (lp .busy none)).length = J.length := by simp
    have k7 : (J.set (o + 3) (lp .busy none))[o]? = some (.c [w] 22 true) := by rw [List.getElem?_set_ne (by omega)]; exact g7
    have k1 : (J.set (o + 3) (lp .busy none))[o + 1]? = some (.c [bsl cell] 32 true) := by rw [List.getElem?_set_ne (by omega)]; exact g1
    have k2 : (J.set (o + 3) (lp .busy none))[o + 2]? = some (.c [.i .i64 2] 3 true) := by rw [List.getElem?_set_ne (by omega)]; exact g2
    have k3 : (J.set (o + 3) (lp .busy none))[o + 3]? = some (lp .busy none) := by rw [List.getElem?_set_self (by omega)]
    have k5 : (J.set (o + 3) (lp .busy none)).take o = H2 := by rw [List.take_set_of_le (by omega)]; exact g5
    have k8 : Own (o + 4) (J.set (o + 3) (lp .busy none)) w 1 3 ((ns.take i).map (.i .i64)) := g8.ext2 fun r lb hr h => by rw [List.getElem?_set_ne (by omega)]; exact h
    generalize J.set (o + 3) (lp .busy none) = J1 at *
    have f7 := lload_p (P := Tryd.prog) (ty := 22) (o := 0) k7 (by kernel_rfl) rfl
    have f8 := lbslice_one (P := Tryd.prog) (H := J1) (t := 22) (e := 3) (v := .i .i64 ns[i]) ty22 sz3 ze3 rfl rfl rfl
    have u2 : ∀ r lb, J1[r]? = some lb → (J1 ++ [LB.c [V.i .i64 ns[i]] 3 true])[r]? = some lb := fun r lb h => by rw [List.getElem?_append_left (List.getElem?_eq_some_iff.1 h).1]; exact h
    have own2 : (J1 ++ [LB.c [V.i .i64 ns[i]] 3 true])[J1.length]? = some (.c [V.i .i64 ns[i]] 3 true) := own_get
    have l2 : (J1 ++ [LB.c [V.i .i64 ns[i]] 3 true]).length = J1.length + 1 := by simp
    have t2 : (J1 ++ [LB.c [V.i .i64 ns[i]] 3 true]).take (o + 4) = J1.take (o + 4) := List.take_append_of_le_length (by omega)
    generalize J1 ++ [LB.c [V.i .i64 ns[i]] 3 true] = J2 at *
    have f9 := lload_p (P := Tryd.prog) (ty := 22) (o := 0) (u2 _ _ k7) (by kernel_rfl) rfl
    have htk : (ns.take (i + 1)).map (V.i .i64) = (ns.take i).map (V.i .i64) ++ [.i .i64 ns[i]] := by rw [List.take_succ_eq_append_getElem hi, List.map_append]; rfl
    have hcnt : ((ns.take i).map (V.i .i64)).length = i := by simp; omega
    generalize hnn : ns[i] = nv at *
    repeat (first | refine LW.seq_ops ?_ | refine lrun_end ?_ | (refine lrun_step (by decide) ?_; intro K hK; simp; refine hK _ _ ?_; clear hK K) | (refine lrun_stepG rfl (by decide) (by decide) ?_; intro K hK; simp; refine hK _ _ ?_; clear hK K) | (refine lrun_stepN ?_; intro K hK; simp; refine hK _ _ ?_; clear hK K) | refine LW.seq ?_ | refine LW.block ?_ | refine LW.ops ?_ | refine LW.skip ?_ | refine LW.ret ?_ | refine LW.exit ?_ | refine LW.label ?_ | refine thn_n ?_ | refine thn_r ?_ | refine thn_e ?_ | refine inb_n ?_ | refine inb_r ?_ | refine inb_x ?_ | refine inb_e (by decide) ?_ | (refine LW.ct ?_ ?_; · simp; done) | (refine LW.cf ?_ ?_; · simp; done) | fail)
    first | refine LW.seq_draw (by kernel_rfl) ?_ | refine LW.draw (by kernel_rfl) ?_
    refine lany_qK 1 rfl (by kernel_rfl) rfl rfl (by decide) ?_; intro K hK; simp [f1, f2, rdv, scal, q_int ty5 ty3, f3, f4, f5, f6, -lbin_shl]; refine hK _ ?_; clear hK K
    refine lany_qK 2 rfl (by kernel_rfl) rfl rfl (by decide) ?_; intro K hK; simp [f1, f2, rdv, scal, q_int ty5 ty3, f3, f4, f5, f6, -lbin_shl]; refine hK _ ?_; clear hK K
    refine lany_qK 3 rfl (by kernel_rfl) rfl rfl (by decide) ?_; intro K hK; simp [f1, f2, rdv, scal, q_int ty5 ty3, f3, f4, f5, f6, -lbin_shl]; refine hK _ ?_; clear hK K
    refine lany_qK 4 rfl (by kernel_rfl) rfl rfl (by decide) ?_; intro K hK; simp [f1, f2, rdv, scal, q_int ty5 ty3, f3, f4, f5, f6, -lbin_shl]; refine hK _ ?_; clear hK K
    refine lany_qK 5 rfl (by kernel_rfl) rfl rfl (by decide) ?_; intro K hK; simp [f1, f2, rdv, scal, q_int ty5 ty3, f3, f4, f5, f6, -lbin_shl]; refine hK _ ?_; clear hK K
    refine lany_qK 6 rfl (by kernel_rfl) rfl rfl (by decide) ?_; intro K hK; simp [f1, f2, rdv, scal, q_int ty5 ty3, f3, f4, f5, f6, -lbin_shl]; refine hK _ ?_; clear hK K
    refine lany_qK 7 rfl (by kernel_rfl) rfl rfl (by decide) ?_; intro K hK; simp [f1, f2, rdv, scal, q_int ty5 ty3, f3, f4, f5, f6, -lbin_shl]; refine hK _ ?_; clear hK K
    refine lany_qK 8 rfl (by kernel_rfl) rfl rfl (by decide) ?_; intro K hK; simp [f1, f2, rdv, scal, q_int ty5 ty3, f3, f4, f5, f6, -lbin_shl]; refine hK _ ?_; clear hK K
    refine lany_qK 9 rfl (by kernel_rfl) rfl rfl (by decide) ?_; intro K hK; simp [f1, f2, rdv, scal, q_int ty5 ty3, f3, f4, f5, f6, -lbin_shl]; refine hK _ ?_; clear hK K
    refine lany_qK 10 rfl (by kernel_rfl) rfl rfl (by decide) ?_; intro K hK; simp [f1, f2, rdv, scal, q_int ty5 ty3, f3, f4, f5, f6, -lbin_shl]; refine hK _ ?_; clear hK K
    refine lany_2K 0 11 (by kernel_rfl) rfl rfl rfl (by decide) rfl rfl rfl (by decide) ?_ ?_
    · intro K hK; simp [h12, f7]; refine hK _ _ ?_; clear hK K
      refine lany_oK 11 (by kernel_rfl) rfl rfl rfl (by decide) ?_; intro K hK; simp [f8]; refine hK _ _ ?_; clear hK K
      refine lany_oK 12 (by kernel_rfl) rfl rfl rfl (by decide) ?_; intro K hK; simp
      refine append_Own (P := Tryd.prog) (k := o + 4) (ats := #[22, 22]) (e := 3) (zv := .int .i64 0) (by_ := 8) (news := [.i .i64 nv]) (m := 1) (k8.ext2 fun r lb _ h => u2 r lb h) (by omega) rfl rfl ty22 ty22 rfl nf3 (by omega) rfl (lsrc_own1 own2 rfl (by omega)) rfl rfl (by rw [hcnt]; simp; omega) (by rw [hcnt]; simp; omega) ?_
      intro v' J3 ho3 ht3 hl3
      refine hK _ _ ?_; clear hK K
      have u3 : ∀ r lb, r < o + 4 → J1[r]? = some lb → J3[r]? = some lb := fun r lb hr h => get_of_take (ht3.trans t2) hr h
      have hvk : v'.known = true ∧ v'.cells = [v'] ∧ v'.one = true := by
        rcases ho3 with ⟨rfl, _⟩ | ⟨r, n, rfl, _⟩
        · exact ⟨rfl, rfl, rfl⟩
        · exact ⟨rfl, rfl, rfl⟩
      have f10 := lstore_at (P := Tryd.prog) (ty := 22) (o := 0) (v := v') (u3 _ _ (by omega) k7) (by kernel_rfl) (by simp) hvk.1 hvk.2.1 hvk.2.2
      refine lany_oN 13 (by kernel_rfl) rfl rfl rfl ?_; intro K hK; simp [h12, f10]; refine hK _ _ ?_; clear hK K
      refine lany_done (by kernel_rfl) ?_ _
      repeat (first | refine LW.seq_ops ?_ | refine lrun_end ?_ | (refine lrun_step (by decide) ?_; intro K hK; simp; refine hK _ _ ?_; clear hK K) | (refine lrun_stepG rfl (by decide) (by decide) ?_; intro K hK; simp; refine hK _ _ ?_; clear hK K) | (refine lrun_stepN ?_; intro K hK; simp; refine hK _ _ ?_; clear hK K) | refine LW.seq ?_ | refine LW.block ?_ | refine LW.ops ?_ | refine LW.skip ?_ | refine LW.ret ?_ | refine LW.exit ?_ | refine LW.label ?_ | refine thn_n ?_ | refine thn_r ?_ | refine thn_e ?_ | refine inb_n ?_ | refine inb_r ?_ | refine inb_x ?_ | refine inb_e (by decide) ?_ | (refine LW.ct ?_ ?_; · simp; done) | (refine LW.cf ?_ ?_; · simp; done) | fail)
      refine hn _ (by rw [List.getElem?_set_ne (by omega)]; exact u3 _ _ (by omega) k3) ⟨rfl, ?_, ?_, ?_, by omega, ?_, ?_, v', ?_, ?_⟩
      · dsimp only
        rw [List.getElem?_set_ne (by omega), List.getElem?_set_ne (by omega)]
        exact u3 _ _ (by omega) k1
      · dsimp only
        rw [List.getElem?_set_ne (by omega), List.getElem?_set_ne (by omega)]
        exact u3 _ _ (by omega) k2
      · dsimp only
        rw [List.getElem?_set_self (by simp; omega)]
      · dsimp only
        rw [List.take_set_of_le (by omega), List.take_set_of_le (by omega)]
        have := congrArg (List.take o) (ht3.trans t2)
        rw [List.take_take, List.take_take, Nat.min_eq_left (by omega), k5] at this
        exact this
      · dsimp only
        simp
        omega
      · dsimp only
        rw [List.getElem?_set_ne (by omega), List.getElem?_set_self (by omega)]
      · dsimp only
        rw [htk]
        exact ho3.ext2 fun r lb hr h => by rw [List.getElem?_set_ne (by omega), List.getElem?_set_ne (by omega)]; exact h
    · intro K hK; simp [f8]; refine hK _ _ ?_; clear hK K
      refine lany_oK 0 (by kernel_rfl) rfl rfl rfl (by decide) ?_; intro K hK; simp [h12, f9]; refine hK _ _ ?_; clear hK K
      refine lany_oK 12 (by kernel_rfl) rfl rfl rfl (by decide) ?_; intro K hK; simp
      refine append_Own (P := Tryd.prog) (k := o + 4) (ats := #[22, 22]) (e := 3) (zv := .int .i64 0) (by_ := 8) (news := [.i .i64 nv]) (m := 1) (k8.ext2 fun r lb _ h => u2 r lb h) (by omega) rfl rfl ty22 ty22 rfl nf3 (by omega) rfl (lsrc_own1 own2 rfl (by omega)) rfl rfl (by rw [hcnt]; simp; omega) (by rw [hcnt]; simp; omega) ?_
      intro v' J3 ho3 ht3 hl3
      refine hK _ _ ?_; clear hK K
      have u3 : ∀ r lb, r < o + 4 → J1[r]? = some lb → J3[r]? = some lb := fun r lb hr h => get_of_take (ht3.trans t2) hr h
      have hvk : v'.known = true ∧ v'.cells = [v'] ∧ v'.one = true := by
        rcases ho3 with ⟨rfl, _⟩ | ⟨r, n, rfl, _⟩
        · exact ⟨rfl, rfl, rfl⟩
        · exact ⟨rfl, rfl, rfl⟩
      have f10 := lstore_at (P := Tryd.prog) (ty := 22) (o := 0) (v := v') (u3 _ _ (by omega) k7) (by kernel_rfl) (by simp) hvk.1 hvk.2.1 hvk.2.2
      refine lany_oN 13 (by kernel_rfl) rfl rfl rfl ?_; intro K hK; simp [h12, f10]; refine hK _ _ ?_; clear hK K
      refine lany_done (by kernel_rfl) ?_ _
      repeat (first | refine LW.seq_ops ?_ | refine lrun_end ?_ | (refine lrun_step (by decide) ?_; intro K hK; simp; refine hK _ _ ?_; clear hK K) | (refine lrun_stepG rfl (by decide) (by decide) ?_; intro K hK; simp; refine hK _ _ ?_; clear hK K) | (refine lrun_stepN ?_; intro K hK; simp; refine hK _ _ ?_; clear hK K) | refine LW.seq ?_ | refine LW.block ?_ | refine LW.ops ?_ | refine LW.skip ?_ | refine LW.ret ?_ | refine LW.exit ?_ | refine LW.label ?_ | refine thn_n ?_ | refine thn_r ?_ | refine thn_e ?_ | refine inb_n ?_ | refine inb_r ?_ | refine inb_x ?_ | refine inb_e (by decide) ?_ | (refine LW.ct ?_ ?_; · simp; done) | (refine LW.cf ?_ ?_; · simp; done) | fail)
      refine hn _ (by rw [List.getElem?_set_ne (by omega)]; exact u3 _ _ (by omega) k3) ⟨rfl, ?_, ?_, ?_, by omega, ?_, ?_, v', ?_, ?_⟩
      · dsimp only
        rw [List.getElem?_set_ne (by omega), List.getElem?_set_ne (by omega)]
        exact u3 _ _ (by omega) k1
      · dsimp only
        rw [List.getElem?_set_ne (by omega), List.getElem?_set_ne (by omega)]
        exact u3 _ _ (by omega) k2
      · dsimp only
        rw [List.getElem?_set_self (by simp; omega)]
      · dsimp only
        rw [List.take_set_of_le (by omega), List.take_set_of_le (by omega)]
        have := congrArg (List.take o) (ht3.trans t2)
        rw [List.take_take, List.take_take, Nat.min_eq_left (by omega), k5] at this
        exact this
      · dsimp only
        simp
        omega
      · dsimp only
        rw [List.getElem?_set_ne (by omega), List.getElem?_set_self (by omega)]
      · dsimp only
        rw [htk]
        exact ho3.ext2 fun r lb hr h => by rw [List.getElem?_set_ne (by omega), List.getElem?_set_ne (by omega)]; exact h
  · have up4 : ∀ r, r < H4.length → (H4 ++ [lp .ready none])[r]? = H4[r]? := fun r hr => List.getElem?_append_left hr
    have g0 : H4[o]? = some (.c [.nsl] 22 true) := by rw [hH4, List.getElem?_append_left (by simp; omega), List.getElem?_append_left (by omega), ← hH3, ← ho, own_get]
    have g1 : H4[o + 1]? = some (.c [bsl cell] 32 true) := by rw [hH4, List.getElem?_append_left (by simp; omega), ← l3, own_get]
    have g2 : H4[o + 2]? = some (.c [.i .i64 2] 3 true) := by
      have : (H3 ++ [LB.c [bsl cell] 32 true]).length = o + 2 := by simp [l3]
      rw [hH4, ← this, own_get]
      rfl
    refine ⟨by rw [up4 _ (by omega)]; exact g1, by rw [up4 _ (by omega)]; exact g2, by rw [← l4, own_get], by omega, ?_, by simp; omega, .nsl, by rw [up4 _ (by omega)]; exact g0, .inl ⟨rfl, by simp⟩⟩
    rw [List.take_append_of_le_length (by omega), hH4, List.take_append_of_le_length (by simp; omega), List.take_append_of_le_length (by omega), ← hH3, ← ho, List.take_append_of_le_length (Nat.le_refl _), List.take_length]
  · obtain ⟨i, hi, g1, g2, g3, g4, g5, g6, w, g7, g8⟩ := hR
    obtain rfl : i = ns.length := by omega
    rw [List.take_length] at g8
    refine ⟨.ready, none, g3, by simp, ?_⟩
    dsimp only
    have hpre : (H'.set (o + 3) (lp .exhausted none)).take o = H2 := by rw [List.take_set_of_le (by omega)]; exact g5
    have k7 : (H'.set (o + 3) (lp .exhausted none))[o]? = some (.c [w] 22 true) := by rw [List.getElem?_set_ne (by omega)]; exact g7
    have k8 : Own o (H'.set (o + 3) (lp .exhausted none)) w 1 3 (ns.map (.i .i64)) := by
      rcases g8 with h | ⟨r, n, h1, h2, h3, h4⟩
      · exact .inl h
      · exact .inr ⟨r, n, h1, by omega, by rw [List.getElem?_set_ne (by omega)]; exact h3, h4⟩
    generalize H'.set (o + 3) (lp .exhausted none) = J at *
    have k9 := k8
    rcases k9 with ⟨_, hx⟩ | ⟨r, n, rfl, _, _, hlen⟩
    · exact absurd (by simpa using hx) hn0
    have hnn : n = ns.length := by simpa using hlen.symm
    have f1 := lload_p (P := Tryd.prog) (ty := 22) (o := 0) k7 (by kernel_rfl) rfl
    have n1 : ¬ (n : Int) = 0 := by omega
    have n2 : ¬ n = 0 := by omega
    have n3 : ¬ (60 : Int) < (n : Int) := by omega
    have n4 : ¬ 60 < n := by omega
    repeat (first | refine LW.seq_ops ?_ | refine lrun_end ?_ | (refine lrun_step (by decide) ?_; intro K hK; simp [h12, f1, llen_own ty22, n1, n2, n3, n4]; refine hK _ _ ?_; clear hK K) | (refine lrun_stepG rfl (by decide) (by decide) ?_; intro K hK; simp [h12, f1, llen_own ty22, n1, n2, n3, n4]; refine hK _ _ ?_; clear hK K) | (refine lrun_stepN ?_; intro K hK; simp [h12, f1, llen_own ty22, n1, n2, n3, n4]; refine hK _ _ ?_; clear hK K) | refine LW.seq ?_ | refine LW.block ?_ | refine LW.ops ?_ | refine LW.skip ?_ | refine LW.ret ?_ | refine LW.exit ?_ | refine LW.label ?_ | refine thn_n ?_ | refine thn_r ?_ | refine thn_e ?_ | refine inb_n ?_ | refine inb_r ?_ | refine inb_x ?_ | refine inb_e (by decide) ?_ | (refine LW.ct ?_ ?_; · simp [h12, f1, llen_own ty22, n1, n2, n3, n4]; done) | (refine LW.cf ?_ ?_; · simp [h12, f1, llen_own ty22, n1, n2, n3, n4]; done) | fail)
    have hJ : J = H2 ++ J.drop o := by conv => lhs; rw [← List.take_append_drop o J, hpre]
    refine hZ _ _ ⟨.inr rfl, .t [.own r 0 n n 1, .i .i64 0], by simp [lres, lres1, Tryd.f26, h12], ?_⟩
    dsimp only
    rw [← ho] at k8
    rw [hJ] at k8 ⊢
    refine leave_pur (v' := .t [isl ns, .i .i64 0]) (.t rfl fun q x y h1 h2 => ?_) ⟨rfl, rfl⟩
    match q with
    | 0 =>
      simp at h1 h2
      subst h1 h2
      exact k8.pur fun x hx => by
        obtain ⟨z, _, rfl⟩ := List.mem_map.1 hx
        exact ⟨.i _ _, rfl⟩
    | 1 => simp at h1 h2; subst h1 h2; exact .lt (.i _ _)
    | q + 2 => simp at h1
end Go.Lw
