/- octet.Take, octet.Taker.Num -/
import Derived.Test.YtopmghfjdpdncaaDoorF35
set_option linter.unusedSimpArgs false
set_option linter.unusedVariables false
namespace Go.Lw
open Go Go.Proofs Go.RowKit
variable {G : List (Nat × List V)}

/-- The number of some bytes. -/
def valB (l : List UInt8) : Nat := l.foldl (fun n c => n * 256 + c.toNat) 0

theorem valB_snoc (l : List UInt8) (c : UInt8) : valB (l ++ [c]) = valB l * 256 + c.toNat := by simp [valB]

theorem valB_lt (l : List UInt8) : valB l < 256 ^ l.length := by
  have key : ∀ k, ∀ m : List UInt8, m.length = k → valB m < 256 ^ k := by
    intro k
    induction k with
    | zero => intro m hm; rw [List.eq_nil_of_length_eq_zero hm]; simp [valB]
    | succ k ih =>
      intro m hm
      have hne : m ≠ [] := fun e => by subst e; simp at hm
      rw [← List.dropLast_concat_getLast hne, valB_snoc]
      have h1 := ih m.dropLast (by simp [hm])
      have h2 := (m.getLast hne).toNat_lt
      rw [Nat.pow_succ]
      omega
  exact key _ l rfl

theorem valB_foldl (l : List UInt8) : ∀ n, l.foldl (fun n c => n * 256 + c.toNat) n = n * 256 ^ l.length + valB l := by
  induction l with
  | nil => intro n; simp [valB]
  | cons c l ih =>
    intro n
    rw [List.foldl_cons, ih]
    have : valB (c :: l) = c.toNat * 256 ^ l.length + valB l := by
      show l.foldl _ (0 * 256 + c.toNat) = _
      rw [ih]
      simp
    rw [this, List.length_cons, Nat.pow_succ, Nat.add_mul, Nat.mul_assoc, Nat.mul_comm 256]
    omega

theorem valB_numB (x : Nat) : ∀ k, valB (numB x k) = x % 256 ^ k := by
  intro k
  induction k with
  | zero => simp [numB, valB, Nat.mod_one]
  | succ k ih =>
    rw [numB_cons]
    show (numB x k).foldl _ (0 * 256 + (UInt8.ofNat (x / 256 ^ k % 256)).toNat) = _
    rw [valB_foldl, ih, numB_length]
    have h := u8_toNat (x / 256 ^ k)
    have h2 : (UInt8.ofNat (x / 256 ^ k % 256)).toNat = x / 256 ^ k % 256 := by exact_mod_cast h
    rw [h2, Nat.pow_succ, Nat.mod_mul]
    simp [Nat.mul_comm, Nat.add_comm]

section
variable {P : Program} {ty : TypeId} {lit : Bool}
theorem or8 (x c : Nat) (hc : c < 256) : x * 256 ||| c = x * 256 + c := by
  have h : c < 2 ^ 8 := hc
  have := Nat.two_pow_add_eq_or_of_lt h x
  rw [Nat.mul_comm x 256]
  exact this.symm

theorem shl8_u64 (x : Nat) (h : x < 72057594037927936) : lbin P .shl ty lit (.i .u64 (x : Int)) (.i .u64 8) = some (.i .u64 ((x * 256 : Nat) : Int)) := by
  rw [lbin_shl (by decide)]
  rw [show (x : Int) * 2 ^ min (8 : Int).toNat IntKind.u64.bits = (x : Int) * 256 by rfl]
  rw [wrap_u64 (by omega) (by omega), Int.natCast_mul]
  rfl

theorem or8_u64 (x c : Nat) (h : x < 72057594037927936) (hc : c < 256) : lbin P .or ty lit (.i .u64 ((x * 256 : Nat) : Int)) (.i .u64 (c : Int)) = some (.i .u64 ((x * 256 + c : Nat) : Int)) := by
  rw [lbin_or]
  have h1 : (BitVec.ofInt IntKind.u64.bits ((x * 256 : Nat) : Int)).toNat = x * 256 := by
    rw [BitVec.ofInt_natCast, BitVec.toNat_ofNat]
    exact Nat.mod_eq_of_lt (by simp only [IntKind.bits]; omega)
  have h2 : (BitVec.ofInt IntKind.u64.bits (c : Int)).toNat = c := by
    rw [BitVec.ofInt_natCast, BitVec.toNat_ofNat]
    exact Nat.mod_eq_of_lt (by simp only [IntKind.bits]; omega)
  rw [BitVec.toNat_or, h1, h2, or8 x c hc, wrap_u64 (by omega) (by omega)]
end
theorem lslice_bsl {P : Program} {t e : TypeId} {k : IntKind} {l : List UInt8} (hu : P.underlying t = some (.slice e)) (hz : tsz P e = some 1) {b : Nat} (hb : b ≤ l.length) :
    lslice P t (bsl l) none (some (.i k (b : Int))) none = some (bsl (l.take b)) ∧ lslice P t (bsl l) (some (.i k (b : Int))) none none = some (bsl (l.drop b)) := by
  have h : (b : Int) ≤ (l.length : Int) := by omega
  constructor
  · simp [lslice, bsl, bcs, hu, hz, lbnds, nb, h, List.map_take]
  · have h2 : (l.map fun c => V.i .u8 (c.toNat : Int)).take l.length = l.map fun c => V.i .u8 (c.toNat : Int) := List.take_of_length_le (by simp)
    simp [lslice, bsl, bcs, hu, hz, lbnds, nb, h, List.map_drop, h2]

theorem build96 (l : List UInt8) : lbuild Tryd.prog 96 [(0, bsl l)] = some (.a [bsl l, .i .i64 0]) := by simp [lbuild, places, lfill, put, Value.cells, ofV1]
attribute [local irreducible] LW callK LC lany lrun ldo oK oK2 oKH gK yieldK LY

theorem num1_LC (l : List UInt8) (hl : l.length ≤ 8) (H : List LB) : LC Tryd.prog G 48 [bsl l] H fun v H' => v = .i .u64 (valB l : Int) ∧ H' = H := by
  refine LC.of_walk Tryd.f48 19 (by kernel_rfl) (by kernel_rfl) rfl rfl fun Z hZ => ?_
  repeat (first | refine LW.seq_ops ?_ | refine lrun_end ?_ | (refine lrun_step (by decide) ?_; intro K hK; simp [llen_bsl ty32]; refine hK _ _ ?_; clear hK K) | (refine lrun_stepG rfl (by decide) (by decide) ?_; intro K hK; simp [llen_bsl ty32]; refine hK _ _ ?_; clear hK K) | (refine lrun_stepN ?_; intro K hK; simp [llen_bsl ty32]; refine hK _ _ ?_; clear hK K) | refine LW.seq ?_ | refine LW.block ?_ | refine LW.ops ?_ | refine LW.skip ?_ | refine LW.ret ?_ | refine LW.exit ?_ | refine LW.label ?_ | refine thn_n ?_ | refine thn_r ?_ | refine thn_e ?_ | refine inb_n ?_ | refine inb_r ?_ | refine inb_x ?_ | refine inb_e (by decide) ?_ | (refine LW.ct ?_ ?_; · simp [llen_bsl ty32]; done) | (refine LW.cf ?_ ?_; · simp [llen_bsl ty32]; done) | fail)
  refine LW.loopN (fun m s => ∃ i : Nat, i ≤ l.length ∧ m = l.length - i ∧ s.t 3 = .i .u64 (valB (l.take i) : Int) ∧ s.t 6 = bsl l ∧ s.t 7 = .i .i64 l.length ∧ s.t 8 = .i .i64 i ∧ s.H = H) (m := l.length)
    ⟨0, by omega, by omega, by simp [valB], by simp, by simp, by simp, rfl⟩ ?_
  rintro m ⟨t, H'⟩ ⟨i, hi, rfl, h3, h6, h7, h8, rfl⟩
  dsimp only at h3 h6 h7 h8 hi
  refine LW.toK fun Z2 hZ2 => ?_
  repeat (first | refine LW.seq_ops ?_ | refine lrun_end ?_ | (refine lrun_step (by decide) ?_; intro K hK; simp [h7, h8]; refine hK _ _ ?_; clear hK K) | (refine lrun_stepG rfl (by decide) (by decide) ?_; intro K hK; simp [h7, h8]; refine hK _ _ ?_; clear hK K) | (refine lrun_stepN ?_; intro K hK; simp [h7, h8]; refine hK _ _ ?_; clear hK K) | refine LW.seq ?_ | refine LW.block ?_ | refine LW.ops ?_ | refine LW.skip ?_ | refine LW.ret ?_ | refine LW.exit ?_ | refine LW.label ?_ | refine thn_n ?_ | refine thn_r ?_ | refine thn_e ?_ | refine inb_n ?_ | refine inb_r ?_ | refine inb_x ?_ | refine inb_e (by decide) ?_ | (refine LW.ct ?_ ?_; · simp [h7, h8]; done) | (refine LW.cf ?_ ?_; · simp [h7, h8]; done) | fail)
  refine LW.dec (p := i < l.length) (by simp) (fun h2 => ?_) (fun h2 => ?_)
  · have e1 := liaddr_bsl (P := Tryd.prog) (k := .i64) (l := l) (i := i) (t := 32) (e := 5) ty32 sz5 h2
    have hv := valB_lt (l.take i)
    have hvl : (l.take i).length ≤ 7 := by rw [List.length_take]; omega
    have hv2 : valB (l.take i) < 72057594037927936 := Nat.lt_of_lt_of_le hv (Nat.pow_le_pow_right (by decide) hvl)
    have hc : l[i].toNat < 256 := l[i].toNat_lt
    have hs : valB (l.take (i + 1)) = valB (l.take i) * 256 + l[i].toNat := by rw [List.take_succ_eq_append_getElem h2, valB_snoc]
    generalize valB (l.take i) = v at *
    generalize l[i].toNat = c at *
    have e2 : ∀ lit, lbin Tryd.prog .shl 46 lit (.i .u64 (v : Int)) (.i .u64 8) = _ := fun lit => shl8_u64 v hv2
    have e3 : ∀ lit, lbin Tryd.prog .or 46 lit _ _ = _ := fun lit => or8_u64 v c hv2 hc
    have e4 : IntKind.u64.wrap (c : Int) = (c : Int) := wrap_u64 (by omega) (by omega)
    have e5 : IntKind.i64.wrap ((i : Int) + 1) = (i : Int) + 1 := wrap_i64 (by omega) (by omega)
    generalize hvv : v * 256 = vv at *
    repeat (first | refine LW.seq_ops ?_ | refine lrun_end ?_ | (refine lrun_step (by decide) ?_; intro K hK; simp [h3, h6, h8, e1, lload_one ag5, e2, e3, convK_int ty5 ty46, e4, e5, -lbin_shl]; refine hK _ _ ?_; clear hK K) | (refine lrun_stepG rfl (by decide) (by decide) ?_; intro K hK; simp [h3, h6, h8, e1, lload_one ag5, e2, e3, convK_int ty5 ty46, e4, e5, -lbin_shl]; refine hK _ _ ?_; clear hK K) | (refine lrun_stepN ?_; intro K hK; simp [h3, h6, h8, e1, lload_one ag5, e2, e3, convK_int ty5 ty46, e4, e5, -lbin_shl]; refine hK _ _ ?_; clear hK K) | refine LW.seq ?_ | refine LW.block ?_ | refine LW.ops ?_ | refine LW.skip ?_ | refine LW.ret ?_ | refine LW.exit ?_ | refine LW.label ?_ | refine thn_n ?_ | refine thn_r ?_ | refine thn_e ?_ | refine inb_n ?_ | refine inb_r ?_ | refine inb_x ?_ | refine inb_e (by decide) ?_ | (refine LW.ct ?_ ?_; · simp [h3, h6, h8, e1, lload_one ag5, e2, e3, convK_int ty5 ty46, e4, e5, -lbin_shl]; done) | (refine LW.cf ?_ ?_; · simp [h3, h6, h8, e1, lload_one ag5, e2, e3, convK_int ty5 ty46, e4, e5, -lbin_shl]; done) | fail)
    refine hZ2 _ _ ⟨l.length - (i + 1), by omega, i + 1, by omega, rfl, by simp [hs], by simp [h6], by simp [h7], by simp, rfl⟩
  · obtain rfl : i = l.length := by omega
    rw [List.take_length] at h3
    repeat (first | refine LW.seq_ops ?_ | refine lrun_end ?_ | (refine lrun_step (by decide) ?_; intro K hK; simp; refine hK _ _ ?_; clear hK K) | (refine lrun_stepG rfl (by decide) (by decide) ?_; intro K hK; simp; refine hK _ _ ?_; clear hK K) | (refine lrun_stepN ?_; intro K hK; simp; refine hK _ _ ?_; clear hK K) | refine LW.seq ?_ | refine LW.block ?_ | refine LW.ops ?_ | refine LW.skip ?_ | refine LW.ret ?_ | refine LW.exit ?_ | refine LW.label ?_ | refine thn_n ?_ | refine thn_r ?_ | refine thn_e ?_ | refine inb_n ?_ | refine inb_r ?_ | refine inb_x ?_ | refine inb_e (by decide) ?_ | (refine LW.ct ?_ ?_; · simp; done) | (refine LW.cf ?_ ?_; · simp; done) | fail)
    refine hZ2 _ _ ?_
    repeat (first | refine LW.seq_ops ?_ | refine lrun_end ?_ | (refine lrun_step (by decide) ?_; intro K hK; simp [h3]; refine hK _ _ ?_; clear hK K) | (refine lrun_stepG rfl (by decide) (by decide) ?_; intro K hK; simp [h3]; refine hK _ _ ?_; clear hK K) | (refine lrun_stepN ?_; intro K hK; simp [h3]; refine hK _ _ ?_; clear hK K) | refine LW.seq ?_ | refine LW.block ?_ | refine LW.ops ?_ | refine LW.skip ?_ | refine LW.ret ?_ | refine LW.exit ?_ | refine LW.label ?_ | refine thn_n ?_ | refine thn_r ?_ | refine thn_e ?_ | refine inb_n ?_ | refine inb_r ?_ | refine inb_x ?_ | refine inb_e (by decide) ?_ | (refine LW.ct ?_ ?_; · simp [h3]; done) | (refine LW.cf ?_ ?_; · simp [h3]; done) | fail)
    refine hZ _ _ ⟨.inr rfl, .i .u64 (valB l : Int), by simp [lres, lres1, Tryd.f48], .inl ⟨rfl, rfl⟩⟩

theorem take_LC (l : List UInt8) (hl : l ≠ []) (hn : l.length ≤ 140737488355328) (H : List LB) : LC Tryd.prog G 42 [bsl l] H fun v H' => v = .p H.length 0 ∧ H' = H ++ [.c [bsl l, .i .i64 0] 96 true] := by
  refine LC.of_walk Tryd.f42 7 (by kernel_rfl) (by kernel_rfl) rfl rfl fun Z hZ => ?_
  repeat (first | refine LW.seq_ops ?_ | refine lrun_end ?_ | (refine lrun_step (by decide) ?_; intro K hK; simp; refine hK _ _ ?_; clear hK K) | (refine lrun_stepG rfl (by decide) (by decide) ?_; intro K hK; simp; refine hK _ _ ?_; clear hK K) | (refine lrun_stepN ?_; intro K hK; simp; refine hK _ _ ?_; clear hK K) | refine LW.seq ?_ | refine LW.block ?_ | refine LW.ops ?_ | refine LW.skip ?_ | refine LW.ret ?_ | refine LW.exit ?_ | refine LW.label ?_ | refine thn_n ?_ | refine thn_r ?_ | refine thn_e ?_ | refine inb_n ?_ | refine inb_r ?_ | refine inb_x ?_ | refine inb_e (by decide) ?_ | (refine LW.ct ?_ ?_; · simp; done) | (refine LW.cf ?_ ?_; · simp; done) | fail)
  refine lrun_step (by decide) ?_; intro K hK; simp
  refine callK.by (sclone_LC l hl hn _) ?_
  rintro v H' ⟨rfl, rfl⟩
  refine hK _ _ ?_; clear hK K
  repeat (first | refine LW.seq_ops ?_ | refine lrun_end ?_ | (refine lrun_step (by decide) ?_; intro K hK; simp [build96, lnew_a]; refine hK _ _ ?_; clear hK K) | (refine lrun_stepG rfl (by decide) (by decide) ?_; intro K hK; simp [build96, lnew_a]; refine hK _ _ ?_; clear hK K) | (refine lrun_stepN ?_; intro K hK; simp [build96, lnew_a]; refine hK _ _ ?_; clear hK K) | refine LW.seq ?_ | refine LW.block ?_ | refine LW.ops ?_ | refine LW.skip ?_ | refine LW.ret ?_ | refine LW.exit ?_ | refine LW.label ?_ | refine thn_n ?_ | refine thn_r ?_ | refine thn_e ?_ | refine inb_n ?_ | refine inb_r ?_ | refine inb_x ?_ | refine inb_e (by decide) ?_ | (refine LW.ct ?_ ?_; · simp [build96, lnew_a]; done) | (refine LW.cf ?_ ?_; · simp [build96, lnew_a]; done) | fail)
  refine hZ _ _ ⟨.inr rfl, .p H'.length 0, by simp [lres, lres1, Tryd.f42], .inl ⟨rfl, rfl⟩⟩

section
variable {H : List LB} {r : Nat} {l : List UInt8}
theorem some_LC (hr : H[r]? = some (.c [bsl l, .i .i64 0] 96 true)) (k : Nat) (hk : k ≤ 8) (hkl : k ≤ l.length) (hl : l.length ≤ 4611686018427387904) : LC Tryd.prog G 47 [.p r 0, .i .i64 k, .f (.func 48) [] []] H fun v H' =>
    v = .i .u64 (valB (l.take k) : Int) ∧ H' = H.set r (.c [bsl (l.drop k), .i .i64 0] 96 true) := by
  refine LC.of_walk Tryd.f47 50 (by kernel_rfl) (by kernel_rfl) rfl rfl fun Z hZ => ?_
  have e1 := lload_p (P := Tryd.prog) (ty := 26) (o := 1) hr ag26 rfl
  have e2 := lload_p (P := Tryd.prog) (ty := 32) (o := 0) hr ag32 rfl
  obtain ⟨e3, e4⟩ := lslice_bsl (P := Tryd.prog) (t := 32) (e := 5) (k := .i64) ty32 sz5 hkl
  have e5 : ¬ (l.length : Int) < (k : Int) := by omega
  have e5' : ¬ l.length < k := by omega
  have e6 := lstore_at (P := Tryd.prog) (ty := 32) (o := 0) (v := bsl (l.drop k)) hr sz32 (by simp) rfl rfl rfl
  have hlen : (l.take k).length ≤ 8 := by rw [List.length_take]; omega
  generalize hA : l.take k = A at *
  generalize hB : l.drop k = B at *
  repeat (first | refine LW.seq_ops ?_ | refine lrun_end ?_ | (refine lrun_step (by decide) ?_; intro K hK; simp [lbin_eqp ty89, e1, e2, llen_bsl ty32, e5, e5', e3, e4, e6]; refine hK _ _ ?_; clear hK K) | (refine lrun_stepG rfl (by decide) (by decide) ?_; intro K hK; simp [lbin_eqp ty89, e1, e2, llen_bsl ty32, e5, e5', e3, e4, e6]; refine hK _ _ ?_; clear hK K) | (refine lrun_stepN ?_; intro K hK; simp [lbin_eqp ty89, e1, e2, llen_bsl ty32, e5, e5', e3, e4, e6]; refine hK _ _ ?_; clear hK K) | refine LW.seq ?_ | refine LW.block ?_ | refine LW.ops ?_ | refine LW.skip ?_ | refine LW.ret ?_ | refine LW.exit ?_ | refine LW.label ?_ | refine thn_n ?_ | refine thn_r ?_ | refine thn_e ?_ | refine inb_n ?_ | refine inb_r ?_ | refine inb_x ?_ | refine inb_e (by decide) ?_ | (refine LW.ct ?_ ?_; · simp [lbin_eqp ty89, e1, e2, llen_bsl ty32, e5, e5', e3, e4, e6]; done) | (refine LW.cf ?_ ?_; · simp [lbin_eqp ty89, e1, e2, llen_bsl ty32, e5, e5', e3, e4, e6]; done) | fail)
  refine lrun_step (by decide) ?_; intro K hK; simp
  refine callK.by (num1_LC A hlen _) ?_
  rintro v H' ⟨rfl, rfl⟩
  refine hK _ _ ?_; clear hK K
  repeat (first | refine LW.seq_ops ?_ | refine lrun_end ?_ | (refine lrun_step (by decide) ?_; intro K hK; simp; refine hK _ _ ?_; clear hK K) | (refine lrun_stepG rfl (by decide) (by decide) ?_; intro K hK; simp; refine hK _ _ ?_; clear hK K) | (refine lrun_stepN ?_; intro K hK; simp; refine hK _ _ ?_; clear hK K) | refine LW.seq ?_ | refine LW.block ?_ | refine LW.ops ?_ | refine LW.skip ?_ | refine LW.ret ?_ | refine LW.exit ?_ | refine LW.label ?_ | refine thn_n ?_ | refine thn_r ?_ | refine thn_e ?_ | refine inb_n ?_ | refine inb_r ?_ | refine inb_x ?_ | refine inb_e (by decide) ?_ | (refine LW.ct ?_ ?_; · simp; done) | (refine LW.cf ?_ ?_; · simp; done) | fail)
  refine hZ _ _ ⟨.inr rfl, .i .u64 (valB A : Int), by simp [lres, lres1, Tryd.f47], .inl ⟨rfl, rfl⟩⟩

theorem tnum_LC (hr : H[r]? = some (.c [bsl l, .i .i64 0] 96 true)) (k : Nat) (h1 : 1 ≤ k) (hk : k ≤ 8) (hkl : k ≤ l.length) (hl : l.length ≤ 4611686018427387904) : LC Tryd.prog G 43 [.p r 0, .i .i64 k] H fun v H' =>
    v = .i .u64 (valB (l.take k) : Int) ∧ H' = H.set r (.c [bsl (l.drop k), .i .i64 0] 96 true) := by
  refine LC.of_walk Tryd.f43 28 (by kernel_rfl) (by kernel_rfl) rfl rfl fun Z hZ => ?_
  have e1 := lload_p (P := Tryd.prog) (ty := 26) (o := 1) hr ag26 rfl
  have e2 : ¬ (k : Int) < 1 := by omega
  have e3 : ¬ (8 : Int) < (k : Int) := by omega
  have e2' : ¬ k < 1 := by omega
  have e3' : ¬ 8 < k := by omega
  have e2'' : ¬ k = 0 := by omega
  repeat (first | refine LW.seq_ops ?_ | refine lrun_end ?_ | (refine lrun_step (by decide) ?_; intro K hK; simp [lbin_nep ty89, e1, e2, e3, e2', e3', e2'']; refine hK _ _ ?_; clear hK K) | (refine lrun_stepG rfl (by decide) (by decide) ?_; intro K hK; simp [lbin_nep ty89, e1, e2, e3, e2', e3', e2'']; refine hK _ _ ?_; clear hK K) | (refine lrun_stepN ?_; intro K hK; simp [lbin_nep ty89, e1, e2, e3, e2', e3', e2'']; refine hK _ _ ?_; clear hK K) | refine LW.seq ?_ | refine LW.block ?_ | refine LW.ops ?_ | refine LW.skip ?_ | refine LW.ret ?_ | refine LW.exit ?_ | refine LW.label ?_ | refine thn_n ?_ | refine thn_r ?_ | refine thn_e ?_ | refine inb_n ?_ | refine inb_r ?_ | refine inb_x ?_ | refine inb_e (by decide) ?_ | (refine LW.ct ?_ ?_; · simp [lbin_nep ty89, e1, e2, e3, e2', e3', e2'']; done) | (refine LW.cf ?_ ?_; · simp [lbin_nep ty89, e1, e2, e3, e2', e3', e2'']; done) | fail)
  refine lrun_step (by decide) ?_; intro K hK; simp
  refine callK.by (some_LC hr k hk hkl hl) ?_
  rintro v H' ⟨rfl, rfl⟩
  refine hK _ _ ?_; clear hK K
  generalize hvv : valB (l.take k) = v at *
  repeat (first | refine LW.seq_ops ?_ | refine lrun_end ?_ | (refine lrun_step (by decide) ?_; intro K hK; simp; refine hK _ _ ?_; clear hK K) | (refine lrun_stepG rfl (by decide) (by decide) ?_; intro K hK; simp; refine hK _ _ ?_; clear hK K) | (refine lrun_stepN ?_; intro K hK; simp; refine hK _ _ ?_; clear hK K) | refine LW.seq ?_ | refine LW.block ?_ | refine LW.ops ?_ | refine LW.skip ?_ | refine LW.ret ?_ | refine LW.exit ?_ | refine LW.label ?_ | refine thn_n ?_ | refine thn_r ?_ | refine thn_e ?_ | refine inb_n ?_ | refine inb_r ?_ | refine inb_x ?_ | refine inb_e (by decide) ?_ | (refine LW.ct ?_ ?_; · simp; done) | (refine LW.cf ?_ ?_; · simp; done) | fail)
  refine hZ _ _ ⟨.inr rfl, .i .u64 (v : Int), by simp [lres, lres1, Tryd.f43], .inl ⟨rfl, rfl⟩⟩
end
end Go.Lw
