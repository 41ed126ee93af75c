/- Bits of whole numbers; the sum of bytes, bit by bit and by half bytes. -/
import Derived.Test.YtopmghfjdpdncaaDoorL20
set_option linter.unusedSimpArgs false
set_option linter.unusedVariables false
namespace Go.Lw
open Go Go.RowKit

theorem bits_u32 : IntKind.u32.bits = 32 := rfl

theorem u32_ofInt (x : Nat) (h : x < 4294967296) : (BitVec.ofInt IntKind.u32.bits (x : Int)).toNat = x := by
  show (BitVec.ofInt 32 (x : Int)).toNat = x
  rw [BitVec.ofInt_natCast, BitVec.toNat_ofNat]
  omega

theorem u32_xor (x y : Nat) (hx : x < 4294967296) (hy : y < 4294967296) : IntKind.u32.wrap ((BitVec.ofInt IntKind.u32.bits (x : Int) ^^^ BitVec.ofInt IntKind.u32.bits (y : Int)).toNat : Int) = ((x ^^^ y : Nat) : Int) := by
  rw [BitVec.toNat_xor, u32_ofInt x hx, u32_ofInt y hy]
  have : x ^^^ y < 2 ^ 32 := Nat.xor_lt_two_pow hx hy
  exact wrap_u32 (by omega) (by omega)

theorem u32_and (x y : Nat) (hx : x < 4294967296) (hy : y < 4294967296) : IntKind.u32.wrap ((BitVec.ofInt IntKind.u32.bits (x : Int) &&& BitVec.ofInt IntKind.u32.bits (y : Int)).toNat : Int) = ((x &&& y : Nat) : Int) := by
  rw [BitVec.toNat_and, u32_ofInt x hx, u32_ofInt y hy]
  have : x &&& y ≤ x := Nat.and_le_left
  exact wrap_u32 (by omega) (by omega)

theorem nat_shr (x k : Nat) : ((x : Int)).fdiv (2 ^ k) = ((x / 2 ^ k : Nat) : Int) := by
  rw [Int.fdiv_eq_ediv_of_nonneg _ (by exact_mod_cast Nat.zero_le _)]
  norm_cast

/-- One bit. -/
def crcBit (x : Nat) : Nat := if x % 2 = 1 then (x / 2) ^^^ 3988292384 else x / 2
/-- Half a byte. -/
def crcHalf (x : Nat) : Nat := crcBit (crcBit (crcBit (crcBit x)))
def crcByte (x : Nat) (c : UInt8) : Nat := crcHalf (crcHalf (x ^^^ c.toNat))
def crcRun (x : Nat) (l : List UInt8) : Nat := l.foldl crcByte x
def crcOf (l : List UInt8) : Nat := 4294967295 - crcRun 4294967295 l

theorem crcBit_lt {x : Nat} (h : x < 4294967296) : crcBit x < 4294967296 := by
  unfold crcBit
  split
  · exact Nat.xor_lt_two_pow (n := 32) (by omega) (by omega)
  · omega
theorem crcHalf_lt {x : Nat} (h : x < 4294967296) : crcHalf x < 4294967296 := crcBit_lt (crcBit_lt (crcBit_lt (crcBit_lt h)))
theorem crcByte_lt {x : Nat} (c : UInt8) (h : x < 4294967296) : crcByte x c < 4294967296 := by
  have hc : c.toNat < 256 := c.toNat_lt
  exact crcHalf_lt (crcHalf_lt (Nat.xor_lt_two_pow (n := 32) h (by omega)))
theorem crcRun_lt (l : List UInt8) : ∀ {x : Nat}, x < 4294967296 → crcRun x l < 4294967296 := by
  induction l with
  | nil => exact fun h => h
  | cons c l ih => exact fun h => ih (crcByte_lt c h)
theorem crcRun_append (x : Nat) (l m : List UInt8) : crcRun x (l ++ m) = crcRun (crcRun x l) m := List.foldl_append
theorem crcOf_lt (l : List UInt8) : crcOf l < 4294967296 := by unfold crcOf; omega

/-- What half a byte does. -/
def halves : List Nat := [0, 498536548, 997073096, 651767980, 1994146192, 1802195444, 1303535960, 1342533948, 3988292384, 4027552580, 3604390888, 3412177804, 2607071920, 2262029012, 2685067896, 3183342108]

/-- One of the table. -/
def hv (j : Nat) : Nat := halves.getD j 0
theorem hv_lt (x : Nat) : hv (x % 16) < 4294967296 := by
  have : ∀ k : Fin 16, hv k.1 < 4294967296 := by decide
  exact this ⟨_, Nat.mod_lt _ (by omega)⟩

theorem crcBit_xor (x y : Nat) : crcBit (x ^^^ y) = crcBit x ^^^ crcBit y := by
  have hm : (x ^^^ y) % 2 = (x % 2) ^^^ (y % 2) := Nat.xor_mod_two_pow (a := x) (b := y) (n := 1)
  have hd : (x ^^^ y) / 2 = (x / 2) ^^^ (y / 2) := by
    have := Nat.shiftRight_xor_distrib (a := x) (b := y) (i := 1)
    simpa [Nat.shiftRight_eq_div_pow] using this
  unfold crcBit
  rw [hm, hd]
  rcases Nat.mod_two_eq_zero_or_one x with hx | hx <;> rcases Nat.mod_two_eq_zero_or_one y with hy | hy <;> simp [hx, hy]
  · rw [Nat.xor_assoc]
  · rw [Nat.xor_assoc, Nat.xor_assoc]
    congr 1
    rw [Nat.xor_comm]
  · rw [Nat.xor_assoc, Nat.xor_comm 3988292384, Nat.xor_assoc, Nat.xor_self, Nat.xor_zero]

theorem crcHalf_xor (x y : Nat) : crcHalf (x ^^^ y) = crcHalf x ^^^ crcHalf y := by
  unfold crcHalf
  rw [crcBit_xor, crcBit_xor, crcBit_xor, crcBit_xor]

theorem crcHalf_mul (y : Nat) : crcHalf (16 * y) = y := by
  have h : ∀ z, crcBit (2 * z) = z := fun z => by
    unfold crcBit
    rw [if_neg (by omega)]
    omega
  unfold crcHalf
  rw [show 16 * y = 2 * (2 * (2 * (2 * y))) by omega, h, h, h, h]

theorem crcHalf_small (k : Nat) (h : k < 16) : crcHalf k = hv k := by
  have : ∀ k : Fin 16, crcHalf k.1 = hv k.1 := by decide
  exact this ⟨k, h⟩

theorem split16 (x : Nat) : x = (16 * (x / 16)) ^^^ (x % 16) := by
  have := Nat.two_pow_add_eq_or_of_lt (i := 4) (b := x % 16) (by omega) (x / 16)
  have hx : (2 ^ 4 * (x / 16)) ^^^ (x % 16) = 2 ^ 4 * (x / 16) + x % 16 := by
    rw [this]
    apply Nat.eq_of_testBit_eq
    intro i
    rw [Nat.testBit_xor, Nat.testBit_or]
    by_cases hi : i < 4
    · have : (2 ^ 4 * (x / 16)).testBit i = false := by
        rw [Nat.testBit_two_pow_mul]
        simp
        omega
      rw [this]
      simp
    · have : (x % 16).testBit i = false := Nat.testBit_lt_two_pow (by
        have : 2 ^ 4 ≤ 2 ^ i := Nat.pow_le_pow_right (by omega) (by omega)
        omega)
      rw [this]
      simp
  have hx2 : (16 * (x / 16)) ^^^ (x % 16) = 16 * (x / 16) + x % 16 := hx
  omega

/-- Half a byte by the table. -/
theorem crcHalf_table (x : Nat) : (x / 16) ^^^ hv (x % 16) = crcHalf x := by
  conv => rhs; rw [split16 x]
  rw [crcHalf_xor, crcHalf_mul, crcHalf_small _ (by omega)]

/-- A number's bytes, the highest first. -/
def numB (x : Nat) : Nat → List UInt8
  | 0 => []
  | k + 1 => numB (x / 256) k ++ [UInt8.ofNat (x % 256)]

theorem numB_length (x k : Nat) : (numB x k).length = k := by
  induction k generalizing x with
  | zero => rfl
  | succ k ih => simp [numB, ih]

section
variable {P : Program} {G : List (Nat × List V)} {H : List LB} {t e s d : TypeId} {i : Nat} {k : IntKind} {ks kd : IntKind}

theorem convK_int (hs : P.underlying s = some (.int ks)) (hd : P.underlying d = some (.int kd)) {x : Int} {K : V → List LB → Prop} : convK P H s d (.i k x) K = K (.i kd (kd.wrap x)) H := by
  have : prun P (convert s d (.int k x)) = some (.int kd (kd.wrap x)) := by
    unfold convert
    rw [prun_bind]
    have h1 : ∀ t, prun P (underlying t) = P.underlying t := fun t => by
      show prun P (Sem.program fun P => _) = _
      simp only [prun]
      show prun P (match P.underlying t with | some d => pure d | none => stuck _) = _
      cases P.underlying t <;> rfl
    rw [h1, hs]
    dsimp only [Option.bind]
    rw [prun_bind, h1, hd]
    rfl
  unfold convK lconv
  simp only [scal, this]
  rfl

theorem q_int (hs : P.underlying s = some (.int ks)) (hd : P.underlying d = some (.int kd)) {x : Int} : (prun P (convert s d (.int k x))).map ofV = some (.i kd (kd.wrap x)) := by
  unfold convert
  rw [prun_bind]
  have h1 : ∀ t, prun P (underlying t) = P.underlying t := fun t => by
    show prun P (match P.underlying t with | some d => pure d | none => stuck _) = _
    cases P.underlying t <;> rfl
  rw [h1, hs]
  dsimp only [Option.bind]
  rw [prun_bind, h1, hd]
  rfl

theorem ev_glob {tm : Nat → V} {g : Nat} {cs : List V} (h : G.lookup g = some cs) : ev G tm (.global g) = .ep cs 0 := by simp [ev, h]

@[simp] theorem bcs_length (l : List UInt8) : (bcs l).length = l.length := by simp [bcs]
theorem bcs_get {l : List UInt8} (h : i < l.length) : (bcs l)[i]? = some (.i .u8 (l[i].toNat : Int)) := by simp [bcs, h]

theorem liaddr_bsl {l : List UInt8} (hu : P.underlying t = some (.slice e)) (hz : tsz P e = some 1) (h : i < l.length) : liaddr P t (bsl l) (.i k (i : Int)) = some (.ep [.i .u8 (l[i].toNat : Int)] 0) :=
  liaddr_sl hu hz (bcs_get h)
theorem llen_bsl {l : List UInt8} (hu : P.underlying t = some (.slice e)) : llen P H t (bsl l) = some (.i .i64 (l.length : Int)) := by
  rw [bsl, llen_sl hu, bcs_length]

theorem fdiv16 (x : Nat) : ((x : Int)).fdiv 16 = ((x / 16 : Nat) : Int) := nat_shr x 4
theorem u32_and15 (x : Nat) (hx : x < 4294967296) : IntKind.u32.wrap ((BitVec.ofInt IntKind.u32.bits (x : Int) &&& BitVec.ofInt IntKind.u32.bits 15).toNat : Int) = ((x % 16 : Nat) : Int) := by
  have := u32_and x 15 hx (by omega)
  rw [Nat.and_two_pow_sub_one_eq_mod x 4] at this
  exact this

theorem unK_not32 {x : Nat} (h : x < 4294967296) {K : V → Prop} : unK P .xor (.i .u32 (x : Int)) K = K (.i .u32 ((4294967295 - x : Nat) : Int)) := by
  have h1 : Op.unary .xor (.int .u32 (x : Int)) = pure (.int .u32 ((4294967295 - x : Nat) : Int)) := by
    have : IntKind.u32.wrap ((BitVec.ofInt IntKind.u32.bits 4294967295 ^^^ BitVec.ofInt IntKind.u32.bits (x : Int)).toNat : Int) = ((4294967295 - x : Nat) : Int) := by
      have h2 := u32_xor 4294967295 x (by omega) h
      have h3 : 4294967295 ^^^ x = 4294967295 - x := by
        have := BitVec.toNat_not (x := BitVec.ofNat 32 x)
        have h4 : (~~~ (BitVec.ofNat 32 x)) = BitVec.ofNat 32 4294967295 ^^^ BitVec.ofNat 32 x := by
          have h5 : BitVec.allOnes 32 = BitVec.ofNat 32 4294967295 := rfl
          rw [← h5, BitVec.allOnes_xor]
        rw [h4, BitVec.toNat_xor, BitVec.toNat_ofNat, BitVec.toNat_ofNat, Nat.mod_eq_of_lt (by omega : x < 2 ^ 32)] at this
        simpa using this
      rw [h3] at h2
      exact h2
    show Op.intBits .xor .u32 _ _ = _
    simp only [Op.intBits]
    rw [← this]
    rfl
  unfold unK
  simp only [scal]
  rw [h1, prun_pure]
  rfl
end

section
variable {P : Program} {ty : TypeId} {lit : Bool}
theorem x32 (x y : Nat) (hx : x < 4294967296) (hy : y < 4294967296) : lbin P .xor ty lit (.i .u32 (x : Int)) (.i .u32 (y : Int)) = some (.i .u32 ((x ^^^ y : Nat) : Int)) := by
  rw [lbin_xor, u32_xor x y hx hy]
theorem a32_15 (x : Nat) (hx : x < 4294967296) : lbin P .and ty lit (.i .u32 (x : Int)) (.i .u32 15) = some (.i .u32 ((x % 16 : Nat) : Int)) := by
  rw [lbin_and, u32_and15 x hx]
theorem table32 (x : Nat) (hx : x < 4294967296) : lbin P .xor ty lit (.i .u32 ((x / 16 : Nat) : Int)) (.i .u32 ((hv (x % 16) : Nat) : Int)) = some (.i .u32 ((crcHalf x : Nat) : Int)) := by
  rw [x32 _ _ (by omega) (hv_lt x), crcHalf_table]
end

/-- A text. -/
def BA (l : List UInt8) : ByteArray := ⟨l.toArray⟩
@[simp] theorem BA_size (l : List UInt8) : (BA l).size = l.length := by simp [BA, ByteArray.size]
theorem BA_inj {l m : List UInt8} : BA l = BA m ↔ l = m := by
  refine ⟨fun h => ?_, fun h => by rw [h]⟩
  have := congrArg ByteArray.data h
  simpa [BA] using this
theorem BA_append (l m : List UInt8) : BA l ++ BA m = BA (l ++ m) := by
  apply ByteArray.ext
  rw [ByteArray.data_append]
  simp [BA]
theorem BA_all (b : ByteArray) : BA b.data.toList = b := by
  apply ByteArray.ext
  simp [BA]

section
variable {P : Program} {H : List LB} {t : TypeId} {k : IntKind}
theorem lindex_s {l : List UInt8} {i : Nat} (hu : P.underlying t = some .string) (h : i < l.length) : lindex P t (.s (BA l)) (.i k (i : Int)) = some (.i .u8 (l[i].toNat : Int)) := by
  have h2 : 0 ≤ (i : Int) ∧ (i : Int).toNat < (BA l).size := ⟨by omega, by simpa using h⟩
  unfold lindex
  dsimp only
  rw [hu]
  dsimp only
  rw [dif_pos h2]
  rfl
theorem llen_BA {l : List UInt8} (hu : P.underlying t = some .string) : llen P H t (.s (BA l)) = some (.i .i64 (l.length : Int)) := by
  rw [llen_s hu, BA_size]
end

theorem u32_quo2 (x : Nat) (h : x < 4294967296) : IntKind.u32.wrap ((x : Int).tdiv 2) = ((x / 2 : Nat) : Int) := by
  rw [Int.tdiv_eq_ediv_of_nonneg (by omega), wrap_u32 (by omega) (by omega)]
  omega
theorem u32_quo2' (x : Nat) (h : x < 4294967296) : IntKind.u32.wrap ((x : Int) / 2) = ((x / 2 : Nat) : Int) := by
  rw [wrap_u32 (by omega) (by omega)]
  omega
theorem u32_rem2 (x : Nat) : (x : Int).tmod 2 = ((x % 2 : Nat) : Int) := by
  rw [Int.tmod_eq_emod_of_nonneg (by omega)]
  omega
theorem u32_not (x : Nat) (h : x < 4294967296) : IntKind.u32.wrap (4294967295 - (x : Int)) = ((4294967295 - x : Nat) : Int) := by
  rw [wrap_u32 (by omega) (by omega)]
  omega

/-- So many bits. -/
def crcBits : Nat → Nat → Nat
  | 0, x => x
  | k + 1, x => crcBit (crcBits k x)
theorem crcBits_lt (k : Nat) {x : Nat} (h : x < 4294967296) : crcBits k x < 4294967296 := by
  induction k with
  | zero => exact h
  | succ k ih => exact crcBit_lt ih
theorem crcBits_eight (x : Nat) : crcBits 8 x = crcHalf (crcHalf x) := rfl
end Go.Lw
/- Slices and texts of bytes: more. -/
namespace Go.Lw
open Go Go.RowKit

theorem numB_cons (x k : Nat) : numB x (k + 1) = UInt8.ofNat (x / 256 ^ k % 256) :: numB x k := by
  induction k generalizing x with
  | zero => simp [numB]
  | succ k ih =>
    rw [numB, ih (x / 256)]
    rw [show numB x (k + 1) = numB (x / 256) k ++ [UInt8.ofNat (x % 256)] from rfl]
    rw [List.cons_append, Nat.div_div_eq_div_mul, Nat.pow_succ, Nat.mul_comm]

theorem u8_toNat (x : Nat) : ((UInt8.ofNat (x % 256)).toNat : Int) = ((x % 256 : Nat) : Int) := by
  simp

theorem wrap_u8_nat (x : Nat) : IntKind.u8.wrap (x : Int) = (((UInt8.ofNat (x % 256)).toNat : Nat) : Int) := by
  rw [u8_toNat]
  simp only [IntKind.wrap, IntKind.bits, IntKind.signed]
  simp

theorem own_get {H : List LB} {b : LB} : (H ++ [b])[H.length]? = some b := by simp
theorem own_set {H : List LB} {b b' : LB} : (H ++ [b]).set H.length b' = H ++ [b'] := by simp

theorem leave_drop {H J : List LB} {v : V} {R : V → List LB → Prop} (h : V.Lt H.length v) (hr : R v H) : Leave H (H ++ J) v R :=
  .inr ⟨H, J, v, rfl, Nat.le_refl _, fun _ _ h => .inl h, .lt h, hr⟩

theorem leave_pur {H J : List LB} {v v' : V} {R : V → List LB → Prop} (h : Pur (H ++ J) H.length v v') (hr : R v' H) : Leave H (H ++ J) v R :=
  .inr ⟨H, J, v', rfl, Nat.le_refl _, fun _ _ h => .inl h, h, hr⟩

theorem bcs_lt {k : Nat} {l : List UInt8} : ∀ x ∈ bcs l, V.Lt k x ∧ x.cells = [x] := by
  intro x hx
  obtain ⟨c, _, rfl⟩ := List.mem_map.1 hx
  exact ⟨.i _ _, rfl⟩

/-- A whole block of bytes of one's own, told as bytes. -/
theorem pur_bytes {H : List LB} {k r n c x : Nat} {e : TypeId} {mu : Bool} {l : List UInt8} (hr : H[r]? = some (.c (bcs l) e mu)) (hk : k ≤ r) (hn : l.length = n) : Pur H k (.own r 0 n c x) (bsl l) := by
  refine .own (fun j _ => (bcs l).getD j .u) hr hk (by simpa using hn) (fun x hx => by rw [(bcs_lt (k := 0) x hx).2]; rfl) (fun j q hj hq => ?_) (fun j x hj q y hq => ?_)
  · have : q = 0 := by omega
    subst this
    have hjl : j < (bcs l).length := by simp; omega
    simp only [Nat.zero_add, Nat.mul_one, Nat.add_zero]
    rw [List.getElem?_eq_getElem hjl, List.getD_eq_getElem?_getD, List.getElem?_eq_getElem hjl]
    rfl
  · have hx := bcs_lt (k := k) x (List.mem_of_getElem? hj)
    rw [hx.2] at hq
    have hxe : (bcs l).getD j .u = x := by rw [List.getD_eq_getElem?_getD, hj]; rfl
    cases q with
    | zero =>
      simp at hq
      subst hq
      rw [hxe]
      exact .lt hx.1
    | succ q => simp at hq

theorem lt_bsl {k : Nat} {l : List UInt8} : V.Lt k (bsl l) := .sl fun j x hj q y hq => by
  have hx := bcs_lt (k := k) x (List.mem_of_getElem? hj)
  rw [hx.2] at hq
  cases q with
  | zero =>
    simp at hq
    subst hq
    exact hx.1
  | succ q => simp at hq

section
variable {P : Program} {H : List LB} {t e : TypeId} {k k' : IntKind}
theorem lmake_one {zv : Value} {by_ : Nat} (hu : P.underlying t = some (.slice e)) (hi : tinf P e = some (some zv, 1, by_)) (hz : zv.cells = #[zv]) (n : Nat) (hn : (by_ : Int) * n ≤ 281474976710656) (hn2 : n ≤ 281474976710656) :
    lmake P H t (.i k (n : Int)) (.i k' (n : Int)) = some (.own H.length 0 n n 0, H ++ [.c (List.replicate n (ofV1 zv)) e true]) := by
  obtain ⟨inf, hinf, hi1, hi2, hi3⟩ : ∃ inf, P.info? e = some inf ∧ inf.zero = some zv ∧ inf.size = 1 ∧ inf.bytes = by_ := by
    unfold tinf at hi
    cases hp : P.info? e with
    | none => rw [hp] at hi; cases hi
    | some inf =>
      rw [hp] at hi
      injection hi with hi
      injection hi with a b
      injection b with b c
      exact ⟨inf, rfl, a, b, c⟩
  unfold lmake
  rw [hu]
  dsimp only
  rw [hinf]
  dsimp only
  rw [hi1]
  dsimp only
  rw [if_pos ⟨by omega, by rw [hz, hi2]; rfl, by omega, by omega, by rw [hi3]; exact hn, by omega⟩]
  simp [hz, rep]
end

theorem put_one {cs : List V} {o : Nat} {v : V} : put cs o [v] = cs.take o ++ v :: cs.drop (o + 1) := by simp [put]

theorem strOfNums_BA (l : List UInt8) : strOfNums (l.map fun c => (c.toNat : Int)) = BA l := by
  apply ByteArray.ext
  apply Array.ext'
  show (l.map fun c => (c.toNat : Int)).map (fun n => UInt8.ofNat n.toNat) = l
  rw [List.map_map]
  conv => rhs; rw [← List.map_id l]
  apply List.map_congr_left
  intro c _
  simp

theorem nums8_bcs (l : List UInt8) : nums8 (bcs l) = some (l.map fun c => (c.toNat : Int)) := by
  induction l with
  | nil => rfl
  | cons c l ih =>
    show nums8 (.i .u8 (c.toNat : Int) :: bcs l) = _
    simp only [nums8, ih]
    rfl

section
variable {P : Program} {H : List LB} {s d e : TypeId}
theorem convK_own {r o n c x : Nat} {cs : List V} {e' : TypeId} {m : Bool} {l : List UInt8} {K : V → List LB → Prop} (hs : P.underlying s = some (.slice e)) (hd : P.underlying d = some .string) (he : P.underlying e = some (.int .u8)) (hr : H[r]? = some (.c cs e' m)) (hl : (cs.drop o).take n = bcs l) (hn : o + n ≤ cs.length) :
    convK P H s d (.own r o n c x) K = K (.s (BA l)) H := by
  have : lconv P s d H (.own r o n c x) = some (.s (BA l)) := by
    unfold lconv
    simp only [scal, hs, hd, he, hr, if_pos hn, hl, nums8_bcs, Option.map_some, strOfNums_BA]
  unfold convK
  rw [this]
theorem convK_bsl {l : List UInt8} {K : V → List LB → Prop} (hs : P.underlying s = some (.slice e)) (hd : P.underlying d = some .string) (he : P.underlying e = some (.int .u8)) : convK P H s d (bsl l) K = K (.s (BA l)) H := by
  have : lconv P s d H (bsl l) = some (.s (BA l)) := by
    unfold lconv bsl
    simp only [scal, hs, hd, he, nums8_bcs, Option.map_some, strOfNums_BA]
  unfold convK
  rw [this]

/-- A row of one byte. -/
theorem lbslice_u8 {t : TypeId} (hu : P.underlying t = some (.slice e)) (hz : tsz P e = some 1) (hze : tzero P e = some (.int .u8 0)) (x : Int) : lbslice P H t 1 [(0, .i .u8 x)] = some (.own H.length 0 1 1 0, H ++ [.c [.i .u8 x] e true]) := by
  unfold lbslice
  rw [hu]
  dsimp only
  rw [hz, hze]
  dsimp only
  rw [if_pos ⟨by omega, rfl, by omega⟩]
  simp [lfill, rep, put, Value.cells]
end

theorem u64_quo256 (w : Nat) (h : w < 18446744073709551616) : IntKind.u64.wrap ((w : Int) / 256) = ((w / 256 : Nat) : Int) := by
  rw [wrap_u64 (by omega) (by omega)]
  omega

/-- A part of a block that is so many bytes. -/
theorem part_get {cs : List V} {o n : Nat} {l : List UInt8} (hl : (cs.drop o).take n = bcs l) {j : Nat} (hj : j < l.length) : cs[o + (j * 1 + 0)]? = some (V.i .u8 ((l[j]).toNat : Int)) := by
  have h := congrArg (fun z => z[j]?) hl
  simp only [List.getElem?_take, List.getElem?_drop] at h
  rw [bcs_get hj] at h
  split at h
  · rw [Nat.mul_one, Nat.add_zero]
    exact h
  · cases h

theorem bcs_mem {l : List UInt8} {j : Nat} {x : V} (h : (bcs l)[j]? = some x) : ∃ hj : j < l.length, x = V.i .u8 ((l[j]).toNat : Int) := by
  have hj : j < l.length := by
    have := (List.getElem?_eq_some_iff.1 h).1
    simpa using this
  rw [bcs_get hj] at h
  exact ⟨hj, (Option.some.inj h).symm⟩

theorem purR_part {H : List LB} {r o n c x : Nat} {cs : List V} {e : TypeId} {mu : Bool} {l : List UInt8} (hr : H[r]? = some (.c cs e mu)) (hl : (cs.drop o).take n = bcs l) (hn : l.length = n) : PurR H (.own r o n c x) (bsl l) := by
  refine .own (fun j _ => V.i .u8 (((l[j]?).getD 0).toNat : Int)) hr (by simpa using hn) (fun x hx => by rw [(bcs_lt (k := 0) x hx).2]; rfl) (fun j q hj hq => ?_) (fun j x hj q y hq => ?_)
  · have : q = 0 := by omega
    subst this
    have hjl : j < l.length := by omega
    rw [part_get hl hjl, List.getElem?_eq_getElem hjl]
    rfl
  · obtain ⟨hjl, rfl⟩ := bcs_mem hj
    cases q with
    | zero =>
      simp at hq
      subst hq
      simp only [List.getElem?_eq_getElem hjl, Option.getD_some]
      exact .lt (.i _ _)
    | succ q => simp at hq

theorem purS_part {H H' : List LB} {r o n c x : Nat} {cs : List V} {e : TypeId} {mu : Bool} {l : List UInt8} (hr : H[r]? = some (.c cs e mu)) (hs : shut H' r) (hl : (cs.drop o).take n = bcs l) (hn : l.length = n) : PurS H H' (.own r o n c x) (bsl l) := by
  refine .own (fun j _ => V.i .u8 (((l[j]?).getD 0).toNat : Int)) hr hs (by simpa using hn) (fun x hx => by rw [(bcs_lt (k := 0) x hx).2]; rfl) (fun j q hj hq => ?_) (fun j x hj q y hq => ?_)
  · have : q = 0 := by omega
    subst this
    have hjl : j < l.length := by omega
    rw [part_get hl hjl, List.getElem?_eq_getElem hjl]
    rfl
  · obtain ⟨hjl, rfl⟩ := bcs_mem hj
    cases q with
    | zero =>
      simp at hq
      subst hq
      simp only [List.getElem?_eq_getElem hjl, Option.getD_some]
      exact .same _
    | succ q => simp at hq

theorem retell_deads {H H' : List LB} (hl : H'.length = H.length) (h : ∀ r : Nat, H'[r]? = H[r]? ∨ H'[r]? = some .dead) : Retell H H' := by
  refine ⟨hl, fun r lb lb' h1 h2 => ?_⟩
  rcases h r with h3 | h3
  · rw [h3, h1] at h2
    injection h2 with h2
    exact .inl h2.symm
  · rw [h3] at h2
    injection h2 with h2
    exact .inr (.inl h2.symm)

theorem retell_dead {H : List LB} (r : Nat) : Retell H (H.set r .dead) := by
  refine retell_deads (by simp) fun q => ?_
  rw [List.getElem?_set]
  split
  · rename_i e
    subst e
    split
    · exact .inr rfl
    · rename_i hlt
      exact .inl (by rw [List.getElem?_eq_none (by omega)])
  · exact .inl rfl

theorem shut_dead {H : List LB} {r : Nat} (h : r < H.length) : shut (H.set r .dead) r := ⟨.dead, by simp [h], rfl⟩

/-- Rows of bytes. -/
def bbl (ls : List (List UInt8)) : V := .sl 1 (ls.map bsl)
end Go.Lw
/- A page of cells. -/
namespace Go.Lw
open Go Go.RowKit

/-- The cells, the last first. -/
def backOf : List (List UInt8) → List UInt8
  | [] => []
  | c :: cs => backOf cs ++ c
theorem backOf_snoc (xs : List (List UInt8)) (c : List UInt8) : backOf (xs ++ [c]) = c ++ backOf xs := by
  induction xs with
  | nil => simp [backOf]
  | cons x xs ih => simp [backOf, ih]
def slotsOf (ls : List (List UInt8)) (i : Nat) : List UInt8 := (List.range i).map fun j => UInt8.ofNat (128 - (backOf (ls.take (j + 1))).length)
theorem slotsOf_length (ls : List (List UInt8)) (i : Nat) : (slotsOf ls i).length = i := by simp [slotsOf]
theorem slotsOf_succ (ls : List (List UInt8)) (i : Nat) : slotsOf ls (i + 1) = slotsOf ls i ++ [UInt8.ofNat (128 - (backOf (ls.take (i + 1))).length)] := by simp [slotsOf, List.range_succ]

/-- What is summed of a page. -/
def bodyOf (kind : UInt8) (ls : List (List UInt8)) : List UInt8 :=
  [kind, UInt8.ofNat ls.length] ++ slotsOf ls ls.length ++ (List.replicate (122 - ls.length - (backOf ls).length) 0 ++ backOf ls)
/-- A page. -/
def pageOf (kind : UInt8) (ls : List (List UInt8)) : List UInt8 := numB (crcOf (bodyOf kind ls)) 4 ++ bodyOf kind ls

/-- The page after so many cells. -/
def pg (kind : UInt8) (ls : List (List UInt8)) (i : Nat) : List UInt8 :=
  ([0, 0, 0, 0, kind, UInt8.ofNat ls.length] ++ slotsOf ls i) ++ (List.replicate (122 - i - (backOf (ls.take i)).length) 0 ++ backOf (ls.take i))

theorem put_bcs (A B : List UInt8) (o : Nat) : put (bcs A) o (bcs B) = bcs (A.take o ++ B ++ A.drop (o + B.length)) := by
  simp [put, bcs, List.map_append, List.map_take, List.map_drop]

theorem put_mid (pre b c : List UInt8) (z : Nat) (h : c.length ≤ z) :
    (pre ++ (List.replicate z (0 : UInt8) ++ b)).take (pre.length + (z - c.length)) ++ c ++ (pre ++ (List.replicate z 0 ++ b)).drop (pre.length + (z - c.length) + c.length) = pre ++ (List.replicate (z - c.length) 0 ++ (c ++ b)) := by
  rw [List.take_append, List.drop_append]
  rw [List.take_of_length_le (by omega), List.drop_of_length_le (by omega : pre.length ≤ _)]
  rw [show pre.length + (z - c.length) - pre.length = z - c.length by omega, show pre.length + (z - c.length) + c.length - pre.length = z by omega]
  rw [List.take_append_of_le_length (by simp), List.drop_append_of_le_length (by simp)]
  rw [List.take_replicate, List.drop_replicate, Nat.min_eq_left (by omega), Nat.sub_self]
  simp

theorem put_first (pre b : List UInt8) (s : UInt8) (z : Nat) (h : 1 ≤ z) :
    (pre ++ (List.replicate z (0 : UInt8) ++ b)).take pre.length ++ [s] ++ (pre ++ (List.replicate z 0 ++ b)).drop (pre.length + 1) = (pre ++ [s]) ++ (List.replicate (z - 1) 0 ++ b) := by
  rw [List.take_append, List.drop_append]
  rw [List.take_of_length_le (by omega), List.drop_of_length_le (by omega : pre.length ≤ _)]
  rw [Nat.sub_self, show pre.length + 1 - pre.length = 1 by omega]
  rw [List.drop_append_of_le_length (by simpa using h), List.drop_replicate]
  simp

theorem back_len (ls : List (List UInt8)) (i : Nat) (h : i ≤ ls.length) : (backOf (ls.take i)).length + i = ((ls.take i).map fun c => c.length + 1).sum := by
  induction i with
  | zero => simp [backOf]
  | succ i ih =>
    rw [List.take_succ_eq_append_getElem (by omega), backOf_snoc, List.map_append, List.sum_append, ← ih (by omega)]
    simp
    omega

theorem pg_length (kind : UInt8) (ls : List (List UInt8)) (i : Nat) (h : (backOf (ls.take i)).length + i ≤ 122) : (pg kind ls i).length = 128 := by
  simp [pg, slotsOf_length]
  omega
theorem pg_body (kind : UInt8) (ls : List (List UInt8)) : pg kind ls ls.length = [0, 0, 0, 0] ++ bodyOf kind ls := by
  simp [pg, bodyOf]
theorem pageOf_length (kind : UInt8) (ls : List (List UInt8)) (h : (backOf ls).length + ls.length ≤ 122) : (pageOf kind ls).length = 128 := by
  simp [pageOf, bodyOf, slotsOf_length, numB_length]
  omega

theorem wrap_u8_small {E : Nat} (h : E < 256) : IntKind.u8.wrap (E : Int) = (((UInt8.ofNat E).toNat : Nat) : Int) := by
  rw [wrap_u8_nat, Nat.mod_eq_of_lt h]

theorem flat_bcs (l : List UInt8) : (bcs l).flatMap V.cells = bcs l := by
  induction l with
  | nil => rfl
  | cons c l ih =>
    show (V.i .u8 (c.toNat : Int) :: bcs l).flatMap V.cells = _
    rw [List.flatMap_cons, ih]
    rfl
theorem one_bcs (l : List UInt8) : (bcs l).all V.one = true := by simp [bcs]

section
variable {P : Program} {H : List LB} {t e : TypeId}
/-- Bytes are laid into one's own. -/
theorem lcopy_bytes {ats : Array TypeId} {r o n c x : Nat} {A B : List UInt8} {e' : TypeId} (ht : ats[0]? = some t) (hu : P.underlying t = some (.slice e)) (hz : tsz P e = some 1) (hr : H[r]? = some (.c (bcs A) e' true)) (hn : B.length ≤ n) (hA : o + n ≤ A.length) :
    lcopy P H ats (.own r o n c x) (bsl B) = some (.i .i64 (B.length : Int), H.set r (.c (bcs (A.take o ++ B ++ A.drop (o + B.length))) e' true)) := by
  unfold lcopy
  rw [ht]
  dsimp only
  rw [hu]
  dsimp only
  rw [hz]
  dsimp only
  rw [if_pos (by omega), bsl, lsrc_sl]
  dsimp only
  rw [flat_bcs, if_pos (one_bcs B), bcs_length]
  rw [Nat.min_eq_left hn]
  by_cases hB0 : B.length = 0
  · obtain rfl : B = [] := List.eq_nil_of_length_eq_zero hB0
    rw [if_pos hB0]
    have hrl := (List.getElem?_eq_some_iff.1 hr).1
    have he : H[r] = .c (bcs A) e' true := (List.getElem?_eq_some_iff.1 hr).2
    have : A.take o ++ [] ++ A.drop (o + ([] : List UInt8).length) = A := by simp
    rw [this, ← he, List.set_getElem_self]
    rfl
  · rw [if_neg hB0, hr]
    dsimp only
    rw [if_pos (by simp; omega)]
    rw [List.take_of_length_le (by simp), put_bcs]

theorem lstore_byte {r o : Nat} {A : List UInt8} {e' : TypeId} {s : UInt8} (hz : tsz P e = some 1) (hr : H[r]? = some (.c (bcs A) e' true)) (ho : o < A.length) :
    lstore P H e (.p r o) (.i .u8 (s.toNat : Int)) = some (H.set r (.c (bcs (A.take o ++ [s] ++ A.drop (o + 1))) e' true)) := by
  unfold lstore
  dsimp only
  rw [hr]
  dsimp only
  rw [hz]
  dsimp only
  rw [if_pos ⟨rfl, rfl, by simp; omega, rfl⟩]
  have := put_bcs A [s] o
  rw [show bcs [s] = [V.i .u8 (s.toNat : Int)] from rfl] at this
  show some (H.set r (.c (put (bcs A) o [V.i .u8 (s.toNat : Int)]) e' true)) = _
  rw [this]
  rfl
end
end Go.Lw
/- Maps from whole numbers. -/
namespace Go.Lw
open Go Go.RowKit

/-- All keys are whole numbers. -/
def IKeys (es : List (V × V)) : Prop := ∀ e ∈ es, ∃ n, e.1 = V.i .i64 n

theorem keysOk_i {es : List (V × V)} (h : IKeys es) (n : Int) : keysOk (.int .i64) (.i .i64 n) es = true := by
  unfold keysOk
  rw [List.all_eq_true]
  intro e he
  obtain ⟨m, hm⟩ := h e he
  rw [hm]
  rfl

theorem mput_cons (e : V × V) (es : List (V × V)) (k v : V) : mput (e :: es) k v = if keq k e.1 then (k, v) :: es else e :: mput es k v := by
  unfold mput mat
  rw [List.findIdx?_cons]
  by_cases h : keq k e.1 = true
  · rw [if_pos h, if_pos h]
    rfl
  · rw [if_neg h, if_neg h]
    cases (List.findIdx? (fun e => keq k e.1) es) <;> rfl

theorem mget_cons (e : V × V) (es : List (V × V)) (k : V) : mget (e :: es) k = if keq k e.1 then some e.2 else mget es k := by
  unfold mget
  rw [List.find?_cons]
  split
  · rename_i h
    rw [h]
    rfl
  · rename_i h
    rw [h]
    rfl

theorem mget_mput {es : List (V × V)} (h : IKeys es) (n m : Int) (v : V) : mget (mput es (.i .i64 n) v) (.i .i64 m) = if m = n then some v else mget es (.i .i64 m) := by
  induction es with
  | nil =>
    show mget [(V.i .i64 n, v)] (.i .i64 m) = _
    rw [mget_cons]
    show (if (m == n) = true then some v else none) = _
    by_cases hm : m = n <;> simp [hm, mget]
  | cons e es ih =>
    obtain ⟨q, hq⟩ := h e List.mem_cons_self
    have ih := ih (fun e he => h e (List.mem_cons_of_mem _ he))
    rw [mput_cons, mget_cons (e := e), hq]
    show mget (if (n == q) = true then (V.i .i64 n, v) :: es else e :: mput es (.i .i64 n) v) (.i .i64 m) = if m = n then some v else if (m == q) = true then some e.2 else mget es (.i .i64 m)
    by_cases hnq : n = q
    · subst hnq
      rw [if_pos (by simp), mget_cons]
      show (if (m == n) = true then some v else mget es (.i .i64 m)) = _
      by_cases hm : m = n <;> simp [hm]
    · rw [if_neg (by simpa using hnq), mget_cons, hq, ih]
      show (if (m == q) = true then some e.2 else _) = _
      by_cases hmq : m = q
      · subst hmq
        have : ¬ m = n := fun e => hnq e.symm
        simp [this]
      · simp [hmq]

theorem ikeys_mput {es : List (V × V)} (h : IKeys es) (n : Int) (v : V) : IKeys (mput es (.i .i64 n) v) := by
  induction es with
  | nil =>
    intro e he
    have : e = (V.i .i64 n, v) := by
      have h2 : mput [] (V.i .i64 n) v = [(V.i .i64 n, v)] := rfl
      rw [h2] at he
      simpa using he
    exact ⟨n, by rw [this]⟩
  | cons a es ih =>
    have ih := ih (fun e he => h e (List.mem_cons_of_mem _ he))
    rw [mput_cons]
    split
    · intro e he
      rcases List.mem_cons.1 he with rfl | he
      · exact ⟨n, rfl⟩
      · exact h e (List.mem_cons_of_mem _ he)
    · intro e he
      rcases List.mem_cons.1 he with rfl | he
      · exact h e List.mem_cons_self
      · exact ih e he

/-- A map that counts. -/
def Counts (es : List (V × V)) (c : Int → Nat) : Prop := IKeys es ∧ ∀ n, mget es (.i .i64 n) = if c n = 0 then none else some (.i .i64 (c n : Int))

theorem Counts.nil : Counts [] fun _ => 0 := ⟨fun e he => (by cases he), fun n => rfl⟩

theorem Counts.put {es : List (V × V)} {c : Int → Nat} (h : Counts es c) (n : Int) : Counts (mput es (.i .i64 n) (.i .i64 ((c n + 1 : Nat) : Int))) fun m => if m = n then c n + 1 else c m := by
  refine ⟨ikeys_mput h.1 n _, fun m => ?_⟩
  rw [mget_mput h.1]
  by_cases hm : m = n
  · simp [hm]
  · simp only [hm, if_false]
    exact h.2 m

section
variable {P : Program} {H : List LB} {t : TypeId}
theorem Counts.look {es : List (V × V)} {c : Int → Nat} {kt et kt' : TypeId} {r : Nat} (h : Counts es c) (hu : P.underlying t = some (.map kt et)) (hk : P.underlying kt = some (.int .i64)) (hz : tzero P et = some (.int .i64 0)) (hr : H[r]? = some (.mp es kt')) (n : Int) :
    llookup P H t (.m r) (.i .i64 n) false = some (.i .i64 (c n : Int)) := by
  unfold llookup
  rw [hu]
  dsimp only
  rw [hk, hz]
  dsimp only
  rw [hr]
  dsimp only
  rw [if_pos (keysOk_i h.1 n), h.2 n]
  by_cases hc : c n = 0
  · rw [if_pos hc]
    simp [hc, ofV, ofV1]
  · rw [if_neg hc]
    rfl

theorem Counts.upd {es : List (V × V)} {c : Int → Nat} {kt et kt' : TypeId} {r : Nat} (h : Counts es c) (hu : P.underlying t = some (.map kt et)) (hk : P.underlying kt = some (.int .i64)) (hr : H[r]? = some (.mp es kt')) (n : Int) (v : V) :
    lmput P H t (.m r) (.i .i64 n) v = some (H.set r (.mp (mput es (.i .i64 n) v) kt')) := by
  unfold lmput
  rw [hu]
  dsimp only
  rw [hk]
  dsimp only
  rw [hr]
  dsimp only
  rw [if_pos (keysOk_i h.1 n)]
end
end Go.Lw
/- Appends: more. -/
namespace Go.Lw
open Go Go.RowKit

theorem tinf_spec {P : Program} {e : TypeId} {zv : Value} {z by_ : Nat} (hi : tinf P e = some (some zv, z, by_)) : ∃ inf, P.info? e = some inf ∧ inf.zero = some zv ∧ inf.size = z ∧ inf.bytes = by_ := by
  unfold tinf at hi
  cases hp : P.info? e with
  | none => rw [hp] at hi; cases hi
  | some inf =>
    rw [hp] at hi
    injection hi with hi
    injection hi with a b
    injection b with b c
    exact ⟨inf, rfl, a, b, c⟩

/-- Elements behind a row that has just been written out. -/
theorem append_lit {P : Program} {H : List LB} {e t t1 : TypeId} {zv : Value} {by_ : Nat} {d1 : TypeDesc} {cs news : List V} {x : V} {m : Nat} {ats : Array TypeId} {K : V → List LB → Prop} (h0 : ats[0]? = some t) (h1 : ats[1]? = some t1)
    (hu : P.underlying t = some (.slice e)) (hu1 : P.underlying t1 = some d1) (hd : isInt d1 = false) (hi : tinf P e = some (some zv, 1, by_)) (hzv : zv.cells.size = 1) (hsrc : lsrc (H ++ [.c cs e true]) 1 x = some (m, news)) (hl : news.length = m) (hone : news.all V.one = true)
    (hb : (cs.length + news.length) * by_ ≤ 140737488355328) (hb2 : cs.length + news.length ≤ 9223372036854775807)
    (hK : ∀ v' H' r' c' x', v' = .own r' 0 (cs.length + news.length) c' x' → H'[r']? = some (.c (cs ++ news) e true) → H.length ≤ r' → H'.take H.length = H → H.length ≤ H'.length → K v' H') :
    oK2 (lappend P (H ++ [.c cs e true]) ats (.own H.length 0 cs.length cs.length 0) x) K := by
  obtain ⟨inf, hinf, hi1, hi2, hi3⟩ := tinf_spec hi
  subst hi3
  unfold lappend
  rw [h0, h1]
  dsimp only
  rw [hu, hu1]
  dsimp only
  rw [hinf]
  dsimp only
  rw [hi1]
  dsimp only
  rw [if_pos ⟨hd, by omega, by rw [hi2]; exact hzv⟩, hi2, hsrc]
  dsimp only
  rw [if_pos hone]
  split
  · rename_i hm
    subst hm
    have hn : news = [] := List.eq_nil_of_length_eq_zero hl
    subst hn
    refine hK _ _ H.length cs.length 0 (by simp) (by simp) (Nat.le_refl _) (by simp) (by simp)
  · rename_i hm
    rw [own_get]
    dsimp only
    rw [if_pos (by omega), if_neg (by omega), if_pos ⟨by rw [hl] at hb; exact hb, by omega⟩, if_pos rfl]
    refine hK _ _ (H ++ [LB.c cs e true]).length (cs.length + m) 1 (by rw [hl]) ?_ (by simp) (by simp) (by simp)
    rw [List.getElem?_append_right (by simp)]
    simp

/-- The numbers of a slice, as its source. -/
theorem lsrc_isl {H : List LB} (l : List Int) : lsrc H 1 (isl l) = some (l.length, l.map (V.i .i64)) := by
  have : (l.map (V.i .i64)).flatMap V.cells = l.map (V.i .i64) := by
    induction l with
    | nil => rfl
    | cons a l ih =>
      show (V.i .i64 a :: l.map (V.i .i64)).flatMap V.cells = _
      rw [List.flatMap_cons, ih]
      rfl
  rw [isl, lsrc_sl, this]
  simp
theorem lsrc_bsl {H : List LB} (l : List UInt8) : lsrc H 1 (bsl l) = some (l.length, bcs l) := by
  rw [bsl, lsrc_sl, flat_bcs, bcs_length]
theorem lsrc_own1 {H : List LB} {r n c x : Nat} {cs : List V} {e : TypeId} {mu : Bool} (hr : H[r]? = some (.c cs e mu)) (hn : cs.length = n) (h0 : n ≠ 0) : lsrc H 1 (.own r 0 n c x) = some (n, cs) := by
  unfold lsrc
  dsimp only
  rw [if_neg h0, hr]
  dsimp only
  rw [if_pos (by omega), List.drop_zero, List.take_of_length_le (by omega)]

/-- A row of one value of one cell. -/
theorem lbslice_one {P : Program} {H : List LB} {t e : TypeId} {zv : Value} {v : V} (hu : P.underlying t = some (.slice e)) (hz : tsz P e = some 1) (hze : tzero P e = some zv) (hzv : zv.cells.size = 1) (hk : v.known = true) (hc : v.cells = [v]) : lbslice P H t 1 [(0, v)] = some (.own H.length 0 1 1 0, H ++ [.c [v] e true]) := by
  unfold lbslice
  rw [hu]
  dsimp only
  rw [hz, hze]
  dsimp only
  rw [if_pos ⟨by omega, hzv, by omega⟩]
  have hlen : (rep (zv.cells.toList.map ofV1) 1).length = 1 := by simp [rep, hzv]
  obtain ⟨q, hq⟩ : ∃ q, rep (zv.cells.toList.map ofV1) 1 = [q] := List.length_eq_one_iff.1 hlen
  rw [hq]
  simp [lfill, hk, hc, put]

/-- What stands ahead of a place stays. -/
theorem get_of_take {H H' : List LB} {k r : Nat} {lb : LB} (h : H'.take k = H.take k) (hr : r < k) (hg : H[r]? = some lb) : H'[r]? = some lb := by
  have := congrArg (fun z => z[r]?) h
  simp only [List.getElem?_take_of_lt hr] at this
  rw [this]
  exact hg

section
variable {P : Program} {H : List LB} {t e : TypeId} {k : IntKind}
@[simp] theorem known_isl {l : List Int} : (isl l).known = true := rfl
@[simp] theorem cells_bsl {l : List UInt8} : (bsl l).cells = [bsl l] := rfl
@[simp] theorem known_bsl {l : List UInt8} : (bsl l).known = true := rfl
theorem llen_isl {l : List Int} (hu : P.underlying t = some (.slice e)) : llen P H t (isl l) = some (.i .i64 (l.length : Int)) := by
  rw [isl, llen_sl hu]
  simp
theorem liaddr_isl {l : List Int} {i : Nat} (hu : P.underlying t = some (.slice e)) (hz : tsz P e = some 1) (h : i < l.length) : liaddr P t (isl l) (.i k (i : Int)) = some (.ep [.i .i64 l[i]] 0) := by
  unfold isl
  exact liaddr_sl (y := .i .i64 l[i]) hu hz (by simp [h])
theorem lslice_isl {l : List Int} {a b : Nat} (hu : P.underlying t = some (.slice e)) (hz : tsz P e = some 1) (hab : a ≤ b) (hb : b ≤ l.length) : lslice P t (isl l) (some (.i k (a : Int))) (some (.i k (b : Int))) none = some (isl ((l.take b).drop a)) := by
  have h1 : (b : Int) ≤ (l.length : Int) := by omega
  have h2 : (a : Int) ≤ (b : Int) := by omega
  simp [lslice, isl, hu, hz, lbnds, nb, h1, h2, List.map_drop, List.map_take]
end
end Go.Lw
