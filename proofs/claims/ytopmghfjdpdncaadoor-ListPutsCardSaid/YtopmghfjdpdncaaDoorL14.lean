/- The local walk: how the walk is evaluated. -/
import Derived.Test.YtopmghfjdpdncaaDoorL12
import Derived.KernelRfl
import Derived.Laws.Strings
set_option linter.unusedSimpArgs false
set_option linter.unusedVariables false
namespace Go.Lw
open Go Go.RowKit

/-- The operations of a region, one after another. -/
def lrun (P : Program) (G : List (Nat × List V)) (n : Nat) (ops : Array Oper) (Q : St → Prop) : List Oper → St → Prop
  | [], st => Q st
  | o :: l, st => match lwant ops n st.t o with
    | some true => ldo P G st o fun v H' => lrun P G n ops Q l ⟨updO n st.t o.dst v, H'⟩
    | some false => lrun P G n ops Q l ⟨updO n st.t o.dst (.t []), st.H⟩
    | none => False

section
variable {P : Program} {G : List (Nat × List V)} {rd : Option Nat} {n : Nat}

theorem ldo_mono {st : St} {o : Oper} {K K' : V → List LB → Prop} (hk : ∀ v H', K v H' → K' v H') (h : ldo P G st o K) : ldo P G st o K' := by
  unfold ldo at h ⊢
  split at h
  · obtain ⟨R, h1, h2⟩ := h
    exact ⟨R, h1, fun v H' hr => hk _ _ (h2 v H' hr)⟩
  · split at h
    · exact hk _ _ h
    · split at h
      · obtain ⟨R, h1, h2⟩ := h
        exact ⟨R, h1, fun v H' hr => hk _ _ (h2 v H' hr)⟩
      · exact h.elim

theorem lops_of_lrun_aux {ops : Array Oper} {Q : St → Prop} : ∀ (l : List Oper) (k : Nat), (∀ j, l[j]? = ops[k + j]?) → ∀ st, lrun P G n ops Q l st → lops P G n ops Q (List.range' k l.length) st := by
  intro l
  induction l with
  | nil => intro k _ st h; exact h
  | cons o l ih =>
    intro k hk st h
    have h0 : ops[k]? = some o := by
      have := hk 0
      simpa using this.symm
    have hl : ∀ j, l[j]? = ops[k + 1 + j]? := fun j => by
      have := hk (j + 1)
      rw [List.getElem?_cons_succ] at this
      rw [this]
      congr 1
      omega
    rw [List.length_cons, List.range'_succ]
    show lop P G n ops k (lops P G n ops Q (List.range' (k + 1) l.length)) st
    unfold lop
    rw [h0]
    unfold lrun at h
    dsimp only
    split at h
    · rename_i hw
      rw [hw]
      exact ldo_mono (fun v H' hr => ih (k + 1) hl _ hr) h
    · rename_i hw
      rw [hw]
      exact ih (k + 1) hl _ h
    · exact h.elim

theorem LW.ops {id : Nat} {l : List Oper} {st : St} {Q : Exit → St → Prop} (h : lrun P G n l.toArray (fun s => Q .normal s) l st) : LW P G rd n (.region id l.toArray false) st Q := by
  refine LW.region ?_
  have := lops_of_lrun_aux (P := P) (G := G) (n := n) (ops := l.toArray) l 0 (fun j => by simp) st h
  rw [List.range_eq_range']
  simpa using this

/-- If there is a value. -/
def oK (x : Option V) (K : V → Prop) : Prop :=
  match x with
  | some v => K v
  | none => False
def oK2 (x : Option (V × List LB)) (K : V → List LB → Prop) : Prop :=
  match x with
  | some v => K v.1 v.2
  | none => False
def oKH (x : Option (List LB)) (K : List LB → Prop) : Prop :=
  match x with
  | some v => K v
  | none => False
@[simp] theorem oK_some (v : V) (K : V → Prop) : oK (some v) K = K v := Eq.trans rfl rfl
@[simp] theorem oK2_some (v : V) (H : List LB) (K : V → List LB → Prop) : oK2 (some (v, H)) K = K v H := Eq.trans rfl rfl
@[simp] theorem oKH_some (v : List LB) (K : List LB → Prop) : oKH (some v) K = K v := Eq.trans rfl rfl

/-- A choice. -/
def pickK (c a b : V) (K : V → Prop) : Prop :=
  match c with
  | .b true => K a
  | .b false => K b
  | _ => False
@[simp] theorem pickK_true (a b : V) (K : V → Prop) : pickK (.b true) a b K = K a := Eq.trans rfl rfl
@[simp] theorem pickK_false (a b : V) (K : V → Prop) : pickK (.b false) a b K = K b := Eq.trans rfl rfl

section
variable {ops : Array Oper} {Q : St → Prop} {l : List Oper} {t : Nat → V} {H : List LB} {d : Option Nat} {ty : TypeId} {pos : String} {af : Array Edge} {K : V → List LB → Prop} {g : Option (Nat × Bool)}
@[simp] theorem lrun_nil {st : St} : lrun P G n ops Q [] st = Q st := Eq.trans rfl rfl
@[simp] theorem lrun_cons {op : Op} : lrun P G n ops Q (⟨d, op, ty, pos, af, none⟩ :: l) ⟨t, H⟩ = ldo P G ⟨t, H⟩ ⟨d, op, ty, pos, af, none⟩ fun v H' => lrun P G n ops Q l ⟨updO n t d v, H'⟩ := Eq.trans rfl rfl
@[simp] theorem updO_some {v : V} {d : Nat} : updO n t (some d) v = if d < n then upd t d v else t := Eq.trans rfl rfl
@[simp] theorem updO_none {v : V} : updO n t none v = t := Eq.trans rfl rfl
@[simp] theorem ldo_move {x : Operand} : ldo P G ⟨t, H⟩ ⟨d, .move x, ty, pos, af, g⟩ K = K (ev G t x) H := Eq.trans rfl rfl
@[simp] theorem ldo_assign {x : Operand} : ldo P G ⟨t, H⟩ ⟨d, .assign x, ty, pos, af, g⟩ K = K (ev G t x) H := Eq.trans rfl rfl
@[simp] theorem ldo_pick {c a b : Operand} : ldo P G ⟨t, H⟩ ⟨d, .pick c a b, ty, pos, af, g⟩ K = pickK (ev G t c) (ev G t a) (ev G t b) (fun v => K v H) := by
  unfold ldo
  simp only [callOf, leff, pickK]
  generalize ev G t c = x
  cases x <;> try rfl
  rename_i b'
  cases b' <;> rfl
theorem oK_map {x : Option V} {f : V → Prop} : (match x.map fun v => (v, H) with | some (v, H') => K v H' | none => False) = oK x (fun v => K v H) := by
  cases x <;> rfl
theorem oKH_map {x : Option (List LB)} : (match x.map fun H => (V.u, H) with | some (v, H') => K v H' | none => False) = oKH x (fun H => K .u H) := by
  cases x <;> rfl
theorem oK2_eq {x : Option (V × List LB)} : (match x with | some (v, H') => K v H' | none => False) = oK2 x K := by
  cases x <;> rfl
@[simp] theorem ldo_bin {op : BinOp} {t1 t2 : TypeId} {x y : Operand} : ldo P G ⟨t, H⟩ ⟨d, .binOp op t1 x y t2, ty, pos, af, g⟩ K = oK (lbin P op t1 (isLit x || isLit y) (ev G t x) (ev G t y)) (fun v => K v H) := oK_map (f := fun _ => True)
@[simp] theorem ldo_load {t1 : TypeId} {x : Operand} : ldo P G ⟨t, H⟩ ⟨d, .load t1 x, ty, pos, af, g⟩ K = oK (lload P H t1 (ev G t x)) (fun v => K v H) := oK_map (f := fun _ => True)
@[simp] theorem ldo_store {t1 : TypeId} {x y : Operand} : ldo P G ⟨t, H⟩ ⟨d, .store t1 x y, ty, pos, af, g⟩ K = oKH (lstore P H t1 (ev G t x) (ev G t y)) (fun H => K .u H) := oKH_map
@[simp] theorem ldo_arr {t1 : TypeId} {x : Operand} : ldo P G ⟨t, H⟩ ⟨d, .sliceToArrayPointer t1 x, ty, pos, af, g⟩ K = oK (larr P t1 (ev G t x)) (fun v => K v H) := oK_map (f := fun _ => True)
@[simp] theorem ldo_slice {t1 : TypeId} {x : Operand} {lo hi mx : Option Operand} : ldo P G ⟨t, H⟩ ⟨d, .slice t1 x lo hi mx, ty, pos, af, g⟩ K = oK (lslice P t1 (ev G t x) (evo G t lo) (evo G t hi) (evo G t mx)) (fun v => K v H) := oK_map (f := fun _ => True)
@[simp] theorem ldo_fieldAddr {t1 : TypeId} {x : Operand} {f : Nat} : ldo P G ⟨t, H⟩ ⟨d, .fieldAddr t1 x f, ty, pos, af, g⟩ K = oK (lfaddr P t1 f (ev G t x)) (fun v => K v H) := oK_map (f := fun _ => True)
@[simp] theorem ldo_field {t1 : TypeId} {x : Operand} {f : Nat} : ldo P G ⟨t, H⟩ ⟨d, .field t1 x f, ty, pos, af, g⟩ K = oK (lfield P t1 f (ev G t x)) (fun v => K v H) := oK_map (f := fun _ => True)
@[simp] theorem ldo_indexAddr {t1 : TypeId} {x y : Operand} : ldo P G ⟨t, H⟩ ⟨d, .indexAddr t1 x y, ty, pos, af, g⟩ K = oK (liaddr P t1 (ev G t x) (ev G t y)) (fun v => K v H) := oK_map (f := fun _ => True)
@[simp] theorem ldo_index {t1 : TypeId} {x y : Operand} : ldo P G ⟨t, H⟩ ⟨d, .index t1 x y, ty, pos, af, g⟩ K = oK (lindex P t1 (ev G t x) (ev G t y)) (fun v => K v H) := oK_map (f := fun _ => True)
@[simp] theorem ldo_lookup {t1 : TypeId} {x y : Operand} {b : Bool} : ldo P G ⟨t, H⟩ ⟨d, .lookup t1 x y b, ty, pos, af, g⟩ K = oK (llookup P H t1 (ev G t x) (ev G t y) b) (fun v => K v H) := oK_map (f := fun _ => True)
@[simp] theorem ldo_mapUpdate {t1 : TypeId} {m x y : Operand} : ldo P G ⟨t, H⟩ ⟨d, .mapUpdate t1 m x y, ty, pos, af, g⟩ K = oKH (lmput P H t1 (ev G t m) (ev G t x) (ev G t y)) (fun H => K .u H) := oKH_map
@[simp] theorem ldo_insert {t1 : TypeId} {m x y : Operand} : ldo P G ⟨t, H⟩ ⟨d, .insert t1 m x y, ty, pos, af, g⟩ K = oKH (lmput P H t1 (ev G t m) (ev G t x) (ev G t y)) (fun H => K .u H) := oKH_map
@[simp] theorem ldo_extract {x : Operand} {i : Nat} : ldo P G ⟨t, H⟩ ⟨d, .extract x i, ty, pos, af, g⟩ K = oK (lextract (ev G t x) i) (fun v => K v H) := oK_map (f := fun _ => True)
@[simp] theorem ldo_build {t1 : TypeId} {ps : Array (Nat × Operand)} : ldo P G ⟨t, H⟩ ⟨d, .build t1 ps, ty, pos, af, g⟩ K = oK (lbuild P t1 (ps.toList.map fun p => (p.1, ev G t p.2))) (fun v => K v H) := oK_map (f := fun _ => True)
@[simp] theorem ldo_buildSlice {t1 : TypeId} {len : Nat} {ps : Array (Nat × Operand)} : ldo P G ⟨t, H⟩ ⟨d, .buildSlice t1 len ps, ty, pos, af, g⟩ K = oK2 (lbslice P H t1 len (ps.toList.map fun p => (p.1, ev G t p.2))) K := oK2_eq
@[simp] theorem ldo_makeMap {t1 : TypeId} {r : Option Operand} : ldo P G ⟨t, H⟩ ⟨d, .makeMap t1 r, ty, pos, af, g⟩ K = oK2 (lmakeMap P H t1 (evo G t r)) K := oK2_eq
@[simp] theorem ldo_makeSlice {t1 : TypeId} {a b : Operand} : ldo P G ⟨t, H⟩ ⟨d, .makeSlice t1 a b, ty, pos, af, g⟩ K = oK2 (lmake P H t1 (ev G t a) (ev G t b)) K := oK2_eq
@[simp] theorem ldo_box {t1 : TypeId} {a : Operand} : ldo P G ⟨t, H⟩ ⟨d, .box t1 a, ty, pos, af, g⟩ K = oK2 (lnew H t1 (ev G t a)) K := oK2_eq
@[simp] theorem ldo_makeFunc {fn : Fn} {a b : Array Operand} : ldo P G ⟨t, H⟩ ⟨d, .makeFunc fn a b, ty, pos, af, g⟩ K = K (.f fn (a.toList.map (ev G t)) (b.toList.map (ev G t))) H := Eq.trans rfl rfl
@[simp] theorem ldo_makeInterface {t1 : TypeId} {a : Operand} (h : concrete P t1 = true) : ldo P G ⟨t, H⟩ ⟨d, .makeInterface t1 a, ty, pos, af, g⟩ K = K (.it t1 (ev G t a)) H := by
  unfold ldo
  simp only [callOf, leff, h, if_true]
/-- The value of a nil check. -/
def nilK (x : V) (K : V → Prop) : Prop :=
  match x with
  | .p r k => K (.p r k)
  | .ep cs k => K (.ep cs k)
  | .it t v => K (.it t v)
  | .f (.func g) a b => K (.f (.func g) a b)
  | _ => False
@[simp] theorem nilK_p {r k : Nat} {K : V → Prop} : nilK (.p r k) K = K (.p r k) := Eq.trans rfl rfl
@[simp] theorem nilK_ep {cs : List V} {k : Nat} {K : V → Prop} : nilK (.ep cs k) K = K (.ep cs k) := Eq.trans rfl rfl
@[simp] theorem nilK_it {x : V} {k : TypeId} {K : V → Prop} : nilK (.it k x) K = K (.it k x) := Eq.trans rfl rfl
@[simp] theorem ldo_nilCheck {x : Operand} : ldo P G ⟨t, H⟩ ⟨d, .nilCheck x, ty, pos, af, g⟩ K = nilK (ev G t x) (fun v => K v H) := by
  unfold ldo
  simp only [callOf, leff, nilK]
  generalize ev G t x = y
  cases y <;> try rfl
  rename_i fn a b
  cases fn <;> rfl
/-- A conversion. -/
def convK (P : Program) (H : List LB) (s d : TypeId) (x : V) (K : V → List LB → Prop) : Prop :=
  match lconv P s d H x with
  | some v => K v H
  | none => oK2 (lbytes P H s d x) K
@[simp] theorem ldo_convert {t1 t2 : TypeId} {x : Operand} : ldo P G ⟨t, H⟩ ⟨d, .convert t1 t2 x, ty, pos, af, g⟩ K = convK P H t1 t2 (ev G t x) K := by
  unfold ldo
  simp only [callOf, leff, convK]
  cases lconv P t1 t2 H (ev G t x) with
  | some v => rfl
  | none => exact oK2_eq
/-- A one-operand operation. -/
def unK (P : Program) (op : UnOp) (x : V) (K : V → Prop) : Prop :=
  match scal x with
  | some v => oK ((prun P (Op.unary op v)).map ofV) K
  | none => False
@[simp] theorem ldo_unOp {op : UnOp} {t1 : TypeId} {x : Operand} : ldo P G ⟨t, H⟩ ⟨d, .unOp op t1 x, ty, pos, af, g⟩ K = unK P op (ev G t x) (fun v => K v H) := by
  unfold ldo
  simp only [callOf, leff, unK]
  cases scal (ev G t x) with
  | none => rfl
  | some v =>
    dsimp only
    cases prun P (Op.unary op v) <;> rfl
@[simp] theorem unK_not {x : Bool} {K : V → Prop} : unK P .not (.b x) K = K (.b (!x)) := Eq.trans rfl rfl
/-- A new variable. -/
def allocK (P : Program) (H : List LB) (t : TypeId) (K : V → List LB → Prop) : Prop :=
  match tzero P t with
  | some zv => oK2 (lnew H t (ofV zv)) K
  | none => False
@[simp] theorem ldo_alloc {t1 : TypeId} : ldo P G ⟨t, H⟩ ⟨d, .alloc t1, ty, pos, af, g⟩ K = allocK P H t1 K := by
  unfold ldo
  simp only [callOf, leff, allocK]
  cases tzero P t1 with
  | none => rfl
  | some zv => exact oK2_eq
end
end
end Go.Lw
/- The local walk: whole numbers, strings, slices, branches. -/
namespace Go.Lw
open Go Go.RowKit

/-- What the machine asks of a type of which it makes values. -/
def tinf (P : Program) (t : TypeId) : Option (Option Value × Nat × Nat) := (P.info? t).map fun i => (i.zero, i.size, i.bytes)

section
variable {P : Program} {G : List (Nat × List V)} {rd : Option Nat} {n : Nat} {ty : TypeId} {lit : Bool} {k : IntKind} {a b : Int}

theorem prun_pure {α : Type} (v : α) : prun P (pure v) = some v := rfl
theorem prun_bind {α β : Type} (s : Sem α) (f : α → Sem β) : prun P (s >>= f) = (prun P s).bind fun x => prun P (f x) := by
  show prun P (Sem.bind s f) = _
  induction s with
  | pure x => rfl
  | program k ih => exact ih P
  | _ => rfl
theorem lbin_int {op : BinOp} {k' : IntKind} {v : Value} (h : binOp op ty (.int k a) (.int k' b) = pure v) : lbin P op ty lit (.i k a) (.i k' b) = some (ofV v) := by
  unfold lbin
  simp only [scal]
  rw [h, prun_pure]
  rfl
@[simp] theorem lbin_add : lbin P .add ty lit (.i k a) (.i k b) = some (.i k (k.wrap (a + b))) := lbin_int (v := .int k (k.wrap (a + b))) (by simp [binOp, Op.intArith])
@[simp] theorem lbin_sub : lbin P .sub ty lit (.i k a) (.i k b) = some (.i k (k.wrap (a - b))) := lbin_int (v := .int k (k.wrap (a - b))) (by simp [binOp, Op.intArith])
@[simp] theorem lbin_mul : lbin P .mul ty lit (.i k a) (.i k b) = some (.i k (k.wrap (a * b))) := lbin_int (v := .int k (k.wrap (a * b))) (by simp [binOp, Op.intArith])
@[simp] theorem lbin_quo (h : b ≠ 0) : lbin P .quo ty lit (.i k a) (.i k b) = some (.i k (k.wrap (a.tdiv b))) := lbin_int (v := .int k (k.wrap (a.tdiv b))) (by simp [binOp, Op.intDiv, h])
@[simp] theorem lbin_rem (h : b ≠ 0) : lbin P .rem ty lit (.i k a) (.i k b) = some (.i k (a.tmod b)) := lbin_int (v := .int k (a.tmod b)) (by simp [binOp, Op.intDiv, h])
theorem lbin_and : lbin P .and ty lit (.i k a) (.i k b) = some (.i k (k.wrap (BitVec.ofInt k.bits a &&& BitVec.ofInt k.bits b).toNat)) := lbin_int (v := .int k (k.wrap (BitVec.ofInt k.bits a &&& BitVec.ofInt k.bits b).toNat)) (by simp [binOp, Op.intBits])
theorem lbin_or : lbin P .or ty lit (.i k a) (.i k b) = some (.i k (k.wrap (BitVec.ofInt k.bits a ||| BitVec.ofInt k.bits b).toNat)) := lbin_int (v := .int k (k.wrap (BitVec.ofInt k.bits a ||| BitVec.ofInt k.bits b).toNat)) (by simp [binOp, Op.intBits])
theorem lbin_xor : lbin P .xor ty lit (.i k a) (.i k b) = some (.i k (k.wrap (BitVec.ofInt k.bits a ^^^ BitVec.ofInt k.bits b).toNat)) := lbin_int (v := .int k (k.wrap (BitVec.ofInt k.bits a ^^^ BitVec.ofInt k.bits b).toNat)) (by simp [binOp, Op.intBits])
@[simp] theorem lbin_shl {k' : IntKind} (h : 0 ≤ b) : lbin P .shl ty lit (.i k a) (.i k' b) = some (.i k (k.wrap (a * 2 ^ min b.toNat k.bits))) := by
  have : ¬ b < 0 := by omega
  exact lbin_int (v := .int k (k.wrap (a * 2 ^ min b.toNat k.bits))) (by simp [binOp, Op.shift, this])
@[simp] theorem lbin_shr {k' : IntKind} (h : 0 ≤ b) : lbin P .shr ty lit (.i k a) (.i k' b) = some (.i k (a.fdiv (2 ^ min b.toNat k.bits))) := by
  have : ¬ b < 0 := by omega
  exact lbin_int (v := .int k (a.fdiv (2 ^ min b.toNat k.bits))) (by simp [binOp, Op.shift, this])
@[simp] theorem lbin_eql : lbin P .eql ty lit (.i k a) (.i k b) = some (.b (decide (a = b))) := by
  rw [lbin_int (v := .bool (a == b)) (by simp [binOp, Op.intCmp])]
  rfl
@[simp] theorem lbin_neq : lbin P .neq ty lit (.i k a) (.i k b) = some (.b (decide (a ≠ b))) := by
  rw [lbin_int (v := .bool (a != b)) (by simp [binOp, Op.intCmp])]
  by_cases h : a = b <;> simp [h, ofV, ofV1]
@[simp] theorem lbin_lss : lbin P .lss ty lit (.i k a) (.i k b) = some (.b (decide (a < b))) := lbin_int (v := .bool (decide (a < b))) (by simp [binOp, Op.intCmp])
@[simp] theorem lbin_leq : lbin P .leq ty lit (.i k a) (.i k b) = some (.b (decide (a ≤ b))) := lbin_int (v := .bool (decide (a ≤ b))) (by simp [binOp, Op.intCmp])
@[simp] theorem lbin_gtr : lbin P .gtr ty lit (.i k a) (.i k b) = some (.b (decide (b < a))) := lbin_int (v := .bool (decide (b < a))) (by simp [binOp, Op.intCmp])
@[simp] theorem lbin_geq : lbin P .geq ty lit (.i k a) (.i k b) = some (.b (decide (b ≤ a))) := lbin_int (v := .bool (decide (b ≤ a))) (by simp [binOp, Op.intCmp])
theorem bytes_eq_iff (x y : ByteArray) : (x.toList == y.toList) = decide (x = y) := by
  by_cases h : x = y
  · subst h; simp
  · have : x.toList ≠ y.toList := fun e => h (by
      rw [ByteArray.toList_eq, ByteArray.toList_eq] at e
      exact ByteArray.ext (Array.ext' e))
    simp [h, this]
theorem lbin_str {op : BinOp} {x y : ByteArray} {v : Value} (h : binOp op ty (.string x) (.string y) = pure v) : lbin P op ty lit (.s x) (.s y) = some (ofV v) := by
  unfold lbin
  simp only [scal]
  rw [h, prun_pure]
  rfl
@[simp] theorem lbin_seql {x y : ByteArray} : lbin P .eql ty lit (.s x) (.s y) = some (.b (decide (x = y))) := lbin_str (v := .bool (decide (x = y))) (by rw [← bytes_eq_iff]; simp [binOp, Op.stringOp])
@[simp] theorem lbin_sneq {x y : ByteArray} : lbin P .neq ty lit (.s x) (.s y) = some (.b (!decide (x = y))) := lbin_str (v := .bool (!decide (x = y))) (by rw [← bytes_eq_iff]; simp [binOp, Op.stringOp])
@[simp] theorem lbin_sadd {x y : ByteArray} (h : x.size + y.size ≤ 9223372036854775807) : lbin P .add ty lit (.s x) (.s y) = some (.s (x ++ y)) := by
  have : ¬ (((x.size + y.size : Nat) : Int) > IntKind.i64.max) := by
    simp only [IntKind.max, IntKind.signed, IntKind.bits]
    simp
    omega
  exact lbin_str (v := .string (x ++ y)) (by simp only [binOp, Op.stringOp]; rw [if_neg this])
end

section
variable {P : Program} {G : List (Nat × List V)} {rd : Option Nat} {n : Nat} {st : St} {Q : Exit → St → Prop}

theorem LW.dec {c : Operand} {x y : Code} {p : Prop} [hp : Decidable p] (hc : ev G st.t c = .b (decide p)) (h1 : p → LW P G rd n x st Q) (h2 : ¬ p → LW P G rd n y st Q) : LW P G rd n (.cond c x y) st Q := by
  by_cases h : p
  · exact LW.cond (b := true) (by rw [hc]; simp [h]) (h1 h)
  · exact LW.cond (b := false) (by rw [hc]; simp [h]) (h2 h)

theorem LW.tf {c : Operand} {x y : Code} {b : Bool} (hc : ev G st.t c = .b b) (h1 : b = true → LW P G rd n x st Q) (h2 : b = false → LW P G rd n y st Q) : LW P G rd n (.cond c x y) st Q := by
  cases b with
  | true => exact LW.cond (b := true) hc (h1 rfl)
  | false => exact LW.cond (b := false) hc (h2 rfl)

@[simp] theorem Thn_normal {K : St → Prop} {s : St} : Thn K Q .normal s = K s := Eq.trans rfl rfl
@[simp] theorem Thn_ret {K : St → Prop} {s : St} : Thn K Q .ret s = Q .ret s := Eq.trans rfl rfl
@[simp] theorem Thn_exit {K : St → Prop} {s : St} {j : Nat} : Thn K Q (.exit j) s = Q (.exit j) s := Eq.trans rfl rfl
@[simp] theorem Thn_goto {K : St → Prop} {s : St} {j : Nat} : Thn K Q (.goto j) s = Q (.goto j) s := Eq.trans rfl rfl
@[simp] theorem InB_normal {s : St} {j : Nat} : InB j Q .normal s = Q .normal s := Eq.trans rfl rfl
@[simp] theorem InB_ret {s : St} {j : Nat} : InB j Q .ret s = Q .ret s := Eq.trans rfl rfl
@[simp] theorem InB_exit {s : St} {i j : Nat} : InB j Q (.exit i) s = if i = j then Q .normal s else Q (.exit i) s := Eq.trans rfl rfl
@[simp] theorem InB_goto {s : St} {j l : Nat} : InB j Q (.goto l) s = Q (.goto l) s := Eq.trans rfl rfl

@[simp] theorem ev_tmp {t : Nat → V} {k : Nat} : ev G t (.tmp k) = t k := Eq.trans rfl rfl
@[simp] theorem ev_int {t : Nat → V} {k : IntKind} {x : Int} : ev G t (.const (.int k x)) = .i k x := Eq.trans rfl rfl
@[simp] theorem ev_bool {t : Nat → V} {x : Bool} : ev G t (.const (.bool x)) = .b x := Eq.trans rfl rfl
@[simp] theorem ev_string {t : Nat → V} {x : ByteArray} : ev G t (.const (.string x)) = .s x := Eq.trans rfl rfl
@[simp] theorem ev_nilslice {t : Nat → V} : ev G t (.const (.slice none 0 0)) = .nsl := Eq.trans rfl rfl
@[simp] theorem ev_nilmap {t : Nat → V} : ev G t (.const (.map none)) = .nm := Eq.trans rfl rfl
@[simp] theorem ev_nilptr {t : Nat → V} : ev G t (.const (.pointer none)) = .np := Eq.trans rfl rfl
@[simp] theorem ev_nilfunc {t : Nat → V} : ev G t (.const .nilFunc) = .nf := Eq.trans rfl rfl
@[simp] theorem ev_niliface {t : Nat → V} : ev G t (.const .nilIface) = .ni := Eq.trans rfl rfl
@[simp] theorem ev_func {t : Nat → V} {f : FuncId} : ev G t (.func f) = .f (.func f) [] [] := Eq.trans rfl rfl
@[simp] theorem evo_none {t : Nat → V} : evo G t none = none := Eq.trans rfl rfl
@[simp] theorem evo_some {t : Nat → V} {x : Operand} : evo G t (some x) = some (ev G t x) := Eq.trans rfl rfl

/-- A call of a function. -/
def callK (P : Program) (G : List (Nat × List V)) (f : FuncId) (args : List V) (H : List LB) (K : V → List LB → Prop) : Prop := ∃ R : V → List LB → Prop, LC P G f args H R ∧ ∀ v H', R v H' → K v H'
theorem callK.by {f : FuncId} {args : List V} {H : List LB} {K R : V → List LB → Prop} (h : LC P G f args H R) (hk : ∀ v H', R v H' → K v H') : callK P G f args H K := ⟨R, h, hk⟩

section
variable {t : Nat → V} {H : List LB} {d : Option Nat} {ty : TypeId} {pos : String} {af : Array Edge} {K : V → List LB → Prop} {g : Option (Nat × Bool)} {args : Array Operand} {ats : Array TypeId}
@[simp] theorem ldo_fn {f : FuncId} : ldo P G ⟨t, H⟩ ⟨d, .call ⟨.value (.func f), args, ats⟩, ty, pos, af, g⟩ K = callK P G f (args.toList.map (ev G t)) H K := by
  unfold ldo callK
  simp only [callOf, ev, List.nil_append, List.append_nil]
@[simp] theorem ldo_len {x : Operand} {t1 : TypeId} : ldo P G ⟨t, H⟩ ⟨d, .call ⟨.builtin .len, #[x], #[t1]⟩, ty, pos, af, g⟩ K = oK (llen P H t1 (ev G t x)) (fun v => K v H) := oK_map (f := fun _ => True)
@[simp] theorem ldo_append {x y : Operand} : ldo P G ⟨t, H⟩ ⟨d, .call ⟨.builtin .append, #[x, y], ats⟩, ty, pos, af, g⟩ K = oK2 (lappend P H ats (ev G t x) (ev G t y)) K := oK2_eq
@[simp] theorem ldo_copy {x y : Operand} : ldo P G ⟨t, H⟩ ⟨d, .call ⟨.builtin .copy, #[x, y], ats⟩, ty, pos, af, g⟩ K = oK2 (lcopy P H ats (ev G t x) (ev G t y)) K := oK2_eq
/-- The least, the greatest of two whole numbers. -/
def mmK (P : Program) (b : Builtin) (H : List LB) (ats : Array TypeId) (x y : V) (K : V → List LB → Prop) : Prop := oK2 (lbi P H b ats [x, y]) K
@[simp] theorem ldo_min {x y : Operand} : ldo P G ⟨t, H⟩ ⟨d, .call ⟨.builtin .min, #[x, y], ats⟩, ty, pos, af, g⟩ K = mmK P .min H ats (ev G t x) (ev G t y) K := oK2_eq
@[simp] theorem ldo_max {x y : Operand} : ldo P G ⟨t, H⟩ ⟨d, .call ⟨.builtin .max, #[x, y], ats⟩, ty, pos, af, g⟩ K = mmK P .max H ats (ev G t x) (ev G t y) K := oK2_eq
@[simp] theorem mmK_min {k : IntKind} {a b : Int} {t1 : TypeId} {l : List TypeId} : mmK P .min H ⟨t1 :: l⟩ (.i k a) (.i k b) K = K (.i k (if b < a then b else a)) H := by
  have h : (Builtin.min_ ⟨t1 :: l⟩ 0 ([.int k a, .int k b] : List Value).toArray) = pure (.int k (if b < a then b else a)) := by
    simp [Builtin.min_, Builtin.min2]
  simp only [mmK, lbi, List.mapM_cons, List.mapM_nil, scal]
  have h2 : prun P (Builtin.min_ ⟨t1 :: l⟩ 0 ([.int k a, .int k b] : List Value).toArray) = some (.int k (if b < a then b else a)) := by rw [h, prun_pure]
  show oK2 ((prun P (Builtin.min_ ⟨t1 :: l⟩ 0 ([.int k a, .int k b] : List Value).toArray)).map fun v => (ofV v, H)) K = _
  rw [h2]
  rfl
@[simp] theorem mmK_max {k : IntKind} {a b : Int} {t1 : TypeId} {l : List TypeId} : mmK P .max H ⟨t1 :: l⟩ (.i k a) (.i k b) K = K (.i k (if a < b then b else a)) H := by
  have h : (Builtin.max_ ⟨t1 :: l⟩ 0 ([.int k a, .int k b] : List Value).toArray) = pure (.int k (if a < b then b else a)) := by
    simp [Builtin.max_, Builtin.max2]
  have h2 : prun P (Builtin.max_ ⟨t1 :: l⟩ 0 ([.int k a, .int k b] : List Value).toArray) = some (.int k (if a < b then b else a)) := by rw [h, prun_pure]
  show oK2 ((prun P (Builtin.max_ ⟨t1 :: l⟩ 0 ([.int k a, .int k b] : List Value).toArray)).map fun v => (ofV v, H)) K = _
  rw [h2]
  rfl
end
end

attribute [simp] upd_apply
@[simp] theorem argT_apply {l : List V} {j : Nat} : argT l j = l.getD j (.t []) := Eq.trans rfl rfl

theorem LC.of_walk {P : Program} {G : List (Nat × List V)} {f : FuncId} (fn : Func) (n : Nat) {c : Code} {args : List V} {H : List LB} {R : V → List LB → Prop} (he : ent P f = true) (hf : P.funcs[f]? = some fn) (hb : fn.body = some c)
    (hn : args.length + (fn.ntmps - args.length) = n) (h : ∀ K : Exit → St → Prop, (∀ e s, Ret P fn H R e s → K e s) → LW P G none n c ⟨argT args, H⟩ K) : LC P G f args H R :=
  LC.of_LW he hf hb (by rw [hn]; exact h _ fun _ _ h => h)

/-- One after the other; what comes behind is hidden. -/
theorem LW.seqK {P : Program} {G : List (Nat × List V)} {rd : Option Nat} {n : Nat} {st : St} {Q : Exit → St → Prop} {x y : Code} (h : ∀ K : St → Prop, (∀ s, LW P G rd n y s Q → K s) → LW P G rd n x st (Thn K Q)) : LW P G rd n (.seq x y) st Q :=
  LW.seq (h _ fun _ h => h)

theorem wrap_i64 {x : Int} (h0 : -9223372036854775808 ≤ x) (h1 : x < 9223372036854775808) : IntKind.i64.wrap x = x := by
  simp only [IntKind.wrap, IntKind.bits, IntKind.signed]
  simp
  omega
theorem wrap_u8 {x : Int} (h0 : 0 ≤ x) (h1 : x < 256) : IntKind.u8.wrap x = x := by
  simp only [IntKind.wrap, IntKind.bits, IntKind.signed]
  simp
  omega
theorem wrap_u32 {x : Int} (h0 : 0 ≤ x) (h1 : x < 4294967296) : IntKind.u32.wrap x = x := by
  simp only [IntKind.wrap, IntKind.bits, IntKind.signed]
  simp
  omega
theorem wrap_u64 {x : Int} (h0 : 0 ≤ x) (h1 : x < 18446744073709551616) : IntKind.u64.wrap x = x := by
  simp only [IntKind.wrap, IntKind.bits, IntKind.signed]
  simp
  omega
end Go.Lw
