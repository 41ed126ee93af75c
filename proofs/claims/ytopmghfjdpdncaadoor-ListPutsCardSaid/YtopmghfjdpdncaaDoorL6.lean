/- The local walk: values, blocks of an activation's own, and how they stand to the machine's memory. -/
import Derived.CallsIn
import Derived.RangeFuncIn
import Derived.OrdersIn
import Derived.Below
import Derived.Deep.Draws
import Derived.Laws.NewBlocks
import Derived.Laws.Sem
import Derived.Laws.Cells
import Derived.Laws.BytesArg
import Derived.Laws.IdiomMaps
import Derived.Laws.IdiomCopy
set_option linter.unusedSimpArgs false
set_option linter.unusedVariables false
namespace Go.Lw
open Go Go.RowKit

/-- A value, as the local walk tells it: what lies in memory that nobody writes is told by its contents. -/
inductive V where
  | u
  | b (x : Bool)
  | i (k : IntKind) (n : Int)
  | s (x : ByteArray)
  | sl (z : Nat) (xs : List V)
  | nsl
  | own (r o n c : Nat) (x : Nat)
  | p (r o : Nat)
  | ep (cs : List V) (k : Nat)
  | np
  | m (r : Nat)
  | nm
  | f (fn : Fn) (first caps : List V)
  | nf
  | it (t : TypeId) (v : V)
  | ni
  | a (cs : List V)
  | t (vs : List V)
  | y (r : Nat)
  deriving Inhabited

/-- A value's cells. -/
def V.cells : V → List V
  | .a cs => cs
  | x => [x]

/-- Does a value surely take one cell? -/
def V.one : V → Bool
  | .u | .a _ | .t _ => false
  | _ => true

/-- How a value stands to the machine's: 'ok' are the blocks that nobody writes; 'ρ' tells where the activation's own blocks lie. -/
inductive VR (w : World) (ok : Nat → Prop) (ρ : List (Nat × Nat)) : V → Value → Prop
  | u (v : Value) : VR w ok ρ .u v
  | b (x : Bool) : VR w ok ρ (.b x) (.bool x)
  | i (k : IntKind) (n : Int) : VR w ok ρ (.i k n) (.int k n)
  | s (x : ByteArray) : VR w ok ρ (.s x) (.string x)
  | sl {z : Nat} {xs : List V} {blk off c : Nat} (vals : Nat → Nat → Value) (hc : xs.length ≤ c) (hz : ∀ x ∈ xs, x.cells.length = z) (hok : xs ≠ [] → 0 < z → ok blk)
      (hcell : ∀ j q, j < xs.length → q < z → w.cell? ⟨blk, off + (j * z + q), none⟩ = some (vals j q))
      (hv : ∀ (j : Nat) (x : V), xs[j]? = some x → ∀ (q : Nat) (y : V), x.cells[q]? = some y → VR w ok ρ y (vals j q)) :
      VR w ok ρ (.sl z xs) (.slice (some ⟨blk, off, none⟩) xs.length c)
  | sl0 {z : Nat} : VR w ok ρ (.sl z []) (.slice none 0 0)
  | nsl : VR w ok ρ .nsl (.slice none 0 0)
  | own {r o n c c' blk d x : Nat} (hr : ρ[r]? = some (blk, d)) (hn : n ≤ c) (hc : c ≤ c') (hx : x = 0 → c' = c)
      (hs : x ≠ 0 → ∃ arr e fr, w.heap[blk]? = some (.cells arr e fr) ∧ d + o + c' * x ≤ arr.size) :
      VR w ok ρ (.own r o n c x) (.slice (some ⟨blk, d + o, none⟩) n c')
  | own0 {r o x : Nat} (ad : Addr) (hr : r < ρ.length) (ha : ∃ b f, ad = ⟨b, f, none⟩) : VR w ok ρ (.own r o 0 0 x) (.slice (some ad) 0 0)
  | p {r o blk d : Nat} (hr : ρ[r]? = some (blk, d)) : VR w ok ρ (.p r o) (.pointer (some ⟨blk, d + o, none⟩))
  | ep {cs : List V} {k blk off : Nat} (vals : Nat → Value) (hok : cs ≠ [] → ok blk) (hcell : ∀ q, q < cs.length → w.cell? ⟨blk, off + q, none⟩ = some (vals q))
      (hv : ∀ (q : Nat) (y : V), cs[q]? = some y → VR w ok ρ y (vals q)) : VR w ok ρ (.ep cs k) (.pointer (some ⟨blk, off + k, none⟩))
  | np : VR w ok ρ .np (.pointer none)
  | m {r blk d : Nat} (hr : ρ[r]? = some (blk, d)) : VR w ok ρ (.m r) (.map (some blk))
  | nm : VR w ok ρ .nm (.map none)
  | f {fn : Fn} {first caps : List V} {fv cv : Array Value} (hf : fv.size = first.length) (hc : cv.size = caps.length)
      (h1 : ∀ (q : Nat) (y : V) (v : Value), first[q]? = some y → fv[q]? = some v → VR w ok ρ y v) (h2 : ∀ (q : Nat) (y : V) (v : Value), caps[q]? = some y → cv[q]? = some v → VR w ok ρ y v) :
      VR w ok ρ (.f fn first caps) (.func fn fv cv)
  | nf : VR w ok ρ .nf .nilFunc
  | it {t : TypeId} {x : V} {v : Value} (h : VR w ok ρ x v) : VR w ok ρ (.it t x) (.iface t v)
  | ni : VR w ok ρ .ni .nilIface
  | a {cs : List V} {cv : Array Value} (hl : cv.size = cs.length) (h : ∀ (q : Nat) (y : V) (v : Value), cs[q]? = some y → cv[q]? = some v → VR w ok ρ y v) : VR w ok ρ (.a cs) (.agg cv)
  | t {cs : List V} {cv : Array Value} (hl : cv.size = cs.length) (h : ∀ (q : Nat) (y : V) (v : Value), cs[q]? = some y → cv[q]? = some v → VR w ok ρ y v) : VR w ok ρ (.t cs) (.tuple cv)
  | y {r blk d : Nat} (hr : ρ[r]? = some (blk, d)) : VR w ok ρ (.y r) (.func (.yield blk) #[] #[])

theorem VR.mono {w w' : World} {ok ok' : Nat → Prop} {ρ ρ' : List (Nat × Nat)} (hok : ∀ b, ok b → ok' b) (hw : ∀ b, ok b → w'.heap[b]? = w.heap[b]?)
    (hρ : ∀ (r : Nat) x, ρ[r]? = some x → ρ'[r]? = some x)
    (hsz : ∀ (b : Nat) (arr : Array Value) (e : TypeId) (fr : Nat × Nat), w.heap[b]? = some (Obj.cells arr e fr) → ∃ (arr' : Array Value) (fr' : Nat × Nat), w'.heap[b]? = some (Obj.cells arr' e fr') ∧ arr'.size = arr.size) {v : V} {val : Value} (h : VR w ok ρ v val) : VR w' ok' ρ' v val := by
  induction h with
  | u v => exact .u v
  | b x => exact .b x
  | i k n => exact .i k n
  | s x => exact .s x
  | sl vals hc hz ho hcell hv ih =>
    refine .sl vals hc hz (fun h hz => hok _ (ho h hz)) (fun j q hj hq => ?_) ih
    rw [← hcell j q hj hq]
    exact World.cell?_of_block (hw _ (ho (by rintro rfl; simp at hj) (by omega)))
  | sl0 => exact .sl0
  | nsl => exact .nsl
  | own hr hn hc hx hs =>
    refine .own (hρ _ _ hr) hn hc hx (fun h0 => ?_)
    obtain ⟨arr, e, fr, h1, h2⟩ := hs h0
    obtain ⟨arr', fr', h3, h4⟩ := hsz _ _ _ _ h1
    exact ⟨arr', e, fr', h3, by omega⟩
  | own0 ad hr ha => exact .own0 ad (by
      have h0 := hρ _ _ (List.getElem?_eq_getElem hr)
      exact (List.getElem?_eq_some_iff.1 h0).1) ha
  | p hr => exact .p (hρ _ _ hr)
  | ep vals ho hcell hv ih =>
    refine .ep vals (fun h => hok _ (ho h)) (fun q hq => ?_) ih
    rw [← hcell q hq]
    exact World.cell?_of_block (hw _ (ho (by rintro rfl; simp at hq)))
  | np => exact .np
  | m hr => exact .m (hρ _ _ hr)
  | nm => exact .nm
  | f hf hc _ _ ih1 ih2 => exact .f hf hc ih1 ih2
  | nf => exact .nf
  | it _ ih => exact .it ih
  | ni => exact .ni
  | a hl _ ih => exact .a hl ih
  | t hl _ ih => exact .t hl ih
  | y hr => exact .y (hρ _ _ hr)

/-- A block of the activation's own. -/
inductive LB where
  | c (cs : List V) (e : TypeId) (mu : Bool)
  | dead
  | mp (es : List (V × V)) (kt : TypeId)
  | lp (fn : FuncId) (n : Nat) (t : Nat → V) (params : Array Tmp) (assign body : Code) (st : LoopState) (pe : Option Code)
  deriving Inhabited

/-- May the block be written? -/
def LB.mu : LB → Bool
  | .c _ _ m => m
  | .dead => false
  | .mp _ _ => true
  | .lp .. => true

/-- The blocks that nobody writes any more. -/
def Ok (H : List LB) (ρ : List (Nat × Nat)) (w : World) (b : Nat) : Prop :=
  b < w.heap.size ∧ ∀ (r : Nat) lb, H[r]? = some lb → lb.mu = true → ∀ d, ρ[r]? ≠ some (b, d)

/-- The entries of a map, one by one. -/
def Entries (R : V → Value → Prop) (es : List (V × V)) (ents : Array MapEntry) : Prop :=
  ents.size = es.length ∧ ∀ (j : Nat) (k v : V) (e : MapEntry), es[j]? = some (k, v) → ents[j]? = some e → R k e.key ∧ R v e.val

/-- What is told of one block: its object; the place in it at which the told cells begin. -/
def ObjIs (R : V → Value → Prop) (d : Nat) (o : Obj) : LB → Prop
  | .c cs e _ => ∃ arr fr, o = .cells arr e fr ∧ (fr.2 ≤ fr.1 ∨ arr.size ≤ fr.1) ∧ ∀ (k : Nat) (y : V), cs[k]? = some y → ∃ v, arr[d + k]? = some v ∧ R y v
  | .dead => True
  | .mp es _ => d = 0 ∧ ∃ ents clock, o = .map ents clock ∧ Entries R es ents
  | .lp fn n t params assign body st pe => d = 0 ∧ ∃ l, o = .loop l ∧ l.fn = fn ∧ l.params = params ∧ l.assign = assign ∧ l.body = body ∧ l.state = st ∧ l.pending = pe ∧
      l.tmps.size = n ∧ ∀ j : Nat, R (t j) (l.tmps.getD j undef)

theorem ObjIs.mono {R R' : V → Value → Prop} (h : ∀ y v, R y v → R' y v) {d : Nat} {o : Obj} {lb : LB} (hb : ObjIs R d o lb) : ObjIs R' d o lb := by
  cases lb with
  | c cs e m =>
    obtain ⟨arr, fr, ho, hf, hc⟩ := hb
    refine ⟨arr, fr, ho, hf, fun k y hk => ?_⟩
    obtain ⟨v, h1, h2⟩ := hc k y hk
    exact ⟨v, h1, h _ _ h2⟩
  | dead => trivial
  | mp es kt =>
    obtain ⟨hd, ents, clock, ho, hs, he⟩ := hb
    exact ⟨hd, ents, clock, ho, hs, fun j k v e h1 h2 => ⟨h _ _ (he j k v e h1 h2).1, h _ _ (he j k v e h1 h2).2⟩⟩
  | lp fn n t params assign body st pe =>
    obtain ⟨hd, l, ho, h1, h2, h3, h4, h5, hpe, h6, h7⟩ := hb
    exact ⟨hd, l, ho, h1, h2, h3, h4, h5, hpe, h6, fun j => h _ _ (h7 j)⟩

/-- The memory of an activation. -/
structure RelH (G : List (Nat × List V)) (w0 : World) (H : List LB) (ρ : List (Nat × Nat)) (w : World) : Prop where
  len : ρ.length = H.length
  bel : Below w0.heap.size w0 w
  blk : ∀ (r : Nat) lb b d, H[r]? = some lb → ρ[r]? = some (b, d) → lb.mu = true → w0.heap.size ≤ b
  inj : ∀ (r r' : Nat) lb lb' b d d', H[r]? = some lb → H[r']? = some lb' → lb.mu = true → lb'.mu = true → ρ[r]? = some (b, d) → ρ[r']? = some (b, d') → r = r'
  seal_ : ∀ (r : Nat) cs e b d, H[r]? = some (.c cs e false) → ρ[r]? = some (b, d) → Ok H ρ w b
  is : ∀ (r : Nat) lb b d, H[r]? = some lb → ρ[r]? = some (b, d) → ∃ o, w.heap[b]? = some o ∧ ObjIs (VR w (Ok H ρ w) ρ) d o lb
  glob : ∀ g cs, (g, cs) ∈ G → g < w0.heap.size ∧ VR w (Ok H ρ w) ρ (.ep cs 0) (.pointer (some ⟨g, 0, none⟩))

/-- The temporaries of a frame. -/
def RelT (H : List LB) (ρ : List (Nat × Nat)) (w : World) (n : Nat) (t : Nat → V) (tm : Array Value) : Prop :=
  tm.size = n ∧ ∀ j : Nat, VR w (Ok H ρ w) ρ (t j) (tm.getD j undef)

/-- Memory goes on: what nobody writes stays; the places stay. -/
structure Ext (H : List LB) (ρ : List (Nat × Nat)) (w : World) (H' : List LB) (ρ' : List (Nat × Nat)) (w' : World) : Prop where
  ok : ∀ b, Ok H ρ w b → Ok H' ρ' w' b
  same : ∀ b, Ok H ρ w b → w'.heap[b]? = w.heap[b]?
  pl : ∀ (r : Nat) x, ρ[r]? = some x → ρ'[r]? = some x
  sz : ∀ (b : Nat) (arr : Array Value) (e : TypeId) (fr : Nat × Nat), w.heap[b]? = some (Obj.cells arr e fr) → ∃ (arr' : Array Value) (fr' : Nat × Nat), w'.heap[b]? = some (Obj.cells arr' e fr') ∧ arr'.size = arr.size
  sw : w.heap.size ≤ w'.heap.size

section
variable {G : List (Nat × List V)} {w0 : World} {H H' H'' : List LB} {ρ ρ' ρ'' : List (Nat × Nat)} {w w' w'' : World}

theorem Ext.refl (H : List LB) (ρ : List (Nat × Nat)) (w : World) : Ext H ρ w H ρ w := ⟨fun _ h => h, fun _ _ => rfl, fun _ _ h => h, fun _ arr _ fr h => ⟨arr, fr, h, rfl⟩, Nat.le_refl _⟩
theorem Ext.trans (h : Ext H ρ w H' ρ' w') (k : Ext H' ρ' w' H'' ρ'' w'') : Ext H ρ w H'' ρ'' w'' :=
  ⟨fun b hb => k.ok b (h.ok b hb), fun b hb => (k.same b (h.ok b hb)).trans (h.same b hb), fun r x hr => k.pl r x (h.pl r x hr), fun b arr e fr h1 => by
    obtain ⟨a1, f1, h2, h3⟩ := h.sz b arr e fr h1
    obtain ⟨a2, f2, h4, h5⟩ := k.sz b a1 e f1 h2
    exact ⟨a2, f2, h4, h5.trans h3⟩, Nat.le_trans h.sw k.sw⟩
theorem Ext.vr (h : Ext H ρ w H' ρ' w') {v : V} {val : Value} (hv : VR w (Ok H ρ w) ρ v val) : VR w' (Ok H' ρ' w') ρ' v val := hv.mono h.ok h.same h.pl h.sz
theorem Ext.relT (h : Ext H ρ w H' ρ' w') {n : Nat} {t : Nat → V} {tm : Array Value} (ht : RelT H ρ w n t tm) : RelT H' ρ' w' n t tm :=
  ⟨ht.1, fun j => h.vr (ht.2 j)⟩
theorem Ext.drewN (H : List LB) (ρ : List (Nat × Nat)) (w : World) (n : Nat) : Ext H ρ w H ρ (w.drewN n) := ⟨fun _ h => h, fun _ _ => rfl, fun _ _ h => h, fun _ arr _ fr h => ⟨arr, fr, h, rfl⟩, Nat.le_refl _⟩
theorem Ext.drew (H : List LB) (ρ : List (Nat × Nat)) (w : World) : Ext H ρ w H ρ w.drew := ⟨fun _ h => h, fun _ _ => rfl, fun _ _ h => h, fun _ arr _ fr h => ⟨arr, fr, h, rfl⟩, Nat.le_refl _⟩

theorem RelH.ext_obj (hx : Ext H ρ w H' ρ' w') {d : Nat} {o : Obj} {lb : LB} (h : ObjIs (VR w (Ok H ρ w) ρ) d o lb) : ObjIs (VR w' (Ok H' ρ' w') ρ') d o lb :=
  h.mono (fun _ _ hv => hx.vr hv)

theorem RelH.drew (h : RelH G w0 H ρ w) : RelH G w0 H ρ w.drew :=
  ⟨h.len, h.bel.drew, h.blk, h.inj, h.seal_, fun r lb b d h1 h2 => by
    obtain ⟨o, ho, hi⟩ := h.is r lb b d h1 h2
    exact ⟨o, ho, RelH.ext_obj (Ext.drew H ρ w) hi⟩, fun g cs hg => ⟨(h.glob g cs hg).1, (Ext.drew H ρ w).vr (h.glob g cs hg).2⟩⟩

theorem Below.grown_refl (w : World) (o : Obj) : Below w.heap.size w (w.alloc o) := (Below.refl _ w).alloc (Nat.le_refl _) o

theorem Ext.alloc_gen (h : RelH G w0 H ρ w) (lb : LB) (hsz : w'.heap.size = w.heap.size + 1) (hold : ∀ k, k < w.heap.size → w'.heap[k]? = w.heap[k]?) : Ext H ρ w (H ++ [lb]) (ρ ++ [(w.heap.size, 0)]) w' := by
  refine ⟨fun b hb => ⟨by have := hb.1; omega, fun r lb' hr hm d hρ => ?_⟩, fun b hb => hold b hb.1, fun r x hr => ?_, fun b arr e fr hb =>
    ⟨arr, fr, (hold b (Array.getElem?_eq_some_iff.1 hb).1).trans hb, rfl⟩, by omega⟩
  · rw [List.getElem?_append] at hr hρ
    split at hr
    · rename_i hlt
      rw [if_pos (by rw [h.len]; exact hlt)] at hρ
      exact hb.2 r lb' hr hm d hρ
    · rename_i hlt
      rw [if_neg (by rw [h.len]; exact hlt)] at hρ
      have hz : r - ρ.length = 0 := by
        rcases Nat.eq_zero_or_pos (r - ρ.length) with h0 | h0
        · exact h0
        · rw [List.getElem?_eq_none (by simp; omega)] at hρ
          cases hρ
      rw [hz] at hρ
      simp at hρ
      have := hb.1
      omega
  · rw [List.getElem?_append_left (List.getElem?_eq_some_iff.1 hr).1]
    exact hr

/-- A new block. -/
theorem RelH.alloc_gen (h : RelH G w0 H ρ w) (lb : LB) (hmu : lb.mu = true) (hsz' : w'.heap.size = w.heap.size + 1) (hold : ∀ k, k < w.heap.size → w'.heap[k]? = w.heap[k]?) (hbel : Below w.heap.size w w') (o : Obj) (hnew : w'.heap[w.heap.size]? = some o)
    (ho : ObjIs (VR w (Ok H ρ w) ρ) 0 o lb) : RelH G w0 (H ++ [lb]) (ρ ++ [(w.heap.size, 0)]) w' := by
  have hx := Ext.alloc_gen h lb hsz' hold
  have hsz : w0.heap.size ≤ w.heap.size := h.bel.size
  have key : ∀ (r : Nat) lb' b d, (H ++ [lb])[r]? = some lb' → (ρ ++ [(w.heap.size, 0)])[r]? = some (b, d) →
      (H[r]? = some lb' ∧ ρ[r]? = some (b, d)) ∨ (r = H.length ∧ lb' = lb ∧ b = w.heap.size ∧ d = 0) := by
    intro r lb' b d h1 h2
    rw [List.getElem?_append] at h1 h2
    split at h1
    · rename_i hlt
      rw [if_pos (by rw [h.len]; exact hlt)] at h2
      exact .inl ⟨h1, h2⟩
    · rename_i hlt
      rw [if_neg (by rw [h.len]; exact hlt)] at h2
      have hz : r = H.length := by
        rcases Nat.lt_or_ge H.length r with h0 | h0
        · rw [List.getElem?_eq_none (by simp; omega)] at h1
          cases h1
        · omega
      subst hz
      rw [h.len] at h2
      simp at h1 h2
      exact .inr ⟨rfl, h1.symm, h2.1.symm, h2.2.symm⟩
  have hlt : ∀ (r : Nat) lb' b d, H[r]? = some lb' → ρ[r]? = some (b, d) → b < w.heap.size := by
    intro r lb' b d h1 h2
    obtain ⟨o', h3, _⟩ := h.is r lb' b d h1 h2
    exact (Array.getElem?_eq_some_iff.1 h3).1
  refine ⟨by simp [h.len], h.bel.trans (hbel.mono hsz), ?_, ?_, ?_, ?_, ?_⟩
  · intro r lb' b d h1 h2 hm
    rcases key r lb' b d h1 h2 with ⟨h3, h4⟩ | ⟨_, _, rfl, _⟩
    · exact h.blk r lb' b d h3 h4 hm
    · exact hsz
  · intro r r' lb1 lb2 b d d' h1 h2 hm1 hm2 h3 h4
    rcases key r lb1 b d h1 h3 with ⟨a1, a2⟩ | ⟨rfl, rfl, rfl, rfl⟩
    · rcases key r' lb2 b d' h2 h4 with ⟨b1, b2⟩ | ⟨rfl, rfl, rfl, rfl⟩
      · exact h.inj r r' lb1 lb2 b d d' a1 b1 hm1 hm2 a2 b2
      · have := hlt r lb1 _ d a1 a2
        omega
    · rcases key r' lb2 _ d' h2 h4 with ⟨b1, b2⟩ | ⟨rfl, rfl, _, rfl⟩
      · have := hlt r' lb2 _ d' b1 b2
        omega
      · rfl
  · intro r cs e b d h1 h2
    rcases key r _ b d h1 h2 with ⟨h3, h4⟩ | ⟨_, h5, _, _⟩
    · exact hx.ok b (h.seal_ r cs e b d h3 h4)
    · subst h5
      simp [LB.mu] at hmu
  · intro r lb' b d h1 h2
    rcases key r lb' b d h1 h2 with ⟨h3, h4⟩ | ⟨rfl, rfl, rfl, rfl⟩
    · obtain ⟨o', h5, h6⟩ := h.is r lb' b d h3 h4
      exact ⟨o', by rw [hold b (hlt r lb' b d h3 h4)]; exact h5, RelH.ext_obj hx h6⟩
    · exact ⟨o, hnew, RelH.ext_obj hx ho⟩
  · intro g cs hg
    exact ⟨(h.glob g cs hg).1, hx.vr (h.glob g cs hg).2⟩

theorem Ext.alloc (h : RelH G w0 H ρ w) (lb : LB) (o : Obj) : Ext H ρ w (H ++ [lb]) (ρ ++ [(w.heap.size, 0)]) (w.alloc o) :=
  Ext.alloc_gen h lb (by simp) (fun k hk => Below.heap_alloc w o k hk)
theorem RelH.alloc (h : RelH G w0 H ρ w) (lb : LB) (hmu : lb.mu = true) (o : Obj) (ho : ObjIs (VR w (Ok H ρ w) ρ) 0 o lb) :
    RelH G w0 (H ++ [lb]) (ρ ++ [(w.heap.size, 0)]) (w.alloc o) :=
  h.alloc_gen lb hmu (by simp) (fun k hk => Below.heap_alloc w o k hk) (Below.grown_refl w o) o (heap_alloc_new w o) ho

/-- A block of one's own is turned: another object, told anew. -/
theorem Ext.turn (h : RelH G w0 H ρ w) {r b d : Nat} {lb lb' : LB} (hr : H[r]? = some lb) (hρ : ρ[r]? = some (b, d)) (hm : lb.mu = true) (hm' : lb'.mu = true)
    (hsz : w'.heap.size = w.heap.size) (hw : ∀ k, k ≠ b → w'.heap[k]? = w.heap[k]?)
    (hb : ∀ (arr : Array Value) (e : TypeId) (fr : Nat × Nat), w.heap[b]? = some (Obj.cells arr e fr) → ∃ (arr' : Array Value) (fr' : Nat × Nat), w'.heap[b]? = some (Obj.cells arr' e fr') ∧ arr'.size = arr.size) : Ext H ρ w (H.set r lb') ρ w' := by
  have hne : ∀ k, Ok H ρ w k → k ≠ b := fun k hk e => hk.2 r lb hr hm d (e ▸ hρ)
  refine ⟨fun k hk => ⟨by rw [hsz]; exact hk.1, fun r' lb'' hr' hmu d' => ?_⟩, fun k hk => hw k (hne k hk), fun _ _ h => h, fun k arr e fr hk => ?_, by omega⟩
  rotate_left
  · by_cases hkb : k = b
    · subst hkb
      exact hb arr e fr hk
    · exact ⟨arr, fr, (hw k hkb).trans hk, rfl⟩
  rw [List.getElem?_set] at hr'
  split at hr'
  · rename_i he
    subst he
    intro hx
    rw [hρ] at hx
    injection hx with hx
    injection hx with hx _
    exact hne k hk hx.symm
  · exact hk.2 r' lb'' hr' hmu d'

theorem RelH.turn (h : RelH G w0 H ρ w) {r b d : Nat} {lb lb' : LB} (hr : H[r]? = some lb) (hρ : ρ[r]? = some (b, d)) (hm : lb.mu = true) (hm' : lb'.mu = true)
    (hbel : Below w0.heap.size w0 w') (hsz : w'.heap.size = w.heap.size) (hw : ∀ k, k ≠ b → w'.heap[k]? = w.heap[k]?)
    (hb : ∀ (arr : Array Value) (e : TypeId) (fr : Nat × Nat), w.heap[b]? = some (Obj.cells arr e fr) → ∃ (arr' : Array Value) (fr' : Nat × Nat), w'.heap[b]? = some (Obj.cells arr' e fr') ∧ arr'.size = arr.size)
    (o : Obj) (ho : w'.heap[b]? = some o) (hi : ObjIs (VR w (Ok H ρ w) ρ) d o lb') : RelH G w0 (H.set r lb') ρ w' := by
  have hx := Ext.turn h hr hρ hm hm' hsz hw hb
  have key : ∀ (r' : Nat) lb'', (H.set r lb')[r']? = some lb'' → (r' = r ∧ lb'' = lb') ∨ (r' ≠ r ∧ H[r']? = some lb'') := by
    intro r' lb'' h1
    rw [List.getElem?_set] at h1
    split at h1
    · rename_i he
      split at h1
      · injection h1 with h1
        exact .inl ⟨he.symm, h1.symm⟩
      · cases h1
    · rename_i he
      exact .inr ⟨fun e => he e.symm, h1⟩
  have mu_of : ∀ (r' : Nat) lb'', (H.set r lb')[r']? = some lb'' → lb''.mu = true → ∃ lb3, H[r']? = some lb3 ∧ lb3.mu = true := by
    intro r' lb'' h1 h2
    rcases key r' lb'' h1 with ⟨rfl, rfl⟩ | ⟨_, h3⟩
    · exact ⟨lb, hr, hm⟩
    · exact ⟨lb'', h3, h2⟩
  refine ⟨by simp [h.len], hbel, ?_, ?_, ?_, ?_, ?_⟩
  · intro r' lb'' b' d' h1 h2 hmu
    obtain ⟨lb3, h3, h4⟩ := mu_of r' lb'' h1 hmu
    exact h.blk r' lb3 b' d' h3 h2 h4
  · intro r1 r2 lb1 lb2 b' d1 d2 h1 h2 hm1 hm2 h3 h4
    obtain ⟨lb3, h5, h6⟩ := mu_of r1 lb1 h1 hm1
    obtain ⟨lb4, h7, h8⟩ := mu_of r2 lb2 h2 hm2
    exact h.inj r1 r2 lb3 lb4 b' d1 d2 h5 h7 h6 h8 h3 h4
  · intro r' cs e b' d' h1 h2
    rcases key r' _ h1 with ⟨_, h5⟩ | ⟨_, h3⟩
    · subst h5
      simp [LB.mu] at hm'
    · exact hx.ok b' (h.seal_ r' cs e b' d' h3 h2)
  · intro r' lb'' b' d' h1 h2
    rcases key r' lb'' h1 with ⟨rfl, rfl⟩ | ⟨hne, h3⟩
    · rw [hρ] at h2
      injection h2 with h2
      injection h2 with hb hd
      subst hb hd
      exact ⟨o, ho, RelH.ext_obj hx hi⟩
    · obtain ⟨o', h5, h6⟩ := h.is r' lb'' b' d' h3 h2
      by_cases hbb : b' = b
      · subst hbb
        cases hmu : lb''.mu with
        | true => exact absurd (h.inj r' r lb'' lb b' d' d h3 hr hmu hm h2 hρ) hne
        | false =>
          cases lb'' with
          | dead => exact ⟨o, ho, trivial⟩
          | c cs e m =>
            simp [LB.mu] at hmu
            subst hmu
            exact absurd hρ ((h.seal_ r' cs e b' d' h3 h2).2 r lb hr hm d)
          | mp _ _ => simp [LB.mu] at hmu
          | lp => simp [LB.mu] at hmu
      · exact ⟨o', by rw [hw b' hbb]; exact h5, RelH.ext_obj hx h6⟩
  · intro g cs hg
    exact ⟨(h.glob g cs hg).1, hx.vr (h.glob g cs hg).2⟩
end
end Go.Lw
/- The local walk: operations that only read. -/
namespace Go.Lw
open Go Go.RowKit

/-- What a run comes to that asks nothing but the program. -/
def prun (P : Program) {α : Type} : Sem α → Option α
  | .pure a => some a
  | .program k => prun P (k P)
  | _ => none

theorem prun_run {P : Program} {α : Type} : ∀ (s : Sem α) (a : α), prun P s = some a → ∀ w, s.run P w = .ok a w := by
  intro s
  induction s with
  | pure a => intro b h w; simp [prun] at h; subst h; rfl
  | program k ih => intro b h w; exact ih P b h w
  | _ => intro b h w; simp [prun] at h

/-- A constant of one cell. -/
def ofV1 : Value → V
  | .bool x => .b x
  | .int k n => .i k n
  | .string s => .s s
  | .pointer none => .np
  | .slice none 0 0 => .nsl
  | .map none => .nm
  | .nilFunc => .nf
  | .nilIface => .ni
  | _ => .u

/-- A constant. -/
def ofV : Value → V
  | .agg cs => .a (cs.toList.map ofV1)
  | .tuple cs => .t (cs.toList.map ofV1)
  | v => ofV1 v

/-- A whole number, a string, a bool, as the machine has it. -/
def scal : V → Option Value
  | .b x => some (.bool x)
  | .i k n => some (.int k n)
  | .s x => some (.string x)
  | _ => none

section
variable {w : World} {ok : Nat → Prop} {ρ : List (Nat × Nat)}
theorem vr_ofV1 (v : Value) : VR w ok ρ (ofV1 v) v := by
  unfold ofV1
  split <;> constructor
theorem vr_ofV (v : Value) : VR w ok ρ (ofV v) v := by
  unfold ofV
  split
  · refine .a (by simp) (fun q y v h1 h2 => ?_)
    rw [List.getElem?_map] at h1
    rw [← Array.getElem?_toList] at h2
    rw [h2] at h1
    injection h1 with h1
    subst h1
    exact vr_ofV1 v
  · refine .t (by simp) (fun q y v h1 h2 => ?_)
    rw [List.getElem?_map] at h1
    rw [← Array.getElem?_toList] at h2
    rw [h2] at h1
    injection h1 with h1
    subst h1
    exact vr_ofV1 v
  · exact vr_ofV1 v
theorem vr_scal {x : V} {v v' : Value} (h : scal x = some v) (hv : VR w ok ρ x v') : v' = v := by
  cases hv <;> simp [scal] at h <;> exact h
theorem scal_vr {x : V} {v : Value} (h : scal x = some v) : VR w ok ρ x v := by
  cases x <;> simp [scal] at h <;> subst h <;> constructor
end

/-- An operand. -/
def ev (G : List (Nat × List V)) (t : Nat → V) : Operand → V
  | .tmp k => t k
  | .const v => ofV v
  | .global g => match G.lookup g with
    | some cs => .ep cs 0
    | none => .u
  | .func f => .f (.func f) [] []

/-- '==' of values that are no whole numbers, strings, bools. -/
def leq (lit : Bool) : TypeDesc → V → V → Option Bool
  | .pointer _, .np, .np => some true
  | .pointer _, .np, .p _ _ | .pointer _, .p _ _, .np | .pointer _, .np, .ep _ _ | .pointer _, .ep _ _, .np => some false
  | .slice _, .nsl, .nsl => some true
  | .slice _, .nsl, .sl _ (_ :: _) | .slice _, .sl _ (_ :: _), .nsl | .slice _, .nsl, .own _ _ _ _ _ | .slice _, .own _ _ _ _ _, .nsl => some false
  | .map _ _, .nm, .nm => some true
  | .map _ _, .nm, .m _ | .map _ _, .m _, .nm => some false
  | .func _ _ _, .nf, .nf => some true
  | .func _ _ _, .nf, .f _ _ _ | .func _ _ _, .f _ _ _, .nf => some false
  | .interface _, .ni, .ni => if lit then some true else none
  | .interface _, .ni, .it _ _ | .interface _, .it _ _, .ni => some false
  | _, _, _ => none

/-- Operators of two operands. -/
def lbin (P : Program) (op : BinOp) (ty : TypeId) (lit : Bool) (x y : V) : Option V :=
  match scal x, scal y with
  | some a, some b => (prun P (binOp op ty a b)).map ofV
  | _, _ => match op, P.underlying ty with
    | .eql, some d => (leq lit d x y).map V.b
    | .neq, some d => (leq lit d x y).map fun r => V.b (!r)
    | _, _ => none

theorem leq_run {P : Program} {w : World} {ok : Nat → Prop} {ρ : List (Nat × Nat)} {lit : Bool} {d : TypeDesc} {ty : TypeId} (hd : P.underlying ty = some d) {x y : V} {r : Bool} (h : leq lit d x y = some r)
    {a b : Value} (ha : VR w ok ρ x a) (hb : VR w ok ρ y b) : (Op.equal ty a b).run P w = .ok r w := by
  have hu : ∀ w' : World, (underlying ty).run P w' = .ok d w' := fun w' => by simp [underlying, hd]
  show (Op.equalIn (9999 + 1) ty a b).run P w = .ok r w
  generalize 9999 = dep
  unfold leq at h
  split at h <;> (try cases h) <;> (try (cases ha <;> cases hb <;> (unfold Op.equalIn; rw [Sem.run_bind, hu]; rfl)))
  · split at h
    · cases h
      cases ha
      cases hb
      unfold Op.equalIn
      rw [Sem.run_bind, hu]
      rfl
    · cases h

theorem leq_bin {w : World} {ok : Nat → Prop} {ρ : List (Nat × Nat)} {lit : Bool} {d : TypeDesc} {ty : TypeId} {x y : V} {r : Bool} (h : leq lit d x y = some r)
    {a b : Value} (ha : VR w ok ρ x a) (hb : VR w ok ρ y b) : binOp .eql ty a b = (do pure (.bool (← Op.equal ty a b))) ∧ binOp .neq ty a b = (do pure (.bool (!(← Op.equal ty a b)))) := by
  unfold leq at h
  split at h <;> (try cases h) <;> (try (cases ha <;> cases hb <;> exact ⟨rfl, rfl⟩))

theorem leq_nil {w : World} {ok : Nat → Prop} {ρ : List (Nat × Nat)} {lit : Bool} {d : TypeDesc} {x y : V} {r : Bool} (h : leq lit d x y = some r)
    {a b : Value} (ha : VR w ok ρ x a) (hb : VR w ok ρ y b) : (¬ (a = .nilIface ∧ b = .nilIface) ∨ lit = true) ∧ ∀ cs ds, a = .agg cs → b = .agg ds → False := by
  unfold leq at h
  split at h <;> (try cases h) <;> first
    | (split at h
       · rename_i hl
         exact ⟨.inr hl, fun _ _ e _ => by subst e; cases ha⟩
       · cases h)
    | (cases ha <;> cases hb <;> exact ⟨.inl (fun e => by simp at e), fun _ _ e _ => by cases e⟩)

/-- Is an operand written out? -/
def isLit : Operand → Bool
  | .const _ => true
  | _ => false

theorem eqGuard_run {P : Program} {w : World} {op : BinOp} {ty : TypeId} {x y : Operand} {a b : Value} (h : ¬ (a = .nilIface ∧ b = .nilIface) ∨ isLit x = true ∨ isLit y = true)
    (h2 : ∀ cs ds, a = .agg cs → b = .agg ds → False) : (eqGuard op ty x y a b).run P w = .ok () w := by
  unfold eqGuard
  cases op <;> first
    | rfl
    | (simp only [Bool.not_true, Bool.false_eq_true, if_false]
       cases a <;> cases b <;> first
         | rfl
         | exact (h2 _ _ rfl rfl).elim
         | (rcases h with h | h | h
            · exact absurd ⟨rfl, rfl⟩ h
            · cases x <;> simp [isLit] at h
              simp
            · cases y <;> simp [isLit] at h
              cases x <;> simp))

theorem lbin_run {P : Program} {w : World} {ok : Nat → Prop} {ρ : List (Nat × Nat)} {op : BinOp} {ty : TypeId} {ox oy : Operand} {x y v : V} (h : lbin P op ty (isLit ox || isLit oy) x y = some v)
    {a b : Value} (ha : VR w ok ρ x a) (hb : VR w ok ρ y b) :
    ∃ val, ((do eqGuard op ty ox oy a b; binOp op ty a b) : Sem Value).run P w = .ok val w ∧ VR w ok ρ v val := by
  unfold lbin at h
  split at h
  · rename_i va vb e1 e2
    obtain rfl := vr_scal e1 ha
    obtain rfl := vr_scal e2 hb
    cases hp : prun P (binOp op ty a b) with
    | none => rw [hp] at h; cases h
    | some r =>
      rw [hp] at h
      injection h with h
      subst h
      refine ⟨r, ?_, vr_ofV r⟩
      rw [Sem.run_bind, eqGuard_run (.inl (fun e => by rw [e.1] at e1; cases x <;> simp [scal] at e1)) (fun cs ds e _ => by rw [e] at e1; cases x <;> simp [scal] at e1)]
      exact prun_run _ _ hp w
  · split at h
    · rename_i d hd
      cases hl : leq (isLit ox || isLit oy) d x y with
      | none => rw [hl] at h; cases h
      | some r =>
        rw [hl] at h
        injection h with h
        subst h
        have hq := leq_run hd hl ha hb
        refine ⟨.bool r, ?_, .b r⟩
        obtain ⟨hn, hagg⟩ := leq_nil hl ha hb
        have hg : (eqGuard .eql ty ox oy a b).run P w = .ok () w := eqGuard_run (by simpa [Bool.or_eq_true] using hn) hagg
        rw [Sem.run_bind, hg, (leq_bin hl ha hb).1]
        show (do pure (.bool (← Op.equal ty a b)) : Sem Value).run P w = _
        rw [Sem.run_bind, hq]
        rfl
    · rename_i d hd
      cases hl : leq (isLit ox || isLit oy) d x y with
      | none => rw [hl] at h; cases h
      | some r =>
        rw [hl] at h
        injection h with h
        subst h
        have hq := leq_run hd hl ha hb
        refine ⟨.bool (!r), ?_, .b _⟩
        obtain ⟨hn, hagg⟩ := leq_nil hl ha hb
        have hg : (eqGuard .neq ty ox oy a b).run P w = .ok () w := eqGuard_run (by simpa [Bool.or_eq_true] using hn) hagg
        rw [Sem.run_bind, hg, (leq_bin hl ha hb).2]
        show (do pure (.bool (!(← Op.equal ty a b))) : Sem Value).run P w = _
        rw [Sem.run_bind, hq]
        rfl
    · cases h
end Go.Lw
/- The local walk: memory that is read. -/
namespace Go.Lw
open Go Go.RowKit

/-- A type's cells; whether its values are taken apart; its zero value; its bytes. -/
def tsz (P : Program) (t : TypeId) : Option Nat := (P.info? t).map (·.size)
def tby (P : Program) (t : TypeId) : Option Nat := (P.info? t).map (·.bytes)
def tagg (P : Program) (t : TypeId) : Option Bool := (P.underlying t).map fun d => match d with | .struct _ | .array _ _ => true | _ => false
def tzero (P : Program) (t : TypeId) : Option Value := (P.info? t).bind (·.zero)

section
variable {P : Program} {t : TypeId} (w : World)
theorem run_sizeOf_t {z : Nat} (h : tsz P t = some z) : (sizeOf t).run P w = .ok z w := by
  unfold tsz at h
  cases hi : P.info? t with
  | none => rw [hi] at h; cases h
  | some i =>
    rw [hi] at h
    injection h with h
    simp [sizeOf, typeInfo, hi, h]
theorem run_isAgg_t {x : Bool} (h : tagg P t = some x) : (isAgg t).run P w = .ok x w := by
  unfold tagg at h
  cases hi : P.underlying t with
  | none => rw [hi] at h; cases h
  | some d =>
    rw [hi] at h
    injection h with h
    subst h
    simp only [isAgg, underlying, hi, Sem.run_bind, run_program, Result.andThen_ok, Sem.run_pure]
    cases d <;> rfl
theorem run_zero_t {x : Value} (h : tzero P t = some x) : (zeroValue t).run P w = .ok x w := by
  unfold tzero at h
  cases hi : P.info? t with
  | none => rw [hi] at h; cases h
  | some i =>
    rw [hi] at h
    have h' : i.zero = some x := h
    simp [zeroValue, typeInfo, hi, h']
theorem run_under_t {d : TypeDesc} (h : P.underlying t = some d) : (underlying t).run P w = .ok d w := by
  simp [underlying, h]
theorem run_info_t {i : TypeInfo} (h : P.info? t = some i) : (typeInfo t).run P w = .ok i w := by simp [typeInfo, h]
end

theorem add_none (b o n : Nat) : (⟨b, o, none⟩ : Addr).add n = ⟨b, o + n, none⟩ := by
  unfold Addr.add
  split <;> simp_all

/-- Cells that lie in a row, told. -/
def FC (w : World) (ok : Nat → Prop) (ρ : List (Nat × Nat)) (cs : List V) (b d : Nat) : Prop :=
  ∀ (k : Nat) (y : V), cs[k]? = some y → ∃ v, w.cell? ⟨b, d + k, none⟩ = some v ∧ VR w ok ρ y v

theorem fc_ptr {G : List (Nat × List V)} {w0 w : World} {H : List LB} {ρ : List (Nat × Nat)} (h : RelH G w0 H ρ w) {r b d : Nat} {cs : List V} {e : TypeId} {m : Bool}
    (hr : H[r]? = some (.c cs e m)) (hρ : ρ[r]? = some (b, d)) : FC w (Ok H ρ w) ρ cs b d := by
  intro k y hk
  obtain ⟨o, ho, arr, fr, rfl, _, hc⟩ := h.is r _ b d hr hρ
  obtain ⟨v, h1, h2⟩ := hc k y hk
  exact ⟨v, by simp [World.cell?, ho, h1], h2⟩

theorem fc_ep {w : World} {ok : Nat → Prop} {ρ : List (Nat × Nat)} {cs : List V} {k : Nat} {val : Value} (h : VR w ok ρ (.ep cs k) val) :
    ∃ b d, val = .pointer (some ⟨b, d + k, none⟩) ∧ FC w ok ρ cs b d ∧ (cs ≠ [] → ok b) := by
  cases h with
  | ep vals hok hcell hv =>
    exact ⟨_, _, rfl, fun q y hq => ⟨_, hcell q (List.getElem?_eq_some_iff.1 hq).1, hv q y hq⟩, hok⟩

theorem fc_vr {w : World} {ok : Nat → Prop} {ρ : List (Nat × Nat)} {cs : List V} {b d k : Nat} (h : FC w ok ρ cs b d) (hok : cs ≠ [] → ok b) : VR w ok ρ (.ep cs k) (.pointer (some ⟨b, d + k, none⟩)) := by
  have hc : ∀ q, ∃ v, q < cs.length → w.cell? ⟨b, d + q, none⟩ = some v ∧ ∀ y, cs[q]? = some y → VR w ok ρ y v := by
    intro q
    by_cases hq : q < cs.length
    · obtain ⟨v, h1, h2⟩ := h q cs[q] (List.getElem?_eq_getElem hq)
      exact ⟨v, fun _ => ⟨h1, fun y hy => by rw [List.getElem?_eq_getElem hq] at hy; injection hy with hy; subst hy; exact h2⟩⟩
    · exact ⟨undef, fun h => absurd h hq⟩
  exact .ep (fun q => (hc q).choose) hok (fun q hq => ((hc q).choose_spec hq).1) (fun q y hy => ((hc q).choose_spec (List.getElem?_eq_some_iff.1 hy).1).2 y hy)

/-- A value read out of cells. -/
def rdv (P : Program) (ty : TypeId) (cs : List V) (o : Nat) : Option V :=
  match tagg P ty with
  | some true => match tsz P ty with
    | some z => if o + z ≤ cs.length then some (.a ((cs.drop o).take z)) else none
    | none => none
  | some false => cs[o]?
  | none => none

theorem rdv_run {P : Program} {w : World} {ok : Nat → Prop} {ρ : List (Nat × Nat)} {cs : List V} {b d : Nat} (h : FC w ok ρ cs b d) {ty : TypeId} {o : Nat} {v : V} (hv : rdv P ty cs o = some v) :
    ∃ val, (loadVar ty ⟨b, d + o, none⟩).run P w = .ok val w ∧ VR w ok ρ v val := by
  unfold rdv at hv
  split at hv
  · rename_i ha
    split at hv
    · rename_i z hz
      split at hv
      · rename_i hle
        injection hv with hv
        subst hv
        refine ⟨.agg ((List.range z).map fun j => (w.cell? ⟨b, d + o + j, none⟩).getD undef).toArray, ?_, ?_⟩
        · simp only [loadVar, Sem.run_bind, run_isAgg_t w ha, Result.andThen_ok, if_true, run_sizeOf_t w hz]
          rw [run_loadCells w _ z (fun j => (w.cell? ⟨b, d + o + j, none⟩).getD undef) (fun j hj => by
            obtain ⟨v, h1, _⟩ := h (o + j) cs[o + j] (List.getElem?_eq_getElem (by omega))
            rw [add_none]
            rw [show d + (o + j) = d + o + j by omega] at h1
            rw [h1]
            rfl)]
          rfl
        · refine .a (by simp; omega) (fun q y v h1 h2 => ?_)
          have hq : q < z := by
            have := (Array.getElem?_eq_some_iff.1 h2).1
            simpa using this
          rw [List.getElem?_take_of_lt hq, List.getElem?_drop] at h1
          obtain ⟨v', h3, h4⟩ := h (o + q) y h1
          rw [show d + (o + q) = d + o + q by omega] at h3
          have : v = v' := by
            simp [hq, h3] at h2
            exact h2.symm
          subst this
          exact h4
      · cases hv
    · cases hv
  · rename_i ha
    obtain ⟨val, h1, h2⟩ := h o v hv
    refine ⟨val, ?_, h2⟩
    simp [loadVar, Sem.run_bind, run_isAgg_t w ha, Result.andThen_ok, h1]
  · cases hv

/-- A load. -/
def lload (P : Program) (H : List LB) (ty : TypeId) : V → Option V
  | .p r o => match H[r]? with
    | some (.c cs _ _) => rdv P ty cs o
    | _ => none
  | .ep cs k => rdv P ty cs k
  | _ => none

theorem lload_run {P : Program} {G : List (Nat × List V)} {w0 w : World} {H : List LB} {ρ : List (Nat × Nat)} (h : RelH G w0 H ρ w) {ty : TypeId} {x v : V} (hl : lload P H ty x = some v)
    {a : Value} (ha : VR w (Ok H ρ w) ρ x a) : ∃ val, (Instr.loadAt ty a).run P w = .ok val w ∧ VR w (Ok H ρ w) ρ v val := by
  unfold lload at hl
  split at hl
  · split at hl
    · rename_i cs e m hr
      cases ha with
      | p hρ =>
        obtain ⟨val, h1, h2⟩ := rdv_run (fc_ptr h hr hρ) hl
        exact ⟨val, by simp [Instr.loadAt, Instr.sureAddr, h1], h2⟩
    · cases hl
  · obtain ⟨b, d, rfl, hf, _⟩ := fc_ep ha
    obtain ⟨val, h1, h2⟩ := rdv_run hf hl
    exact ⟨val, by simp [Instr.loadAt, Instr.sureAddr, h1], h2⟩
  · cases hl

/-- A field's address. -/
def lfaddr (P : Program) (s : TypeId) (f : Nat) (x : V) : Option V :=
  match P.underlying s with
  | some (.struct fs) => match fs[f]? with
    | some fl => match tsz P fl.type with
      | some (_ + 1) => match x with
        | .p r o => some (.p r (o + fl.offset))
        | .ep cs k => some (.ep cs (k + fl.offset))
        | _ => none
      | _ => none
    | none => none
  | _ => none

theorem lfaddr_run {P : Program} {w : World} {ok : Nat → Prop} {ρ : List (Nat × Nat)} {s : TypeId} {f : Nat} {x v : V} (hl : lfaddr P s f x = some v)
    {a : Value} (ha : VR w ok ρ x a) : ∃ val, (Instr.fieldAt s a f).run P w = .ok val w ∧ VR w ok ρ v val := by
  unfold lfaddr at hl
  split at hl
  · rename_i fs hs
    split at hl
    · rename_i fl hf
      split at hl
      · rename_i z hz
        have hp : ∀ ad : Addr, (fieldPlace ad fl).run P w = .ok (ad.add fl.offset) w := fun ad => by simp [fieldPlace, run_sizeOf_t w hz]
        split at hl
        · injection hl with hl
          subst hl
          cases ha with
          | p hρ =>
            refine ⟨_, by simp [Instr.fieldAt, run_under_t w hs, hf, Instr.sureAddr, hp]; rfl, ?_⟩
            rw [add_none, Nat.add_assoc]
            exact .p hρ
        · injection hl with hl
          subst hl
          obtain ⟨b, d, rfl, hfc, hok⟩ := fc_ep ha
          refine ⟨_, by simp [Instr.fieldAt, run_under_t w hs, hf, Instr.sureAddr, hp]; rfl, ?_⟩
          rw [add_none, Nat.add_assoc]
          exact fc_vr hfc hok
        · cases hl
      · cases hl
    · cases hl
  · cases hl

/-- An element's address. -/
def liaddr (P : Program) (t : TypeId) (x ix : V) : Option V :=
  match ix with
  | .i _ j => match P.underlying t with
    | some (.slice e) => match x with
      | .sl z xs => if tsz P e = some z ∧ 0 ≤ j ∧ j < (xs.length : Int) then (xs[j.toNat]?).map fun y => .ep y.cells 0 else none
      | .own r o n _ _ => match tsz P e with
        | some z => if 0 ≤ j ∧ j < (n : Int) then some (.p r (o + j.toNat * z)) else none
        | none => none
      | _ => none
    | some (.array len e) => match tsz P e with
      | some z => if 0 ≤ j ∧ j < (len : Int) then (match x with
        | .p r o => some (.p r (o + j.toNat * z))
        | .ep cs k => some (.ep cs (k + j.toNat * z))
        | _ => none) else none
      | none => none
    | _ => none
  | _ => none

theorem liaddr_run {P : Program} {w : World} {ok : Nat → Prop} {ρ : List (Nat × Nat)} {t : TypeId} {x ix v : V} (hl : liaddr P t x ix = some v)
    {a i : Value} (ha : VR w ok ρ x a) (hi : VR w ok ρ ix i) : ∃ val, (Instr.indexAt t a i).run P w = .ok val w ∧ VR w ok ρ v val := by
  unfold liaddr at hl
  split at hl
  · rename_i kk j
    cases hi
    split at hl
    · rename_i e ht
      split at hl
      · rename_i z xs
        split at hl
        · rename_i hc
          obtain ⟨hz, h0, h1⟩ := hc
          cases ha with
          | sl0 => exact absurd h1 (by simp; omega)
          | @sl _ _ blk off c vals hcap hzz hok hcell hv =>
            have hj : j.toNat < xs.length := by omega
            rw [List.getElem?_eq_getElem hj] at hl
            injection hl with hl
            subst hl
            refine ⟨.pointer (some ⟨blk, off + j.toNat * z + 0, none⟩), ?_, ?_⟩
            · have h01 : 0 ≤ j ∧ j < (xs.length : Int) := ⟨h0, h1⟩
              simp [Instr.indexAt, asIntOf, run_under_t w ht, h01, run_sizeOf_t w hz, add_none]
            · have hlen : xs[j.toNat].cells.length = z := hzz _ (List.getElem_mem hj)
              refine .ep (fun q => vals j.toNat q) (fun hne => hok (by intro e; subst e; simp at hj) (by have := List.length_pos_iff.2 hne; omega)) (fun q hq => ?_) (fun q y hy => hv j.toNat _ (List.getElem?_eq_getElem hj) q y hy)
              rw [Nat.add_assoc]
              exact hcell j.toNat q hj (by omega)
        · cases hl
      · rename_i r o n _ _
        split at hl
        · rename_i z hz
          split at hl
          · rename_i hc
            injection hl with hl
            subst hl
            cases ha with
            | own hρ hn hc' hx _ =>
              refine ⟨_, by simp [Instr.indexAt, asIntOf, run_under_t w ht, hc, run_sizeOf_t w hz, add_none]; rfl, ?_⟩
              rw [Nat.add_assoc]
              exact .p hρ
            | own0 ad => omega
          · cases hl
        · cases hl
      · cases hl
    · rename_i len e ht
      split at hl
      · rename_i z hz
        split at hl
        · rename_i hc
          split at hl
          · injection hl with hl
            subst hl
            cases ha with
            | p hρ =>
              refine ⟨_, by simp [Instr.indexAt, asIntOf, run_under_t w ht, hc, run_sizeOf_t w hz, add_none, Instr.sureAddr]; rfl, ?_⟩
              rw [Nat.add_assoc]
              exact .p hρ
          · injection hl with hl
            subst hl
            obtain ⟨b, d, rfl, hfc, hok⟩ := fc_ep ha
            refine ⟨_, by simp [Instr.indexAt, asIntOf, run_under_t w ht, hc, run_sizeOf_t w hz, add_none, Instr.sureAddr]; rfl, ?_⟩
            rw [Nat.add_assoc]
            exact fc_vr hfc hok
          · cases hl
        · cases hl
      · cases hl
    · cases hl
  · cases hl
end Go.Lw
/- The local walk: slices cut, fields, bytes as a string, lengths, maps that are asked. -/
namespace Go.Lw
open Go Go.RowKit

section
variable {P : Program} {w : World} {ok : Nat → Prop} {ρ : List (Nat × Nat)}

/-- A bound of a cut. -/
def nb (x : Option V) (dflt hi : Nat) : Option Nat :=
  match x with
  | none => some dflt
  | some (.i _ j) => if 0 ≤ j ∧ j ≤ (hi : Int) then some j.toNat else none
  | _ => none

/-- The bounds of a cut of n, of c at least. -/
def lbnds (n c : Nat) (lo hi mx : Option V) : Option (Nat × Nat × Option Nat) :=
  match mx with
  | none => match nb hi n c with
    | some h => match nb lo 0 h with
      | some l => some (l, h, none)
      | none => none
    | none => none
  | some _ => match hi with
    | none => none
    | some _ => match nb mx 0 c with
      | some m => match nb hi 0 m with
        | some h => match nb lo 0 h with
          | some l => some (l, h, some m)
          | none => none
        | none => none
      | none => none

/-- Operands that may lack. -/
def VRo (w : World) (ok : Nat → Prop) (ρ : List (Nat × Nat)) : Option V → Option Value → Prop
  | none, none => True
  | some x, some v => VR w ok ρ x v
  | _, _ => False

theorem nb_run {x : V} {v : Value} (hv : VR w ok ρ x v) {d hi k : Nat} (h : nb (some x) d hi = some k) (code : BoundsCode) {hi' : Nat} (hh : hi ≤ hi') : (Instr.sliceBound v hi' code).run P w = .ok k w ∧ k ≤ hi := by
  unfold nb at h
  split at h
  · rename_i e; cases e
  · rename_i kk j e
    injection e with e
    subst e
    split at h
    · rename_i hc
      injection h with h
      subst h
      cases hv
      have : 0 ≤ j ∧ j ≤ (hi' : Int) := ⟨hc.1, by omega⟩
      exact ⟨by simp [Instr.sliceBound, asIntOf, this], by omega⟩
    · cases h
  · cases h

theorem lbnds_run {n c c' l h : Nat} {mo : Option Nat} {lo hi mx : Option V} {vlo vhi vmx : Option Value} (isS : Bool) (hb : lbnds n c lo hi mx = some (l, h, mo)) (hn : n ≤ c) (hc : c ≤ c')
    (h1 : VRo w ok ρ lo vlo) (h2 : VRo w ok ρ hi vhi) (h3 : VRo w ok ρ mx vmx) :
    (Instr.sliceBounds isS n c' vlo vhi vmx).run P w = .ok (l, h, mo.getD c') w ∧ l ≤ h ∧ h ≤ c ∧ (∀ m, mo = some m → h ≤ m ∧ m ≤ c) := by
  unfold lbnds at hb
  split at hb
  · cases vmx with
    | some _ => exact h3.elim
    | none =>
    split at hb
    · rename_i hv hhv
      split at hb
      · rename_i lv hlv
        injection hb with hb
        injection hb with e1 hb
        injection hb with e2 e3
        subst e1 e2 e3
        have hH : hv ≤ c ∧ (Instr.sliceBounds isS n c' vlo vhi none).run P w = ((match vlo with | some v => Instr.sliceBound v hv .sliceB | none => pure 0).run P w).andThen fun l w' => .ok (l, hv, c') w' := by
          cases hi with
          | none =>
            cases vhi with
            | some _ => exact h2.elim
            | none =>
              simp [nb] at hhv
              subst hhv
              refine ⟨hn, ?_⟩
              cases vlo <;> simp [Instr.sliceBounds]
          | some x =>
            cases vhi with
            | none => exact h2.elim
            | some vx =>
              obtain ⟨r1, r2⟩ := nb_run (P := P) h2 hhv (if isS then .sliceAcap else .sliceAlen) hc
              refine ⟨r2, ?_⟩
              cases vlo <;> simp [Instr.sliceBounds, r1]
        obtain ⟨hH1, hH2⟩ := hH
        rw [hH2]
        cases lo with
        | none =>
          cases vlo with
          | some _ => exact h1.elim
          | none =>
            simp [nb] at hlv
            subst hlv
            exact ⟨by simp, by omega, hH1, fun m e => by cases e⟩
        | some x =>
          cases vlo with
          | none => exact h1.elim
          | some vx =>
            obtain ⟨r1, r2⟩ := nb_run (P := P) h1 hlv .sliceB (Nat.le_refl hv)
            exact ⟨by simp [r1], r2, hH1, fun m e => by cases e⟩
      · cases hb
    · cases hb
  · rename_i mv
    cases vmx with
    | none => exact h3.elim
    | some vm =>
    split at hb
    · cases hb
    · rename_i hx
      cases vhi with
      | none => exact h2.elim
      | some vh =>
      split at hb
      · rename_i m hm
        split at hb
        · rename_i hv hhv
          split at hb
          · rename_i lv hlv
            injection hb with hb
            injection hb with e1 hb
            injection hb with e2 e3
            subst e1 e2 e3
            obtain ⟨a1, a2⟩ := nb_run (P := P) h3 hm (if isS then .slice3Acap else .slice3Alen) hc
            obtain ⟨b1, b2⟩ := nb_run (P := P) h2 hhv .slice3B (Nat.le_refl m)
            cases lo with
            | none =>
              cases vlo with
              | some _ => exact h1.elim
              | none =>
                simp [nb] at hlv
                subst hlv
                exact ⟨by simp [Instr.sliceBounds, a1, b1], by omega, by omega, fun m' e => by injection e with e; subst e; exact ⟨b2, a2⟩⟩
            | some x =>
              cases vlo with
              | none => exact h1.elim
              | some vx =>
                obtain ⟨r1, r2⟩ := nb_run (P := P) h1 hlv .slice3C (Nat.le_refl hv)
                exact ⟨by simp [Instr.sliceBounds, a1, b1, r1], r2, by omega, fun m' e => by injection e with e; subst e; exact ⟨b2, a2⟩⟩
          · cases hb
        · cases hb
      · cases hb

/-- A cut. -/
def lslice (P : Program) (t : TypeId) (x : V) (lo hi mx : Option V) : Option V :=
  match P.underlying t with
  | some .string => match x with
    | .s b => match mx with
      | some _ => none
      | none => (lbnds b.size b.size lo hi none).map fun r => .s (b.extract r.1 r.2.1)
    | _ => none
  | some (.slice e) => match x with
    | .sl z xs => if tsz P e = some z then (lbnds xs.length xs.length lo hi mx).map fun r => .sl z ((xs.take r.2.1).drop r.1) else none
    | .own r o n c ex => match tsz P e with
      | some z => if ex = 0 ∨ ex = z then (lbnds n c lo hi mx).map fun q => match q.2.2 with
          | some m => .own r (o + q.1 * z) (q.2.1 - q.1) (m - q.1) 0
          | none => .own r (o + q.1 * z) (q.2.1 - q.1) (c - q.1) ex
        else none
      | none => none
    | .nsl => match tsz P e, lbnds 0 0 lo hi mx with
      | some _, some _ => some .nsl
      | _, _ => none
    | _ => none
  | some (.array len e) => match x with
    | .p r o => match tsz P e with
      | some z => (lbnds len len lo hi mx).map fun q => .own r (o + q.1 * z) (q.2.1 - q.1) (q.2.2.getD len - q.1) 0
      | none => none
    | _ => none
  | _ => none

theorem lslice_run {t : TypeId} {x v : V} {lo hi mx : Option V} (hl : lslice P t x lo hi mx = some v) {a : Value} {vlo vhi vmx : Option Value} (ha : VR w ok ρ x a)
    (h1 : VRo w ok ρ lo vlo) (h2 : VRo w ok ρ hi vhi) (h3 : VRo w ok ρ mx vmx) : ∃ val, (Instr.sliceAt t a vlo vhi vmx).run P w = .ok val w ∧ VR w ok ρ v val := by
  unfold lslice at hl
  split at hl
  · rename_i ht
    split at hl
    · rename_i b
      cases mx with
      | some _ => cases hl
      | none =>
      cases vmx with
      | some _ => exact h3.elim
      | none =>
      cases hb : lbnds b.size b.size lo hi none with
      | none => rw [hb] at hl; cases hl
      | some r =>
        obtain ⟨l, h, mo⟩ := r
        rw [hb] at hl
        injection hl with hl
        subst hl
        cases ha
        obtain ⟨r1, _⟩ := lbnds_run (P := P) (w := w) (ok := ok) (ρ := ρ) false hb (Nat.le_refl _) (Nat.le_refl _) h1 h2 h3
        exact ⟨.string (b.extract l h), by simp [Instr.sliceAt, Instr.slice, run_under_t w ht, r1], .s _⟩
    · cases hl
  · rename_i e ht
    split at hl
    · rename_i z xs
      split at hl
      · rename_i hz
        cases hb : lbnds xs.length xs.length lo hi mx with
        | none => rw [hb] at hl; cases hl
        | some r =>
          obtain ⟨l, h, mo⟩ := r
          rw [hb] at hl
          injection hl with hl
          subst hl
          dsimp only
          cases ha with
          | sl0 =>
            obtain ⟨r1, r2, r3, r4⟩ := lbnds_run (P := P) (w := w) (ok := ok) (ρ := ρ) true hb (Nat.le_refl _) (Nat.le_refl _) h1 h2 h3
            have hmo : mo.getD 0 = 0 := by cases mo with | none => rfl | some m => have := r4 m rfl; simp at this ⊢; omega
            refine ⟨.slice none 0 0, ?_, by simp; exact .sl0⟩
            have r1' := r1
            simp only [List.length_nil] at r1' r2 r3
            simp [Instr.sliceAt, Instr.slice, run_under_t w ht, r1', run_sizeOf_t w hz, hmo]
            omega
          | @sl _ _ blk off c vals hcap hzz hok hcell hv =>
            obtain ⟨r1, r2, r3, r4⟩ := lbnds_run (P := P) (w := w) (ok := ok) (ρ := ρ) true hb (Nat.le_refl _) hcap h1 h2 h3
            have hlen : ((xs.take h).drop l).length = h - l := by simp; omega
            by_cases hm : mo.getD c = l
            · refine ⟨.slice (some ⟨blk, off, none⟩) (h - l) (mo.getD c - l), by simp [Instr.sliceAt, Instr.slice, run_under_t w ht, r1, run_sizeOf_t w hz, hm], ?_⟩
              have hhl : h = l := by
                cases mo with
                | none => simp at hm; omega
                | some m => simp at hm; have := (r4 m rfl).1; omega
              have he : (xs.take h).drop l = [] := List.eq_nil_of_length_eq_zero (by omega)
              rw [he]
              rw [show h - l = ([] : List V).length by simp; omega]
              exact .sl vals (by simp) (by simp) (by simp) (by simp) (by simp)
            · refine ⟨.slice (some ⟨blk, off + l * z, none⟩) (h - l) (mo.getD c - l), by simp [Instr.sliceAt, Instr.slice, run_under_t w ht, r1, run_sizeOf_t w hz, hm, add_none], ?_⟩
              rw [← hlen]
              refine .sl (fun j q => vals (l + j) q) ?_ (fun x hx => hzz x (List.mem_of_mem_take (List.mem_of_mem_drop hx))) (fun hne hzp => hok (fun e => hne (by simp [e])) hzp) (fun j q hj hq => ?_) (fun j x hj q y hy => ?_)
              · cases mo with
                | none => simp; omega
                | some m => have := r4 m rfl; simp; omega
              · rw [show off + l * z + (j * z + q) = off + ((l + j) * z + q) by rw [Nat.add_mul]; omega]
                exact hcell (l + j) q (by omega) hq
              · rw [List.getElem?_drop] at hj
                have hlt : l + j < h := by
                  have := (List.getElem?_eq_some_iff.1 hj).1
                  simp at this
                  omega
                rw [List.getElem?_take_of_lt hlt] at hj
                exact hv (l + j) x hj q y hy
      · cases hl
    · rename_i r o n c ex
      split at hl
      · rename_i z hz
        split at hl
        case isFalse => cases hl
        rename_i hexz
        cases hb : lbnds n c lo hi mx with
        | none => rw [hb] at hl; cases hl
        | some q =>
          obtain ⟨l, h, mo⟩ := q
          rw [hb] at hl
          injection hl with hl
          subst hl
          dsimp only
          have hnc : n ≤ c := by cases ha with | own hr hn hc hx _ => exact hn | own0 ad => exact Nat.le_refl _
          have hrl : r < ρ.length := by cases ha with | own hr hn hc hx _ => exact (List.getElem?_eq_some_iff.1 hr).1 | own0 ad hr => exact hr
          obtain ⟨c', ad, hA, hcc, hx, hal, hst⟩ : ∃ c' ad, a = .slice (some ad) n c' ∧ c ≤ c' ∧ (ex = 0 → c' = c) ∧ (∃ b f, ad = ⟨b, f, none⟩) ∧ ((c = 0 ∧ c' = 0) ∨ ∃ b d, ρ[r]? = some (b, d) ∧ ad = ⟨b, d + o, none⟩ ∧ (ex ≠ 0 → ∃ arr e fr, w.heap[b]? = some (Obj.cells arr e fr) ∧ d + o + c' * ex ≤ arr.size)) := by
            cases ha with
            | own hr hn hc hx hs => exact ⟨_, _, rfl, hc, hx, ⟨_, _, rfl⟩, .inr ⟨_, _, hr, rfl, hs⟩⟩
            | own0 ad _ ha => exact ⟨0, ad, rfl, Nat.le_refl _, fun _ => rfl, ha, .inl ⟨rfl, rfl⟩⟩
          subst hA
          obtain ⟨r1, r2, r3, r4⟩ := lbnds_run (P := P) (w := w) (ok := ok) (ρ := ρ) true hb hnc hcc h1 h2 h3
          by_cases hm : mo.getD c' = l
          · refine ⟨.slice (some ad) (h - l) (mo.getD c' - l), by simp [Instr.sliceAt, Instr.slice, run_under_t w ht, r1, run_sizeOf_t w hz, hm], ?_⟩
            cases mo with
            | none =>
              simp at hm
              dsimp only [Option.getD_none]
              rw [show h - l = 0 by omega, show c' - l = 0 by omega, show c - l = 0 by omega]
              exact .own0 ad hrl hal
            | some m =>
              simp at hm
              have := r4 m rfl
              dsimp only [Option.getD_some]
              rw [show h - l = 0 by omega, show m - l = 0 by omega]
              exact .own0 ad hrl hal
          · have hl0 : ¬ (c = 0 ∧ c' = 0) := by
              rintro ⟨e1, e2⟩
              cases mo with
              | none => simp at hm; omega
              | some m => simp at hm; have := r4 m rfl; omega
            obtain ⟨b, d, hρ, rfl, hs⟩ := hst.resolve_left hl0
            refine ⟨.slice (some ⟨b, d + (o + l * z), none⟩) (h - l) (mo.getD c' - l), by simp [Instr.sliceAt, Instr.slice, run_under_t w ht, r1, run_sizeOf_t w hz, hm, add_none]; omega, ?_⟩
            cases mo with
            | none =>
              refine .own hρ (by omega) (by simp; omega) (fun e => by have := hx e; simp; omega) (fun h0 => ?_)
              obtain ⟨arr, e', fr, h5, h6⟩ := hs h0
              refine ⟨arr, e', fr, h5, ?_⟩
              obtain rfl := hexz.resolve_left h0
              have hlc : l ≤ c' := by omega
              simp only [Option.getD_none]
              rw [Nat.sub_mul]
              have := Nat.mul_le_mul_right ex hlc
              omega
            | some m => have := r4 m rfl; exact .own hρ (by omega) (by simp) (fun _ => by simp) (fun h0 => absurd rfl h0)
      · cases hl
    · split at hl
      · rename_i z q hz hb
        injection hl with hl
        subst hl
        obtain ⟨l, h, mo⟩ := q
        obtain ⟨r1, r2, r3, r4⟩ := lbnds_run (P := P) (w := w) (ok := ok) (ρ := ρ) true hb (Nat.le_refl _) (Nat.le_refl _) h1 h2 h3
        cases ha
        have hmo : mo.getD 0 = 0 := by cases mo with | none => rfl | some m => have := r4 m rfl; simp; omega
        refine ⟨.slice none 0 0, ?_, .nsl⟩
        simp [Instr.sliceAt, Instr.slice, run_under_t w ht, r1, run_sizeOf_t w hz, hmo]
        omega
      · cases hl
    · cases hl
  · rename_i len e ht
    split at hl
    · rename_i r o
      split at hl
      · rename_i z hz
        cases hb : lbnds len len lo hi mx with
        | none => rw [hb] at hl; cases hl
        | some q =>
          obtain ⟨l, h, mo⟩ := q
          rw [hb] at hl
          injection hl with hl
          subst hl
          obtain ⟨r1, r2, r3, r4⟩ := lbnds_run (P := P) (w := w) (ok := ok) (ρ := ρ) false hb (Nat.le_refl _) (Nat.le_refl _) h1 h2 h3
          dsimp only
          cases ha with
          | @p _ _ b d hρ =>
          by_cases hm : mo.getD len = l
          · refine ⟨.slice (some ⟨b, d + o, none⟩) (h - l) (mo.getD len - l), by simp [Instr.sliceAt, Instr.sureAddr, run_under_t w ht, r1, run_sizeOf_t w hz, hm], ?_⟩
            have hh : h = l := by
              cases mo with
              | none => simp at hm; omega
              | some m => simp at hm; have := r4 m rfl; omega
            rw [hm, show h - l = 0 by omega, Nat.sub_self]
            exact .own0 _ (List.getElem?_eq_some_iff.1 hρ).1 ⟨_, _, rfl⟩
          · refine ⟨.slice (some ⟨b, d + (o + l * z), none⟩) (h - l) (mo.getD len - l), by simp [Instr.sliceAt, Instr.sureAddr, run_under_t w ht, r1, run_sizeOf_t w hz, hm, add_none]; omega, ?_⟩
            refine .own hρ ?_ (Nat.le_refl _) (fun _ => rfl) (fun h0 => absurd rfl h0)
            cases mo with
            | none => simp; omega
            | some m => have := r4 m rfl; simp; omega
      · cases hl
    · cases hl
  · cases hl

/-- A part of a struct or an array. -/
def lpart (P : Program) (t : TypeId) (cs : List V) (o : Nat) : Option V := rdv P t cs o

theorem lpart_run {t : TypeId} {cs : List V} {cv : Array Value} {o : Nat} {v : V} (hl : cv.size = cs.length) (h : ∀ (q : Nat) (y : V) (v : Value), cs[q]? = some y → cv[q]? = some v → VR w ok ρ y v)
    (hv : rdv P t cs o = some v) : ∃ val, (part t cv o).run P w = .ok val w ∧ VR w ok ρ v val := by
  unfold rdv at hv
  split at hv
  · rename_i ha
    split at hv
    · rename_i z hz
      split at hv
      · rename_i hle
        injection hv with hv
        subst hv
        refine ⟨.agg (cv.extract o (o + z)), by simp [part, run_isAgg_t w ha, run_sizeOf_t w hz], ?_⟩
        refine .a (by simp; omega) (fun q y v h1 h2 => ?_)
        have hq : q < z := by
          have := (Array.getElem?_eq_some_iff.1 h2).1
          simp at this
          omega
        rw [List.getElem?_take_of_lt hq, List.getElem?_drop] at h1
        rw [Array.getElem?_extract] at h2
        rw [if_pos (by omega)] at h2
        exact h _ _ _ h1 h2
      · cases hv
    · cases hv
  · rename_i ha
    have ho : o < cv.size := by rw [hl]; exact (List.getElem?_eq_some_iff.1 hv).1
    exact ⟨cv[o], by simp [part, run_isAgg_t w ha, Array.getElem?_eq_getElem ho], h o v _ hv (Array.getElem?_eq_getElem ho)⟩
  · cases hv

/-- A field of a struct. -/
def lfield (P : Program) (t : TypeId) (f : Nat) (x : V) : Option V :=
  match P.underlying t with
  | some (.struct fs) => match fs[f]? with
    | some fl => match x with
      | .a cs => rdv P fl.type cs fl.offset
      | _ => none
    | none => none
  | _ => none

theorem lfield_run {t : TypeId} {f : Nat} {x v : V} (hl : lfield P t f x = some v) {a : Value} (ha : VR w ok ρ x a) : ∃ val, (Instr.field t a f).run P w = .ok val w ∧ VR w ok ρ v val := by
  unfold lfield at hl
  split at hl
  · rename_i fs ht
    split at hl
    · rename_i fl hf
      split at hl
      · cases ha with
        | a hs h =>
          obtain ⟨val, h1, h2⟩ := lpart_run (P := P) hs h hl
          exact ⟨val, by simp [Instr.field, run_under_t w ht, hf, asAgg, h1], h2⟩
      · cases hl
    · cases hl
  · cases hl

/-- An element of an array, or a byte of a string. -/
def lindex (P : Program) (t : TypeId) (x ix : V) : Option V :=
  match ix with
  | .i _ j => match P.underlying t with
    | some (.array len e) => match tsz P e, x with
      | some z, .a cs => if 0 ≤ j ∧ j < (len : Int) then rdv P e cs (j.toNat * z) else none
      | _, _ => none
    | some .string => match x with
      | .s b => if h : 0 ≤ j ∧ j.toNat < b.size then some (.i .u8 ((b[j.toNat]'h.2).toNat : Int)) else none
      | _ => none
    | _ => none
  | _ => none

theorem lindex_run {t : TypeId} {x ix v : V} (hl : lindex P t x ix = some v) {a i : Value} (ha : VR w ok ρ x a) (hi : VR w ok ρ ix i) : ∃ val, (Instr.index t a i).run P w = .ok val w ∧ VR w ok ρ v val := by
  unfold lindex at hl
  split at hl
  · rename_i kk j
    cases hi
    split at hl
    · rename_i len e ht
      split at hl
      · rename_i z cs hz
        split at hl
        · rename_i hc
          cases ha with
          | a hs h =>
            obtain ⟨val, h1, h2⟩ := lpart_run (P := P) hs h hl
            exact ⟨val, by simp [Instr.index, asIntOf, run_under_t w ht, hc, run_sizeOf_t w hz, h1], h2⟩
        · cases hl
      · cases hl
    · rename_i ht
      split at hl
      · rename_i b
        split at hl
        · rename_i hc
          injection hl with hl
          subst hl
          cases ha
          have hg : b[j.toNat]? = some (b[j.toNat]'hc.2) := by simp [getElem?_pos, hc.2]
          exact ⟨_, by simp [Instr.index, asIntOf, run_under_t w ht, hc.1, hg], .i _ _⟩
        · cases hl
      · cases hl
    · cases hl
  · cases hl

/-- One of several results. -/
def lextract (x : V) (k : Nat) : Option V :=
  match x with
  | .t vs => vs[k]?
  | _ => none

theorem lextract_run {k : Nat} {x v : V} (hl : lextract x k = some v) {a : Value} (ha : VR w ok ρ x a) : ∃ val, (Instr.extract a k).run P w = .ok val w ∧ VR w ok ρ v val := by
  unfold lextract at hl
  split at hl
  · cases ha with
    | t hs h =>
      have ho := (List.getElem?_eq_some_iff.1 hl).1
      rw [← hs] at ho
      exact ⟨_, by simp [Instr.extract, Array.getElem?_eq_getElem ho], h k v _ hl (Array.getElem?_eq_getElem ho)⟩
  · cases hl
end
end Go.Lw
/- The local walk: bytes as a string, lengths, maps that are asked; all that only reads. -/
namespace Go.Lw
open Go Go.RowKit

/-- Bytes, as numbers. -/
def nums8 : List V → Option (List Int)
  | [] => some []
  | .i .u8 n :: xs => (nums8 xs).map fun l => n :: l
  | _ => none

/-- A conversion that only reads. -/
def lconv (P : Program) (src dst : TypeId) (H : List LB) (x : V) : Option V :=
  match scal x with
  | some v => (prun P (convert src dst v)).map ofV
  | none => match P.underlying src, P.underlying dst with
    | some (.slice e), some .string => match P.underlying e with
      | some (.int .u8) => match x with
        | .nsl => some (.s ByteArray.empty)
        | .sl 1 xs => (nums8 xs).map fun l => .s (strOfNums l)
        | .own r o n _ _ => match H[r]? with
          | some (.c cs _ _) => if o + n ≤ cs.length then (nums8 ((cs.drop o).take n)).map fun l => .s (strOfNums l) else none
          | _ => none
        | _ => none
      | _ => none
    | _, _ => none

theorem nums8_get : ∀ {xs : List V} {l : List Int}, nums8 xs = some l → xs = l.map fun n => V.i .u8 n := by
  intro xs
  induction xs with
  | nil => intro l h; simp [nums8] at h; subst h; rfl
  | cons x xs ih =>
    intro l h
    unfold nums8 at h
    split at h
    · rename_i e; cases e
    · rename_i n ys e
      injection e with e1 e2
      subst e1 e2
      cases hn : nums8 xs with
      | none => rw [hn] at h; cases h
      | some l' =>
        rw [hn] at h
        injection h with h
        subst h
        rw [ih hn]
        rfl
    · cases h

theorem lconv_run {P : Program} {G : List (Nat × List V)} {w0 w : World} {H : List LB} {ρ : List (Nat × Nat)} (h : RelH G w0 H ρ w) {src dst : TypeId} {x v : V} (hl : lconv P src dst H x = some v)
    {a : Value} (ha : VR w (Ok H ρ w) ρ x a) : ∃ val, (convert src dst a).run P w = .ok val w ∧ VR w (Ok H ρ w) ρ v val := by
  unfold lconv at hl
  split at hl
  · rename_i va e
    obtain rfl := vr_scal e ha
    cases hp : prun P (convert src dst a) with
    | none => rw [hp] at hl; cases hl
    | some r =>
      rw [hp] at hl
      injection hl with hl
      subst hl
      exact ⟨r, prun_run _ _ hp w, vr_ofV r⟩
  · split at hl
    · rename_i e hs hd
      split at hl
      · rename_i he
        split at hl
        · injection hl with hl
          subst hl
          cases ha
          exact ⟨_, run_convert_bytes_nil w src e hs he 0 0 dst hd, .s _⟩
        · rename_i xs _
          cases hn : nums8 xs with
          | none => rw [hn] at hl; cases hl
          | some l =>
            rw [hn] at hl
            injection hl with hl
            subst hl
            have hxs := nums8_get hn
            cases ha with
            | sl0 =>
              obtain rfl : l = [] := by
                cases l with
                | nil => rfl
                | cons a l => simp at hxs
              exact ⟨_, run_convert_bytes_nil w src e hs he 0 0 dst hd, .s _⟩
            | @sl _ _ blk off c vals hcap hzz hok hcell hv =>
              refine ⟨_, run_convert_bytes_arg w src e hs he blk off xs.length c l (by rw [hxs]; simp) (fun i hi => ?_) dst hd, .s _⟩
              have h1 := hcell i 0 hi (by omega)
              rw [show off + (i * 1 + 0) = off + i by omega] at h1
              rw [h1]
              have hil : i < l.length := by rw [hxs] at hi; simpa using hi
              have h2 := hv i (V.i .u8 l[i]) (by rw [hxs]; simp [hil]) 0 (V.i .u8 l[i]) rfl
              rw [vr_scal rfl h2]
              simp [List.getD, List.getElem?_eq_getElem hil]
        · rename_i r o n _ _ _
          split at hl
          · rename_i cs _ m hr
            split at hl
            · rename_i hle
              cases hn : nums8 ((cs.drop o).take n) with
              | none => rw [hn] at hl; cases hl
              | some l =>
                rw [hn] at hl
                injection hl with hl
                subst hl
                have hxs := nums8_get hn
                have hln : l.length = n := by
                  have := congrArg List.length hxs
                  simp at this
                  omega
                cases ha with
                | @own _ _ _ c c' b d _ hρ hnc hc hx _ =>
                  refine ⟨_, run_convert_bytes_arg w src e hs he b (d + o) n c' l hln (fun i hi => ?_) dst hd, .s _⟩
                  have hil : i < l.length := by omega
                  have h2 : cs[o + i]? = some (V.i .u8 l[i]) := by
                    have := congrArg (fun z => z[i]?) hxs
                    simp only [List.getElem?_map, List.getElem?_eq_getElem hil, Option.map_some] at this
                    rw [List.getElem?_take_of_lt hi, List.getElem?_drop] at this
                    exact this
                  obtain ⟨vv, h3, h4⟩ := fc_ptr h hr hρ (o + i) _ h2
                  rw [← Nat.add_assoc] at h3
                  rw [h3]
                  cases h4
                  simp [List.getD, List.getElem?_eq_getElem hil]
                | own0 ad =>
                  obtain rfl : l = [] := List.eq_nil_of_length_eq_zero hln
                  refine ⟨_, ?_, .s _⟩
                  rw [run_convert_bytes_string w src dst e _ 0 0 hs he hd, run_bytesToString w ad 0 0 [] rfl]
                  rfl
            · cases hl
          · cases hl
        · cases hl
      · cases hl
    · cases hl

/-- A length. -/
def llen (P : Program) (H : List LB) (t : TypeId) (x : V) : Option V :=
  match P.underlying t with
  | some .string => match x with | .s b => some (.i .i64 (b.size : Int)) | _ => none
  | some (.array n _) => some (.i .i64 (n : Int))
  | some (.slice _) => match x with
    | .sl _ xs => some (.i .i64 (xs.length : Int))
    | .nsl => some (.i .i64 0)
    | .own _ _ n _ _ => some (.i .i64 (n : Int))
    | _ => none
  | some (.map _ _) => match x with
    | .nm => some (.i .i64 0)
    | .m r => match H[r]? with
      | some (.mp es _) => some (.i .i64 (es.length : Int))
      | _ => none
    | _ => none
  | _ => none

theorem llen_run {P : Program} {G : List (Nat × List V)} {w0 w : World} {H : List LB} {ρ : List (Nat × Nat)} (h : RelH G w0 H ρ w) {t ty : TypeId} {ats : Array TypeId} (hat : ats[0]? = some t) {x v : V} (hl : llen P H t x = some v)
    {a : Value} (ha : VR w (Ok H ρ w) ρ x a) {args : Array Value} (harg : args[0]? = some a) : ∃ val, (Builtin.len_ ats ty args).run P w = .ok val w ∧ VR w (Ok H ρ w) ρ v val := by
  unfold llen at hl
  unfold Builtin.len_
  rw [hat, harg]
  split at hl
  · rename_i ht
    split at hl
    · injection hl with hl
      subst hl
      cases ha
      exact ⟨_, by simp [run_under_t w ht]; rfl, .i _ _⟩
    · cases hl
  · rename_i n e ht
    injection hl with hl
    subst hl
    exact ⟨_, by simp [run_under_t w ht]; rfl, .i _ _⟩
  · rename_i e ht
    split at hl
    · injection hl with hl
      subst hl
      cases ha <;> exact ⟨_, by simp [run_under_t w ht]; rfl, .i _ _⟩
    · injection hl with hl
      subst hl
      cases ha
      exact ⟨_, by simp [run_under_t w ht]; rfl, .i _ _⟩
    · injection hl with hl
      subst hl
      cases ha <;> exact ⟨_, by simp [run_under_t w ht]; rfl, .i _ _⟩
    · cases hl
  · rename_i k e ht
    split at hl
    · injection hl with hl
      subst hl
      cases ha
      exact ⟨_, by simp [run_under_t w ht]; rfl, .i _ _⟩
    · rename_i r
      split at hl
      · rename_i es kt hr
        injection hl with hl
        subst hl
        cases ha with
        | @m _ b d hρ =>
          obtain ⟨o, ho, hd, ents, clock, rfl, hs, he⟩ := h.is r _ b d hr hρ
          exact ⟨_, by simp [run_under_t w ht, getObj, Sem.run, ho, hs]; rfl, .i _ _⟩
      · cases hl
    · cases hl
  · cases hl

/-- Are all keys of the one kind of a key that is asked? -/
def keysOk (d : TypeDesc) (k : V) (es : List (V × V)) : Bool :=
  match d, k with
  | .int _, .i kk _ => es.all fun e => match e.1 with | .i k' _ => decide (kk = k') | _ => false
  | .string, .s _ => es.all fun e => match e.1 with | .s _ => true | _ => false
  | _, _ => false

def keq : V → V → Bool
  | .i _ a, .i _ b => a == b
  | .s a, .s b => a == b
  | _, _ => false

/-- What a map has under a key. -/
def mget (es : List (V × V)) (k : V) : Option V := (es.find? fun e => keq k e.1).map (·.2)

/-- Where. -/
def mat (es : List (V × V)) (k : V) : Option Nat := es.findIdx? fun e => keq k e.1

theorem bytes_beq (s s' : ByteArray) (h : (s == s') = true) : s = s' := by
  cases s; cases s'
  unfold BEq.beq ByteArray.instBEq ByteArray.beq at h
  simp at h
  rw [h]
theorem bytes_refl (s : ByteArray) : (s == s) = true := by
  cases s
  unfold BEq.beq ByteArray.instBEq ByteArray.beq
  simp
theorem bytes_ne (s s' : ByteArray) (h : (s == s') = false) : s ≠ s' := by
  rintro rfl
  rw [bytes_refl] at h
  cases h

theorem findNow_run {R : V → Value → Prop} (hR : ∀ (x : V) v v', scal x = some v → R x v' → v' = v) {d : TypeDesc} {k : V} {kv : Value} (hk : scal k = some kv) :
    ∀ (es : List (V × V)) (ents : List MapEntry) (i : Nat), keysOk d k es = true → ents.length = es.length →
      (∀ (j : Nat) (a b : V) (e : MapEntry), es[j]? = some (a, b) → ents[j]? = some e → R a e.key ∧ R b e.val) →
      (mat es k = none ∧ Instr.findNow d kv ents i = some none) ∨
      (∃ j b e, mat es k = some j ∧ mget es k = some b ∧ ents[j]? = some e ∧ e.key = kv ∧ R b e.val ∧ Instr.findNow d kv ents i = some (some (i + j, e.val))) := by
  intro es
  induction es with
  | nil =>
    intro ents i _ hl _
    have : ents = [] := List.eq_nil_of_length_eq_zero (by simpa using hl)
    subst this
    exact .inl ⟨rfl, rfl⟩
  | cons p es ih =>
    intro ents i hok hl he
    cases ents with
    | nil => simp at hl
    | cons e ents =>
      obtain ⟨a, b⟩ := p
      obtain ⟨ha, hb⟩ := he 0 a b e rfl rfl
      have hok' : keysOk d k es = true := by
        unfold keysOk at hok ⊢
        split at hok
        · simp only [List.all_cons, Bool.and_eq_true] at hok
          exact hok.2
        · simp only [List.all_cons, Bool.and_eq_true] at hok
          exact hok.2
        · cases hok
      have ih' := ih ents (i + 1) hok' (by simpa using hl) (fun j a' b' e' h1 h2 => he (j + 1) a' b' e' h1 h2)
      have hsame : Instr.sameNow d kv e.key = some (keq k a) ∧ (keq k a = true → e.key = kv) := by
        unfold keysOk at hok
        split at hok
        · rename_i kk n
          simp only [List.all_cons, Bool.and_eq_true] at hok
          obtain ⟨h1, _⟩ := hok
          cases a with
          | i k' n' =>
            have hq := hR _ _ _ rfl ha
            obtain rfl : kk = k' := of_decide_eq_true h1
            injection hk with hk
            subst hk
            rw [hq]
            exact ⟨by simp [Instr.sameNow, keq], fun h => by simp [keq] at h; rw [h]⟩
          | _ => cases h1
        · rename_i s
          simp only [List.all_cons, Bool.and_eq_true] at hok
          obtain ⟨h1, _⟩ := hok
          cases a with
          | s s' =>
            have hq := hR _ _ _ rfl ha
            injection hk with hk
            subst hk
            rw [hq]
            exact ⟨by simp [Instr.sameNow, keq], fun h => by rw [bytes_beq _ _ h]⟩
          | _ => cases h1
        · cases hok
      obtain ⟨hs1, hs2⟩ := hsame
      cases hq : keq k a with
      | true =>
        refine .inr ⟨0, b, e, by simp [mat, List.findIdx?_cons, hq], by simp [mget, List.find?_cons, hq], rfl, hs2 hq, hb, ?_⟩
        simp [Instr.findNow, hs1, hq]
      | false =>
        rcases ih' with ⟨h1, h2⟩ | ⟨j, b', e', h1, h2, h3, h4, h5, h6⟩
        · refine .inl ⟨?_, ?_⟩
          · unfold mat at h1 ⊢
            simp [List.findIdx?_cons, hq, h1]
          · simp [Instr.findNow, hs1, hq, h2]
        · refine .inr ⟨j + 1, b', e', ?_, ?_, h3, h4, h5, ?_⟩
          · unfold mat at h1 ⊢
            simp [List.findIdx?_cons, hq, h1]
          · unfold mget at h2 ⊢
            simp [List.find?_cons, hq, h2]
          · simp only [Instr.findNow, hs1, hq, h6]
            congr 3
            omega

theorem checkKey_run {P : Program} {w : World} {em : Bool} {kt : TypeId} {d : TypeDesc} (hd : P.underlying kt = some d) {k : V} {es : List (V × V)} (hok : keysOk d k es = true) {kv : Value} (hk : scal k = some kv) (n : Nat) :
    (Instr.checkKey em (n + 1) kt kv).run P w = .ok () w := by
  unfold Instr.checkKey
  rw [Sem.run_bind, run_under_t w hd]
  unfold keysOk at hok
  split at hok
  · simp [scal] at hk
    subst hk
    rfl
  · simp [scal] at hk
    subst hk
    rfl
  · cases hok

theorem findKey_run {P : Program} {w : World} {kt : TypeId} {d : TypeDesc} (hd : P.underlying kt = some d) {kv : Value} {ents : List MapEntry} {r : Option (Nat × Value)} (h : Instr.findNow d kv ents 0 = some r) :
    (Instr.findKey kt kv ents).run P w = .ok r w := by
  unfold Instr.findKey
  rw [Sem.run_bind, run_under_t w hd]
  simp [h]

/-- A map that is asked. -/
def llookup (P : Program) (H : List LB) (t : TypeId) (x k : V) (commaOk : Bool) : Option V :=
  match P.underlying t with
  | some (.map kt et) => match P.underlying kt, tzero P et with
    | some d, some z => match (match x with
        | .nm => some []
        | .m r => match H[r]? with
          | some (.mp es _) => some es
          | _ => none
        | _ => none) with
      | some es => if keysOk d k es then
          match mget es k with
          | some v => some (if commaOk then .t [v, .b true] else v)
          | none => some (if commaOk then .t [ofV z, .b false] else ofV z)
        else none
      | none => none
    | _, _ => none
  | _ => none

theorem keysOk_scal {d : TypeDesc} {k : V} {es : List (V × V)} (h : keysOk d k es = true) : ∃ kv, scal k = some kv := by
  unfold keysOk at h
  split at h
  · exact ⟨_, rfl⟩
  · exact ⟨_, rfl⟩
  · cases h

theorem vr_pair {w : World} {ok : Nat → Prop} {ρ : List (Nat × Nat)} {a b : V} {va vb : Value} (ha : VR w ok ρ a va) (hb : VR w ok ρ b vb) : VR w ok ρ (.t [a, b]) (.tuple #[va, vb]) := by
  refine .t rfl (fun q y v h1 h2 => ?_)
  match q, h1, h2 with
  | 0, h1, h2 => injection h1 with h1; injection h2 with h2; subst h1 h2; exact ha
  | 1, h1, h2 => injection h1 with h1; injection h2 with h2; subst h1 h2; exact hb
  | q + 2, h1, _ => simp at h1

theorem llookup_run {P : Program} {G : List (Nat × List V)} {w0 w : World} {H : List LB} {ρ : List (Nat × Nat)} (h : RelH G w0 H ρ w) {t : TypeId} {x k v : V} {co : Bool} (hl : llookup P H t x k co = some v)
    {a kv : Value} (ha : VR w (Ok H ρ w) ρ x a) (hkv : VR w (Ok H ρ w) ρ k kv) : ∃ val, (Instr.lookup t a kv co).run P w = .ok val w ∧ VR w (Ok H ρ w) ρ v val := by
  unfold llookup at hl
  split at hl
  · rename_i kt et ht
    split at hl
    · rename_i d z hd hz
      split at hl
      · rename_i es hes
        split at hl
        · rename_i hok
          obtain ⟨kv', hks⟩ := keysOk_scal hok
          obtain rfl := vr_scal hks hkv
          obtain ⟨ents, hE, hents⟩ : ∃ ents : Array MapEntry, Entries (VR w (Ok H ρ w) ρ) es ents ∧
              (Instr.lookup t a kv co).run P w = ((do
                Instr.checkKey ents.isEmpty 10000 kt kv
                let (v, ok) ← match ← Instr.findKey kt kv ents.toList with
                  | some (_, v) => pure (v, true)
                  | none => pure (← zeroValue et, false)
                pure (if co then .tuple #[v, .bool ok] else v) : Sem Value)).run P w := by
            cases x with
            | nm =>
              injection hes with hes
              subst hes
              cases ha
              refine ⟨#[], ⟨rfl, fun j k v e h1 => by simp at h1⟩, ?_⟩
              unfold Instr.lookup
              rw [Sem.run_bind, run_under_t w ht]
              rfl
            | m r =>
              dsimp only at hes
              split at hes
              · rename_i es' kt' hr
                injection hes with hes
                subst hes
                cases ha with
                | @m _ b dd hρ =>
                  obtain ⟨o, ho, _, ents, clock, rfl, hE⟩ := h.is r _ b dd hr hρ
                  refine ⟨ents, hE, ?_⟩
                  unfold Instr.lookup
                  rw [Sem.run_bind, run_under_t w ht]
                  simp only [Result.andThen_ok, Sem.run_bind, getObj, Sem.run, ho]
                  rfl
              · cases hes
            | _ => cases hes
          rw [hents, Sem.run_bind, checkKey_run hd hok hks 9999]
          simp only [Result.andThen_ok]
          rcases findNow_run (R := VR w (Ok H ρ w) ρ) (fun x v v' hx hv => vr_scal hx hv) (d := d) hks es ents.toList 0 hok (by simpa using hE.1) (fun j a b e h1 h2 => hE.2 j a b e h1 (by rw [← Array.getElem?_toList]; exact h2)) with ⟨h1, h2⟩ | ⟨j, b, e, h1, h2, h3, h4, h5, h6⟩
          · have hg : mget es k = none := by
              unfold mat at h1
              unfold mget
              rw [List.findIdx?_eq_none_iff] at h1
              rw [List.find?_eq_none.2 (fun x hx => by simp [h1 x hx])]
              rfl
            rw [hg] at hl
            rw [Sem.run_bind, findKey_run hd h2]
            simp only [Result.andThen_ok, Sem.run_bind, run_zero_t w hz, Sem.run_pure]
            injection hl with hl
            subst hl
            cases co with
            | true => exact ⟨_, rfl, vr_pair (vr_ofV z) (.b _)⟩
            | false => exact ⟨_, rfl, vr_ofV z⟩
          · rw [h2] at hl
            rw [Sem.run_bind, findKey_run hd h6]
            simp only [Result.andThen_ok, Sem.run_bind, Sem.run_pure]
            injection hl with hl
            subst hl
            cases co with
            | true => exact ⟨_, rfl, vr_pair h5 (.b _)⟩
            | false => exact ⟨_, rfl, h5⟩
        · cases hl
      · cases hl
    · cases hl
  · cases hl
end Go.Lw
/- The local walk: memory that is made and written. -/
namespace Go.Lw
open Go Go.RowKit

theorem setCells_row' {g : Nat} {e : TypeId} {fr : Nat × Nat} : ∀ (vs : List Value) (o : Nat) (w : World) (cur : Array Value), w.heap[g]? = some (.cells cur e fr) → o + vs.length ≤ cur.size →
    ∃ cur', (w.setCells g o vs).heap[g]? = some (.cells cur' e fr) ∧ cur'.size = cur.size ∧ (∀ k, k < o ∨ o + vs.length ≤ k → cur'[k]? = cur[k]?) ∧ (∀ k, k < vs.length → cur'[o + k]? = vs[k]?)
  | [], o, w, cur, h, _ => ⟨cur, h, rfl, fun _ _ => rfl, fun k hk => by simp at hk⟩
  | v :: r, o, w, cur, h, hl => by
    simp only [List.length_cons] at hl
    have h2 : (w.setCell ⟨g, o, none⟩ v).heap[g]? = some (.cells (cur.setIfInBounds o v) e fr) := by simp [World.setCell, Array.getElem?_modify, h]
    obtain ⟨cur', h3, h4, h5, h6⟩ := setCells_row' r (o + 1) (w.setCell ⟨g, o, none⟩ v) _ h2 (by simp; omega)
    refine ⟨cur', h3, by rw [h4]; simp, fun k hk => ?_, fun k hk => ?_⟩
    · simp only [List.length_cons] at hk
      rw [h5 k (by omega), Array.getElem?_setIfInBounds_ne (by omega)]
    · cases k with
      | zero =>
        have ho : o < cur.size := by omega
        rw [Nat.add_zero, h5 o (by omega)]
        simp [Array.getElem?_setIfInBounds_self, ho]
      | succ k =>
        simp only [List.length_cons] at hk
        rw [show o + (k + 1) = o + 1 + k by omega, h6 k (by omega)]
        simp

theorem setCells_far' {g : Nat} : ∀ (vs : List Value) (o : Nat) {w : World} (k : Nat), k ≠ g → (w.setCells g o vs).heap[k]? = w.heap[k]?
  | [], _, _, _, _ => rfl
  | v :: r, o, w, k, hk => by
    rw [World.setCells, setCells_far' r (o + 1) k hk]
    exact Below.heap_setCell w ⟨g, o, none⟩ v k hk
theorem setCells_same' (g : Nat) : ∀ (vs : List Value) (o : Nat) (w : World), (w.setCells g o vs).os = w.os ∧ (w.setCells g o vs).tape = w.tape ∧ (w.setCells g o vs).output = w.output ∧ (w.setCells g o vs).heap.size = w.heap.size
  | [], _, _ => ⟨rfl, rfl, rfl, rfl⟩
  | v :: r, o, w => by
    obtain ⟨h1, h2, h3, h4⟩ := setCells_same' g r (o + 1) (w.setCell ⟨g, o, none⟩ v)
    rw [World.setCells]
    exact ⟨h1, h2, h3, by rw [h4]; simp [World.setCell]⟩

theorem below_setCells {B : Nat} {a w : World} (h : Below B a w) {g : Nat} (hg : B ≤ g) (vs : List Value) (o : Nat) : Below B a (w.setCells g o vs) := by
  obtain ⟨h1, h2, h3, h4⟩ := setCells_same' g vs o w
  exact h.trans ⟨h1, h2, h3, Nat.le_of_eq h4.symm, fun k hk => setCells_far' vs o k (by omega)⟩

/-- Is a value known? -/
def V.known : V → Bool
  | .u => false
  | _ => true

theorem vr_cells {w : World} {ok : Nat → Prop} {ρ : List (Nat × Nat)} {x : V} {v : Value} (h : VR w ok ρ x v) (hk : x.known = true) :
    v.cells.size = x.cells.length ∧ ∀ (q : Nat) (y : V) (u : Value), x.cells[q]? = some y → v.cells[q]? = some u → VR w ok ρ y u := by
  have one : ∀ {x : V} {v : Value}, VR w ok ρ x v → x.cells = [x] → v.cells = #[v] → v.cells.size = x.cells.length ∧ ∀ (q : Nat) (y : V) (u : Value), x.cells[q]? = some y → v.cells[q]? = some u → VR w ok ρ y u := by
    intro x v h h1 h2
    rw [h1, h2]
    refine ⟨rfl, fun q y u h3 h4 => ?_⟩
    cases q with
    | zero =>
      simp at h3 h4
      subst h3 h4
      exact h
    | succ q => simp at h3
  cases h with
  | u v => cases hk
  | a hl h => exact ⟨hl, h⟩
  | b x => exact one (.b x) rfl rfl
  | i k n => exact one (.i k n) rfl rfl
  | s x => exact one (.s x) rfl rfl
  | sl vals hc hz hok hcell hv => exact one (.sl vals hc hz hok hcell hv) rfl rfl
  | sl0 => exact one .sl0 rfl rfl
  | nsl => exact one .nsl rfl rfl
  | own hr hn hc hx hs => exact one (.own hr hn hc hx hs) rfl rfl
  | own0 ad hr ha => exact one (.own0 ad hr ha) rfl rfl
  | p hr => exact one (.p hr) rfl rfl
  | ep vals hok hcell hv => exact one (.ep vals hok hcell hv) rfl rfl
  | np => exact one .np rfl rfl
  | m hr => exact one (.m hr) rfl rfl
  | nm => exact one .nm rfl rfl
  | f hf hc h1 h2 => exact one (.f hf hc h1 h2) rfl rfl
  | nf => exact one .nf rfl rfl
  | it h => exact one (.it h) rfl rfl
  | ni => exact one .ni rfl rfl
  | t hl h => exact one (.t hl h) rfl rfl
  | y hr => exact one (.y hr) rfl rfl

theorem vr_one {w : World} {ok : Nat → Prop} {ρ : List (Nat × Nat)} {x : V} {v : Value} (h : VR w ok ρ x v) (hk : x.one = true) : v.oneCell' = true := by
  cases h <;> first | rfl | cases hk

/-- Cells written into others. -/
def put (cs : List V) (o : Nat) (xs : List V) : List V := cs.take o ++ xs ++ cs.drop (o + xs.length)

theorem put_get {cs xs : List V} {o k : Nat} (h : o + xs.length ≤ cs.length) : (put cs o xs)[k]? = if k < o then cs[k]? else if k < o + xs.length then xs[k - o]? else cs[k]? := by
  unfold put
  split
  · rename_i hk
    rw [List.append_assoc, List.getElem?_append_left (by simp; omega), List.getElem?_take_of_lt hk]
  · rename_i hk
    split
    · rename_i hk2
      rw [List.append_assoc, List.getElem?_append_right (by simp; omega), List.getElem?_append_left (by simp; omega)]
      congr 1
      simp
      omega
    · rename_i hk2
      rw [List.getElem?_append_right (by simp; omega), List.getElem?_drop]
      congr 1
      simp
      omega
theorem put_length {cs xs : List V} {o : Nat} (h : o + xs.length ≤ cs.length) : (put cs o xs).length = cs.length := by
  unfold put
  simp
  omega

section
variable {P : Program} {G : List (Nat × List V)} {w0 w : World} {H : List LB} {ρ : List (Nat × Nat)}

/-- Cells of a block of one's own are written. -/
theorem RelH.write (h : RelH G w0 H ρ w) {r b d o : Nat} {cs xs : List V} {e : TypeId} (hr : H[r]? = some (.c cs e true)) (hρ : ρ[r]? = some (b, d)) (hle : o + xs.length ≤ cs.length)
    {vs : List Value} (hl : vs.length = xs.length) (hv : ∀ (q : Nat) (y : V) (u : Value), xs[q]? = some y → vs[q]? = some u → VR w (Ok H ρ w) ρ y u) (h1 : ∀ v ∈ vs, v.oneCell' = true) :
    (storeCells ⟨b, d + o, none⟩ vs).run P w = .ok () (w.setCells b (d + o) vs) ∧ RelH G w0 (H.set r (.c (put cs o xs) e true)) ρ (w.setCells b (d + o) vs) ∧
      Ext H ρ w (H.set r (.c (put cs o xs) e true)) ρ (w.setCells b (d + o) vs) := by
  obtain ⟨ob, hob, arr, fr, rfl, hfr, hc⟩ := h.is r _ b d hr hρ
  have hsz : ∀ k, k < cs.length → d + k < arr.size := fun k hk => by
    obtain ⟨v, h2, _⟩ := hc k cs[k] (List.getElem?_eq_getElem hk)
    exact (Array.getElem?_eq_some_iff.1 h2).1
  have hsz' : vs = [] ∨ d + o + vs.length ≤ arr.size := by
    rcases Nat.eq_zero_or_pos vs.length with h0 | h0
    · exact .inl (List.eq_nil_of_length_eq_zero h0)
    · have := hsz (o + vs.length - 1) (by omega)
      exact .inr (by omega)
  have hbase := h.blk r _ b d hr hρ rfl
  have hst : (storeCells ⟨b, d + o, none⟩ vs).run P w = .ok () (w.setCells b (d + o) vs) := by
    have := run_storeCells_cells (P := P) b (d + o) vs 0 w (fun j hj => by
        have := hsz (o + j) (by omega)
        have hj2 : d + o + 0 + j < arr.size := by omega
        simp [World.cell?, hob]
        omega) (fun j hj => by
        have := hsz (o + j) (by omega)
        simp [World.frozen?, hob]
        intro h3
        rcases hfr with h4 | h4 <;> omega) h1
    simpa using this
  have hheap : ∃ cur', (w.setCells b (d + o) vs).heap[b]? = some (.cells cur' e fr) ∧ cur'.size = arr.size ∧ (∀ k, k < d + o ∨ d + o + vs.length ≤ k → cur'[k]? = arr[k]?) ∧ (∀ k, k < vs.length → cur'[d + o + k]? = vs[k]?) := by
    rcases hsz' with h0 | h0
    · subst h0
      exact ⟨arr, hob, rfl, fun _ _ => rfl, fun k hk => by simp at hk⟩
    · exact setCells_row' vs (d + o) w arr hob h0
  obtain ⟨cur', h3, h4, h5, h6⟩ := hheap
  have hsame := setCells_same' b vs (d + o) w
  have hbb : ∀ (arr1 : Array Value) (e1 : TypeId) (fr1 : Nat × Nat), w.heap[b]? = some (Obj.cells arr1 e1 fr1) → ∃ (arr' : Array Value) (fr' : Nat × Nat), (w.setCells b (d + o) vs).heap[b]? = some (Obj.cells arr' e1 fr') ∧ arr'.size = arr1.size := by
    intro arr1 e1 fr1 h7
    rw [hob] at h7
    injection h7 with h7
    injection h7 with h8 h9 h10
    subst h8 h9
    exact ⟨cur', fr, h3, h4⟩
  refine ⟨hst, ?_, Ext.turn h hr hρ rfl rfl hsame.2.2.2 (fun k hk => setCells_far' vs (d + o) k hk) hbb⟩
  refine h.turn hr hρ rfl rfl (below_setCells h.bel hbase vs (d + o)) hsame.2.2.2 (fun k hk => setCells_far' vs (d + o) k hk) hbb _ h3 ⟨cur', fr, rfl, by rw [h4]; exact hfr, fun k y hk => ?_⟩
  rw [put_get hle] at hk
  split at hk
  · rename_i hko
    obtain ⟨v, h7, h8⟩ := hc k y hk
    exact ⟨v, by rw [h5 (d + k) (by omega)]; exact h7, h8⟩
  · split at hk
    · rename_i hko hk2
      have hkl : k - o < vs.length := by omega
      refine ⟨vs[k - o], ?_, hv (k - o) y _ hk (List.getElem?_eq_getElem hkl)⟩
      have := h6 (k - o) hkl
      rw [show d + o + (k - o) = d + k by omega] at this
      rw [this]
      exact List.getElem?_eq_getElem hkl
    · obtain ⟨v, h7, h8⟩ := hc k y hk
      exact ⟨v, by rw [h5 (d + k) (by omega)]; exact h7, h8⟩

/-- A store. -/
def lstore (P : Program) (H : List LB) (ty : TypeId) (a x : V) : Option (List LB) :=
  match a with
  | .p r o => match H[r]? with
    | some (.c cs e true) => match tsz P ty with
      | some z => if x.known = true ∧ x.cells.length = z ∧ o + z ≤ cs.length ∧ x.cells.all V.one = true then some (H.set r (.c (put cs o x.cells) e true)) else none
      | none => none
    | _ => none
  | _ => none

theorem lstore_run (h : RelH G w0 H ρ w) {ty : TypeId} {a x : V} {H' : List LB} (hl : lstore P H ty a x = some H') {va vx : Value} (ha : VR w (Ok H ρ w) ρ a va) (hx : VR w (Ok H ρ w) ρ x vx) :
    ∃ w', (Instr.storeAt ty va vx).run P w = .ok () w' ∧ RelH G w0 H' ρ w' ∧ Ext H ρ w H' ρ w' := by
  unfold lstore at hl
  split at hl
  · rename_i r o
    split at hl
    · rename_i cs e hr
      split at hl
      · rename_i z hz
        split at hl
        · rename_i hc
          obtain ⟨hk, hlen, hle, hone⟩ := hc
          injection hl with hl
          subst hl
          cases ha with
          | @p _ _ b d hρ =>
            obtain ⟨hs, hcv⟩ := vr_cells hx hk
            obtain ⟨h1, h2, h3⟩ := h.write (P := P) hr hρ (o := o) (xs := x.cells) (by omega) (vs := vx.cells.toList) (by simpa using hs) (fun q y u h1 h2 => hcv q y u h1 (by rw [← Array.getElem?_toList]; exact h2)) (fun v hv => by
              obtain ⟨q, hq, rfl⟩ := List.getElem_of_mem hv
              have hq2 : q < x.cells.length := by rw [← hs]; simpa using hq
              have hq3 : q < vx.cells.size := by simpa using hq
              rw [Array.getElem_toList]
              exact vr_one (hcv q _ _ (List.getElem?_eq_getElem hq2) (Array.getElem?_eq_getElem hq3)) (List.all_eq_true.1 hone _ (List.getElem_mem hq2)))
            refine ⟨_, ?_, h2, h3⟩
            have hsz : vx.cells.size = z := by omega
            simp [Instr.storeAt, Instr.sureAddr, storeVar, run_sizeOf_t w hz, hsz, h1]
        · cases hl
      · cases hl
    · cases hl
  · cases hl

/-- A new block of cells. -/
theorem RelH.row (h : RelH G w0 H ρ w) {xs : List V} {cells : Array Value} {e : TypeId} (hv : ∀ (q : Nat) (y : V), xs[q]? = some y → ∃ u, cells[q]? = some u ∧ VR w (Ok H ρ w) ρ y u) :
    (newRow e cells).run P w = .ok ⟨w.heap.size, 0, none⟩ (w.alloc (.cells cells e)) ∧ RelH G w0 (H ++ [.c xs e true]) (ρ ++ [(w.heap.size, 0)]) (w.alloc (.cells cells e)) ∧
      Ext H ρ w (H ++ [.c xs e true]) (ρ ++ [(w.heap.size, 0)]) (w.alloc (.cells cells e)) ∧ (ρ ++ [(w.heap.size, 0)])[H.length]? = some (w.heap.size, 0) := by
  refine ⟨by simp [newRow], h.alloc _ rfl _ ⟨cells, (0, 0), rfl, .inl (Nat.le_refl 0), fun k y hk => by rw [Nat.zero_add]; exact hv k y hk⟩, Ext.alloc h _ _, by rw [← h.len]; simp⟩

/-- A new variable. -/
def lnew (H : List LB) (e : TypeId) (x : V) : Option (V × List LB) := if x.known then some (.p H.length 0, H ++ [.c x.cells e true]) else none

theorem lnew_run (h : RelH G w0 H ρ w) {e : TypeId} {x v : V} {H' : List LB} (hl : lnew H e x = some (v, H')) {vx : Value} (hx : VR w (Ok H ρ w) ρ x vx) :
    ∃ ad w' ρ', (newVar e vx).run P w = .ok ad w' ∧ RelH G w0 H' ρ' w' ∧ Ext H ρ w H' ρ' w' ∧ VR w' (Ok H' ρ' w') ρ' v (.pointer (some ad)) := by
  unfold lnew at hl
  split at hl
  · rename_i hk
    injection hl with hl
    injection hl with h1 h2
    subst h1 h2
    obtain ⟨hs, hcv⟩ := vr_cells hx hk
    obtain ⟨a1, a2, a3, a4⟩ := h.row (P := P) (xs := x.cells) (cells := vx.cells) (e := e) (fun q y hq => by
      have hq2 : q < vx.cells.size := by rw [hs]; exact (List.getElem?_eq_some_iff.1 hq).1
      exact ⟨vx.cells[q], Array.getElem?_eq_getElem hq2, hcv q y _ hq (Array.getElem?_eq_getElem hq2)⟩)
    exact ⟨_, _, _, a1, a2, a3, .p a4⟩
  · cases hl

/-- Parts laid into cells. -/
def lfill (place : Nat → Option (Nat × Nat)) (cs : List V) : List (Nat × V) → Option (List V)
  | [] => some cs
  | (i, x) :: rest => match place i with
    | some (off, size) => if x.known = true ∧ x.cells.length = size ∧ off + size ≤ cs.length then lfill place (put cs off x.cells) rest else none
    | none => none

theorem foldl_set (vs : List Value) : ∀ (off : Nat) (arr : Array Value), off + vs.length ≤ arr.size →
    ((vs.zipIdx.foldl (fun cs (c, j) => cs.setIfInBounds (off + j) c) arr).size = arr.size ∧
     ∀ k, (vs.zipIdx.foldl (fun (cs : Array Value) (cj : Value × Nat) => cs.setIfInBounds (off + cj.2) cj.1) arr)[k]? = if k < off then arr[k]? else if k < off + vs.length then vs[k - off]? else arr[k]?) := by
  suffices hs : ∀ (vs : List Value) (n off : Nat) (arr : Array Value), off + n + vs.length ≤ arr.size →
    ((vs.zipIdx n).foldl (fun (cs : Array Value) (cj : Value × Nat) => cs.setIfInBounds (off + cj.2) cj.1) arr).size = arr.size ∧
     ∀ k, ((vs.zipIdx n).foldl (fun (cs : Array Value) (cj : Value × Nat) => cs.setIfInBounds (off + cj.2) cj.1) arr)[k]? = if k < off + n then arr[k]? else if k < off + n + vs.length then vs[k - (off + n)]? else arr[k]? by
    intro off arr h
    have := hs vs 0 off arr (by simpa using h)
    simpa using this
  intro vs
  induction vs with
  | nil =>
    intro n off arr h
    refine ⟨rfl, fun k => ?_⟩
    simp
    intro h1 h2
    omega
  | cons v vs ih =>
    intro n off arr h
    simp only [List.length_cons] at h
    rw [List.zipIdx_cons, List.foldl_cons]
    obtain ⟨h1, h2⟩ := ih (n + 1) off (arr.setIfInBounds (off + n) v) (by simp; omega)
    refine ⟨by rw [h1]; simp, fun k => ?_⟩
    rw [h2 k]
    simp only [List.length_cons]
    by_cases hk : k < off + n
    · rw [if_pos (by omega), if_pos hk, Array.getElem?_setIfInBounds_ne (by omega)]
    · rw [if_neg hk]
      by_cases hk2 : k = off + n
      · subst hk2
        rw [if_pos (by omega), if_pos (by omega)]
        have : off + n < arr.size := by omega
        simp [Array.getElem?_setIfInBounds_self, this]
      · rw [if_neg (by omega)]
        by_cases hk3 : k < off + n + (vs.length + 1)
        · rw [if_pos (by omega), if_pos hk3, show k - (off + n) = (k - (off + (n + 1))) + 1 by omega]
          simp
        · rw [if_neg (by omega), if_neg hk3, Array.getElem?_setIfInBounds_ne (by omega)]

theorem lfill_run {ok : Nat → Prop} {place : Nat → Option (Nat × Nat)} : ∀ (ps : List (Nat × V)) (vps : List (Nat × Value)) (cs : List V) (arr : Array Value) (cs' : List V), lfill place cs ps = some cs' →
    vps.length = ps.length → (∀ (j : Nat) i x i' v, ps[j]? = some (i, x) → vps[j]? = some (i', v) → i' = i ∧ VR w ok ρ x v) → arr.size = cs.length →
    (∀ (k : Nat) y u, cs[k]? = some y → arr[k]? = some u → VR w ok ρ y u) →
    ∃ arr', Instr.fill place arr vps = some arr' ∧ arr'.size = cs'.length ∧ ∀ (k : Nat) y u, cs'[k]? = some y → arr'[k]? = some u → VR w ok ρ y u := by
  intro ps
  induction ps with
  | nil =>
    intro vps cs arr cs' h hl _ hs hv
    obtain rfl : vps = [] := List.eq_nil_of_length_eq_zero hl
    injection h with h
    subst h
    exact ⟨arr, rfl, hs, hv⟩
  | cons p ps ih =>
    intro vps cs arr cs' h hl hp hs hv
    obtain ⟨i, x⟩ := p
    cases vps with
    | nil => simp at hl
    | cons vp vps =>
    obtain ⟨i', v⟩ := vp
    obtain ⟨rfl, hxv⟩ := hp 0 i x i' v rfl rfl
    unfold lfill at h
    split at h
    · rename_i off size hpl
      split at h
      · rename_i hc
        obtain ⟨hk, hlen, hle⟩ := hc
        obtain ⟨hcs, hcv⟩ := vr_cells hxv hk
        have hfold := foldl_set v.cells.toList off arr (by simp; omega)
        have hput := put_length (cs := cs) (xs := x.cells) (o := off) (by omega)
        obtain ⟨arr', h1, h2, h3⟩ := ih vps (put cs off x.cells) (v.cells.zipIdx.foldl (fun cs (c, j) => cs.setIfInBounds (off + j) c) arr) cs' h (by simpa using hl)
          (fun j a b c d h1 h2 => hp (j + 1) a b c d h1 h2) (by
            rw [hput]
            have := hfold.1
            rw [← Array.foldl_toList, Array.toList_zipIdx]
            rw [this]
            exact hs) (fun k y u h1 h2 => by
            rw [← Array.foldl_toList, Array.toList_zipIdx] at h2
            have h2' : (v.cells.toList.zipIdx.foldl (fun (cs : Array Value) (cj : Value × Nat) => cs.setIfInBounds (off + cj.2) cj.1) arr)[k]? = some u := h2
            rw [hfold.2 k] at h2'
            rw [put_get (by omega)] at h1
            split at h1
            · rename_i hk1
              rw [if_pos hk1] at h2'
              exact hv k y u h1 h2'
            · rename_i hk1
              rw [if_neg hk1] at h2'
              split at h1
              · rename_i hk2
                rw [if_pos (by simp; omega)] at h2'
                exact hcv _ y u h1 (by rw [← Array.getElem?_toList]; exact h2')
              · rename_i hk2
                rw [if_neg (by simp; omega)] at h2'
                exact hv k y u h1 h2')
        refine ⟨arr', ?_, h2, h3⟩
        unfold Instr.fill
        rw [hpl]
        dsimp only
        rw [if_neg (by simp; omega)]
        exact h1
      · cases h
    · cases h
end
end Go.Lw
