/- The local walk: calls, regions, statements. -/
import Derived.Test.YtopmghfjdpdncaaDoorL10
import Derived.RangeFuncRecord
set_option linter.unusedSimpArgs false
set_option linter.unusedVariables false
namespace Go.Lw
open Go Go.RowKit

/-- The fence of an activation (none) or of a round of a range over a function. -/
def Fw : Option Nat → Fence
  | none => Fence.wide
  | some l => Fence.wide.inRound l

theorem Fw_fn (rd : Option Nat) (f : FuncId) : (Fw rd).fn f := by cases rd <;> trivial
theorem Fw_depth (rd : Option Nat) : (Fw rd).depth.isSome = true → 1 ≤ 0 := by cases rd <;> (intro h; cases h)
theorem Fw_round (rd : Option Nat) : (Fw rd).round = rd := by cases rd <;> rfl
theorem Fw_calls {rd : Option Nat} {n : Nat} {P : Program} {f : FuncId} {args : Array Value} {w : World} {R : Ending → World → Prop} (h : Calls P f args w R) : CallsIn (Fw rd) n P f args w R := by
  cases rd with
  | none => exact callsIn_wide.2 h
  | some l => exact CallsIn.inRound l (callsIn_wide.2 h)

/-- Does a function stand there with a body of its own? -/
def ent (P : Program) (f : FuncId) : Bool :=
  match P.funcs[f]? with
  | some fn => !(fn.name == "runtime.NumGoroutine") && !fn.body.isNone
  | none => false

theorem run_enter {P : Program} {f : FuncId} (h : ent P f = true) (args : Array Value) (w : World) : (callFunc f args).run P w = .ok (.enter f args) w := by
  unfold ent at h
  split at h
  · rename_i fn hf
    simp only [Bool.and_eq_true, Bool.not_eq_true'] at h
    have hp : (Sem.run P program w : Result Program) = .ok P w := rfl
    unfold callFunc
    rw [Sem.run_bind, hp]
    show Sem.run P (match P.funcs[f]? with | none => _ | some fn => _) w = _
    rw [hf]
    dsimp only
    rw [if_neg (by rw [h.1]; simp), if_neg (by rw [h.2]; simp)]
    rfl
  · cases h

/-- The arguments of a call. -/
def ArgsR (w : World) (ok : Nat → Prop) (ρ : List (Nat × Nat)) (args : List V) (vals : Array Value) : Prop :=
  vals.size = args.length ∧ ∀ (j : Nat) (x : V) (v : Value), args[j]? = some x → vals[j]? = some v → VR w ok ρ x v

/-- What a call of a function comes to. -/
def LC (P : Program) (G : List (Nat × List V)) (f : FuncId) (args : List V) (H : List LB) (R : V → List LB → Prop) : Prop :=
  ent P f = true ∧ ∀ (w0 : World) (ρ : List (Nat × Nat)) (w : World) (vals : Array Value), RelH G w0 H ρ w → ArgsR w (Ok H ρ w) ρ args vals →
    Calls P f vals w fun e w' => ∃ v val H' ρ', e = .returned val ∧ RelH G w0 H' ρ' w' ∧ Ext H ρ w H' ρ' w' ∧ VR w' (Ok H' ρ' w') ρ' v val ∧ R v H'

theorem LC.mono {P : Program} {G : List (Nat × List V)} {f : FuncId} {args : List V} {H : List LB} {R R' : V → List LB → Prop} (h : LC P G f args H R) (hr : ∀ v H', R v H' → R' v H') : LC P G f args H R' :=
  ⟨h.1, fun w0 ρ w vals h1 h2 => (callsIn_wide (n := 0)).1 (((callsIn_wide (n := 0)).2 (h.2 w0 ρ w vals h1 h2)).mono fun _ _ ⟨v, val, H', ρ', e1, e2, e3, e4, e5⟩ => ⟨v, val, H', ρ', e1, e2, e3, e4, hr _ _ e5⟩)⟩

/-- The deferred calls are marks alone, of blocks that hold none. -/
def Dfr (N : Nat) (H : List LB) (ρ : List (Nat × Nat)) (w : World) (ds : List Deferred) : Prop :=
  N ≤ w.heap.size ∧ ds.Nodup ∧ ∀ d ∈ ds, ∃ b, d = { target := .collected b, args := #[] } ∧ N ≤ b ∧ Ok H ρ w b ∧ w.heap[b]? = some (.deferred (some []))

theorem Dfr.nil {N : Nat} {H : List LB} {ρ : List (Nat × Nat)} {w : World} (h : N ≤ w.heap.size) : Dfr N H ρ w [] := ⟨h, List.nodup_nil, fun d hd => by simp at hd⟩

theorem Dfr.ext {N : Nat} {H H' : List LB} {ρ ρ' : List (Nat × Nat)} {w w' : World} {ds : List Deferred} (h : Dfr N H ρ w ds) (hx : Ext H ρ w H' ρ' w') : Dfr N H' ρ' w' ds := by
  refine ⟨Nat.le_trans h.1 hx.sw, h.2.1, fun d hd => ?_⟩
  obtain ⟨b, h1, h2, h3, h4⟩ := h.2.2 d hd
  exact ⟨b, h1, h2, hx.ok b h3, by rw [hx.same b h3]; exact h4⟩

/-- Where a walk stands. -/
def Post (N : Nat) (G : List (Nat × List V)) (w0 : World) (H : List LB) (ρ : List (Nat × Nat)) (w : World) (n : Nat) (Q : Exit → St → Prop) (e : Exit) (a' : Act) (w' : World) : Prop :=
  ∃ st' ρ', Q e st' ∧ RelH G w0 st'.H ρ' w' ∧ RelT st'.H ρ' w' n st'.t a'.tmps ∧ Ext H ρ w st'.H ρ' w' ∧ Dfr N st'.H ρ' w' a'.defers

/-- The walk of a piece of code. -/
def LW (P : Program) (G : List (Nat × List V)) (rd : Option Nat) (n : Nat) (c : Code) (st : St) (Q : Exit → St → Prop) : Prop :=
  ∀ (w0 : World) (ρ : List (Nat × Nat)) (w : World) (a : Act) (N : Nat), RelH G w0 st.H ρ w → RelT st.H ρ w n st.t a.tmps → Dfr N st.H ρ w a.defers →
    c.wpIn (Fw rd) 0 P (Post N G w0 st.H ρ w n Q) a w

/-- The temporaries of a round. -/
def putT (n : Nat) (t : Nat → V) (ps : List Tmp) (args : List V) : Nat → V := (ps.zip args).foldl (fun t x => updO n t (some x.1) x.2) t

/-- How a round is left. -/
def roundK (r : Nat) (fn : FuncId) (n : Nat) (t : Nat → V) (ps : Array Tmp) (assign body : Code) (R : V → List LB → Prop) : Exit → St → Prop
  | .normal, s => s.H[r]? = some (.lp fn n t ps assign body .busy none) ∧ R (.b true) (s.H.set r (.lp fn n t ps assign body .ready none))
  | .ret, s => s.H[r]? = some (.lp fn n t ps assign body .busy none) ∧ R (.b false) (s.H.set r (.lp fn n t ps assign body .done (some .ret)))
  | .exit id, s => s.H[r]? = some (.lp fn n t ps assign body .busy none) ∧ R (.b false) (s.H.set r (.lp fn n t ps assign body .done (some (.exit id))))
  | .goto l, s => s.H[r]? = some (.lp fn n t ps assign body .busy none) ∧ R (.b false) (s.H.set r (.lp fn n t ps assign body .done (some (.goto l))))
  | _, _ => False

/-- What a call of yield comes to: a round of the range over a function. -/
def LY (P : Program) (G : List (Nat × List V)) (r : Nat) (args : List V) (H : List LB) (R : V → List LB → Prop) : Prop :=
  ∃ fn n t ps assign body, H[r]? = some (.lp fn n t ps assign body .ready none) ∧ ps.size = args.length ∧ ∀ rd : Nat,
    LW P G (some rd) n assign ⟨putT n t ps.toList args, H⟩ fun e s => e = .normal ∧ s.H[r]? = some (.lp fn n t ps assign body .ready none) ∧
      LW P G (some rd) n body ⟨s.t, s.H.set r (.lp fn n t ps assign body .busy none)⟩ (roundK r fn n t ps assign body R)

/-- Which function an operation calls, upon what. -/
def callOf (G : List (Nat × List V)) (t : Nat → V) (o : Oper) : Option (FuncId × List V) :=
  match o.op with
  | .call c => match c.callee with
    | .value x => match ev G t x with
      | .f (.func f) first caps => some (f, first ++ c.args.toList.map (ev G t) ++ caps)
      | _ => none
    | _ => none
  | _ => none

/-- Which round an operation asks for, upon what. -/
def yieldOf (G : List (Nat × List V)) (t : Nat → V) (o : Oper) : Option (Nat × List V) :=
  match o.op with
  | .call c => match c.callee with
    | .value x => match ev G t x with
      | .y r => some (r, c.args.toList.map (ev G t))
      | _ => none
    | _ => none
  | _ => none

def ldo (P : Program) (G : List (Nat × List V)) (st : St) (o : Oper) (K : V → List LB → Prop) : Prop :=
  match callOf G st.t o with
  | some (f, args) => ∃ R : V → List LB → Prop, LC P G f args st.H R ∧ ∀ v H', R v H' → K v H'
  | none => match leff P G st o with
    | some (v, H') => K v H'
    | none => match yieldOf G st.t o with
      | some (r, args) => ∃ R : V → List LB → Prop, LY P G r args st.H R ∧ ∀ v H', R v H' → K v H'
      | none => False

/-- Is an operation wanted? -/
def lwant (ops : Array Oper) (n : Nat) (t : Nat → V) (o : Oper) : Option Bool :=
  match o.guard with
  | none => some true
  | some (j, want) => match (ops[j]?).bind (·.dst) with
    | none => some false
    | some d => if d < n then (match t d with
      | .b x => some (x == want)
      | .u => none
      | _ => some false) else some false

/-- One operation of a region. -/
def lop (P : Program) (G : List (Nat × List V)) (n : Nat) (ops : Array Oper) (i : Nat) (K : St → Prop) (st : St) : Prop :=
  match ops[i]? with
  | none => K st
  | some o => match lwant ops n st.t o with
    | some true => ldo P G st o fun v H' => K ⟨updO n st.t o.dst v, H'⟩
    | some false => K ⟨updO n st.t o.dst (.t []), st.H⟩
    | none => False

def lops (P : Program) (G : List (Nat × List V)) (n : Nat) (ops : Array Oper) (Q : St → Prop) : List Nat → St → Prop
  | [] => Q
  | i :: l => lop P G n ops i (lops P G n ops Q l)

section
variable {P : Program} {G : List (Nat × List V)} {rd : Option Nat} {n : Nat} {st : St} {Q Q' : Exit → St → Prop}

theorem lwant_run {H : List LB} {ρ : List (Nat × Nat)} {w : World} {ops : Array Oper} {t : Nat → V} {o : Oper} {x : Bool} {a : Act} (ht : RelT H ρ w n t a.tmps) (h : lwant ops n t o = some x) :
    Region.wanted o (yielded ops a.tmps) = x := by
  unfold lwant at h
  unfold Region.wanted
  split at h
  · rename_i hg
    rw [hg]
    injection h with h
  · rename_i j want hg
    rw [hg]
    dsimp only
    split at h
    · rename_i hd
      injection h with h
      subst h
      simp [yielded, hd]
    · rename_i d hd
      split at h
      · rename_i hlt
        have hlt' : d < a.tmps.size := by rw [ht.1]; exact hlt
        have hv := ht.2 d
        have hgd : a.tmps.getD d undef = a.tmps[d] := by simp [Array.getD, hlt']
        rw [hgd] at hv
        have hy : yielded ops a.tmps j = match a.tmps[d] with | .bool b => some b | _ => none := by
          unfold yielded
          rw [hd]
          simp only [Option.bind_some, Array.getElem?_eq_getElem hlt']
          cases a.tmps[d] <;> rfl
        rw [hy]
        generalize a.tmps[d] = val at hv
        generalize t d = x at h hv
        cases hv
        case u => cases h
        case b y =>
          dsimp only at h ⊢
          rw [← Option.some.inj h]
          cases y <;> cases want <;> rfl
        all_goals exact Option.some.inj h
      · rename_i hlt
        injection h with h
        subst h
        have : ¬ d < a.tmps.size := by rw [ht.1]; exact hlt
        simp [yielded, hd, this]

theorem relT_defers {H : List LB} {ρ : List (Nat × Nat)} {w : World} {t : Nat → V} {a : Act} (dst : Option Nat) (v : Value) : (a.put dst v).defers = a.defers := by
  cases dst <;> rfl

/-- The continuation of an operation is borne. -/
def Bears (N : Nat) (G : List (Nat × List V)) (w0 : World) (H : List LB) (ρ : List (Nat × Nat)) (w : World) (n : Nat) (K : St → Prop) (K' : Act → World → Prop) : Prop :=
  ∀ st' ρ' w' a', K st' → RelH G w0 st'.H ρ' w' → RelT st'.H ρ' w' n st'.t a'.tmps → Ext H ρ w st'.H ρ' w' → Dfr N st'.H ρ' w' a'.defers → K' a' w'

theorem callOf_run {w0 w : World} {ρ : List (Nat × Nat)} {a : Act} (h : RelH G w0 st.H ρ w) (ht : RelT st.H ρ w n st.t a.tmps) {o : Oper} {f : FuncId} {args : List V} (hc : callOf G st.t o = some (f, args)) :
    ∃ vals, ArgsR w (Ok st.H ρ w) ρ args vals ∧ (execOp a.eval o).run P w = (callFunc f vals).run P w ∧ (∀ c, o.op ≠ .defer c) := by
  obtain ⟨dst, op, type, pos, after, guard⟩ := o
  unfold callOf at hc
  dsimp only at hc
  split at hc <;> try (cases hc; done)
  rename_i c
  split at hc <;> try (cases hc; done)
  rename_i x hx
  split at hc <;> try (cases hc; done)
  rename_i g first caps hev
  injection hc with hc
  injection hc with e1 e2
  subst e1 e2
  have hv := vr_ev h ht x
  rw [hev] at hv
  generalize hval : a.eval x = val at hv
  cases hv with
  | @f _ _ _ fv cv hf hcs h1 h2 =>
    refine ⟨fv ++ c.args.map a.eval ++ cv, ⟨by simp [hf, hcs], fun j y v hj hv => ?_⟩, ?_, fun c h => (by cases h)⟩
    · rw [← Array.getElem?_toList, Array.toList_append, Array.toList_append, List.getElem?_append] at hv
      rw [List.getElem?_append] at hj
      simp only [List.length_append, Array.length_toList, List.length_map, Array.size_map, hf] at hj hv
      split at hj
      · rename_i hlt
        rw [if_pos hlt] at hv
        rw [List.getElem?_append] at hj hv
        simp only [Array.length_toList, hf] at hj hv
        split at hj
        · rename_i hlt2
          rw [if_pos hlt2] at hv
          exact h1 j y v hj (by rw [← Array.getElem?_toList]; exact hv)
        · rename_i hlt2
          rw [if_neg hlt2] at hv
          exact fvr_ev h ht c.args _ y v hj (by rw [← Array.getElem?_toList]; exact hv)
      · rename_i hlt
        rw [if_neg hlt] at hv
        exact h2 _ y v hj (by rw [← Array.getElem?_toList]; exact hv)
    · simp only [execOp, resolve, hx, hval]
      rfl

theorem relT_putT {H : List LB} {ρ : List (Nat × Nat)} {w : World} {m : Nat} : ∀ (ps : List Tmp) (args : List V) (vals : List Value) (t : Nat → V) (tm : Array Value), RelT H ρ w m t tm → vals.length = args.length →
    (∀ (j : Nat) (x : V) (v : Value), args[j]? = some x → vals[j]? = some v → VR w (Ok H ρ w) ρ x v) → RelT H ρ w m (putT m t ps args) ((ps.zip vals).foldl (fun tmps x => tmps.setIfInBounds x.1 x.2) tm) := by
  intro ps
  induction ps with
  | nil => intro args vals t tm h _ _; exact h
  | cons p ps ih =>
    intro args vals t tm h hl hv
    cases args with
    | nil =>
      obtain rfl : vals = [] := List.eq_nil_of_length_eq_zero hl
      exact h
    | cons x args =>
      cases vals with
      | nil => simp at hl
      | cons v vals =>
        have h1 := relT_put (a := { tmps := tm, defers := [] }) h (some p) (hv 0 x v rfl rfl)
        have h2 := ih args vals _ _ h1 (by simpa using hl) (fun j x v hj hj2 => hv (j + 1) x v hj hj2)
        exact h2

/-- A block's object is turned: the record of a range over a function. -/
theorem RelH.record {w0 w : World} {H : List LB} {ρ : List (Nat × Nat)} (h : RelH G w0 H ρ w) {r b d : Nat} {fn m : Nat} {t : Nat → V} {ps : Array Tmp} {assign body : Code} {s : LoopState} {pe : Option Code} (hr : H[r]? = some (.lp fn m t ps assign body s pe)) (hρ : ρ[r]? = some (b, d)) :
    ∃ rec : Loop, w.heap[b]? = some (.loop rec) ∧ rec.fn = fn ∧ rec.params = ps ∧ rec.assign = assign ∧ rec.body = body ∧ rec.state = s ∧ rec.pending = pe ∧ RelT H ρ w m t rec.tmps ∧
      ∀ (s' : LoopState) (pe' : Option Code), RelH G w0 (H.set r (.lp fn m t ps assign body s' pe')) ρ (w.putObj b (.loop { rec with state := s', pending := pe' })) ∧
        Ext H ρ w (H.set r (.lp fn m t ps assign body s' pe')) ρ (w.putObj b (.loop { rec with state := s', pending := pe' })) := by
  obtain ⟨o, ho, hi⟩ := h.is r _ b d hr hρ
  obtain ⟨hd, l, rfl, e1, e2, e3, e4, e5, e6, e7, e8⟩ := hi
  have hlt := (Array.getElem?_eq_some_iff.1 ho).1
  have hT : RelT H ρ w m t l.tmps := ⟨e7, e8⟩
  have hno : ∀ (arr : Array Value) (e : TypeId) (fr : Nat × Nat), w.heap[b]? = some (Obj.cells arr e fr) → False := fun arr e fr hc => by rw [ho] at hc; cases hc
  refine ⟨l, ho, e1, e2, e3, e4, e5, e6, hT, fun s' pe' => ⟨?_, ?_⟩⟩
  · have hB := h.blk r _ b d hr hρ rfl
    exact h.turn hr hρ rfl rfl (h.bel.trans ⟨rfl, rfl, rfl, by simp, fun k hk => World.putObj_heap_other (by omega)⟩) (by simp) (fun k hk => World.putObj_heap_other hk) (fun arr e fr hc => (hno arr e fr hc).elim) _ (World.putObj_heap_same hlt) ⟨hd, _, rfl, e1, e2, e3, e4, rfl, rfl, e7, e8⟩
  · exact Ext.turn h hr hρ rfl rfl (by simp) (fun k hk => World.putObj_heap_other hk) (fun arr e fr hc => (hno arr e fr hc).elim)

theorem Fw_inRound (rd : Option Nat) (l : Nat) : (Fw rd).inRound l = Fw (some l) := by cases rd <;> rfl

theorem ly_run {w0 w : World} {ρ : List (Nat × Nat)} {a : Act} (h : RelH G w0 st.H ρ w) (ht : RelT st.H ρ w n st.t a.tmps) {o : Oper} {r : Nat} {args : List V} (hy : yieldOf G st.t o = some (r, args)) {R : V → List LB → Prop} (hR : LY P G r args st.H R) :
    ∃ (l : Nat) (fn : FuncId) (tm : Array Value) (assign body : Code), (∀ c, o.op ≠ .defer c) ∧ (execOp a.eval o).run P w = .ok (.round l fn tm assign body) w ∧
      ∀ Rw : Ending → World → Prop, (∀ v val w' H' ρ', RelH G w0 H' ρ' w' → Ext st.H ρ w H' ρ' w' → VR w' (Ok H' ρ' w') ρ' v val → R v H' → Rw (.returned val) w') → RoundIn (Fw rd) 0 P l fn tm assign body w Rw := by
  obtain ⟨fn, m, t, ps, assign, body, hr, hps, hL⟩ := hR
  have hrlt := (List.getElem?_eq_some_iff.1 hr).1
  obtain ⟨b, d, hρ⟩ : ∃ b d, ρ[r]? = some (b, d) := ⟨_, _, List.getElem?_eq_getElem (by rw [h.len]; exact hrlt)⟩
  obtain ⟨rec, g1, g2, g3, g4, g5, g6, g7, g8, g9⟩ := h.record hr hρ
  obtain ⟨dst, op, type, pos, after, guard⟩ := o
  unfold yieldOf at hy
  dsimp only at hy
  split at hy <;> try (cases hy; done)
  rename_i c
  split at hy <;> try (cases hy; done)
  rename_i x hx
  split at hy <;> try (cases hy; done)
  rename_i r2 hev
  injection hy with hy
  injection hy with y1 y2
  obtain rfl : r2 = r := y1
  subst y2
  have hv := vr_ev h ht x
  rw [hev] at hv
  generalize hval : a.eval x = val at hv
  cases hv with
  | @y _ b' d' hr' =>
    rw [hρ] at hr'
    injection hr' with hr'
    injection hr' with hb hd
    subst hb hd
    have hsz : (c.args.map a.eval).size = rec.params.size := by rw [g3, hps]; simp
    have hrun := run_yield (P := P) g1 hsz
    refine ⟨b, rec.fn, (rec.params.zip (c.args.map a.eval)).foldl (fun tmps (t, a) => tmps.setIfInBounds t a) rec.tmps, rec.assign, rec.body, fun c h => (by cases h), ?_, fun Rw hRw => ?_⟩
    rotate_left
    · refine roundIn_of_wpIn (Fw_fn rd _) ?_
      rw [Fw_inRound]
      have hT := relT_putT ps.toList (c.args.toList.map (ev G st.t)) (c.args.map a.eval).toList t rec.tmps g8 (by simp) (fun j x v h1 h2 => fvr_ev h ht c.args j x v h1 (by rw [← Array.getElem?_toList]; exact h2))
      have hfold : (ps.toList.zip (c.args.map a.eval).toList).foldl (fun tmps x => tmps.setIfInBounds x.1 x.2) rec.tmps = (rec.params.zip (c.args.map a.eval)).foldl (fun tmps (x : Tmp × Value) => match x with | (t, a) => tmps.setIfInBounds t a) rec.tmps := by
        rw [g3, ← Array.foldl_toList, Array.toList_zip]
      rw [hfold] at hT
      have h1 := hL b w0 ρ w { tmps := _, defers := [] } w.heap.size h hT (Dfr.nil (Nat.le_refl _))
      rw [g4]
      refine wpIn_mono h1 fun e a1 w1 hp => ?_
      obtain ⟨s, ρ1, ⟨rfl, q2, q3⟩, q4, q5, q6, q7⟩ := hp
      obtain ⟨rec1, k1, k2, k3, k4, k5, k6, k7, k8, k9⟩ := q4.record q2 (q6.pl _ _ hρ)
      obtain ⟨m1, m2⟩ := k9 .busy none
      have hbusy : ({ rec1 with state := .busy, pending := none } : Loop) = { rec1 with state := .busy } := by rw [← k7]
      rw [hbusy] at m1 m2
      refine ⟨_, run_beginRound k1 k6, ?_⟩
      rw [g5]
      have h2 := q3 w0 ρ1 _ a1 w.heap.size m1 (m2.relT q5) (q7.ext m2)
      refine wpIn_mono h2 fun e a2 w2 hp2 => ?_
      obtain ⟨s2, ρ2, q8, q9, q10, q11, q12⟩ := hp2
      have fin : ∀ (jump : Option Code), s2.H[r2]? = some (.lp fn m t ps assign body .busy none) → R (.b jump.isNone) (s2.H.set r2 (.lp fn m t ps assign body (if jump.isNone then .ready else .done) jump)) →
          ∃ v w', (Instr.endRound b jump).run P w2 = .ok v w' ∧ Rw (.returned v) w' := fun jump hb2 hR2 => by
        obtain ⟨rec2, n1, n2, n3, n4, n5, n6, n7, n8, n9⟩ := q9.record hb2 (q11.pl _ _ (q6.pl _ _ hρ))
        obtain ⟨m3, m4⟩ := n9 (if jump.isNone then .ready else .done) jump
        exact ⟨_, _, run_endRound jump n1, hRw (.b jump.isNone) _ _ _ _ m3 (((q6.trans m2).trans q11).trans m4) (.b _) hR2⟩
      cases e with
      | normal => exact fin none q8.1 q8.2
      | ret => exact fin (some .ret) q8.1 q8.2
      | exit id => exact fin (some (.exit id)) q8.1 q8.2
      | goto l => exact fin (some (.goto l)) q8.1 q8.2
      | panic ch => exact q8.elim
      | outgrown => exact q8.elim
    · rw [← hrun]
      simp only [execOp, resolve, hx, hval]
      show Sem.run P (Instr.yield b (#[] ++ Array.map a.eval c.args)) w = _
      rw [show (#[] ++ Array.map a.eval c.args : Array Value) = Array.map a.eval c.args by simp]

theorem ldo_run {N : Nat} {w0 w : World} {ρ : List (Nat × Nat)} {a : Act} (h : RelH G w0 st.H ρ w) (ht : RelT st.H ρ w n st.t a.tmps) (hd : Dfr N st.H ρ w a.defers) {o : Oper} {K : V → List LB → Prop} (hl : ldo P G st o K)
    {Kw : Act → World → Prop} {Qw : Exit → Act → World → Prop} (hK : Bears N G w0 st.H ρ w n (fun st' => ∃ v, K v st'.H ∧ st'.t = updO n st.t o.dst v) Kw) : o.wpIn (Fw rd) 0 P a w Kw Qw := by
  refine ⟨fun f _ => Fw_fn rd f, ?_⟩
  unfold ldo at hl
  split at hl
  · rename_i f args hc
    obtain ⟨R, hR, hRK⟩ := hl
    obtain ⟨vals, h1, h2, h3⟩ := callOf_run (P := P) h ht hc
    rw [Oper.semAt_eq _ _ _ h3, h2, run_enter hR.1, Oper.uponIn_enter]
    refine ⟨Fw_depth rd, (Fw_calls (hR.2 w0 ρ w vals h h1)).mono fun e w' he => ?_⟩
    obtain ⟨v, val, H', ρ', rfl, k1, k2, k3, k4⟩ := he
    exact hK ⟨updO n st.t o.dst v, H'⟩ ρ' w' _ ⟨v, hRK _ _ k4, rfl⟩ k1 (relT_put (k2.relT ht) o.dst k3) k2 (by rw [relT_defers (H := H') (ρ := ρ') (w := w') (t := st.t)]; exact hd.ext k2)
  · split at hl
    · rename_i v H' he
      obtain ⟨val, w', ρ', h1, h2, h3, h4⟩ := leff_run (P := P) h ht he
      have hnd : ∀ c, o.op ≠ .defer c := by
        intro c hc
        simp [leff, hc] at he
      rw [Oper.semAt_eq _ _ _ hnd]
      have fin : Kw (a.put o.dst val) w' :=
        hK ⟨updO n st.t o.dst v, H'⟩ ρ' w' _ ⟨v, hl, rfl⟩ h2 (relT_put (h3.relT ht) o.dst h4) h3 (by rw [relT_defers (H := H') (ρ := ρ') (w := w') (t := st.t)]; exact hd.ext h3)
      rcases h1 with h1 | ⟨h1, hu⟩
      · rw [h1, Oper.uponIn_value]
        exact fin
      · rw [h1, Oper.uponIn_skip]
        rw [hu] at fin
        exact fin
    · split at hl
      · rename_i r args hy
        obtain ⟨R, hR, hRK⟩ := hl
        obtain ⟨l, fn, tm, assign, body, e1, e2, e3⟩ := ly_run (rd := rd) h ht hy hR
        rw [Oper.semAt_eq _ _ _ e1, e2, Oper.uponIn_round]
        refine ⟨Fw_depth rd, e3 _ fun v val w' H' ρ' k1 k2 k3 k4 => ?_⟩
        exact hK ⟨updO n st.t o.dst v, H'⟩ ρ' w' _ ⟨v, hRK _ _ k4, rfl⟩ k1 (relT_put (k2.relT ht) o.dst k3) k2 (by rw [relT_defers (H := H') (ρ := ρ') (w := w') (t := st.t)]; exact hd.ext k2)
      · exact hl.elim

theorem lop_run {N : Nat} {w0 w : World} {ρ : List (Nat × Nat)} {a : Act} (h : RelH G w0 st.H ρ w) (ht : RelT st.H ρ w n st.t a.tmps) (hd : Dfr N st.H ρ w a.defers) {ops : Array Oper} {i : Nat} {K : St → Prop} (hl : lop P G n ops i K st)
    {Kw : Act → World → Prop} {Qw : Exit → Act → World → Prop} (hK : Bears N G w0 st.H ρ w n K Kw) : wpOpIn (Fw rd) 0 P ops Qw i Kw a w := by
  unfold lop at hl
  unfold wpOpIn
  split at hl
  · rename_i hi
    rw [hi]
    exact hK st ρ w a hl h ht (Ext.refl _ _ _) hd
  · rename_i o hi
    rw [hi]
    dsimp only
    split at hl
    · rename_i hw
      rw [if_pos (lwant_run ht hw)]
      refine ldo_run h ht hd hl fun st' ρ' w' a' hk h1 h2 h3 h4 => ?_
      obtain ⟨v, hk1, hk2⟩ := hk
      refine hK st' ρ' w' a' ?_ h1 h2 h3 h4
      obtain ⟨t', H'⟩ := st'
      dsimp only at hk1 hk2
      rw [hk2]
      exact hk1
    · rename_i hw
      rw [if_neg (by rw [lwant_run ht hw]; simp)]
      refine ⟨fun f _ => Fw_fn rd f, hK ⟨updO n st.t o.dst (.t []), st.H⟩ ρ w _ hl h (relT_put ht o.dst (.t rfl (fun q y v h1 => by simp at h1))) (Ext.refl _ _ _) (by rw [relT_defers (H := st.H) (ρ := ρ) (w := w) (t := st.t)]; exact hd)⟩
    · exact hl.elim

theorem lops_run {N : Nat} {w0 : World} {ops : Array Oper} {Kq : St → Prop} {Qw : Exit → Act → World → Prop} : ∀ (l : List Nat) (st : St) (ρ : List (Nat × Nat)) (w : World) (a : Act), RelH G w0 st.H ρ w → RelT st.H ρ w n st.t a.tmps → Dfr N st.H ρ w a.defers →
    lops P G n ops Kq l st → Bears N G w0 st.H ρ w n Kq (Qw .normal) → wpOpsIn (Fw rd) 0 P ops Qw l a w := by
  intro l
  induction l with
  | nil =>
    intro st ρ w a h ht hd hl hK
    exact hK st ρ w a hl h ht (Ext.refl _ _ _) hd
  | cons i l ih =>
    intro st ρ w a h ht hd hl hK
    rw [wpOpsIn_cons]
    exact lop_run h ht hd hl fun st' ρ' w' a' hk h1 h2 h3 h4 => ih st' ρ' w' a' h1 h2 h4 hk fun st2 ρ2 w2 a2 k1 k2 k3 k4 k5 => hK st2 ρ2 w2 a2 k1 k2 k3 (h3.trans k4) k5

/-- An exit that goes on. -/
def Thn (K : St → Prop) (Q : Exit → St → Prop) : Exit → St → Prop
  | .normal, s => K s
  | e, s => Q e s

def InB (id : Nat) (Q : Exit → St → Prop) : Exit → St → Prop
  | .exit j, s => if j = id then Q .normal s else Q (.exit j) s
  | e, s => Q e s

theorem Post.mono {N : Nat} {w0 w : World} {H : List LB} {ρ : List (Nat × Nat)} (hq : ∀ e s, Q e s → Q' e s) {e : Exit} {a' : Act} {w' : World} (h : Post N G w0 H ρ w n Q e a' w') : Post N G w0 H ρ w n Q' e a' w' := by
  obtain ⟨s, ρ', h1, h2⟩ := h
  exact ⟨s, ρ', hq _ _ h1, h2⟩

theorem Post.ext {N : Nat} {w0 w w1 : World} {H H1 : List LB} {ρ ρ1 : List (Nat × Nat)} (hx : Ext H ρ w H1 ρ1 w1) {e : Exit} {a' : Act} {w' : World} (h : Post N G w0 H1 ρ1 w1 n Q e a' w') : Post N G w0 H ρ w n Q e a' w' := by
  obtain ⟨s, ρ', h1, h2, h3, h4, h5⟩ := h
  exact ⟨s, ρ', h1, h2, h3, hx.trans h4, h5⟩

theorem LW.mono {c : Code} (h : LW P G rd n c st Q) (hq : ∀ e s, Q e s → Q' e s) : LW P G rd n c st Q' :=
  fun w0 ρ w a N h1 h2 h3 => wpIn_mono (h w0 ρ w a N h1 h2 h3) fun _ _ _ hp => hp.mono hq

theorem Post.here {N : Nat} {w0 w : World} {ρ : List (Nat × Nat)} {a : Act} {e : Exit} (h : RelH G w0 st.H ρ w) (ht : RelT st.H ρ w n st.t a.tmps) (hd : Dfr N st.H ρ w a.defers) (hq : Q e st) : Post N G w0 st.H ρ w n Q e a w :=
  ⟨st, ρ, hq, h, ht, Ext.refl _ _ _, hd⟩

theorem LW.skip (h : Q .normal st) : LW P G rd n .skip st Q := fun _ _ _ _ _ h1 h2 h3 => wpIn_skip (Post.here h1 h2 h3 h)
theorem LW.label {l : Nat} (h : Q .normal st) : LW P G rd n (.label l) st Q := fun _ _ _ _ _ h1 h2 h3 => wpIn_label (Post.here h1 h2 h3 h)
theorem LW.exit {id : Nat} (h : Q (.exit id) st) : LW P G rd n (.exit id) st Q := fun _ _ _ _ _ h1 h2 h3 => wpIn_exit (Post.here h1 h2 h3 h)
theorem LW.goto {l : Nat} (h : Q (.goto l) st) : LW P G rd n (.goto l) st Q := fun _ _ _ _ _ h1 h2 h3 => wpIn_goto (Post.here h1 h2 h3 h)
theorem LW.ret (h : Q .ret st) : LW P G rd n .ret st Q := fun _ _ _ _ _ h1 h2 h3 => wpIn_ret (Post.here h1 h2 h3 h)

theorem LW.seq {x y : Code} (h : LW P G rd n x st (Thn (fun s => LW P G rd n y s Q) Q)) : LW P G rd n (.seq x y) st Q := by
  intro w0 ρ w a N h1 h2 h3
  refine wpIn_seq (wpIn_mono (h w0 ρ w a N h1 h2 h3) fun e a' w' hp => ?_)
  obtain ⟨s, ρ', k1, k2, k3, k4, k5⟩ := hp
  cases e with
  | normal => exact wpIn_mono (k1 w0 ρ' w' a' N k2 k3 k5) fun _ _ _ hq => hq.ext k4
  | exit id => exact ⟨s, ρ', k1, k2, k3, k4, k5⟩
  | goto l => exact ⟨s, ρ', k1, k2, k3, k4, k5⟩
  | ret => exact ⟨s, ρ', k1, k2, k3, k4, k5⟩
  | panic ch => exact ⟨s, ρ', k1, k2, k3, k4, k5⟩
  | outgrown => exact ⟨s, ρ', k1, k2, k3, k4, k5⟩

theorem LW.block {id : Nat} {c : Code} (h : LW P G rd n c st (InB id Q)) : LW P G rd n (.block id c) st Q := by
  intro w0 ρ w a N h1 h2 h3
  refine wpIn_block (wpIn_mono (h w0 ρ w a N h1 h2 h3) fun e a' w' hp => ?_)
  obtain ⟨s, ρ', k1, k2, k3, k4, k5⟩ := hp
  cases e with
  | exit j =>
    show if j = id then Post N G w0 st.H ρ w n Q .normal a' w' else Post N G w0 st.H ρ w n Q (.exit j) a' w'
    replace k1 : if j = id then Q .normal s else Q (.exit j) s := k1
    split
    · rename_i hj
      rw [if_pos hj] at k1
      exact ⟨s, ρ', k1, k2, k3, k4, k5⟩
    · rename_i hj
      rw [if_neg hj] at k1
      exact ⟨s, ρ', k1, k2, k3, k4, k5⟩
  | normal => exact ⟨s, ρ', k1, k2, k3, k4, k5⟩
  | goto l => exact ⟨s, ρ', k1, k2, k3, k4, k5⟩
  | ret => exact ⟨s, ρ', k1, k2, k3, k4, k5⟩
  | panic ch => exact ⟨s, ρ', k1, k2, k3, k4, k5⟩
  | outgrown => exact ⟨s, ρ', k1, k2, k3, k4, k5⟩

theorem LW.cond {c : Operand} {x y : Code} {b : Bool} (hc : ev G st.t c = .b b) (h : LW P G rd n (if b then x else y) st Q) : LW P G rd n (.cond c x y) st Q := by
  intro w0 ρ w a N h1 h2 h3
  have hv := vr_ev h1 h2 c
  rw [hc] at hv
  generalize hval : a.eval c = val at hv
  cases hv
  exact wpIn_cond hval (h w0 ρ w a N h1 h2 h3)

theorem LW.region {id : Nat} {ops : Array Oper} (h : lops P G n ops (fun s => Q .normal s) (List.range ops.size) st) : LW P G rd n (.region id ops false) st Q := by
  intro w0 ρ w a N h1 h2 h3
  refine wpIn_region (lops_run _ st ρ w a h1 h2 h3 h fun st' ρ' w' a' k1 k2 k3 k4 k5 => ⟨st', ρ', k1, k2, k3, k4, k5⟩)

theorem LW.loop {c : Code} (I : St → Prop) (μ : St → Nat) (h₀ : I st) (round : ∀ s, I s → LW P G rd n c s (Thn (fun s' => I s' ∧ μ s' < μ s) Q)) : LW P G rd n (.loop c) st Q := by
  intro w0 ρ w a N h1 h2 h3 b k cs hro hb hr
  have key : ∀ j s ρ1 w1 a1, μ s = j → I s → RelH G w0 s.H ρ1 w1 → RelT s.H ρ1 w1 n s.t a1.tmps → Dfr N s.H ρ1 w1 a1.defers → Ext st.H ρ w s.H ρ1 w1 →
      ∃ e a' w', Post N G w0 st.H ρ w n Q e a' w' ∧ ArrivesIn (Machine.fenced P (Fw rd)) P (lone (b.atR a1 (.code c :: .inLoop c :: k)) cs w1) b k cs e a' w' := by
    intro j
    induction j using Nat.strongRecOn with
    | _ j ih =>
      intro s ρ1 w1 a1 hn hI k1 k2 k3 k4
      obtain ⟨e, a₁, w₁, hq, harr⟩ := round s hI w0 ρ1 w1 a1 N k1 k2 k3 b (.inLoop c :: k) cs hro hb hr
      have out : ∀ (e : Exit), (∀ K, Thn K Q e = Q e) → Post N G w0 s.H ρ1 w1 n (Thn (fun s' => I s' ∧ μ s' < μ s) Q) e a₁ w₁ → Post N G w0 st.H ρ w n Q e a₁ w₁ := by
        intro e he hq
        obtain ⟨s', ρ2, q1, q2, q3, q4, q5⟩ := hq
        rw [he] at q1
        exact ⟨s', ρ2, q1, q2, q3, k4.trans q4, q5⟩
      cases e with
      | normal =>
        obtain ⟨s', ρ2, ⟨hI', hlt⟩, q2, q3, q4, q5⟩ := hq
        obtain ⟨e₂, a₂, w₂, hq₂, harr₂⟩ := ih (μ s') (hn ▸ hlt) s' ρ2 w₁ a₁ rfl hI' q2 q3 q5 (k4.trans q4)
        exact ⟨e₂, a₂, w₂, hq₂, .of_steps (StepsIn.trans harr (.one (fenced_calm hb hr rfl) stepR_inLoop)) harr₂⟩
      | exit id => exact ⟨_, a₁, w₁, out _ (fun _ => rfl) hq, .pass (x := .inLoop c) rfl (fun _ _ => .inl (by simp)) harr⟩
      | goto l => exact ⟨_, a₁, w₁, out _ (fun _ => rfl) hq, .pass (x := .inLoop c) rfl (fun _ _ => .inl (by simp)) harr⟩
      | ret => exact ⟨_, a₁, w₁, out _ (fun _ => rfl) hq, .pass (x := .inLoop c) rfl (fun _ _ => .inl (by simp)) harr⟩
      | panic ch => exact ⟨_, a₁, w₁, out _ (fun _ => rfl) hq, .pass (x := .inLoop c) rfl (fun _ _ => .inl (by simp)) harr⟩
      | outgrown => exact ⟨_, a₁, w₁, out _ (fun _ => rfl) hq, .pass (x := .inLoop c) rfl (fun _ _ => .inl (by simp)) harr⟩
  obtain ⟨e, a', w', hq, harr⟩ := key _ st ρ w a rfl h₀ h1 h2 h3 (Ext.refl _ _ _)
  exact ⟨e, a', w', hq, .of_steps (.one (fenced_calm hb hr rfl) stepR_loop) harr⟩
end
end Go.Lw
/- The local walk: a function is entered and left. -/
namespace Go.Lw
open Go Go.RowKit

/-- A value speaks of the first k blocks alone. -/
inductive V.Lt (k : Nat) : V → Prop
  | u : V.Lt k .u
  | b (x : Bool) : V.Lt k (.b x)
  | i (ki : IntKind) (n : Int) : V.Lt k (.i ki n)
  | s (x : ByteArray) : V.Lt k (.s x)
  | sl {z : Nat} {xs : List V} (h : ∀ (j : Nat) (x : V), xs[j]? = some x → ∀ (q : Nat) (y : V), x.cells[q]? = some y → V.Lt k y) : V.Lt k (.sl z xs)
  | nsl : V.Lt k .nsl
  | own {r o n c x : Nat} (h : r < k) : V.Lt k (.own r o n c x)
  | p {r o : Nat} (h : r < k) : V.Lt k (.p r o)
  | ep {cs : List V} {j : Nat} (h : ∀ (q : Nat) (y : V), cs[q]? = some y → V.Lt k y) : V.Lt k (.ep cs j)
  | np : V.Lt k .np
  | m {r : Nat} (h : r < k) : V.Lt k (.m r)
  | nm : V.Lt k .nm
  | f {fn : Fn} {first caps : List V} (h1 : ∀ (q : Nat) (y : V), first[q]? = some y → V.Lt k y) (h2 : ∀ (q : Nat) (y : V), caps[q]? = some y → V.Lt k y) : V.Lt k (.f fn first caps)
  | nf : V.Lt k .nf
  | it {t : TypeId} {x : V} (h : V.Lt k x) : V.Lt k (.it t x)
  | ni : V.Lt k .ni
  | a {cs : List V} (h : ∀ (q : Nat) (y : V), cs[q]? = some y → V.Lt k y) : V.Lt k (.a cs)
  | t {cs : List V} (h : ∀ (q : Nat) (y : V), cs[q]? = some y → V.Lt k y) : V.Lt k (.t cs)
  | y {r : Nat} (h : r < k) : V.Lt k (.y r)

theorem some_of_size {cs : List V} {cv : Array Value} (hl : cv.size = cs.length) {q : Nat} {y : V} (h : cs[q]? = some y) : ∃ v, cv[q]? = some v := by
  have h1 := (List.getElem?_eq_some_iff.1 h).1
  exact ⟨cv[q]'(by omega), Array.getElem?_eq_getElem _⟩

theorem VR.lt {w : World} {ok : Nat → Prop} {ρ : List (Nat × Nat)} {v : V} {val : Value} (h : VR w ok ρ v val) : V.Lt ρ.length v := by
  induction h with
  | u v => exact .u
  | b x => exact .b x
  | i k n => exact .i k n
  | s x => exact .s x
  | sl vals hc hz ho hcell hv ih => exact .sl ih
  | sl0 => exact .sl (fun j x hj => by simp at hj)
  | nsl => exact .nsl
  | own hr hn hc hx hs => exact .own (List.getElem?_eq_some_iff.1 hr).1
  | own0 ad hr ha => exact .own hr
  | p hr => exact .p (List.getElem?_eq_some_iff.1 hr).1
  | ep vals ho hcell hv ih => exact .ep ih
  | np => exact .np
  | m hr => exact .m (List.getElem?_eq_some_iff.1 hr).1
  | nm => exact .nm
  | f hf hc _ _ ih1 ih2 =>
    exact .f (fun q y hq => let ⟨v, hv⟩ := some_of_size hf hq; ih1 q y v hq hv) (fun q y hq => let ⟨v, hv⟩ := some_of_size hc hq; ih2 q y v hq hv)
  | nf => exact .nf
  | it _ ih => exact .it ih
  | ni => exact .ni
  | a hl _ ih => exact .a (fun q y hq => let ⟨v, hv⟩ := some_of_size hl hq; ih q y v hq hv)
  | t hl _ ih => exact .t (fun q y hq => let ⟨v, hv⟩ := some_of_size hl hq; ih q y v hq hv)
  | y hr => exact .y (List.getElem?_eq_some_iff.1 hr).1

theorem V.Lt.mono {k k' : Nat} (hk : k ≤ k') {v : V} (h : V.Lt k v) : V.Lt k' v := by
  induction h with
  | u => exact .u
  | b x => exact .b x
  | i k n => exact .i k n
  | s x => exact .s x
  | sl _ ih => exact .sl ih
  | nsl => exact .nsl
  | own h => exact .own (by omega)
  | p h => exact .p (by omega)
  | ep _ ih => exact .ep ih
  | np => exact .np
  | m h => exact .m (by omega)
  | nm => exact .nm
  | f _ _ ih1 ih2 => exact .f ih1 ih2
  | nf => exact .nf
  | it _ ih => exact .it ih
  | ni => exact .ni
  | a _ ih => exact .a ih
  | t _ ih => exact .t ih
  | y h => exact .y (by omega)

theorem VR.shrink {w : World} {ok ok' : Nat → Prop} {ρ ρ' : List (Nat × Nat)} {k : Nat} (hok : ∀ b, ok b → ok' b) (hρ : ∀ (r : Nat) x, r < k → ρ[r]? = some x → ρ'[r]? = some x) (hk : k ≤ ρ'.length) {v : V} {val : Value} (h : VR w ok ρ v val) : V.Lt k v → VR w ok' ρ' v val := by
  induction h with
  | u v => exact fun _ => .u v
  | b x => exact fun _ => .b x
  | i k n => exact fun _ => .i k n
  | s x => exact fun _ => .s x
  | sl vals hc hz ho hcell hv ih =>
    intro hl
    cases hl with
    | sl hl => exact .sl vals hc hz (fun e hz => hok _ (ho e hz)) hcell (fun j x hj q y hq => ih j x hj q y hq (hl j x hj q y hq))
  | sl0 => exact fun _ => .sl0
  | nsl => exact fun _ => .nsl
  | own hr hn hc hx hs =>
    intro hl
    cases hl with
    | own h => exact .own (hρ _ _ h hr) hn hc hx hs
  | own0 ad hr ha =>
    intro hl
    cases hl with
    | own h => exact .own0 ad (by omega) ha
  | p hr =>
    intro hl
    cases hl with
    | p h => exact .p (hρ _ _ h hr)
  | ep vals ho hcell hv ih =>
    intro hl
    cases hl with
    | ep hl => exact .ep vals (fun e => hok _ (ho e)) hcell (fun q y hq => ih q y hq (hl q y hq))
  | np => exact fun _ => .np
  | m hr =>
    intro hl
    cases hl with
    | m h => exact .m (hρ _ _ h hr)
  | nm => exact fun _ => .nm
  | f hf hc _ _ ih1 ih2 =>
    intro hl
    cases hl with
    | f l1 l2 => exact .f hf hc (fun q y v h1 h2 => ih1 q y v h1 h2 (l1 q y h1)) (fun q y v h1 h2 => ih2 q y v h1 h2 (l2 q y h1))
  | nf => exact fun _ => .nf
  | it _ ih =>
    intro hl
    cases hl with
    | it h => exact .it (ih h)
  | ni => exact fun _ => .ni
  | a hl _ ih =>
    intro hlt
    cases hlt with
    | a h => exact .a hl (fun q y v h1 h2 => ih q y v h1 h2 (h q y h1))
  | t hl _ ih =>
    intro hlt
    cases hlt with
    | t h => exact .t hl (fun q y v h1 h2 => ih q y v h1 h2 (h q y h1))
  | y hr =>
    intro hl
    cases hl with
    | y h => exact .y (hρ _ _ h hr)

def LB.Lt (k : Nat) : LB → Prop
  | .c cs _ _ => ∀ (q : Nat) (y : V), cs[q]? = some y → V.Lt k y
  | .dead => True
  | .mp es _ => ∀ (j : Nat) (a b : V), es[j]? = some (a, b) → V.Lt k a ∧ V.Lt k b
  | .lp _ _ t _ _ _ _ _ => ∀ j, V.Lt k (t j)

theorem LB.Lt.mono {k k' : Nat} (hk : k ≤ k') {lb : LB} (h : LB.Lt k lb) : LB.Lt k' lb := by
  cases lb with
  | c cs e m => exact fun q y hq => (h q y hq).mono hk
  | dead => trivial
  | mp es kt => exact fun j a b hj => ⟨(h j a b hj).1.mono hk, (h j a b hj).2.mono hk⟩
  | lp => exact fun j => (h j).mono hk

theorem ObjIs.lt {w : World} {ok : Nat → Prop} {ρ : List (Nat × Nat)} {d : Nat} {o : Obj} {lb : LB} (h : ObjIs (VR w ok ρ) d o lb) : LB.Lt ρ.length lb := by
  cases lb with
  | c cs e m =>
    obtain ⟨arr, fr, _, _, hc⟩ := h
    intro q y hq
    obtain ⟨v, _, h2⟩ := hc q y hq
    exact h2.lt
  | dead => trivial
  | mp es kt =>
    obtain ⟨_, ents, clock, _, hs, he⟩ := h
    intro j a b hj
    have hlt := (List.getElem?_eq_some_iff.1 hj).1
    have := he j a b ents[j] hj (Array.getElem?_eq_getElem (by omega))
    exact ⟨this.1.lt, this.2.lt⟩
  | lp fn n t params assign body st =>
    obtain ⟨_, l, _, _, _, _, _, _, _, hn, ht⟩ := h
    intro j
    exact (ht j).lt

theorem RelH.lt {G : List (Nat × List V)} {w0 w : World} {H : List LB} {ρ : List (Nat × Nat)} (h : RelH G w0 H ρ w) {r : Nat} {lb : LB} (hr : H[r]? = some lb) : LB.Lt H.length lb := by
  have hlt := (List.getElem?_eq_some_iff.1 hr).1
  obtain ⟨o, _, h2⟩ := h.is r lb (ρ[r]'(by rw [h.len]; exact hlt)).1 (ρ[r]'(by rw [h.len]; exact hlt)).2 hr (List.getElem?_eq_getElem _)
  rw [← h.len]
  exact h2.lt

theorem RelH.glob_lt {G : List (Nat × List V)} {w0 w : World} {H : List LB} {ρ : List (Nat × Nat)} (h : RelH G w0 H ρ w) {g : Nat} {cs : List V} (hg : (g, cs) ∈ G) : V.Lt H.length (.ep cs 0) := by
  rw [← h.len]
  exact (h.glob g cs hg).2.lt

section
variable {G : List (Nat × List V)} {w0 w : World} {H1 J : List LB} {ρ : List (Nat × Nat)}

theorem ok_drop (h : RelH G w0 (H1 ++ J) ρ w) (b : Nat) (hb : Ok (H1 ++ J) ρ w b) : Ok H1 (ρ.take H1.length) w b := by
  refine ⟨hb.1, fun r lb hr hm d => ?_⟩
  have hlt := (List.getElem?_eq_some_iff.1 hr).1
  rw [List.getElem?_take_of_lt hlt]
  exact hb.2 r lb (by rw [List.getElem?_append_left hlt]; exact hr) hm d

theorem RelH.drop (h : RelH G w0 (H1 ++ J) ρ w) (hl : ∀ (r : Nat) lb, H1[r]? = some lb → LB.Lt H1.length lb) (hg : ∀ g cs, (g, cs) ∈ G → V.Lt H1.length (.ep cs 0)) : RelH G w0 H1 (ρ.take H1.length) w := by
  have hlen : ρ.length = H1.length + J.length := by rw [h.len, List.length_append]
  have up : ∀ {r : Nat} {lb : LB}, H1[r]? = some lb → (H1 ++ J)[r]? = some lb := fun {r lb} hr => by
    rw [List.getElem?_append_left (List.getElem?_eq_some_iff.1 hr).1]
    exact hr
  have upρ : ∀ {r : Nat} {lb : LB} {x : Nat × Nat}, H1[r]? = some lb → (ρ.take H1.length)[r]? = some x → ρ[r]? = some x := fun {r lb x} hr hx => by
    rw [List.getElem?_take_of_lt (List.getElem?_eq_some_iff.1 hr).1] at hx
    exact hx
  have sh : ∀ {v : V} {val : Value}, V.Lt H1.length v → VR w (Ok (H1 ++ J) ρ w) ρ v val → VR w (Ok H1 (ρ.take H1.length) w) (ρ.take H1.length) v val := fun hlt hv =>
    hv.shrink (ok_drop h) (fun r x hr hx => by rw [List.getElem?_take_of_lt hr]; exact hx) (by simp; omega) hlt
  refine ⟨by simp; omega, h.bel, ?_, ?_, ?_, ?_, ?_⟩
  · exact fun r lb b d h1 h2 hm => h.blk r lb b d (up h1) (upρ h1 h2) hm
  · exact fun r r' lb lb' b d d' h1 h2 hm hm' h3 h4 => h.inj r r' lb lb' b d d' (up h1) (up h2) hm hm' (upρ h1 h3) (upρ h2 h4)
  · exact fun r cs e b d h1 h2 => ok_drop h b (h.seal_ r cs e b d (up h1) (upρ h1 h2))
  · intro r lb b d h1 h2
    obtain ⟨o, ho, hi⟩ := h.is r lb b d (up h1) (upρ h1 h2)
    refine ⟨o, ho, ?_⟩
    have hlb := hl r lb h1
    cases lb with
    | c cs e m =>
      obtain ⟨arr, fr, e1, e2, hc⟩ := hi
      refine ⟨arr, fr, e1, e2, fun k y hk => ?_⟩
      obtain ⟨v, e3, e4⟩ := hc k y hk
      exact ⟨v, e3, sh (hlb k y hk) e4⟩
    | dead => trivial
    | mp es kt =>
      obtain ⟨e0, ents, clock, e1, e2, he⟩ := hi
      exact ⟨e0, ents, clock, e1, e2, fun j a b' e hj he' => ⟨sh (hlb j a b' hj).1 (he j a b' e hj he').1, sh (hlb j a b' hj).2 (he j a b' e hj he').2⟩⟩
    | lp fn n t params assign body st pe =>
      obtain ⟨e0, l, e1, e2, e3, e4, e5, e6, e7, hn, ht⟩ := hi
      refine ⟨e0, l, e1, e2, e3, e4, e5, e6, e7, hn, fun j => sh (hlb j) (ht j)⟩
  · exact fun g cs hmem => ⟨(h.glob g cs hmem).1, sh (hg g cs hmem) (h.glob g cs hmem).2⟩
end

/-- A value is told anew, without the blocks from k on: what lies in them is written no more. -/
inductive Pur (H : List LB) (k : Nat) : V → V → Prop
  | lt {v : V} (h : V.Lt k v) : Pur H k v v
  | nsl {z : Nat} : Pur H k .nsl (.sl z [])
  | own {r o n c x z : Nat} {cs : List V} {e : TypeId} {mu : Bool} {xs : List V} (ys : Nat → Nat → V) (hr : H[r]? = some (.c cs e mu)) (hk : k ≤ r) (hn : xs.length = n) (hz : ∀ x ∈ xs, x.cells.length = z)
      (hc : ∀ j q, j < n → q < z → cs[o + (j * z + q)]? = some (ys j q))
      (hp : ∀ (j : Nat) (x : V), xs[j]? = some x → ∀ (q : Nat) (y : V), x.cells[q]? = some y → Pur H k (ys j q) y) : Pur H k (.own r o n c x) (.sl z xs)
  | p {r o : Nat} {cs : List V} {e : TypeId} {mu : Bool} {cs' : List V} (hr : H[r]? = some (.c cs e mu)) (hk : k ≤ r) (ys : Nat → V) (hc : ∀ q, q < cs'.length → cs[q]? = some (ys q))
      (hp : ∀ (q : Nat) (y : V), cs'[q]? = some y → Pur H k (ys q) y) : Pur H k (.p r o) (.ep cs' o)
  | it {t : TypeId} {x y : V} (h : Pur H k x y) : Pur H k (.it t x) (.it t y)
  | a {cs cs' : List V} (hl : cs.length = cs'.length) (h : ∀ (q : Nat) (x y : V), cs[q]? = some x → cs'[q]? = some y → Pur H k x y) : Pur H k (.a cs) (.a cs')
  | t {cs cs' : List V} (hl : cs.length = cs'.length) (h : ∀ (q : Nat) (x y : V), cs[q]? = some x → cs'[q]? = some y → Pur H k x y) : Pur H k (.t cs) (.t cs')

theorem ok_tail {G : List (Nat × List V)} {w0 w : World} {H1 J : List LB} {ρ : List (Nat × Nat)} (h : RelH G w0 (H1 ++ J) ρ w) {r b d : Nat} {cs : List V} {e : TypeId} {mu : Bool} (hr : (H1 ++ J)[r]? = some (.c cs e mu)) (hk : H1.length ≤ r) (hρ : ρ[r]? = some (b, d)) :
    Ok H1 (ρ.take H1.length) w b := by
  cases mu with
  | false => exact ok_drop h b (h.seal_ r cs e b d hr hρ)
  | true =>
    obtain ⟨o, ho, _⟩ := h.is r _ b d hr hρ
    refine ⟨(Array.getElem?_eq_some_iff.1 ho).1, fun r' lb hr' hm d' hx => ?_⟩
    have hlt := (List.getElem?_eq_some_iff.1 hr').1
    rw [List.getElem?_take_of_lt hlt] at hx
    have := h.inj r' r lb _ b d' d (by rw [List.getElem?_append_left hlt]; exact hr') hr hm rfl hx hρ
    omega

theorem Pur.run {G : List (Nat × List V)} {w0 w : World} {H1 J : List LB} {ρ : List (Nat × Nat)} (h : RelH G w0 (H1 ++ J) ρ w) {v v' : V} (hp : Pur (H1 ++ J) H1.length v v') :
    ∀ {val : Value}, VR w (Ok (H1 ++ J) ρ w) ρ v val → VR w (Ok H1 (ρ.take H1.length) w) (ρ.take H1.length) v' val := by
  have hlen : ρ.length = H1.length + J.length := by rw [h.len, List.length_append]
  induction hp with
  | lt hlt =>
    intro val hv
    exact hv.shrink (ok_drop h) (fun r x hr hx => by rw [List.getElem?_take_of_lt hr]; exact hx) (by simp; omega) hlt
  | nsl =>
    intro val hv
    cases hv
    exact .sl0
  | @own r o n c x z cs e mu xs ys hr hk hn hz hc hp ih =>
    intro val hv
    cases hv with
    | @own _ _ _ _ c' b d _ hρ hnc hcc hx hs =>
      have hfc := fc_ptr h hr hρ
      subst hn
      refine .sl (fun j q => (w.cell? ⟨b, d + o + (j * z + q), none⟩).getD undef) (by omega) hz (fun _ _ => ok_tail h hr hk hρ) (fun j q hj hq => ?_) (fun j x hj q y hq => ?_)
      · obtain ⟨u, h1, _⟩ := hfc _ _ (hc j q hj hq)
        rw [← Nat.add_assoc] at h1
        rw [h1]
        rfl
      · have hjl := (List.getElem?_eq_some_iff.1 hj).1
        have hql := (List.getElem?_eq_some_iff.1 hq).1
        rw [hz x (List.mem_of_getElem? hj)] at hql
        obtain ⟨u, h1, h2⟩ := hfc _ _ (hc j q hjl hql)
        rw [← Nat.add_assoc] at h1
        rw [h1]
        exact ih j x hj q y hq h2
    | own0 ad hr0 ha =>
      obtain ⟨b, f, rfl⟩ := ha
      obtain rfl : xs = [] := List.eq_nil_of_length_eq_zero hn
      exact .sl (fun _ _ => undef) (Nat.le_refl _) hz (fun e _ => absurd rfl e) (fun j q hj => by simp at hj) (fun j x hj => by simp at hj)
  | @p r o cs e mu cs' hr hk ys hc hp ih =>
    intro val hv
    cases hv with
    | @p _ _ b d hρ =>
      have hfc := fc_ptr h hr hρ
      refine .ep (fun q => (w.cell? ⟨b, d + q, none⟩).getD undef) (fun _ => ok_tail h hr hk hρ) (fun q hq => ?_) (fun q y hq => ?_)
      · obtain ⟨u, h1, _⟩ := hfc _ _ (hc q hq)
        rw [h1]
        rfl
      · have hql := (List.getElem?_eq_some_iff.1 hq).1
        obtain ⟨u, h1, h2⟩ := hfc _ _ (hc q hql)
        rw [h1]
        exact ih q y hq h2
  | it _ ih =>
    intro val hv
    cases hv with
    | it hv => exact .it (ih hv)
  | a hl _ ih =>
    intro val hv
    cases hv with
    | a hs hv =>
      refine .a (by omega) fun q y v h1 h2 => ?_
      have hq := (List.getElem?_eq_some_iff.1 h1).1
      exact ih q _ y (List.getElem?_eq_getElem (by omega)) h1 (hv q _ v (List.getElem?_eq_getElem (by omega)) h2)
  | t hl _ ih =>
    intro val hv
    cases hv with
    | t hs hv =>
      refine .t (by omega) fun q y v h1 h2 => ?_
      have hq := (List.getElem?_eq_some_iff.1 h1).1
      exact ih q _ y (List.getElem?_eq_getElem (by omega)) h1 (hv q _ v (List.getElem?_eq_getElem (by omega)) h2)

/-- How a function leaves. -/
def Leave (H H' : List LB) (v : V) (R : V → List LB → Prop) : Prop :=
  R v H' ∨ ∃ H1 J v', H' = H1 ++ J ∧ H.length ≤ H1.length ∧ (∀ (r : Nat) lb, H1[r]? = some lb → H[r]? = some lb ∨ LB.Lt H1.length lb) ∧ Pur H' H1.length v v' ∧ R v' H1

/-- One result of a function. -/
def lres1 (P : Program) (H : List LB) (t : Nat → V) : ResultVar → Option V
  | .tmp k => some (t k)
  | .cell a ty => lload P H ty (t a)

def lres (P : Program) (H : List LB) (t : Nat → V) (fn : Func) : Option V :=
  match fn.results.toList with
  | [] => some (.t [])
  | [a] => lres1 P H t a
  | [a, b] => match lres1 P H t a, lres1 P H t b with
    | some x, some y => some (.t [x, y])
    | _, _ => none
  | [a, b, c] => match lres1 P H t a, lres1 P H t b, lres1 P H t c with
    | some x, some y, some z => some (.t [x, y, z])
    | _, _, _ => none
  | _ => none

def Ret (P : Program) (fn : Func) (H : List LB) (R : V → List LB → Prop) (e : Exit) (st : St) : Prop :=
  (e = .normal ∨ e = .ret) ∧ ∃ v, lres P st.H st.t fn = some v ∧ Leave H st.H v R

/-- One result, at the machine. -/
def res1 (tm : Array Value) : ResultVar → Sem Value
  | .tmp t => pure (tm.getD t undef)
  | .cell a t => do loadVar t (← asAddr (tm.getD a undef))

section
variable {P : Program} {G : List (Nat × List V)} {w0 w : World} {ρ : List (Nat × Nat)} {st : St} {n : Nat} {a : Act}

theorem res1_run (h : RelH G w0 st.H ρ w) (ht : RelT st.H ρ w n st.t a.tmps) {x : ResultVar} {v : V} (hl : lres1 P st.H st.t x = some v) : ∃ val, (res1 a.tmps x).run P w = .ok val w ∧ VR w (Ok st.H ρ w) ρ v val := by
  cases x with
  | tmp k =>
    injection hl with hl
    subst hl
    exact ⟨_, rfl, ht.2 k⟩
  | cell ad ty =>
    have hl' : lload P st.H ty (st.t ad) = some v := hl
    have hv := ht.2 ad
    obtain ⟨val, h1, h2⟩ := lload_run (P := P) h hl' hv
    refine ⟨val, ?_, h2⟩
    have hp : ∃ A, a.tmps.getD ad undef = .pointer (some A) := by
      unfold lload at hl'
      generalize st.t ad = x at hv hl'
      generalize a.tmps.getD ad undef = y at hv
      cases x <;> simp only [] at hl' <;> try (cases hl'; done)
      · cases hv
        exact ⟨_, rfl⟩
      · cases hv
        exact ⟨_, rfl⟩
    obtain ⟨A, hA⟩ := hp
    rw [hA] at h1
    unfold res1
    dsimp only
    rw [hA]
    exact h1

theorem vr_list {ok : Nat → Prop} {vs : List V} {vals : Array Value} (hn : vals.size = vs.length) (h : ∀ (q : Nat) (x : V) (v : Value), vs[q]? = some x → vals.toList[q]? = some v → VR w ok ρ x v) : VR w ok ρ (.t vs) (.tuple vals) :=
  .t hn fun q y v h1 h2 => h q y v h1 (by rw [Array.getElem?_toList]; exact h2)

theorem results_run (h : RelH G w0 st.H ρ w) (ht : RelT st.H ρ w n st.t a.tmps) {fn : Func} {v : V} (hl : lres P st.H st.t fn = some v) : ∃ val, (results fn a.tmps).run P w = .ok val w ∧ VR w (Ok st.H ρ w) ρ v val := by
  obtain ⟨rs, hrs⟩ : ∃ rs : List ResultVar, fn.results = rs.toArray := ⟨fn.results.toList, by simp⟩
  have hres : ∀ s : Sem Value, results fn a.tmps = (do
      let vs ← rs.toArray.mapM (res1 a.tmps)
      pure (if h : vs.size = 1 then vs[0] else .tuple vs)) := by
    intro _
    rw [← hrs]
    unfold results
    rfl
  rw [hres (pure undef)]
  unfold lres at hl
  rw [hrs] at hl
  dsimp only at hl
  split at hl
  · injection hl with hl
    subst hl
    refine ⟨.tuple #[], by simp, .t rfl (fun q y v h1 => by simp at h1)⟩
  · rename_i x
    obtain ⟨val, h1, h2⟩ := res1_run (P := P) h ht hl
    exact ⟨val, by simp [h1], h2⟩
  · rename_i x y
    cases hx : lres1 P st.H st.t x with
    | none => rw [hx] at hl; cases hl
    | some vx =>
      cases hy : lres1 P st.H st.t y with
      | none => rw [hx, hy] at hl; cases hl
      | some vy =>
        rw [hx, hy] at hl
        injection hl with hl
        subst hl
        obtain ⟨v1, h1, h2⟩ := res1_run (P := P) h ht hx
        obtain ⟨v2, h3, h4⟩ := res1_run (P := P) h ht hy
        refine ⟨.tuple #[v1, v2], by simp [h1, h3], vr_list rfl fun q x v e1 e2 => ?_⟩
        match q with
        | 0 => simp at e1 e2; subst e1 e2; exact h2
        | 1 => simp at e1 e2; subst e1 e2; exact h4
        | q + 2 => simp at e1
  · rename_i x y z
    cases hx : lres1 P st.H st.t x with
    | none => rw [hx] at hl; cases hl
    | some vx =>
      cases hy : lres1 P st.H st.t y with
      | none => rw [hx, hy] at hl; cases hl
      | some vy =>
        cases hz : lres1 P st.H st.t z with
        | none => rw [hx, hy, hz] at hl; cases hl
        | some vz =>
          rw [hx, hy, hz] at hl
          injection hl with hl
          subst hl
          obtain ⟨v1, h1, h2⟩ := res1_run (P := P) h ht hx
          obtain ⟨v2, h3, h4⟩ := res1_run (P := P) h ht hy
          obtain ⟨v3, h5, h6⟩ := res1_run (P := P) h ht hz
          refine ⟨.tuple #[v1, v2, v3], by simp [h1, h3, h5], vr_list rfl fun q x v e1 e2 => ?_⟩
          match q with
          | 0 => simp at e1 e2; subst e1 e2; exact h2
          | 1 => simp at e1 e2; subst e1 e2; exact h4
          | 2 => simp at e1 e2; subst e1 e2; exact h6
          | q + 3 => simp at e1
  · cases hl
end

/-- The temporaries at a function's entry. -/
def argT (args : List V) : Nat → V := fun j => args.getD j (.t [])

theorem leave_run {P : Program} {G : List (Nat × List V)} {w0 w w' : World} {H : List LB} {ρ ρ' : List (Nat × Nat)} (h : RelH G w0 H ρ w) {H' : List LB} (h' : RelH G w0 H' ρ' w') (hx : Ext H ρ w H' ρ' w') {v : V} {val : Value} (hv : VR w' (Ok H' ρ' w') ρ' v val)
    {R : V → List LB → Prop} (hl : Leave H H' v R) : ∃ v2 H2 ρ2, RelH G w0 H2 ρ2 w' ∧ Ext H ρ w H2 ρ2 w' ∧ VR w' (Ok H2 ρ2 w') ρ2 v2 val ∧ R v2 H2 := by
  rcases hl with hR | ⟨H1, J, v', rfl, hlen, hlt, hp, hR⟩
  · exact ⟨v, H', ρ', h', hx, hv, hR⟩
  · refine ⟨v', H1, ρ'.take H1.length, h'.drop (fun r lb hr => ?_) (fun g cs hg => (h.glob_lt hg).mono hlen), ⟨fun b hb => ok_drop h' b (hx.ok b hb), hx.same, fun r x hr => ?_, hx.sz, hx.sw⟩, hp.run h' hv, hR⟩
    · rcases hlt r lb hr with h1 | h1
      · exact (h.lt h1).mono hlen
      · exact h1
    · have hr' := (List.getElem?_eq_some_iff.1 hr).1
      rw [List.getElem?_take_of_lt (by rw [h.len] at hr'; omega)]
      exact hx.pl r x hr

theorem VR.off {w : World} {ok : Nat → Prop} {ρ : List (Nat × Nat)} {b : Nat} (hb : ∀ off, w.cell? ⟨b, off, none⟩ = none) {v : V} {val : Value} (h : VR w ok ρ v val) : VR w (fun x => ok x ∧ x ≠ b) ρ v val := by
  induction h with
  | u v => exact .u v
  | b x => exact .b x
  | i k n => exact .i k n
  | s x => exact .s x
  | @sl z xs blk off c vals hc hz ho hcell hv ih =>
    refine .sl vals hc hz (fun h hp => ⟨ho h hp, fun e => ?_⟩) hcell ih
    subst e
    have := hcell 0 0 (List.length_pos_iff.2 h) hp
    rw [hb] at this
    cases this
  | sl0 => exact .sl0
  | nsl => exact .nsl
  | own hr hn hc hx hs => exact .own hr hn hc hx hs
  | own0 ad hr ha => exact .own0 ad hr ha
  | p hr => exact .p hr
  | @ep cs k blk off vals ho hcell hv ih =>
    refine .ep vals (fun h => ⟨ho h, fun e => ?_⟩) hcell ih
    subst e
    have := hcell 0 (List.length_pos_iff.2 h)
    rw [hb] at this
    cases this
  | np => exact .np
  | m hr => exact .m hr
  | nm => exact .nm
  | f hf hc _ _ ih1 ih2 => exact .f hf hc ih1 ih2
  | nf => exact .nf
  | it _ ih => exact .it ih
  | ni => exact .ni
  | a hl _ ih => exact .a hl ih
  | t hl _ ih => exact .t hl ih
  | y hr => exact .y hr

/-- A block of deferred calls is shut. -/
theorem RelH.shut {G : List (Nat × List V)} {w0 w : World} {H : List LB} {ρ : List (Nat × Nat)} (h : RelH G w0 H ρ w) {b : Nat} (hb : w.heap[b]? = some (.deferred (some []))) (hB : w0.heap.size ≤ b) :
    RelH G w0 H ρ (w.putObj b (.deferred none)) ∧ ∀ {v : V} {val : Value}, VR w (Ok H ρ w) ρ v val → VR (w.putObj b (.deferred none)) (Ok H ρ (w.putObj b (.deferred none))) ρ v val := by
  have hok : ∀ x, Ok H ρ w x → Ok H ρ (w.putObj b (.deferred none)) x := fun x hx => ⟨by simpa using hx.1, hx.2⟩
  have key : ∀ {v : V} {val : Value}, VR w (Ok H ρ w) ρ v val → VR (w.putObj b (.deferred none)) (Ok H ρ (w.putObj b (.deferred none))) ρ v val := fun {v val} hv =>
    (hv.off (b := b) (fun off => by simp [World.cell?, hb])).mono (fun x hx => hok x hx.1) (fun x hx => World.putObj_heap_other hx.2) (fun _ _ h => h) (fun x arr e fr hx => by
      have hne : x ≠ b := fun e => by subst e; rw [hb] at hx; cases hx
      exact ⟨arr, fr, by rw [World.putObj_heap_other hne]; exact hx, rfl⟩)
  refine ⟨⟨h.len, h.bel.trans ⟨rfl, rfl, rfl, by simp, fun k hk => World.putObj_heap_other (by omega)⟩, h.blk, h.inj, fun r cs e b' d h1 h2 => hok b' (h.seal_ r cs e b' d h1 h2), fun r lb b' d h1 h2 => ?_, fun g cs hg => ⟨(h.glob g cs hg).1, key (h.glob g cs hg).2⟩⟩, key⟩
  obtain ⟨o, ho, hi⟩ := h.is r lb b' d h1 h2
  by_cases hbb : b' = b
  · subst hbb
    rw [hb] at ho
    injection ho with ho
    subst ho
    refine ⟨_, World.putObj_heap_same (Array.getElem?_eq_some_iff.1 hb).1, ?_⟩
    cases lb with
    | dead => trivial
    | c cs e m => obtain ⟨_, _, h, _⟩ := hi; cases h
    | mp es kt => obtain ⟨_, _, _, h, _⟩ := hi; cases h
    | lp => obtain ⟨_, _, h, _⟩ := hi; cases h
  · exact ⟨o, by rw [World.putObj_heap_other hbb]; exact ho, hi.mono fun _ _ hv => key hv⟩

theorem shut_all {P : Program} {G : List (Nat × List V)} {w0 wc : World} {H0 H : List LB} {ρ0 ρ : List (Nat × Nat)} {n : Nat} {t : Nat → V} {fn : Func} {tm : Array Value} {F : Fence} {Rw : Ending → World → Prop} (hB : w0.heap.size ≤ wc.heap.size)
    (hK : ∀ w', RelH G w0 H ρ w' → RelT H ρ w' n t tm → Ext H0 ρ0 wc H ρ w' → ∃ v, (results fn tm).run P w' = .ok v w' ∧ Rw (.returned v) w') : ∀ (ds : List Deferred) (w : World), RelH G w0 H ρ w → RelT H ρ w n t tm → Ext H0 ρ0 wc H ρ w → Dfr wc.heap.size H ρ w ds →
    LeavesInM F 0 P fn tm Rw ds .returning w := by
  intro ds
  induction ds with
  | nil => exact fun w h1 h2 h3 _ => hK w h1 h2 h3
  | cons d ds ih =>
    intro w h1 h2 h3 h4
    obtain ⟨e1, e2, e3⟩ := h4
    obtain ⟨b, rfl, hb1, hb2, hb3⟩ := e3 d List.mem_cons_self
    obtain ⟨k1, k2⟩ := h1.shut hb3 (by omega)
    refine ⟨by simp, .inl ⟨b, _, rfl, run_takeDeferred hb3, ih _ k1 ⟨h2.1, fun j => k2 (h2.2 j)⟩ ⟨fun x hx => ?_, fun x hx => ?_, h3.pl, fun x arr e fr hx => ?_, by simpa using h3.sw⟩ ⟨by simpa using e1, (List.nodup_cons.1 e2).2, fun d hd => ?_⟩⟩⟩
    · have := h3.ok x hx
      exact ⟨by simpa using this.1, this.2⟩
    · have hlt := hx.1
      rw [World.putObj_heap_other (by omega)]
      exact h3.same x hx
    · have hlt := (Array.getElem?_eq_some_iff.1 hx).1
      obtain ⟨arr', fr', q1, q2⟩ := h3.sz x arr e fr hx
      exact ⟨arr', fr', by rw [World.putObj_heap_other (by omega)]; exact q1, q2⟩
    · obtain ⟨b', rfl, q1, q2, q3⟩ := e3 d (List.mem_cons_of_mem _ hd)
      have hne : b' ≠ b := fun e => by subst e; exact (List.nodup_cons.1 e2).1 hd
      exact ⟨b', rfl, q1, ⟨by simpa using q2.1, q2.2⟩, by rw [World.putObj_heap_other hne]; exact q3⟩

theorem LC.of_LW {P : Program} {G : List (Nat × List V)} {f : FuncId} {fn : Func} {c : Code} {args : List V} {H : List LB} {R : V → List LB → Prop} (he : ent P f = true) (hf : P.funcs[f]? = some fn) (hb : fn.body = some c)
    (h : LW P G none (args.length + (fn.ntmps - args.length)) c ⟨argT args, H⟩ (Ret P fn H R)) : LC P G f args H R := by
  refine ⟨he, fun w0 ρ w vals h1 h2 => (callsIn_wide (n := 0)).1 (callsIn_of_wp_marks hf hb trivial ?_)⟩
  have hn : RelT H ρ w (args.length + (fn.ntmps - args.length)) (argT args) (vals ++ Array.replicate (fn.ntmps - vals.size) undef) := by
    refine ⟨by simp [h2.1], fun j => ?_⟩
    unfold argT
    rw [Array.getD_eq_getD_getElem?, List.getD_eq_getElem?_getD, Array.getElem?_append, h2.1]
    split
    · rename_i hj
      rw [List.getElem?_eq_getElem hj, Array.getElem?_eq_getElem (by rw [h2.1]; exact hj)]
      exact h2.2 j _ _ (List.getElem?_eq_getElem hj) (Array.getElem?_eq_getElem (by rw [h2.1]; exact hj))
    · rename_i hj
      rw [List.getElem?_eq_none (by omega)]
      have : (Array.replicate (fn.ntmps - args.length) undef)[j - args.length]?.getD undef = undef := by
        rw [Array.getElem?_replicate]
        split <;> rfl
      rw [this]
      exact .t rfl (fun q y v h1 => by simp at h1)
  refine wpIn_mono (h w0 ρ w { tmps := vals ++ Array.replicate (fn.ntmps - vals.size) undef, defers := [] } w.heap.size h1 hn (Dfr.nil (Nat.le_refl _))) fun e a' w' hp => ?_
  obtain ⟨s, ρ', ⟨hen, v, hv, hl⟩, k2, k3, k4, k5⟩ := hp
  have fin : LeavesInM Fence.wide 0 P fn a'.tmps (fun e w' => ∃ v val H' ρ', e = .returned val ∧ RelH G w0 H' ρ' w' ∧ Ext H ρ w H' ρ' w' ∧ VR w' (Ok H' ρ' w') ρ' v val ∧ R v H') a'.defers .returning w' := by
    refine shut_all h1.bel.size (fun w2 m1 m2 m3 => ?_) a'.defers w' k2 k3 k4 k5
    obtain ⟨val, r1, r2⟩ := results_run (P := P) (a := a') m1 m2 hv
    obtain ⟨v2, H2, ρ2, q1, q2, q3, q4⟩ := leave_run (P := P) h1 m1 m3 r2 hl
    exact ⟨val, r1, v2, val, H2, ρ2, rfl, q1, q2, q3, q4⟩
  rcases hen with rfl | rfl
  · exact fin
  · exact fin
end Go.Lw
