/- The local walk: regions that draw their order. -/
import Derived.Test.YtopmghfjdpdncaaDoorL14
import Derived.OrdersIn
set_option linter.unusedSimpArgs false
set_option linter.unusedVariables false
namespace Go.Lw
open Go Go.RowKit

/-- Any order that the edges allow. -/
def lany (P : Program) (G : List (Nat × List V)) (n : Nat) (md : Region.Mode) (ops : Array Oper) (Q : St → Prop) : Nat → Array Bool → St → Prop
  | 0, listed, st => Region.ready md ops listed = [] ∧ Q st
  | fuel + 1, listed, st => (Region.ready md ops listed = [] → Q st) ∧ ∀ i ∈ Region.ready md ops listed, lop P G n ops i (lany P G n md ops Q fuel (listed.setIfInBounds i true)) st

section
variable {P : Program} {G : List (Nat × List V)} {rd : Option Nat} {n : Nat} {md : Region.Mode} {ops : Array Oper}

theorem lany_run {N : Nat} {w0 : World} {Kq : St → Prop} {Qw : Exit → Act → World → Prop} : ∀ (fuel : Nat) (listed : Array Bool) (st : St) (ρ : List (Nat × Nat)) (w : World) (a : Act), RelH G w0 st.H ρ w → RelT st.H ρ w n st.t a.tmps → Dfr N st.H ρ w a.defers →
    lany P G n md ops Kq fuel listed st → Bears N G w0 st.H ρ w n Kq (Qw .normal) → wpAnyIn (Fw rd) 0 P md ops Qw fuel listed a w := by
  intro fuel
  induction fuel with
  | zero =>
    intro listed st ρ w a h ht hd hl hK
    exact ⟨hl.1, hK st ρ w a hl.2 h ht (Ext.refl _ _ _) hd⟩
  | succ fuel ih =>
    intro listed st ρ w a h ht hd hl hK
    refine ⟨fun hr => hK st ρ w a (hl.1 hr) h ht (Ext.refl _ _ _) hd, fun i hi => ?_⟩
    exact lop_run h ht hd (hl.2 i hi) fun st' ρ' w' a' hk h1 h2 h3 h4 => ih _ st' ρ' w' a' h1 h2 h4 hk fun st2 ρ2 w2 a2 k1 k2 k3 k4 k5 => hK st2 ρ2 w2 a2 k1 k2 k3 (h3.trans k4) k5

theorem LW.draw {id : Nat} {st : St} {Q : Exit → St → Prop} (hm : P.follows .mixedOrders = true) (h : lany P G n .any ops (fun s => Q .normal s) ops.size (Array.replicate ops.size false) st) : LW P G rd n (.region id ops true) st Q := by
  intro w0 ρ w a N h1 h2 h3
  refine wpIn_region_any hm ?_
  change wpAnyIn _ _ _ _ _ _ _ _ _ (World.drew w)
  exact lany_run _ _ st ρ w.drew a h1.drew ((Ext.drew st.H ρ w).relT h2) (h3.ext (Ext.drew st.H ρ w)) h fun st' ρ' w' a' k1 k2 k3 k4 k5 => ⟨st', ρ', k1, k2, k3, (Ext.drew st.H ρ w).trans k4, k5⟩

/-! ### An operation that is taken first -/

theorem ev_updO {t : Nat → V} {dst : Option Nat} {v : V} {x : Operand} (h : ∀ d, dst = some d → x ≠ .tmp d) : ev G (updO n t dst v) x = ev G t x := by
  cases dst with
  | none => rfl
  | some d =>
    simp only [updO]
    split
    · cases x with
      | tmp k =>
        have : k ≠ d := fun e => h d rfl (by rw [e])
        simp [ev, this]
      | _ => rfl
    · rfl

theorem updO_comm {t : Nat → V} {x y : Option Nat} {v v2 : V} (h : ∀ d, x = some d → y ≠ some d) : updO n (updO n t x v) y v2 = updO n (updO n t y v2) x v := by
  cases x with
  | none => rfl
  | some d =>
    cases y with
    | none => rfl
    | some e =>
      have hne : e ≠ d := fun q => h d rfl (by rw [q])
      simp only [updO]
      split <;> split <;> try rfl
      funext j
      simp only [upd]
      by_cases h1 : j = e
      · subst h1
        rw [if_pos rfl, if_neg hne, if_pos rfl]
      · rw [if_neg h1, if_neg h1]

theorem notOp {o : Oper} {d : Nat} (h : d ∉ o.looksAt ops) : ∀ x ∈ o.op.operands, x ≠ .tmp d := by
  intro x hx e
  subst e
  exact h (List.mem_append_left _ (List.mem_filterMap.2 ⟨.tmp d, by simpa using hx, rfl⟩))

theorem lwant_updO {t : Nat → V} {dst : Option Nat} {v : V} {o : Oper} (h : ∀ d, dst = some d → d ∉ o.looksAt ops) : lwant ops n (updO n t dst v) o = lwant ops n t o := by
  unfold lwant
  cases hg : o.guard with
  | none => rfl
  | some g =>
    obtain ⟨j, want⟩ := g
    dsimp only
    cases hd : (ops[j]?).bind (·.dst) with
    | none => rfl
    | some e =>
      dsimp only
      have : updO n t dst v e = t e := by
        cases dst with
        | none => rfl
        | some d =>
          have hne : e ≠ d := fun q => h d rfl (by
            unfold Oper.looksAt
            rw [hg]
            dsimp only
            rw [hd, q]
            simp)
          simp only [updO]
          split
          · simp [hne]
          · rfl
      rw [this]

theorem map_ev {t t' : Nat → V} {xs : Array Operand} (h : ∀ x ∈ xs, ev G t x = ev G t' x) : xs.toList.map (ev G t) = xs.toList.map (ev G t') :=
  List.map_congr_left fun x hx => h x (by simpa using hx)

theorem parts_congr {t t' : Nat → V} {ps : Array (Nat × Operand)} (h : ∀ x ∈ ((ps.toList.map (·.2)).toArray : Array Operand), ev G t x = ev G t' x) : (ps.toList.map fun p => (p.1, ev G t p.2)) = ps.toList.map fun p => (p.1, ev G t' p.2) :=
  List.map_congr_left fun p hp => by
    rw [h p.2 (by
      rw [List.mem_toArray]
      exact List.mem_map.2 ⟨p, hp, rfl⟩)]

theorem evo_congr {t t' : Nat → V} {x : Option Operand} (h : ∀ y ∈ x.toArray, ev G t y = ev G t' y) : evo G t x = evo G t' x := by
  cases x with
  | none => rfl
  | some x => simp only [evo]; rw [h x (by simp)]

theorem callOf_congr {t t' : Nat → V} {o : Oper} (h : ∀ x ∈ o.op.operands, ev G t x = ev G t' x) : callOf G t o = callOf G t' o := by
  obtain ⟨dst, op, type, pos, after, guard⟩ := o
  unfold callOf
  cases op <;> try rfl
  rename_i c
  obtain ⟨cal, args, ats⟩ := c
  cases cal <;> try rfl
  rename_i x
  dsimp only
  rw [h x (by simp [Op.operands, Call.operands]), map_ev (t := t) (t' := t') (fun y hy => h y (by simp [Op.operands, Call.operands]; exact .inr (by simpa using hy)))]

theorem yieldOf_congr {t t' : Nat → V} {o : Oper} (h : ∀ x ∈ o.op.operands, ev G t x = ev G t' x) : yieldOf G t o = yieldOf G t' o := by
  obtain ⟨dst, op, type, pos, after, guard⟩ := o
  unfold yieldOf
  cases op <;> try rfl
  rename_i c
  obtain ⟨cal, args, ats⟩ := c
  cases cal <;> try rfl
  rename_i x
  dsimp only
  rw [h x (by simp [Op.operands, Call.operands]), map_ev (t := t) (t' := t') (fun y hy => h y (by simp [Op.operands, Call.operands]; exact .inr (by simpa using hy)))]

set_option maxHeartbeats 1000000 in
theorem leff_congr {t t' : Nat → V} {H : List LB} {o : Oper} (h : ∀ x ∈ o.op.operands, ev G t x = ev G t' x) : leff P G ⟨t, H⟩ o = leff P G ⟨t', H⟩ o := by
  obtain ⟨dst, op, type, pos, after, guard⟩ := o
  unfold leff
  cases op <;> try rfl
  case call c =>
    obtain ⟨cal, args, ats⟩ := c
    cases cal <;> try rfl
    dsimp only
    rw [map_ev (t := t) (t' := t') (fun y hy => h y (by simp [Op.operands, Call.operands]; simpa using hy))]
  case build t1 ps => dsimp only; rw [parts_congr (fun x hx => h x (by simpa [Op.operands] using hx))]
  case buildSlice t1 l ps => dsimp only; rw [parts_congr (fun x hx => h x (by simpa [Op.operands] using hx))]
  case makeFunc fn a b => dsimp only; rw [map_ev (t := t) (t' := t') (fun y hy => h y (by simp [Op.operands]; exact .inl hy)), map_ev (t := t) (t' := t') (fun y hy => h y (by simp [Op.operands]; exact .inr hy))]
  case makeMap t1 r => dsimp only; rw [evo_congr (fun x hx => h x (by simpa [Op.operands] using hx))]
  case slice t1 x lo hi mx =>
    dsimp only
    rw [h x (by simp [Op.operands]), evo_congr (x := lo) (fun x hx => h x (by simp [Op.operands]; simp at hx; simp [hx])), evo_congr (x := hi) (fun x hx => h x (by simp [Op.operands]; simp at hx; simp [hx])), evo_congr (x := mx) (fun x hx => h x (by simp [Op.operands]; simp at hx; simp [hx]))]
  all_goals
    simp [Op.operands] at h
    simp only [h]

/-- An operation that yields whatever lies in memory. -/
def Steady (P : Program) (G : List (Nat × List V)) (n : Nat) (ops : Array Oper) (o : Oper) (v : V) (t : Nat → V) : Prop :=
  (lwant ops n t o = some true ∧ callOf G t o = none ∧ ∀ H, leff P G ⟨t, H⟩ o = some (v, H)) ∨ (lwant ops n t o = some false ∧ v = .t [])

theorem Steady.put {o : Oper} {v : V} {t : Nat → V} (h : Steady P G n ops o v t) {dst : Option Nat} {y : V} (hd : ∀ d, dst = some d → d ∉ o.looksAt ops) : Steady P G n ops o v (updO n t dst y) := by
  have hev : ∀ x ∈ o.op.operands, ev G (updO n t dst y) x = ev G t x := fun x hx => ev_updO fun d hd' => notOp (hd d hd') x hx
  unfold Steady
  rw [lwant_updO hd, callOf_congr hev]
  rcases h with ⟨h1, h2, h3⟩ | h
  · exact .inl ⟨h1, h2, fun H => by rw [leff_congr hev]; exact h3 H⟩
  · exact .inr h

theorem Steady.lop {i : Nat} {o : Oper} {v : V} {t : Nat → V} {H : List LB} {K : St → Prop} (h : Steady P G n ops o v t) (hi : ops[i]? = some o) (hk : K ⟨updO n t o.dst v, H⟩) : lop P G n ops i K ⟨t, H⟩ := by
  unfold Lw.lop
  rw [hi]
  dsimp only
  rcases h with ⟨h1, h2, h3⟩ | ⟨h1, h2⟩
  · rw [h1]
    dsimp only
    unfold ldo
    rw [h2]
    dsimp only
    rw [h3 H]
    exact hk
  · rw [h1]
    dsimp only
    subst h2
    exact hk

theorem lop_mono {i : Nat} {K K' : St → Prop} (hk : ∀ s, K s → K' s) {st : St} (h : lop P G n ops i K st) : lop P G n ops i K' st := by
  unfold lop at h ⊢
  split at h
  · exact hk _ h
  · split at h
    · exact ldo_mono (fun v H' hr => hk _ hr) h
    · exact hk _ h
    · exact h.elim

theorem lop_put {j : Nat} {oi oj : Oper} {v : V} {t : Nat → V} {H : List LB} {K : St → Prop} (hj : ops[j]? = some oj) (hap : oi.apart ops oj = true) (hy : Steady P G n ops oi v t)
    (h : lop P G n ops j K ⟨updO n t oi.dst v, H⟩) : lop P G n ops j (fun s => Steady P G n ops oi v s.t ∧ K ⟨updO n s.t oi.dst v, s.H⟩) ⟨t, H⟩ := by
  obtain ⟨h1, h2, h3⟩ := Oper.apart_spec hap
  have hev : ∀ x ∈ oj.op.operands, ev G (updO n t oi.dst v) x = ev G t x := fun x hx => ev_updO fun d hd' => notOp (h1 d hd') x hx
  unfold lop at h ⊢
  rw [hj] at h ⊢
  dsimp only at h ⊢
  rw [lwant_updO h1] at h
  split at h
  · unfold ldo at h ⊢
    dsimp only at h ⊢
    rw [callOf_congr hev, leff_congr hev, yieldOf_congr hev] at h
    have go : ∀ y H', K ⟨updO n (updO n t oi.dst v) oj.dst y, H'⟩ → Steady P G n ops oi v (updO n t oj.dst y) ∧ K ⟨updO n (updO n t oj.dst y) oi.dst v, H'⟩ := fun y H' hk => ⟨hy.put h3, by rw [← updO_comm h2]; exact hk⟩
    split at h
    · obtain ⟨R, hR, hK⟩ := h
      exact ⟨R, hR, fun y H' hr => go y H' (hK y H' hr)⟩
    · split at h
      · exact go _ _ h
      · split at h
        · obtain ⟨R, hR, hK⟩ := h
          exact ⟨R, hR, fun y H' hr => go y H' (hK y H' hr)⟩
        · exact h.elim
  · exact ⟨hy.put h3, by rw [← updO_comm h2]; exact h⟩
  · exact h.elim

theorem lany_first {i : Nat} {oi : Oper} {v : V} {Q : St → Prop} (hi : ops[i]? = some oi) :
    ∀ (fuel : Nat) (listed : Array Bool) (t : Nat → V) (H : List LB),
      (∀ j oj, ops[j]? = some oj → j ≠ i → listed.getD j true = false → (∀ e ∈ oj.after, Region.binds md e = true → e.on ≠ i) → oi.apart ops oj = true) →
      i ∈ Region.ready md ops listed → Steady P G n ops oi v t →
      lany P G n md ops Q fuel (listed.setIfInBounds i true) ⟨updO n t oi.dst v, H⟩ → lany P G n md ops Q (fuel + 1) listed ⟨t, H⟩ := by
  intro fuel
  induction fuel with
  | zero =>
    intro listed t H _ hr hy h
    refine ⟨fun h0 => (by rw [h0] at hr; cases hr), fun j hj => ?_⟩
    by_cases hji : j = i
    · subst hji; exact hy.lop hi h
    · have := ready_mono hj hji
      rw [h.1] at this
      cases this
  | succ fuel ih =>
    intro listed t H hfree hr hy h
    refine ⟨fun h0 => (by rw [h0] at hr; cases hr), fun j hj => ?_⟩
    by_cases hji : j = i
    · subst hji; exact hy.lop hi h
    · have h1 := h.2 j (ready_mono hj hji)
      obtain ⟨hjun, oj, hoj, hall⟩ := mem_ready.1 hj
      have hnot : ∀ e ∈ oj.after, Region.binds md e = true → e.on ≠ i := fun e he hb heq => by
        have h1 := hall e he hb
        have h0 := (mem_ready.1 hr).1
        rw [heq] at h1
        rcases Nat.lt_or_ge i listed.size with h' | h'
        · simp [h'] at h0 h1; rw [h0] at h1; cases h1
        · simp [Array.getElem?_eq_none h'] at h1
      have h2 := lop_put hoj (hfree j oj hoj hji hjun hnot) hy h1
      have hfree' : ∀ k ok, ops[k]? = some ok → k ≠ i → (listed.setIfInBounds j true).getD k true = false →
          (∀ e ∈ ok.after, Region.binds md e = true → e.on ≠ i) → oi.apart ops ok = true := fun k ok hk hki hun hno => by
        refine hfree k ok hk hki ?_ hno
        by_cases hjk : j = k
        · subst hjk; exact hjun
        · rw [getD_set_ne true hjk] at hun; exact hun
      refine lop_mono (fun s h3 => ih (listed.setIfInBounds j true) s.t s.H hfree' (ready_mono hr (Ne.symm hji)) h3.1 ?_) h2
      rw [Array.setIfInBounds_comm _ _ hji]
      exact h3.2

/-- Taken first. -/
theorem lany_take (i : Nat) {oi : Oper} (v : V) {Q : St → Prop} {fuel : Nat} {listed : Array Bool} {t : Nat → V} {H : List LB} (hi : ops[i]? = some oi)
    (hf : (Region.free md ops listed i && (Region.ready md ops listed).contains i) = true) (hy : Steady P G n ops oi v t)
    (h : lany P G n md ops Q fuel (listed.setIfInBounds i true) ⟨updO n t oi.dst v, H⟩) : lany P G n md ops Q (fuel + 1) listed ⟨t, H⟩ := by
  rw [Bool.and_eq_true] at hf
  exact lany_first hi fuel listed t H (Region.free_spec hi hf.1) (by simpa using hf.2) hy h

/-- All that may come up. -/
theorem lany_all {rs : List Nat} {fuel : Nat} {listed : Array Bool} {st : St} {Q : St → Prop} (hr : Region.ready md ops listed = rs) (hne : rs ≠ [])
    (h : ∀ i ∈ rs, lop P G n ops i (lany P G n md ops Q fuel (listed.setIfInBounds i true)) st) : lany P G n md ops Q (fuel + 1) listed st :=
  ⟨fun h0 => absurd (hr ▸ h0) hne, hr ▸ h⟩

/-- Only one may come up. -/
theorem lany_one (i : Nat) {o : Oper} {fuel : Nat} {listed : Array Bool} {t : Nat → V} {H : List LB} {Q : St → Prop} (hr : Region.ready md ops listed = [i]) (ho : ops[i]? = some o) (hg : o.guard = none)
    (h : ldo P G ⟨t, H⟩ o fun v H' => lany P G n md ops Q fuel (listed.setIfInBounds i true) ⟨updO n t o.dst v, H'⟩) : lany P G n md ops Q (fuel + 1) listed ⟨t, H⟩ := by
  refine lany_all hr (by simp) fun j hj => ?_
  rw [List.mem_singleton] at hj
  subst hj
  unfold lop
  rw [ho]
  dsimp only
  have : lwant ops n t o = some true := by unfold lwant; rw [hg]
  rw [this]
  exact h

theorem lany_done {listed : Array Bool} {st : St} {Q : St → Prop} (hr : Region.ready md ops listed = []) (h : Q st) : ∀ fuel, lany P G n md ops Q fuel listed st
  | 0 => ⟨hr, h⟩
  | _ + 1 => ⟨fun _ => h, by rw [hr]; simp⟩
end
end Go.Lw
/- The local walk: quiet operations of a region that draws; guarded operations. -/
namespace Go.Lw
open Go Go.RowKit

/-- Has a value nothing to do with a map? -/
def V.noMap : V → Bool
  | .m _ => false
  | _ => true

/-- What an operation yields whose value hangs on no block of one's own. -/
def qleff (P : Program) (G : List (Nat × List V)) (t : Nat → V) (o : Oper) : Option V :=
  match o.op with
  | .move x | .assign x => some (ev G t x)
  | .pick c a b => match ev G t c with
    | .b true => some (ev G t a)
    | .b false => some (ev G t b)
    | _ => none
  | .nilCheck x => match ev G t x with
    | .p r k => some (.p r k)
    | .ep cs k => some (.ep cs k)
    | _ => none
  | .binOp op t1 x y _ => lbin P op t1 (isLit x || isLit y) (ev G t x) (ev G t y)
  | .unOp op _ x => match scal (ev G t x) with
    | some v => (prun P (Op.unary op v)).map ofV
    | none => none
  | .build t1 ps => lbuild P t1 (ps.toList.map fun p => (p.1, ev G t p.2))
  | .slice t1 x lo hi mx => lslice P t1 (ev G t x) (evo G t lo) (evo G t hi) (evo G t mx)
  | .fieldAddr s x f => lfaddr P s f (ev G t x)
  | .sliceToArrayPointer s x => larr P s (ev G t x)
  | .field t1 x f => lfield P t1 f (ev G t x)
  | .indexAddr t1 x i => liaddr P t1 (ev G t x) (ev G t i)
  | .index t1 x i => lindex P t1 (ev G t x) (ev G t i)
  | .extract x i => lextract (ev G t x) i
  | .load t1 x => match ev G t x with
    | .ep cs k => rdv P t1 cs k
    | _ => none
  | .convert s d x => match scal (ev G t x) with
    | some v => (prun P (convert s d v)).map ofV
    | none => none
  | .call c => match c.callee with
    | .builtin .len => match c.args.toList.map (ev G t) with
      | [x] => if x.noMap then (lbi P [] .len c.argTypes [x]).map (·.1) else none
      | _ => none
    | .builtin .min => (lbi P [] .min c.argTypes (c.args.toList.map (ev G t))).map (·.1)
    | .builtin .max => (lbi P [] .max c.argTypes (c.args.toList.map (ev G t))).map (·.1)
    | _ => none
  | _ => none

section
variable {P : Program} {G : List (Nat × List V)} {rd : Option Nat} {n : Nat} {md : Region.Mode} {ops : Array Oper}

theorem llen_quiet {H : List LB} {t1 : TypeId} {x v : V} (hm : x.noMap = true) (h : llen P [] t1 x = some v) : llen P H t1 x = some v := by
  unfold llen at h ⊢
  split at h
  · exact h
  · exact h
  · exact h
  · cases x <;> first | exact h | (simp [V.noMap] at hm)
  · cases h

theorem lbi_mm {H : List LB} {b : Builtin} (hb : b = .min ∨ b = .max) {ats : Array TypeId} {xs : List V} {q : V × List LB} (h : lbi P [] b ats xs = some q) : lbi P H b ats xs = some (q.1, H) := by
  unfold lbi at h ⊢
  rcases hb with rfl | rfl
  · split at h <;> first | contradiction | skip
    all_goals first
      | (rename_i e _; cases e; done)
      | skip
    all_goals (split at h <;> first | contradiction | skip)
    all_goals
      rename_i hm
      obtain ⟨v', h1, h2⟩ := map_some h
      subst h2
      first
        | rw [hm]
        | skip
      simp_all
  · split at h <;> first | contradiction | skip
    all_goals first
      | (rename_i e _; cases e; done)
      | skip
    all_goals (split at h <;> first | contradiction | skip)
    all_goals
      rename_i hm
      obtain ⟨v', h1, h2⟩ := map_some h
      subst h2
      first
        | rw [hm]
        | skip
      simp_all

theorem qleff_sound {t : Nat → V} {o : Oper} {v : V} (h : qleff P G t o = some v) : callOf G t o = none ∧ ∀ H, leff P G ⟨t, H⟩ o = some (v, H) := by
  obtain ⟨dst, op, type, pos, after, guard⟩ := o
  unfold qleff at h
  unfold callOf leff
  cases op <;> dsimp only at h ⊢ <;> try (cases h; done)
  case move x => injection h with h; subst h; exact ⟨rfl, fun _ => rfl⟩
  case assign x => injection h with h; subst h; exact ⟨rfl, fun _ => rfl⟩
  case pick c a b =>
    refine ⟨rfl, fun H => ?_⟩
    split at h
    · rename_i e; rw [e]; injection h with h; subst h; rfl
    · rename_i e; rw [e]; injection h with h; subst h; rfl
    · cases h
  case nilCheck x =>
    refine ⟨rfl, fun H => ?_⟩
    split at h
    · rename_i e; rw [e]; injection h with h; subst h; rfl
    · rename_i e; rw [e]; injection h with h; subst h; rfl
    · cases h
  case load t1 x =>
    refine ⟨rfl, fun H => ?_⟩
    split at h
    · rename_i e; rw [e]; simp only [lload, h]; rfl
    · cases h
  case convert s d x =>
    refine ⟨rfl, fun H => ?_⟩
    split at h
    · rename_i e; simp only [lconv, e, h]
    · cases h
  case unOp op t1 x =>
    refine ⟨rfl, fun H => ?_⟩
    split at h
    · rename_i va e
      rw [e]
      dsimp only
      obtain ⟨r, h1, h2⟩ := map_some h
      rw [h1, ← h2]
      rfl
    · cases h
  case call c =>
    obtain ⟨cal, args, ats⟩ := c
    cases cal <;> dsimp only at h ⊢ <;> try (cases h; done)
    rename_i b
    refine ⟨rfl, fun H => ?_⟩
    cases b <;> dsimp only at h ⊢ <;> try (cases h; done)
    case len =>
      split at h
      · rename_i x hx
        split at h
        · rename_i hm
          rw [hx]
          obtain ⟨q, h1, h2⟩ := map_some h
          subst h2
          unfold lbi at h1 ⊢
          dsimp only at h1 ⊢
          cases ha : ats[0]? with
          | none => rw [ha] at h1; cases h1
          | some t1 =>
            rw [ha] at h1
            dsimp only at h1 ⊢
            obtain ⟨v', h3, h4⟩ := map_some h1
            subst h4
            rw [llen_quiet hm h3]
            rfl
        · cases h
      · cases h
    case min =>
      obtain ⟨q, h1, h2⟩ := map_some h
      subst h2
      exact lbi_mm (.inl rfl) h1
    case max =>
      obtain ⟨q, h1, h2⟩ := map_some h
      subst h2
      exact lbi_mm (.inr rfl) h1
  all_goals (rw [h]; exact ⟨rfl, fun _ => rfl⟩)

/-- The value on which a guard hangs. -/
def gv (ops : Array Oper) (n : Nat) (t : Nat → V) (j : Nat) : V :=
  match (ops[j]?).bind (·.dst) with
  | none => .ni
  | some d => if d < n then t d else .ni

/-- With a guard. -/
def gK (x : V) (want : Bool) (A B : Prop) : Prop :=
  match x with
  | .b y => if y = want then A else B
  | .u => False
  | _ => B

theorem lwant_gv {t : Nat → V} {o : Oper} {j : Nat} {want : Bool} (hg : o.guard = some (j, want)) : lwant ops n t o = match gv ops n t j with | .b x => some (x == want) | .u => none | _ => some false := by
  unfold lwant gv
  rw [hg]
  dsimp only
  cases (ops[j]?).bind (·.dst) with
  | none => rfl
  | some d =>
    dsimp only
    split
    · cases t d <;> rfl
    · rfl

/-- A quiet operation, guarded or not. -/
def lq (P : Program) (G : List (Nat × List V)) (n : Nat) (ops : Array Oper) (t : Nat → V) (o : Oper) (K : V → Prop) : Prop :=
  match o.guard with
  | none => oK (qleff P G t o) K
  | some (j, want) => gK (gv ops n t j) want (oK (qleff P G t o) K) (K (.t []))

theorem lq_steady {t : Nat → V} {o : Oper} {K : V → Prop} (h : lq P G n ops t o K) : ∃ v, Steady P G n ops o v t ∧ K v := by
  have go : ∀ x, qleff P G t o = x → lwant ops n t o = some true → oK x K → ∃ v, Steady P G n ops o v t ∧ K v := by
    intro x hx hw hk
    cases x with
    | none => exact hk.elim
    | some v => exact ⟨v, .inl ⟨hw, (qleff_sound hx).1, (qleff_sound hx).2⟩, hk⟩
  unfold lq at h
  split at h
  · rename_i hg
    exact go _ rfl (by unfold lwant; rw [hg]) h
  · rename_i j want hg
    have hw := lwant_gv (ops := ops) (n := n) (t := t) hg
    unfold gK at h
    split at h
    · rename_i y hy
      rw [hy] at hw
      split at h
      · rename_i hyw
        subst hyw
        exact go _ rfl (by rw [hw]; simp) h
      · rename_i hyw
        exact ⟨.t [], .inr ⟨by rw [hw]; cases y <;> cases want <;> simp_all, rfl⟩, h⟩
    · exact h.elim
    · rename_i h1 h2
      refine ⟨.t [], .inr ⟨?_, rfl⟩, h⟩
      rw [hw]
      generalize gv ops n t j = x at h1 h2
      cases x <;> first | rfl | exact absurd rfl (h1 _) | exact absurd rfl h2

/-- A quiet operation may be taken first. -/
theorem lany_q (i : Nat) {o : Oper} {Q : St → Prop} {fuel : Nat} {listed : Array Bool} {t : Nat → V} {H : List LB} (hi : ops[i]? = some o)
    (hf : (Region.free md ops listed i && (Region.ready md ops listed).contains i) = true)
    (h : lq P G n ops t o fun v => lany P G n md ops Q fuel (listed.setIfInBounds i true) ⟨updO n t o.dst v, H⟩) : lany P G n md ops Q (fuel + 1) listed ⟨t, H⟩ := by
  obtain ⟨v, h1, h2⟩ := lq_steady h
  exact lany_take i v hi hf h1 h2

/-- Only one may come up, guarded or not. -/
theorem lany_o (i : Nat) {o : Oper} {fuel : Nat} {listed : Array Bool} {t : Nat → V} {H : List LB} {Q : St → Prop} (hr : Region.ready md ops listed = [i]) (ho : ops[i]? = some o)
    (h : match o.guard with
      | none => ldo P G ⟨t, H⟩ o fun v H' => lany P G n md ops Q fuel (listed.setIfInBounds i true) ⟨updO n t o.dst v, H'⟩
      | some (j, want) => gK (gv ops n t j) want (ldo P G ⟨t, H⟩ o fun v H' => lany P G n md ops Q fuel (listed.setIfInBounds i true) ⟨updO n t o.dst v, H'⟩) (lany P G n md ops Q fuel (listed.setIfInBounds i true) ⟨updO n t o.dst (.t []), H⟩)) :
    lany P G n md ops Q (fuel + 1) listed ⟨t, H⟩ := by
  refine lany_all hr (by simp) fun j hj => ?_
  rw [List.mem_singleton] at hj
  subst hj
  unfold lop
  rw [ho]
  dsimp only
  split at h
  · rename_i hg
    have : lwant ops n t o = some true := by unfold lwant; rw [hg]
    rw [this]
    exact h
  · rename_i j want hg
    rw [lwant_gv hg]
    unfold gK at h
    split at h
    · rename_i y hy
      split at h
      · rename_i hyw
        subst hyw
        simpa using h
      · rename_i hyw
        have : (y == want) = false := by cases y <;> cases want <;> simp_all
        rw [this]
        exact h
    · exact h.elim
    · rename_i h1 h2
      generalize gv ops n t j = x at h1 h2
      cases x <;> first | exact h | exact absurd rfl (h1 _) | exact absurd rfl h2

@[simp] theorem lrun_guard {Q : St → Prop} {l : List Oper} {t : Nat → V} {H : List LB} {d : Option Nat} {op : Op} {ty : TypeId} {pos : String} {af : Array Edge} {j : Nat} {want : Bool} :
    lrun P G n ops Q (⟨d, op, ty, pos, af, some (j, want)⟩ :: l) ⟨t, H⟩ = gK (gv ops n t j) want (ldo P G ⟨t, H⟩ ⟨d, op, ty, pos, af, some (j, want)⟩ fun v H' => lrun P G n ops Q l ⟨updO n t d v, H'⟩) (lrun P G n ops Q l ⟨updO n t d (.t []), H⟩) := by
  conv => lhs; unfold lrun
  rw [lwant_gv (o := ⟨d, op, ty, pos, af, some (j, want)⟩) rfl]
  unfold gK
  dsimp only
  generalize gv ops n t j = x
  cases x <;> try rfl
  rename_i y
  cases y <;> cases want <;> rfl

@[simp] theorem gK_b {x want : Bool} {A B : Prop} : gK (.b x) want A B = if x = want then A else B := Eq.trans rfl rfl
@[simp] theorem gK_t {l : List V} {want : Bool} {A B : Prop} : gK (.t l) want A B = B := Eq.trans rfl rfl
@[simp] theorem gK_ni {want : Bool} {A B : Prop} : gK .ni want A B = B := Eq.trans rfl rfl
end

section
variable {P : Program} {G : List (Nat × List V)} {n : Nat} {ops : Array Oper} {t : Nat → V} {d : Option Nat} {ty : TypeId} {pos : String} {af : Array Edge} {g : Option (Nat × Bool)} {K : V → Prop} {op : Op}
@[simp] theorem lq_none : lq P G n ops t ⟨d, op, ty, pos, af, none⟩ K = oK (qleff P G t ⟨d, op, ty, pos, af, none⟩) K := Eq.trans rfl rfl
@[simp] theorem lq_some {j : Nat} {w : Bool} : lq P G n ops t ⟨d, op, ty, pos, af, some (j, w)⟩ K = gK (gv ops n t j) w (oK (qleff P G t ⟨d, op, ty, pos, af, some (j, w)⟩) K) (K (.t [])) := Eq.trans rfl rfl
@[simp] theorem q_move {x : Operand} : qleff P G t ⟨d, .move x, ty, pos, af, g⟩ = some (ev G t x) := Eq.trans rfl rfl
@[simp] theorem q_assign {x : Operand} : qleff P G t ⟨d, .assign x, ty, pos, af, g⟩ = some (ev G t x) := Eq.trans rfl rfl
@[simp] theorem q_pick {c a b : Operand} : oK (qleff P G t ⟨d, .pick c a b, ty, pos, af, g⟩) K = pickK (ev G t c) (ev G t a) (ev G t b) K := by
  unfold qleff pickK
  dsimp only
  generalize ev G t c = x
  cases x <;> try rfl
  rename_i b'
  cases b' <;> rfl
@[simp] theorem q_bin {op : BinOp} {t1 t2 : TypeId} {x y : Operand} : qleff P G t ⟨d, .binOp op t1 x y t2, ty, pos, af, g⟩ = lbin P op t1 (isLit x || isLit y) (ev G t x) (ev G t y) := Eq.trans rfl rfl
@[simp] theorem q_slice {t1 : TypeId} {x : Operand} {lo hi mx : Option Operand} : qleff P G t ⟨d, .slice t1 x lo hi mx, ty, pos, af, g⟩ = lslice P t1 (ev G t x) (evo G t lo) (evo G t hi) (evo G t mx) := Eq.trans rfl rfl
@[simp] theorem q_arr {t1 : TypeId} {x : Operand} : qleff P G t ⟨d, .sliceToArrayPointer t1 x, ty, pos, af, g⟩ = larr P t1 (ev G t x) := Eq.trans rfl rfl
@[simp] theorem q_fieldAddr {t1 : TypeId} {x : Operand} {f : Nat} : qleff P G t ⟨d, .fieldAddr t1 x f, ty, pos, af, g⟩ = lfaddr P t1 f (ev G t x) := Eq.trans rfl rfl
@[simp] theorem q_field {t1 : TypeId} {x : Operand} {f : Nat} : qleff P G t ⟨d, .field t1 x f, ty, pos, af, g⟩ = lfield P t1 f (ev G t x) := Eq.trans rfl rfl
@[simp] theorem q_indexAddr {t1 : TypeId} {x y : Operand} : qleff P G t ⟨d, .indexAddr t1 x y, ty, pos, af, g⟩ = liaddr P t1 (ev G t x) (ev G t y) := Eq.trans rfl rfl
@[simp] theorem q_index {t1 : TypeId} {x y : Operand} : qleff P G t ⟨d, .index t1 x y, ty, pos, af, g⟩ = lindex P t1 (ev G t x) (ev G t y) := Eq.trans rfl rfl
@[simp] theorem q_extract {x : Operand} {i : Nat} : qleff P G t ⟨d, .extract x i, ty, pos, af, g⟩ = lextract (ev G t x) i := Eq.trans rfl rfl
@[simp] theorem q_build {t1 : TypeId} {ps : Array (Nat × Operand)} : qleff P G t ⟨d, .build t1 ps, ty, pos, af, g⟩ = lbuild P t1 (ps.toList.map fun p => (p.1, ev G t p.2)) := Eq.trans rfl rfl
/-- A load from memory that nobody writes. -/
def qload (P : Program) (t1 : TypeId) : V → Option V
  | .ep cs k => rdv P t1 cs k
  | _ => none
@[simp] theorem qload_ep {t1 : TypeId} {cs : List V} {k : Nat} : qload P t1 (.ep cs k) = rdv P t1 cs k := Eq.trans rfl rfl
@[simp] theorem q_load {t1 : TypeId} {x : Operand} : qleff P G t ⟨d, .load t1 x, ty, pos, af, g⟩ = qload P t1 (ev G t x) := by
  unfold qleff
  dsimp only
  cases ev G t x <;> rfl
@[simp] theorem q_nilCheck {x : Operand} : oK (qleff P G t ⟨d, .nilCheck x, ty, pos, af, g⟩) K = (match ev G t x with | .p r k => K (.p r k) | .ep cs k => K (.ep cs k) | _ => False) := by
  unfold qleff
  dsimp only
  cases ev G t x <;> rfl
@[simp] theorem q_convert {t1 t2 : TypeId} {x : Operand} : qleff P G t ⟨d, .convert t1 t2 x, ty, pos, af, g⟩ = match scal (ev G t x) with | some v => (prun P (convert t1 t2 v)).map ofV | none => none := Eq.trans rfl rfl
end
end Go.Lw
/- The local walk: loops with what is left; slices that are read, slices that are built. -/
namespace Go.Lw
open Go Go.RowKit

section
variable {P : Program} {G : List (Nat × List V)} {rd : Option Nat} {n : Nat} {st : St} {Q Q' : Exit → St → Prop}

/-- A loop; I tells what is left. -/
theorem LW.loopN {c : Code} (I : Nat → St → Prop) {m : Nat} (h₀ : I m st) (round : ∀ m s, I m s → LW P G rd n c s (Thn (fun s' => ∃ m', m' < m ∧ I m' s') Q)) : LW P G rd n (.loop c) st Q := by
  intro w0 ρ w a N h1 h2 h3 b k cs hro hb hr
  have key : ∀ j s ρ1 w1 a1, I j s → RelH G w0 s.H ρ1 w1 → RelT s.H ρ1 w1 n s.t a1.tmps → Dfr N s.H ρ1 w1 a1.defers → Ext st.H ρ w s.H ρ1 w1 →
      ∃ e a' w', Post N G w0 st.H ρ w n Q e a' w' ∧ ArrivesIn (Machine.fenced P (Fw rd)) P (lone (b.atR a1 (.code c :: .inLoop c :: k)) cs w1) b k cs e a' w' := by
    intro j
    induction j using Nat.strongRecOn with
    | _ j ih =>
      intro s ρ1 w1 a1 hI k1 k2 k3 k4
      obtain ⟨e, a₁, w₁, hq, harr⟩ := round j s hI w0 ρ1 w1 a1 N k1 k2 k3 b (.inLoop c :: k) cs hro hb hr
      have out : ∀ (e : Exit), (∀ K, Thn K Q e = Q e) → Post N G w0 s.H ρ1 w1 n (Thn (fun s' => ∃ m', m' < j ∧ I m' s') Q) e a₁ w₁ → Post N G w0 st.H ρ w n Q e a₁ w₁ := by
        intro e he hq
        obtain ⟨s', ρ2, q1, q2, q3, q4, q5⟩ := hq
        rw [he] at q1
        exact ⟨s', ρ2, q1, q2, q3, k4.trans q4, q5⟩
      cases e with
      | normal =>
        obtain ⟨s', ρ2, ⟨m', hlt, hI'⟩, q2, q3, q4, q5⟩ := hq
        obtain ⟨e₂, a₂, w₂, hq₂, harr₂⟩ := ih m' hlt s' ρ2 w₁ a₁ hI' q2 q3 q5 (k4.trans q4)
        exact ⟨e₂, a₂, w₂, hq₂, .of_steps (StepsIn.trans harr (.one (fenced_calm hb hr rfl) stepR_inLoop)) harr₂⟩
      | exit id => exact ⟨_, a₁, w₁, out _ (fun _ => rfl) hq, .pass (x := .inLoop c) rfl (fun _ _ => .inl (by simp)) harr⟩
      | goto l => exact ⟨_, a₁, w₁, out _ (fun _ => rfl) hq, .pass (x := .inLoop c) rfl (fun _ _ => .inl (by simp)) harr⟩
      | ret => exact ⟨_, a₁, w₁, out _ (fun _ => rfl) hq, .pass (x := .inLoop c) rfl (fun _ _ => .inl (by simp)) harr⟩
      | panic ch => exact ⟨_, a₁, w₁, out _ (fun _ => rfl) hq, .pass (x := .inLoop c) rfl (fun _ _ => .inl (by simp)) harr⟩
      | outgrown => exact ⟨_, a₁, w₁, out _ (fun _ => rfl) hq, .pass (x := .inLoop c) rfl (fun _ _ => .inl (by simp)) harr⟩
  obtain ⟨e, a', w', hq, harr⟩ := key _ st ρ w a h₀ h1 h2 h3 (Ext.refl _ _ _)
  exact ⟨e, a', w', hq, .of_steps (.one (fenced_calm hb hr rfl) stepR_loop) harr⟩

/-- A block; what comes behind is hidden. -/
theorem LW.blockK {id : Nat} {c : Code} (h : ∀ Z : Exit → St → Prop, (∀ e s, InB id Q e s → Z e s) → LW P G rd n c st Z) : LW P G rd n (.block id c) st Q :=
  LW.block (h _ fun _ _ h => h)

theorem LW.ct {c : Operand} {x y : Code} (hc : ev G st.t c = .b true) (h : LW P G rd n x st Q) : LW P G rd n (.cond c x y) st Q := LW.cond (b := true) hc h
theorem LW.cf {c : Operand} {x y : Code} (hc : ev G st.t c = .b false) (h : LW P G rd n y st Q) : LW P G rd n (.cond c x y) st Q := LW.cond (b := false) hc h

theorem LW.toK {c : Code} (h : ∀ Z : Exit → St → Prop, (∀ e s, Q e s → Z e s) → LW P G rd n c st Z) : LW P G rd n c st Q := h Q fun _ _ h => h
end

/-! ### The operations of a region, with what has been given so far -/
section
variable {P : Program} {G : List (Nat × List V)} {rd : Option Nat} {n : Nat} {ops : Array Oper}

/-- The value on which a guard hangs. -/
def gs (seen : List (Option Nat)) (n : Nat) (t : Nat → V) (j : Nat) : V :=
  match seen[j]? with
  | some (some d) => if d < n then t d else .ni
  | some none => .ni
  | none => .u

def lrunS (P : Program) (G : List (Nat × List V)) (n : Nat) (Q : St → Prop) : List (Option Nat) → List Oper → St → Prop
  | _, [], st => Q st
  | seen, o :: l, st => match o.guard with
    | none => ldo P G st o fun v H' => lrunS P G n Q (seen ++ [o.dst]) l ⟨updO n st.t o.dst v, H'⟩
    | some (j, want) => gK (gs seen n st.t j) want (ldo P G st o fun v H' => lrunS P G n Q (seen ++ [o.dst]) l ⟨updO n st.t o.dst v, H'⟩) (lrunS P G n Q (seen ++ [o.dst]) l ⟨updO n st.t o.dst (.t []), st.H⟩)

theorem lrunS_lrun {Q : St → Prop} : ∀ (l : List Oper) (pre : List Oper) (st : St), ops = (pre ++ l).toArray → lrunS P G n Q (pre.map (·.dst)) l st → lrun P G n ops Q l st := by
  intro l
  induction l with
  | nil => intro pre st _ h; exact h
  | cons o l ih =>
    intro pre st hops h
    have step : ∀ s, lrunS P G n Q (pre.map (·.dst) ++ [o.dst]) l s → lrun P G n ops Q l s := fun s hs => ih (pre ++ [o]) s (by rw [hops]; simp) (by simpa using hs)
    unfold lrun
    unfold lrunS at h
    split at h
    · rename_i hg
      have : lwant ops n st.t o = some true := by unfold lwant; rw [hg]
      rw [this]
      exact ldo_mono (fun v H' hr => step _ hr) h
    · rename_i j want hg
      rw [lwant_gv hg]
      have hgv : gs (pre.map (·.dst)) n st.t j = .u ∨ gs (pre.map (·.dst)) n st.t j = gv ops n st.t j := by
        unfold gs gv
        rw [List.getElem?_map]
        cases hp : pre[j]? with
        | none => exact .inl rfl
        | some p =>
          have : ops[j]? = some p := by
            rw [hops, List.getElem?_toArray, List.getElem?_append_left (List.getElem?_eq_some_iff.1 hp).1]
            exact hp
          rw [this]
          cases hd : p.dst <;> simp [hd]
      unfold gK at h
      split at h
      · rename_i y hy
        rw [hy] at hgv
        rw [← hgv.resolve_left (by simp)]
        dsimp only
        split at h
        · rename_i hyw
          subst hyw
          simp only [beq_self_eq_true]
          exact ldo_mono (fun v H' hr => step _ hr) h
        · rename_i hyw
          have : (y == want) = false := by cases y <;> cases want <;> simp_all
          rw [this]
          exact step _ h
      · exact h.elim
      · rename_i h1 h2
        have hgv' := hgv.resolve_left (fun e => h2 e)
        rw [← hgv']
        generalize gs (pre.map (·.dst)) n st.t j = x at h1 h2
        cases x <;> first | exact step _ h | exact absurd rfl (h1 _) | exact absurd rfl h2

theorem LW.opsS {id : Nat} {l : List Oper} {st : St} {Q : Exit → St → Prop} (h : lrunS P G n (fun s => Q .normal s) [] l st) : LW P G rd n (.region id l.toArray false) st Q :=
  LW.ops (lrunS_lrun l [] st (by simp) h)

section
variable {Q : St → Prop} {seen : List (Option Nat)} {l : List Oper} {t : Nat → V} {H : List LB} {d : Option Nat} {op : Op} {ty : TypeId} {pos : String} {af : Array Edge}
theorem lrunS_nil {st : St} : lrunS P G n Q seen [] st = Q st := Eq.trans rfl rfl
theorem lrunS_cons : lrunS P G n Q seen (⟨d, op, ty, pos, af, none⟩ :: l) ⟨t, H⟩ = ldo P G ⟨t, H⟩ ⟨d, op, ty, pos, af, none⟩ fun v H' => lrunS P G n Q (seen ++ [d]) l ⟨updO n t d v, H'⟩ := Eq.trans rfl rfl
theorem lrunS_guard {j : Nat} {want : Bool} : lrunS P G n Q seen (⟨d, op, ty, pos, af, some (j, want)⟩ :: l) ⟨t, H⟩ = gK (gs seen n t j) want (ldo P G ⟨t, H⟩ ⟨d, op, ty, pos, af, some (j, want)⟩ fun v H' => lrunS P G n Q (seen ++ [d]) l ⟨updO n t d v, H'⟩) (lrunS P G n Q (seen ++ [d]) l ⟨updO n t d (.t []), H⟩) := Eq.trans rfl rfl
end

/-- A quiet operation with a guard may be taken first. -/
theorem lany_g (i dj : Nat) {o : Oper} {j : Nat} {want : Bool} {md : Region.Mode} {Q : St → Prop} {fuel : Nat} {listed : Array Bool} {t : Nat → V} {H : List LB} (hi : ops[i]? = some o)
    (hf : (Region.free md ops listed i && (Region.ready md ops listed).contains i) = true) (hg : o.guard = some (j, want)) (hd : (ops[j]?).bind (·.dst) = some dj) (hn : dj < n)
    (h : gK (t dj) want (oK (qleff P G t o) fun v => lany P G n md ops Q fuel (listed.setIfInBounds i true) ⟨updO n t o.dst v, H⟩) (lany P G n md ops Q fuel (listed.setIfInBounds i true) ⟨updO n t o.dst (.t []), H⟩)) : lany P G n md ops Q (fuel + 1) listed ⟨t, H⟩ := by
  refine lany_q i hi hf ?_
  unfold lq
  rw [hg]
  dsimp only
  have : gv ops n t j = t dj := by unfold gv; rw [hd]; dsimp only; rw [if_pos hn]
  rw [this]
  exact h

/-- Only one may come up; it has a guard. -/
theorem lany_og (i dj : Nat) {o : Oper} {j : Nat} {want : Bool} {md : Region.Mode} {Q : St → Prop} {fuel : Nat} {listed : Array Bool} {t : Nat → V} {H : List LB} (hr : Region.ready md ops listed = [i]) (ho : ops[i]? = some o) (hg : o.guard = some (j, want)) (hd : (ops[j]?).bind (·.dst) = some dj) (hn : dj < n)
    (h : gK (t dj) want (ldo P G ⟨t, H⟩ o fun v H' => lany P G n md ops Q fuel (listed.setIfInBounds i true) ⟨updO n t o.dst v, H'⟩) (lany P G n md ops Q fuel (listed.setIfInBounds i true) ⟨updO n t o.dst (.t []), H⟩)) : lany P G n md ops Q (fuel + 1) listed ⟨t, H⟩ := by
  refine lany_o i hr ho ?_
  rw [hg]
  dsimp only
  have : gv ops n t j = t dj := by unfold gv; rw [hd]; dsimp only; rw [if_pos hn]
  rw [this]
  exact h
end

/-! ### What simp looks into -/
section
variable {P : Program} {G : List (Nat × List V)}
@[congr] theorem oK_congr {x x' : Option V} {K : V → Prop} (h : x = x') : oK x K = oK x' K := by rw [h]
@[congr] theorem oK2_congr {x x' : Option (V × List LB)} {K : V → List LB → Prop} (h : x = x') : oK2 x K = oK2 x' K := by rw [h]
@[congr] theorem oKH_congr {x x' : Option (List LB)} {K : List LB → Prop} (h : x = x') : oKH x K = oKH x' K := by rw [h]
@[congr] theorem pickK_congr {c c' a b : V} {K : V → Prop} (h : c = c') : pickK c a b K = pickK c' a b K := by rw [h]
@[congr] theorem nilK_congr {c c' : V} {K : V → Prop} (h : c = c') : nilK c K = nilK c' K := by rw [h]
@[congr] theorem convK_congr {s d : TypeId} {H : List LB} {c c' : V} {K : V → List LB → Prop} (h : c = c') : convK P H s d c K = convK P H s d c' K := by rw [h]
@[congr] theorem unK_congr {op : UnOp} {c c' : V} {K : V → Prop} (h : c = c') : unK P op c K = unK P op c' K := by rw [h]
@[congr] theorem mmK_congr {b : Builtin} {H : List LB} {ats : Array TypeId} {x x' y y' : V} {K : V → List LB → Prop} (h : x = x') (h2 : y = y') : mmK P b H ats x y K = mmK P b H ats x' y' K := by rw [h, h2]
@[congr] theorem allocK_congr {t t' : TypeId} {H : List LB} {K : V → List LB → Prop} (h : t = t') : allocK P H t K = allocK P H t' K := by rw [h]
@[congr] theorem callK_congr {f : FuncId} {args args' : List V} {H : List LB} {K : V → List LB → Prop} (h : args = args') : callK P G f args H K = callK P G f args' H K := by rw [h]
@[congr] theorem gK_congr {x x' : V} {w : Bool} {A B : Prop} (h : x = x') : gK x w A B = gK x' w A B := by rw [h]
@[congr] theorem gs_congr {seen seen' : List (Option Nat)} {n : Nat} {t : Nat → V} {j : Nat} (h : seen = seen') : gs seen n t j = gs seen' n t j := by rw [h]
@[congr] theorem LW_congr {rd rd' : Option Nat} {n : Nat} {c : Code} {st : St} {Q : Exit → St → Prop} (h : rd = rd') : LW P G rd n c st Q = LW P G rd' n c st Q := by rw [h]
@[congr] theorem lany_congr {n n' : Nat} {md : Region.Mode} {ops : Array Oper} {Q : St → Prop} {fuel : Nat} {listed : Array Bool} {st : St} (h : n = n') : lany P G n md ops Q fuel listed st = lany P G n' md ops Q fuel listed st := by rw [h]
end
attribute [simp ↓] lrunS_cons lrunS_nil lrunS_guard upd_apply Thn_normal Thn_ret Thn_exit Thn_goto InB_normal InB_ret InB_exit InB_goto
attribute [simp ↓] ldo_move ldo_assign ldo_pick ldo_bin ldo_load ldo_store ldo_slice ldo_fieldAddr ldo_field ldo_indexAddr ldo_index ldo_lookup ldo_mapUpdate ldo_insert ldo_extract ldo_build ldo_buildSlice ldo_makeMap ldo_makeSlice ldo_box ldo_makeFunc ldo_makeInterface ldo_nilCheck ldo_convert ldo_unOp ldo_alloc ldo_fn ldo_len ldo_append ldo_copy ldo_min ldo_max
attribute [simp ↓] lq_none lq_some

/-! ### Values -/
@[simp] theorem cells_i {k : IntKind} {x : Int} : (V.i k x).cells = [.i k x] := rfl
@[simp] theorem cells_b {x : Bool} : (V.b x).cells = [.b x] := rfl
@[simp] theorem cells_s {x : ByteArray} : (V.s x).cells = [.s x] := rfl
@[simp] theorem cells_sl {z : Nat} {xs : List V} : (V.sl z xs).cells = [.sl z xs] := rfl
@[simp] theorem cells_nsl : V.nsl.cells = [.nsl] := rfl
@[simp] theorem cells_own {r o n c x : Nat} : (V.own r o n c x).cells = [.own r o n c x] := rfl
@[simp] theorem cells_p {r o : Nat} : (V.p r o).cells = [.p r o] := rfl
@[simp] theorem cells_ep {cs : List V} {k : Nat} : (V.ep cs k).cells = [.ep cs k] := rfl
@[simp] theorem cells_np : V.np.cells = [.np] := rfl
@[simp] theorem cells_m {r : Nat} : (V.m r).cells = [.m r] := rfl
@[simp] theorem cells_nm : V.nm.cells = [.nm] := rfl
@[simp] theorem cells_a {cs : List V} : (V.a cs).cells = cs := rfl
@[simp] theorem one_i {k : IntKind} {x : Int} : (V.i k x).one = true := rfl
@[simp] theorem one_b {x : Bool} : (V.b x).one = true := rfl
@[simp] theorem one_s {x : ByteArray} : (V.s x).one = true := rfl
@[simp] theorem one_sl {z : Nat} {xs : List V} : (V.sl z xs).one = true := rfl
@[simp] theorem one_nsl : V.nsl.one = true := rfl
@[simp] theorem one_own {r o n c x : Nat} : (V.own r o n c x).one = true := rfl
@[simp] theorem one_p {r o : Nat} : (V.p r o).one = true := rfl
@[simp] theorem one_m {r : Nat} : (V.m r).one = true := rfl
@[simp] theorem known_i {k : IntKind} {x : Int} : (V.i k x).known = true := rfl
@[simp] theorem known_b {x : Bool} : (V.b x).known = true := rfl
@[simp] theorem known_s {x : ByteArray} : (V.s x).known = true := rfl
@[simp] theorem known_sl {z : Nat} {xs : List V} : (V.sl z xs).known = true := rfl
@[simp] theorem known_nsl : V.nsl.known = true := rfl
@[simp] theorem known_own {r o n c x : Nat} : (V.own r o n c x).known = true := rfl
@[simp] theorem known_p {r o : Nat} : (V.p r o).known = true := rfl
@[simp] theorem known_a {cs : List V} : (V.a cs).known = true := rfl
@[simp] theorem noMap_sl {z : Nat} {xs : List V} : (V.sl z xs).noMap = true := rfl

/-- Whole numbers. -/
def isl (l : List Int) : V := .sl 1 (l.map (V.i .i64))
/-- Bytes. -/
def bcs (l : List UInt8) : List V := l.map fun c => V.i .u8 (c.toNat : Int)
def bsl (l : List UInt8) : V := .sl 1 (bcs l)
/-- Texts. -/
def ssl (l : List ByteArray) : V := .sl 1 (l.map V.s)

section
variable {P : Program} {G : List (Nat × List V)} {H : List LB} {t e ty : TypeId} {z i : Nat} {xs : List V} {k : IntKind}

theorem llen_sl (hu : P.underlying t = some (.slice e)) : llen P H t (.sl z xs) = some (.i .i64 (xs.length : Int)) := by simp [llen, hu]
theorem llen_nsl (hu : P.underlying t = some (.slice e)) : llen P H t .nsl = some (.i .i64 0) := by simp [llen, hu]
theorem llen_own {r o n c x : Nat} (hu : P.underlying t = some (.slice e)) : llen P H t (.own r o n c x) = some (.i .i64 (n : Int)) := by simp [llen, hu]
theorem llen_s {b : ByteArray} (hu : P.underlying t = some .string) : llen P H t (.s b) = some (.i .i64 (b.size : Int)) := by simp [llen, hu]

theorem liaddr_sl {y : V} (hu : P.underlying t = some (.slice e)) (hz : tsz P e = some z) (hi : xs[i]? = some y) : liaddr P t (.sl z xs) (.i k (i : Int)) = some (.ep y.cells 0) := by
  have hlt := (List.getElem?_eq_some_iff.1 hi).1
  have h : (i : Int) < (xs.length : Int) := by omega
  have hy : xs[i] = y := (List.getElem?_eq_some_iff.1 hi).2
  simp [liaddr, hu, hz, hlt, hy]

theorem rdv_one {y : V} (ha : tagg P ty = some false) : rdv P ty [y] 0 = some y := by simp [rdv, ha]
theorem lload_one {y : V} (ha : tagg P ty = some false) : lload P H ty (.ep [y] 0) = some y := by simp [lload, rdv, ha]
theorem lload_p {r o : Nat} {cs : List V} {e' : TypeId} {m : Bool} {y : V} (hr : H[r]? = some (.c cs e' m)) (ha : tagg P ty = some false) (hy : cs[o]? = some y) : lload P H ty (.p r o) = some y := by simp [lload, rdv, ha, hr, hy]
theorem lload_ep {o : Nat} {cs : List V} {y : V} (ha : tagg P ty = some false) (hy : cs[o]? = some y) : lload P H ty (.ep cs o) = some y := by simp [lload, rdv, ha, hy]

theorem liaddr_own {r o n c x : Nat} (hu : P.underlying t = some (.slice e)) (hz : tsz P e = some z) (hi : i < n) : liaddr P t (.own r o n c x) (.i k (i : Int)) = some (.p r (o + i * z)) := by
  have h : (i : Int) < (n : Int) := by omega
  simp [liaddr, hu, hz, h]
end

/-- A slice that is built: nil, or the whole of a block of one's own, behind the first k. -/
def Own (k : Nat) (H : List LB) (v : V) (z : Nat) (e : TypeId) (cs : List V) : Prop :=
  (v = .nsl ∧ cs = []) ∨ ∃ r n, v = .own r 0 n n z ∧ k ≤ r ∧ H[r]? = some (.c cs e true) ∧ cs.length = n * z

theorem lsrc_sl {H : List LB} {z : Nat} {xs : List V} : lsrc H z (.sl z xs) = some (xs.length, xs.flatMap V.cells) := by simp [lsrc]

theorem take_append_get {H : List LB} {k r : Nat} {lb : LB} (hk : k ≤ H.length) (h : (H.take k)[r]? = some lb) (X : List LB) : (H ++ X)[r]? = some lb := by
  have hr := (List.getElem?_eq_some_iff.1 h).1
  simp at hr
  rw [List.getElem?_take_of_lt (by omega)] at h
  rw [List.getElem?_append_left (by omega)]
  exact h

theorem append_Own {P : Program} {k : Nat} {H : List LB} {v x : V} {z by_ : Nat} {e t t1 : TypeId} {zv : Value} {d1 : TypeDesc} {cs news : List V} {m : Nat} {ats : Array TypeId} {K : V → List LB → Prop} (h : Own k H v z e cs) (hkl : k ≤ H.length) (h0 : ats[0]? = some t) (h1 : ats[1]? = some t1)
    (hu : P.underlying t = some (.slice e)) (hu1 : P.underlying t1 = some d1) (hd : isInt d1 = false) (hi : tinf P e = some (some zv, z, by_)) (hz : 0 < z) (hzv : zv.cells.size = z) (hsrc : lsrc H z x = some (m, news)) (hl : news.length = m * z) (hone : news.all V.one = true)
    (hb : (cs.length + news.length) * by_ ≤ 140737488355328) (hb2 : cs.length + news.length ≤ 9223372036854775807)
    (hK : ∀ v' H', Own k H' v' z e (cs ++ news) → H'.take k = H.take k → k ≤ H'.length → K v' H') : oK2 (lappend P H ats v x) K := by
  obtain ⟨inf, hinf, hi1, hi2, hi3⟩ : ∃ inf, P.info? e = some inf ∧ inf.zero = some zv ∧ inf.size = z ∧ inf.bytes = by_ := by
    unfold tinf at hi
    cases hp : P.info? e with
    | none => rw [hp] at hi; cases hi
    | some inf =>
      rw [hp] at hi
      injection hi with hi
      injection hi with a b
      injection b with b c
      exact ⟨inf, rfl, a, b, c⟩
  subst hi2 hi3
  have hmz : m ≤ m * inf.size := Nat.le_mul_of_pos_right m hz
  unfold lappend
  rw [h0, h1]
  dsimp only
  rw [hu, hu1]
  dsimp only
  rw [hinf]
  dsimp only
  rw [hi1]
  dsimp only
  rw [if_pos ⟨hd, hz, hzv⟩, hsrc]
  dsimp only
  rw [if_pos hone]
  rcases h with ⟨rfl, rfl⟩ | ⟨r, n, rfl, hkr, hr, hcs⟩
  · dsimp only
    split
    · rename_i hm
      subst hm
      have : news = [] := List.eq_nil_of_length_eq_zero (by simpa using hl)
      subst this
      exact hK _ _ (.inl ⟨rfl, rfl⟩) rfl hkl
    · rename_i hm
      simp only [List.length_nil, Nat.zero_add] at hb hb2
      rw [if_pos ⟨Nat.le_trans (Nat.mul_le_mul_right _ (by omega)) hb, by omega⟩]
      refine hK _ _ (.inr ⟨H.length, m, rfl, hkl, by simp, by simpa using hl⟩) ?_ (by simp; omega)
      rw [List.take_append_of_le_length hkl]
  · dsimp only
    split
    · rename_i hm
      subst hm
      have : news = [] := List.eq_nil_of_length_eq_zero (by simpa using hl)
      subst this
      exact hK _ _ (.inr ⟨r, n, rfl, hkr, by simpa using hr, by simpa using hcs⟩) rfl hkl
    · rename_i hm
      have hnz : n ≤ n * inf.size := Nat.le_mul_of_pos_right n hz
      have hrl := (List.getElem?_eq_some_iff.1 hr).1
      rw [hr]
      dsimp only
      rw [if_pos (by omega), if_neg (by omega), if_pos ⟨Nat.le_trans (Nat.mul_le_mul_right _ (by omega)) hb, by omega⟩, if_neg (by omega), if_pos ⟨rfl, rfl, rfl⟩]
      refine hK _ _ (.inr ⟨H.length, n + m, rfl, by omega, ?_, ?_⟩) ?_ (by simp; omega)
      · rw [List.getElem?_append_right (by simp)]
        simp
        rw [← hcs, List.take_length]
      · simp
        rw [hcs, hl, Nat.add_mul]
      · rw [List.take_append_of_le_length (by simp; omega), List.take_set]
        rw [List.set_eq_of_length_le (by simp; omega)]

/-- What is built is left behind, and told by its contents. -/
theorem Own.pur {k : Nat} {H : List LB} {v : V} {e : TypeId} {cs : List V} (h : Own k H v 1 e cs) (hl : ∀ x ∈ cs, V.Lt k x ∧ x.cells = [x]) : Pur H k v (.sl 1 cs) := by
  rcases h with ⟨rfl, rfl⟩ | ⟨r, n, rfl, hkr, hr, hcs⟩
  · exact .nsl
  · refine .own (fun j _ => cs.getD j .u) hr hkr (by omega) (fun x hx => by rw [(hl x hx).2]; rfl) (fun j q hj hq => ?_) (fun j x hj q y hq => ?_)
    · have : q = 0 := by omega
      subst this
      have hjl : j < cs.length := by omega
      simp [hjl]
    · have hx := hl x (List.mem_of_getElem? hj)
      rw [hx.2] at hq
      have hjl := (List.getElem?_eq_some_iff.1 hj).1
      have hxe : cs.getD j .u = x := by rw [List.getD_eq_getElem?_getD, hj]; rfl
      cases q with
      | zero =>
        simp at hq
        subst hq
        rw [hxe]
        exact .lt hx.1
      | succ q => simp at hq
end Go.Lw
/- The local walk: step by step. -/
namespace Go.Lw
open Go Go.RowKit

section
variable {P : Program} {G : List (Nat × List V)} {rd : Option Nat} {n : Nat} {ops : Array Oper} {Q : St → Prop} {Z : Exit → St → Prop} {l : List Oper} {t : Nat → V} {H : List LB} {d : Nat} {op : Op} {ty : TypeId} {pos : String} {af : Array Edge}

theorem lrun_end {st : St} (h : Q st) : lrun P G n ops Q [] st := h

theorem lrun_step (hd : d < n) (h : ∀ K : V → List LB → Prop, (∀ v H', lrun P G n ops Q l ⟨upd t d v, H'⟩ → K v H') → ldo P G ⟨t, H⟩ ⟨some d, op, ty, pos, af, none⟩ K) : lrun P G n ops Q (⟨some d, op, ty, pos, af, none⟩ :: l) ⟨t, H⟩ := by
  rw [lrun_cons]
  refine h _ fun v H' hk => ?_
  rw [updO_some, if_pos hd]
  exact hk

theorem lrun_stepN (h : ∀ K : V → List LB → Prop, (∀ v H', lrun P G n ops Q l ⟨t, H'⟩ → K v H') → ldo P G ⟨t, H⟩ ⟨none, op, ty, pos, af, none⟩ K) : lrun P G n ops Q (⟨none, op, ty, pos, af, none⟩ :: l) ⟨t, H⟩ := by
  rw [lrun_cons]
  exact h _ fun v H' hk => hk

theorem lrun_stepG {dj j : Nat} {want : Bool} (hj : (ops[j]?).bind (·.dst) = some dj) (hn : dj < n) (hd : d < n) (h : ∀ K : V → List LB → Prop, (∀ v H', lrun P G n ops Q l ⟨upd t d v, H'⟩ → K v H') → gK (t dj) want (ldo P G ⟨t, H⟩ ⟨some d, op, ty, pos, af, some (j, want)⟩ K) (K (.t []) H)) :
    lrun P G n ops Q (⟨some d, op, ty, pos, af, some (j, want)⟩ :: l) ⟨t, H⟩ := by
  rw [lrun_guard]
  have hg : gv ops n t j = t dj := by unfold gv; rw [hj]; dsimp only; rw [if_pos hn]
  rw [hg]
  have := h (fun v H' => lrun P G n ops Q l ⟨updO n t (some d) v, H'⟩) fun v H' hk => by
    rw [updO_some, if_pos hd]
    exact hk
  exact this

theorem LW.seq_ops {id : Nat} {y : Code} {st : St} (h : lrun P G n l.toArray (fun s => LW P G rd n y s Z) l st) : LW P G rd n (.seq (.region id l.toArray false) y) st Z := LW.seq (LW.ops h)

theorem thn_n {K : St → Prop} {s : St} (h : K s) : Thn K Z .normal s := h
theorem thn_r {K : St → Prop} {s : St} (h : Z .ret s) : Thn K Z .ret s := h
theorem thn_e {K : St → Prop} {s : St} {j : Nat} (h : Z (.exit j) s) : Thn K Z (.exit j) s := h
theorem thn_g {K : St → Prop} {s : St} {j : Nat} (h : Z (.goto j) s) : Thn K Z (.goto j) s := h
theorem inb_n {s : St} {j : Nat} (h : Z .normal s) : InB j Z .normal s := h
theorem inb_r {s : St} {j : Nat} (h : Z .ret s) : InB j Z .ret s := h
theorem inb_g {s : St} {j k : Nat} (h : Z (.goto k) s) : InB j Z (.goto k) s := h
theorem inb_x {s : St} {j : Nat} (h : Z .normal s) : InB j Z (.exit j) s := by
  rw [InB_exit, if_pos rfl]
  exact h
theorem inb_e {s : St} {i j : Nat} (hne : i ≠ j) (h : Z (.exit i) s) : InB j Z (.exit i) s := by
  rw [InB_exit, if_neg hne]
  exact h

/-- Drawn: what comes behind is hidden. -/
theorem lany_qK (i : Nat) {o : Oper} {d : Nat} {md : Region.Mode} {fuel : Nat} {listed : Array Bool} (hi : ops[i]? = some o)
    (hf : (Region.free md ops listed i && (Region.ready md ops listed).contains i) = true) (hg : o.guard = none) (hd : o.dst = some d) (hn : d < n)
    (h : ∀ K : V → Prop, (∀ v, lany P G n md ops Q fuel (listed.setIfInBounds i true) ⟨upd t d v, H⟩ → K v) → oK (qleff P G t o) K) : lany P G n md ops Q (fuel + 1) listed ⟨t, H⟩ := by
  refine lany_q i hi hf ?_
  unfold lq
  rw [hg]
  refine h _ fun v hv => ?_
  rw [hd, updO_some, if_pos hn]
  exact hv

theorem lany_gK (i : Nat) {dj : Nat} {o : Oper} {d j : Nat} {want : Bool} {md : Region.Mode} {fuel : Nat} {listed : Array Bool} (hi : ops[i]? = some o)
    (hf : (Region.free md ops listed i && (Region.ready md ops listed).contains i) = true) (hg : o.guard = some (j, want)) (hj : (ops[j]?).bind (·.dst) = some dj) (hjn : dj < n) (hd : o.dst = some d) (hn : d < n)
    (h : ∀ K : V → Prop, (∀ v, lany P G n md ops Q fuel (listed.setIfInBounds i true) ⟨upd t d v, H⟩ → K v) → gK (t dj) want (oK (qleff P G t o) K) (K (.t []))) : lany P G n md ops Q (fuel + 1) listed ⟨t, H⟩ := by
  refine lany_g i dj hi hf hg hj hjn ?_
  have := h (fun v => lany P G n md ops Q fuel (listed.setIfInBounds i true) ⟨updO n t o.dst v, H⟩) fun v hv => by
    rw [hd, updO_some, if_pos hn]
    exact hv
  exact this

theorem lany_oK (i : Nat) {o : Oper} {d : Nat} {md : Region.Mode} {fuel : Nat} {listed : Array Bool} (hr : Region.ready md ops listed = [i]) (hi : ops[i]? = some o) (hg : o.guard = none) (hd : o.dst = some d) (hn : d < n)
    (h : ∀ K : V → List LB → Prop, (∀ v H', lany P G n md ops Q fuel (listed.setIfInBounds i true) ⟨upd t d v, H'⟩ → K v H') → ldo P G ⟨t, H⟩ o K) : lany P G n md ops Q (fuel + 1) listed ⟨t, H⟩ := by
  refine lany_o i hr hi ?_
  rw [hg]
  refine h _ fun v H' hv => ?_
  rw [hd, updO_some, if_pos hn]
  exact hv

theorem lany_oN (i : Nat) {o : Oper} {md : Region.Mode} {fuel : Nat} {listed : Array Bool} (hr : Region.ready md ops listed = [i]) (hi : ops[i]? = some o) (hg : o.guard = none) (hd : o.dst = none)
    (h : ∀ K : V → List LB → Prop, (∀ v H', lany P G n md ops Q fuel (listed.setIfInBounds i true) ⟨t, H'⟩ → K v H') → ldo P G ⟨t, H⟩ o K) : lany P G n md ops Q (fuel + 1) listed ⟨t, H⟩ := by
  refine lany_o i hr hi ?_
  rw [hg]
  refine h _ fun v H' hv => ?_
  rw [hd]
  exact hv

theorem lany_ogK (i : Nat) {dj : Nat} {o : Oper} {d j : Nat} {want : Bool} {md : Region.Mode} {fuel : Nat} {listed : Array Bool} (hr : Region.ready md ops listed = [i]) (hi : ops[i]? = some o) (hg : o.guard = some (j, want)) (hj : (ops[j]?).bind (·.dst) = some dj) (hjn : dj < n) (hd : o.dst = some d) (hn : d < n)
    (h : ∀ K : V → List LB → Prop, (∀ v H', lany P G n md ops Q fuel (listed.setIfInBounds i true) ⟨upd t d v, H'⟩ → K v H') → gK (t dj) want (ldo P G ⟨t, H⟩ o K) (K (.t []) H)) : lany P G n md ops Q (fuel + 1) listed ⟨t, H⟩ := by
  refine lany_og i dj hr hi hg hj hjn ?_
  have := h (fun v H' => lany P G n md ops Q fuel (listed.setIfInBounds i true) ⟨updO n t o.dst v, H'⟩) fun v H' hv => by
    rw [hd, updO_some, if_pos hn]
    exact hv
  exact this

theorem LW.seq_draw {id : Nat} {y : Code} {st : St} (hm : P.follows .mixedOrders = true) (h : lany P G n .any ops (fun s => LW P G rd n y s Z) ops.size (Array.replicate ops.size false) st) : LW P G rd n (.seq (.region id ops true) y) st Z :=
  LW.seq (LW.draw hm h)
end
end Go.Lw
/- The local walk: blocks that are written no more; calls that only read. -/
namespace Go.Lw
open Go Go.RowKit

/-- Is a block one that nobody writes any more? -/
def shut (H' : List LB) (r : Nat) : Prop := ∃ lb, H'[r]? = some lb ∧ lb.mu = false

/-- A value is told anew: what lies in blocks of H that in H' are written no more is told by its contents. -/
inductive PurS (H H' : List LB) : V → V → Prop
  | same (v : V) : PurS H H' v v
  | nsl {z : Nat} : PurS H H' .nsl (.sl z [])
  | own {r o n c x z : Nat} {cs : List V} {e : TypeId} {mu : Bool} {xs : List V} (ys : Nat → Nat → V) (hr : H[r]? = some (.c cs e mu)) (hk : shut H' r) (hn : xs.length = n) (hz : ∀ x ∈ xs, x.cells.length = z)
      (hc : ∀ j q, j < n → q < z → cs[o + (j * z + q)]? = some (ys j q))
      (hp : ∀ (j : Nat) (x : V), xs[j]? = some x → ∀ (q : Nat) (y : V), x.cells[q]? = some y → PurS H H' (ys j q) y) : PurS H H' (.own r o n c x) (.sl z xs)
  | p {r o : Nat} {cs : List V} {e : TypeId} {mu : Bool} {cs' : List V} (hr : H[r]? = some (.c cs e mu)) (hk : shut H' r) (ys : Nat → V) (hc : ∀ q, q < cs'.length → cs[q]? = some (ys q))
      (hp : ∀ (q : Nat) (y : V), cs'[q]? = some y → PurS H H' (ys q) y) : PurS H H' (.p r o) (.ep cs' o)
  | it {t : TypeId} {x y : V} (h : PurS H H' x y) : PurS H H' (.it t x) (.it t y)
  | a {cs cs' : List V} (hl : cs.length = cs'.length) (h : ∀ (q : Nat) (x y : V), cs[q]? = some x → cs'[q]? = some y → PurS H H' x y) : PurS H H' (.a cs) (.a cs')
  | t {cs cs' : List V} (hl : cs.length = cs'.length) (h : ∀ (q : Nat) (x y : V), cs[q]? = some x → cs'[q]? = some y → PurS H H' x y) : PurS H H' (.t cs) (.t cs')

/-- One block is told anew. -/
def Told (H H' : List LB) (lb lb' : LB) : Prop :=
  lb' = lb ∨ (lb' = .dead) ∨ ∃ cs e m cs' m', lb = .c cs e m ∧ lb' = .c cs' e m' ∧ (m' = true → m = true) ∧ cs'.length ≤ cs.length ∧ ∀ (q : Nat) (x y : V), cs[q]? = some x → cs'[q]? = some y → PurS H H' x y

/-- The blocks are told anew. -/
def Retell (H H' : List LB) : Prop := H'.length = H.length ∧ ∀ (r : Nat) lb lb', H[r]? = some lb → H'[r]? = some lb' → Told H H' lb lb'

section
variable {G : List (Nat × List V)} {w0 w : World} {H H' : List LB} {ρ : List (Nat × Nat)}

theorem Told.mu {lb lb' : LB} (h : Told H H' lb lb') (hm : lb'.mu = true) : lb.mu = true := by
  rcases h with rfl | rfl | ⟨cs, e, m, cs', m', rfl, rfl, hmm, _⟩
  · exact hm
  · cases hm
  · exact hmm hm

theorem Retell.get (h : Retell H H') {r : Nat} {lb' : LB} (hr : H'[r]? = some lb') : ∃ lb, H[r]? = some lb ∧ Told H H' lb lb' := by
  have hlt := (List.getElem?_eq_some_iff.1 hr).1
  rw [h.1] at hlt
  exact ⟨H[r], List.getElem?_eq_getElem hlt, h.2 r _ _ (List.getElem?_eq_getElem hlt) hr⟩

theorem Retell.ok (h : Retell H H') {b : Nat} (hb : Ok H ρ w b) : Ok H' ρ w b := by
  refine ⟨hb.1, fun r lb' hr hm d => ?_⟩
  obtain ⟨lb, h1, h2⟩ := h.get hr
  exact hb.2 r lb h1 (h2.mu hm) d

theorem Retell.ext (h : Retell H H') : Ext H ρ w H' ρ w := ⟨fun _ hb => h.ok hb, fun _ _ => rfl, fun _ _ h => h, fun _ arr _ fr h => ⟨arr, fr, h, rfl⟩, Nat.le_refl _⟩

theorem Retell.shut_ok (h : Retell H H') (hR : RelH G w0 H ρ w) {r b d : Nat} {cs : List V} {e : TypeId} {mu : Bool} (hr : H[r]? = some (.c cs e mu)) (hk : shut H' r) (hρ : ρ[r]? = some (b, d)) : Ok H' ρ w b := by
  cases mu with
  | false => exact h.ok (hR.seal_ r cs e b d hr hρ)
  | true =>
    obtain ⟨o, ho, _⟩ := hR.is r _ b d hr hρ
    refine ⟨(Array.getElem?_eq_some_iff.1 ho).1, fun r' lb' hr' hm d' hx => ?_⟩
    obtain ⟨lb, h1, h2⟩ := h.get hr'
    have := hR.inj r' r lb _ b d' d h1 hr (h2.mu hm) rfl hx hρ
    subst this
    obtain ⟨lb2, h3, h4⟩ := hk
    rw [hr'] at h3
    injection h3 with h3
    subst h3
    rw [hm] at h4
    cases h4

theorem PurS.run (hR : RelH G w0 H ρ w) (h : Retell H H') {v v' : V} (hp : PurS H H' v v') : ∀ {val : Value}, VR w (Ok H ρ w) ρ v val → VR w (Ok H' ρ w) ρ v' val := by
  induction hp with
  | same v => exact fun hv => (h.ext (ρ := ρ) (w := w)).vr hv
  | nsl =>
    intro val hv
    cases hv
    exact .sl0
  | @own r o n c x z cs e mu xs ys hr hk hn hz hc hp ih =>
    intro val hv
    cases hv with
    | @own _ _ _ _ c' b d _ hρ hnc hcc hx hs =>
      have hfc := fc_ptr hR hr hρ
      subst hn
      refine .sl (fun j q => (w.cell? ⟨b, d + o + (j * z + q), none⟩).getD undef) (by omega) hz (fun _ _ => h.shut_ok hR hr hk hρ) (fun j q hj hq => ?_) (fun j x hj q y hq => ?_)
      · obtain ⟨u, h1, _⟩ := hfc _ _ (hc j q hj hq)
        rw [← Nat.add_assoc] at h1
        rw [h1]
        rfl
      · have hjl := (List.getElem?_eq_some_iff.1 hj).1
        have hql := (List.getElem?_eq_some_iff.1 hq).1
        rw [hz x (List.mem_of_getElem? hj)] at hql
        obtain ⟨u, h1, h2⟩ := hfc _ _ (hc j q hjl hql)
        rw [← Nat.add_assoc] at h1
        rw [h1]
        exact ih j x hj q y hq h2
    | own0 ad hr0 ha =>
      obtain ⟨b, f, rfl⟩ := ha
      obtain rfl : xs = [] := List.eq_nil_of_length_eq_zero hn
      exact .sl (fun _ _ => undef) (Nat.le_refl _) hz (fun e _ => absurd rfl e) (fun j q hj => by simp at hj) (fun j x hj => by simp at hj)
  | @p r o cs e mu cs' hr hk ys hc hp ih =>
    intro val hv
    cases hv with
    | @p _ _ b d hρ =>
      have hfc := fc_ptr hR hr hρ
      refine .ep (fun q => (w.cell? ⟨b, d + q, none⟩).getD undef) (fun _ => h.shut_ok hR hr hk hρ) (fun q hq => ?_) (fun q y hq => ?_)
      · obtain ⟨u, h1, _⟩ := hfc _ _ (hc q hq)
        rw [h1]
        rfl
      · have hql := (List.getElem?_eq_some_iff.1 hq).1
        obtain ⟨u, h1, h2⟩ := hfc _ _ (hc q hql)
        rw [h1]
        exact ih q y hq h2
  | it _ ih =>
    intro val hv
    cases hv with
    | it hv => exact .it (ih hv)
  | a hl _ ih =>
    intro val hv
    cases hv with
    | a hs hv =>
      refine .a (by omega) fun q y v h1 h2 => ?_
      have hq := (List.getElem?_eq_some_iff.1 h1).1
      exact ih q _ y (List.getElem?_eq_getElem (by omega)) h1 (hv q _ v (List.getElem?_eq_getElem (by omega)) h2)
  | t hl _ ih =>
    intro val hv
    cases hv with
    | t hs hv =>
      refine .t (by omega) fun q y v h1 h2 => ?_
      have hq := (List.getElem?_eq_some_iff.1 h1).1
      exact ih q _ y (List.getElem?_eq_getElem (by omega)) h1 (hv q _ v (List.getElem?_eq_getElem (by omega)) h2)

theorem RelH.retell (hR : RelH G w0 H ρ w) (h : Retell H H') : RelH G w0 H' ρ w := by
  refine ⟨by rw [hR.len, h.1], hR.bel, ?_, ?_, ?_, ?_, ?_⟩
  · intro r lb' b d h1 h2 hm
    obtain ⟨lb, h3, h4⟩ := h.get h1
    exact hR.blk r lb b d h3 h2 (h4.mu hm)
  · intro r r' lb1 lb2 b d d' h1 h2 hm1 hm2 h3 h4
    obtain ⟨l1, k1, k2⟩ := h.get h1
    obtain ⟨l2, k3, k4⟩ := h.get h2
    exact hR.inj r r' l1 l2 b d d' k1 k3 (k2.mu hm1) (k4.mu hm2) h3 h4
  · intro r cs' e b d h1 h2
    obtain ⟨lb, h3, h4⟩ := h.get h1
    rcases h4 with rfl | h4 | ⟨cs, e2, m, cs2, m', rfl, e3, _, _, _⟩
    · exact h.ok (hR.seal_ r cs' e b d h3 h2)
    · cases h4
    · exact h.shut_ok hR h3 ⟨_, h1, rfl⟩ h2
  · intro r lb' b d h1 h2
    obtain ⟨lb, h3, h4⟩ := h.get h1
    obtain ⟨o, ho, hi⟩ := hR.is r lb b d h3 h2
    refine ⟨o, ho, ?_⟩
    rcases h4 with rfl | rfl | ⟨cs, e, m, cs', m', rfl, rfl, _, hle, hp⟩
    · exact RelH.ext_obj h.ext hi
    · trivial
    · obtain ⟨arr, fr, e1, e2, hc⟩ := hi
      refine ⟨arr, fr, e1, e2, fun k y hk => ?_⟩
      have hkl := (List.getElem?_eq_some_iff.1 hk).1
      obtain ⟨v, h5, h6⟩ := hc k cs[k] (List.getElem?_eq_getElem (by omega))
      exact ⟨v, h5, (hp k _ y (List.getElem?_eq_getElem (by omega)) hk).run hR h h6⟩
  · intro g cs hg
    exact ⟨(hR.glob g cs hg).1, h.ext.vr (hR.glob g cs hg).2⟩
end

/-- A call whose arguments are told anew. -/
theorem LC.retell {P : Program} {G : List (Nat × List V)} {f : FuncId} {args args' : List V} {H H' : List LB} {R : V → List LB → Prop} (h : LC P G f args' H' R) (hr : Retell H H') (hl : args.length = args'.length)
    (ha : ∀ (j : Nat) (x y : V), args[j]? = some x → args'[j]? = some y → PurS H H' x y) : LC P G f args H R := by
  refine ⟨h.1, fun w0 ρ w vals h1 h2 => ?_⟩
  have h3 := h.2 w0 ρ w vals (h1.retell hr) ⟨by rw [h2.1, hl], fun j y v hj hv => by
    have hjl := (List.getElem?_eq_some_iff.1 hj).1
    exact (ha j args[j] y (List.getElem?_eq_getElem (by omega)) hj).run h1 hr (h2.2 j _ v (List.getElem?_eq_getElem (by omega)) hv)⟩
  exact (callsIn_wide (n := 0)).1 (((callsIn_wide (n := 0)).2 h3).mono fun _ _ ⟨v, val, H2, ρ', e1, e2, e3, e4, e5⟩ => ⟨v, val, H2, ρ', e1, e2, hr.ext.trans e3, e4, e5⟩)

/-- Statements, told anew. -/
theorem LW.retell {P : Program} {G : List (Nat × List V)} {rd : Option Nat} {n : Nat} {c : Code} {t t' : Nat → V} {H H' : List LB} {Q : Exit → St → Prop} (h : LW P G rd n c ⟨t', H'⟩ Q) (hr : Retell H H') (ht : ∀ j, PurS H H' (t j) (t' j)) : LW P G rd n c ⟨t, H⟩ Q := by
  intro w0 ρ w a N h1 h2 h3
  refine wpIn_mono (h w0 ρ w a N (h1.retell hr) ⟨h2.1, fun j => (ht j).run h1 hr (h2.2 j)⟩ (h3.ext hr.ext)) fun e a' w' hp => ?_
  exact hp.ext hr.ext

/-- A value that hangs on no memory. -/
inductive V.flat : V → Prop
  | b (x : Bool) : V.flat (.b x)
  | i (k : IntKind) (n : Int) : V.flat (.i k n)
  | s (x : ByteArray) : V.flat (.s x)
  | t {cs : List V} (h : ∀ (q : Nat) (y : V), cs[q]? = some y → V.flat y) : V.flat (.t cs)

theorem V.flat.run {w w' : World} {ok ok' : Nat → Prop} {ρ ρ' : List (Nat × Nat)} {v : V} (h : V.flat v) : ∀ {val : Value}, VR w ok ρ v val → VR w' ok' ρ' v val := by
  induction h with
  | b x => intro val hv; cases hv; exact .b x
  | i k n => intro val hv; cases hv; exact .i k n
  | s x => intro val hv; cases hv; exact .s x
  | t _ ih =>
    intro val hv
    cases hv with
    | t hl hv => exact .t hl fun q y v h1 h2 => ih q y h1 (hv q y v h1 h2)

/-- A value is told for one that only reads: every block by its contents. -/
inductive PurR (H : List LB) : V → V → Prop
  | lt {v : V} (h : V.Lt 0 v) : PurR H v v
  | nsl {z : Nat} : PurR H .nsl (.sl z [])
  | own {r o n c x z : Nat} {cs : List V} {e : TypeId} {mu : Bool} {xs : List V} (ys : Nat → Nat → V) (hr : H[r]? = some (.c cs e mu)) (hn : xs.length = n) (hz : ∀ x ∈ xs, x.cells.length = z)
      (hc : ∀ j q, j < n → q < z → cs[o + (j * z + q)]? = some (ys j q))
      (hp : ∀ (j : Nat) (x : V), xs[j]? = some x → ∀ (q : Nat) (y : V), x.cells[q]? = some y → PurR H (ys j q) y) : PurR H (.own r o n c x) (.sl z xs)

theorem PurR.run {G : List (Nat × List V)} {w0 w : World} {H : List LB} {ρ : List (Nat × Nat)} (hR : RelH G w0 H ρ w) {v v' : V} (hp : PurR H v v') : ∀ {val : Value}, VR w (Ok H ρ w) ρ v val → VR w (Ok [] [] w) [] v' val := by
  have up : ∀ b, Ok H ρ w b → Ok [] [] w b := fun b hb => ⟨hb.1, fun r lb hr => by simp at hr⟩
  induction hp with
  | lt h => exact fun hv => hv.shrink up (fun r x hr => by omega) (Nat.zero_le _) h
  | nsl =>
    intro val hv
    cases hv
    exact .sl0
  | @own r o n c x z cs e mu xs ys hr hn hz hc hp ih =>
    intro val hv
    cases hv with
    | @own _ _ _ _ c' b d _ hρ hnc hcc hx hs =>
      have hfc := fc_ptr hR hr hρ
      subst hn
      obtain ⟨ob, hob, _⟩ := hR.is r _ b d hr hρ
      refine .sl (fun j q => (w.cell? ⟨b, d + o + (j * z + q), none⟩).getD undef) (by omega) hz (fun _ _ => ⟨(Array.getElem?_eq_some_iff.1 hob).1, fun r lb hr => by simp at hr⟩) (fun j q hj hq => ?_) (fun j x hj q y hq => ?_)
      · obtain ⟨u, h1, _⟩ := hfc _ _ (hc j q hj hq)
        rw [← Nat.add_assoc] at h1
        rw [h1]
        rfl
      · have hjl := (List.getElem?_eq_some_iff.1 hj).1
        have hql := (List.getElem?_eq_some_iff.1 hq).1
        rw [hz x (List.mem_of_getElem? hj)] at hql
        obtain ⟨u, h1, h2⟩ := hfc _ _ (hc j q hjl hql)
        rw [← Nat.add_assoc] at h1
        rw [h1]
        exact ih j x hj q y hq h2
    | own0 ad hr0 ha =>
      obtain ⟨b, f, rfl⟩ := ha
      obtain rfl : xs = [] := List.eq_nil_of_length_eq_zero hn
      exact .sl (fun _ _ => undef) (Nat.le_refl _) hz (fun e _ => absurd rfl e) (fun j q hj => by simp at hj) (fun j x hj => by simp at hj)

/-- A call that only reads what is one's own. -/
theorem LC.frame {P : Program} {G : List (Nat × List V)} {f : FuncId} {args args' : List V} {H : List LB} {R : V → List LB → Prop} (h : LC P G f args' [] R) (hG : ∀ g cs, (g, cs) ∈ G → V.Lt 0 (.ep cs 0)) (hl : args.length = args'.length)
    (ha : ∀ (j : Nat) (x y : V), args[j]? = some x → args'[j]? = some y → PurR H x y) (hf : ∀ v H', R v H' → V.flat v) : LC P G f args H (fun v H' => (∃ H1, R v H1) ∧ H' = H) := by
  refine ⟨h.1, fun w0 ρ w vals h1 h2 => ?_⟩
  have up : ∀ b, Ok H ρ w b → Ok [] [] w b := fun b hb => ⟨hb.1, fun r lb hr => by simp at hr⟩
  have hR0 : RelH G w [] [] w := by
    refine ⟨rfl, Below.refl _ w, ?_, ?_, ?_, ?_, ?_⟩
    · intro r lb b d hr; simp at hr
    · intro r r' lb lb' b d d' hr; simp at hr
    · intro r cs e b d hr; simp at hr
    · intro r lb b d hr; simp at hr
    · intro g cs hg
      refine ⟨Nat.lt_of_lt_of_le (h1.glob g cs hg).1 h1.bel.size, ?_⟩
      exact (h1.glob g cs hg).2.shrink up (fun r x hr => by omega) (Nat.zero_le _) (hG g cs hg)
  have h3 := h.2 w [] w vals hR0 ⟨by rw [h2.1, hl], fun j y v hj hv => by
    have hjl := (List.getElem?_eq_some_iff.1 hj).1
    exact (ha j args[j] y (List.getElem?_eq_getElem (by omega)) hj).run h1 (h2.2 j _ v (List.getElem?_eq_getElem (by omega)) hv)⟩
  refine (callsIn_wide (n := 0)).1 (((callsIn_wide (n := 0)).2 h3).mono fun e w' he => ?_)
  obtain ⟨v, val, H2, ρ', e1, e2, e3, e4, e5⟩ := he
  have hsame : ∀ k, k < w.heap.size → w'.heap[k]? = w.heap[k]? := fun k hk => e3.same k ⟨hk, fun r lb hr => by simp at hr⟩
  have hsz : w.heap.size ≤ w'.heap.size := e2.bel.size
  have hx : Ext H ρ w H ρ w' := by
    refine ⟨fun b hb => ⟨Nat.lt_of_lt_of_le hb.1 hsz, hb.2⟩, fun b hb => hsame b hb.1, fun _ _ h => h, fun b arr e' fr hb => ⟨arr, fr, ?_, rfl⟩, hsz⟩
    rw [hsame b (Array.getElem?_eq_some_iff.1 hb).1]
    exact hb
  refine ⟨v, val, H, ρ, e1, ⟨h1.len, h1.bel.trans (e2.bel.mono h1.bel.size), h1.blk, h1.inj, fun r cs e' b d k1 k2 => hx.ok b (h1.seal_ r cs e' b d k1 k2), fun r lb b d k1 k2 => ?_, fun g cs hg => ⟨(h1.glob g cs hg).1, hx.vr (h1.glob g cs hg).2⟩⟩, hx, (hf v H2 e5).run e4, ⟨H2, e5⟩, rfl⟩
  obtain ⟨o, ho, hi⟩ := h1.is r lb b d k1 k2
  exact ⟨o, by rw [hsame b (Array.getElem?_eq_some_iff.1 ho).1]; exact ho, RelH.ext_obj hx hi⟩
end Go.Lw
/- The local walk: ranges over functions; loops, round by round. -/
namespace Go.Lw
open Go Go.RowKit

section
variable {P : Program} {G : List (Nat × List V)} {rd : Option Nat} {n : Nat} {st : St} {Q : Exit → St → Prop}

/-- A loop that goes round so often at most. -/
def LW.Un (P : Program) (G : List (Nat × List V)) (rd : Option Nat) (n : Nat) (c : Code) (Q : Exit → St → Prop) : Nat → St → Prop
  | 0, _ => False
  | k + 1, s => LW P G rd n c s (Thn (LW.Un P G rd n c Q k) Q)

theorem LW.un {c : Code} {k : Nat} (h : LW P G rd n c st (Thn (LW.Un P G rd n c Q k) Q)) : LW.Un P G rd n c Q (k + 1) st := h

theorem LW.unroll {c : Code} (k : Nat) (h : LW.Un P G rd n c Q k st) : LW P G rd n (.loop c) st Q := by
  refine LW.loopN (fun m s => LW.Un P G rd n c Q m s) (m := k) h fun m s hs => ?_
  cases m with
  | zero => exact hs.elim
  | succ m =>
    refine LW.mono hs fun e s' he => ?_
    cases e with
    | normal => exact ⟨m, by omega, he⟩
    | exit id => exact he
    | goto l => exact he
    | ret => exact he
    | panic ch => exact he
    | outgrown => exact he

/-- A block is laid of which nothing is told. -/
theorem RelH.allocU {w0 w : World} {H : List LB} {ρ : List (Nat × Nat)} (h : RelH G w0 H ρ w) (o : Obj) : RelH G w0 H ρ (w.alloc o) ∧ Ext H ρ w H ρ (w.alloc o) := by
  have hold : ∀ k, k < w.heap.size → (w.alloc o).heap[k]? = w.heap[k]? := fun k hk => Below.heap_alloc w o k hk
  have hx : Ext H ρ w H ρ (w.alloc o) := ⟨fun b hb => ⟨by have := hb.1; simp; omega, hb.2⟩, fun b hb => hold b hb.1, fun _ _ h => h, fun b arr e fr hb => ⟨arr, fr, (hold b (Array.getElem?_eq_some_iff.1 hb).1).trans hb, rfl⟩, by simp⟩
  refine ⟨⟨h.len, h.bel.trans (((Below.refl _ w).alloc (Nat.le_refl _) o).mono h.bel.size), h.blk, h.inj, fun r cs e b d h1 h2 => hx.ok b (h.seal_ r cs e b d h1 h2), fun r lb b d h1 h2 => ?_, fun g cs hg => ⟨(h.glob g cs hg).1, hx.vr (h.glob g cs hg).2⟩⟩, hx⟩
  obtain ⟨o', ho, hi⟩ := h.is r lb b d h1 h2
  exact ⟨o', by rw [hold b (Array.getElem?_eq_some_iff.1 ho).1]; exact ho, RelH.ext_obj hx hi⟩

/-- A range over a function. -/
theorem LW.range {g : Operand} {ps : Array Tmp} {assign body : Code} {gf : FuncId} {caps : List V} (hg : ev G st.t g = .f (.func gf) [] caps)
    (h : ∀ fn : FuncId, ∃ R : V → List LB → Prop, LC P G gf (.y st.H.length :: caps) (st.H ++ [.lp fn n st.t ps assign body .ready none]) R ∧
      ∀ v H', R v H' → ∃ sst pe, H'[st.H.length]? = some (.lp fn n st.t ps assign body sst pe) ∧ sst ≠ .busy ∧
        match pe with
        | none => Q .normal ⟨st.t, H'.set st.H.length (.lp fn n st.t ps assign body .exhausted none)⟩
        | some c => LW P G none n c ⟨st.t, H'.set st.H.length (.lp fn n st.t ps assign body .exhausted (some c))⟩ Q) :
    LW P G none n (.rangeFunc g ps assign body) st Q := by
  intro w0 ρ w a N h1 h2 h3
  refine wpIn_rangeFunc ?_
  intro fn hfn
  obtain ⟨R, hR, hk⟩ := h fn
  rw [Fw_round]
  have hv := vr_ev h1 h2 g
  rw [hg] at hv
  generalize hval : a.eval g = val at hv
  cases hv with
  | @f _ _ _ fv cv hf hcs hf1 hf2 =>
    obtain rfl : fv = #[] := Array.eq_empty_of_size_eq_zero hf
    obtain ⟨W0, hW0⟩ : ∃ W0, w.alloc (.deferred (some [])) = W0 := ⟨_, rfl⟩
    obtain ⟨rec, hrec⟩ : ∃ rec : Loop, ({ state := .ready, pending := none, fn, tmps := a.tmps, params := ps, assign, body, defers := w.heap.size } : Loop) = rec := ⟨_, rfl⟩
    obtain ⟨W1, hW1⟩ : ∃ W1, W0.alloc (.loop rec) = W1 := ⟨_, rfl⟩
    have hs0 : W0.heap.size = w.heap.size + 1 := by rw [← hW0]; simp
    have hs1 : W1.heap.size = w.heap.size + 2 := by rw [← hW1]; simp [hs0]
    obtain ⟨a1, a2⟩ := h1.allocU (.deferred (some []))
    rw [hW0] at a1 a2
    have ho : ObjIs (VR W0 (Ok st.H ρ W0) ρ) 0 (.loop rec) (.lp fn n st.t ps assign body .ready none) := by
      rw [← hrec]
      exact ⟨rfl, _, rfl, rfl, rfl, rfl, rfl, rfl, rfl, (a2.relT h2).1, (a2.relT h2).2⟩
    have b1 := a1.alloc (.lp fn n st.t ps assign body .ready none) rfl (.loop rec) ho
    have b2 := Ext.alloc a1 (.lp fn n st.t ps assign body .ready none) (.loop rec)
    rw [hW1] at b1 b2
    have bx := a2.trans b2
    have hρl : (ρ ++ [(W0.heap.size, 0)])[st.H.length]? = some (w.heap.size + 1, 0) := by rw [← h1.len, ← hs0]; simp
    have hD : W1.heap[w.heap.size]? = some (.deferred (some [])) := by
      rw [← hW1, Below.heap_alloc _ _ _ (by omega), ← hW0]
      exact World.alloc_heap_new w _
    have hok : Ok (st.H ++ [.lp fn n st.t ps assign body .ready none]) (ρ ++ [(W0.heap.size, 0)]) W1 w.heap.size := by
      refine ⟨by omega, fun r lb hr hm d hd => ?_⟩
      rcases Nat.lt_or_ge r st.H.length with hlt | hge
      · rw [List.getElem?_append_left hlt] at hr
        rw [List.getElem?_append_left (by rw [h1.len]; exact hlt)] at hd
        obtain ⟨o', ho', _⟩ := h1.is r lb _ d hr hd
        have := (Array.getElem?_eq_some_iff.1 ho').1
        omega
      · rw [List.getElem?_append_right (by rw [h1.len]; exact hge)] at hd
        have hz : r - ρ.length = 0 := by
          rcases Nat.eq_zero_or_pos (r - ρ.length) with h0 | h0
          · exact h0
          · rw [List.getElem?_eq_none (by simp; omega)] at hd
            cases hd
        rw [hz] at hd
        simp at hd
        omega
    have hdf : Dfr N (st.H ++ [.lp fn n st.t ps assign body .ready none]) (ρ ++ [(W0.heap.size, 0)]) W1 ([{ target := .collected w.heap.size, args := #[] }] ++ a.defers) := by
      have h3' := h3.ext bx
      refine ⟨h3'.1, ?_, fun d hd => ?_⟩
      · refine List.nodup_cons.2 ⟨fun hm => ?_, h3'.2.1⟩
        obtain ⟨b, e1, e2, e3, e4⟩ := h3.2.2 _ hm
        injection e1 with e1
        injection e1 with e1
        have := e3.1
        omega
      · rcases List.mem_cons.1 hd with rfl | hd
        · exact ⟨_, rfl, h3.1, hok, hD⟩
        · exact h3'.2.2 d hd
    refine ⟨w.heap.size + 1, [{ target := .collected w.heap.size, args := #[] }], W1, { target := .fn (.func gf) cv, args := #[.func (.yield (w.heap.size + 1)) #[] #[]] }, W1, gf,
      #[.func (.yield (w.heap.size + 1)) #[] #[]] ++ cv, W1, ?_, ?_, ?_, ?_, Fw_depth none, ?_⟩
    · rw [run_enterLoop_outer, hrec, ← hW1, ← hW0]
    · simp only [resolve, hval]
      simp [go_sem]
    · intro f' hf'
      exact Fw_fn none f'
    · simp [invoke, go_sem, run_enter hR.1]
    · have hargs : ArgsR W1 (Ok (st.H ++ [.lp fn n st.t ps assign body .ready none]) (ρ ++ [(W0.heap.size, 0)]) W1) (ρ ++ [(W0.heap.size, 0)]) (.y st.H.length :: caps) (#[.func (.yield (w.heap.size + 1)) #[] #[]] ++ cv) := by
        refine ⟨by simp [hcs]; omega, fun j x v hj hv => ?_⟩
        cases j with
        | zero =>
          obtain rfl := Option.some.inj hj
          rw [Array.getElem?_append_left (by simp)] at hv
          obtain rfl := Option.some.inj hv
          exact .y hρl
        | succ j =>
          rw [Array.getElem?_append_right (by simp)] at hv
          exact bx.vr (hf2 j x v (by simpa using hj) (by simpa using hv))
      refine (Fw_calls (rd := none) (hR.2 w0 _ W1 _ b1 hargs)).mono fun e w' he => ?_
      obtain ⟨v, val', H', ρ', rfl, k1, k2, k3, k4⟩ := he
      obtain ⟨sst, pe, q1, q2, q3⟩ := hk v H' k4
      obtain ⟨rec', g1, g2, g3, g4, g5, g6, g7, g8, g9⟩ := k1.record q1 (k2.pl _ _ hρl)
      obtain ⟨m1, m2⟩ := g9 .exhausted pe
      have hex : ({ rec' with state := .exhausted, pending := pe } : Loop) = { rec' with state := .exhausted } := by rw [← g7]
      rw [hex] at m1 m2
      have hend : Sem.run P (Instr.endLoop (w.heap.size + 1)) w' = .ok pe (w'.putObj (w.heap.size + 1) (.loop { rec' with state := .exhausted })) := (run_endLoop (P := P) g1 (by rw [g6]; exact q2)).trans (by rw [g7])
      have hT := m2.relT (k2.relT (bx.relT h2))
      have hx := (bx.trans k2).trans m2
      have hd2 := (hdf.ext k2).ext m2
      refine ⟨pe, _, hend, ?_⟩
      cases pe with
      | none => exact ⟨⟨st.t, _⟩, ρ', q3, m1, hT, hx, hd2⟩
      | some c => exact wpIn_mono (q3 w0 ρ' _ _ N m1 hT hd2) fun e a' w'' hp => hp.ext hx

/-- A call of yield. -/
def yieldK (P : Program) (G : List (Nat × List V)) (r : Nat) (args : List V) (H : List LB) (K : V → List LB → Prop) : Prop := ∃ R : V → List LB → Prop, LY P G r args H R ∧ ∀ v H', R v H' → K v H'
theorem yieldK.by {r : Nat} {args : List V} {H : List LB} {K R : V → List LB → Prop} (h : LY P G r args H R) (hk : ∀ v H', R v H' → K v H') : yieldK P G r args H K := ⟨R, h, hk⟩
/-- A call of a value. -/
def funK (P : Program) (G : List (Nat × List V)) (v : V) (args : List V) (H : List LB) (K : V → List LB → Prop) : Prop :=
  match v with
  | .f (.func f) first caps => callK P G f (first ++ args ++ caps) H K
  | .y r => yieldK P G r args H K
  | _ => False
@[simp] theorem funK_f {f : FuncId} {first caps args : List V} {H : List LB} {K : V → List LB → Prop} : funK P G (.f (.func f) first caps) args H K = callK P G f (first ++ args ++ caps) H K := Eq.trans rfl rfl
@[simp] theorem funK_y {r : Nat} {args : List V} {H : List LB} {K : V → List LB → Prop} : funK P G (.y r) args H K = yieldK P G r args H K := Eq.trans rfl rfl
@[simp] theorem ldo_tmp {t : Nat → V} {H : List LB} {d : Option Nat} {ty : TypeId} {pos : String} {af : Array Edge} {K : V → List LB → Prop} {g : Option (Nat × Bool)} {args : Array Operand} {ats : Array TypeId} {x : Nat} :
    ldo P G ⟨t, H⟩ ⟨d, .call ⟨.value (.tmp x), args, ats⟩, ty, pos, af, g⟩ K = funK P G (t x) (args.toList.map (ev G t)) H K := by
  unfold ldo funK
  simp only [callOf, leff, yieldOf, ev]
  generalize t x = y
  cases y <;> try rfl
  rename_i fn first caps
  cases fn <;> rfl
end
end Go.Lw
