/- The local walk: structs and rows that are built, rows that grow, copies, maps that are written, a string's bytes. -/
import Derived.Test.YtopmghfjdpdncaaDoorL6
import Derived.Laws.MakeOwn
import Derived.Laws.Append
import Derived.Lib.ConvBytes
import Derived.RangeFuncLeaves
import Derived.RangeFuncCalls
set_option linter.unusedSimpArgs false
set_option linter.unusedVariables false
namespace Go.Lw
open Go Go.RowKit

/-- Fields' places. -/
def places (P : Program) : List Field → Option (List (Nat × Nat))
  | [] => some []
  | f :: fs => match tsz P f.type, places P fs with
    | some z, some ps => some ((f.offset, z) :: ps)
    | _, _ => none

theorem run_places {P : Program} (w : World) : ∀ (fs : List Field) (ps : List (Nat × Nat)), places P fs = some ps →
    (fs.mapM fun f => (do pure (f.offset, ← sizeOf f.type) : Sem (Nat × Nat))).run P w = .ok ps w := by
  intro fs
  induction fs with
  | nil => intro ps h; injection h with h; subst h; rfl
  | cons f fs ih =>
    intro ps h
    unfold places at h
    split at h
    · rename_i z ps' hz hp
      injection h with h
      subst h
      rw [List.mapM_cons]
      simp only [Sem.run_bind, run_sizeOf_t w hz, Result.andThen_ok, ih ps' hp, Sem.run_pure]
    · cases h

/-- A row of values, again and again. -/
def rep (zs : List V) (n : Nat) : List V := (List.replicate n zs).flatten

theorem rep_length (zs : List V) (n : Nat) : (rep zs n).length = n * zs.length := by simp [rep]
theorem rep_get (zs : List V) : ∀ (n k : Nat), k < n * zs.length → (rep zs n)[k]? = zs[k % zs.length]? := by
  intro n
  induction n with
  | zero => intro k h; simp at h
  | succ n ih =>
    intro k h
    unfold rep
    rw [List.replicate_succ, List.flatten_cons]
    by_cases hk : k < zs.length
    · rw [List.getElem?_append_left hk, Nat.mod_eq_of_lt hk]
    · rw [List.getElem?_append_right (by omega)]
      have h3 : (n + 1) * zs.length = n * zs.length + zs.length := Nat.succ_mul n zs.length
      have h2 : k - zs.length < n * zs.length := by omega
      have := ih (k - zs.length) h2
      unfold rep at this
      rw [this]
      congr 1
      exact (Nat.mod_eq_sub_mod (by omega)).symm

theorem made_get {w : World} {ok : Nat → Prop} {ρ : List (Nat × Nat)} (z : Array Value) (n m : Nat) (hz : 0 < z.size) (hm : m = n * z.size) :
    ((Array.range m).map (z[· % z.size]!)).size = (rep (z.toList.map ofV1) n).length ∧
    ∀ (k : Nat) (y : V) (u : Value), (rep (z.toList.map ofV1) n)[k]? = some y → ((Array.range m).map (z[· % z.size]!))[k]? = some u → VR w ok ρ y u := by
  subst hm
  refine ⟨by simp [rep_length], fun k y u h1 h2 => ?_⟩
  have hk : k < n * z.size := by
    have := (Array.getElem?_eq_some_iff.1 h2).1
    simpa using this
  rw [rep_get _ _ _ (by simpa using hk)] at h1
  simp only [List.length_map, Array.length_toList, List.getElem?_map] at h1
  have hlt : k % z.size < z.size := Nat.mod_lt _ hz
  simp [hk] at h2
  rw [Array.getElem?_toList, Array.getElem?_eq_getElem hlt] at h1
  simp at h1
  subst h1
  have : u = z[k % z.size] := by rw [← h2]; exact getElem!_pos z _ hlt
  rw [this]
  exact vr_ofV1 _

/-- A struct or an array, built. -/
def lbuild (P : Program) (t : TypeId) (parts : List (Nat × V)) : Option V :=
  match tzero P t with
  | some zv => match P.underlying t with
    | some (.struct fs) => match places P fs.toList with
      | some ps => (lfill (fun i => ps[i]?) (zv.cells.toList.map ofV1) parts).map V.a
      | none => none
    | some (.array _ e) => match tsz P e with
      | some z => (lfill (fun i => some (i * z, z)) (zv.cells.toList.map ofV1) parts).map V.a
      | none => none
    | _ => none
  | none => none

/-- Parts, as the machine has them. -/
def PartsR (w : World) (ok : Nat → Prop) (ρ : List (Nat × Nat)) (ps : List (Nat × V)) (vps : List (Nat × Value)) : Prop :=
  vps.length = ps.length ∧ ∀ (j : Nat) i x i' v, ps[j]? = some (i, x) → vps[j]? = some (i', v) → i' = i ∧ VR w ok ρ x v

section
variable {P : Program} {w : World} {ok : Nat → Prop} {ρ : List (Nat × Nat)}
theorem lbuild_run {t : TypeId} {ps : List (Nat × V)} {v : V} (hl : lbuild P t ps = some v) {vps : Array (Nat × Value)} (hp : PartsR w ok ρ ps vps.toList) :
    ∃ val, (Instr.build t vps).run P w = .ok val w ∧ VR w ok ρ v val := by
  unfold lbuild at hl
  have hzv : ∀ (zv : Value) (k : Nat) y u, (zv.cells.toList.map ofV1)[k]? = some y → zv.cells[k]? = some u → VR w ok ρ y u := by
    intro zv k y u h1 h2
    rw [List.getElem?_map, Array.getElem?_toList, h2] at h1
    injection h1 with h1
    subst h1
    exact vr_ofV1 _
  split at hl
  · rename_i zv hz
    split at hl
    · rename_i fs ht
      split at hl
      · rename_i pl hpl
        cases hf : lfill (fun i => pl[i]?) (zv.cells.toList.map ofV1) ps with
        | none => rw [hf] at hl; cases hl
        | some cs' =>
          rw [hf] at hl
          injection hl with hl
          subst hl
          obtain ⟨arr', h1, h2, h3⟩ := lfill_run (ok := ok) (w := w) (ρ := ρ) ps vps.toList _ zv.cells cs' hf hp.1 hp.2 (by simp) (hzv zv)
          refine ⟨.agg arr', ?_, .a h2 h3⟩
          unfold Instr.build
          rw [Sem.run_bind, run_zero_t w hz]
          simp only [Result.andThen_ok]
          rw [Sem.run_bind, run_under_t w ht]
          simp only [Result.andThen_ok]
          rw [Sem.run_bind, Array.mapM_eq_mapM_toList]
          simp only [Sem.run_map, run_places w _ _ hpl, Result.andThen_ok]
          have hpe : (fun x : Nat => (List.toArray pl)[x]?) = fun i : Nat => pl[i]? := by funext i; simp
          rw [hpe, h1]
          rfl
      · cases hl
    · rename_i n e ht
      split at hl
      · rename_i z hz'
        cases hf : lfill (fun i => some (i * z, z)) (zv.cells.toList.map ofV1) ps with
        | none => rw [hf] at hl; cases hl
        | some cs' =>
          rw [hf] at hl
          injection hl with hl
          subst hl
          obtain ⟨arr', h1, h2, h3⟩ := lfill_run (ok := ok) (w := w) (ρ := ρ) ps vps.toList _ zv.cells cs' hf hp.1 hp.2 (by simp) (hzv zv)
          refine ⟨.agg arr', ?_, .a h2 h3⟩
          unfold Instr.build
          rw [Sem.run_bind, run_zero_t w hz]
          simp only [Result.andThen_ok]
          rw [Sem.run_bind, run_under_t w ht]
          simp only [Result.andThen_ok, Sem.run_bind, run_sizeOf_t w hz', h1]
          rfl
      · cases hl
    · cases hl
  · cases hl
end

section
variable {P : Program} {G : List (Nat × List V)} {w0 w : World} {H : List LB} {ρ : List (Nat × Nat)}

/-- A row, built. -/
def lbslice (P : Program) (H : List LB) (t : TypeId) (len : Nat) (parts : List (Nat × V)) : Option (V × List LB) :=
  match P.underlying t with
  | some (.slice e) => match tsz P e, tzero P e with
    | some z, some zv => if 0 < z ∧ zv.cells.size = z ∧ len * z ≤ 16777216 then
        (lfill (fun i => some (i * z, z)) (rep (zv.cells.toList.map ofV1) len) parts).map fun cs => (.own H.length 0 len len 0, H ++ [.c cs e true])
      else none
    | _, _ => none
  | _ => none

theorem lbslice_run (h : RelH G w0 H ρ w) {t : TypeId} {len : Nat} {ps : List (Nat × V)} {v : V} {H' : List LB} (hl : lbslice P H t len ps = some (v, H')) {vps : Array (Nat × Value)} (hp : PartsR w (Ok H ρ w) ρ ps vps.toList) :
    ∃ val w' ρ', (Instr.buildSlice t len vps).run P w = .ok val w' ∧ RelH G w0 H' ρ' w' ∧ Ext H ρ w H' ρ' w' ∧ VR w' (Ok H' ρ' w') ρ' v val := by
  unfold lbslice at hl
  split at hl
  · rename_i e ht
    split at hl
    · rename_i z zv hz hzv
      split at hl
      · rename_i hc
        obtain ⟨hz0, hzs, hle⟩ := hc
        cases hf : lfill (fun i => some (i * z, z)) (rep (zv.cells.toList.map ofV1) len) ps with
        | none => rw [hf] at hl; cases hl
        | some cs =>
          rw [hf] at hl
          injection hl with hl
          injection hl with h1 h2
          subst h1 h2
          obtain ⟨m1, m2⟩ := made_get (w := w) (ok := Ok H ρ w) (ρ := ρ) zv.cells len (len * z) (by omega) (by rw [hzs])
          obtain ⟨arr', a1, a2, a3⟩ := lfill_run (ok := Ok H ρ w) (w := w) (ρ := ρ) ps vps.toList _ ((Array.range (len * z)).map (zv.cells[· % zv.cells.size]!)) cs hf hp.1 hp.2 m1 m2
          obtain ⟨b1, b2, b3, b4⟩ := h.row (P := P) (xs := cs) (cells := arr') (e := e) (fun q y hq => by
            have hq2 : q < arr'.size := by rw [a2]; exact (List.getElem?_eq_some_iff.1 hq).1
            exact ⟨arr'[q], Array.getElem?_eq_getElem hq2, a3 q y _ hq (Array.getElem?_eq_getElem hq2)⟩)
          refine ⟨.slice (some ⟨w.heap.size, 0, none⟩) len len, _, _, ?_, b2, b3, ?_⟩
          · unfold Instr.buildSlice
            rw [Sem.run_bind, run_under_t w ht]
            simp only [Result.andThen_ok]
            rw [Sem.run_bind, run_sizeOf_t w hz]
            simp only [Result.andThen_ok]
            rw [if_neg (by omega)]
            by_cases hlz : len * z = 0
            · have hl0 : len = 0 := by
                rcases Nat.mul_eq_zero.1 hlz with h | h <;> omega
              subst hl0
              simp only [Nat.zero_mul, if_true] at a1 ⊢
              simp only [pure_bind, Sem.run_bind, Sem.run_pure, Result.andThen_ok]
              have : (Array.range 0).map (fun x => (#[] : Array Value)[x % (#[] : Array Value).size]!) = (Array.range 0).map (zv.cells[· % zv.cells.size]!) := by simp
              rw [this, a1]
              simp [b1]
            · rw [if_neg hlz]
              simp only [Sem.run_bind, run_zero_t w hzv, Result.andThen_ok, Sem.run_pure, a1]
              simp [b1]
          · exact VR.own (d := 0) (blk := w.heap.size) b4 (Nat.le_refl _) (Nat.le_refl _) (fun _ => rfl) (fun h0 => absurd rfl h0)
      · cases hl
    · cases hl
  · cases hl

/-- A row, made. -/
def lmake (P : Program) (H : List LB) (t : TypeId) (len cap : V) : Option (V × List LB) :=
  match P.underlying t, len, cap with
  | some (.slice e), .i _ l, .i _ c => match P.info? e with
    | some inf => match inf.zero with
      | some zv => if 0 < inf.size ∧ zv.cells.size = inf.size ∧ 0 ≤ l ∧ l ≤ c ∧ (inf.bytes : Int) * c ≤ 281474976710656 ∧ c ≤ 9223372036854775807 then
          some (.own H.length 0 l.toNat c.toNat 0, H ++ [.c (rep (zv.cells.toList.map ofV1) c.toNat) e true])
        else none
      | none => none
    | none => none
  | _, _, _ => none

theorem lmake_run (h : RelH G w0 H ρ w) {t : TypeId} {len cap v : V} {H' : List LB} (hl : lmake P H t len cap = some (v, H')) {vl vc : Value} (h1 : VR w (Ok H ρ w) ρ len vl) (h2 : VR w (Ok H ρ w) ρ cap vc) :
    ∃ val w' ρ', (Instr.makeSlice t vl vc).run P w = .ok val w' ∧ RelH G w0 H' ρ' w' ∧ Ext H ρ w H' ρ' w' ∧ VR w' (Ok H' ρ' w') ρ' v val := by
  unfold lmake at hl
  split at hl
  · rename_i e kl l kc c ht
    split at hl
    · rename_i inf hi
      split at hl
      · rename_i zv hz
        split at hl
        · rename_i hcnd
          obtain ⟨hz0, hzs, hl0, hlc, hby, h63⟩ := hcnd
          injection hl with hl
          injection hl with e1 e2
          subst e1 e2
          cases h1
          cases h2
          obtain ⟨m1, m2⟩ := made_get (w := w) (ok := Ok H ρ w) (ρ := ρ) zv.cells c.toNat (c.toNat * inf.size) (by omega) (by rw [hzs])
          obtain ⟨b1, b2, b3, b4⟩ := h.row (P := P) (xs := rep (zv.cells.toList.map ofV1) c.toNat) (cells := madeCells zv.cells (c.toNat * inf.size)) (e := e) (fun q y hq => by
            have hq2 : q < (madeCells zv.cells (c.toNat * inf.size)).size := by
              rw [show (madeCells zv.cells (c.toNat * inf.size)).size = _ from m1]
              exact (List.getElem?_eq_some_iff.1 hq).1
            exact ⟨_, Array.getElem?_eq_getElem hq2, m2 q y _ hq (Array.getElem?_eq_getElem hq2)⟩)
          refine ⟨_, _, _, run_make w t e inf zv ht hi hz kl kc l c hl0 hlc hby h63, b2, b3, ?_⟩
          exact VR.own (d := 0) (blk := w.heap.size) b4 (by omega) (Nat.le_refl _) (fun _ => rfl) (fun h0 => absurd rfl h0)
        · cases hl
      · cases hl
    · cases hl
  · cases hl

/-- What is appended or copied: how many elements, and their cells. -/
def lsrc (H : List LB) (z : Nat) (x : V) : Option (Nat × List V) :=
  match x with
  | .nsl => some (0, [])
  | .sl z' xs => if z' = z then some (xs.length, xs.flatMap V.cells) else none
  | .own r o n _ _ => if n = 0 then some (0, []) else match H[r]? with
    | some (.c cs _ _) => if o + n * z ≤ cs.length then some (n, (cs.drop o).take (n * z)) else none
    | _ => none
  | .s b => if z = 1 then some (b.size, b.data.toList.map fun c => .i .u8 (c.toNat : Int)) else none
  | _ => none

theorem flat_get {z : Nat} : ∀ (xs : List V), (∀ x ∈ xs, x.cells.length = z) → (xs.flatMap V.cells).length = xs.length * z ∧
    ∀ (j q : Nat), q < z → (xs.flatMap V.cells)[j * z + q]? = (xs[j]?).bind fun x => x.cells[q]? := by
  intro xs
  induction xs with
  | nil => intro _; exact ⟨by simp, fun j q _ => by simp⟩
  | cons x xs ih =>
    intro h
    obtain ⟨h1, h2⟩ := ih (fun y hy => h y (List.mem_cons_of_mem _ hy))
    have hx := h x List.mem_cons_self
    refine ⟨by simp [h1, hx, Nat.add_mul]; omega, fun j q hq => ?_⟩
    rw [List.flatMap_cons]
    cases j with
    | zero =>
      rw [List.getElem?_append_left (by omega)]
      simp
    | succ j =>
      rw [List.getElem?_append_right (by rw [Nat.add_mul]; omega)]
      rw [show (j + 1) * z + q - x.cells.length = j * z + q by rw [Nat.add_mul]; omega]
      rw [h2 j q hq]
      rfl

theorem lsrc_run (h : RelH G w0 H ρ w) {z m : Nat} {x : V} {news : List V} (hz : 0 < z) (hl : lsrc H z x = some (m, news)) {v : Value} (hv : VR w (Ok H ρ w) ρ x v) :
    news.length = m * z ∧ (Builtin.lenOf v).run P w = .ok m w ∧ ∃ vs : List Value, vs.length = m * z ∧ (∀ (q : Nat) (y : V) (u : Value), news[q]? = some y → vs[q]? = some u → VR w (Ok H ρ w) ρ y u) ∧
      ∀ k, k ≤ m → ∀ w', (∀ a : Addr, w'.cell? a = w.cell? a) → (Builtin.firstCells z k v).run P w' = .ok (vs.take (k * z)).toArray w' := by
  have of_cells : ∀ {b d n c : Nat} {news : List V}, news.length = n * z → FC w (Ok H ρ w) ρ news b d →
      ∃ vs : List Value, vs.length = n * z ∧ (∀ (q : Nat) (y : V) (u : Value), news[q]? = some y → vs[q]? = some u → VR w (Ok H ρ w) ρ y u) ∧
      ∀ k, k ≤ n → ∀ w', (∀ a : Addr, w'.cell? a = w.cell? a) → (Builtin.firstCells z k (.slice (some ⟨b, d, none⟩) n c)).run P w' = .ok (vs.take (k * z)).toArray w' := by
    intro b d n c news hlen hfc
    refine ⟨(List.range (n * z)).map fun j => (w.cell? ⟨b, d + j, none⟩).getD undef, by simp, fun q y u h1 h2 => ?_, fun k hk w' hw' => ?_⟩
    · obtain ⟨v', h3, h4⟩ := hfc q y h1
      have hq : q < n * z := by rw [← hlen]; exact (List.getElem?_eq_some_iff.1 h1).1
      simp [hq, h3] at h2
      subst h2
      exact h4
    · simp only [Builtin.firstCells]
      rw [run_loadCells w' _ (k * z) (fun j => (w.cell? ⟨b, d + j, none⟩).getD undef) (fun j hj => by
        have hkn : k * z ≤ n * z := Nat.mul_le_mul_right z hk
        obtain ⟨v', h3, _⟩ := hfc j news[j] (List.getElem?_eq_getElem (by omega))
        rw [add_none, hw', h3]
        rfl)]
      congr 2
      have hkn : k * z ≤ n * z := Nat.mul_le_mul_right z hk
      rw [← List.map_take, List.take_range, Nat.min_eq_left hkn]
  unfold lsrc at hl
  split at hl
  · injection hl with hl
    injection hl with h1 h2
    subst h1 h2
    cases hv
    exact ⟨by simp, by simp [Builtin.lenOf], [], by simp, fun q y u h1 => by simp at h1, fun k hk w' _ => by simp [Builtin.firstCells]⟩
  · rename_i z' xs
    split at hl
    · rename_i hzz
      subst hzz
      injection hl with hl
      injection hl with h1 h2
      subst h1 h2
      cases hv with
      | sl0 => exact ⟨by simp, by simp [Builtin.lenOf], [], by simp, fun q y u h1 => by simp at h1, fun k hk w' _ => by simp [Builtin.firstCells]⟩
      | @sl _ _ blk off c vals hcap hze hok hcell hvv =>
        obtain ⟨f1, f2⟩ := flat_get xs hze
        refine ⟨f1, by simp [Builtin.lenOf], of_cells f1 (fun k y hk => ?_)⟩
        have hkl : k < xs.length * z' := by rw [← f1]; exact (List.getElem?_eq_some_iff.1 hk).1
        have hdm := Nat.div_add_mod k z'
        have hq : k % z' < z' := Nat.mod_lt _ hz
        have hj : k / z' < xs.length := by
          rw [Nat.mul_comm] at hkl
          exact Nat.div_lt_of_lt_mul hkl
        have hk2 : k = k / z' * z' + k % z' := by rw [Nat.mul_comm]; omega
        rw [hk2, f2 _ _ hq, List.getElem?_eq_getElem hj] at hk
        refine ⟨vals (k / z') (k % z'), ?_, hvv (k / z') _ (List.getElem?_eq_getElem hj) _ y hk⟩
        rw [show off + k = off + (k / z' * z' + k % z') by omega]
        exact hcell _ _ hj hq
    · cases hl
  · rename_i r o n _ _
    split at hl
    · rename_i hn
      subst hn
      injection hl with hl
      injection hl with h1 h2
      subst h1 h2
      have hz0 : ∀ (ad : Addr) c k, k ≤ 0 → ∀ w' : World, (Builtin.firstCells z k (.slice (some ad) 0 c)).run P w' = .ok ((([] : List Value).take (k * z)).toArray) w' := by
        intro ad c k hk w'
        obtain rfl : k = 0 := by omega
        simp [Builtin.firstCells, loadCells, loadCellsFrom]
      cases hv with
      | own hρ _ _ _ _ => exact ⟨by simp, by simp [Builtin.lenOf], [], by simp, fun q y u h1 => by simp at h1, fun k hk w' _ => hz0 _ _ k hk w'⟩
      | own0 ad => exact ⟨by simp, by simp [Builtin.lenOf], [], by simp, fun q y u h1 => by simp at h1, fun k hk w' _ => hz0 _ _ k hk w'⟩
    · rename_i hn
      split at hl
      · rename_i cs e mu hr
        split at hl
        · rename_i hle
          injection hl with hl
          injection hl with h1 h2
          subst h1 h2
          have hlen : ((cs.drop o).take (n * z)).length = n * z := by simp; omega
          cases hv with
          | @own _ _ _ c c' b d _ hρ _ _ _ _ =>
            refine ⟨hlen, by simp [Builtin.lenOf], of_cells hlen (fun k y hk => ?_)⟩
            have hkl : k < n * z := by rw [← hlen]; exact (List.getElem?_eq_some_iff.1 hk).1
            rw [List.getElem?_take_of_lt hkl, List.getElem?_drop] at hk
            obtain ⟨v', h3, h4⟩ := fc_ptr h hr hρ (o + k) y hk
            exact ⟨v', by rw [Nat.add_assoc]; exact h3, h4⟩
          | own0 ad => omega
        · cases hl
      · cases hl
  · rename_i b
    split at hl
    · rename_i hz1
      subst hz1
      injection hl with hl
      injection hl with h1 h2
      subst h1 h2
      cases hv
      have hsz : b.data.toList.length = b.size := by rw [Array.length_toList]; rfl
      refine ⟨by simp [hsz], by simp [Builtin.lenOf], b.data.toList.map fun c => .int .u8 (c.toNat : Int), by simp [hsz], fun q y u h1 h2 => ?_, fun k hk w' _ => ?_⟩
      · rw [List.getElem?_map] at h1 h2
        cases hq : b.data.toList[q]? with
        | none => rw [hq] at h1; cases h1
        | some c =>
          rw [hq] at h1 h2
          injection h1 with h1
          injection h2 with h2
          subst h1 h2
          exact .i _ _
      · simp only [Builtin.firstCells, Sem.run_pure, Nat.mul_one]
        congr 1
        apply Array.ext'
        simp [ByteArray.extract, ByteArray.copySlice]
    · cases hl
  · cases hl
end
end Go.Lw
/- The local walk: append, copy, maps that are written, a string's bytes. -/
namespace Go.Lw
open Go Go.RowKit

section
variable {P : Program} {G : List (Nat × List V)} {w0 w : World} {H : List LB} {ρ : List (Nat × Nat)}

def isInt : TypeDesc → Bool
  | .int _ => true
  | _ => false

theorem run_append_room2 {t t1 ty e : TypeId} {ats : Array TypeId} {d1 : TypeDesc} {z : Nat} (h0 : ats[0]? = some t) (h1 : ats[1]? = some t1) (ht : P.underlying t = some (.slice e)) (ht1 : P.underlying t1 = some d1) (hni : isInt d1 = false)
    (hz : tsz P e = some z) (base : Option Addr) (n c : Nat) (x : Value) (m : Nat) (hlen : (Builtin.lenOf x).run P w = .ok m w) (vs : List Value) (hf : (Builtin.firstCells z m x).run P w = .ok vs.toArray w) (hroom : n + m ≤ c) :
    (Builtin.append_ ats ty #[.slice base n c, x]).run P w = (match base with | some a => (storeCells (a.add (n * z)) vs).run P w | none => .ok () w).andThen fun _ w' => .ok (.slice base (n + m) c) w' := by
  unfold Builtin.append_
  simp only [h0, h1]
  rw [show (#[Value.slice base n c, x])[0]? = some (Value.slice base n c) from rfl, show (#[Value.slice base n c, x])[1]? = some x from rfl]
  dsimp only
  rw [Sem.run_bind, run_under_t w ht]
  simp only [Result.andThen_ok]
  rw [Sem.run_bind, run_sizeOf_t w hz]
  simp only [Result.andThen_ok]
  rw [Sem.run_bind, run_under_t w ht1]
  simp only [Result.andThen_ok]
  cases d1 <;> first
    | (simp [isInt] at hni; done)
    | (rw [pure_bind]
       simp only [Bool.false_eq_true, if_false]
       rw [Sem.run_bind, hlen]
       simp only [Result.andThen_ok, hroom, if_true, Bool.not_false]
       rw [Sem.run_bind, hf]
       simp only [Result.andThen_ok]
       cases base with
       | none => rfl
       | some a => rw [Sem.run_bind]; rfl)

theorem run_append_grow2 {t t1 ty e : TypeId} {ats : Array TypeId} {d1 : TypeDesc} {inf : TypeInfo} {zv : Value} (h0 : ats[0]? = some t) (h1 : ats[1]? = some t1) (ht : P.underlying t = some (.slice e)) (ht1 : P.underlying t1 = some d1) (hni : isInt d1 = false)
    (hi : P.info? e = some inf) (hzv : inf.zero = some zv) (base : Option Addr) (n c : Nat) (x : Value) (m : Nat) (hlen : (Builtin.lenOf x).run P w = .ok m w) (vs : List Value) (hf : (Builtin.firstCells inf.size m x).run P w.drew = .ok vs.toArray w.drew)
    (olds : List Value) (hold : (Builtin.firstCells inf.size n (.slice base n c)).run P w.drew = .ok olds.toArray w.drew) (hroom : c < n + m) (h63 : ((n + m : Nat) : Int) ≤ 9223372036854775807) (hby : (n + m) * inf.bytes ≤ 140737488355328) :
    (Builtin.append_ ats ty #[.slice base n c, x]).run P w = .ok (.slice (some ⟨w.heap.size, 0, none⟩) (n + m) (grownCap w (n + m) c e))
      (w.drew.alloc (.cells (olds.toArray ++ vs.toArray ++ Builtin.zeroCells zv.cells (grownCap w (n + m) c e - (n + m))) e)) := by
  unfold Builtin.append_
  have hz : tsz P e = some inf.size := by simp [tsz, hi]
  have hfit := growslice_fits hroom hby
  simp only [h0, h1]
  rw [show (#[Value.slice base n c, x])[0]? = some (Value.slice base n c) from rfl, show (#[Value.slice base n c, x])[1]? = some x from rfl]
  dsimp only
  rw [Sem.run_bind, run_under_t w ht]
  simp only [Result.andThen_ok]
  rw [Sem.run_bind, run_sizeOf_t w hz]
  simp only [Result.andThen_ok]
  rw [Sem.run_bind, run_under_t w ht1]
  simp only [Result.andThen_ok]
  have hnr : ¬ (n + m ≤ c) := by omega
  have h63' : ¬ (((n + m : Nat) : Int) > IntKind.i64.max) := by
    have : IntKind.i64.max = 9223372036854775807 := by decide
    omega
  have hfit' : ¬ (Builtin.nextslicecap (n + m) c * inf.bytes > 2 ^ 48) := by
    have : (2 : Nat) ^ 48 = 281474976710656 := by decide
    omega
  cases d1 <;> first
    | (simp [isInt] at hni; done)
    | (rw [pure_bind]
       simp only [Bool.false_eq_true, if_false]
       rw [Sem.run_bind, hlen]
       simp only [Result.andThen_ok, hnr, if_false, Bool.not_false]
       simp only [Sem.run_bind, run_info_t w hi, Result.andThen_ok, h63', false_and, if_false, hfit', Sem.run_pure, run_choose, Question.forced, Bool.false_eq_true, run_askRoom, World.drew_eq]
       simp [zeroValue, typeInfo, hi, hzv, newRow, grownCap]
       rw [hold]
       simp [hf]
       congr 2
       apply Array.ext'
       simp)

/-- A block of one's own goes on under another name: from a place in it on. -/
theorem RelH.rename (h : RelH G w0 H ρ w) {r b d o : Nat} {cs : List V} {e : TypeId} (hr : H[r]? = some (.c cs e true)) (hρ : ρ[r]? = some (b, d)) :
    RelH G w0 (H.set r .dead ++ [.c (cs.drop o) e true]) (ρ ++ [(b, d + o)]) w ∧ Ext H ρ w (H.set r .dead ++ [.c (cs.drop o) e true]) (ρ ++ [(b, d + o)]) w := by
  have hlenr : r < H.length := (List.getElem?_eq_some_iff.1 hr).1
  have key : ∀ (r' : Nat) lb b' d', (H.set r .dead ++ [.c (cs.drop o) e true])[r']? = some lb → (ρ ++ [(b, d + o)])[r']? = some (b', d') →
      (r' ≠ r ∧ H[r']? = some lb ∧ ρ[r']? = some (b', d')) ∨ (r' = r ∧ lb = .dead ∧ b' = b ∧ d' = d) ∨ (r' = H.length ∧ lb = .c (cs.drop o) e true ∧ b' = b ∧ d' = d + o) := by
    intro r' lb b' d' h1 h2
    by_cases hlt : r' < H.length
    · rw [List.getElem?_append_left (by simpa using hlt)] at h1
      rw [List.getElem?_append_left (by rw [h.len]; exact hlt)] at h2
      rw [List.getElem?_set] at h1
      by_cases he : r = r'
      · subst he
        rw [if_pos rfl, if_pos hlenr] at h1
        injection h1 with h1
        rw [hρ] at h2
        injection h2 with h2
        injection h2 with h3 h4
        exact .inr (.inl ⟨rfl, h1.symm, h3.symm, h4.symm⟩)
      · rw [if_neg he] at h1
        exact .inl ⟨fun e => he e.symm, h1, h2⟩
    · have hlen : (H.set r .dead).length = H.length := by simp
      rw [List.getElem?_append_right (by omega)] at h1
      have hz : r' = H.length := by
        rcases Nat.lt_or_ge H.length r' with h0 | h0
        · rw [List.getElem?_eq_none (by simp; omega)] at h1
          cases h1
        · omega
      subst hz
      rw [List.getElem?_append_right (by rw [h.len]; exact Nat.le_refl _), h.len] at h2
      simp at h1 h2
      exact .inr (.inr ⟨rfl, h1.symm, h2.1.symm, h2.2.symm⟩)
  have hbd : ∀ k, Ok H ρ w k → k ≠ b := fun k hk e => hk.2 r _ hr rfl d (e ▸ hρ)
  have hext : Ext H ρ w (H.set r .dead ++ [.c (cs.drop o) e true]) (ρ ++ [(b, d + o)]) w := by
    refine ⟨fun k hk => ⟨hk.1, fun r' lb hr' hm d' hρ' => ?_⟩, fun _ _ => rfl, fun r' x hr' => ?_, fun _ arr _ fr hb => ⟨arr, fr, hb, rfl⟩, Nat.le_refl _⟩
    · rcases key r' lb k d' hr' hρ' with ⟨_, h3, h4⟩ | ⟨_, h3, _, _⟩ | ⟨_, _, h3, _⟩
      · exact hk.2 r' lb h3 hm d' h4
      · subst h3
        cases hm
      · exact hbd k hk h3
    · rw [List.getElem?_append_left (List.getElem?_eq_some_iff.1 hr').1]
      exact hr'
  refine ⟨⟨by simp [h.len], h.bel, ?_, ?_, ?_, ?_, ?_⟩, hext⟩
  · intro r' lb b' d' h1 h2 hm
    rcases key r' lb b' d' h1 h2 with ⟨_, h3, h4⟩ | ⟨_, h3, _, _⟩ | ⟨_, _, rfl, _⟩
    · exact h.blk r' lb b' d' h3 h4 hm
    · subst h3
      cases hm
    · exact h.blk r _ b' d hr hρ rfl
  · intro r1 r2 lb1 lb2 b' d1 d2 h1 h2 hm1 hm2 h3 h4
    rcases key r1 lb1 b' d1 h1 h3 with ⟨a1, a2, a3⟩ | ⟨_, a2, _, _⟩ | ⟨a1, a2, a3, _⟩
    · rcases key r2 lb2 b' d2 h2 h4 with ⟨_, b2, b3⟩ | ⟨_, b2, _, _⟩ | ⟨_, _, b3, _⟩
      · exact h.inj r1 r2 lb1 lb2 b' d1 d2 a2 b2 hm1 hm2 a3 b3
      · subst b2
        cases hm2
      · subst b3
        exact absurd (h.inj r1 r lb1 _ b' d1 d a2 hr hm1 rfl a3 hρ) a1
    · subst a2
      cases hm1
    · rcases key r2 lb2 b' d2 h2 h4 with ⟨b1, b2, b3⟩ | ⟨_, b2, _, _⟩ | ⟨b1, _, _, _⟩
      · subst a3
        exact absurd (h.inj r2 r lb2 _ b' d2 d b2 hr hm2 rfl b3 hρ) b1
      · subst b2
        cases hm2
      · omega
  · intro r' cs' e' b' d' h1 h2
    rcases key r' _ b' d' h1 h2 with ⟨_, h3, h4⟩ | ⟨_, h3, _, _⟩ | ⟨_, h3, _, _⟩
    · exact hext.ok b' (h.seal_ r' cs' e' b' d' h3 h4)
    · cases h3
    · injection h3 with _ _ h3
      cases h3
  · intro r' lb b' d' h1 h2
    rcases key r' lb b' d' h1 h2 with ⟨_, h3, h4⟩ | ⟨_, h3, rfl, rfl⟩ | ⟨_, h3, rfl, rfl⟩
    · obtain ⟨ob, h5, h6⟩ := h.is r' lb b' d' h3 h4
      exact ⟨ob, h5, RelH.ext_obj hext h6⟩
    · subst h3
      obtain ⟨ob, h5, _⟩ := h.is r _ b' d' hr hρ
      exact ⟨ob, h5, trivial⟩
    · subst h3
      obtain ⟨ob, h5, arr, fr, h6, h7, h8⟩ := h.is r _ b' d hr hρ
      refine ⟨ob, h5, arr, fr, h6, h7, fun k y hk => ?_⟩
      rw [List.getElem?_drop] at hk
      obtain ⟨v, h9, h10⟩ := h8 (o + k) y hk
      exact ⟨v, by rw [Nat.add_assoc]; exact h9, hext.vr h10⟩
  · intro g cs' hg
    exact ⟨(h.glob g cs' hg).1, hext.vr (h.glob g cs' hg).2⟩

/-- A block of one's own is told no more. -/
theorem RelH.kill (h : RelH G w0 H ρ w) {r : Nat} {cs : List V} {e : TypeId} (hr : H[r]? = some (.c cs e true)) : RelH G w0 (H.set r .dead) ρ w ∧ Ext H ρ w (H.set r .dead) ρ w := by
  have key : ∀ (r' : Nat) lb, (H.set r .dead)[r']? = some lb → (r' = r ∧ lb = .dead) ∨ (r' ≠ r ∧ H[r']? = some lb) := by
    intro r' lb h1
    rw [List.getElem?_set] at h1
    split at h1
    · rename_i he
      split at h1
      · injection h1 with h1
        exact .inl ⟨he.symm, h1.symm⟩
      · cases h1
    · rename_i he
      exact .inr ⟨fun e => he e.symm, h1⟩
  have hext : Ext H ρ w (H.set r .dead) ρ w := by
    refine ⟨fun k hk => ⟨hk.1, fun r' lb hr' hm d' => ?_⟩, fun _ _ => rfl, fun _ _ h => h, fun _ arr _ fr hb => ⟨arr, fr, hb, rfl⟩, Nat.le_refl _⟩
    rcases key r' lb hr' with ⟨_, h3⟩ | ⟨_, h3⟩
    · subst h3
      cases hm
    · exact hk.2 r' lb h3 hm d'
  refine ⟨⟨by simp [h.len], h.bel, ?_, ?_, ?_, ?_, ?_⟩, hext⟩
  · intro r' lb b' d' h1 h2 hm
    rcases key r' lb h1 with ⟨_, h3⟩ | ⟨_, h3⟩
    · subst h3
      cases hm
    · exact h.blk r' lb b' d' h3 h2 hm
  · intro r1 r2 lb1 lb2 b' d1 d2 h1 h2 hm1 hm2 h3 h4
    rcases key r1 lb1 h1 with ⟨_, a2⟩ | ⟨_, a2⟩
    · subst a2
      cases hm1
    · rcases key r2 lb2 h2 with ⟨_, b2⟩ | ⟨_, b2⟩
      · subst b2
        cases hm2
      · exact h.inj r1 r2 lb1 lb2 b' d1 d2 a2 b2 hm1 hm2 h3 h4
  · intro r' cs' e' b' d' h1 h2
    rcases key r' _ h1 with ⟨_, h3⟩ | ⟨_, h3⟩
    · cases h3
    · exact hext.ok b' (h.seal_ r' cs' e' b' d' h3 h2)
  · intro r' lb b' d' h1 h2
    rcases key r' lb h1 with ⟨rfl, h3⟩ | ⟨_, h3⟩
    · subst h3
      obtain ⟨ob, h5, _⟩ := h.is r' _ b' d' hr h2
      exact ⟨ob, h5, trivial⟩
    · obtain ⟨ob, h5, h6⟩ := h.is r' lb b' d' h3 h2
      exact ⟨ob, h5, RelH.ext_obj hext h6⟩
  · intro g cs' hg
    exact ⟨(h.glob g cs' hg).1, hext.vr (h.glob g cs' hg).2⟩

/-- Cells behind those that are told are written. -/
theorem RelH.write2 (h : RelH G w0 H ρ w) {r b d o : Nat} {cs xs : List V} {e : TypeId} (hr : H[r]? = some (.c cs e true)) (hρ : ρ[r]? = some (b, d)) (hle : o ≤ cs.length)
    {vs : List Value} (hl : vs.length = xs.length) (hv : ∀ (q : Nat) (y : V) (u : Value), xs[q]? = some y → vs[q]? = some u → VR w (Ok H ρ w) ρ y u) (h1 : ∀ v ∈ vs, v.oneCell' = true)
    {arr0 : Array Value} {e0 : TypeId} {fr0 : Nat × Nat} (harr : w.heap[b]? = some (.cells arr0 e0 fr0)) (hfit : d + o + vs.length ≤ arr0.size) :
    (storeCells ⟨b, d + o, none⟩ vs).run P w = .ok () (w.setCells b (d + o) vs) ∧ RelH G w0 (H.set r (.c (cs.take o ++ xs) e true)) ρ (w.setCells b (d + o) vs) ∧
      Ext H ρ w (H.set r (.c (cs.take o ++ xs) e true)) ρ (w.setCells b (d + o) vs) := by
  obtain ⟨ob, hob, arr, fr, rfl, hfr, hc⟩ := h.is r _ b d hr hρ
  rw [hob] at harr
  injection harr with harr
  injection harr with e1 e2 e3
  subst e1 e2 e3
  have hbase := h.blk r _ b d hr hρ rfl
  have hst : (storeCells ⟨b, d + o, none⟩ vs).run P w = .ok () (w.setCells b (d + o) vs) := by
    have := run_storeCells_cells (P := P) b (d + o) vs 0 w (fun j hj => by
        simp [World.cell?, hob]
        omega) (fun j hj => by
        simp [World.frozen?, hob]
        intro h3
        rcases hfr with h4 | h4 <;> omega) h1
    simpa using this
  obtain ⟨cur', h3, h4, h5, h6⟩ := setCells_row' vs (d + o) w arr hob hfit
  have hsame := setCells_same' b vs (d + o) w
  have hbb : ∀ (arr1 : Array Value) (e1 : TypeId) (fr1 : Nat × Nat), w.heap[b]? = some (Obj.cells arr1 e1 fr1) → ∃ (arr' : Array Value) (fr' : Nat × Nat), (w.setCells b (d + o) vs).heap[b]? = some (Obj.cells arr' e1 fr') ∧ arr'.size = arr1.size := by
    intro arr1 e1 fr1 h7
    rw [hob] at h7
    injection h7 with h7
    injection h7 with h8 h9 h10
    subst h8 h9
    exact ⟨cur', fr, h3, h4⟩
  refine ⟨hst, ?_, Ext.turn h hr hρ rfl rfl hsame.2.2.2 (fun k hk => setCells_far' vs (d + o) k hk) hbb⟩
  refine h.turn hr hρ rfl rfl (below_setCells h.bel hbase vs (d + o)) hsame.2.2.2 (fun k hk => setCells_far' vs (d + o) k hk) hbb _ h3 ⟨cur', fr, rfl, by rw [h4]; exact hfr, fun k y hk => ?_⟩
  by_cases hko : k < o
  · rw [List.getElem?_append_left (by simp; omega), List.getElem?_take_of_lt hko] at hk
    obtain ⟨v, h7, h8⟩ := hc k y hk
    exact ⟨v, by rw [h5 (d + k) (by omega)]; exact h7, h8⟩
  · rw [List.getElem?_append_right (by simp; omega)] at hk
    have hlt : (cs.take o).length = o := by simp; omega
    rw [hlt] at hk
    have hkl : k - o < vs.length := by rw [hl]; exact (List.getElem?_eq_some_iff.1 hk).1
    refine ⟨vs[k - o], ?_, hv (k - o) y _ hk (List.getElem?_eq_getElem hkl)⟩
    have := h6 (k - o) hkl
    rw [show d + o + (k - o) = d + k by omega] at this
    rw [this]
    exact List.getElem?_eq_getElem hkl

/-- Append. -/
def lappend (P : Program) (H : List LB) (ats : Array TypeId) (s x : V) : Option (V × List LB) :=
  match ats[0]?, ats[1]? with
  | some t, some t1 => match P.underlying t, P.underlying t1 with
    | some (.slice e), some d1 => match P.info? e with
      | some inf => match inf.zero with
        | some zv => if isInt d1 = false ∧ 0 < inf.size ∧ zv.cells.size = inf.size then match lsrc H inf.size x with
            | some (m, news) => if news.all V.one = true then match s with
                | .nsl => if m = 0 then some (.nsl, H) else
                    if m * inf.bytes ≤ 140737488355328 ∧ m ≤ 9223372036854775807 then some (.own H.length 0 m m inf.size, H ++ [.c news e true]) else none
                | .own r o n c ex => if m = 0 then some (s, H) else match H[r]? with
                    | some (.c cs e' mu) => if o + n * inf.size ≤ cs.length then
                        if n + m ≤ c then (if mu = true ∧ o + (n + m) * inf.size ≤ cs.length then some (.own r o (n + m) c ex, H.set r (.c (put cs (o + n * inf.size) news) e' true)) else none)
                        else if (n + m) * inf.bytes ≤ 140737488355328 ∧ n + m ≤ 9223372036854775807 then
                          (if ex = 0 then some (.own H.length 0 (n + m) (n + m) inf.size, H ++ [.c ((cs.drop o).take (n * inf.size) ++ news) e true])
                          else if ex = inf.size ∧ mu = true ∧ e' = e then some (.own H.length 0 (n + m) (n + m) inf.size, H.set r .dead ++ [.c ((cs.drop o).take (n * inf.size) ++ news) e true])
                          else none)
                        else none
                      else none
                    | _ => none
                | _ => none
              else none
            | none => none
          else none
        | none => none
      | none => none
    | _, _ => none
  | _, _ => none

theorem grown_row (P : Program) (h : RelH G w0 H ρ w) {e : TypeId} {z need old : Nat} {zc : Array Value} (hz0 : 0 < z) (hzs : zc.size = z) {olds vs : List Value} {xs : List V} (hl : (olds ++ vs).length = need * z) (hx : xs.length = need * z)
    (hr : ∀ (q : Nat) (y : V) (u : Value), xs[q]? = some y → (olds ++ vs)[q]? = some u → VR w (Ok H ρ w) ρ y u) :
    ∃ w', w' = w.drew.alloc (.cells (olds.toArray ++ vs.toArray ++ Builtin.zeroCells zc (grownCap w need old e - need)) e) ∧ RelH G w0 (H ++ [.c xs e true]) (ρ ++ [(w.heap.size, 0)]) w' ∧
      Ext H ρ w (H ++ [.c xs e true]) (ρ ++ [(w.heap.size, 0)]) w' ∧
      VR w' (Ok (H ++ [.c xs e true]) (ρ ++ [(w.heap.size, 0)]) w') (ρ ++ [(w.heap.size, 0)]) (.own H.length 0 need need z) (.slice (some ⟨w.heap.size, 0, none⟩) need (grownCap w need old e)) := by
  have hxd : Ext H ρ w H ρ w.drew := Ext.drew H ρ w
  have hge := grownCap_ge w need old e
  obtain ⟨b1, b2, b3, b4⟩ := h.drew.row (P := P) (xs := xs) (cells := olds.toArray ++ vs.toArray ++ Builtin.zeroCells zc (grownCap w need old e - need)) (e := e) (fun q y hq => by
    have hq2 : q < (olds ++ vs).length := by rw [hl, ← hx]; exact (List.getElem?_eq_some_iff.1 hq).1
    refine ⟨(olds ++ vs)[q], ?_, hxd.vr (hr q y _ hq (List.getElem?_eq_getElem hq2))⟩
    rw [Array.getElem?_append_left (by simpa using hq2), ← Array.getElem?_toList]
    simp only [Array.toList_append]
    exact List.getElem?_eq_getElem hq2)
  refine ⟨_, rfl, b2, hxd.trans b3, ?_⟩
  refine VR.own (d := 0) (o := 0) (c' := grownCap w need old e) (blk := w.drew.heap.size) b4 (Nat.le_refl _) hge (fun h0 => by omega) (fun _ => ⟨_, _, _, heap_alloc_new _ _, ?_⟩)
  simp only [Array.size_append, List.size_toArray, size_zeroCells, hzs]
  rw [List.length_append] at hl
  rw [Nat.sub_mul]
  have := Nat.mul_le_mul_right z hge
  omega

theorem lappend_run (h : RelH G w0 H ρ w) {ats : Array TypeId} {ty : TypeId} {s x v : V} {H' : List LB} (hl : lappend P H ats s x = some (v, H')) {vs vx : Value} (h1 : VR w (Ok H ρ w) ρ s vs) (h2 : VR w (Ok H ρ w) ρ x vx) :
    ∃ val w' ρ', (Builtin.append_ ats ty #[vs, vx]).run P w = .ok val w' ∧ RelH G w0 H' ρ' w' ∧ Ext H ρ w H' ρ' w' ∧ VR w' (Ok H' ρ' w') ρ' v val := by
  unfold lappend at hl
  split at hl
  case h_2 => cases hl
  rename_i t t1 a0 a1
  split at hl
  case h_2 => cases hl
  rename_i e d1 ht ht1
  split at hl
  case h_2 => cases hl
  rename_i inf hi
  split at hl
  case h_2 => cases hl
  rename_i zv hzv
  split at hl
  case isFalse => cases hl
  rename_i hcz
  obtain ⟨hni, hz0, hzs⟩ := hcz
  split at hl
  case h_2 => cases hl
  rename_i m news hsrc
  split at hl
  case isFalse => cases hl
  rename_i hone
  have hz : tsz P e = some inf.size := by simp [tsz, hi]
  obtain ⟨s1, s2, cells, s3, s4, s5⟩ := lsrc_run (P := P) h hz0 hsrc h2
  have hfm : ∀ w' : World, (∀ a : Addr, w'.cell? a = w.cell? a) → (Builtin.firstCells inf.size m vx).run P w' = .ok cells.toArray w' := fun w' hw' => by
    rw [s5 m (Nat.le_refl m) w' hw', List.take_of_length_le (by omega)]
  have hone' : ∀ u ∈ cells, u.oneCell' = true := by
    intro u hu
    obtain ⟨q, hq, rfl⟩ := List.getElem_of_mem hu
    have hq2 : q < news.length := by omega
    exact vr_one (s4 q _ _ (List.getElem?_eq_getElem hq2) (List.getElem?_eq_getElem hq)) (List.all_eq_true.1 hone _ (List.getElem_mem hq2))
  have hxd : Ext H ρ w H ρ w.drew := Ext.drew H ρ w
  have hd := h.drew
  split at hl
  · split at hl
    · rename_i hm
      subst hm
      injection hl with hl
      injection hl with e1 e2
      subst e1 e2
      cases h1
      refine ⟨.slice none 0 0, w, ρ, ?_, h, Ext.refl H ρ w, .nsl⟩
      rw [run_append_room2 (ty := ty) a0 a1 ht ht1 hni hz none 0 0 vx 0 s2 cells (hfm w fun _ => rfl) (Nat.le_refl 0)]
      rfl
    · rename_i hm
      split at hl
      · rename_i hb
        obtain ⟨hb1, hb2⟩ := hb
        injection hl with hl
        injection hl with e1 e2
        subst e1 e2
        cases h1
        have hg := run_append_grow2 (ty := ty) a0 a1 ht ht1 hni hi hzv none 0 0 vx m s2 cells (hfm _ fun _ => rfl) [] (by simp [Builtin.firstCells]) (by omega) (by omega) (by simpa using hb1)
        obtain ⟨w', hw', g1, g2, g3⟩ := grown_row P h (e := e) (need := 0 + m) (old := 0) hz0 hzs (olds := []) (vs := cells) (xs := news) (by simpa using s3) (by simpa using s1) (by simpa using s4)
        rw [← hw'] at hg
        rw [Nat.zero_add] at hg g3
        exact ⟨_, w', _, hg, g1, g2, g3⟩
      · cases hl
  · rename_i r o n c ex
    have hown : ∃ ad c', vs = .slice (some ad) n c' ∧ c ≤ c' ∧ (ex = 0 → c' = c) ∧ ((c = 0 ∧ c' = 0 ∧ n = 0) ∨ ∃ b d, ρ[r]? = some (b, d) ∧ ad = ⟨b, d + o, none⟩ ∧ n ≤ c ∧ (ex ≠ 0 → ∃ arr e fr, w.heap[b]? = some (Obj.cells arr e fr) ∧ d + o + c' * ex ≤ arr.size)) := by
      cases h1 with
      | own hr hn hc hx hs => exact ⟨_, _, rfl, hc, hx, .inr ⟨_, _, hr, rfl, hn, hs⟩⟩
      | own0 ad => exact ⟨ad, 0, rfl, Nat.le_refl _, fun _ => rfl, .inl ⟨rfl, rfl, rfl⟩⟩
    obtain ⟨ad, c', rfl, hcc, hex, hst⟩ := hown
    have hnc : n ≤ c := by rcases hst with ⟨_, _, h3⟩ | ⟨_, _, _, _, h3, _⟩ <;> omega
    split at hl
    · rename_i hm
      subst hm
      injection hl with hl
      injection hl with e1 e2
      subst e1 e2
      have hc0 : cells = [] := List.eq_nil_of_length_eq_zero (by simpa using s3)
      subst hc0
      refine ⟨.slice (some ad) n c', w, ρ, ?_, h, Ext.refl H ρ w, h1⟩
      rw [run_append_room2 (ty := ty) a0 a1 ht ht1 hni hz (some ad) n c' vx 0 s2 [] (hfm w fun _ => rfl) (by omega)]
      rfl
    · rename_i hm
      split at hl
      case h_2 => cases hl
      rename_i cs e' mu hr
      split at hl
      case isFalse => cases hl
      rename_i hle
      split at hl
      · rename_i hroom
        split at hl
        case isFalse => cases hl
        rename_i hmu
        obtain ⟨rfl, hle2⟩ := hmu
        injection hl with hl
        injection hl with e1 e2
        subst e1 e2
        obtain ⟨b, d, hρ, rfl, _, hs⟩ := hst.resolve_left (by omega)
        obtain ⟨x1, x2, x3⟩ := h.write (P := P) hr hρ (o := o + n * inf.size) (xs := news) (by rw [s1]; rw [Nat.add_mul] at hle2; omega) (vs := cells) (by omega) s4 hone'
        refine ⟨.slice (some ⟨b, d + o, none⟩) (n + m) c', _, _, ?_, x2, x3, ?_⟩
        · rw [run_append_room2 (ty := ty) a0 a1 ht ht1 hni hz (some ⟨b, d + o, none⟩) n c' vx m s2 cells (hfm w fun _ => rfl) (by omega)]
          dsimp only
          rw [add_none, show d + o + n * inf.size = d + (o + n * inf.size) by omega, x1]
          rfl
        · refine .own hρ (by omega) hcc hex (fun h0 => ?_)
          obtain ⟨arr, e2, fr, h5, h6⟩ := hs h0
          obtain ⟨arr', fr', h7, h8⟩ := x3.sz _ _ _ _ h5
          exact ⟨arr', e2, fr', h7, by omega⟩
      · rename_i hroom
        split at hl
        case isFalse => cases hl
        rename_i hb
        obtain ⟨hb1, hb2⟩ := hb
        -- what the row held
        have holdV : ((cs.drop o).take (n * inf.size)).length = n * inf.size := by simp; omega
        have hold : ∃ olds : List Value, olds.length = n * inf.size ∧ (∀ (q : Nat) (y : V) (u : Value), ((cs.drop o).take (n * inf.size))[q]? = some y → olds[q]? = some u → VR w (Ok H ρ w) ρ y u) ∧
            ∀ w' : World, (∀ a : Addr, w'.cell? a = w.cell? a) → (Builtin.firstCells inf.size n (.slice (some ad) n c')).run P w' = .ok olds.toArray w' := by
          by_cases hn0 : n = 0
          · subst hn0
            exact ⟨[], by simp, fun q y u h3 => by simp at h3, fun w' _ => by simp [Builtin.firstCells, loadCells, loadCellsFrom]⟩
          · obtain ⟨q1, q2, olds, q3, q4, q5⟩ := lsrc_run (P := P) h (z := inf.size) (m := n) (x := .own r o n c ex) (news := (cs.drop o).take (n * inf.size)) hz0 (by
              unfold lsrc
              dsimp only
              rw [if_neg hn0, hr]
              dsimp only
              rw [if_pos hle]) h1
            exact ⟨olds, q3, q4, fun w' hw' => by rw [q5 n (Nat.le_refl n) w' hw', List.take_of_length_le (by omega)]⟩
        obtain ⟨olds, o1, o2, o3⟩ := hold
        have hboth : ∀ (q : Nat) (y : V) (u : Value), ((cs.drop o).take (n * inf.size) ++ news)[q]? = some y → (olds ++ cells)[q]? = some u → VR w (Ok H ρ w) ρ y u := by
          intro q y u h3 h4
          by_cases hq : q < n * inf.size
          · rw [List.getElem?_append_left (by omega)] at h3 h4
            exact o2 q y u h3 h4
          · rw [List.getElem?_append_right (by omega)] at h3 h4
            rw [holdV] at h3
            rw [o1] at h4
            exact s4 _ y u h3 h4
        have hgrow : c' < n + m → ∃ w', (Builtin.append_ ats ty #[.slice (some ad) n c', vx]).run P w = .ok (.slice (some ⟨w.heap.size, 0, none⟩) (n + m) (grownCap w (n + m) c' e)) w' ∧
            RelH G w0 (H ++ [.c ((cs.drop o).take (n * inf.size) ++ news) e true]) (ρ ++ [(w.heap.size, 0)]) w' ∧ Ext H ρ w (H ++ [.c ((cs.drop o).take (n * inf.size) ++ news) e true]) (ρ ++ [(w.heap.size, 0)]) w' ∧
            VR w' (Ok (H ++ [.c ((cs.drop o).take (n * inf.size) ++ news) e true]) (ρ ++ [(w.heap.size, 0)]) w') (ρ ++ [(w.heap.size, 0)]) (.own H.length 0 (n + m) (n + m) inf.size) (.slice (some ⟨w.heap.size, 0, none⟩) (n + m) (grownCap w (n + m) c' e)) := by
          intro hlt
          have hg := run_append_grow2 (ty := ty) a0 a1 ht ht1 hni hi hzv (some ad) n c' vx m s2 cells (hfm _ fun _ => rfl) olds (o3 _ fun _ => rfl) hlt (by omega) hb1
          obtain ⟨w', hw', g1, g2, g3⟩ := grown_row P h (e := e) (need := n + m) (old := c') hz0 hzs (olds := olds) (vs := cells) (xs := (cs.drop o).take (n * inf.size) ++ news)
            (by rw [List.length_append, Nat.add_mul]; omega) (by rw [List.length_append, Nat.add_mul]; omega) hboth
          rw [← hw'] at hg
          exact ⟨w', hg, g1, g2, g3⟩
        split at hl
        · rename_i hex0
          injection hl with hl
          injection hl with e1 e2
          subst e1 e2
          obtain ⟨w', g1, g2, g3, g4⟩ := hgrow (by have := hex hex0; omega)
          exact ⟨_, w', _, g1, g2, g3, g4⟩
        · rename_i hex0
          split at hl
          case isFalse => cases hl
          rename_i hcond
          obtain ⟨hexz, rfl, rfl⟩ := hcond
          injection hl with hl
          injection hl with e1 e2
          subst e1 e2
          have hrl : r < H.length := (List.getElem?_eq_some_iff.1 hr).1
          by_cases hfit : c' < n + m
          · obtain ⟨w', g1, g2, g3, g4⟩ := hgrow hfit
            obtain ⟨k1, k2⟩ := g2.kill (r := r) (cs := cs) (e := e') (by rw [List.getElem?_append_left hrl]; exact hr)
            rw [List.set_append_left _ _ hrl] at k1 k2
            exact ⟨_, w', _, g1, k1, g3.trans k2, k2.vr g4⟩
          · have hroom' : n + m ≤ c' := by omega
            rcases hst with ⟨_, h4, _⟩ | ⟨b, d, hρ, rfl, _, hs⟩
            · omega
            obtain ⟨arr, e2, fr, h5, h6⟩ := hs hex0
            rw [hexz] at h6
            have hmul := Nat.mul_le_mul_right inf.size hroom'
            rw [Nat.add_mul] at hmul
            obtain ⟨x1, x2, x3⟩ := h.write2 (P := P) hr hρ (o := o + n * inf.size) (xs := news) (by omega) (vs := cells) (by omega) s4 hone' h5 (by omega)
            have hr2 : (H.set r (.c (cs.take (o + n * inf.size) ++ news) e' true))[r]? = some (.c (cs.take (o + n * inf.size) ++ news) e' true) := by rw [List.getElem?_set, if_pos rfl, if_pos hrl]
            obtain ⟨y1, y2⟩ := x2.rename (o := o) hr2 hρ
            have hcsd : (cs.take (o + n * inf.size) ++ news).drop o = (cs.drop o).take (n * inf.size) ++ news := by
              rw [List.drop_append_of_le_length (by simp; omega), List.drop_take]
              congr 2
              omega
            rw [hcsd, List.set_set] at y1 y2
            refine ⟨.slice (some ⟨b, d + o, none⟩) (n + m) c', _, _, ?_, y1, x3.trans y2, ?_⟩
            · rw [run_append_room2 (ty := ty) a0 a1 ht ht1 hni hz (some ⟨b, d + o, none⟩) n c' vx m s2 cells (hfm w fun _ => rfl) hroom']
              dsimp only
              rw [add_none, show d + o + n * inf.size = d + (o + n * inf.size) by omega, x1]
              rfl
            · have hidx : (ρ ++ [(b, d + o)])[H.length]? = some (b, d + o) := by rw [← h.len]; simp
              refine VR.own (o := 0) (d := d + o) hidx (Nat.le_refl _) hroom' (fun h0 => by omega) (fun _ => ?_)
              obtain ⟨arr', fr', h7, h8⟩ := x3.sz _ _ _ _ h5
              exact ⟨arr', e2, fr', h7, by omega⟩
  · cases hl
end
end Go.Lw
/- The local walk: copy, maps that are written, a string's bytes. -/
namespace Go.Lw
open Go Go.RowKit

section
variable {P : Program} {G : List (Nat × List V)} {w0 w : World} {H : List LB} {ρ : List (Nat × Nat)}

/-- Copy. -/
def lcopy (P : Program) (H : List LB) (ats : Array TypeId) (d x : V) : Option (V × List LB) :=
  match ats[0]? with
  | some t => match P.underlying t with
    | some (.slice e) => match tsz P e with
      | some z => if 0 < z then match lsrc H z x with
          | some (m, news) => if news.all V.one = true then match d with
              | .nsl => some (.i .i64 0, H)
              | .own r o n _ _ => if min m n = 0 then some (.i .i64 0, H) else match H[r]? with
                | some (.c cs e' true) => if o + n * z ≤ cs.length then some (.i .i64 ((min m n : Nat) : Int), H.set r (.c (put cs o (news.take (min m n * z))) e' true)) else none
                | _ => none
              | _ => none
            else none
          | none => none
        else none
      | none => none
    | _ => none
  | none => none

theorem run_copy2 {t ty e : TypeId} {ats : Array TypeId} {z : Nat} (h0 : ats[0]? = some t) (ht : P.underlying t = some (.slice e)) (hz : tsz P e = some z) (base : Option Addr) (n c : Nat) (x : Value) (m : Nat)
    (hlen : (Builtin.lenOf x).run P w = .ok m w) (vs : List Value) (hf : (Builtin.firstCells z (Nat.min m n) x).run P w = .ok vs.toArray w) :
    (Builtin.copy_ ats ty #[.slice base n c, x]).run P w = (match base with | some a => (storeCells a vs).run P w | none => .ok () w).andThen fun _ w' => .ok (goInt ((Nat.min m n : Nat) : Int)) w' := by
  unfold Builtin.copy_
  simp only [h0]
  rw [show (#[Value.slice base n c, x])[0]? = some (Value.slice base n c) from rfl, show (#[Value.slice base n c, x])[1]? = some x from rfl]
  dsimp only
  rw [Sem.run_bind, run_under_t w ht]
  simp only [Result.andThen_ok]
  rw [Sem.run_bind, hlen]
  simp only [Result.andThen_ok]
  rw [Sem.run_bind, run_sizeOf_t w hz]
  simp only [Result.andThen_ok]
  rw [Sem.run_bind, hf]
  simp only [Result.andThen_ok]
  cases base with
  | none => rfl
  | some a => rw [Sem.run_bind]; rfl

theorem lcopy_run (h : RelH G w0 H ρ w) {ats : Array TypeId} {ty : TypeId} {d x v : V} {H' : List LB} (hl : lcopy P H ats d x = some (v, H')) {vd vx : Value} (h1 : VR w (Ok H ρ w) ρ d vd) (h2 : VR w (Ok H ρ w) ρ x vx) :
    ∃ val w' ρ', (Builtin.copy_ ats ty #[vd, vx]).run P w = .ok val w' ∧ RelH G w0 H' ρ' w' ∧ Ext H ρ w H' ρ' w' ∧ VR w' (Ok H' ρ' w') ρ' v val := by
  unfold lcopy at hl
  split at hl
  case h_2 => cases hl
  rename_i t a0
  split at hl
  case h_2 => cases hl
  rename_i e ht
  split at hl
  case h_2 => cases hl
  rename_i z hz
  split at hl
  case isFalse => cases hl
  rename_i hz0
  split at hl
  case h_2 => cases hl
  rename_i m news hsrc
  split at hl
  case isFalse => cases hl
  rename_i hone
  obtain ⟨s1, s2, cells, s3, s4, s5⟩ := lsrc_run (P := P) h hz0 hsrc h2
  split at hl
  · injection hl with hl
    injection hl with e1 e2
    subst e1 e2
    cases h1
    refine ⟨_, w, ρ, run_copy2 (ty := ty) a0 ht hz none 0 0 vx m s2 [] ?_, h, Ext.refl H ρ w, ?_⟩
    · have := s5 0 (Nat.zero_le _) w (fun _ => rfl)
      simpa using this
    · simp [goInt]
      exact .i _ _
  · rename_i r o n c ex
    have hown : ∃ ad c', vd = .slice (some ad) n c' ∧ ((n = 0) ∨ ∃ b d, ρ[r]? = some (b, d) ∧ ad = ⟨b, d + o, none⟩) := by
      cases h1 with
      | own hr hn hc hx hs => exact ⟨_, _, rfl, .inr ⟨_, _, hr, rfl⟩⟩
      | own0 ad => exact ⟨ad, 0, rfl, .inl rfl⟩
    obtain ⟨ad, c', rfl, hst⟩ := hown
    have hmin : Nat.min m n = min m n := rfl
    have hfk := s5 (min m n) (by omega) w (fun _ => rfl)
    split at hl
    · rename_i hm
      injection hl with hl
      injection hl with e1 e2
      subst e1 e2
      rw [hm] at hfk
      refine ⟨_, w, ρ, ?_, h, Ext.refl H ρ w, .i _ _⟩
      rw [run_copy2 (ty := ty) a0 ht hz (some ad) n c' vx m s2 [] (by rw [hmin, hm]; simpa using hfk)]
      simp [hm, storeCells, goInt]
    · rename_i hm
      split at hl
      case h_2 => cases hl
      rename_i cs e' hr
      split at hl
      case isFalse => cases hl
      rename_i hle
      injection hl with hl
      injection hl with e1 e2
      subst e1 e2
      obtain ⟨b, d, hρ, rfl⟩ := hst.resolve_left (by omega)
      have hk1 := Nat.mul_le_mul_right z (Nat.min_le_left m n)
      have hk2 := Nat.mul_le_mul_right z (Nat.min_le_right m n)
      have hl1 : (news.take (min m n * z)).length = min m n * z := by rw [List.length_take]; omega
      have hl2 : (cells.take (min m n * z)).length = min m n * z := by rw [List.length_take]; omega
      have hrel : ∀ (q : Nat) (y : V) (u : Value), (news.take (min m n * z))[q]? = some y → (cells.take (min m n * z))[q]? = some u → VR w (Ok H ρ w) ρ y u := by
        intro q y u h3 h4
        have hq : q < min m n * z := by rw [← hl1]; exact (List.getElem?_eq_some_iff.1 h3).1
        rw [List.getElem?_take_of_lt hq] at h3 h4
        exact s4 q y u h3 h4
      obtain ⟨x1, x2, x3⟩ := h.write (P := P) hr hρ (o := o) (xs := news.take (min m n * z)) (by omega) (vs := cells.take (min m n * z)) (by omega) hrel (fun u hu => by
        have hu' := List.mem_of_mem_take hu
        obtain ⟨q, hq, rfl⟩ := List.getElem_of_mem hu'
        have hq2 : q < news.length := by omega
        exact vr_one (s4 q _ _ (List.getElem?_eq_getElem hq2) (List.getElem?_eq_getElem hq)) (List.all_eq_true.1 hone _ (List.getElem_mem hq2)))
      refine ⟨_, _, _, ?_, x2, x3, .i _ _⟩
      rw [run_copy2 (ty := ty) a0 ht hz (some ⟨b, d + o, none⟩) n c' vx m s2 (cells.take (min m n * z)) (by rw [hmin]; exact hfk)]
      dsimp only
      rw [x1]
      simp [goInt, hmin]
  · cases hl

/-- A map, made. -/
def lmakeMap (P : Program) (H : List LB) (t : TypeId) (hint : Option V) : Option (V × List LB) :=
  match P.underlying t, hint with
  | some (.map kt _), none => some (.m H.length, H ++ [.mp [] kt])
  | some (.map kt _), some (.i _ _) => some (.m H.length, H ++ [.mp [] kt])
  | _, _ => none

theorem lmakeMap_run (h : RelH G w0 H ρ w) {t : TypeId} {hint : Option V} {v : V} {H' : List LB} (hl : lmakeMap P H t hint = some (v, H')) {vh : Option Value} (h1 : VRo w (Ok H ρ w) ρ hint vh) :
    ∃ val w' ρ', (Instr.makeMap t vh).run P w = .ok val w' ∧ RelH G w0 H' ρ' w' ∧ Ext H ρ w H' ρ' w' ∧ VR w' (Ok H' ρ' w') ρ' v val := by
  have key : ∀ kt, RelH G w0 (H ++ [.mp [] kt]) (ρ ++ [(w.heap.size, 0)]) (w.alloc (.map #[] 0)) ∧ Ext H ρ w (H ++ [.mp [] kt]) (ρ ++ [(w.heap.size, 0)]) (w.alloc (.map #[] 0)) ∧
      VR (w.alloc (.map #[] 0)) (Ok (H ++ [.mp [] kt]) (ρ ++ [(w.heap.size, 0)]) (w.alloc (.map #[] 0))) (ρ ++ [(w.heap.size, 0)]) (.m H.length) (.map (some w.heap.size)) := by
    intro kt
    exact ⟨h.alloc _ rfl _ ⟨rfl, #[], 0, rfl, rfl, fun j k v e h1 => by simp at h1⟩, Ext.alloc h _ _, .m (d := 0) (by rw [← h.len]; simp)⟩
  unfold lmakeMap at hl
  split at hl
  · rename_i kt et ht
    injection hl with hl
    injection hl with e1 e2
    subst e1 e2
    obtain ⟨a1, a2, a3⟩ := key kt
    cases vh with
    | some _ => exact h1.elim
    | none => exact ⟨_, _, _, by simp [Instr.makeMap], a1, a2, a3⟩
  · rename_i kt et k n ht
    injection hl with hl
    injection hl with e1 e2
    subst e1 e2
    obtain ⟨a1, a2, a3⟩ := key kt
    cases vh with
    | none => exact h1.elim
    | some vv =>
      cases h1
      exact ⟨_, _, _, by simp [Instr.makeMap, run_under_t w ht, asInt, asIntOf], a1, a2, a3⟩
  · cases hl

/-- A map's entries with one more, or another one. -/
def mput (es : List (V × V)) (k v : V) : List (V × V) :=
  match mat es k with
  | some j => es.set j (k, v)
  | none => es ++ [(k, v)]

/-- A map that is written. -/
def lmput (P : Program) (H : List LB) (t : TypeId) (x k v : V) : Option (List LB) :=
  match P.underlying t with
  | some (.map kt _) => match P.underlying kt with
    | some d => match x with
      | .m r => match H[r]? with
        | some (.mp es kt') => if keysOk d k es = true then some (H.set r (.mp (mput es k v) kt')) else none
        | _ => none
      | _ => none
    | none => none
  | _ => none

theorem lmput_run (h : RelH G w0 H ρ w) {t : TypeId} {x k v : V} {H' : List LB} (hl : lmput P H t x k v = some H') {vx vk vv : Value} (h1 : VR w (Ok H ρ w) ρ x vx) (h2 : VR w (Ok H ρ w) ρ k vk) (h3 : VR w (Ok H ρ w) ρ v vv) :
    ∃ w', (Instr.mapUpdate t vx vk vv).run P w = .ok () w' ∧ RelH G w0 H' ρ w' ∧ Ext H ρ w H' ρ w' := by
  unfold lmput at hl
  split at hl
  case h_2 => cases hl
  rename_i kt et ht
  split at hl
  case h_2 => cases hl
  rename_i d hd
  split at hl
  case h_2 => cases hl
  rename_i r
  split at hl
  case h_2 => cases hl
  rename_i es kt' hr
  split at hl
  case isFalse => cases hl
  rename_i hok
  injection hl with hl
  subst hl
  cases h1 with
  | @m _ b dd hρ =>
  obtain ⟨ob, hob, hdd, ents, clock, rfl, hE⟩ := h.is r _ b dd hr hρ
  subst hdd
  obtain ⟨kv', hks⟩ := keysOk_scal hok
  obtain rfl := vr_scal hks h2
  have hblk := h.blk r _ b 0 hr hρ rfl
  have hlt : b < w.heap.size := (Array.getElem?_eq_some_iff.1 hob).1
  -- the world behind
  have fin : ∀ (ents' : Array MapEntry) (clock' : Nat), Entries (VR w (Ok H ρ w) ρ) (mput es k v) ents' →
      RelH G w0 (H.set r (.mp (mput es k v) kt')) ρ { w with heap := w.heap.setIfInBounds b (.map ents' clock') } ∧ Ext H ρ w (H.set r (.mp (mput es k v) kt')) ρ { w with heap := w.heap.setIfInBounds b (.map ents' clock') } := by
    intro ents' clock' hE'
    have hsz : ({ w with heap := w.heap.setIfInBounds b (.map ents' clock') } : World).heap.size = w.heap.size := by simp
    have hfar : ∀ k, k ≠ b → ({ w with heap := w.heap.setIfInBounds b (.map ents' clock') } : World).heap[k]? = w.heap[k]? := fun k hk => by
      simp only
      rw [Array.getElem?_setIfInBounds_ne (fun e => hk e.symm)]
    have hnew : ({ w with heap := w.heap.setIfInBounds b (.map ents' clock') } : World).heap[b]? = some (.map ents' clock') := by
      simp [Array.getElem?_setIfInBounds_self, hlt]
    have hbb : ∀ (arr : Array Value) (e : TypeId) (fr : Nat × Nat), w.heap[b]? = some (Obj.cells arr e fr) → ∃ (arr' : Array Value) (fr' : Nat × Nat), ({ w with heap := w.heap.setIfInBounds b (.map ents' clock') } : World).heap[b]? = some (Obj.cells arr' e fr') ∧ arr'.size = arr.size := by
      intro arr e fr he
      rw [hob] at he
      cases he
    have hbel : Below w0.heap.size w0 { w with heap := w.heap.setIfInBounds b (.map ents' clock') } :=
      h.bel.trans ⟨rfl, rfl, rfl, Nat.le_of_eq hsz.symm, fun k hk => hfar k (by omega)⟩
    exact ⟨h.turn hr hρ rfl rfl hbel hsz hfar hbb _ hnew ⟨rfl, ents', clock', rfl, hE'⟩, Ext.turn h hr hρ rfl rfl hsz hfar hbb⟩
  have hrun : ∀ r', Instr.findNow d vk ents.toList 0 = some r' → (Instr.mapUpdate t (.map (some b)) vk vv).run P w = ((match r' with
      | some (i, _) => do
        let key ← Instr.keyThatStays (((ents[i]?).map (·.key)).getD vk) vk
        setObj b (.map (ents.modify i fun e => { e with key, val := vv }) clock)
      | none => setObj b (.map (ents.push { key := vk, val := vv, born := clock }) (clock + 1)) : Sem Unit)).run P w := by
    intro r' hf
    unfold Instr.mapUpdate
    rw [Sem.run_bind, run_under_t w ht]
    simp only [Result.andThen_ok]
    rw [Sem.run_bind]
    simp only [getObj, Sem.run, hob, Result.andThen_ok]
    rw [Sem.run_bind, checkKey_run hd hok hks 9999]
    simp only [Result.andThen_ok]
    rw [Sem.run_bind, findKey_run hd hf]
    rfl
  have hset : ∀ (o : Obj), (∀ a b c, o ≠ .cells a b c) → (setObj b o).run P w = .ok () { w with heap := w.heap.setIfInBounds b o } := by
    intro o _
    simp [setObj, Sem.run, hob]
  rcases findNow_run (R := VR w (Ok H ρ w) ρ) (fun x v v' hx hv => vr_scal hx hv) (d := d) hks es ents.toList 0 hok (by simpa using hE.1) (fun j a b e h1 h2 => hE.2 j a b e h1 (by rw [← Array.getElem?_toList]; exact h2)) with ⟨m1, m2⟩ | ⟨j, bv, e, m1, m2, m3, m4, m5, m6⟩
  · obtain ⟨f1, f2⟩ := fin (ents.push { key := vk, val := vv, born := clock }) (clock + 1) (by
      unfold mput
      rw [m1]
      refine ⟨by simp [hE.1], fun j a c e h4 h5 => ?_⟩
      rw [Array.getElem?_push] at h5
      by_cases hj : j < es.length
      · rw [List.getElem?_append_left hj] at h4
        rw [if_neg (by rw [hE.1]; omega)] at h5
        exact hE.2 j a c e h4 h5
      · rw [List.getElem?_append_right (by omega)] at h4
        have hz : j = es.length := by
          rcases Nat.eq_zero_or_pos (j - es.length) with h0 | h0
          · omega
          · rw [List.getElem?_eq_none (by simp; omega)] at h4
            cases h4
        subst hz
        rw [if_pos hE.1.symm] at h5
        simp at h4
        injection h5 with h5
        obtain ⟨rfl, rfl⟩ := h4
        subst h5
        exact ⟨h2, h3⟩)
    exact ⟨_, by rw [hrun _ m2]; exact hset _ (fun _ _ _ e => by cases e), f1, f2⟩
  · have hsame : Instr.sameBits 10000 e.key vk = true := by
      rw [m4]
      cases k <;> simp [scal] at hks <;> subst hks <;> simp [Instr.sameBits, bytes_refl]
    have hej : ents[j]? = some e := by rw [← Array.getElem?_toList]; exact m3
    obtain ⟨f1, f2⟩ := fin (ents.modify j fun e => { e with key := vk, val := vv }) clock (by
      unfold mput
      rw [m1]
      refine ⟨by simp [hE.1], fun q a c e' h4 h5 => ?_⟩
      rw [Array.getElem?_modify] at h5
      rw [List.getElem?_set] at h4
      by_cases hq : j = q
      · subst hq
        rw [if_pos rfl] at h4 h5
        rw [hej] at h5
        split at h4
        · injection h4 with h4
          injection h4 with h6 h7
          injection h5 with h5
          subst h6 h7 h5
          exact ⟨h2, h3⟩
        · cases h4
      · rw [if_neg hq] at h4 h5
        exact hE.2 q a c e' h4 h5)
    refine ⟨_, ?_, f1, f2⟩
    rw [hrun _ m6]
    simp only [Nat.zero_add, hej, Option.map_some, Option.getD_some]
    rw [Sem.run_bind]
    have hk : (Instr.keyThatStays e.key vk).run P w = .ok vk w := by
      unfold Instr.keyThatStays
      rw [if_pos hsame]
      rfl
    rw [hk]
    exact hset _ (fun _ _ _ e => by cases e)

/-- A string's bytes, in a row of one's own. -/
def lbytes (P : Program) (H : List LB) (src dst : TypeId) (x : V) : Option (V × List LB) :=
  match P.underlying src, P.underlying dst with
  | some _, some (.slice e) => match P.underlying e, tsz P e with
    | some (.int .u8), some 1 => match x with
      | .s b => some (.own H.length 0 b.size b.size 1, H ++ [.c (b.data.toList.map fun c => .i .u8 (c.toNat : Int)) e true])
      | _ => none
    | _, _ => none
  | _, _ => none

theorem lbytes_run (h : RelH G w0 H ρ w) {src dst : TypeId} {x v : V} {H' : List LB} (hl : lbytes P H src dst x = some (v, H')) {vx : Value} (h1 : VR w (Ok H ρ w) ρ x vx) :
    ∃ val w' ρ', (convert src dst vx).run P w = .ok val w' ∧ RelH G w0 H' ρ' w' ∧ Ext H ρ w H' ρ' w' ∧ VR w' (Ok H' ρ' w') ρ' v val := by
  unfold lbytes at hl
  split at hl
  case h_2 => cases hl
  rename_i u e hs hd
  split at hl
  case h_2 => cases hl
  rename_i he hz
  split at hl
  case h_2 => cases hl
  rename_i b
  injection hl with hl
  injection hl with e1 e2
  subst e1 e2
  cases h1
  have hrun := Lib.run_convert_string_bytes (P := P) w src dst e b hs hd he
  have hsz : b.data.toList.length = b.size := by rw [Array.length_toList]; rfl
  have hold : ∀ k, k < w.heap.size → (Lib.bytesWorld w e b).heap[k]? = w.heap[k]? := fun k hk => Lib.bytesWorld_at_old w e b k hk
  have hbel : Below w.heap.size w (Lib.bytesWorld w e b) := by
    refine ⟨?_, ?_, ?_, by rw [Lib.bytesWorld_size]; omega, hold⟩ <;> simp [Lib.bytesWorld, World.freeze, World.alloc, World.drew, -World.alloc_eq, -World.drew_eq]
  have hcs : (Lib.bytesCells w e b).size = grownCap w b.size 0 e := by
    have := grownCap_ge w b.size 0 e
    have h2 : b.data.size = b.size := rfl
    simp [Lib.bytesCells, h2]
    omega
  have hx := Ext.alloc_gen h (.c (b.data.toList.map fun c => .i .u8 (c.toNat : Int)) e true) (Lib.bytesWorld_size w e b) hold
  refine ⟨_, _, ρ ++ [(w.heap.size, 0)], hrun, h.alloc_gen _ rfl (Lib.bytesWorld_size w e b) hold hbel _ (Lib.bytesWorld_at_new w e b) ⟨_, _, rfl, .inr (Nat.le_refl _), fun k y hk => ?_⟩, hx, ?_⟩
  · rw [List.getElem?_map] at hk
    cases hq : b.data.toList[k]? with
    | none => rw [hq] at hk; cases hk
    | some c =>
      rw [hq] at hk
      injection hk with hk
      subst hk
      refine ⟨.int .u8 (c.toNat : Int), ?_, .i _ _⟩
      have hkl : k < b.data.size := by
        have := (List.getElem?_eq_some_iff.1 hq).1
        simpa using this
      have hq' : b.data[k]? = some c := by rw [← Array.getElem?_toList]; exact hq
      rw [Nat.zero_add]
      simp [Lib.bytesCells, Array.getElem?_append, hkl, hq']
      intro hle
      have : b.size = b.data.size := rfl
      omega
  · refine VR.own (d := 0) (o := 0) (blk := w.heap.size) (by rw [← h.len]; simp) (Nat.le_refl _) (grownCap_ge w b.size 0 e) (fun h0 => by omega) (fun _ => ⟨_, _, _, Lib.bytesWorld_at_new w e b, ?_⟩)
    omega
end
end Go.Lw
/- The local walk: one operation; the operations of a region. -/
namespace Go.Lw
open Go Go.RowKit

/-- What an activation has: its temporaries, its own blocks. -/
structure St where
  t : Nat → V
  H : List LB

/-- A temporary is written. -/
def upd (t : Nat → V) (d : Nat) (v : V) : Nat → V := fun j => if j = d then v else t j

theorem upd_apply (t : Nat → V) (d j : Nat) (v : V) : upd t d v j = if j = d then v else t j := Eq.trans rfl rfl

def updO (n : Nat) (t : Nat → V) (dst : Option Nat) (v : V) : Nat → V :=
  match dst with
  | some d => if d < n then upd t d v else t
  | none => t

theorem relT_put {H : List LB} {ρ : List (Nat × Nat)} {w : World} {n : Nat} {t : Nat → V} {a : Act} (h : RelT H ρ w n t a.tmps) (dst : Option Nat) {v : V} {val : Value} (hv : VR w (Ok H ρ w) ρ v val) :
    RelT H ρ w n (updO n t dst v) (a.put dst val).tmps := by
  cases dst with
  | none => exact h
  | some d =>
    refine ⟨by simp [Act.put, h.1], fun j => ?_⟩
    simp only [updO, Act.put]
    split
    · rename_i hd
      rw [upd_apply]
      by_cases hj : j = d
      · subst hj
        rw [if_pos rfl, Array.getD_eq_getD_getElem?, Array.getElem?_setIfInBounds_self]
        rw [if_pos (by rw [h.1]; exact hd)]
        exact hv
      · rw [if_neg hj, Array.getD_eq_getD_getElem?, Array.getElem?_setIfInBounds_ne (fun e => hj e.symm), ← Array.getD_eq_getD_getElem?]
        exact h.2 j
    · rename_i hd
      rw [Array.getD_eq_getD_getElem?]
      by_cases hj : j = d
      · subst hj
        rw [Array.getElem?_eq_none (by simp [h.1]; omega)]
        have := h.2 j
        rw [Array.getD_eq_getD_getElem?, Array.getElem?_eq_none (by rw [h.1]; omega)] at this
        exact this
      · rw [Array.getElem?_setIfInBounds_ne (fun e => hj e.symm), ← Array.getD_eq_getD_getElem?]
        exact h.2 j

theorem lookup_mem {G : List (Nat × List V)} {g : Nat} {cs : List V} (h : G.lookup g = some cs) : (g, cs) ∈ G := by
  induction G with
  | nil => simp at h
  | cons p G ih =>
    obtain ⟨g', cs'⟩ := p
    rw [List.lookup_cons] at h
    by_cases hg : g == g'
    · rw [hg] at h
      have hg' : g = g' := by simpa using hg
      injection h with h
      subst h hg'
      exact List.mem_cons_self
    · rw [show (g == g') = false by simpa using hg] at h
      exact List.mem_cons_of_mem _ (ih h)

theorem vr_ev {G : List (Nat × List V)} {w0 w : World} {H : List LB} {ρ : List (Nat × Nat)} (h : RelH G w0 H ρ w) {n : Nat} {t : Nat → V} {a : Act} (ht : RelT H ρ w n t a.tmps) (x : Operand) :
    VR w (Ok H ρ w) ρ (ev G t x) (a.eval x) := by
  cases x with
  | tmp k => exact ht.2 k
  | const v => exact vr_ofV v
  | global g =>
    simp only [ev, Act.eval]
    split
    · rename_i cs hg
      exact (h.glob g cs (lookup_mem hg)).2
    · exact .u _
  | func f =>
    refine .f rfl rfl ?_ ?_ <;> (intro q y v h1; simp at h1)

/-- The arguments of an operation that may lack. -/
def evo (G : List (Nat × List V)) (t : Nat → V) : Option Operand → Option V
  | none => none
  | some x => some (ev G t x)

/-- A built-in that is called. -/
def lbi (P : Program) (H : List LB) (b : Builtin) (ats : Array TypeId) (xs : List V) : Option (V × List LB) :=
  match b, xs with
  | .len, [x] => match ats[0]? with
    | some t => (llen P H t x).map fun v => (v, H)
    | none => none
  | .append, [s, x] => lappend P H ats s x
  | .copy, [d, x] => lcopy P H ats d x
  | .min, x :: y :: r => match (x :: y :: r).mapM scal with
    | some vs => (prun P (Builtin.min_ ats 0 vs.toArray)).map fun v => (ofV v, H)
    | none => none
  | .max, x :: y :: r => match (x :: y :: r).mapM scal with
    | some vs => (prun P (Builtin.max_ ats 0 vs.toArray)).map fun v => (ofV v, H)
    | none => none
  | _, _ => none

/-- Is a type no interface? -/
def concrete (P : Program) (t : TypeId) : Bool :=
  match P.underlying t with
  | some (.interface _) | none => false
  | _ => true

/-- A slice's array. -/
def larr (P : Program) (t : TypeId) (x : V) : Option V :=
  match P.underlying t with
  | some (.array len _) => match x with
    | .sl z xs => if 0 < z ∧ len ≤ xs.length ∧ 0 < xs.length then some (.ep (xs.flatMap V.cells) 0) else none
    | .own r o n _ _ => if len ≤ n ∧ 0 < n then some (.p r o) else none
    | _ => none
  | _ => none

theorem larr_run {P : Program} {w : World} {ok : Nat → Prop} {ρ : List (Nat × Nat)} {t : TypeId} {x v : V} (hl : larr P t x = some v) {a : Value} (ha : VR w ok ρ x a) : ∃ val, (Instr.arrayAt t a).run P w = .ok val w ∧ VR w ok ρ v val := by
  unfold larr at hl
  split at hl
  · rename_i len e ht
    split at hl
    · rename_i z xs
      split at hl
      · rename_i hc
        obtain ⟨hz, hle, h0⟩ := hc
        injection hl with hl
        subst hl
        cases ha with
        | sl0 => simp at h0
        | @sl _ _ blk off c vals hcap hzz hok hcell hv =>
          obtain ⟨f1, f2⟩ := flat_get xs hzz
          refine ⟨.pointer (some ⟨blk, off + 0, none⟩), ?_, .ep (fun q => vals (q / z) (q % z)) (fun _ => hok (fun e => by subst e; simp at h0) hz) (fun q hq => ?_) (fun q y hy => ?_)⟩
          · have : ¬ xs.length < len := by omega
            simp [Instr.arrayAt, run_under_t w ht, this]
          · rw [f1] at hq
            have h1 := hcell (q / z) (q % z) (Nat.div_lt_of_lt_mul (by rw [Nat.mul_comm]; exact hq)) (Nat.mod_lt _ hz)
            rw [Nat.div_add_mod'] at h1
            exact h1
          · have hq := (List.getElem?_eq_some_iff.1 hy).1
            rw [f1] at hq
            have hj : q / z < xs.length := Nat.div_lt_of_lt_mul (by rw [Nat.mul_comm]; exact hq)
            have h2 := f2 (q / z) (q % z) (Nat.mod_lt _ hz)
            rw [Nat.div_add_mod', hy, List.getElem?_eq_getElem hj] at h2
            exact hv (q / z) _ (List.getElem?_eq_getElem hj) (q % z) y h2.symm
      · cases hl
    · split at hl
      · rename_i hc
        injection hl with hl
        subst hl
        cases ha with
        | own hr hn hcc hx hs =>
          refine ⟨_, ?_, .p hr⟩
          have := hc.1
          simp [Instr.arrayAt, run_under_t w ht]
          omega
        | own0 ad hr ha => simp at hc
      · cases hl
    · cases hl
  · cases hl

/-- What an operation does that calls no function. -/
def leff (P : Program) (G : List (Nat × List V)) (st : St) (o : Oper) : Option (V × List LB) :=
  let e := ev G st.t
  let q (v : Option V) : Option (V × List LB) := v.map fun v => (v, st.H)
  match o.op with
  | .move x | .assign x => some (e x, st.H)
  | .pick c a b => match e c with
    | .b true => some (e a, st.H)
    | .b false => some (e b, st.H)
    | _ => none
  | .alloc t => match tzero P t with
    | some zv => lnew st.H t (ofV zv)
    | none => none
  | .box t x => lnew st.H t (e x)
  | .build t parts => q (lbuild P t (parts.toList.map fun p => (p.1, e p.2)))
  | .buildSlice t len parts => lbslice P st.H t len (parts.toList.map fun p => (p.1, e p.2))
  | .load t a => q (lload P st.H t (e a))
  | .store t a x => (lstore P st.H t (e a) (e x)).map fun H => (.u, H)
  | .nilCheck x => match e x with
    | .p r k => some (.p r k, st.H)
    | .ep cs k => some (.ep cs k, st.H)
    | .it t v => some (.it t v, st.H)
    | .f (.func g) a b => some (.f (.func g) a b, st.H)
    | _ => none
  | .binOp op t x y _ => q (lbin P op t (isLit x || isLit y) (e x) (e y))
  | .unOp op _ x => match scal (e x) with
    | some v => (prun P (Op.unary op v)).map fun v => (ofV v, st.H)
    | none => none
  | .convert s d x => match lconv P s d st.H (e x) with
    | some v => some (v, st.H)
    | none => lbytes P st.H s d (e x)
  | .sliceToArrayPointer t x => q (larr P t (e x))
  | .makeInterface t x => if concrete P t = true then some (.it t (e x), st.H) else none
  | .makeFunc fn first caps => some (.f fn (first.toList.map e) (caps.toList.map e), st.H)
  | .makeMap t r => lmakeMap P st.H t (evo G st.t r)
  | .makeSlice t l c => lmake P st.H t (e l) (e c)
  | .slice t x lo hi mx => q (lslice P t (e x) (evo G st.t lo) (evo G st.t hi) (evo G st.t mx))
  | .fieldAddr s x f => q (lfaddr P s f (e x))
  | .field t x f => q (lfield P t f (e x))
  | .indexAddr t x i => q (liaddr P t (e x) (e i))
  | .index t x i => q (lindex P t (e x) (e i))
  | .lookup t x k ok => q (llookup P st.H t (e x) (e k) ok)
  | .mapUpdate t m k x | .insert t m k x => (lmput P st.H t (e m) (e k) (e x)).map fun H => (.u, H)
  | .extract x i => q (lextract (e x) i)
  | .call c => match c.callee with
    | .builtin b => lbi P st.H b c.argTypes (c.args.toList.map e)
    | _ => none
  | _ => none

section
variable {P : Program} {G : List (Nat × List V)} {w0 w : World} {ρ : List (Nat × Nat)} {st : St} {n : Nat} {a : Act}

theorem vro_ev (h : RelH G w0 st.H ρ w) (ht : RelT st.H ρ w n st.t a.tmps) (x : Option Operand) : VRo w (Ok st.H ρ w) ρ (evo G st.t x) (x.map a.eval) := by
  cases x with
  | none => trivial
  | some x => exact vr_ev h ht x

theorem parts_ev (h : RelH G w0 st.H ρ w) (ht : RelT st.H ρ w n st.t a.tmps) (ps : Array (Nat × Operand)) :
    PartsR w (Ok st.H ρ w) ρ (ps.toList.map fun p => (p.1, ev G st.t p.2)) (ps.map fun (i, x) => (i, a.eval x)).toList := by
  refine ⟨by simp, fun j i x i' v h1 h2 => ?_⟩
  rw [Array.toList_map] at h2
  rw [List.getElem?_map] at h1 h2
  cases hq : ps.toList[j]? with
  | none => rw [hq] at h1; cases h1
  | some p =>
    rw [hq] at h1 h2
    injection h1 with h1
    injection h2 with h2
    injection h1 with h3 h4
    injection h2 with h5 h6
    subst h3 h4 h5 h6
    exact ⟨rfl, vr_ev h ht p.2⟩

theorem scals_run {w : World} {ok : Nat → Prop} {ρ : List (Nat × Nat)} : ∀ (xs : List V) (vs : List Value), xs.mapM scal = some vs → ∀ (ys : List Value), ys.length = xs.length → (∀ (j : Nat) x y, xs[j]? = some x → ys[j]? = some y → VR w ok ρ x y) → ys = vs := by
  intro xs
  induction xs with
  | nil =>
    intro vs h ys hl _
    simp at h
    subst h
    exact List.eq_nil_of_length_eq_zero (by simpa using hl)
  | cons x xs ih =>
    intro vs h ys hl hy
    rw [List.mapM_cons] at h
    cases hx : scal x with
    | none => rw [hx] at h; cases h
    | some v =>
      rw [hx] at h
      cases hxs : xs.mapM scal with
      | none => rw [hxs] at h; cases h
      | some vs' =>
        rw [hxs] at h
        injection h with h
        subst h
        cases ys with
        | nil => simp at hl
        | cons y ys =>
          have h1 := vr_scal hx (hy 0 x y rfl rfl)
          have h2 := ih vs' hxs ys (by simpa using hl) (fun j a b h3 h4 => hy (j + 1) a b h3 h4)
          rw [h1, h2]

/-- What a run of an operation comes to. -/
def Comes1 (P : Program) (G : List (Nat × List V)) (w0 : World) (st : St) (ρ : List (Nat × Nat)) (w : World) (s : Sem Next) (v : V) (H' : List LB) : Prop :=
  ∃ val w' ρ', (s.run P w = .ok (.value val) w' ∨ (s.run P w = .ok .skip w' ∧ val = undef)) ∧ RelH G w0 H' ρ' w' ∧ Ext st.H ρ w H' ρ' w' ∧ VR w' (Ok H' ρ' w') ρ' v val

theorem Comes1.quiet (h : RelH G w0 st.H ρ w) {s : Sem Value} {v : V} (hs : ∃ val, s.run P w = .ok val w ∧ VR w (Ok st.H ρ w) ρ v val) : Comes1 P G w0 st ρ w (do pure (.value (← s))) v st.H := by
  obtain ⟨val, h1, h2⟩ := hs
  exact ⟨val, w, ρ, .inl (by rw [Sem.run_bind, h1]; rfl), h, Ext.refl _ _ _, h2⟩

theorem Comes1.eff {s : Sem Value} {v : V} {H' : List LB} (hs : ∃ val w' ρ', s.run P w = .ok val w' ∧ RelH G w0 H' ρ' w' ∧ Ext st.H ρ w H' ρ' w' ∧ VR w' (Ok H' ρ' w') ρ' v val) :
    Comes1 P G w0 st ρ w (do pure (.value (← s))) v H' := by
  obtain ⟨val, w', ρ', h1, h2, h3, h4⟩ := hs
  exact ⟨val, w', ρ', .inl (by rw [Sem.run_bind, h1]; rfl), h2, h3, h4⟩

theorem Comes1.skip {s : Sem Unit} {H' : List LB} (hs : ∃ w', s.run P w = .ok () w' ∧ RelH G w0 H' ρ w' ∧ Ext st.H ρ w H' ρ w') :
    Comes1 P G w0 st ρ w (do s; pure .skip) .u H' := by
  obtain ⟨w', h1, h2, h3⟩ := hs
  exact ⟨undef, w', ρ, .inr ⟨by rw [Sem.run_bind, h1]; rfl, rfl⟩, h2, h3, .u _⟩

theorem map_some {α β : Type} {x : Option α} {f : α → β} {b : β} (h : x.map f = some b) : ∃ a, x = some a ∧ f a = b := by
  cases x with
  | none => cases h
  | some a => exact ⟨a, rfl, Option.some.inj h⟩

theorem lbi_run (h : RelH G w0 st.H ρ w) {b : Builtin} {ats : Array TypeId} {ty : TypeId} {consts : Array Bool} {xs : List V} {v : V} {H' : List LB} (hl : lbi P st.H b ats xs = some (v, H')) {vs : Array Value}
    (hn : vs.size = xs.length) (hv : ∀ (j : Nat) x y, xs[j]? = some x → vs[j]? = some y → VR w (Ok st.H ρ w) ρ x y) : Comes1 P G w0 st ρ w (builtin b ats ty consts vs) v H' := by
  unfold lbi at hl
  split at hl
  · rename_i x
    split at hl
    · rename_i t hat
      obtain ⟨v', h1, h2⟩ := map_some hl
      injection h2 with h3 h4
      subst h3 h4
      have hlt : 0 < vs.size := by rw [hn]; exact Nat.zero_lt_succ _
      exact Comes1.quiet h (llen_run (P := P) h hat h1 (hv 0 x vs[0] rfl (Array.getElem?_eq_getElem hlt)) (Array.getElem?_eq_getElem hlt))
    · cases hl
  · rename_i s x
    have h2 : vs.size = 2 := hn
    have e : vs = #[vs[0], vs[1]] := by
      apply Array.ext
      · simpa using h2
      · intro i hi1 hi2
        simp at hi2
        match i, hi2 with
        | 0, _ => rfl
        | 1, _ => rfl
    have := lappend_run (P := P) h (ty := ty) hl (hv 0 s vs[0] rfl (Array.getElem?_eq_getElem (by omega))) (hv 1 x vs[1] rfl (Array.getElem?_eq_getElem (by omega)))
    rw [← e] at this
    exact Comes1.eff this
  · rename_i d x
    have h2 : vs.size = 2 := hn
    have e : vs = #[vs[0], vs[1]] := by
      apply Array.ext
      · simpa using h2
      · intro i hi1 hi2
        simp at hi2
        match i, hi2 with
        | 0, _ => rfl
        | 1, _ => rfl
    have := lcopy_run (P := P) h (ty := ty) hl (hv 0 d vs[0] rfl (Array.getElem?_eq_getElem (by omega))) (hv 1 x vs[1] rfl (Array.getElem?_eq_getElem (by omega)))
    rw [← e] at this
    exact Comes1.eff this
  · split at hl
    · rename_i vs' hm
      obtain ⟨v', h1, h2⟩ := map_some hl
      injection h2 with h3 h4
      subst h3 h4
      have e : vs.toList = vs' := scals_run _ _ hm _ (by simpa using hn) (fun j x y h1 h2 => hv j x y h1 (by rw [← Array.getElem?_toList]; exact h2))
      refine Comes1.quiet h ⟨v', ?_, vr_ofV v'⟩
      rw [← e] at h1
      exact prun_run _ _ h1 w
    · cases hl
  · split at hl
    · rename_i vs' hm
      obtain ⟨v', h1, h2⟩ := map_some hl
      injection h2 with h3 h4
      subst h3 h4
      have e : vs.toList = vs' := scals_run _ _ hm _ (by simpa using hn) (fun j x y h1 h2 => hv j x y h1 (by rw [← Array.getElem?_toList]; exact h2))
      refine Comes1.quiet h ⟨v', ?_, vr_ofV v'⟩
      rw [← e] at h1
      exact prun_run _ _ h1 w
    · cases hl
  · cases hl

theorem fvr_ev (h : RelH G w0 st.H ρ w) (ht : RelT st.H ρ w n st.t a.tmps) (xs : Array Operand) (q : Nat) (y : V) (v : Value) (h1 : (xs.toList.map (ev G st.t))[q]? = some y) (h2 : (xs.map a.eval)[q]? = some v) : VR w (Ok st.H ρ w) ρ y v := by
  rw [List.getElem?_map, Array.getElem?_toList] at h1
  rw [Array.getElem?_map] at h2
  cases hq : xs[q]? with
  | none => rw [hq] at h1; cases h1
  | some x =>
    rw [hq] at h1 h2
    injection h1 with h1
    injection h2 with h2
    subst h1 h2
    exact vr_ev h ht x

set_option maxHeartbeats 1000000 in
theorem leff_run (h : RelH G w0 st.H ρ w) (ht : RelT st.H ρ w n st.t a.tmps) {o : Oper} {v : V} {H' : List LB} (hl : leff P G st o = some (v, H')) : Comes1 P G w0 st ρ w (execOp a.eval o) v H' := by
  have he : ∀ x, VR w (Ok st.H ρ w) ρ (ev G st.t x) (a.eval x) := vr_ev h ht
  have now : ∀ {x : V} {val : Value}, VR w (Ok st.H ρ w) ρ x val → Comes1 P G w0 st ρ w (pure (.value val)) x st.H := fun hx => ⟨_, w, ρ, .inl rfl, h, Ext.refl _ _ _, hx⟩
  obtain ⟨dst, op, type, pos, after, guard⟩ := o
  cases op <;> simp only [leff] at hl <;> try (cases hl; done)
  case move x =>
    injection hl with hl
    injection hl with e1 e2
    subst e1 e2
    exact now (he x)
  case assign x =>
    injection hl with hl
    injection hl with e1 e2
    subst e1 e2
    exact now (he x)
  case pick c x y =>
    have hc := he c
    split at hl
    · rename_i e
      rw [e] at hc
      injection hl with hl
      injection hl with e1 e2
      subst e1 e2
      refine ⟨a.eval x, w, ρ, .inl ?_, h, Ext.refl _ _ _, he x⟩
      generalize hq : a.eval c = vc at hc
      cases hc
      simp [execOp, hq, asBool]
    · rename_i e
      rw [e] at hc
      injection hl with hl
      injection hl with e1 e2
      subst e1 e2
      refine ⟨a.eval y, w, ρ, .inl ?_, h, Ext.refl _ _ _, he y⟩
      generalize hq : a.eval c = vc at hc
      cases hc
      simp [execOp, hq, asBool]
    · cases hl
  case alloc t =>
    split at hl
    · rename_i zv hz
      obtain ⟨ad, w', ρ', r1, r2, r3, r4⟩ := lnew_run (P := P) h hl (vr_ofV zv)
      exact Comes1.eff ⟨_, w', ρ', by simp [Instr.alloc, run_zero_t w hz, r1], r2, r3, r4⟩
    · cases hl
  case box t x =>
    obtain ⟨ad, w', ρ', r1, r2, r3, r4⟩ := lnew_run (P := P) h hl (he x)
    exact Comes1.eff ⟨_, w', ρ', by simp [Instr.box, r1], r2, r3, r4⟩
  case build t ps =>
    obtain ⟨v', h1, h2⟩ := map_some hl
    injection h2 with h3 h4
    subst h3 h4
    exact Comes1.quiet h (lbuild_run h1 (parts_ev h ht ps))
  case buildSlice t len ps => exact Comes1.eff (lbslice_run h hl (parts_ev h ht ps))
  case load t x =>
    obtain ⟨v', h1, h2⟩ := map_some hl
    injection h2 with h3 h4
    subst h3 h4
    exact Comes1.quiet h (lload_run h h1 (he x))
  case store t x y =>
    obtain ⟨v', h1, h2⟩ := map_some hl
    injection h2 with h3 h4
    subst h3 h4
    exact Comes1.skip (lstore_run h h1 (he x) (he y))
  case nilCheck x =>
    have hx := he x
    split at hl <;> try (cases hl; done)
    all_goals
      rename_i e
      rw [e] at hx
      injection hl with hl
      injection hl with e1 e2
      subst e1 e2
      refine ⟨a.eval x, w, ρ, .inl ?_, h, Ext.refl _ _ _, hx⟩
      generalize hq : a.eval x = vc at hx
      cases hx
      simp [execOp, hq]
  case sliceToArrayPointer t x =>
    obtain ⟨v', h1, h2⟩ := map_some hl
    injection h2 with h3 h4
    subst h3 h4
    exact Comes1.quiet h (larr_run h1 (he x))
  case binOp op t x y t2 =>
    obtain ⟨v', h1, h2⟩ := map_some hl
    injection h2 with h3 h4
    subst h3 h4
    exact Comes1.quiet h (lbin_run h1 (he x) (he y))
  case unOp op t x =>
    split at hl
    · rename_i vx hs
      obtain ⟨v', h1, h2⟩ := map_some hl
      injection h2 with h3 h4
      subst h3 h4
      have := vr_scal hs (he x)
      exact Comes1.quiet h ⟨v', by rw [this]; exact prun_run _ _ h1 w, vr_ofV v'⟩
    · cases hl
  case convert s d x =>
    split at hl
    · rename_i v' h1
      injection hl with hl
      injection hl with e1 e2
      subst e1 e2
      exact Comes1.quiet h (lconv_run h h1 (he x))
    · exact Comes1.eff (lbytes_run h hl (he x))
  case makeInterface t x =>
    split at hl
    · rename_i hc
      injection hl with hl
      injection hl with e1 e2
      subst e1 e2
      refine Comes1.quiet h ⟨.iface t (a.eval x), ?_, .it (he x)⟩
      unfold concrete at hc
      split at hc
      · cases hc
      · cases hc
      · rename_i h1 h2
        cases hd : P.underlying t with
        | none => exact absurd hd h2
        | some d =>
          unfold Instr.makeInterface
          rw [Sem.run_bind, run_under_t w hd]
          cases d <;> first | rfl | exact absurd hd (h1 _)
    · cases hl
  case makeFunc fn first caps =>
    injection hl with hl
    injection hl with e1 e2
    subst e1 e2
    exact Comes1.quiet h ⟨.func fn (first.map a.eval) (caps.map a.eval), rfl, .f (by simp) (by simp) (fun q y v h1 h2 => fvr_ev h ht first q y v h1 h2) (fun q y v h1 h2 => fvr_ev h ht caps q y v h1 h2)⟩
  case makeMap t r => exact Comes1.eff (lmakeMap_run h hl (vro_ev h ht r))
  case makeSlice t l c => exact Comes1.eff (lmake_run h hl (he l) (he c))
  case slice t x lo hi mx =>
    obtain ⟨v', h1, h2⟩ := map_some hl
    injection h2 with h3 h4
    subst h3 h4
    exact Comes1.quiet h (lslice_run h1 (he x) (vro_ev h ht lo) (vro_ev h ht hi) (vro_ev h ht mx))
  case fieldAddr s x f =>
    obtain ⟨v', h1, h2⟩ := map_some hl
    injection h2 with h3 h4
    subst h3 h4
    exact Comes1.quiet h (lfaddr_run h1 (he x))
  case field t x f =>
    obtain ⟨v', h1, h2⟩ := map_some hl
    injection h2 with h3 h4
    subst h3 h4
    exact Comes1.quiet h (lfield_run h1 (he x))
  case indexAddr t x i =>
    obtain ⟨v', h1, h2⟩ := map_some hl
    injection h2 with h3 h4
    subst h3 h4
    exact Comes1.quiet h (liaddr_run h1 (he x) (he i))
  case index t x i =>
    obtain ⟨v', h1, h2⟩ := map_some hl
    injection h2 with h3 h4
    subst h3 h4
    exact Comes1.quiet h (lindex_run h1 (he x) (he i))
  case lookup t x k co =>
    obtain ⟨v', h1, h2⟩ := map_some hl
    injection h2 with h3 h4
    subst h3 h4
    exact Comes1.quiet h (llookup_run h h1 (he x) (he k))
  case mapUpdate t m k x =>
    obtain ⟨v', h1, h2⟩ := map_some hl
    injection h2 with h3 h4
    subst h3 h4
    exact Comes1.skip (lmput_run h h1 (he m) (he k) (he x))
  case insert t m k x =>
    obtain ⟨v', h1, h2⟩ := map_some hl
    injection h2 with h3 h4
    subst h3 h4
    exact Comes1.skip (lmput_run h h1 (he m) (he k) (he x))
  case extract x i =>
    obtain ⟨v', h1, h2⟩ := map_some hl
    injection h2 with h3 h4
    subst h3 h4
    exact Comes1.quiet h (lextract_run h1 (he x))
  case call c =>
    split at hl
    · rename_i b hb
      have := lbi_run (P := P) h (ty := type) (consts := c.args.map fun | .const _ => true | _ => false) hl (vs := c.args.map a.eval) (by simp) (fun j x y h1 h2 => fvr_ev h ht c.args j x y h1 h2)
      obtain ⟨val, w', ρ', r1, r2⟩ := this
      refine ⟨val, w', ρ', ?_, r2⟩
      have hrun : (execOp a.eval { dst := dst, op := .call c, type := type, pos := pos, after := after, guard := guard }).run P w = (builtin b c.argTypes type (c.args.map fun | .const _ => true | _ => false) (c.args.map a.eval)).run P w := by
        simp [execOp, resolve, hb, invoke]
        try rfl
      rw [hrun]
      exact r1
    · cases hl
end
end Go.Lw
