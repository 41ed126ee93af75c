/- Whatever its three arguments are, the law ListPuts returns true, and each argument reads behind the call as it read before (its tied card). Conditions: none but the row's own: the table crc.half reads as the program's text lays it, which the card ties. -/
import Derived.Test.YtopmghfjdpdncaaDoorCards
import Derived.Test.YtopmghfjdpdncaaDoorTie
import Derived.WalkKit
import Derived.ProofKit
import Derived.OpenShut
import Derived.Deep.DeepHandedRow
import Derived.Lib.LaidTab
import Derived.Test.YtopmghfjdpdncaaDoorF3
set_option linter.unusedSimpArgs false
set_option linter.unusedVariables false
namespace Go.Lw
open Go Go.Proofs Go.RowKit Go.ChangeShapes Go.WideShapes

/-- A slice of whole numbers that is handed in: what it holds, and that it reads on as it did. -/
theorem open_isl {H : Type} {enc : TypeId × Value → H} {P : Program} {W : World} {t e : TypeId} {v : Value} {d : DataW H} {ps : List MemPlace} {b0 : Nat} (ht : P.underlying t = some (.slice e)) (he : P.underlying e = some (.int .i64)) (hc : P.cellsOf e = 1)
    (hval : Value.okWide P W .any b0 t v) (hd : DataW.Trod enc P W 0 (fun _ => true) true t v d ps) :
    ∃ l : List Int, VR W (Ok [] [] W) [] (isl l) v ∧ ∀ (W' : World) (sp : Nat → Bool), Below W.heap.size W W' → (∀ p ∈ ps, sp p.block = true) → DataW.Trod enc P W' 0 sp true t v d ps := by
  obtain ⟨a0, len, cap, rfl⟩ := okWide_slice ht hval
  obtain ⟨fuel, hf⟩ := hd
  rcases open_ints ht he hc hf with ⟨h1, h2⟩ | ⟨a, len', cap', zs, h1, hb, hl, hm, hz, hx, hcell, hw⟩
  · simp [Value.cells] at h1
    obtain ⟨rfl, rfl, rfl⟩ := h1
    refine ⟨[], .sl0, fun W' sp _ _ => ⟨fuel, ?_⟩⟩
    cases fuel with
    | zero => simp [DataW.trod] at hf
    | succ n => simpa [DataW.trod, ht, Value.cells] using hf
  · simp [Value.cells] at h1
    obtain ⟨rfl, rfl, rfl⟩ := h1
    have hok : Value.okWide P W .any b0 t (.slice (some a) len cap) := hval
    simp only [Value.okWide, ht, Cell.okWide, Cell.ok] at hok
    obtain ⟨_, _, hlets, hspot, row, cells, hshape, _⟩ := hok
    obtain ⟨b, off, spot⟩ := a
    dsimp only at hspot hshape hb hz
    subst hspot
    have hlt : b < W.heap.size := by
      unfold World.shape? at hshape
      cases hh : W.heap[b]? with
      | none => rw [hh] at hshape; simp at hshape
      | some o => exact (Array.getElem?_eq_some_iff.1 hh).1
    simp only [if_true] at hz
    have hcell' : ∀ i, i < zs.length → W.cell? ⟨b, off + i, none⟩ = some (.int .i64 (zs.getD i 0)) := fun i hi => by
      have := hcell i hi
      rwa [add_plain] at this
    have hlen : (zs.take len).length = len := by simp; omega
    refine ⟨zs.take len, ?_, fun W' sp hB hsp => ⟨2, ?_⟩⟩
    · have hxl : ((zs.take len).map (V.i .i64)).length = len := by rw [List.length_map, hlen]
      have key : VR W (Ok [] [] W) [] (.sl 1 ((zs.take len).map (V.i .i64))) (.slice (some ⟨b, off, none⟩) ((zs.take len).map (V.i .i64)).length cap) := by
        refine .sl (fun j _ => .int .i64 (zs.getD j 0)) (by omega) (fun x hx => by obtain ⟨z, _, rfl⟩ := List.mem_map.1 hx; rfl) (fun _ _ => ⟨hlt, fun r lb hr => by simp at hr⟩) (fun j q hj hq => ?_) (fun j x hj q y hq => ?_)
        · obtain rfl : q = 0 := by omega
          rw [Nat.mul_one, Nat.add_zero]
          exact hcell' j (by omega)
        · rw [List.getElem?_map] at hj
          cases hl2 : (zs.take len)[j]? with
          | none => rw [hl2] at hj; cases hj
          | some z =>
            rw [hl2] at hj
            obtain rfl := Option.some.inj hj
            have hjl := (List.getElem?_eq_some_iff.1 hl2).1
            rw [hlen] at hjl
            rw [List.getElem?_take_of_lt hjl] at hl2
            match q with
            | 0 =>
              obtain rfl : V.i .i64 z = y := Option.some.inj hq
              rw [List.getD_eq_getElem?_getD, hl2]
              exact .i _ _
            | q + 1 => cases hq
      rw [hxl] at key
      exact key
    · rw [show (Value.slice (some (⟨b, off, none⟩ : Addr)) len cap).cells.toList = [.slice (some ⟨b, off, none⟩) len cap] from rfl]
      have hx1 := congrArg Prod.fst hx
      have hx2 := congrArg Prod.snd hx
      dsimp only at hx1 hx2
      rw [hx1, hx2]
      refine shut_ints (a := ⟨b, off, none⟩) 0 ht he hc hb hl hm ?_ (fun i hi => by rw [add_plain, hB.cell hlt]; exact hcell' i hi) hw
      dsimp only
      split
      · exact hz
      · rename_i hs
        rcases Nat.eq_zero_or_pos cap with h0 | h0
        · omega
        · exact absurd (show sp b = true from hsp (.cell b off) (by rw [hx2]; simp [MemPlace.row]; omega)) hs

/-- What a law's call owes, where what it was handed reads on as it did. -/
theorem post_of_below {H : Type} {enc : TypeId × Value → H} {P : Program} {f : Func} {s : ChangeSpec} {apart fresh handsOn again : Bool} {W W' : World} {args : Array Value} {v : Value} {ds gs : List (DataW H)} {before : List MemPlace}
    (hW : DataW.Whole enc P f.params.toList s.vars apart W args.toList ds gs before) (hB : Below W.heap.size W W')
    (hres : ∀ (b : Nat) (sp : Nat → Bool) (hd : Bool), DataW.TrodAll enc P W' b sp hd f.resultTypes.toList (v.resultList f.resultTypes.size) (s.fn H (ds ++ gs)).results [])
    (hargs : ∀ sp : Nat → Bool, (∀ p ∈ before, sp p.block = true) → DataW.TrodAll enc P W' 0 sp true f.params.toList args.toList (s.fn H (ds ++ gs)).args before)
    (hvars : ∀ sp : Nat → Bool, DataW.TrodVars enc P W' sp s.vars (s.fn H (ds ++ gs)).vars [])
    (hok : ∀ (j : Nat) (t : TypeId) (r : Value), f.resultTypes[j]? = some t → (v.resultList f.resultTypes.size)[j]? = some r → Value.okWide P W' .any 0 t r) :
    s.post enc P f apart fresh handsOn again W args v W' := by
  have hlt : ∀ p ∈ before, p.block < W.heap.size := fun p hp => hW.lt p hp
  have hold : ∀ p ∈ before, (fun b => decide (b < W.heap.size)) p.block = true := fun p hp => by simpa using hlt p hp
  refine ⟨ds, gs, before, [], before, [], hW, hres _ _ _, hargs _ hold, hvars _, World.keptBut_mono (fun p hp => ⟨hp, .inr (by simpa using hp)⟩) (hB.frame (· ∈ before)), fun _ => ?_⟩
  obtain ⟨_, _, _, _, _, hz, hn⟩ := hW
  refine ⟨hok, _, _, ([] ++ before) ++ [], ⟨[] ++ before, [], trodAll_append (hargs _ fun _ _ => rfl) (hres _ _ _), hvars _, rfl, ?_, ?_⟩, ?_⟩
  · intro b off hp
    have hp' : MemPlace.cell b off ∈ before := by simpa using hp
    rw [hB.frozen (p := ⟨b, off, none⟩) (hlt _ hp')]
    exact hz b off hp'
  · intro ha
    simpa using hn ha
  · intro p hp _
    simpa using hp
end Go.Lw

namespace Go.Proofs.YtopmghfjdpdncaaDoor.listPuts
open Go Go.Lw Go.ChangeShapes Go.WideShapes Go.ChangeAt Go.RowKit

theorem own : ownKnob Tryd.prog.godebug = none := by kernel_rfl
theorem gTab : Tryd.prog.globalNamed "jalousie/crc.half" = some 0 := by kernel_rfl
theorem gTabType : (Tryd.prog.globals[0]?).map (·.type) = some 94 := by kernel_rfl
theorem cells94 : Tryd.prog.cellsOf 94 = 16 := by kernel_rfl
theorem cells23 : Tryd.prog.cellsOf 23 = 1 := by kernel_rfl
theorem cells3 : Tryd.prog.cellsOf 3 = 1 := by kernel_rfl

/-- What the row's list gives: the table's cells. -/
theorem table {W : World} (h : laidMetH Tryd.prog Rows.listPutsRow.laid W) : Lib.TabIs Tryd.prog W "jalousie/crc.half" .u32 (halves.map fun x : Nat => (x : Int)) :=
  Lib.tabIs_of_head (rest := []) gTab gTabType ty94 ty23 cells23 cells94 h

theorem contract (H : Type) (enc : TypeId × Value → H) (W : World) (base : Nat) (args : Array Value) (ds gs : List (DataW H)) (before : List MemPlace)
    (hval : ∀ (j : Nat) t v, Tryd.f3.params[j]? = some t → args[j]? = some v → Value.okWide Tryd.prog W .any base t v)
    (hW : DataW.Whole enc Tryd.prog Tryd.f3.params.toList Rows.listPutsSpec.vars false W args.toList ds gs before) (hL : laidMetH Tryd.prog Rows.listPutsRow.laid W) :
    Calls Tryd.prog 3 args W fun e W' => ∃ v, e = .returned v ∧ Rows.listPutsSpec.post enc Tryd.prog Tryd.f3 false true false false W args v W' := by
  have hW' := hW
  obtain ⟨p, q, hA0, hV, rfl, hfz, hnd⟩ := hW
  have hA : DataW.TrodAll enc Tryd.prog W 0 (fun _ => true) true Tryd.f3.params.toList args.toList ds p := hA0
  rw [Tryd.params3] at hA hval
  obtain ⟨v0, vs0, d0, ds0, p0, q0, hargs, rfl, rfl, h0, r0⟩ := trodAll_cons hA
  obtain ⟨v1, vs1, d1, ds1, p1, q1, rfl, rfl, rfl, h1, r1⟩ := trodAll_cons r0
  obtain ⟨v2, vs2, d2, ds2, p2, q2, rfl, rfl, rfl, h2, r2⟩ := trodAll_cons r1
  obtain ⟨rfl, rfl, rfl⟩ := trodAll_nil r2
  obtain rfl : args = #[v0, v1, v2] := by cases args; simp_all
  obtain ⟨rfl, rfl⟩ := trodVars_none hV
  obtain ⟨l, hl, hl2⟩ := open_isl ty22 ty3 cells3 (hval 0 22 v0 rfl rfl) h0
  obtain ⟨a, ha, ha2⟩ := open_isl ty22 ty3 cells3 (hval 1 22 v1 rfl rfl) h1
  obtain ⟨n, rfl, rfl, rfl, hn⟩ := open_int ty23 (hval 2 23 v2 rfl rfl) h2
  have hn2 : 0 ≤ n ∧ n < 4294967296 := by
    simp only [Lit.wf, Bool.and_eq_true, decide_eq_true_eq] at hn
    have h1 : IntKind.u32.min = 0 := rfl
    have h2 : IntKind.u32.max = 4294967295 := rfl
    omega
  obtain ⟨ow, how⟩ : ∃ ow : Nat, n = (ow : Int) := ⟨n.toNat, by omega⟩
  subst how
  have hcell := fun i (hi : i < 16) => (table hL).cell gTab i hi
  have hsz : 0 < W.heap.size := by
    have := hcell 0 (by decide)
    unfold World.cell? at this
    cases hh : W.heap[0]? with
    | none => rw [hh] at this; simp at this
    | some o => exact (Array.getElem?_eq_some_iff.1 hh).1
  have hR : RelH [(0, halfV)] W [] [] W := by
    refine ⟨rfl, Below.refl _ W, ?_, ?_, ?_, ?_, ?_⟩
    · intro r lb b d hr; simp at hr
    · intro r r' lb lb' b d d' hr; simp at hr
    · intro r cs e b d hr; simp at hr
    · intro r lb b d hr; simp at hr
    · intro g cs hg
      obtain ⟨rfl, rfl⟩ : g = 0 ∧ cs = halfV := by simpa using hg
      refine ⟨hsz, .ep (fun q => .int .u32 ((halves.map fun x : Nat => (x : Int)).getD q 0)) (fun _ => ⟨hsz, fun r lb hr => by simp at hr⟩) (fun q hq => ?_) (fun q y hq => ?_)⟩
      · rw [Nat.zero_add]
        exact hcell q hq
      · unfold halfV at hq
        rw [List.getElem?_map] at hq
        cases hx : halves[q]? with
        | none => rw [hx] at hq; cases hq
        | some x =>
          rw [hx] at hq
          obtain rfl := Option.some.inj hq
          rw [List.getD_eq_getElem?_getD, List.getElem?_map, hx]
          exact .i _ _
  have hG0 : ∀ g cs, (g, cs) ∈ [(0, halfV)] → V.Lt 0 (.ep cs 0) := fun g cs hg => by
    obtain ⟨rfl, rfl⟩ : g = 0 ∧ cs = halfV := by simpa using hg
    refine .ep fun q y hq => ?_
    unfold halfV at hq
    rw [List.getElem?_map] at hq
    cases hx : halves[q]? with
    | none => rw [hx] at hq; cases hq
    | some x =>
      rw [hx] at hq
      obtain rfl := Option.some.inj hq
      exact .i _ _
  have hcall := (listputs_LC (G := [(0, halfV)]) rfl hG0 l a ow (by omega) []).2 W [] W #[v0, v1, .int .u32 (ow : Int)] hR ⟨rfl, fun j x v hj hv => by
    match j with
    | 0 => simp at hj hv; subst hj hv; exact hl
    | 1 => simp at hj hv; subst hj hv; exact ha
    | 2 => simp at hj hv; subst hj hv; exact .i _ _
    | j + 3 => simp at hj⟩
  refine (callsIn_wide (n := 0)).1 (((callsIn_wide (n := 0)).2 hcall).mono fun e W' he => ?_)
  obtain ⟨v, val, H', ρ', rfl, k1, _, k3, rfl, _⟩ := he
  cases k3 with
  | b _ =>
    have hB := k1.bel
    refine ⟨_, rfl, post_of_below hW' hB ?_ ?_ ?_ ?_⟩
    · exact fun _ _ _ => trodAll_cons_mk (shut_bool ty4 _) trodAll_mk0
    · intro sp hsp
      have hs0 : ∀ p ∈ p0, sp p.block = true := fun p hp => hsp p (by simp [hp])
      have hs1 : ∀ p ∈ p1, sp p.block = true := fun p hp => hsp p (by simp [hp])
      have := trodAll_cons_mk (hl2 W' sp hB hs0) (trodAll_cons_mk (ha2 W' sp hB hs1) (trodAll_cons_mk (shut_int (enc := enc) (P := Tryd.prog) (w := W') (base := 0) (spare := sp) (held := true) ty23 hn) trodAll_mk0))
      simpa [Rows.listPutsSpec] using this
    · exact fun _ => rfl
    · exact ok_one (by kernel_rfl) rfl (okWide_bool_mk ty4 _)

/-- A world for the witness: the settled one, the table (block 0) holding what its initialiser lays. -/
noncomputable def laidWorld (os : Os) : World :=
  { World.holding Tryd.prog os ⟨#[], #[], []⟩ with heap := (World.holding Tryd.prog os ⟨#[], #[], []⟩).heap.modify 0 fun
      | .cells _ t frozen => .cells #[.int .u32 0, .int .u32 498536548, .int .u32 997073096, .int .u32 651767980, .int .u32 1994146192, .int .u32 1802195444, .int .u32 1303535960, .int .u32 1342533948, .int .u32 3988292384, .int .u32 4027552580, .int .u32 3604390888, .int .u32 3412177804, .int .u32 2607071920, .int .u32 2262029012, .int .u32 2685067896, .int .u32 3183342108] t frozen
      | o => o }
def args0 : Array Value := #[.slice none 0 0, .slice none 0 0, .int .u32 0]
theorem laid_met (os : Os) : laidMet Tryd.prog Rows.listPutsRow.laid ((laidWorld os).forCall (fun _ _ => 0) ⟨#[], args0, []⟩).memory :=
  laidMet_of_run' 8 (by kernel_rfl) (by kernel_rfl)
theorem reads (os : Os) {H : Type} (enc : TypeId × Value → H) : ∃ places, DataW.whole enc Tryd.prog ((laidWorld os).forCall (fun _ _ => 0) ⟨#[], args0, []⟩).memory Tryd.f3.params.toList Rows.listPutsSpec.vars false args0.toList 8 = some ([.nil, .nil, .lit (.int .u32 0)], [], places) :=
  ⟨[], by kernel_rfl⟩

set_option maxRecDepth 100000 in
theorem lifted (os : Os) (started : os.Started) (H : Type) (enc : TypeId × Value → H) (F : Stop.Interp) :
    ReturnsInHanded {} Tryd.checked os 3 .any ((OpenSpec.ofChange Rows.listPutsSpec).preRow enc Tryd.prog Tryd.f3 Rows.listPutsRow.domain false Rows.listPutsRow.laid) (((OpenSpec.ofChange Rows.listPutsSpec).at F).post enc Tryd.prog Tryd.f3 false true false false) := by
  obtain ⟨places, hx⟩ := reads os enc
  refine returnsInHanded_of_row (C := Tryd.checked) (s := OpenSpec.ofChange Rows.listPutsSpec) own started (by kernel_rfl) Tryd.func3
    (witness_row_at (enc := enc) (C := Tryd.checked) false (laidWorld os) args0 rfl (by kernel_rfl) (by kernel_rfl) (by kernel_rfl)
      (OpenSpec.preRow_of_cond 8 hx (by kernel_rfl) (fun k hk => by cases hk) (by kernel_rfl) (laid_met os))) ?_
  intro W base args ds gs before hval hW _ _ _ hL _ _
  exact contract H enc W base args ds gs before hval hW hL

theorem said : Rows.ListPutsSaid :=
  OpenClaim.holds_of_cond 3 Tryd.f3 rfl rfl rfl rfl rfl rfl rfl ⟨rfl, rfl, rfl, rfl, rfl⟩ rfl rfl rfl rfl rfl (by kernel_rfl) Tryd.func3 (by kernel_rfl)
    (of_decide_eq_true (by kernel_rfl)) (by unfold Func.isWrapper; first | (rw [if_pos (by decide +kernel)]; kernel_rfl) | (rw [if_neg (by decide +kernel)]; exact ⟨rfl, rfl⟩))
    (fun os started H enc _ F => by rw [OpenClaim.pre_eq_preRow]; exact lifted os started H enc F)

/-- No parameter wants a stand-in; the program's own looks are off. -/
theorem plain (f : FuncId) (fn : Func) (hf : Tryd.pinned.checked.prog.funcNamed "jalousie/jalousielaw11.ListPuts" = some f) (hfn : Tryd.pinned.checked.prog.funcs[f]? = some fn) :
    false = Tryd.pinned.checked.prog.looks [] ∧ ∀ (j : Nat) t, fn.params[j]? = some t → Tryd.pinned.checked.prog.wantsStandIn t = false := by
  obtain rfl : f = 3 := Option.some.inj ((show Tryd.prog.funcNamed "jalousie/jalousielaw11.ListPuts" = some 3 by kernel_rfl).symm.trans hf) |>.symm
  obtain rfl : fn = Tryd.f3 := (Option.some.inj (Tryd.func3.symm.trans hfn)).symm
  refine ⟨by kernel_rfl, fun j t ht => ?_⟩
  rw [Tryd.params3] at ht
  have : t = 22 ∨ t = 22 ∨ t = 23 := by simpa using Array.mem_of_getElem? ht
  rcases this with rfl | rfl | rfl
  · exact (show Tryd.prog.wantsStandIn 22 = false by kernel_rfl)
  · exact (show Tryd.prog.wantsStandIn 22 = false by kernel_rfl)
  · exact (show Tryd.prog.wantsStandIn 23 = false by kernel_rfl)

theorem card : Rows.ListPutsCardSaid :=
  Claim7.holds_tied_plain_at .later [] _ _ _ _ said (fun _ h => by cases h) (by kernel_rfl) (fun _ h => by cases h) listPuts_row_tie rfl ⟨rfl, rfl⟩ (by kernel_rfl) rfl plain (by kernel_rfl)
end Go.Proofs.YtopmghfjdpdncaaDoor.listPuts
