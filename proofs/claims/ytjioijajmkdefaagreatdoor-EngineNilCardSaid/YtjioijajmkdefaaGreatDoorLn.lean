/-
  'EngineNil' of layer 23: whatever the operation and the number are, the law returns true and nothing that was there is turned. The four package variables that the row lists hold what the program's text lays.
-/
import Derived.Test.YtjioijajmkdefaaGreatDoorCards
import Derived.Test.YtjioijajmkdefaaGreatDoorTie
import Derived.Test.YtjioijajmkdefaaGreatDoorWlk
import Derived.ProofKit
import Derived.OpenShut
import Derived.Deep.DeepHandedRow
import Derived.Lib.LaidTab
namespace Go.Proofs.YtjioijajmkdefaaGreatDoor.Ln
open Go Go.ChangeShapes Go.WideShapes Go.ChangeAt Go.RowKit
set_option maxRecDepth 100000

theorem own : ownKnob Tryz.prog.godebug = none := by kernel_rfl
theorem laidOut : laidOutB Tryz.prog = true := by kernel_rfl

theorem cells27 : Tryz.prog.cellsOf 27 = 5 := by kernel_rfl
theorem cells25 : Tryz.prog.cellsOf 25 = 2 := by kernel_rfl
theorem cells3 : Tryz.prog.cellsOf 3 = 1 := by kernel_rfl
theorem cells22 : Tryz.prog.cellsOf 22 = 1 := by kernel_rfl
theorem cells9 : Tryz.prog.cellsOf 9 = 1 := by kernel_rfl
/-- An operation's cells. -/
theorem open_op {H : Type} {enc : TypeId × Value → H} {W : World} {base : Nat} {sp : Nat → Bool} {v : Value} {d : DataW H} {ps : List MemPlace} (hval : Value.okWide Tryz.prog W .any base 27 v) (h : DataW.Trod enc Tryz.prog W 0 sp true 27 v d ps) :
    ∃ (a b c : Int) (sl : Value) (s : ByteArray), v = Nil.op a b sl c s := by
  obtain ⟨⟨cs⟩, rfl, hsz⟩ := okWide_struct Tryz.underlying27 hval
  rw [cells27] at hsz
  obtain ⟨fuel, hv⟩ := h
  obtain ⟨xs, m, rfl, _, _, hxl, hf⟩ := DataW.trod_struct Tryz.underlying27 hv
  match cs, hsz with
  | [c0, c1, c2, c3, c4], _ =>
    have get : ∀ i, i < 4 → ∃ x, xs[i]? = some x := fun i hi => ⟨_, List.getElem?_eq_getElem (by rw [hxl]; exact hi)⟩
    obtain ⟨x0, g0⟩ := get 0 (by decide)
    obtain ⟨x1, g1⟩ := get 1 (by decide)
    obtain ⟨x2, g2⟩ := get 2 (by decide)
    obtain ⟨x3, g3⟩ := get 3 (by decide)
    have h0 : DataW.trod enc Tryz.prog W 0 sp true m 3 [c0] = some x0 := by simpa [cells3, Value.cells] using (hf 0 _ rfl).trans g0
    have h1 : DataW.trod enc Tryz.prog W 0 sp true m 25 [c1, c2] = some x1 := by simpa [cells25, Value.cells] using (hf 1 _ rfl).trans g1
    have h2 : DataW.trod enc Tryz.prog W 0 sp true m 22 [c3] = some x2 := by simpa [cells22, Value.cells] using (hf 2 _ rfl).trans g2
    have h3 : DataW.trod enc Tryz.prog W 0 sp true m 9 [c4] = some x3 := by simpa [cells9, Value.cells] using (hf 3 _ rfl).trans g3
    obtain ⟨a, e0, _⟩ := DataW.trod_int Tryz.underlying3 h0
    obtain ⟨c, e2, _⟩ := DataW.trod_int Tryz.underlying22 h2
    obtain ⟨s, e3, _⟩ := DataW.trod_string Tryz.underlying9 h3
    obtain ⟨ys, m', rfl, _, _, hyl, hg⟩ := DataW.trod_struct Tryz.underlying25 h1
    obtain ⟨y0, k0⟩ : ∃ y, ys[0]? = some y := ⟨_, List.getElem?_eq_getElem (by rw [hyl]; decide)⟩
    have k1 : DataW.trod enc Tryz.prog W 0 sp true m' 22 [c1] = some y0 := by simpa [cells22] using (hg 0 _ rfl).trans k0
    obtain ⟨b, e1, _⟩ := DataW.trod_int Tryz.underlying22 k1
    obtain rfl := (List.cons.inj e0).1
    obtain rfl := (List.cons.inj e1).1
    obtain rfl := (List.cons.inj e2).1
    obtain rfl := (List.cons.inj e3).1
    exact ⟨a, b, c, c2, s, rfl⟩

theorem contract (H : Type) (enc : TypeId × Value → H) (W : World) (base : Nat) (args : Array Value) (ds gs : List (DataW H)) (before : List MemPlace)
    (hval : ∀ (j : Nat) t v, Tryz.f3.params[j]? = some t → args[j]? = some v → Value.okWide Tryz.prog W .any base t v)
    (hW : DataW.Whole enc Tryz.prog Tryz.f3.params.toList Rows.engineNilSpec.vars false W args.toList ds gs before) (hL : laidMetH Tryz.prog Rows.engineNilRow.laid W) (hS : W.ShapedOpen Tryz.prog) :
    Calls Tryz.prog 3 args W fun e W' => ∃ v, e = .returned v ∧ Rows.engineNilSpec.post enc Tryz.prog Tryz.f3 false true false false W args v W' := by
  have hW' := hW
  obtain ⟨p, q, hA0, hV, rfl, hfz, hnd⟩ := hW
  have hA : DataW.TrodAll enc Tryz.prog W 0 (fun _ => true) true Tryz.f3.params.toList args.toList ds p := hA0
  rw [Tryz.params3] at hA hval
  obtain ⟨v0, vs0, d0, ds0, p0, q0, hargs, rfl, rfl, h0, r0⟩ := trodAll_cons hA
  obtain ⟨v1, vs1, d1, ds1, p1, q1, hargs1, rfl, rfl, h1, r1⟩ := trodAll_cons r0
  obtain ⟨rfl, rfl, rfl⟩ := trodAll_nil r1
  obtain rfl : args = #[v0, v1] := by cases args; simp_all
  obtain ⟨rfl, rfl⟩ := trodVars_none hV
  obtain ⟨n, rfl, rfl, rfl, _⟩ := open_int Tryz.underlying3 (hval 0 3 v0 rfl rfl) h0
  obtain ⟨a, b, c, sl, s, rfl⟩ := open_op (hval 1 27 v1 rfl rfl) h1
  have hsz : 6 ≤ W.heap.size := by
    obtain ⟨cs, hc, _⟩ := hS.1 5 #[.bool false] 4 (by decide) (by kernel_rfl)
    rcases Nat.lt_or_ge 5 W.heap.size with h | h
    · exact h
    · rw [Array.getElem?_eq_none h] at hc; cases hc
  refine (Nil.walk ⟨Fix.ok hL, hsz⟩ a b c n sl s).mono fun e W' ⟨he, hb⟩ => ?_
  exact ⟨_, he, Go.B.post_true laidOut (by kernel_rfl) (tb := 4) (by kernel_rfl) Tryz.underlying4 rfl hW' rfl rfl rfl hb⟩

/-- A world for the witness: the settled one, the listed variables holding what their texts lay. -/
def put (l : List Value) : Obj → Obj
  | .cells _ t frozen => .cells ⟨l⟩ t frozen
  | o => o
noncomputable def args0 : Array Value := #[.int .i64 0, .agg #[.int .i64 0, .int .u32 0, .slice none 0 0, .int .u32 0, .string ⟨#[]⟩]]
noncomputable def laidWorld (os : Os) : World :=
  { World.holding Tryz.prog os ⟨#[], #[], []⟩ with heap := ((((World.holding Tryz.prog os ⟨#[], #[], []⟩).heap.modify 0 (put Fix.sizes)).modify 1 (put Fix.high)).modify 2 (put Fix.letters)).modify 3 (put Fix.moves) }
theorem laid_met (os : Os) : laidMet Tryz.prog Rows.engineNilRow.laid ((laidWorld os).forCall (fun _ _ => 0) ⟨#[], args0, []⟩).memory :=
  laidMet_of_run' 8 (by kernel_rfl) (by kernel_rfl)
theorem reads (os : Os) {H : Type} (enc : TypeId × Value → H) : ∃ places, DataW.whole enc Tryz.prog ((laidWorld os).forCall (fun _ _ => 0) ⟨#[], args0, []⟩).memory Tryz.f3.params.toList Rows.engineNilSpec.vars false args0.toList 8 =
    some ([.lit (.int .i64 0), .agg [.lit (.int .i64 0), .agg [.lit (.int .u32 0), .nil], .lit (.int .u32 0), .lit (.string [])]], [], places) :=
  ⟨[], by kernel_rfl⟩

theorem lifted (os : Os) (started : os.Started) (H : Type) (enc : TypeId × Value → H) (F : Stop.Interp) :
    ReturnsInHanded {} Tryz.checked os 3 .any ((OpenSpec.ofChange Rows.engineNilSpec).preRow enc Tryz.prog Tryz.f3 Rows.engineNilRow.domain false Rows.engineNilRow.laid) (((OpenSpec.ofChange Rows.engineNilSpec).at F).post enc Tryz.prog Tryz.f3 false true false false) := by
  obtain ⟨places, hx⟩ := reads os enc
  refine returnsInHanded_of_row (C := Tryz.checked) (s := OpenSpec.ofChange Rows.engineNilSpec) own started (by kernel_rfl) Tryz.func3
    (witness_row_at (enc := enc) (C := Tryz.checked) false (laidWorld os) args0 rfl (by kernel_rfl) (by kernel_rfl) (by kernel_rfl)
      (OpenSpec.preRow_of_cond 8 hx (by kernel_rfl) (fun k hk => by cases hk) (by kernel_rfl) (laid_met os))) ?_
  intro W base args ds gs before hval hW _ _ _ hL hS _
  exact contract H enc W base args ds gs before hval hW hL hS

theorem said : Rows.EngineNilSaid :=
  OpenClaim.holds_of_cond 3 Tryz.f3 rfl rfl rfl rfl rfl rfl rfl ⟨rfl, rfl, rfl, rfl, rfl⟩ rfl rfl rfl rfl rfl (by kernel_rfl) Tryz.func3 (by kernel_rfl)
    (of_decide_eq_true (by kernel_rfl)) (by unfold Func.isWrapper; first | (rw [if_pos (by decide +kernel)]; kernel_rfl) | (rw [if_neg (by decide +kernel)]; exact ⟨rfl, rfl⟩))
    (fun os started H enc _ F => by rw [OpenClaim.pre_eq_preRow]; exact lifted os started H enc F)

/-- No parameter wants a stand-in; the program's own looks are off: what the card asks. -/
theorem plain (f : FuncId) (fn : Func) (hf : Tryz.pinned.checked.prog.funcNamed "plover/ploverlaw23.EngineNil" = some f) (hfn : Tryz.pinned.checked.prog.funcs[f]? = some fn) :
    true = Tryz.pinned.checked.prog.looks [] ∧ ∀ (j : Nat) t, fn.params[j]? = some t → Tryz.pinned.checked.prog.wantsStandIn t = false := by
  obtain rfl : f = 3 := Option.some.inj ((show Tryz.prog.funcNamed "plover/ploverlaw23.EngineNil" = some 3 by kernel_rfl).symm.trans hf) |>.symm
  obtain rfl : fn = Tryz.f3 := (Option.some.inj (Tryz.func3.symm.trans hfn)).symm
  refine ⟨by kernel_rfl, fun j t ht => ?_⟩
  rw [Tryz.params3] at ht
  have hm : t = 3 ∨ t = 27 := by simpa using Array.mem_of_getElem? ht
  rcases hm with rfl | rfl
  · exact (show Tryz.prog.wantsStandIn 3 = false by kernel_rfl)
  · exact (show Tryz.prog.wantsStandIn 27 = false by kernel_rfl)

/-- THE CARD. -/
theorem card : Rows.EngineNilCardSaid :=
  Claim7.holds_tied_plain_at .later [] _ _ _ _ said (fun _ h => by cases h) (by kernel_rfl) (fun _ h => by cases h) engineNil_row_tie rfl ⟨rfl, rfl⟩ (by kernel_rfl) rfl plain (by kernel_rfl)
end Go.Proofs.YtjioijajmkdefaaGreatDoor.Ln
