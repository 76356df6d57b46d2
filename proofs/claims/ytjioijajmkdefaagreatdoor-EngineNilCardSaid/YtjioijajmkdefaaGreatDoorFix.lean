/-
  The laid variables' cells, and the runs of 'fixed' of the layer 23 and of the nil engine's methods.
-/
import Derived.Test.YtjioijajmkdefaaGreatDoorRows
import Derived.Test.YtjioijajmkdefaaGreatDoorSht0
import Derived.KernelRfl
namespace Go.Proofs.YtjioijajmkdefaaGreatDoor.Fix
open Go Go.B Go.RowKit Go.Proofs.YtjioijajmkdefaaGreatDoor.S
set_option maxRecDepth 100000

def ints (k : IntKind) (l : List Int) : List Value := l.map (Value.int k)
def letters : List Value := ints .i32 [65,90,97,122,192,214,216,246,248,591,902,902,904,906,908,908,910,929,931,974,1024,1153,1162,1327,1488,1514]
def high : List Value := ints .i32 [19968,40959,44032,55203]
def sizes : List Value := ints .i64 [4,16,64,256]
def mv : List (Int × Int × Int × Int) → List Value
  | [] => []
  | (a, b, c, d) :: l => .int .i32 a :: .int .i32 b :: .int .i64 c :: .int .i32 d :: mv l
def moves : List Value := mv [(65,90,1,32),(192,214,1,32),(216,222,1,32),(256,311,2,1),(313,328,3,1),(330,375,2,1),(376,376,1,-121),(377,382,3,1),(383,383,1,-268),(902,902,1,38),(904,906,1,37),(908,908,1,64),(910,911,1,63),(913,929,1,32),(931,939,1,32),(962,962,1,1),(1024,1039,1,80),(1040,1071,1,32),(1120,1153,2,1),(1162,1215,2,1),(1232,1327,2,1),(1632,1641,1,-1584),(0,0,0,0),(0,0,0,0)]
def cellsAt (g : Nat) : List Value := if g = 0 then sizes else if g = 1 then high else if g = 2 then letters else if g = 3 then moves else []
def G (g i : Nat) : Option Value := (cellsAt g)[i]?
noncomputable def E : Env := Ev 6 G
noncomputable def T : DT := tbl E

theorem letters_eq : cutD Tryz.prog 4 (((Tryz.prog.globals[2]?).map (·.type)).getD 0) Rows.laid_plover_fold_letters = some letters := by kernel_rfl
theorem high_eq : cutD Tryz.prog 4 (((Tryz.prog.globals[1]?).map (·.type)).getD 0) Rows.laid_plover_fold_high = some high := by kernel_rfl
theorem moves_eq : cutD Tryz.prog 4 (((Tryz.prog.globals[3]?).map (·.type)).getD 0) Rows.laid_plover_fold_moves = some moves := by kernel_rfl
theorem sizes_eq : cutD Tryz.prog 4 (((Tryz.prog.globals[0]?).map (·.type)).getD 0) Rows.laid_plover_pool_sizes = some sizes := by kernel_rfl
theorem typed {g : Nat} (h : (Tryz.prog.globals[g]?).isSome = true) : (Tryz.prog.globals[g]?).map (·.type) = some (((Tryz.prog.globals[g]?).map (·.type)).getD 0) := by
  cases hx : Tryz.prog.globals[g]? with
  | none => rw [hx] at h; cases h
  | some x => rfl

theorem plain : ∀ g, g < 6 → (cellsAt g).all flatter = true := by
  intro g hg
  match g, hg with
  | 0, _ => exact (show (cellsAt 0).all flatter = true by kernel_rfl)
  | 1, _ => exact (show (cellsAt 1).all flatter = true by kernel_rfl)
  | 2, _ => exact (show (cellsAt 2).all flatter = true by kernel_rfl)
  | 3, _ => exact (show (cellsAt 3).all flatter = true by kernel_rfl)
  | 4, _ => exact (show (cellsAt 4).all flatter = true by kernel_rfl)
  | 5, _ => exact (show (cellsAt 5).all flatter = true by kernel_rfl)

theorem ok {W : World} (h : laidMetH Tryz.prog Rows.engineNilRow.laid W) : E.ok W := by
  obtain ⟨ps, h0, _⟩ : laidMet Tryz.prog Rows.engineNilRow.laid W := h
  obtain ⟨c2, q, h0⟩ := laid_cons h0 (g := 2) (by kernel_rfl) (typed (by kernel_rfl)) letters_eq
  obtain ⟨c1, q, h0⟩ := laid_cons h0 (g := 1) (by kernel_rfl) (typed (by kernel_rfl)) high_eq
  obtain ⟨c3, q, h0⟩ := laid_cons h0 (g := 3) (by kernel_rfl) (typed (by kernel_rfl)) moves_eq
  obtain ⟨c0, q, h0⟩ := laid_cons h0 (g := 0) (by kernel_rfl) (typed (by kernel_rfl)) sizes_eq
  refine ⟨fun g i v hg hG => ⟨?_, fun M _ => V.of_flatter (List.all_eq_true.1 (plain g hg) v (List.mem_of_getElem? hG))⟩⟩
  match g, hg with
  | 0, _ => exact c0 i v hG
  | 1, _ => exact c1 i v hG
  | 2, _ => exact c2 i v hG
  | 3, _ => exact c3 i v hG
  | 4, _ => cases hG
  | 5, _ => cases hG

theorem sound : E.sound := okProg_sound (show Tryz.prog.follows .mixedOrders = true by kernel_rfl) (show okProg Tryz.prog 6 = true by kernel_rfl)
theorem tok : T.all (LeafOK E) := tbl_ok 6 G
theorem run4 : isVal (.bool true) (callS T noX 2000 60 4 [] ⟨.e, 6⟩) = true := by kernel_rfl
theorem call4 {W : World} (h : E.ok W) (hb : 6 ≤ W.heap.size) : Calls Tryz.prog 4 #[] W fun e w' => e = .returned (.bool true) ∧ Below W.heap.size W w' :=
  table_below (E := E) h noX_ok sound tok hb 2000 60 4 rfl rfl (run4)
theorem run6 (n : Int) : isVal (.bool false) (callS T noX 2000 60 6 [.pointer none, .int .i64 n] ⟨.e, 6⟩) = true := by kernel_rfl
theorem call6 {W : World} (h : E.ok W) (hb : 6 ≤ W.heap.size) (n : Int) : Calls Tryz.prog 6 #[.pointer none, .int .i64 n] W fun e w' => e = .returned (.bool false) ∧ Below W.heap.size W w' :=
  table_below (E := E) h noX_ok sound tok hb 2000 60 6 rfl rfl (run6 n)
theorem run7 (n : Int) : isVal (.bool false) (callS T noX 2000 60 7 [.pointer none, .int .i64 n] ⟨.e, 6⟩) = true := by kernel_rfl
theorem call7 {W : World} (h : E.ok W) (hb : 6 ≤ W.heap.size) (n : Int) : Calls Tryz.prog 7 #[.pointer none, .int .i64 n] W fun e w' => e = .returned (.bool false) ∧ Below W.heap.size W w' :=
  table_below (E := E) h noX_ok sound tok hb 2000 60 7 rfl rfl (run7 n)
theorem run8 : isVal (.int .i64 0) (callS T noX 2000 60 8 [.pointer none] ⟨.e, 6⟩) = true := by kernel_rfl
theorem call8 {W : World} (h : E.ok W) (hb : 6 ≤ W.heap.size) : Calls Tryz.prog 8 #[.pointer none] W fun e w' => e = .returned (.int .i64 0) ∧ Below W.heap.size W w' :=
  table_below (E := E) h noX_ok sound tok hb 2000 60 8 rfl rfl (run8)
theorem run9 : isVal (.slice none 0 0) (callS T noX 2000 60 9 [.pointer none] ⟨.e, 6⟩) = true := by kernel_rfl
theorem call9 {W : World} (h : E.ok W) (hb : 6 ≤ W.heap.size) : Calls Tryz.prog 9 #[.pointer none] W fun e w' => e = .returned (.slice none 0 0) ∧ Below W.heap.size W w' :=
  table_below (E := E) h noX_ok sound tok hb 2000 60 9 rfl rfl (run9)
theorem run10 : isVal (.slice none 0 0) (callS T noX 2000 60 10 [.pointer none] ⟨.e, 6⟩) = true := by kernel_rfl
theorem call10 {W : World} (h : E.ok W) (hb : 6 ≤ W.heap.size) : Calls Tryz.prog 10 #[.pointer none] W fun e w' => e = .returned (.slice none 0 0) ∧ Below W.heap.size W w' :=
  table_below (E := E) h noX_ok sound tok hb 2000 60 10 rfl rfl (run10)
theorem run11 : isVal (.agg #[.int .i64 0, .int .i64 0, .int .i64 0, .int .i64 0, .int .i64 0, .int .i64 0]) (callS T noX 2000 60 11 [.pointer none] ⟨.e, 6⟩) = true := by kernel_rfl
theorem call11 {W : World} (h : E.ok W) (hb : 6 ≤ W.heap.size) : Calls Tryz.prog 11 #[.pointer none] W fun e w' => e = .returned (.agg #[.int .i64 0, .int .i64 0, .int .i64 0, .int .i64 0, .int .i64 0, .int .i64 0]) ∧ Below W.heap.size W w' :=
  table_below (E := E) h noX_ok sound tok hb 2000 60 11 rfl rfl (run11)
theorem run12 : isVal (.int .u32 0) (callS T noX 2000 60 12 [.pointer none] ⟨.e, 6⟩) = true := by kernel_rfl
theorem call12 {W : World} (h : E.ok W) (hb : 6 ≤ W.heap.size) : Calls Tryz.prog 12 #[.pointer none] W fun e w' => e = .returned (.int .u32 0) ∧ Below W.heap.size W w' :=
  table_below (E := E) h noX_ok sound tok hb 2000 60 12 rfl rfl (run12)
theorem run13 : isVal (.int .i64 0) (callS T noX 2000 60 13 [.pointer none] ⟨.e, 6⟩) = true := by kernel_rfl
theorem call13 {W : World} (h : E.ok W) (hb : 6 ≤ W.heap.size) : Calls Tryz.prog 13 #[.pointer none] W fun e w' => e = .returned (.int .i64 0) ∧ Below W.heap.size W w' :=
  table_below (E := E) h noX_ok sound tok hb 2000 60 13 rfl rfl (run13)
end Go.Proofs.YtjioijajmkdefaaGreatDoor.Fix
