/-
  Printed by a program of ours: each printed function is what the program's text does.
-/
import Derived.Test.YtjioijajmkdefaaGreatDoorShd0
import Derived.KernelRfl
namespace Go.Proofs.YtjioijajmkdefaaGreatDoor.S
open Go Go.B Go.Proofs
set_option maxRecDepth 100000
set_option maxHeartbeats 4000000
/-! 4: plover/ploverlaw23.fixed -/
theorem law23_fixed_1_eq (base : Nat) (G : Nat → Nat → Option Value) (call : CallF) (fuel : Nat) : ∀ (t : FT) (s : St), (Ev base G).codeK call fuel false (cr (cr (cr (codeOf Tryz.f4)))) [] t s (lastK (Ev base G) call fuel false Tryz.f4.results.toList) = law23_fixed_1 (Ev base G) call fuel (t 1) s :=
  fun t s => (nfRF t s).trans (by kernel_rfl)

theorem law23_fixed_2_eq (base : Nat) (G : Nat → Nat → Option Value) (call : CallF) (fuel : Nat) : ∀ (t : FT) (s : St), (Ev base G).codeK call fuel false (cr (cl (cr (cr (codeOf Tryz.f4))))) [] t s (thenK false (fun _ t s => law23_fixed_1 (Ev base G) call fuel (t 1) s) (lastK (Ev base G) call fuel false Tryz.f4.results.toList)) = law23_fixed_2 (Ev base G) call fuel (t 1) (t 18) s :=
  fun t s => (nfRF t s).trans (by kernel_rfl)

theorem law23_fixed_0_eq (base : Nat) (G : Nat → Nat → Option Value) (call : CallF) (fuel : Nat) : ∀ (t : FT) (s : St), (Ev base G).codeK call fuel false (codeOf Tryz.f4) [] t s (lastK (Ev base G) call fuel false Tryz.f4.results.toList) = law23_fixed_0 (Ev base G) call fuel s :=
  fun t s => ((nfSF (by kernel_rfl) (nfSF (by kernel_rfl) (nfSF (by kernel_rfl) (law23_fixed_1_eq base G call fuel) (nfSF (by kernel_rfl) (law23_fixed_2_eq base G call fuel) nfRF)) nfRF) nfRF) t s).trans (by kernel_rfl)

theorem law23_fixed_eq (base : Nat) (G : Nat → Nat → Option Value) (call : CallF) (fuel : Nat) (σ : St) : (Ev base G).funK call fuel false Tryz.f4 [] σ = law23_fixed (Ev base G) call fuel σ :=
  (show _ = (Ev base G).codeK call fuel false (codeOf Tryz.f4) [] (argF []) σ (lastK (Ev base G) call fuel false Tryz.f4.results.toList) by kernel_rfl).trans ((law23_fixed_0_eq base G call fuel (argF []) σ).trans (by kernel_rfl))
theorem law23_fixed_lf (base : Nat) (G : Nat → Nat → Option Value) : LeafOK (Ev base G) 4 (fun call fuel l σ => a0 l (law23_fixed (Ev base G) call fuel σ)) :=
  leaf0 (L := false) ⟨Tryz.func4, by kernel_rfl, by kernel_rfl⟩ (fun call fuel σ => law23_fixed_eq base G call fuel σ)

/-! 5: (*plover/engine.Engine).Begin -/
theorem engine_Engine_Begin_2_eq (base : Nat) (G : Nat → Nat → Option Value) (call : CallF) (fuel : Nat) : ∀ (t : FT) (s : St), (Ev base G).codeK call fuel false (cr (cr (cr (cr (cr (codeOf Tryz.f5)))))) [] t s (lastK (Ev base G) call fuel false Tryz.f5.results.toList) = engine_Engine_Begin_2 (Ev base G) call fuel (t 1) (t 3) (t 7) s :=
  fun t s => (nfRF t s).trans (by kernel_rfl)

theorem engine_Engine_Begin_1_eq (base : Nat) (G : Nat → Nat → Option Value) (call : CallF) (fuel : Nat) : ∀ (t : FT) (s : St), (Ev base G).codeK call fuel false (cr (cr (codeOf Tryz.f5))) [] t s (lastK (Ev base G) call fuel false Tryz.f5.results.toList) = engine_Engine_Begin_1 (Ev base G) call fuel (t 1) (t 3) (t 5) s :=
  fun t s => ((nfSF (by kernel_rfl) (nfSF (by kernel_rfl) (nfSF (by kernel_rfl) (engine_Engine_Begin_2_eq base G call fuel) nfRF) nfRF) nfRF) t s).trans (by kernel_rfl)

theorem engine_Engine_Begin_3_eq (base : Nat) (G : Nat → Nat → Option Value) (call : CallF) (fuel : Nat) : ∀ (t : FT) (s : St), (Ev base G).codeK call fuel false (cr (cb (cl (cr (codeOf Tryz.f5))))) [] t s (blkK 0 (thenK false (fun _ t s => engine_Engine_Begin_1 (Ev base G) call fuel (t 1) (t 3) (t 5) s) (lastK (Ev base G) call fuel false Tryz.f5.results.toList))) = engine_Engine_Begin_3 (Ev base G) call fuel (t 1) (t 3) (t 5) (t 9) s :=
  fun t s => (nfRF t s).trans (by kernel_rfl)

theorem engine_Engine_Begin_0_eq (base : Nat) (G : Nat → Nat → Option Value) (call : CallF) (fuel : Nat) : ∀ (t : FT) (s : St), (Ev base G).codeK call fuel false (codeOf Tryz.f5) [] t s (lastK (Ev base G) call fuel false Tryz.f5.results.toList) = engine_Engine_Begin_0 (Ev base G) call fuel (t 0) (t 1) (t 2) s :=
  fun t s => ((nfSF (by kernel_rfl) (nfSF (by kernel_rfl) (engine_Engine_Begin_1_eq base G call fuel) (nfBF 0 (by kernel_rfl) (nfSF (by kernel_rfl) (engine_Engine_Begin_3_eq base G call fuel) nfRF))) nfRF) t s).trans (by kernel_rfl)

theorem engine_Engine_Begin_eq (base : Nat) (G : Nat → Nat → Option Value) (call : CallF) (fuel : Nat) (x0 x1 x2 : Value) (σ : St) : (Ev base G).funK call fuel false Tryz.f5 [x0, x1, x2] σ = engine_Engine_Begin (Ev base G) call fuel x0 x1 x2 σ :=
  (show _ = (Ev base G).codeK call fuel false (codeOf Tryz.f5) [] (argF [x0, x1, x2]) σ (lastK (Ev base G) call fuel false Tryz.f5.results.toList) by kernel_rfl).trans ((engine_Engine_Begin_0_eq base G call fuel (argF [x0, x1, x2]) σ).trans (by kernel_rfl))
theorem engine_Engine_Begin_lf (base : Nat) (G : Nat → Nat → Option Value) : LeafOK (Ev base G) 5 (fun call fuel l σ => a3 l fun x0 x1 x2 => (engine_Engine_Begin (Ev base G) call fuel x0 x1 x2 σ)) :=
  leaf3 (L := false) ⟨Tryz.func5, by kernel_rfl, by kernel_rfl⟩ (fun call fuel x0 x1 x2 σ => engine_Engine_Begin_eq base G call fuel x0 x1 x2 σ)

/-! 6: (*plover/engine.Engine).Pick -/
theorem engine_Engine_Pick_2_eq (base : Nat) (G : Nat → Nat → Option Value) (call : CallF) (fuel : Nat) : ∀ (t : FT) (s : St), (Ev base G).codeK call fuel false (cr (cr (cr (cr (cr (cr (cr (cr (cr (cr (codeOf Tryz.f6))))))))))) [] t s (lastK (Ev base G) call fuel false Tryz.f6.results.toList) = engine_Engine_Pick_2 (Ev base G) call fuel (t 0) (t 6) s :=
  fun t s => (nfRF t s).trans (by kernel_rfl)

theorem engine_Engine_Pick_1_eq (base : Nat) (G : Nat → Nat → Option Value) (call : CallF) (fuel : Nat) : ∀ (t : FT) (s : St), (Ev base G).codeK call fuel false (cr (cr (cr (cr (cr (cr (codeOf Tryz.f6))))))) [] t s (lastK (Ev base G) call fuel false Tryz.f6.results.toList) = engine_Engine_Pick_1 (Ev base G) call fuel (t 0) (t 1) (t 5) s :=
  fun t s => ((nfSF (by kernel_rfl) (nfSF (by kernel_rfl) (nfSF (by kernel_rfl) (nfSF (by kernel_rfl) (engine_Engine_Pick_2_eq base G call fuel) nfRF) nfRF) nfRF) nfRF) t s).trans (by kernel_rfl)

theorem engine_Engine_Pick_0_eq (base : Nat) (G : Nat → Nat → Option Value) (call : CallF) (fuel : Nat) : ∀ (t : FT) (s : St), (Ev base G).codeK call fuel false (codeOf Tryz.f6) [] t s (lastK (Ev base G) call fuel false Tryz.f6.results.toList) = engine_Engine_Pick_0 (Ev base G) call fuel (t 0) (t 1) s :=
  fun t s => ((nfSF (by kernel_rfl) (nfSF (by kernel_rfl) (nfSF (by kernel_rfl) (nfSF (by kernel_rfl) (nfSF (by kernel_rfl) (nfSF (by kernel_rfl) (engine_Engine_Pick_1_eq base G call fuel) nfRF) nfRF) nfRF) nfRF) nfRF) nfRF) t s).trans (by kernel_rfl)

theorem engine_Engine_Pick_eq (base : Nat) (G : Nat → Nat → Option Value) (call : CallF) (fuel : Nat) (x0 x1 : Value) (σ : St) : (Ev base G).funK call fuel false Tryz.f6 [x0, x1] σ = engine_Engine_Pick (Ev base G) call fuel x0 x1 σ :=
  (show _ = (Ev base G).codeK call fuel false (codeOf Tryz.f6) [] (argF [x0, x1]) σ (lastK (Ev base G) call fuel false Tryz.f6.results.toList) by kernel_rfl).trans ((engine_Engine_Pick_0_eq base G call fuel (argF [x0, x1]) σ).trans (by kernel_rfl))
theorem engine_Engine_Pick_lf (base : Nat) (G : Nat → Nat → Option Value) : LeafOK (Ev base G) 6 (fun call fuel l σ => a2 l fun x0 x1 => (engine_Engine_Pick (Ev base G) call fuel x0 x1 σ)) :=
  leaf2 (L := false) ⟨Tryz.func6, by kernel_rfl, by kernel_rfl⟩ (fun call fuel x0 x1 σ => engine_Engine_Pick_eq base G call fuel x0 x1 σ)

/-! 7: (*plover/engine.Engine).Busy -/
theorem engine_Engine_Busy_0_eq (base : Nat) (G : Nat → Nat → Option Value) (call : CallF) (fuel : Nat) : ∀ (t : FT) (s : St), (Ev base G).codeK call fuel false (codeOf Tryz.f7) [] t s (lastK (Ev base G) call fuel false Tryz.f7.results.toList) = engine_Engine_Busy_0 (Ev base G) call fuel (t 0) (t 1) s :=
  fun t s => (nfRF t s).trans (by kernel_rfl)

theorem engine_Engine_Busy_eq (base : Nat) (G : Nat → Nat → Option Value) (call : CallF) (fuel : Nat) (x0 x1 : Value) (σ : St) : (Ev base G).funK call fuel false Tryz.f7 [x0, x1] σ = engine_Engine_Busy (Ev base G) call fuel x0 x1 σ :=
  (show _ = (Ev base G).codeK call fuel false (codeOf Tryz.f7) [] (argF [x0, x1]) σ (lastK (Ev base G) call fuel false Tryz.f7.results.toList) by kernel_rfl).trans ((engine_Engine_Busy_0_eq base G call fuel (argF [x0, x1]) σ).trans (by kernel_rfl))
theorem engine_Engine_Busy_lf (base : Nat) (G : Nat → Nat → Option Value) : LeafOK (Ev base G) 7 (fun call fuel l σ => a2 l fun x0 x1 => (engine_Engine_Busy (Ev base G) call fuel x0 x1 σ)) :=
  leaf2 (L := false) ⟨Tryz.func7, by kernel_rfl, by kernel_rfl⟩ (fun call fuel x0 x1 σ => engine_Engine_Busy_eq base G call fuel x0 x1 σ)

/-! 8: (*plover/engine.Engine).Steps -/
theorem engine_Engine_Steps_0_eq (base : Nat) (G : Nat → Nat → Option Value) (call : CallF) (fuel : Nat) : ∀ (t : FT) (s : St), (Ev base G).codeK call fuel false (codeOf Tryz.f8) [] t s (lastK (Ev base G) call fuel false Tryz.f8.results.toList) = engine_Engine_Steps_0 (Ev base G) call fuel (t 0) s :=
  fun t s => (nfRF t s).trans (by kernel_rfl)

theorem engine_Engine_Steps_eq (base : Nat) (G : Nat → Nat → Option Value) (call : CallF) (fuel : Nat) (x0 : Value) (σ : St) : (Ev base G).funK call fuel false Tryz.f8 [x0] σ = engine_Engine_Steps (Ev base G) call fuel x0 σ :=
  (show _ = (Ev base G).codeK call fuel false (codeOf Tryz.f8) [] (argF [x0]) σ (lastK (Ev base G) call fuel false Tryz.f8.results.toList) by kernel_rfl).trans ((engine_Engine_Steps_0_eq base G call fuel (argF [x0]) σ).trans (by kernel_rfl))
theorem engine_Engine_Steps_lf (base : Nat) (G : Nat → Nat → Option Value) : LeafOK (Ev base G) 8 (fun call fuel l σ => a1 l fun x0 => (engine_Engine_Steps (Ev base G) call fuel x0 σ)) :=
  leaf1 (L := false) ⟨Tryz.func8, by kernel_rfl, by kernel_rfl⟩ (fun call fuel x0 σ => engine_Engine_Steps_eq base G call fuel x0 σ)

/-! 9: (*plover/engine.Engine).History -/
theorem engine_Engine_History_2_eq (base : Nat) (G : Nat → Nat → Option Value) (call : CallF) (fuel : Nat) (r2 : Value → Value → Value → St → R) : ∀ (t : FT) (s : St), (Ev base G).codeK call fuel false (cb (cb (cr (cl (cr (cr (cr (codeOf Tryz.f9)))))))) [] t s (thenK false (fun _ t s => r2 (t 3) (t 13) (t 14) s) (blkK 0 (thenK false (fun d t s => (Ev base G).codeK call fuel false (cr (cr (cr (cr (codeOf Tryz.f9))))) d t s (lastK (Ev base G) call fuel false Tryz.f9.results.toList)) (lastK (Ev base G) call fuel false Tryz.f9.results.toList)))) = engine_Engine_History_2 (Ev base G) call fuel r2 (t 3) (t 13) (t 14) s :=
  fun t s => (nfRF t s).trans (by kernel_rfl)

theorem engine_Engine_History_1_eq (base : Nat) (G : Nat → Nat → Option Value) (call : CallF) (fuel : Nat) : ∀ (t : FT) (s : St), (Ev base G).codeK call fuel false (cb (cr (cl (cr (cr (cr (codeOf Tryz.f9))))))) [] t s (blkK 0 (thenK false (fun d t s => (Ev base G).codeK call fuel false (cr (cr (cr (cr (codeOf Tryz.f9))))) d t s (lastK (Ev base G) call fuel false Tryz.f9.results.toList)) (lastK (Ev base G) call fuel false Tryz.f9.results.toList))) = engine_Engine_History_1 (Ev base G) call fuel fuel (t 3) (t 13) (t 14) s :=
  nfLF (F := fun n t s => engine_Engine_History_1 (Ev base G) call fuel n (t 3) (t 13) (t 14) s) (by kernel_rfl) (fun _ _ => by kernel_rfl) (fun n t s => (engine_Engine_History_2_eq base G call fuel (engine_Engine_History_1 (Ev base G) call fuel n) t s).trans (by kernel_rfl))

theorem engine_Engine_History_0_eq (base : Nat) (G : Nat → Nat → Option Value) (call : CallF) (fuel : Nat) : ∀ (t : FT) (s : St), (Ev base G).codeK call fuel false (codeOf Tryz.f9) [] t s (lastK (Ev base G) call fuel false Tryz.f9.results.toList) = engine_Engine_History_0 (Ev base G) call fuel (t 0) s :=
  fun t s => ((nfSF (by kernel_rfl) (nfSF (by kernel_rfl) (nfSF (by kernel_rfl) (nfSF (by kernel_rfl) nfRF (nfSF (by kernel_rfl) (nfBF 0 (by kernel_rfl) (engine_Engine_History_1_eq base G call fuel)) nfRF)) nfRF) nfRF) nfRF) t s).trans (by kernel_rfl)

theorem engine_Engine_History_eq (base : Nat) (G : Nat → Nat → Option Value) (call : CallF) (fuel : Nat) (x0 : Value) (σ : St) : (Ev base G).funK call fuel false Tryz.f9 [x0] σ = engine_Engine_History (Ev base G) call fuel x0 σ :=
  (show _ = (Ev base G).codeK call fuel false (codeOf Tryz.f9) [] (argF [x0]) σ (lastK (Ev base G) call fuel false Tryz.f9.results.toList) by kernel_rfl).trans ((engine_Engine_History_0_eq base G call fuel (argF [x0]) σ).trans (by kernel_rfl))
theorem engine_Engine_History_lf (base : Nat) (G : Nat → Nat → Option Value) : LeafOK (Ev base G) 9 (fun call fuel l σ => a1 l fun x0 => (engine_Engine_History (Ev base G) call fuel x0 σ)) :=
  leaf1 (L := false) ⟨Tryz.func9, by kernel_rfl, by kernel_rfl⟩ (fun call fuel x0 σ => engine_Engine_History_eq base G call fuel x0 σ)

/-! 10: (*plover/engine.Engine).Cells -/
theorem engine_Engine_Cells_0_eq (base : Nat) (G : Nat → Nat → Option Value) (call : CallF) (fuel : Nat) : ∀ (t : FT) (s : St), (Ev base G).codeK call fuel false (codeOf Tryz.f10) [] t s (lastK (Ev base G) call fuel false Tryz.f10.results.toList) = engine_Engine_Cells_0 (Ev base G) call fuel (t 0) s :=
  fun t s => (nfRF t s).trans (by kernel_rfl)

theorem engine_Engine_Cells_eq (base : Nat) (G : Nat → Nat → Option Value) (call : CallF) (fuel : Nat) (x0 : Value) (σ : St) : (Ev base G).funK call fuel false Tryz.f10 [x0] σ = engine_Engine_Cells (Ev base G) call fuel x0 σ :=
  (show _ = (Ev base G).codeK call fuel false (codeOf Tryz.f10) [] (argF [x0]) σ (lastK (Ev base G) call fuel false Tryz.f10.results.toList) by kernel_rfl).trans ((engine_Engine_Cells_0_eq base G call fuel (argF [x0]) σ).trans (by kernel_rfl))
theorem engine_Engine_Cells_lf (base : Nat) (G : Nat → Nat → Option Value) : LeafOK (Ev base G) 10 (fun call fuel l σ => a1 l fun x0 => (engine_Engine_Cells (Ev base G) call fuel x0 σ)) :=
  leaf1 (L := false) ⟨Tryz.func10, by kernel_rfl, by kernel_rfl⟩ (fun call fuel x0 σ => engine_Engine_Cells_eq base G call fuel x0 σ)

/-! 11: (*plover/engine.Engine).Used -/
theorem engine_Engine_Used_0_eq (base : Nat) (G : Nat → Nat → Option Value) (call : CallF) (fuel : Nat) : ∀ (t : FT) (s : St), (Ev base G).codeK call fuel false (codeOf Tryz.f11) [] t s (lastK (Ev base G) call fuel false Tryz.f11.results.toList) = engine_Engine_Used_0 (Ev base G) call fuel (t 0) s :=
  fun t s => (nfRF t s).trans (by kernel_rfl)

theorem engine_Engine_Used_eq (base : Nat) (G : Nat → Nat → Option Value) (call : CallF) (fuel : Nat) (x0 : Value) (σ : St) : (Ev base G).funK call fuel false Tryz.f11 [x0] σ = engine_Engine_Used (Ev base G) call fuel x0 σ :=
  (show _ = (Ev base G).codeK call fuel false (codeOf Tryz.f11) [] (argF [x0]) σ (lastK (Ev base G) call fuel false Tryz.f11.results.toList) by kernel_rfl).trans ((engine_Engine_Used_0_eq base G call fuel (argF [x0]) σ).trans (by kernel_rfl))
theorem engine_Engine_Used_lf (base : Nat) (G : Nat → Nat → Option Value) : LeafOK (Ev base G) 11 (fun call fuel l σ => a1 l fun x0 => (engine_Engine_Used (Ev base G) call fuel x0 σ)) :=
  leaf1 (L := false) ⟨Tryz.func11, by kernel_rfl, by kernel_rfl⟩ (fun call fuel x0 σ => engine_Engine_Used_eq base G call fuel x0 σ)

/-! 12: (*plover/engine.Engine).Version -/
theorem engine_Engine_Version_0_eq (base : Nat) (G : Nat → Nat → Option Value) (call : CallF) (fuel : Nat) : ∀ (t : FT) (s : St), (Ev base G).codeK call fuel false (codeOf Tryz.f12) [] t s (lastK (Ev base G) call fuel false Tryz.f12.results.toList) = engine_Engine_Version_0 (Ev base G) call fuel (t 0) s :=
  fun t s => (nfRF t s).trans (by kernel_rfl)

theorem engine_Engine_Version_eq (base : Nat) (G : Nat → Nat → Option Value) (call : CallF) (fuel : Nat) (x0 : Value) (σ : St) : (Ev base G).funK call fuel false Tryz.f12 [x0] σ = engine_Engine_Version (Ev base G) call fuel x0 σ :=
  (show _ = (Ev base G).codeK call fuel false (codeOf Tryz.f12) [] (argF [x0]) σ (lastK (Ev base G) call fuel false Tryz.f12.results.toList) by kernel_rfl).trans ((engine_Engine_Version_0_eq base G call fuel (argF [x0]) σ).trans (by kernel_rfl))
theorem engine_Engine_Version_lf (base : Nat) (G : Nat → Nat → Option Value) : LeafOK (Ev base G) 12 (fun call fuel l σ => a1 l fun x0 => (engine_Engine_Version (Ev base G) call fuel x0 σ)) :=
  leaf1 (L := false) ⟨Tryz.func12, by kernel_rfl, by kernel_rfl⟩ (fun call fuel x0 σ => engine_Engine_Version_eq base G call fuel x0 σ)

/-! 13: (*plover/engine.Engine).Segments -/
theorem engine_Engine_Segments_0_eq (base : Nat) (G : Nat → Nat → Option Value) (call : CallF) (fuel : Nat) : ∀ (t : FT) (s : St), (Ev base G).codeK call fuel false (codeOf Tryz.f13) [] t s (lastK (Ev base G) call fuel false Tryz.f13.results.toList) = engine_Engine_Segments_0 (Ev base G) call fuel (t 0) s :=
  fun t s => (nfRF t s).trans (by kernel_rfl)

theorem engine_Engine_Segments_eq (base : Nat) (G : Nat → Nat → Option Value) (call : CallF) (fuel : Nat) (x0 : Value) (σ : St) : (Ev base G).funK call fuel false Tryz.f13 [x0] σ = engine_Engine_Segments (Ev base G) call fuel x0 σ :=
  (show _ = (Ev base G).codeK call fuel false (codeOf Tryz.f13) [] (argF [x0]) σ (lastK (Ev base G) call fuel false Tryz.f13.results.toList) by kernel_rfl).trans ((engine_Engine_Segments_0_eq base G call fuel (argF [x0]) σ).trans (by kernel_rfl))
theorem engine_Engine_Segments_lf (base : Nat) (G : Nat → Nat → Option Value) : LeafOK (Ev base G) 13 (fun call fuel l σ => a1 l fun x0 => (engine_Engine_Segments (Ev base G) call fuel x0 σ)) :=
  leaf1 (L := false) ⟨Tryz.func13, by kernel_rfl, by kernel_rfl⟩ (fun call fuel x0 σ => engine_Engine_Segments_eq base G call fuel x0 σ)

/-! 14: plover/engine.New -/
theorem engine_New_0_eq (base : Nat) (G : Nat → Nat → Option Value) (call : CallF) (fuel : Nat) : ∀ (t : FT) (s : St), (Ev base G).codeK call fuel false (codeOf Tryz.f14) [] t s (lastK (Ev base G) call fuel false Tryz.f14.results.toList) = engine_New_0 (Ev base G) call fuel (t 0) s :=
  fun t s => (nfRF t s).trans (by kernel_rfl)

theorem engine_New_eq (base : Nat) (G : Nat → Nat → Option Value) (call : CallF) (fuel : Nat) (x0 : Value) (σ : St) : (Ev base G).funK call fuel false Tryz.f14 [x0] σ = engine_New (Ev base G) call fuel x0 σ :=
  (show _ = (Ev base G).codeK call fuel false (codeOf Tryz.f14) [] (argF [x0]) σ (lastK (Ev base G) call fuel false Tryz.f14.results.toList) by kernel_rfl).trans ((engine_New_0_eq base G call fuel (argF [x0]) σ).trans (by kernel_rfl))
theorem engine_New_lf (base : Nat) (G : Nat → Nat → Option Value) : LeafOK (Ev base G) 14 (fun call fuel l σ => a1 l fun x0 => (engine_New (Ev base G) call fuel x0 σ)) :=
  leaf1 (L := false) ⟨Tryz.func14, by kernel_rfl, by kernel_rfl⟩ (fun call fuel x0 σ => engine_New_eq base G call fuel x0 σ)

/-! 15: plover/ploverlaw23.rest -/
theorem law23_rest_3_eq (base : Nat) (G : Nat → Nat → Option Value) (call : CallF) (fuel : Nat) (r2 : Value → Value → Value → St → R) : ∀ (t : FT) (s : St), (Ev base G).codeK call fuel false (cr (cr (cb (cr (cb (cb (cl (cr (cr (codeOf Tryz.f15)))))))))) [] t s (blkK 1 (thenK false (fun _ t s => r2 (t 0) (t 1) (t 7) s) (blkK 0 (thenK false (fun d t s => (Ev base G).codeK call fuel false (cr (cr (cr (codeOf Tryz.f15)))) d t s (lastK (Ev base G) call fuel false Tryz.f15.results.toList)) (lastK (Ev base G) call fuel false Tryz.f15.results.toList))))) = law23_rest_3 (Ev base G) call fuel r2 (t 0) (t 1) (t 7) (t 25) s :=
  fun t s => (nfRF t s).trans (by kernel_rfl)

theorem law23_rest_2_eq (base : Nat) (G : Nat → Nat → Option Value) (call : CallF) (fuel : Nat) (r2 : Value → Value → Value → St → R) : ∀ (t : FT) (s : St), (Ev base G).codeK call fuel false (cb (cb (cl (cr (cr (codeOf Tryz.f15)))))) [] t s (thenK false (fun _ t s => r2 (t 0) (t 1) (t 7) s) (blkK 0 (thenK false (fun d t s => (Ev base G).codeK call fuel false (cr (cr (cr (codeOf Tryz.f15)))) d t s (lastK (Ev base G) call fuel false Tryz.f15.results.toList)) (lastK (Ev base G) call fuel false Tryz.f15.results.toList)))) = law23_rest_2 (Ev base G) call fuel r2 (t 0) (t 1) (t 7) s :=
  fun t s => ((nfSF (by kernel_rfl) (nfBF 1 (by kernel_rfl) (nfSF (by kernel_rfl) (nfSF (by kernel_rfl) (law23_rest_3_eq base G call fuel r2) nfRF) nfRF)) nfRF) t s).trans (by kernel_rfl)

theorem law23_rest_1_eq (base : Nat) (G : Nat → Nat → Option Value) (call : CallF) (fuel : Nat) : ∀ (t : FT) (s : St), (Ev base G).codeK call fuel false (cb (cl (cr (cr (codeOf Tryz.f15))))) [] t s (blkK 0 (thenK false (fun d t s => (Ev base G).codeK call fuel false (cr (cr (cr (codeOf Tryz.f15)))) d t s (lastK (Ev base G) call fuel false Tryz.f15.results.toList)) (lastK (Ev base G) call fuel false Tryz.f15.results.toList))) = law23_rest_1 (Ev base G) call fuel fuel (t 0) (t 1) (t 7) s :=
  nfLF (F := fun n t s => law23_rest_1 (Ev base G) call fuel n (t 0) (t 1) (t 7) s) (by kernel_rfl) (fun _ _ => by kernel_rfl) (fun n t s => (law23_rest_2_eq base G call fuel (law23_rest_1 (Ev base G) call fuel n) t s).trans (by kernel_rfl))

theorem law23_rest_0_eq (base : Nat) (G : Nat → Nat → Option Value) (call : CallF) (fuel : Nat) : ∀ (t : FT) (s : St), (Ev base G).codeK call fuel false (codeOf Tryz.f15) [] t s (lastK (Ev base G) call fuel false Tryz.f15.results.toList) = law23_rest_0 (Ev base G) call fuel (t 0) (t 1) (t 2) s :=
  fun t s => ((nfSF (by kernel_rfl) (nfSF (by kernel_rfl) (nfSF (by kernel_rfl) nfRF (nfBF 0 (by kernel_rfl) (law23_rest_1_eq base G call fuel))) nfRF) nfRF) t s).trans (by kernel_rfl)

theorem law23_rest_eq (base : Nat) (G : Nat → Nat → Option Value) (call : CallF) (fuel : Nat) (x0 x1 x2 : Value) (σ : St) : (Ev base G).funK call fuel false Tryz.f15 [x0, x1, x2] σ = law23_rest (Ev base G) call fuel x0 x1 x2 σ :=
  (show _ = (Ev base G).codeK call fuel false (codeOf Tryz.f15) [] (argF [x0, x1, x2]) σ (lastK (Ev base G) call fuel false Tryz.f15.results.toList) by kernel_rfl).trans ((law23_rest_0_eq base G call fuel (argF [x0, x1, x2]) σ).trans (by kernel_rfl))
theorem law23_rest_lf (base : Nat) (G : Nat → Nat → Option Value) : LeafOK (Ev base G) 15 (fun call fuel l σ => a3 l fun x0 x1 x2 => (law23_rest (Ev base G) call fuel x0 x1 x2 σ)) :=
  leaf3 (L := false) ⟨Tryz.func15, by kernel_rfl, by kernel_rfl⟩ (fun call fuel x0 x1 x2 σ => law23_rest_eq base G call fuel x0 x1 x2 σ)

/-! 16: plover/engine.fits -/
theorem engine_fits_1_eq (base : Nat) (G : Nat → Nat → Option Value) (call : CallF) (fuel : Nat) : ∀ (t : FT) (s : St), (Ev base G).codeK call fuel false (cr (cb (cr (cl (cr (codeOf Tryz.f16)))))) [] t s (blkK 0 (thenK false (fun d t s => (Ev base G).codeK call fuel false (cr (cr (codeOf Tryz.f16))) d t s (lastK (Ev base G) call fuel false Tryz.f16.results.toList)) (lastK (Ev base G) call fuel false Tryz.f16.results.toList))) = engine_fits_1 (Ev base G) call fuel (t 0) (t 6) (t 7) s :=
  fun t s => (nfRF t s).trans (by kernel_rfl)

theorem engine_fits_0_eq (base : Nat) (G : Nat → Nat → Option Value) (call : CallF) (fuel : Nat) : ∀ (t : FT) (s : St), (Ev base G).codeK call fuel false (codeOf Tryz.f16) [] t s (lastK (Ev base G) call fuel false Tryz.f16.results.toList) = engine_fits_0 (Ev base G) call fuel (t 0) (t 1) s :=
  fun t s => ((nfSF (by kernel_rfl) (nfSF (by kernel_rfl) nfRF (nfSF (by kernel_rfl) (nfBF 0 (by kernel_rfl) (nfSF (by kernel_rfl) (engine_fits_1_eq base G call fuel) nfRF)) nfRF)) nfRF) t s).trans (by kernel_rfl)

theorem engine_fits_eq (base : Nat) (G : Nat → Nat → Option Value) (call : CallF) (fuel : Nat) (x0 x1 : Value) (σ : St) : (Ev base G).funK call fuel false Tryz.f16 [x0, x1] σ = engine_fits (Ev base G) call fuel x0 x1 σ :=
  (show _ = (Ev base G).codeK call fuel false (codeOf Tryz.f16) [] (argF [x0, x1]) σ (lastK (Ev base G) call fuel false Tryz.f16.results.toList) by kernel_rfl).trans ((engine_fits_0_eq base G call fuel (argF [x0, x1]) σ).trans (by kernel_rfl))
theorem engine_fits_lf (base : Nat) (G : Nat → Nat → Option Value) : LeafOK (Ev base G) 16 (fun call fuel l σ => a2 l fun x0 x1 => (engine_fits (Ev base G) call fuel x0 x1 σ)) :=
  leaf2 (L := false) ⟨Tryz.func16, by kernel_rfl, by kernel_rfl⟩ (fun call fuel x0 x1 σ => engine_fits_eq base G call fuel x0 x1 σ)

/-! 17: plover/engine.clone -/
theorem engine_clone_0_eq (base : Nat) (G : Nat → Nat → Option Value) (call : CallF) (fuel : Nat) : ∀ (t : FT) (s : St), (Ev base G).codeK call fuel false (codeOf Tryz.f17) [] t s (lastK (Ev base G) call fuel false Tryz.f17.results.toList) = engine_clone_0 (Ev base G) call fuel (t 0) s :=
  fun t s => (nfRF t s).trans (by kernel_rfl)

theorem engine_clone_eq (base : Nat) (G : Nat → Nat → Option Value) (call : CallF) (fuel : Nat) (x0 : Value) (σ : St) : (Ev base G).funK call fuel false Tryz.f17 [x0] σ = engine_clone (Ev base G) call fuel x0 σ :=
  (show _ = (Ev base G).codeK call fuel false (codeOf Tryz.f17) [] (argF [x0]) σ (lastK (Ev base G) call fuel false Tryz.f17.results.toList) by kernel_rfl).trans ((engine_clone_0_eq base G call fuel (argF [x0]) σ).trans (by kernel_rfl))
theorem engine_clone_lf (base : Nat) (G : Nat → Nat → Option Value) : LeafOK (Ev base G) 17 (fun call fuel l σ => a1 l fun x0 => (engine_clone (Ev base G) call fuel x0 σ)) :=
  leaf1 (L := false) ⟨Tryz.func17, by kernel_rfl, by kernel_rfl⟩ (fun call fuel x0 σ => engine_clone_eq base G call fuel x0 σ)

/-! 18: plover/step.New -/
theorem step_New_0_eq (base : Nat) (G : Nat → Nat → Option Value) (call : CallF) (fuel : Nat) : ∀ (t : FT) (s : St), (Ev base G).codeK call fuel false (codeOf Tryz.f18) [] t s (lastK (Ev base G) call fuel false Tryz.f18.results.toList) = step_New_0 (Ev base G) call fuel (t 0) s :=
  fun t s => (nfRF t s).trans (by kernel_rfl)

theorem step_New_eq (base : Nat) (G : Nat → Nat → Option Value) (call : CallF) (fuel : Nat) (x0 : Value) (σ : St) : (Ev base G).funK call fuel false Tryz.f18 [x0] σ = step_New (Ev base G) call fuel x0 σ :=
  (show _ = (Ev base G).codeK call fuel false (codeOf Tryz.f18) [] (argF [x0]) σ (lastK (Ev base G) call fuel false Tryz.f18.results.toList) by kernel_rfl).trans ((step_New_0_eq base G call fuel (argF [x0]) σ).trans (by kernel_rfl))
theorem step_New_lf (base : Nat) (G : Nat → Nat → Option Value) : LeafOK (Ev base G) 18 (fun call fuel l σ => a1 l fun x0 => (step_New (Ev base G) call fuel x0 σ)) :=
  leaf1 (L := false) ⟨Tryz.func18, by kernel_rfl, by kernel_rfl⟩ (fun call fuel x0 σ => step_New_eq base G call fuel x0 σ)

/-! 19: (*plover/engine.Engine).Begin$1 -/
theorem engine_Engine_Begin_c1_0_eq (base : Nat) (G : Nat → Nat → Option Value) (call : CallF) (fuel : Nat) : ∀ (t : FT) (s : St), (Ev base G).codeK call fuel false (codeOf Tryz.f19) [] t s (lastK (Ev base G) call fuel false Tryz.f19.results.toList) = engine_Engine_Begin_c1_0 (Ev base G) call fuel (t 0) (t 1) (t 2) (t 3) s :=
  fun t s => (nfRF t s).trans (by kernel_rfl)

theorem engine_Engine_Begin_c1_eq (base : Nat) (G : Nat → Nat → Option Value) (call : CallF) (fuel : Nat) (x0 x1 x2 x3 : Value) (σ : St) : (Ev base G).funK call fuel false Tryz.f19 [x0, x1, x2, x3] σ = engine_Engine_Begin_c1 (Ev base G) call fuel x0 x1 x2 x3 σ :=
  (show _ = (Ev base G).codeK call fuel false (codeOf Tryz.f19) [] (argF [x0, x1, x2, x3]) σ (lastK (Ev base G) call fuel false Tryz.f19.results.toList) by kernel_rfl).trans ((engine_Engine_Begin_c1_0_eq base G call fuel (argF [x0, x1, x2, x3]) σ).trans (by kernel_rfl))
theorem engine_Engine_Begin_c1_lf (base : Nat) (G : Nat → Nat → Option Value) : LeafOK (Ev base G) 19 (fun call fuel l σ => a4 l fun x0 x1 x2 x3 => (engine_Engine_Begin_c1 (Ev base G) call fuel x0 x1 x2 x3 σ)) :=
  leaf4 (L := false) ⟨Tryz.func19, by kernel_rfl, by kernel_rfl⟩ (fun call fuel x0 x1 x2 x3 σ => engine_Engine_Begin_c1_eq base G call fuel x0 x1 x2 x3 σ)

/-! 20: plover/write.Add -/
theorem write_Add_2_eq (base : Nat) (G : Nat → Nat → Option Value) (call : CallF) (fuel : Nat) : ∀ (t : FT) (s : St), (Ev base G).codeK call fuel false (cr (cr (cr (cr (cr (cr (cr (cr (cr (cr (cr (cr (cr (cr (codeOf Tryz.f20))))))))))))))) [] t s (lastK (Ev base G) call fuel false Tryz.f20.results.toList) = write_Add_2 (Ev base G) call fuel (t 0) (t 6) (t 7) (t 8) (t 10) (t 17) (t 20) s :=
  fun t s => (nfRF t s).trans (by kernel_rfl)

theorem write_Add_4_eq (base : Nat) (G : Nat → Nat → Option Value) (call : CallF) (fuel : Nat) (r4 : Value → Value → Value → Value → Value → Value → Value → Value → Value → Value → Value → Value → Value → St → R) : ∀ (t : FT) (s : St), (Ev base G).codeK call fuel false (cb (cb (cr (cl (cr (cr (cr (cr (cr (cr (cr (cr (cr (cr (cr (cr (cr (codeOf Tryz.f20)))))))))))))))))) [] t s (thenK false (fun _ t s => r4 (t 0) (t 6) (t 7) (t 8) (t 10) (t 12) (t 17) (t 18) (t 19) (t 20) (t 121) (t 122) (t 123) s) (blkK 1 (thenK false (fun _ t s => write_Add_2 (Ev base G) call fuel (t 0) (t 6) (t 7) (t 8) (t 10) (t 17) (t 20) s) (lastK (Ev base G) call fuel false Tryz.f20.results.toList)))) = write_Add_4 (Ev base G) call fuel r4 (t 0) (t 6) (t 7) (t 8) (t 10) (t 12) (t 17) (t 18) (t 19) (t 20) (t 121) (t 122) (t 123) s :=
  fun t s => (nfRF t s).trans (by kernel_rfl)

theorem write_Add_3_eq (base : Nat) (G : Nat → Nat → Option Value) (call : CallF) (fuel : Nat) : ∀ (t : FT) (s : St), (Ev base G).codeK call fuel false (cb (cr (cl (cr (cr (cr (cr (cr (cr (cr (cr (cr (cr (cr (cr (cr (codeOf Tryz.f20))))))))))))))))) [] t s (blkK 1 (thenK false (fun _ t s => write_Add_2 (Ev base G) call fuel (t 0) (t 6) (t 7) (t 8) (t 10) (t 17) (t 20) s) (lastK (Ev base G) call fuel false Tryz.f20.results.toList))) = write_Add_3 (Ev base G) call fuel fuel (t 0) (t 6) (t 7) (t 8) (t 10) (t 12) (t 17) (t 18) (t 19) (t 20) (t 121) (t 122) (t 123) s :=
  nfLF (F := fun n t s => write_Add_3 (Ev base G) call fuel n (t 0) (t 6) (t 7) (t 8) (t 10) (t 12) (t 17) (t 18) (t 19) (t 20) (t 121) (t 122) (t 123) s) (by kernel_rfl) (fun _ _ => by kernel_rfl) (fun n t s => (write_Add_4_eq base G call fuel (write_Add_3 (Ev base G) call fuel n) t s).trans (by kernel_rfl))

theorem write_Add_1_eq (base : Nat) (G : Nat → Nat → Option Value) (call : CallF) (fuel : Nat) : ∀ (t : FT) (s : St), (Ev base G).codeK call fuel false (cr (cr (cr (cr (cr (cr (cr (cr (codeOf Tryz.f20))))))))) [] t s (lastK (Ev base G) call fuel false Tryz.f20.results.toList) = write_Add_1 (Ev base G) call fuel (t 0) (t 5) (t 6) (t 7) (t 8) (t 10) (t 12) (t 18) s :=
  fun t s => ((nfSF (by kernel_rfl) (nfSF (by kernel_rfl) (nfSF (by kernel_rfl) (nfSF (by kernel_rfl) (nfSF (by kernel_rfl) (nfSF (by kernel_rfl) (write_Add_2_eq base G call fuel) (nfSF (by kernel_rfl) (nfBF 1 (by kernel_rfl) (write_Add_3_eq base G call fuel)) nfRF)) nfRF) nfRF) nfRF) nfRF) nfRF) t s).trans (by kernel_rfl)

theorem write_Add_5_eq (base : Nat) (G : Nat → Nat → Option Value) (call : CallF) (fuel : Nat) : ∀ (t : FT) (s : St), (Ev base G).codeK call fuel false (cr (cl (cr (cr (cr (cr (cr (cr (cr (codeOf Tryz.f20)))))))))) [] t s (thenK false (fun _ t s => write_Add_1 (Ev base G) call fuel (t 0) (t 5) (t 6) (t 7) (t 8) (t 10) (t 12) (t 18) s) (lastK (Ev base G) call fuel false Tryz.f20.results.toList)) = write_Add_5 (Ev base G) call fuel (t 0) (t 5) (t 6) (t 7) (t 8) (t 10) (t 12) (t 18) (t 75) s :=
  fun t s => (nfRF t s).trans (by kernel_rfl)

theorem write_Add_0_eq (base : Nat) (G : Nat → Nat → Option Value) (call : CallF) (fuel : Nat) : ∀ (t : FT) (s : St), (Ev base G).codeK call fuel false (codeOf Tryz.f20) [] t s (lastK (Ev base G) call fuel false Tryz.f20.results.toList) = write_Add_0 (Ev base G) call fuel (t 0) (t 1) (t 2) (t 3) s :=
  fun t s => ((nfSF (by kernel_rfl) (nfSF (by kernel_rfl) (nfSF (by kernel_rfl) (nfSF (by kernel_rfl) (nfSF (by kernel_rfl) (nfSF (by kernel_rfl) (nfSF (by kernel_rfl) (nfSF (by kernel_rfl) (write_Add_1_eq base G call fuel) (nfSF (by kernel_rfl) (write_Add_5_eq base G call fuel) nfRF)) nfRF) nfRF) nfRF) nfRF) nfRF) nfRF) nfRF) t s).trans (by kernel_rfl)

theorem write_Add_eq (base : Nat) (G : Nat → Nat → Option Value) (call : CallF) (fuel : Nat) (x0 x1 x2 x3 : Value) (σ : St) : (Ev base G).funK call fuel false Tryz.f20 [x0, x1, x2, x3] σ = write_Add (Ev base G) call fuel x0 x1 x2 x3 σ :=
  (show _ = (Ev base G).codeK call fuel false (codeOf Tryz.f20) [] (argF [x0, x1, x2, x3]) σ (lastK (Ev base G) call fuel false Tryz.f20.results.toList) by kernel_rfl).trans ((write_Add_0_eq base G call fuel (argF [x0, x1, x2, x3]) σ).trans (by kernel_rfl))
theorem write_Add_lf (base : Nat) (G : Nat → Nat → Option Value) : LeafOK (Ev base G) 20 (fun call fuel l σ => a4 l fun x0 x1 x2 x3 => (write_Add (Ev base G) call fuel x0 x1 x2 x3 σ)) :=
  leaf4 (L := false) ⟨Tryz.func20, by kernel_rfl, by kernel_rfl⟩ (fun call fuel x0 x1 x2 x3 σ => write_Add_eq base G call fuel x0 x1 x2 x3 σ)

/-! 27: (*plover/step.Run).Step -/
theorem step_Run_Step_2_eq (base : Nat) (G : Nat → Nat → Option Value) (call : CallF) (fuel : Nat) : ∀ (t : FT) (s : St), (Ev base G).codeK call fuel false (cr (cr (cr (cr (cr (cr (codeOf Tryz.f27))))))) [] t s (lastK (Ev base G) call fuel false Tryz.f27.results.toList) = step_Run_Step_2 (Ev base G) call fuel (t 0) s :=
  fun t s => (nfRF t s).trans (by kernel_rfl)

theorem step_Run_Step_1_eq (base : Nat) (G : Nat → Nat → Option Value) (call : CallF) (fuel : Nat) : ∀ (t : FT) (s : St), (Ev base G).codeK call fuel false (cr (cr (codeOf Tryz.f27))) [] t s (lastK (Ev base G) call fuel false Tryz.f27.results.toList) = step_Run_Step_1 (Ev base G) call fuel (t 0) (t 1) s :=
  fun t s => ((nfSF (by kernel_rfl) (nfSF (by kernel_rfl) (nfSF (by kernel_rfl) (nfSF (by kernel_rfl) (step_Run_Step_2_eq base G call fuel) nfRF) nfRF) nfRF) nfRF) t s).trans (by kernel_rfl)

theorem step_Run_Step_3_eq (base : Nat) (G : Nat → Nat → Option Value) (call : CallF) (fuel : Nat) : ∀ (t : FT) (s : St), (Ev base G).codeK call fuel false (cr (cb (cl (cr (codeOf Tryz.f27))))) [] t s (blkK 0 (thenK false (fun _ t s => step_Run_Step_1 (Ev base G) call fuel (t 0) (t 1) s) (lastK (Ev base G) call fuel false Tryz.f27.results.toList))) = step_Run_Step_3 (Ev base G) call fuel (t 0) (t 1) (t 5) s :=
  fun t s => (nfRF t s).trans (by kernel_rfl)

theorem step_Run_Step_0_eq (base : Nat) (G : Nat → Nat → Option Value) (call : CallF) (fuel : Nat) : ∀ (t : FT) (s : St), (Ev base G).codeK call fuel false (codeOf Tryz.f27) [] t s (lastK (Ev base G) call fuel false Tryz.f27.results.toList) = step_Run_Step_0 (Ev base G) call fuel (t 0) (t 1) s :=
  fun t s => ((nfSF (by kernel_rfl) (nfSF (by kernel_rfl) (step_Run_Step_1_eq base G call fuel) (nfBF 0 (by kernel_rfl) (nfSF (by kernel_rfl) (step_Run_Step_3_eq base G call fuel) nfRF))) nfRF) t s).trans (by kernel_rfl)

theorem step_Run_Step_eq (base : Nat) (G : Nat → Nat → Option Value) (call : CallF) (fuel : Nat) (x0 x1 : Value) (σ : St) : (Ev base G).funK call fuel false Tryz.f27 [x0, x1] σ = step_Run_Step (Ev base G) call fuel x0 x1 σ :=
  (show _ = (Ev base G).codeK call fuel false (codeOf Tryz.f27) [] (argF [x0, x1]) σ (lastK (Ev base G) call fuel false Tryz.f27.results.toList) by kernel_rfl).trans ((step_Run_Step_0_eq base G call fuel (argF [x0, x1]) σ).trans (by kernel_rfl))
theorem step_Run_Step_lf (base : Nat) (G : Nat → Nat → Option Value) : LeafOK (Ev base G) 27 (fun call fuel l σ => a2 l fun x0 x1 => (step_Run_Step (Ev base G) call fuel x0 x1 σ)) :=
  leaf2 (L := false) ⟨Tryz.func27, by kernel_rfl, by kernel_rfl⟩ (fun call fuel x0 x1 σ => step_Run_Step_eq base G call fuel x0 x1 σ)

/-! 28: slices.Clone[[]plover/api.Done,plover/api.Done] -/
theorem slices_Clone_api_Done_0_eq (base : Nat) (G : Nat → Nat → Option Value) (call : CallF) (fuel : Nat) : ∀ (t : FT) (s : St), (Ev base G).codeK call fuel false (codeOf Tryz.f28) [] t s (lastK (Ev base G) call fuel false Tryz.f28.results.toList) = slices_Clone_api_Done_0 (Ev base G) call fuel (t 0) s :=
  fun t s => (nfRF t s).trans (by kernel_rfl)

theorem slices_Clone_api_Done_eq (base : Nat) (G : Nat → Nat → Option Value) (call : CallF) (fuel : Nat) (x0 : Value) (σ : St) : (Ev base G).funK call fuel false Tryz.f28 [x0] σ = slices_Clone_api_Done (Ev base G) call fuel x0 σ :=
  (show _ = (Ev base G).codeK call fuel false (codeOf Tryz.f28) [] (argF [x0]) σ (lastK (Ev base G) call fuel false Tryz.f28.results.toList) by kernel_rfl).trans ((slices_Clone_api_Done_0_eq base G call fuel (argF [x0]) σ).trans (by kernel_rfl))
theorem slices_Clone_api_Done_lf (base : Nat) (G : Nat → Nat → Option Value) : LeafOK (Ev base G) 28 (fun call fuel l σ => a1 l fun x0 => (slices_Clone_api_Done (Ev base G) call fuel x0 σ)) :=
  leaf1 (L := false) ⟨Tryz.func28, by kernel_rfl, by kernel_rfl⟩ (fun call fuel x0 σ => slices_Clone_api_Done_eq base G call fuel x0 σ)

/-! 29: slices.Clone[[]plover/api.Hit,plover/api.Hit] -/
theorem slices_Clone_api_Hit_0_eq (base : Nat) (G : Nat → Nat → Option Value) (call : CallF) (fuel : Nat) : ∀ (t : FT) (s : St), (Ev base G).codeK call fuel false (codeOf Tryz.f29) [] t s (lastK (Ev base G) call fuel false Tryz.f29.results.toList) = slices_Clone_api_Hit_0 (Ev base G) call fuel (t 0) s :=
  fun t s => (nfRF t s).trans (by kernel_rfl)

theorem slices_Clone_api_Hit_eq (base : Nat) (G : Nat → Nat → Option Value) (call : CallF) (fuel : Nat) (x0 : Value) (σ : St) : (Ev base G).funK call fuel false Tryz.f29 [x0] σ = slices_Clone_api_Hit (Ev base G) call fuel x0 σ :=
  (show _ = (Ev base G).codeK call fuel false (codeOf Tryz.f29) [] (argF [x0]) σ (lastK (Ev base G) call fuel false Tryz.f29.results.toList) by kernel_rfl).trans ((slices_Clone_api_Hit_0_eq base G call fuel (argF [x0]) σ).trans (by kernel_rfl))
theorem slices_Clone_api_Hit_lf (base : Nat) (G : Nat → Nat → Option Value) : LeafOK (Ev base G) 29 (fun call fuel l σ => a1 l fun x0 => (slices_Clone_api_Hit (Ev base G) call fuel x0 σ)) :=
  leaf1 (L := false) ⟨Tryz.func29, by kernel_rfl, by kernel_rfl⟩ (fun call fuel x0 σ => slices_Clone_api_Hit_eq base G call fuel x0 σ)

/-! 30: (*plover/mem.Mem).Cells -/
theorem mem_Mem_Cells_0_eq (base : Nat) (G : Nat → Nat → Option Value) (call : CallF) (fuel : Nat) : ∀ (t : FT) (s : St), (Ev base G).codeK call fuel false (codeOf Tryz.f30) [] t s (lastK (Ev base G) call fuel false Tryz.f30.results.toList) = mem_Mem_Cells_0 (Ev base G) call fuel (t 0) s :=
  fun t s => (nfRF t s).trans (by kernel_rfl)

theorem mem_Mem_Cells_eq (base : Nat) (G : Nat → Nat → Option Value) (call : CallF) (fuel : Nat) (x0 : Value) (σ : St) : (Ev base G).funK call fuel false Tryz.f30 [x0] σ = mem_Mem_Cells (Ev base G) call fuel x0 σ :=
  (show _ = (Ev base G).codeK call fuel false (codeOf Tryz.f30) [] (argF [x0]) σ (lastK (Ev base G) call fuel false Tryz.f30.results.toList) by kernel_rfl).trans ((mem_Mem_Cells_0_eq base G call fuel (argF [x0]) σ).trans (by kernel_rfl))
theorem mem_Mem_Cells_lf (base : Nat) (G : Nat → Nat → Option Value) : LeafOK (Ev base G) 30 (fun call fuel l σ => a1 l fun x0 => (mem_Mem_Cells (Ev base G) call fuel x0 σ)) :=
  leaf1 (L := false) ⟨Tryz.func30, by kernel_rfl, by kernel_rfl⟩ (fun call fuel x0 σ => mem_Mem_Cells_eq base G call fuel x0 σ)

/-! 31: plover/pool.Lay -/
theorem pool_Lay_3_eq (base : Nat) (G : Nat → Nat → Option Value) (call : CallF) (fuel : Nat) : ∀ (t : FT) (s : St), (Ev base G).codeK call fuel false (cr (cr (cr (cr (cr (cr (codeOf Tryz.f31))))))) [] t s (lastK (Ev base G) call fuel false Tryz.f31.results.toList) = pool_Lay_3 (Ev base G) call fuel (t 1) (t 2) (t 4) s :=
  fun t s => (nfRF t s).trans (by kernel_rfl)

theorem pool_Lay_5_eq (base : Nat) (G : Nat → Nat → Option Value) (call : CallF) (fuel : Nat) (r5 : Value → Value → Value → St → R) : ∀ (t : FT) (s : St), (Ev base G).codeK call fuel false (cb (cb (cl (cr (cr (cr (cr (cr (codeOf Tryz.f31))))))))) [] t s (thenK false (fun _ t s => r5 (t 1) (t 2) (t 4) s) (blkK 3 (thenK false (fun _ t s => pool_Lay_3 (Ev base G) call fuel (t 1) (t 2) (t 4) s) (lastK (Ev base G) call fuel false Tryz.f31.results.toList)))) = pool_Lay_5 (Ev base G) call fuel r5 (t 1) (t 2) (t 4) s :=
  fun t s => (nfRF t s).trans (by kernel_rfl)

theorem pool_Lay_4_eq (base : Nat) (G : Nat → Nat → Option Value) (call : CallF) (fuel : Nat) : ∀ (t : FT) (s : St), (Ev base G).codeK call fuel false (cb (cl (cr (cr (cr (cr (cr (codeOf Tryz.f31)))))))) [] t s (blkK 3 (thenK false (fun _ t s => pool_Lay_3 (Ev base G) call fuel (t 1) (t 2) (t 4) s) (lastK (Ev base G) call fuel false Tryz.f31.results.toList))) = pool_Lay_4 (Ev base G) call fuel fuel (t 1) (t 2) (t 4) s :=
  nfLF (F := fun n t s => pool_Lay_4 (Ev base G) call fuel n (t 1) (t 2) (t 4) s) (by kernel_rfl) (fun _ _ => by kernel_rfl) (fun n t s => (pool_Lay_5_eq base G call fuel (pool_Lay_4 (Ev base G) call fuel n) t s).trans (by kernel_rfl))

theorem pool_Lay_2_eq (base : Nat) (G : Nat → Nat → Option Value) (call : CallF) (fuel : Nat) : ∀ (t : FT) (s : St), (Ev base G).codeK call fuel false (cr (cr (cr (cr (codeOf Tryz.f31))))) [] t s (lastK (Ev base G) call fuel false Tryz.f31.results.toList) = pool_Lay_2 (Ev base G) call fuel (t 1) (t 2) (t 4) s :=
  fun t s => ((nfSF (by kernel_rfl) (nfSF (by kernel_rfl) (pool_Lay_3_eq base G call fuel) (nfBF 3 (by kernel_rfl) (pool_Lay_4_eq base G call fuel))) nfRF) t s).trans (by kernel_rfl)

theorem pool_Lay_8_eq (base : Nat) (G : Nat → Nat → Option Value) (call : CallF) (fuel : Nat) (r7 : Value → Value → Value → Value → St → R) : ∀ (t : FT) (s : St), (Ev base G).codeK call fuel false (cr (cr (cr (cb (cb (cr (cl (cr (cr (cr (codeOf Tryz.f31))))))))))) [] t s (thenK false (fun _ t s => r7 (t 1) (t 2) (t 4) (t 31) s) (blkK 0 (thenK false (fun _ t s => pool_Lay_2 (Ev base G) call fuel (t 1) (t 2) (t 4) s) (lastK (Ev base G) call fuel false Tryz.f31.results.toList)))) = pool_Lay_8 (Ev base G) call fuel r7 (t 1) (t 2) (t 4) (t 31) s :=
  fun t s => (nfRF t s).trans (by kernel_rfl)

theorem pool_Lay_9_eq (base : Nat) (G : Nat → Nat → Option Value) (call : CallF) (fuel : Nat) (r7 : Value → Value → Value → Value → St → R) : ∀ (t : FT) (s : St), (Ev base G).codeK call fuel false (cr (cr (cr (cb (cl (cr (cr (cb (cb (cr (cl (cr (cr (cr (codeOf Tryz.f31))))))))))))))) [] t s (blkK 1 (thenK false (fun _ t s => pool_Lay_8 (Ev base G) call fuel r7 (t 1) (t 2) (t 4) (t 31) s) (thenK false (fun _ t s => r7 (t 1) (t 2) (t 4) (t 31) s) (blkK 0 (thenK false (fun _ t s => pool_Lay_2 (Ev base G) call fuel (t 1) (t 2) (t 4) s) (lastK (Ev base G) call fuel false Tryz.f31.results.toList)))))) = pool_Lay_9 (Ev base G) call fuel r7 (t 1) (t 2) (t 4) (t 5) (t 6) (t 31) s :=
  fun t s => (nfRF t s).trans (by kernel_rfl)

theorem pool_Lay_10_eq (base : Nat) (G : Nat → Nat → Option Value) (call : CallF) (fuel : Nat) (r7 : Value → Value → Value → Value → St → R) : ∀ (t : FT) (s : St), (Ev base G).codeK call fuel false (cr (cb (cl (cr (cr (cb (cl (cr (cr (cb (cb (cr (cl (cr (cr (cr (codeOf Tryz.f31))))))))))))))))) [] t s (blkK 2 (thenK false (fun _ t s => pool_Lay_9 (Ev base G) call fuel r7 (t 1) (t 2) (t 4) (t 5) (t 6) (t 31) s) (blkK 1 (thenK false (fun _ t s => pool_Lay_8 (Ev base G) call fuel r7 (t 1) (t 2) (t 4) (t 31) s) (thenK false (fun _ t s => r7 (t 1) (t 2) (t 4) (t 31) s) (blkK 0 (thenK false (fun _ t s => pool_Lay_2 (Ev base G) call fuel (t 1) (t 2) (t 4) s) (lastK (Ev base G) call fuel false Tryz.f31.results.toList)))))))) = pool_Lay_10 (Ev base G) call fuel r7 (t 1) (t 2) (t 4) (t 5) (t 6) (t 31) (t 36) s :=
  fun t s => (nfRF t s).trans (by kernel_rfl)

theorem pool_Lay_7_eq (base : Nat) (G : Nat → Nat → Option Value) (call : CallF) (fuel : Nat) (r7 : Value → Value → Value → Value → St → R) : ∀ (t : FT) (s : St), (Ev base G).codeK call fuel false (cb (cb (cr (cl (cr (cr (cr (codeOf Tryz.f31)))))))) [] t s (thenK false (fun _ t s => r7 (t 1) (t 2) (t 4) (t 31) s) (blkK 0 (thenK false (fun _ t s => pool_Lay_2 (Ev base G) call fuel (t 1) (t 2) (t 4) s) (lastK (Ev base G) call fuel false Tryz.f31.results.toList)))) = pool_Lay_7 (Ev base G) call fuel r7 (t 1) (t 2) (t 4) (t 31) s :=
  fun t s => ((nfSF (by kernel_rfl) (nfSF (by kernel_rfl) (nfSF (by kernel_rfl) (pool_Lay_8_eq base G call fuel r7) (nfBF 1 (by kernel_rfl) (nfSF (by kernel_rfl) (nfSF (by kernel_rfl) (nfSF (by kernel_rfl) (pool_Lay_9_eq base G call fuel r7) (nfBF 2 (by kernel_rfl) (nfSF (by kernel_rfl) (pool_Lay_10_eq base G call fuel r7) nfRF))) nfRF) nfRF))) nfRF) nfRF) t s).trans (by kernel_rfl)

theorem pool_Lay_6_eq (base : Nat) (G : Nat → Nat → Option Value) (call : CallF) (fuel : Nat) : ∀ (t : FT) (s : St), (Ev base G).codeK call fuel false (cb (cr (cl (cr (cr (cr (codeOf Tryz.f31))))))) [] t s (blkK 0 (thenK false (fun _ t s => pool_Lay_2 (Ev base G) call fuel (t 1) (t 2) (t 4) s) (lastK (Ev base G) call fuel false Tryz.f31.results.toList))) = pool_Lay_6 (Ev base G) call fuel fuel (t 1) (t 2) (t 4) (t 31) s :=
  nfLF (F := fun n t s => pool_Lay_6 (Ev base G) call fuel n (t 1) (t 2) (t 4) (t 31) s) (by kernel_rfl) (fun _ _ => by kernel_rfl) (fun n t s => (pool_Lay_7_eq base G call fuel (pool_Lay_6 (Ev base G) call fuel n) t s).trans (by kernel_rfl))

theorem pool_Lay_1_eq (base : Nat) (G : Nat → Nat → Option Value) (call : CallF) (fuel : Nat) : ∀ (t : FT) (s : St), (Ev base G).codeK call fuel false (cr (cr (codeOf Tryz.f31))) [] t s (lastK (Ev base G) call fuel false Tryz.f31.results.toList) = pool_Lay_1 (Ev base G) call fuel (t 1) (t 2) s :=
  fun t s => ((nfSF (by kernel_rfl) (nfSF (by kernel_rfl) (pool_Lay_2_eq base G call fuel) (nfSF (by kernel_rfl) (nfBF 0 (by kernel_rfl) (pool_Lay_6_eq base G call fuel)) nfRF)) nfRF) t s).trans (by kernel_rfl)

theorem pool_Lay_11_eq (base : Nat) (G : Nat → Nat → Option Value) (call : CallF) (fuel : Nat) : ∀ (t : FT) (s : St), (Ev base G).codeK call fuel false (cr (cl (cr (codeOf Tryz.f31)))) [] t s (thenK false (fun _ t s => pool_Lay_1 (Ev base G) call fuel (t 1) (t 2) s) (lastK (Ev base G) call fuel false Tryz.f31.results.toList)) = pool_Lay_11 (Ev base G) call fuel (t 1) (t 2) (t 28) s :=
  fun t s => (nfRF t s).trans (by kernel_rfl)

theorem pool_Lay_0_eq (base : Nat) (G : Nat → Nat → Option Value) (call : CallF) (fuel : Nat) : ∀ (t : FT) (s : St), (Ev base G).codeK call fuel false (codeOf Tryz.f31) [] t s (lastK (Ev base G) call fuel false Tryz.f31.results.toList) = pool_Lay_0 (Ev base G) call fuel (t 0) s :=
  fun t s => ((nfSF (by kernel_rfl) (nfSF (by kernel_rfl) (pool_Lay_1_eq base G call fuel) (nfSF (by kernel_rfl) (pool_Lay_11_eq base G call fuel) nfRF)) nfRF) t s).trans (by kernel_rfl)

theorem pool_Lay_eq (base : Nat) (G : Nat → Nat → Option Value) (call : CallF) (fuel : Nat) (x0 : Value) (σ : St) : (Ev base G).funK call fuel false Tryz.f31 [x0] σ = pool_Lay (Ev base G) call fuel x0 σ :=
  (show _ = (Ev base G).codeK call fuel false (codeOf Tryz.f31) [] (argF [x0]) σ (lastK (Ev base G) call fuel false Tryz.f31.results.toList) by kernel_rfl).trans ((pool_Lay_0_eq base G call fuel (argF [x0]) σ).trans (by kernel_rfl))
theorem pool_Lay_lf (base : Nat) (G : Nat → Nat → Option Value) : LeafOK (Ev base G) 31 (fun call fuel l σ => a1 l fun x0 => (pool_Lay (Ev base G) call fuel x0 σ)) :=
  leaf1 (L := false) ⟨Tryz.func31, by kernel_rfl, by kernel_rfl⟩ (fun call fuel x0 σ => pool_Lay_eq base G call fuel x0 σ)

/-! 32: plover/mem.New -/
theorem mem_New_1_eq (base : Nat) (G : Nat → Nat → Option Value) (call : CallF) (fuel : Nat) : ∀ (t : FT) (s : St), (Ev base G).codeK call fuel false (cr (cr (codeOf Tryz.f32))) [] t s (lastK (Ev base G) call fuel false Tryz.f32.results.toList) = mem_New_1 (Ev base G) call fuel (t 0) s :=
  fun t s => (nfRF t s).trans (by kernel_rfl)

theorem mem_New_2_eq (base : Nat) (G : Nat → Nat → Option Value) (call : CallF) (fuel : Nat) : ∀ (t : FT) (s : St), (Ev base G).codeK call fuel false (cr (cl (cr (codeOf Tryz.f32)))) [] t s (thenK false (fun _ t s => mem_New_1 (Ev base G) call fuel (t 0) s) (lastK (Ev base G) call fuel false Tryz.f32.results.toList)) = mem_New_2 (Ev base G) call fuel (t 0) (t 9) s :=
  fun t s => (nfRF t s).trans (by kernel_rfl)

theorem mem_New_0_eq (base : Nat) (G : Nat → Nat → Option Value) (call : CallF) (fuel : Nat) : ∀ (t : FT) (s : St), (Ev base G).codeK call fuel false (codeOf Tryz.f32) [] t s (lastK (Ev base G) call fuel false Tryz.f32.results.toList) = mem_New_0 (Ev base G) call fuel (t 0) s :=
  fun t s => ((nfSF (by kernel_rfl) (nfSF (by kernel_rfl) (mem_New_1_eq base G call fuel) (nfSF (by kernel_rfl) (mem_New_2_eq base G call fuel) nfRF)) nfRF) t s).trans (by kernel_rfl)

theorem mem_New_eq (base : Nat) (G : Nat → Nat → Option Value) (call : CallF) (fuel : Nat) (x0 : Value) (σ : St) : (Ev base G).funK call fuel false Tryz.f32 [x0] σ = mem_New (Ev base G) call fuel x0 σ :=
  (show _ = (Ev base G).codeK call fuel false (codeOf Tryz.f32) [] (argF [x0]) σ (lastK (Ev base G) call fuel false Tryz.f32.results.toList) by kernel_rfl).trans ((mem_New_0_eq base G call fuel (argF [x0]) σ).trans (by kernel_rfl))
theorem mem_New_lf (base : Nat) (G : Nat → Nat → Option Value) : LeafOK (Ev base G) 32 (fun call fuel l σ => a1 l fun x0 => (mem_New (Ev base G) call fuel x0 σ)) :=
  leaf1 (L := false) ⟨Tryz.func32, by kernel_rfl, by kernel_rfl⟩ (fun call fuel x0 σ => mem_New_eq base G call fuel x0 σ)

/-! 33: plover/write.New -/
theorem write_New_0_eq (base : Nat) (G : Nat → Nat → Option Value) (call : CallF) (fuel : Nat) : ∀ (t : FT) (s : St), (Ev base G).codeK call fuel false (codeOf Tryz.f33) [] t s (lastK (Ev base G) call fuel false Tryz.f33.results.toList) = write_New_0 (Ev base G) call fuel (t 0) (t 1) s :=
  fun t s => (nfRF t s).trans (by kernel_rfl)

theorem write_New_eq (base : Nat) (G : Nat → Nat → Option Value) (call : CallF) (fuel : Nat) (x0 x1 : Value) (σ : St) : (Ev base G).funK call fuel false Tryz.f33 [x0, x1] σ = write_New (Ev base G) call fuel x0 x1 σ :=
  (show _ = (Ev base G).codeK call fuel false (codeOf Tryz.f33) [] (argF [x0, x1]) σ (lastK (Ev base G) call fuel false Tryz.f33.results.toList) by kernel_rfl).trans ((write_New_0_eq base G call fuel (argF [x0, x1]) σ).trans (by kernel_rfl))
theorem write_New_lf (base : Nat) (G : Nat → Nat → Option Value) : LeafOK (Ev base G) 33 (fun call fuel l σ => a2 l fun x0 x1 => (write_New (Ev base G) call fuel x0 x1 σ)) :=
  leaf2 (L := false) ⟨Tryz.func33, by kernel_rfl, by kernel_rfl⟩ (fun call fuel x0 x1 σ => write_New_eq base G call fuel x0 x1 σ)

/-! 34: plover/ploverref23.Bound -/
theorem ref23_Bound_2_eq (base : Nat) (G : Nat → Nat → Option Value) (call : CallF) (fuel : Nat) : ∀ (t : FT) (s : St), (Ev base G).codeK call fuel false (cr (cr (cr (cr (codeOf Tryz.f34))))) [] t s (lastK (Ev base G) call fuel false Tryz.f34.results.toList) = ref23_Bound_2 (Ev base G) call fuel (t 0) (t 5) s :=
  fun t s => (nfRF t s).trans (by kernel_rfl)

theorem ref23_Bound_4_eq (base : Nat) (G : Nat → Nat → Option Value) (call : CallF) (fuel : Nat) (r4 : Value → Value → Value → Value → Value → St → R) : ∀ (t : FT) (s : St), (Ev base G).codeK call fuel false (cb (cb (cr (ct (cr (cl (cr (cr (cr (codeOf Tryz.f34)))))))))) [] t s (thenK false (fun _ t s => r4 (t 0) (t 3) (t 5) (t 19) (t 20) s) (blkK 0 (thenK false (fun _ t s => ref23_Bound_2 (Ev base G) call fuel (t 0) (t 5) s) (lastK (Ev base G) call fuel false Tryz.f34.results.toList)))) = ref23_Bound_4 (Ev base G) call fuel r4 (t 0) (t 3) (t 5) (t 19) (t 20) s :=
  fun t s => (nfRF t s).trans (by kernel_rfl)

theorem ref23_Bound_3_eq (base : Nat) (G : Nat → Nat → Option Value) (call : CallF) (fuel : Nat) : ∀ (t : FT) (s : St), (Ev base G).codeK call fuel false (cb (cr (ct (cr (cl (cr (cr (cr (codeOf Tryz.f34))))))))) [] t s (blkK 0 (thenK false (fun _ t s => ref23_Bound_2 (Ev base G) call fuel (t 0) (t 5) s) (lastK (Ev base G) call fuel false Tryz.f34.results.toList))) = ref23_Bound_3 (Ev base G) call fuel fuel (t 0) (t 3) (t 5) (t 19) (t 20) s :=
  nfLF (F := fun n t s => ref23_Bound_3 (Ev base G) call fuel n (t 0) (t 3) (t 5) (t 19) (t 20) s) (by kernel_rfl) (fun _ _ => by kernel_rfl) (fun n t s => (ref23_Bound_4_eq base G call fuel (ref23_Bound_3 (Ev base G) call fuel n) t s).trans (by kernel_rfl))

theorem ref23_Bound_1_eq (base : Nat) (G : Nat → Nat → Option Value) (call : CallF) (fuel : Nat) : ∀ (t : FT) (s : St), (Ev base G).codeK call fuel false (cr (cr (cr (codeOf Tryz.f34)))) [] t s (lastK (Ev base G) call fuel false Tryz.f34.results.toList) = ref23_Bound_1 (Ev base G) call fuel (t 0) (t 3) (t 5) s :=
  fun t s => ((nfSF (by kernel_rfl) (ref23_Bound_2_eq base G call fuel) (nfSF (by kernel_rfl) (nfCF (by kernel_rfl) (nfSF (by kernel_rfl) (nfBF 0 (by kernel_rfl) (ref23_Bound_3_eq base G call fuel)) nfRF) nfRF) nfRF)) t s).trans (by kernel_rfl)

theorem ref23_Bound_0_eq (base : Nat) (G : Nat → Nat → Option Value) (call : CallF) (fuel : Nat) : ∀ (t : FT) (s : St), (Ev base G).codeK call fuel false (codeOf Tryz.f34) [] t s (lastK (Ev base G) call fuel false Tryz.f34.results.toList) = ref23_Bound_0 (Ev base G) call fuel (t 0) (t 1) s :=
  fun t s => ((nfSF (by kernel_rfl) (nfSF (by kernel_rfl) (nfSF (by kernel_rfl) (ref23_Bound_1_eq base G call fuel) nfRF) nfRF) nfRF) t s).trans (by kernel_rfl)

theorem ref23_Bound_eq (base : Nat) (G : Nat → Nat → Option Value) (call : CallF) (fuel : Nat) (x0 x1 : Value) (σ : St) : (Ev base G).funK call fuel false Tryz.f34 [x0, x1] σ = ref23_Bound (Ev base G) call fuel x0 x1 σ :=
  (show _ = (Ev base G).codeK call fuel false (codeOf Tryz.f34) [] (argF [x0, x1]) σ (lastK (Ev base G) call fuel false Tryz.f34.results.toList) by kernel_rfl).trans ((ref23_Bound_0_eq base G call fuel (argF [x0, x1]) σ).trans (by kernel_rfl))
theorem ref23_Bound_lf (base : Nat) (G : Nat → Nat → Option Value) : LeafOK (Ev base G) 34 (fun call fuel l σ => a2 l fun x0 x1 => (ref23_Bound (Ev base G) call fuel x0 x1 σ)) :=
  leaf2 (L := false) ⟨Tryz.func34, by kernel_rfl, by kernel_rfl⟩ (fun call fuel x0 x1 σ => ref23_Bound_eq base G call fuel x0 x1 σ)

/-! 35: slices.Clone[[]string,string] -/
theorem slices_Clone_string_0_eq (base : Nat) (G : Nat → Nat → Option Value) (call : CallF) (fuel : Nat) : ∀ (t : FT) (s : St), (Ev base G).codeK call fuel false (codeOf Tryz.f35) [] t s (lastK (Ev base G) call fuel false Tryz.f35.results.toList) = slices_Clone_string_0 (Ev base G) call fuel (t 0) s :=
  fun t s => (nfRF t s).trans (by kernel_rfl)

theorem slices_Clone_string_eq (base : Nat) (G : Nat → Nat → Option Value) (call : CallF) (fuel : Nat) (x0 : Value) (σ : St) : (Ev base G).funK call fuel false Tryz.f35 [x0] σ = slices_Clone_string (Ev base G) call fuel x0 σ :=
  (show _ = (Ev base G).codeK call fuel false (codeOf Tryz.f35) [] (argF [x0]) σ (lastK (Ev base G) call fuel false Tryz.f35.results.toList) by kernel_rfl).trans ((slices_Clone_string_0_eq base G call fuel (argF [x0]) σ).trans (by kernel_rfl))
theorem slices_Clone_string_lf (base : Nat) (G : Nat → Nat → Option Value) : LeafOK (Ev base G) 35 (fun call fuel l σ => a1 l fun x0 => (slices_Clone_string (Ev base G) call fuel x0 σ)) :=
  leaf1 (L := false) ⟨Tryz.func35, by kernel_rfl, by kernel_rfl⟩ (fun call fuel x0 σ => slices_Clone_string_eq base G call fuel x0 σ)

/-! 36: plover/token.Tokens -/
theorem token_Tokens_2_eq (base : Nat) (G : Nat → Nat → Option Value) (call : CallF) (fuel : Nat) : ∀ (t : FT) (s : St), (Ev base G).codeK call fuel false (cr (cr (cr (cr (cr (codeOf Tryz.f36)))))) [] t s (lastK (Ev base G) call fuel false Tryz.f36.results.toList) = token_Tokens_2 (Ev base G) call fuel (t 6) s :=
  fun t s => (nfRF t s).trans (by kernel_rfl)

theorem token_Tokens_5_eq (base : Nat) (G : Nat → Nat → Option Value) (call : CallF) (fuel : Nat) (r4 : Value → Value → Value → Value → St → R) : ∀ (t : FT) (s : St), (Ev base G).codeK call fuel false (cr (cr (cr (cb (cb (cr (cl (cr (cr (cr (cr (codeOf Tryz.f36)))))))))))) [] t s (thenK false (fun _ t s => r4 (t 6) (t 24) (t 25) (t 26) s) (blkK 2 (thenK false (fun _ t s => token_Tokens_2 (Ev base G) call fuel (t 6) s) (lastK (Ev base G) call fuel false Tryz.f36.results.toList)))) = token_Tokens_5 (Ev base G) call fuel r4 (t 6) (t 24) (t 25) (t 26) s :=
  fun t s => (nfRF t s).trans (by kernel_rfl)

theorem token_Tokens_7_eq (base : Nat) (G : Nat → Nat → Option Value) (call : CallF) (fuel : Nat) (r4 : Value → Value → Value → Value → St → R) (r7 : Value → Value → Value → Value → Value → Value → Value → Value → St → R) : ∀ (t : FT) (s : St), (Ev base G).codeK call fuel false (cb (cb (cr (cr (cb (cl (cr (cr (cb (cb (cr (cl (cr (cr (cr (cr (codeOf Tryz.f36))))))))))))))))) [] t s (thenK false (fun _ t s => r7 (t 6) (t 7) (t 24) (t 25) (t 26) (t 32) (t 33) (t 34) s) (blkK 4 (blkK 3 (thenK false (fun _ t s => token_Tokens_5 (Ev base G) call fuel r4 (t 6) (t 24) (t 25) (t 26) s) (thenK false (fun _ t s => r4 (t 6) (t 24) (t 25) (t 26) s) (blkK 2 (thenK false (fun _ t s => token_Tokens_2 (Ev base G) call fuel (t 6) s) (lastK (Ev base G) call fuel false Tryz.f36.results.toList)))))))) = token_Tokens_7 (Ev base G) call fuel r4 r7 (t 6) (t 7) (t 24) (t 25) (t 26) (t 32) (t 33) (t 34) s :=
  fun t s => (nfRF t s).trans (by kernel_rfl)

theorem token_Tokens_6_eq (base : Nat) (G : Nat → Nat → Option Value) (call : CallF) (fuel : Nat) (r4 : Value → Value → Value → Value → St → R) : ∀ (t : FT) (s : St), (Ev base G).codeK call fuel false (cb (cr (cr (cb (cl (cr (cr (cb (cb (cr (cl (cr (cr (cr (cr (codeOf Tryz.f36)))))))))))))))) [] t s (blkK 4 (blkK 3 (thenK false (fun _ t s => token_Tokens_5 (Ev base G) call fuel r4 (t 6) (t 24) (t 25) (t 26) s) (thenK false (fun _ t s => r4 (t 6) (t 24) (t 25) (t 26) s) (blkK 2 (thenK false (fun _ t s => token_Tokens_2 (Ev base G) call fuel (t 6) s) (lastK (Ev base G) call fuel false Tryz.f36.results.toList))))))) = token_Tokens_6 (Ev base G) call fuel r4 fuel (t 6) (t 7) (t 24) (t 25) (t 26) (t 32) (t 33) (t 34) s :=
  nfLF (F := fun n t s => token_Tokens_6 (Ev base G) call fuel r4 n (t 6) (t 7) (t 24) (t 25) (t 26) (t 32) (t 33) (t 34) s) (by kernel_rfl) (fun _ _ => by kernel_rfl) (fun n t s => (token_Tokens_7_eq base G call fuel r4 (token_Tokens_6 (Ev base G) call fuel r4 n) t s).trans (by kernel_rfl))

theorem token_Tokens_4_eq (base : Nat) (G : Nat → Nat → Option Value) (call : CallF) (fuel : Nat) (r4 : Value → Value → Value → Value → St → R) : ∀ (t : FT) (s : St), (Ev base G).codeK call fuel false (cb (cb (cr (cl (cr (cr (cr (cr (codeOf Tryz.f36))))))))) [] t s (thenK false (fun _ t s => r4 (t 6) (t 24) (t 25) (t 26) s) (blkK 2 (thenK false (fun _ t s => token_Tokens_2 (Ev base G) call fuel (t 6) s) (lastK (Ev base G) call fuel false Tryz.f36.results.toList)))) = token_Tokens_4 (Ev base G) call fuel r4 (t 6) (t 24) (t 25) (t 26) s :=
  fun t s => ((nfSF (by kernel_rfl) (nfSF (by kernel_rfl) (nfSF (by kernel_rfl) (token_Tokens_5_eq base G call fuel r4) (nfBF 3 (by kernel_rfl) (nfSF (by kernel_rfl) (nfSF (by kernel_rfl) (nfBF 4 (by kernel_rfl) (token_Tokens_6_eq base G call fuel r4)) nfRF) nfRF))) nfRF) nfRF) t s).trans (by kernel_rfl)

theorem token_Tokens_3_eq (base : Nat) (G : Nat → Nat → Option Value) (call : CallF) (fuel : Nat) : ∀ (t : FT) (s : St), (Ev base G).codeK call fuel false (cb (cr (cl (cr (cr (cr (cr (codeOf Tryz.f36)))))))) [] t s (blkK 2 (thenK false (fun _ t s => token_Tokens_2 (Ev base G) call fuel (t 6) s) (lastK (Ev base G) call fuel false Tryz.f36.results.toList))) = token_Tokens_3 (Ev base G) call fuel fuel (t 6) (t 24) (t 25) (t 26) s :=
  nfLF (F := fun n t s => token_Tokens_3 (Ev base G) call fuel n (t 6) (t 24) (t 25) (t 26) s) (by kernel_rfl) (fun _ _ => by kernel_rfl) (fun n t s => (token_Tokens_4_eq base G call fuel (token_Tokens_3 (Ev base G) call fuel n) t s).trans (by kernel_rfl))

theorem token_Tokens_1_eq (base : Nat) (G : Nat → Nat → Option Value) (call : CallF) (fuel : Nat) : ∀ (t : FT) (s : St), (Ev base G).codeK call fuel false (cr (cr (cr (codeOf Tryz.f36)))) [] t s (lastK (Ev base G) call fuel false Tryz.f36.results.toList) = token_Tokens_1 (Ev base G) call fuel (t 0) s :=
  fun t s => ((nfSF (by kernel_rfl) (nfSF (by kernel_rfl) (token_Tokens_2_eq base G call fuel) (nfSF (by kernel_rfl) (nfBF 2 (by kernel_rfl) (token_Tokens_3_eq base G call fuel)) nfRF)) nfRF) t s).trans (by kernel_rfl)

theorem token_Tokens_9_eq (base : Nat) (G : Nat → Nat → Option Value) (call : CallF) (fuel : Nat) (r9 : Value → Value → Value → Value → St → R) : ∀ (t : FT) (s : St), (Ev base G).codeK call fuel false (cb (cb (cr (cl (cr (cr (codeOf Tryz.f36))))))) [] t s (thenK false (fun _ t s => r9 (t 0) (t 14) (t 15) (t 16) s) (blkK 0 (thenK false (fun _ t s => token_Tokens_1 (Ev base G) call fuel (t 0) s) (lastK (Ev base G) call fuel false Tryz.f36.results.toList)))) = token_Tokens_9 (Ev base G) call fuel r9 (t 0) (t 14) (t 15) (t 16) s :=
  fun t s => (nfRF t s).trans (by kernel_rfl)

theorem token_Tokens_8_eq (base : Nat) (G : Nat → Nat → Option Value) (call : CallF) (fuel : Nat) : ∀ (t : FT) (s : St), (Ev base G).codeK call fuel false (cb (cr (cl (cr (cr (codeOf Tryz.f36)))))) [] t s (blkK 0 (thenK false (fun _ t s => token_Tokens_1 (Ev base G) call fuel (t 0) s) (lastK (Ev base G) call fuel false Tryz.f36.results.toList))) = token_Tokens_8 (Ev base G) call fuel fuel (t 0) (t 14) (t 15) (t 16) s :=
  nfLF (F := fun n t s => token_Tokens_8 (Ev base G) call fuel n (t 0) (t 14) (t 15) (t 16) s) (by kernel_rfl) (fun _ _ => by kernel_rfl) (fun n t s => (token_Tokens_9_eq base G call fuel (token_Tokens_8 (Ev base G) call fuel n) t s).trans (by kernel_rfl))

theorem token_Tokens_0_eq (base : Nat) (G : Nat → Nat → Option Value) (call : CallF) (fuel : Nat) : ∀ (t : FT) (s : St), (Ev base G).codeK call fuel false (codeOf Tryz.f36) [] t s (lastK (Ev base G) call fuel false Tryz.f36.results.toList) = token_Tokens_0 (Ev base G) call fuel (t 0) s :=
  fun t s => ((nfSF (by kernel_rfl) (nfSF (by kernel_rfl) (nfSF (by kernel_rfl) (token_Tokens_1_eq base G call fuel) (nfSF (by kernel_rfl) (nfBF 0 (by kernel_rfl) (token_Tokens_8_eq base G call fuel)) nfRF)) nfRF) nfRF) t s).trans (by kernel_rfl)

theorem token_Tokens_eq (base : Nat) (G : Nat → Nat → Option Value) (call : CallF) (fuel : Nat) (x0 : Value) (σ : St) : (Ev base G).funK call fuel false Tryz.f36 [x0] σ = token_Tokens (Ev base G) call fuel x0 σ :=
  (show _ = (Ev base G).codeK call fuel false (codeOf Tryz.f36) [] (argF [x0]) σ (lastK (Ev base G) call fuel false Tryz.f36.results.toList) by kernel_rfl).trans ((token_Tokens_0_eq base G call fuel (argF [x0]) σ).trans (by kernel_rfl))
theorem token_Tokens_lf (base : Nat) (G : Nat → Nat → Option Value) : LeafOK (Ev base G) 36 (fun call fuel l σ => a1 l fun x0 => (token_Tokens (Ev base G) call fuel x0 σ)) :=
  leaf1 (L := false) ⟨Tryz.func36, by kernel_rfl, by kernel_rfl⟩ (fun call fuel x0 σ => token_Tokens_eq base G call fuel x0 σ)

/-! 37: plover/write.place -/
theorem write_place_2_eq (base : Nat) (G : Nat → Nat → Option Value) (call : CallF) (fuel : Nat) (r2 : Value → Value → Value → Value → Value → St → R) : ∀ (t : FT) (s : St), (Ev base G).codeK call fuel false (cb (cb (cr (cl (cr (codeOf Tryz.f37)))))) [] t s (thenK false (fun _ t s => r2 (t 0) (t 2) (t 13) (t 14) (t 15) s) (blkK 0 (thenK false (fun d t s => (Ev base G).codeK call fuel false (cr (cr (codeOf Tryz.f37))) d t s (lastK (Ev base G) call fuel false Tryz.f37.results.toList)) (lastK (Ev base G) call fuel false Tryz.f37.results.toList)))) = write_place_2 (Ev base G) call fuel r2 (t 0) (t 2) (t 13) (t 14) (t 15) s :=
  fun t s => (nfRF t s).trans (by kernel_rfl)

theorem write_place_1_eq (base : Nat) (G : Nat → Nat → Option Value) (call : CallF) (fuel : Nat) : ∀ (t : FT) (s : St), (Ev base G).codeK call fuel false (cb (cr (cl (cr (codeOf Tryz.f37))))) [] t s (blkK 0 (thenK false (fun d t s => (Ev base G).codeK call fuel false (cr (cr (codeOf Tryz.f37))) d t s (lastK (Ev base G) call fuel false Tryz.f37.results.toList)) (lastK (Ev base G) call fuel false Tryz.f37.results.toList))) = write_place_1 (Ev base G) call fuel fuel (t 0) (t 2) (t 13) (t 14) (t 15) s :=
  nfLF (F := fun n t s => write_place_1 (Ev base G) call fuel n (t 0) (t 2) (t 13) (t 14) (t 15) s) (by kernel_rfl) (fun _ _ => by kernel_rfl) (fun n t s => (write_place_2_eq base G call fuel (write_place_1 (Ev base G) call fuel n) t s).trans (by kernel_rfl))

theorem write_place_0_eq (base : Nat) (G : Nat → Nat → Option Value) (call : CallF) (fuel : Nat) : ∀ (t : FT) (s : St), (Ev base G).codeK call fuel false (codeOf Tryz.f37) [] t s (lastK (Ev base G) call fuel false Tryz.f37.results.toList) = write_place_0 (Ev base G) call fuel (t 0) (t 1) (t 2) s :=
  fun t s => ((nfSF (by kernel_rfl) (nfSF (by kernel_rfl) nfRF (nfSF (by kernel_rfl) (nfBF 0 (by kernel_rfl) (write_place_1_eq base G call fuel)) nfRF)) nfRF) t s).trans (by kernel_rfl)

theorem write_place_eq (base : Nat) (G : Nat → Nat → Option Value) (call : CallF) (fuel : Nat) (x0 x1 x2 : Value) (σ : St) : (Ev base G).funK call fuel false Tryz.f37 [x0, x1, x2] σ = write_place (Ev base G) call fuel x0 x1 x2 σ :=
  (show _ = (Ev base G).codeK call fuel false (codeOf Tryz.f37) [] (argF [x0, x1, x2]) σ (lastK (Ev base G) call fuel false Tryz.f37.results.toList) by kernel_rfl).trans ((write_place_0_eq base G call fuel (argF [x0, x1, x2]) σ).trans (by kernel_rfl))
theorem write_place_lf (base : Nat) (G : Nat → Nat → Option Value) : LeafOK (Ev base G) 37 (fun call fuel l σ => a3 l fun x0 x1 x2 => (write_place (Ev base G) call fuel x0 x1 x2 σ)) :=
  leaf3 (L := false) ⟨Tryz.func37, by kernel_rfl, by kernel_rfl⟩ (fun call fuel x0 x1 x2 σ => write_place_eq base G call fuel x0 x1 x2 σ)

/-! 38: plover/write.Base -/
theorem write_Base_0_eq (base : Nat) (G : Nat → Nat → Option Value) (call : CallF) (fuel : Nat) : ∀ (t : FT) (s : St), (Ev base G).codeK call fuel false (codeOf Tryz.f38) [] t s (lastK (Ev base G) call fuel false Tryz.f38.results.toList) = write_Base_0 (Ev base G) call fuel (t 0) s :=
  fun t s => (nfRF t s).trans (by kernel_rfl)

theorem write_Base_eq (base : Nat) (G : Nat → Nat → Option Value) (call : CallF) (fuel : Nat) (x0 : Value) (σ : St) : (Ev base G).funK call fuel false Tryz.f38 [x0] σ = write_Base (Ev base G) call fuel x0 σ :=
  (show _ = (Ev base G).codeK call fuel false (codeOf Tryz.f38) [] (argF [x0]) σ (lastK (Ev base G) call fuel false Tryz.f38.results.toList) by kernel_rfl).trans ((write_Base_0_eq base G call fuel (argF [x0]) σ).trans (by kernel_rfl))
theorem write_Base_lf (base : Nat) (G : Nat → Nat → Option Value) : LeafOK (Ev base G) 38 (fun call fuel l σ => a1 l fun x0 => (write_Base (Ev base G) call fuel x0 σ)) :=
  leaf1 (L := false) ⟨Tryz.func38, by kernel_rfl, by kernel_rfl⟩ (fun call fuel x0 σ => write_Base_eq base G call fuel x0 σ)

/-! 39: (*plover/step.Run).Off -/
theorem step_Run_Off_0_eq (base : Nat) (G : Nat → Nat → Option Value) (call : CallF) (fuel : Nat) : ∀ (t : FT) (s : St), (Ev base G).codeK call fuel false (codeOf Tryz.f39) [] t s (lastK (Ev base G) call fuel false Tryz.f39.results.toList) = step_Run_Off_0 (Ev base G) call fuel (t 0) s :=
  fun t s => (nfRF t s).trans (by kernel_rfl)

theorem step_Run_Off_eq (base : Nat) (G : Nat → Nat → Option Value) (call : CallF) (fuel : Nat) (x0 : Value) (σ : St) : (Ev base G).funK call fuel false Tryz.f39 [x0] σ = step_Run_Off (Ev base G) call fuel x0 σ :=
  (show _ = (Ev base G).codeK call fuel false (codeOf Tryz.f39) [] (argF [x0]) σ (lastK (Ev base G) call fuel false Tryz.f39.results.toList) by kernel_rfl).trans ((step_Run_Off_0_eq base G call fuel (argF [x0]) σ).trans (by kernel_rfl))
theorem step_Run_Off_lf (base : Nat) (G : Nat → Nat → Option Value) : LeafOK (Ev base G) 39 (fun call fuel l σ => a1 l fun x0 => (step_Run_Off (Ev base G) call fuel x0 σ)) :=
  leaf1 (L := false) ⟨Tryz.func39, by kernel_rfl, by kernel_rfl⟩ (fun call fuel x0 σ => step_Run_Off_eq base G call fuel x0 σ)

/-! 40: plover/write.terms -/
theorem write_terms_3_eq (base : Nat) (G : Nat → Nat → Option Value) (call : CallF) (fuel : Nat) (r2 : Value → Value → Value → Value → Value → Value → Value → St → R) : ∀ (t : FT) (s : St), (Ev base G).codeK call fuel false (cr (cr (cr (cb (cb (cr (cl (cr (cr (cb (cr (codeOf Tryz.f40)))))))))))) [] t s (thenK false (fun _ t s => r2 (t 0) (t 1) (t 2) (t 9) (t 15) (t 16) (t 17) s) (blkK 0 (thenK false (fun d t s => (Ev base G).codeK call fuel false (cr (cr (cr (cb (cr (codeOf Tryz.f40)))))) d t s (lastK (Ev base G) call fuel false Tryz.f40.results.toList)) (lastK (Ev base G) call fuel false Tryz.f40.results.toList)))) = write_terms_3 (Ev base G) call fuel r2 (t 0) (t 1) (t 2) (t 9) (t 15) (t 16) (t 17) s :=
  fun t s => (nfRF t s).trans (by kernel_rfl)

theorem write_terms_5_eq (base : Nat) (G : Nat → Nat → Option Value) (call : CallF) (fuel : Nat) (r2 : Value → Value → Value → Value → Value → Value → Value → St → R) : ∀ (t : FT) (s : St), (Ev base G).codeK call fuel false (cr (cr (cr (cr (cr (cr (cb (cl (cr (cr (cb (cb (cr (cl (cr (cr (cb (cr (codeOf Tryz.f40))))))))))))))))))) [] t s (blkK 1 (thenK false (fun _ t s => write_terms_3 (Ev base G) call fuel r2 (t 0) (t 1) (t 2) (t 9) (t 15) (t 16) (t 17) s) (thenK false (fun _ t s => r2 (t 0) (t 1) (t 2) (t 9) (t 15) (t 16) (t 17) s) (blkK 0 (thenK false (fun d t s => (Ev base G).codeK call fuel false (cr (cr (cr (cb (cr (codeOf Tryz.f40)))))) d t s (lastK (Ev base G) call fuel false Tryz.f40.results.toList)) (lastK (Ev base G) call fuel false Tryz.f40.results.toList)))))) = write_terms_5 (Ev base G) call fuel r2 (t 0) (t 1) (t 2) (t 9) (t 14) (t 15) (t 16) (t 17) s :=
  fun t s => (nfRF t s).trans (by kernel_rfl)

theorem write_terms_4_eq (base : Nat) (G : Nat → Nat → Option Value) (call : CallF) (fuel : Nat) (r2 : Value → Value → Value → Value → Value → Value → Value → St → R) : ∀ (t : FT) (s : St), (Ev base G).codeK call fuel false (cr (cr (cr (cb (cl (cr (cr (cb (cb (cr (cl (cr (cr (cb (cr (codeOf Tryz.f40)))))))))))))))) [] t s (blkK 1 (thenK false (fun _ t s => write_terms_3 (Ev base G) call fuel r2 (t 0) (t 1) (t 2) (t 9) (t 15) (t 16) (t 17) s) (thenK false (fun _ t s => r2 (t 0) (t 1) (t 2) (t 9) (t 15) (t 16) (t 17) s) (blkK 0 (thenK false (fun d t s => (Ev base G).codeK call fuel false (cr (cr (cr (cb (cr (codeOf Tryz.f40)))))) d t s (lastK (Ev base G) call fuel false Tryz.f40.results.toList)) (lastK (Ev base G) call fuel false Tryz.f40.results.toList)))))) = write_terms_4 (Ev base G) call fuel r2 (t 0) (t 1) (t 2) (t 9) (t 12) (t 15) (t 16) (t 17) s :=
  fun t s => ((nfSF (by kernel_rfl) (nfSF (by kernel_rfl) (nfSF (by kernel_rfl) (write_terms_5_eq base G call fuel r2) nfRF) nfRF) nfRF) t s).trans (by kernel_rfl)

theorem write_terms_7_eq (base : Nat) (G : Nat → Nat → Option Value) (call : CallF) (fuel : Nat) (r2 : Value → Value → Value → Value → Value → Value → Value → St → R) (r7 : Value → Value → Value → Value → Value → Value → Value → Value → Value → Value → St → R) : ∀ (t : FT) (s : St), (Ev base G).codeK call fuel false (cb (cb (cr (cl (cr (cr (cb (cl (cr (cr (cb (cb (cr (cl (cr (cr (cb (cr (codeOf Tryz.f40))))))))))))))))))) [] t s (thenK false (fun _ t s => r7 (t 0) (t 1) (t 2) (t 9) (t 12) (t 15) (t 16) (t 17) (t 27) (t 28) s) (blkK 2 (thenK false (fun _ t s => write_terms_4 (Ev base G) call fuel r2 (t 0) (t 1) (t 2) (t 9) (t 12) (t 15) (t 16) (t 17) s) (blkK 1 (thenK false (fun _ t s => write_terms_3 (Ev base G) call fuel r2 (t 0) (t 1) (t 2) (t 9) (t 15) (t 16) (t 17) s) (thenK false (fun _ t s => r2 (t 0) (t 1) (t 2) (t 9) (t 15) (t 16) (t 17) s) (blkK 0 (thenK false (fun d t s => (Ev base G).codeK call fuel false (cr (cr (cr (cb (cr (codeOf Tryz.f40)))))) d t s (lastK (Ev base G) call fuel false Tryz.f40.results.toList)) (lastK (Ev base G) call fuel false Tryz.f40.results.toList))))))))) = write_terms_7 (Ev base G) call fuel r2 r7 (t 0) (t 1) (t 2) (t 9) (t 12) (t 15) (t 16) (t 17) (t 27) (t 28) s :=
  fun t s => (nfRF t s).trans (by kernel_rfl)

theorem write_terms_6_eq (base : Nat) (G : Nat → Nat → Option Value) (call : CallF) (fuel : Nat) (r2 : Value → Value → Value → Value → Value → Value → Value → St → R) : ∀ (t : FT) (s : St), (Ev base G).codeK call fuel false (cb (cr (cl (cr (cr (cb (cl (cr (cr (cb (cb (cr (cl (cr (cr (cb (cr (codeOf Tryz.f40)))))))))))))))))) [] t s (blkK 2 (thenK false (fun _ t s => write_terms_4 (Ev base G) call fuel r2 (t 0) (t 1) (t 2) (t 9) (t 12) (t 15) (t 16) (t 17) s) (blkK 1 (thenK false (fun _ t s => write_terms_3 (Ev base G) call fuel r2 (t 0) (t 1) (t 2) (t 9) (t 15) (t 16) (t 17) s) (thenK false (fun _ t s => r2 (t 0) (t 1) (t 2) (t 9) (t 15) (t 16) (t 17) s) (blkK 0 (thenK false (fun d t s => (Ev base G).codeK call fuel false (cr (cr (cr (cb (cr (codeOf Tryz.f40)))))) d t s (lastK (Ev base G) call fuel false Tryz.f40.results.toList)) (lastK (Ev base G) call fuel false Tryz.f40.results.toList)))))))) = write_terms_6 (Ev base G) call fuel r2 fuel (t 0) (t 1) (t 2) (t 9) (t 12) (t 15) (t 16) (t 17) (t 27) (t 28) s :=
  nfLF (F := fun n t s => write_terms_6 (Ev base G) call fuel r2 n (t 0) (t 1) (t 2) (t 9) (t 12) (t 15) (t 16) (t 17) (t 27) (t 28) s) (by kernel_rfl) (fun _ _ => by kernel_rfl) (fun n t s => (write_terms_7_eq base G call fuel r2 (write_terms_6 (Ev base G) call fuel r2 n) t s).trans (by kernel_rfl))

theorem write_terms_2_eq (base : Nat) (G : Nat → Nat → Option Value) (call : CallF) (fuel : Nat) (r2 : Value → Value → Value → Value → Value → Value → Value → St → R) : ∀ (t : FT) (s : St), (Ev base G).codeK call fuel false (cb (cb (cr (cl (cr (cr (cb (cr (codeOf Tryz.f40))))))))) [] t s (thenK false (fun _ t s => r2 (t 0) (t 1) (t 2) (t 9) (t 15) (t 16) (t 17) s) (blkK 0 (thenK false (fun d t s => (Ev base G).codeK call fuel false (cr (cr (cr (cb (cr (codeOf Tryz.f40)))))) d t s (lastK (Ev base G) call fuel false Tryz.f40.results.toList)) (lastK (Ev base G) call fuel false Tryz.f40.results.toList)))) = write_terms_2 (Ev base G) call fuel r2 (t 0) (t 1) (t 2) (t 9) (t 15) (t 16) (t 17) s :=
  fun t s => ((nfSF (by kernel_rfl) (nfSF (by kernel_rfl) (nfSF (by kernel_rfl) (write_terms_3_eq base G call fuel r2) (nfBF 1 (by kernel_rfl) (nfSF (by kernel_rfl) (nfSF (by kernel_rfl) (nfSF (by kernel_rfl) (write_terms_4_eq base G call fuel r2) (nfSF (by kernel_rfl) (nfBF 2 (by kernel_rfl) (write_terms_6_eq base G call fuel r2)) nfRF)) nfRF) nfRF))) nfRF) nfRF) t s).trans (by kernel_rfl)

theorem write_terms_1_eq (base : Nat) (G : Nat → Nat → Option Value) (call : CallF) (fuel : Nat) : ∀ (t : FT) (s : St), (Ev base G).codeK call fuel false (cb (cr (cl (cr (cr (cb (cr (codeOf Tryz.f40)))))))) [] t s (blkK 0 (thenK false (fun d t s => (Ev base G).codeK call fuel false (cr (cr (cr (cb (cr (codeOf Tryz.f40)))))) d t s (lastK (Ev base G) call fuel false Tryz.f40.results.toList)) (lastK (Ev base G) call fuel false Tryz.f40.results.toList))) = write_terms_1 (Ev base G) call fuel fuel (t 0) (t 1) (t 2) (t 9) (t 15) (t 16) (t 17) s :=
  nfLF (F := fun n t s => write_terms_1 (Ev base G) call fuel n (t 0) (t 1) (t 2) (t 9) (t 15) (t 16) (t 17) s) (by kernel_rfl) (fun _ _ => by kernel_rfl) (fun n t s => (write_terms_2_eq base G call fuel (write_terms_1 (Ev base G) call fuel n) t s).trans (by kernel_rfl))

theorem write_terms_0_eq (base : Nat) (G : Nat → Nat → Option Value) (call : CallF) (fuel : Nat) : ∀ (t : FT) (s : St), (Ev base G).codeK call fuel false (codeOf Tryz.f40) [] t s (lastK (Ev base G) call fuel false Tryz.f40.results.toList) = write_terms_0 (Ev base G) call fuel (t 0) (t 1) (t 2) (t 3) s :=
  fun t s => ((nfSF (by kernel_rfl) (nfOF (by kernel_rfl) (nfSF (by kernel_rfl) (nfSF (by kernel_rfl) (nfSF (by kernel_rfl) nfRF (nfSF (by kernel_rfl) (nfBF 0 (by kernel_rfl) (write_terms_1_eq base G call fuel)) nfRF)) nfRF) nfRF)) nfRF) t s).trans (by kernel_rfl)

theorem write_terms_eq (base : Nat) (G : Nat → Nat → Option Value) (call : CallF) (fuel : Nat) (x0 x1 x2 x3 : Value) (σ : St) : (Ev base G).funK call fuel false Tryz.f40 [x0, x1, x2, x3] σ = write_terms (Ev base G) call fuel x0 x1 x2 x3 σ :=
  (show _ = (Ev base G).codeK call fuel false (codeOf Tryz.f40) [] (argF [x0, x1, x2, x3]) σ (lastK (Ev base G) call fuel false Tryz.f40.results.toList) by kernel_rfl).trans ((write_terms_0_eq base G call fuel (argF [x0, x1, x2, x3]) σ).trans (by kernel_rfl))
theorem write_terms_lf (base : Nat) (G : Nat → Nat → Option Value) : LeafOK (Ev base G) 40 (fun call fuel l σ => a4 l fun x0 x1 x2 x3 => (write_terms (Ev base G) call fuel x0 x1 x2 x3 σ)) :=
  leaf4 (L := false) ⟨Tryz.func40, by kernel_rfl, by kernel_rfl⟩ (fun call fuel x0 x1 x2 x3 σ => write_terms_eq base G call fuel x0 x1 x2 x3 σ)

/-! 41: plover/write.needs -/
theorem write_needs_1_eq (base : Nat) (G : Nat → Nat → Option Value) (call : CallF) (fuel : Nat) : ∀ (t : FT) (s : St), (Ev base G).codeK call fuel false (cr (cr (cr (cr (codeOf Tryz.f41))))) [] t s (lastK (Ev base G) call fuel false Tryz.f41.results.toList) = write_needs_1 (Ev base G) call fuel (t 5) (t 6) (t 7) s :=
  fun t s => (nfRF t s).trans (by kernel_rfl)

theorem write_needs_4_eq (base : Nat) (G : Nat → Nat → Option Value) (call : CallF) (fuel : Nat) (r3 : Value → Value → Value → Value → Value → Value → Value → St → R) : ∀ (t : FT) (s : St), (Ev base G).codeK call fuel false (cr (cr (cr (cb (cb (cr (cl (cr (cr (cr (codeOf Tryz.f41))))))))))) [] t s (thenK false (fun _ t s => r3 (t 2) (t 5) (t 6) (t 7) (t 12) (t 13) (t 14) s) (blkK 0 (thenK false (fun _ t s => write_needs_1 (Ev base G) call fuel (t 5) (t 6) (t 7) s) (lastK (Ev base G) call fuel false Tryz.f41.results.toList)))) = write_needs_4 (Ev base G) call fuel r3 (t 2) (t 5) (t 6) (t 7) (t 12) (t 13) (t 14) s :=
  fun t s => (nfRF t s).trans (by kernel_rfl)

theorem write_needs_7_eq (base : Nat) (G : Nat → Nat → Option Value) (call : CallF) (fuel : Nat) (r3 : Value → Value → Value → Value → Value → Value → Value → St → R) (r7 : Value → Value → Value → Value → Value → Value → Value → Value → Value → St → R) : ∀ (t : FT) (s : St), (Ev base G).codeK call fuel false (cb (cb (cr (cr (cr (cb (cl (cr (cr (cb (cb (cr (cl (cr (cr (cr (codeOf Tryz.f41))))))))))))))))) [] t s (thenK false (fun _ t s => r7 (t 2) (t 5) (t 6) (t 7) (t 12) (t 13) (t 14) (t 37) (t 38) s) (blkK 2 (blkK 1 (thenK false (fun _ t s => write_needs_4 (Ev base G) call fuel r3 (t 2) (t 5) (t 6) (t 7) (t 12) (t 13) (t 14) s) (thenK false (fun _ t s => r3 (t 2) (t 5) (t 6) (t 7) (t 12) (t 13) (t 14) s) (blkK 0 (thenK false (fun _ t s => write_needs_1 (Ev base G) call fuel (t 5) (t 6) (t 7) s) (lastK (Ev base G) call fuel false Tryz.f41.results.toList)))))))) = write_needs_7 (Ev base G) call fuel r3 r7 (t 2) (t 5) (t 6) (t 7) (t 12) (t 13) (t 14) (t 37) (t 38) s :=
  fun t s => (nfRF t s).trans (by kernel_rfl)

theorem write_needs_6_eq (base : Nat) (G : Nat → Nat → Option Value) (call : CallF) (fuel : Nat) (r3 : Value → Value → Value → Value → Value → Value → Value → St → R) : ∀ (t : FT) (s : St), (Ev base G).codeK call fuel false (cb (cr (cr (cr (cb (cl (cr (cr (cb (cb (cr (cl (cr (cr (cr (codeOf Tryz.f41)))))))))))))))) [] t s (blkK 2 (blkK 1 (thenK false (fun _ t s => write_needs_4 (Ev base G) call fuel r3 (t 2) (t 5) (t 6) (t 7) (t 12) (t 13) (t 14) s) (thenK false (fun _ t s => r3 (t 2) (t 5) (t 6) (t 7) (t 12) (t 13) (t 14) s) (blkK 0 (thenK false (fun _ t s => write_needs_1 (Ev base G) call fuel (t 5) (t 6) (t 7) s) (lastK (Ev base G) call fuel false Tryz.f41.results.toList))))))) = write_needs_6 (Ev base G) call fuel r3 fuel (t 2) (t 5) (t 6) (t 7) (t 12) (t 13) (t 14) (t 37) (t 38) s :=
  nfLF (F := fun n t s => write_needs_6 (Ev base G) call fuel r3 n (t 2) (t 5) (t 6) (t 7) (t 12) (t 13) (t 14) (t 37) (t 38) s) (by kernel_rfl) (fun _ _ => by kernel_rfl) (fun n t s => (write_needs_7_eq base G call fuel r3 (write_needs_6 (Ev base G) call fuel r3 n) t s).trans (by kernel_rfl))

theorem write_needs_5_eq (base : Nat) (G : Nat → Nat → Option Value) (call : CallF) (fuel : Nat) (r3 : Value → Value → Value → Value → Value → Value → Value → St → R) : ∀ (t : FT) (s : St), (Ev base G).codeK call fuel false (cr (cr (cb (cl (cr (cr (cb (cb (cr (cl (cr (cr (cr (codeOf Tryz.f41)))))))))))))) [] t s (blkK 1 (thenK false (fun _ t s => write_needs_4 (Ev base G) call fuel r3 (t 2) (t 5) (t 6) (t 7) (t 12) (t 13) (t 14) s) (thenK false (fun _ t s => r3 (t 2) (t 5) (t 6) (t 7) (t 12) (t 13) (t 14) s) (blkK 0 (thenK false (fun _ t s => write_needs_1 (Ev base G) call fuel (t 5) (t 6) (t 7) s) (lastK (Ev base G) call fuel false Tryz.f41.results.toList)))))) = write_needs_5 (Ev base G) call fuel r3 (t 2) (t 5) (t 6) (t 7) (t 9) (t 12) (t 13) (t 14) s :=
  fun t s => ((nfSF (by kernel_rfl) (nfBF 2 (by kernel_rfl) (write_needs_6_eq base G call fuel r3)) nfRF) t s).trans (by kernel_rfl)

theorem write_needs_3_eq (base : Nat) (G : Nat → Nat → Option Value) (call : CallF) (fuel : Nat) (r3 : Value → Value → Value → Value → Value → Value → Value → St → R) : ∀ (t : FT) (s : St), (Ev base G).codeK call fuel false (cb (cb (cr (cl (cr (cr (cr (codeOf Tryz.f41)))))))) [] t s (thenK false (fun _ t s => r3 (t 2) (t 5) (t 6) (t 7) (t 12) (t 13) (t 14) s) (blkK 0 (thenK false (fun _ t s => write_needs_1 (Ev base G) call fuel (t 5) (t 6) (t 7) s) (lastK (Ev base G) call fuel false Tryz.f41.results.toList)))) = write_needs_3 (Ev base G) call fuel r3 (t 2) (t 5) (t 6) (t 7) (t 12) (t 13) (t 14) s :=
  fun t s => ((nfSF (by kernel_rfl) (nfSF (by kernel_rfl) (nfSF (by kernel_rfl) (write_needs_4_eq base G call fuel r3) (nfBF 1 (by kernel_rfl) (nfSF (by kernel_rfl) (nfSF (by kernel_rfl) (write_needs_5_eq base G call fuel r3) nfRF) nfRF))) nfRF) nfRF) t s).trans (by kernel_rfl)

theorem write_needs_2_eq (base : Nat) (G : Nat → Nat → Option Value) (call : CallF) (fuel : Nat) : ∀ (t : FT) (s : St), (Ev base G).codeK call fuel false (cb (cr (cl (cr (cr (cr (codeOf Tryz.f41))))))) [] t s (blkK 0 (thenK false (fun _ t s => write_needs_1 (Ev base G) call fuel (t 5) (t 6) (t 7) s) (lastK (Ev base G) call fuel false Tryz.f41.results.toList))) = write_needs_2 (Ev base G) call fuel fuel (t 2) (t 5) (t 6) (t 7) (t 12) (t 13) (t 14) s :=
  nfLF (F := fun n t s => write_needs_2 (Ev base G) call fuel n (t 2) (t 5) (t 6) (t 7) (t 12) (t 13) (t 14) s) (by kernel_rfl) (fun _ _ => by kernel_rfl) (fun n t s => (write_needs_3_eq base G call fuel (write_needs_2 (Ev base G) call fuel n) t s).trans (by kernel_rfl))

theorem write_needs_0_eq (base : Nat) (G : Nat → Nat → Option Value) (call : CallF) (fuel : Nat) : ∀ (t : FT) (s : St), (Ev base G).codeK call fuel false (codeOf Tryz.f41) [] t s (lastK (Ev base G) call fuel false Tryz.f41.results.toList) = write_needs_0 (Ev base G) call fuel (t 0) (t 1) s :=
  fun t s => ((nfSF (by kernel_rfl) (nfSF (by kernel_rfl) (nfSF (by kernel_rfl) (nfSF (by kernel_rfl) (write_needs_1_eq base G call fuel) (nfSF (by kernel_rfl) (nfBF 0 (by kernel_rfl) (write_needs_2_eq base G call fuel)) nfRF)) nfRF) nfRF) nfRF) t s).trans (by kernel_rfl)

theorem write_needs_eq (base : Nat) (G : Nat → Nat → Option Value) (call : CallF) (fuel : Nat) (x0 x1 : Value) (σ : St) : (Ev base G).funK call fuel false Tryz.f41 [x0, x1] σ = write_needs (Ev base G) call fuel x0 x1 σ :=
  (show _ = (Ev base G).codeK call fuel false (codeOf Tryz.f41) [] (argF [x0, x1]) σ (lastK (Ev base G) call fuel false Tryz.f41.results.toList) by kernel_rfl).trans ((write_needs_0_eq base G call fuel (argF [x0, x1]) σ).trans (by kernel_rfl))
theorem write_needs_lf (base : Nat) (G : Nat → Nat → Option Value) : LeafOK (Ev base G) 41 (fun call fuel l σ => a2 l fun x0 x1 => (write_needs (Ev base G) call fuel x0 x1 σ)) :=
  leaf2 (L := false) ⟨Tryz.func41, by kernel_rfl, by kernel_rfl⟩ (fun call fuel x0 x1 σ => write_needs_eq base G call fuel x0 x1 σ)

/-! 42: plover/pool.Fits -/
theorem pool_Fits_3_eq (base : Nat) (G : Nat → Nat → Option Value) (call : CallF) (fuel : Nat) (r2 : Value → Value → Value → Value → St → R) : ∀ (t : FT) (s : St), (Ev base G).codeK call fuel false (cr (cr (cr (cb (cb (cr (cl (cr (codeOf Tryz.f42))))))))) [] t s (thenK false (fun _ t s => r2 (t 4) (t 5) (t 10) (t 11) s) (blkK 0 (thenK false (fun d t s => (Ev base G).codeK call fuel false (cr (cr (codeOf Tryz.f42))) d t s (lastK (Ev base G) call fuel false Tryz.f42.results.toList)) (lastK (Ev base G) call fuel false Tryz.f42.results.toList)))) = pool_Fits_3 (Ev base G) call fuel r2 (t 4) (t 5) (t 10) (t 11) s :=
  fun t s => (nfRF t s).trans (by kernel_rfl)

theorem pool_Fits_4_eq (base : Nat) (G : Nat → Nat → Option Value) (call : CallF) (fuel : Nat) (r2 : Value → Value → Value → Value → St → R) : ∀ (t : FT) (s : St), (Ev base G).codeK call fuel false (cr (cr (cb (cl (cr (cr (cb (cb (cr (cl (cr (codeOf Tryz.f42)))))))))))) [] t s (blkK 1 (thenK false (fun _ t s => pool_Fits_3 (Ev base G) call fuel r2 (t 4) (t 5) (t 10) (t 11) s) (thenK false (fun _ t s => r2 (t 4) (t 5) (t 10) (t 11) s) (blkK 0 (thenK false (fun d t s => (Ev base G).codeK call fuel false (cr (cr (codeOf Tryz.f42))) d t s (lastK (Ev base G) call fuel false Tryz.f42.results.toList)) (lastK (Ev base G) call fuel false Tryz.f42.results.toList)))))) = pool_Fits_4 (Ev base G) call fuel r2 (t 4) (t 5) (t 10) (t 11) (t 42) s :=
  fun t s => (nfRF t s).trans (by kernel_rfl)

theorem pool_Fits_2_eq (base : Nat) (G : Nat → Nat → Option Value) (call : CallF) (fuel : Nat) (r2 : Value → Value → Value → Value → St → R) : ∀ (t : FT) (s : St), (Ev base G).codeK call fuel false (cb (cb (cr (cl (cr (codeOf Tryz.f42)))))) [] t s (thenK false (fun _ t s => r2 (t 4) (t 5) (t 10) (t 11) s) (blkK 0 (thenK false (fun d t s => (Ev base G).codeK call fuel false (cr (cr (codeOf Tryz.f42))) d t s (lastK (Ev base G) call fuel false Tryz.f42.results.toList)) (lastK (Ev base G) call fuel false Tryz.f42.results.toList)))) = pool_Fits_2 (Ev base G) call fuel r2 (t 4) (t 5) (t 10) (t 11) s :=
  fun t s => ((nfSF (by kernel_rfl) (nfSF (by kernel_rfl) (nfSF (by kernel_rfl) (pool_Fits_3_eq base G call fuel r2) (nfBF 1 (by kernel_rfl) (nfSF (by kernel_rfl) (nfSF (by kernel_rfl) (pool_Fits_4_eq base G call fuel r2) nfRF) nfRF))) nfRF) nfRF) t s).trans (by kernel_rfl)

theorem pool_Fits_1_eq (base : Nat) (G : Nat → Nat → Option Value) (call : CallF) (fuel : Nat) : ∀ (t : FT) (s : St), (Ev base G).codeK call fuel false (cb (cr (cl (cr (codeOf Tryz.f42))))) [] t s (blkK 0 (thenK false (fun d t s => (Ev base G).codeK call fuel false (cr (cr (codeOf Tryz.f42))) d t s (lastK (Ev base G) call fuel false Tryz.f42.results.toList)) (lastK (Ev base G) call fuel false Tryz.f42.results.toList))) = pool_Fits_1 (Ev base G) call fuel fuel (t 4) (t 5) (t 10) (t 11) s :=
  nfLF (F := fun n t s => pool_Fits_1 (Ev base G) call fuel n (t 4) (t 5) (t 10) (t 11) s) (by kernel_rfl) (fun _ _ => by kernel_rfl) (fun n t s => (pool_Fits_2_eq base G call fuel (pool_Fits_1 (Ev base G) call fuel n) t s).trans (by kernel_rfl))

theorem pool_Fits_0_eq (base : Nat) (G : Nat → Nat → Option Value) (call : CallF) (fuel : Nat) : ∀ (t : FT) (s : St), (Ev base G).codeK call fuel false (codeOf Tryz.f42) [] t s (lastK (Ev base G) call fuel false Tryz.f42.results.toList) = pool_Fits_0 (Ev base G) call fuel (t 0) (t 1) (t 2) s :=
  fun t s => ((nfSF (by kernel_rfl) (nfSF (by kernel_rfl) nfRF (nfSF (by kernel_rfl) (nfBF 0 (by kernel_rfl) (pool_Fits_1_eq base G call fuel)) nfRF)) nfRF) t s).trans (by kernel_rfl)

theorem pool_Fits_eq (base : Nat) (G : Nat → Nat → Option Value) (call : CallF) (fuel : Nat) (x0 x1 x2 : Value) (σ : St) : (Ev base G).funK call fuel false Tryz.f42 [x0, x1, x2] σ = pool_Fits (Ev base G) call fuel x0 x1 x2 σ :=
  (show _ = (Ev base G).codeK call fuel false (codeOf Tryz.f42) [] (argF [x0, x1, x2]) σ (lastK (Ev base G) call fuel false Tryz.f42.results.toList) by kernel_rfl).trans ((pool_Fits_0_eq base G call fuel (argF [x0, x1, x2]) σ).trans (by kernel_rfl))
theorem pool_Fits_lf (base : Nat) (G : Nat → Nat → Option Value) : LeafOK (Ev base G) 42 (fun call fuel l σ => a3 l fun x0 x1 x2 => (pool_Fits (Ev base G) call fuel x0 x1 x2 σ)) :=
  leaf3 (L := false) ⟨Tryz.func42, by kernel_rfl, by kernel_rfl⟩ (fun call fuel x0 x1 x2 σ => pool_Fits_eq base G call fuel x0 x1 x2 σ)

/-! 43: slices.Clone[[]plover/api.Seg,plover/api.Seg] -/
theorem slices_Clone_api_Seg_0_eq (base : Nat) (G : Nat → Nat → Option Value) (call : CallF) (fuel : Nat) : ∀ (t : FT) (s : St), (Ev base G).codeK call fuel false (codeOf Tryz.f43) [] t s (lastK (Ev base G) call fuel false Tryz.f43.results.toList) = slices_Clone_api_Seg_0 (Ev base G) call fuel (t 0) s :=
  fun t s => (nfRF t s).trans (by kernel_rfl)

theorem slices_Clone_api_Seg_eq (base : Nat) (G : Nat → Nat → Option Value) (call : CallF) (fuel : Nat) (x0 : Value) (σ : St) : (Ev base G).funK call fuel false Tryz.f43 [x0] σ = slices_Clone_api_Seg (Ev base G) call fuel x0 σ :=
  (show _ = (Ev base G).codeK call fuel false (codeOf Tryz.f43) [] (argF [x0]) σ (lastK (Ev base G) call fuel false Tryz.f43.results.toList) by kernel_rfl).trans ((slices_Clone_api_Seg_0_eq base G call fuel (argF [x0]) σ).trans (by kernel_rfl))
theorem slices_Clone_api_Seg_lf (base : Nat) (G : Nat → Nat → Option Value) : LeafOK (Ev base G) 43 (fun call fuel l σ => a1 l fun x0 => (slices_Clone_api_Seg (Ev base G) call fuel x0 σ)) :=
  leaf1 (L := false) ⟨Tryz.func43, by kernel_rfl, by kernel_rfl⟩ (fun call fuel x0 σ => slices_Clone_api_Seg_eq base G call fuel x0 σ)

/-! 44: plover/write.place1 -/
theorem write_place1_1_eq (base : Nat) (G : Nat → Nat → Option Value) (call : CallF) (fuel : Nat) : ∀ (t : FT) (s : St), (Ev base G).codeK call fuel false (cr (cr (cr (cr (codeOf Tryz.f44))))) [] t s (lastK (Ev base G) call fuel false Tryz.f44.results.toList) = write_place1_1 (Ev base G) call fuel (t 0) (t 4) (t 8) (t 9) (t 12) (t 14) (t 16) s :=
  fun t s => (nfRF t s).trans (by kernel_rfl)

theorem write_place1_0_eq (base : Nat) (G : Nat → Nat → Option Value) (call : CallF) (fuel : Nat) : ∀ (t : FT) (s : St), (Ev base G).codeK call fuel false (codeOf Tryz.f44) [] t s (lastK (Ev base G) call fuel false Tryz.f44.results.toList) = write_place1_0 (Ev base G) call fuel (t 0) (t 1) (t 2) (t 3) (t 4) (t 5) (t 6) s :=
  fun t s => ((nfSF (by kernel_rfl) (nfSF (by kernel_rfl) (nfSF (by kernel_rfl) (nfSF (by kernel_rfl) (write_place1_1_eq base G call fuel) nfRF) nfRF) nfRF) nfRF) t s).trans (by kernel_rfl)

theorem write_place1_eq (base : Nat) (G : Nat → Nat → Option Value) (call : CallF) (fuel : Nat) (x0 x1 x2 x3 x4 x5 x6 : Value) (σ : St) : (Ev base G).funK call fuel false Tryz.f44 [x0, x1, x2, x3, x4, x5, x6] σ = write_place1 (Ev base G) call fuel x0 x1 x2 x3 x4 x5 x6 σ :=
  (show _ = (Ev base G).codeK call fuel false (codeOf Tryz.f44) [] (argF [x0, x1, x2, x3, x4, x5, x6]) σ (lastK (Ev base G) call fuel false Tryz.f44.results.toList) by kernel_rfl).trans ((write_place1_0_eq base G call fuel (argF [x0, x1, x2, x3, x4, x5, x6]) σ).trans (by kernel_rfl))
theorem write_place1_lf (base : Nat) (G : Nat → Nat → Option Value) : LeafOK (Ev base G) 44 (fun call fuel l σ => a7 l fun x0 x1 x2 x3 x4 x5 x6 => (write_place1 (Ev base G) call fuel x0 x1 x2 x3 x4 x5 x6 σ)) :=
  leaf7 (L := false) ⟨Tryz.func44, by kernel_rfl, by kernel_rfl⟩ (fun call fuel x0 x1 x2 x3 x4 x5 x6 σ => write_place1_eq base G call fuel x0 x1 x2 x3 x4 x5 x6 σ)

/-! 45: plover/table.Lay -/
theorem table_Lay_0_eq (base : Nat) (G : Nat → Nat → Option Value) (call : CallF) (fuel : Nat) : ∀ (t : FT) (s : St), (Ev base G).codeK call fuel false (codeOf Tryz.f45) [] t s (lastK (Ev base G) call fuel false Tryz.f45.results.toList) = table_Lay_0 (Ev base G) call fuel (t 0) (t 1) (t 2) (t 3) (t 4) (t 5) s :=
  fun t s => (nfRF t s).trans (by kernel_rfl)

theorem table_Lay_eq (base : Nat) (G : Nat → Nat → Option Value) (call : CallF) (fuel : Nat) (x0 x1 x2 x3 x4 x5 : Value) (σ : St) : (Ev base G).funK call fuel false Tryz.f45 [x0, x1, x2, x3, x4, x5] σ = table_Lay (Ev base G) call fuel x0 x1 x2 x3 x4 x5 σ :=
  (show _ = (Ev base G).codeK call fuel false (codeOf Tryz.f45) [] (argF [x0, x1, x2, x3, x4, x5]) σ (lastK (Ev base G) call fuel false Tryz.f45.results.toList) by kernel_rfl).trans ((table_Lay_0_eq base G call fuel (argF [x0, x1, x2, x3, x4, x5]) σ).trans (by kernel_rfl))
theorem table_Lay_lf (base : Nat) (G : Nat → Nat → Option Value) : LeafOK (Ev base G) 45 (fun call fuel l σ => a6 l fun x0 x1 x2 x3 x4 x5 => (table_Lay (Ev base G) call fuel x0 x1 x2 x3 x4 x5 σ)) :=
  leaf6 (L := false) ⟨Tryz.func45, by kernel_rfl, by kernel_rfl⟩ (fun call fuel x0 x1 x2 x3 x4 x5 σ => table_Lay_eq base G call fuel x0 x1 x2 x3 x4 x5 σ)

/-! 46: (*plover/step.Run).Store -/
theorem step_Run_Store_0_eq (base : Nat) (G : Nat → Nat → Option Value) (call : CallF) (fuel : Nat) : ∀ (t : FT) (s : St), (Ev base G).codeK call fuel false (codeOf Tryz.f46) [] t s (lastK (Ev base G) call fuel false Tryz.f46.results.toList) = step_Run_Store_0 (Ev base G) call fuel (t 0) (t 1) (t 2) s :=
  fun t s => (nfRF t s).trans (by kernel_rfl)

theorem step_Run_Store_eq (base : Nat) (G : Nat → Nat → Option Value) (call : CallF) (fuel : Nat) (x0 x1 x2 : Value) (σ : St) : (Ev base G).funK call fuel false Tryz.f46 [x0, x1, x2] σ = step_Run_Store (Ev base G) call fuel x0 x1 x2 σ :=
  (show _ = (Ev base G).codeK call fuel false (codeOf Tryz.f46) [] (argF [x0, x1, x2]) σ (lastK (Ev base G) call fuel false Tryz.f46.results.toList) by kernel_rfl).trans ((step_Run_Store_0_eq base G call fuel (argF [x0, x1, x2]) σ).trans (by kernel_rfl))
theorem step_Run_Store_lf (base : Nat) (G : Nat → Nat → Option Value) : LeafOK (Ev base G) 46 (fun call fuel l σ => a3 l fun x0 x1 x2 => (step_Run_Store (Ev base G) call fuel x0 x1 x2 σ)) :=
  leaf3 (L := false) ⟨Tryz.func46, by kernel_rfl, by kernel_rfl⟩ (fun call fuel x0 x1 x2 σ => step_Run_Store_eq base G call fuel x0 x1 x2 σ)

/-! 51: plover/pool.Take -/
theorem pool_Take_1_eq (base : Nat) (G : Nat → Nat → Option Value) (call : CallF) (fuel : Nat) : ∀ (t : FT) (s : St), (Ev base G).codeK call fuel false (cr (cr (codeOf Tryz.f51))) [] t s (lastK (Ev base G) call fuel false Tryz.f51.results.toList) = pool_Take_1 (Ev base G) call fuel (t 2) (t 3) (t 4) (t 5) (t 9) s :=
  fun t s => (nfRF t s).trans (by kernel_rfl)

theorem pool_Take_2_eq (base : Nat) (G : Nat → Nat → Option Value) (call : CallF) (fuel : Nat) : ∀ (t : FT) (s : St), (Ev base G).codeK call fuel false (cr (cb (cl (cr (codeOf Tryz.f51))))) [] t s (blkK 0 (thenK false (fun _ t s => pool_Take_1 (Ev base G) call fuel (t 2) (t 3) (t 4) (t 5) (t 9) s) (lastK (Ev base G) call fuel false Tryz.f51.results.toList))) = pool_Take_2 (Ev base G) call fuel (t 2) (t 3) (t 4) (t 5) (t 9) (t 12) s :=
  fun t s => (nfRF t s).trans (by kernel_rfl)

theorem pool_Take_0_eq (base : Nat) (G : Nat → Nat → Option Value) (call : CallF) (fuel : Nat) : ∀ (t : FT) (s : St), (Ev base G).codeK call fuel false (codeOf Tryz.f51) [] t s (lastK (Ev base G) call fuel false Tryz.f51.results.toList) = pool_Take_0 (Ev base G) call fuel (t 0) (t 1) (t 2) (t 3) s :=
  fun t s => ((nfSF (by kernel_rfl) (nfSF (by kernel_rfl) (pool_Take_1_eq base G call fuel) (nfBF 0 (by kernel_rfl) (nfSF (by kernel_rfl) (pool_Take_2_eq base G call fuel) nfRF))) nfRF) t s).trans (by kernel_rfl)

theorem pool_Take_eq (base : Nat) (G : Nat → Nat → Option Value) (call : CallF) (fuel : Nat) (x0 x1 x2 x3 : Value) (σ : St) : (Ev base G).funK call fuel false Tryz.f51 [x0, x1, x2, x3] σ = pool_Take (Ev base G) call fuel x0 x1 x2 x3 σ :=
  (show _ = (Ev base G).codeK call fuel false (codeOf Tryz.f51) [] (argF [x0, x1, x2, x3]) σ (lastK (Ev base G) call fuel false Tryz.f51.results.toList) by kernel_rfl).trans ((pool_Take_0_eq base G call fuel (argF [x0, x1, x2, x3]) σ).trans (by kernel_rfl))
theorem pool_Take_lf (base : Nat) (G : Nat → Nat → Option Value) : LeafOK (Ev base G) 51 (fun call fuel l σ => a4 l fun x0 x1 x2 x3 => (pool_Take (Ev base G) call fuel x0 x1 x2 x3 σ)) :=
  leaf4 (L := false) ⟨Tryz.func51, by kernel_rfl, by kernel_rfl⟩ (fun call fuel x0 x1 x2 x3 σ => pool_Take_eq base G call fuel x0 x1 x2 x3 σ)

/-! 54: (*plover/step.Run).Load -/
theorem step_Run_Load_0_eq (base : Nat) (G : Nat → Nat → Option Value) (call : CallF) (fuel : Nat) : ∀ (t : FT) (s : St), (Ev base G).codeK call fuel false (codeOf Tryz.f54) [] t s (lastK (Ev base G) call fuel false Tryz.f54.results.toList) = step_Run_Load_0 (Ev base G) call fuel (t 0) (t 1) s :=
  fun t s => (nfRF t s).trans (by kernel_rfl)

theorem step_Run_Load_eq (base : Nat) (G : Nat → Nat → Option Value) (call : CallF) (fuel : Nat) (x0 x1 : Value) (σ : St) : (Ev base G).funK call fuel false Tryz.f54 [x0, x1] σ = step_Run_Load (Ev base G) call fuel x0 x1 σ :=
  (show _ = (Ev base G).codeK call fuel false (codeOf Tryz.f54) [] (argF [x0, x1]) σ (lastK (Ev base G) call fuel false Tryz.f54.results.toList) by kernel_rfl).trans ((step_Run_Load_0_eq base G call fuel (argF [x0, x1]) σ).trans (by kernel_rfl))
theorem step_Run_Load_lf (base : Nat) (G : Nat → Nat → Option Value) : LeafOK (Ev base G) 54 (fun call fuel l σ => a2 l fun x0 x1 => (step_Run_Load (Ev base G) call fuel x0 x1 σ)) :=
  leaf2 (L := false) ⟨Tryz.func54, by kernel_rfl, by kernel_rfl⟩ (fun call fuel x0 x1 σ => step_Run_Load_eq base G call fuel x0 x1 σ)

/-! 59: plover/pool.between -/
theorem pool_between_0_eq (base : Nat) (G : Nat → Nat → Option Value) (call : CallF) (fuel : Nat) : ∀ (t : FT) (s : St), (Ev base G).codeK call fuel false (codeOf Tryz.f59) [] t s (lastK (Ev base G) call fuel false Tryz.f59.results.toList) = pool_between_0 (Ev base G) call fuel (t 0) (t 1) (t 2) s :=
  fun t s => (nfRF t s).trans (by kernel_rfl)

theorem pool_between_eq (base : Nat) (G : Nat → Nat → Option Value) (call : CallF) (fuel : Nat) (x0 x1 x2 : Value) (σ : St) : (Ev base G).funK call fuel false Tryz.f59 [x0, x1, x2] σ = pool_between (Ev base G) call fuel x0 x1 x2 σ :=
  (show _ = (Ev base G).codeK call fuel false (codeOf Tryz.f59) [] (argF [x0, x1, x2]) σ (lastK (Ev base G) call fuel false Tryz.f59.results.toList) by kernel_rfl).trans ((pool_between_0_eq base G call fuel (argF [x0, x1, x2]) σ).trans (by kernel_rfl))
theorem pool_between_lf (base : Nat) (G : Nat → Nat → Option Value) : LeafOK (Ev base G) 59 (fun call fuel l σ => a3 l fun x0 x1 x2 => (pool_between (Ev base G) call fuel x0 x1 x2 σ)) :=
  leaf3 (L := false) ⟨Tryz.func59, by kernel_rfl, by kernel_rfl⟩ (fun call fuel x0 x1 x2 σ => pool_between_eq base G call fuel x0 x1 x2 σ)

/-! 60: (*plover/mem.Mem).Len -/
theorem mem_Mem_Len_0_eq (base : Nat) (G : Nat → Nat → Option Value) (call : CallF) (fuel : Nat) : ∀ (t : FT) (s : St), (Ev base G).codeK call fuel false (codeOf Tryz.f60) [] t s (lastK (Ev base G) call fuel false Tryz.f60.results.toList) = mem_Mem_Len_0 (Ev base G) call fuel (t 0) s :=
  fun t s => (nfRF t s).trans (by kernel_rfl)

theorem mem_Mem_Len_eq (base : Nat) (G : Nat → Nat → Option Value) (call : CallF) (fuel : Nat) (x0 : Value) (σ : St) : (Ev base G).funK call fuel false Tryz.f60 [x0] σ = mem_Mem_Len (Ev base G) call fuel x0 σ :=
  (show _ = (Ev base G).codeK call fuel false (codeOf Tryz.f60) [] (argF [x0]) σ (lastK (Ev base G) call fuel false Tryz.f60.results.toList) by kernel_rfl).trans ((mem_Mem_Len_0_eq base G call fuel (argF [x0]) σ).trans (by kernel_rfl))
theorem mem_Mem_Len_lf (base : Nat) (G : Nat → Nat → Option Value) : LeafOK (Ev base G) 60 (fun call fuel l σ => a1 l fun x0 => (mem_Mem_Len (Ev base G) call fuel x0 σ)) :=
  leaf1 (L := false) ⟨Tryz.func60, by kernel_rfl, by kernel_rfl⟩ (fun call fuel x0 σ => mem_Mem_Len_eq base G call fuel x0 σ)

/-! 61: (*plover/mem.Mem).Store -/
theorem mem_Mem_Store_1_eq (base : Nat) (G : Nat → Nat → Option Value) (call : CallF) (fuel : Nat) : ∀ (t : FT) (s : St), (Ev base G).codeK call fuel false (cr (cr (codeOf Tryz.f61))) [] t s (lastK (Ev base G) call fuel false Tryz.f61.results.toList) = mem_Mem_Store_1 (Ev base G) call fuel (t 0) (t 1) (t 2) s :=
  fun t s => (nfRF t s).trans (by kernel_rfl)

theorem mem_Mem_Store_2_eq (base : Nat) (G : Nat → Nat → Option Value) (call : CallF) (fuel : Nat) : ∀ (t : FT) (s : St), (Ev base G).codeK call fuel false (cr (cl (cr (codeOf Tryz.f61)))) [] t s (thenK false (fun _ t s => mem_Mem_Store_1 (Ev base G) call fuel (t 0) (t 1) (t 2) s) (lastK (Ev base G) call fuel false Tryz.f61.results.toList)) = mem_Mem_Store_2 (Ev base G) call fuel (t 0) (t 1) (t 2) (t 21) s :=
  fun t s => (nfRF t s).trans (by kernel_rfl)

theorem mem_Mem_Store_0_eq (base : Nat) (G : Nat → Nat → Option Value) (call : CallF) (fuel : Nat) : ∀ (t : FT) (s : St), (Ev base G).codeK call fuel false (codeOf Tryz.f61) [] t s (lastK (Ev base G) call fuel false Tryz.f61.results.toList) = mem_Mem_Store_0 (Ev base G) call fuel (t 0) (t 1) (t 2) s :=
  fun t s => ((nfSF (by kernel_rfl) (nfSF (by kernel_rfl) (mem_Mem_Store_1_eq base G call fuel) (nfSF (by kernel_rfl) (mem_Mem_Store_2_eq base G call fuel) nfRF)) nfRF) t s).trans (by kernel_rfl)

theorem mem_Mem_Store_eq (base : Nat) (G : Nat → Nat → Option Value) (call : CallF) (fuel : Nat) (x0 x1 x2 : Value) (σ : St) : (Ev base G).funK call fuel false Tryz.f61 [x0, x1, x2] σ = mem_Mem_Store (Ev base G) call fuel x0 x1 x2 σ :=
  (show _ = (Ev base G).codeK call fuel false (codeOf Tryz.f61) [] (argF [x0, x1, x2]) σ (lastK (Ev base G) call fuel false Tryz.f61.results.toList) by kernel_rfl).trans ((mem_Mem_Store_0_eq base G call fuel (argF [x0, x1, x2]) σ).trans (by kernel_rfl))
theorem mem_Mem_Store_lf (base : Nat) (G : Nat → Nat → Option Value) : LeafOK (Ev base G) 61 (fun call fuel l σ => a3 l fun x0 x1 x2 => (mem_Mem_Store (Ev base G) call fuel x0 x1 x2 σ)) :=
  leaf3 (L := false) ⟨Tryz.func61, by kernel_rfl, by kernel_rfl⟩ (fun call fuel x0 x1 x2 σ => mem_Mem_Store_eq base G call fuel x0 x1 x2 σ)

/-! 62: plover/token.Words -/
theorem token_Words_3_eq (base : Nat) (G : Nat → Nat → Option Value) (call : CallF) (fuel : Nat) (r2 : Value → Value → Value → Value → St → R) : ∀ (t : FT) (s : St), (Ev base G).codeK call fuel false (cr (cr (cb (cb (cr (cl (cr (cr (cr (cr (cb (cr (codeOf Tryz.f62))))))))))))) [] t s (thenK false (fun _ t s => r2 (t 3) (t 4) (t 5) (t 6) s) (blkK 0 (thenK false (fun d t s => (Ev base G).codeK call fuel false (cr (cr (cr (cr (cr (cb (cr (codeOf Tryz.f62)))))))) d t s (lastK (Ev base G) call fuel false Tryz.f62.results.toList)) (lastK (Ev base G) call fuel false Tryz.f62.results.toList)))) = token_Words_3 (Ev base G) call fuel r2 (t 3) (t 4) (t 5) (t 6) s :=
  fun t s => (nfRF t s).trans (by kernel_rfl)

theorem token_Words_4_eq (base : Nat) (G : Nat → Nat → Option Value) (call : CallF) (fuel : Nat) (r2 : Value → Value → Value → Value → St → R) : ∀ (t : FT) (s : St), (Ev base G).codeK call fuel false (cr (cr (cr (cb (cl (cr (cb (cb (cr (cl (cr (cr (cr (cr (cb (cr (codeOf Tryz.f62))))))))))))))))) [] t s (blkK 1 (thenK false (fun _ t s => token_Words_3 (Ev base G) call fuel r2 (t 3) (t 4) (t 5) (t 6) s) (thenK false (fun _ t s => r2 (t 3) (t 4) (t 5) (t 6) s) (blkK 0 (thenK false (fun d t s => (Ev base G).codeK call fuel false (cr (cr (cr (cr (cr (cb (cr (codeOf Tryz.f62)))))))) d t s (lastK (Ev base G) call fuel false Tryz.f62.results.toList)) (lastK (Ev base G) call fuel false Tryz.f62.results.toList)))))) = token_Words_4 (Ev base G) call fuel r2 (t 3) (t 4) (t 5) (t 6) (t 7) s :=
  fun t s => (nfRF t s).trans (by kernel_rfl)

theorem token_Words_7_eq (base : Nat) (G : Nat → Nat → Option Value) (call : CallF) (fuel : Nat) (r2 : Value → Value → Value → Value → St → R) (r6 : Value → Value → Value → Value → Value → St → R) : ∀ (t : FT) (s : St), (Ev base G).codeK call fuel false (cr (cb (cb (cl (cr (cr (cb (cl (cr (cb (cb (cr (cl (cr (cr (cr (cr (cb (cr (codeOf Tryz.f62)))))))))))))))))))) [] t s (thenK false (fun _ t s => r6 (t 3) (t 4) (t 5) (t 6) (t 7) s) (blkK 2 (thenK false (fun _ t s => token_Words_4 (Ev base G) call fuel r2 (t 3) (t 4) (t 5) (t 6) (t 7) s) (blkK 1 (thenK false (fun _ t s => token_Words_3 (Ev base G) call fuel r2 (t 3) (t 4) (t 5) (t 6) s) (thenK false (fun _ t s => r2 (t 3) (t 4) (t 5) (t 6) s) (blkK 0 (thenK false (fun d t s => (Ev base G).codeK call fuel false (cr (cr (cr (cr (cr (cb (cr (codeOf Tryz.f62)))))))) d t s (lastK (Ev base G) call fuel false Tryz.f62.results.toList)) (lastK (Ev base G) call fuel false Tryz.f62.results.toList))))))))) = token_Words_7 (Ev base G) call fuel r2 r6 (t 3) (t 4) (t 5) (t 6) (t 7) s :=
  fun t s => (nfRF t s).trans (by kernel_rfl)

theorem token_Words_8_eq (base : Nat) (G : Nat → Nat → Option Value) (call : CallF) (fuel : Nat) (r2 : Value → Value → Value → Value → St → R) (r6 : Value → Value → Value → Value → Value → St → R) : ∀ (t : FT) (s : St), (Ev base G).codeK call fuel false (cr (cl (cb (cb (cl (cr (cr (cb (cl (cr (cb (cb (cr (cl (cr (cr (cr (cr (cb (cr (codeOf Tryz.f62))))))))))))))))))))) [] t s (thenK false (fun _ t s => token_Words_7 (Ev base G) call fuel r2 r6 (t 3) (t 4) (t 5) (t 6) (t 7) s) (thenK false (fun _ t s => r6 (t 3) (t 4) (t 5) (t 6) (t 7) s) (blkK 2 (thenK false (fun _ t s => token_Words_4 (Ev base G) call fuel r2 (t 3) (t 4) (t 5) (t 6) (t 7) s) (blkK 1 (thenK false (fun _ t s => token_Words_3 (Ev base G) call fuel r2 (t 3) (t 4) (t 5) (t 6) s) (thenK false (fun _ t s => r2 (t 3) (t 4) (t 5) (t 6) s) (blkK 0 (thenK false (fun d t s => (Ev base G).codeK call fuel false (cr (cr (cr (cr (cr (cb (cr (codeOf Tryz.f62)))))))) d t s (lastK (Ev base G) call fuel false Tryz.f62.results.toList)) (lastK (Ev base G) call fuel false Tryz.f62.results.toList)))))))))) = token_Words_8 (Ev base G) call fuel r2 r6 (t 3) (t 4) (t 5) (t 6) (t 7) (t 34) s :=
  fun t s => (nfRF t s).trans (by kernel_rfl)

theorem token_Words_6_eq (base : Nat) (G : Nat → Nat → Option Value) (call : CallF) (fuel : Nat) (r2 : Value → Value → Value → Value → St → R) (r6 : Value → Value → Value → Value → Value → St → R) : ∀ (t : FT) (s : St), (Ev base G).codeK call fuel false (cb (cb (cl (cr (cr (cb (cl (cr (cb (cb (cr (cl (cr (cr (cr (cr (cb (cr (codeOf Tryz.f62))))))))))))))))))) [] t s (thenK false (fun _ t s => r6 (t 3) (t 4) (t 5) (t 6) (t 7) s) (blkK 2 (thenK false (fun _ t s => token_Words_4 (Ev base G) call fuel r2 (t 3) (t 4) (t 5) (t 6) (t 7) s) (blkK 1 (thenK false (fun _ t s => token_Words_3 (Ev base G) call fuel r2 (t 3) (t 4) (t 5) (t 6) s) (thenK false (fun _ t s => r2 (t 3) (t 4) (t 5) (t 6) s) (blkK 0 (thenK false (fun d t s => (Ev base G).codeK call fuel false (cr (cr (cr (cr (cr (cb (cr (codeOf Tryz.f62)))))))) d t s (lastK (Ev base G) call fuel false Tryz.f62.results.toList)) (lastK (Ev base G) call fuel false Tryz.f62.results.toList))))))))) = token_Words_6 (Ev base G) call fuel r2 r6 (t 3) (t 4) (t 5) (t 6) (t 7) s :=
  fun t s => ((nfSF (by kernel_rfl) (token_Words_7_eq base G call fuel r2 r6) (nfSF (by kernel_rfl) (token_Words_8_eq base G call fuel r2 r6) nfRF)) t s).trans (by kernel_rfl)

theorem token_Words_5_eq (base : Nat) (G : Nat → Nat → Option Value) (call : CallF) (fuel : Nat) (r2 : Value → Value → Value → Value → St → R) : ∀ (t : FT) (s : St), (Ev base G).codeK call fuel false (cb (cl (cr (cr (cb (cl (cr (cb (cb (cr (cl (cr (cr (cr (cr (cb (cr (codeOf Tryz.f62)))))))))))))))))) [] t s (blkK 2 (thenK false (fun _ t s => token_Words_4 (Ev base G) call fuel r2 (t 3) (t 4) (t 5) (t 6) (t 7) s) (blkK 1 (thenK false (fun _ t s => token_Words_3 (Ev base G) call fuel r2 (t 3) (t 4) (t 5) (t 6) s) (thenK false (fun _ t s => r2 (t 3) (t 4) (t 5) (t 6) s) (blkK 0 (thenK false (fun d t s => (Ev base G).codeK call fuel false (cr (cr (cr (cr (cr (cb (cr (codeOf Tryz.f62)))))))) d t s (lastK (Ev base G) call fuel false Tryz.f62.results.toList)) (lastK (Ev base G) call fuel false Tryz.f62.results.toList)))))))) = token_Words_5 (Ev base G) call fuel r2 fuel (t 3) (t 4) (t 5) (t 6) (t 7) s :=
  nfLF (F := fun n t s => token_Words_5 (Ev base G) call fuel r2 n (t 3) (t 4) (t 5) (t 6) (t 7) s) (by kernel_rfl) (fun _ _ => by kernel_rfl) (fun n t s => (token_Words_6_eq base G call fuel r2 (token_Words_5 (Ev base G) call fuel r2 n) t s).trans (by kernel_rfl))

theorem token_Words_2_eq (base : Nat) (G : Nat → Nat → Option Value) (call : CallF) (fuel : Nat) (r2 : Value → Value → Value → Value → St → R) : ∀ (t : FT) (s : St), (Ev base G).codeK call fuel false (cb (cb (cr (cl (cr (cr (cr (cr (cb (cr (codeOf Tryz.f62))))))))))) [] t s (thenK false (fun _ t s => r2 (t 3) (t 4) (t 5) (t 6) s) (blkK 0 (thenK false (fun d t s => (Ev base G).codeK call fuel false (cr (cr (cr (cr (cr (cb (cr (codeOf Tryz.f62)))))))) d t s (lastK (Ev base G) call fuel false Tryz.f62.results.toList)) (lastK (Ev base G) call fuel false Tryz.f62.results.toList)))) = token_Words_2 (Ev base G) call fuel r2 (t 3) (t 4) (t 5) (t 6) s :=
  fun t s => ((nfSF (by kernel_rfl) (nfSF (by kernel_rfl) (token_Words_3_eq base G call fuel r2) (nfBF 1 (by kernel_rfl) (nfSF (by kernel_rfl) (nfSF (by kernel_rfl) (nfSF (by kernel_rfl) (token_Words_4_eq base G call fuel r2) (nfBF 2 (by kernel_rfl) (token_Words_5_eq base G call fuel r2))) nfRF) nfRF))) nfRF) t s).trans (by kernel_rfl)

theorem token_Words_1_eq (base : Nat) (G : Nat → Nat → Option Value) (call : CallF) (fuel : Nat) : ∀ (t : FT) (s : St), (Ev base G).codeK call fuel false (cb (cr (cl (cr (cr (cr (cr (cb (cr (codeOf Tryz.f62)))))))))) [] t s (blkK 0 (thenK false (fun d t s => (Ev base G).codeK call fuel false (cr (cr (cr (cr (cr (cb (cr (codeOf Tryz.f62)))))))) d t s (lastK (Ev base G) call fuel false Tryz.f62.results.toList)) (lastK (Ev base G) call fuel false Tryz.f62.results.toList))) = token_Words_1 (Ev base G) call fuel fuel (t 3) (t 4) (t 5) (t 6) s :=
  nfLF (F := fun n t s => token_Words_1 (Ev base G) call fuel n (t 3) (t 4) (t 5) (t 6) s) (by kernel_rfl) (fun _ _ => by kernel_rfl) (fun n t s => (token_Words_2_eq base G call fuel (token_Words_1 (Ev base G) call fuel n) t s).trans (by kernel_rfl))

theorem token_Words_0_eq (base : Nat) (G : Nat → Nat → Option Value) (call : CallF) (fuel : Nat) : ∀ (t : FT) (s : St), (Ev base G).codeK call fuel false (codeOf Tryz.f62) [] t s (lastK (Ev base G) call fuel false Tryz.f62.results.toList) = token_Words_0 (Ev base G) call fuel (t 0) s :=
  fun t s => ((nfSF (by kernel_rfl) (nfOF (by kernel_rfl) (nfSF (by kernel_rfl) (nfSF (by kernel_rfl) (nfSF (by kernel_rfl) (nfSF (by kernel_rfl) (nfSF (by kernel_rfl) nfRF (nfSF (by kernel_rfl) (nfBF 0 (by kernel_rfl) (token_Words_1_eq base G call fuel)) nfRF)) nfRF) nfRF) nfRF) nfRF)) nfRF) t s).trans (by kernel_rfl)

theorem token_Words_eq (base : Nat) (G : Nat → Nat → Option Value) (call : CallF) (fuel : Nat) (x0 : Value) (σ : St) : (Ev base G).funK call fuel false Tryz.f62 [x0] σ = token_Words (Ev base G) call fuel x0 σ :=
  (show _ = (Ev base G).codeK call fuel false (codeOf Tryz.f62) [] (argF [x0]) σ (lastK (Ev base G) call fuel false Tryz.f62.results.toList) by kernel_rfl).trans ((token_Words_0_eq base G call fuel (argF [x0]) σ).trans (by kernel_rfl))
theorem token_Words_lf (base : Nat) (G : Nat → Nat → Option Value) : LeafOK (Ev base G) 62 (fun call fuel l σ => a1 l fun x0 => (token_Words (Ev base G) call fuel x0 σ)) :=
  leaf1 (L := false) ⟨Tryz.func62, by kernel_rfl, by kernel_rfl⟩ (fun call fuel x0 σ => token_Words_eq base G call fuel x0 σ)

/-! 63: plover/table.Find -/
theorem table_Find_2_eq (base : Nat) (G : Nat → Nat → Option Value) (call : CallF) (fuel : Nat) (r2 : Value → Value → Value → Value → Value → St → R) : ∀ (t : FT) (s : St), (Ev base G).codeK call fuel false (cb (cb (cr (cl (cr (codeOf Tryz.f63)))))) [] t s (thenK false (fun _ t s => r2 (t 0) (t 1) (t 3) (t 11) (t 12) s) (blkK 0 (thenK false (fun d t s => (Ev base G).codeK call fuel false (cr (cr (codeOf Tryz.f63))) d t s (lastK (Ev base G) call fuel false Tryz.f63.results.toList)) (lastK (Ev base G) call fuel false Tryz.f63.results.toList)))) = table_Find_2 (Ev base G) call fuel r2 (t 0) (t 1) (t 3) (t 11) (t 12) s :=
  fun t s => (nfRF t s).trans (by kernel_rfl)

theorem table_Find_1_eq (base : Nat) (G : Nat → Nat → Option Value) (call : CallF) (fuel : Nat) : ∀ (t : FT) (s : St), (Ev base G).codeK call fuel false (cb (cr (cl (cr (codeOf Tryz.f63))))) [] t s (blkK 0 (thenK false (fun d t s => (Ev base G).codeK call fuel false (cr (cr (codeOf Tryz.f63))) d t s (lastK (Ev base G) call fuel false Tryz.f63.results.toList)) (lastK (Ev base G) call fuel false Tryz.f63.results.toList))) = table_Find_1 (Ev base G) call fuel fuel (t 0) (t 1) (t 3) (t 11) (t 12) s :=
  nfLF (F := fun n t s => table_Find_1 (Ev base G) call fuel n (t 0) (t 1) (t 3) (t 11) (t 12) s) (by kernel_rfl) (fun _ _ => by kernel_rfl) (fun n t s => (table_Find_2_eq base G call fuel (table_Find_1 (Ev base G) call fuel n) t s).trans (by kernel_rfl))

theorem table_Find_0_eq (base : Nat) (G : Nat → Nat → Option Value) (call : CallF) (fuel : Nat) : ∀ (t : FT) (s : St), (Ev base G).codeK call fuel false (codeOf Tryz.f63) [] t s (lastK (Ev base G) call fuel false Tryz.f63.results.toList) = table_Find_0 (Ev base G) call fuel (t 0) (t 1) (t 2) (t 3) s :=
  fun t s => ((nfSF (by kernel_rfl) (nfSF (by kernel_rfl) nfRF (nfSF (by kernel_rfl) (nfBF 0 (by kernel_rfl) (table_Find_1_eq base G call fuel)) nfRF)) nfRF) t s).trans (by kernel_rfl)

theorem table_Find_eq (base : Nat) (G : Nat → Nat → Option Value) (call : CallF) (fuel : Nat) (x0 x1 x2 x3 : Value) (σ : St) : (Ev base G).funK call fuel false Tryz.f63 [x0, x1, x2, x3] σ = table_Find (Ev base G) call fuel x0 x1 x2 x3 σ :=
  (show _ = (Ev base G).codeK call fuel false (codeOf Tryz.f63) [] (argF [x0, x1, x2, x3]) σ (lastK (Ev base G) call fuel false Tryz.f63.results.toList) by kernel_rfl).trans ((table_Find_0_eq base G call fuel (argF [x0, x1, x2, x3]) σ).trans (by kernel_rfl))
theorem table_Find_lf (base : Nat) (G : Nat → Nat → Option Value) : LeafOK (Ev base G) 63 (fun call fuel l σ => a4 l fun x0 x1 x2 x3 => (table_Find (Ev base G) call fuel x0 x1 x2 x3 σ)) :=
  leaf4 (L := false) ⟨Tryz.func63, by kernel_rfl, by kernel_rfl⟩ (fun call fuel x0 x1 x2 x3 σ => table_Find_eq base G call fuel x0 x1 x2 x3 σ)

/-! 64: plover/pack.Key -/
theorem pack_Key_0_eq (base : Nat) (G : Nat → Nat → Option Value) (call : CallF) (fuel : Nat) : ∀ (t : FT) (s : St), (Ev base G).codeK call fuel false (codeOf Tryz.f64) [] t s (lastK (Ev base G) call fuel false Tryz.f64.results.toList) = pack_Key_0 (Ev base G) call fuel (t 0) (t 1) s :=
  fun t s => (nfRF t s).trans (by kernel_rfl)

theorem pack_Key_eq (base : Nat) (G : Nat → Nat → Option Value) (call : CallF) (fuel : Nat) (x0 x1 : Value) (σ : St) : (Ev base G).funK call fuel false Tryz.f64 [x0, x1] σ = pack_Key (Ev base G) call fuel x0 x1 σ :=
  (show _ = (Ev base G).codeK call fuel false (codeOf Tryz.f64) [] (argF [x0, x1]) σ (lastK (Ev base G) call fuel false Tryz.f64.results.toList) by kernel_rfl).trans ((pack_Key_0_eq base G call fuel (argF [x0, x1]) σ).trans (by kernel_rfl))
theorem pack_Key_lf (base : Nat) (G : Nat → Nat → Option Value) : LeafOK (Ev base G) 64 (fun call fuel l σ => a2 l fun x0 x1 => (pack_Key (Ev base G) call fuel x0 x1 σ)) :=
  leaf2 (L := false) ⟨Tryz.func64, by kernel_rfl, by kernel_rfl⟩ (fun call fuel x0 x1 σ => pack_Key_eq base G call fuel x0 x1 σ)

/-! 65: plover/dict.Find -/
theorem dict_Find_3_eq (base : Nat) (G : Nat → Nat → Option Value) (call : CallF) (fuel : Nat) (r2 : Value → Value → Value → Value → Value → Value → Value → Value → St → R) : ∀ (t : FT) (s : St), (Ev base G).codeK call fuel false (cr (cr (cr (cb (cb (cr (cl (cr (cr (cr (cr (cb (cr (codeOf Tryz.f65)))))))))))))) [] t s (thenK false (fun _ t s => r2 (t 0) (t 1) (t 2) (t 3) (t 10) (t 11) (t 28) (t 29) s) (blkK 0 (thenK false (fun d t s => (Ev base G).codeK call fuel false (cr (cr (cr (cr (cr (cb (cr (codeOf Tryz.f65)))))))) d t s (lastK (Ev base G) call fuel false Tryz.f65.results.toList)) (lastK (Ev base G) call fuel false Tryz.f65.results.toList)))) = dict_Find_3 (Ev base G) call fuel r2 (t 0) (t 1) (t 2) (t 3) (t 10) (t 11) (t 28) (t 29) s :=
  fun t s => (nfRF t s).trans (by kernel_rfl)

theorem dict_Find_6_eq (base : Nat) (G : Nat → Nat → Option Value) (call : CallF) (fuel : Nat) (r2 : Value → Value → Value → Value → Value → Value → Value → Value → St → R) (r5 : Value → Value → Value → Value → Value → Value → Value → Value → Value → Value → Value → Value → Value → St → R) : ∀ (t : FT) (s : St), (Ev base G).codeK call fuel false (cr (cr (cr (cb (cb (cr (cl (cr (cr (cr (cr (cb (cl (cr (cr (cb (cb (cr (cl (cr (cr (cr (cr (cb (cr (codeOf Tryz.f65)))))))))))))))))))))))))) [] t s (thenK false (fun _ t s => r5 (t 0) (t 1) (t 2) (t 3) (t 10) (t 11) (t 13) (t 14) (t 28) (t 29) (t 59) (t 60) (t 61) s) (blkK 3 (thenK false (fun d t s => (Ev base G).codeK call fuel false (cr (cr (cr (cr (cr (cb (cl (cr (cr (cb (cb (cr (cl (cr (cr (cr (cr (cb (cr (codeOf Tryz.f65)))))))))))))))))))) d t s (blkK 1 (thenK false (fun _ t s => dict_Find_3 (Ev base G) call fuel r2 (t 0) (t 1) (t 2) (t 3) (t 10) (t 11) (t 28) (t 29) s) (thenK false (fun _ t s => r2 (t 0) (t 1) (t 2) (t 3) (t 10) (t 11) (t 28) (t 29) s) (blkK 0 (thenK false (fun d t s => (Ev base G).codeK call fuel false (cr (cr (cr (cr (cr (cb (cr (codeOf Tryz.f65)))))))) d t s (lastK (Ev base G) call fuel false Tryz.f65.results.toList)) (lastK (Ev base G) call fuel false Tryz.f65.results.toList))))))) (blkK 1 (thenK false (fun _ t s => dict_Find_3 (Ev base G) call fuel r2 (t 0) (t 1) (t 2) (t 3) (t 10) (t 11) (t 28) (t 29) s) (thenK false (fun _ t s => r2 (t 0) (t 1) (t 2) (t 3) (t 10) (t 11) (t 28) (t 29) s) (blkK 0 (thenK false (fun d t s => (Ev base G).codeK call fuel false (cr (cr (cr (cr (cr (cb (cr (codeOf Tryz.f65)))))))) d t s (lastK (Ev base G) call fuel false Tryz.f65.results.toList)) (lastK (Ev base G) call fuel false Tryz.f65.results.toList))))))))) = dict_Find_6 (Ev base G) call fuel r2 r5 (t 0) (t 1) (t 2) (t 3) (t 10) (t 11) (t 13) (t 14) (t 28) (t 29) (t 59) (t 60) (t 61) s :=
  fun t s => (nfRF t s).trans (by kernel_rfl)

theorem dict_Find_7_eq (base : Nat) (G : Nat → Nat → Option Value) (call : CallF) (fuel : Nat) (r2 : Value → Value → Value → Value → Value → Value → Value → Value → St → R) (r5 : Value → Value → Value → Value → Value → Value → Value → Value → Value → Value → Value → Value → Value → St → R) : ∀ (t : FT) (s : St), (Ev base G).codeK call fuel false (cr (cr (cb (cl (cr (cr (cb (cb (cr (cl (cr (cr (cr (cr (cb (cl (cr (cr (cb (cb (cr (cl (cr (cr (cr (cr (cb (cr (codeOf Tryz.f65))))))))))))))))))))))))))))) [] t s (blkK 4 (thenK false (fun _ t s => dict_Find_6 (Ev base G) call fuel r2 r5 (t 0) (t 1) (t 2) (t 3) (t 10) (t 11) (t 13) (t 14) (t 28) (t 29) (t 59) (t 60) (t 61) s) (thenK false (fun _ t s => r5 (t 0) (t 1) (t 2) (t 3) (t 10) (t 11) (t 13) (t 14) (t 28) (t 29) (t 59) (t 60) (t 61) s) (blkK 3 (thenK false (fun d t s => (Ev base G).codeK call fuel false (cr (cr (cr (cr (cr (cb (cl (cr (cr (cb (cb (cr (cl (cr (cr (cr (cr (cb (cr (codeOf Tryz.f65)))))))))))))))))))) d t s (blkK 1 (thenK false (fun _ t s => dict_Find_3 (Ev base G) call fuel r2 (t 0) (t 1) (t 2) (t 3) (t 10) (t 11) (t 28) (t 29) s) (thenK false (fun _ t s => r2 (t 0) (t 1) (t 2) (t 3) (t 10) (t 11) (t 28) (t 29) s) (blkK 0 (thenK false (fun d t s => (Ev base G).codeK call fuel false (cr (cr (cr (cr (cr (cb (cr (codeOf Tryz.f65)))))))) d t s (lastK (Ev base G) call fuel false Tryz.f65.results.toList)) (lastK (Ev base G) call fuel false Tryz.f65.results.toList))))))) (blkK 1 (thenK false (fun _ t s => dict_Find_3 (Ev base G) call fuel r2 (t 0) (t 1) (t 2) (t 3) (t 10) (t 11) (t 28) (t 29) s) (thenK false (fun _ t s => r2 (t 0) (t 1) (t 2) (t 3) (t 10) (t 11) (t 28) (t 29) s) (blkK 0 (thenK false (fun d t s => (Ev base G).codeK call fuel false (cr (cr (cr (cr (cr (cb (cr (codeOf Tryz.f65)))))))) d t s (lastK (Ev base G) call fuel false Tryz.f65.results.toList)) (lastK (Ev base G) call fuel false Tryz.f65.results.toList))))))))))) = dict_Find_7 (Ev base G) call fuel r2 r5 (t 0) (t 1) (t 2) (t 3) (t 10) (t 11) (t 13) (t 14) (t 28) (t 29) (t 59) (t 60) (t 61) (t 77) s :=
  fun t s => (nfRF t s).trans (by kernel_rfl)

theorem dict_Find_5_eq (base : Nat) (G : Nat → Nat → Option Value) (call : CallF) (fuel : Nat) (r2 : Value → Value → Value → Value → Value → Value → Value → Value → St → R) (r5 : Value → Value → Value → Value → Value → Value → Value → Value → Value → Value → Value → Value → Value → St → R) : ∀ (t : FT) (s : St), (Ev base G).codeK call fuel false (cb (cb (cr (cl (cr (cr (cr (cr (cb (cl (cr (cr (cb (cb (cr (cl (cr (cr (cr (cr (cb (cr (codeOf Tryz.f65))))))))))))))))))))))) [] t s (thenK false (fun _ t s => r5 (t 0) (t 1) (t 2) (t 3) (t 10) (t 11) (t 13) (t 14) (t 28) (t 29) (t 59) (t 60) (t 61) s) (blkK 3 (thenK false (fun d t s => (Ev base G).codeK call fuel false (cr (cr (cr (cr (cr (cb (cl (cr (cr (cb (cb (cr (cl (cr (cr (cr (cr (cb (cr (codeOf Tryz.f65)))))))))))))))))))) d t s (blkK 1 (thenK false (fun _ t s => dict_Find_3 (Ev base G) call fuel r2 (t 0) (t 1) (t 2) (t 3) (t 10) (t 11) (t 28) (t 29) s) (thenK false (fun _ t s => r2 (t 0) (t 1) (t 2) (t 3) (t 10) (t 11) (t 28) (t 29) s) (blkK 0 (thenK false (fun d t s => (Ev base G).codeK call fuel false (cr (cr (cr (cr (cr (cb (cr (codeOf Tryz.f65)))))))) d t s (lastK (Ev base G) call fuel false Tryz.f65.results.toList)) (lastK (Ev base G) call fuel false Tryz.f65.results.toList))))))) (blkK 1 (thenK false (fun _ t s => dict_Find_3 (Ev base G) call fuel r2 (t 0) (t 1) (t 2) (t 3) (t 10) (t 11) (t 28) (t 29) s) (thenK false (fun _ t s => r2 (t 0) (t 1) (t 2) (t 3) (t 10) (t 11) (t 28) (t 29) s) (blkK 0 (thenK false (fun d t s => (Ev base G).codeK call fuel false (cr (cr (cr (cr (cr (cb (cr (codeOf Tryz.f65)))))))) d t s (lastK (Ev base G) call fuel false Tryz.f65.results.toList)) (lastK (Ev base G) call fuel false Tryz.f65.results.toList))))))))) = dict_Find_5 (Ev base G) call fuel r2 r5 (t 0) (t 1) (t 2) (t 3) (t 10) (t 11) (t 13) (t 14) (t 28) (t 29) (t 59) (t 60) (t 61) s :=
  fun t s => ((nfSF (by kernel_rfl) (nfSF (by kernel_rfl) (nfSF (by kernel_rfl) (dict_Find_6_eq base G call fuel r2 r5) (nfBF 4 (by kernel_rfl) (nfSF (by kernel_rfl) (nfSF (by kernel_rfl) (dict_Find_7_eq base G call fuel r2 r5) nfRF) nfRF))) nfRF) nfRF) t s).trans (by kernel_rfl)

theorem dict_Find_4_eq (base : Nat) (G : Nat → Nat → Option Value) (call : CallF) (fuel : Nat) (r2 : Value → Value → Value → Value → Value → Value → Value → Value → St → R) : ∀ (t : FT) (s : St), (Ev base G).codeK call fuel false (cb (cr (cl (cr (cr (cr (cr (cb (cl (cr (cr (cb (cb (cr (cl (cr (cr (cr (cr (cb (cr (codeOf Tryz.f65)))))))))))))))))))))) [] t s (blkK 3 (thenK false (fun d t s => (Ev base G).codeK call fuel false (cr (cr (cr (cr (cr (cb (cl (cr (cr (cb (cb (cr (cl (cr (cr (cr (cr (cb (cr (codeOf Tryz.f65)))))))))))))))))))) d t s (blkK 1 (thenK false (fun _ t s => dict_Find_3 (Ev base G) call fuel r2 (t 0) (t 1) (t 2) (t 3) (t 10) (t 11) (t 28) (t 29) s) (thenK false (fun _ t s => r2 (t 0) (t 1) (t 2) (t 3) (t 10) (t 11) (t 28) (t 29) s) (blkK 0 (thenK false (fun d t s => (Ev base G).codeK call fuel false (cr (cr (cr (cr (cr (cb (cr (codeOf Tryz.f65)))))))) d t s (lastK (Ev base G) call fuel false Tryz.f65.results.toList)) (lastK (Ev base G) call fuel false Tryz.f65.results.toList))))))) (blkK 1 (thenK false (fun _ t s => dict_Find_3 (Ev base G) call fuel r2 (t 0) (t 1) (t 2) (t 3) (t 10) (t 11) (t 28) (t 29) s) (thenK false (fun _ t s => r2 (t 0) (t 1) (t 2) (t 3) (t 10) (t 11) (t 28) (t 29) s) (blkK 0 (thenK false (fun d t s => (Ev base G).codeK call fuel false (cr (cr (cr (cr (cr (cb (cr (codeOf Tryz.f65)))))))) d t s (lastK (Ev base G) call fuel false Tryz.f65.results.toList)) (lastK (Ev base G) call fuel false Tryz.f65.results.toList)))))))) = dict_Find_4 (Ev base G) call fuel r2 fuel (t 0) (t 1) (t 2) (t 3) (t 10) (t 11) (t 13) (t 14) (t 28) (t 29) (t 59) (t 60) (t 61) s :=
  nfLF (F := fun n t s => dict_Find_4 (Ev base G) call fuel r2 n (t 0) (t 1) (t 2) (t 3) (t 10) (t 11) (t 13) (t 14) (t 28) (t 29) (t 59) (t 60) (t 61) s) (by kernel_rfl) (fun _ _ => by kernel_rfl) (fun n t s => (dict_Find_5_eq base G call fuel r2 (dict_Find_4 (Ev base G) call fuel r2 n) t s).trans (by kernel_rfl))

theorem dict_Find_2_eq (base : Nat) (G : Nat → Nat → Option Value) (call : CallF) (fuel : Nat) (r2 : Value → Value → Value → Value → Value → Value → Value → Value → St → R) : ∀ (t : FT) (s : St), (Ev base G).codeK call fuel false (cb (cb (cr (cl (cr (cr (cr (cr (cb (cr (codeOf Tryz.f65))))))))))) [] t s (thenK false (fun _ t s => r2 (t 0) (t 1) (t 2) (t 3) (t 10) (t 11) (t 28) (t 29) s) (blkK 0 (thenK false (fun d t s => (Ev base G).codeK call fuel false (cr (cr (cr (cr (cr (cb (cr (codeOf Tryz.f65)))))))) d t s (lastK (Ev base G) call fuel false Tryz.f65.results.toList)) (lastK (Ev base G) call fuel false Tryz.f65.results.toList)))) = dict_Find_2 (Ev base G) call fuel r2 (t 0) (t 1) (t 2) (t 3) (t 10) (t 11) (t 28) (t 29) s :=
  fun t s => ((nfSF (by kernel_rfl) (nfSF (by kernel_rfl) (nfSF (by kernel_rfl) (dict_Find_3_eq base G call fuel r2) (nfBF 1 (by kernel_rfl) (nfSF (by kernel_rfl) (nfSF (by kernel_rfl) (nfSF (by kernel_rfl) (nfSF (by kernel_rfl) (nfSF (by kernel_rfl) nfRF (nfSF (by kernel_rfl) (nfBF 3 (by kernel_rfl) (dict_Find_4_eq base G call fuel r2)) nfRF)) nfRF) nfRF) nfRF) nfRF))) nfRF) nfRF) t s).trans (by kernel_rfl)

theorem dict_Find_1_eq (base : Nat) (G : Nat → Nat → Option Value) (call : CallF) (fuel : Nat) : ∀ (t : FT) (s : St), (Ev base G).codeK call fuel false (cb (cr (cl (cr (cr (cr (cr (cb (cr (codeOf Tryz.f65)))))))))) [] t s (blkK 0 (thenK false (fun d t s => (Ev base G).codeK call fuel false (cr (cr (cr (cr (cr (cb (cr (codeOf Tryz.f65)))))))) d t s (lastK (Ev base G) call fuel false Tryz.f65.results.toList)) (lastK (Ev base G) call fuel false Tryz.f65.results.toList))) = dict_Find_1 (Ev base G) call fuel fuel (t 0) (t 1) (t 2) (t 3) (t 10) (t 11) (t 28) (t 29) s :=
  nfLF (F := fun n t s => dict_Find_1 (Ev base G) call fuel n (t 0) (t 1) (t 2) (t 3) (t 10) (t 11) (t 28) (t 29) s) (by kernel_rfl) (fun _ _ => by kernel_rfl) (fun n t s => (dict_Find_2_eq base G call fuel (dict_Find_1 (Ev base G) call fuel n) t s).trans (by kernel_rfl))

theorem dict_Find_0_eq (base : Nat) (G : Nat → Nat → Option Value) (call : CallF) (fuel : Nat) : ∀ (t : FT) (s : St), (Ev base G).codeK call fuel false (codeOf Tryz.f65) [] t s (lastK (Ev base G) call fuel false Tryz.f65.results.toList) = dict_Find_0 (Ev base G) call fuel (t 0) (t 1) (t 2) (t 3) s :=
  fun t s => ((nfSF (by kernel_rfl) (nfOF (by kernel_rfl) (nfSF (by kernel_rfl) (nfSF (by kernel_rfl) (nfSF (by kernel_rfl) (nfSF (by kernel_rfl) (nfSF (by kernel_rfl) nfRF (nfSF (by kernel_rfl) (nfBF 0 (by kernel_rfl) (dict_Find_1_eq base G call fuel)) nfRF)) nfRF) nfRF) nfRF) nfRF)) nfRF) t s).trans (by kernel_rfl)

theorem dict_Find_eq (base : Nat) (G : Nat → Nat → Option Value) (call : CallF) (fuel : Nat) (x0 x1 x2 x3 : Value) (σ : St) : (Ev base G).funK call fuel false Tryz.f65 [x0, x1, x2, x3] σ = dict_Find (Ev base G) call fuel x0 x1 x2 x3 σ :=
  (show _ = (Ev base G).codeK call fuel false (codeOf Tryz.f65) [] (argF [x0, x1, x2, x3]) σ (lastK (Ev base G) call fuel false Tryz.f65.results.toList) by kernel_rfl).trans ((dict_Find_0_eq base G call fuel (argF [x0, x1, x2, x3]) σ).trans (by kernel_rfl))
theorem dict_Find_lf (base : Nat) (G : Nat → Nat → Option Value) : LeafOK (Ev base G) 65 (fun call fuel l σ => a4 l fun x0 x1 x2 x3 => (dict_Find (Ev base G) call fuel x0 x1 x2 x3 σ)) :=
  leaf4 (L := false) ⟨Tryz.func65, by kernel_rfl, by kernel_rfl⟩ (fun call fuel x0 x1 x2 x3 σ => dict_Find_eq base G call fuel x0 x1 x2 x3 σ)

/-! 67: plover/pack.Cells -/
theorem pack_Cells_2_eq (base : Nat) (G : Nat → Nat → Option Value) (call : CallF) (fuel : Nat) (r2 : Value → Value → Value → Value → St → R) : ∀ (t : FT) (s : St), (Ev base G).codeK call fuel false (cb (cb (cr (cl (cr (cr (codeOf Tryz.f67))))))) [] t s (thenK false (fun _ t s => r2 (t 0) (t 3) (t 11) (t 12) s) (blkK 0 (thenK false (fun d t s => (Ev base G).codeK call fuel false (cr (cr (cr (codeOf Tryz.f67)))) d t s (lastK (Ev base G) call fuel false Tryz.f67.results.toList)) (lastK (Ev base G) call fuel false Tryz.f67.results.toList)))) = pack_Cells_2 (Ev base G) call fuel r2 (t 0) (t 3) (t 11) (t 12) s :=
  fun t s => (nfRF t s).trans (by kernel_rfl)

theorem pack_Cells_1_eq (base : Nat) (G : Nat → Nat → Option Value) (call : CallF) (fuel : Nat) : ∀ (t : FT) (s : St), (Ev base G).codeK call fuel false (cb (cr (cl (cr (cr (codeOf Tryz.f67)))))) [] t s (blkK 0 (thenK false (fun d t s => (Ev base G).codeK call fuel false (cr (cr (cr (codeOf Tryz.f67)))) d t s (lastK (Ev base G) call fuel false Tryz.f67.results.toList)) (lastK (Ev base G) call fuel false Tryz.f67.results.toList))) = pack_Cells_1 (Ev base G) call fuel fuel (t 0) (t 3) (t 11) (t 12) s :=
  nfLF (F := fun n t s => pack_Cells_1 (Ev base G) call fuel n (t 0) (t 3) (t 11) (t 12) s) (by kernel_rfl) (fun _ _ => by kernel_rfl) (fun n t s => (pack_Cells_2_eq base G call fuel (pack_Cells_1 (Ev base G) call fuel n) t s).trans (by kernel_rfl))

theorem pack_Cells_0_eq (base : Nat) (G : Nat → Nat → Option Value) (call : CallF) (fuel : Nat) : ∀ (t : FT) (s : St), (Ev base G).codeK call fuel false (codeOf Tryz.f67) [] t s (lastK (Ev base G) call fuel false Tryz.f67.results.toList) = pack_Cells_0 (Ev base G) call fuel (t 0) s :=
  fun t s => ((nfSF (by kernel_rfl) (nfSF (by kernel_rfl) (nfSF (by kernel_rfl) nfRF (nfSF (by kernel_rfl) (nfBF 0 (by kernel_rfl) (pack_Cells_1_eq base G call fuel)) nfRF)) nfRF) nfRF) t s).trans (by kernel_rfl)

theorem pack_Cells_eq (base : Nat) (G : Nat → Nat → Option Value) (call : CallF) (fuel : Nat) (x0 : Value) (σ : St) : (Ev base G).funK call fuel false Tryz.f67 [x0] σ = pack_Cells (Ev base G) call fuel x0 σ :=
  (show _ = (Ev base G).codeK call fuel false (codeOf Tryz.f67) [] (argF [x0]) σ (lastK (Ev base G) call fuel false Tryz.f67.results.toList) by kernel_rfl).trans ((pack_Cells_0_eq base G call fuel (argF [x0]) σ).trans (by kernel_rfl))
theorem pack_Cells_lf (base : Nat) (G : Nat → Nat → Option Value) : LeafOK (Ev base G) 67 (fun call fuel l σ => a1 l fun x0 => (pack_Cells (Ev base G) call fuel x0 σ)) :=
  leaf1 (L := false) ⟨Tryz.func67, by kernel_rfl, by kernel_rfl⟩ (fun call fuel x0 σ => pack_Cells_eq base G call fuel x0 σ)

/-! 68: plover/post.Need -/
theorem post_Need_2_eq (base : Nat) (G : Nat → Nat → Option Value) (call : CallF) (fuel : Nat) : ∀ (t : FT) (s : St), (Ev base G).codeK call fuel false (cr (cr (cr (cr (cr (cr (cr (cr (codeOf Tryz.f68))))))))) [] t s (lastK (Ev base G) call fuel false Tryz.f68.results.toList) = post_Need_2 (Ev base G) call fuel (t 6) (t 7) s :=
  fun t s => (nfRF t s).trans (by kernel_rfl)

theorem post_Need_4_eq (base : Nat) (G : Nat → Nat → Option Value) (call : CallF) (fuel : Nat) (r4 : Value → Value → Value → Value → Value → St → R) : ∀ (t : FT) (s : St), (Ev base G).codeK call fuel false (cb (cb (cl (cr (cr (cr (cr (cr (cr (cr (codeOf Tryz.f68))))))))))) [] t s (thenK false (fun _ t s => r4 (t 2) (t 6) (t 7) (t 8) (t 10) s) (blkK 0 (thenK false (fun _ t s => post_Need_2 (Ev base G) call fuel (t 6) (t 7) s) (lastK (Ev base G) call fuel false Tryz.f68.results.toList)))) = post_Need_4 (Ev base G) call fuel r4 (t 2) (t 6) (t 7) (t 8) (t 10) s :=
  fun t s => (nfRF t s).trans (by kernel_rfl)

theorem post_Need_3_eq (base : Nat) (G : Nat → Nat → Option Value) (call : CallF) (fuel : Nat) : ∀ (t : FT) (s : St), (Ev base G).codeK call fuel false (cb (cl (cr (cr (cr (cr (cr (cr (cr (codeOf Tryz.f68)))))))))) [] t s (blkK 0 (thenK false (fun _ t s => post_Need_2 (Ev base G) call fuel (t 6) (t 7) s) (lastK (Ev base G) call fuel false Tryz.f68.results.toList))) = post_Need_3 (Ev base G) call fuel fuel (t 2) (t 6) (t 7) (t 8) (t 10) s :=
  nfLF (F := fun n t s => post_Need_3 (Ev base G) call fuel n (t 2) (t 6) (t 7) (t 8) (t 10) s) (by kernel_rfl) (fun _ _ => by kernel_rfl) (fun n t s => (post_Need_4_eq base G call fuel (post_Need_3 (Ev base G) call fuel n) t s).trans (by kernel_rfl))

theorem post_Need_1_eq (base : Nat) (G : Nat → Nat → Option Value) (call : CallF) (fuel : Nat) : ∀ (t : FT) (s : St), (Ev base G).codeK call fuel false (cr (cr (cr (cr (cr (cr (cr (codeOf Tryz.f68)))))))) [] t s (lastK (Ev base G) call fuel false Tryz.f68.results.toList) = post_Need_1 (Ev base G) call fuel (t 2) (t 6) (t 7) (t 8) (t 10) s :=
  fun t s => ((nfSF (by kernel_rfl) (post_Need_2_eq base G call fuel) (nfBF 0 (by kernel_rfl) (post_Need_3_eq base G call fuel))) t s).trans (by kernel_rfl)

theorem post_Need_0_eq (base : Nat) (G : Nat → Nat → Option Value) (call : CallF) (fuel : Nat) : ∀ (t : FT) (s : St), (Ev base G).codeK call fuel false (codeOf Tryz.f68) [] t s (lastK (Ev base G) call fuel false Tryz.f68.results.toList) = post_Need_0 (Ev base G) call fuel (t 0) (t 1) (t 2) s :=
  fun t s => ((nfSF (by kernel_rfl) (nfSF (by kernel_rfl) (nfSF (by kernel_rfl) (nfSF (by kernel_rfl) (nfSF (by kernel_rfl) (nfSF (by kernel_rfl) (nfSF (by kernel_rfl) (post_Need_1_eq base G call fuel) nfRF) nfRF) nfRF) nfRF) nfRF) nfRF) nfRF) t s).trans (by kernel_rfl)

theorem post_Need_eq (base : Nat) (G : Nat → Nat → Option Value) (call : CallF) (fuel : Nat) (x0 x1 x2 : Value) (σ : St) : (Ev base G).funK call fuel false Tryz.f68 [x0, x1, x2] σ = post_Need (Ev base G) call fuel x0 x1 x2 σ :=
  (show _ = (Ev base G).codeK call fuel false (codeOf Tryz.f68) [] (argF [x0, x1, x2]) σ (lastK (Ev base G) call fuel false Tryz.f68.results.toList) by kernel_rfl).trans ((post_Need_0_eq base G call fuel (argF [x0, x1, x2]) σ).trans (by kernel_rfl))
theorem post_Need_lf (base : Nat) (G : Nat → Nat → Option Value) : LeafOK (Ev base G) 68 (fun call fuel l σ => a3 l fun x0 x1 x2 => (post_Need (Ev base G) call fuel x0 x1 x2 σ)) :=
  leaf3 (L := false) ⟨Tryz.func68, by kernel_rfl, by kernel_rfl⟩ (fun call fuel x0 x1 x2 σ => post_Need_eq base G call fuel x0 x1 x2 σ)

/-! 69: slices.IndexFunc[[]plover/write.term,plover/write.term] -/
theorem slices_IndexFunc_write_term_2_eq (base : Nat) (G : Nat → Nat → Option Value) (call : CallF) (fuel : Nat) (r2 : Value → Value → Value → Value → St → R) : ∀ (t : FT) (s : St), (Ev base G).codeK call fuel false (cb (cb (cr (cl (cr (codeOf Tryz.f69)))))) [] t s (thenK false (fun _ t s => r2 (t 0) (t 1) (t 7) (t 8) s) (blkK 0 (thenK false (fun d t s => (Ev base G).codeK call fuel false (cr (cr (codeOf Tryz.f69))) d t s (lastK (Ev base G) call fuel false Tryz.f69.results.toList)) (lastK (Ev base G) call fuel false Tryz.f69.results.toList)))) = slices_IndexFunc_write_term_2 (Ev base G) call fuel r2 (t 0) (t 1) (t 7) (t 8) s :=
  fun t s => (nfRF t s).trans (by kernel_rfl)

theorem slices_IndexFunc_write_term_1_eq (base : Nat) (G : Nat → Nat → Option Value) (call : CallF) (fuel : Nat) : ∀ (t : FT) (s : St), (Ev base G).codeK call fuel false (cb (cr (cl (cr (codeOf Tryz.f69))))) [] t s (blkK 0 (thenK false (fun d t s => (Ev base G).codeK call fuel false (cr (cr (codeOf Tryz.f69))) d t s (lastK (Ev base G) call fuel false Tryz.f69.results.toList)) (lastK (Ev base G) call fuel false Tryz.f69.results.toList))) = slices_IndexFunc_write_term_1 (Ev base G) call fuel fuel (t 0) (t 1) (t 7) (t 8) s :=
  nfLF (F := fun n t s => slices_IndexFunc_write_term_1 (Ev base G) call fuel n (t 0) (t 1) (t 7) (t 8) s) (by kernel_rfl) (fun _ _ => by kernel_rfl) (fun n t s => (slices_IndexFunc_write_term_2_eq base G call fuel (slices_IndexFunc_write_term_1 (Ev base G) call fuel n) t s).trans (by kernel_rfl))

theorem slices_IndexFunc_write_term_0_eq (base : Nat) (G : Nat → Nat → Option Value) (call : CallF) (fuel : Nat) : ∀ (t : FT) (s : St), (Ev base G).codeK call fuel false (codeOf Tryz.f69) [] t s (lastK (Ev base G) call fuel false Tryz.f69.results.toList) = slices_IndexFunc_write_term_0 (Ev base G) call fuel (t 0) (t 1) s :=
  fun t s => ((nfSF (by kernel_rfl) (nfSF (by kernel_rfl) nfRF (nfSF (by kernel_rfl) (nfBF 0 (by kernel_rfl) (slices_IndexFunc_write_term_1_eq base G call fuel)) nfRF)) nfRF) t s).trans (by kernel_rfl)

theorem slices_IndexFunc_write_term_eq (base : Nat) (G : Nat → Nat → Option Value) (call : CallF) (fuel : Nat) (x0 x1 : Value) (σ : St) : (Ev base G).funK call fuel false Tryz.f69 [x0, x1] σ = slices_IndexFunc_write_term (Ev base G) call fuel x0 x1 σ :=
  (show _ = (Ev base G).codeK call fuel false (codeOf Tryz.f69) [] (argF [x0, x1]) σ (lastK (Ev base G) call fuel false Tryz.f69.results.toList) by kernel_rfl).trans ((slices_IndexFunc_write_term_0_eq base G call fuel (argF [x0, x1]) σ).trans (by kernel_rfl))
theorem slices_IndexFunc_write_term_lf (base : Nat) (G : Nat → Nat → Option Value) : LeafOK (Ev base G) 69 (fun call fuel l σ => a2 l fun x0 x1 => (slices_IndexFunc_write_term (Ev base G) call fuel x0 x1 σ)) :=
  leaf2 (L := false) ⟨Tryz.func69, by kernel_rfl, by kernel_rfl⟩ (fun call fuel x0 x1 σ => slices_IndexFunc_write_term_eq base G call fuel x0 x1 σ)

/-! 70: plover/write.place1$1 -/
theorem write_place1_c1_0_eq (base : Nat) (G : Nat → Nat → Option Value) (call : CallF) (fuel : Nat) : ∀ (t : FT) (s : St), (Ev base G).codeK call fuel false (codeOf Tryz.f70) [] t s (lastK (Ev base G) call fuel false Tryz.f70.results.toList) = write_place1_c1_0 (Ev base G) call fuel (t 0) (t 1) s :=
  fun t s => (nfRF t s).trans (by kernel_rfl)

theorem write_place1_c1_eq (base : Nat) (G : Nat → Nat → Option Value) (call : CallF) (fuel : Nat) (x0 x1 : Value) (σ : St) : (Ev base G).funK call fuel false Tryz.f70 [x0, x1] σ = write_place1_c1 (Ev base G) call fuel x0 x1 σ :=
  (show _ = (Ev base G).codeK call fuel false (codeOf Tryz.f70) [] (argF [x0, x1]) σ (lastK (Ev base G) call fuel false Tryz.f70.results.toList) by kernel_rfl).trans ((write_place1_c1_0_eq base G call fuel (argF [x0, x1]) σ).trans (by kernel_rfl))
theorem write_place1_c1_lf (base : Nat) (G : Nat → Nat → Option Value) : LeafOK (Ev base G) 70 (fun call fuel l σ => a2 l fun x0 x1 => (write_place1_c1 (Ev base G) call fuel x0 x1 σ)) :=
  leaf2 (L := false) ⟨Tryz.func70, by kernel_rfl, by kernel_rfl⟩ (fun call fuel x0 x1 σ => write_place1_c1_eq base G call fuel x0 x1 σ)

/-! 71: plover/dict.Put -/
theorem dict_Put_1_eq (base : Nat) (G : Nat → Nat → Option Value) (call : CallF) (fuel : Nat) : ∀ (t : FT) (s : St), (Ev base G).codeK call fuel false (cr (cr (cr (cr (cr (cr (codeOf Tryz.f71))))))) [] t s (lastK (Ev base G) call fuel false Tryz.f71.results.toList) = dict_Put_1 (Ev base G) call fuel (t 0) (t 3) (t 4) (t 8) (t 13) (t 16) s :=
  fun t s => (nfRF t s).trans (by kernel_rfl)

theorem dict_Put_3_eq (base : Nat) (G : Nat → Nat → Option Value) (call : CallF) (fuel : Nat) (r3 : Value → Value → Value → Value → Value → Value → Value → Value → Value → St → R) : ∀ (t : FT) (s : St), (Ev base G).codeK call fuel false (cb (cb (cr (cl (cr (cr (cr (cr (cr (codeOf Tryz.f71)))))))))) [] t s (thenK false (fun _ t s => r3 (t 0) (t 3) (t 4) (t 8) (t 13) (t 16) (t 43) (t 44) (t 45) s) (blkK 0 (thenK false (fun _ t s => dict_Put_1 (Ev base G) call fuel (t 0) (t 3) (t 4) (t 8) (t 13) (t 16) s) (lastK (Ev base G) call fuel false Tryz.f71.results.toList)))) = dict_Put_3 (Ev base G) call fuel r3 (t 0) (t 3) (t 4) (t 8) (t 13) (t 16) (t 43) (t 44) (t 45) s :=
  fun t s => (nfRF t s).trans (by kernel_rfl)

theorem dict_Put_2_eq (base : Nat) (G : Nat → Nat → Option Value) (call : CallF) (fuel : Nat) : ∀ (t : FT) (s : St), (Ev base G).codeK call fuel false (cb (cr (cl (cr (cr (cr (cr (cr (codeOf Tryz.f71))))))))) [] t s (blkK 0 (thenK false (fun _ t s => dict_Put_1 (Ev base G) call fuel (t 0) (t 3) (t 4) (t 8) (t 13) (t 16) s) (lastK (Ev base G) call fuel false Tryz.f71.results.toList))) = dict_Put_2 (Ev base G) call fuel fuel (t 0) (t 3) (t 4) (t 8) (t 13) (t 16) (t 43) (t 44) (t 45) s :=
  nfLF (F := fun n t s => dict_Put_2 (Ev base G) call fuel n (t 0) (t 3) (t 4) (t 8) (t 13) (t 16) (t 43) (t 44) (t 45) s) (by kernel_rfl) (fun _ _ => by kernel_rfl) (fun n t s => (dict_Put_3_eq base G call fuel (dict_Put_2 (Ev base G) call fuel n) t s).trans (by kernel_rfl))

theorem dict_Put_0_eq (base : Nat) (G : Nat → Nat → Option Value) (call : CallF) (fuel : Nat) : ∀ (t : FT) (s : St), (Ev base G).codeK call fuel false (codeOf Tryz.f71) [] t s (lastK (Ev base G) call fuel false Tryz.f71.results.toList) = dict_Put_0 (Ev base G) call fuel (t 0) (t 1) (t 2) (t 3) (t 4) (t 5) s :=
  fun t s => ((nfSF (by kernel_rfl) (nfSF (by kernel_rfl) (nfSF (by kernel_rfl) (nfSF (by kernel_rfl) (nfSF (by kernel_rfl) (nfSF (by kernel_rfl) (dict_Put_1_eq base G call fuel) (nfSF (by kernel_rfl) (nfBF 0 (by kernel_rfl) (dict_Put_2_eq base G call fuel)) nfRF)) nfRF) nfRF) nfRF) nfRF) nfRF) t s).trans (by kernel_rfl)

theorem dict_Put_eq (base : Nat) (G : Nat → Nat → Option Value) (call : CallF) (fuel : Nat) (x0 x1 x2 x3 x4 x5 : Value) (σ : St) : (Ev base G).funK call fuel false Tryz.f71 [x0, x1, x2, x3, x4, x5] σ = dict_Put (Ev base G) call fuel x0 x1 x2 x3 x4 x5 σ :=
  (show _ = (Ev base G).codeK call fuel false (codeOf Tryz.f71) [] (argF [x0, x1, x2, x3, x4, x5]) σ (lastK (Ev base G) call fuel false Tryz.f71.results.toList) by kernel_rfl).trans ((dict_Put_0_eq base G call fuel (argF [x0, x1, x2, x3, x4, x5]) σ).trans (by kernel_rfl))
theorem dict_Put_lf (base : Nat) (G : Nat → Nat → Option Value) : LeafOK (Ev base G) 71 (fun call fuel l σ => a6 l fun x0 x1 x2 x3 x4 x5 => (dict_Put (Ev base G) call fuel x0 x1 x2 x3 x4 x5 σ)) :=
  leaf6 (L := false) ⟨Tryz.func71, by kernel_rfl, by kernel_rfl⟩ (fun call fuel x0 x1 x2 x3 x4 x5 σ => dict_Put_eq base G call fuel x0 x1 x2 x3 x4 x5 σ)

/-! 72: plover/pack.Word -/
theorem pack_Word_1_eq (base : Nat) (G : Nat → Nat → Option Value) (call : CallF) (fuel : Nat) : ∀ (t : FT) (s : St), (Ev base G).codeK call fuel false (cr (cr (codeOf Tryz.f72))) [] t s (lastK (Ev base G) call fuel false Tryz.f72.results.toList) = pack_Word_1 (Ev base G) call fuel (t 0) (t 1) s :=
  fun t s => (nfRF t s).trans (by kernel_rfl)

theorem pack_Word_2_eq (base : Nat) (G : Nat → Nat → Option Value) (call : CallF) (fuel : Nat) : ∀ (t : FT) (s : St), (Ev base G).codeK call fuel false (cr (cl (cr (codeOf Tryz.f72)))) [] t s (thenK false (fun _ t s => pack_Word_1 (Ev base G) call fuel (t 0) (t 1) s) (lastK (Ev base G) call fuel false Tryz.f72.results.toList)) = pack_Word_2 (Ev base G) call fuel (t 0) (t 1) (t 19) s :=
  fun t s => (nfRF t s).trans (by kernel_rfl)

theorem pack_Word_0_eq (base : Nat) (G : Nat → Nat → Option Value) (call : CallF) (fuel : Nat) : ∀ (t : FT) (s : St), (Ev base G).codeK call fuel false (codeOf Tryz.f72) [] t s (lastK (Ev base G) call fuel false Tryz.f72.results.toList) = pack_Word_0 (Ev base G) call fuel (t 0) (t 1) s :=
  fun t s => ((nfSF (by kernel_rfl) (nfSF (by kernel_rfl) (pack_Word_1_eq base G call fuel) (nfSF (by kernel_rfl) (pack_Word_2_eq base G call fuel) nfRF)) nfRF) t s).trans (by kernel_rfl)

theorem pack_Word_eq (base : Nat) (G : Nat → Nat → Option Value) (call : CallF) (fuel : Nat) (x0 x1 : Value) (σ : St) : (Ev base G).funK call fuel false Tryz.f72 [x0, x1] σ = pack_Word (Ev base G) call fuel x0 x1 σ :=
  (show _ = (Ev base G).codeK call fuel false (codeOf Tryz.f72) [] (argF [x0, x1]) σ (lastK (Ev base G) call fuel false Tryz.f72.results.toList) by kernel_rfl).trans ((pack_Word_0_eq base G call fuel (argF [x0, x1]) σ).trans (by kernel_rfl))
theorem pack_Word_lf (base : Nat) (G : Nat → Nat → Option Value) : LeafOK (Ev base G) 72 (fun call fuel l σ => a2 l fun x0 x1 => (pack_Word (Ev base G) call fuel x0 x1 σ)) :=
  leaf2 (L := false) ⟨Tryz.func72, by kernel_rfl, by kernel_rfl⟩ (fun call fuel x0 x1 σ => pack_Word_eq base G call fuel x0 x1 σ)

/-! 73: plover/post.Put -/
theorem post_Put_1_eq (base : Nat) (G : Nat → Nat → Option Value) (call : CallF) (fuel : Nat) : ∀ (t : FT) (s : St), (Ev base G).codeK call fuel false (cr (cr (cr (cr (codeOf Tryz.f73))))) [] t s (lastK (Ev base G) call fuel false Tryz.f73.results.toList) = post_Put_1 (Ev base G) call fuel (t 0) (t 3) (t 4) (t 7) (t 11) s :=
  fun t s => (nfRF t s).trans (by kernel_rfl)

theorem post_Put_2_eq (base : Nat) (G : Nat → Nat → Option Value) (call : CallF) (fuel : Nat) : ∀ (t : FT) (s : St), (Ev base G).codeK call fuel false (cr (cr (cr (ct (cr (cl (cr (cr (cr (codeOf Tryz.f73)))))))))) [] t s (thenK false (fun _ t s => post_Put_1 (Ev base G) call fuel (t 0) (t 3) (t 4) (t 7) (t 11) s) (lastK (Ev base G) call fuel false Tryz.f73.results.toList)) = post_Put_2 (Ev base G) call fuel (t 0) (t 4) (t 7) (t 11) (t 15) (t 16) s :=
  fun t s => (nfRF t s).trans (by kernel_rfl)

theorem post_Put_0_eq (base : Nat) (G : Nat → Nat → Option Value) (call : CallF) (fuel : Nat) : ∀ (t : FT) (s : St), (Ev base G).codeK call fuel false (codeOf Tryz.f73) [] t s (lastK (Ev base G) call fuel false Tryz.f73.results.toList) = post_Put_0 (Ev base G) call fuel (t 0) (t 1) (t 2) (t 3) (t 4) s :=
  fun t s => ((nfSF (by kernel_rfl) (nfSF (by kernel_rfl) (nfSF (by kernel_rfl) (nfSF (by kernel_rfl) (post_Put_1_eq base G call fuel) (nfSF (by kernel_rfl) (nfCF (by kernel_rfl) (nfSF (by kernel_rfl) (nfSF (by kernel_rfl) (nfSF (by kernel_rfl) (post_Put_2_eq base G call fuel) nfRF) nfRF) nfRF) nfRF) nfRF)) nfRF) nfRF) nfRF) t s).trans (by kernel_rfl)

theorem post_Put_eq (base : Nat) (G : Nat → Nat → Option Value) (call : CallF) (fuel : Nat) (x0 x1 x2 x3 x4 : Value) (σ : St) : (Ev base G).funK call fuel false Tryz.f73 [x0, x1, x2, x3, x4] σ = post_Put (Ev base G) call fuel x0 x1 x2 x3 x4 σ :=
  (show _ = (Ev base G).codeK call fuel false (codeOf Tryz.f73) [] (argF [x0, x1, x2, x3, x4]) σ (lastK (Ev base G) call fuel false Tryz.f73.results.toList) by kernel_rfl).trans ((post_Put_0_eq base G call fuel (argF [x0, x1, x2, x3, x4]) σ).trans (by kernel_rfl))
theorem post_Put_lf (base : Nat) (G : Nat → Nat → Option Value) : LeafOK (Ev base G) 73 (fun call fuel l σ => a5 l fun x0 x1 x2 x3 x4 => (post_Put (Ev base G) call fuel x0 x1 x2 x3 x4 σ)) :=
  leaf5 (L := false) ⟨Tryz.func73, by kernel_rfl, by kernel_rfl⟩ (fun call fuel x0 x1 x2 x3 x4 σ => post_Put_eq base G call fuel x0 x1 x2 x3 x4 σ)

/-! 74: plover/dict.SetTail -/
theorem dict_SetTail_0_eq (base : Nat) (G : Nat → Nat → Option Value) (call : CallF) (fuel : Nat) : ∀ (t : FT) (s : St), (Ev base G).codeK call fuel false (codeOf Tryz.f74) [] t s (lastK (Ev base G) call fuel false Tryz.f74.results.toList) = dict_SetTail_0 (Ev base G) call fuel (t 0) (t 1) (t 2) s :=
  fun t s => (nfRF t s).trans (by kernel_rfl)

theorem dict_SetTail_eq (base : Nat) (G : Nat → Nat → Option Value) (call : CallF) (fuel : Nat) (x0 x1 x2 : Value) (σ : St) : (Ev base G).funK call fuel false Tryz.f74 [x0, x1, x2] σ = dict_SetTail (Ev base G) call fuel x0 x1 x2 σ :=
  (show _ = (Ev base G).codeK call fuel false (codeOf Tryz.f74) [] (argF [x0, x1, x2]) σ (lastK (Ev base G) call fuel false Tryz.f74.results.toList) by kernel_rfl).trans ((dict_SetTail_0_eq base G call fuel (argF [x0, x1, x2]) σ).trans (by kernel_rfl))
theorem dict_SetTail_lf (base : Nat) (G : Nat → Nat → Option Value) : LeafOK (Ev base G) 74 (fun call fuel l σ => a3 l fun x0 x1 x2 => (dict_SetTail (Ev base G) call fuel x0 x1 x2 σ)) :=
  leaf3 (L := false) ⟨Tryz.func74, by kernel_rfl, by kernel_rfl⟩ (fun call fuel x0 x1 x2 σ => dict_SetTail_eq base G call fuel x0 x1 x2 σ)

/-! 75: (*plover/step.Run).turn -/
theorem step_Run_turn_1_eq (base : Nat) (G : Nat → Nat → Option Value) (call : CallF) (fuel : Nat) : ∀ (t : FT) (s : St), (Ev base G).codeK call fuel false (cr (cr (codeOf Tryz.f75))) [] t s (lastK (Ev base G) call fuel false Tryz.f75.results.toList) = step_Run_turn_1 (Ev base G) call fuel (t 0) s :=
  fun t s => (nfRF t s).trans (by kernel_rfl)

theorem step_Run_turn_2_eq (base : Nat) (G : Nat → Nat → Option Value) (call : CallF) (fuel : Nat) : ∀ (t : FT) (s : St), (Ev base G).codeK call fuel false (cr (cb (cl (cr (codeOf Tryz.f75))))) [] t s (blkK 0 (thenK false (fun _ t s => step_Run_turn_1 (Ev base G) call fuel (t 0) s) (lastK (Ev base G) call fuel false Tryz.f75.results.toList))) = step_Run_turn_2 (Ev base G) call fuel (t 0) (t 4) s :=
  fun t s => (nfRF t s).trans (by kernel_rfl)

theorem step_Run_turn_0_eq (base : Nat) (G : Nat → Nat → Option Value) (call : CallF) (fuel : Nat) : ∀ (t : FT) (s : St), (Ev base G).codeK call fuel false (codeOf Tryz.f75) [] t s (lastK (Ev base G) call fuel false Tryz.f75.results.toList) = step_Run_turn_0 (Ev base G) call fuel (t 0) s :=
  fun t s => ((nfSF (by kernel_rfl) (nfSF (by kernel_rfl) (step_Run_turn_1_eq base G call fuel) (nfBF 0 (by kernel_rfl) (nfSF (by kernel_rfl) (step_Run_turn_2_eq base G call fuel) nfRF))) nfRF) t s).trans (by kernel_rfl)

theorem step_Run_turn_eq (base : Nat) (G : Nat → Nat → Option Value) (call : CallF) (fuel : Nat) (x0 : Value) (σ : St) : (Ev base G).funK call fuel false Tryz.f75 [x0] σ = step_Run_turn (Ev base G) call fuel x0 σ :=
  (show _ = (Ev base G).codeK call fuel false (codeOf Tryz.f75) [] (argF [x0]) σ (lastK (Ev base G) call fuel false Tryz.f75.results.toList) by kernel_rfl).trans ((step_Run_turn_0_eq base G call fuel (argF [x0]) σ).trans (by kernel_rfl))
theorem step_Run_turn_lf (base : Nat) (G : Nat → Nat → Option Value) : LeafOK (Ev base G) 75 (fun call fuel l σ => a1 l fun x0 => (step_Run_turn (Ev base G) call fuel x0 σ)) :=
  leaf1 (L := false) ⟨Tryz.func75, by kernel_rfl, by kernel_rfl⟩ (fun call fuel x0 σ => step_Run_turn_eq base G call fuel x0 σ)

/-! 76: (*plover/step.Run).made -/
theorem step_Run_made_0_eq (base : Nat) (G : Nat → Nat → Option Value) (call : CallF) (fuel : Nat) : ∀ (t : FT) (s : St), (Ev base G).codeK call fuel false (codeOf Tryz.f76) [] t s (lastK (Ev base G) call fuel false Tryz.f76.results.toList) = step_Run_made_0 (Ev base G) call fuel (t 0) (t 1) (t 2) s :=
  fun t s => (nfRF t s).trans (by kernel_rfl)

theorem step_Run_made_eq (base : Nat) (G : Nat → Nat → Option Value) (call : CallF) (fuel : Nat) (x0 x1 x2 : Value) (σ : St) : (Ev base G).funK call fuel false Tryz.f76 [x0, x1, x2] σ = step_Run_made (Ev base G) call fuel x0 x1 x2 σ :=
  (show _ = (Ev base G).codeK call fuel false (codeOf Tryz.f76) [] (argF [x0, x1, x2]) σ (lastK (Ev base G) call fuel false Tryz.f76.results.toList) by kernel_rfl).trans ((step_Run_made_0_eq base G call fuel (argF [x0, x1, x2]) σ).trans (by kernel_rfl))
theorem step_Run_made_lf (base : Nat) (G : Nat → Nat → Option Value) : LeafOK (Ev base G) 76 (fun call fuel l σ => a3 l fun x0 x1 x2 => (step_Run_made (Ev base G) call fuel x0 x1 x2 σ)) :=
  leaf3 (L := false) ⟨Tryz.func76, by kernel_rfl, by kernel_rfl⟩ (fun call fuel x0 x1 x2 σ => step_Run_made_eq base G call fuel x0 x1 x2 σ)

/-! 85: plover/utf.Runes -/
theorem utf_Runes_2_eq (base : Nat) (G : Nat → Nat → Option Value) (call : CallF) (fuel : Nat) (r2 : Value → Value → St → R) : ∀ (t : FT) (s : St), (Ev base G).codeK call fuel false (cb (cb (cr (cl (cr (cr (codeOf Tryz.f85))))))) [] t s (thenK false (fun _ t s => r2 (t 3) (t 7) s) (blkK 0 (thenK false (fun d t s => (Ev base G).codeK call fuel false (cr (cr (cr (codeOf Tryz.f85)))) d t s (lastK (Ev base G) call fuel false Tryz.f85.results.toList)) (lastK (Ev base G) call fuel false Tryz.f85.results.toList)))) = utf_Runes_2 (Ev base G) call fuel r2 (t 3) (t 7) s :=
  fun t s => (nfRF t s).trans (by kernel_rfl)

theorem utf_Runes_1_eq (base : Nat) (G : Nat → Nat → Option Value) (call : CallF) (fuel : Nat) : ∀ (t : FT) (s : St), (Ev base G).codeK call fuel false (cb (cr (cl (cr (cr (codeOf Tryz.f85)))))) [] t s (blkK 0 (thenK false (fun d t s => (Ev base G).codeK call fuel false (cr (cr (cr (codeOf Tryz.f85)))) d t s (lastK (Ev base G) call fuel false Tryz.f85.results.toList)) (lastK (Ev base G) call fuel false Tryz.f85.results.toList))) = utf_Runes_1 (Ev base G) call fuel fuel (t 3) (t 7) s :=
  nfLF (F := fun n t s => utf_Runes_1 (Ev base G) call fuel n (t 3) (t 7) s) (by kernel_rfl) (fun _ _ => by kernel_rfl) (fun n t s => (utf_Runes_2_eq base G call fuel (utf_Runes_1 (Ev base G) call fuel n) t s).trans (by kernel_rfl))

theorem utf_Runes_0_eq (base : Nat) (G : Nat → Nat → Option Value) (call : CallF) (fuel : Nat) : ∀ (t : FT) (s : St), (Ev base G).codeK call fuel false (codeOf Tryz.f85) [] t s (lastK (Ev base G) call fuel false Tryz.f85.results.toList) = utf_Runes_0 (Ev base G) call fuel (t 0) s :=
  fun t s => ((nfSF (by kernel_rfl) (nfSF (by kernel_rfl) (nfSF (by kernel_rfl) nfRF (nfSF (by kernel_rfl) (nfBF 0 (by kernel_rfl) (utf_Runes_1_eq base G call fuel)) nfRF)) nfRF) nfRF) t s).trans (by kernel_rfl)

theorem utf_Runes_eq (base : Nat) (G : Nat → Nat → Option Value) (call : CallF) (fuel : Nat) (x0 : Value) (σ : St) : (Ev base G).funK call fuel false Tryz.f85 [x0] σ = utf_Runes (Ev base G) call fuel x0 σ :=
  (show _ = (Ev base G).codeK call fuel false (codeOf Tryz.f85) [] (argF [x0]) σ (lastK (Ev base G) call fuel false Tryz.f85.results.toList) by kernel_rfl).trans ((utf_Runes_0_eq base G call fuel (argF [x0]) σ).trans (by kernel_rfl))
theorem utf_Runes_lf (base : Nat) (G : Nat → Nat → Option Value) : LeafOK (Ev base G) 85 (fun call fuel l σ => a1 l fun x0 => (utf_Runes (Ev base G) call fuel x0 σ)) :=
  leaf1 (L := false) ⟨Tryz.func85, by kernel_rfl, by kernel_rfl⟩ (fun call fuel x0 σ => utf_Runes_eq base G call fuel x0 σ)

/-! 91: (*plover/mem.Mem).Load -/
theorem mem_Mem_Load_1_eq (base : Nat) (G : Nat → Nat → Option Value) (call : CallF) (fuel : Nat) : ∀ (t : FT) (s : St), (Ev base G).codeK call fuel false (cr (cr (codeOf Tryz.f91))) [] t s (lastK (Ev base G) call fuel false Tryz.f91.results.toList) = mem_Mem_Load_1 (Ev base G) call fuel (t 0) (t 1) s :=
  fun t s => (nfRF t s).trans (by kernel_rfl)

theorem mem_Mem_Load_2_eq (base : Nat) (G : Nat → Nat → Option Value) (call : CallF) (fuel : Nat) : ∀ (t : FT) (s : St), (Ev base G).codeK call fuel false (cr (cl (cr (codeOf Tryz.f91)))) [] t s (thenK false (fun _ t s => mem_Mem_Load_1 (Ev base G) call fuel (t 0) (t 1) s) (lastK (Ev base G) call fuel false Tryz.f91.results.toList)) = mem_Mem_Load_2 (Ev base G) call fuel (t 0) (t 1) (t 20) s :=
  fun t s => (nfRF t s).trans (by kernel_rfl)

theorem mem_Mem_Load_0_eq (base : Nat) (G : Nat → Nat → Option Value) (call : CallF) (fuel : Nat) : ∀ (t : FT) (s : St), (Ev base G).codeK call fuel false (codeOf Tryz.f91) [] t s (lastK (Ev base G) call fuel false Tryz.f91.results.toList) = mem_Mem_Load_0 (Ev base G) call fuel (t 0) (t 1) s :=
  fun t s => ((nfSF (by kernel_rfl) (nfSF (by kernel_rfl) (mem_Mem_Load_1_eq base G call fuel) (nfSF (by kernel_rfl) (mem_Mem_Load_2_eq base G call fuel) nfRF)) nfRF) t s).trans (by kernel_rfl)

theorem mem_Mem_Load_eq (base : Nat) (G : Nat → Nat → Option Value) (call : CallF) (fuel : Nat) (x0 x1 : Value) (σ : St) : (Ev base G).funK call fuel false Tryz.f91 [x0, x1] σ = mem_Mem_Load (Ev base G) call fuel x0 x1 σ :=
  (show _ = (Ev base G).codeK call fuel false (codeOf Tryz.f91) [] (argF [x0, x1]) σ (lastK (Ev base G) call fuel false Tryz.f91.results.toList) by kernel_rfl).trans ((mem_Mem_Load_0_eq base G call fuel (argF [x0, x1]) σ).trans (by kernel_rfl))
theorem mem_Mem_Load_lf (base : Nat) (G : Nat → Nat → Option Value) : LeafOK (Ev base G) 91 (fun call fuel l σ => a2 l fun x0 x1 => (mem_Mem_Load (Ev base G) call fuel x0 x1 σ)) :=
  leaf2 (L := false) ⟨Tryz.func91, by kernel_rfl, by kernel_rfl⟩ (fun call fuel x0 x1 σ => mem_Mem_Load_eq base G call fuel x0 x1 σ)

/-! 100: plover/fold.Class -/
theorem fold_Class_3_eq (base : Nat) (G : Nat → Nat → Option Value) (call : CallF) (fuel : Nat) (r3 : Value → Value → Value → Value → St → R) : ∀ (t : FT) (s : St), (Ev base G).codeK call fuel false (cb (cb (cr (cl (cr (cr (cr (cb (cr (codeOf Tryz.f100)))))))))) [] t s (thenK false (fun _ t s => r3 (t 0) (t 3) (t 44) (t 45) s) (blkK 1 (thenK false (fun d t s => (Ev base G).codeK call fuel false (cr (cr (cr (cr (cb (cr (codeOf Tryz.f100))))))) d t s (lastK (Ev base G) call fuel false Tryz.f100.results.toList)) (lastK (Ev base G) call fuel false Tryz.f100.results.toList)))) = fold_Class_3 (Ev base G) call fuel r3 (t 0) (t 3) (t 44) (t 45) s :=
  fun t s => (nfRF t s).trans (by kernel_rfl)

theorem fold_Class_2_eq (base : Nat) (G : Nat → Nat → Option Value) (call : CallF) (fuel : Nat) : ∀ (t : FT) (s : St), (Ev base G).codeK call fuel false (cb (cr (cl (cr (cr (cr (cb (cr (codeOf Tryz.f100))))))))) [] t s (blkK 1 (thenK false (fun d t s => (Ev base G).codeK call fuel false (cr (cr (cr (cr (cb (cr (codeOf Tryz.f100))))))) d t s (lastK (Ev base G) call fuel false Tryz.f100.results.toList)) (lastK (Ev base G) call fuel false Tryz.f100.results.toList))) = fold_Class_2 (Ev base G) call fuel fuel (t 0) (t 3) (t 44) (t 45) s :=
  nfLF (F := fun n t s => fold_Class_2 (Ev base G) call fuel n (t 0) (t 3) (t 44) (t 45) s) (by kernel_rfl) (fun _ _ => by kernel_rfl) (fun n t s => (fold_Class_3_eq base G call fuel (fold_Class_2 (Ev base G) call fuel n) t s).trans (by kernel_rfl))

theorem fold_Class_1_eq (base : Nat) (G : Nat → Nat → Option Value) (call : CallF) (fuel : Nat) : ∀ (t : FT) (s : St), (Ev base G).codeK call fuel false (cr (cr (cb (cr (codeOf Tryz.f100))))) [] t s (lastK (Ev base G) call fuel false Tryz.f100.results.toList) = fold_Class_1 (Ev base G) call fuel (t 0) (t 3) s :=
  fun t s => ((nfSF (by kernel_rfl) (nfSF (by kernel_rfl) nfRF (nfSF (by kernel_rfl) (nfBF 1 (by kernel_rfl) (fold_Class_2_eq base G call fuel)) nfRF)) nfRF) t s).trans (by kernel_rfl)

theorem fold_Class_5_eq (base : Nat) (G : Nat → Nat → Option Value) (call : CallF) (fuel : Nat) : ∀ (t : FT) (s : St), (Ev base G).codeK call fuel false (cr (ce (cr (cb (cl (cr (cb (cr (codeOf Tryz.f100))))))))) [] t s (blkK 0 (thenK false (fun _ t s => fold_Class_1 (Ev base G) call fuel (t 0) (t 3) s) (lastK (Ev base G) call fuel false Tryz.f100.results.toList))) = fold_Class_5 (Ev base G) call fuel (t 0) (t 3) (t 19) s :=
  fun t s => (nfRF t s).trans (by kernel_rfl)

theorem fold_Class_6_eq (base : Nat) (G : Nat → Nat → Option Value) (call : CallF) (fuel : Nat) : ∀ (t : FT) (s : St), (Ev base G).codeK call fuel false (cr (cl (ce (cr (cb (cl (cr (cb (cr (codeOf Tryz.f100)))))))))) [] t s (thenK false (fun _ t s => fold_Class_5 (Ev base G) call fuel (t 0) (t 3) (t 19) s) (blkK 0 (thenK false (fun _ t s => fold_Class_1 (Ev base G) call fuel (t 0) (t 3) s) (lastK (Ev base G) call fuel false Tryz.f100.results.toList)))) = fold_Class_6 (Ev base G) call fuel (t 0) (t 3) (t 19) s :=
  fun t s => (nfRF t s).trans (by kernel_rfl)

theorem fold_Class_4_eq (base : Nat) (G : Nat → Nat → Option Value) (call : CallF) (fuel : Nat) : ∀ (t : FT) (s : St), (Ev base G).codeK call fuel false (cr (cb (cl (cr (cb (cr (codeOf Tryz.f100))))))) [] t s (blkK 0 (thenK false (fun _ t s => fold_Class_1 (Ev base G) call fuel (t 0) (t 3) s) (lastK (Ev base G) call fuel false Tryz.f100.results.toList))) = fold_Class_4 (Ev base G) call fuel (t 0) (t 3) (t 6) s :=
  fun t s => ((nfCF (by kernel_rfl) nfRF (nfSF (by kernel_rfl) (fold_Class_5_eq base G call fuel) (nfSF (by kernel_rfl) (fold_Class_6_eq base G call fuel) nfRF))) t s).trans (by kernel_rfl)

theorem fold_Class_7_eq (base : Nat) (G : Nat → Nat → Option Value) (call : CallF) (fuel : Nat) : ∀ (t : FT) (s : St), (Ev base G).codeK call fuel false (cr (cl (cb (cl (cr (cb (cr (codeOf Tryz.f100)))))))) [] t s (thenK false (fun _ t s => fold_Class_4 (Ev base G) call fuel (t 0) (t 3) (t 6) s) (blkK 0 (thenK false (fun _ t s => fold_Class_1 (Ev base G) call fuel (t 0) (t 3) s) (lastK (Ev base G) call fuel false Tryz.f100.results.toList)))) = fold_Class_7 (Ev base G) call fuel (t 0) (t 3) (t 6) s :=
  fun t s => (nfRF t s).trans (by kernel_rfl)

theorem fold_Class_0_eq (base : Nat) (G : Nat → Nat → Option Value) (call : CallF) (fuel : Nat) : ∀ (t : FT) (s : St), (Ev base G).codeK call fuel false (codeOf Tryz.f100) [] t s (lastK (Ev base G) call fuel false Tryz.f100.results.toList) = fold_Class_0 (Ev base G) call fuel (t 0) s :=
  fun t s => ((nfSF (by kernel_rfl) (nfOF (by kernel_rfl) (nfSF (by kernel_rfl) (nfSF (by kernel_rfl) (fold_Class_1_eq base G call fuel) (nfBF 0 (by kernel_rfl) (nfSF (by kernel_rfl) (fold_Class_4_eq base G call fuel) (nfSF (by kernel_rfl) (fold_Class_7_eq base G call fuel) nfRF)))) nfRF)) nfRF) t s).trans (by kernel_rfl)

theorem fold_Class_eq (base : Nat) (G : Nat → Nat → Option Value) (call : CallF) (fuel : Nat) (x0 : Value) (σ : St) : (Ev base G).funK call fuel false Tryz.f100 [x0] σ = fold_Class (Ev base G) call fuel x0 σ :=
  (show _ = (Ev base G).codeK call fuel false (codeOf Tryz.f100) [] (argF [x0]) σ (lastK (Ev base G) call fuel false Tryz.f100.results.toList) by kernel_rfl).trans ((fold_Class_0_eq base G call fuel (argF [x0]) σ).trans (by kernel_rfl))
theorem fold_Class_lf (base : Nat) (G : Nat → Nat → Option Value) : LeafOK (Ev base G) 100 (fun call fuel l σ => a1 l fun x0 => (fold_Class (Ev base G) call fuel x0 σ)) :=
  leaf1 (L := false) ⟨Tryz.func100, by kernel_rfl, by kernel_rfl⟩ (fun call fuel x0 σ => fold_Class_eq base G call fuel x0 σ)

/-! 101: plover/fold.Fold -/
theorem fold_Fold_3_eq (base : Nat) (G : Nat → Nat → Option Value) (call : CallF) (fuel : Nat) (r2 : Value → Value → Value → Value → St → R) : ∀ (t : FT) (s : St), (Ev base G).codeK call fuel false (cr (cr (cr (cb (cb (cr (cl (cr (cr (cb (cr (codeOf Tryz.f101)))))))))))) [] t s (thenK false (fun _ t s => r2 (t 0) (t 3) (t 7) (t 8) s) (blkK 0 (thenK false (fun d t s => (Ev base G).codeK call fuel false (cr (cr (cr (cb (cr (codeOf Tryz.f101)))))) d t s (lastK (Ev base G) call fuel false Tryz.f101.results.toList)) (lastK (Ev base G) call fuel false Tryz.f101.results.toList)))) = fold_Fold_3 (Ev base G) call fuel r2 (t 0) (t 3) (t 7) (t 8) s :=
  fun t s => (nfRF t s).trans (by kernel_rfl)

theorem fold_Fold_5_eq (base : Nat) (G : Nat → Nat → Option Value) (call : CallF) (fuel : Nat) (r2 : Value → Value → Value → Value → St → R) : ∀ (t : FT) (s : St), (Ev base G).codeK call fuel false (cr (ce (cr (ce (cr (cb (cl (cr (cb (cl (cr (cr (cb (cb (cr (cl (cr (cr (cb (cr (codeOf Tryz.f101))))))))))))))))))))) [] t s (blkK 2 (thenK false (fun d t s => (Ev base G).codeK call fuel false (cr (cr (cb (cl (cr (cr (cb (cb (cr (cl (cr (cr (cb (cr (codeOf Tryz.f101))))))))))))))) d t s (blkK 1 (thenK false (fun _ t s => fold_Fold_3 (Ev base G) call fuel r2 (t 0) (t 3) (t 7) (t 8) s) (thenK false (fun _ t s => r2 (t 0) (t 3) (t 7) (t 8) s) (blkK 0 (thenK false (fun d t s => (Ev base G).codeK call fuel false (cr (cr (cr (cb (cr (codeOf Tryz.f101)))))) d t s (lastK (Ev base G) call fuel false Tryz.f101.results.toList)) (lastK (Ev base G) call fuel false Tryz.f101.results.toList))))))) (blkK 1 (thenK false (fun _ t s => fold_Fold_3 (Ev base G) call fuel r2 (t 0) (t 3) (t 7) (t 8) s) (thenK false (fun _ t s => r2 (t 0) (t 3) (t 7) (t 8) s) (blkK 0 (thenK false (fun d t s => (Ev base G).codeK call fuel false (cr (cr (cr (cb (cr (codeOf Tryz.f101)))))) d t s (lastK (Ev base G) call fuel false Tryz.f101.results.toList)) (lastK (Ev base G) call fuel false Tryz.f101.results.toList)))))))) = fold_Fold_5 (Ev base G) call fuel r2 (t 0) (t 3) (t 5) (t 28) s :=
  fun t s => (nfRF t s).trans (by kernel_rfl)

theorem fold_Fold_6_eq (base : Nat) (G : Nat → Nat → Option Value) (call : CallF) (fuel : Nat) (r2 : Value → Value → Value → Value → St → R) : ∀ (t : FT) (s : St), (Ev base G).codeK call fuel false (cr (ce (cr (cl (ce (cr (ce (cr (cb (cl (cr (cb (cl (cr (cr (cb (cb (cr (cl (cr (cr (cb (cr (codeOf Tryz.f101)))))))))))))))))))))))) [] t s (thenK false (fun _ t s => fold_Fold_5 (Ev base G) call fuel r2 (t 0) (t 3) (t 5) (t 28) s) (blkK 2 (thenK false (fun d t s => (Ev base G).codeK call fuel false (cr (cr (cb (cl (cr (cr (cb (cb (cr (cl (cr (cr (cb (cr (codeOf Tryz.f101))))))))))))))) d t s (blkK 1 (thenK false (fun _ t s => fold_Fold_3 (Ev base G) call fuel r2 (t 0) (t 3) (t 7) (t 8) s) (thenK false (fun _ t s => r2 (t 0) (t 3) (t 7) (t 8) s) (blkK 0 (thenK false (fun d t s => (Ev base G).codeK call fuel false (cr (cr (cr (cb (cr (codeOf Tryz.f101)))))) d t s (lastK (Ev base G) call fuel false Tryz.f101.results.toList)) (lastK (Ev base G) call fuel false Tryz.f101.results.toList))))))) (blkK 1 (thenK false (fun _ t s => fold_Fold_3 (Ev base G) call fuel r2 (t 0) (t 3) (t 7) (t 8) s) (thenK false (fun _ t s => r2 (t 0) (t 3) (t 7) (t 8) s) (blkK 0 (thenK false (fun d t s => (Ev base G).codeK call fuel false (cr (cr (cr (cb (cr (codeOf Tryz.f101)))))) d t s (lastK (Ev base G) call fuel false Tryz.f101.results.toList)) (lastK (Ev base G) call fuel false Tryz.f101.results.toList))))))))) = fold_Fold_6 (Ev base G) call fuel r2 (t 0) (t 3) (t 5) (t 28) s :=
  fun t s => (nfRF t s).trans (by kernel_rfl)

theorem fold_Fold_4_eq (base : Nat) (G : Nat → Nat → Option Value) (call : CallF) (fuel : Nat) (r2 : Value → Value → Value → Value → St → R) : ∀ (t : FT) (s : St), (Ev base G).codeK call fuel false (cr (cb (cl (cr (cb (cl (cr (cr (cb (cb (cr (cl (cr (cr (cb (cr (codeOf Tryz.f101))))))))))))))))) [] t s (blkK 2 (thenK false (fun d t s => (Ev base G).codeK call fuel false (cr (cr (cb (cl (cr (cr (cb (cb (cr (cl (cr (cr (cb (cr (codeOf Tryz.f101))))))))))))))) d t s (blkK 1 (thenK false (fun _ t s => fold_Fold_3 (Ev base G) call fuel r2 (t 0) (t 3) (t 7) (t 8) s) (thenK false (fun _ t s => r2 (t 0) (t 3) (t 7) (t 8) s) (blkK 0 (thenK false (fun d t s => (Ev base G).codeK call fuel false (cr (cr (cr (cb (cr (codeOf Tryz.f101)))))) d t s (lastK (Ev base G) call fuel false Tryz.f101.results.toList)) (lastK (Ev base G) call fuel false Tryz.f101.results.toList))))))) (blkK 1 (thenK false (fun _ t s => fold_Fold_3 (Ev base G) call fuel r2 (t 0) (t 3) (t 7) (t 8) s) (thenK false (fun _ t s => r2 (t 0) (t 3) (t 7) (t 8) s) (blkK 0 (thenK false (fun d t s => (Ev base G).codeK call fuel false (cr (cr (cr (cb (cr (codeOf Tryz.f101)))))) d t s (lastK (Ev base G) call fuel false Tryz.f101.results.toList)) (lastK (Ev base G) call fuel false Tryz.f101.results.toList)))))))) = fold_Fold_4 (Ev base G) call fuel r2 (t 0) (t 3) (t 5) (t 7) (t 8) (t 11) s :=
  fun t s => ((nfCF (by kernel_rfl) nfRF (nfSF (by kernel_rfl) (nfCF (by kernel_rfl) nfRF (nfSF (by kernel_rfl) (fold_Fold_5_eq base G call fuel r2) (nfSF (by kernel_rfl) (nfCF (by kernel_rfl) nfRF (nfSF (by kernel_rfl) (fold_Fold_6_eq base G call fuel r2) nfRF)) nfRF))) nfRF)) t s).trans (by kernel_rfl)

theorem fold_Fold_2_eq (base : Nat) (G : Nat → Nat → Option Value) (call : CallF) (fuel : Nat) (r2 : Value → Value → Value → Value → St → R) : ∀ (t : FT) (s : St), (Ev base G).codeK call fuel false (cb (cb (cr (cl (cr (cr (cb (cr (codeOf Tryz.f101))))))))) [] t s (thenK false (fun _ t s => r2 (t 0) (t 3) (t 7) (t 8) s) (blkK 0 (thenK false (fun d t s => (Ev base G).codeK call fuel false (cr (cr (cr (cb (cr (codeOf Tryz.f101)))))) d t s (lastK (Ev base G) call fuel false Tryz.f101.results.toList)) (lastK (Ev base G) call fuel false Tryz.f101.results.toList)))) = fold_Fold_2 (Ev base G) call fuel r2 (t 0) (t 3) (t 7) (t 8) s :=
  fun t s => ((nfSF (by kernel_rfl) (nfSF (by kernel_rfl) (nfSF (by kernel_rfl) (fold_Fold_3_eq base G call fuel r2) (nfBF 1 (by kernel_rfl) (nfSF (by kernel_rfl) (nfSF (by kernel_rfl) nfRF (nfBF 2 (by kernel_rfl) (nfSF (by kernel_rfl) (fold_Fold_4_eq base G call fuel r2) nfRF))) nfRF))) nfRF) nfRF) t s).trans (by kernel_rfl)

theorem fold_Fold_1_eq (base : Nat) (G : Nat → Nat → Option Value) (call : CallF) (fuel : Nat) : ∀ (t : FT) (s : St), (Ev base G).codeK call fuel false (cb (cr (cl (cr (cr (cb (cr (codeOf Tryz.f101)))))))) [] t s (blkK 0 (thenK false (fun d t s => (Ev base G).codeK call fuel false (cr (cr (cr (cb (cr (codeOf Tryz.f101)))))) d t s (lastK (Ev base G) call fuel false Tryz.f101.results.toList)) (lastK (Ev base G) call fuel false Tryz.f101.results.toList))) = fold_Fold_1 (Ev base G) call fuel fuel (t 0) (t 3) (t 7) (t 8) s :=
  nfLF (F := fun n t s => fold_Fold_1 (Ev base G) call fuel n (t 0) (t 3) (t 7) (t 8) s) (by kernel_rfl) (fun _ _ => by kernel_rfl) (fun n t s => (fold_Fold_2_eq base G call fuel (fold_Fold_1 (Ev base G) call fuel n) t s).trans (by kernel_rfl))

theorem fold_Fold_0_eq (base : Nat) (G : Nat → Nat → Option Value) (call : CallF) (fuel : Nat) : ∀ (t : FT) (s : St), (Ev base G).codeK call fuel false (codeOf Tryz.f101) [] t s (lastK (Ev base G) call fuel false Tryz.f101.results.toList) = fold_Fold_0 (Ev base G) call fuel (t 0) s :=
  fun t s => ((nfSF (by kernel_rfl) (nfOF (by kernel_rfl) (nfSF (by kernel_rfl) (nfSF (by kernel_rfl) (nfSF (by kernel_rfl) nfRF (nfSF (by kernel_rfl) (nfBF 0 (by kernel_rfl) (fold_Fold_1_eq base G call fuel)) nfRF)) nfRF) nfRF)) nfRF) t s).trans (by kernel_rfl)

theorem fold_Fold_eq (base : Nat) (G : Nat → Nat → Option Value) (call : CallF) (fuel : Nat) (x0 : Value) (σ : St) : (Ev base G).funK call fuel false Tryz.f101 [x0] σ = fold_Fold (Ev base G) call fuel x0 σ :=
  (show _ = (Ev base G).codeK call fuel false (codeOf Tryz.f101) [] (argF [x0]) σ (lastK (Ev base G) call fuel false Tryz.f101.results.toList) by kernel_rfl).trans ((fold_Fold_0_eq base G call fuel (argF [x0]) σ).trans (by kernel_rfl))
theorem fold_Fold_lf (base : Nat) (G : Nat → Nat → Option Value) : LeafOK (Ev base G) 101 (fun call fuel l σ => a1 l fun x0 => (fold_Fold (Ev base G) call fuel x0 σ)) :=
  leaf1 (L := false) ⟨Tryz.func101, by kernel_rfl, by kernel_rfl⟩ (fun call fuel x0 σ => fold_Fold_eq base G call fuel x0 σ)

/-! 102: plover/utf.Fit -/
theorem utf_Fit_1_eq (base : Nat) (G : Nat → Nat → Option Value) (call : CallF) (fuel : Nat) : ∀ (t : FT) (s : St), (Ev base G).codeK call fuel false (cr (cr (cr (codeOf Tryz.f102)))) [] t s (lastK (Ev base G) call fuel false Tryz.f102.results.toList) = utf_Fit_1 (Ev base G) call fuel (t 5) s :=
  fun t s => (nfRF t s).trans (by kernel_rfl)

theorem utf_Fit_4_eq (base : Nat) (G : Nat → Nat → Option Value) (call : CallF) (fuel : Nat) (r3 : Value → Value → Value → St → R) : ∀ (t : FT) (s : St), (Ev base G).codeK call fuel false (cr (cr (cr (cb (cr (cr (cb (cb (cr (cl (cr (cr (codeOf Tryz.f102))))))))))))) [] t s (blkK 1 (thenK false (fun _ t s => r3 (t 1) (t 5) (t 10) s) (blkK 0 (thenK false (fun _ t s => utf_Fit_1 (Ev base G) call fuel (t 5) s) (lastK (Ev base G) call fuel false Tryz.f102.results.toList))))) = utf_Fit_4 (Ev base G) call fuel r3 (t 1) (t 5) (t 8) (t 10) s :=
  fun t s => (nfRF t s).trans (by kernel_rfl)

theorem utf_Fit_5_eq (base : Nat) (G : Nat → Nat → Option Value) (call : CallF) (fuel : Nat) (r3 : Value → Value → Value → St → R) : ∀ (t : FT) (s : St), (Ev base G).codeK call fuel false (cr (cl (cr (cr (cb (cr (cr (cb (cb (cr (cl (cr (cr (codeOf Tryz.f102)))))))))))))) [] t s (thenK false (fun _ t s => utf_Fit_4 (Ev base G) call fuel r3 (t 1) (t 5) (t 8) (t 10) s) (blkK 1 (thenK false (fun _ t s => r3 (t 1) (t 5) (t 10) s) (blkK 0 (thenK false (fun _ t s => utf_Fit_1 (Ev base G) call fuel (t 5) s) (lastK (Ev base G) call fuel false Tryz.f102.results.toList)))))) = utf_Fit_5 (Ev base G) call fuel r3 (t 1) (t 5) (t 8) (t 10) (t 26) s :=
  fun t s => (nfRF t s).trans (by kernel_rfl)

theorem utf_Fit_3_eq (base : Nat) (G : Nat → Nat → Option Value) (call : CallF) (fuel : Nat) (r3 : Value → Value → Value → St → R) : ∀ (t : FT) (s : St), (Ev base G).codeK call fuel false (cb (cb (cr (cl (cr (cr (codeOf Tryz.f102))))))) [] t s (thenK false (fun _ t s => r3 (t 1) (t 5) (t 10) s) (blkK 0 (thenK false (fun _ t s => utf_Fit_1 (Ev base G) call fuel (t 5) s) (lastK (Ev base G) call fuel false Tryz.f102.results.toList)))) = utf_Fit_3 (Ev base G) call fuel r3 (t 1) (t 5) (t 10) s :=
  fun t s => ((nfSF (by kernel_rfl) (nfSF (by kernel_rfl) (nfBF 1 (by kernel_rfl) (nfSF (by kernel_rfl) (nfSF (by kernel_rfl) (nfSF (by kernel_rfl) (utf_Fit_4_eq base G call fuel r3) (nfSF (by kernel_rfl) (utf_Fit_5_eq base G call fuel r3) nfRF)) nfRF) nfRF)) nfRF) nfRF) t s).trans (by kernel_rfl)

theorem utf_Fit_2_eq (base : Nat) (G : Nat → Nat → Option Value) (call : CallF) (fuel : Nat) : ∀ (t : FT) (s : St), (Ev base G).codeK call fuel false (cb (cr (cl (cr (cr (codeOf Tryz.f102)))))) [] t s (blkK 0 (thenK false (fun _ t s => utf_Fit_1 (Ev base G) call fuel (t 5) s) (lastK (Ev base G) call fuel false Tryz.f102.results.toList))) = utf_Fit_2 (Ev base G) call fuel fuel (t 1) (t 5) (t 10) s :=
  nfLF (F := fun n t s => utf_Fit_2 (Ev base G) call fuel n (t 1) (t 5) (t 10) s) (by kernel_rfl) (fun _ _ => by kernel_rfl) (fun n t s => (utf_Fit_3_eq base G call fuel (utf_Fit_2 (Ev base G) call fuel n) t s).trans (by kernel_rfl))

theorem utf_Fit_0_eq (base : Nat) (G : Nat → Nat → Option Value) (call : CallF) (fuel : Nat) : ∀ (t : FT) (s : St), (Ev base G).codeK call fuel false (codeOf Tryz.f102) [] t s (lastK (Ev base G) call fuel false Tryz.f102.results.toList) = utf_Fit_0 (Ev base G) call fuel (t 0) (t 1) s :=
  fun t s => ((nfSF (by kernel_rfl) (nfSF (by kernel_rfl) (nfSF (by kernel_rfl) (utf_Fit_1_eq base G call fuel) (nfSF (by kernel_rfl) (nfBF 0 (by kernel_rfl) (utf_Fit_2_eq base G call fuel)) nfRF)) nfRF) nfRF) t s).trans (by kernel_rfl)

theorem utf_Fit_eq (base : Nat) (G : Nat → Nat → Option Value) (call : CallF) (fuel : Nat) (x0 x1 : Value) (σ : St) : (Ev base G).funK call fuel false Tryz.f102 [x0, x1] σ = utf_Fit (Ev base G) call fuel x0 x1 σ :=
  (show _ = (Ev base G).codeK call fuel false (codeOf Tryz.f102) [] (argF [x0, x1]) σ (lastK (Ev base G) call fuel false Tryz.f102.results.toList) by kernel_rfl).trans ((utf_Fit_0_eq base G call fuel (argF [x0, x1]) σ).trans (by kernel_rfl))
theorem utf_Fit_lf (base : Nat) (G : Nat → Nat → Option Value) : LeafOK (Ev base G) 102 (fun call fuel l σ => a2 l fun x0 x1 => (utf_Fit (Ev base G) call fuel x0 x1 σ)) :=
  leaf2 (L := false) ⟨Tryz.func102, by kernel_rfl, by kernel_rfl⟩ (fun call fuel x0 x1 σ => utf_Fit_eq base G call fuel x0 x1 σ)

/-! 103: plover/utf.Text -/
theorem utf_Text_1_eq (base : Nat) (G : Nat → Nat → Option Value) (call : CallF) (fuel : Nat) : ∀ (t : FT) (s : St), (Ev base G).codeK call fuel false (cr (cr (cr (codeOf Tryz.f103)))) [] t s (lastK (Ev base G) call fuel false Tryz.f103.results.toList) = utf_Text_1 (Ev base G) call fuel (t 3) s :=
  fun t s => (nfRF t s).trans (by kernel_rfl)

theorem utf_Text_3_eq (base : Nat) (G : Nat → Nat → Option Value) (call : CallF) (fuel : Nat) (r3 : Value → Value → Value → Value → St → R) : ∀ (t : FT) (s : St), (Ev base G).codeK call fuel false (cb (cb (cr (cl (cr (cr (codeOf Tryz.f103))))))) [] t s (thenK false (fun _ t s => r3 (t 3) (t 6) (t 7) (t 8) s) (blkK 0 (thenK false (fun _ t s => utf_Text_1 (Ev base G) call fuel (t 3) s) (lastK (Ev base G) call fuel false Tryz.f103.results.toList)))) = utf_Text_3 (Ev base G) call fuel r3 (t 3) (t 6) (t 7) (t 8) s :=
  fun t s => (nfRF t s).trans (by kernel_rfl)

theorem utf_Text_2_eq (base : Nat) (G : Nat → Nat → Option Value) (call : CallF) (fuel : Nat) : ∀ (t : FT) (s : St), (Ev base G).codeK call fuel false (cb (cr (cl (cr (cr (codeOf Tryz.f103)))))) [] t s (blkK 0 (thenK false (fun _ t s => utf_Text_1 (Ev base G) call fuel (t 3) s) (lastK (Ev base G) call fuel false Tryz.f103.results.toList))) = utf_Text_2 (Ev base G) call fuel fuel (t 3) (t 6) (t 7) (t 8) s :=
  nfLF (F := fun n t s => utf_Text_2 (Ev base G) call fuel n (t 3) (t 6) (t 7) (t 8) s) (by kernel_rfl) (fun _ _ => by kernel_rfl) (fun n t s => (utf_Text_3_eq base G call fuel (utf_Text_2 (Ev base G) call fuel n) t s).trans (by kernel_rfl))

theorem utf_Text_0_eq (base : Nat) (G : Nat → Nat → Option Value) (call : CallF) (fuel : Nat) : ∀ (t : FT) (s : St), (Ev base G).codeK call fuel false (codeOf Tryz.f103) [] t s (lastK (Ev base G) call fuel false Tryz.f103.results.toList) = utf_Text_0 (Ev base G) call fuel (t 0) s :=
  fun t s => ((nfSF (by kernel_rfl) (nfSF (by kernel_rfl) (nfSF (by kernel_rfl) (utf_Text_1_eq base G call fuel) (nfSF (by kernel_rfl) (nfBF 0 (by kernel_rfl) (utf_Text_2_eq base G call fuel)) nfRF)) nfRF) nfRF) t s).trans (by kernel_rfl)

theorem utf_Text_eq (base : Nat) (G : Nat → Nat → Option Value) (call : CallF) (fuel : Nat) (x0 : Value) (σ : St) : (Ev base G).funK call fuel false Tryz.f103 [x0] σ = utf_Text (Ev base G) call fuel x0 σ :=
  (show _ = (Ev base G).codeK call fuel false (codeOf Tryz.f103) [] (argF [x0]) σ (lastK (Ev base G) call fuel false Tryz.f103.results.toList) by kernel_rfl).trans ((utf_Text_0_eq base G call fuel (argF [x0]) σ).trans (by kernel_rfl))
theorem utf_Text_lf (base : Nat) (G : Nat → Nat → Option Value) : LeafOK (Ev base G) 103 (fun call fuel l σ => a1 l fun x0 => (utf_Text (Ev base G) call fuel x0 σ)) :=
  leaf1 (L := false) ⟨Tryz.func103, by kernel_rfl, by kernel_rfl⟩ (fun call fuel x0 σ => utf_Text_eq base G call fuel x0 σ)

/-! 104: plover/token.Stop -/
theorem token_Stop_1_eq (base : Nat) (G : Nat → Nat → Option Value) (call : CallF) (fuel : Nat) : ∀ (t : FT) (s : St), (Ev base G).codeK call fuel false (cr (cb (cr (cl (cr (codeOf Tryz.f104)))))) [] t s (blkK 0 (thenK false (fun d t s => (Ev base G).codeK call fuel false (cr (cr (codeOf Tryz.f104))) d t s (lastK (Ev base G) call fuel false Tryz.f104.results.toList)) (lastK (Ev base G) call fuel false Tryz.f104.results.toList))) = token_Stop_1 (Ev base G) call fuel (t 4) s :=
  fun t s => (nfRF t s).trans (by kernel_rfl)

theorem token_Stop_0_eq (base : Nat) (G : Nat → Nat → Option Value) (call : CallF) (fuel : Nat) : ∀ (t : FT) (s : St), (Ev base G).codeK call fuel false (codeOf Tryz.f104) [] t s (lastK (Ev base G) call fuel false Tryz.f104.results.toList) = token_Stop_0 (Ev base G) call fuel (t 0) s :=
  fun t s => ((nfSF (by kernel_rfl) (nfSF (by kernel_rfl) nfRF (nfSF (by kernel_rfl) (nfBF 0 (by kernel_rfl) (nfSF (by kernel_rfl) (token_Stop_1_eq base G call fuel) nfRF)) nfRF)) nfRF) t s).trans (by kernel_rfl)

theorem token_Stop_eq (base : Nat) (G : Nat → Nat → Option Value) (call : CallF) (fuel : Nat) (x0 : Value) (σ : St) : (Ev base G).funK call fuel false Tryz.f104 [x0] σ = token_Stop (Ev base G) call fuel x0 σ :=
  (show _ = (Ev base G).codeK call fuel false (codeOf Tryz.f104) [] (argF [x0]) σ (lastK (Ev base G) call fuel false Tryz.f104.results.toList) by kernel_rfl).trans ((token_Stop_0_eq base G call fuel (argF [x0]) σ).trans (by kernel_rfl))
theorem token_Stop_lf (base : Nat) (G : Nat → Nat → Option Value) : LeafOK (Ev base G) 104 (fun call fuel l σ => a1 l fun x0 => (token_Stop (Ev base G) call fuel x0 σ)) :=
  leaf1 (L := false) ⟨Tryz.func104, by kernel_rfl, by kernel_rfl⟩ (fun call fuel x0 σ => token_Stop_eq base G call fuel x0 σ)

/-! 105: plover/pack.Hash -/
theorem pack_Hash_2_eq (base : Nat) (G : Nat → Nat → Option Value) (call : CallF) (fuel : Nat) (r2 : Value → Value → Value → Value → St → R) : ∀ (t : FT) (s : St), (Ev base G).codeK call fuel false (cb (cb (cr (cl (cr (cr (codeOf Tryz.f105))))))) [] t s (thenK false (fun _ t s => r2 (t 0) (t 3) (t 6) (t 7) s) (blkK 0 (thenK false (fun d t s => (Ev base G).codeK call fuel false (cr (cr (cr (codeOf Tryz.f105)))) d t s (lastK (Ev base G) call fuel false Tryz.f105.results.toList)) (lastK (Ev base G) call fuel false Tryz.f105.results.toList)))) = pack_Hash_2 (Ev base G) call fuel r2 (t 0) (t 3) (t 6) (t 7) s :=
  fun t s => (nfRF t s).trans (by kernel_rfl)

theorem pack_Hash_1_eq (base : Nat) (G : Nat → Nat → Option Value) (call : CallF) (fuel : Nat) : ∀ (t : FT) (s : St), (Ev base G).codeK call fuel false (cb (cr (cl (cr (cr (codeOf Tryz.f105)))))) [] t s (blkK 0 (thenK false (fun d t s => (Ev base G).codeK call fuel false (cr (cr (cr (codeOf Tryz.f105)))) d t s (lastK (Ev base G) call fuel false Tryz.f105.results.toList)) (lastK (Ev base G) call fuel false Tryz.f105.results.toList))) = pack_Hash_1 (Ev base G) call fuel fuel (t 0) (t 3) (t 6) (t 7) s :=
  nfLF (F := fun n t s => pack_Hash_1 (Ev base G) call fuel n (t 0) (t 3) (t 6) (t 7) s) (by kernel_rfl) (fun _ _ => by kernel_rfl) (fun n t s => (pack_Hash_2_eq base G call fuel (pack_Hash_1 (Ev base G) call fuel n) t s).trans (by kernel_rfl))

theorem pack_Hash_0_eq (base : Nat) (G : Nat → Nat → Option Value) (call : CallF) (fuel : Nat) : ∀ (t : FT) (s : St), (Ev base G).codeK call fuel false (codeOf Tryz.f105) [] t s (lastK (Ev base G) call fuel false Tryz.f105.results.toList) = pack_Hash_0 (Ev base G) call fuel (t 0) s :=
  fun t s => ((nfSF (by kernel_rfl) (nfSF (by kernel_rfl) (nfSF (by kernel_rfl) nfRF (nfSF (by kernel_rfl) (nfBF 0 (by kernel_rfl) (pack_Hash_1_eq base G call fuel)) nfRF)) nfRF) nfRF) t s).trans (by kernel_rfl)

theorem pack_Hash_eq (base : Nat) (G : Nat → Nat → Option Value) (call : CallF) (fuel : Nat) (x0 : Value) (σ : St) : (Ev base G).funK call fuel false Tryz.f105 [x0] σ = pack_Hash (Ev base G) call fuel x0 σ :=
  (show _ = (Ev base G).codeK call fuel false (codeOf Tryz.f105) [] (argF [x0]) σ (lastK (Ev base G) call fuel false Tryz.f105.results.toList) by kernel_rfl).trans ((pack_Hash_0_eq base G call fuel (argF [x0]) σ).trans (by kernel_rfl))
theorem pack_Hash_lf (base : Nat) (G : Nat → Nat → Option Value) : LeafOK (Ev base G) 105 (fun call fuel l σ => a1 l fun x0 => (pack_Hash (Ev base G) call fuel x0 σ)) :=
  leaf1 (L := false) ⟨Tryz.func105, by kernel_rfl, by kernel_rfl⟩ (fun call fuel x0 σ => pack_Hash_eq base G call fuel x0 σ)

/-! 106: plover/post.next -/
theorem post_next_1_eq (base : Nat) (G : Nat → Nat → Option Value) (call : CallF) (fuel : Nat) : ∀ (t : FT) (s : St), (Ev base G).codeK call fuel false (cr (cb (cl (cr (cr (cr (codeOf Tryz.f106))))))) [] t s (blkK 0 (thenK false (fun d t s => (Ev base G).codeK call fuel false (cr (cr (cr (cr (codeOf Tryz.f106))))) d t s (lastK (Ev base G) call fuel false Tryz.f106.results.toList)) (lastK (Ev base G) call fuel false Tryz.f106.results.toList))) = post_next_1 (Ev base G) call fuel (t 6) (t 7) (t 16) s :=
  fun t s => (nfRF t s).trans (by kernel_rfl)

theorem post_next_0_eq (base : Nat) (G : Nat → Nat → Option Value) (call : CallF) (fuel : Nat) : ∀ (t : FT) (s : St), (Ev base G).codeK call fuel false (codeOf Tryz.f106) [] t s (lastK (Ev base G) call fuel false Tryz.f106.results.toList) = post_next_0 (Ev base G) call fuel (t 0) (t 1) s :=
  fun t s => ((nfSF (by kernel_rfl) (nfSF (by kernel_rfl) (nfSF (by kernel_rfl) (nfSF (by kernel_rfl) nfRF (nfBF 0 (by kernel_rfl) (nfSF (by kernel_rfl) (post_next_1_eq base G call fuel) nfRF))) nfRF) nfRF) nfRF) t s).trans (by kernel_rfl)

theorem post_next_eq (base : Nat) (G : Nat → Nat → Option Value) (call : CallF) (fuel : Nat) (x0 x1 : Value) (σ : St) : (Ev base G).funK call fuel false Tryz.f106 [x0, x1] σ = post_next (Ev base G) call fuel x0 x1 σ :=
  (show _ = (Ev base G).codeK call fuel false (codeOf Tryz.f106) [] (argF [x0, x1]) σ (lastK (Ev base G) call fuel false Tryz.f106.results.toList) by kernel_rfl).trans ((post_next_0_eq base G call fuel (argF [x0, x1]) σ).trans (by kernel_rfl))
theorem post_next_lf (base : Nat) (G : Nat → Nat → Option Value) : LeafOK (Ev base G) 106 (fun call fuel l σ => a2 l fun x0 x1 => (post_next (Ev base G) call fuel x0 x1 σ)) :=
  leaf2 (L := false) ⟨Tryz.func106, by kernel_rfl, by kernel_rfl⟩ (fun call fuel x0 x1 σ => post_next_eq base G call fuel x0 x1 σ)

/-! 108: plover/pool.Slab -/
theorem pool_Slab_0_eq (base : Nat) (G : Nat → Nat → Option Value) (call : CallF) (fuel : Nat) : ∀ (t : FT) (s : St), (Ev base G).codeK call fuel false (codeOf Tryz.f108) [] t s (lastK (Ev base G) call fuel false Tryz.f108.results.toList) = pool_Slab_0 (Ev base G) call fuel (t 0) s :=
  fun t s => (nfRF t s).trans (by kernel_rfl)

theorem pool_Slab_eq (base : Nat) (G : Nat → Nat → Option Value) (call : CallF) (fuel : Nat) (x0 : Value) (σ : St) : (Ev base G).funK call fuel false Tryz.f108 [x0] σ = pool_Slab (Ev base G) call fuel x0 σ :=
  (show _ = (Ev base G).codeK call fuel false (codeOf Tryz.f108) [] (argF [x0]) σ (lastK (Ev base G) call fuel false Tryz.f108.results.toList) by kernel_rfl).trans ((pool_Slab_0_eq base G call fuel (argF [x0]) σ).trans (by kernel_rfl))
theorem pool_Slab_lf (base : Nat) (G : Nat → Nat → Option Value) : LeafOK (Ev base G) 108 (fun call fuel l σ => a1 l fun x0 => (pool_Slab (Ev base G) call fuel x0 σ)) :=
  leaf1 (L := false) ⟨Tryz.func108, by kernel_rfl, by kernel_rfl⟩ (fun call fuel x0 σ => pool_Slab_eq base G call fuel x0 σ)

theorem tbl_ok (base : Nat) (G : Nat → Nat → Option Value) : (tbl (Ev base G)).all (LeafOK (Ev base G)) :=
 ⟨⟨⟨⟨⟨⟨(law23_fixed_lf base G), (engine_Engine_Begin_lf base G)⟩, ⟨(engine_Engine_Pick_lf base G), (engine_Engine_Busy_lf base G)⟩⟩, ⟨⟨(engine_Engine_Steps_lf base G), (engine_Engine_History_lf base G)⟩, ⟨(engine_Engine_Cells_lf base G), (engine_Engine_Used_lf base G)⟩⟩⟩, ⟨⟨⟨(engine_Engine_Version_lf base G), (engine_Engine_Segments_lf base G)⟩, ⟨(engine_New_lf base G), (law23_rest_lf base G)⟩⟩, ⟨⟨(engine_fits_lf base G), (engine_clone_lf base G)⟩, ⟨(step_New_lf base G), (engine_Engine_Begin_c1_lf base G)⟩⟩⟩⟩, ⟨⟨⟨⟨(write_Add_lf base G), (step_Run_Step_lf base G)⟩, ⟨(slices_Clone_api_Done_lf base G), (slices_Clone_api_Hit_lf base G)⟩⟩, ⟨⟨(mem_Mem_Cells_lf base G), (pool_Lay_lf base G)⟩, ⟨(mem_New_lf base G), (write_New_lf base G)⟩⟩⟩, ⟨⟨⟨(ref23_Bound_lf base G), (slices_Clone_string_lf base G)⟩, ⟨(token_Tokens_lf base G), (write_place_lf base G)⟩⟩, ⟨⟨(write_Base_lf base G), (step_Run_Off_lf base G)⟩, ⟨(write_terms_lf base G), ⟨(write_needs_lf base G), (pool_Fits_lf base G)⟩⟩⟩⟩⟩⟩, ⟨⟨⟨⟨⟨(slices_Clone_api_Seg_lf base G), (write_place1_lf base G)⟩, ⟨(table_Lay_lf base G), (step_Run_Store_lf base G)⟩⟩, ⟨⟨(pool_Take_lf base G), (step_Run_Load_lf base G)⟩, ⟨(pool_between_lf base G), (mem_Mem_Len_lf base G)⟩⟩⟩, ⟨⟨⟨(mem_Mem_Store_lf base G), (token_Words_lf base G)⟩, ⟨(table_Find_lf base G), (pack_Key_lf base G)⟩⟩, ⟨⟨(dict_Find_lf base G), (pack_Cells_lf base G)⟩, ⟨(post_Need_lf base G), (slices_IndexFunc_write_term_lf base G)⟩⟩⟩⟩, ⟨⟨⟨⟨(write_place1_c1_lf base G), (dict_Put_lf base G)⟩, ⟨(pack_Word_lf base G), (post_Put_lf base G)⟩⟩, ⟨⟨(dict_SetTail_lf base G), (step_Run_turn_lf base G)⟩, ⟨(step_Run_made_lf base G), (utf_Runes_lf base G)⟩⟩⟩, ⟨⟨⟨(mem_Mem_Load_lf base G), (fold_Class_lf base G)⟩, ⟨(fold_Fold_lf base G), (utf_Fit_lf base G)⟩⟩, ⟨⟨(utf_Text_lf base G), (token_Stop_lf base G)⟩, ⟨(pack_Hash_lf base G), ⟨(post_next_lf base G), (pool_Slab_lf base G)⟩⟩⟩⟩⟩⟩⟩

end Go.Proofs.YtjioijajmkdefaaGreatDoor.S
