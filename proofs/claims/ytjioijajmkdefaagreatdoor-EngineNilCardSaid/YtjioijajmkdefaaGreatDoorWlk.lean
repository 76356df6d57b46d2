/-
  The walk of 'EngineNil'.
-/
import Derived.Test.YtjioijajmkdefaaGreatDoorNil
import Derived.Test.YtjioijajmkdefaaGreatDoorFix
namespace Go.Proofs.YtjioijajmkdefaaGreatDoor.Nil
open Go Go.RowKit Go.B

theorem ok_below {E : Env} {W w : World} (h : E.ok W) (hs : E.base ≤ W.heap.size) (hb : Below W.heap.size W w) : E.ok w :=
  ⟨fun g i v hg hG => ⟨(hb.cell (p := ⟨g, i, none⟩) (Nat.lt_of_lt_of_le hg hs)).trans (h.G g i v hg hG).1, (h.G g i v hg hG).2⟩⟩

/-- What was there reads as it did. -/
theorem bcell {W w1 : World} (hb : Below W.heap.size W w1) : (∀ b o, b < W.heap.size → w1.cell? ⟨b, o, none⟩ = W.cell? ⟨b, o, none⟩) ∧ (∀ b o, b < W.heap.size → w1.frozen? ⟨b, o, none⟩ = W.frozen? ⟨b, o, none⟩) :=
  ⟨fun _ _ h => hb.cell h, fun _ _ h => hb.frozen h⟩
def Six (W : World) : Prop := Fix.E.ok W ∧ 6 ≤ W.heap.size
theorem Six.below {W w : World} (h : Six W) (hb : Below W.heap.size W w) : Six w := ⟨ok_below h.1 h.2 hb, Nat.le_trans h.2 hb.size⟩

theorem c4 {W1 w : World} (h : Six W1) (hb : Below W1.heap.size W1 w) : Calls Tryz.prog 4 #[] w fun e w' => e = .returned (.bool true) ∧ Below W1.heap.size W1 w' := chain (fun w hb => Fix.call4 (h.below hb).1 (h.below hb).2) hb
theorem c6 {W1 w : World} (h : Six W1) (hb : Below W1.heap.size W1 w) (n : Int) : Calls Tryz.prog 6 #[.pointer none, .int .i64 n] w fun e w' => e = .returned (.bool false) ∧ Below W1.heap.size W1 w' := chain (fun w hb => Fix.call6 (h.below hb).1 (h.below hb).2 n) hb
theorem c7 {W1 w : World} (h : Six W1) (hb : Below W1.heap.size W1 w) (n : Int) : Calls Tryz.prog 7 #[.pointer none, .int .i64 n] w fun e w' => e = .returned (.bool false) ∧ Below W1.heap.size W1 w' := chain (fun w hb => Fix.call7 (h.below hb).1 (h.below hb).2 n) hb
theorem c8 {W1 w : World} (h : Six W1) (hb : Below W1.heap.size W1 w) : Calls Tryz.prog 8 #[.pointer none] w fun e w' => e = .returned (.int .i64 0) ∧ Below W1.heap.size W1 w' := chain (fun w hb => Fix.call8 (h.below hb).1 (h.below hb).2) hb
theorem c9 {W1 w : World} (h : Six W1) (hb : Below W1.heap.size W1 w) : Calls Tryz.prog 9 #[.pointer none] w fun e w' => e = .returned (.slice none 0 0) ∧ Below W1.heap.size W1 w' := chain (fun w hb => Fix.call9 (h.below hb).1 (h.below hb).2) hb
theorem c10 {W1 w : World} (h : Six W1) (hb : Below W1.heap.size W1 w) : Calls Tryz.prog 10 #[.pointer none] w fun e w' => e = .returned (.slice none 0 0) ∧ Below W1.heap.size W1 w' := chain (fun w hb => Fix.call10 (h.below hb).1 (h.below hb).2) hb
theorem c11 {W1 w : World} (h : Six W1) (hb : Below W1.heap.size W1 w) : Calls Tryz.prog 11 #[.pointer none] w fun e w' => e = .returned (.agg #[.int .i64 0, .int .i64 0, .int .i64 0, .int .i64 0, .int .i64 0, .int .i64 0]) ∧ Below W1.heap.size W1 w' := chain (fun w hb => Fix.call11 (h.below hb).1 (h.below hb).2) hb
theorem c12 {W1 w : World} (h : Six W1) (hb : Below W1.heap.size W1 w) : Calls Tryz.prog 12 #[.pointer none] w fun e w' => e = .returned (.int .u32 0) ∧ Below W1.heap.size W1 w' := chain (fun w hb => Fix.call12 (h.below hb).1 (h.below hb).2) hb
theorem c13 {W1 w : World} (h : Six W1) (hb : Below W1.heap.size W1 w) : Calls Tryz.prog 13 #[.pointer none] w fun e w' => e = .returned (.int .i64 0) ∧ Below W1.heap.size W1 w' := chain (fun w hb => Fix.call13 (h.below hb).1 (h.below hb).2) hb
theorem c5 {W1 w : World} (hb : Below W1.heap.size W1 w) (n a b c : Int) (sl : Value) (s : ByteArray) : Calls Tryz.prog 5 #[.pointer none, .int .i64 n, op a b sl c s] w fun e w' => e = .returned (.int .i64 1) ∧ Below W1.heap.size W1 w' := chain (fun w _ => begins n a b c sl s w) hb

theorem six_eq (w : World) : (Op.equalIn 10000 38 (.agg #[.int .i64 0, .int .i64 0, .int .i64 0, .int .i64 0, .int .i64 0, .int .i64 0]) (.agg #[.int .i64 0, .int .i64 0, .int .i64 0, .int .i64 0, .int .i64 0, .int .i64 0])).run Tryz.prog w = .ok true w := by kernel_rfl

set_option maxRecDepth 20000 in
theorem walk {W : World} (hE : Six W) (a b c n : Int) (sl : Value) (s : ByteArray) : Calls Tryz.prog 3 #[.int .i64 n, op a b sl c s] W fun e w' => e = .returned (.bool true) ∧ Below W.heap.size W w' := by
  have h0 : Six (W.alloc (.cells #[.int .i64 a, .int .u32 b, sl, .int .u32 c, .string s] 27)) := hE.below (Below.alloc (Below.refl _ _) (Nat.le_refl _) _)
  have hb0 : Below W.heap.size W (W.alloc (.cells #[.int .i64 a, .int .u32 b, sl, .int .u32 c, .string s] 27)) := Below.alloc (Below.refl _ _) (Nat.le_refl _) _
  have hb := Below.refl (W.alloc (.cells #[.int .i64 a, .int .u32 b, sl, .int .u32 c, .string s] 27)).heap.size (W.alloc (.cells #[.int .i64 a, .int .u32 b, sl, .int .u32 c, .string s] 27))
  have heq := six_eq
  go_enter Tryz.func3, Tryz.ntmps3
  go_wp2_with (first
    | (go_at_call 4; refine (c4 h0 hb).mono ?_; clear hb; rintro e w' ⟨rfl, hb⟩; obtain ⟨hc, hf⟩ := bcell hb)
    | (go_at_call 5; refine (c5 hb _ _ _ _ _ _).mono ?_; clear hb hc hf; rintro e w' ⟨rfl, hb⟩; obtain ⟨hc, hf⟩ := bcell hb)
    | (go_at_call 6; refine (c6 h0 hb _).mono ?_; clear hb hc hf; rintro e w' ⟨rfl, hb⟩; obtain ⟨hc, hf⟩ := bcell hb)
    | (go_at_call 7; refine (c7 h0 hb _).mono ?_; clear hb hc hf; rintro e w' ⟨rfl, hb⟩; obtain ⟨hc, hf⟩ := bcell hb)
    | (go_at_call 8; refine (c8 h0 hb).mono ?_; clear hb hc hf; rintro e w' ⟨rfl, hb⟩; obtain ⟨hc, hf⟩ := bcell hb)
    | (go_at_call 9; refine (c9 h0 hb).mono ?_; clear hb hc hf; rintro e w' ⟨rfl, hb⟩; obtain ⟨hc, hf⟩ := bcell hb)
    | (go_at_call 10; refine (c10 h0 hb).mono ?_; clear hb hc hf; rintro e w' ⟨rfl, hb⟩; obtain ⟨hc, hf⟩ := bcell hb)
    | (go_at_call 11; refine (c11 h0 hb).mono ?_; clear hb hc hf; rintro e w' ⟨rfl, hb⟩; obtain ⟨hc, hf⟩ := bcell hb)
    | (go_at_call 12; refine (c12 h0 hb).mono ?_; clear hb hc hf; rintro e w' ⟨rfl, hb⟩; obtain ⟨hc, hf⟩ := bcell hb)
    | (go_at_call 13; refine (c13 h0 hb).mono ?_; clear hb hc hf; rintro e w' ⟨rfl, hb⟩; obtain ⟨hc, hf⟩ := bcell hb))
  go_ret
  exact ⟨rfl, hb0.trans (hb.mono (by simp))⟩
end Go.Proofs.YtjioijajmkdefaaGreatDoor.Nil
