/- Frame.New, Step; Do. -/
import Derived.Test.YtfgkgmfcbhbomaaGreatPlay
set_option linter.unusedVariables false
namespace Go.Proofs.YtfgkgmfcbhbomaaGreat
open Go.RowKit
open R (RS MS)

theorem frame_new (proc : Int) (x : XC) (cs : Array Value) (hcs : cs = #[.int .i64 proc, .int .i64 0, .int .i64 0, .int .i64 0, .int .i64 0, .int .i64 0, .int .i64 0, .int .i64 0, .bool false, .int .i64 0, .bool false, .slice none 0 0, .slice none 0 0, .slice none 0 0, .slice none 0 0, .slice none 0 0, .int .i64 0, .int .i64 0, .int .i64 0, .int .i64 0, .int .i64 0, .int .i64 0, .slice none 0 0, .bool false, .int .i64 0, .bool false, .int .i64 0, .int .i64 0, .int .i64 0, .slice none 0 0, .slice none 0 0, .int .i64 0, .bool false, .int .i64 0, .int .i64 0, .int .i64 0, .slice none 0 0, .int .i64 0, .int .i64 0]) :
    over cs 1 x.arr.toList = frameCells ⟨proc, x, [], false, OC.nil, 0, 0⟩ (.slice none 0 0) := by subst hcs; rfl
set_option maxHeartbeats 1000000 in
theorem new_any (proc : Int) (x : XC) (hfl : x.Flat) (pl : List Int → RS × OC) (hpl : PlayIs ⟨proc, x, [], false, OC.nil, 0, 0⟩ pl) (w : World) :
    Calls Tryz.prog 12 #[.int .i64 proc, .agg x.arr] w fun e w' => ∃ f, e = .returned (.pointer (some ⟨f, 0, none⟩)) ∧ w.heap.size ≤ f ∧ FrameAt w' f (.slice none 0 0) (settled ⟨proc, x, [], false, OC.nil, 0, 0⟩ pl) ∧ Fr [] w w' := by
  have hsz : x.arr.size = 21 := rfl
  go_enter Tryz.func12, Tryz.ntmps12
  go_wp2_with (first
      | ((with_reducible show wpList _ _ _ ({ dst := _, op := Op.load 50 _, type := _, pos := _, after := _, guard := _ } :: _) _ _); refine load_agg rfl 50 _ rfl w.heap.size 0 21 rfl _ _ _ x.arr (Blk.new _ _ _) Tryz.underlying50 rfl size_args rfl (by simp) ?_))
  rw [fold_over 1 _ x.arr _ ?h1 ?h2, frame_new proc x _ rfl]
  case h1 => rfl
  case h2 => rw [hsz]; simp
  have hb0 := Blk.new (w.alloc (.cells x.arr 50)) (frameCells ⟨proc, x, [], false, OC.nil, 0, 0⟩ (.slice none 0 0)) 58
  have hz : (w.alloc (.cells x.arr 50)).heap.size = w.heap.size + 1 := by simp
  rw [hz] at hb0
  refine (settle_any _ pl hpl _ (w.heap.size + 1) (.slice none 0 0) ⟨proc, x, [], false, OC.nil, 0, 0⟩ rfl rfl ⟨hb0, ⟨rfl, .inl ⟨rfl, rfl⟩⟩, by simp⟩ (by simp)).mono ?_
  rintro e w1 ⟨rfl, H1, F1⟩
  go_wp2
  go_ret
  refine ⟨w.heap.size + 1, rfl, by omega, H1, ?_⟩
  exact (((Fr.refl [] w).alloc _).alloc _).trans' F1 (by simp)
end Go.Proofs.YtfgkgmfcbhbomaaGreat
