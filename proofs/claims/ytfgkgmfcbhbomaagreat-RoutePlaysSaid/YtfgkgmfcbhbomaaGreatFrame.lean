/- A procedure of the document's, gone through from its beginning. -/
import Derived.Test.YtfgkgmfcbhbomaaGreatMem
import Derived.Test.YtfgkgmfcbhbomaaGreatAgg
set_option linter.unusedVariables false
namespace Go.Proofs.YtfgkgmfcbhbomaaGreat
open Go.RowKit
open R (RS MS)

/-- The cells of an Args. -/
structure XC where
  (c0 c1 c2 c3 c4 c5 c6 c7 c8 c9 c10 c11 c12 c13 c14 c15 c16 c17 c18 c19 c20 : Value)
/-- The cells of an Out. -/
structure OC where
  (word : Int) (ok : Bool) (n m value : Int) (pa : Option Addr) (pn pc : Nat) (sa : Option Addr) (sn sc : Nat) (why : Int) (found : Bool) (k v rn : Int) (la : Option Addr) (ln lc : Nat)
def OC.nil : OC := ⟨0, false, 0, 0, 0, none, 0, 0, none, 0, 0, 0, false, 0, 0, 0, none, 0, 0⟩
structure FC where
  (proc : Int) (x : XC) (tape : List Int) (done : Bool) (out : OC) (record laid : Int)
def XC.arr (x : XC) : Array Value := #[x.c0, x.c1, x.c2, x.c3, x.c4, x.c5, x.c6, x.c7, x.c8, x.c9, x.c10, x.c11, x.c12, x.c13, x.c14, x.c15, x.c16, x.c17, x.c18, x.c19, x.c20]
def OC.arr (o : OC) : Array Value := #[.int .i64 o.word, .bool o.ok, .int .i64 o.n, .int .i64 o.m, .int .i64 o.value, .slice o.pa o.pn o.pc, .slice o.sa o.sn o.sc, .int .i64 o.why, .bool o.found, .int .i64 o.k, .int .i64 o.v, .int .i64 o.rn, .slice o.la o.ln o.lc]
def frameCells (F : FC) (tv : Value) : Array Value :=
  #[.int .i64 F.proc, F.x.c0, F.x.c1, F.x.c2, F.x.c3, F.x.c4, F.x.c5, F.x.c6, F.x.c7, F.x.c8, F.x.c9, F.x.c10, F.x.c11, F.x.c12, F.x.c13, F.x.c14, F.x.c15, F.x.c16, F.x.c17, F.x.c18, F.x.c19, F.x.c20, tv, .bool F.done,
    .int .i64 F.out.word, .bool F.out.ok, .int .i64 F.out.n, .int .i64 F.out.m, .int .i64 F.out.value, .slice F.out.pa F.out.pn F.out.pc, .slice F.out.sa F.out.sn F.out.sc, .int .i64 F.out.why, .bool F.out.found, .int .i64 F.out.k, .int .i64 F.out.v, .int .i64 F.out.rn, .slice F.out.la F.out.ln F.out.lc,
    .int .i64 F.record, .int .i64 F.laid]
/-- A procedure at block f; tv: the slice of what its accesses told. -/
def FrameAt (w : World) (f : Nat) (tv : Value) (F : FC) : Prop :=
  Blk w f (frameCells F tv) 58 ∧ w.ownsRow 0 2 1 tv F.tape.length (ints .i64 F.tape) ∧ (∀ x ∈ F.tape, -9223372036854775808 ≤ x ∧ x ≤ 9223372036854775807)

theorem over_all (cs : Array Value) (vs : List Value) (h : cs.size = vs.length) : over cs 0 vs = vs.toArray := by
  unfold over
  rw [List.drop_eq_nil_of_le (by simp; omega)]
  simp
theorem lt21 {p : Nat → Prop} (h : p 0 ∧ p 1 ∧ p 2 ∧ p 3 ∧ p 4 ∧ p 5 ∧ p 6 ∧ p 7 ∧ p 8 ∧ p 9 ∧ p 10 ∧ p 11 ∧ p 12 ∧ p 13 ∧ p 14 ∧ p 15 ∧ p 16 ∧ p 17 ∧ p 18 ∧ p 19 ∧ p 20) : ∀ j, j < 21 → p j := by
  obtain ⟨h0, h1, h2, h3, h4, h5, h6, h7, h8, h9, h10, h11, h12, h13, h14, h15, h16, h17, h18, h19, h20⟩ := h
  intro j hj
  rcases (by omega : j = 0 ∨ j = 1 ∨ j = 2 ∨ j = 3 ∨ j = 4 ∨ j = 5 ∨ j = 6 ∨ j = 7 ∨ j = 8 ∨ j = 9 ∨ j = 10 ∨ j = 11 ∨ j = 12 ∨ j = 13 ∨ j = 14 ∨ j = 15 ∨ j = 16 ∨ j = 17 ∨ j = 18 ∨ j = 19 ∨ j = 20) with rfl | rfl | rfl | rfl | rfl | rfl | rfl | rfl | rfl | rfl | rfl | rfl | rfl | rfl | rfl | rfl | rfl | rfl | rfl | rfl | rfl <;> assumption
theorem frame_x (F : FC) (tv : Value) : ∀ j, j < 21 → (frameCells F tv)[1 + j]? = F.x.arr[j]? :=
  lt21 ⟨rfl, rfl, rfl, rfl, rfl, rfl, rfl, rfl, rfl, rfl, rfl, rfl, rfl, rfl, rfl, rfl, rfl, rfl, rfl, rfl, rfl⟩
/-- No cell of it is a struct or a tuple. -/
def XC.Flat (x : XC) : Prop := ∀ u ∈ x.arr.toList, u.oneCell' = true
theorem size_args : (Tryz.prog.info? 50).map (·.size) = some 21 := by kernel_rfl
theorem size_out : (Tryz.prog.info? 56).map (·.size) = some 13 := by kernel_rfl

set_option maxHeartbeats 1000000 in
theorem low_route (w : World) (f r : Nat) (tv : Value) (F : FC) (s : RS) (a p : Int) (HF : FrameAt w f tv F) (H : RunAt w r s) (hp : F.proc = 15) (ha : F.x.c0 = .int .i64 a) (hk : F.x.c3 = .int .i64 p) (hfl : F.x.Flat) (p1 : -9223372036854775808 ≤ p) (p2 : p ≤ 9223372036854775807) :
    Calls Tryz.prog 45 #[.pointer (some ⟨f, 0, none⟩), .pointer (some ⟨r, 0, none⟩)] w fun e w' => e = .returned (.agg { OC.nil with n := (R.route a p s).1.1, m := (R.route a p s).1.2 }.arr) ∧ RunAt w' r (R.route a p s).2 ∧ Fr [r] w w' := by
  obtain ⟨hb, ho, hbd⟩ := HF
  have c0 : w.cell? ⟨f, 0, none⟩ = some (.int .i64 15) := by rw [hb.cell]; simp [frameCells, hp]
  have hl := hb.lt
  have hr := H.lt
  go_enter Tryz.func45, Tryz.ntmps45
  have hsz : (w.alloc (.cells OC.nil.arr 56)).heap.size = w.heap.size + 1 := by simp
  go_wp2_with (first
    | ((with_reducible show wpList _ _ _ ({ dst := _, op := Op.load 50 _, type := _, pos := _, after := _, guard := _ } :: _) _ _); refine load_agg rfl 50 _ rfl f 1 21 rfl _ _ _ F.x.arr (hb.alloc _) Tryz.underlying50 rfl size_args rfl (frame_x F tv) ?_)
    | ((with_reducible show wpList _ _ _ ({ dst := _, op := Op.store 50 _ _, type := _, pos := _, after := _, guard := _ } :: _) _ _); refine store_agg rfl 50 _ _ rfl (w.heap.size + 1) 0 21 rfl F.x.arr rfl 50 _ (by rw [← hsz]; exact Blk.new _ _ _) size_args rfl (by simp) hfl ?_))
  intro w1 hx1 fx1 zx1 dx1
  rw [over_all _ _ (by simp [XC.arr])] at hx1
  have cx0 : w1.cell? ⟨w.heap.size + 1, 0, none⟩ = some (.int .i64 a) := by rw [hx1.cell, ← ha]; rfl
  have cx3 : w1.cell? ⟨w.heap.size + 1, 3, none⟩ = some (.int .i64 p) := by rw [hx1.cell, ← hk]; rfl
  have F1 : Fr [] w w1 := (((Fr.refl [] w).alloc _).alloc _).trans' fx1 (fun x hx => by have := List.mem_singleton.1 hx; omega)
  have hres := (((Blk.new w OC.nil.arr 56).alloc _).keep fx1 (by simp))
  have z1 : w1.heap.size = w.heap.size + 2 := by rw [zx1]
  have hb1 := hb.keep F1 (by simp)
  have d0 : w1.cell? ⟨f, 0, none⟩ = some (.int .i64 15) := by rw [hb1.cell]; simp [frameCells, hp]
  have H1 := H.keep F1
  have hr1 := H1.lt
  have hl1 := hb1.lt
  have hz1 : w.heap.size + 1 < w1.heap.size := by omega
  have hz2 : w.heap.size < w1.heap.size := by omega
  have Z1 := Lib.hid z1
  clear c0 z1 zx1
  go_wp2_with fail
  refine (route_any _ r s _ _ p1 p2 (H1.keep ((Fr.refl [] _).alloc _))).mono ?_
  rintro e w2 ⟨rfl, H2, F2⟩
  have hbo := (Blk.new w1 OC.nil.arr 56).keep F2 (by simp; omega)
  have co := hbo.cell
  have fo := hbo.free
  have Z2 := F2.size
  have hres2 := (hres.alloc (.cells OC.nil.arr 56)).keep F2 (by simp; omega)
  have hne : w.heap.size ≠ w1.heap.size := by omega
  simp only [OC.nil, OC.arr] at co
  go_wp2_with (first | ((with_reducible show wpList _ _ _ ({ dst := _, op := Op.store 56 _ _, type := _, pos := _, after := _, guard := _ } :: _) _ _); refine store_agg rfl 56 _ _ rfl w.heap.size 0 13 rfl { OC.nil with n := (R.route a p s).1.1, m := (R.route a p s).1.2 }.arr rfl 56 _ ((hres2.set_ne (p := ⟨w1.heap.size, 2, none⟩) hne _).set_ne (p := ⟨w1.heap.size, 3, none⟩) hne _) size_out rfl (by simp [OC.arr]) (by simp [OC.arr, OC.nil, Value.oneCell']) ?_))
  intro w3 h3 f3 z3 d3
  rw [over_all _ _ (by simp [OC.arr])] at h3
  simp only [Array.toArray_toList] at h3
  go_wp2
  have fa : Fr [w1.heap.size, w.heap.size] w2 w3 := (((Fr.refl _ _).setCell (.inl (by simp)) _).setCell (.inl (by simp)) _).trans' f3 (by simp)
  refine bodyPost_ret (results_cell_row rfl _ _ _ _ _ _ _ rfl h3 Tryz.underlying56 rfl size_out) rfl ⟨rfl, H2.keep' fa (by simp; omega) (hbo.out2 hres2 (by decide) (by decide)), ?_⟩
  exact ((((F1.alloc _).old (S := [r])).trans F2)).trans' fa (by simp; omega)
end Go.Proofs.YtfgkgmfcbhbomaaGreat
