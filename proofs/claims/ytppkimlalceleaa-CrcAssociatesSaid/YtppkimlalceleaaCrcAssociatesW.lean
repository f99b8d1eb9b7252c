/- The walk of the law CrcAssociates: three parts of any lengths can be combined in either order. -/
import Derived.Test.YtppkimlalceleaaCrcF
import Derived.Test.YtppkimlalceleaaArgs
import Derived.Deep.RegionHeld3
import Derived.WalkLawsBesides
namespace Go.Proofs.Ytppkimlalceleaa.crcAssociates
open Go.ChangeShapes Go.WideShapes Go.ChangeAt Go.RowKit CrcLaw
set_option linter.unusedVariables false
set_option linter.unusedSimpArgs false

set_option maxRecDepth 100000 in
/-- Three numbers of 32 bits that came in. -/
theorem open_numbers {H : Type} {enc : TypeId × Value → H} {W : World} {r : Reach} {base base' : Nat} {spare : Nat → Bool} (hsp : ∀ b, spare b = true) {held : Bool} {v : Value} {d : DataW H} {p : List MemPlace} (hv : Value.okWide Try.prog W r base 49 v)
    (h : DataW.Trod enc Try.prog W base' spare held 49 v d p) : ∃ x0 x1 x2 : Nat, v = .agg #[.int .u32 (x0 : Int), .int .u32 (x1 : Int), .int .u32 (x2 : Int)] ∧ (x0 < 4294967296 ∧ x1 < 4294967296 ∧ x2 < 4294967296) := by
  have hu : Try.prog.underlying 49 = some (.array 3 23) := by kernel_rfl
  have c3 : Try.prog.cellsOf 49 = 3 := by kernel_rfl
  have c1 : Try.prog.cellsOf 23 = 1 := by kernel_rfl
  simp only [Value.okWide, hu] at hv
  obtain ⟨⟨cs⟩, rfl, hsz, _⟩ := hv
  rw [c3] at hsz
  obtain ⟨fuel, hf⟩ := h
  obtain ⟨xs, m, _, _, _, hn, hel⟩ := DataW.trod_array hu hf
  rw [c1] at hel
  match cs, hsz with
  | [u0, u1, u2], _ =>
    match xs, hn with
    | [y0, y1, y2], _ =>
      obtain ⟨k0, e0, _, f0⟩ := DataW.trod_int Try.underlying23 (show DataW.trod _ Try.prog W _ _ _ m 23 [u0] = some y0 from hel 0 (by omega))
      obtain ⟨k1, e1, _, f1⟩ := DataW.trod_int Try.underlying23 (show DataW.trod _ Try.prog W _ _ _ m 23 [u1] = some y1 from hel 1 (by omega))
      obtain ⟨k2, e2, _, f2⟩ := DataW.trod_int Try.underlying23 (show DataW.trod _ Try.prog W _ _ _ m 23 [u2] = some y2 from hel 2 (by omega))
      simp at e0 e1 e2
      subst e0 e1 e2
      obtain ⟨a0, b0⟩ := wf_u32 f0
      obtain ⟨a1, b1⟩ := wf_u32 f1
      obtain ⟨a2, b2⟩ := wf_u32 f2
      exact ⟨k0.toNat, k1.toNat, k2.toNat, by rw [Int.toNat_of_nonneg a0, Int.toNat_of_nonneg a1, Int.toNat_of_nonneg a2], by omega, by omega, by omega⟩

theorem held_on {w wa wb : World} {B : Nat} {v0 v1 v2 : Value} (hb : Below wa.heap.size wa wb)
    (h : wa.cell? ⟨B, 0, none⟩ = some v0 ∧ wa.cell? ⟨B, 1, none⟩ = some v1 ∧ wa.cell? ⟨B, 2, none⟩ = some v2 ∧ B < wa.heap.size ∧ Below B w wa) :
    wb.cell? ⟨B, 0, none⟩ = some v0 ∧ wb.cell? ⟨B, 1, none⟩ = some v1 ∧ wb.cell? ⟨B, 2, none⟩ = some v2 ∧ B < wb.heap.size ∧ Below B w wb :=
  ⟨(hb.cell (p := ⟨B, 0, none⟩) h.2.2.2.1).trans h.1, (hb.cell (p := ⟨B, 1, none⟩) h.2.2.2.1).trans h.2.1, (hb.cell (p := ⟨B, 2, none⟩) h.2.2.2.1).trans h.2.2.1,
    Nat.lt_of_lt_of_le h.2.2.2.1 hb.size, h.2.2.2.2.trans (hb.mono (Nat.le_of_lt h.2.2.2.1))⟩

theorem held_last {w wa : World} {B : Nat} {v0 v1 v2 : Value} (h : wa.cell? ⟨B, 0, none⟩ = some v0 ∧ wa.cell? ⟨B, 1, none⟩ = some v1 ∧ wa.cell? ⟨B, 2, none⟩ = some v2 ∧ B < wa.heap.size ∧ Below B w wa) : Below B w wa := h.2.2.2.2
theorem fin_eq (a b c n m k : Nat) (h : k = n + m) : ccomb (ccomb a b n) c m = ccomb a (ccomb b c m) k := by rw [h, ccomb_assoc]

set_option maxHeartbeats 1600000 in
theorem walk (x0 x1 x2 : Nat) (a1 : Int) (a2 : Int) (w : World) (w0 : x0 < 4294967296 ∧ x1 < 4294967296 ∧ x2 < 4294967296) (w1 : (Lit.int .i64 a1).wf = true) (w2 : (Lit.int .i64 a2).wf = true) :
    Calls Try.prog 10 #[.agg #[.int .u32 (x0 : Int), .int .u32 (x1 : Int), .int .u32 (x2 : Int)], .int .i64 a1, .int .i64 a2] w fun e w' => e = .returned (.bool true) ∧ Below w.heap.size w w' := by
  obtain ⟨h0, h1, h2⟩ := w0
  obtain ⟨z1, z2⟩ := wf_i64 w1
  obtain ⟨y1, y2⟩ := wf_i64 w2
  clear w1 w2
  have e0 : IntKind.i64.wrap 0 = 0 := rfl
  have e1 : IntKind.i64.wrap (a1 / 2) = a1 / 2 := IntWalk.i64_in _ (by omega)
  have e2 : IntKind.i64.wrap (a2 / 2) = a2 / 2 := IntWalk.i64_in _ (by omega)
  have e3 : IntKind.i64.wrap (a1 / 2 + a2 / 2) = a1 / 2 + a2 / 2 := IntWalk.i64_in _ (by omega)
  by_cases g1 : a1 < 0 <;> by_cases g2 : a2 < 0
  all_goals
    go_enter Try.func10, Try.ntmps10
    go_wp2_with fail
    refine (awake_any _).mono ?_
    rintro e w1 ⟨rfl, b1⟩
    have hb1 : Below (w.heap.size + 1) (w.alloc (Obj.cells #[Value.int IntKind.u32 (x0 : Int), Value.int IntKind.u32 (x1 : Int), Value.int IntKind.u32 (x2 : Int)] 49)) w1 := b1.mono (by simp)
    have q0 : w1.cell? ⟨w.heap.size, 0, none⟩ = some (.int .u32 (x0 : Int)) := by rw [hb1.cell (by simp)]; simp
    have q1 : w1.cell? ⟨w.heap.size, 1, none⟩ = some (.int .u32 (x1 : Int)) := by rw [hb1.cell (by simp)]; simp
    have q2 : w1.cell? ⟨w.heap.size, 2, none⟩ = some (.int .u32 (x2 : Int)) := by rw [hb1.cell (by simp)]; simp
    have hlt : w.heap.size < w1.heap.size := by have := b1.size; simp at this; omega
    have hbw : Below w.heap.size w w1 := ((Below.refl _ _).alloc (Nat.le_refl _) _).trans (b1.mono (by simp))
    clear b1 hb1
    go_wp2_with fail
    go_region_held3 (fun w' => w'.cell? ⟨w.heap.size, 0, none⟩ = some (.int .u32 (x0 : Int)) ∧ w'.cell? ⟨w.heap.size, 1, none⟩ = some (.int .u32 (x1 : Int)) ∧ w'.cell? ⟨w.heap.size, 2, none⟩ = some (.int .u32 (x2 : Int)) ∧ w.heap.size < w'.heap.size ∧ Below w.heap.size w w')
      (first | exact ⟨q0, q1, q2, hlt, hbw.drew⟩ | exact held_on (by assumption) (by assumption))
      (first | (go_at_call 25; refine (combine_any _ _ _ _ ?_ ?_ ?_).mono ?_; (first | exact h0 | exact h1 | exact ccomb_lt _ (by first | exact h0 | exact h1) (by first | exact h1 | exact h2)); (first | exact h1 | exact h2 | exact ccomb_lt _ (by first | exact h0 | exact h1) (by first | exact h1 | exact h2)); omega; rintro e w' ⟨rfl, hb⟩))
    go_wp2_with fail
    go_ret
    exact ⟨ret_bool (by rw [beq_iff_eq]; exact congrArg _ (fin_eq _ _ _ _ _ _ (by omega))), held_last (by assumption)⟩
end Go.Proofs.Ytppkimlalceleaa.crcAssociates
