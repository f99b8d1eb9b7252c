/- The search of a matching as it lies in memory: the struct in block g, the left partners in block l. -/
import Derived.Test.YtfnhaoindehjdaaDoorMtP
import Derived.Test.YtfnhaoindehjdaaDoorPa
namespace Go.Proofs.YtfnhaoindehjdaaDoor
open Go.RowKit
set_option linter.unusedVariables false
set_option linter.unusedSimpArgs false

/-- A partner, as a number. -/
def oz : Option Nat → Int
  | none => -1
  | some k => (k : Int)
structure SrAt (w : World) (g l n cg cl : Nat) (Ag : Option Addr) (gr : Nat → List Nat) (F : Nat → Bool) (s : MSt) : Prop where
  ne : g ≠ l
  ll : l < w.heap.size
  c0 : w.cell? ⟨g, 0, none⟩ = some (.slice Ag n cg)
  c1 : w.cell? ⟨g, 1, none⟩ = some (.slice (some ⟨l, 0, none⟩) n cl)
  rt : ∀ j, j < 256 → w.cell? ⟨g, 2 + j, none⟩ = some (.int .i64 (oz (s.R j)))
  fx : ∀ j, j < 256 → w.cell? ⟨g, 258 + j, none⟩ = some (.bool (F j))
  sn : ∀ j, j < 256 → w.cell? ⟨g, 514 + j, none⟩ = some (.bool (s.S j))
  lf : ∀ a, a < n → w.cell? ⟨l, a, none⟩ = some (.int .i64 (oz (s.L a)))
  fg : ∀ j, w.frozen? ⟨g, j, none⟩ = false
  fl : ∀ j, w.frozen? ⟨l, j, none⟩ = false
  rows : ∀ a, a < n → ∃ b o A m c, Ag = some ⟨b, o, none⟩ ∧ b ≠ g ∧ b ≠ l ∧ w.cell? ⟨b, o + a, none⟩ = some (.slice A m c) ∧ (gr a).length = m ∧ m ≤ 256 ∧
    ∀ (j x : Nat), (gr a)[j]? = some x → ∃ b' o', A = some ⟨b', o', none⟩ ∧ b' ≠ g ∧ b' ≠ l ∧ w.cell? ⟨b', o' + j, none⟩ = some (.int .i64 (x : Int))
/-- Other blocks are as they were, and nothing new was laid. -/
structure Kp (w w' : World) (g l : Nat) : Prop where
  os : w'.os = w.os
  tape : w'.tape = w.tape
  output : w'.output = w.output
  size : w'.heap.size = w.heap.size
  block : ∀ k, k ≠ g → k ≠ l → w'.heap[k]? = w.heap[k]?
theorem Kp.refl (w : World) (g l : Nat) : Kp w w g l := ⟨rfl, rfl, rfl, rfl, fun _ _ _ => rfl⟩
theorem Kp.trans {a b c : World} {g l : Nat} (h : Kp a b g l) (h2 : Kp b c g l) : Kp a c g l :=
  ⟨h2.os.trans h.os, h2.tape.trans h.tape, h2.output.trans h.output, h2.size.trans h.size, fun k h3 h4 => (h2.block k h3 h4).trans (h.block k h3 h4)⟩
theorem Kp.drew (w : World) (g l : Nat) : Kp w w.drew g l := ⟨rfl, rfl, rfl, rfl, fun _ _ _ => rfl⟩
theorem Kp.set {w : World} {g l : Nat} (p : Addr) (v : Value) (h : p.block = g ∨ p.block = l) : Kp w (w.setCell p v) g l :=
  ⟨rfl, rfl, rfl, by simp [World.setCell], fun k h3 h4 => Below.heap_setCell w p v k (by rcases h with h | h <;> omega)⟩
theorem size_setCell (w : World) (p : Addr) (v : Value) : (w.setCell p v).heap.size = w.heap.size := by simp [World.setCell]
theorem addr_ne {b o b' o' : Nat} (h : b ≠ b' ∨ o ≠ o') : (⟨b, o, none⟩ : Addr) ≠ ⟨b', o', none⟩ := fun e => by
  injection e with e1 e2 _
  rcases h with h | h
  · exact h e1
  · exact h e2
theorem cell_ne {w : World} {b o b' o' : Nat} {v : Value} (h : b ≠ b' ∨ o ≠ o') : (w.setCell ⟨b, o, none⟩ v).cell? ⟨b', o', none⟩ = w.cell? ⟨b', o', none⟩ := World.cell?_setCell_other w _ _ v (addr_ne h)
theorem SrAt.rows' {w w' : World} {g l n cg cl : Nat} {Ag : Option Addr} {gr : Nat → List Nat} {F : Nat → Bool} {s : MSt} (h : SrAt w g l n cg cl Ag gr F s) (hk : ∀ b o, b ≠ g → b ≠ l → w'.cell? ⟨b, o, none⟩ = w.cell? ⟨b, o, none⟩) :
    ∀ a, a < n → ∃ b o A m c, Ag = some ⟨b, o, none⟩ ∧ b ≠ g ∧ b ≠ l ∧ w'.cell? ⟨b, o + a, none⟩ = some (.slice A m c) ∧ (gr a).length = m ∧ m ≤ 256 ∧
    ∀ (j x : Nat), (gr a)[j]? = some x → ∃ b' o', A = some ⟨b', o', none⟩ ∧ b' ≠ g ∧ b' ≠ l ∧ w'.cell? ⟨b', o' + j, none⟩ = some (.int .i64 (x : Int)) := fun a ha => by
  obtain ⟨b, o, A, m, c, e, h1, h2, h3, h4, h5, h6⟩ := h.rows a ha
  refine ⟨b, o, A, m, c, e, h1, h2, (hk _ _ h1 h2).trans h3, h4, h5, fun j x hx => ?_⟩
  obtain ⟨b', o', e', q1, q2, q3⟩ := h6 j x hx
  exact ⟨b', o', e', q1, q2, (hk _ _ q1 q2).trans q3⟩
theorem SrAt.drew {w : World} {g l n cg cl : Nat} {Ag : Option Addr} {gr : Nat → List Nat} {F : Nat → Bool} {s : MSt} (h : SrAt w g l n cg cl Ag gr F s) : SrAt w.drew g l n cg cl Ag gr F s :=
  ⟨h.ne, h.ll, h.c0, h.c1, h.rt, h.fx, h.sn, h.lf, h.fg, h.fl, h.rows⟩
/-- A right vertex is seen. -/
theorem SrAt.mark {w : World} {g l n cg cl j : Nat} {Ag : Option Addr} {gr : Nat → List Nat} {F : Nat → Bool} {s : MSt} (h : SrAt w g l n cg cl Ag gr F s) (hj : j < 256) : SrAt (w.setCell ⟨g, 514 + j, none⟩ (.bool true)) g l n cg cl Ag gr F (s.mark j) := by
  refine ⟨h.ne, by rw [size_setCell]; exact h.ll, (cell_ne (by omega)).trans h.c0, (cell_ne (by omega)).trans h.c1, fun x hx => (cell_ne (by omega)).trans (h.rt x hx), fun x hx => (cell_ne (by omega)).trans (h.fx x hx), fun x hx => ?_,
    fun a ha => (cell_ne (Or.inl h.ne)).trans (h.lf a ha), fun x => by rw [World.frozen?_setCell]; exact h.fg x, fun x => by rw [World.frozen?_setCell]; exact h.fl x, h.rows' fun b o h1 h2 => cell_ne (Or.inl fun e => h1 e.symm)⟩
  show _ = some (Value.bool (upd s.S j true x))
  by_cases e : x = j
  · rw [e, upd_same]
    exact World.cell?_setCell_same w _ _ (h.sn j hj)
  · rw [upd_ne _ _ e]
    exact (cell_ne (by omega)).trans (h.sn x hx)
/-- A right vertex has another partner. -/
theorem SrAt.setR {w : World} {g l n cg cl j : Nat} {Ag : Option Addr} {gr : Nat → List Nat} {F : Nat → Bool} {s : MSt} (h : SrAt w g l n cg cl Ag gr F s) (hj : j < 256) (v : Option Nat) : SrAt (w.setCell ⟨g, 2 + j, none⟩ (.int .i64 (oz v))) g l n cg cl Ag gr F { s with R := upd s.R j v } := by
  refine ⟨h.ne, by rw [size_setCell]; exact h.ll, (cell_ne (by omega)).trans h.c0, (cell_ne (by omega)).trans h.c1, fun x hx => ?_, fun x hx => (cell_ne (by omega)).trans (h.fx x hx), fun x hx => (cell_ne (by omega)).trans (h.sn x hx),
    fun a ha => (cell_ne (Or.inl h.ne)).trans (h.lf a ha), fun x => by rw [World.frozen?_setCell]; exact h.fg x, fun x => by rw [World.frozen?_setCell]; exact h.fl x, h.rows' fun b o h1 h2 => cell_ne (Or.inl fun e => h1 e.symm)⟩
  show _ = some (Value.int .i64 (oz (upd s.R j v x)))
  by_cases e : x = j
  · rw [e, upd_same]
    exact World.cell?_setCell_same w _ _ (h.rt j hj)
  · rw [upd_ne _ _ e]
    exact (cell_ne (by omega)).trans (h.rt x hx)
/-- A left vertex has another partner. -/
theorem SrAt.setL {w : World} {g l n cg cl a : Nat} {Ag : Option Addr} {gr : Nat → List Nat} {F : Nat → Bool} {s : MSt} (h : SrAt w g l n cg cl Ag gr F s) (ha : a < n) (v : Option Nat) : SrAt (w.setCell ⟨l, a, none⟩ (.int .i64 (oz v))) g l n cg cl Ag gr F { s with L := upd s.L a v } := by
  have hne := fun e => h.ne (Eq.symm e)
  refine ⟨h.ne, by rw [size_setCell]; exact h.ll, (cell_ne (Or.inl hne)).trans h.c0, (cell_ne (Or.inl hne)).trans h.c1, fun x hx => (cell_ne (Or.inl hne)).trans (h.rt x hx), fun x hx => (cell_ne (Or.inl hne)).trans (h.fx x hx), fun x hx => (cell_ne (Or.inl hne)).trans (h.sn x hx),
    fun x hx => ?_, fun x => by rw [World.frozen?_setCell]; exact h.fg x, fun x => by rw [World.frozen?_setCell]; exact h.fl x, h.rows' fun b o h1 h2 => cell_ne (Or.inl fun e => h2 e.symm)⟩
  show _ = some (Value.int .i64 (oz (upd s.L a v x)))
  by_cases e : x = a
  · rw [e, upd_same]
    exact World.cell?_setCell_same w _ _ (h.lf a ha)
  · rw [upd_ne _ _ e]
    exact (cell_ne (Or.inr fun e2 => e e2.symm)).trans (h.lf x hx)
end Go.Proofs.YtfnhaoindehjdaaDoor
