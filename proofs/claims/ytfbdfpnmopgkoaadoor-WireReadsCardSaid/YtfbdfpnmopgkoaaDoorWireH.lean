/- What a reader's method leaves as it was; numbers read back. -/
import Derived.Test.YtfbdfpnmopgkoaaDoorWireAw
namespace Go.Proofs.YtfbdfpnmopgkoaaDoor
open Go.RowKit
set_option linter.unusedVariables false
set_option linter.unusedSimpArgs false

/-- Bytes do not lie in a reader. -/
theorem Sees.beside {w w' : World} {g : Nat} {A : Option Addr} {l p : List UInt8} {e : Int} (h : Sees w w.heap.size A (l.map bv)) (hr : RdAt w g p e) (ho : Only w w' g) : Sees w' w'.heap.size A (l.map bv) := fun hn => by
  obtain ⟨b, o, eA, hb, hc⟩ := h hn
  obtain ⟨Ar, n, c, hr⟩ := hr
  have hne : b ≠ g := by
    rintro rfl
    obtain ⟨x, m, hl⟩ := List.exists_cons_of_ne_nil hn
    have h0 := hc 0 x (by rw [hl]; rfl)
    have hx : x ∈ l.map bv := by rw [hl]; simp
    obtain ⟨y, _, rfl⟩ := List.mem_map.1 hx
    rw [hr.blk.cell] at h0
    match o, h0 with
    | 0, h0 => simp [bv] at h0
    | 1, h0 => simp [bv] at h0
    | k + 2, h0 => simp at h0
  exact ⟨b, o, eA, Nat.lt_of_lt_of_le hb ho.size, fun j u hu => (World.cell?_of_block (a := ⟨b, o + j, none⟩) (ho.block b hb hne (by simp))).trans (hc j u hu)⟩
theorem RdAt.beside {w w' : World} {gr g : Nat} {p p2 : List UInt8} {e e2 : Int} (h : RdAt w gr p e) (hr : RdAt w g p2 e2) (ho : Only w w' g) (hne : gr ≠ g) : RdAt w' gr p e := by
  obtain ⟨A, n, c, h⟩ := h
  exact ⟨A, n, c, h.blk.only ho hne, h.sees.beside hr ho, h.len, h.room, h.big, h.low⟩

theorem rdU_enc {V : Nat} (h : V < 18446744073709551616) (most : Nat) (l : List UInt8) : rdU most (enc V ++ l) = if most < V then (0, enc V ++ l, 2) else (V, l, 0) := by
  unfold rdU
  rw [num_enc h, if_neg (by have := enc_pos V; show ¬ (enc V).length = 0; omega)]
  by_cases hm : most < V
  · rw [if_pos hm, if_pos hm]
  · rw [if_neg hm, if_neg hm, List.drop_left' rfl]
/-- End, nothing left. -/
theorem end_ok (g : Nat) (w : World) (h : RdAt w g [] 0) :
    Calls Tryd.prog 11 #[.pointer (some ⟨g, 0, none⟩)] w fun e w' => e = .returned (.int .i64 0) ∧ w = w' := by
  refine (end_any g [] 0 w h).mono ?_
  rintro e w' ⟨rfl, rfl⟩
  exact ⟨rfl, rfl⟩
/-- Same of the same bytes. -/
theorem same_yes (A A2 : Option Addr) (n c n2 c2 : Nat) (l : List UInt8) (w : World) (h : Sees w w.heap.size A (l.map bv)) (h2 : Sees w w.heap.size A2 (l.map bv)) (hn : l.length = n) (hn2 : l.length = n2) :
    Calls Tryd.prog 26 #[.slice A n c, .slice A2 n2 c2] w fun e w' => e = .returned (.bool true) ∧ w = w' := by
  refine (same_any A A2 n c n2 c2 l l w h h2 hn hn2).mono ?_
  rintro e w' ⟨rfl, rfl⟩
  rw [decide_eq_true rfl]
  exact ⟨rfl, rfl⟩
end Go.Proofs.YtfbdfpnmopgkoaaDoor
