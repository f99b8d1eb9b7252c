/- The walks of the inner methods of wire.Reader. -/
import Derived.Test.YtcnofhlgiffkjaaGreatDoorWb
namespace Go.Proofs.YtcnofhlgiffkjaaGreatDoor
open Go.RowKit
set_option linter.unusedVariables false
set_option linter.unusedSimpArgs false

/-- Block g is a reader with the bytes p left, by the slice A, c, and the error e. -/
structure RdIs (w : World) (g : Nat) (A : Option Addr) (n c : Nat) (p : List UInt8) (e : Int) : Prop where
  blk : Blk w g 137 #[.slice A n c, .int .i64 e]
  sees : Sees w w.heap.size A (p.map bv)
  len : p.length = n
  room : n ≤ c
  big : n ≤ 1000000000000
  low : ∀ a, A = some a → a.block < g
theorem RdIs.far {w : World} {g n c : Nat} {A : Option Addr} {p : List UInt8} {e : Int} (h : RdIs w g A n c p e) : ∀ a, A = some a → a.block ≠ g := fun a ha => Nat.ne_of_lt (h.low a ha)
def RdAt (w : World) (g : Nat) (p : List UInt8) (e : Int) : Prop := ∃ A n c, RdIs w g A n c p e

/-- Nothing but block g has turned. -/
abbrev Only (w w' : World) (g : Nat) : Prop := Mvd w w' g none
theorem Mvd.refl (w : World) (g : Nat) (r : Option Nat) : Mvd w w g r := ⟨rfl, rfl, rfl, Nat.le_refl _, fun _ _ _ _ => rfl⟩
theorem Only.trans {w w1 w2 : World} {g : Nat} (h : Only w w1 g) (h2 : Only w1 w2 g) : Only w w2 g :=
  Mvd.trans (v := .slice none 0 0) (v1 := .slice none 0 0) h (.inl rfl) h2
theorem Sees.only {w w' : World} {g : Nat} {A : Option Addr} {xs : List Value} (h : Sees w w.heap.size A xs) (ho : Only w w' g) (hf : ∀ a, A = some a → a.block ≠ g) : Sees w' w'.heap.size A xs := fun hn => by
  obtain ⟨b, o, e, hb, hc⟩ := h hn
  exact ⟨b, o, e, Nat.lt_of_lt_of_le hb ho.size, fun j u hu => (World.cell?_of_block (a := ⟨b, o + j, none⟩) (ho.block b hb (hf _ e) (by simp))).trans (hc j u hu)⟩
theorem RdIs.on {w w' : World} {g n c : Nat} {A : Option Addr} {p : List UInt8} {e : Int} (h : RdIs w g A n c p e) (hb : Below w.heap.size w w') : RdIs w' g A n c p e :=
  ⟨h.blk.on hb, h.sees.on hb, h.len, h.room, h.big, h.low⟩
theorem RdAt.on {w w' : World} {g : Nat} {p : List UInt8} {e : Int} (h : RdAt w g p e) (hb : Below w.heap.size w w') : RdAt w' g p e := by
  obtain ⟨A, n, c, h⟩ := h
  exact ⟨A, n, c, h.on hb⟩
theorem RdIs.cells {w : World} {g n c : Nat} {A : Option Addr} {p : List UInt8} {e : Int} (h : RdIs w g A n c p e) :
    w.cell? ⟨g, 0, none⟩ = some (.slice A n c) ∧ w.cell? ⟨g, 1, none⟩ = some (.int .i64 e) ∧ w.frozen? ⟨g, 0, none⟩ = false ∧ w.frozen? ⟨g, 1, none⟩ = false := by
  refine ⟨?_, ?_, h.blk.frozen 0, h.blk.frozen 1⟩
  · rw [h.blk.cell]; rfl
  · rw [h.blk.cell]; rfl
/-- A store into the reader. -/
theorem only_set {w : World} {g i : Nat} (u : Value) : Only w (w.setCell ⟨g, i, none⟩ u) g := (Mvd.refl w g none).setCell u
theorem RdIs.setErr {w : World} {g n c : Nat} {A : Option Addr} {p : List UInt8} {e : Int} (h : RdIs w g A n c p e) (e' : Int) : RdIs (w.setCell ⟨g, 1, none⟩ (.int .i64 e')) g A n c p e' :=
  ⟨by simpa using h.blk.put 1 (.int .i64 e'), h.sees.only (only_set _) h.far, h.len, h.room, h.big, h.low⟩
theorem RdIs.setLeft {w : World} {g n c n' c' : Nat} {A A' : Option Addr} {p p' : List UInt8} {e : Int} (h : RdIs w g A n c p e) (hs : Sees w w.heap.size A' (p'.map bv)) (hn : p'.length = n') (hc : n' ≤ c') (hb : n' ≤ 1000000000000) (hf : ∀ a, A' = some a → a.block < g) :
    RdIs (w.setCell ⟨g, 0, none⟩ (.slice A' n' c')) g A' n' c' p' e :=
  ⟨by simpa using h.blk.put 0 (.slice A' n' c'), hs.only (only_set _) (fun a ha => Nat.ne_of_lt (hf a ha)), hn, hc, hb, hf⟩

/-- NewReader. -/
theorem newReader_any (A : Option Addr) (n c : Nat) (p : List UInt8) (w : World) (h : Sees w w.heap.size A (p.map bv)) (hn : p.length = n) (hb : n ≤ 1000000000000) :
    Calls Tryz.prog 38 #[.slice A n c] w fun e w' => ∃ g, e = .returned (.pointer (some ⟨g, 0, none⟩)) ∧ w.heap.size ≤ g ∧ RdAt w' g p 0 ∧ Below w.heap.size w w' := by
  go_enter Tryz.func38, Tryz.ntmps38
  go_wp2_with fail
  refine (clone_any A n c p w h hn (by omega)).mono ?_
  rintro e w1 ⟨A', c', rfl, ho, hB⟩
  go_wp2_with fail
  go_ret
  have hs := hB.size
  have hal : Below w1.heap.size w1 (w1.alloc (.cells #[.slice A' n c', .int .i64 0] 137)) := (Below.refl _ _).alloc (Nat.le_refl _) _
  refine ⟨w1.heap.size, rfl, hs, ⟨A', n, c', Blk.new _ _ _, ho.sees.on hal, hn, ho.room, hb, ?_⟩, hB.alloc hs _⟩
  rintro a rfl
  have := (ho.lt a.block (by cases a; simp [Value.ownBlock])).2
  omega

/-- ok. -/
theorem ok_any (g : Nat) (p : List UInt8) (er : Int) (w : World) (h : RdAt w g p er) :
    Calls Tryz.prog 77 #[.pointer (some ⟨g, 0, none⟩)] w fun e w' => e = .returned (.bool (er == 0)) ∧ w = w' := by
  obtain ⟨A, n, c, h⟩ := h
  obtain ⟨c0, c1, f0, f1⟩ := h.cells
  go_enter Tryz.func77, Tryz.ntmps77
  go_wp2_with fail
  go_ret
  exact ⟨rfl, rfl⟩

/-- Fail, where there is no error yet. -/
theorem fail_any (g : Nat) (p : List UInt8) (er : Int) (w : World) (h : RdAt w g p 0) :
    Calls Tryz.prog 42 #[.pointer (some ⟨g, 0, none⟩), .int .i64 er] w fun e w' => e = .returned (.tuple #[]) ∧ RdAt w' g p er ∧ Only w w' g := by
  have hk := ok_any g p 0 w h
  obtain ⟨A, n, c, h⟩ := h
  obtain ⟨c0, c1, f0, f1⟩ := h.cells
  go_enter Tryz.func42, Tryz.ntmps42
  go_wp2_with fail
  refine hk.mono ?_
  rintro e w1 ⟨rfl, rfl⟩
  go_wp2_with fail
  go_end0
  exact ⟨rfl, ⟨A, n, c, h.setErr er⟩, only_set _⟩

/-- refuse, the condition false. -/
theorem refuse_no (g : Nat) (er : Int) (w : World) {b : Bool} (hb : b = false) :
    Calls Tryz.prog 78 #[.pointer (some ⟨g, 0, none⟩), .bool b, .int .i64 er] w fun e w' => e = .returned (.bool true) ∧ w = w' := by
  subst hb
  go_enter Tryz.func78, Tryz.ntmps78
  go_wp2_with fail
  go_ret
  exact ⟨rfl, rfl⟩
/-- refuse, the condition true. -/
theorem refuse_yes (g : Nat) (p : List UInt8) (er : Int) (w : World) (h : RdAt w g p 0) {b : Bool} (hb : b = true) :
    Calls Tryz.prog 78 #[.pointer (some ⟨g, 0, none⟩), .bool b, .int .i64 er] w fun e w' => e = .returned (.bool false) ∧ RdAt w' g p er ∧ Only w w' g := by
  subst hb
  go_enter Tryz.func78, Tryz.ntmps78
  go_wp2_with fail
  refine (fail_any g p er w h).mono ?_
  rintro e w1 ⟨rfl, h1, ho⟩
  go_wp2_with fail
  go_ret
  exact ⟨rfl, h1, ho⟩

/-- Err. -/
theorem err_any (g : Nat) (p : List UInt8) (er : Int) (w : World) (h : RdAt w g p er) :
    Calls Tryz.prog 40 #[.pointer (some ⟨g, 0, none⟩)] w fun e w' => e = .returned (.int .i64 er) ∧ w = w' := by
  obtain ⟨A, n, c, h⟩ := h
  obtain ⟨c0, c1, f0, f1⟩ := h.cells
  go_enter Tryz.func40, Tryz.ntmps40
  go_wp2_with fail
  go_ret
  exact ⟨rfl, rfl⟩

/-- End, nothing left or an error. -/
theorem end_any (g : Nat) (p : List UInt8) (er : Int) (w : World) (h : RdAt w g p er) :
    Calls Tryz.prog 44 #[.pointer (some ⟨g, 0, none⟩)] w fun e w' => e = .returned (.int .i64 (if er = 0 ∧ p ≠ [] then 6 else er)) ∧ w = w' := by
  have hk := ok_any g p er w h
  have he := err_any g p er w h
  obtain ⟨A, n, c, h⟩ := h
  obtain ⟨c0, c1, f0, f1⟩ := h.cells
  have hl := h.len
  by_cases h0 : er = 0
  · subst h0
    by_cases h1 : p = []
    · rw [if_neg (by simp [h1])]
      obtain rfl : n = 0 := by rw [← hl, h1]; rfl
      clear hl h1
      go_enter Tryz.func44, Tryz.ntmps44
      go_wp2_with fail
      refine hk.mono ?_
      rintro e w1 ⟨rfl, rfl⟩
      go_wp2_with fail
      refine he.mono ?_
      rintro e w1 ⟨rfl, rfl⟩
      go_wp2_with fail
      go_ret
      exact ⟨rfl, rfl⟩
    · rw [if_pos ⟨rfl, h1⟩]
      have hn : 0 < (n : Int) := by
        have : p.length ≠ 0 := fun e => h1 (List.eq_nil_of_length_eq_zero e)
        omega
      clear hl h1
      go_enter Tryz.func44, Tryz.ntmps44
      go_wp2_with fail
      refine hk.mono ?_
      rintro e w1 ⟨rfl, rfl⟩
      go_wp2_with fail
      go_ret
      exact ⟨rfl, rfl⟩
  · rw [if_neg (fun h => h0 h.1)]
    have hb : (er == 0) = false := by simpa using h0
    rw [hb] at hk
    go_enter Tryz.func44, Tryz.ntmps44
    go_wp2_with fail
    refine hk.mono ?_
    rintro e w1 ⟨rfl, rfl⟩
    go_wp2_with fail
    refine he.mono ?_
    rintro e w1 ⟨rfl, rfl⟩
    go_wp2_with fail
    go_ret
    exact ⟨rfl, rfl⟩
end Go.Proofs.YtcnofhlgiffkjaaGreatDoor
