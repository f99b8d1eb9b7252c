/- The walks of the methods of wire.Writer. -/
import Derived.Test.YtcnofhlgiffkjaaGreatDoorWa
namespace Go.Proofs.YtcnofhlgiffkjaaGreatDoor
open Go.RowKit
set_option linter.unusedVariables false
set_option linter.unusedSimpArgs false

/-- Only block g and row r may have turned. -/
structure Mvd (w w' : World) (g : Nat) (r : Option Nat) : Prop where
  os : w'.os = w.os
  tape : w'.tape = w.tape
  output : w'.output = w.output
  size : w.heap.size ≤ w'.heap.size
  block : ∀ k, k < w.heap.size → k ≠ g → r ≠ some k → w'.heap[k]? = w.heap[k]?

/-- The row v' is the row v, or a new one. -/
def NewRow (w : World) (v v' : Value) : Prop := v'.ownBlock = v.ownBlock ∨ ∃ k, v'.ownBlock = some k ∧ w.heap.size ≤ k

theorem Mvd.ofBelow {w w' : World} (h : Below w.heap.size w w') (g : Nat) (r : Option Nat) : Mvd w w' g r := ⟨h.os, h.tape, h.output, h.size, fun k hk _ _ => h.block k hk⟩
theorem Mvd.grown {w w' : World} {r : Option Nat} (h : w.grownBy w' r) (g : Nat) : Mvd w w' g r := ⟨h.os, h.tape, h.output, h.size, fun k hk _ hr => h.block k hk (fun e => hr e.symm)⟩
theorem Mvd.below {w w' : World} {g B : Nat} {r : Option Nat} (h : Mvd w w' g r) (hB : B ≤ w.heap.size) (hg : B ≤ g) (hr : ∀ k, r = some k → B ≤ k) : Below B w w' :=
  ⟨h.os, h.tape, h.output, h.size, fun k hk => h.block k (by omega) (by omega) (fun e => by have := hr k e; omega)⟩
theorem Mvd.trans {w w1 w2 : World} {g : Nat} {v v1 : Value} (h : Mvd w w1 g v.ownBlock) (n : NewRow w v v1) (h2 : Mvd w1 w2 g v1.ownBlock) : Mvd w w2 g v.ownBlock :=
  ⟨h2.os.trans h.os, h2.tape.trans h.tape, h2.output.trans h.output, Nat.le_trans h.size h2.size, fun k hk hg hr => by
    rw [h2.block k (Nat.lt_of_lt_of_le hk h.size) hg ?_, h.block k hk hg hr]
    rcases n with n | ⟨j, n, hj⟩
    · rw [n]; exact hr
    · rw [n]; intro e; injection e with e; omega⟩
theorem NewRow.trans {w w1 : World} {v v1 v2 : Value} (n : NewRow w v v1) (hw : w.heap.size ≤ w1.heap.size) (n2 : NewRow w1 v1 v2) : NewRow w v v2 := by
  rcases n2 with n2 | ⟨k, n2, hk⟩
  · rcases n with n | ⟨j, n, hj⟩
    · exact .inl (n2.trans n)
    · exact .inr ⟨j, n2.trans n, hj⟩
  · exact .inr ⟨k, n2, by omega⟩
theorem Mvd.setCell {w w1 : World} {g i : Nat} {r : Option Nat} (h : Mvd w w1 g r) (u : Value) : Mvd w (w1.setCell ⟨g, i, none⟩ u) g r :=
  ⟨h.os, h.tape, h.output, by have := h.size; simpa using this, fun k hk hg hr => (Below.heap_setCell w1 ⟨g, i, none⟩ u k hg).trans (h.block k hk hg hr)⟩

theorem grownBy_setCell (w : World) (g i : Nat) (u : Value) : w.grownBy (w.setCell ⟨g, i, none⟩ u) (some g) :=
  ⟨rfl, rfl, rfl, by simp, fun k _ hk => Below.heap_setCell w ⟨g, i, none⟩ u k (fun e => hk (by rw [e]))⟩

/-- Block g is a writer with the slice v of the bytes l. -/
structure WrAt (w : World) (base g : Nat) (v : Value) (l : List UInt8) : Prop where
  blk : Blk w g 144 #[v]
  own : OwnB w base v l.length l
  base : base ≤ w.heap.size

theorem WrAt.on {w w' : World} {base g : Nat} {v : Value} {l : List UInt8} (h : WrAt w base g v l) (hb : Below w.heap.size w w') : WrAt w' base g v l :=
  ⟨h.blk.on hb, h.own.on hb, Nat.le_trans h.base hb.size⟩

/-- NewWriter. -/
theorem newWriter_any (w : World) :
    Calls Tryz.prog 45 #[] w fun e w' => e = .returned (.pointer (some ⟨w.heap.size, 0, none⟩)) ∧ WrAt w' w.heap.size w.heap.size (.slice none 0 0) [] ∧ Below w.heap.size w w' := by
  go_enter Tryz.func45, Tryz.ntmps45
  go_wp2_with fail
  go_ret
  exact ⟨rfl, ⟨Blk.new _ _ _, OwnB.nil _ _, by simp⟩, (Below.refl _ _).alloc (Nat.le_refl _) _⟩

/-- Raw. -/
theorem raw_any (base g : Nat) (v : Value) (l : List UInt8) (A : Option Addr) (n c : Nat) (p : List UInt8) (w : World) (h : WrAt w base g v l) (hp : Sees w w.heap.size A (p.map bv)) (hn : p.length = n) (hb : l.length + n ≤ 1000000000000) :
    Calls Tryz.prog 83 #[.pointer (some ⟨g, 0, none⟩), .slice A n c] w fun e w' => e = .returned (.tuple #[]) ∧ ∃ v', WrAt w' base g v' (l ++ p) ∧ Mvd w w' g v.ownBlock ∧ NewRow w v v' := by
  obtain ⟨b1, b2, b3⟩ := h
  obtain ⟨A1, c1, e1, hc1, hcm, hlt⟩ := own_form b2
  have hfar := own_far b2 b1 (by decide)
  obtain ⟨m, hm⟩ : ∃ m, m = l.length := ⟨_, rfl⟩
  rw [← hm] at b2 e1 hb
  subst e1
  have c0 := b1.cell 0
  have f0 := b1.frozen 0
  simp at c0
  have B1 := Lib.hid b1
  have Hm := Lib.hid hm
  clear b1 hm hlt
  go_enter Tryz.func83, Tryz.ntmps83
  go_wp2_with (at_builtin; refine wpL_appB _ rfl (.tmp 10) (.tmp 11) rfl base _ m l rfl b2 _ A n c p rfl hn hp (by omega) b3 (m + n) rfl (l ++ p) rfl ?_; intro A' c' w4 ho4 hg4 hr4; have b4 := B1.out.grown hg4 hfar; have c4 := b4.cell 0; have f4 := b4.frozen 0; simp at c4)
  go_end0
  have hs4 := hg4.size
  have hle : (l ++ p).length = m + n := by rw [List.length_append, ← Hm.out, hn]
  refine ⟨rfl, .slice A' (m + n) c', ⟨?_, ?_, ?_⟩, (Mvd.grown hg4 g).setCell _, ?_⟩
  · have := b4.put 0 (.slice A' (m + n) c')
    simpa using this
  · rw [hle]
    exact ho4.kept (grownBy_setCell w4 g 0 _) (.inr (own_far ho4 b4 (by decide)))
  · simp; omega
  · rcases hr4 with hr4 | hr4
    · exact .inl hr4
    · exact .inr ⟨_, hr4, Nat.le_refl _⟩

/-- Uint. -/
theorem wUint_any (base g : Nat) (v : Value) (l : List UInt8) (V : Nat) (w : World) (h : WrAt w base g v l) (hV : V < 18446744073709551616) (hb : l.length ≤ 900000000000) :
    Calls Tryz.prog 46 #[.pointer (some ⟨g, 0, none⟩), .int .u64 (V : Int)] w fun e w' => e = .returned (.tuple #[]) ∧ ∃ v', WrAt w' base g v' (l ++ enc V) ∧ Mvd w w' g v.ownBlock ∧ NewRow w v v' := by
  go_enter Tryz.func46, Tryz.ntmps46
  go_wp2_with fail
  refine (groups_any V _ hV).mono ?_
  rintro e w1 ⟨A, n, c, rfl, ho, hB⟩
  have h1 := h.on hB
  have hl := enc_len hV
  go_wp2_with fail
  refine (raw_any base g v l A n c (enc V) _ h1 ho.sees ho.len (by have := ho.len; omega)).mono ?_
  rintro e w2 ⟨rfl, v', h2, hm, hr⟩
  go_wp2_with fail
  go_end0
  have hBs := hB.size
  refine ⟨rfl, v', h2, (Mvd.ofBelow hB g _).trans (.inl rfl) hm, NewRow.trans (.inl rfl) hBs hr⟩

/-- Out. -/
theorem out_any (base g : Nat) (v : Value) (l : List UInt8) (w : World) (h : WrAt w base g v l) (hb : l.length ≤ 1000000000000) :
    Calls Tryz.prog 48 #[.pointer (some ⟨g, 0, none⟩)] w fun e w' => ∃ A c, e = .returned (.slice A l.length c) ∧ OwnB w' w.heap.size (.slice A l.length c) l.length l ∧ Below w.heap.size w w' := by
  obtain ⟨b1, b2, b3⟩ := h
  obtain ⟨A1, c1, e1, hc1, hcm, hlt⟩ := own_form b2
  have hS := b2
  rw [e1] at hS
  have hS := OwnB.sees hS
  obtain ⟨m, hm⟩ : ∃ m, m = l.length := ⟨_, rfl⟩
  rw [← hm] at b2 e1 hb ⊢
  subst e1
  have c0 := b1.cell 0
  simp at c0
  clear b1 hlt
  have Hm := Lib.hid hm
  clear hm
  go_enter Tryz.func48, Tryz.ntmps48
  go_wp2_with fail
  refine (clone_any A1 m c1 l _ hS Hm.out.symm (by omega)).mono ?_
  rintro e w1 ⟨A', c', rfl, ho, hB⟩
  go_wp2_with fail
  go_ret
  exact ⟨A', c', rfl, ho, hB⟩
end Go.Proofs.YtcnofhlgiffkjaaGreatDoor
