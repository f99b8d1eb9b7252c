/- The search of a matching in memory, further: what a move leaves alone, copies that were saved, the way back. -/
import Derived.Test.YtfnhaoindehjdaaDoorMtB
import Derived.Test.YtfnhaoindehjdaaDoorPi
import Derived.Deep.MidRow
namespace Go.Proofs.YtfnhaoindehjdaaDoor
open Go.RowKit
set_option linter.unusedVariables false
set_option linter.unusedSimpArgs false

/-- Old blocks but two are as they were. -/
structure Kl (w w' : World) (g l : Nat) : Prop where
  os : w'.os = w.os
  tape : w'.tape = w.tape
  output : w'.output = w.output
  size : w.heap.size ≤ w'.heap.size
  block : ∀ k, k < w.heap.size → k ≠ g → k ≠ l → w'.heap[k]? = w.heap[k]?
theorem Kl.kp {w w' : World} {g l : Nat} (h : Kp w w' g l) : Kl w w' g l := ⟨h.os, h.tape, h.output, Nat.le_of_eq h.size.symm, fun k _ h1 h2 => h.block k h1 h2⟩
theorem Kl.below {w w' : World} {g l : Nat} (h : Below w.heap.size w w') : Kl w w' g l := ⟨h.os, h.tape, h.output, h.size, fun k hk _ _ => h.block k hk⟩
theorem Kl.refl (w : World) (g l : Nat) : Kl w w g l := Kl.kp (Kp.refl w g l)
theorem Kl.trans {a b c : World} {g l l' : Nat} (h : Kl a b g l) (h2 : Kl b c g l') (hl : l' = l ∨ a.heap.size ≤ l') : Kl a c g l :=
  ⟨h2.os.trans h.os, h2.tape.trans h.tape, h2.output.trans h.output, Nat.le_trans h.size h2.size, fun k hk h3 h4 => (h2.block k (Nat.lt_of_lt_of_le hk h.size) h3 (by rcases hl with e | e; rw [e]; exact h4; omega)).trans (h.block k hk h3 h4)⟩
theorem Kl.toBelow {B : Nat} {w w' : World} {g l : Nat} (h : Kl w w' g l) (hg : B ≤ g) (hl : B ≤ l) (hB : B ≤ w.heap.size) : Below B w w' :=
  ⟨h.os, h.tape, h.output, h.size, fun k hk => h.block k (by omega) (by omega) (by omega)⟩
theorem Kl.cell {w w' : World} {g l b o : Nat} (h : Kl w w' g l) (hb : b < w.heap.size) (h1 : b ≠ g) (h2 : b ≠ l) : w'.cell? ⟨b, o, none⟩ = w.cell? ⟨b, o, none⟩ := World.cell?_of_block (h.block b hb h1 h2)
theorem SrAt.left {w : World} {g l n cg cl : Nat} {Ag : Option Addr} {gr : Nat → List Nat} {F : Nat → Bool} {s : MSt} (h : SrAt w g l n cg cl Ag gr F s) : Sees w w.heap.size (some ⟨l, 0, none⟩) (((List.range n).map fun a => oz (s.L a)).map iv) := fun hne => by
  refine ⟨l, 0, rfl, h.ll, fun k v hv => ?_⟩
  rw [List.getElem?_map, List.getElem?_map] at hv
  cases e : (List.range n)[k]? with
  | none => rw [e] at hv; cases hv
  | some x =>
    rw [e] at hv
    injection hv with hv
    obtain ⟨h1, h2⟩ := List.getElem?_eq_some_iff.1 e
    rw [List.getElem_range] at h2
    subst h2
    rw [← hv, Nat.zero_add]
    exact h.lf k (by simpa using h1)
theorem SrAt.gl {w : World} {g l n cg cl : Nat} {Ag : Option Addr} {gr : Nat → List Nat} {F : Nat → Bool} {s : MSt} (h : SrAt w g l n cg cl Ag gr F s) : g < w.heap.size := World.block_lt_of_cell? w _ h.c0
theorem SrAt.on {w w' : World} {g l n cg cl : Nat} {Ag : Option Addr} {gr : Nat → List Nat} {F : Nat → Bool} {s : MSt} (h : SrAt w g l n cg cl Ag gr F s) (hb : Below w.heap.size w w') : SrAt w' g l n cg cl Ag gr F s := by
  have hgl : g < w.heap.size := h.gl
  have keep : ∀ b o, (∃ v, w.cell? ⟨b, o, none⟩ = some v) → w'.cell? ⟨b, o, none⟩ = w.cell? ⟨b, o, none⟩ := fun b o ⟨v, hv⟩ => hb.cell (p := ⟨b, o, none⟩) (World.block_lt_of_cell? w _ hv)
  have fz : ∀ b o, b < w.heap.size → w'.frozen? ⟨b, o, none⟩ = w.frozen? ⟨b, o, none⟩ := fun b o hbl => World.frozen?_of_block (hb.block b hbl)
  refine ⟨h.ne, Nat.lt_of_lt_of_le h.ll hb.size, (keep _ _ ⟨_, h.c0⟩).trans h.c0, (keep _ _ ⟨_, h.c1⟩).trans h.c1, fun j hj => (keep _ _ ⟨_, h.rt j hj⟩).trans (h.rt j hj), fun j hj => (keep _ _ ⟨_, h.fx j hj⟩).trans (h.fx j hj), fun j hj => (keep _ _ ⟨_, h.sn j hj⟩).trans (h.sn j hj),
    fun a ha => (keep _ _ ⟨_, h.lf a ha⟩).trans (h.lf a ha), fun j => (fz _ _ hgl).trans (h.fg j), fun j => (fz _ _ h.ll).trans (h.fl j), fun a ha => ?_⟩
  obtain ⟨b, o, A, m, c, e, h1, h2, h3, h4, h5, h6⟩ := h.rows a ha
  refine ⟨b, o, A, m, c, e, h1, h2, (keep _ _ ⟨_, h3⟩).trans h3, h4, h5, fun j x hx => ?_⟩
  obtain ⟨b', o', e', q1, q2, q3⟩ := h6 j x hx
  exact ⟨b', o', e', q1, q2, (keep _ _ ⟨_, q3⟩).trans q3⟩
/-- The right partners, as they lie. -/
def zR (s : MSt) : List Value := (List.range 256).map fun j => Value.int .i64 (oz (s.R j))
theorem zR_len (s : MSt) : (zR s).length = 256 := by simp [zR]
theorem zR_get (s : MSt) {j : Nat} {v : Value} (h : (zR s)[j]? = some v) : j < 256 ∧ v = .int .i64 (oz (s.R j)) := by
  unfold zR at h
  rw [List.getElem?_map] at h
  cases e : (List.range 256)[j]? with
  | none => rw [e] at h; cases h
  | some x =>
    rw [e] at h
    injection h with h
    obtain ⟨h1, h2⟩ := List.getElem?_eq_some_iff.1 e
    rw [List.getElem_range] at h2
    subst h2
    exact ⟨by simpa using h1, h.symm⟩
theorem zR_one (s : MSt) : (zR s).toArray.all (·.oneCell') = true := all_oneCell_toArray fun v hv => by
  obtain ⟨j, _, rfl⟩ := List.mem_map.1 hv
  rfl
theorem SrAt.rangeR {w : World} {g l n cg cl : Nat} {Ag : Option Addr} {gr : Nat → List Nat} {F : Nat → Bool} {s : MSt} (h : SrAt w g l n cg cl Ag gr F s) : w.rangeAt g 2 (zR s) := fun j v hv => by
  obtain ⟨h1, rfl⟩ := zR_get s hv
  exact h.rt j h1
theorem SrAt.thereR {w : World} {g l n cg cl : Nat} {Ag : Option Addr} {gr : Nat → List Nat} {F : Nat → Bool} {s : MSt} (h : SrAt w g l n cg cl Ag gr F s) : w.there g 2 256 := fun j hj => ⟨by rw [h.rt j hj]; rfl, h.fg _⟩
/-- Copies that were saved: the left partners in block lo, the right ones in block gx. -/
structure MvS (w wx : World) (g l lo gx n : Nat) (s : MSt) : Prop where
  hg : g < w.heap.size
  hl : l < w.heap.size
  hlo : w.heap.size ≤ lo
  hgx : w.heap.size ≤ gx
  lt : lo < wx.heap.size
  cl : ∀ a, a < n → wx.cell? ⟨lo, a, none⟩ = some (.int .i64 (oz (s.L a)))
  fl : ∀ j, wx.frozen? ⟨lo, j, none⟩ = false
  cz : wx.rangeAt gx 0 (zR s)
theorem MvS.kp {w wx w' : World} {g l lo gx n : Nat} {s : MSt} (h : MvS w wx g l lo gx n s) (hk : Kp wx w' g l) : MvS w w' g l lo gx n s := by
  have h1 := h.hg; have h2 := h.hl; have h3 := h.hlo; have h4 := h.hgx
  have k1 := hk.block lo (by omega) (by omega)
  have k2 := hk.block gx (by omega) (by omega)
  exact ⟨h1, h2, h3, h4, by rw [hk.size]; exact h.lt, fun a ha => (World.cell?_of_block k1).trans (h.cl a ha), fun j => (World.frozen?_of_block k1).trans (h.fl j), fun j v hv => (World.cell?_of_block k2).trans (h.cz j v hv)⟩
theorem below_setCells {B : Nat} {w : World} {gx : Nat} : ∀ (Z : List Value) (o : Nat) (v : World), Below B w v → B ≤ gx → Below B w (v.setCells gx o Z)
  | [], o, v, h, _ => h
  | z :: Z, o, v, h, hb => by
    rw [World.setCells]
    exact below_setCells Z (o + 1) _ (h.setCell (p := ⟨gx, o, none⟩) hb z) hb
theorem there_new (u : World) (zc : Array Value) (t : TypeId) {n : Nat} (h : zc.size = n) : (u.alloc (.cells zc t)).there u.heap.size 0 n := fun j hj => by
  have hb := Blk.new u t zc
  refine ⟨?_, hb.frozen _⟩
  rw [hb.cell, Nat.zero_add, Array.getElem?_eq_getElem (by omega)]
  rfl
theorem mvs_fin {w v : World} {g l n cg cl lo gx c4 : Nat} {Ag : Option Addr} {gr : Nat → List Nat} {F : Nat → Bool} {s : MSt} (hs : SrAt w g l n cg cl Ag gr F s) (hb : Below w.heap.size w v) (hlo : w.heap.size ≤ lo) (hgx : w.heap.size ≤ gx) (hne : lo ≠ gx)
    {B : Nat} (hn : 0 < n) (ho : OwnI v B (.slice (some ⟨lo, 0, none⟩) n c4) n ((List.range n).map fun a => oz (s.L a))) (hth : v.there gx 0 256) :
    SrAt (v.setCells gx 0 (zR s)) g l n cg cl Ag gr F s ∧ MvS w (v.setCells gx 0 (zR s)) g l lo gx n s ∧ Below w.heap.size w (v.setCells gx 0 (zR s)) := by
  have hB := below_setCells (zR s) 0 v hb hgx
  have out : ∀ o, (v.setCells gx 0 (zR s)).cell? ⟨lo, o, none⟩ = v.cell? ⟨lo, o, none⟩ := fun o => World.cell?_setCells_out _ _ _ _ _ (fun h1 _ => absurd h1 hne)
  obtain ⟨cs, hc⟩ : ∃ cs, Blk v lo 3 cs := by
    rcases ho.2 with ⟨h1, h2⟩ | ⟨g', cap, cur, hv, _, hg, _⟩
    · omega
    · injection hv with hv
      injection hv with hv
      injection hv with hv
      subst hv
      exact ⟨cur, hg⟩
  refine ⟨hs.on hB, ⟨hs.gl, hs.ll, hlo, hgx, ?_, fun a ha => ?_, fun j => ?_, ?_⟩, hB⟩
  · rw [size_setCells]; exact hc.lt
  · rw [out]
    obtain ⟨b, o, e, _, hcell⟩ := ho.sees (by
      intro e
      have := congrArg List.length e
      simp at this
      omega)
    injection e with e
    injection e with e1 e2
    subst e1 e2
    rw [show a = 0 + a by omega]
    refine hcell _ _ ?_
    rw [Nat.zero_add, List.getElem?_map, List.getElem?_map, List.getElem?_range (by omega)]
    rfl
  · rw [World.frozen?_setCells]; exact hc.frozen j
  · exact World.rangeAt_setCells_same v gx 0 (zR s) (by rw [zR_len]; exact hth)
theorem Kp.toKl {w wx w' : World} {g l : Nat} (h : Kl w wx g l) (h2 : Kp wx w' g l) : Kl w w' g l := h.trans (Kl.kp h2) (Or.inl rfl)
/-- Both sides are as they were saved. -/
theorem SrAt.swap {w wx : World} {g l lo gx n cg cl c4 : Nat} {Ag : Option Addr} {gr : Nat → List Nat} {F : Nat → Bool} {s s0 t : MSt} (h0 : SrAt w g l n cg cl Ag gr F s0) (h : SrAt wx g l n cg cl Ag gr F t) (hv : MvS w wx g l lo gx n s) (hk : Kl w wx g l) :
    SrAt ((wx.setCell ⟨g, 1, none⟩ (.slice (some ⟨lo, 0, none⟩) n c4)).setCells g 2 (zR s)) g lo n cg c4 Ag gr F ⟨s.L, s.R, t.S⟩ ∧ Kl w ((wx.setCell ⟨g, 1, none⟩ (.slice (some ⟨lo, 0, none⟩) n c4)).setCells g 2 (zR s)) g l := by
  have e1 := hv.hg; have e2 := hv.hl; have e3 := hv.hlo; have e4 := hv.hgx
  have kp1 : Kp wx ((wx.setCell ⟨g, 1, none⟩ (.slice (some ⟨lo, 0, none⟩) n c4)).setCells g 2 (zR s)) g l := (Kp.set ⟨g, 1, none⟩ _ (Or.inl rfl)).trans (Kp.sets (zR s) 2 _)
  have kl := Kp.toKl hk kp1
  have hv2 := hv.kp kp1
  refine ⟨?_, kl⟩
  generalize hw' : ((wx.setCell ⟨g, 1, none⟩ (.slice (some ⟨lo, 0, none⟩) n c4)).setCells g 2 (zR s)) = w' at kp1 kl hv2 ⊢
  have out : ∀ o, (o < 2 ∨ 258 ≤ o) → w'.cell? ⟨g, o, none⟩ = (wx.setCell ⟨g, 1, none⟩ (.slice (some ⟨lo, 0, none⟩) n c4)).cell? ⟨g, o, none⟩ := fun o ho => by
    rw [← hw']
    refine World.cell?_setCells_out _ _ _ _ _ (fun _ _ => ?_)
    show o < 2 ∨ 2 + (zR s).length ≤ o
    rw [zR_len]; omega
  refine ⟨by omega, hv2.lt, ?_, ?_, fun j hj => ?_, fun j hj => ?_, fun j hj => ?_, hv2.cl, fun j => ?_, hv2.fl, fun a ha => ?_⟩
  · exact (out 0 (by omega)).trans ((cell_ne (by omega)).trans h.c0)
  · exact (out 1 (by omega)).trans (World.cell?_setCell_same _ _ _ h.c1)
  · rw [← hw']
    have h1 := World.cell?_setCells_in g (zR s) 2 (wx.setCell ⟨g, 1, none⟩ (.slice (some ⟨lo, 0, none⟩) n c4)) (fun i hi => by
      rw [zR_len] at hi
      rw [cell_ne (by omega), h.rt i hi]; rfl) j (by rw [zR_len]; exact hj)
    rw [h1]
    obtain ⟨_, h3⟩ := zR_get s (List.getElem?_eq_getElem (by rw [zR_len]; exact hj))
    rw [h3]
  · exact (out (258 + j) (by omega)).trans ((cell_ne (by omega)).trans (h.fx j hj))
  · exact (out (514 + j) (by omega)).trans ((cell_ne (by omega)).trans (h.sn j hj))
  · rw [← hw', World.frozen?_setCells, World.frozen?_setCell]; exact h.fg j
  · obtain ⟨b, o, A, m, c, e, h1, h2, h3, h4, h5, h6⟩ := h0.rows a ha
    have hb := World.block_lt_of_cell? w _ h3
    refine ⟨b, o, A, m, c, e, h1, by simp only [] at hb; omega, (kl.cell hb h1 h2).trans h3, h4, h5, fun j x hx => ?_⟩
    obtain ⟨b', o', e', q1, q2, q3⟩ := h6 j x hx
    have hb' := World.block_lt_of_cell? w _ q3
    exact ⟨b', o', e', q1, by simp only [] at hb'; omega, (kl.cell hb' q1 q2).trans q3⟩
end Go.Proofs.YtfnhaoindehjdaaDoor
