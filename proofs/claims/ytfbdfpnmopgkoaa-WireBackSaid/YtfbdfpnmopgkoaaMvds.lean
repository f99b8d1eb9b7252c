/- What is kept beside a writer that grows. -/
import Derived.Test.YtfbdfpnmopgkoaaLawB
namespace Go.Proofs.Ytfbdfpnmopgkoaa
open Go.RowKit
set_option linter.unusedVariables false
set_option linter.unusedSimpArgs false

theorem ValIn.on {w w' : World} {B B' k u : Nat} {s : Int} {A : Option Addr} {n c : Nat} {b : List UInt8} (h : ValIn w B k u s A n c b) (hb : Below B w w') (hB : B ≤ B') : ValIn w' B' k u s A n c b :=
  ⟨h.kind, h.num, h.lo, h.hi, (h.sees.below hb).more hB, h.len, h.cap, h.max⟩
theorem OwnB.mvd {w w' : World} {base n g : Nat} {v : Value} {l : List UInt8} {r : Option Nat} (h : OwnB w base v n l) (m : Mvd w w' g r) (hne : ∀ k, v.ownBlock = some k → k ≠ g ∧ r ≠ some k) : OwnB w' base v n l := by
  rcases h with ⟨h1, h2 | ⟨g', cap, cur, e, hb, hg, rest⟩⟩
  · exact ⟨h1, .inl h2⟩
  · subst e
    obtain ⟨n1, n2⟩ := hne g' (by simp [Value.ownBlock])
    have hlt : g' < w.heap.size := (Array.getElem?_eq_some_iff.1 hg).1
    exact ⟨h1, .inr ⟨g', cap, cur, rfl, hb, (m.block g' hlt n1 n2).trans hg, rest⟩⟩
theorem WrAt.grown {w w' : World} {base g : Nat} {v : Value} {l : List UInt8} {r : Option Nat} (h : WrAt w base g v l) (hg : w.grownBy w' r) (hr : r ≠ some g) (hv : v.ownBlock = none ∨ v.ownBlock ≠ r) : WrAt w' base g v l :=
  ⟨h.blk.grown hg hr, h.own.kept hg hv, Nat.le_trans h.base hg.size⟩
/-- Two rows stay apart, where the writer's has grown first and the other after it. -/
theorem rows_apart {w w3 : World} {v v' u u' : Value} (hs : u.ownBlock = none ∨ u.ownBlock ≠ v.ownBlock) (n1 : NewRow w v v') (hu : ∀ k, u.ownBlock = some k → k < w.heap.size) (hv' : ∀ k, v'.ownBlock = some k → k < w3.heap.size)
    (n2 : u'.ownBlock = u.ownBlock ∨ u'.ownBlock = some w3.heap.size) : (v'.ownBlock = none ∨ v'.ownBlock ≠ u.ownBlock) ∧ (u'.ownBlock = none ∨ u'.ownBlock ≠ v'.ownBlock) := by
  have a : u.ownBlock = none ∨ v'.ownBlock ≠ u.ownBlock := by
    rcases hs with hs | hs
    · exact .inl hs
    · rcases n1 with n1 | ⟨k, n1, hk⟩
      · exact .inr (by rw [n1]; exact fun e => hs e.symm)
      · refine .inr fun e => ?_
        have := hu k (by rw [← e, n1])
        omega
  constructor
  · rcases a with a | a
    · cases h : v'.ownBlock with
      | none => exact .inl rfl
      | some k => exact .inr (by rw [a]; simp)
    · exact .inr a
  · rcases n2 with n2 | n2
    · rw [n2]
      rcases a with a | a
      · exact .inl a
      · exact .inr fun e => a e.symm
    · refine .inr fun e => ?_
      have := hv' w3.heap.size (by rw [← e, n2])
      omega
end Go.Proofs.Ytfbdfpnmopgkoaa
