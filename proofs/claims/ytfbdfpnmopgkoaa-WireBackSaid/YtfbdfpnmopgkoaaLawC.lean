/- The walk of the laws' back. -/
import Derived.Test.YtfbdfpnmopgkoaaLawB
import Derived.Test.YtfbdfpnmopgkoaaWireI
import Derived.Test.YtfbdfpnmopgkoaaWireJ
import Derived.Deep.RegionHeld3
namespace Go.Proofs.Ytfbdfpnmopgkoaa
open Go.RowKit
set_option linter.unusedVariables false
set_option linter.unusedSimpArgs false

/-- What back reads: whether it is the value, what is left, the error. -/
def bkV (k u : Nat) (s : Int) (b p : List UInt8) : Bool × List UInt8 × Int :=
  if k % 7 = 0 then (decide ((rdU u p).1 = u), (rdU u p).2) else if k % 7 = 1 then (decide ((rdI s s p).1 = s), (rdI s s p).2)
  else if k % 7 = 2 ∨ k % 7 = 3 then (decide ((rdB ((b.take 300).length : Nat) p).1 = b.take 300), (rdB ((b.take 300).length : Nat) p).2)
  else if k % 7 = 4 then (decide ((rdF p).1 = decide (u % 2 = 1)), (rdF p).2) else if k % 7 = 5 then (decide ((rdR (b.take 300).length p).1 = b.take 300), (rdR (b.take 300).length p).2)
  else (decide ((rdS 4095 p).1 = ofL (mems (b.take 300))), (rdS 4095 p).2)
theorem beq_nat (a b : Nat) : (((a : Nat) : Int) == ((b : Nat) : Int)) = decide (a = b) := by
  by_cases h : a = b
  · subst h; simp
  · rw [decide_eq_false h]; exact beq_false_of_ne (by omega)
theorem beq_int (a b : Int) : (a == b) = decide (a = b) := by
  by_cases h : a = b
  · subst h; simp
  · rw [decide_eq_false h]; exact beq_false_of_ne h
theorem beq_bool (a b : Bool) : (a == b) = decide (a = b) := by cases a <;> cases b <;> rfl

set_option maxHeartbeats 4000000 in
set_option maxRecDepth 100000 in
/-- back. -/
theorem lback_any (g : Nat) (p : List UInt8) (k u : Nat) (s : Int) (A : Option Addr) (n c : Nat) (b : List UInt8) (w : World) (h : RdAt w g p 0) (hv : ValIn w w.heap.size k u s A n c b) :
    Calls Try.prog 37 #[.pointer (some ⟨g, 0, none⟩), valV k u s A n c] w fun e w' => e = .returned (.bool (bkV k u s b p).1) ∧ RdAt w' g (bkV k u s b p).2.1 (bkV k u s b p).2.2 ∧ Only w w' g := by
  obtain ⟨hk, hu, s1, s2, hs, hn, hc, hm⟩ := hv
  obtain ⟨Ag, ng, cg, hI⟩ := id h
  have hgl := hI.blk.lt
  clear hI
  have hbox := Blk.new w 41 #[.int .u8 (k : Int), .int .u64 (u : Int), .int .i64 s, .slice A n c]
  have b1 : Below w.heap.size w (w.alloc (.cells #[.int .u8 (k : Int), .int .u64 (u : Int), .int .i64 s, .slice A n c] 41)) := (Below.refl _ _).alloc (Nat.le_refl _) _
  have h1 := h.on b1
  obtain ⟨m, hmm⟩ : ∃ m, m = min n 300 := ⟨_, rfl⟩
  have hm3 : m ≤ 300 := by omega
  obtain ⟨b', hb'⟩ : ∃ b', Hid (b' = b.take 300) := ⟨_, Lib.hid rfl⟩
  have hml := Lib.hid (show b'.length = m by rw [hb'.out, List.length_take, hn, hmm]; omega)
  have sb0 : Sees w w.heap.size A (b'.map bv) := by rw [hb'.out, List.map_take]; exact hs.take_ 300
  have sb1 := sb0.on b1
  have hsh := fun W => short_any A n c W hc hm
  rw [← hmm] at hsh
  have Hmm := Lib.hid hmm
  clear hmm hn
  unfold valV
  generalize hW1 : (w.alloc (.cells #[.int .u8 (k : Int), .int .u64 (u : Int), .int .i64 s, .slice A n c] 41)) = w1 at hbox b1 h1 sb1
  have hz1 := b1.size
  have box : ∀ W, Blk W w.heap.size 41 #[.int .u8 (k : Int), .int .u64 (u : Int), .int .i64 s, .slice A n c] → W.cell? ⟨w.heap.size, 0, none⟩ = some (.int .u8 (k : Int)) ∧ W.cell? ⟨w.heap.size, 1, none⟩ = some (.int .u64 (u : Int)) ∧ W.cell? ⟨w.heap.size, 2, none⟩ = some (.int .i64 s) ∧ W.cell? ⟨w.heap.size, 3, none⟩ = some (.slice A n c) := fun W hb => ⟨(hb.cell 0).trans rfl, (hb.cell 1).trans rfl, (hb.cell 2).trans rfl, (hb.cell 3).trans rfl⟩
  have hd1 : Below w1.heap.size w1 w1.drew := (Below.refl _ _).drew
  have box1 := box _ (hbox.on hd1)
  have fin : ∀ w2, Only w1.drew w2 g → Only w w2 g ∧ Blk w2 w.heap.size 41 #[.int .u8 (k : Int), .int .u64 (u : Int), .int .i64 s, .slice A n c] := fun w2 m2 => ⟨Only.trans (Only.trans (Mvd.ofBelow b1 g none) (Mvd.ofBelow hd1 g none)) m2, (hbox.on hd1).only m2 (by omega)⟩
  have fin1 : ∀ w2, Only w1 w2 g → Only w w2 g := fun w2 m2 => Only.trans (Mvd.ofBelow b1 g none) m2
  have hk7 : k % 7 = 0 ∨ k % 7 = 1 ∨ k % 7 = 2 ∨ k % 7 = 3 ∨ k % 7 = 4 ∨ k % 7 = 5 ∨ k % 7 = 6 := by omega
  rcases hk7 with e7 | e7 | e7 | e7 | e7 | e7 | e7
  · have hki : (k : Int) % 7 = 0 := by omega
    have hE : bkV k u s b p = (decide ((rdU u p).1 = u), (rdU u p).2) := by unfold bkV; rw [if_pos e7]
    rw [hE]
    clear hE e7
    have hc := rUint_any g p u w1.drew (h1.on hd1)
    generalize rdU u p = R at hc ⊢
    go_enter Try.func37, Try.ntmps37
    obtain ⟨x0, x1, x2, x3⟩ := box w1 hbox
    go_wp2_with fail
    refine (hsh w1).mono ?_
    rintro e w1' ⟨rfl, rfl⟩
    go_wp2_with fail
    go_region_held3 (fun w' => w'.cell? ⟨w.heap.size, 1, none⟩ = some (.int .u64 (u : Int)))
      (first | exact box1.2.1 | exact (box w2 (fin w2 m2).2).2.1)
      (first | (go_at_call 15; refine (hc).mono ?_; rintro e w2 ⟨rfl, hr2, m2⟩))
    all_goals
      go_wp2_with fail
      go_ret
      exact ⟨ret_bool (beq_nat _ _), hr2, (fin w2 m2).1⟩
  · have hki : (k : Int) % 7 = 1 := by omega
    have hE : bkV k u s b p = (decide ((rdI s s p).1 = s), (rdI s s p).2) := by unfold bkV; rw [if_neg (by omega), if_pos e7]
    rw [hE]
    clear hE e7
    have hc := rInt_any g p s s w1.drew (h1.on hd1)
    generalize rdI s s p = R at hc ⊢
    go_enter Try.func37, Try.ntmps37
    obtain ⟨x0, x1, x2, x3⟩ := box w1 hbox
    go_wp2_with fail
    refine (hsh w1).mono ?_
    rintro e w1' ⟨rfl, rfl⟩
    go_wp2_with fail
    go_region_held3 (fun w' => w'.cell? ⟨w.heap.size, 2, none⟩ = some (.int .i64 s))
      (first | exact box1.2.2.1 | exact (box w2 (fin w2 m2).2).2.2.1)
      (first | (go_at_call 23; refine (hc).mono ?_; rintro e w2 ⟨rfl, hr2, m2⟩))
    all_goals
      go_wp2_with fail
      go_ret
      exact ⟨ret_bool (beq_int _ _), hr2, (fin w2 m2).1⟩
  · have hki : (k : Int) % 7 = 2 := by omega
    have hE : bkV k u s b p = (decide ((rdB (m : Nat) p).1 = b'), (rdB (m : Nat) p).2) := by unfold bkV; rw [if_neg (by omega), if_neg (by omega), if_pos (by omega), ← hb'.out, hml.out]
    rw [hE]
    clear hE e7
    have hc := rString_any g p (m : Int) w1.drew (h1.on hd1) (by omega) (by omega)
    generalize rdB (m : Int) p = R at hc ⊢
    have hstr : ∀ W, Sees W W.heap.size A (b'.map bv) → (convert 27 9 (.slice A m c)).run Try.prog W = .ok (.string (bstr b')) W := fun W hW => run_str W _ A m c b' hW hml.out
    have st1 := hstr _ (sb1.on hd1)
    go_enter Try.func37, Try.ntmps37
    obtain ⟨x0, x1, x2, x3⟩ := box w1 hbox
    go_wp2_with fail
    refine (hsh w1).mono ?_
    rintro e w1' ⟨rfl, rfl⟩
    go_wp2_with fail
    go_region_held3 (fun w' => (convert 27 9 (.slice A m c)).run Try.prog w' = .ok (.string (bstr b')) w')
      (first | exact st1 | exact hstr w2 ((sb1.on hd1).beside (h1.on hd1) m2))
      (first | (go_at_call 54; refine (hc).mono ?_; rintro e w2 ⟨rfl, hr2, m2⟩))
    all_goals
      go_wp2_with fail
      go_ret
      exact ⟨ret_bool (bstr_beq _ _), hr2, (fin w2 m2).1⟩
  · have hki : (k : Int) % 7 = 3 := by omega
    have hE : bkV k u s b p = (decide ((rdB (m : Nat) p).1 = b'), (rdB (m : Nat) p).2) := by unfold bkV; rw [if_neg (by omega), if_neg (by omega), if_pos (by omega), ← hb'.out, hml.out]
    rw [hE]
    clear hE e7
    have hc := rBytes_any g p (m : Int) w1 h1 (by omega) (by omega)
    generalize rdB (m : Int) p = R at hc ⊢
    go_enter Try.func37, Try.ntmps37
    obtain ⟨x0, x1, x2, x3⟩ := box w1 hbox
    go_wp2_with fail
    refine (hsh w1).mono ?_
    rintro e w1' ⟨rfl, rfl⟩
    go_wp2_with fail
    refine hc.mono ?_
    rintro e w2 ⟨A2, n2, c2, rfl, o2, hr2, m2⟩
    go_wp2_with fail
    refine (same_any A2 A n2 c2 m c _ b' w2 o2.sees (sb1.beside h1 m2) o2.len hml.out).mono ?_
    rintro e w3 ⟨rfl, rfl⟩
    go_wp2_with fail
    go_ret
    exact ⟨rfl, hr2, fin1 w2 m2⟩
  · have hki : (k : Int) % 7 = 4 := by omega
    have hE : bkV k u s b p = (decide ((rdF p).1 = decide (u % 2 = 1)), (rdF p).2) := by unfold bkV; rw [if_neg (by omega), if_neg (by omega), if_neg (by omega), if_pos e7]
    rw [hE]
    clear hE e7
    have hc := rFlag_any g p w1.drew (h1.on hd1)
    generalize rdF p = R at hc ⊢
    go_enter Try.func37, Try.ntmps37
    obtain ⟨x0, x1, x2, x3⟩ := box w1 hbox
    go_wp2_with fail
    refine (hsh w1).mono ?_
    rintro e w1' ⟨rfl, rfl⟩
    go_wp2_with fail
    go_region_held3 (fun w' => w'.cell? ⟨w.heap.size, 1, none⟩ = some (.int .u64 (u : Int)))
      (first | exact box1.2.1 | exact (box w2 (fin w2 m2).2).2.1)
      (first | (go_at_call 55; refine (hc).mono ?_; rintro e w2 ⟨rfl, hr2, m2⟩))
    all_goals
      go_wp2_with fail
      go_ret
      exact ⟨ret_bool (by rw [← beq_par, beq_bool]; first | done | rw [Int.tmod_eq_emod_of_nonneg (by omega)]), hr2, (fin w2 m2).1⟩
  · have hki : (k : Int) % 7 = 5 := by omega
    have hE : bkV k u s b p = (decide ((rdR m p).1 = b'), (rdR m p).2) := by unfold bkV; rw [if_neg (by omega), if_neg (by omega), if_neg (by omega), if_neg (by omega), if_pos e7, ← hb'.out, hml.out]
    rw [hE]
    clear hE e7
    have hc := rRaw_any g p m w1 h1 (by omega)
    generalize rdR m p = R at hc ⊢
    go_enter Try.func37, Try.ntmps37
    obtain ⟨x0, x1, x2, x3⟩ := box w1 hbox
    go_wp2_with fail
    refine (hsh w1).mono ?_
    rintro e w1' ⟨rfl, rfl⟩
    go_wp2_with fail
    refine hc.mono ?_
    rintro e w2 ⟨A2, n2, c2, rfl, o2, hr2, m2⟩
    go_wp2_with fail
    refine (same_any A2 A n2 c2 m c _ b' w2 o2.sees (sb1.beside h1 m2) o2.len hml.out).mono ?_
    rintro e w3 ⟨rfl, rfl⟩
    go_wp2_with fail
    go_ret
    exact ⟨rfl, hr2, fin1 w2 m2⟩
  · have hki : (k : Int) % 7 = 6 := by omega
    have hE : bkV k u s b p = (decide ((rdS 4095 p).1 = ofL (mems b')), (rdS 4095 p).2) := by unfold bkV; rw [if_neg (by omega), if_neg (by omega), if_neg (by omega), if_neg (by omega), if_neg (by omega), ← hb'.out]
    rw [hE]
    clear hE e7
    have hc := rSet_any g p 4095 w1 h1
    generalize rdS 4095 p = R at hc ⊢
    go_enter Try.func37, Try.ntmps37
    obtain ⟨x0, x1, x2, x3⟩ := box w1 hbox
    go_wp2_with fail
    refine (hsh w1).mono ?_
    rintro e w1' ⟨rfl, rfl⟩
    go_wp2_with fail
    refine hc.mono ?_
    rintro e w2 ⟨v2, rfl, hs2, hr2, m2⟩
    go_wp2_with fail
    refine (members_any A m c b' w2 (sb1.beside h1 m2) hml.out).mono ?_
    rintro e wa ⟨Aa, na, ca, rfl, hna, oa, ba⟩
    have hla := Lib.hid (show (mems b').length = na by have := oa.len; simpa [cst] using this)
    have sa : Sees wa wa.heap.size Aa (niv (mems b')) := oa.sees
    go_wp2_with fail
    refine (of_any Aa na ca (mems b') wa sa hla.out (mems_lt b') (by omega)).mono ?_
    rintro e wb ⟨vb, rfl, hsb, bb⟩
    have bab := ba.trans (bb.mono ba.size)
    go_wp2_with fail
    refine (setEqual_any v2 vb _ _ wb (hs2.on bab) hsb).mono ?_
    rintro e wc ⟨rfl, bc⟩
    have bac := bab.trans (bc.mono bab.size)
    go_wp2_with fail
    go_ret
    exact ⟨rfl, hr2.on bac, fin1 wc (Only.trans m2 (Mvd.ofBelow bac g none))⟩
end Go.Proofs.Ytfbdfpnmopgkoaa
