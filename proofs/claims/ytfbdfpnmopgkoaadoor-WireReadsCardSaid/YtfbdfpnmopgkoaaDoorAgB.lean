/- agree, both readers behind an error. -/
import Derived.Test.YtfbdfpnmopgkoaaDoorBadR
import Derived.Test.YtfbdfpnmopgkoaaDoorLawA
import Derived.Deep.RegionHeld3
namespace Go.Proofs.YtfbdfpnmopgkoaaDoor
open Go.RowKit
set_option linter.unusedVariables false
set_option linter.unusedSimpArgs false

/-- A call of a reader. -/
def callV (k : Nat) (mo lo : Int) : Value := .agg #[.int .u8 (k : Int), .int .i64 mo, .int .i64 lo]

set_option maxHeartbeats 4000000 in
set_option maxRecDepth 100000 in
/-- agree, both behind the same error. -/
theorem agree_bad (rp : Option Addr) (Q : World → Prop) (B g : Nat) (p : List UInt8) (er : Int) (k : Nat) (mo lo : Int) (w : World) (hR : BadR rp er Q) (hQ : Q w) (hM : RrAt w B g p er) (he : er ≠ 0) (hT : Tab w)
    (hk : k < 256) (m1 : -9223372036854775808 ≤ mo) (m2 : mo ≤ 9223372036854775807) (l1 : -9223372036854775808 ≤ lo) (l2 : lo ≤ 9223372036854775807) :
    Calls Tryd.prog 8 #[.pointer rp, .pointer (some ⟨g, 0, none⟩), callV k mo lo] w fun e w' => e = .returned (.bool true) ∧ Below w.heap.size w w' := by
  have hbox := Blk.new w 33 #[.int .u8 (k : Int), .int .i64 mo, .int .i64 lo]
  have b1 : Below w.heap.size w (w.alloc (.cells #[.int .u8 (k : Int), .int .i64 mo, .int .i64 lo] 33)) := (Below.refl _ _).alloc (Nat.le_refl _) _
  have q1 := hR.on _ _ hQ b1
  have t1 := hT.below b1 (World.block_lt_of_cell? w _ (hT 0 (by omega)))
  have r1 := hM.on b1
  unfold callV
  generalize hW1 : (w.alloc (.cells #[.int .u8 (k : Int), .int .i64 mo, .int .i64 lo] 33)) = w1 at hbox b1 q1 r1 t1
  have hz1 := b1.size
  have dn : ∀ n, Below w1.heap.size w1 (w1.drewN n) := fun n => below_drewN (Below.refl _ _) n
  have qn := fun n => hR.on _ _ q1 (dn n)
  have rn := fun n => r1.on (dn n)
  have fin : ∀ n, Below w.heap.size w (w1.drewN n) := fun n => below_drewN b1 n
  have box : ∀ W, Blk W w.heap.size 33 #[.int .u8 (k : Int), .int .i64 mo, .int .i64 lo] → W.cell? ⟨w.heap.size, 0, none⟩ = some (.int .u8 (k : Int)) ∧ W.cell? ⟨w.heap.size, 1, none⟩ = some (.int .i64 mo) ∧ W.cell? ⟨w.heap.size, 2, none⟩ = some (.int .i64 lo) := fun W hb => ⟨(hb.cell 0).trans rfl, (hb.cell 1).trans rfl, (hb.cell 2).trans rfl⟩
  have hk11 : k % 11 = 0 ∨ k % 11 = 1 ∨ k % 11 = 2 ∨ k % 11 = 3 ∨ k % 11 = 4 ∨ k % 11 = 5 ∨ k % 11 = 6 ∨ k % 11 = 7 ∨ k % 11 = 8 ∨ k % 11 = 9 ∨ k % 11 = 10 := by omega
  rcases hk11 with e7 | e7 | e7 | e7 | e7 | e7 | e7 | e7 | e7 | e7 | e7
  · have hki : (k : Int) % 11 = 0 := by omega
    clear e7
    go_enter Tryd.func8, Tryd.ntmps8
    obtain ⟨x0, x1, x2⟩ := box w1 hbox
    go_wp2_with fail
    go_quiet (first | (go_at_call 15; exact quiet_same1 (hR.uint _ _ (qn _))) | (go_at_call 28; exact quiet_same1 (rrUint_bad _ B g p er _ (rn _) he)))
    go_wp2_with fail
    go_ret
    exact ⟨rfl, fin _⟩
  · have hki : (k : Int) % 11 = 1 := by omega
    clear e7
    go_enter Tryd.func8, Tryd.ntmps8
    obtain ⟨x0, x1, x2⟩ := box w1 hbox
    go_wp2_with fail
    go_quiet (first | (go_at_call 29; exact quiet_same1 (hR.number _ _ (qn _))) | (go_at_call 30; exact quiet_same1 (rrNumber_bad _ B g p er _ (rn _) he)))
    go_wp2_with fail
    go_ret
    exact ⟨rfl, fin _⟩
  · have hki : (k : Int) % 11 = 2 := by omega
    clear e7
    go_enter Tryd.func8, Tryd.ntmps8
    obtain ⟨x0, x1, x2⟩ := box w1 hbox
    go_wp2_with fail
    go_quiet (first | (go_at_call 31; exact quiet_same1 (hR.int _ _ _ (qn _))) | (go_at_call 32; exact quiet_same1 (rrInt_bad _ _ B g p er _ (rn _) he)))
    go_wp2_with fail
    go_ret
    exact ⟨rfl, fin _⟩
  · have st : ∀ W, (convert 22 9 (.slice none 0 0)).run Tryd.prog W = .ok (.string (bstr [])) W := fun W => run_str W W.heap.size none 0 0 [] (Sees.nil _ _ _) rfl
    have hki : (k : Int) % 11 = 3 := by omega
    clear e7
    go_enter Tryd.func8, Tryd.ntmps8
    obtain ⟨x0, x1, x2⟩ := box w1 hbox
    go_wp2_with fail
    go_quiet (first | (go_at_call 33; exact quiet_same1 (hR.string _ _ (qn _))) | (go_at_call 34; exact quiet_same1 (rrBytes_bad _ B g p er _ (rn _) he)))
    go_wp2_with fail
    go_ret
    exact ⟨rfl, fin _⟩
  · have hki : (k : Int) % 11 = 4 := by omega
    clear e7
    go_enter Tryd.func8, Tryd.ntmps8
    obtain ⟨x0, x1, x2⟩ := box w1 hbox
    go_wp2_with fail
    go_quiet (first | (go_at_call 16; exact quiet_same1 (hR.bytes _ _ (qn _))) | (go_at_call 34; exact quiet_same1 (rrBytes_bad _ B g p er _ (rn _) he)) | (go_at_call 26; exact quiet_same1 (same_any none none 0 0 0 0 [] [] _ (Sees.nil _ _ _) (Sees.nil _ _ _) rfl rfl)))
    go_wp2_with fail
    go_ret
    exact ⟨rfl, fin _⟩
  · have hki : (k : Int) % 11 = 5 := by omega
    clear e7
    go_enter Tryd.func8, Tryd.ntmps8
    obtain ⟨x0, x1, x2⟩ := box w1 hbox
    go_wp2_with fail
    refine (hR.flag _ q1).mono ?_
    rintro e w2 ⟨rfl, rfl⟩
    go_wp2_with fail
    refine (rrFlag_bad B g p er _ r1 he).mono ?_
    rintro e w2 ⟨rfl, rfl⟩
    go_wp2_with fail
    go_ret
    exact ⟨rfl, b1⟩
  · have hki : (k : Int) % 11 = 6 := by omega
    clear e7
    go_enter Tryd.func8, Tryd.ntmps8
    obtain ⟨x0, x1, x2⟩ := box w1 hbox
    go_wp2_with fail
    go_quiet (first | (go_at_call 36; exact quiet_same1 (hR.raw _ _ (qn _))) | (go_at_call 37; exact quiet_same1 (rrRaw_bad _ B g p er _ (rn _) he)) | (go_at_call 26; exact quiet_same1 (same_any none none 0 0 0 0 [] [] _ (Sees.nil _ _ _) (Sees.nil _ _ _) rfl rfl)))
    go_wp2_with fail
    go_ret
    exact ⟨rfl, fin _⟩
  · have hki : (k : Int) % 11 = 7 := by omega
    clear e7
    go_enter Tryd.func8, Tryd.ntmps8
    obtain ⟨x0, x1, x2⟩ := box w1 hbox
    go_wp2_with fail
    go_quiet (first | (go_at_call 38; exact quiet_same1 (hR.count _ _ (qn _))) | (go_at_call 39; exact quiet_same1 (rrCount_bad _ B g p er _ (rn _) he)))
    go_wp2_with fail
    go_ret
    exact ⟨rfl, fin _⟩
  · have sB : ∀ W, Below w1.heap.size w1 W → W.cell? ⟨w.heap.size, 1, none⟩ = some (.int .i64 mo) ∧ Below w1.heap.size w1 W := fun W h => ⟨(box W (hbox.on h)).2.1, h⟩
    have tB : ∀ W, Below w1.heap.size w1 W → Tab W := fun W h => t1.below h (World.block_lt_of_cell? w1 _ (t1 0 (by omega)))
    have q0 : Below w1.heap.size w1 w1.drew := (Below.refl _ _).drew
    have hki : (k : Int) % 11 = 8 := by omega
    clear e7
    go_enter Tryd.func8, Tryd.ntmps8
    obtain ⟨x0, x1, x2⟩ := box w1 hbox
    go_wp2_with fail
    go_region_held3 (fun w' => w'.cell? ⟨w.heap.size, 1, none⟩ = some (.int .i64 mo) ∧ Below w1.heap.size w1 w')
      (first | exact sB _ qD | exact sB _ qB | exact sB _ qA | exact sB _ q0)
      (first
        | (go_at_call 40; have mm := qC; refine (equalI_any A3 none n3 c3 0 0 (memZ 0) [] wB o3.sees (Sees.nil _ _ _) o3.len rfl (by have := o3.len; simp [memZ, memM, memU, len2] at this; omega)).mono ?_; rintro e wD ⟨rfl, q, rfl⟩; have qD := below_drewN qB q)
        | (go_at_call 42; have mm := qB; refine (rrSet_bad _ B g p er wB (r1.on qB) he).mono ?_; rintro e wC ⟨rfl, rfl⟩; have qC := qB)
        | (go_at_call 41; have mm := qA; refine (list_any vA 0 wA sA (tB _ qA)).mono ?_; rintro e wB ⟨A3, n3, c3, rfl, o3, bB⟩; have qB : Below w1.heap.size w1 wB := qA.trans (bB.mono qA.size))
        | (go_at_call 18; refine (hR.set _ _ (hR.on _ _ q1 q0)).mono ?_; rintro e wA ⟨vA, rfl, sA, bA⟩; have qA : Below w1.heap.size w1 wA := q0.trans (bA.mono q0.size)))
    all_goals (
      go_wp2_with fail
      go_ret
      exact ⟨ret_bool (by simp [memZ, memM, memU, len2]), b1.trans (qD.mono hz1)⟩)
  · have hb2 : (er == 0) = false := beq_false_of_ne he
    obtain ⟨Ar, nr, cr, hI⟩ := id r1
    obtain ⟨c0, c1, f0, f1⟩ := hI.cells
    have hki : (k : Int) % 11 = 9 := by omega
    clear e7
    go_enter Tryd.func8, Tryd.ntmps8
    obtain ⟨x0, x1, x2⟩ := box w1 hbox
    go_wp2_with fail
    refine (hR.fail _ _ q1).mono ?_
    rintro e w2 ⟨rfl, rfl⟩
    go_wp2_with fail
    go_ret
    exact ⟨rfl, b1⟩
  · have hki : (k : Int) % 11 = 10 := by omega
    clear e7
    go_enter Tryd.func8, Tryd.ntmps8
    obtain ⟨x0, x1, x2⟩ := box w1 hbox
    go_wp2_with fail
    refine (hR.ende _ q1).mono ?_
    rintro e w2 ⟨rfl, rfl⟩
    go_wp2_with fail
    refine (rrEnd_bad B g p er _ r1 he).mono ?_
    rintro e w2 ⟨rfl, rfl⟩
    go_wp2_with fail
    go_ret
    exact ⟨ret_bool (by simp), b1⟩
end Go.Proofs.YtfbdfpnmopgkoaaDoor
