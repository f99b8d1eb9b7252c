/- The walk of RefuteSound. -/
import Derived.Test.YtcdgmdhfaniciaaDoorPk
import Derived.Test.YtcdgmdhfaniciaaDoorCheck
import Derived.Test.YtcdgmdhfaniciaaDoorMkB
import Derived.Test.YtcdgmdhfaniciaaDoorRMk3
import Derived.Test.YtcdgmdhfaniciaaDoorPj
import Derived.Test.YtcdgmdhfaniciaaDoorPm
import Derived.Test.YtcdgmdhfaniciaaDoorAw
namespace Go.Proofs.YtcdgmdhfaniciaaDoor.refuteSound
open Go.RowKit
set_option linter.unusedVariables false
set_option linter.unusedSimpArgs false

set_option maxHeartbeats 16000000 in
set_option maxRecDepth 100000 in
theorem walk (r : RwV) (R : Rw) (A : Option Addr) (n c : Nat) (l : List Rn) (w : World) (h : RwAt w w.heap.size r R) (hl : ArgRaws w A n c l) (hT : Tab w) :
    Calls Tryd.prog 5 #[r.v R, .slice A n c] w fun e w' => e = .returned (.bool true) ∧ Below w.heap.size w w' := by
  have hg0 : 0 < w.heap.size := World.block_lt_of_cell? w _ (hT 0 (by omega))
  have mk := fun W (hw : Below w.heap.size w W) => rmake_any r R W (h.on hw)
  have mf := mkP_few R
  have hc := chkP_mkP R
  obtain ⟨P, hP⟩ : ∃ P, Hid (P = mkP R) := ⟨_, Lib.hid rfl⟩
  rw [← hP.out] at mf mk hc
  obtain ⟨ls, hls⟩ : ∃ x, Hid (x = nodesL l) := ⟨_, Lib.hid rfl⟩
  have hlen : ls.length ≤ 8 := by rw [hls.out]; unfold nodesL; simp; omega
  have rws := fun W (hW : Below w.heap.size w W) => raws_any A n c l W (hl.mem.on hW) hl.len hl.cap hl.max
  rw [← hls.out] at rws
  obtain ⟨f, hf⟩ : ∃ f, Hid (f = (chkR P ls).1) := ⟨_, Lib.hid rfl⟩
  obtain ⟨f2, hf2⟩ : ∃ f, Hid (f = (chkR P ls).2) := ⟨_, Lib.hid rfl⟩
  have hck := fun q Aq nq cq W (hW : Below w.heap.size w W) (h1 : PrAt W W.heap.size q P) h2 h3 h4 => check_any q P Aq nq cq ls W h1 h2 h3 h4 (hT.below hW hg0)
  rw [← hf.out, ← hf2.out] at hck
  have hall : Hid (f = 1 → allL P = []) := Lib.hid fun e => by
    unfold allL
    exact allL_nil_of (fun s => chkR_sound (l := ls) (by rw [← hf.out]; exact e) s) 0 _
  obtain ⟨⟨A1, n1, c1⟩, ⟨A2, n2, c2⟩, ⟨A3, n3, c3⟩, ⟨A4, n4, c4⟩, ⟨A5, n5, c5⟩⟩ := r
  obtain ⟨st, hst⟩ : ∃ st, Hid (st = R.steps) := ⟨_, Lib.hid rfl⟩
  unfold RwV.v Sl.v at mk ⊢
  simp only [] at mk ⊢
  rw [← hst.out] at mk ⊢
  have me1 := mf.e1
  clear h mf
  by_cases f1 : f = 1
  all_goals (
    go_enter Tryd.func5, Tryd.ntmps5
    go_wp2_with fail
    have r1 := Blk.new w 25 #[.int .u8 (st : Int), .slice A1 n1 c1, .slice A2 n2 c2, .slice A3 n3 c3, .slice A4 n4 c4, .slice A5 n5 c5]
    have b1 := bAl (Below.refl w.heap.size w) (.cells #[.int .u8 (st : Int), .slice A1 n1 c1, .slice A2 n2 c2, .slice A3 n3 c3, .slice A4 n4 c4, .slice A5 n5 c5] 25)
    generalize (w.alloc (.cells #[.int .u8 (st : Int), .slice A1 n1 c1, .slice A2 n2 c2, .slice A3 n3 c3, .slice A4 n4 c4, .slice A5 n5 c5] 25)) = W0 at r1 b1 ⊢
    refine (awake_any W0 (hT.below b1 hg0)).mono ?_
    rintro e W1 ⟨rfl, ba⟩
    have r2 := r1.on ba
    have b2 := b1.trans (ba.mono b1.size)
    clear r1 b1 ba
    have x0 : W1.cell? ⟨w.heap.size, 0, none⟩ = some (.int .u8 (st : Int)) := (r2.cell 0).trans rfl
    have x1 : W1.cell? ⟨w.heap.size, 1, none⟩ = some (.slice A1 n1 c1) := (r2.cell 1).trans rfl
    have x2 : W1.cell? ⟨w.heap.size, 2, none⟩ = some (.slice A2 n2 c2) := (r2.cell 2).trans rfl
    have x3 : W1.cell? ⟨w.heap.size, 3, none⟩ = some (.slice A3 n3 c3) := (r2.cell 3).trans rfl
    have x4 : W1.cell? ⟨w.heap.size, 4, none⟩ = some (.slice A4 n4 c4) := (r2.cell 4).trans rfl
    have x5 : W1.cell? ⟨w.heap.size, 5, none⟩ = some (.slice A5 n5 c5) := (r2.cell 5).trans rfl
    go_wp2_with fail
    refine (mk W1 b2).mono ?_
    rintro e W2 ⟨⟨⟨B1, m1, d1⟩, ⟨B2, m2, d2⟩, ⟨B3, m3, d3⟩, ⟨B4, m4, d4⟩, ⟨B5, m5, d5⟩⟩, rfl, hO, bw2⟩
    have b3 := b2.trans (bw2.mono b2.size)
    have hO3 := hO.at
    simp only [PrV.v, Sl.v]
    clear x0 x1 x2 x3 x4 x5 r2 b2 bw2 hO
    go_wp2_with fail
    have k4 := Blk.new W2 39 #[.slice B1 m1 d1, .slice B2 m2 d2, .slice B3 m3 d3, .slice B4 m4 d4, .slice B5 m5 d5]
    have bk := bAl (Below.refl W2.heap.size W2) (.cells #[.slice B1 m1 d1, .slice B2 m2 d2, .slice B3 m3 d3, .slice B4 m4 d4, .slice B5 m5 d5] 39)
    generalize (W2.alloc (.cells #[.slice B1 m1 d1, .slice B2 m2 d2, .slice B3 m3 d3, .slice B4 m4 d4, .slice B5 m5 d5] 39)) = W4 at k4 bk ⊢
    have b4 := b3.trans (bk.mono b3.size)
    have hO4 := hO3.on bk
    clear hO3 b3 bk
    refine (mkp_any ⟨⟨B1, m1, d1⟩, ⟨B2, m2, d2⟩, ⟨B3, m3, d3⟩, ⟨B4, m4, d4⟩, ⟨B5, m5, d5⟩⟩ P W4 hO4).mono ?_
    rintro e W5 ⟨q, rfl, hq, bw5⟩
    have b5 := b4.trans (bw5.mono b4.size)
    go_wp2_with fail
    refine (rws W5 b5).mono ?_
    rintro e W6 ⟨A6, n6, c6, rfl, ⟨ys, hys, hN6⟩, hn6, bw6⟩
    have b6 := b5.trans (bw6.mono b5.size)
    have bw56 := bw5.trans (bw6.mono bw5.size)
    have hN6a := hN6.atR
    have hl6 := hN6.len
    rw [hys] at hN6a
    have hl6' : ls.length = n6 := by rw [← hys, List.length_map]; exact hl6
    clear hys hN6 hl6 ys
    go_wp2_with fail
    refine (nodes41_any A6 n6 c6 ls W6 hN6a hl6' (by omega)).mono ?_
    rintro e W7 ⟨A7, c7, rfl, ⟨ys, hys, hN7⟩, bw7⟩
    have b7 := b6.trans (bw7.mono b6.size)
    have bw57 := bw56.trans (bw7.mono bw56.size)
    have hN7a := hN7.atP
    rw [hys] at hN7a
    clear hys hN7 ys hN6a
    go_wp2_with fail
    refine (hck q A7 n6 c7 W7 b7 (hq.on (bw6.trans (bw7.mono bw6.size))) hN7a hl6' (by omega)).mono ?_
    rintro e W8 ⟨rfl, bw8⟩
    have b8 := b7.trans (bw8.mono b7.size)
    have k8 := k4.on (bw57.trans (bw8.mono bw57.size)))
  · have hA := hall.out f1
    subst f1
    have hall8 := all_any ⟨⟨B1, m1, d1⟩, ⟨B2, m2, d2⟩, ⟨B3, m3, d3⟩, ⟨B4, m4, d4⟩, ⟨B5, m5, d5⟩⟩ P W8 (hO4.on (bw57.trans (bw8.mono bw57.size))) me1
    rw [hA] at hall8
    have x0 : W8.cell? ⟨W2.heap.size, 0, none⟩ = some (.slice B1 m1 d1) := (k8.cell 0).trans rfl
    have x1 : W8.cell? ⟨W2.heap.size, 1, none⟩ = some (.slice B2 m2 d2) := (k8.cell 1).trans rfl
    have x2 : W8.cell? ⟨W2.heap.size, 2, none⟩ = some (.slice B3 m3 d3) := (k8.cell 2).trans rfl
    have x3 : W8.cell? ⟨W2.heap.size, 3, none⟩ = some (.slice B4 m4 d4) := (k8.cell 3).trans rfl
    have x4 : W8.cell? ⟨W2.heap.size, 4, none⟩ = some (.slice B5 m5 d5) := (k8.cell 4).trans rfl
    clear hA hall
    go_wp2_with fail
    refine hall8.mono ?_
    rintro e W9 ⟨A9, n9, c9, rfl, hL, _, bw9⟩
    have hn9 := hL.len
    obtain rfl : 0 = n9 := hn9
    go_wp2_with fail
    go_ret
    exact ⟨rfl, b8.trans (bw9.mono b8.size)⟩
  · have f1b : ((f : Int) != 1) = true := by simp; omega
    clear f1 hall
    go_wp2_with fail
    go_ret
    exact ⟨rfl, b8⟩
end Go.Proofs.YtcdgmdhfaniciaaDoor.refuteSound
