/- The walk of the laws' put to a nil writer. -/
import Derived.Test.YtfbdfpnmopgkoaaDoorNilW
namespace Go.Proofs.YtfbdfpnmopgkoaaDoor
open Go.RowKit
set_option linter.unusedVariables false
set_option linter.unusedSimpArgs false

set_option maxHeartbeats 4000000 in
set_option maxRecDepth 100000 in
/-- put. -/
theorem lputN_any (k u : Nat) (s : Int) (A : Option Addr) (n c : Nat) (b : List UInt8) (w : World) (hv : ValIn w w.heap.size k u s A n c b) :
    Calls Tryd.prog 13 #[.pointer none, valV k u s A n c] w fun e w' => (∃ A' n' c', e = .returned (.slice A' n' c')) ∧ Below w.heap.size w w' := by
  obtain ⟨hk, hu, s1, s2, hs, hn, hc, hm⟩ := hv
  have hbox := Blk.new w 40 #[.int .u8 (k : Int), .int .u64 (u : Int), .int .i64 s, .slice A n c]
  have b1 : Below w.heap.size w (w.alloc (.cells #[.int .u8 (k : Int), .int .u64 (u : Int), .int .i64 s, .slice A n c] 40)) := (Below.refl _ _).alloc (Nat.le_refl _) _
  obtain ⟨m, hmm⟩ : ∃ m, m = min n 300 := ⟨_, rfl⟩
  have hm3 : m ≤ 300 := by omega
  obtain ⟨b', hb'⟩ : ∃ b', Hid (b' = b.take 300) := ⟨_, Lib.hid rfl⟩
  have hml := Lib.hid (show b'.length = m by rw [hb'.out, List.length_take, hn, hmm]; omega)
  have sb0 : Sees w w.heap.size A (b'.map bv) := by rw [hb'.out, List.map_take]; exact hs.take_ 300
  have sb1 := sb0.on b1
  have hsh := fun W => short_any A n c W hc hm
  rw [← hmm] at hsh
  have Hmm := Lib.hid hmm
  clear hmm hn
  unfold valV
  generalize hW1 : (w.alloc (.cells #[.int .u8 (k : Int), .int .u64 (u : Int), .int .i64 s, .slice A n c] 40)) = w1 at hbox b1 sb1
  have hz1 := b1.size
  have box : ∀ W, Blk W w.heap.size 40 #[.int .u8 (k : Int), .int .u64 (u : Int), .int .i64 s, .slice A n c] → W.cell? ⟨w.heap.size, 0, none⟩ = some (.int .u8 (k : Int)) ∧ W.cell? ⟨w.heap.size, 1, none⟩ = some (.int .u64 (u : Int)) ∧ W.cell? ⟨w.heap.size, 2, none⟩ = some (.int .i64 s) ∧ W.cell? ⟨w.heap.size, 3, none⟩ = some (.slice A n c) := fun W hb => ⟨(hb.cell 0).trans rfl, (hb.cell 1).trans rfl, (hb.cell 2).trans rfl, (hb.cell 3).trans rfl⟩
  have box2 : ∀ (w2 : World), Below w1.heap.size w1 w2 → Blk w2 w.heap.size 40 #[.int .u8 (k : Int), .int .u64 (u : Int), .int .i64 s, .slice A n c] := fun w2 m2 => hbox.on m2
  have fin : ∀ (w2 w3 : World), Below w1.heap.size w1 w2 → Below w2.heap.size w2 w3 → Below w.heap.size w w3 := fun w2 w3 m2 b3 => b1.trans ((m2.trans (b3.mono m2.size)).mono hz1)
  have hk7 : k % 7 = 0 ∨ k % 7 = 1 ∨ k % 7 = 2 ∨ k % 7 = 3 ∨ k % 7 = 4 ∨ k % 7 = 5 ∨ k % 7 = 6 := by omega
  rcases hk7 with e7 | e7 | e7 | e7 | e7 | e7 | e7
  · have hki : (k : Int) % 7 = 0 := by omega
    clear e7
    go_enter Tryd.func13, Tryd.ntmps13
    obtain ⟨x0, x1, x2, x3⟩ := box w1 hbox
    clear hbox
    go_wp2_with fail
    refine (hsh w1).mono ?_
    rintro e w1' ⟨rfl, rfl⟩
    go_wp2_with fail
    refine (uintN_any u w1 hu).mono ?_
    rintro e w2 ⟨rfl, m2⟩
    obtain ⟨y0, y1, y2, y3⟩ := box w2 (box2 w2 m2)
    go_wp2_with fail
    refine (put_any u w2 hu).mono ?_
    rintro e w3 ⟨A3, n3, c3, rfl, o3, b3⟩
    go_wp2_with fail
    go_ret
    exact ⟨⟨A3, n3, c3, rfl⟩, fin w2 w3 m2 b3⟩
  · have hki : (k : Int) % 7 = 1 := by omega
    clear e7
    go_enter Tryd.func13, Tryd.ntmps13
    obtain ⟨x0, x1, x2, x3⟩ := box w1 hbox
    clear hbox
    go_wp2_with fail
    refine (hsh w1).mono ?_
    rintro e w1' ⟨rfl, rfl⟩
    go_wp2_with fail
    refine (intN_any s w1 s1 s2).mono ?_
    rintro e w2 ⟨rfl, m2⟩
    obtain ⟨y0, y1, y2, y3⟩ := box w2 (box2 w2 m2)
    go_wp2_with fail
    refine (putInt_any s w2 s1 s2).mono ?_
    rintro e w3 ⟨A3, n3, c3, rfl, o3, b3⟩
    go_wp2_with fail
    go_ret
    exact ⟨⟨A3, n3, c3, rfl⟩, fin w2 w3 m2 b3⟩
  · have hst := run_str w1 _ A m c b' sb1 hml.out
    have hws := stringN_any b' w1 (by rw [hml.out]; omega)
    have hki : (k : Int) % 7 = 2 := by omega
    clear e7
    go_enter Tryd.func13, Tryd.ntmps13
    obtain ⟨x0, x1, x2, x3⟩ := box w1 hbox
    clear hbox
    go_wp2_with fail
    refine (hsh w1).mono ?_
    rintro e w1' ⟨rfl, rfl⟩
    go_wp2_with fail
    refine (hws).mono ?_
    rintro e w2 ⟨rfl, m2⟩
    obtain ⟨y0, y1, y2, y3⟩ := box w2 (box2 w2 m2)
    go_wp2_with fail
    refine (putBytes_any A m c b' w2 (sb1.on m2) hml.out (by omega)).mono ?_
    rintro e w3 ⟨A3, n3, c3, rfl, o3, b3⟩
    go_wp2_with fail
    go_ret
    exact ⟨⟨A3, n3, c3, rfl⟩, fin w2 w3 m2 b3⟩
  · have hki : (k : Int) % 7 = 3 := by omega
    clear e7
    go_enter Tryd.func13, Tryd.ntmps13
    obtain ⟨x0, x1, x2, x3⟩ := box w1 hbox
    clear hbox
    go_wp2_with fail
    refine (hsh w1).mono ?_
    rintro e w1' ⟨rfl, rfl⟩
    go_wp2_with fail
    refine (bytesN_any A m c w1 (by omega)).mono ?_
    rintro e w2 ⟨rfl, m2⟩
    obtain ⟨y0, y1, y2, y3⟩ := box w2 (box2 w2 m2)
    go_wp2_with fail
    refine (putBytes_any A m c b' w2 (sb1.on m2) hml.out (by omega)).mono ?_
    rintro e w3 ⟨A3, n3, c3, rfl, o3, b3⟩
    go_wp2_with fail
    go_ret
    exact ⟨⟨A3, n3, c3, rfl⟩, fin w2 w3 m2 b3⟩
  · have hki : (k : Int) % 7 = 4 := by omega
    clear e7
    go_enter Tryd.func13, Tryd.ntmps13
    obtain ⟨x0, x1, x2, x3⟩ := box w1 hbox
    clear hbox
    go_wp2_with fail
    refine (hsh w1).mono ?_
    rintro e w1' ⟨rfl, rfl⟩
    go_wp2_with fail
    simp only [beq_par]
    refine (flagN_any _ w1).mono ?_
    rintro e w2 ⟨rfl, m2⟩
    obtain ⟨y0, y1, y2, y3⟩ := box w2 (box2 w2 m2)
    go_wp2_with fail
    simp only [beq_par]
    refine (putFlag_any _ w2).mono ?_
    rintro e w3 ⟨A3, n3, c3, rfl, o3, b3⟩
    go_wp2_with fail
    go_ret
    exact ⟨⟨A3, n3, c3, rfl⟩, fin w2 w3 m2 b3⟩
  · have hki : (k : Int) % 7 = 5 := by omega
    clear e7
    go_enter Tryd.func13, Tryd.ntmps13
    obtain ⟨x0, x1, x2, x3⟩ := box w1 hbox
    clear hbox
    go_wp2_with fail
    refine (hsh w1).mono ?_
    rintro e w1' ⟨rfl, rfl⟩
    go_wp2_with fail
    refine (rawN_any A m c w1).mono ?_
    rintro e w2 ⟨rfl, rfl⟩
    go_wp2_with fail
    go_ret
    exact ⟨⟨A, m, c, rfl⟩, b1⟩
  · have hki : (k : Int) % 7 = 6 := by omega
    clear e7
    go_enter Tryd.func13, Tryd.ntmps13
    obtain ⟨x0, x1, x2, x3⟩ := box w1 hbox
    clear hbox
    go_wp2_with fail
    refine (hsh w1).mono ?_
    rintro e w1' ⟨rfl, rfl⟩
    go_wp2_with fail
    refine (members_any A m c b' w1 sb1 hml.out).mono ?_
    rintro e wa ⟨Aa, na, ca, rfl, hna, oa, ba⟩
    have hla := Lib.hid (show (mems b').length = na by have := oa.len; simpa [cst] using this)
    have sa : Sees wa wa.heap.size Aa (niv (mems b')) := oa.sees
    go_wp2_with fail
    refine (of_any Aa na ca (mems b') wa sa hla.out (mems_lt b') (by omega)).mono ?_
    rintro e wb ⟨vb, rfl, hsb, bb⟩
    have bab := ba.trans (bb.mono ba.size)
    go_wp2_with fail
    refine (setN_any vb _ wb hsb).mono ?_
    rintro e w2 ⟨rfl, m2'⟩
    have m2 := bab.trans (m2'.mono bab.size)
    go_wp2_with fail
    refine (members_any A m c b' w2 (sb1.on m2) hml.out).mono ?_
    rintro e wc ⟨Ac, nc, cc, rfl, hnc, oc, bc⟩
    have hlc := Lib.hid (show (mems b').length = nc by have := oc.len; simpa [cst] using this)
    have sc : Sees wc wc.heap.size Ac (niv (mems b')) := oc.sees
    go_wp2_with fail
    refine (putSet_any Ac nc cc (mems b') wc sc hlc.out (mems_lt b') (by omega)).mono ?_
    rintro e w3 ⟨A3, n3, c3, rfl, o3, b3'⟩
    have b3 := bc.trans (b3'.mono bc.size)
    go_wp2_with fail
    go_ret
    exact ⟨⟨A3, n3, c3, rfl⟩, fin w2 w3 m2 b3⟩
end Go.Proofs.YtfbdfpnmopgkoaaDoor
