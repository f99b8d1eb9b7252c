/- The walk of WireReads. -/
import Derived.Deep.CutRange
import Derived.Test.YtfbdfpnmopgkoaaDoorWireAw
import Derived.Test.YtfbdfpnmopgkoaaDoorAgO
import Derived.Test.YtfbdfpnmopgkoaaDoorArgsCalls
namespace Go.Proofs.YtfbdfpnmopgkoaaDoor.wireReads
open Go.RowKit
set_option linter.unusedVariables false
set_option linter.unusedSimpArgs false

/-- agree, whatever the error. -/
theorem agree_all (B g m : Nat) (p : List UInt8) (er : Int) (k : Nat) (mo lo : Int) (w : World) (hR : RdAt w g p er) (hM : RrAt w B m p er) (hgm : g ≠ m) (hBg : B ≤ g) (hT : Tab w) (hT0 : 0 < B) (hc : CallIn k mo lo) :
    Calls Tryd.prog 8 #[.pointer (some ⟨g, 0, none⟩), .pointer (some ⟨m, 0, none⟩), callV k mo lo] w fun e w' => e = .returned (.bool true) ∧ (∃ q er, RdAt w' g q er ∧ RrAt w' B m q er) ∧ Below B w w' := by
  obtain ⟨k1, k2, k3, k4, k5⟩ := hc
  by_cases he : er = 0
  · subst he
    exact agree_ok B g m p k mo lo w hR hM hgm hBg hT hT0 k1 k2 k3 k4 k5
  · refine (agree_bad _ _ B m p er k mo lo w (badE g p er he) hR hM he hT k1 k2 k3 k4 k5).mono ?_
    rintro e w' ⟨rfl, hB⟩
    obtain ⟨A, n, c, hI⟩ := id hM
    exact ⟨rfl, ⟨p, er, hR.on hB, hM.on hB⟩, hB.mono hI.sz⟩

/-- NewReader: what it reads is its own. -/
theorem newReader_own (A : Option Addr) (n c : Nat) (p : List UInt8) (w : World) (h : Sees w w.heap.size A (p.map bv)) (hn : p.length = n) (hb : n ≤ 1000000000000) :
    Calls Tryd.prog 7 #[.slice A n c] w fun e w' => ∃ g A2 c2, e = .returned (.pointer (some ⟨g, 0, none⟩)) ∧ w.heap.size ≤ g ∧ RdIs w' g A2 n c2 p 0 ∧ (∀ a, A2 = some a → w.heap.size ≤ a.block) ∧ Below w.heap.size w w' := by
  go_enter Tryd.func7, Tryd.ntmps7
  go_wp2_with fail
  refine (clone_any A n c p w h hn (by omega)).mono ?_
  rintro e w1 ⟨A', c', rfl, ho, hB⟩
  go_wp2_with fail
  go_ret
  have hs := hB.size
  have hal : Below w1.heap.size w1 (w1.alloc (.cells #[.slice A' n c', .int .i64 0] 59)) := (Below.refl _ _).alloc (Nat.le_refl _) _
  refine ⟨w1.heap.size, A', c', rfl, hs, ⟨Blk.new _ _ _, ho.sees.on hal, hn, ho.room, hb, ?_⟩, ?_, hB.alloc hs _⟩
  · rintro a rfl
    have := (ho.lt a.block (by cases a; simp [Value.ownBlock])).2
    omega
  · rintro a rfl
    exact (ho.lt a.block (by cases a; simp [Value.ownBlock])).1
theorem RdIs.onlyAt {w w' : World} {g n c k : Nat} {A : Option Addr} {p : List UInt8} {e : Int} (h : RdIs w g A n c p e) (ho : Only w w' k) (hg : g ≠ k) (hA : ∀ a, A = some a → a.block ≠ k) : RdIs w' g A n c p e :=
  ⟨h.blk.only ho hg, h.sees.only ho hA, h.len, h.room, h.big, h.low⟩
theorem xor85 (x : UInt8) : ∃ y : UInt8, bits BinOp.xor IntKind.u8 (x.toNat : Int) 85 = (y.toNat : Int) := by
  have h : (BitVec.ofInt 8 (x.toNat : Int) ^^^ BitVec.ofInt 8 85).toNat < 256 := (BitVec.ofInt 8 (x.toNat : Int) ^^^ BitVec.ofInt 8 85).isLt
  refine ⟨UInt8.ofNat (BitVec.ofInt 8 (x.toNat : Int) ^^^ BitVec.ofInt 8 85).toNat, ?_⟩
  show IntKind.u8.wrap ((BitVec.ofInt 8 (x.toNat : Int) ^^^ BitVec.ofInt 8 85).toNat : Int) = _
  rw [IntKind.wrap_u8, UInt8.toNat_ofNat']
  omega

set_option maxHeartbeats 8000000 in
set_option maxRecDepth 100000 in
theorem walk (A0 : Option Addr) (n0 c0 : Nat) (l0 : List UInt8) (A1 : Option Addr) (n1 c1 : Nat) (xs : List Cal) (w : World) (w0 : ArgB w A0 n0 c0 l0) (w1 : ArgCs w A1 n1 c1 xs) (hT : Tab w) :
    Calls Tryd.prog 3 #[.slice A0 n0 c0, .slice A1 n1 c1] w fun e w' => e = .returned (.bool true) ∧ Below w.heap.size w w' := by
  have ht0 := World.block_lt_of_cell? w _ (hT 0 (by omega))
  obtain ⟨hs0, hn0, hc0, hm0⟩ := w0
  obtain ⟨hn1, hc1, hm1, hrow⟩ := w1
  unfold maxLen at hm0 hm1
  have hsh := fun W => short_any A0 n0 c0 W hc0 (by omega)
  obtain ⟨m, hmm⟩ : ∃ m, m = min n0 300 := ⟨_, rfl⟩
  rw [← hmm] at hsh
  have hm3 : m ≤ 300 := by omega
  have hmc : m ≤ c0 := by omega
  obtain ⟨b', hb'⟩ : ∃ b', Hid (b' = l0.take 300) := ⟨_, Lib.hid rfl⟩
  have hml := Lib.hid (show b'.length = m by rw [hb'.out, List.length_take, hn0, hmm]; omega)
  have sb0 : Sees w w.heap.size A0 (b'.map bv) := by rw [hb'.out, List.map_take]; exact hs0.take_ 300
  have Hn1 := Lib.hid hn1
  have Hrow := Lib.hid hrow
  have hn1b : (n1 : Int) ≤ 9223372036854775807 := by omega
  clear hmm hn0 hn1 hrow
  go_enter Tryd.func3, Tryd.ntmps3
  go_wp2_with fail
  refine (awake_any w).mono ?_
  rintro e u1 ⟨rfl, b1⟩
  go_wp2_with fail
  refine (hsh u1).mono ?_
  rintro e u1' ⟨rfl, rfl⟩
  go_wp2_with (at_builtin; refine wpL_appB _ rfl (.tmp 14) (.tmp 15) rfl u1.heap.size _ 0 [] rfl (OwnB.made0 _) w.heap.size A0 m c0 b' rfl hml.out (Sees.alloc (sb0.below b1) b1.size _) (by omega) (by simp) m (by omega) b' rfl ?_; intro A' c' u2 hown hg _; have b2 := below_app ((Below.refl u1.heap.size u1).alloc (Nat.le_refl _) _) (by simp) (OwnB.made0 u1) hg)
  have bw2 := b1.trans (b2.mono b1.size)
  refine (newReader_own A' m c' b' u2 hown.sees hml.out (by omega)).mono ?_
  rintro e u3 ⟨g, A2, c2, rfl, hg2, hI, hA2, b3⟩
  have bw3 := bw2.trans (b3.mono bw2.size)
  have b4 : Below u3.heap.size u3 (u3.alloc (.cells #[.slice A0 m c0, .int .i64 0] 30)) := (Below.refl _ _).alloc (Nat.le_refl _) _
  have bw4 := bw3.trans (b4.mono bw3.size)
  have hM : RrAt (u3.alloc (.cells #[.slice A0 m c0, .int .i64 0] 30)) w.heap.size u3.heap.size b' 0 := ⟨A0, m, c0, Blk.new _ _ _, sb0.below bw4, hml.out, hmc, by omega, by omega, bw3.size⟩
  have hI4 := hI.on b4
  have ho4 := (hown.on b3).on b4
  have hgu := hI.blk.lt
  have hz1 := b1.size
  have hz2 := b2.size
  have hz3 := b3.size
  have hz4 := b4.size
  go_wp2_with fail
  generalize (u3.alloc (.cells #[.slice A0 m c0, .int .i64 0] 30)) = W4 at b4 bw4 hM hI4 ho4 hz4 ⊢
  go_loopw [24] (fun v wr => ∃ (k : Nat) (l' : List UInt8), v = .int .i64 k ∧ k ≤ m ∧ OwnB wr u1.heap.size (.slice A' m c') m l' ∧ RdIs wr g A2 m c2 b' 0 ∧ RrAt wr w.heap.size u3.heap.size b' 0 ∧ Below w.heap.size w wr) (fun v _ => m - (intOf v).toNat)
  case atStart => exact ⟨0, b', rfl, Nat.zero_le _, ho4, hI4, hM, bw4⟩
  case round =>
    obtain ⟨k, l', rfl, hk, ho, hIr, hMr, hB⟩ := hrel
    by_cases hlt : k < m
    · have hlt1 : (k : Int) < (m : Int) := by omega
      obtain ⟨gO, rfl, hgO1, hgO2, x, hx, hcx, hfx⟩ := ho.byte (k := k) hlt
      obtain ⟨y, hxy⟩ := xor85 x
      have hg2' : gO < u2.heap.size := by
        have := (hown.lt gO (by simp [Value.ownBlock])).2
        exact this
      clear hx
      simp only [bv] at hcx
      go_wp2_with fail
      go_roundw
      case rel =>
        refine ⟨k + 1, l'.set k y, by go_num, by omega, ?_, RdIs.onlyAt hIr (only_set _) (by omega) ?_, hMr.only (only_set _) (by omega) (by omega), hB.setCell (p := ⟨gO, k, none⟩) (by show w.heap.size ≤ gO; omega) _⟩
        · exact ho.put y
        · intro a ha
          have := hA2 a ha
          omega
      case measure => simp [intOf]; omega
    · have hlt1 : ¬ (k : Int) < (m : Int) := by omega
      have hbw := hB.size
      obtain ⟨q0, e0, hR0, hM0⟩ : ∃ q er, RdAt wr g q er ∧ RrAt wr w.heap.size u3.heap.size q er := ⟨b', 0, ⟨_, _, _, hIr⟩, hMr⟩
      have hne : g ≠ u3.heap.size := by omega
      have hwg : w.heap.size ≤ g := by omega
      clear ho hIr hMr hown hI hI4 ho4 hM hs0 sb0 hsh b1 b2 b3 b4 bw2 bw3 bw4 hA2 hz1 hz2 hz3 hz4 hg2 hgu hb' hml hbw
      go_wp2_with fail
      go_loopw [9] (fun v wr2 => ∃ (i : Nat) (q : List UInt8) (er : Int), v = .int .i64 i ∧ i ≤ n1 ∧ RdAt wr2 g q er ∧ RrAt wr2 w.heap.size u3.heap.size q er ∧ Below w.heap.size w wr2) (fun v _ => n1 - (intOf v).toNat)
      case atStart => exact ⟨0, q0, e0, rfl, Nat.zero_le _, hR0, hM0, hB⟩
      case round =>
        obtain ⟨i, q, er, rfl, hi, hRi, hMi, hBi⟩ := hrel
        by_cases hi1 : i < n1 ∧ i < 30
        · have hi2 : (i : Int) < (n1 : Int) := by omega
          have hi3 : (i : Int) < 30 := by omega
          obtain ⟨x, hx⟩ : ∃ x, xs[i]? = some x := ⟨_, List.getElem?_eq_getElem (by rw [Hn1.out]; omega)⟩
          obtain ⟨b, o, rfl, hb, x0, x1, x2, hcal⟩ := Hrow.out i x hx
          have z0 := (hBi.cell (p := ⟨b, o + i * 3, none⟩) hb).trans x0
          have z1 := (hBi.cell (p := ⟨b, o + i * 3 + 1, none⟩) hb).trans x1
          have z2 := (hBi.cell (p := ⟨b, o + i * 3 + 2, none⟩) hb).trans x2
          clear hx x0 x1 x2
          go_wp2_with fail
          have hd0 : Below wr.heap.size wr wr.drew := (Below.refl _ _).drew
          have hRd := hRi.on hd0
          have hMd := hMi.on hd0
          have hTd := hT.below (hBi.drew) ht0
          have hag := agree_all w.heap.size g u3.heap.size q er x.k x.mo x.lo wr.drew hRd hMd hne hwg hTd ht0 hcal
          unfold callV at hag
          clear hRi hMi hd0 hRd hMd hTd hcal hT Hrow Hn1
          go_cut [70] from 44 to 70 (fun v70 wx => v70 = .bool false ∧ ∃ q er, RdAt wx g q er ∧ RrAt wx w.heap.size u3.heap.size q er ∧ Below w.heap.size w wx)
          case first =>
            go_region_with (first
              | (go_at_call 10; have mm := hR2; refine (left_any g q2 e2 w2 hR2).mono ?_; rintro e w3 ⟨rfl, rfl⟩)
              | (go_at_call 9; have mm := hR2; refine (err_any g q2 e2 w2 hR2).mono ?_; rintro e w3 ⟨rfl, rfl⟩)
              | (go_at_call 8; refine hag.mono ?_; rintro e w2 ⟨rfl, ⟨q2, e2, hR2, hM2⟩, hB2⟩; obtain ⟨A9, n9, c9, hI9⟩ := id hM2; obtain ⟨p0, p1, p2, p3⟩ := hI9.cells; have hl9 := hI9.len))
            all_goals (go_wp2_with fail; go_meet)
            all_goals exact ⟨rfl, q2, e2, hR2, hM2, hBi.drew.trans hB2⟩
          case rest =>
            obtain ⟨rfl, q2, e2, hR2, hM2, hB2⟩ := hcut
            go_wp2_with fail
            go_roundw
            case rel => exact ⟨i + 1, q2, e2, by go_num, by omega, hR2, hM2, hB2⟩
            case measure => simp [intOf]; omega
        · have he := end_any g q er wr hRi
          have hr := rrEnd_any w.heap.size u3.heap.size q er wr hMi
          generalize (if er = 0 ∧ q ≠ [] then (6 : Int) else er) = E at he hr
          by_cases hi2 : (i : Int) < (n1 : Int)
          · have hi3 : ¬ (i : Int) < 30 := fun h => hi1 ⟨by omega, by omega⟩
            go_wp2_with fail
            refine he.mono ?_
            rintro e w2 ⟨rfl, rfl⟩
            go_wp2_with fail
            refine hr.mono ?_
            rintro e w2 ⟨rfl, rfl⟩
            go_wp2_with fail
            go_ret
            exact ⟨ret_bool (by simp), hBi⟩
          · go_wp2_with fail
            refine he.mono ?_
            rintro e w2 ⟨rfl, rfl⟩
            go_wp2_with fail
            refine hr.mono ?_
            rintro e w2 ⟨rfl, rfl⟩
            go_wp2_with fail
            go_ret
            exact ⟨ret_bool (by simp), hBi⟩
end Go.Proofs.YtfbdfpnmopgkoaaDoor.wireReads
