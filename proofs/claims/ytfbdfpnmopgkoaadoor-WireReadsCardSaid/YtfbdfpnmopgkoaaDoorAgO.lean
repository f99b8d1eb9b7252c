/- agree, both readers without an error. -/
import Derived.Test.YtfbdfpnmopgkoaaDoorAgB
import Derived.Test.YtfbdfpnmopgkoaaDoorNumCnt
import Derived.Test.YtfbdfpnmopgkoaaDoorRrSet
namespace Go.Proofs.YtfbdfpnmopgkoaaDoor
open Go.RowKit
set_option linter.unusedVariables false
set_option linter.unusedSimpArgs false

theorem Sees.besideR {w w' : World} {B g : Nat} {A : Option Addr} {l p : List UInt8} {e : Int} (h : Sees w w.heap.size A (l.map bv)) (hr : RrAt w B g p e) (ho : Only w w' g) : Sees w' w'.heap.size A (l.map bv) := fun hn => by
  obtain ⟨b, o, eA, hb, hc⟩ := h hn
  obtain ⟨Ar, n, c, hr⟩ := hr
  have hne : b ≠ g := by
    rintro rfl
    obtain ⟨x, m, hl⟩ := List.exists_cons_of_ne_nil hn
    have h0 := hc 0 x (by rw [hl]; rfl)
    have hx : x ∈ l.map bv := by rw [hl]; simp
    obtain ⟨y, _, rfl⟩ := List.mem_map.1 hx
    rw [hr.blk.cell] at h0
    match o, h0 with
    | 0, h0 => simp [bv] at h0
    | 1, h0 => simp [bv] at h0
    | k + 2, h0 => simp at h0
  exact ⟨b, o, eA, Nat.lt_of_lt_of_le hb ho.size, fun j u hu => (World.cell?_of_block (a := ⟨b, o + j, none⟩) (ho.block b hb hne (by simp))).trans (hc j u hu)⟩
theorem RdAt.besideR {w w' : World} {B gr g : Nat} {p p2 : List UInt8} {e e2 : Int} (h : RdAt w gr p e) (hr : RrAt w B g p2 e2) (ho : Only w w' g) (hne : gr ≠ g) : RdAt w' gr p e := by
  obtain ⟨A, n, c, h⟩ := h
  exact ⟨A, n, c, h.blk.only ho hne, h.sees.besideR hr ho, h.len, h.room, h.big, h.low⟩
theorem OwnI.only {w w' : World} {base n g : Nat} {v : Value} {l : List Int} (h : OwnI w base v n l) (ho : Only w w' g) (hg : g < base) : OwnI w' base v n l := by
  refine ⟨h.1, ?_⟩
  rcases h.2 with h | ⟨b, cap, cur, h1, h2, h3, h4⟩
  · exact .inl h
  · exact .inr ⟨b, cap, cur, h1, h2, (ho.block b (Array.getElem?_eq_some_iff.1 h3).1 (by omega) (by simp)).trans h3, h4⟩

theorem SetAt.mems {w : World} {B M : Nat} {v : Value} (h : SetAt w B v M) : (memZ M).length ≤ 4096 := by
  obtain ⟨A, n, c, _, _, hn, hl, _⟩ := h
  unfold memZ
  rw [List.length_map]
  exact memM_len hl hn
set_option maxHeartbeats 4000000 in
set_option maxRecDepth 100000 in
/-- agree, no error yet. -/
theorem agree_ok (B g m : Nat) (p : List UInt8) (k : Nat) (mo lo : Int) (w : World) (hR : RdAt w g p 0) (hM : RrAt w B m p 0) (hgm : g ≠ m) (hBg : B ≤ g) (hT : Tab w) (hT0 : 0 < B)
    (hk : k < 256) (m1 : -9223372036854775808 ≤ mo) (m2 : mo ≤ 9223372036854775807) (l1 : -9223372036854775808 ≤ lo) (l2 : lo ≤ 9223372036854775807) :
    Calls Tryd.prog 8 #[.pointer (some ⟨g, 0, none⟩), .pointer (some ⟨m, 0, none⟩), callV k mo lo] w fun e w' => e = .returned (.bool true) ∧ (∃ q er, RdAt w' g q er ∧ RrAt w' B m q er) ∧ Below B w w' := by
  have hbox := Blk.new w 33 #[.int .u8 (k : Int), .int .i64 mo, .int .i64 lo]
  have b1 : Below w.heap.size w (w.alloc (.cells #[.int .u8 (k : Int), .int .i64 mo, .int .i64 lo] 33)) := (Below.refl _ _).alloc (Nat.le_refl _) _
  have h1 := hR.on b1
  have r1 := hM.on b1
  obtain ⟨gA, gn, gc, gI⟩ := id hR
  have hgs := gI.blk.lt
  obtain ⟨mA, mn, mc, mI⟩ := id hM
  have hms := mI.blk.lt
  have hBm := mI.base
  clear gI mI
  unfold callV
  generalize hW1 : (w.alloc (.cells #[.int .u8 (k : Int), .int .i64 mo, .int .i64 lo] 33)) = w1 at hbox b1 h1 r1
  have hz1 := b1.size
  have bB1 : Below B w w1 := b1.mono (by omega)
  have hd1 : Below w1.heap.size w1 w1.drew := (Below.refl _ _).drew
  have box : ∀ W, Blk W w.heap.size 33 #[.int .u8 (k : Int), .int .i64 mo, .int .i64 lo] → W.cell? ⟨w.heap.size, 0, none⟩ = some (.int .u8 (k : Int)) ∧ W.cell? ⟨w.heap.size, 1, none⟩ = some (.int .i64 mo) ∧ W.cell? ⟨w.heap.size, 2, none⟩ = some (.int .i64 lo) := fun W hb => ⟨(hb.cell 0).trans rfl, (hb.cell 1).trans rfl, (hb.cell 2).trans rfl⟩
  have box1 := box _ (hbox.on hd1)
  -- behind a method of the first reader
  have s2 : ∀ w2, Only w1.drew w2 g → Blk w2 w.heap.size 33 #[.int .u8 (k : Int), .int .i64 mo, .int .i64 lo] ∧ RrAt w2 B m p 0 ∧ Below B w w2 := fun w2 o2 =>
    ⟨(hbox.on hd1).only o2 (by omega), (r1.on hd1).only o2 hBg (fun e => hgm e.symm), bB1.trans ((hd1.mono (by omega)).trans (o2.below (by simp; omega) hBg (fun _ e => by cases e)))⟩
  have s3 : ∀ w2 w3 q er, Below B w w2 → RdAt w2 g q er → RrAt w2 B m p 0 → Only w2 w3 m → RdAt w3 g q er ∧ Below B w w3 := fun w2 w3 q er b2 h2 r2 o3 =>
    ⟨h2.besideR r2 o3 hgm, b2.trans (o3.below (by have := b2.size; omega) hBm (fun _ e => by cases e))⟩
  have s4 : ∀ w2 w3, Blk w2 w.heap.size 33 #[.int .u8 (k : Int), .int .i64 mo, .int .i64 lo] → Only w2 w3 m → Blk w3 w.heap.size 33 #[.int .u8 (k : Int), .int .i64 mo, .int .i64 lo] := fun w2 w3 hb o3 => hb.only o3 (by omega)
  have hk11 : k % 11 = 0 ∨ k % 11 = 1 ∨ k % 11 = 2 ∨ k % 11 = 3 ∨ k % 11 = 4 ∨ k % 11 = 5 ∨ k % 11 = 6 ∨ k % 11 = 7 ∨ k % 11 = 8 ∨ k % 11 = 9 ∨ k % 11 = 10 := by omega
  rcases hk11 with e7 | e7 | e7 | e7 | e7 | e7 | e7 | e7 | e7 | e7 | e7
  · obtain ⟨U, hU⟩ : ∃ U : Nat, IntKind.u64.wrap mo = (U : Int) := ⟨(IntKind.u64.wrap mo).toNat, by rw [IntKind.wrap_u64]; omega⟩
    have hc := rUint_any g p U w1.drew (h1.on hd1)
    have hr := fun W hW => rrUint_any B m p U W hW
    generalize rdU U p = RR at hc hr
    have hki : (k : Int) % 11 = 0 := by omega
    clear e7
    go_enter Tryd.func8, Tryd.ntmps8
    obtain ⟨x0, x1, x2⟩ := box w1 hbox
    go_wp2_with fail
    go_region_held3 (fun w' => w'.cell? ⟨w.heap.size, 1, none⟩ = some (.int .i64 mo))
      (first | exact (box w3 bx3).2.1 | exact (box w2 bx2).2.1 | exact (box1).2.1)
      (first
        | (go_at_call 28; have mm := b2; refine (hr w2 r2).mono ?_; rintro e w3 ⟨rfl, r3, o3⟩; obtain ⟨h3, b3⟩ := s3 w2 w3 _ _ b2 h2 r2 o3; have bx3 := s4 w2 w3 bx2 o3)
        | (go_at_call 15; refine (hc).mono ?_; rintro e w2 ⟨rfl, h2, o2⟩; obtain ⟨bx2, r2, b2⟩ := s2 w2 o2))
    all_goals (
      go_wp2_with fail
      go_ret
      exact ⟨ret_bool (by simp), ⟨_, _, h3, r3⟩, b3⟩)
  · have hc := rNumber_any g p mo w1.drew (h1.on hd1) m2
    have hr := fun W hW => rrNumber_any B m p mo W hW m2
    generalize rdN mo p = RR at hc hr
    have hki : (k : Int) % 11 = 1 := by omega
    clear e7
    go_enter Tryd.func8, Tryd.ntmps8
    obtain ⟨x0, x1, x2⟩ := box w1 hbox
    go_wp2_with fail
    go_region_held3 (fun w' => w'.cell? ⟨w.heap.size, 1, none⟩ = some (.int .i64 mo))
      (first | exact (box w3 bx3).2.1 | exact (box w2 bx2).2.1 | exact (box1).2.1)
      (first
        | (go_at_call 30; have mm := b2; refine (hr w2 r2).mono ?_; rintro e w3 ⟨rfl, r3, o3⟩; obtain ⟨h3, b3⟩ := s3 w2 w3 _ _ b2 h2 r2 o3; have bx3 := s4 w2 w3 bx2 o3)
        | (go_at_call 29; refine (hc).mono ?_; rintro e w2 ⟨rfl, h2, o2⟩; obtain ⟨bx2, r2, b2⟩ := s2 w2 o2))
    all_goals (
      go_wp2_with fail
      go_ret
      exact ⟨ret_bool (by simp), ⟨_, _, h3, r3⟩, b3⟩)
  · have hc := rInt_any g p lo mo w1.drew (h1.on hd1)
    have hr := fun W hW => rrInt_any B m p lo mo W hW
    generalize rdI lo mo p = RR at hc hr
    have hki : (k : Int) % 11 = 2 := by omega
    clear e7
    go_enter Tryd.func8, Tryd.ntmps8
    obtain ⟨x0, x1, x2⟩ := box w1 hbox
    go_wp2_with fail
    go_region_held3 (fun w' => w'.cell? ⟨w.heap.size, 2, none⟩ = some (.int .i64 lo) ∧ w'.cell? ⟨w.heap.size, 1, none⟩ = some (.int .i64 mo))
      (first | exact ⟨(box w3 bx3).2.2, (box w3 bx3).2.1⟩ | exact ⟨(box w2 bx2).2.2, (box w2 bx2).2.1⟩ | exact ⟨(box1).2.2, (box1).2.1⟩)
      (first
        | (go_at_call 32; have mm := b2; refine (hr w2 r2).mono ?_; rintro e w3 ⟨rfl, r3, o3⟩; obtain ⟨h3, b3⟩ := s3 w2 w3 _ _ b2 h2 r2 o3; have bx3 := s4 w2 w3 bx2 o3)
        | (go_at_call 31; refine (hc).mono ?_; rintro e w2 ⟨rfl, h2, o2⟩; obtain ⟨bx2, r2, b2⟩ := s2 w2 o2))
    all_goals (
      go_wp2_with fail
      go_ret
      exact ⟨ret_bool (by simp), ⟨_, _, h3, r3⟩, b3⟩)
  · have hc := rString_any g p mo w1.drew (h1.on hd1) m1 m2
    have hr := fun W hW => rrBytes_any B m p mo W hW m2
    generalize rdB mo p = RR at hc hr
    have hki : (k : Int) % 11 = 3 := by omega
    clear e7
    go_enter Tryd.func8, Tryd.ntmps8
    obtain ⟨x0, x1, x2⟩ := box w1 hbox
    go_wp2_with fail
    have y0 := box1.2.1
    go_region_with (first
        | (go_at_call 34; have mm := b2; refine (hr w2 r2).mono ?_; rintro e w3 ⟨A3, n3, c3, rfl, ow3, r3, o3⟩; obtain ⟨h3, b3⟩ := s3 w2 w3 _ _ b2 h2 r2 o3; have bx3 := s4 w2 w3 bx2 o3; have y2 := (box w3 bx3).2.1; have st := run_str w3 w3.heap.size A3 n3 c3 _ ow3.sees ow3.len)
        | (go_at_call 33; refine (hc).mono ?_; rintro e w2 ⟨rfl, h2, o2⟩; obtain ⟨bx2, r2, b2⟩ := s2 w2 o2; have y1 := (box w2 bx2).2.1))
    all_goals (
      go_wp2_with fail
      go_ret
      exact ⟨ret_bool (by simp), ⟨_, _, h3, r3⟩, b3⟩)
  · have hc := rBytes_any g p mo w1.drew (h1.on hd1) m1 m2
    have hr := fun W hW => rrBytes_any B m p mo W hW m2
    generalize rdB mo p = RR at hc hr
    have hki : (k : Int) % 11 = 4 := by omega
    clear e7
    go_enter Tryd.func8, Tryd.ntmps8
    obtain ⟨x0, x1, x2⟩ := box w1 hbox
    go_wp2_with fail
    go_region_held3 (fun w' => w'.cell? ⟨w.heap.size, 1, none⟩ = some (.int .i64 mo))
      (first | exact (box w3 bx3).2.1 | exact (box w2 bx2).2.1 | exact (box1).2.1)
      (first
        | (go_at_call 26; have mm := b3; refine (same_yes A2 A3 n2 c2 n3 c3 RR.1 w3 (ow2.sees.besideR r2 o3) ow3.sees ow2.len ow3.len).mono ?_; rintro e w4 ⟨rfl, rfl⟩)
        | (go_at_call 34; have mm := b2; refine (hr w2 r2).mono ?_; rintro e w3 ⟨A3, n3, c3, rfl, ow3, r3, o3⟩; obtain ⟨h3, b3⟩ := s3 w2 w3 _ _ b2 h2 r2 o3; have bx3 := s4 w2 w3 bx2 o3)
        | (go_at_call 16; refine (hc).mono ?_; rintro e w2 ⟨A2, n2, c2, rfl, ow2, h2, o2⟩; obtain ⟨bx2, r2, b2⟩ := s2 w2 o2))
    all_goals (
      go_wp2_with fail
      go_ret
      exact ⟨ret_bool (rfl), ⟨_, _, h3, r3⟩, b3⟩)
  · have hc := rFlag_any g p w1 h1
    have hr := fun W hW => rrFlag_any B m p W hW
    generalize rdF p = RR at hc hr
    have hki : (k : Int) % 11 = 5 := by omega
    clear e7
    go_enter Tryd.func8, Tryd.ntmps8
    obtain ⟨x0, x1, x2⟩ := box w1 hbox
    go_wp2_with fail
    refine hc.mono ?_
    rintro e w2 ⟨rfl, h2, o2⟩
    have r2 := r1.only o2 hBg (fun e => hgm e.symm)
    have b2 : Below B w w2 := bB1.trans (o2.below (by omega) hBg (fun _ e => by cases e))
    go_wp2_with fail
    refine (hr w2 r2).mono ?_
    rintro e w3 ⟨rfl, r3, o3⟩
    obtain ⟨h3, b3⟩ := s3 w2 w3 _ _ b2 h2 r2 o3
    go_wp2_with fail
    go_ret
    exact ⟨ret_bool (by simp), ⟨_, _, h3, r3⟩, b3⟩
  · have hc := rRawZ_any g p mo w1.drew (h1.on hd1) m2
    have hr := fun W hW => rrRaw_any B m p mo W hW m2
    generalize rdZ mo p = RR at hc hr
    have hki : (k : Int) % 11 = 6 := by omega
    clear e7
    go_enter Tryd.func8, Tryd.ntmps8
    obtain ⟨x0, x1, x2⟩ := box w1 hbox
    go_wp2_with fail
    go_region_held3 (fun w' => w'.cell? ⟨w.heap.size, 1, none⟩ = some (.int .i64 mo))
      (first | exact (box w3 bx3).2.1 | exact (box w2 bx2).2.1 | exact (box1).2.1)
      (first
        | (go_at_call 26; have mm := b3; refine (same_yes A2 A3 n2 c2 n3 c3 RR.1 w3 (ow2.sees.besideR r2 o3) ow3.sees ow2.len ow3.len).mono ?_; rintro e w4 ⟨rfl, rfl⟩)
        | (go_at_call 37; have mm := b2; refine (hr w2 r2).mono ?_; rintro e w3 ⟨A3, n3, c3, rfl, ow3, r3, o3⟩; obtain ⟨h3, b3⟩ := s3 w2 w3 _ _ b2 h2 r2 o3; have bx3 := s4 w2 w3 bx2 o3)
        | (go_at_call 36; refine (hc).mono ?_; rintro e w2 ⟨A2, n2, c2, rfl, ow2, h2, o2⟩; obtain ⟨bx2, r2, b2⟩ := s2 w2 o2))
    all_goals (
      go_wp2_with fail
      go_ret
      exact ⟨ret_bool (rfl), ⟨_, _, h3, r3⟩, b3⟩)
  · have hc := rCount_any g p mo w1.drew (h1.on hd1) m2
    have hr := fun W hW => rrCount_any B m p mo W hW m2
    generalize rdC mo p = RR at hc hr
    have hki : (k : Int) % 11 = 7 := by omega
    clear e7
    go_enter Tryd.func8, Tryd.ntmps8
    obtain ⟨x0, x1, x2⟩ := box w1 hbox
    go_wp2_with fail
    go_region_held3 (fun w' => w'.cell? ⟨w.heap.size, 1, none⟩ = some (.int .i64 mo))
      (first | exact (box w3 bx3).2.1 | exact (box w2 bx2).2.1 | exact (box1).2.1)
      (first
        | (go_at_call 39; have mm := b2; refine (hr w2 r2).mono ?_; rintro e w3 ⟨rfl, r3, o3⟩; obtain ⟨h3, b3⟩ := s3 w2 w3 _ _ b2 h2 r2 o3; have bx3 := s4 w2 w3 bx2 o3)
        | (go_at_call 38; refine (hc).mono ?_; rintro e w2 ⟨rfl, h2, o2⟩; obtain ⟨bx2, r2, b2⟩ := s2 w2 o2))
    all_goals (
      go_wp2_with fail
      go_ret
      exact ⟨ret_bool (by simp), ⟨_, _, h3, r3⟩, b3⟩)
  · have hc := rSet_any g p mo w1.drew (h1.on hd1)
    have hr := fun W hW => rrSet_any B m p mo W hW
    generalize rdS mo p = RR at hc hr
    have tB : ∀ W, Below B w W → Tab W := fun W h => hT.below h hT0
    have hki : (k : Int) % 11 = 8 := by omega
    clear e7
    go_enter Tryd.func8, Tryd.ntmps8
    obtain ⟨x0, x1, x2⟩ := box w1 hbox
    go_wp2_with fail
    go_region_held3 (fun w' => w'.cell? ⟨w.heap.size, 1, none⟩ = some (.int .i64 mo))
      (first | exact (box w4 bx4).2.1 | exact (box w3 bx3).2.1 | exact (box w2 bx2).2.1 | exact box1.2.1)
      (first
        | (go_at_call 40; have mm := b4; refine (equalI_any A3 A4 n3 c3 n4 c4 (memZ RR.1) (memZ RR.1) w4 (ow3.only o4 (by have := b2.size; omega)).sees ow4.sees ow3.len ow4.len (by have := ow3.len; have := hs2.mems; omega)).mono ?_; rintro e w5 ⟨rfl, q, rfl⟩)
        | (go_at_call 42; have mm := b3; refine (hr w3 r3).mono ?_; rintro e w4 ⟨A4, n4, c4, rfl, ow4, r4, o4⟩; obtain ⟨h4, b4⟩ := s3 w3 w4 _ _ b3 h3 r3 o4; have bx4 := s4 w3 w4 bx3 o4)
        | (go_at_call 41; have mm := b2; refine (list_any v2 RR.1 w2 hs2 (tB _ b2)).mono ?_; rintro e w3 ⟨A3, n3, c3, rfl, ow3, bb3⟩; have b3 := b2.trans (bb3.mono (by have := b2.size; omega)); have h3 := h2.on bb3; have r3 := r2.on bb3; have bx3 := bx2.on bb3)
        | (go_at_call 18; refine (hc).mono ?_; rintro e w2 ⟨v2, rfl, hs2, h2, o2⟩; obtain ⟨bx2, r2, b2⟩ := s2 w2 o2))
    all_goals (
      go_wp2_with fail
      go_ret
      exact ⟨ret_bool (by simp), ⟨_, _, h4.on (below_drewN (Below.refl _ _) _), r4.on (below_drewN (Below.refl _ _) _)⟩, below_drewN b4 _⟩)
  · have hc := fun er => fail_any g p er w1 h1
    have hki : (k : Int) % 11 = 9 := by omega
    clear e7
    go_enter Tryd.func8, Tryd.ntmps8
    obtain ⟨x0, x1, x2⟩ := box w1 hbox
    go_wp2_with fail
    refine (hc _).mono ?_
    rintro e w2 ⟨rfl, h2, o2⟩
    have r2 := r1.only o2 hBg (fun e => hgm e.symm)
    have b2 : Below B w w2 := bB1.trans (o2.below (by omega) hBg (fun _ e => by cases e))
    obtain ⟨Ar, nr, cr, rI⟩ := id r2
    obtain ⟨c0, c1, f0, f1⟩ := rI.cells
    have o3 := fun er => only_set (w := w2) (g := m) (i := 1) (.int .i64 er)
    go_wp2_with fail
    go_ret
    obtain ⟨h3, b3⟩ := s3 w2 _ _ _ b2 h2 r2 (o3 _)
    exact ⟨rfl, ⟨_, _, h3, ⟨Ar, nr, cr, rI.setErr _⟩⟩, b3⟩
  · have hc := end_any g p 0 w1 h1
    have hr := rrEnd_any B m p 0 w1 r1
    generalize (if (0 : Int) = 0 ∧ p ≠ [] then (6 : Int) else 0) = E at hc hr
    have hki : (k : Int) % 11 = 10 := by omega
    clear e7
    go_enter Tryd.func8, Tryd.ntmps8
    obtain ⟨x0, x1, x2⟩ := box w1 hbox
    go_wp2_with fail
    refine hc.mono ?_
    rintro e w2 ⟨rfl, rfl⟩
    go_wp2_with fail
    refine hr.mono ?_
    rintro e w2 ⟨rfl, rfl⟩
    go_wp2_with fail
    go_ret
    exact ⟨ret_bool (by simp), ⟨p, 0, h1, r1⟩, bB1⟩
end Go.Proofs.YtfbdfpnmopgkoaaDoor
