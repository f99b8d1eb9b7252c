/- Check. -/
import Derived.Test.YtcnofhlgiffkjaaGreatDoorPi
import Derived.Test.YtcnofhlgiffkjaaGreatDoorPf
namespace Go.Proofs.YtcnofhlgiffkjaaGreatDoor
open Go.RowKit
set_option linter.unusedVariables false
set_option linter.unusedSimpArgs false

theorem sli_info : (Tryz.prog.info? 30).map (fun i => (i.zero, i.size, i.bytes)) = some (some (.slice none 0 0), 1, 24) := by kernel_rfl
/-- make([][]int, n). -/
theorem wpL_mkS (w : World) {ops : Array Oper} {rest : List Oper} {o : Oper} {a : Act} {Q : Exit → Act → World → Prop}
    (hg : o.guard = none) (l c : Operand) (hop : o.op = Op.makeSlice 47 l c) (L C : Int) (n : Nat) (hl : a.eval l = .int .i64 L) (hc : a.eval c = .int .i64 C) (hL : L = (n : Int)) (hC : C = (n : Int)) (b : n ≤ 1000000000)
    (hK : ∀ w', Hid (StA w' w.heap.size n (List.replicate n [])) → Below w.heap.size w w' → Hid (w'.heap.size = w.heap.size + 1) → wpList Tryz.prog ops Q rest (a.put o.dst (.slice (some ⟨w.heap.size, 0, none⟩) n n)) w') :
    wpList Tryz.prog ops Q (o :: rest) a w := by
  obtain ⟨i0, hi0, hz0, hz1, hz2⟩ := info_parts sli_info
  refine wpL_make64 w hg l c _ hop _ i0 _ Tryz.underlying47 hi0 hz0 hz1 (by omega) rfl .i64 .i64 L C n hl hc hL hC b fun w' h1 h2 h3 => hK w' (Lib.hid ⟨_, h1.out, by simp, by simp, fun i st hi => ?_⟩) h2 h3
  rw [List.getElem?_replicate] at hi
  split at hi
  · injection hi with hi
    subst hi
    exact ⟨none, 0, by rw [List.getElem?_replicate, if_pos (by assumption)]; rfl, Sees.nil _ _ _⟩
  · cases hi

set_option maxHeartbeats 16000000 in
set_option maxRecDepth 100000 in
/-- Check. -/
theorem check_any (p : PrV) (P : Pr) (An : Option Addr) (n cn : Nat) (l : List Nd) (w : World) (h : PrAt w w.heap.size p P) (hN : NodesAt w w.heap.size An l) (hn : l.length = n) (hb : n ≤ 1000000) (hT : Tab w) :
    Calls Tryz.prog 12 #[p.v, .agg #[.slice An n cn]] w fun e w' => e = .returned (.tuple #[.int .u8 ((chkR P l).1 : Int), .int .i64 (chkR P l).2]) ∧ Below w.heap.size w w' := by
  have hg0 : 0 < w.heap.size := World.block_lt_of_cell? w _ (hT 0 (by omega))
  obtain ⟨z, hz⟩ : ∃ z, Hid (z = chkP P) := ⟨_, Lib.hid rfl⟩
  obtain ⟨tr, htr⟩ : ∃ t, Hid (t = treeR l) := ⟨_, Lib.hid rfl⟩
  have hchk := fun W (hW : Below w.heap.size w W) => chkP_any p P W (h.on hW)
  have htree := fun W (hW : Below w.heap.size w W) => tree_any An n cn l W ((hN.below hW).more hW.size) hn hb
  rw [← hz.out] at hchk
  rw [← htr.out] at htree
  obtain ⟨r1, hr1⟩ : ∃ r, Hid (r = (chkR P l).1) := ⟨_, Lib.hid rfl⟩
  obtain ⟨r2, hr2⟩ : ∃ r, Hid (r = (chkR P l).2) := ⟨_, Lib.hid rfl⟩
  rw [← hr1.out, ← hr2.out]
  have Hn := Lib.hid hn
  have hh := Lib.hid h
  obtain ⟨⟨A1, n1, c1⟩, ⟨A2, n2, c2⟩, ⟨A3, n3, c3⟩, ⟨A4, n4, c4⟩, ⟨A5, n5, c5⟩⟩ := p
  have b1 : Below w.heap.size w ((w.alloc (.cells #[.slice A1 n1 c1, .slice A2 n2 c2, .slice A3 n3 c3, .slice A4 n4 c4, .slice A5 n5 c5] 37)).alloc (.cells #[.slice An n cn] 41)) := ((Below.refl _ _).alloc (Nat.le_refl _) _).alloc (by simp) _
  have bP := (Blk.new w 37 #[.slice A1 n1 c1, .slice A2 n2 c2, .slice A3 n3 c3, .slice A4 n4 c4, .slice A5 n5 c5]).alloc (.cells #[.slice An n cn] 41)
  have bR := Blk.new (w.alloc (.cells #[.slice A1 n1 c1, .slice A2 n2 c2, .slice A3 n3 c3, .slice A4 n4 c4, .slice A5 n5 c5] 37)) 41 #[.slice An n cn]
  rw [World.size_alloc] at bR
  have hsz1 : ((w.alloc (.cells #[.slice A1 n1 c1, .slice A2 n2 c2, .slice A3 n3 c3, .slice A4 n4 c4, .slice A5 n5 c5] 37)).alloc (.cells #[.slice An n cn] 41)).heap.size = w.heap.size + 2 := by simp
  have box : ∀ W, Blk W w.heap.size 37 #[.slice A1 n1 c1, .slice A2 n2 c2, .slice A3 n3 c3, .slice A4 n4 c4, .slice A5 n5 c5] → Blk W (w.heap.size + 1) 41 #[.slice An n cn] → W.cell? ⟨w.heap.size, 0, none⟩ = some (.slice A1 n1 c1) ∧ W.cell? ⟨w.heap.size, 1, none⟩ = some (.slice A2 n2 c2) ∧ W.cell? ⟨w.heap.size, 2, none⟩ = some (.slice A3 n3 c3) ∧ W.cell? ⟨w.heap.size, 3, none⟩ = some (.slice A4 n4 c4) ∧ W.cell? ⟨w.heap.size, 4, none⟩ = some (.slice A5 n5 c5) ∧ W.cell? ⟨w.heap.size + 1, 0, none⟩ = some (.slice An n cn) := fun W hb hr => ⟨(hb.cell 0).trans rfl, (hb.cell 1).trans rfl, (hb.cell 2).trans rfl, (hb.cell 3).trans rfl, (hb.cell 4).trans rfl, (hr.cell 0).trans rfl⟩
  unfold PrV.v Sl.v at hchk ⊢
  simp only [] at hchk ⊢
  clear h hn
  by_cases z0 : z = 0
  · subst z0
    obtain ⟨t1, t2⟩ := tr
    cases t2
    · have e1 : Hid (r1 = 2) := Lib.hid (by rw [hr1.out]; unfold chkR; rw [← hz.out, ← htr.out]; rfl)
      have e2 : Hid (r2 = t1) := Lib.hid (by rw [hr2.out]; unfold chkR; rw [← hz.out, ← htr.out]; rfl)
      go_enter Tryz.func12, Tryz.ntmps12
      go_wp2_with fail
      generalize ((w.alloc (.cells #[.slice A1 n1 c1, .slice A2 n2 c2, .slice A3 n3 c3, .slice A4 n4 c4, .slice A5 n5 c5] 37)).alloc (.cells #[.slice An n cn] 41)) = W1 at b1 bP bR hsz1 ⊢
      refine (hchk W1 b1).mono ?_
      rintro e w2 ⟨rfl, bw2⟩
      have b2 := b1.trans (bw2.mono b1.size)
      obtain ⟨x0, x1, x2, x3, x4, x5⟩ := box w2 (bP.on bw2) (bR.on bw2)
      go_wp2_with fail
      refine (htree w2 b2).mono ?_
      rintro e w3 ⟨rfl, bw3⟩
      go_wp2_with fail
      go_ret2
      exact ⟨by rw [e1.out, e2.out]; rfl, b2.trans (bw3.mono b2.size)⟩
    · have hrest : chkR P l = walkN P l 0 ((List.replicate n []).set 0 P.fix) := by
        unfold chkR
        rw [← hz.out, ← htr.out, Hn.out]
        simp
      have ok := chkP_ok hz.out.symm
      have tok := tree_ok (l := l) (by rw [← htr.out])
      have hn0 : 0 < n := by rw [← Hn.out]; exact tok.pos
      have hcl : ∀ W, Below w.heap.size w W → _ := fun W hW => cloneI_any A5 n5 c5 P.fix W (hh.out.e5.below hW |>.more hW.size) hh.out.l5 (by have := hh.out.b5; simp only at this; omega)
      have Hrest := Lib.hid hrest
      have Hok := Lib.hid ok
      have Htok := Lib.hid tok
      clear hrest ok tok
      go_enter Tryz.func12, Tryz.ntmps12
      go_wp2_with fail
      generalize ((w.alloc (.cells #[.slice A1 n1 c1, .slice A2 n2 c2, .slice A3 n3 c3, .slice A4 n4 c4, .slice A5 n5 c5] 37)).alloc (.cells #[.slice An n cn] 41)) = W1 at b1 bP bR hsz1 ⊢
      refine (hchk W1 b1).mono ?_
      rintro e w2 ⟨rfl, bw2⟩
      have b2 := b1.trans (bw2.mono b1.size)
      obtain ⟨x0, x1, x2, x3, x4, x5⟩ := box w2 (bP.on bw2) (bR.on bw2)
      go_wp2_with fail
      refine (htree w2 b2).mono ?_
      rintro e w3 ⟨rfl, bw3⟩
      have b3 := b2.trans (bw3.mono b2.size)
      have bP3 := (bP.on bw2).on bw3
      have bR3 := (bR.on bw2).on bw3
      obtain ⟨x0, x1, x2, x3, x4, x5⟩ := box w3 bP3 bR3
      go_wp2_with (refine wpL_mkS _ rfl _ _ rfl _ _ n rfl rfl rfl rfl (by omega) ?_; intro w4 hS4 bw4 hsz4; have bP4 := bP3.on bw4; have bR4 := bR3.on bw4; have x6 := box w4 bP4 bR4; have b4 := b3.trans (bw4.mono b3.size); obtain ⟨x60, x61, x62, x63, x64, x65⟩ := x6)
      refine (hcl w4 b4).mono ?_
      rintro e w5 ⟨A', c', rfl, how, bw5⟩
      have hn0' : (0 : Int) < (n : Int) := by omega
      have hS5 := hS4.out.below bw5
      obtain ⟨vs5, hblk5, hvl5, hsl5, _⟩ := id hS5
      have hf5 := hblk5.frozen 0
      obtain ⟨st9, A9, c9, _, hcell9, _⟩ := hS5.get hn0
      have b5 := b4.trans (bw5.mono b4.size)
      have hS6 : StA (w5.setCell ⟨w3.heap.size, 0, none⟩ (.slice A' n5 c')) w3.heap.size n ((List.replicate n []).set 0 P.fix) := by
        have h1 := hS5.put (c := c') how.sees hn0
        rw [hh.out.l5] at h1
        exact h1
      have b6 : Below w.heap.size w (w5.setCell ⟨w3.heap.size, 0, none⟩ (.slice A' n5 c')) := b5.setCell (p := ⟨w3.heap.size, 0, none⟩) b3.size _
      have hgs3 := b3.size
      have hlt3 := bP3.lt
      have hltR := bR3.lt
      have bP6 : Blk (w5.setCell ⟨w3.heap.size, 0, none⟩ (.slice A' n5 c')) w.heap.size 37 #[.slice A1 n1 c1, .slice A2 n2 c2, .slice A3 n3 c3, .slice A4 n4 c4, .slice A5 n5 c5] := (bP4.on bw5).far (p := ⟨w3.heap.size, 0, none⟩) (by simp; omega) _
      have bR6 : Blk (w5.setCell ⟨w3.heap.size, 0, none⟩ (.slice A' n5 c')) (w.heap.size + 1) 41 #[.slice An n cn] := (bR4.on bw5).far (p := ⟨w3.heap.size, 0, none⟩) (by simp; omega) _
      obtain ⟨y0, y1, y2, y3, y4, y5⟩ := box _ bP6 bR6
      have hok0 : StsOk P l 0 ((List.replicate n []).set 0 P.fix) := by
        intro j st hj hm
        by_cases e : j = 0
        · subst e
          rw [List.getElem?_set_self (by simpa using hn0)] at hj
          injection hj with hj
          subst hj
          exact ⟨Hok.out.fixl, Hok.out.fixu⟩
        · rcases hm with h1 | h1
          · exact absurd h1 e
          · simp [kids] at h1
      obtain ⟨sts0, hsts0⟩ : ∃ s, s = (List.replicate n []).set 0 P.fix := ⟨_, rfl⟩
      rw [← hsts0] at hS6 hok0 Hrest
      have HS6 := Lib.hid hS6
      have Hok0 := Lib.hid hok0
      clear hS6 hok0 hsts0 hS5 hblk5 hvl5 hsl5 how hS4
      go_wp2_with fail
      generalize (w5.setCell ⟨w3.heap.size, 0, none⟩ (.slice A' n5 c')) = w6 at HS6 b6 bP6 bR6 y0 y1 y2 y3 y4 y5 ⊢
      generalize w3.heap.size = gS at HS6 hgs3 hlt3 hltR ⊢
      go_loopw [34] (fun i wr => ∃ (k : Nat) (sts : List (List Int)), k ≤ n ∧ i = .int .i64 k ∧ Hid (walkN P (l.drop k) k sts = walkN P l 0 sts0) ∧ Hid (StA wr gS n sts) ∧ Hid (StsOk P l k sts) ∧ Below w.heap.size w wr ∧ Blk wr w.heap.size 37 #[.slice A1 n1 c1, .slice A2 n2 c2, .slice A3 n3 c3, .slice A4 n4 c4, .slice A5 n5 c5]) (fun i _ => n - (intOf i).toNat)
      case atStart => exact ⟨0, sts0, Nat.zero_le _, rfl, Lib.hid rfl, HS6, Hok0, b6, bP6⟩
      case round =>
        obtain ⟨k, sts, hk, rfl, HW, HS, HO, bw, bPk⟩ := hrel
        by_cases hlt : k < n
        · have hlt' : (k : Int) < (n : Int) := by omega
          obtain ⟨x, hx⟩ : ∃ x, l[k]? = some x := ⟨_, List.getElem?_eq_getElem (by rw [Hn.out]; exact hlt)⟩
          obtain ⟨b, o, C, S, rfl, hb2, hc0, hc1, hc2, hc3, hNd⟩ := (hN.below bw) k x hx
          have hform := Htok.out.form k x hx
          have hpar : k = 0 ∨ (k : Int) ∈ kids (l.take k) := by
            by_cases e : k = 0
            · exact .inl e
            · exact .inr (Htok.out.par k (by rw [Hn.out]; exact hlt) e)
          have hkl : sts.length = n := HS.out.choose_spec.2.2.1
          obtain ⟨st, hst⟩ : ∃ st, sts[k]? = some st := ⟨_, List.getElem?_eq_getElem (by rw [hkl]; exact hlt)⟩
          obtain ⟨hsl, hsu⟩ := HO.out k st hst hpar
          have hstep := walkN_drop P hx sts
          have hfill := fun h1 => HO.out.fill Hok.out hx h1 hpar (by rw [hkl]; exact hlt)
          have hnext := fun h1 : x.kind ≠ 1 => HO.out.next hx (form_nokids hform h1)
          have hchn : ∀ c ∈ x.ch, 0 ≤ c ∧ c < (n : Int) := fun c hc => by
            have h1 := form_kids hform c hc
            rw [Hn.out] at h1
            omega
          have hsl1 : st.length = n1 := by rw [hsl]; exact hh.out.l1
          have hdr : Below wr.heap.size wr (wr.alloc (.cells #[.int .u8 (x.kind : Int), .int .i64 x.step, Sl.v C, Sl.v S] 95)).drew := ((Below.refl _ _).alloc (Nat.le_refl _) _).drew
          have bx : Below wr.heap.size wr (wr.alloc (.cells #[.int .u8 (x.kind : Int), .int .i64 x.step, Sl.v C, Sl.v S] 95)) := (Below.refl _ _).alloc (Nat.le_refl _) _
          have bXk := Blk.new wr 95 #[.int .u8 (x.kind : Int), .int .i64 x.step, Sl.v C, Sl.v S]
          have bPx := bPk.on bx
          have hSx := Lib.hid (HS.out.below bx)
          have bwx := bw.trans (bx.mono bw.size)
          obtain ⟨st', As', cs', hst', hcS, hSees⟩ := hSx.out.get hlt
          obtain rfl : st' = st := by
            have e := hst'.out.symm.trans hst
            injection e
          rw [hsl1] at hcS
          have hTd := (hT.below bw hg0).below hdr (Nat.lt_of_lt_of_le hg0 bw.size)
          have HE : Hid (∀ q : Nat, walkN P (l.drop k) k sts = (q, (k : Int)) → Hid (r1 = q) ∧ Hid (r2 = (k : Int))) := Lib.hid fun q hq => by
            rw [HW.out, ← Hrest.out] at hq
            exact ⟨Lib.hid (by rw [hr1.out, hq]), Lib.hid (by rw [hr2.out, hq])⟩
          have hbr := branch_any ⟨⟨A1, n1, c1⟩, ⟨A2, n2, c2⟩, ⟨A3, n3, c3⟩, ⟨A4, n4, c4⟩, ⟨A5, n5, c5⟩⟩ P x C S (w.heap.size + 2) gS n n1 cs' sts As' st' _ ((hh.out.below (bw.trans (hdr.mono bw.size))).more (by omega)) ((hNd.below (hdr.mono bw.size)).more (by omega)) (by have := hdr.size; have := HS.out.choose_spec.1.lt; omega) (HS.out.below hdr) (by omega) hSees hsl1 hsl hchn hb hTd
          have hbk := broken_any ⟨⟨A1, n1, c1⟩, ⟨A2, n2, c2⟩, ⟨A3, n3, c3⟩, ⟨A4, n4, c4⟩, ⟨A5, n5, c5⟩⟩ P As' n1 cs' st' _ ((hh.out.below (bw.trans (hdr.mono bw.size))).more (Nat.le_trans bw.size hdr.size)) hSees hsl1 hsl hz.out.symm hsu hTd
          have hha := hall_any ⟨⟨A1, n1, c1⟩, ⟨A2, n2, c2⟩, ⟨A3, n3, c3⟩, ⟨A4, n4, c4⟩, ⟨A5, n5, c5⟩⟩ P S.a As' S.n S.c n1 cs' x.st st' _ ((hh.out.below (bw.trans (hdr.mono bw.size))).more (Nat.le_trans bw.size hdr.size)) ((hNd.st.below (hdr.mono bw.size)).more (Nat.le_trans bw.size hdr.size)) hNd.ls hNd.bs hNd.cs hSees hsl1 hsl
          rw [hst, Option.getD_some] at hstep hfill
          have Hstep := Lib.hid hstep
          have Hfill := Lib.hid hfill
          have Hnext := Lib.hid hnext
          obtain ⟨Ac, nc, cc⟩ := C
          obtain ⟨As, ns, cs⟩ := S
          unfold PrV.v Sl.v at hbr hbk hha
          unfold Sl.v at hc2 hc3 hdr bx bXk bPx hSx bwx hcS hSees
          simp only [] at hbr hbk hha hc2 hc3 hdr bx bXk bPx hSx bwx hcS hSees
          have k0 : (wr.alloc (.cells #[.int .u8 (x.kind : Int), .int .i64 x.step, .slice Ac nc cc, .slice As ns cs] 95)).cell? ⟨wr.heap.size, 0, none⟩ = some (.int .u8 (x.kind : Int)) := (bXk.cell 0).trans rfl
          have k1 : (wr.alloc (.cells #[.int .u8 (x.kind : Int), .int .i64 x.step, .slice Ac nc cc, .slice As ns cs] 95)).cell? ⟨wr.heap.size, 1, none⟩ = some (.int .i64 x.step) := (bXk.cell 1).trans rfl
          have k2 : (wr.alloc (.cells #[.int .u8 (x.kind : Int), .int .i64 x.step, .slice Ac nc cc, .slice As ns cs] 95)).cell? ⟨wr.heap.size, 2, none⟩ = some (.slice Ac nc cc) := (bXk.cell 2).trans rfl
          have k3 : (wr.alloc (.cells #[.int .u8 (x.kind : Int), .int .i64 x.step, .slice Ac nc cc, .slice As ns cs] 95)).cell? ⟨wr.heap.size, 3, none⟩ = some (.slice As ns cs) := (bXk.cell 3).trans rfl
          have p0 : (wr.alloc (.cells #[.int .u8 (x.kind : Int), .int .i64 x.step, .slice Ac nc cc, .slice As ns cs] 95)).cell? ⟨w.heap.size, 0, none⟩ = some (.slice A1 n1 c1) := (bPx.cell 0).trans rfl
          have p1 : (wr.alloc (.cells #[.int .u8 (x.kind : Int), .int .i64 x.step, .slice Ac nc cc, .slice As ns cs] 95)).cell? ⟨w.heap.size, 1, none⟩ = some (.slice A2 n2 c2) := (bPx.cell 1).trans rfl
          have p2 : (wr.alloc (.cells #[.int .u8 (x.kind : Int), .int .i64 x.step, .slice Ac nc cc, .slice As ns cs] 95)).cell? ⟨w.heap.size, 2, none⟩ = some (.slice A3 n3 c3) := (bPx.cell 2).trans rfl
          have p3 : (wr.alloc (.cells #[.int .u8 (x.kind : Int), .int .i64 x.step, .slice Ac nc cc, .slice As ns cs] 95)).cell? ⟨w.heap.size, 3, none⟩ = some (.slice A4 n4 c4) := (bPx.cell 3).trans rfl
          have p4 : (wr.alloc (.cells #[.int .u8 (x.kind : Int), .int .i64 x.step, .slice Ac nc cc, .slice As ns cs] 95)).cell? ⟨w.heap.size, 4, none⟩ = some (.slice A5 n5 c5) := (bPx.cell 4).trans rfl
          have hltx : w.heap.size + 2 ≤ (wr.alloc (.cells #[.int .u8 (x.kind : Int), .int .i64 x.step, .slice Ac nc cc, .slice As ns cs] 95)).heap.size := by have := bx.size; have := HS.out.choose_spec.1.lt; omega
          clear hform hpar hkl hst hsl hsu hstep hfill hnext hchn hx hNd hst' hSees hTd bXk
          by_cases q1 : x.kind = 1
          · obtain ⟨bb, hbb⟩ : ∃ bb, Hid (bb = branchB P x st') := ⟨_, Lib.hid rfl⟩
            rw [← hbb.out] at hbr
            have hfc := hbr
            have q1b : ((x.kind : Int) == 1) = true := by simp; omega
            have hs := Hstep.out
            rw [if_pos q1, ← hbb.out] at hs
            have hf := Hfill.out
            rw [← hbb.out] at hf
            clear Hstep Hfill
            have Hstep := Lib.hid hs
            have Hfill := Lib.hid hf
            clear hbr hbk hha hs hf q1
            cases bb
            · have e9 := HE.out 3 (by rw [Hstep.out]; rfl)
              clear Hstep
              go_wp2_with fail
              generalize (wr.alloc (.cells #[.int .u8 (x.kind : Int), .int .i64 x.step, .slice Ac nc cc, .slice As ns cs] 95)) = u0 at hdr bx bPx hSx bwx hcS hfc k0 k1 k2 k3 p0 p1 p2 p3 p4 hltx ⊢
              have bwd := bwx.drew
              go_region_with (first | (go_at_call 36; refine hfc.mono ?_; rintro e u1 ⟨rfl, bu1, hS1⟩))
              all_goals (
                have bu2 : Below w.heap.size w u1 := bwd.trans (bu1.mono (by omega))
                go_wp2_with fail
                go_ret2
                exact ⟨by rw [e9.1.out, e9.2.out]; rfl, bu2⟩)
            · have e9 : Hid (walkN P (l.drop (k + 1)) (k + 1) (fillS st' x.step.toNat sts (x.ch.zip (memZ (eligA P x.step)))) = walkN P l 0 sts0) := Lib.hid (by rw [← HW.out, Hstep.out]; rfl)
              clear Hstep
              go_wp2_with fail
              generalize (wr.alloc (.cells #[.int .u8 (x.kind : Int), .int .i64 x.step, .slice Ac nc cc, .slice As ns cs] 95)) = u0 at hdr bx bPx hSx bwx hcS hfc k0 k1 k2 k3 p0 p1 p2 p3 p4 hltx ⊢
              have bwd := bwx.drew
              go_region_with (first | (go_at_call 36; refine hfc.mono ?_; rintro e u1 ⟨rfl, bu1, hS1⟩))
              all_goals (
                have bu2 : Below w.heap.size w u1 := bwd.trans (bu1.mono (by omega))
                have HS1 : Hid (StA u1 gS n (fillS st' x.step.toNat sts (x.ch.zip (memZ (eligA P x.step))))) := Lib.hid (hS1 (by trivial))
                have bP1 : Blk u1 w.heap.size 37 #[.slice A1 n1 c1, .slice A2 n2 c2, .slice A3 n3 c3, .slice A4 n4 c4, .slice A5 n5 c5] := bPx.below (w' := u1) (B := w.heap.size + 2) ((below_drewN (Below.refl _ u0) 1).mono (by omega) |>.trans bu1) (by omega)
                go_wp2_with fail
                go_roundw
                case rel => exact ⟨k + 1, _, by omega, by go_num, e9, HS1, Lib.hid (Hfill.out (by trivial)), bu2, bP1⟩
                case measure => simp [intOf]; omega)
          · have q1b : ((x.kind : Int) == 1) = false := by simp; omega
            by_cases q2 : x.kind = 2
            · obtain ⟨bb, hbb⟩ : ∃ bb, Hid (bb = brk P st') := ⟨_, Lib.hid rfl⟩
              rw [← hbb.out] at hbk
              have hfc := hbk
              have q2b : ((x.kind : Int) == 2) = true := by simp; omega
              have hs := Hstep.out
              rw [if_neg q1, if_pos q2, ← hbb.out] at hs
              clear Hstep
              have Hstep := Lib.hid hs
              clear hbr hbk hha hs q2
              cases bb
              · have e9 := HE.out 4 (by rw [Hstep.out]; rfl)
                clear Hstep
                go_wp2_with fail
                generalize (wr.alloc (.cells #[.int .u8 (x.kind : Int), .int .i64 x.step, .slice Ac nc cc, .slice As ns cs] 95)) = u0 at hdr bx bPx hSx bwx hcS hfc k0 k1 k2 k3 p0 p1 p2 p3 p4 hltx ⊢
                have bwd := bwx.drew
                go_region_with (first | (go_at_call 34; refine hfc.mono ?_; rintro e u1 ⟨rfl, bu1⟩))
                all_goals (
                  have bu2 : Below w.heap.size w u1 := bwd.trans (bu1.mono bwd.size)
                  go_wp2_with fail
                  go_ret2
                  exact ⟨by rw [e9.1.out, e9.2.out]; rfl, bu2⟩)
              · have e9 : Hid (walkN P (l.drop (k + 1)) (k + 1) sts = walkN P l 0 sts0) := Lib.hid (by rw [← HW.out, Hstep.out]; rfl)
                clear Hstep
                go_wp2_with fail
                generalize (wr.alloc (.cells #[.int .u8 (x.kind : Int), .int .i64 x.step, .slice Ac nc cc, .slice As ns cs] 95)) = u0 at hdr bx bPx hSx bwx hcS hfc k0 k1 k2 k3 p0 p1 p2 p3 p4 hltx ⊢
                have bwd := bwx.drew
                go_region_with (first | (go_at_call 34; refine hfc.mono ?_; rintro e u1 ⟨rfl, bu1⟩))
                all_goals (
                  have bu2 : Below w.heap.size w u1 := bwd.trans (bu1.mono bwd.size)
                  have HS1 : Hid (StA u1 gS n sts) := Lib.hid (hSx.out.below ((below_drewN (Below.refl _ u0) 1).trans bu1))
                  have bP1 : Blk u1 w.heap.size 37 #[.slice A1 n1 c1, .slice A2 n2 c2, .slice A3 n3 c3, .slice A4 n4 c4, .slice A5 n5 c5] := bPx.on (w' := u1) ((below_drewN (Below.refl _ u0) 1).trans bu1)
                  go_wp2_with fail
                  go_roundw
                  case rel => exact ⟨k + 1, _, by omega, by go_num, e9, HS1, Lib.hid (Hnext.out q1), bu2, bP1⟩
                  case measure => simp [intOf]; omega)
            · have q2b : ((x.kind : Int) == 2) = false := by simp; omega
              obtain ⟨bb, hbb⟩ : ∃ bb, Hid (bb = hallB P x.st st') := ⟨_, Lib.hid rfl⟩
              rw [← hbb.out] at hha
              have hfc := hha
              have hs := Hstep.out
              rw [if_neg q1, if_neg q2, ← hbb.out] at hs
              clear Hstep
              have Hstep := Lib.hid hs
              clear hbr hbk hha hs q2
              cases bb
              · have e9 := HE.out 5 (by rw [Hstep.out]; rfl)
                clear Hstep
                go_wp2_with fail
                generalize (wr.alloc (.cells #[.int .u8 (x.kind : Int), .int .i64 x.step, .slice Ac nc cc, .slice As ns cs] 95)) = u0 at hdr bx bPx hSx bwx hcS hfc k0 k1 k2 k3 p0 p1 p2 p3 p4 hltx ⊢
                have bwd := bwx.drew
                go_region_with (first | (go_at_call 37; refine hfc.mono ?_; rintro e u1 ⟨rfl, bu1⟩))
                all_goals (
                  have bu2 : Below w.heap.size w u1 := bwd.trans (bu1.mono bwd.size)
                  go_wp2_with fail
                  go_ret2
                  exact ⟨by rw [e9.1.out, e9.2.out]; rfl, bu2⟩)
              · have e9 : Hid (walkN P (l.drop (k + 1)) (k + 1) sts = walkN P l 0 sts0) := Lib.hid (by rw [← HW.out, Hstep.out]; rfl)
                clear Hstep
                go_wp2_with fail
                generalize (wr.alloc (.cells #[.int .u8 (x.kind : Int), .int .i64 x.step, .slice Ac nc cc, .slice As ns cs] 95)) = u0 at hdr bx bPx hSx bwx hcS hfc k0 k1 k2 k3 p0 p1 p2 p3 p4 hltx ⊢
                have bwd := bwx.drew
                go_region_with (first | (go_at_call 37; refine hfc.mono ?_; rintro e u1 ⟨rfl, bu1⟩))
                all_goals (
                  have bu2 : Below w.heap.size w u1 := bwd.trans (bu1.mono bwd.size)
                  have HS1 : Hid (StA u1 gS n sts) := Lib.hid (hSx.out.below ((below_drewN (Below.refl _ u0) 1).trans bu1))
                  have bP1 : Blk u1 w.heap.size 37 #[.slice A1 n1 c1, .slice A2 n2 c2, .slice A3 n3 c3, .slice A4 n4 c4, .slice A5 n5 c5] := bPx.on (w' := u1) ((below_drewN (Below.refl _ u0) 1).trans bu1)
                  go_wp2_with fail
                  go_roundw
                  case rel => exact ⟨k + 1, _, by omega, by go_num, e9, HS1, Lib.hid (Hnext.out q1), bu2, bP1⟩
                  case measure => simp [intOf]; omega)
        · obtain rfl : k = n := by omega
          have hlt' : ¬ (k : Int) < (k : Int) := by omega
          have hW := HW.out
          rw [List.drop_eq_nil_of_le (by rw [Hn.out]; exact Nat.le_refl _), ← Hrest.out, walkN] at hW
          have e1 : Hid (r1 = 1) := Lib.hid (by rw [hr1.out, ← hW])
          have e2 : Hid (r2 = 0) := Lib.hid (by rw [hr2.out, ← hW])
          clear hW
          go_wp2_with fail
          go_ret2
          exact ⟨by rw [e1.out, e2.out]; rfl, bw⟩
  · have e1 : Hid (r1 = 2) := Lib.hid (by rw [hr1.out]; unfold chkR; rw [← hz.out, if_pos z0])
    have e2 : Hid (r2 = 0) := Lib.hid (by rw [hr2.out]; unfold chkR; rw [← hz.out, if_pos z0])
    have z0b : (z != 0) = true := by simpa using z0
    clear z0
    go_enter Tryz.func12, Tryz.ntmps12
    go_wp2_with fail
    refine (hchk _ b1).mono ?_
    rintro e w2 ⟨rfl, bw2⟩
    go_wp2_with fail
    go_ret2
    exact ⟨by rw [e1.out, e2.out]; rfl, b1.trans (bw2.mono b1.size)⟩
end Go.Proofs.YtcnofhlgiffkjaaGreatDoor
