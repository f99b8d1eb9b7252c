/- arbaclaw42.made: a problem both ways, and all of its staffings. (genmade.py) -/
import Derived.Test.YtfnhaoindehjdaaDoorPrM
import Derived.Test.YtfnhaoindehjdaaDoorRMk3
import Derived.Test.YtfnhaoindehjdaaDoorPm
import Derived.Test.YtfnhaoindehjdaaDoorPj
import Derived.Deep.RegionHeld3
import Derived.Deep.RegionWith
namespace Go.Proofs.YtfnhaoindehjdaaDoor
open Go.RowKit
set_option linter.unusedVariables false
set_option linter.unusedSimpArgs false

theorem results_cct {P : Program} {fn : Func} {p q u : Tmp} {ty tz : TypeId} (h : fn.results = #[.cell p ty, .cell q tz, .tmp u]) (tmps : Array Value) (w : World) (g g' : Nat) (t t' : TypeId) (cs cs' : Array Value) (fr fr' : Nat × Nat) (d d' : TypeDesc)
    (hp : tmps.getD p undef = .pointer (some ⟨g, 0, none⟩)) (hg : w.heap[g]? = some (.cells cs t fr)) (hu : P.underlying ty = some d) (hd : (match d with | .struct _ | .array _ _ => true | _ => false) = true) (hi : (P.info? ty).map (·.size) = some cs.size)
    (hp' : tmps.getD q undef = .pointer (some ⟨g', 0, none⟩)) (hg' : w.heap[g']? = some (.cells cs' t' fr')) (hu' : P.underlying tz = some d') (hd' : (match d' with | .struct _ | .array _ _ => true | _ => false) = true) (hi' : (P.info? tz).map (·.size) = some cs'.size) :
    (results fn tmps).run P w = .ok (.tuple #[.agg cs, .agg cs', tmps.getD u undef]) w := by
  have e1 : tmps[p]?.getD undef = .pointer (some ⟨g, 0, none⟩) := by simpa using hp
  have e2 : tmps[q]?.getD undef = .pointer (some ⟨g', 0, none⟩) := by simpa using hp'
  simp [results, h, e1, e2, asAddr, Sem.run_bind, run_loadVar_row w g t ty cs fr d hg hu hd hi, run_loadVar_row w g' t' tz cs' fr' d' hg' hu' hd' hi']
abbrev set5 (w : World) (g : Nat) (a b c d e : Value) : World := (((((w.setCell ⟨g, 0, none⟩ a).setCell ⟨g, 1, none⟩ b).setCell ⟨g, 2, none⟩ c).setCell ⟨g, 3, none⟩ d).setCell ⟨g, 4, none⟩ e)
theorem far5 {w : World} {g g' t : Nat} {cs : Array Value} {a b c d e : Value} (h : Blk w g t cs) (hne : g ≠ g') : Blk (set5 w g' a b c d e) g t cs :=
  ((((h.far (p := ⟨g', 0, none⟩) hne _).far (p := ⟨g', 1, none⟩) hne _).far (p := ⟨g', 2, none⟩) hne _).far (p := ⟨g', 3, none⟩) hne _).far (p := ⟨g', 4, none⟩) hne _
theorem OwnLL.put5 {w : World} {base g t n : Nat} {v : Value} {ls : List (List Int)} {cs : Array Value} {a b c d e : Value} (h : OwnLL w base v n ls) (hb : Blk w g t cs) (ht : 30 ≠ t ∧ 3 ≠ t) : OwnLL (set5 w g a b c d e) base v n ls := by
  obtain ⟨vs, o, r1, r2⟩ := h.ex
  exact ⟨vs, own5 o hb ht.1, r1, fun i u l h1 h2 => by obtain ⟨A, n, c, e, o⟩ := r2 i u l h1 h2; exact ⟨A, n, c, e, own5 o hb ht.2⟩⟩
set_option maxHeartbeats 16000000 in
set_option maxRecDepth 100000 in
/-- made. -/
theorem made_ap (r : RwV) (R : Rw) (w : World) (h : RwAt w w.heap.size r R) :
    Calls Tryd.prog 13 #[r.v R] w fun e w' => ∃ q p A n c, e = .returned (.tuple #[PrV.v q, PrV.v p, .slice A n c]) ∧ (∃ xs ms, OwnQ w' w.heap.size q (mkP R) xs ms) ∧ ApQ q ∧ p.s1.n = (mkP R).elig.length ∧ OwnLL w' w.heap.size (.slice A n c) n (allL (mkP R)) ∧ n ≤ 10000 ∧ Below w.heap.size w w' := by
  have mk := fun W (hw : Below w.heap.size w W) => rmake_any r R W (h.on hw)
  have mf := mkP_few R
  obtain ⟨P, hP⟩ : ∃ P, Hid (P = mkP R) := ⟨_, Lib.hid rfl⟩
  rw [← hP.out] at mf mk ⊢
  obtain ⟨⟨A1, n1, c1⟩, ⟨A2, n2, c2⟩, ⟨A3, n3, c3⟩, ⟨A4, n4, c4⟩, ⟨A5, n5, c5⟩⟩ := r
  obtain ⟨st, hst⟩ : ∃ st, Hid (st = R.steps) := ⟨_, Lib.hid rfl⟩
  unfold RwV.v Sl.v at mk ⊢
  simp only [] at mk ⊢
  rw [← hst.out] at mk ⊢
  have me1 := mf.e1
  clear h mf
  go_enter Tryd.func13, Tryd.ntmps13
  go_upto_region 1 with (fail)
  have r1 : Blk (((w.alloc (.cells #[.int .u8 (st : Int), .slice A1 n1 c1, .slice A2 n2 c2, .slice A3 n3 c3, .slice A4 n4 c4, .slice A5 n5 c5] 25)).alloc (.cells #[.slice none 0 0, .slice none 0 0, .slice none 0 0, .slice none 0 0, .slice none 0 0] 32)).alloc (.cells #[.slice none 0 0, .slice none 0 0, .slice none 0 0, .slice none 0 0, .slice none 0 0] 36)) w.heap.size 25 #[.int .u8 (st : Int), .slice A1 n1 c1, .slice A2 n2 c2, .slice A3 n3 c3, .slice A4 n4 c4, .slice A5 n5 c5] := ((Blk.mk' rfl).alloc _).alloc _
  have r2 : Blk (((w.alloc (.cells #[.int .u8 (st : Int), .slice A1 n1 c1, .slice A2 n2 c2, .slice A3 n3 c3, .slice A4 n4 c4, .slice A5 n5 c5] 25)).alloc (.cells #[.slice none 0 0, .slice none 0 0, .slice none 0 0, .slice none 0 0, .slice none 0 0] 32)).alloc (.cells #[.slice none 0 0, .slice none 0 0, .slice none 0 0, .slice none 0 0, .slice none 0 0] 36)) (w.heap.size + 1) 32 #[.slice none 0 0, .slice none 0 0, .slice none 0 0, .slice none 0 0, .slice none 0 0] := (Blk.mk' (by simp)).alloc _
  have r3 : Blk (((w.alloc (.cells #[.int .u8 (st : Int), .slice A1 n1 c1, .slice A2 n2 c2, .slice A3 n3 c3, .slice A4 n4 c4, .slice A5 n5 c5] 25)).alloc (.cells #[.slice none 0 0, .slice none 0 0, .slice none 0 0, .slice none 0 0, .slice none 0 0] 32)).alloc (.cells #[.slice none 0 0, .slice none 0 0, .slice none 0 0, .slice none 0 0, .slice none 0 0] 36)) (w.heap.size + 1 + 1) 36 #[.slice none 0 0, .slice none 0 0, .slice none 0 0, .slice none 0 0, .slice none 0 0] := Blk.mk' (by simp)
  have b1 : Below w.heap.size w (((w.alloc (.cells #[.int .u8 (st : Int), .slice A1 n1 c1, .slice A2 n2 c2, .slice A3 n3 c3, .slice A4 n4 c4, .slice A5 n5 c5] 25)).alloc (.cells #[.slice none 0 0, .slice none 0 0, .slice none 0 0, .slice none 0 0, .slice none 0 0] 32)).alloc (.cells #[.slice none 0 0, .slice none 0 0, .slice none 0 0, .slice none 0 0, .slice none 0 0] 36)) := bAl (bAl (bAl (Below.refl _ _) _) _) _
  generalize (((w.alloc (.cells #[.int .u8 (st : Int), .slice A1 n1 c1, .slice A2 n2 c2, .slice A3 n3 c3, .slice A4 n4 c4, .slice A5 n5 c5] 25)).alloc (.cells #[.slice none 0 0, .slice none 0 0, .slice none 0 0, .slice none 0 0, .slice none 0 0] 32)).alloc (.cells #[.slice none 0 0, .slice none 0 0, .slice none 0 0, .slice none 0 0, .slice none 0 0] 36)) = W1 at r1 r2 r3 b1 ⊢
  have x0 : W1.cell? ⟨w.heap.size, 0, none⟩ = some (.int .u8 (st : Int)) := (r1.cell 0).trans rfl
  have x1 : W1.cell? ⟨w.heap.size, 1, none⟩ = some (.slice A1 n1 c1) := (r1.cell 1).trans rfl
  have x2 : W1.cell? ⟨w.heap.size, 2, none⟩ = some (.slice A2 n2 c2) := (r1.cell 2).trans rfl
  have x3 : W1.cell? ⟨w.heap.size, 3, none⟩ = some (.slice A3 n3 c3) := (r1.cell 3).trans rfl
  have x4 : W1.cell? ⟨w.heap.size, 4, none⟩ = some (.slice A4 n4 c4) := (r1.cell 4).trans rfl
  have x5 : W1.cell? ⟨w.heap.size, 5, none⟩ = some (.slice A5 n5 c5) := (r1.cell 5).trans rfl
  go_wp2_with fail
  refine (mk W1 b1).mono ?_
  rintro e W2 ⟨⟨⟨B1, m1, d1⟩, ⟨B2, m2, d2⟩, ⟨B3, m3, d3⟩, ⟨B4, m4, d4⟩, ⟨B5, m5, d5⟩⟩, rfl, hO, bw2⟩
  have b2 := b1.trans (bw2.mono b1.size)
  have r2 := r2.on bw2
  have r3 := r3.on bw2
  have hO3 := hO.at
  simp only [PrV.v, Sl.v]
  clear x0 x1 x2 x3 x4 x5 r1 b1 bw2 mk hO
  go_upto_region 2 with (fail)
  have k4 := Blk.new W2 36 #[.slice B1 m1 d1, .slice B2 m2 d2, .slice B3 m3 d3, .slice B4 m4 d4, .slice B5 m5 d5]
  have bk := bAl (Below.refl W2.heap.size W2) (.cells #[.slice B1 m1 d1, .slice B2 m2 d2, .slice B3 m3 d3, .slice B4 m4 d4, .slice B5 m5 d5] 36)
  have l2 := r2.lt
  have l3 := r3.lt
  generalize (W2.alloc (.cells #[.slice B1 m1 d1, .slice B2 m2 d2, .slice B3 m3 d3, .slice B4 m4 d4, .slice B5 m5 d5] 36)) = W4 at k4 bk ⊢
  have b4 := b2.trans (bk.mono b2.size)
  have hO4 := hO3.on bk
  have r2 := r2.on bk
  have r3 := r3.on bk
  have hl1 := Lib.hid hO4.l1
  have l4 := k4.lt
  have hlw : w.heap.size ≤ W4.heap.size := b4.size
  clear hO3 bk b2
  have qq := (Below.refl W4.heap.size W4).drew
  have cpr := fun W (h1 : RPrAt W W.heap.size ⟨⟨B1, m1, d1⟩, ⟨B2, m2, d2⟩, ⟨B3, m3, d3⟩, ⟨B4, m4, d4⟩, ⟨B5, m5, d5⟩⟩ P) => prob_own ⟨⟨B1, m1, d1⟩, ⟨B2, m2, d2⟩, ⟨B3, m3, d3⟩, ⟨B4, m4, d4⟩, ⟨B5, m5, d5⟩⟩ P W h1
  have call := fun W (h1 : RPrAt W W.heap.size ⟨⟨B1, m1, d1⟩, ⟨B2, m2, d2⟩, ⟨B3, m3, d3⟩, ⟨B4, m4, d4⟩, ⟨B5, m5, d5⟩⟩ P) => all_any ⟨⟨B1, m1, d1⟩, ⟨B2, m2, d2⟩, ⟨B3, m3, d3⟩, ⟨B4, m4, d4⟩, ⟨B5, m5, d5⟩⟩ P W h1 me1
  unfold PrV.v Sl.v at cpr call
  simp only [] at cpr call
  have sC : ∀ W, Blk W W2.heap.size 36 #[.slice B1 m1 d1, .slice B2 m2 d2, .slice B3 m3 d3, .slice B4 m4 d4, .slice B5 m5 d5] → (W.cell? ⟨W2.heap.size, 0, none⟩ = some (.slice B1 m1 d1) ∧ W.cell? ⟨W2.heap.size, 1, none⟩ = some (.slice B2 m2 d2) ∧ W.cell? ⟨W2.heap.size, 2, none⟩ = some (.slice B3 m3 d3) ∧ W.cell? ⟨W2.heap.size, 3, none⟩ = some (.slice B4 m4 d4) ∧ W.cell? ⟨W2.heap.size, 4, none⟩ = some (.slice B5 m5 d5)) := fun W hW => ⟨(hW.cell 0).trans rfl, (hW.cell 1).trans rfl, (hW.cell 2).trans rfl, (hW.cell 3).trans rfl, (hW.cell 4).trans rfl⟩
  have ne2 : W2.heap.size ≠ w.heap.size + 1 := by omega
  have ne3 : W2.heap.size ≠ w.heap.size + 1 + 1 := by omega
  
  go_region_held3 (fun W => W.cell? ⟨W2.heap.size, 0, none⟩ = some (.slice B1 m1 d1) ∧ W.cell? ⟨W2.heap.size, 1, none⟩ = some (.slice B2 m2 d2) ∧ W.cell? ⟨W2.heap.size, 2, none⟩ = some (.slice B3 m3 d3) ∧ W.cell? ⟨W2.heap.size, 3, none⟩ = some (.slice B4 m4 d4) ∧ W.cell? ⟨W2.heap.size, 4, none⟩ = some (.slice B5 m5 d5))
    ((refine sC _ ?_; first | with_reducible exact k4.on qq | with_reducible exact k4.on q5 | with_reducible exact k4.on q6 | exact far5 (k4.on q6) ne2 | exact far5 (far5 (k4.on q6) ne2) ne3))
    (first
      | (go_at_call 31; with_reducible refine (cpr _ (hO4.on qq)).mono ?_; rintro e W5 ⟨⟨⟨E1, i1, j1⟩, ⟨E2, i2, j2⟩, ⟨E3, i3, j3⟩, ⟨E4, i4, j4⟩, ⟨E5, i5, j5⟩⟩, rfl, ⟨xs, ms, hq5⟩, hap5, bw5⟩; have q5 : Below W4.heap.size W4 W5 := qq.trans (bw5.mono qq.size); have s2 := r2.on q5; have s3 := r3.on q5; (try simp only []))
      | (go_at_call 37; with_reducible refine (call W5 (hO4.on q5)).mono ?_; rintro e W6 ⟨A6, n6, c6, rfl, hL6, hn6, bw6⟩; have q6 : Below W4.heap.size W4 W6 := q5.trans (bw6.mono q5.size); have t2 := s2.on bw6; have t3 := s3.on bw6; have t3a := t3; have y0 := (t2.cell 0).trans rfl; have y1 := (t2.cell 1).trans rfl; have y2 := (t2.cell 2).trans rfl; have y3 := (t2.cell 3).trans rfl; have y4 := (t2.cell 4).trans rfl; have f0 := t2.frozen 0; have f1 := t2.frozen 1; have f2 := t2.frozen 2; have f3 := t2.frozen 3; have f4 := t2.frozen 4; have z0 := (t3.cell 0).trans rfl; have z1 := (t3.cell 1).trans rfl; have z2 := (t3.cell 2).trans rfl; have z3 := (t3.cell 3).trans rfl; have z4 := (t3.cell 4).trans rfl; have g0 := t3.frozen 0; have g1 := t3.frozen 1; have g2 := t3.frozen 2; have g3 := t3.frozen 3; have g4 := t3.frozen 4))
  have t2a : Blk (set5 W6 (w.heap.size + 1) (.slice E1 i1 j1) (.slice E2 i2 j2) (.slice E3 i3 j3) (.slice E4 i4 j4) (.slice E5 i5 j5)) (w.heap.size + 1) 32 #[.slice E1 i1 j1, .slice E2 i2 j2, .slice E3 i3 j3, .slice E4 i4 j4, .slice E5 i5 j5] := blk5 t2
  have t3b : Blk (set5 W6 (w.heap.size + 1) (.slice E1 i1 j1) (.slice E2 i2 j2) (.slice E3 i3 j3) (.slice E4 i4 j4) (.slice E5 i5 j5)) (w.heap.size + 1 + 1) 36 #[.slice none 0 0, .slice none 0 0, .slice none 0 0, .slice none 0 0, .slice none 0 0] := far5 t3a (by omega)
  have u2 : Blk (set5 (set5 W6 (w.heap.size + 1) (.slice E1 i1 j1) (.slice E2 i2 j2) (.slice E3 i3 j3) (.slice E4 i4 j4) (.slice E5 i5 j5)) (w.heap.size + 1 + 1) (.slice B1 m1 d1) (.slice B2 m2 d2) (.slice B3 m3 d3) (.slice B4 m4 d4) (.slice B5 m5 d5)) (w.heap.size + 1) 32 #[.slice E1 i1 j1, .slice E2 i2 j2, .slice E3 i3 j3, .slice E4 i4 j4, .slice E5 i5 j5] := far5 t2a (by omega)
  have u3 : Blk (set5 (set5 W6 (w.heap.size + 1) (.slice E1 i1 j1) (.slice E2 i2 j2) (.slice E3 i3 j3) (.slice E4 i4 j4) (.slice E5 i5 j5)) (w.heap.size + 1 + 1) (.slice B1 m1 d1) (.slice B2 m2 d2) (.slice B3 m3 d3) (.slice B4 m4 d4) (.slice B5 m5 d5)) (w.heap.size + 1 + 1) 36 #[.slice B1 m1 d1, .slice B2 m2 d2, .slice B3 m3 d3, .slice B4 m4 d4, .slice B5 m5 d5] := blk5 t3b
  have hz5 : w.heap.size ≤ W5.heap.size := Nat.le_trans hlw q5.size
  have oq := (((hq5.on bw6).less (by simpa using hlw)).put5 t2 (by decide) (a := .slice E1 i1 j1) (b := .slice E2 i2 j2) (c := .slice E3 i3 j3) (d := .slice E4 i4 j4) (e := .slice E5 i5 j5)).put5 t3b (by decide) (a := .slice B1 m1 d1) (b := .slice B2 m2 d2) (c := .slice B3 m3 d3) (d := .slice B4 m4 d4) (e := .slice B5 m5 d5)
  have oL := ((hL6.less hz5).put5 t2 (by decide) (a := .slice E1 i1 j1) (b := .slice E2 i2 j2) (c := .slice E3 i3 j3) (d := .slice E4 i4 j4) (e := .slice E5 i5 j5)).put5 t3b (by decide) (a := .slice B1 m1 d1) (b := .slice B2 m2 d2) (c := .slice B3 m3 d3) (d := .slice B4 m4 d4) (e := .slice B5 m5 d5)
  have bb := bset5 (bset5 (b4.trans (q6.mono hlw)) (show w.heap.size ≤ w.heap.size + 1 by omega) (a := .slice E1 i1 j1) (b := .slice E2 i2 j2) (c := .slice E3 i3 j3) (d := .slice E4 i4 j4) (e := .slice E5 i5 j5)) (show w.heap.size ≤ w.heap.size + 1 + 1 by omega) (a := .slice B1 m1 d1) (b := .slice B2 m2 d2) (c := .slice B3 m3 d3) (d := .slice B4 m4 d4) (e := .slice B5 m5 d5)
  go_wp2_with fail
  refine bodyPost_ret (results_cct rfl _ _ (w.heap.size + 1) (w.heap.size + 1 + 1) 32 36 _ _ _ _ _ _ rfl u2 Tryd.underlying32 rfl (by kernel_rfl) rfl u3 Tryd.underlying36 rfl (by kernel_rfl)) rfl ?_
  exact ⟨⟨⟨E1, i1, j1⟩, ⟨E2, i2, j2⟩, ⟨E3, i3, j3⟩, ⟨E4, i4, j4⟩, ⟨E5, i5, j5⟩⟩, ⟨⟨B1, m1, d1⟩, ⟨B2, m2, d2⟩, ⟨B3, m3, d3⟩, ⟨B4, m4, d4⟩, ⟨B5, m5, d5⟩⟩, A6, n6, c6, rfl, ⟨xs, ms, oq⟩, hap5, hl1.out.symm, oL, hn6, bb⟩
theorem made_any (r : RwV) (R : Rw) (w : World) (h : RwAt w w.heap.size r R) :
    Calls Tryd.prog 13 #[r.v R] w fun e w' => ∃ q p A n c, e = .returned (.tuple #[PrV.v q, PrV.v p, .slice A n c]) ∧ (∃ xs ms, OwnQ w' w.heap.size q (mkP R) xs ms) ∧ p.s1.n = (mkP R).elig.length ∧ OwnLL w' w.heap.size (.slice A n c) n (allL (mkP R)) ∧ n ≤ 10000 ∧ Below w.heap.size w w' :=
  (made_ap r R w h).mono fun e w' ⟨q, p, A, n, c, he, h1, _, h2⟩ => ⟨q, p, A, n, c, he, h1, h2⟩
end Go.Proofs.YtfnhaoindehjdaaDoor
