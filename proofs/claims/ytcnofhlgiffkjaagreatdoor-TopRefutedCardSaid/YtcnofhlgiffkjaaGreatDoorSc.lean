/- A pack of texts: StS, StN, StR. -/
import Derived.Test.YtcnofhlgiffkjaaGreatDoorSb
import Derived.Test.YtcnofhlgiffkjaaGreatDoorSa
/- Solve. -/
namespace Go.Proofs.YtcnofhlgiffkjaaGreatDoor
open Go.RowKit
set_option linter.unusedVariables false
set_option linter.unusedSimpArgs false

/-- What Solve's closure has captured. -/
def EIS (g1 g2 g3 N : Nat) (s : Option (List Int)) (w : World) : Prop :=
  ∃ v b, Blk w g1 30 #[v] ∧ Blk w g2 4 #[.bool b] ∧ Blk w g3 41 #[.slice none 0 0] ∧ (s = none → v = .slice none 0 0 ∧ b = false) ∧ (∀ l, s = some l → b = true ∧ ∃ A n c, v = .slice A n c ∧ OwnI w N (.slice A n c) n l)
theorem callerS {g1 g2 g3 B N g gs : Nat} (h1B : B ≤ g1) (h1N : g1 < N) (h2B : B ≤ g2) (h2N : g2 < N) (h1g : g1 ≠ g) (h1s : g1 ≠ gs) (h2g : g2 ≠ g) (h2s : g2 ≠ gs) (h3N : g3 < N) (h3g : g3 ≠ g) (h3s : g3 ≠ gs) :
    CallerOk (fun s => s = none) (EIS g1 g2 g3 N) eachS 27 g1 g2 B N g gs where
  keep s w w' hs hE hk := by
    obtain ⟨v, b, k1, k2, k3, e1, e2⟩ := hE
    have n1 : ∀ cs, ¬ Blk w g1 95 cs := fun cs h => (Blk.apart k1 h (by decide)) rfl
    have n2 : ∀ cs, ¬ Blk w g2 95 cs := fun cs h => (Blk.apart k2 h (by decide)) rfl
    have n3 : ∀ cs, ¬ Blk w g3 95 cs := fun cs h => (Blk.apart k3 h (by decide)) rfl
    exact ⟨v, b, (hk.same g1 k1.lt h1N h1g h1s n1).trans k1, (hk.same g2 k2.lt h2N h2g h2s n2).trans k2, (hk.same g3 k3.lt h3N h3g h3s n3).trans k3, e1, fun l e => by rw [hs] at e; cases e⟩
  ent := enters_of Tryz.func27 (by kernel_rfl) rfl
  alive s l h := by cases h
  call s w A n c l hs hE hN ho hn := by
    obtain ⟨v, b, k1, k2, k3, e1, e2⟩ := hE
    refine (each1_any A n c g1 g2 v b w k1 k2).mono ?_
    rintro e w' ⟨rfl, rfl⟩
    have hne : g1 ≠ g2 := k1.apart k2 (by decide)
    have n1 : ∀ cs, ¬ Blk w g1 95 cs := fun cs h => (Blk.apart k1 h (by decide)) rfl
    have n2 : ∀ cs, ¬ Blk w g2 95 cs := fun cs h => (Blk.apart k2 h (by decide)) rfl
    have keep : ∀ k, k ≠ g1 → k ≠ g2 → ((w.setCell ⟨g1, 0, none⟩ (.slice A n c)).setCell ⟨g2, 0, none⟩ (.bool true)).heap[k]? = w.heap[k]? := fun k q1 q2 => by
      rw [Below.heap_setCell _ _ _ k q2, Below.heap_setCell _ _ _ k q1]
    refine ⟨rfl, ⟨.slice A n c, true, ?_, ?_, (keep g3 (Ne.symm (k1.apart k3 (by decide))) (Ne.symm (k2.apart k3 (by decide)))).trans k3, (fun e => by cases e), fun l' e => ?_⟩, ⟨rfl, rfl, rfl, by simp, fun k hk hh => keep k ?_ ?_⟩⟩
    · exact (by simpa using k1.put 0 (.slice A n c) : Blk (w.setCell ⟨g1, 0, none⟩ (.slice A n c)) g1 _ #[.slice A n c]).far (p := ⟨g2, 0, none⟩) hne _
    · simpa using (k2.far (p := ⟨g1, 0, none⟩) (Ne.symm hne) (.slice A n c)).put 0 (.bool true)
    · injection e with e
      subst e
      refine ⟨rfl, A, n, c, rfl, ho.same fun k hk => keep k ?_ ?_⟩
      · have := (ho.lt k hk).1; omega
      · have := (ho.lt k hk).1; omega
    · intro e
      rw [e] at hh
      rcases hh with h | h | h | h | ⟨cs, h⟩
      · omega
      · omega
      · exact h1g h
      · exact h1s h
      · exact n1 cs h
    · intro e
      rw [e] at hh
      rcases hh with h | h | h | h | ⟨cs, h⟩
      · omega
      · omega
      · exact h2g h
      · exact h2s h
      · exact n2 cs h
/-- What Solve gives. -/
def solveR (P : Pr) (limit : Int) : Option (List Int) × List Nd × Int :=
  if chkP P ≠ 0 then (none, [], chkP P) else if limit < 0 then (none, [], 1) else
    match (visitF P limit.toNat eachS P.fix.length P.fix 0 ⟨[nd0], 0, none⟩).2.s with
    | some l => (some l, [], 0)
    | none => if fullB limit.toNat (visitF P limit.toNat eachS P.fix.length P.fix 0 ⟨[nd0], 0, none⟩).2.looked = true then (none, [], 3) else (none, (visitF P limit.toNat eachS P.fix.length P.fix 0 ⟨[nd0], 0, none⟩).2.nds, 0)
def SolvePost (r : Option (List Int) × List Nd × Int) (w : World) (e : Ending) (w' : World) : Prop :=
  ∃ A n c An nn cn, e = .returned (.tuple #[.slice A n c, .agg #[.slice An nn cn], .bool r.1.isSome, .int .i64 r.2.2]) ∧ OwnI w' w.heap.size (.slice A n c) n (r.1.getD []) ∧
    (∃ ys : List NdS, ys.map (·.x) = r.2.1 ∧ OwnNs .u8 95 w' w.heap.size (.slice An nn cn) nn ys) ∧ Below w.heap.size w w'
theorem loadOne {P : Program} {w : World} {g : Nat} {t : TypeId} {v : Value} (hag : (isAgg t).run P w = .ok false w) (hb : Blk w g t #[v]) : (loadVar t ⟨g, 0, none⟩).run P w = .ok v w := by
  have hc : w.cell? ⟨g, 0, none⟩ = some v := (hb.cell 0).trans rfl
  simp [loadVar, hag, hc, go_sem]
theorem ret_solve {fn : Func} {R : Ending → World → Prop} {a : Act} {w : World} {p1 p2 p3 q : Tmp} (h : fn.results = #[.cell p1 30, .cell p2 41, .cell p3 4, .tmp q]) (g1 g3 g2 : Nat) (v u : Value) (b : Bool) (x : Value)
    (hp1 : a.tmps.getD p1 undef = .pointer (some ⟨g1, 0, none⟩)) (hp2 : a.tmps.getD p2 undef = .pointer (some ⟨g3, 0, none⟩)) (hp3 : a.tmps.getD p3 undef = .pointer (some ⟨g2, 0, none⟩)) (hx : a.tmps.getD q undef = x)
    (k1 : Blk w g1 30 #[v]) (k3 : Blk w g3 41 #[u]) (k2 : Blk w g2 4 #[.bool b]) (hd : a.defers = []) (hR : R (.returned (.tuple #[v, .agg #[u], .bool b, x])) w) : bodyPost Tryz.prog fn R .ret a w := by
  refine bodyPost_ret (v := .tuple #[v, .agg #[u], .bool b, x]) ?_ hd hR
  have l1 := loadOne (P := Tryz.prog) (Tryz.isAgg30 _) k1
  have l2 := run_loadVar_row w g3 _ 41 #[u] (0, 0) _ k3 Tryz.underlying41 rfl (by kernel_rfl)
  have l3 := loadOne (P := Tryz.prog) (Tryz.isAgg4 _) k2
  have hp1' : a.tmps[p1]?.getD undef = .pointer (some ⟨g1, 0, none⟩) := by simpa using hp1
  have hp2' : a.tmps[p2]?.getD undef = .pointer (some ⟨g3, 0, none⟩) := by simpa using hp2
  have hp3' : a.tmps[p3]?.getD undef = .pointer (some ⟨g2, 0, none⟩) := by simpa using hp3
  have hx' : a.tmps[q]?.getD undef = x := by simpa using hx
  simp [results, h, hp1', hp2', hp3', hx', asAddr, l1, l2, l3, Result.andThen]
theorem three_put {W : World} {g1 g3 g2 : Nat} {a1 a3 a2 : Value} (k1 : Blk W g1 30 #[a1]) (k3 : Blk W g3 41 #[a3]) (k2 : Blk W g2 4 #[a2]) (v u b : Value) :
    Blk (((W.setCell ⟨g1, 0, none⟩ v).setCell ⟨g3, 0, none⟩ u).setCell ⟨g2, 0, none⟩ b).drew g1 30 #[v] ∧ Blk (((W.setCell ⟨g1, 0, none⟩ v).setCell ⟨g3, 0, none⟩ u).setCell ⟨g2, 0, none⟩ b).drew g3 41 #[u] ∧ Blk (((W.setCell ⟨g1, 0, none⟩ v).setCell ⟨g3, 0, none⟩ u).setCell ⟨g2, 0, none⟩ b).drew g2 4 #[b] := by
  have n13 : g1 ≠ g3 := k1.apart k3 (by decide)
  have n12 : g1 ≠ g2 := k1.apart k2 (by decide)
  have n32 : g3 ≠ g2 := k3.apart k2 (by decide)
  have p1 : Blk (W.setCell ⟨g1, 0, none⟩ v) g1 30 #[v] := by simpa using k1.put 0 v
  have p3 : Blk ((W.setCell ⟨g1, 0, none⟩ v).setCell ⟨g3, 0, none⟩ u) g3 41 #[u] := by simpa using (k3.far (p := ⟨g1, 0, none⟩) (Ne.symm n13) v).put 0 u
  have p2 : Blk (((W.setCell ⟨g1, 0, none⟩ v).setCell ⟨g3, 0, none⟩ u).setCell ⟨g2, 0, none⟩ b) g2 4 #[b] := by simpa using ((k2.far (p := ⟨g1, 0, none⟩) (Ne.symm n12) v).far (p := ⟨g3, 0, none⟩) (Ne.symm n32) u).put 0 b
  exact ⟨(p1.far (p := ⟨g3, 0, none⟩) n13 u).far (p := ⟨g2, 0, none⟩) n12 b, p3.far (p := ⟨g2, 0, none⟩) n32 b, p2⟩
theorem three_keep (W : World) {g1 g3 g2 k : Nat} (h1 : k ≠ g1) (h3 : k ≠ g3) (h2 : k ≠ g2) (v u b : Value) : (((W.setCell ⟨g1, 0, none⟩ v).setCell ⟨g3, 0, none⟩ u).setCell ⟨g2, 0, none⟩ b).drew.heap[k]? = W.heap[k]? := by
  show (((W.setCell ⟨g1, 0, none⟩ v).setCell ⟨g3, 0, none⟩ u).setCell ⟨g2, 0, none⟩ b).heap[k]? = W.heap[k]?
  rw [Below.heap_setCell _ _ _ k h2, Below.heap_setCell _ _ _ k h3, Below.heap_setCell _ _ _ k h1]
theorem three_below {W w : World} {B g1 g3 g2 : Nat} (h : Below B w W) (h1 : B ≤ g1) (h3 : B ≤ g3) (h2 : B ≤ g2) (v u b : Value) : Below B w (((W.setCell ⟨g1, 0, none⟩ v).setCell ⟨g3, 0, none⟩ u).setCell ⟨g2, 0, none⟩ b).drew :=
  (((h.setCell (p := ⟨g1, 0, none⟩) h1 _).setCell (p := ⟨g3, 0, none⟩) h3 _).setCell (p := ⟨g2, 0, none⟩) h2 _).drew
set_option maxHeartbeats 8000000 in
set_option maxRecDepth 100000 in
/-- Solve. -/
theorem solve_any (p : PrV) (P : Pr) (limit : Int) (w : World) (h : PrAt w w.heap.size p P) (hT : Tab w) (hs : chkP P = 0 → P.elig.length ≤ 5 ∧ ∀ z : Nat, (memZ (eligA P z)).length ≤ 6) :
    Calls Tryz.prog 7 #[p.v, .int .i64 limit] w (SolvePost (solveR P limit) w) := by
  have hg0 : 0 < w.heap.size := World.block_lt_of_cell? w _ (hT 0 (by omega))
  have hck := fun (W : World) (hW : Below w.heap.size w W) => chkP_any p P W ((h.below hW).more hW.size)
  have hbeg := fun (W : World) (hW : Below w.heap.size w W) (hl : 0 ≤ limit) (hf : 0 < P.fix.length) => begin_any p P limit.toNat 27 (w.heap.size + 1) (w.heap.size + 1 + 1 + 1) W ((h.below hW).more hW.size) hf
  have H := Lib.hid h
  obtain ⟨p0, hp0⟩ : ∃ p0, Hid (p0 = p) := ⟨_, Lib.hid rfl⟩
  obtain ⟨⟨A1, n1, c1⟩, ⟨A2, n2, c2⟩, ⟨A3, n3, c3⟩, ⟨A4, n4, c4⟩, ⟨A5, n5, c5⟩⟩ := p
  unfold PrV.v Sl.v at hck ⊢
  simp only [] at hck ⊢
  have k0 := ((((Blk.new w 37 #[.slice A1 n1 c1, .slice A2 n2 c2, .slice A3 n3 c3, .slice A4 n4 c4, .slice A5 n5 c5]).alloc (.cells #[.slice none 0 0] 30)).alloc (.cells #[.slice none 0 0] 41)).alloc (.cells #[.bool false] 4))
  have k1 := (((Blk.mk' (g := w.heap.size + 1) (w := w.alloc (.cells #[.slice A1 n1 c1, .slice A2 n2 c2, .slice A3 n3 c3, .slice A4 n4 c4, .slice A5 n5 c5] 37)) (t := 30) (cs := #[.slice none 0 0]) (by simp)).alloc (.cells #[.slice none 0 0] 41)).alloc (.cells #[.bool false] 4))
  have k3 := ((Blk.mk' (g := w.heap.size + 1 + 1) (w := (w.alloc (.cells #[.slice A1 n1 c1, .slice A2 n2 c2, .slice A3 n3 c3, .slice A4 n4 c4, .slice A5 n5 c5] 37)).alloc (.cells #[.slice none 0 0] 30)) (t := 41) (cs := #[.slice none 0 0]) (by simp)).alloc (.cells #[.bool false] 4))
  have k2 := (Blk.mk' (g := w.heap.size + 1 + 1 + 1) (w := ((w.alloc (.cells #[.slice A1 n1 c1, .slice A2 n2 c2, .slice A3 n3 c3, .slice A4 n4 c4, .slice A5 n5 c5] 37)).alloc (.cells #[.slice none 0 0] 30)).alloc (.cells #[.slice none 0 0] 41)) (t := 4) (cs := #[.bool false]) (by simp))
  have b0 := bAl (bAl (bAl (bAl (Below.refl w.heap.size w) (.cells #[.slice A1 n1 c1, .slice A2 n2 c2, .slice A3 n3 c3, .slice A4 n4 c4, .slice A5 n5 c5] 37)) (.cells #[.slice none 0 0] 30)) (.cells #[.slice none 0 0] 41)) (.cells #[.bool false] 4)
  by_cases hc : chkP P = 0
  · have hcb : (chkP P != 0) = false := by simpa using hc
    obtain ⟨s5, s6⟩ := hs hc
    have ok := chkP_ok hc
    rw [hc] at hck
    by_cases hl : limit < 0
    · have e : solveR P limit = (none, [], 1) := by unfold solveR; rw [if_neg (by simpa using hc), if_pos hl]
      rw [e]
      clear hbeg hs e hcb hc ok
      go_enter Tryz.func7, Tryz.ntmps7
      go_wp2_with fail
      generalize ((((w.alloc (.cells #[.slice A1 n1 c1, .slice A2 n2 c2, .slice A3 n3 c3, .slice A4 n4 c4, .slice A5 n5 c5] 37)).alloc (.cells #[.slice none 0 0] 30)).alloc (.cells #[.slice none 0 0] 41)).alloc (.cells #[.bool false] 4)) = W1 at k0 k1 k3 k2 b0 ⊢
      refine (hck W1 b0).mono ?_
      rintro e W2 ⟨rfl, bb⟩
      have b1 := b0.trans (bb.mono b0.size)
      have k0 := k0.on bb
      have k1 := k1.on bb
      have k2 := k2.on bb
      have k3 := k3.on bb
      have y1 := (k1.cell 0).trans rfl
      have y2 := (k2.cell 0).trans rfl
      have y3 := (k3.cell 0).trans rfl
      have f1 := k1.frozen 0
      have f2 := k2.frozen 0
      have f3 := k3.frozen 0
      simp at y1 y2 y3
      clear bb hck
      go_wp2_with fail
      go_region
      go_wp2_with fail
      obtain ⟨q1, q3, q2⟩ := three_put k1 k3 k2 (.slice none 0 0) (.slice none 0 0) (.bool false)
      exact ret_solve rfl _ _ _ _ _ _ _ rfl rfl rfl rfl q1 q3 q2 rfl ⟨none, 0, 0, none, 0, 0, rfl, OwnI.nil _ _, ⟨[], rfl, OwnNs.nil _ _ _ _⟩, three_below b1 (by omega) (by omega) (by omega) _ _ _⟩
    · obtain ⟨lim, rfl⟩ : ∃ n : Nat, limit = (n : Int) := ⟨limit.toNat, by omega⟩
      have e : solveR P (lim : Int) = (match (visitF P lim eachS P.fix.length P.fix 0 ⟨[nd0], 0, none⟩).2.s with
        | some l => (some l, [], 0)
        | none => if fullB lim (visitF P lim eachS P.fix.length P.fix 0 ⟨[nd0], 0, none⟩).2.looked = true then (none, [], 3) else (none, (visitF P lim eachS P.fix.length P.fix 0 ⟨[nd0], 0, none⟩).2.nds, 0)) := by
        unfold solveR; rw [if_neg (by simpa using hc), if_neg hl]; rfl
      rw [e]
      rw [Int.toNat_natCast] at hbeg
      have hl' : ¬ (lim : Int) < 0 := hl
      have hl2 : (0 : Int) ≤ (lim : Int) := by omega
      have hfx := ok.fixl
      have hne := ok.n0
      have hvis := fun N g gs cS (h1N : w.heap.size + 1 < N) (h2N : w.heap.size + 1 + 1 + 1 < N) (h3N : w.heap.size + 1 + 1 < N) h1 h2 h3 h4 h5 h6 => visit_any (p := p0) (limit := lim) (cS := cS) (callerS (B := w.heap.size) (N := N) (g := g) (gs := gs) (g1 := w.heap.size + 1) (g2 := w.heap.size + 1 + 1 + 1) (g3 := w.heap.size + 1 + 1) (by omega) h1N (by omega) h2N h1 h2 h3 h4 h3N h5 h6) hc 6 s6 P.fix.length P.fix (openN_le _) hfx
      have hbv : bV 6 P.fix.length ≤ 55986 := (by decide : ∀ n, n ≤ 5 → bV 6 n ≤ 55986) _ (by omega)
      have hbg := fun W hW => hbeg W hW hl2 (by omega)
      unfold PrV.v Sl.v at hbg
      simp only [] at hbg
      have Hvis := Lib.hid hvis
      have Hbv := Lib.hid hbv
      obtain ⟨r, hr⟩ : ∃ r, Hid (r = visitF P lim eachS P.fix.length P.fix 0 ⟨[nd0], 0, none⟩) := ⟨_, Lib.hid rfl⟩
      rw [← hr.out]
      have hT3 := Lib.hid hT
      clear hvis hbv hbeg hs e hcb hc ok hne hfx s6 s5 h hT
      cases hrs : r.2.s with
      | some l =>
        simp only []
        have Hrs := Lib.hid hrs
        clear hrs
        go_enter Tryz.func7, Tryz.ntmps7
        go_wp2_with fail
        generalize ((((w.alloc (.cells #[.slice A1 n1 c1, .slice A2 n2 c2, .slice A3 n3 c3, .slice A4 n4 c4, .slice A5 n5 c5] 37)).alloc (.cells #[.slice none 0 0] 30)).alloc (.cells #[.slice none 0 0] 41)).alloc (.cells #[.bool false] 4)) = W1 at k0 k1 k3 k2 b0 ⊢
        refine (hck W1 b0).mono ?_
        rintro e W2 ⟨rfl, bb⟩
        have b1 := b0.trans (bb.mono b0.size)
        have k0 := k0.on bb
        have k1 := k1.on bb
        have k2 := k2.on bb
        have k3 := k3.on bb
        clear bb hck
        have x0 : W2.cell? ⟨w.heap.size, 0, none⟩ = some (.slice A1 n1 c1) := (k0.cell 0).trans rfl
        have x1 : W2.cell? ⟨w.heap.size, 1, none⟩ = some (.slice A2 n2 c2) := (k0.cell 1).trans rfl
        have x2 : W2.cell? ⟨w.heap.size, 2, none⟩ = some (.slice A3 n3 c3) := (k0.cell 2).trans rfl
        have x3 : W2.cell? ⟨w.heap.size, 3, none⟩ = some (.slice A4 n4 c4) := (k0.cell 3).trans rfl
        have x4 : W2.cell? ⟨w.heap.size, 4, none⟩ = some (.slice A5 n5 c5) := (k0.cell 4).trans rfl
        have hlb : decide ((lim : Int) < 0) = false := by simp
        go_wp2_with fail
        clear x0 x1 x2 x3 x4 k0 hlb
        have hb6 := hbg W2 b1
        refine hb6.mono ?_
        rintro e W3 ⟨g, gs, cS, sl, rfl, hB⟩
        have b3 := b1.trans (hB.low.mono b1.size)
        have lt1 := k1.lt
        have lt2 := k2.lt
        have lt3 := k3.lt
        have k1 := k1.on hB.low
        have k2 := k2.on hB.low
        have k3 := k3.on hB.low
        have hgB := hB.gB
        have hrowB : ∀ k, sl.v.ownBlock = some k → W2.heap.size ≤ k := fun k hk => (hB.row.lt k hk).1
        have hgN := hB.blk.lt
        have hgs := hB.stf.lt gs rfl
        have hne9 : g ≠ gs := by
          obtain ⟨cs, hb9, _⟩ := own_type hB.stf rfl
          exact hB.blk.apart hb9 (by decide)
        have hS : Sch (EIS (w.heap.size + 1) (w.heap.size + 1 + 1 + 1) (w.heap.size + 1 + 1) W3.heap.size) p0 P lim (.func (.func 27) #[] #[.pointer (some ⟨w.heap.size + 1, 0, none⟩), .pointer (some ⟨w.heap.size + 1 + 1 + 1, 0, none⟩)]) w.heap.size W3.heap.size g gs cS W3 P.fix sl [nd0S] ⟨[nd0], 0, none⟩ := by
          rw [hp0.out]
          refine ⟨hB.blk, OwnI.more hB.stf b1.size, ?_, fun y hy => ?_, rfl, H.out.below b3, ⟨_, _, k1, k2, k3, fun _ => ⟨rfl, rfl⟩, fun l e => by cases e⟩, Nat.le_refl _, Nat.le_trans b1.size hgB, hgN, Nat.le_trans b1.size hgs.1, hgs.2, hne9, hT3.out.below b3 hg0, hg0⟩
          · have := own_less hB.row b1.size
            simpa using this
          · obtain rfl : y = nd0S := by simpa using hy
            exact ⟨by decide, OwnI.nil _ _, OwnI.nil _ _, by decide, by decide⟩
        have hv := Hvis.out W3.heap.size g gs cS (by omega) (by omega) (by omega) (by omega) (by omega) (by omega) (by omega) (by omega) (by omega) 0 ⟨[nd0], 0, none⟩ W3 sl [nd0S] (by simp) (by have := Hbv.out; simp; omega) (by have := Hbv.out; simp; omega) rfl hS
        rw [← hr.out] at hv
        clear hS Hvis hB k1 k2 k3 hb6 hbg hr
        go_wp2_with fail
        refine hv.mono ?_
        rintro e W4 ⟨rfl, st', ⟨slA, sln, slc⟩, ys', hS, -, hM, -⟩
        have hlow : Below w.heap.size w W4 := b3.trans (hM.low (by omega) (fun k hk => Nat.le_trans b1.size (hrowB k hk)))
        obtain ⟨v, bb, k1, k2, k3, en, es⟩ := hS.ei
        have hfull := full_any g lim r.2.looked W4 ((hS.blk.cell 7).trans rfl) ((hS.blk.cell 8).trans rfl)
        have y3 := (k3.cell 0).trans rfl
        have f1 := k1.frozen 0
        have f2 := k2.frozen 0
        have f3 := k3.frozen 0
        have y1 : W4.cell? ⟨w.heap.size + 1, 0, none⟩ = some v := (k1.cell 0).trans rfl
        have y2 : W4.cell? ⟨w.heap.size + 1 + 1 + 1, 0, none⟩ = some (.bool bb) := (k2.cell 0).trans rfl
        simp at y3
        have hn9 : ys'.length = sln := hS.len
        obtain ⟨rfl, A, n, c, rfl, ho⟩ := es l Hrs.out
        clear en es hfull
        go_wp2_with fail
        go_region
        all_goals (go_wp2_with fail)
        all_goals (
          obtain ⟨q1, q3, q2⟩ := three_put k1 k3 k2 (.slice A n c) (.slice none 0 0) (.bool true)
          have b9 := three_below hlow (g1 := w.heap.size + 1) (g3 := w.heap.size + 1 + 1) (g2 := w.heap.size + 1 + 1 + 1) (by omega) (by omega) (by omega) (.slice A n c) (.slice none 0 0) (.bool true)
          refine ret_solve rfl _ _ _ _ _ _ _ rfl rfl rfl rfl q1 q3 q2 rfl ⟨A, n, c, none, 0, 0, rfl, ?_, ⟨[], rfl, OwnNs.nil _ _ _ _⟩, b9⟩
          exact OwnI.more (OwnI.same ho fun k hk => three_keep W4 (by have := (ho.lt k hk).1; omega) (by have := (ho.lt k hk).1; omega) (by have := (ho.lt k hk).1; omega) _ _ _) (by omega))
      | none =>
        simp only []
        have Hrs := Lib.hid hrs
        clear hrs
        by_cases hfu : fullB lim r.2.looked = true
        · rw [if_pos hfu]
          have Hfu := Lib.hid hfu
          clear hfu
          go_enter Tryz.func7, Tryz.ntmps7
          go_wp2_with fail
          generalize ((((w.alloc (.cells #[.slice A1 n1 c1, .slice A2 n2 c2, .slice A3 n3 c3, .slice A4 n4 c4, .slice A5 n5 c5] 37)).alloc (.cells #[.slice none 0 0] 30)).alloc (.cells #[.slice none 0 0] 41)).alloc (.cells #[.bool false] 4)) = W1 at k0 k1 k3 k2 b0 ⊢
          refine (hck W1 b0).mono ?_
          rintro e W2 ⟨rfl, bb⟩
          have b1 := b0.trans (bb.mono b0.size)
          have k0 := k0.on bb
          have k1 := k1.on bb
          have k2 := k2.on bb
          have k3 := k3.on bb
          clear bb hck
          have x0 : W2.cell? ⟨w.heap.size, 0, none⟩ = some (.slice A1 n1 c1) := (k0.cell 0).trans rfl
          have x1 : W2.cell? ⟨w.heap.size, 1, none⟩ = some (.slice A2 n2 c2) := (k0.cell 1).trans rfl
          have x2 : W2.cell? ⟨w.heap.size, 2, none⟩ = some (.slice A3 n3 c3) := (k0.cell 2).trans rfl
          have x3 : W2.cell? ⟨w.heap.size, 3, none⟩ = some (.slice A4 n4 c4) := (k0.cell 3).trans rfl
          have x4 : W2.cell? ⟨w.heap.size, 4, none⟩ = some (.slice A5 n5 c5) := (k0.cell 4).trans rfl
          have hlb : decide ((lim : Int) < 0) = false := by simp
          go_wp2_with fail
          clear x0 x1 x2 x3 x4 k0 hlb
          have hb6 := hbg W2 b1
          refine hb6.mono ?_
          rintro e W3 ⟨g, gs, cS, sl, rfl, hB⟩
          have b3 := b1.trans (hB.low.mono b1.size)
          have lt1 := k1.lt
          have lt2 := k2.lt
          have lt3 := k3.lt
          have k1 := k1.on hB.low
          have k2 := k2.on hB.low
          have k3 := k3.on hB.low
          have hgB := hB.gB
          have hrowB : ∀ k, sl.v.ownBlock = some k → W2.heap.size ≤ k := fun k hk => (hB.row.lt k hk).1
          have hgN := hB.blk.lt
          have hgs := hB.stf.lt gs rfl
          have hne9 : g ≠ gs := by
            obtain ⟨cs, hb9, _⟩ := own_type hB.stf rfl
            exact hB.blk.apart hb9 (by decide)
          have hS : Sch (EIS (w.heap.size + 1) (w.heap.size + 1 + 1 + 1) (w.heap.size + 1 + 1) W3.heap.size) p0 P lim (.func (.func 27) #[] #[.pointer (some ⟨w.heap.size + 1, 0, none⟩), .pointer (some ⟨w.heap.size + 1 + 1 + 1, 0, none⟩)]) w.heap.size W3.heap.size g gs cS W3 P.fix sl [nd0S] ⟨[nd0], 0, none⟩ := by
            rw [hp0.out]
            refine ⟨hB.blk, OwnI.more hB.stf b1.size, ?_, fun y hy => ?_, rfl, H.out.below b3, ⟨_, _, k1, k2, k3, fun _ => ⟨rfl, rfl⟩, fun l e => by cases e⟩, Nat.le_refl _, Nat.le_trans b1.size hgB, hgN, Nat.le_trans b1.size hgs.1, hgs.2, hne9, hT3.out.below b3 hg0, hg0⟩
            · have := own_less hB.row b1.size
              simpa using this
            · obtain rfl : y = nd0S := by simpa using hy
              exact ⟨by decide, OwnI.nil _ _, OwnI.nil _ _, by decide, by decide⟩
          have hv := Hvis.out W3.heap.size g gs cS (by omega) (by omega) (by omega) (by omega) (by omega) (by omega) (by omega) (by omega) (by omega) 0 ⟨[nd0], 0, none⟩ W3 sl [nd0S] (by simp) (by have := Hbv.out; simp; omega) (by have := Hbv.out; simp; omega) rfl hS
          rw [← hr.out] at hv
          clear hS Hvis hB k1 k2 k3 hb6 hbg hr
          go_wp2_with fail
          refine hv.mono ?_
          rintro e W4 ⟨rfl, st', ⟨slA, sln, slc⟩, ys', hS, -, hM, -⟩
          have hlow : Below w.heap.size w W4 := b3.trans (hM.low (by omega) (fun k hk => Nat.le_trans b1.size (hrowB k hk)))
          obtain ⟨v, bb, k1, k2, k3, en, es⟩ := hS.ei
          have hfull := full_any g lim r.2.looked W4 ((hS.blk.cell 7).trans rfl) ((hS.blk.cell 8).trans rfl)
          have y3 := (k3.cell 0).trans rfl
          have f1 := k1.frozen 0
          have f2 := k2.frozen 0
          have f3 := k3.frozen 0
          have y1 : W4.cell? ⟨w.heap.size + 1, 0, none⟩ = some v := (k1.cell 0).trans rfl
          have y2 : W4.cell? ⟨w.heap.size + 1 + 1 + 1, 0, none⟩ = some (.bool bb) := (k2.cell 0).trans rfl
          simp at y3
          have hn9 : ys'.length = sln := hS.len
          obtain ⟨rfl, rfl⟩ := en Hrs.out
          clear en es
          have hfu := Hfu.out
          rw [hfu] at hfull
          clear hfu
          go_wp2_with fail
          refine hfull.mono ?_
          rintro e W5 ⟨rfl, qd, rfl⟩
          have bd := below_drewN (Below.refl W4.heap.size W4) qd
          have k1 := k1.on bd
          have k2 := k2.on bd
          have k3 := k3.on bd
          have hlow := hlow.trans (bd.mono hlow.size)
          clear hfull bd y1 y2 y3 f1 f2 f3
          generalize W4.drewN qd = W6 at k1 k2 k3 hlow ⊢
          have y3 := (k3.cell 0).trans rfl
          have f1 := k1.frozen 0
          have f2 := k2.frozen 0
          have f3 := k3.frozen 0
          have y1 : W6.cell? ⟨w.heap.size + 1, 0, none⟩ = some (.slice none 0 0) := (k1.cell 0).trans rfl
          have y2 : W6.cell? ⟨w.heap.size + 1 + 1 + 1, 0, none⟩ = some (.bool false) := (k2.cell 0).trans rfl
          simp at y3
          go_wp2_with fail
          go_region
          all_goals (go_wp2_with fail)
          all_goals (
            obtain ⟨q1, q3, q2⟩ := three_put k1 k3 k2 (.slice none 0 0) (.slice none 0 0) (.bool false)
            have b9 := three_below hlow (g1 := w.heap.size + 1) (g3 := w.heap.size + 1 + 1) (g2 := w.heap.size + 1 + 1 + 1) (by omega) (by omega) (by omega) (.slice none 0 0) (.slice none 0 0) (.bool false)
            exact ret_solve rfl _ _ _ _ _ _ _ rfl rfl rfl rfl q1 q3 q2 rfl ⟨none, 0, 0, none, 0, 0, rfl, OwnI.nil _ _, ⟨[], rfl, OwnNs.nil _ _ _ _⟩, b9⟩)
        · rw [if_neg hfu]
          have Hfu := Lib.hid hfu
          clear hfu
          go_enter Tryz.func7, Tryz.ntmps7
          go_wp2_with fail
          generalize ((((w.alloc (.cells #[.slice A1 n1 c1, .slice A2 n2 c2, .slice A3 n3 c3, .slice A4 n4 c4, .slice A5 n5 c5] 37)).alloc (.cells #[.slice none 0 0] 30)).alloc (.cells #[.slice none 0 0] 41)).alloc (.cells #[.bool false] 4)) = W1 at k0 k1 k3 k2 b0 ⊢
          refine (hck W1 b0).mono ?_
          rintro e W2 ⟨rfl, bb⟩
          have b1 := b0.trans (bb.mono b0.size)
          have k0 := k0.on bb
          have k1 := k1.on bb
          have k2 := k2.on bb
          have k3 := k3.on bb
          clear bb hck
          have x0 : W2.cell? ⟨w.heap.size, 0, none⟩ = some (.slice A1 n1 c1) := (k0.cell 0).trans rfl
          have x1 : W2.cell? ⟨w.heap.size, 1, none⟩ = some (.slice A2 n2 c2) := (k0.cell 1).trans rfl
          have x2 : W2.cell? ⟨w.heap.size, 2, none⟩ = some (.slice A3 n3 c3) := (k0.cell 2).trans rfl
          have x3 : W2.cell? ⟨w.heap.size, 3, none⟩ = some (.slice A4 n4 c4) := (k0.cell 3).trans rfl
          have x4 : W2.cell? ⟨w.heap.size, 4, none⟩ = some (.slice A5 n5 c5) := (k0.cell 4).trans rfl
          have hlb : decide ((lim : Int) < 0) = false := by simp
          go_wp2_with fail
          clear x0 x1 x2 x3 x4 k0 hlb
          have hb6 := hbg W2 b1
          refine hb6.mono ?_
          rintro e W3 ⟨g, gs, cS, sl, rfl, hB⟩
          have b3 := b1.trans (hB.low.mono b1.size)
          have lt1 := k1.lt
          have lt2 := k2.lt
          have lt3 := k3.lt
          have k1 := k1.on hB.low
          have k2 := k2.on hB.low
          have k3 := k3.on hB.low
          have hgB := hB.gB
          have hrowB : ∀ k, sl.v.ownBlock = some k → W2.heap.size ≤ k := fun k hk => (hB.row.lt k hk).1
          have hgN := hB.blk.lt
          have hgs := hB.stf.lt gs rfl
          have hne9 : g ≠ gs := by
            obtain ⟨cs, hb9, _⟩ := own_type hB.stf rfl
            exact hB.blk.apart hb9 (by decide)
          have hS : Sch (EIS (w.heap.size + 1) (w.heap.size + 1 + 1 + 1) (w.heap.size + 1 + 1) W3.heap.size) p0 P lim (.func (.func 27) #[] #[.pointer (some ⟨w.heap.size + 1, 0, none⟩), .pointer (some ⟨w.heap.size + 1 + 1 + 1, 0, none⟩)]) w.heap.size W3.heap.size g gs cS W3 P.fix sl [nd0S] ⟨[nd0], 0, none⟩ := by
            rw [hp0.out]
            refine ⟨hB.blk, OwnI.more hB.stf b1.size, ?_, fun y hy => ?_, rfl, H.out.below b3, ⟨_, _, k1, k2, k3, fun _ => ⟨rfl, rfl⟩, fun l e => by cases e⟩, Nat.le_refl _, Nat.le_trans b1.size hgB, hgN, Nat.le_trans b1.size hgs.1, hgs.2, hne9, hT3.out.below b3 hg0, hg0⟩
            · have := own_less hB.row b1.size
              simpa using this
            · obtain rfl : y = nd0S := by simpa using hy
              exact ⟨by decide, OwnI.nil _ _, OwnI.nil _ _, by decide, by decide⟩
          have hv := Hvis.out W3.heap.size g gs cS (by omega) (by omega) (by omega) (by omega) (by omega) (by omega) (by omega) (by omega) (by omega) 0 ⟨[nd0], 0, none⟩ W3 sl [nd0S] (by simp) (by have := Hbv.out; simp; omega) (by have := Hbv.out; simp; omega) rfl hS
          rw [← hr.out] at hv
          clear hS Hvis hB k1 k2 k3 hb6 hbg hr
          go_wp2_with fail
          refine hv.mono ?_
          rintro e W4 ⟨rfl, st', ⟨slA, sln, slc⟩, ys', hS, -, hM, -⟩
          have hlow : Below w.heap.size w W4 := b3.trans (hM.low (by omega) (fun k hk => Nat.le_trans b1.size (hrowB k hk)))
          obtain ⟨v, bb, k1, k2, k3, en, es⟩ := hS.ei
          have hfull := full_any g lim r.2.looked W4 ((hS.blk.cell 7).trans rfl) ((hS.blk.cell 8).trans rfl)
          have y3 := (k3.cell 0).trans rfl
          have f1 := k1.frozen 0
          have f2 := k2.frozen 0
          have f3 := k3.frozen 0
          have y1 : W4.cell? ⟨w.heap.size + 1, 0, none⟩ = some v := (k1.cell 0).trans rfl
          have y2 : W4.cell? ⟨w.heap.size + 1 + 1 + 1, 0, none⟩ = some (.bool bb) := (k2.cell 0).trans rfl
          simp at y3
          have hn9 : ys'.length = sln := hS.len
          obtain ⟨rfl, rfl⟩ := en Hrs.out
          clear en es
          have hfu := Hfu.out
          have hfu' : fullB lim r.2.looked = false := by simpa using hfu
          rw [hfu'] at hfull
          clear hfu hfu'
          go_wp2_with fail
          refine hfull.mono ?_
          rintro e W5 ⟨rfl, qd, rfl⟩
          have bd := below_drewN (Below.refl W4.heap.size W4) qd
          have hns : OwnNs .u8 95 (W4.drewN qd) w.heap.size (.slice slA sln slc) sln ys' := ⟨own_on hS.row bd, fun y hy => ((hS.nd y hy).less (by omega)).on bd⟩
          have hxs := hS.xs
          have kg := hS.blk.on bd
          have k1 := k1.on bd
          have k2 := k2.on bd
          have k3 := k3.on bd
          have hlow := hlow.trans (bd.mono hlow.size)
          clear hfull bd y1 y2 y3 f1 f2 f3 hS
          generalize W4.drewN qd = W6 at k1 k2 k3 hlow hns kg ⊢
          have y3 := (k3.cell 0).trans rfl
          have f1 := k1.frozen 0
          have f2 := k2.frozen 0
          have f3 := k3.frozen 0
          have y1 : W6.cell? ⟨w.heap.size + 1, 0, none⟩ = some (.slice none 0 0) := (k1.cell 0).trans rfl
          have y2 : W6.cell? ⟨w.heap.size + 1 + 1 + 1, 0, none⟩ = some (.bool false) := (k2.cell 0).trans rfl
          have x6 : W6.cell? ⟨g, 6, none⟩ = some (.slice slA sln slc) := (kg.cell 6).trans rfl
          simp at y3
          have Hxs := Lib.hid hxs
          clear hxs
          go_wp2_with fail
          go_region
          all_goals (go_wp2_with fail)
          all_goals (
            obtain ⟨q1, q3, q2⟩ := three_put k1 k3 k2 (.slice none 0 0) (.slice slA sln slc) (.bool false)
            have b9 := three_below hlow (g1 := w.heap.size + 1) (g3 := w.heap.size + 1 + 1) (g2 := w.heap.size + 1 + 1 + 1) (by omega) (by omega) (by omega) (.slice none 0 0) (.slice slA sln slc) (.bool false)
            refine ret_solve rfl _ _ _ _ _ _ _ rfl rfl rfl rfl q1 q3 q2 rfl ⟨none, 0, 0, slA, sln, slc, rfl, OwnI.nil _ _, ⟨ys', Hxs.out, ?_⟩, b9⟩
            exact (((hns.put k1 (by decide) (by decide) _).put (by simpa using k3.far (p := ⟨w.heap.size + 1, 0, none⟩) (by simp) (.slice none 0 0)) (by decide) (by decide) _).put (by exact ((k2.far (p := ⟨w.heap.size + 1, 0, none⟩) (by simp; omega) (.slice none 0 0)).far (p := ⟨w.heap.size + 1 + 1, 0, none⟩) (by simp) (.slice slA sln slc))) (by decide) (by decide) _).on ((Below.refl _ _).drew))
  · have e : solveR P limit = (none, [], chkP P) := by unfold solveR; rw [if_pos hc]
    rw [e]
    have hcb : (chkP P != 0) = true := by simpa using hc
    generalize chkP P = cc at hck hcb
    clear hbeg hs e hc
    go_enter Tryz.func7, Tryz.ntmps7
    go_wp2_with fail
    generalize ((((w.alloc (.cells #[.slice A1 n1 c1, .slice A2 n2 c2, .slice A3 n3 c3, .slice A4 n4 c4, .slice A5 n5 c5] 37)).alloc (.cells #[.slice none 0 0] 30)).alloc (.cells #[.slice none 0 0] 41)).alloc (.cells #[.bool false] 4)) = W1 at k0 k1 k3 k2 b0 ⊢
    refine (hck W1 b0).mono ?_
    rintro e W2 ⟨rfl, bb⟩
    have b1 := b0.trans (bb.mono b0.size)
    have k0 := k0.on bb
    have k1 := k1.on bb
    have k2 := k2.on bb
    have k3 := k3.on bb
    have y1 := (k1.cell 0).trans rfl
    have y2 := (k2.cell 0).trans rfl
    have y3 := (k3.cell 0).trans rfl
    have f1 := k1.frozen 0
    have f2 := k2.frozen 0
    have f3 := k3.frozen 0
    simp at y1 y2 y3
    clear bb hck
    go_wp2_with fail
    go_region
    go_wp2_with fail
    obtain ⟨q1, q3, q2⟩ := three_put k1 k3 k2 (.slice none 0 0) (.slice none 0 0) (.bool false)
    exact ret_solve rfl _ _ _ _ _ _ _ rfl rfl rfl rfl q1 q3 q2 rfl ⟨none, 0, 0, none, 0, 0, rfl, OwnI.nil _ _, ⟨[], rfl, OwnNs.nil _ _ _ _⟩, three_below b1 (by omega) (by omega) (by omega) _ _ _⟩
end Go.Proofs.YtcnofhlgiffkjaaGreatDoor
/- Count. -/
namespace Go.Proofs.YtcnofhlgiffkjaaGreatDoor
open Go.RowKit
set_option linter.unusedVariables false
set_option linter.unusedSimpArgs false

/-- What Count's closure does. -/
def eachW (limit k : Int) (l : List Int) : Bool × Int := (decide (limit < wrap64 (k + 1)), wrap64 (k + 1))
theorem each2w_any (A : Option Addr) (n c g1 g2 : Nat) (k limit : Int) (w : World) (h1 : Blk w g1 3 #[.int .i64 k]) (h2 : Blk w g2 3 #[.int .i64 limit]) (hne : g1 ≠ g2) :
    Calls Tryz.prog 30 #[.slice A n c, .pointer (some ⟨g1, 0, none⟩), .pointer (some ⟨g2, 0, none⟩)] w fun e w' => e = .returned (.bool (eachW limit k []).1) ∧ w' = w.setCell ⟨g1, 0, none⟩ (.int .i64 (eachW limit k []).2) := by
  have hne' : g2 ≠ g1 := Ne.symm hne
  have c1 := h1.cell 0
  have c2 := h2.cell 0
  have f1 := h1.frozen 0
  simp at c1 c2
  unfold eachW
  go_enter Tryz.func30, Tryz.ntmps30
  go_wp2_with fail
  go_ret
  exact ⟨rfl, rfl⟩
def EIC (limit : Int) (g1 g2 : Nat) (s : Int) (w : World) : Prop := Blk w g1 3 #[.int .i64 s] ∧ Blk w g2 3 #[.int .i64 limit]
theorem callerC {limit : Int} {g1 g2 B N g gs : Nat} (h1B : B ≤ g1) (h1N : g1 < N) (h2N : g2 < N) (h1g : g1 ≠ g) (h1s : g1 ≠ gs) (h2g : g2 ≠ g) (h2s : g2 ≠ gs) (h12 : g1 ≠ g2) :
    CallerOk (fun _ => True) (EIC limit g1 g2) (eachW limit) 30 g1 g2 B N g gs where
  keep s w w' hs hE hk := by
    obtain ⟨k1, k2⟩ := hE
    have n1 : ∀ cs, ¬ Blk w g1 95 cs := fun cs h => (Blk.apart k1 h (by decide)) rfl
    have n2 : ∀ cs, ¬ Blk w g2 95 cs := fun cs h => (Blk.apart k2 h (by decide)) rfl
    exact ⟨(hk.same g1 k1.lt h1N h1g h1s n1).trans k1, (hk.same g2 k2.lt h2N h2g h2s n2).trans k2⟩
  ent := enters_of Tryz.func30 (by kernel_rfl) rfl
  alive s l h := trivial
  call s w A n c l hs hE hN ho hn := by
    obtain ⟨k1, k2⟩ := hE
    refine (each2w_any A n c g1 g2 s limit w k1 k2 h12).mono ?_
    rintro e w' ⟨rfl, rfl⟩
    have n1 : ∀ cs, ¬ Blk w g1 95 cs := fun cs h => (Blk.apart k1 h (by decide)) rfl
    refine ⟨rfl, ⟨?_, k2.far (p := ⟨g1, 0, none⟩) (Ne.symm h12) _⟩, ⟨rfl, rfl, rfl, by simp, fun k hk hh => Below.heap_setCell _ _ _ k ?_⟩⟩
    · have h9 := k1.put 0 (.int .i64 (eachW limit s []).2)
      simp only [List.setIfInBounds_toArray, List.set_cons_zero] at h9
      exact h9
    · intro e
      have e : k = g1 := e
      rw [e] at hh
      rcases hh with h | h | h | h | ⟨cs, h⟩
      · omega
      · omega
      · exact h1g h
      · exact h1s h
      · exact n1 cs h
/-- No list is longer. -/
theorem flatMap_len {α β : Type} {f : α → List β} {b : Nat} : ∀ {l : List α}, (∀ x ∈ l, (f x).length ≤ b) → (l.flatMap f).length ≤ l.length * b
  | [], _ => by simp
  | x :: l, h => by
    have h1 := h x (by simp)
    have h2 := flatMap_len (l := l) fun y hy => h y (by simp [hy])
    rw [List.flatMap_cons, List.length_append, List.length_cons, Nat.succ_mul]
    omega
theorem solsF_len {P : Pr} (ok : PrOk P) (hK : ∀ z : Nat, (memZ (eligA P z)).length ≤ 6) : ∀ (m : Nat) (st : List Int), openN st ≤ m → (solsF P m st).length ≤ 6 ^ m := by
  have hB : ∀ (rec : List Int → List (List Int)) (st : List Int) (b : Nat), 1 ≤ b → (∀ z, idx0 st = some z → ∀ u ∈ memZ (eligA P z), (rec (st.set z u)).length ≤ b) → (solsB P rec st).length ≤ b ∨ (idx0 st ≠ none ∧ (solsB P rec st).length ≤ 6 * b) := by
    intro rec st b h1 h
    unfold solsB
    split
    · exact .inl (Nat.zero_le _)
    · cases hz : idx0 st with
      | none => exact .inl h1
      | some z =>
        refine .inr ⟨by simp, ?_⟩
        have h2 := flatMap_len (l := memZ (eligA P z)) (h z hz)
        have h3 := Nat.mul_le_mul_right b (hK z)
        exact Nat.le_trans h2 h3
  intro m
  induction m with
  | zero =>
    intro st hm
    rcases hB (fun _ => []) st 1 (Nat.le_refl _) (fun z hz => by rw [openN_zero hm] at hz; cases hz) with h | ⟨h, _⟩
    · exact h
    · exact absurd (openN_zero hm) h
  | succ m ih =>
    intro st hm
    have h6 : 1 ≤ 6 ^ m := Nat.pow_pos (by decide)
    have e : 6 ^ (m + 1) = 6 * 6 ^ m := by rw [Nat.pow_succ, Nat.mul_comm]
    rcases hB (solsF P m) st (6 ^ m) h6 (fun z hz u hu => ih _ (by
      obtain ⟨z1, z2, _⟩ := idx0_some hz
      have hu1 := memZ_user ok hu
      have := openN_set (u := u) z1 z2 (by omega)
      omega)) with h | ⟨_, h⟩
    · show (solsB P (solsF P m) st).length ≤ _
      omega
    · show (solsB P (solsF P m) st).length ≤ _
      omega
theorem runS_W (limit : Int) : ∀ (ls : List (List Int)) (n : Nat), n + ls.length ≤ 1000000000 → (n : Int) ≤ limit → ∃ q : Nat, runS (eachW limit) (n : Int) ls = (decide (limit < ((n + ls.length : Nat) : Int)), (q : Int)) ∧ (¬ limit < ((n + ls.length : Nat) : Int) → q = n + ls.length) ∧ (limit < ((n + ls.length : Nat) : Int) → limit < (q : Int))
  | [], n, _, h => ⟨n, by rw [runS]; simp; omega, fun _ => rfl, fun h' => by simp at h'; omega⟩
  | l :: ls, n, hb, h => by
    rw [List.length_cons] at hb ⊢
    have hw : wrap64 ((n : Int) + 1) = ((n + 1 : Nat) : Int) := by unfold wrap64; omega
    have e1 : (eachW limit (n : Int) l) = (decide (limit < ((n + 1 : Nat) : Int)), ((n + 1 : Nat) : Int)) := by unfold eachW; rw [hw]
    rw [runS, e1]
    by_cases hc : limit < ((n + 1 : Nat) : Int)
    · simp only [hc, decide_true, if_true]
      exact ⟨n + 1, by rw [decide_eq_true (by omega)], fun h' => absurd (by omega) h', fun _ => hc⟩
    · simp only [hc, decide_false, Bool.false_eq_true, if_false]
      obtain ⟨q, h1, h2, h3⟩ := runS_W limit ls (n + 1) (by omega) (by omega)
      rw [show n + 1 + ls.length = n + (ls.length + 1) by omega] at h1 h2 h3
      exact ⟨q, h1, h2, h3⟩
/-- What Count gives. -/
def countR (P : Pr) (limit : Int) : Int × Int :=
  if chkP P ≠ 0 then (0, chkP P) else if limit < 1 then (0, 1) else if limit < ((solsL P).length : Int) then (0, 3) else (((solsL P).length : Int), 0)
set_option maxHeartbeats 8000000 in
set_option maxRecDepth 100000 in
/-- Count. -/
theorem count_any (p : PrV) (P : Pr) (limit : Int) (w : World) (h : PrAt w w.heap.size p P) (hT : Tab w) (hs : chkP P = 0 → P.elig.length ≤ 5 ∧ ∀ z : Nat, (memZ (eligA P z)).length ≤ 6) :
    Calls Tryz.prog 8 #[p.v, .int .i64 limit] w fun e w' => e = .returned (.tuple #[.int .i64 (countR P limit).1, .int .i64 (countR P limit).2]) ∧ Below w.heap.size w w' := by
  have hg0 : 0 < w.heap.size := World.block_lt_of_cell? w _ (hT 0 (by omega))
  have hck := fun (W : World) (hW : Below w.heap.size w W) => chkP_any p P W ((h.below hW).more hW.size)
  have hbeg := fun (W : World) (gn : Nat) (hW : Below w.heap.size w W) (hf : 0 < P.fix.length) => begin_any p P 0 30 gn (w.heap.size + 1) W ((h.below hW).more hW.size) hf
  have H := Lib.hid h
  obtain ⟨p0, hp0⟩ : ∃ p0, Hid (p0 = p) := ⟨_, Lib.hid rfl⟩
  obtain ⟨⟨A1, n1, c1⟩, ⟨A2, n2, c2⟩, ⟨A3, n3, c3⟩, ⟨A4, n4, c4⟩, ⟨A5, n5, c5⟩⟩ := p
  unfold PrV.v Sl.v at hck ⊢
  simp only [] at hck ⊢
  have k0 := ((Blk.new w 37 #[.slice A1 n1 c1, .slice A2 n2 c2, .slice A3 n3 c3, .slice A4 n4 c4, .slice A5 n5 c5]).alloc (.cells #[.int .i64 limit] 3))
  have k2 := (Blk.mk' (g := w.heap.size + 1) (w := w.alloc (.cells #[.slice A1 n1 c1, .slice A2 n2 c2, .slice A3 n3 c3, .slice A4 n4 c4, .slice A5 n5 c5] 37)) (t := 3) (cs := #[.int .i64 limit]) (by simp))
  have b0 := bAl (bAl (Below.refl w.heap.size w) (.cells #[.slice A1 n1 c1, .slice A2 n2 c2, .slice A3 n3 c3, .slice A4 n4 c4, .slice A5 n5 c5] 37)) (.cells #[.int .i64 limit] 3)
  by_cases hc : chkP P = 0
  · have hcb : (chkP P != 0) = false := by simpa using hc
    obtain ⟨s5, s6⟩ := hs hc
    have ok := chkP_ok hc
    rw [hc] at hck
    by_cases hl : limit < 1
    · have e : countR P limit = (0, 1) := by unfold countR; rw [if_neg (by simpa using hc), if_pos hl]
      rw [e]
      clear hbeg hs e hcb hc ok
      go_enter Tryz.func8, Tryz.ntmps8
      go_wp2_with fail
      generalize ((w.alloc (.cells #[.slice A1 n1 c1, .slice A2 n2 c2, .slice A3 n3 c3, .slice A4 n4 c4, .slice A5 n5 c5] 37)).alloc (.cells #[.int .i64 limit] 3)) = W1 at k0 k2 b0 ⊢
      refine (hck W1 b0).mono ?_
      rintro e W2 ⟨rfl, bb⟩
      have b1 := b0.trans (bb.mono b0.size)
      have k2 := k2.on bb
      have y2 := (k2.cell 0).trans rfl
      simp at y2
      clear bb hck
      go_wp2_with fail
      go_ret2
      exact ⟨rfl, b1⟩
    · have hfx := ok.fixl
      have hne := ok.n0
      have hlen : (solsL P).length ≤ 7776 := Nat.le_trans (solsF_len ok s6 P.fix.length P.fix (openN_le _)) ((by decide : ∀ n, n ≤ 5 → 6 ^ n ≤ 7776) _ (by omega))
      have hl' : ¬ limit < 1 := hl
      have hl2 : 1 ≤ limit := by omega
      obtain ⟨L, hL⟩ : ∃ L, Hid (L = (solsL P).length) := ⟨_, Lib.hid rfl⟩
      have hrun := visitF_run (each := eachW limit) (P := P) P.fix.length P.fix 0 ⟨[nd0], 0, 0⟩
      obtain ⟨q, hq1, hq2, hq3⟩ := runS_W limit (solsL P) 0 (by omega) (by omega)
      rw [Nat.zero_add, ← hL.out] at hq1 hq2 hq3
      have hrun2 : runS (eachW limit) 0 (solsF P P.fix.length P.fix) = (decide (limit < (L : Int)), (q : Int)) := hq1
      rw [hrun2] at hrun
      obtain ⟨r, hr⟩ : ∃ r, Hid (r = visitF P 0 (eachW limit) P.fix.length P.fix 0 ⟨[nd0], 0, 0⟩) := ⟨_, Lib.hid rfl⟩
      rw [← hr.out] at hrun
      injection hrun with _ hrs
      have e : countR P limit = if limit < (L : Int) then (0, 3) else ((L : Int), 0) := by unfold countR; rw [if_neg (by simpa using hc), if_neg hl, hL.out]
      rw [e]
      have hvis := fun N g gs cS gn (h0 : w.heap.size ≤ gn) (h1N : gn < N) (h2N : w.heap.size + 1 < N) h1 h2 h3 h4 h5 => visit_any (p := p0) (limit := 0) (cS := cS) (callerC (limit := limit) (B := w.heap.size) (N := N) (g := g) (gs := gs) (g1 := gn) (g2 := w.heap.size + 1) h0 h1N h2N h1 h2 h3 h4 h5) hc 6 s6 P.fix.length P.fix (openN_le _) hfx
      have hbv : bV 6 P.fix.length ≤ 55986 := (by decide : ∀ n, n ≤ 5 → bV 6 n ≤ 55986) _ (by omega)
      have hbg := fun W gn hW => hbeg W gn hW (by omega)
      unfold PrV.v Sl.v at hbg
      simp only [] at hbg
      have Hvis := Lib.hid hvis
      have Hbv := Lib.hid hbv
      have Hrs := Lib.hid hrs
      have Hq2 := Lib.hid hq2
      have Hq3 := Lib.hid hq3
      have hT3 := Lib.hid hT
      clear hvis hbv hbeg hs e hcb hc ok hne hfx s6 s5 h hT hrs hq2 hq3 hq1 hrun2 hlen
      by_cases hlt : limit < (L : Int)
      · rw [if_pos hlt]
        have hqd : decide (limit < (q : Int)) = true := by simpa using Hq3.out hlt
        clear hlt
        go_enter Tryz.func8, Tryz.ntmps8
        go_wp2_with fail
        generalize ((w.alloc (.cells #[.slice A1 n1 c1, .slice A2 n2 c2, .slice A3 n3 c3, .slice A4 n4 c4, .slice A5 n5 c5] 37)).alloc (.cells #[.int .i64 limit] 3)) = W1 at k0 k2 b0 ⊢
        refine (hck W1 b0).mono ?_
        rintro e W2 ⟨rfl, bb⟩
        have b1 := b0.trans (bb.mono b0.size)
        have k0 := k0.on bb
        have k2 := k2.on bb
        have y2 : W2.cell? ⟨w.heap.size + 1, 0, none⟩ = some (.int .i64 limit) := (k2.cell 0).trans rfl
        have hlb : decide (limit < 1) = false := by simpa using hl
        clear bb hck
        go_upto_region 7 with fail
        have kn := Blk.new W2 3 #[.int .i64 0]
        have bn := bAl (Below.refl W2.heap.size W2) (.cells #[.int .i64 0] 3)
        have zn : (W2.alloc (.cells #[.int .i64 0] 3)).heap.size = W2.heap.size + 1 := by simp
        have k0 := k0.on bn
        have k2 := k2.on bn
        have b2 := b1.trans (bn.mono b1.size)
        have lt2 := k2.lt
        have hb1 := b1.size
        have hlt2 : w.heap.size + 1 < W2.heap.size := by have := k0.lt; have h9 := y2; exact World.block_lt_of_cell? W2 _ h9
        clear y2 bn
        generalize (W2.alloc (.cells #[.int .i64 0] 3)) = W3 at kn zn k0 k2 b2 lt2 ⊢
        have x0 : W3.cell? ⟨w.heap.size, 0, none⟩ = some (.slice A1 n1 c1) := (k0.cell 0).trans rfl
        have x1 : W3.cell? ⟨w.heap.size, 1, none⟩ = some (.slice A2 n2 c2) := (k0.cell 1).trans rfl
        have x2 : W3.cell? ⟨w.heap.size, 2, none⟩ = some (.slice A3 n3 c3) := (k0.cell 2).trans rfl
        have x3 : W3.cell? ⟨w.heap.size, 3, none⟩ = some (.slice A4 n4 c4) := (k0.cell 3).trans rfl
        have x4 : W3.cell? ⟨w.heap.size, 4, none⟩ = some (.slice A5 n5 c5) := (k0.cell 4).trans rfl
        go_wp2_with fail
        clear x0 x1 x2 x3 x4 k0
        have hb6 := hbg W3 W2.heap.size b2
        refine hb6.mono ?_
        rintro e W4 ⟨g, gs, cS, sl, rfl, hB⟩
        have b3 := b2.trans (hB.low.mono b2.size)
        have kn := kn.on hB.low
        have k2 := k2.on hB.low
        have hgB := hB.gB
        have hgN := hB.blk.lt
        have hgs := hB.stf.lt gs rfl
        have hrowB : ∀ k, sl.v.ownBlock = some k → W3.heap.size ≤ k := fun k hk => (hB.row.lt k hk).1
        have hne9 : g ≠ gs := by
          obtain ⟨cs, hb9, _⟩ := own_type hB.stf rfl
          exact hB.blk.apart hb9 (by decide)
        have hS : Sch (EIC limit W2.heap.size (w.heap.size + 1)) p0 P 0 (.func (.func 30) #[] #[.pointer (some ⟨W2.heap.size, 0, none⟩), .pointer (some ⟨w.heap.size + 1, 0, none⟩)]) w.heap.size W4.heap.size g gs cS W4 P.fix sl [nd0S] ⟨[nd0], 0, 0⟩ := by
          rw [hp0.out]
          refine ⟨hB.blk, OwnI.more hB.stf b2.size, ?_, fun y hy => ?_, rfl, H.out.below b3, ⟨kn, k2⟩, Nat.le_refl _, Nat.le_trans b2.size hgB, hgN, Nat.le_trans b2.size hgs.1, hgs.2, hne9, hT3.out.below b3 hg0, hg0⟩
          · have := own_less hB.row b2.size
            simpa using this
          · obtain rfl : y = nd0S := by simpa using hy
            exact ⟨by decide, OwnI.nil _ _, OwnI.nil _ _, by decide, by decide⟩
        have hv := Hvis.out W4.heap.size g gs cS W2.heap.size hb1 (by omega) (by omega) (by omega) (by omega) (by omega) (by omega) (by omega) 0 ⟨[nd0], 0, 0⟩ W4 sl [nd0S] (by simp) (by have := Hbv.out; simp; omega) (by have := Hbv.out; simp; omega) trivial hS
        rw [← hr.out] at hv
        clear hS Hvis hB kn k2 hb6 hbg hr
        go_wp2_with fail
        refine hv.mono ?_
        rintro e W5 ⟨rfl, st', sl', ys', hS, -, hM, -⟩
        have hlow : Below w.heap.size w W5 := b3.trans (hM.low (by omega) (fun k hk => Nat.le_trans b2.size (hrowB k hk)))
        have hei := hS.ei
        rw [Hrs.out] at hei
        obtain ⟨kn, k2⟩ := hei
        have yn : W5.cell? ⟨W2.heap.size, 0, none⟩ = some (.int .i64 (q : Int)) := (kn.cell 0).trans rfl
        have y2 : W5.cell? ⟨w.heap.size + 1, 0, none⟩ = some (.int .i64 limit) := (k2.cell 0).trans rfl
        clear hS hM kn k2 hv
        go_wp2_with fail
        go_ret2
        exact ⟨rfl, hlow⟩
      · rw [if_neg hlt]
        have hq9 := Hq2.out hlt
        have hqd : decide (limit < (q : Int)) = false := by simp; omega
        have Hq9 := Lib.hid hq9
        clear hlt hq9
        go_enter Tryz.func8, Tryz.ntmps8
        go_wp2_with fail
        generalize ((w.alloc (.cells #[.slice A1 n1 c1, .slice A2 n2 c2, .slice A3 n3 c3, .slice A4 n4 c4, .slice A5 n5 c5] 37)).alloc (.cells #[.int .i64 limit] 3)) = W1 at k0 k2 b0 ⊢
        refine (hck W1 b0).mono ?_
        rintro e W2 ⟨rfl, bb⟩
        have b1 := b0.trans (bb.mono b0.size)
        have k0 := k0.on bb
        have k2 := k2.on bb
        have y2 : W2.cell? ⟨w.heap.size + 1, 0, none⟩ = some (.int .i64 limit) := (k2.cell 0).trans rfl
        have hlb : decide (limit < 1) = false := by simpa using hl
        clear bb hck
        go_upto_region 7 with fail
        have kn := Blk.new W2 3 #[.int .i64 0]
        have bn := bAl (Below.refl W2.heap.size W2) (.cells #[.int .i64 0] 3)
        have zn : (W2.alloc (.cells #[.int .i64 0] 3)).heap.size = W2.heap.size + 1 := by simp
        have k0 := k0.on bn
        have k2 := k2.on bn
        have b2 := b1.trans (bn.mono b1.size)
        have lt2 := k2.lt
        have hb1 := b1.size
        have hlt2 : w.heap.size + 1 < W2.heap.size := by have := k0.lt; have h9 := y2; exact World.block_lt_of_cell? W2 _ h9
        clear y2 bn
        generalize (W2.alloc (.cells #[.int .i64 0] 3)) = W3 at kn zn k0 k2 b2 lt2 ⊢
        have x0 : W3.cell? ⟨w.heap.size, 0, none⟩ = some (.slice A1 n1 c1) := (k0.cell 0).trans rfl
        have x1 : W3.cell? ⟨w.heap.size, 1, none⟩ = some (.slice A2 n2 c2) := (k0.cell 1).trans rfl
        have x2 : W3.cell? ⟨w.heap.size, 2, none⟩ = some (.slice A3 n3 c3) := (k0.cell 2).trans rfl
        have x3 : W3.cell? ⟨w.heap.size, 3, none⟩ = some (.slice A4 n4 c4) := (k0.cell 3).trans rfl
        have x4 : W3.cell? ⟨w.heap.size, 4, none⟩ = some (.slice A5 n5 c5) := (k0.cell 4).trans rfl
        go_wp2_with fail
        clear x0 x1 x2 x3 x4 k0
        have hb6 := hbg W3 W2.heap.size b2
        refine hb6.mono ?_
        rintro e W4 ⟨g, gs, cS, sl, rfl, hB⟩
        have b3 := b2.trans (hB.low.mono b2.size)
        have kn := kn.on hB.low
        have k2 := k2.on hB.low
        have hgB := hB.gB
        have hgN := hB.blk.lt
        have hgs := hB.stf.lt gs rfl
        have hrowB : ∀ k, sl.v.ownBlock = some k → W3.heap.size ≤ k := fun k hk => (hB.row.lt k hk).1
        have hne9 : g ≠ gs := by
          obtain ⟨cs, hb9, _⟩ := own_type hB.stf rfl
          exact hB.blk.apart hb9 (by decide)
        have hS : Sch (EIC limit W2.heap.size (w.heap.size + 1)) p0 P 0 (.func (.func 30) #[] #[.pointer (some ⟨W2.heap.size, 0, none⟩), .pointer (some ⟨w.heap.size + 1, 0, none⟩)]) w.heap.size W4.heap.size g gs cS W4 P.fix sl [nd0S] ⟨[nd0], 0, 0⟩ := by
          rw [hp0.out]
          refine ⟨hB.blk, OwnI.more hB.stf b2.size, ?_, fun y hy => ?_, rfl, H.out.below b3, ⟨kn, k2⟩, Nat.le_refl _, Nat.le_trans b2.size hgB, hgN, Nat.le_trans b2.size hgs.1, hgs.2, hne9, hT3.out.below b3 hg0, hg0⟩
          · have := own_less hB.row b2.size
            simpa using this
          · obtain rfl : y = nd0S := by simpa using hy
            exact ⟨by decide, OwnI.nil _ _, OwnI.nil _ _, by decide, by decide⟩
        have hv := Hvis.out W4.heap.size g gs cS W2.heap.size hb1 (by omega) (by omega) (by omega) (by omega) (by omega) (by omega) (by omega) 0 ⟨[nd0], 0, 0⟩ W4 sl [nd0S] (by simp) (by have := Hbv.out; simp; omega) (by have := Hbv.out; simp; omega) trivial hS
        rw [← hr.out] at hv
        clear hS Hvis hB kn k2 hb6 hbg hr
        go_wp2_with fail
        refine hv.mono ?_
        rintro e W5 ⟨rfl, st', sl', ys', hS, -, hM, -⟩
        have hlow : Below w.heap.size w W5 := b3.trans (hM.low (by omega) (fun k hk => Nat.le_trans b2.size (hrowB k hk)))
        have hei := hS.ei
        rw [Hrs.out] at hei
        obtain ⟨kn, k2⟩ := hei
        have yn : W5.cell? ⟨W2.heap.size, 0, none⟩ = some (.int .i64 (q : Int)) := (kn.cell 0).trans rfl
        have y2 : W5.cell? ⟨w.heap.size + 1, 0, none⟩ = some (.int .i64 limit) := (k2.cell 0).trans rfl
        clear hS hM kn k2 hv
        go_wp2_with fail
        go_ret2
        exact ⟨by rw [Hq9.out]; rfl, hlow⟩
  · have e : countR P limit = (0, chkP P) := by unfold countR; rw [if_pos hc]
    rw [e]
    have hcb : (chkP P != 0) = true := by simpa using hc
    generalize chkP P = cc at hck hcb
    clear hbeg hs e hc
    go_enter Tryz.func8, Tryz.ntmps8
    go_wp2_with fail
    generalize ((w.alloc (.cells #[.slice A1 n1 c1, .slice A2 n2 c2, .slice A3 n3 c3, .slice A4 n4 c4, .slice A5 n5 c5] 37)).alloc (.cells #[.int .i64 limit] 3)) = W1 at k0 k2 b0 ⊢
    refine (hck W1 b0).mono ?_
    rintro e W2 ⟨rfl, bb⟩
    have b1 := b0.trans (bb.mono b0.size)
    clear bb hck
    go_wp2_with fail
    go_ret2
    exact ⟨rfl, b1⟩
end Go.Proofs.YtcnofhlgiffkjaaGreatDoor
/- Plain: what Solve gives; solvable. -/
namespace Go.Proofs.YtcnofhlgiffkjaaGreatDoor
open Go.RowKit
set_option linter.unusedVariables false
set_option linter.unusedSimpArgs false

/-- Few steps, and few users for each. -/
def SmP (P : Pr) : Prop := P.elig.length ≤ 5 ∧ ∀ z : Nat, (memZ (eligA P z)).length ≤ 6
theorem no_valid {P : Pr} (hc : chkP P = 0) (h : solsL P = []) (l : List Int) : ValidB P l = false := by
  cases hv : ValidB P l with
  | false => rfl
  | true =>
    have := (solsL_mem hc l).2 hv
    rw [h] at this
    cases this
/-- Solve without a limit. -/
theorem solveR_zero {P : Pr} (hc : chkP P = 0) : (∃ l ls, solsL P = l :: ls ∧ solveR P 0 = (some l, [], 0)) ∨ (solsL P = [] ∧ ∃ nds sts, solveR P 0 = (none, nds, 0) ∧ RefOk P nds sts ∧ chkR P nds = (1, 0)) := by
  have hrun := visitF_run (each := eachS) (P := P) P.fix.length P.fix 0 ⟨[nd0], 0, none⟩
  rw [show runS eachS (⟨[nd0], 0, none⟩ : VS (Option (List Int))).s (solsF P P.fix.length P.fix) = runS eachS none (solsL P) from rfl, runS_S] at hrun
  have h1 := congrArg Prod.fst hrun
  have h2 := congrArg Prod.snd hrun
  simp only [] at h1 h2
  have e : solveR P 0 = match (visitF P 0 eachS P.fix.length P.fix 0 ⟨[nd0], 0, none⟩).2.s with
    | some l => (some l, [], 0)
    | none => if fullB 0 (visitF P 0 eachS P.fix.length P.fix 0 ⟨[nd0], 0, none⟩).2.looked = true then (none, [], 3) else (none, (visitF P 0 eachS P.fix.length P.fix 0 ⟨[nd0], 0, none⟩).2.nds, 0) := by
    unfold solveR; rw [if_neg (by simpa using hc), if_neg (by omega)]; rfl
  cases hs : solsL P with
  | cons l ls =>
    rw [hs] at h2
    left
    refine ⟨l, ls, rfl, ?_⟩
    rw [e, h2]
    rfl
  | nil =>
    rw [hs] at h1 h2
    right
    refine ⟨rfl, ?_⟩
    obtain ⟨sts, hR⟩ := visitF_ref (limit := 0) hc (openN_le P.fix) none h1
    refine ⟨_, sts, ?_, hR, (chkR_ref hR hc).1 (no_valid hc hs)⟩
    rw [e, h2]
    rfl
/-- A limit is exceeded, or changes nothing. -/
theorem solveR_lim {P : Pr} (hc : chkP P = 0) (lim : Nat) : (0 < lim ∧ solveR P lim = (none, [], 3)) ∨ (solveR P lim = solveR P 0 ∧ fullB lim (visitF P lim eachS P.fix.length P.fix 0 ⟨[nd0], 0, none⟩).2.looked = false) := by
  have e : ∀ k : Nat, solveR P k = match (visitF P k eachS P.fix.length P.fix 0 ⟨[nd0], 0, none⟩).2.s with
    | some l => (some l, [], 0)
    | none => if fullB k (visitF P k eachS P.fix.length P.fix 0 ⟨[nd0], 0, none⟩).2.looked = true then (none, [], 3) else (none, (visitF P k eachS P.fix.length P.fix 0 ⟨[nd0], 0, none⟩).2.nds, 0) := fun k => by
    unfold solveR; rw [if_neg (by simpa using hc), if_neg (by omega)]; rfl
  rcases visit_lim (P := P) lim P.fix.length P.fix 0 ⟨[nd0], 0, none⟩ rfl (by simp [fullB]) with ⟨h1, h2, h3⟩ | ⟨h1, h2, h3⟩
  · left
    refine ⟨?_, ?_⟩
    · unfold fullB at h2
      simp only [Bool.and_eq_true, decide_eq_true_eq] at h2
      exact h2.1
    · rw [e, h3, h2]; rfl
  · right
    refine ⟨?_, h2⟩
    have e0 := e 0
    rw [e, h2, h1]
    rw [show ((0 : Nat) : Int) = 0 from rfl] at e0
    rw [e0]
    simp [fullB]
/-- Two thousand suffice. -/
theorem solveR_2000 {P : Pr} (hc : chkP P = 0) (h5 : P.elig.length ≤ 5) (h4 : ∀ z : Nat, (memZ (eligA P z)).length ≤ 4) : solveR P 2000 = solveR P 0 := by
  have ok := chkP_ok hc
  have hl := (visitF_le (limit := 2000) (each := eachS) ok h4 P.fix.length P.fix 0 ⟨[nd0], 0, none⟩ (openN_le _)).2
  have hb : bnd 4 P.fix.length ≤ 1364 := (by decide : ∀ n, n ≤ 5 → bnd 4 n ≤ 1364) _ (by rw [ok.fixl]; exact h5)
  rcases solveR_lim hc 2000 with ⟨_, h⟩ | ⟨h, _⟩
  · exfalso
    rcases visit_lim (P := P) 2000 P.fix.length P.fix 0 ⟨[nd0], 0, none⟩ rfl (by simp [fullB]) with ⟨h1, h2, h3⟩ | ⟨h1, h2, h3⟩
    · unfold fullB at h2
      simp only [Bool.and_eq_true, decide_eq_true_eq] at h2
      have := h2.2
      simp only [] at hl
      omega
    · have e : solveR P 2000 = match (visitF P 2000 eachS P.fix.length P.fix 0 ⟨[nd0], 0, none⟩).2.s with
        | some l => (some l, [], 0)
        | none => if fullB 2000 (visitF P 2000 eachS P.fix.length P.fix 0 ⟨[nd0], 0, none⟩).2.looked = true then (none, [], 3) else (none, (visitF P 2000 eachS P.fix.length P.fix 0 ⟨[nd0], 0, none⟩).2.nds, 0) := by
        unfold solveR; rw [if_neg (by simpa using hc), if_neg (by omega)]; rfl
      rw [show ((2000 : Nat) : Int) = 2000 from rfl, e, h2] at h
      revert h
      cases (visitF P 2000 eachS P.fix.length P.fix 0 ⟨[nd0], 0, none⟩).2.s with
      | none => intro h; have := congrArg (fun x => x.2.2) h; simp at this
      | some l => intro h; have := congrArg (fun x => x.2.2) h; simp at this
  · exact h
/-- What solvable reads. -/
theorem solveR_solv (P : Pr) : ((solveR P 0).1.isSome && decide ((solveR P 0).2.2 = 0)) = solvB P := by
  unfold solvB
  by_cases hc : chkP P = 0
  · rcases solveR_zero hc with ⟨l, ls, h1, h2⟩ | ⟨h1, nds, sts, h2, _⟩
    · rw [h1, h2]; simp [hc]
    · rw [h1, h2]; simp
  · have e : solveR P 0 = (none, [], chkP P) := by unfold solveR; rw [if_pos hc]
    rw [e]
    simp [hc]
end Go.Proofs.YtcnofhlgiffkjaaGreatDoor
