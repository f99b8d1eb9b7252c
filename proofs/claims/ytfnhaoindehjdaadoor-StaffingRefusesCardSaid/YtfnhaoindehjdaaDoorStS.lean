/- Solve. -/
import Derived.Test.YtfnhaoindehjdaaDoorStW
namespace Go.Proofs.YtfnhaoindehjdaaDoor
open Go.RowKit
set_option linter.unusedVariables false
set_option linter.unusedSimpArgs false

/-- What Solve's closure has captured. -/
def EIS (g1 g2 g3 N : Nat) (s : Option (List Int)) (w : World) : Prop :=
  ∃ v b, Blk w g1 30 #[v] ∧ Blk w g2 4 #[.bool b] ∧ Blk w g3 46 #[.slice none 0 0] ∧ (s = none → v = .slice none 0 0 ∧ b = false) ∧ (∀ l, s = some l → b = true ∧ ∃ A n c, v = .slice A n c ∧ OwnI w N (.slice A n c) n l)
theorem callerS {g1 g2 g3 B N g gs : Nat} (h1B : B ≤ g1) (h1N : g1 < N) (h2B : B ≤ g2) (h2N : g2 < N) (h1g : g1 ≠ g) (h1s : g1 ≠ gs) (h2g : g2 ≠ g) (h2s : g2 ≠ gs) (h3N : g3 < N) (h3g : g3 ≠ g) (h3s : g3 ≠ gs) :
    CallerOk (fun s => s = none) (EIS g1 g2 g3 N) eachS 41 g1 g2 B N g gs where
  keep s w w' hs hE hk := by
    obtain ⟨v, b, k1, k2, k3, e1, e2⟩ := hE
    have n1 : ∀ cs, ¬ Blk w g1 103 cs := fun cs h => (Blk.apart k1 h (by decide)) rfl
    have n2 : ∀ cs, ¬ Blk w g2 103 cs := fun cs h => (Blk.apart k2 h (by decide)) rfl
    have n3 : ∀ cs, ¬ Blk w g3 103 cs := fun cs h => (Blk.apart k3 h (by decide)) rfl
    exact ⟨v, b, (hk.same g1 k1.lt h1N h1g h1s n1).trans k1, (hk.same g2 k2.lt h2N h2g h2s n2).trans k2, (hk.same g3 k3.lt h3N h3g h3s n3).trans k3, e1, fun l e => by rw [hs] at e; cases e⟩
  ent := enters_of Tryd.func41 (by kernel_rfl) rfl
  alive s l h := by cases h
  call s w A n c l hs hE hN ho hn := by
    obtain ⟨v, b, k1, k2, k3, e1, e2⟩ := hE
    refine (each1_any A n c g1 g2 v b w k1 k2).mono ?_
    rintro e w' ⟨rfl, rfl⟩
    have hne : g1 ≠ g2 := k1.apart k2 (by decide)
    have n1 : ∀ cs, ¬ Blk w g1 103 cs := fun cs h => (Blk.apart k1 h (by decide)) rfl
    have n2 : ∀ cs, ¬ Blk w g2 103 cs := fun cs h => (Blk.apart k2 h (by decide)) rfl
    have keep : ∀ k, k ≠ g1 → k ≠ g2 → ((w.setCell ⟨g1, 0, none⟩ (.slice A n c)).setCell ⟨g2, 0, none⟩ (.bool true)).heap[k]? = w.heap[k]? := fun k q1 q2 => by
      rw [Below.heap_setCell _ _ _ k q2, Below.heap_setCell _ _ _ k q1]
    refine ⟨rfl, ⟨.slice A n c, true, ?_, ?_, (keep g3 (Ne.symm (k1.apart k3 (by decide))) (Ne.symm (k2.apart k3 (by decide)))).trans k3, (fun e => by cases e), fun l' e => ?_⟩, ⟨rfl, rfl, rfl, by simp, fun k hk hh => keep k ?_ ?_⟩⟩
    · exact (by simpa using k1.put 0 (.slice A n c) : Blk (w.setCell ⟨g1, 0, none⟩ (.slice A n c)) g1 _ #[.slice A n c]).far (p := ⟨g2, 0, none⟩) hne _
    · simpa using (k2.far (p := ⟨g1, 0, none⟩) (Ne.symm hne) (.slice A n c)).put 0 (.bool true)
    · injection e with e
      subst e
      refine ⟨rfl, A, n, c, rfl, ho.same fun k hk => keep k ?_ ?_⟩
      · have := (ho.lt k hk).1; omega
      · have := (ho.lt k hk).1; omega
    · intro e
      rw [e] at hh
      rcases hh with h | h | h | h | ⟨cs, h⟩
      · omega
      · omega
      · exact h1g h
      · exact h1s h
      · exact n1 cs h
    · intro e
      rw [e] at hh
      rcases hh with h | h | h | h | ⟨cs, h⟩
      · omega
      · omega
      · exact h2g h
      · exact h2s h
      · exact n2 cs h
/-- What Solve gives. -/
def solveR (P : Pr) (limit : Int) : Option (List Int) × List Nd × Int :=
  if chkP P ≠ 0 then (none, [], chkP P) else if limit < 0 then (none, [], 1) else
    match (visitF P limit.toNat eachS P.fix.length P.fix 0 ⟨[nd0], 0, none⟩).2.s with
    | some l => (some l, [], 0)
    | none => if fullB limit.toNat (visitF P limit.toNat eachS P.fix.length P.fix 0 ⟨[nd0], 0, none⟩).2.looked = true then (none, [], 3) else (none, (visitF P limit.toNat eachS P.fix.length P.fix 0 ⟨[nd0], 0, none⟩).2.nds, 0)
def SolvePost (r : Option (List Int) × List Nd × Int) (w : World) (e : Ending) (w' : World) : Prop :=
  ∃ A n c An nn cn, e = .returned (.tuple #[.slice A n c, .agg #[.slice An nn cn], .bool r.1.isSome, .int .i64 r.2.2]) ∧ OwnI w' w.heap.size (.slice A n c) n (r.1.getD []) ∧
    (∃ ys : List NdS, ys.map (·.x) = r.2.1 ∧ OwnNs .u8 103 w' w.heap.size (.slice An nn cn) nn ys) ∧ Below w.heap.size w w'
theorem loadOne {P : Program} {w : World} {g : Nat} {t : TypeId} {v : Value} (hag : (isAgg t).run P w = .ok false w) (hb : Blk w g t #[v]) : (loadVar t ⟨g, 0, none⟩).run P w = .ok v w := by
  have hc : w.cell? ⟨g, 0, none⟩ = some v := (hb.cell 0).trans rfl
  simp [loadVar, hag, hc, go_sem]
theorem ret_solve {fn : Func} {R : Ending → World → Prop} {a : Act} {w : World} {p1 p2 p3 q : Tmp} (h : fn.results = #[.cell p1 30, .cell p2 46, .cell p3 4, .tmp q]) (g1 g3 g2 : Nat) (v u : Value) (b : Bool) (x : Value)
    (hp1 : a.tmps.getD p1 undef = .pointer (some ⟨g1, 0, none⟩)) (hp2 : a.tmps.getD p2 undef = .pointer (some ⟨g3, 0, none⟩)) (hp3 : a.tmps.getD p3 undef = .pointer (some ⟨g2, 0, none⟩)) (hx : a.tmps.getD q undef = x)
    (k1 : Blk w g1 30 #[v]) (k3 : Blk w g3 46 #[u]) (k2 : Blk w g2 4 #[.bool b]) (hd : a.defers = []) (hR : R (.returned (.tuple #[v, .agg #[u], .bool b, x])) w) : bodyPost Tryd.prog fn R .ret a w := by
  refine bodyPost_ret (v := .tuple #[v, .agg #[u], .bool b, x]) ?_ hd hR
  have l1 := loadOne (P := Tryd.prog) (Tryd.isAgg30 _) k1
  have l2 := run_loadVar_row w g3 _ 46 #[u] (0, 0) _ k3 Tryd.underlying46 rfl (by kernel_rfl)
  have l3 := loadOne (P := Tryd.prog) (Tryd.isAgg4 _) k2
  have hp1' : a.tmps[p1]?.getD undef = .pointer (some ⟨g1, 0, none⟩) := by simpa using hp1
  have hp2' : a.tmps[p2]?.getD undef = .pointer (some ⟨g3, 0, none⟩) := by simpa using hp2
  have hp3' : a.tmps[p3]?.getD undef = .pointer (some ⟨g2, 0, none⟩) := by simpa using hp3
  have hx' : a.tmps[q]?.getD undef = x := by simpa using hx
  simp [results, h, hp1', hp2', hp3', hx', asAddr, l1, l2, l3, Result.andThen]
theorem three_put {W : World} {g1 g3 g2 : Nat} {a1 a3 a2 : Value} (k1 : Blk W g1 30 #[a1]) (k3 : Blk W g3 46 #[a3]) (k2 : Blk W g2 4 #[a2]) (v u b : Value) :
    Blk (((W.setCell ⟨g1, 0, none⟩ v).setCell ⟨g3, 0, none⟩ u).setCell ⟨g2, 0, none⟩ b).drew g1 30 #[v] ∧ Blk (((W.setCell ⟨g1, 0, none⟩ v).setCell ⟨g3, 0, none⟩ u).setCell ⟨g2, 0, none⟩ b).drew g3 46 #[u] ∧ Blk (((W.setCell ⟨g1, 0, none⟩ v).setCell ⟨g3, 0, none⟩ u).setCell ⟨g2, 0, none⟩ b).drew g2 4 #[b] := by
  have n13 : g1 ≠ g3 := k1.apart k3 (by decide)
  have n12 : g1 ≠ g2 := k1.apart k2 (by decide)
  have n32 : g3 ≠ g2 := k3.apart k2 (by decide)
  have p1 : Blk (W.setCell ⟨g1, 0, none⟩ v) g1 30 #[v] := by simpa using k1.put 0 v
  have p3 : Blk ((W.setCell ⟨g1, 0, none⟩ v).setCell ⟨g3, 0, none⟩ u) g3 46 #[u] := by simpa using (k3.far (p := ⟨g1, 0, none⟩) (Ne.symm n13) v).put 0 u
  have p2 : Blk (((W.setCell ⟨g1, 0, none⟩ v).setCell ⟨g3, 0, none⟩ u).setCell ⟨g2, 0, none⟩ b) g2 4 #[b] := by simpa using ((k2.far (p := ⟨g1, 0, none⟩) (Ne.symm n12) v).far (p := ⟨g3, 0, none⟩) (Ne.symm n32) u).put 0 b
  exact ⟨(p1.far (p := ⟨g3, 0, none⟩) n13 u).far (p := ⟨g2, 0, none⟩) n12 b, p3.far (p := ⟨g2, 0, none⟩) n32 b, p2⟩
theorem three_keep (W : World) {g1 g3 g2 k : Nat} (h1 : k ≠ g1) (h3 : k ≠ g3) (h2 : k ≠ g2) (v u b : Value) : (((W.setCell ⟨g1, 0, none⟩ v).setCell ⟨g3, 0, none⟩ u).setCell ⟨g2, 0, none⟩ b).drew.heap[k]? = W.heap[k]? := by
  show (((W.setCell ⟨g1, 0, none⟩ v).setCell ⟨g3, 0, none⟩ u).setCell ⟨g2, 0, none⟩ b).heap[k]? = W.heap[k]?
  rw [Below.heap_setCell _ _ _ k h2, Below.heap_setCell _ _ _ k h3, Below.heap_setCell _ _ _ k h1]
theorem three_below {W w : World} {B g1 g3 g2 : Nat} (h : Below B w W) (h1 : B ≤ g1) (h3 : B ≤ g3) (h2 : B ≤ g2) (v u b : Value) : Below B w (((W.setCell ⟨g1, 0, none⟩ v).setCell ⟨g3, 0, none⟩ u).setCell ⟨g2, 0, none⟩ b).drew :=
  (((h.setCell (p := ⟨g1, 0, none⟩) h1 _).setCell (p := ⟨g3, 0, none⟩) h3 _).setCell (p := ⟨g2, 0, none⟩) h2 _).drew
set_option maxHeartbeats 8000000 in
set_option maxRecDepth 100000 in
/-- Solve. -/
theorem solve_any (p : PrV) (P : Pr) (limit : Int) (w : World) (h : PrAt w w.heap.size p P) (hT : Tab w) (hs : chkP P = 0 → P.elig.length ≤ 5 ∧ ∀ z : Nat, (memZ (eligA P z)).length ≤ 6) :
    Calls Tryd.prog 15 #[p.v, .int .i64 limit] w (SolvePost (solveR P limit) w) := by
  have hg0 : 0 < w.heap.size := World.block_lt_of_cell? w _ (hT 0 (by omega))
  have hck := fun (W : World) (hW : Below w.heap.size w W) => chkP_any p P W ((h.below hW).more hW.size)
  have hbeg := fun (W : World) (hW : Below w.heap.size w W) (hl : 0 ≤ limit) (hf : 0 < P.fix.length) => begin_any p P limit.toNat 41 (w.heap.size + 1) (w.heap.size + 1 + 1 + 1) W ((h.below hW).more hW.size) hf
  have H := Lib.hid h
  obtain ⟨p0, hp0⟩ : ∃ p0, Hid (p0 = p) := ⟨_, Lib.hid rfl⟩
  obtain ⟨⟨A1, n1, c1⟩, ⟨A2, n2, c2⟩, ⟨A3, n3, c3⟩, ⟨A4, n4, c4⟩, ⟨A5, n5, c5⟩⟩ := p
  unfold PrV.v Sl.v at hck ⊢
  simp only [] at hck ⊢
  have k0 := ((((Blk.new w 32 #[.slice A1 n1 c1, .slice A2 n2 c2, .slice A3 n3 c3, .slice A4 n4 c4, .slice A5 n5 c5]).alloc (.cells #[.slice none 0 0] 30)).alloc (.cells #[.slice none 0 0] 46)).alloc (.cells #[.bool false] 4))
  have k1 := (((Blk.mk' (g := w.heap.size + 1) (w := w.alloc (.cells #[.slice A1 n1 c1, .slice A2 n2 c2, .slice A3 n3 c3, .slice A4 n4 c4, .slice A5 n5 c5] 32)) (t := 30) (cs := #[.slice none 0 0]) (by simp)).alloc (.cells #[.slice none 0 0] 46)).alloc (.cells #[.bool false] 4))
  have k3 := ((Blk.mk' (g := w.heap.size + 1 + 1) (w := (w.alloc (.cells #[.slice A1 n1 c1, .slice A2 n2 c2, .slice A3 n3 c3, .slice A4 n4 c4, .slice A5 n5 c5] 32)).alloc (.cells #[.slice none 0 0] 30)) (t := 46) (cs := #[.slice none 0 0]) (by simp)).alloc (.cells #[.bool false] 4))
  have k2 := (Blk.mk' (g := w.heap.size + 1 + 1 + 1) (w := ((w.alloc (.cells #[.slice A1 n1 c1, .slice A2 n2 c2, .slice A3 n3 c3, .slice A4 n4 c4, .slice A5 n5 c5] 32)).alloc (.cells #[.slice none 0 0] 30)).alloc (.cells #[.slice none 0 0] 46)) (t := 4) (cs := #[.bool false]) (by simp))
  have b0 := bAl (bAl (bAl (bAl (Below.refl w.heap.size w) (.cells #[.slice A1 n1 c1, .slice A2 n2 c2, .slice A3 n3 c3, .slice A4 n4 c4, .slice A5 n5 c5] 32)) (.cells #[.slice none 0 0] 30)) (.cells #[.slice none 0 0] 46)) (.cells #[.bool false] 4)
  by_cases hc : chkP P = 0
  · have hcb : (chkP P != 0) = false := by simpa using hc
    obtain ⟨s5, s6⟩ := hs hc
    have ok := chkP_ok hc
    rw [hc] at hck
    by_cases hl : limit < 0
    · have e : solveR P limit = (none, [], 1) := by unfold solveR; rw [if_neg (by simpa using hc), if_pos hl]
      rw [e]
      clear hbeg hs e hcb hc ok
      go_enter Tryd.func15, Tryd.ntmps15
      go_wp2_with fail
      generalize ((((w.alloc (.cells #[.slice A1 n1 c1, .slice A2 n2 c2, .slice A3 n3 c3, .slice A4 n4 c4, .slice A5 n5 c5] 32)).alloc (.cells #[.slice none 0 0] 30)).alloc (.cells #[.slice none 0 0] 46)).alloc (.cells #[.bool false] 4)) = W1 at k0 k1 k3 k2 b0 ⊢
      refine (hck W1 b0).mono ?_
      rintro e W2 ⟨rfl, bb⟩
      have b1 := b0.trans (bb.mono b0.size)
      have k0 := k0.on bb
      have k1 := k1.on bb
      have k2 := k2.on bb
      have k3 := k3.on bb
      have y1 := (k1.cell 0).trans rfl
      have y2 := (k2.cell 0).trans rfl
      have y3 := (k3.cell 0).trans rfl
      have f1 := k1.frozen 0
      have f2 := k2.frozen 0
      have f3 := k3.frozen 0
      simp at y1 y2 y3
      clear bb hck
      go_wp2_with fail
      go_region
      go_wp2_with fail
      obtain ⟨q1, q3, q2⟩ := three_put k1 k3 k2 (.slice none 0 0) (.slice none 0 0) (.bool false)
      exact ret_solve rfl _ _ _ _ _ _ _ rfl rfl rfl rfl q1 q3 q2 rfl ⟨none, 0, 0, none, 0, 0, rfl, OwnI.nil _ _, ⟨[], rfl, OwnNs.nil _ _ _ _⟩, three_below b1 (by omega) (by omega) (by omega) _ _ _⟩
    · obtain ⟨lim, rfl⟩ : ∃ n : Nat, limit = (n : Int) := ⟨limit.toNat, by omega⟩
      have e : solveR P (lim : Int) = (match (visitF P lim eachS P.fix.length P.fix 0 ⟨[nd0], 0, none⟩).2.s with
        | some l => (some l, [], 0)
        | none => if fullB lim (visitF P lim eachS P.fix.length P.fix 0 ⟨[nd0], 0, none⟩).2.looked = true then (none, [], 3) else (none, (visitF P lim eachS P.fix.length P.fix 0 ⟨[nd0], 0, none⟩).2.nds, 0)) := by
        unfold solveR; rw [if_neg (by simpa using hc), if_neg hl]; rfl
      rw [e]
      rw [Int.toNat_natCast] at hbeg
      have hl' : ¬ (lim : Int) < 0 := hl
      have hl2 : (0 : Int) ≤ (lim : Int) := by omega
      have hfx := ok.fixl
      have hne := ok.n0
      have hvis := fun N g gs cS (h1N : w.heap.size + 1 < N) (h2N : w.heap.size + 1 + 1 + 1 < N) (h3N : w.heap.size + 1 + 1 < N) h1 h2 h3 h4 h5 h6 => visit_any (p := p0) (limit := lim) (cS := cS) (callerS (B := w.heap.size) (N := N) (g := g) (gs := gs) (g1 := w.heap.size + 1) (g2 := w.heap.size + 1 + 1 + 1) (g3 := w.heap.size + 1 + 1) (by omega) h1N (by omega) h2N h1 h2 h3 h4 h3N h5 h6) hc 6 s6 P.fix.length P.fix (openN_le _) hfx
      have hbv : bV 6 P.fix.length ≤ 55986 := (by decide : ∀ n, n ≤ 5 → bV 6 n ≤ 55986) _ (by omega)
      have hbg := fun W hW => hbeg W hW hl2 (by omega)
      unfold PrV.v Sl.v at hbg
      simp only [] at hbg
      have Hvis := Lib.hid hvis
      have Hbv := Lib.hid hbv
      obtain ⟨r, hr⟩ : ∃ r, Hid (r = visitF P lim eachS P.fix.length P.fix 0 ⟨[nd0], 0, none⟩) := ⟨_, Lib.hid rfl⟩
      rw [← hr.out]
      have hT3 := Lib.hid hT
      clear hvis hbv hbeg hs e hcb hc ok hne hfx s6 s5 h hT
      cases hrs : r.2.s with
      | some l =>
        simp only []
        have Hrs := Lib.hid hrs
        clear hrs
        go_enter Tryd.func15, Tryd.ntmps15
        go_wp2_with fail
        generalize ((((w.alloc (.cells #[.slice A1 n1 c1, .slice A2 n2 c2, .slice A3 n3 c3, .slice A4 n4 c4, .slice A5 n5 c5] 32)).alloc (.cells #[.slice none 0 0] 30)).alloc (.cells #[.slice none 0 0] 46)).alloc (.cells #[.bool false] 4)) = W1 at k0 k1 k3 k2 b0 ⊢
        refine (hck W1 b0).mono ?_
        rintro e W2 ⟨rfl, bb⟩
        have b1 := b0.trans (bb.mono b0.size)
        have k0 := k0.on bb
        have k1 := k1.on bb
        have k2 := k2.on bb
        have k3 := k3.on bb
        clear bb hck
        have x0 : W2.cell? ⟨w.heap.size, 0, none⟩ = some (.slice A1 n1 c1) := (k0.cell 0).trans rfl
        have x1 : W2.cell? ⟨w.heap.size, 1, none⟩ = some (.slice A2 n2 c2) := (k0.cell 1).trans rfl
        have x2 : W2.cell? ⟨w.heap.size, 2, none⟩ = some (.slice A3 n3 c3) := (k0.cell 2).trans rfl
        have x3 : W2.cell? ⟨w.heap.size, 3, none⟩ = some (.slice A4 n4 c4) := (k0.cell 3).trans rfl
        have x4 : W2.cell? ⟨w.heap.size, 4, none⟩ = some (.slice A5 n5 c5) := (k0.cell 4).trans rfl
        have hlb : decide ((lim : Int) < 0) = false := by simp
        go_wp2_with fail
        clear x0 x1 x2 x3 x4 k0 hlb
        have hb6 := hbg W2 b1
        refine hb6.mono ?_
        rintro e W3 ⟨g, gs, cS, sl, rfl, hB⟩
        have b3 := b1.trans (hB.low.mono b1.size)
        have lt1 := k1.lt
        have lt2 := k2.lt
        have lt3 := k3.lt
        have k1 := k1.on hB.low
        have k2 := k2.on hB.low
        have k3 := k3.on hB.low
        have hgB := hB.gB
        have hrowB : ∀ k, sl.v.ownBlock = some k → W2.heap.size ≤ k := fun k hk => (hB.row.lt k hk).1
        have hgN := hB.blk.lt
        have hgs := hB.stf.lt gs rfl
        have hne9 : g ≠ gs := by
          obtain ⟨cs, hb9, _⟩ := own_type hB.stf rfl
          exact hB.blk.apart hb9 (by decide)
        have hS : Sch (EIS (w.heap.size + 1) (w.heap.size + 1 + 1 + 1) (w.heap.size + 1 + 1) W3.heap.size) p0 P lim (.func (.func 41) #[] #[.pointer (some ⟨w.heap.size + 1, 0, none⟩), .pointer (some ⟨w.heap.size + 1 + 1 + 1, 0, none⟩)]) w.heap.size W3.heap.size g gs cS W3 P.fix sl [nd0S] ⟨[nd0], 0, none⟩ := by
          rw [hp0.out]
          refine ⟨hB.blk, OwnI.more hB.stf b1.size, ?_, fun y hy => ?_, rfl, H.out.below b3, ⟨_, _, k1, k2, k3, fun _ => ⟨rfl, rfl⟩, fun l e => by cases e⟩, Nat.le_refl _, Nat.le_trans b1.size hgB, hgN, Nat.le_trans b1.size hgs.1, hgs.2, hne9, hT3.out.below b3 hg0, hg0⟩
          · have := own_less hB.row b1.size
            simpa using this
          · obtain rfl : y = nd0S := by simpa using hy
            exact ⟨by decide, OwnI.nil _ _, OwnI.nil _ _, by decide, by decide⟩
        have hv := Hvis.out W3.heap.size g gs cS (by omega) (by omega) (by omega) (by omega) (by omega) (by omega) (by omega) (by omega) (by omega) 0 ⟨[nd0], 0, none⟩ W3 sl [nd0S] (by simp) (by have := Hbv.out; simp; omega) (by have := Hbv.out; simp; omega) rfl hS
        rw [← hr.out] at hv
        clear hS Hvis hB k1 k2 k3 hb6 hbg hr
        go_wp2_with fail
        refine hv.mono ?_
        rintro e W4 ⟨rfl, st', ⟨slA, sln, slc⟩, ys', hS, -, hM, -⟩
        have hlow : Below w.heap.size w W4 := b3.trans (hM.low (by omega) (fun k hk => Nat.le_trans b1.size (hrowB k hk)))
        obtain ⟨v, bb, k1, k2, k3, en, es⟩ := hS.ei
        have hfull := full_any g lim r.2.looked W4 ((hS.blk.cell 7).trans rfl) ((hS.blk.cell 8).trans rfl)
        have y3 := (k3.cell 0).trans rfl
        have f1 := k1.frozen 0
        have f2 := k2.frozen 0
        have f3 := k3.frozen 0
        have y1 : W4.cell? ⟨w.heap.size + 1, 0, none⟩ = some v := (k1.cell 0).trans rfl
        have y2 : W4.cell? ⟨w.heap.size + 1 + 1 + 1, 0, none⟩ = some (.bool bb) := (k2.cell 0).trans rfl
        simp at y3
        have hn9 : ys'.length = sln := hS.len
        obtain ⟨rfl, A, n, c, rfl, ho⟩ := es l Hrs.out
        clear en es hfull
        go_wp2_with fail
        go_region
        all_goals (go_wp2_with fail)
        all_goals (
          obtain ⟨q1, q3, q2⟩ := three_put k1 k3 k2 (.slice A n c) (.slice none 0 0) (.bool true)
          have b9 := three_below hlow (g1 := w.heap.size + 1) (g3 := w.heap.size + 1 + 1) (g2 := w.heap.size + 1 + 1 + 1) (by omega) (by omega) (by omega) (.slice A n c) (.slice none 0 0) (.bool true)
          refine ret_solve rfl _ _ _ _ _ _ _ rfl rfl rfl rfl q1 q3 q2 rfl ⟨A, n, c, none, 0, 0, rfl, ?_, ⟨[], rfl, OwnNs.nil _ _ _ _⟩, b9⟩
          exact OwnI.more (OwnI.same ho fun k hk => three_keep W4 (by have := (ho.lt k hk).1; omega) (by have := (ho.lt k hk).1; omega) (by have := (ho.lt k hk).1; omega) _ _ _) (by omega))
      | none =>
        simp only []
        have Hrs := Lib.hid hrs
        clear hrs
        by_cases hfu : fullB lim r.2.looked = true
        · rw [if_pos hfu]
          have Hfu := Lib.hid hfu
          clear hfu
          go_enter Tryd.func15, Tryd.ntmps15
          go_wp2_with fail
          generalize ((((w.alloc (.cells #[.slice A1 n1 c1, .slice A2 n2 c2, .slice A3 n3 c3, .slice A4 n4 c4, .slice A5 n5 c5] 32)).alloc (.cells #[.slice none 0 0] 30)).alloc (.cells #[.slice none 0 0] 46)).alloc (.cells #[.bool false] 4)) = W1 at k0 k1 k3 k2 b0 ⊢
          refine (hck W1 b0).mono ?_
          rintro e W2 ⟨rfl, bb⟩
          have b1 := b0.trans (bb.mono b0.size)
          have k0 := k0.on bb
          have k1 := k1.on bb
          have k2 := k2.on bb
          have k3 := k3.on bb
          clear bb hck
          have x0 : W2.cell? ⟨w.heap.size, 0, none⟩ = some (.slice A1 n1 c1) := (k0.cell 0).trans rfl
          have x1 : W2.cell? ⟨w.heap.size, 1, none⟩ = some (.slice A2 n2 c2) := (k0.cell 1).trans rfl
          have x2 : W2.cell? ⟨w.heap.size, 2, none⟩ = some (.slice A3 n3 c3) := (k0.cell 2).trans rfl
          have x3 : W2.cell? ⟨w.heap.size, 3, none⟩ = some (.slice A4 n4 c4) := (k0.cell 3).trans rfl
          have x4 : W2.cell? ⟨w.heap.size, 4, none⟩ = some (.slice A5 n5 c5) := (k0.cell 4).trans rfl
          have hlb : decide ((lim : Int) < 0) = false := by simp
          go_wp2_with fail
          clear x0 x1 x2 x3 x4 k0 hlb
          have hb6 := hbg W2 b1
          refine hb6.mono ?_
          rintro e W3 ⟨g, gs, cS, sl, rfl, hB⟩
          have b3 := b1.trans (hB.low.mono b1.size)
          have lt1 := k1.lt
          have lt2 := k2.lt
          have lt3 := k3.lt
          have k1 := k1.on hB.low
          have k2 := k2.on hB.low
          have k3 := k3.on hB.low
          have hgB := hB.gB
          have hrowB : ∀ k, sl.v.ownBlock = some k → W2.heap.size ≤ k := fun k hk => (hB.row.lt k hk).1
          have hgN := hB.blk.lt
          have hgs := hB.stf.lt gs rfl
          have hne9 : g ≠ gs := by
            obtain ⟨cs, hb9, _⟩ := own_type hB.stf rfl
            exact hB.blk.apart hb9 (by decide)
          have hS : Sch (EIS (w.heap.size + 1) (w.heap.size + 1 + 1 + 1) (w.heap.size + 1 + 1) W3.heap.size) p0 P lim (.func (.func 41) #[] #[.pointer (some ⟨w.heap.size + 1, 0, none⟩), .pointer (some ⟨w.heap.size + 1 + 1 + 1, 0, none⟩)]) w.heap.size W3.heap.size g gs cS W3 P.fix sl [nd0S] ⟨[nd0], 0, none⟩ := by
            rw [hp0.out]
            refine ⟨hB.blk, OwnI.more hB.stf b1.size, ?_, fun y hy => ?_, rfl, H.out.below b3, ⟨_, _, k1, k2, k3, fun _ => ⟨rfl, rfl⟩, fun l e => by cases e⟩, Nat.le_refl _, Nat.le_trans b1.size hgB, hgN, Nat.le_trans b1.size hgs.1, hgs.2, hne9, hT3.out.below b3 hg0, hg0⟩
            · have := own_less hB.row b1.size
              simpa using this
            · obtain rfl : y = nd0S := by simpa using hy
              exact ⟨by decide, OwnI.nil _ _, OwnI.nil _ _, by decide, by decide⟩
          have hv := Hvis.out W3.heap.size g gs cS (by omega) (by omega) (by omega) (by omega) (by omega) (by omega) (by omega) (by omega) (by omega) 0 ⟨[nd0], 0, none⟩ W3 sl [nd0S] (by simp) (by have := Hbv.out; simp; omega) (by have := Hbv.out; simp; omega) rfl hS
          rw [← hr.out] at hv
          clear hS Hvis hB k1 k2 k3 hb6 hbg hr
          go_wp2_with fail
          refine hv.mono ?_
          rintro e W4 ⟨rfl, st', ⟨slA, sln, slc⟩, ys', hS, -, hM, -⟩
          have hlow : Below w.heap.size w W4 := b3.trans (hM.low (by omega) (fun k hk => Nat.le_trans b1.size (hrowB k hk)))
          obtain ⟨v, bb, k1, k2, k3, en, es⟩ := hS.ei
          have hfull := full_any g lim r.2.looked W4 ((hS.blk.cell 7).trans rfl) ((hS.blk.cell 8).trans rfl)
          have y3 := (k3.cell 0).trans rfl
          have f1 := k1.frozen 0
          have f2 := k2.frozen 0
          have f3 := k3.frozen 0
          have y1 : W4.cell? ⟨w.heap.size + 1, 0, none⟩ = some v := (k1.cell 0).trans rfl
          have y2 : W4.cell? ⟨w.heap.size + 1 + 1 + 1, 0, none⟩ = some (.bool bb) := (k2.cell 0).trans rfl
          simp at y3
          have hn9 : ys'.length = sln := hS.len
          obtain ⟨rfl, rfl⟩ := en Hrs.out
          clear en es
          have hfu := Hfu.out
          rw [hfu] at hfull
          clear hfu
          go_wp2_with fail
          refine hfull.mono ?_
          rintro e W5 ⟨rfl, qd, rfl⟩
          have bd := below_drewN (Below.refl W4.heap.size W4) qd
          have k1 := k1.on bd
          have k2 := k2.on bd
          have k3 := k3.on bd
          have hlow := hlow.trans (bd.mono hlow.size)
          clear hfull bd y1 y2 y3 f1 f2 f3
          generalize W4.drewN qd = W6 at k1 k2 k3 hlow ⊢
          have y3 := (k3.cell 0).trans rfl
          have f1 := k1.frozen 0
          have f2 := k2.frozen 0
          have f3 := k3.frozen 0
          have y1 : W6.cell? ⟨w.heap.size + 1, 0, none⟩ = some (.slice none 0 0) := (k1.cell 0).trans rfl
          have y2 : W6.cell? ⟨w.heap.size + 1 + 1 + 1, 0, none⟩ = some (.bool false) := (k2.cell 0).trans rfl
          simp at y3
          go_wp2_with fail
          go_region
          all_goals (go_wp2_with fail)
          all_goals (
            obtain ⟨q1, q3, q2⟩ := three_put k1 k3 k2 (.slice none 0 0) (.slice none 0 0) (.bool false)
            have b9 := three_below hlow (g1 := w.heap.size + 1) (g3 := w.heap.size + 1 + 1) (g2 := w.heap.size + 1 + 1 + 1) (by omega) (by omega) (by omega) (.slice none 0 0) (.slice none 0 0) (.bool false)
            exact ret_solve rfl _ _ _ _ _ _ _ rfl rfl rfl rfl q1 q3 q2 rfl ⟨none, 0, 0, none, 0, 0, rfl, OwnI.nil _ _, ⟨[], rfl, OwnNs.nil _ _ _ _⟩, b9⟩)
        · rw [if_neg hfu]
          have Hfu := Lib.hid hfu
          clear hfu
          go_enter Tryd.func15, Tryd.ntmps15
          go_wp2_with fail
          generalize ((((w.alloc (.cells #[.slice A1 n1 c1, .slice A2 n2 c2, .slice A3 n3 c3, .slice A4 n4 c4, .slice A5 n5 c5] 32)).alloc (.cells #[.slice none 0 0] 30)).alloc (.cells #[.slice none 0 0] 46)).alloc (.cells #[.bool false] 4)) = W1 at k0 k1 k3 k2 b0 ⊢
          refine (hck W1 b0).mono ?_
          rintro e W2 ⟨rfl, bb⟩
          have b1 := b0.trans (bb.mono b0.size)
          have k0 := k0.on bb
          have k1 := k1.on bb
          have k2 := k2.on bb
          have k3 := k3.on bb
          clear bb hck
          have x0 : W2.cell? ⟨w.heap.size, 0, none⟩ = some (.slice A1 n1 c1) := (k0.cell 0).trans rfl
          have x1 : W2.cell? ⟨w.heap.size, 1, none⟩ = some (.slice A2 n2 c2) := (k0.cell 1).trans rfl
          have x2 : W2.cell? ⟨w.heap.size, 2, none⟩ = some (.slice A3 n3 c3) := (k0.cell 2).trans rfl
          have x3 : W2.cell? ⟨w.heap.size, 3, none⟩ = some (.slice A4 n4 c4) := (k0.cell 3).trans rfl
          have x4 : W2.cell? ⟨w.heap.size, 4, none⟩ = some (.slice A5 n5 c5) := (k0.cell 4).trans rfl
          have hlb : decide ((lim : Int) < 0) = false := by simp
          go_wp2_with fail
          clear x0 x1 x2 x3 x4 k0 hlb
          have hb6 := hbg W2 b1
          refine hb6.mono ?_
          rintro e W3 ⟨g, gs, cS, sl, rfl, hB⟩
          have b3 := b1.trans (hB.low.mono b1.size)
          have lt1 := k1.lt
          have lt2 := k2.lt
          have lt3 := k3.lt
          have k1 := k1.on hB.low
          have k2 := k2.on hB.low
          have k3 := k3.on hB.low
          have hgB := hB.gB
          have hrowB : ∀ k, sl.v.ownBlock = some k → W2.heap.size ≤ k := fun k hk => (hB.row.lt k hk).1
          have hgN := hB.blk.lt
          have hgs := hB.stf.lt gs rfl
          have hne9 : g ≠ gs := by
            obtain ⟨cs, hb9, _⟩ := own_type hB.stf rfl
            exact hB.blk.apart hb9 (by decide)
          have hS : Sch (EIS (w.heap.size + 1) (w.heap.size + 1 + 1 + 1) (w.heap.size + 1 + 1) W3.heap.size) p0 P lim (.func (.func 41) #[] #[.pointer (some ⟨w.heap.size + 1, 0, none⟩), .pointer (some ⟨w.heap.size + 1 + 1 + 1, 0, none⟩)]) w.heap.size W3.heap.size g gs cS W3 P.fix sl [nd0S] ⟨[nd0], 0, none⟩ := by
            rw [hp0.out]
            refine ⟨hB.blk, OwnI.more hB.stf b1.size, ?_, fun y hy => ?_, rfl, H.out.below b3, ⟨_, _, k1, k2, k3, fun _ => ⟨rfl, rfl⟩, fun l e => by cases e⟩, Nat.le_refl _, Nat.le_trans b1.size hgB, hgN, Nat.le_trans b1.size hgs.1, hgs.2, hne9, hT3.out.below b3 hg0, hg0⟩
            · have := own_less hB.row b1.size
              simpa using this
            · obtain rfl : y = nd0S := by simpa using hy
              exact ⟨by decide, OwnI.nil _ _, OwnI.nil _ _, by decide, by decide⟩
          have hv := Hvis.out W3.heap.size g gs cS (by omega) (by omega) (by omega) (by omega) (by omega) (by omega) (by omega) (by omega) (by omega) 0 ⟨[nd0], 0, none⟩ W3 sl [nd0S] (by simp) (by have := Hbv.out; simp; omega) (by have := Hbv.out; simp; omega) rfl hS
          rw [← hr.out] at hv
          clear hS Hvis hB k1 k2 k3 hb6 hbg hr
          go_wp2_with fail
          refine hv.mono ?_
          rintro e W4 ⟨rfl, st', ⟨slA, sln, slc⟩, ys', hS, -, hM, -⟩
          have hlow : Below w.heap.size w W4 := b3.trans (hM.low (by omega) (fun k hk => Nat.le_trans b1.size (hrowB k hk)))
          obtain ⟨v, bb, k1, k2, k3, en, es⟩ := hS.ei
          have hfull := full_any g lim r.2.looked W4 ((hS.blk.cell 7).trans rfl) ((hS.blk.cell 8).trans rfl)
          have y3 := (k3.cell 0).trans rfl
          have f1 := k1.frozen 0
          have f2 := k2.frozen 0
          have f3 := k3.frozen 0
          have y1 : W4.cell? ⟨w.heap.size + 1, 0, none⟩ = some v := (k1.cell 0).trans rfl
          have y2 : W4.cell? ⟨w.heap.size + 1 + 1 + 1, 0, none⟩ = some (.bool bb) := (k2.cell 0).trans rfl
          simp at y3
          have hn9 : ys'.length = sln := hS.len
          obtain ⟨rfl, rfl⟩ := en Hrs.out
          clear en es
          have hfu := Hfu.out
          have hfu' : fullB lim r.2.looked = false := by simpa using hfu
          rw [hfu'] at hfull
          clear hfu hfu'
          go_wp2_with fail
          refine hfull.mono ?_
          rintro e W5 ⟨rfl, qd, rfl⟩
          have bd := below_drewN (Below.refl W4.heap.size W4) qd
          have hns : OwnNs .u8 103 (W4.drewN qd) w.heap.size (.slice slA sln slc) sln ys' := ⟨own_on hS.row bd, fun y hy => ((hS.nd y hy).less (by omega)).on bd⟩
          have hxs := hS.xs
          have kg := hS.blk.on bd
          have k1 := k1.on bd
          have k2 := k2.on bd
          have k3 := k3.on bd
          have hlow := hlow.trans (bd.mono hlow.size)
          clear hfull bd y1 y2 y3 f1 f2 f3 hS
          generalize W4.drewN qd = W6 at k1 k2 k3 hlow hns kg ⊢
          have y3 := (k3.cell 0).trans rfl
          have f1 := k1.frozen 0
          have f2 := k2.frozen 0
          have f3 := k3.frozen 0
          have y1 : W6.cell? ⟨w.heap.size + 1, 0, none⟩ = some (.slice none 0 0) := (k1.cell 0).trans rfl
          have y2 : W6.cell? ⟨w.heap.size + 1 + 1 + 1, 0, none⟩ = some (.bool false) := (k2.cell 0).trans rfl
          have x6 : W6.cell? ⟨g, 6, none⟩ = some (.slice slA sln slc) := (kg.cell 6).trans rfl
          simp at y3
          have Hxs := Lib.hid hxs
          clear hxs
          go_wp2_with fail
          go_region
          all_goals (go_wp2_with fail)
          all_goals (
            obtain ⟨q1, q3, q2⟩ := three_put k1 k3 k2 (.slice none 0 0) (.slice slA sln slc) (.bool false)
            have b9 := three_below hlow (g1 := w.heap.size + 1) (g3 := w.heap.size + 1 + 1) (g2 := w.heap.size + 1 + 1 + 1) (by omega) (by omega) (by omega) (.slice none 0 0) (.slice slA sln slc) (.bool false)
            refine ret_solve rfl _ _ _ _ _ _ _ rfl rfl rfl rfl q1 q3 q2 rfl ⟨none, 0, 0, slA, sln, slc, rfl, OwnI.nil _ _, ⟨ys', Hxs.out, ?_⟩, b9⟩
            exact (((hns.put k1 (by decide) (by decide) _).put (by simpa using k3.far (p := ⟨w.heap.size + 1, 0, none⟩) (by simp) (.slice none 0 0)) (by decide) (by decide) _).put (by exact ((k2.far (p := ⟨w.heap.size + 1, 0, none⟩) (by simp; omega) (.slice none 0 0)).far (p := ⟨w.heap.size + 1 + 1, 0, none⟩) (by simp) (.slice slA sln slc))) (by decide) (by decide) _).on ((Below.refl _ _).drew))
  · have e : solveR P limit = (none, [], chkP P) := by unfold solveR; rw [if_pos hc]
    rw [e]
    have hcb : (chkP P != 0) = true := by simpa using hc
    generalize chkP P = cc at hck hcb
    clear hbeg hs e hc
    go_enter Tryd.func15, Tryd.ntmps15
    go_wp2_with fail
    generalize ((((w.alloc (.cells #[.slice A1 n1 c1, .slice A2 n2 c2, .slice A3 n3 c3, .slice A4 n4 c4, .slice A5 n5 c5] 32)).alloc (.cells #[.slice none 0 0] 30)).alloc (.cells #[.slice none 0 0] 46)).alloc (.cells #[.bool false] 4)) = W1 at k0 k1 k3 k2 b0 ⊢
    refine (hck W1 b0).mono ?_
    rintro e W2 ⟨rfl, bb⟩
    have b1 := b0.trans (bb.mono b0.size)
    have k0 := k0.on bb
    have k1 := k1.on bb
    have k2 := k2.on bb
    have k3 := k3.on bb
    have y1 := (k1.cell 0).trans rfl
    have y2 := (k2.cell 0).trans rfl
    have y3 := (k3.cell 0).trans rfl
    have f1 := k1.frozen 0
    have f2 := k2.frozen 0
    have f3 := k3.frozen 0
    simp at y1 y2 y3
    clear bb hck
    go_wp2_with fail
    go_region
    go_wp2_with fail
    obtain ⟨q1, q3, q2⟩ := three_put k1 k3 k2 (.slice none 0 0) (.slice none 0 0) (.bool false)
    exact ret_solve rfl _ _ _ _ _ _ _ rfl rfl rfl rfl q1 q3 q2 rfl ⟨none, 0, 0, none, 0, 0, rfl, OwnI.nil _ _, ⟨[], rfl, OwnNs.nil _ _ _ _⟩, three_below b1 (by omega) (by omega) (by omega) _ _ _⟩
end Go.Proofs.YtfnhaoindehjdaaDoor
