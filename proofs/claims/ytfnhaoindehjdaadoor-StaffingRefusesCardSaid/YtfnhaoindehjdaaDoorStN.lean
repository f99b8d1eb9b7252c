/- Count. -/
import Derived.Test.YtfnhaoindehjdaaDoorStW
namespace Go.Proofs.YtfnhaoindehjdaaDoor
open Go.RowKit
set_option linter.unusedVariables false
set_option linter.unusedSimpArgs false

/-- What Count's closure does. -/
def eachW (limit k : Int) (l : List Int) : Bool × Int := (decide (limit < wrap64 (k + 1)), wrap64 (k + 1))
theorem each2w_any (A : Option Addr) (n c g1 g2 : Nat) (k limit : Int) (w : World) (h1 : Blk w g1 3 #[.int .i64 k]) (h2 : Blk w g2 3 #[.int .i64 limit]) (hne : g1 ≠ g2) :
    Calls Tryd.prog 39 #[.slice A n c, .pointer (some ⟨g1, 0, none⟩), .pointer (some ⟨g2, 0, none⟩)] w fun e w' => e = .returned (.bool (eachW limit k []).1) ∧ w' = w.setCell ⟨g1, 0, none⟩ (.int .i64 (eachW limit k []).2) := by
  have hne' : g2 ≠ g1 := Ne.symm hne
  have c1 := h1.cell 0
  have c2 := h2.cell 0
  have f1 := h1.frozen 0
  simp at c1 c2
  unfold eachW
  go_enter Tryd.func39, Tryd.ntmps39
  go_wp2_with fail
  go_ret
  exact ⟨rfl, rfl⟩
def EIC (limit : Int) (g1 g2 : Nat) (s : Int) (w : World) : Prop := Blk w g1 3 #[.int .i64 s] ∧ Blk w g2 3 #[.int .i64 limit]
theorem callerC {limit : Int} {g1 g2 B N g gs : Nat} (h1B : B ≤ g1) (h1N : g1 < N) (h2N : g2 < N) (h1g : g1 ≠ g) (h1s : g1 ≠ gs) (h2g : g2 ≠ g) (h2s : g2 ≠ gs) (h12 : g1 ≠ g2) :
    CallerOk (fun _ => True) (EIC limit g1 g2) (eachW limit) 39 g1 g2 B N g gs where
  keep s w w' hs hE hk := by
    obtain ⟨k1, k2⟩ := hE
    have n1 : ∀ cs, ¬ Blk w g1 103 cs := fun cs h => (Blk.apart k1 h (by decide)) rfl
    have n2 : ∀ cs, ¬ Blk w g2 103 cs := fun cs h => (Blk.apart k2 h (by decide)) rfl
    exact ⟨(hk.same g1 k1.lt h1N h1g h1s n1).trans k1, (hk.same g2 k2.lt h2N h2g h2s n2).trans k2⟩
  ent := enters_of Tryd.func39 (by kernel_rfl) rfl
  alive s l h := trivial
  call s w A n c l hs hE hN ho hn := by
    obtain ⟨k1, k2⟩ := hE
    refine (each2w_any A n c g1 g2 s limit w k1 k2 h12).mono ?_
    rintro e w' ⟨rfl, rfl⟩
    have n1 : ∀ cs, ¬ Blk w g1 103 cs := fun cs h => (Blk.apart k1 h (by decide)) rfl
    refine ⟨rfl, ⟨?_, k2.far (p := ⟨g1, 0, none⟩) (Ne.symm h12) _⟩, ⟨rfl, rfl, rfl, by simp, fun k hk hh => Below.heap_setCell _ _ _ k ?_⟩⟩
    · have h9 := k1.put 0 (.int .i64 (eachW limit s []).2)
      simp only [List.setIfInBounds_toArray, List.set_cons_zero] at h9
      exact h9
    · intro e
      have e : k = g1 := e
      rw [e] at hh
      rcases hh with h | h | h | h | ⟨cs, h⟩
      · omega
      · omega
      · exact h1g h
      · exact h1s h
      · exact n1 cs h
/-- No list is longer. -/
theorem flatMap_len {α β : Type} {f : α → List β} {b : Nat} : ∀ {l : List α}, (∀ x ∈ l, (f x).length ≤ b) → (l.flatMap f).length ≤ l.length * b
  | [], _ => by simp
  | x :: l, h => by
    have h1 := h x (by simp)
    have h2 := flatMap_len (l := l) fun y hy => h y (by simp [hy])
    rw [List.flatMap_cons, List.length_append, List.length_cons, Nat.succ_mul]
    omega
theorem solsF_len {P : Pr} (ok : PrOk P) (hK : ∀ z : Nat, (memZ (eligA P z)).length ≤ 6) : ∀ (m : Nat) (st : List Int), openN st ≤ m → (solsF P m st).length ≤ 6 ^ m := by
  have hB : ∀ (rec : List Int → List (List Int)) (st : List Int) (b : Nat), 1 ≤ b → (∀ z, idx0 st = some z → ∀ u ∈ memZ (eligA P z), (rec (st.set z u)).length ≤ b) → (solsB P rec st).length ≤ b ∨ (idx0 st ≠ none ∧ (solsB P rec st).length ≤ 6 * b) := by
    intro rec st b h1 h
    unfold solsB
    split
    · exact .inl (Nat.zero_le _)
    · cases hz : idx0 st with
      | none => exact .inl h1
      | some z =>
        refine .inr ⟨by simp, ?_⟩
        have h2 := flatMap_len (l := memZ (eligA P z)) (h z hz)
        have h3 := Nat.mul_le_mul_right b (hK z)
        exact Nat.le_trans h2 h3
  intro m
  induction m with
  | zero =>
    intro st hm
    rcases hB (fun _ => []) st 1 (Nat.le_refl _) (fun z hz => by rw [openN_zero hm] at hz; cases hz) with h | ⟨h, _⟩
    · exact h
    · exact absurd (openN_zero hm) h
  | succ m ih =>
    intro st hm
    have h6 : 1 ≤ 6 ^ m := Nat.pow_pos (by decide)
    have e : 6 ^ (m + 1) = 6 * 6 ^ m := by rw [Nat.pow_succ, Nat.mul_comm]
    rcases hB (solsF P m) st (6 ^ m) h6 (fun z hz u hu => ih _ (by
      obtain ⟨z1, z2, _⟩ := idx0_some hz
      have hu1 := memZ_user ok hu
      have := openN_set (u := u) z1 z2 (by omega)
      omega)) with h | ⟨_, h⟩
    · show (solsB P (solsF P m) st).length ≤ _
      omega
    · show (solsB P (solsF P m) st).length ≤ _
      omega
theorem runS_W (limit : Int) : ∀ (ls : List (List Int)) (n : Nat), n + ls.length ≤ 1000000000 → (n : Int) ≤ limit → ∃ q : Nat, runS (eachW limit) (n : Int) ls = (decide (limit < ((n + ls.length : Nat) : Int)), (q : Int)) ∧ (¬ limit < ((n + ls.length : Nat) : Int) → q = n + ls.length) ∧ (limit < ((n + ls.length : Nat) : Int) → limit < (q : Int))
  | [], n, _, h => ⟨n, by rw [runS]; simp; omega, fun _ => rfl, fun h' => by simp at h'; omega⟩
  | l :: ls, n, hb, h => by
    rw [List.length_cons] at hb ⊢
    have hw : wrap64 ((n : Int) + 1) = ((n + 1 : Nat) : Int) := by unfold wrap64; omega
    have e1 : (eachW limit (n : Int) l) = (decide (limit < ((n + 1 : Nat) : Int)), ((n + 1 : Nat) : Int)) := by unfold eachW; rw [hw]
    rw [runS, e1]
    by_cases hc : limit < ((n + 1 : Nat) : Int)
    · simp only [hc, decide_true, if_true]
      exact ⟨n + 1, by rw [decide_eq_true (by omega)], fun h' => absurd (by omega) h', fun _ => hc⟩
    · simp only [hc, decide_false, Bool.false_eq_true, if_false]
      obtain ⟨q, h1, h2, h3⟩ := runS_W limit ls (n + 1) (by omega) (by omega)
      rw [show n + 1 + ls.length = n + (ls.length + 1) by omega] at h1 h2 h3
      exact ⟨q, h1, h2, h3⟩
/-- What Count gives. -/
def countR (P : Pr) (limit : Int) : Int × Int :=
  if chkP P ≠ 0 then (0, chkP P) else if limit < 1 then (0, 1) else if limit < ((solsL P).length : Int) then (0, 3) else (((solsL P).length : Int), 0)
set_option maxHeartbeats 8000000 in
set_option maxRecDepth 100000 in
/-- Count. -/
theorem count_any (p : PrV) (P : Pr) (limit : Int) (w : World) (h : PrAt w w.heap.size p P) (hT : Tab w) (hs : chkP P = 0 → P.elig.length ≤ 5 ∧ ∀ z : Nat, (memZ (eligA P z)).length ≤ 6) :
    Calls Tryd.prog 14 #[p.v, .int .i64 limit] w fun e w' => e = .returned (.tuple #[.int .i64 (countR P limit).1, .int .i64 (countR P limit).2]) ∧ Below w.heap.size w w' := by
  have hg0 : 0 < w.heap.size := World.block_lt_of_cell? w _ (hT 0 (by omega))
  have hck := fun (W : World) (hW : Below w.heap.size w W) => chkP_any p P W ((h.below hW).more hW.size)
  have hbeg := fun (W : World) (gn : Nat) (hW : Below w.heap.size w W) (hf : 0 < P.fix.length) => begin_any p P 0 39 gn (w.heap.size + 1) W ((h.below hW).more hW.size) hf
  have H := Lib.hid h
  obtain ⟨p0, hp0⟩ : ∃ p0, Hid (p0 = p) := ⟨_, Lib.hid rfl⟩
  obtain ⟨⟨A1, n1, c1⟩, ⟨A2, n2, c2⟩, ⟨A3, n3, c3⟩, ⟨A4, n4, c4⟩, ⟨A5, n5, c5⟩⟩ := p
  unfold PrV.v Sl.v at hck ⊢
  simp only [] at hck ⊢
  have k0 := ((Blk.new w 32 #[.slice A1 n1 c1, .slice A2 n2 c2, .slice A3 n3 c3, .slice A4 n4 c4, .slice A5 n5 c5]).alloc (.cells #[.int .i64 limit] 3))
  have k2 := (Blk.mk' (g := w.heap.size + 1) (w := w.alloc (.cells #[.slice A1 n1 c1, .slice A2 n2 c2, .slice A3 n3 c3, .slice A4 n4 c4, .slice A5 n5 c5] 32)) (t := 3) (cs := #[.int .i64 limit]) (by simp))
  have b0 := bAl (bAl (Below.refl w.heap.size w) (.cells #[.slice A1 n1 c1, .slice A2 n2 c2, .slice A3 n3 c3, .slice A4 n4 c4, .slice A5 n5 c5] 32)) (.cells #[.int .i64 limit] 3)
  by_cases hc : chkP P = 0
  · have hcb : (chkP P != 0) = false := by simpa using hc
    obtain ⟨s5, s6⟩ := hs hc
    have ok := chkP_ok hc
    rw [hc] at hck
    by_cases hl : limit < 1
    · have e : countR P limit = (0, 1) := by unfold countR; rw [if_neg (by simpa using hc), if_pos hl]
      rw [e]
      clear hbeg hs e hcb hc ok
      go_enter Tryd.func14, Tryd.ntmps14
      go_wp2_with fail
      generalize ((w.alloc (.cells #[.slice A1 n1 c1, .slice A2 n2 c2, .slice A3 n3 c3, .slice A4 n4 c4, .slice A5 n5 c5] 32)).alloc (.cells #[.int .i64 limit] 3)) = W1 at k0 k2 b0 ⊢
      refine (hck W1 b0).mono ?_
      rintro e W2 ⟨rfl, bb⟩
      have b1 := b0.trans (bb.mono b0.size)
      have k2 := k2.on bb
      have y2 := (k2.cell 0).trans rfl
      simp at y2
      clear bb hck
      go_wp2_with fail
      go_ret2
      exact ⟨rfl, b1⟩
    · have hfx := ok.fixl
      have hne := ok.n0
      have hlen : (solsL P).length ≤ 7776 := Nat.le_trans (solsF_len ok s6 P.fix.length P.fix (openN_le _)) ((by decide : ∀ n, n ≤ 5 → 6 ^ n ≤ 7776) _ (by omega))
      have hl' : ¬ limit < 1 := hl
      have hl2 : 1 ≤ limit := by omega
      obtain ⟨L, hL⟩ : ∃ L, Hid (L = (solsL P).length) := ⟨_, Lib.hid rfl⟩
      have hrun := visitF_run (each := eachW limit) (P := P) P.fix.length P.fix 0 ⟨[nd0], 0, 0⟩
      obtain ⟨q, hq1, hq2, hq3⟩ := runS_W limit (solsL P) 0 (by omega) (by omega)
      rw [Nat.zero_add, ← hL.out] at hq1 hq2 hq3
      have hrun2 : runS (eachW limit) 0 (solsF P P.fix.length P.fix) = (decide (limit < (L : Int)), (q : Int)) := hq1
      rw [hrun2] at hrun
      obtain ⟨r, hr⟩ : ∃ r, Hid (r = visitF P 0 (eachW limit) P.fix.length P.fix 0 ⟨[nd0], 0, 0⟩) := ⟨_, Lib.hid rfl⟩
      rw [← hr.out] at hrun
      injection hrun with _ hrs
      have e : countR P limit = if limit < (L : Int) then (0, 3) else ((L : Int), 0) := by unfold countR; rw [if_neg (by simpa using hc), if_neg hl, hL.out]
      rw [e]
      have hvis := fun N g gs cS gn (h0 : w.heap.size ≤ gn) (h1N : gn < N) (h2N : w.heap.size + 1 < N) h1 h2 h3 h4 h5 => visit_any (p := p0) (limit := 0) (cS := cS) (callerC (limit := limit) (B := w.heap.size) (N := N) (g := g) (gs := gs) (g1 := gn) (g2 := w.heap.size + 1) h0 h1N h2N h1 h2 h3 h4 h5) hc 6 s6 P.fix.length P.fix (openN_le _) hfx
      have hbv : bV 6 P.fix.length ≤ 55986 := (by decide : ∀ n, n ≤ 5 → bV 6 n ≤ 55986) _ (by omega)
      have hbg := fun W gn hW => hbeg W gn hW (by omega)
      unfold PrV.v Sl.v at hbg
      simp only [] at hbg
      have Hvis := Lib.hid hvis
      have Hbv := Lib.hid hbv
      have Hrs := Lib.hid hrs
      have Hq2 := Lib.hid hq2
      have Hq3 := Lib.hid hq3
      have hT3 := Lib.hid hT
      clear hvis hbv hbeg hs e hcb hc ok hne hfx s6 s5 h hT hrs hq2 hq3 hq1 hrun2 hlen
      by_cases hlt : limit < (L : Int)
      · rw [if_pos hlt]
        have hqd : decide (limit < (q : Int)) = true := by simpa using Hq3.out hlt
        clear hlt
        go_enter Tryd.func14, Tryd.ntmps14
        go_wp2_with fail
        generalize ((w.alloc (.cells #[.slice A1 n1 c1, .slice A2 n2 c2, .slice A3 n3 c3, .slice A4 n4 c4, .slice A5 n5 c5] 32)).alloc (.cells #[.int .i64 limit] 3)) = W1 at k0 k2 b0 ⊢
        refine (hck W1 b0).mono ?_
        rintro e W2 ⟨rfl, bb⟩
        have b1 := b0.trans (bb.mono b0.size)
        have k0 := k0.on bb
        have k2 := k2.on bb
        have y2 : W2.cell? ⟨w.heap.size + 1, 0, none⟩ = some (.int .i64 limit) := (k2.cell 0).trans rfl
        have hlb : decide (limit < 1) = false := by simpa using hl
        clear bb hck
        go_upto_region 7 with fail
        have kn := Blk.new W2 3 #[.int .i64 0]
        have bn := bAl (Below.refl W2.heap.size W2) (.cells #[.int .i64 0] 3)
        have zn : (W2.alloc (.cells #[.int .i64 0] 3)).heap.size = W2.heap.size + 1 := by simp
        have k0 := k0.on bn
        have k2 := k2.on bn
        have b2 := b1.trans (bn.mono b1.size)
        have lt2 := k2.lt
        have hb1 := b1.size
        have hlt2 : w.heap.size + 1 < W2.heap.size := by have := k0.lt; have h9 := y2; exact World.block_lt_of_cell? W2 _ h9
        clear y2 bn
        generalize (W2.alloc (.cells #[.int .i64 0] 3)) = W3 at kn zn k0 k2 b2 lt2 ⊢
        have x0 : W3.cell? ⟨w.heap.size, 0, none⟩ = some (.slice A1 n1 c1) := (k0.cell 0).trans rfl
        have x1 : W3.cell? ⟨w.heap.size, 1, none⟩ = some (.slice A2 n2 c2) := (k0.cell 1).trans rfl
        have x2 : W3.cell? ⟨w.heap.size, 2, none⟩ = some (.slice A3 n3 c3) := (k0.cell 2).trans rfl
        have x3 : W3.cell? ⟨w.heap.size, 3, none⟩ = some (.slice A4 n4 c4) := (k0.cell 3).trans rfl
        have x4 : W3.cell? ⟨w.heap.size, 4, none⟩ = some (.slice A5 n5 c5) := (k0.cell 4).trans rfl
        go_wp2_with fail
        clear x0 x1 x2 x3 x4 k0
        have hb6 := hbg W3 W2.heap.size b2
        refine hb6.mono ?_
        rintro e W4 ⟨g, gs, cS, sl, rfl, hB⟩
        have b3 := b2.trans (hB.low.mono b2.size)
        have kn := kn.on hB.low
        have k2 := k2.on hB.low
        have hgB := hB.gB
        have hgN := hB.blk.lt
        have hgs := hB.stf.lt gs rfl
        have hrowB : ∀ k, sl.v.ownBlock = some k → W3.heap.size ≤ k := fun k hk => (hB.row.lt k hk).1
        have hne9 : g ≠ gs := by
          obtain ⟨cs, hb9, _⟩ := own_type hB.stf rfl
          exact hB.blk.apart hb9 (by decide)
        have hS : Sch (EIC limit W2.heap.size (w.heap.size + 1)) p0 P 0 (.func (.func 39) #[] #[.pointer (some ⟨W2.heap.size, 0, none⟩), .pointer (some ⟨w.heap.size + 1, 0, none⟩)]) w.heap.size W4.heap.size g gs cS W4 P.fix sl [nd0S] ⟨[nd0], 0, 0⟩ := by
          rw [hp0.out]
          refine ⟨hB.blk, OwnI.more hB.stf b2.size, ?_, fun y hy => ?_, rfl, H.out.below b3, ⟨kn, k2⟩, Nat.le_refl _, Nat.le_trans b2.size hgB, hgN, Nat.le_trans b2.size hgs.1, hgs.2, hne9, hT3.out.below b3 hg0, hg0⟩
          · have := own_less hB.row b2.size
            simpa using this
          · obtain rfl : y = nd0S := by simpa using hy
            exact ⟨by decide, OwnI.nil _ _, OwnI.nil _ _, by decide, by decide⟩
        have hv := Hvis.out W4.heap.size g gs cS W2.heap.size hb1 (by omega) (by omega) (by omega) (by omega) (by omega) (by omega) (by omega) 0 ⟨[nd0], 0, 0⟩ W4 sl [nd0S] (by simp) (by have := Hbv.out; simp; omega) (by have := Hbv.out; simp; omega) trivial hS
        rw [← hr.out] at hv
        clear hS Hvis hB kn k2 hb6 hbg hr
        go_wp2_with fail
        refine hv.mono ?_
        rintro e W5 ⟨rfl, st', sl', ys', hS, -, hM, -⟩
        have hlow : Below w.heap.size w W5 := b3.trans (hM.low (by omega) (fun k hk => Nat.le_trans b2.size (hrowB k hk)))
        have hei := hS.ei
        rw [Hrs.out] at hei
        obtain ⟨kn, k2⟩ := hei
        have yn : W5.cell? ⟨W2.heap.size, 0, none⟩ = some (.int .i64 (q : Int)) := (kn.cell 0).trans rfl
        have y2 : W5.cell? ⟨w.heap.size + 1, 0, none⟩ = some (.int .i64 limit) := (k2.cell 0).trans rfl
        clear hS hM kn k2 hv
        go_wp2_with fail
        go_ret2
        exact ⟨rfl, hlow⟩
      · rw [if_neg hlt]
        have hq9 := Hq2.out hlt
        have hqd : decide (limit < (q : Int)) = false := by simp; omega
        have Hq9 := Lib.hid hq9
        clear hlt hq9
        go_enter Tryd.func14, Tryd.ntmps14
        go_wp2_with fail
        generalize ((w.alloc (.cells #[.slice A1 n1 c1, .slice A2 n2 c2, .slice A3 n3 c3, .slice A4 n4 c4, .slice A5 n5 c5] 32)).alloc (.cells #[.int .i64 limit] 3)) = W1 at k0 k2 b0 ⊢
        refine (hck W1 b0).mono ?_
        rintro e W2 ⟨rfl, bb⟩
        have b1 := b0.trans (bb.mono b0.size)
        have k0 := k0.on bb
        have k2 := k2.on bb
        have y2 : W2.cell? ⟨w.heap.size + 1, 0, none⟩ = some (.int .i64 limit) := (k2.cell 0).trans rfl
        have hlb : decide (limit < 1) = false := by simpa using hl
        clear bb hck
        go_upto_region 7 with fail
        have kn := Blk.new W2 3 #[.int .i64 0]
        have bn := bAl (Below.refl W2.heap.size W2) (.cells #[.int .i64 0] 3)
        have zn : (W2.alloc (.cells #[.int .i64 0] 3)).heap.size = W2.heap.size + 1 := by simp
        have k0 := k0.on bn
        have k2 := k2.on bn
        have b2 := b1.trans (bn.mono b1.size)
        have lt2 := k2.lt
        have hb1 := b1.size
        have hlt2 : w.heap.size + 1 < W2.heap.size := by have := k0.lt; have h9 := y2; exact World.block_lt_of_cell? W2 _ h9
        clear y2 bn
        generalize (W2.alloc (.cells #[.int .i64 0] 3)) = W3 at kn zn k0 k2 b2 lt2 ⊢
        have x0 : W3.cell? ⟨w.heap.size, 0, none⟩ = some (.slice A1 n1 c1) := (k0.cell 0).trans rfl
        have x1 : W3.cell? ⟨w.heap.size, 1, none⟩ = some (.slice A2 n2 c2) := (k0.cell 1).trans rfl
        have x2 : W3.cell? ⟨w.heap.size, 2, none⟩ = some (.slice A3 n3 c3) := (k0.cell 2).trans rfl
        have x3 : W3.cell? ⟨w.heap.size, 3, none⟩ = some (.slice A4 n4 c4) := (k0.cell 3).trans rfl
        have x4 : W3.cell? ⟨w.heap.size, 4, none⟩ = some (.slice A5 n5 c5) := (k0.cell 4).trans rfl
        go_wp2_with fail
        clear x0 x1 x2 x3 x4 k0
        have hb6 := hbg W3 W2.heap.size b2
        refine hb6.mono ?_
        rintro e W4 ⟨g, gs, cS, sl, rfl, hB⟩
        have b3 := b2.trans (hB.low.mono b2.size)
        have kn := kn.on hB.low
        have k2 := k2.on hB.low
        have hgB := hB.gB
        have hgN := hB.blk.lt
        have hgs := hB.stf.lt gs rfl
        have hrowB : ∀ k, sl.v.ownBlock = some k → W3.heap.size ≤ k := fun k hk => (hB.row.lt k hk).1
        have hne9 : g ≠ gs := by
          obtain ⟨cs, hb9, _⟩ := own_type hB.stf rfl
          exact hB.blk.apart hb9 (by decide)
        have hS : Sch (EIC limit W2.heap.size (w.heap.size + 1)) p0 P 0 (.func (.func 39) #[] #[.pointer (some ⟨W2.heap.size, 0, none⟩), .pointer (some ⟨w.heap.size + 1, 0, none⟩)]) w.heap.size W4.heap.size g gs cS W4 P.fix sl [nd0S] ⟨[nd0], 0, 0⟩ := by
          rw [hp0.out]
          refine ⟨hB.blk, OwnI.more hB.stf b2.size, ?_, fun y hy => ?_, rfl, H.out.below b3, ⟨kn, k2⟩, Nat.le_refl _, Nat.le_trans b2.size hgB, hgN, Nat.le_trans b2.size hgs.1, hgs.2, hne9, hT3.out.below b3 hg0, hg0⟩
          · have := own_less hB.row b2.size
            simpa using this
          · obtain rfl : y = nd0S := by simpa using hy
            exact ⟨by decide, OwnI.nil _ _, OwnI.nil _ _, by decide, by decide⟩
        have hv := Hvis.out W4.heap.size g gs cS W2.heap.size hb1 (by omega) (by omega) (by omega) (by omega) (by omega) (by omega) (by omega) 0 ⟨[nd0], 0, 0⟩ W4 sl [nd0S] (by simp) (by have := Hbv.out; simp; omega) (by have := Hbv.out; simp; omega) trivial hS
        rw [← hr.out] at hv
        clear hS Hvis hB kn k2 hb6 hbg hr
        go_wp2_with fail
        refine hv.mono ?_
        rintro e W5 ⟨rfl, st', sl', ys', hS, -, hM, -⟩
        have hlow : Below w.heap.size w W5 := b3.trans (hM.low (by omega) (fun k hk => Nat.le_trans b2.size (hrowB k hk)))
        have hei := hS.ei
        rw [Hrs.out] at hei
        obtain ⟨kn, k2⟩ := hei
        have yn : W5.cell? ⟨W2.heap.size, 0, none⟩ = some (.int .i64 (q : Int)) := (kn.cell 0).trans rfl
        have y2 : W5.cell? ⟨w.heap.size + 1, 0, none⟩ = some (.int .i64 limit) := (k2.cell 0).trans rfl
        clear hS hM kn k2 hv
        go_wp2_with fail
        go_ret2
        exact ⟨by rw [Hq9.out]; rfl, hlow⟩
  · have e : countR P limit = (0, chkP P) := by unfold countR; rw [if_pos hc]
    rw [e]
    have hcb : (chkP P != 0) = true := by simpa using hc
    generalize chkP P = cc at hck hcb
    clear hbeg hs e hc
    go_enter Tryd.func14, Tryd.ntmps14
    go_wp2_with fail
    generalize ((w.alloc (.cells #[.slice A1 n1 c1, .slice A2 n2 c2, .slice A3 n3 c3, .slice A4 n4 c4, .slice A5 n5 c5] 32)).alloc (.cells #[.int .i64 limit] 3)) = W1 at k0 k2 b0 ⊢
    refine (hck W1 b0).mono ?_
    rintro e W2 ⟨rfl, bb⟩
    have b1 := b0.trans (bb.mono b0.size)
    clear bb hck
    go_wp2_with fail
    go_ret2
    exact ⟨rfl, b1⟩
end Go.Proofs.YtfnhaoindehjdaaDoor
