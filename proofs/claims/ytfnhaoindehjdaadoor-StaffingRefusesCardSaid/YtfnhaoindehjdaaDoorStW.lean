/- begin; a visit of any depth. (genbeg.py) -/
import Derived.Test.YtfnhaoindehjdaaDoorStV
namespace Go.Proofs.YtfnhaoindehjdaaDoor
open Go.RowKit
set_option linter.unusedVariables false
set_option linter.unusedSimpArgs false

/-- The room that a visit asks for. -/
def bV (K : Nat) : Nat → Nat
  | 0 => K
  | m + 1 => K + K * bV K m
theorem bnd_bV (K : Nat) : ∀ m, bnd K m ≤ bV K m
  | 0 => Nat.zero_le _
  | m + 1 => by
    have := Nat.mul_le_mul_left K (bnd_bV K m)
    show K + K * bnd K m ≤ K + K * bV K m
    omega
theorem VisOk.more {σ : Type} {live : σ → Prop} {EI : σ → World → Prop} {p : PrV} {P : Pr} {limit : Nat} {fE : Value} {B N g gs cS b b' : Nat} {f : List Int → Nat → VS σ → Bool × VS σ} {st : List Int} (h : VisOk live EI p P limit fE B N g gs cS b f st) (hb : b ≤ b') :
    VisOk live EI p P limit fE B N g gs cS b' f st := fun node s w sl ys h1 h2 h3 h4 h5 => h node s w sl ys h1 (by omega) (by omega) h4 h5
theorem visit_any {σ : Type} {live : σ → Prop} {EI : σ → World → Prop} {each : σ → List Int → Bool × σ} {kf g1 g2 B N g gs cS limit : Nat} {p : PrV} {P : Pr} (hK : CallerOk live EI each kf g1 g2 B N g gs) (hc : chkP P = 0) (K : Nat) (hEl : ∀ z : Nat, (memZ (eligA P z)).length ≤ K) :
    ∀ (m : Nat) (st : List Int), openN st ≤ m → st.length = P.elig.length → VisOk live EI p P limit (.func (.func kf) #[] #[.pointer (some ⟨g1, 0, none⟩), .pointer (some ⟨g2, 0, none⟩)]) B N g gs cS (bV K m) (visitF P limit each m) st
  | 0, st, h, hl => by
    have h0 := openN_zero h
    exact (visit_step hK hc (fun _ _ s => (false, s)) 0 K st hl hEl (fun _ _ _ => Nat.le_refl _) (fun z hz => by rw [h0] at hz; cases hz) (fun z hz => by rw [h0] at hz; cases hz)).more (by show K + K * 0 ≤ K; omega)
  | m + 1, st, h, hl => by
    have ok := chkP_ok hc
    have hop : ∀ z, idx0 st = some z → ∀ u ∈ memZ (eligA P z), openN (st.set z u) ≤ m := fun z hz u hu => by
      obtain ⟨h1, h2, _⟩ := idx0_some hz
      have hu1 := memZ_user ok hu
      have := openN_set (u := u) h1 h2 (by omega)
      omega
    refine visit_step hK hc (visitF P limit each m) (bV K m) K st hl hEl (visitF_ge m) (fun z hz u hu node s => ?_) (fun z hz u hu => ?_)
    · have h1 := visitF_le (limit := limit) (each := each) ok hEl m (st.set z u) node s (hop z hz u hu)
      have h2 := bnd_bV K m
      exact ⟨by omega, by omega⟩
    · exact visit_any hK hc K hEl m (st.set z u) (hop z hz u hu) (by rw [List.length_set]; exact hl)
theorem mk1_run (W : World) : (Instr.makeSlice 44 (.int .i64 1) (.int .i64 1)).run Tryd.prog W = .ok (.slice (some ⟨W.heap.size, 0, none⟩) 1 1) (W.alloc (.cells #[.int .u8 0, .int .i64 0, .slice none 0 0, .slice none 0 0] 103)) := by
  obtain ⟨i, hi, hz0, hz1, hz2⟩ := info_parts pnode_info
  have h := run_make (P := Tryd.prog) W 44 103 i _ Tryd.underlying44 hi hz0 .i64 .i64 1 1 (by omega) (by omega) (by rw [hz2]; decide) (by omega)
  rw [hz1] at h
  refine h.trans ?_
  have e : madeCells (Value.agg #[.int .u8 0, .int .i64 0, .slice none 0 0, .slice none 0 0]).cells (Int.toNat 1 * 4) = #[.int .u8 0, .int .i64 0, .slice none 0 0, .slice none 0 0] := by kernel_rfl
  rw [e]
  rfl
theorem own_new (w : World) : (w.alloc (.cells #[.int .u8 0, .int .i64 0, .slice none 0 0, .slice none 0 0] 103)).ownsRow w.heap.size 103 4 (.slice (some ⟨w.heap.size, 0, none⟩) 1 1) 1 (nd0S.cs .u8) :=
  ⟨rfl, .inr ⟨w.heap.size, 1, _, rfl, Nat.le_refl _, heap_alloc_new w _, Nat.le_refl _, by unfold maxLen; omega, rfl, rfl⟩⟩
/-- What begin leaves. -/
structure BegAt (w w' : World) (p : PrV) (P : Pr) (limit : Nat) (fE : Value) (g gs cS : Nat) (sl : Sl) : Prop where
  blk : Blk w' g 98 (schC p gs P.fix.length cS sl 0 limit fE)
  stf : OwnI w' w.heap.size (.slice (some ⟨gs, 0, none⟩) P.fix.length cS) P.fix.length P.fix
  row : w'.ownsRow w.heap.size 103 4 sl.v sl.n (nd0S.cs .u8)
  one : sl.n = 1
  low : Below w.heap.size w w'
  gB : w.heap.size ≤ g
def BegPost (p : PrV) (P : Pr) (limit : Nat) (fE : Value) (w : World) (e : Ending) (w' : World) : Prop :=
  ∃ g gs cS sl, e = .returned (.pointer (some ⟨g, 0, none⟩)) ∧ BegAt w w' p P limit fE g gs cS sl
set_option maxHeartbeats 8000000 in
set_option maxRecDepth 100000 in
theorem begin_any (p : PrV) (P : Pr) (limit kf g1 g2 : Nat) (w : World) (h : PrAt w w.heap.size p P) (hf : 0 < P.fix.length) :
    Calls Tryd.prog 38 #[p.v, .int .i64 (limit : Int), (.func (.func kf) #[] #[.pointer (some ⟨g1, 0, none⟩), .pointer (some ⟨g2, 0, none⟩)])] w (BegPost p P limit (.func (.func kf) #[] #[.pointer (some ⟨g1, 0, none⟩), .pointer (some ⟨g2, 0, none⟩)]) w) := by
  have hcl := fun (W : World) (hW : Below w.heap.size w W) => cloneI_any p.s5.a p.s5.n p.s5.c P.fix W (((h.below hW).more hW.size).e5) h.l5 (by have := h.b5; omega)
  have hl5 := Lib.hid h.l5
  obtain ⟨⟨A1, n1, c1⟩, ⟨A2, n2, c2⟩, ⟨A3, n3, c3⟩, ⟨A4, n4, c4⟩, ⟨A5, n5, c5⟩⟩ := p
  unfold PrV.v Sl.v
  simp only [] at hcl hl5 ⊢
  have k0 := Blk.new w 32 #[.slice A1 n1 c1, .slice A2 n2 c2, .slice A3 n3 c3, .slice A4 n4 c4, .slice A5 n5 c5]
  have b0 := bAl (Below.refl w.heap.size w) (.cells #[.slice A1 n1 c1, .slice A2 n2 c2, .slice A3 n3 c3, .slice A4 n4 c4, .slice A5 n5 c5] 32)
  have fin : ∀ (W : World) (A6 : Option Addr) (c6 : Nat) (gn gB : Nat), gB = W.heap.size → OwnI W w.heap.size (.slice A6 n5 c6) n5 P.fix → W.ownsRow w.heap.size 103 4 (.slice (some ⟨gn, 0, none⟩) 1 1) 1 (nd0S.cs .u8) → Below w.heap.size w W →
      BegPost ⟨⟨A1, n1, c1⟩, ⟨A2, n2, c2⟩, ⟨A3, n3, c3⟩, ⟨A4, n4, c4⟩, ⟨A5, n5, c5⟩⟩ P limit (.func (.func kf) #[] #[.pointer (some ⟨g1, 0, none⟩), .pointer (some ⟨g2, 0, none⟩)]) w (.returned (.pointer (some ⟨gB, 0, none⟩)))
        (W.alloc (.cells #[.slice A1 n1 c1, .slice A2 n2 c2, .slice A3 n3 c3, .slice A4 n4 c4, .slice A5 n5 c5, .slice A6 n5 c6, .slice (some ⟨gn, 0, none⟩) 1 1, .int .i64 0, .int .i64 (limit : Int), (.func (.func kf) #[] #[.pointer (some ⟨g1, 0, none⟩), .pointer (some ⟨g2, 0, none⟩)])] 98)) := by
    rintro W A6 c6 gn gB rfl o6 oR bW
    have hn5 : 0 < n5 := by rw [← hl5.out]; exact hf
    obtain ⟨gs, cs, e, _, _⟩ := own_blk o6 hn5
    subst e
    refine ⟨W.heap.size, gs, c6, ⟨some ⟨gn, 0, none⟩, 1, 1⟩, rfl, ?_, ?_, oR.alloc _, rfl, bAl bW _, bW.size⟩
    · rw [hl5.out]; exact Blk.new _ _ _
    · rw [hl5.out]; exact o6.alloc _
  go_enter Tryd.func38, Tryd.ntmps38
  go_wp2_with fail
  generalize (w.alloc (.cells #[.slice A1 n1 c1, .slice A2 n2 c2, .slice A3 n3 c3, .slice A4 n4 c4, .slice A5 n5 c5] 32)) = W1 at k0 b0 ⊢
  have k1 := k0.on ((Below.refl _ W1).drew)
  have b1 := b0.drew
  obtain ⟨SS, hSS⟩ : ∃ S : World → Prop, S = (fun W => W.cell? ⟨w.heap.size, 0, none⟩ = some (.slice A1 n1 c1) ∧ W.cell? ⟨w.heap.size, 1, none⟩ = some (.slice A2 n2 c2) ∧ W.cell? ⟨w.heap.size, 2, none⟩ = some (.slice A3 n3 c3) ∧ W.cell? ⟨w.heap.size, 3, none⟩ = some (.slice A4 n4 c4) ∧ W.cell? ⟨w.heap.size, 4, none⟩ = some (.slice A5 n5 c5)) := ⟨_, rfl⟩
  have sB : ∀ W, Blk W w.heap.size 32 #[.slice A1 n1 c1, .slice A2 n2 c2, .slice A3 n3 c3, .slice A4 n4 c4, .slice A5 n5 c5] → SS W := fun W k => by rw [hSS]; exact ⟨(k.cell 0).trans rfl, (k.cell 1).trans rfl, (k.cell 2).trans rfl, (k.cell 3).trans rfl, (k.cell 4).trans rfl⟩
  have mk := mk1_run
  refine wp_region_F (fun _ => false) SS (by kernel_rfl) (sB _ k1) (fun hHeld => ?_)
  generalize W1.drew = W2 at k1 b1 hHeld ⊢
  clear k0 b0
  refine wpAnyF_take (i := 0) (v := ?_) rfl (by kernel_rfl) (by kernel_rfl) (by kernel_rfl) (by kernel_rfl) (fun _ _ _ h => h) hHeld (Or.inl ⟨by rfl, ?_⟩) ?_
  rotate_left
  · (intro w hSw; (try rw [hSS] at hSw); (try dsimp only at hSw); go_simp; try with_reducible rfl)
  try simp only [Act.put, List.getElem_toArray, List.getElem_cons_zero, List.getElem_cons_succ, List.setIfInBounds_toArray, List.set_cons_zero, List.set_cons_succ]
  refine wpAnyF_take (i := 1) (v := ?_) rfl (by kernel_rfl) (by kernel_rfl) (by kernel_rfl) (by kernel_rfl) (fun _ _ _ h => h) hHeld (Or.inl ⟨by rfl, ?_⟩) ?_
  rotate_left
  · (intro w hSw; (try rw [hSS] at hSw); (try dsimp only at hSw); go_simp; try with_reducible rfl)
  try simp only [Act.put, List.getElem_toArray, List.getElem_cons_zero, List.getElem_cons_succ, List.setIfInBounds_toArray, List.set_cons_zero, List.set_cons_succ]
  refine wpAnyF_take (i := 2) (v := ?_) rfl (by kernel_rfl) (by kernel_rfl) (by kernel_rfl) (by kernel_rfl) (fun _ _ _ h => h) hHeld (Or.inl ⟨by rfl, ?_⟩) ?_
  rotate_left
  · (intro w hSw; (try rw [hSS] at hSw); (try dsimp only at hSw); go_simp; try with_reducible rfl)
  try simp only [Act.put, List.getElem_toArray, List.getElem_cons_zero, List.getElem_cons_succ, List.setIfInBounds_toArray, List.set_cons_zero, List.set_cons_succ]
  refine wpAnyF_take (i := 5) (v := ?_) rfl (by kernel_rfl) (by kernel_rfl) (by kernel_rfl) (by kernel_rfl) (fun _ _ _ h => h) hHeld (Or.inl ⟨by rfl, ?_⟩) ?_
  rotate_left
  · (intro w hSw; (try rw [hSS] at hSw); (try dsimp only at hSw); go_simp; try with_reducible rfl)
  try simp only [Act.put, List.getElem_toArray, List.getElem_cons_zero, List.getElem_cons_succ, List.setIfInBounds_toArray, List.set_cons_zero, List.set_cons_succ]
  refine wpAnyF_take (i := 6) (v := ?_) rfl (by kernel_rfl) (by kernel_rfl) (by kernel_rfl) (by kernel_rfl) (fun _ _ _ h => h) hHeld (Or.inl ⟨by rfl, ?_⟩) ?_
  rotate_left
  · (intro w hSw; (try rw [hSS] at hSw); (try dsimp only at hSw); go_simp; try with_reducible rfl)
  try simp only [Act.put, List.getElem_toArray, List.getElem_cons_zero, List.getElem_cons_succ, List.setIfInBounds_toArray, List.set_cons_zero, List.set_cons_succ]
  refine wpAnyF_two (i := 3) (k := 4) (by kernel_rfl) rfl rfl (fun K hK => ?_) (fun K hK => ?_)
  · go_simp
    go_at_call 24
    refine (hcl _ b1).mono ?_
    rintro e w5 ⟨A6, c6, rfl, o6, b6⟩
    have k5 := k1.on b6
    simp only []
    refine hK.out _ _ (Or.inr (sB _ k5)) ?_
    clear hK K
    try simp only [Act.put, List.getElem_toArray, List.getElem_cons_zero, List.getElem_cons_succ, List.setIfInBounds_toArray, List.set_cons_zero, List.set_cons_succ]
    refine wpAnyF_one (i := 4) (by kernel_rfl) rfl (fun K hK => ?_)
    go_simp
    refine hK.out _ _ (Or.inr (sB _ (k5.alloc (.cells #[.int .u8 0, .int .i64 0, .slice none 0 0, .slice none 0 0] 103)))) ?_
    clear hK K
    try simp only [Act.put, List.getElem_toArray, List.getElem_cons_zero, List.getElem_cons_succ, List.setIfInBounds_toArray, List.set_cons_zero, List.set_cons_succ]
    have k6 := k5.alloc (.cells #[.int .u8 0, .int .i64 0, .slice none 0 0, .slice none 0 0] 103)
    refine wpAnyF_one (i := 7) (by kernel_rfl) rfl (fun K hK => ?_)
    go_simp
    refine hK.out _ _ (Or.inr (sB _ k6)) ?_
    clear hK K
    try simp only [Act.put, List.getElem_toArray, List.getElem_cons_zero, List.getElem_cons_succ, List.setIfInBounds_toArray, List.set_cons_zero, List.set_cons_succ]
    refine wpAnyF_one (i := 8) (by kernel_rfl) rfl (fun K hK => ?_)
    go_simp
    refine hK.out _ _ (Or.inr (sB _ (k6.alloc _))) ?_
    clear hK K
    try simp only [Act.put, List.getElem_toArray, List.getElem_cons_zero, List.getElem_cons_succ, List.setIfInBounds_toArray, List.set_cons_zero, List.set_cons_succ]
    refine wpAnyF_one (i := 9) (by kernel_rfl) rfl (fun K hK => ?_)
    go_simp
    refine hK.out _ _ (Or.inr (sB _ (k6.alloc _))) ?_
    clear hK K
    try simp only [Act.put, List.getElem_toArray, List.getElem_cons_zero, List.getElem_cons_succ, List.setIfInBounds_toArray, List.set_cons_zero, List.set_cons_succ]
    refine wpAnyF_done (by kernel_rfl) ?_ _
    go_wp2_with fail
    go_ret
    exact fin _ _ _ _ _ (by simp) (own_less (o6.alloc _) b1.size) (own_less (own_new w5) (Nat.le_trans b1.size b6.size)) (bAl (b1.trans (b6.mono b1.size)) _)
  · go_simp
    refine hK.out _ _ (Or.inr (sB _ (k1.alloc (.cells #[.int .u8 0, .int .i64 0, .slice none 0 0, .slice none 0 0] 103)))) ?_
    clear hK K
    try simp only [Act.put, List.getElem_toArray, List.getElem_cons_zero, List.getElem_cons_succ, List.setIfInBounds_toArray, List.set_cons_zero, List.set_cons_succ]
    have k2 := k1.alloc (.cells #[.int .u8 0, .int .i64 0, .slice none 0 0, .slice none 0 0] 103)
    have b2 := bAl b1 (.cells #[.int .u8 0, .int .i64 0, .slice none 0 0, .slice none 0 0] 103)
    refine wpAnyF_one (i := 3) (by kernel_rfl) rfl (fun K hK => ?_)
    go_simp
    go_at_call 24
    refine (hcl _ b2).mono ?_
    rintro e w5 ⟨A6, c6, rfl, o6, b6⟩
    have k5 := k2.on b6
    simp only []
    refine hK.out _ _ (Or.inr (sB _ k5)) ?_
    clear hK K
    try simp only [Act.put, List.getElem_toArray, List.getElem_cons_zero, List.getElem_cons_succ, List.setIfInBounds_toArray, List.set_cons_zero, List.set_cons_succ]
    have k6 := k5
    refine wpAnyF_one (i := 7) (by kernel_rfl) rfl (fun K hK => ?_)
    go_simp
    refine hK.out _ _ (Or.inr (sB _ k6)) ?_
    clear hK K
    try simp only [Act.put, List.getElem_toArray, List.getElem_cons_zero, List.getElem_cons_succ, List.setIfInBounds_toArray, List.set_cons_zero, List.set_cons_succ]
    refine wpAnyF_one (i := 8) (by kernel_rfl) rfl (fun K hK => ?_)
    go_simp
    refine hK.out _ _ (Or.inr (sB _ (k6.alloc _))) ?_
    clear hK K
    try simp only [Act.put, List.getElem_toArray, List.getElem_cons_zero, List.getElem_cons_succ, List.setIfInBounds_toArray, List.set_cons_zero, List.set_cons_succ]
    refine wpAnyF_one (i := 9) (by kernel_rfl) rfl (fun K hK => ?_)
    go_simp
    refine hK.out _ _ (Or.inr (sB _ (k6.alloc _))) ?_
    clear hK K
    try simp only [Act.put, List.getElem_toArray, List.getElem_cons_zero, List.getElem_cons_succ, List.setIfInBounds_toArray, List.set_cons_zero, List.set_cons_succ]
    refine wpAnyF_done (by kernel_rfl) ?_ _
    go_wp2_with fail
    go_ret
    exact fin _ _ _ _ _ (by simp) (own_less o6 b2.size) (own_on (own_less (own_new W2) b1.size) b6) (b2.trans (b6.mono b2.size))
end Go.Proofs.YtfnhaoindehjdaaDoor
