/- A pack of texts: MkI, Tree, Branch, ChkPl. -/
import Derived.Test.YtcnofhlgiffkjaaGreatDoorPa
import Derived.Test.YtcnofhlgiffkjaaGreatDoorPc
import Derived.Test.YtcnofhlgiffkjaaGreatDoorPf
import Derived.Test.YtcnofhlgiffkjaaGreatDoorPb
import Derived.Test.YtcnofhlgiffkjaaGreatDoorPg
/- make of ints and of slices of ints; blocks of ints. -/
namespace Go.Proofs.YtcnofhlgiffkjaaGreatDoor
open Go.RowKit
set_option linter.unusedVariables false
set_option linter.unusedSimpArgs false

/-- make of n one-cell elements: a block just laid. -/
theorem wpL_make64 {P : Program} (w : World) {ops : Array Oper} {rest : List Oper} {o : Oper} {a : Act} {Q : Exit → Act → World → Prop}
    (hg : o.guard = none) (l c : Operand) (t : TypeId) (hop : o.op = Op.makeSlice t l c)
    (e : TypeId) (i : TypeInfo) (z : Value) (h1 : P.underlying t = some (.slice e)) (h2 : P.info? e = some i) (h3 : i.zero = some z) (h4 : i.size = 1) (h5 : i.bytes ≤ 64) (h6 : z.cells = #[z])
    (kl kc : IntKind) (L C : Int) (n : Nat) (hl : a.eval l = .int kl L) (hc : a.eval c = .int kc C) (hL : L = (n : Int)) (hC : C = (n : Int)) (b : n ≤ 1000000000)
    (hK : ∀ w', Hid (Blk w' w.heap.size e (List.replicate n z).toArray) → Below w.heap.size w w' → Hid (w'.heap.size = w.heap.size + 1) → wpList P ops Q rest (a.put o.dst (.slice (some ⟨w.heap.size, 0, none⟩) n n)) w') :
    wpList P ops Q (o :: rest) a w := by
  refine wpList_plain hg fun K hK' => ?_
  have hb : (i.bytes : Int) * (n : Int) ≤ 281474976710656 := by
    have h : i.bytes * n ≤ 64 * 1000000000 := Nat.mul_le_mul h5 b
    have h' : ((i.bytes * n : Nat) : Int) ≤ 281474976710656 := by omega
    rwa [Int.natCast_mul] at h'
  have hrun := run_make (P := P) w t e i z h1 h2 h3 kl kc n n (by omega) (Int.le_refl _) hb (by omega)
  subst hL
  subst hC
  unfold Oper.wp
  simp only [Int.toNat_natCast] at hrun
  simp [execOp, hop, hl, hc, hrun, Result.andThen]
  refine hK' _ _ (hK _ ?_ ((Below.refl _ _).alloc (Nat.le_refl _) _) (by show _ = _; simp))
  show _ = _
  rw [heap_alloc_new, h4, Nat.mul_one, h6]
  congr 2
  exact Array.toList_inj.1 (by rw [toList_madeCells_one])

/-- make([]int, n). -/
theorem wpL_mkI (w : World) {ops : Array Oper} {rest : List Oper} {o : Oper} {a : Act} {Q : Exit → Act → World → Prop}
    (hg : o.guard = none) (l c : Operand) (hop : o.op = Op.makeSlice 30 l c) (L C : Int) (n : Nat) (hl : a.eval l = .int .i64 L) (hc : a.eval c = .int .i64 C) (hL : L = (n : Int)) (hC : C = (n : Int)) (b : n ≤ 1000000000)
    (hK : ∀ w', Hid (Blk w' w.heap.size 3 ((List.replicate n (0 : Int)).map iv).toArray) → Below w.heap.size w w' → Hid (w'.heap.size = w.heap.size + 1) → wpList Tryz.prog ops Q rest (a.put o.dst (.slice (some ⟨w.heap.size, 0, none⟩) n n)) w') :
    wpList Tryz.prog ops Q (o :: rest) a w := by
  obtain ⟨i0, hi0, hz0, hz1, hz2⟩ := info_parts int_info
  refine wpL_make64 w hg l c _ hop _ i0 _ Tryz.underlying30 hi0 hz0 hz1 (by omega) rfl .i64 .i64 L C n hl hc hL hC b fun w' h1 h2 h3 => hK w' ?_ h2 h3
  rw [List.map_replicate]; exact h1
theorem Blk.iset {w : World} {g : Nat} {t : TypeId} {l : List Int} (h : Blk w g t (l.map iv).toArray) (k : Nat) (x : Int) : Blk (w.setCell ⟨g, k, none⟩ (.int .i64 x)) g t ((l.set k x).map iv).toArray := by
  have := h.put k (.int .i64 x)
  rw [List.map_set]
  simpa [iv] using this
theorem Blk.icell {w : World} {g : Nat} {t : TypeId} {l : List Int} {k : Nat} {x : Int} (h : Blk w g t (l.map iv).toArray) (hk : l[k]? = some x) : w.cell? ⟨g, k, none⟩ = some (.int .i64 x) := by
  rw [h.cell]; simp [hk, iv]
end Go.Proofs.YtcnofhlgiffkjaaGreatDoor
/- tree. -/
namespace Go.Proofs.YtcnofhlgiffkjaaGreatDoor
open Go.RowKit
set_option linter.unusedVariables false
set_option linter.unusedSimpArgs false

def kids (l : List Nd) : List Int := l.flatMap (·.ch)
def cntC (cs : List Int) (j : Nat) : Nat := (cs.filter fun c => decide (c = (j : Int))).length
def parL (n : Nat) (cs : List Int) : List Int := (List.range n).map fun j => (cntC cs j : Int)
theorem cntC_le (cs : List Int) (j : Nat) : cntC cs j ≤ cs.length := List.length_filter_le _ _
theorem parL_get {n m : Nat} (cs : List Int) (h : m < n) : (parL n cs)[m]? = some (cntC cs m : Int) := by
  unfold parL
  rw [List.getElem?_map, List.getElem?_range h]; rfl
theorem parL_nil (n : Nat) : parL n [] = List.replicate n 0 := by
  apply List.ext_getElem?
  intro i
  unfold parL
  by_cases h : i < n
  · rw [List.getElem?_map, List.getElem?_range h, List.getElem?_replicate, if_pos h]; rfl
  · rw [List.getElem?_eq_none (by simp; omega), List.getElem?_eq_none (by simp; omega)]
theorem cntC_snoc (cs : List Int) (c : Int) (j : Nat) : cntC (cs ++ [c]) j = cntC cs j + if c = (j : Int) then 1 else 0 := by
  unfold cntC
  rw [List.filter_append, List.length_append]
  by_cases h : c = (j : Int) <;> simp [h]
theorem parL_snoc {n m : Nat} (cs : List Int) (h : m < n) : parL n (cs ++ [(m : Int)]) = (parL n cs).set m ((cntC cs m : Int) + 1) := by
  apply List.ext_getElem?
  intro i
  by_cases hi : i < n
  · rw [parL_get _ hi, List.getElem?_set, cntC_snoc]
    by_cases e : m = i
    · subst e
      have hl : m < (parL n cs).length := by unfold parL; simp; omega
      simp [hl]
    · rw [if_neg e, if_neg (by omega), parL_get _ hi]; rfl
  · rw [List.getElem?_eq_none (by unfold parL; simp; omega), List.getElem?_eq_none (by unfold parL; simp; omega)]
theorem kids_len {l : List Nd} (h : ∀ x ∈ l, x.ch.length ≤ 1000000) : (kids l).length ≤ l.length * 1000000 := by
  induction l with
  | nil => simp [kids]
  | cons x l ih =>
    have h1 := ih fun y hy => h y (by simp [hy])
    have h2 := h x (by simp)
    unfold kids at h1 ⊢
    simp only [List.flatMap_cons, List.length_append, List.length_cons]
    omega
theorem kids_snoc {l : List Nd} {k : Nat} {x : Nd} (h : l[k]? = some x) : kids (l.take (k + 1)) = kids (l.take k) ++ x.ch := by
  rw [List.take_add_one, h]
  simp [kids]
theorem find_range {n k : Nat} {p : Nat → Bool} (hk : k < n) (h : p k = true) (h0 : ∀ j, j < k → p j = false) : (List.range n).find? p = some k := by
  rw [List.find?_range_eq_some]
  exact ⟨h, List.mem_range.2 hk, fun j hj => by rw [h0 j hj]; rfl⟩
theorem find_range_none {n : Nat} {p : Nat → Bool} (h0 : ∀ j, j < n → p j = false) : (List.range n).find? p = none := by
  rw [List.find?_range_eq_none]
  exact fun j hj => by rw [h0 j hj]; rfl

def formAt (l : List Nd) (i : Nat) : Bool := match l[i]? with
  | some x => !formB i l.length x
  | none => false
def parAt (l : List Nd) (j : Nat) : Bool := if j = 0 then decide (cntC (kids l) j ≠ 0) else decide (cntC (kids l) j ≠ 1)
def treeR (l : List Nd) : Int × Bool :=
  match (List.range l.length).find? (formAt l) with
  | some i => ((i : Int), false)
  | none => match (List.range l.length).find? (parAt l) with
    | some j => ((j : Int), false)
    | none => (0, decide (0 < l.length))
theorem form_kids {i n : Nat} {x : Nd} (h : formB i n x = true) : ∀ c ∈ x.ch, (i : Int) < c ∧ c < n := by
  intro c hc
  unfold formB at h
  by_cases h1 : x.kind = 1
  · rw [if_pos h1] at h
    simp only [Bool.and_eq_true, Bool.not_eq_true'] at h
    have hb : chBad i n c = false := by
      rcases he : chBad i n c with _ | _
      · rfl
      · have := List.any_eq_true.2 ⟨c, hc, he⟩
        rw [h.2] at this
        cases this
    unfold chBad at hb
    simp at hb
    omega
  · rw [if_neg h1] at h
    have hn : x.ch.length = 0 := by
      by_cases h2 : x.kind = 2
      · rw [if_pos h2] at h
        simp at h
        simp [h]
      · rw [if_neg h2] at h
        by_cases h3 : x.kind = 3
        · rw [if_pos h3] at h
          simp at h
          simp [h]
        · rw [if_neg h3] at h
          cases h
    rw [List.length_eq_zero_iff.1 hn] at hc
    cases hc

set_option maxHeartbeats 8000000 in
set_option maxRecDepth 100000 in
/-- tree. -/
theorem tree_any (An : Option Addr) (n cn : Nat) (l : List Nd) (w : World) (h : NodesAt w w.heap.size An l) (hn : l.length = n) (hb : n ≤ 1000000) :
    Calls Tryz.prog 35 #[.agg #[.slice An n cn]] w fun e w' => e = .returned (.tuple #[.int .i64 (treeR l).1, .bool (treeR l).2]) ∧ Below w.heap.size w w' := by
  have hch : ∀ x ∈ l, x.ch.length ≤ 1000000 := fun x hx => by
    obtain ⟨i, hi⟩ := List.mem_iff_getElem?.1 hx
    obtain ⟨b, o, C, S, _, _, _, _, _, _, hN⟩ := h i x hi
    rw [hN.lc]; exact hN.bc
  have Hch := Lib.hid hch
  have Hn := Lib.hid hn
  have hb1 : (n : Int) ≤ 1000000 := by omega
  obtain ⟨r1, hr1⟩ : ∃ r, Hid (r = (treeR l).1) := ⟨_, Lib.hid rfl⟩
  obtain ⟨r2, hr2⟩ : ∃ r, Hid (r = (treeR l).2) := ⟨_, Lib.hid rfl⟩
  rw [← hr1.out, ← hr2.out]
  have badF : ∀ k, k < n → formAt l k = true → (∀ j, j < k → formAt l j = false) → Hid (r1 = (k : Int)) ∧ Hid (r2 = false) := fun k hk h1 h2 => by
    have := find_range (n := l.length) (p := formAt l) (by rw [Hn.out]; exact hk) h1 h2
    refine ⟨Lib.hid ?_, Lib.hid ?_⟩
    · rw [hr1.out]; unfold treeR; rw [this]
    · rw [hr2.out]; unfold treeR; rw [this]
  have badP : (∀ j, j < n → formAt l j = false) → ∀ k, k < n → parAt l k = true → (∀ j, j < k → parAt l j = false) → Hid (r1 = (k : Int)) ∧ Hid (r2 = false) := fun h0 k hk h1 h2 => by
    have e0 := find_range_none (n := l.length) (p := formAt l) (by rw [Hn.out]; exact h0)
    have := find_range (n := l.length) (p := parAt l) (by rw [Hn.out]; exact hk) h1 h2
    refine ⟨Lib.hid ?_, Lib.hid ?_⟩
    · rw [hr1.out]; unfold treeR; rw [e0, this]
    · rw [hr2.out]; unfold treeR; rw [e0, this]
  have good : (∀ j, j < n → formAt l j = false) → (∀ j, j < n → parAt l j = false) → Hid (r1 = 0) ∧ Hid (r2 = decide ((0 : Int) < (n : Int))) := fun h0 h1 => by
    have e0 := find_range_none (n := l.length) (p := formAt l) (by rw [Hn.out]; exact h0)
    have e1 := find_range_none (n := l.length) (p := parAt l) (by rw [Hn.out]; exact h1)
    refine ⟨Lib.hid ?_, Lib.hid ?_⟩
    · rw [hr1.out]; unfold treeR; rw [e0, e1]
    · rw [hr2.out]; unfold treeR; rw [e0, e1, Hn.out]
      simp
  have BF := Lib.hid badF
  have BP := Lib.hid badP
  have GD := Lib.hid good
  clear badF badP good hn hch hr1 hr2
  have b1 : Below w.heap.size w (w.alloc (.cells #[.slice An n cn] 41)) := (Below.refl _ _).alloc (Nat.le_refl _) _
  have bP := Blk.new w 41 #[.slice An n cn]
  go_enter Tryz.func35, Tryz.ntmps35
  go_wp2_with fail
  generalize (w.alloc (.cells #[.slice An n cn] 41)) = W1 at b1 bP ⊢
  go_loopw [20] (fun i wr => ∃ k : Nat, k ≤ n ∧ i = .int .i64 k ∧ Hid (∀ j, j < k → formAt l j = false) ∧ Below W1.heap.size W1 wr) (fun i _ => n - (intOf i).toNat)
  case atStart => exact ⟨0, Nat.zero_le _, rfl, Lib.hid (fun j hj => absurd hj (Nat.not_lt_zero _)), Below.refl _ _⟩
  case round =>
    obtain ⟨k, hk, rfl, HP, hB⟩ := hrel
    have bw := b1.trans (hB.mono b1.size)
    have p0 := ((bP.on hB).cell 0).trans rfl
    by_cases hlt : k < n
    · have hlt' : (k : Int) < (n : Int) := by omega
      obtain ⟨x, hx⟩ : ∃ x, l[k]? = some x := ⟨_, List.getElem?_eq_getElem (by rw [Hn.out]; exact hlt)⟩
      obtain ⟨b, o, C, S, rfl, hb2, hc0, hc1, hc2, hc3, hN⟩ := (h.below bw) k x hx
      have hfa : formAt l k = !formB k n x := by unfold formAt; rw [hx, Hn.out]
      have Hfa := Lib.hid hfa
      clear hfa hx
      have bx : Below wr.heap.size wr (wr.alloc (.cells #[.int .u8 (x.kind : Int), .int .i64 x.step, Sl.v C, Sl.v S] 95)) := (Below.refl _ _).alloc (Nat.le_refl _) _
      have hfm := form_any x C S (k : Int) (n : Int) _ ((hN.more bw.size).below bx |>.more bx.size)
      obtain ⟨f, hf⟩ : ∃ f, Hid (f = formB k n x) := ⟨_, Lib.hid rfl⟩
      rw [← hf.out] at hfm
      have hB2 := hB.trans (bx.mono hB.size)
      have bw2 := bw.trans (bx.mono bw.size)
      obtain ⟨Ac, nc, cc⟩ := C
      obtain ⟨As, ns, cs⟩ := S
      unfold Sl.v at hc2 hc3 hfm bx hB2 bw2
      simp only [] at hc2 hc3 hfm bx hB2 bw2
      cases f
      · obtain ⟨e1, e2⟩ := BF.out k hlt (by rw [Hfa.out, ← hf.out]; rfl) HP.out
        go_wp2_with fail
        refine hfm.mono ?_
        rintro e w2 ⟨rfl, bw3⟩
        go_wp2_with fail
        go_ret2
        exact ⟨by rw [e1.out, e2.out]; rfl, bw2.trans (bw3.mono bw2.size)⟩
      · have e1 : Hid (∀ j, j < k + 1 → formAt l j = false) := Lib.hid fun j hj => by
          rcases Nat.lt_succ_iff_lt_or_eq.1 hj with h2 | rfl
          · exact HP.out j h2
          · rw [Hfa.out, ← hf.out]; rfl
        go_wp2_with fail
        refine hfm.mono ?_
        rintro e w2 ⟨rfl, bw3⟩
        go_wp2_with fail
        go_roundw
        case rel => exact ⟨k + 1, by omega, by go_num, e1, hB2.trans (bw3.mono hB2.size)⟩
        case measure => simp [intOf]; omega
    · obtain rfl : k = n := by omega
      have hkid : ∀ (i : Nat) (x : Nd), l[i]? = some x → ∀ c ∈ x.ch, 0 ≤ c ∧ c < (k : Int) := fun i x hx c hc => by
        have h1 := HP.out i (by rw [← Hn.out]; exact (List.getElem?_eq_some_iff.1 hx).1)
        unfold formAt at h1
        rw [hx, Hn.out] at h1
        have h2 := form_kids (notf h1) c hc
        omega
      have Hkid := Lib.hid hkid
      clear hkid
      have hpar0 := Lib.hid (parL_nil k)
      go_wp2_with (refine wpL_mkI _ rfl _ _ rfl _ _ k rfl rfl rfl rfl (by omega) ?_; intro w2 hbk2 bk2 hsz2; have p2 : w2.cell? ⟨w.heap.size, 0, none⟩ = some (.slice An k cn) := ((bP.on (hB.trans (bk2.mono hB.size))).cell 0).trans rfl)
      have gB : Hid (Blk w2 wr.heap.size 3 ((parL k (kids (l.take 0))).map iv).toArray) := Lib.hid (by
        have h1 : kids (l.take 0) = [] := rfl
        rw [h1, hpar0.out]; exact hbk2.out)
      have bw2 := bw.trans (bk2.mono bw.size)
      have hge := bw.size
      clear hbk2 hpar0
      generalize wr.heap.size = gp at gB hge ⊢
      go_loopw [37] (fun i wr => ∃ q : Nat, q ≤ k ∧ i = .int .i64 q ∧ Hid (Blk wr gp 3 ((parL k (kids (l.take q))).map iv).toArray) ∧ Below w.heap.size w wr) (fun i _ => k - (intOf i).toNat)
      case atStart => exact ⟨0, Nat.zero_le _, rfl, gB, bw2⟩
      case round =>
        obtain ⟨q, hq, rfl, gB, bw⟩ := hrel
        by_cases hltq : q < k
        · have hltq' : (q : Int) < (k : Int) := by omega
          obtain ⟨x, hx⟩ : ∃ x, l[q]? = some x := ⟨_, List.getElem?_eq_getElem (by rw [Hn.out]; exact hltq)⟩
          obtain ⟨b, o, C, S, rfl, hb2, hc0, hc1, hc2, hc3, hN⟩ := h q x hx
          replace hc0 := (bw.cell (p := ⟨b, o + q * 4, none⟩) hb2).trans hc0
          replace hc1 := (bw.cell (p := ⟨b, o + q * 4 + 1, none⟩) hb2).trans hc1
          replace hc2 := (bw.cell (p := ⟨b, o + q * 4 + 2, none⟩) hb2).trans hc2
          replace hc3 := (bw.cell (p := ⟨b, o + q * 4 + 3, none⟩) hb2).trans hc3
          have Hk := Lib.hid (Hkid.out q x hx)
          have Hks := Lib.hid (kids_snoc hx)
          have Hkl := Lib.hid (kids_len (l := l.take q) fun y hy => Hch.out y (List.mem_of_mem_take hy))
          obtain ⟨Ac, nc, cc⟩ := C
          obtain ⟨As, ns, cs⟩ := S
          have hlc := Lib.hid hN.lc
          have hbc := hN.bc
          have hNc := hN.ch
          simp only [] at hlc hbc hNc hc2 hc3
          unfold Sl.v at hc2 hc3
          have bx : Below wr.heap.size wr (wr.alloc (.cells #[.int .u8 (x.kind : Int), .int .i64 x.step, .slice Ac nc cc, .slice As ns cs] 95)) := (Below.refl _ _).alloc (Nat.le_refl _) _
          have bw3 := bw.trans (bx.mono bw.size)
          have gB3 : Hid (Blk (wr.alloc (.cells #[.int .u8 (x.kind : Int), .int .i64 x.step, .slice Ac nc cc, .slice As ns cs] 95)) gp 3 ((parL k (kids (l.take q) ++ x.ch.take 0)).map iv).toArray) := Lib.hid (by rw [List.take_zero, List.append_nil]; exact gB.out.on bx)
          have hbc' : (nc : Int) ≤ 1000000 := by omega
          clear hx hN
          go_wp2_with fail
          go_loopw [44] (fun i wr => ∃ j : Nat, j ≤ nc ∧ i = .int .i64 j ∧ Hid (Blk wr gp 3 ((parL k (kids (l.take q) ++ x.ch.take j)).map iv).toArray) ∧ Below w.heap.size w wr) (fun i _ => nc - (intOf i).toNat)
          case atStart => exact ⟨0, Nat.zero_le _, rfl, gB3, bw3⟩
          case round =>
            obtain ⟨j, hj, rfl, gB, bw⟩ := hrel
            by_cases hltj : j < nc
            · have hltj' : (j : Int) < (nc : Int) := by omega
              obtain ⟨b9, o9, v, rfl, hb9, Hv, hcv⟩ := Sees.int (k := j) (hNc.below bw) (by rw [hlc.out]; exact hltj)
              obtain ⟨hv0, hv1⟩ := Hk.out v (List.mem_of_getElem? Hv.out)
              obtain ⟨m, rfl⟩ : ∃ m : Nat, v = (m : Int) := ⟨v.toNat, by omega⟩
              have hm : m < k := by omega
              have hm' : (m : Int) < (k : Int) := by omega
              have hcell := gB.out.icell (parL_get _ hm)
              have hfz := gB.out.frozen m
              have hcb : (cntC (kids (l.take q) ++ x.ch.take j) m : Int) ≤ 2000000000000 := by
                have h1 := cntC_le (kids (l.take q) ++ x.ch.take j) m
                have h2 := Hkl.out
                rw [List.length_append] at h1
                have h3 : (l.take q).length ≤ 1000000 := by rw [List.length_take]; omega
                have h4 : (x.ch.take j).length ≤ 1000000 := by rw [List.length_take]; omega
                omega
              have hset := gB.out.iset m ((cntC (kids (l.take q) ++ x.ch.take j) m : Int) + 1)
              rw [← parL_snoc _ hm] at hset
              have htk : x.ch.take (j + 1) = x.ch.take j ++ [(m : Int)] := by rw [List.take_add_one, Hv.out]; rfl
              rw [List.append_assoc, ← htk] at hset
              have Hset := Lib.hid hset
              have hb' := bw.setCell (p := ⟨gp, m, none⟩) hge (.int .i64 ((cntC (kids (l.take q) ++ x.ch.take j) m : Int) + 1))
              generalize cntC (kids (l.take q) ++ x.ch.take j) m = ct at hcell hcb Hset hb'
              clear hset htk
              go_wp2_with fail
              go_roundw
              case rel => exact ⟨j + 1, by omega, by go_num, Hset, hb'⟩
              case measure => simp [intOf]; omega
            · obtain rfl : j = nc := by omega
              have hlt' : ¬ (j : Int) < (j : Int) := by omega
              have gB4 := gB.out
              rw [List.take_of_length_le (l := x.ch) (by rw [hlc.out]; exact Nat.le_refl _), ← Hks.out] at gB4
              have GB4 := Lib.hid gB4
              clear gB4
              go_wp2_with fail
              go_roundw
              case rel => exact ⟨q + 1, by omega, by go_num, GB4, bw⟩
              case measure => simp [intOf]; omega
        · obtain rfl : q = k := by omega
          have hlt' : ¬ (q : Int) < (q : Int) := by omega
          have gB4 := gB.out
          rw [List.take_of_length_le (by rw [Hn.out]; exact Nat.le_refl _)] at gB4
          have GB4 := Lib.hid gB4
          clear gB4
          go_wp2_with fail
          go_loopw [58] (fun i w9 => ∃ j : Nat, j ≤ q ∧ i = .int .i64 j ∧ Hid (∀ i, i < j → parAt l i = false) ∧ wr = w9) (fun i _ => q - (intOf i).toNat)
          case atStart => exact ⟨0, Nat.zero_le _, rfl, Lib.hid (fun j hj => absurd hj (Nat.not_lt_zero _)), rfl⟩
          case round =>
            obtain ⟨j, hj, rfl, HQ, rfl⟩ := hrel
            by_cases hltj : j < q
            · have hltj' : (j : Int) < (q : Int) := by omega
              have hcell := GB4.out.icell (parL_get _ hltj)
              have hpa : parAt l j = if j = 0 then decide (cntC (kids l) j ≠ 0) else decide (cntC (kids l) j ≠ 1) := rfl
              obtain ⟨ct, hct⟩ : ∃ ct, Hid (ct = cntC (kids l) j) := ⟨_, Lib.hid rfl⟩
              rw [← hct.out] at hpa hcell
              have Hpa := Lib.hid hpa
              clear hpa
              have good : parAt l j = false → Hid (∀ i, i < j + 1 → parAt l i = false) := fun h1 => Lib.hid fun i hi => by
                rcases Nat.lt_succ_iff_lt_or_eq.1 hi with h2 | rfl
                · exact HQ.out i h2
                · exact h1
              have Good := Lib.hid good
              clear good
              by_cases j0 : j = 0
              · subst j0
                by_cases c0 : ct = 0
                · subst c0
                  have e1 := Good.out (by rw [Hpa.out]; simp)
                  go_wp2_with fail
                  go_roundw
                  case rel => exact ⟨1, by omega, by go_num, e1, by simp⟩
                  case measure => simp [intOf]; omega
                · obtain ⟨e1, e2⟩ := BP.out HP.out 0 hltj (by rw [Hpa.out]; simp [c0]) HQ.out
                  have c0b : ((ct : Int) != 0) = true := by simp; omega
                  clear c0
                  go_wp2_with fail
                  go_ret2
                  exact ⟨by rw [e1.out, e2.out]; rfl, bw⟩
              · have j0b : ((j : Int) == 0) = false := by simp; omega
                have j0c : (0 : Int) < (j : Int) := by omega
                by_cases c1 : ct = 1
                · subst c1
                  have e1 := Good.out (by rw [Hpa.out]; simp [j0])
                  clear j0
                  go_wp2_with fail
                  go_roundw
                  case rel => exact ⟨j + 1, by omega, by go_num, e1, by simp⟩
                  case measure => simp [intOf]; omega
                · obtain ⟨e1, e2⟩ := BP.out HP.out j hltj (by rw [Hpa.out]; simp [j0, c1]) HQ.out
                  have c1b : ((ct : Int) != 1) = true := by simp; omega
                  clear c1 j0
                  go_wp2_with fail
                  go_ret2
                  exact ⟨by rw [e1.out, e2.out]; rfl, bw⟩
            · obtain rfl : j = q := by omega
              have hlt' : ¬ (j : Int) < (j : Int) := by omega
              obtain ⟨e1, e2⟩ := GD.out HP.out HQ.out
              go_wp2_with fail
              go_ret2
              exact ⟨by rw [e1.out, e2.out]; simp, bw⟩
end Go.Proofs.YtcnofhlgiffkjaaGreatDoor
/- slices.Clone at ints; states in memory; branch. -/
namespace Go.Proofs.YtcnofhlgiffkjaaGreatDoor
open Go.RowKit
set_option linter.unusedVariables false
set_option linter.unusedSimpArgs false

/-- slices.Clone: a slice of the call's own with the same numbers. -/
theorem cloneI_any (A : Option Addr) (n c : Nat) (l : List Int) (w : World) (h : Sees w w.heap.size A (l.map iv)) (hn : l.length = n) (hb : n ≤ 1000000000) :
    Calls Tryz.prog 23 #[.slice A n c] w fun e w' => ∃ A' c', e = .returned (.slice A' n c') ∧ OwnI w' w.heap.size (.slice A' n c') n l ∧ Below w.heap.size w w' := by
  have h1 := fun w => Lib.run_eql_slice_nil (P := Tryz.prog) w 30 3 A n c 0 0 Tryz.underlying30
  rcases A with _ | ad
  · go_enter Tryz.func23, Tryz.ntmps23
    go_wp2_with fail
    go_ret
    have := h.none_
    simp at this; subst this
    subst hn
    exact ⟨none, 0, rfl, OwnI.nil _ _, Below.refl _ _⟩
  · go_enter Tryz.func23, Tryz.ntmps23
    go_wp2_with (at_builtin; refine wpL_appI _ rfl (.tmp 5) (.tmp 6) rfl w.heap.size _ 0 [] rfl (OwnI.lit w #[] 0 [] (by unfold maxLen; omega) rfl rfl _ rfl) w.heap.size (some ad) n c l rfl hn (h.alloc (Nat.le_refl _) _) (by omega) (by simp) n (by omega) l rfl ?_; intro A' c' w1 hown hg _)
    go_ret
    exact ⟨A', c', rfl, hown, below_app ((Below.refl _ _).alloc (Nat.le_refl _) _) (by simp) (OwnI.lit w #[] 0 [] (by unfold maxLen; omega) rfl rfl _ rfl) hg⟩

/-- The block of what is owned. -/
theorem OwnI.blk {w : World} {base n c : Nat} {A : Option Addr} {l : List Int} (h : OwnI w base (.slice A n c) n l) (hn : 0 < n) :
    ∃ g cs, A = some ⟨g, 0, none⟩ ∧ base ≤ g ∧ Blk w g 3 cs ∧ ∀ (j : Nat) (u : Value), (l.map iv)[j]? = some u → cs[j]? = some u := by
  have hs := h.sees
  have hl := h.len
  rcases h.2 with ⟨_, h0⟩ | ⟨g, cap, cur, h1, h2, h3, _⟩
  · omega
  · have hA : A = some ⟨g, 0, none⟩ := by injection h1
    subst hA
    refine ⟨g, cur, rfl, h2, h3, fun j u hu => ?_⟩
    obtain ⟨b, o, e, _, hc⟩ := hs (by intro e; rw [e] at hu; simp at hu)
    injection e with e
    injection e with e1 e2 _
    subst e1 e2
    have := hc j u hu
    rw [Nat.zero_add, Blk.cell (show Blk w g 3 cur from h3)] at this
    exact this

theorem setCell_size (w : World) (a : Addr) (v : Value) : (w.setCell a v).heap.size = w.heap.size := by simp [World.setCell]
/-- The block gS holds slices with these numbers. -/
def StA (w : World) (gS n : Nat) (sts : List (List Int)) : Prop :=
  ∃ vs : List Value, Blk w gS 30 vs.toArray ∧ vs.length = n ∧ sts.length = n ∧
    ∀ (i : Nat) (st : List Int), sts[i]? = some st → ∃ A c, vs[i]? = some (.slice A st.length c) ∧ Sees w w.heap.size A (st.map iv)
/-- Numbers do not lie in a block of slices. -/
theorem Sees.offS {w : World} {B gS i : Nat} {A : Option Addr} {l : List Int} {n : Nat} {sts : List (List Int)} (h : Sees w B A (l.map iv)) (hS : StA w gS n sts) (u : Value) : Sees (w.setCell ⟨gS, i, none⟩ u) B A (l.map iv) := fun hn => by
  obtain ⟨b, o, e, hb, hc⟩ := h hn
  obtain ⟨vs, hblk, hv, hs, hvs⟩ := hS
  have hne : b ≠ gS := by
    rintro rfl
    obtain ⟨z, m, hl⟩ := List.exists_cons_of_ne_nil hn
    have h0 := hc 0 z (by rw [hl]; rfl)
    have hz : z ∈ l.map iv := by rw [hl]; simp
    obtain ⟨y, _, rfl⟩ := List.mem_map.1 hz
    rw [hblk.cell] at h0
    have h1 : vs[o + 0]? = some (iv y) := by simpa using h0
    have h2 := (List.getElem?_eq_some_iff.1 h1).1
    obtain ⟨A9, c9, h3, _⟩ := hvs (o + 0) _ (List.getElem?_eq_getElem (by rw [hs, ← hv]; exact h2))
    rw [h1] at h3
    simp [iv] at h3
  exact ⟨b, o, e, hb, fun j x hx => (World.cell?_setCell_other w _ _ _ (fun e2 => hne (by injection e2 with e2; exact e2.symm))).trans (hc j x hx)⟩
theorem StA.below {w w' : World} {gS n : Nat} {sts : List (List Int)} (h : StA w gS n sts) (hb : Below w.heap.size w w') : StA w' gS n sts := by
  obtain ⟨vs, hblk, hv, hs, hvs⟩ := h
  refine ⟨vs, hblk.on hb, hv, hs, fun i st hi => ?_⟩
  obtain ⟨A, c, h1, h2⟩ := hvs i st hi
  exact ⟨A, c, h1, h2.on hb⟩
theorem StA.get {w : World} {gS n : Nat} {sts : List (List Int)} (h : StA w gS n sts) {i : Nat} (hi : i < n) :
    ∃ st A c, Hid (sts[i]? = some st) ∧ w.cell? ⟨gS, i, none⟩ = some (.slice A st.length c) ∧ Sees w w.heap.size A (st.map iv) := by
  obtain ⟨vs, hblk, hv, hs, hvs⟩ := h
  obtain ⟨st, he⟩ : ∃ st, sts[i]? = some st := ⟨_, List.getElem?_eq_getElem (by omega)⟩
  obtain ⟨A, c, h1, h2⟩ := hvs i st he
  exact ⟨st, A, c, Lib.hid he, by rw [hblk.cell]; simpa using h1, h2⟩
theorem StA.put {w : World} {gS n m c : Nat} {sts : List (List Int)} {A : Option Addr} {st : List Int} (h : StA w gS n sts) (hs : Sees w w.heap.size A (st.map iv)) (hm : m < n) :
    StA (w.setCell ⟨gS, m, none⟩ (.slice A st.length c)) gS n (sts.set m st) := by
  have h0 := h
  obtain ⟨vs, hblk, hv, hl, hvs⟩ := h
  refine ⟨vs.set m (.slice A st.length c), ?_, by simpa using hv, by simpa using hl, fun i st' hi => ?_⟩
  · have := hblk.put m (.slice A st.length c)
    simpa using this
  · rw [setCell_size]
    by_cases e : m = i
    · subst e
      rw [List.getElem?_set_self (by omega)] at hi
      injection hi with hi
      subst hi
      exact ⟨A, c, by rw [List.getElem?_set_self (by omega)], hs.offS h0 _⟩
    · rw [List.getElem?_set_ne e] at hi
      obtain ⟨A', c', h1, h2⟩ := hvs i st' hi
      exact ⟨A', c', by rw [List.getElem?_set_ne e]; exact h1, h2.offS h0 _⟩
/-- A store into the numbers of state m, which lie in a block of their own. -/
theorem StA.poke {w : World} {gS n m g j B : Nat} {sts : List (List Int)} {st : List Int} {z : Int} {cs : Array Value} {c : Nat} (h : StA w gS n sts) (hm : sts[m]? = some st) (hb : Blk w g 3 cs) (hcs : ∀ (j : Nat) (u : Value), (st.map iv)[j]? = some u → cs[j]? = some u)
    (hv : w.cell? ⟨gS, m, none⟩ = some (.slice (some ⟨g, 0, none⟩) st.length c)) (hj : j < st.length) (hB : B ≤ g) (hfar : ∀ i st' A' c', i ≠ m → sts[i]? = some st' → w.cell? ⟨gS, i, none⟩ = some (.slice A' st'.length c') → Sees w B A' (st'.map iv)) :
    StA (w.setCell ⟨g, j, none⟩ (.int .i64 z)) gS n (sts.set m (st.set j z)) := by
  obtain ⟨vs, hblk, hvl, hl, hvs⟩ := h
  have hne : gS ≠ g := Blk.apart hblk hb (by decide)
  have hmn : m < n := by rw [← hl]; exact (List.getElem?_eq_some_iff.1 hm).1
  refine ⟨vs, hblk.far (p := ⟨g, j, none⟩) hne _, hvl, by simpa using hl, fun i st' hi => ?_⟩
  rw [setCell_size]
  by_cases e : m = i
  · subst e
    rw [List.getElem?_set_self (by omega)] at hi
    injection hi with hi
    subst hi
    rw [hblk.cell] at hv
    refine ⟨some ⟨g, 0, none⟩, c, by simpa using hv, fun hn => ⟨g, 0, rfl, hb.lt, fun q u hu => ?_⟩⟩
    rw [Nat.zero_add, (hb.put j (.int .i64 z)).cell]
    rw [List.map_set] at hu
    by_cases e2 : j = q
    · subst e2
      have hlt : j < cs.size := by
        have h1 := hcs j (iv st[j]) (by simp [hj])
        exact (Array.getElem?_eq_some_iff.1 h1).1
      rw [List.getElem?_set_self (by simpa using hj)] at hu
      injection hu with hu
      subst hu
      simp [hlt, iv]
    · rw [List.getElem?_set_ne e2] at hu
      have := hcs q u hu
      simpa [Array.getElem?_setIfInBounds, e2] using this
  · rw [List.getElem?_set_ne e] at hi
    obtain ⟨A', c', h1, h2⟩ := hvs i st' hi
    refine ⟨A', c', h1, ?_⟩
    have h3 := hfar i st' A' c' (fun e2 => e e2.symm) hi (by rw [hblk.cell]; simpa using h1)
    exact ((h3.setCell (p := ⟨g, j, none⟩) hB _).more (Nat.le_trans hB (Nat.le_of_lt hb.lt)))

def eligA (P : Pr) (z : Int) : Nat := P.elig[z.toNat]?.getD 0
def branchB (P : Pr) (x : Nd) (st : List Int) : Bool := decide (0 ≤ x.step) && decide (x.step < st.length) && decide (atZ st x.step = 0) && decide ((memZ (eligA P x.step)).length = x.ch.length)
def fillS (st : List Int) (z : Nat) (sts : List (List Int)) (l : List (Int × Int)) : List (List Int) := l.foldl (fun s cu => s.set cu.1.toNat (st.set z cu.2)) sts
theorem fillS_snoc (st : List Int) (z : Nat) (sts : List (List Int)) (l : List (Int × Int)) (cu : Int × Int) : fillS st z sts (l ++ [cu]) = (fillS st z sts l).set cu.1.toNat (st.set z cu.2) := by
  unfold fillS
  rw [List.foldl_append]; rfl
theorem fillS_len (st : List Int) (z : Nat) (sts : List (List Int)) (l : List (Int × Int)) : (fillS st z sts l).length = sts.length := by
  unfold fillS
  induction l generalizing sts with
  | nil => rfl
  | cons a l ih => rw [List.foldl_cons, ih, List.length_set]

set_option maxHeartbeats 8000000 in
set_option maxRecDepth 100000 in
/-- branch. -/
theorem branch_any (p : PrV) (P : Pr) (x : Nd) (C S : Sl) (B gS n nS cS : Nat) (sts : List (List Int)) (A : Option Addr) (st : List Int) (w : World) (hP : PrAt w B p P) (hx : NdL w B C S x) (hBw : B ≤ w.heap.size) (hS : StA w gS n sts) (hBS : B ≤ gS)
    (hst : Sees w w.heap.size A (st.map iv)) (hls : st.length = nS) (hle : st.length = P.elig.length) (hch : ∀ c ∈ x.ch, 0 ≤ c ∧ c < (n : Int)) (hn : n ≤ 1000000) (hT : Tab w) :
    Calls Tryz.prog 36 #[p.v, .agg #[.int .u8 (x.kind : Int), .int .i64 x.step, Sl.v C, Sl.v S], .slice A nS cS, .slice (some ⟨gS, 0, none⟩) n n] w
      fun e w' => e = .returned (.bool (branchB P x st)) ∧ Below B w w' ∧ (branchB P x st = true → StA w' gS n (fillS st x.step.toNat sts (x.ch.zip (memZ (eligA P x.step))))) := by
  have hg0 : 0 < w.heap.size := World.block_lt_of_cell? w _ (hT 0 (by omega))
  obtain ⟨⟨A1, n1, c1⟩, ⟨A2, n2, c2⟩, ⟨A3, n3, c3⟩, ⟨A4, n4, c4⟩, ⟨A5, n5, c5⟩⟩ := p
  obtain ⟨l1, _, _, _, _, e1, _, _, _, _, s1, _, _, _, _, _⟩ := hP
  simp only at l1 e1 s1
  obtain rfl : nS = n1 := by omega
  obtain ⟨kd, z, ch, stp⟩ := x
  obtain ⟨Ac, nc, cc⟩ := C
  obtain ⟨As, ns, cs⟩ := S
  obtain ⟨k8, hsc, _, lc, ls, _, _, bc, bs⟩ := hx
  simp only at k8 hsc lc ls bc bs hch ⊢
  unfold PrV.v Sl.v
  simp only []
  have hdef : branchB P ⟨kd, z, ch, stp⟩ st = (decide (0 ≤ z) && decide (z < nS) && decide (atZ st z = 0) && decide ((memZ (eligA P z)).length = nc)) := by
    unfold branchB
    simp only [lc, hls]
  obtain ⟨r, hr⟩ : ∃ r, Hid (r = branchB P ⟨kd, z, ch, stp⟩ st) := ⟨_, Lib.hid rfl⟩
  rw [← hr.out] at hdef ⊢
  have Hd := Lib.hid hdef
  have Hls := Lib.hid hls
  have Hlc := Lib.hid lc
  have L1 := Lib.hid l1
  have Hch := Lib.hid hch
  have hs1 : (nS : Int) ≤ 1000000 := by omega
  have hbc : (nc : Int) ≤ 1000000 := by omega
  have hnb : (n : Int) ≤ 1000000 := by omega
  have hgS : gS < w.heap.size := by obtain ⟨vs, hblk, _⟩ := hS; exact hblk.lt
  clear hdef hls lc l1 hle hch ls hr
  have b1 : Below w.heap.size w ((w.alloc (.cells #[.slice A1 nS c1, .slice A2 n2 c2, .slice A3 n3 c3, .slice A4 n4 c4, .slice A5 n5 c5] 37)).alloc (.cells #[.int .u8 (kd : Int), .int .i64 z, .slice Ac nc cc, .slice As ns cs] 95)) := ((Below.refl _ _).alloc (Nat.le_refl _) _).alloc (by simp) _
  have bP := (Blk.new w 37 #[.slice A1 nS c1, .slice A2 n2 c2, .slice A3 n3 c3, .slice A4 n4 c4, .slice A5 n5 c5]).alloc (.cells #[.int .u8 (kd : Int), .int .i64 z, .slice Ac nc cc, .slice As ns cs] 95)
  have bX := Blk.new (w.alloc (.cells #[.slice A1 nS c1, .slice A2 n2 c2, .slice A3 n3 c3, .slice A4 n4 c4, .slice A5 n5 c5] 37)) 95 #[.int .u8 (kd : Int), .int .i64 z, .slice Ac nc cc, .slice As ns cs]
  rw [World.size_alloc] at bX
  have box : ∀ W, Blk W w.heap.size 37 #[.slice A1 nS c1, .slice A2 n2 c2, .slice A3 n3 c3, .slice A4 n4 c4, .slice A5 n5 c5] → Blk W (w.heap.size + 1) 95 #[.int .u8 (kd : Int), .int .i64 z, .slice Ac nc cc, .slice As ns cs] →
      W.cell? ⟨w.heap.size, 0, none⟩ = some (.slice A1 nS c1) ∧ W.cell? ⟨w.heap.size + 1, 1, none⟩ = some (.int .i64 z) ∧ W.cell? ⟨w.heap.size + 1, 2, none⟩ = some (.slice Ac nc cc) := fun W h1 h2 => ⟨(h1.cell 0).trans rfl, (h2.cell 1).trans rfl, (h2.cell 2).trans rfl⟩
  have hS1 := hS.below b1
  have hst1 := hst.on b1
  have hT1 := hT.below b1 hg0
  have hsz1 : ((w.alloc (.cells #[.slice A1 nS c1, .slice A2 n2 c2, .slice A3 n3 c3, .slice A4 n4 c4, .slice A5 n5 c5] 37)).alloc (.cells #[.int .u8 (kd : Int), .int .i64 z, .slice Ac nc cc, .slice As ns cs] 95)).heap.size = w.heap.size + 2 := by simp
  by_cases z0 : z < 0
  · have e1 : Hid (r = false) := Lib.hid (by rw [Hd.out, decide_eq_false (p := 0 ≤ z) (by omega)]; simp)
    go_enter Tryz.func36, Tryz.ntmps36
    go_wp2_with fail
    go_ret
    exact ⟨ret_bool e1.out.symm, b1.mono hBw, fun h => by rw [e1.out] at h; cases h⟩
  · by_cases z1 : (nS : Int) ≤ z
    · have e1 : Hid (r = false) := Lib.hid (by rw [Hd.out, decide_eq_false (p := z < _) (by omega)]; simp)
      go_enter Tryz.func36, Tryz.ntmps36
      go_wp2_with fail
      go_ret
      exact ⟨ret_bool e1.out.symm, b1.mono hBw, fun h => by rw [e1.out] at h; cases h⟩
    · obtain ⟨m, rfl⟩ : ∃ m : Nat, z = (m : Int) := ⟨z.toNat, by omega⟩
      have hm : m < nS := by omega
      have hm' : (m : Int) < (nS : Int) := by omega
      obtain ⟨bs', os, v, rfl, hbs, Hv, hcv⟩ := Sees.int (k := m) hst1 (by rw [Hls.out]; exact hm)
      have hv : atZ st (m : Int) = v := by unfold atZ atI; rw [Int.toNat_natCast, Hv.out]; rfl
      have Hv2 := Lib.hid hv
      clear hv
      by_cases v0 : v = 0
      · subst v0
        obtain ⟨M, hM⟩ : ∃ M, P.elig[m]? = some M := ⟨_, List.getElem?_eq_getElem (by rw [L1.out]; exact hm)⟩
        obtain ⟨be, oe, Xe, rfl, hbe, hce, hSe⟩ := (e1.below (b1.mono hBw)) m M hM
        obtain ⟨Ae, ne, ce, hXe, _⟩ := id hSe
        obtain rfl : Xe = .slice Ae ne ce := by simpa using hXe
        clear hXe
        have hel : eligA P (m : Int) = M := by unfold eligA; rw [Int.toNat_natCast, hM]; rfl
        rw [hel]
        have hd2 : r = decide ((memZ M).length = nc) := by rw [Hd.out, hel, decide_eq_true (p := 0 ≤ (m : Int)) (by omega), decide_eq_true hm', decide_eq_true Hv2.out]; simp
        have hli := list_any (.agg #[.slice Ae ne ce]) M _ (hSe.more (Nat.le_trans hBw b1.size)) hT1
        obtain ⟨us, hus⟩ : ∃ us, us = memZ M := ⟨_, rfl⟩
        simp only [Int.toNat_natCast]
        rw [← hus] at hli ⊢
        have Hd2 : Hid (r = decide (us.length = nc)) := Lib.hid (by rw [hus]; exact hd2)
        obtain ⟨zs, hzs⟩ : ∃ zs, Hid (zs = ch.zip us) := ⟨_, Lib.hid rfl⟩
        rw [← hzs.out]
        clear hel hM hd2 Hd hus
        go_enter Tryz.func36, Tryz.ntmps36
        go_wp2_with fail
        generalize ((w.alloc (.cells #[.slice (some ⟨be, oe, none⟩) nS c1, .slice A2 n2 c2, .slice A3 n3 c3, .slice A4 n4 c4, .slice A5 n5 c5] 37)).alloc (.cells #[.int .u8 (kd : Int), .int .i64 (m : Int), .slice Ac nc cc, .slice As ns cs] 95)) = W1 at b1 bP bX hS1 hst1 hT1 hsz1 hli hcv hce hSe ⊢
        obtain ⟨t0, t1, t2⟩ := box W1 bP bX
        refine hli.mono ?_
        rintro e w2 ⟨Au, nu, cu, rfl, hown, bw2⟩
        obtain ⟨t0, t1, t2⟩ := box w2 (bP.on bw2) (bX.on bw2)
        have hlu := hown.len
        have Hlu := Lib.hid hlu
        have bw := b1.trans (bw2.mono b1.size)
        clear hlu
        by_cases q : nu = nc
        · subst q
          have e1 : Hid (r = true) := Lib.hid (by rw [Hd2.out, Hlu.out]; simp)
          go_wp2_with fail
          clear Hd2
          have hge2 : w.heap.size + 2 ≤ w2.heap.size := by have := bw2.size; omega
          have hS2 : Hid (StA w2 gS n (fillS st m sts (zs.take 0))) := Lib.hid (hS1.below bw2)
          have hst2 : Sees w2 w.heap.size (some ⟨bs', os, none⟩) (st.map iv) := hst.below bw
          have hus2 := hown.sees
          have bX2 := bX.on bw2
          have hgeS : gS < w2.heap.size := by omega
          have bB2 := bw.mono hBw
          have hge3 : w2.heap.size ≤ w2.heap.size := Nat.le_refl _
          generalize hz2 : w2.heap.size = N2 at hge2 hus2 hgeS hge3
          have hz3 : N2 ≤ w2.heap.size := by omega
          clear hcv hce t0 t1 t2 hown hz2
          go_loopw [46] (fun i wr => ∃ j : Nat, j ≤ nu ∧ i = .int .i64 j ∧ Hid (StA wr gS n (fillS st m sts (zs.take j))) ∧ Below B w wr ∧ Sees wr w.heap.size (some ⟨bs', os, none⟩) (st.map iv) ∧ Sees wr N2 Au (us.map iv) ∧ Blk wr (w.heap.size + 1) 95 #[.int .u8 (kd : Int), .int .i64 (m : Int), .slice Ac nu cc, .slice As ns cs] ∧ N2 ≤ wr.heap.size) (fun i _ => nu - (intOf i).toNat)
          case atStart => exact ⟨0, Nat.zero_le _, rfl, hS2, bB2, hst2, hus2, bX2, hz3⟩
          case round =>
            obtain ⟨j, hj, rfl, HS, hB, hst3, hus3, bX3, hN3⟩ := hrel
            by_cases hltj : j < nu
            · have hltj' : (j : Int) < (nu : Int) := by omega
              obtain ⟨b9, o9, v9, rfl, hb9, Hv9, hcv9⟩ := Sees.int (k := j) (hsc.below hB) (by rw [Hlc.out]; exact hltj)
              obtain ⟨ci0, ci1⟩ := Hch.out v9 (List.mem_of_getElem? Hv9.out)
              obtain ⟨ci, rfl⟩ : ∃ ci : Nat, v9 = (ci : Int) := ⟨v9.toNat, by omega⟩
              have hci : ci < n := by omega
              have hci' : (ci : Int) < (n : Int) := by omega
              obtain ⟨b8, o8, u8, rfl, hb8, Hu8, hcu8⟩ := Sees.int (k := j) hus3 (by rw [Hlu.out]; exact hltj)
              have hcl := cloneI_any (some ⟨bs', os, none⟩) nS cS st wr (hst3.more (by omega)) Hls.out (by omega)
              go_wp2_with fail
              refine hcl.mono ?_
              rintro e w3 ⟨A', c', rfl, how3, bw3⟩
              obtain ⟨g, cs', rfl, hg, hbg, hcs⟩ := how3.blk (by omega)
              have hS3 := HS.out.below bw3
              obtain ⟨vs3, hblk3, hvl3, hsl3, _⟩ := id hS3
              have hf3 := hblk3.frozen ci
              obtain ⟨st8, A8, c8, _, hcell8, _⟩ := hS3.get hci
              go_wp2_with fail
              have hlw3 : wr.heap.size ≤ w3.heap.size := bw3.size
              have hS4 : StA (w3.setCell ⟨gS, ci, none⟩ (.slice (some ⟨g, 0, none⟩) nS c')) gS n ((fillS st m sts (zs.take j)).set ci st) := by
                have h1 := hS3.put (c := c') how3.sees hci
                rw [Hls.out] at h1
                exact h1
              have hbg4 : Blk (w3.setCell ⟨gS, ci, none⟩ (.slice (some ⟨g, 0, none⟩) nS c')) g 3 cs' := hbg.far (p := ⟨gS, ci, none⟩) (by simp; omega) _
              have hv4 : (w3.setCell ⟨gS, ci, none⟩ (.slice (some ⟨g, 0, none⟩) nS c')).cell? ⟨gS, ci, none⟩ = some (.slice (some ⟨g, 0, none⟩) nS c') := by
                have h1 := (hblk3.put ci (.slice (some ⟨g, 0, none⟩) nS c')).cell ci
                rw [h1]
                simp [hvl3, hci]
              have hB4 : Below B w (w3.setCell ⟨gS, ci, none⟩ (.slice (some ⟨g, 0, none⟩) nS c')) := (hB.trans (bw3.mono (by omega))).setCell (p := ⟨gS, ci, none⟩) (by simp; omega) _
              have hst4 : Sees (w3.setCell ⟨gS, ci, none⟩ (.slice (some ⟨g, 0, none⟩) nS c')) w.heap.size (some ⟨bs', os, none⟩) (st.map iv) := (hst3.below (bw3.mono (by omega))).offS hS3 _
              have hus4 : Sees (w3.setCell ⟨gS, ci, none⟩ (.slice (some ⟨g, 0, none⟩) nS c')) N2 (some ⟨b8, o8, none⟩) (us.map iv) := (hus3.below (bw3.mono hN3)).offS hS3 _
              have hcu4 := (hus4 (by intro e; have h2 := congrArg List.length e; rw [List.length_map, Hlu.out] at h2; simp at h2; omega))
              have hX4 : Blk (w3.setCell ⟨gS, ci, none⟩ (.slice (some ⟨g, 0, none⟩) nS c')) (w.heap.size + 1) 95 #[.int .u8 (kd : Int), .int .i64 (m : Int), .slice (some ⟨b9, o9, none⟩) nu cc, .slice As ns cs] := (bX3.below bw3 (by omega)).far (p := ⟨gS, ci, none⟩) (by simp; omega) _
              have hfar : ∀ (i : Nat) (st' : List Int) (A' : Option Addr) (c'' : Nat), i ≠ ci → ((fillS st m sts (zs.take j)).set ci st)[i]? = some st' → (w3.setCell ⟨gS, ci, none⟩ (.slice (some ⟨g, 0, none⟩) nS c')).cell? ⟨gS, i, none⟩ = some (.slice A' st'.length c'') → Sees (w3.setCell ⟨gS, ci, none⟩ (.slice (some ⟨g, 0, none⟩) nS c')) wr.heap.size A' (st'.map iv) := by
                intro i st' A' c'' hne hi hv
                rw [List.getElem?_set_ne (fun e => hne e.symm)] at hi
                have hin : i < n := by rw [← (HS.out.choose_spec).2.2.1]; exact (List.getElem?_eq_some_iff.1 hi).1
                obtain ⟨st0, A0, c0, hs0, hc0, hse0⟩ := HS.out.get hin
                have e0 := hs0.out.symm.trans hi
                injection e0 with e0
                subst e0
                have h1 : (w3.setCell ⟨gS, ci, none⟩ (.slice (some ⟨g, 0, none⟩) nS c')).cell? ⟨gS, i, none⟩ = wr.cell? ⟨gS, i, none⟩ := (World.cell?_setCell_other w3 _ _ _ (fun e2 => hne (by injection e2 with _ e2; exact e2.symm))).trans (bw3.cell (p := ⟨gS, i, none⟩) (by simp; omega))
                rw [h1, hc0] at hv
                injection hv with hv
                injection hv with e1 _ _
                subst e1
                exact (hse0.below bw3).offS hS3 _
              have hz4 : wr.heap.size ≤ (w3.setCell ⟨gS, ci, none⟩ (.slice (some ⟨g, 0, none⟩) nS c')).heap.size := by rw [setCell_size]; exact hlw3
              have hbg4' := hbg4.lt
              generalize (w3.setCell ⟨gS, ci, none⟩ (.slice (some ⟨g, 0, none⟩) nS c')) = w4 at hS4 hbg4 hv4 hB4 hst4 hus4 hcu4 hX4 hfar hz4 hbg4' ⊢
              obtain ⟨b8', o8', e8, _, hcu4⟩ := hcu4
              injection e8 with e8
              injection e8 with e81 e82 _
              subst e81 e82
              have hcv8 := hcu4 j (iv u8) (by rw [List.getElem?_map, Hu8.out]; rfl)
              unfold iv at hcv8
              have hx4 := (hX4.cell 1).trans rfl
              have hfg := hbg4.frozen m
              have hcg : w4.cell? ⟨g, m, none⟩ = some (.int .i64 0) := by rw [hbg4.cell]; exact hcs m (iv 0) (by rw [List.getElem?_map, Hv.out]; rfl)
              have hzj : zs[j]? = some ((ci : Int), u8) := by rw [hzs.out, List.getElem?_zip_eq_some]; exact ⟨Hv9.out, Hu8.out⟩
              have hnx : fillS st m sts (zs.take (j + 1)) = ((fillS st m sts (zs.take j)).set ci st).set ci (st.set m u8) := by
                rw [List.take_add_one, hzj]
                show fillS st m sts (zs.take j ++ [((ci : Int), u8)]) = _
                rw [fillS_snoc, List.set_set]
                simp
              have Hnx := Lib.hid hnx
              have hS5 : StA (w4.setCell ⟨g, m, none⟩ (.int .i64 u8)) gS n (fillS st m sts (zs.take (j + 1))) := by
                rw [Hnx.out]
                refine StA.poke (B := wr.heap.size) (c := c') hS4 (List.getElem?_set_self ?_) hbg4 hcs ?_ (by rw [Hls.out]; exact hm) hg hfar
                · rw [← hsl3] at hci
                  exact hci
                · rw [Hls.out]; exact hv4
              have HS5 := Lib.hid hS5
              have hB5 := hB4.setCell (p := ⟨g, m, none⟩) (by simp; omega) (.int .i64 u8)
              have hst5 := hst4.setCell (p := ⟨g, m, none⟩) (by simp; omega) (.int .i64 u8)
              have hus5 := hus4.setCell (p := ⟨g, m, none⟩) (by simp; omega) (.int .i64 u8)
              have hX5 := hX4.far (p := ⟨g, m, none⟩) (by simp; omega) (.int .i64 u8)
              have hz5 : N2 ≤ (w4.setCell ⟨g, m, none⟩ (.int .i64 u8)).heap.size := by rw [setCell_size]; omega
              clear hS5 hnx hzj hfar hcu4 hf3 hcell8 hS3 hblk3 hsl3
              go_region
              all_goals (
                go_wp2_with fail
                go_roundw
                case rel => exact ⟨j + 1, by omega, by go_num, HS5, hB5.drew, hst5, hus5, hX5, hz5⟩
                case measure => simp [intOf]; omega)
            · obtain rfl : j = nu := by omega
              have hlt' : ¬ (j : Int) < (j : Int) := by omega
              have hfin : zs.take j = zs := List.take_of_length_le (by rw [hzs.out, List.length_zip, Hlu.out]; omega)
              have hS6 := HS.out
              rw [hfin] at hS6
              have HS6 := Lib.hid hS6
              clear hS6 hfin
              go_wp2_with fail
              go_ret
              exact ⟨ret_bool e1.out.symm, hB, fun _ => HS6.out⟩
        · have qb : ((nu : Int) != (nc : Int)) = true := by simp; omega
          have e1 : Hid (r = false) := Lib.hid (by rw [Hd2.out, Hlu.out]; simp [q])
          clear q
          go_wp2_with fail
          go_ret
          exact ⟨ret_bool e1.out.symm, bw.mono hBw, fun h => by rw [e1.out] at h; cases h⟩
      · have v0b : (v != 0) = true := by simpa using v0
        have e1 : Hid (r = false) := Lib.hid (by rw [Hd.out, decide_eq_false (p := atZ st _ = 0) (by rw [Hv2.out]; exact v0)]; simp)
        clear v0
        go_enter Tryz.func36, Tryz.ntmps36
        go_wp2_with fail
        go_ret
        exact ⟨ret_bool e1.out.symm, b1.mono hBw, fun h => by rw [e1.out] at h; cases h⟩
end Go.Proofs.YtcnofhlgiffkjaaGreatDoor
/- What Check computes, plain. -/
namespace Go.Proofs.YtcnofhlgiffkjaaGreatDoor
open Go.RowKit
set_option linter.unusedVariables false
set_option linter.unusedSimpArgs false

def walkN (P : Pr) : List Nd → Nat → List (List Int) → Nat × Int
  | [], _, _ => (1, 0)
  | x :: l, i, sts =>
    if x.kind = 1 then (if branchB P x (sts[i]?.getD []) then walkN P l (i + 1) (fillS (sts[i]?.getD []) x.step.toNat sts (x.ch.zip (memZ (eligA P x.step)))) else (3, (i : Int)))
    else if x.kind = 2 then (if brk P (sts[i]?.getD []) then walkN P l (i + 1) sts else (4, (i : Int)))
    else (if hallB P x.st (sts[i]?.getD []) then walkN P l (i + 1) sts else (5, (i : Int)))
def chkR (P : Pr) (l : List Nd) : Nat × Int :=
  if chkP P ≠ 0 then (2, 0) else if (treeR l).2 = false then (2, (treeR l).1) else walkN P l 0 ((List.replicate l.length []).set 0 P.fix)

/-- What a tree is. -/
structure TreeOk (l : List Nd) : Prop where
  pos : 0 < l.length
  form : ∀ (i : Nat) (x : Nd), l[i]? = some x → formB i l.length x = true
  par : ∀ k, k < l.length → k ≠ 0 → (k : Int) ∈ kids (l.take k)
theorem tree_ok {l : List Nd} (h : (treeR l).2 = true) : TreeOk l := by
  unfold treeR at h
  cases hf : (List.range l.length).find? (formAt l) with
  | some i => rw [hf] at h; cases h
  | none =>
    rw [hf] at h
    cases hp : (List.range l.length).find? (parAt l) with
    | some i => rw [hp] at h; cases h
    | none =>
      rw [hp] at h
      have hform : ∀ (i : Nat) (x : Nd), l[i]? = some x → formB i l.length x = true := fun i x hx => by
        have h1 := List.find?_range_eq_none.1 hf i (List.getElem?_eq_some_iff.1 hx).1
        unfold formAt at h1
        rw [hx] at h1
        simpa using h1
      refine ⟨by simpa using h, hform, fun k hk h0 => ?_⟩
      have h1 := List.find?_range_eq_none.1 hp k hk
      unfold parAt at h1
      rw [if_neg h0] at h1
      have h2 : cntC (kids l) k = 1 := by simpa using h1
      have h3 : (k : Int) ∈ kids l := by
        unfold cntC at h2
        obtain ⟨c, hc⟩ := List.exists_mem_of_length_pos (l := (kids l).filter fun c => decide (c = (k : Int))) (by omega)
        obtain ⟨h3, h4⟩ := List.mem_filter.1 hc
        have : c = (k : Int) := by simpa using h4
        rw [← this]; exact h3
      unfold kids at h3
      obtain ⟨x, hx, hc⟩ := List.mem_flatMap.1 h3
      obtain ⟨i, hi⟩ := List.mem_iff_getElem?.1 hx
      have h4 := form_kids (hform i x hi) _ hc
      unfold kids
      refine List.mem_flatMap.2 ⟨x, ?_, hc⟩
      refine List.mem_of_getElem? (i := i) ?_
      rw [List.getElem?_take_of_lt (by omega)]
      exact hi
theorem fillS_get (st : List Int) (z : Nat) : ∀ (l : List (Int × Int)) (sts : List (List Int)) (j : Nat) (st' : List Int), (fillS st z sts l)[j]? = some st' →
    (sts[j]? = some st' ∧ ∀ cu ∈ l, cu.1.toNat ≠ j) ∨ ∃ cu ∈ l, cu.1.toNat = j ∧ st' = st.set z cu.2
  | [], sts, j, st', h => .inl ⟨h, fun cu hc => by cases hc⟩
  | a :: l, sts, j, st', h => by
    rcases fillS_get st z l (sts.set a.1.toNat (st.set z a.2)) j st' h with ⟨h1, h2⟩ | ⟨cu, h1, h2, h3⟩
    · by_cases e : a.1.toNat = j
      · have hlt : j < sts.length := by
          have := (List.getElem?_eq_some_iff.1 h1).1
          simpa using this
        rw [← e, List.getElem?_set_self (by rw [e]; exact hlt)] at h1
        injection h1 with h1
        exact .inr ⟨a, by simp, e, h1.symm⟩
      · rw [List.getElem?_set_ne e] at h1
        refine .inl ⟨h1, fun cu hc => ?_⟩
        rcases List.mem_cons.1 hc with rfl | hc
        · exact e
        · exact h2 cu hc
    · exact .inr ⟨cu, by simp [h1], h2, h3⟩
/-- The states that are filled are lists of users. -/
def StsOk (P : Pr) (l : List Nd) (k : Nat) (sts : List (List Int)) : Prop :=
  ∀ (j : Nat) (st : List Int), sts[j]? = some st → (j = 0 ∨ (j : Int) ∈ kids (l.take k)) → st.length = P.elig.length ∧ ∀ u ∈ st, 0 ≤ u ∧ u ≤ 256
theorem memM_bit {M x : Nat} (h : x ∈ memM M) : M.testBit x = true := by
  obtain ⟨n, hn⟩ : ∃ n, M < 2 ^ n := ⟨M, Nat.lt_two_pow_self⟩
  rw [memM_memT hn] at h
  exact (List.mem_filter.1 h).2
theorem bit_lt {M n x : Nat} (h : M < 2 ^ n) (hb : M.testBit x = true) : x < n := by
  rcases Nat.lt_or_ge x n with h1 | h1
  · exact h1
  · have h2 : M < 2 ^ x := Nat.lt_of_lt_of_le h (Nat.pow_le_pow_right (by decide) h1)
    rw [Nat.testBit_lt_two_pow h2] at hb
    cases hb
theorem memZ_user {P : Pr} (ok : PrOk P) {z u : Int} (h : u ∈ memZ (eligA P z)) : 1 ≤ u ∧ u ≤ 256 := by
  unfold memZ at h
  obtain ⟨x, hx, rfl⟩ := List.mem_map.1 h
  have hb := memM_bit hx
  unfold eligA at hb hx
  cases he : P.elig[z.toNat]? with
  | none => rw [he] at hb; simp at hb
  | some M =>
    rw [he] at hb hx
    obtain ⟨h0, h1⟩ := ok.eli M (List.mem_of_getElem? he)
    have hlt : x < 257 := bit_lt (n := 257) h1 (by simpa using hb)
    clear h1
    have hx0 : x ≠ 0 := by
      rintro rfl
      simp only [Option.getD_some] at hb
      rw [h0] at hb
      cases hb
    omega
theorem StsOk.fill {P : Pr} {l : List Nd} {k : Nat} {sts : List (List Int)} {x : Nd} (h : StsOk P l k sts) (ok : PrOk P) (hx : l[k]? = some x) (hb : branchB P x (sts[k]?.getD []) = true) (hk : k = 0 ∨ (k : Int) ∈ kids (l.take k)) (hkl : k < sts.length) :
    StsOk P l (k + 1) (fillS (sts[k]?.getD []) x.step.toNat sts (x.ch.zip (memZ (eligA P x.step)))) := by
  obtain ⟨st, hst⟩ : ∃ st, sts[k]? = some st := ⟨_, List.getElem?_eq_getElem hkl⟩
  rw [hst, Option.getD_some] at hb ⊢
  obtain ⟨hl, hu⟩ := h k st hst hk
  intro j st' hj hm
  have hlen : (memZ (eligA P x.step)).length = x.ch.length := by
    unfold branchB at hb
    simp only [Bool.and_eq_true, decide_eq_true_eq] at hb
    exact hb.2
  rcases fillS_get st _ _ sts j st' hj with ⟨h1, h2⟩ | ⟨cu, h1, h2, rfl⟩
  · refine h j st' h1 ?_
    rcases hm with h3 | h3
    · exact .inl h3
    · rw [kids_snoc hx] at h3
      rcases List.mem_append.1 h3 with h3 | h3
      · exact .inr h3
      · obtain ⟨i, hi⟩ := List.mem_iff_getElem?.1 h3
        obtain ⟨u, hu⟩ : ∃ u, (memZ (eligA P x.step))[i]? = some u := ⟨_, List.getElem?_eq_getElem (by rw [hlen]; exact (List.getElem?_eq_some_iff.1 hi).1)⟩
        have h4 := h2 ((j : Int), u) (List.mem_of_getElem? (List.getElem?_zip_eq_some.2 ⟨hi, hu⟩))
        simp at h4
  · refine ⟨by rw [List.length_set]; exact hl, fun v hv => ?_⟩
    rcases List.mem_or_eq_of_mem_set hv with h3 | rfl
    · exact hu v h3
    · have h4 := memZ_user ok (z := x.step) ((List.of_mem_zip h1).2)
      omega
theorem StsOk.next {P : Pr} {l : List Nd} {k : Nat} {sts : List (List Int)} {x : Nd} (h : StsOk P l k sts) (hx : l[k]? = some x) (hc : x.ch = []) : StsOk P l (k + 1) sts := by
  intro j st' hj hm
  rw [kids_snoc hx, hc, List.append_nil] at hm
  exact h j st' hj hm
theorem form_nokids {i n : Nat} {x : Nd} (h : formB i n x = true) (h1 : x.kind ≠ 1) : x.ch = [] := by
  unfold formB at h
  rw [if_neg h1] at h
  apply List.eq_nil_of_length_eq_zero
  by_cases h2 : x.kind = 2
  · rw [if_pos h2] at h
    simp at h
    simp [h]
  · rw [if_neg h2] at h
    by_cases h3 : x.kind = 3
    · rw [if_pos h3] at h
      simp at h
      simp [h]
    · rw [if_neg h3] at h
      cases h
theorem walkN_drop (P : Pr) {l : List Nd} {k : Nat} {x : Nd} (h : l[k]? = some x) (sts : List (List Int)) : walkN P (l.drop k) k sts =
    if x.kind = 1 then (if branchB P x (sts[k]?.getD []) then walkN P (l.drop (k + 1)) (k + 1) (fillS (sts[k]?.getD []) x.step.toNat sts (x.ch.zip (memZ (eligA P x.step)))) else (3, (k : Int)))
    else if x.kind = 2 then (if brk P (sts[k]?.getD []) then walkN P (l.drop (k + 1)) (k + 1) sts else (4, (k : Int)))
    else (if hallB P x.st (sts[k]?.getD []) then walkN P (l.drop (k + 1)) (k + 1) sts else (5, (k : Int))) := by
  obtain ⟨hk, he⟩ := List.getElem?_eq_some_iff.1 h
  rw [List.drop_eq_getElem_cons hk, he, walkN]
end Go.Proofs.YtcnofhlgiffkjaaGreatDoor
