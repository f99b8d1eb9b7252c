/- The walk of matching.begin. (genbg.py) -/
import Derived.Test.YtfnhaoindehjdaaDoorMtD
import Derived.Test.YtfnhaoindehjdaaDoorPj
import Derived.Deep.CutBlock
import Derived.Great.Ranges
namespace Go.Proofs.YtfnhaoindehjdaaDoor
open Go.RowKit
set_option linter.unusedVariables false
set_option linter.unusedSimpArgs false
/-- The cells of a new search. -/
def yB (v : Value) : List Value := .slice none 0 0 :: v :: (List.replicate 256 (.int .i64 0) ++ List.replicate 512 (.bool false))
set_option maxRecDepth 100000 in
theorem blt139 (a : Act) (A : Option Addr) (n c : Nat) (hv : a.eval (.tmp 9) = .slice A n c) : (Tryd.prog.built 139 ((#[(1, Operand.tmp 9)] : Array (Nat × Operand)).map fun (i, x) => (i, a.eval x)).toList).getD #[] = (yB (.slice A n c)).toArray := by
  have e : ((#[(1, Operand.tmp 9)] : Array (Nat × Operand)).map fun (i, x) => (i, a.eval x)).toList = [(1, a.eval (.tmp 9))] := by simp
  rw [e, hv]
  exact (by kernel_rfl : (Tryd.prog.built 139 [(1, Value.slice A n c)]).getD #[] = (yB (.slice A n c)).toArray)
/-- A search that is being laid: a left vertices and b right ones have no partner. -/
structure BgS (w : World) (g l n : Nat) (x : Value) (a b : Nat) : Prop where
  ne : g ≠ l
  gl : g < w.heap.size
  ll : l < w.heap.size
  c0 : w.cell? ⟨g, 0, none⟩ = some x
  c1 : w.cell? ⟨g, 1, none⟩ = some (.slice (some ⟨l, 0, none⟩) n n)
  rt : ∀ j, j < 256 → w.cell? ⟨g, 2 + j, none⟩ = some (.int .i64 (if j < b then -1 else 0))
  fx : ∀ j, j < 256 → w.cell? ⟨g, 258 + j, none⟩ = some (.bool false)
  sn : ∀ j, j < 256 → w.cell? ⟨g, 514 + j, none⟩ = some (.bool false)
  lf : ∀ j, j < n → w.cell? ⟨l, j, none⟩ = some (.int .i64 (if j < a then -1 else 0))
  fg : ∀ j, w.frozen? ⟨g, j, none⟩ = false
  fl : ∀ j, w.frozen? ⟨l, j, none⟩ = false
theorem BgS.keep {w w' : World} {g l n a b : Nat} {x : Value} (h : BgS w g l n x a b) (h1 : w'.heap[g]? = w.heap[g]?) (h2 : w'.heap[l]? = w.heap[l]?) (hs : w.heap.size ≤ w'.heap.size) : BgS w' g l n x a b :=
  ⟨h.ne, Nat.lt_of_lt_of_le h.gl hs, Nat.lt_of_lt_of_le h.ll hs, (World.cell?_of_block h1).trans h.c0, (World.cell?_of_block h1).trans h.c1, fun j hj => (World.cell?_of_block h1).trans (h.rt j hj), fun j hj => (World.cell?_of_block h1).trans (h.fx j hj), fun j hj => (World.cell?_of_block h1).trans (h.sn j hj),
   fun j hj => (World.cell?_of_block h2).trans (h.lf j hj), fun j => (World.frozen?_of_block h1).trans (h.fg j), fun j => (World.frozen?_of_block h2).trans (h.fl j)⟩
theorem BgS.on {w w' : World} {g l n a b : Nat} {x : Value} (h : BgS w g l n x a b) (hb : Below w.heap.size w w') : BgS w' g l n x a b := h.keep (hb.block g h.gl) (hb.block l h.ll) hb.size
theorem BgS.grown {w w' : World} {g l n a b B k s : Nat} {e : TypeId} {x v : Value} {xs : List Value} (h : BgS w g l n x a b) (hg : w.grownBy w' v.ownBlock) (ho : w.ownsRow B e s v k xs) (h1 : g < B) (h2 : l < B) : BgS w' g l n x a b :=
  h.keep (hg.block g h.gl fun e => by have := (ho.lt g e.symm).1; omega) (hg.block l h.ll fun e => by have := (ho.lt l e.symm).1; omega) hg.size
theorem BgS.set0 {w : World} {g l n a b : Nat} {x : Value} (h : BgS w g l n x a b) (y : Value) : BgS (w.setCell ⟨g, 0, none⟩ y) g l n y a b := by
  refine ⟨h.ne, by rw [size_setCell]; exact h.gl, by rw [size_setCell]; exact h.ll, World.cell?_setCell_same w _ _ h.c0, (cell_ne (by omega)).trans h.c1, fun j hj => (cell_ne (by omega)).trans (h.rt j hj), fun j hj => (cell_ne (by omega)).trans (h.fx j hj), fun j hj => (cell_ne (by omega)).trans (h.sn j hj),
    fun j hj => (cell_ne (Or.inl h.ne)).trans (h.lf j hj), fun j => by rw [World.frozen?_setCell]; exact h.fg j, fun j => by rw [World.frozen?_setCell]; exact h.fl j⟩
theorem BgS.setL {w : World} {g l n a b : Nat} {x : Value} (h : BgS w g l n x a b) (ha : a < n) : BgS (w.setCell ⟨l, a, none⟩ (.int .i64 (-1))) g l n x (a + 1) b := by
  have hne := fun e => h.ne (Eq.symm e)
  refine ⟨h.ne, by rw [size_setCell]; exact h.gl, by rw [size_setCell]; exact h.ll, (cell_ne (Or.inl hne)).trans h.c0, (cell_ne (Or.inl hne)).trans h.c1, fun j hj => (cell_ne (Or.inl hne)).trans (h.rt j hj), fun j hj => (cell_ne (Or.inl hne)).trans (h.fx j hj), fun j hj => (cell_ne (Or.inl hne)).trans (h.sn j hj),
    fun j hj => ?_, fun j => by rw [World.frozen?_setCell]; exact h.fg j, fun j => by rw [World.frozen?_setCell]; exact h.fl j⟩
  by_cases e : j = a
  · rw [e, if_pos (by omega)]; exact World.cell?_setCell_same w _ _ (h.lf a ha)
  · rw [(cell_ne (Or.inr fun e2 => e e2.symm)), h.lf j hj]
    by_cases e2 : j < a
    · rw [if_pos e2, if_pos (by omega)]
    · rw [if_neg e2, if_neg (by omega)]
theorem BgS.setR {w : World} {g l n a b : Nat} {x : Value} (h : BgS w g l n x a b) (hb : b < 256) : BgS (w.setCell ⟨g, 2 + b, none⟩ (.int .i64 (-1))) g l n x a (b + 1) := by
  refine ⟨h.ne, by rw [size_setCell]; exact h.gl, by rw [size_setCell]; exact h.ll, (cell_ne (by omega)).trans h.c0, (cell_ne (by omega)).trans h.c1, fun j hj => ?_, fun j hj => (cell_ne (by omega)).trans (h.fx j hj), fun j hj => (cell_ne (by omega)).trans (h.sn j hj),
    fun j hj => (cell_ne (Or.inl h.ne)).trans (h.lf j hj), fun j => by rw [World.frozen?_setCell]; exact h.fg j, fun j => by rw [World.frozen?_setCell]; exact h.fl j⟩
  by_cases e : j = b
  · rw [e, if_pos (by omega)]; exact World.cell?_setCell_same w _ _ (h.rt b hb)
  · rw [(cell_ne (by omega)), h.rt j hj]
    by_cases e2 : j < b
    · rw [if_pos e2, if_pos (by omega)]
    · rw [if_neg e2, if_neg (by omega)]
theorem BgS.start {w : World} {g l n : Nat} {Y : List Value} {t : TypeId} (hY : Y = yB (.slice (some ⟨l, 0, none⟩) n n)) (kg : Blk w g t Y.toArray) (kl : Blk w l 3 ((List.replicate n (0 : Int)).map iv).toArray) (hne : g ≠ l) : BgS w g l n (.slice none 0 0) 0 0 := by
  have cg : ∀ o, w.cell? ⟨g, o, none⟩ = (yB (.slice (some ⟨l, 0, none⟩) n n))[o]? := fun o => by rw [kg.cell, hY]; simp
  refine ⟨hne, kg.lt, kl.lt, by rw [cg]; rfl, by rw [cg]; rfl, fun j hj => ?_, fun j hj => ?_, fun j hj => ?_, fun j hj => ?_, kg.frozen, kl.frozen⟩
  · rw [cg, show 2 + j = (j + 1) + 1 by omega]
    unfold yB
    rw [List.getElem?_cons_succ, List.getElem?_cons_succ, List.getElem?_append_left (by rw [List.length_replicate]; exact hj), List.getElem?_replicate, if_pos hj, if_neg (Nat.not_lt_zero j)]
  · rw [cg, show 258 + j = (256 + j + 1) + 1 by omega]
    unfold yB
    rw [List.getElem?_cons_succ, List.getElem?_cons_succ, List.getElem?_append_right (by rw [List.length_replicate]; omega), List.getElem?_replicate, if_pos (by rw [List.length_replicate]; omega)]
  · rw [cg, show 514 + j = (512 + j + 1) + 1 by omega]
    unfold yB
    rw [List.getElem?_cons_succ, List.getElem?_cons_succ, List.getElem?_append_right (by rw [List.length_replicate]; omega), List.getElem?_replicate, if_pos (by rw [List.length_replicate]; omega)]
  · rw [kl.cell]
    simp [hj, iv]
theorem gr_set (w : World) (p : Addr) (v : Value) : w.grownBy (w.setCell p v) (some p.block) :=
  ⟨rfl, rfl, rfl, Nat.le_of_eq (size_setCell w p v).symm, fun k _ hne => Below.heap_setCell w p v k (fun e => hne (by rw [e]))⟩
theorem OwnLL.low {w w' : World} {B n g : Nat} {v : Value} {ls : List (List Int)} (h : OwnLL w B v n ls) (hg : w.grownBy w' (some g)) (hB : g < B) : OwnLL w' B v n ls := by
  have key : ∀ {e s n xs} {u : Value}, w.ownsRow B e s u n xs → u.ownBlock = none ∨ u.ownBlock ≠ some g := fun {e s n xs u} ho => by
    cases hv : u.ownBlock with
    | none => exact .inl rfl
    | some b =>
      have := (ho.lt b hv).1
      exact .inr fun e => by injection e with e; omega
  obtain ⟨vs, h1, h2⟩ := h.ex
  exact ⟨vs, World.ownsRow.kept h1 hg (key h1), h2.kept hg fun u n l hu => key hu⟩
theorem memM_256 {M : Nat} (h : M.log2 < 256) : (memM M).length ≤ 256 ∧ ∀ x ∈ memM M, x < 256 := by
  have hlt : M < 2 ^ 256 := Nat.lt_of_lt_of_le Nat.lt_log2_self (Nat.pow_le_pow_right (by decide) (by omega))
  refine ⟨?_, fun x hx => memM_lt hlt hx⟩
  rw [memM_memT hlt]
  exact memT_len 256 M
/-- The rows of a search. -/
def grL (elig : List Nat) (a : Nat) : List Nat := memM (elig[a]?.getD 0)
theorem BgS.toSr {w : World} {g l n B cg : Nat} {Ag : Option Addr} {elig : List Nat} (h : BgS w g l n (.slice Ag n cg) n 256) (hL : OwnLL w B (.slice Ag n cg) n (elig.map memZ)) (hg : g < B) (hl : l < B) (hn : elig.length = n) (hm : ∀ M ∈ elig, M.log2 < 256) :
    SrAt w g l n cg n Ag (grL elig) (fun _ => false) ⟨fun _ => none, fun _ => none, fun _ => false⟩ := by
  refine ⟨h.ne, h.ll, h.c0, h.c1, fun j hj => by rw [h.rt j hj, if_pos hj]; rfl, h.fx, h.sn, fun a ha => by rw [h.lf a ha, if_pos ha]; rfl, h.fg, h.fl, fun a ha => ?_⟩
  obtain ⟨M, hM⟩ : ∃ M, elig[a]? = some M := ⟨_, List.getElem?_eq_getElem (by omega)⟩
  have hM2 := memM_256 (hm M (List.mem_of_getElem? hM))
  have hgr : grL elig a = memM M := by unfold grL; rw [hM]; rfl
  obtain ⟨b, o, A', m, c', e, hb, hc, ho⟩ := hL.get (i := a) (l := memZ M) (by rw [List.getElem?_map, hM]; rfl)
  subst e
  have hbB : B ≤ b := by obtain ⟨vs, h1, _⟩ := hL.ex; exact (h1.lt b rfl).1
  have hlen := ho.len
  unfold memZ at hlen
  rw [List.length_map] at hlen
  refine ⟨b, o, A', m, c', rfl, by omega, by omega, hc, by rw [hgr]; exact hlen, by omega, fun j x hx => ?_⟩
  rw [hgr] at hx
  have hz : ((memZ M).map iv)[j]? = some (iv (x : Int)) := by unfold memZ; rw [List.getElem?_map, List.getElem?_map, hx]; rfl
  obtain ⟨b', o', e', hb', hcell⟩ := ho.sees (by intro e; rw [e] at hz; cases hz)
  subst e'
  have hbB' := (ho.lt b' rfl).1
  exact ⟨b', o', rfl, by omega, by omega, hcell j _ hz⟩
set_option maxHeartbeats 16000000 in
set_option maxRecDepth 100000 in
/-- begin. -/
theorem begin2_any (A : Option Addr) (n c : Nat) (elig : List Nat) (w : World) (h0 : SetsAt w w.heap.size A elig) (hn : elig.length = n) (hb : n ≤ 256) (hm : ∀ M ∈ elig, M.log2 < 256) (hT0 : Tab w) :
    Calls Tryd.prog 75 #[.slice A n c] w fun e w' => ∃ g l cg Ag, e = .returned (.pointer (some ⟨g, 0, none⟩)) ∧ w.heap.size ≤ g ∧ w.heap.size ≤ l ∧ SrAt w' g l n cg n Ag (grL elig) (fun _ => false) ⟨fun _ => none, fun _ => none, fun _ => false⟩ ∧ Below w.heap.size w w' := by
  have h := h0
  have hT := hT0
  have hg1 : 0 < w.heap.size := World.block_lt_of_cell? w _ (hT 0 (by omega))
  have Hn := Lib.hid hn
  have hg0 : 0 < w.heap.size := World.block_lt_of_cell? w _ (hT 0 (by omega))
  have hb1 : (n : Int) ≤ 256 := by omega
  clear hn
  go_enter Tryd.func75, Tryd.ntmps75
  go_upto_region 1 with fail
  refine wp_region_list ?_
  refine wpList_plain rfl fun K hK => ?_
  go_simp
  refine hK _ _ ?_
  clear hK K
  try simp only [Act.put, List.getElem_toArray, List.getElem_cons_zero, List.getElem_cons_succ, List.setIfInBounds_toArray, List.set_cons_zero, List.set_cons_succ]
  refine wpList_plain rfl fun K hK => ?_
  go_simp
  refine hK _ _ ?_
  clear hK K
  try simp only [Act.put, List.getElem_toArray, List.getElem_cons_zero, List.getElem_cons_succ, List.setIfInBounds_toArray, List.set_cons_zero, List.set_cons_succ]
  refine wpL_mkI w rfl (.tmp 8) (.tmp 8) rfl (n : Int) (n : Int) n rfl rfl rfl rfl (by omega) ?_
  intro w1 hk1 hbw1 hz1
  simp only [Act.put]
  try simp only [Act.put, List.getElem_toArray, List.getElem_cons_zero, List.getElem_cons_succ, List.setIfInBounds_toArray, List.set_cons_zero, List.set_cons_succ]
  refine wpList_build rfl 139 #[(1, .tmp 9)] rfl (by kernel_rfl) ?_
  rw [blt139 _ (some ⟨w.heap.size, 0, none⟩) n n rfl]
  obtain ⟨Y, hY⟩ : ∃ Y : List Value, Hid (Y = yB (.slice (some ⟨w.heap.size, 0, none⟩) n n)) := ⟨_, Lib.hid rfl⟩
  rw [← hY.out]
  try simp only [Act.put, List.getElem_toArray, List.getElem_cons_zero, List.getElem_cons_succ, List.setIfInBounds_toArray, List.set_cons_zero, List.set_cons_succ]
  refine Go.Great.wpList_boxTo rfl 139 (.tmp 10) rfl (some 11) rfl w1.heap.size rfl Y.toArray rfl ?_
  try simp only [Act.put, List.getElem_toArray, List.getElem_cons_zero, List.getElem_cons_succ, List.setIfInBounds_toArray, List.set_cons_zero, List.set_cons_succ]
  have k1 := hk1.out
  have z1 := hz1.out
  have kg := Blk.new w1 139 Y.toArray
  have kl := k1.on (bAl (Below.refl w1.heap.size w1) (.cells Y.toArray 139))
  have b2 := hbw1.trans ((bAl (Below.refl w1.heap.size w1) (.cells Y.toArray 139)).mono hbw1.size)
  have z2 : (w1.alloc (.cells Y.toArray 139)).heap.size = w1.heap.size + 1 := by simp
  generalize (w1.alloc (.cells Y.toArray 139)) = w2 at kg kl b2 z2 ⊢
  obtain ⟨l, hl⟩ : ∃ l, l = w.heap.size := ⟨_, rfl⟩
  obtain ⟨g, hgg⟩ : ∃ g, g = w1.heap.size := ⟨_, rfl⟩
  obtain ⟨B, hBB⟩ : ∃ B, B = w2.heap.size := ⟨_, rfl⟩
  rw [← hgg] at kg z2 ⊢
  rw [← hl] at kl hY
  have hwl : w.heap.size ≤ l := by omega
  have hwg : w.heap.size ≤ g := by omega
  have hgB : g < B := by omega
  have hlB : l < B := by omega
  have hwB : w.heap.size ≤ B := by omega
  have hBs : B ≤ w2.heap.size := by omega
  have G2 := BgS.start hY.out kg kl (by omega)
  have LL2 : OwnLL w2 B (.slice none 0 0) 0 [] := ⟨⟨[], World.ownsRow_nil _ _ _ _, RowsI.nil _ _⟩⟩
  have hSt : SetsAt w2 w.heap.size A elig := h.below b2
  have hT2 := hT.below b2 hg0
  clear k1 z1 kg kl hk1 hz1 hbw1 hl hgg hBB hY z2 hg0 h hT w1
  refine wpList_plain rfl fun K hK => ?_
  go_simp
  refine hK _ _ ?_
  clear hK K
  try simp only [Act.put, List.getElem_toArray, List.getElem_cons_zero, List.getElem_cons_succ, List.setIfInBounds_toArray, List.set_cons_zero, List.set_cons_succ]
  simp only [wpList, Act.put]
  go_wp2_with fail
  go_loopw [14] (fun v14 wr => ∃ (k : Nat) (Ag : Option Addr) (cg : Nat), v14 = .int .i64 (k : Int) ∧ k ≤ n ∧ BgS wr g l n (.slice Ag k cg) k 0 ∧ OwnLL wr B (.slice Ag k cg) k ((elig.take k).map memZ) ∧ Below w.heap.size w wr ∧ B ≤ wr.heap.size) (fun v14 _ => n - (intOf v14).toNat)
  case atStart => exact ⟨0, none, 0, rfl, Nat.zero_le _, G2, LL2, b2, hBs⟩
  case round =>
    clear G2 LL2
    obtain ⟨k, Ag, cg, rfl, hk, hG, hLL, hBw, hB4⟩ := hrel
    by_cases hlt : k < n
    · have hlt' : (k : Int) < (n : Int) := by omega
      obtain ⟨M, hx⟩ : ∃ x, elig[k]? = some x := ⟨_, List.getElem?_eq_getElem (by rw [Hn.out]; exact hlt)⟩
      have HR : Hid ((elig.take k).map memZ ++ [memZ M] = (elig.take (k + 1)).map memZ) := Lib.hid (by rw [List.take_add_one, hx]; simp)
      obtain ⟨b, o, X, rfl, hb2, hcx, hS⟩ := (h0.below hBw) k _ hx
      obtain ⟨Av, nv, cv, rfl, hS⟩ : ∃ A n c, X = .slice A n c ∧ SetAt wr w.heap.size (.agg #[.slice A n c]) M := by
        obtain ⟨A, n, c, e, h⟩ := id hS
        obtain rfl : X = .slice A n c := by simpa using e
        exact ⟨A, n, c, rfl, hS⟩
      have hT4 := hT0.below hBw hg1
      have hB44 := hBw.size
      have hSS4 := (hS.more hB44)
      have bX := bAl (Below.refl wr.heap.size wr) (.cells #[.slice Av nv cv] 63)
      have kx := Blk.new wr 63 #[.slice Av nv cv]
      have hlb := hT4.below bX (by omega)
      have HS := Lib.hid (hSS4.on bX)
      have hG := hG.on bX
      have hLL := hLL.on bX
      have hBw4 := hBw.trans (bX.mono hB44)
      have hB5 : B ≤ (wr.alloc (.cells #[.slice Av nv cv] 63)).heap.size := Nat.le_trans hB4 bX.size
      clear hx hS hSS4 hT4
      go_upto_region 5 with fail
      obtain ⟨bx, hbx⟩ : ∃ bx, bx = wr.heap.size := ⟨_, rfl⟩
      rw [← hbx] at kx ⊢
      clear hbx hcx hBw hB4 hB44 hb2
      have hBw := hBw4
      have hB4 := hB5
      have hT4 := hlb
      clear hBw4 hB5 hlb
      generalize (wr.alloc (.cells #[.slice Av nv cv] 63)) = W4 at kx hG hLL hBw hB4 hT4 HS ⊢
      clear bX
      obtain ⟨vs, hr1, hr2⟩ := hLL.ex
      obtain ⟨SS, hSS⟩ : ∃ S : World → Prop, S = (fun W => W.cell? ⟨g, 0, none⟩ = some (.slice Ag k cg) ∧ W.cell? ⟨bx, 0, none⟩ = some (.slice Av nv cv)) := ⟨_, rfl⟩
      have cx := kx.cell 0
      replace cx : W4.cell? ⟨bx, 0, none⟩ = some (.slice Av nv cv) := cx
      refine wp_region_F (fun i => decide (11 ≤ i)) SS (by kernel_rfl) (by rw [hSS]; exact ⟨hG.c0, cx⟩) (fun hHeld => ?_)
      have hG := hG.keep (w' := W4.drew) rfl rfl (Nat.le_refl _)
      have hr1 : (W4.drew).ownsRow B 30 1 (.slice Ag k cg) k vs := own_on hr1 (Below.refl _ _).drew
      have hr2 := hr2.on (Below.refl W4.heap.size W4).drew
      have kx : Blk W4.drew bx 63 #[.slice Av nv cv] := kx
      have hBw : Below w.heap.size w W4.drew := hBw.drew
      have hB4 : B ≤ (W4.drew).heap.size := hB4
      have hT4 : Tab W4.drew := hT4
      have hSv : SetAt W4.drew W4.drew.heap.size (.agg #[.slice Av nv cv]) M := HS.out.on (Below.refl _ _).drew
      clear cx HS hLL
      generalize W4.drew = u3 at hG hr1 hr2 kx hBw hB4 hT4 hSv hHeld ⊢
      refine wpAnyF_take (i := 0) (v := ?_) rfl (by kernel_rfl) (by kernel_rfl) (by kernel_rfl) (by kernel_rfl) (fun _ _ _ h => h) hHeld (Or.inl ⟨by rfl, ?_⟩) ?_
      rotate_left
      · (intro w hSw; (try rw [hSS] at hSw); (try dsimp only at hSw); go_simp; try with_reducible rfl)
      try simp only [Act.put, List.getElem_toArray, List.getElem_cons_zero, List.getElem_cons_succ, List.setIfInBounds_toArray, List.set_cons_zero, List.set_cons_succ]
      refine wpAnyF_take (i := 1) (v := ?_) rfl (by kernel_rfl) (by kernel_rfl) (by kernel_rfl) (by kernel_rfl) (fun _ _ _ h => h) hHeld (Or.inl ⟨by rfl, ?_⟩) ?_
      rotate_left
      · (intro w hSw; (try rw [hSS] at hSw); (try dsimp only at hSw); go_simp; try with_reducible rfl)
      try simp only [Act.put, List.getElem_toArray, List.getElem_cons_zero, List.getElem_cons_succ, List.setIfInBounds_toArray, List.set_cons_zero, List.set_cons_succ]
      refine wpAnyF_take (i := 2) (v := ?_) rfl (by kernel_rfl) (by kernel_rfl) (by kernel_rfl) (by kernel_rfl) (fun _ _ _ h => h) hHeld (Or.inl ⟨by rfl, ?_⟩) ?_
      rotate_left
      · (intro w hSw; (try rw [hSS] at hSw); (try dsimp only at hSw); go_simp; try with_reducible rfl)
      try simp only [Act.put, List.getElem_toArray, List.getElem_cons_zero, List.getElem_cons_succ, List.setIfInBounds_toArray, List.set_cons_zero, List.set_cons_succ]
      refine wpAnyF_take (i := 3) (v := ?_) rfl (by kernel_rfl) (by kernel_rfl) (by kernel_rfl) (by kernel_rfl) (fun _ _ _ h => h) hHeld (Or.inl ⟨by rfl, ?_⟩) ?_
      rotate_left
      · (intro w hSw; (try rw [hSS] at hSw); (try dsimp only at hSw); go_simp; try with_reducible rfl)
      try simp only [Act.put, List.getElem_toArray, List.getElem_cons_zero, List.getElem_cons_succ, List.setIfInBounds_toArray, List.set_cons_zero, List.set_cons_succ]
      refine wpAnyF_take (i := 4) (v := ?_) rfl (by kernel_rfl) (by kernel_rfl) (by kernel_rfl) (by kernel_rfl) (fun _ _ _ h => h) hHeld (Or.inl ⟨by rfl, ?_⟩) ?_
      rotate_left
      · (intro w hSw; (try rw [hSS] at hSw); (try dsimp only at hSw); go_simp; try with_reducible rfl)
      try simp only [Act.put, List.getElem_toArray, List.getElem_cons_zero, List.getElem_cons_succ, List.setIfInBounds_toArray, List.set_cons_zero, List.set_cons_succ]
      refine wpAnyF_take (i := 5) (v := ?_) rfl (by kernel_rfl) (by kernel_rfl) (by kernel_rfl) (by kernel_rfl) (fun _ _ _ h => h) hHeld (Or.inl ⟨by rfl, ?_⟩) ?_
      rotate_left
      · (intro w hSw; (try rw [hSS] at hSw); (try dsimp only at hSw); go_simp; try with_reducible rfl)
      try simp only [Act.put, List.getElem_toArray, List.getElem_cons_zero, List.getElem_cons_succ, List.setIfInBounds_toArray, List.set_cons_zero, List.set_cons_succ]
      refine wpAnyF_one (i := 6) (by kernel_rfl) rfl (fun K hK => ?_)
      go_simp
      go_at_call 81
      refine (list_any _ M u3 hSv hT4).mono ?_
      rintro e u4 ⟨Ai, ni, ci, rfl, oi, b4⟩
      try simp only []
      have G4 := hG.on b4
      have h14 := own_on hr1 b4
      have h24 := hr2.on b4
      have k4 := kx.on b4
      have oi := own_less oi hB4
      have hB5 : B ≤ u4.heap.size := Nat.le_trans hB4 b4.size
      have hBw4 := hBw.trans (b4.mono hBw.size)
      clear hG hr1 hr2 kx hBw hB4 hT4 hSv
      have q4 : u4.cell? ⟨bx, 0, none⟩ = some (.slice Av nv cv) := k4.cell 0
      refine hK.out _ _ (Or.inr (by rw [hSS]; exact ⟨G4.c0, q4⟩)) ?_
      clear hK K
      try simp only [Act.put, List.getElem_toArray, List.getElem_cons_zero, List.getElem_cons_succ, List.setIfInBounds_toArray, List.set_cons_zero, List.set_cons_succ]
      have bA : Below u4.heap.size u4 (u4.alloc (.cells #[.slice Ai ni ci] 30)) := bAl (Below.refl _ _) _
      refine wpAnyF_one (i := 7) (by kernel_rfl) rfl (fun K hK => ?_)
      go_simp
      refine hK.out _ _ (Or.inr (by rw [hSS]; exact ⟨(G4.on bA).c0, (k4.on bA).cell 0⟩)) ?_
      clear hK K
      try simp only [Act.put, List.getElem_toArray, List.getElem_cons_zero, List.getElem_cons_succ, List.setIfInBounds_toArray, List.set_cons_zero, List.set_cons_succ]
      refine wpAnyF_one (i := 8) (by kernel_rfl) rfl (fun K hK => ?_)
      refine step_row1 30 37 _ 1 24 sl_info Tryd.underlying37 rfl (by omega) (by omega) _ rfl (.tmp 23) (.tmp 26) rfl u4 B _ k _ rfl h14 #[.slice Ai ni ci] rfl _ rfl rfl rfl (by simp [Value.oneCell']) (by omega) hB5 (k + 1) rfl ?_
      intro A9 c9 w9 o9 g9 b9 k9
      have LL9 := OwnLL.snoc h14 h24 o9 g9 oi
      have G9 := G4.grown g9 h14 hgB hlB
      have hBw9 := hBw4.trans (b9.mono hwB)
      have kx9 : Blk w9 bx 63 #[.slice Av nv cv] := k4.grown g9 (own_off h14 k4 (by decide))
      have z9 := g9.size
      clear G4 h14 h24 k4 oi hBw4 b9 g9 o9 bA k9
      refine hK.out _ _ (Or.inr (by rw [hSS]; exact ⟨G9.c0, kx9.cell 0⟩)) ?_
      clear hK K
      try simp only [Act.put, List.getElem_toArray, List.getElem_cons_zero, List.getElem_cons_succ, List.setIfInBounds_toArray, List.set_cons_zero, List.set_cons_succ]
      refine wpAnyF_one (i := 9) (by kernel_rfl) rfl (fun K hK => ?_)
      go_simp
      refine hK.out _ _ (Or.inr (by rw [hSS]; exact ⟨G9.c0, kx9.cell 0⟩)) ?_
      clear hK K
      try simp only [Act.put, List.getElem_toArray, List.getElem_cons_zero, List.getElem_cons_succ, List.setIfInBounds_toArray, List.set_cons_zero, List.set_cons_succ]
      refine wpAnyF_one (i := 10) (by kernel_rfl) rfl (fun K hK => ?_)
      go_simp
      refine hK.out _ _ (Or.inr (by rw [hSS]; exact ⟨G9.c0, kx9.cell 0⟩)) ?_
      clear hK K
      try simp only [Act.put, List.getElem_toArray, List.getElem_cons_zero, List.getElem_cons_succ, List.setIfInBounds_toArray, List.set_cons_zero, List.set_cons_succ]
      have c9' := G9.c0
      have fg9 := G9.fg 0
      have G10 := G9.set0 (.slice A9 (k + 1) c9)
      have LL10 := LL9.low (gr_set w9 ⟨g, 0, none⟩ (.slice A9 (k + 1) c9)) hgB
      have hBw10 := hBw9.setCell (p := ⟨g, 0, none⟩) hwg (.slice A9 (k + 1) c9)
      have hB10 : B ≤ (w9.setCell ⟨g, 0, none⟩ (.slice A9 (k + 1) c9)).heap.size := by rw [size_setCell]; exact Nat.le_trans hB5 z9
      refine wpAnyF_one (i := 11) (by kernel_rfl) rfl (fun K hK => ?_)
      go_simp
      refine hK.out _ _ (Or.inl rfl) ?_
      clear hK K
      try simp only [Act.put, List.getElem_toArray, List.getElem_cons_zero, List.getElem_cons_succ, List.setIfInBounds_toArray, List.set_cons_zero, List.set_cons_succ]
      generalize (w9.setCell ⟨g, 0, none⟩ (.slice A9 (k + 1) c9)) = w10 at G10 LL10 hBw10 hB10 ⊢
      refine wpAnyF_done (by kernel_rfl) ?_ _
      clear G9 LL9 hBw9 kx9 c9' fg9 hHeld hSS SS
      have c1 := G10.c1
      have lf := G10.lf k hlt
      have fl := G10.fl k
      go_wp2_with fail
      have G11 := G10.setL hlt
      have LL11 := LL10.low (gr_set w10 ⟨l, k, none⟩ (.int .i64 (-1))) hlB
      have hBw11 := hBw10.setCell (p := ⟨l, k, none⟩) hwl (.int .i64 (-1))
      have hB11 : B ≤ (w10.setCell ⟨l, k, none⟩ (.int .i64 (-1))).heap.size := by rw [size_setCell]; exact hB10
      generalize (w10.setCell ⟨l, k, none⟩ (.int .i64 (-1))) = w11 at G11 LL11 hBw11 hB11 ⊢
      go_roundw
      case rel => exact ⟨k + 1, A9, c9, by go_num, by omega, G11, by rw [HR.out] at LL11; exact LL11, hBw11, hB11⟩
      case measure => simp [intOf]; omega
    · obtain rfl : k = n := by omega
      have hlt' : ¬ (k : Int) < (k : Int) := by omega
      clear hB4 h0
      have hLL0 := hLL
      have HE : Hid ((elig.take k).map memZ = elig.map memZ) := Lib.hid (by rw [List.take_of_length_le (by rw [Hn.out]; exact Nat.le_refl _)])
      rw [HE.out] at hLL
      go_wp2_with fail
      go_loopw [37] (fun v37 wq => ∃ (q : Nat), v37 = .int .i64 (q : Int) ∧ q ≤ 256 ∧ BgS wq g l k (.slice Ag k cg) k q ∧ OwnLL wq B (.slice Ag k cg) k (elig.map memZ) ∧ Below w.heap.size w wq) (fun v37 _ => 256 - (intOf v37).toNat)
      case atStart => exact ⟨0, rfl, by omega, hG, hLL, hBw⟩
      case round =>
        obtain ⟨q, rfl, hq, hG, hLL, hBw⟩ := hrel
        by_cases hlq : q < 256
        · have hlq' : (q : Int) < 256 := by omega
          have rt := hG.rt q hlq
          have fg := hG.fg (2 + q)
          go_wp2_with fail
          have G2 := hG.setR hlq
          have L2 := hLL.low (gr_set wr ⟨g, 2 + q, none⟩ (.int .i64 (-1))) hgB
          have B2 := hBw.setCell (p := ⟨g, 2 + q, none⟩) hwg (.int .i64 (-1))
          generalize (wr.setCell ⟨g, 2 + q, none⟩ (.int .i64 (-1))) = w11 at G2 L2 B2 ⊢
          go_roundw
          case rel => exact ⟨q + 1, by go_num, by omega, G2, L2, B2⟩
          case measure => simp [intOf]; omega
        · obtain rfl : q = 256 := by omega
          go_wp2_with fail
          go_ret
          exact ⟨g, l, cg, Ag, rfl, hwg, hwl, hG.toSr hLL hgB hlB (by rw [Hn.out]) hm, hBw⟩
end Go.Proofs.YtfnhaoindehjdaaDoor
