/- A pack of texts: Spl, Reg3. -/
import Derived.Test.YtcnofhlgiffkjaaGreatDoorMkB
import Derived.Test.YtcnofhlgiffkjaaGreatDoorPk
import Derived.Deep.CutRange
import Derived.Deep.CutBlock
import Derived.Test.YtcnofhlgiffkjaaGreatDoorPm
import Derived.Test.YtcnofhlgiffkjaaGreatDoorRMk3
/- spoil: a changed problem, in both forms. -/
namespace Go.Proofs.YtcnofhlgiffkjaaGreatDoor
open Go.RowKit
set_option linter.unusedVariables false
set_option linter.unusedSimpArgs false

theorem results_cells2 {P : Program} {fn : Func} {p q : Tmp} {ty tz : TypeId} (h : fn.results = #[.cell p ty, .cell q tz]) (tmps : Array Value) (w : World) (g g' : Nat) (t t' : TypeId) (cs cs' : Array Value) (fr fr' : Nat × Nat) (d d' : TypeDesc)
    (hp : tmps.getD p undef = .pointer (some ⟨g, 0, none⟩)) (hg : w.heap[g]? = some (.cells cs t fr)) (hu : P.underlying ty = some d) (hd : (match d with | .struct _ | .array _ _ => true | _ => false) = true) (hi : (P.info? ty).map (·.size) = some cs.size)
    (hp' : tmps.getD q undef = .pointer (some ⟨g', 0, none⟩)) (hg' : w.heap[g']? = some (.cells cs' t' fr')) (hu' : P.underlying tz = some d') (hd' : (match d' with | .struct _ | .array _ _ => true | _ => false) = true) (hi' : (P.info? tz).map (·.size) = some cs'.size) :
    (results fn tmps).run P w = .ok (.tuple #[.agg cs, .agg cs']) w := by
  have e1 : tmps[p]?.getD undef = .pointer (some ⟨g, 0, none⟩) := by simpa using hp
  have e2 : tmps[q]?.getD undef = .pointer (some ⟨g', 0, none⟩) := by simpa using hp'
  simp [results, h, e1, e2, asAddr, Sem.run_bind, run_loadVar_row w g t ty cs fr d hg hu hd hi, run_loadVar_row w g' t' tz cs' fr' d' hg' hu' hd' hi']

/-- A changed problem. -/
def splP (P : Pr) (k : Nat) (z : Int) : Pr :=
  match k % 10 with
  | 1 => ⟨[], P.dif, P.sam, P.mst, []⟩
  | 2 => ⟨P.elig ++ List.replicate 8 2, P.dif, P.sam, P.mst, P.fix ++ List.replicate 8 0⟩
  | 3 => ⟨P.elig, P.dif, P.sam, P.mst, P.fix ++ [0]⟩
  | 4 => ⟨P.elig, P.dif, P.sam, P.mst, P.fix.set 0 z⟩
  | 5 => ⟨P.elig.set 0 (P.elig.headD 0 ||| 1), P.dif, P.sam, P.mst, P.fix⟩
  | 6 => ⟨P.elig, P.dif ++ [(0, z)], P.sam, P.mst, P.fix⟩
  | 7 => ⟨P.elig, P.dif, P.sam ++ [(z, 0)], P.mst, P.fix⟩
  | 8 => ⟨P.elig, P.dif, P.sam, P.mst ++ [(z, 1)], P.fix⟩
  | 9 => ⟨P.elig, P.dif, P.sam, P.mst ++ [(1, (z % 1024).toNat)], P.fix⟩
  | _ => P
def zero5 : Array Value := #[.slice none 0 0, .slice none 0 0, .slice none 0 0, .slice none 0 0, .slice none 0 0]
def OffT (t : Nat) : Prop := 70 ≠ t ∧ 77 ≠ t ∧ 75 ≠ t ∧ 3 ≠ t
structure Spl (w wx : World) (B : Nat) (p : PrV) (P : Pr) : Prop where
  H : Hold wx B w.heap.size p P
  r1 : Blk wx (w.heap.size + 2) 37 zero5
  r2 : Blk wx (w.heap.size + 3) 32 zero5
  bw : Below B w wx
  kp : ∀ g t cs, Blk w g t cs → OffT t → Blk wx g t cs
theorem Spl.draw {w wx : World} {B : Nat} {p : PrV} {P : Pr} (h : Spl w wx B p P) : Spl w wx.drew B p P :=
  ⟨h.H.on (Below.refl _ _).drew, h.r1, h.r2, h.bw.drew, h.kp⟩
theorem Spl.next {w wx w9 : World} {B i e s n : Nat} {p p' : PrV} {P P' : Pr} {v u : Value} {xs : List Value} (h : Spl w wx B p P) (ho : wx.ownsRow B e s v n xs) (hg : wx.grownBy w9 v.ownBlock) (h1 : e ≠ 37) (h2 : e ≠ 32) (he : ∀ t, OffT t → e ≠ t)
    (b9 : Below B wx w9) (hB : B ≤ w.heap.size) (hH : Hold (w9.setCell ⟨w.heap.size, i, none⟩ u) B w.heap.size p' P') : Spl w (w9.setCell ⟨w.heap.size, i, none⟩ u) B p' P' :=
  ⟨hH, (h.r1.grown hg (own_off ho h.r1 h1)).far (p := ⟨w.heap.size, i, none⟩) (by simp) _, (h.r2.grown hg (own_off ho h.r2 h2)).far (p := ⟨w.heap.size, i, none⟩) (by simp) _, (h.bw.trans b9).setCell (p := ⟨w.heap.size, i, none⟩) hB _,
   fun g t cs hb ht => ((h.kp g t cs hb ht).grown hg (own_off ho (h.kp g t cs hb ht) (he t ht))).far (p := ⟨w.heap.size, i, none⟩) (by have := hb.lt; simp; omega) _⟩
theorem Spl.nil15 {w wx : World} {B : Nat} {p : PrV} {P : Pr} (h : Spl w wx B p P) (hB : B ≤ w.heap.size) :
    Spl w ((wx.setCell ⟨w.heap.size, 0, none⟩ (.slice none 0 0)).setCell ⟨w.heap.size, 4, none⟩ (.slice none 0 0)) B ⟨⟨none, 0, 0⟩, p.s2, p.s3, p.s4, ⟨none, 0, 0⟩⟩ ⟨[], P.dif, P.sam, P.mst, []⟩ := by
  have k : ∀ {e s n : Nat} {v : Value} {xs : List Value}, wx.ownsRow B e s v n xs → e ≠ 32 → ((wx.setCell ⟨w.heap.size, 0, none⟩ (.slice none 0 0)).setCell ⟨w.heap.size, 4, none⟩ (.slice none 0 0)).ownsRow B e s v n xs := fun ho hne =>
    ownsRow_setCell_other (ownsRow_setCell_other ho (a := ⟨w.heap.size, 0, none⟩) (own_off ho h.H.blk hne) _) (a := ⟨w.heap.size, 4, none⟩) (own_off ho h.H.blk hne) _
  refine ⟨⟨⟨World.ownsRow_nil _ _ _ _, k h.H.own.o2 (by decide), k h.H.own.o3 (by decide), k h.H.own.o4 (by decide), World.ownsRow_nil _ _ _ _, h.H.own.ap, by simp, h.H.own.b2, h.H.own.b3, h.H.own.b4, by simp, by simp, h.H.own.w4⟩, (h.H.blk.put 0 _).put 4 _⟩, ?_, ?_, ?_, ?_⟩
  · exact (h.r1.far (p := ⟨w.heap.size, 0, none⟩) (by simp) _).far (p := ⟨w.heap.size, 4, none⟩) (by simp) _
  · exact (h.r2.far (p := ⟨w.heap.size, 0, none⟩) (by simp) _).far (p := ⟨w.heap.size, 4, none⟩) (by simp) _
  · exact (h.bw.setCell (p := ⟨w.heap.size, 0, none⟩) hB _).setCell (p := ⟨w.heap.size, 4, none⟩) hB _
  · intro g t cs hb ht
    have := hb.lt
    exact ((h.kp g t cs hb ht).far (p := ⟨w.heap.size, 0, none⟩) (by simp; omega) _).far (p := ⟨w.heap.size, 4, none⟩) (by simp; omega) _
/-- One element of an own row changed. -/
theorem own_put {w : World} {B e g n c i : Nat} {xs : List Value} (h : w.ownsRow B e 1 (.slice (some ⟨g, 0, none⟩) n c) n xs) (hi : i < n) (u : Value) : (w.setCell ⟨g, i, none⟩ u).ownsRow B e 1 (.slice (some ⟨g, 0, none⟩) n c) n (xs.set i u) := by
  obtain ⟨h1, h2⟩ := h
  refine ⟨by simpa using h1, ?_⟩
  rcases h2 with ⟨e0, _⟩ | ⟨g', cap, cur, e0, hb, hg, hn, hm, hs, ht⟩
  · cases e0
  · injection e0 with e1 _ e3
    injection e1 with e1
    injection e1 with e1
    subst e1; subst e3
    have hblk : Blk w g e cur := hg
    have hp := hblk.put i u
    refine .inr ⟨g, c, cur.setIfInBounds i u, rfl, hb, hp, hn, hm, by simpa using hs, ?_⟩
    rw [← ht]
    simp [List.take_set]
theorem Spl.put5 {w wx : World} {B g n c : Nat} {p : PrV} {P : Pr} {z : Int} (h : Spl w wx B p P) (hp : p.s5 = ⟨some ⟨g, 0, none⟩, n, c⟩) (hn : 0 < n) : Spl w (wx.setCell ⟨g, 0, none⟩ (.int .i64 z)) B p ⟨P.elig, P.dif, P.sam, P.mst, P.fix.set 0 z⟩ := by
  have ho := h.H.own.o5
  have hv : p.s5.v.ownBlock = some g := by rw [hp]; rfl
  have k : ∀ {e s n : Nat} {v : Value} {xs : List Value}, wx.ownsRow B e s v n xs → e ≠ 3 → (wx.setCell ⟨g, 0, none⟩ (.int .i64 z)).ownsRow B e s v n xs := fun h1 hne =>
    ownsRow_setCell_other h1 (a := ⟨g, 0, none⟩) (fun hc => by
      rcases own_apart h1 ho hne with h3 | h3
      · rw [h3] at hc; cases hc
      · exact h3 (hc.trans hv.symm)) _
  have off : ∀ {t b : Nat} {cs : Array Value}, Blk wx b t cs → 3 ≠ t → b ≠ g := fun hb hne e => own_off ho hb hne (by rw [hv, e])
  have hg := (ho.lt _ hv).1
  refine ⟨⟨⟨k h.H.own.o1 (by decide), k h.H.own.o2 (by decide), k h.H.own.o3 (by decide), k h.H.own.o4 (by decide), ?_, h.H.own.ap, h.H.own.b1, h.H.own.b2, h.H.own.b3, h.H.own.b4, h.H.own.b5, h.H.own.w1, h.H.own.w4⟩, ?_⟩, ?_, ?_, ?_, ?_⟩
  · rw [hp] at ho ⊢
    have := own_put ho hn (.int .i64 z)
    show (wx.setCell ⟨g, 0, none⟩ (.int .i64 z)).ownsRow B 3 1 _ _ ((P.fix.set 0 z).map iv)
    rw [List.map_set]
    exact this
  · exact h.H.blk.far (p := ⟨g, 0, none⟩) (off h.H.blk (by decide)) _
  · exact h.r1.far (p := ⟨g, 0, none⟩) (off h.r1 (by decide)) _
  · exact h.r2.far (p := ⟨g, 0, none⟩) (off h.r2 (by decide)) _
  · exact h.bw.setCell (p := ⟨g, 0, none⟩) hg _
  · intro g' t cs hb ht
    exact (h.kp g' t cs hb ht).far (p := ⟨g, 0, none⟩) (off (h.kp g' t cs hb ht) ht.2.2.2) _
theorem Spl.put1 {w wx : World} {B g n c M : Nat} {p : PrV} {P : Pr} (h : Spl w wx B p P) (hp : p.s1 = ⟨some ⟨g, 0, none⟩, n, c⟩) (hn : 0 < n) (hM : M < 2 ^ 64) : Spl w (wx.setCell ⟨g, 0, none⟩ (.int .u64 (M : Int))) B p ⟨P.elig.set 0 M, P.dif, P.sam, P.mst, P.fix⟩ := by
  have ho := h.H.own.o1
  have hv : p.s1.v.ownBlock = some g := by rw [hp]; rfl
  have k : ∀ {e s n : Nat} {v : Value} {xs : List Value}, wx.ownsRow B e s v n xs → e ≠ 70 → (wx.setCell ⟨g, 0, none⟩ (.int .u64 (M : Int))).ownsRow B e s v n xs := fun h1 hne =>
    ownsRow_setCell_other h1 (a := ⟨g, 0, none⟩) (fun hc => by
      rcases own_apart h1 ho hne with h3 | h3
      · rw [h3] at hc; cases hc
      · exact h3 (hc.trans hv.symm)) _
  have off : ∀ {t b : Nat} {cs : Array Value}, Blk wx b t cs → 70 ≠ t → b ≠ g := fun hb hne e => own_off ho hb hne (by rw [hv, e])
  have hg := (ho.lt _ hv).1
  refine ⟨⟨⟨?_, k h.H.own.o2 (by decide), k h.H.own.o3 (by decide), k h.H.own.o4 (by decide), k h.H.own.o5 (by decide), h.H.own.ap, h.H.own.b1, h.H.own.b2, h.H.own.b3, h.H.own.b4, h.H.own.b5, ?_, h.H.own.w4⟩, ?_⟩, ?_, ?_, ?_, ?_⟩
  · rw [hp] at ho ⊢
    have := own_put ho hn (.int .u64 (M : Int))
    show (wx.setCell ⟨g, 0, none⟩ (.int .u64 (M : Int))).ownsRow B 70 1 _ _ ((P.elig.set 0 M).map wv)
    rw [List.map_set]
    exact this
  · intro x hx
    rcases List.mem_or_eq_of_mem_set hx with h1 | h1
    · exact h.H.own.w1 x h1
    · subst h1; exact hM
  · exact h.H.blk.far (p := ⟨g, 0, none⟩) (off h.H.blk (by decide)) _
  · exact h.r1.far (p := ⟨g, 0, none⟩) (off h.r1 (by decide)) _
  · exact h.r2.far (p := ⟨g, 0, none⟩) (off h.r2 (by decide)) _
  · exact h.bw.setCell (p := ⟨g, 0, none⟩) hg _
  · intro g' t cs hb ht
    exact (h.kp g' t cs hb ht).far (p := ⟨g, 0, none⟩) (off (h.kp g' t cs hb ht) ht.1) _

/-- An own row that is not empty. -/
theorem own_blk1 {w : World} {B e n c : Nat} {A : Option Addr} {xs : List Value} (h : w.ownsRow B e 1 (.slice A n c) n xs) (hn : 0 < n) :
    ∃ g cs, A = some ⟨g, 0, none⟩ ∧ B ≤ g ∧ Blk w g e cs ∧ ∀ (j : Nat) (u : Value), xs[j]? = some u → cs[j]? = some u := by
  have hs := Sees.own h (by omega)
  rcases h.2 with ⟨_, h0⟩ | ⟨g, cap, cur, h1, h2, h3, _⟩
  · omega
  · have hA : A = some ⟨g, 0, none⟩ := by injection h1
    subst hA
    refine ⟨g, cur, rfl, h2, h3, fun j u hu => ?_⟩
    obtain ⟨b, o, e, _, hc⟩ := hs (by intro e; rw [e] at hu; simp at hu)
    injection e with e
    injection e with e1 e2 _
    subst e1 e2
    have := hc j u hu
    rw [Nat.zero_add, Blk.cell (show Blk w g _ cur from h3)] at this
    exact this
/-- An append in a region that draws: what is appended is seen, the row is known at an earlier world. -/
theorem step_rowS (e t : TypeId) (z : Value) (size bytes : Nat) (hinf : (Tryz.prog.info? e).map (fun i => (i.zero, i.size, i.bytes)) = some (some z, size, bytes)) (ht : Tryz.prog.underlying t = some (.slice e)) (hzs : z.cells.size = size) (hsz : 0 < size) (hby : bytes ≤ 100)
    (w : World) {ops : Array Oper} {o : Oper} {a : Act} {K : Act → World → Prop} {Q : Exit → Act → World → Prop} {E : Prop} (hgd : o.guard = none) (s x : Operand) (ho : o.op = .call { callee := .builtin .append, args := #[s, x], argTypes := #[t, t] })
    (w0 : World) (base : Nat) (v : Value) (n : Nat) (xs : List Value) (hs : a.eval s = v) (hown : w0.ownsRow base e size v n xs) (hw : Below w0.heap.size w0 w)
    (B : Nat) (A : Option Addr) (m c : Nat) (ys : List Value) (hx : a.eval x = .slice A m c) (hl : ys.length = m * size) (hr : Sees w B A ys) (h1 : ∀ u ∈ ys, u.oneCell' = true) (hb : n + m ≤ 1000000000) (hbase : base ≤ w0.heap.size) (n' : Nat) (hn' : n + m = n')
    (h : ∀ A' c' w', w'.ownsRow base e size (.slice A' n' c') n' (xs ++ ys) → w0.grownBy w' v.ownBlock → w.grownBy w' v.ownBlock → Below base w0 w' → ((Value.slice A' n' c').ownBlock = v.ownBlock ∨ (Value.slice A' n' c').ownBlock = some w.heap.size) →
      K (a.put o.dst (.slice A' n' c')) w') : if Region.wanted o (yielded ops a.tmps) = true then Oper.wp Tryz.prog o a w K Q else E := by
  obtain ⟨i0, hi0, hz0, hz1, hz2⟩ := info_parts hinf
  have hz : base ≤ w.heap.size := Nat.le_trans hbase hw.size
  have hown' := own_on hown hw
  refine step_append_sees _ hgd s x t ho base e i0 z size bytes ht hi0 hz0 hz1 hz2 hzs hsz v n xs hs hown' B A m c ys hx hl hr h1
    (by unfold maxLen; omega) (by have := Nat.mul_le_mul hb hby; omega) hz n' hn' _ rfl ?_
  intro A' c' w' q1 q2 q3
  exact h A' c' w' q1 ⟨q2.os.trans hw.os, q2.tape.trans hw.tape, q2.output.trans hw.output, Nat.le_trans hw.size q2.size, fun k hk hne => (q2.block k (Nat.lt_of_lt_of_le hk hw.size) hne).trans (hw.block k hk)⟩ q2 (below_app (hw.mono hbase) hz hown' q2) q3
theorem Hold.add15 {w w6 w7 : World} {B g n6 c6 n7 c7 : Nat} {p : PrV} {P : Pr} {A6 A7 : Option Addr} {M : Nat} {z : Int} (h : Hold w B g p P) (o6 : w6.ownsRow B 70 1 (.slice A6 n6 c6) n6 (P.elig.map wv ++ [.int .u64 (M : Int)])) (g6 : w.grownBy w6 p.s1.v.ownBlock)
    (o7 : w7.ownsRow B 3 1 (.slice A7 n7 c7) n7 (P.fix.map iv ++ [.int .i64 z])) (g7 : w6.grownBy w7 p.s5.v.ownBlock) (hn6 : n6 ≤ 100) (hn7 : n7 ≤ 100) (hM : M < 2 ^ 64) :
    Hold ((w7.setCell ⟨g, 0, none⟩ (.slice A6 n6 c6)).setCell ⟨g, 4, none⟩ (.slice A7 n7 c7)) B g ⟨⟨A6, n6, c6⟩, p.s2, p.s3, p.s4, ⟨A7, n7, c7⟩⟩ ⟨P.elig ++ [M], P.dif, P.sam, P.mst, P.fix ++ [z]⟩ := by
  have hb6 := h.blk.grown g6 (own_off h.own.o1 h.blk (by decide))
  have k5 := World.ownsRow.kept h.own.o5 g6 (own_apart h.own.o5 h.own.o1 (by decide))
  have hb7 := hb6.grown g7 (own_off k5 hb6 (by decide))
  have hbs := (hb7.put 0 (.slice A6 n6 c6)).put 4 (.slice A7 n7 c7)
  have kk : ∀ {e s n : Nat} {v : Value} {xs : List Value}, w7.ownsRow B e s v n xs → e ≠ 32 → ((w7.setCell ⟨g, 0, none⟩ (.slice A6 n6 c6)).setCell ⟨g, 4, none⟩ (.slice A7 n7 c7)).ownsRow B e s v n xs := fun ho hne =>
    ownsRow_setCell_other (ownsRow_setCell_other ho (a := ⟨g, 0, none⟩) (own_off ho hb7 hne) _) (a := ⟨g, 4, none⟩) (own_off ho hb7 hne) _
  have ke : ∀ {e s n : Nat} {v : Value} {xs : List Value}, w.ownsRow B e s v n xs → e ≠ 32 → e ≠ 70 → e ≠ 3 → ((w7.setCell ⟨g, 0, none⟩ (.slice A6 n6 c6)).setCell ⟨g, 4, none⟩ (.slice A7 n7 c7)).ownsRow B e s v n xs := fun ho hne h1 h2 => by
    have a6 := World.ownsRow.kept ho g6 (own_apart ho h.own.o1 h1)
    exact kk (World.ownsRow.kept a6 g7 (own_apart a6 k5 h2)) hne
  refine ⟨⟨?_, ke h.own.o2 (by decide) (by decide) (by decide), ke h.own.o3 (by decide) (by decide) (by decide), ke h.own.o4 (by decide) (by decide) (by decide), ?_, h.own.ap, hn6, h.own.b2, h.own.b3, h.own.b4, hn7, ?_, h.own.w4⟩, hbs⟩
  · have := kk (World.ownsRow.kept o6 g7 (own_apart o6 k5 (by decide))) (by decide)
    show World.ownsRow _ B _ 1 _ _ ((P.elig ++ [M]).map wv)
    rw [List.map_append]
    exact this
  · have := kk o7 (by decide)
    show World.ownsRow _ B _ 1 _ _ ((P.fix ++ [z]).map iv)
    rw [List.map_append]
    exact this
  · intro x hx
    rcases List.mem_append.1 hx with h1 | h1
    · exact h.own.w1 x h1
    · have : x = M := by simpa using h1
      rw [this]; exact hM
theorem own_newP {w : World} {B e s g n : Nat} {v : Value} {xs : List Value} (h : w.ownsRow B e s v n xs) (hg : w.heap.size ≤ g) : v.ownBlock ≠ some g := fun hv => by
  have := (h.lt _ hv).2
  omega
theorem Spl.next2 {w wx w6 w7 : World} {B n6 c6 n7 c7 : Nat} {p : PrV} {P : Pr} {A6 A7 : Option Addr} {M : Nat} {z : Int} (h : Spl w wx B p P) (o6 : w6.ownsRow B 70 1 (.slice A6 n6 c6) n6 (P.elig.map wv ++ [.int .u64 (M : Int)])) (g6 : wx.grownBy w6 p.s1.v.ownBlock)
    (o7 : w7.ownsRow B 3 1 (.slice A7 n7 c7) n7 (P.fix.map iv ++ [.int .i64 z])) (g7 : w6.grownBy w7 p.s5.v.ownBlock) (hn6 : n6 ≤ 100) (hn7 : n7 ≤ 100) (hM : M < 2 ^ 64) (hB : B ≤ w.heap.size) (b6 : Below B wx w6) (b7 : Below B w6 w7) :
    Spl w ((w7.setCell ⟨w.heap.size, 0, none⟩ (.slice A6 n6 c6)).setCell ⟨w.heap.size, 4, none⟩ (.slice A7 n7 c7)) B ⟨⟨A6, n6, c6⟩, p.s2, p.s3, p.s4, ⟨A7, n7, c7⟩⟩ ⟨P.elig ++ [M], P.dif, P.sam, P.mst, P.fix ++ [z]⟩ := by
  have k5 := World.ownsRow.kept h.H.own.o5 g6 (own_apart h.H.own.o5 h.H.own.o1 (by decide))
  have q1 := (h.r1.grown g6 (own_off h.H.own.o1 h.r1 (by decide)))
  have q2 := (h.r2.grown g6 (own_off h.H.own.o1 h.r2 (by decide)))
  refine ⟨Hold.add15 h.H o6 g6 o7 g7 hn6 hn7 hM, ?_, ?_, ?_, ?_⟩
  · exact ((q1.grown g7 (own_off k5 q1 (by decide))).far (p := ⟨w.heap.size, 0, none⟩) (by simp) _).far (p := ⟨w.heap.size, 4, none⟩) (by simp) _
  · exact ((q2.grown g7 (own_off k5 q2 (by decide))).far (p := ⟨w.heap.size, 0, none⟩) (by simp) _).far (p := ⟨w.heap.size, 4, none⟩) (by simp) _
  · exact ((((h.bw.trans b6).trans b7).setCell (p := ⟨w.heap.size, 0, none⟩) hB _).setCell (p := ⟨w.heap.size, 4, none⟩) hB _)
  · intro g t cs hb ht
    have := hb.lt
    have c1 := (h.kp g t cs hb ht).grown g6 (own_off h.H.own.o1 (h.kp g t cs hb ht) ht.1)
    exact ((c1.grown g7 (own_off k5 c1 ht.2.2.2)).far (p := ⟨w.heap.size, 0, none⟩) (by simp; omega) _).far (p := ⟨w.heap.size, 4, none⟩) (by simp; omega) _
theorem far5 {w : World} {g g' t : Nat} {cs : Array Value} {a b c d e : Value} (h : Blk w g' t cs) (hn : g ≠ g') : Blk (((((w.setCell ⟨g, 0, none⟩ a).setCell ⟨g, 1, none⟩ b).setCell ⟨g, 2, none⟩ c).setCell ⟨g, 3, none⟩ d).setCell ⟨g, 4, none⟩ e) g' t cs :=
  ((((h.far (p := ⟨g, 0, none⟩) (Ne.symm hn) _).far (p := ⟨g, 1, none⟩) (Ne.symm hn) _).far (p := ⟨g, 2, none⟩) (Ne.symm hn) _).far (p := ⟨g, 3, none⟩) (Ne.symm hn) _).far (p := ⟨g, 4, none⟩) (Ne.symm hn) _
theorem u64_or1 (M : Nat) (h : M < 2 ^ 64) : bits .or .u64 (M : Int) 1 = ((M ||| 1 : Nat) : Int) := by
  show IntKind.u64.wrap ((BitVec.ofInt 64 (M : Int) ||| BitVec.ofInt 64 1).toNat : Int) = _
  rw [BitVec.toNat_or, show (BitVec.ofInt 64 1).toNat = 1 from rfl, BitVec.toNat_ofInt]
  have e : (((M : Int) % ((2 ^ 64 : Nat) : Int))).toNat = M := by omega
  rw [e]
  have := Nat.or_lt_two_pow h (show 1 < 2 ^ 64 by omega)
  show ((M ||| 1 : Nat) : Int) % (2 ^ 64) = _
  omega
theorem i64_and1023 (z : Int) (h : -32768 ≤ z) (h2 : z ≤ 32767) : bits .and .i64 z 1023 = z % 1024 := by
  show IntKind.i64.wrap ((BitVec.ofInt 64 z &&& BitVec.ofInt 64 1023).toNat : Int) = _
  rw [BitVec.toNat_and, show (BitVec.ofInt 64 1023).toNat = 2 ^ 10 - 1 from rfl, Nat.and_two_pow_sub_one_eq_mod, BitVec.toNat_ofInt, IntKind.wrap_i64]
  omega

end Go.Proofs.YtcnofhlgiffkjaaGreatDoor
/- What p, q := spoil(Make(r), x) leaves. -/
namespace Go.Proofs.YtcnofhlgiffkjaaGreatDoor
open Go.RowKit
set_option linter.unusedVariables false
set_option linter.unusedSimpArgs false

theorem Blk.dr {w : World} {g t : Nat} {cs : Array Value} (h : Blk w g t cs) : Blk w.drew g t cs := h
structure Reg3 (W1 : World) (P : Pr) (v5 v6 : Value) (wx : World) : Prop where
  ex : ∃ (g5 g6 : Nat) (q q' : PrV), v5 = .pointer (some ⟨g5, 0, none⟩) ∧ v6 = .pointer (some ⟨g6, 0, none⟩) ∧ Blk wx g5 37 q.cs ∧ Blk wx g6 32 q'.cs ∧ PrAt wx wx.heap.size q P ∧ RPrAt wx wx.heap.size q' P ∧ Below W1.heap.size W1 wx
theorem offP : OffT 37 := by unfold OffT; decide
theorem offR : OffT 32 := by unfold OffT; decide
theorem Reg3.mk' {W1 U : World} {P : Pr} {g5 g6 : Nat} {q q' : PrV} {xs : List Value} {ms : List (Int × Value)} (k5 : Blk U g5 37 zero5) (k6 : Blk U g6 32 zero5) (hQ : OwnQ U W1.heap.size q P xs ms) (hO : OwnPr U W1.heap.size q' P) (hb : Below W1.heap.size W1 U) (h5 : W1.heap.size ≤ g5) (h6 : W1.heap.size ≤ g6) :
    Reg3 W1 P (.pointer (some ⟨g5, 0, none⟩)) (.pointer (some ⟨g6, 0, none⟩))
      ((((((((((U.setCell ⟨g5, 0, none⟩ q.s1.v).setCell ⟨g5, 1, none⟩ q.s2.v).setCell ⟨g5, 2, none⟩ q.s3.v).setCell ⟨g5, 3, none⟩ q.s4.v).setCell ⟨g5, 4, none⟩ q.s5.v).setCell ⟨g6, 0, none⟩ q'.s1.v).setCell ⟨g6, 1, none⟩ q'.s2.v).setCell ⟨g6, 2, none⟩ q'.s3.v).setCell ⟨g6, 3, none⟩ q'.s4.v).setCell ⟨g6, 4, none⟩ q'.s5.v) := by
  have hne : g5 ≠ g6 := k5.apart k6 (by decide)
  have R1 := far5 (a := q.s1.v) (b := q.s2.v) (c := q.s3.v) (d := q.s4.v) (e := q.s5.v) k6 hne
  have L1 := blk5 (a' := q.s1.v) (b' := q.s2.v) (c' := q.s3.v) (d' := q.s4.v) (e' := q.s5.v) k5
  have L2 := far5 (a := q'.s1.v) (b := q'.s2.v) (c := q'.s3.v) (d := q'.s4.v) (e := q'.s5.v) L1 (Ne.symm hne)
  have R2 := blk5 (a' := q'.s1.v) (b' := q'.s2.v) (c' := q'.s3.v) (d' := q'.s4.v) (e' := q'.s5.v) R1
  exact ⟨g5, g6, q, q', rfl, rfl, L2, R2, ((hQ.put5 k5 (by decide)).put5 R1 (by decide)).at, ((hO.set5 k5 (by decide) (by decide) (by decide) (by decide)).set5 R1 (by decide) (by decide) (by decide) (by decide)).at, bset5 (bset5 hb h5) h6⟩
theorem Reg3.mk2 {W1 U : World} {P : Pr} {g5 g6 : Nat} {C1 C2 C3 C4 C5 D1 D2 D3 D4 D5 : Option Addr} {m1 m2 m3 m4 m5 i1 i2 i3 i4 i5 j1 j2 j3 j4 j5 s1 s2 s3 s4 s5 : Nat} {xs : List Value} {ms : List (Int × Value)} {u2 : World} (hQ : OwnQ u2 W1.heap.size ⟨⟨C1, m1, i1⟩, ⟨C2, m2, i2⟩, ⟨C3, m3, i3⟩, ⟨C4, m4, i4⟩, ⟨C5, m5, i5⟩⟩ P xs ms) (hO : OwnPr u2 W1.heap.size ⟨⟨D1, j1, s1⟩, ⟨D2, j2, s2⟩, ⟨D3, j3, s3⟩, ⟨D4, j4, s4⟩, ⟨D5, j5, s5⟩⟩ P) (q3 : Below W1.heap.size W1 u2)
    (k5 : Blk U g5 37 #[.slice none 0 0, .slice none 0 0, .slice none 0 0, .slice none 0 0, .slice none 0 0]) (k6 : Blk U g6 32 #[.slice none 0 0, .slice none 0 0, .slice none 0 0, .slice none 0 0, .slice none 0 0]) (hb : Below u2.heap.size u2 U) (h5 : W1.heap.size ≤ g5) (h6 : W1.heap.size ≤ g6) :
    Reg3 W1 P (.pointer (some ⟨g5, 0, none⟩)) (.pointer (some ⟨g6, 0, none⟩)) ((((((((((U.setCell ⟨g5, 0, none⟩ (.slice C1 m1 i1)).setCell ⟨g5, 1, none⟩ (.slice C2 m2 i2)).setCell ⟨g5, 2, none⟩ (.slice C3 m3 i3)).setCell ⟨g5, 3, none⟩ (.slice C4 m4 i4)).setCell ⟨g5, 4, none⟩ (.slice C5 m5 i5)).setCell ⟨g6, 0, none⟩ (.slice D1 j1 s1)).setCell ⟨g6, 1, none⟩ (.slice D2 j2 s2)).setCell ⟨g6, 2, none⟩ (.slice D3 j3 s3)).setCell ⟨g6, 3, none⟩ (.slice D4 j4 s4)).setCell ⟨g6, 4, none⟩ (.slice D5 j5 s5)) :=
  Reg3.mk' (q := ⟨⟨C1, m1, i1⟩, ⟨C2, m2, i2⟩, ⟨C3, m3, i3⟩, ⟨C4, m4, i4⟩, ⟨C5, m5, i5⟩⟩) (q' := ⟨⟨D1, j1, s1⟩, ⟨D2, j2, s2⟩, ⟨D3, j3, s3⟩, ⟨D4, j4, s4⟩, ⟨D5, j5, s5⟩⟩) k5 k6 (hQ.on hb) (hO.on hb) (q3.trans (hb.mono q3.size)) h5 h6
theorem z5facts {U : World} {g t : Nat} (h : Blk U g t zero5) : U.cell? ⟨g, 0, none⟩ = some (.slice none 0 0) ∧ U.cell? ⟨g, 1, none⟩ = some (.slice none 0 0) ∧ U.cell? ⟨g, 2, none⟩ = some (.slice none 0 0) ∧ U.cell? ⟨g, 3, none⟩ = some (.slice none 0 0) ∧ U.cell? ⟨g, 4, none⟩ = some (.slice none 0 0) ∧ U.frozen? ⟨g, 0, none⟩ = false ∧ U.frozen? ⟨g, 1, none⟩ = false ∧ U.frozen? ⟨g, 2, none⟩ = false ∧ U.frozen? ⟨g, 3, none⟩ = false ∧ U.frozen? ⟨g, 4, none⟩ = false :=
  ⟨(h.cell 0).trans rfl, (h.cell 1).trans rfl, (h.cell 2).trans rfl, (h.cell 3).trans rfl, (h.cell 4).trans rfl, h.frozen 0, h.frozen 1, h.frozen 2, h.frozen 3, h.frozen 4⟩
theorem z5factsA {U : World} {g t : Nat} (h : Blk U g t zero5) : (∀ o, (U.alloc o).cell? ⟨g, 0, none⟩ = some (.slice none 0 0)) ∧ (∀ o, (U.alloc o).cell? ⟨g, 1, none⟩ = some (.slice none 0 0)) ∧ (∀ o, (U.alloc o).cell? ⟨g, 2, none⟩ = some (.slice none 0 0)) ∧ (∀ o, (U.alloc o).cell? ⟨g, 3, none⟩ = some (.slice none 0 0)) ∧ (∀ o, (U.alloc o).cell? ⟨g, 4, none⟩ = some (.slice none 0 0)) ∧ (∀ o, (U.alloc o).frozen? ⟨g, 0, none⟩ = false) ∧ (∀ o, (U.alloc o).frozen? ⟨g, 1, none⟩ = false) ∧ (∀ o, (U.alloc o).frozen? ⟨g, 2, none⟩ = false) ∧ (∀ o, (U.alloc o).frozen? ⟨g, 3, none⟩ = false) ∧ (∀ o, (U.alloc o).frozen? ⟨g, 4, none⟩ = false) :=
  ⟨fun o => ((h.alloc o).cell 0).trans rfl, fun o => ((h.alloc o).cell 1).trans rfl, fun o => ((h.alloc o).cell 2).trans rfl, fun o => ((h.alloc o).cell 3).trans rfl, fun o => ((h.alloc o).cell 4).trans rfl, fun o => (h.alloc o).frozen 0, fun o => (h.alloc o).frozen 1, fun o => (h.alloc o).frozen 2, fun o => (h.alloc o).frozen 3, fun o => (h.alloc o).frozen 4⟩
theorem make_from (r : RwV) (R : Rw) (W W1 : World) (h : RwAt W W.heap.size r R) (hW : Below W1.heap.size W1 W) :
    Calls Tryz.prog 5 #[r.v R] W fun e w' => ∃ p, e = .returned (PrV.v p) ∧ OwnPr w' W1.heap.size p (mkP R) ∧ Below W.heap.size W w' ∧ Below W1.heap.size W1 w' := by
  refine (rmake_any r R W h).mono ?_
  rintro e w' ⟨p, rfl, hO, hb⟩
  exact ⟨p, rfl, hO.less hW.size, hb, hW.trans (hb.mono hW.size)⟩
end Go.Proofs.YtcnofhlgiffkjaaGreatDoor
