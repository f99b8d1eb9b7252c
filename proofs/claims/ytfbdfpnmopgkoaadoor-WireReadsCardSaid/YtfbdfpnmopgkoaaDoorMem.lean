/- Words for memory: a slice that reads as a list ('Sees'), bytes as values, an append from whatever source, what stays as it was. No function of the program in sight. -/
import Derived.WalkKit
import Derived.Maps.AppendAt
import Derived.Deep.AppendLies
import Derived.Deep.Draws
import Derived.Lib.Hide
import Derived.Deep.Quiet
import Derived.Test.YtfbdfpnmopgkoaaDoorRows
namespace Go.Proofs.YtfbdfpnmopgkoaaDoor
open Go.RowKit
set_option linter.unusedVariables false
set_option linter.unusedSimpArgs false

theorem ret_int {k : IntKind} {a b : Int} (h : a = b) : Ending.returned (.int k a) = .returned (.int k b) := by rw [h]
theorem ret_bool {a b : Bool} (h : a = b) : Ending.returned (.bool a) = .returned (.bool b) := by rw [h]
theorem val_int {k : IntKind} {a b : Int} (h : a = b) : Value.int k a = .int k b := by rw [h]
theorem val_bool {a b : Bool} (h : a = b) : Value.bool a = .bool b := by rw [h]

/-- A byte as a value. -/
def bv (b : UInt8) : Value := .int .u8 (b.toNat : Int)
theorem bv_inj {a b : UInt8} (h : bv a = bv b) : a = b := by
  unfold bv at h
  injection h with _ h
  exact UInt8.toNat_inj.1 (by omega)
theorem oneCell_bv (l : List UInt8) : ∀ u ∈ l.map bv, u.oneCell' = true := by
  intro u hu
  obtain ⟨_, _, rfl⟩ := List.mem_map.1 hu
  rfl

/-- A quiet callee in a quiet region: '1': the region began in w; '2': it began in w.drewN a. -/
theorem quiet_same1 {P : Program} {f : FuncId} {args : Array Value} {w : World} {n : Nat} {v : Value} (h : Calls P f args (w.drewN n) fun e w' => e = .returned v ∧ w.drewN n = w') :
    Calls P f args (w.drewN n) fun e w' => e = .returned v ∧ ∃ m, w' = w.drewN m :=
  h.mono fun _ _ ⟨he, hm⟩ => ⟨he, n, hm.symm⟩
theorem quiet_drew1 {P : Program} {f : FuncId} {args : Array Value} {w : World} {n : Nat} {v : Value} (h : Calls P f args (w.drewN n) fun e w' => e = .returned v ∧ ∃ m, w' = (w.drewN n).drewN m) :
    Calls P f args (w.drewN n) fun e w' => e = .returned v ∧ ∃ m, w' = w.drewN m :=
  h.mono fun _ _ ⟨he, m, hm⟩ => ⟨he, n + m, by rw [hm, World.drewN_drewN]⟩
theorem quiet_same2 {P : Program} {f : FuncId} {args : Array Value} {w : World} {a n : Nat} {v : Value} (h : Calls P f args (w.drewN (a + n)) fun e w' => e = .returned v ∧ w.drewN (a + n) = w') :
    Calls P f args (w.drewN (a + n)) fun e w' => e = .returned v ∧ ∃ m, w' = w.drewN (a + m) :=
  h.mono fun _ _ ⟨he, hm⟩ => ⟨he, n, hm.symm⟩
theorem quiet_drew2 {P : Program} {f : FuncId} {args : Array Value} {w : World} {a n : Nat} {v : Value} (h : Calls P f args (w.drewN (a + n)) fun e w' => e = .returned v ∧ ∃ m, w' = (w.drewN (a + n)).drewN m) :
    Calls P f args (w.drewN (a + n)) fun e w' => e = .returned v ∧ ∃ m, w' = w.drewN (a + m) :=
  h.mono fun _ _ ⟨he, m, hm⟩ => ⟨he, n + m, by rw [hm, World.drewN_drewN, Nat.add_assoc]⟩
theorem below_drewN {B : Nat} {a w : World} (h : Below B a w) (n : Nat) : Below B a (w.drewN n) := ⟨h.os, h.tape, h.output, h.size, h.block⟩
theorem bcell {B : Nat} {W w1 : World} (hb : Below B W w1) : (∀ b o, b < B → w1.cell? ⟨b, o, none⟩ = W.cell? ⟨b, o, none⟩) ∧ (∀ b o, b < B → w1.frozen? ⟨b, o, none⟩ = W.frozen? ⟨b, o, none⟩) :=
  ⟨fun b o h => hb.cell (p := ⟨b, o, none⟩) h, fun b o h => hb.frozen (p := ⟨b, o, none⟩) h⟩

/-- The address A leads to cells that hold xs, in a block below B. Of an empty list nothing is said. -/
def Sees (w : World) (B : Nat) (A : Option Addr) (xs : List Value) : Prop :=
  xs ≠ [] → ∃ b o, A = some ⟨b, o, none⟩ ∧ b < B ∧ ∀ j u, xs[j]? = some u → w.cell? ⟨b, o + j, none⟩ = some u

section
variable {w w' : World} {B B' : Nat} {A : Option Addr} {xs : List Value}
theorem Sees.nil (w : World) (B : Nat) (A : Option Addr) : Sees w B A [] := fun h => absurd rfl h
theorem Sees.at_ {k : Nat} (h : Sees w B A xs) (hk : k < xs.length) :
    ∃ b o, A = some ⟨b, o, none⟩ ∧ b < B ∧ w.cell? ⟨b, o + k, none⟩ = some xs[k] := by
  obtain ⟨b, o, e, hb, hc⟩ := h (by intro e; rw [e] at hk; simp at hk)
  exact ⟨b, o, e, hb, hc k _ (List.getElem?_eq_getElem hk)⟩
theorem Sees.keep (h : Sees w B A xs) (hk : ∀ p : Addr, p.block < B → w'.cell? p = w.cell? p) : Sees w' B A xs := fun hn => by
  obtain ⟨b, o, e, hb, hc⟩ := h hn
  exact ⟨b, o, e, hb, fun j u hu => (hk _ hb).trans (hc j u hu)⟩
theorem Sees.more (h : Sees w B A xs) (hB : B ≤ B') : Sees w B' A xs := fun hn => by
  obtain ⟨b, o, e, hb, hc⟩ := h hn
  exact ⟨b, o, e, by omega, hc⟩
theorem Sees.below (h : Sees w B A xs) (hb : Below B w w') : Sees w' B A xs := h.keep fun _ hp => hb.cell hp
/-- Kept, and said of the new world's own size. -/
theorem Sees.on (h : Sees w w.heap.size A xs) (hb : Below w.heap.size w w') : Sees w' w'.heap.size A xs := (h.below hb).more hb.size
theorem Sees.drew (h : Sees w B A xs) : Sees w.drew B A xs := h
theorem Sees.drewN (h : Sees w B A xs) (k : Nat) : Sees (w.drewN k) B A xs := h
theorem Sees.dn (h : Sees w w.heap.size A xs) (k : Nat) : Sees (w.drewN k) (w.drewN k).heap.size A xs := h
theorem Sees.alloc (h : Sees w B A xs) (hB : B ≤ w.heap.size) (o : Obj) : Sees (w.alloc o) B A xs := h.keep fun p hp => World.cell?_alloc_lt w o p (by omega)
theorem Sees.setCell (h : Sees w B A xs) {p : Addr} (hB : B ≤ p.block) (u : Value) : Sees (w.setCell p u) B A xs :=
  h.keep fun q hq => World.cell?_setCell_other w p q u (fun e => by subst e; omega)
theorem Sees.grown (h : Sees w B A xs) {row : Option Nat} (hg : w.grownBy w' row) (hB : B ≤ w.heap.size) (hr : ∀ g, row = some g → B ≤ g) : Sees w' B A xs :=
  h.keep fun p hp => World.cell?_of_block (hg.block p.block (by omega) (fun e => by have := hr _ e.symm; omega))
theorem Sees.drop_ (h : Sees w B A xs) {k c : Nat} (hk : k ≤ xs.length) (hc : xs.length ≤ c) : Sees w B (if c = k then A else A.map (·.add k)) (xs.drop k) := fun hn => by
  have hlt : k < xs.length := by
    rcases Nat.lt_or_ge k xs.length with h | h
    · exact h
    · exact absurd (List.drop_eq_nil_of_le h) hn
  obtain ⟨b, o, rfl, hb, hcell⟩ := h (by intro e; rw [e] at hlt; simp at hlt)
  rw [if_neg (by omega)]
  refine ⟨b, o + k, by simp [Addr.add_lit], hb, fun j u hu => ?_⟩
  rw [Nat.add_assoc]
  exact hcell _ u (by rw [← hu, List.getElem?_drop])
theorem Sees.take_ (h : Sees w B A xs) (k : Nat) : Sees w B A (xs.take k) := fun hn => by
  obtain ⟨b, o, e, hb, hc⟩ := h (by intro e; rw [e] at hn; simp at hn)
  refine ⟨b, o, e, hb, fun j u hu => hc j u ?_⟩
  rw [List.getElem?_take] at hu
  split at hu
  · exact hu
  · cases hu
/-- Byte k. -/
theorem Sees.byte {l : List UInt8} {k : Nat} (h : Sees w B A (l.map bv)) (hk : k < l.length) :
    ∃ b o x, A = some ⟨b, o, none⟩ ∧ b < B ∧ Hid (l[k]? = some x) ∧ x.toNat < 256 ∧ w.cell? ⟨b, o + k, none⟩ = some (.int .u8 (x.toNat : Int)) := by
  obtain ⟨b, o, e, hb, hc⟩ := h.at_ (k := k) (by simpa using hk)
  exact ⟨b, o, l[k], e, hb, Lib.hid (List.getElem?_eq_getElem hk), UInt8.toNat_lt _, by rw [hc, List.getElem_map]; rfl⟩
theorem Sees.none_ (h : Sees w B none xs) : xs = [] := by
  cases xs with
  | nil => rfl
  | cons x l =>
    obtain ⟨_, _, e, _⟩ := h (by simp)
    cases e
/-- What the call owns reads so. -/
theorem Sees.own {base c n : Nat} {e : TypeId} {size : Nat} (h : w.ownsRow base e size (.slice A n c) n xs) (hs : 0 < size) : Sees w w.heap.size A xs := fun hn => by
  rcases h.2 with ⟨hv, h0⟩ | ⟨g, cap, cur, hv, _, hg, _⟩
  · subst h0
    exact absurd (List.eq_nil_of_length_eq_zero (by simpa using h.1)) hn
  · have hA : A = some ⟨g, 0, none⟩ := by injection hv
    subst hA
    refine ⟨g, 0, rfl, (Array.getElem?_eq_some_iff.1 hg).1, fun j u hu => ?_⟩
    have := h.cells (g := g) rfl j u hu
    rwa [Addr.add_lit] at this
end

/-! ### bits of an int that is not negative -/
theorem ofInt64_nat (a : Nat) (ha : a < 9223372036854775808) : (BitVec.ofInt 64 (a : Int)).toNat = a := by
  rw [BitVec.ofInt_natCast, BitVec.toNat_ofNat]; exact Nat.mod_eq_of_lt (by omega)
theorem i64_and_n (a b : Nat) (ha : a < 9223372036854775808) (hb : b < 9223372036854775808) : bits .and .i64 (a : Int) (b : Int) = ((a &&& b : Nat) : Int) := by
  have hx : a &&& b < 2 ^ 63 := Nat.and_lt_two_pow _ (by omega)
  show IntKind.i64.wrap ((BitVec.ofInt 64 (a : Int) &&& BitVec.ofInt 64 (b : Int)).toNat : Int) = _
  rw [BitVec.toNat_and, ofInt64_nat a ha, ofInt64_nat b hb, IntKind.wrap_i64]
  omega
theorem i64_and1 (a : Nat) (ha : a < 9223372036854775808) : bits .and .i64 (a : Int) 1 = ((a % 2 : Nat) : Int) := by
  have := i64_and_n a 1 ha (by omega)
  rw [nat_mask1] at this
  exact this

/-- Block g is the cells cs of type t, none of them frozen. -/
def Blk (w : World) (g : Nat) (t : TypeId) (cs : Array Value) : Prop := w.heap[g]? = some (.cells cs t (0, 0))
section
variable {w w' : World} {g : Nat} {t : TypeId} {cs : Array Value}
theorem Blk.lt (h : Blk w g t cs) : g < w.heap.size := (Array.getElem?_eq_some_iff.1 h).1
theorem Blk.cell (h : Blk w g t cs) (i : Nat) : w.cell? ⟨g, i, none⟩ = cs[i]? := cell_of_row w g i cs t (0, 0) h
theorem Blk.frozen (h : Blk w g t cs) (i : Nat) : w.frozen? ⟨g, i, none⟩ = false := by
  unfold Blk at h
  simp [World.frozen?, h]
theorem Blk.new (w : World) (t : TypeId) (cs : Array Value) : Blk (w.alloc (.cells cs t)) w.heap.size t cs := heap_alloc_new w _
theorem Blk.drewN (h : Blk w g t cs) (n : Nat) : Blk (w.drewN n) g t cs := h
theorem Blk.alloc (h : Blk w g t cs) (o : Obj) : Blk (w.alloc o) g t cs := (Below.heap_alloc w o g h.lt).trans h
theorem Blk.put (h : Blk w g t cs) (i : Nat) (u : Value) : Blk (w.setCell ⟨g, i, none⟩ u) g t (cs.setIfInBounds i u) := by
  unfold Blk at h ⊢
  simp [World.setCell, Array.getElem?_modify, h]
theorem Blk.far (h : Blk w g t cs) {p : Addr} (hp : g ≠ p.block) (u : Value) : Blk (w.setCell p u) g t cs := (Below.heap_setCell w p u g hp).trans h
theorem Blk.below {B : Nat} (h : Blk w g t cs) (hb : Below B w w') (hg : g < B) : Blk w' g t cs := (hb.block g hg).trans h
theorem Blk.on (h : Blk w g t cs) (hb : Below w.heap.size w w') : Blk w' g t cs := h.below hb h.lt
theorem Blk.grown {row : Option Nat} (h : Blk w g t cs) (hb : w.grownBy w' row) (hg : row ≠ some g) : Blk w' g t cs := (hb.block g h.lt (fun e => hg e.symm)).trans h
theorem Blk.apart {g' : Nat} {t' : TypeId} {cs' : Array Value} (h : Blk w g t cs) (h' : Blk w g' t' cs') (hne : t ≠ t') : g ≠ g' := by
  rintro rfl
  have e := h.symm.trans h'
  simp at e
  exact hne e.2
/-- An owned row of another type does not lie in the block. -/
theorem own_far {base : Nat} {e : TypeId} {size n : Nat} {v : Value} {xs : List Value} (h : w.ownsRow base e size v n xs) (hg : Blk w g t cs) (hne : e ≠ t) : v.ownBlock ≠ some g := by
  rcases h.2 with ⟨rfl, _⟩ | ⟨g', cap, cur, rfl, _, hh, _⟩
  · simp [Value.ownBlock]
  · intro he
    have : g' = g := by simpa [Value.ownBlock] using he
    subst this
    exact Blk.apart (t := e) hh hg hne rfl
end

/-- What is owned has the form of a slice. -/
theorem own_form {w : World} {base : Nat} {e : TypeId} {size : Nat} {v : Value} {n : Nat} {xs : List Value} (h : w.ownsRow base e size v n xs) :
    ∃ A c, v = .slice A n c ∧ n ≤ c ∧ c ≤ maxLen ∧ (∀ g, v.ownBlock = some g → base ≤ g ∧ g < w.heap.size) := by
  have hlt := h.lt
  rcases h.2 with ⟨rfl, rfl⟩ | ⟨g, cap, cur, rfl, hb, hg, hnc, hcm, _⟩
  · exact ⟨none, 0, rfl, Nat.le_refl _, by unfold maxLen; omega, hlt⟩
  · exact ⟨_, cap, rfl, hnc, hcm, hlt⟩

section
variable {P : Program} (w : World)
theorem run_append_of_none (base : Nat) (t ty e : TypeId) (i : TypeInfo) (size : Nat) (ht : P.underlying t = some (.slice e)) (hi : P.info? e = some i)
    (v : Value) (n : Nat) (xs : List Value) (hown : w.ownsRow base e size v n xs) (c : Nat) : (Builtin.append_ #[t, t] ty #[v, .slice none 0 c]).run P w = .ok v w := by
  rcases hown.2 with ⟨rfl, rfl⟩ | ⟨g, cap, cur, rfl, _, _, hnc, _⟩
  · simp [Builtin.append_, run_underlying ht, sizeOf, typeInfo, hi, Builtin.lenOf, Builtin.firstCells]
  · simp [Builtin.append_, run_underlying ht, sizeOf, typeInfo, hi, Builtin.lenOf, Builtin.firstCells, hnc, storeCells]

/-- append onto what the call owns, from whatever reads as a list. -/
theorem run_append_sees (base : Nat) (t ty e : TypeId) (i : TypeInfo) (z : Value) (size bytes : Nat) (ht : P.underlying t = some (.slice e)) (hi : P.info? e = some i) (hz : i.zero = some z)
    (hsize : i.size = size) (hby : i.bytes = bytes) (hzs : z.cells.size = size) (hsz : 0 < size)
    (v : Value) (n : Nat) (xs : List Value) (hown : w.ownsRow base e size v n xs)
    (B : Nat) (A : Option Addr) (m c : Nat) (news : List Value) (hl : news.length = m * size) (hr : Sees w B A news) (h1 : ∀ u ∈ news, u.oneCell' = true)
    (h63 : n + m ≤ maxLen) (hbytes : (n + m) * bytes ≤ 140737488355328) (hbase : base ≤ w.heap.size) :
    ∃ v' w', (Builtin.append_ #[t, t] ty #[v, .slice A m c]).run P w = .ok v' w' ∧ w'.ownsRow base e size v' (n + m) (xs ++ news) ∧ w.grownBy w' v.ownBlock ∧
      (v'.ownBlock = v.ownBlock ∨ v'.ownBlock = some w.heap.size) := by
  rcases A with _ | ad
  · have hn : news = [] := hr.none_
    subst hn
    have hm : m = 0 := by
      rcases Nat.eq_zero_or_pos m with h | h
      · exact h
      · have := Nat.mul_pos h hsz
        simp at hl; omega
    subst hm
    exact ⟨v, w, run_append_of_none w base t ty e i size ht hi v n xs hown c, by simpa using hown, World.grownBy.refl w _, .inl rfl⟩
  · have hcells : ∀ j u, news[j]? = some u → w.cell? (ad.add j) = some u := by
      intro j u hu
      obtain ⟨b, o, e, _, hc⟩ := hr (by intro e; rw [e] at hu; simp at hu)
      injection e with e
      subst e
      rw [Addr.add_lit]
      exact hc j u hu
    obtain ⟨v', w', hrun, h2, h3, _, h5⟩ := run_append_own_at (P := P) w base t ty e i z size bytes ht hi hz hsize hby hzs hsz v n xs hown ad m c news hl hcells h1 h63 hbytes hbase
    exact ⟨v', w', hrun, h2, h3, h5⟩

/-- append onto what the call owns: the new length and the new list are named by the caller. -/
theorem wp_append_sees {o : Oper} {a : Act} {K : Act → World → Prop} {Q : Exit → Act → World → Prop} (s x : Operand) (t : TypeId)
    (ho : o.op = .call { callee := .builtin .append, args := #[s, x], argTypes := #[t, t] })
    (base : Nat) (e : TypeId) (i : TypeInfo) (z : Value) (size bytes : Nat) (ht : P.underlying t = some (.slice e)) (hi : P.info? e = some i) (hz : i.zero = some z)
    (hsize : i.size = size) (hby : i.bytes = bytes) (hzs : z.cells.size = size) (hsz : 0 < size)
    (v : Value) (n : Nat) (xs : List Value) (hs : a.eval s = v) (hown : w.ownsRow base e size v n xs)
    (B : Nat) (A : Option Addr) (m c : Nat) (news : List Value) (hx : a.eval x = .slice A m c) (hl : news.length = m * size) (hr : Sees w B A news) (h1 : ∀ u ∈ news, u.oneCell' = true)
    (h63 : n + m ≤ maxLen) (hbytes : (n + m) * bytes ≤ 140737488355328) (hbase : base ≤ w.heap.size) (n' : Nat) (hn' : n + m = n') (xs' : List Value) (hxs' : xs ++ news = xs')
    (h : ∀ A' c' w', w'.ownsRow base e size (.slice A' n' c') n' xs' → w.grownBy w' v.ownBlock → ((Value.slice A' n' c').ownBlock = v.ownBlock ∨ (Value.slice A' n' c').ownBlock = some w.heap.size) →
      K (a.put o.dst (.slice A' n' c')) w') : o.wp P a w K Q := by
  obtain ⟨v', w', hrun, h2, h3, h4⟩ := run_append_sees (P := P) w base t o.type e i z size bytes ht hi hz hsize hby hzs hsz v n xs hown B A m c news hl hr h1 h63 hbytes hbase
  obtain ⟨A', c', rfl, _⟩ := own_form h2
  unfold Oper.wp execOp
  simp only [ho, resolve, invoke, builtin, Sem.run_bind, Sem.run_pure, Result.andThen_ok, List.map_toArray, List.map_cons, List.map_nil, hs, hx, hrun]
  subst hn' hxs'
  exact h A' c' w' h2 h3 h4

theorem wpList_append_sees {ops : Array Oper} {rest : List Oper} {o : Oper} {a : Act} {Q : Exit → Act → World → Prop} (hgd : o.guard = none) (s x : Operand) (t : TypeId)
    (ho : o.op = .call { callee := .builtin .append, args := #[s, x], argTypes := #[t, t] })
    (base : Nat) (e : TypeId) (i : TypeInfo) (z : Value) (size bytes : Nat) (ht : P.underlying t = some (.slice e)) (hi : P.info? e = some i) (hz : i.zero = some z)
    (hsize : i.size = size) (hby : i.bytes = bytes) (hzs : z.cells.size = size) (hsz : 0 < size)
    (v : Value) (n : Nat) (xs : List Value) (hs : a.eval s = v) (hown : w.ownsRow base e size v n xs)
    (B : Nat) (A : Option Addr) (m c : Nat) (news : List Value) (hx : a.eval x = .slice A m c) (hl : news.length = m * size) (hr : Sees w B A news) (h1 : ∀ u ∈ news, u.oneCell' = true)
    (h63 : n + m ≤ maxLen) (hbytes : (n + m) * bytes ≤ 140737488355328) (hbase : base ≤ w.heap.size) (n' : Nat) (hn' : n + m = n') (xs' : List Value) (hxs' : xs ++ news = xs')
    (h : ∀ A' c' w', w'.ownsRow base e size (.slice A' n' c') n' xs' → w.grownBy w' v.ownBlock → ((Value.slice A' n' c').ownBlock = v.ownBlock ∨ (Value.slice A' n' c').ownBlock = some w.heap.size) →
      wpList P ops Q rest (a.put o.dst (.slice A' n' c')) w') : wpList P ops Q (o :: rest) a w :=
  wpList_plain hgd fun _ hK => wp_append_sees w s x t ho base e i z size bytes ht hi hz hsize hby hzs hsz v n xs hs hown B A m c news hx hl hr h1 h63 hbytes hbase n' hn' xs' hxs' fun A' c' w' h2 h3 h4 => hK _ _ (h A' c' w' h2 h3 h4)
end

/-- The element type uint8 in the program's table. -/
theorem u8_info : (Tryd.prog.info? 5).map (fun i => (i.zero, i.size, i.bytes)) = some (some (.int .u8 0), 1, 1) := by kernel_rfl

/-- v is a slice of the call's own (in a block from base on, or nil) that holds the bytes l. -/
def OwnB (w : World) (base : Nat) (v : Value) (n : Nat) (l : List UInt8) : Prop := w.ownsRow base 5 1 v n (l.map bv)
theorem OwnB.len {w : World} {base n : Nat} {v : Value} {l : List UInt8} (h : OwnB w base v n l) : l.length = n := by have := h.1; simpa using this
theorem OwnB.sees {w : World} {base n c : Nat} {A : Option Addr} {l : List UInt8} (h : OwnB w base (.slice A n c) n l) : Sees w w.heap.size A (l.map bv) := Sees.own h (by omega)
theorem OwnB.made0 (w : World) : OwnB (w.alloc (.cells #[] 5)) w.heap.size (.slice (some ⟨w.heap.size, 0, none⟩) 0 0) 0 [] := World.ownsRow_made _ _ _ (Nat.le_refl _) (by unfold maxLen; omega) rfl
theorem OwnB.room {w : World} {base n c : Nat} {A : Option Addr} {l : List UInt8} (h : OwnB w base (.slice A n c) n l) : n ≤ c := by
  obtain ⟨A', c', e, h1, _⟩ := own_form h
  injection e with _ _ e
  omega
/-- A literal of bytes, just made. -/
theorem OwnB.lit (w : World) (cs : Array Value) (n : Nat) (l : List UInt8) (hm : n ≤ maxLen) (hl : l.length = n) (hc : cs.toList = l.map bv) :
    OwnB (w.alloc (.cells cs 5)) w.heap.size (.slice (some ⟨w.heap.size, 0, none⟩) n n) n l := by
  have h := World.ownsRow_lit (base := w.heap.size) (e := 5) (size := 1) w cs n (Nat.le_refl _) hm (by rw [← Array.length_toList, hc]; simp [hl])
  rw [hc] at h
  exact h
theorem OwnB.nil (w : World) (base : Nat) : OwnB w base (.slice none 0 0) 0 [] := World.ownsRow_nil _ _ _ _
theorem OwnB.kept {w w' : World} {base n : Nat} {v : Value} {l : List UInt8} {row : Option Nat} (h : OwnB w base v n l) (hg : w.grownBy w' row) (hne : v.ownBlock = none ∨ v.ownBlock ≠ row) : OwnB w' base v n l := World.ownsRow.kept h hg hne
/-- Kept where what lay below some B beyond it is kept. -/
theorem OwnB.below {w w' : World} {base n B : Nat} {v : Value} {l : List UInt8} (h : OwnB w base v n l) (hb : Below B w w') (hB : w.heap.size ≤ B) : OwnB w' base v n l :=
  World.ownsRow.kept (row := none) h ⟨hb.os, hb.tape, hb.output, hb.size, fun k hk _ => hb.block k (by omega)⟩ (by cases v.ownBlock <;> simp)
theorem OwnB.on {w w' : World} {base n : Nat} {v : Value} {l : List UInt8} (h : OwnB w base v n l) (hb : Below w.heap.size w w') : OwnB w' base v n l := h.below hb (Nat.le_refl _)
theorem OwnB.alloc {w : World} {base n : Nat} {v : Value} {l : List UInt8} (h : OwnB w base v n l) (o : Obj) : OwnB (w.alloc o) base v n l := World.ownsRow.alloc h o
theorem OwnB.more {w : World} {base base' n : Nat} {v : Value} {l : List UInt8} (h : OwnB w base v n l) (hb : base' ≤ base) : OwnB w base' v n l := by
  refine ⟨h.1, ?_⟩
  rcases h.2 with h | ⟨g, cap, cur, h1, h2, h3⟩
  · exact .inl h
  · exact .inr ⟨g, cap, cur, h1, by omega, h3⟩

/-- append onto bytes of the call's own, from whatever reads as bytes. -/
theorem wpL_appB (w : World) {ops : Array Oper} {rest : List Oper} {o : Oper} {a : Act} {Q : Exit → Act → World → Prop} (hgd : o.guard = none) (s x : Operand)
    (ho : o.op = .call { callee := .builtin .append, args := #[s, x], argTypes := #[22, 22] })
    (base : Nat) (v : Value) (n : Nat) (l : List UInt8) (hs : a.eval s = v) (hown : OwnB w base v n l)
    (B : Nat) (A : Option Addr) (m c : Nat) (l2 : List UInt8) (hx : a.eval x = .slice A m c) (hl : l2.length = m) (hr : Sees w B A (l2.map bv))
    (hbytes : n + m ≤ 140737488355328) (hbase : base ≤ w.heap.size) (n' : Nat) (hn' : n + m = n') (l' : List UInt8) (hl' : l ++ l2 = l')
    (h : ∀ A' c' w', OwnB w' base (.slice A' n' c') n' l' → w.grownBy w' v.ownBlock → ((Value.slice A' n' c').ownBlock = v.ownBlock ∨ (Value.slice A' n' c').ownBlock = some w.heap.size) →
      wpList Tryd.prog ops Q rest (a.put o.dst (.slice A' n' c')) w') : wpList Tryd.prog ops Q (o :: rest) a w := by
  obtain ⟨i0, hi0, hz0, hz1, hz2⟩ := info_parts u8_info
  exact wpList_append_sees w hgd s x _ ho base _ i0 _ 1 1 Tryd.underlying22 hi0 hz0 hz1 hz2 rfl (by omega) v n _ hs hown B A m c _ hx (by simpa using hl) hr (oneCell_bv l2)
    (by unfold maxLen; omega) (by omega) hbase n' hn' _ (by rw [← hl', List.map_append]) h

/-- Below base nothing has turned, behind an append onto what is owned from base on. -/
theorem below_app {base : Nat} {w0 w w' : World} {v : Value} {n : Nat} {e : TypeId} {size : Nat} {xs : List Value} (hb : Below base w0 w) (hbase : base ≤ w.heap.size) (hown : w.ownsRow base e size v n xs) (hg : w.grownBy w' v.ownBlock) : Below base w0 w' :=
  hb.grown hg hbase fun k hk => (hown.lt k hk).1

/-- One element, just laid in a block of its own. -/
theorem Sees.one (w : World) (u : Value) (t : TypeId) (g : Nat) (hg : g = w.heap.size) : Sees (w.alloc (.cells #[u] t)) (w.alloc (.cells #[u] t)).heap.size (some ⟨g, 0, none⟩) [u] := fun _ => by
  subst hg
  rw [World.size_alloc]
  refine ⟨w.heap.size, 0, rfl, by omega, fun j x hx => ?_⟩
  match j, hx with
  | 0, hx =>
    simp at hx
    subst hx
    simp
/-- A block just laid, whatever its mark. -/
theorem Sees.laid (w : World) (cs : Array Value) (t : TypeId) (m : Nat × Nat) (xs : List Value) (h : cs.toList = xs) (g : Nat) (hg : g = w.heap.size) : Sees (w.alloc (.cells cs t m)) (w.alloc (.cells cs t m)).heap.size (some ⟨g, 0, none⟩) xs := fun _ => by
  subst hg
  rw [World.size_alloc]
  refine ⟨w.heap.size, 0, rfl, by omega, fun j x hx => ?_⟩
  have e : (w.alloc (.cells cs t m)).heap[w.heap.size]? = some (.cells cs t m) := heap_alloc_new w _
  subst h
  simp only [World.cell?, e, Nat.zero_add]
  simpa using hx
/-- What is owned in rows of different element types does not lie in one row. -/
theorem own_ne {w : World} {base base' : Nat} {e e' : TypeId} {size size' : Nat} {v v' : Value} {n n' : Nat} {xs xs' : List Value} (h : w.ownsRow base e size v n xs) (h' : w.ownsRow base' e' size' v' n' xs') (hne : e ≠ e') :
    v'.ownBlock = none ∨ v'.ownBlock ≠ v.ownBlock := by
  rcases h'.2 with ⟨rfl, _⟩ | ⟨g', cap', cur', rfl, _, hg', _⟩
  · exact .inl rfl
  · right
    intro e1
    rcases h.2 with ⟨rfl, _⟩ | ⟨g, cap, cur, rfl, _, hg, _⟩
    · simp [Value.ownBlock] at e1
    · simp [Value.ownBlock] at e1
      subst e1
      rw [hg] at hg'
      simp at hg'
      exact hne hg'.2

/-- The values vs are slices of the call's own that hold the bytes ls. -/
def RowsB (w : World) (base : Nat) (vs : List Value) (ls : List (List UInt8)) : Prop :=
  vs.length = ls.length ∧ ∀ (i : Nat) (u : Value) (l : List UInt8), vs[i]? = some u → ls[i]? = some l → ∃ A n c, u = .slice A n c ∧ OwnB w base u n l
theorem RowsB.nil (w : World) (base : Nat) : RowsB w base [] [] := ⟨rfl, fun i u l h => by simp at h⟩
theorem RowsB.kept {w w' : World} {base : Nat} {vs : List Value} {ls : List (List UInt8)} {row : Option Nat} (h : RowsB w base vs ls) (hg : w.grownBy w' row) (hne : ∀ u n l, OwnB w base u n l → u.ownBlock = none ∨ u.ownBlock ≠ row) : RowsB w' base vs ls :=
  ⟨h.1, fun i u l h1 h2 => by obtain ⟨A, n, c, e, o⟩ := h.2 i u l h1 h2; exact ⟨A, n, c, e, o.kept hg (hne u n l o)⟩⟩
theorem RowsB.on {w w' : World} {base : Nat} {vs : List Value} {ls : List (List UInt8)} (h : RowsB w base vs ls) (hb : Below w.heap.size w w') : RowsB w' base vs ls :=
  ⟨h.1, fun i u l h1 h2 => by obtain ⟨A, n, c, e, o⟩ := h.2 i u l h1 h2; exact ⟨A, n, c, e, o.on hb⟩⟩
theorem RowsB.alloc {w : World} {base : Nat} {vs : List Value} {ls : List (List UInt8)} (h : RowsB w base vs ls) (o : Obj) : RowsB (w.alloc o) base vs ls :=
  ⟨h.1, fun i u l h1 h2 => by obtain ⟨A, n, c, e, x⟩ := h.2 i u l h1 h2; exact ⟨A, n, c, e, x.alloc o⟩⟩
theorem RowsB.snoc {w : World} {base : Nat} {vs : List Value} {ls : List (List UInt8)} {A : Option Addr} {n c : Nat} {l : List UInt8} (h : RowsB w base vs ls) (hu : OwnB w base (.slice A n c) n l) : RowsB w base (vs ++ [.slice A n c]) (ls ++ [l]) :=
  ⟨by simp [h.1], fun i u m h1 h2 => by
    by_cases hi : i < vs.length
    · rw [List.getElem?_append_left hi] at h1
      rw [List.getElem?_append_left (by rw [← h.1]; exact hi)] at h2
      exact h.2 i u m h1 h2
    · have hl : i < (vs ++ [Value.slice A n c]).length := (List.getElem?_eq_some_iff.1 h1).1
      obtain rfl : i = vs.length := by simp at hl; omega
      simp at h1
      rw [h.1] at h2
      simp at h2
      subst h1 h2
      exact ⟨A, n, c, rfl, hu⟩⟩

end Go.Proofs.YtfbdfpnmopgkoaaDoor
