/- A pack of texts: Mem, Digs, Words, SetAt, Make, BitsB, Bytes, BitsCP, Ints, Step. -/
import Derived.WalkKit
import Derived.Maps.AppendAt
import Derived.Deep.AppendLies
import Derived.Deep.Draws
import Derived.Lib.Hide
import Derived.Deep.Quiet
import Derived.Test.YtcnofhlgiffkjaaGreatDoorRows
import Derived.Laws.Bits64b
import Derived.Laws.CopyOwn
import Derived.OwnWalk
import Derived.WalkSpells
import Derived.BigQuiet
import Derived.Deep.QuietTactic
import Derived.Lib.MinMax
import Derived.Deep.RegionLaw
/- Words for memory: a slice that reads as a list ('Sees'), bytes as values, an append from whatever source, what stays as it was. No function of the program in sight. -/
namespace Go.Proofs.YtcnofhlgiffkjaaGreatDoor
open Go.RowKit
set_option linter.unusedVariables false
set_option linter.unusedSimpArgs false

theorem ret_int {k : IntKind} {a b : Int} (h : a = b) : Ending.returned (.int k a) = .returned (.int k b) := by rw [h]
theorem ret_bool {a b : Bool} (h : a = b) : Ending.returned (.bool a) = .returned (.bool b) := by rw [h]
theorem val_int {k : IntKind} {a b : Int} (h : a = b) : Value.int k a = .int k b := by rw [h]
theorem val_bool {a b : Bool} (h : a = b) : Value.bool a = .bool b := by rw [h]

/-- A byte as a value. -/
def bv (b : UInt8) : Value := .int .u8 (b.toNat : Int)
theorem bv_inj {a b : UInt8} (h : bv a = bv b) : a = b := by
  unfold bv at h
  injection h with _ h
  exact UInt8.toNat_inj.1 (by omega)
theorem oneCell_bv (l : List UInt8) : ∀ u ∈ l.map bv, u.oneCell' = true := by
  intro u hu
  obtain ⟨_, _, rfl⟩ := List.mem_map.1 hu
  rfl

/-- A quiet callee in a quiet region: '1': the region began in w; '2': it began in w.drewN a. -/
theorem quiet_same1 {P : Program} {f : FuncId} {args : Array Value} {w : World} {n : Nat} {v : Value} (h : Calls P f args (w.drewN n) fun e w' => e = .returned v ∧ w.drewN n = w') :
    Calls P f args (w.drewN n) fun e w' => e = .returned v ∧ ∃ m, w' = w.drewN m :=
  h.mono fun _ _ ⟨he, hm⟩ => ⟨he, n, hm.symm⟩
theorem quiet_drew1 {P : Program} {f : FuncId} {args : Array Value} {w : World} {n : Nat} {v : Value} (h : Calls P f args (w.drewN n) fun e w' => e = .returned v ∧ ∃ m, w' = (w.drewN n).drewN m) :
    Calls P f args (w.drewN n) fun e w' => e = .returned v ∧ ∃ m, w' = w.drewN m :=
  h.mono fun _ _ ⟨he, m, hm⟩ => ⟨he, n + m, by rw [hm, World.drewN_drewN]⟩
theorem quiet_same2 {P : Program} {f : FuncId} {args : Array Value} {w : World} {a n : Nat} {v : Value} (h : Calls P f args (w.drewN (a + n)) fun e w' => e = .returned v ∧ w.drewN (a + n) = w') :
    Calls P f args (w.drewN (a + n)) fun e w' => e = .returned v ∧ ∃ m, w' = w.drewN (a + m) :=
  h.mono fun _ _ ⟨he, hm⟩ => ⟨he, n, hm.symm⟩
theorem quiet_drew2 {P : Program} {f : FuncId} {args : Array Value} {w : World} {a n : Nat} {v : Value} (h : Calls P f args (w.drewN (a + n)) fun e w' => e = .returned v ∧ ∃ m, w' = (w.drewN (a + n)).drewN m) :
    Calls P f args (w.drewN (a + n)) fun e w' => e = .returned v ∧ ∃ m, w' = w.drewN (a + m) :=
  h.mono fun _ _ ⟨he, m, hm⟩ => ⟨he, n + m, by rw [hm, World.drewN_drewN, Nat.add_assoc]⟩
theorem below_drewN {B : Nat} {a w : World} (h : Below B a w) (n : Nat) : Below B a (w.drewN n) := ⟨h.os, h.tape, h.output, h.size, h.block⟩
theorem bcell {B : Nat} {W w1 : World} (hb : Below B W w1) : (∀ b o, b < B → w1.cell? ⟨b, o, none⟩ = W.cell? ⟨b, o, none⟩) ∧ (∀ b o, b < B → w1.frozen? ⟨b, o, none⟩ = W.frozen? ⟨b, o, none⟩) :=
  ⟨fun b o h => hb.cell (p := ⟨b, o, none⟩) h, fun b o h => hb.frozen (p := ⟨b, o, none⟩) h⟩

/-- The address A leads to cells that hold xs, in a block below B. Of an empty list nothing is said. -/
def Sees (w : World) (B : Nat) (A : Option Addr) (xs : List Value) : Prop :=
  xs ≠ [] → ∃ b o, A = some ⟨b, o, none⟩ ∧ b < B ∧ ∀ j u, xs[j]? = some u → w.cell? ⟨b, o + j, none⟩ = some u

section
variable {w w' : World} {B B' : Nat} {A : Option Addr} {xs : List Value}
theorem Sees.nil (w : World) (B : Nat) (A : Option Addr) : Sees w B A [] := fun h => absurd rfl h
theorem Sees.at_ {k : Nat} (h : Sees w B A xs) (hk : k < xs.length) :
    ∃ b o, A = some ⟨b, o, none⟩ ∧ b < B ∧ w.cell? ⟨b, o + k, none⟩ = some xs[k] := by
  obtain ⟨b, o, e, hb, hc⟩ := h (by intro e; rw [e] at hk; simp at hk)
  exact ⟨b, o, e, hb, hc k _ (List.getElem?_eq_getElem hk)⟩
theorem Sees.keep (h : Sees w B A xs) (hk : ∀ p : Addr, p.block < B → w'.cell? p = w.cell? p) : Sees w' B A xs := fun hn => by
  obtain ⟨b, o, e, hb, hc⟩ := h hn
  exact ⟨b, o, e, hb, fun j u hu => (hk _ hb).trans (hc j u hu)⟩
theorem Sees.more (h : Sees w B A xs) (hB : B ≤ B') : Sees w B' A xs := fun hn => by
  obtain ⟨b, o, e, hb, hc⟩ := h hn
  exact ⟨b, o, e, by omega, hc⟩
theorem Sees.below (h : Sees w B A xs) (hb : Below B w w') : Sees w' B A xs := h.keep fun _ hp => hb.cell hp
/-- Kept, and said of the new world's own size. -/
theorem Sees.on (h : Sees w w.heap.size A xs) (hb : Below w.heap.size w w') : Sees w' w'.heap.size A xs := (h.below hb).more hb.size
theorem Sees.drew (h : Sees w B A xs) : Sees w.drew B A xs := h
theorem Sees.drewN (h : Sees w B A xs) (k : Nat) : Sees (w.drewN k) B A xs := h
theorem Sees.dn (h : Sees w w.heap.size A xs) (k : Nat) : Sees (w.drewN k) (w.drewN k).heap.size A xs := h
theorem Sees.alloc (h : Sees w B A xs) (hB : B ≤ w.heap.size) (o : Obj) : Sees (w.alloc o) B A xs := h.keep fun p hp => World.cell?_alloc_lt w o p (by omega)
theorem Sees.setCell (h : Sees w B A xs) {p : Addr} (hB : B ≤ p.block) (u : Value) : Sees (w.setCell p u) B A xs :=
  h.keep fun q hq => World.cell?_setCell_other w p q u (fun e => by subst e; omega)
theorem Sees.grown (h : Sees w B A xs) {row : Option Nat} (hg : w.grownBy w' row) (hB : B ≤ w.heap.size) (hr : ∀ g, row = some g → B ≤ g) : Sees w' B A xs :=
  h.keep fun p hp => World.cell?_of_block (hg.block p.block (by omega) (fun e => by have := hr _ e.symm; omega))
theorem Sees.drop_ (h : Sees w B A xs) {k c : Nat} (hk : k ≤ xs.length) (hc : xs.length ≤ c) : Sees w B (if c = k then A else A.map (·.add k)) (xs.drop k) := fun hn => by
  have hlt : k < xs.length := by
    rcases Nat.lt_or_ge k xs.length with h | h
    · exact h
    · exact absurd (List.drop_eq_nil_of_le h) hn
  obtain ⟨b, o, rfl, hb, hcell⟩ := h (by intro e; rw [e] at hlt; simp at hlt)
  rw [if_neg (by omega)]
  refine ⟨b, o + k, by simp [Addr.add_lit], hb, fun j u hu => ?_⟩
  rw [Nat.add_assoc]
  exact hcell _ u (by rw [← hu, List.getElem?_drop])
theorem Sees.take_ (h : Sees w B A xs) (k : Nat) : Sees w B A (xs.take k) := fun hn => by
  obtain ⟨b, o, e, hb, hc⟩ := h (by intro e; rw [e] at hn; simp at hn)
  refine ⟨b, o, e, hb, fun j u hu => hc j u ?_⟩
  rw [List.getElem?_take] at hu
  split at hu
  · exact hu
  · cases hu
/-- Byte k. -/
theorem Sees.byte {l : List UInt8} {k : Nat} (h : Sees w B A (l.map bv)) (hk : k < l.length) :
    ∃ b o x, A = some ⟨b, o, none⟩ ∧ b < B ∧ Hid (l[k]? = some x) ∧ x.toNat < 256 ∧ w.cell? ⟨b, o + k, none⟩ = some (.int .u8 (x.toNat : Int)) := by
  obtain ⟨b, o, e, hb, hc⟩ := h.at_ (k := k) (by simpa using hk)
  exact ⟨b, o, l[k], e, hb, Lib.hid (List.getElem?_eq_getElem hk), UInt8.toNat_lt _, by rw [hc, List.getElem_map]; rfl⟩
theorem Sees.none_ (h : Sees w B none xs) : xs = [] := by
  cases xs with
  | nil => rfl
  | cons x l =>
    obtain ⟨_, _, e, _⟩ := h (by simp)
    cases e
/-- What the call owns reads so. -/
theorem Sees.own {base c n : Nat} {e : TypeId} {size : Nat} (h : w.ownsRow base e size (.slice A n c) n xs) (hs : 0 < size) : Sees w w.heap.size A xs := fun hn => by
  rcases h.2 with ⟨hv, h0⟩ | ⟨g, cap, cur, hv, _, hg, _⟩
  · subst h0
    exact absurd (List.eq_nil_of_length_eq_zero (by simpa using h.1)) hn
  · have hA : A = some ⟨g, 0, none⟩ := by injection hv
    subst hA
    refine ⟨g, 0, rfl, (Array.getElem?_eq_some_iff.1 hg).1, fun j u hu => ?_⟩
    have := h.cells (g := g) rfl j u hu
    rwa [Addr.add_lit] at this
end

/-! ### bits of an int that is not negative -/
theorem ofInt64_nat (a : Nat) (ha : a < 9223372036854775808) : (BitVec.ofInt 64 (a : Int)).toNat = a := by
  rw [BitVec.ofInt_natCast, BitVec.toNat_ofNat]; exact Nat.mod_eq_of_lt (by omega)
theorem i64_and_n (a b : Nat) (ha : a < 9223372036854775808) (hb : b < 9223372036854775808) : bits .and .i64 (a : Int) (b : Int) = ((a &&& b : Nat) : Int) := by
  have hx : a &&& b < 2 ^ 63 := Nat.and_lt_two_pow _ (by omega)
  show IntKind.i64.wrap ((BitVec.ofInt 64 (a : Int) &&& BitVec.ofInt 64 (b : Int)).toNat : Int) = _
  rw [BitVec.toNat_and, ofInt64_nat a ha, ofInt64_nat b hb, IntKind.wrap_i64]
  omega
theorem i64_and1 (a : Nat) (ha : a < 9223372036854775808) : bits .and .i64 (a : Int) 1 = ((a % 2 : Nat) : Int) := by
  have := i64_and_n a 1 ha (by omega)
  rw [nat_mask1] at this
  exact this

/-- Block g is the cells cs of type t, none of them frozen. -/
def Blk (w : World) (g : Nat) (t : TypeId) (cs : Array Value) : Prop := w.heap[g]? = some (.cells cs t (0, 0))
section
variable {w w' : World} {g : Nat} {t : TypeId} {cs : Array Value}
theorem Blk.lt (h : Blk w g t cs) : g < w.heap.size := (Array.getElem?_eq_some_iff.1 h).1
theorem Blk.cell (h : Blk w g t cs) (i : Nat) : w.cell? ⟨g, i, none⟩ = cs[i]? := cell_of_row w g i cs t (0, 0) h
theorem Blk.frozen (h : Blk w g t cs) (i : Nat) : w.frozen? ⟨g, i, none⟩ = false := by
  unfold Blk at h
  simp [World.frozen?, h]
theorem Blk.new (w : World) (t : TypeId) (cs : Array Value) : Blk (w.alloc (.cells cs t)) w.heap.size t cs := heap_alloc_new w _
theorem Blk.drewN (h : Blk w g t cs) (n : Nat) : Blk (w.drewN n) g t cs := h
theorem Blk.alloc (h : Blk w g t cs) (o : Obj) : Blk (w.alloc o) g t cs := (Below.heap_alloc w o g h.lt).trans h
theorem Blk.put (h : Blk w g t cs) (i : Nat) (u : Value) : Blk (w.setCell ⟨g, i, none⟩ u) g t (cs.setIfInBounds i u) := by
  unfold Blk at h ⊢
  simp [World.setCell, Array.getElem?_modify, h]
theorem Blk.far (h : Blk w g t cs) {p : Addr} (hp : g ≠ p.block) (u : Value) : Blk (w.setCell p u) g t cs := (Below.heap_setCell w p u g hp).trans h
theorem Blk.below {B : Nat} (h : Blk w g t cs) (hb : Below B w w') (hg : g < B) : Blk w' g t cs := (hb.block g hg).trans h
theorem Blk.on (h : Blk w g t cs) (hb : Below w.heap.size w w') : Blk w' g t cs := h.below hb h.lt
theorem Blk.grown {row : Option Nat} (h : Blk w g t cs) (hb : w.grownBy w' row) (hg : row ≠ some g) : Blk w' g t cs := (hb.block g h.lt (fun e => hg e.symm)).trans h
theorem Blk.apart {g' : Nat} {t' : TypeId} {cs' : Array Value} (h : Blk w g t cs) (h' : Blk w g' t' cs') (hne : t ≠ t') : g ≠ g' := by
  rintro rfl
  have e := h.symm.trans h'
  simp at e
  exact hne e.2
/-- An owned row of another type does not lie in the block. -/
theorem own_far {base : Nat} {e : TypeId} {size n : Nat} {v : Value} {xs : List Value} (h : w.ownsRow base e size v n xs) (hg : Blk w g t cs) (hne : e ≠ t) : v.ownBlock ≠ some g := by
  rcases h.2 with ⟨rfl, _⟩ | ⟨g', cap, cur, rfl, _, hh, _⟩
  · simp [Value.ownBlock]
  · intro he
    have : g' = g := by simpa [Value.ownBlock] using he
    subst this
    exact Blk.apart (t := e) hh hg hne rfl
end

/-- What is owned has the form of a slice. -/
theorem own_form {w : World} {base : Nat} {e : TypeId} {size : Nat} {v : Value} {n : Nat} {xs : List Value} (h : w.ownsRow base e size v n xs) :
    ∃ A c, v = .slice A n c ∧ n ≤ c ∧ c ≤ maxLen ∧ (∀ g, v.ownBlock = some g → base ≤ g ∧ g < w.heap.size) := by
  have hlt := h.lt
  rcases h.2 with ⟨rfl, rfl⟩ | ⟨g, cap, cur, rfl, hb, hg, hnc, hcm, _⟩
  · exact ⟨none, 0, rfl, Nat.le_refl _, by unfold maxLen; omega, hlt⟩
  · exact ⟨_, cap, rfl, hnc, hcm, hlt⟩

section
variable {P : Program} (w : World)
theorem run_append_of_none (base : Nat) (t ty e : TypeId) (i : TypeInfo) (size : Nat) (ht : P.underlying t = some (.slice e)) (hi : P.info? e = some i)
    (v : Value) (n : Nat) (xs : List Value) (hown : w.ownsRow base e size v n xs) (c : Nat) : (Builtin.append_ #[t, t] ty #[v, .slice none 0 c]).run P w = .ok v w := by
  rcases hown.2 with ⟨rfl, rfl⟩ | ⟨g, cap, cur, rfl, _, _, hnc, _⟩
  · simp [Builtin.append_, run_underlying ht, sizeOf, typeInfo, hi, Builtin.lenOf, Builtin.firstCells]
  · simp [Builtin.append_, run_underlying ht, sizeOf, typeInfo, hi, Builtin.lenOf, Builtin.firstCells, hnc, storeCells]

/-- append onto what the call owns, from whatever reads as a list. -/
theorem run_append_sees (base : Nat) (t ty e : TypeId) (i : TypeInfo) (z : Value) (size bytes : Nat) (ht : P.underlying t = some (.slice e)) (hi : P.info? e = some i) (hz : i.zero = some z)
    (hsize : i.size = size) (hby : i.bytes = bytes) (hzs : z.cells.size = size) (hsz : 0 < size)
    (v : Value) (n : Nat) (xs : List Value) (hown : w.ownsRow base e size v n xs)
    (B : Nat) (A : Option Addr) (m c : Nat) (news : List Value) (hl : news.length = m * size) (hr : Sees w B A news) (h1 : ∀ u ∈ news, u.oneCell' = true)
    (h63 : n + m ≤ maxLen) (hbytes : (n + m) * bytes ≤ 140737488355328) (hbase : base ≤ w.heap.size) :
    ∃ v' w', (Builtin.append_ #[t, t] ty #[v, .slice A m c]).run P w = .ok v' w' ∧ w'.ownsRow base e size v' (n + m) (xs ++ news) ∧ w.grownBy w' v.ownBlock ∧
      (v'.ownBlock = v.ownBlock ∨ v'.ownBlock = some w.heap.size) := by
  rcases A with _ | ad
  · have hn : news = [] := hr.none_
    subst hn
    have hm : m = 0 := by
      rcases Nat.eq_zero_or_pos m with h | h
      · exact h
      · have := Nat.mul_pos h hsz
        simp at hl; omega
    subst hm
    exact ⟨v, w, run_append_of_none w base t ty e i size ht hi v n xs hown c, by simpa using hown, World.grownBy.refl w _, .inl rfl⟩
  · have hcells : ∀ j u, news[j]? = some u → w.cell? (ad.add j) = some u := by
      intro j u hu
      obtain ⟨b, o, e, _, hc⟩ := hr (by intro e; rw [e] at hu; simp at hu)
      injection e with e
      subst e
      rw [Addr.add_lit]
      exact hc j u hu
    obtain ⟨v', w', hrun, h2, h3, _, h5⟩ := run_append_own_at (P := P) w base t ty e i z size bytes ht hi hz hsize hby hzs hsz v n xs hown ad m c news hl hcells h1 h63 hbytes hbase
    exact ⟨v', w', hrun, h2, h3, h5⟩

/-- append onto what the call owns: the new length and the new list are named by the caller. -/
theorem wp_append_sees {o : Oper} {a : Act} {K : Act → World → Prop} {Q : Exit → Act → World → Prop} (s x : Operand) (t : TypeId)
    (ho : o.op = .call { callee := .builtin .append, args := #[s, x], argTypes := #[t, t] })
    (base : Nat) (e : TypeId) (i : TypeInfo) (z : Value) (size bytes : Nat) (ht : P.underlying t = some (.slice e)) (hi : P.info? e = some i) (hz : i.zero = some z)
    (hsize : i.size = size) (hby : i.bytes = bytes) (hzs : z.cells.size = size) (hsz : 0 < size)
    (v : Value) (n : Nat) (xs : List Value) (hs : a.eval s = v) (hown : w.ownsRow base e size v n xs)
    (B : Nat) (A : Option Addr) (m c : Nat) (news : List Value) (hx : a.eval x = .slice A m c) (hl : news.length = m * size) (hr : Sees w B A news) (h1 : ∀ u ∈ news, u.oneCell' = true)
    (h63 : n + m ≤ maxLen) (hbytes : (n + m) * bytes ≤ 140737488355328) (hbase : base ≤ w.heap.size) (n' : Nat) (hn' : n + m = n') (xs' : List Value) (hxs' : xs ++ news = xs')
    (h : ∀ A' c' w', w'.ownsRow base e size (.slice A' n' c') n' xs' → w.grownBy w' v.ownBlock → ((Value.slice A' n' c').ownBlock = v.ownBlock ∨ (Value.slice A' n' c').ownBlock = some w.heap.size) →
      K (a.put o.dst (.slice A' n' c')) w') : o.wp P a w K Q := by
  obtain ⟨v', w', hrun, h2, h3, h4⟩ := run_append_sees (P := P) w base t o.type e i z size bytes ht hi hz hsize hby hzs hsz v n xs hown B A m c news hl hr h1 h63 hbytes hbase
  obtain ⟨A', c', rfl, _⟩ := own_form h2
  unfold Oper.wp execOp
  simp only [ho, resolve, invoke, builtin, Sem.run_bind, Sem.run_pure, Result.andThen_ok, List.map_toArray, List.map_cons, List.map_nil, hs, hx, hrun]
  subst hn' hxs'
  exact h A' c' w' h2 h3 h4

theorem wpList_append_sees {ops : Array Oper} {rest : List Oper} {o : Oper} {a : Act} {Q : Exit → Act → World → Prop} (hgd : o.guard = none) (s x : Operand) (t : TypeId)
    (ho : o.op = .call { callee := .builtin .append, args := #[s, x], argTypes := #[t, t] })
    (base : Nat) (e : TypeId) (i : TypeInfo) (z : Value) (size bytes : Nat) (ht : P.underlying t = some (.slice e)) (hi : P.info? e = some i) (hz : i.zero = some z)
    (hsize : i.size = size) (hby : i.bytes = bytes) (hzs : z.cells.size = size) (hsz : 0 < size)
    (v : Value) (n : Nat) (xs : List Value) (hs : a.eval s = v) (hown : w.ownsRow base e size v n xs)
    (B : Nat) (A : Option Addr) (m c : Nat) (news : List Value) (hx : a.eval x = .slice A m c) (hl : news.length = m * size) (hr : Sees w B A news) (h1 : ∀ u ∈ news, u.oneCell' = true)
    (h63 : n + m ≤ maxLen) (hbytes : (n + m) * bytes ≤ 140737488355328) (hbase : base ≤ w.heap.size) (n' : Nat) (hn' : n + m = n') (xs' : List Value) (hxs' : xs ++ news = xs')
    (h : ∀ A' c' w', w'.ownsRow base e size (.slice A' n' c') n' xs' → w.grownBy w' v.ownBlock → ((Value.slice A' n' c').ownBlock = v.ownBlock ∨ (Value.slice A' n' c').ownBlock = some w.heap.size) →
      wpList P ops Q rest (a.put o.dst (.slice A' n' c')) w') : wpList P ops Q (o :: rest) a w :=
  wpList_plain hgd fun _ hK => wp_append_sees w s x t ho base e i z size bytes ht hi hz hsize hby hzs hsz v n xs hs hown B A m c news hx hl hr h1 h63 hbytes hbase n' hn' xs' hxs' fun A' c' w' h2 h3 h4 => hK _ _ (h A' c' w' h2 h3 h4)
end

/-- The element type uint8 in the program's table. -/
theorem u8_info : (Tryz.prog.info? 5).map (fun i => (i.zero, i.size, i.bytes)) = some (some (.int .u8 0), 1, 1) := by kernel_rfl

/-- v is a slice of the call's own (in a block from base on, or nil) that holds the bytes l. -/
def OwnB (w : World) (base : Nat) (v : Value) (n : Nat) (l : List UInt8) : Prop := w.ownsRow base 5 1 v n (l.map bv)
theorem OwnB.len {w : World} {base n : Nat} {v : Value} {l : List UInt8} (h : OwnB w base v n l) : l.length = n := by have := h.1; simpa using this
theorem OwnB.sees {w : World} {base n c : Nat} {A : Option Addr} {l : List UInt8} (h : OwnB w base (.slice A n c) n l) : Sees w w.heap.size A (l.map bv) := Sees.own h (by omega)
theorem OwnB.made0 (w : World) : OwnB (w.alloc (.cells #[] 5)) w.heap.size (.slice (some ⟨w.heap.size, 0, none⟩) 0 0) 0 [] := World.ownsRow_made _ _ _ (Nat.le_refl _) (by unfold maxLen; omega) rfl
theorem OwnB.room {w : World} {base n c : Nat} {A : Option Addr} {l : List UInt8} (h : OwnB w base (.slice A n c) n l) : n ≤ c := by
  obtain ⟨A', c', e, h1, _⟩ := own_form h
  injection e with _ _ e
  omega
/-- A literal of bytes, just made. -/
theorem OwnB.lit (w : World) (cs : Array Value) (n : Nat) (l : List UInt8) (hm : n ≤ maxLen) (hl : l.length = n) (hc : cs.toList = l.map bv) :
    OwnB (w.alloc (.cells cs 5)) w.heap.size (.slice (some ⟨w.heap.size, 0, none⟩) n n) n l := by
  have h := World.ownsRow_lit (base := w.heap.size) (e := 5) (size := 1) w cs n (Nat.le_refl _) hm (by rw [← Array.length_toList, hc]; simp [hl])
  rw [hc] at h
  exact h
theorem OwnB.nil (w : World) (base : Nat) : OwnB w base (.slice none 0 0) 0 [] := World.ownsRow_nil _ _ _ _
theorem OwnB.kept {w w' : World} {base n : Nat} {v : Value} {l : List UInt8} {row : Option Nat} (h : OwnB w base v n l) (hg : w.grownBy w' row) (hne : v.ownBlock = none ∨ v.ownBlock ≠ row) : OwnB w' base v n l := World.ownsRow.kept h hg hne
/-- Kept where what lay below some B beyond it is kept. -/
theorem OwnB.below {w w' : World} {base n B : Nat} {v : Value} {l : List UInt8} (h : OwnB w base v n l) (hb : Below B w w') (hB : w.heap.size ≤ B) : OwnB w' base v n l :=
  World.ownsRow.kept (row := none) h ⟨hb.os, hb.tape, hb.output, hb.size, fun k hk _ => hb.block k (by omega)⟩ (by cases v.ownBlock <;> simp)
theorem OwnB.on {w w' : World} {base n : Nat} {v : Value} {l : List UInt8} (h : OwnB w base v n l) (hb : Below w.heap.size w w') : OwnB w' base v n l := h.below hb (Nat.le_refl _)
theorem OwnB.alloc {w : World} {base n : Nat} {v : Value} {l : List UInt8} (h : OwnB w base v n l) (o : Obj) : OwnB (w.alloc o) base v n l := World.ownsRow.alloc h o
theorem OwnB.more {w : World} {base base' n : Nat} {v : Value} {l : List UInt8} (h : OwnB w base v n l) (hb : base' ≤ base) : OwnB w base' v n l := by
  refine ⟨h.1, ?_⟩
  rcases h.2 with h | ⟨g, cap, cur, h1, h2, h3⟩
  · exact .inl h
  · exact .inr ⟨g, cap, cur, h1, by omega, h3⟩

/-- append onto bytes of the call's own, from whatever reads as bytes. -/
theorem wpL_appB (w : World) {ops : Array Oper} {rest : List Oper} {o : Oper} {a : Act} {Q : Exit → Act → World → Prop} (hgd : o.guard = none) (s x : Operand)
    (ho : o.op = .call { callee := .builtin .append, args := #[s, x], argTypes := #[22, 22] })
    (base : Nat) (v : Value) (n : Nat) (l : List UInt8) (hs : a.eval s = v) (hown : OwnB w base v n l)
    (B : Nat) (A : Option Addr) (m c : Nat) (l2 : List UInt8) (hx : a.eval x = .slice A m c) (hl : l2.length = m) (hr : Sees w B A (l2.map bv))
    (hbytes : n + m ≤ 140737488355328) (hbase : base ≤ w.heap.size) (n' : Nat) (hn' : n + m = n') (l' : List UInt8) (hl' : l ++ l2 = l')
    (h : ∀ A' c' w', OwnB w' base (.slice A' n' c') n' l' → w.grownBy w' v.ownBlock → ((Value.slice A' n' c').ownBlock = v.ownBlock ∨ (Value.slice A' n' c').ownBlock = some w.heap.size) →
      wpList Tryz.prog ops Q rest (a.put o.dst (.slice A' n' c')) w') : wpList Tryz.prog ops Q (o :: rest) a w := by
  obtain ⟨i0, hi0, hz0, hz1, hz2⟩ := info_parts u8_info
  exact wpList_append_sees w hgd s x _ ho base _ i0 _ 1 1 Tryz.underlying22 hi0 hz0 hz1 hz2 rfl (by omega) v n _ hs hown B A m c _ hx (by simpa using hl) hr (oneCell_bv l2)
    (by unfold maxLen; omega) (by omega) hbase n' hn' _ (by rw [← hl', List.map_append]) h

/-- Below base nothing has turned, behind an append onto what is owned from base on. -/
theorem below_app {base : Nat} {w0 w w' : World} {v : Value} {n : Nat} {e : TypeId} {size : Nat} {xs : List Value} (hb : Below base w0 w) (hbase : base ≤ w.heap.size) (hown : w.ownsRow base e size v n xs) (hg : w.grownBy w' v.ownBlock) : Below base w0 w' :=
  hb.grown hg hbase fun k hk => (hown.lt k hk).1

/-- One element, just laid in a block of its own. -/
theorem Sees.one (w : World) (u : Value) (t : TypeId) (g : Nat) (hg : g = w.heap.size) : Sees (w.alloc (.cells #[u] t)) (w.alloc (.cells #[u] t)).heap.size (some ⟨g, 0, none⟩) [u] := fun _ => by
  subst hg
  rw [World.size_alloc]
  refine ⟨w.heap.size, 0, rfl, by omega, fun j x hx => ?_⟩
  match j, hx with
  | 0, hx =>
    simp at hx
    subst hx
    simp
/-- A block just laid, whatever its mark. -/
theorem Sees.laid (w : World) (cs : Array Value) (t : TypeId) (m : Nat × Nat) (xs : List Value) (h : cs.toList = xs) (g : Nat) (hg : g = w.heap.size) : Sees (w.alloc (.cells cs t m)) (w.alloc (.cells cs t m)).heap.size (some ⟨g, 0, none⟩) xs := fun _ => by
  subst hg
  rw [World.size_alloc]
  refine ⟨w.heap.size, 0, rfl, by omega, fun j x hx => ?_⟩
  have e : (w.alloc (.cells cs t m)).heap[w.heap.size]? = some (.cells cs t m) := heap_alloc_new w _
  subst h
  simp only [World.cell?, e, Nat.zero_add]
  simpa using hx
/-- What is owned in rows of different element types does not lie in one row. -/
theorem own_ne {w : World} {base base' : Nat} {e e' : TypeId} {size size' : Nat} {v v' : Value} {n n' : Nat} {xs xs' : List Value} (h : w.ownsRow base e size v n xs) (h' : w.ownsRow base' e' size' v' n' xs') (hne : e ≠ e') :
    v'.ownBlock = none ∨ v'.ownBlock ≠ v.ownBlock := by
  rcases h'.2 with ⟨rfl, _⟩ | ⟨g', cap', cur', rfl, _, hg', _⟩
  · exact .inl rfl
  · right
    intro e1
    rcases h.2 with ⟨rfl, _⟩ | ⟨g, cap, cur, rfl, _, hg, _⟩
    · simp [Value.ownBlock] at e1
    · simp [Value.ownBlock] at e1
      subst e1
      rw [hg] at hg'
      simp at hg'
      exact hne hg'.2

/-- The values vs are slices of the call's own that hold the bytes ls. -/
def RowsB (w : World) (base : Nat) (vs : List Value) (ls : List (List UInt8)) : Prop :=
  vs.length = ls.length ∧ ∀ (i : Nat) (u : Value) (l : List UInt8), vs[i]? = some u → ls[i]? = some l → ∃ A n c, u = .slice A n c ∧ OwnB w base u n l
theorem RowsB.nil (w : World) (base : Nat) : RowsB w base [] [] := ⟨rfl, fun i u l h => by simp at h⟩
theorem RowsB.kept {w w' : World} {base : Nat} {vs : List Value} {ls : List (List UInt8)} {row : Option Nat} (h : RowsB w base vs ls) (hg : w.grownBy w' row) (hne : ∀ u n l, OwnB w base u n l → u.ownBlock = none ∨ u.ownBlock ≠ row) : RowsB w' base vs ls :=
  ⟨h.1, fun i u l h1 h2 => by obtain ⟨A, n, c, e, o⟩ := h.2 i u l h1 h2; exact ⟨A, n, c, e, o.kept hg (hne u n l o)⟩⟩
theorem RowsB.on {w w' : World} {base : Nat} {vs : List Value} {ls : List (List UInt8)} (h : RowsB w base vs ls) (hb : Below w.heap.size w w') : RowsB w' base vs ls :=
  ⟨h.1, fun i u l h1 h2 => by obtain ⟨A, n, c, e, o⟩ := h.2 i u l h1 h2; exact ⟨A, n, c, e, o.on hb⟩⟩
theorem RowsB.alloc {w : World} {base : Nat} {vs : List Value} {ls : List (List UInt8)} (h : RowsB w base vs ls) (o : Obj) : RowsB (w.alloc o) base vs ls :=
  ⟨h.1, fun i u l h1 h2 => by obtain ⟨A, n, c, e, x⟩ := h.2 i u l h1 h2; exact ⟨A, n, c, e, x.alloc o⟩⟩
theorem RowsB.snoc {w : World} {base : Nat} {vs : List Value} {ls : List (List UInt8)} {A : Option Addr} {n c : Nat} {l : List UInt8} (h : RowsB w base vs ls) (hu : OwnB w base (.slice A n c) n l) : RowsB w base (vs ++ [.slice A n c]) (ls ++ [l]) :=
  ⟨by simp [h.1], fun i u m h1 h2 => by
    by_cases hi : i < vs.length
    · rw [List.getElem?_append_left hi] at h1
      rw [List.getElem?_append_left (by rw [← h.1]; exact hi)] at h2
      exact h.2 i u m h1 h2
    · have hl : i < (vs ++ [Value.slice A n c]).length := (List.getElem?_eq_some_iff.1 h1).1
      obtain rfl : i = vs.length := by simp at hl; omega
      simp at h1
      rw [h.1] at h2
      simp at h2
      subst h1 h2
      exact ⟨A, n, c, rfl, hu⟩⟩

end Go.Proofs.YtcnofhlgiffkjaaGreatDoor
/- Plain facts on numbers as lists of digits, and on sets of small numbers as numbers (bit i: i is a member). No program in sight. -/
namespace Go.Proofs.YtcnofhlgiffkjaaGreatDoor
set_option linter.unusedVariables false
set_option linter.unusedSimpArgs false

/-- The n lowest digits to the base 2^t. -/
def fx (t n M : Nat) : List Nat := (List.range n).map fun k => M / 2 ^ (t * k) % 2 ^ t
theorem fx_length (t n M : Nat) : (fx t n M).length = n := by simp [fx]
theorem fx_get {t n M k : Nat} (h : k < n) : (fx t n M)[k]? = some (M / 2 ^ (t * k) % 2 ^ t) := by
  unfold fx; rw [List.getElem?_map, List.getElem?_range h]; rfl
theorem fx_lt {t n M d : Nat} (h : d ∈ fx t n M) : d < 2 ^ t := by
  unfold fx at h
  obtain ⟨k, _, rfl⟩ := List.mem_map.1 h
  exact Nat.mod_lt _ (Nat.two_pow_pos t)
theorem fx_zero (t n : Nat) : fx t n 0 = List.replicate n 0 := by
  unfold fx
  apply List.ext_getElem
  · simp
  · intro i h1 h2; simp
theorem fx_snoc (t n M : Nat) : fx t (n + 1) M = fx t n M ++ [M / 2 ^ (t * n) % 2 ^ t] := by
  unfold fx; rw [List.range_succ, List.map_append]; rfl
/-- A bit of a digit. -/
theorem word_bit (t M k r : Nat) : (M / 2 ^ (t * k) % 2 ^ t).testBit r = (decide (r < t) && M.testBit (t * k + r)) := by
  rw [Nat.testBit_mod_two_pow, Nat.testBit_div_two_pow, Nat.add_comm]
/-- Bits put into one digit. -/
theorem fx_put {t n M X s u : Nat} (hX : X < 2 ^ u) (hs : s % t + u ≤ t) (ht : 0 < t) :
    fx t n (M ||| X <<< s) = (fx t n M).set (s / t) (M / 2 ^ (t * (s / t)) % 2 ^ t ||| X <<< (s % t)) := by
  have hst : t * (s / t) + s % t = s := Nat.div_add_mod s t
  apply List.ext_getElem
  · simp [fx_length]
  · intro k h1 h2
    have hk : k < n := by simpa [fx_length] using h1
    have e1 : ∀ M', (fx t n M')[k]? = some (M' / 2 ^ (t * k) % 2 ^ t) := fun M' => fx_get hk
    rw [List.getElem_set]
    have g : ∀ M' h, (fx t n M')[k]'h = M' / 2 ^ (t * k) % 2 ^ t := fun M' h => by
      have := e1 M'
      rw [List.getElem?_eq_getElem h] at this
      injection this
    rw [g, g]
    by_cases hkk : s / t = k
    · subst hkk
      rw [if_pos rfl]
      apply Nat.eq_of_testBit_eq
      intro r
      rw [word_bit, Nat.testBit_or, Nat.testBit_or, word_bit, Nat.testBit_shiftLeft, Nat.testBit_shiftLeft]
      by_cases hr : r < t
      · simp only [hr, decide_true, Bool.true_and]
        congr 1
        by_cases h3 : s % t ≤ r
        · rw [show t * (s / t) + r - s = r - s % t by omega]
          simp [h3, show s ≤ t * (s / t) + r by omega]
        · simp [h3, show ¬ s ≤ t * (s / t) + r by omega]
      · have h3 : X.testBit (r - s % t) = false := Nat.testBit_lt_two_pow (Nat.lt_of_lt_of_le hX (Nat.pow_le_pow_right (by omega) (by omega)))
        simp [hr, h3]
    · rw [if_neg hkk]
      apply Nat.eq_of_testBit_eq
      intro r
      rw [word_bit, word_bit, Nat.testBit_or, Nat.testBit_shiftLeft]
      by_cases hr : r < t
      · simp only [hr, decide_true, Bool.true_and]
        have : (decide (s ≤ t * k + r) && X.testBit (t * k + r - s)) = false := by
          by_cases h3 : s ≤ t * k + r
          · have hb : u ≤ t * k + r - s := by
              rcases Nat.lt_or_ge k (s / t) with h | h
              · have := Nat.mul_le_mul_left t (show k + 1 ≤ s / t from h)
                rw [Nat.mul_add] at this
                omega
              · have := Nat.mul_le_mul_left t (show s / t + 1 ≤ k by omega)
                rw [Nat.mul_add] at this
                omega
            rw [Nat.testBit_lt_two_pow (Nat.lt_of_lt_of_le hX (Nat.pow_le_pow_right (by omega) hb))]
            simp
          · simp [h3]
        rw [this, Bool.or_false]
      · simp [hr]

/-- How many digits to the base 2^t a number has. -/
def len2 (t M : Nat) : Nat := if M = 0 then 0 else M.log2 / t + 1
theorem len2_zero (t : Nat) : len2 t 0 = 0 := rfl
theorem len2_le {t M n : Nat} (ht : 0 < t) : len2 t M ≤ n ↔ M < 2 ^ (t * n) := by
  unfold len2
  by_cases hM : M = 0
  · subst hM; simp [Nat.two_pow_pos]
  · rw [if_neg hM, ← Nat.log2_lt hM]
    rw [show t * n = n * t from Nat.mul_comm _ _, ← Nat.div_lt_iff_lt_mul ht]
    omega
theorem len2_pos {t M : Nat} (h : M ≠ 0) : len2 t M = M.log2 / t + 1 := by unfold len2; rw [if_neg h]
/-- The digits to the base 2^t, the lowest first; the last is not zero. -/
def dg (t M : Nat) : List Nat := fx t (len2 t M) M
theorem dg_length (t M : Nat) : (dg t M).length = len2 t M := fx_length _ _ _
theorem dg_zero (t : Nat) : dg t 0 = [] := rfl
/-- The number of digits. -/
def vl (t : Nat) : List Nat → Nat
  | [] => 0
  | d :: l => d + 2 ^ t * vl t l
theorem fx_cons (t n M : Nat) : fx t (n + 1) M = M % 2 ^ t :: fx t n (M / 2 ^ t) := by
  unfold fx
  rw [List.range_succ_eq_map, List.map_cons, List.map_map]
  congr 1
  · simp
  · apply List.map_congr_left
    intro k _
    show M / 2 ^ (t * (k + 1)) % 2 ^ t = _
    rw [Nat.mul_add, Nat.mul_one, Nat.add_comm, Nat.pow_add, Nat.div_div_eq_div_mul]
theorem vl_fx (t n M : Nat) : vl t (fx t n M) = M % 2 ^ (t * n) := by
  induction n generalizing M with
  | zero => simp [fx, vl, Nat.mod_one]
  | succ n ih =>
    rw [fx_cons, vl, ih, Nat.mul_add, Nat.mul_one, Nat.add_comm (t * n), Nat.pow_add, Nat.mod_mul]
theorem fx_vl (t : Nat) (l : List Nat) (h : ∀ d ∈ l, d < 2 ^ t) : fx t l.length (vl t l) = l := by
  induction l with
  | nil => rfl
  | cons d l ih =>
    have hd := h d List.mem_cons_self
    rw [List.length_cons, fx_cons, vl, Nat.add_mul_mod_self_left, Nat.mod_eq_of_lt hd, Nat.add_mul_div_left _ _ (Nat.two_pow_pos t), Nat.div_eq_of_lt hd, Nat.zero_add, ih (fun x hx => h x (List.mem_cons_of_mem _ hx))]
theorem vl_lt (t : Nat) (l : List Nat) (h : ∀ d ∈ l, d < 2 ^ t) : vl t l < 2 ^ (t * l.length) := by
  have := vl_fx t l.length (vl t l)
  rw [fx_vl t l h] at this
  rw [this]
  exact Nat.mod_lt _ (Nat.two_pow_pos _)
theorem vl_dg {t : Nat} (ht : 0 < t) (M : Nat) : vl t (dg t M) = M := by
  unfold dg
  rw [vl_fx, Nat.mod_eq_of_lt ((len2_le ht).1 (Nat.le_refl _))]
/-- Digits of which the last is not zero are the number's. -/
theorem dg_vl {t : Nat} (ht : 0 < t) (l : List Nat) (h : ∀ d ∈ l, d < 2 ^ t) (hl : ∀ d, l.getLast? = some d → d ≠ 0) : dg t (vl t l) = l := by
  have e : len2 t (vl t l) = l.length := by
    apply Nat.le_antisymm ((len2_le ht).2 (vl_lt t l h))
    rcases Nat.eq_zero_or_pos l.length with h0 | h0
    · omega
    · apply Nat.le_of_not_lt
      intro hlt
      have h1 : vl t l < 2 ^ (t * (l.length - 1)) := (len2_le ht).1 (by omega)
      have h2 := fx_get (t := t) (n := l.length) (M := vl t l) (k := l.length - 1) (by omega)
      rw [fx_vl t l h, ← List.getLast?_eq_getElem?, Nat.div_eq_of_lt h1] at h2
      exact hl _ h2 (by simp)
  unfold dg
  rw [e, fx_vl t l h]
theorem fx_pad {t M n : Nat} (ht : 0 < t) (h : len2 t M ≤ n) : fx t n M = dg t M ++ List.replicate (n - len2 t M) 0 := by
  have hlt := (len2_le ht).1 (Nat.le_refl (len2 t M))
  apply List.ext_getElem?
  intro k
  by_cases hk : k < len2 t M
  · rw [List.getElem?_append_left (by rw [dg_length]; exact hk), fx_get (by omega)]
    exact (fx_get hk).symm
  · rw [List.getElem?_append_right (by rw [dg_length]; omega), dg_length]
    by_cases hn : k < n
    · rw [fx_get hn, List.getElem?_replicate, if_pos (by omega), Nat.div_eq_of_lt (Nat.lt_of_lt_of_le hlt (Nat.pow_le_pow_right (by omega) (Nat.mul_le_mul_left t (by omega))))]
      simp
    · rw [List.getElem?_eq_none (by rw [fx_length]; omega), List.getElem?_eq_none (by simp; omega)]
/-- A digit of a number, zero behind the end. -/
theorem dg_at {t M k : Nat} (ht : 0 < t) : (dg t M)[k]?.getD 0 = M / 2 ^ (t * k) % 2 ^ t := by
  by_cases hk : k < len2 t M
  · unfold dg; rw [fx_get hk]; rfl
  · have hlt := (len2_le ht).1 (Nat.le_refl (len2 t M))
    rw [List.getElem?_eq_none (by rw [dg_length]; omega), Nat.div_eq_of_lt (Nat.lt_of_lt_of_le hlt (Nat.pow_le_pow_right (by omega) (Nat.mul_le_mul_left t (by omega))))]
    simp
end Go.Proofs.YtcnofhlgiffkjaaGreatDoor
/- Words for slices of uint64: what is owned, a word read and stored; the length of a number in bits. -/
namespace Go.Proofs.YtcnofhlgiffkjaaGreatDoor
open Go.RowKit
set_option linter.unusedVariables false
set_option linter.unusedSimpArgs false

/-- A word as a value. -/
def wv (x : Nat) : Value := .int .u64 (x : Int)
theorem oneCell_wv (l : List Nat) : ∀ u ∈ l.map wv, u.oneCell' = true := by
  intro u hu
  obtain ⟨_, _, rfl⟩ := List.mem_map.1 hu
  rfl
/-- Number k. -/
theorem Sees.word {w : World} {B : Nat} {A : Option Addr} {l : List Nat} {k x : Nat} (h : Sees w B A (l.map wv)) (hk : l[k]? = some x) :
    ∃ b o, A = some ⟨b, o, none⟩ ∧ b < B ∧ w.cell? ⟨b, o + k, none⟩ = some (.int .u64 (x : Int)) := by
  have hl : k < l.length := (List.getElem?_eq_some_iff.1 hk).1
  obtain ⟨b, o, e, hb, hc⟩ := h.at_ (k := k) (by simpa using hl)
  refine ⟨b, o, e, hb, ?_⟩
  rw [hc, List.getElem_map]
  rw [List.getElem?_eq_getElem hl] at hk
  injection hk with hk
  rw [hk]; rfl

/-- How many bits a number has. -/
def blen (x : Nat) : Nat := len2 1 x
theorem blen_le {x n : Nat} : blen x ≤ n ↔ x < 2 ^ n := by unfold blen; rw [len2_le (by omega), Nat.one_mul]
theorem blen_zero : blen 0 = 0 := rfl
theorem blen_div {x k : Nat} (h : 2 ^ k ≤ x) : blen x = k + blen (x / 2 ^ k) := by
  have key : ∀ n, blen x ≤ n ↔ k + blen (x / 2 ^ k) ≤ n := by
    intro n
    rcases Nat.lt_or_ge n k with hn | hn
    · constructor
      · intro h1
        have := blen_le.1 h1
        have := Nat.pow_le_pow_right (n := 2) (by omega) (Nat.le_of_lt hn)
        omega
      · intro h1; omega
    · obtain ⟨m, rfl⟩ : ∃ m, n = k + m := ⟨n - k, by omega⟩
      rw [blen_le, show (k + blen (x / 2 ^ k) ≤ k + m ↔ blen (x / 2 ^ k) ≤ m) by omega, blen_le, Nat.div_lt_iff_lt_mul (Nat.two_pow_pos k), Nat.pow_add, Nat.mul_comm]
  exact Nat.le_antisymm ((key _).2 (Nat.le_refl _)) ((key _).1 (Nat.le_refl _))
theorem blen_pos {x : Nat} (h : x ≠ 0) : blen x = x.log2 + 1 := by unfold blen; rw [len2_pos h, Nat.div_one]
end Go.Proofs.YtcnofhlgiffkjaaGreatDoor
/- What a value of type bits.Set is; the walk of Empty. -/
namespace Go.Proofs.YtcnofhlgiffkjaaGreatDoor
open Go.RowKit
set_option linter.unusedVariables false
set_option linter.unusedSimpArgs false

/-- v is the set of the bits of M. -/
def SetAt (w : World) (B : Nat) (v : Value) (M : Nat) : Prop :=
  ∃ (A : Option Addr) (n c : Nat), v = .agg #[.slice A n c] ∧ n ≤ c ∧ n ≤ 64 ∧ len2 64 M = n ∧ Sees w B A ((dg 64 M).map wv) ∧ (∀ b o, A = some ⟨b, o, none⟩ → n ≠ 0 → ∃ cs, Blk w b 70 cs)
theorem SetAt.on {w w' : World} {v : Value} {M : Nat} (h : SetAt w w.heap.size v M) (hb : Below w.heap.size w w') : SetAt w' w'.heap.size v M := by
  obtain ⟨A, n, c, e, h1, h2, h4, s, r⟩ := h
  refine ⟨A, n, c, e, h1, h2, h4, s.on hb, fun b o e h0 => ?_⟩
  obtain ⟨cs, hc⟩ := r b o e h0
  exact ⟨cs, hc.on hb⟩
theorem dg_get {t M k : Nat} (h : k < len2 t M) : (dg t M)[k]? = some (M / 2 ^ (t * k) % 2 ^ t) := fx_get h
theorem len2_eq_zero {t M : Nat} : len2 t M = 0 ↔ M = 0 := by
  unfold len2
  by_cases h : M = 0
  · simp [h]
  · simp [h]

/-- Set.Empty. -/
theorem empty_any (v : Value) (M : Nat) (w : World) (h : SetAt w w.heap.size v M) :
    Calls Tryz.prog 64 #[v] w fun e w' => e = .returned (.bool (decide (M = 0))) ∧ Below w.heap.size w w' := by
  obtain ⟨A, n, c, rfl, h1, h2, h4, s, _⟩ := h
  have e' : decide (n = 0) = decide (M = 0) := by
    rw [decide_eq_decide, ← len2_eq_zero (t := 64) (M := M), h4]
  have e2 : ((n : Int) == 0) = decide (n = 0) := by
    by_cases h : n = 0
    · subst h; rfl
    · rw [decide_eq_false h]; exact beq_false_of_ne (by omega)
  have H4 := Lib.hid h4
  clear h4
  rw [← e', ← e2]
  clear e' e2
  go_enter Tryz.func64, Tryz.ntmps64
  go_wp2_with fail
  go_ret
  exact ⟨rfl, Below.alloc (Below.refl _ _) (Nat.le_refl _) _⟩

end Go.Proofs.YtcnofhlgiffkjaaGreatDoor
/- make of bytes and of words; max of two ints. -/
namespace Go.Proofs.YtcnofhlgiffkjaaGreatDoor
open Go.RowKit
set_option linter.unusedVariables false
set_option linter.unusedSimpArgs false

/-- max of two ints, its value named by the caller. -/
theorem wpL_max2 {P : Program} (w : World) {ops : Array Oper} {rest : List Oper} {o : Oper} {a : Act} {Q : Exit → Act → World → Prop} (hgd : o.guard = none) (x y : Operand) (ts : Array TypeId)
    (ho : o.op = .call { callee := .builtin .max, args := #[x, y], argTypes := ts }) (p q : Int) (hx : a.eval x = .int .i64 p) (hy : a.eval y = .int .i64 q) (n : Int) (hn : n = max p q)
    (h : wpList P ops Q rest (a.put o.dst (.int .i64 n)) w) : wpList P ops Q (o :: rest) a w := by
  refine wpList_plain hgd fun _ hK => ?_
  have hr : (Builtin.max_ ts o.type #[.int .i64 p, .int .i64 q]).run P w = .ok (.int .i64 n) w := by
    rw [run_max_int2, hn]
    congr 2
    by_cases h : q > p
    · rw [if_pos h]; omega
    · rw [if_neg h]; omega
  unfold Oper.wp execOp
  simp only [ho, resolve, invoke, builtin, Sem.run_bind, Sem.run_pure, Result.andThen_ok, List.map_toArray, List.map_cons, List.map_nil, hx, hy, hr]
  exact hK _ _ h

/-- make of n one-cell elements: a block just laid. -/
theorem wpL_make1 {P : Program} (w : World) {ops : Array Oper} {rest : List Oper} {o : Oper} {a : Act} {Q : Exit → Act → World → Prop}
    (hg : o.guard = none) (l c : Operand) (t : TypeId) (hop : o.op = Op.makeSlice t l c)
    (e : TypeId) (i : TypeInfo) (z : Value) (h1 : P.underlying t = some (.slice e)) (h2 : P.info? e = some i) (h3 : i.zero = some z) (h4 : i.size = 1) (h5 : i.bytes ≤ 8) (h6 : z.cells = #[z])
    (kl kc : IntKind) (L C : Int) (n : Nat) (hl : a.eval l = .int kl L) (hc : a.eval c = .int kc C) (hL : L = (n : Int)) (hC : C = (n : Int)) (b : n ≤ 1000000000)
    (hK : ∀ w', Hid (Blk w' w.heap.size e (List.replicate n z).toArray) → Below w.heap.size w w' → Hid (w'.heap.size = w.heap.size + 1) → wpList P ops Q rest (a.put o.dst (.slice (some ⟨w.heap.size, 0, none⟩) n n)) w') :
    wpList P ops Q (o :: rest) a w := by
  refine wpList_plain hg fun K hK' => ?_
  have hb : (i.bytes : Int) * (n : Int) ≤ 281474976710656 := by
    have h : i.bytes * n ≤ 8 * 1000000000 := Nat.mul_le_mul h5 b
    have h' : ((i.bytes * n : Nat) : Int) ≤ 281474976710656 := by omega
    rwa [Int.natCast_mul] at h'
  have hrun := run_make (P := P) w t e i z h1 h2 h3 kl kc n n (by omega) (Int.le_refl _) hb (by omega)
  subst hL
  subst hC
  unfold Oper.wp
  simp only [Int.toNat_natCast] at hrun
  simp [execOp, hop, hl, hc, hrun, Result.andThen]
  refine hK' _ _ (hK _ ?_ ((Below.refl _ _).alloc (Nat.le_refl _) _) (by show _ = _; simp))
  show _ = _
  rw [heap_alloc_new, h4, Nat.mul_one, h6]
  congr 2
  exact Array.toList_inj.1 (by rw [toList_madeCells_one])

theorem u64_info : (Tryz.prog.info? 70).map (fun i => (i.zero, i.size, i.bytes)) = some (some (.int .u64 0), 1, 8) := by kernel_rfl
/-- make([]uint64, n). -/
theorem wpL_mkW (w : World) {ops : Array Oper} {rest : List Oper} {o : Oper} {a : Act} {Q : Exit → Act → World → Prop}
    (hg : o.guard = none) (l c : Operand) (hop : o.op = Op.makeSlice 27 l c) (L C : Int) (n : Nat) (hl : a.eval l = .int .i64 L) (hc : a.eval c = .int .i64 C) (hL : L = (n : Int)) (hC : C = (n : Int)) (b : n ≤ 1000000000)
    (hK : ∀ w', Hid (Blk w' w.heap.size 70 ((List.replicate n 0).map wv).toArray) → Below w.heap.size w w' → Hid (w'.heap.size = w.heap.size + 1) → wpList Tryz.prog ops Q rest (a.put o.dst (.slice (some ⟨w.heap.size, 0, none⟩) n n)) w') :
    wpList Tryz.prog ops Q (o :: rest) a w := by
  obtain ⟨i0, hi0, hz0, hz1, hz2⟩ := info_parts u64_info
  refine wpL_make1 w hg l c _ hop _ i0 _ Tryz.underlying27 hi0 hz0 hz1 (by omega) rfl .i64 .i64 L C n hl hc hL hC b fun w' h1 h2 h3 => hK w' ?_ h2 h3
  rw [List.map_replicate]; exact h1
/-- make([]byte, n). -/
theorem wpL_mkB (w : World) {ops : Array Oper} {rest : List Oper} {o : Oper} {a : Act} {Q : Exit → Act → World → Prop}
    (hg : o.guard = none) (l c : Operand) (hop : o.op = Op.makeSlice 22 l c) (L C : Int) (n : Nat) (hl : a.eval l = .int .i64 L) (hc : a.eval c = .int .i64 C) (hL : L = (n : Int)) (hC : C = (n : Int)) (b : n ≤ 1000000000)
    (hK : ∀ w', Hid (Blk w' w.heap.size 5 ((List.replicate n 0).map bv).toArray) → Below w.heap.size w w' → Hid (w'.heap.size = w.heap.size + 1) → wpList Tryz.prog ops Q rest (a.put o.dst (.slice (some ⟨w.heap.size, 0, none⟩) n n)) w') :
    wpList Tryz.prog ops Q (o :: rest) a w := by
  obtain ⟨i0, hi0, hz0, hz1, hz2⟩ := info_parts u8_info
  refine wpL_make1 w hg l c _ hop _ i0 _ Tryz.underlying22 hi0 hz0 hz1 (by omega) rfl .i64 .i64 L C n hl hc hL hC b fun w' h1 h2 h3 => hK w' ?_ h2 h3
  rw [List.map_replicate]; exact h1

/-- A block of words reads so. -/
theorem Blk.sees {w : World} {g : Nat} {t : TypeId} {xs : List Value} (h : Blk w g t xs.toArray) : Sees w w.heap.size (some ⟨g, 0, none⟩) xs := fun _ =>
  ⟨g, 0, rfl, h.lt, fun j v hj => by
    rw [Nat.zero_add, h.cell]
    simpa using hj⟩
theorem Blk.wset {w : World} {g : Nat} {t : TypeId} {l : List Nat} (h : Blk w g t (l.map wv).toArray) (k x : Nat) : Blk (w.setCell ⟨g, k, none⟩ (.int .u64 (x : Int))) g t ((l.set k x).map wv).toArray := by
  have := h.put k (.int .u64 (x : Int))
  rw [List.map_set]
  simpa [wv] using this
theorem Blk.bset {w : World} {g : Nat} {t : TypeId} {l : List UInt8} (h : Blk w g t (l.map bv).toArray) (k : Nat) (x : UInt8) : Blk (w.setCell ⟨g, k, none⟩ (.int .u8 (x.toNat : Int))) g t ((l.set k x).map bv).toArray := by
  have := h.put k (.int .u8 (x.toNat : Int))
  rw [List.map_set]
  simpa [bv] using this
theorem Blk.wcell {w : World} {g : Nat} {t : TypeId} {l : List Nat} {k x : Nat} (h : Blk w g t (l.map wv).toArray) (hk : l[k]? = some x) : w.cell? ⟨g, k, none⟩ = some (.int .u64 (x : Int)) := by
  rw [h.cell]; simp [hk, wv]
/-- copy of words into words just made. -/
theorem wpL_copyW (w : World) {ops : Array Oper} {rest : List Oper} {o : Oper} {a : Act} {Q : Exit → Act → World → Prop} (hgd : o.guard = none) (d s : Operand)
    (ho : o.op = .call { callee := .builtin .copy, args := #[d, s], argTypes := #[27, 27] }) (g n' c' n c : Nat) (A : Option Addr) (l : List Nat)
    (hd : a.eval d = .slice (some ⟨g, 0, none⟩) n' c') (hs : a.eval s = .slice A n c) (hl : l.length = n) (hn : n ≤ n')
    (hG : Blk w g 70 ((List.replicate n' 0).map wv).toArray) (B' : Nat) (hS : Sees w B' A (l.map wv)) (B : Nat) (w0 : World) (hb : Below B w0 w) (hBg : B ≤ g)
    (h : ∀ w', Hid (Blk w' g 70 ((l ++ List.replicate (n' - n) 0).map wv).toArray) → Below B w0 w' → wpList Tryz.prog ops Q rest (a.put o.dst (goInt n)) w') :
    wpList Tryz.prog ops Q (o :: rest) a w := by
  have hlm : (l.map wv).length = n := by rw [List.length_map, hl]
  refine wpList_copy_splice hgd d s _ _ ho _ Tryz.underlying27 (by kernel_rfl) _ _ _ _ _ _ hd hs g 0 ((List.replicate n' 0).map wv) _ hG (l.map wv) ?_ ?_ ?_ (oneCell_wv _) B w0 hb hBg ?_
  · rw [hlm]; exact (Nat.min_eq_left hn).symm
  · intro hpos
    obtain ⟨b, o, hA, hb, hcs⟩ := hS (by intro e; rw [e] at hpos; exact absurd hpos (Nat.lt_irrefl 0))
    exact ⟨rfl, ⟨b, o, none⟩, hA, fun j v hj => by
      have := hcs j v hj
      by_cases e : j = 0
      · subst e; simpa [Addr.add] using this
      · simpa [Addr.add, e] using this⟩
  · rw [hlm, List.length_map, List.length_replicate]; omega
  · intro w' G b
    rw [hlm]
    refine h w' ?_ b
    have G := Hid.out G
    refine (show Blk _ _ _ _ from ?_)
    have e : splice ((List.replicate n' 0).map wv) 0 (l.map wv) = (l ++ List.replicate (n' - n) 0).map wv := by
      unfold splice
      rw [hlm, List.map_append]
      simp
    rw [← e]
    exact G
end Go.Proofs.YtcnofhlgiffkjaaGreatDoor
/- Bits put into a set; results that are sets. -/
namespace Go.Proofs.YtcnofhlgiffkjaaGreatDoor
open Go.RowKit
set_option linter.unusedVariables false
set_option linter.unusedSimpArgs false

theorem or_lt_iff {M i k : Nat} : M ||| 1 <<< i < 2 ^ k ↔ M < 2 ^ k ∧ i < k := by
  constructor
  · intro h
    refine ⟨Nat.lt_of_le_of_lt Nat.left_le_or h, ?_⟩
    have h1 : 1 <<< i < 2 ^ k := Nat.lt_of_le_of_lt Nat.right_le_or h
    rw [Nat.shiftLeft_eq, Nat.one_mul] at h1
    exact (Nat.pow_lt_pow_iff_right (by omega)).1 h1
  · rintro ⟨h1, h2⟩
    refine Nat.or_lt_two_pow h1 ?_
    rw [Nat.shiftLeft_eq, Nat.one_mul]
    exact (Nat.pow_lt_pow_iff_right (by omega)).2 h2
theorem or_len (M i : Nat) : len2 64 (M ||| 1 <<< i) = max (len2 64 M) (i / 64 + 1) := by
  have key : ∀ k, len2 64 (M ||| 1 <<< i) ≤ k ↔ max (len2 64 M) (i / 64 + 1) ≤ k := by
    intro k
    rw [len2_le (by omega), or_lt_iff, ← len2_le (by omega)]
    omega
  exact Nat.le_antisymm ((key _).2 (Nat.le_refl _)) ((key _).1 (Nat.le_refl _))
theorem or_same {M i : Nat} (h : M.testBit i = true) : M ||| 1 <<< i = M := by
  apply Nat.eq_of_testBit_eq
  intro j
  rw [Nat.testBit_or, Nat.shiftLeft_eq, Nat.one_mul, Nat.testBit_two_pow]
  by_cases e : i = j
  · subst e; simp [h]
  · simp [e]

/-- The words of a set with a further member. -/
theorem fx_bit (n M i : Nat) : fx 64 n (M ||| 1 <<< i) = (fx 64 n M).set (i / 64) (M / 2 ^ (64 * (i / 64)) % 2 ^ 64 ||| 1 <<< (i % 64)) :=
  fx_put (t := 64) (X := 1) (u := 1) (by omega) (by omega) (by omega)

/-- A block of words is a set, if there are as many as the set has. -/
theorem SetAt.blk {w : World} {g n M : Nat} (h : Blk w g 70 ((fx 64 n M).map wv).toArray) (hn : len2 64 M = n) (h64 : n ≤ 64) : SetAt w w.heap.size (.agg #[.slice (some ⟨g, 0, none⟩) n n]) M := by
  refine ⟨_, n, n, rfl, Nat.le_refl _, h64, hn, ?_, fun b o e _ => ?_⟩
  · unfold dg; rw [hn]; exact h.sees
  · injection e with e
    injection e with e
    subst e
    exact ⟨_, h⟩

/-- A result that is a set, read from its cell. -/
theorem ret_set {fn : Func} {R : Ending → World → Prop} {a : Act} {w : World} {p : Tmp} (h : fn.results = #[.cell p 63]) (g : Nat) (u : Value) (hp : a.tmps.getD p undef = .pointer (some ⟨g, 0, none⟩))
    (hb : Blk w g 63 #[u]) (hd : a.defers = []) (hR : R (.returned (.agg #[u])) w) : bodyPost Tryz.prog fn R .ret a w :=
  bodyPost_ret (results_cell_row h _ w g _ _ _ _ hp hb Tryz.underlying63 rfl (by kernel_rfl)) hd hR

theorem bit_u64 {k : Nat} (h : k < 64) : ∃ p : Nat, Hid (p = 1 <<< k) ∧ p < 18446744073709551616 ∧ IntKind.u64.wrap ((2 : Int) ^ k) = (p : Int) := by
  have h1 : 2 ^ k < 2 ^ 64 := Nat.pow_lt_pow_right (by omega) h
  refine ⟨2 ^ k, Lib.hid (by rw [Nat.shiftLeft_eq, Nat.one_mul]), by omega, ?_⟩
  generalize hp : 2 ^ k = p at h1
  have e : (2 : Int) ^ k = (p : Int) := by rw [← hp]; simp
  rw [e, IntKind.wrap_u64]
  omega

end Go.Proofs.YtcnofhlgiffkjaaGreatDoor
/- slices.Clone at []byte. -/
namespace Go.Proofs.YtcnofhlgiffkjaaGreatDoor
open Go.RowKit
set_option linter.unusedVariables false
set_option linter.unusedSimpArgs false

/-- slices.Clone: a slice of the call's own with the same bytes. -/
theorem clone_any (A : Option Addr) (n c : Nat) (l : List UInt8) (w : World) (h : Sees w w.heap.size A (l.map bv)) (hn : l.length = n) (hb : n ≤ 140737488355328) :
    Calls Tryz.prog 76 #[.slice A n c] w fun e w' => ∃ A' c', e = .returned (.slice A' n c') ∧ OwnB w' w.heap.size (.slice A' n c') n l ∧ Below w.heap.size w w' := by
  have h1 := fun w => Lib.run_eql_slice_nil (P := Tryz.prog) w 22 5 A n c 0 0 Tryz.underlying22
  rcases A with _ | ad
  · go_enter Tryz.func76, Tryz.ntmps76
    go_wp2_with fail
    go_ret
    have := h.none_
    simp at this; subst this
    subst hn
    exact ⟨none, 0, rfl, OwnB.nil _ _, Below.refl _ _⟩
  · go_enter Tryz.func76, Tryz.ntmps76
    go_wp2_with (at_builtin; refine wpL_appB _ rfl (.tmp 5) (.tmp 6) rfl w.heap.size _ 0 [] rfl (OwnB.made0 _) w.heap.size (some ad) n c l rfl hn (h.alloc (Nat.le_refl _) _) (by omega) (by simp) n (by omega) l rfl ?_; intro A' c' w1 hown hg _)
    go_ret
    exact ⟨A', c', rfl, hown, below_app ((Below.refl _ _).alloc (Nat.le_refl _) _) (by simp) (OwnB.made0 w) hg⟩

theorem take_next {α : Type} {l m : List α} {k : Nat} {x : α} (h : l.take k = m.take k) (hl : l[k]? = some x) (hm : m[k]? = some x) : l.take (k + 1) = m.take (k + 1) := by
  rw [List.take_add_one, List.take_add_one, h, hl, hm]

end Go.Proofs.YtcnofhlgiffkjaaGreatDoor
/- Plain: the words and the bytes of a set. -/
namespace Go.Proofs.YtcnofhlgiffkjaaGreatDoor
open Go.RowKit
set_option linter.unusedVariables false
set_option linter.unusedSimpArgs false

theorem dg_inj {M1 M2 : Nat} (h : dg 64 M1 = dg 64 M2) : M1 = M2 := by
  rw [← vl_dg (t := 64) (by omega) M1, h, vl_dg (by omega)]
theorem dg_some {M k n : Nat} (hn : len2 64 M = n) (hk : k < n) : ∃ x, (dg 64 M)[k]? = some x ∧ x < 18446744073709551616 :=
  ⟨_, dg_get (by rw [hn]; exact hk), Nat.mod_lt _ (by omega)⟩

/-- The bytes of a set. -/
def sbytes (M : Nat) : List UInt8 := (dg 8 M).map UInt8.ofNat
theorem sbytes_length (M : Nat) : (sbytes M).length = len2 8 M := by unfold sbytes; rw [List.length_map, dg_length]
theorem sbyte (M k : Nat) : M / 2 ^ (8 * k) % 2 ^ 8 = (M / 2 ^ (64 * (k / 8)) % 2 ^ 64) / 2 ^ (8 * (k % 8)) % 2 ^ 8 := by
  apply Nat.eq_of_testBit_eq
  intro j
  rw [Nat.testBit_mod_two_pow, Nat.testBit_mod_two_pow, Nat.testBit_div_two_pow, Nat.testBit_div_two_pow, Nat.testBit_mod_two_pow, Nat.testBit_div_two_pow]
  by_cases hj : j < 8
  · have e1 : j + 8 * (k % 8) < 64 := by omega
    have e2 : j + 8 * k = j + 8 * (k % 8) + 64 * (k / 8) := by omega
    simp [hj, e1, e2]
  · simp [hj]
theorem sbytes_get {M k n x : Nat} (hn : len2 8 M = n) (hk : k < n) (hx : M / 2 ^ (64 * (k / 8)) % 2 ^ 64 = x) : (sbytes M)[k]? = some (UInt8.ofNat (x / 2 ^ (8 * (k % 8)))) := by
  unfold sbytes
  rw [List.getElem?_map, dg_get (by rw [hn]; exact hk), sbyte, hx]
  refine congrArg some (UInt8.toNat_inj.1 ?_)
  simp
theorem take_put {α : Type} {l m : List α} {k : Nat} {x : α} (h : l.take k = m.take k) (hm : m[k]? = some x) (hl : k < l.length) : (l.set k x).take (k + 1) = m.take (k + 1) := by
  refine take_next ?_ (List.getElem?_set_self hl) hm
  rw [List.take_set_of_le (Nat.le_refl _)]
  exact h
theorem len2_8_64 (M : Nat) : len2 64 M = (len2 8 M + 7) / 8 := by
  by_cases h : M = 0
  · subst h; rfl
  · rw [len2_pos h, len2_pos h]; omega

theorem u8_shr (x m : Nat) : (x : Int) / 2 ^ m % 256 = ((UInt8.ofNat (x / 2 ^ m)).toNat : Int) := by
  simp
/-- A block of bytes is owned. -/
theorem OwnB.ofBlk {w : World} {g n base : Nat} {l : List UInt8} (h : Blk w g 5 (l.map bv).toArray) (hl : l.length = n) (hm : n ≤ maxLen) (hb : base ≤ g) : OwnB w base (.slice (some ⟨g, 0, none⟩) n n) n l :=
  ⟨by simp [hl], .inr ⟨g, n, (l.map bv).toArray, rfl, hb, h, Nat.le_refl _, hm, by simp [hl], List.take_of_length_le (by simp [hl])⟩⟩

end Go.Proofs.YtcnofhlgiffkjaaGreatDoor
/- Words for slices of int: what is owned, an element read, an append of one number. -/
namespace Go.Proofs.YtcnofhlgiffkjaaGreatDoor
open Go.RowKit
set_option linter.unusedVariables false
set_option linter.unusedSimpArgs false

/-- An int as a value. -/
def iv (z : Int) : Value := .int .i64 z
theorem iv_inj {a b : Int} (h : iv a = iv b) : a = b := by unfold iv at h; injection h
theorem oneCell_iv (l : List Int) : ∀ u ∈ l.map iv, u.oneCell' = true := by
  intro u hu
  obtain ⟨_, _, rfl⟩ := List.mem_map.1 hu
  rfl
theorem int_info : (Tryz.prog.info? 3).map (fun i => (i.zero, i.size, i.bytes)) = some (some (.int .i64 0), 1, 8) := by kernel_rfl
/-- Number k. -/
theorem Sees.int {w : World} {B : Nat} {A : Option Addr} {l : List Int} {k : Nat} (h : Sees w B A (l.map iv)) (hk : k < l.length) :
    ∃ b o z, A = some ⟨b, o, none⟩ ∧ b < B ∧ Hid (l[k]? = some z) ∧ w.cell? ⟨b, o + k, none⟩ = some (.int .i64 z) := by
  obtain ⟨b, o, e, hb, hc⟩ := h.at_ (k := k) (by simpa using hk)
  exact ⟨b, o, l[k], e, hb, Lib.hid (List.getElem?_eq_getElem hk), by rw [hc, List.getElem_map]; rfl⟩

/-- v is a slice of the call's own that holds the numbers l. -/
def OwnI (w : World) (base : Nat) (v : Value) (n : Nat) (l : List Int) : Prop := w.ownsRow base 3 1 v n (l.map iv)
theorem OwnI.len {w : World} {base n : Nat} {v : Value} {l : List Int} (h : OwnI w base v n l) : l.length = n := by have := h.1; simpa using this
theorem OwnI.sees {w : World} {base n c : Nat} {A : Option Addr} {l : List Int} (h : OwnI w base (.slice A n c) n l) : Sees w w.heap.size A (l.map iv) := Sees.own h (by omega)
theorem OwnI.nil (w : World) (base : Nat) : OwnI w base (.slice none 0 0) 0 [] := World.ownsRow_nil _ _ _ _
theorem OwnI.kept {w w' : World} {base n : Nat} {v : Value} {l : List Int} {row : Option Nat} (h : OwnI w base v n l) (hg : w.grownBy w' row) (hne : v.ownBlock = none ∨ v.ownBlock ≠ row) : OwnI w' base v n l := World.ownsRow.kept h hg hne
theorem OwnI.on {w w' : World} {base n : Nat} {v : Value} {l : List Int} (h : OwnI w base v n l) (hb : Below w.heap.size w w') : OwnI w' base v n l :=
  World.ownsRow.kept (row := none) h ⟨hb.os, hb.tape, hb.output, hb.size, fun k hk _ => hb.block k hk⟩ (by cases v.ownBlock <;> simp)
theorem OwnI.alloc {w : World} {base n : Nat} {v : Value} {l : List Int} (h : OwnI w base v n l) (o : Obj) : OwnI (w.alloc o) base v n l := World.ownsRow.alloc h o
theorem OwnI.room {w : World} {base n c : Nat} {A : Option Addr} {l : List Int} (h : OwnI w base (.slice A n c) n l) : n ≤ c := by
  obtain ⟨A', c', e, h1, _⟩ := own_form h
  injection e with _ _ e
  omega
theorem OwnI.more {w : World} {base base' n : Nat} {v : Value} {l : List Int} (h : OwnI w base v n l) (hb : base' ≤ base) : OwnI w base' v n l := by
  refine ⟨h.1, ?_⟩
  rcases h.2 with h | ⟨g, cap, cur, h1, h2, h3⟩
  · exact .inl h
  · exact .inr ⟨g, cap, cur, h1, by omega, h3⟩
/-- A literal of numbers, just made. -/
theorem OwnI.lit (w : World) (cs : Array Value) (n : Nat) (l : List Int) (hm : n ≤ maxLen) (hl : l.length = n) (hc : cs.toList = l.map iv) (g : Nat) (hg : g = w.heap.size) :
    OwnI (w.alloc (.cells cs 3)) w.heap.size (.slice (some ⟨g, 0, none⟩) n n) n l := by
  subst hg
  have h := World.ownsRow_lit (base := w.heap.size) (e := 3) (size := 1) w cs n (Nat.le_refl _) hm (by rw [← Array.length_toList, hc]; simp [hl])
  rw [hc] at h
  exact h

/-- append of numbers onto numbers of the call's own. -/
theorem wpL_appI (w : World) {ops : Array Oper} {rest : List Oper} {o : Oper} {a : Act} {Q : Exit → Act → World → Prop} (hgd : o.guard = none) (s x : Operand)
    (ho : o.op = .call { callee := .builtin .append, args := #[s, x], argTypes := #[30, 30] })
    (base : Nat) (v : Value) (n : Nat) (l : List Int) (hs : a.eval s = v) (hown : OwnI w base v n l)
    (B : Nat) (A : Option Addr) (m c : Nat) (l2 : List Int) (hx : a.eval x = .slice A m c) (hl : l2.length = m) (hr : Sees w B A (l2.map iv))
    (hbytes : n + m ≤ 1000000000000) (hbase : base ≤ w.heap.size) (n' : Nat) (hn' : n + m = n') (l' : List Int) (hl' : l ++ l2 = l')
    (h : ∀ A' c' w', OwnI w' base (.slice A' n' c') n' l' → w.grownBy w' v.ownBlock → ((Value.slice A' n' c').ownBlock = v.ownBlock ∨ (Value.slice A' n' c').ownBlock = some w.heap.size) →
      wpList Tryz.prog ops Q rest (a.put o.dst (.slice A' n' c')) w') : wpList Tryz.prog ops Q (o :: rest) a w := by
  obtain ⟨i0, hi0, hz0, hz1, hz2⟩ := info_parts int_info
  exact wpList_append_sees w hgd s x _ ho base _ i0 _ 1 8 Tryz.underlying30 hi0 hz0 hz1 hz2 rfl (by omega) v n _ hs hown B A m c _ hx (by simpa using hl) hr (oneCell_iv l2)
    (by unfold maxLen; omega) (by omega) hbase n' hn' _ (by rw [← hl', List.map_append]) h
/-- append of one number, which lies in a block just made. -/
theorem wpL_appI1 (w : World) {ops : Array Oper} {rest : List Oper} {o : Oper} {a : Act} {Q : Exit → Act → World → Prop} (hgd : o.guard = none) (s x : Operand)
    (ho : o.op = .call { callee := .builtin .append, args := #[s, x], argTypes := #[30, 30] })
    (w0 : World) (base : Nat) (v : Value) (n : Nat) (l : List Int) (hs : a.eval s = v) (hown : OwnI w0 base v n l) (z : Int) (hw : w = w0.alloc (.cells #[.int .i64 z] 3)) (g : Nat) (hg : g = w0.heap.size)
    (hx : a.eval x = .slice (some ⟨g, 0, none⟩) 1 1) (hbytes : n + 1 ≤ 1000000000) (hbase : base ≤ w0.heap.size) (n' : Nat) (hn' : n + 1 = n')
    (h : ∀ A' c' w', OwnI w' base (.slice A' n' c') n' (l ++ [z]) → w0.grownBy w' v.ownBlock → Below base w0 w' →
      wpList Tryz.prog ops Q rest (a.put o.dst (.slice A' n' c')) w') : wpList Tryz.prog ops Q (o :: rest) a w := by
  subst hw
  have hz : base ≤ (w0.alloc (.cells #[.int .i64 z] 3)).heap.size := by simp; omega
  refine wpL_appI _ hgd s x ho base v n l hs (hown.alloc _) _ _ 1 1 [z] hx rfl (Sees.one w0 _ 3 g hg) (by omega) hz n' hn' _ rfl ?_
  intro A' c' w' h1 h2 h3
  exact h A' c' w' h1 ⟨h2.os, h2.tape, h2.output, Nat.le_trans (by simp) h2.size, fun k hk hne => (h2.block k (by simp; omega) hne).trans (Below.heap_alloc w0 _ k hk)⟩ (below_app ((Below.refl _ _).alloc hbase _) hz (hown.alloc _) h2)

/-- min of two ints, its value named by the caller. -/
theorem wpL_min2 {P : Program} (w : World) {ops : Array Oper} {rest : List Oper} {o : Oper} {a : Act} {Q : Exit → Act → World → Prop} (hgd : o.guard = none) (x y : Operand) (ts : Array TypeId)
    (ho : o.op = .call { callee := .builtin .min, args := #[x, y], argTypes := ts }) (p q : Int) (hx : a.eval x = .int .i64 p) (hy : a.eval y = .int .i64 q) (n : Int) (hn : n = min p q)
    (h : wpList P ops Q rest (a.put o.dst (.int .i64 n)) w) : wpList P ops Q (o :: rest) a w := by
  refine wpList_plain hgd fun _ hK => ?_
  have hr : (Builtin.min_ ts o.type #[.int .i64 p, .int .i64 q]).run P w = .ok (.int .i64 n) w := by
    rw [run_min_int2, hn]
    congr 2
    by_cases h : q < p
    · rw [if_pos h]; omega
    · rw [if_neg h]; omega
  unfold Oper.wp execOp
  simp only [ho, resolve, invoke, builtin, Sem.run_bind, Sem.run_pure, Result.andThen_ok, List.map_toArray, List.map_cons, List.map_nil, hx, hy, hr]
  exact hK _ _ h
end Go.Proofs.YtcnofhlgiffkjaaGreatDoor
/- An append of bytes as one step of a region that draws its order. -/
namespace Go.Proofs.YtcnofhlgiffkjaaGreatDoor
open Go.RowKit
set_option linter.unusedVariables false
set_option linter.unusedSimpArgs false

theorem step_append_sees {P : Program} (w : World) {ops : Array Oper} {o : Oper} {a : Act} {K : Act → World → Prop} {Q : Exit → Act → World → Prop} {E : Prop} (hgd : o.guard = none) (s x : Operand) (t : TypeId)
    (ho : o.op = .call { callee := .builtin .append, args := #[s, x], argTypes := #[t, t] })
    (base : Nat) (e : TypeId) (i : TypeInfo) (z : Value) (size bytes : Nat) (ht : P.underlying t = some (.slice e)) (hi : P.info? e = some i) (hz : i.zero = some z)
    (hsize : i.size = size) (hby : i.bytes = bytes) (hzs : z.cells.size = size) (hsz : 0 < size)
    (v : Value) (n : Nat) (xs : List Value) (hs : a.eval s = v) (hown : w.ownsRow base e size v n xs)
    (B : Nat) (A : Option Addr) (m c : Nat) (news : List Value) (hx : a.eval x = .slice A m c) (hl : news.length = m * size) (hr : Sees w B A news) (h1 : ∀ u ∈ news, u.oneCell' = true)
    (h63 : n + m ≤ maxLen) (hbytes : (n + m) * bytes ≤ 140737488355328) (hbase : base ≤ w.heap.size) (n' : Nat) (hn' : n + m = n') (xs' : List Value) (hxs' : xs ++ news = xs')
    (h : ∀ A' c' w', w'.ownsRow base e size (.slice A' n' c') n' xs' → w.grownBy w' v.ownBlock → ((Value.slice A' n' c').ownBlock = v.ownBlock ∨ (Value.slice A' n' c').ownBlock = some w.heap.size) →
      K (a.put o.dst (.slice A' n' c')) w') : if Region.wanted o (yielded ops a.tmps) = true then Oper.wp P o a w K Q else E := by
  have hw : Region.wanted o (yielded ops a.tmps) = true := by simp [Region.wanted, hgd]
  rw [if_pos hw]
  exact wp_append_sees w s x t ho base e i z size bytes ht hi hz hsize hby hzs hsz v n xs hs hown B A m c news hx hl hr h1 h63 hbytes hbase n' hn' xs' hxs' h

theorem step_appB (w : World) {ops : Array Oper} {o : Oper} {a : Act} {K : Act → World → Prop} {Q : Exit → Act → World → Prop} {E : Prop} (hgd : o.guard = none) (s x : Operand)
    (ho : o.op = .call { callee := .builtin .append, args := #[s, x], argTypes := #[22, 22] })
    (base : Nat) (v : Value) (n : Nat) (l : List UInt8) (hs : a.eval s = v) (hown : OwnB w base v n l)
    (B : Nat) (A : Option Addr) (m c : Nat) (l2 : List UInt8) (hx : a.eval x = .slice A m c) (hl : l2.length = m) (hr : Sees w B A (l2.map bv))
    (hbytes : n + m ≤ 140737488355328) (hbase : base ≤ w.heap.size) (n' : Nat) (hn' : n + m = n') (l' : List UInt8) (hl' : l ++ l2 = l')
    (h : ∀ A' c' w', OwnB w' base (.slice A' n' c') n' l' → w.grownBy w' v.ownBlock → ((Value.slice A' n' c').ownBlock = v.ownBlock ∨ (Value.slice A' n' c').ownBlock = some w.heap.size) →
      K (a.put o.dst (.slice A' n' c')) w') : if Region.wanted o (yielded ops a.tmps) = true then Oper.wp Tryz.prog o a w K Q else E := by
  obtain ⟨i0, hi0, hz0, hz1, hz2⟩ := info_parts u8_info
  exact step_append_sees w hgd s x _ ho base _ i0 _ 1 1 Tryz.underlying22 hi0 hz0 hz1 hz2 rfl (by omega) v n _ hs hown B A m c _ hx (by simpa using hl) hr (oneCell_bv l2)
    (by unfold maxLen; omega) (by omega) hbase n' hn' _ (by rw [← hl', List.map_append]) h
end Go.Proofs.YtcnofhlgiffkjaaGreatDoor
