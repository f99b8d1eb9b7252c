/- The walk of the laws' put. -/
import Derived.Test.YtfbdfpnmopgkoaaDoorLawA
import Derived.Test.YtfbdfpnmopgkoaaDoorWireH
namespace Go.Proofs.YtfbdfpnmopgkoaaDoor
open Go.RowKit
set_option linter.unusedVariables false
set_option linter.unusedSimpArgs false

/-- What a walk is told of a Value to write. -/
structure ValIn (w : World) (B : Nat) (k u : Nat) (s : Int) (A : Option Addr) (n c : Nat) (b : List UInt8) : Prop where
  kind : k < 256
  num : u < 18446744073709551616
  lo : -9223372036854775808 ≤ s
  hi : s ≤ 9223372036854775807
  sees : Sees w B A (b.map bv)
  len : b.length = n
  cap : n ≤ c
  max : c ≤ 9223372036854775807
/-- The value. -/
def valV (k u : Nat) (s : Int) (A : Option Addr) (n c : Nat) : Value := .agg #[.int .u8 (k : Int), .int .u64 (u : Int), .int .i64 s, .slice A n c]
/-- Its encoding. -/
def encV (k u : Nat) (s : Int) (b : List UInt8) : List UInt8 :=
  if k % 7 = 0 then enc u else if k % 7 = 1 then enc (zig s) else if k % 7 = 2 ∨ k % 7 = 3 then enc (b.take 300).length ++ b.take 300 else if k % 7 = 4 then encF (decide (u % 2 = 1)) else if k % 7 = 5 then b.take 300 else srec (ofL (mems (b.take 300)))

theorem Blk.mvd {w w' : World} {k g : Nat} {r : Option Nat} {t : TypeId} {cs : Array Value} (h : Blk w k t cs) (m : Mvd w w' g r) (hk : k ≠ g) (hr : r ≠ some k) : Blk w' k t cs := (m.block k h.lt hk hr).trans h
theorem Sees.mvd {w w' : World} {B g : Nat} {A : Option Addr} {xs : List Value} {r : Option Nat} (h : Sees w B A xs) (hB : B ≤ w.heap.size) (m : Mvd w w' g r) (hg : B ≤ g) (hr : ∀ k, r = some k → B ≤ k) : Sees w' B A xs := h.below (m.below hB hg hr)
theorem mem64 (l : List UInt8) : len2 64 (ofL (mems l)) ≤ 64 := by
  have hlt := ofL_lt (mems l) (64 * 64) (fun i hi => by have := mems_lt l i hi; omega)
  rw [len2_le (t := 64) (n := 64) (by omega)]
  exact hlt
theorem beq_par {u : Nat} : (((u : Int) % 2) == 1) = decide (u % 2 = 1) := by
  by_cases h : u % 2 = 1
  · rw [decide_eq_true h]; rw [show (u : Int) % 2 = 1 by omega]; rfl
  · rw [decide_eq_false h]; exact beq_false_of_ne (by omega)

set_option maxHeartbeats 4000000 in
set_option maxRecDepth 100000 in
/-- put. -/
theorem lput_any (base g : Nat) (v : Value) (L : List UInt8) (k u : Nat) (s : Int) (A : Option Addr) (n c : Nat) (b : List UInt8) (w : World) (h : WrAt w base g v L) (hbg : base ≤ g) (hL : L.length ≤ 600000000) (hv : ValIn w base k u s A n c b) :
    Calls Tryd.prog 13 #[.pointer (some ⟨g, 0, none⟩), valV k u s A n c] w fun e w' => ∃ A' n' c', e = .returned (.slice A' n' c') ∧ n' ≤ 10000 ∧ Hid ((encV k u s b).length = n') ∧ Sees w' w'.heap.size A' ((encV k u s b).map bv) ∧ ∃ v', WrAt w' base g v' (L ++ encV k u s b) ∧ Mvd w w' g v.ownBlock ∧ NewRow w v v' := by
  obtain ⟨hk, hu, s1, s2, hs, hn, hc, hm⟩ := hv
  have hgl := h.blk.lt
  have hbox := Blk.new w 40 #[.int .u8 (k : Int), .int .u64 (u : Int), .int .i64 s, .slice A n c]
  have b1 : Below w.heap.size w (w.alloc (.cells #[.int .u8 (k : Int), .int .u64 (u : Int), .int .i64 s, .slice A n c] 40)) := (Below.refl _ _).alloc (Nat.le_refl _) _
  have h1 := h.on b1
  have hown : ∀ k, v.ownBlock = some k → base ≤ k := fun k hk => (h.own.lt k hk).1
  have hvb : v.ownBlock ≠ some w.heap.size := fun e => by have := (h.own.lt _ e).2; omega
  obtain ⟨m, hmm⟩ : ∃ m, m = min n 300 := ⟨_, rfl⟩
  have hm3 : m ≤ 300 := by omega
  obtain ⟨b', hb'⟩ : ∃ b', Hid (b' = b.take 300) := ⟨_, Lib.hid rfl⟩
  have hml := Lib.hid (show b'.length = m by rw [hb'.out, List.length_take, hn, hmm]; omega)
  have hbase := h.base
  have sb0 : Sees w base A (b'.map bv) := by rw [hb'.out, List.map_take]; exact hs.take_ 300
  have sb1 : Sees (w.alloc (.cells #[.int .u8 (k : Int), .int .u64 (u : Int), .int .i64 s, .slice A n c] 40)) base A (b'.map bv) := sb0.below (b1.mono hbase)
  have hsh := fun W => short_any A n c W hc hm
  rw [← hmm] at hsh
  have Hmm := Lib.hid hmm
  clear hmm hn
  unfold valV
  have fin : ∀ (w2 w3 : World) (v2 : Value) (E : List UInt8), WrAt w2 base g v2 (L ++ E) → Mvd (w.alloc (.cells #[.int .u8 (k : Int), .int .u64 (u : Int), .int .i64 s, .slice A n c] 40)) w2 g v.ownBlock → NewRow (w.alloc (.cells #[.int .u8 (k : Int), .int .u64 (u : Int), .int .i64 s, .slice A n c] 40)) v v2 → Below w2.heap.size w2 w3 → ∃ v', WrAt w3 base g v' (L ++ E) ∧ Mvd w w3 g v.ownBlock ∧ NewRow w v v' := fun w2 w3 v2 E h2 m2 r2 b3 =>
    ⟨v2, h2.on b3, ((Mvd.ofBelow b1 g _).trans (.inl rfl) m2).trans (NewRow.trans (.inl rfl) b1.size r2) (Mvd.ofBelow b3 g _), NewRow.trans (.inl rfl) b1.size r2⟩
  generalize hW1 : (w.alloc (.cells #[.int .u8 (k : Int), .int .u64 (u : Int), .int .i64 s, .slice A n c] 40)) = w1 at hbox b1 h1 sb1 fin
  have hz1 := b1.size
  have box : ∀ W, Blk W w.heap.size 40 #[.int .u8 (k : Int), .int .u64 (u : Int), .int .i64 s, .slice A n c] → W.cell? ⟨w.heap.size, 0, none⟩ = some (.int .u8 (k : Int)) ∧ W.cell? ⟨w.heap.size, 1, none⟩ = some (.int .u64 (u : Int)) ∧ W.cell? ⟨w.heap.size, 2, none⟩ = some (.int .i64 s) ∧ W.cell? ⟨w.heap.size, 3, none⟩ = some (.slice A n c) := fun W hb => ⟨(hb.cell 0).trans rfl, (hb.cell 1).trans rfl, (hb.cell 2).trans rfl, (hb.cell 3).trans rfl⟩
  have box2 : ∀ (w2 : World), Mvd w1 w2 g v.ownBlock → Blk w2 w.heap.size 40 #[.int .u8 (k : Int), .int .u64 (u : Int), .int .i64 s, .slice A n c] := fun w2 m2 => hbox.mvd m2 (by omega) hvb
  have hk7 : k % 7 = 0 ∨ k % 7 = 1 ∨ k % 7 = 2 ∨ k % 7 = 3 ∨ k % 7 = 4 ∨ k % 7 = 5 ∨ k % 7 = 6 := by omega
  have hfar : ∀ b0 o0, A = some ⟨b0, o0, none⟩ → b' ≠ [] → b0 ≠ g ∧ v.ownBlock ≠ some b0 := (fun b0 o0 e0 hne => by
    obtain ⟨b9, o9, e9, hb9, _⟩ := sb0 (by intro e; exact hne (List.map_eq_nil_iff.1 e))
    rw [e9] at e0
    injection e0 with e0
    injection e0 with e0
    subst e0
    exact ⟨by omega, fun e => by have := hown _ e; omega⟩)
  rcases hk7 with e7 | e7 | e7 | e7 | e7 | e7 | e7
  · have hki : (k : Int) % 7 = 0 := by omega
    have hE : encV k u s b = enc u := by unfold encV; rw [if_pos e7]
    rw [hE]
    clear hE e7
    go_enter Tryd.func13, Tryd.ntmps13
    obtain ⟨x0, x1, x2, x3⟩ := box w1 hbox
    clear hbox
    go_wp2_with fail
    refine (hsh w1).mono ?_
    rintro e w1' ⟨rfl, rfl⟩
    go_wp2_with fail
    refine (wUint_any base g v L u w1 h1 hu (by omega)).mono ?_
    rintro e w2 ⟨rfl, v2, h2, m2, r2⟩
    obtain ⟨y0, y1, y2, y3⟩ := box w2 (box2 w2 m2)
    have hz2 := m2.size
    go_wp2_with fail
    refine (put_any u w2 hu).mono ?_
    rintro e w3 ⟨A3, n3, c3, rfl, o3, b3⟩
    go_wp2_with fail
    go_ret
    exact ⟨A3, n3, c3, rfl, (by have := o3.len; have := enc_len hu; omega), Lib.hid o3.len, o3.sees, fin w2 w3 v2 _ h2 m2 r2 b3⟩
  · have hki : (k : Int) % 7 = 1 := by omega
    have hE : encV k u s b = enc (zig s) := by unfold encV; rw [if_neg (by omega), if_pos e7]
    rw [hE]
    clear hE e7
    go_enter Tryd.func13, Tryd.ntmps13
    obtain ⟨x0, x1, x2, x3⟩ := box w1 hbox
    clear hbox
    go_wp2_with fail
    refine (hsh w1).mono ?_
    rintro e w1' ⟨rfl, rfl⟩
    go_wp2_with fail
    refine (wInt_any base g v L s w1 h1 s1 s2 (by omega)).mono ?_
    rintro e w2 ⟨rfl, v2, h2, m2, r2⟩
    obtain ⟨y0, y1, y2, y3⟩ := box w2 (box2 w2 m2)
    have hz2 := m2.size
    go_wp2_with fail
    refine (putInt_any s w2 s1 s2).mono ?_
    rintro e w3 ⟨A3, n3, c3, rfl, o3, b3⟩
    go_wp2_with fail
    go_ret
    exact ⟨A3, n3, c3, rfl, (by have := o3.len; have := enc_len (zig_lt s1 s2); omega), Lib.hid o3.len, o3.sees, fin w2 w3 v2 _ h2 m2 r2 b3⟩
  · have hst := run_str w1 base A m c b' sb1 hml.out
    have hws := wString_any base g v L b' w1 h1 (by rw [hml.out]; omega)
    rw [hml.out] at hws
    have hki : (k : Int) % 7 = 2 := by omega
    have hE : encV k u s b = enc m ++ b' := by unfold encV; rw [if_neg (by omega), if_neg (by omega), if_pos (by omega), ← hb'.out, hml.out]
    rw [hE]
    clear hE e7
    go_enter Tryd.func13, Tryd.ntmps13
    obtain ⟨x0, x1, x2, x3⟩ := box w1 hbox
    clear hbox
    go_wp2_with fail
    refine (hsh w1).mono ?_
    rintro e w1' ⟨rfl, rfl⟩
    go_wp2_with fail
    refine (hws).mono ?_
    rintro e w2 ⟨rfl, v2, h2, m2, r2⟩
    obtain ⟨y0, y1, y2, y3⟩ := box w2 (box2 w2 m2)
    have hz2 := m2.size
    go_wp2_with fail
    refine (putBytes_any A m c b' w2 ((sb1.mvd (Nat.le_trans hbase hz1) m2 hbg hown).more (Nat.le_trans (Nat.le_trans hbase hz1) hz2)) hml.out (by omega)).mono ?_
    rintro e w3 ⟨A3, n3, c3, rfl, o3, b3⟩
    go_wp2_with fail
    go_ret
    exact ⟨A3, n3, c3, rfl, (by have := o3.len; rw [List.length_append, hml.out] at this; have := enc_len (v := m) (by omega); omega), Lib.hid o3.len, o3.sees, fin w2 w3 v2 _ h2 m2 r2 b3⟩
  · have hki : (k : Int) % 7 = 3 := by omega
    have hE : encV k u s b = enc m ++ b' := by unfold encV; rw [if_neg (by omega), if_neg (by omega), if_pos (by omega), ← hb'.out, hml.out]
    rw [hE]
    clear hE e7
    go_enter Tryd.func13, Tryd.ntmps13
    obtain ⟨x0, x1, x2, x3⟩ := box w1 hbox
    clear hbox
    go_wp2_with fail
    refine (hsh w1).mono ?_
    rintro e w1' ⟨rfl, rfl⟩
    go_wp2_with fail
    refine (wBytes_any base g v L A m c b' w1 h1 (sb1.more (Nat.le_trans hbase hz1)) hml.out (by omega) hfar).mono ?_
    rintro e w2 ⟨rfl, v2, h2, m2, r2⟩
    obtain ⟨y0, y1, y2, y3⟩ := box w2 (box2 w2 m2)
    have hz2 := m2.size
    go_wp2_with fail
    refine (putBytes_any A m c b' w2 ((sb1.mvd (Nat.le_trans hbase hz1) m2 hbg hown).more (Nat.le_trans (Nat.le_trans hbase hz1) hz2)) hml.out (by omega)).mono ?_
    rintro e w3 ⟨A3, n3, c3, rfl, o3, b3⟩
    go_wp2_with fail
    go_ret
    exact ⟨A3, n3, c3, rfl, (by have := o3.len; rw [List.length_append, hml.out] at this; have := enc_len (v := m) (by omega); omega), Lib.hid o3.len, o3.sees, fin w2 w3 v2 _ h2 m2 r2 b3⟩
  · have hki : (k : Int) % 7 = 4 := by omega
    have hE : encV k u s b = encF (decide (u % 2 = 1)) := by unfold encV; rw [if_neg (by omega), if_neg (by omega), if_neg (by omega), if_pos e7]
    rw [hE]
    clear hE e7
    go_enter Tryd.func13, Tryd.ntmps13
    obtain ⟨x0, x1, x2, x3⟩ := box w1 hbox
    clear hbox
    go_wp2_with fail
    refine (hsh w1).mono ?_
    rintro e w1' ⟨rfl, rfl⟩
    go_wp2_with fail
    simp only [beq_par]
    refine (wFlag_any base g v L _ w1 h1 (by omega)).mono ?_
    rintro e w2 ⟨rfl, v2, h2, m2, r2⟩
    obtain ⟨y0, y1, y2, y3⟩ := box w2 (box2 w2 m2)
    have hz2 := m2.size
    go_wp2_with fail
    simp only [beq_par]
    refine (putFlag_any _ w2).mono ?_
    rintro e w3 ⟨A3, n3, c3, rfl, o3, b3⟩
    go_wp2_with fail
    go_ret
    exact ⟨A3, n3, c3, rfl, (by have := o3.len; unfold encF at this; simp at this; omega), Lib.hid o3.len, o3.sees, fin w2 w3 v2 _ h2 m2 r2 b3⟩
  · have hki : (k : Int) % 7 = 5 := by omega
    have hE : encV k u s b = b' := by unfold encV; rw [if_neg (by omega), if_neg (by omega), if_neg (by omega), if_neg (by omega), if_pos e7, ← hb'.out]
    rw [hE]
    clear hE e7
    go_enter Tryd.func13, Tryd.ntmps13
    obtain ⟨x0, x1, x2, x3⟩ := box w1 hbox
    clear hbox
    go_wp2_with fail
    refine (hsh w1).mono ?_
    rintro e w1' ⟨rfl, rfl⟩
    go_wp2_with fail
    refine (raw_any base g v L A m c b' w1 h1 (sb1.more (Nat.le_trans hbase hz1)) hml.out (by omega)).mono ?_
    rintro e w2 ⟨rfl, v2, h2, m2, r2⟩
    obtain ⟨y0, y1, y2, y3⟩ := box w2 (box2 w2 m2)
    have hz2 := m2.size
    go_wp2_with fail
    go_ret
    exact ⟨A, m, c, rfl, by omega, hml, (sb1.mvd (Nat.le_trans hbase hz1) m2 hbg hown).more (Nat.le_trans (Nat.le_trans hbase hz1) hz2), fin w2 w2 v2 _ h2 m2 r2 (Below.refl _ _)⟩
  · have hki : (k : Int) % 7 = 6 := by omega
    have hE : encV k u s b = srec (ofL (mems b')) := by unfold encV; rw [if_neg (by omega), if_neg (by omega), if_neg (by omega), if_neg (by omega), if_neg (by omega), ← hb'.out]
    rw [hE]
    clear hE e7
    go_enter Tryd.func13, Tryd.ntmps13
    obtain ⟨x0, x1, x2, x3⟩ := box w1 hbox
    clear hbox
    go_wp2_with fail
    refine (hsh w1).mono ?_
    rintro e w1' ⟨rfl, rfl⟩
    go_wp2_with fail
    refine (members_any A m c b' w1 (sb1.more (Nat.le_trans hbase hz1)) hml.out).mono ?_
    rintro e wa ⟨Aa, na, ca, rfl, hna, oa, ba⟩
    have hla := Lib.hid (show (mems b').length = na by have := oa.len; simpa [cst] using this)
    have sa : Sees wa wa.heap.size Aa (niv (mems b')) := oa.sees
    go_wp2_with fail
    refine (of_any Aa na ca (mems b') wa sa hla.out (mems_lt b') (by omega)).mono ?_
    rintro e wb ⟨vb, rfl, hsb, bb⟩
    have bab := ba.trans (bb.mono ba.size)
    go_wp2_with fail
    refine (wSet_any base g v vb L _ wb (h1.on bab) hsb (by omega)).mono ?_
    rintro e w2 ⟨rfl, v2, h2, m2', r2'⟩
    have h2 : WrAt w2 base g v2 (L ++ srec (ofL (mems b'))) := h2
    have m2 : Mvd w1 w2 g v.ownBlock := (Mvd.ofBelow bab g _).trans (.inl rfl) m2'
    have r2 : NewRow w1 v v2 := NewRow.trans (.inl rfl) bab.size r2'
    have hz2 := m2.size
    go_wp2_with fail
    refine (members_any A m c b' w2 ((sb1.mvd (Nat.le_trans hbase hz1) m2 hbg hown).more (Nat.le_trans (Nat.le_trans hbase hz1) hz2)) hml.out).mono ?_
    rintro e wc ⟨Ac, nc, cc, rfl, hnc, oc, bc⟩
    have hlc := Lib.hid (show (mems b').length = nc by have := oc.len; simpa [cst] using this)
    have sc : Sees wc wc.heap.size Ac (niv (mems b')) := oc.sees
    go_wp2_with fail
    refine (putSet_any Ac nc cc (mems b') wc sc hlc.out (mems_lt b') (by omega)).mono ?_
    rintro e w3 ⟨A3, n3, c3, rfl, o3, b3'⟩
    have b3 := bc.trans (b3'.mono bc.size)
    go_wp2_with fail
    go_ret
    exact ⟨A3, n3, c3, rfl, (by have := o3.len; have := srec_len (mem64 b'); omega), Lib.hid o3.len, o3.sees, fin w2 w3 v2 _ h2 m2 r2 b3⟩
end Go.Proofs.YtfbdfpnmopgkoaaDoor
