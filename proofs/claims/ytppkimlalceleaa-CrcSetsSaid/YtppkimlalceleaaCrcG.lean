/- The walks of the two scans. -/
import Derived.Test.YtppkimlalceleaaCrcE
import Derived.Test.YtppkimlalceleaaInts
namespace Go.Proofs.Ytppkimlalceleaa
open Go.RowKit CrcLaw
set_option linter.unusedVariables false
set_option linter.unusedSimpArgs false

theorem bs_info : (Try.prog.info? 22).map (fun i => (i.zero, i.size, i.bytes)) = some (some (.slice none 0 0), 1, 24) := by kernel_rfl
/-- v is a slice of the call's own that holds the slices vs, which hold the bytes ls. -/
def OwnBB (w : World) (base : Nat) (v : Value) (n : Nat) (vs : List Value) (ls : List (List UInt8)) : Prop := w.ownsRow base 22 1 v n vs ∧ RowsB w base vs ls
theorem OwnBB.nil (w : World) (base : Nat) : OwnBB w base (.slice none 0 0) 0 [] [] := ⟨World.ownsRow_nil _ _ _ _, RowsB.nil _ _⟩
theorem OwnBB.len {w : World} {base n : Nat} {v : Value} {vs : List Value} {ls : List (List UInt8)} (h : OwnBB w base v n vs ls) : vs.length = n ∧ ls.length = n := by
  have h1 : vs.length = n := by simpa using h.1.1
  exact ⟨h1, by rw [← h.2.1, h1]⟩
theorem OwnBB.on {w w' : World} {base n : Nat} {v : Value} {vs : List Value} {ls : List (List UInt8)} (h : OwnBB w base v n vs ls) (hb : Below w.heap.size w w') : OwnBB w' base v n vs ls :=
  ⟨World.ownsRow.kept (row := none) h.1 ⟨hb.os, hb.tape, hb.output, hb.size, fun k hk _ => hb.block k hk⟩ (by cases v.ownBlock <;> simp), h.2.on hb⟩

/-- append of one slice of bytes of the call's own. -/
theorem wpL_appBB (w : World) {ops : Array Oper} {rest : List Oper} {o : Oper} {a : Act} {Q : Exit → Act → World → Prop} (hgd : o.guard = none) (s x : Operand)
    (ho : o.op = .call { callee := .builtin .append, args := #[s, x], argTypes := #[40, 40] })
    (w0 : World) (base : Nat) (v : Value) (n : Nat) (vs : List Value) (ls : List (List UInt8)) (hs : a.eval s = v) (hown : OwnBB w0 base v n vs ls)
    (A : Option Addr) (m c : Nat) (l : List UInt8) (hu : OwnB w0 base (.slice A m c) m l) (hw : w = w0.alloc (.cells #[.slice A m c] 22)) (g : Nat) (hg : g = w0.heap.size)
    (hx : a.eval x = .slice (some ⟨g, 0, none⟩) 1 1) (hbytes : n + 1 ≤ 1000000000000) (hbase : base ≤ w0.heap.size) (n' : Nat) (hn' : n + 1 = n')
    (h : ∀ A' c' w' vs', OwnBB w' base (.slice A' n' c') n' vs' (ls ++ [l]) → Below base w0 w' →
      wpList Try.prog ops Q rest (a.put o.dst (.slice A' n' c')) w') : wpList Try.prog ops Q (o :: rest) a w := by
  subst hw
  obtain ⟨i0, hi0, hz0, hz1, hz2⟩ := info_parts bs_info
  have h1 : (w0.alloc (.cells #[.slice A m c] 22)).ownsRow base 22 1 v n vs := World.ownsRow.alloc hown.1 _
  have hz : base ≤ (w0.alloc (.cells #[.slice A m c] 22)).heap.size := by simp; omega
  refine wpList_append_sees _ hgd s x _ ho base _ i0 _ 1 24 Try.underlying40 hi0 hz0 hz1 hz2 rfl (by omega) v n _ hs h1 _ _ 1 1 _ hx (by simp) (Sees.one w0 _ 22 g hg) (by simp [Value.oneCell'])
    (by unfold maxLen; omega) (by omega) hz n' hn' _ rfl ?_
  intro A' c' w' hw' hgr _
  have hR : RowsB (w0.alloc (.cells #[.slice A m c] 22)) base (vs ++ [.slice A m c]) (ls ++ [l]) := (hown.2.snoc hu).alloc _
  exact h A' c' w' _ ⟨hw', hR.kept hgr fun u k l' hl => own_ne h1 hl (by decide)⟩ (below_app ((Below.refl _ _).alloc hbase _) hz h1 hgr)

/-- crc.Scan. -/
theorem scan_any (A : Option Addr) (n cap : Nat) (l : List UInt8) (w : World) (h : Sees w w.heap.size A (l.map bv)) (hn : l.length = n) (hc : n ≤ cap) (hb : n ≤ 100000000) :
    Calls Try.prog 24 #[.slice A n cap] w fun e w' => ∃ A' k c' g vs ls, e = .returned (.tuple #[.slice A' k c', .int .i64 (g : Nat)]) ∧ k ≤ n ∧ g ≤ n ∧ Hid (Scanned l ls) ∧ Hid ((flat ls).length = g) ∧ OwnBB w' w.heap.size (.slice A' k c') k vs ls ∧ Below w.heap.size w w' := by
  have Hn := Lib.hid hn; clear hn
  go_enter Try.func24, Try.ntmps24
  go_wp2_with fail
  go_loopw [2, 3] (fun v2 v3 wr => ∃ (A2 : Option Addr) (k c2 g : Nat) (vs : List Value) (ls : List (List UInt8)) (r : List UInt8), v2 = .slice A2 k c2 ∧ v3 = .int .i64 (g : Nat) ∧ 8 * k ≤ g ∧ g ≤ n ∧ OwnBB wr w.heap.size (.slice A2 k c2) k vs ls ∧ Below w.heap.size w wr ∧
      Hid (l = flat ls ++ r) ∧ Hid ((flat ls).length = g) ∧ Hid (∀ p ∈ ls, p.length ≤ 9000)) (fun _ v3 _ => n - (intOf v3).toNat)
  case atStart => exact ⟨none, 0, 0, 0, [], [], l, rfl, rfl, by omega, by omega, OwnBB.nil _ _, Below.refl _ _, Lib.hid rfl, Lib.hid rfl, Lib.hid (by simp)⟩
  case round =>
    obtain ⟨A2, k, c2, g, vs, ls, r, rfl, rfl, hk, hg, hown, hB, Hl, Hg, Hp⟩ := hrel
    have Hr := Lib.hid (show r = l.drop g by rw [Hl.out]; exact (List.drop_left' Hg.out).symm)
    have sd : Sees wr wr.heap.size (if cap = g then A else A.map (·.add g)) (r.map bv) := by
      rw [Hr.out, List.map_drop]; exact (h.on hB).drop_ (by simp [Hn.out]; omega) (by simp [Hn.out]; omega)
    have Hrl := Lib.hid (show r.length = n - g by rw [Hr.out]; simp [Hn.out])
    have f1 : (0 : Int) ≤ (g : Int) := by omega
    have f2 : (g : Int) ≤ (n : Int) := by omega
    by_cases hf : IsFrame r
    · obtain ⟨p, r', hp9, hpr⟩ := (frame_at r).1 hf
      have h8 : 8 + p.length ≤ r.length := by rw [hpr, List.length_append, frameOf_length]; omega
      rw [Hrl.out] at h8
      obtain ⟨e1, e2, e3⟩ := frame_parts p r' hp9
      rw [← hpr] at e1 e2 e3
      obtain ⟨m, hm⟩ : ∃ m, p.length = m := ⟨_, rfl⟩
      rw [hm] at e1 e2 h8 hp9
      have E1 := Lib.hid e1; have E2 := Lib.hid e2; have Hm := Lib.hid hm; have Hpr := Lib.hid hpr; clear e1 e2 e3 hm hpr
      rw [if_neg (by omega)] at sd
      go_wp2_with fail
      refine (next_yes _ (n - g) (cap - g) r _ sd Hrl.out (by omega) (by omega) hf m E1.out).mono ?_
      rintro e w1 ⟨A3, c3, rfl, o3, b3⟩
      rw [E2.out] at o3
      have b13 : Below w.heap.size w w1 := hB.trans (b3.mono hB.size)
      have ow1 : OwnBB w1 w.heap.size (.slice A2 k c2) k vs ls := hown.on b3
      have o3' : OwnB w1 w.heap.size (.slice A3 m c3) m p := o3.more hB.size
      have hz1 := b13.size
      clear hf
      go_wp2_with (at_builtin; refine wpL_appBB _ rfl (.tmp 19) (.tmp 21) rfl w1 w.heap.size _ k vs ls rfl ow1 A3 m c3 p o3' rfl _ (by rfl) rfl (by omega) hz1 (k + 1) rfl ?_; intro A4 c4 w4 vs4 o4 b4)
      go_roundw
      case rel =>
        refine ⟨A4, k + 1, c4, g + (8 + m), vs4, ls ++ [p], r', rfl, by go_num, by omega, by omega, o4, b13.trans b4, Lib.hid ?_, Lib.hid ?_, Lib.hid ?_⟩
        · rw [flat_snoc, List.append_assoc, ← Hpr.out]; exact Hl.out
        · rw [flat_snoc, List.length_append, frameOf_length, Hg.out, Hm.out]
        · intro q hq
          rcases List.mem_append.1 hq with h | h
          · exact Hp.out q h
          · rw [List.mem_singleton.1 h, Hm.out]; exact hp9
      case measure => simp [intOf]; omega
    · by_cases hcg : cap = g
      · rw [if_pos hcg] at sd
        obtain rfl : n = g := by omega
        have Hr0 := Lib.hid (show r.length = 0 by rw [Hrl.out]; omega)
        subst hcg
        go_wp2_with fail
        refine (next_no A 0 0 r _ sd Hr0.out (by omega) (by omega) hf).mono ?_
        rintro e w1 ⟨rfl, q, rfl⟩
        go_wp2_with fail
        go_ret2
        exact ⟨A2, k, c2, _, vs, ls, rfl, by omega, by omega, Lib.hid ⟨Hp.out, r, Hl.out, hf⟩, Hg, hown.on (below_drewN (Below.refl _ _) q), below_drewN hB q⟩
      · rw [if_neg hcg] at sd
        go_wp2_with fail
        refine (next_no _ _ _ r _ sd Hrl.out (by omega) (by omega) hf).mono ?_
        rintro e w1 ⟨rfl, q, rfl⟩
        go_wp2_with fail
        go_ret2
        exact ⟨A2, k, c2, _, vs, ls, rfl, by omega, by omega, Lib.hid ⟨Hp.out, r, Hl.out, hf⟩, Hg, hown.on (below_drewN (Below.refl _ _) q), below_drewN hB q⟩

/-- The lengths of the frames of payloads. -/
def lens (ls : List (List UInt8)) : List Int := ls.map fun p => ((8 + p.length : Nat) : Int)

/-- arbacref04.Scan. -/
theorem rscan_any (A : Option Addr) (n cap : Nat) (l : List UInt8) (w : World) (h : Sees w w.heap.size A (l.map bv)) (hn : l.length = n) (hc : n ≤ cap) (hb : n ≤ 100000000) :
    Calls Try.prog 29 #[.slice A n cap] w fun e w' => ∃ A' k c' ls, e = .returned (.slice A' k c') ∧ Hid (Scanned l ls) ∧ OwnI w' w.heap.size (.slice A' k c') k (lens ls) ∧ Below w.heap.size w w' := by
  have Hn := Lib.hid hn; clear hn
  go_enter Try.func29, Try.ntmps29
  go_wp2_with fail
  go_loopw [0, 3] (fun v0 v3 wr => ∃ (A1 : Option Addr) (n1 c1 : Nat) (A2 : Option Addr) (k c2 : Nat) (ls : List (List UInt8)) (r : List UInt8), v0 = .slice A1 n1 c1 ∧ v3 = .slice A2 k c2 ∧ n1 ≤ c1 ∧ n1 + k ≤ n ∧ Sees wr w.heap.size A1 (r.map bv) ∧ Hid (r.length = n1) ∧
      OwnI wr w.heap.size (.slice A2 k c2) k (lens ls) ∧ Below w.heap.size w wr ∧ Hid (l = flat ls ++ r) ∧ Hid (∀ p ∈ ls, p.length ≤ 9000)) (fun v0 _ _ => match v0 with | .slice _ m _ => m | _ => 0)
  case atStart => exact ⟨A, n, cap, none, 0, 0, [], l, rfl, rfl, hc, by omega, h, Hn, OwnI.nil _ _, Below.refl _ _, Lib.hid rfl, Lib.hid (by simp)⟩
  case round =>
    obtain ⟨A1, n1, c1, A2, k, c2, ls, r, rfl, rfl, hc1, hk, sr, Hr, hown, hB, Hl, Hp⟩ := hrel
    have sr' := sr.more hB.size
    by_cases hf : IsFrame r
    · obtain ⟨p, r', hp9, hpr⟩ := (frame_at r).1 hf
      obtain ⟨e1, e2, e3⟩ := frame_parts p r' hp9
      rw [← hpr] at e1 e2 e3
      have h8 : 8 + p.length ≤ r.length := by rw [hpr, List.length_append, frameOf_length]; omega
      rw [Hr.out] at h8
      obtain ⟨m, hm⟩ : ∃ m, 8 + p.length = m := ⟨_, rfl⟩
      have hm' : m = 8 + num32 r := by omega
      rw [hm] at e3 h8
      have hm8 : 8 ≤ m := by omega
      have E3 := Lib.hid e3; have Hm := Lib.hid hm; have Hm' := Lib.hid hm'; have Hpr := Lib.hid hpr; clear e1 e2 e3 hm hpr hm'
      have hne : ((m : Int) == 0) = false := by rw [beq_eq_false_iff_ne]; omega
      have sd : Sees wr w.heap.size (if c1 = m then A1 else A1.map (·.add m)) (r'.map bv) := by
        rw [← E3.out, List.map_drop]; exact sr.drop_ (by simp [Hr.out]; omega) (by simp [Hr.out]; omega)
      have Hr' := Lib.hid (show r'.length = n1 - m by rw [← E3.out]; simp [Hr.out])
      have f1 : (0 : Int) ≤ (m : Int) := by omega
      have f2 : (m : Int) ≤ (n1 : Int) := by omega
      go_wp2_with fail
      refine (rnext_any A1 n1 c1 r _ sr' Hr.out hc1 (by omega) m (fun _ => Hm'.out) (fun h => absurd hf h)).mono ?_
      rintro e w1 ⟨rfl, b1⟩
      have b01 : Below w.heap.size w w1 := hB.trans (b1.mono hB.size)
      have ow1 := hown.on b1
      have hz1 := b01.size
      have sd1 : Sees w1 w.heap.size _ (r'.map bv) := sd.below (b1.mono hB.size)
      by_cases hcm : c1 = m
      · rw [if_pos hcm] at sd1
        obtain rfl : n1 = m := by omega
        have Hr0 := Lib.hid (show r'.length = 0 by rw [Hr'.out]; omega)
        subst hcm
        go_wp2_with (at_builtin; refine wpL_appI1 _ rfl (.tmp 10) (.tmp 12) rfl w1 w.heap.size _ k (lens ls) rfl ow1 _ rfl _ (by rfl) rfl (by omega) hz1 (k + 1) rfl ?_; intro A4 c4 w4 o4 _ b4)
        go_roundw
        case rel =>
          refine ⟨_, 0, 0, A4, k + 1, c4, ls ++ [p], r', rfl, rfl, by omega, by omega, sd1.below b4, Hr0, ?_, b01.trans b4, Lib.hid ?_, Lib.hid ?_⟩
          · unfold lens at o4 ⊢; rw [List.map_append, List.map_cons, List.map_nil, Hm.out]; exact o4
          · rw [flat_snoc, List.append_assoc, ← Hpr.out]; exact Hl.out
          · intro q hq
            rcases List.mem_append.1 hq with h | h
            · exact Hp.out q h
            · rw [List.mem_singleton.1 h]; exact hp9
        case measure => simp; omega
      · rw [if_neg hcm] at sd1
        go_wp2_with (at_builtin; refine wpL_appI1 _ rfl (.tmp 10) (.tmp 12) rfl w1 w.heap.size _ k (lens ls) rfl ow1 _ rfl _ (by rfl) rfl (by omega) hz1 (k + 1) rfl ?_; intro A4 c4 w4 o4 _ b4)
        go_roundw
        case rel =>
          refine ⟨_, n1 - m, c1 - m, A4, k + 1, c4, ls ++ [p], r', rfl, rfl, by omega, by omega, sd1.below b4, Hr', ?_, b01.trans b4, Lib.hid ?_, Lib.hid ?_⟩
          · unfold lens at o4 ⊢; rw [List.map_append, List.map_cons, List.map_nil, Hm.out]; exact o4
          · rw [flat_snoc, List.append_assoc, ← Hpr.out]; exact Hl.out
          · intro q hq
            rcases List.mem_append.1 hq with h | h
            · exact Hp.out q h
            · rw [List.mem_singleton.1 h]; exact hp9
        case measure => simp; omega
    · go_wp2_with fail
      refine (rnext_any A1 n1 c1 r _ sr' Hr.out hc1 (by omega) 0 (fun h => absurd h hf) (fun _ => rfl)).mono ?_
      rintro e w1 ⟨rfl, b1⟩
      have b01 : Below w.heap.size w w1 := hB.trans (b1.mono hB.size)
      go_wp2_with fail
      go_ret
      exact ⟨A2, k, c2, ls, rfl, Lib.hid ⟨Hp.out, r, Hl.out, hf⟩, hown.on b1, b01⟩
end Go.Proofs.Ytppkimlalceleaa
