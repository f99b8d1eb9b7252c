/- The walk of the laws' take. -/
import Derived.Test.YtfbdfpnmopgkoaaCanon
import Derived.Test.YtfbdfpnmopgkoaaLawB
namespace Go.Proofs.Ytfbdfpnmopgkoaa
open Go.RowKit
set_option linter.unusedVariables false
set_option linter.unusedSimpArgs false

set_option maxHeartbeats 4000000 in
set_option maxRecDepth 100000 in
/-- take: what is read is written again. -/
theorem ltake_any (gr base gw : Nat) (v : Value) (L p : List UInt8) (er : Int) (k : Nat) (w : World) (hr : RdAt w gr p er) (hw : WrAt w base gw v L) (hgb : gr < base) (hbg : base ≤ gw) (hL : L.length ≤ 100000) (hk : k < 256) :
    Calls Try.prog 36 #[.pointer (some ⟨gr, 0, none⟩), .pointer (some ⟨gw, 0, none⟩), .int .u8 (k : Int)] w fun e w' => e = .returned (.tuple #[]) ∧ ∃ (v' : Value) (L' p' : List UInt8) (e' : Int), L' ++ p' = L ++ p ∧ RdAt w' gr p' e' ∧ WrAt w' base gw v' L' ∧ Below gr w w' := by
  have hown : ∀ k, v.ownBlock = some k → gr < k := fun k hk => by have := (hw.own.lt k hk).1; omega
  have hrl : gr < w.heap.size := by
    obtain ⟨_, _, _, hI⟩ := hr
    exact hI.blk.lt
  have hgwl := hw.blk.lt
  have keep : ∀ w1, Only w w1 gr → WrAt w1 base gw v L := fun w1 m1 => hw.only m1 (by omega) (fun e => by have := hown gr e; omega)
  have bel1 : ∀ w1, Only w w1 gr → Below gr w w1 := fun w1 m1 => m1.below (by omega) (Nat.le_refl _) (fun k hk => by cases hk)
  have fin1 : ∀ (w1 : World) (p' q : List UInt8) (e' : Int), Only w w1 gr → e' ≠ 0 → Can p q p' e' → RdAt w1 gr p' e' → ∃ (v' : Value) (L' p' : List UInt8) (e' : Int), L' ++ p' = L ++ p ∧ RdAt w1 gr p' e' ∧ WrAt w1 base gw v' L' ∧ Below gr w w1 := fun w1 p' q e' m1 he hc h1 => by
    rcases hc with ⟨h0, _⟩ | ⟨_, rfl⟩
    · exact absurd h0 he
    · exact ⟨v, L, p', e', rfl, h1, keep w1 m1, bel1 w1 m1⟩
  have fin2 : ∀ (w1 w2 : World) (p' q : List UInt8) (v2 : Value), Only w w1 gr → Can p q p' 0 → RdAt w1 gr p' 0 → WrAt w2 base gw v2 (L ++ q) → Mvd w1 w2 gw v.ownBlock → ∃ (v' : Value) (L' p' : List UInt8) (e' : Int), L' ++ p' = L ++ p ∧ RdAt w2 gr p' e' ∧ WrAt w2 base gw v' L' ∧ Below gr w w2 := fun w1 w2 p' q v2 m1 hc h1 h2 m2 => by
    rcases hc with ⟨_, hp⟩ | ⟨he, _⟩
    · refine ⟨v2, _, p', 0, by rw [hp, List.append_assoc], h1.moved m2 (by omega) hown, h2, (bel1 w1 m1).trans (m2.below (by have := m1.size; omega) (by omega) (fun k hk => Nat.le_of_lt (hown k hk)))⟩
    · exact absurd rfl he
  have hk6 : k % 6 = 0 ∨ k % 6 = 1 ∨ k % 6 = 2 ∨ k % 6 = 3 ∨ k % 6 = 4 ∨ k % 6 = 5 := by omega
  rcases hk6 with e6 | e6 | e6 | e6 | e6 | e6
  · have hki : (k : Int) % 6 = 0 := by omega
    clear e6
    go_enter Try.func36, Try.ntmps36
    go_wp2_with fail
    refine (cUint gr p er w hr).mono ?_
    rintro e w1 ⟨z, p', e', rfl, hz, h1, m1, hc⟩
    by_cases he : e' = 0
    · subst he
      go_wp2_with fail
      refine (err_any gr _ 0 w1 h1).mono ?_
      rintro e w1' ⟨rfl, rfl⟩
      go_wp2_with fail
      refine (wUint_any base gw v L z w1 (keep w1 m1) hz (by omega)).mono ?_
      rintro e w2 ⟨rfl, v2, h2, m2, r2⟩
      go_wp2_with fail
      (first | (go_end0) | ((try simp only [Exit.inBlock, Exit.then]); refine bodyPost_ret (results_none rfl _ _ _) rfl ?_))
      exact ⟨rfl, fin2 w1 w2 _ _ v2 m1 hc h1 h2 m2⟩
    · have heb := beq_false_of_ne he
      go_wp2_with fail
      refine (err_any gr _ e' w1 h1).mono ?_
      rintro e w1' ⟨rfl, rfl⟩
      go_wp2_with fail
      (first | (go_end0) | ((try simp only [Exit.inBlock, Exit.then]); refine bodyPost_ret (results_none rfl _ _ _) rfl ?_))
      exact ⟨rfl, fin1 w1 _ _ e' m1 he hc h1⟩
  · have hki : (k : Int) % 6 = 1 := by omega
    clear e6
    go_enter Try.func36, Try.ntmps36
    go_wp2_with fail
    refine (cInt gr p er _ _ w hr).mono ?_
    rintro e w1 ⟨z, p', e', rfl, ⟨hz1, hz2⟩, h1, m1, hc⟩
    by_cases he : e' = 0
    · subst he
      go_wp2_with fail
      refine (err_any gr _ 0 w1 h1).mono ?_
      rintro e w1' ⟨rfl, rfl⟩
      go_wp2_with fail
      refine (wInt_any base gw v L z w1 (keep w1 m1) hz1 hz2 (by omega)).mono ?_
      rintro e w2 ⟨rfl, v2, h2, m2, r2⟩
      go_wp2_with fail
      (first | (go_end0) | ((try simp only [Exit.inBlock, Exit.then]); refine bodyPost_ret (results_none rfl _ _ _) rfl ?_))
      exact ⟨rfl, fin2 w1 w2 _ _ v2 m1 hc h1 h2 m2⟩
    · have heb := beq_false_of_ne he
      go_wp2_with fail
      refine (err_any gr _ e' w1 h1).mono ?_
      rintro e w1' ⟨rfl, rfl⟩
      go_wp2_with fail
      (first | (go_end0) | ((try simp only [Exit.inBlock, Exit.then]); refine bodyPost_ret (results_none rfl _ _ _) rfl ?_))
      exact ⟨rfl, fin1 w1 _ _ e' m1 he hc h1⟩
  · have hki : (k : Int) % 6 = 2 := by omega
    clear e6
    go_enter Try.func36, Try.ntmps36
    go_wp2_with fail
    refine (cString gr p er w hr).mono ?_
    rintro e w1 ⟨o, p', e', rfl, ho, h1, m1, hc⟩
    by_cases he : e' = 0
    · subst he
      go_wp2_with fail
      refine (err_any gr _ 0 w1 h1).mono ?_
      rintro e w1' ⟨rfl, rfl⟩
      go_wp2_with fail
      refine (wString_any base gw v L o w1 (keep w1 m1) (by omega)).mono ?_
      rintro e w2 ⟨rfl, v2, h2, m2, r2⟩
      go_wp2_with fail
      (first | (go_end0) | ((try simp only [Exit.inBlock, Exit.then]); refine bodyPost_ret (results_none rfl _ _ _) rfl ?_))
      exact ⟨rfl, fin2 w1 w2 _ _ v2 m1 hc h1 h2 m2⟩
    · have heb := beq_false_of_ne he
      go_wp2_with fail
      refine (err_any gr _ e' w1 h1).mono ?_
      rintro e w1' ⟨rfl, rfl⟩
      go_wp2_with fail
      (first | (go_end0) | ((try simp only [Exit.inBlock, Exit.then]); refine bodyPost_ret (results_none rfl _ _ _) rfl ?_))
      exact ⟨rfl, fin1 w1 _ _ e' m1 he hc h1⟩
  · have hki : (k : Int) % 6 = 3 := by omega
    clear e6
    go_enter Try.func36, Try.ntmps36
    go_wp2_with fail
    refine (cBytes gr p er w hr).mono ?_
    rintro e w1 ⟨A, n, c, o, p', e', rfl, hn, ho, h1, m1, hc⟩
    by_cases he : e' = 0
    · subst he
      have hol := ho.len
      go_wp2_with fail
      refine (err_any gr _ 0 w1 h1).mono ?_
      rintro e w1' ⟨rfl, rfl⟩
      go_wp2_with fail
      refine (wBytes_any base gw v L A n c o w1 (keep w1 m1) ho.sees hol (by omega) (fun b0 o0 e0 hne => by
        subst e0
        have hb0 := (ho.lt b0 (by simp [Value.ownBlock])).1
        exact ⟨by omega, fun e => by have := (hw.own.lt b0 e).2; omega⟩)).mono ?_
      rintro e w2 ⟨rfl, v2, h2, m2, r2⟩
      go_wp2_with fail
      (first | (go_end0) | ((try simp only [Exit.inBlock, Exit.then]); refine bodyPost_ret (results_none rfl _ _ _) rfl ?_))
      exact ⟨rfl, fin2 w1 w2 _ _ v2 m1 hc h1 h2 m2⟩
    · have heb := beq_false_of_ne he
      go_wp2_with fail
      refine (err_any gr _ e' w1 h1).mono ?_
      rintro e w1' ⟨rfl, rfl⟩
      go_wp2_with fail
      (first | (go_end0) | ((try simp only [Exit.inBlock, Exit.then]); refine bodyPost_ret (results_none rfl _ _ _) rfl ?_))
      exact ⟨rfl, fin1 w1 _ _ e' m1 he hc h1⟩
  · have hki : (k : Int) % 6 = 4 := by omega
    clear e6
    go_enter Try.func36, Try.ntmps36
    go_wp2_with fail
    refine (cFlag gr p er w hr).mono ?_
    rintro e w1 ⟨z, p', e', rfl, h1, m1, hc⟩
    by_cases he : e' = 0
    · subst he
      go_wp2_with fail
      refine (err_any gr _ 0 w1 h1).mono ?_
      rintro e w1' ⟨rfl, rfl⟩
      go_wp2_with fail
      refine (wFlag_any base gw v L z w1 (keep w1 m1) (by omega)).mono ?_
      rintro e w2 ⟨rfl, v2, h2, m2, r2⟩
      go_wp2_with fail
      (first | (go_end0) | ((try simp only [Exit.inBlock, Exit.then]); refine bodyPost_ret (results_none rfl _ _ _) rfl ?_))
      exact ⟨rfl, fin2 w1 w2 _ _ v2 m1 hc h1 h2 m2⟩
    · have heb := beq_false_of_ne he
      go_wp2_with fail
      refine (err_any gr _ e' w1 h1).mono ?_
      rintro e w1' ⟨rfl, rfl⟩
      go_wp2_with fail
      (first | (go_end0) | ((try simp only [Exit.inBlock, Exit.then]); refine bodyPost_ret (results_none rfl _ _ _) rfl ?_))
      exact ⟨rfl, fin1 w1 _ _ e' m1 he hc h1⟩
  · have hki : (k : Int) % 6 = 5 := by omega
    clear e6
    go_enter Try.func36, Try.ntmps36
    go_wp2_with fail
    refine (cSet gr p er w hr).mono ?_
    rintro e w1 ⟨vs, M, p', e', rfl, hs, h1, m1, hc⟩
    obtain ⟨As, ns, cs, rfl, _⟩ := id hs
    have ba : Below w1.heap.size w1 (w1.alloc (.cells #[.slice As ns cs] 54)) := (Below.refl _ _).alloc (Nat.le_refl _) _
    have h1a := h1.on ba
    have hsa := hs.on ba
    have hwa := (keep w1 m1).on ba
    have m1a : Only w (w1.alloc (.cells #[.slice As ns cs] 54)) gr := Only.trans m1 (Mvd.ofBelow ba gr none)
    by_cases he : e' = 0
    · subst he
      go_wp2_with fail
      refine (err_any gr _ 0 _ h1a).mono ?_
      rintro e w1' ⟨rfl, rfl⟩
      go_wp2_with fail
      refine (wSet_any base gw v (.agg #[.slice As ns cs]) L M _ hwa hsa (by omega)).mono ?_
      rintro e w2 ⟨rfl, v2, h2, m2, r2⟩
      go_wp2_with fail
      (first | (go_end0) | ((try simp only [Exit.inBlock, Exit.then]); refine bodyPost_ret (results_none rfl _ _ _) rfl ?_))
      exact ⟨rfl, fin2 _ w2 _ _ v2 m1a hc h1a h2 m2⟩
    · have heb := beq_false_of_ne he
      go_wp2_with fail
      refine (err_any gr _ e' _ h1a).mono ?_
      rintro e w1' ⟨rfl, rfl⟩
      go_wp2_with fail
      (first | (go_end0) | ((try simp only [Exit.inBlock, Exit.then]); refine bodyPost_ret (results_none rfl _ _ _) rfl ?_))
      exact ⟨rfl, fin1 _ _ _ e' m1a he hc h1a⟩
end Go.Proofs.Ytfbdfpnmopgkoaa
