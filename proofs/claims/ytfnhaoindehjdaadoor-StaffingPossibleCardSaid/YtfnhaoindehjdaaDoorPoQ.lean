/- slices.ContainsFunc with the closure of StaffingPossible. -/
import Derived.Test.YtfnhaoindehjdaaDoorPj
import Derived.Test.YtfnhaoindehjdaaDoorPm
import Derived.Deep.QuietTactic
import Derived.BigQuiet
import Derived.Deep.RegionWith
import Derived.Test.YtfnhaoindehjdaaDoorMkQ
import Derived.Test.YtfnhaoindehjdaaDoorPoC
namespace Go.Proofs.YtfnhaoindehjdaaDoor
open Go.RowKit
set_option linter.unusedVariables false
set_option linter.unusedSimpArgs false

set_option maxHeartbeats 4000000 in
set_option maxRecDepth 100000 in
theorem pos1_any (A : Option Addr) (n c k : Nat) (l : List Int) (u : Int) (g4 g5 : Nat) (w : World) (h4 : w.cell? ⟨g4, 0, none⟩ = some (.int .i64 (k : Int))) (h5 : w.cell? ⟨g5, 0, none⟩ = some (.int .i64 u)) (h : Sees w w.heap.size A (l.map iv)) (hn : l.length = n) (hb : n ≤ 1000000) (hk : k < l.length) :
    Calls Tryd.prog 22 #[.slice A n c, .pointer (some ⟨g4, 0, none⟩), .pointer (some ⟨g5, 0, none⟩)] w fun e w' => e = .returned (.bool (decide (atI l k = u))) ∧ ∃ q, w' = w.drewN q := by
  obtain ⟨b, o, z, rfl, hb2, Hz, hc⟩ := Sees.int (k := k) h hk
  have hkn : (k : Int) < (n : Int) := by omega
  have e1 : Hid (atI l k = z) := Lib.hid (by unfold atI; rw [Hz.out]; rfl)
  rw [e1.out]
  clear e1 hn hk Hz
  by_cases hz : z = u
  · subst hz
    go_enter Tryd.func22, Tryd.ntmps22
    go_wp2_with fail
    go_quiet (fail)
    go_wp2_with fail
    go_ret
    exact ⟨by simp, _, rfl⟩
  · have hd : decide (z = u) = false := decide_eq_false hz
    rw [hd]
    go_enter Tryd.func22, Tryd.ntmps22
    go_wp2_with fail
    go_quiet (fail)
    go_wp2_with fail
    go_ret
    exact ⟨by simp [hz], _, rfl⟩
/-- Whether some list has this user at this step. -/
def hasU (ls : List (List Int)) (k : Nat) (u : Int) : Bool := ls.any fun l => decide (atI l k = u)
set_option maxHeartbeats 4000000 in
set_option maxRecDepth 100000 in
theorem idx_pos (A : Option Addr) (n c k B : Nat) (ls : List (List Int)) (u : Int) (g4 g5 : Nat) (w : World) (h4 : w.cell? ⟨g4, 0, none⟩ = some (.int .i64 (k : Int))) (h5 : w.cell? ⟨g5, 0, none⟩ = some (.int .i64 u)) (h : OwnLL w B (.slice A n c) n ls) (hb : n ≤ 1000000) (hk : ∀ l ∈ ls, k < l.length ∧ l.length ≤ 1000000) :
    Calls Tryd.prog 51 #[.slice A n c, .func (.func 22) #[] #[.pointer (some ⟨g4, 0, none⟩), .pointer (some ⟨g5, 0, none⟩)]] w fun e w' => (∃ z : Int, e = .returned (.int .i64 z) ∧ Hid (decide (0 ≤ z) = hasU ls k u)) ∧ ∃ q, w' = w.drewN q := by
  have Hn := Lib.hid h.len
  have hb1 : (n : Int) ≤ 1000000 := by omega
  have H := Lib.hid h
  have HK := Lib.hid hk
  clear h hk
  go_enter Tryd.func51, Tryd.ntmps51
  go_wp2_with fail
  go_loopw [8] (fun i wr => ∃ j : Nat, j ≤ n ∧ i = .int .i64 j ∧ Hid (hasU (ls.take j) k u = false) ∧ ∃ q, wr = w.drewN q) (fun i _ => n - (intOf i).toNat)
  case atStart => exact ⟨0, Nat.zero_le _, rfl, Lib.hid rfl, 0, rfl⟩
  case round =>
    obtain ⟨j, hj, rfl, HP, q, rfl⟩ := hrel
    by_cases hlt : j < n
    · have hlt' : (j : Int) < (n : Int) := by omega
      obtain ⟨l, hl⟩ : ∃ l, ls[j]? = some l := ⟨_, List.getElem?_eq_getElem (by rw [Hn.out]; exact hlt)⟩
      have bq : Below w.heap.size w (w.drewN q) := below_drewN (Below.refl _ _) q
      obtain ⟨b, o, A', m, c', rfl, hb2, hc, hO⟩ := (H.out.on bq).get hl
      obtain ⟨hk1, hk2⟩ := HK.out l (List.mem_of_getElem? hl)
      have hcall := pos1_any A' m c' k l u g4 g5 (w.drewN q) h4 h5 hO.sees hO.len (by have := hO.len; omega) hk1
      have hnext : hasU (ls.take (j + 1)) k u = (hasU (ls.take j) k u || decide (atI l k = u)) := by
        unfold hasU; rw [List.take_add_one, hl]; simp
      rw [HP.out, Bool.false_or] at hnext
      have Hnext := Lib.hid hnext
      clear hnext hO hl bq
      cases hz : decide (atI l k = u)
      · rw [hz] at hcall Hnext
        clear hz
        go_wp2_with fail
        refine hcall.mono ?_
        rintro e w1 ⟨rfl, q2, rfl⟩
        go_wp2_with fail
        go_roundw
        case rel => exact ⟨j + 1, by omega, by go_num, Hnext, q + q2, by first | rfl | rw [World.drewN_drewN]⟩
        case measure => simp [intOf]; omega
      · rw [hz] at hcall Hnext
        clear hz
        go_wp2_with fail
        refine hcall.mono ?_
        rintro e w1 ⟨rfl, q2, rfl⟩
        go_wp2_with fail
        go_ret
        refine ⟨⟨j, rfl, Lib.hid ?_⟩, q + q2, by first | rfl | rw [World.drewN_drewN]⟩
        rw [decide_eq_true (by omega)]
        symm
        have h1 := Hnext.out
        obtain ⟨x, hx, hp⟩ := List.any_eq_true.1 h1
        exact List.any_eq_true.2 ⟨x, List.mem_of_mem_take hx, hp⟩
    · obtain rfl : j = n := by omega
      go_wp2_with fail
      go_ret
      refine ⟨⟨-1, rfl, Lib.hid ?_⟩, q, rfl⟩
      have h1 := HP.out
      rw [List.take_of_length_le (by rw [Hn.out]; exact Nat.le_refl _)] at h1
      rw [h1]
      rfl
theorem cf_pos (A : Option Addr) (n c k B : Nat) (ls : List (List Int)) (u : Int) (g4 g5 : Nat) (w : World) (h4 : w.cell? ⟨g4, 0, none⟩ = some (.int .i64 (k : Int))) (h5 : w.cell? ⟨g5, 0, none⟩ = some (.int .i64 u)) (h : OwnLL w B (.slice A n c) n ls) (hb : n ≤ 1000000) (hk : ∀ l ∈ ls, k < l.length ∧ l.length ≤ 1000000) :
    Calls Tryd.prog 21 #[.slice A n c, .func (.func 22) #[] #[.pointer (some ⟨g4, 0, none⟩), .pointer (some ⟨g5, 0, none⟩)]] w fun e w' => e = .returned (.bool (hasU ls k u)) ∧ ∃ q, w' = w.drewN q := by
  have hi := idx_pos A n c k B ls u g4 g5 w h4 h5 h hb hk
  go_enter Tryd.func21, Tryd.ntmps21
  go_wp2_with fail
  refine hi.mono ?_
  rintro e w1 ⟨⟨z, rfl, hz⟩, q, rfl⟩
  go_wp2_with fail
  go_ret
  exact ⟨ret_bool hz.out, q, rfl⟩
end Go.Proofs.YtfnhaoindehjdaaDoor
namespace Go.Proofs.YtfnhaoindehjdaaDoor
open Go.RowKit
set_option linter.unusedVariables false

/-- Whether every staffing has this user, and there is one. -/
def inAll (ls : List (List Int)) (u : Int) : Bool := decide (0 < ls.length) && ls.all fun l => l.contains u
theorem allL_valid {P : Pr} (hc : chkP P = 0) (hsl : solsL P = allL P) (l : List Int) : l ∈ allL P ↔ ValidB P l = true := by rw [← hsl]; exact solsL_mem hc l
theorem possK_all {P : Pr} (hc : chkP P = 0) (hf : Few128 P) (hsl : solsL P = allL P) {k : Nat} (hk : k < P.elig.length) : possK P k = six.filter (hasU (allL P) k) :=
  possK_six hc hf hk fun u _ => by
    unfold hasU
    rw [List.any_eq_true]
    constructor
    · rintro ⟨l, hl, he⟩
      exact ⟨l, (allL_valid hc hsl l).1 hl, by simpa using he⟩
    · rintro ⟨l, hl, he⟩
      exact ⟨l, (allL_valid hc hsl l).2 hl, by simpa using he⟩
theorem critL_all {P : Pr} (hc : chkP P = 0) (hf : Few128 P) (hsl : solsL P = allL P) : critL P = six.filter (inAll (allL P)) :=
  critL_six hc hf fun u _ => by
    unfold inAll
    rw [Bool.and_eq_true, List.all_eq_true, decide_eq_true_eq]
    constructor
    · rintro ⟨h1, h2⟩
      obtain ⟨l, hl⟩ := List.exists_mem_of_length_pos h1
      exact ⟨⟨l, (allL_valid hc hsl l).1 hl⟩, fun l hl => by simpa using h2 l ((allL_valid hc hsl l).2 hl)⟩
    · rintro ⟨⟨l, hl⟩, h2⟩
      exact ⟨List.length_pos_of_mem ((allL_valid hc hsl l).2 hl), fun l hl => by simpa using h2 l ((allL_valid hc hsl l).1 hl)⟩
theorem allL_len {P : Pr} (hc : chkP P = 0) (hsl : solsL P = allL P) {l : List Int} (h : l ∈ allL P) : l.length = P.elig.length := (good_of_valid ((allL_valid hc hsl l).1 h)).2.1.len
theorem six_take {i : Nat} (h : i < 6) : six.take (i + 1) = six.take i ++ [((i + 1 : Nat) : Int)] := by
  have : ∀ i, i < 6 → six.take (i + 1) = six.take i ++ [((i + 1 : Nat) : Int)] := by decide
  exact this i h
end Go.Proofs.YtfnhaoindehjdaaDoor
