/- The walks of few, crc.Next, the reference's Next; of the law's examples. -/
import Derived.Test.YtppkimlalceleaaCrcB
namespace Go.Proofs.Ytppkimlalceleaa
open Go.RowKit CrcLaw
set_option linter.unusedVariables false
set_option linter.unusedSimpArgs false

/-- few: a copy of at most m bytes. -/
theorem few_any (A : Option Addr) (n cap m : Nat) (l : List UInt8) (w : World) (h : Sees w w.heap.size A (l.map bv)) (hn : l.length = n) (hc : n ≤ cap) (hm : m ≤ 100000) (hb : n ≤ 9223372036854775807) :
    Calls Try.prog 14 #[.slice A n cap, .int .i64 (m : Int)] w fun e w' => ∃ k A' c', e = .returned (.slice A' k c') ∧ k ≤ m ∧ k ≤ c' ∧ Hid ((l.take m).length = k) ∧ OwnB w' w.heap.size (.slice A' k c') k (l.take m) ∧ Below w.heap.size w w' := by
  have Hn := Lib.hid hn; clear hn
  by_cases hlt : m < n
  · have ht : (l.take m).length = m := by simp [Hn.out]; omega
    have Ht := Lib.hid ht; clear ht
    have hs : Sees w w.heap.size A ((l.take m).map bv) := by rw [List.map_take]; exact h.take_ m
    go_enter Try.func14, Try.ntmps14
    go_wp2_with fail
    refine (clone_any A m cap (l.take m) _ hs Ht.out (by omega)).mono ?_
    rintro e w1 ⟨A1, c1, rfl, o1, b1⟩
    go_wp2_with fail
    go_ret
    exact ⟨m, A1, c1, rfl, Nat.le_refl _, o1.room, Ht, o1, b1⟩
  · have ht : l.take m = l := List.take_of_length_le (by rw [Hn.out]; omega)
    have Ht := Lib.hid ht; clear ht
    go_enter Try.func14, Try.ntmps14
    go_wp2_with fail
    refine (clone_any A n cap l _ h Hn.out (by omega)).mono ?_
    rintro e w1 ⟨A1, c1, rfl, o1, b1⟩
    go_wp2_with fail
    go_ret
    exact ⟨n, A1, c1, rfl, by omega, o1.room, Lib.hid (by rw [Ht.out]; exact Hn.out), by rw [Ht.out]; exact o1, b1⟩

/-- crc.Next where there is a frame. -/
theorem next_yes (A : Option Addr) (n cap : Nat) (l : List UInt8) (w : World) (h : Sees w w.heap.size A (l.map bv)) (hn : l.length = n) (hc : n ≤ cap) (hb : n ≤ 140737488355328) (hf : IsFrame l) (m : Nat) (hm : num32 l = m) :
    Calls Try.prog 22 #[.slice A n cap] w fun e w' => ∃ A' c', e = .returned (.tuple #[.slice A' m c', .int .i64 (8 + m : Nat), .bool true]) ∧ OwnB w' w.heap.size (.slice A' m c') m ((l.drop 8).take m) ∧ Below w.heap.size w w' := by
  obtain ⟨h8, hl, hle, hs⟩ := hf
  rw [hm] at hl hle hs
  rw [hn] at h8 hle
  have Hn := Lib.hid hn; have Hm := Lib.hid hm; have Hs := Lib.hid hs; clear hn hm hs
  obtain ⟨b, o, rfl, hbw, hcell⟩ := h (by intro e; have := Hn.out; simp at e; rw [e] at this; simp at this; omega)
  have Hcell := Lib.hid hcell; clear hcell
  have hd4 : Sees w w.heap.size (some ⟨b, o + 4, none⟩) ((l.drop 4).map bv) := by
    have := h.drop_ (k := 4) (c := cap) (by simp [Hn.out]; omega) (by simp [Hn.out]; omega)
    rw [if_neg (by omega), ← List.map_drop] at this
    simpa [Addr.add_lit] using this
  have ht4 : Sees w w.heap.size (some ⟨b, o, none⟩) ((l.take 4).map bv) := by rw [List.map_take]; exact h.take_ 4
  have hd8 : Sees w w.heap.size (if cap = 8 then some ⟨b, o, none⟩ else some ⟨b, o + 8, none⟩) (((l.drop 8).take m).map bv) := by
    have := h.drop_ (k := 8) (c := cap) (by simp [Hn.out]; omega) (by simp [Hn.out]; omega)
    rw [List.map_take, List.map_drop]
    exact Sees.take_ (by simpa [Addr.add_lit] using this) m
  have hl4 : (l.drop 4).length = n - 4 := by simp [Hn.out]
  have hlt4 : (l.take 4).length = 4 := by simp [Hn.out]; omega
  have hl8 : ((l.drop 8).take m).length = m := by simp [Hn.out]; omega
  have Hl4 := Lib.hid hl4; have Hlt4 := Lib.hid hlt4; have Hl8 := Lib.hid hl8; clear hl4 hlt4 hl8
  have hc4 : ¬ cap = 4 := by omega
  have hG : decide ((n : Int) < 8 + (m : Int)) = false := by simp; omega
  by_cases hc8 : cap = 8
  all_goals
    first | rw [if_pos hc8] at hd8 | rw [if_neg hc8] at hd8
    first | subst hc8 | skip
    go_enter Try.func22, Try.ntmps22
    go_wp2_with fail
    refine (get_any _ n _ l _ m h Hn.out (by omega) Hm.out).mono ?_
    rintro e w1 ⟨rfl, q1, rfl⟩
    go_wp2_with fail
    refine (get_any _ n _ l _ m (h.drewN q1) Hn.out (by omega) Hm.out).mono ?_
    rintro e w1 ⟨rfl, q2, rfl⟩
    go_wp2_with fail
    go_quiet ((first | (go_at_call 42; exact quiet_drew2 (get_any _ (n - 4) _ (l.drop 4) _ _ (hd4.drewN _) Hl4.out (by omega) Hs.out)) | (go_at_call 16; exact quiet_same2 (sum_any _ 4 _ (l.take 4) _ (ht4.drewN _) Hlt4.out (by omega))) | (go_at_call 18; exact quiet_same2 (update_any _ _ m _ ((l.drop 8).take m) _ (upd_lt _ _) (hd8.drewN _) Hl8.out (by omega)))))
    go_wp2_with fail
    refine (clone_any _ m _ ((l.drop 8).take m) _ (hd8.drewN _) Hl8.out (by omega)).mono ?_
    rintro e w1 ⟨A1, c1, rfl, o1, b1⟩
    go_wp2_with fail
    go_ret3
    exact ⟨A1, c1, rfl, o1, (below_drewN (Below.refl _ _) _).trans b1⟩

/-- crc.Next where there is no frame. -/
theorem next_no (A : Option Addr) (n cap : Nat) (l : List UInt8) (w : World) (h : Sees w w.heap.size A (l.map bv)) (hn : l.length = n) (hc : n ≤ cap) (hb : n ≤ 140737488355328) (hf : ¬ IsFrame l) :
    Calls Try.prog 22 #[.slice A n cap] w fun e w' => e = .returned (.tuple #[.slice none 0 0, .int .i64 0, .bool false]) ∧ ∃ q, w' = w.drewN q := by
  by_cases h8 : n < 8
  · go_enter Try.func22, Try.ntmps22
    go_wp2_with fail
    go_ret3
    exact ⟨rfl, 0, rfl⟩
  obtain ⟨m, hm⟩ : ∃ m, num32 l = m := ⟨_, rfl⟩
  have hmlt : m < 4294967296 := hm ▸ num32_lt l
  unfold IsFrame at hf
  rw [hm, hn] at hf
  have Hn := Lib.hid hn; have Hm := Lib.hid hm; clear hn hm
  by_cases h9 : 9000 < m
  · clear hf
    go_enter Try.func22, Try.ntmps22
    go_wp2_with fail
    refine (get_any _ n _ l _ m h Hn.out (by omega) Hm.out).mono ?_
    rintro e w1 ⟨rfl, q1, rfl⟩
    go_wp2_with fail
    go_ret3
    exact ⟨rfl, _, rfl⟩
  by_cases hlt : n < 8 + m
  · clear hf
    have hG : decide ((n : Int) < 8 + (m : Int)) = true := by simp; omega
    go_enter Try.func22, Try.ntmps22
    go_wp2_with fail
    refine (get_any _ n _ l _ m h Hn.out (by omega) Hm.out).mono ?_
    rintro e w1 ⟨rfl, q1, rfl⟩
    go_wp2_with fail
    refine (get_any _ n _ l _ m (h.drewN q1) Hn.out (by omega) Hm.out).mono ?_
    rintro e w1 ⟨rfl, q2, rfl⟩
    go_wp2_with fail
    go_quiet (fail)
    go_wp2_with fail
    go_ret3
    exact ⟨rfl, _, World.drewN_drewN _ _ _⟩
  have hs : ¬ num32 (l.drop 4) = upd (csum (l.take 4)) ((l.drop 8).take m) := fun e => hf ⟨by omega, by omega, by omega, e⟩
  have hx := num32_lt (l.drop 4)
  have hy : upd (csum (l.take 4)) ((l.drop 8).take m) < 4294967296 := upd_lt _ _
  have hN : (((num32 (l.drop 4) : Nat) : Int) != ((upd (csum (l.take 4)) ((l.drop 8).take m) : Nat) : Int)) = true := by rw [bne_iff_ne]; omega
  clear hf hs
  obtain ⟨b, o, rfl, hbw, hcell⟩ := h (by intro e; have := Hn.out; simp at e; rw [e] at this; simp at this; omega)
  have Hcell := Lib.hid hcell; clear hcell
  have hd4 : Sees w w.heap.size (some ⟨b, o + 4, none⟩) ((l.drop 4).map bv) := by
    have := h.drop_ (k := 4) (c := cap) (by simp [Hn.out]; omega) (by simp [Hn.out]; omega)
    rw [if_neg (by omega), ← List.map_drop] at this
    simpa [Addr.add_lit] using this
  have ht4 : Sees w w.heap.size (some ⟨b, o, none⟩) ((l.take 4).map bv) := by rw [List.map_take]; exact h.take_ 4
  have hd8 : Sees w w.heap.size (if cap = 8 then some ⟨b, o, none⟩ else some ⟨b, o + 8, none⟩) (((l.drop 8).take m).map bv) := by
    have := h.drop_ (k := 8) (c := cap) (by simp [Hn.out]; omega) (by simp [Hn.out]; omega)
    rw [List.map_take, List.map_drop]
    exact Sees.take_ (by simpa [Addr.add_lit] using this) m
  have hl4 : (l.drop 4).length = n - 4 := by simp [Hn.out]
  have hlt4 : (l.take 4).length = 4 := by simp [Hn.out]; omega
  have hl8 : ((l.drop 8).take m).length = m := by simp [Hn.out]; omega
  have Hl4 := Lib.hid hl4; have Hlt4 := Lib.hid hlt4; have Hl8 := Lib.hid hl8; clear hl4 hlt4 hl8
  have hc4 : ¬ cap = 4 := by omega
  have hG : decide ((n : Int) < 8 + (m : Int)) = false := by simp; omega
  by_cases hc8 : cap = 8
  all_goals
    first | rw [if_pos hc8] at hd8 | rw [if_neg hc8] at hd8
    first | subst hc8 | skip
    go_enter Try.func22, Try.ntmps22
    go_wp2_with fail
    refine (get_any _ n _ l _ m h Hn.out (by omega) Hm.out).mono ?_
    rintro e w1 ⟨rfl, q1, rfl⟩
    go_wp2_with fail
    refine (get_any _ n _ l _ m (h.drewN q1) Hn.out (by omega) Hm.out).mono ?_
    rintro e w1 ⟨rfl, q2, rfl⟩
    go_wp2_with fail
    go_quiet ((first | (go_at_call 42; exact quiet_drew2 (get_any _ (n - 4) _ (l.drop 4) _ _ (hd4.drewN _) Hl4.out (by omega) rfl)) | (go_at_call 16; exact quiet_same2 (sum_any _ 4 _ (l.take 4) _ (ht4.drewN _) Hlt4.out (by omega))) | (go_at_call 18; exact quiet_same2 (update_any _ _ m _ ((l.drop 8).take m) _ (upd_lt _ _) (hd8.drewN _) Hl8.out (by omega)))))
    go_wp2_with fail
    go_ret3
    exact ⟨rfl, _, World.drewN_drewN _ _ _⟩
end Go.Proofs.Ytppkimlalceleaa
