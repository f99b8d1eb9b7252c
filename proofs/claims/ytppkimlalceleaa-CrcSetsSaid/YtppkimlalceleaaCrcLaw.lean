/- The plain law of CRC-32C: one cstep, bytes taken in, linearity, the map of a zero byte and its powers. No program in sight. -/
import Derived.Below
namespace Go.Proofs.Ytppkimlalceleaa.CrcLaw

/-- One step. -/
def cstep (c : Nat) : Nat := if c % 2 = 1 then (c / 2) ^^^ 2197175160 else c / 2
/-- n steps. -/
def csteps : Nat → Nat → Nat
  | 0, c => c
  | n + 1, c => csteps n (cstep c)
/-- A byte taken in. -/
def take1 (c : Nat) (b : UInt8) : Nat := csteps 8 (c ^^^ b.toNat)
/-- The complement of 32 bits. -/
def cflip (c : Nat) : Nat := 4294967295 - c
def crun (c : Nat) (l : List UInt8) : Nat := l.foldl take1 c
def upd (c : Nat) (l : List UInt8) : Nat := cflip (crun (cflip c) l)
def csum (l : List UInt8) : Nat := upd 0 l

theorem cstep_lt {c : Nat} (h : c < 4294967296) : cstep c < 4294967296 := by
  unfold cstep
  split
  · exact Nat.xor_lt_two_pow (n := 32) (by omega) (by omega)
  · omega
theorem csteps_lt (n : Nat) : ∀ {c : Nat}, c < 4294967296 → csteps n c < 4294967296 := by
  induction n with
  | zero => intro c h; exact h
  | succ n ih => intro c h; exact ih (cstep_lt h)
theorem take1_lt {c : Nat} (h : c < 4294967296) (b : UInt8) : take1 c b < 4294967296 := by
  have hb : b.toNat < 256 := b.toNat_lt
  exact csteps_lt 8 (Nat.xor_lt_two_pow (n := 32) h (by omega))
theorem crun_lt (l : List UInt8) : ∀ {c : Nat}, c < 4294967296 → crun c l < 4294967296 := by
  induction l with
  | nil => intro c h; exact h
  | cons b l ih => intro c h; exact ih (take1_lt h b)
theorem cflip_lt (c : Nat) : cflip c < 4294967296 := by unfold cflip; omega
theorem cflip_flip {c : Nat} (h : c < 4294967296) : cflip (cflip c) = c := by unfold cflip; omega
theorem upd_lt (c : Nat) (l : List UInt8) : upd c l < 4294967296 := cflip_lt _
theorem crun_append (c : Nat) (l m : List UInt8) : crun c (l ++ m) = crun (crun c l) m := List.foldl_append
theorem crun_snoc (c : Nat) (l : List UInt8) (b : UInt8) : crun c (l ++ [b]) = take1 (crun c l) b := by rw [crun_append]; rfl
theorem upd_upd (c : Nat) (l m : List UInt8) : upd (upd c l) m = upd c (l ++ m) := by
  unfold upd
  rw [cflip_flip (crun_lt _ (cflip_lt _)), crun_append]
theorem upd_nil {c : Nat} (h : c < 4294967296) : upd c [] = c := cflip_flip h
theorem csum_nil : csum [] = 0 := rfl
theorem csteps_succ (n c : Nat) : csteps (n + 1) c = cstep (csteps n c) := by
  induction n generalizing c with
  | zero => rfl
  | succ n ih => exact ih (cstep c)

/-! ### linearity -/
theorem xor_mod2 (a b : Nat) : (a ^^^ b) % 2 = (a % 2 + b % 2) % 2 := by
  have h := Nat.testBit_xor (x := a) (y := b) (i := 0)
  simp only [Nat.testBit_zero] at h
  by_cases ha : a % 2 = 1 <;> by_cases hb : b % 2 = 1 <;> by_cases hc : (a ^^^ b) % 2 = 1 <;> simp [ha, hb, hc] at h <;> omega
theorem xor_div2 (a b : Nat) : (a ^^^ b) / 2 = (a / 2) ^^^ (b / 2) := Nat.xor_div_two
theorem cstep_xor (a b : Nat) : cstep (a ^^^ b) = cstep a ^^^ cstep b := by
  unfold cstep
  rw [xor_mod2, xor_div2]
  by_cases ha : a % 2 = 1 <;> by_cases hb : b % 2 = 1
  · rw [if_neg (by omega), if_pos ha, if_pos hb]
    rw [Nat.xor_assoc, ← Nat.xor_assoc 2197175160, Nat.xor_comm 2197175160 (b / 2), Nat.xor_assoc (b / 2), Nat.xor_self, Nat.xor_zero]
  · rw [if_pos (by omega), if_pos ha, if_neg hb]
    rw [Nat.xor_assoc, Nat.xor_comm (b / 2), ← Nat.xor_assoc]
  · rw [if_pos (by omega), if_neg ha, if_pos hb]
    rw [Nat.xor_assoc]
  · rw [if_neg (by omega), if_neg ha, if_neg hb]
theorem csteps_xor (n a b : Nat) : csteps n (a ^^^ b) = csteps n a ^^^ csteps n b := by
  induction n generalizing a b with
  | zero => rfl
  | succ n ih => show csteps n (cstep (a ^^^ b)) = _; rw [cstep_xor, ih]; rfl
theorem cstep_zero : cstep 0 = 0 := rfl
theorem csteps_zero (n : Nat) : csteps n 0 = 0 := by
  induction n with
  | zero => rfl
  | succ n ih => exact ih

theorem xor4 (a b c d : Nat) : (a ^^^ b) ^^^ (c ^^^ d) = (a ^^^ c) ^^^ (b ^^^ d) := by
  rw [Nat.xor_assoc, ← Nat.xor_assoc b, Nat.xor_comm b c, Nat.xor_assoc c, ← Nat.xor_assoc]
theorem take1_xor (a b : Nat) (x y : UInt8) : take1 (a ^^^ b) (x ^^^ y) = take1 a x ^^^ take1 b y := by
  unfold take1
  rw [UInt8.toNat_xor, xor4, csteps_xor]
theorem crun_xor (a b : Nat) : ∀ (l m : List UInt8), l.length = m.length → crun (a ^^^ b) (List.zipWith (· ^^^ ·) l m) = crun a l ^^^ crun b m := by
  intro l
  induction l generalizing a b with
  | nil => intro m hm; cases m with
    | nil => rfl
    | cons _ _ => simp at hm
  | cons x l ih => intro m hm; cases m with
    | nil => simp at hm
    | cons y m =>
      show crun (take1 (a ^^^ b) (x ^^^ y)) (List.zipWith (· ^^^ ·) l m) = _
      rw [take1_xor, ih _ _ m (by simpa using hm)]; rfl
theorem cflip_eq {c : Nat} (h : c < 4294967296) : cflip c = 4294967295 ^^^ c := by
  apply Nat.eq_of_testBit_eq
  intro i
  unfold cflip
  rw [Nat.testBit_xor]
  by_cases hi : i < 32
  · have h1 := Nat.testBit_two_pow_sub_succ (n := 32) (x := c) h i
    have e : (2 : Nat) ^ 32 - (c + 1) = 4294967295 - c := by omega
    rw [e] at h1
    have h2 := Nat.testBit_two_pow_sub_one 32 i
    have e2 : (2 : Nat) ^ 32 - 1 = 4294967295 := by omega
    rw [e2] at h2
    rw [h1, h2]
    simp [hi]
  · have h0 : ∀ x : Nat, x < 4294967296 → x.testBit i = false := fun x hx => Nat.testBit_lt_two_pow (Nat.lt_of_lt_of_le hx (by
      have : (2 : Nat) ^ 32 ≤ 2 ^ i := Nat.pow_le_pow_right (by omega) (by omega)
      omega))
    rw [h0 _ (by omega), h0 _ (by omega), h0 _ h]; rfl
theorem csum_xor3 (l m r : List UInt8) (h1 : l.length = m.length) (h2 : m.length = r.length) :
    csum (List.zipWith (· ^^^ ·) (List.zipWith (· ^^^ ·) l m) r) = csum l ^^^ csum m ^^^ csum r := by
  unfold csum upd
  have hz : cflip 0 = 4294967295 := rfl
  rw [hz]
  have e : (4294967295 : Nat) = (4294967295 ^^^ 4294967295) ^^^ 4294967295 := by rw [Nat.xor_self, Nat.zero_xor]
  have key : crun 4294967295 (List.zipWith (· ^^^ ·) (List.zipWith (· ^^^ ·) l m) r) = crun 4294967295 l ^^^ crun 4294967295 m ^^^ crun 4294967295 r := by
    conv => lhs; rw [e]
    rw [crun_xor _ _ _ _ (by simp [h1, h2]), crun_xor _ _ _ _ h1]
  rw [key, cflip_eq (crun_lt l (by omega)), cflip_eq (crun_lt m (by omega)), cflip_eq (crun_lt r (by omega)),
    cflip_eq (Nat.xor_lt_two_pow (n := 32) (Nat.xor_lt_two_pow (n := 32) (crun_lt l (by omega)) (crun_lt m (by omega))) (crun_lt r (by omega)))]
  rw [xor4 4294967295 _ 4294967295, Nat.xor_self, Nat.zero_xor, ← Nat.xor_assoc, Nat.xor_comm 4294967295, Nat.xor_assoc _ 4294967295]

/-! ### the map of a zero byte, and its powers -/
/-- n zero bytes. -/
def pw : Nat → Nat → Nat
  | 0, c => c
  | n + 1, c => pw n (csteps 8 c)
def ccomb (a b n : Nat) : Nat := pw n a ^^^ b

theorem pw_lt (n : Nat) : ∀ {c : Nat}, c < 4294967296 → pw n c < 4294967296 := by
  induction n with
  | zero => intro c h; exact h
  | succ n ih => intro c h; exact ih (csteps_lt 8 h)
theorem pw_xor (n a b : Nat) : pw n (a ^^^ b) = pw n a ^^^ pw n b := by
  induction n generalizing a b with
  | zero => rfl
  | succ n ih => show pw n (csteps 8 (a ^^^ b)) = _; rw [csteps_xor, ih]; rfl
theorem pw_zero (n : Nat) : pw n 0 = 0 := by
  induction n with
  | zero => rfl
  | succ n ih => show pw n (csteps 8 0) = 0; rw [csteps_zero, ih]
theorem pw_add (m n c : Nat) : pw (m + n) c = pw m (pw n c) := by
  induction n generalizing c with
  | zero => rfl
  | succ n ih => show pw (m + n) (csteps 8 c) = _; rw [ih]; rfl
theorem pw_succ (n c : Nat) : pw (n + 1) c = csteps 8 (pw n c) := by rw [Nat.add_comm, pw_add]; rfl
theorem ccomb_lt {a b : Nat} (n : Nat) (ha : a < 4294967296) (hb : b < 4294967296) : ccomb a b n < 4294967296 := Nat.xor_lt_two_pow (n := 32) (pw_lt n ha) hb
theorem ccomb_assoc (a b c n m : Nat) : ccomb (ccomb a b n) c m = ccomb a (ccomb b c m) (n + m) := by
  unfold ccomb
  rw [pw_xor, Nat.add_comm, pw_add, Nat.xor_assoc]
/-- Two states that differ by d differ by d's image behind the same bytes. -/
theorem crun_shift (l : List UInt8) (a d : Nat) : crun (a ^^^ d) l = crun a l ^^^ pw l.length d := by
  induction l generalizing a d with
  | nil => rfl
  | cons x l ih =>
    show crun (take1 (a ^^^ d) x) l = crun (take1 a x) l ^^^ pw l.length (csteps 8 d)
    rw [← ih]
    congr 1
    unfold take1
    rw [Nat.xor_assoc, Nat.xor_comm d, ← Nat.xor_assoc, csteps_xor]
theorem ccomb_sum (l m : List UInt8) : ccomb (csum l) (csum m) m.length = csum (l ++ m) := by
  have hz : cflip 0 = 4294967295 := rfl
  have h1 : csum (l ++ m) = upd (csum l) m := (upd_upd 0 l m).symm
  rw [h1]
  have hl : csum l < 4294967296 := upd_lt _ _
  unfold ccomb
  show _ = cflip (crun (cflip (csum l)) m)
  rw [cflip_eq hl, crun_shift]
  show pw m.length (csum l) ^^^ cflip (crun (cflip 0) m) = _
  rw [hz, cflip_eq (crun_lt m (by omega)), cflip_eq (Nat.xor_lt_two_pow (n := 32) (crun_lt m (by omega)) (pw_lt _ hl))]
  rw [Nat.xor_comm, Nat.xor_assoc]

/-! ### a linear map by the images of the single bits -/
/-- The exclusive or of the images of the set bits below k. -/
def ctimes (f : Nat → Nat) : Nat → Nat → Nat
  | 0, _ => 0
  | k + 1, v => ctimes f k v ^^^ (if v / 2 ^ k % 2 = 1 then f k else 0)
theorem ctimes_zero (f : Nat → Nat) (k : Nat) : ctimes f k 0 = 0 := by
  induction k with
  | zero => rfl
  | succ k ih => simp [ctimes, ih]
theorem ctimes_lt {f : Nat → Nat} (k : Nat) (hf : ∀ i, i < k → f i < 4294967296) (v : Nat) : ctimes f k v < 4294967296 := by
  induction k with
  | zero => simp [ctimes]
  | succ k ih =>
    unfold ctimes
    refine Nat.xor_lt_two_pow (n := 32) (ih fun i hi => hf i (by omega)) ?_
    split
    · exact hf k (by omega)
    · omega
/-- A map that respects exclusive or is given by its images of the single bits. -/
theorem ctimes_linear {g : Nat → Nat} (hx : ∀ a b, g (a ^^^ b) = g a ^^^ g b) (h0 : g 0 = 0) (k v : Nat) : ctimes (fun i => g (2 ^ i)) k v = g (v % 2 ^ k) := by
  induction k with
  | zero => simp [ctimes, Nat.mod_one, h0]
  | succ k ih =>
    unfold ctimes
    rw [ih]
    have hv : v % 2 ^ (k + 1) = (v % 2 ^ k) ^^^ (if v / 2 ^ k % 2 = 1 then 2 ^ k else 0) := by
      apply Nat.eq_of_testBit_eq
      intro i
      rw [Nat.testBit_xor, Nat.testBit_mod_two_pow, Nat.testBit_mod_two_pow]
      have hk : (v / 2 ^ k % 2 = 1) ↔ v.testBit k = true := by
        rw [Nat.testBit_eq_decide_div_mod_eq]; simp
      by_cases hik : i = k
      · subst hik
        by_cases hb : v.testBit i = true
        · rw [if_pos (hk.2 hb)]; simp [hb, Nat.testBit_two_pow_self]
        · rw [if_neg (fun h => hb (hk.1 h))]; simp [hb]
      · by_cases hb : v / 2 ^ k % 2 = 1
        · rw [if_pos hb, Nat.testBit_two_pow_of_ne (fun h => hik h.symm)]
          have : decide (i < k + 1) = decide (i < k) := by simp; omega
          rw [this]; simp
        · rw [if_neg hb, Nat.zero_testBit]
          have : decide (i < k + 1) = decide (i < k) := by simp; omega
          rw [this]; simp
    rw [hv, hx]
    congr 1
    split
    · rfl
    · rw [h0]
theorem ctimes_pw (n v : Nat) (hv : v < 4294967296) : ctimes (fun i => pw n (2 ^ i)) 32 v = pw n v := by
  rw [ctimes_linear (pw_xor n) (pw_zero n)]
  congr 1
  exact Nat.mod_eq_of_lt hv

end Go.Proofs.Ytppkimlalceleaa.CrcLaw
