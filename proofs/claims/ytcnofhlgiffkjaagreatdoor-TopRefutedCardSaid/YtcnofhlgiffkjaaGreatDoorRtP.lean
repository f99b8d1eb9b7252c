/- Plain: what Bytes writes is read back; the reference's two-byte numbers. -/
import Derived.Test.YtcnofhlgiffkjaaGreatDoorRdP
namespace Go.Proofs.YtcnofhlgiffkjaaGreatDoor
open Go.RowKit
set_option linter.unusedVariables false
set_option linter.unusedSimpArgs false

def numB (n : Nat) : List UInt8 := if n < 128 then [UInt8.ofNat n] else [UInt8.ofNat (128 + n / 128), UInt8.ofNat (n % 128)]
theorem numB_enc {n : Nat} (h : n < 16384) : numB n = enc n := by
  unfold numB enc encR
  by_cases c : n < 128
  · rw [if_pos c, show n / 128 = 0 by omega, low_zero, show n % 128 = n by omega]; rfl
  · rw [if_neg c, low_pos (v := n / 128) (by omega), show n / 128 / 128 = 0 by omega, low_zero, show n / 128 % 128 + 128 = 128 + n / 128 by omega]; rfl
theorem nU_enc {V most : Nat} (h : V < 18446744073709551616) (hm : V ≤ most) (l : List UInt8) : nU most (enc V ++ l) 0 = (V, l, 0) := by
  unfold nU; rw [if_pos rfl]; exact rdU_enc' h hm l
theorem goL_enc : ∀ (L : List Int) (p' : List UInt8), L.all okZ = true → goL L.length (L.flatMap encZ ++ p') 0 = (L, p', 0)
  | [], p', _ => rfl
  | z :: L, p', h => by
    rw [List.all_cons, Bool.and_eq_true] at h
    have hz := h.1
    unfold okZ at hz
    simp only [Bool.and_eq_true, decide_eq_true_eq] at hz
    have e : nU 2147483647 ((z :: L).flatMap encZ ++ p') 0 = (z.toNat, L.flatMap encZ ++ p', 0) := by
      rw [List.flatMap_cons, List.append_assoc]
      exact nU_enc (by omega) (by omega) _
    rw [List.length_cons, goL, if_pos rfl, e]
    simp only []
    rw [goL_enc L p' h.2]
    have : ((z.toNat : Nat) : Int) = z := by omega
    rw [this]
theorem flat_pos : ∀ (L : List Int), L.length ≤ (L.flatMap encZ).length
  | [] => Nat.le_refl _
  | z :: L => by
    have h1 := enc_pos z.toNat
    have h2 := flat_pos L
    rw [List.flatMap_cons, List.length_append, List.length_cons]
    unfold encZ at h2 ⊢
    omega
theorem nC_enc {V most : Nat} (h : V < 18446744073709551616) (hm : V ≤ most) (l : List UInt8) : nC most (enc V ++ l) 0 = (V, l, 0) := by
  unfold nC; rw [if_pos rfl]; exact rdC_enc' h hm l
theorem liR_enc (L : List Int) (p' : List UInt8) (h : L.all okZ = true) (hb : L.length < 18446744073709551616) : liR (enc L.length ++ (L.flatMap encZ ++ p')) 0 = (L, p', 0) := by
  unfold liR
  rw [nC_enc hb (by have := flat_pos L; rw [List.length_append, List.length_append]; omega)]
  exact goL_enc L p' h
theorem ndR_enc (x : Nd) (p' : List UInt8) (h : okN x = true) : ndR (encN x ++ p') 0 = (x, p', 0) := by
  unfold okN numsL at h
  simp only [List.all_append, List.all_cons, List.all_nil, Bool.and_true, Bool.and_eq_true, decide_eq_true_eq] at h
  obtain ⟨⟨k1, k3⟩, ⟨⟨⟨s1, s2⟩, c1⟩, s3⟩, c2⟩ := h
  have t1 := s1
  have t2 := s2
  have t3 := s3
  unfold okZ at t1 t2 t3
  simp only [Bool.and_eq_true, decide_eq_true_eq] at t1 t2 t3
  have e : encN x ++ p' = enc x.kind ++ (enc x.step.toNat ++ (enc x.ch.length ++ (x.ch.flatMap encZ ++ (enc x.st.length ++ (x.st.flatMap encZ ++ p'))))) := by
    unfold encN numsL
    simp [encZ, List.append_assoc]
  rw [e]
  unfold ndR
  have ek : kdR (enc x.kind ++ (enc x.step.toNat ++ (enc x.ch.length ++ (x.ch.flatMap encZ ++ (enc x.st.length ++ (x.st.flatMap encZ ++ p')))))) 0 = (x.kind, enc x.step.toNat ++ (enc x.ch.length ++ (x.ch.flatMap encZ ++ (enc x.st.length ++ (x.st.flatMap encZ ++ p')))), 0) := by
    unfold kdR
    rw [nU_enc (by omega) k3, if_neg (by show ¬ x.kind = 0; omega)]
  rw [ek]
  simp only []
  rw [nU_enc (by omega) (by omega)]
  simp only []
  rw [liR_enc x.ch _ c1 (by omega)]
  simp only []
  rw [liR_enc x.st _ c2 (by omega)]
  have : ((x.step.toNat : Nat) : Int) = x.step := by omega
  rw [this]
theorem goN_enc : ∀ (l : List Nd) (p' : List UInt8), l.all okN = true → goN l.length (l.flatMap encN ++ p') 0 = (l, p', 0)
  | [], p', _ => rfl
  | x :: l, p', h => by
    rw [List.all_cons, Bool.and_eq_true] at h
    rw [List.length_cons, goN, if_pos rfl, List.flatMap_cons, List.append_assoc, ndR_enc x _ h.1]
    simp only []
    rw [goN_enc l p' h.2]
theorem flatN_pos : ∀ (l : List Nd), l.length ≤ (l.flatMap encN).length
  | [] => Nat.le_refl _
  | x :: l => by
    have h1 := enc_pos x.kind
    have h2 := flatN_pos l
    rw [List.flatMap_cons, List.length_append, List.length_cons]
    have : (enc x.kind).length ≤ (encN x).length := by unfold encN; rw [List.length_append]; omega
    omega
/-- What is written, is read back. -/
theorem rdN_enc {l : List Nd} (h : l.all okN = true) (hb : l.length < 18446744073709551616) : rdN (bytesL l) = (l, [], 0) ∧ okR (bytesL l) = true := by
  have e : bytesL l = enc l.length ++ l.flatMap encN := by unfold bytesL; rw [if_pos h]
  have r : rdN (bytesL l) = (l, [], 0) := by
    rw [e]
    unfold rdN
    rw [nC_enc hb (by have := flatN_pos l; rw [List.length_append]; omega)]
    have := goN_enc l [] h
    rw [List.append_nil] at this
    exact this
  refine ⟨r, ?_⟩
  unfold okR
  rw [r]
  rfl
end Go.Proofs.YtcnofhlgiffkjaaGreatDoor
