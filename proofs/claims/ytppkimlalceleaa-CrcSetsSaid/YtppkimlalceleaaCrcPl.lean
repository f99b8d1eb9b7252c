/- Plain facts on frames: four bytes and their number, a frame, frames one behind the other. No program in sight. -/
import Derived.Test.YtppkimlalceleaaCrcLaw
namespace Go.Proofs.Ytppkimlalceleaa
open CrcLaw
set_option linter.unusedVariables false
set_option linter.unusedSimpArgs false

/-- The four bytes of a number, the lowest first; and back. -/
def le32 (x : Nat) : List UInt8 := [UInt8.ofNat x, UInt8.ofNat (x / 256), UInt8.ofNat (x / 65536), UInt8.ofNat (x / 16777216)]
theorem le32_length (x : Nat) : (le32 x).length = 4 := rfl
/-- The number of the first four bytes. -/
def num32 : List UInt8 → Nat
  | a :: b :: c :: d :: _ => a.toNat + 256 * b.toNat + 65536 * c.toNat + 16777216 * d.toNat
  | _ => 0
theorem num32_lt (l : List UInt8) : num32 l < 4294967296 := by
  unfold num32
  split
  · rename_i a b c d _
    have := a.toNat_lt; have := b.toNat_lt; have := c.toNat_lt; have := d.toNat_lt
    omega
  · omega
theorem num32_le32 (x : Nat) (hx : x < 4294967296) (l : List UInt8) : num32 (le32 x ++ l) = x := by
  show (UInt8.ofNat x).toNat + 256 * (UInt8.ofNat (x / 256)).toNat + 65536 * (UInt8.ofNat (x / 65536)).toNat + 16777216 * (UInt8.ofNat (x / 16777216)).toNat = x
  simp only [UInt8.toNat_ofNat']
  omega
theorem le32_num32 (l : List UInt8) (h : 4 ≤ l.length) : le32 (num32 l) = l.take 4 := by
  match l, h with
  | a :: b :: c :: d :: r, _ =>
    have ha := a.toNat_lt; have hb := b.toNat_lt; have hc := c.toNat_lt; have hd := d.toNat_lt
    show [UInt8.ofNat _, UInt8.ofNat _, UInt8.ofNat _, UInt8.ofNat _] = [a, b, c, d]
    have e : num32 (a :: b :: c :: d :: r) = a.toNat + 256 * b.toNat + 65536 * c.toNat + 16777216 * d.toNat := rfl
    rw [e]
    congr 1
    · apply UInt8.toNat_inj.1; simp only [UInt8.toNat_ofNat']; omega
    congr 1
    · apply UInt8.toNat_inj.1; simp only [UInt8.toNat_ofNat']; omega
    congr 1
    · apply UInt8.toNat_inj.1; simp only [UInt8.toNat_ofNat']; omega
    congr 1
    · apply UInt8.toNat_inj.1; simp only [UInt8.toNat_ofNat']; omega

/-- A frame. -/
def frameOf (l : List UInt8) : List UInt8 := le32 l.length ++ (le32 (upd (csum (le32 l.length)) l) ++ l)
theorem frameOf_length (l : List UInt8) : (frameOf l).length = 8 + l.length := by simp [frameOf, le32_length]; omega

/-- What crc.Next finds at the front. -/
def IsFrame (l : List UInt8) : Prop := 8 ≤ l.length ∧ num32 l ≤ 9000 ∧ 8 + num32 l ≤ l.length ∧ num32 (l.drop 4) = upd (csum (l.take 4)) ((l.drop 8).take (num32 l))

theorem le32_inj {x y : Nat} (hx : x < 4294967296) (hy : y < 4294967296) (h : le32 x = le32 y) : x = y := by
  have h1 := num32_le32 x hx []
  have h2 := num32_le32 y hy []
  rw [h, h2] at h1
  exact h1.symm
/-- The frame of the bytes behind the eighth is what stands there exactly if the checksum is right. -/
theorem frame_iff (l : List UInt8) (m : Nat) (hm : num32 l = m) (hl : 8 + m ≤ l.length) :
    frameOf ((l.drop 8).take m) = l.take (8 + m) ↔ num32 (l.drop 4) = upd (csum (l.take 4)) ((l.drop 8).take m) := by
  have hmlt : m < 4294967296 := hm ▸ num32_lt l
  have hp : ((l.drop 8).take m).length = m := by simp; omega
  have e1 : le32 m = l.take 4 := by rw [← hm]; exact le32_num32 l (by omega)
  have e2 : le32 (num32 (l.drop 4)) = (l.drop 4).take 4 := le32_num32 _ (by simp; omega)
  have e3 : l.take (8 + m) = l.take 4 ++ ((l.drop 4).take 4 ++ (l.drop 8).take m) := by
    rw [show 8 + m = 4 + (4 + m) by omega, List.take_add, List.take_add, List.drop_drop]
  unfold frameOf
  rw [hp, e3, e1, List.append_cancel_left_eq, List.append_cancel_right_eq, ← e2]
  exact ⟨fun h => (le32_inj (upd_lt _ _) (num32_lt _) h).symm, fun h => by rw [h]⟩

/-! ### frames one behind the other -/
theorem frame_at (l : List UInt8) : IsFrame l ↔ ∃ p r, p.length ≤ 9000 ∧ l = frameOf p ++ r := by
  constructor
  · rintro ⟨h1, h2, h3, h4⟩
    refine ⟨(l.drop 8).take (num32 l), l.drop (8 + num32 l), by simp; omega, ?_⟩
    rw [(frame_iff l _ rfl h3).2 h4, List.take_append_drop]
  · rintro ⟨p, r, hp, rfl⟩
    have e : frameOf p ++ r = le32 p.length ++ (le32 (upd (csum (le32 p.length)) p) ++ (p ++ r)) := by simp [frameOf]
    have h1 : num32 (frameOf p ++ r) = p.length := by rw [e]; exact num32_le32 _ (by omega) _
    have h2 : (frameOf p ++ r).length = 8 + p.length + r.length := by rw [List.length_append, frameOf_length]
    refine ⟨by omega, by omega, by omega, ?_⟩
    rw [h1]
    have t4 : (frameOf p ++ r).take 4 = le32 p.length := by rw [e]; exact List.take_left' rfl
    have d4 : (frameOf p ++ r).drop 4 = le32 (upd (csum (le32 p.length)) p) ++ (p ++ r) := by rw [e]; exact List.drop_left' rfl
    have d8 : (frameOf p ++ r).drop 8 = p ++ r := by
      rw [show 8 = 4 + 4 from rfl, ← List.drop_drop, d4]; exact List.drop_left' rfl
    rw [t4, d4, d8, num32_le32 _ (upd_lt _ _), List.take_left' rfl]
theorem frame_parts (p r : List UInt8) (hp : p.length ≤ 9000) : num32 (frameOf p ++ r) = p.length ∧ ((frameOf p ++ r).drop 8).take p.length = p ∧ (frameOf p ++ r).drop (8 + p.length) = r := by
  have e : frameOf p ++ r = le32 p.length ++ (le32 (upd (csum (le32 p.length)) p) ++ (p ++ r)) := by simp [frameOf]
  refine ⟨by rw [e]; exact num32_le32 _ (by omega) _, ?_, List.drop_left' (frameOf_length p)⟩
  have d8 : (frameOf p ++ r).drop 8 = p ++ r := by
    rw [e, show 8 = 4 + 4 from rfl, ← List.drop_drop, show ∀ X, List.drop 4 (le32 p.length ++ X) = X from fun X => List.drop_left' rfl]; exact List.drop_left' rfl
  rw [d8, List.take_left' rfl]
theorem frameOf_inj {p q r s : List UInt8} (hp : p.length ≤ 9000) (hq : q.length ≤ 9000) (h : frameOf p ++ r = frameOf q ++ s) : p = q ∧ r = s := by
  obtain ⟨a1, a2, a3⟩ := frame_parts p r hp
  obtain ⟨b1, b2, b3⟩ := frame_parts q s hq
  rw [h, b1] at a1
  rw [h, ← a1, b2] at a2
  rw [h, ← a1, b3] at a3
  exact ⟨a2.symm, a3.symm⟩
/-- Frames one behind the other. -/
def flat (ls : List (List UInt8)) : List UInt8 := (ls.map frameOf).flatten
theorem flat_nil : flat [] = [] := rfl
theorem flat_cons (p : List UInt8) (ls : List (List UInt8)) : flat (p :: ls) = frameOf p ++ flat ls := rfl
theorem flat_snoc (ls : List (List UInt8)) (p : List UInt8) : flat (ls ++ [p]) = flat ls ++ frameOf p := by simp [flat]
/-- The frames at the beginning of bytes: l is the frames of ls, and then what is no frame. -/
def Scanned (l : List UInt8) (ls : List (List UInt8)) : Prop := (∀ p ∈ ls, p.length ≤ 9000) ∧ ∃ r, l = flat ls ++ r ∧ ¬ IsFrame r
theorem scanned_unique : ∀ {ls ms : List (List UInt8)} {l : List UInt8}, Scanned l ls → Scanned l ms → ls = ms := by
  intro ls
  induction ls with
  | nil =>
    intro ms l h k
    cases ms with
    | nil => rfl
    | cons q ms =>
      obtain ⟨_, r, e, hr⟩ := h
      obtain ⟨hq, s, e2, _⟩ := k
      rw [flat_nil, List.nil_append] at e
      subst e
      exact absurd ((frame_at _).2 ⟨q, flat ms ++ s, hq q (by simp), by rw [e2, flat_cons, List.append_assoc]⟩) hr
  | cons p ls ih =>
    intro ms l h k
    obtain ⟨hp, r, e, hr⟩ := h
    cases ms with
    | nil =>
      obtain ⟨_, s, e2, hs⟩ := k
      rw [flat_nil, List.nil_append] at e2
      subst e2
      exact absurd ((frame_at _).2 ⟨p, flat ls ++ r, hp p (by simp), by rw [e, flat_cons, List.append_assoc]⟩) hs
    | cons q ms =>
      obtain ⟨hq, s, e2, hs⟩ := k
      rw [e, flat_cons, flat_cons, List.append_assoc, List.append_assoc] at e2
      obtain ⟨rfl, e3⟩ := frameOf_inj (hp p (by simp)) (hq q (by simp)) e2
      have := ih (ms := ms) (l := flat ls ++ r) ⟨fun x hx => hp x (by simp [hx]), r, rfl, hr⟩ ⟨fun x hx => hq x (by simp [hx]), s, e3, hs⟩
      rw [this]
end Go.Proofs.Ytppkimlalceleaa
