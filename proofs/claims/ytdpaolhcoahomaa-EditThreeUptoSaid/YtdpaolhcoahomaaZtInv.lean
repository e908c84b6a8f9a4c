/-
  The plain law of Invert: what is undone is the text again. No condition.
-/
import Derived.Test.YtdpaolhcoahomaaZtApply
namespace Go.Proofs.Zt
open Go Go.Zam Go.Proofs
set_option linter.all false

def inv (s : List UInt8) : Int → List Ed → List Ed
  | _, [] => []
  | d, e :: r => ⟨e.f + d, e.f + d + e.s.length, (s.drop e.f.toNat).take (e.t.toNat - e.f.toNat)⟩ :: inv s (d + (e.s.length - (e.t - e.f))) r

def grows : List Ed → Int
  | [] => 0
  | e :: r => (e.s.length - (e.t - e.f)) + grows r

theorem inv_length (s : List UInt8) : ∀ (d : Int) (l : List Ed), (inv s d l).length = l.length
  | _, [] => rfl
  | d, e :: r => by simp [inv, inv_length s _ r]

theorem soundFrom_cons2 {n last : Int} {e : Ed} {r : List Ed} (h : soundFrom n last (e :: r) = 0) : ¬ (e.f = e.t ∧ e.s = []) := by
  rw [soundFrom] at h
  split at h
  · cases h
  · split at h
    · cases h
    · assumption

theorem applied_len (s : List UInt8) : ∀ (l : List Ed) (p last : Int), soundFrom s.length last l = 0 → 0 ≤ p → p ≤ last + 1 → p ≤ s.length → ((applied s p l).length : Int) = s.length - p + grows l
  | [], p, last, _, h0, _, h1 => by simp [applied, grows]; omega
  | e :: r, p, last, h, h0, hp, h1 => by
    obtain ⟨e1, e2, e3, e4, e5⟩ := soundFrom_cons h
    have := applied_len s r e.t e.t e5 (by omega) (by omega) e3
    simp only [applied, grows, List.length_append, List.length_take, List.length_drop, Int.natCast_add, this]
    omega

theorem inv_sound (s : List UInt8) (N : Int) : ∀ (l : List Ed) (d p last : Int), soundFrom s.length last l = 0 → 0 ≤ p → p ≤ last + 1 → p ≤ s.length → 0 ≤ p + d → N = s.length + d + grows l → soundFrom N (last + d) (inv s d l) = 0
  | [], _, _, _, _, _, _, _, _, _ => rfl
  | e :: r, d, p, last, h, h0, hp, h1, hd, hN => by
    obtain ⟨e1, e2, e3, e4, e5⟩ := soundFrom_cons h
    have hne := soundFrom_cons2 h
    have hl := applied_len s r e.t e.t e5 (by omega) (by omega) e3
    simp only [grows] at hN
    have := inv_sound s N r (d + (e.s.length - (e.t - e.f))) e.t e.t e5 (by omega) (by omega) e3 (by omega) (by omega)
    rw [inv, soundFrom, if_neg (by simp only; omega), if_neg, if_neg (by simp only; omega)]
    · have h2 : e.f + d + e.s.length = e.t + (d + (e.s.length - (e.t - e.f))) := by omega
      simp only [h2]; exact this
    · rintro ⟨a, b⟩
      simp only at a b
      apply hne
      have h3 := congrArg List.length b
      simp only [List.length_take, List.length_drop, List.length_nil] at h3
      exact ⟨by omega, List.eq_nil_of_length_eq_zero (by omega)⟩

theorem inv_applied (s X : List UInt8) : ∀ (l : List Ed) (d p last : Int), soundFrom s.length last l = 0 → 0 ≤ p → p ≤ last + 1 → p ≤ s.length → 0 ≤ p + d → X.drop (p + d).toNat = applied s p l → applied X (p + d) (inv s d l) = s.drop p.toNat
  | [], d, p, _, _, _, _, _, _, hX => by simp [inv, applied, hX]
  | e :: r, d, p, last, h, h0, hp, h1, hd, hX => by
    obtain ⟨e1, e2, e3, e4, e5⟩ := soundFrom_cons h
    have h2 : e.f + d + e.s.length = e.t + (d + (e.s.length - (e.t - e.f))) := by omega
    have hA : ((s.drop p.toNat).take (e.f.toNat - p.toNat)).length = e.f.toNat - p.toNat := by simp; omega
    have hX' : X.drop (e.t + (d + (e.s.length - (e.t - e.f)))).toNat = applied s e.t r := by
      have : (e.t + (d + ((e.s.length : Int) - (e.t - e.f)))).toNat = (p + d).toNat + ((e.f.toNat - p.toNat) + e.s.length) := by omega
      rw [this, ← List.drop_drop, hX, applied, ← List.append_assoc]
      apply List.drop_left'
      rw [List.length_append, hA]
    have := inv_applied s X r (d + (e.s.length - (e.t - e.f))) e.t e.t e5 (by omega) (by omega) e3 (by omega) hX'
    rw [inv, applied]
    simp only [h2, this]
    have h4 : (e.f + d).toNat - (p + d).toNat = e.f.toNat - p.toNat := by omega
    rw [hX, h4, applied, List.take_left' hA]
    have h5 : (s.drop p.toNat).drop (e.f.toNat - p.toNat) = s.drop e.f.toNat := by rw [List.drop_drop]; congr 1; omega
    have h6 : (s.drop e.f.toNat).drop (e.t.toNat - e.f.toNat) = s.drop e.t.toNat := by rw [List.drop_drop]; congr 1; omega
    rw [← List.take_append_drop (e.f.toNat - p.toNat) (s.drop p.toNat), h5, ← h6, List.take_append_drop]
    congr 1
    rw [List.take_left' hA]

theorem inv_law {s : List UInt8} {l : List Ed} (h : sound l s.length = 0) :
    sound (inv s 0 l) (applied s 0 l).length = 0 ∧ applied (applied s 0 l) 0 (inv s 0 l) = s ∧ ((applied s 0 l).length : Int) = s.length + grows l := by
  obtain ⟨hl, h0⟩ := sound_zero h
  have hlen := applied_len s l 0 (-1) h0 (by omega) (by omega) (by omega)
  refine ⟨?_, ?_, by omega⟩
  · rw [sound, inv_length, if_neg (by omega)]
    have := inv_sound s (applied s 0 l).length l 0 0 (-1) h0 (by omega) (by omega) (by omega) (by omega) (by omega)
    simpa using this
  · have := inv_applied s (applied s 0 l) l 0 0 (-1) h0 (by omega) (by omega) (by omega) (by omega) (by simp)
    simpa using this

end Go.Proofs.Zt
