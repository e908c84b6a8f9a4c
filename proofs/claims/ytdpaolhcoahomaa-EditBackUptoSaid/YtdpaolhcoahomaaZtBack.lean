/-
  The law EditBack on the abstract machine returns true. The lengths are bounded.
-/
import Derived.Test.YtdpaolhcoahomaaZtLaws
import Derived.Test.YtdpaolhcoahomaaZtInvW
namespace Go.Proofs.Zt
open Go Go.Zam Go.Proofs
set_option maxRecDepth 100000
set_option linter.all false
set_option maxHeartbeats 4000000

theorem applied_bound (s : List UInt8) : ∀ (l : List Ed) (p : Int), (applied s p l).length ≤ s.length * (l.length + 1) + total l
  | [], p => by simp [applied, total]
  | e :: r, p => by
    have := applied_bound s r e.t
    simp only [applied, total, List.length_append, List.length_take, List.length_drop, List.length_cons]
    rw [Nat.mul_add s.length (r.length + 1) 1]
    omega

theorem inv_total (s : List UInt8) : ∀ (l : List Ed) (p last d : Int), soundFrom s.length last l = 0 → 0 ≤ p → p ≤ last + 1 → p ≤ s.length → total (inv s d l) ≤ s.length - p.toNat
  | [], p, last, d, _, h0, _, h1 => by simp [inv, total]
  | e :: r, p, last, d, h, h0, hp, h1 => by
    obtain ⟨e1, e2, e3, e4, e5⟩ := soundFrom_cons h
    have := inv_total s r e.t e.t (d + (e.s.length - (e.t - e.f))) e5 (by omega) (by omega) e3
    simp only [inv, total, List.length_take, List.length_drop]
    omega

theorem editBackOk (z : Bool) (s : List UInt8) (l : List Ed) (hb : s.length + total l ≤ 4194304) (hb2 : l.length ≤ 4194304) :
    ACall Try.prog 4 [.d (.str s), .d (.sl z 3 (l.map encE))] [] (fun r _ => r = .d (.bool true)) := by
  refine acall_fin rfl cf4 (by simp [ir4]) fun hcl _ => ?_
  simp [ir4]
  refine CallK_of' (lightOk _ z s l (by omega) (by omega)) ?_
  simp
  refine BrK_split (fun h => ?_) (fun h => ?_)
  · simp
    refine CallK_of' (awakeOk _) ?_
    simp [RetK]
  simp
  refine CallK_of' (applyOk _ z s l (by omega)) ?_
  simp
  refine CallK_of' (invertOk _ z s l (by omega)) ?_
  simp
  refine BrK_split (fun h => ?_) (fun h => ?_)
  · simp
    refine CallK_of' (awakeOk _) ?_
    simp at h
    have hi : invS s l = [] := by simp [invS, h]
    simp [hi]
    refine CallK_of' (refSoundOk _ z l s.length) ?_
    simp [RetK]
  have h0 : sound l s.length = 0 := by simpa using h
  obtain ⟨i1, i2, i3⟩ := inv_law h0
  obtain ⟨hl512, hs0⟩ := sound_zero h0
  have hb3 := applied_bound s l 0
  have hb4 := inv_total s l 0 (-1) 0 hs0 (by omega) (by omega) (by omega)
  have hb5 : s.length * (l.length + 1) ≤ 4194304 * 513 := Nat.mul_le_mul (by omega) (by omega)
  simp
  refine CallK_of' (applyOk _ true (applyS s l) (invS s l) (by simp [applyS, invS, h0]; omega)) ?_
  simp
  refine CallK_of' (awakeOk _) ?_
  simp [applyS, invS, h0, i1, i2, inv_length]
  refine CallK_of' (growsOk _ z s.length l (by omega) h0 (by omega)) ?_
  have w : IntKind.i64.wrap ((applied s 0 l).length - s.length) = grows l := by rw [wrap_i64 (by omega) (by omega)]; omega
  simp [RetK, w]

end Go.Proofs.Zt
