/-
  Apply and awake on the abstract machine: what they compute. The lengths are bounded where a theorem says so.
-/
import Derived.Test.YtdpaolhcoahomaaZtEdit
namespace Go.Proofs.Zt
open Go Go.Zam Go.Proofs
set_option maxRecDepth 100000
set_option linter.all false
set_option maxHeartbeats 1000000

def applied (s : List UInt8) : Int → List Ed → List UInt8
  | k, [] => s.drop k.toNat
  | k, e :: r => (s.drop k.toNat).take (e.f.toNat - k.toNat) ++ (e.s ++ applied s e.t r)

def applyS (s : List UInt8) (l : List Ed) : List UInt8 := if sound l s.length = 0 then applied s 0 l else []

theorem soundFrom_cons {n last : Int} {e : Ed} {r : List Ed} (h : soundFrom n last (e :: r) = 0) : 0 ≤ e.f ∧ e.f ≤ e.t ∧ e.t ≤ n ∧ last < e.f ∧ soundFrom n e.t r = 0 := by
  rw [soundFrom] at h
  split at h
  · cases h
  · split at h
    · cases h
    · split at h
      · cases h
      · refine ⟨by omega, by omega, by omega, by omega, h⟩

theorem sound_zero {l : List Ed} {n : Int} (h : sound l n = 0) : l.length ≤ 512 ∧ soundFrom n (-1) l = 0 := by
  unfold sound at h
  split at h
  · cases h
  · exact ⟨by omega, h⟩

theorem subL_ok {α : Type} {s : List α} {a b : Int} (h : 0 ≤ a ∧ a ≤ b ∧ b ≤ s.length) : subL s a b = some ((s.drop a.toNat).take (b.toNat - a.toNat)) := by
  simp [subL, h]

theorem applyOk (H : Hp) (z : Bool) (s : List UInt8) (l : List Ed) (hb : s.length + total l ≤ 70368744177664) :
    ACall Try.prog 10 [.d (.str s), .d (.sl z 3 (l.map encE))] H (fun r H' => r = .tup [.d (.str (applyS s l)), .d (.int .i64 (sound l s.length))] ∧ H' = H) := by
  refine acall_fin rfl cf10 (by simp [ir10]) fun hcl _ => ?_
  simp [ir10]
  refine CallK_of' (soundOk H z l s.length) ?_
  simp
  refine BrK_split (fun h => ?_) (fun h => ?_)
  · simp [RetK, cut_self hcl]
    simp at h
    simp [applyS, h]
  have h0 : sound l s.length = 0 := by simpa using h
  obtain ⟨hl512, hs0⟩ := sound_zero h0
  simp
  refine LoopK_of (H.length + 2) (fun fr H' => ∃ pre rest, ∃ (p last : Int) (bs : List UInt8) (a : A), l = pre ++ rest ∧ bs ++ applied s p rest = applied s 0 l ∧ 0 ≤ p ∧ p ≤ s.length ∧ p ≤ last + 1 ∧ soundFrom s.length last rest = 0 ∧
      bs.length + (s.length - p.toNat) + total rest ≤ s.length + total l ∧ (a = .d .nilp ∨ a = .ptr (H.length + 1) 0) ∧
      fr 0 = .d (.str s) ∧ fr 7 = .ptr (H.length + 1) 0 ∧ fr 8 = .d (.int .i64 p) ∧ fr 18 = .d (.sl z 3 (l.map encE)) ∧ fr 19 = .d (.int .i64 l.length) ∧ fr 20 = .d (.int .i64 (pre.length : Int)) ∧ H' = H ++ [.tok bs.length 1 5, .box 46 [a, .osl true 1 (byteRows bs) H.length]])
    (fun fr H' => match fr 20 with | .d (.int _ k) => (l.length - k).toNat | _ => 0) (by simp) ?_ ?_
  · refine ⟨[], l, 0, -1, [], .d .nilp, ?_⟩
    simp [cut_appk hcl, hs0, byteRows]
  rintro fr H' ⟨pre, rest, p, last, bs, a, hl, hap, hp0, hp1, hp2, hsf, hsz, ha, f0, f7, f8, f18, f19, f20, rfl⟩
  simp [f18, f19, f20]
  refine BrK_split (fun h => ?_) (fun h => ?_)
  · obtain ⟨e, r, rfl⟩ : ∃ e r, rest = e :: r := by
      cases rest with
      | nil => simp_all
      | cons e r => exact ⟨e, r, rfl⟩
    have hr : Zam.rowAt (l.map encE) pre.length = some (encE e) := by rw [hl]; exact rowAt_mid _ _ _ _
    obtain ⟨e1, e2, e3, e4, e5⟩ := soundFrom_cons hsf
    simp only [total] at hsz
    have hsub := subL_ok (s := s) (a := p) (b := e.f) ⟨hp0, by omega, by omega⟩
    have hlen : ((s.drop p.toNat).take (e.f.toNat - p.toNat)).length = e.f.toNat - p.toNat := by simp; omega
    simp [f0, f7, f8, f18, f19, f20, hr, encE, hsub]
    refine CallK_of' (writeOk _ (H.length + 1) H.length a bs ((s.drop p.toNat).take (e.f.toNat - p.toNat)) (by simp) ha (by simp) (by omega)) ?_
    simp [f0, f7, f8, f18, f19, f20]
    refine CallK_of' (writeOk _ (H.length + 1) H.length (.ptr (H.length + 1) 0) (bs ++ (s.drop p.toNat).take (e.f.toNat - p.toNat)) e.s (by simp) (.inr rfl) (by simp) (by rw [List.length_append]; omega)) ?_
    have hw : IntKind.i64.wrap (pre.length + 1) = pre.length + 1 := wrap_i64 (by omega) (by simp at h; omega)
    simp [f0, f7, f8, f18, f19, f20, hw]
    refine AgainK_of (m := H.length + 2) (by simp) ⟨pre ++ [e], r, e.t, e.t, bs ++ ((s.drop p.toNat).take (e.f.toNat - p.toNat) ++ e.s), .ptr (H.length + 1) 0, ?_⟩ ?_
    · simp [cut_appk hcl, f0, f7, f8, f18, f19, f20]
      refine ⟨hl, ?_, by omega, e3, by omega, e5, ?_⟩
      · rw [← hap, applied]
      · omega
    · simp; simp at h; omega
  · obtain rfl : rest = [] := by
      cases rest with
      | nil => rfl
      | cons e r => simp_all
    have hsub := subL_ok (s := s) (a := p) (b := s.length) ⟨hp0, hp1, by omega⟩
    have htk : (s.drop p.toNat).take ((s.length : Int).toNat - p.toNat) = s.drop p.toNat := List.take_of_length_le (by simp)
    rw [htk] at hsub
    simp [total] at hsz
    simp [f0, f7, f8, hsub]
    refine CallK_of' (writeOk _ (H.length + 1) H.length a bs (s.drop p.toNat) (by simp) ha (by simp) (by simp; omega)) ?_
    simp [f0, f7, f8]
    refine CallK_of' (stringOk (a := .ptr (H.length + 1) 0) (i := H.length + 1) (t := H.length) (s := bs ++ s.drop p.toNat) (by simp) (by simp) (by simp; omega)) ?_
    simp [RetK, cut_app hcl, h0, applyS]
    simpa [applied] using hap

theorem awakeOk (H : Hp) : ACall Try.prog 9 [] H (fun r H' => r = .d (.bool true) ∧ H' = H) := by
  refine acall_fin rfl cf9 (by simp [ir9]) fun hcl _ => ?_
  simp [ir9]
  refine CallK_of' (applyOk H false [97, 98, 99] [⟨1, 2, [120, 121]⟩] (by simp [total])) ?_
  have h1 : applyS [97, 98, 99] [⟨1, 2, [120, 121]⟩] = [97, 120, 121, 99] := by decide
  have h2 : sound [⟨1, 2, [120, 121]⟩] ([97, 98, 99] : List UInt8).length = 0 := by decide
  rw [h1, h2]
  simp [RetK, cut_self hcl]

end Go.Proofs.Zt
