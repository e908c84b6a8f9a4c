/-
  Invert and Grows on the abstract machine: what they compute. The lengths are bounded.
-/
import Derived.Test.YtdpaolhcoahomaaZtInv
import Derived.Test.YtdpaolhcoahomaaZtIrB
namespace Go.Proofs.Zt
open Go Go.Zam Go.Proofs
set_option maxRecDepth 100000
set_option linter.all false
set_option maxHeartbeats 1000000

def invS (s : List UInt8) (l : List Ed) : List Ed := if sound l s.length = 0 then inv s 0 l else []

theorem invertOk (H : Hp) (z : Bool) (s : List UInt8) (l : List Ed) (hb : s.length + total l ≤ 70368744177664) :
    ACall Try.prog 14 [.d (.str s), .d (.sl z 3 (l.map encE))] H (fun r H' => r = .tup [.d (.sl true 3 ((invS s l).map encE)), .d (.int .i64 (sound l s.length))] ∧ H' = H) := by
  refine acall_fin rfl cf14 (by simp [ir14]) fun hcl _ => ?_
  simp [ir14]
  refine CallK_of' (soundOk H z l s.length) ?_
  simp
  refine BrK_split (fun h => ?_) (fun h => ?_)
  · simp [RetK, cut_self hcl]
    simp at h
    simp [invS, h]
  have h0 : sound l s.length = 0 := by simpa using h
  obtain ⟨hl512, hs0⟩ := sound_zero h0
  simp
  refine LoopK_of (H.length + 1) (fun fr H' => ∃ pre rest, ∃ (p last d : Int) (q : List Ed), l = pre ++ rest ∧ inv s 0 l = q ++ inv s d rest ∧ q.length = pre.length ∧ 0 ≤ p ∧ p ≤ s.length ∧ p ≤ last + 1 ∧ soundFrom s.length last rest = 0 ∧
      0 ≤ p + d ∧ d + total rest ≤ total l ∧
      fr 0 = .d (.str s) ∧ fr 7 = .osl true 3 (q.map encE) H.length ∧ fr 8 = .d (.int .i64 d) ∧ fr 19 = .d (.sl z 3 (l.map encE)) ∧ fr 20 = .d (.int .i64 l.length) ∧ fr 21 = .d (.int .i64 (pre.length : Int)) ∧ H' = H ++ [.tok q.length 3 41])
    (fun fr H' => match fr 21 with | .d (.int _ k) => (l.length - k).toNat | _ => 0) (by simp) ?_ ?_
  · refine ⟨[], l, 0, -1, 0, [], ?_⟩
    simp [cut_appk hcl, hs0]
  rintro fr H' ⟨pre, rest, p, last, d, q, hl, hap, hq, hp0, hp1, hp2, hsf, hpd, hsz, f0, f7, f8, f19, f20, f21, rfl⟩
  simp [f19, f20, f21]
  refine BrK_split (fun h => ?_) (fun h => ?_)
  · obtain ⟨e, r, rfl⟩ : ∃ e r, rest = e :: r := by
      cases rest with
      | nil => simp_all
      | cons e r => exact ⟨e, r, rfl⟩
    have hr : Zam.rowAt (l.map encE) pre.length = some (encE e) := by rw [hl]; exact rowAt_mid _ _ _ _
    obtain ⟨e1, e2, e3, e4, e5⟩ := soundFrom_cons hsf
    simp only [total] at hsz
    have hsub := subL_ok (s := s) (a := e.f) (b := e.t) ⟨e1, by omega, by omega⟩
    have w1 : IntKind.i64.wrap (e.f + d) = e.f + d := wrap_i64 (by omega) (by omega)
    have w2 : IntKind.i64.wrap (e.f + d + e.s.length) = e.f + d + e.s.length := wrap_i64 (by omega) (by omega)
    have w3 : IntKind.i64.wrap (e.t - e.f) = e.t - e.f := wrap_i64 (by omega) (by omega)
    have w4 : IntKind.i64.wrap (e.s.length - (e.t - e.f)) = e.s.length - (e.t - e.f) := wrap_i64 (by omega) (by omega)
    have w5 : IntKind.i64.wrap (d + (e.s.length - (e.t - e.f))) = d + (e.s.length - (e.t - e.f)) := wrap_i64 (by omega) (by omega)
    have hpl : pre.length ≤ 512 := by rw [hl] at hl512; simp at hl512; omega
    have happ : ∀ X, appA (H ++ .tok q.length 3 41 :: X) 3 32 41 [[.int .i64 (e.f + d), .int .i64 (e.f + d + e.s.length), .str ((s.drop e.f.toNat).take (e.t.toNat - e.f.toNat))]] (.osl true 3 (q.map encE) H.length) = some (.osl true 3 ((q ++ [(⟨e.f + d, e.f + d + e.s.length, (s.drop e.f.toNat).take (e.t.toNat - e.f.toNat)⟩ : Ed)]).map encE) H.length, H ++ .tok (q.length + 1) 3 41 :: X) := by
      intro X
      rw [appA_osl (by simp) (by simp; omega)]
      simp [encE]
    simp [f0, f7, f8, f19, f20, f21, hr, encE, hsub, w1, w2, w3, w4, w5, happ]
    have hw : IntKind.i64.wrap (pre.length + 1) = pre.length + 1 := wrap_i64 (by omega) (by omega)
    simp [f21, hw]
    refine AgainK_of (m := H.length + 1) (by simp) ⟨pre ++ [e], r, e.t, e.t, d + (e.s.length - (e.t - e.f)), q ++ [⟨e.f + d, e.f + d + e.s.length, (s.drop e.f.toNat).take (e.t.toNat - e.f.toNat)⟩], ?_⟩ ?_
    · simp [cut_appk hcl, f0, f7, f8, f19, f20, f21]
      refine ⟨hl, ?_, by omega, by omega, by omega, by omega, e5, by omega, by omega, ?_⟩
      rotate_left
      · simp [encE]
      rw [hap, inv]
    · simp; simp at h; omega
  · obtain rfl : rest = [] := by
      cases rest with
      | nil => rfl
      | cons e r => simp_all
    simp [f7]
    simp [inv] at hap
    simp [RetK, cut_app hcl, h0, invS, hap]

theorem growsOk (H : Hp) (z : Bool) (n : Int) (l : List Ed) (hn0 : 0 ≤ n) (h0 : sound l n = 0) (hb : n + total l ≤ 70368744177664) :
    ACall Try.prog 15 [.d (.sl z 3 (l.map encE))] H (fun r H' => r = .d (.int .i64 (grows l)) ∧ H' = H) := by
  refine acall_fin rfl cf15 (by simp [ir15]) fun hcl _ => ?_
  simp [ir15]
  obtain ⟨hl512, hs0⟩ := sound_zero h0
  refine LoopK_of H.length (fun fr H' => ∃ pre rest, ∃ (p last d : Int), l = pre ++ rest ∧ grows l = d + grows rest ∧ 0 ≤ p ∧ p ≤ n ∧ p ≤ last + 1 ∧ soundFrom n last rest = 0 ∧
      0 ≤ p + d ∧ d + total rest ≤ total l ∧
      fr 3 = .d (.int .i64 d) ∧ fr 6 = .d (.sl z 3 (l.map encE)) ∧ fr 7 = .d (.int .i64 l.length) ∧ fr 8 = .d (.int .i64 (pre.length : Int)) ∧ H' = H)
    (fun fr H' => match fr 8 with | .d (.int _ k) => (l.length - k).toNat | _ => 0) (by simp) ?_ ?_
  · refine ⟨[], l, 0, -1, 0, ?_⟩
    simp [cut_self hcl, hs0, hn0]
  rintro fr H' ⟨pre, rest, p, last, d, hl, hap, hp0, hp1, hp2, hsf, hpd, hsz, f3, f6, f7, f8, rfl⟩
  simp [f6, f7, f8]
  refine BrK_split (fun h => ?_) (fun h => ?_)
  · obtain ⟨e, r, rfl⟩ : ∃ e r, rest = e :: r := by
      cases rest with
      | nil => simp_all
      | cons e r => exact ⟨e, r, rfl⟩
    have hr : Zam.rowAt (l.map encE) pre.length = some (encE e) := by rw [hl]; exact rowAt_mid _ _ _ _
    obtain ⟨e1, e2, e3, e4, e5⟩ := soundFrom_cons hsf
    simp only [total] at hsz
    have w3 : IntKind.i64.wrap (e.t - e.f) = e.t - e.f := wrap_i64 (by omega) (by omega)
    have w4 : IntKind.i64.wrap (e.s.length - (e.t - e.f)) = e.s.length - (e.t - e.f) := wrap_i64 (by omega) (by omega)
    have w5 : IntKind.i64.wrap (d + (e.s.length - (e.t - e.f))) = d + (e.s.length - (e.t - e.f)) := wrap_i64 (by omega) (by omega)
    have hpl : pre.length ≤ 512 := by rw [hl] at hl512; simp at hl512; omega
    simp [f3, f6, f7, f8, hr, encE, w3, w4, w5]
    have hw : IntKind.i64.wrap (pre.length + 1) = pre.length + 1 := wrap_i64 (by omega) (by omega)
    simp [f8, hw]
    refine AgainK_of (m := H'.length) (by simp) ⟨pre ++ [e], r, e.t, e.t, d + (e.s.length - (e.t - e.f)), ?_⟩ ?_
    · simp [cut_app hcl, f3, f6, f7, f8]
      refine ⟨hl, ?_, by omega, by omega, by omega, e5, by omega, by omega⟩
      rw [hap, grows]; omega
    · simp; simp at h; omega
  · obtain rfl : rest = [] := by
      cases rest with
      | nil => rfl
      | cons e r => simp_all
    simp [f3]
    simp [grows] at hap
    simp [RetK, cut_self hcl, hap]

end Go.Proofs.Zt
