/-
  Compose's functions on the abstract machine: what they compute. The lengths are bounded where a theorem says so.
-/
import Derived.Test.YtdpaolhcoahomaaZtInvW
import Derived.Test.YtdpaolhcoahomaaZtCmp
import Derived.Test.YtdpaolhcoahomaaZtIrC
namespace Go.Proofs.Zt
open Go Go.Zam Go.Proofs
set_option maxRecDepth 100000
set_option linter.all false
set_option maxHeartbeats 1000000

theorem piecesOk (H : Hp) (z : Bool) (l : List Ed) (n : Int) (hb : l.length ≤ 1048576) :
    ACall Try.prog 20 [.d (.sl z 3 (l.map encE)), .d (.int .i64 n)] H (fun r H' => r = .d (.sl true 4 ((pcs n 0 l).map encP)) ∧ H' = H) := by
  refine acall_fin rfl cf20 (by simp [ir20]) fun hcl _ => ?_
  simp [ir20]
  refine LoopK_of (H.length + 2) (fun fr H' => ∃ pre rest, ∃ (k : Int) (q : List Pc), l = pre ++ rest ∧ pcs n 0 l = q ++ pcs n k rest ∧ q.length = 2 * pre.length ∧
      fr 1 = .d (.int .i64 n) ∧ fr 5 = .osl true 4 (q.map encP) (H.length + 1) ∧ fr 6 = .d (.int .i64 k) ∧ fr 9 = .d (.sl z 3 (l.map encE)) ∧ fr 10 = .d (.int .i64 l.length) ∧ fr 11 = .d (.int .i64 (pre.length : Int)) ∧ H' = H ++ [.tok 0 4 55, .tok q.length 4 55])
    (fun fr H' => match fr 11 with | .d (.int _ k) => (l.length - k).toNat | _ => 0) (by simp) ?_ ?_
  · refine ⟨[], l, 0, [], ?_⟩
    simp [cut_appk hcl]
  rintro fr H' ⟨pre, rest, k, q, hl, hap, hq, f1, f5, f6, f9, f10, f11, rfl⟩
  simp [f9, f10, f11]
  have hpl : pre.length ≤ 1048576 := by rw [hl] at hb; simp at hb; omega
  refine BrK_split (fun h => ?_) (fun h => ?_)
  · obtain ⟨e, r, rfl⟩ : ∃ e r, rest = e :: r := by
      cases rest with
      | nil => simp_all
      | cons e r => exact ⟨e, r, rfl⟩
    have hr : Zam.rowAt (l.map encE) pre.length = some (encE e) := by rw [hl]; exact rowAt_mid _ _ _ _
    have happ : ∀ X, appA (H ++ .tok 0 4 55 :: .tok q.length 4 55 :: X) 4 40 55 [[.int .i64 k, .int .i64 e.f, .str [], .bool false], [.int .i64 0, .int .i64 0, .str e.s, .bool true]] (.osl true 4 (q.map encP) (H.length + 1)) = some (.osl true 4 ((q ++ [(⟨k, e.f, [], false⟩ : Pc), ⟨0, 0, e.s, true⟩]).map encP) (H.length + 1), H ++ .tok 0 4 55 :: .tok (q.length + 2) 4 55 :: X) := by
      intro X
      rw [appA_osl (by simp) (by simp; omega)]
      simp [encP]
    simp [f1, f5, f6, f9, f10, f11, hr, encE, happ]
    have hw : IntKind.i64.wrap (pre.length + 1) = pre.length + 1 := wrap_i64 (by omega) (by omega)
    simp [f11, hw]
    refine AgainK_of (m := H.length + 2) (by simp) ⟨pre ++ [e], r, e.t, q ++ [(⟨k, e.f, [], false⟩ : Pc), ⟨0, 0, e.s, true⟩], ?_⟩ ?_
    · simp [cut_appk hcl, f1, f5, f6, f9, f10, f11, encP]
      refine ⟨hl, ?_, by omega⟩
      rw [hap, pcs]
    · simp; simp at h; omega
  · obtain rfl : rest = [] := by
      cases rest with
      | nil => rfl
      | cons e r => simp_all
    have happ : appA (H ++ [.tok 0 4 55, .tok q.length 4 55]) 4 40 55 [[.int .i64 k, .int .i64 n, .str [], .bool false]] (.osl true 4 (q.map encP) (H.length + 1)) = some (.osl true 4 ((q ++ [(⟨k, n, [], false⟩ : Pc)]).map encP) (H.length + 1), H ++ [.tok 0 4 55, .tok (q.length + 1) 4 55]) := by
      rw [appA_osl (by simp) (by simp; omega)]
      simp [encP]
    simp [f1, f5, f6, happ]
    simp [pcs] at hap
    simp [RetK, cut_app hcl, hap]

theorem longOk (H : Hp) (p : Pc) (h1 : -1125899906842624 ≤ p.f ∧ p.f ≤ 1125899906842624) (h2 : -1125899906842624 ≤ p.t ∧ p.t ≤ 1125899906842624) :
    ACall Try.prog 29 [.agg (encP p |>.map .d)] H (fun r H' => r = .d (.int .i64 p.long) ∧ H' = H) := by
  refine acall_fin rfl cf29 (by simp [ir29]) fun hcl _ => ?_
  simp [ir29, encP]
  refine BrK_split (fun h => ?_) (fun h => ?_)
  · simp [RetK, cut_app hcl, Pc.long, h]
  · simp
    have hw : IntKind.i64.wrap (p.t - p.f) = p.t - p.f := wrap_i64 (by omega) (by omega)
    simp [RetK, cut_app hcl, Pc.long, h, hw]

theorem cutOk (H : Hp) (p : Pc) (a b : Int) (h1 : -1125899906842624 ≤ p.f ∧ p.f ≤ 1125899906842624) (h3 : 0 ≤ a ∧ a ≤ b ∧ b ≤ 1125899906842624) (h4 : p.w = true → b ≤ p.s.length) :
    ACall Try.prog 30 [.agg (encP p |>.map .d), .d (.int .i64 a), .d (.int .i64 b)] H (fun r H' => r = .agg (encP (p.cut a b) |>.map .d) ∧ H' = H) := by
  refine acall_fin rfl cf30 (by simp [ir30]) fun hcl _ => ?_
  simp [ir30, encP]
  refine BrK_split (fun h => ?_) (fun h => ?_)
  · have hsub := subL_ok (s := p.s) (a := a) (b := b) ⟨h3.1, h3.2.1, h4 h⟩
    simp [hsub]
    simp [RetK, cut_app hcl, Pc.cut, h]
  · simp
    have w1 : IntKind.i64.wrap (p.f + a) = p.f + a := wrap_i64 (by omega) (by omega)
    have w2 : IntKind.i64.wrap (p.f + b) = p.f + b := wrap_i64 (by omega) (by omega)
    simp [RetK, cut_app hcl, Pc.cut, h, w1, w2]

theorem partOk (H : Hp) (z : Bool) (l : List Pc) (a b N : Int) (hl : l.length ≤ 1048576) (hN : N ≤ 1073741824) (hp : ∀ p ∈ l, 0 ≤ p.f ∧ p.f ≤ p.t ∧ p.t ≤ N ∧ (p.s.length : Int) ≤ N) (ha : 0 ≤ a ∧ a ≤ 1125899906842624) (hb : 0 ≤ b ∧ b ≤ 1125899906842624) :
    ACall Try.prog 21 [.d (.sl z 4 (l.map encP)), .d (.int .i64 a), .d (.int .i64 b)] H (fun r H' => r = .d (.sl true 4 ((part a b 0 l).map encP)) ∧ H' = H) := by
  refine acall_fin rfl cf21 (by simp [ir21]) fun hcl _ => ?_
  simp [ir21]
  refine LoopK_of (H.length + 1) (fun fr H' => ∃ pre rest, ∃ (k : Int) (q : List Pc), l = pre ++ rest ∧ part a b 0 l = q ++ part a b k rest ∧ q.length ≤ pre.length ∧ 0 ≤ k ∧ k ≤ pre.length * 1073741824 ∧
      fr 1 = .d (.int .i64 a) ∧ fr 2 = .d (.int .i64 b) ∧ fr 7 = .osl true 4 (q.map encP) H.length ∧ fr 8 = .d (.int .i64 k) ∧ fr 13 = .d (.sl z 4 (l.map encP)) ∧ fr 14 = .d (.int .i64 l.length) ∧ fr 15 = .d (.int .i64 (pre.length : Int)) ∧ H' = H ++ [.tok q.length 4 55])
    (fun fr H' => match fr 15 with | .d (.int _ k) => (l.length - k).toNat | _ => 0) (by simp) ?_ ?_
  · refine ⟨[], l, 0, [], ?_⟩
    simp [cut_appk hcl]
  rintro fr H' ⟨pre, rest, k, q, hl', hap, hq, hk0, hk1, f1, f2, f7, f8, f13, f14, f15, rfl⟩
  simp [f13, f14, f15]
  have hpl : pre.length ≤ 1048576 := by rw [hl'] at hl; simp at hl; omega
  refine BrK_split (fun h => ?_) (fun h => ?_)
  · obtain ⟨p, r, rfl⟩ : ∃ p r, rest = p :: r := by
      cases rest with
      | nil => simp_all
      | cons e r => exact ⟨e, r, rfl⟩
    have hr : Zam.rowAt (l.map encP) pre.length = some (encP p) := by rw [hl']; exact rowAt_mid _ _ _ _
    obtain ⟨p1, p2, p3, p4⟩ := hp p (by rw [hl']; simp)
    have hlong : 0 ≤ p.long ∧ p.long ≤ 1073741824 := by unfold Pc.long; split <;> omega
    have w1 : IntKind.i64.wrap (a - k) = a - k := wrap_i64 (by omega) (by omega)
    have w2 : IntKind.i64.wrap (b - k) = b - k := wrap_i64 (by omega) (by omega)
    have w3 : IntKind.i64.wrap (k + p.long) = k + p.long := wrap_i64 (by omega) (by omega)
    have hw : IntKind.i64.wrap (pre.length + 1) = pre.length + 1 := wrap_i64 (by omega) (by omega)
    have hlk := longOk (H ++ [.tok q.length 4 55, .box 55 [.d (.int .i64 p.f), .d (.int .i64 p.t), .d (.str p.s), .d (.bool p.w)]]) p (by omega) (by omega)
    simp [encP] at hlk
    simp [f1, f2, f7, f8, f13, f14, f15, hr, encP, w1, w2]
    refine CallK_of' hlk ?_
    simp [f1, f2, f7, f8, f13, f14, f15, w1, w2]
    refine BrK_split (fun h2 => ?_) (fun h2 => ?_)
    · simp only [decide_eq_true_eq] at h2
      have hck := cutOk (H ++ [.tok q.length 4 55, .box 55 [.d (.int .i64 p.f), .d (.int .i64 p.t), .d (.str p.s), .d (.bool p.w)]]) p (max (a - k) 0) (min (b - k) p.long) (by omega) (by omega) (by intro hw; simp [Pc.long, hw]; omega)
      simp [encP] at hck
      have happ : ∀ X, appA (H ++ .tok q.length 4 55 :: X) 4 40 55 [encP (p.cut (max (a - k) 0) (min (b - k) p.long))] (.osl true 4 (q.map encP) H.length) = some (.osl true 4 ((q ++ [p.cut (max (a - k) 0) (min (b - k) p.long)]).map encP) H.length, H ++ .tok (q.length + 1) 4 55 :: X) := by
        intro X
        rw [appA_osl (by simp) (by simp; omega)]
        simp
      have hlk2 := longOk (H ++ [.tok (q.length + 1) 4 55, .box 55 [.d (.int .i64 p.f), .d (.int .i64 p.t), .d (.str p.s), .d (.bool p.w)]]) p (by omega) (by omega)
      simp [encP] at hlk2 happ
      simp [f1, f2, f7, f8, f13, f14, f15, w1, w2]
      refine CallK_of' hck ?_
      simp [f1, f2, f7, f8, f13, f14, f15, w1, w2, happ]
      refine CallK_of' hlk2 ?_
      simp [f1, f2, f7, f8, f13, f14, f15, w3, hw]
      refine AgainK_of (m := H.length + 1) (by simp) ⟨pre ++ [p], r, k + p.long, q ++ [p.cut (max (a - k) 0) (min (b - k) p.long)], ?_⟩ ?_
      · simp [cut_appk hcl, f1, f2, f7, f8, f13, f14, f15, encP]
        refine ⟨hl', ?_, by omega, by omega, by omega⟩
        rw [hap, part, if_pos h2]
      · simp; simp at h; omega
    · simp only [decide_eq_false_iff_not] at h2
      simp [f1, f2, f7, f8, f13, f14, f15, w1, w2]
      refine CallK_of' hlk ?_
      simp [f1, f2, f7, f8, f13, f14, f15, w3, hw]
      refine AgainK_of (m := H.length + 1) (by simp) ⟨pre ++ [p], r, k + p.long, q, ?_⟩ ?_
      · simp [cut_appk hcl, f1, f2, f7, f8, f13, f14, f15, encP]
        refine ⟨hl', ?_, by omega, by omega, by omega⟩
        rw [hap, part, if_neg h2]
      · simp; simp at h; omega
  · obtain rfl : rest = [] := by
      cases rest with
      | nil => rfl
      | cons e r => simp_all
    simp [f7]
    simp [part] at hap
    simp [RetK, cut_app hcl, hap]

theorem set_same {α : Type} {l : List α} {i : Nat} {x : α} (h : l[i]? = some x) : l.set i x = l := by
  obtain ⟨h1, h2⟩ := List.getElem?_eq_some_iff.1 h
  subst h2; simp

theorem flushOk (H : Hp) (i1 i2 i3 t : Nat) (k to : Int) (x : List UInt8) (q : List Ed) (h1 : H[i1]? = some (.box 3 [.d (.int .i64 k)])) (h2 : H[i2]? = some (.box 9 [.d (.str x)])) (h3 : H[i3]? = some (.box 22 [.osl true 3 (q.map encE) t])) (ht : H[t]? = some (.tok q.length 3 41)) (hq : q.length ≤ 8388608) :
    ACall Try.prog 31 [.d (.int .i64 to), .ptr i1 0, .ptr i2 0, .ptr i3 0] H (fun r H' => r = .tup [] ∧ H' = ((H.set i3 (.box 22 [.osl true 3 ((q ++ flush k x to).map encE) t])).set t (.tok (q ++ flush k x to).length 3 41)).set i2 (.box 9 [.d (.str [])])) := by
  have h1l : i1 < H.length := (List.getElem?_eq_some_iff.1 h1).1
  have h2l : i2 < H.length := (List.getElem?_eq_some_iff.1 h2).1
  have h3l : i3 < H.length := (List.getElem?_eq_some_iff.1 h3).1
  have htl : t < H.length := (List.getElem?_eq_some_iff.1 ht).1
  have e12 : i1 ≠ i2 := fun e => by subst e; rw [h1] at h2; cases h2
  have e13 : i1 ≠ i3 := fun e => by subst e; rw [h1] at h3; cases h3
  have e23 : i2 ≠ i3 := fun e => by subst e; rw [h2] at h3; cases h3
  have et1 : t ≠ i1 := fun e => by subst e; rw [ht] at h1; cases h1
  have et2 : t ≠ i2 := fun e => by subst e; rw [ht] at h2; cases h2
  have et3 : t ≠ i3 := fun e => by subst e; rw [ht] at h3; cases h3
  have happ : appA H 3 32 41 [[.int .i64 k, .int .i64 to, .str x]] (.osl true 3 (q.map encE) t) = some (.osl true 3 ((q ++ [(⟨k, to, x⟩ : Ed)]).map encE) t, H.set t (.tok (q.length + 1) 3 41)) := by
    rw [appA_osl (by simpa using ht) (by simp; omega)]
    simp [encE]
  have hset : ∀ (X Y : Ob), (H.set t X).set i3 Y = (H.set i3 Y).set t X := fun X Y => List.set_comm _ _ et3
  refine acall_fin rfl cf31 (by simp [ir31]) fun hcl _ => ?_
  by_cases hk : k < to
  · simp [ir31, h1, h2, h3, hk, happ, e12, e13, e23, et1, et2, et3, Ne.symm e12, Ne.symm e13, Ne.symm e23, Ne.symm et1, Ne.symm et2, Ne.symm et3, flush]
    simp [RetK, cut_set, cut_self hcl, hset, encE, htl]
  · by_cases hx : x = []
    · subst hx
      simp [ir31, h1, h2, h3, hk, happ, e12, e13, e23, et1, et2, et3, Ne.symm e12, Ne.symm e13, Ne.symm e23, Ne.symm et1, Ne.symm et2, Ne.symm et3, flush]
      simp [RetK, cut_set, cut_self hcl, hset, set_same h3, set_same ht]
    · simp [ir31, h1, h2, h3, hk, hx, happ, e12, e13, e23, et1, et2, et3, Ne.symm e12, Ne.symm e13, Ne.symm e23, Ne.symm et1, Ne.symm et2, Ne.symm et3, flush]
      simp [RetK, cut_set, cut_self hcl, hset, encE, htl]

end Go.Proofs.Zt
