/-
  The document's Apply on the abstract machine: it computes what Apply does. The lengths are bounded where a theorem says so.
-/
import Derived.Test.YtdpaolhcoahomaaZtRef
namespace Go.Proofs.Zt
open Go Go.Zam Go.Proofs
set_option maxRecDepth 100000
set_option linter.all false
set_option maxHeartbeats 4000000

def remn (s : List UInt8) (k : Nat) : List Ed → List UInt8
  | [] => s.drop k
  | e :: r => if e.f < k then applied s e.t r else applied s k (e :: r)

theorem take_one {s : List UInt8} {k m : Nat} (h : 1 ≤ m) : (s.drop k).take m = (s.drop k).take 1 ++ (s.drop (k + 1)).take (m - 1) := by
  obtain ⟨m, rfl⟩ : ∃ j, m = j + 1 := ⟨m - 1, by omega⟩
  rw [show m + 1 = 1 + m by omega, List.take_add, List.drop_drop, Nat.add_sub_cancel_left]

theorem drop_one (s : List UInt8) (k : Nat) : s.drop k = (s.drop k).take 1 ++ s.drop (k + 1) := by
  rw [← List.drop_drop, List.take_append_drop]

theorem applied_one {s : List UInt8} {k : Nat} {e : Ed} {r : List Ed} (h : (k : Int) < e.f) : applied s k (e :: r) = (s.drop k).take 1 ++ applied s ((k + 1 : Nat) : Int) (e :: r) := by
  simp only [applied, Int.toNat_natCast]
  rw [take_one (m := e.f.toNat - k) (by omega), show e.f.toNat - (k + 1) = e.f.toNat - k - 1 by omega]
  simp

theorem applied_length (s : List UInt8) : ∀ (k : Int) (l : List Ed), (applied s k l).length ≤ (l.length + 1) * s.length + total l
  | k, [] => by simp [applied, total]
  | k, e :: r => by
    have := applied_length s e.t r
    simp only [applied, List.length_append, List.length_take, List.length_drop, total, List.length_cons]
    rw [Nat.add_mul (r.length + 1) 1]
    omega

def J11 (H : Hp) (s : List UInt8) (z : Bool) (l : List Ed) (fr : Fr) (H' : Hp) : Prop :=
  ∃ pre rest, ∃ (k : Nat) (last : Int) (o : List UInt8), l = pre ++ rest ∧ o ++ remn s k rest = applied s 0 l ∧ k ≤ s.length + 1 ∧ soundFrom s.length last rest = 0 ∧ (∀ e r, rest = e :: r → (k : Int) ≤ e.t) ∧
      fr 0 = .d (.str s) ∧ fr 1 = .d (.sl z 3 (l.map encE)) ∧ fr 7 = .d (.str o) ∧ fr 8 = .d (.int .i64 (pre.length : Int)) ∧ fr 9 = .d (.int .i64 (k : Int)) ∧ H' = H

def M11 (s : List UInt8) (fr : Fr) (_ : Hp) : Nat := match fr 9 with | .d (.int _ k) => (s.length + 1 - k).toNat | _ => 0

theorem again11 {H : Hp} (hcl : H.Closed) {s : List UInt8} {z : Bool} {l pre rest : List Ed} {k : Nat} {last : Int} {o : List UInt8} {fr fr0 : Fr} {t : Tag (J11 H s z l, M11 s)} (h9 : fr0 9 = .d (.int .i64 (k : Int))) (hk : k ≤ s.length)
    (h1 : l = pre ++ rest) (h2 : o ++ remn s (k + 1) rest = applied s 0 l) (h3 : soundFrom s.length last rest = 0) (h4 : ∀ e r, rest = e :: r → ((k + 1 : Nat) : Int) ≤ e.t)
    (g0 : fr 0 = .d (.str s)) (g1 : fr 1 = .d (.sl z 3 (l.map encE))) (g7 : fr 7 = .d (.str o)) (g8 : fr 8 = .d (.int .i64 (pre.length : Int))) (g9 : fr 9 = .d (.int .i64 ((k : Int) + 1))) :
    AgainK (J11 H s z l) (M11 s) t H.length (M11 s fr0 H) fr H := by
  refine AgainK_of (Nat.le_refl _) ⟨pre, rest, k + 1, last, o, h1, h2, by omega, h3, h4, ?_⟩ ?_
  · simp [g0, g1, g7, g8, g9, cut_self hcl]
  · simp [M11, h9, g9]
    omega

theorem strOp_add {a b : List UInt8} (h : a.length + b.length ≤ 9223372036854775807) : strOp .add a b = some (.str (a ++ b)) := by simp [strOp, h]

theorem refApplyOk (H : Hp) (z : Bool) (s : List UInt8) (l : List Ed) (hb : s.length + total l ≤ 70368744177664) :
    ACall Try.prog 11 [.d (.str s), .d (.sl z 3 (l.map encE))] H (fun r H' => r = .tup [.d (.str (applyS s l)), .d (.int .i64 (sound l s.length))] ∧ H' = H) := by
  refine acall_fin rfl cf11 (by simp [ir11]) fun hcl _ => ?_
  simp [ir11]
  refine CallK_of' (refSoundOk H z l s.length) ?_
  simp
  refine BrK_split (fun h => ?_) (fun h => ?_)
  · simp [RetK, cut_self hcl]
    simp at h
    simp [applyS, h]
  have h0 : sound l s.length = 0 := by simpa using h
  obtain ⟨hl512, hs0⟩ := sound_zero h0
  have hal : (applied s 0 l).length ≤ 72057594037927936 := by
    have := applied_length s 0 l
    have h5 : (l.length + 1) * s.length ≤ 513 * s.length := Nat.mul_le_mul_right _ (by omega)
    omega
  simp
  refine LoopK_of H.length (J11 H s z l) (M11 s) (by simp) ?_ ?_
  · refine ⟨[], l, 0, -1, [], rfl, ?_, Nat.zero_le _, hs0, fun e r hl => ?_, ?_⟩
    · cases l with
      | nil => simp [remn, applied]
      | cons e r =>
        have := soundFrom_cons hs0
        simp only [remn]; rw [if_neg (by omega)]; rfl
    · subst hl; have := soundFrom_cons hs0; simp; omega
    · simp [cut_self hcl]
  rintro fr H' ⟨pre, rest, k, last, o, hl, hap, hk, hsf, hkt, f0, f1, f7, f8, f9, rfl⟩
  simp [f0, f9]
  refine BrK_split (fun h => ?_) (fun h => ?_)
  · have hk2 : k ≤ s.length := by simpa using h
    have hw : IntKind.i64.wrap ((k : Int) + 1) = k + 1 := wrap_i64 (by omega) (by omega)
    have hsub : k < s.length → subL s (k : Int) ((k : Int) + 1) = some ((s.drop k).take 1) := fun hlt => by
      rw [subL_ok ⟨by omega, by omega, by omega⟩]; simp
    rcases rest with _ | ⟨e, r⟩
    · have hln : l.length = pre.length := by simp [hl]
      by_cases hlt : k < s.length
      · have hx : remn s k [] = (s.drop k).take 1 ++ remn s (k + 1) [] := drop_one s k
        rw [hx] at hap
        have hle := congrArg List.length hap
        rw [List.length_append, List.length_append] at hle
        have hst := strOp_add (a := o) (b := (s.drop k).take 1) (by omega)
        simp [-strOp, f0, f1, f7, f8, f9, hln, hlt, hsub hlt, hw, hst]
        exact again11 hcl f9 hk2 hl (o := o ++ (s.drop k).take 1) (by rw [List.append_assoc]; exact hap) hsf (by simp) (by simp [f0]) (by simp [f1]) (by simp) (by simp [f8]) (by simp)
      · have hx : remn s k [] = remn s (k + 1) [] := by simp only [remn]; rw [List.drop_eq_nil_of_le (by omega), List.drop_eq_nil_of_le (by omega)]
        rw [hx] at hap
        simp [-strOp, f0, f1, f7, f8, f9, hln, hlt, hw]
        exact again11 hcl f9 hk2 hl hap hsf (by simp) (by simp [f0]) (by simp [f1]) (by simp [f7]) (by simp [f8]) (by simp)
    · obtain ⟨e1, e2, e3, e4, e5⟩ := soundFrom_cons hsf
      have kt := hkt e r rfl
      have hr : Zam.rowAt (l.map encE) pre.length = some (encE e) := by rw [hl]; exact rowAt_mid _ _ _ _
      have hln : l.length = pre.length + (r.length + 1) := by simp [hl]
      have hp : pre.length < l.length := by omega
      have hw8 : IntKind.i64.wrap ((pre.length : Int) + 1) = pre.length + 1 := wrap_i64 (by omega) (by omega)
      by_cases hA : e.t = k
      · have hl' : l = (pre ++ [e]) ++ r := by simp [hl]
        have hB' : e.f = k ∨ e.f < k := by omega
        have hBle : e.f ≤ k := by omega
        have hrem : remn s k (e :: r) = (if e.f = k then e.s else []) ++ applied s k r := by
          rcases hB' with hB | hB
          · simp only [remn, applied]; rw [if_neg (by omega), if_pos hB, hB, hA]; simp
          · simp only [remn]; rw [if_pos hB, if_neg (by omega), hA]; rfl
        rcases r with _ | ⟨e', r'⟩
        · have hln1 : l.length = pre.length + 1 := by simpa using hln
          have hq1 : (pre.length : Int) < pre.length + 1 := by omega
          by_cases hlt : k < s.length
          · have hx : remn s k [e] = (if e.f = k then e.s else []) ++ ((s.drop k).take 1 ++ remn s (k + 1) []) := by
              rw [hrem]; simp only [applied, remn, Int.toNat_natCast]; rw [← drop_one]
            rw [hx] at hap
            have hle := congrArg List.length hap
            rw [List.length_append, List.length_append, List.length_append] at hle
            by_cases hB : e.f = k
            · rw [if_pos hB] at hap hle
              have hst0 := strOp_add (a := o) (b := e.s) (by omega)
              have hst := strOp_add (a := o ++ e.s) (b := (s.drop k).take 1) (by rw [List.length_append]; omega)
              simp [-strOp, -List.append_assoc, f0, f1, f7, f8, f9, hln1, hq1, hr, encE, hA, hB, hlt, hsub hlt, hw, hw8, hst0, hst]
              exact again11 hcl f9 hk2 hl' (o := o ++ e.s ++ (s.drop k).take 1) (by rw [List.append_assoc, List.append_assoc]; exact hap) e5 (by simp) (by simp [f0]) (by simp [f1]) (by simp) (by simp) (by simp)
            · rw [if_neg hB] at hap hle
              have hst := strOp_add (a := o) (b := (s.drop k).take 1) (by omega)
              simp [-strOp, -List.append_assoc, f0, f1, f7, f8, f9, hln1, hq1, hr, encE, hA, hB, hBle, hlt, hsub hlt, hw, hw8, hst]
              exact again11 hcl f9 hk2 hl' (o := o ++ (s.drop k).take 1) (by rw [List.append_assoc]; exact hap) e5 (by simp) (by simp [f0]) (by simp [f1]) (by simp) (by simp) (by simp)
          · have hx : remn s k [e] = (if e.f = k then e.s else []) ++ remn s (k + 1) [] := by
              rw [hrem]; simp only [applied, remn, Int.toNat_natCast]; rw [List.drop_eq_nil_of_le (by omega), List.drop_eq_nil_of_le (by omega)]
            rw [hx] at hap
            have hle := congrArg List.length hap
            rw [List.length_append, List.length_append] at hle
            by_cases hB : e.f = k
            · rw [if_pos hB] at hap hle
              have hst0 := strOp_add (a := o) (b := e.s) (by omega)
              simp [-strOp, -List.append_assoc, f0, f1, f7, f8, f9, hln1, hq1, hr, encE, hA, hB, hlt, hw, hw8, hst0]
              exact again11 hcl f9 hk2 hl' (o := o ++ e.s) (by rw [List.append_assoc]; exact hap) e5 (by simp) (by simp [f0]) (by simp [f1]) (by simp) (by simp) (by simp)
            · rw [if_neg hB] at hap hle
              simp [-strOp, -List.append_assoc, f0, f1, f7, f8, f9, hln1, hq1, hr, encE, hA, hB, hBle, hlt, hw, hw8]
              exact again11 hcl f9 hk2 hl' (o := o) hap e5 (by simp) (by simp [f0]) (by simp [f1]) (by simp [f7]) (by simp) (by simp)
        · obtain ⟨d1, d2, d3, d4, d5⟩ := soundFrom_cons e5
          have hlt : k < s.length := by omega
          have hr2 : Zam.rowAt (l.map encE) ((pre.length : Int) + 1) = some (encE e') := by
            have := rowAt_mid encE (pre ++ [e]) r' e'
            rw [← hl'] at this; simpa using this
          have hp2 : pre.length + 1 < l.length := by simp at hln; omega
          have hN : ¬ e'.f ≤ k := by omega
          have hq2 : (pre.length : Int) + 1 < l.length := by omega
          have hx : remn s k (e :: e' :: r') = (if e.f = k then e.s else []) ++ ((s.drop k).take 1 ++ remn s (k + 1) (e' :: r')) := by
            rw [hrem, applied_one (by omega)]; simp only [remn]; rw [if_neg (c := e'.f < ((k + 1 : Nat) : Int)) (by omega)]
          rw [hx] at hap
          have hle := congrArg List.length hap
          rw [List.length_append, List.length_append, List.length_append] at hle
          have h4 : ∀ y q, e' :: r' = y :: q → ((k + 1 : Nat) : Int) ≤ y.t := fun y q hy => by cases hy; omega
          by_cases hB : e.f = k
          · rw [if_pos hB] at hap hle
            have hst0 := strOp_add (a := o) (b := e.s) (by omega)
            have hst := strOp_add (a := o ++ e.s) (b := (s.drop k).take 1) (by rw [List.length_append]; omega)
            simp [-strOp, -List.append_assoc, f0, f1, f7, f8, f9, hp, hp2, hq2, hr, hr2, hN, encE, hA, hB, hlt, hsub hlt, hw, hw8, hst0, hst]
            exact again11 hcl f9 hk2 hl' (o := o ++ e.s ++ (s.drop k).take 1) (by rw [List.append_assoc, List.append_assoc]; exact hap) e5 h4 (by simp [f0]) (by simp [f1]) (by simp) (by simp) (by simp)
          · rw [if_neg hB] at hap hle
            have hst := strOp_add (a := o) (b := (s.drop k).take 1) (by omega)
            simp [-strOp, -List.append_assoc, f0, f1, f7, f8, f9, hp, hp2, hq2, hr, hr2, hN, encE, hA, hB, hlt, hsub hlt, hw, hw8, hst]
            exact again11 hcl f9 hk2 hl' (o := o ++ (s.drop k).take 1) (by rw [List.append_assoc]; exact hap) e5 h4 (by simp [f0]) (by simp [f1]) (by simp) (by simp) (by simp)
      · have hkt' : (k : Int) < e.t := by omega
        have hlt : k < s.length := by omega
        have h4 : ∀ y q, e :: r = y :: q → ((k + 1 : Nat) : Int) ≤ y.t := fun y q hy => by cases hy; omega
        rcases Int.lt_trichotomy e.f k with hB | hB | hB
        · have hB1 : ¬ e.f = k := by omega
          have hB2 : e.f ≤ k := by omega
          have hx : remn s k (e :: r) = remn s (k + 1) (e :: r) := by simp only [remn]; rw [if_pos hB, if_pos (by omega)]
          rw [hx] at hap
          simp [-strOp, -List.append_assoc, f0, f1, f7, f8, f9, hp, hr, encE, hA, hB1, hB2, hkt', hlt, hw, hw8]
          exact again11 hcl f9 hk2 hl (o := o) hap hsf h4 (by simp [f0]) (by simp [f1]) (by simp [f7]) (by simp [f8]) (by simp)
        · have hx : remn s k (e :: r) = e.s ++ remn s (k + 1) (e :: r) := by
            simp only [remn]; rw [if_neg (by omega), if_pos (by omega), applied, hB]; simp
          rw [hx] at hap
          have hle := congrArg List.length hap
          rw [List.length_append, List.length_append] at hle
          have hst0 := strOp_add (a := o) (b := e.s) (by omega)
          simp [-strOp, -List.append_assoc, f0, f1, f7, f8, f9, hp, hr, encE, hA, hB, hkt', hlt, hw, hw8, hst0]
          exact again11 hcl f9 hk2 hl (o := o ++ e.s) (by rw [List.append_assoc]; exact hap) hsf h4 (by simp [f0]) (by simp [f1]) (by simp) (by simp [f8]) (by simp)
        · have hB1 : ¬ e.f = k := by omega
          have hB2 : ¬ e.f ≤ k := by omega
          have hx : remn s k (e :: r) = (s.drop k).take 1 ++ remn s (k + 1) (e :: r) := by
            simp only [remn]; rw [if_neg (by omega), if_neg (by omega), applied_one hB]
          rw [hx] at hap
          have hle := congrArg List.length hap
          rw [List.length_append, List.length_append] at hle
          have hst := strOp_add (a := o) (b := (s.drop k).take 1) (by omega)
          simp [-strOp, -List.append_assoc, f0, f1, f7, f8, f9, hp, hr, encE, hA, hB1, hB2, hlt, hsub hlt, hw, hw8, hst]
          exact again11 hcl f9 hk2 hl (o := o ++ (s.drop k).take 1) (by rw [List.append_assoc]; exact hap) hsf h4 (by simp [f0]) (by simp [f1]) (by simp) (by simp [f8]) (by simp)
  · obtain ⟨rfl⟩ : rest = [] := by
      cases rest with
      | nil => rfl
      | cons e r =>
        have h1 := soundFrom_cons hsf
        have h2 := hkt e r rfl
        simp at h; omega
    simp at h
    simp [RetK, cut_self hcl, f7, h0, applyS, ← hap, remn]
    omega

end Go.Proofs.Zt
