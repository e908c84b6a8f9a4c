/-
  Sound, light and WriteString on the abstract machine: what they compute. The texts' lengths are bounded where a theorem says so.
-/
import Derived.Test.YtdpaolhcoahomaaZam18
import Derived.Test.YtdpaolhcoahomaaZtIr
import Derived.Test.YtdpaolhcoahomaaZtBld
namespace Go.Proofs.Zt
open Go Go.Zam Go.Proofs
set_option maxRecDepth 100000
set_option linter.all false
set_option maxHeartbeats 1000000

structure Ed where
  f : Int
  t : Int
  s : List UInt8

def encE (e : Ed) : List D := [.int .i64 e.f, .int .i64 e.t, .str e.s]

def soundFrom (n : Int) : Int → List Ed → Int
  | _, [] => 0
  | last, e :: r => if e.f < 0 ∨ e.t < e.f ∨ n < e.t then 6 else if e.f = e.t ∧ e.s = [] then 1 else if e.f ≤ last then 7 else soundFrom n e.t r

def sound (l : List Ed) (n : Int) : Int := if 512 < l.length then 5 else soundFrom n (-1) l

def total : List Ed → Nat
  | [] => 0
  | e :: r => e.s.length + total r

def lightFrom : Int → List Ed → Bool
  | _, [] => true
  | n, e :: r => if 3000 < n + e.s.length then false else lightFrom (n + e.s.length) r

def light (s : List UInt8) (l : List Ed) : Bool := lightFrom s.length l && decide (l.length ≤ 600)

theorem soundOk (H : Hp) (z : Bool) (l : List Ed) (n : Int) : ACall Try.prog 12 [.d (.sl z 3 (l.map encE)), .d (.int .i64 n)] H (fun r H' => r = .d (.int .i64 (sound l n)) ∧ H' = H) := by
  refine acall_fin rfl cf12 (by simp [ir12]) fun hcl _ => ?_
  simp [ir12]
  refine BrK_split (fun h => ?_) (fun h => ?_)
  · simp [RetK, cut_self hcl, sound] at h ⊢
    omega
  simp
  refine LoopK_of H.length (fun fr H' => ∃ pre rest last, l = pre ++ rest ∧ sound l n = soundFrom n last rest ∧ fr 1 = .d (.int .i64 n) ∧ fr 5 = .d (.int .i64 last) ∧ fr 11 = .d (.sl z 3 (l.map encE)) ∧ fr 12 = .d (.int .i64 l.length) ∧ fr 13 = .d (.int .i64 (pre.length : Int)) ∧ H' = H)
    (fun fr H' => match fr 13 with | .d (.int _ k) => (l.length - k).toNat | _ => 0) (by simp) ?_ ?_
  · refine ⟨[], l, -1, ?_⟩
    simp [cut_self hcl, sound]
    simp at h; omega
  rintro fr H' ⟨pre, rest, last, hl, hs, f1, f5, f11, f12, f13, rfl⟩
  simp [f1, f5, f11, f12, f13]
  refine BrK_split (fun h => ?_) (fun h => ?_)
  · obtain ⟨e, r, rfl⟩ : ∃ e r, rest = e :: r := by
      cases rest with
      | nil => simp_all
      | cons e r => exact ⟨e, r, rfl⟩
    have hr : Zam.rowAt (l.map encE) pre.length = some (encE e) := by rw [hl]; exact rowAt_mid _ _ _ _
    simp [f1, f5, f11, f12, f13, hr, encE]
    repeat' (first
      | refine GdK_split (by simp) (fun h => ?_) (fun h => ?_)
      | refine BrK_split (fun h => ?_) (fun h => ?_)
      | simp [f1, f5, f11, f12, f13])
    all_goals simp only [decide_eq_true_eq, decide_eq_false_iff_not, Bool.not_true, Bool.not_false] at *
    all_goals first
      | (clear hl hr; simp_all [RetK, cut_app hcl, soundFrom]; done)
      | (refine AgainK_of (m := H'.length) (by simp) ⟨pre ++ [e], r, e.t, ?_⟩ ?_
         · have hw : IntKind.i64.wrap (pre.length + 1) = pre.length + 1 := wrap_i64 (by omega) (by omega)
           simp [cut_app hcl, f1, f5, f11, f12, f13, hw]
           refine ⟨hl, ?_⟩
           clear hl hr
           rw [hs, soundFrom]
           (repeat' split) <;> first | rfl | omega | (simp_all; done) | (simp_all; omega)
         · have hw : IntKind.i64.wrap (pre.length + 1) = pre.length + 1 := wrap_i64 (by omega) (by omega)
           simp [hw]; omega)
  · obtain rfl : rest = [] := by
      cases rest with
      | nil => rfl
      | cons e r => simp_all
    simp [RetK, hs, soundFrom, cut_self hcl]

theorem appA_osl {H : Hp} {t sz b e : Nat} {z : Bool} {rows new : List (List D)} (ht : H[t]? = some (.tok rows.length sz e)) (hf : (rows.length + new.length) * b ≤ 140737488355328) :
    appA H sz b e new (.osl z sz rows t) = some (.osl z sz (rows ++ new) t, H.set t (.tok (rows.length + new.length) sz e)) := by
  simp [appA, ht, hf]

@[simp] theorem byteRows_length (s : List UInt8) : (byteRows s).length = s.length := by simp [byteRows]
theorem byteRows_append (a b : List UInt8) : byteRows (a ++ b) = byteRows a ++ byteRows b := by simp [byteRows]

theorem lightOk (H : Hp) (z : Bool) (s : List UInt8) (l : List Ed) (hb : s.length + total l ≤ 4611686018427387904) (hb2 : l.length ≤ 4611686018427387904) :
    ACall Try.prog 8 [.d (.str s), .d (.sl z 3 (l.map encE))] H (fun r H' => r = .d (.bool (light s l)) ∧ H' = H) := by
  refine acall_fin rfl cf8 (by simp [ir8]) fun hcl _ => ?_
  simp [ir8]
  refine LoopK_of H.length (fun fr H' => ∃ pre rest, ∃ n : Nat, l = pre ++ rest ∧ lightFrom s.length l = lightFrom n rest ∧ n + total rest ≤ 4611686018427387904 ∧ fr 1 = .d (.sl z 3 (l.map encE)) ∧ fr 5 = .d (.int .i64 n) ∧ fr 10 = .d (.sl z 3 (l.map encE)) ∧ fr 11 = .d (.int .i64 l.length) ∧ fr 12 = .d (.int .i64 (pre.length : Int)) ∧ H' = H)
    (fun fr H' => match fr 12 with | .d (.int _ k) => (l.length - k).toNat | _ => 0) (by simp) ?_ ?_
  · refine ⟨[], l, s.length, ?_⟩
    simp [cut_self hcl]
    exact hb
  rintro fr H' ⟨pre, rest, n, hl, hs, hn, f1, f5, f10, f11, f12, rfl⟩
  simp [f1, f5, f10, f11, f12]
  refine BrK_split (fun h => ?_) (fun h => ?_)
  · obtain ⟨e, r, rfl⟩ : ∃ e r, rest = e :: r := by
      cases rest with
      | nil => simp_all
      | cons e r => exact ⟨e, r, rfl⟩
    have hr : Zam.rowAt (l.map encE) pre.length = some (encE e) := by rw [hl]; exact rowAt_mid _ _ _ _
    simp only [total] at hn
    have hw2 : IntKind.i64.wrap ((n : Int) + e.s.length) = n + e.s.length := wrap_i64 (by omega) (by omega)
    simp [f1, f5, f10, f11, f12, hr, encE, hw2]
    have hw : IntKind.i64.wrap (pre.length + 1) = pre.length + 1 := wrap_i64 (by omega) (by simp at h; omega)
    refine BrK_split (fun h3 => ?_) (fun h3 => ?_)
    · simp [RetK, cut_app hcl]
      simp at h3
      simp [light, hs, lightFrom, h3]
    · simp [f12, hw]
      simp at h3
      refine AgainK_of (m := H'.length) (by simp) ⟨pre ++ [e], r, n + e.s.length, ?_⟩ ?_
      · simp [cut_app hcl, f1, f5, f10, f11, f12, hw2]
        refine ⟨hl, ?_, by omega⟩
        rw [hs, lightFrom, if_neg (by omega)]
      · simp; simp at h; omega
  · obtain rfl : rest = [] := by
      cases rest with
      | nil => rfl
      | cons e r => simp_all
    simp [f1]
    simp [RetK, light, hs, lightFrom, cut_self hcl]
    omega

theorem cut_set (n i : Nat) (H : Hp) (x : Ob) : Hp.cut n (H.set i x) = (Hp.cut n H).set i (x.clr n) := by
  simp only [Hp.cut, List.take_set, List.map_set]

theorem writeOk (H : Hp) (i t : Nat) (a : A) (bs s : List UInt8) (hi : H[i]? = some (.box 46 [a, .osl true 1 (byteRows bs) t])) (ha : a = .d .nilp ∨ a = .ptr i 0) (ht : H[t]? = some (.tok bs.length 1 5)) (hb : bs.length + s.length ≤ 140737488355328) :
    ACall Try.prog 18 [.ptr i 0, .d (.str s)] H (fun r H' => r = .tup [.d (.int .i64 s.length), .d .nili] ∧ H' = (H.set i (.box 46 [.ptr i 0, .osl true 1 (byteRows (bs ++ s)) t])).set t (.tok (bs ++ s).length 1 5)) := by
  have hit : i ≠ t := fun e => by subst e; rw [hi] at ht; cases ht
  have hil : i < H.length := (List.getElem?_eq_some_iff.1 hi).1
  have htl : t < H.length := (List.getElem?_eq_some_iff.1 ht).1
  refine acall_fin rfl cf18 (by simp [ir18]) fun hcl hlo => ?_
  simp [ir18]
  refine CallK_of' (copyCheckOk hi ha) ?_
  have ht' : (H.set i (.box 46 [.ptr i 0, .osl true 1 (byteRows bs) t]))[t]? = some (.tok (byteRows bs).length 1 5) := by
    rw [List.getElem?_set_ne hit, ht, byteRows_length]
  have happ := appA_osl (z := true) (b := 1) (new := byteRows s) ht' (by simp; omega)
  simp [hil, htl, hit, ht, happ, Ne.symm hit]
  simp [RetK, cut_set, cut_self hcl, hil, htl, byteRows_append]
  rw [List.set_comm _ _ hit, List.set_comm _ _ hit, List.set_set]

end Go.Proofs.Zt
