/-
  An abstract machine over the model, thirty-first part: the functions on edits: what they compute, over any program that has them. The lengths are bounded where a theorem says so.
-/
import Derived.Test.YtjpdjaglggcbkaaZam30
namespace Go.Zam
set_option linter.all false
set_option maxRecDepth 100000
set_option maxHeartbeats 1000000

/-- strings.Builder's copyCheck, at a program -/
def CopyOk (P : Program) (cc : FuncId) (bt : TypeId) : Prop := ∀ (H : Hp) (i : Nat) (x a : A), H[i]? = some (.box bt [a, x]) → (a = .d .nilp ∨ a = .ptr i 0) → ACall P cc [.ptr i 0] H (fun r H' => r = .tup [] ∧ H' = H.set i (.box bt [.ptr i 0, x]))
/-- strings.Builder's String, at a program -/
def StringOk (P : Program) (st : FuncId) (bt : TypeId) : Prop := ∀ (H : Hp) (i t : Nat) (a : A) (s : List UInt8), H[i]? = some (.box bt [a, .osl true 1 (byteRows s) t]) → H[t]? = some (.tok s.length 1 5) → s.length ≤ 140737488355328 → ACall P st [.ptr i 0] H (fun r H' => r = .d (.str s) ∧ H' = H)

section
variable {P : Program} {et bt : Nat}

theorem sound_acall {f : FuncId} {fn : Func} (hf : P.funcs[f]? = some fn) (hcf : compF P [] fn = some (irSound et)) (H : Hp) (z : Bool) (l : List Ed) (n : Int) : ACall P f [.d (.sl z 3 (l.map encE)), .d (.int .i64 n)] H (fun r H' => r = .d (.int .i64 (sound l n)) ∧ H' = H) := by
  refine acall_fin hf hcf (by simp [irSound]) fun hcl _ => ?_
  simp [irSound]
  refine BrK_split (fun h => ?_) (fun h => ?_)
  · simp [RetK, cut_self hcl, sound] at h ⊢
    omega
  simp
  refine LoopK_of H.length (fun fr H' => ∃ pre rest last, l = pre ++ rest ∧ sound l n = soundFrom n last rest ∧ fr 1 = .d (.int .i64 n) ∧ fr 5 = .d (.int .i64 last) ∧ fr 11 = .d (.sl z 3 (l.map encE)) ∧ fr 12 = .d (.int .i64 l.length) ∧ fr 13 = .d (.int .i64 (pre.length : Int)) ∧ H' = H)
    (fun fr H' => match fr 13 with | .d (.int _ k) => (l.length - k).toNat | _ => 0) (by simp) ?_ ?_
  · refine ⟨[], l, -1, ?_⟩
    simp [cut_self hcl, sound]
    simp at h; omega
  rintro fr H' ⟨pre, rest, last, hl, hs, f1, f5, f11, f12, f13, rfl⟩
  simp [f1, f5, f11, f12, f13]
  refine BrK_split (fun h => ?_) (fun h => ?_)
  · obtain ⟨e, r, rfl⟩ : ∃ e r, rest = e :: r := by
      cases rest with
      | nil => simp_all
      | cons e r => exact ⟨e, r, rfl⟩
    have hr : Zam.rowAt (l.map encE) pre.length = some (encE e) := by rw [hl]; exact rowAt_mid _ _ _ _
    simp [f1, f5, f11, f12, f13, hr, encE]
    repeat' (first
      | refine GdK_split (by simp) (fun h => ?_) (fun h => ?_)
      | refine BrK_split (fun h => ?_) (fun h => ?_)
      | simp [f1, f5, f11, f12, f13])
    all_goals simp only [decide_eq_true_eq, decide_eq_false_iff_not, Bool.not_true, Bool.not_false] at *
    all_goals first
      | (clear hl hr; simp_all [RetK, cut_app hcl, soundFrom]; done)
      | (refine AgainK_of (m := H'.length) (by simp) ⟨pre ++ [e], r, e.t, ?_⟩ ?_
         · have hw : IntKind.i64.wrap (pre.length + 1) = pre.length + 1 := wrap_i64 (by omega) (by omega)
           simp [cut_app hcl, f1, f5, f11, f12, f13, hw]
           refine ⟨hl, ?_⟩
           clear hl hr
           rw [hs, soundFrom]
           (repeat' split) <;> first | rfl | omega | (simp_all; done) | (simp_all; omega)
         · have hw : IntKind.i64.wrap (pre.length + 1) = pre.length + 1 := wrap_i64 (by omega) (by omega)
           simp [hw]; omega)
  · obtain rfl : rest = [] := by
      cases rest with
      | nil => rfl
      | cons e r => simp_all
    simp [RetK, hs, soundFrom, cut_self hcl]


theorem write_acall {f cc : FuncId} {fn : Func} (hf : P.funcs[f]? = some fn) (hcf : compF P [] fn = some (irWrite cc)) (hcc : CopyOk P cc bt) (H : Hp) (i t : Nat) (a : A) (bs s : List UInt8) (hi : H[i]? = some (.box bt [a, .osl true 1 (byteRows bs) t])) (ha : a = .d .nilp ∨ a = .ptr i 0) (ht : H[t]? = some (.tok bs.length 1 5)) (hb : bs.length + s.length ≤ 140737488355328) :
    ACall P f [.ptr i 0, .d (.str s)] H (fun r H' => r = .tup [.d (.int .i64 s.length), .d .nili] ∧ H' = (H.set i (.box bt [.ptr i 0, .osl true 1 (byteRows (bs ++ s)) t])).set t (.tok (bs ++ s).length 1 5)) := by
  have hit : i ≠ t := fun e => by subst e; rw [hi] at ht; cases ht
  have hil : i < H.length := (List.getElem?_eq_some_iff.1 hi).1
  have htl : t < H.length := (List.getElem?_eq_some_iff.1 ht).1
  refine acall_fin hf hcf (by simp [irWrite]) fun hcl hlo => ?_
  simp [irWrite]
  refine CallK_of' (hcc _ _ _ _ hi ha) ?_
  have ht' : (H.set i (.box bt [.ptr i 0, .osl true 1 (byteRows bs) t]))[t]? = some (.tok (byteRows bs).length 1 5) := by
    rw [List.getElem?_set_ne hit, ht, byteRows_length]
  have happ := appA_osl (z := true) (b := 1) (new := byteRows s) ht' (by simp; omega)
  simp [hil, htl, hit, ht, happ, Ne.symm hit]
  simp [RetK, Hp.cut_set, cut_self hcl, hil, htl, byteRows_append]
  rw [List.set_comm _ _ hit, List.set_comm _ _ hit, List.set_set]


theorem apply_acall {f f1 f2 f3 cc : FuncId} {fn fn1 fn2 : Func} (hf : P.funcs[f]? = some fn) (hcf : compF P [7] fn = some (irApply et bt f1 f2 f3)) (hf1 : P.funcs[f1]? = some fn1) (hcf1 : compF P [] fn1 = some (irSound et)) (hf2 : P.funcs[f2]? = some fn2) (hcf2 : compF P [] fn2 = some (irWrite cc)) (hcc : CopyOk P cc bt) (hst : StringOk P f3 bt) (H : Hp) (z : Bool) (s : List UInt8) (l : List Ed) (hb : s.length + total l ≤ 70368744177664) :
    ACall P f [.d (.str s), .d (.sl z 3 (l.map encE))] H (fun r H' => r = .tup [.d (.str (applyS s l)), .d (.int .i64 (sound l s.length))] ∧ H' = H) := by
  refine acall_fin hf hcf (by simp [irApply]) fun hcl _ => ?_
  simp [irApply]
  refine CallK_of' (sound_acall hf1 hcf1 H z l s.length) ?_
  simp
  refine BrK_split (fun h => ?_) (fun h => ?_)
  · simp [RetK, cut_self hcl]
    simp at h
    simp [applyS, h]
  have h0 : sound l s.length = 0 := by simpa using h
  obtain ⟨hl512, hs0⟩ := sound_zero h0
  simp
  refine LoopK_of (H.length + 2) (fun fr H' => ∃ pre rest, ∃ (p last : Int) (bs : List UInt8) (a : A), l = pre ++ rest ∧ bs ++ applied s p rest = applied s 0 l ∧ 0 ≤ p ∧ p ≤ s.length ∧ p ≤ last + 1 ∧ soundFrom s.length last rest = 0 ∧
      bs.length + (s.length - p.toNat) + total rest ≤ s.length + total l ∧ (a = .d .nilp ∨ a = .ptr (H.length + 1) 0) ∧
      fr 0 = .d (.str s) ∧ fr 7 = .ptr (H.length + 1) 0 ∧ fr 8 = .d (.int .i64 p) ∧ fr 18 = .d (.sl z 3 (l.map encE)) ∧ fr 19 = .d (.int .i64 l.length) ∧ fr 20 = .d (.int .i64 (pre.length : Int)) ∧ H' = H ++ [.tok bs.length 1 5, .box bt [a, .osl true 1 (byteRows bs) H.length]])
    (fun fr H' => match fr 20 with | .d (.int _ k) => (l.length - k).toNat | _ => 0) (by simp) ?_ ?_
  · refine ⟨[], l, 0, -1, [], .d .nilp, ?_⟩
    simp [cut_appk hcl, hs0, byteRows]
  rintro fr H' ⟨pre, rest, p, last, bs, a, hl, hap, hp0, hp1, hp2, hsf, hsz, ha, f0, f7, f8, f18, f19, f20, rfl⟩
  simp [f18, f19, f20]
  refine BrK_split (fun h => ?_) (fun h => ?_)
  · obtain ⟨e, r, rfl⟩ : ∃ e r, rest = e :: r := by
      cases rest with
      | nil => simp_all
      | cons e r => exact ⟨e, r, rfl⟩
    have hr : Zam.rowAt (l.map encE) pre.length = some (encE e) := by rw [hl]; exact rowAt_mid _ _ _ _
    obtain ⟨e1, e2, e3, e4, e5⟩ := soundFrom_cons hsf
    simp only [total] at hsz
    have hsub := subL_ok (s := s) (a := p) (b := e.f) ⟨hp0, by omega, by omega⟩
    have hlen : ((s.drop p.toNat).take (e.f.toNat - p.toNat)).length = e.f.toNat - p.toNat := by simp; omega
    simp [f0, f7, f8, f18, f19, f20, hr, encE, hsub]
    refine CallK_of' (write_acall hf2 hcf2 hcc _ (H.length + 1) H.length a bs ((s.drop p.toNat).take (e.f.toNat - p.toNat)) (by simp) ha (by simp) (by omega)) ?_
    simp [f0, f7, f8, f18, f19, f20]
    refine CallK_of' (write_acall hf2 hcf2 hcc _ (H.length + 1) H.length (.ptr (H.length + 1) 0) (bs ++ (s.drop p.toNat).take (e.f.toNat - p.toNat)) e.s (by simp) (.inr rfl) (by simp) (by rw [List.length_append]; omega)) ?_
    have hw : IntKind.i64.wrap (pre.length + 1) = pre.length + 1 := wrap_i64 (by omega) (by simp at h; omega)
    simp [f0, f7, f8, f18, f19, f20, hw]
    refine AgainK_of (m := H.length + 2) (by simp) ⟨pre ++ [e], r, e.t, e.t, bs ++ ((s.drop p.toNat).take (e.f.toNat - p.toNat) ++ e.s), .ptr (H.length + 1) 0, ?_⟩ ?_
    · simp [cut_appk hcl, f0, f7, f8, f18, f19, f20]
      refine ⟨hl, ?_, by omega, e3, by omega, e5, ?_⟩
      · rw [← hap, applied]
      · omega
    · simp; simp at h; omega
  · obtain rfl : rest = [] := by
      cases rest with
      | nil => rfl
      | cons e r => simp_all
    have hsub := subL_ok (s := s) (a := p) (b := s.length) ⟨hp0, hp1, by omega⟩
    have htk : (s.drop p.toNat).take ((s.length : Int).toNat - p.toNat) = s.drop p.toNat := List.take_of_length_le (by simp)
    rw [htk] at hsub
    simp [total] at hsz
    simp [f0, f7, f8, hsub]
    refine CallK_of' (write_acall hf2 hcf2 hcc _ (H.length + 1) H.length a bs (s.drop p.toNat) (by simp) ha (by simp) (by simp; omega)) ?_
    simp [f0, f7, f8]
    refine CallK_of' (hst _ (H.length + 1) H.length (.ptr (H.length + 1) 0) (bs ++ s.drop p.toNat) (by simp) (by simp) (by simp; omega)) ?_
    simp [RetK, cut_app hcl, h0, applyS]
    simpa [applied] using hap


theorem invert_acall {f f1 : FuncId} {fn fn1 : Func} (hf : P.funcs[f]? = some fn) (hcf : compF P [7] fn = some (irInvert et f1)) (hf1 : P.funcs[f1]? = some fn1) (hcf1 : compF P [] fn1 = some (irSound et)) (H : Hp) (z : Bool) (s : List UInt8) (l : List Ed) (hb : s.length + total l ≤ 70368744177664) :
    ACall P f [.d (.str s), .d (.sl z 3 (l.map encE))] H (fun r H' => r = .tup [.d (.sl true 3 ((invS s l).map encE)), .d (.int .i64 (sound l s.length))] ∧ H' = H) := by
  refine acall_fin hf hcf (by simp [irInvert]) fun hcl _ => ?_
  simp [irInvert]
  refine CallK_of' (sound_acall hf1 hcf1 H z l s.length) ?_
  simp
  refine BrK_split (fun h => ?_) (fun h => ?_)
  · simp [RetK, cut_self hcl]
    simp at h
    simp [invS, h]
  have h0 : sound l s.length = 0 := by simpa using h
  obtain ⟨hl512, hs0⟩ := sound_zero h0
  simp
  refine LoopK_of (H.length + 1) (fun fr H' => ∃ pre rest, ∃ (p last d : Int) (q : List Ed), l = pre ++ rest ∧ inv s 0 l = q ++ inv s d rest ∧ q.length = pre.length ∧ 0 ≤ p ∧ p ≤ s.length ∧ p ≤ last + 1 ∧ soundFrom s.length last rest = 0 ∧
      0 ≤ p + d ∧ d + total rest ≤ total l ∧
      fr 0 = .d (.str s) ∧ fr 7 = .osl true 3 (q.map encE) H.length ∧ fr 8 = .d (.int .i64 d) ∧ fr 19 = .d (.sl z 3 (l.map encE)) ∧ fr 20 = .d (.int .i64 l.length) ∧ fr 21 = .d (.int .i64 (pre.length : Int)) ∧ H' = H ++ [.tok q.length 3 et])
    (fun fr H' => match fr 21 with | .d (.int _ k) => (l.length - k).toNat | _ => 0) (by simp) ?_ ?_
  · refine ⟨[], l, 0, -1, 0, [], ?_⟩
    simp [cut_appk hcl, hs0]
  rintro fr H' ⟨pre, rest, p, last, d, q, hl, hap, hq, hp0, hp1, hp2, hsf, hpd, hsz, f0, f7, f8, f19, f20, f21, rfl⟩
  simp [f19, f20, f21]
  refine BrK_split (fun h => ?_) (fun h => ?_)
  · obtain ⟨e, r, rfl⟩ : ∃ e r, rest = e :: r := by
      cases rest with
      | nil => simp_all
      | cons e r => exact ⟨e, r, rfl⟩
    have hr : Zam.rowAt (l.map encE) pre.length = some (encE e) := by rw [hl]; exact rowAt_mid _ _ _ _
    obtain ⟨e1, e2, e3, e4, e5⟩ := soundFrom_cons hsf
    simp only [total] at hsz
    have hsub := subL_ok (s := s) (a := e.f) (b := e.t) ⟨e1, by omega, by omega⟩
    have w1 : IntKind.i64.wrap (e.f + d) = e.f + d := wrap_i64 (by omega) (by omega)
    have w2 : IntKind.i64.wrap (e.f + d + e.s.length) = e.f + d + e.s.length := wrap_i64 (by omega) (by omega)
    have w3 : IntKind.i64.wrap (e.t - e.f) = e.t - e.f := wrap_i64 (by omega) (by omega)
    have w4 : IntKind.i64.wrap (e.s.length - (e.t - e.f)) = e.s.length - (e.t - e.f) := wrap_i64 (by omega) (by omega)
    have w5 : IntKind.i64.wrap (d + (e.s.length - (e.t - e.f))) = d + (e.s.length - (e.t - e.f)) := wrap_i64 (by omega) (by omega)
    have hpl : pre.length ≤ 512 := by rw [hl] at hl512; simp at hl512; omega
    have happ : ∀ X, appA (H ++ .tok q.length 3 et :: X) 3 32 et [[.int .i64 (e.f + d), .int .i64 (e.f + d + e.s.length), .str ((s.drop e.f.toNat).take (e.t.toNat - e.f.toNat))]] (.osl true 3 (q.map encE) H.length) = some (.osl true 3 ((q ++ [(⟨e.f + d, e.f + d + e.s.length, (s.drop e.f.toNat).take (e.t.toNat - e.f.toNat)⟩ : Ed)]).map encE) H.length, H ++ .tok (q.length + 1) 3 et :: X) := by
      intro X
      rw [appA_osl (by simp) (by simp; omega)]
      simp [encE]
    simp [f0, f7, f8, f19, f20, f21, hr, encE, hsub, w1, w2, w3, w4, w5, happ]
    have hw : IntKind.i64.wrap (pre.length + 1) = pre.length + 1 := wrap_i64 (by omega) (by omega)
    simp [f21, hw]
    refine AgainK_of (m := H.length + 1) (by simp) ⟨pre ++ [e], r, e.t, e.t, d + (e.s.length - (e.t - e.f)), q ++ [⟨e.f + d, e.f + d + e.s.length, (s.drop e.f.toNat).take (e.t.toNat - e.f.toNat)⟩], ?_⟩ ?_
    · simp [cut_appk hcl, f0, f7, f8, f19, f20, f21]
      refine ⟨hl, ?_, by omega, by omega, by omega, by omega, e5, by omega, by omega, ?_⟩
      rotate_left
      · simp [encE]
      rw [hap, inv]
    · simp; simp at h; omega
  · obtain rfl : rest = [] := by
      cases rest with
      | nil => rfl
      | cons e r => simp_all
    simp [f7]
    simp [inv] at hap
    simp [RetK, cut_app hcl, h0, invS, hap]


theorem grows_acall {f : FuncId} {fn : Func} (hf : P.funcs[f]? = some fn) (hcf : compF P [] fn = some (irGrows et)) (H : Hp) (z : Bool) (n : Int) (l : List Ed) (hn0 : 0 ≤ n) (h0 : sound l n = 0) (hb : n + total l ≤ 70368744177664) :
    ACall P f [.d (.sl z 3 (l.map encE))] H (fun r H' => r = .d (.int .i64 (grows l)) ∧ H' = H) := by
  refine acall_fin hf hcf (by simp [irGrows]) fun hcl _ => ?_
  simp [irGrows]
  obtain ⟨hl512, hs0⟩ := sound_zero h0
  refine LoopK_of H.length (fun fr H' => ∃ pre rest, ∃ (p last d : Int), l = pre ++ rest ∧ grows l = d + grows rest ∧ 0 ≤ p ∧ p ≤ n ∧ p ≤ last + 1 ∧ soundFrom n last rest = 0 ∧
      0 ≤ p + d ∧ d + total rest ≤ total l ∧
      fr 3 = .d (.int .i64 d) ∧ fr 6 = .d (.sl z 3 (l.map encE)) ∧ fr 7 = .d (.int .i64 l.length) ∧ fr 8 = .d (.int .i64 (pre.length : Int)) ∧ H' = H)
    (fun fr H' => match fr 8 with | .d (.int _ k) => (l.length - k).toNat | _ => 0) (by simp) ?_ ?_
  · refine ⟨[], l, 0, -1, 0, ?_⟩
    simp [cut_self hcl, hs0, hn0]
  rintro fr H' ⟨pre, rest, p, last, d, hl, hap, hp0, hp1, hp2, hsf, hpd, hsz, f3, f6, f7, f8, rfl⟩
  simp [f6, f7, f8]
  refine BrK_split (fun h => ?_) (fun h => ?_)
  · obtain ⟨e, r, rfl⟩ : ∃ e r, rest = e :: r := by
      cases rest with
      | nil => simp_all
      | cons e r => exact ⟨e, r, rfl⟩
    have hr : Zam.rowAt (l.map encE) pre.length = some (encE e) := by rw [hl]; exact rowAt_mid _ _ _ _
    obtain ⟨e1, e2, e3, e4, e5⟩ := soundFrom_cons hsf
    simp only [total] at hsz
    have w3 : IntKind.i64.wrap (e.t - e.f) = e.t - e.f := wrap_i64 (by omega) (by omega)
    have w4 : IntKind.i64.wrap (e.s.length - (e.t - e.f)) = e.s.length - (e.t - e.f) := wrap_i64 (by omega) (by omega)
    have w5 : IntKind.i64.wrap (d + (e.s.length - (e.t - e.f))) = d + (e.s.length - (e.t - e.f)) := wrap_i64 (by omega) (by omega)
    have hpl : pre.length ≤ 512 := by rw [hl] at hl512; simp at hl512; omega
    simp [f3, f6, f7, f8, hr, encE, w3, w4, w5]
    have hw : IntKind.i64.wrap (pre.length + 1) = pre.length + 1 := wrap_i64 (by omega) (by omega)
    simp [f8, hw]
    refine AgainK_of (m := H'.length) (by simp) ⟨pre ++ [e], r, e.t, e.t, d + (e.s.length - (e.t - e.f)), ?_⟩ ?_
    · simp [cut_app hcl, f3, f6, f7, f8]
      refine ⟨hl, ?_, by omega, by omega, by omega, e5, by omega, by omega⟩
      rw [hap, grows]; omega
    · simp; simp at h; omega
  · obtain rfl : rest = [] := by
      cases rest with
      | nil => rfl
      | cons e r => simp_all
    simp [f3]
    simp [grows] at hap
    simp [RetK, cut_self hcl, hap]


end
end Go.Zam
