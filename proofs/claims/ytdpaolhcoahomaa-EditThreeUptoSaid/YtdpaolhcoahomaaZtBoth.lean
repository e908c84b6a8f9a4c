/-
  The laws EditBoth and EditThree on the abstract machine return true. The lengths are bounded.
-/
import Derived.Test.YtdpaolhcoahomaaZtLaws
import Derived.Test.YtdpaolhcoahomaaZtCmpX
namespace Go.Proofs.Zt
open Go Go.Zam Go.Proofs
set_option maxRecDepth 100000
set_option linter.all false
set_option maxHeartbeats 4000000

theorem grows_ge {n : Int} : ∀ {l : List Ed} {last p : Int}, soundFrom n last l = 0 → p ≤ last + 1 → p ≤ n → total l ≤ grows l + (n - p)
  | [], _, p, _, _, h => by simp [grows, total]; omega
  | e :: r, last, p, h, h0, h1 => by
    obtain ⟨e1, e2, e3, e4, e5⟩ := soundFrom_cons h
    have := grows_ge (p := e.t) e5 (by omega) e3
    simp only [grows, total]; omega

theorem applyS_len (s : List UInt8) (l : List Ed) : (applyS s l).length ≤ s.length + total l := by
  unfold applyS
  split
  · rename_i h
    obtain ⟨-, h0⟩ := sound_zero h
    have := applied_len s l 0 (-1) h0 (by omega) (by omega) (by omega)
    have := grows_le h0
    omega
  · simp

theorem applied_eq {s : List UInt8} {l : List Ed} (h : sound l s.length = 0) : applyS s l = applied s 0 l := by simp [applyS, h]

theorem composeE_eq {s : List UInt8} {a b : List Ed} : composeE a b s.length = if sound a s.length = 0 then sound b (applyS s a).length else sound a s.length := by
  unfold composeE
  rw [if_neg (by omega)]
  split
  · rename_i h
    obtain ⟨-, h0⟩ := sound_zero h
    have := applied_len s a 0 (-1) h0 (by omega) (by omega) (by omega)
    rw [applied_eq h, this]; congr 1
  · rfl

theorem composeE_ok {s : List UInt8} {a b : List Ed} (h : sound a s.length = 0) (h' : sound b (applyS s a).length = 0) : composeE a b s.length = 0 := by
  rw [composeE_eq, if_pos h, h']

theorem compose_full {s : List UInt8} {a b : List Ed} (h : sound a s.length = 0) (h' : sound b (applyS s a).length = 0) (hn : a.length + b.length ≤ 509) :
    (composeL a b s.length).length ≤ a.length + b.length + 3 ∧ sound (composeL a b s.length) s.length = 0 ∧ applyS s (composeL a b s.length) = applyS (applyS s a) b ∧ total (composeL a b s.length) ≤ s.length + total a + total b := by
  have hE := composeE_ok h h'
  have hL : composeL a b s.length = compose a b s.length := by simp [composeL, hE]
  rw [hL]
  rw [applied_eq h] at h'
  obtain ⟨h1, h2, h3⟩ := compose_law h h' hn
  have h4 : applyS s (compose a b s.length) = applyS (applyS s a) b := by rw [applied_eq h2, applied_eq h, applied_eq h', h3]
  refine ⟨h1, h2, h4, ?_⟩
  have h5 := applyS_len (applyS s a) b
  have h6 := applyS_len s a
  rw [← h4, applied_eq h2] at h5
  obtain ⟨-, h0⟩ := sound_zero h2
  have := applied_len s _ 0 (-1) h0 (by omega) (by omega) (by omega)
  have := grows_ge (p := 0) h0 (by omega) (by omega)
  omega

theorem editBothOk (z z' : Bool) (s : List UInt8) (a b : List Ed) (hb : s.length + total a + total b ≤ 4194304) (ha1 : a.length ≤ 4194304) (hb1 : b.length ≤ 4194304) :
    ACall Try.prog 5 [.d (.str s), .d (.sl z 3 (a.map encE)), .d (.sl z' 3 (b.map encE))] [] (fun r _ => r = .d (.bool true)) := by
  refine acall_fin rfl cf5 (by simp [ir5]) fun hcl _ => ?_
  have hx := applyS_len s a
  have w : IntKind.i64.wrap ((a.length : Int) + b.length) = a.length + b.length := wrap_i64 (by omega) (by omega)
  simp [ir5]
  refine CallK_of' (lightOk _ z s a (by omega) (by omega)) ?_
  cases hL : light s a with
  | false =>
    simp
    refine CallK_of' (awakeOk _) ?_
    simp [RetK]
  | true =>
  simp
  refine CallK_of' (lightOk _ z' s b (by omega) (by omega)) ?_
  cases hL2 : light s b with
  | false =>
    simp
    refine CallK_of' (awakeOk _) ?_
    simp [RetK]
  | true =>
  simp [w]
  refine BrK_split (fun h => ?_) (fun h => ?_)
  · simp
    refine CallK_of' (awakeOk _) ?_
    simp [RetK]
  simp only [decide_eq_false_iff_not] at h
  simp
  refine CallK_of' (applyOk _ z s a (by omega)) ?_
  simp
  refine CallK_of' (applyOk _ z' (applyS s a) b (by omega)) ?_
  simp
  refine CallK_of' (composeOk _ z z' a b s.length (by omega) (by omega) (by omega)) ?_
  have hE := composeE_eq (s := s) (a := a) (b := b)
  by_cases h1 : sound a s.length = 0
  · rw [if_pos h1] at hE
    by_cases h2 : sound b (applyS s a).length = 0
    · obtain ⟨c1, c2, c3, c4⟩ := compose_full h1 h2 (by omega)
      have hm : composeE a b (-1) = 1 := rfl
      rw [h2] at hE
      simp [h1, h2]
      refine CallK_of' (applyOk _ true s (composeL a b s.length) (by omega)) ?_
      simp
      refine CallK_of' (composeOk _ z z' a b (-1) (by omega) (by omega) (by omega)) ?_
      simp
      refine CallK_of' (awakeOk _) ?_
      simp [hE, c2, c3, hm]
      simp [RetK]
    · have hc : composeL a b s.length = [] := by simp [composeL, hE, h2]
      simp [h1, h2]
      refine CallK_of' (awakeOk _) ?_
      simp [hE, hc]
      simp [RetK]
  · rw [if_neg h1] at hE
    have hc : composeL a b s.length = [] := by simp [composeL, hE, h1]
    simp [h1]
    refine CallK_of' (awakeOk _) ?_
    simp [hE, hc]
    simp [RetK]

theorem editThreeOk (z z' z'' : Bool) (s : List UInt8) (a b c : List Ed) (hb : s.length + total a + total b + total c ≤ 2097152) (ha1 : a.length ≤ 4194304) (hb1 : b.length ≤ 4194304) (hc1 : c.length ≤ 4194304) :
    ACall Try.prog 6 [.d (.str s), .d (.sl z 3 (a.map encE)), .d (.sl z' 3 (b.map encE)), .d (.sl z'' 3 (c.map encE))] [] (fun r _ => r = .d (.bool true)) := by
  refine acall_fin rfl cf6 (by simp [ir6]) fun hcl _ => ?_
  have hx := applyS_len s a
  have hy := applyS_len (applyS s a) b
  have w : IntKind.i64.wrap ((a.length : Int) + b.length) = a.length + b.length := wrap_i64 (by omega) (by omega)
  have w' : IntKind.i64.wrap ((a.length : Int) + b.length + c.length) = a.length + b.length + c.length := wrap_i64 (by omega) (by omega)
  simp [ir6]
  refine CallK_of' (lightOk _ z s a (by omega) (by omega)) ?_
  cases hL : light s a with
  | false =>
    simp
    refine CallK_of' (awakeOk _) ?_
    simp [RetK]
  | true =>
  simp
  refine CallK_of' (lightOk _ z' s b (by omega) (by omega)) ?_
  cases hL2 : light s b with
  | false =>
    simp
    refine CallK_of' (awakeOk _) ?_
    simp [RetK]
  | true =>
  simp
  refine CallK_of' (lightOk _ z'' s c (by omega) (by omega)) ?_
  cases hL3 : light s c with
  | false =>
    simp
    refine CallK_of' (awakeOk _) ?_
    simp [RetK]
  | true =>
  simp [w, w']
  refine BrK_split (fun h => ?_) (fun h => ?_)
  · simp
    refine CallK_of' (awakeOk _) ?_
    simp [RetK]
  simp only [decide_eq_false_iff_not] at h
  simp
  refine CallK_of' (applyOk _ z s a (by omega)) ?_
  simp
  refine CallK_of' (applyOk _ z' (applyS s a) b (by omega)) ?_
  simp
  refine CallK_of' (applyOk _ z'' (applyS (applyS s a) b) c (by omega)) ?_
  by_cases h1 : sound a s.length = 0
  · by_cases h2 : sound b (applyS s a).length = 0
    · by_cases h3 : sound c (applyS (applyS s a) b).length = 0
      · obtain ⟨c1, c2, c3, c4⟩ := compose_full h1 h2 (by omega)
        obtain ⟨d1, d2, d3, d4⟩ := compose_full h2 h3 (by omega)
        have h4 : sound c (applyS s (composeL a b s.length)).length = 0 := by rw [c3]; exact h3
        obtain ⟨e1, e2, e3, e4⟩ := compose_full c2 h4 (by omega)
        obtain ⟨f1, f2, f3, f4⟩ := compose_full h1 d2 (by omega)
        simp [h1, h2, h3]
        refine CallK_of' (composeOk _ z z' a b s.length (by omega) (by omega) (by omega)) ?_
        simp
        refine CallK_of' (composeOk _ z' z'' b c (applyS s a).length (by omega) (by omega) (by omega)) ?_
        simp
        refine CallK_of' (composeOk _ true z'' (composeL a b s.length) c s.length (by omega) (by omega) (by omega)) ?_
        simp
        refine CallK_of' (composeOk _ z true a (composeL b c (applyS s a).length) s.length (by omega) (by omega) (by omega)) ?_
        simp [composeE_ok h1 h2, composeE_ok h2 h3, composeE_ok c2 h4, composeE_ok h1 d2]
        refine CallK_of' (applyOk _ true s (composeL (composeL a b s.length) c s.length) (by omega)) ?_
        simp
        refine CallK_of' (applyOk _ true s (composeL a (composeL b c (applyS s a).length) s.length) (by omega)) ?_
        simp
        refine CallK_of' (awakeOk _) ?_
        simp [e2, e3, f2, f3, c3, d3]
        simp [RetK]
      · simp [h1, h2, h3]
        refine CallK_of' (awakeOk _) ?_
        simp [RetK]
    · simp [h1, h2]
      refine CallK_of' (awakeOk _) ?_
      simp [RetK]
  · simp [h1]
    refine CallK_of' (awakeOk _) ?_
    simp [RetK]

end Go.Proofs.Zt
