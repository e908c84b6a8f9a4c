/-
  Compose on the abstract machine: what it computes. The lengths are bounded.
-/
import Derived.Test.YtdpaolhcoahomaaZtCmpW
import Derived.Test.YtdpaolhcoahomaaZtRefA
import Derived.Test.YtdpaolhcoahomaaZam20
namespace Go.Proofs.Zt
open Go Go.Zam Go.Proofs
set_option maxRecDepth 100000
set_option linter.all false
set_option maxHeartbeats 1000000

def totP : List Pc → Nat
  | [] => 0
  | p :: r => p.s.length + totP r

theorem editsOk (H : Hp) (z : Bool) (l : List Pc) (n : Int) (hl : l.length ≤ 4194304) (ht : totP l ≤ 70368744177664) :
    ACall Try.prog 22 [.d (.sl z 4 (l.map encP)), .d (.int .i64 n)] H (fun r H' => r = .d (.sl true 3 ((eds n 0 [] l).map encE)) ∧ H' = H) := by
  refine acall_fin rfl cf22 (by simp [ir22]) fun hcl _ => ?_
  simp [ir22]
  refine LoopK_of (H.length + 4) (fun fr H' => ∃ pre rest, ∃ (k : Int) (x : List UInt8) (q : List Ed), l = pre ++ rest ∧ eds n 0 [] l = q ++ eds n k x rest ∧ q.length ≤ pre.length ∧ x.length + totP rest ≤ totP l ∧
      fr 1 = .d (.int .i64 n) ∧ fr 5 = .ptr (H.length + 1) 0 ∧ fr 6 = .ptr (H.length + 2) 0 ∧ fr 7 = .ptr (H.length + 3) 0 ∧ fr 8 = .fn (.func 31) [] [.ptr (H.length + 2) 0, .ptr (H.length + 3) 0, .ptr (H.length + 1) 0] ∧
      fr 12 = .d (.sl z 4 (l.map encP)) ∧ fr 13 = .d (.int .i64 l.length) ∧ fr 14 = .d (.int .i64 (pre.length : Int)) ∧ H' = H ++ [.tok q.length 3 41, .box 22 [.osl true 3 (q.map encE) H.length], .box 3 [.d (.int .i64 k)], .box 9 [.d (.str x)]])
    (fun fr H' => match fr 14 with | .d (.int _ k) => (l.length - k).toNat | _ => 0) (by simp) ?_ ?_
  · refine ⟨[], l, 0, [], [], ?_⟩
    simp [cut_appk hcl, A.lo]
  rintro fr H' ⟨pre, rest, k, x, q, hl', hap, hq, htt, f1, f5, f6, f7, f8, f12, f13, f14, rfl⟩
  simp [f12, f13, f14]
  have hpl : pre.length ≤ 4194304 := by rw [hl'] at hl; simp at hl; omega
  have hc : callOk Try.prog 31 = true := by kernel_rfl
  refine BrK_split (fun h => ?_) (fun h => ?_)
  · obtain ⟨p, r, rfl⟩ : ∃ p r, rest = p :: r := by
      cases rest with
      | nil => simp_all
      | cons e r => exact ⟨e, r, rfl⟩
    have hr : Zam.rowAt (l.map encP) pre.length = some (encP p) := by rw [hl']; exact rowAt_mid _ _ _ _
    simp only [totP] at htt
    have hw : IntKind.i64.wrap (pre.length + 1) = pre.length + 1 := wrap_i64 (by omega) (by omega)
    have hst := strOp_add (a := x) (b := p.s) (by omega)
    simp [f1, f5, f6, f7, f8, f12, f13, f14, hr, encP, hst, -strOp, -List.append_assoc]
    refine BrK_split (fun hn => ?_) (fun hn => ?_)
    · simp [f1, f5, f6, f7, f8, f12, f13, f14, hst, hw, -strOp, -List.append_assoc]
      refine AgainK_of (m := H.length + 4) (by simp) ⟨pre ++ [p], r, k, x ++ p.s, q, ?_⟩ ?_
      · simp [cut_appk hcl, f1, f5, f6, f7, f8, f12, f13, f14, A.lo]
        refine ⟨hl', ?_, by omega, by omega⟩
        rw [hap, eds, if_pos hn]
      · simp; simp at h; omega
    · simp [f1, f5, f6, f7, f8, f12, f13, f14]
      refine BrK_split (fun h2 => ?_) (fun h2 => ?_)
      · simp only [decide_eq_true_eq] at h2
        have hfl := fun X => flushOk (H ++ .tok q.length 3 41 :: .box 22 [.osl true 3 (q.map encE) H.length] :: .box 3 [.d (.int .i64 k)] :: .box 9 [.d (.str x)] :: X) (H.length + 2) (H.length + 3) (H.length + 1) H.length k p.f x q (by simp) (by simp) (by simp) (by simp) (by omega)
        simp at hfl
        simp [f1, f5, f6, f7, f8, f12, f13, f14, hc]
        refine CallK_of' (hfl _) ?_
        simp [f1, f5, f6, f7, f8, f12, f13, f14, hw]
        refine AgainK_of (m := H.length + 4) (by simp) ⟨pre ++ [p], r, p.t, [], q ++ flush k x p.f, ?_⟩ ?_
        · simp [cut_appk hcl, f1, f5, f6, f7, f8, f12, f13, f14, A.lo]
          have := flush_len k x p.f
          refine ⟨hl', ?_, by omega, by omega⟩
          rw [hap, eds, if_neg (by simp [hn]), if_pos h2]
        · simp; simp at h; omega
      · simp only [decide_eq_false_iff_not] at h2
        simp [f1, f5, f6, f7, f8, f12, f13, f14, hw]
        refine AgainK_of (m := H.length + 4) (by simp) ⟨pre ++ [p], r, k, x, q, ?_⟩ ?_
        · simp [cut_appk hcl, f1, f5, f6, f7, f8, f12, f13, f14, A.lo]
          refine ⟨hl', ?_, by omega, by omega⟩
          rw [hap, eds, if_neg (by simp [hn]), if_neg h2]
        · simp; simp at h; omega
  · obtain rfl : rest = [] := by
      cases rest with
      | nil => rfl
      | cons e r => simp_all
    have hfl := flushOk (H ++ [.tok q.length 3 41, .box 22 [.osl true 3 (q.map encE) H.length], .box 3 [.d (.int .i64 k)], .box 9 [.d (.str x)]]) (H.length + 2) (H.length + 3) (H.length + 1) H.length k n x q (by simp) (by simp) (by simp) (by simp) (by omega)
    simp at hfl
    simp [f1, f5, f6, f7, f8, hc]
    refine CallK_of' hfl ?_
    simp [f5]
    simp [eds] at hap
    simp [RetK, cut_app hcl, hap]

theorem totP_app (a b : List Pc) : totP (a ++ b) = totP a + totP b := by
  induction a with
  | nil => simp [totP]
  | cons p a ih => simp [totP, ih]; omega

theorem totP_part (a b : Int) : ∀ (l : List Pc) (k : Int), totP (part a b k l) ≤ totP l ∧ (part a b k l).length ≤ l.length
  | [], _ => by simp [part]
  | p :: r, k => by
    have ih := totP_part a b r (k + p.long)
    rw [part]
    split
    · have : (p.cut (max (a - k) 0) (min (b - k) p.long)).s.length ≤ p.s.length := by
        unfold Pc.cut; split <;> simp; omega
      simp only [totP, List.length_cons]; omega
    · simp only [totP, List.length_cons]; omega

theorem totP_allOf (first : List Pc) : ∀ (l : List Pc), totP (allOf first l) ≤ totP l + l.length * totP first ∧ (allOf first l).length ≤ l.length * (first.length + 1)
  | [] => by simp [allOf, totP]
  | p :: r => by
    have ih := totP_allOf first r
    have h1 := totP_part p.f p.t first 0
    simp only [allOf, totP_app, List.length_append, totP, List.length_cons, Nat.add_mul]
    split
    · simp [totP]; omega
    · omega

theorem pcs_facts {n : Int} : ∀ (l : List Ed) (k : Int), (pcs n k l).length = 2 * l.length + 1 ∧ totP (pcs n k l) = total l
  | [], k => by simp [pcs, totP, total]
  | e :: r, k => by
    have := pcs_facts (n := n) r e.t
    simp only [pcs, List.length_cons, totP, total, List.length_nil]; omega

theorem pcs_in {n N : Int} : ∀ {l : List Ed} {k last : Int}, soundFrom n last l = 0 → 0 ≤ k → k ≤ last + 1 → k ≤ n → n + total l ≤ N → ∀ p ∈ pcs n k l, 0 ≤ p.f ∧ p.f ≤ p.t ∧ p.t ≤ N ∧ (p.s.length : Int) ≤ N
  | [], k, last, h, h0, h1, h2, hN, p, hp => by
    simp only [pcs, List.mem_singleton] at hp
    subst hp
    simp only [total] at hN
    simp; omega
  | e :: r, k, last, h, h0, h1, h2, hN, p, hp => by
    obtain ⟨e1, e2, e3, e4, e5⟩ := soundFrom_cons h
    simp only [total] at hN
    simp only [pcs, List.mem_cons] at hp
    rcases hp with rfl | rfl | hp
    · simp; omega
    · simp; omega
    · exact pcs_in e5 (by omega) (by omega) e3 (by omega) p hp

/-- Compose's answer -/
def composeE (a b : List Ed) (n : Int) : Int := if n < 0 then 1 else if sound a n = 0 then sound b (n + grows a) else sound a n
def composeL (a b : List Ed) (n : Int) : List Ed := if composeE a b n = 0 then compose a b n else []

theorem composeE_zero {a b : List Ed} {n : Int} (h : composeE a b n = 0) : 0 ≤ n ∧ sound a n = 0 ∧ sound b (n + grows a) = 0 := by
  unfold composeE at h
  split at h
  · cases h
  · split at h
    · exact ⟨by omega, by assumption, h⟩
    · contradiction

theorem grows_le {n : Int} : ∀ {l : List Ed} {last : Int}, soundFrom n last l = 0 → grows l ≤ total l
  | [], _, _ => by simp [grows, total]
  | e :: r, last, h => by
    obtain ⟨e1, e2, e3, e4, e5⟩ := soundFrom_cons h
    have := grows_le e5
    simp only [grows, total]; omega

theorem composeOk (H : Hp) (z z' : Bool) (a b : List Ed) (n : Int) (hn : n ≤ 4194304) (ha : total a ≤ 4194304) (hb : total b ≤ 4194304) :
    ACall Try.prog 16 [.d (.sl z 3 (a.map encE)), .d (.sl z' 3 (b.map encE)), .d (.int .i64 n)] H (fun r H' => r = .tup [.d (.sl true 3 ((composeL a b n).map encE)), .d (.int .i64 (composeE a b n))] ∧ H' = H) := by
  refine acall_fin rfl cf16 (by simp [ir16]) fun hcl _ => ?_
  simp [ir16]
  refine BrK_split (fun h => ?_) (fun h => ?_)
  · simp only [decide_eq_true_eq] at h
    simp [RetK, cut_self hcl, composeL, composeE, h]
  simp only [decide_eq_false_iff_not] at h
  simp
  refine CallK_of' (soundOk H z a n) ?_
  simp
  refine BrK_split (fun h1 => ?_) (fun h1 => ?_)
  · simp at h1
    simp [RetK, cut_self hcl, composeL, composeE, h, h1]
  have h1 : sound a n = 0 := by simpa using h1
  obtain ⟨ha512, ha0⟩ := sound_zero h1
  simp
  refine CallK_of' (growsOk H z n a (by omega) h1 (by omega)) ?_
  obtain ⟨s, hs⟩ : ∃ s : List UInt8, (s.length : Int) = n := ⟨List.replicate n.toNat 0, by simp; omega⟩
  subst hs
  have hlen := applied_len s a 0 (-1) ha0 (by omega) (by omega) (by omega)
  have hbd : grows a ≤ total a := by
    clear hlen
    exact grows_le ha0
  have w1 : IntKind.i64.wrap (s.length + grows a) = s.length + grows a := wrap_i64 (by omega) (by omega)
  simp [w1]
  refine CallK_of' (soundOk H z' b _) ?_
  simp
  refine BrK_split (fun h2 => ?_) (fun h2 => ?_)
  · simp at h2
    simp [RetK, cut_self hcl, composeL, composeE, h, h1, h2]
  have h2 : sound b (s.length + grows a) = 0 := by simpa using h2
  obtain ⟨hb512, hb0⟩ := sound_zero h2
  simp
  refine CallK_of' (piecesOk H z a s.length (by omega)) ?_
  simp
  have hz : composeE a b s.length = 0 := by simp [composeE, h, h1, h2]
  refine CallK_of' (piecesOk _ z' b _ (by omega)) ?_
  generalize hF : pcs s.length 0 a = F
  have hFl : F.length = 2 * a.length + 1 ∧ totP F = total a := by rw [← hF]; exact pcs_facts a 0
  have hFp : ∀ p ∈ F, 0 ≤ p.f ∧ p.f ≤ p.t ∧ p.t ≤ 1073741824 ∧ (p.s.length : Int) ≤ 1073741824 := by
    rw [← hF]; exact pcs_in ha0 (by omega) (by omega) (by omega) (by omega)
  generalize hG : pcs (s.length + grows a) 0 b = G
  have hGl : G.length = 2 * b.length + 1 ∧ totP G = total b := by rw [← hG]; exact pcs_facts b 0
  have hGp : ∀ p ∈ G, 0 ≤ p.f ∧ p.f ≤ p.t ∧ p.t ≤ 1073741824 ∧ (p.s.length : Int) ≤ 1073741824 := by
    rw [← hG]; exact pcs_in hb0 (by omega) (by omega) (by omega) (by omega)
  obtain ⟨hA1, hA2⟩ := totP_allOf F G
  have hA3 : G.length * totP F ≤ 1025 * 4194304 := Nat.mul_le_mul (by omega) (by omega)
  have hA4 : G.length * (F.length + 1) ≤ 1025 * 1026 := Nat.mul_le_mul (by omega) (by omega)
  have hres : compose a b s.length = eds s.length 0 [] (allOf F G) := by rw [compose, hF, hG]
  clear hF hG
  simp
  refine LoopK_of (H.length + 1) (fun fr H' => ∃ pre rest, ∃ (q : List Pc), G = pre ++ rest ∧ allOf F G = q ++ allOf F rest ∧ 
      fr 2 = .d (.int .i64 s.length) ∧ fr 11 = .d (.sl true 4 (F.map encP)) ∧ fr 12 = .osl true 4 (q.map encP) H.length ∧ fr 38 = .d (.sl true 4 (G.map encP)) ∧ fr 39 = .d (.int .i64 G.length) ∧ fr 40 = .d (.int .i64 (pre.length : Int)) ∧ H' = H ++ [.tok q.length 4 55])
    (fun fr H' => match fr 40 with | .d (.int _ k) => (G.length - k).toNat | _ => 0) (by simp) ?_ ?_
  · refine ⟨[], G, [], ?_⟩
    simp [cut_appk hcl]
  rintro fr H' ⟨pre, rest, q, hl', hap, f2, f11, f12, f38, f39, f40, rfl⟩
  have hql : q.length ≤ 4194304 := by have := congrArg List.length hap; simp at this; omega
  simp [f38, f39, f40]
  refine BrK_split (fun h => ?_) (fun h => ?_)
  · obtain ⟨p, r, rfl⟩ : ∃ p r, rest = p :: r := by
      cases rest with
      | nil => simp_all
      | cons e r => exact ⟨e, r, rfl⟩
    have hr : Zam.rowAt (G.map encP) pre.length = some (encP p) := by rw [hl']; exact rowAt_mid _ _ _ _
    obtain ⟨p1, p2, p3, p4⟩ := hGp p (by rw [hl']; simp)
    have hpl : pre.length ≤ 4194304 := by have := congrArg List.length hl'; simp at this; omega
    have hw : IntKind.i64.wrap (pre.length + 1) = pre.length + 1 := wrap_i64 (by omega) (by omega)
    have happ : ∀ X, appA (H ++ .tok q.length 4 55 :: X) 4 40 55 [encP p] (.osl true 4 (q.map encP) H.length) = some (.osl true 4 ((q ++ [p]).map encP) H.length, H ++ .tok (q.length + 1) 4 55 :: X) := by
      intro X
      rw [appA_osl (by simp) (by simp; omega)]
      simp
    have hpt := totP_part p.f p.t F 0
    have happ2 : ∀ X, appA (H ++ .tok q.length 4 55 :: X) 4 40 55 ((part p.f p.t 0 F).map encP) (.osl true 4 (q.map encP) H.length) = some (.osl true 4 ((q ++ part p.f p.t 0 F).map encP) H.length, H ++ .tok (q.length + (part p.f p.t 0 F).length) 4 55 :: X) := by
      intro X
      rw [appA_osl (by simp) (by simp; omega)]
      simp
    simp [encP] at happ
    simp [f2, f11, f12, f38, f39, f40, hr, encP]
    refine BrK_split (fun hn => ?_) (fun hn => ?_)
    · simp [f2, f11, f12, f38, f39, f40, hw, hn] at happ ⊢
      simp [f2, f11, f12, f38, f39, f40, hw, hn, happ]
      refine AgainK_of (m := H.length + 1) (by simp) ⟨pre ++ [p], r, q ++ [p], ?_⟩ ?_
      · simp [cut_appk hcl, f2, f11, f12, f38, f39, f40, encP, hn]
        refine ⟨hl', ?_⟩
        rw [hap, allOf, if_pos hn]; simp
      · simp; simp at h; omega
    · simp [f2, f11, f12, f38, f39, f40]
      refine CallK_of' (partOk _ true F p.f p.t 1073741824 (by omega) (by omega) hFp (by omega) (by omega)) ?_
      simp [f2, f11, f12, f38, f39, f40, hw, happ2]
      refine AgainK_of (m := H.length + 1) (by simp) ⟨pre ++ [p], r, q ++ part p.f p.t 0 F, ?_⟩ ?_
      · simp [cut_appk hcl, f2, f11, f12, f38, f39, f40]
        refine ⟨hl', ?_⟩
        rw [hap, allOf, if_neg (by simp [hn])]; 
      · simp; simp at h; omega
  · obtain rfl : rest = [] := by
      cases rest with
      | nil => rfl
      | cons e r => exfalso; rw [hl'] at h; simp at h
    simp [allOf] at hap
    have hA5 : totP q ≤ 70368744177664 := by rw [← hap]; omega
    simp [f2, f12]
    refine CallK_shut (editsOk _ true q s.length (by omega) hA5) ?_
    simp [RetK, cut_app hcl, composeL, hz, hres, hap]

end Go.Proofs.Zt
