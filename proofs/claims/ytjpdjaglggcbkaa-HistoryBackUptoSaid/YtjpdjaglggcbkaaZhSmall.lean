/-
  The small functions of the statements on histories, on the abstract machine: Light, fits, Same. The lengths are bounded.
-/
import Derived.Test.YtjpdjaglggcbkaaZhHist
import Derived.Test.YtjpdjaglggcbkaaZhIrB
namespace Go.Proofs.Zh
open Go Go.Zam Go.Proofs
set_option maxRecDepth 100000
set_option linter.all false
set_option maxHeartbeats 1000000

def lightB (most : Int) : Int → List Mod → Bool
  | _, [] => true
  | n, m :: r => if most < n + (m.n.length + m.t.length) then false else lightB most (n + (m.n.length + m.t.length)) r

def light (l : List Mod) (most : Int) : Bool := lightB most 0 l && decide (l.length ≤ 20)

theorem lightB_le {most : Int} : ∀ {l : List Mod} {n : Int}, 0 ≤ n → lightB most n l = true → ∀ m ∈ l, (m.t.length : Int) ≤ most
  | [], _, _, _, m, hm => by simp at hm
  | x :: l, n, h0, h, m, hm => by
    simp only [lightB] at h
    split at h
    · simp at h
    · rename_i h1
      rcases List.mem_cons.1 hm with rfl | hm
      · omega
      · exact lightB_le (by omega) h m hm

theorem lightOk (H : Hp) (z : Bool) (l : List Mod) (most : Int) (hm : 0 ≤ most ∧ most ≤ 1048576) (hl : l.length ≤ 1048576) (hs : ∀ m ∈ l, m.n.length ≤ 1048576 ∧ m.t.length ≤ 1048576) :
    ACall Try.prog 6 [.d (.sl z 2 (l.map encM)), .d (.int .i64 most)] H (fun r H' => r = .d (.bool (light l most)) ∧ H' = H) := by
  refine acall_fin Try.func6 cf6 (by simp [ir6]) fun hcl _ => ?_
  simp [ir6]
  refine LoopK_of H.length (fun fr H' => ∃ pre rest, ∃ n : Int, l = pre ++ rest ∧ 0 ≤ n ∧ n ≤ most ∧ lightB most 0 l = lightB most n rest ∧ fr 0 = .d (.sl z 2 (l.map encM)) ∧ fr 1 = .d (.int .i64 most) ∧ fr 5 = .d (.int .i64 n) ∧ fr 8 = .d (.sl z 2 (l.map encM)) ∧ fr 9 = .d (.int .i64 l.length) ∧ fr 10 = .d (.int .i64 (pre.length : Int)) ∧ H' = H)
    (fun fr H' => match fr 10 with | .d (.int _ k) => (l.length - k).toNat | _ => 0) (by simp) ?_ ?_
  · refine ⟨[], l, 0, ?_⟩
    simp [cut_self hcl, hm]
  rintro fr H' ⟨pre, rest, n, hcs, hn0, hnm, hli, f0, f1, f5, f8, f9, f10, hH⟩
  rw [hH]
  simp [f9, f10]
  refine BrK_split (fun h => ?_) (fun h => ?_)
  · obtain ⟨c, rest, rfl⟩ : ∃ e r, rest = e :: r := by
      cases rest with
      | nil => rw [hcs] at h; simp at h
      | cons e r => exact ⟨e, r, rfl⟩
    have hpl : pre.length < l.length := by rw [hcs]; simp
    obtain ⟨s1, s2⟩ := hs c (by rw [hcs]; simp)
    have hw : IntKind.i64.wrap ((pre.length : Int) + 1) = pre.length + 1 := wrap_i64 (by omega) (by omega)
    have hw2 : IntKind.i64.wrap ((c.n.length : Int) + c.t.length) = c.n.length + c.t.length := wrap_i64 (by omega) (by omega)
    have hw3 : IntKind.i64.wrap (n + ((c.n.length : Int) + c.t.length)) = n + (c.n.length + c.t.length) := wrap_i64 (by omega) (by omega)
    have hgr : Zam.rowAt (l.map encM) (pre.length : Int) = some (encM c) := by simp [Zam.rowAt, hcs]
    simp [f1, f5, f8, f10, hgr, encM, hw2, hw3]
    refine BrK_split (fun h2 => ?_) (fun h2 => ?_)
    · simp at h2
      have : light l most = false := by simp only [light, hli, lightB, if_pos h2, Bool.false_and]
      simp
      simp [RetK, cut_app hcl, this]
    · simp at h2
      simp [f10, hw]
      refine AgainK_of (m := H.length) (by simp) ⟨pre ++ [c], rest, n + (c.n.length + c.t.length), ?_⟩ ?_
      · simp [f0, f1, f8, f9, cut_app hcl, hcs]
        refine ⟨by omega, by omega, ?_⟩
        rw [← hcs, hli, lightB, if_neg (by omega)]
      · simp; omega
  · obtain rfl : rest = [] := by
      cases rest with
      | nil => rfl
      | cons e r => exfalso; rw [hcs] at h; simp at h
    have : light l most = decide (l.length ≤ 20) := by simp only [light, hli, lightB, Bool.true_and]
    simp [f0]
    simp [RetK, cut_self hcl, this]
    omega

deriving instance DecidableEq for Mod

theorem eqM (x y : Mod) : eqDs [.str [], .str []] (rowE encM x) (rowE encM y) = some (decide (x = y)) := by
  cases x; cases y
  simp [rowE, encM, eqDs, eqD]

theorem sameOk (H : Hp) (z z' : Bool) (a b : List Mod) (ha : a.length ≤ 1048576) :
    ACall Try.prog 14 [.d (.sl z 2 (a.map encM)), .d (.sl z' 2 (b.map encM))] H (fun r H' => r = .d (.bool (decide (a = b))) ∧ H' = H) := by
  refine acall_fin Try.func14 cf14 (by simp [ir14]) fun hcl _ => ?_
  simp [ir14]
  refine BrK_split (fun h => ?_) (fun h => ?_)
  · simp at h
    have : a ≠ b := by intro e; subst e; simp at h
    simp
    simp [RetK, cut_self hcl, this]
  simp at h
  have hab : a.length = b.length := by omega
  simp
  refine LoopK_of H.length (fun fr H' => ∃ pre ra rb, a = pre ++ ra ∧ b = pre ++ rb ∧ fr 0 = .d (.sl z 2 (a.map encM)) ∧ fr 1 = .d (.sl z' 2 (b.map encM)) ∧ fr 5 = .d (.int .i64 (pre.length : Int)) ∧ H' = H)
    (fun fr H' => match fr 5 with | .d (.int _ k) => (a.length - k).toNat | _ => 0) (by simp) ?_ ?_
  · exact ⟨[], a, b, by simp [cut_self hcl]⟩
  rintro fr H' ⟨pre, ra, rb, h1, h2, f0, f1, f5, hH⟩
  rw [hH]
  simp [f0, f5]
  refine BrK_split (fun h3 => ?_) (fun h3 => ?_)
  · simp at h3
    obtain ⟨x, ra, rfl⟩ : ∃ e r, ra = e :: r := by
      cases ra with
      | nil => rw [h1] at h3; simp at h3
      | cons e r => exact ⟨e, r, rfl⟩
    obtain ⟨y, rb, rfl⟩ : ∃ e r, rb = e :: r := by
      cases rb with
      | nil => rw [h1, h2] at hab; simp at hab
      | cons e r => exact ⟨e, r, rfl⟩
    have g1 : Zam.rowAt (a.map encM) (pre.length : Int) = some (encM x) := by simp [Zam.rowAt, h1]
    have g2 : Zam.rowAt (b.map encM) (pre.length : Int) = some (encM y) := by simp [Zam.rowAt, h2]
    have hw : IntKind.i64.wrap ((pre.length : Int) + 1) = pre.length + 1 := wrap_i64 (by omega) (by omega)
    have q := eqM x y
    simp only [rowE, encM, List.map_cons, List.map_nil] at q
    simp [f0, f1, f5, g1, g2, encM, q]
    refine BrK_split (fun h4 => ?_) (fun h4 => ?_)
    · simp at h4
      have : a ≠ b := by rw [h1, h2]; simp [h4]
      simp
      simp [RetK, cut_self hcl, this]
    · simp at h4
      subst h4
      simp [f5, hw]
      refine AgainK_of (m := H.length) (by simp) ⟨pre ++ [x], ra, rb, ?_⟩ ?_
      · simp [f0, f1, cut_self hcl, h1, h2]
      · simp; omega
  · simp at h3
    obtain rfl : ra = [] := by
      cases ra with
      | nil => rfl
      | cons e r => exfalso; rw [h1] at h3; simp at h3; omega
    obtain rfl : rb = [] := by
      cases rb with
      | nil => rfl
      | cons e r => exfalso; rw [h1, h2] at hab; simp at hab
    have : a = b := by rw [h1, h2]
    simp
    simp [RetK, cut_self hcl, this]

def fitE : Int → List Ed → Option Int
  | n, [] => some n
  | n, e :: r => if 200 < n + e.s.length then none else fitE (n + e.s.length) r

def fitC : Int → List Chg → Option Int
  | n, [] => some n
  | n, c :: r => match fitE n c.l with
    | none => none
    | some k => if 20 < c.l.length then none else fitC k r

structure Op where
  k : Int
  n : Int
  s : List UInt8
  z : Bool
  l : List Chg

def encOp (o : Op) : List D := [.int .i64 o.k, .int .i64 o.n, .str o.s, .sl o.z 2 (o.l.map encC)]

def fits (o : Op) : Bool := match fitC o.s.length o.l with
  | none => false
  | some n => decide (n ≤ 200) && decide (o.l.length ≤ 8)

theorem fitE_some : ∀ {l : List Ed} {n k : Int}, fitE n l = some k → k = n + total l
  | [], n, k, h => by simp [fitE] at h; simp [total, h]
  | e :: l, n, k, h => by
    simp only [fitE] at h
    split at h
    · simp at h
    · have := fitE_some h
      simp only [total]; omega

theorem fitC_some : ∀ {l : List Chg} {n k : Int}, fitC n l = some k → k = n + totC l ∧ ∀ c ∈ l, c.l.length ≤ 20
  | [], n, k, h => by simp [fitC] at h; simp [totC, h]
  | c :: l, n, k, h => by
    simp only [fitC] at h
    split at h
    · simp at h
    · rename_i j hj
      split at h
      · simp at h
      · have h1 := fitE_some hj
        obtain ⟨h2, h3⟩ := fitC_some h
        refine ⟨by simp only [totC]; omega, fun x hx => ?_⟩
        rcases List.mem_cons.1 hx with rfl | hx
        · omega
        · exact h3 x hx

theorem fits_true {o : Op} (h : fits o = true) : totC o.l ≤ 200 ∧ (∀ c ∈ o.l, c.l.length ≤ 20) ∧ o.l.length ≤ 8 := by
  unfold fits at h
  split at h
  · simp at h
  · rename_i n hn
    obtain ⟨h1, h2⟩ := fitC_some hn
    simp at h
    exact ⟨by omega, h2, h.2⟩

theorem fitE_le : ∀ {l : List Ed} {n k : Int}, fitE n l = some k → n ≤ 1048576 → k ≤ 1048576
  | [], n, k, h, hn => by simp [fitE] at h; omega
  | e :: l, n, k, h, hn => by
    simp only [fitE] at h
    split at h
    · simp at h
    · exact fitE_le h (by omega)

theorem fitsOk (H : Hp) (o : Op) (hs : o.s.length ≤ 1048576) (hl : o.l.length ≤ 1048576) (he : ∀ c ∈ o.l, c.l.length ≤ 1048576 ∧ ∀ e ∈ c.l, e.s.length ≤ 1048576) :
    ACall Try.prog 10 [.agg (rowE encOp o)] H (fun r H' => r = .d (.bool (fits o)) ∧ H' = H) := by
  refine acall_fin Try.func10 cf10 (by simp [ir10]) fun hcl _ => ?_
  simp [ir10, rowE, encOp]
  refine LoopK_of (H.length + 1) (fun fr H' => ∃ pre rest, ∃ n : Int, o.l = pre ++ rest ∧ 0 ≤ n ∧ n ≤ 1048576 ∧ fitC o.s.length o.l = fitC n rest ∧ fr 1 = .ptr H.length 0 ∧ fr 3 = .d (.int .i64 n) ∧ fr 12 = .d (.sl o.z 2 (o.l.map encC)) ∧ fr 13 = .d (.int .i64 o.l.length) ∧ fr 14 = .d (.int .i64 (pre.length : Int)) ∧ H' = H ++ [.box 33 (rowE encOp o)])
    (fun fr H' => match fr 14 with | .d (.int _ k) => (o.l.length - k).toNat | _ => 0) (by simp) ?_ ?_
  · refine ⟨[], o.l, o.s.length, ?_⟩
    simp [cut_appk hcl, rowE, encOp]; omega
  rintro fr H' ⟨pre, rest, n, hcs, hn0, hnm, hli, f1, f3, f12, f13, f14, hH⟩
  rw [hH]
  simp [f13, f14]
  refine BrK_split (fun h => ?_) (fun h => ?_)
  · obtain ⟨c, rest, rfl⟩ : ∃ e r, rest = e :: r := by
      cases rest with
      | nil => rw [hcs] at h; simp at h
      | cons e r => exact ⟨e, r, rfl⟩
    have hpl : pre.length < o.l.length := by rw [hcs]; simp
    obtain ⟨hcl1, hcl2⟩ := he c (by rw [hcs]; simp)
    have hw : IntKind.i64.wrap ((pre.length : Int) + 1) = pre.length + 1 := wrap_i64 (by omega) (by omega)
    have hgr : Zam.rowAt (o.l.map encC) (pre.length : Int) = some (encC c) := by simp [Zam.rowAt, hcs]
    simp [f12, f14, hgr, encC]
    refine LoopK_of (H.length + 2) (fun fr H' => ∃ pr re, ∃ k : Int, c.l = pr ++ re ∧ 0 ≤ k ∧ k ≤ 1048576 ∧ fitE n c.l = fitE k re ∧ fr 1 = .ptr H.length 0 ∧ fr 5 = .ptr (H.length + 1) 0 ∧ fr 3 = .d (.int .i64 k) ∧ fr 12 = .d (.sl o.z 2 (o.l.map encC)) ∧ fr 13 = .d (.int .i64 o.l.length) ∧ fr 14 = .d (.int .i64 (pre.length : Int)) ∧
        fr 19 = .d (.sl c.z 3 (c.l.map encE)) ∧ fr 20 = .d (.int .i64 c.l.length) ∧ fr 21 = .d (.int .i64 (pr.length : Int)) ∧ H' = H ++ [.box 33 (rowE encOp o), .box 63 (rowE encC c)])
      (fun fr H' => match fr 21 with | .d (.int _ k) => (c.l.length - k).toNat | _ => 0) (by simp) ?_ ?_
    · refine ⟨[], c.l, n, ?_⟩
      simp [cut_appk hcl, rowE, encOp, encC, f1, f3, f12, f13, f14, hn0, hnm]
    have g14 := f14
    clear f1 f3 f12 f13 f14
    rintro fr H' ⟨pr, re, k, hce, hk0, hkm, hfe, f1, f5, f3, f12, f13, f14, f19, f20, f21, hH⟩
    rw [hH]
    simp [f20, f21]
    refine BrK_split (fun h1 => ?_) (fun h1 => ?_)
    · obtain ⟨e, re, rfl⟩ : ∃ e r, re = e :: r := by
        cases re with
        | nil => rw [hce] at h1; simp at h1
        | cons e r => exact ⟨e, r, rfl⟩
      have hpl1 : pr.length < c.l.length := by rw [hce]; simp
      have hes := hcl2 e (by rw [hce]; simp)
      have hw1 : IntKind.i64.wrap ((pr.length : Int) + 1) = pr.length + 1 := wrap_i64 (by omega) (by omega)
      have hw2 : IntKind.i64.wrap (k + e.s.length) = k + e.s.length := wrap_i64 (by omega) (by omega)
      have hge : Zam.rowAt (c.l.map encE) (pr.length : Int) = some (encE e) := by simp [Zam.rowAt, hce]
      simp [f3, f19, f21, hge, encE, hw2]
      refine BrK_split (fun h2 => ?_) (fun h2 => ?_)
      · simp at h2
        have : fits o = false := by simp only [fits, hli, fitC, hfe, fitE, if_pos h2]
        simp
        simp [RetK, cut_app hcl, this]
      · simp at h2
        simp [f21, hw1]
        refine AgainK_of (m := H.length + 2) (by simp) ⟨pr ++ [e], re, k + e.s.length, ?_⟩ ?_
        · simp [f1, f3, f5, f12, f13, f14, f19, f20, cut_appk hcl, hce, rowE, encOp, encC]
          refine ⟨by omega, by omega, ?_⟩
          rw [← hce, hfe, fitE, if_neg (by omega)]
        · simp; omega
    · obtain rfl : re = [] := by
        cases re with
        | nil => rfl
        | cons e r => exfalso; rw [hce] at h1; simp at h1
      have hfk : fitE n c.l = some k := by rw [hfe]; rfl
      simp [f5, rowE, encC]
      refine BrK_split (fun h2 => ?_) (fun h2 => ?_)
      · simp at h2
        have : fits o = false := by simp only [fits, hli, fitC, hfk, if_pos (by omega : 20 < c.l.length)]
        simp
        simp [RetK, cut_app hcl, this]
      · simp at h2
        simp [f14, hw]
        refine AgainK_of (m := H.length + 1) (by simp) ⟨pre ++ [c], rest, k, ?_⟩ ?_
        · simp [f1, f3, f12, f13, cut_appk hcl, hcs, hk0, hkm, rowE, encOp]
          rw [← hcs, hli, fitC, hfk]
          simp only [if_neg (by omega : ¬ 20 < c.l.length)]
        · simp [g14]; omega
  · obtain rfl : rest = [] := by
      cases rest with
      | nil => rfl
      | cons e r => exfalso; rw [hcs] at h; simp at h
    have : fits o = (decide (n ≤ 200) && decide (o.l.length ≤ 8)) := by simp only [fits, hli, fitC]
    simp [f1, f3, rowE, encOp]
    refine GdK_split (by simp) (fun h2 => ?_) (fun h2 => ?_)
    · simp at h2
      simp [f1, rowE, encOp]
      simp [RetK, cut_app hcl, this, h2]
      omega
    · simp at h2
      simp
      simp [RetK, cut_app hcl, this]
      omega

end Go.Proofs.Zh
