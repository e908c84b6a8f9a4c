/-
  change.Apply on the abstract machine: what it computes. The lengths are bounded.
-/
import Derived.Test.YtjpdjaglggcbkaaZam34
import Derived.Test.YtjpdjaglggcbkaaZhChg
namespace Go.Proofs.Zh
open Go Go.Zam Go.Proofs
set_option maxRecDepth 100000
set_option linter.all false
set_option maxHeartbeats 1000000

theorem arrM_ld {H : Hp} {i k : Nat} {L : List Mod} {m : Mod} (hi : H[i]? = some (arrE encM 2 L)) (hk : L[k]? = some m) : ldA H 1 (.aptr i k 1) = some [.d (.str m.t)] := by
  simp [ldA, hi, arrE, hk, rowE, encM, cutL]

theorem arrM_st {H : Hp} {i k : Nat} {L : List Mod} {m : Mod} {t : List UInt8} (hi : H[i]? = some (arrE encM 2 L)) (hk : L[k]? = some m) : stA H [.d (.str t)] (.aptr i k 1) = some (H.set i (arrE encM 2 (L.set k ⟨m.n, t⟩))) := by
  simp [stA, hi, arrE, hk, rowE, encM, setL]

/-- how long texts may become -/
def fitM (l : List Mod) (cs : List Chg) : Prop := ∀ m ∈ l, m.t.length + totC cs ≤ 70368744177664

theorem grows_le : ∀ (l : List Ed) (n last : Int), soundFrom n last l = 0 → grows l ≤ total l
  | [], _, _, _ => by simp [grows, total]
  | e :: l, n, last, h => by
    obtain ⟨h0, h1, h2, h3, h4⟩ := soundFrom_cons h
    have := grows_le l n e.t h4
    simp only [grows, total]
    omega

theorem applyS_le (s : List UInt8) (l : List Ed) : (applyS s l).length ≤ s.length + total l := by
  unfold applyS
  split
  · rename_i h
    have := applied_len s l 0 (-1) (sound_zero h).2 (by omega) (by omega) (by omega)
    have := grows_le l _ _ (sound_zero h).2
    omega
  · simp

theorem fitM_next {l : List Mod} {c : Chg} {cs : List Chg} {k : Nat} {m : Mod} (h : fitM l (c :: cs)) (hk : l[k]? = some m) : fitM (l.set k ⟨m.n, applyS m.t c.l⟩) cs := by
  intro x hx
  have hm := h m (List.mem_of_getElem? hk)
  have := applyS_le m.t c.l
  simp only [totC] at hm
  rcases List.mem_or_eq_of_mem_set hx with h1 | h1
  · have := h x h1
    simp only [totC] at this
    omega
  · subst h1
    simp only; omega

theorem applyC_len {l : List Mod} {done : List (List UInt8)} : ∀ {cs : List Chg}, (applyC l done cs).1 = 0 → (applyC l done cs).2.length = l.length := by
  intro cs
  induction cs generalizing l done with
  | nil => intro _; rfl
  | cons c cs ih =>
    intro h
    simp only [applyC] at h ⊢
    split at h
    · simp at h
    · split at h
      · simp at h
      · rename_i h1 h2
        simp only [h1, h2, if_false]
        split at h
        · simp at h
        · split at h
          · rename_i h3
            simp only [h3, if_true]
            rw [ih h, List.length_set]
          · rename_i h3
            simp only at h
            exact absurd h h3

theorem applyC_step {l : List Mod} {done : List (List UInt8)} {c : Chg} {r : List Chg} {k : Nat} {m : Mod} (hk : findM l c.n = k) (hm : l[k]? = some m) (h2 : c.n ∉ done) :
    applyC l done (c :: r) = if sound c.l m.t.length = 0 then applyC (l.set k ⟨m.n, applyS m.t c.l⟩) (done ++ [c.n]) r else (sound c.l m.t.length, []) := by
  have : ¬ findM l c.n < 0 := by omega
  rw [applyC, if_neg this, if_neg h2, hk, Int.toNat_natCast, hm]

theorem app_walk {H : Hp} {z zc : Bool} {l : List Mod} {cs : List Chg} (hl : l ≠ []) (hb : l.length ≤ 1048576) (hc : cs.length ≤ 1048576) (hf : fitM l cs) (k : Nat) (K : A → Hp → Prop)
    (hok : ∀ (d : List (D × A)), (applyC l [] cs).1 = 0 → RetK K .mk (H.length + k) (some (.tup [.msl (H.length + 1) 0 l.length, .d (.int .i64 0)])) (H ++ [.arr 2 [], arrE encM 2 (applyC l [] cs).2, .mp d]))
    (herr : ∀ e X, (applyC l [] cs).1 = e → e ≠ 0 → RetK K .mk (H.length + k) (some (.tup [.d (.sl true 2 []), .d (.int .i64 e)])) (H ++ X)) :
    ACall Try.prog 26 [.d (.sl z 2 (l.map encM)), .d (.sl zc 2 (cs.map encC))] H K := by
  refine acall_fink k Try.func26 cf26 (by simp [ir26]) fun hcl _ => ?_
  simp [ir26]
  refine CallK_of' (cloneM_acall Try.func25 cf25 (by simpa using hl) (by simp; omega)) ?_
  simp
  refine LoopK_of (H.length + 3) (fun fr H' => ∃ pre rest l', cs = pre ++ rest ∧ fitM l' rest ∧ l'.length = l.length ∧ applyC l [] cs = applyC l' (pre.map Chg.n) rest ∧
      fr 6 = .msl (H.length + 1) 0 l.length ∧ fr 7 = .map (H.length + 2) ∧ fr 16 = .d (.sl zc 2 (cs.map encC)) ∧ fr 17 = .d (.int .i64 cs.length) ∧ fr 18 = .d (.int .i64 (pre.length : Int)) ∧ H' = H ++ [.arr 2 [], arrE encM 2 l', .mp (setMp (pre.map Chg.n))])
    (fun fr H' => match fr 18 with | .d (.int _ k) => (cs.length - k).toNat | _ => 0) (by simp) ?_ ?_
  · refine ⟨[], cs, l, ?_⟩
    simp [hf, cut_appk hcl, arrE, rowE, setMp]
  rintro fr H' ⟨pre, rest, l', hcs, hf', hl', happ, f6, f7, f16, f17, f18, hH⟩
  rw [hH]
  simp [f17, f18]
  refine BrK_split (fun h => ?_) (fun h => ?_)
  · obtain ⟨c, rest, rfl⟩ : ∃ e r, rest = e :: r := by
      cases rest with
      | nil => rw [hcs] at h; simp at h
      | cons e r => exact ⟨e, r, rfl⟩
    have hpl : pre.length < cs.length := by rw [hcs]; simp
    have hw : IntKind.i64.wrap ((pre.length : Int) + 1) = pre.length + 1 := wrap_i64 (by omega) (by omega)
    have hg  : Zam.rowAt (cs.map encC) (pre.length : Int) = some (encC c) := by simp [Zam.rowAt, hcs]
    simp [f6, f16, f18, hg, encC]
    have hi : ∀ X : Ob, (H ++ [.arr 2 [], arrE encM 2 l', .mp (setMp (pre.map Chg.n)), X])[H.length + 1]? = some (arrE encM 2 l') := fun X => by simp
    have hfind := findAOk _ (H.length + 1) l' c.n (hi (.box 63 [.d (.str c.n), .d (.sl c.z 3 (c.l.map encE))])) (by omega)
    rw [hl'] at hfind
    refine CallK_of' hfind ?_
    simp
    refine BrK_split (fun h1 => ?_) (fun h1 => ?_)
    · simp at h1
      simp
      exact herr 32 _ (by rw [happ]; simp [applyC, h1]) (by omega)
    simp at h1
    obtain ⟨k, m, hk, hm, hmn⟩ := findM_some h1
    rw [hk]
    have hap : ¬ findM l' c.n < 0 := by omega
    have hkl : k < l.length := by rw [← hl']; exact (List.getElem?_eq_some_iff.1 hm).1
    by_cases h2 : c.n ∈ pre.map Chg.n
    · simp [f7, setMp_ok, setMp_get, h2, -mpOk, -List.mem_map]
      exact herr 4 _ (by rw [happ]; simp only [applyC, if_neg hap, if_pos h2]) (by omega)
    · have hi2 : ∀ X Y : Ob, (H ++ [.arr 2 [], arrE encM 2 l', X, Y])[H.length + 1]? = some (arrE encM 2 l') := fun X Y => by simp
      have hfit : m.t.length + total c.l ≤ 70368744177664 := by
        have := hf' m (List.mem_of_getElem? hm)
        simp only [totC] at this; omega
      simp [f7, setMp_ok, setMp_get, setMp_put, h2, f6, arr_iaddr (hi2 _ _) rfl hkl, arrM_ld (hi2 _ _) hm, ld_ptr, st_ptr, -iaddrA, -ldA, -stA, -mpOk, -List.mem_map]
      refine CallD_of (applyEOk _ c.z m.t c.l hfit) ?_
      simp
      refine BrK_split (fun h3 => ?_) (fun h3 => ?_)
      · simp at h3
        simp
        exact herr _ _ (by rw [happ, applyC_step hk hm h2, if_neg h3]) h3
      simp at h3
      have hi3 : ∀ X Y : Ob, (H ++ [.arr 2 [], arrE encM 2 l', X, Y])[H.length + 1]? = some (arrE encM 2 l') := fun X Y => by simp
      simp [f6, f18, hw, arr_iaddr (hi3 _ _) rfl hkl, arrM_st (hi3 _ _) hm, -iaddrA, -ldA, -stA]
      refine AgainK_of (m := H.length + 3) (by simp) ⟨pre ++ [c], rest, l'.set k ⟨m.n, applyS m.t c.l⟩, ?_⟩ ?_
      · simp [f6, f7, f16, f17, cut_appk hcl, hcs, fitM_next hf' hm, hl', happ, arrE_clr, setMp, -Ob.clr, -List.mem_map]
        exact ⟨by rw [← hcs, happ, applyC_step hk hm h2, if_pos h3], by simp, by simp⟩
      · simp; omega
  · obtain rfl : rest = [] := by
      cases rest with
      | nil => rfl
      | cons e r => exfalso; rw [hcs] at h; simp at h
    have h0 : applyC l [] cs = (0, l') := by rw [happ]; rfl
    simp [f6]
    have := hok (setMp (pre.map Chg.n)) (by rw [h0])
    rw [h0] at this
    exact this

/-- what Apply answers -/
def outC (z : Bool) (l : List Mod) (cs : List Chg) : A :=
  .tup [.d (.sl (if (applyC l [] cs).1 = 0 then z && l.isEmpty else true) 2 ((applyC l [] cs).2.map encM)), .d (.int .i64 (applyC l [] cs).1)]

theorem applyC_err {l : List Mod} {done : List (List UInt8)} : ∀ {cs : List Chg}, (applyC l done cs).1 ≠ 0 → (applyC l done cs).2 = [] := by
  intro cs
  induction cs generalizing l done with
  | nil => intro h; exact absurd rfl h
  | cons c cs ih =>
    intro h
    simp only [applyC] at h ⊢
    split
    · rfl
    · split
      · rfl
      · rename_i h1 h2
        simp only [h1, h2, if_false] at h
        split
        · rfl
        · rename_i m hm
          simp only [hm] at h
          split
          · rename_i h3
            rw [if_pos h3] at h
            exact ih h
          · rfl

theorem applyCOk (H : Hp) (z zc : Bool) (l : List Mod) (cs : List Chg) (hb : l.length ≤ 1048576) (hc : cs.length ≤ 1048576) (hf : fitM l cs) :
    ACall Try.prog 26 [.d (.sl z 2 (l.map encM)), .d (.sl zc 2 (cs.map encC))] H (fun r H' => r = outC z l cs ∧ H' = H) := by
  intro κ w vs hr
  have hcl : H.Closed := hr.closed
  revert κ w vs hr
  show ACall Try.prog 26 [.d (.sl z 2 (l.map encM)), .d (.sl zc 2 (cs.map encC))] H (fun r H' => r = outC z l cs ∧ H' = H)
  by_cases hl : l = []
  · subst hl
    have hz0 : applyC [] [] cs = if cs = [] then (0, []) else (32, []) := by
      cases cs with
      | nil => rfl
      | cons c r => simp [applyC, findM, indexI, indexP]
    cases z with
    | true =>
      refine acall_fin Try.func26 cf26 (by simp [ir26]) fun hcl _ => ?_
      simp [ir26]
      refine CallK_of' (clone0_acall Try.func25 cf25) ?_
      simp
      refine LoopK_of (H.length + 1) (fun fr H' => fr 6 = .d (.sl true 2 []) ∧ fr 16 = .d (.sl zc 2 (cs.map encC)) ∧ fr 17 = .d (.int .i64 cs.length) ∧ fr 18 = .d (.int .i64 0) ∧ H' = H ++ [.mp []]) (fun _ _ => 0) (by simp) (by simp [cut_appk hcl]) ?_
      rintro fr H' ⟨f6, f16, f17, f18, hH⟩
      rw [hH]
      simp [f17, f18]
      refine BrK_split (fun h => ?_) (fun h => ?_)
      · cases cs with
        | nil => simp at h
        | cons c r =>
          simp [f16, f18, f6, Zam.rowAt, encC]
          refine CallK_of' (findDOk _ true [] c.n (by simp)) ?_
          simp [findM, indexI, indexP]
          simp [RetK, outC, hz0, cut_app hcl]
      · cases cs with
        | nil => simp [f6, RetK, outC, applyC, cut_app hcl]
        | cons c r => simp at h
    | false =>
      by_cases hcs : cs = []
      · subst hcs
        refine ACall.freeze2 (k := 0) (X := [.arr 2 []]) (by simp [arrE, rowE, applyC]) ?_
        refine acall_fink 1 Try.func26 cf26 (by simp [ir26]) fun hcl _ => ?_
        simp [ir26]
        refine CallK_of' (cloneM0_acall Try.func25 cf25) ?_
        simp
        refine LoopK_of (H.length + 2) (fun fr H' => fr 6 = .msl H.length 0 0 ∧ fr 17 = .d (.int .i64 0) ∧ fr 18 = .d (.int .i64 0) ∧ H' = H ++ [.arr 2 [], .mp []]) (fun _ _ => 0) (by simp) (by simp [cut_appk hcl]) ?_
        rintro fr H' ⟨f6, f17, f18, hH⟩
        rw [hH]
        simp [f17, f18, f6]
        simp [RetK, cut_appk hcl, applyC]
      · have hne := hcs
        cases cs with
        | nil => exact absurd rfl hcs
        | cons c r =>
        refine acall_fin Try.func26 cf26 (by simp [ir26]) fun hcl _ => ?_
        simp [ir26]
        refine CallK_of' (cloneM0_acall Try.func25 cf25) ?_
        simp
        refine LoopK_of (H.length + 2) (fun fr H' => fr 6 = .msl H.length 0 0 ∧ fr 16 = .d (.sl zc 2 ((c :: r).map encC)) ∧ fr 17 = .d (.int .i64 (c :: r).length) ∧ fr 18 = .d (.int .i64 0) ∧ H' = H ++ [.arr 2 [], .mp []]) (fun _ _ => 0) (by simp) (by simp [cut_appk hcl]) ?_
        rintro fr H' ⟨f6, f16, f17, f18, hH⟩
        rw [hH]
        simp [f17, f18, f16, f6, Zam.rowAt, encC]
        refine CallK_of' (findAOk _ H.length [] c.n (by simp [arrE]) (by simp)) ?_
        simp [findM, indexI, indexP]
        simp [RetK, outC, hz0, cut_app hcl]
  · have he : l.isEmpty = false := by cases l <;> simp_all
    by_cases h0 : (applyC l [] cs).1 = 0
    · have hlen := applyC_len h0
      have : outC z l cs = .tup [.d (.sl false 2 ((applyC l [] cs).2.map encM)), .d (.int .i64 0)] := by simp [outC, h0, he]
      rw [this]
      refine ACall.freeze2 (k := 1) (X := [.arr 2 [], arrE encM 2 (applyC l [] cs).2]) (by simp [arrE, rowE]) ?_
      refine app_walk hl hb hc hf 2 _ (fun d h => ?_) (fun e X h1 h2 => absurd (h1.symm.trans h0) h2)
      simp [RetK, cut_appk hcl, arrE_clr, hlen, -Ob.clr]
      simp
    · have := applyC_err h0
      refine app_walk hl hb hc hf 0 _ (fun d h => absurd h h0) (fun e X h1 h2 => ?_)
      simp [RetK, outC, h0, this, h1, h2, cut_app hcl]

end Go.Proofs.Zh
