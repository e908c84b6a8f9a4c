/-
  The law EditSorts on the abstract machine returns true. The lengths are bounded.
-/
import Derived.Test.YtdpaolhcoahomaaZtSort
import Derived.Test.YtdpaolhcoahomaaZtLaws
namespace Go.Proofs.Zt
open Go Go.Zam Go.Proofs
set_option maxRecDepth 100000
set_option linter.all false
set_option maxHeartbeats 4000000

def encU (e : Ed × Bool) : List D := [.bool e.2]
theorem encU_len : ∀ x, (encU x).length = 1 := fun x => rfl

/-- those that weren't met yet -/
def unused : List (Ed × Bool) → List Ed
  | [] => []
  | e :: r => if e.2 then unused r else e.1 :: unused r

theorem unused_append : ∀ a b : List (Ed × Bool), unused (a ++ b) = unused a ++ unused b
  | [], b => rfl
  | e :: r, b => by
    simp only [List.cons_append, unused, unused_append r b]
    split <;> simp

theorem unused_mem {x : Ed} : ∀ {l : List (Ed × Bool)}, x ∈ unused l → (x, false) ∈ l
  | [], h => by simp [unused] at h
  | (e, b) :: r, h => by
    simp only [unused] at h
    cases b with
    | true => simp at h; exact List.mem_cons_of_mem _ (unused_mem h)
    | false =>
      simp at h
      rcases h with h | h
      · subst h; simp
      · exact List.mem_cons_of_mem _ (unused_mem h)

theorem unused_all (l : List Ed) : unused (l.map fun e => (e, false)) = l := by
  induction l with
  | nil => rfl
  | cons e r ih => simp [unused, ih]

theorem rep_row (l : List Ed) : List.replicate l.length [A.d (.bool false)] = (l.map fun e => (e, false)).map (rowE encU) := by
  induction l with
  | nil => rfl
  | cons e r ih => simp only [List.length_cons, List.replicate_succ, ih, List.map_cons]; rfl

theorem cE_chk {x y : Ed} (h : cE y x ≤ 0) : ¬ x.f < y.f ∧ (y.f = x.f → ¬ x.t < y.t) := by
  have : cE y x = if y.f < x.f then -1 else if x.f < y.f then 1 else if y.t < x.t then -1 else if x.t < y.t then 1 else 0 := by
    simp only [cE, cmpInt, orL]
    (repeat' split) <;> first | rfl | omega
  rw [this] at h
  (repeat' split at h) <;> omega

instance : DecidableEq Ed := fun x y => if h : x.f = y.f ∧ x.t = y.t ∧ x.s = y.s then isTrue (by cases x; cases y; simp_all) else isFalse (by rintro rfl; simp at h)

theorem eqE (x y : Ed) : eqDs [.int .i64 0, .int .i64 0, .str []] (rowE encE x) (rowE encE y) = some (decide (x = y)) := by
  obtain ⟨a, b, c⟩ := x
  obtain ⟨a', b', c'⟩ := y
  simp [rowE, encE, eqDs, eqD]

theorem map_fst {l : List (Ed × Bool)} {a : List (Ed × Bool)} {e : Ed} {b : Bool} {r : List (Ed × Bool)} (h : l = a ++ (e, b) :: r) : l.map Prod.fst = a.map Prod.fst ++ e :: r.map Prod.fst := by
  rw [h]; simp

theorem editSortsOk (z : Bool) (l : List Ed) (hb : total l ≤ 4194304) (hb2 : l.length ≤ 1048576) :
    ACall Try.prog 7 [.d (.sl z 3 (l.map encE))] [] (fun r _ => r = .d (.bool true)) := by
  refine acall_fin rfl cf7 (by simp [ir7]) fun hcl _ => ?_
  simp [ir7]
  refine CallK_of' (lightOk _ z [] l (by simp; omega) (by omega)) ?_
  cases hL : light [] l with
  | false =>
    simp
    refine CallK_of' (awakeOk _) ?_
    simp [RetK]
  | true =>
  simp
  refine CallK_of' (sortOk _ z l (by omega)) ?_
  have hOl := ssort_length cE_cmp l
  obtain ⟨hOs, -⟩ := ssort_spec cE_cmp l
  have hOp := ssort_perm cE_cmp l
  generalize (z && l.isEmpty) = zz
  generalize ssort cE l = O at hOl hOs hOp
  have hfit : (l.length : Int) ≤ 140737488355328 := by omega
  simp [hfit]
  have hrep : List.replicate l.length [A.d (.bool false)] = (l.map fun e => (e, false)).map (rowE encU) := rep_row l
  refine LoopK_of 1 (fun fr H' => ∃ pre rest zl, O = pre ++ rest ∧ zl.map Prod.fst = l ∧ (unused zl).Perm rest ∧ fr 0 = .d (.sl z 3 (l.map encE)) ∧ fr 3 = .d (.sl zz 3 (O.map encE)) ∧ fr 4 = .msl 0 0 l.length ∧
      fr 19 = .d (.sl zz 3 (O.map encE)) ∧ fr 20 = .d (.int .i64 O.length) ∧ fr 21 = .d (.int .i64 (pre.length : Int)) ∧ H' = [arrE encU 1 zl])
    (fun fr H' => match fr 21 with | .d (.int _ k) => (O.length - k).toNat | _ => 0) (by simp) ?_ ?_
  · refine ⟨[], O, l.map fun e => (e, false), rfl, by simp [List.map_map, Function.comp_def], by rw [unused_all]; exact hOp, ?_⟩
    simp [Hp.cut, arrE, hrep]
    simp [rowE, encU]
  rintro fr H' ⟨pre, rest, zl, hO, hzl, hun, f0, f3, f4, f19, f20, f21, hH⟩
  rw [hH]; clear hH H'
  have hzlen : zl.length = l.length := by rw [← hzl]; simp
  simp [f19, f20, f21]
  refine BrK_split (fun h => ?_) (fun h => ?_)
  · obtain ⟨x, rest, rfl⟩ : ∃ x r, rest = x :: r := by
      cases rest with
      | nil => rw [hO] at h; simp at h
      | cons e r => exact ⟨e, r, rfl⟩
    have hr : Zam.rowAt (O.map encE) pre.length = some (encE x) := by rw [hO]; exact rowAt_mid _ _ _ _
    have hpl : pre.length < O.length := by rw [hO]; simp
    have hw : IntKind.i64.wrap ((pre.length : Int) + 1) = pre.length + 1 := wrap_i64 (by omega) (by omega)
    have hxm : (x, false) ∈ zl := unused_mem (hun.mem_iff.2 (by simp))
    simp [f0, f3, f4, f19, f20, f21, hr, encE]
    rcases List.eq_nil_or_concat pre with hp0 | ⟨q, y, hq⟩
    all_goals first
      | (have c0 : (0 < pre.length) = False := by rw [hp0]; simp
         simp [f0, f3, f4, f19, f20, f21, c0])
      | (have hq : pre = q ++ [y] := by simpa using hq
         have c0 : (0 < pre.length) = True := by rw [hq]; simp
         have hql : pre.length = q.length + 1 := by rw [hq]; simp
         have hw1 : IntKind.i64.wrap ((pre.length : Int) - 1) = q.length := by rw [wrap_i64 (by omega) (by omega)]; omega
         have hry : Zam.rowAt (O.map encE) q.length = some (encE y) := by rw [hO, hq, List.append_assoc]; exact rowAt_mid encE q ([] ++ x :: rest) y
         have hle : cE y x ≤ 0 := by
           rw [hO] at hOs
           exact (Sorted.append.1 hOs).2.2 y (by rw [hq]; simp) x (by simp)
         obtain ⟨k1, k2⟩ := cE_chk hle
         have k1' : (x.f < y.f) = False := eq_false k1
         have k5 : (y.f = x.f ∧ (x.t < y.t) = False) ∨ ((y.f = x.f) = False) := by
           by_cases k3 : y.f = x.f
           · exact .inl ⟨k3, eq_false (k2 k3)⟩
           · exact .inr (eq_false k3)
         rcases k5 with ⟨k3, k4⟩ | k3
         all_goals first
           | (simp [f0, f3, f4, f19, f20, f21, c0, hw1, hry, encE, k1', k3, k4]; done)
           | (simp [f0, f3, f4, f19, f20, f21, c0, hw1, hry, encE, k1', k3, k4])
           | (simp [f0, f3, f4, f19, f20, f21, c0, hw1, hry, encE, k1', k3]))
    all_goals
      refine LoopK_of 2 (fun fr H' => ∃ a b, zl = a ++ b ∧ (∀ e ∈ a, e.2 = true ∨ e.1 ≠ x) ∧ fr 0 = .d (.sl z 3 (l.map encE)) ∧ fr 3 = .d (.sl zz 3 (O.map encE)) ∧ fr 4 = .msl 0 0 l.length ∧
          fr 19 = .d (.sl zz 3 (O.map encE)) ∧ fr 20 = .d (.int .i64 O.length) ∧ fr 21 = .d (.int .i64 (pre.length : Int)) ∧ fr 6 = .ptr 1 0 ∧ fr 7 = .d (.bool false) ∧ fr 61 = .d (.sl z 3 (l.map encE)) ∧ fr 62 = .d (.int .i64 l.length) ∧ fr 63 = .d (.int .i64 (a.length : Int)) ∧ H' = [arrE encU 1 zl, .box 41 (rowE encE x)])
        (fun fr H' => match fr 63 with | .d (.int _ k) => (l.length - k).toNat | _ => 0) (by simp) ?_ ?_
      · refine ⟨[], zl, rfl, by simp, ?_⟩
        simp [f0, f3, f4, f19, f20, f21, Hp.cut, arrE_clr, -Ob.clr]
        simp [Ob.clr, rowE, encE, A.clr0]
      have f21o := f21
      clear f0 f3 f4 f19 f20 f21
      rintro fr H' ⟨a, b, hab, ha, f0, f3, f4, f19, f20, f21, f6, f7, f61, f62, f63, hH⟩
      rw [hH]; clear hH H'
      have hal : zl.length = a.length + b.length := by rw [hab]; simp
      simp [f61, f62, f63]
      refine BrK_split (fun h2 => ?_) (fun h2 => ?_)
      · have h2 : a.length < l.length := by simpa using h2
        obtain ⟨⟨y2, u⟩, b, rfl⟩ : ∃ e b', b = e :: b' := by
          cases b with
          | nil => simp at hal; omega
          | cons e b => exact ⟨e, b, rfl⟩
        have hl2 := map_fst hab
        rw [hzl] at hl2
        have hr2 : Zam.rowAt (l.map encE) a.length = some (encE y2) := by
          rw [hl2]
          have := rowAt_mid encE (a.map Prod.fst) (b.map Prod.fst) y2
          simpa using this
        have hw2 : IntKind.i64.wrap ((a.length : Int) + 1) = a.length + 1 := wrap_i64 (by omega) (by omega)
        have gu := get_mid (k := a.length) hab rfl
        have su := set_mid (e' := (y2, true)) (k := a.length) hab rfl
        have i1 : ∀ X : List Ob, iaddrA (arrE encU 1 zl :: X) 1 (.msl 0 0 l.length) (.d (.int .i64 a.length)) = some (.aptr 0 a.length 0) := fun X => arr_iaddr (enc := encU) (L := zl) rfl rfl h2
        have l1 : ∀ X : List Ob, ldA (arrE encU 1 zl :: X) 1 (.aptr 0 a.length 0) = some [.d (.bool u)] := fun X => arr_ld (enc := encU) encU_len (L := zl) rfl gu
        have t1 : ∀ X : List Ob, stA (arrE encU 1 zl :: X) [.d (.bool true)] (.aptr 0 a.length 0) = some (arrE encU 1 (a ++ (y2, true) :: b) :: X) := fun X => by
          have := arr_st (enc := encU) encU_len (H := arrE encU 1 zl :: X) (i := 0) (L := zl) (k := a.length) (e := (y2, true)) rfl (by omega)
          rw [su] at this
          simpa [rowE, encU] using this
        have q1 := eqE x y2
        have i0 : ∀ X : List Ob, iaddrA X 3 (.d (.sl z 3 (l.map encE))) (.d (.int .i64 a.length)) = some (.eptr (encE y2)) := fun X => by simp [hr2]
        have l2 : ∀ (X : Ob) (Y : List Ob), ldA (X :: .box 41 (rowE encE x) :: Y) 3 (.ptr 1 0) = some (rowE encE x) := fun X Y => by simp [rowE, encE]
        have l3 : ∀ (X Y : Ob), ldA [X, Y, .box 41 (rowE encE y2)] 3 (.ptr 2 0) = some (rowE encE y2) := fun X Y => by simp [rowE, encE]
        have a3 : ∀ (X Y : Ob), stA [X, Y, .box 41 [.d (.int .i64 0), .d (.int .i64 0), .d (.str [])]] (rowE encE y2) (.ptr 2 0) = some [X, Y, .box 41 (rowE encE y2)] := fun X Y => by simp [rowE, encE]
        have hE2 : (rowE encE y2).length = 3 := rfl
        have hF2 : (∀ u, u ∈ rowE encE y2 → u.flat = true) = True := rowE_flat2 y2
        have e3 : ∀ X : List Ob, ldA X 3 (.eptr (encE y2)) = some (rowE encE y2) := fun X => by simp [rowE, encE]
        have again : ∀ (fr : Fr) (X : Ob), ((y2, u) : Ed × Bool).2 = true ∨ y2 ≠ x → fr 0 = .d (.sl z 3 (l.map encE)) → fr 3 = .d (.sl zz 3 (O.map encE)) → fr 4 = .msl 0 0 l.length →
            fr 19 = .d (.sl zz 3 (O.map encE)) → fr 20 = .d (.int .i64 O.length) → fr 21 = .d (.int .i64 (pre.length : Int)) → fr 6 = .ptr 1 0 → fr 7 = .d (.bool false) → fr 61 = .d (.sl z 3 (l.map encE)) → fr 62 = .d (.int .i64 l.length) → fr 63 = .d (.int .i64 (a.length + 1 : Int)) →
            ∃ a' b', zl = a' ++ b' ∧ (∀ e ∈ a', e.2 = true ∨ e.1 ≠ x) ∧ Fr.clr 2 fr 0 = .d (.sl z 3 (l.map encE)) ∧ Fr.clr 2 fr 3 = .d (.sl zz 3 (O.map encE)) ∧ Fr.clr 2 fr 4 = .msl 0 0 l.length ∧
            Fr.clr 2 fr 19 = .d (.sl zz 3 (O.map encE)) ∧ Fr.clr 2 fr 20 = .d (.int .i64 O.length) ∧ Fr.clr 2 fr 21 = .d (.int .i64 (pre.length : Int)) ∧ Fr.clr 2 fr 6 = .ptr 1 0 ∧ Fr.clr 2 fr 7 = .d (.bool false) ∧ Fr.clr 2 fr 61 = .d (.sl z 3 (l.map encE)) ∧ Fr.clr 2 fr 62 = .d (.int .i64 l.length) ∧ Fr.clr 2 fr 63 = .d (.int .i64 (a'.length : Int)) ∧ Hp.cut 2 [arrE encU 1 zl, .box 41 (rowE encE x), X] = [arrE encU 1 zl, .box 41 (rowE encE x)] := by
          intro fr X hne g0 g3 g4 g19 g20 g21 g6 g7 g61 g62 g63
          refine ⟨a ++ [(y2, u)], b, by rw [hab]; simp, ?_, ?_⟩
          · intro e he
            rcases List.mem_append.1 he with h3 | h3
            · exact ha e h3
            · simp only [List.mem_singleton] at h3; subst h3; exact hne
          · simp [g0, g3, g4, g19, g20, g21, g6, g7, g61, g62, g63, Hp.cut, arrE_clr, -Ob.clr]
            simp [Ob.clr, rowE, encE, A.clr0]
        cases u with
        | true =>
          simp [f0, f4, f6, f61, f63, i0, i1, l1, l2, l3, a3, e3, hE2, hF2, hw2, -iaddrA, -ldA, -stA, -A.flat]
          refine AgainK_of (m := 2) (by simp) (again _ _ (.inl rfl) (by simp [f0]) (by simp [f3]) (by simp [f4]) (by simp [f19]) (by simp [f20]) (by simp [f21]) (by simp [f6]) (by simp [f7]) (by simp [f61]) (by simp [f62]) (by simp)) ?_
          simp; omega
        | false =>
          by_cases hxy : x = y2
          · subst hxy
            simp only [decide_true] at q1
            have hfl : (A.d (.bool true)).flat = true := rfl
            simp [f0, f4, f6, f61, f63, i0, i1, l1, l2, l3, a3, e3, hE2, hF2, hw2, q1, t1, f21, hw, hfl, -iaddrA, -ldA, -stA, -A.flat]
            have hun2 : (unused (a ++ (x, true) :: b)).Perm rest := by
              rw [hab, unused_append] at hun
              rw [unused_append]
              simp only [unused, Bool.false_eq_true, if_false, if_true] at hun ⊢
              exact (List.perm_middle.symm.trans hun).cons_inv
            refine AgainK_of (m := 1) (by simp) ⟨pre ++ [x], rest, a ++ (x, true) :: b, by rw [hO]; simp, by rw [hl2]; simp, hun2, ?_⟩ ?_
            · simp [f0, f3, f4, f19, f20, f21, Hp.cut, arrE_clr, -Ob.clr]
            · simp [f21o]; omega
          · have q1' : eqDs [.int .i64 0, .int .i64 0, .str []] (rowE encE x) (rowE encE y2) = some false := by rw [q1]; simp [hxy]
            simp [f0, f4, f6, f61, f63, i0, i1, l1, l2, l3, a3, e3, hE2, hF2, hw2, q1', -iaddrA, -ldA, -stA, -A.flat]
            refine AgainK_of (m := 2) (by simp) (again _ _ (.inr (Ne.symm hxy)) (by simp [f0]) (by simp [f3]) (by simp [f4]) (by simp [f19]) (by simp [f20]) (by simp [f21]) (by simp [f6]) (by simp [f7]) (by simp [f61]) (by simp [f62]) (by simp)) ?_
            simp; omega
      · exfalso
        have h2 : ¬ a.length < l.length := by simpa using h2
        obtain rfl : b = [] := List.eq_nil_of_length_eq_zero (by omega)
        rw [List.append_nil] at hab
        subst hab
        rcases ha _ hxm with h3 | h3
        · simp at h3
        · exact h3 rfl
  · obtain rfl : rest = [] := by
      cases rest with
      | nil => rfl
      | cons e r => exfalso; rw [hO] at h; simp at h
    simp
    refine CallK_of' (awakeOk _) ?_
    simp [f0, f3, hOl]
    simp [RetK]

end Go.Proofs.Zt
