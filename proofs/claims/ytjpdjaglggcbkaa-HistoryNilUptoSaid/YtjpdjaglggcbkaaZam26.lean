/-
  An abstract machine over the model, twenty-sixth part: the library's merge in place: what it computes. Lengths are bounded.
-/
import Derived.Test.YtjpdjaglggcbkaaZam25
namespace Go.Zam
set_option linter.all false
set_option maxRecDepth 100000
set_option maxHeartbeats 2000000

theorem shr_one (n : Int) : shOp .shr .u64 n 1 = some (.int .u64 (n.fdiv 2)) := by simp [shOp, IntKind.bits]

theorem half_op {n : Int} (h0 : 0 ≤ n) (h1 : n ≤ 4611686018427387904) : IntKind.i64.wrap (Int.fdiv (IntKind.u64.wrap n) 2) = n / 2 := by
  rw [wrap_u64 h0 (by omega), Int.fdiv_eq_ediv_of_nonneg n (by omega), wrap_i64 (by omega) (by omega)]

/-- what is done first, and what then -/
theorem seq_of {P : Program} {n0 : Nat} {A B : C} {Q : Ex → Fr → Hp → Prop} {fr : Fr} {H : Hp} (Q1 : Fr → Hp → Prop) (h1 : AWp P n0 A (fun e fr H => e = .normal ∧ Q1 fr H) fr H) (h2 : ∀ fr H, Q1 fr H → AWp P n0 B Q fr H) :
    AWp P n0 (.seq A B) Q fr H := by
  rw [AWp_seq]
  refine AWp.mono A (fun e fr H h => ?_) fr H h1
  obtain ⟨rfl, h⟩ := h
  exact h2 fr H h

section
variable {P : Program} {α : Type} {enc : α → List D} {sz : Nat} {c : α → α → Int}

theorem sorted_get (hc : Cmp c) {x : List α} (s : Sorted c x) {i j : Nat} {u v : α} (hi : x[i]? = some u) (hj : x[j]? = some v) (hij : i ≤ j) : c u v ≤ 0 := by
  by_cases h : i = j
  · subst h; rw [hi] at hj; cases hj; rw [hc.refl]; exact Int.le_refl 0
  · obtain ⟨h1, rfl⟩ := List.getElem?_eq_some_iff.1 hi
    obtain ⟨h2, rfl⟩ := List.getElem?_eq_some_iff.1 hj
    exact List.pairwise_iff_getElem.1 s i j h1 h2 (by omega)

def SymAt (P : Program) (enc : α → List D) (sz : Nat) (c : α → α → Int) (f : FuncId) (g : A) (n N : Nat) : Prop :=
  ∀ (H : Hp) (i : Nat) (L p x y q : List α) (a m b : Int), (∀ k, N ≤ k → g.clr k = g) → N ≤ H.length → x.length + y.length ≤ n → 0 < x.length → 0 < y.length → Sorted c x → Sorted c y → L = p ++ (x ++ (y ++ q)) → a = p.length → m = p.length + x.length → b = p.length + x.length + y.length →
    H[i]? = some (arrE enc sz L) → L.length ≤ 1099511627776 →
    ACall P f [.msl i 0 L.length, .d (.int .i64 a), .d (.int .i64 m), .d (.int .i64 b), g] H (fun r' H' => r' = .tup [] ∧ H' = H.set i (arrE enc sz (p ++ (ssort c (x ++ y) ++ q))))

theorem symEnd_wp (hsz : ∀ x, (enc x).length = sz) (hc : Cmp c) {f f2 f3 : FuncId} {fn2 fn3 : Func} (hf2 : P.funcs[f2]? = some fn2) (hcf2 : compF P [] fn2 = some (irRotate f3))
    (hf3 : P.funcs[f3]? = some fn3) (hcf3 : compF P [] fn3 = some (irSwapRange sz)) {g : A} {n N : Nat} (ih : SymAt P enc sz c f g n N)
    {H : Hp} {i : Nat} {L p x1 x2 y1 y2 q : List α} {a m b h s : Int} {fr : Fr} (hcl : H.Closed) (hg0 : ∀ k, N ≤ k → g.clr k = g) (hN : N ≤ H.length) (hn : x1.length + x2.length + (y1.length + y2.length) ≤ n + 1) (hx0 : 0 < x1.length + x2.length) (hy0 : 0 < y1.length + y2.length)
    (sx : Sorted c (x1 ++ x2)) (sy : Sorted c (y1 ++ y2)) (hL : L = p ++ (x1 ++ (x2 ++ (y1 ++ (y2 ++ q))))) (ha : a = p.length) (hm : m = p.length + x1.length + x2.length) (hb : b = p.length + x1.length + x2.length + y1.length + y2.length) (hs : s = x1.length) (hh : h = x1.length + y1.length)
    (hhalf : h = (b - a) / 2) (h1 : ∀ u ∈ x2, ∀ v ∈ y1, c v u < 0) (h2 : ∀ u ∈ x1, ∀ v ∈ y2, c u v ≤ 0)
    (hi : H[i]? = some (arrE enc sz L)) (hbd : L.length ≤ 1099511627776)
    (f0 : fr 0 = .msl i 0 L.length) (f1 : fr 1 = .d (.int .i64 a)) (f2' : fr 2 = .d (.int .i64 m)) (f3' : fr 3 = .d (.int .i64 b)) (f4 : fr 4 = g) (f18 : fr 18 = .d (.int .i64 (a + h))) (f19 : fr 19 = .d (.int .i64 (a + h + m))) (f20 : fr 20 = .d (.int .i64 (a + s))) :
    AWp P H.length (symEnd f2 f) (Fin [] H.length fun r' H' => r' = .tup [] ∧ H' = H.set i (arrE enc sz (p ++ (ssort c ((x1 ++ x2) ++ (y1 ++ y2)) ++ q)))) fr H := by
  have hil : i < H.length := (List.getElem?_eq_some_iff.1 hi).1
  have hgs : ∀ X : Ob, (H.set i X)[i]? = some X := fun X => List.getElem?_set_self hil
  have hLl : p.length + x1.length + x2.length + y1.length + y2.length + q.length = L.length := by rw [hL]; simp; omega
  have v1 : IntKind.i64.wrap (a + h + m - (a + s)) = m + y1.length := by rw [wrap_i64 (by omega) (by omega)]; omega
  have hhal := ssort_halves hc sx sy h1 h2
  unfold symEnd
  refine seq_of (fun fr H' => H' = H ∧ fr 0 = .msl i 0 L.length ∧ fr 1 = .d (.int .i64 a) ∧ fr 2 = .d (.int .i64 m) ∧ fr 3 = .d (.int .i64 b) ∧ fr 4 = g ∧ fr 18 = .d (.int .i64 (a + h)) ∧ fr 20 = .d (.int .i64 (a + s)) ∧ fr 24 = .d (.int .i64 (m + y1.length))) ?_ ?_
  · simp [f0, f1, f2', f3', f4, f18, f19, f20, v1]
  clear f0 f1 f2' f3' f4 f18 f19 f20
  rintro fr H1 ⟨hH1, f0, f1, f2', f3', f4, f18, f20, f24⟩
  rw [hH1]
  -- rotate
  refine seq_of (fun fr H' => H' = H.set i (arrE enc sz (p ++ (x1 ++ (y1 ++ (x2 ++ (y2 ++ q)))))) ∧ fr 0 = .msl i 0 L.length ∧ fr 1 = .d (.int .i64 a) ∧ fr 2 = .d (.int .i64 m) ∧ fr 3 = .d (.int .i64 b) ∧ fr 4 = g ∧ fr 18 = .d (.int .i64 (a + h)) ∧ fr 20 = .d (.int .i64 (a + s)) ∧ fr 24 = .d (.int .i64 (m + y1.length))) ?_ ?_
  · by_cases hr : 0 < x2.length ∧ 0 < y1.length
    · have c1 : a + s < m := by omega
      have c2 : m < m + (y1.length : Int) := by omega
      have hrot := rotate_acall hsz hf2 hcf2 hf3 hcf3 (H := H) (i := i) (g := g) (fun k hk => hg0 k (by omega)) (L := L) (p := p ++ x1) (x := x2) (y := y1) (q := y2 ++ q) (a := a + s) (m := m) (b := m + y1.length) (by rw [hL]; simp) hr.1 hr.2 (by simp; omega) (by simp; omega) (by simp; omega) hi hbd
      simp only [List.append_assoc] at hrot
      simp [f0, f1, f2', f3', f4, f18, f20, f24, c1, c2]
      refine CallK_of' hrot ?_
      simp [f0, f1, f2', f3', f4, f18, f20, f24]
    · have hLe : L = p ++ (x1 ++ (y1 ++ (x2 ++ (y2 ++ q)))) := by
        by_cases hx2 : x2 = []
        · rw [hL, hx2]; simp
        · have : y1 = [] := by
            have h3 := List.length_pos_iff.2 hx2
            exact List.eq_nil_of_length_eq_zero (by omega)
          rw [hL, this]; simp
      rw [← hLe, set_same hi]
      by_cases hx2 : 0 < x2.length
      · have c1 : a + s < m := by omega
        have c2 : ¬ m < m + (y1.length : Int) := by omega
        simp [f0, f1, f2', f3', f4, f18, f20, f24, c1, c2]
      · have c1 : ¬ a + s < m := by omega
        simp [f0, f1, f2', f3', f4, f18, f20, f24, c1]
  clear f0 f1 f2' f3' f4 f18 f20 f24
  rintro fr H1 ⟨hH1, f0, f1, f2', f3', f4, f18, f20, f24⟩
  rw [hH1]
  -- left
  refine seq_of (fun fr H' => H' = H.set i (arrE enc sz (p ++ (ssort c (x1 ++ y1) ++ (x2 ++ (y2 ++ q))))) ∧ fr 0 = .msl i 0 L.length ∧ fr 3 = .d (.int .i64 b) ∧ fr 4 = g ∧ fr 18 = .d (.int .i64 (a + h)) ∧ fr 24 = .d (.int .i64 (m + y1.length))) ?_ ?_
  · by_cases hr : 0 < x1.length ∧ 0 < y1.length
    · have c1 : a < a + s := by omega
      have c2 : a + s < a + h := by omega
      have hsym := ih (H.set i (arrE enc sz (p ++ (x1 ++ (y1 ++ (x2 ++ (y2 ++ q))))))) i (p ++ (x1 ++ (y1 ++ (x2 ++ (y2 ++ q))))) p x1 y1 (x2 ++ (y2 ++ q)) a (a + s) (a + h) hg0 (by simpa using hN) (by omega) hr.1 hr.2 (Sorted.append.1 sx).1 (Sorted.append.1 sy).1 (by simp) (by omega) (by omega) (by omega) (hgs _) (by simp; omega)
      have hln : (p ++ (x1 ++ (y1 ++ (x2 ++ (y2 ++ q))))).length = L.length := by simp; omega
      rw [hln, List.set_set] at hsym
      simp [f0, f1, f3', f4, f18, f20, f24, c1, c2]
      refine CallK_of' hsym ?_
      simp [f0, f1, f3', f4, f18, f20, f24]
    · have hLe : ssort c (x1 ++ y1) = x1 ++ y1 := by
        by_cases hx1 : x1 = []
        · subst hx1; simpa using ssort_sorted hc (Sorted.append.1 sy).1
        · have : y1 = [] := by
            have h3 := List.length_pos_iff.2 hx1
            exact List.eq_nil_of_length_eq_zero (by omega)
          subst this; simpa using ssort_sorted hc (Sorted.append.1 sx).1
      rw [hLe]
      by_cases hx1 : 0 < x1.length
      · have c1 : a < a + s := by omega
        have c2 : ¬ a + s < a + h := by omega
        simp [f0, f1, f3', f4, f18, f20, f24, c1, c2]
      · have c1 : ¬ a < a + s := by omega
        simp [f0, f1, f3', f4, f18, f20, f24, c1]
  clear f0 f1 f2' f3' f4 f18 f20 f24
  rintro fr H1 ⟨hH1, f0, f3', f4, f18, f24⟩
  rw [hH1]
  -- right
  rw [hhal]
  have hsl := ssort_length hc (x1 ++ y1)
  by_cases hr : 0 < x2.length ∧ 0 < y2.length
  · have c1 : a + h < m + (y1.length : Int) := by omega
    have c2 : m + (y1.length : Int) < b := by omega
    have hsym := ih (H.set i (arrE enc sz (p ++ (ssort c (x1 ++ y1) ++ (x2 ++ (y2 ++ q)))))) i (p ++ (ssort c (x1 ++ y1) ++ (x2 ++ (y2 ++ q)))) (p ++ ssort c (x1 ++ y1)) x2 y2 q (a + h) (m + y1.length) b hg0 (by simpa using hN) (by omega) hr.1 hr.2 (Sorted.append.1 sx).2.1 (Sorted.append.1 sy).2.1 (by simp) (by simp [hsl]; omega) (by simp [hsl]; omega) (by simp [hsl]; omega) (hgs _) (by simp [hsl]; omega)
    have hln : (p ++ (ssort c (x1 ++ y1) ++ (x2 ++ (y2 ++ q)))).length = L.length := by simp [hsl]; omega
    rw [hln, List.set_set] at hsym
    simp [f0, f3', f4, f18, f24, c1, c2]
    refine CallK_of' hsym ?_
    simp [RetK, Hp.cut_set, cut_self hcl, arrE_clr, -Ob.clr]
  · have hLe : ssort c (x2 ++ y2) = x2 ++ y2 := by
      by_cases hx2 : x2 = []
      · subst hx2; simpa using ssort_sorted hc (Sorted.append.1 sy).2.1
      · have : y2 = [] := by
          have h3 := List.length_pos_iff.2 hx2
          exact List.eq_nil_of_length_eq_zero (by omega)
        subst this; simpa using ssort_sorted hc (Sorted.append.1 sx).2.1
    rw [hLe]
    by_cases hx2 : 0 < x2.length
    · have c1 : a + h < m + (y1.length : Int) := by omega
      have c2 : ¬ m + (y1.length : Int) < b := by omega
      simp [f0, f3', f4, f18, f24, c1, c2]
      simp [RetK, Hp.cut_set, cut_self hcl, arrE_clr, -Ob.clr]
    · have c1 : ¬ a + h < m + (y1.length : Int) := by omega
      simp [f0, f3', f4, f18, f24, c1]
      simp [RetK, Hp.cut_set, cut_self hcl, arrE_clr, -Ob.clr]

theorem symLoop_wp (hsz : ∀ x, (enc x).length = sz) (hc : Cmp c) {f2 f : FuncId} {g : A} (hcmp : CmpA P enc c g)
    {H : Hp} {i : Nat} {L p x y q : List α} {a m b : Int} {h s0 r0 : Nat} {fr : Fr} {Q : Ex → Fr → Hp → Prop} (hcl : H.Closed) (hg : ∀ k, H.length ≤ k → g.clr k = g) (sx : Sorted c x) (sy : Sorted c y) (hL : L = p ++ (x ++ (y ++ q))) (ha : a = p.length) (hm : m = p.length + x.length)
    (hi : H[i]? = some (arrE enc sz L)) (hbd : L.length ≤ 1099511627776) (F1 : s0 ≤ r0) (F2 : r0 ≤ x.length) (F3 : r0 ≤ h) (F4 : h ≤ s0 + y.length)
    (f0 : fr 0 = .msl i 0 L.length) (f1 : fr 1 = .d (.int .i64 a)) (f2' : fr 2 = .d (.int .i64 m)) (f3' : fr 3 = .d (.int .i64 b)) (f4 : fr 4 = g) (f18 : fr 18 = .d (.int .i64 (a + h))) (f19 : fr 19 = .d (.int .i64 (a + h + m))) (f22 : fr 22 = .d (.int .i64 (a + h + m - 1)))
    (f20 : fr 20 = .d (.int .i64 (a + s0))) (f21 : fr 21 = .d (.int .i64 (a + r0)))
    (hQ : ∀ (fr : Fr) (s : Nat), s0 ≤ s → s ≤ r0 → (∀ k u v, s0 ≤ k → k < s → x[k]? = some u → y[h - 1 - k]? = some v → ¬ c v u < 0) → (∀ k u v, s ≤ k → k < r0 → x[k]? = some u → y[h - 1 - k]? = some v → c v u < 0) →
      fr 0 = .msl i 0 L.length → fr 1 = .d (.int .i64 a) → fr 2 = .d (.int .i64 m) → fr 3 = .d (.int .i64 b) → fr 4 = g → fr 18 = .d (.int .i64 (a + h)) → fr 19 = .d (.int .i64 (a + h + m)) → fr 20 = .d (.int .i64 (a + s)) → AWp P H.length (symEnd f2 f) Q fr H) :
    AWp P H.length (symLoop sz f2 f) Q fr H := by
  have hil : i < H.length := (List.getElem?_eq_some_iff.1 hi).1
  have hLl : p.length + x.length + y.length + q.length = L.length := by rw [hL]; simp; omega
  have gx : ∀ k, k < x.length → L[p.length + k]? = x[k]? := fun k hk => by
    rw [hL, List.getElem?_append_right (by omega), Nat.add_sub_cancel_left, List.getElem?_append_left hk]
  have gy : ∀ k, k < y.length → L[p.length + x.length + k]? = y[k]? := fun k hk => by
    rw [hL, List.getElem?_append_right (by omega), List.getElem?_append_right (by omega), List.getElem?_append_left (by omega)]
    congr 1; omega
  unfold symLoop
  simp
  refine LoopK_of H.length (fun fr H' => ∃ s r : Nat, s0 ≤ s ∧ s ≤ r ∧ r ≤ r0 ∧ (∀ k u v, s0 ≤ k → k < s → x[k]? = some u → y[h - 1 - k]? = some v → ¬ c v u < 0) ∧ (∀ k u v, r ≤ k → k < r0 → x[k]? = some u → y[h - 1 - k]? = some v → c v u < 0) ∧
      fr 0 = .msl i 0 L.length ∧ fr 1 = .d (.int .i64 a) ∧ fr 2 = .d (.int .i64 m) ∧ fr 3 = .d (.int .i64 b) ∧ fr 4 = g ∧ fr 18 = .d (.int .i64 (a + h)) ∧ fr 19 = .d (.int .i64 (a + h + m)) ∧ fr 22 = .d (.int .i64 (a + h + m - 1)) ∧
      fr 20 = .d (.int .i64 (a + s)) ∧ fr 21 = .d (.int .i64 (a + r)) ∧ H' = H)
    (fun fr H' => match fr 20, fr 21 with | .d (.int _ k), .d (.int _ l) => (l - k).toNat | _, _ => 0) (by simp) ?_ ?_
  · refine ⟨s0, r0, Nat.le_refl _, F1, Nat.le_refl _, fun k u v h1 h2 => by omega, fun k u v h1 h2 => by omega, ?_⟩
    simp [f0, f1, f2', f3', f4, f18, f19, f20, f21, f22, cut_self hcl, hil, hg, clr_d, clr_msl hil, -A.clr]
  clear f0 f1 f2' f3' f4 f18 f19 f20 f21 f22
  rintro fr H' ⟨s, r, e1, e2, e3, eA, eB, f0, f1, f2', f3', f4, f18, f19, f22, f20, f21, hH'⟩
  rw [hH']
  simp [f20, f21]
  refine BrK_split (fun h4 => ?_) (fun h4 => ?_)
  · have h4 : s < r := by simp at h4; omega
    have v1 : IntKind.i64.wrap (a + s + (a + r)) = a + s + (a + r) := wrap_i64 (by omega) (by omega)
    have v2 := half_op (n := a + s + (a + r)) (by omega) (by omega)
    generalize hk : (s + r) / 2 = k
    have hk2 : (a + s + (a + r)) / 2 = a + k := by omega
    rw [hk2] at v2
    have v3 : IntKind.i64.wrap (a + h + m - 1 - (a + k)) = a + h + m - 1 - (a + k) := wrap_i64 (by omega) (by omega)
    have v4 : IntKind.i64.wrap (a + k + 1) = a + k + 1 := wrap_i64 (by omega) (by omega)
    obtain ⟨u, hu⟩ : ∃ u, x[k]? = some u := ⟨_, List.getElem?_eq_getElem (by omega)⟩
    obtain ⟨v, hv⟩ : ∃ v, y[h - 1 - k]? = some v := ⟨_, List.getElem?_eq_getElem (by omega)⟩
    have lu : L[p.length + k]? = some u := by rw [gx k (by omega)]; exact hu
    have lv : L[p.length + x.length + (h - 1 - k)]? = some v := by rw [gy _ (by omega)]; exact hv
    have i1 : iaddrA H sz (.msl i 0 L.length) (.d (.int .i64 (a + h + m - 1 - (a + k)))) = some (.aptr i (p.length + x.length + (h - 1 - k)) 0) := arr_iaddr hi (by omega) (by omega)
    have i2 : iaddrA H sz (.msl i 0 L.length) (.d (.int .i64 (a + k))) = some (.aptr i (p.length + k) 0) := arr_iaddr hi (by omega) (by omega)
    have l1 := arr_ld hsz hi lv
    have l2 := arr_ld hsz hi lu
    simp [f0, f4, f20, f21, f22, v1, shr_one, v2, v3, i1, i2, l1, l2, -iaddrA, -ldA, -stA]
    refine hcmp _ v u _ _ ?_
    simp [f0, f4, f20, f21, f22]
    refine BrK_split (fun h5 => ?_) (fun h5 => ?_)
    · have h5 : ¬ c v u < 0 := by simpa using h5
      simp [f0, f4, f20, f21, f22, v4]
      refine AgainK_of (m := H.length) (by simp) ⟨k + 1, r, by omega, by omega, e3, ?_, eB, ?_⟩ ?_
      · intro k' u' v' h6 h7 h8 h9 h10
        refine h5 (hc.lt_le (hc.le_lt (sorted_get hc sy hv h9 (by omega)) h10) (sorted_get hc sx h8 hu (by omega)))
      · simp [f0, f1, f2', f3', f4, f18, f19, f20, f21, f22, cut_self hcl, hil, hg, clr_d, clr_msl hil, -A.clr]
        omega
      · simp [f21]; omega
    · have h5 : c v u < 0 := by simpa using h5
      simp [f0, f4, f20, f21, f22, v4]
      refine AgainK_of (m := H.length) (by simp) ⟨s, k, by omega, by omega, by omega, eA, ?_, ?_⟩ ?_
      · intro k' u' v' h6 h7 h8 h9
        by_cases hkk : k' = k
        · subst hkk; rw [hu] at h8; rw [hv] at h9; cases h8; cases h9; exact h5
        · exact hc.lt_le (hc.le_lt (sorted_get hc sy h9 hv (by omega)) h5) (sorted_get hc sx hu h8 (by omega))
      · simp [f0, f1, f2', f3', f4, f18, f19, f20, f21, f22, cut_self hcl, hil, hg, clr_d, clr_msl hil, -A.clr]
      · simp [f20]; omega
  · obtain rfl : s = r := by simp at h4; omega
    simp
    exact hQ _ s e1 e3 eA eB (by simp [f0]) (by simp [f1]) (by simp [f2']) (by simp [f3']) (by simp [f4]) (by simp [f18]) (by simp [f19]) (by simp [f20])

/-- one of the first row: it goes to its place in the second -/
theorem symA_wp (hsz : ∀ x, (enc x).length = sz) (hc : Cmp c) {g : A} (hcmp : CmpA P enc c g)
    {H : Hp} {i : Nat} {L p y q : List α} {e : α} {a m b : Int} {fr : Fr} {Q : Ex → Fr → Hp → Prop} (hcl : H.Closed) (hg : ∀ k, H.length ≤ k → g.clr k = g) (sy : Sorted c y) (hL : L = p ++ (e :: (y ++ q))) (ha : a = p.length) (hm : m = p.length + 1) (hb : b = p.length + 1 + y.length)
    (hi : H[i]? = some (arrE enc sz L)) (hbd : L.length ≤ 1099511627776)
    (f0 : fr 0 = .msl i 0 L.length) (f1 : fr 1 = .d (.int .i64 a)) (f2' : fr 2 = .d (.int .i64 m)) (f3' : fr 3 = .d (.int .i64 b)) (f4 : fr 4 = g)
    (hQ : ∀ fr : Fr, Q .ret fr (H.set i (arrE enc sz (p ++ (ssort c (e :: y) ++ q))))) :
    AWp P H.length (symA sz) Q fr H := by
  have hil : i < H.length := (List.getElem?_eq_some_iff.1 hi).1
  have hgs : ∀ X : Ob, (H.set i X)[i]? = some X := fun X => List.getElem?_set_self hil
  have hLl : p.length + 1 + y.length + q.length = L.length := by rw [hL]; simp; omega
  have hE : ∀ z : α, (rowE enc z).length = sz := rowE_length hsz
  have hF : ∀ z : α, (∀ u, u ∈ rowE enc z → u.flat = true) = True := rowE_flat2
  have ge : L[p.length]? = some e := get_mid (by rw [hL]) rfl
  have gy : ∀ k, k < y.length → L[p.length + 1 + k]? = y[k]? := fun k hk => by
    rw [hL, List.getElem?_append_right (by omega), show p.length + 1 + k - p.length = k + 1 by omega, List.getElem?_cons_succ, List.getElem?_append_left hk]
  unfold symA
  simp [f0, f1, f2', f3', f4]
  refine LoopK_of H.length (fun fr H' => ∃ s r : Nat, s ≤ r ∧ r ≤ y.length ∧ (∀ k v, k < s → y[k]? = some v → c v e < 0) ∧ (∀ k v, r ≤ k → y[k]? = some v → ¬ c v e < 0) ∧
      fr 0 = .msl i 0 L.length ∧ fr 1 = .d (.int .i64 a) ∧ fr 4 = g ∧
      fr 10 = .d (.int .i64 (m + s)) ∧ fr 11 = .d (.int .i64 (m + r)) ∧ H' = H)
    (fun fr H' => match fr 10, fr 11 with | .d (.int _ k), .d (.int _ l) => (l - k).toNat | _, _ => 0) (by simp) ?_ ?_
  · refine ⟨0, y.length, by omega, Nat.le_refl _, fun k v h1 => by omega, fun k v h1 h2 => ?_, ?_⟩
    · have := (List.getElem?_eq_some_iff.1 h2).1; omega
    · simp [f0, f1, f4, cut_self hcl, hil, hg, clr_d, clr_msl hil, -A.clr]
      omega
  clear f0 f1 f2' f3' f4
  rintro fr H' ⟨s, r, e2, e3, eA, eB, f0, f1, f4, f10, f11, hH'⟩
  rw [hH']
  simp [f10, f11]
  refine BrK_split (fun h4 => ?_) (fun h4 => ?_)
  · have h4 : s < r := by simp at h4; omega
    have v1 : IntKind.i64.wrap (m + s + (m + r)) = m + s + (m + r) := wrap_i64 (by omega) (by omega)
    have v2 := half_op (n := m + s + (m + r)) (by omega) (by omega)
    generalize hk : (s + r) / 2 = k
    have hk2 : (m + s + (m + r)) / 2 = m + k := by omega
    rw [hk2] at v2
    have v4 : IntKind.i64.wrap (m + k + 1) = m + k + 1 := wrap_i64 (by omega) (by omega)
    obtain ⟨v, hv⟩ : ∃ v, y[k]? = some v := ⟨_, List.getElem?_eq_getElem (by omega)⟩
    have lv : L[p.length + 1 + k]? = some v := by rw [gy _ (by omega)]; exact hv
    have i1 : iaddrA H sz (.msl i 0 L.length) (.d (.int .i64 (m + k))) = some (.aptr i (p.length + 1 + k) 0) := arr_iaddr hi (by omega) (by omega)
    have i2 : iaddrA H sz (.msl i 0 L.length) (.d (.int .i64 a)) = some (.aptr i p.length 0) := arr_iaddr hi (by omega) (by omega)
    have l1 := arr_ld hsz hi lv
    have l2 := arr_ld hsz hi ge
    simp [f0, f1, f4, f10, f11, v1, shr_one, v2, i1, i2, l1, l2, -iaddrA, -ldA, -stA]
    refine hcmp _ v e _ _ ?_
    simp [f0, f4, f10, f11]
    refine BrK_split (fun h5 => ?_) (fun h5 => ?_)
    · have h5 : c v e < 0 := by simpa using h5
      simp [f0, f4, f10, f11, v4]
      refine AgainK_of (m := H.length) (by simp) ⟨k + 1, r, by omega, e3, ?_, eB, ?_⟩ ?_
      · intro k' v' h6 h7
        exact hc.le_lt (sorted_get hc sy h7 hv (by omega)) h5
      · simp [f0, f1, f4, f10, f11, cut_self hcl, hil, hg, clr_d, clr_msl hil, -A.clr]
        omega
      · simp [f11]; omega
    · have h5 : ¬ c v e < 0 := by simpa using h5
      simp [f0, f4, f10, f11, v4]
      refine AgainK_of (m := H.length) (by simp) ⟨s, k, by omega, by omega, eA, ?_, ?_⟩ ?_
      · intro k' v' h6 h7 h8
        exact h5 (hc.le_lt (sorted_get hc sy hv h7 h6) h8)
      · simp [f0, f1, f4, f10, f11, cut_self hcl, hil, hg, clr_d, clr_msl hil, -A.clr]
      · simp [f10]; omega
  · obtain rfl : s = r := by simp at h4; omega
    have hres : ssort c (e :: y) = y.take s ++ e :: y.drop s := by
      have := ssort_cons hc (a := y.take s) (b := y.drop s) (x := e) (by simpa using sy) (fun z hz => by
        obtain ⟨k, hk, rfl⟩ := List.getElem_of_mem hz
        simp only [List.length_take] at hk
        exact eA k _ (by omega) (by rw [List.getElem_take]; exact List.getElem?_eq_getElem (by omega))) (fun z hz => by
        obtain ⟨k, hk, rfl⟩ := List.getElem_of_mem hz
        simp only [List.length_drop] at hk
        refine hc.not_lt.1 (eB (s + k) _ (by omega) ?_)
        rw [List.getElem_drop]; exact List.getElem?_eq_getElem (by omega))
      simpa using this
    have hts : (y.take s).length = s := by simp; omega
    generalize hy1 : y.take s = y1 at hres hts
    generalize hy2 : y.drop s = y2 at hres
    have hy : y = y1 ++ y2 := by rw [← hy1, ← hy2, List.take_append_drop]
    have hyl : y.length = y1.length + y2.length := by rw [hy]; simp
    have v1 : IntKind.i64.wrap (m + s - 1) = a + s := by rw [wrap_i64 (by omega) (by omega)]; omega
    simp [f0, f1, f4, f10]
    refine LoopK_of H.length (fun fr H' => ∃ u v M, ∃ k : Nat, y1 = u ++ v ∧ M = p ++ (u ++ e :: (v ++ (y2 ++ q))) ∧ k = u.length ∧
        fr 0 = .msl i 0 L.length ∧ fr 10 = .d (.int .i64 (m + s)) ∧ fr 13 = .d (.int .i64 (a + k)) ∧ H' = H.set i (arrE enc sz M))
      (fun fr H' => match fr 13 with | .d (.int _ k) => (a + s - k).toNat | _ => 0) (by simp) ?_ ?_
    · refine ⟨[], y1, L, 0, rfl, by rw [hL, hy]; simp, rfl, ?_⟩
      simp [f0, f1, f4, f10, set_same hi, cut_self hcl, hil, hg, clr_d, clr_msl hil, -A.clr]
    clear f0 f1 f4 f10 f11
    rintro fr H' ⟨u, v, M, k, huv, hM, hk, f0, f10, f13, hH'⟩
    rw [hH']
    have huvl : u.length + v.length = s := by rw [← hts, huv]; simp
    have hMl : M.length = L.length := by rw [hM]; simp; omega
    have f13o := f13
    simp [f10, f13, v1]
    refine BrK_split (fun h5 => ?_) (fun h5 => ?_)
    · have h5 : k < s := by simp at h5; omega
      obtain ⟨d, v, rfl⟩ : ∃ d v', v = d :: v' := by
        cases v with
        | nil => simp at huvl; omega
        | cons d v => exact ⟨d, v, rfl⟩
      simp only [List.length_cons] at huvl
      have w1 : IntKind.i64.wrap (a + k + 1) = a + k + 1 := wrap_i64 (by omega) (by omega)
      have m1 : M = (p ++ u) ++ e :: (d :: (v ++ (y2 ++ q))) := by rw [hM]; simp
      have m2 : M = (p ++ u ++ [e]) ++ d :: (v ++ (y2 ++ q)) := by rw [hM]; simp
      have g1 := get_mid (k := p.length + k) m1 (by simp; omega)
      have g2 := get_mid (k := p.length + k + 1) m2 (by simp; omega)
      have i1 : ∀ M' : List α, iaddrA (H.set i (arrE enc sz M')) sz (.msl i 0 L.length) (.d (.int .i64 (a + k))) = some (.aptr i (p.length + k) 0) := fun M' => arr_iaddr (hgs _) (by omega) (by omega)
      have i2 : ∀ M' : List α, iaddrA (H.set i (arrE enc sz M')) sz (.msl i 0 L.length) (.d (.int .i64 (a + k + 1))) = some (.aptr i (p.length + k + 1) 0) := fun M' => arr_iaddr (hgs _) (by omega) (by omega)
      have l1 := arr_ld hsz (hgs (arrE enc sz M)) g1
      have l2 := arr_ld hsz (hgs (arrE enc sz M)) g2
      have t1 := arr_st hsz (hgs (arrE enc sz M)) (k := p.length + k) (e := d) (by omega)
      have t2 := arr_st hsz (hgs (arrE enc sz (M.set (p.length + k) d))) (k := p.length + k + 1) (e := e) (by simp; omega)
      have s1 := set_mid (e' := d) (k := p.length + k) m1 (by simp; omega)
      have m3 : M.set (p.length + k) d = (p ++ u ++ [d]) ++ d :: (v ++ (y2 ++ q)) := by rw [s1]; simp
      have s2 := set_mid (e' := e) (k := p.length + k + 1) m3 (by simp; omega)
      rw [List.set_set] at t1 t2
      rw [s2] at t2
      simp [f0, f10, f13, w1, i1, i2, l1, l2, t1, t2, hE, hF, -iaddrA, -ldA, -stA, -A.flat]
      refine AgainK_of (m := H.length) (by simp) ⟨u ++ [d], v, p ++ u ++ [d] ++ e :: (v ++ (y2 ++ q)), k + 1, by rw [huv]; simp, by simp, by simp [hk], ?_⟩ ?_
      · simp [f0, f10, f13, Hp.cut_set, cut_self hcl, hil, hg, arrE_clr, clr_d, clr_msl hil, -A.clr, -Ob.clr]
        omega
      · simp; omega
    · have h5 : ¬ k < s := by simp at h5; omega
      obtain rfl : v = [] := List.eq_nil_of_length_eq_zero (by omega)
      simp only [List.append_nil] at huv
      subst huv
      have hM' : M = p ++ (ssort c (e :: y) ++ q) := by rw [hM, hres]; simp
      simp [hM']
      exact hQ _


end
end Go.Zam
