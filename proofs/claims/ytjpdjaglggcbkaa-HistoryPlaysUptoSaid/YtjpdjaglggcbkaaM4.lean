/-
  Texts of one proof, one behind the other: An abstract machine over the model, twenty-sixth part: the library's merge in place: what it computes. Lengths are bounded. An abstract machine over the model, twenty-seventh part: the library's merge in place and stable sorting: what they compute. Lengths are bounded. An abstract machine over the model, twenty-eighth part: the library's SortStableFunc and Clone: what they compute. Lengths are bounded. An abstract machine over the model, twenty-ninth part: the library's comparisons: what they compute. No condition. An abstract machine over the model, thirtieth part: edits of texts: what they are, and the plain laws of undoing them; the code of the functions on them. No condition. An abstract machine over the model, thirty-first part: the functions on edits: what they compute, over any program that has them. The lengths are bounded where a theorem says so. An abstract machine over the model, thirty-second part: IndexFunc; an array handed back in a pair; maps from names. No condition. An abstract machine over the model, thirty-third part: comparing texts. No condition. An abstract machine over the model, thirty-fourth part: heaps that are closed; cells of boxes and of rows; Clone's answer as a plain slice. No condition. An abstract machine over the model, two hundred and fourth part: printed forms of chapter 17's functions. No program in sight. No condition. An abstract machine over the model, thirty-fifth part: what is of a type. No program in sight. No condition. An abstract machine over the model, fortieth part: what is of a type, where a type speaks of itself. No program in sight. No condition. An abstract machine over the model, forty-first part: from a call of the machine to what a law's row asks, where package variables stay as they are laid. No program in sight. No condition. An abstract machine over the model, thirty-sixth part: a slice that was appended to, handed to a function that writes its cells. No program in sight. No condition. An abstract machine over the model, thirty-seventh part: loops over the rows of a slice, by their number. No program in sight. No condition. An abstract machine over the model, thirty-eighth part: a slice that was appended to, sorted in place. No program in sight. No condition. An abstract machine over the model, thirty-ninth part: functions of the library that turn pure data into pure data. No program in sight. No condition. An abstract machine over the model, forty-second part: what a name is, in the document's words: digit, Letter, IsKey, IsName, over any program that has them. No condition but on lengths. An abstract machine over the model, forty-third part: types of the language: how great one is, whether one may be, over any program that asks. The lengths are bounded. An abstract machine over the model, forty-fourth part: the form of the functions of the layers of runes and tokens, over any program that has them. (Printed by gen.py.) An abstract machine over the model, forty-fifth part: a scanner over a text: bytes, blanks, words, signs, over any program that has these functions. The lengths are bounded. An abstract machine over the model, two hundred and fifth part: modules and changes (change.Sort, Find, Apply; what a law's own Light and Same answer), over any program. No condition but bounds.
-/
import Derived.Test.YtjpdjaglggcbkaaM3
import Derived.Lib.LaidTab
namespace Go.Zam
set_option linter.all false
set_option maxRecDepth 100000
set_option maxHeartbeats 2000000

theorem shr_one (n : Int) : shOp .shr .u64 n 1 = some (.int .u64 (n.fdiv 2)) := by simp [shOp, IntKind.bits]

theorem half_op {n : Int} (h0 : 0 ≤ n) (h1 : n ≤ 4611686018427387904) : IntKind.i64.wrap (Int.fdiv (IntKind.u64.wrap n) 2) = n / 2 := by
  rw [wrap_u64 h0 (by omega), Int.fdiv_eq_ediv_of_nonneg n (by omega), wrap_i64 (by omega) (by omega)]

/-- what is done first, and what then -/
theorem seq_of {P : Program} {n0 : Nat} {A B : C} {Q : Ex → Fr → Hp → Prop} {fr : Fr} {H : Hp} (Q1 : Fr → Hp → Prop) (h1 : AWp P n0 A (fun e fr H => e = .normal ∧ Q1 fr H) fr H) (h2 : ∀ fr H, Q1 fr H → AWp P n0 B Q fr H) :
    AWp P n0 (.seq A B) Q fr H := by
  rw [AWp_seq]
  refine AWp.mono A (fun e fr H h => ?_) fr H h1
  obtain ⟨rfl, h⟩ := h
  exact h2 fr H h

section
variable {P : Program} {α : Type} {enc : α → List D} {sz : Nat} {c : α → α → Int}

theorem sorted_get (hc : Cmp c) {x : List α} (s : Sorted c x) {i j : Nat} {u v : α} (hi : x[i]? = some u) (hj : x[j]? = some v) (hij : i ≤ j) : c u v ≤ 0 := by
  by_cases h : i = j
  · subst h; rw [hi] at hj; cases hj; rw [hc.refl]; exact Int.le_refl 0
  · obtain ⟨h1, rfl⟩ := List.getElem?_eq_some_iff.1 hi
    obtain ⟨h2, rfl⟩ := List.getElem?_eq_some_iff.1 hj
    exact List.pairwise_iff_getElem.1 s i j h1 h2 (by omega)

def SymAt (P : Program) (enc : α → List D) (sz : Nat) (c : α → α → Int) (f : FuncId) (g : A) (n N : Nat) : Prop :=
  ∀ (H : Hp) (i : Nat) (L p x y q : List α) (a m b : Int), (∀ k, N ≤ k → g.clr k = g) → N ≤ H.length → x.length + y.length ≤ n → 0 < x.length → 0 < y.length → Sorted c x → Sorted c y → L = p ++ (x ++ (y ++ q)) → a = p.length → m = p.length + x.length → b = p.length + x.length + y.length →
    H[i]? = some (arrE enc sz L) → L.length ≤ 1099511627776 →
    ACall P f [.msl i 0 L.length, .d (.int .i64 a), .d (.int .i64 m), .d (.int .i64 b), g] H (fun r' H' => r' = .tup [] ∧ H' = H.set i (arrE enc sz (p ++ (ssort c (x ++ y) ++ q))))

theorem symEnd_wp (hsz : ∀ x, (enc x).length = sz) (hc : Cmp c) {f f2 f3 : FuncId} {fn2 fn3 : Func} (hf2 : P.funcs[f2]? = some fn2) (hcf2 : compF P [] fn2 = some (irRotate f3))
    (hf3 : P.funcs[f3]? = some fn3) (hcf3 : compF P [] fn3 = some (irSwapRange sz)) {g : A} {n N : Nat} (ih : SymAt P enc sz c f g n N)
    {H : Hp} {i : Nat} {L p x1 x2 y1 y2 q : List α} {a m b h s : Int} {fr : Fr} (hcl : H.Closed) (hg0 : ∀ k, N ≤ k → g.clr k = g) (hN : N ≤ H.length) (hn : x1.length + x2.length + (y1.length + y2.length) ≤ n + 1) (hx0 : 0 < x1.length + x2.length) (hy0 : 0 < y1.length + y2.length)
    (sx : Sorted c (x1 ++ x2)) (sy : Sorted c (y1 ++ y2)) (hL : L = p ++ (x1 ++ (x2 ++ (y1 ++ (y2 ++ q))))) (ha : a = p.length) (hm : m = p.length + x1.length + x2.length) (hb : b = p.length + x1.length + x2.length + y1.length + y2.length) (hs : s = x1.length) (hh : h = x1.length + y1.length)
    (hhalf : h = (b - a) / 2) (h1 : ∀ u ∈ x2, ∀ v ∈ y1, c v u < 0) (h2 : ∀ u ∈ x1, ∀ v ∈ y2, c u v ≤ 0)
    (hi : H[i]? = some (arrE enc sz L)) (hbd : L.length ≤ 1099511627776)
    (f0 : fr 0 = .msl i 0 L.length) (f1 : fr 1 = .d (.int .i64 a)) (f2' : fr 2 = .d (.int .i64 m)) (f3' : fr 3 = .d (.int .i64 b)) (f4 : fr 4 = g) (f18 : fr 18 = .d (.int .i64 (a + h))) (f19 : fr 19 = .d (.int .i64 (a + h + m))) (f20 : fr 20 = .d (.int .i64 (a + s))) :
    AWp P H.length (symEnd f2 f) (Fin [] H.length fun r' H' => r' = .tup [] ∧ H' = H.set i (arrE enc sz (p ++ (ssort c ((x1 ++ x2) ++ (y1 ++ y2)) ++ q)))) fr H := by
  have hil : i < H.length := (List.getElem?_eq_some_iff.1 hi).1
  have hgs : ∀ X : Ob, (H.set i X)[i]? = some X := fun X => List.getElem?_set_self hil
  have hLl : p.length + x1.length + x2.length + y1.length + y2.length + q.length = L.length := by rw [hL]; simp; omega
  have v1 : IntKind.i64.wrap (a + h + m - (a + s)) = m + y1.length := by rw [wrap_i64 (by omega) (by omega)]; omega
  have hhal := ssort_halves hc sx sy h1 h2
  unfold symEnd
  refine seq_of (fun fr H' => H' = H ∧ fr 0 = .msl i 0 L.length ∧ fr 1 = .d (.int .i64 a) ∧ fr 2 = .d (.int .i64 m) ∧ fr 3 = .d (.int .i64 b) ∧ fr 4 = g ∧ fr 18 = .d (.int .i64 (a + h)) ∧ fr 20 = .d (.int .i64 (a + s)) ∧ fr 24 = .d (.int .i64 (m + y1.length))) ?_ ?_
  · simp [f0, f1, f2', f3', f4, f18, f19, f20, v1]
  clear f0 f1 f2' f3' f4 f18 f19 f20
  rintro fr H1 ⟨hH1, f0, f1, f2', f3', f4, f18, f20, f24⟩
  rw [hH1]
  -- rotate
  refine seq_of (fun fr H' => H' = H.set i (arrE enc sz (p ++ (x1 ++ (y1 ++ (x2 ++ (y2 ++ q)))))) ∧ fr 0 = .msl i 0 L.length ∧ fr 1 = .d (.int .i64 a) ∧ fr 2 = .d (.int .i64 m) ∧ fr 3 = .d (.int .i64 b) ∧ fr 4 = g ∧ fr 18 = .d (.int .i64 (a + h)) ∧ fr 20 = .d (.int .i64 (a + s)) ∧ fr 24 = .d (.int .i64 (m + y1.length))) ?_ ?_
  · by_cases hr : 0 < x2.length ∧ 0 < y1.length
    · have c1 : a + s < m := by omega
      have c2 : m < m + (y1.length : Int) := by omega
      have hrot := rotate_acall hsz hf2 hcf2 hf3 hcf3 (H := H) (i := i) (g := g) (fun k hk => hg0 k (by omega)) (L := L) (p := p ++ x1) (x := x2) (y := y1) (q := y2 ++ q) (a := a + s) (m := m) (b := m + y1.length) (by rw [hL]; simp) hr.1 hr.2 (by simp; omega) (by simp; omega) (by simp; omega) hi hbd
      simp only [List.append_assoc] at hrot
      simp [f0, f1, f2', f3', f4, f18, f20, f24, c1, c2]
      refine CallK_of' hrot ?_
      simp [f0, f1, f2', f3', f4, f18, f20, f24]
    · have hLe : L = p ++ (x1 ++ (y1 ++ (x2 ++ (y2 ++ q)))) := by
        by_cases hx2 : x2 = []
        · rw [hL, hx2]; simp
        · have : y1 = [] := by
            have h3 := List.length_pos_iff.2 hx2
            exact List.eq_nil_of_length_eq_zero (by omega)
          rw [hL, this]; simp
      rw [← hLe, set_same hi]
      by_cases hx2 : 0 < x2.length
      · have c1 : a + s < m := by omega
        have c2 : ¬ m < m + (y1.length : Int) := by omega
        simp [f0, f1, f2', f3', f4, f18, f20, f24, c1, c2]
      · have c1 : ¬ a + s < m := by omega
        simp [f0, f1, f2', f3', f4, f18, f20, f24, c1]
  clear f0 f1 f2' f3' f4 f18 f20 f24
  rintro fr H1 ⟨hH1, f0, f1, f2', f3', f4, f18, f20, f24⟩
  rw [hH1]
  -- left
  refine seq_of (fun fr H' => H' = H.set i (arrE enc sz (p ++ (ssort c (x1 ++ y1) ++ (x2 ++ (y2 ++ q))))) ∧ fr 0 = .msl i 0 L.length ∧ fr 3 = .d (.int .i64 b) ∧ fr 4 = g ∧ fr 18 = .d (.int .i64 (a + h)) ∧ fr 24 = .d (.int .i64 (m + y1.length))) ?_ ?_
  · by_cases hr : 0 < x1.length ∧ 0 < y1.length
    · have c1 : a < a + s := by omega
      have c2 : a + s < a + h := by omega
      have hsym := ih (H.set i (arrE enc sz (p ++ (x1 ++ (y1 ++ (x2 ++ (y2 ++ q))))))) i (p ++ (x1 ++ (y1 ++ (x2 ++ (y2 ++ q))))) p x1 y1 (x2 ++ (y2 ++ q)) a (a + s) (a + h) hg0 (by simpa using hN) (by omega) hr.1 hr.2 (Sorted.append.1 sx).1 (Sorted.append.1 sy).1 (by simp) (by omega) (by omega) (by omega) (hgs _) (by simp; omega)
      have hln : (p ++ (x1 ++ (y1 ++ (x2 ++ (y2 ++ q))))).length = L.length := by simp; omega
      rw [hln, List.set_set] at hsym
      simp [f0, f1, f3', f4, f18, f20, f24, c1, c2]
      refine CallK_of' hsym ?_
      simp [f0, f1, f3', f4, f18, f20, f24]
    · have hLe : ssort c (x1 ++ y1) = x1 ++ y1 := by
        by_cases hx1 : x1 = []
        · subst hx1; simpa using ssort_sorted hc (Sorted.append.1 sy).1
        · have : y1 = [] := by
            have h3 := List.length_pos_iff.2 hx1
            exact List.eq_nil_of_length_eq_zero (by omega)
          subst this; simpa using ssort_sorted hc (Sorted.append.1 sx).1
      rw [hLe]
      by_cases hx1 : 0 < x1.length
      · have c1 : a < a + s := by omega
        have c2 : ¬ a + s < a + h := by omega
        simp [f0, f1, f3', f4, f18, f20, f24, c1, c2]
      · have c1 : ¬ a < a + s := by omega
        simp [f0, f1, f3', f4, f18, f20, f24, c1]
  clear f0 f1 f2' f3' f4 f18 f20 f24
  rintro fr H1 ⟨hH1, f0, f3', f4, f18, f24⟩
  rw [hH1]
  -- right
  rw [hhal]
  have hsl := ssort_length hc (x1 ++ y1)
  by_cases hr : 0 < x2.length ∧ 0 < y2.length
  · have c1 : a + h < m + (y1.length : Int) := by omega
    have c2 : m + (y1.length : Int) < b := by omega
    have hsym := ih (H.set i (arrE enc sz (p ++ (ssort c (x1 ++ y1) ++ (x2 ++ (y2 ++ q)))))) i (p ++ (ssort c (x1 ++ y1) ++ (x2 ++ (y2 ++ q)))) (p ++ ssort c (x1 ++ y1)) x2 y2 q (a + h) (m + y1.length) b hg0 (by simpa using hN) (by omega) hr.1 hr.2 (Sorted.append.1 sx).2.1 (Sorted.append.1 sy).2.1 (by simp) (by simp [hsl]; omega) (by simp [hsl]; omega) (by simp [hsl]; omega) (hgs _) (by simp [hsl]; omega)
    have hln : (p ++ (ssort c (x1 ++ y1) ++ (x2 ++ (y2 ++ q)))).length = L.length := by simp [hsl]; omega
    rw [hln, List.set_set] at hsym
    simp [f0, f3', f4, f18, f24, c1, c2]
    refine CallK_of' hsym ?_
    simp [RetK, Hp.cut_set, cut_self hcl, arrE_clr, -Ob.clr]
  · have hLe : ssort c (x2 ++ y2) = x2 ++ y2 := by
      by_cases hx2 : x2 = []
      · subst hx2; simpa using ssort_sorted hc (Sorted.append.1 sy).2.1
      · have : y2 = [] := by
          have h3 := List.length_pos_iff.2 hx2
          exact List.eq_nil_of_length_eq_zero (by omega)
        subst this; simpa using ssort_sorted hc (Sorted.append.1 sx).2.1
    rw [hLe]
    by_cases hx2 : 0 < x2.length
    · have c1 : a + h < m + (y1.length : Int) := by omega
      have c2 : ¬ m + (y1.length : Int) < b := by omega
      simp [f0, f3', f4, f18, f24, c1, c2]
      simp [RetK, Hp.cut_set, cut_self hcl, arrE_clr, -Ob.clr]
    · have c1 : ¬ a + h < m + (y1.length : Int) := by omega
      simp [f0, f3', f4, f18, f24, c1]
      simp [RetK, Hp.cut_set, cut_self hcl, arrE_clr, -Ob.clr]

theorem symLoop_wp (hsz : ∀ x, (enc x).length = sz) (hc : Cmp c) {f2 f : FuncId} {g : A} (hcmp : CmpA P enc c g)
    {H : Hp} {i : Nat} {L p x y q : List α} {a m b : Int} {h s0 r0 : Nat} {fr : Fr} {Q : Ex → Fr → Hp → Prop} (hcl : H.Closed) (hg : ∀ k, H.length ≤ k → g.clr k = g) (sx : Sorted c x) (sy : Sorted c y) (hL : L = p ++ (x ++ (y ++ q))) (ha : a = p.length) (hm : m = p.length + x.length)
    (hi : H[i]? = some (arrE enc sz L)) (hbd : L.length ≤ 1099511627776) (F1 : s0 ≤ r0) (F2 : r0 ≤ x.length) (F3 : r0 ≤ h) (F4 : h ≤ s0 + y.length)
    (f0 : fr 0 = .msl i 0 L.length) (f1 : fr 1 = .d (.int .i64 a)) (f2' : fr 2 = .d (.int .i64 m)) (f3' : fr 3 = .d (.int .i64 b)) (f4 : fr 4 = g) (f18 : fr 18 = .d (.int .i64 (a + h))) (f19 : fr 19 = .d (.int .i64 (a + h + m))) (f22 : fr 22 = .d (.int .i64 (a + h + m - 1)))
    (f20 : fr 20 = .d (.int .i64 (a + s0))) (f21 : fr 21 = .d (.int .i64 (a + r0)))
    (hQ : ∀ (fr : Fr) (s : Nat), s0 ≤ s → s ≤ r0 → (∀ k u v, s0 ≤ k → k < s → x[k]? = some u → y[h - 1 - k]? = some v → ¬ c v u < 0) → (∀ k u v, s ≤ k → k < r0 → x[k]? = some u → y[h - 1 - k]? = some v → c v u < 0) →
      fr 0 = .msl i 0 L.length → fr 1 = .d (.int .i64 a) → fr 2 = .d (.int .i64 m) → fr 3 = .d (.int .i64 b) → fr 4 = g → fr 18 = .d (.int .i64 (a + h)) → fr 19 = .d (.int .i64 (a + h + m)) → fr 20 = .d (.int .i64 (a + s)) → AWp P H.length (symEnd f2 f) Q fr H) :
    AWp P H.length (symLoop sz f2 f) Q fr H := by
  have hil : i < H.length := (List.getElem?_eq_some_iff.1 hi).1
  have hLl : p.length + x.length + y.length + q.length = L.length := by rw [hL]; simp; omega
  have gx : ∀ k, k < x.length → L[p.length + k]? = x[k]? := fun k hk => by
    rw [hL, List.getElem?_append_right (by omega), Nat.add_sub_cancel_left, List.getElem?_append_left hk]
  have gy : ∀ k, k < y.length → L[p.length + x.length + k]? = y[k]? := fun k hk => by
    rw [hL, List.getElem?_append_right (by omega), List.getElem?_append_right (by omega), List.getElem?_append_left (by omega)]
    congr 1; omega
  unfold symLoop
  simp
  refine LoopK_of H.length (fun fr H' => ∃ s r : Nat, s0 ≤ s ∧ s ≤ r ∧ r ≤ r0 ∧ (∀ k u v, s0 ≤ k → k < s → x[k]? = some u → y[h - 1 - k]? = some v → ¬ c v u < 0) ∧ (∀ k u v, r ≤ k → k < r0 → x[k]? = some u → y[h - 1 - k]? = some v → c v u < 0) ∧
      fr 0 = .msl i 0 L.length ∧ fr 1 = .d (.int .i64 a) ∧ fr 2 = .d (.int .i64 m) ∧ fr 3 = .d (.int .i64 b) ∧ fr 4 = g ∧ fr 18 = .d (.int .i64 (a + h)) ∧ fr 19 = .d (.int .i64 (a + h + m)) ∧ fr 22 = .d (.int .i64 (a + h + m - 1)) ∧
      fr 20 = .d (.int .i64 (a + s)) ∧ fr 21 = .d (.int .i64 (a + r)) ∧ H' = H)
    (fun fr H' => match fr 20, fr 21 with | .d (.int _ k), .d (.int _ l) => (l - k).toNat | _, _ => 0) (by simp) ?_ ?_
  · refine ⟨s0, r0, Nat.le_refl _, F1, Nat.le_refl _, fun k u v h1 h2 => by omega, fun k u v h1 h2 => by omega, ?_⟩
    simp [f0, f1, f2', f3', f4, f18, f19, f20, f21, f22, cut_self hcl, hil, hg, clr_d, clr_msl hil, -A.clr]
  clear f0 f1 f2' f3' f4 f18 f19 f20 f21 f22
  rintro fr H' ⟨s, r, e1, e2, e3, eA, eB, f0, f1, f2', f3', f4, f18, f19, f22, f20, f21, hH'⟩
  rw [hH']
  simp [f20, f21]
  refine BrK_split (fun h4 => ?_) (fun h4 => ?_)
  · have h4 : s < r := by simp at h4; omega
    have v1 : IntKind.i64.wrap (a + s + (a + r)) = a + s + (a + r) := wrap_i64 (by omega) (by omega)
    have v2 := half_op (n := a + s + (a + r)) (by omega) (by omega)
    generalize hk : (s + r) / 2 = k
    have hk2 : (a + s + (a + r)) / 2 = a + k := by omega
    rw [hk2] at v2
    have v3 : IntKind.i64.wrap (a + h + m - 1 - (a + k)) = a + h + m - 1 - (a + k) := wrap_i64 (by omega) (by omega)
    have v4 : IntKind.i64.wrap (a + k + 1) = a + k + 1 := wrap_i64 (by omega) (by omega)
    obtain ⟨u, hu⟩ : ∃ u, x[k]? = some u := ⟨_, List.getElem?_eq_getElem (by omega)⟩
    obtain ⟨v, hv⟩ : ∃ v, y[h - 1 - k]? = some v := ⟨_, List.getElem?_eq_getElem (by omega)⟩
    have lu : L[p.length + k]? = some u := by rw [gx k (by omega)]; exact hu
    have lv : L[p.length + x.length + (h - 1 - k)]? = some v := by rw [gy _ (by omega)]; exact hv
    have i1 : iaddrA H sz (.msl i 0 L.length) (.d (.int .i64 (a + h + m - 1 - (a + k)))) = some (.aptr i (p.length + x.length + (h - 1 - k)) 0) := arr_iaddr hi (by omega) (by omega)
    have i2 : iaddrA H sz (.msl i 0 L.length) (.d (.int .i64 (a + k))) = some (.aptr i (p.length + k) 0) := arr_iaddr hi (by omega) (by omega)
    have l1 := arr_ld hsz hi lv
    have l2 := arr_ld hsz hi lu
    simp [f0, f4, f20, f21, f22, v1, shr_one, v2, v3, i1, i2, l1, l2, -iaddrA, -ldA, -stA]
    refine hcmp _ v u _ _ ?_
    simp [f0, f4, f20, f21, f22]
    refine BrK_split (fun h5 => ?_) (fun h5 => ?_)
    · have h5 : ¬ c v u < 0 := by simpa using h5
      simp [f0, f4, f20, f21, f22, v4]
      refine AgainK_of (m := H.length) (by simp) ⟨k + 1, r, by omega, by omega, e3, ?_, eB, ?_⟩ ?_
      · intro k' u' v' h6 h7 h8 h9 h10
        refine h5 (hc.lt_le (hc.le_lt (sorted_get hc sy hv h9 (by omega)) h10) (sorted_get hc sx h8 hu (by omega)))
      · simp [f0, f1, f2', f3', f4, f18, f19, f20, f21, f22, cut_self hcl, hil, hg, clr_d, clr_msl hil, -A.clr]
        omega
      · simp [f21]; omega
    · have h5 : c v u < 0 := by simpa using h5
      simp [f0, f4, f20, f21, f22, v4]
      refine AgainK_of (m := H.length) (by simp) ⟨s, k, by omega, by omega, by omega, eA, ?_, ?_⟩ ?_
      · intro k' u' v' h6 h7 h8 h9
        by_cases hkk : k' = k
        · subst hkk; rw [hu] at h8; rw [hv] at h9; cases h8; cases h9; exact h5
        · exact hc.lt_le (hc.le_lt (sorted_get hc sy h9 hv (by omega)) h5) (sorted_get hc sx hu h8 (by omega))
      · simp [f0, f1, f2', f3', f4, f18, f19, f20, f21, f22, cut_self hcl, hil, hg, clr_d, clr_msl hil, -A.clr]
      · simp [f20]; omega
  · obtain rfl : s = r := by simp at h4; omega
    simp
    exact hQ _ s e1 e3 eA eB (by simp [f0]) (by simp [f1]) (by simp [f2']) (by simp [f3']) (by simp [f4]) (by simp [f18]) (by simp [f19]) (by simp [f20])

/-- one of the first row: it goes to its place in the second -/
theorem symA_wp (hsz : ∀ x, (enc x).length = sz) (hc : Cmp c) {g : A} (hcmp : CmpA P enc c g)
    {H : Hp} {i : Nat} {L p y q : List α} {e : α} {a m b : Int} {fr : Fr} {Q : Ex → Fr → Hp → Prop} (hcl : H.Closed) (hg : ∀ k, H.length ≤ k → g.clr k = g) (sy : Sorted c y) (hL : L = p ++ (e :: (y ++ q))) (ha : a = p.length) (hm : m = p.length + 1) (hb : b = p.length + 1 + y.length)
    (hi : H[i]? = some (arrE enc sz L)) (hbd : L.length ≤ 1099511627776)
    (f0 : fr 0 = .msl i 0 L.length) (f1 : fr 1 = .d (.int .i64 a)) (f2' : fr 2 = .d (.int .i64 m)) (f3' : fr 3 = .d (.int .i64 b)) (f4 : fr 4 = g)
    (hQ : ∀ fr : Fr, Q .ret fr (H.set i (arrE enc sz (p ++ (ssort c (e :: y) ++ q))))) :
    AWp P H.length (symA sz) Q fr H := by
  have hil : i < H.length := (List.getElem?_eq_some_iff.1 hi).1
  have hgs : ∀ X : Ob, (H.set i X)[i]? = some X := fun X => List.getElem?_set_self hil
  have hLl : p.length + 1 + y.length + q.length = L.length := by rw [hL]; simp; omega
  have hE : ∀ z : α, (rowE enc z).length = sz := rowE_length hsz
  have hF : ∀ z : α, (∀ u, u ∈ rowE enc z → u.flat = true) = True := rowE_flat2
  have ge : L[p.length]? = some e := get_mid (by rw [hL]) rfl
  have gy : ∀ k, k < y.length → L[p.length + 1 + k]? = y[k]? := fun k hk => by
    rw [hL, List.getElem?_append_right (by omega), show p.length + 1 + k - p.length = k + 1 by omega, List.getElem?_cons_succ, List.getElem?_append_left hk]
  unfold symA
  simp [f0, f1, f2', f3', f4]
  refine LoopK_of H.length (fun fr H' => ∃ s r : Nat, s ≤ r ∧ r ≤ y.length ∧ (∀ k v, k < s → y[k]? = some v → c v e < 0) ∧ (∀ k v, r ≤ k → y[k]? = some v → ¬ c v e < 0) ∧
      fr 0 = .msl i 0 L.length ∧ fr 1 = .d (.int .i64 a) ∧ fr 4 = g ∧
      fr 10 = .d (.int .i64 (m + s)) ∧ fr 11 = .d (.int .i64 (m + r)) ∧ H' = H)
    (fun fr H' => match fr 10, fr 11 with | .d (.int _ k), .d (.int _ l) => (l - k).toNat | _, _ => 0) (by simp) ?_ ?_
  · refine ⟨0, y.length, by omega, Nat.le_refl _, fun k v h1 => by omega, fun k v h1 h2 => ?_, ?_⟩
    · have := (List.getElem?_eq_some_iff.1 h2).1; omega
    · simp [f0, f1, f4, cut_self hcl, hil, hg, clr_d, clr_msl hil, -A.clr]
      omega
  clear f0 f1 f2' f3' f4
  rintro fr H' ⟨s, r, e2, e3, eA, eB, f0, f1, f4, f10, f11, hH'⟩
  rw [hH']
  simp [f10, f11]
  refine BrK_split (fun h4 => ?_) (fun h4 => ?_)
  · have h4 : s < r := by simp at h4; omega
    have v1 : IntKind.i64.wrap (m + s + (m + r)) = m + s + (m + r) := wrap_i64 (by omega) (by omega)
    have v2 := half_op (n := m + s + (m + r)) (by omega) (by omega)
    generalize hk : (s + r) / 2 = k
    have hk2 : (m + s + (m + r)) / 2 = m + k := by omega
    rw [hk2] at v2
    have v4 : IntKind.i64.wrap (m + k + 1) = m + k + 1 := wrap_i64 (by omega) (by omega)
    obtain ⟨v, hv⟩ : ∃ v, y[k]? = some v := ⟨_, List.getElem?_eq_getElem (by omega)⟩
    have lv : L[p.length + 1 + k]? = some v := by rw [gy _ (by omega)]; exact hv
    have i1 : iaddrA H sz (.msl i 0 L.length) (.d (.int .i64 (m + k))) = some (.aptr i (p.length + 1 + k) 0) := arr_iaddr hi (by omega) (by omega)
    have i2 : iaddrA H sz (.msl i 0 L.length) (.d (.int .i64 a)) = some (.aptr i p.length 0) := arr_iaddr hi (by omega) (by omega)
    have l1 := arr_ld hsz hi lv
    have l2 := arr_ld hsz hi ge
    simp [f0, f1, f4, f10, f11, v1, shr_one, v2, i1, i2, l1, l2, -iaddrA, -ldA, -stA]
    refine hcmp _ v e _ _ ?_
    simp [f0, f4, f10, f11]
    refine BrK_split (fun h5 => ?_) (fun h5 => ?_)
    · have h5 : c v e < 0 := by simpa using h5
      simp [f0, f4, f10, f11, v4]
      refine AgainK_of (m := H.length) (by simp) ⟨k + 1, r, by omega, e3, ?_, eB, ?_⟩ ?_
      · intro k' v' h6 h7
        exact hc.le_lt (sorted_get hc sy h7 hv (by omega)) h5
      · simp [f0, f1, f4, f10, f11, cut_self hcl, hil, hg, clr_d, clr_msl hil, -A.clr]
        omega
      · simp [f11]; omega
    · have h5 : ¬ c v e < 0 := by simpa using h5
      simp [f0, f4, f10, f11, v4]
      refine AgainK_of (m := H.length) (by simp) ⟨s, k, by omega, by omega, eA, ?_, ?_⟩ ?_
      · intro k' v' h6 h7 h8
        exact h5 (hc.le_lt (sorted_get hc sy hv h7 h6) h8)
      · simp [f0, f1, f4, f10, f11, cut_self hcl, hil, hg, clr_d, clr_msl hil, -A.clr]
      · simp [f10]; omega
  · obtain rfl : s = r := by simp at h4; omega
    have hres : ssort c (e :: y) = y.take s ++ e :: y.drop s := by
      have := ssort_cons hc (a := y.take s) (b := y.drop s) (x := e) (by simpa using sy) (fun z hz => by
        obtain ⟨k, hk, rfl⟩ := List.getElem_of_mem hz
        simp only [List.length_take] at hk
        exact eA k _ (by omega) (by rw [List.getElem_take]; exact List.getElem?_eq_getElem (by omega))) (fun z hz => by
        obtain ⟨k, hk, rfl⟩ := List.getElem_of_mem hz
        simp only [List.length_drop] at hk
        refine hc.not_lt.1 (eB (s + k) _ (by omega) ?_)
        rw [List.getElem_drop]; exact List.getElem?_eq_getElem (by omega))
      simpa using this
    have hts : (y.take s).length = s := by simp; omega
    generalize hy1 : y.take s = y1 at hres hts
    generalize hy2 : y.drop s = y2 at hres
    have hy : y = y1 ++ y2 := by rw [← hy1, ← hy2, List.take_append_drop]
    have hyl : y.length = y1.length + y2.length := by rw [hy]; simp
    have v1 : IntKind.i64.wrap (m + s - 1) = a + s := by rw [wrap_i64 (by omega) (by omega)]; omega
    simp [f0, f1, f4, f10]
    refine LoopK_of H.length (fun fr H' => ∃ u v M, ∃ k : Nat, y1 = u ++ v ∧ M = p ++ (u ++ e :: (v ++ (y2 ++ q))) ∧ k = u.length ∧
        fr 0 = .msl i 0 L.length ∧ fr 10 = .d (.int .i64 (m + s)) ∧ fr 13 = .d (.int .i64 (a + k)) ∧ H' = H.set i (arrE enc sz M))
      (fun fr H' => match fr 13 with | .d (.int _ k) => (a + s - k).toNat | _ => 0) (by simp) ?_ ?_
    · refine ⟨[], y1, L, 0, rfl, by rw [hL, hy]; simp, rfl, ?_⟩
      simp [f0, f1, f4, f10, set_same hi, cut_self hcl, hil, hg, clr_d, clr_msl hil, -A.clr]
    clear f0 f1 f4 f10 f11
    rintro fr H' ⟨u, v, M, k, huv, hM, hk, f0, f10, f13, hH'⟩
    rw [hH']
    have huvl : u.length + v.length = s := by rw [← hts, huv]; simp
    have hMl : M.length = L.length := by rw [hM]; simp; omega
    have f13o := f13
    simp [f10, f13, v1]
    refine BrK_split (fun h5 => ?_) (fun h5 => ?_)
    · have h5 : k < s := by simp at h5; omega
      obtain ⟨d, v, rfl⟩ : ∃ d v', v = d :: v' := by
        cases v with
        | nil => simp at huvl; omega
        | cons d v => exact ⟨d, v, rfl⟩
      simp only [List.length_cons] at huvl
      have w1 : IntKind.i64.wrap (a + k + 1) = a + k + 1 := wrap_i64 (by omega) (by omega)
      have m1 : M = (p ++ u) ++ e :: (d :: (v ++ (y2 ++ q))) := by rw [hM]; simp
      have m2 : M = (p ++ u ++ [e]) ++ d :: (v ++ (y2 ++ q)) := by rw [hM]; simp
      have g1 := get_mid (k := p.length + k) m1 (by simp; omega)
      have g2 := get_mid (k := p.length + k + 1) m2 (by simp; omega)
      have i1 : ∀ M' : List α, iaddrA (H.set i (arrE enc sz M')) sz (.msl i 0 L.length) (.d (.int .i64 (a + k))) = some (.aptr i (p.length + k) 0) := fun M' => arr_iaddr (hgs _) (by omega) (by omega)
      have i2 : ∀ M' : List α, iaddrA (H.set i (arrE enc sz M')) sz (.msl i 0 L.length) (.d (.int .i64 (a + k + 1))) = some (.aptr i (p.length + k + 1) 0) := fun M' => arr_iaddr (hgs _) (by omega) (by omega)
      have l1 := arr_ld hsz (hgs (arrE enc sz M)) g1
      have l2 := arr_ld hsz (hgs (arrE enc sz M)) g2
      have t1 := arr_st hsz (hgs (arrE enc sz M)) (k := p.length + k) (e := d) (by omega)
      have t2 := arr_st hsz (hgs (arrE enc sz (M.set (p.length + k) d))) (k := p.length + k + 1) (e := e) (by simp; omega)
      have s1 := set_mid (e' := d) (k := p.length + k) m1 (by simp; omega)
      have m3 : M.set (p.length + k) d = (p ++ u ++ [d]) ++ d :: (v ++ (y2 ++ q)) := by rw [s1]; simp
      have s2 := set_mid (e' := e) (k := p.length + k + 1) m3 (by simp; omega)
      rw [List.set_set] at t1 t2
      rw [s2] at t2
      simp [f0, f10, f13, w1, i1, i2, l1, l2, t1, t2, hE, hF, -iaddrA, -ldA, -stA, -A.flat]
      refine AgainK_of (m := H.length) (by simp) ⟨u ++ [d], v, p ++ u ++ [d] ++ e :: (v ++ (y2 ++ q)), k + 1, by rw [huv]; simp, by simp, by simp [hk], ?_⟩ ?_
      · simp [f0, f10, f13, Hp.cut_set, cut_self hcl, hil, hg, arrE_clr, clr_d, clr_msl hil, -A.clr, -Ob.clr]
        omega
      · simp; omega
    · have h5 : ¬ k < s := by simp at h5; omega
      obtain rfl : v = [] := List.eq_nil_of_length_eq_zero (by omega)
      simp only [List.append_nil] at huv
      subst huv
      have hM' : M = p ++ (ssort c (e :: y) ++ q) := by rw [hM, hres]; simp
      simp [hM']
      exact hQ _


end
end Go.Zam

namespace Go.Zam
set_option linter.all false
set_option maxRecDepth 100000
set_option maxHeartbeats 2000000

section
variable {P : Program} {α : Type} {enc : α → List D} {sz : Nat} {c : α → α → Int}

/-- one of the second row: it goes to its place in the first -/
theorem symB_wp (hsz : ∀ x, (enc x).length = sz) (hc : Cmp c) {g : A} (hcmp : CmpA P enc c g)
    {H : Hp} {i : Nat} {L p x q : List α} {e : α} {a m b : Int} {fr : Fr} {Q : Ex → Fr → Hp → Prop} (hcl : H.Closed) (hg : ∀ k, H.length ≤ k → g.clr k = g) (sx : Sorted c x) (hL : L = p ++ (x ++ (e :: q))) (ha : a = p.length) (hm : m = p.length + x.length)
    (hi : H[i]? = some (arrE enc sz L)) (hbd : L.length ≤ 1099511627776)
    (f0 : fr 0 = .msl i 0 L.length) (f1 : fr 1 = .d (.int .i64 a)) (f2' : fr 2 = .d (.int .i64 m)) (f3' : fr 3 = .d (.int .i64 b)) (f4 : fr 4 = g)
    (hQ : ∀ fr : Fr, Q .ret fr (H.set i (arrE enc sz (p ++ (ssort c (x ++ [e]) ++ q))))) :
    AWp P H.length (symB sz) Q fr H := by
  have hil : i < H.length := (List.getElem?_eq_some_iff.1 hi).1
  have hgs : ∀ X : Ob, (H.set i X)[i]? = some X := fun X => List.getElem?_set_self hil
  have hLl : p.length + x.length + 1 + q.length = L.length := by rw [hL]; simp; omega
  have hE : ∀ z : α, (rowE enc z).length = sz := rowE_length hsz
  have hF : ∀ z : α, (∀ u, u ∈ rowE enc z → u.flat = true) = True := rowE_flat2
  have ge : L[p.length + x.length]? = some e := get_mid (u := p ++ x) (v := q) (by rw [hL]; simp) (by simp)
  have gx : ∀ k, k < x.length → L[p.length + k]? = x[k]? := fun k hk => by
    rw [hL, List.getElem?_append_right (by omega), Nat.add_sub_cancel_left, List.getElem?_append_left hk]
  unfold symB
  simp [f0, f1, f2', f3', f4]
  refine LoopK_of H.length (fun fr H' => ∃ s r : Nat, s ≤ r ∧ r ≤ x.length ∧ (∀ k v, k < s → x[k]? = some v → c v e ≤ 0) ∧ (∀ k v, r ≤ k → x[k]? = some v → c e v < 0) ∧
      fr 0 = .msl i 0 L.length ∧ fr 2 = .d (.int .i64 m) ∧ fr 4 = g ∧
      fr 14 = .d (.int .i64 (a + s)) ∧ fr 15 = .d (.int .i64 (a + r)) ∧ H' = H)
    (fun fr H' => match fr 14, fr 15 with | .d (.int _ k), .d (.int _ l) => (l - k).toNat | _, _ => 0) (by simp) ?_ ?_
  · refine ⟨0, x.length, by omega, Nat.le_refl _, fun k v h1 => by omega, fun k v h1 h2 => ?_, ?_⟩
    · have := (List.getElem?_eq_some_iff.1 h2).1; omega
    · simp [f0, f1, f2', f4, cut_self hcl, hil, hg, clr_d, clr_msl hil, -A.clr]
      omega
  clear f0 f1 f2' f3' f4
  rintro fr H' ⟨s, r, e2, e3, eA, eB, f0, f2', f4, f14, f15, hH'⟩
  rw [hH']
  simp [f14, f15]
  refine BrK_split (fun h4 => ?_) (fun h4 => ?_)
  · have h4 : s < r := by simp at h4; omega
    have v1 : IntKind.i64.wrap (a + s + (a + r)) = a + s + (a + r) := wrap_i64 (by omega) (by omega)
    have v2 := half_op (n := a + s + (a + r)) (by omega) (by omega)
    generalize hk : (s + r) / 2 = k
    have hk2 : (a + s + (a + r)) / 2 = a + k := by omega
    rw [hk2] at v2
    have v4 : IntKind.i64.wrap (a + k + 1) = a + k + 1 := wrap_i64 (by omega) (by omega)
    obtain ⟨v, hv⟩ : ∃ v, x[k]? = some v := ⟨_, List.getElem?_eq_getElem (by omega)⟩
    have lv : L[p.length + k]? = some v := by rw [gx _ (by omega)]; exact hv
    have i1 : iaddrA H sz (.msl i 0 L.length) (.d (.int .i64 (a + k))) = some (.aptr i (p.length + k) 0) := arr_iaddr hi (by omega) (by omega)
    have i2 : iaddrA H sz (.msl i 0 L.length) (.d (.int .i64 m)) = some (.aptr i (p.length + x.length) 0) := arr_iaddr hi (by omega) (by omega)
    have l1 := arr_ld hsz hi lv
    have l2 := arr_ld hsz hi ge
    simp [f0, f2', f4, f14, f15, v1, shr_one, v2, i1, i2, l1, l2, -iaddrA, -ldA, -stA]
    refine hcmp _ e v _ _ ?_
    simp [f0, f4, f14, f15]
    refine BrK_split (fun h5 => ?_) (fun h5 => ?_)
    · have h5 : ¬ c e v < 0 := by simpa using h5
      simp [f0, f4, f14, f15, v4]
      refine AgainK_of (m := H.length) (by simp) ⟨k + 1, r, by omega, e3, ?_, eB, ?_⟩ ?_
      · intro k' v' h6 h7
        exact hc.trans _ _ _ (sorted_get hc sx h7 hv (by omega)) (hc.not_lt.1 h5)
      · simp [f0, f2', f4, f14, f15, cut_self hcl, hil, hg, clr_d, clr_msl hil, -A.clr]
        omega
      · simp [f15]; omega
    · have h5 : c e v < 0 := by simpa using h5
      simp [f0, f4, f14, f15, v4]
      refine AgainK_of (m := H.length) (by simp) ⟨s, k, by omega, by omega, eA, ?_, ?_⟩ ?_
      · intro k' v' h6 h7
        exact hc.lt_le h5 (sorted_get hc sx hv h7 h6)
      · simp [f0, f2', f4, f14, f15, cut_self hcl, hil, hg, clr_d, clr_msl hil, -A.clr]
      · simp [f14]; omega
  · obtain rfl : s = r := by simp at h4; omega
    have hres : ssort c (x ++ [e]) = x.take s ++ e :: x.drop s := by
      have := ssort_snoc hc (a := x.take s) (b := x.drop s) (x := e) (by simpa using sx) (fun z hz => by
        obtain ⟨k, hk, rfl⟩ := List.getElem_of_mem hz
        simp only [List.length_take] at hk
        exact eA k _ (by omega) (by rw [List.getElem_take]; exact List.getElem?_eq_getElem (by omega))) (fun z hz => by
        obtain ⟨k, hk, rfl⟩ := List.getElem_of_mem hz
        simp only [List.length_drop] at hk
        refine eB (s + k) _ (by omega) ?_
        rw [List.getElem_drop]; exact List.getElem?_eq_getElem (by omega))
      simpa using this
    have hts : (x.take s).length = s := by simp; omega
    generalize hx1 : x.take s = x1 at hres hts
    generalize hx2 : x.drop s = x2 at hres
    have hx : x = x1 ++ x2 := by rw [← hx1, ← hx2, List.take_append_drop]
    have hxl : x.length = x1.length + x2.length := by rw [hx]; simp
    simp [f0, f2', f4, f14]
    refine LoopK_of H.length (fun fr H' => ∃ u v M, ∃ k : Nat, x2 = u ++ v ∧ M = p ++ (x1 ++ (u ++ e :: (v ++ q))) ∧ k = p.length + x1.length + u.length ∧
        fr 0 = .msl i 0 L.length ∧ fr 14 = .d (.int .i64 (a + s)) ∧ fr 17 = .d (.int .i64 (k : Int)) ∧ H' = H.set i (arrE enc sz M))
      (fun fr H' => match fr 17 with | .d (.int _ k) => k.toNat | _ => 0) (by simp) ?_ ?_
    · refine ⟨x2, [], L, p.length + x1.length + x2.length, by simp, by rw [hL, hx]; simp, rfl, ?_⟩
      simp [f0, f2', f4, f14, set_same hi, cut_self hcl, hil, hg, clr_d, clr_msl hil, -A.clr]
      omega
    clear f0 f2' f4 f14 f15
    rintro fr H' ⟨u, v, M, k, huv, hM, hk, f0, f14, f17, hH'⟩
    rw [hH']
    have huvl : u.length + v.length = x2.length := by rw [huv]; simp
    have hMl : M.length = L.length := by rw [hM]; simp; omega
    have f17o := f17
    simp [f14, f17]
    refine BrK_split (fun h5 => ?_) (fun h5 => ?_)
    · have h5 : a + s < k := by simpa using h5
      obtain ⟨u, d, rfl⟩ : ∃ u' d, u = u' ++ [d] := by
        rcases List.eq_nil_or_concat u with h0 | ⟨u', d, h0⟩
        · subst h0; simp at hk; omega
        · exact ⟨u', d, by simpa using h0⟩
      simp only [List.length_append, List.length_singleton] at huvl hk
      have w1 : IntKind.i64.wrap ((k : Int) - 1) = k - 1 := wrap_i64 (by omega) (by omega)
      have m1 : M = (p ++ x1 ++ u) ++ d :: (e :: (v ++ q)) := by rw [hM]; simp
      have m2 : M = (p ++ x1 ++ u ++ [d]) ++ e :: (v ++ q) := by rw [hM]; simp
      have g1 := get_mid (k := k - 1) m1 (by simp; omega)
      have g2 := get_mid (k := k) m2 (by simp; omega)
      have i1 : ∀ M' : List α, iaddrA (H.set i (arrE enc sz M')) sz (.msl i 0 L.length) (.d (.int .i64 (k - 1))) = some (.aptr i (k - 1) 0) := fun M' => arr_iaddr (hgs _) (by omega) (by omega)
      have i2 : ∀ M' : List α, iaddrA (H.set i (arrE enc sz M')) sz (.msl i 0 L.length) (.d (.int .i64 k)) = some (.aptr i k 0) := fun M' => arr_iaddr (hgs _) (by omega) (by omega)
      have l1 := arr_ld hsz (hgs (arrE enc sz M)) g1
      have l2 := arr_ld hsz (hgs (arrE enc sz M)) g2
      have t1 := arr_st hsz (hgs (arrE enc sz M)) (k := k) (e := d) (by omega)
      have t2 := arr_st hsz (hgs (arrE enc sz (M.set k d))) (k := k - 1) (e := e) (by simp; omega)
      have s1 := set_mid (e' := d) (k := k) m2 (by simp; omega)
      have m3 : M.set k d = (p ++ x1 ++ u) ++ d :: (d :: (v ++ q)) := by rw [s1]; simp
      have s2 := set_mid (e' := e) (k := k - 1) m3 (by simp; omega)
      rw [List.set_set] at t1 t2
      rw [s2] at t2
      have hj1 : ((k : Int) - 1) = (k - 1 : Nat) := by omega
      simp [f0, f14, f17, w1, i1, i2, l1, l2, t1, t2, hE, hF, -iaddrA, -ldA, -stA, -A.flat]
      refine AgainK_of (m := H.length) (by simp) ⟨u, d :: v, p ++ x1 ++ u ++ e :: (d :: (v ++ q)), k - 1, by rw [huv]; simp, by simp, by omega, ?_⟩ ?_
      · simp [f0, f14, f17, hj1, Hp.cut_set, cut_self hcl, hil, hg, arrE_clr, clr_d, clr_msl hil, -A.clr, -Ob.clr]
      · simp; omega
    · have h5 : ¬ a + s < k := by simpa using h5
      obtain rfl : u = [] := List.eq_nil_of_length_eq_zero (by omega)
      simp only [List.nil_append] at huv
      subst huv
      have hM' : M = p ++ (ssort c (x ++ [e]) ++ q) := by rw [hM, hres]; simp
      simp [hM']
      exact hQ _

theorem symMerge_step (hsz : ∀ x, (enc x).length = sz) (hc : Cmp c) {f f2 f3 : FuncId} {fn fn2 fn3 : Func} (hf : P.funcs[f]? = some fn) (hcf : compF P [] fn = some (irSymMerge sz f2 f)) (hf2 : P.funcs[f2]? = some fn2) (hcf2 : compF P [] fn2 = some (irRotate f3))
    (hf3 : P.funcs[f3]? = some fn3) (hcf3 : compF P [] fn3 = some (irSwapRange sz)) {g : A} (hcmp : CmpA P enc c g) {n N : Nat} (ih : SymAt P enc sz c f g n N) : SymAt P enc sz c f g (n + 1) N := by
  intro H i L p x y q a m b hg0 hN hn hx0 hy0 sx sy hL ha hm hb hi hbd
  have hg : ∀ k, H.length ≤ k → g.clr k = g := fun k hk => hg0 k (by omega)
  have hLl : p.length + x.length + y.length + q.length = L.length := by rw [hL]; simp; omega
  have w1 : IntKind.i64.wrap (m - a) = m - a := wrap_i64 (by omega) (by omega)
  have w2 : IntKind.i64.wrap (b - m) = b - m := wrap_i64 (by omega) (by omega)
  refine acall_fin hf hcf (by simp [irSymMerge]) fun hcl _ => ?_
  simp [irSymMerge, w1]
  refine BrK_split (fun h1 => ?_) (fun h1 => ?_)
  · have h1 : m - a = 1 := by simpa using h1
    obtain ⟨e, rfl⟩ : ∃ e, x = [e] := List.length_eq_one_iff.1 (by omega)
    refine symA_wp hsz hc hcmp (e := e) (y := y) (q := q) (a := a) (m := m) (b := b) hcl hg sy (by simpa using hL) ha (by simpa using hm) (by simpa using hb) hi hbd (by simp) (by simp) (by simp) (by simp) (by simp) fun fr => ?_
    simp [RetK, Hp.cut_set, cut_self hcl, arrE_clr, -Ob.clr]
  simp [w2]
  refine BrK_split (fun h2 => ?_) (fun h2 => ?_)
  · have h2 : b - m = 1 := by simpa using h2
    obtain ⟨e, rfl⟩ : ∃ e, y = [e] := List.length_eq_one_iff.1 (by omega)
    refine symB_wp hsz hc hcmp (e := e) (x := x) (q := q) (a := a) (m := m) (b := b) hcl hg sx (by simpa using hL) ha hm hi hbd (by simp) (by simp) (by simp) (by simp) (by simp) fun fr => ?_
    simp [RetK, Hp.cut_set, cut_self hcl, arrE_clr, -Ob.clr]
  have h1 : ¬ m - a = 1 := by simpa using h1
  have h2 : ¬ b - m = 1 := by simpa using h2
  have w3 : IntKind.i64.wrap (a + b) = a + b := wrap_i64 (by omega) (by omega)
  have w4 := half_op (n := a + b) (by omega) (by omega)
  have w5 : IntKind.i64.wrap ((a + b) / 2 + m) = (a + b) / 2 + m := wrap_i64 (by omega) (by omega)
  generalize hh : (x.length + y.length) / 2 = h at *
  have hmid : (a + b) / 2 = a + h := by omega
  rw [hmid] at w4 w5
  have wp1 : IntKind.i64.wrap (a + h + m - 1) = a + h + m - 1 := wrap_i64 (by omega) (by omega)
  have wnb : IntKind.i64.wrap (a + h + m - b) = a + h + m - b := wrap_i64 (by omega) (by omega)
  -- the rest, of any bounds
  have rest : ∀ (fr : Fr) (s0 r0 : Nat), s0 ≤ r0 → r0 ≤ x.length → r0 ≤ h → h ≤ s0 + y.length → (s0 = 0 ∨ h = s0 + y.length) → (r0 = x.length ∨ r0 = h) →
      fr 0 = .msl i 0 L.length → fr 1 = .d (.int .i64 a) → fr 2 = .d (.int .i64 m) → fr 3 = .d (.int .i64 b) → fr 4 = g → fr 18 = .d (.int .i64 (a + h)) → fr 19 = .d (.int .i64 (a + h + m)) → fr 22 = .d (.int .i64 (a + h + m - 1)) → fr 20 = .d (.int .i64 (a + s0)) → fr 21 = .d (.int .i64 (a + r0)) →
      AWp P H.length (symLoop sz f2 f) (Fin [] H.length fun r' H' => r' = .tup [] ∧ H' = H.set i (arrE enc sz (p ++ (ssort c (x ++ y) ++ q)))) fr H := by
    intro fr s0 r0 F1 F2 F3 F4 F5 F6 f0 f1 f2' f3' f4 f18 f19 f22 f20 f21
    refine symLoop_wp hsz hc hcmp (s0 := s0) (r0 := r0) hcl hg sx sy hL ha hm hi hbd F1 F2 F3 F4 f0 f1 f2' f3' f4 f18 f19 f22 f20 f21 ?_
    intro fr s e1 e2 eA eB f0 f1 f2' f3' f4 f18 f19 f20
    have hxs := List.take_append_drop s x
    have hys := List.take_append_drop (h - s) y
    have l1 : (x.take s).length = s := by simp; omega
    have l2 : (x.drop s).length = x.length - s := by simp
    have l3 : (y.take (h - s)).length = h - s := by simp; omega
    have l4 : (y.drop (h - s)).length = y.length - (h - s) := by simp
    have c1 : ∀ u ∈ x.drop s, ∀ v ∈ y.take (h - s), c v u < 0 := fun u hu v hv => by
      obtain ⟨ku, hku, rfl⟩ := List.getElem_of_mem hu
      obtain ⟨kv, hkv, rfl⟩ := List.getElem_of_mem hv
      rw [l2] at hku; rw [l3] at hkv
      have hsr : s < r0 := by omega
      obtain ⟨u0, hu0⟩ : ∃ u, x[s]? = some u := ⟨_, List.getElem?_eq_getElem (by omega)⟩
      obtain ⟨v0, hv0⟩ : ∃ v, y[h - 1 - s]? = some v := ⟨_, List.getElem?_eq_getElem (by omega)⟩
      have h0 := eB s u0 v0 (Nat.le_refl _) hsr hu0 hv0
      have h3 : c u0 (x.drop s)[ku] ≤ 0 := sorted_get hc sx hu0 (j := s + ku) (by rw [List.getElem_drop]; exact List.getElem?_eq_getElem (by omega)) (by omega)
      have h4 : c (y.take (h - s))[kv] v0 ≤ 0 := sorted_get hc sy (i := kv) (by rw [List.getElem_take]; exact List.getElem?_eq_getElem (by omega)) hv0 (by omega)
      exact hc.lt_le (hc.le_lt h4 h0) h3
    have c2 : ∀ u ∈ x.take s, ∀ v ∈ y.drop (h - s), c u v ≤ 0 := fun u hu v hv => by
      obtain ⟨ku, hku, rfl⟩ := List.getElem_of_mem hu
      obtain ⟨kv, hkv, rfl⟩ := List.getElem_of_mem hv
      rw [l1] at hku; rw [l4] at hkv
      have hsr : s0 < s := by omega
      obtain ⟨u0, hu0⟩ : ∃ u, x[s - 1]? = some u := ⟨_, List.getElem?_eq_getElem (by omega)⟩
      obtain ⟨v0, hv0⟩ : ∃ v, y[h - 1 - (s - 1)]? = some v := ⟨_, List.getElem?_eq_getElem (by omega)⟩
      have h0 := hc.not_lt.1 (eA (s - 1) u0 v0 (by omega) (by omega) hu0 hv0)
      have h3 : c (x.take s)[ku] u0 ≤ 0 := sorted_get hc sx (i := ku) (by rw [List.getElem_take]; exact List.getElem?_eq_getElem (by omega)) hu0 (by omega)
      have h4 : c v0 (y.drop (h - s))[kv] ≤ 0 := sorted_get hc sy hv0 (j := h - s + kv) (by rw [List.getElem_drop]; exact List.getElem?_eq_getElem (by omega)) (by omega)
      exact hc.trans _ _ _ (hc.trans _ _ _ h3 h0) h4
    have := symEnd_wp hsz hc hf2 hcf2 hf3 hcf3 ih (L := L) (p := p) (x1 := x.take s) (x2 := x.drop s) (y1 := y.take (h - s)) (y2 := y.drop (h - s)) (q := q) (a := a) (m := m) (b := b) (h := h) (s := s) (fr := fr) hcl hg0 hN (by omega) (by omega) (by omega) (by rw [hxs]; exact sx) (by rw [hys]; exact sy)
      (by rw [hL, ← List.append_assoc (x.take s), hxs, ← List.append_assoc (y.take (h - s)), hys]) ha (by omega) (by omega) (by omega) (by omega) (by omega) c1 c2 hi hbd f0 f1 f2' f3' f4 f18 f19 f20
    rw [hxs, hys] at this
    exact this
  simp [w3, shr_one, w4, w5]
  refine BrK_split (fun h3 => ?_) (fun h3 => ?_)
  · have h3 : a + h < m := by simpa using h3
    simp [wnb, wp1]
    have e1 : a + h + m - b = a + (h - y.length : Nat) := by omega
    exact rest _ (h - y.length) h (by omega) (by omega) (Nat.le_refl _) (by omega) (.inr (by omega)) (.inr rfl) (by simp) (by simp) (by simp) (by simp) (by simp) (by simp) (by simp) (by simp) (by simp [e1]) (by simp)
  · have h3 : ¬ a + h < m := by simpa using h3
    simp [wp1]
    have e1 : m = a + (x.length : Int) := by omega
    exact rest _ 0 x.length (by omega) (Nat.le_refl _) (by omega) (by omega) (.inl rfl) (.inl rfl) (by simp) (by simp) (by simp) (by simp) (by simp) (by simp) (by simp) (by simp) (by simp) (by simp [e1])

theorem symMerge_acall (hsz : ∀ x, (enc x).length = sz) (hc : Cmp c) {f f2 f3 : FuncId} {fn fn2 fn3 : Func} (hf : P.funcs[f]? = some fn) (hcf : compF P [] fn = some (irSymMerge sz f2 f)) (hf2 : P.funcs[f2]? = some fn2) (hcf2 : compF P [] fn2 = some (irRotate f3))
    (hf3 : P.funcs[f3]? = some fn3) (hcf3 : compF P [] fn3 = some (irSwapRange sz)) {g : A} (hcmp : CmpA P enc c g) (N : Nat) : ∀ n, SymAt P enc sz c f g n N
  | 0 => fun H i L p x y q a m b hg0 hN hn hx0 => by omega
  | n + 1 => symMerge_step hsz hc hf hcf hf2 hcf2 hf3 hcf3 hcmp (symMerge_acall hsz hc hf hcf hf2 hcf2 hf3 hcf3 hcmp N n)

end
end Go.Zam

namespace Go.Zam
set_option linter.all false
set_option maxRecDepth 100000
set_option maxHeartbeats 2000000

section
variable {P : Program} {α : Type} {enc : α → List D} {sz : Nat} {c : α → α → Int}

def Blk (c : α → α → Int) (n : Nat) (l : List α) : Prop := ∀ j, Sorted c ((l.drop (j * n)).take n)

theorem Sorted.take {l : List α} (h : Sorted c l) (n : Nat) : Sorted c (l.take n) := by
  have h' : Sorted c (l.take n ++ l.drop n) := by rwa [List.take_append_drop]
  exact (Sorted.append.1 h').1
theorem Sorted.drop {l : List α} (h : Sorted c l) (n : Nat) : Sorted c (l.drop n) := by
  have h' : Sorted c (l.take n ++ l.drop n) := by rwa [List.take_append_drop]
  exact (Sorted.append.1 h').2.1

theorem Blk.append {n k : Nat} {a s : List α} (h : Blk c n a) (hl : a.length = k * n) (hs : Sorted c s) (hsl : s.length ≤ n) : Blk c n (a ++ s) := fun j => by
  by_cases hj : j < k
  · have h1 : (j + 1) * n ≤ k * n := Nat.mul_le_mul_right _ hj
    rw [Nat.add_mul] at h1
    rw [List.drop_append_of_le_length (by omega), List.take_append_of_le_length (by simp; omega)]
    exact h j
  · have h1 : k * n ≤ j * n := Nat.mul_le_mul_right _ (by omega)
    rw [List.drop_append, List.drop_eq_nil_of_le (by omega), List.nil_append]
    exact (hs.drop _).take _

theorem Blk.drop {n : Nat} {a : List α} (h : Blk c n a) (k : Nat) : Blk c n (a.drop (k * n)) := fun j => by
  rw [List.drop_drop, ← Nat.add_mul]; exact h _

theorem Blk.nil (n : Nat) : Blk c n [] := fun j => by simp [Sorted]

theorem Blk.first {n : Nat} {a : List α} (h : Blk c n a) : Sorted c (a.take n) := by simpa using h 0
theorem Blk.all {n : Nat} {a : List α} (h : Blk c n a) (hl : a.length ≤ n) : Sorted c a := by
  have := h.first; rwa [List.take_of_length_le hl] at this

theorem stable_acall (hsz : ∀ x, (enc x).length = sz) (hc : Cmp c) {f f1 f2 f3 f4 : FuncId} {fn fn1 fn2 fn3 fn4 : Func} (hf : P.funcs[f]? = some fn) (hcf : compF P [] fn = some (irStable f1 f2))
    (hf1 : P.funcs[f1]? = some fn1) (hcf1 : compF P [] fn1 = some (irInsertion sz)) (hf2 : P.funcs[f2]? = some fn2) (hcf2 : compF P [] fn2 = some (irSymMerge sz f3 f2)) (hf3 : P.funcs[f3]? = some fn3) (hcf3 : compF P [] fn3 = some (irRotate f4))
    (hf4 : P.funcs[f4]? = some fn4) (hcf4 : compF P [] fn4 = some (irSwapRange sz)) {g : A} (hcmp : CmpA P enc c g)
    {H : Hp} {i : Nat} {L : List α} (hg : ∀ m, H.length ≤ m → g.clr m = g) (hi : H[i]? = some (arrE enc sz L)) (hbd : L.length ≤ 1099511627776) :
    ACall P f [.msl i 0 L.length, .d (.int .i64 L.length), g] H (fun r' H' => r' = .tup [] ∧ H' = H.set i (arrE enc sz (ssort c L))) := by
  have hil : i < H.length := (List.getElem?_eq_some_iff.1 hi).1
  have hgs : ∀ X : Ob, (H.set i X)[i]? = some X := fun X => List.getElem?_set_self hil
  have hins : ∀ (M p s q : List α) (a b : Int), M = p ++ (s ++ q) → M.length = L.length → a = p.length → b = p.length + s.length →
      ACall P f1 [.msl i 0 L.length, .d (.int .i64 a), .d (.int .i64 b), g] (H.set i (arrE enc sz M)) (fun r' H' => r' = .tup [] ∧ H' = H.set i (arrE enc sz (p ++ (ssort c s ++ q)))) := fun M p s q a b h1 h2 h3 h4 => by
    have := insertion_acall hsz hc hf1 hcf1 (H := H.set i (arrE enc sz M)) (i := i) (g := g) (fun m hm => hg m (by simpa using hm)) hcmp h1 h3 h4 (hgs _) (by omega)
    rwa [h2, List.set_set] at this
  have hsym : ∀ (M p x y q : List α) (a m b : Int), M = p ++ (x ++ (y ++ q)) → M.length = L.length → 0 < x.length → 0 < y.length → Sorted c x → Sorted c y → a = p.length → m = p.length + x.length → b = p.length + x.length + y.length →
      ACall P f2 [.msl i 0 L.length, .d (.int .i64 a), .d (.int .i64 m), .d (.int .i64 b), g] (H.set i (arrE enc sz M)) (fun r' H' => r' = .tup [] ∧ H' = H.set i (arrE enc sz (p ++ (ssort c (x ++ y) ++ q)))) := fun M p x y q a m b h1 h2 h3 h4 h5 h6 h7 h8 h9 => by
    have := symMerge_acall hsz hc hf2 hcf2 hf3 hcf3 hf4 hcf4 hcmp H.length (x.length + y.length) (H.set i (arrE enc sz M)) i M p x y q a m b hg (by simp) (Nat.le_refl _) h3 h4 h5 h6 h1 h7 h8 h9 (hgs _) (by omega)
    rwa [h2, List.set_set] at this
  refine acall_fin hf hcf (by simp [irStable]) fun hcl _ => ?_
  unfold irStable
  refine seq_of (fun fr H' => H' = H ∧ fr 0 = .msl i 0 L.length ∧ fr 1 = .d (.int .i64 L.length) ∧ fr 2 = g ∧ fr 6 = .d (.int .i64 20)) ?_ ?_
  · simp
  rintro fr H1 ⟨hH1, f0, f1', f2', f6⟩
  rw [hH1]; clear hH1 H1
  refine seq_of (fun fr H' => H' = H ∧ fr 0 = .msl i 0 L.length ∧ fr 1 = .d (.int .i64 L.length) ∧ fr 2 = g ∧ fr 6 = .d (.int .i64 20) ∧ fr 7 = .d (.int .i64 0) ∧ fr 8 = .d (.int .i64 20)) ?_ ?_
  · simp [f0, f1', f2', f6]
  clear f0 f1' f2' f6 fr
  rintro fr H1 ⟨hH1, f0, f1', f2', f6, f7, f8⟩
  rw [hH1]; clear hH1 H1
  -- blocks of twenty
  refine seq_of (fun fr H' => ∃ done rest : List α, ∃ k : Nat, Alk c L (done ++ rest) ∧ Blk c 20 done ∧ done.length = k * 20 ∧ rest.length < 20 ∧ H' = H.set i (arrE enc sz (done ++ rest)) ∧ fr 0 = .msl i 0 L.length ∧ fr 1 = .d (.int .i64 L.length) ∧ fr 2 = g ∧ fr 6 = .d (.int .i64 20) ∧ fr 7 = .d (.int .i64 (done.length : Int))) ?_ ?_
  · simp
    refine LoopK_of H.length (fun fr H' => ∃ done rest : List α, ∃ k : Nat, Alk c L (done ++ rest) ∧ Blk c 20 done ∧ done.length = k * 20 ∧ H' = H.set i (arrE enc sz (done ++ rest)) ∧ fr 0 = .msl i 0 L.length ∧ fr 1 = .d (.int .i64 L.length) ∧ fr 2 = g ∧ fr 6 = .d (.int .i64 20) ∧ fr 7 = .d (.int .i64 (done.length : Int)) ∧ fr 8 = .d (.int .i64 (done.length + 20 : Int)))
      (fun fr H' => match fr 8 with | .d (.int _ k) => (L.length + 20 - k).toNat | _ => 0) (by simp) ?_ ?_
    · refine ⟨[], L, 0, Alk.refl _, Blk.nil _, by simp, ?_⟩
      simp [f0, f1', f2', f6, f7, f8, cut_self hcl, set_same hi, hil, hg, clr_d, clr_msl hil, -A.clr]
    clear f0 f1' f2' f6 f7 f8 fr
    rintro fr H1 ⟨done, rest, k, hal, hbl, hdl, hH1, f0, f1', f2', f6, f7, f8⟩
    rw [hH1]
    have hlen := (hal.length hc).length_eq
    simp only [List.length_append] at hlen
    simp [f1', f8]
    refine BrK_split (fun h => ?_) (fun h => ?_)
    · have h : 20 ≤ rest.length := by simp at h; omega
      have v1 : IntKind.i64.wrap ((done.length : Int) + 20 + 20) = done.length + 20 + 20 := wrap_i64 (by omega) (by omega)
      have hcall := hins (done ++ rest) done (rest.take 20) (rest.drop 20) done.length (done.length + 20) (by simp) (by simp; omega) rfl (by simp; omega)
      simp [f0, f1', f2', f6, f7, f8]
      refine CallK_of' hcall ?_
      simp [f0, f1', f2', f6, f7, f8, v1]
      obtain ⟨q1, q2⟩ := ssort_spec hc (rest.take 20)
      have hql := ssort_length hc (rest.take 20)
      simp only [List.length_take] at hql
      refine AgainK_of (m := H.length) (by simp) ⟨done ++ ssort c (rest.take 20), rest.drop 20, k + 1, ?_, hbl.append hdl q1 (by omega), by simp [hql]; omega, ?_⟩ ?_
      · refine hal.trans ?_
        have := (Alk.refl done).append (q2.append (Alk.refl (rest.drop 20)))
        rw [List.take_append_drop] at this
        simpa using this
      · simp [f0, f1', f2', f6, f7, f8, v1, hql, Hp.cut_set, cut_self hcl, arrE_clr, hil, hg, clr_d, clr_msl hil, -A.clr, -Ob.clr]
        omega
      · simp [v1]; omega
    · have h : ¬ 20 ≤ rest.length := by simp at h; omega
      simp
      exact ⟨done, rest, hal, hbl, ⟨k, hdl⟩, by omega, rfl, f0, f1', f2', f6, f7⟩
  clear f0 f1' f2' f6 f7 f8 fr
  rintro fr H1 ⟨done, rest, k, hal, hbl, hdl, hrl, hH1, f0, f1', f2', f6, f7⟩
  rw [hH1]; clear hH1 H1
  have hlen := (hal.length hc).length_eq
  simp only [List.length_append] at hlen
  -- the last one
  refine seq_of (fun fr H' => ∃ M : List α, Alk c L M ∧ Blk c 20 M ∧ H' = H.set i (arrE enc sz M) ∧ fr 0 = .msl i 0 L.length ∧ fr 1 = .d (.int .i64 L.length) ∧ fr 2 = g ∧ fr 6 = .d (.int .i64 20)) ?_ ?_
  · have hcall := hins (done ++ rest) done rest [] done.length L.length (by simp) (by simp; omega) rfl (by omega)
    simp only [List.append_nil] at hcall
    obtain ⟨q1, q2⟩ := ssort_spec hc rest
    have hql := ssort_length hc rest
    simp [f0, f1', f2', f6, f7]
    refine CallK_of' hcall ?_
    simp [f0, f1', f2', f6, f7]
    exact ⟨_, hal.trans ((Alk.refl done).append q2), hbl.append hdl q1 (by omega), rfl⟩
  clear hal hbl hdl hrl hlen f0 f1' f2' f6 f7
  rintro fr H1 ⟨M, hal, hbl, hH1, f0, f1', f2', f6⟩
  rw [hH1]; clear hH1 H1
  -- merging
  simp
  refine LoopK_of H.length (fun fr H' => ∃ M : List α, ∃ n : Nat, 0 < n ∧ n ≤ 2 * L.length + 20 ∧ Alk c L M ∧ Blk c n M ∧ H' = H.set i (arrE enc sz M) ∧ fr 0 = .msl i 0 L.length ∧ fr 1 = .d (.int .i64 L.length) ∧ fr 2 = g ∧ fr 6 = .d (.int .i64 (n : Int)))
    (fun fr H' => match fr 6 with | .d (.int _ k) => (2 * L.length + 20 - k).toNat | _ => 0) (by simp) ?_ ?_
  · refine ⟨M, 20, by omega, by omega, hal, hbl, ?_⟩
    simp [f0, f1', f2', f6, Hp.cut_set, cut_self hcl, arrE_clr, hil, hg, clr_d, clr_msl hil, -A.clr, -Ob.clr]
  clear hal hbl f0 f1' f2' f6 fr M
  rintro fr H1 ⟨M, n, hn0, hn1, hal, hbl, hH1, f0, f1', f2', f6⟩
  rw [hH1]; clear hH1 H1
  have hlen := (hal.length hc).length_eq
  simp [f1', f6]
  refine BrK_split (fun h => ?_) (fun h => ?_)
  · have h : n < L.length := by simpa using h
    have v0 : IntKind.i64.wrap (2 * (n : Int)) = 2 * n := wrap_i64 (by omega) (by omega)
    have v00 : IntKind.i64.wrap ((n : Int) * 2) = n * 2 := wrap_i64 (by omega) (by omega)
    have f6o := f6
    simp [f0, f1', f2', f6, v0]
    refine LoopK_of H.length (fun fr H' => ∃ done rest : List α, ∃ k : Nat, Alk c L (done ++ rest) ∧ Blk c (2 * n) done ∧ Blk c n rest ∧ done.length = k * (2 * n) ∧ H' = H.set i (arrE enc sz (done ++ rest)) ∧ fr 0 = .msl i 0 L.length ∧ fr 1 = .d (.int .i64 L.length) ∧ fr 2 = g ∧ fr 6 = .d (.int .i64 (n : Int)) ∧ fr 7 = .d (.int .i64 (done.length : Int)) ∧ fr 8 = .d (.int .i64 (done.length + 2 * n : Int)))
      (fun fr H' => match fr 8 with | .d (.int _ k) => (L.length + 2 * n - k).toNat | _ => 0) (by simp) ?_ ?_
    · refine ⟨[], M, 0, hal, Blk.nil _, hbl, by simp, ?_⟩
      simp [f0, f1', f2', f6, v0, Hp.cut_set, cut_self hcl, arrE_clr, hil, hg, clr_d, clr_msl hil, -A.clr, -Ob.clr]
    clear hal hbl f0 f1' f2' f6 hlen
    rintro fr H1 ⟨done, rest, k, hal, hbl, hbr, hdl, hH1, f0, f1', f2', f6, f7, f8⟩
    rw [hH1]; clear hH1 H1
    have hlen := (hal.length hc).length_eq
    simp only [List.length_append] at hlen
    simp [f1', f8]
    have s1 : Sorted c (rest.take n) := hbr.first
    have s2 : Sorted c ((rest.drop n).take n) := by simpa using hbr 1
    refine BrK_split (fun h2 => ?_) (fun h2 => ?_)
    · have h2 : 2 * n ≤ rest.length := by simp at h2; omega
      have v1 : IntKind.i64.wrap ((done.length : Int) + n) = done.length + n := wrap_i64 (by omega) (by omega)
      have v2 : IntKind.i64.wrap ((done.length : Int) + 2 * n + 2 * n) = done.length + 2 * n + 2 * n := wrap_i64 (by omega) (by omega)
      have hcall := hsym (done ++ rest) done (rest.take n) ((rest.drop n).take n) ((rest.drop n).drop n) done.length (done.length + n) (done.length + 2 * n) (by rw [List.take_append_drop, List.take_append_drop]) (by simp; omega) (by simp; omega) (by simp; omega) s1 s2 rfl (by simp; omega) (by simp; omega)
      simp only [List.drop_drop] at hcall
      have e2 : rest.take n ++ (rest.drop n).take n = rest.take (2 * n) := by rw [Nat.two_mul, List.take_add]
      rw [e2, show n + n = 2 * n by omega] at hcall
      simp [f0, f1', f2', f6, f7, f8, v1]
      refine CallK_of' hcall ?_
      simp [f0, f1', f2', f6, f7, f8, v0, v2]
      obtain ⟨q1, q2⟩ := ssort_spec hc (rest.take (2 * n))
      have hql := ssort_length hc (rest.take (2 * n))
      simp only [List.length_take] at hql
      refine AgainK_of (m := H.length) (by simp) ⟨done ++ ssort c (rest.take (2 * n)), rest.drop (2 * n), k + 1, ?_, hbl.append hdl q1 (by omega), hbr.drop 2, by simp [hql, Nat.add_mul]; omega, ?_⟩ ?_
      · refine hal.trans ?_
        have := (Alk.refl done).append (q2.append (Alk.refl (rest.drop (2 * n))))
        rw [List.take_append_drop] at this
        simpa using this
      · simp [f0, f1', f2', f6, f7, f8, v0, v2, hql, Hp.cut_set, cut_self hcl, arrE_clr, hil, hg, clr_d, clr_msl hil, -A.clr, -Ob.clr]
        omega
      · simp [v0, v2]; omega
    · have h2 : ¬ 2 * n ≤ rest.length := by simp at h2; omega
      have v1 : IntKind.i64.wrap ((done.length : Int) + n) = done.length + n := wrap_i64 (by omega) (by omega)
      simp [f0, f1', f2', f6, f7, f8, v1]
      refine BrK_split (fun h3 => ?_) (fun h3 => ?_)
      · have h3 : n < rest.length := by simp at h3; omega
        rw [List.take_of_length_le (by simp; omega)] at s2
        have hcall := hsym (done ++ rest) done (rest.take n) (rest.drop n) [] done.length (done.length + n) L.length (by simp) (by simp; omega) (by simp; omega) (by simp; omega) s1 s2 rfl (by simp; omega) (by simp; omega)
        simp only [List.append_nil, List.take_append_drop] at hcall
        simp [f0, f1', f2', f6, f7, f8]
        refine CallK_of' hcall ?_
        simp [f0, f1', f2', f6, f7, f8, v00]
        obtain ⟨q1, q2⟩ := ssort_spec hc rest
        have hql := ssort_length hc rest
        refine AgainK_of (m := H.length) (by simp) ⟨done ++ ssort c rest, n * 2, by omega, by omega, hal.trans ((Alk.refl done).append q2), by rw [Nat.mul_comm]; exact hbl.append hdl q1 (by omega), ?_⟩ ?_
        · simp [f0, f1', f2', f6, f7, f8, v00, Hp.cut_set, cut_self hcl, arrE_clr, hil, hg, clr_d, clr_msl hil, -A.clr, -Ob.clr]
        · simp [v00, f6o]; omega
      · have h3 : ¬ n < rest.length := by simp at h3; omega
        simp [f0, f1', f2', f6, f7, f8, v00]
        refine AgainK_of (m := H.length) (by simp) ⟨done ++ rest, n * 2, by omega, by omega, hal, by rw [Nat.mul_comm]; exact hbl.append hdl (hbr.all (by omega)) (by omega), ?_⟩ ?_
        · simp [f0, f1', f2', f6, f7, f8, v00, Hp.cut_set, cut_self hcl, arrE_clr, hil, hg, clr_d, clr_msl hil, -A.clr, -Ob.clr]
        · simp [v00, f6o]; omega
  · have h : ¬ n < L.length := by simpa using h
    have hM : M = ssort c L := ssort_uniq hc (hbl.all (by omega)) hal
    simp [RetK, Hp.cut_set, cut_self hcl, arrE_clr, hM, -Ob.clr]

theorem sortStable_acall (hsz : ∀ x, (enc x).length = sz) (hc : Cmp c) {f0 f f1 f2 f3 f4 : FuncId} {fn0 fn fn1 fn2 fn3 fn4 : Func} (hf0 : P.funcs[f0]? = some fn0) (hcf0 : compF P [] fn0 = some (irSortStable f)) (hf : P.funcs[f]? = some fn) (hcf : compF P [] fn = some (irStable f1 f2))
    (hf1 : P.funcs[f1]? = some fn1) (hcf1 : compF P [] fn1 = some (irInsertion sz)) (hf2 : P.funcs[f2]? = some fn2) (hcf2 : compF P [] fn2 = some (irSymMerge sz f3 f2)) (hf3 : P.funcs[f3]? = some fn3) (hcf3 : compF P [] fn3 = some (irRotate f4))
    (hf4 : P.funcs[f4]? = some fn4) (hcf4 : compF P [] fn4 = some (irSwapRange sz)) {g : A} (hcmp : CmpA P enc c g)
    {H : Hp} {i : Nat} {L : List α} (hg : ∀ m, H.length ≤ m → g.clr m = g) (hi : H[i]? = some (arrE enc sz L)) (hbd : L.length ≤ 1099511627776) :
    ACall P f0 [.msl i 0 L.length, g] H (fun r' H' => r' = .tup [] ∧ H' = H.set i (arrE enc sz (ssort c L))) := by
  refine acall_fin hf0 hcf0 (by simp [irSortStable]) fun hcl _ => ?_
  have := stable_acall hsz hc hf hcf hf1 hcf1 hf2 hcf2 hf3 hcf3 hf4 hcf4 hcmp hg hi hbd
  simp [irSortStable]
  refine CallK_of' this ?_
  simp [RetK, Hp.cut_set, cut_self hcl, arrE_clr, -Ob.clr]

/-- of nothing -/
theorem sortStable0_acall {f0 f f1 f2 : FuncId} {fn0 fn fn1 : Func} (hf0 : P.funcs[f0]? = some fn0) (hcf0 : compF P [] fn0 = some (irSortStable f)) (hf : P.funcs[f]? = some fn) (hcf : compF P [] fn = some (irStable f1 f2))
    (hf1 : P.funcs[f1]? = some fn1) (hcf1 : compF P [] fn1 = some (irInsertion sz)) {g : A} {z : Bool} {s : Nat} {H : Hp} (hg : ∀ m, H.length ≤ m → g.clr m = g) :
    ACall P f0 [.d (.sl z s []), g] H (fun r' H' => r' = .tup [] ∧ H' = H) := by
  have h1 : ACall P f1 [.d (.sl z s []), .d (.int .i64 0), .d (.int .i64 0), g] H (fun r' H' => r' = .tup [] ∧ H' = H) := by
    refine acall_fin hf1 hcf1 (by simp [irInsertion]) fun hcl _ => ?_
    have w : IntKind.i64.wrap 1 = 1 := rfl
    simp [irInsertion, w]
    refine LoopK_of H.length (fun fr H' => fr 2 = .d (.int .i64 0) ∧ fr 8 = .d (.int .i64 1) ∧ H' = H) (fun fr H' => 0) (by simp) (by simp [cut_self hcl, w]) ?_
    rintro fr H' ⟨f2, f8, rfl⟩
    simp [f2, f8]
    simp [RetK, cut_self hcl]
  have h2 : ACall P f [.d (.sl z s []), .d (.int .i64 0), g] H (fun r' H' => r' = .tup [] ∧ H' = H) := by
    refine acall_fin hf hcf (by simp [irStable]) fun hcl _ => ?_
    simp [irStable]
    refine LoopK_of H.length (fun fr H' => fr 0 = .d (.sl z s []) ∧ fr 1 = .d (.int .i64 0) ∧ fr 2 = g ∧ fr 6 = .d (.int .i64 20) ∧ fr 7 = .d (.int .i64 0) ∧ fr 8 = .d (.int .i64 20) ∧ H' = H) (fun fr H' => 0) (by simp) (by simp [cut_self hcl, hg, clr_d, -A.clr]) ?_
    rintro fr H' ⟨f0, f1', f2', f6, f7, f8, rfl⟩
    simp [f0, f1', f2', f6, f7, f8]
    refine CallK_of' h1 ?_
    simp
    refine LoopK_of H'.length (fun fr H1 => fr 1 = .d (.int .i64 0) ∧ fr 6 = .d (.int .i64 20) ∧ H1 = H') (fun fr H' => 0) (by simp) (by simp [cut_self hcl, f1', f6]) ?_
    rintro fr H1 ⟨f1', f6, rfl⟩
    simp [f1', f6]
    simp [RetK, cut_self hcl]
  refine acall_fin hf0 hcf0 (by simp [irSortStable]) fun hcl _ => ?_
  simp [irSortStable]
  refine CallK_of' h2 ?_
  simp [RetK, cut_self hcl]

/-- a copy that may be written -/
theorem cloneM0_acall {bytes e : Nat} {f : FuncId} {fn : Func} (hf : P.funcs[f]? = some fn) (hcf : compF P [1000005] fn = some (irCloneM sz bytes e)) {H : Hp} :
    ACall P f [.d (.sl false sz [])] H (fun r H' => r = .msl H.length 0 0 ∧ H' = H ++ [.arr sz []]) := by
  refine acall_fink 1 hf hcf (by simp [irCloneM]) fun hcl _ => ?_
  simp [irCloneM]
  simp [appA]
  simp [RetK, cut_appk hcl]

theorem cloneM_acall {bytes e : Nat} {f : FuncId} {fn : Func} (hf : P.funcs[f]? = some fn) (hcf : compF P [1000005] fn = some (irCloneM sz bytes e)) {H : Hp} {z : Bool} {rows : List (List D)} (hr : rows ≠ []) (hb : rows.length * bytes ≤ 140737488355328) :
    ACall P f [.d (.sl z sz rows)] H (fun r H' => r = .msl (H.length + 1) 0 rows.length ∧ H' = H ++ [.arr sz [], .arr sz (rows.map (List.map .d))]) := by
  cases rows with
  | nil => exact absurd rfl hr
  | cons r rs =>
    refine acall_fink 2 hf hcf (by simp [irCloneM]) fun hcl _ => ?_
    have h1 : (z && (r :: rs).isEmpty) = false := by simp
    have hb' : (rs.length + 1) * bytes ≤ 140737488355328 := hb
    simp [irCloneM]
    simp [appA, hb']
    simp [RetK, cut_appk hcl, A.clr0]

theorem clone0_acall {bytes e : Nat} {f : FuncId} {fn : Func} (hf : P.funcs[f]? = some fn) (hcf : compF P [1000005] fn = some (irCloneM sz bytes e)) {H : Hp} :
    ACall P f [.d (.sl true sz [])] H (fun r H' => r = .d (.sl true sz []) ∧ H' = H) := by
  refine acall_fin hf hcf (by simp [irCloneM]) fun hcl _ => ?_
  simp [irCloneM]
  simp [RetK, cut_self hcl]

end
end Go.Zam

namespace Go.Zam
set_option linter.all false
set_option maxRecDepth 100000
set_option maxHeartbeats 1000000

def cmpStr (a b : List UInt8) : Int := if Op.bytesLess a b then -1 else if Op.bytesLess a b || decide (a = b) then 0 else 1

section
variable {P : Program}

end
end Go.Zam

namespace Go.Zam
set_option linter.all false
set_option maxRecDepth 100000

def irSound (et : Nat) : IFn :=
 { nt := 53, res := [.t 4], body := (
  .seq (.ops [
    ⟨(some 4), none, .mv (.c (.int .i64 0))⟩] false)
  (.seq (.seq (.ops [
     ⟨(some 8), none, .mv (.t 0)⟩,
     ⟨(some 9), none, .lenL (.t 8)⟩,
     ⟨(some 10), none, .bin .gtr (.t 9) (.c (.int .i64 512))⟩] false)
   (.cond (.t 10) (.seq (.ops [
      ⟨(some 4), none, .mv (.c (.int .i64 5))⟩] false)
    (.ret))
   (.skip)))
  (.seq (.ops [
    ⟨(some 5), none, .mv (.c (.int .i64 (-1)))⟩] false)
  (.seq (.seq (.ops [
     ⟨(some 11), none, .mv (.t 0)⟩,
     ⟨(some 12), none, .lenL (.t 11)⟩,
     ⟨(some 13), none, .mv (.c (.int .i64 0))⟩] false)
   (.blk 0 (.loop (.seq (.ops [
       ⟨(some 14), none, .bin .lss (.t 13) (.t 12)⟩] false)
     (.seq (.cond (.t 14) (.skip)
      (.exit 0))
     (.seq (.blk 1 (.seq (.ops [
         ⟨(some 15), none, .iaddr 3 (.t 11) (.t 13)⟩,
         ⟨(some 16), none, .load 3 true (.t 15)⟩,
         ⟨(some 7), none, .alloc et [(.int .i64 0), (.int .i64 0), (.str [])]⟩,
         ⟨none, none, .store 3 (.t 7) (.t 16)⟩] false)
       (.seq (.blk 2 (.seq (.ops [
           ⟨(some 18), none, .faddr 0 (.t 7)⟩,
           ⟨(some 19), none, .load 1 false (.t 18)⟩,
           ⟨(some 20), none, .bin .lss (.t 19) (.c (.int .i64 0))⟩,
           ⟨(some 21), none, .mv (.t 20)⟩,
           ⟨(some 22), (some (21, false)), .faddr 0 (.t 7)⟩,
           ⟨(some 23), (some (21, false)), .load 1 false (.t 22)⟩,
           ⟨(some 24), (some (21, false)), .faddr 1 (.t 7)⟩,
           ⟨(some 25), (some (21, false)), .load 1 false (.t 24)⟩,
           ⟨(some 26), (some (21, false)), .bin .gtr (.t 23) (.t 25)⟩,
           ⟨(some 27), none, .pick (.t 21) (.c (.bool true)) (.t 26)⟩,
           ⟨(some 28), none, .mv (.t 27)⟩,
           ⟨(some 29), (some (28, false)), .faddr 1 (.t 7)⟩,
           ⟨(some 30), (some (28, false)), .load 1 false (.t 29)⟩,
           ⟨(some 31), (some (28, false)), .mv (.t 1)⟩,
           ⟨(some 32), (some (28, false)), .bin .gtr (.t 30) (.t 31)⟩,
           ⟨(some 33), none, .pick (.t 28) (.c (.bool true)) (.t 32)⟩,
           ⟨(some 17), none, .mv (.t 33)⟩] false)
         (.cond (.t 17) (.seq (.ops [
            ⟨(some 4), none, .mv (.c (.int .i64 6))⟩] false)
          (.ret))
         (.seq (.ops [
            ⟨(some 35), none, .faddr 0 (.t 7)⟩,
            ⟨(some 36), none, .load 1 false (.t 35)⟩,
            ⟨(some 37), none, .faddr 1 (.t 7)⟩,
            ⟨(some 38), none, .load 1 false (.t 37)⟩,
            ⟨(some 39), none, .bin .eql (.t 36) (.t 38)⟩,
            ⟨(some 40), none, .mv (.t 39)⟩,
            ⟨(some 41), (some (40, true)), .faddr 2 (.t 7)⟩,
            ⟨(some 42), (some (40, true)), .load 1 false (.t 41)⟩,
            ⟨(some 43), (some (40, true)), .bin .eql (.t 42) (.c (.str []))⟩,
            ⟨(some 44), none, .pick (.t 40) (.t 43) (.c (.bool false))⟩,
            ⟨(some 34), none, .mv (.t 44)⟩] false)
          (.cond (.t 34) (.seq (.ops [
             ⟨(some 4), none, .mv (.c (.int .i64 1))⟩] false)
           (.ret))
          (.seq (.ops [
             ⟨(some 46), none, .faddr 0 (.t 7)⟩,
             ⟨(some 47), none, .load 1 false (.t 46)⟩,
             ⟨(some 48), none, .mv (.t 5)⟩,
             ⟨(some 49), none, .bin .leq (.t 47) (.t 48)⟩,
             ⟨(some 45), none, .mv (.t 49)⟩] false)
           (.cond (.t 45) (.seq (.ops [
              ⟨(some 4), none, .mv (.c (.int .i64 7))⟩] false)
            (.ret))
           (.skip))))))))
       (.ops [
        ⟨(some 50), none, .faddr 1 (.t 7)⟩,
        ⟨(some 51), none, .load 1 false (.t 50)⟩,
        ⟨(some 5), none, .mv (.t 51)⟩] false))))
     (.ops [
      ⟨(some 52), none, .bin .add (.t 13) (.c (.int .i64 1))⟩,
      ⟨(some 13), none, .mv (.t 52)⟩] false)))))))
  (.seq (.ops [
    ⟨(some 4), none, .mv (.c (.int .i64 0))⟩] false)
  (.ret)))))) }

def irWrite (cc : Nat) : IFn :=
 { nt := 19, res := [.t 4, .t 5], body := (
  .seq (.ops [
    ⟨(some 4), none, .mv (.c (.int .i64 0))⟩,
    ⟨(some 5), none, .mv (.c .nili)⟩] false)
  (.seq (.ops [
    ⟨(some 6), none, .mv (.t 0)⟩,
    ⟨(some 7), none, .call cc [(.t 6)]⟩] false)
  (.seq (.ops [
    ⟨(some 8), none, .mv (.t 0)⟩,
    ⟨(some 9), none, .mv (.t 0)⟩,
    ⟨(some 10), none, .nilCheck (.t 9)⟩,
    ⟨(some 11), none, .faddr 1 (.t 10)⟩,
    ⟨(some 12), none, .load 1 false (.t 11)⟩,
    ⟨(some 13), none, .mv (.t 1)⟩,
    ⟨(some 14), none, .appS 5 (.t 12) (.t 13)⟩,
    ⟨(some 15), none, .nilCheck (.t 8)⟩,
    ⟨(some 16), none, .faddr 1 (.t 15)⟩,
    ⟨none, none, .store 1 (.t 16) (.t 14)⟩] false)
  (.seq (.ops [
    ⟨(some 17), none, .mv (.t 1)⟩,
    ⟨(some 18), none, .lenS (.t 17)⟩,
    ⟨(some 4), none, .mv (.t 18)⟩,
    ⟨(some 5), none, .mv (.c .nili)⟩] false)
  (.ret))))) }

def irApply (et bt snd wr str : Nat) : IFn :=
 { nt := 41, res := [.t 4, .t 5], body := (
  .seq (.ops [
    ⟨(some 4), none, .mv (.c (.str []))⟩,
    ⟨(some 5), none, .mv (.c (.int .i64 0))⟩] false)
  (.seq (.seq (.ops [
     ⟨(some 11), none, .mv (.t 1)⟩,
     ⟨(some 12), none, .mv (.t 0)⟩,
     ⟨(some 13), none, .lenS (.t 12)⟩,
     ⟨(some 14), none, .call snd [(.t 11), (.t 13)]⟩,
     ⟨(some 6), none, .mv (.t 14)⟩] false)
   (.seq (.ops [
     ⟨(some 15), none, .mv (.t 6)⟩,
     ⟨(some 16), none, .bin .neq (.t 15) (.c (.int .i64 0))⟩] false)
   (.cond (.t 16) (.seq (.ops [
      ⟨(some 17), none, .mv (.t 6)⟩,
      ⟨(some 4), none, .mv (.c (.str []))⟩,
      ⟨(some 5), none, .mv (.t 17)⟩] false)
    (.ret))
   (.skip))))
  (.seq (.ops [
    ⟨(some 7), none, .allocT bt [.nilp, (.sl true 1 [])] 1 1 5⟩] false)
  (.seq (.ops [
    ⟨(some 8), none, .mv (.c (.int .i64 0))⟩] false)
  (.seq (.seq (.ops [
     ⟨(some 18), none, .mv (.t 1)⟩,
     ⟨(some 19), none, .lenL (.t 18)⟩,
     ⟨(some 20), none, .mv (.c (.int .i64 0))⟩] false)
   (.blk 0 (.loop (.seq (.ops [
       ⟨(some 21), none, .bin .lss (.t 20) (.t 19)⟩] false)
     (.seq (.cond (.t 21) (.skip)
      (.exit 0))
     (.seq (.blk 1 (.seq (.ops [
         ⟨(some 22), none, .iaddr 3 (.t 18) (.t 20)⟩,
         ⟨(some 23), none, .load 3 true (.t 22)⟩,
         ⟨(some 10), none, .alloc et [(.int .i64 0), (.int .i64 0), (.str [])]⟩,
         ⟨none, none, .store 3 (.t 10) (.t 23)⟩] false)
       (.seq (.ops [
         ⟨(some 24), none, .mv (.t 0)⟩,
         ⟨(some 25), none, .mv (.t 8)⟩,
         ⟨(some 26), none, .faddr 0 (.t 10)⟩,
         ⟨(some 27), none, .load 1 false (.t 26)⟩,
         ⟨(some 28), none, .sslice (.t 24) (some (.t 25)) (some (.t 27))⟩,
         ⟨(some 29), none, .call wr [(.t 7), (.t 28)]⟩] false)
       (.seq (.ops [
         ⟨(some 30), none, .faddr 2 (.t 10)⟩,
         ⟨(some 31), none, .load 1 false (.t 30)⟩,
         ⟨(some 32), none, .call wr [(.t 7), (.t 31)]⟩] false)
       (.ops [
        ⟨(some 33), none, .faddr 1 (.t 10)⟩,
        ⟨(some 34), none, .load 1 false (.t 33)⟩,
        ⟨(some 8), none, .mv (.t 34)⟩] false)))))
     (.ops [
      ⟨(some 35), none, .bin .add (.t 20) (.c (.int .i64 1))⟩,
      ⟨(some 20), none, .mv (.t 35)⟩] false)))))))
  (.seq (.ops [
    ⟨(some 36), none, .mv (.t 0)⟩,
    ⟨(some 37), none, .mv (.t 8)⟩,
    ⟨(some 38), none, .sslice (.t 36) (some (.t 37)) none⟩,
    ⟨(some 39), none, .call wr [(.t 7), (.t 38)]⟩] false)
  (.seq (.ops [
    ⟨(some 40), none, .call str [(.t 7)]⟩,
    ⟨(some 4), none, .mv (.t 40)⟩,
    ⟨(some 5), none, .mv (.c (.int .i64 0))⟩] false)
  (.ret)))))))) }

def irInvert (et snd : Nat) : IFn :=
 { nt := 58, res := [.t 4, .t 5], body := (
  .seq (.ops [
    ⟨(some 4), none, .mv (.c (.sl true 3 []))⟩,
    ⟨(some 5), none, .mv (.c (.int .i64 0))⟩] false)
  (.seq (.seq (.ops [
     ⟨(some 12), none, .mv (.t 1)⟩,
     ⟨(some 13), none, .mv (.t 0)⟩,
     ⟨(some 14), none, .lenS (.t 13)⟩,
     ⟨(some 15), none, .call snd [(.t 12), (.t 14)]⟩,
     ⟨(some 6), none, .mv (.t 15)⟩] false)
   (.seq (.ops [
     ⟨(some 16), none, .mv (.t 6)⟩,
     ⟨(some 17), none, .bin .neq (.t 16) (.c (.int .i64 0))⟩] false)
   (.cond (.t 17) (.seq (.ops [
      ⟨(some 18), none, .mv (.t 6)⟩,
      ⟨(some 4), none, .mv (.c (.sl true 3 []))⟩,
      ⟨(some 5), none, .mv (.t 18)⟩] false)
    (.ret))
   (.skip))))
  (.seq (.ops [
    ⟨(some 7), none, .nilT 3 et⟩] false)
  (.seq (.ops [
    ⟨(some 8), none, .mv (.c (.int .i64 0))⟩] false)
  (.seq (.seq (.ops [
     ⟨(some 19), none, .mv (.t 1)⟩,
     ⟨(some 20), none, .lenL (.t 19)⟩,
     ⟨(some 21), none, .mv (.c (.int .i64 0))⟩] false)
   (.blk 0 (.loop (.seq (.ops [
       ⟨(some 22), none, .bin .lss (.t 21) (.t 20)⟩] false)
     (.seq (.cond (.t 22) (.skip)
      (.exit 0))
     (.seq (.blk 1 (.seq (.ops [
         ⟨(some 23), none, .iaddr 3 (.t 19) (.t 21)⟩,
         ⟨(some 24), none, .load 3 true (.t 23)⟩,
         ⟨(some 10), none, .alloc et [(.int .i64 0), (.int .i64 0), (.str [])]⟩,
         ⟨none, none, .store 3 (.t 10) (.t 24)⟩] false)
       (.seq (.ops [
         ⟨(some 25), none, .faddr 0 (.t 10)⟩,
         ⟨(some 26), none, .load 1 false (.t 25)⟩,
         ⟨(some 27), none, .mv (.t 8)⟩,
         ⟨(some 28), none, .bin .add (.t 26) (.t 27)⟩,
         ⟨(some 11), none, .mv (.t 28)⟩] false)
       (.seq (.ops [
         ⟨(some 29), none, .mv (.t 7)⟩,
         ⟨(some 30), none, .mv (.t 11)⟩,
         ⟨(some 31), none, .mv (.t 11)⟩,
         ⟨(some 32), none, .faddr 2 (.t 10)⟩,
         ⟨(some 33), none, .load 1 false (.t 32)⟩,
         ⟨(some 34), none, .lenS (.t 33)⟩,
         ⟨(some 35), none, .bin .add (.t 31) (.t 34)⟩,
         ⟨(some 36), none, .mv (.t 0)⟩,
         ⟨(some 37), none, .faddr 0 (.t 10)⟩,
         ⟨(some 38), none, .load 1 false (.t 37)⟩,
         ⟨(some 39), none, .faddr 1 (.t 10)⟩,
         ⟨(some 40), none, .load 1 false (.t 39)⟩,
         ⟨(some 41), none, .sslice (.t 36) (some (.t 38)) (some (.t 40))⟩,
         ⟨(some 42), none, .build [(.int .i64 0), (.int .i64 0), (.str [])] [(0, 1, (.t 30)), (1, 1, (.t 35)), (2, 1, (.t 41))]⟩,
         ⟨(some 43), none, .bslice 3 [(.t 42)]⟩,
         ⟨(some 44), none, .app 3 32 et (.t 29) (.t 43)⟩,
         ⟨(some 7), none, .mv (.t 44)⟩] true)
       (.ops [
        ⟨(some 45), none, .mv (.t 8)⟩,
        ⟨(some 46), none, .faddr 2 (.t 10)⟩,
        ⟨(some 47), none, .load 1 false (.t 46)⟩,
        ⟨(some 48), none, .lenS (.t 47)⟩,
        ⟨(some 49), none, .faddr 1 (.t 10)⟩,
        ⟨(some 50), none, .load 1 false (.t 49)⟩,
        ⟨(some 51), none, .faddr 0 (.t 10)⟩,
        ⟨(some 52), none, .load 1 false (.t 51)⟩,
        ⟨(some 53), none, .bin .sub (.t 50) (.t 52)⟩,
        ⟨(some 54), none, .bin .sub (.t 48) (.t 53)⟩,
        ⟨(some 55), none, .bin .add (.t 45) (.t 54)⟩,
        ⟨(some 8), none, .mv (.t 55)⟩] false)))))
     (.ops [
      ⟨(some 56), none, .bin .add (.t 21) (.c (.int .i64 1))⟩,
      ⟨(some 21), none, .mv (.t 56)⟩] false)))))))
  (.seq (.ops [
    ⟨(some 57), none, .mv (.t 7)⟩,
    ⟨(some 4), none, .mv (.t 57)⟩,
    ⟨(some 5), none, .mv (.c (.int .i64 0))⟩] false)
  (.ret))))))) }

structure Ed where
  f : Int
  t : Int
  s : List UInt8

def encE (e : Ed) : List D := [.int .i64 e.f, .int .i64 e.t, .str e.s]

def soundFrom (n : Int) : Int → List Ed → Int
  | _, [] => 0
  | last, e :: r => if e.f < 0 ∨ e.t < e.f ∨ n < e.t then 6 else if e.f = e.t ∧ e.s = [] then 1 else if e.f ≤ last then 7 else soundFrom n e.t r

def sound (l : List Ed) (n : Int) : Int := if 512 < l.length then 5 else soundFrom n (-1) l

def total : List Ed → Nat
  | [] => 0
  | e :: r => e.s.length + total r


theorem appA_osl {H : Hp} {t sz b e : Nat} {z : Bool} {rows new : List (List D)} (ht : H[t]? = some (.tok rows.length sz e)) (hf : (rows.length + new.length) * b ≤ 140737488355328) :
    appA H sz b e new (.osl z sz rows t) = some (.osl z sz (rows ++ new) t, H.set t (.tok (rows.length + new.length) sz e)) := by
  simp [appA, ht, hf]

@[simp] theorem byteRows_length (s : List UInt8) : (byteRows s).length = s.length := by simp [byteRows]
theorem byteRows_append (a b : List UInt8) : byteRows (a ++ b) = byteRows a ++ byteRows b := by simp [byteRows]


def applied (s : List UInt8) : Int → List Ed → List UInt8
  | k, [] => s.drop k.toNat
  | k, e :: r => (s.drop k.toNat).take (e.f.toNat - k.toNat) ++ (e.s ++ applied s e.t r)

def applyS (s : List UInt8) (l : List Ed) : List UInt8 := if sound l s.length = 0 then applied s 0 l else []

theorem soundFrom_cons {n last : Int} {e : Ed} {r : List Ed} (h : soundFrom n last (e :: r) = 0) : 0 ≤ e.f ∧ e.f ≤ e.t ∧ e.t ≤ n ∧ last < e.f ∧ soundFrom n e.t r = 0 := by
  rw [soundFrom] at h
  split at h
  · cases h
  · split at h
    · cases h
    · split at h
      · cases h
      · refine ⟨by omega, by omega, by omega, by omega, h⟩

theorem sound_zero {l : List Ed} {n : Int} (h : sound l n = 0) : l.length ≤ 512 ∧ soundFrom n (-1) l = 0 := by
  unfold sound at h
  split at h
  · cases h
  · exact ⟨by omega, h⟩

theorem subL_ok {α : Type} {s : List α} {a b : Int} (h : 0 ≤ a ∧ a ≤ b ∧ b ≤ s.length) : subL s a b = some ((s.drop a.toNat).take (b.toNat - a.toNat)) := by
  simp [subL, h]


def inv (s : List UInt8) : Int → List Ed → List Ed
  | _, [] => []
  | d, e :: r => ⟨e.f + d, e.f + d + e.s.length, (s.drop e.f.toNat).take (e.t.toNat - e.f.toNat)⟩ :: inv s (d + (e.s.length - (e.t - e.f))) r

def grows : List Ed → Int
  | [] => 0
  | e :: r => (e.s.length - (e.t - e.f)) + grows r

theorem inv_length (s : List UInt8) : ∀ (d : Int) (l : List Ed), (inv s d l).length = l.length
  | _, [] => rfl
  | d, e :: r => by simp [inv, inv_length s _ r]

theorem soundFrom_cons2 {n last : Int} {e : Ed} {r : List Ed} (h : soundFrom n last (e :: r) = 0) : ¬ (e.f = e.t ∧ e.s = []) := by
  rw [soundFrom] at h
  split at h
  · cases h
  · split at h
    · cases h
    · assumption

theorem applied_len (s : List UInt8) : ∀ (l : List Ed) (p last : Int), soundFrom s.length last l = 0 → 0 ≤ p → p ≤ last + 1 → p ≤ s.length → ((applied s p l).length : Int) = s.length - p + grows l
  | [], p, last, _, h0, _, h1 => by simp [applied, grows]; omega
  | e :: r, p, last, h, h0, hp, h1 => by
    obtain ⟨e1, e2, e3, e4, e5⟩ := soundFrom_cons h
    have := applied_len s r e.t e.t e5 (by omega) (by omega) e3
    simp only [applied, grows, List.length_append, List.length_take, List.length_drop, Int.natCast_add, this]
    omega

theorem inv_sound (s : List UInt8) (N : Int) : ∀ (l : List Ed) (d p last : Int), soundFrom s.length last l = 0 → 0 ≤ p → p ≤ last + 1 → p ≤ s.length → 0 ≤ p + d → N = s.length + d + grows l → soundFrom N (last + d) (inv s d l) = 0
  | [], _, _, _, _, _, _, _, _, _ => rfl
  | e :: r, d, p, last, h, h0, hp, h1, hd, hN => by
    obtain ⟨e1, e2, e3, e4, e5⟩ := soundFrom_cons h
    have hne := soundFrom_cons2 h
    have hl := applied_len s r e.t e.t e5 (by omega) (by omega) e3
    simp only [grows] at hN
    have := inv_sound s N r (d + (e.s.length - (e.t - e.f))) e.t e.t e5 (by omega) (by omega) e3 (by omega) (by omega)
    rw [inv, soundFrom, if_neg (by simp only; omega), if_neg, if_neg (by simp only; omega)]
    · have h2 : e.f + d + e.s.length = e.t + (d + (e.s.length - (e.t - e.f))) := by omega
      simp only [h2]; exact this
    · rintro ⟨a, b⟩
      simp only at a b
      apply hne
      have h3 := congrArg List.length b
      simp only [List.length_take, List.length_drop, List.length_nil] at h3
      exact ⟨by omega, List.eq_nil_of_length_eq_zero (by omega)⟩

theorem inv_applied (s X : List UInt8) : ∀ (l : List Ed) (d p last : Int), soundFrom s.length last l = 0 → 0 ≤ p → p ≤ last + 1 → p ≤ s.length → 0 ≤ p + d → X.drop (p + d).toNat = applied s p l → applied X (p + d) (inv s d l) = s.drop p.toNat
  | [], d, p, _, _, _, _, _, _, hX => by simp [inv, applied, hX]
  | e :: r, d, p, last, h, h0, hp, h1, hd, hX => by
    obtain ⟨e1, e2, e3, e4, e5⟩ := soundFrom_cons h
    have h2 : e.f + d + e.s.length = e.t + (d + (e.s.length - (e.t - e.f))) := by omega
    have hA : ((s.drop p.toNat).take (e.f.toNat - p.toNat)).length = e.f.toNat - p.toNat := by simp; omega
    have hX' : X.drop (e.t + (d + (e.s.length - (e.t - e.f)))).toNat = applied s e.t r := by
      have : (e.t + (d + ((e.s.length : Int) - (e.t - e.f)))).toNat = (p + d).toNat + ((e.f.toNat - p.toNat) + e.s.length) := by omega
      rw [this, ← List.drop_drop, hX, applied, ← List.append_assoc]
      apply List.drop_left'
      rw [List.length_append, hA]
    have := inv_applied s X r (d + (e.s.length - (e.t - e.f))) e.t e.t e5 (by omega) (by omega) e3 (by omega) hX'
    rw [inv, applied]
    simp only [h2, this]
    have h4 : (e.f + d).toNat - (p + d).toNat = e.f.toNat - p.toNat := by omega
    rw [hX, h4, applied, List.take_left' hA]
    have h5 : (s.drop p.toNat).drop (e.f.toNat - p.toNat) = s.drop e.f.toNat := by rw [List.drop_drop]; congr 1; omega
    have h6 : (s.drop e.f.toNat).drop (e.t.toNat - e.f.toNat) = s.drop e.t.toNat := by rw [List.drop_drop]; congr 1; omega
    rw [← List.take_append_drop (e.f.toNat - p.toNat) (s.drop p.toNat), h5, ← h6, List.take_append_drop]
    congr 1
    rw [List.take_left' hA]

theorem inv_law {s : List UInt8} {l : List Ed} (h : sound l s.length = 0) :
    sound (inv s 0 l) (applied s 0 l).length = 0 ∧ applied (applied s 0 l) 0 (inv s 0 l) = s ∧ ((applied s 0 l).length : Int) = s.length + grows l := by
  obtain ⟨hl, h0⟩ := sound_zero h
  have hlen := applied_len s l 0 (-1) h0 (by omega) (by omega) (by omega)
  refine ⟨?_, ?_, by omega⟩
  · rw [sound, inv_length, if_neg (by omega)]
    have := inv_sound s (applied s 0 l).length l 0 0 (-1) h0 (by omega) (by omega) (by omega) (by omega) (by omega)
    simpa using this
  · have := inv_applied s (applied s 0 l) l 0 0 (-1) h0 (by omega) (by omega) (by omega) (by omega) (by simp)
    simpa using this


def invS (s : List UInt8) (l : List Ed) : List Ed := if sound l s.length = 0 then inv s 0 l else []


end Go.Zam

namespace Go.Zam
set_option linter.all false
set_option maxRecDepth 100000
set_option maxHeartbeats 1000000

/-- strings.Builder's copyCheck, at a program -/
def CopyOk (P : Program) (cc : FuncId) (bt : TypeId) : Prop := ∀ (H : Hp) (i : Nat) (x a : A), H[i]? = some (.box bt [a, x]) → (a = .d .nilp ∨ a = .ptr i 0) → ACall P cc [.ptr i 0] H (fun r H' => r = .tup [] ∧ H' = H.set i (.box bt [.ptr i 0, x]))
/-- strings.Builder's String, at a program -/
def StringOk (P : Program) (st : FuncId) (bt : TypeId) : Prop := ∀ (H : Hp) (i t : Nat) (a : A) (s : List UInt8), H[i]? = some (.box bt [a, .osl true 1 (byteRows s) t]) → H[t]? = some (.tok s.length 1 5) → s.length ≤ 140737488355328 → ACall P st [.ptr i 0] H (fun r H' => r = .d (.str s) ∧ H' = H)

section
variable {P : Program} {et bt : Nat}

theorem sound_acall {f : FuncId} {fn : Func} (hf : P.funcs[f]? = some fn) (hcf : compF P [] fn = some (irSound et)) (H : Hp) (z : Bool) (l : List Ed) (n : Int) : ACall P f [.d (.sl z 3 (l.map encE)), .d (.int .i64 n)] H (fun r H' => r = .d (.int .i64 (sound l n)) ∧ H' = H) := by
  refine acall_fin hf hcf (by simp [irSound]) fun hcl _ => ?_
  simp [irSound]
  refine BrK_split (fun h => ?_) (fun h => ?_)
  · simp [RetK, cut_self hcl, sound] at h ⊢
    omega
  simp
  refine LoopK_of H.length (fun fr H' => ∃ pre rest last, l = pre ++ rest ∧ sound l n = soundFrom n last rest ∧ fr 1 = .d (.int .i64 n) ∧ fr 5 = .d (.int .i64 last) ∧ fr 11 = .d (.sl z 3 (l.map encE)) ∧ fr 12 = .d (.int .i64 l.length) ∧ fr 13 = .d (.int .i64 (pre.length : Int)) ∧ H' = H)
    (fun fr H' => match fr 13 with | .d (.int _ k) => (l.length - k).toNat | _ => 0) (by simp) ?_ ?_
  · refine ⟨[], l, -1, ?_⟩
    simp [cut_self hcl, sound]
    simp at h; omega
  rintro fr H' ⟨pre, rest, last, hl, hs, f1, f5, f11, f12, f13, rfl⟩
  simp [f1, f5, f11, f12, f13]
  refine BrK_split (fun h => ?_) (fun h => ?_)
  · obtain ⟨e, r, rfl⟩ : ∃ e r, rest = e :: r := by
      cases rest with
      | nil => simp_all
      | cons e r => exact ⟨e, r, rfl⟩
    have hr : Zam.rowAt (l.map encE) pre.length = some (encE e) := by rw [hl]; exact rowAt_mid _ _ _ _
    simp [f1, f5, f11, f12, f13, hr, encE]
    repeat' (first
      | refine GdK_split (by simp) (fun h => ?_) (fun h => ?_)
      | refine BrK_split (fun h => ?_) (fun h => ?_)
      | simp [f1, f5, f11, f12, f13])
    all_goals simp only [decide_eq_true_eq, decide_eq_false_iff_not, Bool.not_true, Bool.not_false] at *
    all_goals first
      | (clear hl hr; simp_all [RetK, cut_app hcl, soundFrom]; done)
      | (refine AgainK_of (m := H'.length) (by simp) ⟨pre ++ [e], r, e.t, ?_⟩ ?_
         · have hw : IntKind.i64.wrap (pre.length + 1) = pre.length + 1 := wrap_i64 (by omega) (by omega)
           simp [cut_app hcl, f1, f5, f11, f12, f13, hw]
           refine ⟨hl, ?_⟩
           clear hl hr
           rw [hs, soundFrom]
           (repeat' split) <;> first | rfl | omega | (simp_all; done) | (simp_all; omega)
         · have hw : IntKind.i64.wrap (pre.length + 1) = pre.length + 1 := wrap_i64 (by omega) (by omega)
           simp [hw]; omega)
  · obtain rfl : rest = [] := by
      cases rest with
      | nil => rfl
      | cons e r => simp_all
    simp [RetK, hs, soundFrom, cut_self hcl]


theorem write_acall {f cc : FuncId} {fn : Func} (hf : P.funcs[f]? = some fn) (hcf : compF P [] fn = some (irWrite cc)) (hcc : CopyOk P cc bt) (H : Hp) (i t : Nat) (a : A) (bs s : List UInt8) (hi : H[i]? = some (.box bt [a, .osl true 1 (byteRows bs) t])) (ha : a = .d .nilp ∨ a = .ptr i 0) (ht : H[t]? = some (.tok bs.length 1 5)) (hb : bs.length + s.length ≤ 140737488355328) :
    ACall P f [.ptr i 0, .d (.str s)] H (fun r H' => r = .tup [.d (.int .i64 s.length), .d .nili] ∧ H' = (H.set i (.box bt [.ptr i 0, .osl true 1 (byteRows (bs ++ s)) t])).set t (.tok (bs ++ s).length 1 5)) := by
  have hit : i ≠ t := fun e => by subst e; rw [hi] at ht; cases ht
  have hil : i < H.length := (List.getElem?_eq_some_iff.1 hi).1
  have htl : t < H.length := (List.getElem?_eq_some_iff.1 ht).1
  refine acall_fin hf hcf (by simp [irWrite]) fun hcl hlo => ?_
  simp [irWrite]
  refine CallK_of' (hcc _ _ _ _ hi ha) ?_
  have ht' : (H.set i (.box bt [.ptr i 0, .osl true 1 (byteRows bs) t]))[t]? = some (.tok (byteRows bs).length 1 5) := by
    rw [List.getElem?_set_ne hit, ht, byteRows_length]
  have happ := appA_osl (z := true) (b := 1) (new := byteRows s) ht' (by simp; omega)
  simp [hil, htl, hit, ht, happ, Ne.symm hit]
  simp [RetK, Hp.cut_set, cut_self hcl, hil, htl, byteRows_append]
  rw [List.set_comm _ _ hit, List.set_comm _ _ hit, List.set_set]


theorem apply_acall {f f1 f2 f3 cc : FuncId} {fn fn1 fn2 : Func} (hf : P.funcs[f]? = some fn) (hcf : compF P [7] fn = some (irApply et bt f1 f2 f3)) (hf1 : P.funcs[f1]? = some fn1) (hcf1 : compF P [] fn1 = some (irSound et)) (hf2 : P.funcs[f2]? = some fn2) (hcf2 : compF P [] fn2 = some (irWrite cc)) (hcc : CopyOk P cc bt) (hst : StringOk P f3 bt) (H : Hp) (z : Bool) (s : List UInt8) (l : List Ed) (hb : s.length + total l ≤ 70368744177664) :
    ACall P f [.d (.str s), .d (.sl z 3 (l.map encE))] H (fun r H' => r = .tup [.d (.str (applyS s l)), .d (.int .i64 (sound l s.length))] ∧ H' = H) := by
  refine acall_fin hf hcf (by simp [irApply]) fun hcl _ => ?_
  simp [irApply]
  refine CallK_of' (sound_acall hf1 hcf1 H z l s.length) ?_
  simp
  refine BrK_split (fun h => ?_) (fun h => ?_)
  · simp [RetK, cut_self hcl]
    simp at h
    simp [applyS, h]
  have h0 : sound l s.length = 0 := by simpa using h
  obtain ⟨hl512, hs0⟩ := sound_zero h0
  simp
  refine LoopK_of (H.length + 2) (fun fr H' => ∃ pre rest, ∃ (p last : Int) (bs : List UInt8) (a : A), l = pre ++ rest ∧ bs ++ applied s p rest = applied s 0 l ∧ 0 ≤ p ∧ p ≤ s.length ∧ p ≤ last + 1 ∧ soundFrom s.length last rest = 0 ∧
      bs.length + (s.length - p.toNat) + total rest ≤ s.length + total l ∧ (a = .d .nilp ∨ a = .ptr (H.length + 1) 0) ∧
      fr 0 = .d (.str s) ∧ fr 7 = .ptr (H.length + 1) 0 ∧ fr 8 = .d (.int .i64 p) ∧ fr 18 = .d (.sl z 3 (l.map encE)) ∧ fr 19 = .d (.int .i64 l.length) ∧ fr 20 = .d (.int .i64 (pre.length : Int)) ∧ H' = H ++ [.tok bs.length 1 5, .box bt [a, .osl true 1 (byteRows bs) H.length]])
    (fun fr H' => match fr 20 with | .d (.int _ k) => (l.length - k).toNat | _ => 0) (by simp) ?_ ?_
  · refine ⟨[], l, 0, -1, [], .d .nilp, ?_⟩
    simp [cut_appk hcl, hs0, byteRows]
  rintro fr H' ⟨pre, rest, p, last, bs, a, hl, hap, hp0, hp1, hp2, hsf, hsz, ha, f0, f7, f8, f18, f19, f20, rfl⟩
  simp [f18, f19, f20]
  refine BrK_split (fun h => ?_) (fun h => ?_)
  · obtain ⟨e, r, rfl⟩ : ∃ e r, rest = e :: r := by
      cases rest with
      | nil => simp_all
      | cons e r => exact ⟨e, r, rfl⟩
    have hr : Zam.rowAt (l.map encE) pre.length = some (encE e) := by rw [hl]; exact rowAt_mid _ _ _ _
    obtain ⟨e1, e2, e3, e4, e5⟩ := soundFrom_cons hsf
    simp only [total] at hsz
    have hsub := subL_ok (s := s) (a := p) (b := e.f) ⟨hp0, by omega, by omega⟩
    have hlen : ((s.drop p.toNat).take (e.f.toNat - p.toNat)).length = e.f.toNat - p.toNat := by simp; omega
    simp [f0, f7, f8, f18, f19, f20, hr, encE, hsub]
    refine CallK_of' (write_acall hf2 hcf2 hcc _ (H.length + 1) H.length a bs ((s.drop p.toNat).take (e.f.toNat - p.toNat)) (by simp) ha (by simp) (by omega)) ?_
    simp [f0, f7, f8, f18, f19, f20]
    refine CallK_of' (write_acall hf2 hcf2 hcc _ (H.length + 1) H.length (.ptr (H.length + 1) 0) (bs ++ (s.drop p.toNat).take (e.f.toNat - p.toNat)) e.s (by simp) (.inr rfl) (by simp) (by rw [List.length_append]; omega)) ?_
    have hw : IntKind.i64.wrap (pre.length + 1) = pre.length + 1 := wrap_i64 (by omega) (by simp at h; omega)
    simp [f0, f7, f8, f18, f19, f20, hw]
    refine AgainK_of (m := H.length + 2) (by simp) ⟨pre ++ [e], r, e.t, e.t, bs ++ ((s.drop p.toNat).take (e.f.toNat - p.toNat) ++ e.s), .ptr (H.length + 1) 0, ?_⟩ ?_
    · simp [cut_appk hcl, f0, f7, f8, f18, f19, f20]
      refine ⟨hl, ?_, by omega, e3, by omega, e5, ?_⟩
      · rw [← hap, applied]
      · omega
    · simp; simp at h; omega
  · obtain rfl : rest = [] := by
      cases rest with
      | nil => rfl
      | cons e r => simp_all
    have hsub := subL_ok (s := s) (a := p) (b := s.length) ⟨hp0, hp1, by omega⟩
    have htk : (s.drop p.toNat).take ((s.length : Int).toNat - p.toNat) = s.drop p.toNat := List.take_of_length_le (by simp)
    rw [htk] at hsub
    simp [total] at hsz
    simp [f0, f7, f8, hsub]
    refine CallK_of' (write_acall hf2 hcf2 hcc _ (H.length + 1) H.length a bs (s.drop p.toNat) (by simp) ha (by simp) (by simp; omega)) ?_
    simp [f0, f7, f8]
    refine CallK_of' (hst _ (H.length + 1) H.length (.ptr (H.length + 1) 0) (bs ++ s.drop p.toNat) (by simp) (by simp) (by simp; omega)) ?_
    simp [RetK, cut_app hcl, h0, applyS]
    simpa [applied] using hap


theorem invert_acall {f f1 : FuncId} {fn fn1 : Func} (hf : P.funcs[f]? = some fn) (hcf : compF P [7] fn = some (irInvert et f1)) (hf1 : P.funcs[f1]? = some fn1) (hcf1 : compF P [] fn1 = some (irSound et)) (H : Hp) (z : Bool) (s : List UInt8) (l : List Ed) (hb : s.length + total l ≤ 70368744177664) :
    ACall P f [.d (.str s), .d (.sl z 3 (l.map encE))] H (fun r H' => r = .tup [.d (.sl true 3 ((invS s l).map encE)), .d (.int .i64 (sound l s.length))] ∧ H' = H) := by
  refine acall_fin hf hcf (by simp [irInvert]) fun hcl _ => ?_
  simp [irInvert]
  refine CallK_of' (sound_acall hf1 hcf1 H z l s.length) ?_
  simp
  refine BrK_split (fun h => ?_) (fun h => ?_)
  · simp [RetK, cut_self hcl]
    simp at h
    simp [invS, h]
  have h0 : sound l s.length = 0 := by simpa using h
  obtain ⟨hl512, hs0⟩ := sound_zero h0
  simp
  refine LoopK_of (H.length + 1) (fun fr H' => ∃ pre rest, ∃ (p last d : Int) (q : List Ed), l = pre ++ rest ∧ inv s 0 l = q ++ inv s d rest ∧ q.length = pre.length ∧ 0 ≤ p ∧ p ≤ s.length ∧ p ≤ last + 1 ∧ soundFrom s.length last rest = 0 ∧
      0 ≤ p + d ∧ d + total rest ≤ total l ∧
      fr 0 = .d (.str s) ∧ fr 7 = .osl true 3 (q.map encE) H.length ∧ fr 8 = .d (.int .i64 d) ∧ fr 19 = .d (.sl z 3 (l.map encE)) ∧ fr 20 = .d (.int .i64 l.length) ∧ fr 21 = .d (.int .i64 (pre.length : Int)) ∧ H' = H ++ [.tok q.length 3 et])
    (fun fr H' => match fr 21 with | .d (.int _ k) => (l.length - k).toNat | _ => 0) (by simp) ?_ ?_
  · refine ⟨[], l, 0, -1, 0, [], ?_⟩
    simp [cut_appk hcl, hs0]
  rintro fr H' ⟨pre, rest, p, last, d, q, hl, hap, hq, hp0, hp1, hp2, hsf, hpd, hsz, f0, f7, f8, f19, f20, f21, rfl⟩
  simp [f19, f20, f21]
  refine BrK_split (fun h => ?_) (fun h => ?_)
  · obtain ⟨e, r, rfl⟩ : ∃ e r, rest = e :: r := by
      cases rest with
      | nil => simp_all
      | cons e r => exact ⟨e, r, rfl⟩
    have hr : Zam.rowAt (l.map encE) pre.length = some (encE e) := by rw [hl]; exact rowAt_mid _ _ _ _
    obtain ⟨e1, e2, e3, e4, e5⟩ := soundFrom_cons hsf
    simp only [total] at hsz
    have hsub := subL_ok (s := s) (a := e.f) (b := e.t) ⟨e1, by omega, by omega⟩
    have w1 : IntKind.i64.wrap (e.f + d) = e.f + d := wrap_i64 (by omega) (by omega)
    have w2 : IntKind.i64.wrap (e.f + d + e.s.length) = e.f + d + e.s.length := wrap_i64 (by omega) (by omega)
    have w3 : IntKind.i64.wrap (e.t - e.f) = e.t - e.f := wrap_i64 (by omega) (by omega)
    have w4 : IntKind.i64.wrap (e.s.length - (e.t - e.f)) = e.s.length - (e.t - e.f) := wrap_i64 (by omega) (by omega)
    have w5 : IntKind.i64.wrap (d + (e.s.length - (e.t - e.f))) = d + (e.s.length - (e.t - e.f)) := wrap_i64 (by omega) (by omega)
    have hpl : pre.length ≤ 512 := by rw [hl] at hl512; simp at hl512; omega
    have happ : ∀ X, appA (H ++ .tok q.length 3 et :: X) 3 32 et [[.int .i64 (e.f + d), .int .i64 (e.f + d + e.s.length), .str ((s.drop e.f.toNat).take (e.t.toNat - e.f.toNat))]] (.osl true 3 (q.map encE) H.length) = some (.osl true 3 ((q ++ [(⟨e.f + d, e.f + d + e.s.length, (s.drop e.f.toNat).take (e.t.toNat - e.f.toNat)⟩ : Ed)]).map encE) H.length, H ++ .tok (q.length + 1) 3 et :: X) := by
      intro X
      rw [appA_osl (by simp) (by simp; omega)]
      simp [encE]
    simp [f0, f7, f8, f19, f20, f21, hr, encE, hsub, w1, w2, w3, w4, w5, happ]
    have hw : IntKind.i64.wrap (pre.length + 1) = pre.length + 1 := wrap_i64 (by omega) (by omega)
    simp [f21, hw]
    refine AgainK_of (m := H.length + 1) (by simp) ⟨pre ++ [e], r, e.t, e.t, d + (e.s.length - (e.t - e.f)), q ++ [⟨e.f + d, e.f + d + e.s.length, (s.drop e.f.toNat).take (e.t.toNat - e.f.toNat)⟩], ?_⟩ ?_
    · simp [cut_appk hcl, f0, f7, f8, f19, f20, f21]
      refine ⟨hl, ?_, by omega, by omega, by omega, by omega, e5, by omega, by omega, ?_⟩
      rotate_left
      · simp [encE]
      rw [hap, inv]
    · simp; simp at h; omega
  · obtain rfl : rest = [] := by
      cases rest with
      | nil => rfl
      | cons e r => simp_all
    simp [f7]
    simp [inv] at hap
    simp [RetK, cut_app hcl, h0, invS, hap]


end
end Go.Zam

namespace Go.Zam
set_option linter.all false
set_option maxRecDepth 100000
set_option maxHeartbeats 1000000

/-- a call that yields an array that it made, in a pair -/
theorem ACall.freeze2 {P : Program} {f : FuncId} {args : List A} {H X : Hp} {k sz : Nat} {rows : List (List D)} {y : D} (hX : X[k]? = some (.arr sz (rows.map (List.map .d)))) (h : ACall P f args H (fun r H' => r = .tup [.msl (H.length + k) 0 rows.length, .d y] ∧ H' = H ++ X)) :
    ACall P f args H (fun r H' => r = .tup [.d (.sl false sz rows), .d y] ∧ H' = H) := by
  intro κ w vs hr hl hv
  refine (h κ w vs hr hl hv).mono ?_
  rintro e w' ⟨v, κ', x, H', h1, h2, h3, h4, rfl, rfl⟩
  cases h4 with
  | tup us _ hul hu =>
  match us, hul with
  | [u0, u1], _ =>
  have v0 := hu 0 u0 _ rfl rfl
  have v1 := hu 1 u1 _ rfl rfl
  obtain ⟨κ2, k1, k2, k3⟩ := h3.freezeArr (i := H.length + k) (sz := sz) (rows := rows) (by rw [getElem?_appk]; exact hX) v0
  rw [set_appk] at k2
  refine ⟨_, κ2.cut H.length, .tup [.d (.sl false sz rows), .d y], Hp.cut H.length (H ++ X.set k .dead), h1, K.le_cut (h2.trans k1) hr.dom, k2.cut _ (by simp), ?_, rfl, cut_app hr.closed _⟩
  refine .tup [u0, u1] _ rfl fun i v a hv ha => ?_
  match i with
  | 0 => simp at hv ha; subst hv; subst ha; exact VR.clr H.length k3
  | 1 => simp at hv ha; subst hv; subst ha; exact VR.clr H.length (v1.mono k1)
  | i + 2 => simp at hv

def indexP {α : Type} (p : α → Bool) : List α → Option Nat
  | [] => none
  | x :: r => if p x then some 0 else (indexP p r).map (· + 1)

def indexI {α : Type} (p : α → Bool) (l : List α) : Int := match indexP p l with | some k => k | none => -1

theorem indexP_append {α : Type} (p : α → Bool) : ∀ (a b : List α), (∀ x ∈ a, p x = false) → indexP p (a ++ b) = (indexP p b).map (· + a.length)
  | [], b, _ => by simp
  | x :: a, b, h => by
    simp only [List.cons_append, indexP, h x (by simp), Bool.false_eq_true, if_false, indexP_append p a b fun y hy => h y (by simp [hy]), Option.map_map, List.length_cons]
    congr 1

def irIndexFunc (sz : Nat) : IFn :=
 { nt := 19, res := [.t 4], body := (
  .seq (.ops [
    ⟨(some 4), none, .mv (.c (.int .i64 0))⟩] false)
  (.seq (.seq (.ops [
     ⟨(some 6), none, .mv (.t 0)⟩,
     ⟨(some 7), none, .lenL (.t 6)⟩,
     ⟨(some 8), none, .mv (.c (.int .i64 0))⟩] false)
   (.blk 0 (.loop (.seq (.ops [
       ⟨(some 9), none, .bin .lss (.t 8) (.t 7)⟩] false)
     (.seq (.cond (.t 9) (.skip)
      (.exit 0))
     (.seq (.blk 1 (.seq (.ops [
         ⟨(some 10), none, .mv (.t 8)⟩,
         ⟨(some 5), none, .mv (.t 10)⟩] false)
       (.seq (.ops [
         ⟨(some 11), none, .mv (.t 1)⟩,
         ⟨(some 12), none, .mv (.t 0)⟩,
         ⟨(some 13), none, .mv (.t 5)⟩,
         ⟨(some 14), none, .iaddr sz (.t 12) (.t 13)⟩,
         ⟨(some 15), none, .load sz true (.t 14)⟩,
         ⟨(some 16), none, .callv (.t 11) [(.t 15)]⟩] false)
       (.cond (.t 16) (.seq (.ops [
          ⟨(some 17), none, .mv (.t 5)⟩,
          ⟨(some 4), none, .mv (.t 17)⟩] false)
        (.ret))
       (.skip)))))
     (.ops [
      ⟨(some 18), none, .bin .add (.t 8) (.c (.int .i64 1))⟩,
      ⟨(some 8), none, .mv (.t 18)⟩] false)))))))
  (.seq (.ops [
    ⟨(some 4), none, .mv (.c (.int .i64 (-1)))⟩] false)
  (.ret)))) }

section
variable {P : Program} {α : Type} {enc : α → List D} {sz : Nat}

/-- IndexFunc over whatever holds a list -/
theorem indexFunc_acall {f : FuncId} {fn : Func} (hf : P.funcs[f]? = some fn) (hcf : compF P [] fn = some (irIndexFunc sz)) {H : Hp} {l : List α} {p : α → Bool} {g x : A} (hlen : lenA x = some l.length)
    (hx : ∀ m, H.length ≤ m → x.clr m = x) (hg : ∀ m, H.length ≤ m → g.clr m = g)
    (hld : ∀ (k : Nat) (e : α), l[k]? = some e → ∃ q, iaddrA H sz x (.d (.int .i64 (k : Int))) = some q ∧ ldA H sz q = some (rowE enc e))
    (hp : ∀ (e : α) (Q : A → Hp → Prop) (t : Tag Q), Q (.d (.bool (p e))) H → ValK Q t P [.agg (rowE enc e)] H g) (hb : l.length ≤ 1099511627776) :
    ACall P f [x, g] H (fun r H' => r = .d (.int .i64 (indexI p l)) ∧ H' = H) := by
  refine acall_fin hf hcf (by simp [irIndexFunc]) fun hcl _ => ?_
  simp [irIndexFunc, hlen, -lenA]
  refine LoopK_of H.length (fun fr H' => ∃ pre rest, l = pre ++ rest ∧ (∀ e ∈ pre, p e = false) ∧ fr 0 = x ∧ fr 1 = g ∧ fr 7 = .d (.int .i64 l.length) ∧ fr 8 = .d (.int .i64 (pre.length : Int)) ∧ H' = H)
    (fun fr H' => match fr 8 with | .d (.int _ k) => (l.length - k).toNat | _ => 0) (by simp) ?_ ?_
  · refine ⟨[], l, ?_⟩
    simp [cut_self hcl, hx, hg, clr_d, -A.clr]
  rintro fr H' ⟨pre, rest, hl, hpre, f0, f1, f7, f8, hH⟩
  rw [hH]
  simp [f7, f8]
  refine BrK_split (fun h => ?_) (fun h => ?_)
  · obtain ⟨e, r, rfl⟩ : ∃ e r, rest = e :: r := by
      cases rest with
      | nil => rw [hl] at h; simp at h
      | cons e r => exact ⟨e, r, rfl⟩
    obtain ⟨q, q1, q2⟩ := hld pre.length e (by rw [hl]; simp)
    have hpl : pre.length < l.length := by rw [hl]; simp
    have hw : IntKind.i64.wrap ((pre.length : Int) + 1) = pre.length + 1 := wrap_i64 (by omega) (by omega)
    simp [f0, f1, f7, f8, q1, q2, -iaddrA, -ldA]
    refine hp e _ _ ?_
    simp [f0, f1, f7, f8]
    refine BrK_split (fun h2 => ?_) (fun h2 => ?_)
    · have : indexI p l = pre.length := by rw [hl, indexI, indexP_append p _ _ hpre]; simp [indexP, h2]
      simp [RetK, cut_self hcl, this]
    · simp [f8, hw]
      refine AgainK_of (m := H.length) (by simp) ⟨pre ++ [e], r, ?_⟩ ?_
      · simp [f0, f1, f7, f8, cut_self hcl, hx, hg, clr_d, -A.clr]
        refine ⟨hl, fun a ha => ?_⟩
        rcases ha with h3 | h3
        · exact hpre a h3
        · subst h3; exact h2
      · simp; omega
  · obtain rfl : rest = [] := by
      cases rest with
      | nil => rfl
      | cons e r => exfalso; rw [hl] at h; simp at h
    rw [List.append_nil] at hl
    subst hl
    have : indexI p l = -1 := by
      have := indexP_append p l [] hpre
      simp [indexP] at this
      simp [indexI, this]
    simp [RetK, cut_self hcl, this]

end

/-- the names met, as a map -/
def setMp (l : List (List UInt8)) : List (D × A) := l.map fun s => (.str s, .d (.bool true))

theorem setMp_ok (l : List (List UInt8)) (s : List UInt8) : mpOk (.str []) (.str s) (setMp l) = true := by simp [setMp]
theorem setMp_get (s : List UInt8) : ∀ l : List (List UInt8), mpGet (.str s) (setMp l) = if s ∈ l then some (.d (.bool true)) else none
  | [] => rfl
  | x :: l => by
    have := setMp_get s l
    simp only [setMp, List.map_cons, mpGet, sameK, List.mem_cons] at this ⊢
    by_cases h : s = x
    · simp [h]
    · simp only [h, decide_false, Bool.false_eq_true, if_false, false_or]; exact this
theorem setMp_put (s : List UInt8) : ∀ l : List (List UInt8), s ∉ l → mpPut (.str s) (.d (.bool true)) (setMp l) = setMp (l ++ [s])
  | [], _ => rfl
  | x :: l, h => by
    simp only [List.mem_cons, not_or] at h
    have := setMp_put s l h.2
    simp only [setMp, List.map_cons, mpPut, sameK, List.cons_append] at this ⊢
    simp only [h.1, decide_false, Bool.false_eq_true, if_false]
    rw [this]

end Go.Zam

namespace Go.Zam
set_option linter.all false
set_option maxRecDepth 100000
set_option maxHeartbeats 1000000

theorem bl_irrefl : ∀ a : List UInt8, Op.bytesLess a a = false
  | [] => rfl
  | x :: a => by simp [Op.bytesLess, bl_irrefl a]

theorem bl_total : ∀ a b : List UInt8, Op.bytesLess a b = false → Op.bytesLess b a = false → a = b
  | [], [], _, _ => rfl
  | [], y :: b, h, _ => by simp [Op.bytesLess] at h
  | x :: a, [], _, h => by simp [Op.bytesLess] at h
  | x :: a, y :: b, h, h' => by
    simp only [Op.bytesLess, Bool.or_eq_false_iff, decide_eq_false_iff_not, Bool.and_eq_false_iff, beq_eq_false_iff_ne, UInt8.lt_iff_toNat_lt] at h h'
    have hxy : x = y := by
      apply UInt8.toNat_inj.1
      omega
    subst hxy
    have h1 := h.2.resolve_left (fun e => e rfl)
    have h2 := h'.2.resolve_left (fun e => e rfl)
    rw [bl_total a b h1 h2]

theorem bl_trans : ∀ a b c : List UInt8, Op.bytesLess a b = true → Op.bytesLess b c = true → Op.bytesLess a c = true
  | _, [], _, h, _ => by cases ‹List UInt8› <;> simp [Op.bytesLess] at h
  | _, _ :: _, [], _, h => by simp [Op.bytesLess] at h
  | [], _ :: _, _ :: _, _, _ => rfl
  | x :: a, y :: b, z :: c, h, h' => by
    simp only [Op.bytesLess, Bool.or_eq_true, decide_eq_true_eq, Bool.and_eq_true, beq_iff_eq, UInt8.lt_iff_toNat_lt] at h h' ⊢
    rcases h with h | ⟨rfl, h⟩ <;> rcases h' with h' | ⟨rfl, h'⟩
    · left; omega
    · left; exact h
    · left; exact h'
    · right; exact ⟨rfl, bl_trans a b c h h'⟩

theorem bl_asymm {a b : List UInt8} (h : Op.bytesLess a b = true) : Op.bytesLess b a = false := by
  cases h2 : Op.bytesLess b a with
  | false => rfl
  | true => have := bl_trans a b a h h2; rw [bl_irrefl] at this; cases this

theorem cmpStr_lt {a b : List UInt8} : cmpStr a b < 0 ↔ Op.bytesLess a b = true := by
  unfold cmpStr
  split
  · simp_all
  · split <;> simp_all
theorem cmpStr_gt {a b : List UInt8} : 0 < cmpStr a b ↔ Op.bytesLess b a = true := by
  unfold cmpStr
  split
  · rename_i h; simp [bl_asymm h]
  · rename_i h
    split
    · rename_i h2
      simp [h] at h2
      subst h2
      simp [bl_irrefl]
    · rename_i h2
      simp [h] at h2
      cases h3 : Op.bytesLess b a with
      | true => simp
      | false => exact absurd (bl_total a b (by simpa using h) h3) h2
theorem cmpStr_zero {a b : List UInt8} : cmpStr a b = 0 ↔ a = b := by
  constructor
  · intro h
    have h1 : ¬ cmpStr a b < 0 := by omega
    have h2 : ¬ 0 < cmpStr a b := by omega
    rw [cmpStr_lt] at h1
    rw [cmpStr_gt] at h2
    exact bl_total a b (by simpa using h1) (by simpa using h2)
  · rintro rfl
    have h1 : ¬ cmpStr a a < 0 := by rw [cmpStr_lt, bl_irrefl]; simp
    have h2 : ¬ 0 < cmpStr a a := by rw [cmpStr_gt, bl_irrefl]; simp
    omega

theorem cmpStr_cmp : Cmp cmpStr where
  refl := fun x => cmpStr_zero.2 rfl
  anti := fun x y => by rw [cmpStr_lt, cmpStr_gt]
  trans := fun x y z h1 h2 => by
    have e1 : x = y ∨ Op.bytesLess x y = true := by
      by_cases h : cmpStr x y = 0
      · exact .inl (cmpStr_zero.1 h)
      · exact .inr (cmpStr_lt.1 (by omega))
    have e2 : y = z ∨ Op.bytesLess y z = true := by
      by_cases h : cmpStr y z = 0
      · exact .inl (cmpStr_zero.1 h)
      · exact .inr (cmpStr_lt.1 (by omega))
    rcases e1 with rfl | e1 <;> rcases e2 with rfl | e2
    · exact h1
    · exact h2
    · exact h1
    · have := cmpStr_lt.2 (bl_trans x y z e1 e2); omega

theorem Cmp.on {α β : Type} {c : β → β → Int} (h : Cmp c) (f : α → β) : Cmp fun x y => c (f x) (f y) :=
  ⟨fun x => h.refl _, fun x y => h.anti _ _, fun x y z => h.trans _ _ _⟩

theorem compareStr_acall {P : Program} {f f1 : FuncId} {fn fn1 : Func} (hf : P.funcs[f]? = some fn) (hcf : compF P [] fn = some (irCompare f1)) (hf1 : P.funcs[f1]? = some fn1) (hcf1 : compF P [] fn1 = some irIsNaN) {H : Hp} (a b : List UInt8) :
    ACall P f [.d (.str a), .d (.str b)] H (fun r H' => r = .d (.int .i64 (cmpStr a b)) ∧ H' = H) := by
  have hn : ∀ x, ACall P f1 [.d (.str x)] H (fun r H' => r = .d (.bool false) ∧ H' = H) := fun x => by
    refine acall_fin hf1 hcf1 (by simp [irIsNaN]) fun hcl _ => ?_
    simp [irIsNaN]
    simp [RetK, cut_self hcl]
  refine acall_fin hf hcf (by simp [irCompare]) fun hcl _ => ?_
  simp [irCompare]
  refine CallK_of' (hn a) ?_
  simp
  refine CallK_of' (hn b) ?_
  cases h : Op.bytesLess a b with
  | true =>
    simp [h]
    simp [RetK, cut_self hcl, cmpStr, h]
  | false =>
    by_cases he : a = b
    · subst he
      simp [h]
      simp [RetK, cut_self hcl, cmpStr, h]
    · simp [h, he]
      simp [RetK, cut_self hcl, cmpStr, h, he]

end Go.Zam

namespace Go.Zam
set_option linter.all false
set_option maxRecDepth 100000
set_option maxHeartbeats 1000000

theorem closed_iff {H : Hp} : H.Closed ↔ ∀ n, H.length ≤ n → ∀ x ∈ H, x.clr n = x := by
  unfold Hp.Closed
  refine forall_congr' fun n => imp_congr_right fun _ => ?_
  constructor
  · intro h x hx
    obtain ⟨i, hi, rfl⟩ := List.getElem_of_mem hx
    have := congrArg (fun l => l[i]?) h
    simpa [hi] using this
  · intro h
    exact (List.map_congr_left h).trans (List.map_id' _)

theorem Closed.set {H : Hp} (h : H.Closed) (i : Nat) {x : Ob} (hx : ∀ n, H.length ≤ n → x.clr n = x) : Hp.Closed (H.set i x) := by
  rw [closed_iff] at h ⊢
  intro n hn y hy
  rw [List.length_set] at hn
  rcases List.mem_or_eq_of_mem_set hy with h1 | h1
  · exact h n hn y h1
  · rw [h1]; exact hx n hn

theorem Closed.snoc {H : Hp} (h : H.Closed) {x : Ob} (hx : ∀ n, H.length + 1 ≤ n → x.clr n = x) : Hp.Closed (H ++ [x]) := by
  rw [closed_iff] at h ⊢
  intro n hn y hy
  simp only [List.length_append, List.length_singleton] at hn
  rcases List.mem_append.1 hy with h1 | h1
  · exact h n (by omega) y h1
  · rw [List.mem_singleton.1 h1]; exact hx n hn

theorem ld_ptr (H : Hp) (i off n : Nat) : ldA H n (.ptr i off) = (match H[i]? with | some (.box _ cs) => cutL cs off n | _ => none) := rfl
theorem st_ptr (H : Hp) (i off : Nat) (cs : List A) : stA H cs (.ptr i off) = (match H[i]? with | some (.box ty old) => if off + cs.length ≤ old.length then some (H.set i (.box ty (setL old off cs))) else none | _ => none) := rfl

section
variable {P : Program} {α : Type} {enc : α → List D} {sz : Nat}

theorem arr_ldc {H : Hp} {i k j : Nat} {L : List α} {e : α} {d : D} (hi : H[i]? = some (arrE enc sz L)) (hk : L[k]? = some e) (hj : (enc e)[j]? = some d) : ldA H 1 (.aptr i k j) = some [.d d] := by
  have hjl := (List.getElem?_eq_some_iff.1 hj)
  obtain ⟨h1, h2⟩ := hjl
  have : j + 1 ≤ (enc e).length := h1
  simp [ldA, hi, arrE, hk, rowE, cutL, this]
  rw [List.take_one]
  simp [hj]

theorem arr_stc {H : Hp} {i k j : Nat} {L : List α} {e e' : α} {d : D} (hi : H[i]? = some (arrE enc sz L)) (hk : L[k]? = some e) (hj : j < (enc e).length) (he : (enc e).set j d = enc e') : stA H [.d d] (.aptr i k j) = some (H.set i (arrE enc sz (L.set k e'))) := by
  have : j + 1 ≤ (enc e).length := hj
  simp [stA, hi, arrE, hk, rowE, this]
  rw [← List.map_set, he]

theorem cloneD_acall {bytes e : Nat} {f : FuncId} {fn : Func} (hf : P.funcs[f]? = some fn) (hcf : compF P [1000005] fn = some (irCloneM sz bytes e)) {H : Hp} {z : Bool} {rows : List (List D)} (hb : rows.length * bytes ≤ 140737488355328) :
    ACall P f [.d (.sl z sz rows)] H (fun r H' => r = .d (.sl (z && rows.isEmpty) sz rows) ∧ H' = H) := by
  by_cases h0 : rows = []
  · subst h0
    cases z with
    | true => exact clone0_acall hf hcf
    | false => exact ACall.freeze (k := 0) (X := [.arr sz []]) (by simp) (cloneM0_acall hf hcf)
  · have : rows.isEmpty = false := by cases rows <;> simp_all
    rw [this, Bool.and_false]
    exact ACall.freeze (k := 1) (X := [.arr sz [], .arr sz (rows.map (List.map .d))]) (by simp) (cloneM_acall hf hcf h0 hb)

end
end Go.Zam

namespace Go.Zam
set_option maxRecDepth 100000

def irChLight (tM : Nat) : IFn :=
 { nt := 30, res := [.t 4], body := (
  .seq (.ops [
    ⟨(some 4), none, .mv (.c (.bool false))⟩] false)
  (.seq (.ops [
    ⟨(some 5), none, .mv (.c (.int .i64 0))⟩] false)
  (.seq (.seq (.ops [
     ⟨(some 8), none, .mv (.t 0)⟩,
     ⟨(some 9), none, .lenL (.t 8)⟩,
     ⟨(some 10), none, .mv (.c (.int .i64 0))⟩] false)
   (.blk 0 (.loop (.seq (.ops [
       ⟨(some 11), none, .bin .lss (.t 10) (.t 9)⟩] false)
     (.seq (.cond (.t 11) (.skip)
      (.exit 0))
     (.seq (.blk 1 (.seq (.ops [
         ⟨(some 12), none, .iaddr 2 (.t 8) (.t 10)⟩,
         ⟨(some 13), none, .load 2 true (.t 12)⟩,
         ⟨(some 7), none, .alloc tM [(.str []), (.str [])]⟩,
         ⟨none, none, .store 2 (.t 7) (.t 13)⟩] false)
       (.seq (.ops [
         ⟨(some 14), none, .mv (.t 5)⟩,
         ⟨(some 15), none, .faddr 0 (.t 7)⟩,
         ⟨(some 16), none, .load 1 false (.t 15)⟩,
         ⟨(some 17), none, .lenS (.t 16)⟩,
         ⟨(some 18), none, .faddr 1 (.t 7)⟩,
         ⟨(some 19), none, .load 1 false (.t 18)⟩,
         ⟨(some 20), none, .lenS (.t 19)⟩,
         ⟨(some 21), none, .bin .add (.t 17) (.t 20)⟩,
         ⟨(some 22), none, .bin .add (.t 14) (.t 21)⟩,
         ⟨(some 5), none, .mv (.t 22)⟩] false)
       (.seq (.ops [
         ⟨(some 23), none, .mv (.t 5)⟩,
         ⟨(some 24), none, .mv (.t 1)⟩,
         ⟨(some 25), none, .bin .gtr (.t 23) (.t 24)⟩] false)
       (.cond (.t 25) (.seq (.ops [
          ⟨(some 4), none, .mv (.c (.bool false))⟩] false)
        (.ret))
       (.skip))))))
     (.ops [
      ⟨(some 26), none, .bin .add (.t 10) (.c (.int .i64 1))⟩,
      ⟨(some 10), none, .mv (.t 26)⟩] false)))))))
  (.seq (.ops [
    ⟨(some 27), none, .mv (.t 0)⟩,
    ⟨(some 28), none, .lenL (.t 27)⟩,
    ⟨(some 29), none, .bin .leq (.t 28) (.c (.int .i64 20))⟩,
    ⟨(some 4), none, .mv (.t 29)⟩] false)
  (.ret))))) }
def irChApply (clone find apply tC : Nat) : IFn :=
 { nt := 58, res := [.t 4, .t 5], body := (
  .seq (.ops [
    ⟨(some 4), none, .mv (.c (.sl true 2 []))⟩,
    ⟨(some 5), none, .mv (.c (.int .i64 0))⟩] false)
  (.seq (.ops [
    ⟨(some 13), none, .mv (.t 0)⟩,
    ⟨(some 14), none, .call clone [(.t 13)]⟩,
    ⟨(some 6), none, .mv (.t 14)⟩] false)
  (.seq (.ops [
    ⟨(some 15), none, .mkMap⟩,
    ⟨(some 7), none, .mv (.t 15)⟩] false)
  (.seq (.seq (.ops [
     ⟨(some 16), none, .mv (.t 1)⟩,
     ⟨(some 17), none, .lenL (.t 16)⟩,
     ⟨(some 18), none, .mv (.c (.int .i64 0))⟩] false)
   (.blk 0 (.loop (.seq (.ops [
       ⟨(some 19), none, .bin .lss (.t 18) (.t 17)⟩] false)
     (.seq (.cond (.t 19) (.skip)
      (.exit 0))
     (.seq (.blk 1 (.seq (.ops [
         ⟨(some 20), none, .iaddr 2 (.t 16) (.t 18)⟩,
         ⟨(some 21), none, .load 2 true (.t 20)⟩,
         ⟨(some 9), none, .alloc tC [(.str []), (.sl true 3 [])]⟩,
         ⟨none, none, .store 2 (.t 9) (.t 21)⟩] false)
       (.seq (.ops [
         ⟨(some 22), none, .mv (.t 6)⟩,
         ⟨(some 23), none, .faddr 0 (.t 9)⟩,
         ⟨(some 24), none, .load 1 false (.t 23)⟩,
         ⟨(some 25), none, .call find [(.t 22), (.t 24)]⟩,
         ⟨(some 10), none, .mv (.t 25)⟩] false)
       (.seq (.blk 2 (.seq (.ops [
           ⟨(some 27), none, .mv (.t 10)⟩,
           ⟨(some 28), none, .bin .lss (.t 27) (.c (.int .i64 0))⟩,
           ⟨(some 26), none, .mv (.t 28)⟩] false)
         (.cond (.t 26) (.seq (.ops [
            ⟨(some 4), none, .mv (.c (.sl true 2 []))⟩,
            ⟨(some 5), none, .mv (.c (.int .i64 32))⟩] false)
          (.ret))
         (.seq (.ops [
            ⟨(some 30), none, .mv (.t 7)⟩,
            ⟨(some 31), none, .faddr 0 (.t 9)⟩,
            ⟨(some 32), none, .load 1 false (.t 31)⟩,
            ⟨(some 33), none, .lkp false (.str []) false [(.bool false)] (.t 30) (.t 32)⟩,
            ⟨(some 29), none, .mv (.t 33)⟩] false)
          (.cond (.t 29) (.seq (.ops [
             ⟨(some 4), none, .mv (.c (.sl true 2 []))⟩,
             ⟨(some 5), none, .mv (.c (.int .i64 4))⟩] false)
           (.ret))
          (.skip))))))
       (.seq (.ops [
         ⟨(some 34), none, .mv (.t 7)⟩,
         ⟨(some 35), none, .faddr 0 (.t 9)⟩,
         ⟨(some 36), none, .load 1 false (.t 35)⟩,
         ⟨none, none, .mpUpd (.str []) (.t 34) (.t 36) (.c (.bool true))⟩] false)
       (.seq (.ops [
         ⟨(some 38), none, .mv (.t 6)⟩,
         ⟨(some 39), none, .mv (.t 10)⟩,
         ⟨(some 40), none, .iaddr 2 (.t 38) (.t 39)⟩,
         ⟨(some 41), none, .faddr 1 (.t 40)⟩,
         ⟨(some 42), none, .load 1 false (.t 41)⟩,
         ⟨(some 43), none, .faddr 1 (.t 9)⟩,
         ⟨(some 44), none, .load 1 false (.t 43)⟩,
         ⟨(some 45), none, .call apply [(.t 42), (.t 44)]⟩,
         ⟨(some 37), none, .mv (.t 45)⟩,
         ⟨(some 46), none, .ext (.t 37) 0⟩,
         ⟨(some 47), none, .ext (.t 37) 1⟩,
         ⟨(some 11), none, .mv (.t 46)⟩,
         ⟨(some 12), none, .mv (.t 47)⟩] true)
       (.seq (.seq (.ops [
          ⟨(some 48), none, .mv (.t 12)⟩,
          ⟨(some 49), none, .bin .neq (.t 48) (.c (.int .i64 0))⟩] false)
        (.cond (.t 49) (.seq (.ops [
           ⟨(some 50), none, .mv (.t 12)⟩,
           ⟨(some 4), none, .mv (.c (.sl true 2 []))⟩,
           ⟨(some 5), none, .mv (.t 50)⟩] false)
         (.ret))
        (.skip)))
       (.ops [
        ⟨(some 51), none, .mv (.t 6)⟩,
        ⟨(some 52), none, .mv (.t 10)⟩,
        ⟨(some 53), none, .mv (.t 11)⟩,
        ⟨(some 54), none, .iaddr 2 (.t 51) (.t 52)⟩,
        ⟨(some 55), none, .faddr 1 (.t 54)⟩,
        ⟨none, none, .store 1 (.t 55) (.t 53)⟩] false))))))))
     (.ops [
      ⟨(some 56), none, .bin .add (.t 18) (.c (.int .i64 1))⟩,
      ⟨(some 18), none, .mv (.t 56)⟩] false)))))))
  (.seq (.ops [
    ⟨(some 57), none, .mv (.t 6)⟩,
    ⟨(some 4), none, .mv (.t 57)⟩,
    ⟨(some 5), none, .mv (.c (.int .i64 0))⟩] false)
  (.ret)))))) }
def irRcSame : IFn :=
 { nt := 26, res := [.t 4], body := (
  .seq (.ops [
    ⟨(some 4), none, .mv (.c (.bool false))⟩] false)
  (.seq (.seq (.ops [
     ⟨(some 6), none, .mv (.t 0)⟩,
     ⟨(some 7), none, .lenL (.t 6)⟩,
     ⟨(some 8), none, .mv (.t 1)⟩,
     ⟨(some 9), none, .lenL (.t 8)⟩,
     ⟨(some 10), none, .bin .neq (.t 7) (.t 9)⟩] false)
   (.cond (.t 10) (.seq (.ops [
      ⟨(some 4), none, .mv (.c (.bool false))⟩] false)
    (.ret))
   (.skip)))
  (.seq (.seq (.ops [
     ⟨(some 5), none, .mv (.c (.int .i64 0))⟩] false)
   (.blk 0 (.loop (.seq (.seq (.ops [
        ⟨(some 11), none, .mv (.t 5)⟩,
        ⟨(some 12), none, .mv (.t 0)⟩,
        ⟨(some 13), none, .lenL (.t 12)⟩,
        ⟨(some 14), none, .bin .lss (.t 11) (.t 13)⟩] false)
      (.cond (.t 14) (.skip)
      (.exit 0)))
     (.seq (.blk 1 (.seq (.ops [
         ⟨(some 17), none, .mv (.t 0)⟩,
         ⟨(some 18), none, .mv (.t 5)⟩,
         ⟨(some 19), none, .iaddr 2 (.t 17) (.t 18)⟩,
         ⟨(some 20), none, .load 2 true (.t 19)⟩,
         ⟨(some 21), none, .mv (.t 1)⟩,
         ⟨(some 22), none, .mv (.t 5)⟩,
         ⟨(some 23), none, .iaddr 2 (.t 21) (.t 22)⟩,
         ⟨(some 24), none, .load 2 true (.t 23)⟩,
         ⟨(some 25), none, .eqA true [(.str []), (.str [])] (.t 20) (.t 24)⟩] true)
       (.cond (.t 25) (.seq (.ops [
          ⟨(some 4), none, .mv (.c (.bool false))⟩] false)
        (.ret))
       (.skip))))
     (.ops [
      ⟨(some 15), none, .mv (.t 5)⟩,
      ⟨(some 16), none, .bin .add (.t 15) (.c (.int .i64 1))⟩,
      ⟨(some 5), none, .mv (.t 16)⟩] false))))))
  (.seq (.ops [
    ⟨(some 4), none, .mv (.c (.bool true))⟩] false)
  (.ret))))) }
def irChSort (clone srt cmpM : Nat) : IFn :=
 { nt := 9, res := [.t 2], body := (
  .seq (.ops [
    ⟨(some 2), none, .mv (.c (.sl true 2 []))⟩] false)
  (.seq (.ops [
    ⟨(some 4), none, .mv (.t 0)⟩,
    ⟨(some 5), none, .call clone [(.t 4)]⟩,
    ⟨(some 3), none, .mv (.t 5)⟩] false)
  (.seq (.ops [
    ⟨(some 6), none, .mv (.t 3)⟩,
    ⟨(some 7), none, .call srt [(.t 6), (.c (.fn cmpM))]⟩] false)
  (.seq (.ops [
    ⟨(some 8), none, .mv (.t 3)⟩,
    ⟨(some 2), none, .mv (.t 8)⟩] false)
  (.ret))))) }
def irRcSort (tM : Nat) : IFn :=
 { nt := 51, res := [.t 2], body := (
  .seq (.ops [
    ⟨(some 2), none, .mv (.c (.sl true 2 []))⟩] false)
  (.seq (.ops [
    ⟨(some 3), none, .nilT 2 tM⟩] false)
  (.seq (.seq (.ops [
     ⟨(some 4), none, .mv (.c (.int .i64 0))⟩] false)
   (.blk 0 (.loop (.seq (.seq (.ops [
        ⟨(some 7), none, .mv (.t 4)⟩,
        ⟨(some 8), none, .mv (.t 0)⟩,
        ⟨(some 9), none, .lenL (.t 8)⟩,
        ⟨(some 10), none, .bin .lss (.t 7) (.t 9)⟩] false)
      (.cond (.t 10) (.skip)
      (.exit 0)))
     (.seq (.blk 1 (.seq (.ops [
         ⟨(some 13), none, .mv (.t 3)⟩,
         ⟨(some 14), none, .lenL (.t 13)⟩,
         ⟨(some 5), none, .mv (.t 14)⟩] false)
       (.seq (.blk 2 (.loop (.seq (.seq (.ops [
             ⟨(some 15), none, .mv (.t 5)⟩,
             ⟨(some 16), none, .bin .gtr (.t 15) (.c (.int .i64 0))⟩,
             ⟨(some 17), none, .mv (.t 16)⟩,
             ⟨(some 18), (some (17, true)), .mv (.t 3)⟩,
             ⟨(some 19), (some (17, true)), .mv (.t 5)⟩,
             ⟨(some 20), (some (17, true)), .bin .sub (.t 19) (.c (.int .i64 1))⟩,
             ⟨(some 21), (some (17, true)), .iaddr 2 (.t 18) (.t 20)⟩,
             ⟨(some 22), (some (17, true)), .faddr 0 (.t 21)⟩,
             ⟨(some 23), (some (17, true)), .load 1 false (.t 22)⟩,
             ⟨(some 24), (some (17, true)), .mv (.t 0)⟩,
             ⟨(some 25), (some (17, true)), .mv (.t 4)⟩,
             ⟨(some 26), (some (17, true)), .iaddr 2 (.t 24) (.t 25)⟩,
             ⟨(some 27), (some (17, true)), .faddr 0 (.t 26)⟩,
             ⟨(some 28), (some (17, true)), .load 1 false (.t 27)⟩,
             ⟨(some 29), (some (17, true)), .bin .gtr (.t 23) (.t 28)⟩,
             ⟨(some 30), none, .pick (.t 17) (.t 29) (.c (.bool false))⟩] true)
           (.cond (.t 30) (.skip)
           (.exit 2)))
          (.blk 3 (.ops [
            ⟨(some 31), none, .mv (.t 5)⟩,
            ⟨(some 32), none, .bin .sub (.t 31) (.c (.int .i64 1))⟩,
            ⟨(some 5), none, .mv (.t 32)⟩] false)))))
       (.seq (.ops [
         ⟨(some 6), none, .nilT 2 tM⟩] false)
       (.seq (.ops [
         ⟨(some 33), none, .mv (.t 6)⟩,
         ⟨(some 34), none, .mv (.t 3)⟩,
         ⟨(some 35), none, .mv (.t 5)⟩,
         ⟨(some 36), none, .slice 2 (.t 34) none (some (.t 35)) none⟩,
         ⟨(some 37), none, .app 2 32 tM (.t 33) (.t 36)⟩,
         ⟨(some 6), none, .mv (.t 37)⟩] false)
       (.seq (.ops [
         ⟨(some 38), none, .mv (.t 6)⟩,
         ⟨(some 39), none, .mv (.t 0)⟩,
         ⟨(some 40), none, .mv (.t 4)⟩,
         ⟨(some 41), none, .iaddr 2 (.t 39) (.t 40)⟩,
         ⟨(some 42), none, .load 2 true (.t 41)⟩,
         ⟨(some 43), none, .bslice 2 [(.t 42)]⟩,
         ⟨(some 44), none, .app 2 32 tM (.t 38) (.t 43)⟩,
         ⟨(some 6), none, .mv (.t 44)⟩] false)
       (.ops [
        ⟨(some 45), none, .mv (.t 6)⟩,
        ⟨(some 46), none, .mv (.t 3)⟩,
        ⟨(some 47), none, .mv (.t 5)⟩,
        ⟨(some 48), none, .slice 2 (.t 46) (some (.t 47)) none none⟩,
        ⟨(some 49), none, .app 2 32 tM (.t 45) (.t 48)⟩,
        ⟨(some 3), none, .mv (.t 49)⟩] false)))))))
     (.ops [
      ⟨(some 11), none, .mv (.t 4)⟩,
      ⟨(some 12), none, .bin .add (.t 11) (.c (.int .i64 1))⟩,
      ⟨(some 4), none, .mv (.t 12)⟩] false))))))
  (.seq (.ops [
    ⟨(some 50), none, .mv (.t 3)⟩,
    ⟨(some 2), none, .mv (.t 50)⟩] false)
  (.ret))))) }
def irChFind (idxF find1 ts : Nat) : IFn :=
 { nt := 8, res := [.t 4], body := (
  .seq (.ops [
    ⟨(some 3), none, .box ts 1 (.t 1)⟩,
    ⟨(some 4), none, .mv (.c (.int .i64 0))⟩] false)
  (.seq (.ops [
    ⟨(some 5), none, .mv (.t 0)⟩,
    ⟨(some 6), none, .mkfn (.func find1) [] [(.t 3)]⟩,
    ⟨(some 7), none, .call idxF [(.t 5), (.t 6)]⟩,
    ⟨(some 4), none, .mv (.t 7)⟩] false)
  (.ret))) }
def irRcFind : IFn :=
 { nt := 20, res := [.t 4], body := (
  .seq (.ops [
    ⟨(some 4), none, .mv (.c (.int .i64 0))⟩] false)
  (.seq (.seq (.ops [
     ⟨(some 5), none, .mv (.c (.int .i64 0))⟩] false)
   (.blk 0 (.loop (.seq (.seq (.ops [
        ⟨(some 6), none, .mv (.t 5)⟩,
        ⟨(some 7), none, .mv (.t 0)⟩,
        ⟨(some 8), none, .lenL (.t 7)⟩,
        ⟨(some 9), none, .bin .lss (.t 6) (.t 8)⟩] false)
      (.cond (.t 9) (.skip)
      (.exit 0)))
     (.seq (.blk 1 (.seq (.ops [
         ⟨(some 12), none, .mv (.t 0)⟩,
         ⟨(some 13), none, .mv (.t 5)⟩,
         ⟨(some 14), none, .iaddr 2 (.t 12) (.t 13)⟩,
         ⟨(some 15), none, .faddr 0 (.t 14)⟩,
         ⟨(some 16), none, .load 1 false (.t 15)⟩,
         ⟨(some 17), none, .mv (.t 1)⟩,
         ⟨(some 18), none, .bin .eql (.t 16) (.t 17)⟩] false)
       (.cond (.t 18) (.seq (.ops [
          ⟨(some 19), none, .mv (.t 5)⟩,
          ⟨(some 4), none, .mv (.t 19)⟩] false)
        (.ret))
       (.skip))))
     (.ops [
      ⟨(some 10), none, .mv (.t 5)⟩,
      ⟨(some 11), none, .bin .add (.t 10) (.c (.int .i64 1))⟩,
      ⟨(some 5), none, .mv (.t 11)⟩] false))))))
  (.seq (.ops [
    ⟨(some 4), none, .mv (.c (.int .i64 (-1)))⟩] false)
  (.ret)))) }
def irChCmp (cmpS tM : Nat) : IFn :=
 { nt := 10, res := [.t 4], body := (
  .seq (.ops [
    ⟨(some 2), none, .box tM 2 (.t 0)⟩,
    ⟨(some 3), none, .box tM 2 (.t 1)⟩,
    ⟨(some 4), none, .mv (.c (.int .i64 0))⟩] false)
  (.seq (.ops [
    ⟨(some 5), none, .faddr 0 (.t 2)⟩,
    ⟨(some 6), none, .load 1 false (.t 5)⟩,
    ⟨(some 7), none, .faddr 0 (.t 3)⟩,
    ⟨(some 8), none, .load 1 false (.t 7)⟩,
    ⟨(some 9), none, .call cmpS [(.t 6), (.t 8)]⟩,
    ⟨(some 4), none, .mv (.t 9)⟩] false)
  (.ret))) }
def irChFind1 (tM : Nat) : IFn :=
 { nt := 8, res := [.t 3], body := (
  .seq (.ops [
    ⟨(some 2), none, .box tM 2 (.t 0)⟩,
    ⟨(some 3), none, .mv (.c (.bool false))⟩] false)
  (.seq (.ops [
    ⟨(some 4), none, .faddr 0 (.t 2)⟩,
    ⟨(some 5), none, .load 1 false (.t 4)⟩,
    ⟨(some 6), none, .load 1 false (.t 1)⟩,
    ⟨(some 7), none, .bin .eql (.t 5) (.t 6)⟩,
    ⟨(some 3), none, .mv (.t 7)⟩] false)
  (.ret))) }

def irRcApply (rfind rapply tM : Nat) : IFn :=
 { nt := 69, res := [.t 4, .t 5], body := (
  .seq (.ops [
    ⟨(some 4), none, .mv (.c (.sl true 2 []))⟩,
    ⟨(some 5), none, .mv (.c (.int .i64 0))⟩] false)
  (.seq (.ops [
    ⟨(some 6), none, .mv (.c (.sl true 2 []))⟩] false)
  (.seq (.ops [
    ⟨(some 12), none, .mv (.t 6)⟩,
    ⟨(some 13), none, .mv (.t 0)⟩,
    ⟨(some 14), none, .appV 2 32 tM (.t 12) (.t 13)⟩,
    ⟨(some 6), none, .mv (.t 14)⟩] false)
  (.seq (.seq (.ops [
     ⟨(some 7), none, .mv (.c (.int .i64 0))⟩] false)
   (.blk 0 (.loop (.seq (.seq (.ops [
        ⟨(some 15), none, .mv (.t 7)⟩,
        ⟨(some 16), none, .mv (.t 1)⟩,
        ⟨(some 17), none, .lenL (.t 16)⟩,
        ⟨(some 18), none, .bin .lss (.t 15) (.t 17)⟩] false)
      (.cond (.t 18) (.skip)
      (.exit 0)))
     (.seq (.blk 1 (.seq (.ops [
         ⟨(some 21), none, .mv (.t 6)⟩,
         ⟨(some 22), none, .mv (.t 1)⟩,
         ⟨(some 23), none, .mv (.t 7)⟩,
         ⟨(some 24), none, .iaddr 2 (.t 22) (.t 23)⟩,
         ⟨(some 25), none, .faddr 0 (.t 24)⟩,
         ⟨(some 26), none, .load 1 false (.t 25)⟩,
         ⟨(some 27), none, .call rfind [(.t 21), (.t 26)]⟩,
         ⟨(some 8), none, .mv (.t 27)⟩] false)
       (.seq (.seq (.ops [
          ⟨(some 28), none, .mv (.t 8)⟩,
          ⟨(some 29), none, .bin .lss (.t 28) (.c (.int .i64 0))⟩] false)
        (.cond (.t 29) (.seq (.ops [
           ⟨(some 4), none, .mv (.c (.sl true 2 []))⟩,
           ⟨(some 5), none, .mv (.c (.int .i64 32))⟩] false)
         (.ret))
        (.skip)))
       (.seq (.seq (.ops [
          ⟨(some 9), none, .mv (.c (.int .i64 0))⟩] false)
        (.blk 2 (.loop (.seq (.seq (.ops [
             ⟨(some 30), none, .mv (.t 9)⟩,
             ⟨(some 31), none, .mv (.t 7)⟩,
             ⟨(some 32), none, .bin .lss (.t 30) (.t 31)⟩] false)
           (.cond (.t 32) (.skip)
           (.exit 2)))
          (.seq (.blk 3 (.seq (.ops [
              ⟨(some 35), none, .mv (.t 1)⟩,
              ⟨(some 36), none, .mv (.t 9)⟩,
              ⟨(some 37), none, .iaddr 2 (.t 35) (.t 36)⟩,
              ⟨(some 38), none, .faddr 0 (.t 37)⟩,
              ⟨(some 39), none, .load 1 false (.t 38)⟩,
              ⟨(some 40), none, .mv (.t 1)⟩,
              ⟨(some 41), none, .mv (.t 7)⟩,
              ⟨(some 42), none, .iaddr 2 (.t 40) (.t 41)⟩,
              ⟨(some 43), none, .faddr 0 (.t 42)⟩,
              ⟨(some 44), none, .load 1 false (.t 43)⟩,
              ⟨(some 45), none, .bin .eql (.t 39) (.t 44)⟩] true)
            (.cond (.t 45) (.seq (.ops [
               ⟨(some 4), none, .mv (.c (.sl true 2 []))⟩,
               ⟨(some 5), none, .mv (.c (.int .i64 4))⟩] false)
             (.ret))
            (.skip))))
          (.ops [
           ⟨(some 33), none, .mv (.t 9)⟩,
           ⟨(some 34), none, .bin .add (.t 33) (.c (.int .i64 1))⟩,
           ⟨(some 9), none, .mv (.t 34)⟩] false))))))
       (.seq (.ops [
         ⟨(some 47), none, .mv (.t 6)⟩,
         ⟨(some 48), none, .mv (.t 8)⟩,
         ⟨(some 49), none, .iaddrV 2 (.t 47) (.t 48)⟩,
         ⟨(some 50), none, .faddr 1 (.t 49)⟩,
         ⟨(some 51), none, .loadV 1 false (.t 50)⟩,
         ⟨(some 52), none, .mv (.t 1)⟩,
         ⟨(some 53), none, .mv (.t 7)⟩,
         ⟨(some 54), none, .iaddr 2 (.t 52) (.t 53)⟩,
         ⟨(some 55), none, .faddr 1 (.t 54)⟩,
         ⟨(some 56), none, .load 1 false (.t 55)⟩,
         ⟨(some 57), none, .call rapply [(.t 51), (.t 56)]⟩,
         ⟨(some 46), none, .mv (.t 57)⟩,
         ⟨(some 58), none, .ext (.t 46) 0⟩,
         ⟨(some 59), none, .ext (.t 46) 1⟩,
         ⟨(some 10), none, .mv (.t 58)⟩,
         ⟨(some 11), none, .mv (.t 59)⟩] true)
       (.seq (.seq (.ops [
          ⟨(some 60), none, .mv (.t 11)⟩,
          ⟨(some 61), none, .bin .neq (.t 60) (.c (.int .i64 0))⟩] false)
        (.cond (.t 61) (.seq (.ops [
           ⟨(some 62), none, .mv (.t 11)⟩,
           ⟨(some 4), none, .mv (.c (.sl true 2 []))⟩,
           ⟨(some 5), none, .mv (.t 62)⟩] false)
         (.ret))
        (.skip)))
       (.ops [
        ⟨(some 63), none, .mv (.t 6)⟩,
        ⟨(some 64), none, .mv (.t 8)⟩,
        ⟨(some 65), none, .mv (.t 10)⟩,
        ⟨(some 66), none, .iaddrV 2 (.t 63) (.t 64)⟩,
        ⟨(some 67), none, .faddr 1 (.t 66)⟩,
        ⟨none, none, .store 1 (.t 67) (.t 65)⟩] false)))))))
     (.ops [
      ⟨(some 19), none, .mv (.t 7)⟩,
      ⟨(some 20), none, .bin .add (.t 19) (.c (.int .i64 1))⟩,
      ⟨(some 7), none, .mv (.t 20)⟩] false))))))
  (.seq (.ops [
    ⟨(some 68), none, .mv (.t 6)⟩,
    ⟨(some 4), none, .mv (.t 68)⟩,
    ⟨(some 5), none, .mv (.c (.int .i64 0))⟩] false)
  (.ret)))))) }
def irRcFindV : IFn :=
 { nt := 20, res := [.t 4], body := (
  .seq (.ops [
    ⟨(some 4), none, .mv (.c (.int .i64 0))⟩] false)
  (.seq (.seq (.ops [
     ⟨(some 5), none, .mv (.c (.int .i64 0))⟩] false)
   (.blk 0 (.loop (.seq (.seq (.ops [
        ⟨(some 6), none, .mv (.t 5)⟩,
        ⟨(some 7), none, .mv (.t 0)⟩,
        ⟨(some 8), none, .lenL (.t 7)⟩,
        ⟨(some 9), none, .bin .lss (.t 6) (.t 8)⟩] false)
      (.cond (.t 9) (.skip)
      (.exit 0)))
     (.seq (.blk 1 (.seq (.ops [
         ⟨(some 12), none, .mv (.t 0)⟩,
         ⟨(some 13), none, .mv (.t 5)⟩,
         ⟨(some 14), none, .iaddrV 2 (.t 12) (.t 13)⟩,
         ⟨(some 15), none, .faddr 0 (.t 14)⟩,
         ⟨(some 16), none, .loadV 1 false (.t 15)⟩,
         ⟨(some 17), none, .mv (.t 1)⟩,
         ⟨(some 18), none, .bin .eql (.t 16) (.t 17)⟩] false)
       (.cond (.t 18) (.seq (.ops [
          ⟨(some 19), none, .mv (.t 5)⟩,
          ⟨(some 4), none, .mv (.t 19)⟩] false)
        (.ret))
       (.skip))))
     (.ops [
      ⟨(some 10), none, .mv (.t 5)⟩,
      ⟨(some 11), none, .bin .add (.t 10) (.c (.int .i64 1))⟩,
      ⟨(some 5), none, .mv (.t 11)⟩] false))))))
  (.seq (.ops [
    ⟨(some 4), none, .mv (.c (.int .i64 (-1)))⟩] false)
  (.ret)))) }

def irRcApply0 (rfind rapply tM : Nat) : IFn :=
 { nt := 69, res := [.t 4, .t 5], body := (
  .seq (.ops [
    ⟨(some 4), none, .mv (.c (.sl true 2 []))⟩,
    ⟨(some 5), none, .mv (.c (.int .i64 0))⟩] false)
  (.seq (.ops [
    ⟨(some 6), none, .nilT 2 tM⟩] false)
  (.seq (.ops [
    ⟨(some 12), none, .mv (.t 6)⟩,
    ⟨(some 13), none, .mv (.t 0)⟩,
    ⟨(some 14), none, .app 2 32 tM (.t 12) (.t 13)⟩,
    ⟨(some 6), none, .mv (.t 14)⟩] false)
  (.seq (.seq (.ops [
     ⟨(some 7), none, .mv (.c (.int .i64 0))⟩] false)
   (.blk 0 (.loop (.seq (.seq (.ops [
        ⟨(some 15), none, .mv (.t 7)⟩,
        ⟨(some 16), none, .mv (.t 1)⟩,
        ⟨(some 17), none, .lenL (.t 16)⟩,
        ⟨(some 18), none, .bin .lss (.t 15) (.t 17)⟩] false)
      (.cond (.t 18) (.skip)
      (.exit 0)))
     (.seq (.blk 1 (.seq (.ops [
         ⟨(some 21), none, .mv (.t 6)⟩,
         ⟨(some 22), none, .mv (.t 1)⟩,
         ⟨(some 23), none, .mv (.t 7)⟩,
         ⟨(some 24), none, .iaddr 2 (.t 22) (.t 23)⟩,
         ⟨(some 25), none, .faddr 0 (.t 24)⟩,
         ⟨(some 26), none, .load 1 false (.t 25)⟩,
         ⟨(some 27), none, .call rfind [(.t 21), (.t 26)]⟩,
         ⟨(some 8), none, .mv (.t 27)⟩] false)
       (.seq (.seq (.ops [
          ⟨(some 28), none, .mv (.t 8)⟩,
          ⟨(some 29), none, .bin .lss (.t 28) (.c (.int .i64 0))⟩] false)
        (.cond (.t 29) (.seq (.ops [
           ⟨(some 4), none, .mv (.c (.sl true 2 []))⟩,
           ⟨(some 5), none, .mv (.c (.int .i64 32))⟩] false)
         (.ret))
        (.skip)))
       (.seq (.seq (.ops [
          ⟨(some 9), none, .mv (.c (.int .i64 0))⟩] false)
        (.blk 2 (.loop (.seq (.seq (.ops [
             ⟨(some 30), none, .mv (.t 9)⟩,
             ⟨(some 31), none, .mv (.t 7)⟩,
             ⟨(some 32), none, .bin .lss (.t 30) (.t 31)⟩] false)
           (.cond (.t 32) (.skip)
           (.exit 2)))
          (.seq (.blk 3 (.seq (.ops [
              ⟨(some 35), none, .mv (.t 1)⟩,
              ⟨(some 36), none, .mv (.t 9)⟩,
              ⟨(some 37), none, .iaddr 2 (.t 35) (.t 36)⟩,
              ⟨(some 38), none, .faddr 0 (.t 37)⟩,
              ⟨(some 39), none, .load 1 false (.t 38)⟩,
              ⟨(some 40), none, .mv (.t 1)⟩,
              ⟨(some 41), none, .mv (.t 7)⟩,
              ⟨(some 42), none, .iaddr 2 (.t 40) (.t 41)⟩,
              ⟨(some 43), none, .faddr 0 (.t 42)⟩,
              ⟨(some 44), none, .load 1 false (.t 43)⟩,
              ⟨(some 45), none, .bin .eql (.t 39) (.t 44)⟩] true)
            (.cond (.t 45) (.seq (.ops [
               ⟨(some 4), none, .mv (.c (.sl true 2 []))⟩,
               ⟨(some 5), none, .mv (.c (.int .i64 4))⟩] false)
             (.ret))
            (.skip))))
          (.ops [
           ⟨(some 33), none, .mv (.t 9)⟩,
           ⟨(some 34), none, .bin .add (.t 33) (.c (.int .i64 1))⟩,
           ⟨(some 9), none, .mv (.t 34)⟩] false))))))
       (.seq (.ops [
         ⟨(some 47), none, .mv (.t 6)⟩,
         ⟨(some 48), none, .mv (.t 8)⟩,
         ⟨(some 49), none, .iaddr 2 (.t 47) (.t 48)⟩,
         ⟨(some 50), none, .faddr 1 (.t 49)⟩,
         ⟨(some 51), none, .load 1 false (.t 50)⟩,
         ⟨(some 52), none, .mv (.t 1)⟩,
         ⟨(some 53), none, .mv (.t 7)⟩,
         ⟨(some 54), none, .iaddr 2 (.t 52) (.t 53)⟩,
         ⟨(some 55), none, .faddr 1 (.t 54)⟩,
         ⟨(some 56), none, .load 1 false (.t 55)⟩,
         ⟨(some 57), none, .call rapply [(.t 51), (.t 56)]⟩,
         ⟨(some 46), none, .mv (.t 57)⟩,
         ⟨(some 58), none, .ext (.t 46) 0⟩,
         ⟨(some 59), none, .ext (.t 46) 1⟩,
         ⟨(some 10), none, .mv (.t 58)⟩,
         ⟨(some 11), none, .mv (.t 59)⟩] true)
       (.seq (.seq (.ops [
          ⟨(some 60), none, .mv (.t 11)⟩,
          ⟨(some 61), none, .bin .neq (.t 60) (.c (.int .i64 0))⟩] false)
        (.cond (.t 61) (.seq (.ops [
           ⟨(some 62), none, .mv (.t 11)⟩,
           ⟨(some 4), none, .mv (.c (.sl true 2 []))⟩,
           ⟨(some 5), none, .mv (.t 62)⟩] false)
         (.ret))
        (.skip)))
       (.ops [
        ⟨(some 63), none, .mv (.t 6)⟩,
        ⟨(some 64), none, .mv (.t 8)⟩,
        ⟨(some 65), none, .mv (.t 10)⟩,
        ⟨(some 66), none, .iaddr 2 (.t 63) (.t 64)⟩,
        ⟨(some 67), none, .faddr 1 (.t 66)⟩,
        ⟨none, none, .store 1 (.t 67) (.t 65)⟩] false)))))))
     (.ops [
      ⟨(some 19), none, .mv (.t 7)⟩,
      ⟨(some 20), none, .bin .add (.t 19) (.c (.int .i64 1))⟩,
      ⟨(some 7), none, .mv (.t 20)⟩] false))))))
  (.seq (.ops [
    ⟨(some 68), none, .mv (.t 6)⟩,
    ⟨(some 4), none, .mv (.t 68)⟩,
    ⟨(some 5), none, .mv (.c (.int .i64 0))⟩] false)
  (.ret)))))) }

end Go.Zam

namespace Go.Zam
set_option linter.all false

theorem typed_str {P : Program} {n : Nat} {t : TypeId} {ds : List D} (hu : P.underlying t = some .string) (h : Typed P n t ds) : ∃ s, ds = [.str s] := by
  cases n with
  | zero => exact h.elim
  | succ n => simpa only [Typed, hu] using h

theorem typed_int {P : Program} {n : Nat} {t : TypeId} {k : IntKind} {ds : List D} (hu : P.underlying t = some (.int k)) (h : Typed P n t ds) : ∃ x, ds = [.int k x] := by
  cases n with
  | zero => exact h.elim
  | succ n =>
    simp only [Typed, hu] at h
    exact ⟨h.choose, h.choose_spec.1⟩

theorem rows_of {P : Program} {t : TypeId} {α : Type} {enc : α → List D} (hE : ∀ n ds, Typed P n t ds → ∃ a, ds = enc a) {n : Nat} {rows : List (List D)} (h : ∀ r ∈ rows, Typed P n t r) : ∃ l : List α, rows = l.map enc := by
  induction rows with
  | nil => exact ⟨[], rfl⟩
  | cons r rows ih =>
    obtain ⟨l, rfl⟩ := ih fun r hr => h r (by simp [hr])
    obtain ⟨a, rfl⟩ := hE n r (h r (by simp))
    exact ⟨a :: l, rfl⟩

theorem typed_sl {P : Program} {t e : TypeId} {α : Type} {enc : α → List D} (hu : P.underlying t = some (.slice e)) {sz : Nat} (hs : P.cellsOf e = sz) (hE : ∀ n ds, Typed P n e ds → ∃ a, ds = enc a) {n : Nat} {ds : List D} (h : Typed P n t ds) : ∃ z, ∃ l : List α, ds = [.sl z sz (l.map enc)] := by
  cases n with
  | zero => exact h.elim
  | succ n =>
    simp only [Typed, hu] at h
    obtain ⟨z, rows, rfl, hr⟩ := h
    obtain ⟨l, rfl⟩ := rows_of hE hr
    exact ⟨z, l, by rw [hs]⟩

theorem typed_struct {P : Program} {t : TypeId} {fs : Array Field} {n : Nat} {ds : List D} (hu : P.underlying t = some (.struct fs)) (h : Typed P n t ds) : ∃ n', TypedFs (Typed P n') fs.toList ds := by
  cases n with
  | zero => exact h.elim
  | succ n => exact ⟨n, by simpa only [Typed, hu] using h⟩

theorem argOf_one {P : Program} {t : TypeId} {x : D} {a : A} (hu : ∀ fs, P.underlying t ≠ some (.struct fs)) (h : ArgOf P t [x] a) : a = .d x := by
  unfold ArgOf at h
  split at h
  · rename_i fs e; exact absurd e (hu fs)
  · obtain ⟨y, hy, rfl⟩ := h
    simp at hy; rw [hy]

theorem bulkR_mem {rows : List (List D)} {r : List D} (h : r ∈ rows) : D.bulkC r ≤ D.bulkR rows := by
  induction rows with
  | nil => simp at h
  | cons x rows ih =>
    simp only [D.bulkR]
    rcases List.mem_cons.1 h with rfl | h
    · omega
    · have := ih h; omega

theorem bulkR_len {α : Type} {enc : α → List D} (he : ∀ a, 1 ≤ D.bulkC (enc a)) : ∀ l : List α, l.length ≤ D.bulkR (l.map enc)
  | [] => by simp
  | a :: l => by
    have := bulkR_len he l
    have := he a
    simp only [List.length_cons, List.map_cons, D.bulkR]; omega

end Go.Zam

namespace Go.Zam
set_option linter.all false

end Go.Zam

namespace Go.Zam
open Go.RowKit Go.ChangeShapes Go.WideShapes
set_option linter.all false

section
variable {X : Type} {enc : TypeId × Value → X} {P : Program} {W : World}

end
end Go.Zam

namespace Go.Zam
set_option linter.all false
set_option maxRecDepth 100000
set_option maxHeartbeats 1000000

/-- does not speak of an object -/
def A.off0 (i : Nat) : A → Bool
  | .d _ | .eptr _ | .cun | .undef => true
  | .osl _ _ _ t => decide (t ≠ i)
  | .msl j _ _ | .vsl j _ _ | .vso j _ _ _ | .vptr j _ _ _ | .ptr j _ | .aptr j _ _ | .map j => decide (j ≠ i)
  | .agg _ | .tup _ | .fn .. => false

def A.off (i : Nat) : A → Bool
  | .agg cs => cs.all (A.off0 i)
  | .tup cs => cs.all (A.off0 i)
  | .fn _ a b => a.all (A.off0 i) && b.all (A.off0 i)
  | x => x.off0 i

def Ob.off (i : Nat) : Ob → Bool
  | .box _ cs => cs.all (A.off i)
  | .arr _ rows => rows.all fun r => r.all (A.off i)
  | .mp l => l.all fun e => e.2.off i
  | _ => true

section
variable {κ κ' : K} {i j : Nat}

theorem VR.off0 (hσ : κ'.σ = κ.σ) (hβ : ∀ m, m ≠ i → m ≠ j → κ'.β m = κ.β m) {v : Value} {a : A} (h : VR κ v a) (hi : a.off0 i = true) (hj : a.off0 j = true) : VR κ' v a := by
  cases h with
  | d h => exact .d (hσ ▸ h)
  | agg vs xs hl' h => simp [A.off0] at hi
  | tup vs xs hl' h => simp [A.off0] at hi
  | osl h ht => simp [A.off0] at hi hj; exact .osl (hσ ▸ h) (by rw [hβ _ hi hj]; exact ht)
  | msl m off len b sz o cap hb h1 h2 h3 => simp [A.off0] at hi hj; exact .msl m off len b sz o cap (by rw [hβ _ hi hj]; exact hb) h1 h2 h3
  | vsl m k len ad cap h0 hf => simp [A.off0] at hi hj; exact .vsl m k len ad cap h0 (by rw [hβ _ hi hj]; exact hf)
  | vso m k off len ad cap h0 hf => simp [A.off0] at hi hj; exact .vso m k off len ad cap h0 (by rw [hβ _ hi hj]; exact hf)
  | vptr m k idx off b o hf => simp [A.off0] at hi hj; exact .vptr m k idx off b o (by rw [hβ _ hi hj]; exact hf)
  | ptr m off b hb => simp [A.off0] at hi hj; exact .ptr m off b (by rw [hβ _ hi hj]; exact hb)
  | aptr m idx off b sz hb => simp [A.off0] at hi hj; exact .aptr m idx off b sz (by rw [hβ _ hi hj]; exact hb)
  | eptr cells b o f hc hd => exact .eptr cells b o f (by rw [hσ]; exact hc) (by rw [hσ]; exact hd)
  | fn f vs1 vs2 as1 as2 hl1 hl2 h1 h2 => simp [A.off0] at hi
  | map m b hb => simp [A.off0] at hi hj; exact .map m b (by rw [hβ _ hi hj]; exact hb)
  | cun v h => exact .cun v h
  | undef v => exact .undef v

theorem VR.off (hσ : κ'.σ = κ.σ) (hβ : ∀ m, m ≠ i → m ≠ j → κ'.β m = κ.β m) {v : Value} {a : A} (h : VR κ v a) (hi : a.off i = true) (hj : a.off j = true) : VR κ' v a := by
  cases h with
  | agg vs xs hl' h =>
    simp only [A.off, List.all_eq_true] at hi hj
    exact .agg vs xs hl' fun m v a hv ha => (h m v a hv ha).off0 hσ hβ (hi a (List.mem_of_getElem? ha)) (hj a (List.mem_of_getElem? ha))
  | tup vs xs hl' h =>
    simp only [A.off, List.all_eq_true] at hi hj
    exact .tup vs xs hl' fun m v a hv ha => (h m v a hv ha).off0 hσ hβ (hi a (List.mem_of_getElem? ha)) (hj a (List.mem_of_getElem? ha))
  | fn f vs1 vs2 as1 as2 hl1 hl2 h1 h2 =>
    simp only [A.off, Bool.and_eq_true, List.all_eq_true] at hi hj
    exact .fn f vs1 vs2 as1 as2 hl1 hl2 (fun m v a hv ha => (h1 m v a hv ha).off0 hσ hβ (hi.1 a (List.mem_of_getElem? ha)) (hj.1 a (List.mem_of_getElem? ha)))
      (fun m v a hv ha => (h2 m v a hv ha).off0 hσ hβ (hi.2 a (List.mem_of_getElem? ha)) (hj.2 a (List.mem_of_getElem? ha)))
  | d h => exact VR.off0 (i := i) (j := j) hσ hβ (.d h) hi hj
  | osl h ht => exact VR.off0 hσ hβ (.osl h ht) hi hj
  | msl m off len b sz o cap hb h1 h2 h3 => exact VR.off0 hσ hβ (.msl m off len b sz o cap hb h1 h2 h3) hi hj
  | vsl m k len ad cap h0 hf => exact VR.off0 hσ hβ (.vsl m k len ad cap h0 hf) hi hj
  | vso m k off len ad cap h0 hf => exact VR.off0 hσ hβ (.vso m k off len ad cap h0 hf) hi hj
  | vptr m k idx off b o hf => exact VR.off0 hσ hβ (.vptr m k idx off b o hf) hi hj
  | ptr m off b hb => exact VR.off0 hσ hβ (.ptr m off b hb) hi hj
  | aptr m idx off b sz hb => exact VR.off0 hσ hβ (.aptr m idx off b sz hb) hi hj
  | eptr cells b o f hc hd => exact VR.off0 (i := i) (j := j) hσ hβ (.eptr cells b o f hc hd) hi hj
  | map m b hb => exact VR.off0 hσ hβ (.map m b hb) hi hj
  | cun v h => exact .cun v h
  | undef v => exact .undef v

theorem OR.off (hσ : κ'.σ = κ.σ) (hw0 : κ'.w0 = κ.w0) (hβ : ∀ m, m ≠ i → m ≠ j → κ'.β m = κ.β m) {w : World} {m : Nat} {x : Ob} (hmi : m ≠ i) (hmj : m ≠ j) (h : OR κ w m x) (hi : x.off i = true) (hj : x.off j = true) : OR κ' w m x := by
  have hb := hβ m hmi hmj
  cases x with
  | box ty cs =>
    simp only [Ob.off, List.all_eq_true] at hi hj
    obtain ⟨b, h1, hsh, h2⟩ := h
    refine ⟨b, hb.trans h1, hsh, fun q a ha => ?_⟩
    obtain ⟨v, h3, h4, h5⟩ := h2 q a ha
    exact ⟨v, h3, h4, h5.off hσ hβ (hi a (List.mem_of_getElem? ha)) (hj a (List.mem_of_getElem? ha))⟩
  | arr sz rows =>
    simp only [Ob.off, List.all_eq_true] at hi hj
    obtain ⟨b, s, h1, hs, h2⟩ := h
    refine ⟨b, s, hb.trans h1, hs, fun k r hr => ⟨(h2 k r hr).1, fun q a ha => ?_⟩⟩
    obtain ⟨v, h3, h4, h5⟩ := (h2 k r hr).2 q a ha
    exact ⟨v, h3, h4, h5.off hσ hβ (hi r (List.mem_of_getElem? hr) a (List.mem_of_getElem? ha)) (hj r (List.mem_of_getElem? hr) a (List.mem_of_getElem? ha))⟩
  | tok n sz ty =>
    rcases h with ⟨h1, h2⟩ | ⟨b, e, c, cur, lo, hi', h1, h2⟩
    · exact .inl ⟨hb.trans h1, h2⟩
    · exact .inr ⟨b, e, c, cur, lo, hi', hb.trans h1, h2⟩
  | vec sz ty k rows =>
    rcases h with ⟨h1, h2⟩ | ⟨b, c, cur, h1, h2, h3, h4, h5⟩
    · exact .inl ⟨hb.trans h1, h2⟩
    · exact .inr ⟨b, c, cur, hb.trans h1, h2, h3, h4, by rw [hσ]; exact h5⟩
  | vco sz ty k rows =>
    obtain ⟨b, c, cur, o, h1, h2, h3, h4, h5⟩ := h
    exact ⟨b, c, cur, o, hb.trans h1, h2, h3, h4, by rw [hσ]; exact h5⟩
  | mp l =>
    simp only [Ob.off, List.all_eq_true] at hi hj
    obtain ⟨b, es, clock, h1, h2, h3, h4⟩ := h
    refine ⟨b, es, clock, hb.trans h1, h2, h3, fun q x hx => ?_⟩
    obtain ⟨e, h5, h6, h7⟩ := h4 q x hx
    exact ⟨e, h5, by rw [hσ]; exact h6, h7.off hσ hβ (hi x (List.mem_of_getElem? hx)) (hj x (List.mem_of_getElem? hx))⟩
  | dead => trivial
  | glob g cs => obtain ⟨ty, fr, h1⟩ := h; exact ⟨ty, fr, hw0 ▸ h1⟩

end

end Go.Zam

namespace Go.Zam
set_option linter.all false
set_option maxRecDepth 100000

theorem rowAt_map {α : Type} (f : α → List D) {l : List α} {i : Nat} (h : i < l.length) : Zam.rowAt (l.map f) (i : Int) = some (f l[i]) := by
  simp [Zam.rowAt, h]

/-- what a round of a range hands on -/
def NextK (J : Nat → Fr → Hp → Prop) (_ : Tag J) (m n si sn st : Nat) (i : Nat) (fr : Fr) (H : Hp) : Prop :=
  fr si = .d (.int .i64 (i : Int)) ∧ fr sn = .d (.int .i64 (n : Int)) ∧ ∃ k, m ≤ k ∧ k ≤ H.length ∧ J (i + 1) (Fr.clr k ((fr.set st (.d (.int .i64 ((i : Int) + 1)))).set si (.d (.int .i64 ((i : Int) + 1))))) (Hp.cut k H)

@[congr] theorem NextK_congr {J : Nat → Fr → Hp → Prop} {t : Tag J} {m n si sn st i : Nat} {fr fr' : Fr} {H H' : Hp} (h : fr = fr') (h2 : H = H') : NextK J t m n si sn st i fr H = NextK J t m n si sn st i fr' H' := by rw [h, h2]

theorem NextK_of {J : Nat → Fr → Hp → Prop} {t : Tag J} {m n si sn st i : Nat} {fr : Fr} {H : Hp} (k : Nat) (hk : m ≤ k) (h : k ≤ H.length ∧ fr si = .d (.int .i64 (i : Int)) ∧ fr sn = .d (.int .i64 (n : Int)))
    (hj : J (i + 1) (Fr.clr k ((fr.set st (.d (.int .i64 ((i : Int) + 1)))).set si (.d (.int .i64 ((i : Int) + 1))))) (Hp.cut k H)) : NextK J t m n si sn st i fr H :=
  ⟨h.2.1, h.2.2, k, hk, h.1, hj⟩

def rangeC (si sn sb st b c : Nat) (body : C) : C :=
  .seq (.ops [⟨some sb, none, .bin .lss (.t si) (.t sn)⟩] false) (.seq (.cond (.t sb) .skip (.exit b)) (.seq (.blk c body) (.ops [⟨some st, none, .bin .add (.t si) (.c (.int .i64 1))⟩, ⟨some si, none, .mv (.t st)⟩] false)))

/-- A LOOP OVER THE ROWS OF A SLICE -/
theorem RangeK_of {P : Program} {n0 : Nat} {Q : Ex → Fr → Hp → Prop} {fr : Fr} {H : Hp} {si sn sb st b c : Nat} {body : C} {t : Tag (Q, rangeC si sn sb st b c body)} (m n : Nat) (J : Nat → Fr → Hp → Prop) (hn : n ≤ 4611686018427387904)
    (hne : (si ≠ sn ∧ si ≠ sb ∧ sn ≠ sb) ∧ (sb ≠ st ∧ sn ≠ st)) (h1 : n0 ≤ m ∧ m ≤ H.length) (h2 : fr si = .d (.int .i64 0) ∧ fr sn = .d (.int .i64 (n : Int))) (h3 : J 0 (fr.clr m) (Hp.cut m H))
    (h4 : ∀ i fr H, i < n → fr si = .d (.int .i64 (i : Int)) → fr sn = .d (.int .i64 (n : Int)) → J i fr H →
      AWp P n0 body (Ex.blk c (Ex.then (NextK J .mk m n si sn st i) Q)) (fr.set sb (.d (.bool true))) H)
    (h5 : ∀ fr H, fr si = .d (.int .i64 (n : Int)) → fr sn = .d (.int .i64 (n : Int)) → J n fr H → Q (.exit b) (fr.set sb (.d (.bool false))) H) :
    LoopK Q (rangeC si sn sb st b c body) t P n0 fr H := by
  obtain ⟨⟨n1, n2, n3⟩, n4, n5⟩ := hne
  refine LoopK_of m (fun fr H => ∃ i : Nat, i ≤ n ∧ fr si = .d (.int .i64 (i : Int)) ∧ fr sn = .d (.int .i64 (n : Int)) ∧ J i fr H) (fun fr H => match fr si with | .d (.int _ k) => (n - k).toNat | _ => 0) h1
    ⟨0, Nat.zero_le _, by simp [h2.1], by simp [h2.2], h3⟩ ?_
  rintro fr H ⟨i, hi, f1, f2, hj⟩
  simp [rangeC, f1, f2]
  refine BrK_split (fun h => ?_) (fun h => ?_)
  · have hlt : i < n := by simpa using h
    have hw : IntKind.i64.wrap ((i : Int) + 1) = i + 1 := wrap_i64 (by omega) (by omega)
    have hd : decide (i < n) = true := by simpa using hlt
    rw [hd]
    simp only [AWp_skip, then_normal, AWp_seq, AWp_blk]
    refine AWp.mono _ ?_ _ _ (h4 i fr H hlt f1 f2 hj)
    intro e fr' H' h
    have fin : NextK J .mk m n si sn st i fr' H' → Ex.then (AWp P n0 (.ops [⟨some st, none, .bin .add (.t si) (.c (.int .i64 1))⟩, ⟨some si, none, .mv (.t st)⟩] false) (Ex.then (Again m (fun fr H => ∃ i : Nat, i ≤ n ∧ fr si = .d (.int .i64 (i : Int)) ∧ fr sn = .d (.int .i64 (n : Int)) ∧ J i fr H) (fun fr H => match fr si with | .d (.int _ k) => (n - k).toNat | _ => 0) (n - i)) Q)) (Ex.then (Again m (fun fr H => ∃ i : Nat, i ≤ n ∧ fr si = .d (.int .i64 (i : Int)) ∧ fr sn = .d (.int .i64 (n : Int)) ∧ J i fr H) (fun fr H => match fr si with | .d (.int _ k) => (n - k).toNat | _ => 0) (n - i)) Q) Ex.normal fr' H' := by
      rintro ⟨g1, g2, k, k1, k2, k3⟩
      simp [g1, hw]
      refine AgainK_ofk k k1 k2 ⟨i + 1, by omega, by simp, by simp [n1.symm, n5, g2], ?_⟩ ?_
      · exact k3
      · simp; omega
    cases e with
    | normal => exact fin h
    | exit j =>
      simp only [blk_exit] at h ⊢
      by_cases hj : j = c
      · rw [if_pos hj] at h ⊢; exact fin h
      · rw [if_neg hj] at h ⊢; exact h
    | ret => exact h
  · have : i = n := by have : ¬ i < n := by simpa using h
                       omega
    subst this
    simp
    exact h5 fr H f1 f2 hj

/-- what a round of a counted loop hands on -/
def NextF (J : Nat → Fr → Hp → Prop) (_ : Tag J) (m n si su sv : Nat) (i : Nat) (fr : Fr) (H : Hp) : Prop :=
  fr si = .d (.int .i64 (i : Int)) ∧ i < n ∧ ∃ k, m ≤ k ∧ k ≤ H.length ∧ J (i + 1) (Fr.clr k (((fr.set su (.d (.int .i64 (i : Int)))).set sv (.d (.int .i64 ((i : Int) + 1)))).set si (.d (.int .i64 ((i : Int) + 1))))) (Hp.cut k H)

@[congr] theorem NextF_congr {J : Nat → Fr → Hp → Prop} {t : Tag J} {m n si su sv i : Nat} {fr fr' : Fr} {H H' : Hp} (h : fr = fr') (h2 : H = H') : NextF J t m n si su sv i fr H = NextF J t m n si su sv i fr' H' := by rw [h, h2]

theorem NextF_of {J : Nat → Fr → Hp → Prop} {t : Tag J} {m n si su sv i : Nat} {fr : Fr} {H : Hp} (k : Nat) (hk : m ≤ k) (hi : i < n) (h : k ≤ H.length ∧ fr si = .d (.int .i64 (i : Int)))
    (hj : J (i + 1) (Fr.clr k (((fr.set su (.d (.int .i64 (i : Int)))).set sv (.d (.int .i64 ((i : Int) + 1)))).set si (.d (.int .i64 ((i : Int) + 1))))) (Hp.cut k H)) : NextF J t m n si su sv i fr H :=
  ⟨h.2, hi, k, hk, h.1, hj⟩

def forC (si su sv c : Nat) (cnd body : C) : C :=
  .seq cnd (.seq (.blk c body) (.ops [⟨some su, none, .mv (.t si)⟩, ⟨some sv, none, .bin .add (.t su) (.c (.int .i64 1))⟩, ⟨some si, none, .mv (.t sv)⟩] false))

/-- A LOOP THAT COUNTS -/
theorem ForK_of {P : Program} {n0 : Nat} {Q : Ex → Fr → Hp → Prop} {fr : Fr} {H : Hp} {si su sv c : Nat} {cnd body : C} {t : Tag (Q, forC si su sv c cnd body)} (m n : Nat) (J : Nat → Fr → Hp → Prop) (hn : n ≤ 4611686018427387904)
    (hne : si ≠ su ∧ si ≠ sv ∧ su ≠ sv) (h1 : n0 ≤ m ∧ m ≤ H.length) (h2 : fr si = .d (.int .i64 0)) (h3 : J 0 (fr.clr m) (Hp.cut m H))
    (h4 : ∀ i fr H, i ≤ n → fr si = .d (.int .i64 (i : Int)) → J i fr H →
      AWp P n0 cnd (Ex.then (AWp P n0 body (Ex.blk c (Ex.then (NextF J .mk m n si su sv i) Q))) Q) fr H) :
    LoopK Q (forC si su sv c cnd body) t P n0 fr H := by
  obtain ⟨n1, n2, n3⟩ := hne
  refine LoopK_of m (fun fr H => ∃ i : Nat, i ≤ n ∧ fr si = .d (.int .i64 (i : Int)) ∧ J i fr H) (fun fr H => match fr si with | .d (.int _ k) => (n - k).toNat | _ => 0) h1
    ⟨0, Nat.zero_le _, by simp [h2], h3⟩ ?_
  rintro fr H ⟨i, hi, f1, hj⟩
  simp only [forC, AWp_seq]
  refine AWp.mono _ ?_ _ _ (h4 i fr H hi f1 hj)
  intro e fr' H' h
  cases e with
  | normal =>
    simp only [then_normal, AWp_seq, AWp_blk] at h ⊢
    refine AWp.mono _ ?_ _ _ h
    intro e fr' H' h
    have fin : NextF J .mk m n si su sv i fr' H' → AWp P n0 (.ops [⟨some su, none, .mv (.t si)⟩, ⟨some sv, none, .bin .add (.t su) (.c (.int .i64 1))⟩, ⟨some si, none, .mv (.t sv)⟩] false) (Ex.then (Again m (fun fr H => ∃ i : Nat, i ≤ n ∧ fr si = .d (.int .i64 (i : Int)) ∧ J i fr H) (fun fr H => match fr si with | .d (.int _ k) => (n - k).toNat | _ => 0) (match fr si with | .d (.int _ k) => (n - k).toNat | _ => 0)) Q) fr' H' := by
      rintro ⟨g1, g0, k, k1, k2, k3⟩
      have hw : IntKind.i64.wrap ((i : Int) + 1) = i + 1 := wrap_i64 (by omega) (by omega)
      simp [g1, hw, f1]
      refine AgainK_ofk k k1 k2 ⟨i + 1, by omega, by simp, ?_⟩ ?_
      · exact k3
      · simp; omega
    cases e with
    | normal => simp only [blk_normal, then_normal] at h ⊢; exact fin h
    | exit j =>
      simp only [blk_exit] at h ⊢
      by_cases hj : j = c
      · rw [if_pos hj] at h ⊢; exact fin h
      · rw [if_neg hj] at h ⊢; exact h
    | ret => exact h
  | exit j => exact h
  | ret => exact h

/-- where a loop is left by one exit, what holds there -/
def Ex.outE (b : Nat) (E : Fr → Hp → Prop) (Q : Ex → Fr → Hp → Prop) : Ex → Fr → Hp → Prop
  | .exit j, fr, H => if j = b then E fr H else Q (.exit j) fr H
  | e, fr, H => Q e fr H

@[simp ↓] theorem outE_exit (b j : Nat) {E : Fr → Hp → Prop} {Q : Ex → Fr → Hp → Prop} {fr : Fr} {H : Hp} : Ex.outE b E Q (.exit j) fr H = if j = b then E fr H else Q (.exit j) fr H := propext Iff.rfl
@[simp ↓] theorem outE_ret (b : Nat) {E : Fr → Hp → Prop} {Q : Ex → Fr → Hp → Prop} {fr : Fr} {H : Hp} : Ex.outE b E Q .ret fr H = Q .ret fr H := propext Iff.rfl
@[simp ↓] theorem outE_normal (b : Nat) {E : Fr → Hp → Prop} {Q : Ex → Fr → Hp → Prop} {fr : Fr} {H : Hp} : Ex.outE b E Q .normal fr H = Q .normal fr H := propext Iff.rfl

/-- a loop that is left by one exit, or returns -/
def Ex.outR (b : Nat) (E R : Fr → Hp → Prop) : Ex → Fr → Hp → Prop
  | .exit j, fr, H => if j = b then E fr H else False
  | .ret, fr, H => R fr H
  | .normal, _, _ => False

@[simp ↓] theorem outR_exit (b j : Nat) {E R : Fr → Hp → Prop} {fr : Fr} {H : Hp} : Ex.outR b E R (.exit j) fr H = if j = b then E fr H else False := propext Iff.rfl
@[simp ↓] theorem outR_ret (b : Nat) {E R : Fr → Hp → Prop} {fr : Fr} {H : Hp} : Ex.outR b E R .ret fr H = R fr H := propext Iff.rfl

theorem LoopK_outR {P : Program} {n0 : Nat} {Q : Ex → Fr → Hp → Prop} {fr : Fr} {H : Hp} {c : C} {t : Tag (Q, c)} (b : Nat) (E R : Fr → Hp → Prop) (h : LoopK (Ex.outR b E R) c .mk P n0 fr H) (hret : ∀ fr H, R fr H → Q .ret fr H) (hout : ∀ fr H, E fr H → Q (.exit b) fr H) : LoopK Q c t P n0 fr H :=
  AWp.mono (.loop c) (fun e fr H h => by
    cases e with
    | normal => exact h.elim
    | ret => exact hret fr H h
    | exit j =>
      simp only [outR_exit] at h
      by_cases hj : j = b
      · rw [if_pos hj] at h; rw [hj]; exact hout fr H h
      · rw [if_neg hj] at h; exact h.elim) fr H h

/-- a step that ends, or returns -/
def Ex.outN (E R : Fr → Hp → Prop) : Ex → Fr → Hp → Prop
  | .exit _, _, _ => False
  | .ret, fr, H => R fr H
  | .normal, fr, H => E fr H

@[simp ↓] theorem outN_normal {E R : Fr → Hp → Prop} {fr : Fr} {H : Hp} : Ex.outN E R .normal fr H = E fr H := propext Iff.rfl
@[simp ↓] theorem outN_ret {E R : Fr → Hp → Prop} {fr : Fr} {H : Hp} : Ex.outN E R .ret fr H = R fr H := propext Iff.rfl

theorem Seq_out {P : Program} {n0 : Nat} {Q : Ex → Fr → Hp → Prop} {fr : Fr} {H : Hp} {a b : C} (E R : Fr → Hp → Prop) (h : AWp P n0 a (Ex.outN E R) fr H) (hret : ∀ fr H, R fr H → Q .ret fr H) (hout : ∀ fr H, E fr H → AWp P n0 b Q fr H) : AWp P n0 (.seq a b) Q fr H :=
  AWp.mono a (fun e fr H h => by
    cases e with
    | normal => exact hout fr H h
    | ret => exact hret fr H h
    | exit j => exact h.elim) fr H h

theorem LoopK_out {P : Program} {n0 : Nat} {Q : Ex → Fr → Hp → Prop} {fr : Fr} {H : Hp} {c : C} {t : Tag (Q, c)} (b : Nat) (E : Fr → Hp → Prop) (h : LoopK (Ex.outE b E Q) c .mk P n0 fr H) (hout : ∀ fr H, E fr H → Q (.exit b) fr H) : LoopK Q c t P n0 fr H :=
  AWp.mono (.loop c) (fun e fr H h => by
    cases e with
    | normal => exact h
    | ret => exact h
    | exit j =>
      simp only [outE_exit] at h
      by_cases hj : j = b
      · rw [if_pos hj] at h; rw [hj]; exact hout fr H h
      · rw [if_neg hj] at h; exact h) fr H h

end Go.Zam

namespace Go.Zam
set_option linter.all false
set_option maxRecDepth 100000

end Go.Zam

namespace Go.Zam
open Go.RowKit (Below)
set_option linter.all false
set_option maxRecDepth 100000

theorem DR.str_inv {σ : St} {v : Value} {s : List UInt8} (h : DR σ v (.str s)) : v = .string ⟨s.toArray⟩ := by
  cases h with
  | str u => simp
theorem DR.int_inv {σ : St} {v : Value} {k : IntKind} {n : Int} (h : DR σ v (.int k n)) : v = .int k n := by cases h; rfl

/-- a slice that may be appended to, where a plain one is asked for -/
theorem ACall.oslAt {P : Program} {f : FuncId} {H : Hp} {Q : A → Hp → Prop} {pre l : List A} {z : Bool} {s t : Nat} {rows : List (List D)} (h : ACall P f (pre ++ .d (.sl z s rows) :: l) H Q) : ACall P f (pre ++ .osl z s rows t :: l) H Q := by
  intro κ w vs hr hl hv
  refine h κ w vs hr (by simpa using hl) fun i v a hi ha => ?_
  by_cases e : i = pre.length
  · subst e
    have h1 := hv pre.length v (.osl z s rows t) hi (by simp)
    rw [List.getElem?_append_right (Nat.le_refl _), Nat.sub_self] at ha
    cases ha
    cases h1 with
    | osl hd _ => exact .d hd
  · refine hv i v a hi ?_
    by_cases hlt : i < pre.length
    · rw [List.getElem?_append_left hlt] at ha ⊢; exact ha
    · rw [List.getElem?_append_right (by omega)] at ha ⊢
      obtain ⟨k, hk⟩ : ∃ k, i - pre.length = k + 1 := ⟨i - pre.length - 1, by omega⟩
      rw [hk] at ha ⊢
      exact ha

theorem ACall.osl1 {P : Program} {f : FuncId} {H : Hp} {Q : A → Hp → Prop} {l : List A} {z : Bool} {s t : Nat} {rows : List (List D)} (h : ACall P f (.d (.sl z s rows) :: l) H Q) : ACall P f (.osl z s rows t :: l) H Q := ACall.oslAt (pre := []) h
end Go.Zam

namespace Go.Zam
set_option linter.all false
set_option maxRecDepth 100000
set_option maxHeartbeats 1000000

def irDigit : IFn :=
 { nt := 9, res := [.t 2], body := (
  .seq (.ops [
    ⟨(some 2), none, .mv (.c (.bool false))⟩] false)
  (.seq (.ops [
    ⟨(some 3), none, .mv (.t 0)⟩,
    ⟨(some 4), none, .bin .geq (.t 3) (.c (.int .u8 48))⟩,
    ⟨(some 5), none, .mv (.t 4)⟩,
    ⟨(some 6), (some (5, true)), .mv (.t 0)⟩,
    ⟨(some 7), (some (5, true)), .bin .leq (.t 6) (.c (.int .u8 57))⟩,
    ⟨(some 8), none, .pick (.t 5) (.t 7) (.c (.bool false))⟩,
    ⟨(some 2), none, .mv (.t 8)⟩] false)
  (.ret))) }

def digitB (b : UInt8) : Bool := decide ((48 : Int) ≤ b.toNat) && decide ((b.toNat : Int) ≤ 57)
def letterB (b : UInt8) : Bool := (decide ((97 : Int) ≤ b.toNat) && decide ((b.toNat : Int) ≤ 122)) || (decide ((65 : Int) ≤ b.toNat) && decide ((b.toNat : Int) ≤ 90)) || decide ((b.toNat : Int) = 95)
def keysL : List (List UInt8) := [[117, 115, 101], [100, 101, 102], [108, 101, 116], [105, 102], [101, 108, 115, 101], [119, 104, 105, 108, 101], [112, 114, 105, 110, 116], [114, 101, 116, 117, 114, 110], [102, 110], [105, 110, 112, 117, 116], [105, 110, 116], [115, 116, 114], [100, 121, 110]]
section
variable {P : Program}

theorem digit_acall {f : FuncId} {fn : Func} (hf : P.funcs[f]? = some fn) (hcf : compF P [] fn = some irDigit) (b : UInt8) (H : Hp) : ACall P f [.d (.int .u8 b.toNat)] H (fun r H' => r = .d (.bool (digitB b)) ∧ H' = H) := by
  refine acall_fin hf hcf (by simp [irDigit]) fun hcl _ => ?_
  simp [irDigit]
  refine GdK_split (by simp) (fun h => ?_) (fun h => ?_)
  · simp
    simp at h
    simp [RetK, cut_self hcl, digitB, h]
  · simp
    simp at h
    simp [RetK, cut_self hcl, digitB]
    omega

end
end Go.Zam

namespace Go.Zam
set_option linter.all false
set_option maxRecDepth 100000
set_option maxHeartbeats 1000000

inductive T where
  | mk (k : Int) (z : Bool) (ns : List (List UInt8)) (y : Bool) (ps : List T)

def encStr (x : List UInt8) : List D := [.str x]

mutual
def T.enc : T → List D
  | .mk k z ns y ps => [.int .i64 k, .sl z 1 (ns.map encStr), .sl y 3 (T.encs ps)]
def T.encs : List T → List (List D)
  | [] => []
  | p :: r => T.enc p :: T.encs r
end
mutual
theorem T.ind {Q : T → Prop} (h : ∀ k z ns y ps, (∀ p ∈ ps, Q p) → Q (.mk k z ns y ps)) : ∀ v, Q v
  | .mk k z ns y ps => h k z ns y ps (T.inds h ps)
theorem T.inds {Q : T → Prop} (h : ∀ k z ns y ps, (∀ p ∈ ps, Q p) → Q (.mk k z ns y ps)) : ∀ l : List T, ∀ p ∈ l, Q p
  | [] => fun p hp => by simp at hp
  | x :: r => fun p hp => (List.mem_cons.1 hp).elim (fun e => e ▸ T.ind h x) (fun hp => T.inds h r p hp)
end

/-- no row in it is longer than a number -/
inductive T.Fit (b : Nat) : T → Prop
  | mk (k : Int) (z : Bool) (ns : List (List UInt8)) (y : Bool) (ps : List T) (h1 : ns.length ≤ b) (h2 : ps.length ≤ b) (h3 : ∀ x ∈ ns, x.length ≤ b) (h4 : ∀ p ∈ ps, T.Fit b p) : T.Fit b (.mk k z ns y ps)

def T.a (t : T) : A := .agg (t.enc.map .d)
section
variable {P : Program} {bt : Nat}

end
end Go.Zam

namespace Go.Zam
set_option linter.all false
set_option maxRecDepth 100000

def irRnBad (c1 : Nat) : IFn :=
 { nt := 27, res := [.t 2], body := (
  .seq (.ops [
    ⟨(some 2), none, .mv (.c (.int .i64 0))⟩] false)
  (.seq (.seq (.ops [
     ⟨(some 3), none, .mv (.c (.int .i64 0))⟩] false)
   (.blk 0 (.loop (.seq (.seq (.ops [
        ⟨(some 6), none, .mv (.t 3)⟩,
        ⟨(some 7), none, .mv (.t 0)⟩,
        ⟨(some 8), none, .lenS (.t 7)⟩,
        ⟨(some 9), none, .bin .lss (.t 6) (.t 8)⟩] false)
      (.cond (.t 9) (.skip)
      (.exit 0)))
     (.blk 1 (.seq (.ops [
        ⟨(some 11), none, .mv (.t 0)⟩,
        ⟨(some 12), none, .mv (.t 3)⟩,
        ⟨(some 13), none, .sslice (.t 11) (some (.t 12)) none⟩,
        ⟨(some 14), none, .call c1 [(.t 13)]⟩,
        ⟨(some 10), none, .mv (.t 14)⟩,
        ⟨(some 15), none, .ext (.t 10) 0⟩,
        ⟨(some 16), none, .ext (.t 10) 1⟩,
        ⟨(some 4), none, .mv (.t 15)⟩,
        ⟨(some 5), none, .mv (.t 16)⟩] false)
      (.seq (.seq (.ops [
         ⟨(some 17), none, .mv (.t 4)⟩,
         ⟨(some 18), none, .bin .eql (.t 17) (.c (.int .i32 65533))⟩,
         ⟨(some 19), none, .mv (.t 18)⟩,
         ⟨(some 20), (some (19, true)), .mv (.t 5)⟩,
         ⟨(some 21), (some (19, true)), .bin .eql (.t 20) (.c (.int .i64 1))⟩,
         ⟨(some 22), none, .pick (.t 19) (.t 21) (.c (.bool false))⟩] false)
       (.cond (.t 22) (.seq (.ops [
          ⟨(some 23), none, .mv (.t 3)⟩,
          ⟨(some 2), none, .mv (.t 23)⟩] false)
        (.ret))
       (.skip)))
      (.ops [
       ⟨(some 24), none, .mv (.t 3)⟩,
       ⟨(some 25), none, .mv (.t 5)⟩,
       ⟨(some 26), none, .bin .add (.t 24) (.t 25)⟩,
       ⟨(some 3), none, .mv (.t 26)⟩] false))))))))
  (.seq (.ops [
    ⟨(some 2), none, .mv (.c (.int .i64 (-1)))⟩] false)
  (.ret)))) }

def irScNext (c1 c2 c3 c4 c5 c6 c7 c8 t1 : Nat) : IFn :=
 { nt := 77, res := [.cell 2 4 true, .t 3], body := (
  .seq (.ops [
    ⟨(some 2), none, .alloc t1 [(.int .i64 0), (.int .i64 0), (.str []), (.str [])]⟩,
    ⟨(some 3), none, .mv (.c (.int .i64 0))⟩] false)
  (.seq (.ops [
    ⟨(some 4), none, .mv (.t 0)⟩,
    ⟨(some 5), none, .nilCheck (.t 4)⟩,
    ⟨(some 6), none, .faddr 1 (.t 5)⟩,
    ⟨(some 7), none, .load 1 false (.t 6)⟩,
    ⟨(some 8), none, .faddr 1 (.t 2)⟩,
    ⟨none, none, .store 1 (.t 8) (.t 7)⟩] false)
  (.seq (.blk 0 (.seq (.ops [
      ⟨(some 18), none, .mv (.t 0)⟩,
      ⟨(some 19), none, .nilCheck (.t 18)⟩,
      ⟨(some 20), none, .faddr 1 (.t 19)⟩,
      ⟨(some 21), none, .load 1 false (.t 20)⟩,
      ⟨(some 22), none, .mv (.t 0)⟩,
      ⟨(some 23), none, .nilCheck (.t 22)⟩,
      ⟨(some 24), none, .faddr 0 (.t 23)⟩,
      ⟨(some 25), none, .load 1 false (.t 24)⟩,
      ⟨(some 26), none, .lenS (.t 25)⟩,
      ⟨(some 27), none, .bin .eql (.t 21) (.t 26)⟩,
      ⟨(some 17), none, .mv (.t 27)⟩] true)
    (.cond (.t 17) (.seq (.ops [
       ⟨(some 28), none, .load 4 true (.t 2)⟩,
       ⟨none, none, .store 4 (.t 2) (.t 28)⟩,
       ⟨(some 3), none, .mv (.c (.int .i64 0))⟩] false)
     (.ret))
    (.seq (.ops [
       ⟨(some 30), none, .mv (.t 0)⟩,
       ⟨(some 31), none, .call c1 [(.t 30), (.c (.fn c2))]⟩,
       ⟨(some 29), none, .mv (.t 31)⟩] false)
     (.cond (.t 29) (.seq (.ops [
        ⟨(some 32), none, .mv (.t 0)⟩,
        ⟨(some 33), none, .call c3 [(.t 32)]⟩,
        ⟨(some 34), none, .faddr 0 (.t 2)⟩,
        ⟨none, none, .store 1 (.t 34) (.c (.int .i64 1))⟩,
        ⟨(some 35), none, .faddr 3 (.t 2)⟩,
        ⟨none, none, .store 1 (.t 35) (.t 33)⟩] false)
      (.seq (.ops [
        ⟨(some 36), none, .faddr 3 (.t 2)⟩,
        ⟨(some 37), none, .load 1 false (.t 36)⟩,
        ⟨(some 38), none, .call c4 [(.t 37)]⟩] false)
      (.cond (.t 38) (.ops [
        ⟨(some 39), none, .faddr 0 (.t 2)⟩,
        ⟨none, none, .store 1 (.t 39) (.c (.int .i64 2))⟩] false)
      (.seq (.ops [
         ⟨(some 40), none, .faddr 3 (.t 2)⟩,
         ⟨(some 41), none, .load 1 false (.t 40)⟩,
         ⟨(some 42), none, .lenS (.t 41)⟩,
         ⟨(some 43), none, .bin .gtr (.t 42) (.c (.int .i64 40))⟩] false)
       (.cond (.t 43) (.seq (.ops [
          ⟨(some 44), none, .load 4 true (.t 2)⟩,
          ⟨none, none, .store 4 (.t 2) (.t 44)⟩,
          ⟨(some 3), none, .mv (.c (.int .i64 26))⟩] false)
        (.ret))
       (.skip))))))
     (.seq (.ops [
        ⟨(some 46), none, .mv (.t 0)⟩,
        ⟨(some 47), none, .call c1 [(.t 46), (.c (.fn c5))]⟩,
        ⟨(some 45), none, .mv (.t 47)⟩] false)
      (.cond (.t 45) (.seq (.ops [
         ⟨(some 48), none, .mv (.t 0)⟩,
         ⟨(some 49), none, .call c3 [(.t 48)]⟩,
         ⟨(some 50), none, .faddr 0 (.t 2)⟩,
         ⟨none, none, .store 1 (.t 50) (.c (.int .i64 3))⟩,
         ⟨(some 51), none, .faddr 3 (.t 2)⟩,
         ⟨none, none, .store 1 (.t 51) (.t 49)⟩] false)
       (.seq (.ops [
         ⟨(some 52), none, .load 4 true (.t 2)⟩,
         ⟨(some 53), none, .faddr 3 (.t 2)⟩,
         ⟨(some 54), none, .load 1 false (.t 53)⟩,
         ⟨(some 55), none, .call c6 [(.t 54)]⟩,
         ⟨none, none, .store 4 (.t 2) (.t 52)⟩,
         ⟨(some 3), none, .mv (.t 55)⟩] true)
       (.ret)))
      (.seq (.ops [
         ⟨(some 57), none, .mv (.t 0)⟩,
         ⟨(some 58), none, .nilCheck (.t 57)⟩,
         ⟨(some 59), none, .faddr 0 (.t 58)⟩,
         ⟨(some 60), none, .load 1 false (.t 59)⟩,
         ⟨(some 61), none, .mv (.t 0)⟩,
         ⟨(some 62), none, .nilCheck (.t 61)⟩,
         ⟨(some 63), none, .faddr 1 (.t 62)⟩,
         ⟨(some 64), none, .load 1 false (.t 63)⟩,
         ⟨(some 65), none, .sidx (.t 60) (.t 64)⟩,
         ⟨(some 66), none, .bin .eql (.t 65) (.c (.int .u8 34))⟩,
         ⟨(some 56), none, .mv (.t 66)⟩] true)
       (.cond (.t 56) (.seq (.ops [
          ⟨(some 67), none, .faddr 0 (.t 2)⟩,
          ⟨none, none, .store 1 (.t 67) (.c (.int .i64 4))⟩] false)
        (.seq (.ops [
          ⟨(some 69), none, .mv (.t 0)⟩,
          ⟨(some 70), none, .call c7 [(.t 69)]⟩,
          ⟨(some 68), none, .mv (.t 70)⟩,
          ⟨(some 71), none, .ext (.t 68) 0⟩,
          ⟨(some 72), none, .ext (.t 68) 1⟩,
          ⟨(some 73), none, .faddr 3 (.t 2)⟩,
          ⟨none, none, .store 1 (.t 73) (.t 71)⟩,
          ⟨(some 3), none, .mv (.t 72)⟩] false)
        (.seq (.ops [
          ⟨(some 74), none, .load 4 true (.t 2)⟩,
          ⟨(some 75), none, .mv (.t 3)⟩,
          ⟨none, none, .store 4 (.t 2) (.t 74)⟩,
          ⟨(some 3), none, .mv (.t 75)⟩] false)
        (.ret))))
       (.seq (.ops [
          ⟨(some 9), none, .mv (.t 0)⟩,
          ⟨(some 10), none, .call c8 [(.t 9)]⟩,
          ⟨(some 11), none, .faddr 0 (.t 2)⟩,
          ⟨none, none, .store 1 (.t 11) (.c (.int .i64 5))⟩,
          ⟨(some 12), none, .faddr 3 (.t 2)⟩,
          ⟨none, none, .store 1 (.t 12) (.t 10)⟩] false)
        (.seq (.ops [
          ⟨(some 13), none, .faddr 3 (.t 2)⟩,
          ⟨(some 14), none, .load 1 false (.t 13)⟩,
          ⟨(some 15), none, .bin .eql (.t 14) (.c (.str []))⟩] false)
        (.cond (.t 15) (.seq (.ops [
           ⟨(some 16), none, .load 4 true (.t 2)⟩,
           ⟨none, none, .store 4 (.t 2) (.t 16)⟩,
           ⟨(some 3), none, .mv (.c (.int .i64 21))⟩] false)
         (.ret))
        (.skip)))))))))))))
  (.seq (.ops [
    ⟨(some 76), none, .load 4 true (.t 2)⟩,
    ⟨none, none, .store 4 (.t 2) (.t 76)⟩,
    ⟨(some 3), none, .mv (.c (.int .i64 0))⟩] false)
  (.ret))))) }

def irSlHas (c1 : Nat) : IFn :=
 { nt := 9, res := [.t 4], body := (
  .seq (.ops [
    ⟨(some 4), none, .mv (.c (.bool false))⟩] false)
  (.seq (.ops [
    ⟨(some 5), none, .mv (.t 0)⟩,
    ⟨(some 6), none, .mv (.t 1)⟩,
    ⟨(some 7), none, .call c1 [(.t 5), (.t 6)]⟩,
    ⟨(some 8), none, .bin .geq (.t 7) (.c (.int .i64 0))⟩,
    ⟨(some 4), none, .mv (.t 8)⟩] false)
  (.ret))) }

def irSlIdx : IFn :=
 { nt := 19, res := [.t 4], body := (
  .seq (.ops [
    ⟨(some 4), none, .mv (.c (.int .i64 0))⟩] false)
  (.seq (.seq (.ops [
     ⟨(some 6), none, .mv (.t 0)⟩,
     ⟨(some 7), none, .lenL (.t 6)⟩,
     ⟨(some 8), none, .mv (.c (.int .i64 0))⟩] false)
   (.blk 0 (.loop (.seq (.ops [
       ⟨(some 9), none, .bin .lss (.t 8) (.t 7)⟩] false)
     (.seq (.cond (.t 9) (.skip)
      (.exit 0))
     (.seq (.blk 1 (.seq (.ops [
         ⟨(some 10), none, .mv (.t 8)⟩,
         ⟨(some 5), none, .mv (.t 10)⟩] false)
       (.seq (.ops [
         ⟨(some 11), none, .mv (.t 1)⟩,
         ⟨(some 12), none, .mv (.t 0)⟩,
         ⟨(some 13), none, .mv (.t 5)⟩,
         ⟨(some 14), none, .iaddr 1 (.t 12) (.t 13)⟩,
         ⟨(some 15), none, .load 1 false (.t 14)⟩,
         ⟨(some 16), none, .bin .eql (.t 11) (.t 15)⟩] false)
       (.cond (.t 16) (.seq (.ops [
          ⟨(some 17), none, .mv (.t 5)⟩,
          ⟨(some 4), none, .mv (.t 17)⟩] false)
        (.ret))
       (.skip)))))
     (.ops [
      ⟨(some 18), none, .bin .add (.t 8) (.c (.int .i64 1))⟩,
      ⟨(some 8), none, .mv (.t 18)⟩] false)))))))
  (.seq (.ops [
    ⟨(some 4), none, .mv (.c (.int .i64 (-1)))⟩] false)
  (.ret)))) }

def irTkKeys : IFn :=
 { nt := 2, res := [.t 0], body := (
  .seq (.ops [
    ⟨(some 0), none, .mv (.c (.sl true 1 []))⟩] false)
  (.seq (.ops [
    ⟨(some 1), none, .bslice 1 [(.c (.str [100, 101, 102])), (.c (.str [100, 121, 110])), (.c (.str [101, 108, 115, 101])), (.c (.str [102, 110])), (.c (.str [105, 102])), (.c (.str [105, 110, 112, 117, 116])), (.c (.str [105, 110, 116])), (.c (.str [108, 101, 116])), (.c (.str [112, 114, 105, 110, 116])), (.c (.str [114, 101, 116, 117, 114, 110])), (.c (.str [115, 116, 114])), (.c (.str [117, 115, 101])), (.c (.str [119, 104, 105, 108, 101]))]⟩,
    ⟨(some 0), none, .mv (.t 1)⟩] false)
  (.ret))) }

def irScMore : IFn :=
 { nt := 28, res := [.t 4], body := (
  .seq (.ops [
    ⟨(some 4), none, .mv (.c (.bool false))⟩] false)
  (.seq (.ops [
    ⟨(some 5), none, .mv (.t 0)⟩,
    ⟨(some 6), none, .nilCheck (.t 5)⟩,
    ⟨(some 7), none, .faddr 1 (.t 6)⟩,
    ⟨(some 8), none, .load 1 false (.t 7)⟩,
    ⟨(some 9), none, .mv (.t 0)⟩,
    ⟨(some 10), none, .nilCheck (.t 9)⟩,
    ⟨(some 11), none, .faddr 0 (.t 10)⟩,
    ⟨(some 12), none, .load 1 false (.t 11)⟩,
    ⟨(some 13), none, .lenS (.t 12)⟩,
    ⟨(some 14), none, .bin .lss (.t 8) (.t 13)⟩,
    ⟨(some 15), none, .mv (.t 14)⟩,
    ⟨(some 16), (some (15, true)), .mv (.t 1)⟩,
    ⟨(some 17), (some (15, true)), .mv (.t 0)⟩,
    ⟨(some 18), (some (15, true)), .nilCheck (.t 17)⟩,
    ⟨(some 19), (some (15, true)), .faddr 0 (.t 18)⟩,
    ⟨(some 20), (some (15, true)), .load 1 false (.t 19)⟩,
    ⟨(some 21), (some (15, true)), .mv (.t 0)⟩,
    ⟨(some 22), (some (15, true)), .nilCheck (.t 21)⟩,
    ⟨(some 23), (some (15, true)), .faddr 1 (.t 22)⟩,
    ⟨(some 24), (some (15, true)), .load 1 false (.t 23)⟩,
    ⟨(some 25), (some (15, true)), .sidx (.t 20) (.t 24)⟩,
    ⟨(some 26), (some (15, true)), .callv (.t 16) [(.t 25)]⟩,
    ⟨(some 27), none, .pick (.t 15) (.t 26) (.c (.bool false))⟩,
    ⟨(some 4), none, .mv (.t 27)⟩] true)
  (.ret))) }

def irScWord (c1 c2 : Nat) : IFn :=
 { nt := 27, res := [.t 2], body := (
  .seq (.ops [
    ⟨(some 2), none, .mv (.c (.str []))⟩] false)
  (.seq (.ops [
    ⟨(some 4), none, .mv (.t 0)⟩,
    ⟨(some 5), none, .nilCheck (.t 4)⟩,
    ⟨(some 6), none, .faddr 1 (.t 5)⟩,
    ⟨(some 7), none, .load 1 false (.t 6)⟩,
    ⟨(some 3), none, .mv (.t 7)⟩] false)
  (.seq (.blk 0 (.loop (.seq (.seq (.ops [
        ⟨(some 8), none, .mv (.t 0)⟩,
        ⟨(some 9), none, .call c1 [(.t 8), (.c (.fn c2))]⟩] false)
      (.cond (.t 9) (.skip)
      (.exit 0)))
     (.blk 1 (.ops [
       ⟨(some 10), none, .mv (.t 0)⟩,
       ⟨(some 11), none, .nilCheck (.t 10)⟩,
       ⟨(some 12), none, .faddr 1 (.t 11)⟩,
       ⟨(some 13), none, .load 1 false (.t 12)⟩,
       ⟨(some 14), none, .bin .add (.t 13) (.c (.int .i64 1))⟩,
       ⟨(some 15), none, .nilCheck (.t 10)⟩,
       ⟨(some 16), none, .faddr 1 (.t 15)⟩,
       ⟨none, none, .store 1 (.t 16) (.t 14)⟩] false)))))
  (.seq (.ops [
    ⟨(some 17), none, .mv (.t 0)⟩,
    ⟨(some 18), none, .nilCheck (.t 17)⟩,
    ⟨(some 19), none, .faddr 0 (.t 18)⟩,
    ⟨(some 20), none, .load 1 false (.t 19)⟩,
    ⟨(some 21), none, .mv (.t 3)⟩,
    ⟨(some 22), none, .mv (.t 0)⟩,
    ⟨(some 23), none, .nilCheck (.t 22)⟩,
    ⟨(some 24), none, .faddr 1 (.t 23)⟩,
    ⟨(some 25), none, .load 1 false (.t 24)⟩,
    ⟨(some 26), none, .sslice (.t 20) (some (.t 21)) (some (.t 25))⟩,
    ⟨(some 2), none, .mv (.t 26)⟩] true)
  (.ret))))) }

def irScWordB (c1 c2 : Nat) : IFn :=
 { nt := 9, res := [.t 2], body := (
  .seq (.ops [
    ⟨(some 2), none, .mv (.c (.bool false))⟩] false)
  (.seq (.ops [
    ⟨(some 3), none, .mv (.t 0)⟩,
    ⟨(some 4), none, .call c1 [(.t 3)]⟩,
    ⟨(some 5), none, .mv (.t 4)⟩,
    ⟨(some 6), (some (5, false)), .mv (.t 0)⟩,
    ⟨(some 7), (some (5, false)), .call c2 [(.t 6)]⟩,
    ⟨(some 8), none, .pick (.t 5) (.c (.bool true)) (.t 7)⟩,
    ⟨(some 2), none, .mv (.t 8)⟩] false)
  (.ret))) }

def irScStr (c1 : Nat) : IFn :=
 { nt := 86, res := [.t 2, .t 3], body := (
  .seq (.ops [
    ⟨(some 2), none, .mv (.c (.str []))⟩,
    ⟨(some 3), none, .mv (.c (.int .i64 0))⟩] false)
  (.seq (.ops [
    ⟨(some 9), none, .mv (.t 0)⟩,
    ⟨(some 10), none, .nilCheck (.t 9)⟩,
    ⟨(some 11), none, .faddr 1 (.t 10)⟩,
    ⟨(some 12), none, .load 1 false (.t 11)⟩,
    ⟨(some 4), none, .mv (.t 12)⟩] false)
  (.seq (.seq (.ops [
     ⟨(some 13), none, .mv (.t 0)⟩,
     ⟨(some 14), none, .nilCheck (.t 13)⟩,
     ⟨(some 15), none, .faddr 1 (.t 14)⟩,
     ⟨(some 16), none, .load 1 false (.t 15)⟩,
     ⟨(some 17), none, .bin .add (.t 16) (.c (.int .i64 1))⟩,
     ⟨(some 18), none, .nilCheck (.t 13)⟩,
     ⟨(some 19), none, .faddr 1 (.t 18)⟩,
     ⟨none, none, .store 1 (.t 19) (.t 17)⟩] false)
   (.blk 0 (.loop (.seq (.seq (.ops [
        ⟨(some 20), none, .mv (.t 0)⟩,
        ⟨(some 21), none, .nilCheck (.t 20)⟩,
        ⟨(some 22), none, .faddr 1 (.t 21)⟩,
        ⟨(some 23), none, .load 1 false (.t 22)⟩,
        ⟨(some 24), none, .mv (.t 0)⟩,
        ⟨(some 25), none, .nilCheck (.t 24)⟩,
        ⟨(some 26), none, .faddr 0 (.t 25)⟩,
        ⟨(some 27), none, .load 1 false (.t 26)⟩,
        ⟨(some 28), none, .lenS (.t 27)⟩,
        ⟨(some 29), none, .bin .lss (.t 23) (.t 28)⟩] true)
      (.cond (.t 29) (.skip)
      (.exit 0)))
     (.seq (.blk 1 (.seq (.ops [
         ⟨(some 37), none, .mv (.t 0)⟩,
         ⟨(some 38), none, .nilCheck (.t 37)⟩,
         ⟨(some 39), none, .faddr 0 (.t 38)⟩,
         ⟨(some 40), none, .load 1 false (.t 39)⟩,
         ⟨(some 41), none, .mv (.t 0)⟩,
         ⟨(some 42), none, .nilCheck (.t 41)⟩,
         ⟨(some 43), none, .faddr 1 (.t 42)⟩,
         ⟨(some 44), none, .load 1 false (.t 43)⟩,
         ⟨(some 45), none, .sidx (.t 40) (.t 44)⟩,
         ⟨(some 5), none, .mv (.t 45)⟩] true)
       (.blk 2 (.seq (.ops [
          ⟨(some 47), none, .mv (.t 5)⟩,
          ⟨(some 48), none, .bin .eql (.t 47) (.c (.int .u8 34))⟩,
          ⟨(some 46), none, .mv (.t 48)⟩] false)
        (.cond (.t 46) (.seq (.ops [
           ⟨(some 49), none, .mv (.t 0)⟩,
           ⟨(some 50), none, .nilCheck (.t 49)⟩,
           ⟨(some 51), none, .faddr 1 (.t 50)⟩,
           ⟨(some 52), none, .load 1 false (.t 51)⟩,
           ⟨(some 53), none, .bin .add (.t 52) (.c (.int .i64 1))⟩,
           ⟨(some 54), none, .nilCheck (.t 49)⟩,
           ⟨(some 55), none, .faddr 1 (.t 54)⟩,
           ⟨none, none, .store 1 (.t 55) (.t 53)⟩] false)
         (.seq (.ops [
           ⟨(some 56), none, .mv (.t 0)⟩,
           ⟨(some 57), none, .nilCheck (.t 56)⟩,
           ⟨(some 58), none, .faddr 0 (.t 57)⟩,
           ⟨(some 59), none, .load 1 false (.t 58)⟩,
           ⟨(some 60), none, .mv (.t 4)⟩,
           ⟨(some 61), none, .mv (.t 0)⟩,
           ⟨(some 62), none, .nilCheck (.t 61)⟩,
           ⟨(some 63), none, .faddr 1 (.t 62)⟩,
           ⟨(some 64), none, .load 1 false (.t 63)⟩,
           ⟨(some 65), none, .sslice (.t 59) (some (.t 60)) (some (.t 64))⟩,
           ⟨(some 6), none, .mv (.t 65)⟩] true)
         (.seq (.ops [
           ⟨(some 67), none, .mv (.t 6)⟩,
           ⟨(some 68), none, .call c1 [(.t 67)]⟩,
           ⟨(some 66), none, .mv (.t 68)⟩,
           ⟨(some 69), none, .ext (.t 66) 0⟩,
           ⟨(some 70), none, .ext (.t 66) 1⟩,
           ⟨(some 7), none, .mv (.t 69)⟩,
           ⟨(some 8), none, .mv (.t 70)⟩] false)
         (.seq (.ops [
           ⟨(some 71), none, .mv (.t 6)⟩,
           ⟨(some 72), none, .mv (.t 8)⟩,
           ⟨(some 2), none, .mv (.t 71)⟩,
           ⟨(some 3), none, .mv (.t 72)⟩] false)
         (.ret)))))
        (.seq (.ops [
           ⟨(some 74), none, .mv (.t 5)⟩,
           ⟨(some 75), none, .bin .eql (.t 74) (.c (.int .u8 92))⟩,
           ⟨(some 73), none, .mv (.t 75)⟩] false)
         (.cond (.t 73) (.ops [
           ⟨(some 76), none, .mv (.t 0)⟩,
           ⟨(some 77), none, .nilCheck (.t 76)⟩,
           ⟨(some 78), none, .faddr 1 (.t 77)⟩,
           ⟨(some 79), none, .load 1 false (.t 78)⟩,
           ⟨(some 80), none, .bin .add (.t 79) (.c (.int .i64 1))⟩,
           ⟨(some 81), none, .nilCheck (.t 76)⟩,
           ⟨(some 82), none, .faddr 1 (.t 81)⟩,
           ⟨none, none, .store 1 (.t 82) (.t 80)⟩] false)
         (.seq (.ops [
            ⟨(some 84), none, .mv (.t 5)⟩,
            ⟨(some 85), none, .bin .eql (.t 84) (.c (.int .u8 10))⟩,
            ⟨(some 83), none, .mv (.t 85)⟩] false)
          (.cond (.t 83) (.seq (.ops [
             ⟨(some 2), none, .mv (.c (.str []))⟩,
             ⟨(some 3), none, .mv (.c (.int .i64 22))⟩] false)
           (.ret))
          (.skip))))))))))
     (.ops [
      ⟨(some 30), none, .mv (.t 0)⟩,
      ⟨(some 31), none, .nilCheck (.t 30)⟩,
      ⟨(some 32), none, .faddr 1 (.t 31)⟩,
      ⟨(some 33), none, .load 1 false (.t 32)⟩,
      ⟨(some 34), none, .bin .add (.t 33) (.c (.int .i64 1))⟩,
      ⟨(some 35), none, .nilCheck (.t 30)⟩,
      ⟨(some 36), none, .faddr 1 (.t 35)⟩,
      ⟨none, none, .store 1 (.t 36) (.t 34)⟩] false))))))
  (.seq (.ops [
    ⟨(some 2), none, .mv (.c (.str []))⟩,
    ⟨(some 3), none, .mv (.c (.int .i64 22))⟩] false)
  (.ret))))) }

def irScSign (c1 c2 : Nat) : IFn :=
 { nt := 33, res := [.t 2], body := (
  .seq (.ops [
    ⟨(some 2), none, .mv (.c (.str []))⟩] false)
  (.seq (.seq (.ops [
     ⟨(some 5), none, .call c1 []⟩,
     ⟨(some 6), none, .lenL (.t 5)⟩,
     ⟨(some 7), none, .mv (.c (.int .i64 0))⟩] false)
   (.blk 0 (.loop (.seq (.ops [
       ⟨(some 8), none, .bin .lss (.t 7) (.t 6)⟩] false)
     (.seq (.cond (.t 8) (.skip)
      (.exit 0))
     (.seq (.blk 1 (.seq (.ops [
         ⟨(some 9), none, .iaddr 1 (.t 5) (.t 7)⟩,
         ⟨(some 10), none, .load 1 false (.t 9)⟩,
         ⟨(some 4), none, .mv (.t 10)⟩] false)
       (.seq (.ops [
         ⟨(some 11), none, .mv (.t 0)⟩,
         ⟨(some 12), none, .nilCheck (.t 11)⟩,
         ⟨(some 13), none, .faddr 0 (.t 12)⟩,
         ⟨(some 14), none, .load 1 false (.t 13)⟩,
         ⟨(some 15), none, .mv (.t 0)⟩,
         ⟨(some 16), none, .nilCheck (.t 15)⟩,
         ⟨(some 17), none, .faddr 1 (.t 16)⟩,
         ⟨(some 18), none, .load 1 false (.t 17)⟩,
         ⟨(some 19), none, .sslice (.t 14) (some (.t 18)) none⟩,
         ⟨(some 20), none, .mv (.t 4)⟩,
         ⟨(some 21), none, .call c2 [(.t 19), (.t 20)]⟩] true)
       (.cond (.t 21) (.seq (.ops [
          ⟨(some 22), none, .mv (.t 0)⟩,
          ⟨(some 23), none, .nilCheck (.t 22)⟩,
          ⟨(some 24), none, .faddr 1 (.t 23)⟩,
          ⟨(some 25), none, .load 1 false (.t 24)⟩,
          ⟨(some 26), none, .mv (.t 4)⟩,
          ⟨(some 27), none, .lenS (.t 26)⟩,
          ⟨(some 28), none, .bin .add (.t 25) (.t 27)⟩,
          ⟨(some 29), none, .nilCheck (.t 22)⟩,
          ⟨(some 30), none, .faddr 1 (.t 29)⟩,
          ⟨none, none, .store 1 (.t 30) (.t 28)⟩] false)
        (.seq (.ops [
          ⟨(some 31), none, .mv (.t 4)⟩,
          ⟨(some 2), none, .mv (.t 31)⟩] false)
        (.ret)))
       (.skip)))))
     (.ops [
      ⟨(some 32), none, .bin .add (.t 7) (.c (.int .i64 1))⟩,
      ⟨(some 7), none, .mv (.t 32)⟩] false)))))))
  (.seq (.ops [
    ⟨(some 2), none, .mv (.c (.str []))⟩] false)
  (.ret)))) }

def irTkSigns : IFn :=
 { nt := 2, res := [.t 0], body := (
  .seq (.ops [
    ⟨(some 0), none, .mv (.c (.sl true 1 []))⟩] false)
  (.seq (.ops [
    ⟨(some 1), none, .bslice 1 [(.c (.str [61, 61])), (.c (.str [40])), (.c (.str [41])), (.c (.str [123])), (.c (.str [125])), (.c (.str [44])), (.c (.str [59])), (.c (.str [58])), (.c (.str [46])), (.c (.str [61])), (.c (.str [43])), (.c (.str [45])), (.c (.str [42])), (.c (.str [60]))]⟩,
    ⟨(some 0), none, .mv (.t 1)⟩] false)
  (.ret))) }

end Go.Zam

namespace Go.Zam
set_option linter.all false
set_option maxRecDepth 100000
set_option maxHeartbeats 1000000

abbrev Bs := List UInt8
/-- the program's function has this form -/
def Has (P : Program) (f : FuncId) (i : IFn) : Prop := ∃ fn, P.funcs[f]? = some fn ∧ compF P [] fn = some i
/-- the same, with tokens -/
def HasT (P : Program) (tk : List Nat) (f : FuncId) (i : IFn) : Prop := ∃ fn, P.funcs[f]? = some fn ∧ compF P tk fn = some i
/-- a function that asks a byte -/
def ByteOk (P : Program) (f : FuncId) (p : UInt8 → Bool) : Prop := ∀ (b : UInt8) H, ACall P f [.d (.int .u8 b.toNat)] H (fun r H' => r = .d (.bool (p b)) ∧ H' = H)

theorem least_of {p : Nat → Prop} : ∀ n, p n → ∃ d, p d ∧ ∀ e, p e → d ≤ e := by
  intro n
  induction n using Nat.strongRecOn with
  | ind n ih =>
  intro h
  by_cases hm : ∃ m, m < n ∧ p m
  · obtain ⟨m, hm, hp⟩ := hm
    exact ih m hm hp
  · exact ⟨n, h, fun e he => Nat.le_of_not_lt fun hl => hm ⟨e, hl, he⟩⟩

/-- what a round hands on, where something falls -/
def NextM (J : Nat → Fr → Hp → Prop) (_ : Tag J) (m d : Nat) (fr : Fr) (H : Hp) : Prop := ∃ k d', m ≤ k ∧ k ≤ H.length ∧ d' < d ∧ J d' (fr.clr k) (Hp.cut k H)

@[congr] theorem NextM_congr {J : Nat → Fr → Hp → Prop} {t : Tag J} {m d : Nat} {fr fr' : Fr} {H H' : Hp} (h : fr = fr') (h2 : H = H') : NextM J t m d fr H = NextM J t m d fr' H' := by rw [h, h2]

theorem NextM_of {J : Nat → Fr → Hp → Prop} {t : Tag J} {m d : Nat} {fr : Fr} {H : Hp} (k d' : Nat) (hk : m ≤ k) (h : k ≤ H.length) (hd : d' < d) (hj : J d' (fr.clr k) (Hp.cut k H)) : NextM J t m d fr H := ⟨k, d', hk, h, hd, hj⟩

/-- A LOOP IN WHICH SOMETHING FALLS -/
theorem LoopM_of {P : Program} {n0 : Nat} {Q : Ex → Fr → Hp → Prop} {fr : Fr} {H : Hp} {c : C} {t : Tag (Q, c)} (m : Nat) (J : Nat → Fr → Hp → Prop) (start : Nat) (h1 : n0 ≤ m ∧ m ≤ H.length) (h2 : J start (fr.clr m) (Hp.cut m H))
    (h3 : ∀ d fr H, J d fr H → AWp P n0 c (Ex.then (NextM J .mk m d) Q) fr H) : LoopK Q c t P n0 fr H := by
  have key : ∀ fr H, (∃ d, J d fr H) → ∃ d, J d fr H ∧ ∀ e, J e fr H → d ≤ e := fun fr H ⟨d, h⟩ => least_of (p := fun d => J d fr H) d h
  let mu : Fr → Hp → Nat := fun fr H => @dite _ (∃ d, J d fr H) (Classical.propDecidable _) (fun h => (key fr H h).choose) (fun _ => 0)
  have hmu : ∀ fr H (h : ∃ d, J d fr H), J (mu fr H) fr H ∧ ∀ e, J e fr H → mu fr H ≤ e := fun fr H h => by
    have : mu fr H = (key fr H h).choose := dif_pos h
    rw [this]
    exact (key fr H h).choose_spec
  refine LoopK_of m (fun fr H => ∃ d, J d fr H) mu h1 ⟨start, h2⟩ ?_
  rintro fr H h
  obtain ⟨g1, g2⟩ := hmu fr H h
  refine AWp.mono _ ?_ _ _ (h3 _ _ _ g1)
  intro e fr' H' hn
  cases e with
  | normal =>
    obtain ⟨k, d', k1, k2, k3, k4⟩ := hn
    refine AgainK_ofk (t := .mk) k k1 k2 ⟨d', k4⟩ ?_
    exact Nat.lt_of_le_of_lt ((hmu _ _ ⟨d', k4⟩).2 d' k4) k3
  | exit j => exact hn
  | ret => exact hn

section
variable {P : Program}

def wordB (b : UInt8) : Bool := letterB b || digitB b

theorem Has.digit {f} (h : Has P f irDigit) : ByteOk P f digitB := fun b H => digit_acall h.choose_spec.1 h.choose_spec.2 b H

theorem Has.wordB {f fl fd} (h : Has P f (irScWordB fl fd)) (hl : ByteOk P fl letterB) (hd : ByteOk P fd digitB) : ByteOk P f Zam.wordB := fun b H => by
  obtain ⟨fn, hf, hcf⟩ := h
  refine acall_fin hf hcf (by simp [irScWordB]) fun hcl _ => ?_
  simp [irScWordB]
  refine CallK_of' (hl b _) ?_
  cases e : letterB b with
  | true =>
    simp
    simp [RetK, cut_self hcl, Zam.wordB, e]
  | false =>
    simp
    refine CallK_of' (hd b _) ?_
    simp
    simp [RetK, cut_self hcl, Zam.wordB, e]

/-- whether there is another byte, and of that kind -/
def moreB (p : UInt8 → Bool) : Bs → Bool
  | [] => false
  | b :: _ => p b

def scan (ts : TypeId) (text : Bs) (at_ : Nat) : Ob := .box ts [.d (.str text), .d (.int .i64 (at_ : Int))]

theorem byteAt_drop {s : Bs} {n : Nat} {b : UInt8} {r : Bs} (h : s.drop n = b :: r) : byteAt s (n : Int) = some b ∧ n < s.length := by
  have hn : n < s.length := by
    rcases Nat.lt_or_ge n s.length with h' | h'
    · exact h'
    · rw [List.drop_eq_nil_of_le h'] at h; cases h
  refine ⟨?_, hn⟩
  have : s[n] = b := by
    have e := List.drop_eq_getElem_cons hn
    rw [h] at e
    exact (List.cons.inj e).1.symm
  simp [byteAt, hn, this]

theorem Has.more {f} (h : Has P f irScMore) {k : FuncId} {p : UInt8 → Bool} (hk : callOk P k = true) (hp : ByteOk P k p) {H : Hp} {i : Nat} {ts : TypeId} {text : Bs} {n : Nat} (hi : H[i]? = some (scan ts text n)) :
    ACall P f [.ptr i 0, .d (.fn k)] H (fun r H' => r = .d (.bool (moreB p (text.drop n))) ∧ H' = H) := by
  obtain ⟨fn, hf, hcf⟩ := h
  refine acall_fin hf hcf (by simp [irScMore]) fun hcl _ => ?_
  unfold scan at hi
  simp [irScMore, hi]
  cases hd : text.drop n with
  | nil =>
    have hn : ¬ n < text.length := by
      have := List.drop_eq_nil_iff.1 hd
      omega
    simp [hn]
    simp [RetK, cut_self hcl, moreB]
  | cons b r =>
    obtain ⟨hb, hn⟩ := byteAt_drop hd
    simp [hn, hi, hb]
    refine ⟨hk, ?_⟩
    refine CallD_of (hp b _) ?_
    simp
    simp [RetK, cut_self hcl, moreB]

theorem Hp.set_self {H : Hp} {i : Nat} {o : Ob} (h : H[i]? = some o) : H.set i o = H := by
  obtain ⟨hi, e⟩ := List.getElem?_eq_some_iff.1 h
  rw [← e]; exact List.set_getElem_self hi

/-- how many bytes of a kind stand first -/
def runN (p : UInt8 → Bool) (s : Bs) : Nat := (s.takeWhile p).length

theorem runN_le (p : UInt8 → Bool) (s : Bs) : runN p s ≤ s.length := by
  unfold runN
  exact List.Sublist.length_le (List.takeWhile_sublist p)

theorem runN_step (p : UInt8 → Bool) : ∀ (s : Bs) (j : Nat), j ≤ runN p s → moreB p (s.drop j) = decide (j < runN p s)
  | [], j, h => by simp [runN] at h ⊢; subst h; rfl
  | b :: r, 0, h => by
    cases e : p b <;> simp [runN, moreB, e]
  | b :: r, j + 1, h => by
    cases e : p b with
    | false => simp [runN, e] at h
    | true =>
      have hr : runN p (b :: r) = runN p r + 1 := by simp [runN, e]
      rw [hr] at h ⊢
      have := runN_step p r j (by omega)
      simpa using this

theorem scan_len {H : Hp} {i : Nat} {o : Ob} (h : H[i]? = some o) : i < H.length := (List.getElem?_eq_some_iff.1 h).1

/-- the text behind a place is behind a further one -/
theorem drop_add' (s : Bs) (n j : Nat) : (s.drop n).drop j = s.drop (n + j) := by rw [List.drop_drop]

theorem sub_ok {s : Bs} {n w : Nat} (h : n + w ≤ s.length) : subL s (n : Int) ((n : Int) + w) = some ((s.drop n).take w) := by
  rw [subL_ok ⟨by omega, by omega, by omega⟩]
  congr 2 <;> omega

theorem Has.word {f fm fw} (h : Has P f (irScWord fm fw)) (hm : Has P fm irScMore) (hk : callOk P fw = true) (hw : ByteOk P fw Zam.wordB) {H : Hp} {i : Nat} {ts : TypeId} {text : Bs} {n : Nat} (hi : H[i]? = some (scan ts text n)) (hn : n ≤ text.length) (hl : text.length ≤ 4611686018427387904) :
    ACall P f [.ptr i 0] H (fun r H' => r = .d (.str ((text.drop n).take (runN Zam.wordB (text.drop n)))) ∧ H' = H.set i (scan ts text (n + runN Zam.wordB (text.drop n)))) := by
  obtain ⟨fn, hf, hcf⟩ := h
  have hil := scan_len hi
  refine acall_fin hf hcf (by simp [irScWord]) fun hcl _ => ?_
  have hi' := hi
  unfold scan at hi'
  simp [irScWord, hi']
  have hW := runN_le Zam.wordB (text.drop n)
  have hstep := runN_step Zam.wordB (text.drop n)
  simp only [drop_add', List.length_drop] at hW hstep
  generalize runN Zam.wordB (text.drop n) = W at hW hstep
  refine LoopK_outR 0 (fun fr H' => fr 0 = .ptr i 0 ∧ fr 3 = .d (.int .i64 (n : Int)) ∧ H' = H.set i (scan ts text (n + W))) (fun _ _ => False) ?_ (fun _ _ h => h.elim) ?_
  · refine LoopM_of H.length (fun d fr H' => ∃ j, d = W - j ∧ j ≤ W ∧ fr 0 = .ptr i 0 ∧ fr 3 = .d (.int .i64 (n : Int)) ∧ H' = H.set i (scan ts text (n + j))) W (by simp) ⟨0, ?_⟩ ?_
    · simp [cut_self hcl, hil]
      exact (Hp.set_self hi).symm
    rintro d fr H' ⟨j, rfl, hj, f0, f3, rfl⟩
    have hij : (H.set i (scan ts text (n + j)))[i]? = some (scan ts text (n + j)) := by simp [hil]
    have hm' := hm.more hk hw hij
    rw [hstep j hj] at hm'
    simp [f0]
    refine CallK_of' hm' ?_
    simp
    refine BrK_split (fun h => ?_) (fun h => ?_)
    · have hlt : j < W := by simpa using h
      have hwr : IntKind.i64.wrap ((n : Int) + j + 1) = n + (j + 1) := by rw [wrap_i64 (by omega) (by omega)]; omega
      simp [f0, hil, scan, hwr]
      refine NextM_of H.length (W - (j + 1)) (Nat.le_refl _) (by simp) (by omega) ⟨j + 1, rfl, by omega, ?_⟩
      simp [f0, f3, Hp.cut_set, cut_self hcl, hil, scan]
    · have hjj : j = W := by have : ¬ j < W := by simpa using h
                             omega
      subst hjj
      simp [f0, f3]
  rintro fr H' ⟨f0, f3, rfl⟩
  have hs := sub_ok (s := text) (n := n) (w := W) (by omega)
  simp [f0, f3, hil, scan, hs]
  simp [RetK, Hp.cut_set, cut_self hcl, hil, scan]

end
end Go.Zam

namespace Go.Zam
open Go.Proofs
set_option maxRecDepth 100000
set_option linter.all false
set_option maxHeartbeats 1000000

/-- the numbers of the functions of modules and changes, in a program -/
structure CF where
  clone : Nat
  srt : Nat
  stb : Nat
  ins : Nat
  sym : Nat
  rot : Nat
  swp : Nat
  cmpM : Nat
  cmpS : Nat
  nan : Nat
  idxF : Nat
  find1 : Nat
  find : Nat
  sort : Nat
  apply : Nat
  applyE : Nat
  tM : Nat
  tC : Nat
  ts : Nat

structure ChHas (P : Program) (C : CF) : Prop where
  clone : HasT P [1000005] C.clone (irCloneM 2 32 C.tM)
  srt : Has P C.srt (irSortStable C.stb)
  stb : Has P C.stb (irStable C.ins C.sym)
  ins : Has P C.ins (irInsertion 2)
  sym : Has P C.sym (irSymMerge 2 C.rot C.sym)
  rot : Has P C.rot (irRotate C.swp)
  swp : Has P C.swp (irSwapRange 2)
  cmpM : Has P C.cmpM (irChCmp C.cmpS C.tM)
  kCmpM : callOk P C.cmpM = true
  cmpS : Has P C.cmpS (irCompare C.nan)
  nan : Has P C.nan irIsNaN
  idxF : Has P C.idxF (irIndexFunc 2)
  find1 : Has P C.find1 (irChFind1 C.tM)
  kFind1 : callOk P C.find1 = true
  find : Has P C.find (irChFind C.idxF C.find1 C.ts)
  sort : Has P C.sort (irChSort C.clone C.srt C.cmpM)
  apply : Has P C.apply (irChApply C.clone C.find C.applyE C.tC)
  applyE : ∀ (H : Hp) (z : Bool) (s : List UInt8) (l : List Ed), s.length + total l ≤ 70368744177664 →
    ACall P C.applyE [.d (.str s), .d (.sl z 3 (l.map encE))] H (fun r H' => r = .tup [.d (.str (applyS s l)), .d (.int .i64 (sound l s.length))] ∧ H' = H)

section
variable {P : Program} {C : CF}

structure Mod where
  n : List UInt8
  t : List UInt8

def encM (m : Mod) : List D := [.str m.n, .str m.t]

structure Chg where
  n : List UInt8
  z : Bool
  l : List Ed

def encC (c : Chg) : List D := [.str c.n, .sl c.z 3 (c.l.map encE)]

def cM (a b : Mod) : Int := cmpStr a.n b.n

theorem cM_cmp : Cmp cM := cmpStr_cmp.on Mod.n
theorem encM_len : ∀ x, (encM x).length = 2 := fun _ => rfl

theorem cmpM_acall (hC : ChHas P C) (H : Hp) (x y : Mod) : ACall P C.cmpM [.agg (rowE encM x), .agg (rowE encM y)] H (fun r H' => r = .d (.int .i64 (cM x y)) ∧ H' = H) := by
  refine acall_fin hC.cmpM.choose_spec.1 hC.cmpM.choose_spec.2 (by simp [irChCmp]) fun hcl _ => ?_
  simp [irChCmp, rowE, encM]
  refine CallK_of' (compareStr_acall hC.cmpS.choose_spec.1 hC.cmpS.choose_spec.2 hC.nan.choose_spec.1 hC.nan.choose_spec.2 _ _) ?_
  simp [RetK, cut_app hcl, cM]


theorem cmpA_M (hC : ChHas P C) : CmpA P encM cM (.d (.fn C.cmpM)) := fun H x y Q t hq => by
  simp only [ValD_d]
  exact ⟨hC.kCmpM, CallD_of (cmpM_acall hC H x y) hq⟩

theorem sortMOk (hC : ChHas P C) (H : Hp) (z : Bool) (l : List Mod) (hl : l.length ≤ 1048576) :
    ACall P C.sort [.d (.sl z 2 (l.map encM))] H (fun r H' => r = .d (.sl (z && l.isEmpty) 2 ((ssort cM l).map encM)) ∧ H' = H) := by
  have hss : ∀ (H : Hp) (i : Nat), H[i]? = some (arrE encM 2 l) → ACall P C.srt [.msl i 0 l.length, .d (.fn C.cmpM)] H (fun r' H' => r' = .tup [] ∧ H' = H.set i (arrE encM 2 (ssort cM l))) := fun H i hi =>
    sortStable_acall encM_len cM_cmp hC.srt.choose_spec.1 hC.srt.choose_spec.2 hC.stb.choose_spec.1 hC.stb.choose_spec.2 hC.ins.choose_spec.1 hC.ins.choose_spec.2 hC.sym.choose_spec.1 hC.sym.choose_spec.2 hC.rot.choose_spec.1 hC.rot.choose_spec.2 hC.swp.choose_spec.1 hC.swp.choose_spec.2 (cmpA_M hC) (fun m _ => by simp) hi (by omega)
  have hlen := ssort_length cM_cmp l
  by_cases h0 : l = []
  · subst h0
    cases z with
    | true =>
      refine acall_fin hC.sort.choose_spec.1 hC.sort.choose_spec.2 (by simp [irChSort]) fun hcl _ => ?_
      simp [irChSort]
      refine CallK_of' (clone0_acall hC.clone.choose_spec.1 hC.clone.choose_spec.2) ?_
      simp
      refine CallK_of' (sortStable0_acall (sz := 2) hC.srt.choose_spec.1 hC.srt.choose_spec.2 hC.stb.choose_spec.1 hC.stb.choose_spec.2 hC.ins.choose_spec.1 hC.ins.choose_spec.2 (fun m _ => by simp)) ?_
      simp [RetK, cut_self hcl, ssort]
    | false =>
      refine ACall.freeze (k := 0) (X := [.arr 2 []]) (by simp [ssort]) ?_
      refine acall_fink 1 hC.sort.choose_spec.1 hC.sort.choose_spec.2 (by simp [irChSort]) fun hcl _ => ?_
      simp [irChSort]
      refine CallK_of' (cloneM0_acall hC.clone.choose_spec.1 hC.clone.choose_spec.2) ?_
      simp
      have := hss (H ++ [.arr 2 []]) H.length (by simp [arrE])
      simp only [List.length_nil] at this
      refine CallK_of' this ?_
      simp [RetK, cut_appk hcl, arrE, ssort]
  · have hrows : l.map encM ≠ [] := by simpa using h0
    have he : l.isEmpty = false := by cases l <;> simp_all
    rw [he, Bool.and_false]
    refine ACall.freeze (k := 1) (X := [.arr 2 [], arrE encM 2 (ssort cM l)]) (by simp [arrE, rowE]) ?_
    refine acall_fink 2 hC.sort.choose_spec.1 hC.sort.choose_spec.2 (by simp [irChSort]) fun hcl _ => ?_
    simp [irChSort]
    refine CallK_of' (cloneM_acall hC.clone.choose_spec.1 hC.clone.choose_spec.2 hrows (by simp; omega)) ?_
    have := hss (H ++ [.arr 2 [], .arr 2 ((l.map encM).map (List.map .d))]) (H.length + 1) (by simp [arrE, rowE])
    simp at this
    simp
    refine CallK_of' this ?_
    simp [RetK, cut_appk hcl, arrE_clr, hlen, -Ob.clr]
    simp

def findM (l : List Mod) (s : List UInt8) : Int := indexI (fun m => decide (m.n = s)) l

theorem find1_acall (hC : ChHas P C) (H : Hp) (i : Nat) (s : List UInt8) (m : Mod) (hi : H[i]? = some (.box C.ts [.d (.str s)])) :
    ACall P C.find1 [.agg (rowE encM m), .ptr i 0] H (fun r H' => r = .d (.bool (decide (m.n = s))) ∧ H' = H) := by
  have hil : i < H.length := (List.getElem?_eq_some_iff.1 hi).1
  refine acall_fin hC.find1.choose_spec.1 hC.find1.choose_spec.2 (by simp [irChFind1]) fun hcl _ => ?_
  have h1 : (H ++ [Ob.box C.tM [A.d (.str m.n), A.d (.str m.t)]])[i]? = some (.box C.ts [.d (.str s)]) := by rw [List.getElem?_append_left hil]; exact hi
  simp [irChFind1, rowE, encM, h1]
  simp [RetK, cut_app hcl]

/-- Find, over whatever holds modules -/
theorem findOk (hC : ChHas P C) (H : Hp) (x : A) (l : List Mod) (s : List UInt8) (hlen : lenA x = some l.length) (hx : ∀ m, H.length + 1 ≤ m → x.clr m = x)
    (hld : ∀ (k : Nat) (e : Mod), l[k]? = some e → ∃ q, ∀ X : Ob, iaddrA (H ++ [X]) 2 x (.d (.int .i64 (k : Int))) = some q ∧ ldA (H ++ [X]) 2 q = some (rowE encM e)) (hb : l.length ≤ 1099511627776) :
    ACall P C.find [x, .d (.str s)] H (fun r H' => r = .d (.int .i64 (findM l s)) ∧ H' = H) := by
  refine acall_fin hC.find.choose_spec.1 hC.find.choose_spec.2 (by simp [irChFind]) fun hcl _ => ?_
  simp [irChFind]
  refine CallK_of' (indexFunc_acall (enc := encM) (l := l) (p := fun m => decide (m.n = s)) hC.idxF.choose_spec.1 hC.idxF.choose_spec.2 hlen (fun m hm => hx m (by simpa using hm)) (fun m hm => by
    have : H.length < m := by simp at hm; omega
    simp [A.lo, this]) (fun k e hk => by
    obtain ⟨q, hq⟩ := hld k e hk
    exact ⟨q, hq _⟩) (fun e Q t hq => by
    simp only [ValK_fn]
    exact ⟨hC.kFind1, CallK_of' (find1_acall hC _ H.length s e (by simp)) hq⟩) hb) ?_
  simp [RetK, cut_app hcl, findM]

theorem findDOk (hC : ChHas P C) (H : Hp) (z : Bool) (l : List Mod) (s : List UInt8) (hb : l.length ≤ 1099511627776) :
    ACall P C.find [.d (.sl z 2 (l.map encM)), .d (.str s)] H (fun r H' => r = .d (.int .i64 (findM l s)) ∧ H' = H) :=
  findOk hC H _ l s (by simp) (fun m _ => by simp) (fun k e hk => ⟨.eptr (encM e), fun X => by simp [Zam.rowAt, hk, rowE, encM]⟩) hb

theorem findAOk (hC : ChHas P C) (H : Hp) (i : Nat) (l : List Mod) (s : List UInt8) (hi : H[i]? = some (arrE encM 2 l)) (hb : l.length ≤ 1099511627776) :
    ACall P C.find [.msl i 0 l.length, .d (.str s)] H (fun r H' => r = .d (.int .i64 (findM l s)) ∧ H' = H) := by
  have hil : i < H.length := (List.getElem?_eq_some_iff.1 hi).1
  have hi' : ∀ X : Ob, (H ++ [X])[i]? = some (arrE encM 2 l) := fun X => by rw [List.getElem?_append_left hil]; exact hi
  exact findOk hC H _ l s (by simp) (fun m hm => clr_msl (by omega) _ _) (fun k e hk => ⟨.aptr i k 0, fun X => ⟨arr_iaddr (hi' X) rfl (List.getElem?_eq_some_iff.1 hk).1, arr_ld encM_len (hi' X) hk⟩⟩) hb

theorem findM_some {l : List Mod} {s : List UInt8} (h : 0 ≤ findM l s) : ∃ (k : Nat) (m : Mod), findM l s = k ∧ l[k]? = some m ∧ m.n = s := by
  unfold findM indexI at h ⊢
  split at h
  · rename_i k hk
    refine ⟨k, ?_⟩
    clear h
    induction l generalizing k with
    | nil => simp [indexP] at hk
    | cons x l ih =>
      simp only [indexP] at hk
      split at hk
      · rename_i hx
        cases hk
        exact ⟨x, rfl, rfl, by simpa using hx⟩
      · simp only [Option.map_eq_some_iff] at hk
        obtain ⟨k', hk', rfl⟩ := hk
        obtain ⟨m, -, h1, h2⟩ := ih k' hk'
        exact ⟨m, rfl, by simpa using h1, h2⟩
  · omega

/-- what changes make of modules, or why not -/
def applyC (l : List Mod) (done : List (List UInt8)) : List Chg → Int × List Mod
  | [] => (0, l)
  | c :: r => if findM l c.n < 0 then (32, []) else if c.n ∈ done then (4, []) else
    match l[(findM l c.n).toNat]? with
    | none => (32, [])
    | some m => if sound c.l m.t.length = 0 then applyC (l.set (findM l c.n).toNat ⟨m.n, applyS m.t c.l⟩) (done ++ [c.n]) r else (sound c.l m.t.length, [])

def totC : List Chg → Nat
  | [] => 0
  | c :: r => total c.l + totC r
theorem arrM_ld {H : Hp} {i k : Nat} {L : List Mod} {m : Mod} (hi : H[i]? = some (arrE encM 2 L)) (hk : L[k]? = some m) : ldA H 1 (.aptr i k 1) = some [.d (.str m.t)] := by
  simp [ldA, hi, arrE, hk, rowE, encM, cutL]

theorem arrM_st {H : Hp} {i k : Nat} {L : List Mod} {m : Mod} {t : List UInt8} (hi : H[i]? = some (arrE encM 2 L)) (hk : L[k]? = some m) : stA H [.d (.str t)] (.aptr i k 1) = some (H.set i (arrE encM 2 (L.set k ⟨m.n, t⟩))) := by
  simp [stA, hi, arrE, hk, rowE, encM, setL]

/-- how long texts may become -/
def fitM (l : List Mod) (cs : List Chg) : Prop := ∀ m ∈ l, m.t.length + totC cs ≤ 70368744177664

theorem grows_le : ∀ (l : List Ed) (n last : Int), soundFrom n last l = 0 → grows l ≤ total l
  | [], _, _, _ => by simp [grows, total]
  | e :: l, n, last, h => by
    obtain ⟨h0, h1, h2, h3, h4⟩ := soundFrom_cons h
    have := grows_le l n e.t h4
    simp only [grows, total]
    omega

theorem applyS_le (s : List UInt8) (l : List Ed) : (applyS s l).length ≤ s.length + total l := by
  unfold applyS
  split
  · rename_i h
    have := applied_len s l 0 (-1) (sound_zero h).2 (by omega) (by omega) (by omega)
    have := grows_le l _ _ (sound_zero h).2
    omega
  · simp

theorem fitM_next {l : List Mod} {c : Chg} {cs : List Chg} {k : Nat} {m : Mod} (h : fitM l (c :: cs)) (hk : l[k]? = some m) : fitM (l.set k ⟨m.n, applyS m.t c.l⟩) cs := by
  intro x hx
  have hm := h m (List.mem_of_getElem? hk)
  have := applyS_le m.t c.l
  simp only [totC] at hm
  rcases List.mem_or_eq_of_mem_set hx with h1 | h1
  · have := h x h1
    simp only [totC] at this
    omega
  · subst h1
    simp only; omega

theorem applyC_len {l : List Mod} {done : List (List UInt8)} : ∀ {cs : List Chg}, (applyC l done cs).1 = 0 → (applyC l done cs).2.length = l.length := by
  intro cs
  induction cs generalizing l done with
  | nil => intro _; rfl
  | cons c cs ih =>
    intro h
    simp only [applyC] at h ⊢
    split at h
    · simp at h
    · split at h
      · simp at h
      · rename_i h1 h2
        simp only [h1, h2, if_false]
        split at h
        · simp at h
        · split at h
          · rename_i h3
            simp only [h3, if_true]
            rw [ih h, List.length_set]
          · rename_i h3
            simp only at h
            exact absurd h h3

theorem applyC_step {l : List Mod} {done : List (List UInt8)} {c : Chg} {r : List Chg} {k : Nat} {m : Mod} (hk : findM l c.n = k) (hm : l[k]? = some m) (h2 : c.n ∉ done) :
    applyC l done (c :: r) = if sound c.l m.t.length = 0 then applyC (l.set k ⟨m.n, applyS m.t c.l⟩) (done ++ [c.n]) r else (sound c.l m.t.length, []) := by
  have : ¬ findM l c.n < 0 := by omega
  rw [applyC, if_neg this, if_neg h2, hk, Int.toNat_natCast, hm]

theorem app_walk (hC : ChHas P C) {H : Hp} {z zc : Bool} {l : List Mod} {cs : List Chg} (hl : l ≠ []) (hb : l.length ≤ 1048576) (hc : cs.length ≤ 1048576) (hf : fitM l cs) (k : Nat) (K : A → Hp → Prop)
    (hok : ∀ (d : List (D × A)), (applyC l [] cs).1 = 0 → RetK K .mk (H.length + k) (some (.tup [.msl (H.length + 1) 0 l.length, .d (.int .i64 0)])) (H ++ [.arr 2 [], arrE encM 2 (applyC l [] cs).2, .mp d]))
    (herr : ∀ e X, (applyC l [] cs).1 = e → e ≠ 0 → RetK K .mk (H.length + k) (some (.tup [.d (.sl true 2 []), .d (.int .i64 e)])) (H ++ X)) :
    ACall P C.apply [.d (.sl z 2 (l.map encM)), .d (.sl zc 2 (cs.map encC))] H K := by
  refine acall_fink k hC.apply.choose_spec.1 hC.apply.choose_spec.2 (by simp [irChApply]) fun hcl _ => ?_
  simp [irChApply]
  refine CallK_of' (cloneM_acall hC.clone.choose_spec.1 hC.clone.choose_spec.2 (by simpa using hl) (by simp; omega)) ?_
  simp
  refine LoopK_of (H.length + 3) (fun fr H' => ∃ pre rest l', cs = pre ++ rest ∧ fitM l' rest ∧ l'.length = l.length ∧ applyC l [] cs = applyC l' (pre.map Chg.n) rest ∧
      fr 6 = .msl (H.length + 1) 0 l.length ∧ fr 7 = .map (H.length + 2) ∧ fr 16 = .d (.sl zc 2 (cs.map encC)) ∧ fr 17 = .d (.int .i64 cs.length) ∧ fr 18 = .d (.int .i64 (pre.length : Int)) ∧ H' = H ++ [.arr 2 [], arrE encM 2 l', .mp (setMp (pre.map Chg.n))])
    (fun fr H' => match fr 18 with | .d (.int _ k) => (cs.length - k).toNat | _ => 0) (by simp) ?_ ?_
  · refine ⟨[], cs, l, ?_⟩
    simp [hf, cut_appk hcl, arrE, rowE, setMp]
  rintro fr H' ⟨pre, rest, l', hcs, hf', hl', happ, f6, f7, f16, f17, f18, hH⟩
  rw [hH]
  simp [f17, f18]
  refine BrK_split (fun h => ?_) (fun h => ?_)
  · obtain ⟨c, rest, rfl⟩ : ∃ e r, rest = e :: r := by
      cases rest with
      | nil => rw [hcs] at h; simp at h
      | cons e r => exact ⟨e, r, rfl⟩
    have hpl : pre.length < cs.length := by rw [hcs]; simp
    have hw : IntKind.i64.wrap ((pre.length : Int) + 1) = pre.length + 1 := wrap_i64 (by omega) (by omega)
    have hg  : Zam.rowAt (cs.map encC) (pre.length : Int) = some (encC c) := by simp [Zam.rowAt, hcs]
    simp [f6, f16, f18, hg, encC]
    have hi : ∀ X : Ob, (H ++ [.arr 2 [], arrE encM 2 l', .mp (setMp (pre.map Chg.n)), X])[H.length + 1]? = some (arrE encM 2 l') := fun X => by simp
    have hfind := findAOk hC _ (H.length + 1) l' c.n (hi (.box C.tC [.d (.str c.n), .d (.sl c.z 3 (c.l.map encE))])) (by omega)
    rw [hl'] at hfind
    refine CallK_of' hfind ?_
    simp
    refine BrK_split (fun h1 => ?_) (fun h1 => ?_)
    · simp at h1
      simp
      exact herr 32 _ (by rw [happ]; simp [applyC, h1]) (by omega)
    simp at h1
    obtain ⟨k, m, hk, hm, hmn⟩ := findM_some h1
    rw [hk]
    have hap : ¬ findM l' c.n < 0 := by omega
    have hkl : k < l.length := by rw [← hl']; exact (List.getElem?_eq_some_iff.1 hm).1
    by_cases h2 : c.n ∈ pre.map Chg.n
    · simp [f7, setMp_ok, setMp_get, h2, -mpOk, -List.mem_map]
      exact herr 4 _ (by rw [happ]; simp only [applyC, if_neg hap, if_pos h2]) (by omega)
    · have hi2 : ∀ X Y : Ob, (H ++ [.arr 2 [], arrE encM 2 l', X, Y])[H.length + 1]? = some (arrE encM 2 l') := fun X Y => by simp
      have hfit : m.t.length + total c.l ≤ 70368744177664 := by
        have := hf' m (List.mem_of_getElem? hm)
        simp only [totC] at this; omega
      simp [f7, setMp_ok, setMp_get, setMp_put, h2, f6, arr_iaddr (hi2 _ _) rfl hkl, arrM_ld (hi2 _ _) hm, ld_ptr, st_ptr, -iaddrA, -ldA, -stA, -mpOk, -List.mem_map]
      refine CallD_of (hC.applyE _ c.z m.t c.l hfit) ?_
      simp
      refine BrK_split (fun h3 => ?_) (fun h3 => ?_)
      · simp at h3
        simp
        exact herr _ _ (by rw [happ, applyC_step hk hm h2, if_neg h3]) h3
      simp at h3
      have hi3 : ∀ X Y : Ob, (H ++ [.arr 2 [], arrE encM 2 l', X, Y])[H.length + 1]? = some (arrE encM 2 l') := fun X Y => by simp
      simp [f6, f18, hw, arr_iaddr (hi3 _ _) rfl hkl, arrM_st (hi3 _ _) hm, -iaddrA, -ldA, -stA]
      refine AgainK_of (m := H.length + 3) (by simp) ⟨pre ++ [c], rest, l'.set k ⟨m.n, applyS m.t c.l⟩, ?_⟩ ?_
      · simp [f6, f7, f16, f17, cut_appk hcl, hcs, fitM_next hf' hm, hl', happ, arrE_clr, setMp, -Ob.clr, -List.mem_map]
        exact ⟨by rw [← hcs, happ, applyC_step hk hm h2, if_pos h3], by simp, by simp⟩
      · simp; omega
  · obtain rfl : rest = [] := by
      cases rest with
      | nil => rfl
      | cons e r => exfalso; rw [hcs] at h; simp at h
    have h0 : applyC l [] cs = (0, l') := by rw [happ]; rfl
    simp [f6]
    have := hok (setMp (pre.map Chg.n)) (by rw [h0])
    rw [h0] at this
    exact this

/-- what Apply answers -/
def outC (z : Bool) (l : List Mod) (cs : List Chg) : A :=
  .tup [.d (.sl (if (applyC l [] cs).1 = 0 then z && l.isEmpty else true) 2 ((applyC l [] cs).2.map encM)), .d (.int .i64 (applyC l [] cs).1)]

theorem applyC_err {l : List Mod} {done : List (List UInt8)} : ∀ {cs : List Chg}, (applyC l done cs).1 ≠ 0 → (applyC l done cs).2 = [] := by
  intro cs
  induction cs generalizing l done with
  | nil => intro h; exact absurd rfl h
  | cons c cs ih =>
    intro h
    simp only [applyC] at h ⊢
    split
    · rfl
    · split
      · rfl
      · rename_i h1 h2
        simp only [h1, h2, if_false] at h
        split
        · rfl
        · rename_i m hm
          simp only [hm] at h
          split
          · rename_i h3
            rw [if_pos h3] at h
            exact ih h
          · rfl

theorem applyCOk (hC : ChHas P C) (H : Hp) (z zc : Bool) (l : List Mod) (cs : List Chg) (hb : l.length ≤ 1048576) (hc : cs.length ≤ 1048576) (hf : fitM l cs) :
    ACall P C.apply [.d (.sl z 2 (l.map encM)), .d (.sl zc 2 (cs.map encC))] H (fun r H' => r = outC z l cs ∧ H' = H) := by
  intro κ w vs hr
  have hcl : H.Closed := hr.closed
  revert κ w vs hr
  show ACall P C.apply [.d (.sl z 2 (l.map encM)), .d (.sl zc 2 (cs.map encC))] H (fun r H' => r = outC z l cs ∧ H' = H)
  by_cases hl : l = []
  · subst hl
    have hz0 : applyC [] [] cs = if cs = [] then (0, []) else (32, []) := by
      cases cs with
      | nil => rfl
      | cons c r => simp [applyC, findM, indexI, indexP]
    cases z with
    | true =>
      refine acall_fin hC.apply.choose_spec.1 hC.apply.choose_spec.2 (by simp [irChApply]) fun hcl _ => ?_
      simp [irChApply]
      refine CallK_of' (clone0_acall hC.clone.choose_spec.1 hC.clone.choose_spec.2) ?_
      simp
      refine LoopK_of (H.length + 1) (fun fr H' => fr 6 = .d (.sl true 2 []) ∧ fr 16 = .d (.sl zc 2 (cs.map encC)) ∧ fr 17 = .d (.int .i64 cs.length) ∧ fr 18 = .d (.int .i64 0) ∧ H' = H ++ [.mp []]) (fun _ _ => 0) (by simp) (by simp [cut_appk hcl]) ?_
      rintro fr H' ⟨f6, f16, f17, f18, hH⟩
      rw [hH]
      simp [f17, f18]
      refine BrK_split (fun h => ?_) (fun h => ?_)
      · cases cs with
        | nil => simp at h
        | cons c r =>
          simp [f16, f18, f6, Zam.rowAt, encC]
          refine CallK_of' (findDOk hC _ true [] c.n (by simp)) ?_
          simp [findM, indexI, indexP]
          simp [RetK, outC, hz0, cut_app hcl]
      · cases cs with
        | nil => simp [f6, RetK, outC, applyC, cut_app hcl]
        | cons c r => simp at h
    | false =>
      by_cases hcs : cs = []
      · subst hcs
        refine ACall.freeze2 (k := 0) (X := [.arr 2 []]) (by simp [arrE, rowE, applyC]) ?_
        refine acall_fink 1 hC.apply.choose_spec.1 hC.apply.choose_spec.2 (by simp [irChApply]) fun hcl _ => ?_
        simp [irChApply]
        refine CallK_of' (cloneM0_acall hC.clone.choose_spec.1 hC.clone.choose_spec.2) ?_
        simp
        refine LoopK_of (H.length + 2) (fun fr H' => fr 6 = .msl H.length 0 0 ∧ fr 17 = .d (.int .i64 0) ∧ fr 18 = .d (.int .i64 0) ∧ H' = H ++ [.arr 2 [], .mp []]) (fun _ _ => 0) (by simp) (by simp [cut_appk hcl]) ?_
        rintro fr H' ⟨f6, f17, f18, hH⟩
        rw [hH]
        simp [f17, f18, f6]
        simp [RetK, cut_appk hcl, applyC]
      · have hne := hcs
        cases cs with
        | nil => exact absurd rfl hcs
        | cons c r =>
        refine acall_fin hC.apply.choose_spec.1 hC.apply.choose_spec.2 (by simp [irChApply]) fun hcl _ => ?_
        simp [irChApply]
        refine CallK_of' (cloneM0_acall hC.clone.choose_spec.1 hC.clone.choose_spec.2) ?_
        simp
        refine LoopK_of (H.length + 2) (fun fr H' => fr 6 = .msl H.length 0 0 ∧ fr 16 = .d (.sl zc 2 ((c :: r).map encC)) ∧ fr 17 = .d (.int .i64 (c :: r).length) ∧ fr 18 = .d (.int .i64 0) ∧ H' = H ++ [.arr 2 [], .mp []]) (fun _ _ => 0) (by simp) (by simp [cut_appk hcl]) ?_
        rintro fr H' ⟨f6, f16, f17, f18, hH⟩
        rw [hH]
        simp [f17, f18, f16, f6, Zam.rowAt, encC]
        refine CallK_of' (findAOk hC _ H.length [] c.n (by simp [arrE]) (by simp)) ?_
        simp [findM, indexI, indexP]
        simp [RetK, outC, hz0, cut_app hcl]
  · have he : l.isEmpty = false := by cases l <;> simp_all
    by_cases h0 : (applyC l [] cs).1 = 0
    · have hlen := applyC_len h0
      have : outC z l cs = .tup [.d (.sl false 2 ((applyC l [] cs).2.map encM)), .d (.int .i64 0)] := by simp [outC, h0, he]
      rw [this]
      refine ACall.freeze2 (k := 1) (X := [.arr 2 [], arrE encM 2 (applyC l [] cs).2]) (by simp [arrE, rowE]) ?_
      refine app_walk hC hl hb hc hf 2 _ (fun d h => ?_) (fun e X h1 h2 => absurd (h1.symm.trans h0) h2)
      simp [RetK, cut_appk hcl, arrE_clr, hlen, -Ob.clr]
      simp
    · have := applyC_err h0
      refine app_walk hC hl hb hc hf 0 _ (fun d h => absurd h h0) (fun e X h1 h2 => ?_)
      simp [RetK, outC, h0, this, h1, h2, cut_app hcl]


def lightB (most : Int) : Int → List Mod → Bool
  | _, [] => true
  | n, m :: r => if most < n + (m.n.length + m.t.length) then false else lightB most (n + (m.n.length + m.t.length)) r

def light (l : List Mod) (most : Int) : Bool := lightB most 0 l && decide (l.length ≤ 20)

theorem lightB_le {most : Int} : ∀ {l : List Mod} {n : Int}, 0 ≤ n → lightB most n l = true → ∀ m ∈ l, (m.t.length : Int) ≤ most
  | [], _, _, _, m, hm => by simp at hm
  | x :: l, n, h0, h, m, hm => by
    simp only [lightB] at h
    split at h
    · simp at h
    · rename_i h1
      rcases List.mem_cons.1 hm with rfl | hm
      · omega
      · exact lightB_le (by omega) h m hm

theorem lightOk {fL tM : Nat} (hf : Has P fL (irChLight tM)) (H : Hp) (z : Bool) (l : List Mod) (most : Int) (hm : 0 ≤ most ∧ most ≤ 1048576) (hl : l.length ≤ 1048576) (hs : ∀ m ∈ l, m.n.length ≤ 1048576 ∧ m.t.length ≤ 1048576) :
    ACall P fL [.d (.sl z 2 (l.map encM)), .d (.int .i64 most)] H (fun r H' => r = .d (.bool (light l most)) ∧ H' = H) := by
  refine acall_fin hf.choose_spec.1 hf.choose_spec.2 (by simp [irChLight]) fun hcl _ => ?_
  simp [irChLight]
  refine LoopK_of H.length (fun fr H' => ∃ pre rest, ∃ n : Int, l = pre ++ rest ∧ 0 ≤ n ∧ n ≤ most ∧ lightB most 0 l = lightB most n rest ∧ fr 0 = .d (.sl z 2 (l.map encM)) ∧ fr 1 = .d (.int .i64 most) ∧ fr 5 = .d (.int .i64 n) ∧ fr 8 = .d (.sl z 2 (l.map encM)) ∧ fr 9 = .d (.int .i64 l.length) ∧ fr 10 = .d (.int .i64 (pre.length : Int)) ∧ H' = H)
    (fun fr H' => match fr 10 with | .d (.int _ k) => (l.length - k).toNat | _ => 0) (by simp) ?_ ?_
  · refine ⟨[], l, 0, ?_⟩
    simp [cut_self hcl, hm]
  rintro fr H' ⟨pre, rest, n, hcs, hn0, hnm, hli, f0, f1, f5, f8, f9, f10, hH⟩
  rw [hH]
  simp [f9, f10]
  refine BrK_split (fun h => ?_) (fun h => ?_)
  · obtain ⟨c, rest, rfl⟩ : ∃ e r, rest = e :: r := by
      cases rest with
      | nil => rw [hcs] at h; simp at h
      | cons e r => exact ⟨e, r, rfl⟩
    have hpl : pre.length < l.length := by rw [hcs]; simp
    obtain ⟨s1, s2⟩ := hs c (by rw [hcs]; simp)
    have hw : IntKind.i64.wrap ((pre.length : Int) + 1) = pre.length + 1 := wrap_i64 (by omega) (by omega)
    have hw2 : IntKind.i64.wrap ((c.n.length : Int) + c.t.length) = c.n.length + c.t.length := wrap_i64 (by omega) (by omega)
    have hw3 : IntKind.i64.wrap (n + ((c.n.length : Int) + c.t.length)) = n + (c.n.length + c.t.length) := wrap_i64 (by omega) (by omega)
    have hgr : Zam.rowAt (l.map encM) (pre.length : Int) = some (encM c) := by simp [Zam.rowAt, hcs]
    simp [f1, f5, f8, f10, hgr, encM, hw2, hw3]
    refine BrK_split (fun h2 => ?_) (fun h2 => ?_)
    · simp at h2
      have : light l most = false := by simp only [light, hli, lightB, if_pos h2, Bool.false_and]
      simp
      simp [RetK, cut_app hcl, this]
    · simp at h2
      simp [f10, hw]
      refine AgainK_of (m := H.length) (by simp) ⟨pre ++ [c], rest, n + (c.n.length + c.t.length), ?_⟩ ?_
      · simp [f0, f1, f8, f9, cut_app hcl, hcs]
        refine ⟨by omega, by omega, ?_⟩
        rw [← hcs, hli, lightB, if_neg (by omega)]
      · simp; omega
  · obtain rfl : rest = [] := by
      cases rest with
      | nil => rfl
      | cons e r => exfalso; rw [hcs] at h; simp at h
    have : light l most = decide (l.length ≤ 20) := by simp only [light, hli, lightB, Bool.true_and]
    simp [f0]
    simp [RetK, cut_self hcl, this]
    omega

deriving instance DecidableEq for Mod

theorem eqM (x y : Mod) : eqDs [.str [], .str []] (rowE encM x) (rowE encM y) = some (decide (x = y)) := by
  cases x; cases y
  simp [rowE, encM, eqDs, eqD]

theorem sameMOk {fS : Nat} (hf : Has P fS irRcSame) (H : Hp) (z z' : Bool) (a b : List Mod) (ha : a.length ≤ 1048576) :
    ACall P fS [.d (.sl z 2 (a.map encM)), .d (.sl z' 2 (b.map encM))] H (fun r H' => r = .d (.bool (decide (a = b))) ∧ H' = H) := by
  refine acall_fin hf.choose_spec.1 hf.choose_spec.2 (by simp [irRcSame]) fun hcl _ => ?_
  simp [irRcSame]
  refine BrK_split (fun h => ?_) (fun h => ?_)
  · simp at h
    have : a ≠ b := by intro e; subst e; simp at h
    simp
    simp [RetK, cut_self hcl, this]
  simp at h
  have hab : a.length = b.length := by omega
  simp
  refine LoopK_of H.length (fun fr H' => ∃ pre ra rb, a = pre ++ ra ∧ b = pre ++ rb ∧ fr 0 = .d (.sl z 2 (a.map encM)) ∧ fr 1 = .d (.sl z' 2 (b.map encM)) ∧ fr 5 = .d (.int .i64 (pre.length : Int)) ∧ H' = H)
    (fun fr H' => match fr 5 with | .d (.int _ k) => (a.length - k).toNat | _ => 0) (by simp) ?_ ?_
  · exact ⟨[], a, b, by simp [cut_self hcl]⟩
  rintro fr H' ⟨pre, ra, rb, h1, h2, f0, f1, f5, hH⟩
  rw [hH]
  simp [f0, f5]
  refine BrK_split (fun h3 => ?_) (fun h3 => ?_)
  · simp at h3
    obtain ⟨x, ra, rfl⟩ : ∃ e r, ra = e :: r := by
      cases ra with
      | nil => rw [h1] at h3; simp at h3
      | cons e r => exact ⟨e, r, rfl⟩
    obtain ⟨y, rb, rfl⟩ : ∃ e r, rb = e :: r := by
      cases rb with
      | nil => rw [h1, h2] at hab; simp at hab
      | cons e r => exact ⟨e, r, rfl⟩
    have g1 : Zam.rowAt (a.map encM) (pre.length : Int) = some (encM x) := by simp [Zam.rowAt, h1]
    have g2 : Zam.rowAt (b.map encM) (pre.length : Int) = some (encM y) := by simp [Zam.rowAt, h2]
    have hw : IntKind.i64.wrap ((pre.length : Int) + 1) = pre.length + 1 := wrap_i64 (by omega) (by omega)
    have q := eqM x y
    simp only [rowE, encM, List.map_cons, List.map_nil] at q
    simp [f0, f1, f5, g1, g2, encM, q]
    refine BrK_split (fun h4 => ?_) (fun h4 => ?_)
    · simp at h4
      have : a ≠ b := by rw [h1, h2]; simp [h4]
      simp
      simp [RetK, cut_self hcl, this]
    · simp at h4
      subst h4
      simp [f5, hw]
      refine AgainK_of (m := H.length) (by simp) ⟨pre ++ [x], ra, rb, ?_⟩ ?_
      · simp [f0, f1, cut_self hcl, h1, h2]
      · simp; omega
  · simp at h3
    obtain rfl : ra = [] := by
      cases ra with
      | nil => rfl
      | cons e r => exfalso; rw [h1] at h3; simp at h3; omega
    obtain rfl : rb = [] := by
      cases rb with
      | nil => rfl
      | cons e r => exfalso; rw [h1, h2] at hab; simp at hab
    have : a = b := by rw [h1, h2]
    simp
    simp [RetK, cut_self hcl, this]

end
end Go.Zam
