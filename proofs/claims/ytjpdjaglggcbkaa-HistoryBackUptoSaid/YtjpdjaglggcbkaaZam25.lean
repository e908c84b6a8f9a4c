/-
  An abstract machine over the model, twenty-fifth part: the library's insertion sort: what it computes. Lengths are bounded.
-/
import Derived.Test.YtjpdjaglggcbkaaZam24
namespace Go.Zam
set_option linter.all false
set_option maxRecDepth 100000
set_option maxHeartbeats 1000000

/-- a comparison, as a function of the program -/
def CmpA {α : Type} (P : Program) (enc : α → List D) (c : α → α → Int) (g : A) : Prop :=
  ∀ (H : Hp) (x y : α) (Q : A → Hp → Prop) (t : Tag Q), Q (.d (.int .i64 (c x y))) H → ValD Q t P [.agg (rowE enc x), .agg (rowE enc y)] H g

section
variable {P : Program} {α : Type} {enc : α → List D} {sz : Nat} {c : α → α → Int}

theorem insertion_acall (hsz : ∀ x, (enc x).length = sz) (hc : Cmp c) {f : FuncId} {fn : Func} (hf : P.funcs[f]? = some fn) (hcf : compF P [] fn = some (irInsertion sz))
    {H : Hp} {i : Nat} {g : A} (hg : ∀ m, H.length ≤ m → g.clr m = g) (hcmp : CmpA P enc c g) {L p s q : List α} {a b : Int} (hL : L = p ++ (s ++ q)) (ha : a = p.length) (hb : b = p.length + s.length)
    (hi : H[i]? = some (arrE enc sz L)) (hbd : L.length ≤ 1099511627776) :
    ACall P f [.msl i 0 L.length, .d (.int .i64 a), .d (.int .i64 b), g] H (fun r' H' => r' = .tup [] ∧ H' = H.set i (arrE enc sz (p ++ (ssort c s ++ q)))) := by
  have hil : i < H.length := (List.getElem?_eq_some_iff.1 hi).1
  have hgs : ∀ X : Ob, (H.set i X)[i]? = some X := fun X => List.getElem?_set_self hil
  have hLl : p.length + s.length + q.length = L.length := by rw [hL]; simp; omega
  have wa : IntKind.i64.wrap (a + 1) = a + 1 := wrap_i64 (by omega) (by omega)
  have hE : ∀ z : α, (rowE enc z).length = sz := rowE_length hsz
  have hF : ∀ z : α, (∀ u, u ∈ rowE enc z → u.flat = true) = True := rowE_flat2
  refine acall_fin hf hcf (by simp [irInsertion]) fun hcl _ => ?_
  simp [irInsertion, wa]
  refine LoopK_of H.length (fun fr H' => ∃ done todo M, ∃ k : Nat, s = done ++ todo ∧ done.length = min (k + 1) s.length ∧ M = p ++ (ssort c done ++ (todo ++ q)) ∧
      fr 0 = .msl i 0 L.length ∧ fr 1 = .d (.int .i64 a) ∧ fr 2 = .d (.int .i64 b) ∧ fr 3 = g ∧ fr 8 = .d (.int .i64 (a + 1 + k)) ∧ H' = H.set i (arrE enc sz M))
    (fun fr H' => match fr 8 with | .d (.int _ k) => (b - k).toNat | _ => 0) (by simp) ?_ ?_
  · refine ⟨s.take 1, s.drop 1, L, 0, (List.take_append_drop 1 s).symm, by simp, ?_, ?_⟩
    · have : ssort c (s.take 1) = s.take 1 := ssort_sorted hc (by cases s <;> simp [Sorted])
      rw [this, hL]
      congr 1
      rw [← List.append_assoc, List.take_append_drop]
    · simp [cut_self hcl, set_same hi, hil, hg, wa, clr_d, clr_msl hil, -A.clr]
  rintro fr H' ⟨done, todo, M, k, hs, hd, hM, f0, f1, f2, f3, f8, rfl⟩
  simp [f2, f8]
  refine BrK_split (fun h => ?_) (fun h => ?_)
  · simp only [decide_eq_true_eq] at h
    have hsl : s.length = done.length + todo.length := by rw [hs]; simp
    obtain ⟨x, todo, rfl⟩ : ∃ e r, todo = e :: r := by
      cases todo with
      | nil => simp at hsl; omega
      | cons e r => exact ⟨e, r, rfl⟩
    simp only [List.length_cons] at hsl
    have hdk : done.length = k + 1 := by omega
    have hdl := ssort_length hc done
    simp [f0, f1, f2, f3, f8]
    refine LoopK_of H.length (fun fr H' => ∃ u v M, ∃ j : Nat, ssort c done = u ++ v ∧ (∀ y ∈ v, c x y < 0) ∧ M = p ++ (u ++ x :: (v ++ (todo ++ q))) ∧ j = p.length + u.length ∧
        fr 0 = .msl i 0 L.length ∧ fr 1 = .d (.int .i64 a) ∧ fr 2 = .d (.int .i64 b) ∧ fr 3 = g ∧ fr 8 = .d (.int .i64 (a + 1 + k)) ∧ fr 9 = .d (.int .i64 (j : Int)) ∧ H' = H.set i (arrE enc sz M))
      (fun fr H' => match fr 9 with | .d (.int _ k) => k.toNat | _ => 0) (by simp) ?_ ?_
    · refine ⟨ssort c done, [], M, p.length + (ssort c done).length, by simp, by simp, by simpa using hM, rfl, ?_⟩
      simp [f0, f1, f2, f3, f8, Hp.cut_set, cut_self hcl, hil, hg, arrE_clr, clr_d, clr_msl hil, -A.clr, -Ob.clr]
      omega
    have f8o := f8
    clear hM f0 f1 f2 f3 f8
    rintro fr H' ⟨u, v, M, j, huv, hv, hM, hj, f0, f1, f2, f3, f8, f9, rfl⟩
    have huvl : u.length + v.length = k + 1 := by rw [← hdk, ← hdl, huv]; simp
    have hMl : M.length = L.length := by rw [hM]; simp; omega
    have fin : (∀ y ∈ u, c y x ≤ 0) → ssort c (done ++ [x]) = u ++ x :: v := fun hu => by
      have h1 : Alk c (done ++ [x]) (ssort c done ++ [x]) := (ssort_spec hc done).2.append (Alk.refl _)
      rw [← ssort_alk hc h1, huv]
      exact ssort_snoc hc (by rw [← huv]; exact (ssort_spec hc done).1) hu hv
    have hsd : Sorted c (u ++ v) := by rw [← huv]; exact (ssort_spec hc done).1
    have w8 : IntKind.i64.wrap (a + 1 + k + 1) = a + 1 + k + 1 := wrap_i64 (by omega) (by omega)
    simp [f0, f1, f9]
    refine GdK_split (by simp) (fun h1 => ?_) (fun h1 => ?_)
    · have h1 : a < (j : Int) := by simpa using h1
      obtain ⟨u, y, rfl⟩ : ∃ u' y, u = u' ++ [y] := by
        rcases List.eq_nil_or_concat u with h0 | ⟨u', y, h0⟩
        · subst h0; simp at hj; omega
        · exact ⟨u', y, by simpa using h0⟩
      simp only [List.length_append, List.length_singleton] at hj huvl
      have w1 : IntKind.i64.wrap ((j : Int) - 1) = j - 1 := wrap_i64 (by omega) (by omega)
      have m1 : M = (p ++ u) ++ y :: (x :: (v ++ (todo ++ q))) := by rw [hM]; simp
      have m2 : M = (p ++ u ++ [y]) ++ x :: (v ++ (todo ++ q)) := by rw [hM]; simp
      have g1 := get_mid (k := j - 1) m1 (by simp; omega)
      have g2 := get_mid (k := j) m2 (by simp; omega)
      have i1 : ∀ M' : List α, iaddrA (H.set i (arrE enc sz M')) sz (.msl i 0 L.length) (.d (.int .i64 (j - 1))) = some (.aptr i (j - 1) 0) := fun M' => arr_iaddr (hgs _) (by omega) (by omega)
      have i2 : ∀ M' : List α, iaddrA (H.set i (arrE enc sz M')) sz (.msl i 0 L.length) (.d (.int .i64 j)) = some (.aptr i j 0) := fun M' => arr_iaddr (hgs _) (by omega) (by omega)
      have l1 := arr_ld hsz (hgs (arrE enc sz M)) g1
      have l2 := arr_ld hsz (hgs (arrE enc sz M)) g2
      have t1 := arr_st hsz (hgs (arrE enc sz M)) (k := j) (e := y) (by omega)
      have t2 := arr_st hsz (hgs (arrE enc sz (M.set j y))) (k := j - 1) (e := x) (by simp; omega)
      have s1 := set_mid (e' := y) (k := j) m2 (by simp; omega)
      have m3 : M.set j y = (p ++ u) ++ y :: (y :: (v ++ (todo ++ q))) := by rw [s1]; simp
      have s2 := set_mid (e' := x) (k := j - 1) m3 (by simp; omega)
      rw [List.set_set] at t1 t2
      rw [s2] at t2
      simp [f0, f1, f3, f9, w1, h1, i1, i2, l1, l2, -iaddrA, -ldA, -stA]
      refine hcmp _ x y _ _ ?_
      simp [f0, f1, f3, f9, h1]
      refine BrK_split (fun h2 => ?_) (fun h2 => ?_)
      · have h2 : c x y < 0 := by simpa using h2
        simp [f0, f1, f3, f9, w1, h1, i1, i2, l1, l2, t1, t2, hE, hF, -iaddrA, -ldA, -stA, -A.flat]
        have hj1 : ((j : Int) - 1) = (j - 1 : Nat) := by omega
        refine AgainK_of (m := H.length) (by simp) ⟨u, y :: v, p ++ u ++ x :: (y :: (v ++ (todo ++ q))), j - 1, by rw [huv]; simp, ?_, by simp, by omega, ?_⟩ ?_
        · intro z hz
          rcases List.mem_cons.1 hz with h3 | h3
          · subst h3; exact h2
          · exact hv z h3
        · simp [f0, f1, f2, f3, f8, f9, hj1, Hp.cut_set, cut_self hcl, hil, hg, arrE_clr, clr_d, clr_msl hil, -A.clr, -Ob.clr]
        · simp [f9]; omega
      · have h2 : ¬ c x y < 0 := by simpa using h2
        have hu : ∀ z ∈ u ++ [y], c z x ≤ 0 := fun z hz => by
          have h3 : c y x ≤ 0 := hc.not_lt.1 h2
          rcases List.mem_append.1 hz with h4 | h4
          · have := (Sorted.append.1 (Sorted.append.1 hsd).1).2.2 z h4 y (by simp)
            exact hc.trans _ _ _ this h3
          · simp only [List.mem_singleton] at h4; subst h4; exact h3
        simp [f8, w8]
        refine AgainK_of (m := H.length) (by simp) ⟨done ++ [x], todo, M, k + 1, by simpa using hs, by simp; omega, ?_, ?_⟩ ?_
        · rw [hM, fin hu]; simp
        · simp [f0, f1, f2, f3, f8, f9, Hp.cut_set, cut_self hcl, hil, hg, arrE_clr, clr_d, clr_msl hil, -A.clr, -Ob.clr]
          omega
        · simp [f8o]; omega
    · have h1 : ¬ a < (j : Int) := by simpa using h1
      obtain rfl : u = [] := List.eq_nil_of_length_eq_zero (by omega)
      simp [h1, f8, w8]
      refine AgainK_of (m := H.length) (by simp) ⟨done ++ [x], todo, M, k + 1, by simpa using hs, by simp; omega, ?_, ?_⟩ ?_
      · rw [hM, fin (by simp)]; simp
      · simp [f0, f1, f2, f3, f8, f9, Hp.cut_set, cut_self hcl, hil, hg, arrE_clr, clr_d, clr_msl hil, -A.clr, -Ob.clr]
        omega
      · simp [f8o]; omega
  · simp only [decide_eq_false_iff_not] at h
    obtain rfl : todo = [] := by
      have := congrArg List.length hs
      simp at this
      exact List.eq_nil_of_length_eq_zero (by omega)
    simp only [List.append_nil] at hs
    subst hs
    simp [RetK, Hp.cut_set, cut_self hcl, arrE_clr, hM, -Ob.clr]

end
end Go.Zam
