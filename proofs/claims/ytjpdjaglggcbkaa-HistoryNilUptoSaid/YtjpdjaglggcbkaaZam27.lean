/-
  An abstract machine over the model, twenty-seventh part: the library's merge in place and stable sorting: what they compute. Lengths are bounded.
-/
import Derived.Test.YtjpdjaglggcbkaaZam26
namespace Go.Zam
set_option linter.all false
set_option maxRecDepth 100000
set_option maxHeartbeats 2000000

section
variable {P : Program} {α : Type} {enc : α → List D} {sz : Nat} {c : α → α → Int}

/-- one of the second row: it goes to its place in the first -/
theorem symB_wp (hsz : ∀ x, (enc x).length = sz) (hc : Cmp c) {g : A} (hcmp : CmpA P enc c g)
    {H : Hp} {i : Nat} {L p x q : List α} {e : α} {a m b : Int} {fr : Fr} {Q : Ex → Fr → Hp → Prop} (hcl : H.Closed) (hg : ∀ k, H.length ≤ k → g.clr k = g) (sx : Sorted c x) (hL : L = p ++ (x ++ (e :: q))) (ha : a = p.length) (hm : m = p.length + x.length)
    (hi : H[i]? = some (arrE enc sz L)) (hbd : L.length ≤ 1099511627776)
    (f0 : fr 0 = .msl i 0 L.length) (f1 : fr 1 = .d (.int .i64 a)) (f2' : fr 2 = .d (.int .i64 m)) (f3' : fr 3 = .d (.int .i64 b)) (f4 : fr 4 = g)
    (hQ : ∀ fr : Fr, Q .ret fr (H.set i (arrE enc sz (p ++ (ssort c (x ++ [e]) ++ q))))) :
    AWp P H.length (symB sz) Q fr H := by
  have hil : i < H.length := (List.getElem?_eq_some_iff.1 hi).1
  have hgs : ∀ X : Ob, (H.set i X)[i]? = some X := fun X => List.getElem?_set_self hil
  have hLl : p.length + x.length + 1 + q.length = L.length := by rw [hL]; simp; omega
  have hE : ∀ z : α, (rowE enc z).length = sz := rowE_length hsz
  have hF : ∀ z : α, (∀ u, u ∈ rowE enc z → u.flat = true) = True := rowE_flat2
  have ge : L[p.length + x.length]? = some e := get_mid (u := p ++ x) (v := q) (by rw [hL]; simp) (by simp)
  have gx : ∀ k, k < x.length → L[p.length + k]? = x[k]? := fun k hk => by
    rw [hL, List.getElem?_append_right (by omega), Nat.add_sub_cancel_left, List.getElem?_append_left hk]
  unfold symB
  simp [f0, f1, f2', f3', f4]
  refine LoopK_of H.length (fun fr H' => ∃ s r : Nat, s ≤ r ∧ r ≤ x.length ∧ (∀ k v, k < s → x[k]? = some v → c v e ≤ 0) ∧ (∀ k v, r ≤ k → x[k]? = some v → c e v < 0) ∧
      fr 0 = .msl i 0 L.length ∧ fr 2 = .d (.int .i64 m) ∧ fr 4 = g ∧
      fr 14 = .d (.int .i64 (a + s)) ∧ fr 15 = .d (.int .i64 (a + r)) ∧ H' = H)
    (fun fr H' => match fr 14, fr 15 with | .d (.int _ k), .d (.int _ l) => (l - k).toNat | _, _ => 0) (by simp) ?_ ?_
  · refine ⟨0, x.length, by omega, Nat.le_refl _, fun k v h1 => by omega, fun k v h1 h2 => ?_, ?_⟩
    · have := (List.getElem?_eq_some_iff.1 h2).1; omega
    · simp [f0, f1, f2', f4, cut_self hcl, hil, hg, clr_d, clr_msl hil, -A.clr]
      omega
  clear f0 f1 f2' f3' f4
  rintro fr H' ⟨s, r, e2, e3, eA, eB, f0, f2', f4, f14, f15, hH'⟩
  rw [hH']
  simp [f14, f15]
  refine BrK_split (fun h4 => ?_) (fun h4 => ?_)
  · have h4 : s < r := by simp at h4; omega
    have v1 : IntKind.i64.wrap (a + s + (a + r)) = a + s + (a + r) := wrap_i64 (by omega) (by omega)
    have v2 := half_op (n := a + s + (a + r)) (by omega) (by omega)
    generalize hk : (s + r) / 2 = k
    have hk2 : (a + s + (a + r)) / 2 = a + k := by omega
    rw [hk2] at v2
    have v4 : IntKind.i64.wrap (a + k + 1) = a + k + 1 := wrap_i64 (by omega) (by omega)
    obtain ⟨v, hv⟩ : ∃ v, x[k]? = some v := ⟨_, List.getElem?_eq_getElem (by omega)⟩
    have lv : L[p.length + k]? = some v := by rw [gx _ (by omega)]; exact hv
    have i1 : iaddrA H sz (.msl i 0 L.length) (.d (.int .i64 (a + k))) = some (.aptr i (p.length + k) 0) := arr_iaddr hi (by omega) (by omega)
    have i2 : iaddrA H sz (.msl i 0 L.length) (.d (.int .i64 m)) = some (.aptr i (p.length + x.length) 0) := arr_iaddr hi (by omega) (by omega)
    have l1 := arr_ld hsz hi lv
    have l2 := arr_ld hsz hi ge
    simp [f0, f2', f4, f14, f15, v1, shr_one, v2, i1, i2, l1, l2, -iaddrA, -ldA, -stA]
    refine hcmp _ e v _ _ ?_
    simp [f0, f4, f14, f15]
    refine BrK_split (fun h5 => ?_) (fun h5 => ?_)
    · have h5 : ¬ c e v < 0 := by simpa using h5
      simp [f0, f4, f14, f15, v4]
      refine AgainK_of (m := H.length) (by simp) ⟨k + 1, r, by omega, e3, ?_, eB, ?_⟩ ?_
      · intro k' v' h6 h7
        exact hc.trans _ _ _ (sorted_get hc sx h7 hv (by omega)) (hc.not_lt.1 h5)
      · simp [f0, f2', f4, f14, f15, cut_self hcl, hil, hg, clr_d, clr_msl hil, -A.clr]
        omega
      · simp [f15]; omega
    · have h5 : c e v < 0 := by simpa using h5
      simp [f0, f4, f14, f15, v4]
      refine AgainK_of (m := H.length) (by simp) ⟨s, k, by omega, by omega, eA, ?_, ?_⟩ ?_
      · intro k' v' h6 h7
        exact hc.lt_le h5 (sorted_get hc sx hv h7 h6)
      · simp [f0, f2', f4, f14, f15, cut_self hcl, hil, hg, clr_d, clr_msl hil, -A.clr]
      · simp [f14]; omega
  · obtain rfl : s = r := by simp at h4; omega
    have hres : ssort c (x ++ [e]) = x.take s ++ e :: x.drop s := by
      have := ssort_snoc hc (a := x.take s) (b := x.drop s) (x := e) (by simpa using sx) (fun z hz => by
        obtain ⟨k, hk, rfl⟩ := List.getElem_of_mem hz
        simp only [List.length_take] at hk
        exact eA k _ (by omega) (by rw [List.getElem_take]; exact List.getElem?_eq_getElem (by omega))) (fun z hz => by
        obtain ⟨k, hk, rfl⟩ := List.getElem_of_mem hz
        simp only [List.length_drop] at hk
        refine eB (s + k) _ (by omega) ?_
        rw [List.getElem_drop]; exact List.getElem?_eq_getElem (by omega))
      simpa using this
    have hts : (x.take s).length = s := by simp; omega
    generalize hx1 : x.take s = x1 at hres hts
    generalize hx2 : x.drop s = x2 at hres
    have hx : x = x1 ++ x2 := by rw [← hx1, ← hx2, List.take_append_drop]
    have hxl : x.length = x1.length + x2.length := by rw [hx]; simp
    simp [f0, f2', f4, f14]
    refine LoopK_of H.length (fun fr H' => ∃ u v M, ∃ k : Nat, x2 = u ++ v ∧ M = p ++ (x1 ++ (u ++ e :: (v ++ q))) ∧ k = p.length + x1.length + u.length ∧
        fr 0 = .msl i 0 L.length ∧ fr 14 = .d (.int .i64 (a + s)) ∧ fr 17 = .d (.int .i64 (k : Int)) ∧ H' = H.set i (arrE enc sz M))
      (fun fr H' => match fr 17 with | .d (.int _ k) => k.toNat | _ => 0) (by simp) ?_ ?_
    · refine ⟨x2, [], L, p.length + x1.length + x2.length, by simp, by rw [hL, hx]; simp, rfl, ?_⟩
      simp [f0, f2', f4, f14, set_same hi, cut_self hcl, hil, hg, clr_d, clr_msl hil, -A.clr]
      omega
    clear f0 f2' f4 f14 f15
    rintro fr H' ⟨u, v, M, k, huv, hM, hk, f0, f14, f17, hH'⟩
    rw [hH']
    have huvl : u.length + v.length = x2.length := by rw [huv]; simp
    have hMl : M.length = L.length := by rw [hM]; simp; omega
    have f17o := f17
    simp [f14, f17]
    refine BrK_split (fun h5 => ?_) (fun h5 => ?_)
    · have h5 : a + s < k := by simpa using h5
      obtain ⟨u, d, rfl⟩ : ∃ u' d, u = u' ++ [d] := by
        rcases List.eq_nil_or_concat u with h0 | ⟨u', d, h0⟩
        · subst h0; simp at hk; omega
        · exact ⟨u', d, by simpa using h0⟩
      simp only [List.length_append, List.length_singleton] at huvl hk
      have w1 : IntKind.i64.wrap ((k : Int) - 1) = k - 1 := wrap_i64 (by omega) (by omega)
      have m1 : M = (p ++ x1 ++ u) ++ d :: (e :: (v ++ q)) := by rw [hM]; simp
      have m2 : M = (p ++ x1 ++ u ++ [d]) ++ e :: (v ++ q) := by rw [hM]; simp
      have g1 := get_mid (k := k - 1) m1 (by simp; omega)
      have g2 := get_mid (k := k) m2 (by simp; omega)
      have i1 : ∀ M' : List α, iaddrA (H.set i (arrE enc sz M')) sz (.msl i 0 L.length) (.d (.int .i64 (k - 1))) = some (.aptr i (k - 1) 0) := fun M' => arr_iaddr (hgs _) (by omega) (by omega)
      have i2 : ∀ M' : List α, iaddrA (H.set i (arrE enc sz M')) sz (.msl i 0 L.length) (.d (.int .i64 k)) = some (.aptr i k 0) := fun M' => arr_iaddr (hgs _) (by omega) (by omega)
      have l1 := arr_ld hsz (hgs (arrE enc sz M)) g1
      have l2 := arr_ld hsz (hgs (arrE enc sz M)) g2
      have t1 := arr_st hsz (hgs (arrE enc sz M)) (k := k) (e := d) (by omega)
      have t2 := arr_st hsz (hgs (arrE enc sz (M.set k d))) (k := k - 1) (e := e) (by simp; omega)
      have s1 := set_mid (e' := d) (k := k) m2 (by simp; omega)
      have m3 : M.set k d = (p ++ x1 ++ u) ++ d :: (d :: (v ++ q)) := by rw [s1]; simp
      have s2 := set_mid (e' := e) (k := k - 1) m3 (by simp; omega)
      rw [List.set_set] at t1 t2
      rw [s2] at t2
      have hj1 : ((k : Int) - 1) = (k - 1 : Nat) := by omega
      simp [f0, f14, f17, w1, i1, i2, l1, l2, t1, t2, hE, hF, -iaddrA, -ldA, -stA, -A.flat]
      refine AgainK_of (m := H.length) (by simp) ⟨u, d :: v, p ++ x1 ++ u ++ e :: (d :: (v ++ q)), k - 1, by rw [huv]; simp, by simp, by omega, ?_⟩ ?_
      · simp [f0, f14, f17, hj1, Hp.cut_set, cut_self hcl, hil, hg, arrE_clr, clr_d, clr_msl hil, -A.clr, -Ob.clr]
      · simp; omega
    · have h5 : ¬ a + s < k := by simpa using h5
      obtain rfl : u = [] := List.eq_nil_of_length_eq_zero (by omega)
      simp only [List.nil_append] at huv
      subst huv
      have hM' : M = p ++ (ssort c (x ++ [e]) ++ q) := by rw [hM, hres]; simp
      simp [hM']
      exact hQ _

theorem symMerge_step (hsz : ∀ x, (enc x).length = sz) (hc : Cmp c) {f f2 f3 : FuncId} {fn fn2 fn3 : Func} (hf : P.funcs[f]? = some fn) (hcf : compF P [] fn = some (irSymMerge sz f2 f)) (hf2 : P.funcs[f2]? = some fn2) (hcf2 : compF P [] fn2 = some (irRotate f3))
    (hf3 : P.funcs[f3]? = some fn3) (hcf3 : compF P [] fn3 = some (irSwapRange sz)) {g : A} (hcmp : CmpA P enc c g) {n N : Nat} (ih : SymAt P enc sz c f g n N) : SymAt P enc sz c f g (n + 1) N := by
  intro H i L p x y q a m b hg0 hN hn hx0 hy0 sx sy hL ha hm hb hi hbd
  have hg : ∀ k, H.length ≤ k → g.clr k = g := fun k hk => hg0 k (by omega)
  have hLl : p.length + x.length + y.length + q.length = L.length := by rw [hL]; simp; omega
  have w1 : IntKind.i64.wrap (m - a) = m - a := wrap_i64 (by omega) (by omega)
  have w2 : IntKind.i64.wrap (b - m) = b - m := wrap_i64 (by omega) (by omega)
  refine acall_fin hf hcf (by simp [irSymMerge]) fun hcl _ => ?_
  simp [irSymMerge, w1]
  refine BrK_split (fun h1 => ?_) (fun h1 => ?_)
  · have h1 : m - a = 1 := by simpa using h1
    obtain ⟨e, rfl⟩ : ∃ e, x = [e] := List.length_eq_one_iff.1 (by omega)
    refine symA_wp hsz hc hcmp (e := e) (y := y) (q := q) (a := a) (m := m) (b := b) hcl hg sy (by simpa using hL) ha (by simpa using hm) (by simpa using hb) hi hbd (by simp) (by simp) (by simp) (by simp) (by simp) fun fr => ?_
    simp [RetK, Hp.cut_set, cut_self hcl, arrE_clr, -Ob.clr]
  simp [w2]
  refine BrK_split (fun h2 => ?_) (fun h2 => ?_)
  · have h2 : b - m = 1 := by simpa using h2
    obtain ⟨e, rfl⟩ : ∃ e, y = [e] := List.length_eq_one_iff.1 (by omega)
    refine symB_wp hsz hc hcmp (e := e) (x := x) (q := q) (a := a) (m := m) (b := b) hcl hg sx (by simpa using hL) ha hm hi hbd (by simp) (by simp) (by simp) (by simp) (by simp) fun fr => ?_
    simp [RetK, Hp.cut_set, cut_self hcl, arrE_clr, -Ob.clr]
  have h1 : ¬ m - a = 1 := by simpa using h1
  have h2 : ¬ b - m = 1 := by simpa using h2
  have w3 : IntKind.i64.wrap (a + b) = a + b := wrap_i64 (by omega) (by omega)
  have w4 := half_op (n := a + b) (by omega) (by omega)
  have w5 : IntKind.i64.wrap ((a + b) / 2 + m) = (a + b) / 2 + m := wrap_i64 (by omega) (by omega)
  generalize hh : (x.length + y.length) / 2 = h at *
  have hmid : (a + b) / 2 = a + h := by omega
  rw [hmid] at w4 w5
  have wp1 : IntKind.i64.wrap (a + h + m - 1) = a + h + m - 1 := wrap_i64 (by omega) (by omega)
  have wnb : IntKind.i64.wrap (a + h + m - b) = a + h + m - b := wrap_i64 (by omega) (by omega)
  -- the rest, of any bounds
  have rest : ∀ (fr : Fr) (s0 r0 : Nat), s0 ≤ r0 → r0 ≤ x.length → r0 ≤ h → h ≤ s0 + y.length → (s0 = 0 ∨ h = s0 + y.length) → (r0 = x.length ∨ r0 = h) →
      fr 0 = .msl i 0 L.length → fr 1 = .d (.int .i64 a) → fr 2 = .d (.int .i64 m) → fr 3 = .d (.int .i64 b) → fr 4 = g → fr 18 = .d (.int .i64 (a + h)) → fr 19 = .d (.int .i64 (a + h + m)) → fr 22 = .d (.int .i64 (a + h + m - 1)) → fr 20 = .d (.int .i64 (a + s0)) → fr 21 = .d (.int .i64 (a + r0)) →
      AWp P H.length (symLoop sz f2 f) (Fin [] H.length fun r' H' => r' = .tup [] ∧ H' = H.set i (arrE enc sz (p ++ (ssort c (x ++ y) ++ q)))) fr H := by
    intro fr s0 r0 F1 F2 F3 F4 F5 F6 f0 f1 f2' f3' f4 f18 f19 f22 f20 f21
    refine symLoop_wp hsz hc hcmp (s0 := s0) (r0 := r0) hcl hg sx sy hL ha hm hi hbd F1 F2 F3 F4 f0 f1 f2' f3' f4 f18 f19 f22 f20 f21 ?_
    intro fr s e1 e2 eA eB f0 f1 f2' f3' f4 f18 f19 f20
    have hxs := List.take_append_drop s x
    have hys := List.take_append_drop (h - s) y
    have l1 : (x.take s).length = s := by simp; omega
    have l2 : (x.drop s).length = x.length - s := by simp
    have l3 : (y.take (h - s)).length = h - s := by simp; omega
    have l4 : (y.drop (h - s)).length = y.length - (h - s) := by simp
    have c1 : ∀ u ∈ x.drop s, ∀ v ∈ y.take (h - s), c v u < 0 := fun u hu v hv => by
      obtain ⟨ku, hku, rfl⟩ := List.getElem_of_mem hu
      obtain ⟨kv, hkv, rfl⟩ := List.getElem_of_mem hv
      rw [l2] at hku; rw [l3] at hkv
      have hsr : s < r0 := by omega
      obtain ⟨u0, hu0⟩ : ∃ u, x[s]? = some u := ⟨_, List.getElem?_eq_getElem (by omega)⟩
      obtain ⟨v0, hv0⟩ : ∃ v, y[h - 1 - s]? = some v := ⟨_, List.getElem?_eq_getElem (by omega)⟩
      have h0 := eB s u0 v0 (Nat.le_refl _) hsr hu0 hv0
      have h3 : c u0 (x.drop s)[ku] ≤ 0 := sorted_get hc sx hu0 (j := s + ku) (by rw [List.getElem_drop]; exact List.getElem?_eq_getElem (by omega)) (by omega)
      have h4 : c (y.take (h - s))[kv] v0 ≤ 0 := sorted_get hc sy (i := kv) (by rw [List.getElem_take]; exact List.getElem?_eq_getElem (by omega)) hv0 (by omega)
      exact hc.lt_le (hc.le_lt h4 h0) h3
    have c2 : ∀ u ∈ x.take s, ∀ v ∈ y.drop (h - s), c u v ≤ 0 := fun u hu v hv => by
      obtain ⟨ku, hku, rfl⟩ := List.getElem_of_mem hu
      obtain ⟨kv, hkv, rfl⟩ := List.getElem_of_mem hv
      rw [l1] at hku; rw [l4] at hkv
      have hsr : s0 < s := by omega
      obtain ⟨u0, hu0⟩ : ∃ u, x[s - 1]? = some u := ⟨_, List.getElem?_eq_getElem (by omega)⟩
      obtain ⟨v0, hv0⟩ : ∃ v, y[h - 1 - (s - 1)]? = some v := ⟨_, List.getElem?_eq_getElem (by omega)⟩
      have h0 := hc.not_lt.1 (eA (s - 1) u0 v0 (by omega) (by omega) hu0 hv0)
      have h3 : c (x.take s)[ku] u0 ≤ 0 := sorted_get hc sx (i := ku) (by rw [List.getElem_take]; exact List.getElem?_eq_getElem (by omega)) hu0 (by omega)
      have h4 : c v0 (y.drop (h - s))[kv] ≤ 0 := sorted_get hc sy hv0 (j := h - s + kv) (by rw [List.getElem_drop]; exact List.getElem?_eq_getElem (by omega)) (by omega)
      exact hc.trans _ _ _ (hc.trans _ _ _ h3 h0) h4
    have := symEnd_wp hsz hc hf2 hcf2 hf3 hcf3 ih (L := L) (p := p) (x1 := x.take s) (x2 := x.drop s) (y1 := y.take (h - s)) (y2 := y.drop (h - s)) (q := q) (a := a) (m := m) (b := b) (h := h) (s := s) (fr := fr) hcl hg0 hN (by omega) (by omega) (by omega) (by rw [hxs]; exact sx) (by rw [hys]; exact sy)
      (by rw [hL, ← List.append_assoc (x.take s), hxs, ← List.append_assoc (y.take (h - s)), hys]) ha (by omega) (by omega) (by omega) (by omega) (by omega) c1 c2 hi hbd f0 f1 f2' f3' f4 f18 f19 f20
    rw [hxs, hys] at this
    exact this
  simp [w3, shr_one, w4, w5]
  refine BrK_split (fun h3 => ?_) (fun h3 => ?_)
  · have h3 : a + h < m := by simpa using h3
    simp [wnb, wp1]
    have e1 : a + h + m - b = a + (h - y.length : Nat) := by omega
    exact rest _ (h - y.length) h (by omega) (by omega) (Nat.le_refl _) (by omega) (.inr (by omega)) (.inr rfl) (by simp) (by simp) (by simp) (by simp) (by simp) (by simp) (by simp) (by simp) (by simp [e1]) (by simp)
  · have h3 : ¬ a + h < m := by simpa using h3
    simp [wp1]
    have e1 : m = a + (x.length : Int) := by omega
    exact rest _ 0 x.length (by omega) (Nat.le_refl _) (by omega) (by omega) (.inl rfl) (.inl rfl) (by simp) (by simp) (by simp) (by simp) (by simp) (by simp) (by simp) (by simp) (by simp) (by simp [e1])

theorem symMerge_acall (hsz : ∀ x, (enc x).length = sz) (hc : Cmp c) {f f2 f3 : FuncId} {fn fn2 fn3 : Func} (hf : P.funcs[f]? = some fn) (hcf : compF P [] fn = some (irSymMerge sz f2 f)) (hf2 : P.funcs[f2]? = some fn2) (hcf2 : compF P [] fn2 = some (irRotate f3))
    (hf3 : P.funcs[f3]? = some fn3) (hcf3 : compF P [] fn3 = some (irSwapRange sz)) {g : A} (hcmp : CmpA P enc c g) (N : Nat) : ∀ n, SymAt P enc sz c f g n N
  | 0 => fun H i L p x y q a m b hg0 hN hn hx0 => by omega
  | n + 1 => symMerge_step hsz hc hf hcf hf2 hcf2 hf3 hcf3 hcmp (symMerge_acall hsz hc hf hcf hf2 hcf2 hf3 hcf3 hcmp N n)

end
end Go.Zam
