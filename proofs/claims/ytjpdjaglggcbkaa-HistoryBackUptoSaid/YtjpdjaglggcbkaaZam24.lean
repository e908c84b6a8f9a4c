/-
  An abstract machine over the model, twenty-fourth part: swapRange and rotate of the library's stable sorting: what they compute. Lengths are bounded.
-/
import Derived.Test.YtjpdjaglggcbkaaZam23
namespace Go.Zam
set_option linter.all false
set_option maxRecDepth 100000
set_option maxHeartbeats 1000000

/-- a row of an array that is written -/
def rowE {α : Type} (enc : α → List D) (e : α) : List A := (enc e).map .d
/-- an array that is written -/
def arrE {α : Type} (enc : α → List D) (sz : Nat) (L : List α) : Ob := .arr sz (L.map (rowE enc))

section
variable {α : Type} {enc : α → List D} {sz : Nat}

theorem rowE_length (hsz : ∀ x, (enc x).length = sz) (x : α) : (rowE enc x).length = sz := by simp [rowE, hsz]
theorem rowE_flat (x : α) : (rowE enc x).all A.flat = true := by simp [rowE, A.flat]
theorem rowE_flat2 (x : α) : (∀ u, u ∈ rowE enc x → u.flat = true) = True := eq_true fun u hu => by obtain ⟨d, -, rfl⟩ := List.mem_map.1 hu; rfl
theorem arrE_clr (n : Nat) (L : List α) : (arrE enc sz L).clr n = arrE enc sz L := by
  simp only [arrE, Ob.clr, List.map_map]
  congr 1
  refine List.map_congr_left fun x _ => ?_
  simp [rowE, A.clr0]

theorem setL_whole {β : Type} : ∀ (cs pre r : List β), r.length = cs.length → setL (pre ++ r) pre.length cs = pre ++ cs
  | [], pre, r, h => by
    have : r = [] := List.eq_nil_of_length_eq_zero (by simpa using h)
    subst this; rfl
  | x :: cs, pre, [], h => by simp at h
  | x :: cs, pre, y :: r, h => by
    rw [setL]
    have h1 : (pre ++ y :: r).set pre.length x = (pre ++ [x]) ++ r := by simp
    rw [h1]
    have := setL_whole cs (pre ++ [x]) r (by simpa using h)
    simp only [List.length_append, List.length_singleton] at this
    rw [this]; simp

theorem arr_iaddr {H : Hp} {i n : Nat} {L : List α} (hi : H[i]? = some (arrE enc sz L)) {k : Nat} {q : Int} (hq : q = k) (hk : k < n) :
    iaddrA H sz (.msl i 0 n) (.d (.int .i64 q)) = some (.aptr i k 0) := by
  subst hq
  simp only [iaddrA, hi, arrE]
  rw [if_pos ⟨trivial, by omega, by omega⟩]
  simp

theorem arr_ld (hsz : ∀ x, (enc x).length = sz) {H : Hp} {i : Nat} {L : List α} (hi : H[i]? = some (arrE enc sz L)) {k : Nat} {e : α} (hk : L[k]? = some e) : ldA H sz (.aptr i k 0) = some (rowE enc e) := by
  simp only [ldA, hi, arrE, List.getElem?_map, hk, Option.map_some, cutL, rowE_length hsz]
  rw [if_pos (by omega)]
  simp [← rowE_length hsz e]

theorem arr_st (hsz : ∀ x, (enc x).length = sz) {H : Hp} {i : Nat} {L : List α} (hi : H[i]? = some (arrE enc sz L)) {k : Nat} {e : α} (hk : k < L.length) : stA H (rowE enc e) (.aptr i k 0) = some (H.set i (arrE enc sz (L.set k e))) := by
  have h1 : (L.map (rowE enc))[k]? = some (rowE enc L[k]) := by simp [hk]
  simp only [stA, hi, arrE, h1, rowE_length hsz]
  rw [if_pos (by omega)]
  have := setL_whole (rowE enc e) [] (rowE enc L[k]) (by simp [rowE_length hsz])
  simp only [List.nil_append, List.length_nil] at this
  rw [this, List.map_set]

end

theorem Hp.cut_set (n i : Nat) (H : Hp) (x : Ob) : Hp.cut n (H.set i x) = (Hp.cut n H).set i (x.clr n) := by
  simp only [Hp.cut, List.take_set, List.map_set]

theorem get_mid {α : Type} {L u v : List α} {e : α} {k : Nat} (h : L = u ++ e :: v) (hk : k = u.length) : L[k]? = some e := by
  subst h; subst hk; simp
theorem set_mid {α : Type} {L u v : List α} {e e' : α} {k : Nat} (h : L = u ++ e :: v) (hk : k = u.length) : L.set k e' = u ++ e' :: v := by
  subst h; subst hk; simp

theorem clr_d (m : Nat) (x : D) : (A.d x).clr m = .d x := by simp
theorem clr_msl {i m : Nat} (h : i < m) (a b : Nat) : (A.msl i a b).clr m = .msl i a b := by simp [h]

theorem set_same {α : Type} {l : List α} {i : Nat} {x : α} (h : l[i]? = some x) : l.set i x = l := by
  obtain ⟨h1, h2⟩ := List.getElem?_eq_some_iff.1 h
  subst h2; simp

section
variable {P : Program} {α : Type} {enc : α → List D} {sz : Nat}

theorem swapRange_acall (hsz : ∀ x, (enc x).length = sz) {f : FuncId} {fn : Func} (hf : P.funcs[f]? = some fn) (hcf : compF P [] fn = some (irSwapRange sz))
    {H : Hp} {i : Nat} {g : A} {L p x r y q : List α} {a b n : Int} (hL : L = p ++ (x ++ (r ++ (y ++ q)))) (hxy : x.length = y.length) (ha : a = p.length) (hb : b = p.length + x.length + r.length) (hn : n = x.length)
    (hi : H[i]? = some (arrE enc sz L)) (hbd : L.length ≤ 1099511627776) :
    ACall P f [.msl i 0 L.length, .d (.int .i64 a), .d (.int .i64 b), .d (.int .i64 n), g] H (fun r' H' => r' = .tup [] ∧ H' = H.set i (arrE enc sz (p ++ (y ++ (r ++ (x ++ q)))))) := by
  have hil : i < H.length := (List.getElem?_eq_some_iff.1 hi).1
  have hgs : ∀ X : Ob, (H.set i X)[i]? = some X := fun X => List.getElem?_set_self hil
  have hLl : p.length + x.length + r.length + y.length + q.length = L.length := by rw [hL]; simp; omega
  refine acall_fin hf hcf (by simp [irSwapRange]) fun hcl _ => ?_
  simp [irSwapRange]
  refine LoopK_of H.length (fun fr H' => ∃ x1 x2 y1 y2 M, ∃ k : Nat, M = p ++ ((y1 ++ x2) ++ (r ++ ((x1 ++ y2) ++ q))) ∧ x = x1 ++ x2 ∧ y = y1 ++ y2 ∧ x1.length = k ∧ y1.length = k ∧
      fr 0 = .msl i 0 L.length ∧ fr 1 = .d (.int .i64 a) ∧ fr 2 = .d (.int .i64 b) ∧ fr 3 = .d (.int .i64 n) ∧ fr 10 = .d (.int .i64 (k : Int)) ∧ H' = H.set i (arrE enc sz M))
    (fun fr H' => match fr 10 with | .d (.int _ k) => (n - k).toNat | _ => 0) (by simp) ?_ ?_
  · refine ⟨[], x, [], y, L, 0, by simpa using hL, ?_⟩
    simp [cut_self hcl, set_same hi, hil]
  rintro fr H' ⟨x1, x2, y1, y2, M, k, hM, hx, hy, hx1, hy1, f0, f1, f2, f3, f10, rfl⟩
  simp [f3, f10]
  refine BrK_split (fun h => ?_) (fun h => ?_)
  · simp only [decide_eq_true_eq] at h
    have hxl : x.length = x1.length + x2.length := by rw [hx]; simp
    have hyl : y.length = y1.length + y2.length := by rw [hy]; simp
    obtain ⟨e, x2, rfl⟩ : ∃ e r, x2 = e :: r := by
      cases x2 with
      | nil => simp at hxl; omega
      | cons e r => exact ⟨e, r, rfl⟩
    obtain ⟨d, y2, rfl⟩ : ∃ e r, y2 = e :: r := by
      cases y2 with
      | nil => simp at hyl; omega
      | cons e r => exact ⟨e, r, rfl⟩
    simp only [List.length_cons] at hxl hyl
    have w1 : IntKind.i64.wrap (a + k) = a + k := wrap_i64 (by omega) (by omega)
    have w2 : IntKind.i64.wrap (b + k) = b + k := wrap_i64 (by omega) (by omega)
    have hw : IntKind.i64.wrap ((k : Int) + 1) = k + 1 := wrap_i64 (by omega) (by omega)
    have hMl : M.length = L.length := by rw [hM]; simp; omega
    have m1 : M = (p ++ y1) ++ e :: (x2 ++ (r ++ ((x1 ++ d :: y2) ++ q))) := by rw [hM]; simp
    have m2 : M = (p ++ (y1 ++ e :: x2) ++ r ++ x1) ++ d :: (y2 ++ q) := by rw [hM]; simp
    have g1 := get_mid (k := p.length + k) m1 (by simp; omega)
    have g2 := get_mid (k := p.length + x.length + r.length + k) m2 (by simp; omega)
    have s1 := set_mid (e' := d) (k := p.length + k) m1 (by simp; omega)
    have m3 : M.set (p.length + k) d = (p ++ (y1 ++ d :: x2) ++ r ++ x1) ++ d :: (y2 ++ q) := by rw [s1]; simp
    have s2 := set_mid (e' := e) (k := p.length + x.length + r.length + k) m3 (by simp; omega)
    have i1 : ∀ M' : List α, iaddrA (H.set i (arrE enc sz M')) sz (.msl i 0 L.length) (.d (.int .i64 (a + k))) = some (.aptr i (p.length + k) 0) := fun M' => arr_iaddr (hgs _) (by omega) (by omega)
    have i2 : ∀ M' : List α, iaddrA (H.set i (arrE enc sz M')) sz (.msl i 0 L.length) (.d (.int .i64 (b + k))) = some (.aptr i (p.length + x.length + r.length + k) 0) := fun M' => arr_iaddr (hgs _) (by omega) (by omega)
    have l1 := arr_ld hsz (hgs (arrE enc sz M)) g1
    have l2 := arr_ld hsz (hgs (arrE enc sz M)) g2
    have t1 := arr_st hsz (hgs (arrE enc sz M)) (k := p.length + k) (e := d) (by omega)
    have t2 := arr_st hsz (hgs (arrE enc sz (M.set (p.length + k) d))) (k := p.length + x.length + r.length + k) (e := e) (by simp; omega)
    rw [List.set_set] at t1 t2
    rw [s2] at t2
    have hE : ∀ z : α, (rowE enc z).length = sz := rowE_length hsz
    have hF : ∀ z : α, (∀ u, u ∈ rowE enc z → u.flat = true) = True := rowE_flat2
    simp [f0, f1, f2, f3, f10, w1, w2, i1, i2, l1, l2, t1, t2, hE, hF, -iaddrA, -ldA, -stA, -A.flat]
    simp [f10, hw]
    refine AgainK_of (m := H.length) (by simp) ⟨x1 ++ [e], x2, y1 ++ [d], y2, p ++ (y1 ++ d :: x2) ++ r ++ x1 ++ e :: (y2 ++ q), k + 1, by simp, by simpa using hx, by simpa using hy, by simp [hx1], by simp [hy1], ?_⟩ ?_
    · simp [f0, f1, f2, f3, f10, Hp.cut_set, cut_self hcl, arrE_clr, hil, -Ob.clr]
    · simp; omega
  · simp only [decide_eq_false_iff_not] at h
    have hx2 : x2 = [] := by
      have := congrArg List.length hx
      simp at this
      exact List.eq_nil_of_length_eq_zero (by omega)
    have hy2 : y2 = [] := by
      have := congrArg List.length hy
      simp at this
      exact List.eq_nil_of_length_eq_zero (by omega)
    subst hx2; subst hy2
    simp only [List.append_nil] at hx hy
    subst hx; subst hy
    simp [RetK, Hp.cut_set, cut_self hcl, arrE_clr, hM, -Ob.clr]

theorem rotate_acall (hsz : ∀ x, (enc x).length = sz) {f f2 : FuncId} {fn fn2 : Func} (hf : P.funcs[f]? = some fn) (hcf : compF P [] fn = some (irRotate f2)) (hf2 : P.funcs[f2]? = some fn2) (hcf2 : compF P [] fn2 = some (irSwapRange sz))
    {H : Hp} {i : Nat} {g : A} (hg : ∀ m, H.length ≤ m → g.clr m = g) {L p x y q : List α} {a m b : Int} (hL : L = p ++ (x ++ (y ++ q))) (hx0 : 0 < x.length) (hy0 : 0 < y.length) (ha : a = p.length) (hm : m = p.length + x.length) (hb : b = p.length + x.length + y.length)
    (hi : H[i]? = some (arrE enc sz L)) (hbd : L.length ≤ 1099511627776) :
    ACall P f [.msl i 0 L.length, .d (.int .i64 a), .d (.int .i64 m), .d (.int .i64 b), g] H (fun r' H' => r' = .tup [] ∧ H' = H.set i (arrE enc sz (p ++ (y ++ (x ++ q))))) := by
  have hil : i < H.length := (List.getElem?_eq_some_iff.1 hi).1
  have hgs : ∀ X : Ob, (H.set i X)[i]? = some X := fun X => List.getElem?_set_self hil
  have hLl : p.length + x.length + y.length + q.length = L.length := by rw [hL]; simp; omega
  have w1 : IntKind.i64.wrap (m - a) = m - a := wrap_i64 (by omega) (by omega)
  have w2 : IntKind.i64.wrap (b - m) = b - m := wrap_i64 (by omega) (by omega)
  refine acall_fin hf hcf (by simp [irRotate]) fun hcl _ => ?_
  simp [irRotate, w1, w2]
  refine LoopK_of H.length (fun fr H' => ∃ p' x' y' q' M, M = p' ++ (x' ++ (y' ++ q')) ∧ p' ++ (y' ++ (x' ++ q')) = p ++ (y ++ (x ++ q)) ∧ M.length = L.length ∧ (p'.length : Int) + x'.length = m ∧ 0 < x'.length ∧ 0 < y'.length ∧
      fr 0 = .msl i 0 L.length ∧ fr 2 = .d (.int .i64 m) ∧ fr 4 = g ∧ fr 10 = .d (.int .i64 (x'.length : Int)) ∧ fr 11 = .d (.int .i64 (y'.length : Int)) ∧ H' = H.set i (arrE enc sz M))
    (fun fr H' => match fr 10, fr 11 with | .d (.int _ k), .d (.int _ l) => (k + l).toNat | _, _ => 0) (by simp) ?_ ?_
  · refine ⟨p, x, y, q, L, hL, rfl, rfl, by omega, hx0, hy0, ?_⟩
    simp [cut_self hcl, set_same hi, hil, hg, w1, w2, clr_d, clr_msl hil, -A.clr]
    omega
  rintro fr H' ⟨p', x', y', q', M, hM, he, hMl, hpx, hx1, hy1, f0, f2, f4, f10, f11, rfl⟩
  have hMl2 : p'.length + x'.length + y'.length + q'.length = L.length := by rw [← hMl, hM]; simp; omega
  have v1 : IntKind.i64.wrap (m - x'.length) = m - x'.length := wrap_i64 (by omega) (by omega)
  have v2 : IntKind.i64.wrap (m + y'.length) = m + y'.length := wrap_i64 (by omega) (by omega)
  have v3 : IntKind.i64.wrap (m + y'.length - x'.length) = m + y'.length - x'.length := wrap_i64 (by omega) (by omega)
  have v4 : IntKind.i64.wrap ((x'.length : Int) - y'.length) = x'.length - y'.length := wrap_i64 (by omega) (by omega)
  have v5 : IntKind.i64.wrap ((y'.length : Int) - x'.length) = y'.length - x'.length := wrap_i64 (by omega) (by omega)
  simp [f10, f11]
  refine BrK_split (fun h => ?_) (fun h => ?_)
  · have hne : x'.length ≠ y'.length := by simp at h; omega
    simp [f0, f2, f4, f10, f11]
    refine BrK_split (fun h2 => ?_) (fun h2 => ?_)
    · have h2 : y'.length < x'.length := by simpa using h2
      -- x' = u ++ v, |u| = |y'| : swap u and y'
      obtain ⟨u, v, hx', hu⟩ : ∃ u v, x' = u ++ v ∧ u.length = y'.length := ⟨x'.take y'.length, x'.drop y'.length, by simp, by simp; omega⟩
      have hl' : x'.length = u.length + v.length := by rw [hx']; simp
      have hsw := swapRange_acall hsz hf2 hcf2 (H := H.set i (arrE enc sz M)) (i := i) (g := g) (L := M) (p := p') (x := u) (r := v) (y := y') (q := q') (a := m - x'.length) (b := m) (n := y'.length)
        (by rw [hM, hx']; simp) hu (by omega) (by omega) (by omega) (hgs _) (by omega)
      rw [hMl, List.set_set] at hsw
      simp [f0, f2, f4, f10, f11, v1]
      refine CallK_of' hsw ?_
      simp [f10, f11, v4]
      have hv : ((x'.length : Int) - y'.length) = v.length := by omega
      refine AgainK_of (m := H.length) (by simp) ⟨p' ++ y', v, u, q', p' ++ (y' ++ (v ++ (u ++ q'))), by simp, ?_, ?_, ?_, by omega, by omega, ?_⟩ ?_
      · rw [← he, hx']; simp
      · simp; omega
      · simp; omega
      · simp [f0, f2, f4, f10, f11, hg, Hp.cut_set, cut_self hcl, arrE_clr, hv, hu, clr_d, clr_msl hil, -Ob.clr, -A.clr]
      · simp [f11]; omega
    · have h2 : x'.length < y'.length := by simp at h2; omega
      -- y' = u ++ v, |v| = |x'| : swap x' and v
      obtain ⟨u, v, hy', hv⟩ : ∃ u v, y' = u ++ v ∧ v.length = x'.length := ⟨y'.take (y'.length - x'.length), y'.drop (y'.length - x'.length), by simp, by simp; omega⟩
      have hl' : y'.length = u.length + v.length := by rw [hy']; simp
      have hsw := swapRange_acall hsz hf2 hcf2 (H := H.set i (arrE enc sz M)) (i := i) (g := g) (L := M) (p := p') (x := x') (r := u) (y := v) (q := q') (a := m - x'.length) (b := m + y'.length - x'.length) (n := x'.length)
        (by rw [hM, hy']; simp) hv.symm (by omega) (by omega) rfl (hgs _) (by omega)
      rw [hMl, List.set_set] at hsw
      simp [f0, f2, f4, f10, f11, v1, v2, v3]
      refine CallK_of' hsw ?_
      simp [f10, f11, v5]
      have hu : ((y'.length : Int) - x'.length) = u.length := by omega
      refine AgainK_of (m := H.length) (by simp) ⟨p', v, u, x' ++ q', p' ++ (v ++ (u ++ (x' ++ q'))), by simp, ?_, ?_, ?_, by omega, by omega, ?_⟩ ?_
      · rw [← he, hy']; simp
      · simp; omega
      · omega
      · simp [f0, f2, f4, f10, f11, hg, Hp.cut_set, cut_self hcl, arrE_clr, hu, hv, clr_d, clr_msl hil, -Ob.clr, -A.clr]
      · simp [f10]; omega
  · have heq : x'.length = y'.length := by simp at h; omega
    have hsw := swapRange_acall hsz hf2 hcf2 (H := H.set i (arrE enc sz M)) (i := i) (g := g) (L := M) (p := p') (x := x') (r := []) (y := y') (q := q') (a := m - x'.length) (b := m) (n := x'.length)
      (by rw [hM]; simp) heq (by omega) (by simp; omega) rfl (hgs _) (by omega)
    rw [hMl, List.set_set] at hsw
    simp [f0, f2, f4, f10, f11, v1]
    refine CallK_of' hsw ?_
    simp [RetK, Hp.cut_set, cut_self hcl, arrE_clr, he, -Ob.clr]

end
end Go.Zam
