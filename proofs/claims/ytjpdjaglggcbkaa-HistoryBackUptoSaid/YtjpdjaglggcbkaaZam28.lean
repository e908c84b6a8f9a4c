/-
  An abstract machine over the model, twenty-eighth part: the library's SortStableFunc and Clone: what they compute. Lengths are bounded.
-/
import Derived.Test.YtjpdjaglggcbkaaZam27
namespace Go.Zam
set_option linter.all false
set_option maxRecDepth 100000
set_option maxHeartbeats 2000000

section
variable {P : Program} {α : Type} {enc : α → List D} {sz : Nat} {c : α → α → Int}

def Blk (c : α → α → Int) (n : Nat) (l : List α) : Prop := ∀ j, Sorted c ((l.drop (j * n)).take n)

theorem Sorted.take {l : List α} (h : Sorted c l) (n : Nat) : Sorted c (l.take n) := by
  have h' : Sorted c (l.take n ++ l.drop n) := by rwa [List.take_append_drop]
  exact (Sorted.append.1 h').1
theorem Sorted.drop {l : List α} (h : Sorted c l) (n : Nat) : Sorted c (l.drop n) := by
  have h' : Sorted c (l.take n ++ l.drop n) := by rwa [List.take_append_drop]
  exact (Sorted.append.1 h').2.1

theorem Blk.append {n k : Nat} {a s : List α} (h : Blk c n a) (hl : a.length = k * n) (hs : Sorted c s) (hsl : s.length ≤ n) : Blk c n (a ++ s) := fun j => by
  by_cases hj : j < k
  · have h1 : (j + 1) * n ≤ k * n := Nat.mul_le_mul_right _ hj
    rw [Nat.add_mul] at h1
    rw [List.drop_append_of_le_length (by omega), List.take_append_of_le_length (by simp; omega)]
    exact h j
  · have h1 : k * n ≤ j * n := Nat.mul_le_mul_right _ (by omega)
    rw [List.drop_append, List.drop_eq_nil_of_le (by omega), List.nil_append]
    exact (hs.drop _).take _

theorem Blk.drop {n : Nat} {a : List α} (h : Blk c n a) (k : Nat) : Blk c n (a.drop (k * n)) := fun j => by
  rw [List.drop_drop, ← Nat.add_mul]; exact h _

theorem Blk.nil (n : Nat) : Blk c n [] := fun j => by simp [Sorted]

theorem Blk.first {n : Nat} {a : List α} (h : Blk c n a) : Sorted c (a.take n) := by simpa using h 0
theorem Blk.all {n : Nat} {a : List α} (h : Blk c n a) (hl : a.length ≤ n) : Sorted c a := by
  have := h.first; rwa [List.take_of_length_le hl] at this

theorem stable_acall (hsz : ∀ x, (enc x).length = sz) (hc : Cmp c) {f f1 f2 f3 f4 : FuncId} {fn fn1 fn2 fn3 fn4 : Func} (hf : P.funcs[f]? = some fn) (hcf : compF P [] fn = some (irStable f1 f2))
    (hf1 : P.funcs[f1]? = some fn1) (hcf1 : compF P [] fn1 = some (irInsertion sz)) (hf2 : P.funcs[f2]? = some fn2) (hcf2 : compF P [] fn2 = some (irSymMerge sz f3 f2)) (hf3 : P.funcs[f3]? = some fn3) (hcf3 : compF P [] fn3 = some (irRotate f4))
    (hf4 : P.funcs[f4]? = some fn4) (hcf4 : compF P [] fn4 = some (irSwapRange sz)) {g : A} (hcmp : CmpA P enc c g)
    {H : Hp} {i : Nat} {L : List α} (hg : ∀ m, H.length ≤ m → g.clr m = g) (hi : H[i]? = some (arrE enc sz L)) (hbd : L.length ≤ 1099511627776) :
    ACall P f [.msl i 0 L.length, .d (.int .i64 L.length), g] H (fun r' H' => r' = .tup [] ∧ H' = H.set i (arrE enc sz (ssort c L))) := by
  have hil : i < H.length := (List.getElem?_eq_some_iff.1 hi).1
  have hgs : ∀ X : Ob, (H.set i X)[i]? = some X := fun X => List.getElem?_set_self hil
  have hins : ∀ (M p s q : List α) (a b : Int), M = p ++ (s ++ q) → M.length = L.length → a = p.length → b = p.length + s.length →
      ACall P f1 [.msl i 0 L.length, .d (.int .i64 a), .d (.int .i64 b), g] (H.set i (arrE enc sz M)) (fun r' H' => r' = .tup [] ∧ H' = H.set i (arrE enc sz (p ++ (ssort c s ++ q)))) := fun M p s q a b h1 h2 h3 h4 => by
    have := insertion_acall hsz hc hf1 hcf1 (H := H.set i (arrE enc sz M)) (i := i) (g := g) (fun m hm => hg m (by simpa using hm)) hcmp h1 h3 h4 (hgs _) (by omega)
    rwa [h2, List.set_set] at this
  have hsym : ∀ (M p x y q : List α) (a m b : Int), M = p ++ (x ++ (y ++ q)) → M.length = L.length → 0 < x.length → 0 < y.length → Sorted c x → Sorted c y → a = p.length → m = p.length + x.length → b = p.length + x.length + y.length →
      ACall P f2 [.msl i 0 L.length, .d (.int .i64 a), .d (.int .i64 m), .d (.int .i64 b), g] (H.set i (arrE enc sz M)) (fun r' H' => r' = .tup [] ∧ H' = H.set i (arrE enc sz (p ++ (ssort c (x ++ y) ++ q)))) := fun M p x y q a m b h1 h2 h3 h4 h5 h6 h7 h8 h9 => by
    have := symMerge_acall hsz hc hf2 hcf2 hf3 hcf3 hf4 hcf4 hcmp H.length (x.length + y.length) (H.set i (arrE enc sz M)) i M p x y q a m b hg (by simp) (Nat.le_refl _) h3 h4 h5 h6 h1 h7 h8 h9 (hgs _) (by omega)
    rwa [h2, List.set_set] at this
  refine acall_fin hf hcf (by simp [irStable]) fun hcl _ => ?_
  unfold irStable
  refine seq_of (fun fr H' => H' = H ∧ fr 0 = .msl i 0 L.length ∧ fr 1 = .d (.int .i64 L.length) ∧ fr 2 = g ∧ fr 6 = .d (.int .i64 20)) ?_ ?_
  · simp
  rintro fr H1 ⟨hH1, f0, f1', f2', f6⟩
  rw [hH1]; clear hH1 H1
  refine seq_of (fun fr H' => H' = H ∧ fr 0 = .msl i 0 L.length ∧ fr 1 = .d (.int .i64 L.length) ∧ fr 2 = g ∧ fr 6 = .d (.int .i64 20) ∧ fr 7 = .d (.int .i64 0) ∧ fr 8 = .d (.int .i64 20)) ?_ ?_
  · simp [f0, f1', f2', f6]
  clear f0 f1' f2' f6 fr
  rintro fr H1 ⟨hH1, f0, f1', f2', f6, f7, f8⟩
  rw [hH1]; clear hH1 H1
  -- blocks of twenty
  refine seq_of (fun fr H' => ∃ done rest : List α, ∃ k : Nat, Alk c L (done ++ rest) ∧ Blk c 20 done ∧ done.length = k * 20 ∧ rest.length < 20 ∧ H' = H.set i (arrE enc sz (done ++ rest)) ∧ fr 0 = .msl i 0 L.length ∧ fr 1 = .d (.int .i64 L.length) ∧ fr 2 = g ∧ fr 6 = .d (.int .i64 20) ∧ fr 7 = .d (.int .i64 (done.length : Int))) ?_ ?_
  · simp
    refine LoopK_of H.length (fun fr H' => ∃ done rest : List α, ∃ k : Nat, Alk c L (done ++ rest) ∧ Blk c 20 done ∧ done.length = k * 20 ∧ H' = H.set i (arrE enc sz (done ++ rest)) ∧ fr 0 = .msl i 0 L.length ∧ fr 1 = .d (.int .i64 L.length) ∧ fr 2 = g ∧ fr 6 = .d (.int .i64 20) ∧ fr 7 = .d (.int .i64 (done.length : Int)) ∧ fr 8 = .d (.int .i64 (done.length + 20 : Int)))
      (fun fr H' => match fr 8 with | .d (.int _ k) => (L.length + 20 - k).toNat | _ => 0) (by simp) ?_ ?_
    · refine ⟨[], L, 0, Alk.refl _, Blk.nil _, by simp, ?_⟩
      simp [f0, f1', f2', f6, f7, f8, cut_self hcl, set_same hi, hil, hg, clr_d, clr_msl hil, -A.clr]
    clear f0 f1' f2' f6 f7 f8 fr
    rintro fr H1 ⟨done, rest, k, hal, hbl, hdl, hH1, f0, f1', f2', f6, f7, f8⟩
    rw [hH1]
    have hlen := (hal.length hc).length_eq
    simp only [List.length_append] at hlen
    simp [f1', f8]
    refine BrK_split (fun h => ?_) (fun h => ?_)
    · have h : 20 ≤ rest.length := by simp at h; omega
      have v1 : IntKind.i64.wrap ((done.length : Int) + 20 + 20) = done.length + 20 + 20 := wrap_i64 (by omega) (by omega)
      have hcall := hins (done ++ rest) done (rest.take 20) (rest.drop 20) done.length (done.length + 20) (by simp) (by simp; omega) rfl (by simp; omega)
      simp [f0, f1', f2', f6, f7, f8]
      refine CallK_of' hcall ?_
      simp [f0, f1', f2', f6, f7, f8, v1]
      obtain ⟨q1, q2⟩ := ssort_spec hc (rest.take 20)
      have hql := ssort_length hc (rest.take 20)
      simp only [List.length_take] at hql
      refine AgainK_of (m := H.length) (by simp) ⟨done ++ ssort c (rest.take 20), rest.drop 20, k + 1, ?_, hbl.append hdl q1 (by omega), by simp [hql]; omega, ?_⟩ ?_
      · refine hal.trans ?_
        have := (Alk.refl done).append (q2.append (Alk.refl (rest.drop 20)))
        rw [List.take_append_drop] at this
        simpa using this
      · simp [f0, f1', f2', f6, f7, f8, v1, hql, Hp.cut_set, cut_self hcl, arrE_clr, hil, hg, clr_d, clr_msl hil, -A.clr, -Ob.clr]
        omega
      · simp [v1]; omega
    · have h : ¬ 20 ≤ rest.length := by simp at h; omega
      simp
      exact ⟨done, rest, hal, hbl, ⟨k, hdl⟩, by omega, rfl, f0, f1', f2', f6, f7⟩
  clear f0 f1' f2' f6 f7 f8 fr
  rintro fr H1 ⟨done, rest, k, hal, hbl, hdl, hrl, hH1, f0, f1', f2', f6, f7⟩
  rw [hH1]; clear hH1 H1
  have hlen := (hal.length hc).length_eq
  simp only [List.length_append] at hlen
  -- the last one
  refine seq_of (fun fr H' => ∃ M : List α, Alk c L M ∧ Blk c 20 M ∧ H' = H.set i (arrE enc sz M) ∧ fr 0 = .msl i 0 L.length ∧ fr 1 = .d (.int .i64 L.length) ∧ fr 2 = g ∧ fr 6 = .d (.int .i64 20)) ?_ ?_
  · have hcall := hins (done ++ rest) done rest [] done.length L.length (by simp) (by simp; omega) rfl (by omega)
    simp only [List.append_nil] at hcall
    obtain ⟨q1, q2⟩ := ssort_spec hc rest
    have hql := ssort_length hc rest
    simp [f0, f1', f2', f6, f7]
    refine CallK_of' hcall ?_
    simp [f0, f1', f2', f6, f7]
    exact ⟨_, hal.trans ((Alk.refl done).append q2), hbl.append hdl q1 (by omega), rfl⟩
  clear hal hbl hdl hrl hlen f0 f1' f2' f6 f7
  rintro fr H1 ⟨M, hal, hbl, hH1, f0, f1', f2', f6⟩
  rw [hH1]; clear hH1 H1
  -- merging
  simp
  refine LoopK_of H.length (fun fr H' => ∃ M : List α, ∃ n : Nat, 0 < n ∧ n ≤ 2 * L.length + 20 ∧ Alk c L M ∧ Blk c n M ∧ H' = H.set i (arrE enc sz M) ∧ fr 0 = .msl i 0 L.length ∧ fr 1 = .d (.int .i64 L.length) ∧ fr 2 = g ∧ fr 6 = .d (.int .i64 (n : Int)))
    (fun fr H' => match fr 6 with | .d (.int _ k) => (2 * L.length + 20 - k).toNat | _ => 0) (by simp) ?_ ?_
  · refine ⟨M, 20, by omega, by omega, hal, hbl, ?_⟩
    simp [f0, f1', f2', f6, Hp.cut_set, cut_self hcl, arrE_clr, hil, hg, clr_d, clr_msl hil, -A.clr, -Ob.clr]
  clear hal hbl f0 f1' f2' f6 fr M
  rintro fr H1 ⟨M, n, hn0, hn1, hal, hbl, hH1, f0, f1', f2', f6⟩
  rw [hH1]; clear hH1 H1
  have hlen := (hal.length hc).length_eq
  simp [f1', f6]
  refine BrK_split (fun h => ?_) (fun h => ?_)
  · have h : n < L.length := by simpa using h
    have v0 : IntKind.i64.wrap (2 * (n : Int)) = 2 * n := wrap_i64 (by omega) (by omega)
    have v00 : IntKind.i64.wrap ((n : Int) * 2) = n * 2 := wrap_i64 (by omega) (by omega)
    have f6o := f6
    simp [f0, f1', f2', f6, v0]
    refine LoopK_of H.length (fun fr H' => ∃ done rest : List α, ∃ k : Nat, Alk c L (done ++ rest) ∧ Blk c (2 * n) done ∧ Blk c n rest ∧ done.length = k * (2 * n) ∧ H' = H.set i (arrE enc sz (done ++ rest)) ∧ fr 0 = .msl i 0 L.length ∧ fr 1 = .d (.int .i64 L.length) ∧ fr 2 = g ∧ fr 6 = .d (.int .i64 (n : Int)) ∧ fr 7 = .d (.int .i64 (done.length : Int)) ∧ fr 8 = .d (.int .i64 (done.length + 2 * n : Int)))
      (fun fr H' => match fr 8 with | .d (.int _ k) => (L.length + 2 * n - k).toNat | _ => 0) (by simp) ?_ ?_
    · refine ⟨[], M, 0, hal, Blk.nil _, hbl, by simp, ?_⟩
      simp [f0, f1', f2', f6, v0, Hp.cut_set, cut_self hcl, arrE_clr, hil, hg, clr_d, clr_msl hil, -A.clr, -Ob.clr]
    clear hal hbl f0 f1' f2' f6 hlen
    rintro fr H1 ⟨done, rest, k, hal, hbl, hbr, hdl, hH1, f0, f1', f2', f6, f7, f8⟩
    rw [hH1]; clear hH1 H1
    have hlen := (hal.length hc).length_eq
    simp only [List.length_append] at hlen
    simp [f1', f8]
    have s1 : Sorted c (rest.take n) := hbr.first
    have s2 : Sorted c ((rest.drop n).take n) := by simpa using hbr 1
    refine BrK_split (fun h2 => ?_) (fun h2 => ?_)
    · have h2 : 2 * n ≤ rest.length := by simp at h2; omega
      have v1 : IntKind.i64.wrap ((done.length : Int) + n) = done.length + n := wrap_i64 (by omega) (by omega)
      have v2 : IntKind.i64.wrap ((done.length : Int) + 2 * n + 2 * n) = done.length + 2 * n + 2 * n := wrap_i64 (by omega) (by omega)
      have hcall := hsym (done ++ rest) done (rest.take n) ((rest.drop n).take n) ((rest.drop n).drop n) done.length (done.length + n) (done.length + 2 * n) (by rw [List.take_append_drop, List.take_append_drop]) (by simp; omega) (by simp; omega) (by simp; omega) s1 s2 rfl (by simp; omega) (by simp; omega)
      simp only [List.drop_drop] at hcall
      have e2 : rest.take n ++ (rest.drop n).take n = rest.take (2 * n) := by rw [Nat.two_mul, List.take_add]
      rw [e2, show n + n = 2 * n by omega] at hcall
      simp [f0, f1', f2', f6, f7, f8, v1]
      refine CallK_of' hcall ?_
      simp [f0, f1', f2', f6, f7, f8, v0, v2]
      obtain ⟨q1, q2⟩ := ssort_spec hc (rest.take (2 * n))
      have hql := ssort_length hc (rest.take (2 * n))
      simp only [List.length_take] at hql
      refine AgainK_of (m := H.length) (by simp) ⟨done ++ ssort c (rest.take (2 * n)), rest.drop (2 * n), k + 1, ?_, hbl.append hdl q1 (by omega), hbr.drop 2, by simp [hql, Nat.add_mul]; omega, ?_⟩ ?_
      · refine hal.trans ?_
        have := (Alk.refl done).append (q2.append (Alk.refl (rest.drop (2 * n))))
        rw [List.take_append_drop] at this
        simpa using this
      · simp [f0, f1', f2', f6, f7, f8, v0, v2, hql, Hp.cut_set, cut_self hcl, arrE_clr, hil, hg, clr_d, clr_msl hil, -A.clr, -Ob.clr]
        omega
      · simp [v0, v2]; omega
    · have h2 : ¬ 2 * n ≤ rest.length := by simp at h2; omega
      have v1 : IntKind.i64.wrap ((done.length : Int) + n) = done.length + n := wrap_i64 (by omega) (by omega)
      simp [f0, f1', f2', f6, f7, f8, v1]
      refine BrK_split (fun h3 => ?_) (fun h3 => ?_)
      · have h3 : n < rest.length := by simp at h3; omega
        rw [List.take_of_length_le (by simp; omega)] at s2
        have hcall := hsym (done ++ rest) done (rest.take n) (rest.drop n) [] done.length (done.length + n) L.length (by simp) (by simp; omega) (by simp; omega) (by simp; omega) s1 s2 rfl (by simp; omega) (by simp; omega)
        simp only [List.append_nil, List.take_append_drop] at hcall
        simp [f0, f1', f2', f6, f7, f8]
        refine CallK_of' hcall ?_
        simp [f0, f1', f2', f6, f7, f8, v00]
        obtain ⟨q1, q2⟩ := ssort_spec hc rest
        have hql := ssort_length hc rest
        refine AgainK_of (m := H.length) (by simp) ⟨done ++ ssort c rest, n * 2, by omega, by omega, hal.trans ((Alk.refl done).append q2), by rw [Nat.mul_comm]; exact hbl.append hdl q1 (by omega), ?_⟩ ?_
        · simp [f0, f1', f2', f6, f7, f8, v00, Hp.cut_set, cut_self hcl, arrE_clr, hil, hg, clr_d, clr_msl hil, -A.clr, -Ob.clr]
        · simp [v00, f6o]; omega
      · have h3 : ¬ n < rest.length := by simp at h3; omega
        simp [f0, f1', f2', f6, f7, f8, v00]
        refine AgainK_of (m := H.length) (by simp) ⟨done ++ rest, n * 2, by omega, by omega, hal, by rw [Nat.mul_comm]; exact hbl.append hdl (hbr.all (by omega)) (by omega), ?_⟩ ?_
        · simp [f0, f1', f2', f6, f7, f8, v00, Hp.cut_set, cut_self hcl, arrE_clr, hil, hg, clr_d, clr_msl hil, -A.clr, -Ob.clr]
        · simp [v00, f6o]; omega
  · have h : ¬ n < L.length := by simpa using h
    have hM : M = ssort c L := ssort_uniq hc (hbl.all (by omega)) hal
    simp [RetK, Hp.cut_set, cut_self hcl, arrE_clr, hM, -Ob.clr]

theorem sortStable_acall (hsz : ∀ x, (enc x).length = sz) (hc : Cmp c) {f0 f f1 f2 f3 f4 : FuncId} {fn0 fn fn1 fn2 fn3 fn4 : Func} (hf0 : P.funcs[f0]? = some fn0) (hcf0 : compF P [] fn0 = some (irSortStable f)) (hf : P.funcs[f]? = some fn) (hcf : compF P [] fn = some (irStable f1 f2))
    (hf1 : P.funcs[f1]? = some fn1) (hcf1 : compF P [] fn1 = some (irInsertion sz)) (hf2 : P.funcs[f2]? = some fn2) (hcf2 : compF P [] fn2 = some (irSymMerge sz f3 f2)) (hf3 : P.funcs[f3]? = some fn3) (hcf3 : compF P [] fn3 = some (irRotate f4))
    (hf4 : P.funcs[f4]? = some fn4) (hcf4 : compF P [] fn4 = some (irSwapRange sz)) {g : A} (hcmp : CmpA P enc c g)
    {H : Hp} {i : Nat} {L : List α} (hg : ∀ m, H.length ≤ m → g.clr m = g) (hi : H[i]? = some (arrE enc sz L)) (hbd : L.length ≤ 1099511627776) :
    ACall P f0 [.msl i 0 L.length, g] H (fun r' H' => r' = .tup [] ∧ H' = H.set i (arrE enc sz (ssort c L))) := by
  refine acall_fin hf0 hcf0 (by simp [irSortStable]) fun hcl _ => ?_
  have := stable_acall hsz hc hf hcf hf1 hcf1 hf2 hcf2 hf3 hcf3 hf4 hcf4 hcmp hg hi hbd
  simp [irSortStable]
  refine CallK_of' this ?_
  simp [RetK, Hp.cut_set, cut_self hcl, arrE_clr, -Ob.clr]

/-- of nothing -/
theorem sortStable0_acall {f0 f f1 f2 : FuncId} {fn0 fn fn1 : Func} (hf0 : P.funcs[f0]? = some fn0) (hcf0 : compF P [] fn0 = some (irSortStable f)) (hf : P.funcs[f]? = some fn) (hcf : compF P [] fn = some (irStable f1 f2))
    (hf1 : P.funcs[f1]? = some fn1) (hcf1 : compF P [] fn1 = some (irInsertion sz)) {g : A} {z : Bool} {s : Nat} {H : Hp} (hg : ∀ m, H.length ≤ m → g.clr m = g) :
    ACall P f0 [.d (.sl z s []), g] H (fun r' H' => r' = .tup [] ∧ H' = H) := by
  have h1 : ACall P f1 [.d (.sl z s []), .d (.int .i64 0), .d (.int .i64 0), g] H (fun r' H' => r' = .tup [] ∧ H' = H) := by
    refine acall_fin hf1 hcf1 (by simp [irInsertion]) fun hcl _ => ?_
    have w : IntKind.i64.wrap 1 = 1 := rfl
    simp [irInsertion, w]
    refine LoopK_of H.length (fun fr H' => fr 2 = .d (.int .i64 0) ∧ fr 8 = .d (.int .i64 1) ∧ H' = H) (fun fr H' => 0) (by simp) (by simp [cut_self hcl, w]) ?_
    rintro fr H' ⟨f2, f8, rfl⟩
    simp [f2, f8]
    simp [RetK, cut_self hcl]
  have h2 : ACall P f [.d (.sl z s []), .d (.int .i64 0), g] H (fun r' H' => r' = .tup [] ∧ H' = H) := by
    refine acall_fin hf hcf (by simp [irStable]) fun hcl _ => ?_
    simp [irStable]
    refine LoopK_of H.length (fun fr H' => fr 0 = .d (.sl z s []) ∧ fr 1 = .d (.int .i64 0) ∧ fr 2 = g ∧ fr 6 = .d (.int .i64 20) ∧ fr 7 = .d (.int .i64 0) ∧ fr 8 = .d (.int .i64 20) ∧ H' = H) (fun fr H' => 0) (by simp) (by simp [cut_self hcl, hg, clr_d, -A.clr]) ?_
    rintro fr H' ⟨f0, f1', f2', f6, f7, f8, rfl⟩
    simp [f0, f1', f2', f6, f7, f8]
    refine CallK_of' h1 ?_
    simp
    refine LoopK_of H'.length (fun fr H1 => fr 1 = .d (.int .i64 0) ∧ fr 6 = .d (.int .i64 20) ∧ H1 = H') (fun fr H' => 0) (by simp) (by simp [cut_self hcl, f1', f6]) ?_
    rintro fr H1 ⟨f1', f6, rfl⟩
    simp [f1', f6]
    simp [RetK, cut_self hcl]
  refine acall_fin hf0 hcf0 (by simp [irSortStable]) fun hcl _ => ?_
  simp [irSortStable]
  refine CallK_of' h2 ?_
  simp [RetK, cut_self hcl]

/-- a copy that may be written -/
theorem cloneM0_acall {bytes e : Nat} {f : FuncId} {fn : Func} (hf : P.funcs[f]? = some fn) (hcf : compF P [1000005] fn = some (irCloneM sz bytes e)) {H : Hp} :
    ACall P f [.d (.sl false sz [])] H (fun r H' => r = .msl H.length 0 0 ∧ H' = H ++ [.arr sz []]) := by
  refine acall_fink 1 hf hcf (by simp [irCloneM]) fun hcl _ => ?_
  simp [irCloneM]
  simp [appA]
  simp [RetK, cut_appk hcl]

theorem cloneM_acall {bytes e : Nat} {f : FuncId} {fn : Func} (hf : P.funcs[f]? = some fn) (hcf : compF P [1000005] fn = some (irCloneM sz bytes e)) {H : Hp} {z : Bool} {rows : List (List D)} (hr : rows ≠ []) (hb : rows.length * bytes ≤ 140737488355328) :
    ACall P f [.d (.sl z sz rows)] H (fun r H' => r = .msl (H.length + 1) 0 rows.length ∧ H' = H ++ [.arr sz [], .arr sz (rows.map (List.map .d))]) := by
  cases rows with
  | nil => exact absurd rfl hr
  | cons r rs =>
    refine acall_fink 2 hf hcf (by simp [irCloneM]) fun hcl _ => ?_
    have h1 : (z && (r :: rs).isEmpty) = false := by simp
    have hb' : (rs.length + 1) * bytes ≤ 140737488355328 := hb
    simp [irCloneM]
    simp [appA, hb']
    simp [RetK, cut_appk hcl, A.clr0]

theorem clone0_acall {bytes e : Nat} {f : FuncId} {fn : Func} (hf : P.funcs[f]? = some fn) (hcf : compF P [1000005] fn = some (irCloneM sz bytes e)) {H : Hp} :
    ACall P f [.d (.sl true sz [])] H (fun r H' => r = .d (.sl true sz []) ∧ H' = H) := by
  refine acall_fin hf hcf (by simp [irCloneM]) fun hcl _ => ?_
  simp [irCloneM]
  simp [RetK, cut_self hcl]

end
end Go.Zam
