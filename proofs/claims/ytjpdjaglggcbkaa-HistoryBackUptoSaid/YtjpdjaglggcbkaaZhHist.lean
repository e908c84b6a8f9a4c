/-
  A history on the abstract machine: New, Modules, Do, Undo, Redo. The lengths are bounded.
-/
import Derived.Test.YtjpdjaglggcbkaaZhPure
namespace Go.Proofs.Zh
open Go Go.Zam Go.Proofs
set_option maxRecDepth 100000
set_option linter.all false
set_option maxHeartbeats 1000000

def VecAt (H : Hp) (b h : Nat) (x : A) (l : List Step) : Prop :=
  (x = .d (.sl true 3 []) ∧ l = []) ∨ ∃ i k rows, x = .vsl i k l.length ∧ b ≤ i ∧ i ≠ h ∧ H[i]? = some (.vec 3 75 k rows) ∧ rows.take l.length = l.map encS ∧ l.length ≤ rows.length

def Apart (x y : A) : Prop := ∀ i k l j k' l', x = .vsl i k l → y = .vsl j k' l' → i ≠ j

/-- at `h`, behind `H0`, stands a history -/
def St (H0 : Hp) (h : Nat) (H : Hp) (now : List Mod) (past next : List Step) : Prop :=
  ∃ (X : Hp) (zn : Bool) (vp vn : A), H = H0 ++ X ∧ H.Closed ∧ H0.length ≤ h ∧ H[h]? = some (.box 67 [.d (.sl zn 2 (now.map encM)), vp, vn]) ∧
    VecAt H H0.length h vp past ∧ VecAt H H0.length h vn next ∧ Apart vp vn

theorem encS_len : ∀ x, (encS x).length = 3 := fun _ => rfl

theorem modulesOk {H : Hp} {h : Nat} {z : Bool} {l : List Mod} {vp vn : A} (hh : H[h]? = some (.box 67 [.d (.sl z 2 (l.map encM)), vp, vn])) (hb : l.length ≤ 1048576) :
    ACall Try.prog 9 [.ptr h 0] H (fun r H' => r = .d (.sl (z && l.isEmpty) 2 (l.map encM)) ∧ H' = H) := by
  refine acall_fin Try.func9 cf9 (by simp [ir9]) fun hcl _ => ?_
  simp [ir9, hh]
  refine CallK_of' (cloneD_acall Try.func25 cf25 (by simp; omega)) ?_
  simp [RetK, cut_self hcl]

theorem VecAt.len {H : Hp} {b h : Nat} {x : A} {l : List Step} (v : VecAt H b h x l) : lenA x = some l.length := by
  rcases v with ⟨rfl, rfl⟩ | ⟨i, k, rows, rfl, -⟩ <;> simp

theorem do_err {H0 H : Hp} {h : Nat} {now : List Mod} {past next : List Step} (st : St H0 h H now past next) (note : List UInt8) (z : Bool) (cs : List Chg) (hb : now.length ≤ 1048576) (hc : cs.length ≤ 1048576) (hf : fitM now cs)
    (he : (applyC now [] cs).1 ≠ 0) : ACall Try.prog 11 [.ptr h 0, .d (.str note), .d (.sl z 2 (cs.map encC))] H (fun r H' => r = .d (.int .i64 (applyC now [] cs).1) ∧ H' = H) := by
  obtain ⟨X, zn, vp, vn, hX, hcl0, hh0, hh, vP, vN, hap⟩ := st
  refine acall_fin Try.func11 cf11 (by simp [ir11]) fun hcl _ => ?_
  simp [ir11, hh]
  refine CallK_of' (applyCOk _ _ _ _ _ hb hc hf) ?_
  simp [outC, he]
  simp [RetK, cut_self hcl]

theorem do_walk {H : Hp} {h : Nat} {zn : Bool} {now out : List Mod} {past : List Step} {vp vn : A} {H2 : Hp} {i' k' : Nat} (hh : H[h]? = some (.box 67 [.d (.sl zn 2 (now.map encM)), vp, vn])) (note : List UInt8) (z : Bool) (cs : List Chg)
    (hb : now.length ≤ 1048576) (hc : cs.length ≤ 1048576) (hf : fitM now cs) (he : ∀ c ∈ cs, c.l.length ≤ 1048576) (hp : past.length < 100) (ha : applyC now [] cs = (0, out))
    (happ : appVA (H.set h (.box 67 [.d (.sl (zn && now.isEmpty) 2 (out.map encM)), vp, .d (.sl true 3 [])]) ++ [.tok cs.length 2 63]) 3 64 75 (encS (stepOf now note z cs)) [] vp = some (.vsl i' k' (past.length + 1), H2)) (hH2 : H2[h]? = some (.box 67 [.d (.sl (zn && now.isEmpty) 2 (out.map encM)), vp, .d (.sl true 3 [])])) (k : Nat) (K : A → Hp → Prop)
    (hK : RetK K .mk (H.length + k) (some (.d (.int .i64 0))) (H2.set h (.box 67 [.d (.sl (zn && now.isEmpty) 2 (out.map encM)), .vsl i' k' (past.length + 1), .d (.sl true 3 [])]))) :
    ACall Try.prog 11 [.ptr h 0, .d (.str note), .d (.sl z 2 (cs.map encC))] H K := by
  have hhl : h < H.length := (List.getElem?_eq_some_iff.1 hh).1
  have hh1 : h < H.length + 1 := by omega
  have hg : ∀ L : Hp, (H ++ L)[h]? = some (.box 67 [.d (.sl zn 2 (now.map encM)), vp, vn]) := fun L => by rw [List.getElem?_append_left hhl]; exact hh
  have hs : ∀ (L : Hp) (x : Ob), (H ++ L).set h x = H.set h x ++ L := fun L x => List.set_append_left _ _ hhl
  have hg2 : ∀ (L : Hp) (x : Ob), (H.set h x ++ L)[h]? = some x := fun L x => by rw [List.getElem?_append_left (by simp [hhl])]; simp [hhl]
  have hs2 : ∀ (L : Hp) (x y : Ob), (H.set h x ++ L).set h y = H.set h y ++ L := fun L x y => by rw [List.set_append_left _ _ (by simp [hhl])]; simp
  refine acall_fink k Try.func11 cf11 (by simp [ir11]) fun hcl _ => ?_
  simp [ir11, hh]
  refine CallK_of' (applyCOk _ _ _ _ _ hb hc hf) ?_
  simp [outC, ha]
  refine LoopK_of (H.length + 1) (fun fr H' => ∃ pre rest, cs = pre ++ rest ∧ fr 0 = .ptr h 0 ∧ fr 1 = .d (.str note) ∧ fr 2 = .d (.sl z 2 (cs.map encC)) ∧ fr 7 = .d (.sl (zn && now.isEmpty) 2 (out.map encM)) ∧ fr 9 = .osl true 2 ((undoC now pre).map encC) H.length ∧
      fr 28 = .d (.sl z 2 (cs.map encC)) ∧ fr 29 = .d (.int .i64 cs.length) ∧ fr 30 = .d (.int .i64 (pre.length : Int)) ∧ H' = H ++ [.tok pre.length 2 63])
    (fun fr H' => match fr 30 with | .d (.int _ k) => (cs.length - k).toNat | _ => 0) (by simp) ?_ ?_
  · refine ⟨[], cs, ?_⟩
    simp [cut_appk hcl, undoC, hh1]
  rintro fr H' ⟨pre, rest, hcs, f0, f1, f2, f7, f9, f28, f29, f30, hH⟩
  rw [hH]
  simp [f29, f30]
  refine BrK_split (fun h1 => ?_) (fun h1 => ?_)
  · obtain ⟨c, rest, rfl⟩ : ∃ e r, rest = e :: r := by
      cases rest with
      | nil => rw [hcs] at h1; simp at h1
      | cons e r => exact ⟨e, r, rfl⟩
    have hpl : pre.length < cs.length := by rw [hcs]; simp
    have hw : IntKind.i64.wrap ((pre.length : Int) + 1) = pre.length + 1 := wrap_i64 (by omega) (by omega)
    have hgr : Zam.rowAt (cs.map encC) (pre.length : Int) = some (encC c) := by simp [Zam.rowAt, hcs]
    obtain ⟨j, m, hj, hm, -, hmn, hsd⟩ := applyC_each ha c (by rw [hcs]; simp)
    have hgm : Zam.rowAt (now.map encM) (j : Int) = some (encM m) := by simp [Zam.rowAt, hm]
    simp [f0, f28, f30, hgr, encC, hg]
    refine CallD_of (findDOk _ zn now c.n (by omega)) ?_
    rw [hj]
    simp [hgm, encM]
    have hft : m.t.length + total c.l ≤ 70368744177664 := by
      have h1 := hf m (List.mem_of_getElem? hm)
      have h2 : total c.l ≤ totC cs := by
        have : ∀ (l : List Chg), c ∈ l → total c.l ≤ totC l := by
          intro l
          induction l with
          | nil => intro h; simp at h
          | cons x l ih =>
            intro h
            simp only [totC]
            rcases List.mem_cons.1 h with rfl | h
            · omega
            · have := ih h; omega
        exact this cs (by rw [hcs]; simp)
      omega
    refine CallD_of (invertEOk _ c.z m.t c.l hft) ?_
    rw [hsd]
    have htok : ∀ X : Ob, (H ++ [.tok pre.length 2 63, X])[H.length]? = some (.tok ((undoC now pre).map encC).length 2 63) := fun X => by simp [undoC]
    have happ2 : ∀ X : Ob, appA (H ++ [.tok pre.length 2 63, X]) 2 40 63 [[.str c.n, .sl true 3 ((invS m.t c.l).map encE)]] (.osl true 2 ((undoC now pre).map encC) H.length) = some (.osl true 2 ((undoC now (pre ++ [c])).map encC) H.length, H ++ [.tok (pre.length + 1) 2 63, X]) := fun X => by
      rw [appA_osl (htok X) (by simp [undoC]; omega)]
      have : textM now c.n = m.t := by simp [textM, hj, hm]
      simp [undoC, encC, this]
    simp [f9, f30, hw, happ2]
    refine AgainK_of (m := H.length + 1) (by simp) ⟨pre ++ [c], rest, ?_⟩ ?_
    · simp [f0, f1, f2, f7, f9, f28, f29, f30, cut_appk hcl, hcs, undoC, hh1]
    · simp; omega
  · obtain rfl : rest = [] := by
      cases rest with
      | nil => rfl
      | cons e r => exfalso; rw [hcs] at h1; simp at h1
    rw [List.append_nil] at hcs
    subst hcs
    simp [f0, f1, f2, f7, f9, hg, hs, hg2, hs2]
    refine CallD_of (twinOk _ z cs hc he) ?_
    have hH2l : h < H2.length := (List.getElem?_eq_some_iff.1 hH2).1
    have hH3 : ∀ x : Ob, (H2.set h x)[h]? = some x := fun x => by simp [hH2l]
    have happ3 := happ
    simp only [encS, stepOf] at happ3
    have hle : ¬ (100 : Int) < (past.length : Int) + 1 := by omega
    simp [f0, f9, hg2, hs2, happ3, hH2, hH3, hle, -appVA, -List.map_map]
    exact hK

theorem undo_walk {H : Hp} {h : Nat} {zn : Bool} {now out : List Mod} {next : List Step} {s : Step} {vn : A} {H2 : Hp} {i k len i' k' : Nat} {rows : List (List D)} (hh : H[h]? = some (.box 67 [.d (.sl zn 2 (now.map encM)), .vsl i k (len + 1), vn]))
    (hi : H[i]? = some (.vec 3 75 k rows)) (hrow : rows[len]? = some (encS s)) (hlen : len + 1 ≤ rows.length) (hlb : len ≤ 1048576)
    (hb : now.length ≤ 1048576) (hc : s.u.length ≤ 1048576) (hf : fitM now s.u) (ha : applyC now [] s.u = (0, out))
    (happ : appVA (H ++ [.box 75 (rowE encS s)]) 3 64 75 (encS s) [] vn = some (.vsl i' k' (next.length + 1), H2)) (hH2 : H2[h]? = some (.box 67 [.d (.sl zn 2 (now.map encM)), .vsl i k (len + 1), vn])) (hst : H2[H.length]? = some (.box 75 (rowE encS s))) (kk : Nat) (K : A → Hp → Prop)
    (hK : RetK K .mk (H.length + kk) (some (.tup [.d (.str s.n), .d (.int .i64 0)])) (H2.set h (.box 67 [.d (.sl (zn && now.isEmpty) 2 (out.map encM)), .vsl i k len, .vsl i' k' (next.length + 1)]))) :
    ACall Try.prog 12 [.ptr h 0] H K := by
  have hhl : h < H.length := (List.getElem?_eq_some_iff.1 hh).1
  have hil : i < H.length := (List.getElem?_eq_some_iff.1 hi).1
  have hg : ∀ L : Hp, (H ++ L)[h]? = some (.box 67 [.d (.sl zn 2 (now.map encM)), .vsl i k (len + 1), vn]) := fun L => by rw [List.getElem?_append_left hhl]; exact hh
  have hgi : ∀ L : Hp, (H ++ L)[i]? = some (.vec 3 75 k rows) := fun L => by rw [List.getElem?_append_left hil]; exact hi
  have hH2l : h < H2.length := (List.getElem?_eq_some_iff.1 hH2).1
  have hH3 : ∀ x : Ob, (H2.set h x)[h]? = some x := fun x => by simp [hH2l]
  refine acall_fink kk Try.func12 cf12 (by simp [ir12]) fun hcl _ => ?_
  have h0 : ¬ ((len : Int) + 1 = 0) := by omega
  have hwl : IntKind.i64.wrap (len : Int) = len := wrap_i64 (by omega) (by omega)
  have hlt : (len : Int) < len + 1 := by omega
  have hle : (len : Int) ≤ len + 1 := by omega
  simp [ir12, hh, hi, hrow, encS, h0, hwl, hg, hgi, hlt]
  refine CallD_of (applyCOk _ zn s.uz now s.u hb hc hf) ?_
  simp only [encS, rowE, List.map_cons, List.map_nil] at happ hst
  have hH2s : H.length < H2.length := (List.getElem?_eq_some_iff.1 hst).1
  have hsne : h ≠ H.length := by omega
  have hH3s : ∀ x : Ob, (H2.set h x)[H.length]? = some (.box 75 [.d (.str s.n), .d (.sl s.dz 2 (s.d.map encC)), .d (.sl s.uz 2 (s.u.map encC))]) := fun x => by rw [List.getElem?_set_ne hsne]; exact hst
  simp [outC, ha, hg, hwl, hle, happ, hH2, hH3, hH3s, -appVA]
  exact hK

theorem redo_walk {H : Hp} {h : Nat} {zn : Bool} {now out : List Mod} {next : List Step} {s : Step} {vn : A} {H2 : Hp} {i k len i' k' : Nat} {rows : List (List D)} (hh : H[h]? = some (.box 67 [.d (.sl zn 2 (now.map encM)), vn, .vsl i k (len + 1)]))
    (hi : H[i]? = some (.vec 3 75 k rows)) (hrow : rows[len]? = some (encS s)) (hlen : len + 1 ≤ rows.length) (hlb : len ≤ 1048576)
    (hb : now.length ≤ 1048576) (hc : s.d.length ≤ 1048576) (hf : fitM now s.d) (ha : applyC now [] s.d = (0, out))
    (happ : appVA (H ++ [.box 75 (rowE encS s)]) 3 64 75 (encS s) [] vn = some (.vsl i' k' (next.length + 1), H2)) (hH2 : H2[h]? = some (.box 67 [.d (.sl zn 2 (now.map encM)), vn, .vsl i k (len + 1)])) (hst : H2[H.length]? = some (.box 75 (rowE encS s))) (kk : Nat) (K : A → Hp → Prop)
    (hK : RetK K .mk (H.length + kk) (some (.tup [.d (.str s.n), .d (.int .i64 0)])) (H2.set h (.box 67 [.d (.sl (zn && now.isEmpty) 2 (out.map encM)), .vsl i' k' (next.length + 1), .vsl i k len]))) :
    ACall Try.prog 13 [.ptr h 0] H K := by
  have hhl : h < H.length := (List.getElem?_eq_some_iff.1 hh).1
  have hil : i < H.length := (List.getElem?_eq_some_iff.1 hi).1
  have hg : ∀ L : Hp, (H ++ L)[h]? = some (.box 67 [.d (.sl zn 2 (now.map encM)), vn, .vsl i k (len + 1)]) := fun L => by rw [List.getElem?_append_left hhl]; exact hh
  have hgi : ∀ L : Hp, (H ++ L)[i]? = some (.vec 3 75 k rows) := fun L => by rw [List.getElem?_append_left hil]; exact hi
  have hH2l : h < H2.length := (List.getElem?_eq_some_iff.1 hH2).1
  have hH3 : ∀ x : Ob, (H2.set h x)[h]? = some x := fun x => by simp [hH2l]
  refine acall_fink kk Try.func13 cf13 (by simp [ir13]) fun hcl _ => ?_
  have h0 : ¬ ((len : Int) + 1 = 0) := by omega
  have hwl : IntKind.i64.wrap (len : Int) = len := wrap_i64 (by omega) (by omega)
  have hlt : (len : Int) < len + 1 := by omega
  have hle : (len : Int) ≤ len + 1 := by omega
  simp [ir13, hh, hi, hrow, encS, h0, hwl, hg, hgi, hlt]
  refine CallD_of (applyCOk _ zn s.dz now s.d hb hc hf) ?_
  simp only [encS, rowE, List.map_cons, List.map_nil] at happ hst
  have hH2s : H.length < H2.length := (List.getElem?_eq_some_iff.1 hst).1
  have hsne : h ≠ H.length := by omega
  have hH3s : ∀ x : Ob, (H2.set h x)[H.length]? = some (.box 75 [.d (.str s.n), .d (.sl s.dz 2 (s.d.map encC)), .d (.sl s.uz 2 (s.u.map encC))]) := fun x => by rw [List.getElem?_set_ne hsne]; exact hst
  simp [outC, ha, hg, hwl, hle, happ, hH2, hH3, hH3s, -appVA]
  exact hK

theorem hp_set_app {H0 X : Hp} {i : Nat} {x : Ob} (h : H0.length ≤ i) : (H0 ++ X).set i x = H0 ++ X.set (i - H0.length) x := List.set_append_right _ _ h

theorem vec_clr (sz : Nat) (e : TypeId) (k : Nat) (rows : List (List D)) (n : Nat) : (Ob.vec sz e k rows).clr n = .vec sz e k rows := by simp

theorem box_clr {z : Bool} {l : List Mod} {vp vn : A} {n : Nat} (h1 : vp.clr0 n = vp) (h2 : vn.clr0 n = vn) : (Ob.box 67 [.d (.sl z 2 (l.map encM)), vp, vn]).clr n = .box 67 [.d (.sl z 2 (l.map encM)), vp, vn] := by
  simp only [Ob.clr, List.map_cons, List.map_nil, h1, h2]
  simp

theorem vsl_clr {i k l n : Nat} (h : i < n) : (A.vsl i k l).clr0 n = .vsl i k l := by simp [h]

theorem VecAt.clr {H : Hp} {b h : Nat} {x : A} {l : List Step} (v : VecAt H b h x l) {n : Nat} (hn : H.length ≤ n) : x.clr0 n = x := by
  rcases v with ⟨rfl, rfl⟩ | ⟨i, k, rows, rfl, -, -, hi, -⟩
  · rfl
  · exact vsl_clr (by have := (List.getElem?_eq_some_iff.1 hi).1; omega)

/-- another cell is written -/
theorem VecAt.set {H : Hp} {b h : Nat} {x : A} {l : List Step} (v : VecAt H b h x l) {j : Nat} {y : Ob} (hj : ∀ i k l, x = .vsl i k l → i ≠ j) : VecAt (H.set j y) b h x l := by
  rcases v with h1 | ⟨i, k, rows, rfl, h2, h3, hi, h4, h5⟩
  · exact .inl h1
  · exact .inr ⟨i, k, rows, rfl, h2, h3, by rw [List.getElem?_set_ne (fun e => hj i k _ rfl e.symm)]; exact hi, h4, h5⟩

theorem VecAt.app {H : Hp} {b h : Nat} {x : A} {l : List Step} (v : VecAt H b h x l) (Y : Hp) : VecAt (H ++ Y) b h x l := by
  rcases v with h1 | ⟨i, k, rows, rfl, h2, h3, hi, h4, h5⟩
  · exact .inl h1
  · exact .inr ⟨i, k, rows, rfl, h2, h3, by rw [List.getElem?_append_left (List.getElem?_eq_some_iff.1 hi).1]; exact hi, h4, h5⟩

theorem VecAt.ne {H : Hp} {b h : Nat} {x : A} {l : List Step} (v : VecAt H b h x l) : ∀ i k l, x = .vsl i k l → i ≠ h := by
  rcases v with ⟨rfl, rfl⟩ | ⟨i, k, rows, rfl, h2, h3, hi, h4, h5⟩
  · intro i k l e; cases e
  · intro i k l e; cases e; exact h3

/-- a row is put behind others -/
theorem VecAt.push {H : Hp} {b h : Nat} {x : A} {l : List Step} (v : VecAt H b h x l) (hb : b ≤ H.length) (hh : h < H.length) (hl : l.length ≤ 100000) (s : Step) :
    ∃ i k H', appVA H 3 64 75 (encS s) [] x = some (.vsl i k (l.length + 1), H') ∧ ((x = .d (.sl true 3 []) ∧ i = H.length ∧ H' = H ++ [.vec 3 75 k [encS s]]) ∨ (∃ k0, x = .vsl i k0 l.length ∧ ∃ rows, H' = H.set i (.vec 3 75 k rows) ∧ i < H.length)) ∧ VecAt H' b h (.vsl i k (l.length + 1)) (l ++ [s]) := by
  rcases v with ⟨rfl, rfl⟩ | ⟨i, k, rows, rfl, h2, h3, hi, h4, h5⟩
  · refine ⟨H.length, 0, H ++ [.vec 3 75 0 [encS s]], by simp, .inl ⟨rfl, rfl, rfl⟩, .inr ⟨H.length, 0, [encS s], by simp, hb, by omega, by simp, by simp, by simp⟩⟩
  · have hil : i < H.length := (List.getElem?_eq_some_iff.1 hi).1
    refine ⟨i, k + 1, H.set i (.vec 3 75 (k + 1) (rows.take l.length ++ [encS s])), ?_, .inr ⟨k, rfl, _, rfl, hil⟩, .inr ⟨i, k + 1, rows.take l.length ++ [encS s], by simp, h2, h3, by simp [hil], ?_, ?_⟩⟩
    · have : (l.length + 1) * 64 ≤ 140737488355328 := by omega
      simp [appVA, hi, h5, this]
    · rw [h4, List.take_of_length_le (by simp)]; simp
    · simp; omega

theorem VecAt.unapp {H Y : Hp} {b h : Nat} {x : A} {l : List Step} (v : VecAt (H ++ Y) b h x l) (hx : ∀ i k l, x = .vsl i k l → i < H.length) : VecAt H b h x l := by
  rcases v with h1 | ⟨i, k, rows, rfl, h2, h3, hi, h4, h5⟩
  · exact .inl h1
  · exact .inr ⟨i, k, rows, rfl, h2, h3, by rw [List.getElem?_append_left (hx i k _ rfl)] at hi; exact hi, h4, h5⟩

theorem VecAt.lt {H : Hp} {b h : Nat} {x : A} {l : List Step} (v : VecAt H b h x l) : ∀ i k l, x = .vsl i k l → i < H.length := by
  rcases v with ⟨rfl, rfl⟩ | ⟨i, k, rows, rfl, h2, h3, hi, h4, h5⟩
  · intro i k l e; cases e
  · intro i k l e; cases e; exact (List.getElem?_eq_some_iff.1 hi).1

theorem VecAt.ge {H : Hp} {b h : Nat} {x : A} {l : List Step} (v : VecAt H b h x l) : ∀ i k l, x = .vsl i k l → b ≤ i := by
  rcases v with ⟨rfl, rfl⟩ | ⟨i, k, rows, rfl, h2, h3, hi, h4, h5⟩
  · intro i k l e; cases e
  · intro i k l e; cases e; exact h2

theorem vecNil (H : Hp) (b h : Nat) : VecAt H b h (.d (.sl true 3 [])) [] := .inl ⟨rfl, rfl⟩

theorem apart_nil (x : A) : Apart x (.d (.sl true 3 [])) := fun _ _ _ _ _ _ _ e => by cases e

/-- one step is cut off -/
theorem VecAt.pop {H : Hp} {b h : Nat} {x : A} {l : List Step} {s : Step} (v : VecAt H b h x (l ++ [s])) :
    ∃ i k rows, x = .vsl i k (l.length + 1) ∧ H[i]? = some (.vec 3 75 k rows) ∧ rows[l.length]? = some (encS s) ∧ l.length + 1 ≤ rows.length ∧ VecAt H b h (.vsl i k l.length) l := by
  rcases v with ⟨-, h1⟩ | ⟨i, k, rows, rfl, h2, h3, hi, h4, h5⟩
  · simp at h1
  · simp only [List.length_append, List.length_singleton] at h4 h5 ⊢
    refine ⟨i, k, rows, rfl, hi, ?_, h5, .inr ⟨i, k, rows, rfl, h2, h3, hi, ?_, by omega⟩⟩
    · have := congrArg (fun l' => l'[l.length]?) h4
      simp only [List.getElem?_take_of_lt (show l.length < l.length + 1 by omega)] at this
      rw [this]; simp
    · have := congrArg (fun l' => l'.take l.length) h4
      simp only [List.take_take, Nat.min_eq_left (show l.length ≤ l.length + 1 by omega)] at this
      rw [this]; simp

theorem retK_of {Y : Hp} {r : A} {K : A → Hp → Prop} {n : Nat} (hY : Y.Closed) (hn : Y.length = n) (hr : r.clr n = r) (h : K r Y) : RetK K .mk n (some r) Y := by
  subst hn
  exact ⟨Nat.le_refl _, by rw [hr, cut_self hY]; exact h⟩

theorem retK_cut {Y L : Hp} {r : A} {K : A → Hp → Prop} {n : Nat} (hY : Y.Closed) (hn : Y.length = n) (hr : r.clr n = r) (h : K r Y) : RetK K .mk n (some r) (Y ++ L) := by
  subst hn
  exact ⟨by simp, by rw [hr, cut_app hY]; exact h⟩

theorem St.of {H0 H : Hp} {h : Nat} {now : List Mod} {past next : List Step} {vp vn : A} (hX : ∃ X, H = H0 ++ X) (hcl : H.Closed) (hh0 : H0.length ≤ h) (hh : ∃ zn, H[h]? = some (.box 67 [.d (.sl zn 2 (now.map encM)), vp, vn]))
    (vP : VecAt H H0.length h vp past) (vN : VecAt H H0.length h vn next) (hap : Apart vp vn) : St H0 h H now past next := by
  obtain ⟨X, hX⟩ := hX
  obtain ⟨zn, hh⟩ := hh
  exact ⟨X, zn, vp, vn, hX, hcl, hh0, hh, vP, vN, hap⟩

theorem doOk {H0 H : Hp} {h : Nat} {now out : List Mod} {past next : List Step} (st : St H0 h H now past next) (note : List UInt8) (z : Bool) (cs : List Chg) (hb : now.length ≤ 1048576) (hc : cs.length ≤ 1048576) (hf : fitM now cs)
    (he : ∀ c ∈ cs, c.l.length ≤ 1048576) (hp : past.length < 100) (ha : applyC now [] cs = (0, out)) :
    ACall Try.prog 11 [.ptr h 0, .d (.str note), .d (.sl z 2 (cs.map encC))] H (fun r H' => r = .d (.int .i64 0) ∧ St H0 h H' out (past ++ [stepOf now note z cs]) [] ∧ H.length ≤ List.length H') := by
  obtain ⟨X, zn, vp, vn, hX, hcl0, hh0, hh, vP, vN, hap⟩ := st
  have hhl : h < H.length := (List.getElem?_eq_some_iff.1 hh).1
  have hbl : H0.length ≤ H.length := by rw [hX]; simp
  have hs : ∀ (L : Hp) (x : Ob), (H ++ L).set h x = H.set h x ++ L := fun L x => List.set_append_left _ _ hhl
  have vP' : VecAt (H.set h (.box 67 [.d (.sl (zn && now.isEmpty) 2 (out.map encM)), vp, .d (.sl true 3 [])]) ++ [.tok cs.length 2 63]) H0.length h vp past := (vP.set vP.ne).app _
  obtain ⟨i', k', H2, happ, hform, v'⟩ := vP'.push (by simp; omega) (by simp; omega) (by omega) (stepOf now note z cs)
  rcases hform with ⟨rfl, hi', hH2⟩ | ⟨k0, rfl, rows, hH2, hil⟩
  · have hfin : H2.set h (.box 67 [.d (.sl (zn && now.isEmpty) 2 (out.map encM)), .vsl i' k' (past.length + 1), .d (.sl true 3 [])]) = (H ++ [Ob.tok cs.length 2 63, Ob.vec 3 75 k' [encS (stepOf now note z cs)]]).set h (.box 67 [.d (.sl (zn && now.isEmpty) 2 (out.map encM)), .vsl i' k' (past.length + 1), .d (.sl true 3 [])]) := by
      rw [hH2, List.append_assoc, hs, List.set_append_left _ _ (by simp [hhl])]
      simp
    have hi2 : i' = H.length + 1 := by rw [hi']; simp
    have hH2h : H2[h]? = some (.box 67 [.d (.sl (zn && now.isEmpty) 2 (out.map encM)), .d (.sl true 3 []), .d (.sl true 3 [])]) := by
      rw [hH2, List.append_assoc, List.getElem?_append_left (by simp [hhl])]; simp [hhl]
    refine do_walk (H2 := H2) hh note z cs hb hc hf he hp ha happ hH2h 2 _ ?_
    have v2 := v'.set (j := h) (y := .box 67 [.d (.sl (zn && now.isEmpty) 2 (out.map encM)), .vsl i' k' (past.length + 1), .d (.sl true 3 [])]) v'.ne
    rw [hfin] at v2 ⊢
    have hcl : Hp.Closed ((H ++ [Ob.tok cs.length 2 63, Ob.vec 3 75 k' [encS (stepOf now note z cs)]]).set h (.box 67 [.d (.sl (zn && now.isEmpty) 2 (out.map encM)), .vsl i' k' (past.length + 1), .d (.sl true 3 [])])) := by
      refine Closed.set ?_ _ fun n hn => box_clr (vsl_clr (by simp at hn; omega)) rfl
      have := Closed.snoc (Closed.snoc hcl0 (x := .tok cs.length 2 63) fun _ _ => rfl) (x := .vec 3 75 k' [encS (stepOf now note z cs)]) fun _ _ => rfl
      simpa using this
    refine retK_of hcl (by simp) rfl ⟨rfl, ?_, by simp⟩
    refine St.of ?_ hcl hh0 ?_ v2 (vecNil _ _ _) (apart_nil _)
    · exact ⟨_, by rw [hX, List.append_assoc, hp_set_app hh0]⟩
    · exact ⟨_, List.getElem?_set_self (by simp; omega)⟩
  · have hi' := hil
    simp only [List.length_append, List.length_set] at hil
    have hne : i' ≠ h := vP.ne _ _ _ rfl
    have hilt : i' < H.length := vP.lt _ _ _ rfl
    have hfin : H2.set h (.box 67 [.d (.sl (zn && now.isEmpty) 2 (out.map encM)), .vsl i' k' (past.length + 1), .d (.sl true 3 [])]) = (H.set i' (.vec 3 75 k' rows)).set h (.box 67 [.d (.sl (zn && now.isEmpty) 2 (out.map encM)), .vsl i' k' (past.length + 1), .d (.sl true 3 [])]) ++ [Ob.tok cs.length 2 63] := by
      rw [hH2, List.set_append_left _ _ (by simp [hilt]), List.set_append_left _ _ (by simp [hhl]), List.set_comm _ _ (fun e => hne e.symm), List.set_set]
    have hH2h : H2[h]? = some (.box 67 [.d (.sl (zn && now.isEmpty) 2 (out.map encM)), .vsl i' k0 past.length, .d (.sl true 3 [])]) := by
      rw [hH2, List.getElem?_set_ne hne, List.getElem?_append_left (by simp [hhl])]; simp [hhl]
    refine do_walk (H2 := H2) hh note z cs hb hc hf he hp ha happ hH2h 0 _ ?_
    have v2 := v'.set (j := h) (y := .box 67 [.d (.sl (zn && now.isEmpty) 2 (out.map encM)), .vsl i' k' (past.length + 1), .d (.sl true 3 [])]) v'.ne
    rw [hfin] at v2 ⊢
    have hcl : Hp.Closed ((H.set i' (.vec 3 75 k' rows)).set h (.box 67 [.d (.sl (zn && now.isEmpty) 2 (out.map encM)), .vsl i' k' (past.length + 1), .d (.sl true 3 [])])) := by
      refine Closed.set (Closed.set hcl0 _ fun _ _ => rfl) _ fun n hn => box_clr (vsl_clr (by simp at hn; omega)) rfl
    refine retK_cut hcl (by simp) rfl ⟨rfl, ?_, by simp⟩
    refine St.of ?_ hcl hh0 ?_ (v2.unapp fun i k l e => ?_) (vecNil _ _ _) (apart_nil _)
    · exact ⟨_, by rw [hX, hp_set_app (vP.ge _ _ _ rfl), hp_set_app hh0]⟩
    · exact ⟨_, List.getElem?_set_self (by simp [hhl])⟩
    · cases e; simp [hilt]

theorem undoOk {H0 H : Hp} {h : Nat} {now out : List Mod} {past next : List Step} {s : Step} (st : St H0 h H now (past ++ [s]) next) (hb : now.length ≤ 1048576) (hc : s.u.length ≤ 1048576) (hf : fitM now s.u)
    (hp : past.length ≤ 100000) (hn : next.length ≤ 100000) (ha : applyC now [] s.u = (0, out)) :
    ACall Try.prog 12 [.ptr h 0] H (fun r H' => r = .tup [.d (.str s.n), .d (.int .i64 0)] ∧ St H0 h H' out past (next ++ [s]) ∧ H.length ≤ List.length H') := by
  obtain ⟨X, zn, vp, vn, hX, hcl0, hh0, hh, vP, vN, hap⟩ := st
  have hhl : h < H.length := (List.getElem?_eq_some_iff.1 hh).1
  have hbl : H0.length ≤ H.length := by rw [hX]; simp
  obtain ⟨i, k, rows, rfl, hi, hrow, hlen, vP2⟩ := vP.pop
  have hil := vP.lt _ _ _ rfl
  have hih := vP.ne _ _ _ rfl
  have vN' : VecAt (H ++ [.box 75 (rowE encS s)]) H0.length h vn next := vN.app _
  obtain ⟨i', k', H2, happ, hform, v'⟩ := vN'.push (by simp; omega) (by simp; omega) hn s
  have hii : i' ≠ i := by
    rcases hform with ⟨-, h1, -⟩ | ⟨k0, rfl, -⟩
    · rw [h1]; simp; omega
    · exact fun e => hap _ _ _ _ _ _ rfl rfl e.symm
  rcases hform with ⟨rfl, hi', hH2⟩ | ⟨k0, rfl, rows', hH2, hil'⟩
  · have hi2 : i' = H.length + 1 := by rw [hi']; simp
    have hfin : ∀ y : Ob, H2.set h y = (H ++ [Ob.box 75 (rowE encS s), Ob.vec 3 75 k' [encS s]]).set h y := fun y => by rw [hH2]; simp
    have hH2h : H2[h]? = some (.box 67 [.d (.sl zn 2 (now.map encM)), .vsl i k (past.length + 1), .d (.sl true 3 [])]) := by
      rw [hH2, List.append_assoc, List.getElem?_append_left hhl]; exact hh
    have hst : H2[H.length]? = some (.box 75 (rowE encS s)) := by rw [hH2]; simp
    refine undo_walk (s := s) (next := next) hh hi hrow hlen (by omega) hb hc hf ha happ hH2h hst 2 _ ?_
    have v2 := v'.set (j := h) (y := .box 67 [.d (.sl (zn && now.isEmpty) 2 (out.map encM)), .vsl i k past.length, .vsl i' k' (next.length + 1)]) v'.ne
    have vP3 := (vP2.app [.box 75 (rowE encS s), .vec 3 75 k' [encS s]]).set (j := h) (y := .box 67 [.d (.sl (zn && now.isEmpty) 2 (out.map encM)), .vsl i k past.length, .vsl i' k' (next.length + 1)]) vP2.ne
    rw [hfin] at v2 ⊢
    have hcl : Hp.Closed ((H ++ [Ob.box 75 (rowE encS s), Ob.vec 3 75 k' [encS s]]).set h (.box 67 [.d (.sl (zn && now.isEmpty) 2 (out.map encM)), .vsl i k past.length, .vsl i' k' (next.length + 1)])) := by
      refine Closed.set ?_ _ fun n hn => box_clr (vsl_clr (by simp at hn; omega)) (vsl_clr (by simp at hn; omega))
      have := Closed.snoc (Closed.snoc hcl0 (x := .box 75 (rowE encS s)) fun _ _ => by simp [rowE, encS]) (x := .vec 3 75 k' [encS s]) fun _ _ => rfl
      simpa using this
    refine retK_of hcl (by simp) rfl ⟨rfl, ?_, by simp⟩
    refine St.of ?_ hcl hh0 ?_ vP3 v2 fun a b c d e f e1 e2 => ?_
    · exact ⟨_, by rw [hX, List.append_assoc, hp_set_app hh0]⟩
    · exact ⟨_, List.getElem?_set_self (by simp; omega)⟩
    · cases e1; cases e2; exact fun e => hii e.symm
  · have hilt : i' < H.length := vN.lt _ _ _ rfl
    have hne : i' ≠ h := vN.ne _ _ _ rfl
    have hfin : ∀ y : Ob, H2.set h y = (H.set i' (.vec 3 75 k' rows')).set h y ++ [.box 75 (rowE encS s)] := fun y => by
      rw [hH2, List.set_append_left _ _ hilt, List.set_append_left _ _ (by simp [hhl])]
    have hH2h : H2[h]? = some (.box 67 [.d (.sl zn 2 (now.map encM)), .vsl i k (past.length + 1), .vsl i' k0 next.length]) := by
      rw [hH2, List.getElem?_set_ne hne, List.getElem?_append_left hhl]; exact hh
    have hst : H2[H.length]? = some (.box 75 (rowE encS s)) := by rw [hH2, List.getElem?_set_ne (by omega)]; simp
    refine undo_walk (s := s) (next := next) hh hi hrow hlen (by omega) hb hc hf ha happ hH2h hst 0 _ ?_
    have v2 := v'.set (j := h) (y := .box 67 [.d (.sl (zn && now.isEmpty) 2 (out.map encM)), .vsl i k past.length, .vsl i' k' (next.length + 1)]) v'.ne
    have vP3 := (vP2.set (j := i') (y := .vec 3 75 k' rows') fun a b c e => by cases e; exact fun e => hii e.symm).set (j := h) (y := .box 67 [.d (.sl (zn && now.isEmpty) 2 (out.map encM)), .vsl i k past.length, .vsl i' k' (next.length + 1)]) vP2.ne
    rw [hfin] at v2 ⊢
    have hcl : Hp.Closed ((H.set i' (.vec 3 75 k' rows')).set h (.box 67 [.d (.sl (zn && now.isEmpty) 2 (out.map encM)), .vsl i k past.length, .vsl i' k' (next.length + 1)])) := by
      refine Closed.set (Closed.set hcl0 _ fun _ _ => rfl) _ fun n hn => box_clr (vsl_clr (by simp at hn; omega)) (vsl_clr (by simp at hn; omega))
    refine retK_cut hcl (by simp) rfl ⟨rfl, ?_, by simp⟩
    refine St.of ?_ hcl hh0 ?_ vP3 (v2.unapp fun i k l e => ?_) fun a b c d e f e1 e2 => ?_
    · exact ⟨_, by rw [hX, hp_set_app (vN.ge _ _ _ rfl), hp_set_app hh0]⟩
    · exact ⟨_, List.getElem?_set_self (by simp [hhl])⟩
    · cases e; simp [hilt]
    · cases e1; cases e2; exact fun e => hii e.symm

theorem redoOk {H0 H : Hp} {h : Nat} {now out : List Mod} {past next : List Step} {s : Step} (st : St H0 h H now past (next ++ [s])) (hb : now.length ≤ 1048576) (hc : s.d.length ≤ 1048576) (hf : fitM now s.d)
    (hp : next.length ≤ 100000) (hn : past.length ≤ 100000) (ha : applyC now [] s.d = (0, out)) :
    ACall Try.prog 13 [.ptr h 0] H (fun r H' => r = .tup [.d (.str s.n), .d (.int .i64 0)] ∧ St H0 h H' out (past ++ [s]) next ∧ H.length ≤ List.length H') := by
  obtain ⟨X, zn, vp, vn, hX, hcl0, hh0, hh, vP, vN, hap⟩ := st
  have hhl : h < H.length := (List.getElem?_eq_some_iff.1 hh).1
  have hbl : H0.length ≤ H.length := by rw [hX]; simp
  obtain ⟨i, k, rows, rfl, hi, hrow, hlen, vN2⟩ := vN.pop
  have hil := vN.lt _ _ _ rfl
  have hih := vN.ne _ _ _ rfl
  have vP' : VecAt (H ++ [.box 75 (rowE encS s)]) H0.length h vp past := vP.app _
  obtain ⟨i', k', H2, happ, hform, v'⟩ := vP'.push (by simp; omega) (by simp; omega) hn s
  have hii : i' ≠ i := by
    rcases hform with ⟨-, h1, -⟩ | ⟨k0, rfl, -⟩
    · rw [h1]; simp; omega
    · exact fun e => hap _ _ _ _ _ _ rfl rfl e
  rcases hform with ⟨rfl, hi', hH2⟩ | ⟨k0, rfl, rows', hH2, hil'⟩
  · have hi2 : i' = H.length + 1 := by rw [hi']; simp
    have hfin : ∀ y : Ob, H2.set h y = (H ++ [Ob.box 75 (rowE encS s), Ob.vec 3 75 k' [encS s]]).set h y := fun y => by rw [hH2]; simp
    have hH2h : H2[h]? = some (.box 67 [.d (.sl zn 2 (now.map encM)), .d (.sl true 3 []), .vsl i k (next.length + 1)]) := by
      rw [hH2, List.append_assoc, List.getElem?_append_left hhl]; exact hh
    have hst : H2[H.length]? = some (.box 75 (rowE encS s)) := by rw [hH2]; simp
    refine redo_walk (s := s) (next := past) hh hi hrow hlen (by omega) hb hc hf ha happ hH2h hst 2 _ ?_
    have v2 := v'.set (j := h) (y := .box 67 [.d (.sl (zn && now.isEmpty) 2 (out.map encM)), .vsl i' k' (past.length + 1), .vsl i k next.length]) v'.ne
    have vN3 := (vN2.app [.box 75 (rowE encS s), .vec 3 75 k' [encS s]]).set (j := h) (y := .box 67 [.d (.sl (zn && now.isEmpty) 2 (out.map encM)), .vsl i' k' (past.length + 1), .vsl i k next.length]) vN2.ne
    rw [hfin] at v2 ⊢
    have hcl : Hp.Closed ((H ++ [Ob.box 75 (rowE encS s), Ob.vec 3 75 k' [encS s]]).set h (.box 67 [.d (.sl (zn && now.isEmpty) 2 (out.map encM)), .vsl i' k' (past.length + 1), .vsl i k next.length])) := by
      refine Closed.set ?_ _ fun n hn => box_clr (vsl_clr (by simp at hn; omega)) (vsl_clr (by simp at hn; omega))
      have := Closed.snoc (Closed.snoc hcl0 (x := .box 75 (rowE encS s)) fun _ _ => by simp [rowE, encS]) (x := .vec 3 75 k' [encS s]) fun _ _ => rfl
      simpa using this
    refine retK_of hcl (by simp) rfl ⟨rfl, ?_, by simp⟩
    refine St.of ?_ hcl hh0 ?_ v2 vN3 fun a b c d e f e1 e2 => ?_
    · exact ⟨_, by rw [hX, List.append_assoc, hp_set_app hh0]⟩
    · exact ⟨_, List.getElem?_set_self (by simp; omega)⟩
    · cases e1; cases e2; exact hii
  · have hilt : i' < H.length := vP.lt _ _ _ rfl
    have hne : i' ≠ h := vP.ne _ _ _ rfl
    have hfin : ∀ y : Ob, H2.set h y = (H.set i' (.vec 3 75 k' rows')).set h y ++ [.box 75 (rowE encS s)] := fun y => by
      rw [hH2, List.set_append_left _ _ hilt, List.set_append_left _ _ (by simp [hhl])]
    have hH2h : H2[h]? = some (.box 67 [.d (.sl zn 2 (now.map encM)), .vsl i' k0 past.length, .vsl i k (next.length + 1)]) := by
      rw [hH2, List.getElem?_set_ne hne, List.getElem?_append_left hhl]; exact hh
    have hst : H2[H.length]? = some (.box 75 (rowE encS s)) := by rw [hH2, List.getElem?_set_ne (by omega)]; simp
    refine redo_walk (s := s) (next := past) hh hi hrow hlen (by omega) hb hc hf ha happ hH2h hst 0 _ ?_
    have v2 := v'.set (j := h) (y := .box 67 [.d (.sl (zn && now.isEmpty) 2 (out.map encM)), .vsl i' k' (past.length + 1), .vsl i k next.length]) v'.ne
    have vN3 := (vN2.set (j := i') (y := .vec 3 75 k' rows') fun a b c e => by cases e; exact fun e => hii e.symm).set (j := h) (y := .box 67 [.d (.sl (zn && now.isEmpty) 2 (out.map encM)), .vsl i' k' (past.length + 1), .vsl i k next.length]) vN2.ne
    rw [hfin] at v2 ⊢
    have hcl : Hp.Closed ((H.set i' (.vec 3 75 k' rows')).set h (.box 67 [.d (.sl (zn && now.isEmpty) 2 (out.map encM)), .vsl i' k' (past.length + 1), .vsl i k next.length])) := by
      refine Closed.set (Closed.set hcl0 _ fun _ _ => rfl) _ fun n hn => box_clr (vsl_clr (by simp at hn; omega)) (vsl_clr (by simp at hn; omega))
    refine retK_cut hcl (by simp) rfl ⟨rfl, ?_, by simp⟩
    refine St.of ?_ hcl hh0 ?_ (v2.unapp fun i k l e => ?_) vN3 fun a b c d e f e1 e2 => ?_
    · exact ⟨_, by rw [hX, hp_set_app (vP.ge _ _ _ rfl), hp_set_app hh0]⟩
    · exact ⟨_, List.getElem?_set_self (by simp [hhl])⟩
    · cases e; simp [hilt]
    · cases e1; cases e2; exact hii

theorem undo_none {H0 H : Hp} {h : Nat} {now : List Mod} {next : List Step} (st : St H0 h H now [] next) :
    ACall Try.prog 12 [.ptr h 0] H (fun r H' => r = .tup [.d (.str []), .d (.int .i64 3)] ∧ H' = H) := by
  obtain ⟨X, zn, vp, vn, hX, hcl0, hh0, hh, vP, vN, hap⟩ := st
  have hl := vP.len
  refine acall_fin Try.func12 cf12 (by simp [ir12]) fun hcl _ => ?_
  simp [ir12, hh, hl, -lenA]
  simp [RetK, cut_self hcl]

theorem redo_none {H0 H : Hp} {h : Nat} {now : List Mod} {past : List Step} (st : St H0 h H now past []) :
    ACall Try.prog 13 [.ptr h 0] H (fun r H' => r = .tup [.d (.str []), .d (.int .i64 3)] ∧ H' = H) := by
  obtain ⟨X, zn, vp, vn, hX, hcl0, hh0, hh, vP, vN, hap⟩ := st
  have hl := vN.len
  refine acall_fin Try.func13 cf13 (by simp [ir13]) fun hcl _ => ?_
  simp [ir13, hh, hl, -lenA]
  simp [RetK, cut_self hcl]

/-- the names apart, in order -/
def apartM : List Mod → Bool
  | a :: b :: r => decide (a.n ≠ b.n) && apartM (b :: r)
  | _ => true

theorem newOk (H : Hp) (z : Bool) (l : List Mod) (hb : l.length ≤ 1048576) : ACall Try.prog 8 [.d (.sl z 2 (l.map encM))] H (fun r H' =>
    if apartM (ssort cM l) = true then r = .tup [.ptr H.length 0, .d (.int .i64 0)] ∧ St H H.length H' (ssort cM l) [] [] else r = .tup [.d .nilp, .d (.int .i64 4)] ∧ H' = H) := by
  refine acall_fink (if apartM (ssort cM l) = true then 1 else 0) Try.func8 cf8 (by simp [ir8]) fun hcl _ => ?_
  simp [ir8]
  refine CallK_of' (sortMOk H z l hb) ?_
  have hlen := ssort_length cM_cmp l
  generalize ssort cM l = L at hlen ⊢
  simp
  refine LoopK_of H.length (fun fr H' => ∃ pre rest, L = pre ++ rest ∧ apartM L = apartM rest ∧ fr 0 = .d (.sl (z && l.isEmpty) 2 (L.map encM)) ∧ fr 4 = .d (.int .i64 ((pre.length : Int) + 1)) ∧ H' = H)
    (fun fr H' => match fr 4 with | .d (.int _ k) => (L.length - k).toNat | _ => 0) (by simp) ?_ ?_
  · refine ⟨[], L, ?_⟩
    simp [cut_self hcl]
  rintro fr H' ⟨pre, rest, hL, hap, f0, f4, hH⟩
  rw [hH]
  simp [f0, f4]
  refine BrK_split (fun h => ?_) (fun h => ?_)
  · obtain ⟨x, y, r, rfl⟩ : ∃ x y r, rest = x :: y :: r := by
      rw [hL] at h
      match rest with
      | [] => simp at h; omega
      | [x] => simp at h
      | x :: y :: r => exact ⟨x, y, r, rfl⟩
    have hw : IntKind.i64.wrap ((pre.length : Int) + 1 + 1) = pre.length + 1 + 1 := wrap_i64 (by omega) (by simp [hL] at hlen; omega)
    have hw2 : IntKind.i64.wrap (pre.length : Int) = pre.length := wrap_i64 (by omega) (by simp [hL] at hlen; omega)
    have h1 : Zam.rowAt (L.map encM) (pre.length : Int) = some (encM x) := by simp [Zam.rowAt, hL]
    have h2 : Zam.rowAt (L.map encM) ((pre.length : Int) + 1) = some (encM y) := by
      have e : ((pre.length : Int) + 1).toNat = pre.length + 1 := by omega
      simp only [Zam.rowAt, e, hL]
      rw [if_pos (by omega)]
      simp
    simp [f0, f4, h1, h2, hw2, encM]
    refine BrK_split (fun h3 => ?_) (fun h3 => ?_)
    · simp at h3
      have : apartM L = false := by rw [hap]; simp [apartM, h3]
      simp
      simp [RetK, cut_self hcl, this]
    · simp at h3
      simp [f4, hw]
      refine AgainK_of (m := H.length) (by simp) ⟨pre ++ [x], y :: r, ?_⟩ ?_
      · simp [f0, cut_self hcl, hL, hap, apartM, h3]
        rw [← hL, hap]; simp [apartM, h3]
      · simp at h ⊢; omega
  · have : apartM L = true := by
      rw [hap]
      rw [hL] at h
      match rest with
      | [] => rfl
      | [x] => rfl
      | x :: y :: r => simp at h; omega
    simp only [this, if_true]
    simp [f0]
    refine retK_of (Closed.snoc hcl fun n hn => box_clr rfl rfl) (by simp) (by simp) ?_
    refine ⟨rfl, ?_⟩
    exact St.of ⟨_, rfl⟩ (Closed.snoc hcl fun n hn => box_clr rfl rfl) (Nat.le_refl _) ⟨z && l.isEmpty, by simp⟩ (vecNil _ _ _) (vecNil _ _ _) (apart_nil _)

end Go.Proofs.Zh
