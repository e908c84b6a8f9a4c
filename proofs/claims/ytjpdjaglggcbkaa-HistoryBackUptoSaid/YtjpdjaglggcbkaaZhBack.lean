/-
  The law HistoryBack on the abstract machine. The lengths are bounded.
-/
import Derived.Test.YtjpdjaglggcbkaaZhAwake
namespace Go.Proofs.Zh
open Go Go.Zam Go.Proofs
set_option maxRecDepth 100000
set_option linter.all false
set_option maxHeartbeats 2000000

theorem St.closed {H0 H : Hp} {h : Nat} {now : List Mod} {past next : List Step} (st : St H0 h H now past next) : H.Closed := by
  obtain ⟨X, zn, vp, vn, hX, hcl0, -⟩ := st
  exact hcl0

theorem St.pos {H0 H : Hp} {h : Nat} {now : List Mod} {past next : List Step} (st : St H0 h H now past next) : h < H.length := by
  obtain ⟨X, zn, vp, vn, hX, hcl0, hh0, hh, -⟩ := st
  exact (List.getElem?_eq_some_iff.1 hh).1

theorem St.snoc {H0 H : Hp} {h : Nat} {now : List Mod} {past next : List Step} (st : St H0 h H now past next) {x : Ob} (hx : ∀ n, H.length + 1 ≤ n → x.clr n = x) : St H0 h (H ++ [x]) now past next := by
  have hp := st.pos
  obtain ⟨X, zn, vp, vn, hX, hcl0, hh0, hh, vP, vN, hap⟩ := st
  exact St.of ⟨X ++ [x], by rw [hX, List.append_assoc]⟩ (Closed.snoc hcl0 hx) hh0 ⟨zn, by rw [List.getElem?_append_left hp]; exact hh⟩ (vP.app _) (vN.app _) hap

/-- steps, the last one first, that lead on -/
def Ahead (l : List Mod) : List Step → List Mod → Prop
  | [], m => l = m
  | s :: r, m => ∃ x, Link l s x ∧ Ahead x r m

theorem Link.len {l m : List Mod} {s : Step} (h : Link l s m) : m.length = l.length := by
  have := congrArg List.length (applyC_names h.go)
  simpa using this

theorem box33_clr (o : Op) (n : Nat) : (Ob.box 33 (rowE encOp o)).clr n = .box 33 (rowE encOp o) := by
  simp [rowE, encOp]

theorem encOp_len : ∀ x, (encOp x).length = 4 := fun _ => rfl

theorem back_tail {H' : Hp} {fr : Fr} {L now : List Mod} {past : List Step} {z1 : Bool} (hch : Chain L past.reverse now) (st : St [] 0 H' now past []) (hp : past.length ≤ 100) (hnl : now.length ≤ 20)
    (f5 : fr 5 = .ptr 0 0) (f7 : fr 7 = .d (.sl z1 2 (L.map encM))) (f8 : fr 8 = .d (.int .i64 (past.length : Int))) :
    AWp Try.prog 0 ir3b (Zam.Fin [Res.t 4] 0 fun r H' => r = .d (.bool true) ∧ H' = []) fr H' := by
  have hpos : 0 < H'.length := st.pos
  simp [ir3b, f5]
  obtain ⟨z2, h9⟩ := modSt st (by omega)
  refine CallK_of' h9 ?_
  simp [f8]
  have hLn : ∀ (r : List Step) (m : List Mod), Chain L r m → m.length = L.length := by
    intro r
    induction r with
    | nil => intro m h; simp only [Chain] at h; rw [h]
    | cons s r ih =>
      intro m h
      obtain ⟨x, h1, h2⟩ := h
      rw [h1.len, ih x h2]
  have hL20 : L.length ≤ 20 := by rw [← hLn _ _ hch]; exact hnl
  refine LoopK_of H'.length (fun fr2 H2 => ∃ nw ps nx, ∃ k : Nat, St [] 0 H2 nw ps nx ∧ ps.length + k = past.length ∧ nx.length = k ∧ Chain L ps.reverse nw ∧ Ahead nw nx.reverse now ∧ H'.length ≤ H2.length ∧
      fr2 5 = .ptr 0 0 ∧ fr2 7 = .d (.sl z1 2 (L.map encM)) ∧ fr2 8 = .d (.int .i64 (past.length : Int)) ∧ fr2 11 = .d (.sl z2 2 (now.map encM)) ∧ fr2 61 = .d (.int .i64 (past.length : Int)) ∧ fr2 62 = .d (.int .i64 (k : Int)))
    (fun fr H' => match fr 62 with | .d (.int _ k) => (past.length - k).toNat | _ => 0) (by simp) ?_ ?_
  · refine ⟨now, past, [], 0, ?_⟩
    simp [cut_self st.closed, st, hch, Ahead, f5, f7, f8, hpos]
  rintro fr2 H2 ⟨nw, ps, nx, k, st2, hk, hnx, hc2, ha2, hgr, f5, f7, f8, f11, f61, f62⟩
  have hpos2 : 0 < H2.length := st2.pos
  simp [f61, f62]
  refine BrK_split (fun h => ?_) (fun h => ?_)
  · simp at h
    obtain ⟨ps, s, rfl⟩ : ∃ p s, ps = p ++ [s] := by
      rcases List.eq_nil_or_concat ps with h1 | ⟨p, s, h1⟩
      · subst h1; simp at hk; omega
      · exact ⟨p, s, by simpa using h1⟩
    simp only [List.reverse_append, List.reverse_cons, List.reverse_nil, List.nil_append, List.singleton_append, Chain] at hc2
    obtain ⟨x, lk, hc3⟩ := hc2
    have hw : IntKind.i64.wrap ((k : Int) + 1) = k + 1 := wrap_i64 (by omega) (by omega)
    simp [f5]
    have hnwl : nw.length ≤ 20 := by rw [lk.len, hLn _ _ hc3]; exact hL20
    simp only [List.length_append, List.length_singleton] at hk
    refine CallK_of (undoOk st2 (by omega) lk.n2 lk.f2 (by omega) (by omega) lk.back) ?_
    rintro y H3 ⟨rfl, st3, hle⟩
    simp [f62, hw]
    have hpos3 : 0 < H3.length := st3.pos
    refine AgainK_ofk H3.length (by omega) (Nat.le_refl _) ⟨x, ps, nx ++ [s], k + 1, ?_⟩ ?_
    · simp [cut_self st3.closed, st3, hc3, Ahead, f5, f7, f8, f11, f61, hpos3, hnx]
      exact ⟨by omega, ⟨nw, lk, ha2⟩, by omega⟩
    · simp; omega
  · simp at h
    obtain rfl : ps = [] := List.eq_nil_of_length_eq_zero (by omega)
    have hnL : L = nw := hc2
    subst hnL
    simp [f5]
    obtain ⟨z3, h9'⟩ := modSt st2 (by omega)
    refine CallK_of' h9' ?_
    simp [f5]
    refine CallK_of' (undo_none st2) ?_
    simp [f8]
    have hkN : k = past.length := by simpa using hk
    refine LoopK_of H2.length (fun fr4 H4 => ∃ nw ps nx, ∃ k : Nat, St [] 0 H4 nw ps nx ∧ nx.length + k = past.length ∧ ps.length = k ∧ Ahead nw nx.reverse now ∧ nw.length = L.length ∧ H2.length ≤ H4.length ∧
        fr4 5 = .ptr 0 0 ∧ fr4 7 = .d (.sl z1 2 (L.map encM)) ∧ fr4 11 = .d (.sl z2 2 (now.map encM)) ∧ fr4 14 = .d (.sl z3 2 (L.map encM)) ∧ fr4 16 = .d (.int .i64 3) ∧ fr4 79 = .d (.int .i64 (past.length : Int)) ∧ fr4 80 = .d (.int .i64 (k : Int)))
      (fun fr H' => match fr 80 with | .d (.int _ k) => (past.length - k).toNat | _ => 0) (by simp) ?_ ?_
    · refine ⟨L, [], nx, 0, ?_⟩
      simp [cut_self st2.closed, st2, ha2, f5, f7, f11, hpos2]
      omega
    rintro fr4 H4 ⟨nw, ps, nx, k, st4, hk4, hps, ha4, hnwl, hgr4, f5, f7, f11, f14, f16, f79, f80⟩
    have hpos4 : 0 < H4.length := st4.pos
    simp [f79, f80]
    refine BrK_split (fun h => ?_) (fun h => ?_)
    · simp at h
      obtain ⟨nx, s, rfl⟩ : ∃ p s, nx = p ++ [s] := by
        rcases List.eq_nil_or_concat nx with h1 | ⟨p, s, h1⟩
        · subst h1; simp at hk4; omega
        · exact ⟨p, s, by simpa using h1⟩
      simp only [List.reverse_append, List.reverse_cons, List.reverse_nil, List.nil_append, List.singleton_append, Ahead] at ha4
      obtain ⟨x, lk, ha5⟩ := ha4
      have hw : IntKind.i64.wrap ((k : Int) + 1) = k + 1 := wrap_i64 (by omega) (by omega)
      simp [f5]
      simp only [List.length_append, List.length_singleton] at hk4
      refine CallK_of (redoOk st4 (by omega) lk.n1 lk.f1 (by omega) (by omega) lk.go) ?_
      rintro y H5 ⟨rfl, st5, hle⟩
      simp [f80, hw]
      have hpos5 : 0 < H5.length := st5.pos
      refine AgainK_ofk H5.length (by omega) (Nat.le_refl _) ⟨x, ps ++ [s], nx, k + 1, ?_⟩ ?_
      · simp [cut_self st5.closed, st5, ha5, f5, f7, f11, f14, f16, f79, hpos5, hps, lk.len, hnwl]
        exact ⟨by omega, by omega⟩
      · simp; omega
    · simp at h
      obtain rfl : nx = [] := List.eq_nil_of_length_eq_zero (by omega)
      have hnE : nw = now := ha4
      subst hnE
      simp [f5]
      refine CallK_of' (redo_none st4) ?_
      simp
      refine CallK_of' (awakeOk _) ?_
      simp [f14, f16, f7]
      refine CallK_of' (sameOk _ _ _ L L (by omega)) ?_
      simp [f5]
      obtain ⟨z6, h9''⟩ := modSt st4 (by omega)
      refine CallK_of' h9'' ?_
      simp [f11]
      refine CallK_of' (sameOk _ _ _ nw nw (by omega)) ?_
      simp
      simp [RetK, Hp.cut]

theorem backOk (z zo : Bool) (l : List Mod) (ops : List Op) (hl : l.length ≤ 1048576) (hs : ∀ m ∈ l, m.n.length ≤ 1048576 ∧ m.t.length ≤ 1048576) (ho : ops.length ≤ 1048576)
    (hos : ∀ o ∈ ops, o.s.length ≤ 1048576 ∧ o.l.length ≤ 1048576 ∧ ∀ c ∈ o.l, c.l.length ≤ 1048576 ∧ ∀ e ∈ c.l, e.s.length ≤ 1048576) :
    ACall Try.prog 3 [.d (.sl z 2 (l.map encM)), .d (.sl zo 4 (ops.map encOp))] [] (fun r H' => r = .d (.bool true) ∧ H' = []) := by
  refine acall_fin Try.func3 cf3 (by simp [ir3]) fun hcl _ => ?_
  simp [ir3]
  refine CallK_of' (lightOk _ z l 500 (by omega) hl hs) ?_
  simp
  refine BrK_split (fun h1 => ?_) (fun h1 => ?_)
  · simp
    refine CallK_of' (awakeOk _) ?_
    simp
    simp [RetK, Hp.cut]
  simp at h1
  simp only [light, Bool.and_eq_true, decide_eq_true_eq] at h1
  simp
  refine CallK_of (newOk [] z l hl) ?_
  rintro x H1 hx
  by_cases hap : apartM (ssort cM l) = true
  rotate_left
  · rw [if_neg hap] at hx
    obtain ⟨rfl, rfl⟩ := hx
    simp
    refine CallK_of' (awakeOk _) ?_
    simp
    simp [RetK, Hp.cut]
  rw [if_pos hap] at hx
  obtain ⟨rfl, st1⟩ := hx
  have hLlen := ssort_length cM_cmp l
  have hLt : ∀ m ∈ ssort cM l, m.t.length ≤ 500 := fun m hm => by
    have := lightB_le (by omega) h1.1 m ((ssort_perm cM_cmp l).mem_iff.2 hm)
    omega
  generalize ssort cM l = L at *
  simp
  obtain ⟨z1, h9⟩ := modSt st1 (by omega)
  refine CallK_of' h9 ?_
  simp
  have hpos1 : 0 < H1.length := st1.pos
  refine LoopK_of H1.length (fun fr H' => ∃ pre rest now past, ops = pre ++ rest ∧ past.length ≤ pre.length ∧ pre.length ≤ 100 ∧ Chain L past.reverse now ∧ St [] 0 H' now past [] ∧ (∀ m ∈ now, m.t.length ≤ 500 + 200 * pre.length) ∧ now.length ≤ 20 ∧ H1.length ≤ H'.length ∧
      fr 5 = .ptr 0 0 ∧ fr 7 = .d (.sl z1 2 (L.map encM)) ∧ fr 8 = .d (.int .i64 (past.length : Int)) ∧ fr 35 = .d (.sl zo 4 (ops.map encOp)) ∧ fr 36 = .d (.int .i64 ops.length) ∧ fr 37 = .d (.int .i64 (pre.length : Int)))
    (fun fr H' => match fr 37 with | .d (.int _ k) => (ops.length - k).toNat | _ => 0) (by simp) ?_ ?_
  · refine ⟨[], ops, L, [], ?_⟩
    simp [cut_self st1.closed, Chain, st1, hpos1, hLt]
    exact ⟨st1, hLt, by omega⟩
  rintro fr H' ⟨pre, rest, now, past, hops, hpp, hp100, hch, st, htx, hnl, hgr, f5, f7, f8, f35, f36, f37⟩
  have hcl' := st.closed
  have hpos : 0 < H'.length := st.pos
  simp [f36, f37]
  refine BrK_split (fun h => ?_) (fun h => ?_)
  · obtain ⟨o, rest, rfl⟩ : ∃ e r, rest = e :: r := by
      cases rest with
      | nil => rw [hops] at h; simp at h
      | cons e r => exact ⟨e, r, rfl⟩
    have hpl : pre.length < ops.length := by rw [hops]; simp
    have hw : IntKind.i64.wrap ((pre.length : Int) + 1) = pre.length + 1 := wrap_i64 (by omega) (by omega)
    have hgo : Zam.rowAt (ops.map encOp) (pre.length : Int) = some (encOp o) := by simp [Zam.rowAt, hops]
    obtain ⟨o1, o2, o3⟩ := hos o (by rw [hops]; simp)
    have st3 : St [] 0 (H' ++ [.box 33 [.d (.int .i64 o.k), .d (.int .i64 o.n), .d (.str o.s), .d (.sl o.z 2 (o.l.map encC))]]) now past [] := st.snoc fun n _ => by simp
    simp [f35, f37, hgo, encOp]
    refine GdK_split (by simp) (fun h2 => ?_) (fun h2 => ?_)
    · simp at h2
      simp
      refine CallK_of' (fitsOk _ o o1 o2 o3) ?_
      simp
      refine BrK_split (fun h3 => ?_) (fun h3 => ?_)
      · simp
        refine back_tail (z1 := z1) hch st3 (by omega) hnl ?_ ?_ ?_
        · simp [f5]
        · simp [f7]
        · simp [f8]
      · simp at h3
        obtain ⟨q1, q2, q3⟩ := fits_true h3
        simp [f5]
        have hfit : fitM now o.l := fun m hm => by have := htx m hm; omega
        by_cases ha : (applyC now [] o.l).1 = 0
        · obtain ⟨out, ha⟩ : ∃ out, applyC now [] o.l = (0, out) := ⟨(applyC now [] o.l).2, by rw [← ha]⟩
          refine CallK_of (doOk st3 o.s o.z o.l (by omega) o2 hfit (fun c hc => (o3 c hc).1) (by omega) ha) ?_
          rintro y H2 ⟨rfl, st4, hle⟩
          simp at hle
          have hw2 : IntKind.i64.wrap ((past.length : Int) + 1) = past.length + 1 := wrap_i64 (by omega) (by omega)
          have hpos2 : 0 < H2.length := st4.pos
          have hlk : Link now (stepOf now o.s o.z o.l) out := link_of (B := 500 + 200 * pre.length) (E := 20) ha htx q2 o2 (by
            have h1 : (500 + 200 * pre.length) * 20 * o.l.length ≤ (500 + 200 * pre.length) * 20 * 8 := Nat.mul_le_mul_left _ q3
            omega)
          have htx2 := applyC_texts ha htx
          simp [f8, f37, hw, hw2]
          refine AgainK_ofk H2.length (by omega) (Nat.le_refl _) ⟨pre ++ [o], rest, out, past ++ [stepOf now o.s o.z o.l], ?_⟩ ?_
          · simp [cut_self st4.closed, st4, f5, f7, f35, f36, hpos2, hops, Chain]
            refine ⟨by omega, by omega, ⟨now, hlk, hch⟩, fun m hm => ?_, by rw [hlk.len]; exact hnl, by omega⟩
            have := htx2 m hm; omega
          · simp; omega
        · refine CallK_of' (do_err st3 o.s o.z o.l (by omega) o2 hfit ha) ?_
          simp [ha, f37, hw]
          refine AgainK_ofk (H' ++ [Ob.box 33 [.d (.int .i64 o.k), .d (.int .i64 o.n), .d (.str o.s), .d (.sl o.z 2 (o.l.map encC))]]).length (by simp; omega) (by simp) ⟨pre ++ [o], rest, now, past, ?_⟩ ?_
          · rw [cut_self st3.closed]
            simp [st3, f5, f7, f8, f35, f36, hops, hch, hnl]
            refine ⟨by omega, by omega, fun m hm => ?_, by omega⟩
            have := htx m hm; omega
          · simp; omega
    · simp
      refine back_tail (z1 := z1) hch st3 (by omega) hnl ?_ ?_ ?_
      · simp [f5]
      · simp [f7]
      · simp [f8]
  · simp
    refine back_tail (z1 := z1) hch st (by omega) hnl ?_ ?_ ?_
    · simp [f5]
    · simp [f7]
    · simp [f8]

end Go.Proofs.Zh
