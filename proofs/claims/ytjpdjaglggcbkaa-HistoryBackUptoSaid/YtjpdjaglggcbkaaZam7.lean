/-
  An abstract machine over the model, seventh part: each operation but append and calls does in the model what stepI says. No program in sight. No condition.
-/
import Derived.Test.YtjpdjaglggcbkaaZam6
namespace Go.Zam
open Go.RowKit (Below)

def Does (P : Program) (s : Sem Next) (w : World) (κ : K) (H' : Hp) (x : A) : Prop :=
  ∃ u w' κ', (s.run P w = .ok (.value u) w' ∨ (s.run P w = .ok .skip w' ∧ u = undef)) ∧ κ.le κ' ∧ HR κ' H' w' ∧ VR κ' u x

theorem Does.same {P : Program} {s : Sem Next} {w : World} {κ : K} {H : Hp} {x : A} {u : Value} (h : s.run P w = .ok (.value u) w) (hr : HR κ H w) (hv : VR κ u x) : Does P s w κ H x :=
  ⟨u, w, κ, .inl h, K.le_refl κ, hr, hv⟩

section
variable {P : Program} {κ : K} {nt : Nat} {fr : Fr} {H H' : Hp} {a : Act} {w : World} {x : A} {tok : List Nat}

theorem run_val (s : Sem Value) (u : Value) (w' : World) (h : s.run P w = .ok u w') : (do pure (Next.value (← s)) : Sem Next).run P w = .ok (.value u) w' := by
  simp [h]

theorem does_move {dst : Option Nat} {ty : TypeId} {pos : String} {aft : Array Edge} {g : Option (Nat × Bool)} {y : Operand} {i : I} (hs : SR κ nt fr H a w)
    (hc : compI P tok { dst := dst, op := .move y, type := ty, pos := pos, after := aft, guard := g } = some i) (h : stepI fr H i = some (x, H')) :
    Does P (pure (.value (a.eval y))) w κ H' x := by
  simp only [compI] at hc
  split at hc
  · simp only [Option.map_eq_some_iff] at hc
    obtain ⟨z, -, rfl⟩ := hc
    simp only [stepI, Option.some.injEq, Prod.mk.injEq] at h
    obtain ⟨rfl, rfl⟩ := h
    obtain ⟨κ', h1, h2, h3⟩ := hs.hr.pushNil z.2.size z.1
    exact ⟨_, w, κ', .inl rfl, h1, h2, h3⟩
  · simp only [Option.map_eq_some_iff] at hc
    obtain ⟨z, hz, rfl⟩ := hc
    simp only [stepI, Option.some.injEq, Prod.mk.injEq] at h
    obtain ⟨rfl, rfl⟩ := h
    exact .same rfl hs.hr (cArg_sound hz hs)

theorem does_pick {c y z : Operand} {c' y' z' : Arg} {t1 t2 t3 : TypeId} (hs : SR κ nt fr H a w) (h1 : cArg P t1 c = some c') (h2 : cArg P t2 y = some y') (h3 : cArg P t3 z = some z') (h : stepI fr H (.pick c' y' z') = some (x, H')) :
    Does P (do pure (.value (if ← asBool (a.eval c) then a.eval y else a.eval z))) w κ H' x := by
  simp only [stepI] at h
  split at h
  · rename_i t ht
    simp only [Option.some.injEq, Prod.mk.injEq] at h
    obtain ⟨rfl, rfl⟩ := h
    have hb := cArg_sound h1 hs
    rw [ht] at hb
    refine .same (u := if t then a.eval y else a.eval z) ?_ hs.hr ?_
    · rw [hb.bool_inv]; simp [asBool]
    · cases t
      · exact cArg_sound h3 hs
      · exact cArg_sound h2 hs
  · cases h

theorem does_alloc {t : TypeId} {cs : List D} (hs : SR κ nt fr H a w) (hz : zeroOf P t = some cs) (h : stepI fr H (.alloc t cs) = some (x, H')) :
    Does P (do pure (.value (← Instr.alloc t true (.tuple #[])))) w κ H' x := by
  simp only [stepI, Option.some.injEq, Prod.mk.injEq] at h
  obtain ⟨rfl, rfl⟩ := h
  unfold zeroOf at hz
  split at hz
  · rename_i i z hi hzd
    split at hz
    · rename_i v hv
      split at hz
      · rename_i hok
        cases hz
        simp only [Bool.and_eq_true, beq_iff_eq, List.all_eq_true] at hok
        obtain ⟨hl, hall⟩ := hok
        obtain ⟨κ', h1, h2, h3⟩ := hs.hr.pushBox v.cells.toList (cs.map .d) t (by simpa using hl) (by simp [A.flat]) (fun j u b hu hb => by
          simp only [List.getElem?_map, Option.map_eq_some_iff] at hb
          obtain ⟨d, hd, rfl⟩ := hb
          refine .d (vOk_sound (hall (u, d) ?_))
          refine List.mem_of_getElem? (i := j) ?_
          rw [List.getElem?_zip_eq_some]; exact ⟨hu, hd⟩)
        refine ⟨_, _, κ', .inl ?_, h1, h2, h3⟩
        refine run_val _ _ _ ?_
        simp [Instr.alloc, zeroValue, typeInfo, hi, hv, newVar, newRow]
      · cases hz
    · cases hz
  · cases hz

theorem does_allocT {t : TypeId} {cs : List D} {j sz : Nat} {e : TypeId} (hs : SR κ nt fr H a w) (hz : zeroOf P t = some cs) (hj : isNilSl cs[j]? sz = true) (h : stepI fr H (.allocT t cs j sz e) = some (x, H')) :
    Does P (do pure (.value (← Instr.alloc t true (.tuple #[])))) w κ H' x := by
  simp only [stepI, Option.some.injEq, Prod.mk.injEq] at h
  obtain ⟨rfl, rfl⟩ := h
  have hjc : cs[j]? = some (.sl true sz []) := by
    unfold isNilSl at hj
    split at hj
    · rename_i s n e1; rw [e1]; simp only [beq_iff_eq] at hj; subst hj; rfl
    · cases hj
  unfold zeroOf at hz
  split at hz
  · rename_i i z hi hzd
    split at hz
    · rename_i v hv
      split at hz
      · rename_i hok
        cases hz
        simp only [Bool.and_eq_true, beq_iff_eq, List.all_eq_true] at hok
        obtain ⟨hl, hall⟩ := hok
        obtain ⟨κ1, p1, p2, p3⟩ := hs.hr.pushNil sz e
        obtain ⟨κ', h1, h2, h3⟩ := p2.pushBox v.cells.toList ((cs.map .d).set j (.osl true sz [] H.length)) t (by simpa using hl) (by
          refine List.all_eq_true.2 fun y hy => ?_
          rcases List.mem_or_eq_of_mem_set hy with h1 | h1
          · obtain ⟨d, -, rfl⟩ := List.mem_map.1 h1; rfl
          · subst h1; rfl) (fun k u b hu hb => by
          have hd : ∀ d, cs[k]? = some d → DR κ1.σ u d := fun d hd => by
            refine vOk_sound (hall (u, d) ?_)
            refine List.mem_of_getElem? (i := k) ?_
            rw [List.getElem?_zip_eq_some]; exact ⟨hu, hd⟩
          by_cases hjk : j = k
          · subst hjk
            have hlt := (List.getElem?_eq_some_iff.1 hjc).1
            rw [List.getElem?_set_self (by simpa using hlt)] at hb
            cases hb
            have := hd _ hjc
            rcases this.sl_inv with ⟨rfl, -⟩ | ⟨_, _, _, h0, -⟩ | ⟨_, _, _, _, _, h0, -⟩
            · exact p3
            · cases h0
            · exact absurd rfl (h0 rfl)
          · rw [List.getElem?_set_ne hjk] at hb
            simp only [List.getElem?_map, Option.map_eq_some_iff] at hb
            obtain ⟨d, hd', rfl⟩ := hb
            exact .d (hd d hd'))
        have e1 : (H ++ [Ob.tok 0 sz e]).length = H.length + 1 := by simp
        rw [e1] at h3
        rw [List.append_assoc] at h2
        refine ⟨_, _, κ', .inl ?_, p1.trans h1, h2, h3⟩
        refine run_val _ _ _ ?_
        simp [Instr.alloc, zeroValue, typeInfo, hi, hv, newVar, newRow]
      · cases hz
    · cases hz
  · cases hz

theorem does_box {t : TypeId} {n : Nat} {y : Operand} {y' : Arg} (hs : SR κ nt fr H a w) (hy : cArg P t y = some y') (h : stepI fr H (.box t n y') = some (x, H')) :
    Does P (do pure (.value (← Instr.box t (a.eval y)))) w κ H' x := by
  simp only [stepI] at h
  split at h
  · rename_i hc
    simp only [Option.some.injEq, Prod.mk.injEq] at h
    obtain ⟨rfl, rfl⟩ := h
    have hv := cArg_sound hy hs
    obtain ⟨h1, h2⟩ := A.cells_of hv hc.2
    obtain ⟨κ', k1, k2, k3⟩ := hs.hr.pushBox (a.eval y).cells.toList (y'.ev fr).cells t h1 hc.2 h2
    refine ⟨_, _, κ', .inl ?_, k1, k2, k3⟩
    refine run_val _ _ _ ?_
    simp [Instr.box, newVar, newRow]
  · cases h

theorem run_isAgg {t : TypeId} {d : TypeDesc} (h : P.underlying t = some d) (w : World) : (isAgg t).run P w = .ok (isAggD d) w := by
  simp only [isAgg, Sem.run_bind, run_underlying h, Result.andThen_ok]
  cases d <;> rfl

theorem does_load {t : TypeId} {d : TypeDesc} {i : TypeInfo} {p : Operand} {p' : Arg} (hs : SR κ nt fr H a w) (hd : P.underlying t = some d) (hi : P.info? t = some i) (hp : cArg P 0 p = some p')
    (h : stepI fr H (if isAggD d then .load i.size true p' else .load 1 false p') = some (x, H')) :
    Does P (do pure (.value (← Instr.loadAt t (a.eval p)))) w κ H' x := by
  have hv := cArg_sound hp hs
  cases hagg : isAggD d with
  | true =>
    rw [hagg] at h
    simp only [if_true, stepI, Option.map_eq_some_iff] at h
    obtain ⟨cs, hcs, h⟩ := h
    simp only [Prod.mk.injEq] at h
    obtain ⟨rfl, rfl⟩ := h
    obtain ⟨ad, vs, h1, h2, h3, h4, h5⟩ := ld_sound hs.hr hcs hv
    refine .same (u := .agg vs.toArray) ?_ hs.hr (.agg vs cs (by omega) h5)
    refine run_val _ _ _ ?_
    rw [h1]
    have hld := run_loadCells_list (P := P) w ad vs h4
    rw [h2] at hld
    simp [Instr.loadAt, Instr.sureAddr, loadVar, run_isAgg hd, hagg, sizeOf, typeInfo, hi, hld]
  | false =>
    rw [hagg] at h
    simp only [Bool.false_eq_true, if_false, stepI, Option.map_eq_some_iff] at h
    obtain ⟨cs, hcs, h⟩ := h
    simp only [Prod.mk.injEq] at h
    obtain ⟨rfl, rfl⟩ := h
    obtain ⟨ad, vs, h1, h2, h3, h4, h5⟩ := ld_sound hs.hr hcs hv
    match vs, h2, cs, h3 with
    | [v], _, [c], _ =>
      refine .same (u := v) ?_ hs.hr (h5 0 v c rfl rfl)
      refine run_val _ _ _ ?_
      rw [h1]
      have h40 := h4 0 v rfl
      have hadd : ad.add 0 = ad := by simp [Addr.add]
      rw [hadd] at h40
      simp [Instr.loadAt, Instr.sureAddr, loadVar, run_isAgg hd, hagg, h40]

theorem does_loadV {t : TypeId} {d : TypeDesc} {i : TypeInfo} {p : Operand} {p' : Arg} (hs : SR κ nt fr H a w) (hd : P.underlying t = some d) (hi : P.info? t = some i) (hp : cArg P 0 p = some p')
    (h : stepI fr H (if isAggD d then .loadV i.size true p' else .loadV 1 false p') = some (x, H')) :
    Does P (do pure (.value (← Instr.loadAt t (a.eval p)))) w κ H' x := by
  have hv := cArg_sound hp hs
  cases hagg : isAggD d with
  | true =>
    rw [hagg] at h
    simp only [if_true, stepI, Option.map_eq_some_iff] at h
    obtain ⟨cs, hcs, h⟩ := h
    simp only [Prod.mk.injEq] at h
    obtain ⟨rfl, rfl⟩ := h
    obtain ⟨ad, vs, h1, h2, h3, h4, h5⟩ := ldV_sound hs.hr hcs hv
    refine .same (u := .agg vs.toArray) ?_ hs.hr (.agg vs cs (by omega) h5)
    refine run_val _ _ _ ?_
    rw [h1]
    have hld := run_loadCells_list (P := P) w ad vs h4
    rw [h2] at hld
    simp [Instr.loadAt, Instr.sureAddr, loadVar, run_isAgg hd, hagg, sizeOf, typeInfo, hi, hld]
  | false =>
    rw [hagg] at h
    simp only [Bool.false_eq_true, if_false, stepI, Option.map_eq_some_iff] at h
    obtain ⟨cs, hcs, h⟩ := h
    simp only [Prod.mk.injEq] at h
    obtain ⟨rfl, rfl⟩ := h
    obtain ⟨ad, vs, h1, h2, h3, h4, h5⟩ := ldV_sound hs.hr hcs hv
    match vs, h2, cs, h3 with
    | [v], _, [c], _ =>
      refine .same (u := v) ?_ hs.hr (h5 0 v c rfl rfl)
      refine run_val _ _ _ ?_
      rw [h1]
      have h40 := h4 0 v rfl
      have hadd : ad.add 0 = ad := by simp [Addr.add]
      rw [hadd] at h40
      simp [Instr.loadAt, Instr.sureAddr, loadVar, run_isAgg hd, hagg, h40]

theorem does_store {t : TypeId} {i : TypeInfo} {p v : Operand} {p' v' : Arg} (hs : SR κ nt fr H a w) (hi : P.info? t = some i) (hp : cArg P 0 p = some p') (hv : cArg P t v = some v')
    (h : stepI fr H (.store i.size p' v') = some (x, H')) :
    Does P (do Instr.storeAt t (a.eval p) (a.eval v); pure .skip) w κ H' x := by
  simp only [stepI] at h
  split at h
  · rename_i hcs
    simp only [Option.map_eq_some_iff] at h
    obtain ⟨H1, hst, h⟩ := h
    simp only [Prod.mk.injEq] at h
    obtain ⟨rfl, rfl⟩ := h
    have h1 := cArg_sound hp hs
    have h2 := cArg_sound hv hs
    obtain ⟨hl, hcv⟩ := A.cells_of h2 hcs.2
    obtain ⟨ad, w', h3, h4, h5⟩ := st_sound (P := P) hs.hr hst h1 hcs.2 _ hl hcv
    refine ⟨undef, w', κ, .inr ⟨?_, rfl⟩, K.le_refl κ, h5, .tup [] [] rfl (by simp)⟩
    rw [h3]
    have hsz : (a.eval v).cells.size = i.size := by
      rw [← hcs.1, ← hl]; simp
    simp [Instr.storeAt, Instr.sureAddr, storeVar, sizeOf, typeInfo, hi, hsz, h4]
  · cases h

theorem does_nilCheck {y : Operand} {y' : Arg} (hs : SR κ nt fr H a w) {o : Oper} (ho : o.op = .nilCheck y) (hy : cArg P 0 y = some y') (h : stepI fr H (.nilCheck y') = some (x, H')) :
    Does P (execOp a.eval o) w κ H' x := by
  simp only [stepI] at h
  split at h
  · rename_i hn
    simp only [Option.some.injEq, Prod.mk.injEq] at h
    obtain ⟨rfl, rfl⟩ := h
    have hv := cArg_sound hy hs
    generalize y'.ev fr = x' at hn hv ⊢
    refine .same (u := a.eval y) ?_ hs.hr hv
    have key : ∀ z, z = a.eval y → (execOp a.eval o).run P w = .ok (.value z) w := by
      intro z hz
      simp only [execOp, ho]
      rw [← hz]
      rw [← hz] at hv
      cases hv with
      | d hd => cases hd <;> first | (simp [nilCheckA] at hn; done) | rfl
      | fn f _ _ _ _ _ _ _ _ => cases f <;> first | (simp [nilCheckA] at hn; done) | rfl
      | ptr => rfl
      | aptr => rfl
      | eptr => rfl
      | vptr => rfl
      | _ => simp [nilCheckA] at hn
    exact key _ rfl
  · cases h

theorem str_toList (s : ByteArray) : s.toList = s.data.toList := ByteArray.toList_eq s
theorem str_size (s : ByteArray) : s.size = s.data.toList.length := by rw [Array.length_toList]; rfl
theorem str_append (s t : ByteArray) : (s ++ t).data.toList = s.data.toList ++ t.data.toList := by simp [ByteArray.data_append]

theorem intOp_sound {op : BinOp} {k : IntKind} {m n : Int} {d : D} (h : intOp op k m n = some d) (t : TypeId) (w : World) :
    ∃ u, (binOp op t (.int k m) (.int k n)).run P w = .ok u w ∧ DR κ.σ u d := by
  unfold intOp at h
  split at h
  · cases h; exact ⟨_, by simp [binOp, Op.intArith], .int _ _⟩
  · cases h; exact ⟨_, by simp [binOp, Op.intArith], .int _ _⟩
  · cases h; exact ⟨_, by simp [binOp, Op.intArith], .int _ _⟩
  · split at h
    · cases h
    · rename_i hb; cases h; exact ⟨_, by simp [binOp, Op.intDiv, hb], .int _ _⟩
  · split at h
    · cases h
    · rename_i hb; cases h; exact ⟨_, by simp [binOp, Op.intDiv, hb], .int _ _⟩
  · cases h; exact ⟨_, by simp [binOp, Op.intBits], .int _ _⟩
  · cases h; exact ⟨_, by simp [binOp, Op.intBits], .int _ _⟩
  · cases h; exact ⟨_, by simp [binOp, Op.intBits], .int _ _⟩
  · cases h; exact ⟨_, by simp [binOp, Op.intBits], .int _ _⟩
  · cases h
    refine ⟨.bool (m == n), by simp [binOp, Op.intCmp], ?_⟩
    have : (m == n) = decide (m = n) := by rw [Bool.eq_iff_iff]; simp
    rw [this]; exact .bool _
  · cases h
    refine ⟨.bool (m != n), by simp [binOp, Op.intCmp], ?_⟩
    have : (m != n) = decide (m ≠ n) := by rw [Bool.eq_iff_iff]; simp
    rw [this]; exact .bool _
  · cases h; exact ⟨.bool (decide (m < n)), by simp [binOp, Op.intCmp], .bool _⟩
  · cases h; exact ⟨.bool (decide (m ≤ n)), by simp [binOp, Op.intCmp], .bool _⟩
  · cases h; exact ⟨.bool (decide (m > n)), by simp [binOp, Op.intCmp], .bool _⟩
  · cases h; exact ⟨.bool (decide (m ≥ n)), by simp [binOp, Op.intCmp], .bool _⟩
  · cases h

theorem shOp_sound {op : BinOp} {k yk : IntKind} {m n : Int} {d : D} (h : shOp op k m n = some d) (t : TypeId) (w : World) :
    ∃ u, (binOp op t (.int k m) (.int yk n)).run P w = .ok u w ∧ DR κ.σ u d := by
  unfold shOp at h
  split at h
  · cases h
  · rename_i hb
    split at h
    · cases h; exact ⟨_, by simp [binOp, Op.shift, hb], .int _ _⟩
    · cases h; exact ⟨_, by simp [binOp, Op.shift, hb], .int _ _⟩
    · cases h

theorem eq_toList (s t : ByteArray) : (s.toList == t.toList) = decide (s.data.toList = t.data.toList) := by
  rw [str_toList, str_toList, Bool.eq_iff_iff]; simp

theorem strOp_sound {op : BinOp} {s t : ByteArray} {d : D} (h : strOp op s.data.toList t.data.toList = some d) (ty : TypeId) (w : World) :
    ∃ u, (binOp op ty (.string s) (.string t)).run P w = .ok u w ∧ DR κ.σ u d := by
  have hb : ∀ op', op' = op → op ≠ .shl → op ≠ .shr → binOp op ty (.string s) (.string t) = Op.stringOp op s t := by
    intro op' _ _ _; cases op <;> rfl
  unfold strOp at h
  split at h
  · split at h
    · rename_i hl
      cases h
      refine ⟨.string (s ++ t), ?_, ?_⟩
      · rw [hb _ rfl (by simp) (by simp)]
        rw [← str_size, ← str_size] at hl
        have : ¬ (((s.size + t.size : Nat) : Int) > IntKind.i64.max) := by
          have : IntKind.i64.max = 9223372036854775807 := by decide
          omega
        simp only [Op.stringOp, this, if_false]; rfl
      · rw [← str_append]; exact .str _
    · cases h
  · cases h; exact ⟨_, rfl, by rw [← eq_toList]; exact .bool _⟩
  · cases h
    refine ⟨_, rfl, ?_⟩
    have : (!(s.toList == t.toList)) = decide (s.data.toList ≠ t.data.toList) := by rw [eq_toList]; simp
    rw [← this]; exact .bool _
  · cases h; exact ⟨_, rfl, by rw [← str_toList, ← str_toList]; exact .bool _⟩
  · cases h; exact ⟨_, rfl, by rw [← eq_toList, ← str_toList, ← str_toList]; exact .bool _⟩
  · cases h; exact ⟨_, rfl, by rw [← eq_toList, ← str_toList, ← str_toList]; exact .bool _⟩
  · cases h; exact ⟨_, rfl, by rw [← str_toList, ← str_toList]; exact .bool _⟩
  · cases h

theorem does_bin {op : BinOp} {t : TypeId} {y z : Operand} {y' z' : Arg} (hs : SR κ nt fr H a w) (hy : cArg P t y = some y') (hz : cArg P t z = some z') (h : stepI fr H (.bin op y' z') = some (x, H')) :
    Does P (do pure (.value (← (do eqGuard op t y z (a.eval y) (a.eval z); binOp op t (a.eval y) (a.eval z))))) w κ H' x := by
  simp only [stepI, Option.map_eq_some_iff] at h
  obtain ⟨u, hu, h⟩ := h
  simp only [Prod.mk.injEq] at h
  obtain ⟨rfl, rfl⟩ := h
  have h1 := cArg_sound hy hs
  have h2 := cArg_sound hz hs
  unfold binA at hu
  split at hu
  · rename_i k m k' n e1 e2
    rw [e1] at h1; rw [e2] at h2
    rw [h1.int_inv, h2.int_inv]
    have fin : ∀ d, u = .d d → (∃ v, (binOp op t (.int k m) (.int k' n)).run P w = .ok v w ∧ DR κ.σ v d) →
        Does P (do pure (.value (← (do eqGuard op t y z (.int k m) (.int k' n); binOp op t (.int k m) (.int k' n))))) w κ H u := by
      rintro d rfl ⟨v, hv, hdr⟩
      refine .same (u := v) (run_val _ _ _ ?_) hs.hr (.d hdr)
      rw [eqGuard_at_int]
      simp [hv]
    split at hu
    · simp only [Option.map_eq_some_iff] at hu
      obtain ⟨d, hd, rfl⟩ := hu
      exact fin d rfl (shOp_sound hd t w)
    · simp only [Option.map_eq_some_iff] at hu
      obtain ⟨d, hd, rfl⟩ := hu
      exact fin d rfl (shOp_sound hd t w)
    · split at hu
      · rename_i hk
        subst hk
        simp only [Option.map_eq_some_iff] at hu
        obtain ⟨d, hd, rfl⟩ := hu
        exact fin d rfl (intOp_sound hd t w)
      · cases hu
  · rename_i s1 s2 e1 e2
    rw [e1] at h1; rw [e2] at h2
    obtain ⟨t1, h3, rfl⟩ := h1.str_inv
    obtain ⟨t2, h4, rfl⟩ := h2.str_inv
    rw [h3, h4]
    simp only [Option.map_eq_some_iff] at hu
    obtain ⟨d, hd, rfl⟩ := hu
    obtain ⟨v, hv, hdr⟩ := strOp_sound (κ := κ) (P := P) hd t w
    refine .same (u := v) (run_val _ _ _ ?_) hs.hr (.d hdr)
    rw [eqGuard_at_string]
    simp [hv]
  · cases hu

theorem does_beq {op : BinOp} {neg : Bool} (hop : op = if neg then .neq else .eql) {t : TypeId} {y z : Operand} {y' z' : Arg} (hs : SR κ nt fr H a w) (ht : P.underlying t = some .bool) (hy : cArg P t y = some y') (hz : cArg P t z = some z')
    (h : stepI fr H (.beq neg y' z') = some (x, H')) :
    Does P (do pure (.value (← (do eqGuard op t y z (a.eval y) (a.eval z); binOp op t (a.eval y) (a.eval z))))) w κ H' x := by
  simp only [stepI, Option.map_eq_some_iff] at h
  obtain ⟨u, hu, h⟩ := h
  simp only [Prod.mk.injEq] at h
  obtain ⟨rfl, rfl⟩ := h
  have h1 := cArg_sound hy hs
  have h2 := cArg_sound hz hs
  unfold beqA at hu
  split at hu
  · rename_i p q e1 e2
    rw [e1] at h1; rw [e2] at h2
    rw [h1.bool_inv, h2.bool_inv]
    cases hu
    refine .same (run_val _ _ _ ?_) hs.hr (.bool _)
    rw [eqGuard_at_bool]
    subst hop
    have he' : ∀ d, (Op.equalIn (d + 1) t (.bool p) (.bool q)).run P w = .ok (p == q) w := fun d => by
      simp [Op.equalIn, run_underlying ht]
    have he : (Op.equal t (.bool p) (.bool q)).run P w = .ok (p == q) w := he' 9999
    cases neg
    · simp only [Bool.false_eq_true, if_false, binOp, Sem.run_bind, Sem.run_pure, Result.andThen_ok, he]
      cases p <;> cases q <;> rfl
    · simp only [if_true, binOp, Sem.run_bind, Sem.run_pure, Result.andThen_ok, he]
      cases p <;> cases q <;> rfl
  · cases hu

theorem isNilS_val {neg : Bool} {z u : A} {v : Value} (h : isNilS neg z = some u) (hv : VR κ v z) : ∃ b : Bool, u = .d (.bool b) ∧
    ∃ ad l c, v = .slice ad l c ∧ b = if neg then !ad.isNone else ad.isNone := by
  have sl : ∀ (zz : Bool) (s : Nat) (rows : List (List D)), DR κ.σ v (.sl zz s rows) → ∃ ad l c, v = .slice ad l c ∧ (zz && rows.isEmpty) = ad.isNone := by
    intro zz s rows hd
    rcases hd.sl_inv with ⟨rfl, rfl, rfl⟩ | ⟨a, c, rfl, rfl, rfl⟩ | ⟨b, o, cap, f, rfl, hz, -⟩
    · exact ⟨none, 0, 0, rfl, rfl⟩
    · exact ⟨_, _, _, rfl, rfl⟩
    · refine ⟨_, _, _, rfl, ?_⟩
      cases zz with
      | false => rfl
      | true => have := hz rfl; simp [this]
  unfold isNilS at h
  split at h
  · cases h
    obtain ⟨ad, l, c, rfl, hb⟩ := sl _ _ _ hv.d_inv
    exact ⟨_, rfl, ad, l, c, rfl, by rw [hb]⟩
  · cases h
    cases hv with
    | osl hd ht =>
    obtain ⟨ad, l, c, rfl, hb⟩ := sl _ _ _ hd
    exact ⟨_, rfl, ad, l, c, rfl, by rw [hb]⟩
  · cases h; cases hv; exact ⟨_, rfl, _, _, _, rfl, by cases neg <;> rfl⟩
  · cases h

theorem isNilP_val {neg : Bool} {z u : A} {v : Value} (h : isNilP neg z = some u) (hv : VR κ v z) : ∃ b : Bool, u = .d (.bool b) ∧
    ∃ ad, v = .pointer ad ∧ b = if neg then !ad.isNone else ad.isNone := by
  unfold isNilP at h
  split at h
  · cases h
    cases hv with | d hd => cases hd; exact ⟨_, rfl, none, rfl, by cases neg <;> rfl⟩
  · cases h; cases hv; exact ⟨_, rfl, _, rfl, by cases neg <;> rfl⟩
  · cases h; cases hv; exact ⟨_, rfl, _, rfl, by cases neg <;> rfl⟩
  · cases h; cases hv; exact ⟨_, rfl, _, rfl, by cases neg <;> rfl⟩
  · cases h

theorem does_isNilS {op : BinOp} {neg : Bool} (hop : op = if neg then .neq else .eql) {t e : TypeId} {y : Operand} {y' : Arg} (hs : SR κ nt fr H a w) (ht : P.underlying t = some (.slice e)) (hy : cArg P t y = some y')
    (h : stepI fr H (.isNilS neg y') = some (x, H')) :
    Does P (do pure (.value (← (do eqGuard op t y (.const (.slice none 0 0)) (a.eval y) (.slice none 0 0); binOp op t (a.eval y) (.slice none 0 0))))) w κ H' x := by
  simp only [stepI, Option.map_eq_some_iff] at h
  obtain ⟨u, hu, h⟩ := h
  simp only [Prod.mk.injEq] at h
  obtain ⟨rfl, rfl⟩ := h
  obtain ⟨b, rfl, ad, l, c, e1, e2⟩ := isNilS_val hu (cArg_sound hy hs)
  refine .same (run_val _ _ _ ?_) hs.hr (.bool b)
  rw [e1, eqGuard_at_slice]
  subst hop
  have he' : ∀ d, (Op.equalIn (d + 1) t (.slice ad l c) (.slice none 0 0)).run P w = .ok ad.isNone w := fun d => by
    cases ad <;> simp [Op.equalIn, run_underlying ht]
  have he : (Op.equal t (.slice ad l c) (.slice none 0 0)).run P w = .ok ad.isNone w := he' 9999
  cases neg <;> simp [binOp, he, e2]

theorem does_isNilP {op : BinOp} {neg : Bool} (hop : op = if neg then .neq else .eql) {t e : TypeId} {y : Operand} {y' : Arg} (hs : SR κ nt fr H a w) (ht : P.underlying t = some (.pointer e)) (hy : cArg P t y = some y')
    (h : stepI fr H (.isNilP neg y') = some (x, H')) :
    Does P (do pure (.value (← (do eqGuard op t y (.const (.pointer none)) (a.eval y) (.pointer none); binOp op t (a.eval y) (.pointer none))))) w κ H' x := by
  simp only [stepI, Option.map_eq_some_iff] at h
  obtain ⟨u, hu, h⟩ := h
  simp only [Prod.mk.injEq] at h
  obtain ⟨rfl, rfl⟩ := h
  obtain ⟨b, rfl, ad, e1, e2⟩ := isNilP_val hu (cArg_sound hy hs)
  refine .same (run_val _ _ _ ?_) hs.hr (.bool b)
  rw [e1, eqGuard_at_pointer]
  subst hop
  have he' : ∀ d, (Op.equalIn (d + 1) t (.pointer ad) (.pointer none)).run P w = .ok ad.isNone w := fun d => by
    cases ad <;> simp [Op.equalIn, run_underlying ht]
  have he : (Op.equal t (.pointer ad) (.pointer none)).run P w = .ok ad.isNone w := he' 9999
  cases neg <;> simp [binOp, he, e2]

theorem does_un {op : UnOp} {y : Operand} {y' : Arg} {ty : TypeId} (hs : SR κ nt fr H a w) (hy : cArg P ty y = some y') (h : stepI fr H (.un op y') = some (x, H')) :
    Does P (do pure (.value (← Op.unary op (a.eval y)))) w κ H' x := by
  simp only [stepI, Option.map_eq_some_iff] at h
  obtain ⟨u, hu, h⟩ := h
  simp only [Prod.mk.injEq] at h
  obtain ⟨rfl, rfl⟩ := h
  have hv := cArg_sound hy hs
  unfold unA at hu
  split at hu
  · rename_i k n e
    rw [e] at hv
    rw [hv.int_inv]
    split at hu
    · cases hu; exact .same (run_val _ _ _ rfl) hs.hr (.int _ _)
    · cases hu
  · rename_i b e
    rw [e] at hv
    rw [hv.bool_inv]
    split at hu
    · cases hu; exact .same (run_val _ _ _ rfl) hs.hr (.bool _)
    · cases hu
  · cases hu

theorem does_cvt {s t : TypeId} {k0 k : IntKind} {y : Operand} {y' : Arg} (hs : SR κ nt fr H a w) (h1 : P.underlying s = some (.int k0)) (h2 : P.underlying t = some (.int k)) (hy : cArg P s y = some y') (h : stepI fr H (.cvt k y') = some (x, H')) :
    Does P (do pure (.value (← convert s t (a.eval y)))) w κ H' x := by
  simp only [stepI] at h
  split at h
  · rename_i k1 n e
    cases h
    have hv := cArg_sound hy hs
    rw [e] at hv
    rw [hv.int_inv]
    refine .same (run_val _ _ _ ?_) hs.hr (.int _ _)
    simp [convert, run_underlying h1, run_underlying h2, Conv.intToInt]
  · cases h

theorem does_cvtS {s t : TypeId} {y : Operand} {y' : Arg} (hs : SR κ nt fr H a w) (h1 : P.underlying s = some .string) (h2 : P.underlying t = some .string) (hy : cArg P s y = some y') (h : stepI fr H (.cvtS y') = some (x, H')) :
    Does P (do pure (.value (← convert s t (a.eval y)))) w κ H' x := by
  simp only [stepI] at h
  split at h
  · rename_i st hst
    cases h
    have hv := cArg_sound hy hs
    rw [hst] at hv
    obtain ⟨u, e, hu⟩ := hv.str_inv
    refine .same (u := .string u) (run_val _ _ _ ?_) hs.hr (.str' _ hu)
    rw [e]
    simp [convert, run_underlying h1, run_underlying h2]
  · cases h

theorem vptrFit.add {x : Bind} {b o k idx off : Nat} (h : vptrFit x ⟨b, o, none⟩ k idx off) (d : Nat) : vptrFit x ⟨b, o + d, none⟩ k idx (off + d) := by
  cases x with
  | vec b' c l k' sz =>
    refine ⟨h.1, fun e => ?_⟩
    have := h.2 e
    injection this with h1 h2
    subst h1; subst h2
    rw [Nat.add_assoc]
  | deadT => trivial
  | _ => exact h.elim

theorem faddr_val {off : Nat} {z u : A} {v : Value} (h : faddrA off z = some u) (hv : VR κ v z) : ∃ b o, v = .pointer (some ⟨b, o, none⟩) ∧ VR κ (.pointer (some ⟨b, o + off, none⟩)) u := by
  unfold faddrA at h
  split at h
  · cases h; cases hv with | ptr i o b hb => exact ⟨_, _, rfl, .ptr _ _ _ hb⟩
  · cases h; cases hv with | aptr i k o b sz hb => exact ⟨_, _, rfl, by rw [Nat.add_assoc]; exact .aptr _ _ _ _ _ hb⟩
  · cases h
    cases hv with
    | eptr cells b o f hc hd =>
      exact ⟨_, _, rfl, .eptr _ _ _ (fun j => f (off + j)) (fun j x hx => by rw [List.getElem?_drop] at hx; rw [Nat.add_assoc]; exact hc _ x hx)
        (fun j x hx => by rw [List.getElem?_drop] at hx; exact hd _ x hx)⟩
  · cases h
    cases hv with
    | vptr _ _ _ _ b o hf => exact ⟨_, _, rfl, .vptr _ _ _ _ _ _ (hf.add off)⟩
  · cases h

theorem does_faddr {s : TypeId} {fs : Array Field} {f : Nat} {fd : Field} {i : TypeInfo} {y : Operand} {y' : Arg} (hs : SR κ nt fr H a w) (h1 : P.underlying s = some (.struct fs)) (h2 : fs[f]? = some fd) (h3 : P.info? fd.type = some i) (h4 : i.size ≠ 0)
    (hy : cArg P 0 y = some y') (h : stepI fr H (.faddr fd.offset y') = some (x, H')) :
    Does P (do pure (.value (← Instr.fieldAt s (a.eval y) f))) w κ H' x := by
  simp only [stepI, Option.map_eq_some_iff] at h
  obtain ⟨u, hu, h⟩ := h
  simp only [Prod.mk.injEq] at h
  obtain ⟨rfl, rfl⟩ := h
  obtain ⟨b, o, e, hv⟩ := faddr_val hu (cArg_sound hy hs)
  refine .same (run_val _ _ _ ?_) hs.hr hv
  rw [e]
  simp [Instr.fieldAt, run_underlying h1, h2, Instr.sureAddr, fieldPlace, sizeOf, typeInfo, h3, h4, add_mk]

theorem does_fld {s : TypeId} {fs : Array Field} {f : Nat} {fd : Field} {d : TypeDesc} {i : TypeInfo} {y : Operand} {y' : Arg} (hs : SR κ nt fr H a w) (h1 : P.underlying s = some (.struct fs)) (h2 : fs[f]? = some fd)
    (hd : P.underlying fd.type = some d) (h3 : P.info? fd.type = some i)
    (hy : cArg P 0 y = some y') (h : stepI fr H (if isAggD d then .fld fd.offset i.size true y' else .fld fd.offset 1 false y') = some (x, H')) :
    Does P (do pure (.value (← Instr.field s (a.eval y) f))) w κ H' x := by
  have hv := cArg_sound hy hs
  have main : ∀ (n : Nat) (agg : Bool), (agg = isAggD d) → (n = if agg then i.size else 1) → stepI fr H (.fld fd.offset n agg y') = some (x, H') → Does P (do pure (.value (← Instr.field s (a.eval y) f))) w κ H' x := by
    intro n agg hagg hn h
    simp only [stepI] at h
    split at h
    · rename_i cs e
      rw [e] at hv
      simp only [Option.map_eq_some_iff] at h
      obtain ⟨r, hr, h⟩ := h
      simp only [Prod.mk.injEq] at h
      obtain ⟨rfl, rfl⟩ := h
      generalize hev : a.eval y = v at hv ⊢
      cases hv with
      | agg vs as hl hp =>
      have hlr := (cutL_some hr).2.2
      have hle := (cutL_some hr).1
      have hpt : ∀ (j : Nat) (u : Value) (c : A), ((vs.drop fd.offset).take n)[j]? = some u → r[j]? = some c → VR κ u c := fun j u c hu hc => by
        have hj : j < n := by rw [← hlr]; exact (List.getElem?_eq_some_iff.1 hc).1
        rw [cutL_get hr j hj] at hc
        rw [List.getElem?_take, if_pos hj, List.getElem?_drop] at hu
        exact hp _ u c hu hc
      have hlv : ((vs.drop fd.offset).take n).length = n := by simp; omega
      cases agg with
      | true =>
        simp only [if_true] at hn
        subst hn
        refine .same (u := .agg ((vs.drop fd.offset).take i.size).toArray) (run_val _ _ _ ?_) hs.hr (.agg _ _ (by omega) hpt)
        simp [Instr.field, run_underlying h1, h2, asAgg, part, run_isAgg hd, ← hagg, sizeOf, typeInfo, h3]
      | false =>
        simp only [Bool.false_eq_true, if_false] at hn
        subst hn
        obtain ⟨u, hu⟩ : ∃ u, vs[fd.offset]? = some u := ⟨vs[fd.offset]'(by omega), List.getElem?_eq_getElem _⟩
        obtain ⟨c, hc⟩ : ∃ c, r[0]? = some c := ⟨r[0]'(by omega), List.getElem?_eq_getElem _⟩
        have hrc : r.headD .undef = c := by cases r with | nil => simp at hc | cons y ys => simpa using hc
        refine .same (u := u) (run_val _ _ _ ?_) hs.hr ?_
        · simp [Instr.field, run_underlying h1, h2, asAgg, part, run_isAgg hd, ← hagg, hu]
        · simp only [Bool.false_eq_true, if_false, hrc]
          exact hpt 0 u c (by rw [List.getElem?_take, if_pos (by omega), List.getElem?_drop]; exact hu) hc
    · cases h
  cases hagg : isAggD d with
  | true => rw [hagg] at h; exact main i.size true hagg.symm rfl h
  | false => rw [hagg] at h; exact main 1 false hagg.symm rfl h

/-- a pointer to a row that is never written -/
theorem DR.row {σ : St} {z : Bool} {sz : Nat} {rows : List (List D)} {b o cap : Nat} (h : DR σ (.slice (some ⟨b, o, none⟩) rows.length cap) (.sl z sz rows)) {k : Nat} {r : List D} (hk : rows[k]? = some r) :
    r.length = sz ∧ ∃ f : Nat → Value, (∀ (j : Nat) (x : D), r[j]? = some x → σ b (o + k * sz + j) = some (f j)) ∧ ∀ (j : Nat) (x : D), r[j]? = some x → DR σ (f j) x := by
  obtain ⟨-, f, -, -, hrow, hc, hd⟩ := h.sl_at
  · exact ⟨hrow k r hk, f k, fun j x hx => hc k j r x hk hx, fun j x hx => hd k j r x hk hx⟩

theorem rowAt_some {rows : List (List D)} {n : Int} {r : List D} (h : rowAt rows n = some r) : 0 ≤ n ∧ n < rows.length ∧ rows[n.toNat]? = some r := by
  unfold rowAt at h
  split at h
  · rename_i h0
    have := (List.getElem?_eq_some_iff.1 h).1
    exact ⟨h0, by omega, h⟩
  · cases h

theorem does_iaddr {t e : TypeId} {ti : TypeInfo} {y z : Operand} {y' z' : Arg} (hs : SR κ nt fr H a w) (h1 : sliceElem P t = some (e, ti)) (hy : cArg P t y = some y') (hz : cArg P 0 z = some z')
    (h : stepI fr H (.iaddr ti.size y' z') = some (x, H')) :
    Does P (do pure (.value (← Instr.indexAt t (a.eval y) (a.eval z)))) w κ H' x := by
  have ht : P.underlying t = some (.slice e) ∧ P.info? e = some ti := by
    unfold sliceElem at h1
    split at h1
    · rename_i e' he
      simp only [Option.map_eq_some_iff, Prod.mk.injEq] at h1
      obtain ⟨i, hi, rfl, rfl⟩ := h1
      exact ⟨he, hi⟩
    · cases h1
  simp only [stepI, Option.map_eq_some_iff] at h
  obtain ⟨u, hu, h⟩ := h
  simp only [Prod.mk.injEq] at h
  obtain ⟨rfl, rfl⟩ := h
  have hv := cArg_sound hy hs
  have hi := cArg_sound hz hs
  have fin : ∀ (k : IntKind) (n : Int) (b o len cap : Nat), a.eval y = .slice (some ⟨b, o, none⟩) len cap → a.eval z = .int k n → 0 ≤ n → n < len → VR κ (.pointer (some ⟨b, o + n.toNat * ti.size, none⟩)) u →
      Does P (do pure (.value (← Instr.indexAt t (a.eval y) (a.eval z)))) w κ H u := by
    intro k n b o len cap e1 e2 h0 hlt hv
    refine .same (run_val _ _ _ ?_) hs.hr hv
    rw [e1, e2]
    simp [Instr.indexAt, asIntOf, run_underlying ht.1, h0, hlt, sizeOf, typeInfo, ht.2, add_mk]
  have rowcase : ∀ (zz : Bool) (s : Nat) (rows : List (List D)) (k : IntKind) (n : Int), DR κ.σ (a.eval y) (.sl zz s rows) → a.eval z = .int k n → (if s = ti.size then (rowAt rows n).map A.eptr else none) = some u →
      Does P (do pure (.value (← Instr.indexAt t (a.eval y) (a.eval z)))) w κ H u := by
    intro zz s rows k n hd e2 hu
    split at hu
    · rename_i hsz
      subst hsz
      simp only [Option.map_eq_some_iff] at hu
      obtain ⟨r, hr, rfl⟩ := hu
      obtain ⟨h0, hlt, hk⟩ := rowAt_some hr
      rcases hd.sl_inv with ⟨-, -, rfl⟩ | ⟨_, _, -, -, rfl⟩ | ⟨b, o, cap, f, e1, -⟩
      · simp at hk
      · simp at hk
      · rw [e1] at hd
        obtain ⟨hl, g, hg1, hg2⟩ := hd.row hk
        exact fin k n b o rows.length cap e1 e2 h0 hlt (.eptr r b _ g hg1 hg2)
    · cases hu
  unfold iaddrA at hu
  split at hu
  · rename_i zz s rows k n e1 e2
    rw [e1] at hv; rw [e2] at hi
    exact rowcase zz s rows k n hv.d_inv hi.int_inv hu
  · rename_i zz s rows tk k n e1 e2
    rw [e1] at hv; rw [e2] at hi
    refine rowcase zz s rows k n ?_ hi.int_inv hu
    generalize a.eval y = v at hv
    cases hv with | osl hd _ => exact hd
  · rename_i ar off len k n e1 e2
    rw [e1] at hv; rw [e2] at hi
    split at hu
    · rename_i s rows hH
      split at hu
      · rename_i hc
        cases hu
        obtain ⟨rfl, h0, hlt⟩ := hc
        obtain ⟨b', hb', -⟩ := hs.hr.ob ar _ hH
        generalize hev : a.eval y = v at hv
        cases hv with
        | msl _ _ _ b sz o cap hb hl ho hz =>
        obtain ⟨rfl, rfl⟩ : b' = b ∧ ti.size = sz := by rcases hb with hb | hb <;> rw [hb] at hb' <;> cases hb'; exact ⟨rfl, rfl⟩
        have ho' := ho (by omega)
        rw [← hev]
        refine fin k n b' o len cap hev hi.int_inv h0 hlt ?_
        have : o + n.toNat * ti.size = (off + n.toNat) * ti.size + 0 := by rw [ho', Nat.add_mul]; omega
        rw [this]
        exact .aptr _ _ _ _ _ hb
      · cases hu
    · cases hu
  · cases hu

theorem does_iaddrV {t e : TypeId} {ti : TypeInfo} {y z : Operand} {y' z' : Arg} (hs : SR κ nt fr H a w) (h1 : sliceElem P t = some (e, ti)) (hy : cArg P t y = some y') (hz : cArg P 0 z = some z')
    (h : stepI fr H (.iaddrV ti.size y' z') = some (x, H')) :
    Does P (do pure (.value (← Instr.indexAt t (a.eval y) (a.eval z)))) w κ H' x := by
  have ht : P.underlying t = some (.slice e) ∧ P.info? e = some ti := by
    unfold sliceElem at h1
    split at h1
    · rename_i e' he
      simp only [Option.map_eq_some_iff, Prod.mk.injEq] at h1
      obtain ⟨i, hi, rfl, rfl⟩ := h1
      exact ⟨he, hi⟩
    · cases h1
  simp only [stepI, Option.map_eq_some_iff] at h
  obtain ⟨u, hu, h⟩ := h
  simp only [Prod.mk.injEq] at h
  obtain ⟨rfl, rfl⟩ := h
  have hv := cArg_sound hy hs
  have hi := cArg_sound hz hs
  unfold iaddrV at hu
  split at hu
  · rename_i ar kk len k n e1 e2
    rw [e1] at hv; rw [e2] at hi
    split at hu
    · rename_i s ty k' rows hH
      split at hu
      · rename_i hc
        cases hu
        obtain ⟨rfl, rfl, h0, hlt⟩ := hc
        obtain ⟨b', c, cur, hb', -⟩ := hs.hr.ob ar _ hH
        generalize hev : a.eval y = v at hv
        cases hv with
        | vsl _ _ _ ad cap _ hf =>
        rw [hb'] at hf
        obtain ⟨-, hf⟩ := hf
        obtain ⟨hle, hf2⟩ := hf rfl
        cases hf2
        refine .same (u := .pointer (some ⟨b', 0 + n.toNat * ti.size, none⟩)) (run_val _ _ _ ?_) hs.hr (.vptr _ _ _ _ _ _ ?_)
        · rw [hi.int_inv]
          simp [Instr.indexAt, asIntOf, run_underlying ht.1, h0, hlt, sizeOf, typeInfo, ht.2, add_mk]
        · rw [hb']
          exact ⟨Nat.le_refl _, fun _ => by congr 1; omega⟩
      · cases hu
    · cases hu
  · cases hu

theorem does_sidx {t : TypeId} {y z : Operand} {y' z' : Arg} (hs : SR κ nt fr H a w) (ht : P.underlying t = some .string) (hy : cArg P t y = some y') (hz : cArg P 0 z = some z') (h : stepI fr H (.sidx y' z') = some (x, H')) :
    Does P (do pure (.value (← Instr.index t (a.eval y) (a.eval z)))) w κ H' x := by
  simp only [stepI] at h
  split at h
  · rename_i s k n e1 e2
    simp only [Option.map_eq_some_iff] at h
    obtain ⟨b, hb, h⟩ := h
    simp only [Prod.mk.injEq] at h
    obtain ⟨rfl, rfl⟩ := h
    have hv := cArg_sound hy hs
    have hi := cArg_sound hz hs
    rw [e1] at hv; rw [e2] at hi
    obtain ⟨u, e3, rfl⟩ := hv.str_inv
    refine .same (run_val _ _ _ ?_) hs.hr (.int _ _)
    rw [e3, hi.int_inv]
    unfold byteAt at hb
    split at hb
    · rename_i h0
      have hlt := (List.getElem?_eq_some_iff.1 hb).1
      have hget : u[n.toNat]? = some b := by
        have h2 : n.toNat < u.size := by rw [str_size]; exact hlt
        rw [getElem?_pos u n.toNat h2]
        have := (List.getElem?_eq_some_iff.1 hb).2
        rw [← this]
        rfl
      simp [Instr.index, asIntOf, run_underlying ht, h0, hget]
    · cases hb
  · cases h

theorem does_lenS {t : TypeId} {ty : TypeId} {xs : Array Operand} {y : Operand} {y' : Arg} {ts : Array TypeId} (hs : SR κ nt fr H a w) (ht : P.underlying t = some .string) (h0 : ts[0]? = some t) (hx : xs.toList = [y]) (hy : cArg P t y = some y')
    (h : stepI fr H (.lenS y') = some (x, H')) :
    Does P (do pure (.value (← Builtin.len_ ts ty (xs.map a.eval)))) w κ H' x := by
  have hx' : (xs.map a.eval)[0]? = some (a.eval y) := by
    have : xs = #[y] := by cases xs; simp at hx; subst hx; rfl
    subst this; simp
  simp only [stepI] at h
  split at h
  · rename_i s e1
    cases h
    have hv := cArg_sound hy hs
    rw [e1] at hv
    obtain ⟨u, e2, rfl⟩ := hv.str_inv
    refine .same (run_val _ _ _ ?_) hs.hr (.int .i64 _)
    rw [← str_size]
    simp [Builtin.len_, h0, hx', e2, run_underlying ht, goInt]
  · cases h

theorem does_lenL {t e : TypeId} {ty : TypeId} {xs : Array Operand} {y : Operand} {y' : Arg} {ts : Array TypeId} (hs : SR κ nt fr H a w) (ht : P.underlying t = some (.slice e)) (h0 : ts[0]? = some t) (hx : xs.toList = [y]) (hy : cArg P t y = some y')
    (h : stepI fr H (.lenL y') = some (x, H')) :
    Does P (do pure (.value (← Builtin.len_ ts ty (xs.map a.eval)))) w κ H' x := by
  simp only [stepI, Option.map_eq_some_iff] at h
  obtain ⟨n, hn, h⟩ := h
  simp only [Prod.mk.injEq] at h
  obtain ⟨rfl, rfl⟩ := h
  have hv := cArg_sound hy hs
  have hx' : (xs.map a.eval)[0]? = some (a.eval y) := by
    have : xs = #[y] := by cases xs; simp at hx; subst hx; rfl
    subst this; simp
  refine .same (run_val _ _ _ ?_) hs.hr (.int .i64 n)
  have fin : ∀ ad m c, a.eval y = .slice ad m c → m = n → (Builtin.len_ ts ty (xs.map a.eval)).run P w = .ok (.int .i64 n) w := by
    rintro ad m c e1 rfl
    simp [Builtin.len_, h0, hx', e1, run_underlying ht, goInt]
  unfold lenA at hn
  split at hn
  · rename_i z s rows e1
    cases hn
    rw [e1] at hv
    rcases hv.d_inv.sl_inv with ⟨e2, -, rfl⟩ | ⟨_, _, e2, -, rfl⟩ | ⟨b, o, cap, f, e2, -⟩
    · exact fin _ _ _ e2 rfl
    · exact fin _ _ _ e2 rfl
    · exact fin _ _ _ e2 rfl
  · rename_i z s rows tk e1
    cases hn
    rw [e1] at hv
    have hdr : DR κ.σ (a.eval y) (.sl z s rows) := by generalize a.eval y = v at hv; cases hv with | osl hd _ => exact hd
    rcases hdr.sl_inv with ⟨e2, -, rfl⟩ | ⟨_, _, e2, -, rfl⟩ | ⟨b, o, cap, f, e2, -⟩
    · exact fin _ _ _ e2 rfl
    · exact fin _ _ _ e2 rfl
    · exact fin _ _ _ e2 rfl
  · rename_i i off m e1
    cases hn
    rw [e1] at hv
    generalize hev : a.eval y = v at hv
    cases hv with
    | msl _ _ _ b sz o cap hb hl ho hz => exact fin _ _ _ hev rfl
  · rename_i i off m e1
    cases hn
    rw [e1] at hv
    generalize hev : a.eval y = v at hv
    cases hv with
    | vsl _ _ _ ad cap _ hf => exact fin _ _ _ hev rfl
  · cases hn

def mmB (isMax : Bool) (ts : Array TypeId) (ty : TypeId) (vs : Array Value) : Sem Value := if isMax then Builtin.max_ ts ty vs else Builtin.min_ ts ty vs

theorem does_mm {isMax : Bool} {t1 t2 ty : TypeId} {ts : Array TypeId} {xs : Array Operand} {y z : Operand} {y' z' : Arg} (hs : SR κ nt fr H a w) (hx : xs.toList = [y, z]) (hy : cArg P t1 y = some y') (hz : cArg P t2 z = some z')
    (h : stepI fr H (.mm isMax y' z') = some (x, H')) :
    Does P (do pure (.value (← mmB isMax ts ty (xs.map a.eval)))) w κ H' x := by
  simp only [stepI, Option.map_eq_some_iff] at h
  obtain ⟨u, hu, h⟩ := h
  simp only [Prod.mk.injEq] at h
  obtain ⟨rfl, rfl⟩ := h
  have hv := cArg_sound hy hs
  have hi := cArg_sound hz hs
  have hxs : xs = #[y, z] := by cases xs; simp at hx; subst hx; rfl
  unfold mmA at hu
  split at hu
  · rename_i k m k' n e1 e2
    split at hu
    · rename_i hk
      subst hk
      cases hu
      rw [e1] at hv; rw [e2] at hi
      refine .same (run_val _ _ _ ?_) hs.hr (.int _ _)
      subst hxs
      cases isMax with
      | true =>
        simp [mmB, Builtin.max_, hv.int_inv, hi.int_inv, Builtin.max2]
        split <;> omega
      | false =>
        simp [mmB, Builtin.min_, hv.int_inv, hi.int_inv, Builtin.min2]
        split <;> omega
    · cases hu
  · cases hu

end
end Go.Zam
