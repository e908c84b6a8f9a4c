/-
  An abstract machine over the model, twelfth part: its code (C), how it is made of the model's (compC), what it does (AWp), and what a call does (ACall). No program in sight. No condition.
-/
import Derived.Test.YtjpdjaglggcbkaaZam11
import Derived.Deep.LoopGhost
namespace Go.Zam
open Go.RowKit (Below)

inductive C where
  | skip
  | ops (l : List IOp) (draw : Bool)
  | seq (a b : C)
  | cond (c : Arg) (a b : C)
  | blk (id : Nat) (c : C)
  | loop (c : C)
  | exit (id : Nat)
  | ret
  | bad
  deriving Inhabited

/-! ### how it is made -/

def guardOf (ops : Array Oper) : Option (Nat × Bool) → Option (Option (Nat × Bool))
  | none => some none
  | some (j, want) => ((ops[j]?).bind (·.dst)).map fun s => some (s, want)

def badOp : IOp := { dst := none, g := none, i := .callv (.c .nilf) [] }

def compO (P : Program) (nt : Nat) (tok : List Nat) (ops : Array Oper) (o : Oper) : IOp :=
  match guardOf ops o.guard, compI P tok o with
  | some g, some i => if (o.dst.map fun d => decide (d < nt)).getD true then { dst := o.dst, g := g, i := i } else badOp
  | _, _ => badOp

def Arg.slots : Arg → List Nat
  | .t s => [s]
  | .c _ => []

def optSlots : Option Arg → List Nat
  | some x => x.slots
  | none => []

def I.slots : I → List Nat
  | .mv x | .box _ _ x | .load _ _ x | .nilCheck x | .isNilS _ x | .isNilP _ x | .un _ x | .cvt _ x | .cvtS x | .faddr _ x | .fld _ _ _ x | .ext x _ | .lenS x | .lenL x => x.slots
  | .nilT _ _ | .alloc _ _ | .allocT .. => []
  | .pick a b c => a.slots ++ b.slots ++ c.slots
  | .store _ x y | .bin _ x y | .beq _ x y | .eqA _ _ x y | .iaddr _ x y | .sidx x y | .mm _ x y | .app _ _ _ x y | .appS _ x y => x.slots ++ y.slots
  | .sslice x l h => x.slots ++ optSlots l ++ optSlots h
  | .slice _ x l h m => x.slots ++ optSlots l ++ optSlots h ++ optSlots m
  | .build _ ps => ps.flatMap fun x => x.2.2.slots
  | .bslice _ ps | .bsliceT _ _ ps | .bsliceM _ ps => ps.flatMap Arg.slots
  | .mkSl _ _ _ x y | .appV _ _ _ x y | .cutV _ x y | .iaddrV _ x y | .lkp _ _ _ _ x y => x.slots ++ y.slots
  | .loadV _ _ x => x.slots
  | .mkMap => []
  | .mpUpd _ x k v => x.slots ++ k.slots ++ v.slots
  | .mkfn _ a b => a.flatMap Arg.slots ++ b.flatMap Arg.slots
  | .call _ l => l.flatMap Arg.slots
  | .callv f l => f.slots ++ l.flatMap Arg.slots

def IOp.reads (o : IOp) : List Nat := o.i.slots ++ (match o.g with | some (s, _) => [s] | none => [])

/-- 0: looks at slots alone · 1: looks at memory · 2: makes memory, or appends · 3: calls · 4: stores -/
def I.cls : I → Nat
  | .load .. | .iaddr .. | .lkp .. | .iaddrV .. | .loadV .. => 1
  | .nilT .. | .mkMap | .alloc .. | .allocT .. | .box .. | .bsliceT .. | .bsliceM .. | .mkSl .. | .app .. | .appV .. | .appS .. => 2
  | .call .. | .callv .. => 3
  | .store .. | .mpUpd .. => 4
  | _ => 0

def I.vread : I → Bool
  | .iaddrV .. | .loadV .. => true
  | _ => false

def I.vapp : I → Bool
  | .appV .. => true
  | _ => false

def clash (a b : Nat) : Bool :=
  (a == 4 && b != 0) || (b == 4 && a != 0) || (a == 2 && (b == 2 || b == 3)) || (b == 2 && a == 3)

def tied (a b : IOp) : Bool :=
  clash a.i.cls b.i.cls || (match a.dst with | some d => b.reads.contains d || b.dst == some d | none => false) || (match b.dst with | some d => a.reads.contains d | none => false)

def drawOk (l : List IOp) (ops : Array Oper) (bf : Array Nat) : Bool :=
  !((l.any fun o => o.i.vread) && (l.any fun o => o.i.vapp)) &&
  (List.range ops.size).all fun j =>
    ((ops.getD j default).after.all fun e => !Region.binds .any e || decide (e.on < j)) &&
    (List.range j).all fun i => !tied (l.getD i badOp) (l.getD j badOp) || (bf.getD j 0).testBit i

def compC (P : Program) (nt : Nat) (tok : List Nat) : Code → C
  | .skip => .skip
  | .region _ ops false => .ops (ops.toList.map (compO P nt tok ops)) false
  | .region _ ops true => if drawOk (ops.toList.map (compO P nt tok ops)) ops (Region.before ops) && P.follows .mixedOrders then .ops (ops.toList.map (compO P nt tok ops)) true else .bad
  | .seq a b => .seq (compC P nt tok a) (compC P nt tok b)
  | .cond c a b => match cArg P 0 c with
    | some c' => .cond c' (compC P nt tok a) (compC P nt tok b)
    | none => .bad
  | .block id c => .blk id (compC P nt tok c)
  | .loop c => .loop (compC P nt tok c)
  | .exit id => .exit id
  | .ret => .ret
  | _ => .bad

/-! ### what it does -/

/-- a call, in whatever memory: it returns, and of what it returns and of memory behind it Q holds -/
def ACall (P : Program) (f : FuncId) (args : List A) (H : Hp) (Q : A → Hp → Prop) : Prop :=
  ∀ (κ : K) (w : World) (vs : List Value), HR κ H w → vs.length = args.length → (∀ (i : Nat) (v : Value) (a : A), vs[i]? = some v → args[i]? = some a → VR κ v a) →
    Calls P f vs.toArray w fun e w' => ∃ v κ' x H', e = .returned v ∧ κ.le κ' ∧ HR κ' H' w' ∧ VR κ' v x ∧ Q x H'

theorem ACall.mono {P : Program} {f : FuncId} {args : List A} {H : Hp} {Q Q' : A → Hp → Prop} (h : ACall P f args H Q) (hq : ∀ x H', Q x H' → Q' x H') : ACall P f args H Q' :=
  fun κ w vs hr hl hv => (h κ w vs hr hl hv).mono fun _ _ ⟨v, κ', x, H', h1, h2, h3, h4, h5⟩ => ⟨v, κ', x, H', h1, h2, h3, h4, hq x H' h5⟩

/-- one operation, and what follows -/
def runI (P : Program) (fr : Fr) (H : Hp) (i : I) (K : A → Hp → Prop) : Prop :=
  match i with
  | .call f args => ACall P f (args.map (Arg.ev fr)) H K
  | .callv f args => match f.ev fr with
    | .d (.fn g) => callOk P g = true ∧ ACall P g (args.map (Arg.ev fr)) H K
    | .fn (.func g) first cap => callOk P g = true ∧ ACall P g (first ++ args.map (Arg.ev fr) ++ cap) H K
    | _ => False
  | i => match stepI fr H i with
    | some (v, H') => K v H'
    | none => False

def AGd (x : A) (fr : Fr) (b : Bool) (T F : Fr → Prop) : Prop :=
  match x with
  | .d (.bool c) => if c = b then T fr else F fr
  | .tup [] => F fr
  | _ => False

def AOps (P : Program) : List IOp → (Fr → Hp → Prop) → Fr → Hp → Prop
  | [], K, fr, H => K fr H
  | o :: r, K, fr, H =>
    match o.g with
    | none => runI P fr H o.i fun v H' => AOps P r K (fr.put o.dst v) H'
    | some (s, b) => AGd (fr s) fr b (fun fr => runI P fr H o.i fun v H' => AOps P r K (fr.put o.dst v) H') (fun fr => AOps P r K (fr.put o.dst (.tup [])) H)

/-- the same where the order is open: a call leaves memory as it is -/
def runD (P : Program) (fr : Fr) (H : Hp) (i : I) (K : A → Hp → Prop) : Prop :=
  match i with
  | .call f args => ∃ v, ACall P f (args.map (Arg.ev fr)) H (fun v' H' => v' = v ∧ H' = H) ∧ K v H
  | .callv f args => match f.ev fr with
    | .d (.fn g) => callOk P g = true ∧ ∃ v, ACall P g (args.map (Arg.ev fr)) H (fun v' H' => v' = v ∧ H' = H) ∧ K v H
    | .fn (.func g) first cap => callOk P g = true ∧ ∃ v, ACall P g (first ++ args.map (Arg.ev fr) ++ cap) H (fun v' H' => v' = v ∧ H' = H) ∧ K v H
    | _ => False
  | i => match stepI fr H i with
    | some (v, H') => K v H'
    | none => False

def ADraw (P : Program) : List IOp → (Fr → Hp → Prop) → Fr → Hp → Prop
  | [], K, fr, H => K fr H
  | o :: r, K, fr, H =>
    match o.g with
    | none => runD P fr H o.i fun v H' => ADraw P r K (fr.put o.dst v) H'
    | some (s, b) => AGd (fr s) fr b (fun fr => runD P fr H o.i fun v H' => ADraw P r K (fr.put o.dst v) H') (fun fr => ADraw P r K (fr.put o.dst (.tup [])) H)

inductive Ex where
  | normal
  | exit (id : Nat)
  | ret

def Ex.then (K : Fr → Hp → Prop) (Q : Ex → Fr → Hp → Prop) : Ex → Fr → Hp → Prop
  | .normal, fr, H => K fr H
  | e, fr, H => Q e fr H

def Ex.blk (id : Nat) (Q : Ex → Fr → Hp → Prop) : Ex → Fr → Hp → Prop
  | .exit i, fr, H => if i = id then Q .normal fr H else Q (.exit i) fr H
  | e, fr, H => Q e fr H

/-- a test -/
def ABr (x : A) (T F : Prop) : Prop :=
  match x with
  | .d (.bool c) => if c = true then T else F
  | _ => False

/-- what a round hands on -/
def Again (m : Nat) (J : Fr → Hp → Prop) (μ : Fr → Hp → Nat) (n : Nat) (fr : Fr) (H : Hp) : Prop :=
  ∃ k, m ≤ k ∧ k ≤ H.length ∧ J (fr.clr k) (Hp.cut k H) ∧ μ (fr.clr k) (Hp.cut k H) < n

def AWp (P : Program) (n0 : Nat) : C → (Ex → Fr → Hp → Prop) → Fr → Hp → Prop
  | .skip, Q, fr, H => Q .normal fr H
  | .ops l false, Q, fr, H => AOps P l (Q .normal) fr H
  | .ops l true, Q, fr, H => ADraw P l (Q .normal) fr H
  | .seq a b, Q, fr, H => AWp P n0 a (Ex.then (AWp P n0 b Q) Q) fr H
  | .cond c a b, Q, fr, H => ABr (c.ev fr) (AWp P n0 a Q fr H) (AWp P n0 b Q fr H)
  | .blk id c, Q, fr, H => AWp P n0 c (Ex.blk id Q) fr H
  | .loop c, Q, fr, H => ∃ (m : Nat) (J : Fr → Hp → Prop) (μ : Fr → Hp → Nat), n0 ≤ m ∧ m ≤ H.length ∧ J (fr.clr m) (Hp.cut m H) ∧
      ∀ fr H, J fr H → AWp P n0 c (Ex.then (Again m J μ (μ fr H)) Q) fr H
  | .exit id, Q, fr, H => Q (.exit id) fr H
  | .ret, Q, fr, H => Q .ret fr H
  | .bad, _, _, _ => False

/-! ### it is sound -/

def ExR : Exit → Ex → Prop
  | .normal, .normal => True
  | .exit i, .exit j => i = j
  | .ret, .ret => True
  | _, _ => False

/-- what the model's continuation must be for the abstract one -/
def Post (κ0 : K) (nt : Nat) (Q : Ex → Fr → Hp → Prop) : Exit → Act → World → Prop :=
  fun e a w => ∃ κ fr H e', ExR e e' ∧ κ0.le κ ∧ SR κ nt fr H a w ∧ Q e' fr H

theorem stepI_runI {P : Program} {fr : Fr} {H : Hp} {i : I} {K : A → Hp → Prop} (h : runI P fr H i K) : (∃ f l, i = .call f l) ∨ (∃ f l, i = .callv f l) ∨ ∃ v H', stepI fr H i = some (v, H') ∧ K v H' := by
  cases i with
  | call f l => exact .inl ⟨f, l, rfl⟩
  | callv f l => exact .inr (.inl ⟨f, l, rfl⟩)
  | _ =>
    refine .inr (.inr ?_)
    simp only [runI] at h
    split at h
    · rename_i v H' e; exact ⟨v, H', e, h⟩
    · exact h.elim

theorem callFunc_ok {P : Program} {f : FuncId} (h : callOk P f = true) (args : Array Value) (w : World) : (callFunc f args).run P w = .ok (.enter f args) w := by
  unfold callOk at h
  split at h
  · rename_i fn hf
    simp only [Bool.and_eq_true, Bool.not_eq_true'] at h
    obtain ⟨h1, h2⟩ := h
    have h1' : fn.body.isNone = false := by cases hb : fn.body <;> simp_all
    simp only [callFunc, Sem.run_bind, run_program, Result.andThen_ok, hf, h2, h1', Bool.false_eq_true, if_false, Sem.run_pure]
  · cases h

theorem cArgs_sound {P : Program} {ts : Array TypeId} {xs : Array Operand} {ys : List Arg} (h : cArgs P ts xs = some ys) {κ : K} {nt : Nat} {fr : Fr} {H : Hp} {a : Act} {w : World} (hs : SR κ nt fr H a w) :
    (xs.map a.eval).toList.length = ys.length ∧ ∀ (i : Nat) (v : Value) (b : A), (xs.map a.eval).toList[i]? = some v → (ys.map (Arg.ev fr))[i]? = some b → VR κ v b := by
  unfold cArgs at h
  split at h
  · rename_i hsz
    obtain ⟨h1, h2⟩ := args_sound hs _ _ h
    have hl : (xs.toList.zip ts.toList).length = xs.size := by simp; omega
    have hm : (xs.toList.zip ts.toList).map (fun x => a.eval x.1) = (xs.map a.eval).toList := by
      rw [Array.toList_map, ← List.map_fst_zip (l₁ := xs.toList) (l₂ := ts.toList) (by simp; omega), List.map_map]
      simp only [Function.comp_def]
      rw [List.map_fst_zip (by simp; omega)]
    rw [hm] at h2
    exact ⟨by rw [← h1, hl]; simp, h2⟩
  · cases h

theorem compI_call {P : Program} {tok : List Nat} {o : Oper} {f : FuncId} {l : List Arg} (hc : compI P tok o = some (.call f l)) :
    ∃ xs ts, o.op = .call { callee := .value (.func f), args := xs, argTypes := ts } ∧ callOk P f = true ∧ cArgs P ts xs = some l := by
  obtain ⟨dst, op, ty, pos, aft, g⟩ := o
  cases op with
  | call c =>
    obtain ⟨callee, xs, ts⟩ := c
    simp only [compI] at hc
    cases callee with
    | builtin b =>
      cases b <;> simp only at hc <;> (try (repeat' split at hc)) <;> simp [Option.bind_eq_some_iff] at hc
    | value x =>
      cases x with
      | func f' =>
        simp only at hc
        split at hc
        · rename_i hok
          simp only [Option.map_eq_some_iff, I.call.injEq] at hc
          obtain ⟨ys, hys, rfl, rfl⟩ := hc
          exact ⟨xs, ts, rfl, hok, hys⟩
        · cases hc
      | _ => simp [Option.bind_eq_some_iff] at hc
    | invoke r m => cases hc
  | _ => simp only [compI] at hc <;> (try (repeat' split at hc)) <;> simp [Option.bind_eq_some_iff] at hc

theorem compI_callv {P : Program} {tok : List Nat} {o : Oper} {f : Arg} {l : List Arg} (hc : compI P tok o = some (.callv f l)) :
    ∃ x xs ts, o.op = .call { callee := .value x, args := xs, argTypes := ts } ∧ cArg P 0 x = some f ∧ cArgs P ts xs = some l := by
  obtain ⟨dst, op, ty, pos, aft, g⟩ := o
  cases op with
  | call c =>
    obtain ⟨callee, xs, ts⟩ := c
    simp only [compI] at hc
    cases callee with
    | builtin b =>
      cases b <;> simp only at hc <;> (try (repeat' split at hc)) <;> simp [Option.bind_eq_some_iff] at hc
    | value x =>
      cases x with
      | func f' =>
        simp only at hc
        split at hc
        · simp at hc
        · cases hc
      | _ =>
        simp only [Option.bind_eq_bind, Option.bind_eq_some_iff, Option.pure_def, Option.some.injEq, I.callv.injEq] at hc
        obtain ⟨y, hy, ys, hys, rfl, rfl⟩ := hc
        exact ⟨_, xs, ts, rfl, hy, hys⟩
    | invoke r m => cases hc
  | _ => simp only [compI] at hc <;> (try (repeat' split at hc)) <;> simp [Option.bind_eq_some_iff] at hc

theorem get_append3 {α : Type} (a b c : List α) (i : Nat) : (a ++ b ++ c)[i]? = if i < a.length then a[i]? else if i < a.length + b.length then b[i - a.length]? else c[i - a.length - b.length]? := by
  by_cases h1 : i < a.length
  · rw [if_pos h1, List.append_assoc, List.getElem?_append_left h1]
  · rw [if_neg h1]
    by_cases h2 : i < a.length + b.length
    · rw [if_pos h2, List.append_assoc, List.getElem?_append_right (by omega), List.getElem?_append_left (by omega)]
    · rw [if_neg h2, List.getElem?_append_right (by simp; omega)]
      congr 1
      simp; omega

theorem map_arr (f : Operand → Value) (xs : Array Operand) : xs.map f = (xs.toList.map f).toArray := by rw [← List.map_toArray, Array.toArray_toList]

/-- what is entered, and with which arguments -/
def EntersR (P : Program) (fr : Fr) (i : I) (R : FuncId → List A → Prop) : Prop :=
  match i with
  | .call f args => R f (args.map (Arg.ev fr))
  | .callv f args => match f.ev fr with
    | .d (.fn g) => callOk P g = true ∧ R g (args.map (Arg.ev fr))
    | .fn (.func g) first cap => callOk P g = true ∧ R g (first ++ args.map (Arg.ev fr) ++ cap)
    | _ => False
  | _ => False

theorem enters_sound {P : Program} {κ : K} {nt : Nat} {fr : Fr} {H : Hp} {a : Act} {w : World} {tok : List Nat} {o : Oper} {i : I} {R : FuncId → List A → Prop}
    (hc : compI P tok o = some i) (hs : SR κ nt fr H a w) (h : EntersR P fr i R) :
    ∃ (f : FuncId) (vs : List Value) (as : List A), (execOp a.eval o).run P w = .ok (.enter f vs.toArray) w ∧ vs.length = as.length ∧ (∀ (i : Nat) (v : Value) (b : A), vs[i]? = some v → as[i]? = some b → VR κ v b) ∧ R f as := by
  cases i with
  | call f l =>
    obtain ⟨xs, ts, hop, hok, hargs⟩ := compI_call hc
    obtain ⟨dst, op, ty, pos, aft, g⟩ := o
    simp only at hop
    subst hop
    obtain ⟨h1, h2⟩ := cArgs_sound hargs hs
    refine ⟨f, (xs.map a.eval).toList, _, ?_, by rw [h1]; simp, h2, h⟩
    simp only [execOp, resolve, Act.eval, Deferred.ofValue, Sem.run_bind, Sem.run_pure, Result.andThen_ok, invoke]
    rw [callFunc_ok hok]
    simp [map_arr]
  | callv f l =>
    obtain ⟨x, xs, ts, hop, hx, hargs⟩ := compI_callv hc
    obtain ⟨dst, op, ty, pos, aft, g⟩ := o
    simp only at hop
    subst hop
    obtain ⟨h1, h2⟩ := cArgs_sound hargs hs
    have hv := cArg_sound hx hs
    simp only [EntersR] at h
    split at h
    · rename_i g e
      rw [e] at hv
      refine ⟨g, (xs.map a.eval).toList, _, ?_, by rw [h1]; simp, h2, h.2⟩
      simp only [execOp, resolve, hv.fn_inv, Deferred.ofValue, Sem.run_bind, Sem.run_pure, Result.andThen_ok, invoke]
      rw [callFunc_ok h.1]
      simp [map_arr]
    · rename_i g first cap e
      rw [e] at hv
      generalize hev : a.eval x = v at hv
      cases hv with
      | fn _ vs1 vs2 _ _ hl1 hl2 p1 p2 =>
        refine ⟨g, vs1 ++ (xs.map a.eval).toList ++ vs2, _, ?_, by simp only [List.length_append, hl1, hl2, h1, List.length_map], fun i u b hu hb => ?_, h.2⟩
        · simp only [execOp, resolve, hev, Deferred.ofValue, Sem.run_bind, Sem.run_pure, Result.andThen_ok, invoke]
          rw [callFunc_ok h.1]
          simp
        · rw [get_append3] at hu hb
          rw [List.length_map, ← h1, ← hl1] at hb
          split at hu
          · rename_i hi; rw [if_pos hi] at hb; exact p1 i u b hu hb
          · rename_i hi
            rw [if_neg hi] at hb
            split at hu
            · rename_i hi2; rw [if_pos hi2] at hb; exact h2 _ u b hu hb
            · rename_i hi2; rw [if_neg hi2] at hb; exact p2 _ u b hu hb
    · exact h.elim
  | _ => exact h.elim

/-- an operation in the model, out of what the abstract one says -/
theorem op_sound {P : Program} {κ0 κ : K} {nt : Nat} {fr : Fr} {H : Hp} {a : Act} {w : World} {tok : List Nat} {o : Oper} {i : I} {K : A → Hp → Prop} {next : Act → World → Prop} {Q : Exit → Act → World → Prop}
    (hc : compI P tok o = some i) (hd : ∀ x, o.dst = some x → x < nt) (h0 : κ0.le κ) (hs : SR κ nt fr H a w) (h : runI P fr H i K)
    (hn : ∀ κ' v H' u w', κ0.le κ' → SR κ' nt (fr.put o.dst v) H' (a.put o.dst u) w' → K v H' → next (a.put o.dst u) w') : o.wp P a w next Q := by
  unfold Oper.wp
  have call : EntersR P fr i (fun f as => ACall P f as H K) → o.upon P a next Q ((execOp a.eval o).run P w) := by
    intro he
    obtain ⟨f, vs, as, hrun, hl, hv, hcall⟩ := enters_sound hc hs he
    rw [hrun, Oper.upon_enter]
    refine (hcall κ w vs hs.hr hl hv).mono ?_
    rintro e w' ⟨v, κ', x, H', rfl, h1, h2, h3, h4⟩
    exact hn κ' x H' v w' (h0.trans h1) (hs.put h1 h2 hd h3) h4
  rcases stepI_runI h with ⟨f, l, rfl⟩ | ⟨f, l, rfl⟩ | ⟨v, H', hst, hk⟩
  · exact call h
  · exact call h
  · obtain ⟨u, w', κ', hr, h1, h2, h3⟩ := step_sound hc hs hst
    rcases hr with hr | ⟨hr, rfl⟩
    · rw [hr, Oper.upon_value]; exact hn κ' v H' u w' (h0.trans h1) (hs.put h1 h2 hd h3) hk
    · rw [hr, Oper.upon_skip]; exact hn κ' v H' undef w' (h0.trans h1) (hs.put h1 h2 hd h3) hk

theorem compO_spec {P : Program} {nt : Nat} {tok : List Nat} {ops : Array Oper} {o : Oper} : compO P nt tok ops o = badOp ∨
    ∃ g i, guardOf ops o.guard = some g ∧ compI P tok o = some i ∧ (∀ x, o.dst = some x → x < nt) ∧ compO P nt tok ops o = { dst := o.dst, g := g, i := i } := by
  unfold compO
  split
  · rename_i g i hg hi
    split
    · rename_i hd
      exact .inr ⟨g, i, hg, hi, fun x hx => by rw [hx] at hd; simpa using hd, rfl⟩
    · exact .inl rfl
  · exact .inl rfl

def tmpIs (t : Array Value) (s : Nat) (b : Bool) : Bool := match t[s]? with | some (.bool c) => c == b | _ => false

theorem wanted_some {ops : Array Oper} {o : Oper} {s : Nat} {b : Bool} (hg : guardOf ops o.guard = some (some (s, b))) (tmps : Array Value) :
    Region.wanted o (yielded ops tmps) = tmpIs tmps s b := by
  unfold tmpIs
  unfold guardOf at hg
  split at hg
  · cases hg
  · rename_i j want e
    simp only [Option.map_eq_some_iff, Option.some.injEq, Prod.mk.injEq] at hg
    obtain ⟨s', hs', rfl, rfl⟩ := hg
    simp only [Region.wanted, e, yielded, hs', Option.bind_some]
    cases ht : tmps[s']? with
    | none => rfl
    | some v => cases v <;> rfl

theorem wanted_none {ops : Array Oper} {o : Oper} (hg : guardOf ops o.guard = some none) (y : Nat → Option Bool) : Region.wanted o y = true := by
  unfold guardOf at hg
  split at hg
  · rename_i e; simp [Region.wanted, e]
  · simp only [Option.map_eq_some_iff] at hg
    obtain ⟨_, _, h⟩ := hg
    cases h

/-- a guard, as the model has it -/
theorem guard_sound {κ : K} {nt : Nat} {fr : Fr} {H : Hp} {a : Act} {w : World} (hs : SR κ nt fr H a w) {s : Nat} {b : Bool} {T F : Fr → Prop} (h : AGd (fr s) fr b T F) :
    (tmpIs a.tmps s b = true ∧ T fr) ∨ (tmpIs a.tmps s b = false ∧ F fr) := by
  unfold tmpIs
  have hv := hs.vr s
  unfold AGd at h
  split at h
  · rename_i c e
    rw [e] at hv
    have hget : a.tmps[s]? = some (.bool c) := by
      have := hv.bool_inv
      rw [Array.getD_eq_getD_getElem?] at this
      cases ht : a.tmps[s]? with
      | none => rw [ht] at this; cases this
      | some v => rw [ht] at this; simpa using this
    rw [hget]
    split at h
    · rename_i hcb; exact .inl ⟨by simpa using hcb, h⟩
    · rename_i hcb; exact .inr ⟨by simpa using hcb, h⟩
  · rename_i e
    rw [e] at hv
    refine .inr ⟨?_, h⟩
    generalize hx : a.tmps.getD s undef = v at hv
    cases hv with
    | tup vs _ hl _ =>
      have : vs = [] := List.eq_nil_of_length_eq_zero (by simpa using hl)
      subst this
      rw [Array.getD_eq_getD_getElem?] at hx
      cases ht : a.tmps[s]? with
      | none => rfl
      | some u => rw [ht] at hx; simp at hx; subst hx; rfl
  · exact h.elim

theorem ops_sound {P : Program} {κ0 : K} {nt : Nat} {tok : List Nat} {ops : Array Oper} {K : Fr → Hp → Prop} {Q : Exit → Act → World → Prop} (hK : ∀ κ fr H a w, κ0.le κ → SR κ nt fr H a w → K fr H → Q .normal a w) :
    ∀ (l : List Oper) (κ : Zam.K) (fr : Fr) (H : Hp) (a : Act) (w : World), κ0.le κ → SR κ nt fr H a w → AOps P (l.map (compO P nt tok ops)) K fr H → wpList P ops Q l a w := by
  intro l
  induction l with
  | nil => intro κ fr H a w h0 hs h; exact hK κ fr H a w h0 hs h
  | cons o l ih =>
    intro κ fr H a w h0 hs h
    simp only [List.map_cons, AOps] at h
    rcases compO_spec (P := P) (nt := nt) (tok := tok) (ops := ops) (o := o) with hb | ⟨g, i, hg, hi, hd, hcomp⟩
    · rw [hb] at h; simp [badOp, runI, Arg.ev] at h
    · rw [hcomp] at h
      simp only at h
      have step : ∀ fr, SR κ nt fr H a w → runI P fr H i (fun v H' => AOps P (l.map (compO P nt tok ops)) K (fr.put o.dst v) H') → o.wp P a w (wpList P ops Q l) Q := fun fr hs h =>
        op_sound hi hd h0 hs h (fun κ' v H' u w' h0' hs' hk => ih κ' _ _ _ _ h0' hs' hk)
      cases g with
      | none =>
        simp only at h
        unfold wpList
        rw [if_pos (wanted_none hg _)]
        exact .inl (step fr hs h)
      | some sb =>
        obtain ⟨s, b⟩ := sb
        simp only at h
        unfold wpList
        rw [wanted_some hg]
        rcases guard_sound hs h with ⟨h1, h2⟩ | ⟨h1, h2⟩
        · rw [h1]; simp only [if_true]; exact .inl (step fr hs h2)
        · rw [h1]
          simp only [Bool.false_eq_true, if_false]
          exact ih κ _ _ _ _ h0 (hs.put (Zam.K.le_refl κ) hs.hr hd (.tup [] [] rfl (by simp))) h2

end Go.Zam
