/-
  An abstract machine over the model, sixteenth part: rules for running its code by rewriting. No program in sight. No condition.
  What follows a step stands behind a tag, so that the rewriting leaves it alone till the step is done.
-/
import Derived.Test.YtjpdjaglggcbkaaZam15
namespace Go.Zam

universe u
inductive Tag {α : Sort u} (x : α) : Type where
  | mk

/-- what follows a step that yields something -/
def OptK (K : A → Hp → Prop) (_ : Tag K) (o : Option (A × Hp)) : Prop :=
  match o with
  | some (v, H) => K v H
  | none => False
def GdK (T F : Fr → Prop) (_ : Tag T) (_ : Tag F) (fr : Fr) (b : Bool) (_ : Nat) (x : A) : Prop := AGd x fr b T F
def BrK (T F : Prop) (_ : Tag T) (_ : Tag F) (x : A) : Prop := ABr x T F
def CallK (Q : A → Hp → Prop) (_ : Tag Q) (P : Program) (f : FuncId) (l : List A) (H : Hp) : Prop := ACall P f l H Q
def CallD (Q : A → Hp → Prop) (_ : Tag Q) (P : Program) (f : FuncId) (l : List A) (H : Hp) : Prop := ∃ v, ACall P f l H (fun v' H' => v' = v ∧ H' = H) ∧ Q v H
def ValK (Q : A → Hp → Prop) (_ : Tag Q) (P : Program) (l : List A) (H : Hp) (f : A) : Prop :=
  match f with
  | .d (.fn g) => callOk P g = true ∧ ACall P g l H Q
  | .fn (.func g) first cap => callOk P g = true ∧ ACall P g (first ++ l ++ cap) H Q
  | _ => False
def ValD (Q : A → Hp → Prop) (_ : Tag Q) (P : Program) (l : List A) (H : Hp) (f : A) : Prop :=
  match f with
  | .d (.fn g) => callOk P g = true ∧ ∃ v, ACall P g l H (fun v' H' => v' = v ∧ H' = H) ∧ Q v H
  | .fn (.func g) first cap => callOk P g = true ∧ ∃ v, ACall P g (first ++ l ++ cap) H (fun v' H' => v' = v ∧ H' = H) ∧ Q v H
  | _ => False
def LoopK (Q : Ex → Fr → Hp → Prop) (c : C) (_ : Tag (Q, c)) (P : Program) (n0 : Nat) (fr : Fr) (H : Hp) : Prop := AWp P n0 (.loop c) Q fr H
def AgainK (J : Fr → Hp → Prop) (μ : Fr → Hp → Nat) (_ : Tag (J, μ)) (m n : Nat) (fr : Fr) (H : Hp) : Prop := Again m J μ n fr H
def RetK (K : A → Hp → Prop) (_ : Tag K) (n0 : Nat) (o : Option A) (H : Hp) : Prop :=
  match o with
  | some x => n0 ≤ H.length ∧ K (x.clr n0) (Hp.cut n0 H)
  | none => False

@[congr] theorem OptK_congr {o o' : Option (A × Hp)} {K : A → Hp → Prop} {t : Tag K} (h : o = o') : OptK K t o = OptK K t o' := by rw [h]
@[congr] theorem GdK_congr {T F : Fr → Prop} {t : Tag T} {u : Tag F} {fr fr' : Fr} {b : Bool} {s : Nat} {x x' : A} (h : x = x') (h2 : fr = fr') : GdK T F t u fr b s x = GdK T F t u fr' b s x' := by rw [h, h2]
@[congr] theorem BrK_congr {T F : Prop} {t : Tag T} {u : Tag F} {x x' : A} (h : x = x') : BrK T F t u x = BrK T F t u x' := by rw [h]
@[congr] theorem CallK_congr {Q : A → Hp → Prop} {t : Tag Q} {P : Program} {f : FuncId} {l l' : List A} {H H' : Hp} (h : l = l') (h2 : H = H') : CallK Q t P f l H = CallK Q t P f l' H' := by rw [h, h2]
@[congr] theorem CallD_congr {Q : A → Hp → Prop} {t : Tag Q} {P : Program} {f : FuncId} {l l' : List A} {H H' : Hp} (h : l = l') (h2 : H = H') : CallD Q t P f l H = CallD Q t P f l' H' := by rw [h, h2]
@[congr] theorem ValK_congr {Q : A → Hp → Prop} {t : Tag Q} {P : Program} {f f' : A} {l l' : List A} {H H' : Hp} (h : l = l') (h2 : H = H') (h3 : f = f') : ValK Q t P l H f = ValK Q t P l' H' f' := by rw [h, h2, h3]
@[congr] theorem ValD_congr {Q : A → Hp → Prop} {t : Tag Q} {P : Program} {f f' : A} {l l' : List A} {H H' : Hp} (h : l = l') (h2 : H = H') (h3 : f = f') : ValD Q t P l H f = ValD Q t P l' H' f' := by rw [h, h2, h3]
@[congr] theorem LoopK_congr {Q : Ex → Fr → Hp → Prop} {c : C} {t : Tag (Q, c)} {P : Program} {n0 : Nat} {fr fr' : Fr} {H H' : Hp} (h : fr = fr') (h2 : H = H') : LoopK Q c t P n0 fr H = LoopK Q c t P n0 fr' H' := by rw [h, h2]
@[congr] theorem AgainK_congr {J : Fr → Hp → Prop} {μ : Fr → Hp → Nat} {t : Tag (J, μ)} {m n : Nat} {fr fr' : Fr} {H H' : Hp} (h : fr = fr') (h2 : H = H') : AgainK J μ t m n fr H = AgainK J μ t m n fr' H' := by rw [h, h2]
@[congr] theorem RetK_congr {K : A → Hp → Prop} {t : Tag K} {n0 : Nat} {o o' : Option A} {H H' : Hp} (h : o = o') (h2 : H = H') : RetK K t n0 o H = RetK K t n0 o' H' := by rw [h, h2]

section
variable {P : Program} {n0 : Nat} {Q : Ex → Fr → Hp → Prop} {fr : Fr} {H : Hp}

@[simp] theorem OptK_some {K : A → Hp → Prop} {t : Tag K} (v : A) (H : Hp) : OptK K t (some (v, H)) = K v H := propext Iff.rfl

@[simp ↓] theorem AWp_skip : AWp P n0 .skip Q fr H = Q .normal fr H := propext Iff.rfl
@[simp ↓] theorem AWp_ops (l : List IOp) : AWp P n0 (.ops l false) Q fr H = AOps P l (Q .normal) fr H := propext Iff.rfl
@[simp ↓] theorem AWp_draw (l : List IOp) : AWp P n0 (.ops l true) Q fr H = ADraw P l (Q .normal) fr H := propext Iff.rfl
@[simp ↓] theorem AWp_seq (a b : C) : AWp P n0 (.seq a b) Q fr H = AWp P n0 a (Ex.then (AWp P n0 b Q) Q) fr H := propext Iff.rfl
@[simp ↓] theorem AWp_cond (c : Arg) (a b : C) : AWp P n0 (.cond c a b) Q fr H = BrK (AWp P n0 a Q fr H) (AWp P n0 b Q fr H) .mk .mk (c.ev fr) := propext Iff.rfl
@[simp ↓] theorem AWp_blk (i : Nat) (c : C) : AWp P n0 (.blk i c) Q fr H = AWp P n0 c (Ex.blk i Q) fr H := propext Iff.rfl
@[simp ↓] theorem AWp_exit (i : Nat) : AWp P n0 (.exit i) Q fr H = Q (.exit i) fr H := propext Iff.rfl
@[simp ↓] theorem AWp_ret : AWp P n0 .ret Q fr H = Q .ret fr H := propext Iff.rfl
@[simp ↓] theorem AWp_loop_eq (c : C) : AWp P n0 (.loop c) Q fr H = LoopK Q c .mk P n0 fr H := propext Iff.rfl

@[simp ↓] theorem then_normal {K : Fr → Hp → Prop} : Ex.then K Q .normal fr H = K fr H := propext Iff.rfl
@[simp ↓] theorem then_exit {K : Fr → Hp → Prop} (i : Nat) : Ex.then K Q (.exit i) fr H = Q (.exit i) fr H := propext Iff.rfl
@[simp ↓] theorem then_ret {K : Fr → Hp → Prop} : Ex.then K Q .ret fr H = Q .ret fr H := propext Iff.rfl
@[simp ↓] theorem blk_normal (i : Nat) : Ex.blk i Q .normal fr H = Q .normal fr H := propext Iff.rfl
@[simp ↓] theorem blk_ret (i : Nat) : Ex.blk i Q .ret fr H = Q .ret fr H := propext Iff.rfl
@[simp ↓] theorem blk_exit (i j : Nat) : Ex.blk i Q (.exit j) fr H = if j = i then Q .normal fr H else Q (.exit j) fr H := propext Iff.rfl

@[simp ↓] theorem Again_eq (m : Nat) (J : Fr → Hp → Prop) (μ : Fr → Hp → Nat) (n : Nat) : Again m J μ n fr H = AgainK J μ .mk m n fr H := propext Iff.rfl

@[simp ↓] theorem AOps_nil {K : Fr → Hp → Prop} : AOps P [] K fr H = K fr H := propext Iff.rfl
@[simp ↓] theorem ADraw_nil {K : Fr → Hp → Prop} : ADraw P [] K fr H = K fr H := propext Iff.rfl
@[simp ↓] theorem AOps_guard {K : Fr → Hp → Prop} (d : Option Nat) (s : Nat) (b : Bool) (i : I) (r : List IOp) : AOps P (⟨d, some (s, b), i⟩ :: r) K fr H =
    GdK (fun fr => AOps P (⟨d, none, i⟩ :: r) K fr H) (fun fr => AOps P r K (fr.put d (.tup [])) H) .mk .mk fr b s (fr s) := propext Iff.rfl
@[simp ↓] theorem ADraw_guard {K : Fr → Hp → Prop} (d : Option Nat) (s : Nat) (b : Bool) (i : I) (r : List IOp) : ADraw P (⟨d, some (s, b), i⟩ :: r) K fr H =
    GdK (fun fr => ADraw P (⟨d, none, i⟩ :: r) K fr H) (fun fr => ADraw P r K (fr.put d (.tup [])) H) .mk .mk fr b s (fr s) := propext Iff.rfl
@[simp ↓] theorem AOps_call {K : Fr → Hp → Prop} (d : Option Nat) (f : FuncId) (l : List Arg) (r : List IOp) : AOps P (⟨d, none, .call f l⟩ :: r) K fr H =
    CallK (fun v H' => AOps P r K (fr.put d v) H') .mk P f (l.map (Arg.ev fr)) H := propext Iff.rfl
@[simp ↓] theorem ADraw_call {K : Fr → Hp → Prop} (d : Option Nat) (f : FuncId) (l : List Arg) (r : List IOp) : ADraw P (⟨d, none, .call f l⟩ :: r) K fr H =
    CallD (fun v H' => ADraw P r K (fr.put d v) H') .mk P f (l.map (Arg.ev fr)) H := propext Iff.rfl
@[simp ↓] theorem AOps_callv {K : Fr → Hp → Prop} (d : Option Nat) (f : Arg) (l : List Arg) (r : List IOp) : AOps P (⟨d, none, .callv f l⟩ :: r) K fr H =
    ValK (fun v H' => AOps P r K (fr.put d v) H') .mk P (l.map (Arg.ev fr)) H (f.ev fr) := by
  simp only [AOps, runI, ValK]; rfl
@[simp ↓] theorem ADraw_callv {K : Fr → Hp → Prop} (d : Option Nat) (f : Arg) (l : List Arg) (r : List IOp) : ADraw P (⟨d, none, .callv f l⟩ :: r) K fr H =
    ValD (fun v H' => ADraw P r K (fr.put d v) H') .mk P (l.map (Arg.ev fr)) H (f.ev fr) := by
  simp only [ADraw, runD, ValD]; rfl
@[simp ↓] theorem AOps_mv {K : Fr → Hp → Prop} (d : Option Nat) (x : Arg) (r : List IOp) : AOps P (⟨d, none, .mv x⟩ :: r) K fr H =
    OptK (fun v H' => AOps P r K (fr.put d v) H') .mk (stepI fr H (.mv x)) := propext Iff.rfl
@[simp ↓] theorem AOps_nilT {K : Fr → Hp → Prop} (d : Option Nat) (n e : Nat) (r : List IOp) : AOps P (⟨d, none, .nilT n e⟩ :: r) K fr H =
    OptK (fun v H' => AOps P r K (fr.put d v) H') .mk (stepI fr H (.nilT n e)) := propext Iff.rfl
@[simp ↓] theorem AOps_pick {K : Fr → Hp → Prop} (d : Option Nat) (a b c : Arg) (r : List IOp) : AOps P (⟨d, none, .pick a b c⟩ :: r) K fr H =
    OptK (fun v H' => AOps P r K (fr.put d v) H') .mk (stepI fr H (.pick a b c)) := propext Iff.rfl
@[simp ↓] theorem AOps_alloc {K : Fr → Hp → Prop} (d : Option Nat) (ty : TypeId) (cs : List D) (r : List IOp) : AOps P (⟨d, none, .alloc ty cs⟩ :: r) K fr H =
    OptK (fun v H' => AOps P r K (fr.put d v) H') .mk (stepI fr H (.alloc ty cs)) := propext Iff.rfl
@[simp ↓] theorem AOps_box {K : Fr → Hp → Prop} (d : Option Nat) (ty n : Nat) (x : Arg) (r : List IOp) : AOps P (⟨d, none, .box ty n x⟩ :: r) K fr H =
    OptK (fun v H' => AOps P r K (fr.put d v) H') .mk (stepI fr H (.box ty n x)) := propext Iff.rfl
@[simp ↓] theorem AOps_allocT {K : Fr → Hp → Prop} (d : Option Nat) (ty : TypeId) (cs : List D) (j sz e : Nat) (r : List IOp) : AOps P (⟨d, none, .allocT ty cs j sz e⟩ :: r) K fr H =
    OptK (fun v H' => AOps P r K (fr.put d v) H') .mk (stepI fr H (.allocT ty cs j sz e)) := propext Iff.rfl
@[simp ↓] theorem AOps_load {K : Fr → Hp → Prop} (d : Option Nat) (n : Nat) (g : Bool) (p : Arg) (r : List IOp) : AOps P (⟨d, none, .load n g p⟩ :: r) K fr H =
    OptK (fun v H' => AOps P r K (fr.put d v) H') .mk (stepI fr H (.load n g p)) := propext Iff.rfl
@[simp ↓] theorem AOps_store {K : Fr → Hp → Prop} (d : Option Nat) (n : Nat) (p v : Arg) (r : List IOp) : AOps P (⟨d, none, .store n p v⟩ :: r) K fr H =
    OptK (fun v H' => AOps P r K (fr.put d v) H') .mk (stepI fr H (.store n p v)) := propext Iff.rfl
@[simp ↓] theorem AOps_nilCheck {K : Fr → Hp → Prop} (d : Option Nat) (x : Arg) (r : List IOp) : AOps P (⟨d, none, .nilCheck x⟩ :: r) K fr H =
    OptK (fun v H' => AOps P r K (fr.put d v) H') .mk (stepI fr H (.nilCheck x)) := propext Iff.rfl
@[simp ↓] theorem AOps_bin {K : Fr → Hp → Prop} (d : Option Nat) (op : BinOp) (x y : Arg) (r : List IOp) : AOps P (⟨d, none, .bin op x y⟩ :: r) K fr H =
    OptK (fun v H' => AOps P r K (fr.put d v) H') .mk (stepI fr H (.bin op x y)) := propext Iff.rfl
@[simp ↓] theorem AOps_beq {K : Fr → Hp → Prop} (d : Option Nat) (b : Bool) (x y : Arg) (r : List IOp) : AOps P (⟨d, none, .beq b x y⟩ :: r) K fr H =
    OptK (fun v H' => AOps P r K (fr.put d v) H') .mk (stepI fr H (.beq b x y)) := propext Iff.rfl
@[simp ↓] theorem AOps_isNilS {K : Fr → Hp → Prop} (d : Option Nat) (b : Bool) (x : Arg) (r : List IOp) : AOps P (⟨d, none, .isNilS b x⟩ :: r) K fr H =
    OptK (fun v H' => AOps P r K (fr.put d v) H') .mk (stepI fr H (.isNilS b x)) := propext Iff.rfl
@[simp ↓] theorem AOps_isNilP {K : Fr → Hp → Prop} (d : Option Nat) (b : Bool) (x : Arg) (r : List IOp) : AOps P (⟨d, none, .isNilP b x⟩ :: r) K fr H =
    OptK (fun v H' => AOps P r K (fr.put d v) H') .mk (stepI fr H (.isNilP b x)) := propext Iff.rfl
@[simp ↓] theorem AOps_un {K : Fr → Hp → Prop} (d : Option Nat) (op : UnOp) (x : Arg) (r : List IOp) : AOps P (⟨d, none, .un op x⟩ :: r) K fr H =
    OptK (fun v H' => AOps P r K (fr.put d v) H') .mk (stepI fr H (.un op x)) := propext Iff.rfl
@[simp ↓] theorem AOps_cvt {K : Fr → Hp → Prop} (d : Option Nat) (k : IntKind) (x : Arg) (r : List IOp) : AOps P (⟨d, none, .cvt k x⟩ :: r) K fr H =
    OptK (fun v H' => AOps P r K (fr.put d v) H') .mk (stepI fr H (.cvt k x)) := propext Iff.rfl
@[simp ↓] theorem AOps_cvtS {K : Fr → Hp → Prop} (d : Option Nat) (x : Arg) (r : List IOp) : AOps P (⟨d, none, .cvtS x⟩ :: r) K fr H =
    OptK (fun v H' => AOps P r K (fr.put d v) H') .mk (stepI fr H (.cvtS x)) := propext Iff.rfl
@[simp ↓] theorem AOps_faddr {K : Fr → Hp → Prop} (d : Option Nat) (n : Nat) (x : Arg) (r : List IOp) : AOps P (⟨d, none, .faddr n x⟩ :: r) K fr H =
    OptK (fun v H' => AOps P r K (fr.put d v) H') .mk (stepI fr H (.faddr n x)) := propext Iff.rfl
@[simp ↓] theorem AOps_fld {K : Fr → Hp → Prop} (d : Option Nat) (o n : Nat) (g : Bool) (x : Arg) (r : List IOp) : AOps P (⟨d, none, .fld o n g x⟩ :: r) K fr H =
    OptK (fun v H' => AOps P r K (fr.put d v) H') .mk (stepI fr H (.fld o n g x)) := propext Iff.rfl
@[simp ↓] theorem AOps_iaddr {K : Fr → Hp → Prop} (d : Option Nat) (n : Nat) (x y : Arg) (r : List IOp) : AOps P (⟨d, none, .iaddr n x y⟩ :: r) K fr H =
    OptK (fun v H' => AOps P r K (fr.put d v) H') .mk (stepI fr H (.iaddr n x y)) := propext Iff.rfl
@[simp ↓] theorem AOps_sidx {K : Fr → Hp → Prop} (d : Option Nat) (x y : Arg) (r : List IOp) : AOps P (⟨d, none, .sidx x y⟩ :: r) K fr H =
    OptK (fun v H' => AOps P r K (fr.put d v) H') .mk (stepI fr H (.sidx x y)) := propext Iff.rfl
@[simp ↓] theorem AOps_sslice {K : Fr → Hp → Prop} (d : Option Nat) (x : Arg) (l h : Option Arg) (r : List IOp) : AOps P (⟨d, none, .sslice x l h⟩ :: r) K fr H =
    OptK (fun v H' => AOps P r K (fr.put d v) H') .mk (stepI fr H (.sslice x l h)) := propext Iff.rfl
@[simp ↓] theorem AOps_slice {K : Fr → Hp → Prop} (d : Option Nat) (n : Nat) (x : Arg) (l h m : Option Arg) (r : List IOp) : AOps P (⟨d, none, .slice n x l h m⟩ :: r) K fr H =
    OptK (fun v H' => AOps P r K (fr.put d v) H') .mk (stepI fr H (.slice n x l h m)) := propext Iff.rfl
@[simp ↓] theorem AOps_build {K : Fr → Hp → Prop} (d : Option Nat) (z : List D) (ps : List (Nat × Nat × Arg)) (r : List IOp) : AOps P (⟨d, none, .build z ps⟩ :: r) K fr H =
    OptK (fun v H' => AOps P r K (fr.put d v) H') .mk (stepI fr H (.build z ps)) := propext Iff.rfl
@[simp ↓] theorem AOps_bslice {K : Fr → Hp → Prop} (d : Option Nat) (n : Nat) (ps : List Arg) (r : List IOp) : AOps P (⟨d, none, .bslice n ps⟩ :: r) K fr H =
    OptK (fun v H' => AOps P r K (fr.put d v) H') .mk (stepI fr H (.bslice n ps)) := propext Iff.rfl
@[simp ↓] theorem AOps_bsliceT {K : Fr → Hp → Prop} (d : Option Nat) (n e : Nat) (ps : List Arg) (r : List IOp) : AOps P (⟨d, none, .bsliceT n e ps⟩ :: r) K fr H =
    OptK (fun v H' => AOps P r K (fr.put d v) H') .mk (stepI fr H (.bsliceT n e ps)) := propext Iff.rfl
@[simp ↓] theorem AOps_bsliceM {K : Fr → Hp → Prop} (d : Option Nat) (n : Nat) (ps : List Arg) (r : List IOp) : AOps P (⟨d, none, .bsliceM n ps⟩ :: r) K fr H =
    OptK (fun v H' => AOps P r K (fr.put d v) H') .mk (stepI fr H (.bsliceM n ps)) := propext Iff.rfl
@[simp ↓] theorem AOps_mkSl {K : Fr → Hp → Prop} (d : Option Nat) (n m : Nat) (z : List D) (x y : Arg) (r : List IOp) : AOps P (⟨d, none, .mkSl n m z x y⟩ :: r) K fr H =
    OptK (fun v H' => AOps P r K (fr.put d v) H') .mk (stepI fr H (.mkSl n m z x y)) := propext Iff.rfl
@[simp ↓] theorem AOps_eqA {K : Fr → Hp → Prop} (d : Option Nat) (b : Bool) (l : List D) (x y : Arg) (r : List IOp) : AOps P (⟨d, none, .eqA b l x y⟩ :: r) K fr H =
    OptK (fun v H' => AOps P r K (fr.put d v) H') .mk (stepI fr H (.eqA b l x y)) := propext Iff.rfl
@[simp ↓] theorem AOps_appV {K : Fr → Hp → Prop} (d : Option Nat) (n m e : Nat) (x y : Arg) (r : List IOp) : AOps P (⟨d, none, .appV n m e x y⟩ :: r) K fr H =
    OptK (fun v H' => AOps P r K (fr.put d v) H') .mk (stepI fr H (.appV n m e x y)) := propext Iff.rfl
@[simp ↓] theorem AOps_cutV {K : Fr → Hp → Prop} (d : Option Nat) (n : Nat) (x y : Arg) (r : List IOp) : AOps P (⟨d, none, .cutV n x y⟩ :: r) K fr H =
    OptK (fun v H' => AOps P r K (fr.put d v) H') .mk (stepI fr H (.cutV n x y)) := propext Iff.rfl
@[simp ↓] theorem AOps_mkMap {K : Fr → Hp → Prop} (d : Option Nat)  (r : List IOp) : AOps P (⟨d, none, .mkMap ⟩ :: r) K fr H =
    OptK (fun v H' => AOps P r K (fr.put d v) H') .mk (stepI fr H (.mkMap )) := propext Iff.rfl
@[simp ↓] theorem AOps_lkp {K : Fr → Hp → Prop} (d : Option Nat) (b : Bool) (k0 : D) (g : Bool) (z : List D) (x y : Arg) (r : List IOp) : AOps P (⟨d, none, .lkp b k0 g z x y⟩ :: r) K fr H =
    OptK (fun v H' => AOps P r K (fr.put d v) H') .mk (stepI fr H (.lkp b k0 g z x y)) := propext Iff.rfl
@[simp ↓] theorem AOps_mpUpd {K : Fr → Hp → Prop} (d : Option Nat) (k0 : D) (x y v0 : Arg) (r : List IOp) : AOps P (⟨d, none, .mpUpd k0 x y v0⟩ :: r) K fr H =
    OptK (fun v H' => AOps P r K (fr.put d v) H') .mk (stepI fr H (.mpUpd k0 x y v0)) := propext Iff.rfl
@[simp ↓] theorem AOps_iaddrV {K : Fr → Hp → Prop} (d : Option Nat) (n : Nat) (x y : Arg) (r : List IOp) : AOps P (⟨d, none, .iaddrV n x y⟩ :: r) K fr H =
    OptK (fun v H' => AOps P r K (fr.put d v) H') .mk (stepI fr H (.iaddrV n x y)) := propext Iff.rfl
@[simp ↓] theorem AOps_loadV {K : Fr → Hp → Prop} (d : Option Nat) (n : Nat) (g : Bool) (x : Arg) (r : List IOp) : AOps P (⟨d, none, .loadV n g x⟩ :: r) K fr H =
    OptK (fun v H' => AOps P r K (fr.put d v) H') .mk (stepI fr H (.loadV n g x)) := propext Iff.rfl
@[simp ↓] theorem AOps_ext {K : Fr → Hp → Prop} (d : Option Nat) (x : Arg) (n : Nat) (r : List IOp) : AOps P (⟨d, none, .ext x n⟩ :: r) K fr H =
    OptK (fun v H' => AOps P r K (fr.put d v) H') .mk (stepI fr H (.ext x n)) := propext Iff.rfl
@[simp ↓] theorem AOps_lenS {K : Fr → Hp → Prop} (d : Option Nat) (x : Arg) (r : List IOp) : AOps P (⟨d, none, .lenS x⟩ :: r) K fr H =
    OptK (fun v H' => AOps P r K (fr.put d v) H') .mk (stepI fr H (.lenS x)) := propext Iff.rfl
@[simp ↓] theorem AOps_lenL {K : Fr → Hp → Prop} (d : Option Nat) (x : Arg) (r : List IOp) : AOps P (⟨d, none, .lenL x⟩ :: r) K fr H =
    OptK (fun v H' => AOps P r K (fr.put d v) H') .mk (stepI fr H (.lenL x)) := propext Iff.rfl
@[simp ↓] theorem AOps_mm {K : Fr → Hp → Prop} (d : Option Nat) (b : Bool) (x y : Arg) (r : List IOp) : AOps P (⟨d, none, .mm b x y⟩ :: r) K fr H =
    OptK (fun v H' => AOps P r K (fr.put d v) H') .mk (stepI fr H (.mm b x y)) := propext Iff.rfl
@[simp ↓] theorem AOps_app {K : Fr → Hp → Prop} (d : Option Nat) (n m e : Nat) (x y : Arg) (r : List IOp) : AOps P (⟨d, none, .app n m e x y⟩ :: r) K fr H =
    OptK (fun v H' => AOps P r K (fr.put d v) H') .mk (stepI fr H (.app n m e x y)) := propext Iff.rfl
@[simp ↓] theorem AOps_appS {K : Fr → Hp → Prop} (d : Option Nat) (e : Nat) (x y : Arg) (r : List IOp) : AOps P (⟨d, none, .appS e x y⟩ :: r) K fr H =
    OptK (fun v H' => AOps P r K (fr.put d v) H') .mk (stepI fr H (.appS e x y)) := propext Iff.rfl
@[simp ↓] theorem AOps_mkfn {K : Fr → Hp → Prop} (d : Option Nat) (f : Fn) (a b : List Arg) (r : List IOp) : AOps P (⟨d, none, .mkfn f a b⟩ :: r) K fr H =
    OptK (fun v H' => AOps P r K (fr.put d v) H') .mk (stepI fr H (.mkfn f a b)) := propext Iff.rfl
@[simp ↓] theorem ADraw_mv {K : Fr → Hp → Prop} (d : Option Nat) (x : Arg) (r : List IOp) : ADraw P (⟨d, none, .mv x⟩ :: r) K fr H =
    OptK (fun v H' => ADraw P r K (fr.put d v) H') .mk (stepI fr H (.mv x)) := propext Iff.rfl
@[simp ↓] theorem ADraw_nilT {K : Fr → Hp → Prop} (d : Option Nat) (n e : Nat) (r : List IOp) : ADraw P (⟨d, none, .nilT n e⟩ :: r) K fr H =
    OptK (fun v H' => ADraw P r K (fr.put d v) H') .mk (stepI fr H (.nilT n e)) := propext Iff.rfl
@[simp ↓] theorem ADraw_pick {K : Fr → Hp → Prop} (d : Option Nat) (a b c : Arg) (r : List IOp) : ADraw P (⟨d, none, .pick a b c⟩ :: r) K fr H =
    OptK (fun v H' => ADraw P r K (fr.put d v) H') .mk (stepI fr H (.pick a b c)) := propext Iff.rfl
@[simp ↓] theorem ADraw_alloc {K : Fr → Hp → Prop} (d : Option Nat) (ty : TypeId) (cs : List D) (r : List IOp) : ADraw P (⟨d, none, .alloc ty cs⟩ :: r) K fr H =
    OptK (fun v H' => ADraw P r K (fr.put d v) H') .mk (stepI fr H (.alloc ty cs)) := propext Iff.rfl
@[simp ↓] theorem ADraw_box {K : Fr → Hp → Prop} (d : Option Nat) (ty n : Nat) (x : Arg) (r : List IOp) : ADraw P (⟨d, none, .box ty n x⟩ :: r) K fr H =
    OptK (fun v H' => ADraw P r K (fr.put d v) H') .mk (stepI fr H (.box ty n x)) := propext Iff.rfl
@[simp ↓] theorem ADraw_allocT {K : Fr → Hp → Prop} (d : Option Nat) (ty : TypeId) (cs : List D) (j sz e : Nat) (r : List IOp) : ADraw P (⟨d, none, .allocT ty cs j sz e⟩ :: r) K fr H =
    OptK (fun v H' => ADraw P r K (fr.put d v) H') .mk (stepI fr H (.allocT ty cs j sz e)) := propext Iff.rfl
@[simp ↓] theorem ADraw_load {K : Fr → Hp → Prop} (d : Option Nat) (n : Nat) (g : Bool) (p : Arg) (r : List IOp) : ADraw P (⟨d, none, .load n g p⟩ :: r) K fr H =
    OptK (fun v H' => ADraw P r K (fr.put d v) H') .mk (stepI fr H (.load n g p)) := propext Iff.rfl
@[simp ↓] theorem ADraw_store {K : Fr → Hp → Prop} (d : Option Nat) (n : Nat) (p v : Arg) (r : List IOp) : ADraw P (⟨d, none, .store n p v⟩ :: r) K fr H =
    OptK (fun v H' => ADraw P r K (fr.put d v) H') .mk (stepI fr H (.store n p v)) := propext Iff.rfl
@[simp ↓] theorem ADraw_nilCheck {K : Fr → Hp → Prop} (d : Option Nat) (x : Arg) (r : List IOp) : ADraw P (⟨d, none, .nilCheck x⟩ :: r) K fr H =
    OptK (fun v H' => ADraw P r K (fr.put d v) H') .mk (stepI fr H (.nilCheck x)) := propext Iff.rfl
@[simp ↓] theorem ADraw_bin {K : Fr → Hp → Prop} (d : Option Nat) (op : BinOp) (x y : Arg) (r : List IOp) : ADraw P (⟨d, none, .bin op x y⟩ :: r) K fr H =
    OptK (fun v H' => ADraw P r K (fr.put d v) H') .mk (stepI fr H (.bin op x y)) := propext Iff.rfl
@[simp ↓] theorem ADraw_beq {K : Fr → Hp → Prop} (d : Option Nat) (b : Bool) (x y : Arg) (r : List IOp) : ADraw P (⟨d, none, .beq b x y⟩ :: r) K fr H =
    OptK (fun v H' => ADraw P r K (fr.put d v) H') .mk (stepI fr H (.beq b x y)) := propext Iff.rfl
@[simp ↓] theorem ADraw_isNilS {K : Fr → Hp → Prop} (d : Option Nat) (b : Bool) (x : Arg) (r : List IOp) : ADraw P (⟨d, none, .isNilS b x⟩ :: r) K fr H =
    OptK (fun v H' => ADraw P r K (fr.put d v) H') .mk (stepI fr H (.isNilS b x)) := propext Iff.rfl
@[simp ↓] theorem ADraw_isNilP {K : Fr → Hp → Prop} (d : Option Nat) (b : Bool) (x : Arg) (r : List IOp) : ADraw P (⟨d, none, .isNilP b x⟩ :: r) K fr H =
    OptK (fun v H' => ADraw P r K (fr.put d v) H') .mk (stepI fr H (.isNilP b x)) := propext Iff.rfl
@[simp ↓] theorem ADraw_un {K : Fr → Hp → Prop} (d : Option Nat) (op : UnOp) (x : Arg) (r : List IOp) : ADraw P (⟨d, none, .un op x⟩ :: r) K fr H =
    OptK (fun v H' => ADraw P r K (fr.put d v) H') .mk (stepI fr H (.un op x)) := propext Iff.rfl
@[simp ↓] theorem ADraw_cvt {K : Fr → Hp → Prop} (d : Option Nat) (k : IntKind) (x : Arg) (r : List IOp) : ADraw P (⟨d, none, .cvt k x⟩ :: r) K fr H =
    OptK (fun v H' => ADraw P r K (fr.put d v) H') .mk (stepI fr H (.cvt k x)) := propext Iff.rfl
@[simp ↓] theorem ADraw_cvtS {K : Fr → Hp → Prop} (d : Option Nat) (x : Arg) (r : List IOp) : ADraw P (⟨d, none, .cvtS x⟩ :: r) K fr H =
    OptK (fun v H' => ADraw P r K (fr.put d v) H') .mk (stepI fr H (.cvtS x)) := propext Iff.rfl
@[simp ↓] theorem ADraw_faddr {K : Fr → Hp → Prop} (d : Option Nat) (n : Nat) (x : Arg) (r : List IOp) : ADraw P (⟨d, none, .faddr n x⟩ :: r) K fr H =
    OptK (fun v H' => ADraw P r K (fr.put d v) H') .mk (stepI fr H (.faddr n x)) := propext Iff.rfl
@[simp ↓] theorem ADraw_fld {K : Fr → Hp → Prop} (d : Option Nat) (o n : Nat) (g : Bool) (x : Arg) (r : List IOp) : ADraw P (⟨d, none, .fld o n g x⟩ :: r) K fr H =
    OptK (fun v H' => ADraw P r K (fr.put d v) H') .mk (stepI fr H (.fld o n g x)) := propext Iff.rfl
@[simp ↓] theorem ADraw_iaddr {K : Fr → Hp → Prop} (d : Option Nat) (n : Nat) (x y : Arg) (r : List IOp) : ADraw P (⟨d, none, .iaddr n x y⟩ :: r) K fr H =
    OptK (fun v H' => ADraw P r K (fr.put d v) H') .mk (stepI fr H (.iaddr n x y)) := propext Iff.rfl
@[simp ↓] theorem ADraw_sidx {K : Fr → Hp → Prop} (d : Option Nat) (x y : Arg) (r : List IOp) : ADraw P (⟨d, none, .sidx x y⟩ :: r) K fr H =
    OptK (fun v H' => ADraw P r K (fr.put d v) H') .mk (stepI fr H (.sidx x y)) := propext Iff.rfl
@[simp ↓] theorem ADraw_sslice {K : Fr → Hp → Prop} (d : Option Nat) (x : Arg) (l h : Option Arg) (r : List IOp) : ADraw P (⟨d, none, .sslice x l h⟩ :: r) K fr H =
    OptK (fun v H' => ADraw P r K (fr.put d v) H') .mk (stepI fr H (.sslice x l h)) := propext Iff.rfl
@[simp ↓] theorem ADraw_slice {K : Fr → Hp → Prop} (d : Option Nat) (n : Nat) (x : Arg) (l h m : Option Arg) (r : List IOp) : ADraw P (⟨d, none, .slice n x l h m⟩ :: r) K fr H =
    OptK (fun v H' => ADraw P r K (fr.put d v) H') .mk (stepI fr H (.slice n x l h m)) := propext Iff.rfl
@[simp ↓] theorem ADraw_build {K : Fr → Hp → Prop} (d : Option Nat) (z : List D) (ps : List (Nat × Nat × Arg)) (r : List IOp) : ADraw P (⟨d, none, .build z ps⟩ :: r) K fr H =
    OptK (fun v H' => ADraw P r K (fr.put d v) H') .mk (stepI fr H (.build z ps)) := propext Iff.rfl
@[simp ↓] theorem ADraw_bslice {K : Fr → Hp → Prop} (d : Option Nat) (n : Nat) (ps : List Arg) (r : List IOp) : ADraw P (⟨d, none, .bslice n ps⟩ :: r) K fr H =
    OptK (fun v H' => ADraw P r K (fr.put d v) H') .mk (stepI fr H (.bslice n ps)) := propext Iff.rfl
@[simp ↓] theorem ADraw_bsliceT {K : Fr → Hp → Prop} (d : Option Nat) (n e : Nat) (ps : List Arg) (r : List IOp) : ADraw P (⟨d, none, .bsliceT n e ps⟩ :: r) K fr H =
    OptK (fun v H' => ADraw P r K (fr.put d v) H') .mk (stepI fr H (.bsliceT n e ps)) := propext Iff.rfl
@[simp ↓] theorem ADraw_bsliceM {K : Fr → Hp → Prop} (d : Option Nat) (n : Nat) (ps : List Arg) (r : List IOp) : ADraw P (⟨d, none, .bsliceM n ps⟩ :: r) K fr H =
    OptK (fun v H' => ADraw P r K (fr.put d v) H') .mk (stepI fr H (.bsliceM n ps)) := propext Iff.rfl
@[simp ↓] theorem ADraw_mkSl {K : Fr → Hp → Prop} (d : Option Nat) (n m : Nat) (z : List D) (x y : Arg) (r : List IOp) : ADraw P (⟨d, none, .mkSl n m z x y⟩ :: r) K fr H =
    OptK (fun v H' => ADraw P r K (fr.put d v) H') .mk (stepI fr H (.mkSl n m z x y)) := propext Iff.rfl
@[simp ↓] theorem ADraw_eqA {K : Fr → Hp → Prop} (d : Option Nat) (b : Bool) (l : List D) (x y : Arg) (r : List IOp) : ADraw P (⟨d, none, .eqA b l x y⟩ :: r) K fr H =
    OptK (fun v H' => ADraw P r K (fr.put d v) H') .mk (stepI fr H (.eqA b l x y)) := propext Iff.rfl
@[simp ↓] theorem ADraw_appV {K : Fr → Hp → Prop} (d : Option Nat) (n m e : Nat) (x y : Arg) (r : List IOp) : ADraw P (⟨d, none, .appV n m e x y⟩ :: r) K fr H =
    OptK (fun v H' => ADraw P r K (fr.put d v) H') .mk (stepI fr H (.appV n m e x y)) := propext Iff.rfl
@[simp ↓] theorem ADraw_cutV {K : Fr → Hp → Prop} (d : Option Nat) (n : Nat) (x y : Arg) (r : List IOp) : ADraw P (⟨d, none, .cutV n x y⟩ :: r) K fr H =
    OptK (fun v H' => ADraw P r K (fr.put d v) H') .mk (stepI fr H (.cutV n x y)) := propext Iff.rfl
@[simp ↓] theorem ADraw_mkMap {K : Fr → Hp → Prop} (d : Option Nat)  (r : List IOp) : ADraw P (⟨d, none, .mkMap ⟩ :: r) K fr H =
    OptK (fun v H' => ADraw P r K (fr.put d v) H') .mk (stepI fr H (.mkMap )) := propext Iff.rfl
@[simp ↓] theorem ADraw_lkp {K : Fr → Hp → Prop} (d : Option Nat) (b : Bool) (k0 : D) (g : Bool) (z : List D) (x y : Arg) (r : List IOp) : ADraw P (⟨d, none, .lkp b k0 g z x y⟩ :: r) K fr H =
    OptK (fun v H' => ADraw P r K (fr.put d v) H') .mk (stepI fr H (.lkp b k0 g z x y)) := propext Iff.rfl
@[simp ↓] theorem ADraw_mpUpd {K : Fr → Hp → Prop} (d : Option Nat) (k0 : D) (x y v0 : Arg) (r : List IOp) : ADraw P (⟨d, none, .mpUpd k0 x y v0⟩ :: r) K fr H =
    OptK (fun v H' => ADraw P r K (fr.put d v) H') .mk (stepI fr H (.mpUpd k0 x y v0)) := propext Iff.rfl
@[simp ↓] theorem ADraw_iaddrV {K : Fr → Hp → Prop} (d : Option Nat) (n : Nat) (x y : Arg) (r : List IOp) : ADraw P (⟨d, none, .iaddrV n x y⟩ :: r) K fr H =
    OptK (fun v H' => ADraw P r K (fr.put d v) H') .mk (stepI fr H (.iaddrV n x y)) := propext Iff.rfl
@[simp ↓] theorem ADraw_loadV {K : Fr → Hp → Prop} (d : Option Nat) (n : Nat) (g : Bool) (x : Arg) (r : List IOp) : ADraw P (⟨d, none, .loadV n g x⟩ :: r) K fr H =
    OptK (fun v H' => ADraw P r K (fr.put d v) H') .mk (stepI fr H (.loadV n g x)) := propext Iff.rfl
@[simp ↓] theorem ADraw_ext {K : Fr → Hp → Prop} (d : Option Nat) (x : Arg) (n : Nat) (r : List IOp) : ADraw P (⟨d, none, .ext x n⟩ :: r) K fr H =
    OptK (fun v H' => ADraw P r K (fr.put d v) H') .mk (stepI fr H (.ext x n)) := propext Iff.rfl
@[simp ↓] theorem ADraw_lenS {K : Fr → Hp → Prop} (d : Option Nat) (x : Arg) (r : List IOp) : ADraw P (⟨d, none, .lenS x⟩ :: r) K fr H =
    OptK (fun v H' => ADraw P r K (fr.put d v) H') .mk (stepI fr H (.lenS x)) := propext Iff.rfl
@[simp ↓] theorem ADraw_lenL {K : Fr → Hp → Prop} (d : Option Nat) (x : Arg) (r : List IOp) : ADraw P (⟨d, none, .lenL x⟩ :: r) K fr H =
    OptK (fun v H' => ADraw P r K (fr.put d v) H') .mk (stepI fr H (.lenL x)) := propext Iff.rfl
@[simp ↓] theorem ADraw_mm {K : Fr → Hp → Prop} (d : Option Nat) (b : Bool) (x y : Arg) (r : List IOp) : ADraw P (⟨d, none, .mm b x y⟩ :: r) K fr H =
    OptK (fun v H' => ADraw P r K (fr.put d v) H') .mk (stepI fr H (.mm b x y)) := propext Iff.rfl
@[simp ↓] theorem ADraw_app {K : Fr → Hp → Prop} (d : Option Nat) (n m e : Nat) (x y : Arg) (r : List IOp) : ADraw P (⟨d, none, .app n m e x y⟩ :: r) K fr H =
    OptK (fun v H' => ADraw P r K (fr.put d v) H') .mk (stepI fr H (.app n m e x y)) := propext Iff.rfl
@[simp ↓] theorem ADraw_appS {K : Fr → Hp → Prop} (d : Option Nat) (e : Nat) (x y : Arg) (r : List IOp) : ADraw P (⟨d, none, .appS e x y⟩ :: r) K fr H =
    OptK (fun v H' => ADraw P r K (fr.put d v) H') .mk (stepI fr H (.appS e x y)) := propext Iff.rfl
@[simp ↓] theorem ADraw_mkfn {K : Fr → Hp → Prop} (d : Option Nat) (f : Fn) (a b : List Arg) (r : List IOp) : ADraw P (⟨d, none, .mkfn f a b⟩ :: r) K fr H =
    OptK (fun v H' => ADraw P r K (fr.put d v) H') .mk (stepI fr H (.mkfn f a b)) := propext Iff.rfl

@[simp] theorem GdK_yes {b : Bool} {T F : Fr → Prop} {t : Tag T} {u : Tag F} {s : Nat} : GdK T F t u fr b s (.d (.bool b)) = T fr := by simp [GdK, AGd]
@[simp] theorem GdK_no1 {T F : Fr → Prop} {t : Tag T} {u : Tag F} {s : Nat} : GdK T F t u fr true s (.d (.bool false)) = F fr := by simp [GdK, AGd]
@[simp] theorem GdK_no2 {T F : Fr → Prop} {t : Tag T} {u : Tag F} {s : Nat} : GdK T F t u fr false s (.d (.bool true)) = F fr := by simp [GdK, AGd]
@[simp] theorem GdK_tup {b : Bool} {T F : Fr → Prop} {t : Tag T} {u : Tag F} {s : Nat} : GdK T F t u fr b s (.tup []) = F fr := by simp [GdK, AGd]
@[simp] theorem BrK_true {T F : Prop} {t : Tag T} {u : Tag F} : BrK T F t u (.d (.bool true)) = T := by simp [BrK, ABr]
@[simp] theorem BrK_false {T F : Prop} {t : Tag T} {u : Tag F} : BrK T F t u (.d (.bool false)) = F := by simp [BrK, ABr]
@[simp] theorem ValK_d {Q : A → Hp → Prop} {t : Tag Q} {l : List A} {f : FuncId} : ValK Q t P l H (.d (.fn f)) = (callOk P f = true ∧ CallK Q .mk P f l H) := propext Iff.rfl
@[simp] theorem ValK_fn {Q : A → Hp → Prop} {t : Tag Q} {l a c : List A} {f : FuncId} : ValK Q t P l H (.fn (.func f) a c) = (callOk P f = true ∧ CallK Q .mk P f (a ++ l ++ c) H) := propext Iff.rfl
@[simp] theorem ValD_d {Q : A → Hp → Prop} {t : Tag Q} {l : List A} {f : FuncId} : ValD Q t P l H (.d (.fn f)) = (callOk P f = true ∧ CallD Q .mk P f l H) := propext Iff.rfl
@[simp] theorem ValD_fn {Q : A → Hp → Prop} {t : Tag Q} {l a c : List A} {f : FuncId} : ValD Q t P l H (.fn (.func f) a c) = (callOk P f = true ∧ CallD Q .mk P f (a ++ l ++ c) H) := propext Iff.rfl

theorem Fr.set_self (fr : Fr) (s : Nat) : fr.set s (fr s) = fr := by
  funext t; simp only [Fr.set]; split
  · rename_i h; rw [h]
  · rfl

/-- a guard that is not known: both ways, what it is known from there on -/
theorem GdK_split {c b : Bool} {T F : Fr → Prop} {t : Tag T} {u : Tag F} {s : Nat} (hs : fr s = .d (.bool c)) (hT : c = b → T (fr.set s (.d (.bool b)))) (hF : c = (!b) → F (fr.set s (.d (.bool (!b))))) : GdK T F t u fr b s (.d (.bool c)) := by
  simp only [GdK, AGd]
  split
  · rename_i h; subst h; have := hT rfl; rwa [← hs, Fr.set_self] at this
  · rename_i h
    have hc : c = !b := by cases c <;> cases b <;> simp_all
    have := hF hc
    rw [← hc, ← hs, Fr.set_self] at this; exact this

theorem BrK_split {c : Bool} {T F : Prop} {t : Tag T} {u : Tag F} (hT : c = true → T) (hF : c = false → F) : BrK T F t u (.d (.bool c)) := by
  simp only [BrK, ABr]
  cases c with
  | true => simp only [if_true]; exact hT rfl
  | false => simp only [Bool.false_eq_true, if_false]; exact hF rfl

theorem CallK_of {Q R : A → Hp → Prop} {t : Tag Q} {f : FuncId} {l : List A} (h : ACall P f l H R) (hq : ∀ x H', R x H' → Q x H') : CallK Q t P f l H := h.mono hq
theorem CallD_of {Q : A → Hp → Prop} {t : Tag Q} {f : FuncId} {l : List A} {v : A} (h : ACall P f l H (fun x H' => x = v ∧ H' = H)) (hq : Q v H) : CallD Q t P f l H := ⟨v, h, hq⟩
theorem CallK_of' {Q : A → Hp → Prop} {t : Tag Q} {f : FuncId} {l : List A} {v : A} {H1 : Hp} (h : ACall P f l H (fun x H' => x = v ∧ H' = H1)) (hq : Q v H1) : CallK Q t P f l H := h.mono fun _ _ ⟨hx, hh⟩ => by rw [hx, hh]; exact hq

theorem LoopK_of {c : C} {t : Tag (Q, c)} (m : Nat) (J : Fr → Hp → Prop) (μ : Fr → Hp → Nat) (h1 : n0 ≤ m ∧ m ≤ H.length) (h2 : J (fr.clr m) (Hp.cut m H))
    (h3 : ∀ fr H, J fr H → AWp P n0 c (Ex.then (Again m J μ (μ fr H)) Q) fr H) : LoopK Q c t P n0 fr H := ⟨m, J, μ, h1.1, h1.2, h2, h3⟩
theorem AgainK_of {J : Fr → Hp → Prop} {μ : Fr → Hp → Nat} {t : Tag (J, μ)} {m n : Nat} (h1 : m ≤ H.length) (h2 : J (fr.clr m) (Hp.cut m H)) (h3 : μ (fr.clr m) (Hp.cut m H) < n) : AgainK J μ t m n fr H := ⟨m, Nat.le_refl _, h1, h2, h3⟩
theorem AgainK_ofk {J : Fr → Hp → Prop} {μ : Fr → Hp → Nat} {t : Tag (J, μ)} {m n : Nat} (k : Nat) (hk : m ≤ k) (h1 : k ≤ H.length) (h2 : J (fr.clr k) (Hp.cut k H)) (h3 : μ (fr.clr k) (Hp.cut k H) < n) : AgainK J μ t m n fr H := ⟨k, hk, h1, h2, h3⟩
theorem Ret_of {rs : List Res} {K : A → Hp → Prop} (e : Ex) (he : (match e with | .exit _ => False | _ => True)) (h : RetK K .mk n0 (resA fr H rs) H) : Ret rs n0 K e fr H := by
  unfold RetK at h
  split at h
  · rename_i x hx
    cases e with
    | exit i => exact he.elim
    | normal => exact ⟨x, n0, hx, Nat.le_refl _, h.1, h.2⟩
    | ret => exact ⟨x, n0, hx, Nat.le_refl _, h.1, h.2⟩
  · exact h.elim

end

/-- what is asked of a body whose new memory is given back -/
def Fin (rs : List Res) (n0 : Nat) (K : A → Hp → Prop) : Ex → Fr → Hp → Prop
  | .exit _, _, _ => False
  | _, fr, H => RetK K .mk n0 (resA fr H rs) H
@[simp ↓] theorem Fin_ret {rs : List Res} {n0 : Nat} {K : A → Hp → Prop} {fr : Fr} {H : Hp} : Fin rs n0 K .ret fr H = RetK K .mk n0 (resA fr H rs) H := propext Iff.rfl
@[simp ↓] theorem Fin_normal {rs : List Res} {n0 : Nat} {K : A → Hp → Prop} {fr : Fr} {H : Hp} : Fin rs n0 K .normal fr H = RetK K .mk n0 (resA fr H rs) H := propext Iff.rfl

theorem runI.mono {P : Program} {fr : Fr} {H : Hp} {i : I} {K K' : A → Hp → Prop} (h : runI P fr H i K) (hk : ∀ v H', K v H' → K' v H') : runI P fr H i K' := by
  cases i with
  | call f l => exact ACall.mono h hk
  | callv f l =>
    simp only [runI] at h ⊢
    split at h
    · exact ⟨h.1, h.2.mono hk⟩
    · exact ⟨h.1, h.2.mono hk⟩
    · exact h.elim
  | _ =>
    simp only [runI] at h ⊢
    split at h
    · exact hk _ _ h
    · exact h.elim

theorem runD.mono {P : Program} {fr : Fr} {H : Hp} {i : I} {K K' : A → Hp → Prop} (h : runD P fr H i K) (hk : ∀ v H', K v H' → K' v H') : runD P fr H i K' := by
  cases i with
  | call f l => obtain ⟨v, h1, h2⟩ := h; exact ⟨v, h1, hk _ _ h2⟩
  | callv f l =>
    simp only [runD] at h ⊢
    split at h
    · obtain ⟨h0, v, h1, h2⟩ := h; exact ⟨h0, v, h1, hk _ _ h2⟩
    · obtain ⟨h0, v, h1, h2⟩ := h; exact ⟨h0, v, h1, hk _ _ h2⟩
    · exact h.elim
  | _ =>
    simp only [runD] at h ⊢
    split at h
    · exact hk _ _ h
    · exact h.elim

theorem AGd.mono {x : A} {fr : Fr} {b : Bool} {T F T' F' : Fr → Prop} (h : AGd x fr b T F) (ht : T fr → T' fr) (hf : F fr → F' fr) : AGd x fr b T' F' := by
  unfold AGd at h ⊢
  split at h
  · split at h
    · rename_i e; simp only [e, if_true]; exact ht h
    · rename_i e; simp only [e, if_false]; exact hf h
  · exact hf h
  · exact h.elim

theorem AOps.mono {P : Program} {K K' : Fr → Hp → Prop} (hk : ∀ fr H, K fr H → K' fr H) : ∀ (l : List IOp) (fr : Fr) (H : Hp), AOps P l K fr H → AOps P l K' fr H
  | [], fr, H, h => hk _ _ h
  | ⟨d, none, i⟩ :: r, fr, H, h => runI.mono (h : runI P fr H i _) fun _ _ h => AOps.mono hk r _ _ h
  | ⟨d, some (s, b), i⟩ :: r, fr, H, h => by
      simp only [AOps] at h ⊢; exact AGd.mono h (fun h => runI.mono h fun _ _ h => AOps.mono hk r _ _ h) (fun h => AOps.mono hk r _ _ h)

theorem ADraw.mono {P : Program} {K K' : Fr → Hp → Prop} (hk : ∀ fr H, K fr H → K' fr H) : ∀ (l : List IOp) (fr : Fr) (H : Hp), ADraw P l K fr H → ADraw P l K' fr H
  | [], fr, H, h => hk _ _ h
  | ⟨d, none, i⟩ :: r, fr, H, h => runD.mono (h : runD P fr H i _) fun _ _ h => ADraw.mono hk r _ _ h
  | ⟨d, some (s, b), i⟩ :: r, fr, H, h => by
      simp only [ADraw] at h ⊢; exact AGd.mono h (fun h => runD.mono h fun _ _ h => ADraw.mono hk r _ _ h) (fun h => ADraw.mono hk r _ _ h)

theorem AWp.mono {P : Program} {n0 : Nat} : ∀ (c : C) {Q Q' : Ex → Fr → Hp → Prop} (_ : ∀ e fr H, Q e fr H → Q' e fr H) (fr : Fr) (H : Hp), AWp P n0 c Q fr H → AWp P n0 c Q' fr H
  | .skip, _, _, hq, fr, H, h => hq _ _ _ h
  | .ops l false, _, _, hq, fr, H, h => AOps.mono (hq _) l fr H h
  | .ops l true, _, _, hq, fr, H, h => ADraw.mono (hq _) l fr H h
  | .seq a b, Q, Q', hq, fr, H, h => AWp.mono a (fun e fr H h => by
      cases e with
      | normal => exact AWp.mono b hq fr H h
      | exit i => exact hq _ _ _ h
      | ret => exact hq _ _ _ h) fr H h
  | .cond c a b, Q, Q', hq, fr, H, h => by
      simp only [AWp, ABr] at h ⊢
      split at h
      · split at h
        · rename_i e; simp only [e, if_true]; exact AWp.mono a hq fr H h
        · rename_i e; simp only [e]; exact AWp.mono b hq fr H h
      · exact h.elim
  | .blk i c, Q, Q', hq, fr, H, h => AWp.mono c (fun e fr H h => by
      cases e with
      | normal => exact hq _ _ _ h
      | exit j =>
        simp only [Ex.blk] at h ⊢
        split at h
        · rename_i e; simp only [e, if_true]; exact hq _ _ _ h
        · rename_i e; simp only [e, if_false]; exact hq _ _ _ h
      | ret => exact hq _ _ _ h) fr H h
  | .loop c, Q, Q', hq, fr, H, ⟨m, J, μ, h1, h2, h3, h4⟩ => ⟨m, J, μ, h1, h2, h3, fun fr H hj => AWp.mono c (fun e fr H h => by
      cases e with
      | normal => exact h
      | exit j => exact hq _ _ _ h
      | ret => exact hq _ _ _ h) fr H (h4 fr H hj)⟩
  | .exit i, _, _, hq, fr, H, h => hq _ _ _ h
  | .ret, _, _, hq, fr, H, h => hq _ _ _ h
  | .bad, _, _, _, _, _, h => h.elim

theorem acall_fin {P : Program} {f : FuncId} {fn : Func} {tok : List Nat} {ifn : IFn} {args : List A} {H : Hp} {K : A → Hp → Prop} (hf : P.funcs[f]? = some fn) (hc : compF P tok fn = some ifn) (hn : args.length ≤ ifn.nt)
    (h : H.Closed → (∀ a ∈ args, a.flat0 = true → a.lo H.length = true) → AWp P H.length ifn.body (Fin ifn.res H.length K) (Fr.init args) H) : ACall P f args H K :=
  acall_of hf hc hn fun h1 h2 => AWp.mono _ (fun e fr H h => Ret_of e (by cases e <;> first | trivial | exact h.elim) (by cases e <;> first | exact h | exact h.elim)) _ _ (h h1 h2)

@[simp] theorem Fr.put_some (fr : Fr) (d : Nat) (v : A) : fr.put (some d) v = fr.set d v := rfl
@[simp] theorem Fr.put_none (fr : Fr) (v : A) : fr.put none v = fr := rfl
@[simp ↓] theorem Fr.set_app (fr : Fr) (d : Nat) (v : A) (s : Nat) : Fr.set fr d v s = if s = d then v else fr s := rfl
@[simp ↓] theorem Fr.put_app (fr : Fr) (d : Nat) (v : A) (s : Nat) : Fr.put fr (some d) v s = if s = d then v else fr s := rfl
@[simp ↓] theorem Fr.clr_app (fr : Fr) (m s : Nat) : Fr.clr m fr s = (fr s).clr m := rfl
@[simp] theorem Fr.init_nil (s : Nat) : Fr.init [] s = .tup [] := rfl
@[simp] theorem Fr.init_zero (a : A) (l : List A) : Fr.init (a :: l) 0 = a := rfl
@[simp] theorem Fr.init_succ (a : A) (l : List A) (s : Nat) : Fr.init (a :: l) (s + 1) = Fr.init l s := rfl
@[simp ↓] theorem ev_t (fr : Fr) (s : Nat) : Arg.ev fr (.t s) = fr s := rfl
@[simp ↓] theorem ev_c (fr : Fr) (d : D) : Arg.ev fr (.c d) = .d d := rfl

theorem getElem?_app0 {α : Type} (H l : List α) : (H ++ l)[H.length]? = l[0]? := by
  rw [List.getElem?_append_right (Nat.le_refl _), Nat.sub_self]
theorem getElem?_appk {α : Type} (H l : List α) (k : Nat) : (H ++ l)[H.length + k]? = l[k]? := by
  rw [List.getElem?_append_right (Nat.le_add_right _ _), Nat.add_sub_cancel_left]
theorem set_app0 {α : Type} (H l : List α) (x : α) : (H ++ l).set H.length x = H ++ l.set 0 x := by
  rw [List.set_append_right _ _ (Nat.le_refl _), Nat.sub_self]
theorem set_appk {α : Type} (H l : List α) (k : Nat) (x : α) : (H ++ l).set (H.length + k) x = H ++ l.set k x := by
  rw [List.set_append_right _ _ (Nat.le_add_right _ _), Nat.add_sub_cancel_left]
theorem cut_self {H : Hp} (h : H.Closed) : Hp.cut H.length H = H := by
  rw [Hp.cut, List.take_length, h _ (Nat.le_refl _)]
theorem cut_app {H : Hp} (h : H.Closed) (l : Hp) : Hp.cut H.length (H ++ l) = H := by
  rw [Hp.cut, List.take_left', h _ (Nat.le_refl _)]; rfl
/-- what was made since a place, kept up to there -/
theorem cut_appk {H : Hp} (h : H.Closed) (k : Nat) (l : Hp) : Hp.cut (H.length + k) (H ++ l) = H ++ (l.take k).map (Ob.clr (H.length + k)) := by
  rw [Hp.cut, List.take_length_add_append, List.map_append, h _ (Nat.le_add_right _ _)]
theorem rowAt_mid {α : Type} (f : α → List D) (pre r : List α) (e : α) : Zam.rowAt ((pre ++ e :: r).map f) pre.length = some (f e) := by
  simp [Zam.rowAt]

attribute [simp] appVA ldV iaddrV mpGet mpPut mpOk keyOf sameK zA stepI binA intOp strOp beqA isNilS isNilP unA A.cells cutL setL ldA stA nilCheckA faddrA iaddrA boundOf sliceA lenA mmA A.toD fillA rowOf slOf A.clr A.clr1 A.clr0 A.flat A.flat0 resA resA1 Ob.clr
attribute [simp] getElem?_app0 getElem?_appk set_app0 set_appk rowAt_mid

theorem wrap_i64 {n : Int} (h1 : -9223372036854775808 ≤ n) (h2 : n ≤ 9223372036854775807) : IntKind.i64.wrap n = n := by
  simp only [IntKind.wrap, IntKind.bits, IntKind.signed, Bool.true_and, ge_iff_le, decide_eq_true_eq]
  split <;> omega
theorem wrap_i32 {n : Int} (h1 : -2147483648 ≤ n) (h2 : n ≤ 2147483647) : IntKind.i32.wrap n = n := by
  simp only [IntKind.wrap, IntKind.bits, IntKind.signed, Bool.true_and, ge_iff_le, decide_eq_true_eq]
  split <;> omega
theorem wrap_u8 {n : Int} (h1 : 0 ≤ n) (h2 : n ≤ 255) : IntKind.u8.wrap n = n := by
  simp only [IntKind.wrap, IntKind.bits, IntKind.signed, Bool.false_and, Bool.false_eq_true, if_false]
  omega
theorem wrap_u64 {n : Int} (h1 : 0 ≤ n) (h2 : n ≤ 18446744073709551615) : IntKind.u64.wrap n = n := by
  simp only [IntKind.wrap, IntKind.bits, IntKind.signed, Bool.false_and, Bool.false_eq_true, if_false]
  omega
theorem wrap_u32 {n : Int} (h1 : 0 ≤ n) (h2 : n ≤ 4294967295) : IntKind.u32.wrap n = n := by
  simp only [IntKind.wrap, IntKind.bits, IntKind.signed, Bool.false_and, Bool.false_eq_true, if_false]
  omega

end Go.Zam
