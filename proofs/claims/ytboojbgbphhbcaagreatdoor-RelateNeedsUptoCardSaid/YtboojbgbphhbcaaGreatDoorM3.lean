/-
  Texts of one proof, one behind the other.
-/
import Derived.Test.YtboojbgbphhbcaaGreatDoorM2
import Derived.DataReads
import Derived.ChangeArms
import Derived.ChangeSame
import Derived.Carry
import Derived.OpenShut
import Derived.Lib.LaidTab
import Derived.Shelf.Strings.Builder1
set_option linter.all false
set_option maxRecDepth 100000
set_option maxHeartbeats 4000000
namespace Go.Zam
section
universe u
inductive Tag {α:Sort u} (x : α):Type where
 | mk
def OptK (K:A→Hp→Prop) (_:Tag K) (o:Option (A × Hp)):Prop :=
 match o with
 | some (v,H)=>K v H
 | none=>False
def GdK (T F:Fr→Prop) (_:Tag T) (_:Tag F) (fr:Fr) (b:Bool) (_:Nat) (x:A):Prop:=AGd x fr b T F
def BrK (T F:Prop) (_:Tag T) (_:Tag F) (x:A):Prop:=ABr x T F
def CallK (Q:A→Hp→Prop) (_:Tag Q) (P:Program) (f:FuncId) (l:List A) (H:Hp):Prop:=ACall P f l H Q
def CallD (Q:A→Hp→Prop) (_:Tag Q) (P:Program) (f:FuncId) (l:List A) (H:Hp):Prop:=∃ v,ACall P f l H (fun v' H'=>v'=v∧H'=H)∧Q v H
def CallE (Q:A→Hp→Prop) (_:Tag Q) (P:Program) (f:FuncId) (l:List A) (H:Hp):Prop:=∃ v H1,ACall P f l H (fun v' H'=>v'=v∧H'=H1)∧Q v H1
def ValK (Q:A→Hp→Prop) (_:Tag Q) (P:Program) (l:List A) (H:Hp) (f:A):Prop :=
 match f with
 | .d (.fn g)=>callOk P g=true∧ACall P g l H Q
 | .fn (.func g) first cap=>callOk P g=true∧ACall P g (first++l++cap) H Q
 | _=>False
def ValD (Q:A→Hp→Prop) (_:Tag Q) (P:Program) (l:List A) (H:Hp) (f:A):Prop :=
 match f with
 | .d (.fn g)=>callOk P g=true∧∃ v,ACall P g l H (fun v' H'=>v'=v∧H'=H)∧Q v H
 | .fn (.func g) first cap=>callOk P g=true∧∃ v,ACall P g (first++l++cap) H (fun v' H'=>v'=v∧H'=H)∧Q v H
 | _=>False
def AnyK (Q:Ex→Fr→Hp→Prop) (l:List IOp) (w:List (List Nat)) (_:Tag (Q,l,w)) (P:Program) (n0:Nat) (fr:Fr) (H:Hp):Prop:=AWp P n0 (.any l w) Q fr H
def LoopK (Q:Ex→Fr→Hp→Prop) (c:C) (_:Tag (Q,c)) (P:Program) (n0:Nat) (fr:Fr) (H:Hp):Prop:=AWp P n0 (.loop c) Q fr H
def AgainK (J:Fr→Hp→Prop) (μ:Fr→Hp→Nat) (_:Tag (J,μ)) (m n:Nat) (fr:Fr) (H:Hp):Prop:=Again m J μ n fr H
def RetK (K:A→Hp→Prop) (_:Tag K) (n0:Nat) (o:Option A) (H:Hp):Prop :=
 match o with
 | some x=>n0≤H.length∧K (x.clr n0) (Hp.cut n0 H)
 | none=>False
@[congr] theorem OptK_congr {o o':Option (A × Hp)} {K:A→Hp→Prop} {t:Tag K} (h:o=o'):OptK K t o=OptK K t o':=by rw [h]
@[congr] theorem GdK_congr {T F:Fr→Prop} {t:Tag T} {u:Tag F} {fr fr':Fr} {b:Bool} {s:Nat} {x x':A} (h:x=x') (h2:fr=fr'):GdK T F t u fr b s x=GdK T F t u fr' b s x':=by rw [h,h2]
@[congr] theorem BrK_congr {T F:Prop} {t:Tag T} {u:Tag F} {x x':A} (h:x=x'):BrK T F t u x=BrK T F t u x':=by rw [h]
@[congr] theorem CallK_congr {Q:A→Hp→Prop} {t:Tag Q} {P:Program} {f:FuncId} {l l':List A} {H H':Hp} (h:l=l') (h2:H=H'):CallK Q t P f l H=CallK Q t P f l' H':=by rw [h,h2]
@[congr] theorem CallD_congr {Q:A→Hp→Prop} {t:Tag Q} {P:Program} {f:FuncId} {l l':List A} {H H':Hp} (h:l=l') (h2:H=H'):CallD Q t P f l H=CallD Q t P f l' H':=by rw [h,h2]
@[congr] theorem CallE_congr {Q:A→Hp→Prop} {t:Tag Q} {P:Program} {f:FuncId} {l l':List A} {H H':Hp} (h:l=l') (h2:H=H'):CallE Q t P f l H=CallE Q t P f l' H':=by rw [h,h2]
@[congr] theorem ValK_congr {Q:A→Hp→Prop} {t:Tag Q} {P:Program} {f f':A} {l l':List A} {H H':Hp} (h:l=l') (h2:H=H') (h3:f=f'):ValK Q t P l H f=ValK Q t P l' H' f':=by rw [h,h2,h3]
@[congr] theorem ValD_congr {Q:A→Hp→Prop} {t:Tag Q} {P:Program} {f f':A} {l l':List A} {H H':Hp} (h:l=l') (h2:H=H') (h3:f=f'):ValD Q t P l H f=ValD Q t P l' H' f':=by rw [h,h2,h3]
@[congr] theorem LoopK_congr {Q:Ex→Fr→Hp→Prop} {c:C} {t:Tag (Q,c)} {P:Program} {n0:Nat} {fr fr':Fr} {H H':Hp} (h:fr=fr') (h2:H=H'):LoopK Q c t P n0 fr H=LoopK Q c t P n0 fr' H':=by rw [h,h2]
@[congr] theorem AnyK_congr {Q:Ex→Fr→Hp→Prop} {l:List IOp} {w:List (List Nat)} {t:Tag (Q,l,w)} {P:Program} {n0:Nat} {fr fr':Fr} {H H':Hp} (h:fr=fr') (h2:H=H'):AnyK Q l w t P n0 fr H=AnyK Q l w t P n0 fr' H':=by rw [h,h2]
@[congr] theorem AgainK_congr {J:Fr→Hp→Prop} {μ:Fr→Hp→Nat} {t:Tag (J,μ)} {m n:Nat} {fr fr':Fr} {H H':Hp} (h:fr=fr') (h2:H=H'):AgainK J μ t m n fr H=AgainK J μ t m n fr' H':=by rw [h,h2]
@[congr] theorem RetK_congr {K:A→Hp→Prop} {t:Tag K} {n0:Nat} {o o':Option A} {H H':Hp} (h:o=o') (h2:H=H'):RetK K t n0 o H=RetK K t n0 o' H':=by rw [h,h2]
section
variable {P:Program} {n0:Nat} {Q:Ex→Fr→Hp→Prop} {fr:Fr} {H:Hp}
@[simp] theorem OptK_some {K:A→Hp→Prop} {t:Tag K} (v:A) (H:Hp):OptK K t (some (v,H))=K v H:=propext Iff.rfl
@[simp ↓] theorem AWp_skip:AWp P n0 .skip Q fr H=Q .normal fr H:=propext Iff.rfl
@[simp ↓] theorem AWp_ops (l:List IOp):AWp P n0 (.ops l false) Q fr H=AOps P l (Q .normal) fr H:=propext Iff.rfl
@[simp ↓] theorem AWp_draw (l:List IOp):AWp P n0 (.ops l true) Q fr H=ADraw P l (Q .normal) fr H:=propext Iff.rfl
@[simp ↓] theorem AWp_both (a b:C):AWp P n0 (.both a b) Q fr H=(AWp P n0 a Q fr H∧AWp P n0 b Q fr H):=propext Iff.rfl
@[simp ↓] theorem AWp_seq (a b:C):AWp P n0 (.seq a b) Q fr H=AWp P n0 a (Ex.then (AWp P n0 b Q) Q) fr H:=propext Iff.rfl
@[simp ↓] theorem AWp_cond (c:Arg) (a b:C):AWp P n0 (.cond c a b) Q fr H=BrK (AWp P n0 a Q fr H) (AWp P n0 b Q fr H) .mk .mk (c.ev fr):=propext Iff.rfl
@[simp ↓] theorem AWp_blk (i:Nat) (c:C):AWp P n0 (.blk i c) Q fr H=AWp P n0 c (Ex.blk i Q) fr H:=propext Iff.rfl
@[simp ↓] theorem AWp_exit (i:Nat):AWp P n0 (.exit i) Q fr H=Q (.exit i) fr H:=propext Iff.rfl
@[simp ↓] theorem AWp_ret:AWp P n0 .ret Q fr H=Q .ret fr H:=propext Iff.rfl
@[simp ↓] theorem AWp_loop_eq (c:C):AWp P n0 (.loop c) Q fr H=LoopK Q c .mk P n0 fr H:=propext Iff.rfl
@[simp ↓] theorem AWp_any_eq (l:List IOp) (w:List (List Nat)):AWp P n0 (.any l w) Q fr H=AnyK Q l w .mk P n0 fr H:=propext Iff.rfl
theorem AnyK_of {l:List IOp} {w:List (List Nat)} {t:Tag (Q,l,w)} (Inv:List Bool→Fr→Hp→Prop) (h0:Inv (List.replicate w.length false) fr H)
 (h1:∀ (S:List Bool) (fr:Fr) (H:Hp),S.length=w.length→Inv S fr H→(readyL w S=[]→Q .normal fr H)∧∀ i ∈ readyL w S,AOps P [l.getD i badOp] (Inv (S.set i true)) fr H):AnyK Q l w t P n0 fr H :=
 ⟨Inv,h0,h1⟩
@[simp ↓] theorem then_normal {K:Fr→Hp→Prop}:Ex.then K Q .normal fr H=K fr H:=propext Iff.rfl
@[simp ↓] theorem then_exit {K:Fr→Hp→Prop} (i:Nat):Ex.then K Q (.exit i) fr H=Q (.exit i) fr H:=propext Iff.rfl
@[simp ↓] theorem then_ret {K:Fr→Hp→Prop}:Ex.then K Q .ret fr H=Q .ret fr H:=propext Iff.rfl
@[simp ↓] theorem blk_normal (i:Nat):Ex.blk i Q .normal fr H=Q .normal fr H:=propext Iff.rfl
@[simp ↓] theorem blk_ret (i:Nat):Ex.blk i Q .ret fr H=Q .ret fr H:=propext Iff.rfl
@[simp ↓] theorem blk_exit (i j:Nat):Ex.blk i Q (.exit j) fr H=if j=i then Q .normal fr H else Q (.exit j) fr H:=propext Iff.rfl
@[simp ↓] theorem Again_eq (m:Nat) (J:Fr→Hp→Prop) (μ:Fr→Hp→Nat) (n:Nat):Again m J μ n fr H=AgainK J μ .mk m n fr H:=propext Iff.rfl
@[simp ↓] theorem AOps_nil {K:Fr→Hp→Prop}:AOps P [] K fr H=K fr H:=propext Iff.rfl
@[simp ↓] theorem ADraw_nil {K:Fr→Hp→Prop}:ADraw P [] K fr H=K fr H:=propext Iff.rfl
@[simp ↓] theorem AOps_guard {K:Fr→Hp→Prop} (d:Option Nat) (s:Nat) (b:Bool) (i:I) (r:List IOp):AOps P (⟨d,some (s,b),i⟩ :: r) K fr H =
 GdK (fun fr=>AOps P (⟨d,none,i⟩ :: r) K fr H) (fun fr=>AOps P r K (fr.put d (.tup [])) H) .mk .mk fr b s (fr s):=propext Iff.rfl
@[simp ↓] theorem ADraw_guard {K:Fr→Hp→Prop} (d:Option Nat) (s:Nat) (b:Bool) (i:I) (r:List IOp):ADraw P (⟨d,some (s,b),i⟩ :: r) K fr H =
 GdK (fun fr=>ADraw P (⟨d,none,i⟩ :: r) K fr H) (fun fr=>ADraw P r K (fr.put d (.tup [])) H) .mk .mk fr b s (fr s):=propext Iff.rfl
@[simp ↓] theorem AOps_call {K:Fr→Hp→Prop} (d:Option Nat) (f:FuncId) (l:List Arg) (r:List IOp):AOps P (⟨d,none,.call f l⟩ :: r) K fr H =
 CallK (fun v H'=>AOps P r K (fr.put d v) H') .mk P f (l.map (Arg.ev fr)) H:=propext Iff.rfl
@[simp ↓] theorem ADraw_call {K:Fr→Hp→Prop} (d:Option Nat) (f:FuncId) (l:List Arg) (r:List IOp):ADraw P (⟨d,none,.call f l⟩ :: r) K fr H =
 CallD (fun v H'=>ADraw P r K (fr.put d v) H') .mk P f (l.map (Arg.ev fr)) H:=propext Iff.rfl
@[simp ↓] theorem AOps_callE {K:Fr→Hp→Prop} (d:Option Nat) (f:FuncId) (l:List Arg) (r:List IOp):AOps P (⟨d,none,.callE f l⟩ :: r) K fr H =
 CallK (fun v H'=>AOps P r K (fr.put d v) H') .mk P f (l.map (Arg.ev fr)) H:=propext Iff.rfl
@[simp ↓] theorem ADraw_callE {K:Fr→Hp→Prop} (d:Option Nat) (f:FuncId) (l:List Arg) (r:List IOp):ADraw P (⟨d,none,.callE f l⟩ :: r) K fr H =
 CallE (fun v H'=>ADraw P r K (fr.put d v) H') .mk P f (l.map (Arg.ev fr)) H:=propext Iff.rfl
@[simp ↓] theorem AOps_callv {K : Fr → Hp → Prop} (d : Option Nat) (f : Arg) (l : List Arg) (r : List IOp) : AOps P (⟨d, none, .callv f l⟩ :: r) K fr H =
 ValK (fun v H'=>AOps P r K (fr.put d v) H') .mk P (l.map (Arg.ev fr)) H (f.ev fr):=by
  simp only [AOps,runI,ValK]; rfl
@[simp ↓] theorem ADraw_callv {K : Fr → Hp → Prop} (d : Option Nat) (f : Arg) (l : List Arg) (r : List IOp) : ADraw P (⟨d, none, .callv f l⟩ :: r) K fr H =
 ValD (fun v H'=>ADraw P r K (fr.put d v) H') .mk P (l.map (Arg.ev fr)) H (f.ev fr):=by
  simp only [ADraw,runD,ValD]; rfl
@[simp ↓] theorem AOps_mv {K:Fr→Hp→Prop} (d:Option Nat) (x:Arg) (r:List IOp):AOps P (⟨d,none,.mv x⟩ :: r) K fr H =
 OptK (fun v H'=>AOps P r K (fr.put d v) H') .mk (stepI fr H (.mv x)):=propext Iff.rfl
@[simp ↓] theorem AOps_nilT {K:Fr→Hp→Prop} (d:Option Nat) (n e:Nat) (r:List IOp):AOps P (⟨d,none,.nilT n e⟩ :: r) K fr H =
 OptK (fun v H'=>AOps P r K (fr.put d v) H') .mk (stepI fr H (.nilT n e)):=propext Iff.rfl
@[simp ↓] theorem AOps_pick {K:Fr→Hp→Prop} (d:Option Nat) (a b c:Arg) (r:List IOp):AOps P (⟨d,none,.pick a b c⟩ :: r) K fr H =
 OptK (fun v H'=>AOps P r K (fr.put d v) H') .mk (stepI fr H (.pick a b c)):=propext Iff.rfl
@[simp ↓] theorem AOps_alloc {K:Fr→Hp→Prop} (d:Option Nat) (ty:TypeId) (cs:List D) (r:List IOp):AOps P (⟨d,none,.alloc ty cs⟩ :: r) K fr H =
 OptK (fun v H'=>AOps P r K (fr.put d v) H') .mk (stepI fr H (.alloc ty cs)):=propext Iff.rfl
@[simp ↓] theorem AOps_box {K:Fr→Hp→Prop} (d:Option Nat) (ty n:Nat) (x:Arg) (r:List IOp):AOps P (⟨d,none,.box ty n x⟩ :: r) K fr H =
 OptK (fun v H'=>AOps P r K (fr.put d v) H') .mk (stepI fr H (.box ty n x)):=propext Iff.rfl
@[simp ↓] theorem AOps_allocU {K:Fr→Hp→Prop} (d:Option Nat) (ty:TypeId) (cs:List D) (ts:List (Nat × Nat × TypeId)) (r:List IOp):AOps P (⟨d,none,.allocU ty cs ts⟩ :: r) K fr H =
 OptK (fun v H'=>AOps P r K (fr.put d v) H') .mk (stepI fr H (.allocU ty cs ts)):=propext Iff.rfl
@[simp ↓] theorem AOps_allocT {K:Fr→Hp→Prop} (d:Option Nat) (ty:TypeId) (cs:List D) (j sz e:Nat) (r:List IOp):AOps P (⟨d,none,.allocT ty cs j sz e⟩ :: r) K fr H =
 OptK (fun v H'=>AOps P r K (fr.put d v) H') .mk (stepI fr H (.allocT ty cs j sz e)):=propext Iff.rfl
@[simp ↓] theorem AOps_load {K:Fr→Hp→Prop} (d:Option Nat) (n:Nat) (g:Bool) (p:Arg) (r:List IOp):AOps P (⟨d,none,.load n g p⟩ :: r) K fr H =
 OptK (fun v H'=>AOps P r K (fr.put d v) H') .mk (stepI fr H (.load n g p)):=propext Iff.rfl
@[simp ↓] theorem AOps_store {K:Fr→Hp→Prop} (d:Option Nat) (n:Nat) (p v:Arg) (r:List IOp):AOps P (⟨d,none,.store n p v⟩ :: r) K fr H =
 OptK (fun v H'=>AOps P r K (fr.put d v) H') .mk (stepI fr H (.store n p v)):=propext Iff.rfl
@[simp ↓] theorem AOps_nilCheck {K:Fr→Hp→Prop} (d:Option Nat) (x:Arg) (r:List IOp):AOps P (⟨d,none,.nilCheck x⟩ :: r) K fr H =
 OptK (fun v H'=>AOps P r K (fr.put d v) H') .mk (stepI fr H (.nilCheck x)):=propext Iff.rfl
@[simp ↓] theorem AOps_bin {K:Fr→Hp→Prop} (d:Option Nat) (op:BinOp) (x y:Arg) (r:List IOp):AOps P (⟨d,none,.bin op x y⟩ :: r) K fr H =
 OptK (fun v H'=>AOps P r K (fr.put d v) H') .mk (stepI fr H (.bin op x y)):=propext Iff.rfl
@[simp ↓] theorem AOps_beq {K:Fr→Hp→Prop} (d:Option Nat) (b:Bool) (x y:Arg) (r:List IOp):AOps P (⟨d,none,.beq b x y⟩ :: r) K fr H =
 OptK (fun v H'=>AOps P r K (fr.put d v) H') .mk (stepI fr H (.beq b x y)):=propext Iff.rfl
@[simp ↓] theorem AOps_isNilS {K:Fr→Hp→Prop} (d:Option Nat) (b:Bool) (x:Arg) (r:List IOp):AOps P (⟨d,none,.isNilS b x⟩ :: r) K fr H =
 OptK (fun v H'=>AOps P r K (fr.put d v) H') .mk (stepI fr H (.isNilS b x)):=propext Iff.rfl
@[simp ↓] theorem AOps_isNilP {K:Fr→Hp→Prop} (d:Option Nat) (b:Bool) (x:Arg) (r:List IOp):AOps P (⟨d,none,.isNilP b x⟩ :: r) K fr H =
 OptK (fun v H'=>AOps P r K (fr.put d v) H') .mk (stepI fr H (.isNilP b x)):=propext Iff.rfl
@[simp ↓] theorem AOps_un {K:Fr→Hp→Prop} (d:Option Nat) (op:UnOp) (x:Arg) (r:List IOp):AOps P (⟨d,none,.un op x⟩ :: r) K fr H =
 OptK (fun v H'=>AOps P r K (fr.put d v) H') .mk (stepI fr H (.un op x)):=propext Iff.rfl
@[simp ↓] theorem AOps_cvt {K:Fr→Hp→Prop} (d:Option Nat) (k:IntKind) (x:Arg) (r:List IOp):AOps P (⟨d,none,.cvt k x⟩ :: r) K fr H =
 OptK (fun v H'=>AOps P r K (fr.put d v) H') .mk (stepI fr H (.cvt k x)):=propext Iff.rfl
@[simp ↓] theorem AOps_cvtBS {K:Fr→Hp→Prop} (d:Option Nat) (x:Arg) (r:List IOp):AOps P (⟨d,none,.cvtBS x⟩ :: r) K fr H =
 OptK (fun v H'=>AOps P r K (fr.put d v) H') .mk (stepI fr H (.cvtBS x)):=propext Iff.rfl
@[simp ↓] theorem AOps_cvtS {K:Fr→Hp→Prop} (d:Option Nat) (x:Arg) (r:List IOp):AOps P (⟨d,none,.cvtS x⟩ :: r) K fr H =
 OptK (fun v H'=>AOps P r K (fr.put d v) H') .mk (stepI fr H (.cvtS x)):=propext Iff.rfl
@[simp ↓] theorem AOps_faddr {K:Fr→Hp→Prop} (d:Option Nat) (n:Nat) (x:Arg) (r:List IOp):AOps P (⟨d,none,.faddr n x⟩ :: r) K fr H =
 OptK (fun v H'=>AOps P r K (fr.put d v) H') .mk (stepI fr H (.faddr n x)):=propext Iff.rfl
@[simp ↓] theorem AOps_fld {K:Fr→Hp→Prop} (d:Option Nat) (o n:Nat) (g:Bool) (x:Arg) (r:List IOp):AOps P (⟨d,none,.fld o n g x⟩ :: r) K fr H =
 OptK (fun v H'=>AOps P r K (fr.put d v) H') .mk (stepI fr H (.fld o n g x)):=propext Iff.rfl
@[simp ↓] theorem AOps_iaddr {K:Fr→Hp→Prop} (d:Option Nat) (n:Nat) (x y:Arg) (r:List IOp):AOps P (⟨d,none,.iaddr n x y⟩ :: r) K fr H =
 OptK (fun v H'=>AOps P r K (fr.put d v) H') .mk (stepI fr H (.iaddr n x y)):=propext Iff.rfl
@[simp ↓] theorem AOps_sidx {K:Fr→Hp→Prop} (d:Option Nat) (x y:Arg) (r:List IOp):AOps P (⟨d,none,.sidx x y⟩ :: r) K fr H =
 OptK (fun v H'=>AOps P r K (fr.put d v) H') .mk (stepI fr H (.sidx x y)):=propext Iff.rfl
@[simp ↓] theorem AOps_aidx {K:Fr→Hp→Prop} (d:Option Nat) (n:Nat) (x y:Arg) (r:List IOp):AOps P (⟨d,none,.aidx n x y⟩ :: r) K fr H =
 OptK (fun v H'=>AOps P r K (fr.put d v) H') .mk (stepI fr H (.aidx n x y)):=propext Iff.rfl
@[simp ↓] theorem AOps_sslice {K:Fr→Hp→Prop} (d:Option Nat) (x:Arg) (l h:Option Arg) (r:List IOp):AOps P (⟨d,none,.sslice x l h⟩ :: r) K fr H =
 OptK (fun v H'=>AOps P r K (fr.put d v) H') .mk (stepI fr H (.sslice x l h)):=propext Iff.rfl
@[simp ↓] theorem AOps_slice {K:Fr→Hp→Prop} (d:Option Nat) (n:Nat) (x:Arg) (l h m:Option Arg) (r:List IOp):AOps P (⟨d,none,.slice n x l h m⟩ :: r) K fr H =
 OptK (fun v H'=>AOps P r K (fr.put d v) H') .mk (stepI fr H (.slice n x l h m)):=propext Iff.rfl
@[simp ↓] theorem AOps_build {K:Fr→Hp→Prop} (d:Option Nat) (z:List D) (ps:List (Nat × Nat × Arg)) (r:List IOp):AOps P (⟨d,none,.build z ps⟩ :: r) K fr H =
 OptK (fun v H'=>AOps P r K (fr.put d v) H') .mk (stepI fr H (.build z ps)):=propext Iff.rfl
@[simp ↓] theorem AOps_buildT {K:Fr→Hp→Prop} (d:Option Nat) (ts:List (Nat × Nat × TypeId)) (z:List D) (ps:List (Nat × Nat × Arg)) (r:List IOp):AOps P (⟨d,none,.buildT ts z ps⟩ :: r) K fr H =
 OptK (fun v H'=>AOps P r K (fr.put d v) H') .mk (stepI fr H (.buildT ts z ps)):=propext Iff.rfl
@[simp ↓] theorem AOps_bslice {K:Fr→Hp→Prop} (d:Option Nat) (n:Nat) (ps:List Arg) (r:List IOp):AOps P (⟨d,none,.bslice n ps⟩ :: r) K fr H =
 OptK (fun v H'=>AOps P r K (fr.put d v) H') .mk (stepI fr H (.bslice n ps)):=propext Iff.rfl
@[simp ↓] theorem AOps_bsliceT {K:Fr→Hp→Prop} (d:Option Nat) (n e:Nat) (ps:List Arg) (r:List IOp):AOps P (⟨d,none,.bsliceT n e ps⟩ :: r) K fr H =
 OptK (fun v H'=>AOps P r K (fr.put d v) H') .mk (stepI fr H (.bsliceT n e ps)):=propext Iff.rfl
@[simp ↓] theorem AOps_bsliceV {K:Fr→Hp→Prop} (d:Option Nat) (n e:Nat) (ps:List Arg) (r:List IOp):AOps P (⟨d,none,.bsliceV n e ps⟩ :: r) K fr H =
 OptK (fun v H'=>AOps P r K (fr.put d v) H') .mk (stepI fr H (.bsliceV n e ps)):=propext Iff.rfl
@[simp ↓] theorem AOps_bsliceM {K:Fr→Hp→Prop} (d:Option Nat) (n:Nat) (ps:List Arg) (r:List IOp):AOps P (⟨d,none,.bsliceM n ps⟩ :: r) K fr H =
 OptK (fun v H'=>AOps P r K (fr.put d v) H') .mk (stepI fr H (.bsliceM n ps)):=propext Iff.rfl
@[simp ↓] theorem AOps_mkSl {K:Fr→Hp→Prop} (d:Option Nat) (n m:Nat) (z:List D) (x y:Arg) (r:List IOp):AOps P (⟨d,none,.mkSl n m z x y⟩ :: r) K fr H =
 OptK (fun v H'=>AOps P r K (fr.put d v) H') .mk (stepI fr H (.mkSl n m z x y)):=propext Iff.rfl
@[simp ↓] theorem AOps_eqA {K:Fr→Hp→Prop} (d:Option Nat) (b:Bool) (l:List D) (x y:Arg) (r:List IOp):AOps P (⟨d,none,.eqA b l x y⟩ :: r) K fr H =
 OptK (fun v H'=>AOps P r K (fr.put d v) H') .mk (stepI fr H (.eqA b l x y)):=propext Iff.rfl
@[simp ↓] theorem AOps_appV {K:Fr→Hp→Prop} (d:Option Nat) (n m e:Nat) (x y:Arg) (r:List IOp):AOps P (⟨d,none,.appV n m e x y⟩ :: r) K fr H =
 OptK (fun v H'=>AOps P r K (fr.put d v) H') .mk (stepI fr H (.appV n m e x y)):=propext Iff.rfl
@[simp ↓] theorem AOps_cutV {K:Fr→Hp→Prop} (d:Option Nat) (n:Nat) (x y:Arg) (r:List IOp):AOps P (⟨d,none,.cutV n x y⟩ :: r) K fr H =
 OptK (fun v H'=>AOps P r K (fr.put d v) H') .mk (stepI fr H (.cutV n x y)):=propext Iff.rfl
@[simp ↓] theorem AOps_mkMap {K:Fr→Hp→Prop} (d:Option Nat)  (r:List IOp):AOps P (⟨d,none,.mkMap ⟩ :: r) K fr H =
 OptK (fun v H'=>AOps P r K (fr.put d v) H') .mk (stepI fr H (.mkMap )):=propext Iff.rfl
@[simp ↓] theorem AOps_lkp {K:Fr→Hp→Prop} (d:Option Nat) (b:Bool) (k0:D) (g:Bool) (z:List D) (x y:Arg) (r:List IOp):AOps P (⟨d,none,.lkp b k0 g z x y⟩ :: r) K fr H =
 OptK (fun v H'=>AOps P r K (fr.put d v) H') .mk (stepI fr H (.lkp b k0 g z x y)):=propext Iff.rfl
@[simp ↓] theorem AOps_mpUpd {K:Fr→Hp→Prop} (d:Option Nat) (k0:D) (x y v0:Arg) (r:List IOp):AOps P (⟨d,none,.mpUpd k0 x y v0⟩ :: r) K fr H =
 OptK (fun v H'=>AOps P r K (fr.put d v) H') .mk (stepI fr H (.mpUpd k0 x y v0)):=propext Iff.rfl
@[simp ↓] theorem AOps_iaddrV {K:Fr→Hp→Prop} (d:Option Nat) (n:Nat) (x y:Arg) (r:List IOp):AOps P (⟨d,none,.iaddrV n x y⟩ :: r) K fr H =
 OptK (fun v H'=>AOps P r K (fr.put d v) H') .mk (stepI fr H (.iaddrV n x y)):=propext Iff.rfl
@[simp ↓] theorem AOps_loadV {K:Fr→Hp→Prop} (d:Option Nat) (n:Nat) (g:Bool) (x:Arg) (r:List IOp):AOps P (⟨d,none,.loadV n g x⟩ :: r) K fr H =
 OptK (fun v H'=>AOps P r K (fr.put d v) H') .mk (stepI fr H (.loadV n g x)):=propext Iff.rfl
@[simp ↓] theorem AOps_ext {K:Fr→Hp→Prop} (d:Option Nat) (x:Arg) (n:Nat) (r:List IOp):AOps P (⟨d,none,.ext x n⟩ :: r) K fr H =
 OptK (fun v H'=>AOps P r K (fr.put d v) H') .mk (stepI fr H (.ext x n)):=propext Iff.rfl
@[simp ↓] theorem AOps_lenS {K:Fr→Hp→Prop} (d:Option Nat) (x:Arg) (r:List IOp):AOps P (⟨d,none,.lenS x⟩ :: r) K fr H =
 OptK (fun v H'=>AOps P r K (fr.put d v) H') .mk (stepI fr H (.lenS x)):=propext Iff.rfl
@[simp ↓] theorem AOps_lenL {K:Fr→Hp→Prop} (d:Option Nat) (x:Arg) (r:List IOp):AOps P (⟨d,none,.lenL x⟩ :: r) K fr H =
 OptK (fun v H'=>AOps P r K (fr.put d v) H') .mk (stepI fr H (.lenL x)):=propext Iff.rfl
@[simp ↓] theorem AOps_mm {K:Fr→Hp→Prop} (d:Option Nat) (b:Bool) (x y:Arg) (r:List IOp):AOps P (⟨d,none,.mm b x y⟩ :: r) K fr H =
 OptK (fun v H'=>AOps P r K (fr.put d v) H') .mk (stepI fr H (.mm b x y)):=propext Iff.rfl
@[simp ↓] theorem AOps_app {K:Fr→Hp→Prop} (d:Option Nat) (n m e:Nat) (x y:Arg) (r:List IOp):AOps P (⟨d,none,.app n m e x y⟩ :: r) K fr H =
 OptK (fun v H'=>AOps P r K (fr.put d v) H') .mk (stepI fr H (.app n m e x y)):=propext Iff.rfl
@[simp ↓] theorem AOps_appS {K:Fr→Hp→Prop} (d:Option Nat) (e:Nat) (x y:Arg) (r:List IOp):AOps P (⟨d,none,.appS e x y⟩ :: r) K fr H =
 OptK (fun v H'=>AOps P r K (fr.put d v) H') .mk (stepI fr H (.appS e x y)):=propext Iff.rfl
@[simp ↓] theorem AOps_mkfn {K:Fr→Hp→Prop} (d:Option Nat) (f:Fn) (a b:List Arg) (r:List IOp):AOps P (⟨d,none,.mkfn f a b⟩ :: r) K fr H =
 OptK (fun v H'=>AOps P r K (fr.put d v) H') .mk (stepI fr H (.mkfn f a b)):=propext Iff.rfl
@[simp ↓] theorem ADraw_mv {K:Fr→Hp→Prop} (d:Option Nat) (x:Arg) (r:List IOp):ADraw P (⟨d,none,.mv x⟩ :: r) K fr H =
 OptK (fun v H'=>ADraw P r K (fr.put d v) H') .mk (stepI fr H (.mv x)):=propext Iff.rfl
@[simp ↓] theorem ADraw_nilT {K:Fr→Hp→Prop} (d:Option Nat) (n e:Nat) (r:List IOp):ADraw P (⟨d,none,.nilT n e⟩ :: r) K fr H =
 OptK (fun v H'=>ADraw P r K (fr.put d v) H') .mk (stepI fr H (.nilT n e)):=propext Iff.rfl
@[simp ↓] theorem ADraw_pick {K:Fr→Hp→Prop} (d:Option Nat) (a b c:Arg) (r:List IOp):ADraw P (⟨d,none,.pick a b c⟩ :: r) K fr H =
 OptK (fun v H'=>ADraw P r K (fr.put d v) H') .mk (stepI fr H (.pick a b c)):=propext Iff.rfl
@[simp ↓] theorem ADraw_alloc {K:Fr→Hp→Prop} (d:Option Nat) (ty:TypeId) (cs:List D) (r:List IOp):ADraw P (⟨d,none,.alloc ty cs⟩ :: r) K fr H =
 OptK (fun v H'=>ADraw P r K (fr.put d v) H') .mk (stepI fr H (.alloc ty cs)):=propext Iff.rfl
@[simp ↓] theorem ADraw_box {K:Fr→Hp→Prop} (d:Option Nat) (ty n:Nat) (x:Arg) (r:List IOp):ADraw P (⟨d,none,.box ty n x⟩ :: r) K fr H =
 OptK (fun v H'=>ADraw P r K (fr.put d v) H') .mk (stepI fr H (.box ty n x)):=propext Iff.rfl
@[simp ↓] theorem ADraw_allocU {K:Fr→Hp→Prop} (d:Option Nat) (ty:TypeId) (cs:List D) (ts:List (Nat × Nat × TypeId)) (r:List IOp):ADraw P (⟨d,none,.allocU ty cs ts⟩ :: r) K fr H =
 OptK (fun v H'=>ADraw P r K (fr.put d v) H') .mk (stepI fr H (.allocU ty cs ts)):=propext Iff.rfl
@[simp ↓] theorem ADraw_allocT {K:Fr→Hp→Prop} (d:Option Nat) (ty:TypeId) (cs:List D) (j sz e:Nat) (r:List IOp):ADraw P (⟨d,none,.allocT ty cs j sz e⟩ :: r) K fr H =
 OptK (fun v H'=>ADraw P r K (fr.put d v) H') .mk (stepI fr H (.allocT ty cs j sz e)):=propext Iff.rfl
@[simp ↓] theorem ADraw_load {K:Fr→Hp→Prop} (d:Option Nat) (n:Nat) (g:Bool) (p:Arg) (r:List IOp):ADraw P (⟨d,none,.load n g p⟩ :: r) K fr H =
 OptK (fun v H'=>ADraw P r K (fr.put d v) H') .mk (stepI fr H (.load n g p)):=propext Iff.rfl
@[simp ↓] theorem ADraw_store {K:Fr→Hp→Prop} (d:Option Nat) (n:Nat) (p v:Arg) (r:List IOp):ADraw P (⟨d,none,.store n p v⟩ :: r) K fr H =
 OptK (fun v H'=>ADraw P r K (fr.put d v) H') .mk (stepI fr H (.store n p v)):=propext Iff.rfl
@[simp ↓] theorem ADraw_nilCheck {K:Fr→Hp→Prop} (d:Option Nat) (x:Arg) (r:List IOp):ADraw P (⟨d,none,.nilCheck x⟩ :: r) K fr H =
 OptK (fun v H'=>ADraw P r K (fr.put d v) H') .mk (stepI fr H (.nilCheck x)):=propext Iff.rfl
@[simp ↓] theorem ADraw_bin {K:Fr→Hp→Prop} (d:Option Nat) (op:BinOp) (x y:Arg) (r:List IOp):ADraw P (⟨d,none,.bin op x y⟩ :: r) K fr H =
 OptK (fun v H'=>ADraw P r K (fr.put d v) H') .mk (stepI fr H (.bin op x y)):=propext Iff.rfl
@[simp ↓] theorem ADraw_beq {K:Fr→Hp→Prop} (d:Option Nat) (b:Bool) (x y:Arg) (r:List IOp):ADraw P (⟨d,none,.beq b x y⟩ :: r) K fr H =
 OptK (fun v H'=>ADraw P r K (fr.put d v) H') .mk (stepI fr H (.beq b x y)):=propext Iff.rfl
@[simp ↓] theorem ADraw_isNilS {K:Fr→Hp→Prop} (d:Option Nat) (b:Bool) (x:Arg) (r:List IOp):ADraw P (⟨d,none,.isNilS b x⟩ :: r) K fr H =
 OptK (fun v H'=>ADraw P r K (fr.put d v) H') .mk (stepI fr H (.isNilS b x)):=propext Iff.rfl
@[simp ↓] theorem ADraw_isNilP {K:Fr→Hp→Prop} (d:Option Nat) (b:Bool) (x:Arg) (r:List IOp):ADraw P (⟨d,none,.isNilP b x⟩ :: r) K fr H =
 OptK (fun v H'=>ADraw P r K (fr.put d v) H') .mk (stepI fr H (.isNilP b x)):=propext Iff.rfl
@[simp ↓] theorem ADraw_un {K:Fr→Hp→Prop} (d:Option Nat) (op:UnOp) (x:Arg) (r:List IOp):ADraw P (⟨d,none,.un op x⟩ :: r) K fr H =
 OptK (fun v H'=>ADraw P r K (fr.put d v) H') .mk (stepI fr H (.un op x)):=propext Iff.rfl
@[simp ↓] theorem ADraw_cvt {K:Fr→Hp→Prop} (d:Option Nat) (k:IntKind) (x:Arg) (r:List IOp):ADraw P (⟨d,none,.cvt k x⟩ :: r) K fr H =
 OptK (fun v H'=>ADraw P r K (fr.put d v) H') .mk (stepI fr H (.cvt k x)):=propext Iff.rfl
@[simp ↓] theorem ADraw_cvtBS {K:Fr→Hp→Prop} (d:Option Nat) (x:Arg) (r:List IOp):ADraw P (⟨d,none,.cvtBS x⟩ :: r) K fr H =
 OptK (fun v H'=>ADraw P r K (fr.put d v) H') .mk (stepI fr H (.cvtBS x)):=propext Iff.rfl
@[simp ↓] theorem ADraw_cvtS {K:Fr→Hp→Prop} (d:Option Nat) (x:Arg) (r:List IOp):ADraw P (⟨d,none,.cvtS x⟩ :: r) K fr H =
 OptK (fun v H'=>ADraw P r K (fr.put d v) H') .mk (stepI fr H (.cvtS x)):=propext Iff.rfl
@[simp ↓] theorem ADraw_faddr {K:Fr→Hp→Prop} (d:Option Nat) (n:Nat) (x:Arg) (r:List IOp):ADraw P (⟨d,none,.faddr n x⟩ :: r) K fr H =
 OptK (fun v H'=>ADraw P r K (fr.put d v) H') .mk (stepI fr H (.faddr n x)):=propext Iff.rfl
@[simp ↓] theorem ADraw_fld {K:Fr→Hp→Prop} (d:Option Nat) (o n:Nat) (g:Bool) (x:Arg) (r:List IOp):ADraw P (⟨d,none,.fld o n g x⟩ :: r) K fr H =
 OptK (fun v H'=>ADraw P r K (fr.put d v) H') .mk (stepI fr H (.fld o n g x)):=propext Iff.rfl
@[simp ↓] theorem ADraw_iaddr {K:Fr→Hp→Prop} (d:Option Nat) (n:Nat) (x y:Arg) (r:List IOp):ADraw P (⟨d,none,.iaddr n x y⟩ :: r) K fr H =
 OptK (fun v H'=>ADraw P r K (fr.put d v) H') .mk (stepI fr H (.iaddr n x y)):=propext Iff.rfl
@[simp ↓] theorem ADraw_sidx {K:Fr→Hp→Prop} (d:Option Nat) (x y:Arg) (r:List IOp):ADraw P (⟨d,none,.sidx x y⟩ :: r) K fr H =
 OptK (fun v H'=>ADraw P r K (fr.put d v) H') .mk (stepI fr H (.sidx x y)):=propext Iff.rfl
@[simp ↓] theorem ADraw_aidx {K:Fr→Hp→Prop} (d:Option Nat) (n:Nat) (x y:Arg) (r:List IOp):ADraw P (⟨d,none,.aidx n x y⟩ :: r) K fr H =
 OptK (fun v H'=>ADraw P r K (fr.put d v) H') .mk (stepI fr H (.aidx n x y)):=propext Iff.rfl
@[simp ↓] theorem ADraw_sslice {K:Fr→Hp→Prop} (d:Option Nat) (x:Arg) (l h:Option Arg) (r:List IOp):ADraw P (⟨d,none,.sslice x l h⟩ :: r) K fr H =
 OptK (fun v H'=>ADraw P r K (fr.put d v) H') .mk (stepI fr H (.sslice x l h)):=propext Iff.rfl
@[simp ↓] theorem ADraw_slice {K:Fr→Hp→Prop} (d:Option Nat) (n:Nat) (x:Arg) (l h m:Option Arg) (r:List IOp):ADraw P (⟨d,none,.slice n x l h m⟩ :: r) K fr H =
 OptK (fun v H'=>ADraw P r K (fr.put d v) H') .mk (stepI fr H (.slice n x l h m)):=propext Iff.rfl
@[simp ↓] theorem ADraw_build {K:Fr→Hp→Prop} (d:Option Nat) (z:List D) (ps:List (Nat × Nat × Arg)) (r:List IOp):ADraw P (⟨d,none,.build z ps⟩ :: r) K fr H =
 OptK (fun v H'=>ADraw P r K (fr.put d v) H') .mk (stepI fr H (.build z ps)):=propext Iff.rfl
@[simp ↓] theorem ADraw_buildT {K:Fr→Hp→Prop} (d:Option Nat) (ts:List (Nat × Nat × TypeId)) (z:List D) (ps:List (Nat × Nat × Arg)) (r:List IOp):ADraw P (⟨d,none,.buildT ts z ps⟩ :: r) K fr H =
 OptK (fun v H'=>ADraw P r K (fr.put d v) H') .mk (stepI fr H (.buildT ts z ps)):=propext Iff.rfl
@[simp ↓] theorem ADraw_bslice {K:Fr→Hp→Prop} (d:Option Nat) (n:Nat) (ps:List Arg) (r:List IOp):ADraw P (⟨d,none,.bslice n ps⟩ :: r) K fr H =
 OptK (fun v H'=>ADraw P r K (fr.put d v) H') .mk (stepI fr H (.bslice n ps)):=propext Iff.rfl
@[simp ↓] theorem ADraw_bsliceT {K:Fr→Hp→Prop} (d:Option Nat) (n e:Nat) (ps:List Arg) (r:List IOp):ADraw P (⟨d,none,.bsliceT n e ps⟩ :: r) K fr H =
 OptK (fun v H'=>ADraw P r K (fr.put d v) H') .mk (stepI fr H (.bsliceT n e ps)):=propext Iff.rfl
@[simp ↓] theorem ADraw_bsliceV {K:Fr→Hp→Prop} (d:Option Nat) (n e:Nat) (ps:List Arg) (r:List IOp):ADraw P (⟨d,none,.bsliceV n e ps⟩ :: r) K fr H =
 OptK (fun v H'=>ADraw P r K (fr.put d v) H') .mk (stepI fr H (.bsliceV n e ps)):=propext Iff.rfl
@[simp ↓] theorem ADraw_bsliceM {K:Fr→Hp→Prop} (d:Option Nat) (n:Nat) (ps:List Arg) (r:List IOp):ADraw P (⟨d,none,.bsliceM n ps⟩ :: r) K fr H =
 OptK (fun v H'=>ADraw P r K (fr.put d v) H') .mk (stepI fr H (.bsliceM n ps)):=propext Iff.rfl
@[simp ↓] theorem ADraw_mkSl {K:Fr→Hp→Prop} (d:Option Nat) (n m:Nat) (z:List D) (x y:Arg) (r:List IOp):ADraw P (⟨d,none,.mkSl n m z x y⟩ :: r) K fr H =
 OptK (fun v H'=>ADraw P r K (fr.put d v) H') .mk (stepI fr H (.mkSl n m z x y)):=propext Iff.rfl
@[simp ↓] theorem ADraw_eqA {K:Fr→Hp→Prop} (d:Option Nat) (b:Bool) (l:List D) (x y:Arg) (r:List IOp):ADraw P (⟨d,none,.eqA b l x y⟩ :: r) K fr H =
 OptK (fun v H'=>ADraw P r K (fr.put d v) H') .mk (stepI fr H (.eqA b l x y)):=propext Iff.rfl
@[simp ↓] theorem ADraw_appV {K:Fr→Hp→Prop} (d:Option Nat) (n m e:Nat) (x y:Arg) (r:List IOp):ADraw P (⟨d,none,.appV n m e x y⟩ :: r) K fr H =
 OptK (fun v H'=>ADraw P r K (fr.put d v) H') .mk (stepI fr H (.appV n m e x y)):=propext Iff.rfl
@[simp ↓] theorem ADraw_cutV {K:Fr→Hp→Prop} (d:Option Nat) (n:Nat) (x y:Arg) (r:List IOp):ADraw P (⟨d,none,.cutV n x y⟩ :: r) K fr H =
 OptK (fun v H'=>ADraw P r K (fr.put d v) H') .mk (stepI fr H (.cutV n x y)):=propext Iff.rfl
@[simp ↓] theorem ADraw_mkMap {K:Fr→Hp→Prop} (d:Option Nat)  (r:List IOp):ADraw P (⟨d,none,.mkMap ⟩ :: r) K fr H =
 OptK (fun v H'=>ADraw P r K (fr.put d v) H') .mk (stepI fr H (.mkMap )):=propext Iff.rfl
@[simp ↓] theorem ADraw_lkp {K:Fr→Hp→Prop} (d:Option Nat) (b:Bool) (k0:D) (g:Bool) (z:List D) (x y:Arg) (r:List IOp):ADraw P (⟨d,none,.lkp b k0 g z x y⟩ :: r) K fr H =
 OptK (fun v H'=>ADraw P r K (fr.put d v) H') .mk (stepI fr H (.lkp b k0 g z x y)):=propext Iff.rfl
@[simp ↓] theorem ADraw_mpUpd {K:Fr→Hp→Prop} (d:Option Nat) (k0:D) (x y v0:Arg) (r:List IOp):ADraw P (⟨d,none,.mpUpd k0 x y v0⟩ :: r) K fr H =
 OptK (fun v H'=>ADraw P r K (fr.put d v) H') .mk (stepI fr H (.mpUpd k0 x y v0)):=propext Iff.rfl
@[simp ↓] theorem ADraw_iaddrV {K:Fr→Hp→Prop} (d:Option Nat) (n:Nat) (x y:Arg) (r:List IOp):ADraw P (⟨d,none,.iaddrV n x y⟩ :: r) K fr H =
 OptK (fun v H'=>ADraw P r K (fr.put d v) H') .mk (stepI fr H (.iaddrV n x y)):=propext Iff.rfl
@[simp ↓] theorem ADraw_loadV {K:Fr→Hp→Prop} (d:Option Nat) (n:Nat) (g:Bool) (x:Arg) (r:List IOp):ADraw P (⟨d,none,.loadV n g x⟩ :: r) K fr H =
 OptK (fun v H'=>ADraw P r K (fr.put d v) H') .mk (stepI fr H (.loadV n g x)):=propext Iff.rfl
@[simp ↓] theorem ADraw_ext {K:Fr→Hp→Prop} (d:Option Nat) (x:Arg) (n:Nat) (r:List IOp):ADraw P (⟨d,none,.ext x n⟩ :: r) K fr H =
 OptK (fun v H'=>ADraw P r K (fr.put d v) H') .mk (stepI fr H (.ext x n)):=propext Iff.rfl
@[simp ↓] theorem ADraw_lenS {K:Fr→Hp→Prop} (d:Option Nat) (x:Arg) (r:List IOp):ADraw P (⟨d,none,.lenS x⟩ :: r) K fr H =
 OptK (fun v H'=>ADraw P r K (fr.put d v) H') .mk (stepI fr H (.lenS x)):=propext Iff.rfl
@[simp ↓] theorem ADraw_lenL {K:Fr→Hp→Prop} (d:Option Nat) (x:Arg) (r:List IOp):ADraw P (⟨d,none,.lenL x⟩ :: r) K fr H =
 OptK (fun v H'=>ADraw P r K (fr.put d v) H') .mk (stepI fr H (.lenL x)):=propext Iff.rfl
@[simp ↓] theorem ADraw_mm {K:Fr→Hp→Prop} (d:Option Nat) (b:Bool) (x y:Arg) (r:List IOp):ADraw P (⟨d,none,.mm b x y⟩ :: r) K fr H =
 OptK (fun v H'=>ADraw P r K (fr.put d v) H') .mk (stepI fr H (.mm b x y)):=propext Iff.rfl
@[simp ↓] theorem ADraw_app {K:Fr→Hp→Prop} (d:Option Nat) (n m e:Nat) (x y:Arg) (r:List IOp):ADraw P (⟨d,none,.app n m e x y⟩ :: r) K fr H =
 OptK (fun v H'=>ADraw P r K (fr.put d v) H') .mk (stepI fr H (.app n m e x y)):=propext Iff.rfl
@[simp ↓] theorem ADraw_appS {K:Fr→Hp→Prop} (d:Option Nat) (e:Nat) (x y:Arg) (r:List IOp):ADraw P (⟨d,none,.appS e x y⟩ :: r) K fr H =
 OptK (fun v H'=>ADraw P r K (fr.put d v) H') .mk (stepI fr H (.appS e x y)):=propext Iff.rfl
@[simp ↓] theorem ADraw_mkfn {K:Fr→Hp→Prop} (d:Option Nat) (f:Fn) (a b:List Arg) (r:List IOp):ADraw P (⟨d,none,.mkfn f a b⟩ :: r) K fr H =
 OptK (fun v H'=>ADraw P r K (fr.put d v) H') .mk (stepI fr H (.mkfn f a b)):=propext Iff.rfl
@[simp] theorem GdK_yes {b:Bool} {T F:Fr→Prop} {t:Tag T} {u:Tag F} {s:Nat}:GdK T F t u fr b s (.d (.bool b))=T fr:=by simp [GdK,AGd]
@[simp] theorem GdK_no1 {T F:Fr→Prop} {t:Tag T} {u:Tag F} {s:Nat}:GdK T F t u fr true s (.d (.bool false))=F fr:=by simp [GdK,AGd]
@[simp] theorem GdK_no2 {T F:Fr→Prop} {t:Tag T} {u:Tag F} {s:Nat}:GdK T F t u fr false s (.d (.bool true))=F fr:=by simp [GdK,AGd]
@[simp] theorem GdK_tup {b:Bool} {T F:Fr→Prop} {t:Tag T} {u:Tag F} {s:Nat}:GdK T F t u fr b s (.tup [])=F fr:=by simp [GdK,AGd]
@[simp] theorem BrK_true {T F:Prop} {t:Tag T} {u:Tag F}:BrK T F t u (.d (.bool true))=T:=by simp [BrK,ABr]
@[simp] theorem BrK_false {T F:Prop} {t:Tag T} {u:Tag F}:BrK T F t u (.d (.bool false))=F:=by simp [BrK,ABr]
@[simp] theorem ValK_d {Q:A→Hp→Prop} {t:Tag Q} {l:List A} {f:FuncId}:ValK Q t P l H (.d (.fn f))=(callOk P f=true∧CallK Q .mk P f l H):=propext Iff.rfl
@[simp] theorem ValK_fn {Q:A→Hp→Prop} {t:Tag Q} {l a c:List A} {f:FuncId}:ValK Q t P l H (.fn (.func f) a c)=(callOk P f=true∧CallK Q .mk P f (a++l++c) H):=propext Iff.rfl
@[simp] theorem ValD_d {Q:A→Hp→Prop} {t:Tag Q} {l:List A} {f:FuncId}:ValD Q t P l H (.d (.fn f))=(callOk P f=true∧CallD Q .mk P f l H):=propext Iff.rfl
@[simp] theorem ValD_fn {Q:A→Hp→Prop} {t:Tag Q} {l a c:List A} {f:FuncId}:ValD Q t P l H (.fn (.func f) a c)=(callOk P f=true∧CallD Q .mk P f (a++l++c) H):=propext Iff.rfl
theorem Fr.set_self (fr:Fr) (s:Nat):fr.set s (fr s)=fr:=by
 funext t; simp only [Fr.set]; split
 · rename_i h; rw [h]
 · rfl
theorem GdK_split {c b:Bool} {T F:Fr→Prop} {t:Tag T} {u:Tag F} {s:Nat} (hs:fr s = .d (.bool c)) (hT:c=b→T (fr.set s (.d (.bool b)))) (hF:c=(!b)→F (fr.set s (.d (.bool (!b))))):GdK T F t u fr b s (.d (.bool c)):=by
 simp only [GdK,AGd]
 split
 · rename_i h; subst h; have:=hT rfl; rwa [← hs,Fr.set_self] at this
 · rename_i h
   have hc:c = !b:=by cases c<;>cases b<;>simp_all
   have:=hF hc
   rw [← hc,← hs,Fr.set_self] at this; exact this
theorem BrK_split {c:Bool} {T F:Prop} {t:Tag T} {u:Tag F} (hT:c=true→T) (hF:c=false→F):BrK T F t u (.d (.bool c)):=by
 simp only [BrK,ABr]
 cases c with
 | true=>simp only [if_true]; exact hT rfl
 | false=>simp only [Bool.false_eq_true,if_false]; exact hF rfl
theorem CallK_of {Q R:A→Hp→Prop} {t:Tag Q} {f:FuncId} {l:List A} (h:ACall P f l H R) (hq:∀ x H',R x H'→Q x H'):CallK Q t P f l H:=h.mono hq
theorem CallD_of {Q:A→Hp→Prop} {t:Tag Q} {f:FuncId} {l:List A} {v:A} (h:ACall P f l H (fun x H'=>x=v∧H'=H)) (hq:Q v H):CallD Q t P f l H:=⟨v,h,hq⟩
theorem CallK_of' {Q:A→Hp→Prop} {t:Tag Q} {f:FuncId} {l:List A} {v:A} {H1:Hp} (h:ACall P f l H (fun x H'=>x=v∧H'=H1)) (hq:Q v H1):CallK Q t P f l H:=h.mono fun _ _ ⟨hx,hh⟩=>by rw [hx,hh]; exact hq
theorem LoopK_of {c:C} {t:Tag (Q,c)} (m:Nat) (J:Fr→Hp→Prop) (μ:Fr→Hp→Nat) (h1:n0≤m∧m≤H.length) (h2:J (fr.clr m) (Hp.cut m H))
 (h3:∀ fr H,J fr H→AWp P n0 c (Ex.then (Again m J μ (μ fr H)) Q) fr H):LoopK Q c t P n0 fr H:=⟨m,J,μ,h1.1,h1.2,h2,h3⟩
theorem AgainK_of {J:Fr→Hp→Prop} {μ:Fr→Hp→Nat} {t:Tag (J,μ)} {m n:Nat} (h1:m≤H.length) (h2:J (fr.clr m) (Hp.cut m H)) (h3 : μ (fr.clr m) (Hp.cut m H) < n):AgainK J μ t m n fr H:=⟨m,Nat.le_refl _,h1,h2,h3⟩
theorem AgainK_ofk {J:Fr→Hp→Prop} {μ:Fr→Hp→Nat} {t:Tag (J,μ)} {m n:Nat} (k:Nat) (hk:m≤k) (h1:k≤H.length) (h2:J (fr.clr k) (Hp.cut k H)) (h3 : μ (fr.clr k) (Hp.cut k H) < n):AgainK J μ t m n fr H:=⟨k,hk,h1,h2,h3⟩
theorem Ret_of {rs:List Res} {K:A→Hp→Prop} (e:Ex) (he:(match e with | .exit _=>False | _=>True)) (h:RetK K .mk n0 (resA fr H rs) H):Ret rs n0 K e fr H:=by
 unfold RetK at h
 split at h
 · rename_i x hx
   cases e with
   | exit i=>exact he.elim
   | normal=>exact ⟨x,n0,hx,Nat.le_refl _,h.1,h.2⟩
   | ret=>exact ⟨x,n0,hx,Nat.le_refl _,h.1,h.2⟩
 · exact h.elim
end
def Fin (rs:List Res) (n0:Nat) (K:A→Hp→Prop):Ex→Fr→Hp→Prop
 | .exit _,_,_=>False
 | _,fr,H=>RetK K .mk n0 (resA fr H rs) H
@[simp ↓] theorem Fin_ret {rs:List Res} {n0:Nat} {K:A→Hp→Prop} {fr:Fr} {H:Hp}:Fin rs n0 K .ret fr H=RetK K .mk n0 (resA fr H rs) H:=propext Iff.rfl
@[simp ↓] theorem Fin_normal {rs:List Res} {n0:Nat} {K:A→Hp→Prop} {fr:Fr} {H:Hp}:Fin rs n0 K .normal fr H=RetK K .mk n0 (resA fr H rs) H:=propext Iff.rfl
theorem runI.mono {P:Program} {fr:Fr} {H:Hp} {i:I} {K K':A→Hp→Prop} (h:runI P fr H i K) (hk:∀ v H',K v H'→K' v H'):runI P fr H i K':=by
 cases i with
 | call f l=>exact ACall.mono h hk
 | callE f l=>exact ACall.mono h hk
 | callv f l =>
   simp only [runI] at h ⊢
   split at h
   · exact ⟨h.1,h.2.mono hk⟩
   · exact ⟨h.1,h.2.mono hk⟩
   · exact h.elim
 | _ =>
   simp only [runI] at h ⊢
   split at h
   · exact hk _ _ h
   · exact h.elim
theorem runD.mono {P:Program} {fr:Fr} {H:Hp} {i:I} {K K':A→Hp→Prop} (h:runD P fr H i K) (hk:∀ v H',K v H'→K' v H'):runD P fr H i K':=by
 cases i with
 | call f l=>obtain ⟨v,h1,h2⟩:=h; exact ⟨v,h1,hk _ _ h2⟩
 | callE f l=>obtain ⟨v,H1,h1,h2⟩:=h; exact ⟨v,H1,h1,hk _ _ h2⟩
 | callv f l =>
   simp only [runD] at h ⊢
   split at h
   · obtain ⟨h0,v,h1,h2⟩:=h; exact ⟨h0,v,h1,hk _ _ h2⟩
   · obtain ⟨h0,v,h1,h2⟩:=h; exact ⟨h0,v,h1,hk _ _ h2⟩
   · exact h.elim
 | _ =>
   simp only [runD] at h ⊢
   split at h
   · exact hk _ _ h
   · exact h.elim
theorem AGd.mono {x:A} {fr:Fr} {b:Bool} {T F T' F':Fr→Prop} (h:AGd x fr b T F) (ht:T fr→T' fr) (hf:F fr→F' fr):AGd x fr b T' F':=by
 unfold AGd at h ⊢
 split at h
 · split at h
   · rename_i e; simp only [e,if_true]; exact ht h
   · rename_i e; simp only [e,if_false]; exact hf h
 · exact hf h
 · exact h.elim
theorem AOps.mono {P:Program} {K K':Fr→Hp→Prop} (hk:∀ fr H,K fr H→K' fr H):∀ (l:List IOp) (fr:Fr) (H:Hp),AOps P l K fr H→AOps P l K' fr H
 | [],fr,H,h=>hk _ _ h
 | ⟨d,none,i⟩ :: r,fr,H,h=>runI.mono (h:runI P fr H i _) fun _ _ h=>AOps.mono hk r _ _ h
 | ⟨d,some (s,b),i⟩ :: r,fr,H,h=>by
  simp only [AOps] at h ⊢; exact AGd.mono h (fun h=>runI.mono h fun _ _ h=>AOps.mono hk r _ _ h) (fun h=>AOps.mono hk r _ _ h)
theorem ADraw.mono {P:Program} {K K':Fr→Hp→Prop} (hk:∀ fr H,K fr H→K' fr H):∀ (l:List IOp) (fr:Fr) (H:Hp),ADraw P l K fr H→ADraw P l K' fr H
 | [],fr,H,h=>hk _ _ h
 | ⟨d,none,i⟩ :: r,fr,H,h=>runD.mono (h:runD P fr H i _) fun _ _ h=>ADraw.mono hk r _ _ h
 | ⟨d,some (s,b),i⟩ :: r,fr,H,h=>by
  simp only [ADraw] at h ⊢; exact AGd.mono h (fun h=>runD.mono h fun _ _ h=>ADraw.mono hk r _ _ h) (fun h=>ADraw.mono hk r _ _ h)
theorem AWp.mono {P:Program} {n0:Nat}:∀ (c:C) {Q Q':Ex→Fr→Hp→Prop} (_:∀ e fr H,Q e fr H→Q' e fr H) (fr:Fr) (H:Hp),AWp P n0 c Q fr H→AWp P n0 c Q' fr H
 | .skip,_,_,hq,fr,H,h=>hq _ _ _ h
 | .ops l false,_,_,hq,fr,H,h=>AOps.mono (hq _) l fr H h
 | .ops l true,_,_,hq,fr,H,h=>ADraw.mono (hq _) l fr H h
 | .both a b,_,_,hq,fr,H,h=>⟨AWp.mono a hq fr H h.1,AWp.mono b hq fr H h.2⟩
 | .seq a b,Q,Q',hq,fr,H,h=>AWp.mono a (fun e fr H h=>by
  cases e with
  | normal=>exact AWp.mono b hq fr H h
  | exit i=>exact hq _ _ _ h
  | ret=>exact hq _ _ _ h) fr H h
 | .cond c a b,Q,Q',hq,fr,H,h=>by
  simp only [AWp,ABr] at h ⊢
  split at h
  · split at h
    · rename_i e; simp only [e,if_true]; exact AWp.mono a hq fr H h
    · rename_i e; simp only [e]; exact AWp.mono b hq fr H h
  · exact h.elim
 | .blk i c,Q,Q',hq,fr,H,h=>AWp.mono c (fun e fr H h=>by
  cases e with
  | normal=>exact hq _ _ _ h
  | exit j =>
    simp only [Ex.blk] at h ⊢
    split at h
    · rename_i e; simp only [e,if_true]; exact hq _ _ _ h
    · rename_i e; simp only [e,if_false]; exact hq _ _ _ h
  | ret=>exact hq _ _ _ h) fr H h
 | .loop c,Q,Q',hq,fr,H,⟨m,J,μ,h1,h2,h3,h4⟩=>⟨m,J,μ,h1,h2,h3,fun fr H hj=>AWp.mono c (fun e fr H h=>by
  cases e with
  | normal=>exact h
  | exit j=>exact hq _ _ _ h
  | ret=>exact hq _ _ _ h) fr H (h4 fr H hj)⟩
 | .exit i,_,_,hq,fr,H,h=>hq _ _ _ h
 | .ret,_,_,hq,fr,H,h=>hq _ _ _ h
 | .bad,_,_,_,_,_,h=>h.elim
 | .any _ _,_,_,hq,_,_,⟨Inv,h1,h2⟩=>⟨Inv,h1,fun S fr H hs hi=>⟨fun e=>hq _ _ _ ((h2 S fr H hs hi).1 e),(h2 S fr H hs hi).2⟩⟩
theorem acall_fin {P:Program} {f:FuncId} {fn:Func} {tok:List Nat} {ifn:IFn} {args:List A} {H:Hp} {K:A→Hp→Prop} (hf:P.funcs[f]?=some fn) (hc:compF P tok fn=some ifn) (hn:args.length≤ifn.nt)
 (h:H.Closed→(∀ a ∈ args,a.flat0=true→a.lo H.length=true)→AWp P H.length ifn.body (Fin ifn.res H.length K) (Fr.init args) H):ACall P f args H K :=
 acall_of hf hc hn fun h1 h2=>AWp.mono _ (fun e fr H h=>Ret_of e (by cases e<;>first | trivial | exact h.elim) (by cases e<;>first | exact h | exact h.elim)) _ _ (h h1 h2)
@[simp] theorem Fr.put_some (fr:Fr) (d:Nat) (v:A):fr.put (some d) v=fr.set d v:=rfl
@[simp] theorem Fr.put_none (fr:Fr) (v:A):fr.put none v=fr:=rfl
@[simp ↓] theorem Fr.set_app (fr:Fr) (d:Nat) (v:A) (s:Nat):Fr.set fr d v s=if s=d then v else fr s:=rfl
@[simp ↓] theorem Fr.put_app (fr:Fr) (d:Nat) (v:A) (s:Nat):Fr.put fr (some d) v s=if s=d then v else fr s:=rfl
@[simp ↓] theorem Fr.clr_app (fr:Fr) (m s:Nat):Fr.clr m fr s=(fr s).clr m:=rfl
@[simp] theorem Fr.init_nil (s:Nat):Fr.init [] s = .tup []:=rfl
@[simp] theorem Fr.init_zero (a:A) (l:List A):Fr.init (a :: l) 0=a:=rfl
@[simp] theorem Fr.init_succ (a:A) (l:List A) (s:Nat):Fr.init (a :: l) (s+1)=Fr.init l s:=rfl
@[simp ↓] theorem ev_t (fr:Fr) (s:Nat):Arg.ev fr (.t s)=fr s:=rfl
@[simp ↓] theorem ev_c (fr:Fr) (d:D):Arg.ev fr (.c d) = .d d:=rfl
theorem getElem?_app0 {α:Type} (H l:List α):(H++l)[H.length]?=l[0]?:=by
 rw [List.getElem?_append_right (Nat.le_refl _),Nat.sub_self]
theorem getElem?_appk {α:Type} (H l:List α) (k:Nat):(H++l)[H.length+k]?=l[k]?:=by
 rw [List.getElem?_append_right (Nat.le_add_right _ _),Nat.add_sub_cancel_left]
theorem set_app0 {α:Type} (H l:List α) (x : α):(H++l).set H.length x=H++l.set 0 x:=by
 rw [List.set_append_right _ _ (Nat.le_refl _),Nat.sub_self]
theorem set_appk {α:Type} (H l:List α) (k:Nat) (x : α):(H++l).set (H.length+k) x=H++l.set k x:=by
 rw [List.set_append_right _ _ (Nat.le_add_right _ _),Nat.add_sub_cancel_left]
theorem cut_self {H:Hp} (h:H.Closed):Hp.cut H.length H=H:=by
 rw [Hp.cut,List.take_length,h _ (Nat.le_refl _)]
theorem cut_app {H:Hp} (h:H.Closed) (l:Hp):Hp.cut H.length (H++l)=H:=by
 rw [Hp.cut,List.take_left',h _ (Nat.le_refl _)]; rfl
theorem cut_appk {H:Hp} (h:H.Closed) (k:Nat) (l:Hp):Hp.cut (H.length+k) (H++l)=H++(l.take k).map (Ob.clr (H.length+k)):=by
 rw [Hp.cut,List.take_length_add_append,List.map_append,h _ (Nat.le_add_right _ _)]
theorem rowAt_mid {α:Type} (f : α→List D) (pre r:List α) (e : α):Zam.rowAt ((pre++e :: r).map f) pre.length=some (f e):=by
 simp [Zam.rowAt]
attribute [simp] tokA byteRow appVA ldV iaddrV mpGet mpPut mpOk keyOf sameK zA stepI binA intOp strOp beqA isNilS isNilP unA A.cells cutL setL ldA stA nilCheckA faddrA iaddrA boundOf sliceA lenA mmA A.toD fillA rowOf slOf A.clr A.clr1 A.clr0 A.flat A.flat0 resA resA1 Ob.clr
attribute [simp] getElem?_app0 getElem?_appk set_app0 set_appk rowAt_mid
theorem wrap_i64 {n:Int} (h1 : -9223372036854775808≤n) (h2:n≤9223372036854775807):IntKind.i64.wrap n=n:=by
 simp only [IntKind.wrap,IntKind.bits,IntKind.signed,Bool.true_and,ge_iff_le,decide_eq_true_eq]
 split<;>omega
theorem wrap_u64 {n:Int} (h1:0≤n) (h2:n≤18446744073709551615):IntKind.u64.wrap n=n:=by
 simp only [IntKind.wrap,IntKind.bits,IntKind.signed,Bool.false_and,Bool.false_eq_true,if_false]
 omega
end
section
def lays (P:Program):List Field→Nat→Nat→Bool
 | [],off,tot=>off == tot
 | f :: r,off,tot=>f.offset == off && lays P r (off+P.cellsOf f.type) tot
def plainT (P:Program) (ts:List TypeId):Bool:=ts.all fun t =>
 match P.underlying t with
 | some .bool | some (.int _) | some .string=>true
 | some (.slice e)=>ts.contains e && decide (0 < P.cellsOf e)
 | some (.struct fs)=>fs.toList.all (fun f=>ts.contains f.type) && lays P fs.toList 0 (P.cellsOf t)
 | _=>false
def TypedFs (T:TypeId→List D→Prop):List Field→List D→Prop
 | [],ds=>ds=[]
 | f :: r,ds=>∃ a b,ds=a++b∧T f.type a∧TypedFs T r b
def Typed (P:Program):Nat→TypeId→List D→Prop
 | 0,_,_=>False
 | n + 1, t, ds =>
   match P.underlying t with
   | some .bool=>∃ b,ds=[.bool b]
   | some (.int k)=>∃ x,ds=[.int k x]∧(Lit.int k x).wf=true
   | some .string=>∃ s,ds=[.str s]
   | some (.slice e)=>∃ z rows,ds=[.sl z (P.cellsOf e) rows]∧∀ r ∈ rows,Typed P n e r
   | some (.struct fs)=>TypedFs (Typed P n) fs.toList ds
   | _=>False
mutual
def D.bulk:D→Nat
 | .str s=>s.length+1
 | .sl _ _ rows=>D.bulkR rows+1
 | _=>1
def D.bulkR:List (List D)→Nat
 | []=>0
 | r :: rs=>D.bulkC r+D.bulkR rs
def D.bulkC:List D→Nat
 | []=>0
 | d :: ds=>D.bulk d+D.bulkC ds
end
theorem D.bulkC_append (a b:List D):D.bulkC (a++b)=D.bulkC a+D.bulkC b:=by
 induction a with
 | nil=>simp [D.bulkC]
 | cons x r ih=>simp only [List.cons_append,D.bulkC,ih]; omega
structure IsBulk {X:Type} (f:DataW X→Nat) (fs:List (DataW X)→Nat):Prop where
 str:∀ b,b.length+1≤f (.lit (.string b))
 bool:∀ b,1≤f (.lit (.bool b))
 int:∀ k n,1≤f (.lit (.int k n))
 nil:1≤f .nil
 slice:∀ e s,fs e+1≤f (.slice e s)
 agg:∀ p,fs p≤f (.agg p)
 cons:∀ d r,f d+fs r≤fs (d :: r)
def wst (w:World):St:=fun b o=>w.cell? ⟨b,o,none⟩
section
variable {X:Type} {enc:TypeId × Value→X} {P:Program} {w:World} {base:Nat} {spare:Nat→Bool} {held:Bool}
theorem fields_read {ts:List TypeId} {f:DataW X→Nat} {fs:List (DataW X)→Nat} (B:IsBulk f fs) {n:Nat}
 (ih:∀ (t:TypeId) (cs:List Value) (x:DataW X × List MemPlace),DataW.trod enc P w base spare held n t cs=some x→t ∈ ts →
  ∃ ds:List D,ds.length=cs.length∧Typed P n t ds∧D.bulkC ds≤f x.1∧∀ (i:Nat) (v:Value) (d:D),cs[i]?=some v→ds[i]?=some d→DR (wst w) v d) (cs:List Value) :
 ∀ (l : List Field) (off : Nat) (xs : List (DataW X × List MemPlace)), lays P l off cs.length = true → (∀ g ∈ l, g.type ∈ ts) → xs.length = l.length →
   (∀ (i:Nat) (g:Field),l[i]?=some g→DataW.trod enc P w base spare held n g.type ((cs.drop g.offset).take (P.cellsOf g.type))=xs[i]?)→off≤cs.length →
   ∃ ds:List D,ds.length+off=cs.length∧TypedFs (Typed P n) l ds∧D.bulkC ds≤fs (xs.map (·.1))∧∀ (i:Nat) (v:Value) (d:D),cs[off+i]?=some v→ds[i]?=some d→DR (wst w) v d
 | [], off, xs, hl, _, hx, _, _ => by
   simp only [lays,beq_iff_eq] at hl
   refine ⟨[],by simp [hl],rfl,by simp [D.bulkC],by simp⟩
 | g :: r, off, xs, hl, hm, hx, hr, hoff => by
   simp only [lays,Bool.and_eq_true,beq_iff_eq] at hl
   obtain ⟨h1,h2⟩:=hl
   cases xs with
   | nil=>simp at hx
   | cons x xs =>
   have h0:=hr 0 g rfl
   simp only [List.getElem?_cons_zero] at h0
   obtain ⟨a,ha1,ha2,ha3,ha4⟩:=ih _ _ _ h0 (hm g (by simp))
   have hle:off+P.cellsOf g.type≤cs.length:=by
    have:∀ (l:List Field) (o tot:Nat),lays P l o tot=true→o≤tot:=by
     intro l
     induction l with
     | nil=>intro o tot h; simp [lays] at h; omega
     | cons y l ih=>intro o tot h; simp [lays] at h; have:=ih _ _ h.2; omega
    exact this _ _ _ h2
   have hal:a.length=P.cellsOf g.type:=by rw [ha1,h1]; simp; omega
   obtain ⟨b,hb1,hb2,hb3,hb4⟩:=fields_read B ih cs r (off+P.cellsOf g.type) xs h2 (fun g' hg=>hm g' (by simp [hg])) (by simpa using hx) (fun i g' hi=>by have:=hr (i+1) g' (by simpa using hi); simpa using this) hle
   refine ⟨a++b,by simp; omega,⟨a,b,rfl,ha2,hb2⟩,?_,fun i v d hv hd => ?_⟩
   · rw [D.bulkC_append]
     have:=B.cons x.1 (xs.map (·.1))
     simp only [List.map_cons]
     omega
   · by_cases hi:i < a.length
     · rw [List.getElem?_append_left hi] at hd
       refine ha4 i v d ?_ hd
       rw [h1,List.getElem?_take,List.getElem?_drop,if_pos (by omega)]
       exact hv
     · rw [List.getElem?_append_right (by omega)] at hd
       refine hb4 (i - a.length) v d ?_ hd
       rw [show off+P.cellsOf g.type+(i - a.length)=off+i by omega]
       exact hv
theorem rows_read {f:DataW X→Nat} {fs:List (DataW X)→Nat} (B:IsBulk f fs):∀ (rows:List (List D)) (l:List (DataW X)),rows.length=l.length→(∀ (i:Nat) (r:List D) (d:DataW X),rows[i]?=some r→l[i]?=some d→D.bulkC r≤f d)→D.bulkR rows≤fs l
 | [],l,_,_=>by simp [D.bulkR]
 | r :: rows,[],h,_=>by simp at h
 | r :: rows, d :: l, h, hi => by
   have h1:=hi 0 r d rfl rfl
   have h2:=rows_read B rows l (by simpa using h) (fun i r' d' hr hd=>hi (i+1) r' d' (by simpa using hr) (by simpa using hd))
   have h3:=B.cons d l
   simp only [D.bulkR]
   omega
theorem trod_read {ts:List TypeId} (hp:plainT P ts=true) {f:DataW X→Nat} {fs:List (DataW X)→Nat} (B:IsBulk f fs):∀ (n:Nat) (t:TypeId) (cs:List Value) (x:DataW X × List MemPlace),
 DataW.trod enc P w base spare held n t cs=some x→t ∈ ts →
  ∃ ds:List D,ds.length=cs.length∧Typed P n t ds∧D.bulkC ds≤f x.1∧∀ (i:Nat) (v:Value) (d:D),cs[i]?=some v→ds[i]?=some d→DR (wst w) v d
 | 0,t,cs,x,h,_=>by simp [DataW.trod] at h
 | n + 1, t, cs, x, h, ht => by
   have hpt:=List.all_eq_true.1 hp t ht
   have one:∀ (v:Value) (d:D),DR (wst w) v d→∀ (i:Nat) (v':Value) (d':D),[v][i]?=some v'→[d][i]?=some d'→DR (wst w) v' d':=fun v d hd i v' d' h1 h2=>by
    cases i with
    | zero=>simp at h1 h2; subst h1; subst h2; exact hd
    | succ i=>simp at h1
   split at hpt
   · rename_i hu
     obtain ⟨b,rfl,rfl⟩:=DataW.trod_bool hu h
     exact ⟨[.bool b],rfl,by simp [Typed,hu],by have:=B.bool b; simpa [D.bulkC,D.bulk] using this,one _ _ (.bool b)⟩
   · rename_i k hu
     obtain ⟨m,rfl,rfl,hw⟩:=DataW.trod_int hu h
     exact ⟨[.int k m],rfl,by simp [Typed,hu,hw],by have:=B.int k m; simpa [D.bulkC,D.bulk] using this,one _ _ (.int k m)⟩
   · rename_i hu
     obtain ⟨s,rfl,rfl,hw⟩:=DataW.trod_string hu h
     exact ⟨[.str s.data.toList],rfl,by simp [Typed,hu],by have:=B.str s.data.toList; simpa [D.bulkC,D.bulk] using this,one _ _ (.str s)⟩
   · rename_i e hu
     simp only [Bool.and_eq_true,List.contains_iff_mem,decide_eq_true_eq] at hpt
     obtain ⟨he,hpos⟩:=hpt
     rcases DataW.trod_slice hu h with ⟨rfl,rfl⟩ | ⟨a,len,cap,elems,rest,n',hn,rfl,rfl,hb,hlc,hcm,hel,hread,-,-⟩
     · exact ⟨[.sl true (P.cellsOf e) []],rfl,by simp [Typed,hu],by have:=B.nil; simpa [D.bulkC,D.bulk,D.bulkR] using this,one _ _ (.nilsl _)⟩
     · cases hn
       have each:∀ i,i < len→∃ (r:List D) (cs':List Value) (y:DataW X × List MemPlace),elems[i]?=some y∧w.cells? base (a.add (i * P.cellsOf e)) (P.cellsOf e)=some cs'∧r.length=cs'.length∧Typed P n e r∧D.bulkC r≤f y.1 ∧
        ∀ (j:Nat) (v:Value) (d:D),cs'[j]?=some v→r[j]?=some d→DR (wst w) v d:=fun i hi=>by
        have h1:=hread i hi
        have h2:elems[i]?=some (elems[i]'(by omega)):=List.getElem?_eq_getElem (by omega)
        rw [h2] at h1
        obtain ⟨cs',h3,h4⟩:=Option.bind_eq_some_iff.1 h1
        obtain ⟨r,r1,r2,r3,r4⟩:=trod_read hp B n e cs' _ h4 he
        exact ⟨r,cs',_,h2,h3,r1,r2,r3,r4⟩
       have each':∀ i:Nat,∃ (r:List D),i < len→∃ (cs':List Value) (y:DataW X × List MemPlace),elems[i]?=some y∧w.cells? base (a.add (i * P.cellsOf e)) (P.cellsOf e)=some cs'∧r.length=cs'.length∧Typed P n e r∧D.bulkC r≤f y.1 ∧
        ∀ (j:Nat) (v:Value) (d:D),cs'[j]?=some v→r[j]?=some d→DR (wst w) v d:=fun i=>by
        by_cases hi:i < len
        · obtain ⟨r,h⟩:=each i hi; exact ⟨r,fun _=>h⟩
        · exact ⟨[],fun h=>absurd h hi⟩
       obtain ⟨R,hR⟩:=Classical.axiomOfChoice each'
       have hrows:∀ (i:Nat) (r:List D),((List.range len).map R)[i]?=some r→i < len∧r=R i:=fun i r hr=>by
        simp only [List.getElem?_map,Option.map_eq_some_iff] at hr
        obtain ⟨k,hk,rfl⟩:=hr
        obtain ⟨hk1,hk2⟩:=List.getElem?_eq_some_iff.1 hk
        simp at hk1 hk2
        subst hk2
        exact ⟨hk1,rfl⟩
       refine ⟨[.sl (decide (len ≠ 0)) (P.cellsOf e) ((List.range len).map R)],rfl,?_,?_,?_⟩
       · simp only [Typed,hu]
         refine ⟨_,_,rfl,fun r hr => ?_⟩
         obtain ⟨i,hi,rfl⟩:=List.mem_map.1 hr
         obtain ⟨cs',y,-,-,-,h5,-⟩:=hR i (by simpa using hi)
         exact h5
       · have h1:=rows_read B ((List.range len).map R) (elems.map (·.1)) (by simp [hel]) (fun i r d hr hd=>by
          obtain ⟨hi,rfl⟩:=hrows i r hr
          obtain ⟨cs',y,h3,-,-,-,h6,-⟩:=hR i hi
          simp only [List.getElem?_map,h3,Option.map_some,Option.some.injEq] at hd
          subst hd; exact h6)
         have h2:=B.slice (elems.map (·.1)) (rest.map (·.1))
         simp only [D.bulkC,D.bulk]
         omega
       · refine one _ _ ?_
         cases len with
         | zero=>exact .emp _ _ _
         | succ m =>
           have hcell:∀ (i j:Nat) (r:List D) (d:D),((List.range (m+1)).map R)[i]?=some r→r[j]?=some d→r.length=P.cellsOf e∧∃ v,w.cell? ((a.add (i * P.cellsOf e)).add j)=some v∧DR (wst w) v d:=fun i j r d hr hd=>by
            obtain ⟨hi,rfl⟩:=hrows i r hr
            obtain ⟨cs',y,-,h3,h4,-,-,h7⟩:=hR i hi
            obtain ⟨-,hcl,hat⟩:=World.cells?_some h3
            have hj:j < (R i).length:=(List.getElem?_eq_some_iff.1 hd).1
            have hv:cs'[j]?=some (cs'[j]'(by omega)):=List.getElem?_eq_getElem (by omega)
            exact ⟨by omega,_,(hat j (by omega)).trans hv,h7 j _ d hv hd⟩
           obtain ⟨b,o,s⟩:=a
           have hs:s=none:=by
            obtain ⟨cs',y,-,h3,h4,-⟩:=hR 0 (by omega)
            obtain ⟨-,hcl,hat⟩:=World.cells?_some h3
            have hv:cs'[0]?=some (cs'[0]'(by omega)):=List.getElem?_eq_getElem (by omega)
            have:=(hat 0 hpos).trans hv
            rw [show ((⟨b,o,s⟩:Addr).add (0 * P.cellsOf e)).add 0=⟨b,o,s⟩ by simp [Addr.add]] at this
            unfold World.cell? at this
            split at this
            · split at this
              · cases this
              · rename_i hns
                cases s with
                | none=>rfl
                | some q=>exact absurd rfl hns
            · cases this
           subst hs
           have hval:∀ (i j:Nat),∃ v:Value,∀ (r:List D) (d:D),((List.range (m+1)).map R)[i]?=some r→r[j]?=some d→wst w b (o+i * P.cellsOf e+j)=some v∧DR (wst w) v d:=fun i j=>by
            by_cases hx:∃ (r:List D) (d:D),((List.range (m+1)).map R)[i]?=some r∧r[j]?=some d
            · obtain ⟨r,d,hr,hd⟩:=hx
              obtain ⟨-,v,hv1,hv2⟩:=hcell i j r d hr hd
              refine ⟨v,fun r' d' hr' hd' => ?_⟩
              rw [hr] at hr'; cases hr'
              rw [hd] at hd'; cases hd'
              rw [add_mk,add_mk] at hv1
              exact ⟨hv1,hv2⟩
            · exact ⟨.tuple #[],fun r d hr hd=>absurd ⟨r,d,hr,hd⟩ hx⟩
           obtain ⟨F,hF⟩:=Classical.axiomOfChoice fun i=>Classical.axiomOfChoice (hval i)
           have:=DR.sl (σ:=wst w) (decide (m+1 ≠ 0)) (P.cellsOf e) ((List.range (m+1)).map R) b o cap F (fun _ hh=>by simp at hh) (by simpa using hlc) (fun i r hr=>by
            obtain ⟨hi,rfl⟩:=hrows i r hr
            obtain ⟨cs',y,-,h3,h4,-⟩:=hR i hi
            obtain ⟨-,hcl,-⟩:=World.cells?_some h3
            omega) (fun i j r d hr hd=>(hF i j r d hr hd).1) (fun i j r d hr hd=>(hF i j r d hr hd).2)
           simpa using this
   · rename_i gs hu
     simp only [Bool.and_eq_true,List.all_eq_true,List.contains_iff_mem] at hpt
     obtain ⟨hm,hl⟩:=hpt
     obtain ⟨xs,n',hn,rfl,hcl,hxl,hr⟩:=DataW.trod_struct hu h
     cases hn
     rw [← hcl] at hl
     obtain ⟨ds,d1,d2,d3,d4⟩:=fields_read B (fun t cs x h ht=>trod_read hp B n t cs x h ht) cs gs.toList 0 xs hl (fun g hg=>hm g hg) (by simpa using hxl) (fun i g hi=>hr i g (by simpa using hi)) (Nat.zero_le _)
     refine ⟨ds,by omega,by simp only [Typed,hu]; exact d2,Nat.le_trans d3 (B.agg _),fun i v d hv hd=>d4 i v d (by simpa using hv) hd⟩
   · cases hpt
end
end
section
open Go.RowKit Go.ChangeShapes Go.WideShapes
section
variable {X:Type} {enc:TypeId × Value→X} {P:Program} {W W':World}
theorem stays {sp:Nat→Bool} (hl:laidOutB P=true) (hb:Below W.heap.size W W'):∀ {ts:List TypeId} {vs:List Value} {ds:List (DataW X)} {ps:List MemPlace},
 (∀ t ∈ ts,P.readableRec t=true∧t < P.types.size)→DataW.TrodAll enc P W 0 (fun _=>true) true ts vs ds ps→(∀ x ∈ ps,x.block < W.heap.size)→(∀ x ∈ ps,sp x.block=true) →
  DataW.TrodAll enc P W' 0 sp true ts vs ds ps
 | [],[],[],_,_,h,_,_=>h
 | _ :: _, _ :: _, _ :: _, _, ht, ⟨p, q, h1, h2, e⟩, hlt, hs =>
   ⟨p,q,WideElems.Trod_stays hl (ht _ (by simp)).1 (ht _ (by simp)).2 h1 (fun x hx=>hb.same (hlt x (by rw [e]; exact List.mem_append_left _ hx))) (fun x hx=>hs x (by rw [e]; exact List.mem_append_left _ hx)),
    stays hl hb (fun t h=>ht t (by simp [h])) h2 (fun x hx=>hlt x (by rw [e]; exact List.mem_append_right _ hx)) (fun x hx=>hs x (by rw [e]; exact List.mem_append_right _ hx)),e⟩
theorem post_law {f:Func} {s:ChangeSpec} {apart fresh handsOn again:Bool} {args:Array Value} {ds gs:List (DataW X)} {before:List MemPlace} {bt:TypeId} (hl:laidOutB P=true)
 (hW:DataW.Whole enc P f.params.toList s.vars apart W args.toList ds gs before) (hv:s.vars=[]) (hr:f.resultTypes = #[bt]) (hbt:P.underlying bt=some .bool)
 (hp:∀ t ∈ f.params.toList,P.readableRec t=true∧t < P.types.size) (h1:(s.fn X ds).results=[.lit (.bool true)]) (h2:(s.fn X ds).args=ds) (h3:(s.fn X ds).vars=[]) (hb:Below W.heap.size W W') :
 s.post enc P f apart fresh handsOn again W args (.bool true) W':=by
 have hW0:=hW
 obtain ⟨p,q,hA,hV,rfl,hz,hn⟩:=hW
 rw [hv] at hV
 obtain ⟨rfl,rfl⟩:gs=[]∧q=[]:=by
  cases gs with
  | nil=>exact ⟨rfl,hV⟩
  | cons g gs=>exact hV.elim
 have hlt:∀ x ∈ p,x.block < W.heap.size:=fun x hx=>hW0.lt x (by simpa using hx)
 have hargs:∀ sp:Nat→Bool,(∀ x ∈ p,sp x.block=true)→DataW.TrodAll enc P W' 0 sp true f.params.toList args.toList (s.fn X (ds++[])).args p:=fun sp hs=>by
  rw [List.append_nil,h2]; exact stays hl hb hp hA hlt hs
 have hres:∀ (b:Nat) (sp:Nat→Bool) (hd:Bool),DataW.TrodAll enc P W' b sp hd f.resultTypes.toList ((Value.bool true).resultList f.resultTypes.size) (s.fn X (ds++[])).results []:=fun b sp hd=>by
  rw [List.append_nil,h1,hr]
  exact trodAll_cons_mk (shut_bool hbt true) trodAll_mk0
 have hvars:∀ sp:Nat→Bool,DataW.TrodVars enc P W' sp s.vars (s.fn X (ds++[])).vars []:=fun sp=>by
  rw [List.append_nil,h3,hv]; rfl
 refine ⟨ds,[],p++[],[],p,[],hW0,hres _ _ _,hargs _ (fun x hx=>by simpa using hlt x hx),hvars _,World.keptBut_mono (fun x hx=>⟨hx,.inr (List.mem_append.1 hx)⟩) (hb.frame (· ∈ p++[])),fun _ => ?_⟩
 refine ⟨ok_one (t:=bt) hr rfl (okWide_bool_mk hbt true),_,_,([]++p)++[],⟨[]++p,[],trodAll_append (hargs _ (fun _ _=>rfl)) (hres _ _ _),hvars _,rfl,?_,?_⟩,?_⟩
 · intro b off hx
   have:MemPlace.cell b off ∈ p:=by simpa using hx
   rw [hb.frozen (hlt _ this)]
   exact hz b off (by simpa using this)
 · intro ha
   have:=hn ha
   simpa using this
 · intro x hx _
   simpa using hx
def ArgOf (P:Program) (t:TypeId) (ds:List D) (a:A):Prop :=
 match P.underlying t with
 | some (.struct _)=>a = .agg (ds.map .d)
 | _=>∃ x,ds=[x]∧a = .d x
def kst (W:World):K:=⟨W,wst W,fun _ => .none⟩
theorem arg_read {ts:List TypeId} (hp:plainT P ts=true) {f:DataW X→Nat} {fs:List (DataW X)→Nat} (B:IsBulk f fs) {t:TypeId} (ht:t ∈ ts) {b0 base:Nat} {sp:Nat→Bool} {held:Bool} {v:Value} {d:DataW X} {p:List MemPlace}
 (hv:Value.okWide P W .any b0 t v) (h:DataW.Trod enc P W base sp held t v d p):∃ n ds a,Typed P n t ds∧D.bulkC ds≤f d∧ArgOf P t ds a∧VR (kst W) v a:=by
 obtain ⟨n,h⟩:=h
 obtain ⟨ds,h1,h2,h3,h4⟩:=trod_read hp B n t _ _ h ht
 have hpt:=List.all_eq_true.1 hp t ht
 have one:v.cells = #[v]→(∀ fs,P.underlying t ≠ some (.struct fs))→∃ n ds a,Typed P n t ds∧D.bulkC ds≤f d∧ArgOf P t ds a∧VR (kst W) v a:=fun hc hs=>by
  rw [hc] at h1 h4
  match ds,h1 with
  | [x], _ =>
    refine ⟨n,[x],.d x,h2,h3,?_,.d (h4 0 v x rfl rfl)⟩
    unfold ArgOf
    split
    · rename_i fs e; exact absurd e (hs fs)
    · exact ⟨x,rfl,rfl⟩
 split at hpt
 · rename_i hu
   simp only [Value.okWide,hu,Cell.okWide,Cell.ok] at hv
   refine one ?_ (by simp [hu])
   cases v<;>first | rfl | exact hv.elim
 · rename_i k hu
   simp only [Value.okWide,hu,Cell.okWide,Cell.ok] at hv
   refine one ?_ (by simp [hu])
   cases v<;>first | rfl | exact hv.elim
 · rename_i hu
   simp only [Value.okWide,hu,Cell.okWide,Cell.ok] at hv
   refine one ?_ (by simp [hu])
   cases v<;>first | rfl | exact hv.elim
 · rename_i e hu
   simp only [Value.okWide,hu,Cell.okWide,Cell.ok] at hv
   refine one ?_ (by simp [hu])
   cases v<;>first | rfl | exact hv.elim
 · rename_i gs hu
   simp only [Value.okWide,hu] at hv
   obtain ⟨cs,rfl,-,-⟩:=hv
   refine ⟨n,ds,.agg (ds.map .d),h2,h3,by simp [ArgOf,hu],?_⟩
   have h1':ds.length=cs.toList.length:=h1
   have:=VR.agg (κ:=kst W) cs.toList (ds.map A.d) (by simp [h1']) (fun i v a hi ha=>by
    simp only [List.getElem?_map,Option.map_eq_some_iff] at ha
    obtain ⟨x,hx,rfl⟩:=ha
    exact .d (h4 i v x hi hx))
   simpa using this
 · cases hpt
def ArgsOf (P:Program):List TypeId→List A→Nat→Prop
 | [],ars,_=>ars=[]
 | t :: ts,ars,b=>∃ n ds a r b',ars=a :: r∧Typed P n t ds∧ArgOf P t ds a∧ArgsOf P ts r b'∧D.bulkC ds+b'≤b
theorem args_read {ts:List TypeId} (hp:plainT P ts=true) {f:DataW X→Nat} {fs:List (DataW X)→Nat} (B:IsBulk f fs) {b0 base:Nat} {sp:Nat→Bool} {held:Bool}:∀ {us:List TypeId} {vs:List Value} {ds:List (DataW X)} {ps:List MemPlace},
 (∀ t ∈ us,t ∈ ts)→(∀ (j:Nat) (t:TypeId) (v:Value),us[j]?=some t→vs[j]?=some v→Value.okWide P W .any b0 t v)→DataW.TrodAll enc P W base sp held us vs ds ps →
  ∃ ars,ArgsOf P us ars (fs ds)∧vs.length=ars.length∧∀ (i:Nat) (v:Value) (a:A),vs[i]?=some v→ars[i]?=some a→VR (kst W) v a
 | [],[],[],_,_,_,_=>⟨[],rfl,rfl,by simp⟩
 | t :: us, v :: vs, d :: ds, _, hu, hv, ⟨p, q, h1, h2, _⟩ => by
   obtain ⟨n,cs,a,a1,a2,a3,a4⟩:=arg_read hp B (hu t (by simp)) (hv 0 t v rfl rfl) h1
   obtain ⟨ars,b1,b2,b3⟩:=args_read hp B (fun t ht=>hu t (by simp [ht])) (fun j t v ht hv'=>hv (j+1) t v (by simpa using ht) (by simpa using hv')) h2
   refine ⟨a :: ars,⟨n,cs,a,ars,fs ds,rfl,a1,a3,b1,?_⟩,by simp [b2],fun i u x hx hy => ?_⟩
   · have:=B.cons d ds; omega
   · cases i with
     | zero=>simp at hx hy; subst hx; subst hy; exact a4
     | succ i=>exact b3 i u x (by simpa using hx) (by simpa using hy)
end
end
theorem typed_str {P:Program} {n:Nat} {t:TypeId} {ds:List D} (hu:P.underlying t=some .string) (h:Typed P n t ds):∃ s,ds=[.str s]:=by
 cases n with
 | zero=>exact h.elim
 | succ n=>simpa only [Typed,hu] using h
theorem rows_of {P:Program} {t:TypeId} {α:Type} {enc : α→List D} (hE:∀ n ds,Typed P n t ds→∃ a,ds=enc a) {n:Nat} {rows:List (List D)} (h:∀ r ∈ rows,Typed P n t r):∃ l:List α,rows=l.map enc:=by
 induction rows with
 | nil=>exact ⟨[],rfl⟩
 | cons r rows ih =>
   obtain ⟨l,rfl⟩:=ih fun r hr=>h r (by simp [hr])
   obtain ⟨a,rfl⟩:=hE n r (h r (by simp))
   exact ⟨a :: l,rfl⟩
theorem typed_sl {P:Program} {t e:TypeId} {α:Type} {enc : α→List D} (hu:P.underlying t=some (.slice e)) {sz:Nat} (hs:P.cellsOf e=sz) (hE:∀ n ds,Typed P n e ds→∃ a,ds=enc a) {n:Nat} {ds:List D} (h:Typed P n t ds):∃ z,∃ l:List α,ds=[.sl z sz (l.map enc)]:=by
 cases n with
 | zero=>exact h.elim
 | succ n =>
   simp only [Typed,hu] at h
   obtain ⟨z,rows,rfl,hr⟩:=h
   obtain ⟨l,rfl⟩:=rows_of hE hr
   exact ⟨z,l,by rw [hs]⟩
theorem bulkR_mem {rows:List (List D)} {r:List D} (h:r ∈ rows):D.bulkC r≤D.bulkR rows:=by
 induction rows with
 | nil=>simp at h
 | cons x rows ih =>
   simp only [D.bulkR]
   rcases List.mem_cons.1 h with rfl | h
   · omega
   · have:=ih h; omega
theorem bulkR_len {α:Type} {enc : α→List D} (he:∀ a,1≤D.bulkC (enc a)):∀ l:List α,l.length≤D.bulkR (l.map enc)
 | []=>by simp
 | a :: l => by
   have:=bulkR_len he l
   have:=he a
   simp only [List.length_cons,List.map_cons,D.bulkR]; omega
theorem rows_ofR {P:Program} {t:TypeId} {α:Type} {enc : α→List D} {R : α→Prop} {n:Nat} (hE:∀ ds,Typed P n t ds→∃ a,ds=enc a∧R a) {rows:List (List D)} (h:∀ r ∈ rows,Typed P n t r):∃ l:List α,rows=l.map enc∧∀ a ∈ l,R a:=by
 induction rows with
 | nil=>exact ⟨[],rfl,by simp⟩
 | cons r rows ih =>
   obtain ⟨l,rfl,hl⟩:=ih fun r hr=>h r (by simp [hr])
   obtain ⟨a,rfl,ha⟩:=hE r (h r (by simp))
   exact ⟨a :: l,rfl,by simpa using ⟨ha,hl⟩⟩
theorem typed_slR {P:Program} {t e:TypeId} {α:Type} {enc : α→List D} {R : α→Prop} (hu:P.underlying t=some (.slice e)) {sz:Nat} (hs:P.cellsOf e=sz) {n:Nat} (hE:∀ m,m < n→∀ ds,Typed P m e ds→∃ a,ds=enc a∧R a) {ds:List D} (h:Typed P n t ds) :
 ∃ z,∃ l:List α,ds=[.sl z sz (l.map enc)]∧∀ a ∈ l,R a:=by
 cases n with
 | zero=>exact h.elim
 | succ n =>
   simp only [Typed,hu] at h
   obtain ⟨z,rows,rfl,hr⟩:=h
   obtain ⟨l,rfl,hl⟩:=rows_ofR (hE n (Nat.lt_succ_self n)) hr
   exact ⟨z,l,by rw [hs],hl⟩
theorem typed_structR {P:Program} {t:TypeId} {fs:Array Field} {n:Nat} {ds:List D} (hu:P.underlying t=some (.struct fs)) (h:Typed P n t ds):∃ n',n=n'+1∧TypedFs (Typed P n') fs.toList ds:=by
 cases n with
 | zero=>exact h.elim
 | succ n=>exact ⟨n,rfl,by simpa only [Typed,hu] using h⟩
theorem typed_i64 {P:Program} {n:Nat} {t:TypeId} {ds:List D} (hu:P.underlying t=some (.int .i64)) (h:Typed P n t ds):∃ x,ds=[.int .i64 x] ∧ -9223372036854775808≤x∧x≤9223372036854775807:=by
 cases n with
 | zero=>exact h.elim
 | succ n =>
   simp only [Typed,hu] at h
   obtain ⟨x,hx,hw⟩:=h
   refine ⟨x,hx,?_⟩
   simp only [Lit.wf,IntKind.min,IntKind.max,IntKind.bits,IntKind.signed] at hw
   simp at hw
   omega
section
open Go.RowKit Go.ChangeShapes Go.WideShapes
def LaidOb (W:World) (H0:Hp):Prop:=∀ (i:Nat) (x:Ob),H0[i]?=some x→∃ g cs ty fr,x = .glob g cs∧W.heap[g]?=some (.cells cs.toArray ty fr)
theorem kst_hrG {W:World} {H0:Hp} (h:LaidOb W H0):HR (kst W) H0 W :=
 ⟨Below.refl _ _,fun _ _ _ h=>h,fun i x hx=>by
  obtain ⟨g,cs,ty,fr,rfl,hg⟩:=h i x hx
  exact ⟨ty,fr,hg⟩,fun _ _=>rfl,by simp [kst,Bind.block],by simp [kst,Bind.owns],by simp [kst,Bind.block],fun i x hx=>by
  obtain ⟨g,cs,ty,fr,rfl,hg⟩:=h i x hx
  rfl⟩
section
variable {X:Type} {enc:TypeId × Value→X} {P:Program} {W:World}
theorem lawD_of {f:FuncId} {fn:Func} {s:ChangeSpec} {apart fresh handsOn again:Bool} {args:Array Value} {ds gs:List (DataW X)} {before:List MemPlace} {bt:TypeId} {base:Nat} {ts:List TypeId} {H0:Hp} (hl:laidOutB P=true) (hpl:plainT P ts=true)
 {g:DataW X→Nat} {gl:List (DataW X)→Nat} (B:IsBulk g gl)
 (hval:∀ (j:Nat) (t:TypeId) (v:Value),fn.params[j]?=some t→args[j]?=some v→Value.okWide P W .any base t v)
 (hW:DataW.Whole enc P fn.params.toList s.vars apart W args.toList ds gs before) (hv:s.vars=[]) (hr:fn.resultTypes = #[bt]) (hbt:P.underlying bt=some .bool)
 (hp:∀ t ∈ fn.params.toList,t ∈ ts∧P.readableRec t=true∧t < P.types.size) (h1:(s.fn X ds).results=[.lit (.bool true)]) (h2:(s.fn X ds).args=ds) (h3:(s.fn X ds).vars=[])
 (h0:LaidOb W H0) (h:∀ ars,ArgsOf P fn.params.toList ars (gl ds)→ACall P f ars H0 (fun r _=>r = .d (.bool true))) :
 Calls P f args W fun e W'=>∃ v,e = .returned v∧s.post enc P fn apart fresh handsOn again W args v W':=by
 have hW0:=hW
 obtain ⟨p,q,hA,-⟩:=hW
 obtain ⟨xs,a1,a2,a3⟩:=args_read hpl B (fun t ht=>(hp t ht).1) (fun j t v ht hv'=>hval j t v (by simpa using ht) (by simpa using hv')) hA
 refine (h xs a1 (kst W) W args.toList (kst_hrG h0) a2 a3).mono fun e W' ⟨v,κ',x,H',he,hk,hh,hvr,hx⟩ => ?_
 subst hx
 have hvt:v = .bool true:=by
  cases hvr with | d h=>cases h; rfl
 subst hvt
 refine ⟨_,he,post_law hl hW0 hv hr hbt (fun t ht=>(hp t ht).2) h1 h2 h3 ?_⟩
 have:=hh.below
 rw [hk.w0] at this
 exact this
end
end
section
open Go.RowKit Go.Proofs Go.Shelf
theorem HR.freeze {κ:K} {H:Hp} {w:World} (h:HR κ H w) {t b e c n m sz:Nat} {ty:TypeId} (ht:H[t]?=some (.tok n sz ty)) (hb : κ.β t = .reg b e c m sz) (hm:m≤e) (hmn:m=n) (hs1:sz=1):HR κ H (w.freeze ⟨b,0,none⟩ m):=by
 subst hmn
 by_cases h0:m=0
 · subst h0; simp only [World.freeze,if_true]; exact h
 have hne:∀ k,k ≠ b→(w.freeze ⟨b,0,none⟩ m).heap[k]?=w.heap[k]?:=fun k hk=>by
  simp only [World.freeze,h0,if_false,Array.getElem?_modify]
  rw [if_neg (Ne.symm hk)]
 have hcell:∀ a:Addr,(w.freeze ⟨b,0,none⟩ m).cell? a=w.cell? a:=fun a=>by
  by_cases ha:a.block=b
  · simp only [World.cell?,World.freeze,h0,if_false,Array.getElem?_modify,ha,if_true]
    cases w.heap[b]? with
    | none=>rfl
    | some o=>cases o<;>rfl
  · simp only [World.cell?,hne _ ha]
 have hsz:(w.freeze ⟨b,0,none⟩ m).heap.size=w.heap.size:=by simp [World.freeze,h0]
 have hex:=h.ex t b (by rw [hb]; rfl)
 refine ⟨?_,fun b' o v hv=>(hcell _).trans (h.st b' o v hv),fun i x hx => ?_,h.dom,fun i b' hi => ?_,h.exσ,h.exd,h.fl⟩
 · refine h.below.trans ⟨by simp [World.freeze,h0],by simp [World.freeze,h0],by simp [World.freeze,h0],by rw [hsz]; exact Nat.le_refl _,fun k hk=>hne k (by omega)⟩
 · by_cases hit:i=t
   · subst hit
     rw [ht] at hx; cases hx
     rcases h.ob i _ ht with ⟨h1,-⟩ | ⟨b',e',c',cur,lo,hi,h1,h2,h3,h4⟩
     · rw [hb] at h1; cases h1
     · rw [hb] at h1; cases h1
       refine .inr ⟨b,e,c,cur,(if lo == hi then (0,0+m) else (min lo 0,max hi (0+m))).1,(if lo == hi then (0,0+m) else (min lo 0,max hi (0+m))).2,hb,?_,h3,?_⟩
       · simp only [World.freeze,h0,if_false,Array.getElem?_modify,if_true,h2,Option.map_some]
       · right
         refine ⟨hs1,?_⟩
         by_cases hlh:lo=hi
         · simp [hlh]; exact hm
         · have:(lo == hi)=false:=by simpa using hlh
           simp only [this,Bool.false_eq_true,if_false]
           rcases h4 with ⟨h4,h5⟩ | ⟨-,h4⟩
           · exact absurd (h4.trans h5.symm) hlh
           · omega
   · refine (h.ob i x hx).mono (K.le_refl κ) rfl fun b' hb'=>hne b' fun e => ?_
     subst e
     exact hit (h.exd i t b' hb' (by rw [hb]; rfl))
 · rw [hsz]; exact h.ex i b' hi
section
variable {P:Program} {ρ:Ren}
theorem copyCheck_acall (L:Lays.n240 P ρ) (X:Builder.X72 P ρ) {H:Hp} {i:Nat} {x a:A} (hi:H[i]?=some (.box (ρ.t 72) [a,x])) (ha:a = .d .nilp∨a = .ptr i 0) :
 ACall P (ρ.f 240) [.ptr i 0] H (fun r H'=>r = .tup []∧H'=H.set i (.box (ρ.t 72) [.ptr i 0,x])):=by
 intro κ w vs hr hl hv
 match vs,hl with
 | [v],_ =>
 have hv0:=hv 0 v _ rfl rfl
 cases hv0 with
 | ptr _ _ b hb =>
 obtain ⟨b',hb',hsh,hc⟩:=hr.ob i _ hi
 have hbb:b'=b:=by rw [hb] at hb'; cases hb'; rfl
 subst hbb
 obtain ⟨u,hu1,hu2,hu3⟩:=hc 0 a rfl
 rcases ha with rfl | rfl
 · have hu:u = .pointer none:=by cases hu3 with | d h=>cases h; rfl
   subst hu
   refine (Any.Builder_copyCheck_fresh L X b' w hu1 hsh hu2).mono fun e w' ⟨he,hw⟩ => ?_
   subst hw
   exact ⟨_,κ,.tup [],_,he,K.le_refl κ,hr.setBox (j:=0) hi hb (by simp) rfl (.ptr i 0 b' hb),.tup [] [] rfl (by simp),rfl,rfl⟩
 · have hu:u = .pointer (some ⟨b',0,none⟩):=by
    cases hu3 with | ptr _ _ b2 h2=>rw [hb] at h2; cases h2; rfl
   subst hu
   refine (Any.Builder_copyCheck_used L X b' w hu1).mono fun e w' ⟨he,hw⟩ => ?_
   subst hw
   refine ⟨_,κ,.tup [],H,he,K.le_refl κ,hr,.tup [] [] rfl (by simp),rfl,?_⟩
   refine List.ext_getElem? fun j => ?_
   by_cases hj:i=j
   · subst hj; rw [List.getElem?_set_self (List.getElem?_eq_some_iff.1 hi).1,hi]
   · rw [List.getElem?_set_ne hj]
set_option maxHeartbeats 1000000 in
set_option maxRecDepth 100000 in
theorem Builder_String_row (L:Lays.n169 P ρ) (X:Builder.Extra P ρ) (b g cap cells:Nat) (l:List UInt8) (w:World) (h0:l ≠ []) (c0:w.cell? ⟨b,1,none⟩=some (.slice (some ⟨g,0,none⟩) l.length cap)) (hcap:l.length≤cap) (hcells:l.length≤cells)
 (hsh:w.shape? g=some (ρ.t 5,cells)) (h63:l.length≤9223372036854775807) (hb:∀ j x,l[j]?=some x→w.cell? ⟨g,j,none⟩=some (.int .u8 x.toNat)) :
 Calls P (ρ.f 169) #[.pointer (some ⟨b,0,none⟩)] w fun e w'=>e = .returned (.string ⟨l.toArray⟩)∧w'=w.drew.freeze ⟨g,0,none⟩ l.length:=by
 have hl0:l.length ≠ 0:=by simpa using h0
 have c1:w.drew.cell? ⟨b,1,none⟩=some (.slice (some ⟨g,0,none⟩) l.length cap):=c0
 have hSD:(Builtin.unsafeSliceData_ #[(ρ.t 37)] (ρ.t 127) #[.slice (some ⟨g,0,none⟩) l.length cap]).run P w.drew = .ok (.pointer (some ⟨g,0,none⟩)) w.drew :=
  Lib.run_unsafeSliceData_row _ _ _ _ _ _ (by omega)
 have hUS:(Builtin.unsafeString_ #[(ρ.t 127),(ρ.t 3)] (ρ.t 9) #[.pointer (some ⟨g,0,none⟩),.int .i64 l.length]).run P w.drew = .ok (.string ⟨l.toArray⟩) (w.drew.freeze ⟨g,0,none⟩ l.length):=by
  refine Lib.run_unsafeString_row w.drew (ρ.t 127) (ρ.t 3) (ρ.t 9) (ρ.t 5) L.t127 X.cellsByte g cells hsh l h0 hcells h63 ?_
  intro j x hx
  have:=hb j x hx
  rw [add_mk,Nat.zero_add]; exact this
 have mixed:=L.mixed
 have t72:=L.t72; have a72:=L.a72; have z72:=L.z72; have v72:=L.v72; have u72:=run_underlying L.t72
 have t70:=L.t70; have a70:=L.a70; have z70:=L.z70; have v70:=L.v70; have u70:=run_underlying L.t70
 have t37:=L.t37; have a37:=L.a37; have z37:=L.z37; have v37:=L.v37; have u37:=run_underlying L.t37
 have t127:=L.t127; have a127:=L.a127; have z127:=L.z127; have v127:=L.v127; have u127:=run_underlying L.t127
 have t3:=L.t3; have a3:=L.a3; have z3:=L.z3; have v3:=L.v3; have u3:=run_underlying L.t3
 have t9:=L.t9; have a9:=L.a9; have z9:=L.z9; have v9:=L.v9; have u9:=run_underlying L.t9
 have t5:=X.t5; have a5:=X.a5; have z5:=X.z5; have v5:=X.v5; have u5:=run_underlying X.t5
 go_enter L.f169,Body.n169_ntmps ρ
 go_wp2
 go_region_o
 all_goals (go_wp2; go_ret; exact ⟨rfl,rfl⟩)
set_option maxHeartbeats 1000000 in
set_option maxRecDepth 100000 in
theorem Builder_String_nil' (L:Lays.n169 P ρ) (X:Builder.Extra P ρ) (b:Nat) (w:World) (c0:w.cell? ⟨b,1,none⟩=some (.slice none 0 0)) :
 Calls P (ρ.f 169) #[.pointer (some ⟨b,0,none⟩)] w fun e w'=>e = .returned (.string ⟨#[]⟩)∧w'=w.drew:=by
 have hUS:=Any.unsafeString_none L X
 have c1:w.drew.cell? ⟨b,1,none⟩=some (.slice none 0 0):=c0
 have hSD:(Builtin.unsafeSliceData_ #[(ρ.t 37)] (ρ.t 127) #[.slice none 0 0]).run P w.drew = .ok (.pointer none) w.drew:=Lib.run_unsafeSliceData_nil _ _ _ _ _
 have mixed:=L.mixed
 have t72:=L.t72; have a72:=L.a72; have z72:=L.z72; have v72:=L.v72; have u72:=run_underlying L.t72
 have t70:=L.t70; have a70:=L.a70; have z70:=L.z70; have v70:=L.v70; have u70:=run_underlying L.t70
 have t37:=L.t37; have a37:=L.a37; have z37:=L.z37; have v37:=L.v37; have u37:=run_underlying L.t37
 have t127:=L.t127; have a127:=L.a127; have z127:=L.z127; have v127:=L.v127; have u127:=run_underlying L.t127
 have t3:=L.t3; have a3:=L.a3; have z3:=L.z3; have v3:=L.v3; have u3:=run_underlying L.t3
 have t9:=L.t9; have a9:=L.a9; have z9:=L.z9; have v9:=L.v9; have u9:=run_underlying L.t9
 have t5:=X.t5; have a5:=X.a5; have z5:=X.z5; have v5:=X.v5; have u5:=run_underlying X.t5
 go_enter L.f169,Body.n169_ntmps ρ
 go_wp2
 go_region_o
 all_goals (go_wp2; go_ret; exact ⟨rfl,rfl⟩)
theorem string_acall (L:Lays.n169 P ρ) (X:Builder.Extra P ρ) {H:Hp} {i t:Nat} {a:A} {s:List UInt8} (hi:H[i]?=some (.box (ρ.t 72) [a,.osl true 1 (byteRows s) t])) (ht:H[t]?=some (.tok s.length 1 (ρ.t 5))) (hlen:s.length≤4611686018427387904) :
 ACall P (ρ.f 169) [.ptr i 0] H (fun r H'=>r = .d (.str s)∧H'=H):=by
 intro κ w vs hr hl hv
 match vs,hl with
 | [v],_ =>
 have hv0:=hv 0 v _ rfl rfl
 cases hv0 with
 | ptr _ _ b hb =>
 obtain ⟨b',hb',hsh,hc⟩:=hr.ob i _ hi
 have hbb:b'=b:=by rw [hb] at hb'; cases hb'; rfl
 subst hbb
 obtain ⟨u,hu1,hu2,hu3⟩:=hc 1 _ rfl
 have hrl:(byteRows s).length=s.length:=by simp [byteRows]
 cases hu3 with
 | osl hd hf =>
 have hstr:∀ κ':K,VR κ' (.string ⟨s.toArray⟩) (.d (.str s)):=fun κ'=>by
  have:=DR.str (σ := κ'.σ) ⟨s.toArray⟩
  exact .d (by simpa using this)
 by_cases h0:s=[]
 · subst h0
   have hu:u = .slice none 0 0:=by
    rcases hd.sl_inv with ⟨h1,-⟩ | ⟨_,_,_,h1,-⟩ | ⟨_,_,_,_,_,h1,-⟩
    · exact h1
    · cases h1
    · exact absurd rfl (h1 rfl)
   subst hu
   refine (Builder_String_nil' L X b' w hu1).mono fun e w' ⟨he,hw⟩ => ?_
   subst hw
   exact ⟨_,κ,_,H,he,K.le_refl κ,hr.drew,hstr κ,rfl,rfl⟩
 · rcases hr.ob t _ ht with ⟨-,h1⟩ | ⟨g,e,c,cur,lo,hi',h1,h2,h3,h4⟩
   · exact absurd (List.eq_nil_of_length_eq_zero h1) h0
   rw [h1,hrl] at hf
   obtain ⟨-,hf⟩:=hf
   obtain ⟨o,cap,hu,hcap,he,hcc,ho⟩:=hf rfl
   subst ho; subst hu
   obtain ⟨-,f,-,-,-,hcs,hds⟩:=hd.sl_at
   refine (Builder_String_row L X b' g cap cur.size s w h0 hu1 hcap (by omega) (by simp [World.shape?,h2]) (by omega) (fun j x hx => ?_)).mono fun e' w' ⟨he',hw⟩ => ?_
   · have hrow:(byteRows s)[j]?=some [.int .u8 x.toNat]:=by simp [byteRows,hx]
     have h5:=hcs j 0 _ _ hrow rfl
     have h6:=hds j 0 _ _ hrow rfl
     have h7:=hr.st _ _ _ h5
     cases h7':f j 0<;>rw [h7'] at h6<;>cases h6
     rw [h7'] at h7
     simpa using h7
   · subst hw
     refine ⟨_,κ,_,H,he',K.le_refl κ,?_,hstr κ,rfl,rfl⟩
     exact hr.drew.freeze ht h1 (by omega) rfl rfl
end
end
def A.shut:A→A
 | .osl z s r _ => .d (.sl z s r)
 | x=>x
theorem VR.shut {κ:K} {v:Value} {a:A} (h:VR κ v a):VR κ v a.shut:=by
 cases h with
 | osl h ht=>exact .d h
 | d h=>exact .d h
 | _=>constructor<;>assumption
theorem ACall.shut {P:Program} {f:FuncId} {args:List A} {H:Hp} {Q:A→Hp→Prop} (h:ACall P f (args.map A.shut) H Q):ACall P f args H Q:=by
 intro κ w vs hr hl hv
 refine h κ w vs hr (by simpa using hl) fun i v a hi ha => ?_
 simp only [List.getElem?_map,Option.map_eq_some_iff] at ha
 obtain ⟨a',ha',rfl⟩:=ha
 exact (hv i v a' hi ha').shut
theorem CallK_shut {P:Program} {H:Hp} {Q:A→Hp→Prop} {t:Tag Q} {f:FuncId} {l:List A} {v:A} {H1:Hp} (h:ACall P f (l.map A.shut) H (fun x H'=>x=v∧H'=H1)) (hq:Q v H1):CallK Q t P f l H :=
 CallK_of' h.shut hq
def frzSt (σ:St) (b:Nat) (w:World) (n:Nat):St:=fun b' o=>if b'=b then (if o < n then w.cell? ⟨b,o,none⟩ else none) else σ b' o
theorem HR.freezeArr {κ:K} {H:Hp} {w:World} (h:HR κ H w) {i sz:Nat} {rows:List (List D)} (hi:H[i]?=some (.arr sz (rows.map (List.map .d)))) {v:Value} (hv:VR κ v (.msl i 0 rows.length)) :
 ∃ κ',κ.le κ'∧HR κ' (H.set i .dead) w∧VR κ' v (.d (.sl false sz rows)):=by
 have hil:i < H.length:=(List.getElem?_eq_some_iff.1 hi).1
 cases hv with
 | msl _ _ _ b sz' o cap hb hl ho hz =>
 obtain ⟨b',s',hb',-,hc⟩:=h.ob i _ hi
 obtain ⟨rfl,rfl⟩:b'=b∧sz=sz':=by rcases hb with ⟨_,hb⟩ | hb<;>rw [hb] at hb'<;>cases hb'; exact ⟨rfl,rfl⟩
 have hex:=h.ex i b' (by rw [hb']; rfl)
 have hσ:∀ o,κ.σ b' o=none:=fun o=>h.exσ i b' o (by rw [hb']; rfl)
 let κ':K := { κ with σ:=frzSt κ.σ b' w (rows.length * sz),β:=upd κ.β i .deadT }
 have hle : κ.le κ':=⟨rfl,fun b2 o2 u hu=>by
  show frzSt κ.σ b' w _ b2 o2=some u
  by_cases hbb:b2=b'
  · subst hbb; rw [hσ] at hu; cases hu
  · simp only [frzSt,hbb,if_false]; exact hu,fun j=>by
  show (κ.β j).le (upd κ.β i _ j)
  by_cases hj:j=i
  · subst hj; rw [upd_same,hb']; exact .inr rfl
  · rw [upd_ne _ _ hj]; exact Bind.le_refl _⟩
 refine ⟨κ',hle,⟨h.below,fun b2 o2 u hu => ?_,fun j x hj => ?_,fun j hj => ?_,fun j b2 hb2 => ?_,fun j b2 o2 ho2 => ?_,fun j k b2 hj hk => ?_,fun j x hj => ?_⟩,.d ?_⟩
 · have hu':frzSt κ.σ b' w (rows.length * sz) b2 o2=some u:=hu
   simp only [frzSt] at hu'
   split at hu'
   · rename_i e; subst e
     split at hu'
     · exact hu'
     · cases hu'
   · exact h.st b2 o2 u hu'
 · by_cases hji:i=j
   · subst hji
     rw [List.getElem?_set_self hil] at hj
     cases hj; trivial
   · rw [List.getElem?_set_ne hji] at hj
     exact (h.ob j x hj).mono hle (upd_ne _ _ (Ne.symm hji)) fun b _=>rfl
 · have:H.length≤j:=by simpa using hj
   show upd κ.β i _ j=_
   rw [upd_ne _ _ (by omega)]; exact h.dom j this
 · by_cases hji:j=i
   · subst hji
     have:(upd κ.β j Bind.deadT j).block=some b2:=hb2
     rw [upd_same] at this; cases this
   · have:(upd κ.β i Bind.deadT j).block=some b2:=hb2
     rw [upd_ne _ _ hji] at this
     exact h.ex j b2 this
 · by_cases hji:j=i
   · subst hji
     have:(upd κ.β j Bind.deadT j).owns b2 o2:=ho2
     rw [upd_same] at this; exact this.elim
   · have h1:(upd κ.β i Bind.deadT j).owns b2 o2:=ho2
     rw [upd_ne _ _ hji] at h1
     show frzSt κ.σ b' w _ b2 o2=none
     have hne:b2 ≠ b':=fun e=>by
      subst e
      exact hji (h.exd j i b2 (Bind.block_of_owns h1) (by rw [hb']; rfl))
     simp only [frzSt,hne,if_false]
     exact h.exσ j b2 o2 h1
 · by_cases hji:j=i
   · subst hji
     have:(upd κ.β j Bind.deadT j).block=some b2:=hj
     rw [upd_same] at this; cases this
   · by_cases hki:k=i
     · subst hki
       have:(upd κ.β k Bind.deadT k).block=some b2:=hk
       rw [upd_same] at this; cases this
     · have h1:(upd κ.β i Bind.deadT j).block=some b2:=hj
       have h2:(upd κ.β i Bind.deadT k).block=some b2:=hk
       rw [upd_ne _ _ hji] at h1
       rw [upd_ne _ _ hki] at h2
       exact h.exd j k b2 h1 h2
 · by_cases hji:i=j
   · subst hji
     rw [List.getElem?_set_self hil] at hj
     cases hj; rfl
   · rw [List.getElem?_set_ne hji] at hj
     exact h.fl j x hj
 · by_cases h0:rows.length=0
   · have:rows=[]:=List.eq_nil_of_length_eq_zero h0
     subst this
     exact .emp sz ⟨b',o,none⟩ cap
   · have ho':=ho (by omega)
     rw [Nat.zero_mul] at ho'
     subst ho'
     have hcell:∀ (k j:Nat) (r:List D) (x:D),rows[k]?=some r→r[j]?=some x→∃ u,w.cell? ⟨b',k * sz+j,none⟩=some u∧VR κ u (.d x)∧k * sz+j < rows.length * sz:=fun k j r x hk hx=>by
      have hk':(rows.map (List.map A.d))[k]?=some (r.map .d):=by simp [hk]
      obtain ⟨h1,h2⟩:=hc k _ hk'
      obtain ⟨u,u1,-,u2⟩:=h2 j (.d x) (by simp [hx])
      refine ⟨u,u1,u2,?_⟩
      have hj:j < sz:=by rw [← h1]; simpa using (List.getElem?_eq_some_iff.1 hx).1
      have hkl:k < rows.length:=(List.getElem?_eq_some_iff.1 hk).1
      have:(k+1) * sz≤rows.length * sz:=Nat.mul_le_mul_right _ (by omega)
      rw [Nat.add_mul] at this; omega
     refine DR.sl false sz rows b' 0 cap (fun k j=>(w.cell? ⟨b',k * sz+j,none⟩).getD (.tuple #[])) (fun h=>by cases h) hl (fun k r hk => ?_) (fun k j r x hk hx => ?_) (fun k j r x hk hx => ?_)
     · have hk':(rows.map (List.map A.d))[k]?=some (r.map .d):=by simp [hk]
       simpa using (hc k _ hk').1
     · obtain ⟨u,u1,-,u3⟩:=hcell k j r x hk hx
       show frzSt κ.σ b' w (rows.length * sz) b' (0+k * sz+j)=_
       rw [Nat.zero_add]
       simp only [frzSt,if_true,u3,u1,Option.getD_some]
     · obtain ⟨u,u1,u2,-⟩:=hcell k j r x hk hx
       simp only [u1,Option.getD_some]
       exact u2.d_inv.mono hle.σ
theorem ACall.freeze {P:Program} {f:FuncId} {args:List A} {H X:Hp} {k sz:Nat} {rows:List (List D)} (hX:X[k]?=some (.arr sz (rows.map (List.map .d)))) (h:ACall P f args H (fun r H'=>r = .msl (H.length+k) 0 rows.length∧H'=H++X)) :
 ACall P f args H (fun r H'=>r = .d (.sl false sz rows)∧H'=H):=by
 intro κ w vs hr hl hv
 refine (h κ w vs hr hl hv).mono ?_
 rintro e w' ⟨v,κ',x,H',h1,h2,h3,h4,rfl,rfl⟩
 obtain ⟨κ2,k1,k2,k3⟩:=h3.freezeArr (i:=H.length+k) (sz:=sz) (rows:=rows) (by rw [getElem?_appk]; exact hX) h4
 rw [set_appk] at k2
 exact ⟨v,κ2.cut H.length,.d _,Hp.cut H.length (H++X.set k .dead),h1,K.le_cut (h2.trans k1) hr.dom,k2.cut _ (by simp),VR.clr H.length k3,rfl,cut_app hr.closed _⟩
theorem acall_fink {P:Program} {f:FuncId} {fn:Func} {tok:List Nat} {ifn:IFn} {args:List A} {H:Hp} {K:A→Hp→Prop} (k:Nat) (hf:P.funcs[f]?=some fn) (hc:compF P tok fn=some ifn) (hn:args.length≤ifn.nt)
 (h:H.Closed→(∀ a ∈ args,a.flat0=true→a.lo H.length=true)→AWp P H.length ifn.body (Fin ifn.res (H.length+k) K) (Fr.init args) H):ACall P f args H K :=
 acall_of hf hc hn fun h1 h2=>AWp.mono _ (fun e fr H' h=>by
  have hx:RetK K .mk (H.length+k) (resA fr H' ifn.res) H':=by cases e<;>first | exact h | exact h.elim
  unfold RetK at hx
  split at hx
  · rename_i x e1
    cases e with
    | exit=>exact h.elim
    | normal=>exact ⟨x,H.length+k,e1,by omega,hx.1,hx.2⟩
    | ret=>exact ⟨x,H.length+k,e1,by omega,hx.1,hx.2⟩
  · exact hx.elim) _ _ (h h1 h2)
end Go.Zam
namespace Go.Zam
structure Cmp {α:Type} (c : α → α→Int):Prop where
 refl:∀ x,c x x=0
 anti:∀ x y,c x y < 0 ↔ 0 < c y x
 trans:∀ x y z,c x y≤0→c y z≤0→c x z≤0
namespace Cmp
variable {α:Type} {c : α → α→Int}
theorem le_total (h:Cmp c) (x y : α):c x y≤0∨c y x≤0:=by
 have:=h.anti y x
 omega
theorem eq_symm (h:Cmp c) {x y : α} (e:c x y=0):c y x=0:=by
 have h1:=h.anti x y
 have h2:=h.anti y x
 omega
theorem le_antisymm (h:Cmp c) {x y : α} (e:c x y≤0) (f:c y x≤0):c x y=0:=by
 have h1:=h.anti x y
 have h2:=h.anti y x
 omega
theorem lt_le (h:Cmp c) {x y z : α} (e:c x y < 0) (f:c y z≤0):c x z < 0:=by
 have h1:=(h.anti x y).1 e
 have h2:=h.anti x z
 have h3:=h.trans y z x f
 omega
end Cmp
section
variable {α:Type} (c : α → α→Int)
def Sorted (l:List α):Prop:=l.Pairwise fun x y=>c x y≤0
def cls (x : α) (l:List α):List α:=l.filter fun y=>decide (c x y=0)
def Alk (l l':List α):Prop:=∀ x,cls c x l=cls c x l'
def insL (x : α):List α→List α
 | []=>[x]
 | y :: r=>if c x y≤0 then x :: y :: r else y :: insL x r
def ssort:List α→List α
 | []=>[]
 | x :: r=>insL c x (ssort r)
end
section
variable {α:Type} {c : α → α→Int}
theorem Alk.refl (l:List α):Alk c l l:=fun _=>rfl
theorem Alk.symm {l l':List α} (h:Alk c l l'):Alk c l' l:=fun x=>(h x).symm
theorem Alk.trans {l l' l'':List α} (h:Alk c l l') (k:Alk c l' l''):Alk c l l'':=fun x=>(h x).trans (k x)
theorem Alk.append {a a' b b':List α} (h:Alk c a a') (k:Alk c b b'):Alk c (a++b) (a'++b'):=fun x=>by
 simp only [cls,List.filter_append]
 have h1:=h x; have h2:=k x
 simp only [cls] at h1 h2
 rw [h1,h2]
theorem cls_nil_of (h:Cmp c) {x : α} {l:List α} (hl:∀ y ∈ l,c x y < 0∨c y x < 0):cls c x l=[]:=by
 rw [cls,List.filter_eq_nil_iff]
 intro y hy
 simp only [decide_eq_true_eq]
 rcases hl y hy with h1 | h1
 · omega
 · have:=(h.anti y x).1 h1; omega
theorem Alk.swap (h:Cmp c) {a b:List α} (hab:∀ x ∈ a,∀ y ∈ b,c y x < 0):Alk c (a++b) (b++a):=fun z=>by
 simp only [cls,List.filter_append]
 by_cases ha:∃ x ∈ a,c z x=0
 · obtain ⟨x,hx,hzx⟩:=ha
   have:cls c z b=[]:=cls_nil_of h fun y hy => .inr (h.lt_le (hab x hx y hy) (by rw [h.eq_symm hzx]; exact Int.le_refl 0))
   simp only [cls] at this
   rw [this]; simp
 · have:cls c z a=[]:=by
    rw [cls,List.filter_eq_nil_iff]
    intro y hy; simp only [decide_eq_true_eq]; exact fun e=>ha ⟨y,hy,e⟩
   simp only [cls] at this
   rw [this]; simp
theorem Alk.length (h:Cmp c):∀ {l l':List α},Alk c l l'→l.Perm l'
 | [], l', e => by
   cases l' with
   | nil=>exact .nil
   | cons y r =>
     have:=e y
     simp [cls,h.refl] at this
 | x :: r, l', e => by
   have hx:=e x
   have hx1:cls c x (x :: r)=x :: cls c x r:=by simp [cls,h.refl]
   rw [hx1] at hx
   have hm:x ∈ l':=by
    have:x ∈ cls c x l':=by rw [← hx]; simp
    exact (List.mem_filter.1 this).1
   obtain ⟨p,y,q,hpq,hp,hy⟩:∃ p y q,l'=p++y :: q∧(∀ z ∈ p,¬ c x z=0)∧c x y=0:=by
    clear hx hx1 e
    induction l' with
    | nil=>cases hm
    | cons y l' ih =>
      by_cases hy:c x y=0
      · exact ⟨[],y,l',rfl,by simp,hy⟩
      · have hm':x ∈ l':=by
         rcases List.mem_cons.1 hm with h1 | h1
         · subst h1; exact absurd (h.refl x) hy
         · exact h1
        obtain ⟨p,z,q,h1,h2,h3⟩:=ih hm'
        exact ⟨y :: p,z,q,by rw [h1]; rfl,fun w hw=>by
         rcases List.mem_cons.1 hw with h4 | h4
         · subst h4; exact hy
         · exact h2 w h4,h3⟩
   have hpn:cls c x p=[]:=by
    rw [cls,List.filter_eq_nil_iff]; intro z hz; simpa using hp z hz
   have hy1:cls c x l'=y :: cls c x q:=by
    rw [hpq,cls,List.filter_append]
    have:cls c x p=[]:=hpn
    rw [cls] at this
    rw [this]; simp [hy,cls]
   rw [hy1] at hx
   obtain ⟨rfl,hxq⟩:=List.cons.inj hx
   have hr:Alk c r (p++q):=fun z=>by
    have h1:=e z
    rw [hpq] at h1
    by_cases hz:c z x=0
    · have hpz:cls c z p=[]:=by
       rw [cls,List.filter_eq_nil_iff]; intro w hw
       simp only [decide_eq_true_eq]
       intro hzw
       refine hp w hw (h.le_antisymm (h.trans x z w ?_ ?_) (h.trans w z x ?_ ?_))
       · rw [h.eq_symm hz]; exact Int.le_refl 0
       · omega
       · rw [h.eq_symm hzw]; exact Int.le_refl 0
       · omega
      simp only [cls,List.filter_append] at h1 hpz ⊢
      rw [hpz] at h1 ⊢
      simpa [hz] using h1
    · simp only [cls,List.filter_append] at h1 ⊢
      simpa [hz] using h1
   have:=Alk.length h hr
   rw [hpq]
   exact (List.Perm.cons x this).trans (List.perm_middle.symm)
termination_by l=>l.length
theorem Alk.mem (h:Cmp c) {l l':List α} (e:Alk c l l') {x : α}:x ∈ l ↔ x ∈ l':=(Alk.length h e).mem_iff
theorem Sorted.cons {x : α} {l:List α}:Sorted c (x :: l) ↔ (∀ y ∈ l,c x y≤0)∧Sorted c l:=List.pairwise_cons
theorem sorted_uniq (h:Cmp c):∀ {l l':List α},Sorted c l→Sorted c l'→Alk c l l'→l=l'
 | [],l',_,_,e=>(List.nil_perm.1 (Alk.length h e)).symm
 | x :: r,[],_,_,e=>by have:=(Alk.length h e).length_eq; simp at this
 | x :: r, y :: r', s, s', e => by
   rw [Sorted.cons] at s s'
   have hxy:c x y≤0:=by
    have:y ∈ x :: r:=(Alk.mem h e).2 (by simp)
    rcases List.mem_cons.1 this with h1 | h1
    · subst h1; rw [h.refl]; exact Int.le_refl 0
    · exact s.1 y h1
   have hyx:c y x≤0:=by
    have:x ∈ y :: r':=(Alk.mem h e).1 (by simp)
    rcases List.mem_cons.1 this with h1 | h1
    · subst h1; rw [h.refl]; exact Int.le_refl 0
    · exact s'.1 x h1
   have h0:=h.le_antisymm hxy hyx
   have hx:=e x
   simp [cls,h.refl,h0] at hx
   obtain ⟨rfl,-⟩:=hx
   congr 1
   refine sorted_uniq h s.2 s'.2 fun z => ?_
   have hz:=e z
   simp only [cls,List.filter_cons] at hz ⊢
   split at hz
   · exact (List.cons.inj hz).2
   · exact hz
theorem alk_insL (h:Cmp c) (x : α):∀ l:List α,Alk c (x :: l) (insL c x l)
 | []=>Alk.refl _
 | y :: r => by
   rw [insL]
   split
   · exact Alk.refl _
   · rename_i hn
     have h1:Alk c ([x]++[y]) ([y]++[x]):=Alk.swap h fun a ha b hb=>by
      simp only [List.mem_singleton] at ha hb
      subst ha; subst hb
      have:=h.anti b a
      omega
     have h2:Alk c (x :: y :: r) (y :: x :: r):=by simpa using h1.append (Alk.refl r)
     exact h2.trans (by simpa using (Alk.refl [y]).append (alk_insL h x r))
theorem sorted_insL (h:Cmp c) (x : α):∀ {l:List α},Sorted c l→Sorted c (insL c x l)
 | [],_=>by simp [insL,Sorted]
 | y :: r, s => by
   rw [Sorted.cons] at s
   rw [insL]
   split
   · rename_i hxy
     rw [Sorted.cons]
     refine ⟨fun z hz => ?_,Sorted.cons.2 s⟩
     rcases List.mem_cons.1 hz with h1 | h1
     · subst h1; exact hxy
     · exact h.trans _ _ _ hxy (s.1 z h1)
   · rename_i hn
     rw [Sorted.cons]
     refine ⟨fun z hz => ?_,sorted_insL h x s.2⟩
     have:=(Alk.mem h (alk_insL h x r)).2 hz
     rcases List.mem_cons.1 this with h1 | h1
     · subst h1; have:=h.le_total z y; omega
     · exact s.1 z h1
theorem ssort_spec (h:Cmp c):∀ l:List α,Sorted c (ssort c l)∧Alk c l (ssort c l)
 | []=>⟨List.Pairwise.nil,Alk.refl _⟩
 | x :: r => by
   obtain ⟨h1,h2⟩:=ssort_spec h r
   refine ⟨sorted_insL h x h1,Alk.trans ?_ (alk_insL h x _)⟩
   simpa using (Alk.refl [x]).append h2
theorem ssort_uniq (h:Cmp c) {l l':List α} (s:Sorted c l') (e:Alk c l l'):l'=ssort c l :=
 sorted_uniq h s (ssort_spec h l).1 (e.symm.trans (ssort_spec h l).2)
theorem ssort_length (h:Cmp c) (l:List α):(ssort c l).length=l.length:=((ssort_spec h l).2.length h).length_eq.symm
theorem ssort_sorted (h:Cmp c) {l:List α} (s:Sorted c l):ssort c l=l:=(ssort_uniq h s (Alk.refl l)).symm
theorem ssort_perm (h:Cmp c) (l:List α):l.Perm (ssort c l):=(ssort_spec h l).2.length h
end
end Go.Zam
namespace Go.Zam
def irCloneM (sz bytes e : Nat) : IFn := { nt := 8, res := [.t 2], body := ( .seq (.ops [⟨some 2,none,.mv (.c (.sl true sz []))⟩] false) (.seq (.seq (.ops [⟨some 3,none,.mv (.t 0)⟩,⟨some 4,none,.isNilS false (.t 3)⟩] false) (.cond (.t 4) (.seq (.ops [⟨some 2,none,.mv (.c (.sl true sz []))⟩] false) (.ret)) (.skip))) (.seq (.ops [⟨some 5,none,.bsliceM sz []⟩,⟨some 6,none,.mv (.t 0)⟩,⟨some 7,none,.app sz bytes e (.t 5) (.t 6)⟩,⟨some 2,none,.mv (.t 7)⟩] false) (.ret)))) }
section
section
variable {α:Type} {enc : α→List D} {sz:Nat}
end
theorem Hp.cut_set (n i:Nat) (H:Hp) (x:Ob):Hp.cut n (H.set i x)=(Hp.cut n H).set i (x.clr n):=by
 simp only [Hp.cut,List.take_set,List.map_set]
section
variable {P:Program} {α:Type} {enc : α→List D} {sz:Nat}
end
end
section
section
variable {P:Program} {α:Type} {enc : α→List D} {sz:Nat} {c : α → α→Int}
end
end
section
section
variable {P:Program} {α:Type} {enc : α→List D} {sz:Nat} {c : α → α→Int}
end
end
section
section
variable {P:Program} {α:Type} {enc : α→List D} {sz:Nat} {c : α → α→Int}
end
end
section
section
variable {P:Program} {α:Type} {enc : α→List D} {sz:Nat} {c : α → α→Int}
theorem cloneM0_acall {bytes e:Nat} {f:FuncId} {fn:Func} (hf:P.funcs[f]?=some fn) (hcf:compF P [1000005] fn=some (irCloneM sz bytes e)) {H:Hp} :
 ACall P f [.d (.sl false sz [])] H (fun r H'=>r = .msl H.length 0 0∧H'=H++[.arr sz []]):=by
 refine acall_fink 1 hf hcf (by simp [irCloneM]) fun hcl _ => ?_
 simp [irCloneM]
 simp [appA]
 simp [RetK,cut_appk hcl]
theorem cloneM_acall {bytes e:Nat} {f:FuncId} {fn:Func} (hf:P.funcs[f]?=some fn) (hcf:compF P [1000005] fn=some (irCloneM sz bytes e)) {H:Hp} {z:Bool} {rows:List (List D)} (hr:rows ≠ []) (hb:rows.length * bytes≤140737488355328) :
 ACall P f [.d (.sl z sz rows)] H (fun r H'=>r = .msl (H.length+1) 0 rows.length∧H'=H++[.arr sz [],.arr sz (rows.map (List.map .d))]):=by
 cases rows with
 | nil=>exact absurd rfl hr
 | cons r rs =>
   refine acall_fink 2 hf hcf (by simp [irCloneM]) fun hcl _ => ?_
   have h1:(z && (r :: rs).isEmpty)=false:=by simp
   have hb':(rs.length+1) * bytes≤140737488355328:=hb
   simp [irCloneM]
   simp [appA,hb']
   simp [RetK,cut_appk hcl,A.clr0]
theorem clone0_acall {bytes e:Nat} {f:FuncId} {fn:Func} (hf:P.funcs[f]?=some fn) (hcf:compF P [1000005] fn=some (irCloneM sz bytes e)) {H:Hp} :
 ACall P f [.d (.sl true sz [])] H (fun r H'=>r = .d (.sl true sz [])∧H'=H):=by
 refine acall_fin hf hcf (by simp [irCloneM]) fun hcl _ => ?_
 simp [irCloneM]
 simp [RetK,cut_self hcl]
end
end
section
def cmpStr (a b:List UInt8):Int:=if Op.bytesLess a b then -1 else if Op.bytesLess a b || decide (a=b) then 0 else 1
section
variable {P:Program}
end
end
@[simp] theorem byteRows_length (s:List UInt8):(byteRows s).length=s.length:=by simp [byteRows]
theorem subL_ok {α:Type} {s:List α} {a b:Int} (h:0≤a∧a≤b∧b≤s.length):subL s a b=some ((s.drop a.toNat).take (b.toNat - a.toNat)):=by
 simp [subL,h]
section
def CopyOk (P:Program) (cc:FuncId) (bt:TypeId):Prop:=∀ (H:Hp) (i:Nat) (x a:A),H[i]?=some (.box bt [a,x])→(a = .d .nilp∨a = .ptr i 0)→ACall P cc [.ptr i 0] H (fun r H'=>r = .tup []∧H'=H.set i (.box bt [.ptr i 0,x]))
def StringOk (P:Program) (st:FuncId) (bt:TypeId):Prop:=∀ (H:Hp) (i t:Nat) (a:A) (s:List UInt8),H[i]?=some (.box bt [a,.osl true 1 (byteRows s) t])→H[t]?=some (.tok s.length 1 5)→s.length≤140737488355328→ACall P st [.ptr i 0] H (fun r H'=>r = .d (.str s)∧H'=H)
section
variable {P:Program} {et bt:Nat}
end
end
section
section
variable {P:Program} {α:Type} {enc : α→List D} {sz:Nat}
end
end
theorem bl_irrefl:∀ a:List UInt8,Op.bytesLess a a=false
 | []=>rfl
 | x :: a=>by simp [Op.bytesLess,bl_irrefl a]
theorem bl_total:∀ a b:List UInt8,Op.bytesLess a b=false→Op.bytesLess b a=false→a=b
 | [],[],_,_=>rfl
 | [],y :: b,h,_=>by simp [Op.bytesLess] at h
 | x :: a,[],_,h=>by simp [Op.bytesLess] at h
 | x :: a, y :: b, h, h' => by
   simp only [Op.bytesLess,Bool.or_eq_false_iff,decide_eq_false_iff_not,Bool.and_eq_false_iff,beq_eq_false_iff_ne,UInt8.lt_iff_toNat_lt] at h h'
   have hxy:x=y:=by
    apply UInt8.toNat_inj.1
    omega
   subst hxy
   have h1:=h.2.resolve_left (fun e=>e rfl)
   have h2:=h'.2.resolve_left (fun e=>e rfl)
   rw [bl_total a b h1 h2]
theorem bl_trans:∀ a b c:List UInt8,Op.bytesLess a b=true→Op.bytesLess b c=true→Op.bytesLess a c=true
 | _,[],_,h,_=>by cases ‹List UInt8›<;>simp [Op.bytesLess] at h
 | _,_ :: _,[],_,h=>by simp [Op.bytesLess] at h
 | [],_ :: _,_ :: _,_,_=>rfl
 | x :: a, y :: b, z :: c, h, h' => by
   simp only [Op.bytesLess,Bool.or_eq_true,decide_eq_true_eq,Bool.and_eq_true,beq_iff_eq,UInt8.lt_iff_toNat_lt] at h h' ⊢
   rcases h with h | ⟨rfl,h⟩<;>rcases h' with h' | ⟨rfl,h'⟩
   · left; omega
   · left; exact h
   · left; exact h'
   · right; exact ⟨rfl,bl_trans a b c h h'⟩
theorem bl_asymm {a b:List UInt8} (h:Op.bytesLess a b=true):Op.bytesLess b a=false:=by
 cases h2:Op.bytesLess b a with
 | false=>rfl
 | true=>have:=bl_trans a b a h h2; rw [bl_irrefl] at this; cases this
theorem cmpStr_lt {a b:List UInt8}:cmpStr a b < 0 ↔ Op.bytesLess a b=true:=by
 unfold cmpStr
 split
 · simp_all
 · split<;>simp_all
theorem cmpStr_gt {a b:List UInt8}:0 < cmpStr a b ↔ Op.bytesLess b a=true:=by
 unfold cmpStr
 split
 · rename_i h; simp [bl_asymm h]
 · rename_i h
   split
   · rename_i h2
     simp [h] at h2
     subst h2
     simp [bl_irrefl]
   · rename_i h2
     simp [h] at h2
     cases h3:Op.bytesLess b a with
     | true=>simp
     | false=>exact absurd (bl_total a b (by simpa using h) h3) h2
theorem cmpStr_zero {a b:List UInt8}:cmpStr a b=0 ↔ a=b:=by
 constructor
 · intro h
   have h1:¬ cmpStr a b < 0:=by omega
   have h2:¬ 0 < cmpStr a b:=by omega
   rw [cmpStr_lt] at h1
   rw [cmpStr_gt] at h2
   exact bl_total a b (by simpa using h1) (by simpa using h2)
 · rintro rfl
   have h1:¬ cmpStr a a < 0:=by rw [cmpStr_lt,bl_irrefl]; simp
   have h2:¬ 0 < cmpStr a a:=by rw [cmpStr_gt,bl_irrefl]; simp
   omega
theorem cmpStr_cmp:Cmp cmpStr where
 refl:=fun x=>cmpStr_zero.2 rfl
 anti:=fun x y=>by rw [cmpStr_lt,cmpStr_gt]
 trans:=fun x y z h1 h2=>by
  have e1:x=y∨Op.bytesLess x y=true:=by
   by_cases h:cmpStr x y=0
   · exact .inl (cmpStr_zero.1 h)
   · exact .inr (cmpStr_lt.1 (by omega))
  have e2:y=z∨Op.bytesLess y z=true:=by
   by_cases h:cmpStr y z=0
   · exact .inl (cmpStr_zero.1 h)
   · exact .inr (cmpStr_lt.1 (by omega))
  rcases e1 with rfl | e1<;>rcases e2 with rfl | e2
  · exact h1
  · exact h2
  · exact h1
  · have:=cmpStr_lt.2 (bl_trans x y z e1 e2); omega
theorem Cmp.on {α β:Type} {c : β → β→Int} (h:Cmp c) (f : α → β):Cmp fun x y=>c (f x) (f y) :=
 ⟨fun x=>h.refl _,fun x y=>h.anti _ _,fun x y z=>h.trans _ _ _⟩
section
section
variable {P:Program} {α:Type} {enc : α→List D} {sz:Nat}
theorem cloneD_acall {bytes e:Nat} {f:FuncId} {fn:Func} (hf:P.funcs[f]?=some fn) (hcf:compF P [1000005] fn=some (irCloneM sz bytes e)) {H:Hp} {z:Bool} {rows:List (List D)} (hb:rows.length * bytes≤140737488355328) :
 ACall P f [.d (.sl z sz rows)] H (fun r H'=>r = .d (.sl (z && rows.isEmpty) sz rows)∧H'=H):=by
 by_cases h0:rows=[]
 · subst h0
   cases z with
   | true=>exact clone0_acall hf hcf
   | false=>exact ACall.freeze (k:=0) (X:=[.arr sz []]) (by simp) (cloneM0_acall hf hcf)
 · have:rows.isEmpty=false:=by cases rows<;>simp_all
   rw [this,Bool.and_false]
   exact ACall.freeze (k:=1) (X:=[.arr sz [],.arr sz (rows.map (List.map .d))]) (by simp) (cloneM_acall hf hcf h0 hb)
end
end
section
section
variable {κ κ':K} {i j:Nat}
end
end
theorem rowAt_map {α:Type} (f : α→List D) {l:List α} {i:Nat} (h:i < l.length):Zam.rowAt (l.map f) (i:Int)=some (f l[i]):=by
 simp [Zam.rowAt,h]
theorem rowAt_get {α:Type} {f : α→List D} {l:List α} {i:Nat} {x : α} (h:l[i]?=some x):Zam.rowAt (l.map f) (i:Int)=some (f x):=by
 simp [Zam.rowAt,h]
theorem take_map_succ {α β:Type} (f : α → β) {l:List α} {i:Nat} (h:i < l.length):(l.map f).take (i+1)=(l.map f).take i++[f l[i]]:=by
 rw [List.take_succ_eq_append_getElem (by simpa using h)]; simp
def NextK (J:Nat→Fr→Hp→Prop) (_:Tag J) (m n si sn st:Nat) (i:Nat) (fr:Fr) (H:Hp):Prop :=
 fr si = .d (.int .i64 (i:Int))∧fr sn = .d (.int .i64 (n:Int))∧∃ k,m≤k∧k≤H.length∧J (i+1) (Fr.clr k ((fr.set st (.d (.int .i64 ((i:Int)+1)))).set si (.d (.int .i64 ((i:Int)+1))))) (Hp.cut k H)
@[congr] theorem NextK_congr {J:Nat→Fr→Hp→Prop} {t:Tag J} {m n si sn st i:Nat} {fr fr':Fr} {H H':Hp} (h:fr=fr') (h2:H=H'):NextK J t m n si sn st i fr H=NextK J t m n si sn st i fr' H':=by rw [h,h2]
theorem NextK_of {J:Nat→Fr→Hp→Prop} {t:Tag J} {m n si sn st i:Nat} {fr:Fr} {H:Hp} (k:Nat) (hk:m≤k) (h:k≤H.length∧fr si = .d (.int .i64 (i:Int))∧fr sn = .d (.int .i64 (n:Int)))
 (hj:J (i+1) (Fr.clr k ((fr.set st (.d (.int .i64 ((i:Int)+1)))).set si (.d (.int .i64 ((i:Int)+1))))) (Hp.cut k H)):NextK J t m n si sn st i fr H :=
 ⟨h.2.1,h.2.2,k,hk,h.1,hj⟩
def rangeC (si sn sb st b c:Nat) (body:C):C :=
 .seq (.ops [⟨some sb,none,.bin .lss (.t si) (.t sn)⟩] false) (.seq (.cond (.t sb) .skip (.exit b)) (.seq (.blk c body) (.ops [⟨some st,none,.bin .add (.t si) (.c (.int .i64 1))⟩,⟨some si,none,.mv (.t st)⟩] false)))
theorem RangeK_of {P:Program} {n0:Nat} {Q:Ex→Fr→Hp→Prop} {fr:Fr} {H:Hp} {si sn sb st b c:Nat} {body:C} {t:Tag (Q,rangeC si sn sb st b c body)} (m n:Nat) (J:Nat→Fr→Hp→Prop) (hn:n≤4611686018427387904)
 (hne:(si ≠ sn∧si ≠ sb∧sn ≠ sb)∧(sb ≠ st∧sn ≠ st)) (h1:n0≤m∧m≤H.length) (h2:fr si = .d (.int .i64 0)∧fr sn = .d (.int .i64 (n:Int))) (h3:J 0 (fr.clr m) (Hp.cut m H))
 (h4:∀ i fr H,i < n→fr si = .d (.int .i64 (i:Int))→fr sn = .d (.int .i64 (n:Int))→J i fr H →
  AWp P n0 body (Ex.blk c (Ex.then (NextK J .mk m n si sn st i) Q)) (fr.set sb (.d (.bool true))) H)
 (h5:∀ fr H,fr si = .d (.int .i64 (n:Int))→fr sn = .d (.int .i64 (n:Int))→J n fr H→Q (.exit b) (fr.set sb (.d (.bool false))) H) :
 LoopK Q (rangeC si sn sb st b c body) t P n0 fr H:=by
 obtain ⟨⟨n1,n2,n3⟩,n4,n5⟩:=hne
 refine LoopK_of m (fun fr H=>∃ i:Nat,i≤n∧fr si = .d (.int .i64 (i:Int))∧fr sn = .d (.int .i64 (n:Int))∧J i fr H) (fun fr H=>match fr si with | .d (.int _ k)=>(n - k).toNat | _=>0) h1
  ⟨0,Nat.zero_le _,by simp [h2.1],by simp [h2.2],h3⟩ ?_
 rintro fr H ⟨i,hi,f1,f2,hj⟩
 simp [rangeC,f1,f2]
 refine BrK_split (fun h => ?_) (fun h => ?_)
 · have hlt:i < n:=by simpa using h
   have hw:IntKind.i64.wrap ((i:Int)+1)=i+1:=wrap_i64 (by omega) (by omega)
   have hd:decide (i < n)=true:=by simpa using hlt
   rw [hd]
   simp only [AWp_skip,then_normal,AWp_seq,AWp_blk]
   refine AWp.mono _ ?_ _ _ (h4 i fr H hlt f1 f2 hj)
   intro e fr' H' h
   have fin:NextK J .mk m n si sn st i fr' H'→Ex.then (AWp P n0 (.ops [⟨some st,none,.bin .add (.t si) (.c (.int .i64 1))⟩,⟨some si,none,.mv (.t st)⟩] false) (Ex.then (Again m (fun fr H=>∃ i:Nat,i≤n∧fr si = .d (.int .i64 (i:Int))∧fr sn = .d (.int .i64 (n:Int))∧J i fr H) (fun fr H=>match fr si with | .d (.int _ k)=>(n - k).toNat | _=>0) (n - i)) Q)) (Ex.then (Again m (fun fr H=>∃ i:Nat,i≤n∧fr si = .d (.int .i64 (i:Int))∧fr sn = .d (.int .i64 (n:Int))∧J i fr H) (fun fr H=>match fr si with | .d (.int _ k)=>(n - k).toNat | _=>0) (n - i)) Q) Ex.normal fr' H':=by
    rintro ⟨g1,g2,k,k1,k2,k3⟩
    simp [g1,hw]
    refine AgainK_ofk k k1 k2 ⟨i+1,by omega,by simp,by simp [n1.symm,n5,g2],?_⟩ ?_
    · exact k3
    · simp; omega
   cases e with
   | normal=>exact fin h
   | exit j =>
     simp only [blk_exit] at h ⊢
     by_cases hj:j=c
     · rw [if_pos hj] at h ⊢; exact fin h
     · rw [if_neg hj] at h ⊢; exact h
   | ret=>exact h
 · have : i = n := by have : ¬ i < n := by simpa using h
                      omega
   subst this
   simp
   exact h5 fr H f1 f2 hj
def NextF (J:Nat→Fr→Hp→Prop) (_:Tag J) (m n si su sv:Nat) (i:Nat) (fr:Fr) (H:Hp):Prop :=
 fr si = .d (.int .i64 (i:Int))∧i < n∧∃ k,m≤k∧k≤H.length∧J (i+1) (Fr.clr k (((fr.set su (.d (.int .i64 (i:Int)))).set sv (.d (.int .i64 ((i:Int)+1)))).set si (.d (.int .i64 ((i:Int)+1))))) (Hp.cut k H)
@[congr] theorem NextF_congr {J:Nat→Fr→Hp→Prop} {t:Tag J} {m n si su sv i:Nat} {fr fr':Fr} {H H':Hp} (h:fr=fr') (h2:H=H'):NextF J t m n si su sv i fr H=NextF J t m n si su sv i fr' H':=by rw [h,h2]
theorem NextF_of {J:Nat→Fr→Hp→Prop} {t:Tag J} {m n si su sv i:Nat} {fr:Fr} {H:Hp} (k:Nat) (hk:m≤k) (hi:i < n) (h:k≤H.length∧fr si = .d (.int .i64 (i:Int)))
 (hj:J (i+1) (Fr.clr k (((fr.set su (.d (.int .i64 (i:Int)))).set sv (.d (.int .i64 ((i:Int)+1)))).set si (.d (.int .i64 ((i:Int)+1))))) (Hp.cut k H)):NextF J t m n si su sv i fr H :=
 ⟨h.2,hi,k,hk,h.1,hj⟩
def forC (si su sv c:Nat) (cnd body:C):C :=
 .seq cnd (.seq (.blk c body) (.ops [⟨some su,none,.mv (.t si)⟩,⟨some sv,none,.bin .add (.t su) (.c (.int .i64 1))⟩,⟨some si,none,.mv (.t sv)⟩] false))
theorem ForK_of {P:Program} {n0:Nat} {Q:Ex→Fr→Hp→Prop} {fr:Fr} {H:Hp} {si su sv c:Nat} {cnd body:C} {t:Tag (Q,forC si su sv c cnd body)} (m n:Nat) (J:Nat→Fr→Hp→Prop) (hn:n≤4611686018427387904)
 (hne:si ≠ su∧si ≠ sv∧su ≠ sv) (h1:n0≤m∧m≤H.length) (h2:fr si = .d (.int .i64 0)) (h3:J 0 (fr.clr m) (Hp.cut m H))
 (h4:∀ i fr H,i≤n→fr si = .d (.int .i64 (i:Int))→J i fr H →
  AWp P n0 cnd (Ex.then (AWp P n0 body (Ex.blk c (Ex.then (NextF J .mk m n si su sv i) Q))) Q) fr H) :
 LoopK Q (forC si su sv c cnd body) t P n0 fr H:=by
 obtain ⟨n1,n2,n3⟩:=hne
 refine LoopK_of m (fun fr H=>∃ i:Nat,i≤n∧fr si = .d (.int .i64 (i:Int))∧J i fr H) (fun fr H=>match fr si with | .d (.int _ k)=>(n - k).toNat | _=>0) h1
  ⟨0,Nat.zero_le _,by simp [h2],h3⟩ ?_
 rintro fr H ⟨i,hi,f1,hj⟩
 simp only [forC,AWp_seq]
 refine AWp.mono _ ?_ _ _ (h4 i fr H hi f1 hj)
 intro e fr' H' h
 cases e with
 | normal =>
   simp only [then_normal,AWp_seq,AWp_blk] at h ⊢
   refine AWp.mono _ ?_ _ _ h
   intro e fr' H' h
   have fin:NextF J .mk m n si su sv i fr' H'→AWp P n0 (.ops [⟨some su,none,.mv (.t si)⟩,⟨some sv,none,.bin .add (.t su) (.c (.int .i64 1))⟩,⟨some si,none,.mv (.t sv)⟩] false) (Ex.then (Again m (fun fr H=>∃ i:Nat,i≤n∧fr si = .d (.int .i64 (i:Int))∧J i fr H) (fun fr H=>match fr si with | .d (.int _ k)=>(n - k).toNat | _=>0) (match fr si with | .d (.int _ k)=>(n - k).toNat | _=>0)) Q) fr' H':=by
    rintro ⟨g1,g0,k,k1,k2,k3⟩
    have hw:IntKind.i64.wrap ((i:Int)+1)=i+1:=wrap_i64 (by omega) (by omega)
    simp [g1,hw,f1]
    refine AgainK_ofk k k1 k2 ⟨i+1,by omega,by simp,?_⟩ ?_
    · exact k3
    · simp; omega
   cases e with
   | normal=>simp only [blk_normal,then_normal] at h ⊢; exact fin h
   | exit j =>
     simp only [blk_exit] at h ⊢
     by_cases hj:j=c
     · rw [if_pos hj] at h ⊢; exact fin h
     · rw [if_neg hj] at h ⊢; exact h
   | ret=>exact h
 | exit j=>exact h
 | ret=>exact h
def Ex.outE (b:Nat) (E:Fr→Hp→Prop) (Q:Ex→Fr→Hp→Prop):Ex→Fr→Hp→Prop
 | .exit j,fr,H=>if j=b then E fr H else Q (.exit j) fr H
 | e,fr,H=>Q e fr H
@[simp ↓] theorem outE_exit (b j:Nat) {E:Fr→Hp→Prop} {Q:Ex→Fr→Hp→Prop} {fr:Fr} {H:Hp}:Ex.outE b E Q (.exit j) fr H=if j=b then E fr H else Q (.exit j) fr H:=propext Iff.rfl
@[simp ↓] theorem outE_ret (b:Nat) {E:Fr→Hp→Prop} {Q:Ex→Fr→Hp→Prop} {fr:Fr} {H:Hp}:Ex.outE b E Q .ret fr H=Q .ret fr H:=propext Iff.rfl
@[simp ↓] theorem outE_normal (b:Nat) {E:Fr→Hp→Prop} {Q:Ex→Fr→Hp→Prop} {fr:Fr} {H:Hp}:Ex.outE b E Q .normal fr H=Q .normal fr H:=propext Iff.rfl
def Ex.outR (b:Nat) (E R:Fr→Hp→Prop):Ex→Fr→Hp→Prop
 | .exit j,fr,H=>if j=b then E fr H else False
 | .ret,fr,H=>R fr H
 | .normal,_,_=>False
@[simp ↓] theorem outR_exit (b j:Nat) {E R:Fr→Hp→Prop} {fr:Fr} {H:Hp}:Ex.outR b E R (.exit j) fr H=if j=b then E fr H else False:=propext Iff.rfl
@[simp ↓] theorem outR_ret (b:Nat) {E R:Fr→Hp→Prop} {fr:Fr} {H:Hp}:Ex.outR b E R .ret fr H=R fr H:=propext Iff.rfl
theorem LoopK_outR {P:Program} {n0:Nat} {Q:Ex→Fr→Hp→Prop} {fr:Fr} {H:Hp} {c:C} {t:Tag (Q,c)} (b:Nat) (E R:Fr→Hp→Prop) (h:LoopK (Ex.outR b E R) c .mk P n0 fr H) (hret:∀ fr H,R fr H→Q .ret fr H) (hout:∀ fr H,E fr H→Q (.exit b) fr H):LoopK Q c t P n0 fr H :=
 AWp.mono (.loop c) (fun e fr H h=>by
  cases e with
  | normal=>exact h.elim
  | ret=>exact hret fr H h
  | exit j =>
    simp only [outR_exit] at h
    by_cases hj:j=b
    · rw [if_pos hj] at h; rw [hj]; exact hout fr H h
    · rw [if_neg hj] at h; exact h.elim) fr H h
def Ex.outN (E R:Fr→Hp→Prop):Ex→Fr→Hp→Prop
 | .exit _,_,_=>False
 | .ret,fr,H=>R fr H
 | .normal,fr,H=>E fr H
@[simp ↓] theorem outN_normal {E R:Fr→Hp→Prop} {fr:Fr} {H:Hp}:Ex.outN E R .normal fr H=E fr H:=propext Iff.rfl
@[simp ↓] theorem outN_ret {E R:Fr→Hp→Prop} {fr:Fr} {H:Hp}:Ex.outN E R .ret fr H=R fr H:=propext Iff.rfl
theorem Seq_out {P:Program} {n0:Nat} {Q:Ex→Fr→Hp→Prop} {fr:Fr} {H:Hp} {a b:C} (E R:Fr→Hp→Prop) (h:AWp P n0 a (Ex.outN E R) fr H) (hret:∀ fr H,R fr H→Q .ret fr H) (hout:∀ fr H,E fr H→AWp P n0 b Q fr H):AWp P n0 (.seq a b) Q fr H :=
 AWp.mono a (fun e fr H h=>by
  cases e with
  | normal=>exact hout fr H h
  | ret=>exact hret fr H h
  | exit j=>exact h.elim) fr H h
theorem LoopK_out {P:Program} {n0:Nat} {Q:Ex→Fr→Hp→Prop} {fr:Fr} {H:Hp} {c:C} {t:Tag (Q,c)} (b:Nat) (E:Fr→Hp→Prop) (h:LoopK (Ex.outE b E Q) c .mk P n0 fr H) (hout:∀ fr H,E fr H→Q (.exit b) fr H):LoopK Q c t P n0 fr H :=
 AWp.mono (.loop c) (fun e fr H h=>by
  cases e with
  | normal=>exact h
  | ret=>exact h
  | exit j =>
    simp only [outE_exit] at h
    by_cases hj:j=b
    · rw [if_pos hj] at h; rw [hj]; exact hout fr H h
    · rw [if_neg hj] at h; exact h) fr H h

section
open Go.RowKit (Below)
theorem HR.later {κ:K} {H:Hp} {w w':World} (h:HR κ H w) (hb:Below w.heap.size w w'):HR κ H w':=by
 have hst:∀ b o v,κ.σ b o=some v→b < w.heap.size:=fun b o v hv=>World.block_lt_of_cell? w ⟨b,o,none⟩ (h.st b o v hv)
 refine ⟨h.below.trans (hb.mono h.below.size),fun b o v hv => ?_,fun i x hx => ?_,h.dom,fun i b hi => ?_,h.exσ,h.exd,h.fl⟩
 · rw [(cell_of_block (hb.block b (hst b o v hv)) o).1]; exact h.st b o v hv
 · exact (h.ob i x hx).mono (K.le_refl κ) rfl fun b hb'=>hb.block b (h.ex i b hb').2
 · have:=h.ex i b hi
   have:=hb.size
   omega
theorem leaf {P:Program} {f:FuncId} {args:List D} {x:D}
 (h:∀ (w:World) (σ:St) (vs:List Value),(∀ b o v,σ b o=some v→w.cell? ⟨b,o,none⟩=some v)→vs.length=args.length→(∀ (i:Nat) (v:Value) (d:D),vs[i]?=some v→args[i]?=some d→DR σ v d) →
  Calls P f vs.toArray w fun e w'=>∃ v,e = .returned v∧Below w.heap.size w w'∧∀ σ,DR σ v x) (H:Hp):ACall P f (args.map .d) H (fun r H'=>r = .d x∧H'=H):=by
 intro κ w vs hr hl hv
 refine (h w κ.σ vs hr.st (by simpa using hl) (fun i v d hi hd=>(hv i v (.d d) hi (by simp [hd])).d_inv)).mono ?_
 rintro e w' ⟨v,rfl,hb,hd⟩
 exact ⟨v,κ,_,H,rfl,K.le_refl κ,hr.later hb,.d (hd _),rfl,rfl⟩
theorem DR.str_inv {σ:St} {v:Value} {s:List UInt8} (h:DR σ v (.str s)):v = .string ⟨s.toArray⟩:=by
 cases h with
 | str u=>simp
theorem DR.int_inv {σ:St} {v:Value} {k:IntKind} {n:Int} (h:DR σ v (.int k n)):v = .int k n:=by cases h; rfl
theorem DR.strOf {σ:St} (l:List UInt8):DR σ (.string ⟨l.toArray⟩) (.str l):=by
 have:=DR.str (σ := σ) ⟨l.toArray⟩
 simpa using this
def irWriteByte (cc et : Nat) : IFn := { nt := 17, res := [.t 4], body := ( .seq (.ops [⟨some 4,none,.mv (.c .nili)⟩] false) (.seq (.ops [⟨some 5,none,.mv (.t 0)⟩,⟨some 6,none,.call cc [(.t 5)]⟩] false) (.seq (.ops [⟨some 7,none,.mv (.t 0)⟩,⟨some 8,none,.mv (.t 0)⟩,⟨some 9,none,.nilCheck (.t 8)⟩,⟨some 10,none,.faddr 1 (.t 9)⟩,⟨some 11,none,.load 1 false (.t 10)⟩,⟨some 12,none,.mv (.t 1)⟩,⟨some 13,none,.bslice 1 [(.t 12)]⟩,⟨some 14,none,.app 1 1 et (.t 11) (.t 13)⟩,⟨some 15,none,.nilCheck (.t 7)⟩,⟨some 16,none,.faddr 1 (.t 15)⟩,⟨none,none,.store 1 (.t 16) (.t 14)⟩] false) (.seq (.ops [⟨some 4,none,.mv (.c .nili)⟩] false) (.ret))))) }
theorem writeByte_acall {P:Program} {f cc bt et:Nat} {fn:Func} (hf:P.funcs[f]?=some fn) (hcf:compF P [] fn=some (irWriteByte cc et)) (hcc:CopyOk P cc bt) (H:Hp) (i t:Nat) (a:A) (bs:List UInt8) (c:UInt8)
 (hi:H[i]?=some (.box bt [a,.osl true 1 (byteRows bs) t])) (ha:a = .d .nilp∨a = .ptr i 0) (ht:H[t]?=some (.tok bs.length 1 et)) (hb:bs.length+1≤140737488355328) :
 ACall P f [.ptr i 0,.d (.int .u8 c.toNat)] H (fun r H'=>r = .d .nili∧H'=(H.set i (.box bt [.ptr i 0,.osl true 1 (byteRows (bs++[c])) t])).set t (.tok (bs++[c]).length 1 et)):=by
 have hit:i ≠ t:=fun e=>by subst e; rw [hi] at ht; cases ht
 have hil:i < H.length:=(List.getElem?_eq_some_iff.1 hi).1
 have htl:t < H.length:=(List.getElem?_eq_some_iff.1 ht).1
 refine acall_fin hf hcf (by simp [irWriteByte]) fun hcl hlo => ?_
 simp [irWriteByte]
 refine CallK_of' (hcc _ _ _ _ hi ha) ?_
 have hbl:(byteRows bs).length=bs.length:=by simp [byteRows]
 have ht':(H.set i (.box bt [.ptr i 0,.osl true 1 (byteRows bs) t]))[t]?=some (.tok (byteRows bs).length 1 et):=by
  rw [List.getElem?_set_ne hit,ht,hbl]
 have htv:H[t]=Ob.tok bs.length 1 et:=(List.getElem?_eq_some_iff.1 ht).2
 have hb':bs.length≤140737488355327:=by omega
 simp [hil,htl,hit,htv,hb',appA,hbl,Ne.symm hit]
 simp [RetK,Hp.cut_set,cut_self hcl,hil,htl,byteRows]
 rw [List.set_comm _ _ hit,List.set_comm _ _ hit,List.set_set]
end
section
def irDigit : IFn := { nt := 9, res := [.t 2], body := ( .seq (.ops [⟨some 2,none,.mv (.c (.bool false))⟩] false) (.seq (.ops [⟨some 3,none,.mv (.t 0)⟩,⟨some 4,none,.bin .geq (.t 3) (.c (.int .u8 48))⟩,⟨some 5,none,.mv (.t 4)⟩,⟨some 6,some (5,true),.mv (.t 0)⟩,⟨some 7,some (5,true),.bin .leq (.t 6) (.c (.int .u8 57))⟩,⟨some 8,none,.pick (.t 5) (.t 7) (.c (.bool false))⟩,⟨some 2,none,.mv (.t 8)⟩] false) (.ret))) }
def irLetter : IFn := { nt := 21, res := [.t 2], body := ( .seq (.ops [⟨some 2,none,.mv (.c (.bool false))⟩] false) (.seq (.ops [⟨some 3,none,.mv (.t 0)⟩,⟨some 4,none,.bin .geq (.t 3) (.c (.int .u8 97))⟩,⟨some 5,none,.mv (.t 4)⟩,⟨some 6,some (5,true),.mv (.t 0)⟩,⟨some 7,some (5,true),.bin .leq (.t 6) (.c (.int .u8 122))⟩,⟨some 8,none,.pick (.t 5) (.t 7) (.c (.bool false))⟩,⟨some 9,none,.mv (.t 8)⟩,⟨some 10,some (9,false),.mv (.t 0)⟩,⟨some 11,some (9,false),.bin .geq (.t 10) (.c (.int .u8 65))⟩,⟨some 12,some (9,false),.mv (.t 11)⟩,⟨some 13,some (12,true),.mv (.t 0)⟩,⟨some 14,some (12,true),.bin .leq (.t 13) (.c (.int .u8 90))⟩,⟨some 15,some (9,false),.pick (.t 12) (.t 14) (.c (.bool false))⟩,⟨some 16,none,.pick (.t 9) (.c (.bool true)) (.t 15)⟩,⟨some 17,none,.mv (.t 16)⟩,⟨some 18,some (17,false),.mv (.t 0)⟩,⟨some 19,some (17,false),.bin .eql (.t 18) (.c (.int .u8 95))⟩,⟨some 20,none,.pick (.t 17) (.c (.bool true)) (.t 19)⟩,⟨some 2,none,.mv (.t 20)⟩] false) (.ret))) }
def irIsKey : IFn := { nt := 18, res := [.t 2], body := ( .seq (.ops [⟨some 2,none,.mv (.c (.bool false))⟩] false) (.seq (.ops [⟨some 5,none,.bslice 1 [(.c (.str [117,115,101])),(.c (.str [100,101,102])),(.c (.str [108,101,116])),(.c (.str [105,102])),(.c (.str [101,108,115,101])),(.c (.str [119,104,105,108,101])),(.c (.str [112,114,105,110,116])),(.c (.str [114,101,116,117,114,110])),(.c (.str [102,110])),(.c (.str [105,110,112,117,116])),(.c (.str [105,110,116])),(.c (.str [115,116,114])),(.c (.str [100,121,110]))]⟩,⟨some 3,none,.mv (.t 5)⟩] false) (.seq (.seq (.ops [⟨some 4,none,.mv (.c (.int .i64 0))⟩] false) (.blk 0 (.loop (.seq (.seq (.ops [⟨some 6,none,.mv (.t 4)⟩,⟨some 7,none,.mv (.t 3)⟩,⟨some 8,none,.lenL (.t 7)⟩,⟨some 9,none,.bin .lss (.t 6) (.t 8)⟩] false) (.cond (.t 9) (.skip) (.exit 0))) (.seq (.blk 1 (.seq (.ops [⟨some 12,none,.mv (.t 3)⟩,⟨some 13,none,.mv (.t 4)⟩,⟨some 14,none,.iaddr 1 (.t 12) (.t 13)⟩,⟨some 15,none,.load 1 false (.t 14)⟩,⟨some 16,none,.mv (.t 0)⟩,⟨some 17,none,.bin .eql (.t 15) (.t 16)⟩] false) (.cond (.t 17) (.seq (.ops [⟨some 2,none,.mv (.c (.bool true))⟩] false) (.ret)) (.skip)))) (.ops [⟨some 10,none,.mv (.t 4)⟩,⟨some 11,none,.bin .add (.t 10) (.c (.int .i64 1))⟩,⟨some 4,none,.mv (.t 11)⟩] false)))))) (.seq (.ops [⟨some 2,none,.mv (.c (.bool false))⟩] false) (.ret))))) }
def irIsName (fk fd fl : Nat) : IFn := { nt := 39, res := [.t 2], body := ( .seq (.ops [⟨some 2,none,.mv (.c (.bool false))⟩] false) (.seq (.seq (.ops [⟨some 4,none,.mv (.t 0)⟩,⟨some 5,none,.lenS (.t 4)⟩,⟨some 6,none,.bin .eql (.t 5) (.c (.int .i64 0))⟩,⟨some 7,none,.mv (.t 6)⟩,⟨some 8,some (7,false),.mv (.t 0)⟩,⟨some 9,some (7,false),.lenS (.t 8)⟩,⟨some 10,some (7,false),.bin .gtr (.t 9) (.c (.int .i64 40))⟩,⟨some 11,none,.pick (.t 7) (.c (.bool true)) (.t 10)⟩,⟨some 12,none,.mv (.t 11)⟩,⟨some 13,some (12,false),.mv (.t 0)⟩,⟨some 14,some (12,false),.call fk [(.t 13)]⟩,⟨some 15,none,.pick (.t 12) (.c (.bool true)) (.t 14)⟩,⟨some 16,none,.mv (.t 15)⟩,⟨some 17,some (16,false),.mv (.t 0)⟩,⟨some 18,some (16,false),.sidx (.t 17) (.c (.int .i64 0))⟩,⟨some 19,some (16,false),.call fd [(.t 18)]⟩,⟨some 20,none,.pick (.t 16) (.c (.bool true)) (.t 19)⟩] false) (.cond (.t 20) (.seq (.ops [⟨some 2,none,.mv (.c (.bool false))⟩] false) (.ret)) (.skip))) (.seq (.seq (.ops [⟨some 3,none,.mv (.c (.int .i64 0))⟩] false) (.blk 0 (.loop (.seq (.seq (.ops [⟨some 21,none,.mv (.t 3)⟩,⟨some 22,none,.mv (.t 0)⟩,⟨some 23,none,.lenS (.t 22)⟩,⟨some 24,none,.bin .lss (.t 21) (.t 23)⟩] false) (.cond (.t 24) (.skip) (.exit 0))) (.seq (.blk 1 (.seq (.ops [⟨some 27,none,.mv (.t 0)⟩,⟨some 28,none,.mv (.t 3)⟩,⟨some 29,none,.sidx (.t 27) (.t 28)⟩,⟨some 30,none,.call fl [(.t 29)]⟩,⟨some 31,none,.un .not (.t 30)⟩,⟨some 32,none,.mv (.t 31)⟩,⟨some 33,some (32,true),.mv (.t 0)⟩,⟨some 34,some (32,true),.mv (.t 3)⟩,⟨some 35,some (32,true),.sidx (.t 33) (.t 34)⟩,⟨some 36,some (32,true),.call fd [(.t 35)]⟩,⟨some 37,some (32,true),.un .not (.t 36)⟩,⟨some 38,none,.pick (.t 32) (.t 37) (.c (.bool false))⟩] false) (.cond (.t 38) (.seq (.ops [⟨some 2,none,.mv (.c (.bool false))⟩] false) (.ret)) (.skip)))) (.ops [⟨some 25,none,.mv (.t 3)⟩,⟨some 26,none,.bin .add (.t 25) (.c (.int .i64 1))⟩,⟨some 3,none,.mv (.t 26)⟩] false)))))) (.seq (.ops [⟨some 2,none,.mv (.c (.bool true))⟩] false) (.ret))))) }
def digitB (b:UInt8):Bool:=decide ((48:Int)≤b.toNat) && decide ((b.toNat:Int)≤57)
def letterB (b:UInt8):Bool:=(decide ((97:Int)≤b.toNat) && decide ((b.toNat:Int)≤122)) || (decide ((65:Int)≤b.toNat) && decide ((b.toNat:Int)≤90)) || decide ((b.toNat:Int)=95)
def keysL:List (List UInt8):=[[117,115,101],[100,101,102],[108,101,116],[105,102],[101,108,115,101],[119,104,105,108,101],[112,114,105,110,116],[114,101,116,117,114,110],[102,110],[105,110,112,117,116],[105,110,116],[115,116,114],[100,121,110]]
def isNameB (s:List UInt8):Bool:=match s with
 | []=>false
 | b :: r=>decide ((b :: r).length≤40) && !decide ((b :: r) ∈ keysL) && !digitB b && (b :: r).all fun c=>letterB c || digitB c
section
variable {P:Program}
theorem digit_acall {f:FuncId} {fn:Func} (hf:P.funcs[f]?=some fn) (hcf:compF P [] fn=some irDigit) (b:UInt8) (H:Hp):ACall P f [.d (.int .u8 b.toNat)] H (fun r H'=>r = .d (.bool (digitB b))∧H'=H):=by
 refine acall_fin hf hcf (by simp [irDigit]) fun hcl _ => ?_
 simp [irDigit]
 refine GdK_split (by simp) (fun h => ?_) (fun h => ?_)
 · simp
   simp at h
   simp [RetK,cut_self hcl,digitB,h]
 · simp
   simp at h
   simp [RetK,cut_self hcl,digitB]
   omega
theorem letter_acall {f:FuncId} {fn:Func} (hf:P.funcs[f]?=some fn) (hcf:compF P [] fn=some irLetter) (b:UInt8) (H:Hp):ACall P f [.d (.int .u8 b.toNat)] H (fun r H'=>r = .d (.bool (letterB b))∧H'=H):=by
 refine acall_fin hf hcf (by simp [irLetter]) fun hcl _ => ?_
 simp [irLetter]
 generalize ha:decide ((97:Int)≤b.toNat)=a
 generalize hb:decide ((b.toNat:Int)≤122)=c
 generalize hd:decide ((65:Int)≤b.toNat)=d
 generalize he:decide ((b.toNat:Int)≤90)=e
 have hl:letterB b=(a && c || d && e || decide ((b.toNat:Int)=95)):=by simp only [letterB,ha,hb,hd,he]
 cases a<;>cases c<;>cases d<;>cases e<;>simp [ha,hb,hd,he]<;>simp [RetK,cut_self hcl,hl]
theorem isKey_acall {f:FuncId} {fn:Func} (hf:P.funcs[f]?=some fn) (hcf:compF P [] fn=some irIsKey) (s:List UInt8) (H:Hp):ACall P f [.d (.str s)] H (fun r H'=>r = .d (.bool (decide (s ∈ keysL)))∧H'=H):=by
 refine acall_fin hf hcf (by simp [irIsKey]) fun hcl _ => ?_
 simp [irIsKey]
 have hrows:[[D.str [117,115,101]],[D.str [100,101,102]],[D.str [108,101,116]],[D.str [105,102]],[D.str [101,108,115,101]],[D.str [119,104,105,108,101]],[D.str [112,114,105,110,116]],[D.str [114,101,116,117,114,110]],[D.str [102,110]],[D.str [105,110,112,117,116]],[D.str [105,110,116]],[D.str [115,116,114]],[D.str [100,121,110]]]=keysL.map fun x=>[D.str x]:=rfl
 rw [hrows]
 refine LoopK_outR 0 (fun fr H'=>s ∉ keysL∧H'=H) (fun fr H'=>fr 2 = .d (.bool true)∧s ∈ keysL∧H'=H) ?_ ?_ ?_
 · refine ForK_of H.length keysL.length (fun i fr H'=>fr 0 = .d (.str s)∧fr 3 = .d (.sl false 1 (keysL.map fun x=>[D.str x]))∧s ∉ keysL.take i∧H'=H) (by decide) (by decide) (by simp) (by simp) ?_ ?_
   · simp [cut_self hcl]
   · rintro i fr H' hi f4 ⟨f0,f3,hn,rfl⟩
     simp [f4,f3]
     refine BrK_split (fun h => ?_) (fun h => ?_)
     · have hlt:i < keysL.length:=by simpa using h
       have hr:=rowAt_map (fun x=>[D.str x]) hlt
       have hm:=List.getElem_mem hlt
       have ht:keysL.take (i+1)=keysL.take i++[keysL[i]]:=List.take_succ_eq_append_getElem hlt
       generalize keysL[i]=x at hr hm ht
       simp [f4,f3,hr,f0]
       refine BrK_split (fun h => ?_) (fun h => ?_)
       · have e:x=s:=by simpa using h
         simp
         exact e ▸ hm
       · have e:x ≠ s:=by simpa using h
         simp
         refine NextF_of H'.length (Nat.le_refl _) hlt (by simp [f4]) ?_
         simp [f0,f3,cut_self hcl,ht,hn]
         exact fun q=>e q.symm
     · have hii : i = keysL.length := by have : ¬ i < keysL.length := by simpa using h
                                         omega
       rw [hii,List.take_of_length_le (Nat.le_refl _)] at hn
       simp [hn]
 · rintro fr H' ⟨f2,hm,rfl⟩
   simp
   simp [RetK,cut_self hcl,f2,hm]
 · rintro fr H' ⟨hm,rfl⟩
   simp
   simp [RetK,cut_self hcl,hm]
theorem isName_acall {f fk fd fl:FuncId} {fn:Func} (hf:P.funcs[f]?=some fn) (hcf:compF P [] fn=some (irIsName fk fd fl)) (hk:∀ s H,ACall P fk [.d (.str s)] H (fun r H'=>r = .d (.bool (decide (s ∈ keysL)))∧H'=H))
 (hd:∀ (b:UInt8) H,ACall P fd [.d (.int .u8 b.toNat)] H (fun r H'=>r = .d (.bool (digitB b))∧H'=H)) (hl:∀ (b:UInt8) H,ACall P fl [.d (.int .u8 b.toNat)] H (fun r H'=>r = .d (.bool (letterB b))∧H'=H)) (s:List UInt8) (H:Hp) :
 ACall P f [.d (.str s)] H (fun r H'=>r = .d (.bool (isNameB s))∧H'=H):=by
 refine acall_fin hf hcf (by simp [irIsName]) fun hcl _ => ?_
 cases s with
 | nil =>
   simp [irIsName]
   simp [RetK,cut_self hcl,isNameB]
 | cons b r =>
 have hne:¬ (((b :: r).length:Int)=0):=by simp; omega
 generalize hS:b :: r=S at hne
 have hb0:byteAt S 0=some b:=by subst hS; rfl
 have hN:isNameB S=(decide (S.length≤40) && !decide (S ∈ keysL) && !digitB b && S.all fun c=>letterB c || digitB c):=by subst hS; rfl
 have hne':¬ S=[]:=by subst hS; simp
 by_cases g1:(40:Int) < S.length
 case pos =>
  have:¬ S.length≤40:=by omega
  simp [irIsName,hne,hne',g1]
  simp [RetK,cut_self hcl,hN,this]
 have g1':S.length≤40:=by omega
 simp [irIsName,hne,hne',g1]
 refine CallK_of' (hk S _) ?_
 by_cases g2:S ∈ keysL
 case pos =>
  simp [g2]
  simp [RetK,cut_self hcl,hN,g2]
 simp [g2,hb0]
 refine CallK_of' (hd b _) ?_
 cases g3:digitB b with
 | true =>
   simp
   simp [RetK,cut_self hcl,hN,g3]
 | false =>
 simp
 refine LoopK_outR 0 (fun fr H'=>(S.all fun c=>letterB c || digitB c)=true∧H'=H) (fun fr H'=>fr 2 = .d (.bool false)∧(S.all fun c=>letterB c || digitB c)=false∧H'=H) ?_ ?_ ?_
 · refine ForK_of H.length S.length (fun i fr H'=>fr 0 = .d (.str S)∧(∀ c ∈ S.take i,(letterB c || digitB c)=true)∧H'=H) (by omega) (by decide) (by simp) (by simp) ?_ ?_
   · simp [cut_self hcl]
   · rintro i fr H' hi f3 ⟨f0,hA,rfl⟩
     simp [f3,f0]
     refine BrK_split (fun h => ?_) (fun h => ?_)
     · have hlt:i < S.length:=by simpa using h
       have hb:byteAt S (i:Int)=some S[i]:=by simp [byteAt,hlt]
       have hm:=List.getElem_mem hlt
       have ht:S.take (i+1)=S.take i++[S[i]]:=List.take_succ_eq_append_getElem hlt
       generalize S[i]=c at hb hm ht
       simp [f3,f0,hb]
       refine CallK_of' (hl c _) ?_
       cases e1:letterB c with
       | true =>
         simp
         refine NextF_of H'.length (Nat.le_refl _) hlt (by simp [f3]) ?_
         simp [f0,cut_self hcl,ht]
         intro q hq
         rcases hq with hq | rfl
         · simpa using hA q hq
         · exact .inl e1
       | false =>
         simp [f3,f0,hb]
         refine CallK_of' (hd c _) ?_
         cases e2:digitB c with
         | true =>
           simp
           refine NextF_of H'.length (Nat.le_refl _) hlt (by simp [f3]) ?_
           simp [f0,cut_self hcl,ht]
           intro q hq
           rcases hq with hq | rfl
           · simpa using hA q hq
           · exact .inr e2
         | false =>
           simp
           exact ⟨c,hm,e1,e2⟩
     · have hii : i = S.length := by have : ¬ i < S.length := by simpa using h
                                     omega
       rw [hii,List.take_of_length_le (Nat.le_refl _)] at hA
       simp
       simpa using hA
 · rintro fr H' ⟨f2,hm,rfl⟩
   simp
   simp [RetK,cut_self hcl,f2,hN,hm]
 · rintro fr H' ⟨hm,rfl⟩
   simp
   simp [RetK,cut_self hcl,hN,hm,g1',g2,g3]
end
end
section
inductive T where
 | mk (k:Int) (z:Bool) (ns:List (List UInt8)) (y:Bool) (ps:List T)
def encStr (x:List UInt8):List D:=[.str x]
mutual
def T.enc:T→List D
 | .mk k z ns y ps=>[.int .i64 k,.sl z 1 (ns.map encStr),.sl y 3 (T.encs ps)]
def T.encs:List T→List (List D)
 | []=>[]
 | p :: r=>T.enc p :: T.encs r
end
theorem T.encs_map:∀ l:List T,T.encs l=l.map T.enc
 | []=>rfl
 | p :: r=>by rw [T.encs,T.encs_map r]; rfl
theorem T.enc_mk (k:Int) (z:Bool) (ns:List (List UInt8)) (y:Bool) (ps:List T):T.enc (.mk k z ns y ps)=[.int .i64 k,.sl z 1 (ns.map encStr),.sl y 3 (ps.map T.enc)]:=by rw [T.enc,T.encs_map]
mutual
theorem T.ind {Q:T→Prop} (h:∀ k z ns y ps,(∀ p ∈ ps,Q p)→Q (.mk k z ns y ps)):∀ v,Q v
 | .mk k z ns y ps=>h k z ns y ps (T.inds h ps)
theorem T.inds {Q:T→Prop} (h:∀ k z ns y ps,(∀ p ∈ ps,Q p)→Q (.mk k z ns y ps)):∀ l:List T,∀ p ∈ l,Q p
 | []=>fun p hp=>by simp at hp
 | x :: r=>fun p hp=>(List.mem_cons.1 hp).elim (fun e=>e ▸ T.ind h x) (fun hp=>T.inds h r p hp)
end
inductive T.Fit (b:Nat):T→Prop
 | mk (k:Int) (z:Bool) (ns:List (List UInt8)) (y:Bool) (ps:List T) (h1:ns.length≤b) (h2:ps.length≤b) (h3:∀ x ∈ ns,x.length≤b) (h4:∀ p ∈ ps,T.Fit b p):T.Fit b (.mk k z ns y ps)
def T.a (t:T):A := .agg (t.enc.map .d)
theorem T.a_mk (k:Int) (z:Bool) (ns:List (List UInt8)) (y:Bool) (ps:List T):T.a (.mk k z ns y ps) = .agg [.d (.int .i64 k),.d (.sl z 1 (ns.map encStr)),.d (.sl y 3 (ps.map T.enc))]:=by rw [T.a,T.enc_mk]; rfl
def irTSize (bt fs : Nat) : IFn := { nt := 46, res := [.t 6], body := ( .seq (.ops [⟨some 3,none,.box bt 3 (.t 0)⟩,⟨some 6,none,.mv (.c (.int .i64 0))⟩] false) (.seq (.seq (.ops [⟨some 9,none,.mv (.t 2)⟩,⟨some 10,none,.bin .eql (.t 9) (.c (.int .i64 0))⟩,⟨some 11,none,.mv (.t 10)⟩,⟨some 12,some (11,false),.faddr 1 (.t 3)⟩,⟨some 13,some (11,false),.load 1 false (.t 12)⟩,⟨some 14,some (11,false),.lenL (.t 13)⟩,⟨some 15,some (11,false),.mv (.t 1)⟩,⟨some 16,some (11,false),.bin .gtr (.t 14) (.t 15)⟩,⟨some 17,none,.pick (.t 11) (.c (.bool true)) (.t 16)⟩] false) (.cond (.t 17) (.seq (.ops [⟨some 18,none,.mv (.t 1)⟩,⟨some 19,none,.bin .add (.t 18) (.c (.int .i64 1))⟩,⟨some 6,none,.mv (.t 19)⟩] false) (.ret)) (.skip))) (.seq (.ops [⟨some 7,none,.mv (.c (.int .i64 1))⟩] false) (.seq (.seq (.ops [⟨some 8,none,.mv (.c (.int .i64 0))⟩] false) (.blk 0 (.loop (.seq (.seq (.ops [⟨some 20,none,.mv (.t 8)⟩,⟨some 21,none,.faddr 2 (.t 3)⟩,⟨some 22,none,.load 1 false (.t 21)⟩,⟨some 23,none,.lenL (.t 22)⟩,⟨some 24,none,.bin .lss (.t 20) (.t 23)⟩,⟨some 25,none,.mv (.t 24)⟩,⟨some 26,some (25,true),.mv (.t 7)⟩,⟨some 27,some (25,true),.mv (.t 1)⟩,⟨some 28,some (25,true),.bin .leq (.t 26) (.t 27)⟩,⟨some 29,none,.pick (.t 25) (.t 28) (.c (.bool false))⟩] false) (.cond (.t 29) (.skip) (.exit 0))) (.seq (.blk 1 (.ops [⟨some 32,none,.mv (.t 7)⟩,⟨some 33,none,.faddr 2 (.t 3)⟩,⟨some 34,none,.load 1 false (.t 33)⟩,⟨some 35,none,.mv (.t 8)⟩,⟨some 36,none,.iaddr 3 (.t 34) (.t 35)⟩,⟨some 37,none,.load 3 true (.t 36)⟩,⟨some 38,none,.mv (.t 1)⟩,⟨some 39,none,.mv (.t 7)⟩,⟨some 40,none,.bin .sub (.t 38) (.t 39)⟩,⟨some 41,none,.mv (.t 2)⟩,⟨some 42,none,.bin .sub (.t 41) (.c (.int .i64 1))⟩,⟨some 43,none,.call fs [(.t 37),(.t 40),(.t 42)]⟩,⟨some 44,none,.bin .add (.t 32) (.t 43)⟩,⟨some 7,none,.mv (.t 44)⟩] false)) (.ops [⟨some 30,none,.mv (.t 8)⟩,⟨some 31,none,.bin .add (.t 30) (.c (.int .i64 1))⟩,⟨some 8,none,.mv (.t 31)⟩] false)))))) (.seq (.ops [⟨some 45,none,.mv (.t 7)⟩,⟨some 6,none,.mv (.t 45)⟩] false) (.ret)))))) }
def irTSmall (bt fs : Nat) : IFn := { nt := 13, res := [.t 6], body := ( .seq (.ops [⟨some 3,none,.box bt 3 (.t 0)⟩,⟨some 6,none,.mv (.c (.bool false))⟩] false) (.seq (.ops [⟨some 7,none,.load 3 true (.t 3)⟩,⟨some 8,none,.mv (.t 1)⟩,⟨some 9,none,.mv (.t 2)⟩,⟨some 10,none,.call fs [(.t 7),(.t 8),(.t 9)]⟩,⟨some 11,none,.mv (.t 1)⟩,⟨some 12,none,.bin .leq (.t 10) (.t 11)⟩,⟨some 6,none,.mv (.t 12)⟩] false) (.ret))) }
def irTLight (bt fs : Nat) : IFn := { nt := 5, res := [.t 2], body := ( .seq (.ops [⟨some 1,none,.box bt 3 (.t 0)⟩,⟨some 2,none,.mv (.c (.bool false))⟩] false) (.seq (.ops [⟨some 3,none,.load 3 true (.t 1)⟩,⟨some 4,none,.call fs [(.t 3),(.c (.int .i64 200)),(.c (.int .i64 30))]⟩,⟨some 2,none,.mv (.t 4)⟩] false) (.ret))) }
def irTRight (bt fs fn : Nat) : IFn := { nt := 103, res := [.t 2], body := ( .seq (.ops [⟨some 1,none,.box bt 3 (.t 0)⟩,⟨some 2,none,.mv (.c (.bool false))⟩] false) (.seq (.seq (.ops [⟨some 5,none,.faddr 0 (.t 1)⟩,⟨some 6,none,.load 1 false (.t 5)⟩,⟨some 7,none,.bin .lss (.t 6) (.c (.int .i64 0))⟩,⟨some 8,none,.mv (.t 7)⟩,⟨some 9,some (8,false),.faddr 0 (.t 1)⟩,⟨some 10,some (8,false),.load 1 false (.t 9)⟩,⟨some 11,some (8,false),.bin .gtr (.t 10) (.c (.int .i64 4))⟩,⟨some 12,none,.pick (.t 8) (.c (.bool true)) (.t 11)⟩] false) (.cond (.t 12) (.seq (.ops [⟨some 2,none,.mv (.c (.bool false))⟩] false) (.ret)) (.skip))) (.seq (.seq (.ops [⟨some 13,none,.faddr 0 (.t 1)⟩,⟨some 14,none,.load 1 false (.t 13)⟩,⟨some 15,none,.bin .leq (.t 14) (.c (.int .i64 2))⟩,⟨some 16,none,.mv (.t 15)⟩,⟨some 17,some (16,true),.faddr 1 (.t 1)⟩,⟨some 18,some (16,true),.load 1 false (.t 17)⟩,⟨some 19,some (16,true),.lenL (.t 18)⟩,⟨some 20,some (16,true),.bin .gtr (.t 19) (.c (.int .i64 0))⟩,⟨some 21,some (16,true),.mv (.t 20)⟩,⟨some 22,some (21,false),.faddr 2 (.t 1)⟩,⟨some 23,some (21,false),.load 1 false (.t 22)⟩,⟨some 24,some (21,false),.lenL (.t 23)⟩,⟨some 25,some (21,false),.bin .gtr (.t 24) (.c (.int .i64 0))⟩,⟨some 26,some (16,true),.pick (.t 21) (.c (.bool true)) (.t 25)⟩,⟨some 27,none,.pick (.t 16) (.t 26) (.c (.bool false))⟩] false) (.cond (.t 27) (.seq (.ops [⟨some 2,none,.mv (.c (.bool false))⟩] false) (.ret)) (.skip))) (.seq (.seq (.ops [⟨some 28,none,.faddr 0 (.t 1)⟩,⟨some 29,none,.load 1 false (.t 28)⟩,⟨some 30,none,.bin .eql (.t 29) (.c (.int .i64 3))⟩,⟨some 31,none,.mv (.t 30)⟩,⟨some 32,some (31,true),.faddr 1 (.t 1)⟩,⟨some 33,some (31,true),.load 1 false (.t 32)⟩,⟨some 34,some (31,true),.lenL (.t 33)⟩,⟨some 35,some (31,true),.faddr 2 (.t 1)⟩,⟨some 36,some (31,true),.load 1 false (.t 35)⟩,⟨some 37,some (31,true),.lenL (.t 36)⟩,⟨some 38,some (31,true),.bin .neq (.t 34) (.t 37)⟩,⟨some 39,none,.pick (.t 31) (.t 38) (.c (.bool false))⟩,⟨some 40,none,.mv (.t 39)⟩,⟨some 41,some (40,false),.faddr 0 (.t 1)⟩,⟨some 42,some (40,false),.load 1 false (.t 41)⟩,⟨some 43,some (40,false),.bin .eql (.t 42) (.c (.int .i64 4))⟩,⟨some 44,some (40,false),.mv (.t 43)⟩,⟨some 45,some (44,true),.faddr 1 (.t 1)⟩,⟨some 46,some (44,true),.load 1 false (.t 45)⟩,⟨some 47,some (44,true),.lenL (.t 46)⟩,⟨some 48,some (44,true),.bin .gtr (.t 47) (.c (.int .i64 0))⟩,⟨some 49,some (44,true),.mv (.t 48)⟩,⟨some 50,some (49,false),.faddr 2 (.t 1)⟩,⟨some 51,some (49,false),.load 1 false (.t 50)⟩,⟨some 52,some (49,false),.lenL (.t 51)⟩,⟨some 53,some (49,false),.bin .eql (.t 52) (.c (.int .i64 0))⟩,⟨some 54,some (44,true),.pick (.t 49) (.c (.bool true)) (.t 53)⟩,⟨some 55,some (40,false),.pick (.t 44) (.t 54) (.c (.bool false))⟩,⟨some 56,none,.pick (.t 40) (.c (.bool true)) (.t 55)⟩] false) (.cond (.t 56) (.seq (.ops [⟨some 2,none,.mv (.c (.bool false))⟩] false) (.ret)) (.skip))) (.seq (.seq (.ops [⟨some 3,none,.mv (.c (.int .i64 0))⟩] false) (.blk 0 (.loop (.seq (.seq (.ops [⟨some 57,none,.mv (.t 3)⟩,⟨some 58,none,.faddr 1 (.t 1)⟩,⟨some 59,none,.load 1 false (.t 58)⟩,⟨some 60,none,.lenL (.t 59)⟩,⟨some 61,none,.bin .lss (.t 57) (.t 60)⟩] false) (.cond (.t 61) (.skip) (.exit 0))) (.seq (.blk 1 (.seq (.ops [⟨some 64,none,.faddr 1 (.t 1)⟩,⟨some 65,none,.load 1 false (.t 64)⟩,⟨some 66,none,.mv (.t 3)⟩,⟨some 67,none,.iaddr 1 (.t 65) (.t 66)⟩,⟨some 68,none,.load 1 false (.t 67)⟩,⟨some 69,none,.call fn [(.t 68)]⟩,⟨some 70,none,.un .not (.t 69)⟩,⟨some 71,none,.mv (.t 70)⟩,⟨some 72,some (71,false),.mv (.t 3)⟩,⟨some 73,some (71,false),.bin .gtr (.t 72) (.c (.int .i64 0))⟩,⟨some 74,some (71,false),.mv (.t 73)⟩,⟨some 75,some (74,true),.faddr 1 (.t 1)⟩,⟨some 76,some (74,true),.load 1 false (.t 75)⟩,⟨some 77,some (74,true),.mv (.t 3)⟩,⟨some 78,some (74,true),.iaddr 1 (.t 76) (.t 77)⟩,⟨some 79,some (74,true),.load 1 false (.t 78)⟩,⟨some 80,some (74,true),.faddr 1 (.t 1)⟩,⟨some 81,some (74,true),.load 1 false (.t 80)⟩,⟨some 82,some (74,true),.mv (.t 3)⟩,⟨some 83,some (74,true),.bin .sub (.t 82) (.c (.int .i64 1))⟩,⟨some 84,some (74,true),.iaddr 1 (.t 81) (.t 83)⟩,⟨some 85,some (74,true),.load 1 false (.t 84)⟩,⟨some 86,some (74,true),.bin .leq (.t 79) (.t 85)⟩,⟨some 87,some (71,false),.pick (.t 74) (.t 86) (.c (.bool false))⟩,⟨some 88,none,.pick (.t 71) (.c (.bool true)) (.t 87)⟩] true) (.cond (.t 88) (.seq (.ops [⟨some 2,none,.mv (.c (.bool false))⟩] false) (.ret)) (.skip)))) (.ops [⟨some 62,none,.mv (.t 3)⟩,⟨some 63,none,.bin .add (.t 62) (.c (.int .i64 1))⟩,⟨some 3,none,.mv (.t 63)⟩] false)))))) (.seq (.seq (.ops [⟨some 4,none,.mv (.c (.int .i64 0))⟩] false) (.blk 2 (.loop (.seq (.seq (.ops [⟨some 89,none,.mv (.t 4)⟩,⟨some 90,none,.faddr 2 (.t 1)⟩,⟨some 91,none,.load 1 false (.t 90)⟩,⟨some 92,none,.lenL (.t 91)⟩,⟨some 93,none,.bin .lss (.t 89) (.t 92)⟩] false) (.cond (.t 93) (.skip) (.exit 2))) (.seq (.blk 3 (.seq (.ops [⟨some 96,none,.faddr 2 (.t 1)⟩,⟨some 97,none,.load 1 false (.t 96)⟩,⟨some 98,none,.mv (.t 4)⟩,⟨some 99,none,.iaddr 3 (.t 97) (.t 98)⟩,⟨some 100,none,.load 3 true (.t 99)⟩,⟨some 101,none,.call fs [(.t 100)]⟩,⟨some 102,none,.un .not (.t 101)⟩] false) (.cond (.t 102) (.seq (.ops [⟨some 2,none,.mv (.c (.bool false))⟩] false) (.ret)) (.skip)))) (.ops [⟨some 94,none,.mv (.t 4)⟩,⟨some 95,none,.bin .add (.t 94) (.c (.int .i64 1))⟩,⟨some 4,none,.mv (.t 95)⟩] false)))))) (.seq (.ops [⟨some 2,none,.mv (.c (.bool true))⟩] false) (.ret)))))))) }
section
variable {P:Program} {bt:Nat}
theorem tsize_acall {f:FuncId} {fn:Func} (hf:P.funcs[f]?=some fn) (hcf:compF P [] fn=some (irTSize bt f)) (v:T):v.Fit 1048576→∀ (m d:Int) (H:Hp),ACall P f [v.a,.d (.int .i64 m),.d (.int .i64 d)] H (fun r H'=>(∃ c:Int,r = .d (.int .i64 c))∧H'=H):=by
 induction v using T.ind with
 | h k z ns y ps ih =>
 rintro (⟨_,_,_,_,_,b2,b3,b4,b5⟩) m d H
 refine acall_fin hf hcf (by simp [irTSize]) fun hcl _ => ?_
 rw [T.a_mk]
 by_cases h1:d=0
 case pos =>
  simp [irTSize,h1]
  simp [RetK,cut_app hcl]
 by_cases h2:m < ns.length
 case pos =>
  simp [irTSize,h1,h2]
  simp [RetK,cut_app hcl]
 simp [irTSize,h1,h2]
 refine LoopK_outR 0 (fun fr H'=>(∃ c:Int,fr 7 = .d (.int .i64 c))∧∃ X,H'=H++X) (fun _ _=>False) ?_ (fun _ _ h=>h.elim) ?_
 · refine ForK_of (H.length+1) ps.length (fun i fr H'=>fr 1 = .d (.int .i64 m)∧fr 2 = .d (.int .i64 d)∧fr 3 = .ptr H.length 0∧(∃ c:Int,fr 7 = .d (.int .i64 c))∧H'=H++[.box bt [.d (.int .i64 k),.d (.sl z 1 (ns.map encStr)),.d (.sl y 3 (ps.map T.enc))]]) (by omega) (by decide) (by simp) (by simp) ?_ ?_
   · simp [cut_appk hcl]
   rintro i fr H' hi f8 ⟨f1,f2,f3,⟨c,f7⟩,rfl⟩
   simp [f8,f3,f7,f1]
   refine GdK_split (by simp) (fun h => ?_) (fun h => ?_)
   · simp at h
     simp [f7,f1]
     refine BrK_split (fun h2 => ?_) (fun h2 => ?_)
     · have hr:=rowAt_map T.enc h
       have hx:=ih ps[i] (List.getElem_mem h) (b5 _ (List.getElem_mem h))
       generalize ps[i]=p at hr hx
       cases p with | mk k1 z1 ns1 y1 ps1 =>
       simp only [T.a_mk,T.enc_mk] at hr hx
       simp [f8,f3,f7,f2,f1,hr]
       refine CallK_of (hx _ _ _) ?_
       rintro x H2 ⟨⟨c2,rfl⟩,rfl⟩
       simp
       refine NextF_of (H.length+1) (Nat.le_refl _) h (by simp [f8]) ?_
       simp [f1,f2,f3,cut_appk hcl]
     · simp [f7]
   · simp [f7]
 rintro fr H2 ⟨⟨c,f7⟩,X,rfl⟩
 simp [f7]
 simp [RetK,cut_app hcl]
theorem tsmall_acall {f fs:FuncId} {fn:Func} (hf:P.funcs[f]?=some fn) (hcf:compF P [] fn=some (irTSmall bt fs)) (hs:∀ (v:T),v.Fit 1048576→∀ (m d:Int) (H:Hp),ACall P fs [v.a,.d (.int .i64 m),.d (.int .i64 d)] H (fun r H'=>(∃ c:Int,r = .d (.int .i64 c))∧H'=H))
 (v:T) (hv:v.Fit 1048576) (m d:Int) (H:Hp):ACall P f [v.a,.d (.int .i64 m),.d (.int .i64 d)] H (fun r H'=>(∃ c:Bool,r = .d (.bool c))∧H'=H):=by
 refine acall_fin hf hcf (by simp [irTSmall]) fun hcl _ => ?_
 have hx:=hs v hv m d
 cases v with | mk k1 z1 ns1 y1 ps1 =>
 simp only [T.a_mk] at hx ⊢
 simp [irTSmall]
 refine CallK_of (hx _) ?_
 rintro x H2 ⟨⟨c2,rfl⟩,rfl⟩
 simp
 simp [RetK,cut_app hcl]
 omega
theorem tlight_acall {f fs:FuncId} {fn:Func} (hf:P.funcs[f]?=some fn) (hcf:compF P [] fn=some (irTLight bt fs)) (hs:∀ (v:T),v.Fit 1048576→∀ (m d:Int) (H:Hp),ACall P fs [v.a,.d (.int .i64 m),.d (.int .i64 d)] H (fun r H'=>(∃ c:Bool,r = .d (.bool c))∧H'=H))
 (v:T) (hv:v.Fit 1048576) (H:Hp):ACall P f [v.a] H (fun r H'=>(∃ c:Bool,r = .d (.bool c))∧H'=H):=by
 refine acall_fin hf hcf (by simp [irTLight]) fun hcl _ => ?_
 have hx:=hs v hv
 cases v with | mk k1 z1 ns1 y1 ps1 =>
 simp only [T.a_mk] at hx ⊢
 simp [irTLight]
 refine CallK_of (hx _ _ _) ?_
 rintro x H2 ⟨⟨c2,rfl⟩,rfl⟩
 simp
 simp [RetK,cut_app hcl]
end
end
def irTkLex (c1 c2 c3 t1 t2 : Nat) : IFn := { nt := 52, res := [.t 2,.t 3,.t 4], body := ( .seq (.ops [⟨some 2,none,.mv (.c (.sl true 4 []))⟩,⟨some 3,none,.mv (.c (.int .i64 0))⟩,⟨some 4,none,.mv (.c (.int .i64 0))⟩] false) (.seq (.seq (.ops [⟨some 12,none,.mv (.t 0)⟩,⟨some 13,none,.lenS (.t 12)⟩,⟨some 14,none,.bin .gtr (.t 13) (.c (.int .i64 16384))⟩] false) (.cond (.t 14) (.seq (.ops [⟨some 2,none,.mv (.c (.sl true 4 []))⟩,⟨some 3,none,.mv (.c (.int .i64 5))⟩,⟨some 4,none,.mv (.c (.int .i64 16384))⟩] false) (.ret)) (.skip))) (.seq (.seq (.ops [⟨some 15,none,.mv (.t 0)⟩,⟨some 16,none,.call c1 [(.t 15)]⟩,⟨some 5,none,.mv (.t 16)⟩] false) (.seq (.ops [⟨some 17,none,.mv (.t 5)⟩,⟨some 18,none,.bin .geq (.t 17) (.c (.int .i64 0))⟩] false) (.cond (.t 18) (.seq (.ops [⟨some 19,none,.mv (.t 5)⟩,⟨some 2,none,.mv (.c (.sl true 4 []))⟩,⟨some 3,none,.mv (.c (.int .i64 20))⟩,⟨some 4,none,.mv (.t 19)⟩] false) (.ret)) (.skip)))) (.seq (.ops [⟨some 20,none,.mv (.t 0)⟩,⟨some 21,none,.build [(.str []),(.int .i64 0)] [(0,1,(.t 20))]⟩,⟨some 22,none,.box t1 2 (.t 21)⟩,⟨some 6,none,.mv (.t 22)⟩] false) (.seq (.ops [⟨some 7,none,.nilT 4 t2⟩] false) (.blk 0 (.loop (.blk 1 (.seq (.ops [⟨some 23,none,.mv (.t 6)⟩,⟨some 24,none,.call c2 [(.t 23)]⟩,⟨some 8,none,.mv (.t 24)⟩] false) (.seq (.ops [⟨some 25,none,.mv (.t 6)⟩,⟨some 26,none,.nilCheck (.t 25)⟩,⟨some 27,none,.faddr 1 (.t 26)⟩,⟨some 28,none,.load 1 false (.t 27)⟩,⟨some 9,none,.mv (.t 28)⟩] false) (.seq (.ops [⟨some 30,none,.mv (.t 6)⟩,⟨some 31,none,.call c3 [(.t 30)]⟩,⟨some 29,none,.mv (.t 31)⟩,⟨some 32,none,.ext (.t 29) 0⟩,⟨some 33,none,.ext (.t 29) 1⟩,⟨some 10,none,.alloc t2 [(.int .i64 0),(.int .i64 0),(.str []),(.str [])]⟩,⟨none,none,.store 4 (.t 10) (.t 32)⟩,⟨some 11,none,.mv (.t 33)⟩] false) (.seq (.seq (.ops [⟨some 34,none,.mv (.t 11)⟩,⟨some 35,none,.bin .neq (.t 34) (.c (.int .i64 0))⟩] false) (.cond (.t 35) (.seq (.ops [⟨some 36,none,.mv (.t 11)⟩,⟨some 37,none,.mv (.t 9)⟩,⟨some 2,none,.mv (.c (.sl true 4 []))⟩,⟨some 3,none,.mv (.t 36)⟩,⟨some 4,none,.mv (.t 37)⟩] false) (.ret)) (.skip))) (.seq (.seq (.ops [⟨some 38,none,.mv (.t 7)⟩,⟨some 39,none,.lenL (.t 38)⟩,⟨some 40,none,.bin .geq (.t 39) (.c (.int .i64 4000))⟩] false) (.cond (.t 40) (.seq (.ops [⟨some 41,none,.mv (.t 9)⟩,⟨some 2,none,.mv (.c (.sl true 4 []))⟩,⟨some 3,none,.mv (.c (.int .i64 5))⟩,⟨some 4,none,.mv (.t 41)⟩] false) (.ret)) (.skip))) (.seq (.ops [⟨some 42,none,.mv (.t 8)⟩,⟨some 43,none,.faddr 2 (.t 10)⟩,⟨none,none,.store 1 (.t 43) (.t 42)⟩] false) (.seq (.ops [⟨some 44,none,.mv (.t 7)⟩,⟨some 45,none,.load 4 true (.t 10)⟩,⟨some 46,none,.bslice 4 [(.t 45)]⟩,⟨some 47,none,.app 4 48 t2 (.t 44) (.t 46)⟩,⟨some 7,none,.mv (.t 47)⟩] false) (.seq (.ops [⟨some 48,none,.faddr 0 (.t 10)⟩,⟨some 49,none,.load 1 false (.t 48)⟩,⟨some 50,none,.bin .eql (.t 49) (.c (.int .i64 0))⟩] false) (.cond (.t 50) (.seq (.ops [⟨some 51,none,.mv (.t 7)⟩,⟨some 2,none,.mv (.t 51)⟩,⟨some 3,none,.mv (.c (.int .i64 0))⟩,⟨some 4,none,.mv (.c (.int .i64 0))⟩] false) (.ret)) (.skip)))))))))))))))))) }
def irTkIsKey (c1 c2 : Nat) : IFn := { nt := 6, res := [.t 2], body := ( .seq (.ops [⟨some 2,none,.mv (.c (.bool false))⟩] false) (.seq (.ops [⟨some 3,none,.call c1 []⟩,⟨some 4,none,.mv (.t 0)⟩,⟨some 5,none,.call c2 [(.t 3),(.t 4)]⟩,⟨some 2,none,.mv (.t 5)⟩] false) (.ret))) }
def irRnBad (c1 : Nat) : IFn := { nt := 27, res := [.t 2], body := ( .seq (.ops [⟨some 2,none,.mv (.c (.int .i64 0))⟩] false) (.seq (.seq (.ops [⟨some 3,none,.mv (.c (.int .i64 0))⟩] false) (.blk 0 (.loop (.seq (.seq (.ops [⟨some 6,none,.mv (.t 3)⟩,⟨some 7,none,.mv (.t 0)⟩,⟨some 8,none,.lenS (.t 7)⟩,⟨some 9,none,.bin .lss (.t 6) (.t 8)⟩] false) (.cond (.t 9) (.skip) (.exit 0))) (.blk 1 (.seq (.ops [⟨some 11,none,.mv (.t 0)⟩,⟨some 12,none,.mv (.t 3)⟩,⟨some 13,none,.sslice (.t 11) (some (.t 12)) none⟩,⟨some 14,none,.call c1 [(.t 13)]⟩,⟨some 10,none,.mv (.t 14)⟩,⟨some 15,none,.ext (.t 10) 0⟩,⟨some 16,none,.ext (.t 10) 1⟩,⟨some 4,none,.mv (.t 15)⟩,⟨some 5,none,.mv (.t 16)⟩] false) (.seq (.seq (.ops [⟨some 17,none,.mv (.t 4)⟩,⟨some 18,none,.bin .eql (.t 17) (.c (.int .i32 65533))⟩,⟨some 19,none,.mv (.t 18)⟩,⟨some 20,some (19,true),.mv (.t 5)⟩,⟨some 21,some (19,true),.bin .eql (.t 20) (.c (.int .i64 1))⟩,⟨some 22,none,.pick (.t 19) (.t 21) (.c (.bool false))⟩] false) (.cond (.t 22) (.seq (.ops [⟨some 23,none,.mv (.t 3)⟩,⟨some 2,none,.mv (.t 23)⟩] false) (.ret)) (.skip))) (.ops [⟨some 24,none,.mv (.t 3)⟩,⟨some 25,none,.mv (.t 5)⟩,⟨some 26,none,.bin .add (.t 24) (.t 25)⟩,⟨some 3,none,.mv (.t 26)⟩] false)))))))) (.seq (.ops [⟨some 2,none,.mv (.c (.int .i64 (-1)))⟩] false) (.ret)))) }
def irScLead (c1 c2 c3 c4 : Nat) : IFn := { nt := 39, res := [.t 2], body := ( .seq (.ops [⟨some 2,none,.mv (.c (.str []))⟩] false) (.seq (.ops [⟨some 4,none,.mv (.t 0)⟩,⟨some 5,none,.nilCheck (.t 4)⟩,⟨some 6,none,.faddr 1 (.t 5)⟩,⟨some 7,none,.load 1 false (.t 6)⟩,⟨some 3,none,.mv (.t 7)⟩] false) (.blk 0 (.loop (.blk 1 (.seq (.blk 2 (.loop (.seq (.seq (.ops [⟨some 8,none,.mv (.t 0)⟩,⟨some 9,none,.call c1 [(.t 8),(.c (.fn c2))]⟩] false) (.cond (.t 9) (.skip) (.exit 2))) (.blk 3 (.ops [⟨some 10,none,.mv (.t 0)⟩,⟨some 11,none,.nilCheck (.t 10)⟩,⟨some 12,none,.faddr 1 (.t 11)⟩,⟨some 13,none,.load 1 false (.t 12)⟩,⟨some 14,none,.bin .add (.t 13) (.c (.int .i64 1))⟩,⟨some 15,none,.nilCheck (.t 10)⟩,⟨some 16,none,.faddr 1 (.t 15)⟩,⟨none,none,.store 1 (.t 16) (.t 14)⟩] false))))) (.seq (.seq (.ops [⟨some 17,none,.mv (.t 0)⟩,⟨some 18,none,.call c1 [(.t 17),(.c (.fn c3))]⟩,⟨some 19,none,.un .not (.t 18)⟩] false) (.cond (.t 19) (.seq (.ops [⟨some 20,none,.mv (.t 0)⟩,⟨some 21,none,.nilCheck (.t 20)⟩,⟨some 22,none,.faddr 0 (.t 21)⟩,⟨some 23,none,.load 1 false (.t 22)⟩,⟨some 24,none,.mv (.t 3)⟩,⟨some 25,none,.mv (.t 0)⟩,⟨some 26,none,.nilCheck (.t 25)⟩,⟨some 27,none,.faddr 1 (.t 26)⟩,⟨some 28,none,.load 1 false (.t 27)⟩,⟨some 29,none,.sslice (.t 23) (some (.t 24)) (some (.t 28))⟩,⟨some 2,none,.mv (.t 29)⟩] true) (.ret)) (.skip))) (.blk 4 (.loop (.seq (.seq (.ops [⟨some 30,none,.mv (.t 0)⟩,⟨some 31,none,.call c1 [(.t 30),(.c (.fn c4))]⟩] false) (.cond (.t 31) (.skip) (.exit 4))) (.blk 5 (.ops [⟨some 32,none,.mv (.t 0)⟩,⟨some 33,none,.nilCheck (.t 32)⟩,⟨some 34,none,.faddr 1 (.t 33)⟩,⟨some 35,none,.load 1 false (.t 34)⟩,⟨some 36,none,.bin .add (.t 35) (.c (.int .i64 1))⟩,⟨some 37,none,.nilCheck (.t 32)⟩,⟨some 38,none,.faddr 1 (.t 37)⟩,⟨none,none,.store 1 (.t 38) (.t 36)⟩] false)))))))))))) }
def irScNext (c1 c2 c3 c4 c5 c6 c7 c8 t1 : Nat) : IFn := { nt := 77, res := [.cell 2 4 true,.t 3], body := ( .seq (.ops [⟨some 2,none,.alloc t1 [(.int .i64 0),(.int .i64 0),(.str []),(.str [])]⟩,⟨some 3,none,.mv (.c (.int .i64 0))⟩] false) (.seq (.ops [⟨some 4,none,.mv (.t 0)⟩,⟨some 5,none,.nilCheck (.t 4)⟩,⟨some 6,none,.faddr 1 (.t 5)⟩,⟨some 7,none,.load 1 false (.t 6)⟩,⟨some 8,none,.faddr 1 (.t 2)⟩,⟨none,none,.store 1 (.t 8) (.t 7)⟩] false) (.seq (.blk 0 (.seq (.ops [⟨some 18,none,.mv (.t 0)⟩,⟨some 19,none,.nilCheck (.t 18)⟩,⟨some 20,none,.faddr 1 (.t 19)⟩,⟨some 21,none,.load 1 false (.t 20)⟩,⟨some 22,none,.mv (.t 0)⟩,⟨some 23,none,.nilCheck (.t 22)⟩,⟨some 24,none,.faddr 0 (.t 23)⟩,⟨some 25,none,.load 1 false (.t 24)⟩,⟨some 26,none,.lenS (.t 25)⟩,⟨some 27,none,.bin .eql (.t 21) (.t 26)⟩,⟨some 17,none,.mv (.t 27)⟩] true) (.cond (.t 17) (.seq (.ops [⟨some 28,none,.load 4 true (.t 2)⟩,⟨none,none,.store 4 (.t 2) (.t 28)⟩,⟨some 3,none,.mv (.c (.int .i64 0))⟩] false) (.ret)) (.seq (.ops [⟨some 30,none,.mv (.t 0)⟩,⟨some 31,none,.call c1 [(.t 30),(.c (.fn c2))]⟩,⟨some 29,none,.mv (.t 31)⟩] false) (.cond (.t 29) (.seq (.ops [⟨some 32,none,.mv (.t 0)⟩,⟨some 33,none,.call c3 [(.t 32)]⟩,⟨some 34,none,.faddr 0 (.t 2)⟩,⟨none,none,.store 1 (.t 34) (.c (.int .i64 1))⟩,⟨some 35,none,.faddr 3 (.t 2)⟩,⟨none,none,.store 1 (.t 35) (.t 33)⟩] false) (.seq (.ops [⟨some 36,none,.faddr 3 (.t 2)⟩,⟨some 37,none,.load 1 false (.t 36)⟩,⟨some 38,none,.call c4 [(.t 37)]⟩] false) (.cond (.t 38) (.ops [⟨some 39,none,.faddr 0 (.t 2)⟩,⟨none,none,.store 1 (.t 39) (.c (.int .i64 2))⟩] false) (.seq (.ops [⟨some 40,none,.faddr 3 (.t 2)⟩,⟨some 41,none,.load 1 false (.t 40)⟩,⟨some 42,none,.lenS (.t 41)⟩,⟨some 43,none,.bin .gtr (.t 42) (.c (.int .i64 40))⟩] false) (.cond (.t 43) (.seq (.ops [⟨some 44,none,.load 4 true (.t 2)⟩,⟨none,none,.store 4 (.t 2) (.t 44)⟩,⟨some 3,none,.mv (.c (.int .i64 26))⟩] false) (.ret)) (.skip)))))) (.seq (.ops [⟨some 46,none,.mv (.t 0)⟩,⟨some 47,none,.call c1 [(.t 46),(.c (.fn c5))]⟩,⟨some 45,none,.mv (.t 47)⟩] false) (.cond (.t 45) (.seq (.ops [⟨some 48,none,.mv (.t 0)⟩,⟨some 49,none,.call c3 [(.t 48)]⟩,⟨some 50,none,.faddr 0 (.t 2)⟩,⟨none,none,.store 1 (.t 50) (.c (.int .i64 3))⟩,⟨some 51,none,.faddr 3 (.t 2)⟩,⟨none,none,.store 1 (.t 51) (.t 49)⟩] false) (.seq (.ops [⟨some 52,none,.load 4 true (.t 2)⟩,⟨some 53,none,.faddr 3 (.t 2)⟩,⟨some 54,none,.load 1 false (.t 53)⟩,⟨some 55,none,.call c6 [(.t 54)]⟩,⟨none,none,.store 4 (.t 2) (.t 52)⟩,⟨some 3,none,.mv (.t 55)⟩] true) (.ret))) (.seq (.ops [⟨some 57,none,.mv (.t 0)⟩,⟨some 58,none,.nilCheck (.t 57)⟩,⟨some 59,none,.faddr 0 (.t 58)⟩,⟨some 60,none,.load 1 false (.t 59)⟩,⟨some 61,none,.mv (.t 0)⟩,⟨some 62,none,.nilCheck (.t 61)⟩,⟨some 63,none,.faddr 1 (.t 62)⟩,⟨some 64,none,.load 1 false (.t 63)⟩,⟨some 65,none,.sidx (.t 60) (.t 64)⟩,⟨some 66,none,.bin .eql (.t 65) (.c (.int .u8 34))⟩,⟨some 56,none,.mv (.t 66)⟩] true) (.cond (.t 56) (.seq (.ops [⟨some 67,none,.faddr 0 (.t 2)⟩,⟨none,none,.store 1 (.t 67) (.c (.int .i64 4))⟩] false) (.seq (.ops [⟨some 69,none,.mv (.t 0)⟩,⟨some 70,none,.call c7 [(.t 69)]⟩,⟨some 68,none,.mv (.t 70)⟩,⟨some 71,none,.ext (.t 68) 0⟩,⟨some 72,none,.ext (.t 68) 1⟩,⟨some 73,none,.faddr 3 (.t 2)⟩,⟨none,none,.store 1 (.t 73) (.t 71)⟩,⟨some 3,none,.mv (.t 72)⟩] false) (.seq (.ops [⟨some 74,none,.load 4 true (.t 2)⟩,⟨some 75,none,.mv (.t 3)⟩,⟨none,none,.store 4 (.t 2) (.t 74)⟩,⟨some 3,none,.mv (.t 75)⟩] false) (.ret)))) (.seq (.ops [⟨some 9,none,.mv (.t 0)⟩,⟨some 10,none,.call c8 [(.t 9)]⟩,⟨some 11,none,.faddr 0 (.t 2)⟩,⟨none,none,.store 1 (.t 11) (.c (.int .i64 5))⟩,⟨some 12,none,.faddr 3 (.t 2)⟩,⟨none,none,.store 1 (.t 12) (.t 10)⟩] false) (.seq (.ops [⟨some 13,none,.faddr 3 (.t 2)⟩,⟨some 14,none,.load 1 false (.t 13)⟩,⟨some 15,none,.bin .eql (.t 14) (.c (.str []))⟩] false) (.cond (.t 15) (.seq (.ops [⟨some 16,none,.load 4 true (.t 2)⟩,⟨none,none,.store 4 (.t 2) (.t 16)⟩,⟨some 3,none,.mv (.c (.int .i64 21))⟩] false) (.ret)) (.skip))))))))))))) (.seq (.ops [⟨some 76,none,.load 4 true (.t 2)⟩,⟨none,none,.store 4 (.t 2) (.t 76)⟩,⟨some 3,none,.mv (.c (.int .i64 0))⟩] false) (.ret))))) }
def irSlHas (c1 : Nat) : IFn := { nt := 9, res := [.t 4], body := ( .seq (.ops [⟨some 4,none,.mv (.c (.bool false))⟩] false) (.seq (.ops [⟨some 5,none,.mv (.t 0)⟩,⟨some 6,none,.mv (.t 1)⟩,⟨some 7,none,.call c1 [(.t 5),(.t 6)]⟩,⟨some 8,none,.bin .geq (.t 7) (.c (.int .i64 0))⟩,⟨some 4,none,.mv (.t 8)⟩] false) (.ret))) }
def irSlIdx : IFn := { nt := 19, res := [.t 4], body := ( .seq (.ops [⟨some 4,none,.mv (.c (.int .i64 0))⟩] false) (.seq (.seq (.ops [⟨some 6,none,.mv (.t 0)⟩,⟨some 7,none,.lenL (.t 6)⟩,⟨some 8,none,.mv (.c (.int .i64 0))⟩] false) (.blk 0 (.loop (.seq (.ops [⟨some 9,none,.bin .lss (.t 8) (.t 7)⟩] false) (.seq (.cond (.t 9) (.skip) (.exit 0)) (.seq (.blk 1 (.seq (.ops [⟨some 10,none,.mv (.t 8)⟩,⟨some 5,none,.mv (.t 10)⟩] false) (.seq (.ops [⟨some 11,none,.mv (.t 1)⟩,⟨some 12,none,.mv (.t 0)⟩,⟨some 13,none,.mv (.t 5)⟩,⟨some 14,none,.iaddr 1 (.t 12) (.t 13)⟩,⟨some 15,none,.load 1 false (.t 14)⟩,⟨some 16,none,.bin .eql (.t 11) (.t 15)⟩] false) (.cond (.t 16) (.seq (.ops [⟨some 17,none,.mv (.t 5)⟩,⟨some 4,none,.mv (.t 17)⟩] false) (.ret)) (.skip))))) (.ops [⟨some 18,none,.bin .add (.t 8) (.c (.int .i64 1))⟩,⟨some 8,none,.mv (.t 18)⟩] false))))))) (.seq (.ops [⟨some 4,none,.mv (.c (.int .i64 (-1)))⟩] false) (.ret)))) }
def irTkKeys : IFn := { nt := 2, res := [.t 0], body := ( .seq (.ops [⟨some 0,none,.mv (.c (.sl true 1 []))⟩] false) (.seq (.ops [⟨some 1,none,.bslice 1 [(.c (.str [100,101,102])),(.c (.str [100,121,110])),(.c (.str [101,108,115,101])),(.c (.str [102,110])),(.c (.str [105,102])),(.c (.str [105,110,112,117,116])),(.c (.str [105,110,116])),(.c (.str [108,101,116])),(.c (.str [112,114,105,110,116])),(.c (.str [114,101,116,117,114,110])),(.c (.str [115,116,114])),(.c (.str [117,115,101])),(.c (.str [119,104,105,108,101]))]⟩,⟨some 0,none,.mv (.t 1)⟩] false) (.ret))) }
def irScMore : IFn := { nt := 28, res := [.t 4], body := ( .seq (.ops [⟨some 4,none,.mv (.c (.bool false))⟩] false) (.seq (.ops [⟨some 5,none,.mv (.t 0)⟩,⟨some 6,none,.nilCheck (.t 5)⟩,⟨some 7,none,.faddr 1 (.t 6)⟩,⟨some 8,none,.load 1 false (.t 7)⟩,⟨some 9,none,.mv (.t 0)⟩,⟨some 10,none,.nilCheck (.t 9)⟩,⟨some 11,none,.faddr 0 (.t 10)⟩,⟨some 12,none,.load 1 false (.t 11)⟩,⟨some 13,none,.lenS (.t 12)⟩,⟨some 14,none,.bin .lss (.t 8) (.t 13)⟩,⟨some 15,none,.mv (.t 14)⟩,⟨some 16,some (15,true),.mv (.t 1)⟩,⟨some 17,some (15,true),.mv (.t 0)⟩,⟨some 18,some (15,true),.nilCheck (.t 17)⟩,⟨some 19,some (15,true),.faddr 0 (.t 18)⟩,⟨some 20,some (15,true),.load 1 false (.t 19)⟩,⟨some 21,some (15,true),.mv (.t 0)⟩,⟨some 22,some (15,true),.nilCheck (.t 21)⟩,⟨some 23,some (15,true),.faddr 1 (.t 22)⟩,⟨some 24,some (15,true),.load 1 false (.t 23)⟩,⟨some 25,some (15,true),.sidx (.t 20) (.t 24)⟩,⟨some 26,some (15,true),.callv (.t 16) [(.t 25)]⟩,⟨some 27,none,.pick (.t 15) (.t 26) (.c (.bool false))⟩,⟨some 4,none,.mv (.t 27)⟩] true) (.ret))) }
def irTkBlank : IFn := { nt := 17, res := [.t 2], body := ( .seq (.ops [⟨some 2,none,.mv (.c (.bool false))⟩] false) (.seq (.ops [⟨some 3,none,.mv (.t 0)⟩,⟨some 4,none,.bin .eql (.t 3) (.c (.int .u8 32))⟩,⟨some 5,none,.mv (.t 4)⟩,⟨some 6,some (5,false),.mv (.t 0)⟩,⟨some 7,some (5,false),.bin .eql (.t 6) (.c (.int .u8 9))⟩,⟨some 8,none,.pick (.t 5) (.c (.bool true)) (.t 7)⟩,⟨some 9,none,.mv (.t 8)⟩,⟨some 10,some (9,false),.mv (.t 0)⟩,⟨some 11,some (9,false),.bin .eql (.t 10) (.c (.int .u8 10))⟩,⟨some 12,none,.pick (.t 9) (.c (.bool true)) (.t 11)⟩,⟨some 13,none,.mv (.t 12)⟩,⟨some 14,some (13,false),.mv (.t 0)⟩,⟨some 15,some (13,false),.bin .eql (.t 14) (.c (.int .u8 13))⟩,⟨some 16,none,.pick (.t 13) (.c (.bool true)) (.t 15)⟩,⟨some 2,none,.mv (.t 16)⟩] false) (.ret))) }
def irScHash : IFn := { nt := 5, res := [.t 2], body := ( .seq (.ops [⟨some 2,none,.mv (.c (.bool false))⟩] false) (.seq (.ops [⟨some 3,none,.mv (.t 0)⟩,⟨some 4,none,.bin .eql (.t 3) (.c (.int .u8 35))⟩,⟨some 2,none,.mv (.t 4)⟩] false) (.ret))) }
def irScNoNl : IFn := { nt := 5, res := [.t 2], body := ( .seq (.ops [⟨some 2,none,.mv (.c (.bool false))⟩] false) (.seq (.ops [⟨some 3,none,.mv (.t 0)⟩,⟨some 4,none,.bin .neq (.t 3) (.c (.int .u8 10))⟩,⟨some 2,none,.mv (.t 4)⟩] false) (.ret))) }
def irScWord (c1 c2 : Nat) : IFn := { nt := 27, res := [.t 2], body := ( .seq (.ops [⟨some 2,none,.mv (.c (.str []))⟩] false) (.seq (.ops [⟨some 4,none,.mv (.t 0)⟩,⟨some 5,none,.nilCheck (.t 4)⟩,⟨some 6,none,.faddr 1 (.t 5)⟩,⟨some 7,none,.load 1 false (.t 6)⟩,⟨some 3,none,.mv (.t 7)⟩] false) (.seq (.blk 0 (.loop (.seq (.seq (.ops [⟨some 8,none,.mv (.t 0)⟩,⟨some 9,none,.call c1 [(.t 8),(.c (.fn c2))]⟩] false) (.cond (.t 9) (.skip) (.exit 0))) (.blk 1 (.ops [⟨some 10,none,.mv (.t 0)⟩,⟨some 11,none,.nilCheck (.t 10)⟩,⟨some 12,none,.faddr 1 (.t 11)⟩,⟨some 13,none,.load 1 false (.t 12)⟩,⟨some 14,none,.bin .add (.t 13) (.c (.int .i64 1))⟩,⟨some 15,none,.nilCheck (.t 10)⟩,⟨some 16,none,.faddr 1 (.t 15)⟩,⟨none,none,.store 1 (.t 16) (.t 14)⟩] false))))) (.seq (.ops [⟨some 17,none,.mv (.t 0)⟩,⟨some 18,none,.nilCheck (.t 17)⟩,⟨some 19,none,.faddr 0 (.t 18)⟩,⟨some 20,none,.load 1 false (.t 19)⟩,⟨some 21,none,.mv (.t 3)⟩,⟨some 22,none,.mv (.t 0)⟩,⟨some 23,none,.nilCheck (.t 22)⟩,⟨some 24,none,.faddr 1 (.t 23)⟩,⟨some 25,none,.load 1 false (.t 24)⟩,⟨some 26,none,.sslice (.t 20) (some (.t 21)) (some (.t 25))⟩,⟨some 2,none,.mv (.t 26)⟩] true) (.ret))))) }
def irScWordB (c1 c2 : Nat) : IFn := { nt := 9, res := [.t 2], body := ( .seq (.ops [⟨some 2,none,.mv (.c (.bool false))⟩] false) (.seq (.ops [⟨some 3,none,.mv (.t 0)⟩,⟨some 4,none,.call c1 [(.t 3)]⟩,⟨some 5,none,.mv (.t 4)⟩,⟨some 6,some (5,false),.mv (.t 0)⟩,⟨some 7,some (5,false),.call c2 [(.t 6)]⟩,⟨some 8,none,.pick (.t 5) (.c (.bool true)) (.t 7)⟩,⟨some 2,none,.mv (.t 8)⟩] false) (.ret))) }
def irScStr (c1 : Nat) : IFn := { nt := 86, res := [.t 2,.t 3], body := ( .seq (.ops [⟨some 2,none,.mv (.c (.str []))⟩,⟨some 3,none,.mv (.c (.int .i64 0))⟩] false) (.seq (.ops [⟨some 9,none,.mv (.t 0)⟩,⟨some 10,none,.nilCheck (.t 9)⟩,⟨some 11,none,.faddr 1 (.t 10)⟩,⟨some 12,none,.load 1 false (.t 11)⟩,⟨some 4,none,.mv (.t 12)⟩] false) (.seq (.seq (.ops [⟨some 13,none,.mv (.t 0)⟩,⟨some 14,none,.nilCheck (.t 13)⟩,⟨some 15,none,.faddr 1 (.t 14)⟩,⟨some 16,none,.load 1 false (.t 15)⟩,⟨some 17,none,.bin .add (.t 16) (.c (.int .i64 1))⟩,⟨some 18,none,.nilCheck (.t 13)⟩,⟨some 19,none,.faddr 1 (.t 18)⟩,⟨none,none,.store 1 (.t 19) (.t 17)⟩] false) (.blk 0 (.loop (.seq (.seq (.ops [⟨some 20,none,.mv (.t 0)⟩,⟨some 21,none,.nilCheck (.t 20)⟩,⟨some 22,none,.faddr 1 (.t 21)⟩,⟨some 23,none,.load 1 false (.t 22)⟩,⟨some 24,none,.mv (.t 0)⟩,⟨some 25,none,.nilCheck (.t 24)⟩,⟨some 26,none,.faddr 0 (.t 25)⟩,⟨some 27,none,.load 1 false (.t 26)⟩,⟨some 28,none,.lenS (.t 27)⟩,⟨some 29,none,.bin .lss (.t 23) (.t 28)⟩] true) (.cond (.t 29) (.skip) (.exit 0))) (.seq (.blk 1 (.seq (.ops [⟨some 37,none,.mv (.t 0)⟩,⟨some 38,none,.nilCheck (.t 37)⟩,⟨some 39,none,.faddr 0 (.t 38)⟩,⟨some 40,none,.load 1 false (.t 39)⟩,⟨some 41,none,.mv (.t 0)⟩,⟨some 42,none,.nilCheck (.t 41)⟩,⟨some 43,none,.faddr 1 (.t 42)⟩,⟨some 44,none,.load 1 false (.t 43)⟩,⟨some 45,none,.sidx (.t 40) (.t 44)⟩,⟨some 5,none,.mv (.t 45)⟩] true) (.blk 2 (.seq (.ops [⟨some 47,none,.mv (.t 5)⟩,⟨some 48,none,.bin .eql (.t 47) (.c (.int .u8 34))⟩,⟨some 46,none,.mv (.t 48)⟩] false) (.cond (.t 46) (.seq (.ops [⟨some 49,none,.mv (.t 0)⟩,⟨some 50,none,.nilCheck (.t 49)⟩,⟨some 51,none,.faddr 1 (.t 50)⟩,⟨some 52,none,.load 1 false (.t 51)⟩,⟨some 53,none,.bin .add (.t 52) (.c (.int .i64 1))⟩,⟨some 54,none,.nilCheck (.t 49)⟩,⟨some 55,none,.faddr 1 (.t 54)⟩,⟨none,none,.store 1 (.t 55) (.t 53)⟩] false) (.seq (.ops [⟨some 56,none,.mv (.t 0)⟩,⟨some 57,none,.nilCheck (.t 56)⟩,⟨some 58,none,.faddr 0 (.t 57)⟩,⟨some 59,none,.load 1 false (.t 58)⟩,⟨some 60,none,.mv (.t 4)⟩,⟨some 61,none,.mv (.t 0)⟩,⟨some 62,none,.nilCheck (.t 61)⟩,⟨some 63,none,.faddr 1 (.t 62)⟩,⟨some 64,none,.load 1 false (.t 63)⟩,⟨some 65,none,.sslice (.t 59) (some (.t 60)) (some (.t 64))⟩,⟨some 6,none,.mv (.t 65)⟩] true) (.seq (.ops [⟨some 67,none,.mv (.t 6)⟩,⟨some 68,none,.call c1 [(.t 67)]⟩,⟨some 66,none,.mv (.t 68)⟩,⟨some 69,none,.ext (.t 66) 0⟩,⟨some 70,none,.ext (.t 66) 1⟩,⟨some 7,none,.mv (.t 69)⟩,⟨some 8,none,.mv (.t 70)⟩] false) (.seq (.ops [⟨some 71,none,.mv (.t 6)⟩,⟨some 72,none,.mv (.t 8)⟩,⟨some 2,none,.mv (.t 71)⟩,⟨some 3,none,.mv (.t 72)⟩] false) (.ret))))) (.seq (.ops [⟨some 74,none,.mv (.t 5)⟩,⟨some 75,none,.bin .eql (.t 74) (.c (.int .u8 92))⟩,⟨some 73,none,.mv (.t 75)⟩] false) (.cond (.t 73) (.ops [⟨some 76,none,.mv (.t 0)⟩,⟨some 77,none,.nilCheck (.t 76)⟩,⟨some 78,none,.faddr 1 (.t 77)⟩,⟨some 79,none,.load 1 false (.t 78)⟩,⟨some 80,none,.bin .add (.t 79) (.c (.int .i64 1))⟩,⟨some 81,none,.nilCheck (.t 76)⟩,⟨some 82,none,.faddr 1 (.t 81)⟩,⟨none,none,.store 1 (.t 82) (.t 80)⟩] false) (.seq (.ops [⟨some 84,none,.mv (.t 5)⟩,⟨some 85,none,.bin .eql (.t 84) (.c (.int .u8 10))⟩,⟨some 83,none,.mv (.t 85)⟩] false) (.cond (.t 83) (.seq (.ops [⟨some 2,none,.mv (.c (.str []))⟩,⟨some 3,none,.mv (.c (.int .i64 22))⟩] false) (.ret)) (.skip)))))))))) (.ops [⟨some 30,none,.mv (.t 0)⟩,⟨some 31,none,.nilCheck (.t 30)⟩,⟨some 32,none,.faddr 1 (.t 31)⟩,⟨some 33,none,.load 1 false (.t 32)⟩,⟨some 34,none,.bin .add (.t 33) (.c (.int .i64 1))⟩,⟨some 35,none,.nilCheck (.t 30)⟩,⟨some 36,none,.faddr 1 (.t 35)⟩,⟨none,none,.store 1 (.t 36) (.t 34)⟩] false)))))) (.seq (.ops [⟨some 2,none,.mv (.c (.str []))⟩,⟨some 3,none,.mv (.c (.int .i64 22))⟩] false) (.ret))))) }
def irScSign (c1 c2 : Nat) : IFn := { nt := 33, res := [.t 2], body := ( .seq (.ops [⟨some 2,none,.mv (.c (.str []))⟩] false) (.seq (.seq (.ops [⟨some 5,none,.call c1 []⟩,⟨some 6,none,.lenL (.t 5)⟩,⟨some 7,none,.mv (.c (.int .i64 0))⟩] false) (.blk 0 (.loop (.seq (.ops [⟨some 8,none,.bin .lss (.t 7) (.t 6)⟩] false) (.seq (.cond (.t 8) (.skip) (.exit 0)) (.seq (.blk 1 (.seq (.ops [⟨some 9,none,.iaddr 1 (.t 5) (.t 7)⟩,⟨some 10,none,.load 1 false (.t 9)⟩,⟨some 4,none,.mv (.t 10)⟩] false) (.seq (.ops [⟨some 11,none,.mv (.t 0)⟩,⟨some 12,none,.nilCheck (.t 11)⟩,⟨some 13,none,.faddr 0 (.t 12)⟩,⟨some 14,none,.load 1 false (.t 13)⟩,⟨some 15,none,.mv (.t 0)⟩,⟨some 16,none,.nilCheck (.t 15)⟩,⟨some 17,none,.faddr 1 (.t 16)⟩,⟨some 18,none,.load 1 false (.t 17)⟩,⟨some 19,none,.sslice (.t 14) (some (.t 18)) none⟩,⟨some 20,none,.mv (.t 4)⟩,⟨some 21,none,.call c2 [(.t 19),(.t 20)]⟩] true) (.cond (.t 21) (.seq (.ops [⟨some 22,none,.mv (.t 0)⟩,⟨some 23,none,.nilCheck (.t 22)⟩,⟨some 24,none,.faddr 1 (.t 23)⟩,⟨some 25,none,.load 1 false (.t 24)⟩,⟨some 26,none,.mv (.t 4)⟩,⟨some 27,none,.lenS (.t 26)⟩,⟨some 28,none,.bin .add (.t 25) (.t 27)⟩,⟨some 29,none,.nilCheck (.t 22)⟩,⟨some 30,none,.faddr 1 (.t 29)⟩,⟨none,none,.store 1 (.t 30) (.t 28)⟩] false) (.seq (.ops [⟨some 31,none,.mv (.t 4)⟩,⟨some 2,none,.mv (.t 31)⟩] false) (.ret))) (.skip))))) (.ops [⟨some 32,none,.bin .add (.t 7) (.c (.int .i64 1))⟩,⟨some 7,none,.mv (.t 32)⟩] false))))))) (.seq (.ops [⟨some 2,none,.mv (.c (.str []))⟩] false) (.ret)))) }
def irRnUnquote (c1 c2 c3 t1 t2 : Nat) : IFn := { nt := 69, res := [.t 2,.t 3], body := ( .seq (.ops [⟨some 2,none,.mv (.c (.str []))⟩,⟨some 3,none,.mv (.c (.int .i64 0))⟩] false) (.seq (.seq (.ops [⟨some 7,none,.mv (.t 0)⟩,⟨some 8,none,.lenS (.t 7)⟩,⟨some 9,none,.bin .lss (.t 8) (.c (.int .i64 2))⟩,⟨some 10,none,.mv (.t 9)⟩,⟨some 11,some (10,false),.mv (.t 0)⟩,⟨some 12,some (10,false),.sidx (.t 11) (.c (.int .i64 0))⟩,⟨some 13,some (10,false),.bin .neq (.t 12) (.c (.int .u8 34))⟩,⟨some 14,none,.pick (.t 10) (.c (.bool true)) (.t 13)⟩,⟨some 15,none,.mv (.t 14)⟩,⟨some 16,some (15,false),.mv (.t 0)⟩,⟨some 17,some (15,false),.mv (.t 0)⟩,⟨some 18,some (15,false),.lenS (.t 17)⟩,⟨some 19,some (15,false),.bin .sub (.t 18) (.c (.int .i64 1))⟩,⟨some 20,some (15,false),.sidx (.t 16) (.t 19)⟩,⟨some 21,some (15,false),.bin .neq (.t 20) (.c (.int .u8 34))⟩,⟨some 22,none,.pick (.t 15) (.c (.bool true)) (.t 21)⟩] false) (.cond (.t 22) (.seq (.ops [⟨some 2,none,.mv (.c (.str []))⟩,⟨some 3,none,.mv (.c (.int .i64 22))⟩] false) (.ret)) (.skip))) (.seq (.ops [⟨some 4,none,.allocT t1 [.nilp,(.sl true 1 [])] 1 1 t2⟩] false) (.seq (.seq (.ops [⟨some 5,none,.mv (.c (.int .i64 1))⟩] false) (.blk 0 (.loop (.seq (.seq (.ops [⟨some 23,none,.mv (.t 5)⟩,⟨some 24,none,.mv (.t 0)⟩,⟨some 25,none,.lenS (.t 24)⟩,⟨some 26,none,.bin .sub (.t 25) (.c (.int .i64 1))⟩,⟨some 27,none,.bin .lss (.t 23) (.t 26)⟩] false) (.cond (.t 27) (.skip) (.exit 0))) (.seq (.blk 1 (.blk 2 (.seq (.ops [⟨some 35,none,.mv (.t 0)⟩,⟨some 36,none,.mv (.t 5)⟩,⟨some 37,none,.sidx (.t 35) (.t 36)⟩,⟨some 38,none,.bin .eql (.t 37) (.c (.int .u8 92))⟩,⟨some 34,none,.mv (.t 38)⟩] false) (.cond (.t 34) (.seq (.ops [⟨some 39,none,.mv (.t 5)⟩,⟨some 40,none,.bin .add (.t 39) (.c (.int .i64 1))⟩,⟨some 5,none,.mv (.t 40)⟩] false) (.seq (.ops [⟨some 41,none,.mv (.t 0)⟩,⟨some 42,none,.mv (.t 5)⟩,⟨some 43,none,.sidx (.t 41) (.t 42)⟩,⟨some 44,none,.call c1 [(.c (.str [110,116,34,92])),(.t 43)]⟩,⟨some 6,none,.mv (.t 44)⟩] false) (.seq (.seq (.ops [⟨some 45,none,.mv (.t 6)⟩,⟨some 46,none,.bin .lss (.t 45) (.c (.int .i64 0))⟩,⟨some 47,none,.mv (.t 46)⟩,⟨some 48,some (47,false),.mv (.t 5)⟩,⟨some 49,some (47,false),.mv (.t 0)⟩,⟨some 50,some (47,false),.lenS (.t 49)⟩,⟨some 51,some (47,false),.bin .sub (.t 50) (.c (.int .i64 1))⟩,⟨some 52,some (47,false),.bin .eql (.t 48) (.t 51)⟩,⟨some 53,none,.pick (.t 47) (.c (.bool true)) (.t 52)⟩] false) (.cond (.t 53) (.seq (.ops [⟨some 2,none,.mv (.c (.str []))⟩,⟨some 3,none,.mv (.c (.int .i64 22))⟩] false) (.ret)) (.skip))) (.ops [⟨some 54,none,.mv (.t 6)⟩,⟨some 55,none,.sidx (.c (.str [10,9,34,92])) (.t 54)⟩,⟨some 56,none,.call c2 [(.t 4),(.t 55)]⟩] false)))) (.seq (.ops [⟨some 58,none,.mv (.t 0)⟩,⟨some 59,none,.mv (.t 5)⟩,⟨some 60,none,.sidx (.t 58) (.t 59)⟩,⟨some 61,none,.bin .lss (.t 60) (.c (.int .u8 32))⟩,⟨some 62,none,.mv (.t 61)⟩,⟨some 63,some (62,false),.mv (.t 0)⟩,⟨some 64,some (62,false),.mv (.t 5)⟩,⟨some 65,some (62,false),.sidx (.t 63) (.t 64)⟩,⟨some 66,some (62,false),.bin .eql (.t 65) (.c (.int .u8 34))⟩,⟨some 67,none,.pick (.t 62) (.c (.bool true)) (.t 66)⟩,⟨some 57,none,.mv (.t 67)⟩] false) (.cond (.t 57) (.seq (.ops [⟨some 2,none,.mv (.c (.str []))⟩,⟨some 3,none,.mv (.c (.int .i64 22))⟩] false) (.ret)) (.ops [⟨some 30,none,.mv (.t 0)⟩,⟨some 31,none,.mv (.t 5)⟩,⟨some 32,none,.sidx (.t 30) (.t 31)⟩,⟨some 33,none,.call c2 [(.t 4),(.t 32)]⟩] false))))))) (.ops [⟨some 28,none,.mv (.t 5)⟩,⟨some 29,none,.bin .add (.t 28) (.c (.int .i64 1))⟩,⟨some 5,none,.mv (.t 29)⟩] false)))))) (.seq (.ops [⟨some 68,none,.call c3 [(.t 4)]⟩,⟨some 2,none,.mv (.t 68)⟩,⟨some 3,none,.mv (.c (.int .i64 0))⟩] false) (.ret)))))) }
def irTkSigns : IFn := { nt := 2, res := [.t 0], body := ( .seq (.ops [⟨some 0,none,.mv (.c (.sl true 1 []))⟩] false) (.seq (.ops [⟨some 1,none,.bslice 1 [(.c (.str [61,61])),(.c (.str [40])),(.c (.str [41])),(.c (.str [123])),(.c (.str [125])),(.c (.str [44])),(.c (.str [59])),(.c (.str [58])),(.c (.str [46])),(.c (.str [61])),(.c (.str [43])),(.c (.str [45])),(.c (.str [42])),(.c (.str [60]))]⟩,⟨some 0,none,.mv (.t 1)⟩] false) (.ret))) }
section
abbrev Bs:=List UInt8
def Has (P:Program) (f:FuncId) (i:IFn):Prop:=∃ fn,P.funcs[f]?=some fn∧compF P [] fn=some i
def HasT (P:Program) (tk:List Nat) (f:FuncId) (i:IFn):Prop:=∃ fn,P.funcs[f]?=some fn∧compF P tk fn=some i
def ByteOk (P:Program) (f:FuncId) (p:UInt8→Bool):Prop:=∀ (b:UInt8) H,ACall P f [.d (.int .u8 b.toNat)] H (fun r H'=>r = .d (.bool (p b))∧H'=H)
theorem least_of {p:Nat→Prop}:∀ n,p n→∃ d,p d∧∀ e,p e→d≤e:=by
 intro n
 induction n using Nat.strongRecOn with
 | ind n ih =>
 intro h
 by_cases hm:∃ m,m < n∧p m
 · obtain ⟨m,hm,hp⟩:=hm
   exact ih m hm hp
 · exact ⟨n,h,fun e he=>Nat.le_of_not_lt fun hl=>hm ⟨e,hl,he⟩⟩
def NextM (J:Nat→Fr→Hp→Prop) (_:Tag J) (m d:Nat) (fr:Fr) (H:Hp):Prop:=∃ k d',m≤k∧k≤H.length∧d' < d∧J d' (fr.clr k) (Hp.cut k H)
@[congr] theorem NextM_congr {J:Nat→Fr→Hp→Prop} {t:Tag J} {m d:Nat} {fr fr':Fr} {H H':Hp} (h:fr=fr') (h2:H=H'):NextM J t m d fr H=NextM J t m d fr' H':=by rw [h,h2]
theorem NextM_of {J:Nat→Fr→Hp→Prop} {t:Tag J} {m d:Nat} {fr:Fr} {H:Hp} (k d':Nat) (hk:m≤k) (h:k≤H.length) (hd:d' < d) (hj:J d' (fr.clr k) (Hp.cut k H)):NextM J t m d fr H:=⟨k,d',hk,h,hd,hj⟩
theorem LoopM_of {P:Program} {n0:Nat} {Q:Ex→Fr→Hp→Prop} {fr:Fr} {H:Hp} {c:C} {t:Tag (Q,c)} (m:Nat) (J:Nat→Fr→Hp→Prop) (start:Nat) (h1:n0≤m∧m≤H.length) (h2:J start (fr.clr m) (Hp.cut m H))
 (h3:∀ d fr H,J d fr H→AWp P n0 c (Ex.then (NextM J .mk m d) Q) fr H):LoopK Q c t P n0 fr H:=by
 have key:∀ fr H,(∃ d,J d fr H)→∃ d,J d fr H∧∀ e,J e fr H→d≤e:=fun fr H ⟨d,h⟩=>least_of (p:=fun d=>J d fr H) d h
 let mu:Fr→Hp→Nat:=fun fr H => @dite _ (∃ d,J d fr H) (Classical.propDecidable _) (fun h=>(key fr H h).choose) (fun _=>0)
 have hmu:∀ fr H (h:∃ d,J d fr H),J (mu fr H) fr H∧∀ e,J e fr H→mu fr H≤e:=fun fr H h=>by
  have:mu fr H=(key fr H h).choose:=dif_pos h
  rw [this]
  exact (key fr H h).choose_spec
 refine LoopK_of m (fun fr H=>∃ d,J d fr H) mu h1 ⟨start,h2⟩ ?_
 rintro fr H h
 obtain ⟨g1,g2⟩:=hmu fr H h
 refine AWp.mono _ ?_ _ _ (h3 _ _ _ g1)
 intro e fr' H' hn
 cases e with
 | normal =>
   obtain ⟨k,d',k1,k2,k3,k4⟩:=hn
   refine AgainK_ofk (t := .mk) k k1 k2 ⟨d',k4⟩ ?_
   exact Nat.lt_of_le_of_lt ((hmu _ _ ⟨d',k4⟩).2 d' k4) k3
 | exit j=>exact hn
 | ret=>exact hn
section
variable {P:Program}
def blankB (b:UInt8):Bool:=decide ((b.toNat:Int)=32) || decide ((b.toNat:Int)=9) || decide ((b.toNat:Int)=10) || decide ((b.toNat:Int)=13)
def hashB (b:UInt8):Bool:=decide ((b.toNat:Int)=35)
def noNlB (b:UInt8):Bool := !decide ((b.toNat:Int)=10)
def wordB (b:UInt8):Bool:=letterB b || digitB b
theorem Has.letter {f} (h:Has P f irLetter):ByteOk P f letterB:=fun b H=>letter_acall h.choose_spec.1 h.choose_spec.2 b H
theorem Has.digit {f} (h:Has P f irDigit):ByteOk P f digitB:=fun b H=>digit_acall h.choose_spec.1 h.choose_spec.2 b H
theorem Has.blank {f} (h:Has P f irTkBlank):ByteOk P f blankB:=fun b H=>by
 obtain ⟨fn,hf,hcf⟩:=h
 refine acall_fin hf hcf (by simp [irTkBlank]) fun hcl _ => ?_
 simp [irTkBlank]
 generalize ha:decide ((b.toNat:Int)=32)=a
 generalize hb:decide ((b.toNat:Int)=9)=c
 generalize hd:decide ((b.toNat:Int)=10)=d
 generalize he:decide ((b.toNat:Int)=13)=e
 have hl:blankB b=(a || c || d || e):=by simp only [blankB,ha,hb,hd,he]
 cases a<;>cases c<;>cases d<;>cases e<;>simp [ha,hb,hd,he]<;>simp [RetK,cut_self hcl,hl]
theorem Has.hash {f} (h:Has P f irScHash):ByteOk P f hashB:=fun b H=>by
 obtain ⟨fn,hf,hcf⟩:=h
 refine acall_fin hf hcf (by simp [irScHash]) fun hcl _ => ?_
 simp [irScHash]
 simp [RetK,cut_self hcl,hashB]
theorem Has.noNl {f} (h:Has P f irScNoNl):ByteOk P f noNlB:=fun b H=>by
 obtain ⟨fn,hf,hcf⟩:=h
 refine acall_fin hf hcf (by simp [irScNoNl]) fun hcl _ => ?_
 simp [irScNoNl]
 simp [RetK,cut_self hcl,noNlB]
theorem Has.wordB {f fl fd} (h:Has P f (irScWordB fl fd)) (hl:ByteOk P fl letterB) (hd:ByteOk P fd digitB):ByteOk P f Zam.wordB:=fun b H=>by
 obtain ⟨fn,hf,hcf⟩:=h
 refine acall_fin hf hcf (by simp [irScWordB]) fun hcl _ => ?_
 simp [irScWordB]
 refine CallK_of' (hl b _) ?_
 cases e:letterB b with
 | true =>
   simp
   simp [RetK,cut_self hcl,Zam.wordB,e]
 | false =>
   simp
   refine CallK_of' (hd b _) ?_
   simp
   simp [RetK,cut_self hcl,Zam.wordB,e]
def moreB (p:UInt8→Bool):Bs→Bool
 | []=>false
 | b :: _=>p b
def scan (ts:TypeId) (text:Bs) (at_:Nat):Ob := .box ts [.d (.str text),.d (.int .i64 (at_:Int))]
theorem byteAt_drop {s:Bs} {n:Nat} {b:UInt8} {r:Bs} (h:s.drop n=b :: r):byteAt s (n:Int)=some b∧n < s.length:=by
 have hn:n < s.length:=by
  rcases Nat.lt_or_ge n s.length with h' | h'
  · exact h'
  · rw [List.drop_eq_nil_of_le h'] at h; cases h
 refine ⟨?_,hn⟩
 have:s[n]=b:=by
  have e:=List.drop_eq_getElem_cons hn
  rw [h] at e
  exact (List.cons.inj e).1.symm
 simp [byteAt,hn,this]
theorem Has.more {f} (h:Has P f irScMore) {k:FuncId} {p:UInt8→Bool} (hk:callOk P k=true) (hp:ByteOk P k p) {H:Hp} {i:Nat} {ts:TypeId} {text:Bs} {n:Nat} (hi:H[i]?=some (scan ts text n)) :
 ACall P f [.ptr i 0,.d (.fn k)] H (fun r H'=>r = .d (.bool (moreB p (text.drop n)))∧H'=H):=by
 obtain ⟨fn,hf,hcf⟩:=h
 refine acall_fin hf hcf (by simp [irScMore]) fun hcl _ => ?_
 unfold scan at hi
 simp [irScMore,hi]
 cases hd:text.drop n with
 | nil =>
   have hn:¬ n < text.length:=by
    have:=List.drop_eq_nil_iff.1 hd
    omega
   simp [hn]
   simp [RetK,cut_self hcl,moreB]
 | cons b r =>
   obtain ⟨hb,hn⟩:=byteAt_drop hd
   simp [hn,hi,hb]
   refine ⟨hk,?_⟩
   refine CallD_of (hp b _) ?_
   simp
   simp [RetK,cut_self hcl,moreB]
theorem Hp.set_self {H:Hp} {i:Nat} {o:Ob} (h:H[i]?=some o):H.set i o=H:=by
 obtain ⟨hi,e⟩:=List.getElem?_eq_some_iff.1 h
 rw [← e]; exact List.set_getElem_self hi
def runN (p:UInt8→Bool) (s:Bs):Nat:=(s.takeWhile p).length
theorem runN_le (p:UInt8→Bool) (s:Bs):runN p s≤s.length:=by
 unfold runN
 exact List.Sublist.length_le (List.takeWhile_sublist p)
theorem runN_step (p:UInt8→Bool):∀ (s:Bs) (j:Nat),j≤runN p s→moreB p (s.drop j)=decide (j < runN p s)
 | [],j,h=>by simp [runN] at h ⊢; subst h; rfl
 | b :: r, 0, h => by
   cases e:p b<;>simp [runN,moreB,e]
 | b :: r, j + 1, h => by
   cases e:p b with
   | false=>simp [runN,e] at h
   | true =>
     have hr:runN p (b :: r)=runN p r+1:=by simp [runN,e]
     rw [hr] at h ⊢
     have:=runN_step p r j (by omega)
     simpa using this
theorem scan_len {H:Hp} {i:Nat} {o:Ob} (h:H[i]?=some o):i < H.length:=(List.getElem?_eq_some_iff.1 h).1
theorem drop_add' (s:Bs) (n j:Nat):(s.drop n).drop j=s.drop (n+j):=by rw [List.drop_drop]
theorem sub_ok {s:Bs} {n w:Nat} (h:n+w≤s.length):subL s (n:Int) ((n:Int)+w)=some ((s.drop n).take w):=by
 rw [subL_ok ⟨by omega,by omega,by omega⟩]
 congr 2<;>omega
theorem Has.word {f fm fw} (h:Has P f (irScWord fm fw)) (hm:Has P fm irScMore) (hk:callOk P fw=true) (hw:ByteOk P fw Zam.wordB) {H:Hp} {i:Nat} {ts:TypeId} {text:Bs} {n:Nat} (hi:H[i]?=some (scan ts text n)) (hn:n≤text.length) (hl:text.length≤4611686018427387904) :
 ACall P f [.ptr i 0] H (fun r H'=>r = .d (.str ((text.drop n).take (runN Zam.wordB (text.drop n))))∧H'=H.set i (scan ts text (n+runN Zam.wordB (text.drop n)))):=by
 obtain ⟨fn,hf,hcf⟩:=h
 have hil:=scan_len hi
 refine acall_fin hf hcf (by simp [irScWord]) fun hcl _ => ?_
 have hi':=hi
 unfold scan at hi'
 simp [irScWord,hi']
 have hW:=runN_le Zam.wordB (text.drop n)
 have hstep:=runN_step Zam.wordB (text.drop n)
 simp only [drop_add',List.length_drop] at hW hstep
 generalize runN Zam.wordB (text.drop n)=W at hW hstep
 refine LoopK_outR 0 (fun fr H'=>fr 0 = .ptr i 0∧fr 3 = .d (.int .i64 (n:Int))∧H'=H.set i (scan ts text (n+W))) (fun _ _=>False) ?_ (fun _ _ h=>h.elim) ?_
 · refine LoopM_of H.length (fun d fr H'=>∃ j,d=W - j∧j≤W∧fr 0 = .ptr i 0∧fr 3 = .d (.int .i64 (n:Int))∧H'=H.set i (scan ts text (n+j))) W (by simp) ⟨0,?_⟩ ?_
   · simp [cut_self hcl,hil]
     exact (Hp.set_self hi).symm
   rintro d fr H' ⟨j,rfl,hj,f0,f3,rfl⟩
   have hij:(H.set i (scan ts text (n+j)))[i]?=some (scan ts text (n+j)):=by simp [hil]
   have hm':=hm.more hk hw hij
   rw [hstep j hj] at hm'
   simp [f0]
   refine CallK_of' hm' ?_
   simp
   refine BrK_split (fun h => ?_) (fun h => ?_)
   · have hlt:j < W:=by simpa using h
     have hwr:IntKind.i64.wrap ((n:Int)+j+1)=n+(j+1):=by rw [wrap_i64 (by omega) (by omega)]; omega
     simp [f0,hil,scan,hwr]
     refine NextM_of H.length (W - (j+1)) (Nat.le_refl _) (by simp) (by omega) ⟨j+1,rfl,by omega,?_⟩
     simp [f0,f3,Hp.cut_set,cut_self hcl,hil,scan]
   · have hjj : j = W := by have : ¬ j < W := by simpa using h
                            omega
     subst hjj
     simp [f0,f3]
 rintro fr H' ⟨f0,f3,rfl⟩
 have hs:=sub_ok (s:=text) (n:=n) (w:=W) (by omega)
 simp [f0,f3,hil,scan,hs]
 simp [RetK,Hp.cut_set,cut_self hcl,hil,scan]
end
end
section
def leadS:Bool→Bs→Nat
 | _,[]=>0
 | false,b :: r=>if blankB b then leadS false r+1 else if hashB b then leadS true r+1 else 0
 | true,b :: r=>if noNlB b then leadS true r+1 else leadS false r+1
theorem lead_le:∀ (c:Bool) (s:Bs),leadS c s≤s.length
 | _,[]=>by simp [leadS]
 | false, b :: r => by
   have h1:=lead_le false r
   have h2:=lead_le true r
   simp only [leadS,List.length_cons]
   split
   · omega
   · split<;>omega
 | true, b :: r => by
   have h1:=lead_le false r
   have h2:=lead_le true r
   simp only [leadS,List.length_cons]
   split<;>omega
theorem lead_blank:∀ (s:Bs),leadS false s=runN blankB s+leadS false (s.drop (runN blankB s))
 | []=>by simp [leadS,runN]
 | b :: r => by
   cases e:blankB b with
   | false=>simp [runN,e]
   | true =>
     have:=lead_blank r
     have hr:runN blankB (b :: r)=runN blankB r+1:=by simp [runN,e]
     rw [hr,List.drop_succ_cons,leadS,if_pos e]
     omega
theorem lead_cmt:∀ (s:Bs),leadS true s=runN noNlB s+leadS false (s.drop (runN noNlB s))
 | []=>by simp [leadS,runN]
 | b :: r => by
   cases e:noNlB b with
   | false =>
     have hb:blankB b=true:=by
      have:(b.toNat:Int)=10:=by simpa [noNlB] using e
      simp [blankB,this]
     simp [runN,e,leadS,hb]
   | true =>
     have:=lead_cmt r
     have hr:runN noNlB (b :: r)=runN noNlB r+1:=by simp [runN,e]
     rw [hr,List.drop_succ_cons,leadS,if_pos e]
     omega
theorem lead_hash {s:Bs} (h:moreB hashB s=true):leadS false s=runN noNlB s+leadS false (s.drop (runN noNlB s))∧1≤runN noNlB s:=by
 cases s with
 | nil=>simp [moreB] at h
 | cons b r =>
   have hb:(b.toNat:Int)=35:=by simpa [moreB,hashB] using h
   have h1:blankB b=false:=by simp [blankB,hb]
   have h2:hashB b=true:=by simp [hashB,hb]
   have h3:noNlB b=true:=by simp [noNlB,hb]
   have hr:runN noNlB (b :: r)=runN noNlB r+1:=by simp [runN,h3]
   have:=lead_cmt r
   rw [hr,List.drop_succ_cons,leadS,h1,if_neg (by simp),if_pos h2]
   exact ⟨by omega,by omega⟩
theorem lead_none {s:Bs} (h1:moreB blankB s=false) (h2:moreB hashB s=false):leadS false s=0:=by
 cases s with
 | nil=>rfl
 | cons b r =>
   have h1:blankB b=false:=h1
   have h2:hashB b=false:=h2
   simp [leadS,h1,h2]
section
variable {P:Program}
theorem Has.lead {f fm fb fh fl} (h:Has P f (irScLead fm fb fh fl)) (hm:Has P fm irScMore) (k1:callOk P fb=true) (p1:ByteOk P fb blankB) (k2:callOk P fh=true) (p2:ByteOk P fh hashB) (k3:callOk P fl=true) (p3:ByteOk P fl noNlB)
 {H:Hp} {i:Nat} {ts:TypeId} {text:Bs} {n:Nat} (hi:H[i]?=some (scan ts text n)) (hn:n≤text.length) (hl:text.length≤4611686018427387904) :
 ACall P f [.ptr i 0] H (fun r H'=>r = .d (.str ((text.drop n).take (leadS false (text.drop n))))∧H'=H.set i (scan ts text (n+leadS false (text.drop n)))):=by
 obtain ⟨fn,hf,hcf⟩:=h
 have hil:=scan_len hi
 refine acall_fin hf hcf (by simp [irScLead]) fun hcl _ => ?_
 have hi':=hi
 unfold scan at hi'
 simp [irScLead,hi']
 have hL:=lead_le false (text.drop n)
 simp only [List.length_drop] at hL
 refine LoopM_of H.length (fun d fr H'=>∃ j,d=leadS false (text.drop n) - j∧j+leadS false (text.drop (n+j))=leadS false (text.drop n)∧fr 0 = .ptr i 0∧fr 3 = .d (.int .i64 (n:Int))∧H'=H.set i (scan ts text (n+j))) (leadS false (text.drop n)) (by simp) ⟨0,?_⟩ ?_
 · simp [cut_self hcl,hil]
   exact (Hp.set_self hi).symm
 generalize leadS false (text.drop n)=L at hL
 rintro d fr H' ⟨j,rfl,hj,f0,f3,rfl⟩
 simp
 have hb:=lead_blank (text.drop (n+j))
 have hstep:=runN_step blankB (text.drop (n+j))
 have hW:=runN_le blankB (text.drop (n+j))
 simp only [drop_add',List.length_drop] at hW hstep hb
 generalize runN blankB (text.drop (n+j))=wa at hb hstep hW
 refine LoopK_out 2 (fun fr H'=>fr 0 = .ptr i 0∧fr 3 = .d (.int .i64 (n:Int))∧H'=H.set i (scan ts text (n+j+wa))) ?_ ?_
 · refine LoopM_of H.length (fun d fr H'=>∃ q,d=wa - q∧q≤wa∧fr 0 = .ptr i 0∧fr 3 = .d (.int .i64 (n:Int))∧H'=H.set i (scan ts text (n+j+q))) wa (by simp) ⟨0,?_⟩ ?_
   · simp [f0,f3,Hp.cut_set,cut_self hcl,hil,scan]
   rintro d fr H' ⟨q,rfl,hq,f0,f3,rfl⟩
   have hij:(H.set i (scan ts text (n+j+q)))[i]?=some (scan ts text (n+j+q)):=by simp [hil]
   have hm':=hm.more k1 p1 hij
   rw [hstep q hq] at hm'
   simp [f0]
   refine CallK_of' hm' ?_
   simp
   refine BrK_split (fun h => ?_) (fun h => ?_)
   · have hlt:q < wa:=by simpa using h
     have hwr:IntKind.i64.wrap (((n:Int)+j)+q+1)=((n:Int)+j)+(q+1):=by rw [wrap_i64 (by omega) (by omega)]; omega
     simp [f0,hil,scan,hwr]
     refine NextM_of H.length (wa - (q+1)) (Nat.le_refl _) (by simp) (by omega) ⟨q+1,rfl,by omega,?_⟩
     simp [f0,f3,Hp.cut_set,cut_self hcl,hil,scan]
   · have hqq:q=wa:=by
      have:¬ q < wa:=by simpa using h
      omega
     subst hqq
     simp [f0,f3]
 rintro fr H' ⟨f0,f3,rfl⟩
 have hij:(H.set i (scan ts text (n+j+wa)))[i]?=some (scan ts text (n+j+wa)):=by simp [hil]
 have hm':=hm.more k2 p2 hij
 simp [f0]
 refine CallK_of' hm' ?_
 cases hh:moreB hashB (text.drop (n+j+wa)) with
 | false =>
   have hnb:moreB blankB (text.drop (n+j+wa))=false:=by rw [hstep wa (Nat.le_refl _)]; simp
   have h0:=lead_none hnb hh
   have hLL:L=j+wa:=by omega
   have hs:=sub_ok (s:=text) (n:=n) (w:=j+wa) (by omega)
   simp [f0,f3,hil,scan,Int.add_assoc]
   simp at hs
   simp [hs]
   simp [RetK,Hp.cut_set,cut_self hcl,hil,scan,hLL,Int.add_assoc]
 | true =>
   simp
   obtain ⟨hc,hc1⟩:=lead_hash hh
   have hstep:=runN_step noNlB (text.drop (n+j+wa))
   have hW:=runN_le noNlB (text.drop (n+j+wa))
   simp only [drop_add',List.length_drop] at hW hstep hc
   generalize runN noNlB (text.drop (n+j+wa))=wc at hc hc1 hstep hW
   refine LoopK_out 4 (fun fr H'=>fr 0 = .ptr i 0∧fr 3 = .d (.int .i64 (n:Int))∧H'=H.set i (scan ts text (n+j+wa+wc))) ?_ ?_
   · refine LoopM_of H.length (fun d fr H'=>∃ q,d=wc - q∧q≤wc∧fr 0 = .ptr i 0∧fr 3 = .d (.int .i64 (n:Int))∧H'=H.set i (scan ts text (n+j+wa+q))) wc (by simp) ⟨0,?_⟩ ?_
     · simp [f0,f3,Hp.cut_set,cut_self hcl,hil,scan]
     rintro d fr H' ⟨q,rfl,hq,f0,f3,rfl⟩
     have hij:(H.set i (scan ts text (n+j+wa+q)))[i]?=some (scan ts text (n+j+wa+q)):=by simp [hil]
     have hm':=hm.more k3 p3 hij
     rw [hstep q hq] at hm'
     simp [f0]
     refine CallK_of' hm' ?_
     simp
     refine BrK_split (fun h => ?_) (fun h => ?_)
     · have hlt:q < wc:=by simpa using h
       have hwr:IntKind.i64.wrap (((n:Int)+j+wa)+q+1)=((n:Int)+j+wa)+(q+1):=by rw [wrap_i64 (by omega) (by omega)]; omega
       simp [f0,hil,scan,hwr]
       refine NextM_of H.length (wc - (q+1)) (Nat.le_refl _) (by simp) (by omega) ⟨q+1,rfl,by omega,?_⟩
       simp [f0,f3,Hp.cut_set,cut_self hcl,hil,scan]
     · have hqq:q=wc:=by
        have:¬ q < wc:=by simpa using h
        omega
       subst hqq
       simp [f0,f3]
   rintro fr H' ⟨f0,f3,rfl⟩
   simp
   refine NextM_of H.length (L - (j+wa+wc)) (Nat.le_refl _) (by simp) (by omega) ⟨j+wa+wc,rfl,?_,?_⟩
   · have e:n+(j+wa+wc)=n+j+wa+wc:=by omega
     rw [e]; omega
   · simp [f0,f3,Hp.cut_set,cut_self hcl,hil,scan,Int.add_assoc]
end
end
section
def keysT:List Bs:=[[100,101,102],[100,121,110],[101,108,115,101],[102,110],[105,102],[105,110,112,117,116],[105,110,116],[108,101,116],[112,114,105,110,116],[114,101,116,117,114,110],[115,116,114],[117,115,101],[119,104,105,108,101]]
theorem keysT_mem (s:Bs):s ∈ keysT ↔ s ∈ keysL:=by
 constructor
 · intro h
   simp only [keysT,List.mem_cons,List.not_mem_nil,or_false] at h
   rcases h with rfl | rfl | rfl | rfl | rfl | rfl | rfl | rfl | rfl | rfl | rfl | rfl | rfl<;>decide
 · intro h
   simp only [keysL,List.mem_cons,List.not_mem_nil,or_false] at h
   rcases h with rfl | rfl | rfl | rfl | rfl | rfl | rfl | rfl | rfl | rfl | rfl | rfl | rfl<;>decide
def signsT:List Bs:=[[61,61],[40],[41],[123],[125],[44],[59],[58],[46],[61],[43],[45],[42],[60]]
def signV (s:Bs):Bs:=(signsT.find? fun x=>x.isPrefixOf s).getD []
def PrefixOk (P:Program) (f:FuncId):Prop:=∀ (s p:Bs) H,ACall P f [.d (.str s),.d (.str p)] H (fun r H'=>r = .d (.bool (p.isPrefixOf s))∧H'=H)
section
variable {P:Program}
theorem Has.idx {f} (h:Has P f irSlIdx) (z:Bool) (ns:List Bs) (x:Bs) (hn:ns.length≤1048576) (H:Hp):ACall P f [.d (.sl z 1 (ns.map encStr)),.d (.str x)] H (fun r H'=>(∃ q:Int,r = .d (.int .i64 q)∧(0≤q ↔ x ∈ ns))∧H'=H):=by
 obtain ⟨fn,hf,hcf⟩:=h
 refine acall_fin hf hcf (by simp [irSlIdx]) fun hcl _ => ?_
 simp [irSlIdx]
 refine LoopK_outR 0 (fun fr H'=>x ∉ ns∧H'=H) (fun fr H'=>(∃ q:Int,fr 4 = .d (.int .i64 q)∧0≤q)∧x ∈ ns∧H'=H) ?_ ?_ ?_
 · refine RangeK_of H.length ns.length (fun i fr H'=>fr 0 = .d (.sl z 1 (ns.map encStr))∧fr 1 = .d (.str x)∧x ∉ ns.take i∧H'=H) (by omega) (by decide) (by simp) (by simp) ?_ ?_ ?_
   · simp [cut_self hcl]
   · rintro i fr H' hi f8 f7 ⟨f0,f1,hx,rfl⟩
     have hr:=rowAt_map encStr hi
     have ht:ns.take (i+1)=ns.take i++[ns[i]]:=List.take_succ_eq_append_getElem hi
     have hm:=List.getElem_mem hi
     simp only [encStr] at hr
     generalize ns[i]=w at hr ht hm
     simp [f8,f0,f1,hr]
     refine BrK_split (fun h => ?_) (fun h => ?_)
     · have e:x=w:=by simpa using h
       simp
       exact e ▸ hm
     · have e:¬ x=w:=by simpa using h
       simp
       refine NextK_of H'.length (Nat.le_refl _) (by simp [f8,f7]) ?_
       simp [f0,f1,cut_self hcl,ht,hx,e]
   · rintro fr H' f8 f7 ⟨f0,f1,hx,rfl⟩
     rw [List.take_of_length_le (Nat.le_refl _)] at hx
     simp [hx]
 · rintro fr H' ⟨⟨q,f4,hq⟩,hx,rfl⟩
   simp
   simp [RetK,cut_self hcl,f4,hx]
   exact hq
 · rintro fr H' ⟨hx,rfl⟩
   simp
   simp [RetK,cut_self hcl,hx]
theorem Has.has {f fi} (h:Has P f (irSlHas fi)) (hi:Has P fi irSlIdx) (z:Bool) (ns:List Bs) (x:Bs) (hn:ns.length≤1048576) (H:Hp):ACall P f [.d (.sl z 1 (ns.map encStr)),.d (.str x)] H (fun r H'=>r = .d (.bool (decide (x ∈ ns)))∧H'=H):=by
 obtain ⟨fn,hf,hcf⟩:=h
 refine acall_fin hf hcf (by simp [irSlHas]) fun hcl _ => ?_
 simp [irSlHas]
 refine CallK_of (hi.idx z ns x hn _) ?_
 rintro r H' ⟨⟨q,rfl,hq⟩,rfl⟩
 simp
 simp [RetK,cut_self hcl,hq]
theorem Has.keys {f} (h:Has P f irTkKeys) (H:Hp):ACall P f [] H (fun r H'=>r = .d (.sl false 1 (keysT.map encStr))∧H'=H):=by
 obtain ⟨fn,hf,hcf⟩:=h
 refine acall_fin hf hcf (by simp [irTkKeys]) fun hcl _ => ?_
 simp [irTkKeys]
 simp [RetK,cut_self hcl,keysT,encStr]
theorem Has.signs {f} (h:Has P f irTkSigns) (H:Hp):ACall P f [] H (fun r H'=>r = .d (.sl false 1 (signsT.map encStr))∧H'=H):=by
 obtain ⟨fn,hf,hcf⟩:=h
 refine acall_fin hf hcf (by simp [irTkSigns]) fun hcl _ => ?_
 simp [irTkSigns]
 simp [RetK,cut_self hcl,signsT,encStr]
theorem Has.isKey {f fk fh fi} (h:Has P f (irTkIsKey fk fh)) (hk:Has P fk irTkKeys) (hh:Has P fh (irSlHas fi)) (hi:Has P fi irSlIdx) (s:Bs) (H:Hp):ACall P f [.d (.str s)] H (fun r H'=>r = .d (.bool (decide (s ∈ keysL)))∧H'=H):=by
 obtain ⟨fn,hf,hcf⟩:=h
 refine acall_fin hf hcf (by simp [irTkIsKey]) fun hcl _ => ?_
 simp [irTkIsKey]
 refine CallK_of' (hk.keys _) ?_
 have:=hh.has hi false keysT s (by decide) H
 simp only [keysT_mem] at this
 simp
 refine CallK_of' this ?_
 simp
 simp [RetK,cut_self hcl]
theorem sub_end {s:Bs} {n:Nat} (h:n≤s.length):subL s (n:Int) (s.length:Int)=some (s.drop n):=by
 rw [subL_ok ⟨by omega,by omega,by omega⟩]
 congr 1
 rw [List.take_of_length_le (by simp)]
 simp
theorem Has.sign {f fs fp} (h:Has P f (irScSign fs fp)) (hs:Has P fs irTkSigns) (hp:PrefixOk P fp) {H:Hp} {i:Nat} {ts:TypeId} {text:Bs} {n:Nat} (hi:H[i]?=some (scan ts text n)) (hn:n≤text.length) (hl:text.length≤4611686018427387904) :
 ACall P f [.ptr i 0] H (fun r H'=>r = .d (.str (signV (text.drop n)))∧H'=H.set i (scan ts text (n+(signV (text.drop n)).length))):=by
 obtain ⟨fn,hf,hcf⟩:=h
 have hil:=scan_len hi
 refine acall_fin hf hcf (by simp [irScSign]) fun hcl _ => ?_
 have hi':=hi
 unfold scan at hi'
 simp [irScSign]
 refine CallK_of' (hs.signs _) ?_
 simp
 refine LoopK_outR 0 (fun fr H'=>signV (text.drop n)=[]∧H'=H) (fun fr H'=>fr 2 = .d (.str (signV (text.drop n)))∧H'=H.set i (scan ts text (n+(signV (text.drop n)).length))) ?_ ?_ ?_
 · refine RangeK_of H.length signsT.length (fun j fr H'=>fr 0 = .ptr i 0∧fr 5 = .d (.sl false 1 (signsT.map encStr))∧(∀ x ∈ signsT.take j,x.isPrefixOf (text.drop n)=false)∧H'=H) (by decide) (by decide) (by simp) (by simp) ?_ ?_ ?_
   · simp [cut_self hcl,hil]
   · rintro j fr H' hj f7 f6 ⟨f0,f5,ha,rfl⟩
     have hr:=rowAt_map encStr hj
     have ht:signsT.take (j+1)=signsT.take j++[signsT[j]]:=List.take_succ_eq_append_getElem hj
     have hfind:signsT[j].isPrefixOf (text.drop n)=true→signV (text.drop n)=signsT[j]:=fun h=>by
      have:signsT.find? (fun x=>x.isPrefixOf (text.drop n))=some signsT[j]:=by
       rw [List.find?_eq_some_iff_getElem]
       refine ⟨h,j,hj,rfl,fun k hk => ?_⟩
       rw [ha signsT[k] (by rw [List.mem_take_iff_getElem]; exact ⟨k,by omega,rfl⟩)]
       rfl
      rw [signV,this]; rfl
     have hlen:signsT[j].length≤2:=by
      have:∀ x ∈ signsT,x.length≤2:=by decide
      exact this _ (List.getElem_mem hj)
     simp only [encStr] at hr
     generalize signsT[j]=x at hr ht hfind hlen
     simp [f7,f5,f0,hr,hi',sub_end hn]
     refine CallD_of (hp _ x _) ?_
     cases hx:x.isPrefixOf (text.drop n) with
     | true =>
       have hv:=hfind hx
       have hwr:IntKind.i64.wrap ((n:Int)+x.length)=n+x.length:=wrap_i64 (by omega) (by omega)
       have hg:H'[i]=Ob.box ts [.d (.str text),.d (.int .i64 (n:Int))]:=(List.getElem?_eq_some_iff.1 hi').2
       simp [f0,hil,hg,hwr]
       simp [hv,scan]
     | false =>
       simp
       refine NextK_of H'.length (Nat.le_refl _) (by simp [f7,f6]) ?_
       simp [f0,f5,cut_self hcl,ht]
       refine ⟨hil,?_⟩
       intro q hq
       rcases hq with hq | rfl
       · simpa using ha q hq
       · simpa using hx
   · rintro fr H' f7 f6 ⟨f0,f5,ha,rfl⟩
     rw [List.take_of_length_le (Nat.le_refl _)] at ha
     have:signsT.find? (fun x=>x.isPrefixOf (text.drop n))=none:=by
      rw [List.find?_eq_none]
      intro x hx
      rw [ha x hx]; simp
     simp [signV,this]
 · rintro fr H' ⟨f2,rfl⟩
   simp
   simp [RetK,Hp.cut_set,cut_self hcl,hil,scan,f2]
 · rintro fr H' ⟨hv,rfl⟩
   simp
   simp [RetK,cut_self hcl,hv]
   exact (Hp.set_self hi).symm
end
end
end Go.Zam
