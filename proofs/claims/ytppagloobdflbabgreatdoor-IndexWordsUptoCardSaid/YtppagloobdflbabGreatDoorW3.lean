import Derived.Test.YtppagloobdflbabGreatDoorW2
import Derived.DataReads
import Derived.ChangeArms
import Derived.ChangeSame
import Derived.Carry
import Derived.OpenShut
import Derived.Lib.LaidTab
import Derived.Shelf.Strings.Builder1
import Derived.Test.YtppagloobdflbabGreatDoorProg
set_option linter.all false
set_option maxRecDepth 100000
set_option maxHeartbeats 4000000
namespace Go.Zam
section
universe u
inductive Tag{α:Sort u}(x:α):Type where
 |mk
def OptK(K:A->Hp->Prop)(_:Tag K)(o:Option (A×Hp)):Prop:=
 match o with
 |some (v,H)=>K v H
 |none=>False
def GdK(T F:Fr->Prop)(_:Tag T)(_:Tag F)(fr:Fr)(b:Bool)(_:Nat)(x:A):Prop:=AGd x fr b T F
def BrK(T F:Prop)(_:Tag T)(_:Tag F)(x:A):Prop:=ABr x T F
def Qkm(Q:A->Hp->Prop)(_:Tag Q)(P:Program)(f:FuncId)(l:List A)(H:Hp):Prop:=Qc P f l H Q
def Qoh(Q:A->Hp->Prop)(_:Tag Q)(P:Program)(f:FuncId)(l:List A)(H:Hp):Prop:=∃v,Qc P f l H (λv' H'=>v'=v/\H'=H)/\Q v H
def Quf(Q:A->Hp->Prop)(_:Tag Q)(P:Program)(f:FuncId)(l:List A)(H:Hp):Prop:=∃v H1,Qc P f l H (λv' H'=>v'=v/\H'=H1)/\Q v H1
def ValK(Q:A->Hp->Prop)(_:Tag Q)(P:Program)(l:List A)(H:Hp)(f:A):Prop:=
 match f with
 |.d (.fn g)=>Wd P g=true/\Qc P g l H Q
 |.fn (.func g) first cap=>Wd P g=true/\Qc P g (first++l++cap) H Q
 |_=>False
def ValD(Q:A->Hp->Prop)(_:Tag Q)(P:Program)(l:List A)(H:Hp)(f:A):Prop:=
 match f with
 |.d (.fn g)=>Wd P g=true/\∃v,Qc P g l H (λv' H'=>v'=v/\H'=H)/\Q v H
 |.fn (.func g) first cap=>Wd P g=true/\∃v,Qc P g (first++l++cap) H (λv' H'=>v'=v/\H'=H)/\Q v H
 |_=>False
def AnyK(Q:Ex->Fr->Hp->Prop)(l:List IOp)(w:List (List Nat))(_:Tag (Q,l,w))(P:Program)(n0:Nat)(fr:Fr)(H:Hp):Prop:=AWp P n0 (.any l w) Q fr H
def Qeu(Q:Ex->Fr->Hp->Prop)(c:C)(_:Tag (Q,c))(P:Program)(n0:Nat)(fr:Fr)(H:Hp):Prop:=AWp P n0 (.loop c) Q fr H
def Qj1(J:Fr->Hp->Prop)(μ:Fr->Hp->Nat)(_:Tag (J,μ))(m n:Nat)(fr:Fr)(H:Hp):Prop:=Again m J μ n fr H
def RetK(K:A->Hp->Prop)(_:Tag K)(n0:Nat)(o:Option A)(H:Hp):Prop:=
 match o with
 |some x=>n0<=H.length/\K (x.clr n0) (Hp.cut n0 H)
 |none=>False
@[congr]theorem Q1t{o o':Option (A×Hp)}{K:A->Hp->Prop}{t:Tag K}(h:o=o'):OptK K t o=OptK K t o':=by rw[h]
@[congr]theorem GdK_congr{T F:Fr->Prop}{t:Tag T}{u:Tag F}{fr fr':Fr}{b:Bool}{s:Nat}{x x':A}(h:x=x')(h2:fr=fr'):GdK T F t u fr b s x=GdK T F t u fr' b s x':=by rw[h,h2]
@[congr]theorem BrK_congr{T F:Prop}{t:Tag T}{u:Tag F}{x x':A}(h:x=x'):BrK T F t u x=BrK T F t u x':=by rw[h]
@[congr]theorem Q0e{Q:A->Hp->Prop}{t:Tag Q}{P:Program}{f:FuncId}{l l':List A}{H H':Hp}(h:l=l')(h2:H=H'):Qkm Q t P f l H=Qkm Q t P f l' H':=by rw[h,h2]
@[congr]theorem Q0g{Q:A->Hp->Prop}{t:Tag Q}{P:Program}{f:FuncId}{l l':List A}{H H':Hp}(h:l=l')(h2:H=H'):Qoh Q t P f l H=Qoh Q t P f l' H':=by rw[h,h2]
@[congr]theorem Q0f{Q:A->Hp->Prop}{t:Tag Q}{P:Program}{f:FuncId}{l l':List A}{H H':Hp}(h:l=l')(h2:H=H'):Quf Q t P f l H=Quf Q t P f l' H':=by rw[h,h2]
@[congr]theorem Q1o{Q:A->Hp->Prop}{t:Tag Q}{P:Program}{f f':A}{l l':List A}{H H':Hp}(h:l=l')(h2:H=H')(h3:f=f'):ValK Q t P l H f=ValK Q t P l' H' f':=by rw[h,h2,h3]
@[congr]theorem Q1p{Q:A->Hp->Prop}{t:Tag Q}{P:Program}{f f':A}{l l':List A}{H H':Hp}(h:l=l')(h2:H=H')(h3:f=f'):ValD Q t P l H f=ValD Q t P l' H' f':=by rw[h,h2,h3]
@[congr]theorem Q0c{Q:Ex->Fr->Hp->Prop}{c:C}{t:Tag (Q,c)}{P:Program}{n0:Nat}{fr fr':Fr}{H H':Hp}(h:fr=fr')(h2:H=H'):Qeu Q c t P n0 fr H=Qeu Q c t P n0 fr' H':=by rw[h,h2]
@[congr]theorem Q1v{Q:Ex->Fr->Hp->Prop}{l:List IOp}{w:List (List Nat)}{t:Tag (Q,l,w)}{P:Program}{n0:Nat}{fr fr':Fr}{H H':Hp}(h:fr=fr')(h2:H=H'):AnyK Q l w t P n0 fr H=AnyK Q l w t P n0 fr' H':=by rw[h,h2]
@[congr]theorem Qzu{J:Fr->Hp->Prop}{μ:Fr->Hp->Nat}{t:Tag (J,μ)}{m n:Nat}{fr fr':Fr}{H H':Hp}(h:fr=fr')(h2:H=H'):Qj1 J μ t m n fr H=Qj1 J μ t m n fr' H':=by rw[h,h2]
@[congr]theorem Q1s{K:A->Hp->Prop}{t:Tag K}{n0:Nat}{o o':Option A}{H H':Hp}(h:o=o')(h2:H=H'):RetK K t n0 o H=RetK K t n0 o' H':=by rw[h,h2]
def I.pl:I->Bool
 |.call ..|.callE ..|.callv ..=>false
 |_=>true
class Pl (i:I):Prop where
 h:i.pl=true
instance {a}:Pl (.mv a):=⟨rfl⟩
instance {a b}:Pl (.nilT a b):=⟨rfl⟩
instance {a b}:Pl (.nilW a b):=⟨rfl⟩
instance {a b c}:Pl (.pick a b c):=⟨rfl⟩
instance {a b}:Pl (.alloc a b):=⟨rfl⟩
instance {a b c d e}:Pl (.allocT a b c d e):=⟨rfl⟩
instance {a b c}:Pl (.allocU a b c):=⟨rfl⟩
instance {a b c}:Pl (.box a b c):=⟨rfl⟩
instance {a b c}:Pl (.load a b c):=⟨rfl⟩
instance {a b c}:Pl (.store a b c):=⟨rfl⟩
instance {a}:Pl (.nilCheck a):=⟨rfl⟩
instance {a b c}:Pl (.bin a b c):=⟨rfl⟩
instance {a b c}:Pl (.beq a b c):=⟨rfl⟩
instance {a b}:Pl (.isNilS a b):=⟨rfl⟩
instance {a b}:Pl (.isNilP a b):=⟨rfl⟩
instance {a b}:Pl (.un a b):=⟨rfl⟩
instance {a b}:Pl (.cvt a b):=⟨rfl⟩
instance {a b}:Pl (.faddr a b):=⟨rfl⟩
instance {a b c d}:Pl (.fld a b c d):=⟨rfl⟩
instance {a b c}:Pl (.iaddr a b c):=⟨rfl⟩
instance {a b}:Pl (.sidx a b):=⟨rfl⟩
instance {a b c}:Pl (.sslice a b c):=⟨rfl⟩
instance {a b c d e}:Pl (.slice a b c d e):=⟨rfl⟩
instance {a b}:Pl (.build a b):=⟨rfl⟩
instance {a b c}:Pl (.buildT a b c):=⟨rfl⟩
instance {a b}:Pl (.bslice a b):=⟨rfl⟩
instance {a b c}:Pl (.bsliceT a b c):=⟨rfl⟩
instance {a b c}:Pl (.bsliceV a b c):=⟨rfl⟩
instance {a b}:Pl (.bsliceM a b):=⟨rfl⟩
instance {a b c d e}:Pl (.appV a b c d e):=⟨rfl⟩
instance:Pl .mkMap:=⟨rfl⟩
instance {a b c d e f}:Pl (.lkp a b c d e f):=⟨rfl⟩
instance {a b c d}:Pl (.mpUpd a b c d):=⟨rfl⟩
instance {a b c d}:Pl (.eqA a b c d):=⟨rfl⟩
instance {a b}:Pl (.ext a b):=⟨rfl⟩
instance {a}:Pl (.lenS a):=⟨rfl⟩
instance {a}:Pl (.lenL a):=⟨rfl⟩
instance {a b c}:Pl (.mm a b c):=⟨rfl⟩
instance {a b c d e}:Pl (.app a b c d e):=⟨rfl⟩
instance {a b c}:Pl (.mkfn a b c):=⟨rfl⟩
section
variable{P:Program}{n0:Nat}{Q:Ex->Fr->Hp->Prop}{fr:Fr}{H:Hp}
@[simp]theorem OptK_some{K:A->Hp->Prop}{t:Tag K}(v:A)(H:Hp):OptK K t (some (v,H))=K v H:=propext Q3m
@[simp↓]theorem Qyg:AWp P n0 .skip Q fr H=Q .normal fr H:=propext Q3m
@[simp↓]theorem AWp_ops(l:List IOp):AWp P n0 (.ops l false) Q fr H=AOps P l (Q .normal) fr H:=propext Q3m
@[simp↓]theorem AWp_draw(l:List IOp):AWp P n0 (.ops l true) Q fr H=Vn P l (Q .normal) fr H:=propext Q3m
@[simp↓]theorem AWp_both(a b:C):AWp P n0 (.both a b) Q fr H=(AWp P n0 a Q fr H/\AWp P n0 b Q fr H):=propext Q3m
@[simp↓]theorem Qld(a b:C):AWp P n0 (.seq a b) Q fr H=AWp P n0 a (Ex.then (AWp P n0 b Q) Q) fr H:=propext Q3m
@[simp↓]theorem AWp_cond(c:Arg)(a b:C):AWp P n0 (.cond c a b) Q fr H=BrK (AWp P n0 a Q fr H) (AWp P n0 b Q fr H) .mk .mk (c.ev fr):=propext Q3m
@[simp↓]theorem Qug(i:Nat)(c:C):AWp P n0 (.blk i c) Q fr H=AWp P n0 c (Ex.blk i Q) fr H:=propext Q3m
@[simp↓]theorem AWp_exit(i:Nat):AWp P n0 (.exit i) Q fr H=Q (.exit i) fr H:=propext Q3m
@[simp↓]theorem AWp_ret:AWp P n0 .ret Q fr H=Q .ret fr H:=propext Q3m
@[simp↓]theorem Q0h(c:C):AWp P n0 (.loop c) Q fr H=Qeu Q c .mk P n0 fr H:=propext Q3m
@[simp↓]theorem Q1w(l:List IOp)(w:List (List Nat)):AWp P n0 (.any l w) Q fr H=AnyK Q l w .mk P n0 fr H:=propext Q3m
@[simp↓]theorem Qe1{K:Fr->Hp->Prop}:Ex.then K Q .normal fr H=K fr H:=propext Q3m
@[simp↓]theorem then_exit{K:Fr->Hp->Prop}(i:Nat):Ex.then K Q (.exit i) fr H=Q (.exit i) fr H:=propext Q3m
@[simp↓]theorem then_ret{K:Fr->Hp->Prop}:Ex.then K Q .ret fr H=Q .ret fr H:=propext Q3m
@[simp↓]theorem Qs1(i:Nat):Ex.blk i Q .normal fr H=Q .normal fr H:=propext Q3m
@[simp↓]theorem blk_ret(i:Nat):Ex.blk i Q .ret fr H=Q .ret fr H:=propext Q3m
@[simp↓]theorem Qrg(i j:Nat):Ex.blk i Q (.exit j) fr H=if j=i then Q .normal fr H else Q (.exit j) fr H:=propext Q3m
@[simp↓]theorem Again_eq(m:Nat)(J:Fr->Hp->Prop)(μ:Fr->Hp->Nat)(n:Nat):Again m J μ n fr H=Qj1 J μ .mk m n fr H:=propext Q3m
@[simp↓]theorem AOps_nil{K:Fr->Hp->Prop}:AOps P [] K fr H=K fr H:=propext Q3m
@[simp↓]theorem ADraw_nil{K:Fr->Hp->Prop}:Vn P [] K fr H=K fr H:=propext Q3m
@[simp↓]theorem Q1x{K:Fr->Hp->Prop}(d:Option Nat)(s:Nat)(b:Bool)(i:I)(r:List IOp):AOps P (⟨d,some (s,b),i⟩::r) K fr H=
 GdK (λfr=>AOps P (⟨d,none,i⟩::r) K fr H) (λfr=>AOps P r K (fr.put d (.tup [])) H) .mk .mk fr b s (fr s):=propext Q3m
@[simp↓]theorem Q0i{K:Fr->Hp->Prop}(d:Option Nat)(s:Nat)(b:Bool)(i:I)(r:List IOp):Vn P (⟨d,some (s,b),i⟩::r) K fr H=
 GdK (λfr=>Vn P (⟨d,none,i⟩::r) K fr H) (λfr=>Vn P r K (fr.put d (.tup [])) H) .mk .mk fr b s (fr s):=propext Q3m
@[simp↓]theorem AOps_pl{K:Fr->Hp->Prop}(d:Option Nat)(i:I)(r:List IOp)[h:Pl i]:AOps P (⟨d,none,i⟩::r) K fr H=
 OptK (λv H'=>AOps P r K (fr.put d v) H') .mk (Qj fr H i):=by obtain⟨h⟩:=h;cases i<;>first|exact propext Q3m|cases h
@[simp↓]theorem ADraw_pl{K:Fr->Hp->Prop}(d:Option Nat)(i:I)(r:List IOp)[h:Pl i]:Vn P (⟨d,none,i⟩::r) K fr H=
 OptK (λv H'=>Vn P r K (fr.put d v) H') .mk (Qj fr H i):=by obtain⟨h⟩:=h;cases i<;>first|exact propext Q3m|cases h
@[simp↓]theorem AOps_call{K:Fr->Hp->Prop}(d:Option Nat)(f:FuncId)(l:List Arg)(r:List IOp):AOps P (⟨d,none,.call f l⟩::r) K fr H=
 Qkm (λv H'=>AOps P r K (fr.put d v) H') .mk P f (l.map (Arg.ev fr)) H:=propext Q3m
@[simp↓]theorem Q10{K:Fr->Hp->Prop}(d:Option Nat)(f:FuncId)(l:List Arg)(r:List IOp):Vn P (⟨d,none,.call f l⟩::r) K fr H=
 Qoh (λv H'=>Vn P r K (fr.put d v) H') .mk P f (l.map (Arg.ev fr)) H:=propext Q3m
@[simp↓]theorem Q1z{K:Fr->Hp->Prop}(d:Option Nat)(f:FuncId)(l:List Arg)(r:List IOp):AOps P (⟨d,none,.callE f l⟩::r) K fr H=
 Qkm (λv H'=>AOps P r K (fr.put d v) H') .mk P f (l.map (Arg.ev fr)) H:=propext Q3m
@[simp↓]theorem Q0k{K:Fr->Hp->Prop}(d:Option Nat)(f:FuncId)(l:List Arg)(r:List IOp):Vn P (⟨d,none,.callE f l⟩::r) K fr H=
 Quf (λv H'=>Vn P r K (fr.put d v) H') .mk P f (l.map (Arg.ev fr)) H:=propext Q3m
@[simp↓]theorem Q1y{K:Fr->Hp->Prop}(d:Option Nat)(f:Arg)(l:List Arg)(r:List IOp):AOps P (⟨d,none,.callv f l⟩::r) K fr H=
 ValK (λv H'=>AOps P r K (fr.put d v) H') .mk P (l.map (Arg.ev fr)) H (f.ev fr):=by simp only[AOps,runI,ValK];rfl
@[simp↓]theorem Q0j{K:Fr->Hp->Prop}(d:Option Nat)(f:Arg)(l:List Arg)(r:List IOp):Vn P (⟨d,none,.callv f l⟩::r) K fr H=
 ValD (λv H'=>Vn P r K (fr.put d v) H') .mk P (l.map (Arg.ev fr)) H (f.ev fr):=by simp only[Vn,runD,ValD];rfl
@[simp]theorem GdK_yes{b:Bool}{T F:Fr->Prop}{t:Tag T}{u:Tag F}{s:Nat}:GdK T F t u fr b s (.d (.bool b))=T fr:=by simp[GdK,AGd]
@[simp]theorem GdK_no1{T F:Fr->Prop}{t:Tag T}{u:Tag F}{s:Nat}:GdK T F t u fr true s (.d (.bool false))=F fr:=by simp[GdK,AGd]
@[simp]theorem GdK_no2{T F:Fr->Prop}{t:Tag T}{u:Tag F}{s:Nat}:GdK T F t u fr false s (.d (.bool true))=F fr:=by simp[GdK,AGd]
@[simp]theorem GdK_tup{b:Bool}{T F:Fr->Prop}{t:Tag T}{u:Tag F}{s:Nat}:GdK T F t u fr b s (.tup [])=F fr:=by simp[GdK,AGd]
@[simp]theorem BrK_true{T F:Prop}{t:Tag T}{u:Tag F}:BrK T F t u (.d (.bool true))=T:=by simp[BrK,ABr]
@[simp]theorem BrK_false{T F:Prop}{t:Tag T}{u:Tag F}:BrK T F t u (.d (.bool false))=F:=by simp[BrK,ABr]
@[simp]theorem ValK_d{Q:A->Hp->Prop}{t:Tag Q}{l:List A}{f:FuncId}:ValK Q t P l H (.d (.fn f))=(Wd P f=true/\Qkm Q .mk P f l H):=propext Q3m
@[simp]theorem ValK_fn{Q:A->Hp->Prop}{t:Tag Q}{l a c:List A}{f:FuncId}:ValK Q t P l H (.fn (.func f) a c)=(Wd P f=true/\Qkm Q .mk P f (a++l++c) H):=propext Q3m
@[simp]theorem Qx5{Q:A->Hp->Prop}{t:Tag Q}{l:List A}{f:FuncId}:ValD Q t P l H (.d (.fn f))=(Wd P f=true/\Qoh Q .mk P f l H):=propext Q3m
@[simp]theorem ValD_fn{Q:A->Hp->Prop}{t:Tag Q}{l a c:List A}{f:FuncId}:ValD Q t P l H (.fn (.func f) a c)=(Wd P f=true/\Qoh Q .mk P f (a++l++c) H):=propext Q3m
theorem Fr.set_self(fr:Fr)(s:Nat):fr.set s (fr s)=fr:=by
 funext t;simp only[Fr.set];split
 .rename_i h;rw[h]
 .rfl
def Qj0{c b:Bool}{T F:Fr->Prop}{t:Tag T}{u:Tag F}{s:Nat}(hs:fr s=.d (.bool c))(hT:c=b->T (fr.set s (.d (.bool b))))(hF:c=(!b)->F (fr.set s (.d (.bool (!b))))):GdK T F t u fr b s (.d (.bool c)):=by
 simp only[GdK,AGd];split
 .rename_i h;subst h;have:=hT rfl;rwa[<-hs,Fr.set_self]at this
 .rename_i h;have hc:c= !b:=by cases c<;>cases b<;>simp_all
  have:=hF hc;rw[<-hc,<-hs,Fr.set_self]at this;exact this
def Qh{c:Bool}{T F:Prop}{t:Tag T}{u:Tag F}(hT:c=true->T)(hF:c=false->F):BrK T F t u (.d (.bool c)):=by
 simp only[BrK,ABr];cases c with
 |true=>simp only[if_true];exact hT rfl
 |false=>simp only[Q2c,if_false];exact hF rfl
def Qf{Q R:A->Hp->Prop}{t:Tag Q}{f:FuncId}{l:List A}(h:Qc P f l H R)(hq:∀x H',R x H'->Q x H'):Qkm Q t P f l H:=h.mono hq
def Vj{Q:A->Hp->Prop}{t:Tag Q}{f:FuncId}{l:List A}{v:A}(h:Qc P f l H (λx H'=>x=v/\H'=H))(hq:Q v H):Qoh Q t P f l H:=⟨v,h,hq⟩
def Qf2{Q:A->Hp->Prop}{t:Tag Q}{f:FuncId}{l:List A}{v:A}{H1:Hp}(h:Qc P f l H (λx H'=>x=v/\H'=H1))(hq:Q v H1):Quf Q t P f l H:=⟨v,H1,h,hq⟩
def Qa{Q:A->Hp->Prop}{t:Tag Q}{f:FuncId}{l:List A}{v:A}{H1:Hp}(h:Qc P f l H (λx H'=>x=v/\H'=H1))(hq:Q v H1):Qkm Q t P f l H:=h.mono λ_ _ ⟨hx,hh⟩=>by rw[hx,hh];exact hq
def Wy{c:C}{t:Tag (Q,c)}(m:Nat)(J:Fr->Hp->Prop)(μ:Fr->Hp->Nat)(h1:n0<=m/\m<=H.length)(h2:J (fr.clr m) (Hp.cut m H))(h3:∀fr H,J fr H->AWp P n0 c (Ex.then (Again m J μ (μ fr H)) Q) fr H):Qeu Q c t P n0 fr H:=⟨m,J,μ,h1.1,h1.2,h2,h3⟩
def Wf{J:Fr->Hp->Prop}{μ:Fr->Hp->Nat}{t:Tag (J,μ)}{m n:Nat}(h1:m<=H.length)(h2:J (fr.clr m) (Hp.cut m H))(h3:μ (fr.clr m) (Hp.cut m H)<n):Qj1 J μ t m n fr H:=⟨m,Q14 _,h1,h2,h3⟩
def Qhg{J:Fr->Hp->Prop}{μ:Fr->Hp->Nat}{t:Tag (J,μ)}{m n:Nat}(k:Nat)(hk:m<=k)(h1:k<=H.length)(h2:J (fr.clr k) (Hp.cut k H))(h3:μ (fr.clr k) (Hp.cut k H)<n):Qj1 J μ t m n fr H:=⟨k,hk,h1,h2,h3⟩
def Q1r{rs:List Res}{K:A->Hp->Prop}(e:Ex)(he:(match e with|.exit _=>False|_=>True))(h:RetK K .mk n0 (resA fr H rs) H):Ret rs n0 K e fr H:=by
 unfold RetK at h;split at h
 .rename_i x hx;cases e with
  |exit i=>exact he.elim
  |normal=>exact⟨x,n0,hx,Q14 _,h.1,h.2⟩
  |ret=>exact⟨x,n0,hx,Q14 _,h.1,h.2⟩
 .exact h.elim
end
def Fin(rs:List Res)(n0:Nat)(K:A->Hp->Prop):Ex->Fr->Hp->Prop
 |.exit _,_,_=>False
 |_,fr,H=>RetK K .mk n0 (resA fr H rs) H
@[simp↓]theorem Fin_ret{rs:List Res}{n0:Nat}{K:A->Hp->Prop}{fr:Fr}{H:Hp}:Fin rs n0 K .ret fr H=RetK K .mk n0 (resA fr H rs) H:=propext Q3m
@[simp↓]theorem Q1u{rs:List Res}{n0:Nat}{K:A->Hp->Prop}{fr:Fr}{H:Hp}:Fin rs n0 K .normal fr H=RetK K .mk n0 (resA fr H rs) H:=propext Q3m
theorem runI.mono{P:Program}{fr:Fr}{H:Hp}{i:I}{K K':A->Hp->Prop}(h:runI P fr H i K)(hk:∀v H',K v H'->K' v H'):runI P fr H i K':=by
 cases i with
 |call f l=>exact Qc.mono h hk
 |callE f l=>exact Qc.mono h hk
 |callv f l=>
  simp only[runI]at h⊢;split at h
  .exact⟨h.1,h.2.mono hk⟩
  .exact⟨h.1,h.2.mono hk⟩
  .exact h.elim
 |_=>
  simp only[runI]at h⊢;split at h
  .exact hk _ _ h
  .exact h.elim
def runD.mono{P:Program}{fr:Fr}{H:Hp}{i:I}{K K':A->Hp->Prop}(h:runD P fr H i K)(hk:∀v H',K v H'->K' v H'):runD P fr H i K':=by
 cases i with
 |call f l=>obtain⟨v,h1,h2⟩:=h;exact⟨v,h1,hk _ _ h2⟩
 |callE f l=>obtain⟨v,H1,h1,h2⟩:=h;exact⟨v,H1,h1,hk _ _ h2⟩
 |callv f l=>
  simp only[runD]at h⊢;split at h
  .obtain⟨h0,v,h1,h2⟩:=h;exact⟨h0,v,h1,hk _ _ h2⟩
  .obtain⟨h0,v,h1,h2⟩:=h;exact⟨h0,v,h1,hk _ _ h2⟩
  .exact h.elim
 |_=>
  simp only[runD]at h⊢;split at h
  .exact hk _ _ h
  .exact h.elim
def AGd.mono{x:A}{fr:Fr}{b:Bool}{T F T' F':Fr->Prop}(h:AGd x fr b T F)(ht:T fr->T' fr)(hf:F fr->F' fr):AGd x fr b T' F':=by
 unfold AGd at h⊢;split at h
 .split at h
  .rename_i e;simp only[e,if_true];exact ht h
  .rename_i e;simp only[e,if_false];exact hf h
 .exact hf h
 .exact h.elim
def AOps.mono{P:Program}{K K':Fr->Hp->Prop}(hk:∀fr H,K fr H->K' fr H):∀(l:List IOp)(fr:Fr)(H:Hp),AOps P l K fr H->AOps P l K' fr H
 |[],fr,H,h=>hk _ _ h
 |⟨d,none,i⟩::r,fr,H,h=>runI.mono (h:runI P fr H i _) λ_ _ h=>AOps.mono hk r _ _ h
 |⟨d,some (s,b),i⟩::r,fr,H,h=>by simp only[AOps]at h⊢;exact AGd.mono h (λh=>runI.mono h λ_ _ h=>AOps.mono hk r _ _ h) (λh=>AOps.mono hk r _ _ h)
def Vn.mono{P:Program}{K K':Fr->Hp->Prop}(hk:∀fr H,K fr H->K' fr H):∀(l:List IOp)(fr:Fr)(H:Hp),Vn P l K fr H->Vn P l K' fr H
 |[],fr,H,h=>hk _ _ h
 |⟨d,none,i⟩::r,fr,H,h=>runD.mono (h:runD P fr H i _) λ_ _ h=>Vn.mono hk r _ _ h
 |⟨d,some (s,b),i⟩::r,fr,H,h=>by simp only[Vn]at h⊢;exact AGd.mono h (λh=>runD.mono h λ_ _ h=>Vn.mono hk r _ _ h) (λh=>Vn.mono hk r _ _ h)
def AWp.mono{P:Program}{n0:Nat}:∀(c:C){Q Q':Ex->Fr->Hp->Prop}(_:∀e fr H,Q e fr H->Q' e fr H)(fr:Fr)(H:Hp),AWp P n0 c Q fr H->AWp P n0 c Q' fr H
 |.skip,_,_,hq,fr,H,h=>hq _ _ _ h
 |.ops l false,_,_,hq,fr,H,h=>AOps.mono (hq _) l fr H h
 |.ops l true,_,_,hq,fr,H,h=>Vn.mono (hq _) l fr H h
 |.both a b,_,_,hq,fr,H,h=>⟨AWp.mono a hq fr H h.1,AWp.mono b hq fr H h.2⟩
 |.seq a b,Q,Q',hq,fr,H,h=>AWp.mono a (λe fr H h=>by
  cases e with
  |normal=>exact AWp.mono b hq fr H h
  |exit i=>exact hq _ _ _ h
  |ret=>exact hq _ _ _ h) fr H h
 |.cond c a b,Q,Q',hq,fr,H,h=>by
  simp only[AWp,ABr]at h⊢;split at h
  .split at h
   .rename_i e;simp only[e,if_true];exact AWp.mono a hq fr H h
   .rename_i e;simp only[e];exact AWp.mono b hq fr H h
  .exact h.elim
 |.blk i c,Q,Q',hq,fr,H,h=>AWp.mono c (λe fr H h=>by
  cases e with
  |normal=>exact hq _ _ _ h
  |exit j=>
   simp only[Ex.blk]at h⊢;split at h
   .rename_i e;simp only[e,if_true];exact hq _ _ _ h
   .rename_i e;simp only[e,if_false];exact hq _ _ _ h
  |ret=>exact hq _ _ _ h) fr H h
 |.loop c,Q,Q',hq,fr,H,⟨m,J,μ,h1,h2,h3,h4⟩=>⟨m,J,μ,h1,h2,h3,λfr H hj=>AWp.mono c (λe fr H h=>by
  cases e with
  |normal=>exact h
  |exit j=>exact hq _ _ _ h
  |ret=>exact hq _ _ _ h) fr H (h4 fr H hj)⟩
 |.exit i,_,_,hq,fr,H,h=>hq _ _ _ h
 |.ret,_,_,hq,fr,H,h=>hq _ _ _ h
 |.bad,_,_,_,_,_,h=>h.elim
 |.any _ _,_,_,hq,_,_,⟨Inv,h1,h2⟩=>⟨Inv,h1,λS fr H hs hi=>⟨λe=>hq _ _ _ ((h2 S fr H hs hi).1 e),(h2 S fr H hs hi).2⟩⟩
def Qy{P:Program}{f:FuncId}{fn:Func}{tok:List Nat}{ifn:IFn}{args:List A}{H:Hp}{K:A->Hp->Prop}(hf:P.funcs[f]?=some fn)(hc:Qn P tok fn=some ifn)(hn:args.length<=ifn.nt)(h:H.Closed->(∀a∈args,a.flat0=true->a.lo H.length=true)->AWp P H.length ifn.body (Fin ifn.res H.length K) (Fr.init args) H):Qc P f args H K:=Qro hf hc hn λh1 h2=>AWp.mono _ (λe fr H h=>Q1r e (by cases e<;>first|trivial|exact h.elim) (by cases e<;>first|exact h|exact h.elim)) _ _ (h h1 h2)
def Qe{P:Program}{f:FuncId}{tok:List Nat}{ifn:IFn}{args:List A}{H:Hp}{K:A->Hp->Prop}(hx:∃fn,P.funcs[f]?=some fn/\Qn P tok fn=some ifn)(hn:args.length<=ifn.nt)(h:H.Closed->(∀a∈args,a.flat0=true->a.lo H.length=true)->AWp P H.length ifn.body (Fin ifn.res H.length K) (Fr.init args) H):Qc P f args H K:=by obtain⟨_,hf,hc⟩:=hx;exact Qy hf hc hn h
@[simp]theorem Fr.put_some(fr:Fr)(d:Nat)(v:A):fr.put (some d) v=fr.set d v:=rfl
@[simp]theorem Fr.put_none(fr:Fr)(v:A):fr.put none v=fr:=rfl
@[simp↓]theorem Fr.set_app(fr:Fr)(d:Nat)(v:A)(s:Nat):Fr.set fr d v s=if s=d then v else fr s:=rfl
@[simp↓]theorem Fr.put_app(fr:Fr)(d:Nat)(v:A)(s:Nat):Fr.put fr (some d) v s=if s=d then v else fr s:=rfl
@[simp↓]theorem Fr.clr_app(fr:Fr)(m s:Nat):Fr.clr m fr s=(fr s).clr m:=rfl
@[simp]theorem Fr.init_nil(s:Nat):Fr.init [] s=.tup []:=rfl
@[simp]theorem Fr.init_zero(a:A)(l:List A):Fr.init (a::l) 0=a:=rfl
@[simp]theorem Fr.init_succ(a:A)(l:List A)(s:Nat):Fr.init (a::l) (s+1)=Fr.init l s:=rfl
@[simp↓]theorem ev_t(fr:Fr)(s:Nat):Arg.ev fr (.t s)=fr s:=rfl
@[simp↓]theorem ev_c(fr:Fr)(d:D):Arg.ev fr (.c d)=.d d:=rfl
theorem Vv{α:Type}(H l:List α):(H++l)[H.length]?=l[0]?:=by rw[Q2j (Q14 _),Q6d]
def Qs{α:Type}(H l:List α)(k:Nat):(H++l)[H.length+k]?=l[k]?:=by rw[Q2j (Q59 _ _),Q4a]
def Qpy{α:Type}(H l:List α)(x:α):(H++l).set H.length x=H++l.set 0 x:=by rw[Q3j _ _ (Q14 _),Q6d]
def Zd{α:Type}(H l:List α)(k:Nat)(x:α):(H++l).set (H.length+k) x=H++l.set k x:=by rw[Q3j _ _ (Q59 _ _),Q4a]
def Qb{H:Hp}(h:H.Closed):Hp.cut H.length H=H:=by rw[Hp.cut,Q3x,h _ (Q14 _)]
def Qd{H:Hp}(h:H.Closed)(l:Hp):Hp.cut H.length (H++l)=H:=by rw[Hp.cut,List.take_left',h _ (Q14 _)];rfl
def Qi{H:Hp}(h:H.Closed)(k:Nat)(l:Hp):Hp.cut (H.length+k) (H++l)=H++(l.take k).map (Ob.clr (H.length+k)):=by rw[Hp.cut,List.take_length_add_append,Q28,h _ (Q59 _ _)]
def Quv{α:Type}(f:α->List D)(pre r:List α)(e:α):Zam.rowAt ((pre++e::r).map f) pre.length=some (f e):=by simp[Zam.rowAt]
attribute [simp] tokA Qpc Qkl ldV iaddrV Qam Qaf mpOk Qcg Qgr zA Qj binA Qtv Qbg beqA isNilS isNilP unA A.cells cutL setL ldA stA Qde Qo3 W4 Y8 Qi8 lenA mmA A.toD Qmt Yf slOf A.clr A.clr1 A.clr0 A.flat A.flat0 resA Qns Ob.clr
attribute [simp] Vv Qs Qpy Zd Quv
def Qhh{n:Int}(h1: -9223372036854775808<=n)(h2:n<=9223372036854775807):IntKind.i64.wrap n=n:=by simp only[IntKind.wrap,IntKind.bits,IntKind.signed,Q69,ge_iff_le,decide_eq_true_eq];split<;>omega
def wi64{n:Int}(h: -9223372036854775808<=n/\n<=9223372036854775807):IntKind.i64.wrap n=n:=Qhh h.1 h.2
def wrap_u64{n:Int}(h1:0<=n)(h2:n<=18446744073709551615):IntKind.u64.wrap n=n:=by simp only[IntKind.wrap,IntKind.bits,IntKind.signed,Q62,Q2c,if_false];omega
end
section
def lays(P:Program):List Field->Nat->Nat->Bool
 |[],off,tot=>off==tot
 |f::r,off,tot=>f.offset==off&&lays P r (off+P.cellsOf f.type) tot
def plainT(P:Program)(ts:List TypeId):Bool:=ts.all λt=>
 match P.underlying t with
 |some .bool|some (.int _)|some .string=>true
 |some (.slice e)=>ts.contains e&&decide (0<P.cellsOf e)
 |some (.struct fs)=>fs.toList.all (λf=>ts.contains f.type)&&lays P fs.toList 0 (P.cellsOf t)
 |_=>false
def Qlb(T:TypeId->List D->Prop):List Field->List D->Prop
 |[],ds=>ds=[]
 |f::r,ds=>∃a b,ds=a++b/\T f.type a/\Qlb T r b
def Typed(P:Program):Nat->TypeId->List D->Prop
 |0,_,_=>False
 |n+1,t,ds=>
  match P.underlying t with
  |some .bool=>∃b,ds=[.bool b]
  |some (.int k)=>∃x,ds=[.int k x]/\(Lit.int k x).wf=true
  |some .string=>∃s,ds=[.str s]
  |some (.slice e)=>∃z rows,ds=[.sl z (P.cellsOf e) rows]/\∀r∈rows,Typed P n e r
  |some (.struct fs)=>Qlb (Typed P n) fs.toList ds
  |_=>False
mutual
def D.bulk:D->Nat
 |.str s=>s.length+1
 |.sl _ _ rows=>D.bulkR rows+1
 |_=>1
def D.bulkR:List (List D)->Nat
 |[]=>0
 |r::rs=>D.bulkC r+D.bulkR rs
def D.bulkC:List D->Nat
 |[]=>0
 |d::ds=>D.bulk d+D.bulkC ds
end
def D.bulkC_append(a b:List D):D.bulkC (a++b)=D.bulkC a+D.bulkC b:=by
 induction a with
 |nil=>simp[D.bulkC]
 |cons x r ih=>simp only[Q2m,D.bulkC,ih];omega
structure IsBulk{X:Type}(f:DataW X->Nat)(fs:List (DataW X)->Nat):Prop where
 str:∀b,b.length+1<=f (.lit (.string b))
 bool:∀b,1<=f (.lit (.bool b))
 int:∀k n,1<=f (.lit (.int k n))
 nil:1<=f .nil
 slice:∀e s,fs e+1<=f (.slice e s)
 agg:∀p,fs p<=f (.agg p)
 cons:∀d r,f d+fs r<=fs (d::r)
def wst(w:World):St:=λb o=>w.cell? ⟨b,o,none⟩
section
variable{X:Type}{enc:TypeId×Value->X}{P:Program}{w:World}{base:Nat}{spare:Nat->Bool}{held:Bool}
theorem Qkc{ts:List TypeId}{f:DataW X->Nat}{fs:List (DataW X)->Nat}(B:IsBulk f fs){n:Nat}(ih:∀(t:TypeId) (cs:List Value) (x:DataW X×List MemPlace),DataW.trod enc P w base spare held n t cs=some x->t∈ts->
 ∃ds:List D,ds.length=cs.length/\Typed P n t ds/\D.bulkC ds<=f x.1/\∀(i:Nat) (v:Value) (d:D),cs[i]?=some v->ds[i]?=some d->DR (wst w) v d)(cs:List Value):
 ∀(l:List Field)(off:Nat)(xs:List (DataW X×List MemPlace)),lays P l off cs.length=true->(∀g∈l,g.type∈ts)->xs.length=l.length->
  (∀(i:Nat)(g:Field),l[i]?=some g->DataW.trod enc P w base spare held n g.type ((cs.drop g.offset).take (P.cellsOf g.type))=xs[i]?)->off<=cs.length->
  ∃ds:List D,ds.length+off=cs.length/\Qlb (Typed P n) l ds/\D.bulkC ds<=fs (xs.map (·.1))/\∀(i:Nat)(v:Value)(d:D),cs[off+i]?=some v->ds[i]?=some d->DR (wst w) v d
 |[],off,xs,hl,_,hx,_,_=>by
  simp only[lays,beq_iff_eq]at hl;refine⟨[],by simp[hl],rfl,by simp[D.bulkC],by simp⟩
 |g::r,off,xs,hl,hm,hx,hr,hoff=>by
  simp only[lays,Q2t,beq_iff_eq]at hl;obtain⟨h1,h2⟩:=hl;cases xs with
  |nil=>simp at hx
  |cons x xs=>
  have h0:=hr 0 g rfl;simp only[Q45]at h0;obtain⟨a,ha1,ha2,ha3,ha4⟩:=ih _ _ _ h0 (hm g (by simp));have hle:off+P.cellsOf g.type<=cs.length:=by
   have:∀(l:List Field)(o tot:Nat),lays P l o tot=true->o<=tot:=by
    intro l;induction l with
    |nil=>intro o tot h;simp[lays]at h;omega
    |cons y l ih=>intro o tot h;simp[lays]at h;have:=ih _ _ h.2;omega
   exact this _ _ _ h2
  have hal:a.length=P.cellsOf g.type:=by rw[ha1,h1];simp;omega
  obtain⟨b,hb1,hb2,hb3,hb4⟩:=Qkc B ih cs r (off+P.cellsOf g.type) xs h2 (λg' hg=>hm g' (by simp[hg])) (by simpa using hx) (λi g' hi=>by have:=hr (i+1) g' (by simpa using hi);simpa using this) hle;refine⟨a++b,by simp;omega,⟨a,b,rfl,ha2,hb2⟩,?_,λi v d hv hd=>?_⟩
  ·rw[D.bulkC_append];have:=B.cons x.1 (xs.map (·.1));simp only[Q2w];omega
  ·by_cases hi:i<a.length
   ·rw[Q19 hi]at hd;refine ha4 i v d ?_ hd;rw[h1,Q4c,Q4d,if_pos (by omega)];exact hv
   ·rw[Q2j (by omega)]at hd;refine hb4 (i-a.length) v d ?_ hd;rw[show off+P.cellsOf g.type+(i-a.length)=off+i by omega];exact hv
theorem Qnq{f:DataW X->Nat}{fs:List (DataW X)->Nat}(B:IsBulk f fs):∀(rows:List (List D))(l:List (DataW X)),rows.length=l.length->(∀(i:Nat)(r:List D)(d:DataW X),rows[i]?=some r->l[i]?=some d->D.bulkC r<=f d)->D.bulkR rows<=fs l
 |[],l,_,_=>by simp[D.bulkR]
 |r::rows,[],h,_=>by simp at h
 |r::rows,d::l,h,hi=>by have h1:=hi 0 r d rfl rfl;have h2:=Qnq B rows l (by simpa using h) (λi r' d' hr hd=>hi (i+1) r' d' (by simpa using hr) (by simpa using hd));have h3:=B.cons d l;simp only[D.bulkR];omega
theorem Qi5{ts:List TypeId}(hp:plainT P ts=true){f:DataW X->Nat}{fs:List (DataW X)->Nat}(B:IsBulk f fs):∀(n:Nat)(t:TypeId)(cs:List Value)(x:DataW X×List MemPlace),
 DataW.trod enc P w base spare held n t cs=some x->t∈ts->
  ∃ds:List D,ds.length=cs.length/\Typed P n t ds/\D.bulkC ds<=f x.1/\∀(i:Nat)(v:Value)(d:D),cs[i]?=some v->ds[i]?=some d->DR (wst w) v d
 |0,t,cs,x,h,_=>by simp[DataW.trod]at h
 |n+1,t,cs,x,h,ht=>by
  have hpt:=Q2n.1 hp t ht;have one:∀(v:Value)(d:D),DR (wst w) v d->∀(i:Nat)(v':Value)(d':D),[v][i]?=some v'->[d][i]?=some d'->DR (wst w) v' d':=λv d hd i v' d' h1 h2=>by
   cases i with
   |zero=>simp at h1 h2;subst h1;subst h2;exact hd
   |succ i=>simp at h1
  split at hpt
  ·rename_i hu;obtain⟨b,rfl,rfl⟩:=DataW.trod_bool hu h;exact⟨[.bool b],rfl,by simp[Typed,hu],by have:=B.bool b;simpa[D.bulkC,D.bulk]using this,one _ _ (.bool b)⟩
  ·rename_i k hu;obtain⟨m,rfl,rfl,hw⟩:=DataW.trod_int hu h;exact⟨[.int k m],rfl,by simp[Typed,hu,hw],by have:=B.int k m;simpa[D.bulkC,D.bulk]using this,one _ _ (.int k m)⟩
  ·rename_i hu;obtain⟨s,rfl,rfl,hw⟩:=DataW.trod_string hu h;exact⟨[.str s.data.toList],rfl,by simp[Typed,hu],by have:=B.str s.data.toList;simpa[D.bulkC,D.bulk]using this,one _ _ (.str s)⟩
  ·rename_i e hu;simp only[Q2t,Q7f,decide_eq_true_eq]at hpt;obtain⟨he,hpos⟩:=hpt;rcases DataW.trod_slice hu h with⟨rfl,rfl⟩|⟨a,len,cap,elems,rest,n',hn,rfl,rfl,hb,hlc,hcm,hel,hread,-,-⟩
   ·exact⟨[.sl true (P.cellsOf e) []],rfl,by simp[Typed,hu],by have:=B.nil;simpa[D.bulkC,D.bulk,D.bulkR]using this,one _ _ (.nilsl _)⟩
   ·cases hn
    have each:∀i,i<len->∃(r:List D)(cs':List Value)(y:DataW X×List MemPlace),elems[i]?=some y/\w.cells? base (a.add (i*P.cellsOf e)) (P.cellsOf e)=some cs'/\r.length=cs'.length/\Typed P n e r/\D.bulkC r<=f y.1/\
     ∀(j:Nat)(v:Value)(d:D),cs'[j]?=some v->r[j]?=some d->DR (wst w) v d:=λi hi=>by
     have h1:=hread i hi;have h2:elems[i]?=some (elems[i]'(by omega)):=Q12 (by omega);rw[h2]at h1;obtain⟨cs',h3,h4⟩:=Q2a.1 h1;obtain⟨r,r1,r2,r3,r4⟩:=Qi5 hp B n e cs' _ h4 he;exact⟨r,cs',_,h2,h3,r1,r2,r3,r4⟩
    have each':∀i:Nat,∃(r:List D),i<len->∃(cs':List Value)(y:DataW X×List MemPlace),elems[i]?=some y/\w.cells? base (a.add (i*P.cellsOf e)) (P.cellsOf e)=some cs'/\r.length=cs'.length/\Typed P n e r/\D.bulkC r<=f y.1/\
     ∀(j:Nat)(v:Value)(d:D),cs'[j]?=some v->r[j]?=some d->DR (wst w) v d:=λi=>by
     by_cases hi:i<len
     ·obtain⟨r,h⟩:=each i hi;exact⟨r,λ_=>h⟩
     ·exact⟨[],λh=>absurd h hi⟩
    obtain⟨R,hR⟩:=Classical.axiomOfChoice each';have hrows:∀(i:Nat)(r:List D),((List.range len).map R)[i]?=some r->i<len/\r=R i:=λi r hr=>by
     simp only[Q2d,Q13]at hr;obtain⟨k,hk,rfl⟩:=hr;obtain⟨hk1,hk2⟩:=Q11.1 hk;simp at hk1 hk2;subst hk2;exact⟨hk1,rfl⟩
    refine⟨[.sl (decide (len≠0)) (P.cellsOf e) ((List.range len).map R)],rfl,?_,?_,?_⟩
    ·simp only[Typed,hu];refine⟨_,_,rfl,λr hr=>?_⟩;obtain⟨i,hi,rfl⟩:=Q3c.1 hr;obtain⟨cs',y,-,-,-,h5,-⟩:=hR i (by simpa using hi);exact h5
    ·have h1:=Qnq B ((List.range len).map R) (elems.map (·.1)) (by simp[hel]) (λi r d hr hd=>by
      obtain⟨hi,rfl⟩:=hrows i r hr;obtain⟨cs',y,h3,-,-,-,h6,-⟩:=hR i hi;simp only[Q2d,h3,Q3q,somI]at hd;subst hd;exact h6)
     have h2:=B.slice (elems.map (·.1)) (rest.map (·.1));simp only[D.bulkC,D.bulk];omega
    ·refine one _ _ ?_;cases len with
     |zero=>exact .emp _ _ _
     |succ m=>
      have hcell:∀(i j:Nat)(r:List D)(d:D),((List.range (m+1)).map R)[i]?=some r->r[j]?=some d->r.length=P.cellsOf e/\∃v,w.cell? ((a.add (i*P.cellsOf e)).add j)=some v/\DR (wst w) v d:=λi j r d hr hd=>by
       obtain⟨hi,rfl⟩:=hrows i r hr;obtain⟨cs',y,-,h3,h4,-,-,h7⟩:=hR i hi;obtain⟨-,O,hat⟩:=Q6q h3;have hj:j<(R i).length:=(Q11.1 hd).1;have hv:cs'[j]?=some (cs'[j]'(by omega)):=Q12 (by omega);exact⟨by omega,_,(hat j (by omega)).trans hv,h7 j _ d hv hd⟩
      obtain⟨b,o,s⟩:=a;have hs:s=none:=by
       obtain⟨cs',y,-,h3,h4,-⟩:=hR 0 (by omega);obtain⟨-,O,hat⟩:=Q6q h3;have hv:cs'[0]?=some (cs'[0]'(by omega)):=Q12 (by omega);have:=(hat 0 hpos).trans hv;rw[show((⟨b,o,s⟩:Addr).add (0*P.cellsOf e)).add 0=⟨b,o,s⟩ by simp[Addr.add]]at this;unfold World.cell? at this;split at this
       ·split at this
        ·cases this
        ·rename_i hns;cases s with
         |none=>rfl
         |some q=>exact absurd rfl hns
       ·cases this
      subst hs;have hval:∀(i j:Nat),∃v:Value,∀(r:List D)(d:D),((List.range (m+1)).map R)[i]?=some r->r[j]?=some d->wst w b (o+i*P.cellsOf e+j)=some v/\DR (wst w) v d:=λi j=>by
       by_cases hx:∃(r:List D)(d:D),((List.range (m+1)).map R)[i]?=some r/\r[j]?=some d
       ·obtain⟨r,d,hr,hd⟩:=hx;obtain⟨-,v,hv1,hv2⟩:=hcell i j r d hr hd;refine⟨v,λr' d' hr' hd'=>?_⟩;rw[hr]at hr';cases hr';rw[hd]at hd';cases hd';rw[Zt,Zt]at hv1;exact⟨hv1,hv2⟩
       ·exact⟨.tuple #[],λr d hr hd=>absurd ⟨r,d,hr,hd⟩ hx⟩
      obtain⟨F,hF⟩:=Classical.axiomOfChoice λi=>Classical.axiomOfChoice (hval i);have:=DR.sl (σ:=wst w) (decide (m+1≠0)) (P.cellsOf e) ((List.range (m+1)).map R) b o cap F (λ_ hh=>by simp at hh) (by simpa using hlc) (λi r hr=>by
       obtain⟨hi,rfl⟩:=hrows i r hr;obtain⟨cs',y,-,h3,h4,-⟩:=hR i hi;obtain⟨-,O,-⟩:=Q6q h3;omega) (λi j r d hr hd=>(hF i j r d hr hd).1) (λi j r d hr hd=>(hF i j r d hr hd).2)
      simpa using this
  ·rename_i gs hu;simp only[Q2t,Q2n,Q7f]at hpt;obtain⟨hm,hl⟩:=hpt;obtain⟨xs,n',hn,rfl,O,hxl,hr⟩:=DataW.trod_struct hu h;cases hn
   rw[<-O]at hl;obtain⟨ds,d1,d2,d3,d4⟩:=Qkc B (λt cs x h ht=>Qi5 hp B n t cs x h ht) cs gs.toList 0 xs hl (λg hg=>hm g hg) (by simpa using hxl) (λi g hi=>hr i g (by simpa using hi)) (Q49 _);refine⟨ds,by omega,by simp only[Typed,hu];exact d2,Q3d d3 (B.agg _),λi v d hv hd=>d4 i v d (by simpa using hv) hd⟩
  ·cases hpt
end
end
section
open Go.RowKit Go.ChangeShapes Go.WideShapes
section
variable{X:Type}{enc:TypeId×Value->X}{P:Program}{W W':World}
def stays{sp:Nat->Bool}(hl:laidOutB P=true)(hb:Below W.heap.size W W'):∀{ts:List TypeId} {vs:List Value} {ds:List (DataW X)} {ps:List MemPlace},
 (∀t∈ts,P.readableRec t=true/\t<P.types.size)->DataW.TrodAll enc P W 0 (λ_=>true) true ts vs ds ps->(∀x∈ps,x.block<W.heap.size)->(∀x∈ps,sp x.block=true)->
 DataW.TrodAll enc P W' 0 sp true ts vs ds ps
 |[],[],[],_,_,h,_,_=>h
 |_::_,_::_,_::_,_,ht,⟨p,q,h1,h2,e⟩,hlt,hs=>
  ⟨p,q,WideElems.Trod_stays hl (ht _ (by simp)).1 (ht _ (by simp)).2 h1 (λx hx=>hb.same (hlt x (by rw[e];exact List.mem_append_left _ hx))) (λx hx=>hs x (by rw[e];exact List.mem_append_left _ hx)),
   stays hl hb (λt h=>ht t (by simp[h])) h2 (λx hx=>hlt x (by rw[e];exact Q7d _ hx)) (λx hx=>hs x (by rw[e];exact Q7d _ hx)),e⟩
def Qw1{f:Func}{s:ChangeSpec}{apart fresh handsOn again:Bool}{args:Array Value}{ds gs:List (DataW X)}{before:List MemPlace}{bt:TypeId}(hl:laidOutB P=true)(hW:DataW.Whole enc P f.params.toList s.vars apart W args.toList ds gs before)(hv:s.vars=[])(hr:f.resultTypes=#[bt])(hbt:P.underlying bt=some .bool)(hp:∀t∈f.params.toList,P.readableRec t=true/\t<P.types.size)(h1:(s.fn X ds).results=[.lit (.bool true)])(h2:(s.fn X ds).args=ds)(h3:(s.fn X ds).vars=[])(hb:Below W.heap.size W W'):
 s.post enc P f apart fresh handsOn again W args (.bool true) W':=by
 have hW0:=hW;obtain⟨p,q,hA,hV,rfl,hz,hn⟩:=hW;rw[hv]at hV;obtain⟨rfl,rfl⟩:gs=[]/\q=[]:=by
  cases gs with
  |nil=>exact⟨rfl,hV⟩
  |cons g gs=>exact hV.elim
 have hlt:∀x∈p,x.block<W.heap.size:=λx hx=>hW0.lt x (by simpa using hx);have hargs:∀sp:Nat->Bool,(∀x∈p,sp x.block=true)->DataW.TrodAll enc P W' 0 sp true f.params.toList args.toList (s.fn X (ds++[])).args p:=λsp hs=>by rw[Q2k,h2];exact stays hl hb hp hA hlt hs
 have hres:∀(b:Nat)(sp:Nat->Bool)(hd:Bool),DataW.TrodAll enc P W' b sp hd f.resultTypes.toList ((Value.bool true).resultList f.resultTypes.size) (s.fn X (ds++[])).results []:=λb sp hd=>by rw[Q2k,h1,hr];exact trodAll_cons_mk (shut_bool hbt true) trodAll_mk0
 have hvars:∀sp:Nat->Bool,DataW.TrodVars enc P W' sp s.vars (s.fn X (ds++[])).vars []:=λsp=>by rw[Q2k,h3,hv];rfl
 refine⟨ds,[],p++[],[],p,[],hW0,hres _ _ _,hargs _ (λx hx=>by simpa using hlt x hx),hvars _,World.keptBut_mono (λx hx=>⟨hx,.inr (Q2r.1 hx)⟩) (hb.frame (.∈p++[])),λ_=>?_⟩;refine⟨ok_one (t:=bt) hr rfl (okWide_bool_mk hbt true),_,_,([]++p)++[],⟨[]++p,[],trodAll_append (hargs _ (λ_ _=>rfl)) (hres _ _ _),hvars _,rfl,?_,?_⟩,?_⟩
 .intro b off hx;have:MemPlace.cell b off∈p:=by simpa using hx
  rw[hb.frozen (hlt _ this)];exact hz b off (by simpa using this)
 .intro ha;have:=hn ha;simpa using this
 .intro x hx _;simpa using hx
def Qd4(P:Program)(t:TypeId)(ds:List D)(a:A):Prop:=
 match P.underlying t with
 |some (.struct _)=>a=.agg (ds.map .d)
 |_=>∃x,ds=[x]/\a=.d x
def kst(W:World):K:=⟨W,wst W,λ_=>.none⟩
def Qx2{ts:List TypeId}(hp:plainT P ts=true){f:DataW X->Nat}{fs:List (DataW X)->Nat}(B:IsBulk f fs){t:TypeId}(ht:t∈ts){b0 base:Nat}{sp:Nat->Bool}{held:Bool}{v:Value}{d:DataW X}{p:List MemPlace}(hv:Value.okWide P W .any b0 t v)(h:DataW.Trod enc P W base sp held t v d p):∃n ds a,Typed P n t ds/\D.bulkC ds<=f d/\Qd4 P t ds a/\VR (kst W) v a:=by
 obtain⟨n,h⟩:=h;obtain⟨ds,h1,h2,h3,h4⟩:=Qi5 hp B n t _ _ h ht;have hpt:=Q2n.1 hp t ht;have one:v.cells=#[v]->(∀fs,P.underlying t≠some (.struct fs))->∃n ds a,Typed P n t ds/\D.bulkC ds<=f d/\Qd4 P t ds a/\VR (kst W) v a:=λhc hs=>by
  rw[hc]at h1 h4;match ds,h1 with
  |[x],_=>
   refine⟨n,[x],.d x,h2,h3,?_,.d (h4 0 v x rfl rfl)⟩;unfold Qd4;split
   .rename_i fs e;exact absurd e (hs fs)
   .exact⟨x,rfl,rfl⟩
 split at hpt
 .rename_i hu;simp only[Value.okWide,hu,Cell.okWide,Cell.ok]at hv;refine one ?_ (by simp[hu]);cases v<;>first|rfl|exact hv.elim
 .rename_i k hu;simp only[Value.okWide,hu,Cell.okWide,Cell.ok]at hv;refine one ?_ (by simp[hu]);cases v<;>first|rfl|exact hv.elim
 .rename_i hu;simp only[Value.okWide,hu,Cell.okWide,Cell.ok]at hv;refine one ?_ (by simp[hu]);cases v<;>first|rfl|exact hv.elim
 .rename_i e hu;simp only[Value.okWide,hu,Cell.okWide,Cell.ok]at hv;refine one ?_ (by simp[hu]);cases v<;>first|rfl|exact hv.elim
 .rename_i gs hu;simp only[Value.okWide,hu]at hv;obtain⟨cs,rfl,-,-⟩:=hv;refine⟨n,ds,.agg (ds.map .d),h2,h3,by simp[Qd4,hu],?_⟩;have h1':ds.length=cs.toList.length:=h1;have:=VR.agg (κ:=kst W) cs.toList (ds.map A.d) (by simp[h1']) (λi v a hi ha=>by simp only[Q2d,Q13]at ha;obtain⟨x,hx,rfl⟩:=ha;exact .d (h4 i v x hi hx))
  simpa using this
 .cases hpt
def Qte(P:Program):List TypeId->List A->Nat->Prop
 |[],ars,_=>ars=[]
 |t::ts,ars,b=>∃n ds a r b',ars=a::r/\Typed P n t ds/\Qd4 P t ds a/\Qte P ts r b'/\D.bulkC ds+b'<=b
def Qn9{ts:List TypeId}(hp:plainT P ts=true){f:DataW X->Nat}{fs:List (DataW X)->Nat}(B:IsBulk f fs){b0 base:Nat}{sp:Nat->Bool}{held:Bool}:∀{us:List TypeId} {vs:List Value} {ds:List (DataW X)} {ps:List MemPlace},
 (∀t∈us,t∈ts)->(∀(j:Nat)(t:TypeId)(v:Value),us[j]?=some t->vs[j]?=some v->Value.okWide P W .any b0 t v)->DataW.TrodAll enc P W base sp held us vs ds ps->
 ∃ars,Qte P us ars (fs ds)/\vs.length=ars.length/\∀(i:Nat)(v:Value)(a:A),vs[i]?=some v->ars[i]?=some a->VR (kst W) v a
 |[],[],[],_,_,_,_=>⟨[],rfl,rfl,by simp⟩
 |t::us,v::vs,d::ds,_,hu,hv,⟨p,q,h1,h2,_⟩=>by
  obtain⟨n,cs,a,a1,a2,a3,a4⟩:=Qx2 hp B (hu t (by simp)) (hv 0 t v rfl rfl) h1;obtain⟨ars,b1,b2,b3⟩:=Qn9 hp B (λt ht=>hu t (by simp[ht])) (λj t v ht hv'=>hv (j+1) t v (by simpa using ht) (by simpa using hv')) h2;refine⟨a::ars,⟨n,cs,a,ars,fs ds,rfl,a1,a3,b1,?_⟩,by simp[b2],λi u x hx hy=>?_⟩
  .have:=B.cons d ds;omega
  .cases i with
   |zero=>simp at hx hy;subst hx;subst hy;exact a4
   |succ i=>exact b3 i u x (by simpa using hx) (by simpa using hy)
end
end
def Qf4{P:Program}{n:Nat}{t:TypeId}{ds:List D}(hu:P.underlying t=some .string)(h:Typed P n t ds):∃s,ds=[.str s]:=by
 cases n with
 |zero=>exact h.elim
 |succ n=>simpa only[Typed,hu]using h
def Qyv{P:Program}{t:TypeId}{α:Type}{enc:α->List D}(hE:∀n ds,Typed P n t ds->∃a,ds=enc a){n:Nat}{rows:List (List D)}(h:∀r∈rows,Typed P n t r):∃l:List α,rows=l.map enc:=by
 induction rows with
 |nil=>exact⟨[],rfl⟩
 |cons r rows ih=>obtain⟨l,rfl⟩:=ih λr hr=>h r (by simp[hr]);obtain⟨a,rfl⟩:=hE n r (h r (by simp));exact⟨a::l,rfl⟩
def Qv5{P:Program}{t e:TypeId}{α:Type}{enc:α->List D}(hu:P.underlying t=some (.slice e)){sz:Nat}(hs:P.cellsOf e=sz)(hE:∀n ds,Typed P n e ds->∃a,ds=enc a){n:Nat}{ds:List D}(h:Typed P n t ds):∃z,∃l:List α,ds=[.sl z sz (l.map enc)]:=by
 cases n with
 |zero=>exact h.elim
 |succ n=>simp only[Typed,hu]at h;obtain⟨z,rows,rfl,hr⟩:=h;obtain⟨l,rfl⟩:=Qyv hE hr;exact⟨z,l,by rw[hs]⟩
def Qhk{P:Program}{t:TypeId}{fs:Array Field}{n:Nat}{ds:List D}(hu:P.underlying t=some (.struct fs))(h:Typed P n t ds):∃n',Qlb (Typed P n') fs.toList ds:=by
 cases n with
 |zero=>exact h.elim
 |succ n=>exact⟨n,by simpa only[Typed,hu]using h⟩
def Qoa{P:Program}{t:TypeId}{x:D}{a:A}(hu:∀fs,P.underlying t≠some (.struct fs))(h:Qd4 P t [x] a):a=.d x:=by
 unfold Qd4 at h;split at h
 .rename_i fs e;exact absurd e (hu fs)
 .obtain⟨y,hy,rfl⟩:=h;simp at hy;rw[hy]
def Qvt{rows:List (List D)}{r:List D}(h:r∈rows):D.bulkC r<=D.bulkR rows:=by
 induction rows with
 |nil=>simp at h
 |cons x rows ih=>
  simp only[D.bulkR];rcases Q2v.1 h with rfl|h
  .omega
  .have:=ih h;omega
def Qn8{α:Type}{enc:α->List D}(he:∀a,1<=D.bulkC (enc a)):∀l:List α,l.length<=D.bulkR (l.map enc)
 |[]=>by simp
 |a::l=>by have:=Qn8 he l;have:=he a;simp only[Q2i,Q2w,D.bulkR];omega
def Qul{P:Program}{n:Nat}{t:TypeId}{ds:List D}(hu:P.underlying t=some (.int .i64))(h:Typed P n t ds):∃x,ds=[.int .i64 x]/\ -9223372036854775808<=x/\x<=9223372036854775807:=by
 cases n with
 |zero=>exact h.elim
 |succ n=>simp only[Typed,hu]at h;obtain⟨x,hx,hw⟩:=h;refine⟨x,hx,?_⟩;simp only[Lit.wf,IntKind.min,IntKind.max,IntKind.bits,IntKind.signed]at hw;simp at hw;omega
section
open Go.RowKit Go.ChangeShapes Go.WideShapes
def Qpm(W:World)(H0:Hp):Prop:=∀(i:Nat)(x:Ob),H0[i]?=some x->∃g cs ty fr,x=.glob g cs/\W.heap[g]?=some (.cells cs.toArray ty fr)
def Qy7{W:World}{H0:Hp}(h:Qpm W H0):HR (kst W) H0 W:=
 ⟨Below.refl _ _,λ_ _ _ h=>h,λi x hx=>by
  obtain⟨g,cs,ty,fr,rfl,hg⟩:=h i x hx;exact⟨ty,fr,hg⟩,λ_ _=>rfl,by simp[kst,Bind.block],by simp[kst,Bind.owns],by simp[kst,Bind.block],λi x hx=>by
  obtain⟨g,cs,ty,fr,rfl,hg⟩:=h i x hx;rfl⟩
section
variable{X:Type}{enc:TypeId×Value->X}{P:Program}{W:World}
def lawD_of{f:FuncId}{fn:Func}{s:ChangeSpec}{apart fresh handsOn again:Bool}{args:Array Value}{ds gs:List (DataW X)}{before:List MemPlace}{bt:TypeId}{base:Nat}{ts:List TypeId}{H0:Hp}(hl:laidOutB P=true)(hpl:plainT P ts=true){g:DataW X->Nat}{gl:List (DataW X)->Nat}(B:IsBulk g gl)(hval:∀(j:Nat) (t:TypeId) (v:Value),fn.params[j]?=some t->args[j]?=some v->Value.okWide P W .any base t v)(hW:DataW.Whole enc P fn.params.toList s.vars apart W args.toList ds gs before)(hv:s.vars=[])(hr:fn.resultTypes=#[bt])(hbt:P.underlying bt=some .bool)(hp:∀t∈fn.params.toList,t∈ts/\P.readableRec t=true/\t<P.types.size)(h1:(s.fn X ds).results=[.lit (.bool true)])(h2:(s.fn X ds).args=ds)(h3:(s.fn X ds).vars=[])(h0:Qpm W H0)(h:∀ars,Qte P fn.params.toList ars (gl ds)->Qc P f ars H0 (λr _=>r=.d (.bool true))):
 Calls P f args W λe W'=>∃v,e=.returned v/\s.post enc P fn apart fresh handsOn again W args v W':=by
 have hW0:=hW;obtain⟨p,q,hA,-⟩:=hW;obtain⟨xs,a1,a2,a3⟩:=Qn9 hpl B (λt ht=>(hp t ht).1) (λj t v ht hv'=>hval j t v (by simpa using ht) (by simpa using hv')) hA;refine(h xs a1 (kst W) W args.toList (Qy7 h0) a2 a3).mono λe W' ⟨v,κ',x,H',he,hk,hh,hvr,hx⟩=>?_;subst hx;have hvt:v=.bool true:=by cases hvr with|d h=>cases h;rfl
 subst hvt;refine⟨_,he,Qw1 hl hW0 hv hr hbt (λt ht=>(hp t ht).2) h1 h2 h3 ?_⟩;have:=hh.below;rw[hk.w0]at this;exact this
end
end
section
open Go.RowKit Go.Proofs Go.Shelf
def HR.freeze{κ:K}{H:Hp}{w:World}(h:HR κ H w){t b e c n m sz:Nat}{ty:TypeId}(ht:H[t]?=some (.tok n sz ty))(hb:κ.β t=.reg b e c m sz)(hm:m<=e)(hmn:m=n)(hs1:sz=1):HR κ H (w.freeze ⟨b,0,none⟩ m):=by
 subst hmn;by_cases h0:m=0
 .subst h0;simp only[World.freeze,if_true];exact h
 have hne:∀k,k≠b->(w.freeze ⟨b,0,none⟩ m).heap[k]?=w.heap[k]?:=λk hk=>by simp only[World.freeze,h0,if_false,Q3w];rw[if_neg (Ne.symm hk)]
 have hcell:∀a:Addr,(w.freeze ⟨b,0,none⟩ m).cell? a=w.cell? a:=λa=>by
  by_cases ha:a.block=b
  .simp only[World.cell?,World.freeze,h0,if_false,Q3w,ha,if_true];cases w.heap[b]? with
   |none=>rfl
   |some o=>cases o<;>rfl
  .simp only[World.cell?,hne _ ha]
 have hsz:(w.freeze ⟨b,0,none⟩ m).heap.size=w.heap.size:=by simp[World.freeze,h0]
 have hex:=h.ex t b (by rw[hb];rfl);refine⟨?_,λb' o v hv=>(hcell _).trans (h.st b' o v hv),λi x hx=>?_,h.dom,λi b' hi=>?_,h.exσ,h.exd,h.fl⟩
 .refine h.below.trans ⟨by simp[World.freeze,h0],by simp[World.freeze,h0],by simp[World.freeze,h0],by rw[hsz];exact Q14 _,λk hk=>hne k (by omega)⟩
 .by_cases hit:i=t
  .subst hit;rw[ht]at hx;cases hx;rcases h.ob i _ ht with⟨h1,-⟩|⟨b',e',c',cur,lo,hi,h1,h2,h3,h4⟩
   .rw[hb]at h1;cases h1
   .rw[hb]at h1;cases h1;refine .inr ⟨b,e,c,cur,(if lo==hi then(0,0+m)else(min lo 0,max hi (0+m))).1,(if lo==hi then(0,0+m)else(min lo 0,max hi (0+m))).2,hb,?_,h3,?_⟩
    .simp only[World.freeze,h0,if_false,Q3w,if_true,h2,Q3q]
    .right
     refine⟨hs1,?_⟩;by_cases hlh:lo=hi
     .simp[hlh];exact hm
     .have:(lo==hi)=false:=by simpa using hlh
      simp only[this,Q2c,if_false];rcases h4 with⟨h4,h5⟩|⟨-,h4⟩
      .exact absurd (h4.trans h5.symm) hlh
      .omega
  .refine(h.ob i x hx).mono (K.le_refl κ) rfl λb' hb'=>hne b' λe=>?_;subst e;exact hit (h.exd i t b' hb' (by rw[hb];rfl))
 .rw[hsz];exact h.ex i b' hi
section
variable{P:Program}{ρ:Ren}
def Qkp(L:Lays.n240 P ρ)(X:Builder.X72 P ρ){H:Hp}{i:Nat}{x a:A}(hi:H[i]?=some (.box (ρ.t 72) [a,x]))(ha:a=.d .nilp\/a=.ptr i 0):
 Qc P (ρ.f 240) [.ptr i 0] H (λr H'=>r=.tup []/\H'=H.set i (.box (ρ.t 72) [.ptr i 0,x])):=by
 intro κ w vs hr hl hv;match vs,hl with
 |[v],_=>
 have hv0:=hv 0 v _ rfl rfl;cases hv0 with
 |ptr _ _ b hb=>
 obtain⟨b',hb',hsh,hc⟩:=hr.ob i _ hi;have hbb:b'=b:=by rw[hb]at hb';cases hb';rfl
 subst hbb;obtain⟨u,hu1,hu2,hu3⟩:=hc 0 a rfl;rcases ha with rfl|rfl
 .have hu:u=.pointer none:=by cases hu3 with|d h=>cases h;rfl
  subst hu;refine(Any.Builder_copyCheck_fresh L X b' w hu1 hsh hu2).mono λe w' ⟨he,hw⟩=>?_;subst hw;exact⟨_,κ,.tup [],_,he,K.le_refl κ,hr.setBox (j:=0) hi hb (by simp) rfl (.ptr i 0 b' hb),.tup [] [] rfl (by simp),rfl,rfl⟩
 .have hu:u=.pointer (some ⟨b',0,none⟩):=by cases hu3 with|ptr _ _ b2 h2=>rw[hb]at h2;cases h2;rfl
  subst hu;refine(Any.Builder_copyCheck_used L X b' w hu1).mono λe w' ⟨he,hw⟩=>?_;subst hw;refine⟨_,κ,.tup [],H,he,K.le_refl κ,hr,.tup [] [] rfl (by simp),rfl,?_⟩;refine Q3e λj=>?_;by_cases hj:i=j
  .subst hj;rw[Q17 (Q11.1 hi).1,hi]
  .rw[Q15 hj]
set_option maxHeartbeats 1000000 in
set_option maxRecDepth 100000 in
theorem Qhf(L:Lays.n169 P ρ)(X:Builder.Extra P ρ)(b g cap cells:Nat)(l:List UInt8)(w:World)(h0:l≠[])(c0:w.cell? ⟨b,1,none⟩=some (.slice (some ⟨g,0,none⟩) l.length cap))(hcap:l.length<=cap)(hcells:l.length<=cells)(hsh:w.shape? g=some (ρ.t 5,cells))(h63:l.length<=9223372036854775807)(hb:∀j x,l[j]?=some x->w.cell? ⟨g,j,none⟩=some (.int .u8 x.toNat)):
 Calls P (ρ.f 169) #[.pointer (some ⟨b,0,none⟩)] w λe w'=>e=.returned (.string ⟨l.toArray⟩)/\w'=w.drew.freeze ⟨g,0,none⟩ l.length:=by
 have hl0:l.length≠0:=by simpa using h0
 have c1:w.drew.cell? ⟨b,1,none⟩=some (.slice (some ⟨g,0,none⟩) l.length cap):=c0;have hSD:(Builtin.unsafeSliceData_ #[(ρ.t 37)] (ρ.t 127) #[.slice (some ⟨g,0,none⟩) l.length cap]).run P w.drew=.ok (.pointer (some ⟨g,0,none⟩)) w.drew:=Lib.run_unsafeSliceData_row _ _ _ _ _ _ (by omega);have hUS:(Builtin.unsafeString_ #[(ρ.t 127),(ρ.t 3)] (ρ.t 9) #[.pointer (some ⟨g,0,none⟩),.int .i64 l.length]).run P w.drew=.ok (.string ⟨l.toArray⟩) (w.drew.freeze ⟨g,0,none⟩ l.length):=by refine Lib.run_unsafeString_row w.drew (ρ.t 127) (ρ.t 3) (ρ.t 9) (ρ.t 5) L.t127 X.cellsByte g cells hsh l h0 hcells h63 ?_;intro j x hx;have:=hb j x hx;rw[Zt,Q3i];exact this
 have mixed:=L.mixed;have t72:=L.t72;have a72:=L.a72;have z72:=L.z72;have v72:=L.v72;have u72:=run_underlying L.t72;have t70:=L.t70;have a70:=L.a70;have z70:=L.z70;have v70:=L.v70;have u70:=run_underlying L.t70;have t37:=L.t37;have a37:=L.a37;have z37:=L.z37;have v37:=L.v37;have u37:=run_underlying L.t37;have t127:=L.t127;have a127:=L.a127;have z127:=L.z127;have v127:=L.v127;have u127:=run_underlying L.t127;have t3:=L.t3;have a3:=L.a3;have z3:=L.z3;have v3:=L.v3;have u3:=run_underlying L.t3;have t9:=L.t9;have a9:=L.a9;have z9:=L.z9;have v9:=L.v9;have u9:=run_underlying L.t9;have t5:=X.t5;have a5:=X.a5;have z5:=X.z5;have v5:=X.v5;have u5:=run_underlying X.t5;go_enter L.f169,Body.n169_ntmps ρ;go_wp2;go_region_o;all_goals (go_wp2;go_ret;exact⟨rfl,rfl⟩)
set_option maxHeartbeats 1000000 in
set_option maxRecDepth 100000 in
theorem Qgp(L:Lays.n169 P ρ)(X:Builder.Extra P ρ)(b:Nat)(w:World)(c0:w.cell? ⟨b,1,none⟩=some (.slice none 0 0)):
 Calls P (ρ.f 169) #[.pointer (some ⟨b,0,none⟩)] w λe w'=>e=.returned (.string ⟨#[]⟩)/\w'=w.drew:=by
 have hUS:=Any.unsafeString_none L X;have c1:w.drew.cell? ⟨b,1,none⟩=some (.slice none 0 0):=c0;have hSD:(Builtin.unsafeSliceData_ #[(ρ.t 37)] (ρ.t 127) #[.slice none 0 0]).run P w.drew=.ok (.pointer none) w.drew:=Lib.run_unsafeSliceData_nil _ _ _ _ _;have mixed:=L.mixed;have t72:=L.t72;have a72:=L.a72;have z72:=L.z72;have v72:=L.v72;have u72:=run_underlying L.t72;have t70:=L.t70;have a70:=L.a70;have z70:=L.z70;have v70:=L.v70;have u70:=run_underlying L.t70;have t37:=L.t37;have a37:=L.a37;have z37:=L.z37;have v37:=L.v37;have u37:=run_underlying L.t37;have t127:=L.t127;have a127:=L.a127;have z127:=L.z127;have v127:=L.v127;have u127:=run_underlying L.t127;have t3:=L.t3;have a3:=L.a3;have z3:=L.z3;have v3:=L.v3;have u3:=run_underlying L.t3;have t9:=L.t9;have a9:=L.a9;have z9:=L.z9;have v9:=L.v9;have u9:=run_underlying L.t9;have t5:=X.t5;have a5:=X.a5;have z5:=X.z5;have v5:=X.v5;have u5:=run_underlying X.t5;go_enter L.f169,Body.n169_ntmps ρ;go_wp2;go_region_o;all_goals (go_wp2;go_ret;exact⟨rfl,rfl⟩)
def Qol(L:Lays.n169 P ρ)(X:Builder.Extra P ρ){H:Hp}{i t:Nat}{a:A}{s:List UInt8}(hi:H[i]?=some (.box (ρ.t 72) [a,.osl true 1 (Yb s) t]))(ht:H[t]?=some (.tok s.length 1 (ρ.t 5)))(hlen:s.length<=4611686018427387904):
 Qc P (ρ.f 169) [.ptr i 0] H (λr H'=>r=.d (.str s)/\H'=H):=by
 intro κ w vs hr hl hv;match vs,hl with
 |[v],_=>
 have hv0:=hv 0 v _ rfl rfl;cases hv0 with
 |ptr _ _ b hb=>
 obtain⟨b',hb',hsh,hc⟩:=hr.ob i _ hi;have hbb:b'=b:=by rw[hb]at hb';cases hb';rfl
 subst hbb;obtain⟨u,hu1,hu2,hu3⟩:=hc 1 _ rfl;have hrl:(Yb s).length=s.length:=by simp[Yb]
 cases hu3 with
 |osl hd hf=>
 have hstr:∀κ':K,VR κ' (.string ⟨s.toArray⟩) (.d (.str s)):=λκ'=>by have:=DR.str (σ:=κ'.σ) ⟨s.toArray⟩;exact .d (by simpa using this)
 by_cases h0:s=[]
 .subst h0;have hu:u=.slice none 0 0:=by
   rcases hd.sl_inv with⟨h1,-⟩|⟨_,_,_,h1,-⟩|⟨_,_,_,_,_,h1,-⟩
   .exact h1
   .cases h1
   .exact absurd rfl (h1 rfl)
  subst hu;refine(Qgp L X b' w hu1).mono λe w' ⟨he,hw⟩=>?_;subst hw;exact⟨_,κ,_,H,he,K.le_refl κ,hr.drew,hstr κ,rfl,rfl⟩
 .rcases hr.ob t _ ht with⟨-,h1⟩|⟨g,e,c,cur,lo,hi',h1,h2,h3,h4⟩
  .exact absurd (Q2b h1) h0
  rw[h1,hrl]at hf;obtain⟨-,hf⟩:=hf;obtain⟨o,cap,hu,hcap,he,hcc,ho⟩:=hf rfl;subst ho;subst hu;obtain⟨-,f,-,-,-,hcs,hds⟩:=hd.sl_at;refine(Qhf L X b' g cap cur.size s w h0 hu1 hcap (by omega) (by simp[World.shape?,h2]) (by omega) (λj x hx=>?_)).mono λe' w' ⟨he',hw⟩=>?_
  .have hrow:(Yb s)[j]?=some [.int .u8 x.toNat]:=by simp[Yb,hx]
   have h5:=hcs j 0 _ _ hrow rfl;have h6:=hds j 0 _ _ hrow rfl;have h7:=hr.st _ _ _ h5;cases h7':f j 0<;>rw[h7']at h6<;>cases h6;rw[h7']at h7;simpa using h7
  .subst hw;refine⟨_,κ,_,H,he',K.le_refl κ,?_,hstr κ,rfl,rfl⟩;exact hr.drew.freeze ht h1 (by omega) rfl rfl
end
end
def Qas(σ:St)(b:Nat)(w:World)(n:Nat):St:=λb' o=>if b'=b then(if o<n then w.cell? ⟨b,o,none⟩else none)else σ b' o
def HR.freezeArr{κ:K}{H:Hp}{w:World}(h:HR κ H w){i sz:Nat}{rows:List (List D)}(hi:H[i]?=some (.arr sz (rows.map (List.map .d)))){v:Value}(hv:VR κ v (.msl i 0 rows.length)):
 ∃κ',κ.le κ'/\HR κ' (H.set i .dead) w/\VR κ' v (.d (.sl false sz rows)):=by
 have hil:i<H.length:=(Q11.1 hi).1;cases hv with
 |msl _ _ _ b sz' o cap hb hl ho hz=>
 obtain⟨b',s',hb',-,hc⟩:=h.ob i _ hi;obtain⟨rfl,rfl⟩:b'=b/\sz=sz':=by rcases hb with⟨_,hb⟩|hb<;>rw[hb]at hb'<;>cases hb';exact⟨rfl,rfl⟩
 have hex:=h.ex i b' (by rw[hb'];rfl);have hσ:∀o,κ.σ b' o=none:=λo=>h.exσ i b' o (by rw[hb'];rfl);let κ':K:={κ with σ:=Qas κ.σ b' w (rows.length*sz),β:=upd κ.β i .deadT};have hle:κ.le κ':=⟨rfl,λb2 o2 u hu=>by
  show Qas κ.σ b' w _ b2 o2=some u;by_cases hbb:b2=b'
  .subst hbb;rw[hσ]at hu;cases hu
  .simp only[Qas,hbb,if_false];exact hu,λj=>by
  show(κ.β j).le (upd κ.β i _ j);by_cases hj:j=i
  .subst hj;rw[Qk,hb'];exact .inr rfl
  .rw[Qu _ _ hj];exact Bind.le_refl _⟩
 refine⟨κ',hle,⟨h.below,λb2 o2 u hu=>?_,λj x hj=>?_,λj hj=>?_,λj b2 hb2=>?_,λj b2 o2 ho2=>?_,λj k b2 hj hk=>?_,λj x hj=>?_⟩,.d ?_⟩
 .have hu':Qas κ.σ b' w (rows.length*sz) b2 o2=some u:=hu;simp only[Qas]at hu';split at hu'
  .rename_i e;subst e;split at hu'
   .exact hu'
   .cases hu'
  .exact h.st b2 o2 u hu'
 .by_cases hji:i=j
  .subst hji;rw[Q17 hil]at hj;cases hj;trivial
  .rw[Q15 hji]at hj;exact(h.ob j x hj).mono hle (Qu _ _ (Ne.symm hji)) λb _=>rfl
 .have:H.length<=j:=by simpa using hj
  show upd κ.β i _ j=_;rw[Qu _ _ (by omega)];exact h.dom j this
 .by_cases hji:j=i
  .subst hji;have:(upd κ.β j Bind.deadT j).block=some b2:=hb2;rw[Qk]at this;cases this
  .have:(upd κ.β i Bind.deadT j).block=some b2:=hb2;rw[Qu _ _ hji]at this;exact h.ex j b2 this
 .by_cases hji:j=i
  .subst hji;have:(upd κ.β j Bind.deadT j).owns b2 o2:=ho2;rw[Qk]at this;exact this.elim
  .have h1:(upd κ.β i Bind.deadT j).owns b2 o2:=ho2;rw[Qu _ _ hji]at h1;show Qas κ.σ b' w _ b2 o2=none;have hne:b2≠b':=λe=>by subst e;exact hji (h.exd j i b2 (Bind.block_of_owns h1) (by rw[hb'];rfl))
   simp only[Qas,hne,if_false];exact h.exσ j b2 o2 h1
 .by_cases hji:j=i
  .subst hji;have:(upd κ.β j Bind.deadT j).block=some b2:=hj;rw[Qk]at this;cases this
  .by_cases hki:k=i
   .subst hki;have:(upd κ.β k Bind.deadT k).block=some b2:=hk;rw[Qk]at this;cases this
   .have h1:(upd κ.β i Bind.deadT j).block=some b2:=hj;have h2:(upd κ.β i Bind.deadT k).block=some b2:=hk;rw[Qu _ _ hji]at h1;rw[Qu _ _ hki]at h2;exact h.exd j k b2 h1 h2
 .by_cases hji:i=j
  .subst hji;rw[Q17 hil]at hj;cases hj;rfl
  .rw[Q15 hji]at hj;exact h.fl j x hj
 .by_cases h0:rows.length=0
  .have:rows=[]:=Q2b h0;subst this;exact .emp sz ⟨b',o,none⟩ cap
  .have ho':=ho (by omega);rw[Nat.zero_mul]at ho';subst ho';have hcell:∀(k j:Nat)(r:List D)(x:D),rows[k]?=some r->r[j]?=some x->∃u,w.cell? ⟨b',k*sz+j,none⟩=some u/\VR κ u (.d x)/\k*sz+j<rows.length*sz:=λk j r x hk hx=>by
    have hk':(rows.map (List.map A.d))[k]?=some (r.map .d):=by simp[hk]
    obtain⟨h1,h2⟩:=hc k _ hk';obtain⟨u,u1,-,u2⟩:=h2 j (.d x) (by simp[hx]);refine⟨u,u1,u2,?_⟩;have hj:j<sz:=by rw[<-h1];simpa using(Q11.1 hx).1
    have hkl:k<rows.length:=(Q11.1 hk).1;have:(k+1)*sz<=rows.length*sz:=Q2z _ (by omega);rw[Q29]at this;omega
   refine DR.sl false sz rows b' 0 cap (λk j=>(w.cell? ⟨b',k*sz+j,none⟩).getD (.tuple #[])) (λh=>by cases h) hl (λk r hk=>?_) (λk j r x hk hx=>?_) (λk j r x hk hx=>?_)
   .have hk':(rows.map (List.map A.d))[k]?=some (r.map .d):=by simp[hk]
    simpa using(hc k _ hk').1
   .obtain⟨u,u1,-,u3⟩:=hcell k j r x hk hx;show Qas κ.σ b' w (rows.length*sz) b' (0+k*sz+j)=_;rw[Q3i];simp only[Qas,if_true,u3,u1,Q4e]
   .obtain⟨u,u1,u2,-⟩:=hcell k j r x hk hx;simp only[u1,Q4e];exact u2.d_inv.mono hle.σ
def Zu{P:Program}{f:FuncId}{fn:Func}{tok:List Nat}{ifn:IFn}{args:List A}{H:Hp}{K:A->Hp->Prop}(k:Nat)(hf:P.funcs[f]?=some fn)(hc:Qn P tok fn=some ifn)(hn:args.length<=ifn.nt)(h:H.Closed->(∀a∈args,a.flat0=true->a.lo H.length=true)->AWp P H.length ifn.body (Fin ifn.res (H.length+k) K) (Fr.init args) H):Qc P f args H K:=
 Qro hf hc hn λh1 h2=>AWp.mono _ (λe fr H' h=>by
  have hx:RetK K .mk (H.length+k) (resA fr H' ifn.res) H':=by cases e<;>first|exact h|exact h.elim
  unfold RetK at hx;split at hx
  .rename_i x e1;cases e with
   |exit=>exact h.elim
   |normal=>exact⟨x,H.length+k,e1,by omega,hx.1,hx.2⟩
   |ret=>exact⟨x,H.length+k,e1,by omega,hx.1,hx.2⟩
  .exact hx.elim) _ _ (h h1 h2)
end Go.Zam
namespace Go.Zam
structure Cmp{α:Type}(c:α->α->Int):Prop where
 refl:∀x,c x x=0
 anti:∀x y,c x y<0↔0<c y x
 trans:∀x y z,c x y<=0->c y z<=0->c x z<=0
namespace Cmp
variable{α:Type}{c:α->α->Int}
def le_total(h:Cmp c)(x y:α):c x y<=0\/c y x<=0:=by have:=h.anti y x;omega
def eq_symm(h:Cmp c){x y:α}(e:c x y=0):c y x=0:=by have h1:=h.anti x y;have h2:=h.anti y x;omega
def not_lt(h:Cmp c){x y:α}:¬c x y<0↔c y x<=0:=by have:=h.anti x y;omega
def le_antisymm(h:Cmp c){x y:α}(e:c x y<=0)(f:c y x<=0):c x y=0:=by have h1:=h.anti x y;have h2:=h.anti y x;omega
def lt_le(h:Cmp c){x y z:α}(e:c x y<0)(f:c y z<=0):c x z<0:=by have h1:=(h.anti x y).1 e;have h2:=h.anti x z;have h3:=h.trans y z x f;omega
def le_lt(h:Cmp c){x y z:α}(e:c x y<=0)(f:c y z<0):c x z<0:=by have h1:=(h.anti y z).1 f;have h2:=h.anti x z;have h3:=h.trans z x y;omega
end Cmp
section
variable{α:Type}(c:α->α->Int)
def Sorted(l:List α):Prop:=l.Pairwise λx y=>c x y<=0
def cls(x:α)(l:List α):List α:=l.filter λy=>decide (c x y=0)
def Alk(l l':List α):Prop:=∀x,cls c x l=cls c x l'
def insL(x:α):List α->List α
 |[]=>[x]
 |y::r=>if c x y<=0 then x::y::r else y::insL x r
def ssort:List α->List α
 |[]=>[]
 |x::r=>insL c x (ssort r)
end
section
variable{α:Type}{c:α->α->Int}
def Alk.refl(l:List α):Alk c l l:=λ_=>rfl
def Alk.symm{l l':List α}(h:Alk c l l'):Alk c l' l:=λx=>(h x).symm
def Alk.trans{l l' l'':List α}(h:Alk c l l')(k:Alk c l' l''):Alk c l l'':=λx=>(h x).trans (k x)
def Alk.append{a a' b b':List α}(h:Alk c a a')(k:Alk c b b'):Alk c (a++b) (a'++b'):=λx=>by simp only[cls,Q4o];have h1:=h x;have h2:=k x;simp only[cls]at h1 h2;rw[h1,h2]
def Alk.mid{p a a' q:List α}(h:Alk c a a'):Alk c (p++(a++q)) (p++(a'++q)):=(Alk.refl p).append (h.append (Alk.refl q))
def Qsy(h:Cmp c){x:α}{l:List α}(hl:∀y∈l,c x y<0\/c y x<0):cls c x l=[]:=by
 rw[cls,Q48];intro y hy;simp only[decide_eq_true_eq];rcases hl y hy with h1|h1
 .omega
 .have:=(h.anti y x).1 h1;omega
def Alk.swap(h:Cmp c){a b:List α}(hab:∀x∈a,∀y∈b,c y x<0):Alk c (a++b) (b++a):=λz=>by
 simp only[cls,Q4o];by_cases ha:∃x∈a,c z x=0
 .obtain⟨x,hx,hzx⟩:=ha;have:cls c z b=[]:=Qsy h λy hy=>.inr (h.lt_le (hab x hx y hy) (by rw[h.eq_symm hzx];exact Q16 0));simp only[cls]at this;rw[this];simp
 .have:cls c z a=[]:=by rw[cls,Q48];intro y hy;simp only[decide_eq_true_eq];exactλe=>ha ⟨y,hy,e⟩
  simp only[cls]at this;rw[this];simp
def Alk.length(h:Cmp c):∀{l l':List α},Alk c l l'->l.Perm l'
 |[],l',e=>by
  cases l' with
  |nil=>exact .nil
  |cons y r=>have:=e y;simp[cls,h.refl]at this
 |x::r,l',e=>by
  have hx:=e x;have hx1:cls c x (x::r)=x::cls c x r:=by simp[cls,h.refl]
  rw[hx1]at hx;have hm:x∈l':=by
   have:x∈cls c x l':=by rw[<-hx];simp
   exact(Q3l.1 this).1
  obtain⟨p,y,q,hpq,hp,hy⟩:∃p y q,l'=p++y::q/\(∀z∈p,¬c x z=0)/\c x y=0:=by
   clear hx hx1 e;induction l' with
   |nil=>cases hm
   |cons y l' ih=>
    by_cases hy:c x y=0
    .exact⟨[],y,l',rfl,by simp,hy⟩
    .have hm':x∈l':=by
      rcases Q2v.1 hm with h1|h1
      .subst h1;exact absurd (h.refl x) hy
      .exact h1
     obtain⟨p,z,q,h1,h2,h3⟩:=ih hm';exact⟨y::p,z,q,by rw[h1];rfl,λw hw=>by
      rcases Q2v.1 hw with h4|h4
      .subst h4;exact hy
      .exact h2 w h4,h3⟩
  have hpn:cls c x p=[]:=by rw[cls,Q48];intro z hz;simpa using hp z hz
  have hy1:cls c x l'=y::cls c x q:=by rw[hpq,cls,Q4o];have:cls c x p=[]:=hpn;rw[cls]at this;rw[this];simp[hy,cls]
  rw[hy1]at hx;obtain⟨rfl,hxq⟩:=List.cons.inj hx;have hr:Alk c r (p++q):=λz=>by
   have h1:=e z;rw[hpq]at h1;by_cases hz:c z x=0
   .have hpz:cls c z p=[]:=by
     rw[cls,Q48];intro w hw;simp only[decide_eq_true_eq];intro hzw;refine hp w hw (h.le_antisymm (h.trans x z w ?_ ?_) (h.trans w z x ?_ ?_))
     .rw[h.eq_symm hz];exact Q16 0
     .omega
     .rw[h.eq_symm hzw];exact Q16 0
     .omega
    simp only[cls,Q4o]at h1 hpz⊢;rw[hpz]at h1⊢;simpa[hz]using h1
   .simp only[cls,Q4o]at h1⊢;simpa[hz]using h1
  have:=Alk.length h hr;rw[hpq];exact(List.Perm.cons x this).trans (List.perm_middle.symm)
termination_by l=>l.length
def Alk.mem(h:Cmp c){l l':List α}(e:Alk c l l'){x:α}:x∈l↔x∈l':=(Alk.length h e).mem_iff
def Sorted.cons{x:α}{l:List α}:Sorted c (x::l)↔(∀y∈l,c x y<=0)/\Sorted c l:=Q4b
def Sorted.append{a b:List α}:Sorted c (a++b)↔Sorted c a/\Sorted c b/\∀x∈a,∀y∈b,c x y<=0:=List.pairwise_append
def Qj5(h:Cmp c):∀{l l':List α},Sorted c l->Sorted c l'->Alk c l l'->l=l'
 |[],l',_,_,e=>(List.nil_perm.1 (Alk.length h e)).symm
 |x::r,[],_,_,e=>by have:=(Alk.length h e).length_eq;simp at this
 |x::r,y::r',s,s',e=>by
  rw[Sorted.cons]at s s';have hxy:c x y<=0:=by
   have:y∈x::r:=(Alk.mem h e).2 (by simp);rcases Q2v.1 this with h1|h1
   .subst h1;rw[h.refl];exact Q16 0
   .exact s.1 y h1
  have hyx:c y x<=0:=by
   have:x∈y::r':=(Alk.mem h e).1 (by simp);rcases Q2v.1 this with h1|h1
   .subst h1;rw[h.refl];exact Q16 0
   .exact s'.1 x h1
  have h0:=h.le_antisymm hxy hyx;have hx:=e x;simp[cls,h.refl,h0]at hx;obtain⟨rfl,-⟩:=hx;congr 1;refine Qj5 h s.2 s'.2 λz=>?_;have hz:=e z;simp only[cls,List.filter_cons]at hz⊢;split at hz
  .exact(List.cons.inj hz).2
  .exact hz
def Qm4(h:Cmp c)(x:α):∀l:List α,Alk c (x::l) (insL c x l)
 |[]=>Alk.refl _
 |y::r=>by
  rw[insL];split
  .exact Alk.refl _
  .rename_i hn;have h1:Alk c ([x]++[y]) ([y]++[x]):=Alk.swap h λa ha b hb=>by simp only[Q3t]at ha hb;subst ha;subst hb;have:=h.anti b a;omega
   have h2:Alk c (x::y::r) (y::x::r):=by simpa using h1.append (Alk.refl r)
   exact h2.trans (by simpa using(Alk.refl [y]).append (Qm4 h x r))
def Qj6(h:Cmp c)(x:α):∀{l:List α},Sorted c l->Sorted c (insL c x l)
 |[],_=>by simp[insL,Sorted]
 |y::r,s=>by
  rw[Sorted.cons]at s;rw[insL];split
  .rename_i hxy;rw[Sorted.cons];refine⟨λz hz=>?_,Sorted.cons.2 s⟩;rcases Q2v.1 hz with h1|h1
   .subst h1;exact hxy
   .exact h.trans _ _ _ hxy (s.1 z h1)
  .rename_i hn;rw[Sorted.cons];refine⟨λz hz=>?_,Qj6 h x s.2⟩;have:=(Alk.mem h (Qm4 h x r)).2 hz;rcases Q2v.1 this with h1|h1
   .subst h1;have:=h.le_total z y;omega
   .exact s.1 z h1
def Wi(h:Cmp c):∀l:List α,Sorted c (ssort c l)/\Alk c l (ssort c l)
 |[]=>⟨List.Pairwise.nil,Alk.refl _⟩
 |x::r=>by obtain⟨h1,h2⟩:=Wi h r;refine⟨Qj6 h x h1,Alk.trans ?_ (Qm4 h x _)⟩;simpa using(Alk.refl [x]).append h2
def Qax(h:Cmp c){l l':List α}(s:Sorted c l')(e:Alk c l l'):l'=ssort c l:=Qj5 h s (Wi h l).1 (e.symm.trans (Wi h l).2)
def Qi6(h:Cmp c){l l':List α}(e:Alk c l l'):ssort c l'=ssort c l:=Qax h (Wi h l').1 (e.trans (Wi h l').2)
def Ww(h:Cmp c)(l:List α):(ssort c l).length=l.length:=((Wi h l).2.length h).length_eq.symm
def Qai(h:Cmp c){l:List α}(s:Sorted c l):ssort c l=l:=(Qax h s (Alk.refl l)).symm
def Qd9(h:Cmp c){a b:List α}{x:α}(s:Sorted c (a++b))(ha:∀y∈a,c y x<=0)(hb:∀y∈b,c x y<0):ssort c ((a++b)++[x])=a++x::b:=by
 refine(Qax h ?_ ?_).symm
 .rw[Sorted.append]at s⊢;refine⟨s.1,Sorted.cons.2 ⟨λy hy=>by have:=hb y hy;omega,s.2.1⟩,λy hy z hz=>?_⟩;rcases Q2v.1 hz with h1|h1
  .subst h1;exact ha y hy
  .exact s.2.2 y hy z h1
 .have h1:Alk c (b++[x]) ([x]++b):=Alk.swap h λy hy z hz=>by simp only[Q3t]at hz;subst hz;exact hb y hy
  simpa using(Alk.refl a).append h1
def Qr1(h:Cmp c){a b:List α}{x:α}(s:Sorted c (a++b))(ha:∀y∈a,c y x<0)(hb:∀y∈b,c x y<=0):ssort c (x::(a++b))=a++x::b:=by
 refine(Qax h ?_ ?_).symm
 .rw[Sorted.append]at s⊢;refine⟨s.1,Sorted.cons.2 ⟨hb,s.2.1⟩,λy hy z hz=>?_⟩;rcases Q2v.1 hz with h1|h1
  .subst h1;have:=ha y hy;omega
  .exact s.2.2 y hy z h1
 .have h1:Alk c ([x]++a) (a++[x]):=Alk.swap h λy hy z hz=>by simp only[Q3t]at hy;subst hy;exact ha z hz
  simpa using h1.append (Alk.refl b)
def Qon(h:Cmp c){a1 a2 b1 b2:List α}(sa:Sorted c (a1++a2))(sb:Sorted c (b1++b2))(h1:∀x∈a2,∀y∈b1,c y x<0)(h2:∀x∈a1,∀y∈b2,c x y<=0):
 ssort c ((a1++a2)++(b1++b2))=ssort c (a1++b1)++ssort c (a2++b2):=by
 rw[Sorted.append]at sa sb;obtain⟨l1,l2⟩:=Wi h (a1++b1);obtain⟨r1,r2⟩:=Wi h (a2++b2);refine(Qax h (Sorted.append.2 ⟨l1,r1,λx hx y hy=>?_⟩) ?_).symm
 .have hx':=(Alk.mem h l2).2 hx;have hy':=(Alk.mem h r2).2 hy;rcases Q2r.1 hx' with u|u<;>rcases Q2r.1 hy' with v|v
  .exact sa.2.2 x u y v
  .exact h2 x u y v
  .have:=h1 y v x u;omega
  .exact sb.2.2 x u y v
 .have e1:Alk c (a1++((a2++b1)++b2)) (a1++((b1++a2)++b2)):=Alk.mid (Alk.swap h h1);have e2:=l2.append r2;simp only[Q2g]at e1 e2⊢;exact e1.trans e2
end
end Go.Zam
namespace Go.Zam
variable{P:Program}
section
open Go.Proofs
abbrev J0:D:=.int .i64 0
abbrev JS:D:=.str []
abbrev JN:List D:=[J0,J0,J0,JS,J0,.sl true 6 []]
abbrev JI(n:Int):Arg:=.c (.int .i64 n)
abbrev Km(x:Nat):I:=.mv (.t x)
abbrev Kc(n:Int):I:=.mv (.c (.int .i64 n))
abbrev Kl(x:Nat):I:=.load 1 false (.t x)
abbrev KL(n x:Nat):I:=.load n true (.t x)
abbrev Kh(k x:Nat):I:=.faddr k (.t x)
abbrev Kb(o:BinOp)(x y:Nat):I:=.bin o (.t x) (.t y)
abbrev KB(o:BinOp)(x:Nat)(n:Int):I:=.bin o (.t x) (.c (.int .i64 n))
abbrev KA(n x y:Nat):I:=.iaddr n (.t x) (.t y)
abbrev Jp(d:Nat)(i:I):IOp:=⟨some d,none,i⟩
abbrev Jv(i:I):IOp:=⟨none,none,i⟩
abbrev Jg(d g:Nat)(b:Bool)(i:I):IOp:=⟨some d,some (g,b),i⟩
abbrev Jm(d x:Nat):IOp:=Jp d (Km x)
abbrev Ji(d:Nat)(n:Int):IOp:=Jp d (Kc n)
abbrev Jl(d x:Nat):IOp:=Jp d (Kl x)
abbrev JL(d n x:Nat):IOp:=Jp d (KL n x)
abbrev Jf(d k x:Nat):IOp:=Jp d (Kh k x)
abbrev Jn(d x:Nat):IOp:=Jp d (.nilCheck (.t x))
abbrev Jc(d f:Nat)(l:List Arg):IOp:=Jp d (.call f l)
abbrev Jb(d:Nat)(o:BinOp)(x y:Nat):IOp:=Jp d (Kb o x y)
abbrev JB(d:Nat)(o:BinOp)(x:Nat)(n:Int):IOp:=Jp d (KB o x n)
abbrev JA(d n x y:Nat):IOp:=Jp d (KA n x y)
abbrev Je(d x k:Nat):IOp:=Jp d (.ext (.t x) k)
abbrev Jh(d x:Nat):IOp:=Jp d (.lenL (.t x))
abbrev Ja(d a b:Nat):IOp:=Jp d (.pick (.t a) (.t b) (.c (.bool false)))
abbrev Jo(d a b:Nat):IOp:=Jp d (.pick (.t a) (.c (.bool true)) (.t b))
abbrev Js(n x y:Nat):IOp:=Jv (.store n (.t x) (.t y))
abbrev Jy(d t:Nat)(l:List D):IOp:=Jp d (.alloc t l)
abbrev Jz(l:List IOp):C:=.ops l false
abbrev Jq(l:List IOp)(c:C):C:=.seq (.ops l false) c
abbrev Jk(l:List IOp)(t:Nat)(a b:C):C:=.seq (.ops l false) (.cond (.t t) a b)
abbrev YI(n:Int):A:=.d (.int .i64 n)
abbrev YS(s:List UInt8):A:=.d (.str s)
abbrev YB(b:Bool):A:=.d (.bool b)
abbrev YL(z:Bool)(n:Nat)(l:List (List D)):A:=.d (.sl z n l)
abbrev Jr(si sn sb st b c:Nat)(d:C):C:=.seq (.ops [⟨some sb,none,.bin .lss (.t si) (.t sn)⟩] false) (.seq (.cond (.t sb) .skip (.exit b)) (.seq (.blk c d) (.ops [⟨some st,none,.bin .add (.t si) (.c (.int .i64 1))⟩,⟨some si,none,.mv (.t st)⟩] false)))
def Y4(sz:Nat):IFn:=⟨38,[],Jq [Ji 10 0] (.blk 0 (.loop (.seq (Jk [Jm 11 10,Jm 12 3,Jb 13 .lss 11 12] 13 .skip (.exit 0)) (.seq (.blk 1 (.ops [Jm 16 0,Jm 17 1,Jm 18 10,Jb 19 .add 17 18,Jm 20 0,Jm 21 2,Jm 22 10,Jb 23 .add 21 22,Jm 24 0,Jm 25 2,Jm 26 10,Jb 27 .add 25 26,JA 28 sz 24 27,JL 29 sz 28,Jm 30 0,Jm 31 1,Jm 32 10,Jb 33 .add 31 32,JA 34 sz 30 33,JL 35 sz 34,JA 36 sz 16 19,Js sz 36 29,JA 37 sz 20 23,Js sz 37 35] true)) (Jz [Jm 14 10,JB 15 .add 14 1,Jm 10 15])))))⟩
def Z2(swp:Nat):IFn:=by
 have h:=Ix.J [] Tryz.f171 [(189,swp)] [];conv at h=>arg 1;reduce
 exact h.p
def Qok(rot sym:Nat):C:=
 (.seq (.ops [
  ⟨(some 175),none,.mv (.t 19)⟩,
  ⟨(some 176),none,.mv (.t 20)⟩,
  ⟨(some 177),none,.bin .sub (.t 175) (.t 176)⟩,
  ⟨(some 24),none,.mv (.t 177)⟩] false)
  (.seq (.seq (.ops [
   ⟨(some 178),none,.mv (.t 20)⟩,
   ⟨(some 179),none,.mv (.t 2)⟩,
   ⟨(some 180),none,.bin .lss (.t 178) (.t 179)⟩,
   ⟨(some 181),none,.mv (.t 180)⟩,
   ⟨(some 182),(some (181,true)),.mv (.t 2)⟩,
   ⟨(some 183),(some (181,true)),.mv (.t 24)⟩,
   ⟨(some 184),(some (181,true)),.bin .lss (.t 182) (.t 183)⟩,
   ⟨(some 185),none,.pick (.t 181) (.t 184) (.c (.bool false))⟩] false)
   (.cond (.t 185) (.ops [
    ⟨(some 186),none,.mv (.t 0)⟩,
    ⟨(some 187),none,.mv (.t 20)⟩,
    ⟨(some 188),none,.mv (.t 2)⟩,
    ⟨(some 189),none,.mv (.t 24)⟩,
    ⟨(some 190),none,.mv (.t 4)⟩,
    ⟨(some 191),none,.call rot [(.t 186),(.t 187),(.t 188),(.t 189),(.t 190)]⟩] false)
   (.skip)))
  (.seq (.seq (.ops [
   ⟨(some 192),none,.mv (.t 1)⟩,
   ⟨(some 193),none,.mv (.t 20)⟩,
   ⟨(some 194),none,.bin .lss (.t 192) (.t 193)⟩,
   ⟨(some 195),none,.mv (.t 194)⟩,
   ⟨(some 196),(some (195,true)),.mv (.t 20)⟩,
   ⟨(some 197),(some (195,true)),.mv (.t 18)⟩,
   ⟨(some 198),(some (195,true)),.bin .lss (.t 196) (.t 197)⟩,
   ⟨(some 199),none,.pick (.t 195) (.t 198) (.c (.bool false))⟩] false)
   (.cond (.t 199) (.ops [
    ⟨(some 200),none,.mv (.t 0)⟩,
    ⟨(some 201),none,.mv (.t 1)⟩,
    ⟨(some 202),none,.mv (.t 20)⟩,
    ⟨(some 203),none,.mv (.t 18)⟩,
    ⟨(some 204),none,.mv (.t 4)⟩,
    ⟨(some 205),none,.call sym [(.t 200),(.t 201),(.t 202),(.t 203),(.t 204)]⟩] false)
   (.skip)))
  (.seq (.ops [
   ⟨(some 206),none,.mv (.t 18)⟩,
   ⟨(some 207),none,.mv (.t 24)⟩,
   ⟨(some 208),none,.bin .lss (.t 206) (.t 207)⟩,
   ⟨(some 209),none,.mv (.t 208)⟩,
   ⟨(some 210),(some (209,true)),.mv (.t 24)⟩,
   ⟨(some 211),(some (209,true)),.mv (.t 3)⟩,
   ⟨(some 212),(some (209,true)),.bin .lss (.t 210) (.t 211)⟩,
   ⟨(some 213),none,.pick (.t 209) (.t 212) (.c (.bool false))⟩] false)
  (.cond (.t 213) (.ops [
   ⟨(some 214),none,.mv (.t 0)⟩,
   ⟨(some 215),none,.mv (.t 18)⟩,
   ⟨(some 216),none,.mv (.t 24)⟩,
   ⟨(some 217),none,.mv (.t 3)⟩,
   ⟨(some 218),none,.mv (.t 4)⟩,
   ⟨(some 219),none,.call sym [(.t 214),(.t 215),(.t 216),(.t 217),(.t 218)]⟩] false)
  (.skip))))))
def Qkq(sz rot sym:Nat):C:=
 (.seq (.blk 8 (.loop (.seq (.seq (.ops [
        ⟨(some 149),none,.mv (.t 20)⟩,
        ⟨(some 150),none,.mv (.t 21)⟩,
        ⟨(some 151),none,.bin .lss (.t 149) (.t 150)⟩] false)
  (.cond (.t 151) (.skip)
  (.exit 8)))
  (.blk 9 (.seq (.ops [
   ⟨(some 152),none,.mv (.t 20)⟩,
   ⟨(some 153),none,.mv (.t 21)⟩,
   ⟨(some 154),none,.bin .add (.t 152) (.t 153)⟩,
   ⟨(some 155),none,.cvt .u64 (.t 154)⟩,
   ⟨(some 156),none,.bin .shr (.t 155) (.c (.int .u64 1))⟩,
   ⟨(some 157),none,.cvt .i64 (.t 156)⟩,
   ⟨(some 23),none,.mv (.t 157)⟩] false)
   (.seq (.ops [
    ⟨(some 158),none,.mv (.t 4)⟩,
    ⟨(some 159),none,.mv (.t 0)⟩,
    ⟨(some 160),none,.mv (.t 22)⟩,
    ⟨(some 161),none,.mv (.t 23)⟩,
    ⟨(some 162),none,.bin .sub (.t 160) (.t 161)⟩,
    ⟨(some 163),none,.iaddr sz (.t 159) (.t 162)⟩,
    ⟨(some 164),none,.load sz true (.t 163)⟩,
    ⟨(some 165),none,.mv (.t 0)⟩,
    ⟨(some 166),none,.mv (.t 23)⟩,
    ⟨(some 167),none,.iaddr sz (.t 165) (.t 166)⟩,
    ⟨(some 168),none,.load sz true (.t 167)⟩,
    ⟨(some 169),none,.callv (.t 158) [(.t 164),(.t 168)]⟩,
    ⟨(some 170),none,.bin .lss (.t 169) (.c (.int .i64 0))⟩,
    ⟨(some 171),none,.un .not (.t 170)⟩] true)
   (.cond (.t 171) (.ops [
    ⟨(some 172),none,.mv (.t 23)⟩,
    ⟨(some 173),none,.bin .add (.t 172) (.c (.int .i64 1))⟩,
    ⟨(some 20),none,.mv (.t 173)⟩] false)
   (.ops [
    ⟨(some 174),none,.mv (.t 23)⟩,
    ⟨(some 21),none,.mv (.t 174)⟩] false))))))))
  (Qok rot sym))
def symA(sz:Nat):C:=
 (.seq (.ops [
  ⟨(some 29),none,.mv (.t 2)⟩,
  ⟨(some 10),none,.mv (.t 29)⟩] false)
  (.seq (.ops [
   ⟨(some 30),none,.mv (.t 3)⟩,
   ⟨(some 11),none,.mv (.t 30)⟩] false)
  (.seq (.blk 0 (.loop (.seq (.seq (.ops [
    ⟨(some 31),none,.mv (.t 10)⟩,
    ⟨(some 32),none,.mv (.t 11)⟩,
    ⟨(some 33),none,.bin .lss (.t 31) (.t 32)⟩] false)
   (.cond (.t 33) (.skip)
   (.exit 0)))
   (.blk 1 (.seq (.ops [
    ⟨(some 34),none,.mv (.t 10)⟩,
    ⟨(some 35),none,.mv (.t 11)⟩,
    ⟨(some 36),none,.bin .add (.t 34) (.t 35)⟩,
    ⟨(some 37),none,.cvt .u64 (.t 36)⟩,
    ⟨(some 38),none,.bin .shr (.t 37) (.c (.int .u64 1))⟩,
    ⟨(some 39),none,.cvt .i64 (.t 38)⟩,
    ⟨(some 12),none,.mv (.t 39)⟩] false)
    (.seq (.ops [
     ⟨(some 40),none,.mv (.t 4)⟩,
     ⟨(some 41),none,.mv (.t 0)⟩,
     ⟨(some 42),none,.mv (.t 12)⟩,
     ⟨(some 43),none,.iaddr sz (.t 41) (.t 42)⟩,
     ⟨(some 44),none,.load sz true (.t 43)⟩,
     ⟨(some 45),none,.mv (.t 0)⟩,
     ⟨(some 46),none,.mv (.t 1)⟩,
     ⟨(some 47),none,.iaddr sz (.t 45) (.t 46)⟩,
     ⟨(some 48),none,.load sz true (.t 47)⟩,
     ⟨(some 49),none,.callv (.t 40) [(.t 44),(.t 48)]⟩,
     ⟨(some 50),none,.bin .lss (.t 49) (.c (.int .i64 0))⟩] true)
    (.cond (.t 50) (.ops [
     ⟨(some 51),none,.mv (.t 12)⟩,
     ⟨(some 52),none,.bin .add (.t 51) (.c (.int .i64 1))⟩,
     ⟨(some 10),none,.mv (.t 52)⟩] false)
    (.ops [
     ⟨(some 53),none,.mv (.t 12)⟩,
     ⟨(some 11),none,.mv (.t 53)⟩] false))))))))
  (.seq (.seq (.ops [
   ⟨(some 54),none,.mv (.t 1)⟩,
   ⟨(some 13),none,.mv (.t 54)⟩] false)
   (.blk 2 (.loop (.seq (.seq (.ops [
    ⟨(some 55),none,.mv (.t 13)⟩,
    ⟨(some 56),none,.mv (.t 10)⟩,
    ⟨(some 57),none,.bin .sub (.t 56) (.c (.int .i64 1))⟩,
    ⟨(some 58),none,.bin .lss (.t 55) (.t 57)⟩] false)
    (.cond (.t 58) (.skip)
    (.exit 2)))
    (.seq (.blk 3 (.ops [
     ⟨(some 61),none,.mv (.t 0)⟩,
     ⟨(some 62),none,.mv (.t 13)⟩,
     ⟨(some 63),none,.mv (.t 0)⟩,
     ⟨(some 64),none,.mv (.t 13)⟩,
     ⟨(some 65),none,.bin .add (.t 64) (.c (.int .i64 1))⟩,
     ⟨(some 66),none,.mv (.t 0)⟩,
     ⟨(some 67),none,.mv (.t 13)⟩,
     ⟨(some 68),none,.bin .add (.t 67) (.c (.int .i64 1))⟩,
     ⟨(some 69),none,.iaddr sz (.t 66) (.t 68)⟩,
     ⟨(some 70),none,.load sz true (.t 69)⟩,
     ⟨(some 71),none,.mv (.t 0)⟩,
     ⟨(some 72),none,.mv (.t 13)⟩,
     ⟨(some 73),none,.iaddr sz (.t 71) (.t 72)⟩,
     ⟨(some 74),none,.load sz true (.t 73)⟩,
     ⟨(some 75),none,.iaddr sz (.t 61) (.t 62)⟩,
     ⟨none,none,.store sz (.t 75) (.t 70)⟩,
     ⟨(some 76),none,.iaddr sz (.t 63) (.t 65)⟩,
     ⟨none,none,.store sz (.t 76) (.t 74)⟩] true))
    (.ops [
     ⟨(some 59),none,.mv (.t 13)⟩,
     ⟨(some 60),none,.bin .add (.t 59) (.c (.int .i64 1))⟩,
     ⟨(some 13),none,.mv (.t 60)⟩] false))))))
  (.ret)))))
def symB(sz:Nat):C:=
 (.seq (.ops [
  ⟨(some 81),none,.mv (.t 1)⟩,
  ⟨(some 14),none,.mv (.t 81)⟩] false)
  (.seq (.ops [
   ⟨(some 82),none,.mv (.t 2)⟩,
   ⟨(some 15),none,.mv (.t 82)⟩] false)
  (.seq (.blk 4 (.loop (.seq (.seq (.ops [
    ⟨(some 83),none,.mv (.t 14)⟩,
    ⟨(some 84),none,.mv (.t 15)⟩,
    ⟨(some 85),none,.bin .lss (.t 83) (.t 84)⟩] false)
   (.cond (.t 85) (.skip)
   (.exit 4)))
   (.blk 5 (.seq (.ops [
    ⟨(some 86),none,.mv (.t 14)⟩,
    ⟨(some 87),none,.mv (.t 15)⟩,
    ⟨(some 88),none,.bin .add (.t 86) (.t 87)⟩,
    ⟨(some 89),none,.cvt .u64 (.t 88)⟩,
    ⟨(some 90),none,.bin .shr (.t 89) (.c (.int .u64 1))⟩,
    ⟨(some 91),none,.cvt .i64 (.t 90)⟩,
    ⟨(some 16),none,.mv (.t 91)⟩] false)
    (.seq (.ops [
     ⟨(some 92),none,.mv (.t 4)⟩,
     ⟨(some 93),none,.mv (.t 0)⟩,
     ⟨(some 94),none,.mv (.t 2)⟩,
     ⟨(some 95),none,.iaddr sz (.t 93) (.t 94)⟩,
     ⟨(some 96),none,.load sz true (.t 95)⟩,
     ⟨(some 97),none,.mv (.t 0)⟩,
     ⟨(some 98),none,.mv (.t 16)⟩,
     ⟨(some 99),none,.iaddr sz (.t 97) (.t 98)⟩,
     ⟨(some 100),none,.load sz true (.t 99)⟩,
     ⟨(some 101),none,.callv (.t 92) [(.t 96),(.t 100)]⟩,
     ⟨(some 102),none,.bin .lss (.t 101) (.c (.int .i64 0))⟩,
     ⟨(some 103),none,.un .not (.t 102)⟩] true)
    (.cond (.t 103) (.ops [
     ⟨(some 104),none,.mv (.t 16)⟩,
     ⟨(some 105),none,.bin .add (.t 104) (.c (.int .i64 1))⟩,
     ⟨(some 14),none,.mv (.t 105)⟩] false)
    (.ops [
     ⟨(some 106),none,.mv (.t 16)⟩,
     ⟨(some 15),none,.mv (.t 106)⟩] false))))))))
  (.seq (.seq (.ops [
   ⟨(some 107),none,.mv (.t 2)⟩,
   ⟨(some 17),none,.mv (.t 107)⟩] false)
   (.blk 6 (.loop (.seq (.seq (.ops [
    ⟨(some 108),none,.mv (.t 17)⟩,
    ⟨(some 109),none,.mv (.t 14)⟩,
    ⟨(some 110),none,.bin .gtr (.t 108) (.t 109)⟩] false)
    (.cond (.t 110) (.skip)
    (.exit 6)))
    (.seq (.blk 7 (.ops [
     ⟨(some 113),none,.mv (.t 0)⟩,
     ⟨(some 114),none,.mv (.t 17)⟩,
     ⟨(some 115),none,.mv (.t 0)⟩,
     ⟨(some 116),none,.mv (.t 17)⟩,
     ⟨(some 117),none,.bin .sub (.t 116) (.c (.int .i64 1))⟩,
     ⟨(some 118),none,.mv (.t 0)⟩,
     ⟨(some 119),none,.mv (.t 17)⟩,
     ⟨(some 120),none,.bin .sub (.t 119) (.c (.int .i64 1))⟩,
     ⟨(some 121),none,.iaddr sz (.t 118) (.t 120)⟩,
     ⟨(some 122),none,.load sz true (.t 121)⟩,
     ⟨(some 123),none,.mv (.t 0)⟩,
     ⟨(some 124),none,.mv (.t 17)⟩,
     ⟨(some 125),none,.iaddr sz (.t 123) (.t 124)⟩,
     ⟨(some 126),none,.load sz true (.t 125)⟩,
     ⟨(some 127),none,.iaddr sz (.t 113) (.t 114)⟩,
     ⟨none,none,.store sz (.t 127) (.t 122)⟩,
     ⟨(some 128),none,.iaddr sz (.t 115) (.t 117)⟩,
     ⟨none,none,.store sz (.t 128) (.t 126)⟩] true))
    (.ops [
     ⟨(some 111),none,.mv (.t 17)⟩,
     ⟨(some 112),none,.bin .sub (.t 111) (.c (.int .i64 1))⟩,
     ⟨(some 17),none,.mv (.t 112)⟩] false))))))
  (.ret)))))
def Zn(sz rot sym:Nat):IFn:=⟨220,[],.seq (Jk [Jm 25 2,Jm 26 1,Jb 27 .sub 25 26,JB 28 .eql 27 1] 28 (symA sz) .skip) (.seq (Jk [Jm 77 3,Jm 78 2,Jb 79 .sub 77 78,JB 80 .eql 79 1] 80 (symB sz) .skip) (Jq [Jm 129 1,Jm 130 3,Jb 131 .add 129 130,Jp 132 (.cvt .u64 (.t 131)),Jp 133 (.bin .shr (.t 132) (.c (.int .u64 1))),Jp 134 (.cvt .i64 (.t 133)),Jm 18 134] (Jq [Jm 135 18,Jm 136 2,Jb 137 .add 135 136,Jm 19 137] (Jq [Ji 20 0,Ji 21 0] (.seq (Jk [Jm 138 2,Jm 139 18,Jb 140 .gtr 138 139] 140 (Jq [Jm 141 19,Jm 142 3,Jb 143 .sub 141 142,Jm 20 143] (Jz [Jm 144 18,Jm 21 144])) (Jq [Jm 145 1,Jm 20 145] (Jz [Jm 146 2,Jm 21 146]))) (Jq [Jm 147 19,JB 148 .sub 147 1,Jm 22 148] (Qkq sz rot sym)))))))⟩
def Vg(sz:Nat):IFn:=⟨53,[],Jq [Jm 10 1,JB 11 .add 10 1,Jm 8 11] (.blk 0 (.loop (.seq (Jk [Jm 12 8,Jm 13 2,Jb 14 .lss 12 13] 14 .skip (.exit 0)) (.seq (.blk 1 (Jq [Jm 17 8,Jm 9 17] (.blk 2 (.loop (.seq (.seq (.ops [Jm 18 9,Jm 19 1,Jb 20 .gtr 18 19,Jm 21 20,Jg 22 21 true (Km 3),Jg 23 21 true (Km 0),Jg 24 21 true (Km 9),Jg 25 21 true (KA sz 23 24),Jg 26 21 true (KL sz 25),Jg 27 21 true (Km 0),Jg 28 21 true (Km 9),Jg 29 21 true (KB .sub 28 1),Jg 30 21 true (KA sz 27 29),Jg 31 21 true (KL sz 30),Jg 32 21 true (.callv (.t 22) [.t 26,.t 31]),Jg 33 21 true (KB .lss 32 0),Ja 34 21 33] true) (.cond (.t 34) .skip (.exit 2))) (.seq (.blk 3 (.ops [Jm 37 0,Jm 38 9,Jm 39 0,Jm 40 9,JB 41 .sub 40 1,Jm 42 0,Jm 43 9,JB 44 .sub 43 1,JA 45 sz 42 44,JL 46 sz 45,Jm 47 0,Jm 48 9,JA 49 sz 47 48,JL 50 sz 49,JA 51 sz 37 38,Js sz 51 46,JA 52 sz 39 41,Js sz 52 50] true)) (Jz [Jm 35 9,JB 36 .sub 35 1,Jm 9 36]))))))) (Jz [Jm 15 8,JB 16 .add 15 1,Jm 8 16])))))⟩
def Qao(ins sym:Nat):IFn:=by
 have h:=Ix.J [] Tryz.f95 [(143,ins),(144,sym)] [];conv at h=>arg 1;reduce
 exact h.p
def Vs(stb:Nat):IFn:=by
 have h:=Ix.J [] Tryz.f64 [(95,stb)] [];conv at h=>arg 1;reduce
 exact h.p
def Qch(sz bytes e:Nat):IFn:=⟨8,[.t 2],Jq [Jp 2 (.mv (.c (.sl true sz [])))] (.seq (Jk [Jm 3 0,Jp 4 (.isNilS false (.t 3))] 4 (Jq [Jp 2 (.mv (.c (.sl true sz [])))] .ret) .skip) (Jq [Jp 5 (.bsliceM sz []),Jm 6 0,Jp 7 (.app sz bytes e (.t 5) (.t 6)),Jm 2 7] .ret))⟩
def Qap:IFn:=by
 have h:=Ix.J [] Tryz.f59 [] [];conv at h=>arg 1;reduce
 exact h.p
def V5(nan:Nat):IFn:=by
 have h:=Ix.J [] Tryz.f42 [(59,nan)] [];conv at h=>arg 1;reduce
 exact h.p
end
section
def rowE{α:Type}(enc:α->List D)(e:α):List A:=(enc e).map .d
def arrE{α:Type}(enc:α->List D)(sz:Nat)(L:List α):Ob:=.arr sz (L.map (rowE enc))
section
variable{α:Type}{enc:α->List D}{sz:Nat}
def V9(hsz:∀x,(enc x).length=sz)(x:α):(rowE enc x).length=sz:=by simp[rowE,hsz]
def Qeb(x:α):(∀u,u∈rowE enc x->u.flat=true)=True:=eq_true λu hu=>by obtain⟨d,-,rfl⟩:=Q3c.1 hu;rfl
def Wn(n:Nat)(L:List α):(arrE enc sz L).clr n=arrE enc sz L:=by simp only[arrE,Ob.clr,Q5c];congr 1;refine Q41 λx _=>?_;simp[rowE,A.clr0]
def Qlr{β:Type}:∀(cs pre r:List β),r.length=cs.length->setL (pre++r) pre.length cs=pre++cs
 |[],pre,r,h=>by have:r=[]:=Q2b (by simpa using h);subst this;rfl
 |x::cs,pre,[],h=>by simp at h
 |x::cs,pre,y::r,h=>by
  rw[setL];have h1:(pre++y::r).set pre.length x=(pre++[x])++r:=by simp
  rw[h1];have:=Qlr cs (pre++[x]) r (by simpa using h);simp only[Q2l,Q3v]at this;rw[this];simp
def Yt{H:Hp}{i n:Nat}{L:List α}(hi:H[i]?=some (arrE enc sz L)){k:Nat}{q:Int}(hq:q=k)(hk:k<n):
 W4 H sz (.msl i 0 n) (.d (.int .i64 q))=some (.aptr i k 0):=by
 subst hq;simp only[W4,hi,arrE];rw[if_pos ⟨trivial,by omega,by omega⟩];simp
def Qab(hsz:∀x,(enc x).length=sz){H:Hp}{i:Nat}{L:List α}(hi:H[i]?=some (arrE enc sz L)){k:Nat}{e:α}(hk:L[k]?=some e):ldA H sz (.aptr i k 0)=some (rowE enc e):=by simp only[ldA,hi,arrE,Q2d,hk,Q3q,cutL,V9 hsz];rw[if_pos (by omega)];simp[<-V9 hsz e]
def Qf1(hsz:∀x,(enc x).length=sz){H:Hp}{i:Nat}{L:List α}(hi:H[i]?=some (arrE enc sz L)){k:Nat}{e:α}(hk:k<L.length):stA H (rowE enc e) (.aptr i k 0)=some (H.set i (arrE enc sz (L.set k e))):=by
 have h1:(L.map (rowE enc))[k]?=some (rowE enc L[k]):=by simp[hk]
 simp only[stA,hi,arrE,h1,V9 hsz];rw[if_pos (by omega)];have:=Qlr (rowE enc e) [] (rowE enc L[k]) (by simp[V9 hsz]);simp only[Q2u,Q3b]at this;rw[this,Q5w]
end
def Hp.cut_set(n i:Nat)(H:Hp)(x:Ob):Hp.cut n (H.set i x)=(Hp.cut n H).set i (x.clr n):=by simp only[Hp.cut,List.take_set,Q5w]
def Qa9{α:Type}{L u v:List α}{e:α}{k:Nat}(h:L=u++e::v)(hk:k=u.length):L[k]?=some e:=by subst h;subst hk;simp
def Qcq{α:Type}{L u v:List α}{e e':α}{k:Nat}(h:L=u++e::v)(hk:k=u.length):L.set k e'=u++e'::v:=by subst h;subst hk;simp
def Vm(m:Nat)(x:D):(A.d x).clr m=.d x:=by simp
def W6{i m:Nat}(h:i<m)(a b:Nat):(A.msl i a b).clr m=.msl i a b:=by simp[h]
def Qcb{α:Type}{l:List α}{i:Nat}{x:α}(h:l[i]?=some x):l.set i x=l:=by obtain⟨h1,h2⟩:=Q11.1 h;subst h2;simp
section
variable{P:Program}{α:Type}{enc:α->List D}{sz:Nat}
def Qbt(hsz:∀x,(enc x).length=sz){f:FuncId}{fn:Func}(hf:P.funcs[f]?=some fn)(hcf:Qn P [] fn=some (Y4 sz)){H:Hp}{i:Nat}{g:A}{L p x r y q:List α}{a b n:Int}(hL:L=p++(x++(r++(y++q))))(hxy:x.length=y.length)(ha:a=p.length)(hb:b=p.length+x.length+r.length)(hn:n=x.length)(hi:H[i]?=some (arrE enc sz L))(hbd:L.length<=1099511627776):
 Qc P f [.msl i 0 L.length,.d (.int .i64 a),.d (.int .i64 b),.d (.int .i64 n),g] H (λr' H'=>r'=.tup []/\H'=H.set i (arrE enc sz (p++(y++(r++(x++q)))))):=by
 have hil:i<H.length:=(Q11.1 hi).1;have hgs:∀X:Ob,(H.set i X)[i]?=some X:=λX=>Q17 hil;have hLl:p.length+x.length+r.length+y.length+q.length=L.length:=by rw[hL];simp;omega
 refine Qy hf hcf (by simp[Y4]) λO _=>?_;simp[Y4];refine Wy H.length (λfr H'=>∃x1 x2 y1 y2 M,∃k:Nat,M=p++((y1++x2)++(r++((x1++y2)++q)))/\x=x1++x2/\y=y1++y2/\x1.length=k/\y1.length=k/\
  fr 0=.msl i 0 L.length/\fr 1=.d (.int .i64 a)/\fr 2=.d (.int .i64 b)/\fr 3=.d (.int .i64 n)/\fr 10=.d (.int .i64 (k:Int))/\H'=H.set i (arrE enc sz M))
  (λfr H'=>match fr 10 with|.d (.int _ k)=>(n-k).toNat|_=>0) (by simp) ?_ ?_
 .refine⟨[],x,[],y,L,0,by simpa using hL,?_⟩;simp[Qb O,Qcb hi,hil]
 rintro fr H' ⟨x1,x2,y1,y2,M,k,hM,hx,hy,hx1,hy1,f0,f1,f2,f3,f10,rfl⟩;simp[f3,f10];refine Qh (λh=>?_) (λh=>?_)
 .simp only[decide_eq_true_eq]at h;have hxl:x.length=x1.length+x2.length:=by rw[hx];simp
  have hyl:y.length=y1.length+y2.length:=by rw[hy];simp
  obtain⟨e,x2,rfl⟩:∃e r,x2=e::r:=by
   cases x2 with
   |nil=>simp at hxl;omega
   |cons e r=>exact⟨e,r,rfl⟩
  obtain⟨d,y2,rfl⟩:∃e r,y2=e::r:=by
   cases y2 with
   |nil=>simp at hyl;omega
   |cons e r=>exact⟨e,r,rfl⟩
  simp only[Q2i]at hxl hyl;have w1:IntKind.i64.wrap (a+k)=a+k:=wi64 (by omega);have w2:IntKind.i64.wrap (b+k)=b+k:=wi64 (by omega);have hw:IntKind.i64.wrap ((k:Int)+1)=k+1:=wi64 (by omega);have hMl:M.length=L.length:=by rw[hM];simp;omega
  have m1:M=(p++y1)++e::(x2++(r++((x1++d::y2)++q))):=by rw[hM];simp
  have m2:M=(p++(y1++e::x2)++r++x1)++d::(y2++q):=by rw[hM];simp
  have g1:=Qa9 (k:=p.length+k) m1 (by simp;omega);have g2:=Qa9 (k:=p.length+x.length+r.length+k) m2 (by simp;omega);have s1:=Qcq (e':=d) (k:=p.length+k) m1 (by simp;omega);have m3:M.set (p.length+k) d=(p++(y1++d::x2)++r++x1)++d::(y2++q):=by rw[s1];simp
  have s2:=Qcq (e':=e) (k:=p.length+x.length+r.length+k) m3 (by simp;omega);have i1:∀M':List α,W4 (H.set i (arrE enc sz M')) sz (.msl i 0 L.length) (.d (.int .i64 (a+k)))=some (.aptr i (p.length+k) 0):=λM'=>Yt (hgs _) (by omega) (by omega);have i2:∀M':List α,W4 (H.set i (arrE enc sz M')) sz (.msl i 0 L.length) (.d (.int .i64 (b+k)))=some (.aptr i (p.length+x.length+r.length+k) 0):=λM'=>Yt (hgs _) (by omega) (by omega);have l1:=Qab hsz (hgs (arrE enc sz M)) g1;have l2:=Qab hsz (hgs (arrE enc sz M)) g2;have t1:=Qf1 hsz (hgs (arrE enc sz M)) (k:=p.length+k) (e:=d) (by omega);have t2:=Qf1 hsz (hgs (arrE enc sz (M.set (p.length+k) d))) (k:=p.length+x.length+r.length+k) (e:=e) (by simp;omega);rw[Q32]at t1 t2;rw[s2]at t2;have hE:∀z:α,(rowE enc z).length=sz:=V9 hsz;have hF:∀z:α,(∀u,u∈rowE enc z->u.flat=true)=True:=Qeb;simp[f0,f1,f2,f3,f10,w1,w2,i1,i2,l1,l2,t1,t2,hE,hF,-W4,-ldA,-stA,-A.flat];simp[f10,hw];refine Wf (m:=H.length) (by simp) ⟨x1++[e],x2,y1++[d],y2,p++(y1++d::x2)++r++x1++e::(y2++q),k+1,by simp,by simpa using hx,by simpa using hy,by simp[hx1],by simp[hy1],?_⟩ ?_
  .simp[f0,f1,f2,f3,f10,Hp.cut_set,Qb O,Wn,hil,-Ob.clr]
  .simp;omega
 .simp only[decide_eq_false_iff_not]at h;have hx2:x2=[]:=by have:=congrArg List.length hx;simp at this;exact Q2b (by omega)
  have hy2:y2=[]:=by have:=congrArg List.length hy;simp at this;exact Q2b (by omega)
  subst hx2;subst hy2;simp only[Q2k]at hx hy;subst hx;subst hy;simp[RetK,Hp.cut_set,Qb O,Wn,hM,-Ob.clr]
def Qoq(hsz:∀x,(enc x).length=sz){f f2:FuncId}{fn fn2:Func}(hf:P.funcs[f]?=some fn)(hcf:Qn P [] fn=some (Z2 f2))(hf2:P.funcs[f2]?=some fn2)(hcf2:Qn P [] fn2=some (Y4 sz)){H:Hp}{i:Nat}{g:A}(hg:∀m,H.length<=m->g.clr m=g){L p x y q:List α}{a m b:Int}(hL:L=p++(x++(y++q)))(hx0:0<x.length)(hy0:0<y.length)(ha:a=p.length)(hm:m=p.length+x.length)(hb:b=p.length+x.length+y.length)(hi:H[i]?=some (arrE enc sz L))(hbd:L.length<=1099511627776):
 Qc P f [.msl i 0 L.length,.d (.int .i64 a),.d (.int .i64 m),.d (.int .i64 b),g] H (λr' H'=>r'=.tup []/\H'=H.set i (arrE enc sz (p++(y++(x++q))))):=by
 have hil:i<H.length:=(Q11.1 hi).1;have hgs:∀X:Ob,(H.set i X)[i]?=some X:=λX=>Q17 hil;have hLl:p.length+x.length+y.length+q.length=L.length:=by rw[hL];simp;omega
 have w1:IntKind.i64.wrap (m-a)=m-a:=wi64 (by omega);have w2:IntKind.i64.wrap (b-m)=b-m:=wi64 (by omega);refine Qy hf hcf (by simp[Z2]) λO _=>?_;simp[Z2,w1,w2];refine Wy H.length (λfr H'=>∃p' x' y' q' M,M=p'++(x'++(y'++q'))/\p'++(y'++(x'++q'))=p++(y++(x++q))/\M.length=L.length/\(p'.length:Int)+x'.length=m/\0<x'.length/\0<y'.length/\
  fr 0=.msl i 0 L.length/\fr 2=.d (.int .i64 m)/\fr 4=g/\fr 10=.d (.int .i64 (x'.length:Int))/\fr 11=.d (.int .i64 (y'.length:Int))/\H'=H.set i (arrE enc sz M))
  (λfr H'=>match fr 10,fr 11 with|.d (.int _ k),.d (.int _ l)=>(k+l).toNat|_,_=>0) (by simp) ?_ ?_
 .refine⟨p,x,y,q,L,hL,rfl,rfl,by omega,hx0,hy0,?_⟩;simp[Qb O,Qcb hi,hil,hg,w1,w2,Vm,W6 hil,-A.clr];omega
 rintro fr H' ⟨p',x',y',q',M,hM,he,hMl,hpx,hx1,hy1,f0,f2,f4,f10,f11,rfl⟩;have hMl2:p'.length+x'.length+y'.length+q'.length=L.length:=by rw[<-hMl,hM];simp;omega
 have v1:IntKind.i64.wrap (m-x'.length)=m-x'.length:=wi64 (by omega);have v2:IntKind.i64.wrap (m+y'.length)=m+y'.length:=wi64 (by omega);have v3:IntKind.i64.wrap (m+y'.length-x'.length)=m+y'.length-x'.length:=wi64 (by omega);have v4:IntKind.i64.wrap ((x'.length:Int)-y'.length)=x'.length-y'.length:=wi64 (by omega);have v5:IntKind.i64.wrap ((y'.length:Int)-x'.length)=y'.length-x'.length:=wi64 (by omega);simp[f10,f11];refine Qh (λh=>?_) (λh=>?_)
 .have hne:x'.length≠y'.length:=by simp at h;omega
  simp[f0,f2,f4,f10,f11];refine Qh (λh2=>?_) (λh2=>?_)
  .have h2:y'.length<x'.length:=by simpa using h2
   obtain⟨u,v,hx',hu⟩:∃u v,x'=u++v/\u.length=y'.length:=⟨x'.take y'.length,x'.drop y'.length,by simp,by simp;omega⟩;have hl':x'.length=u.length+v.length:=by rw[hx'];simp
   have hsw:=Qbt hsz hf2 hcf2 (H:=H.set i (arrE enc sz M)) (i:=i) (g:=g) (L:=M) (p:=p') (x:=u) (r:=v) (y:=y') (q:=q') (a:=m-x'.length) (b:=m) (n:=y'.length)
    (by rw[hM,hx'];simp) hu (by omega) (by omega) (by omega) (hgs _) (by omega)
   rw[hMl,Q32]at hsw;simp[f0,f2,f4,f10,f11,v1];refine Qa hsw ?_;simp[f10,f11,v4];have hv:((x'.length:Int)-y'.length)=v.length:=by omega
   refine Wf (m:=H.length) (by simp) ⟨p'++y',v,u,q',p'++(y'++(v++(u++q'))),by simp,?_,?_,?_,by omega,by omega,?_⟩ ?_
   .rw[<-he,hx'];simp
   .simp;omega
   .simp;omega
   .simp[f0,f2,f4,f10,f11,hg,Hp.cut_set,Qb O,Wn,hv,hu,Vm,W6 hil,-Ob.clr,-A.clr]
   .simp[f11];omega
  .have h2:x'.length<y'.length:=by simp at h2;omega
   obtain⟨u,v,hy',hv⟩:∃u v,y'=u++v/\v.length=x'.length:=⟨y'.take (y'.length-x'.length),y'.drop (y'.length-x'.length),by simp,by simp;omega⟩;have hl':y'.length=u.length+v.length:=by rw[hy'];simp
   have hsw:=Qbt hsz hf2 hcf2 (H:=H.set i (arrE enc sz M)) (i:=i) (g:=g) (L:=M) (p:=p') (x:=x') (r:=u) (y:=v) (q:=q') (a:=m-x'.length) (b:=m+y'.length-x'.length) (n:=x'.length)
    (by rw[hM,hy'];simp) hv.symm (by omega) (by omega) rfl (hgs _) (by omega)
   rw[hMl,Q32]at hsw;simp[f0,f2,f4,f10,f11,v1,v2,v3];refine Qa hsw ?_;simp[f10,f11,v5];have hu:((y'.length:Int)-x'.length)=u.length:=by omega
   refine Wf (m:=H.length) (by simp) ⟨p',v,u,x'++q',p'++(v++(u++(x'++q'))),by simp,?_,?_,?_,by omega,by omega,?_⟩ ?_
   .rw[<-he,hy'];simp
   .simp;omega
   .omega
   .simp[f0,f2,f4,f10,f11,hg,Hp.cut_set,Qb O,Wn,hu,hv,Vm,W6 hil,-Ob.clr,-A.clr]
   .simp[f10];omega
 .have heq:x'.length=y'.length:=by simp at h;omega
  have hsw:=Qbt hsz hf2 hcf2 (H:=H.set i (arrE enc sz M)) (i:=i) (g:=g) (L:=M) (p:=p') (x:=x') (r:=[]) (y:=y') (q:=q') (a:=m-x'.length) (b:=m) (n:=x'.length)
   (by rw[hM];simp) heq (by omega) (by simp;omega) rfl (hgs _) (by omega)
  rw[hMl,Q32]at hsw;simp[f0,f2,f4,f10,f11,v1];refine Qa hsw ?_;simp[RetK,Hp.cut_set,Qb O,Wn,he,-Ob.clr]
end
end
section
def CmpA{α:Type}(P:Program)(enc:α->List D)(c:α->α->Int)(g:A):Prop:=∀(H:Hp)(x y:α)(Q:A->Hp->Prop)(t:Tag Q),Q (.d (.int .i64 (c x y))) H->ValD Q t P [.agg (rowE enc x),.agg (rowE enc y)] H g
section
variable{P:Program}{α:Type}{enc:α->List D}{sz:Nat}{c:α->α->Int}
def Qko(hsz:∀x,(enc x).length=sz)(hc:Cmp c){f:FuncId}{fn:Func}(hf:P.funcs[f]?=some fn)(hcf:Qn P [] fn=some (Vg sz)){H:Hp}{i:Nat}{g:A}(hg:∀m,H.length<=m->g.clr m=g)(hcmp:CmpA P enc c g){L p s q:List α}{a b:Int}(hL:L=p++(s++q))(ha:a=p.length)(hb:b=p.length+s.length)(hi:H[i]?=some (arrE enc sz L))(hbd:L.length<=1099511627776):
 Qc P f [.msl i 0 L.length,.d (.int .i64 a),.d (.int .i64 b),g] H (λr' H'=>r'=.tup []/\H'=H.set i (arrE enc sz (p++(ssort c s++q)))):=by
 have hil:i<H.length:=(Q11.1 hi).1;have hgs:∀X:Ob,(H.set i X)[i]?=some X:=λX=>Q17 hil;have hLl:p.length+s.length+q.length=L.length:=by rw[hL];simp;omega
 have wa:IntKind.i64.wrap (a+1)=a+1:=wi64 (by omega);have hE:∀z:α,(rowE enc z).length=sz:=V9 hsz;have hF:∀z:α,(∀u,u∈rowE enc z->u.flat=true)=True:=Qeb;refine Qy hf hcf (by simp[Vg]) λO _=>?_;simp[Vg,wa];refine Wy H.length (λfr H'=>∃done todo M,∃k:Nat,s=done++todo/\done.length=min (k+1) s.length/\M=p++(ssort c done++(todo++q))/\
  fr 0=.msl i 0 L.length/\fr 1=.d (.int .i64 a)/\fr 2=.d (.int .i64 b)/\fr 3=g/\fr 8=.d (.int .i64 (a+1+k))/\H'=H.set i (arrE enc sz M))
  (λfr H'=>match fr 8 with|.d (.int _ k)=>(b-k).toNat|_=>0) (by simp) ?_ ?_
 .refine⟨s.take 1,s.drop 1,L,0,(Q2x 1 s).symm,by simp,?_,?_⟩
  .have:ssort c (s.take 1)=s.take 1:=Qai hc (by cases s<;>simp[Sorted]);rw[this,hL]
   congr 1;rw[<-Q2g,Q2x]
  .simp[Qb O,Qcb hi,hil,hg,wa,Vm,W6 hil,-A.clr]
 rintro fr H' ⟨done,todo,M,k,hs,hd,hM,f0,f1,f2,f3,f8,rfl⟩;simp[f2,f8];refine Qh (λh=>?_) (λh=>?_)
 .simp only[decide_eq_true_eq]at h;have hsl:s.length=done.length+todo.length:=by rw[hs];simp
  obtain⟨x,todo,rfl⟩:∃e r,todo=e::r:=by
   cases todo with
   |nil=>simp at hsl;omega
   |cons e r=>exact⟨e,r,rfl⟩
  simp only[Q2i]at hsl;have hdk:done.length=k+1:=by omega
  have hdl:=Ww hc done;simp[f0,f1,f2,f3,f8];refine Wy H.length (λfr H'=>∃u v M,∃j:Nat,ssort c done=u++v/\(∀y∈v,c x y<0)/\M=p++(u++x::(v++(todo++q)))/\j=p.length+u.length/\
   fr 0=.msl i 0 L.length/\fr 1=.d (.int .i64 a)/\fr 2=.d (.int .i64 b)/\fr 3=g/\fr 8=.d (.int .i64 (a+1+k))/\fr 9=.d (.int .i64 (j:Int))/\H'=H.set i (arrE enc sz M))
   (λfr H'=>match fr 9 with|.d (.int _ k)=>k.toNat|_=>0) (by simp) ?_ ?_
  .refine⟨ssort c done,[],M,p.length+(ssort c done).length,by simp,by simp,by simpa using hM,rfl,?_⟩;simp[f0,f1,f2,f3,f8,Hp.cut_set,Qb O,hil,hg,Wn,Vm,W6 hil,-A.clr,-Ob.clr];omega
  have f8o:=f8;clear hM f0 f1 f2 f3 f8;rintro fr H' ⟨u,v,M,j,huv,hv,hM,hj,f0,f1,f2,f3,f8,f9,rfl⟩;have huvl:u.length+v.length=k+1:=by rw[<-hdk,<-hdl,huv];simp
  have hMl:M.length=L.length:=by rw[hM];simp;omega
  have fin:(∀y∈u,c y x<=0)->ssort c (done++[x])=u++x::v:=λhu=>by have h1:Alk c (done++[x]) (ssort c done++[x]):=(Wi hc done).2.append (Alk.refl _);rw[<-Qi6 hc h1,huv];exact Qd9 hc (by rw[<-huv];exact(Wi hc done).1) hu hv
  have hsd:Sorted c (u++v):=by rw[<-huv];exact(Wi hc done).1
  have w8:IntKind.i64.wrap (a+1+k+1)=a+1+k+1:=wi64 (by omega);simp[f0,f1,f9];refine Qj0 (by simp) (λh1=>?_) (λh1=>?_)
  .have h1:a<(j:Int):=by simpa using h1
   obtain⟨u,y,rfl⟩:∃u' y,u=u'++[y]:=by
    rcases Q4i u with h0|⟨u',y,h0⟩
    .subst h0;simp at hj;omega
    .exact⟨u',y,by simpa using h0⟩
   simp only[Q2l,Q3v]at hj huvl;have w1:IntKind.i64.wrap ((j:Int)-1)=j-1:=wi64 (by omega);have m1:M=(p++u)++y::(x::(v++(todo++q))):=by rw[hM];simp
   have m2:M=(p++u++[y])++x::(v++(todo++q)):=by rw[hM];simp
   have g1:=Qa9 (k:=j-1) m1 (by simp;omega);have g2:=Qa9 (k:=j) m2 (by simp;omega);have i1:∀M':List α,W4 (H.set i (arrE enc sz M')) sz (.msl i 0 L.length) (.d (.int .i64 (j-1)))=some (.aptr i (j-1) 0):=λM'=>Yt (hgs _) (by omega) (by omega);have i2:∀M':List α,W4 (H.set i (arrE enc sz M')) sz (.msl i 0 L.length) (.d (.int .i64 j))=some (.aptr i j 0):=λM'=>Yt (hgs _) (by omega) (by omega);have l1:=Qab hsz (hgs (arrE enc sz M)) g1;have l2:=Qab hsz (hgs (arrE enc sz M)) g2;have t1:=Qf1 hsz (hgs (arrE enc sz M)) (k:=j) (e:=y) (by omega);have t2:=Qf1 hsz (hgs (arrE enc sz (M.set j y))) (k:=j-1) (e:=x) (by simp;omega);have s1:=Qcq (e':=y) (k:=j) m2 (by simp;omega);have m3:M.set j y=(p++u)++y::(y::(v++(todo++q))):=by rw[s1];simp
   have s2:=Qcq (e':=x) (k:=j-1) m3 (by simp;omega);rw[Q32]at t1 t2;rw[s2]at t2;simp[f0,f1,f3,f9,w1,h1,i1,i2,l1,l2,-W4,-ldA,-stA];refine hcmp _ x y _ _ ?_;simp[f0,f1,f3,f9,h1];refine Qh (λh2=>?_) (λh2=>?_)
   .have h2:c x y<0:=by simpa using h2
    simp[f0,f1,f3,f9,w1,h1,i1,i2,l1,l2,t1,t2,hE,hF,-W4,-ldA,-stA,-A.flat];have hj1:((j:Int)-1)=(j-1:Nat):=by omega
    refine Wf (m:=H.length) (by simp) ⟨u,y::v,p++u++x::(y::(v++(todo++q))),j-1,by rw[huv];simp,?_,by simp,by omega,?_⟩ ?_
    .intro z hz;rcases Q2v.1 hz with h3|h3
     .subst h3;exact h2
     .exact hv z h3
    .simp[f0,f1,f2,f3,f8,f9,hj1,Hp.cut_set,Qb O,hil,hg,Wn,Vm,W6 hil,-A.clr,-Ob.clr]
    .simp[f9];omega
   .have h2:¬c x y<0:=by simpa using h2
    have hu:∀z∈u++[y],c z x<=0:=λz hz=>by
     have h3:c y x<=0:=hc.not_lt.1 h2;rcases Q2r.1 hz with h4|h4
     .have:=(Sorted.append.1 (Sorted.append.1 hsd).1).2.2 z h4 y (by simp);exact hc.trans _ _ _ this h3
     .simp only[Q3t]at h4;subst h4;exact h3
    simp[f8,w8];refine Wf (m:=H.length) (by simp) ⟨done++[x],todo,M,k+1,by simpa using hs,by simp;omega,?_,?_⟩ ?_
    .rw[hM,fin hu];simp
    .simp[f0,f1,f2,f3,f8,f9,Hp.cut_set,Qb O,hil,hg,Wn,Vm,W6 hil,-A.clr,-Ob.clr];omega
    .simp[f8o];omega
  .have h1:¬a<(j:Int):=by simpa using h1
   obtain rfl:u=[]:=Q2b (by omega);simp[h1,f8,w8];refine Wf (m:=H.length) (by simp) ⟨done++[x],todo,M,k+1,by simpa using hs,by simp;omega,?_,?_⟩ ?_
   .rw[hM,fin (by simp)];simp
   .simp[f0,f1,f2,f3,f8,f9,Hp.cut_set,Qb O,hil,hg,Wn,Vm,W6 hil,-A.clr,-Ob.clr];omega
   .simp[f8o];omega
 .simp only[decide_eq_false_iff_not]at h;obtain rfl:todo=[]:=by have:=congrArg List.length hs;simp at this;exact Q2b (by omega)
  simp only[Q2k]at hs;subst hs;simp[RetK,Hp.cut_set,Qb O,Wn,hM,-Ob.clr]
end
end
section
def Qhn(n:Int):shOp .shr .u64 n 1=some (.int .u64 (n.fdiv 2)):=by simp[shOp,IntKind.bits]
def Qir{n:Int}(h0:0<=n)(h1:n<=4611686018427387904):IntKind.i64.wrap (Int.fdiv (IntKind.u64.wrap n) 2)=n/2:=by rw[wrap_u64 h0 (by omega),Int.fdiv_eq_ediv_of_nonneg n (by omega),wi64 (by omega)]
def Qgx{P:Program}{n0:Nat}{A B:C}{Q:Ex->Fr->Hp->Prop}{fr:Fr}{H:Hp}(Q1:Fr->Hp->Prop)(h1:AWp P n0 A (λe fr H=>e=.normal/\Q1 fr H) fr H)(h2:∀fr H,Q1 fr H->AWp P n0 B Q fr H):
 AWp P n0 (.seq A B) Q fr H:=by
 rw[Qld];refine AWp.mono A (λe fr H h=>?_) fr H h1;obtain⟨rfl,h⟩:=h;exact h2 fr H h
section
variable{P:Program}{α:Type}{enc:α->List D}{sz:Nat}{c:α->α->Int}
def Yx(hc:Cmp c){x:List α}(s:Sorted c x){i j:Nat}{u v:α}(hi:x[i]?=some u)(hj:x[j]?=some v)(hij:i<=j):c u v<=0:=by
 by_cases h:i=j
 .subst h;rw[hi]at hj;cases hj;rw[hc.refl];exact Q16 0
 .obtain⟨h1,rfl⟩:=Q11.1 hi;obtain⟨h2,rfl⟩:=Q11.1 hj;exact Q5y.1 s i j h1 h2 (by omega)
def Qt5(P:Program)(enc:α->List D)(sz:Nat)(c:α->α->Int)(f:FuncId)(g:A)(n N:Nat):Prop:=
 ∀(H:Hp)(i:Nat)(L p x y q:List α)(a m b:Int),(∀k,N<=k->g.clr k=g)->N<=H.length->x.length+y.length<=n->0<x.length->0<y.length->Sorted c x->Sorted c y->L=p++(x++(y++q))->a=p.length->m=p.length+x.length->b=p.length+x.length+y.length->
  H[i]?=some (arrE enc sz L)->L.length<=1099511627776->
  Qc P f [.msl i 0 L.length,.d (.int .i64 a),.d (.int .i64 m),.d (.int .i64 b),g] H (λr' H'=>r'=.tup []/\H'=H.set i (arrE enc sz (p++(ssort c (x++y)++q))))
def Quo(hsz:∀x,(enc x).length=sz)(hc:Cmp c){f f2 f3:FuncId}{fn2 fn3:Func}(hf2:P.funcs[f2]?=some fn2)(hcf2:Qn P [] fn2=some (Z2 f3))(hf3:P.funcs[f3]?=some fn3)(hcf3:Qn P [] fn3=some (Y4 sz)){g:A}{n N:Nat}(ih:Qt5 P enc sz c f g n N){H:Hp}{i:Nat}{L p x1 x2 y1 y2 q:List α}{a m b h s:Int}{fr:Fr}(O:H.Closed)(hg0:∀k,N<=k->g.clr k=g)(hN:N<=H.length)(hn:x1.length+x2.length+(y1.length+y2.length)<=n+1)(hx0:0<x1.length+x2.length)(hy0:0<y1.length+y2.length)(sx:Sorted c (x1++x2))(sy:Sorted c (y1++y2))(hL:L=p++(x1++(x2++(y1++(y2++q)))))(ha:a=p.length)(hm:m=p.length+x1.length+x2.length)(hb:b=p.length+x1.length+x2.length+y1.length+y2.length)(hs:s=x1.length)(hh:h=x1.length+y1.length)(hhalf:h=(b-a)/2)(h1:∀u∈x2,∀v∈y1,c v u<0)(h2:∀u∈x1,∀v∈y2,c u v<=0)(hi:H[i]?=some (arrE enc sz L))(hbd:L.length<=1099511627776)(f0:fr 0=.msl i 0 L.length)(f1:fr 1=.d (.int .i64 a))(f2':fr 2=.d (.int .i64 m))(f3':fr 3=.d (.int .i64 b))(f4:fr 4=g)(f18:fr 18=.d (.int .i64 (a+h)))(f19:fr 19=.d (.int .i64 (a+h+m)))(f20:fr 20=.d (.int .i64 (a+s))):
 AWp P H.length (Qok f2 f) (Fin [] H.length λr' H'=>r'=.tup []/\H'=H.set i (arrE enc sz (p++(ssort c ((x1++x2)++(y1++y2))++q)))) fr H:=by
 have hil:i<H.length:=(Q11.1 hi).1;have hgs:∀X:Ob,(H.set i X)[i]?=some X:=λX=>Q17 hil;have hLl:p.length+x1.length+x2.length+y1.length+y2.length+q.length=L.length:=by rw[hL];simp;omega
 have v1:IntKind.i64.wrap (a+h+m-(a+s))=m+y1.length:=by rw[wi64 (by omega)];omega
 have hhal:=Qon hc sx sy h1 h2;unfold Qok;refine Qgx (λfr H'=>H'=H/\fr 0=.msl i 0 L.length/\fr 1=.d (.int .i64 a)/\fr 2=.d (.int .i64 m)/\fr 3=.d (.int .i64 b)/\fr 4=g/\fr 18=.d (.int .i64 (a+h))/\fr 20=.d (.int .i64 (a+s))/\fr 24=.d (.int .i64 (m+y1.length))) ?_ ?_
 .simp[f0,f1,f2',f3',f4,f18,f19,f20,v1]
 clear f0 f1 f2' f3' f4 f18 f19 f20;rintro fr H1 ⟨hH1,f0,f1,f2',f3',f4,f18,f20,f24⟩;rw[hH1];refine Qgx (λfr H'=>H'=H.set i (arrE enc sz (p++(x1++(y1++(x2++(y2++q))))))/\fr 0=.msl i 0 L.length/\fr 1=.d (.int .i64 a)/\fr 2=.d (.int .i64 m)/\fr 3=.d (.int .i64 b)/\fr 4=g/\fr 18=.d (.int .i64 (a+h))/\fr 20=.d (.int .i64 (a+s))/\fr 24=.d (.int .i64 (m+y1.length))) ?_ ?_
 .by_cases hr:0<x2.length/\0<y1.length
  .have c1:a+s<m:=by omega
   have c2:m<m+(y1.length:Int):=by omega
   have hrot:=Qoq hsz hf2 hcf2 hf3 hcf3 (H:=H) (i:=i) (g:=g) (λk hk=>hg0 k (by omega)) (L:=L) (p:=p++x1) (x:=x2) (y:=y1) (q:=y2++q) (a:=a+s) (m:=m) (b:=m+y1.length) (by rw[hL];simp) hr.1 hr.2 (by simp;omega) (by simp;omega) (by simp;omega) hi hbd;simp only[Q2g]at hrot;simp[f0,f1,f2',f3',f4,f18,f20,f24,c1,c2];refine Qa hrot ?_;simp[f0,f1,f2',f3',f4,f18,f20,f24]
  .have hLe:L=p++(x1++(y1++(x2++(y2++q)))):=by
    by_cases hx2:x2=[]
    .rw[hL,hx2];simp
    .have:y1=[]:=by have h3:=Q3g.2 hx2;exact Q2b (by omega)
     rw[hL,this];simp
   rw[<-hLe,Qcb hi];by_cases hx2:0<x2.length
   .have c1:a+s<m:=by omega
    have c2:¬m<m+(y1.length:Int):=by omega
    simp[f0,f1,f2',f3',f4,f18,f20,f24,c1,c2]
   .have c1:¬a+s<m:=by omega
    simp[f0,f1,f2',f3',f4,f18,f20,f24,c1]
 clear f0 f1 f2' f3' f4 f18 f20 f24;rintro fr H1 ⟨hH1,f0,f1,f2',f3',f4,f18,f20,f24⟩;rw[hH1];refine Qgx (λfr H'=>H'=H.set i (arrE enc sz (p++(ssort c (x1++y1)++(x2++(y2++q)))))/\fr 0=.msl i 0 L.length/\fr 3=.d (.int .i64 b)/\fr 4=g/\fr 18=.d (.int .i64 (a+h))/\fr 24=.d (.int .i64 (m+y1.length))) ?_ ?_
 .by_cases hr:0<x1.length/\0<y1.length
  .have c1:a<a+s:=by omega
   have c2:a+s<a+h:=by omega
   have hsym:=ih (H.set i (arrE enc sz (p++(x1++(y1++(x2++(y2++q))))))) i (p++(x1++(y1++(x2++(y2++q))))) p x1 y1 (x2++(y2++q)) a (a+s) (a+h) hg0 (by simpa using hN) (by omega) hr.1 hr.2 (Sorted.append.1 sx).1 (Sorted.append.1 sy).1 (by simp) (by omega) (by omega) (by omega) (hgs _) (by simp;omega);have hln:(p++(x1++(y1++(x2++(y2++q))))).length=L.length:=by simp;omega
   rw[hln,Q32]at hsym;simp[f0,f1,f3',f4,f18,f20,f24,c1,c2];refine Qa hsym ?_;simp[f0,f1,f3',f4,f18,f20,f24]
  .have hLe:ssort c (x1++y1)=x1++y1:=by
    by_cases hx1:x1=[]
    .subst hx1;simpa using Qai hc (Sorted.append.1 sy).1
    .have:y1=[]:=by have h3:=Q3g.2 hx1;exact Q2b (by omega)
     subst this;simpa using Qai hc (Sorted.append.1 sx).1
   rw[hLe];by_cases hx1:0<x1.length
   .have c1:a<a+s:=by omega
    have c2:¬a+s<a+h:=by omega
    simp[f0,f1,f3',f4,f18,f20,f24,c1,c2]
   .have c1:¬a<a+s:=by omega
    simp[f0,f1,f3',f4,f18,f20,f24,c1]
 clear f0 f1 f2' f3' f4 f18 f20 f24;rintro fr H1 ⟨hH1,f0,f3',f4,f18,f24⟩;rw[hH1];rw[hhal];have hsl:=Ww hc (x1++y1);by_cases hr:0<x2.length/\0<y2.length
 .have c1:a+h<m+(y1.length:Int):=by omega
  have c2:m+(y1.length:Int)<b:=by omega
  have hsym:=ih (H.set i (arrE enc sz (p++(ssort c (x1++y1)++(x2++(y2++q)))))) i (p++(ssort c (x1++y1)++(x2++(y2++q)))) (p++ssort c (x1++y1)) x2 y2 q (a+h) (m+y1.length) b hg0 (by simpa using hN) (by omega) hr.1 hr.2 (Sorted.append.1 sx).2.1 (Sorted.append.1 sy).2.1 (by simp) (by simp[hsl];omega) (by simp[hsl];omega) (by simp[hsl];omega) (hgs _) (by simp[hsl];omega);have hln:(p++(ssort c (x1++y1)++(x2++(y2++q)))).length=L.length:=by simp[hsl];omega
  rw[hln,Q32]at hsym;simp[f0,f3',f4,f18,f24,c1,c2];refine Qa hsym ?_;simp[RetK,Hp.cut_set,Qb O,Wn,-Ob.clr]
 .have hLe:ssort c (x2++y2)=x2++y2:=by
   by_cases hx2:x2=[]
   .subst hx2;simpa using Qai hc (Sorted.append.1 sy).2.1
   .have:y2=[]:=by have h3:=Q3g.2 hx2;exact Q2b (by omega)
    subst this;simpa using Qai hc (Sorted.append.1 sx).2.1
  rw[hLe];by_cases hx2:0<x2.length
  .have c1:a+h<m+(y1.length:Int):=by omega
   have c2:¬m+(y1.length:Int)<b:=by omega
   simp[f0,f3',f4,f18,f24,c1,c2];simp[RetK,Hp.cut_set,Qb O,Wn,-Ob.clr]
  .have c1:¬a+h<m+(y1.length:Int):=by omega
   simp[f0,f3',f4,f18,f24,c1];simp[RetK,Hp.cut_set,Qb O,Wn,-Ob.clr]
def Qry(hsz:∀x,(enc x).length=sz)(hc:Cmp c){f2 f:FuncId}{g:A}(hcmp:CmpA P enc c g){H:Hp}{i:Nat}{L p x y q:List α}{a m b:Int}{h s0 r0:Nat}{fr:Fr}{Q:Ex->Fr->Hp->Prop}(O:H.Closed)(hg:∀k,H.length<=k->g.clr k=g)(sx:Sorted c x)(sy:Sorted c y)(hL:L=p++(x++(y++q)))(ha:a=p.length)(hm:m=p.length+x.length)(hi:H[i]?=some (arrE enc sz L))(hbd:L.length<=1099511627776)(F1:s0<=r0)(F2:r0<=x.length)(F3:r0<=h)(F4:h<=s0+y.length)(f0:fr 0=.msl i 0 L.length)(f1:fr 1=.d (.int .i64 a))(f2':fr 2=.d (.int .i64 m))(f3':fr 3=.d (.int .i64 b))(f4:fr 4=g)(f18:fr 18=.d (.int .i64 (a+h)))(f19:fr 19=.d (.int .i64 (a+h+m)))(f22:fr 22=.d (.int .i64 (a+h+m-1)))(f20:fr 20=.d (.int .i64 (a+s0)))(f21:fr 21=.d (.int .i64 (a+r0)))(hQ:∀(fr:Fr) (s:Nat),s0<=s->s<=r0->(∀k u v,s0<=k->k<s->x[k]?=some u->y[h-1-k]?=some v->¬c v u<0)->(∀k u v,s<=k->k<r0->x[k]?=some u->y[h-1-k]?=some v->c v u<0)->
 fr 0=.msl i 0 L.length->fr 1=.d (.int .i64 a)->fr 2=.d (.int .i64 m)->fr 3=.d (.int .i64 b)->fr 4=g->fr 18=.d (.int .i64 (a+h))->fr 19=.d (.int .i64 (a+h+m))->fr 20=.d (.int .i64 (a+s))->AWp P H.length (Qok f2 f) Q fr H):
 AWp P H.length (Qkq sz f2 f) Q fr H:=by
 have hil:i<H.length:=(Q11.1 hi).1;have hLl:p.length+x.length+y.length+q.length=L.length:=by rw[hL];simp;omega
 have gx:∀k,k<x.length->L[p.length+k]?=x[k]?:=λk hk=>by rw[hL,Q2j (by omega),Q4a,Q19 hk]
 have gy:∀k,k<y.length->L[p.length+x.length+k]?=y[k]?:=λk hk=>by rw[hL,Q2j (by omega),Q2j (by omega),Q19 (by omega)];congr 1;omega
 unfold Qkq;simp;refine Wy H.length (λfr H'=>∃s r:Nat,s0<=s/\s<=r/\r<=r0/\(∀k u v,s0<=k->k<s->x[k]?=some u->y[h-1-k]?=some v->¬c v u<0)/\(∀k u v,r<=k->k<r0->x[k]?=some u->y[h-1-k]?=some v->c v u<0)/\
  fr 0=.msl i 0 L.length/\fr 1=.d (.int .i64 a)/\fr 2=.d (.int .i64 m)/\fr 3=.d (.int .i64 b)/\fr 4=g/\fr 18=.d (.int .i64 (a+h))/\fr 19=.d (.int .i64 (a+h+m))/\fr 22=.d (.int .i64 (a+h+m-1))/\
  fr 20=.d (.int .i64 (a+s))/\fr 21=.d (.int .i64 (a+r))/\H'=H)
  (λfr H'=>match fr 20,fr 21 with|.d (.int _ k),.d (.int _ l)=>(l-k).toNat|_,_=>0) (by simp) ?_ ?_
 .refine⟨s0,r0,Q14 _,F1,Q14 _,λk u v h1 h2=>by omega,λk u v h1 h2=>by omega,?_⟩;simp[f0,f1,f2',f3',f4,f18,f19,f20,f21,f22,Qb O,hil,hg,Vm,W6 hil,-A.clr]
 clear f0 f1 f2' f3' f4 f18 f19 f20 f21 f22;rintro fr H' ⟨s,r,e1,e2,e3,eA,eB,f0,f1,f2',f3',f4,f18,f19,f22,f20,f21,hH'⟩;rw[hH'];simp[f20,f21];refine Qh (λh4=>?_) (λh4=>?_)
 .have h4:s<r:=by simp at h4;omega
  have v1:IntKind.i64.wrap (a+s+(a+r))=a+s+(a+r):=wi64 (by omega);have v2:=Qir (n:=a+s+(a+r)) (by omega) (by omega);generalize hk:(s+r)/2=k;have hk2:(a+s+(a+r))/2=a+k:=by omega
  rw[hk2]at v2;have v3:IntKind.i64.wrap (a+h+m-1-(a+k))=a+h+m-1-(a+k):=wi64 (by omega);have v4:IntKind.i64.wrap (a+k+1)=a+k+1:=wi64 (by omega);obtain⟨u,hu⟩:∃u,x[k]?=some u:=⟨_,Q12 (by omega)⟩;obtain⟨v,hv⟩:∃v,y[h-1-k]?=some v:=⟨_,Q12 (by omega)⟩;have lu:L[p.length+k]?=some u:=by rw[gx k (by omega)];exact hu
  have lv:L[p.length+x.length+(h-1-k)]?=some v:=by rw[gy _ (by omega)];exact hv
  have i1:W4 H sz (.msl i 0 L.length) (.d (.int .i64 (a+h+m-1-(a+k))))=some (.aptr i (p.length+x.length+(h-1-k)) 0):=Yt hi (by omega) (by omega);have i2:W4 H sz (.msl i 0 L.length) (.d (.int .i64 (a+k)))=some (.aptr i (p.length+k) 0):=Yt hi (by omega) (by omega);have l1:=Qab hsz hi lv;have l2:=Qab hsz hi lu;simp[f0,f4,f20,f21,f22,v1,Qhn,v2,v3,i1,i2,l1,l2,-W4,-ldA,-stA];refine hcmp _ v u _ _ ?_;simp[f0,f4,f20,f21,f22];refine Qh (λh5=>?_) (λh5=>?_)
  .have h5:¬c v u<0:=by simpa using h5
   simp[f0,f4,f20,f21,f22,v4];refine Wf (m:=H.length) (by simp) ⟨k+1,r,by omega,by omega,e3,?_,eB,?_⟩ ?_
   .intro k' u' v' h6 h7 h8 h9 h10;refine h5 (hc.lt_le (hc.le_lt (Yx hc sy hv h9 (by omega)) h10) (Yx hc sx h8 hu (by omega)))
   .simp[f0,f1,f2',f3',f4,f18,f19,f20,f21,f22,Qb O,hil,hg,Vm,W6 hil,-A.clr];omega
   .simp[f21];omega
  .have h5:c v u<0:=by simpa using h5
   simp[f0,f4,f20,f21,f22,v4];refine Wf (m:=H.length) (by simp) ⟨s,k,by omega,by omega,by omega,eA,?_,?_⟩ ?_
   .intro k' u' v' h6 h7 h8 h9;by_cases hkk:k'=k
    .subst hkk;rw[hu]at h8;rw[hv]at h9;cases h8;cases h9;exact h5
    .exact hc.lt_le (hc.le_lt (Yx hc sy h9 hv (by omega)) h5) (Yx hc sx hu h8 (by omega))
   .simp[f0,f1,f2',f3',f4,f18,f19,f20,f21,f22,Qb O,hil,hg,Vm,W6 hil,-A.clr]
   .simp[f20];omega
 .obtain rfl:s=r:=by simp at h4;omega
  simp;exact hQ _ s e1 e3 eA eB (by simp[f0]) (by simp[f1]) (by simp[f2']) (by simp[f3']) (by simp[f4]) (by simp[f18]) (by simp[f19]) (by simp[f20])
def Qyp(hsz:∀x,(enc x).length=sz)(hc:Cmp c){g:A}(hcmp:CmpA P enc c g){H:Hp}{i:Nat}{L p y q:List α}{e:α}{a m b:Int}{fr:Fr}{Q:Ex->Fr->Hp->Prop}(O:H.Closed)(hg:∀k,H.length<=k->g.clr k=g)(sy:Sorted c y)(hL:L=p++(e::(y++q)))(ha:a=p.length)(hm:m=p.length+1)(hb:b=p.length+1+y.length)(hi:H[i]?=some (arrE enc sz L))(hbd:L.length<=1099511627776)(f0:fr 0=.msl i 0 L.length)(f1:fr 1=.d (.int .i64 a))(f2':fr 2=.d (.int .i64 m))(f3':fr 3=.d (.int .i64 b))(f4:fr 4=g)(hQ:∀fr:Fr,Q .ret fr (H.set i (arrE enc sz (p++(ssort c (e::y)++q))))):
 AWp P H.length (symA sz) Q fr H:=by
 have hil:i<H.length:=(Q11.1 hi).1;have hgs:∀X:Ob,(H.set i X)[i]?=some X:=λX=>Q17 hil;have hLl:p.length+1+y.length+q.length=L.length:=by rw[hL];simp;omega
 have hE:∀z:α,(rowE enc z).length=sz:=V9 hsz;have hF:∀z:α,(∀u,u∈rowE enc z->u.flat=true)=True:=Qeb;have ge:L[p.length]?=some e:=Qa9 (by rw[hL]) rfl;have gy:∀k,k<y.length->L[p.length+1+k]?=y[k]?:=λk hk=>by rw[hL,Q2j (by omega),show p.length+1+k-p.length=k+1 by omega,Q4u,Q19 hk]
 unfold symA;simp[f0,f1,f2',f3',f4];refine Wy H.length (λfr H'=>∃s r:Nat,s<=r/\r<=y.length/\(∀k v,k<s->y[k]?=some v->c v e<0)/\(∀k v,r<=k->y[k]?=some v->¬c v e<0)/\
  fr 0=.msl i 0 L.length/\fr 1=.d (.int .i64 a)/\fr 4=g/\
  fr 10=.d (.int .i64 (m+s))/\fr 11=.d (.int .i64 (m+r))/\H'=H)
  (λfr H'=>match fr 10,fr 11 with|.d (.int _ k),.d (.int _ l)=>(l-k).toNat|_,_=>0) (by simp) ?_ ?_
 .refine⟨0,y.length,by omega,Q14 _,λk v h1=>by omega,λk v h1 h2=>?_,?_⟩
  .have:=(Q11.1 h2).1;omega
  .simp[f0,f1,f4,Qb O,hil,hg,Vm,W6 hil,-A.clr];omega
 clear f0 f1 f2' f3' f4;rintro fr H' ⟨s,r,e2,e3,eA,eB,f0,f1,f4,f10,f11,hH'⟩;rw[hH'];simp[f10,f11];refine Qh (λh4=>?_) (λh4=>?_)
 .have h4:s<r:=by simp at h4;omega
  have v1:IntKind.i64.wrap (m+s+(m+r))=m+s+(m+r):=wi64 (by omega);have v2:=Qir (n:=m+s+(m+r)) (by omega) (by omega);generalize hk:(s+r)/2=k;have hk2:(m+s+(m+r))/2=m+k:=by omega
  rw[hk2]at v2;have v4:IntKind.i64.wrap (m+k+1)=m+k+1:=wi64 (by omega);obtain⟨v,hv⟩:∃v,y[k]?=some v:=⟨_,Q12 (by omega)⟩;have lv:L[p.length+1+k]?=some v:=by rw[gy _ (by omega)];exact hv
  have i1:W4 H sz (.msl i 0 L.length) (.d (.int .i64 (m+k)))=some (.aptr i (p.length+1+k) 0):=Yt hi (by omega) (by omega);have i2:W4 H sz (.msl i 0 L.length) (.d (.int .i64 a))=some (.aptr i p.length 0):=Yt hi (by omega) (by omega);have l1:=Qab hsz hi lv;have l2:=Qab hsz hi ge;simp[f0,f1,f4,f10,f11,v1,Qhn,v2,i1,i2,l1,l2,-W4,-ldA,-stA];refine hcmp _ v e _ _ ?_;simp[f0,f4,f10,f11];refine Qh (λh5=>?_) (λh5=>?_)
  .have h5:c v e<0:=by simpa using h5
   simp[f0,f4,f10,f11,v4];refine Wf (m:=H.length) (by simp) ⟨k+1,r,by omega,e3,?_,eB,?_⟩ ?_
   .intro k' v' h6 h7;exact hc.le_lt (Yx hc sy h7 hv (by omega)) h5
   .simp[f0,f1,f4,f10,f11,Qb O,hil,hg,Vm,W6 hil,-A.clr];omega
   .simp[f11];omega
  .have h5:¬c v e<0:=by simpa using h5
   simp[f0,f4,f10,f11,v4];refine Wf (m:=H.length) (by simp) ⟨s,k,by omega,by omega,eA,?_,?_⟩ ?_
   .intro k' v' h6 h7 h8;exact h5 (hc.le_lt (Yx hc sy hv h7 h6) h8)
   .simp[f0,f1,f4,f10,f11,Qb O,hil,hg,Vm,W6 hil,-A.clr]
   .simp[f10];omega
 .obtain rfl:s=r:=by simp at h4;omega
  have hres:ssort c (e::y)=y.take s++e::y.drop s:=by
   have:=Qr1 hc (a:=y.take s) (b:=y.drop s) (x:=e) (by simpa using sy) (λz hz=>by
    obtain⟨k,hk,rfl⟩:=Q3h hz;simp only[Q3p]at hk;exact eA k _ (by omega) (by rw[Q53];exact Q12 (by omega))) (λz hz=>by
    obtain⟨k,hk,rfl⟩:=Q3h hz;simp only[Q26]at hk;refine hc.not_lt.1 (eB (s+k) _ (by omega) ?_);rw[Q54];exact Q12 (by omega))
   simpa using this
  have hts:(y.take s).length=s:=by simp;omega
  generalize hy1:y.take s=y1 at hres hts;generalize hy2:y.drop s=y2 at hres;have hy:y=y1++y2:=by rw[<-hy1,<-hy2,Q2x]
  have hyl:y.length=y1.length+y2.length:=by rw[hy];simp
  have v1:IntKind.i64.wrap (m+s-1)=a+s:=by rw[wi64 (by omega)];omega
  simp[f0,f1,f4,f10];refine Wy H.length (λfr H'=>∃u v M,∃k:Nat,y1=u++v/\M=p++(u++e::(v++(y2++q)))/\k=u.length/\
   fr 0=.msl i 0 L.length/\fr 10=.d (.int .i64 (m+s))/\fr 13=.d (.int .i64 (a+k))/\H'=H.set i (arrE enc sz M))
   (λfr H'=>match fr 13 with|.d (.int _ k)=>(a+s-k).toNat|_=>0) (by simp) ?_ ?_
  .refine⟨[],y1,L,0,rfl,by rw[hL,hy];simp,rfl,?_⟩;simp[f0,f1,f4,f10,Qcb hi,Qb O,hil,hg,Vm,W6 hil,-A.clr]
  clear f0 f1 f4 f10 f11;rintro fr H' ⟨u,v,M,k,huv,hM,hk,f0,f10,f13,hH'⟩;rw[hH'];have huvl:u.length+v.length=s:=by rw[<-hts,huv];simp
  have hMl:M.length=L.length:=by rw[hM];simp;omega
  have f13o:=f13;simp[f10,f13,v1];refine Qh (λh5=>?_) (λh5=>?_)
  .have h5:k<s:=by simp at h5;omega
   obtain⟨d,v,rfl⟩:∃d v',v=d::v':=by
    cases v with
    |nil=>simp at huvl;omega
    |cons d v=>exact⟨d,v,rfl⟩
   simp only[Q2i]at huvl;have w1:IntKind.i64.wrap (a+k+1)=a+k+1:=wi64 (by omega);have m1:M=(p++u)++e::(d::(v++(y2++q))):=by rw[hM];simp
   have m2:M=(p++u++[e])++d::(v++(y2++q)):=by rw[hM];simp
   have g1:=Qa9 (k:=p.length+k) m1 (by simp;omega);have g2:=Qa9 (k:=p.length+k+1) m2 (by simp;omega);have i1:∀M':List α,W4 (H.set i (arrE enc sz M')) sz (.msl i 0 L.length) (.d (.int .i64 (a+k)))=some (.aptr i (p.length+k) 0):=λM'=>Yt (hgs _) (by omega) (by omega);have i2:∀M':List α,W4 (H.set i (arrE enc sz M')) sz (.msl i 0 L.length) (.d (.int .i64 (a+k+1)))=some (.aptr i (p.length+k+1) 0):=λM'=>Yt (hgs _) (by omega) (by omega);have l1:=Qab hsz (hgs (arrE enc sz M)) g1;have l2:=Qab hsz (hgs (arrE enc sz M)) g2;have t1:=Qf1 hsz (hgs (arrE enc sz M)) (k:=p.length+k) (e:=d) (by omega);have t2:=Qf1 hsz (hgs (arrE enc sz (M.set (p.length+k) d))) (k:=p.length+k+1) (e:=e) (by simp;omega);have s1:=Qcq (e':=d) (k:=p.length+k) m1 (by simp;omega);have m3:M.set (p.length+k) d=(p++u++[d])++d::(v++(y2++q)):=by rw[s1];simp
   have s2:=Qcq (e':=e) (k:=p.length+k+1) m3 (by simp;omega);rw[Q32]at t1 t2;rw[s2]at t2;simp[f0,f10,f13,w1,i1,i2,l1,l2,t1,t2,hE,hF,-W4,-ldA,-stA,-A.flat];refine Wf (m:=H.length) (by simp) ⟨u++[d],v,p++u++[d]++e::(v++(y2++q)),k+1,by rw[huv];simp,by simp,by simp[hk],?_⟩ ?_
   .simp[f0,f10,f13,Hp.cut_set,Qb O,hil,hg,Wn,Vm,W6 hil,-A.clr,-Ob.clr];omega
   .simp;omega
  .have h5:¬k<s:=by simp at h5;omega
   obtain rfl:v=[]:=Q2b (by omega);simp only[Q2k]at huv;subst huv;have hM':M=p++(ssort c (e::y)++q):=by rw[hM,hres];simp
   simp[hM'];exact hQ _
end
end
section
section
variable{P:Program}{α:Type}{enc:α->List D}{sz:Nat}{c:α->α->Int}
def Qyo(hsz:∀x,(enc x).length=sz)(hc:Cmp c){g:A}(hcmp:CmpA P enc c g){H:Hp}{i:Nat}{L p x q:List α}{e:α}{a m b:Int}{fr:Fr}{Q:Ex->Fr->Hp->Prop}(O:H.Closed)(hg:∀k,H.length<=k->g.clr k=g)(sx:Sorted c x)(hL:L=p++(x++(e::q)))(ha:a=p.length)(hm:m=p.length+x.length)(hi:H[i]?=some (arrE enc sz L))(hbd:L.length<=1099511627776)(f0:fr 0=.msl i 0 L.length)(f1:fr 1=.d (.int .i64 a))(f2':fr 2=.d (.int .i64 m))(f3':fr 3=.d (.int .i64 b))(f4:fr 4=g)(hQ:∀fr:Fr,Q .ret fr (H.set i (arrE enc sz (p++(ssort c (x++[e])++q))))):
 AWp P H.length (symB sz) Q fr H:=by
 have hil:i<H.length:=(Q11.1 hi).1;have hgs:∀X:Ob,(H.set i X)[i]?=some X:=λX=>Q17 hil;have hLl:p.length+x.length+1+q.length=L.length:=by rw[hL];simp;omega
 have hE:∀z:α,(rowE enc z).length=sz:=V9 hsz;have hF:∀z:α,(∀u,u∈rowE enc z->u.flat=true)=True:=Qeb;have ge:L[p.length+x.length]?=some e:=Qa9 (u:=p++x) (v:=q) (by rw[hL];simp) (by simp);have gx:∀k,k<x.length->L[p.length+k]?=x[k]?:=λk hk=>by rw[hL,Q2j (by omega),Q4a,Q19 hk]
 unfold symB;simp[f0,f1,f2',f3',f4];refine Wy H.length (λfr H'=>∃s r:Nat,s<=r/\r<=x.length/\(∀k v,k<s->x[k]?=some v->c v e<=0)/\(∀k v,r<=k->x[k]?=some v->c e v<0)/\
  fr 0=.msl i 0 L.length/\fr 2=.d (.int .i64 m)/\fr 4=g/\
  fr 14=.d (.int .i64 (a+s))/\fr 15=.d (.int .i64 (a+r))/\H'=H)
  (λfr H'=>match fr 14,fr 15 with|.d (.int _ k),.d (.int _ l)=>(l-k).toNat|_,_=>0) (by simp) ?_ ?_
 .refine⟨0,x.length,by omega,Q14 _,λk v h1=>by omega,λk v h1 h2=>?_,?_⟩
  .have:=(Q11.1 h2).1;omega
  .simp[f0,f1,f2',f4,Qb O,hil,hg,Vm,W6 hil,-A.clr];omega
 clear f0 f1 f2' f3' f4;rintro fr H' ⟨s,r,e2,e3,eA,eB,f0,f2',f4,f14,f15,hH'⟩;rw[hH'];simp[f14,f15];refine Qh (λh4=>?_) (λh4=>?_)
 .have h4:s<r:=by simp at h4;omega
  have v1:IntKind.i64.wrap (a+s+(a+r))=a+s+(a+r):=wi64 (by omega);have v2:=Qir (n:=a+s+(a+r)) (by omega) (by omega);generalize hk:(s+r)/2=k;have hk2:(a+s+(a+r))/2=a+k:=by omega
  rw[hk2]at v2;have v4:IntKind.i64.wrap (a+k+1)=a+k+1:=wi64 (by omega);obtain⟨v,hv⟩:∃v,x[k]?=some v:=⟨_,Q12 (by omega)⟩;have lv:L[p.length+k]?=some v:=by rw[gx _ (by omega)];exact hv
  have i1:W4 H sz (.msl i 0 L.length) (.d (.int .i64 (a+k)))=some (.aptr i (p.length+k) 0):=Yt hi (by omega) (by omega);have i2:W4 H sz (.msl i 0 L.length) (.d (.int .i64 m))=some (.aptr i (p.length+x.length) 0):=Yt hi (by omega) (by omega);have l1:=Qab hsz hi lv;have l2:=Qab hsz hi ge;simp[f0,f2',f4,f14,f15,v1,Qhn,v2,i1,i2,l1,l2,-W4,-ldA,-stA];refine hcmp _ e v _ _ ?_;simp[f0,f4,f14,f15];refine Qh (λh5=>?_) (λh5=>?_)
  .have h5:¬c e v<0:=by simpa using h5
   simp[f0,f4,f14,f15,v4];refine Wf (m:=H.length) (by simp) ⟨k+1,r,by omega,e3,?_,eB,?_⟩ ?_
   .intro k' v' h6 h7;exact hc.trans _ _ _ (Yx hc sx h7 hv (by omega)) (hc.not_lt.1 h5)
   .simp[f0,f2',f4,f14,f15,Qb O,hil,hg,Vm,W6 hil,-A.clr];omega
   .simp[f15];omega
  .have h5:c e v<0:=by simpa using h5
   simp[f0,f4,f14,f15,v4];refine Wf (m:=H.length) (by simp) ⟨s,k,by omega,by omega,eA,?_,?_⟩ ?_
   .intro k' v' h6 h7;exact hc.lt_le h5 (Yx hc sx hv h7 h6)
   .simp[f0,f2',f4,f14,f15,Qb O,hil,hg,Vm,W6 hil,-A.clr]
   .simp[f14];omega
 .obtain rfl:s=r:=by simp at h4;omega
  have hres:ssort c (x++[e])=x.take s++e::x.drop s:=by
   have:=Qd9 hc (a:=x.take s) (b:=x.drop s) (x:=e) (by simpa using sx) (λz hz=>by
    obtain⟨k,hk,rfl⟩:=Q3h hz;simp only[Q3p]at hk;exact eA k _ (by omega) (by rw[Q53];exact Q12 (by omega))) (λz hz=>by
    obtain⟨k,hk,rfl⟩:=Q3h hz;simp only[Q26]at hk;refine eB (s+k) _ (by omega) ?_;rw[Q54];exact Q12 (by omega))
   simpa using this
  have hts:(x.take s).length=s:=by simp;omega
  generalize hx1:x.take s=x1 at hres hts;generalize hx2:x.drop s=x2 at hres;have hx:x=x1++x2:=by rw[<-hx1,<-hx2,Q2x]
  have hxl:x.length=x1.length+x2.length:=by rw[hx];simp
  simp[f0,f2',f4,f14];refine Wy H.length (λfr H'=>∃u v M,∃k:Nat,x2=u++v/\M=p++(x1++(u++e::(v++q)))/\k=p.length+x1.length+u.length/\
   fr 0=.msl i 0 L.length/\fr 14=.d (.int .i64 (a+s))/\fr 17=.d (.int .i64 (k:Int))/\H'=H.set i (arrE enc sz M))
   (λfr H'=>match fr 17 with|.d (.int _ k)=>k.toNat|_=>0) (by simp) ?_ ?_
  .refine⟨x2,[],L,p.length+x1.length+x2.length,by simp,by rw[hL,hx];simp,rfl,?_⟩;simp[f0,f2',f4,f14,Qcb hi,Qb O,hil,hg,Vm,W6 hil,-A.clr];omega
  clear f0 f2' f4 f14 f15;rintro fr H' ⟨u,v,M,k,huv,hM,hk,f0,f14,f17,hH'⟩;rw[hH'];have huvl:u.length+v.length=x2.length:=by rw[huv];simp
  have hMl:M.length=L.length:=by rw[hM];simp;omega
  have f17o:=f17;simp[f14,f17];refine Qh (λh5=>?_) (λh5=>?_)
  .have h5:a+s<k:=by simpa using h5
   obtain⟨u,d,rfl⟩:∃u' d,u=u'++[d]:=by
    rcases Q4i u with h0|⟨u',d,h0⟩
    .subst h0;simp at hk;omega
    .exact⟨u',d,by simpa using h0⟩
   simp only[Q2l,Q3v]at huvl hk;have w1:IntKind.i64.wrap ((k:Int)-1)=k-1:=wi64 (by omega);have m1:M=(p++x1++u)++d::(e::(v++q)):=by rw[hM];simp
   have m2:M=(p++x1++u++[d])++e::(v++q):=by rw[hM];simp
   have g1:=Qa9 (k:=k-1) m1 (by simp;omega);have g2:=Qa9 (k:=k) m2 (by simp;omega);have i1:∀M':List α,W4 (H.set i (arrE enc sz M')) sz (.msl i 0 L.length) (.d (.int .i64 (k-1)))=some (.aptr i (k-1) 0):=λM'=>Yt (hgs _) (by omega) (by omega);have i2:∀M':List α,W4 (H.set i (arrE enc sz M')) sz (.msl i 0 L.length) (.d (.int .i64 k))=some (.aptr i k 0):=λM'=>Yt (hgs _) (by omega) (by omega);have l1:=Qab hsz (hgs (arrE enc sz M)) g1;have l2:=Qab hsz (hgs (arrE enc sz M)) g2;have t1:=Qf1 hsz (hgs (arrE enc sz M)) (k:=k) (e:=d) (by omega);have t2:=Qf1 hsz (hgs (arrE enc sz (M.set k d))) (k:=k-1) (e:=e) (by simp;omega);have s1:=Qcq (e':=d) (k:=k) m2 (by simp;omega);have m3:M.set k d=(p++x1++u)++d::(d::(v++q)):=by rw[s1];simp
   have s2:=Qcq (e':=e) (k:=k-1) m3 (by simp;omega);rw[Q32]at t1 t2;rw[s2]at t2;have hj1:((k:Int)-1)=(k-1:Nat):=by omega
   simp[f0,f14,f17,w1,i1,i2,l1,l2,t1,t2,hE,hF,-W4,-ldA,-stA,-A.flat];refine Wf (m:=H.length) (by simp) ⟨u,d::v,p++x1++u++e::(d::(v++q)),k-1,by rw[huv];simp,by simp,by omega,?_⟩ ?_
   .simp[f0,f14,f17,hj1,Hp.cut_set,Qb O,hil,hg,Wn,Vm,W6 hil,-A.clr,-Ob.clr]
   .simp;omega
  .have h5:¬a+s<k:=by simpa using h5
   obtain rfl:u=[]:=Q2b (by omega);simp only[Q2u]at huv;subst huv;have hM':M=p++(ssort c (x++[e])++q):=by rw[hM,hres];simp
   simp[hM'];exact hQ _
def Qna(hsz:∀x,(enc x).length=sz)(hc:Cmp c){f f2 f3:FuncId}{fn fn2 fn3:Func}(hf:P.funcs[f]?=some fn)(hcf:Qn P [] fn=some (Zn sz f2 f))(hf2:P.funcs[f2]?=some fn2)(hcf2:Qn P [] fn2=some (Z2 f3))(hf3:P.funcs[f3]?=some fn3)(hcf3:Qn P [] fn3=some (Y4 sz)){g:A}(hcmp:CmpA P enc c g){n N:Nat}(ih:Qt5 P enc sz c f g n N):Qt5 P enc sz c f g (n+1) N:=by
 intro H i L p x y q a m b hg0 hN hn hx0 hy0 sx sy hL ha hm hb hi hbd;have hg:∀k,H.length<=k->g.clr k=g:=λk hk=>hg0 k (by omega);have hLl:p.length+x.length+y.length+q.length=L.length:=by rw[hL];simp;omega
 have w1:IntKind.i64.wrap (m-a)=m-a:=wi64 (by omega);have w2:IntKind.i64.wrap (b-m)=b-m:=wi64 (by omega);refine Qy hf hcf (by simp[Zn]) λO _=>?_;simp[Zn,w1];refine Qh (λh1=>?_) (λh1=>?_)
 .have h1:m-a=1:=by simpa using h1
  obtain⟨e,rfl⟩:∃e,x=[e]:=Q7a.1 (by omega);refine Qyp hsz hc hcmp (e:=e) (y:=y) (q:=q) (a:=a) (m:=m) (b:=b) O hg sy (by simpa using hL) ha (by simpa using hm) (by simpa using hb) hi hbd (by simp) (by simp) (by simp) (by simp) (by simp) λfr=>?_;simp[RetK,Hp.cut_set,Qb O,Wn,-Ob.clr]
 simp[w2];refine Qh (λh2=>?_) (λh2=>?_)
 .have h2:b-m=1:=by simpa using h2
  obtain⟨e,rfl⟩:∃e,y=[e]:=Q7a.1 (by omega);refine Qyo hsz hc hcmp (e:=e) (x:=x) (q:=q) (a:=a) (m:=m) (b:=b) O hg sx (by simpa using hL) ha hm hi hbd (by simp) (by simp) (by simp) (by simp) (by simp) λfr=>?_;simp[RetK,Hp.cut_set,Qb O,Wn,-Ob.clr]
 have h1:¬m-a=1:=by simpa using h1
 have h2:¬b-m=1:=by simpa using h2
 have w3:IntKind.i64.wrap (a+b)=a+b:=wi64 (by omega);have w4:=Qir (n:=a+b) (by omega) (by omega);have w5:IntKind.i64.wrap ((a+b)/2+m)=(a+b)/2+m:=wi64 (by omega);generalize hh:(x.length+y.length)/2=h at*;have hmid:(a+b)/2=a+h:=by omega
 rw[hmid]at w4 w5;have wp1:IntKind.i64.wrap (a+h+m-1)=a+h+m-1:=wi64 (by omega);have wnb:IntKind.i64.wrap (a+h+m-b)=a+h+m-b:=wi64 (by omega);have rest:∀(fr:Fr)(s0 r0:Nat),s0<=r0->r0<=x.length->r0<=h->h<=s0+y.length->(s0=0\/h=s0+y.length)->(r0=x.length\/r0=h)->
  fr 0=.msl i 0 L.length->fr 1=.d (.int .i64 a)->fr 2=.d (.int .i64 m)->fr 3=.d (.int .i64 b)->fr 4=g->fr 18=.d (.int .i64 (a+h))->fr 19=.d (.int .i64 (a+h+m))->fr 22=.d (.int .i64 (a+h+m-1))->fr 20=.d (.int .i64 (a+s0))->fr 21=.d (.int .i64 (a+r0))->
  AWp P H.length (Qkq sz f2 f) (Fin [] H.length λr' H'=>r'=.tup []/\H'=H.set i (arrE enc sz (p++(ssort c (x++y)++q)))) fr H:=by
  intro fr s0 r0 F1 F2 F3 F4 F5 F6 f0 f1 f2' f3' f4 f18 f19 f22 f20 f21;refine Qry hsz hc hcmp (s0:=s0) (r0:=r0) O hg sx sy hL ha hm hi hbd F1 F2 F3 F4 f0 f1 f2' f3' f4 f18 f19 f22 f20 f21 ?_;intro fr s e1 e2 eA eB f0 f1 f2' f3' f4 f18 f19 f20;have hxs:=Q2x s x;have hys:=Q2x (h-s) y;have l1:(x.take s).length=s:=by simp;omega
  have l2:(x.drop s).length=x.length-s:=by simp
  have l3:(y.take (h-s)).length=h-s:=by simp;omega
  have l4:(y.drop (h-s)).length=y.length-(h-s):=by simp
  have c1:∀u∈x.drop s,∀v∈y.take (h-s),c v u<0:=λu hu v hv=>by
   obtain⟨ku,hku,rfl⟩:=Q3h hu;obtain⟨kv,hkv,rfl⟩:=Q3h hv;rw[l2]at hku;rw[l3]at hkv;have hsr:s<r0:=by omega
   obtain⟨u0,hu0⟩:∃u,x[s]?=some u:=⟨_,Q12 (by omega)⟩;obtain⟨v0,hv0⟩:∃v,y[h-1-s]?=some v:=⟨_,Q12 (by omega)⟩;have h0:=eB s u0 v0 (Q14 _) hsr hu0 hv0;have h3:c u0 (x.drop s)[ku]<=0:=Yx hc sx hu0 (j:=s+ku) (by rw[Q54];exact Q12 (by omega)) (by omega);have h4:c (y.take (h-s))[kv] v0<=0:=Yx hc sy (i:=kv) (by rw[Q53];exact Q12 (by omega)) hv0 (by omega);exact hc.lt_le (hc.le_lt h4 h0) h3
  have c2:∀u∈x.take s,∀v∈y.drop (h-s),c u v<=0:=λu hu v hv=>by
   obtain⟨ku,hku,rfl⟩:=Q3h hu;obtain⟨kv,hkv,rfl⟩:=Q3h hv;rw[l1]at hku;rw[l4]at hkv;have hsr:s0<s:=by omega
   obtain⟨u0,hu0⟩:∃u,x[s-1]?=some u:=⟨_,Q12 (by omega)⟩;obtain⟨v0,hv0⟩:∃v,y[h-1-(s-1)]?=some v:=⟨_,Q12 (by omega)⟩;have h0:=hc.not_lt.1 (eA (s-1) u0 v0 (by omega) (by omega) hu0 hv0);have h3:c (x.take s)[ku] u0<=0:=Yx hc sx (i:=ku) (by rw[Q53];exact Q12 (by omega)) hu0 (by omega);have h4:c v0 (y.drop (h-s))[kv]<=0:=Yx hc sy hv0 (j:=h-s+kv) (by rw[Q54];exact Q12 (by omega)) (by omega);exact hc.trans _ _ _ (hc.trans _ _ _ h3 h0) h4
  have:=Quo hsz hc hf2 hcf2 hf3 hcf3 ih (L:=L) (p:=p) (x1:=x.take s) (x2:=x.drop s) (y1:=y.take (h-s)) (y2:=y.drop (h-s)) (q:=q) (a:=a) (m:=m) (b:=b) (h:=h) (s:=s) (fr:=fr) O hg0 hN (by omega) (by omega) (by omega) (by rw[hxs];exact sx) (by rw[hys];exact sy)
   (by rw[hL,<-Q2g (x.take s),hxs,<-Q2g (y.take (h-s)),hys]) ha (by omega) (by omega) (by omega) (by omega) (by omega) c1 c2 hi hbd f0 f1 f2' f3' f4 f18 f19 f20
  rw[hxs,hys]at this;exact this
 simp[w3,Qhn,w4,w5];refine Qh (λh3=>?_) (λh3=>?_)
 .have h3:a+h<m:=by simpa using h3
  simp[wnb,wp1];have e1:a+h+m-b=a+(h-y.length:Nat):=by omega
  exact rest _ (h-y.length) h (by omega) (by omega) (Q14 _) (by omega) (.inr (by omega)) (.inr rfl) (by simp) (by simp) (by simp) (by simp) (by simp) (by simp) (by simp) (by simp) (by simp[e1]) (by simp)
 .have h3:¬a+h<m:=by simpa using h3
  simp[wp1];have e1:m=a+(x.length:Int):=by omega
  exact rest _ 0 x.length (by omega) (Q14 _) (by omega) (by omega) (.inl rfl) (.inl rfl) (by simp) (by simp) (by simp) (by simp) (by simp) (by simp) (by simp) (by simp) (by simp) (by simp[e1])
def Qe3(hsz:∀x,(enc x).length=sz)(hc:Cmp c){f f2 f3:FuncId}{fn fn2 fn3:Func}(hf:P.funcs[f]?=some fn)(hcf:Qn P [] fn=some (Zn sz f2 f))(hf2:P.funcs[f2]?=some fn2)(hcf2:Qn P [] fn2=some (Z2 f3))(hf3:P.funcs[f3]?=some fn3)(hcf3:Qn P [] fn3=some (Y4 sz)){g:A}(hcmp:CmpA P enc c g)(N:Nat):∀n,Qt5 P enc sz c f g n N
 |0=>λH i L p x y q a m b hg0 hN hn hx0=>by omega
 |n+1=>Qna hsz hc hf hcf hf2 hcf2 hf3 hcf3 hcmp (Qe3 hsz hc hf hcf hf2 hcf2 hf3 hcf3 hcmp N n)
end
end
section
section
variable{P:Program}{α:Type}{enc:α->List D}{sz:Nat}{c:α->α->Int}
def Blk(c:α->α->Int)(n:Nat)(l:List α):Prop:=∀j,Sorted c ((l.drop (j*n)).take n)
def Sorted.take{l:List α}(h:Sorted c l)(n:Nat):Sorted c (l.take n):=by
 have h':Sorted c (l.take n++l.drop n):=by rwa[Q2x]
 exact(Sorted.append.1 h').1
def Sorted.drop{l:List α}(h:Sorted c l)(n:Nat):Sorted c (l.drop n):=by
 have h':Sorted c (l.take n++l.drop n):=by rwa[Q2x]
 exact(Sorted.append.1 h').2.1
def Blk.append{n k:Nat}{a s:List α}(h:Blk c n a)(hl:a.length=k*n)(hs:Sorted c s)(hsl:s.length<=n):Blk c n (a++s):=λj=>by
 by_cases hj:j<k
 .have h1:(j+1)*n<=k*n:=Q2z _ hj;rw[Q29]at h1;rw[List.drop_append_of_le_length (by omega),Q6v (by simp;omega)];exact h j
 .have h1:k*n<=j*n:=Q2z _ (by omega);rw[List.drop_append,Q22 (by omega),Q2u];exact(hs.drop _).take _
def Blk.drop{n:Nat}{a:List α}(h:Blk c n a)(k:Nat):Blk c n (a.drop (k*n)):=λj=>by rw[Q30,<-Q29];exact h _
def Blk.nil(n:Nat):Blk c n []:=λj=>by simp[Sorted]
def Blk.first{n:Nat}{a:List α}(h:Blk c n a):Sorted c (a.take n):=by simpa using h 0
def Blk.all{n:Nat}{a:List α}(h:Blk c n a)(hl:a.length<=n):Sorted c a:=by have:=h.first;rwa[Q2f hl]at this
def Qom(hsz:∀x,(enc x).length=sz)(hc:Cmp c){f f1 f2 f3 f4:FuncId}{fn fn1 fn2 fn3 fn4:Func}(hf:P.funcs[f]?=some fn)(hcf:Qn P [] fn=some (Qao f1 f2))(hf1:P.funcs[f1]?=some fn1)(hcf1:Qn P [] fn1=some (Vg sz))(hf2:P.funcs[f2]?=some fn2)(hcf2:Qn P [] fn2=some (Zn sz f3 f2))(hf3:P.funcs[f3]?=some fn3)(hcf3:Qn P [] fn3=some (Z2 f4))(hf4:P.funcs[f4]?=some fn4)(hcf4:Qn P [] fn4=some (Y4 sz)){g:A}(hcmp:CmpA P enc c g){H:Hp}{i:Nat}{L:List α}(hg:∀m,H.length<=m->g.clr m=g)(hi:H[i]?=some (arrE enc sz L))(hbd:L.length<=1099511627776):
 Qc P f [.msl i 0 L.length,.d (.int .i64 L.length),g] H (λr' H'=>r'=.tup []/\H'=H.set i (arrE enc sz (ssort c L))):=by
 have hil:i<H.length:=(Q11.1 hi).1;have hgs:∀X:Ob,(H.set i X)[i]?=some X:=λX=>Q17 hil;have hins:∀(M p s q:List α)(a b:Int),M=p++(s++q)->M.length=L.length->a=p.length->b=p.length+s.length->
  Qc P f1 [.msl i 0 L.length,.d (.int .i64 a),.d (.int .i64 b),g] (H.set i (arrE enc sz M)) (λr' H'=>r'=.tup []/\H'=H.set i (arrE enc sz (p++(ssort c s++q)))):=λM p s q a b h1 h2 h3 h4=>by
  have:=Qko hsz hc hf1 hcf1 (H:=H.set i (arrE enc sz M)) (i:=i) (g:=g) (λm hm=>hg m (by simpa using hm)) hcmp h1 h3 h4 (hgs _) (by omega);rwa[h2,Q32]at this
 have hsym:∀(M p x y q:List α)(a m b:Int),M=p++(x++(y++q))->M.length=L.length->0<x.length->0<y.length->Sorted c x->Sorted c y->a=p.length->m=p.length+x.length->b=p.length+x.length+y.length->
  Qc P f2 [.msl i 0 L.length,.d (.int .i64 a),.d (.int .i64 m),.d (.int .i64 b),g] (H.set i (arrE enc sz M)) (λr' H'=>r'=.tup []/\H'=H.set i (arrE enc sz (p++(ssort c (x++y)++q)))):=λM p x y q a m b h1 h2 h3 h4 h5 h6 h7 h8 h9=>by
  have:=Qe3 hsz hc hf2 hcf2 hf3 hcf3 hf4 hcf4 hcmp H.length (x.length+y.length) (H.set i (arrE enc sz M)) i M p x y q a m b hg (by simp) (Q14 _) h3 h4 h5 h6 h1 h7 h8 h9 (hgs _) (by omega);rwa[h2,Q32]at this
 refine Qy hf hcf (by simp[Qao]) λO _=>?_;unfold Qao;refine Qgx (λfr H'=>H'=H/\fr 0=.msl i 0 L.length/\fr 1=.d (.int .i64 L.length)/\fr 2=g/\fr 6=.d (.int .i64 20)) ?_ ?_
 .simp
 rintro fr H1 ⟨hH1,f0,f1',f2',f6⟩;rw[hH1];clear hH1 H1;refine Qgx (λfr H'=>H'=H/\fr 0=.msl i 0 L.length/\fr 1=.d (.int .i64 L.length)/\fr 2=g/\fr 6=.d (.int .i64 20)/\fr 7=.d (.int .i64 0)/\fr 8=.d (.int .i64 20)) ?_ ?_
 .simp[f0,f1',f2',f6]
 clear f0 f1' f2' f6 fr;rintro fr H1 ⟨hH1,f0,f1',f2',f6,f7,f8⟩;rw[hH1];clear hH1 H1;refine Qgx (λfr H'=>∃done rest:List α,∃k:Nat,Alk c L (done++rest)/\Blk c 20 done/\done.length=k*20/\rest.length<20/\H'=H.set i (arrE enc sz (done++rest))/\fr 0=.msl i 0 L.length/\fr 1=.d (.int .i64 L.length)/\fr 2=g/\fr 6=.d (.int .i64 20)/\fr 7=.d (.int .i64 (done.length:Int))) ?_ ?_
 .simp;refine Wy H.length (λfr H'=>∃done rest:List α,∃k:Nat,Alk c L (done++rest)/\Blk c 20 done/\done.length=k*20/\H'=H.set i (arrE enc sz (done++rest))/\fr 0=.msl i 0 L.length/\fr 1=.d (.int .i64 L.length)/\fr 2=g/\fr 6=.d (.int .i64 20)/\fr 7=.d (.int .i64 (done.length:Int))/\fr 8=.d (.int .i64 (done.length+20:Int)))
   (λfr H'=>match fr 8 with|.d (.int _ k)=>(L.length+20-k).toNat|_=>0) (by simp) ?_ ?_
  .refine⟨[],L,0,Alk.refl _,Blk.nil _,by simp,?_⟩;simp[f0,f1',f2',f6,f7,f8,Qb O,Qcb hi,hil,hg,Vm,W6 hil,-A.clr]
  clear f0 f1' f2' f6 f7 f8 fr;rintro fr H1 ⟨done,rest,k,hal,hbl,hdl,hH1,f0,f1',f2',f6,f7,f8⟩;rw[hH1];have hlen:=(hal.length hc).length_eq;simp only[Q2l]at hlen;simp[f1',f8];refine Qh (λh=>?_) (λh=>?_)
  .have h:20<=rest.length:=by simp at h;omega
   have v1:IntKind.i64.wrap ((done.length:Int)+20+20)=done.length+20+20:=wi64 (by omega);have hcall:=hins (done++rest) done (rest.take 20) (rest.drop 20) done.length (done.length+20) (by simp) (by simp;omega) rfl (by simp;omega);simp[f0,f1',f2',f6,f7,f8];refine Qa hcall ?_;simp[f0,f1',f2',f6,f7,f8,v1];obtain⟨q1,q2⟩:=Wi hc (rest.take 20);have hql:=Ww hc (rest.take 20);simp only[Q3p]at hql;refine Wf (m:=H.length) (by simp) ⟨done++ssort c (rest.take 20),rest.drop 20,k+1,?_,hbl.append hdl q1 (by omega),by simp[hql];omega,?_⟩ ?_
   .refine hal.trans ?_;have:=(Alk.refl done).append (q2.append (Alk.refl (rest.drop 20)));rw[Q2x]at this;simpa using this
   .simp[f0,f1',f2',f6,f7,f8,v1,hql,Hp.cut_set,Qb O,Wn,hil,hg,Vm,W6 hil,-A.clr,-Ob.clr];omega
   .simp[v1];omega
  .have h:¬20<=rest.length:=by simp at h;omega
   simp;exact⟨done,rest,hal,hbl,⟨k,hdl⟩,by omega,rfl,f0,f1',f2',f6,f7⟩
 clear f0 f1' f2' f6 f7 f8 fr;rintro fr H1 ⟨done,rest,k,hal,hbl,hdl,hrl,hH1,f0,f1',f2',f6,f7⟩;rw[hH1];clear hH1 H1;have hlen:=(hal.length hc).length_eq;simp only[Q2l]at hlen;refine Qgx (λfr H'=>∃M:List α,Alk c L M/\Blk c 20 M/\H'=H.set i (arrE enc sz M)/\fr 0=.msl i 0 L.length/\fr 1=.d (.int .i64 L.length)/\fr 2=g/\fr 6=.d (.int .i64 20)) ?_ ?_
 .have hcall:=hins (done++rest) done rest [] done.length L.length (by simp) (by simp;omega) rfl (by omega);simp only[Q2k]at hcall;obtain⟨q1,q2⟩:=Wi hc rest;have hql:=Ww hc rest;simp[f0,f1',f2',f6,f7];refine Qa hcall ?_;simp[f0,f1',f2',f6,f7];exact⟨_,hal.trans ((Alk.refl done).append q2),hbl.append hdl q1 (by omega),rfl⟩
 clear hal hbl hdl hrl hlen f0 f1' f2' f6 f7;rintro fr H1 ⟨M,hal,hbl,hH1,f0,f1',f2',f6⟩;rw[hH1];clear hH1 H1;simp;refine Wy H.length (λfr H'=>∃M:List α,∃n:Nat,0<n/\n<=2*L.length+20/\Alk c L M/\Blk c n M/\H'=H.set i (arrE enc sz M)/\fr 0=.msl i 0 L.length/\fr 1=.d (.int .i64 L.length)/\fr 2=g/\fr 6=.d (.int .i64 (n:Int)))
  (λfr H'=>match fr 6 with|.d (.int _ k)=>(2*L.length+20-k).toNat|_=>0) (by simp) ?_ ?_
 .refine⟨M,20,by omega,by omega,hal,hbl,?_⟩;simp[f0,f1',f2',f6,Hp.cut_set,Qb O,Wn,hil,hg,Vm,W6 hil,-A.clr,-Ob.clr]
 clear hal hbl f0 f1' f2' f6 fr M;rintro fr H1 ⟨M,n,hn0,hn1,hal,hbl,hH1,f0,f1',f2',f6⟩;rw[hH1];clear hH1 H1;have hlen:=(hal.length hc).length_eq;simp[f1',f6];refine Qh (λh=>?_) (λh=>?_)
 .have h:n<L.length:=by simpa using h
  have v0:IntKind.i64.wrap (2*(n:Int))=2*n:=wi64 (by omega);have v00:IntKind.i64.wrap ((n:Int)*2)=n*2:=wi64 (by omega);have f6o:=f6;simp[f0,f1',f2',f6,v0];refine Wy H.length (λfr H'=>∃done rest:List α,∃k:Nat,Alk c L (done++rest)/\Blk c (2*n) done/\Blk c n rest/\done.length=k*(2*n)/\H'=H.set i (arrE enc sz (done++rest))/\fr 0=.msl i 0 L.length/\fr 1=.d (.int .i64 L.length)/\fr 2=g/\fr 6=.d (.int .i64 (n:Int))/\fr 7=.d (.int .i64 (done.length:Int))/\fr 8=.d (.int .i64 (done.length+2*n:Int)))
   (λfr H'=>match fr 8 with|.d (.int _ k)=>(L.length+2*n-k).toNat|_=>0) (by simp) ?_ ?_
  .refine⟨[],M,0,hal,Blk.nil _,hbl,by simp,?_⟩;simp[f0,f1',f2',f6,v0,Hp.cut_set,Qb O,Wn,hil,hg,Vm,W6 hil,-A.clr,-Ob.clr]
  clear hal hbl f0 f1' f2' f6 hlen;rintro fr H1 ⟨done,rest,k,hal,hbl,hbr,hdl,hH1,f0,f1',f2',f6,f7,f8⟩;rw[hH1];clear hH1 H1;have hlen:=(hal.length hc).length_eq;simp only[Q2l]at hlen;simp[f1',f8];have s1:Sorted c (rest.take n):=hbr.first;have s2:Sorted c ((rest.drop n).take n):=by simpa using hbr 1
  refine Qh (λh2=>?_) (λh2=>?_)
  .have h2:2*n<=rest.length:=by simp at h2;omega
   have v1:IntKind.i64.wrap ((done.length:Int)+n)=done.length+n:=wi64 (by omega);have v2:IntKind.i64.wrap ((done.length:Int)+2*n+2*n)=done.length+2*n+2*n:=wi64 (by omega);have hcall:=hsym (done++rest) done (rest.take n) ((rest.drop n).take n) ((rest.drop n).drop n) done.length (done.length+n) (done.length+2*n) (by rw[Q2x,Q2x]) (by simp;omega) (by simp;omega) (by simp;omega) s1 s2 rfl (by simp;omega) (by simp;omega);simp only[Q30]at hcall;have e2:rest.take n++(rest.drop n).take n=rest.take (2*n):=by rw[Nat.two_mul,List.take_add]
   rw[e2,show n+n=2*n by omega]at hcall;simp[f0,f1',f2',f6,f7,f8,v1];refine Qa hcall ?_;simp[f0,f1',f2',f6,f7,f8,v0,v2];obtain⟨q1,q2⟩:=Wi hc (rest.take (2*n));have hql:=Ww hc (rest.take (2*n));simp only[Q3p]at hql;refine Wf (m:=H.length) (by simp) ⟨done++ssort c (rest.take (2*n)),rest.drop (2*n),k+1,?_,hbl.append hdl q1 (by omega),hbr.drop 2,by simp[hql,Q29];omega,?_⟩ ?_
   .refine hal.trans ?_;have:=(Alk.refl done).append (q2.append (Alk.refl (rest.drop (2*n))));rw[Q2x]at this;simpa using this
   .simp[f0,f1',f2',f6,f7,f8,v0,v2,hql,Hp.cut_set,Qb O,Wn,hil,hg,Vm,W6 hil,-A.clr,-Ob.clr];omega
   .simp[v0,v2];omega
  .have h2:¬2*n<=rest.length:=by simp at h2;omega
   have v1:IntKind.i64.wrap ((done.length:Int)+n)=done.length+n:=wi64 (by omega);simp[f0,f1',f2',f6,f7,f8,v1];refine Qh (λh3=>?_) (λh3=>?_)
   .have h3:n<rest.length:=by simp at h3;omega
    rw[Q2f (by simp;omega)]at s2;have hcall:=hsym (done++rest) done (rest.take n) (rest.drop n) [] done.length (done.length+n) L.length (by simp) (by simp;omega) (by simp;omega) (by simp;omega) s1 s2 rfl (by simp;omega) (by simp;omega);simp only[Q2k,Q2x]at hcall;simp[f0,f1',f2',f6,f7,f8];refine Qa hcall ?_;simp[f0,f1',f2',f6,f7,f8,v00];obtain⟨q1,q2⟩:=Wi hc rest;have hql:=Ww hc rest;refine Wf (m:=H.length) (by simp) ⟨done++ssort c rest,n*2,by omega,by omega,hal.trans ((Alk.refl done).append q2),by rw[Q4s];exact hbl.append hdl q1 (by omega),?_⟩ ?_
    .simp[f0,f1',f2',f6,f7,f8,v00,Hp.cut_set,Qb O,Wn,hil,hg,Vm,W6 hil,-A.clr,-Ob.clr]
    .simp[v00,f6o];omega
   .have h3:¬n<rest.length:=by simp at h3;omega
    simp[f0,f1',f2',f6,f7,f8,v00];refine Wf (m:=H.length) (by simp) ⟨done++rest,n*2,by omega,by omega,hal,by rw[Q4s];exact hbl.append hdl (hbr.all (by omega)) (by omega),?_⟩ ?_
    .simp[f0,f1',f2',f6,f7,f8,v00,Hp.cut_set,Qb O,Wn,hil,hg,Vm,W6 hil,-A.clr,-Ob.clr]
    .simp[v00,f6o];omega
 .have h:¬n<L.length:=by simpa using h
  have hM:M=ssort c L:=Qax hc (hbl.all (by omega)) hal;simp[RetK,Hp.cut_set,Qb O,Wn,hM,-Ob.clr]
def Qda(hsz:∀x,(enc x).length=sz)(hc:Cmp c){f0 f f1 f2 f3 f4:FuncId}{fn0 fn fn1 fn2 fn3 fn4:Func}(hf0:P.funcs[f0]?=some fn0)(hcf0:Qn P [] fn0=some (Vs f))(hf:P.funcs[f]?=some fn)(hcf:Qn P [] fn=some (Qao f1 f2))(hf1:P.funcs[f1]?=some fn1)(hcf1:Qn P [] fn1=some (Vg sz))(hf2:P.funcs[f2]?=some fn2)(hcf2:Qn P [] fn2=some (Zn sz f3 f2))(hf3:P.funcs[f3]?=some fn3)(hcf3:Qn P [] fn3=some (Z2 f4))(hf4:P.funcs[f4]?=some fn4)(hcf4:Qn P [] fn4=some (Y4 sz)){g:A}(hcmp:CmpA P enc c g){H:Hp}{i:Nat}{L:List α}(hg:∀m,H.length<=m->g.clr m=g)(hi:H[i]?=some (arrE enc sz L))(hbd:L.length<=1099511627776):
 Qc P f0 [.msl i 0 L.length,g] H (λr' H'=>r'=.tup []/\H'=H.set i (arrE enc sz (ssort c L))):=by
 refine Qy hf0 hcf0 (by simp[Vs]) λO _=>?_;have:=Qom hsz hc hf hcf hf1 hcf1 hf2 hcf2 hf3 hcf3 hf4 hcf4 hcmp hg hi hbd;simp[Vs];refine Qa this ?_;simp[RetK,Hp.cut_set,Qb O,Wn,-Ob.clr]
def Qcp{f0 f f1 f2:FuncId}{fn0 fn fn1:Func}(hf0:P.funcs[f0]?=some fn0)(hcf0:Qn P [] fn0=some (Vs f))(hf:P.funcs[f]?=some fn)(hcf:Qn P [] fn=some (Qao f1 f2))(hf1:P.funcs[f1]?=some fn1)(hcf1:Qn P [] fn1=some (Vg sz)){g:A}{z:Bool}{s:Nat}{H:Hp}(hg:∀m,H.length<=m->g.clr m=g):
 Qc P f0 [.d (.sl z s []),g] H (λr' H'=>r'=.tup []/\H'=H):=by
 have h1:Qc P f1 [.d (.sl z s []),.d (.int .i64 0),.d (.int .i64 0),g] H (λr' H'=>r'=.tup []/\H'=H):=by refine Qy hf1 hcf1 (by simp[Vg]) λO _=>?_;have w:IntKind.i64.wrap 1=1:=rfl;simp[Vg,w];refine Wy H.length (λfr H'=>fr 2=.d (.int .i64 0)/\fr 8=.d (.int .i64 1)/\H'=H) (λfr H'=>0) (by simp) (by simp[Qb O,w]) ?_;rintro fr H' ⟨f2,f8,rfl⟩;simp[f2,f8];simp[RetK,Qb O]
 have h2:Qc P f [.d (.sl z s []),.d (.int .i64 0),g] H (λr' H'=>r'=.tup []/\H'=H):=by refine Qy hf hcf (by simp[Qao]) λO _=>?_;simp[Qao];refine Wy H.length (λfr H'=>fr 0=.d (.sl z s [])/\fr 1=.d (.int .i64 0)/\fr 2=g/\fr 6=.d (.int .i64 20)/\fr 7=.d (.int .i64 0)/\fr 8=.d (.int .i64 20)/\H'=H) (λfr H'=>0) (by simp) (by simp[Qb O,hg,Vm,-A.clr]) ?_;rintro fr H' ⟨f0,f1',f2',f6,f7,f8,rfl⟩;simp[f0,f1',f2',f6,f7,f8];refine Qa h1 ?_;simp;refine Wy H'.length (λfr H1=>fr 1=.d (.int .i64 0)/\fr 6=.d (.int .i64 20)/\H1=H') (λfr H'=>0) (by simp) (by simp[Qb O,f1',f6]) ?_;rintro fr H1 ⟨f1',f6,rfl⟩;simp[f1',f6];simp[RetK,Qb O]
 refine Qy hf0 hcf0 (by simp[Vs]) λO _=>?_;simp[Vs];refine Qa h2 ?_;simp[RetK,Qb O]
def Qo9{bytes e:Nat}{f:FuncId}{fn:Func}(hf:P.funcs[f]?=some fn)(hcf:Qn P [1000005] fn=some (Qch sz bytes e)){H:Hp}{z:Bool}{rows:List (List D)}(hr:rows≠[])(hb:rows.length*bytes<=140737488355328):
 Qc P f [.d (.sl z sz rows)] H (λr H'=>r=.msl (H.length+1) 0 rows.length/\H'=H++[.arr sz [],.arr sz (rows.map (List.map .d))]):=by
 cases rows with
 |nil=>exact absurd rfl hr
 |cons r rs=>
  refine Zu 2 hf hcf (by simp[Qch]) λO _=>?_;have h1:(z&&(r::rs).isEmpty)=false:=by simp
  have hb':(rs.length+1)*bytes<=140737488355328:=hb;simp[Qch];simp[appA,hb'];simp[RetK,Qi O,A.clr0]
def Qpa{bytes e:Nat}{f:FuncId}{fn:Func}(hf:P.funcs[f]?=some fn)(hcf:Qn P [1000005] fn=some (Qch sz bytes e)){H:Hp}:
 Qc P f [.d (.sl true sz [])] H (λr H'=>r=.d (.sl true sz [])/\H'=H):=by
 refine Qy hf hcf (by simp[Qch]) λO _=>?_;simp[Qch];simp[RetK,Qb O]
end
end
section
def Vx(a b:Int):Int:=if a<b then-1 else if b<a then 1 else 0
def Q7(a b:List UInt8):Int:=if Op.bytesLess a b then-1 else if Op.bytesLess a b||decide (a=b)then 0 else 1
def Qjx{f f1:FuncId}{fn fn1:Func}(hf:P.funcs[f]?=some fn)(hcf:Qn P [] fn=some (V5 f1))(hf1:P.funcs[f1]?=some fn1)(hcf1:Qn P [] fn1=some Qap){H:Hp}{k:IntKind}(a b:Int):
 Qc P f [.d (.int k a),.d (.int k b)] H (λr H'=>r=.d (.int .i64 (Vx a b))/\H'=H):=by
 have hn:∀x,Qc P f1 [.d (.int k x)] H (λr H'=>r=.d (.bool false)/\H'=H):=λx=>by refine Qy hf1 hcf1 (by simp[Qap]) λO _=>?_;simp[Qap];simp[RetK,Qb O]
 refine Qy hf hcf (by simp[V5]) λO _=>?_;simp[V5];refine Qa (hn a) ?_;simp;refine Qa (hn b) ?_;simp;refine Qh (λh=>?_) (λh=>?_)
 .simp at h;simp[RetK,Qb O,Vx,h]
 .simp;refine Qh (λh2=>?_) (λh2=>?_)
  .simp at h h2;simp[RetK,Qb O,Vx,h2];omega
  .simp at h h2;simp[RetK,Qb O,Vx];rw[if_neg (by omega),if_neg (by omega)]
end
def Qiy{H:Hp}{t sz b e:Nat}{z:Bool}{rows new:List (List D)}(ht:H[t]?=some (.tok rows.length sz e))(hf:(rows.length+new.length)*b<=140737488355328):
 appA H sz b e new (.osl z sz rows t)=some (.osl z sz (rows++new) t,H.set t (.tok (rows.length+new.length) sz e)):=by
 simp[appA,ht,hf]
@[simp]theorem Qvz(s:List UInt8):(Yb s).length=s.length:=by simp[Yb]
theorem Qks{α:Type}{s:List α}{a b:Int}(h:0<=a/\a<=b/\b<=s.length):subL s a b=some ((s.drop a.toNat).take (b.toNat-a.toNat)):=by simp[subL,h]
section
def Qyd(P:Program)(cc:FuncId)(bt:TypeId):Prop:=∀(H:Hp)(i:Nat)(x a:A),H[i]?=some (.box bt [a,x])->(a=.d .nilp\/a=.ptr i 0)->Qc P cc [.ptr i 0] H (λr H'=>r=.tup []/\H'=H.set i (.box bt [.ptr i 0,x]))
def Qrq(P:Program)(st:FuncId)(bt:TypeId):Prop:=∀(H:Hp)(i t:Nat)(a:A)(s:List UInt8),H[i]?=some (.box bt [a,.osl true 1 (Yb s) t])->H[t]?=some (.tok s.length 1 5)->s.length<=140737488355328->Qc P st [.ptr i 0] H (λr H'=>r=.d (.str s)/\H'=H)
section
variable{P:Program}{et bt:Nat}
end
end
section
section
variable{P:Program}{α:Type}{enc:α->List D}{sz:Nat}
end
end
def Qb8:∀a:List UInt8,Op.bytesLess a a=false
 |[]=>rfl
 |x::a=>by simp[Op.bytesLess,Qb8 a]
def Qix:∀a b:List UInt8,Op.bytesLess a b=false->Op.bytesLess b a=false->a=b
 |[],[],_,_=>rfl
 |[],y::b,h,_=>by simp[Op.bytesLess]at h
 |x::a,[],_,h=>by simp[Op.bytesLess]at h
 |x::a,y::b,h,h'=>by
  simp only[Op.bytesLess,Q5m,decide_eq_false_iff_not,Q5f,beq_eq_false_iff_ne,UInt8.lt_iff_toNat_lt]at h h';have hxy:x=y:=by apply UInt8.toNat_inj.1;omega
  subst hxy;have h1:=h.2.resolve_left (λe=>e rfl);have h2:=h'.2.resolve_left (λe=>e rfl);rw[Qix a b h1 h2]
def Qm1:∀a b c:List UInt8,Op.bytesLess a b=true->Op.bytesLess b c=true->Op.bytesLess a c=true
 |_,[],_,h,_=>by cases‹List UInt8›<;>simp[Op.bytesLess]at h
 |_,_::_,[],_,h=>by simp[Op.bytesLess]at h
 |[],_::_,_::_,_,_=>rfl
 |x::a,y::b,z::c,h,h'=>by
  simp only[Op.bytesLess,Q35,decide_eq_true_eq,Q2t,beq_iff_eq,UInt8.lt_iff_toNat_lt]at h h'⊢;rcases h with h|⟨rfl,h⟩<;>rcases h' with h'|⟨rfl,h'⟩
  .left;omega
  .left;exact h
  .left;exact h'
  .right;exact⟨rfl,Qm1 a b c h h'⟩
def Qri{a b:List UInt8}(h:Op.bytesLess a b=true):Op.bytesLess b a=false:=by
 cases h2:Op.bytesLess b a with
 |false=>rfl
 |true=>have:=Qm1 a b a h h2;rw[Qb8]at this;cases this
def Qah{a b:List UInt8}:Q7 a b<0↔Op.bytesLess a b=true:=by
 unfold Q7;split
 .simp_all
 .split<;>simp_all
def Qjy{a b:List UInt8}:0<Q7 a b↔Op.bytesLess b a=true:=by
 unfold Q7;split
 .rename_i h;simp[Qri h]
 .rename_i h;split
  .rename_i h2;simp[h]at h2;subst h2;simp[Qb8]
  .rename_i h2;simp[h]at h2;cases h3:Op.bytesLess b a with
   |true=>simp
   |false=>exact absurd (Qix a b (by simpa using h) h3) h2
def Vt{a b:List UInt8}:Q7 a b=0↔a=b:=by
 constructor
 .intro h;have h1:¬Q7 a b<0:=by omega
  have h2:¬0<Q7 a b:=by omega
  rw[Qah]at h1;rw[Qjy]at h2;exact Qix a b (by simpa using h1) (by simpa using h2)
 .rintro rfl;have h1:¬Q7 a a<0:=by rw[Qah,Qb8];simp
  have h2:¬0<Q7 a a:=by rw[Qjy,Qb8];simp
  omega
def Qa7:Cmp Q7 where
 refl:=λx=>Vt.2 rfl
 anti:=λx y=>by rw[Qah,Qjy]
 trans:=λx y z h1 h2=>by
  have e1:x=y\/Op.bytesLess x y=true:=by
   by_cases h:Q7 x y=0
   .exact .inl (Vt.1 h)
   .exact .inr (Qah.1 (by omega))
  have e2:y=z\/Op.bytesLess y z=true:=by
   by_cases h:Q7 y z=0
   .exact .inl (Vt.1 h)
   .exact .inr (Qah.1 (by omega))
  rcases e1 with rfl|e1<;>rcases e2 with rfl|e2
  .exact h1
  .exact h2
  .exact h1
  .have:=Qah.2 (Qm1 x y z e1 e2);omega
def Cmp.on{α β:Type}{c:β->β->Int}(h:Cmp c)(f:α->β):Cmp λx y=>c (f x) (f y):=⟨λx=>h.refl _,λx y=>h.anti _ _,λx y z=>h.trans _ _ _⟩
def Qd0{P:Program}{f f1:FuncId}{fn fn1:Func}(hf:P.funcs[f]?=some fn)(hcf:Qn P [] fn=some (V5 f1))(hf1:P.funcs[f1]?=some fn1)(hcf1:Qn P [] fn1=some Qap){H:Hp}(a b:List UInt8):
 Qc P f [.d (.str a),.d (.str b)] H (λr H'=>r=.d (.int .i64 (Q7 a b))/\H'=H):=by
 have hn:∀x,Qc P f1 [.d (.str x)] H (λr H'=>r=.d (.bool false)/\H'=H):=λx=>by refine Qy hf1 hcf1 (by simp[Qap]) λO _=>?_;simp[Qap];simp[RetK,Qb O]
 refine Qy hf hcf (by simp[V5]) λO _=>?_;simp[V5];refine Qa (hn a) ?_;simp;refine Qa (hn b) ?_;cases h:Op.bytesLess a b with
 |true=>simp[h];simp[RetK,Qb O,Q7,h]
 |false=>
  by_cases he:a=b
  .subst he;simp[h];simp[RetK,Qb O,Q7,h]
  .simp[h,he];simp[RetK,Qb O,Q7,h,he]
section
def Qsz{H:Hp}:H.Closed↔∀n,H.length<=n->∀x∈H,x.clr n=x:=by
 unfold Hp.Closed;refine forall_congr' λn=>imp_congr_right λ_=>?_;constructor
 .intro h x hx;obtain⟨i,hi,rfl⟩:=Q3h hx;have:=congrArg (λl=>l[i]?) h;simpa[hi]using this
 .intro h;exact(Q41 h).trans (List.map_id' _)
def Closed.snoc{H:Hp}(h:H.Closed){x:Ob}(hx:∀n,H.length+1<=n->x.clr n=x):Hp.Closed (H++[x]):=by
 rw[Qsz]at h⊢;intro n hn y hy;simp only[Q2l,Q3v]at hn;rcases Q2r.1 hy with h1|h1
 .exact h n (by omega) y h1
 .rw[Q3t.1 h1];exact hx n hn
def Qxj(H:Hp)(i off n:Nat):ldA H n (.ptr i off)=(match H[i]? with|some (.box _ cs)=>cutL cs off n|_=>none):=rfl
def Qwd(H:Hp)(i off:Nat)(cs:List A):stA H cs (.ptr i off)=(match H[i]? with|some (.box ty old)=>if off+cs.length<=old.length then some (H.set i (.box ty (setL old off cs)))else none|_=>none):=rfl
section
variable{P:Program}{α:Type}{enc:α->List D}{sz:Nat}
def Qzl{H:Hp}{i k j:Nat}{L:List α}{e:α}{d:D}(hi:H[i]?=some (arrE enc sz L))(hk:L[k]?=some e)(hj:(enc e)[j]?=some d):ldA H 1 (.aptr i k j)=some [.d d]:=by have hjl:=(Q11.1 hj);obtain⟨h1,h2⟩:=hjl;have:j+1<=(enc e).length:=h1;simp[ldA,hi,arrE,hk,rowE,cutL,this];rw[List.take_one];simp[hj]
end
end
section
section
variable{κ κ':K}{i j:Nat}
end
end
def Qt{α:Type}(f:α->List D){l:List α}{i:Nat}(h:i<l.length):Zam.rowAt (l.map f) (i:Int)=some (f l[i]):=by simp[Zam.rowAt,h]
def Quw{α:Type}{f:α->List D}{l:List α}{i:Nat}{x:α}(h:l[i]?=some x):Zam.rowAt (l.map f) (i:Int)=some (f x):=by simp[Zam.rowAt,h]
def Qm7(J:Nat->Fr->Hp->Prop)(_:Tag J)(m n si sn st:Nat)(i:Nat)(fr:Fr)(H:Hp):Prop:=fr si=.d (.int .i64 (i:Int))/\fr sn=.d (.int .i64 (n:Int))/\∃k,m<=k/\k<=H.length/\J (i+1) (Fr.clr k ((fr.set st (.d (.int .i64 ((i:Int)+1)))).set si (.d (.int .i64 ((i:Int)+1))))) (Hp.cut k H)
@[congr]theorem Q0a{J:Nat->Fr->Hp->Prop}{t:Tag J}{m n si sn st i:Nat}{fr fr':Fr}{H H':Hp}(h:fr=fr')(h2:H=H'):Qm7 J t m n si sn st i fr H=Qm7 J t m n si sn st i fr' H':=by rw[h,h2]
theorem Q3{J:Nat->Fr->Hp->Prop}{t:Tag J}{m n si sn st i:Nat}{fr:Fr}{H:Hp}(k:Nat)(hk:m<=k)(h:k<=H.length/\fr si=.d (.int .i64 (i:Int))/\fr sn=.d (.int .i64 (n:Int)))(hj:J (i+1) (Fr.clr k ((fr.set st (.d (.int .i64 ((i:Int)+1)))).set si (.d (.int .i64 ((i:Int)+1))))) (Hp.cut k H)):Qm7 J t m n si sn st i fr H:=⟨h.2.1,h.2.2,k,hk,h.1,hj⟩
def Qsa(si sn sb st b c:Nat)(body:C):C:=
 .seq (.ops [⟨some sb,none,.bin .lss (.t si) (.t sn)⟩] false) (.seq (.cond (.t sb) .skip (.exit b)) (.seq (.blk c body) (.ops [⟨some st,none,.bin .add (.t si) (.c (.int .i64 1))⟩,⟨some si,none,.mv (.t st)⟩] false)))
def Q8{P:Program}{n0:Nat}{Q:Ex->Fr->Hp->Prop}{fr:Fr}{H:Hp}{si sn sb st b c:Nat}{body:C}{t:Tag (Q,Qsa si sn sb st b c body)}(m n:Nat)(J:Nat->Fr->Hp->Prop)(hn:n<=4611686018427387904)(hne:(si≠sn/\si≠sb/\sn≠sb)/\(sb≠st/\sn≠st))(h1:n0<=m/\m<=H.length)(h2:fr si=.d (.int .i64 0)/\fr sn=.d (.int .i64 (n:Int)))(h3:J 0 (fr.clr m) (Hp.cut m H))(h4:∀i fr H,i<n->fr si=.d (.int .i64 (i:Int))->fr sn=.d (.int .i64 (n:Int))->J i fr H->
 AWp P n0 body (Ex.blk c (Ex.then (Qm7 J .mk m n si sn st i) Q)) (fr.set sb (.d (.bool true))) H)(h5:∀fr H,fr si=.d (.int .i64 (n:Int))->fr sn=.d (.int .i64 (n:Int))->J n fr H->Q (.exit b) (fr.set sb (.d (.bool false))) H):
 Qeu Q (Qsa si sn sb st b c body) t P n0 fr H:=by
 obtain⟨⟨n1,n2,n3⟩,n4,n5⟩:=hne;refine Wy m (λfr H=>∃i:Nat,i<=n/\fr si=.d (.int .i64 (i:Int))/\fr sn=.d (.int .i64 (n:Int))/\J i fr H) (λfr H=>match fr si with|.d (.int _ k)=>(n-k).toNat|_=>0) h1
  ⟨0,Q49 _,by simp[h2.1],by simp[h2.2],h3⟩ ?_
 rintro fr H ⟨i,hi,f1,f2,hj⟩;simp[Qsa,f1,f2];refine Qh (λh=>?_) (λh=>?_)
 .have hlt:i<n:=by simpa using h
  have hw:IntKind.i64.wrap ((i:Int)+1)=i+1:=wi64 (by omega);have hd:decide (i<n)=true:=by simpa using hlt
  rw[hd];simp only[Qyg,Qe1,Qld,Qug];refine AWp.mono _ ?_ _ _ (h4 i fr H hlt f1 f2 hj);intro e fr' H' h;have fin:Qm7 J .mk m n si sn st i fr' H'->Ex.then (AWp P n0 (.ops [⟨some st,none,.bin .add (.t si) (.c (.int .i64 1))⟩,⟨some si,none,.mv (.t st)⟩] false) (Ex.then (Again m (λfr H=>∃i:Nat,i<=n/\fr si=.d (.int .i64 (i:Int))/\fr sn=.d (.int .i64 (n:Int))/\J i fr H) (λfr H=>match fr si with|.d (.int _ k)=>(n-k).toNat|_=>0) (n-i)) Q)) (Ex.then (Again m (λfr H=>∃i:Nat,i<=n/\fr si=.d (.int .i64 (i:Int))/\fr sn=.d (.int .i64 (n:Int))/\J i fr H) (λfr H=>match fr si with|.d (.int _ k)=>(n-k).toNat|_=>0) (n-i)) Q) Ex.normal fr' H':=by
   rintro⟨g1,g2,k,k1,k2,k3⟩;simp[g1,hw];refine Qhg k k1 k2 ⟨i+1,by omega,by simp,by simp[n1.symm,n5,g2],?_⟩ ?_
   .exact k3
   .simp;omega
  cases e with
  |normal=>exact fin h
  |exit j=>
   simp only[Qrg]at h⊢;by_cases hj:j=c
   .rw[if_pos hj]at h⊢;exact fin h
   .rw[if_neg hj]at h⊢;exact h
  |ret=>exact h
 .have:i=n:=by have:¬i<n:=by simpa using h
               omega
  subst this;simp;exact h5 fr H f1 f2 hj
def Qm8(J:Nat->Fr->Hp->Prop)(_:Tag J)(m n si su sv:Nat)(i:Nat)(fr:Fr)(H:Hp):Prop:=fr si=.d (.int .i64 (i:Int))/\i<n/\∃k,m<=k/\k<=H.length/\J (i+1) (Fr.clr k (((fr.set su (.d (.int .i64 (i:Int)))).set sv (.d (.int .i64 ((i:Int)+1)))).set si (.d (.int .i64 ((i:Int)+1))))) (Hp.cut k H)
@[congr]theorem Q0b{J:Nat->Fr->Hp->Prop}{t:Tag J}{m n si su sv i:Nat}{fr fr':Fr}{H H':Hp}(h:fr=fr')(h2:H=H'):Qm8 J t m n si su sv i fr H=Qm8 J t m n si su sv i fr' H':=by rw[h,h2]
theorem Wp{J:Nat->Fr->Hp->Prop}{t:Tag J}{m n si su sv i:Nat}{fr:Fr}{H:Hp}(k:Nat)(hk:m<=k)(hi:i<n)(h:k<=H.length/\fr si=.d (.int .i64 (i:Int)))(hj:J (i+1) (Fr.clr k (((fr.set su (.d (.int .i64 (i:Int)))).set sv (.d (.int .i64 ((i:Int)+1)))).set si (.d (.int .i64 ((i:Int)+1))))) (Hp.cut k H)):Qm8 J t m n si su sv i fr H:=⟨h.2,hi,k,hk,h.1,hj⟩
def forC(si su sv c:Nat)(cnd body:C):C:=
 .seq cnd (.seq (.blk c body) (.ops [⟨some su,none,.mv (.t si)⟩,⟨some sv,none,.bin .add (.t su) (.c (.int .i64 1))⟩,⟨some si,none,.mv (.t sv)⟩] false))
def Vl{P:Program}{n0:Nat}{Q:Ex->Fr->Hp->Prop}{fr:Fr}{H:Hp}{si su sv c:Nat}{cnd body:C}{t:Tag (Q,forC si su sv c cnd body)}(m n:Nat)(J:Nat->Fr->Hp->Prop)(hn:n<=4611686018427387904)(hne:si≠su/\si≠sv/\su≠sv)(h1:n0<=m/\m<=H.length)(h2:fr si=.d (.int .i64 0))(h3:J 0 (fr.clr m) (Hp.cut m H))(h4:∀i fr H,i<=n->fr si=.d (.int .i64 (i:Int))->J i fr H->
 AWp P n0 cnd (Ex.then (AWp P n0 body (Ex.blk c (Ex.then (Qm8 J .mk m n si su sv i) Q))) Q) fr H):
 Qeu Q (forC si su sv c cnd body) t P n0 fr H:=by
 obtain⟨n1,n2,n3⟩:=hne;refine Wy m (λfr H=>∃i:Nat,i<=n/\fr si=.d (.int .i64 (i:Int))/\J i fr H) (λfr H=>match fr si with|.d (.int _ k)=>(n-k).toNat|_=>0) h1
  ⟨0,Q49 _,by simp[h2],h3⟩ ?_
 rintro fr H ⟨i,hi,f1,hj⟩;simp only[forC,Qld];refine AWp.mono _ ?_ _ _ (h4 i fr H hi f1 hj);intro e fr' H' h;cases e with
 |normal=>
  simp only[Qe1,Qld,Qug]at h⊢;refine AWp.mono _ ?_ _ _ h;intro e fr' H' h;have fin:Qm8 J .mk m n si su sv i fr' H'->AWp P n0 (.ops [⟨some su,none,.mv (.t si)⟩,⟨some sv,none,.bin .add (.t su) (.c (.int .i64 1))⟩,⟨some si,none,.mv (.t sv)⟩] false) (Ex.then (Again m (λfr H=>∃i:Nat,i<=n/\fr si=.d (.int .i64 (i:Int))/\J i fr H) (λfr H=>match fr si with|.d (.int _ k)=>(n-k).toNat|_=>0) (match fr si with|.d (.int _ k)=>(n-k).toNat|_=>0)) Q) fr' H':=by
   rintro⟨g1,g0,k,k1,k2,k3⟩;have hw:IntKind.i64.wrap ((i:Int)+1)=i+1:=wi64 (by omega);simp[g1,hw,f1];refine Qhg k k1 k2 ⟨i+1,by omega,by simp,?_⟩ ?_
   .exact k3
   .simp;omega
  cases e with
  |normal=>simp only[Qs1,Qe1]at h⊢;exact fin h
  |exit j=>
   simp only[Qrg]at h⊢;by_cases hj:j=c
   .rw[if_pos hj]at h⊢;exact fin h
   .rw[if_neg hj]at h⊢;exact h
  |ret=>exact h
 |exit j=>exact h
 |ret=>exact h
def Ex.outE(b:Nat)(E:Fr->Hp->Prop)(Q:Ex->Fr->Hp->Prop):Ex->Fr->Hp->Prop
 |.exit j,fr,H=>if j=b then E fr H else Q (.exit j) fr H
 |e,fr,H=>Q e fr H
@[simp↓]theorem Qu4(b j:Nat){E:Fr->Hp->Prop}{Q:Ex->Fr->Hp->Prop}{fr:Fr}{H:Hp}:Ex.outE b E Q (.exit j) fr H=if j=b then E fr H else Q (.exit j) fr H:=propext Q3m
@[simp↓]theorem outE_ret(b:Nat){E:Fr->Hp->Prop}{Q:Ex->Fr->Hp->Prop}{fr:Fr}{H:Hp}:Ex.outE b E Q .ret fr H=Q .ret fr H:=propext Q3m
@[simp↓]theorem Qz0(b:Nat){E:Fr->Hp->Prop}{Q:Ex->Fr->Hp->Prop}{fr:Fr}{H:Hp}:Ex.outE b E Q .normal fr H=Q .normal fr H:=propext Q3m
def Ex.outR(b:Nat)(E R:Fr->Hp->Prop):Ex->Fr->Hp->Prop
 |.exit j,fr,H=>if j=b then E fr H else False
 |.ret,fr,H=>R fr H
 |.normal,_,_=>False
@[simp↓]theorem Qu3(b j:Nat){E R:Fr->Hp->Prop}{fr:Fr}{H:Hp}:Ex.outR b E R (.exit j) fr H=if j=b then E fr H else False:=propext Q3m
@[simp↓]theorem outR_ret(b:Nat){E R:Fr->Hp->Prop}{fr:Fr}{H:Hp}:Ex.outR b E R .ret fr H=R fr H:=propext Q3m
theorem Qm{P:Program}{n0:Nat}{Q:Ex->Fr->Hp->Prop}{fr:Fr}{H:Hp}{c:C}{t:Tag (Q,c)}(b:Nat)(E R:Fr->Hp->Prop)(h:Qeu (Ex.outR b E R) c .mk P n0 fr H)(hret:∀fr H,R fr H->Q .ret fr H)(hout:∀fr H,E fr H->Q (.exit b) fr H):Qeu Q c t P n0 fr H:=
 AWp.mono (.loop c) (λe fr H h=>by
  cases e with
  |normal=>exact h.elim
  |ret=>exact hret fr H h
  |exit j=>
   simp only[Qu3]at h;by_cases hj:j=b
   .rw[if_pos hj]at h;rw[hj];exact hout fr H h
   .rw[if_neg hj]at h;exact h.elim) fr H h
def Ex.outN(E R:Fr->Hp->Prop):Ex->Fr->Hp->Prop
 |.exit _,_,_=>False
 |.ret,fr,H=>R fr H
 |.normal,fr,H=>E fr H
@[simp↓]theorem Qzz{E R:Fr->Hp->Prop}{fr:Fr}{H:Hp}:Ex.outN E R .normal fr H=E fr H:=propext Q3m
@[simp↓]theorem outN_ret{E R:Fr->Hp->Prop}{fr:Fr}{H:Hp}:Ex.outN E R .ret fr H=R fr H:=propext Q3m
theorem Qz{P:Program}{n0:Nat}{Q:Ex->Fr->Hp->Prop}{fr:Fr}{H:Hp}{c:C}{t:Tag (Q,c)}(b:Nat)(E:Fr->Hp->Prop)(h:Qeu (Ex.outE b E Q) c .mk P n0 fr H)(hout:∀fr H,E fr H->Q (.exit b) fr H):Qeu Q c t P n0 fr H:=
 AWp.mono (.loop c) (λe fr H h=>by
  cases e with
  |normal=>exact h
  |ret=>exact h
  |exit j=>
   simp only[Qu4]at h;by_cases hj:j=b
   .rw[if_pos hj]at h;rw[hj];exact hout fr H h
   .rw[if_neg hj]at h;exact h) fr H h
def Qrm{α:Type}(enc:α->List D)(sz:Nat)(L:List α):arrE enc sz L=.arr sz ((L.map enc).map (List.map .d)):=by simp[arrE,rowE]
section
open Go.Proofs
open Go.RowKit (Below)
def HR.later{κ:K}{H:Hp}{w w':World}(h:HR κ H w)(hb:Below w.heap.size w w'):HR κ H w':=by
 have hst:∀b o v,κ.σ b o=some v->b<w.heap.size:=λb o v hv=>Q4t w ⟨b,o,none⟩ (h.st b o v hv);refine⟨h.below.trans (hb.mono h.below.size),λb o v hv=>?_,λi x hx=>?_,h.dom,λi b hi=>?_,h.exσ,h.exd,h.fl⟩
 .rw[(Qbb (hb.block b (hst b o v hv)) o).1];exact h.st b o v hv
 .exact(h.ob i x hx).mono (K.le_refl κ) rfl λb hb'=>hb.block b (h.ex i b hb').2
 .have:=h.ex i b hi;have:=hb.size;omega
def leaf{P:Program}{f:FuncId}{args:List D}{x:D}(h:∀(w:World) (σ:St) (vs:List Value),(∀b o v,σ b o=some v->w.cell? ⟨b,o,none⟩=some v)->vs.length=args.length->(∀(i:Nat) (v:Value) (d:D),vs[i]?=some v->args[i]?=some d->DR σ v d)->
 Calls P f vs.toArray w λe w'=>∃v,e=.returned v/\Below w.heap.size w w'/\∀σ,DR σ v x)(H:Hp):Qc P f (args.map .d) H (λr H'=>r=.d x/\H'=H):=by
 intro κ w vs hr hl hv;refine(h w κ.σ vs hr.st (by simpa using hl) (λi v d hi hd=>(hv i v (.d d) hi (by simp[hd])).d_inv)).mono ?_;rintro e w' ⟨v,rfl,hb,hd⟩;exact⟨v,κ,_,H,rfl,K.le_refl κ,hr.later hb,.d (hd _),rfl,rfl⟩
def DR.str_inv{σ:St}{v:Value}{s:List UInt8}(h:DR σ v (.str s)):v=.string ⟨s.toArray⟩:=by
 cases h with
 |str u=>simp
def DR.int_inv{σ:St}{v:Value}{k:IntKind}{n:Int}(h:DR σ v (.int k n)):v=.int k n:=by cases h;rfl
def DR.strOf{σ:St}(l:List UInt8):DR σ (.string ⟨l.toArray⟩) (.str l):=by have:=DR.str (σ:=σ) ⟨l.toArray⟩;simpa using this
def Qc.oslAt{P:Program}{f:FuncId}{H:Hp}{Q:A->Hp->Prop}{pre l:List A}{z:Bool}{s t:Nat}{rows:List (List D)}(h:Qc P f (pre++.d (.sl z s rows)::l) H Q):Qc P f (pre++.osl z s rows t::l) H Q:=by
 intro κ w vs hr hl hv;refine h κ w vs hr (by simpa using hl) λi v a hi ha=>?_;by_cases e:i=pre.length
 .subst e;have h1:=hv pre.length v (.osl z s rows t) hi (by simp);rw[Q2j (Q14 _),Q6d]at ha;cases ha
  cases h1 with
  |osl hd _=>exact .d hd
 .refine hv i v a hi ?_;by_cases hlt:i<pre.length
  .rw[Q19 hlt]at ha⊢;exact ha
  .rw[Q2j (by omega)]at ha⊢;obtain⟨k,hk⟩:∃k,i-pre.length=k+1:=⟨i-pre.length-1,by omega⟩;rw[hk]at ha⊢;exact ha
def Qc.osl1{P:Program}{f:FuncId}{H:Hp}{Q:A->Hp->Prop}{l:List A}{z:Bool}{s t:Nat}{rows:List (List D)}(h:Qc P f (.d (.sl z s rows)::l) H Q):Qc P f (.osl z s rows t::l) H Q:=Qc.oslAt (pre:=[]) h
def Qcu(cc et:Nat):IFn:=by
 have h:=Ix.J [] Tryz.f181 [(200,cc)] [(5,et)];conv at h=>arg 1;reduce
 exact h.p
def Qkn{P:Program}{f cc bt et:Nat}{fn:Func}(hf:P.funcs[f]?=some fn)(hcf:Qn P [] fn=some (Qcu cc et))(hcc:Qyd P cc bt)(H:Hp)(i t:Nat)(a:A)(bs:List UInt8)(c:UInt8)(hi:H[i]?=some (.box bt [a,.osl true 1 (Yb bs) t]))(ha:a=.d .nilp\/a=.ptr i 0)(ht:H[t]?=some (.tok bs.length 1 et))(hb:bs.length+1<=140737488355328):
 Qc P f [.ptr i 0,.d (.int .u8 c.toNat)] H (λr H'=>r=.d .nili/\H'=(H.set i (.box bt [.ptr i 0,.osl true 1 (Yb (bs++[c])) t])).set t (.tok (bs++[c]).length 1 et)):=by
 have hit:i≠t:=λe=>by subst e;rw[hi]at ht;cases ht
 have hil:i<H.length:=(Q11.1 hi).1;have htl:t<H.length:=(Q11.1 ht).1;refine Qy hf hcf (by simp[Qcu]) λO hlo=>?_;simp[Qcu];refine Qa (hcc _ _ _ _ hi ha) ?_;have hbl:(Yb bs).length=bs.length:=by simp[Yb]
 have ht':(H.set i (.box bt [.ptr i 0,.osl true 1 (Yb bs) t]))[t]?=some (.tok (Yb bs).length 1 et):=by rw[Q15 hit,ht,hbl]
 have htv:H[t]=Ob.tok bs.length 1 et:=(Q11.1 ht).2;have hb':bs.length<=140737488355327:=by omega
 simp[hil,htl,hit,htv,hb',appA,hbl,Ne.symm hit];simp[RetK,Hp.cut_set,Qb O,hil,htl,Yb];rw[Q4j _ _ hit,Q4j _ _ hit,Q32]
end
section
open Go.Proofs
def Qcw:IFn:=by
 have h:=Ix.J [] Tryz.f52 [] [];conv at h=>arg 1;reduce
 exact h.p
def Qbq:IFn:=by
 have h:=Ix.J [] Tryz.f53 [] [];conv at h=>arg 1;reduce
 exact h.p
def Qk7:IFn:=by
 have h:=Ix.J [] Tryz.f51 [] [];conv at h=>arg 1;reduce
 exact h.p
def Qdu(fk fd fl:Nat):IFn:=by
 have h:=Ix.J [] Tryz.f32 [(51,fk),(52,fd),(53,fl)] [];conv at h=>arg 1;reduce
 exact h.p
def Wc(b:UInt8):Bool:=decide ((48:Int)<=b.toNat)&&decide ((b.toNat:Int)<=57)
def Wh(b:UInt8):Bool:=(decide ((97:Int)<=b.toNat)&&decide ((b.toNat:Int)<=122))||(decide ((65:Int)<=b.toNat)&&decide ((b.toNat:Int)<=90))||decide ((b.toNat:Int)=95)
def Yu:List (List UInt8):=[[117,115,101],[100,101,102],[108,101,116],[105,102],[101,108,115,101],[119,104,105,108,101],[112,114,105,110,116],[114,101,116,117,114,110],[102,110],[105,110,112,117,116],[105,110,116],[115,116,114],[100,121,110]]
def Yz(s:List UInt8):Bool:=match s with
 |[]=>false
 |b::r=>decide ((b::r).length<=40)&& !decide ((b::r)∈Yu)&& !Wc b&&(b::r).all λc=>Wh c||Wc c
def Qq9{f:FuncId}{fn:Func}(hf:P.funcs[f]?=some fn)(hcf:Qn P [] fn=some Qcw)(b:UInt8)(H:Hp):Qc P f [.d (.int .u8 b.toNat)] H (λr H'=>r=.d (.bool (Wc b))/\H'=H):=by
 refine Qy hf hcf (by simp[Qcw]) λO _=>?_;simp[Qcw];refine Qj0 (by simp) (λh=>?_) (λh=>?_)
 .simp;simp at h;simp[RetK,Qb O,Wc,h]
 .simp;simp at h;simp[RetK,Qb O,Wc];omega
def Qot{f:FuncId}{fn:Func}(hf:P.funcs[f]?=some fn)(hcf:Qn P [] fn=some Qbq)(b:UInt8)(H:Hp):Qc P f [.d (.int .u8 b.toNat)] H (λr H'=>r=.d (.bool (Wh b))/\H'=H):=by
 refine Qy hf hcf (by simp[Qbq]) λO _=>?_;simp[Qbq];generalize ha:decide ((97:Int)<=b.toNat)=a;generalize hb:decide ((b.toNat:Int)<=122)=c;generalize hd:decide ((65:Int)<=b.toNat)=d;generalize he:decide ((b.toNat:Int)<=90)=e;have hl:Wh b=(a&&c||d&&e||decide ((b.toNat:Int)=95)):=by simp only[Wh,ha,hb,hd,he]
 cases a<;>cases c<;>cases d<;>cases e<;>simp[ha,hb,hd,he]<;>simp[RetK,Qb O,hl]
def Qqk{f:FuncId}{fn:Func}(hf:P.funcs[f]?=some fn)(hcf:Qn P [] fn=some Qk7)(s:List UInt8)(H:Hp):Qc P f [.d (.str s)] H (λr H'=>r=.d (.bool (decide (s∈Yu)))/\H'=H):=by
 refine Qy hf hcf (by simp[Qk7]) λO _=>?_;simp[Qk7];have hrows:[[D.str [117,115,101]],[D.str [100,101,102]],[D.str [108,101,116]],[D.str [105,102]],[D.str [101,108,115,101]],[D.str [119,104,105,108,101]],[D.str [112,114,105,110,116]],[D.str [114,101,116,117,114,110]],[D.str [102,110]],[D.str [105,110,112,117,116]],[D.str [105,110,116]],[D.str [115,116,114]],[D.str [100,121,110]]]=Yu.map λx=>[D.str x]:=rfl;rw[hrows];refine Qm 0 (λfr H'=>s∉Yu/\H'=H) (λfr H'=>fr 2=.d (.bool true)/\s∈Yu/\H'=H) ?_ ?_ ?_
 .refine Vl H.length Yu.length (λi fr H'=>fr 0=.d (.str s)/\fr 3=.d (.sl false 1 (Yu.map λx=>[D.str x]))/\s∉Yu.take i/\H'=H) (by decide) (by decide) (by simp) (by simp) ?_ ?_
  .simp[Qb O]
  .rintro i fr H' hi f4 ⟨f0,f3,hn,rfl⟩;simp[f4,f3];refine Qh (λh=>?_) (λh=>?_)
   .have hlt:i<Yu.length:=by simpa using h
    have hr:=Qt (λx=>[D.str x]) hlt;have hm:=Q20 hlt;have ht:Yu.take (i+1)=Yu.take i++[Yu[i]]:=Q2e hlt;generalize Yu[i]=x at hr hm ht;simp[f4,f3,hr,f0];refine Qh (λh=>?_) (λh=>?_)
    .have e:x=s:=by simpa using h
     simp;exact e▸hm
    .have e:x≠s:=by simpa using h
     simp;refine Wp H'.length (Q14 _) hlt (by simp[f4]) ?_;simp[f0,f3,Qb O,ht,hn];exactλq=>e q.symm
   .have hii:i=Yu.length:=by have:¬i<Yu.length:=by simpa using h
                             omega
    rw[hii,Q2f (Q14 _)]at hn;simp[hn]
 .rintro fr H' ⟨f2,hm,rfl⟩;simp;simp[RetK,Qb O,f2,hm]
 .rintro fr H' ⟨hm,rfl⟩;simp;simp[RetK,Qb O,hm]
def Qov{f fk fd fl:FuncId}{fn:Func}(hf:P.funcs[f]?=some fn)(hcf:Qn P [] fn=some (Qdu fk fd fl))(hk:∀s H,Qc P fk [.d (.str s)] H (λr H'=>r=.d (.bool (decide (s∈Yu)))/\H'=H))(hd:∀(b:UInt8) H,Qc P fd [.d (.int .u8 b.toNat)] H (λr H'=>r=.d (.bool (Wc b))/\H'=H))(hl:∀(b:UInt8) H,Qc P fl [.d (.int .u8 b.toNat)] H (λr H'=>r=.d (.bool (Wh b))/\H'=H))(s:List UInt8)(H:Hp):
 Qc P f [.d (.str s)] H (λr H'=>r=.d (.bool (Yz s))/\H'=H):=by
 refine Qy hf hcf (by simp[Qdu]) λO _=>?_;cases s with
 |nil=>simp[Qdu];simp[RetK,Qb O,Yz]
 |cons b r=>
 have hne:¬(((b::r).length:Int)=0):=by simp;omega
 generalize hS:b::r=S at hne;have hb0:Yc S 0=some b:=by subst hS;rfl
 have hN:Yz S=(decide (S.length<=40)&& !decide (S∈Yu)&& !Wc b&&S.all λc=>Wh c||Wc c):=by subst hS;rfl
 have hne':¬S=[]:=by subst hS;simp
 by_cases g1:(40:Int)<S.length
 case pos=>
  have:¬S.length<=40:=by omega
  simp[Qdu,hne,hne',g1];simp[RetK,Qb O,hN,this]
 have g1':S.length<=40:=by omega
 simp[Qdu,hne,hne',g1];refine Qa (hk S _) ?_;by_cases g2:S∈Yu
 case pos=>simp[g2];simp[RetK,Qb O,hN,g2]
 simp[g2,hb0];refine Qa (hd b _) ?_;cases g3:Wc b with
 |true=>simp;simp[RetK,Qb O,hN,g3]
 |false=>
 simp;refine Qm 0 (λfr H'=>(S.all λc=>Wh c||Wc c)=true/\H'=H) (λfr H'=>fr 2=.d (.bool false)/\(S.all λc=>Wh c||Wc c)=false/\H'=H) ?_ ?_ ?_
 .refine Vl H.length S.length (λi fr H'=>fr 0=.d (.str S)/\(∀c∈S.take i,(Wh c||Wc c)=true)/\H'=H) (by omega) (by decide) (by simp) (by simp) ?_ ?_
  .simp[Qb O]
  .rintro i fr H' hi f3 ⟨f0,hA,rfl⟩;simp[f3,f0];refine Qh (λh=>?_) (λh=>?_)
   .have hlt:i<S.length:=by simpa using h
    have hb:Yc S (i:Int)=some S[i]:=by simp[Yc,hlt]
    have hm:=Q20 hlt;have ht:S.take (i+1)=S.take i++[S[i]]:=Q2e hlt;generalize S[i]=c at hb hm ht;simp[f3,f0,hb];refine Qa (hl c _) ?_;cases e1:Wh c with
    |true=>
     simp;refine Wp H'.length (Q14 _) hlt (by simp[f3]) ?_;simp[f0,Qb O,ht];intro q hq;rcases hq with hq|rfl
     .simpa using hA q hq
     .exact .inl e1
    |false=>
     simp[f3,f0,hb];refine Qa (hd c _) ?_;cases e2:Wc c with
     |true=>
      simp;refine Wp H'.length (Q14 _) hlt (by simp[f3]) ?_;simp[f0,Qb O,ht];intro q hq;rcases hq with hq|rfl
      .simpa using hA q hq
      .exact .inr e2
     |false=>simp;exact⟨c,hm,e1,e2⟩
   .have hii:i=S.length:=by have:¬i<S.length:=by simpa using h
                            omega
    rw[hii,Q2f (Q14 _)]at hA;simp;simpa using hA
 .rintro fr H' ⟨f2,hm,rfl⟩;simp;simp[RetK,Qb O,f2,hN,hm]
 .rintro fr H' ⟨hm,rfl⟩;simp;simp[RetK,Qb O,hN,hm,g1',g2,g3]
end
section
inductive T where
 |mk (k:Int) (z:Bool) (ns:List (List UInt8)) (y:Bool) (ps:List T)
def Qbu(x:List UInt8):List D:=[.str x]
section
variable{P:Program}{bt:Nat}
end
end
section
open Go.Proofs
def Qgc(c1 c2 c3 t1 t2:Nat):IFn:=by
 have h:=Ix.J [7] Tryz.f60 [(86,c1),(87,c2),(88,c3)] [(167,t1),(47,t2)];conv at h=>arg 1;reduce
 exact h.p
def Qdi(c1 c2:Nat):IFn:=by
 have h:=Ix.J [] Tryz.f68 [(99,c1),(98,c2)] [];conv at h=>arg 1;reduce
 exact h.p
def Z9(c1 c2 c3:Nat):IFn:=by
 have h:=Ix.J [] Tryz.f48 [(67,c1),(68,c2),(69,c3)] [];conv at h=>arg 1;reduce
 exact h.p
def Qh1(c1:Nat):IFn:=by
 have h:=Ix.J [] Tryz.f86 [(122,c1)] [];conv at h=>arg 1;reduce
 exact h.p
def Qfh(c1 c2 c3 c4:Nat):IFn:=by
 have h:=Ix.J [] Tryz.f87 [(123,c1),(124,c2),(125,c3),(126,c4)] [];conv at h=>arg 1;reduce
 exact h.p
def Qfg(c1 c2 c3 c4 c5 c6 c7 c8 t1:Nat):IFn:=by
 have h:=Ix.J [] Tryz.f88 [(123,c1),(67,c2),(127,c3),(68,c4),(69,c5),(128,c6),(129,c7),(130,c8)] [(47,t1)];conv at h=>arg 1;reduce
 exact h.p
def Qgd(c1:Nat):IFn:=by
 have h:=Ix.J [] Tryz.f98 [(146,c1)] [];conv at h=>arg 1;reduce
 exact h.p
def Qee:IFn:=by
 have h:=Ix.J [] Tryz.f146 [] [];conv at h=>arg 1;reduce
 exact h.p
def Qdh:IFn:=by
 have h:=Ix.J [] Tryz.f99 [] [];conv at h=>arg 1;reduce
 exact h.p
def Qbn:IFn:=by
 have h:=Ix.J [] Tryz.f123 [] [];conv at h=>arg 1;reduce
 exact h.p
def Qdj:IFn:=by
 have h:=Ix.J [] Tryz.f124 [] [];conv at h=>arg 1;reduce
 exact h.p
def Qfi:IFn:=by
 have h:=Ix.J [] Tryz.f125 [] [];conv at h=>arg 1;reduce
 exact h.p
def Qff:IFn:=by
 have h:=Ix.J [] Tryz.f126 [] [];conv at h=>arg 1;reduce
 exact h.p
def Qfd(c1 c2:Nat):IFn:=by
 have h:=Ix.J [] Tryz.f127 [(123,c1),(160,c2)] [];conv at h=>arg 1;reduce
 exact h.p
def Qdl(c1 c2:Nat):IFn:=by
 have h:=Ix.J [] Tryz.f160 [(67,c1),(69,c2)] [];conv at h=>arg 1;reduce
 exact h.p
def Qhz(c1:Nat):IFn:=by
 have h:=Ix.J [] Tryz.f129 [(162,c1)] [];conv at h=>arg 1;reduce
 exact h.p
def Qfe(c1 c2:Nat):IFn:=by
 have h:=Ix.J [] Tryz.f130 [(163,c1),(164,c2)] [];conv at h=>arg 1;reduce
 exact h.p
def Zb(c1 c2 c3 t1 t2:Nat):IFn:=by
 have h:=Ix.J [4] Tryz.f162 [(180,c1),(181,c2),(182,c3)] [(264,t1),(5,t2)];conv at h=>arg 1;reduce
 exact h.p
def Qb6:IFn:=by
 have h:=Ix.J [] Tryz.f163 [] [];conv at h=>arg 1;reduce
 exact h.p
end
end Go.Zam
