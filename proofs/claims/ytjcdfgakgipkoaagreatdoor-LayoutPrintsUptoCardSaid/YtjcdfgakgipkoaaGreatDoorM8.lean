/-
  Texts of one proof, one behind the other.
-/
import Derived.Test.YtjcdfgakgipkoaaGreatDoorM6
import Derived.Test.YtjcdfgakgipkoaaGreatDoorM7
import Derived.Test.YtjcdfgakgipkoaaGreatDoorM5
import Derived.Test.YtjcdfgakgipkoaaGreatDoorM4
import Derived.ProofKit
set_option linter.all false
set_option maxRecDepth 100000
set_option maxHeartbeats 4000000
namespace Go.Proofs.Zl
section
open Go Go.Zam Go.Proofs
open Go.RowKit (Below)
theorem lcf3:compF Tryz.prog [] Tryz.f3=some (irLyPrints 4 5 6 7 8 9 25):=by kernel_rfl
theorem lh3:Has Tryz.prog 3 (irLyPrints 4 5 6 7 8 9 25):=⟨_,Tryz.func3,lcf3⟩
theorem lcf5:compF Tryz.prog [] Tryz.f5=some (irLyAwake 12 6 10 13 25):=by kernel_rfl
theorem lh5:Has Tryz.prog 5 (irLyAwake 12 6 10 13 25):=⟨_,Tryz.func5,lcf5⟩
theorem lcf6:compF Tryz.prog [] Tryz.f6=some (irLyPrint 7 14 15 25 52):=by kernel_rfl
theorem lh6:Has Tryz.prog 6 (irLyPrint 7 14 15 25 52):=⟨_,Tryz.func6,lcf6⟩
theorem lcf7:compF Tryz.prog [] Tryz.f7=some (irLyRight 16 17 25):=by kernel_rfl
theorem lh7:Has Tryz.prog 7 (irLyRight 16 17 25):=⟨_,Tryz.func7,lcf7⟩
theorem lcf9:compF Tryz.prog [] Tryz.f9=some (irLyTSame 18 9 25):=by kernel_rfl
theorem lh9:Has Tryz.prog 9 (irLyTSame 18 9 25):=⟨_,Tryz.func9,lcf9⟩
theorem lcf13:compF Tryz.prog [] Tryz.f13=some (irLySame 26):=by kernel_rfl
theorem lh13:Has Tryz.prog 13 (irLySame 26):=⟨_,Tryz.func13,lcf13⟩
theorem lcf14:compF Tryz.prog [6000045,6000054,6000074,6000093,6000113] Tryz.f14=some (irLyNode 14 27 28 29 30 31 32 33 25):=by kernel_rfl
theorem lh14:HasT Tryz.prog [6000045,6000054,6000074,6000093,6000113] 14 (irLyNode 14 27 28 29 30 31 32 33 25):=⟨_,Tryz.func14,lcf14⟩
theorem lcf17:compF Tryz.prog [] Tryz.f17=some (irLyR 34 17 35 36 37 38 39 40 41 25):=by kernel_rfl
theorem lh17:Has Tryz.prog 17 (irLyR 34 17 35 36 37 38 39 40 41 25):=⟨_,Tryz.func17,lcf17⟩
theorem lcf18:compF Tryz.prog [] Tryz.f18=some (irLyEqf 25):=by kernel_rfl
theorem lh18:Has Tryz.prog 18 (irLyEqf 25):=⟨_,Tryz.func18,lcf18⟩
theorem lcf29:compF Tryz.prog [] Tryz.f29=some (irLyClosed 56 30 27 14):=by kernel_rfl
theorem lh29:Has Tryz.prog 29 (irLyClosed 56 30 27 14):=⟨_,Tryz.func29,lcf29⟩
theorem lcf30:compF Tryz.prog [] Tryz.f30=some (irLyTyped 28 14 25):=by kernel_rfl
theorem lh30:Has Tryz.prog 30 (irLyTyped 28 14 25):=⟨_,Tryz.func30,lcf30⟩
theorem lcf31:compF Tryz.prog [] Tryz.f31=some (irLyBlock 27 57 14 25):=by kernel_rfl
theorem lh31:Has Tryz.prog 31 (irLyBlock 27 57 14 25):=⟨_,Tryz.func31,lcf31⟩
theorem lcf32:compF Tryz.prog [] Tryz.f32=some (irLyStmt 28 14 27 25):=by kernel_rfl
theorem lh32:Has Tryz.prog 32 (irLyStmt 28 14 27 25):=⟨_,Tryz.func32,lcf32⟩
theorem lcf33:compF Tryz.prog [6000053,6000074,6000095,6000014] Tryz.f33=some (irLyExpr 58 14 28 56 59 25):=by kernel_rfl
theorem lh33:HasT Tryz.prog [6000053,6000074,6000095,6000014] 33 (irLyExpr 58 14 28 56 59 25):=⟨_,Tryz.func33,lcf33⟩
theorem lcf34:compF Tryz.prog [] Tryz.f34=some (irLyWorded 60 61 62 25):=by kernel_rfl
theorem lh34:Has Tryz.prog 34 (irLyWorded 60 61 62 25):=⟨_,Tryz.func34,lcf34⟩
theorem lcf35:compF Tryz.prog [] Tryz.f35=some (irLyRClosed 17 37):=by kernel_rfl
theorem lh35:Has Tryz.prog 35 (irLyRClosed 17 37):=⟨_,Tryz.func35,lcf35⟩
theorem lcf36:compF Tryz.prog [] Tryz.f36=some (irLyAll 17 25):=by kernel_rfl
theorem lh36:Has Tryz.prog 36 (irLyAll 17 25):=⟨_,Tryz.func36,lcf36⟩
theorem lcf37:compF Tryz.prog [] Tryz.f37=some (irLyRTyped 63 17 25):=by kernel_rfl
theorem lh37:Has Tryz.prog 37 (irLyRTyped 63 17 25):=⟨_,Tryz.func37,lcf37⟩
theorem lcf38:compF Tryz.prog [] Tryz.f38=some (irLyRStmt 17 25):=by kernel_rfl
theorem lh38:Has Tryz.prog 38 (irLyRStmt 17 25):=⟨_,Tryz.func38,lcf38⟩
theorem lcf39:compF Tryz.prog [] Tryz.f39=some (irLyRExpr 64 65 17 25):=by kernel_rfl
theorem lh39:Has Tryz.prog 39 (irLyRExpr 64 65 17 25):=⟨_,Tryz.func39,lcf39⟩
theorem lcf40:compF Tryz.prog [] Tryz.f40=some (irLyRBlock 17 25):=by kernel_rfl
theorem lh40:Has Tryz.prog 40 (irLyRBlock 17 25):=⟨_,Tryz.func40,lcf40⟩
theorem lcf41:compF Tryz.prog [] Tryz.f41=some (irLyRE 66 39 36 63 17 25):=by kernel_rfl
theorem lh41:Has Tryz.prog 41 (irLyRE 66 39 36 63 17 25):=⟨_,Tryz.func41,lcf41⟩
theorem lcf56:compF Tryz.prog [] Tryz.f56=some (irLyList 28 14 25):=by kernel_rfl
theorem lh56:Has Tryz.prog 56 (irLyList 28 14 25):=⟨_,Tryz.func56,lcf56⟩
theorem lcf57:compF Tryz.prog [] Tryz.f57=some (irLyLine 27 28):=by kernel_rfl
theorem lh57:Has Tryz.prog 57 (irLyLine 27 28):=⟨_,Tryz.func57,lcf57⟩
theorem lcf58:compF Tryz.prog [] Tryz.f58=some (irLyTwo 14 28):=by kernel_rfl
theorem lh58:Has Tryz.prog 58 (irLyTwo 14 28):=⟨_,Tryz.func58,lcf58⟩
theorem lcf60:compF Tryz.prog [] Tryz.f60=some (irLyNamed):=by kernel_rfl
theorem lh60:Has Tryz.prog 60 (irLyNamed):=⟨_,Tryz.func60,lcf60⟩
theorem lcf61:compF Tryz.prog [] Tryz.f61=some (irLyOne 24):=by kernel_rfl
theorem lh61:Has Tryz.prog 61 (irLyOne 24):=⟨_,Tryz.func61,lcf61⟩
theorem lcf63:compF Tryz.prog [] Tryz.f63=some (irLyIsType 25):=by kernel_rfl
theorem lh63:Has Tryz.prog 63 (irLyIsType 25):=⟨_,Tryz.func63,lcf63⟩
theorem lcf64:compF Tryz.prog [] Tryz.f64=some (irLyIsExpr 25):=by kernel_rfl
theorem lh64:Has Tryz.prog 64 (irLyIsExpr 25):=⟨_,Tryz.func64,lcf64⟩
theorem lcf65:compF Tryz.prog [] Tryz.f65=some (irLyHeight 25):=by kernel_rfl
theorem lh65:Has Tryz.prog 65 (irLyHeight 25):=⟨_,Tryz.func65,lcf65⟩
theorem lcf66:compF Tryz.prog [] Tryz.f66=some (irLyRTwo 39):=by kernel_rfl
theorem lh66:Has Tryz.prog 66 (irLyRTwo 39):=⟨_,Tryz.func66,lcf66⟩
theorem lcf26:compF Tryz.prog [3] Tryz.f26=some (irLyComments 9):=by kernel_rfl
theorem lh26:HasT Tryz.prog [3] 26 (irLyComments 9):=⟨_,Tryz.func26,lcf26⟩
theorem kindCalls (k f t a:Int) (wd:ByteArray) (ks:Value) (w:World) (hk:0≤k∧k < 35) (s:ByteArray) (hc:w.cell? ⟨0,k.toNat,none⟩=some (.string s)) :
 Calls Tryz.prog 59 #[.agg #[.int .i64 k,.int .i64 f,.int .i64 t,.string wd,.int .i64 a,ks]] w fun e w'=>e = .returned (.string s)∧Below w.heap.size w w':=by
 go_enter Tryz.func59,Tryz.ntmps59
 have h0:0 < w.heap.size:=by
  obtain ⟨cs,ty,fr,hh⟩:=cells_of_cell hc
  exact (Array.getElem?_eq_some_iff.1 hh).1
 have hc':∀ o,(w.alloc o).cell? ⟨0,k.toNat,none⟩=some (.string s):=fun o=>(World.cell?_alloc_lt (w:=w) (o:=o) (a:=⟨0,k.toNat,none⟩) h0).trans hc
 go_wp2
 go_ret
 exact ⟨rfl,(Below.refl _ w).alloc (Nat.le_refl _) _⟩
theorem kindOk {H0:Hp} (hN:NamesG 0 H0):KindOk Tryz.prog H0 59:=by
 intro n H hp hk κ w vs hr hl hv
 obtain ⟨k,f,t,wd,a,z,ks⟩:=n
 simp only [N.k] at hk ⊢
 rw [N.v_mk] at hv
 match vs,hl with
 | [v0],_ =>
 have h0:=hv 0 v0 _ rfl rfl
 cases h0 with
 | agg us _ hul hu =>
 match us,hul with
 | [u0,u1,u2,u3,u4,u5],_ =>
 have e0:=(hu 0 u0 _ rfl rfl).d_inv.int_inv
 have e1:=(hu 1 u1 _ rfl rfl).d_inv.int_inv
 have e2:=(hu 2 u2 _ rfl rfl).d_inv.int_inv
 have e3:=(hu 3 u3 _ rfl rfl).d_inv.str_inv
 have e4:=(hu 4 u4 _ rfl rfl).d_inv.int_inv
 subst e0; subst e1; subst e2; subst e3; subst e4
 refine (kindCalls k f t a _ u5 w hk _ (names_of hr hp hN k.toNat (by omega))).mono ?_
 rintro e w' ⟨rfl,hb⟩
 refine ⟨_,κ,_,H,rfl,K.le_refl κ,hr.later hb,?_,rfl,rfl⟩
 exact .d (.str _)
theorem lcfWS:compF Tryz.prog [] Tryz.f28=some (irWrite 55):=by kernel_rfl
theorem lcfSame6:compF Tryz.prog [] Tryz.f8=some (irR6Same 8 25):=by kernel_rfl
theorem copy52:CopyOk3 Tryz.prog 55 52:=copy3 lay240 bldExtra.toX72 (by kernel_rfl)
theorem string52:StringOk3 Tryz.prog 15 52:=string3 lay169 bldExtra rfl
theorem wsOk {H0:Hp}:WsOk Tryz.prog 52 H0 28:=fun d s=>Has.ws3 ⟨_,Tryz.func28,lcfWS⟩ copy52 d s
theorem wbOk {H0:Hp}:WbOk Tryz.prog 52 H0 27:=fun d c=>Has.wb3 ⟨_,Tryz.func27,cfWB⟩ copy52 d c
def LF:LyF := { worded:=34,rclosed:=35,all:=36,rtyped:=37,rstmt:=38,rexpr:=39,rblock:=40,re:=41,istype:=63,isexpr:=64,height:=65,rtwo:=66,named:=60,one:=61,isname:=62,lex:=24 }
theorem lexT {H0:Hp} (hG:TabsG 1 2 3 4 H0):LexT Tryz.prog H0 24:=fun s hs H hH=>lexOk hG s hs H hH
theorem lyHas {H0:Hp} (hG:TabsG 1 2 3 4 H0):LyHas Tryz.prog H0 17 LF 25 where
 right:=lh17
 worded:=lh34
 rclosed:=lh35
 all:=lh36
 rtyped:=lh37
 rstmt:=lh38
 rexpr:=lh39
 rblock:=lh40
 re:=lh41
 istype:=lh63
 isexpr:=lh64
 height:=lh65
 rtwo:=lh66
 named:=lh60
 one:=lh61
 isname:=isNameOk
 lex:=lexT hG
theorem rightT {H0:Hp} (hG:TabsG 1 2 3 4 H0) (n:N) (hk:n.k=1) (ht:∃ us,Tr .file 0 n us) (hd:n.depth≤60) (hs:n.size≤1048576):Tt Tryz.prog H0 7 [n.v] (.bool true):=by
 obtain ⟨us,ht⟩:=ht
 exact lh7.lyRight ph16 n hk ((lyHas hG).ok n .file 0 us ht (by rw [hk]; decide) hs) hd hs
theorem nodeT {H0:Hp} (hN:NamesG 0 H0) (n:N):NodeOk Tryz.prog 52 H0 14 n:=(lh14.lyNode lh29 lh30 lh31 lh57 lh32 lh33 lh58 lh56 wsOk wbOk (kindOk hN) n).1
theorem printT {H0:Hp} (hG:TabsG 1 2 3 4 H0) (hN:NamesG 0 H0):PrT Tryz.prog H0 6:=fun n us ht hs hd hl H hH =>
 lh6.lyPrint (rightT hG) string52 (fun n us ht hs hd H b t a bs hp=>lh14.lyFile wbOk (nodeT hN) n 0 us ht hs (by omega) H b t a bs hp) n us ht hs hd hl H hH
theorem of7T {H0:Hp}:OfT Tryz.prog H0 4:=fun s hs H _=>refOfOk s hs H
theorem ofT {H0:Hp} (hG:TabsG 1 2 3 4 H0):OfT Tryz.prog H0 12:=fun s hs H hH=>ofOk hG s hs H hH
theorem lex4T {H0:Hp}:LexT Tryz.prog H0 10:=fun s hs H _=>lex4Ok s hs H
theorem awakeT' {H0:Hp} (hG:TabsG 1 2 3 4 H0) (hN:NamesG 0 H0):Tt Tryz.prog H0 5 [] (.bool true):=lh5.lyAwake (ofT hG) (printT hG hN) lex4T lh13 lh26
theorem lawOk {H0:Hp} (hG:TabsG 1 2 3 4 H0) (hN:NamesG 0 H0) (s:Bs) (hs:s.length≤1048576):Tt Tryz.prog H0 3 [.d (.str s)] (.bool true) :=
 lh3.lyPrints of7T (awakeT' hG hN) (printT hG hN) (rightT hG) ⟨_,Tryz.func8,lcfSame6⟩ lh9 lh18 (by kernel_rfl) s hs
end
end Go.Proofs.Zl
