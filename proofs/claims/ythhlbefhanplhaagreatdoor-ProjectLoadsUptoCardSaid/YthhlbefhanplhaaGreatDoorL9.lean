/-
  Texts of one proof, one behind the other.
-/
import Derived.Test.YthhlbefhanplhaaGreatDoorL7
import Derived.Test.YthhlbefhanplhaaGreatDoorL8
import Derived.Test.YthhlbefhanplhaaGreatDoorL3
import Derived.Test.YthhlbefhanplhaaGreatDoorL5
import Derived.Test.YthhlbefhanplhaaGreatDoorProg
import Derived.KernelRfl
set_option linter.all false
set_option maxRecDepth 100000
set_option maxHeartbeats 4000000
namespace Go.Proofs.Zi
section
open Go Go.Zam Go.Proofs
theorem Qpr:SortU Tryz.prog 68 69 102 129 130 167 206 70 51 87 49 where
 clone:=⟨_,Tryz.func68,by kernel_rfl⟩
 srt:=⟨_,Tryz.func69,by kernel_rfl⟩
 stb:=⟨_,Tryz.func102,by kernel_rfl⟩
 ins:=⟨_,Tryz.func129,by kernel_rfl⟩
 sym:=⟨_,Tryz.func130,by kernel_rfl⟩
 rot:=⟨_,Tryz.func167,by kernel_rfl⟩
 swp:=⟨_,Tryz.func206,by kernel_rfl⟩
 cmpU:=⟨_,Tryz.func70,by kernel_rfl⟩
 kCmpU:=by kernel_rfl
 cmpS:=⟨_,Tryz.func51,by kernel_rfl⟩
 nan:=⟨_,Tryz.func87,by kernel_rfl⟩
theorem Qxe:SortD Tryz.prog 57 58 89 110 111 136 188 59 51 87 61 90 62 91 60 69 where
 clone:=⟨_,Tryz.func57,by kernel_rfl⟩
 srt:=⟨_,Tryz.func58,by kernel_rfl⟩
 stb:=⟨_,Tryz.func89,by kernel_rfl⟩
 ins:=⟨_,Tryz.func110,by kernel_rfl⟩
 sym:=⟨_,Tryz.func111,by kernel_rfl⟩
 rot:=⟨_,Tryz.func136,by kernel_rfl⟩
 swp:=⟨_,Tryz.func188,by kernel_rfl⟩
 cmpD:=⟨_,Tryz.func59,by kernel_rfl⟩
 kCmpD:=by kernel_rfl
 cmpS:=⟨_,Tryz.func51,by kernel_rfl⟩
 nanS:=⟨_,Tryz.func87,by kernel_rfl⟩
 cmpI:=⟨_,Tryz.func61,by kernel_rfl⟩
 nanI:=⟨_,Tryz.func90,by kernel_rfl⟩
 cmpE:=⟨_,Tryz.func62,by kernel_rfl⟩
 nanE:=⟨_,Tryz.func91,by kernel_rfl⟩
 or_:=⟨_,Tryz.func60,by kernel_rfl⟩
theorem pcfU:Qk Tryz.prog [] Tryz.f17=some (Qev 49 50 49):=by kernel_rfl
theorem hUnit:Has Tryz.prog 17 (Qev 49 50 49):=⟨_,Tryz.func17,pcfU⟩
theorem Qxx:Has Tryz.prog 50 (Qda 51 49):=⟨_,Tryz.func50,by kernel_rfl⟩
theorem Qgk:Qng Tryz.prog 17:=fun S hS s H =>
 Has.pjUnit hUnit ⟨_,Tryz.func49,by kernel_rfl⟩ Qxx (by kernel_rfl) Qpr.cmpS Qpr.nan S s (by have:=hS.len; omega) (fun i j u v=>Qr8 hS.so i j u v s) H
theorem Qtp:Qqt Tryz.prog 54:=fun u a hl H=>Has.pjSpot (tU:=49) (tSp:=67) ⟨_,Tryz.func54,by kernel_rfl⟩ u a hl H
theorem bs40 {S:List Un} (hS:PrjOk S):∀ v ∈ S,v.sm.bs.length≤1099511627776:=fun v hv=>by have:=(hS.sm v hv).2.1; omega
theorem Qv1:Qwl Tryz.prog 19:=fun S hS u hu b hb H =>
 Has.pjImp (unit:=17) (item:=53) (tU:=49) (tBd:=53) (tIm:=58) ⟨_,Tryz.func19,by kernel_rfl⟩ (Qgk S hS) Qul (bs40 hS) u (hS.gd u hu) b hb (by have:=(hS.sm u hu).2.2.2; omega) H
theorem Qxv {S:List Un} (hS:PrjOk S):Qu9 Tryz.prog S 55:=fun u hu H =>
 HasT.pjImps (imp:=19) (unit:=17) (spot:=54) (tU:=49) (tBd:=53) (tN:=35) (tIm:=58) (tD:=69) ⟨_,Tryz.func55,by kernel_rfl⟩ u (Qgk S hS) (Qv1 S hS u hu) Qtp (hS.gd u hu) (by have:=(hS.sm u hu).2.1; omega) (by have:=(hS.sm u hu).2.2.1; omega) H
theorem Qv7 {S:List Un} (hS:PrjOk S):Qru Tryz.prog S 56:=fun H =>
 Has.pjEntry (unit:=17) (item:=53) (tU:=49) (tN:=35) ⟨_,Tryz.func56,by kernel_rfl⟩ (Qgk S hS) Qul hS.gd (bs40 hS) H
theorem Qtq:Qrl Tryz.prog 23:=fun H z l hl=>Qvl ⟨_,Tryz.func23,by kernel_rfl⟩ Qxe H z l hl
theorem pcfD:Qk Tryz.prog [3] Tryz.f21=some (Qfk 54 55 56 23 49 128 69):=by kernel_rfl
theorem Qv9:Qrv Tryz.prog 21:=fun S hS H =>
 HasT.pjDiags ⟨_,Tryz.func21,pcfD⟩ Qtp (Qxv hS) (Qv7 hS) Qtq hS.len hS.sm H
theorem pcfN:Qk Tryz.prog [3] Tryz.f29=some (Qfi 49 9):=by kernel_rfl
theorem pcfM:Qk Tryz.prog [3] Tryz.f30=some (Qg5 49 77):=by kernel_rfl
theorem Qvw:Qrr Tryz.prog 29:=fun S hl H=>Has.pjNames ⟨_,Tryz.func29,pcfN⟩ S hl H
theorem Qxo:Qu8 Tryz.prog 30:=fun S hl H=>Has.pjMods ⟨_,Tryz.func30,pcfM⟩ S hl H
theorem Qxi {H0:Hp} (hG:Qco 0 1 2 3 H0):Qu7 Tryz.prog H0 25:=fun m hm H hH =>
 Has.pjRead (pof:=64) (sof:=65) (tM:=77) (tU:=49) ⟨_,Tryz.func25,by kernel_rfl⟩ (fun s hs H hH=>ofOk hG s hs H hH) Qvn m hm H hH
theorem Qvp {H0:Hp}:Qro Tryz.prog H0 26:=fun m hm H hH =>
 Has.pjRread (rof:=66) (sofR:=67) (tM:=77) (tR:=42) ⟨_,Tryz.func26,by kernel_rfl⟩ (fun s hs H _=>Qvs s hs H) Qpx m hm H hH
theorem Qua:OfOk Tryz.prog 28:=fun l z hl hz H=>Has.pjOf (tP:=122) Qpr ⟨_,Tryz.func28,by kernel_rfl⟩ Qum l hl z hz
theorem Qug {H0:Hp} (hG:Qco 0 1 2 3 H0):Qqu Tryz.prog H0 15:=fun l z ht H hH=>HasT.pjLoad (tM:=77) (tU:=49) ⟨_,Tryz.func15,by kernel_rfl⟩ (Qxi hG) Qua l z ht H hH
theorem Qvr {H0:Hp}:Qrn Tryz.prog H0 16:=fun l z ht H hH=>HasT.pjRload (tR:=42) ⟨_,Tryz.func16,by kernel_rfl⟩ Qvp Qsb l z ht H hH
theorem Qvo:Qrm Tryz.prog 27:=fun n hs H=>Has.same6 (tn:=35) ⟨_,Tryz.func27,by kernel_rfl⟩ true (N.Sm.refl true n) hs H
theorem Qui:Qrs Tryz.prog 13:=fun l z most hm hl hs H=>Qvx (tM:=77) ⟨_,Tryz.func13,by kernel_rfl⟩ H z l most hm hl hs
theorem awkOk {H0:Hp} (hG:Qco 0 1 2 3 H0):Qvd Tryz.prog H0 14:=Has.pjAwake (load:=15) (unit:=17) (diags:=21) (tU:=49) ⟨_,Tryz.func14,by kernel_rfl⟩ (Qug hG) Qgk Qv9
end
section
open Go Go.Zam Go.Proofs
variable {H0:Hp}
theorem lLoadsOk (hG:Qco 0 1 2 3 H0) (l:List Mod) (z:Bool) (hl:l.length≤1048576) (hm:∀ m ∈ l,m.n.length≤1048576∧m.t.length≤1048576) (H:Hp) (hH:Pre0 H0 H) :
 Qc Tryz.prog 7 [YL z 2 (l.map encM)] H (fun r H'=>r=YB true∧H'=H) :=
 Has.pjLLoads (light_:=13) (awake:=14) (load:=15) (rload:=16) (names:=29) (mods:=30) (unit:=17) (same6:=27) (tR:=42) (tU:=49) ⟨_,Tryz.func7,by kernel_rfl⟩ Qui (awkOk hG) (Qug hG) Qvr Qvw Qxo Qgk Qvo l z hl hm H hH
end
end Go.Proofs.Zi
namespace Go.Zam
end Go.Zam
namespace Go.Proofs.Zi
open Go Go.Zam Go.Proofs
theorem ty77 (n:Nat) (ds:List D) (h:Typed Tryz.prog n 77 ds):∃ m:Mod,ds=encM m:=by
 obtain ⟨m,h⟩:=Qmr Tryz.underlying77 h;obtain ⟨a,r,rfl,ha,b,r,rfl,hb,rfl⟩:=h;obtain ⟨s,rfl⟩:=Qlr Tryz.underlying9 ha;obtain ⟨t,rfl⟩:=Qlr Tryz.underlying9 hb;exact ⟨⟨s,t⟩,rfl⟩
theorem arg_mods {n:Nat} {ds:List D} {a:A} (h:Typed Tryz.prog n 22 ds) (ha:Qi5 Tryz.prog 22 ds a):∃ z,∃ l:List Mod,a=YL z 2 (l.map encM)∧(l.length≤D.bulkC ds∧∀ m ∈ l,m.n.length≤D.bulkC ds∧m.t.length≤D.bulkC ds):=by
 obtain ⟨z,l,rfl⟩:=Qtf (sz:=2) Tryz.underlying22 (by kernel_rfl) ty77 h;refine ⟨z,l,Qs4 (by rw [Tryz.underlying22]; simp) ha,?_⟩;have h1:=Qmh (enc:=encM) (fun m=>by simp only [encM,D.bulkC,D.bulk]; omega) l;simp only [D.bulkC,D.bulk];refine ⟨by omega,fun m hm => ?_⟩;have h2:=Qs2 (List.mem_map_of_mem (f:=encM) hm);simp only [encM,D.bulkC,D.bulk] at h2;omega
end Go.Proofs.Zi
