/-
  Texts of one proof, one behind the other: The layer of types, and that of relations, at this program. (Printed by mkty.py.) The lengths are bounded. The tenth chapter's laws at this program. The lengths are bounded. The tenth chapter's law on what two types have in common, at this program. The lengths are bounded.
-/
import Derived.Test.YtboojbgbphhbcaaGreatDoorM6
namespace Go.Proofs.Zy
open Go Go.Zam Go.Proofs Classical
set_option maxRecDepth 100000
set_option linter.all false
theorem ycf14 : compF Tryz.prog [] Tryz.f14 = some (irTyFlows 27 14 25) := by kernel_rfl
theorem yh14 : Has Tryz.prog 14 (irTyFlows 27 14 25) := ⟨_, Tryz.func14, ycf14⟩
theorem ycf16 : compF Tryz.prog [] Tryz.f16 = some (irRSame 16 25) := by kernel_rfl
theorem yh16 : Has Tryz.prog 16 (irRSame 16 25) := ⟨_, Tryz.func16, ycf16⟩
theorem ycf19 : compF Tryz.prog [28] Tryz.f19 = some (irTyRecord 41 40 43 42 44 25) := by kernel_rfl
theorem yh19 : HasT Tryz.prog [28] 19 (irTyRecord 41 40 43 42 44 25) := ⟨_, Tryz.func19, ycf19⟩
theorem ycf21 : compF Tryz.prog [4000000] Tryz.f21 = some (irTyFunc 46 25) := by kernel_rfl
theorem yh21 : HasT Tryz.prog [4000000] 21 (irTyFunc 46 25) := ⟨_, Tryz.func21, ycf21⟩
theorem ycf24 : compF Tryz.prog [25] Tryz.f24 = some (irTyJoin 34 27 24 47 21 25 9) := by kernel_rfl
theorem yh24 : HasT Tryz.prog [25] 24 (irTyJoin 34 27 24 47 21 25 9) := ⟨_, Tryz.func24, ycf24⟩
theorem ycf25 : compF Tryz.prog [] Tryz.f25 = some (irTRight 25 25 48) := by kernel_rfl
theorem yh25 : Has Tryz.prog 25 (irTRight 25 25 48) := ⟨_, Tryz.func25, ycf25⟩
theorem ycf26 : compF Tryz.prog [] Tryz.f26 = some (irTyDepth 26 25) := by kernel_rfl
theorem yh26 : Has Tryz.prog 26 (irTyDepth 26 25) := ⟨_, Tryz.func26, ycf26⟩
theorem ycf27 : compF Tryz.prog [] Tryz.f27 = some (irTyField 49 25) := by kernel_rfl
theorem yh27 : Has Tryz.prog 27 (irTyField 49 25) := ⟨_, Tryz.func27, ycf27⟩
theorem ycf33 : compF Tryz.prog [] Tryz.f33 = some (irTyParse 52 53 25 66) := by kernel_rfl
theorem yh33 : Has Tryz.prog 33 (irTyParse 52 53 25 66) := ⟨_, Tryz.func33, ycf33⟩
theorem ycf34 : compF Tryz.prog [] Tryz.f34 = some (irTySame 54 47 34 25) := by kernel_rfl
theorem yh34 : Has Tryz.prog 34 (irTySame 54 47 34 25) := ⟨_, Tryz.func34, ycf34⟩
theorem ycf39 : compF Tryz.prog [] Tryz.f39 = some (irTSmall 25 57) := by kernel_rfl
theorem ycf57 : compF Tryz.prog [] Tryz.f57 = some (irTSize 25 57) := by kernel_rfl
theorem ycf17 : compF Tryz.prog [] Tryz.f17 = some (irTLight 25 39) := by kernel_rfl
theorem ycf40 : compF Tryz.prog [] Tryz.f40 = some (irSlSorted 58 59) := by kernel_rfl
theorem yh40 : Has Tryz.prog 40 (irSlSorted 58 59) := ⟨_, Tryz.func40, ycf40⟩
theorem ycf41 : compF Tryz.prog [] Tryz.f41 = some (irSlValues 60 22) := by kernel_rfl
theorem yh41 : Has Tryz.prog 41 (irSlValues 60 22) := ⟨_, Tryz.func41, ycf41⟩
theorem ycf46 : compF Tryz.prog [2, 5] Tryz.f46 = some (irClT 25) := by kernel_rfl
theorem yh46 : HasT Tryz.prog [2, 5] 46 (irClT 25) := ⟨_, Tryz.func46, ycf46⟩
theorem ycf47 : compF Tryz.prog [] Tryz.f47 = some (irTyEqF 25) := by kernel_rfl
theorem yh47 : Has Tryz.prog 47 (irTyEqF 25) := ⟨_, Tryz.func47, ycf47⟩
theorem ycf49 : compF Tryz.prog [] Tryz.f49 = some (irSlBins 64 65) := by kernel_rfl
theorem yh49 : Has Tryz.prog 49 (irSlBins 64 65) := ⟨_, Tryz.func49, ycf49⟩
theorem ycf53 : compF Tryz.prog [] Tryz.f53 = some (irTyOf 77 26 66 25) := by kernel_rfl
theorem yh53 : Has Tryz.prog 53 (irTyOf 77 26 66 25) := ⟨_, Tryz.func53, ycf53⟩
theorem ycf54 : compF Tryz.prog [] Tryz.f54 = some (irSlEqS) := by kernel_rfl
theorem yh54 : Has Tryz.prog 54 (irSlEqS) := ⟨_, Tryz.func54, ycf54⟩
theorem ycf64 : compF Tryz.prog [] Tryz.f64 = some (irCmpLess 82) := by kernel_rfl
theorem yh64 : Has Tryz.prog 64 (irCmpLess 82) := ⟨_, Tryz.func64, ycf64⟩
theorem ycf65 : compF Tryz.prog [] Tryz.f65 = some (irSlIsNaN) := by kernel_rfl
theorem yh65 : Has Tryz.prog 65 (irSlIsNaN) := ⟨_, Tryz.func65, ycf65⟩
theorem ycf82 : compF Tryz.prog [] Tryz.f82 = some (irSlIsNaN) := by kernel_rfl
theorem yh82 : Has Tryz.prog 82 (irSlIsNaN) := ⟨_, Tryz.func82, ycf82⟩
theorem ycf77 : compF Tryz.prog [29] Tryz.f77 = some (irTyOfN 98 77 66 25 9) := by kernel_rfl
theorem yh77 : HasT Tryz.prog [29] 77 (irTyOfN 98 77 66 25 9) := ⟨_, Tryz.func77, ycf77⟩
theorem ycf98 : compF Tryz.prog [4, 5] Tryz.f98 = some (irTyRecN 77 19 66 25 9) := by kernel_rfl
theorem yh98 : HasT Tryz.prog [4, 5] 98 (irTyRecN 77 19 66 25 9) := ⟨_, Tryz.func98, ycf98⟩
theorem ycf58 : compF Tryz.prog [] Tryz.f58 = some (irSlCollect 79) := by kernel_rfl
theorem yh58 : Has Tryz.prog 58 (irSlCollect 79) := ⟨_, Tryz.func58, ycf58⟩
theorem ycf44 : compF Tryz.prog [] Tryz.f44 = some (irSlIdx) := by kernel_rfl
theorem yh44 : Has Tryz.prog 44 (irSlIdx) := ⟨_, Tryz.func44, ycf44⟩
theorem ycf74 : compF Tryz.prog [] Tryz.f74 = some (irPNow 95) := by kernel_rfl
theorem yh74 : Has Tryz.prog 74 (irPNow 95) := ⟨_, Tryz.func74, ycf74⟩
theorem ycf75 : compF Tryz.prog [] Tryz.f75 = some (irPFail) := by kernel_rfl
theorem yh75 : Has Tryz.prog 75 (irPFail) := ⟨_, Tryz.func75, ycf75⟩
theorem ycf120 : compF Tryz.prog [] Tryz.f120 = some (irPIs 74 95) := by kernel_rfl
theorem yh120 : Has Tryz.prog 120 (irPIs 74 95) := ⟨_, Tryz.func120, ycf120⟩
theorem ycf91 : compF Tryz.prog [] Tryz.f91 = some (irPTook 120) := by kernel_rfl
theorem yh91 : Has Tryz.prog 91 (irPTook 120) := ⟨_, Tryz.func91, ycf91⟩
theorem ycf95 : compF Tryz.prog [] Tryz.f95 = some (irPWant 91 75) := by kernel_rfl
theorem yh95 : Has Tryz.prog 95 (irPWant 91 75) := ⟨_, Tryz.func95, ycf95⟩
theorem ycf94 : compF Tryz.prog [] Tryz.f94 = some (irPWord 74 75 95) := by kernel_rfl
theorem yh94 : Has Tryz.prog 94 (irPWord 74 75 95) := ⟨_, Tryz.func94, ycf94⟩
theorem ycf90 : compF Tryz.prog [10] Tryz.f90 = some (irPNode 66) := by kernel_rfl
theorem yh90 : HasT Tryz.prog [10] 90 (irPNode 66) := ⟨_, Tryz.func90, ycf90⟩
theorem ycf97 : compF Tryz.prog [] Tryz.f97 = some (irPDone 66) := by kernel_rfl
theorem yh97 : Has Tryz.prog 97 (irPDone 66) := ⟨_, Tryz.func97, ycf97⟩
theorem ycf96 : compF Tryz.prog [] Tryz.f96 = some (irPPut 66) := by kernel_rfl
theorem yh96 : Has Tryz.prog 96 (irPPut 66) := ⟨_, Tryz.func96, ycf96⟩
theorem ycf92 : compF Tryz.prog [] Tryz.f92 = some (irPList 91 96 95) := by kernel_rfl
theorem yh92 : Has Tryz.prog 92 (irPList 91 96 95) := ⟨_, Tryz.func92, ycf92⟩
theorem ycf73 : compF Tryz.prog [] Tryz.f73 = some (irPKind 90 91 93 92 95 73 96 75 97 90 66) := by kernel_rfl
theorem yh73 : Has Tryz.prog 73 (irPKind 90 91 93 92 95 73 96 75 97 90 66) := ⟨_, Tryz.func73, ycf73⟩
theorem ycf93 : compF Tryz.prog [] Tryz.f93 = some (irPTField 90 94 95 73 96 97 66) := by kernel_rfl
theorem yh93 : Has Tryz.prog 93 (irPTField 90 94 95 73 96 97 66) := ⟨_, Tryz.func93, ycf93⟩
theorem ycf52 : compF Tryz.prog [] Tryz.f52 = some (irPType 72 73 74 75 76 66 92) := by kernel_rfl
theorem yh52 : Has Tryz.prog 52 (irPType 72 73 74 75 76 66 92) := ⟨_, Tryz.func52, ycf52⟩
theorem ycf76 : compF Tryz.prog [] Tryz.f76 = some (irTDepth 76 66) := by kernel_rfl
theorem yh76 : Has Tryz.prog 76 (irTDepth 76 66) := ⟨_, Tryz.func76, ycf76⟩
theorem ycf43 : compF Tryz.prog [1000005] Tryz.f43 = some (irCloneM 1 16 9) := by kernel_rfl
theorem yh43 : HasT Tryz.prog [1000005] 43 (irCloneM 1 16 9) := ⟨_, Tryz.func43, ycf43⟩
theorem kSame : callOk Tryz.prog 34 = true := by kernel_rfl
theorem sameOk (v : T) (hv : v.Fit 1048576) : SameT Tryz.prog 34 v := Has.tySame yh34 yh54 yh47 kSame v hv
theorem rSameOk (v : T) (hv : v.Fit 1048576) : SameT Tryz.prog 16 v := Has.rSame yh16 v hv
theorem lessOk (a b : Str') (H : Hp) : ACall Tryz.prog 64 [.d (.str a), .d (.str b)] H (fun r H' => r = .d (.bool (Op.bytesLess a b)) ∧ H' = H) := Has.cmpLess yh64 yh82 a b H
theorem fieldOk : FieldT Tryz.prog 27 := Has.tyField yh27 (fun z ns x hi hl H => Has.slBins yh49 lessOk yh65 z ns x hi hl H)
theorem flowsOk (v w : T) (hv : v.Fit 1048576) (hw : w.Fit 1048576) (rv : v.st.Rt) (rw_ : w.st.Rt) : FlowsT Tryz.prog 14 v w := Has.tyFlows yh14 fieldOk _ v w (Nat.le_refl _) hv hw rv rw_
theorem rRightOk (v : T) (hv : v.Fit 1048576) : RightT Tryz.prog 25 v := Has.rRight yh25 risNameOk v hv
theorem sizeOk (v : T) (hv : v.Fit 1048576) (m d : Int) (H : Hp) : ACall Tryz.prog 57 [v.a, .d (.int .i64 m), .d (.int .i64 d)] H (fun r H' => (∃ c : Int, r = .d (.int .i64 c)) ∧ H' = H) := tsize_acall Tryz.func57 ycf57 v hv m d H
theorem smallOk (v : T) (hv : v.Fit 1048576) (m d : Int) (H : Hp) : ACall Tryz.prog 39 [v.a, .d (.int .i64 m), .d (.int .i64 d)] H (fun r H' => (∃ c : Bool, r = .d (.bool c)) ∧ H' = H) := tsmall_acall Tryz.func39 ycf39 sizeOk v hv m d H
theorem lightOk (v : T) (hv : v.Fit 1048576) (H : Hp) : ACall Tryz.prog 17 [v.a] H (fun r H' => (∃ c : Bool, r = .d (.bool c)) ∧ H' = H) := tlight_acall Tryz.func17 ycf17 smallOk v hv H
theorem sortedOk {L : List Str'} (hl : L.length ≤ 1048576) {H : Hp} {i bt : Nat} {z : Bool} (hi : H[i]? = some (.box bt [.d (.sl z 1 (L.map Go.Zam.encStr))])) : ACall Tryz.prog 40 [.fn (.func 60) [] [.ptr i 0]] H (fun r H' => r = .d (.sl L.isEmpty 1 ((msort L).map Go.Zam.encStr)) ∧ H' = H) := Has.slSorted yh40 yh58 collectOk sortOk sort0Ok hl hi
theorem recordOk : RecT Tryz.prog 19 := Has.tyRecord (fa := 0) (fso := 0) yh19 yh41 sortedOk yh43 compactOk yh44
theorem funcOk (v : T) (z : Bool) (ps : List T) (hb : (ps.length + 1) * 56 ≤ 140737488355328) (H : Hp) : ACall Tryz.prog 21 [v.a, .d (.sl z 3 (ps.map T.enc))] H (fun r H' => r = (T.fn v z ps).a ∧ H' = H) := Has.tyFunc yh21 yh46 v z ps hb H
theorem tDepthOk (v : T) (hv : v.Fit 1048576) (hd : v.dep ≤ 1125899906842624) (H : Hp) : ACall Tryz.prog 26 [v.a] H (fun r H' => r = .d (.int .i64 (v.dep : Int)) ∧ H' = H) := Has.tyDepth yh26 v hv hd H
theorem ofNOk (n : N) (hn : n.size ≤ 1048576) : OfT Tryz.prog 77 n := (Has.tyOfN yh77 yh98 recordOk n hn).1
def F : PF := { now := 74, fail := 75, is := 120, took := 91, want := 95, word := 94, node := 90, done := 97, put := 96, list := 92, file := 0, use_ := 0, def_ := 0, params := 0, param := 0, typed := 0, kind := 73, tfield := 93, block := 0, stmt := 0, sets := 0, expr := 0, with_ := 0, sum := 0, term := 0, post := 0, atom := 0, entry := 0, tn := 66, tt := 95, tp := 92, tb := 90 }
theorem hasK : KHas Tryz.prog F where
  now := yh74
  fail := yh75
  is := yh120
  took := yh91
  want := yh95
  word := yh94
  node := yh90
  done := yh97
  put := yh96
  list := yh92
  kind := yh73
  tfield := yh93
  kTField := by kernel_rfl
  kKind := by kernel_rfl
theorem typeOk {H0 : Hp} (hG : TabsG 1 2 3 4 H0) (s : Bs) (hs : s.length ≤ 1048576) (H : Hp) (hH : Pre0 H0 H) : ACall Tryz.prog 52 [.d (.str s)] H (fun r H' => r = .tup [(typeO s).1.v, .d (.int .i64 (typeO s).2)] ∧ H' = H) := Has.type_ (F := F) yh52 hasK yh76 (fun s hs H hH => lexOk hG s hs H hH) s hs H hH
theorem tyOfOk (n : N) (hn : n.size ≤ 1048576) (hw : n.Wd 1048576) (H : Hp) : ACall Tryz.prog 53 [n.v] H (fun r H' => r = .tup [n.typ.1.a, .d (.int .i64 n.typ.2)] ∧ H' = H) := Has.tyOf yh53 n (ofNOk n hn) (fun H => tDepthOk _ (N.ty_ok n hn hw).1.1 (by have := (N.ty_ok n hn hw).1.2; omega) H) H
theorem tyParseOk {H0 : Hp} (hG : TabsG 1 2 3 4 H0) (s : Bs) (hs : s.length ≤ 1048576) (H : Hp) (hH : Pre0 H0 H) : ACall Tryz.prog 33 [.d (.str s)] H (fun r H' => r = .tup [(typO s).1.a, .d (.int .i64 (typO s).2)] ∧ H' = H) := Has.tyParse yh33 s H hH (fun H hH => typeOk hG s hs H hH) (fun H => tyOfOk _ (typeO_ok s hs).1 (typeO_ok s hs).2 H)
end Go.Proofs.Zy

namespace Go.Proofs.Zy
open Go Go.Zam Go.Proofs Classical
set_option maxRecDepth 100000
set_option linter.all false
theorem ycf12 : compF Tryz.prog [] Tryz.f12 = some (irTFits 17 25 25) := by kernel_rfl
theorem yh12 : Has Tryz.prog 12 (irTFits 17 25 25) := ⟨_, Tryz.func12, ycf12⟩
theorem ycf13 : compF Tryz.prog [] Tryz.f13 = some (irTAwake 33 14 25) := by kernel_rfl
theorem yh13 : Has Tryz.prog 13 (irTAwake 33 14 25) := ⟨_, Tryz.func13, ycf13⟩
theorem fitsOk : FitsT Tryz.prog 12 := fun l hl hF z H => Has.tFits yh12 l hl (fun v hv H => lightOk v (hF v hv) H) (fun v hv => rRightOk v (hF v hv)) z H
theorem awakeOk {H0 : Hp} (hG : TabsG 1 2 3 4 H0) : AwakeT Tryz.prog H0 13 := Has.tAwake yh13 (fun s hs H hH => tyParseOk hG s hs H hH) flowsOk
end Go.Proofs.Zy

namespace Go.Proofs.Zy
open Go Go.Zam Go.Proofs Classical
set_option maxRecDepth 100000
set_option linter.all false
theorem ycf7 : compF Tryz.prog [] Tryz.f7 = some (irLTops 12 13 24 25 14 16 25) := by kernel_rfl
theorem yh7 : Has Tryz.prog 7 (irLTops 12 13 24 25 14 16 25) := ⟨_, Tryz.func7, ycf7⟩
theorem eqfOk (z y : Bool) (a b : List T) (ha : a.length ≤ 1048576) (hs : ∀ v ∈ a, v.Fit 1048576) (H : Hp) : ACall Tryz.prog 47 [.d (.sl z 3 (a.map T.enc)), .d (.sl y 3 (b.map T.enc)), .d (.fn 34)] H (fun r H' => r = .d (.bool (decide (a.map T.st = b.map T.st))) ∧ H' = H) := Has.tyEqF yh47 kSame H z y a b ha fun v hv => sameOk v (hs v hv)
theorem joinOk (v w : T) (hv : v.Fit 1048576) (hw : w.Fit 1048576) (rv : v.st.Rt) (rw_ : w.st.Rt) : JoinT Tryz.prog 24 false v w := HasT.tyJoin yh24 sameOk fieldOk eqfOk (fun v z ps hb H => funcOk v z ps hb H) v w hv hw rv rw_
theorem lTopsOk {H0 : Hp} (hG : TabsG 1 2 3 4 H0) (v w : T) (hv : v.Fit 1048576) (hw : w.Fit 1048576) (H : Hp) (hH : Pre0 H0 H) : ACall Tryz.prog 7 [v.a, w.a] H (fun r H' => r = .d (.bool true) ∧ H' = H) := Has.lTops yh7 fitsOk (awakeOk hG) joinOk rRightOk flowsOk rSameOk v w hv hw H hH
end Go.Proofs.Zy
