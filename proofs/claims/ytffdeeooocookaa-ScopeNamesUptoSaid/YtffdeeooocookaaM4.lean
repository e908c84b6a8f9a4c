/-
  Texts of one proof, one behind the other.
-/
import Derived.Test.YtffdeeooocookaaM3
import Derived.Lib.Bytealg
import Derived.Lib.ParseIntB
import Derived.Lib.DecodeN
import Derived.Shelf.Unicode.DecodeSlow
set_option linter.all false
set_option maxRecDepth 100000
set_option maxHeartbeats 4000000
namespace Go.Zam
section
def irDigit : IFn := { nt := 9, res := [.t 2], body := ( .seq (.ops [⟨some 2,none,.mv (.c (.bool false))⟩] false) (.seq (.ops [⟨some 3,none,.mv (.t 0)⟩,⟨some 4,none,.bin .geq (.t 3) (.c (.int .u8 48))⟩,⟨some 5,none,.mv (.t 4)⟩,⟨some 6,some (5,true),.mv (.t 0)⟩,⟨some 7,some (5,true),.bin .leq (.t 6) (.c (.int .u8 57))⟩,⟨some 8,none,.pick (.t 5) (.t 7) (.c (.bool false))⟩,⟨some 2,none,.mv (.t 8)⟩] false) (.ret))) }
def irLetter : IFn := { nt := 21, res := [.t 2], body := ( .seq (.ops [⟨some 2,none,.mv (.c (.bool false))⟩] false) (.seq (.ops [⟨some 3,none,.mv (.t 0)⟩,⟨some 4,none,.bin .geq (.t 3) (.c (.int .u8 97))⟩,⟨some 5,none,.mv (.t 4)⟩,⟨some 6,some (5,true),.mv (.t 0)⟩,⟨some 7,some (5,true),.bin .leq (.t 6) (.c (.int .u8 122))⟩,⟨some 8,none,.pick (.t 5) (.t 7) (.c (.bool false))⟩,⟨some 9,none,.mv (.t 8)⟩,⟨some 10,some (9,false),.mv (.t 0)⟩,⟨some 11,some (9,false),.bin .geq (.t 10) (.c (.int .u8 65))⟩,⟨some 12,some (9,false),.mv (.t 11)⟩,⟨some 13,some (12,true),.mv (.t 0)⟩,⟨some 14,some (12,true),.bin .leq (.t 13) (.c (.int .u8 90))⟩,⟨some 15,some (9,false),.pick (.t 12) (.t 14) (.c (.bool false))⟩,⟨some 16,none,.pick (.t 9) (.c (.bool true)) (.t 15)⟩,⟨some 17,none,.mv (.t 16)⟩,⟨some 18,some (17,false),.mv (.t 0)⟩,⟨some 19,some (17,false),.bin .eql (.t 18) (.c (.int .u8 95))⟩,⟨some 20,none,.pick (.t 17) (.c (.bool true)) (.t 19)⟩,⟨some 2,none,.mv (.t 20)⟩] false) (.ret))) }
def irIsKey : IFn := { nt := 18, res := [.t 2], body := ( .seq (.ops [⟨some 2,none,.mv (.c (.bool false))⟩] false) (.seq (.ops [⟨some 5,none,.bslice 1 [(.c (.str [117,115,101])),(.c (.str [100,101,102])),(.c (.str [108,101,116])),(.c (.str [105,102])),(.c (.str [101,108,115,101])),(.c (.str [119,104,105,108,101])),(.c (.str [112,114,105,110,116])),(.c (.str [114,101,116,117,114,110])),(.c (.str [102,110])),(.c (.str [105,110,112,117,116])),(.c (.str [105,110,116])),(.c (.str [115,116,114])),(.c (.str [100,121,110]))]⟩,⟨some 3,none,.mv (.t 5)⟩] false) (.seq (.seq (.ops [⟨some 4,none,.mv (.c (.int .i64 0))⟩] false) (.blk 0 (.loop (.seq (.seq (.ops [⟨some 6,none,.mv (.t 4)⟩,⟨some 7,none,.mv (.t 3)⟩,⟨some 8,none,.lenL (.t 7)⟩,⟨some 9,none,.bin .lss (.t 6) (.t 8)⟩] false) (.cond (.t 9) (.skip) (.exit 0))) (.seq (.blk 1 (.seq (.ops [⟨some 12,none,.mv (.t 3)⟩,⟨some 13,none,.mv (.t 4)⟩,⟨some 14,none,.iaddr 1 (.t 12) (.t 13)⟩,⟨some 15,none,.load 1 false (.t 14)⟩,⟨some 16,none,.mv (.t 0)⟩,⟨some 17,none,.bin .eql (.t 15) (.t 16)⟩] false) (.cond (.t 17) (.seq (.ops [⟨some 2,none,.mv (.c (.bool true))⟩] false) (.ret)) (.skip)))) (.ops [⟨some 10,none,.mv (.t 4)⟩,⟨some 11,none,.bin .add (.t 10) (.c (.int .i64 1))⟩,⟨some 4,none,.mv (.t 11)⟩] false)))))) (.seq (.ops [⟨some 2,none,.mv (.c (.bool false))⟩] false) (.ret))))) }
def irIsName (fk fd fl : Nat) : IFn := { nt := 39, res := [.t 2], body := ( .seq (.ops [⟨some 2,none,.mv (.c (.bool false))⟩] false) (.seq (.seq (.ops [⟨some 4,none,.mv (.t 0)⟩,⟨some 5,none,.lenS (.t 4)⟩,⟨some 6,none,.bin .eql (.t 5) (.c (.int .i64 0))⟩,⟨some 7,none,.mv (.t 6)⟩,⟨some 8,some (7,false),.mv (.t 0)⟩,⟨some 9,some (7,false),.lenS (.t 8)⟩,⟨some 10,some (7,false),.bin .gtr (.t 9) (.c (.int .i64 40))⟩,⟨some 11,none,.pick (.t 7) (.c (.bool true)) (.t 10)⟩,⟨some 12,none,.mv (.t 11)⟩,⟨some 13,some (12,false),.mv (.t 0)⟩,⟨some 14,some (12,false),.call fk [(.t 13)]⟩,⟨some 15,none,.pick (.t 12) (.c (.bool true)) (.t 14)⟩,⟨some 16,none,.mv (.t 15)⟩,⟨some 17,some (16,false),.mv (.t 0)⟩,⟨some 18,some (16,false),.sidx (.t 17) (.c (.int .i64 0))⟩,⟨some 19,some (16,false),.call fd [(.t 18)]⟩,⟨some 20,none,.pick (.t 16) (.c (.bool true)) (.t 19)⟩] false) (.cond (.t 20) (.seq (.ops [⟨some 2,none,.mv (.c (.bool false))⟩] false) (.ret)) (.skip))) (.seq (.seq (.ops [⟨some 3,none,.mv (.c (.int .i64 0))⟩] false) (.blk 0 (.loop (.seq (.seq (.ops [⟨some 21,none,.mv (.t 3)⟩,⟨some 22,none,.mv (.t 0)⟩,⟨some 23,none,.lenS (.t 22)⟩,⟨some 24,none,.bin .lss (.t 21) (.t 23)⟩] false) (.cond (.t 24) (.skip) (.exit 0))) (.seq (.blk 1 (.seq (.ops [⟨some 27,none,.mv (.t 0)⟩,⟨some 28,none,.mv (.t 3)⟩,⟨some 29,none,.sidx (.t 27) (.t 28)⟩,⟨some 30,none,.call fl [(.t 29)]⟩,⟨some 31,none,.un .not (.t 30)⟩,⟨some 32,none,.mv (.t 31)⟩,⟨some 33,some (32,true),.mv (.t 0)⟩,⟨some 34,some (32,true),.mv (.t 3)⟩,⟨some 35,some (32,true),.sidx (.t 33) (.t 34)⟩,⟨some 36,some (32,true),.call fd [(.t 35)]⟩,⟨some 37,some (32,true),.un .not (.t 36)⟩,⟨some 38,none,.pick (.t 32) (.t 37) (.c (.bool false))⟩] false) (.cond (.t 38) (.seq (.ops [⟨some 2,none,.mv (.c (.bool false))⟩] false) (.ret)) (.skip)))) (.ops [⟨some 25,none,.mv (.t 3)⟩,⟨some 26,none,.bin .add (.t 25) (.c (.int .i64 1))⟩,⟨some 3,none,.mv (.t 26)⟩] false)))))) (.seq (.ops [⟨some 2,none,.mv (.c (.bool true))⟩] false) (.ret))))) }
def digitB (b:UInt8):Bool:=decide ((48:Int)≤b.toNat) && decide ((b.toNat:Int)≤57)
def letterB (b:UInt8):Bool:=(decide ((97:Int)≤b.toNat) && decide ((b.toNat:Int)≤122)) || (decide ((65:Int)≤b.toNat) && decide ((b.toNat:Int)≤90)) || decide ((b.toNat:Int)=95)
def keysL:List (List UInt8):=[[117,115,101],[100,101,102],[108,101,116],[105,102],[101,108,115,101],[119,104,105,108,101],[112,114,105,110,116],[114,101,116,117,114,110],[102,110],[105,110,112,117,116],[105,110,116],[115,116,114],[100,121,110]]
def isNameB (s:List UInt8):Bool:=match s with
 | []=>false
 | b :: r=>decide ((b :: r).length≤40) && !decide ((b :: r) ∈ keysL) && !digitB b && (b :: r).all fun c=>letterB c || digitB c
section
variable {P:Program}
theorem digit_acall {f:FuncId} {fn:Func} (hf:P.funcs[f]?=some fn) (hcf:compF P [] fn=some irDigit) (b:UInt8) (H:Hp):ACall P f [.d (.int .u8 b.toNat)] H (fun r H'=>r = .d (.bool (digitB b))∧H'=H):=by
 refine acall_fin hf hcf (by simp [irDigit]) fun hcl _ => ?_
 simp [irDigit]
 refine GdK_split (by simp) (fun h => ?_) (fun h => ?_)
 · simp
   simp at h
   simp [RetK,cut_self hcl,digitB,h]
 · simp
   simp at h
   simp [RetK,cut_self hcl,digitB]
   omega
theorem letter_acall {f:FuncId} {fn:Func} (hf:P.funcs[f]?=some fn) (hcf:compF P [] fn=some irLetter) (b:UInt8) (H:Hp):ACall P f [.d (.int .u8 b.toNat)] H (fun r H'=>r = .d (.bool (letterB b))∧H'=H):=by
 refine acall_fin hf hcf (by simp [irLetter]) fun hcl _ => ?_
 simp [irLetter]
 generalize ha:decide ((97:Int)≤b.toNat)=a
 generalize hb:decide ((b.toNat:Int)≤122)=c
 generalize hd:decide ((65:Int)≤b.toNat)=d
 generalize he:decide ((b.toNat:Int)≤90)=e
 have hl:letterB b=(a && c || d && e || decide ((b.toNat:Int)=95)):=by simp only [letterB,ha,hb,hd,he]
 cases a<;>cases c<;>cases d<;>cases e<;>simp [ha,hb,hd,he]<;>simp [RetK,cut_self hcl,hl]
theorem isKey_acall {f:FuncId} {fn:Func} (hf:P.funcs[f]?=some fn) (hcf:compF P [] fn=some irIsKey) (s:List UInt8) (H:Hp):ACall P f [.d (.str s)] H (fun r H'=>r = .d (.bool (decide (s ∈ keysL)))∧H'=H):=by
 refine acall_fin hf hcf (by simp [irIsKey]) fun hcl _ => ?_
 simp [irIsKey]
 have hrows:[[D.str [117,115,101]],[D.str [100,101,102]],[D.str [108,101,116]],[D.str [105,102]],[D.str [101,108,115,101]],[D.str [119,104,105,108,101]],[D.str [112,114,105,110,116]],[D.str [114,101,116,117,114,110]],[D.str [102,110]],[D.str [105,110,112,117,116]],[D.str [105,110,116]],[D.str [115,116,114]],[D.str [100,121,110]]]=keysL.map fun x=>[D.str x]:=rfl
 rw [hrows]
 refine LoopK_outR 0 (fun fr H'=>s ∉ keysL∧H'=H) (fun fr H'=>fr 2 = .d (.bool true)∧s ∈ keysL∧H'=H) ?_ ?_ ?_
 · refine ForK_of H.length keysL.length (fun i fr H'=>fr 0 = .d (.str s)∧fr 3 = .d (.sl false 1 (keysL.map fun x=>[D.str x]))∧s ∉ keysL.take i∧H'=H) (by decide) (by decide) (by simp) (by simp) ?_ ?_
   · simp [cut_self hcl]
   · rintro i fr H' hi f4 ⟨f0,f3,hn,rfl⟩
     simp [f4,f3]
     refine BrK_split (fun h => ?_) (fun h => ?_)
     · have hlt:i < keysL.length:=by simpa using h
       have hr:=rowAt_map (fun x=>[D.str x]) hlt
       have hm:=List.getElem_mem hlt
       have ht:keysL.take (i+1)=keysL.take i++[keysL[i]]:=List.take_succ_eq_append_getElem hlt
       generalize keysL[i]=x at hr hm ht
       simp [f4,f3,hr,f0]
       refine BrK_split (fun h => ?_) (fun h => ?_)
       · have e:x=s:=by simpa using h
         simp
         exact e ▸ hm
       · have e:x ≠ s:=by simpa using h
         simp
         refine NextF_of H'.length (Nat.le_refl _) hlt (by simp [f4]) ?_
         simp [f0,f3,cut_self hcl,ht,hn]
         exact fun q=>e q.symm
     · have hii : i = keysL.length := by have : ¬ i < keysL.length := by simpa using h
                                         omega
       rw [hii,List.take_of_length_le (Nat.le_refl _)] at hn
       simp [hn]
 · rintro fr H' ⟨f2,hm,rfl⟩
   simp
   simp [RetK,cut_self hcl,f2,hm]
 · rintro fr H' ⟨hm,rfl⟩
   simp
   simp [RetK,cut_self hcl,hm]
theorem isName_acall {f fk fd fl:FuncId} {fn:Func} (hf:P.funcs[f]?=some fn) (hcf:compF P [] fn=some (irIsName fk fd fl)) (hk:∀ s H,ACall P fk [.d (.str s)] H (fun r H'=>r = .d (.bool (decide (s ∈ keysL)))∧H'=H))
 (hd:∀ (b:UInt8) H,ACall P fd [.d (.int .u8 b.toNat)] H (fun r H'=>r = .d (.bool (digitB b))∧H'=H)) (hl:∀ (b:UInt8) H,ACall P fl [.d (.int .u8 b.toNat)] H (fun r H'=>r = .d (.bool (letterB b))∧H'=H)) (s:List UInt8) (H:Hp) :
 ACall P f [.d (.str s)] H (fun r H'=>r = .d (.bool (isNameB s))∧H'=H):=by
 refine acall_fin hf hcf (by simp [irIsName]) fun hcl _ => ?_
 cases s with
 | nil =>
   simp [irIsName]
   simp [RetK,cut_self hcl,isNameB]
 | cons b r =>
 have hne:¬ (((b :: r).length:Int)=0):=by simp; omega
 generalize hS:b :: r=S at hne
 have hb0:byteAt S 0=some b:=by subst hS; rfl
 have hN:isNameB S=(decide (S.length≤40) && !decide (S ∈ keysL) && !digitB b && S.all fun c=>letterB c || digitB c):=by subst hS; rfl
 have hne':¬ S=[]:=by subst hS; simp
 by_cases g1:(40:Int) < S.length
 case pos =>
  have:¬ S.length≤40:=by omega
  simp [irIsName,hne,hne',g1]
  simp [RetK,cut_self hcl,hN,this]
 have g1':S.length≤40:=by omega
 simp [irIsName,hne,hne',g1]
 refine CallK_of' (hk S _) ?_
 by_cases g2:S ∈ keysL
 case pos =>
  simp [g2]
  simp [RetK,cut_self hcl,hN,g2]
 simp [g2,hb0]
 refine CallK_of' (hd b _) ?_
 cases g3:digitB b with
 | true =>
   simp
   simp [RetK,cut_self hcl,hN,g3]
 | false =>
 simp
 refine LoopK_outR 0 (fun fr H'=>(S.all fun c=>letterB c || digitB c)=true∧H'=H) (fun fr H'=>fr 2 = .d (.bool false)∧(S.all fun c=>letterB c || digitB c)=false∧H'=H) ?_ ?_ ?_
 · refine ForK_of H.length S.length (fun i fr H'=>fr 0 = .d (.str S)∧(∀ c ∈ S.take i,(letterB c || digitB c)=true)∧H'=H) (by omega) (by decide) (by simp) (by simp) ?_ ?_
   · simp [cut_self hcl]
   · rintro i fr H' hi f3 ⟨f0,hA,rfl⟩
     simp [f3,f0]
     refine BrK_split (fun h => ?_) (fun h => ?_)
     · have hlt:i < S.length:=by simpa using h
       have hb:byteAt S (i:Int)=some S[i]:=by simp [byteAt,hlt]
       have hm:=List.getElem_mem hlt
       have ht:S.take (i+1)=S.take i++[S[i]]:=List.take_succ_eq_append_getElem hlt
       generalize S[i]=c at hb hm ht
       simp [f3,f0,hb]
       refine CallK_of' (hl c _) ?_
       cases e1:letterB c with
       | true =>
         simp
         refine NextF_of H'.length (Nat.le_refl _) hlt (by simp [f3]) ?_
         simp [f0,cut_self hcl,ht]
         intro q hq
         rcases hq with hq | rfl
         · simpa using hA q hq
         · exact .inl e1
       | false =>
         simp [f3,f0,hb]
         refine CallK_of' (hd c _) ?_
         cases e2:digitB c with
         | true =>
           simp
           refine NextF_of H'.length (Nat.le_refl _) hlt (by simp [f3]) ?_
           simp [f0,cut_self hcl,ht]
           intro q hq
           rcases hq with hq | rfl
           · simpa using hA q hq
           · exact .inr e2
         | false =>
           simp
           exact ⟨c,hm,e1,e2⟩
     · have hii : i = S.length := by have : ¬ i < S.length := by simpa using h
                                     omega
       rw [hii,List.take_of_length_le (Nat.le_refl _)] at hA
       simp
       simpa using hA
 · rintro fr H' ⟨f2,hm,rfl⟩
   simp
   simp [RetK,cut_self hcl,f2,hN,hm]
 · rintro fr H' ⟨hm,rfl⟩
   simp
   simp [RetK,cut_self hcl,hN,hm,g1',g2,g3]
end
end
section
section
variable {P:Program} {bt:Nat}
end
end

section
abbrev Bs:=List UInt8
def Has (P:Program) (f:FuncId) (i:IFn):Prop:=∃ fn,P.funcs[f]?=some fn∧compF P [] fn=some i
def HasT (P:Program) (tk:List Nat) (f:FuncId) (i:IFn):Prop:=∃ fn,P.funcs[f]?=some fn∧compF P tk fn=some i
def ByteOk (P:Program) (f:FuncId) (p:UInt8→Bool):Prop:=∀ (b:UInt8) H,ACall P f [.d (.int .u8 b.toNat)] H (fun r H'=>r = .d (.bool (p b))∧H'=H)
theorem least_of {p:Nat→Prop}:∀ n,p n→∃ d,p d∧∀ e,p e→d≤e:=by
 intro n
 induction n using Nat.strongRecOn with
 | ind n ih =>
 intro h
 by_cases hm:∃ m,m < n∧p m
 · obtain ⟨m,hm,hp⟩:=hm
   exact ih m hm hp
 · exact ⟨n,h,fun e he=>Nat.le_of_not_lt fun hl=>hm ⟨e,hl,he⟩⟩
def NextM (J:Nat→Fr→Hp→Prop) (_:Tag J) (m d:Nat) (fr:Fr) (H:Hp):Prop:=∃ k d',m≤k∧k≤H.length∧d' < d∧J d' (fr.clr k) (Hp.cut k H)
@[congr] theorem NextM_congr {J:Nat→Fr→Hp→Prop} {t:Tag J} {m d:Nat} {fr fr':Fr} {H H':Hp} (h:fr=fr') (h2:H=H'):NextM J t m d fr H=NextM J t m d fr' H':=by rw [h,h2]
theorem NextM_of {J:Nat→Fr→Hp→Prop} {t:Tag J} {m d:Nat} {fr:Fr} {H:Hp} (k d':Nat) (hk:m≤k) (h:k≤H.length) (hd:d' < d) (hj:J d' (fr.clr k) (Hp.cut k H)):NextM J t m d fr H:=⟨k,d',hk,h,hd,hj⟩
theorem LoopM_of {P:Program} {n0:Nat} {Q:Ex→Fr→Hp→Prop} {fr:Fr} {H:Hp} {c:C} {t:Tag (Q,c)} (m:Nat) (J:Nat→Fr→Hp→Prop) (start:Nat) (h1:n0≤m∧m≤H.length) (h2:J start (fr.clr m) (Hp.cut m H))
 (h3:∀ d fr H,J d fr H→AWp P n0 c (Ex.then (NextM J .mk m d) Q) fr H):LoopK Q c t P n0 fr H:=by
 have key:∀ fr H,(∃ d,J d fr H)→∃ d,J d fr H∧∀ e,J e fr H→d≤e:=fun fr H ⟨d,h⟩=>least_of (p:=fun d=>J d fr H) d h
 let mu:Fr→Hp→Nat:=fun fr H => @dite _ (∃ d,J d fr H) (Classical.propDecidable _) (fun h=>(key fr H h).choose) (fun _=>0)
 have hmu:∀ fr H (h:∃ d,J d fr H),J (mu fr H) fr H∧∀ e,J e fr H→mu fr H≤e:=fun fr H h=>by
  have:mu fr H=(key fr H h).choose:=dif_pos h
  rw [this]
  exact (key fr H h).choose_spec
 refine LoopK_of m (fun fr H=>∃ d,J d fr H) mu h1 ⟨start,h2⟩ ?_
 rintro fr H h
 obtain ⟨g1,g2⟩:=hmu fr H h
 refine AWp.mono _ ?_ _ _ (h3 _ _ _ g1)
 intro e fr' H' hn
 cases e with
 | normal =>
   obtain ⟨k,d',k1,k2,k3,k4⟩:=hn
   refine AgainK_ofk (t := .mk) k k1 k2 ⟨d',k4⟩ ?_
   exact Nat.lt_of_le_of_lt ((hmu _ _ ⟨d',k4⟩).2 d' k4) k3
 | exit j=>exact hn
 | ret=>exact hn
section
variable {P:Program}
def blankB (b:UInt8):Bool:=decide ((b.toNat:Int)=32) || decide ((b.toNat:Int)=9) || decide ((b.toNat:Int)=10) || decide ((b.toNat:Int)=13)
def hashB (b:UInt8):Bool:=decide ((b.toNat:Int)=35)
def noNlB (b:UInt8):Bool := !decide ((b.toNat:Int)=10)
def wordB (b:UInt8):Bool:=letterB b || digitB b
theorem Has.letter {f} (h:Has P f irLetter):ByteOk P f letterB:=fun b H=>letter_acall h.choose_spec.1 h.choose_spec.2 b H
theorem Has.digit {f} (h:Has P f irDigit):ByteOk P f digitB:=fun b H=>digit_acall h.choose_spec.1 h.choose_spec.2 b H
def moreB (p:UInt8→Bool):Bs→Bool
 | []=>false
 | b :: _=>p b
theorem byteAt_drop {s:Bs} {n:Nat} {b:UInt8} {r:Bs} (h:s.drop n=b :: r):byteAt s (n:Int)=some b∧n < s.length:=by
 have hn:n < s.length:=by
  rcases Nat.lt_or_ge n s.length with h' | h'
  · exact h'
  · rw [List.drop_eq_nil_of_le h'] at h; cases h
 refine ⟨?_,hn⟩
 have:s[n]=b:=by
  have e:=List.drop_eq_getElem_cons hn
  rw [h] at e
  exact (List.cons.inj e).1.symm
 simp [byteAt,hn,this]
theorem Hp.set_self {H:Hp} {i:Nat} {o:Ob} (h:H[i]?=some o):H.set i o=H:=by
 obtain ⟨hi,e⟩:=List.getElem?_eq_some_iff.1 h
 rw [← e]; exact List.set_getElem_self hi
def runN (p:UInt8→Bool) (s:Bs):Nat:=(s.takeWhile p).length
theorem runN_le (p:UInt8→Bool) (s:Bs):runN p s≤s.length:=by
 unfold runN
 exact List.Sublist.length_le (List.takeWhile_sublist p)
theorem runN_step (p:UInt8→Bool):∀ (s:Bs) (j:Nat),j≤runN p s→moreB p (s.drop j)=decide (j < runN p s)
 | [],j,h=>by simp [runN] at h ⊢; subst h; rfl
 | b :: r, 0, h => by
   cases e:p b<;>simp [runN,moreB,e]
 | b :: r, j + 1, h => by
   cases e:p b with
   | false=>simp [runN,e] at h
   | true =>
     have hr:runN p (b :: r)=runN p r+1:=by simp [runN,e]
     rw [hr] at h ⊢
     have:=runN_step p r j (by omega)
     simpa using this
theorem scan_len {H:Hp} {i:Nat} {o:Ob} (h:H[i]?=some o):i < H.length:=(List.getElem?_eq_some_iff.1 h).1
theorem drop_add' (s:Bs) (n j:Nat):(s.drop n).drop j=s.drop (n+j):=by rw [List.drop_drop]
theorem sub_ok {s:Bs} {n w:Nat} (h:n+w≤s.length):subL s (n:Int) ((n:Int)+w)=some ((s.drop n).take w):=by
 rw [subL_ok ⟨by omega,by omega,by omega⟩]
 congr 2<;>omega
end
end
section
def leadS:Bool→Bs→Nat
 | _,[]=>0
 | false,b :: r=>if blankB b then leadS false r+1 else if hashB b then leadS true r+1 else 0
 | true,b :: r=>if noNlB b then leadS true r+1 else leadS false r+1
theorem lead_le:∀ (c:Bool) (s:Bs),leadS c s≤s.length
 | _,[]=>by simp [leadS]
 | false, b :: r => by
   have h1:=lead_le false r
   have h2:=lead_le true r
   simp only [leadS,List.length_cons]
   split
   · omega
   · split<;>omega
 | true, b :: r => by
   have h1:=lead_le false r
   have h2:=lead_le true r
   simp only [leadS,List.length_cons]
   split<;>omega
theorem lead_blank:∀ (s:Bs),leadS false s=runN blankB s+leadS false (s.drop (runN blankB s))
 | []=>by simp [leadS,runN]
 | b :: r => by
   cases e:blankB b with
   | false=>simp [runN,e]
   | true =>
     have:=lead_blank r
     have hr:runN blankB (b :: r)=runN blankB r+1:=by simp [runN,e]
     rw [hr,List.drop_succ_cons,leadS,if_pos e]
     omega
theorem lead_cmt:∀ (s:Bs),leadS true s=runN noNlB s+leadS false (s.drop (runN noNlB s))
 | []=>by simp [leadS,runN]
 | b :: r => by
   cases e:noNlB b with
   | false =>
     have hb:blankB b=true:=by
      have:(b.toNat:Int)=10:=by simpa [noNlB] using e
      simp [blankB,this]
     simp [runN,e,leadS,hb]
   | true =>
     have:=lead_cmt r
     have hr:runN noNlB (b :: r)=runN noNlB r+1:=by simp [runN,e]
     rw [hr,List.drop_succ_cons,leadS,if_pos e]
     omega
theorem lead_hash {s:Bs} (h:moreB hashB s=true):leadS false s=runN noNlB s+leadS false (s.drop (runN noNlB s))∧1≤runN noNlB s:=by
 cases s with
 | nil=>simp [moreB] at h
 | cons b r =>
   have hb:(b.toNat:Int)=35:=by simpa [moreB,hashB] using h
   have h1:blankB b=false:=by simp [blankB,hb]
   have h2:hashB b=true:=by simp [hashB,hb]
   have h3:noNlB b=true:=by simp [noNlB,hb]
   have hr:runN noNlB (b :: r)=runN noNlB r+1:=by simp [runN,h3]
   have:=lead_cmt r
   rw [hr,List.drop_succ_cons,leadS,h1,if_neg (by simp),if_pos h2]
   exact ⟨by omega,by omega⟩
section
variable {P:Program}
end
end
section
def signsT:List Bs:=[[61,61],[40],[41],[123],[125],[44],[59],[58],[46],[61],[43],[45],[42],[60]]
def signV (s:Bs):Bs:=(signsT.find? fun x=>x.isPrefixOf s).getD []
section
variable {P:Program}
theorem sub_end {s:Bs} {n:Nat} (h:n≤s.length):subL s (n:Int) (s.length:Int)=some (s.drop n):=by
 rw [subL_ok ⟨by omega,by omega,by omega⟩]
 congr 1
 rw [List.take_of_length_le (by simp)]
 simp
end
end
section
def unesc (c:UInt8):Option UInt8:=if c=110 then some 10 else if c=116 then some 9 else if c=34 then some 34 else if c=92 then some 92 else none
def unqI:Bs→Option Bs
 | []=>some []
 | [b]=>if b=92 then none else if b.toNat < 32∨b=34 then none else some [b]
 | b :: c :: r=>if b=92 then (unesc c).bind fun x=>(unqI r).map (x :: ·) else if b.toNat < 32∨b=34 then none else (unqI (c :: r)).map (b :: ·)
def unqV (s:Bs):Option Bs:=if s.length < 2∨s.head? ≠ some 34∨s.getLast? ≠ some 34 then none else unqI ((s.drop 1).take (s.length - 2))
def unqR:Option Bs→A
 | some x => .tup [.d (.str x),.d (.int .i64 0)]
 | none => .tup [.d (.str []),.d (.int .i64 22)]
theorem byteAt_nat (s:Bs) (n:Nat):byteAt s (n:Int)=s[n]?:=by
 have:¬ ((n:Int) < 0):=by omega
 simp [byteAt]
theorem byte_eq (b c:UInt8):((b.toNat:Int)=(c.toNat:Int)) ↔ b=c:=by
 constructor
 · intro e; exact UInt8.toNat_inj.1 (by omega)
 · rintro rfl; rfl
section
variable {P:Program}
end
end
section
def strS:Bs→Option Nat
 | []=>none
 | [b]=>if b=34 then some 1 else none
 | b :: c :: r=>if b=34 then some 1 else if b=92 then (strS r).map (·+2) else if b=10 then none else (strS (c :: r)).map (·+1)
def strV (s:Bs):Bs × Int:=match strS (s.drop 1) with
 | none=>([],22)
 | some k=>(s.take (k+1),if (unqV (s.take (k+1))).isSome then 0 else 22)
theorem strS_le:∀ {s:Bs} {k:Nat},strS s=some k→1≤k∧k≤s.length
 | [],k,h=>by simp [strS] at h
 | [b], k, h => by
   simp only [strS] at h
   split at h
   · simp at h ⊢; omega
   · cases h
 | b :: c :: r, k, h => by
   simp only [strS] at h
   split at h
   · simp at h ⊢; omega
   split at h
   · cases e:strS r with
     | none=>simp [e] at h
     | some q=>have:=strS_le e; simp [e] at h; simp; omega
   split at h
   · cases h
   · cases e:strS (c :: r) with
     | none=>simp [e] at h
     | some q=>have:=strS_le e; simp [e] at h; simp at this ⊢; omega
section
variable {P:Program}
end
end
section
def numOk (s:Bs):Bool:=match Lib.parseUintB 63 s with
 | .ok _=>true
 | _=>false
def tokN:Bs→Int × Int × Nat
 | []=>(0,0,0)
 | b :: r =>
   if letterB b then
    if (b :: r).take (runN wordB (b :: r)) ∈ keysL then (0,2,runN wordB (b :: r)) else if 40 < runN wordB (b :: r) then (26,0,0) else (0,1,runN wordB (b :: r))
   else if digitB b then
    if numOk ((b :: r).take (runN wordB (b :: r))) then (0,3,runN wordB (b :: r)) else (23,0,0)
   else if b=34 then
    if (strV (b :: r)).2=0 then (0,4,(strV (b :: r)).1.length) else (22,0,0)
   else if signV (b :: r)=[] then (21,0,0) else (0,5,(signV (b :: r)).length)
theorem strV_take (s:Bs):(strV s).2=0→s.take (strV s).1.length=(strV s).1:=by
 unfold strV
 split
 · simp
 · rename_i k hk
   have:=strS_le hk
   intro _
   simp only [List.length_take]
   simp only [List.length_drop] at this
   rw [Nat.min_eq_left (by omega)]
theorem signV_take (s:Bs):s.take (signV s).length=signV s:=by
 unfold signV
 cases h:signsT.find? (fun x=>x.isPrefixOf s) with
 | none=>simp
 | some x =>
   have:=List.find?_some h
   have hp:x <+: s:=List.isPrefixOf_iff_prefix.1 (by simpa using this)
   simp only [Option.getD_some]
   exact (List.prefix_iff_eq_take.1 hp).symm
section
variable {P:Program}
end
end
section
def decU (s:Bs):Nat × Nat:=if s=[] then (65533,0) else Lib.decodeN s.length (s.getD 0 0).toNat (s.getD 1 0).toNat (s.getD 2 0).toNat (s.getD 3 0).toNat
theorem decU_len {s:Bs} (h:s ≠ []):1≤(decU s).2∧(decU s).2≤s.length:=by
 have hl:1≤s.length:=by cases s with
  | nil=>exact absurd rfl h
  | cons a r=>simp
 unfold decU
 rw [if_neg h]
 generalize (s.getD 0 0).toNat=b0
 generalize (s.getD 1 0).toNat=b1
 generalize (s.getD 2 0).toNat=b2
 generalize (s.getD 3 0).toNat=b3
 unfold Lib.decodeN
 (repeat' split)<;>simp only<;>omega
def badF:Nat→Bs→Nat→Int
 | 0,_,_ => -1
 | f+1,s,n=>if s=[] then -1 else if decU s=(65533,1) then n else badF f (s.drop (decU s).2) (n+(decU s).2)
def badS (s:Bs):Int:=badF s.length s 0
theorem badF_fuel:∀ (f g:Nat) (s:Bs) (n:Nat),s.length≤f→s.length≤g→badF f s n=badF g s n
 | 0,0,s,n,_,_=>rfl
 | 0, g + 1, s, n, h, _ => by
   have:s=[]:=List.eq_nil_of_length_eq_zero (by omega)
   simp [badF,this]
 | f + 1, 0, s, n, _, h => by
   have:s=[]:=List.eq_nil_of_length_eq_zero (by omega)
   simp [badF,this]
 | f + 1, g + 1, s, n, h1, h2 => by
   by_cases hs:s=[]
   · simp [badF,hs]
   · simp only [badF,hs,if_false]
     split
     · rfl
     · have:=decU_len hs
       exact badF_fuel f g _ _ (by simp; omega) (by simp; omega)
section
variable {P:Program}
end
structure Tk where
 k:Int
 a:Nat
 l:Bs
 x:Bs
def encTk (t:Tk):List D:=[.int .i64 t.k,.int .i64 (t.a:Int),.str t.l,.str t.x]
def lexF:Nat→Bs→Nat→Nat→List Tk × Int × Int
 | 0,_,_,_=>([],0,0)
 | f + 1, s, n, c =>
   if (tokN (s.drop (leadS false s))).1 ≠ 0 then ([],(tokN (s.drop (leadS false s))).1,((n+leadS false s:Nat):Int))
   else if 4000≤c then ([],5,((n+leadS false s:Nat):Int))
   else if (tokN (s.drop (leadS false s))).2.1=0 then ([⟨(tokN (s.drop (leadS false s))).2.1,n+leadS false s,s.take (leadS false s),(s.drop (leadS false s)).take (tokN (s.drop (leadS false s))).2.2⟩],0,0)
   else if (lexF f ((s.drop (leadS false s)).drop (tokN (s.drop (leadS false s))).2.2) (n+leadS false s+(tokN (s.drop (leadS false s))).2.2) (c+1)).2.1=0 then
    (⟨(tokN (s.drop (leadS false s))).2.1,n+leadS false s,s.take (leadS false s),(s.drop (leadS false s)).take (tokN (s.drop (leadS false s))).2.2⟩ :: (lexF f ((s.drop (leadS false s)).drop (tokN (s.drop (leadS false s))).2.2) (n+leadS false s+(tokN (s.drop (leadS false s))).2.2) (c+1)).1,0,0)
   else ([],(lexF f ((s.drop (leadS false s)).drop (tokN (s.drop (leadS false s))).2.2) (n+leadS false s+(tokN (s.drop (leadS false s))).2.2) (c+1)).2)
def lexS (s:Bs):List Tk × Int × Int:=if 16384 < s.length then ([],5,16384) else if 0≤badS s then ([],20,badS s) else lexF (s.length+1) s 0 0
theorem strV_len (s:Bs):(strV s).2=0→2≤(strV s).1.length:=by
 unfold strV
 split
 · simp
 · rename_i k hk
   have:=strS_le hk
   intro _
   simp only [List.length_take]
   simp only [List.length_drop] at this
   omega
theorem runN_pos {p:UInt8→Bool} {b:UInt8} {r:Bs} (h:p b=true):1≤runN p (b :: r):=by simp [runN,h]
theorem tokN_len:∀ (s:Bs),(tokN s).2.2≤s.length∧((tokN s).1=0→(tokN s).2.1=0→s=[])∧((tokN s).1=0→s ≠ []→1≤(tokN s).2.2)∧(s=[]→(tokN s).2.1=0)
 | []=>by simp [tokN]
 | b :: r => by
   have h1:=runN_le wordB (b :: r)
   have h2:=strV_take (b :: r)
   have h3:=signV_take (b :: r)
   have h4:=strV_len (b :: r)
   have h5:letterB b=true→1≤runN wordB (b :: r):=fun h=>runN_pos (by simp [wordB,h])
   have h6:digitB b=true→1≤runN wordB (b :: r):=fun h=>runN_pos (by simp [wordB,h])
   have h7:(strV (b :: r)).2=0→(strV (b :: r)).1.length≤(b :: r).length:=fun h=>by
    rw [← h2 h]; simp only [List.length_take]; omega
   have h8:(signV (b :: r)).length≤(b :: r).length:=by
    have:=congrArg List.length h3
    simp only [List.length_take] at this
    omega
   have h9:signV (b :: r) ≠ []→1≤(signV (b :: r)).length:=fun h=>by
    cases hq:signV (b :: r) with
    | nil=>exact absurd hq h
    | cons a t=>simp
   rw [tokN]
   generalize runN wordB (b :: r)=w at *
   generalize strV (b :: r)=S at *
   generalize signV (b :: r)=G at *
   (repeat' split)<;>simp_all<;>omega
def combL (acc:List Tk) (r:List Tk × Int × Int):List Tk × Int × Int:=if r.2.1=0 then (acc++r.1,0,0) else ([],r.2)
theorem lexF_norm:∀ (f:Nat) (s:Bs) (n c:Nat),((lexF f s n c).2.1=0→(lexF f s n c).2.2=0)∧((lexF f s n c).2.1 ≠ 0→(lexF f s n c).1=[])
 | 0,s,n,c=>by simp [lexF]
 | f + 1, s, n, c => by
   rw [lexF]
   split
   · rename_i h; exact ⟨fun e=>absurd e h,fun _=>rfl⟩
   split
   · exact ⟨fun e=>absurd e (by simp),fun _=>rfl⟩
   split
   · exact ⟨fun _=>rfl,fun e=>absurd rfl e⟩
   split
   · exact ⟨fun _=>rfl,fun e=>absurd rfl e⟩
   · rename_i h; exact ⟨fun e=>absurd e h,fun _=>rfl⟩
theorem combL_nil (f:Nat) (s:Bs) (n c:Nat):combL [] (lexF f s n c)=lexF f s n c:=by
 obtain ⟨h1,h2⟩:=lexF_norm f s n c
 generalize lexF f s n c=R at h1 h2
 obtain ⟨l,e,a⟩:=R
 unfold combL
 split
 · rename_i h
   simp only at h h1
   simp [h,h1 h]
 · rename_i h
   simp only at h h2
   simp [h2 h]
theorem combL_snoc (acc:List Tk) (t:Tk) (R:List Tk × Int × Int):combL (acc++[t]) R=combL acc (if R.2.1=0 then (t :: R.1,0,0) else ([],R.2)):=by
 unfold combL
 by_cases h:R.2.1=0<;>simp [h]
section
variable {P:Program}
end
end
section
section
variable {P:Program}
end
end
end Go.Zam
namespace Go.Zam
inductive N where
 | mk (k f t:Int) (w:Bs) (a:Int) (z:Bool) (ks:List N)
namespace N
def k:N→Int | .mk k ..=>k
def f:N→Int | .mk _ f ..=>f
def t:N→Int | .mk _ _ t ..=>t
def w:N→Bs | .mk _ _ _ w ..=>w
def at_:N→Int | .mk _ _ _ _ a _ _=>a
def ks:N→List N | .mk _ _ _ _ _ _ ks=>ks
def new (k f t:Int) (w:Bs) (a:Int) (ks:List N):N := .mk k f t w a ks.isEmpty ks
mutual
def enc:N→List D
 | .mk k f t w a z ks=>[.int .i64 k,.int .i64 f,.int .i64 t,.str w,.int .i64 a,.sl z 6 (encs ks)]
def encs:List N→List (List D)
 | []=>[]
 | p :: r=>enc p :: encs r
end
theorem encs_map:∀ l:List N,encs l=l.map enc
 | []=>rfl
 | p :: r=>by rw [encs,encs_map r]; rfl
theorem enc_mk (k f t:Int) (w:Bs) (a:Int) (z:Bool) (ks:List N):enc (.mk k f t w a z ks)=[.int .i64 k,.int .i64 f,.int .i64 t,.str w,.int .i64 a,.sl z 6 (ks.map enc)]:=by rw [enc,encs_map]
def v (n:N):A := .agg (n.enc.map .d)
theorem v_mk (k f t:Int) (w:Bs) (a:Int) (z:Bool) (ks:List N):v (.mk k f t w a z ks) = .agg [.d (.int .i64 k),.d (.int .i64 f),.d (.int .i64 t),.d (.str w),.d (.int .i64 a),.d (.sl z 6 (ks.map enc))]:=by rw [v,enc_mk]; rfl
theorem v_new (k f t:Int) (w:Bs) (a:Int) (ks:List N):v (new k f t w a ks) = .agg [.d (.int .i64 k),.d (.int .i64 f),.d (.int .i64 t),.d (.str w),.d (.int .i64 a),.d (.sl ks.isEmpty 6 (ks.map enc))]:=v_mk ..
mutual
theorem ind {Q:N→Prop} (h:∀ k f t w a z ks,(∀ p ∈ ks,Q p)→Q (.mk k f t w a z ks)):∀ n,Q n
 | .mk k f t w a z ks=>h k f t w a z ks (inds h ks)
theorem inds {Q:N→Prop} (h:∀ k f t w a z ks,(∀ p ∈ ks,Q p)→Q (.mk k f t w a z ks)):∀ l:List N,∀ p ∈ l,Q p
 | []=>fun p hp=>by simp at hp
 | x :: r=>fun p hp=>(List.mem_cons.1 hp).elim (fun e=>e ▸ ind h x) (fun hp=>inds h r p hp)
end
def none:N:=new 0 0 0 [] 0 []
def bag (ks:List N):N:=new 0 0 0 [] 0 ks
end N
inductive PR where
 | out
 | bad (i:Nat)
 | ok (n:N) (i:Nat)
def PR.then:PR→(N→Nat→PR)→PR
 | .out,_ => .out
 | .bad i,_ => .bad i
 | .ok n i,h=>h n i
inductive G where
 | file (ks:List N) | use | defn | params | param | typed | kind | tfield | block | stmts (ks:List N) | stmt
 | expr | sum | sumL (a:N) | term | termL (a:N) | post | postL (a:N) | atom | entry
 | list (one:G) (e:Bs) | listL (one:G) (e:Bs) (ks:List N)
def isT (L:List Tk) (i:Nat) (x:Bs):Bool:=match L[i]? with
 | some t=>(decide (t.k=2) || decide (t.k=5)) && decide (t.x=x)
 | none=>false
def kdT (L:List Tk) (i:Nat):Int:=match L[i]? with
 | some t=>t.k
 | none=>0
def txT (L:List Tk) (i:Nat):Bs:=match L[i]? with
 | some t=>t.x
 | none=>[]
def kUse:Bs:=[117,115,101]
def kDef:Bs:=[100,101,102]
def kInt:Bs:=[105,110,116]
def kStr:Bs:=[115,116,114]
def kDyn:Bs:=[100,121,110]
def kFn:Bs:=[102,110]
def kIf:Bs:=[105,102]
def kElse:Bs:=[101,108,115,101]
def kWhile:Bs:=[119,104,105,108,101]
def kLet:Bs:=[108,101,116]
def kPrint:Bs:=[112,114,105,110,116]
def kReturn:Bs:=[114,101,116,117,114,110]
def kInput:Bs:=[105,110,112,117,116]
def wantR (L:List Tk) (i:Nat) (x:Bs) (h:Nat→PR):PR:=if isT L i x then h (i+1) else .bad i
def wordR (L:List Tk) (i:Nat) (h:Bs→Nat→PR):PR:=if kdT L i=1 then h (txT L i) (i+1) else .bad i
def pp (L:List Tk):Nat→G→Nat→PR
 | 0,_,_ => .out
 | n + 1, g, i => match g with
   | .file ks=>if kdT L i=0 then .ok (N.new 1 0 i [] 0 ks) i
    else if isT L i kUse then (pp L n .use i).then fun m j=>pp L n (.file (ks++[m])) j else (pp L n .defn i).then fun m j=>pp L n (.file (ks++[m])) j
   | .use=>wantR L i kUse fun _=>wordR L (i+1) fun m _=>wantR L (i+2) [46] fun _=>wordR L (i+3) fun w _=>wantR L (i+4) [59] fun _ =>
    .ok (N.new 2 i (i+5) w (i+3) [N.new 23 (i+1) (i+2) m (i+1) []]) (i+5)
   | .defn=>wantR L i kDef fun _=>wordR L (i+1) fun w _=>(pp L n .params (i+2)).then fun p j=>(pp L n .typed j).then fun t j=>(pp L n .block j).then fun b j => .ok (N.new 3 i j w (i+1) [p,t,b]) j
   | .params=>wantR L i [40] fun _=>(pp L n (.list .param [41]) (i+1)).then fun m j => .ok (N.new 4 i j [] 0 m.ks) j
   | .param=>wordR L i fun w _=>(pp L n .typed (i+1)).then fun t j => .ok (N.new 5 i j w i [t]) j
   | .typed=>if isT L i [58] then pp L n .kind (i+1) else .ok N.none i
   | .kind=>if isT L i kInt then .ok (N.new 29 i (i+1) [] 0 []) (i+1) else if isT L i kStr then .ok (N.new 30 i (i+1) [] 0 []) (i+1) else if isT L i kDyn then .ok (N.new 31 i (i+1) [] 0 []) (i+1)
    else if isT L i [123] then (pp L n (.list .tfield [125]) (i+1)).then fun m j => .ok (N.new 32 i j [] 0 m.ks) j
    else wantR L i kFn fun _=>wantR L (i+1) [40] fun _=>(pp L n (.list .kind [41]) (i+2)).then fun m j=>wantR L j [58] fun _=>(pp L n .kind (j+1)).then fun t j => .ok (N.new 34 i j [] 0 (m.ks++[t])) j
   | .tfield=>wordR L i fun w _=>wantR L (i+1) [58] fun _=>(pp L n .kind (i+2)).then fun t j => .ok (N.new 33 i j w i [t]) j
   | .block=>wantR L i [123] fun _=>(pp L n (.stmts []) (i+1)).then fun m j => .ok (N.new 6 i j [] 0 m.ks) j
   | .stmts ks=>if isT L i [125] then .ok (N.bag ks) (i+1) else (pp L n .stmt i).then fun m j=>pp L n (.stmts (ks++[m])) j
   | .stmt=>if isT L i kLet then wordR L (i+1) fun w _=>(pp L n .typed (i+2)).then fun t j=>wantR L j [61] fun _=>(pp L n .expr (j+1)).then fun x j=>wantR L j [59] fun _ => .ok (N.new 7 i (j+1) w (i+1) [t,x]) (j+1)
    else if isT L i kIf then (pp L n .expr (i+1)).then fun c j=>(pp L n .block j).then fun b j =>
     if isT L j kElse then (pp L n .block (j+1)).then fun o j => .ok (N.new 9 i j [] 0 [c,b,o]) j else .ok (N.new 9 i j [] 0 [c,b,N.none]) j
    else if isT L i kWhile then (pp L n .expr (i+1)).then fun c j=>(pp L n .block j).then fun b j => .ok (N.new 10 i j [] 0 [c,b]) j
    else if isT L i kPrint then (pp L n .expr (i+1)).then fun x j=>wantR L j [59] fun _ => .ok (N.new 11 i (j+1) [] 0 [x]) (j+1)
    else if isT L i kReturn then (pp L n .expr (i+1)).then fun x j=>wantR L j [59] fun _ => .ok (N.new 12 i (j+1) [] 0 [x]) (j+1)
    else if kdT L i=1∧isT L (i+1) [61]=true then (pp L n .expr (i+2)).then fun x j=>wantR L j [59] fun _ => .ok (N.new 8 i (j+1) (txT L i) i [x]) (j+1)
    else (pp L n .expr i).then fun x j=>wantR L j [59] fun _ => .ok (N.new 13 i (j+1) [] 0 [x]) (j+1)
   | .expr=>(pp L n .sum i).then fun a j=>if isT L j [60] then (pp L n .sum (j+1)).then fun b j => .ok (N.new 14 a.f j [] 0 [a,b]) j
    else if isT L j [61,61] then (pp L n .sum (j+1)).then fun b j => .ok (N.new 15 a.f j [] 0 [a,b]) j else .ok a j
   | .sum=>(pp L n .term i).then fun a j=>pp L n (.sumL a) j
   | .sumL a=>if isT L i [43] then (pp L n .term (i+1)).then fun b j=>pp L n (.sumL (N.new 16 a.f j [] 0 [a,b])) j
    else if isT L i [45] then (pp L n .term (i+1)).then fun b j=>pp L n (.sumL (N.new 17 a.f j [] 0 [a,b])) j else .ok a i
   | .term=>(pp L n .post i).then fun a j=>pp L n (.termL a) j
   | .termL a=>if isT L i [42] then (pp L n .post (i+1)).then fun b j=>pp L n (.termL (N.new 18 a.f j [] 0 [a,b])) j else .ok a i
   | .post=>(pp L n .atom i).then fun a j=>pp L n (.postL a) j
   | .postL a=>if isT L i [46] then wordR L (i+1) fun w j=>pp L n (.postL (N.new 19 a.f j w (i+1) [a])) j
    else if isT L i [40] then (pp L n (.list .expr [41]) (i+1)).then fun m j=>pp L n (.postL (N.new 20 a.f j [] 0 (a :: m.ks))) j else .ok a i
   | .atom=>if kdT L i=3 then .ok (N.new 21 i (i+1) (txT L i) i []) (i+1) else if kdT L i=4 then .ok (N.new 22 i (i+1) (txT L i) i []) (i+1) else if kdT L i=1 then .ok (N.new 23 i (i+1) (txT L i) i []) (i+1)
    else if isT L i kInput then .ok (N.new 24 i (i+1) [] 0 []) (i+1)
    else if isT L i [40] then (pp L n .expr (i+1)).then fun x j=>wantR L j [41] fun _ => .ok (N.new 25 i (j+1) [] 0 [x]) (j+1)
    else if isT L i [123] then (pp L n (.list .entry [125]) (i+1)).then fun m j => .ok (N.new 26 i j [] 0 m.ks) j
    else wantR L i kFn fun _=>(pp L n .params (i+1)).then fun p j=>(pp L n .typed j).then fun t j=>(pp L n .block j).then fun b j => .ok (N.new 28 i j [] 0 [p,t,b]) j
   | .entry=>wordR L i fun w _=>wantR L (i+1) [58] fun _=>(pp L n .expr (i+2)).then fun x j => .ok (N.new 27 i j w i [x]) j
   | .list one e=>if isT L i e then .ok (N.bag []) (i+1) else pp L n (.listL one e []) i
   | .listL one e ks=>(pp L n one i).then fun x j=>if isT L j e then .ok (N.bag (ks++[x])) (j+1) else wantR L j [44] fun j=>pp L n (.listL one e (ks++[x])) j
def G.strict:G→Bool
 | .file _ | .typed | .sumL _ | .termL _ | .postL _=>false
 | _=>true
theorem isT_lt {L:List Tk} {i:Nat} {x:Bs} (h:isT L i x=true):i < L.length:=by
 unfold isT at h
 split at h
 · rename_i t e; exact (List.getElem?_eq_some_iff.1 e).1
 · cases h
theorem kdT_lt {L:List Tk} {i:Nat} (h:kdT L i ≠ 0):i < L.length:=by
 unfold kdT at h
 split at h
 · rename_i t e; exact (List.getElem?_eq_some_iff.1 e).1
 · exact absurd rfl h
def Adv (L:List Tk) (i:Nat) (s:Bool):PR→Prop
 | .ok _ j=>i≤j∧(s=true→i < j)∧(i < j→j≤L.length)
 | _=>True
section
variable {L:List Tk}
theorem Adv.ok {i j:Nat} {s:Bool} {m:N} (h1:i≤j) (h2:s=true→i < j) (h3:i < j→j≤L.length):Adv L i s (.ok m j):=⟨h1,h2,h3⟩
theorem Adv.want {i k:Nat} {s:Bool} {x:Bs} {h:Nat→PR} (hh:k+1≤L.length→Adv L i s (h (k+1))):Adv L i s (wantR L k x h):=by
 unfold wantR
 split
 · rename_i e; exact hh (isT_lt e)
 · trivial
theorem Adv.word {i k:Nat} {s:Bool} {h:Bs→Nat→PR} (hh:k+1≤L.length→Adv L i s (h (txT L k) (k+1))):Adv L i s (wordR L k h):=by
 unfold wordR
 split
 · rename_i e; exact hh (kdT_lt (by omega))
 · trivial
theorem Adv.ifT {i k:Nat} {s:Bool} {x:Bs} {a b:PR} (ha:k+1≤L.length→Adv L i s a) (hb:Adv L i s b):Adv L i s (if isT L k x then a else b):=by
 split
 · rename_i e; exact ha (isT_lt e)
 · exact hb
theorem Adv.ifK {i k:Nat} {s:Bool} {x:Int} {a b:PR} (hx:x ≠ 0) (ha:k+1≤L.length→Adv L i s a) (hb:Adv L i s b):Adv L i s (if kdT L k=x then a else b):=by
 split
 · rename_i e; exact ha (kdT_lt (by omega))
 · exact hb
theorem Adv.if0 {i k:Nat} {s:Bool} {a b:PR} (ha:Adv L i s a) (hb:Adv L i s b):Adv L i s (if kdT L k=0 then a else b):=by
 split
 · exact ha
 · exact hb
theorem Adv.ifS {i k:Nat} {s:Bool} {x:Bs} {a b:PR} (ha:k+2≤L.length→Adv L i s a) (hb:Adv L i s b):Adv L i s (if kdT L k=1∧isT L (k+1) x=true then a else b):=by
 split
 · rename_i e; exact ha (by have:=isT_lt e.2; omega)
 · exact hb
theorem Adv.last {n:Nat} (ih:∀ g i,Adv L i g.strict (pp L n g i)) {g:G} {k i:Nat} {s:Bool} (h1:i≤k) (h2:i < k→k≤L.length) (h3:s=true→g.strict=true∨i < k):Adv L i s (pp L n g k):=by
 have:=ih g k
 generalize pp L n g k=r at this
 cases r with
 | out=>trivial
 | bad j=>trivial
 | ok m j =>
   obtain ⟨a1,a2,a3⟩:=this
   refine ⟨by omega,fun h => ?_,fun h=>by omega⟩
   rcases h3 h with h | h
   · have:=a2 h; omega
   · omega
theorem Adv.thenG {n:Nat} (ih:∀ g i,Adv L i g.strict (pp L n g i)) {g:G} {k i:Nat} {s:Bool} {h:N→Nat→PR} (hh:∀ m j,k≤j→(g.strict=true→k < j)→(k < j→j≤L.length)→Adv L i s (h m j)):Adv L i s ((pp L n g k).then h):=by
 have:=ih g k
 generalize pp L n g k=r at this
 cases r with
 | out=>trivial
 | bad j=>trivial
 | ok m j=>exact hh m j this.1 this.2.1 this.2.2
theorem pp_adv:∀ (n:Nat) (g:G) (i:Nat),Adv L i g.strict (pp L n g i)
 | 0,g,i=>trivial
 | n + 1, g, i => by
   have ih:=pp_adv n
   cases g
   all_goals simp only [pp,G.strict]
   all_goals
    repeat' first
     | exact Adv.bad
     | (refine Adv.want fun _ => ?_)
     | (refine Adv.word fun _ => ?_)
     | (refine Adv.ifT (fun _ => ?_) ?_)
     | (refine Adv.ifK (by decide) (fun _ => ?_) ?_)
     | (refine Adv.ifS (fun _ => ?_) ?_)
     | (refine Adv.if0 ?_ ?_)
     | (refine Adv.thenG ih fun m j h1 h2 h3 => ?_; simp only [G.strict,Bool.false_eq_true,false_implies,true_implies] at h2)
     | (refine Adv.ok ?_ ?_ ?_<;>(try simp only [Bool.false_eq_true,false_implies,true_implies])<;>omega)
     | (refine Adv.last ih ?_ ?_ ?_<;>(try simp only [G.strict,Bool.false_eq_true,false_implies,true_implies,false_or,true_or])<;>omega)
def G.c:G→Nat
 | .file _=>7 | .use=>1 | .defn=>6 | .params=>5 | .param=>2 | .typed=>1 | .kind=>1 | .tfield=>2 | .block=>1 | .stmts _=>7 | .stmt=>6
 | .expr=>5 | .sum=>4 | .sumL _=>1 | .term=>3 | .termL _=>1 | .post=>2 | .postL _=>1 | .atom=>1 | .entry=>6
 | .list o _=>o.c+2 | .listL o _ _=>o.c+1
end
end Go.Zam
namespace Go.Zam

section
def Nrm (x x':A):Prop:=∀ κ v,VR κ v x→VR κ v x'
theorem acall_norm {P:Program} {f:FuncId} {args:List A} {H:Hp} {Q:A→Hp→Prop} (h:ACall P f args H (fun r H'=>∃ r',Nrm r r'∧Q r' H')):ACall P f args H Q:=by
 intro κ w vs hr hl hv
 refine (h κ w vs hr hl hv).mono ?_
 rintro e w' ⟨v,κ',x,H',rfl,h1,h2,h3,r',h4,h5⟩
 exact ⟨v,κ',r',H',rfl,h1,h2,h4 _ _ h3,h5⟩
theorem DR.isE {σ:St} {v:Value} {z:Bool} {sz:Nat} {rows:List (List D)} (h:DR σ v (.sl z sz rows)) (hz:rows=[]→z=true):DR σ v (.sl rows.isEmpty sz rows):=by
 cases h with
 | nilsl=>exact .nilsl sz
 | sl _ _ _ b o cap f hz' hcap hrow hc hd =>
   exact .sl rows.isEmpty sz rows b o cap f (fun e=>by
    have:=List.isEmpty_iff.1 e
    exact absurd this (hz' (hz this))) hcap hrow hc hd
 | emp _ a cap=>exact absurd (hz rfl) (by simp)
theorem nrm_node {a b c d e:A} {z:Bool} {rows:List (List D)} (hz:rows=[]→z=true):Nrm (.agg [a,b,c,d,e,.d (.sl z 6 rows)]) (.agg [a,b,c,d,e,.d (.sl rows.isEmpty 6 rows)]):=by
 intro κ v h
 cases h with
 | agg vs _ hl hh =>
   refine .agg vs _ (by simpa using hl) fun i v a hv ha => ?_
   match i with
   | 0=>exact hh 0 v _ hv ha
   | 1=>exact hh 1 v _ hv ha
   | 2=>exact hh 2 v _ hv ha
   | 3=>exact hh 3 v _ hv ha
   | 4=>exact hh 4 v _ hv ha
   | 5 =>
     simp at ha
     subst ha
     have:=hh 5 v _ hv rfl
     cases this with
     | d hd=>exact .d (hd.isE hz)
   | i+6=>simp at ha
structure PF where
 (now fail is took want word node done put list file use_ def_ params param typed kind tfield block stmt sets expr with_ sum term post atom entry:FuncId)
 (tn tt tp tb:TypeId)
abbrev PSt:=Nat × Option Nat
def tookB (L:List Tk) (x:Bs) (s:PSt):Bool:=s.2.isNone && isT L s.1 x
def tookS (L:List Tk) (x:Bs) (s:PSt):PSt:=if tookB L x s then (s.1+1,s.2) else s
def failS (s:PSt):PSt:=if s.2.isNone then (s.1,some s.1) else s
def wantS (L:List Tk) (x:Bs) (s:PSt):PSt:=if tookB L x s then (s.1+1,s.2) else failS s
def wordOkB (L:List Tk) (s:PSt):Bool:=s.2.isNone && decide (kdT L s.1=1)
def wordS (L:List Tk) (s:PSt):PSt:=if wordOkB L s then (s.1+1,s.2) else if kdT L s.1=1 then s else failS s
theorem get_app {H:Hp} {i:Nat} {o:Ob} (h:H[i]?=some o) (X:Hp):(H++X)[i]?=some o:=by
 rw [List.getElem?_append_left (List.getElem?_eq_some_iff.1 h).1]; exact h
theorem cut_set' {H:Hp} {i:Nat} {o:Ob} (hcl:H.Closed) (ho:o.clr H.length=o):Hp.cut H.length (H.set i o)=H.set i o:=by
 rw [Hp.cut_set,cut_self hcl,ho]
theorem cut_appL {A X:Hp} {n:Nat} (h:A.length=n):Hp.cut n (A++X)=Hp.cut n A:=by
 unfold Hp.cut
 rw [List.take_append_of_le_length (by omega)]
theorem set_get {H:Hp} {i:Nat} (h:i < H.length) (o:Ob):(H.set i o)[i]?=some o:=by simp [h]
theorem up {H X:Hp} {i:Nat} {o o':Ob} (hi:i < H.length):(H.set i o++X).set i o'=H.set i o'++X:=by
 rw [List.set_append_left _ _ (by simpa using hi)]; simp
theorem upG {H X:Hp} {i:Nat} {o:Ob} (hi:i < H.length):(H.set i o++X)[i]?=some o:=get_app (by simp [hi]) X
section
variable {P:Program} {F:PF} {z:Bool} {L:List Tk} {H:Hp} {i:Nat} {s:PSt}
end
end
section
def G.wt:G→Nat
 | .expr | .sum | .sumL _ | .term | .termL _ | .post | .postL _ | .atom | .stmt | .entry=>1
 | _=>0
def PPre (L:List Tk) (n:Nat) (g:G) (s:PSt):Prop:=s.1+16 * g.c≤281474976710656∧g.c≤n∧(s.2=none→s.1≤L.length∧16 * (L.length - s.1)+g.c≤n)
def Rel (L:List Tk) (n:Nat) (g:G) (s:PSt) (m:N) (s':PSt):Prop :=
 match s.2 with
 | some q=>s'.2=some q∧s'.1≤s.1+g.wt
 | none => match pp L n g s.1 with
   | .out=>False
   | .bad q=>s'.2=some q∧s'.1≤L.length+n
   | .ok m' k=>m=m'∧s'=(k,none)
@[simp] theorem gS (H : Hp) (i : Nat) (o : Ob) (X : Hp) (k : Nat) : (List.set H i o ++ X)[H.length + k]? = X[k]? := by
  rw [List.getElem?_append_right (by simp)]; simp
@[simp] theorem gS0 (H:Hp) (i:Nat) (o:Ob) (X:Hp):(List.set H i o++X)[H.length]?=X[0]?:=gS H i o X 0
@[simp] theorem sS (H : Hp) (i : Nat) (o : Ob) (X : Hp) (k : Nat) (x : Ob) : (List.set H i o ++ X).set (H.length + k) x = List.set H i o ++ X.set k x := by
  rw [List.set_append_right _ _ (by simp)]; simp
@[simp] theorem sS0 (H:Hp) (i:Nat) (o:Ob) (X:Hp) (x:Ob):(List.set H i o++X).set H.length x=List.set H i o++X.set 0 x:=sS H i o X 0 x
theorem failS_le {s s':PSt} (h:failS s=s'):s'.1=s.1:=by subst h; unfold failS; split<;>rfl
theorem wantS_le {L:List Tk} {x:Bs} {s s':PSt} (h:wantS L x s=s'):s'.1≤s.1+1:=by
 subst h; unfold wantS; split
 · simp
 · rw [failS_le rfl]; omega
theorem wordS_le {L:List Tk} {s s':PSt} (h:wordS L s=s'):s'.1≤s.1+1:=by
 subst h; unfold wordS; split
 · simp
 · split
   · omega
   · rw [failS_le rfl]; omega
section
variable {P:Program} {F:PF} {z:Bool} {L:List Tk} {H X:Hp} {i:Nat} {s:PSt}
end
section
variable {L:List Tk} {x:Bs} {p q:Nat}
@[simp] theorem tookB_some:tookB L x (p,some q)=false:=rfl
@[simp] theorem tookB_none:tookB L x (p,none)=isT L p x:=by simp [tookB]
@[simp] theorem tookS_some:tookS L x (p,some q)=(p,some q):=rfl
@[simp] theorem tookS_none:tookS L x (p,none)=if isT L p x then (p+1,none) else (p,none):=by simp [tookS]
@[simp] theorem failS_some:failS (p,some q)=(p,some q):=rfl
@[simp] theorem failS_none:failS (p,none)=(p,some p):=rfl
@[simp] theorem wantS_some:wantS L x (p,some q)=(p,some q):=rfl
@[simp] theorem wantS_none:wantS L x (p,none)=if isT L p x then (p+1,none) else (p,some p):=by simp [wantS]
@[simp] theorem wordOkB_some:wordOkB L (p,some q)=false:=rfl
@[simp] theorem wordOkB_none:wordOkB L (p,none)=decide (kdT L p=1):=by simp [wordOkB]
@[simp] theorem wordS_some:wordS L (p,some q)=(p,some q):=by unfold wordS; simp
@[simp] theorem wordS_none:wordS L (p,none)=if kdT L p=1 then (p+1,none) else (p,some p):=by unfold wordS; by_cases h:kdT L p=1<;>simp [h]
theorem Rel.some' {n:Nat} {g:G} {m:N} {s':PSt} (h:Rel L n g (p,some q) m s'):∃ a,s'=(a,some q)∧a≤p+g.wt:=by
 obtain ⟨a,b⟩:=s'
 obtain ⟨h1,h2⟩:=h
 simp only at h1 h2
 subst h1
 exact ⟨a,rfl,h2⟩
theorem Rel.none' {n:Nat} {g:G} {m:N} {s':PSt} (h:Rel L n g (p,none) m s'):(∃ q a,pp L n g p = .bad q∧s'=(a,some q)∧a≤L.length+n)∨∃ k,pp L n g p = .ok m k∧s'=(k,none):=by
 obtain ⟨a,b⟩:=s'
 simp only [Rel] at h
 split at h
 · exact h.elim
 · rename_i q' e
   obtain ⟨h1,h2⟩:=h
   subst h1
   exact .inl ⟨q',a,e,rfl,h2⟩
 · rename_i m' k e
   obtain ⟨rfl,h2⟩:=h
   exact .inr ⟨k,e,h2⟩
theorem Rel.le {n:Nat} {g:G} {m:N} {s s':PSt} (h:Rel L n g s m s'):s'.1≤s.1+1∨s'.1≤L.length+n∨(s.1=s'.1∨s'.1≤L.length):=by
 obtain ⟨p,st⟩:=s
 cases st with
 | some q =>
   obtain ⟨a,rfl,h2⟩:=h.some'
   have:g.wt≤1:=by cases g<;>simp [G.wt]
   exact .inl (by simp only; omega)
 | none =>
   rcases h.none' with ⟨q,a,-,rfl,h2⟩ | ⟨k,h1,rfl⟩
   · exact .inr (.inl h2)
   · have:=pp_adv (L:=L) n g p
     rw [h1] at this
     obtain ⟨a1,a2,a3⟩:=this
     exact .inr (.inr (by simp only; omega))
theorem Rel.wt0 {n:Nat} {g:G} {m:N} {s s':PSt} (hg:g.wt=0) (h:Rel L n g s m s'):s'.1≤s.1∨s'.1≤L.length+n∨(s.1=s'.1∨s'.1≤L.length):=by
 obtain ⟨p,st⟩:=s
 cases st with
 | some q =>
   obtain ⟨a,rfl,h2⟩:=h.some'
   exact .inl (by simp only; omega)
 | none =>
   rcases h.none' with ⟨q,a,-,rfl,h2⟩ | ⟨k,h1,rfl⟩
   · exact .inr (.inl h2)
   · have:=pp_adv (L:=L) n g p
     rw [h1] at this
     obtain ⟨a1,a2,a3⟩:=this
     exact .inr (.inr (by simp only; omega))
end
end
section
section
variable {P:Program} {F:PF} {z:Bool} {L:List Tk}
@[simp high] theorem rowOf_v (m : N) : rowOf 6 m.v = some m.enc := by
  obtain ⟨k,f,t,w,a,z,ks⟩:=m
  rw [N.v_mk,N.enc_mk]
  simp [rowOf]
theorem nl (H:Hp) (k:Nat):¬ H.length+k < H.length:=by omega
end
end
section
section
variable {P:Program} {F:PF} {z:Bool} {L:List Tk}
end
end
section
section
variable {P:Program} {F:PF} {z:Bool} {L:List Tk}
end
end
section
def abx (tn:TypeId) (a:N):Ob := .box tn (a.enc.map .d)
theorem abx_clr (tn:TypeId) (a:N) (n:Nat):(abx tn a).clr n=abx tn a:=by
 obtain ⟨k,f,t,w,q,za,ks⟩:=a
 rw [abx,N.enc_mk]; rfl
section
variable {P:Program} {F:PF} {z:Bool} {L:List Tk}
end
end
section
section
variable {P:Program} {F:PF} {z:Bool} {L:List Tk}
end
end
section
section
variable {P:Program} {F:PF} {z:Bool} {L:List Tk}
end
end
section
section
variable {P:Program} {F:PF} {z:Bool} {L:List Tk}
end
end
section
section
variable {P:Program} {F:PF} {z:Bool} {L:List Tk}
end
end
section
mutual
def N.size:N→Nat
 | .mk _ _ _ _ _ _ ks=>1+N.sizes ks
def N.sizes:List N→Nat
 | []=>0
 | p :: r=>N.size p+N.sizes r
end
mutual
def N.depth:N→Nat
 | .mk _ _ _ _ _ _ ks=>1+N.depths ks
def N.depths:List N→Nat
 | []=>0
 | p :: r=>max (N.depth p) (N.depths r)
end
theorem N.size_mk (k f t:Int) (w:Bs) (a:Int) (z:Bool) (ks:List N):N.size (.mk k f t w a z ks)=1+N.sizes ks:=by rw [N.size]
theorem N.depth_mk (k f t:Int) (w:Bs) (a:Int) (z:Bool) (ks:List N):N.depth (.mk k f t w a z ks)=1+N.depths ks:=by rw [N.depth]
theorem N.size_new (k f t:Int) (w:Bs) (a:Int) (ks:List N):N.size (.new k f t w a ks)=1+N.sizes ks:=N.size_mk ..
theorem N.size_ks (m:N):N.size m=1+N.sizes m.ks:=by cases m; rw [N.size]; rfl
theorem N.size_bag (ks:List N):N.size (.bag ks)=1+N.sizes ks:=N.size_mk ..
theorem N.size_none:N.size .none=1:=by rw [N.none,N.size_new]; rfl
theorem N.sizes_nil:N.sizes []=0:=rfl
theorem N.sizes_cons (p:N) (r:List N):N.sizes (p :: r)=N.size p+N.sizes r:=by rw [N.sizes]
theorem N.sizes_app:∀ (l r:List N),N.sizes (l++r)=N.sizes l+N.sizes r
 | [],r=>by simp [N.sizes_nil]
 | p :: l,r=>by rw [List.cons_append,N.sizes_cons,N.sizes_cons,N.sizes_app l r]; omega
theorem N.sizes_mem {l:List N} {p:N} (h:p ∈ l):N.size p≤N.sizes l:=by
 induction l with
 | nil=>cases h
 | cons q l ih =>
   rw [N.sizes_cons]
   rcases List.mem_cons.1 h with rfl | h
   · omega
   · have:=ih h; omega
theorem N.size_pos (p:N):1≤N.size p:=by cases p; rw [N.size]; omega
theorem N.sizes_len (l:List N):l.length≤N.sizes l:=by
 induction l with
 | nil=>simp
 | cons q l ih=>rw [N.sizes_cons,List.length_cons]; have:=N.size_pos q; omega
theorem N.depths_cons (p:N) (r:List N):N.depths (p :: r)=max (N.depth p) (N.depths r):=by rw [N.depths]
theorem N.depths_le {b:Nat} (l:List N) (h:∀ p ∈ l,N.depth p≤b):N.depths l≤b:=by
 induction l with
 | nil=>simp [N.depths]
 | cons q l ih =>
   rw [N.depths_cons]
   have h1:=h q (by simp)
   have h2:=ih fun p hp=>h p (by simp [hp])
   omega
theorem N.depth_size:∀ n:N,N.depth n≤N.size n:=by
 refine N.ind fun k f t w a z ks ih => ?_
 rw [N.depth_mk,N.size_mk]
 have:N.depths ks≤N.sizes ks:=N.depths_le ks fun p hp=>Nat.le_trans (ih p hp) (N.sizes_mem hp)
 omega
theorem N.depths_take_succ {l:List N} {i:Nat} (h:i < l.length):N.depths (l.take (i+1))=max (N.depths (l.take i)) (N.depth l[i]):=by
 have app:∀ a b:List N,N.depths (a++b)=max (N.depths a) (N.depths b):=by
  intro a b
  induction a with
  | nil=>simp [N.depths]
  | cons q a ih=>rw [List.cons_append,N.depths_cons,N.depths_cons,ih]; omega
 rw [List.take_succ_eq_append_getElem h,app,N.depths_cons]
 simp [N.depths]
def G.k1:G→Nat
 | .typed | .file _ | .sumL _ | .termL _ | .postL _=>0
 | .listL .. | .stmts _=>4
 | _=>2
def G.sz:G→Nat
 | .typed=>1
 | .file ks | .listL _ _ ks | .stmts ks=>1+N.sizes ks
 | .sumL a | .termL a | .postL a=>N.size a
 | _=>0
def G.nice:G→Prop
 | .list o _ | .listL o _ _=>o.k1=2∧o.sz=0∧o.strict=true∧o.nice
 | _=>True
def Sz (i A B:Nat):PR→Prop
 | .ok m j=>m.size+A≤B+4 * (j - i)
 | _=>True
section
variable {L:List Tk} {i A B:Nat}
theorem Sz.want {k:Nat} {x:Bs} {h:Nat→PR} (hh:Sz i A B (h (k+1))):Sz i A B (wantR L k x h):=by
 unfold wantR
 split
 · exact hh
 · trivial
theorem Sz.word {k:Nat} {h:Bs→Nat→PR} (hh:Sz i A B (h (txT L k) (k+1))):Sz i A B (wordR L k h):=by
 unfold wordR
 split
 · exact hh
 · trivial
theorem Sz.ite {c:Prop} [Decidable c] {a b:PR} (ha:Sz i A B a) (hb:Sz i A B b):Sz i A B (if c then a else b):=by
 split
 · exact ha
 · exact hb
theorem Sz.last {n:Nat} (ih:∀ g i,g.nice→Sz i g.k1 g.sz (pp L n g i)) {g:G} {k:Nat} (hg:g.nice) (hh:∀ x j,k≤j→(g.strict=true→k < j)→x+g.k1≤g.sz+4 * (j - k)→x+A≤B+4 * (j - i)):Sz i A B (pp L n g k):=by
 have h1:=ih g k hg
 have h2:=pp_adv (L:=L) n g k
 generalize pp L n g k=r at h1 h2
 cases r with
 | out=>trivial
 | bad j=>trivial
 | ok m j=>exact hh _ j h2.1 h2.2.1 h1
theorem Sz.thenG {n:Nat} (ih:∀ g i,g.nice→Sz i g.k1 g.sz (pp L n g i)) {g:G} {k:Nat} {h:N→Nat→PR} (hg:g.nice) (hh:∀ m j,k≤j→(g.strict=true→k < j)→m.size+g.k1≤g.sz+4 * (j - k)→Sz i A B (h m j)):Sz i A B ((pp L n g k).then h):=by
 have h1:=ih g k hg
 have h2:=pp_adv (L:=L) n g k
 generalize pp L n g k=r at h1 h2
 cases r with
 | out=>trivial
 | bad j=>trivial
 | ok m j=>exact hh m j h2.1 h2.2.1 h1
theorem Sz.ok {m:N} {j:Nat} (h:m.size+A≤B+4 * (j - i)):Sz i A B (.ok m j):=h
theorem pp_size:∀ (n:Nat) (g:G) (i:Nat),g.nice→Sz i g.k1 g.sz (pp L n g i)
 | 0,g,i,_=>trivial
 | n + 1, g, i, hg => by
   have ih:=pp_size n
   cases g
   case listL one e ks =>
    obtain ⟨g1,g2,g3,g4⟩:=hg
    simp only [pp,G.k1,G.sz]
    refine Sz.thenG ih g4 fun m j h1 h2 h3 => ?_
    have h2:=h2 g3
    rw [g1,g2] at h3
    refine Sz.ite ?_ (Sz.want ?_)
    · refine Sz.ok ?_
      simp only [N.size_bag,N.sizes_nil,N.sizes_cons,N.sizes_app]; omega
    · refine Sz.last ih ⟨g1,g2,g3,g4⟩ fun x j h1 h2 h3 => ?_
      simp only [G.strict,G.k1,G.sz,true_implies,N.sizes_nil,N.sizes_cons,N.sizes_app] at h2 h3
      omega
   case list one e =>
    simp only [pp,G.k1,G.sz]
    refine Sz.ite ?_ ?_
    · refine Sz.ok ?_
      simp only [N.size_bag,N.sizes_nil]; omega
    · refine Sz.last ih hg fun x j h1 h2 h3 => ?_
      simp only [G.strict,G.k1,G.sz,true_implies,N.sizes_nil] at h2 h3
      omega
   all_goals simp only [pp,G.k1,G.sz]
   all_goals
    repeat' first
     | exact Sz.bad
     | (refine Sz.want ?_)
     | (refine Sz.word ?_)
     | (refine Sz.ite ?_ ?_)
     | (refine Sz.thenG ih (by simp [G.nice,G.k1,G.sz,G.strict]) fun m j h1 h2 h3 => ?_; have h4:=N.size_ks m; simp only [G.strict,G.k1,G.sz,Bool.false_eq_true,false_implies,true_implies,N.sizes_nil,N.sizes_cons,N.sizes_app] at h2 h3)
     | (refine Sz.ok ?_; (try simp only [N.size_new,N.size_bag,N.size_none,N.sizes_nil,N.sizes_cons,N.sizes_app]); omega)
     | (refine Sz.last ih (by simp [G.nice]) fun x j h1 h2 h3 => ?_; simp only [G.strict,G.k1,G.sz,Bool.false_eq_true,false_implies,true_implies,N.size_new,N.size_bag,N.size_none,N.sizes_nil,N.sizes_cons,N.sizes_app] at h2 h3; omega)
end
end
section
section
variable {P:Program}
end
def parseF (L:List Tk):PR:=pp L (16 * L.length+8) (.file []) 0
def parseP (L:List Tk):N × Int × Int :=
 if L=[]∨kdT L (L.length - 1) ≠ 0∨4000 < L.length then (N.none,1,0) else
 match parseF L with
 | .ok n _=>if 60 < n.depth then (N.none,25,0) else (n,0,0)
 | .bad q=>(N.none,24,(q:Int))
 | .out=>(N.none,24,0)
section
variable {P:Program} {F:PF} {z:Bool} {L:List Tk}
end
end
section
open Go.RowKit (Below)
end
inductive Utf:Bs→Prop
 | nil:Utf []
 | step {s:Bs} (h:s ≠ []) (hd:decU s ≠ (65533,1)) (hr:Utf (s.drop (decU s).2)):Utf s
theorem badF_ge:∀ (f:Nat) (s:Bs) (n:Nat),badF f s n = -1∨0≤badF f s n
 | 0,_,_ => .inl rfl
 | f + 1, s, n => by
   rw [badF]
   split
   · exact .inl rfl
   · split
     · exact .inr (by omega)
     · exact badF_ge f _ _
theorem badF_utf:∀ (f:Nat) (s:Bs) (n:Nat),s.length≤f→(badF f s n = -1 ↔ Utf s)
 | 0, s, n, h => by
   have:s=[]:=List.eq_nil_of_length_eq_zero (by omega)
   subst this
   exact ⟨fun _ => .nil,fun _=>rfl⟩
 | f + 1, s, n, h => by
   rw [badF]
   by_cases hs:s=[]
   · rw [if_pos hs]; subst hs; exact ⟨fun _ => .nil,fun _=>rfl⟩
   rw [if_neg hs]
   by_cases hd:decU s=(65533,1)
   · rw [if_pos hd]
     constructor
     · intro e; omega
     · intro hu
       cases hu with
       | nil=>exact absurd rfl hs
       | step _ h2 _=>exact absurd hd h2
   · rw [if_neg hd]
     have hl:=decU_len hs
     rw [badF_utf f _ _ (by simp; omega)]
     constructor
     · exact fun h => .step hs hd h
     · intro hu
       cases hu with
       | nil=>exact absurd rfl hs
       | step _ _ h3=>exact h3
theorem badS_utf (s:Bs):¬ 0≤badS s ↔ Utf s:=by
 rw [← badF_utf s.length s 0 (Nat.le_refl _)]
 have:=badF_ge s.length s 0
 unfold badS
 omega
theorem decU_ne {s:Bs} (h:s ≠ []):decU s=Lib.decodeN s.length (s.getD 0 0).toNat (s.getD 1 0).toNat (s.getD 2 0).toNat (s.getD 3 0).toNat:=by unfold decU; rw [if_neg h]
inductive Toks:Bs→Nat→List Tk→Prop
 | fin {s:Bs} {n:Nat} (h:(tokN (s.drop (leadS false s))).1=0) (h0:s.drop (leadS false s)=[]):Toks s n [⟨0,n+leadS false s,s.take (leadS false s),[]⟩]
 | tok {s:Bs} {n:Nat} {l:List Tk} (h:(tokN (s.drop (leadS false s))).1=0) (h0:s.drop (leadS false s) ≠ []) (hr:Toks ((s.drop (leadS false s)).drop (tokN (s.drop (leadS false s))).2.2) (n+leadS false s+(tokN (s.drop (leadS false s))).2.2) l) :
  Toks s n (⟨(tokN (s.drop (leadS false s))).2.1,n+leadS false s,s.take (leadS false s),(s.drop (leadS false s)).take (tokN (s.drop (leadS false s))).2.2⟩ :: l)
theorem lexF_toks:∀ (f:Nat) (s:Bs) (n c:Nat),s.length < f→((lexF f s n c).2.1=0 ↔ ∃ l,Toks s n l∧c+l.length≤4000)∧((lexF f s n c).2.1=0→Toks s n (lexF f s n c).1∧c+(lexF f s n c).1.length≤4000)
 | 0,s,n,c,h=>by omega
 | f + 1, s, n, c, h => by
   have htl:=tokN_len (s.drop (leadS false s))
   obtain ⟨t1,t2,t3,t4⟩:=htl
   rw [lexF]
   by_cases he:(tokN (s.drop (leadS false s))).1=0
   case neg =>
    rw [if_pos he]
    refine ⟨⟨fun e=>absurd e he,?_⟩,fun e=>absurd e he⟩
    rintro ⟨l,hl,-⟩
    cases hl with
    | fin h1 h2=>exact absurd h1 he
    | tok h1 h2 h3=>exact absurd h1 he
   rw [if_neg (by simp [he])]
   by_cases hc:4000≤c
   case pos =>
    rw [if_pos hc]
    refine ⟨⟨fun e=>absurd e (by simp),?_⟩,fun e=>absurd e (by simp)⟩
    rintro ⟨l,hl,hlc⟩
    cases hl with
    | fin h1 h2=>simp at hlc; omega
    | tok h1 h2 h3=>simp at hlc; omega
   rw [if_neg hc]
   by_cases hk:(tokN (s.drop (leadS false s))).2.1=0
   · rw [if_pos hk]
     have hnil:=t2 he hk
     have hT:Toks s n [⟨(tokN (s.drop (leadS false s))).2.1,n+leadS false s,s.take (leadS false s),(s.drop (leadS false s)).take (tokN (s.drop (leadS false s))).2.2⟩]:=by
      have:=Toks.fin (n:=n) he hnil
      rw [hk,hnil]
      simpa using this
     exact ⟨⟨fun _=>⟨_,hT,by simp; omega⟩,fun _=>rfl⟩,fun _=>⟨hT,by simp; omega⟩⟩
   · rw [if_neg hk]
     have hne:s.drop (leadS false s) ≠ []:=fun e=>hk (t4 e)
     have hm:=t3 he hne
     have hlen:((s.drop (leadS false s)).drop (tokN (s.drop (leadS false s))).2.2).length < f:=by
      simp only [List.length_drop] at t1 ⊢
      have:leadS false s < s.length:=by
       rcases Nat.lt_or_ge (leadS false s) s.length with h' | h'
       · exact h'
       · exact absurd (List.drop_eq_nil_of_le h') hne
      omega
     obtain ⟨i1,i2⟩:=lexF_toks f _ (n+leadS false s+(tokN (s.drop (leadS false s))).2.2) (c+1) hlen
     generalize lexF f ((s.drop (leadS false s)).drop (tokN (s.drop (leadS false s))).2.2) (n+leadS false s+(tokN (s.drop (leadS false s))).2.2) (c+1)=R at i1 i2
     by_cases hR:R.2.1=0
     · rw [if_pos hR]
       obtain ⟨j1,j2⟩:=i2 hR
       have hT:=Toks.tok (n:=n) he hne j1
       exact ⟨⟨fun _=>⟨_,hT,by simp; omega⟩,fun _=>rfl⟩,fun _=>⟨hT,by simp; omega⟩⟩
     · rw [if_neg hR]
       refine ⟨⟨fun e=>absurd e hR,?_⟩,fun e=>absurd e hR⟩
       rintro ⟨l,hl,hlc⟩
       exfalso
       cases hl with
       | fin h1 h2=>exact hne h2
       | tok h1 h2 h3=>exact hR (i1.2 ⟨_,h3,by simp at hlc; omega⟩)
theorem lexS_ok (s:Bs):((lexS s).2.1=0 ↔ s.length≤16384∧Utf s∧∃ l,Toks s 0 l∧l.length≤4000)∧((lexS s).2.1=0→Toks s 0 (lexS s).1∧(lexS s).1.length≤4000):=by
 have hu:=badS_utf s
 unfold lexS
 by_cases h1:16384 < s.length
 · rw [if_pos h1]
   exact ⟨⟨fun e=>absurd e (by simp),fun e=>by omega⟩,fun e=>absurd e (by simp)⟩
 rw [if_neg h1]
 by_cases h2:0≤badS s
 · rw [if_pos h2]
   exact ⟨⟨fun e=>absurd e (by simp),fun e=>absurd e.2.1 fun q=>hu.2 q h2⟩,fun e=>absurd e (by simp)⟩
 rw [if_neg h2]
 obtain ⟨i1,i2⟩:=lexF_toks (s.length+1) s 0 0 (by omega)
 refine ⟨?_,fun e=>by simpa using i2 e⟩
 rw [i1]
 simp only [Nat.zero_add]
 exact ⟨fun ⟨l,a,b⟩=>⟨by omega,hu.1 h2,l,a,b⟩,fun ⟨_,_,q⟩=>q⟩
section
def EndsL (L:List Tk):Prop:=∀ i,i+1=L.length→kdT L i=0
theorem kdT_ltE {L:List Tk} {i:Nat} (hE:EndsL L) (h:kdT L i ≠ 0):i+1 < L.length:=by
 have:=kdT_lt h
 rcases Nat.lt_or_ge (i+1) L.length with h' | h'
 · exact h'
 · exact absurd (hE i (by omega)) h
theorem isT_kd {L:List Tk} {i:Nat} {x:Bs} (h:isT L i x=true):kdT L i ≠ 0:=by
 unfold isT at h
 unfold kdT
 cases hg:L[i]? with
 | none=>rw [hg] at h; cases h
 | some t =>
   rw [hg] at h
   simp at h ⊢
   rcases h.1 with h | h<;>omega
theorem isT_ltE {L:List Tk} {i:Nat} {x:Bs} (hE:EndsL L) (h:isT L i x=true):i+1 < L.length:=kdT_ltE hE (isT_kd h)
def Bd (L:List Tk):PR→Prop
 | .ok _ j | .bad j=>j < L.length
 | .out=>True
section
variable {L:List Tk}
theorem Bd.want (hE:EndsL L) {k:Nat} {x:Bs} {h:Nat→PR} (hk:k < L.length) (hh:k+1 < L.length→Bd L (h (k+1))):Bd L (wantR L k x h):=by
 unfold wantR
 split
 · rename_i e; exact hh (isT_ltE hE e)
 · exact hk
theorem Bd.word (hE:EndsL L) {k:Nat} {h:Bs→Nat→PR} (hk:k < L.length) (hh:k+1 < L.length→Bd L (h (txT L k) (k+1))):Bd L (wordR L k h):=by
 unfold wordR
 split
 · rename_i e; exact hh (kdT_ltE hE (by omega))
 · exact hk
theorem Bd.ifT (hE:EndsL L) {k:Nat} {x:Bs} {a b:PR} (ha:k+1 < L.length→Bd L a) (hb:Bd L b):Bd L (if isT L k x then a else b):=by
 split
 · rename_i e; exact ha (isT_ltE hE e)
 · exact hb
theorem Bd.ifK (hE:EndsL L) {k:Nat} {x:Int} {a b:PR} (hx:x ≠ 0) (ha:k+1 < L.length→Bd L a) (hb:Bd L b):Bd L (if kdT L k=x then a else b):=by
 split
 · rename_i e; exact ha (kdT_ltE hE (by omega))
 · exact hb
theorem Bd.if0 {k:Nat} {a b:PR} (ha:Bd L a) (hb:Bd L b):Bd L (if kdT L k=0 then a else b):=by
 split
 · exact ha
 · exact hb
theorem Bd.ifS (hE:EndsL L) {k:Nat} {x:Bs} {a b:PR} (ha:k+2 < L.length→Bd L a) (hb:Bd L b):Bd L (if kdT L k=1∧isT L (k+1) x=true then a else b):=by
 split
 · rename_i e; exact ha (by have:=isT_ltE hE e.2; omega)
 · exact hb
theorem Bd.thenG {r:PR} {h:N→Nat→PR} (hr:Bd L r) (hh:∀ m j,j < L.length→Bd L (h m j)):Bd L (r.then h):=by
 cases r with
 | out=>trivial
 | bad j=>exact hr
 | ok m j=>exact hh m j hr
theorem pp_bd (hE:EndsL L):∀ (n:Nat) (g:G) (i:Nat),i < L.length→Bd L (pp L n g i)
 | 0,g,i,_=>trivial
 | n + 1, g, i, hi => by
   have ih:=pp_bd hE n
   cases g
   all_goals simp only [pp]
   all_goals
    repeat' first
     | (refine Bd.want hE (by omega) fun _ => ?_)
     | (refine Bd.word hE (by omega) fun _ => ?_)
     | (refine Bd.ifT hE (fun _ => ?_) ?_)
     | (refine Bd.ifK hE (by decide) (fun _ => ?_) ?_)
     | (refine Bd.ifS hE (fun _ => ?_) ?_)
     | (refine Bd.if0 ?_ ?_)
     | (refine Bd.thenG (ih _ _ (by omega)) fun m j h1 => ?_)
     | (exact (by omega:_ < L.length))
     | (exact ih _ _ (by omega))
theorem parseF_bad (hE:EndsL L) (h0:0 < L.length) {q:Nat} (h:parseF L = .bad q):q < L.length:=by
 have:=pp_bd hE (16 * L.length+8) (.file []) 0 h0
 rw [show pp L (16 * L.length+8) (.file []) 0 = .bad q from h] at this
 exact this
end
theorem tokN_key (s:Bs):(tokN s).1=0→(tokN s).2.1=2→s.take (tokN s).2.2 ∈ keysL:=by
 cases s with
 | nil=>intro _ h; cases h
 | cons b r =>
   rw [tokN]
   (repeat' split)<;>simp_all
theorem Toks.like {s:Bs} {n:Nat} {l:List Tk} (h:Toks s n l):l ≠ []∧EndsL l∧(∀ i,i+1 < l.length→kdT l i ≠ 0)∧∀ t ∈ l,t.k=2→t.x ∈ keysL:=by
 induction h with
 | fin h h0 =>
   refine ⟨by simp,fun i hi => ?_,fun i hi=>by simp at hi,?_⟩
   · have:i=0:=by simp at hi; omega
     subst this; rfl
   · intro t ht hk
     simp at ht; subst ht
     simp at hk
 | @tok s n l h h0 hr ih =>
   obtain ⟨i1,i2,i3,i4⟩:=ih
   have htl:=tokN_len (s.drop (leadS false s))
   obtain ⟨t1,t2,t3,t4⟩:=htl
   have hl:0 < l.length:=List.length_pos_iff.2 i1
   refine ⟨by simp,fun i hi => ?_,fun i hi => ?_,?_⟩
   · cases i with
     | zero=>exact absurd hi (by simp only [List.length_cons]; omega)
     | succ i=>exact i2 i (by simpa using hi)
   · cases i with
     | zero =>
       show (tokN (s.drop (leadS false s))).2.1 ≠ 0
       exact fun e=>h0 (t2 h e)
     | succ i=>exact i3 i (by simpa using hi)
   · intro t ht hk
     rcases List.mem_cons.1 ht with rfl | ht
     · exact tokN_key _ h hk
     · exact i4 t ht hk
theorem noEq_of {l:List Tk} (h:∀ t ∈ l,t.k=2→t.x ∈ keysL) (i:Nat) (hi:isT l i [61]=true):kdT l i=5:=by
 unfold isT at hi
 unfold kdT
 cases hg:l[i]? with
 | none=>rw [hg] at hi; cases hi
 | some t =>
   rw [hg] at hi
   simp at hi ⊢
   rcases hi.1 with e | e
   · have:=h t (List.mem_of_getElem? hg) e
     rw [hi.2] at this
     exact absurd this (by decide)
   · exact e
theorem lexS_like {s:Bs} (h:(lexS s).2.1=0):(lexS s).1 ≠ []∧EndsL (lexS s).1∧(∀ i,i+1 < (lexS s).1.length→kdT (lexS s).1 i ≠ 0)∧(∀ i,isT (lexS s).1 i [61]=true→kdT (lexS s).1 i=5)∧(lexS s).1.length≤4000:=by
 obtain ⟨h1,h2⟩:=(lexS_ok s).2 h
 obtain ⟨a1,a2,a3,a4⟩:=h1.like
 exact ⟨a1,a2,a3,noEq_of a4,h2⟩
def parseO (s:Bs):List Tk × N × Int × Int :=
 if (lexS s).2.1 ≠ 0 then ([],N.none,(lexS s).2.1,(lexS s).2.2)
 else if (parseP (lexS s).1).2.1 ≠ 0 then ([],N.none,(parseP (lexS s).1).2.1,match (lexS s).1[(parseP (lexS s).1).2.2.toNat]? with | some t=>(t.a:Int) | none=>0)
 else ((lexS s).1,(parseP (lexS s).1).1,0,0)
theorem parseP_at {L:List Tk} (hE:EndsL L) (h0:L ≠ []):0≤(parseP L).2.2∧(parseP L).2.2.toNat < L.length:=by
 have hl:=List.length_pos_iff.2 h0
 unfold parseP
 split
 · exact ⟨by simp,by simpa using hl⟩
 · split
   · split<;>exact ⟨by simp,by simpa using hl⟩
   · rename_i q hq
     have:=parseF_bad hE hl hq
     exact ⟨by simp,by simpa using this⟩
   · exact ⟨by simp,by simpa using hl⟩
section
variable {P:Program}
end
end
def irR7Of (c1 c2 t1 : Nat) : IFn := { nt := 40, res := [.t 2,.cell 3 6 true,.t 4,.t 5], body := ( .seq (.ops [⟨some 2,none,.mv (.c (.sl true 4 []))⟩,⟨some 3,none,.alloc t1 [(.int .i64 0),(.int .i64 0),(.int .i64 0),(.str []),(.int .i64 0),(.sl true 6 [])]⟩,⟨some 4,none,.mv (.c (.int .i64 0))⟩,⟨some 5,none,.mv (.c (.int .i64 0))⟩] false) (.seq (.ops [⟨some 13,none,.mv (.t 0)⟩,⟨some 14,none,.call c1 [(.t 13)]⟩,⟨some 12,none,.mv (.t 14)⟩,⟨some 15,none,.ext (.t 12) 0⟩,⟨some 16,none,.ext (.t 12) 1⟩,⟨some 17,none,.ext (.t 12) 2⟩,⟨some 6,none,.mv (.t 15)⟩,⟨some 7,none,.mv (.t 16)⟩,⟨some 8,none,.mv (.t 17)⟩] false) (.seq (.seq (.ops [⟨some 18,none,.mv (.t 7)⟩,⟨some 19,none,.bin .neq (.t 18) (.c (.int .i64 0))⟩] false) (.cond (.t 19) (.seq (.ops [⟨some 20,none,.build [(.int .i64 0),(.int .i64 0),(.int .i64 0),(.str []),(.int .i64 0),(.sl true 6 [])] []⟩,⟨some 21,none,.mv (.t 7)⟩,⟨some 22,none,.mv (.t 8)⟩,⟨some 2,none,.mv (.c (.sl true 4 []))⟩,⟨none,none,.store 6 (.t 3) (.t 20)⟩,⟨some 4,none,.mv (.t 21)⟩,⟨some 5,none,.mv (.t 22)⟩] false) (.ret)) (.skip))) (.seq (.ops [⟨some 24,none,.mv (.t 6)⟩,⟨some 25,none,.call c2 [(.t 24)]⟩,⟨some 23,none,.mv (.t 25)⟩,⟨some 26,none,.ext (.t 23) 0⟩,⟨some 27,none,.ext (.t 23) 1⟩,⟨some 28,none,.ext (.t 23) 2⟩,⟨some 9,none,.alloc t1 [(.int .i64 0),(.int .i64 0),(.int .i64 0),(.str []),(.int .i64 0),(.sl true 6 [])]⟩,⟨none,none,.store 6 (.t 9) (.t 26)⟩,⟨some 10,none,.mv (.t 27)⟩,⟨some 11,none,.mv (.t 28)⟩] false) (.seq (.seq (.ops [⟨some 29,none,.mv (.t 10)⟩,⟨some 30,none,.bin .neq (.t 29) (.c (.int .i64 0))⟩] false) (.cond (.t 30) (.seq (.seq (.ops [⟨some 31,none,.build [(.int .i64 0),(.int .i64 0),(.int .i64 0),(.str []),(.int .i64 0),(.sl true 6 [])] []⟩] false) (.seq (.ops [⟨some 32,none,.mv (.t 10)⟩] false) (.seq (.ops [⟨some 33,none,.mv (.t 6)⟩] false) (.seq (.ops [⟨some 34,none,.mv (.t 11)⟩] false) (.seq (.ops [⟨some 2,none,.mv (.c (.sl true 4 []))⟩] false) (.both (.seq (.ops [⟨some 35,none,.iaddr 4 (.t 33) (.t 34)⟩] false) (.seq (.ops [⟨some 36,none,.faddr 1 (.t 35)⟩] false) (.both (.seq (.ops [⟨some 37,none,.load 1 false (.t 36)⟩] false) (.seq (.ops [⟨none,none,.store 6 (.t 3) (.t 31)⟩] false) (.seq (.ops [⟨some 4,none,.mv (.t 32)⟩] false) (.seq (.ops [⟨some 5,none,.mv (.t 37)⟩] false) (.skip))))) (.seq (.ops [⟨none,none,.store 6 (.t 3) (.t 31)⟩] false) (.seq (.ops [⟨some 4,none,.mv (.t 32)⟩] false) (.seq (.ops [⟨some 37,none,.load 1 false (.t 36)⟩] false) (.seq (.ops [⟨some 5,none,.mv (.t 37)⟩] false) (.skip)))))))) (.seq (.ops [⟨none,none,.store 6 (.t 3) (.t 31)⟩] false) (.seq (.ops [⟨some 4,none,.mv (.t 32)⟩] false) (.seq (.ops [⟨some 35,none,.iaddr 4 (.t 33) (.t 34)⟩] false) (.seq (.ops [⟨some 36,none,.faddr 1 (.t 35)⟩] false) (.seq (.ops [⟨some 37,none,.load 1 false (.t 36)⟩] false) (.seq (.ops [⟨some 5,none,.mv (.t 37)⟩] false) (.skip))))))))))))) (.ret)) (.skip))) (.seq (.ops [⟨some 38,none,.mv (.t 6)⟩,⟨some 39,none,.load 6 true (.t 9)⟩,⟨some 2,none,.mv (.t 38)⟩,⟨none,none,.store 6 (.t 3) (.t 39)⟩,⟨some 4,none,.mv (.c (.int .i64 0))⟩,⟨some 5,none,.mv (.c (.int .i64 0))⟩] true) (.ret))))))) }
def irR7Parse (c1 c2 t1 t2 : Nat) : IFn := { nt := 46, res := [.cell 2 6 true,.t 3,.t 4], body := ( .seq (.ops [⟨some 2,none,.alloc t1 [(.int .i64 0),(.int .i64 0),(.int .i64 0),(.str []),(.int .i64 0),(.sl true 6 [])]⟩,⟨some 3,none,.mv (.c (.int .i64 0))⟩,⟨some 4,none,.mv (.c (.int .i64 0))⟩] false) (.seq (.seq (.ops [⟨some 7,none,.mv (.t 0)⟩,⟨some 8,none,.lenL (.t 7)⟩,⟨some 9,none,.bin .eql (.t 8) (.c (.int .i64 0))⟩,⟨some 10,none,.mv (.t 9)⟩,⟨some 11,some (10,false),.mv (.t 0)⟩,⟨some 12,some (10,false),.mv (.t 0)⟩,⟨some 13,some (10,false),.lenL (.t 12)⟩,⟨some 14,some (10,false),.bin .sub (.t 13) (.c (.int .i64 1))⟩,⟨some 15,some (10,false),.iaddr 4 (.t 11) (.t 14)⟩,⟨some 16,some (10,false),.faddr 0 (.t 15)⟩,⟨some 17,some (10,false),.load 1 false (.t 16)⟩,⟨some 18,some (10,false),.bin .neq (.t 17) (.c (.int .i64 0))⟩,⟨some 19,none,.pick (.t 10) (.c (.bool true)) (.t 18)⟩,⟨some 20,none,.mv (.t 19)⟩,⟨some 21,some (20,false),.mv (.t 0)⟩,⟨some 22,some (20,false),.lenL (.t 21)⟩,⟨some 23,some (20,false),.bin .gtr (.t 22) (.c (.int .i64 4000))⟩,⟨some 24,none,.pick (.t 20) (.c (.bool true)) (.t 23)⟩] false) (.cond (.t 24) (.seq (.ops [⟨some 25,none,.build [(.int .i64 0),(.int .i64 0),(.int .i64 0),(.str []),(.int .i64 0),(.sl true 6 [])] []⟩,⟨none,none,.store 6 (.t 2) (.t 25)⟩,⟨some 3,none,.mv (.c (.int .i64 1))⟩,⟨some 4,none,.mv (.c (.int .i64 0))⟩] false) (.ret)) (.skip))) (.seq (.ops [⟨some 26,none,.mv (.t 0)⟩,⟨some 27,none,.build [(.sl true 4 []),(.int .i64 0)] [(0,1,(.t 26)),(1,1,(.c (.int .i64 (-1))))]⟩,⟨some 28,none,.box t2 2 (.t 27)⟩,⟨some 5,none,.mv (.t 28)⟩] false) (.seq (.ops [⟨some 29,none,.mv (.t 5)⟩,⟨some 30,none,.call c1 [(.t 29)]⟩,⟨some 6,none,.alloc t1 [(.int .i64 0),(.int .i64 0),(.int .i64 0),(.str []),(.int .i64 0),(.sl true 6 [])]⟩,⟨none,none,.store 6 (.t 6) (.t 30)⟩] false) (.seq (.seq (.ops [⟨some 31,none,.mv (.t 5)⟩,⟨some 32,none,.nilCheck (.t 31)⟩,⟨some 33,none,.faddr 1 (.t 32)⟩,⟨some 34,none,.load 1 false (.t 33)⟩,⟨some 35,none,.bin .geq (.t 34) (.c (.int .i64 0))⟩] false) (.cond (.t 35) (.seq (.seq (.ops [⟨some 36,none,.build [(.int .i64 0),(.int .i64 0),(.int .i64 0),(.str []),(.int .i64 0),(.sl true 6 [])] []⟩] false) (.seq (.ops [⟨some 37,none,.mv (.t 5)⟩] false) (.seq (.ops [⟨some 38,none,.nilCheck (.t 37)⟩] false) (.seq (.ops [⟨some 39,none,.faddr 1 (.t 38)⟩] false) (.both (.seq (.ops [⟨some 40,none,.load 1 false (.t 39)⟩] false) (.seq (.ops [⟨none,none,.store 6 (.t 2) (.t 36)⟩] false) (.seq (.ops [⟨some 3,none,.mv (.c (.int .i64 24))⟩] false) (.seq (.ops [⟨some 4,none,.mv (.t 40)⟩] false) (.skip))))) (.seq (.ops [⟨none,none,.store 6 (.t 2) (.t 36)⟩] false) (.seq (.ops [⟨some 3,none,.mv (.c (.int .i64 24))⟩] false) (.seq (.ops [⟨some 40,none,.load 1 false (.t 39)⟩] false) (.seq (.ops [⟨some 4,none,.mv (.t 40)⟩] false) (.skip)))))))))) (.ret)) (.skip))) (.seq (.seq (.ops [⟨some 41,none,.load 6 true (.t 6)⟩,⟨some 42,none,.call c2 [(.t 41)]⟩,⟨some 43,none,.bin .gtr (.t 42) (.c (.int .i64 60))⟩] false) (.cond (.t 43) (.seq (.ops [⟨some 44,none,.build [(.int .i64 0),(.int .i64 0),(.int .i64 0),(.str []),(.int .i64 0),(.sl true 6 [])] []⟩,⟨none,none,.store 6 (.t 2) (.t 44)⟩,⟨some 3,none,.mv (.c (.int .i64 25))⟩,⟨some 4,none,.mv (.c (.int .i64 0))⟩] false) (.ret)) (.skip))) (.seq (.ops [⟨some 45,none,.load 6 true (.t 6)⟩,⟨none,none,.store 6 (.t 2) (.t 45)⟩,⟨some 3,none,.mv (.c (.int .i64 0))⟩,⟨some 4,none,.mv (.c (.int .i64 0))⟩] false) (.ret)))))))) }
def irR7Kind (c1 c2 c3 c4 c5 t1 : Nat) : IFn := { nt := 180, res := [.cell 4 6 true,.t 5], body := ( .seq (.ops [⟨some 4,none,.alloc t1 [(.int .i64 0),(.int .i64 0),(.int .i64 0),(.str []),(.int .i64 0),(.sl true 6 [])]⟩,⟨some 5,none,.mv (.c (.int .i64 0))⟩] false) (.seq (.ops [⟨some 16,none,.mv (.t 1)⟩,⟨some 6,none,.mv (.t 16)⟩] false) (.seq (.seq (.ops [⟨some 17,none,.mv (.t 0)⟩,⟨some 18,none,.nilCheck (.t 17)⟩,⟨some 19,none,.faddr 1 (.t 18)⟩,⟨some 20,none,.load 1 false (.t 19)⟩,⟨some 21,none,.bin .geq (.t 20) (.c (.int .i64 0))⟩] false) (.cond (.t 21) (.seq (.ops [⟨some 22,none,.build [(.int .i64 0),(.int .i64 0),(.int .i64 0),(.str []),(.int .i64 0),(.sl true 6 [])] []⟩,⟨some 23,none,.mv (.t 6)⟩,⟨none,none,.store 6 (.t 4) (.t 22)⟩,⟨some 5,none,.mv (.t 23)⟩] false) (.ret)) (.skip))) (.seq (.ops [⟨some 24,none,.bslice 1 [(.c (.str [105,110,116])),(.c (.str [115,116,114])),(.c (.str [100,121,110]))]⟩,⟨some 7,none,.mv (.t 24)⟩] false) (.seq (.seq (.ops [⟨some 8,none,.mv (.c (.int .i64 0))⟩] false) (.blk 0 (.loop (.seq (.seq (.ops [⟨some 25,none,.mv (.t 8)⟩,⟨some 26,none,.bin .lss (.t 25) (.c (.int .i64 3))⟩] false) (.cond (.t 26) (.skip) (.exit 0))) (.seq (.blk 1 (.seq (.ops [⟨some 29,none,.mv (.t 0)⟩,⟨some 30,none,.mv (.t 6)⟩,⟨some 31,none,.mv (.t 7)⟩,⟨some 32,none,.mv (.t 8)⟩,⟨some 33,none,.iaddr 1 (.t 31) (.t 32)⟩,⟨some 34,none,.load 1 false (.t 33)⟩,⟨some 35,none,.call c1 [(.t 29),(.t 30),(.t 34)]⟩] false) (.cond (.t 35) (.seq (.ops [⟨some 36,none,.mv (.t 8)⟩,⟨some 37,none,.bin .add (.c (.int .i64 29)) (.t 36)⟩,⟨some 38,none,.mv (.t 1)⟩,⟨some 39,none,.mv (.t 6)⟩,⟨some 40,none,.bin .add (.t 39) (.c (.int .i64 1))⟩,⟨some 41,none,.build [(.int .i64 0),(.int .i64 0),(.int .i64 0),(.str []),(.int .i64 0),(.sl true 6 [])] [(0,1,(.t 37)),(1,1,(.t 38)),(2,1,(.t 40))]⟩,⟨some 42,none,.mv (.t 6)⟩,⟨some 43,none,.bin .add (.t 42) (.c (.int .i64 1))⟩,⟨none,none,.store 6 (.t 4) (.t 41)⟩,⟨some 5,none,.mv (.t 43)⟩] false) (.ret)) (.skip)))) (.ops [⟨some 27,none,.mv (.t 8)⟩,⟨some 28,none,.bin .add (.t 27) (.c (.int .i64 1))⟩,⟨some 8,none,.mv (.t 28)⟩] false)))))) (.seq (.ops [⟨some 9,none,.nilT 6 t1⟩] false) (.seq (.seq (.ops [⟨some 44,none,.mv (.t 0)⟩,⟨some 45,none,.mv (.t 6)⟩,⟨some 46,none,.call c1 [(.t 44),(.t 45),(.c (.str [123]))]⟩] false) (.cond (.t 46) (.seq (.ops [⟨some 47,none,.mv (.t 6)⟩,⟨some 48,none,.bin .add (.t 47) (.c (.int .i64 1))⟩,⟨some 6,none,.mv (.t 48)⟩] false) (.seq (.blk 2 (.loop (.seq (.seq (.ops [⟨some 49,none,.mv (.t 0)⟩,⟨some 50,none,.nilCheck (.t 49)⟩,⟨some 51,none,.faddr 1 (.t 50)⟩,⟨some 52,none,.load 1 false (.t 51)⟩,⟨some 53,none,.bin .lss (.t 52) (.c (.int .i64 0))⟩,⟨some 54,none,.mv (.t 53)⟩,⟨some 55,some (54,true),.mv (.t 9)⟩,⟨some 56,some (54,true),.lenL (.t 55)⟩,⟨some 57,some (54,true),.bin .eql (.t 56) (.c (.int .i64 0))⟩,⟨some 58,some (54,true),.mv (.t 57)⟩,⟨some 59,some (58,true),.mv (.t 0)⟩,⟨some 60,some (58,true),.mv (.t 6)⟩,⟨some 61,some (58,true),.call c1 [(.t 59),(.t 60),(.c (.str [125]))]⟩,⟨some 62,some (54,true),.pick (.t 58) (.t 61) (.c (.bool false))⟩,⟨some 63,some (54,true),.un .not (.t 62)⟩,⟨some 64,none,.pick (.t 54) (.t 63) (.c (.bool false))⟩] false) (.cond (.t 64) (.skip) (.exit 2))) (.blk 3 (.seq (.ops [⟨some 66,none,.mv (.t 0)⟩,⟨some 67,none,.mv (.t 6)⟩,⟨some 68,none,.build [(.int .i64 0),(.int .i64 0),(.int .i64 0),(.str []),(.int .i64 0),(.sl true 6 [])] [(0,1,(.c (.int .i64 33))),(1,1,(.t 67))]⟩,⟨some 69,none,.mv (.t 6)⟩,⟨some 70,none,.call c2 [(.t 66),(.t 68),(.t 69)]⟩,⟨some 65,none,.mv (.t 70)⟩,⟨some 71,none,.ext (.t 65) 0⟩,⟨some 72,none,.ext (.t 65) 1⟩,⟨some 10,none,.alloc t1 [(.int .i64 0),(.int .i64 0),(.int .i64 0),(.str []),(.int .i64 0),(.sl true 6 [])]⟩,⟨none,none,.store 6 (.t 10) (.t 71)⟩,⟨some 11,none,.mv (.t 72)⟩] false) (.seq (.ops [⟨some 73,none,.mv (.t 0)⟩,⟨some 74,none,.mv (.t 11)⟩,⟨some 75,none,.call c3 [(.t 73),(.t 74),(.c (.str [58]))]⟩,⟨some 11,none,.mv (.t 75)⟩] false) (.seq (.ops [⟨some 77,none,.mv (.t 0)⟩,⟨some 78,none,.mv (.t 11)⟩,⟨some 79,none,.call c4 [(.t 77),(.t 78)]⟩,⟨some 76,none,.mv (.t 79)⟩,⟨some 80,none,.ext (.t 76) 0⟩,⟨some 81,none,.ext (.t 76) 1⟩,⟨some 12,none,.alloc t1 [(.int .i64 0),(.int .i64 0),(.int .i64 0),(.str []),(.int .i64 0),(.sl true 6 [])]⟩,⟨none,none,.store 6 (.t 12) (.t 80)⟩,⟨some 11,none,.mv (.t 81)⟩] false) (.seq (.ops [⟨some 82,none,.mv (.t 11)⟩,⟨some 6,none,.mv (.t 82)⟩] false) (.seq (.ops [⟨some 83,none,.mv (.t 9)⟩,⟨some 84,none,.load 6 true (.t 10)⟩,⟨some 85,none,.mv (.t 6)⟩,⟨some 86,none,.load 6 true (.t 12)⟩,⟨some 87,none,.bslice 6 [(.t 86)]⟩,⟨some 88,none,.call c5 [(.t 84),(.t 85),(.t 87)]⟩,⟨some 89,none,.bslice 6 [(.t 88)]⟩,⟨some 90,none,.app 6 72 t1 (.t 83) (.t 89)⟩,⟨some 9,none,.mv (.t 90)⟩] false) (.seq (.seq (.ops [⟨some 91,none,.mv (.t 0)⟩,⟨some 92,none,.nilCheck (.t 91)⟩,⟨some 93,none,.faddr 1 (.t 92)⟩,⟨some 94,none,.load 1 false (.t 93)⟩,⟨some 95,none,.bin .geq (.t 94) (.c (.int .i64 0))⟩,⟨some 96,none,.mv (.t 95)⟩,⟨some 97,some (96,false),.mv (.t 0)⟩,⟨some 98,some (96,false),.mv (.t 6)⟩,⟨some 99,some (96,false),.call c1 [(.t 97),(.t 98),(.c (.str [125]))]⟩,⟨some 100,none,.pick (.t 96) (.c (.bool true)) (.t 99)⟩] false) (.cond (.t 100) (.exit 2) (.skip))) (.ops [⟨some 101,none,.mv (.t 0)⟩,⟨some 102,none,.mv (.t 6)⟩,⟨some 103,none,.call c3 [(.t 101),(.t 102),(.c (.str [44]))]⟩,⟨some 6,none,.mv (.t 103)⟩] false))))))))))) (.seq (.ops [⟨some 104,none,.mv (.t 0)⟩,⟨some 105,none,.mv (.t 6)⟩,⟨some 106,none,.call c3 [(.t 104),(.t 105),(.c (.str [125]))]⟩,⟨some 6,none,.mv (.t 106)⟩] false) (.seq (.ops [⟨some 107,none,.mv (.t 1)⟩,⟨some 108,none,.build [(.int .i64 0),(.int .i64 0),(.int .i64 0),(.str []),(.int .i64 0),(.sl true 6 [])] [(0,1,(.c (.int .i64 32))),(1,1,(.t 107))]⟩,⟨some 109,none,.mv (.t 6)⟩,⟨some 110,none,.mv (.t 9)⟩,⟨some 111,none,.call c5 [(.t 108),(.t 109),(.t 110)]⟩,⟨some 112,none,.mv (.t 6)⟩,⟨none,none,.store 6 (.t 4) (.t 111)⟩,⟨some 5,none,.mv (.t 112)⟩] false) (.ret))))) (.skip))) (.seq (.ops [⟨some 113,none,.mv (.t 0)⟩,⟨some 114,none,.mv (.t 6)⟩,⟨some 115,none,.call c3 [(.t 113),(.t 114),(.c (.str [102,110]))]⟩,⟨some 6,none,.mv (.t 115)⟩] false) (.seq (.ops [⟨some 116,none,.mv (.t 0)⟩,⟨some 117,none,.mv (.t 6)⟩,⟨some 118,none,.call c3 [(.t 116),(.t 117),(.c (.str [40]))]⟩,⟨some 6,none,.mv (.t 118)⟩] false) (.seq (.blk 4 (.loop (.seq (.seq (.ops [⟨some 119,none,.mv (.t 0)⟩,⟨some 120,none,.nilCheck (.t 119)⟩,⟨some 121,none,.faddr 1 (.t 120)⟩,⟨some 122,none,.load 1 false (.t 121)⟩,⟨some 123,none,.bin .lss (.t 122) (.c (.int .i64 0))⟩,⟨some 124,none,.mv (.t 123)⟩,⟨some 125,some (124,true),.mv (.t 9)⟩,⟨some 126,some (124,true),.lenL (.t 125)⟩,⟨some 127,some (124,true),.bin .eql (.t 126) (.c (.int .i64 0))⟩,⟨some 128,some (124,true),.mv (.t 127)⟩,⟨some 129,some (128,true),.mv (.t 0)⟩,⟨some 130,some (128,true),.mv (.t 6)⟩,⟨some 131,some (128,true),.call c1 [(.t 129),(.t 130),(.c (.str [41]))]⟩,⟨some 132,some (124,true),.pick (.t 128) (.t 131) (.c (.bool false))⟩,⟨some 133,some (124,true),.un .not (.t 132)⟩,⟨some 134,none,.pick (.t 124) (.t 133) (.c (.bool false))⟩] false) (.cond (.t 134) (.skip) (.exit 4))) (.blk 5 (.seq (.ops [⟨some 136,none,.mv (.t 0)⟩,⟨some 137,none,.mv (.t 6)⟩,⟨some 138,none,.call c4 [(.t 136),(.t 137)]⟩,⟨some 135,none,.mv (.t 138)⟩,⟨some 139,none,.ext (.t 135) 0⟩,⟨some 140,none,.ext (.t 135) 1⟩,⟨some 13,none,.alloc t1 [(.int .i64 0),(.int .i64 0),(.int .i64 0),(.str []),(.int .i64 0),(.sl true 6 [])]⟩,⟨none,none,.store 6 (.t 13) (.t 139)⟩,⟨some 14,none,.mv (.t 140)⟩] false) (.seq (.ops [⟨some 141,none,.mv (.t 14)⟩,⟨some 6,none,.mv (.t 141)⟩] false) (.seq (.ops [⟨some 142,none,.mv (.t 9)⟩,⟨some 143,none,.load 6 true (.t 13)⟩,⟨some 144,none,.bslice 6 [(.t 143)]⟩,⟨some 145,none,.app 6 72 t1 (.t 142) (.t 144)⟩,⟨some 9,none,.mv (.t 145)⟩] false) (.seq (.seq (.ops [⟨some 146,none,.mv (.t 0)⟩,⟨some 147,none,.nilCheck (.t 146)⟩,⟨some 148,none,.faddr 1 (.t 147)⟩,⟨some 149,none,.load 1 false (.t 148)⟩,⟨some 150,none,.bin .geq (.t 149) (.c (.int .i64 0))⟩,⟨some 151,none,.mv (.t 150)⟩,⟨some 152,some (151,false),.mv (.t 0)⟩,⟨some 153,some (151,false),.mv (.t 6)⟩,⟨some 154,some (151,false),.call c1 [(.t 152),(.t 153),(.c (.str [41]))]⟩,⟨some 155,none,.pick (.t 151) (.c (.bool true)) (.t 154)⟩] false) (.cond (.t 155) (.exit 4) (.skip))) (.ops [⟨some 156,none,.mv (.t 0)⟩,⟨some 157,none,.mv (.t 6)⟩,⟨some 158,none,.call c3 [(.t 156),(.t 157),(.c (.str [44]))]⟩,⟨some 6,none,.mv (.t 158)⟩] false))))))))) (.seq (.ops [⟨some 159,none,.mv (.t 0)⟩,⟨some 160,none,.mv (.t 6)⟩,⟨some 161,none,.call c3 [(.t 159),(.t 160),(.c (.str [41]))]⟩,⟨some 6,none,.mv (.t 161)⟩] false) (.seq (.ops [⟨some 162,none,.mv (.t 0)⟩,⟨some 163,none,.mv (.t 6)⟩,⟨some 164,none,.call c3 [(.t 162),(.t 163),(.c (.str [58]))]⟩,⟨some 6,none,.mv (.t 164)⟩] false) (.seq (.ops [⟨some 166,none,.mv (.t 0)⟩,⟨some 167,none,.mv (.t 6)⟩,⟨some 168,none,.call c4 [(.t 166),(.t 167)]⟩,⟨some 165,none,.mv (.t 168)⟩,⟨some 169,none,.ext (.t 165) 0⟩,⟨some 170,none,.ext (.t 165) 1⟩,⟨some 15,none,.alloc t1 [(.int .i64 0),(.int .i64 0),(.int .i64 0),(.str []),(.int .i64 0),(.sl true 6 [])]⟩,⟨none,none,.store 6 (.t 15) (.t 169)⟩,⟨some 6,none,.mv (.t 170)⟩] false) (.seq (.ops [⟨some 171,none,.mv (.t 1)⟩,⟨some 172,none,.build [(.int .i64 0),(.int .i64 0),(.int .i64 0),(.str []),(.int .i64 0),(.sl true 6 [])] [(0,1,(.c (.int .i64 34))),(1,1,(.t 171))]⟩,⟨some 173,none,.mv (.t 6)⟩,⟨some 174,none,.mv (.t 9)⟩,⟨some 175,none,.load 6 true (.t 15)⟩,⟨some 176,none,.bslice 6 [(.t 175)]⟩,⟨some 177,none,.app 6 72 t1 (.t 174) (.t 176)⟩,⟨some 178,none,.call c5 [(.t 172),(.t 173),(.t 177)]⟩,⟨some 179,none,.mv (.t 6)⟩,⟨none,none,.store 6 (.t 4) (.t 178)⟩,⟨some 5,none,.mv (.t 179)⟩] false) (.ret))))))))))))))) }
def irR6Depth (c1 t1 : Nat) : IFn := { nt := 25, res := [.t 2], body := ( .seq (.ops [⟨some 1,none,.box t1 6 (.t 0)⟩,⟨some 2,none,.mv (.c (.int .i64 0))⟩] false) (.seq (.ops [⟨some 3,none,.mv (.c (.int .i64 1))⟩] false) (.seq (.seq (.ops [⟨some 4,none,.mv (.c (.int .i64 0))⟩] false) (.blk 0 (.loop (.seq (.seq (.ops [⟨some 6,none,.mv (.t 4)⟩,⟨some 7,none,.faddr 5 (.t 1)⟩,⟨some 8,none,.load 1 false (.t 7)⟩,⟨some 9,none,.lenL (.t 8)⟩,⟨some 10,none,.bin .lss (.t 6) (.t 9)⟩] false) (.cond (.t 10) (.skip) (.exit 0))) (.seq (.blk 1 (.seq (.ops [⟨some 13,none,.faddr 5 (.t 1)⟩,⟨some 14,none,.load 1 false (.t 13)⟩,⟨some 15,none,.mv (.t 4)⟩,⟨some 16,none,.iaddr 6 (.t 14) (.t 15)⟩,⟨some 17,none,.load 6 true (.t 16)⟩,⟨some 18,none,.call c1 [(.t 17)]⟩,⟨some 19,none,.bin .add (.t 18) (.c (.int .i64 1))⟩,⟨some 5,none,.mv (.t 19)⟩] false) (.seq (.ops [⟨some 20,none,.mv (.t 5)⟩,⟨some 21,none,.mv (.t 3)⟩,⟨some 22,none,.bin .gtr (.t 20) (.t 21)⟩] false) (.cond (.t 22) (.ops [⟨some 23,none,.mv (.t 5)⟩,⟨some 3,none,.mv (.t 23)⟩] false) (.skip))))) (.ops [⟨some 11,none,.mv (.t 4)⟩,⟨some 12,none,.bin .add (.t 11) (.c (.int .i64 1))⟩,⟨some 4,none,.mv (.t 12)⟩] false)))))) (.seq (.ops [⟨some 24,none,.mv (.t 3)⟩,⟨some 2,none,.mv (.t 24)⟩] false) (.ret))))) }
def irR7File (c1 c2 c3 c4 t1 : Nat) : IFn := { nt := 45, res := [.cell 2 6 true], body := ( .seq (.ops [⟨some 2,none,.alloc t1 [(.int .i64 0),(.int .i64 0),(.int .i64 0),(.str []),(.int .i64 0),(.sl true 6 [])]⟩] false) (.seq (.ops [⟨some 3,none,.mv (.c (.int .i64 0))⟩] false) (.seq (.ops [⟨some 4,none,.nilT 6 t1⟩] false) (.seq (.blk 0 (.loop (.seq (.seq (.ops [⟨some 6,none,.mv (.t 0)⟩,⟨some 7,none,.nilCheck (.t 6)⟩,⟨some 8,none,.faddr 1 (.t 7)⟩,⟨some 9,none,.load 1 false (.t 8)⟩,⟨some 10,none,.bin .lss (.t 9) (.c (.int .i64 0))⟩,⟨some 11,none,.mv (.t 10)⟩,⟨some 12,some (11,true),.mv (.t 0)⟩,⟨some 13,some (11,true),.nilCheck (.t 12)⟩,⟨some 14,some (11,true),.faddr 0 (.t 13)⟩,⟨some 15,some (11,true),.load 1 false (.t 14)⟩,⟨some 16,some (11,true),.mv (.t 3)⟩,⟨some 17,some (11,true),.iaddr 4 (.t 15) (.t 16)⟩,⟨some 18,some (11,true),.faddr 0 (.t 17)⟩,⟨some 19,some (11,true),.load 1 false (.t 18)⟩,⟨some 20,some (11,true),.bin .neq (.t 19) (.c (.int .i64 0))⟩,⟨some 21,none,.pick (.t 11) (.t 20) (.c (.bool false))⟩] false) (.cond (.t 21) (.skip) (.exit 0))) (.blk 1 (.seq (.ops [⟨some 5,none,.alloc t1 [(.int .i64 0),(.int .i64 0),(.int .i64 0),(.str []),(.int .i64 0),(.sl true 6 [])]⟩] false) (.seq (.seq (.ops [⟨some 22,none,.mv (.t 0)⟩,⟨some 23,none,.mv (.t 3)⟩,⟨some 24,none,.call c1 [(.t 22),(.t 23),(.c (.str [117,115,101]))]⟩] false) (.cond (.t 24) (.ops [⟨some 26,none,.mv (.t 0)⟩,⟨some 27,none,.mv (.t 3)⟩,⟨some 28,none,.call c2 [(.t 26),(.t 27)]⟩,⟨some 25,none,.mv (.t 28)⟩,⟨some 29,none,.ext (.t 25) 0⟩,⟨some 30,none,.ext (.t 25) 1⟩,⟨none,none,.store 6 (.t 5) (.t 29)⟩,⟨some 3,none,.mv (.t 30)⟩] false) (.ops [⟨some 32,none,.mv (.t 0)⟩,⟨some 33,none,.mv (.t 3)⟩,⟨some 34,none,.call c3 [(.t 32),(.t 33)]⟩,⟨some 31,none,.mv (.t 34)⟩,⟨some 35,none,.ext (.t 31) 0⟩,⟨some 36,none,.ext (.t 31) 1⟩,⟨none,none,.store 6 (.t 5) (.t 35)⟩,⟨some 3,none,.mv (.t 36)⟩] false))) (.ops [⟨some 37,none,.mv (.t 4)⟩,⟨some 38,none,.load 6 true (.t 5)⟩,⟨some 39,none,.bslice 6 [(.t 38)]⟩,⟨some 40,none,.app 6 72 t1 (.t 37) (.t 39)⟩,⟨some 4,none,.mv (.t 40)⟩] false))))))) (.seq (.ops [⟨some 41,none,.build [(.int .i64 0),(.int .i64 0),(.int .i64 0),(.str []),(.int .i64 0),(.sl true 6 [])] [(0,1,(.c (.int .i64 1)))]⟩,⟨some 42,none,.mv (.t 3)⟩,⟨some 43,none,.mv (.t 4)⟩,⟨some 44,none,.call c4 [(.t 41),(.t 42),(.t 43)]⟩,⟨none,none,.store 6 (.t 2) (.t 44)⟩] false) (.ret)))))) }
def irR7Is (t1 : Nat) : IFn := { nt := 29, res := [.t 6], body := ( .seq (.ops [⟨some 6,none,.mv (.c (.bool false))⟩] false) (.seq (.ops [⟨some 8,none,.mv (.t 0)⟩,⟨some 9,none,.nilCheck (.t 8)⟩,⟨some 10,none,.faddr 0 (.t 9)⟩,⟨some 11,none,.load 1 false (.t 10)⟩,⟨some 12,none,.mv (.t 1)⟩,⟨some 13,none,.iaddr 4 (.t 11) (.t 12)⟩,⟨some 14,none,.load 4 true (.t 13)⟩,⟨some 7,none,.alloc t1 [(.int .i64 0),(.int .i64 0),(.str []),(.str [])]⟩,⟨none,none,.store 4 (.t 7) (.t 14)⟩] false) (.seq (.ops [⟨some 15,none,.faddr 0 (.t 7)⟩,⟨some 16,none,.load 1 false (.t 15)⟩,⟨some 17,none,.bin .eql (.t 16) (.c (.int .i64 2))⟩,⟨some 18,none,.mv (.t 17)⟩,⟨some 19,some (18,false),.faddr 0 (.t 7)⟩,⟨some 20,some (18,false),.load 1 false (.t 19)⟩,⟨some 21,some (18,false),.bin .eql (.t 20) (.c (.int .i64 5))⟩,⟨some 22,none,.pick (.t 18) (.c (.bool true)) (.t 21)⟩,⟨some 23,none,.mv (.t 22)⟩,⟨some 24,some (23,true),.faddr 3 (.t 7)⟩,⟨some 25,some (23,true),.load 1 false (.t 24)⟩,⟨some 26,some (23,true),.mv (.t 2)⟩,⟨some 27,some (23,true),.bin .eql (.t 25) (.t 26)⟩,⟨some 28,none,.pick (.t 23) (.t 27) (.c (.bool false))⟩,⟨some 6,none,.mv (.t 28)⟩] false) (.ret)))) }
def irR7Word (t1 : Nat) : IFn := { nt := 49, res := [.cell 6 6 true,.t 7], body := ( .seq (.ops [⟨some 4,none,.box t1 6 (.t 1)⟩,⟨some 6,none,.alloc t1 [(.int .i64 0),(.int .i64 0),(.int .i64 0),(.str []),(.int .i64 0),(.sl true 6 [])]⟩,⟨some 7,none,.mv (.c (.int .i64 0))⟩] false) (.seq (.seq (.ops [⟨some 8,none,.mv (.t 0)⟩,⟨some 9,none,.nilCheck (.t 8)⟩,⟨some 10,none,.faddr 1 (.t 9)⟩,⟨some 11,none,.load 1 false (.t 10)⟩,⟨some 12,none,.bin .lss (.t 11) (.c (.int .i64 0))⟩,⟨some 13,none,.mv (.t 12)⟩,⟨some 14,some (13,true),.mv (.t 0)⟩,⟨some 15,some (13,true),.nilCheck (.t 14)⟩,⟨some 16,some (13,true),.faddr 0 (.t 15)⟩,⟨some 17,some (13,true),.load 1 false (.t 16)⟩,⟨some 18,some (13,true),.mv (.t 2)⟩,⟨some 19,some (13,true),.iaddr 4 (.t 17) (.t 18)⟩,⟨some 20,some (13,true),.faddr 0 (.t 19)⟩,⟨some 21,some (13,true),.load 1 false (.t 20)⟩,⟨some 22,some (13,true),.bin .neq (.t 21) (.c (.int .i64 1))⟩,⟨some 23,none,.pick (.t 13) (.t 22) (.c (.bool false))⟩] false) (.cond (.t 23) (.ops [⟨some 24,none,.mv (.t 0)⟩,⟨some 25,none,.mv (.t 2)⟩,⟨some 26,none,.nilCheck (.t 24)⟩,⟨some 27,none,.faddr 1 (.t 26)⟩,⟨none,none,.store 1 (.t 27) (.t 25)⟩] false) (.skip))) (.seq (.seq (.ops [⟨some 28,none,.mv (.t 0)⟩,⟨some 29,none,.nilCheck (.t 28)⟩,⟨some 30,none,.faddr 1 (.t 29)⟩,⟨some 31,none,.load 1 false (.t 30)⟩,⟨some 32,none,.bin .geq (.t 31) (.c (.int .i64 0))⟩] false) (.cond (.t 32) (.seq (.ops [⟨some 33,none,.load 6 true (.t 4)⟩,⟨some 34,none,.mv (.t 2)⟩,⟨none,none,.store 6 (.t 6) (.t 33)⟩,⟨some 7,none,.mv (.t 34)⟩] false) (.ret)) (.skip))) (.seq (.ops [⟨some 35,none,.mv (.t 0)⟩,⟨some 36,none,.nilCheck (.t 35)⟩,⟨some 37,none,.faddr 0 (.t 36)⟩,⟨some 38,none,.load 1 false (.t 37)⟩,⟨some 39,none,.mv (.t 2)⟩,⟨some 40,none,.iaddr 4 (.t 38) (.t 39)⟩,⟨some 41,none,.faddr 3 (.t 40)⟩,⟨some 42,none,.load 1 false (.t 41)⟩,⟨some 43,none,.faddr 3 (.t 4)⟩,⟨none,none,.store 1 (.t 43) (.t 42)⟩] false) (.seq (.ops [⟨some 44,none,.mv (.t 2)⟩,⟨some 45,none,.faddr 4 (.t 4)⟩,⟨none,none,.store 1 (.t 45) (.t 44)⟩] false) (.seq (.ops [⟨some 46,none,.load 6 true (.t 4)⟩,⟨some 47,none,.mv (.t 2)⟩,⟨some 48,none,.bin .add (.t 47) (.c (.int .i64 1))⟩,⟨none,none,.store 6 (.t 6) (.t 46)⟩,⟨some 7,none,.mv (.t 48)⟩] false) (.ret))))))) }
def irR7Want (c1 : Nat) : IFn := { nt := 31, res := [.t 6], body := ( .seq (.ops [⟨some 6,none,.mv (.c (.int .i64 0))⟩] false) (.seq (.seq (.ops [⟨some 7,none,.mv (.t 0)⟩,⟨some 8,none,.nilCheck (.t 7)⟩,⟨some 9,none,.faddr 1 (.t 8)⟩,⟨some 10,none,.load 1 false (.t 9)⟩,⟨some 11,none,.bin .lss (.t 10) (.c (.int .i64 0))⟩,⟨some 12,none,.mv (.t 11)⟩,⟨some 13,some (12,true),.mv (.t 0)⟩,⟨some 14,some (12,true),.mv (.t 1)⟩,⟨some 15,some (12,true),.mv (.t 2)⟩,⟨some 16,some (12,true),.call c1 [(.t 13),(.t 14),(.t 15)]⟩,⟨some 17,some (12,true),.un .not (.t 16)⟩,⟨some 18,none,.pick (.t 12) (.t 17) (.c (.bool false))⟩] false) (.cond (.t 18) (.ops [⟨some 19,none,.mv (.t 0)⟩,⟨some 20,none,.mv (.t 1)⟩,⟨some 21,none,.nilCheck (.t 19)⟩,⟨some 22,none,.faddr 1 (.t 21)⟩,⟨none,none,.store 1 (.t 22) (.t 20)⟩] false) (.skip))) (.seq (.seq (.ops [⟨some 23,none,.mv (.t 0)⟩,⟨some 24,none,.nilCheck (.t 23)⟩,⟨some 25,none,.faddr 1 (.t 24)⟩,⟨some 26,none,.load 1 false (.t 25)⟩,⟨some 27,none,.bin .geq (.t 26) (.c (.int .i64 0))⟩] false) (.cond (.t 27) (.seq (.ops [⟨some 28,none,.mv (.t 1)⟩,⟨some 6,none,.mv (.t 28)⟩] false) (.ret)) (.skip))) (.seq (.ops [⟨some 29,none,.mv (.t 1)⟩,⟨some 30,none,.bin .add (.t 29) (.c (.int .i64 1))⟩,⟨some 6,none,.mv (.t 30)⟩] false) (.ret))))) }
def irR7Ended (t1 : Nat) : IFn := { nt := 12, res := [.cell 6 6 true], body := ( .seq (.ops [⟨some 3,none,.box t1 6 (.t 0)⟩,⟨some 6,none,.alloc t1 [(.int .i64 0),(.int .i64 0),(.int .i64 0),(.str []),(.int .i64 0),(.sl true 6 [])]⟩] false) (.seq (.ops [⟨some 7,none,.mv (.t 1)⟩,⟨some 8,none,.faddr 2 (.t 3)⟩,⟨none,none,.store 1 (.t 8) (.t 7)⟩] false) (.seq (.ops [⟨some 9,none,.mv (.t 2)⟩,⟨some 10,none,.faddr 5 (.t 3)⟩,⟨none,none,.store 1 (.t 10) (.t 9)⟩] false) (.seq (.ops [⟨some 11,none,.load 6 true (.t 3)⟩,⟨none,none,.store 6 (.t 6) (.t 11)⟩] false) (.ret))))) }
def irR7Use (c1 c2 c3 t1 : Nat) : IFn := { nt := 42, res := [.cell 4 6 true,.t 5], body := ( .seq (.ops [⟨some 4,none,.alloc t1 [(.int .i64 0),(.int .i64 0),(.int .i64 0),(.str []),(.int .i64 0),(.sl true 6 [])]⟩,⟨some 5,none,.mv (.c (.int .i64 0))⟩] false) (.seq (.ops [⟨some 10,none,.mv (.t 0)⟩,⟨some 11,none,.mv (.t 1)⟩,⟨some 12,none,.bin .add (.t 11) (.c (.int .i64 1))⟩,⟨some 13,none,.build [(.int .i64 0),(.int .i64 0),(.int .i64 0),(.str []),(.int .i64 0),(.sl true 6 [])] [(0,1,(.c (.int .i64 23))),(1,1,(.t 12))]⟩,⟨some 14,none,.mv (.t 1)⟩,⟨some 15,none,.bin .add (.t 14) (.c (.int .i64 1))⟩,⟨some 16,none,.call c1 [(.t 10),(.t 13),(.t 15)]⟩,⟨some 9,none,.mv (.t 16)⟩,⟨some 17,none,.ext (.t 9) 0⟩,⟨some 18,none,.ext (.t 9) 1⟩,⟨some 6,none,.alloc t1 [(.int .i64 0),(.int .i64 0),(.int .i64 0),(.str []),(.int .i64 0),(.sl true 6 [])]⟩,⟨none,none,.store 6 (.t 6) (.t 17)⟩,⟨some 7,none,.mv (.t 18)⟩] false) (.seq (.ops [⟨some 19,none,.mv (.t 7)⟩,⟨some 20,none,.faddr 2 (.t 6)⟩,⟨none,none,.store 1 (.t 20) (.t 19)⟩] false) (.seq (.ops [⟨some 21,none,.mv (.t 1)⟩,⟨some 22,none,.build [(.int .i64 0),(.int .i64 0),(.int .i64 0),(.str []),(.int .i64 0),(.sl true 6 [])] [(0,1,(.c (.int .i64 2))),(1,1,(.t 21))]⟩,⟨some 8,none,.alloc t1 [(.int .i64 0),(.int .i64 0),(.int .i64 0),(.str []),(.int .i64 0),(.sl true 6 [])]⟩,⟨none,none,.store 6 (.t 8) (.t 22)⟩] false) (.seq (.ops [⟨some 23,none,.mv (.t 0)⟩,⟨some 24,none,.mv (.t 7)⟩,⟨some 25,none,.call c2 [(.t 23),(.t 24),(.c (.str [46]))]⟩,⟨some 7,none,.mv (.t 25)⟩] false) (.seq (.ops [⟨some 27,none,.mv (.t 0)⟩,⟨some 28,none,.load 6 true (.t 8)⟩,⟨some 29,none,.mv (.t 7)⟩,⟨some 30,none,.call c1 [(.t 27),(.t 28),(.t 29)]⟩,⟨some 26,none,.mv (.t 30)⟩,⟨some 31,none,.ext (.t 26) 0⟩,⟨some 32,none,.ext (.t 26) 1⟩,⟨none,none,.store 6 (.t 8) (.t 31)⟩,⟨some 7,none,.mv (.t 32)⟩] false) (.seq (.ops [⟨some 33,none,.mv (.t 0)⟩,⟨some 34,none,.mv (.t 7)⟩,⟨some 35,none,.call c2 [(.t 33),(.t 34),(.c (.str [59]))]⟩,⟨some 7,none,.mv (.t 35)⟩] false) (.seq (.ops [⟨some 36,none,.load 6 true (.t 8)⟩,⟨some 37,none,.mv (.t 7)⟩,⟨some 38,none,.load 6 true (.t 6)⟩,⟨some 39,none,.bslice 6 [(.t 38)]⟩,⟨some 40,none,.call c3 [(.t 36),(.t 37),(.t 39)]⟩,⟨some 41,none,.mv (.t 7)⟩,⟨none,none,.store 6 (.t 4) (.t 40)⟩,⟨some 5,none,.mv (.t 41)⟩] false) (.ret))))))))) }
def irR7Def (c1 c2 c3 c4 t1 : Nat) : IFn := { nt := 31, res := [.cell 4 6 true,.t 5], body := ( .seq (.ops [⟨some 4,none,.alloc t1 [(.int .i64 0),(.int .i64 0),(.int .i64 0),(.str []),(.int .i64 0),(.sl true 6 [])]⟩,⟨some 5,none,.mv (.c (.int .i64 0))⟩] false) (.seq (.ops [⟨some 9,none,.mv (.t 0)⟩,⟨some 10,none,.mv (.t 1)⟩,⟨some 11,none,.call c1 [(.t 9),(.t 10),(.c (.str [100,101,102]))]⟩,⟨some 6,none,.mv (.t 11)⟩] false) (.seq (.ops [⟨some 13,none,.mv (.t 0)⟩,⟨some 14,none,.mv (.t 1)⟩,⟨some 15,none,.build [(.int .i64 0),(.int .i64 0),(.int .i64 0),(.str []),(.int .i64 0),(.sl true 6 [])] [(0,1,(.c (.int .i64 3))),(1,1,(.t 14))]⟩,⟨some 16,none,.mv (.t 6)⟩,⟨some 17,none,.call c2 [(.t 13),(.t 15),(.t 16)]⟩,⟨some 12,none,.mv (.t 17)⟩,⟨some 18,none,.ext (.t 12) 0⟩,⟨some 19,none,.ext (.t 12) 1⟩,⟨some 7,none,.alloc t1 [(.int .i64 0),(.int .i64 0),(.int .i64 0),(.str []),(.int .i64 0),(.sl true 6 [])]⟩,⟨none,none,.store 6 (.t 7) (.t 18)⟩,⟨some 6,none,.mv (.t 19)⟩] false) (.seq (.ops [⟨some 21,none,.mv (.t 0)⟩,⟨some 22,none,.mv (.t 6)⟩,⟨some 23,none,.call c3 [(.t 21),(.t 22)]⟩,⟨some 20,none,.mv (.t 23)⟩,⟨some 24,none,.ext (.t 20) 0⟩,⟨some 25,none,.ext (.t 20) 1⟩,⟨some 8,none,.mv (.t 24)⟩,⟨some 6,none,.mv (.t 25)⟩] false) (.seq (.ops [⟨some 26,none,.load 6 true (.t 7)⟩,⟨some 27,none,.mv (.t 6)⟩,⟨some 28,none,.mv (.t 8)⟩,⟨some 29,none,.call c4 [(.t 26),(.t 27),(.t 28)]⟩,⟨some 30,none,.mv (.t 6)⟩,⟨none,none,.store 6 (.t 4) (.t 29)⟩,⟨some 5,none,.mv (.t 30)⟩] false) (.ret)))))) }
def irR7Lambda (c1 c2 c3 t1 : Nat) : IFn := { nt := 32, res := [.t 4,.t 5], body := ( .seq (.ops [⟨some 4,none,.mv (.c (.sl true 6 []))⟩,⟨some 5,none,.mv (.c (.int .i64 0))⟩] false) (.seq (.ops [⟨some 10,none,.mv (.t 0)⟩,⟨some 11,none,.mv (.t 1)⟩,⟨some 12,none,.call c1 [(.t 10),(.t 11)]⟩,⟨some 9,none,.mv (.t 12)⟩,⟨some 13,none,.ext (.t 9) 0⟩,⟨some 14,none,.ext (.t 9) 1⟩,⟨some 6,none,.alloc t1 [(.int .i64 0),(.int .i64 0),(.int .i64 0),(.str []),(.int .i64 0),(.sl true 6 [])]⟩,⟨none,none,.store 6 (.t 6) (.t 13)⟩,⟨some 1,none,.mv (.t 14)⟩] false) (.seq (.ops [⟨some 16,none,.mv (.t 0)⟩,⟨some 17,none,.mv (.t 1)⟩,⟨some 18,none,.call c2 [(.t 16),(.t 17)]⟩,⟨some 15,none,.mv (.t 18)⟩,⟨some 19,none,.ext (.t 15) 0⟩,⟨some 20,none,.ext (.t 15) 1⟩,⟨some 7,none,.alloc t1 [(.int .i64 0),(.int .i64 0),(.int .i64 0),(.str []),(.int .i64 0),(.sl true 6 [])]⟩,⟨none,none,.store 6 (.t 7) (.t 19)⟩,⟨some 1,none,.mv (.t 20)⟩] false) (.seq (.ops [⟨some 22,none,.mv (.t 0)⟩,⟨some 23,none,.mv (.t 1)⟩,⟨some 24,none,.call c3 [(.t 22),(.t 23)]⟩,⟨some 21,none,.mv (.t 24)⟩,⟨some 25,none,.ext (.t 21) 0⟩,⟨some 26,none,.ext (.t 21) 1⟩,⟨some 8,none,.alloc t1 [(.int .i64 0),(.int .i64 0),(.int .i64 0),(.str []),(.int .i64 0),(.sl true 6 [])]⟩,⟨none,none,.store 6 (.t 8) (.t 25)⟩,⟨some 1,none,.mv (.t 26)⟩] false) (.seq (.ops [⟨some 27,none,.load 6 true (.t 6)⟩,⟨some 28,none,.load 6 true (.t 7)⟩,⟨some 29,none,.load 6 true (.t 8)⟩,⟨some 30,none,.bslice 6 [(.t 27),(.t 28),(.t 29)]⟩,⟨some 31,none,.mv (.t 1)⟩,⟨some 4,none,.mv (.t 30)⟩,⟨some 5,none,.mv (.t 31)⟩] false) (.ret)))))) }
def irR7Params (c1 c2 c3 c4 c5 t1 : Nat) : IFn := { nt := 75, res := [.cell 4 6 true,.t 5], body := ( .seq (.ops [⟨some 4,none,.alloc t1 [(.int .i64 0),(.int .i64 0),(.int .i64 0),(.str []),(.int .i64 0),(.sl true 6 [])]⟩,⟨some 5,none,.mv (.c (.int .i64 0))⟩] false) (.seq (.ops [⟨some 11,none,.mv (.t 0)⟩,⟨some 12,none,.mv (.t 1)⟩,⟨some 13,none,.call c1 [(.t 11),(.t 12),(.c (.str [40]))]⟩,⟨some 6,none,.mv (.t 13)⟩] false) (.seq (.ops [⟨some 7,none,.nilT 6 t1⟩] false) (.seq (.blk 0 (.loop (.seq (.seq (.ops [⟨some 14,none,.mv (.t 0)⟩,⟨some 15,none,.nilCheck (.t 14)⟩,⟨some 16,none,.faddr 1 (.t 15)⟩,⟨some 17,none,.load 1 false (.t 16)⟩,⟨some 18,none,.bin .lss (.t 17) (.c (.int .i64 0))⟩,⟨some 19,none,.mv (.t 18)⟩,⟨some 20,some (19,true),.mv (.t 7)⟩,⟨some 21,some (19,true),.lenL (.t 20)⟩,⟨some 22,some (19,true),.bin .eql (.t 21) (.c (.int .i64 0))⟩,⟨some 23,some (19,true),.mv (.t 22)⟩,⟨some 24,some (23,true),.mv (.t 0)⟩,⟨some 25,some (23,true),.mv (.t 6)⟩,⟨some 26,some (23,true),.call c2 [(.t 24),(.t 25),(.c (.str [41]))]⟩,⟨some 27,some (19,true),.pick (.t 23) (.t 26) (.c (.bool false))⟩,⟨some 28,some (19,true),.un .not (.t 27)⟩,⟨some 29,none,.pick (.t 19) (.t 28) (.c (.bool false))⟩] false) (.cond (.t 29) (.skip) (.exit 0))) (.blk 1 (.seq (.ops [⟨some 31,none,.mv (.t 0)⟩,⟨some 32,none,.mv (.t 6)⟩,⟨some 33,none,.build [(.int .i64 0),(.int .i64 0),(.int .i64 0),(.str []),(.int .i64 0),(.sl true 6 [])] [(0,1,(.c (.int .i64 5))),(1,1,(.t 32))]⟩,⟨some 34,none,.mv (.t 6)⟩,⟨some 35,none,.call c3 [(.t 31),(.t 33),(.t 34)]⟩,⟨some 30,none,.mv (.t 35)⟩,⟨some 36,none,.ext (.t 30) 0⟩,⟨some 37,none,.ext (.t 30) 1⟩,⟨some 8,none,.alloc t1 [(.int .i64 0),(.int .i64 0),(.int .i64 0),(.str []),(.int .i64 0),(.sl true 6 [])]⟩,⟨none,none,.store 6 (.t 8) (.t 36)⟩,⟨some 9,none,.mv (.t 37)⟩] false) (.seq (.ops [⟨some 39,none,.mv (.t 0)⟩,⟨some 40,none,.mv (.t 9)⟩,⟨some 41,none,.call c4 [(.t 39),(.t 40)]⟩,⟨some 38,none,.mv (.t 41)⟩,⟨some 42,none,.ext (.t 38) 0⟩,⟨some 43,none,.ext (.t 38) 1⟩,⟨some 10,none,.alloc t1 [(.int .i64 0),(.int .i64 0),(.int .i64 0),(.str []),(.int .i64 0),(.sl true 6 [])]⟩,⟨none,none,.store 6 (.t 10) (.t 42)⟩,⟨some 9,none,.mv (.t 43)⟩] false) (.seq (.ops [⟨some 44,none,.mv (.t 9)⟩,⟨some 6,none,.mv (.t 44)⟩] false) (.seq (.ops [⟨some 45,none,.mv (.t 7)⟩,⟨some 46,none,.load 6 true (.t 8)⟩,⟨some 47,none,.mv (.t 6)⟩,⟨some 48,none,.load 6 true (.t 10)⟩,⟨some 49,none,.bslice 6 [(.t 48)]⟩,⟨some 50,none,.call c5 [(.t 46),(.t 47),(.t 49)]⟩,⟨some 51,none,.bslice 6 [(.t 50)]⟩,⟨some 52,none,.app 6 72 t1 (.t 45) (.t 51)⟩,⟨some 7,none,.mv (.t 52)⟩] false) (.seq (.seq (.ops [⟨some 53,none,.mv (.t 0)⟩,⟨some 54,none,.nilCheck (.t 53)⟩,⟨some 55,none,.faddr 1 (.t 54)⟩,⟨some 56,none,.load 1 false (.t 55)⟩,⟨some 57,none,.bin .geq (.t 56) (.c (.int .i64 0))⟩,⟨some 58,none,.mv (.t 57)⟩,⟨some 59,some (58,false),.mv (.t 0)⟩,⟨some 60,some (58,false),.mv (.t 6)⟩,⟨some 61,some (58,false),.call c2 [(.t 59),(.t 60),(.c (.str [41]))]⟩,⟨some 62,none,.pick (.t 58) (.c (.bool true)) (.t 61)⟩] false) (.cond (.t 62) (.exit 0) (.skip))) (.ops [⟨some 63,none,.mv (.t 0)⟩,⟨some 64,none,.mv (.t 6)⟩,⟨some 65,none,.call c1 [(.t 63),(.t 64),(.c (.str [44]))]⟩,⟨some 6,none,.mv (.t 65)⟩] false)))))))))) (.seq (.ops [⟨some 66,none,.mv (.t 0)⟩,⟨some 67,none,.mv (.t 6)⟩,⟨some 68,none,.call c1 [(.t 66),(.t 67),(.c (.str [41]))]⟩,⟨some 6,none,.mv (.t 68)⟩] false) (.seq (.ops [⟨some 69,none,.mv (.t 1)⟩,⟨some 70,none,.build [(.int .i64 0),(.int .i64 0),(.int .i64 0),(.str []),(.int .i64 0),(.sl true 6 [])] [(0,1,(.c (.int .i64 4))),(1,1,(.t 69))]⟩,⟨some 71,none,.mv (.t 6)⟩,⟨some 72,none,.mv (.t 7)⟩,⟨some 73,none,.call c5 [(.t 70),(.t 71),(.t 72)]⟩,⟨some 74,none,.mv (.t 6)⟩,⟨none,none,.store 6 (.t 4) (.t 73)⟩,⟨some 5,none,.mv (.t 74)⟩] false) (.ret))))))) }
def irR7Typed (c1 c2 t1 : Nat) : IFn := { nt := 25, res := [.cell 4 6 true,.t 5], body := ( .seq (.ops [⟨some 4,none,.alloc t1 [(.int .i64 0),(.int .i64 0),(.int .i64 0),(.str []),(.int .i64 0),(.sl true 6 [])]⟩,⟨some 5,none,.mv (.c (.int .i64 0))⟩] false) (.seq (.seq (.ops [⟨some 6,none,.mv (.t 0)⟩,⟨some 7,none,.nilCheck (.t 6)⟩,⟨some 8,none,.faddr 1 (.t 7)⟩,⟨some 9,none,.load 1 false (.t 8)⟩,⟨some 10,none,.bin .geq (.t 9) (.c (.int .i64 0))⟩,⟨some 11,none,.mv (.t 10)⟩,⟨some 12,some (11,false),.mv (.t 0)⟩,⟨some 13,some (11,false),.mv (.t 1)⟩,⟨some 14,some (11,false),.call c1 [(.t 12),(.t 13),(.c (.str [58]))]⟩,⟨some 15,some (11,false),.un .not (.t 14)⟩,⟨some 16,none,.pick (.t 11) (.c (.bool true)) (.t 15)⟩] false) (.cond (.t 16) (.seq (.ops [⟨some 17,none,.build [(.int .i64 0),(.int .i64 0),(.int .i64 0),(.str []),(.int .i64 0),(.sl true 6 [])] []⟩,⟨some 18,none,.mv (.t 1)⟩,⟨none,none,.store 6 (.t 4) (.t 17)⟩,⟨some 5,none,.mv (.t 18)⟩] false) (.ret)) (.skip))) (.seq (.ops [⟨some 19,none,.mv (.t 0)⟩,⟨some 20,none,.mv (.t 1)⟩,⟨some 21,none,.bin .add (.t 20) (.c (.int .i64 1))⟩,⟨some 22,none,.call c2 [(.t 19),(.t 21)]⟩,⟨some 23,none,.ext (.t 22) 0⟩,⟨some 24,none,.ext (.t 22) 1⟩,⟨none,none,.store 6 (.t 4) (.t 23)⟩,⟨some 5,none,.mv (.t 24)⟩] false) (.ret)))) }
def irR7Block (c1 c2 c3 c4 t1 : Nat) : IFn := { nt := 44, res := [.cell 4 6 true,.t 5], body := ( .seq (.ops [⟨some 4,none,.alloc t1 [(.int .i64 0),(.int .i64 0),(.int .i64 0),(.str []),(.int .i64 0),(.sl true 6 [])]⟩,⟨some 5,none,.mv (.c (.int .i64 0))⟩] false) (.seq (.ops [⟨some 10,none,.mv (.t 0)⟩,⟨some 11,none,.mv (.t 1)⟩,⟨some 12,none,.call c1 [(.t 10),(.t 11),(.c (.str [123]))]⟩,⟨some 6,none,.mv (.t 12)⟩] false) (.seq (.ops [⟨some 7,none,.nilT 6 t1⟩] false) (.seq (.blk 0 (.loop (.seq (.seq (.ops [⟨some 13,none,.mv (.t 0)⟩,⟨some 14,none,.nilCheck (.t 13)⟩,⟨some 15,none,.faddr 1 (.t 14)⟩,⟨some 16,none,.load 1 false (.t 15)⟩,⟨some 17,none,.bin .lss (.t 16) (.c (.int .i64 0))⟩,⟨some 18,none,.mv (.t 17)⟩,⟨some 19,some (18,true),.mv (.t 0)⟩,⟨some 20,some (18,true),.mv (.t 6)⟩,⟨some 21,some (18,true),.call c2 [(.t 19),(.t 20),(.c (.str [125]))]⟩,⟨some 22,some (18,true),.un .not (.t 21)⟩,⟨some 23,none,.pick (.t 18) (.t 22) (.c (.bool false))⟩] false) (.cond (.t 23) (.skip) (.exit 0))) (.blk 1 (.seq (.ops [⟨some 25,none,.mv (.t 0)⟩,⟨some 26,none,.mv (.t 6)⟩,⟨some 27,none,.call c3 [(.t 25),(.t 26)]⟩,⟨some 24,none,.mv (.t 27)⟩,⟨some 28,none,.ext (.t 24) 0⟩,⟨some 29,none,.ext (.t 24) 1⟩,⟨some 8,none,.alloc t1 [(.int .i64 0),(.int .i64 0),(.int .i64 0),(.str []),(.int .i64 0),(.sl true 6 [])]⟩,⟨none,none,.store 6 (.t 8) (.t 28)⟩,⟨some 9,none,.mv (.t 29)⟩] false) (.seq (.ops [⟨some 30,none,.mv (.t 9)⟩,⟨some 6,none,.mv (.t 30)⟩] false) (.ops [⟨some 31,none,.mv (.t 7)⟩,⟨some 32,none,.load 6 true (.t 8)⟩,⟨some 33,none,.bslice 6 [(.t 32)]⟩,⟨some 34,none,.app 6 72 t1 (.t 31) (.t 33)⟩,⟨some 7,none,.mv (.t 34)⟩] false))))))) (.seq (.ops [⟨some 35,none,.mv (.t 0)⟩,⟨some 36,none,.mv (.t 6)⟩,⟨some 37,none,.call c1 [(.t 35),(.t 36),(.c (.str [125]))]⟩,⟨some 6,none,.mv (.t 37)⟩] false) (.seq (.ops [⟨some 38,none,.mv (.t 1)⟩,⟨some 39,none,.build [(.int .i64 0),(.int .i64 0),(.int .i64 0),(.str []),(.int .i64 0),(.sl true 6 [])] [(0,1,(.c (.int .i64 6))),(1,1,(.t 38))]⟩,⟨some 40,none,.mv (.t 6)⟩,⟨some 41,none,.mv (.t 7)⟩,⟨some 42,none,.call c4 [(.t 39),(.t 40),(.t 41)]⟩,⟨some 43,none,.mv (.t 6)⟩,⟨none,none,.store 6 (.t 4) (.t 42)⟩,⟨some 5,none,.mv (.t 43)⟩] false) (.ret))))))) }
def irR7Stmt (c1 c2 c3 c4 c5 c6 c7 t1 : Nat) : IFn := { nt := 155, res := [.cell 4 6 true,.t 5], body := ( .seq (.ops [⟨some 4,none,.alloc t1 [(.int .i64 0),(.int .i64 0),(.int .i64 0),(.str []),(.int .i64 0),(.sl true 6 [])]⟩,⟨some 5,none,.mv (.c (.int .i64 0))⟩] false) (.seq (.ops [⟨some 17,none,.mv (.t 1)⟩,⟨some 18,none,.build [(.int .i64 0),(.int .i64 0),(.int .i64 0),(.str []),(.int .i64 0),(.sl true 6 [])] [(0,1,(.c (.int .i64 13))),(1,1,(.t 17))]⟩,⟨some 6,none,.alloc t1 [(.int .i64 0),(.int .i64 0),(.int .i64 0),(.str []),(.int .i64 0),(.sl true 6 [])]⟩,⟨none,none,.store 6 (.t 6) (.t 18)⟩] false) (.seq (.ops [⟨some 19,none,.mv (.t 1)⟩,⟨some 7,none,.mv (.t 19)⟩] false) (.seq (.ops [⟨some 8,none,.nilT 6 t1⟩] false) (.seq (.seq (.ops [⟨some 20,none,.mv (.t 0)⟩,⟨some 21,none,.mv (.t 7)⟩,⟨some 22,none,.call c1 [(.t 20),(.t 21),(.c (.str [105,102]))]⟩,⟨some 23,none,.mv (.t 22)⟩,⟨some 24,some (23,false),.mv (.t 0)⟩,⟨some 25,some (23,false),.mv (.t 7)⟩,⟨some 26,some (23,false),.call c1 [(.t 24),(.t 25),(.c (.str [119,104,105,108,101]))]⟩,⟨some 27,none,.pick (.t 23) (.c (.bool true)) (.t 26)⟩] false) (.cond (.t 27) (.seq (.ops [⟨some 28,none,.faddr 0 (.t 6)⟩,⟨none,none,.store 1 (.t 28) (.c (.int .i64 10))⟩] false) (.seq (.ops [⟨some 29,none,.mv (.t 0)⟩,⟨some 30,none,.mv (.t 7)⟩,⟨some 31,none,.call c1 [(.t 29),(.t 30),(.c (.str [105,102]))]⟩,⟨some 9,none,.mv (.t 31)⟩] false) (.seq (.ops [⟨some 33,none,.mv (.t 0)⟩,⟨some 34,none,.mv (.t 7)⟩,⟨some 35,none,.bin .add (.t 34) (.c (.int .i64 1))⟩,⟨some 36,none,.call c2 [(.t 33),(.t 35)]⟩,⟨some 32,none,.mv (.t 36)⟩,⟨some 37,none,.ext (.t 32) 0⟩,⟨some 38,none,.ext (.t 32) 1⟩,⟨some 10,none,.alloc t1 [(.int .i64 0),(.int .i64 0),(.int .i64 0),(.str []),(.int .i64 0),(.sl true 6 [])]⟩,⟨none,none,.store 6 (.t 10) (.t 37)⟩,⟨some 11,none,.mv (.t 38)⟩] false) (.seq (.ops [⟨some 40,none,.mv (.t 0)⟩,⟨some 41,none,.mv (.t 11)⟩,⟨some 42,none,.call c3 [(.t 40),(.t 41)]⟩,⟨some 39,none,.mv (.t 42)⟩,⟨some 43,none,.ext (.t 39) 0⟩,⟨some 44,none,.ext (.t 39) 1⟩,⟨some 12,none,.alloc t1 [(.int .i64 0),(.int .i64 0),(.int .i64 0),(.str []),(.int .i64 0),(.sl true 6 [])]⟩,⟨none,none,.store 6 (.t 12) (.t 43)⟩,⟨some 11,none,.mv (.t 44)⟩] false) (.seq (.ops [⟨some 45,none,.load 6 true (.t 10)⟩,⟨some 46,none,.load 6 true (.t 12)⟩,⟨some 47,none,.bsliceT 6 t1 [(.t 45),(.t 46)]⟩,⟨some 8,none,.mv (.t 47)⟩] false) (.seq (.seq (.ops [⟨some 48,none,.mv (.t 9)⟩] false) (.cond (.t 48) (.seq (.ops [⟨some 49,none,.faddr 0 (.t 6)⟩,⟨none,none,.store 1 (.t 49) (.c (.int .i64 9))⟩] false) (.seq (.ops [⟨some 13,none,.alloc t1 [(.int .i64 0),(.int .i64 0),(.int .i64 0),(.str []),(.int .i64 0),(.sl true 6 [])]⟩] false) (.seq (.seq (.ops [⟨some 50,none,.mv (.t 0)⟩,⟨some 51,none,.nilCheck (.t 50)⟩,⟨some 52,none,.faddr 1 (.t 51)⟩,⟨some 53,none,.load 1 false (.t 52)⟩,⟨some 54,none,.bin .lss (.t 53) (.c (.int .i64 0))⟩,⟨some 55,none,.mv (.t 54)⟩,⟨some 56,some (55,true),.mv (.t 0)⟩,⟨some 57,some (55,true),.mv (.t 11)⟩,⟨some 58,some (55,true),.call c1 [(.t 56),(.t 57),(.c (.str [101,108,115,101]))]⟩,⟨some 59,none,.pick (.t 55) (.t 58) (.c (.bool false))⟩] false) (.cond (.t 59) (.ops [⟨some 61,none,.mv (.t 0)⟩,⟨some 62,none,.mv (.t 11)⟩,⟨some 63,none,.bin .add (.t 62) (.c (.int .i64 1))⟩,⟨some 64,none,.call c3 [(.t 61),(.t 63)]⟩,⟨some 60,none,.mv (.t 64)⟩,⟨some 65,none,.ext (.t 60) 0⟩,⟨some 66,none,.ext (.t 60) 1⟩,⟨none,none,.store 6 (.t 13) (.t 65)⟩,⟨some 11,none,.mv (.t 66)⟩] false) (.skip))) (.ops [⟨some 67,none,.mv (.t 8)⟩,⟨some 68,none,.load 6 true (.t 13)⟩,⟨some 69,none,.bslice 6 [(.t 68)]⟩,⟨some 70,none,.app 6 72 t1 (.t 67) (.t 69)⟩,⟨some 8,none,.mv (.t 70)⟩] false)))) (.skip))) (.seq (.ops [⟨some 71,none,.load 6 true (.t 6)⟩,⟨some 72,none,.mv (.t 11)⟩,⟨some 73,none,.mv (.t 8)⟩,⟨some 74,none,.call c4 [(.t 71),(.t 72),(.t 73)]⟩,⟨some 75,none,.mv (.t 11)⟩,⟨none,none,.store 6 (.t 4) (.t 74)⟩,⟨some 5,none,.mv (.t 75)⟩] false) (.ret)))))))) (.skip))) (.seq (.seq (.ops [⟨some 76,none,.mv (.t 0)⟩,⟨some 77,none,.mv (.t 7)⟩,⟨some 78,none,.call c1 [(.t 76),(.t 77),(.c (.str [108,101,116]))]⟩] false) (.cond (.t 78) (.seq (.ops [⟨some 79,none,.faddr 0 (.t 6)⟩,⟨none,none,.store 1 (.t 79) (.c (.int .i64 7))⟩] false) (.seq (.ops [⟨some 81,none,.mv (.t 0)⟩,⟨some 82,none,.load 6 true (.t 6)⟩,⟨some 83,none,.mv (.t 7)⟩,⟨some 84,none,.bin .add (.t 83) (.c (.int .i64 1))⟩,⟨some 85,none,.call c5 [(.t 81),(.t 82),(.t 84)]⟩,⟨some 80,none,.mv (.t 85)⟩,⟨some 86,none,.ext (.t 80) 0⟩,⟨some 87,none,.ext (.t 80) 1⟩,⟨none,none,.store 6 (.t 6) (.t 86)⟩,⟨some 7,none,.mv (.t 87)⟩] false) (.seq (.ops [⟨some 89,none,.mv (.t 0)⟩,⟨some 90,none,.mv (.t 7)⟩,⟨some 91,none,.call c6 [(.t 89),(.t 90)]⟩,⟨some 88,none,.mv (.t 91)⟩,⟨some 92,none,.ext (.t 88) 0⟩,⟨some 93,none,.ext (.t 88) 1⟩,⟨some 14,none,.alloc t1 [(.int .i64 0),(.int .i64 0),(.int .i64 0),(.str []),(.int .i64 0),(.sl true 6 [])]⟩,⟨none,none,.store 6 (.t 14) (.t 92)⟩,⟨some 15,none,.mv (.t 93)⟩] false) (.seq (.ops [⟨some 94,none,.mv (.t 8)⟩,⟨some 95,none,.load 6 true (.t 14)⟩,⟨some 96,none,.bslice 6 [(.t 95)]⟩,⟨some 97,none,.app 6 72 t1 (.t 94) (.t 96)⟩,⟨some 8,none,.mv (.t 97)⟩] false) (.ops [⟨some 98,none,.mv (.t 0)⟩,⟨some 99,none,.mv (.t 15)⟩,⟨some 100,none,.call c7 [(.t 98),(.t 99),(.c (.str [61]))]⟩,⟨some 7,none,.mv (.t 100)⟩] false))))) (.seq (.ops [⟨some 101,none,.mv (.t 0)⟩,⟨some 102,none,.mv (.t 7)⟩,⟨some 103,none,.call c1 [(.t 101),(.t 102),(.c (.str [112,114,105,110,116]))]⟩] false) (.cond (.t 103) (.seq (.ops [⟨some 104,none,.faddr 0 (.t 6)⟩,⟨none,none,.store 1 (.t 104) (.c (.int .i64 11))⟩] false) (.ops [⟨some 105,none,.mv (.t 7)⟩,⟨some 106,none,.bin .add (.t 105) (.c (.int .i64 1))⟩,⟨some 7,none,.mv (.t 106)⟩] false)) (.seq (.ops [⟨some 107,none,.mv (.t 0)⟩,⟨some 108,none,.mv (.t 7)⟩,⟨some 109,none,.call c1 [(.t 107),(.t 108),(.c (.str [114,101,116,117,114,110]))]⟩] false) (.cond (.t 109) (.seq (.ops [⟨some 110,none,.faddr 0 (.t 6)⟩,⟨none,none,.store 1 (.t 110) (.c (.int .i64 12))⟩] false) (.ops [⟨some 111,none,.mv (.t 7)⟩,⟨some 112,none,.bin .add (.t 111) (.c (.int .i64 1))⟩,⟨some 7,none,.mv (.t 112)⟩] false)) (.seq (.ops [⟨some 113,none,.mv (.t 0)⟩,⟨some 114,none,.nilCheck (.t 113)⟩,⟨some 115,none,.faddr 0 (.t 114)⟩,⟨some 116,none,.load 1 false (.t 115)⟩,⟨some 117,none,.mv (.t 7)⟩,⟨some 118,none,.iaddr 4 (.t 116) (.t 117)⟩,⟨some 119,none,.faddr 0 (.t 118)⟩,⟨some 120,none,.load 1 false (.t 119)⟩,⟨some 121,none,.bin .eql (.t 120) (.c (.int .i64 1))⟩,⟨some 122,none,.mv (.t 121)⟩,⟨some 123,some (122,true),.mv (.t 0)⟩,⟨some 124,some (122,true),.mv (.t 7)⟩,⟨some 125,some (122,true),.bin .add (.t 124) (.c (.int .i64 1))⟩,⟨some 126,some (122,true),.call c1 [(.t 123),(.t 125),(.c (.str [61]))]⟩,⟨some 127,none,.pick (.t 122) (.t 126) (.c (.bool false))⟩] false) (.cond (.t 127) (.seq (.ops [⟨some 128,none,.faddr 0 (.t 6)⟩,⟨none,none,.store 1 (.t 128) (.c (.int .i64 8))⟩] false) (.seq (.ops [⟨some 130,none,.mv (.t 0)⟩,⟨some 131,none,.load 6 true (.t 6)⟩,⟨some 132,none,.mv (.t 7)⟩,⟨some 133,none,.call c5 [(.t 130),(.t 131),(.t 132)]⟩,⟨some 129,none,.mv (.t 133)⟩,⟨some 134,none,.ext (.t 129) 0⟩,⟨some 135,none,.ext (.t 129) 1⟩,⟨none,none,.store 6 (.t 6) (.t 134)⟩,⟨some 7,none,.mv (.t 135)⟩] false) (.ops [⟨some 136,none,.mv (.t 7)⟩,⟨some 137,none,.bin .add (.t 136) (.c (.int .i64 1))⟩,⟨some 7,none,.mv (.t 137)⟩] false))) (.skip))))))))) (.seq (.ops [⟨some 139,none,.mv (.t 0)⟩,⟨some 140,none,.mv (.t 7)⟩,⟨some 141,none,.call c2 [(.t 139),(.t 140)]⟩,⟨some 138,none,.mv (.t 141)⟩,⟨some 142,none,.ext (.t 138) 0⟩,⟨some 143,none,.ext (.t 138) 1⟩,⟨some 16,none,.alloc t1 [(.int .i64 0),(.int .i64 0),(.int .i64 0),(.str []),(.int .i64 0),(.sl true 6 [])]⟩,⟨none,none,.store 6 (.t 16) (.t 142)⟩,⟨some 7,none,.mv (.t 143)⟩] false) (.seq (.ops [⟨some 144,none,.mv (.t 0)⟩,⟨some 145,none,.mv (.t 7)⟩,⟨some 146,none,.call c7 [(.t 144),(.t 145),(.c (.str [59]))]⟩,⟨some 7,none,.mv (.t 146)⟩] false) (.seq (.ops [⟨some 147,none,.load 6 true (.t 6)⟩,⟨some 148,none,.mv (.t 7)⟩,⟨some 149,none,.mv (.t 8)⟩,⟨some 150,none,.load 6 true (.t 16)⟩,⟨some 151,none,.bslice 6 [(.t 150)]⟩,⟨some 152,none,.app 6 72 t1 (.t 149) (.t 151)⟩,⟨some 153,none,.call c4 [(.t 147),(.t 148),(.t 152)]⟩,⟨some 154,none,.mv (.t 7)⟩,⟨none,none,.store 6 (.t 4) (.t 153)⟩,⟨some 5,none,.mv (.t 154)⟩] true) (.ret)))))))))) }
def irR7Expr (c1 c2 c3 t1 : Nat) : IFn := { nt := 55, res := [.cell 4 6 true,.t 5], body := ( .seq (.ops [⟨some 4,none,.alloc t1 [(.int .i64 0),(.int .i64 0),(.int .i64 0),(.str []),(.int .i64 0),(.sl true 6 [])]⟩,⟨some 5,none,.mv (.c (.int .i64 0))⟩] false) (.seq (.ops [⟨some 11,none,.mv (.t 0)⟩,⟨some 12,none,.mv (.t 1)⟩,⟨some 13,none,.call c1 [(.t 11),(.t 12)]⟩,⟨some 10,none,.mv (.t 13)⟩,⟨some 14,none,.ext (.t 10) 0⟩,⟨some 15,none,.ext (.t 10) 1⟩,⟨some 6,none,.alloc t1 [(.int .i64 0),(.int .i64 0),(.int .i64 0),(.str []),(.int .i64 0),(.sl true 6 [])]⟩,⟨none,none,.store 6 (.t 6) (.t 14)⟩,⟨some 7,none,.mv (.t 15)⟩] false) (.seq (.seq (.ops [⟨some 16,none,.mv (.t 0)⟩,⟨some 17,none,.nilCheck (.t 16)⟩,⟨some 18,none,.faddr 1 (.t 17)⟩,⟨some 19,none,.load 1 false (.t 18)⟩,⟨some 20,none,.bin .geq (.t 19) (.c (.int .i64 0))⟩,⟨some 21,none,.mv (.t 20)⟩,⟨some 22,some (21,false),.mv (.t 0)⟩,⟨some 23,some (21,false),.mv (.t 7)⟩,⟨some 24,some (21,false),.call c2 [(.t 22),(.t 23),(.c (.str [60]))]⟩,⟨some 25,some (21,false),.un .not (.t 24)⟩,⟨some 26,some (21,false),.mv (.t 25)⟩,⟨some 27,some (26,true),.mv (.t 0)⟩,⟨some 28,some (26,true),.mv (.t 7)⟩,⟨some 29,some (26,true),.call c2 [(.t 27),(.t 28),(.c (.str [61,61]))]⟩,⟨some 30,some (26,true),.un .not (.t 29)⟩,⟨some 31,some (21,false),.pick (.t 26) (.t 30) (.c (.bool false))⟩,⟨some 32,none,.pick (.t 21) (.c (.bool true)) (.t 31)⟩] false) (.cond (.t 32) (.seq (.ops [⟨some 33,none,.load 6 true (.t 6)⟩,⟨some 34,none,.mv (.t 7)⟩,⟨none,none,.store 6 (.t 4) (.t 33)⟩,⟨some 5,none,.mv (.t 34)⟩] false) (.ret)) (.skip))) (.seq (.ops [⟨some 8,none,.mv (.c (.int .i64 14))⟩] false) (.seq (.seq (.ops [⟨some 35,none,.mv (.t 0)⟩,⟨some 36,none,.mv (.t 7)⟩,⟨some 37,none,.call c2 [(.t 35),(.t 36),(.c (.str [61,61]))]⟩] false) (.cond (.t 37) (.ops [⟨some 8,none,.mv (.c (.int .i64 15))⟩] false) (.skip))) (.seq (.ops [⟨some 39,none,.mv (.t 0)⟩,⟨some 40,none,.mv (.t 7)⟩,⟨some 41,none,.bin .add (.t 40) (.c (.int .i64 1))⟩,⟨some 42,none,.call c1 [(.t 39),(.t 41)]⟩,⟨some 38,none,.mv (.t 42)⟩,⟨some 43,none,.ext (.t 38) 0⟩,⟨some 44,none,.ext (.t 38) 1⟩,⟨some 9,none,.alloc t1 [(.int .i64 0),(.int .i64 0),(.int .i64 0),(.str []),(.int .i64 0),(.sl true 6 [])]⟩,⟨none,none,.store 6 (.t 9) (.t 43)⟩,⟨some 7,none,.mv (.t 44)⟩] false) (.seq (.ops [⟨some 45,none,.mv (.t 8)⟩,⟨some 46,none,.faddr 1 (.t 6)⟩,⟨some 47,none,.load 1 false (.t 46)⟩,⟨some 48,none,.build [(.int .i64 0),(.int .i64 0),(.int .i64 0),(.str []),(.int .i64 0),(.sl true 6 [])] [(0,1,(.t 45)),(1,1,(.t 47))]⟩,⟨some 49,none,.mv (.t 7)⟩,⟨some 50,none,.load 6 true (.t 6)⟩,⟨some 51,none,.load 6 true (.t 9)⟩,⟨some 52,none,.bslice 6 [(.t 50),(.t 51)]⟩,⟨some 53,none,.call c3 [(.t 48),(.t 49),(.t 52)]⟩,⟨some 54,none,.mv (.t 7)⟩,⟨none,none,.store 6 (.t 4) (.t 53)⟩,⟨some 5,none,.mv (.t 54)⟩] false) (.ret)))))))) }
def irR7Sum (c1 c2 c3 t1 : Nat) : IFn := { nt := 54, res := [.cell 4 6 true,.t 5], body := ( .seq (.ops [⟨some 4,none,.alloc t1 [(.int .i64 0),(.int .i64 0),(.int .i64 0),(.str []),(.int .i64 0),(.sl true 6 [])]⟩,⟨some 5,none,.mv (.c (.int .i64 0))⟩] false) (.seq (.ops [⟨some 12,none,.mv (.t 0)⟩,⟨some 13,none,.mv (.t 1)⟩,⟨some 14,none,.call c1 [(.t 12),(.t 13)]⟩,⟨some 11,none,.mv (.t 14)⟩,⟨some 15,none,.ext (.t 11) 0⟩,⟨some 16,none,.ext (.t 11) 1⟩,⟨some 6,none,.alloc t1 [(.int .i64 0),(.int .i64 0),(.int .i64 0),(.str []),(.int .i64 0),(.sl true 6 [])]⟩,⟨none,none,.store 6 (.t 6) (.t 15)⟩,⟨some 7,none,.mv (.t 16)⟩] false) (.seq (.blk 0 (.loop (.seq (.seq (.ops [⟨some 17,none,.mv (.t 0)⟩,⟨some 18,none,.nilCheck (.t 17)⟩,⟨some 19,none,.faddr 1 (.t 18)⟩,⟨some 20,none,.load 1 false (.t 19)⟩,⟨some 21,none,.bin .lss (.t 20) (.c (.int .i64 0))⟩,⟨some 22,none,.mv (.t 21)⟩,⟨some 23,some (22,true),.mv (.t 0)⟩,⟨some 24,some (22,true),.mv (.t 7)⟩,⟨some 25,some (22,true),.call c2 [(.t 23),(.t 24),(.c (.str [43]))]⟩,⟨some 26,some (22,true),.mv (.t 25)⟩,⟨some 27,some (26,false),.mv (.t 0)⟩,⟨some 28,some (26,false),.mv (.t 7)⟩,⟨some 29,some (26,false),.call c2 [(.t 27),(.t 28),(.c (.str [45]))]⟩,⟨some 30,some (22,true),.pick (.t 26) (.c (.bool true)) (.t 29)⟩,⟨some 31,none,.pick (.t 22) (.t 30) (.c (.bool false))⟩] false) (.cond (.t 31) (.skip) (.exit 0))) (.blk 1 (.seq (.ops [⟨some 8,none,.mv (.c (.int .i64 16))⟩] false) (.seq (.seq (.ops [⟨some 32,none,.mv (.t 0)⟩,⟨some 33,none,.mv (.t 7)⟩,⟨some 34,none,.call c2 [(.t 32),(.t 33),(.c (.str [45]))]⟩] false) (.cond (.t 34) (.ops [⟨some 8,none,.mv (.c (.int .i64 17))⟩] false) (.skip))) (.seq (.ops [⟨some 36,none,.mv (.t 0)⟩,⟨some 37,none,.mv (.t 7)⟩,⟨some 38,none,.bin .add (.t 37) (.c (.int .i64 1))⟩,⟨some 39,none,.call c1 [(.t 36),(.t 38)]⟩,⟨some 35,none,.mv (.t 39)⟩,⟨some 40,none,.ext (.t 35) 0⟩,⟨some 41,none,.ext (.t 35) 1⟩,⟨some 9,none,.alloc t1 [(.int .i64 0),(.int .i64 0),(.int .i64 0),(.str []),(.int .i64 0),(.sl true 6 [])]⟩,⟨none,none,.store 6 (.t 9) (.t 40)⟩,⟨some 10,none,.mv (.t 41)⟩] false) (.seq (.ops [⟨some 42,none,.mv (.t 10)⟩,⟨some 7,none,.mv (.t 42)⟩] false) (.ops [⟨some 43,none,.mv (.t 8)⟩,⟨some 44,none,.faddr 1 (.t 6)⟩,⟨some 45,none,.load 1 false (.t 44)⟩,⟨some 46,none,.build [(.int .i64 0),(.int .i64 0),(.int .i64 0),(.str []),(.int .i64 0),(.sl true 6 [])] [(0,1,(.t 43)),(1,1,(.t 45))]⟩,⟨some 47,none,.mv (.t 7)⟩,⟨some 48,none,.load 6 true (.t 6)⟩,⟨some 49,none,.load 6 true (.t 9)⟩,⟨some 50,none,.bslice 6 [(.t 48),(.t 49)]⟩,⟨some 51,none,.call c3 [(.t 46),(.t 47),(.t 50)]⟩,⟨none,none,.store 6 (.t 6) (.t 51)⟩] false))))))))) (.seq (.ops [⟨some 52,none,.load 6 true (.t 6)⟩,⟨some 53,none,.mv (.t 7)⟩,⟨none,none,.store 6 (.t 4) (.t 52)⟩,⟨some 5,none,.mv (.t 53)⟩] false) (.ret))))) }
def irR7Term (c1 c2 c3 t1 : Nat) : IFn := { nt := 44, res := [.cell 4 6 true,.t 5], body := ( .seq (.ops [⟨some 4,none,.alloc t1 [(.int .i64 0),(.int .i64 0),(.int .i64 0),(.str []),(.int .i64 0),(.sl true 6 [])]⟩,⟨some 5,none,.mv (.c (.int .i64 0))⟩] false) (.seq (.ops [⟨some 11,none,.mv (.t 0)⟩,⟨some 12,none,.mv (.t 1)⟩,⟨some 13,none,.call c1 [(.t 11),(.t 12)]⟩,⟨some 10,none,.mv (.t 13)⟩,⟨some 14,none,.ext (.t 10) 0⟩,⟨some 15,none,.ext (.t 10) 1⟩,⟨some 6,none,.alloc t1 [(.int .i64 0),(.int .i64 0),(.int .i64 0),(.str []),(.int .i64 0),(.sl true 6 [])]⟩,⟨none,none,.store 6 (.t 6) (.t 14)⟩,⟨some 7,none,.mv (.t 15)⟩] false) (.seq (.blk 0 (.loop (.seq (.seq (.ops [⟨some 16,none,.mv (.t 0)⟩,⟨some 17,none,.nilCheck (.t 16)⟩,⟨some 18,none,.faddr 1 (.t 17)⟩,⟨some 19,none,.load 1 false (.t 18)⟩,⟨some 20,none,.bin .lss (.t 19) (.c (.int .i64 0))⟩,⟨some 21,none,.mv (.t 20)⟩,⟨some 22,some (21,true),.mv (.t 0)⟩,⟨some 23,some (21,true),.mv (.t 7)⟩,⟨some 24,some (21,true),.call c2 [(.t 22),(.t 23),(.c (.str [42]))]⟩,⟨some 25,none,.pick (.t 21) (.t 24) (.c (.bool false))⟩] false) (.cond (.t 25) (.skip) (.exit 0))) (.blk 1 (.seq (.ops [⟨some 27,none,.mv (.t 0)⟩,⟨some 28,none,.mv (.t 7)⟩,⟨some 29,none,.bin .add (.t 28) (.c (.int .i64 1))⟩,⟨some 30,none,.call c1 [(.t 27),(.t 29)]⟩,⟨some 26,none,.mv (.t 30)⟩,⟨some 31,none,.ext (.t 26) 0⟩,⟨some 32,none,.ext (.t 26) 1⟩,⟨some 8,none,.alloc t1 [(.int .i64 0),(.int .i64 0),(.int .i64 0),(.str []),(.int .i64 0),(.sl true 6 [])]⟩,⟨none,none,.store 6 (.t 8) (.t 31)⟩,⟨some 9,none,.mv (.t 32)⟩] false) (.seq (.ops [⟨some 33,none,.mv (.t 9)⟩,⟨some 7,none,.mv (.t 33)⟩] false) (.ops [⟨some 34,none,.faddr 1 (.t 6)⟩,⟨some 35,none,.load 1 false (.t 34)⟩,⟨some 36,none,.build [(.int .i64 0),(.int .i64 0),(.int .i64 0),(.str []),(.int .i64 0),(.sl true 6 [])] [(0,1,(.c (.int .i64 18))),(1,1,(.t 35))]⟩,⟨some 37,none,.mv (.t 7)⟩,⟨some 38,none,.load 6 true (.t 6)⟩,⟨some 39,none,.load 6 true (.t 8)⟩,⟨some 40,none,.bslice 6 [(.t 38),(.t 39)]⟩,⟨some 41,none,.call c3 [(.t 36),(.t 37),(.t 40)]⟩,⟨none,none,.store 6 (.t 6) (.t 41)⟩] false))))))) (.seq (.ops [⟨some 42,none,.load 6 true (.t 6)⟩,⟨some 43,none,.mv (.t 7)⟩,⟨none,none,.store 6 (.t 4) (.t 42)⟩,⟨some 5,none,.mv (.t 43)⟩] false) (.ret))))) }
def irR7Post (c1 c2 c3 c4 c5 c6 t1 : Nat) : IFn := { nt := 108, res := [.cell 4 6 true,.t 5], body := ( .seq (.ops [⟨some 4,none,.alloc t1 [(.int .i64 0),(.int .i64 0),(.int .i64 0),(.str []),(.int .i64 0),(.sl true 6 [])]⟩,⟨some 5,none,.mv (.c (.int .i64 0))⟩] false) (.seq (.ops [⟨some 14,none,.mv (.t 0)⟩,⟨some 15,none,.mv (.t 1)⟩,⟨some 16,none,.call c1 [(.t 14),(.t 15)]⟩,⟨some 13,none,.mv (.t 16)⟩,⟨some 17,none,.ext (.t 13) 0⟩,⟨some 18,none,.ext (.t 13) 1⟩,⟨some 6,none,.alloc t1 [(.int .i64 0),(.int .i64 0),(.int .i64 0),(.str []),(.int .i64 0),(.sl true 6 [])]⟩,⟨none,none,.store 6 (.t 6) (.t 17)⟩,⟨some 7,none,.mv (.t 18)⟩] false) (.seq (.blk 0 (.loop (.seq (.seq (.ops [⟨some 19,none,.mv (.t 0)⟩,⟨some 20,none,.nilCheck (.t 19)⟩,⟨some 21,none,.faddr 1 (.t 20)⟩,⟨some 22,none,.load 1 false (.t 21)⟩,⟨some 23,none,.bin .lss (.t 22) (.c (.int .i64 0))⟩,⟨some 24,none,.mv (.t 23)⟩,⟨some 25,some (24,true),.mv (.t 0)⟩,⟨some 26,some (24,true),.mv (.t 7)⟩,⟨some 27,some (24,true),.call c2 [(.t 25),(.t 26),(.c (.str [46]))]⟩,⟨some 28,some (24,true),.mv (.t 27)⟩,⟨some 29,some (28,false),.mv (.t 0)⟩,⟨some 30,some (28,false),.mv (.t 7)⟩,⟨some 31,some (28,false),.call c2 [(.t 29),(.t 30),(.c (.str [40]))]⟩,⟨some 32,some (24,true),.pick (.t 28) (.c (.bool true)) (.t 31)⟩,⟨some 33,none,.pick (.t 24) (.t 32) (.c (.bool false))⟩] false) (.cond (.t 33) (.skip) (.exit 0))) (.blk 1 (.seq (.seq (.ops [⟨some 34,none,.mv (.t 0)⟩,⟨some 35,none,.mv (.t 7)⟩,⟨some 36,none,.call c2 [(.t 34),(.t 35),(.c (.str [46]))]⟩] false) (.cond (.t 36) (.seq (.ops [⟨some 38,none,.mv (.t 0)⟩,⟨some 39,none,.faddr 1 (.t 6)⟩,⟨some 40,none,.load 1 false (.t 39)⟩,⟨some 41,none,.build [(.int .i64 0),(.int .i64 0),(.int .i64 0),(.str []),(.int .i64 0),(.sl true 6 [])] [(0,1,(.c (.int .i64 19))),(1,1,(.t 40))]⟩,⟨some 42,none,.mv (.t 7)⟩,⟨some 43,none,.bin .add (.t 42) (.c (.int .i64 1))⟩,⟨some 44,none,.call c3 [(.t 38),(.t 41),(.t 43)]⟩,⟨some 37,none,.mv (.t 44)⟩,⟨some 45,none,.ext (.t 37) 0⟩,⟨some 46,none,.ext (.t 37) 1⟩,⟨some 8,none,.alloc t1 [(.int .i64 0),(.int .i64 0),(.int .i64 0),(.str []),(.int .i64 0),(.sl true 6 [])]⟩,⟨none,none,.store 6 (.t 8) (.t 45)⟩,⟨some 9,none,.mv (.t 46)⟩] false) (.seq (.ops [⟨some 47,none,.mv (.t 9)⟩,⟨some 7,none,.mv (.t 47)⟩] false) (.seq (.ops [⟨some 48,none,.load 6 true (.t 8)⟩,⟨some 49,none,.mv (.t 7)⟩,⟨some 50,none,.load 6 true (.t 6)⟩,⟨some 51,none,.bslice 6 [(.t 50)]⟩,⟨some 52,none,.call c4 [(.t 48),(.t 49),(.t 51)]⟩,⟨none,none,.store 6 (.t 6) (.t 52)⟩] false) (.exit 1)))) (.skip))) (.seq (.ops [⟨some 53,none,.mv (.t 7)⟩,⟨some 54,none,.bin .add (.t 53) (.c (.int .i64 1))⟩,⟨some 7,none,.mv (.t 54)⟩] false) (.seq (.ops [⟨some 55,none,.load 6 true (.t 6)⟩,⟨some 56,none,.bsliceT 6 t1 [(.t 55)]⟩,⟨some 10,none,.mv (.t 56)⟩] false) (.seq (.blk 2 (.loop (.seq (.seq (.ops [⟨some 57,none,.mv (.t 0)⟩,⟨some 58,none,.nilCheck (.t 57)⟩,⟨some 59,none,.faddr 1 (.t 58)⟩,⟨some 60,none,.load 1 false (.t 59)⟩,⟨some 61,none,.bin .lss (.t 60) (.c (.int .i64 0))⟩,⟨some 62,none,.mv (.t 61)⟩,⟨some 63,some (62,true),.mv (.t 10)⟩,⟨some 64,some (62,true),.lenL (.t 63)⟩,⟨some 65,some (62,true),.bin .eql (.t 64) (.c (.int .i64 1))⟩,⟨some 66,some (62,true),.mv (.t 65)⟩,⟨some 67,some (66,true),.mv (.t 0)⟩,⟨some 68,some (66,true),.mv (.t 7)⟩,⟨some 69,some (66,true),.call c2 [(.t 67),(.t 68),(.c (.str [41]))]⟩,⟨some 70,some (62,true),.pick (.t 66) (.t 69) (.c (.bool false))⟩,⟨some 71,some (62,true),.un .not (.t 70)⟩,⟨some 72,none,.pick (.t 62) (.t 71) (.c (.bool false))⟩] false) (.cond (.t 72) (.skip) (.exit 2))) (.blk 3 (.seq (.ops [⟨some 74,none,.mv (.t 0)⟩,⟨some 75,none,.mv (.t 7)⟩,⟨some 76,none,.call c5 [(.t 74),(.t 75)]⟩,⟨some 73,none,.mv (.t 76)⟩,⟨some 77,none,.ext (.t 73) 0⟩,⟨some 78,none,.ext (.t 73) 1⟩,⟨some 11,none,.alloc t1 [(.int .i64 0),(.int .i64 0),(.int .i64 0),(.str []),(.int .i64 0),(.sl true 6 [])]⟩,⟨none,none,.store 6 (.t 11) (.t 77)⟩,⟨some 12,none,.mv (.t 78)⟩] false) (.seq (.ops [⟨some 79,none,.mv (.t 12)⟩,⟨some 7,none,.mv (.t 79)⟩] false) (.seq (.ops [⟨some 80,none,.mv (.t 10)⟩,⟨some 81,none,.load 6 true (.t 11)⟩,⟨some 82,none,.bslice 6 [(.t 81)]⟩,⟨some 83,none,.app 6 72 t1 (.t 80) (.t 82)⟩,⟨some 10,none,.mv (.t 83)⟩] false) (.seq (.seq (.ops [⟨some 84,none,.mv (.t 0)⟩,⟨some 85,none,.nilCheck (.t 84)⟩,⟨some 86,none,.faddr 1 (.t 85)⟩,⟨some 87,none,.load 1 false (.t 86)⟩,⟨some 88,none,.bin .geq (.t 87) (.c (.int .i64 0))⟩,⟨some 89,none,.mv (.t 88)⟩,⟨some 90,some (89,false),.mv (.t 0)⟩,⟨some 91,some (89,false),.mv (.t 7)⟩,⟨some 92,some (89,false),.call c2 [(.t 90),(.t 91),(.c (.str [41]))]⟩,⟨some 93,none,.pick (.t 89) (.c (.bool true)) (.t 92)⟩] false) (.cond (.t 93) (.exit 2) (.skip))) (.ops [⟨some 94,none,.mv (.t 0)⟩,⟨some 95,none,.mv (.t 7)⟩,⟨some 96,none,.call c6 [(.t 94),(.t 95),(.c (.str [44]))]⟩,⟨some 7,none,.mv (.t 96)⟩] false))))))))) (.seq (.ops [⟨some 97,none,.mv (.t 0)⟩,⟨some 98,none,.mv (.t 7)⟩,⟨some 99,none,.call c6 [(.t 97),(.t 98),(.c (.str [41]))]⟩,⟨some 7,none,.mv (.t 99)⟩] false) (.ops [⟨some 100,none,.faddr 1 (.t 6)⟩,⟨some 101,none,.load 1 false (.t 100)⟩,⟨some 102,none,.build [(.int .i64 0),(.int .i64 0),(.int .i64 0),(.str []),(.int .i64 0),(.sl true 6 [])] [(0,1,(.c (.int .i64 20))),(1,1,(.t 101))]⟩,⟨some 103,none,.mv (.t 7)⟩,⟨some 104,none,.mv (.t 10)⟩,⟨some 105,none,.call c4 [(.t 102),(.t 103),(.t 104)]⟩,⟨none,none,.store 6 (.t 6) (.t 105)⟩] false)))))))))) (.seq (.ops [⟨some 106,none,.load 6 true (.t 6)⟩,⟨some 107,none,.mv (.t 7)⟩,⟨none,none,.store 6 (.t 4) (.t 106)⟩,⟨some 5,none,.mv (.t 107)⟩] false) (.ret))))) }
def irR7Atom (c1 c2 c3 c4 c5 c6 t1 t2 : Nat) : IFn := { nt := 172, res := [.cell 4 6 true,.t 5], body := ( .seq (.ops [⟨some 4,none,.alloc t1 [(.int .i64 0),(.int .i64 0),(.int .i64 0),(.str []),(.int .i64 0),(.sl true 6 [])]⟩,⟨some 5,none,.mv (.c (.int .i64 0))⟩] false) (.seq (.ops [⟨some 16,none,.mv (.t 1)⟩,⟨some 6,none,.mv (.t 16)⟩] false) (.seq (.ops [⟨some 17,none,.mv (.t 1)⟩,⟨some 18,none,.mv (.t 1)⟩,⟨some 19,none,.mv (.t 6)⟩,⟨some 20,none,.bin .add (.t 19) (.c (.int .i64 1))⟩,⟨some 21,none,.build [(.int .i64 0),(.int .i64 0),(.int .i64 0),(.str []),(.int .i64 0),(.sl true 6 [])] [(1,1,(.t 17)),(4,1,(.t 18)),(2,1,(.t 20))]⟩,⟨some 7,none,.alloc t1 [(.int .i64 0),(.int .i64 0),(.int .i64 0),(.str []),(.int .i64 0),(.sl true 6 [])]⟩,⟨none,none,.store 6 (.t 7) (.t 21)⟩] false) (.seq (.seq (.ops [⟨some 22,none,.mv (.t 0)⟩,⟨some 23,none,.nilCheck (.t 22)⟩,⟨some 24,none,.faddr 1 (.t 23)⟩,⟨some 25,none,.load 1 false (.t 24)⟩,⟨some 26,none,.bin .geq (.t 25) (.c (.int .i64 0))⟩] false) (.cond (.t 26) (.seq (.ops [⟨some 27,none,.build [(.int .i64 0),(.int .i64 0),(.int .i64 0),(.str []),(.int .i64 0),(.sl true 6 [])] []⟩,⟨some 28,none,.mv (.t 6)⟩,⟨none,none,.store 6 (.t 4) (.t 27)⟩,⟨some 5,none,.mv (.t 28)⟩] false) (.ret)) (.skip))) (.seq (.ops [⟨some 29,none,.mv (.t 0)⟩,⟨some 30,none,.nilCheck (.t 29)⟩,⟨some 31,none,.faddr 0 (.t 30)⟩,⟨some 32,none,.load 1 false (.t 31)⟩,⟨some 33,none,.mv (.t 6)⟩,⟨some 34,none,.iaddr 4 (.t 32) (.t 33)⟩,⟨some 35,none,.load 4 true (.t 34)⟩,⟨some 8,none,.alloc t2 [(.int .i64 0),(.int .i64 0),(.str []),(.str [])]⟩,⟨none,none,.store 4 (.t 8) (.t 35)⟩] false) (.seq (.ops [⟨some 36,none,.faddr 3 (.t 8)⟩,⟨some 37,none,.load 1 false (.t 36)⟩,⟨some 38,none,.faddr 3 (.t 7)⟩,⟨none,none,.store 1 (.t 38) (.t 37)⟩] false) (.seq (.seq (.ops [⟨some 39,none,.faddr 0 (.t 8)⟩,⟨some 40,none,.load 1 false (.t 39)⟩] false) (.blk 0 (.seq (.ops [⟨some 42,none,.bin .eql (.t 40) (.c (.int .i64 3))⟩,⟨some 41,none,.mv (.t 42)⟩] false) (.cond (.t 41) (.seq (.ops [⟨some 43,none,.faddr 0 (.t 7)⟩,⟨none,none,.store 1 (.t 43) (.c (.int .i64 21))⟩] false) (.seq (.ops [⟨some 44,none,.load 6 true (.t 7)⟩,⟨some 45,none,.mv (.t 6)⟩,⟨some 46,none,.bin .add (.t 45) (.c (.int .i64 1))⟩,⟨none,none,.store 6 (.t 4) (.t 44)⟩,⟨some 5,none,.mv (.t 46)⟩] false) (.ret))) (.seq (.ops [⟨some 48,none,.bin .eql (.t 40) (.c (.int .i64 4))⟩,⟨some 47,none,.mv (.t 48)⟩] false) (.cond (.t 47) (.seq (.ops [⟨some 49,none,.faddr 0 (.t 7)⟩,⟨none,none,.store 1 (.t 49) (.c (.int .i64 22))⟩] false) (.seq (.ops [⟨some 50,none,.load 6 true (.t 7)⟩,⟨some 51,none,.mv (.t 6)⟩,⟨some 52,none,.bin .add (.t 51) (.c (.int .i64 1))⟩,⟨none,none,.store 6 (.t 4) (.t 50)⟩,⟨some 5,none,.mv (.t 52)⟩] false) (.ret))) (.seq (.ops [⟨some 54,none,.bin .eql (.t 40) (.c (.int .i64 1))⟩,⟨some 53,none,.mv (.t 54)⟩] false) (.cond (.t 53) (.seq (.ops [⟨some 55,none,.faddr 0 (.t 7)⟩,⟨none,none,.store 1 (.t 55) (.c (.int .i64 23))⟩] false) (.seq (.ops [⟨some 56,none,.load 6 true (.t 7)⟩,⟨some 57,none,.mv (.t 6)⟩,⟨some 58,none,.bin .add (.t 57) (.c (.int .i64 1))⟩,⟨none,none,.store 6 (.t 4) (.t 56)⟩,⟨some 5,none,.mv (.t 58)⟩] false) (.ret))) (.skip))))))))) (.seq (.seq (.ops [⟨some 59,none,.mv (.t 0)⟩,⟨some 60,none,.mv (.t 6)⟩,⟨some 61,none,.call c1 [(.t 59),(.t 60),(.c (.str [105,110,112,117,116]))]⟩] false) (.cond (.t 61) (.seq (.ops [⟨some 62,none,.mv (.t 1)⟩,⟨some 63,none,.mv (.t 6)⟩,⟨some 64,none,.bin .add (.t 63) (.c (.int .i64 1))⟩,⟨some 65,none,.build [(.int .i64 0),(.int .i64 0),(.int .i64 0),(.str []),(.int .i64 0),(.sl true 6 [])] [(0,1,(.c (.int .i64 24))),(1,1,(.t 62)),(2,1,(.t 64))]⟩,⟨some 66,none,.mv (.t 6)⟩,⟨some 67,none,.bin .add (.t 66) (.c (.int .i64 1))⟩,⟨none,none,.store 6 (.t 4) (.t 65)⟩,⟨some 5,none,.mv (.t 67)⟩] false) (.ret)) (.skip))) (.seq (.seq (.ops [⟨some 68,none,.mv (.t 0)⟩,⟨some 69,none,.mv (.t 6)⟩,⟨some 70,none,.call c1 [(.t 68),(.t 69),(.c (.str [40]))]⟩] false) (.cond (.t 70) (.seq (.ops [⟨some 72,none,.mv (.t 0)⟩,⟨some 73,none,.mv (.t 6)⟩,⟨some 74,none,.bin .add (.t 73) (.c (.int .i64 1))⟩,⟨some 75,none,.call c2 [(.t 72),(.t 74)]⟩,⟨some 71,none,.mv (.t 75)⟩,⟨some 76,none,.ext (.t 71) 0⟩,⟨some 77,none,.ext (.t 71) 1⟩,⟨some 9,none,.alloc t1 [(.int .i64 0),(.int .i64 0),(.int .i64 0),(.str []),(.int .i64 0),(.sl true 6 [])]⟩,⟨none,none,.store 6 (.t 9) (.t 76)⟩,⟨some 10,none,.mv (.t 77)⟩] false) (.seq (.ops [⟨some 78,none,.mv (.t 0)⟩,⟨some 79,none,.mv (.t 10)⟩,⟨some 80,none,.call c3 [(.t 78),(.t 79),(.c (.str [41]))]⟩,⟨some 10,none,.mv (.t 80)⟩] false) (.seq (.ops [⟨some 81,none,.mv (.t 1)⟩,⟨some 82,none,.build [(.int .i64 0),(.int .i64 0),(.int .i64 0),(.str []),(.int .i64 0),(.sl true 6 [])] [(0,1,(.c (.int .i64 25))),(1,1,(.t 81))]⟩,⟨some 83,none,.mv (.t 10)⟩,⟨some 84,none,.load 6 true (.t 9)⟩,⟨some 85,none,.bslice 6 [(.t 84)]⟩,⟨some 86,none,.call c4 [(.t 82),(.t 83),(.t 85)]⟩,⟨some 87,none,.mv (.t 10)⟩,⟨none,none,.store 6 (.t 4) (.t 86)⟩,⟨some 5,none,.mv (.t 87)⟩] false) (.ret)))) (.skip))) (.seq (.seq (.ops [⟨some 88,none,.mv (.t 0)⟩,⟨some 89,none,.mv (.t 6)⟩,⟨some 90,none,.call c1 [(.t 88),(.t 89),(.c (.str [123]))]⟩] false) (.cond (.t 90) (.seq (.ops [⟨some 91,none,.mv (.t 6)⟩,⟨some 92,none,.bin .add (.t 91) (.c (.int .i64 1))⟩,⟨some 6,none,.mv (.t 92)⟩] false) (.seq (.ops [⟨some 11,none,.nilT 6 t1⟩] false) (.seq (.blk 1 (.loop (.seq (.seq (.ops [⟨some 93,none,.mv (.t 0)⟩,⟨some 94,none,.nilCheck (.t 93)⟩,⟨some 95,none,.faddr 1 (.t 94)⟩,⟨some 96,none,.load 1 false (.t 95)⟩,⟨some 97,none,.bin .lss (.t 96) (.c (.int .i64 0))⟩,⟨some 98,none,.mv (.t 97)⟩,⟨some 99,some (98,true),.mv (.t 11)⟩,⟨some 100,some (98,true),.lenL (.t 99)⟩,⟨some 101,some (98,true),.bin .eql (.t 100) (.c (.int .i64 0))⟩,⟨some 102,some (98,true),.mv (.t 101)⟩,⟨some 103,some (102,true),.mv (.t 0)⟩,⟨some 104,some (102,true),.mv (.t 6)⟩,⟨some 105,some (102,true),.call c1 [(.t 103),(.t 104),(.c (.str [125]))]⟩,⟨some 106,some (98,true),.pick (.t 102) (.t 105) (.c (.bool false))⟩,⟨some 107,some (98,true),.un .not (.t 106)⟩,⟨some 108,none,.pick (.t 98) (.t 107) (.c (.bool false))⟩] false) (.cond (.t 108) (.skip) (.exit 1))) (.blk 2 (.seq (.ops [⟨some 110,none,.mv (.t 0)⟩,⟨some 111,none,.mv (.t 6)⟩,⟨some 112,none,.build [(.int .i64 0),(.int .i64 0),(.int .i64 0),(.str []),(.int .i64 0),(.sl true 6 [])] [(0,1,(.c (.int .i64 27))),(1,1,(.t 111))]⟩,⟨some 113,none,.mv (.t 6)⟩,⟨some 114,none,.call c5 [(.t 110),(.t 112),(.t 113)]⟩,⟨some 109,none,.mv (.t 114)⟩,⟨some 115,none,.ext (.t 109) 0⟩,⟨some 116,none,.ext (.t 109) 1⟩,⟨some 12,none,.alloc t1 [(.int .i64 0),(.int .i64 0),(.int .i64 0),(.str []),(.int .i64 0),(.sl true 6 [])]⟩,⟨none,none,.store 6 (.t 12) (.t 115)⟩,⟨some 13,none,.mv (.t 116)⟩] false) (.seq (.ops [⟨some 117,none,.mv (.t 0)⟩,⟨some 118,none,.mv (.t 13)⟩,⟨some 119,none,.call c3 [(.t 117),(.t 118),(.c (.str [58]))]⟩,⟨some 13,none,.mv (.t 119)⟩] false) (.seq (.ops [⟨some 121,none,.mv (.t 0)⟩,⟨some 122,none,.mv (.t 13)⟩,⟨some 123,none,.call c2 [(.t 121),(.t 122)]⟩,⟨some 120,none,.mv (.t 123)⟩,⟨some 124,none,.ext (.t 120) 0⟩,⟨some 125,none,.ext (.t 120) 1⟩,⟨some 14,none,.alloc t1 [(.int .i64 0),(.int .i64 0),(.int .i64 0),(.str []),(.int .i64 0),(.sl true 6 [])]⟩,⟨none,none,.store 6 (.t 14) (.t 124)⟩,⟨some 13,none,.mv (.t 125)⟩] false) (.seq (.ops [⟨some 126,none,.mv (.t 13)⟩,⟨some 6,none,.mv (.t 126)⟩] false) (.seq (.ops [⟨some 127,none,.mv (.t 11)⟩,⟨some 128,none,.load 6 true (.t 12)⟩,⟨some 129,none,.mv (.t 6)⟩,⟨some 130,none,.load 6 true (.t 14)⟩,⟨some 131,none,.bslice 6 [(.t 130)]⟩,⟨some 132,none,.call c4 [(.t 128),(.t 129),(.t 131)]⟩,⟨some 133,none,.bslice 6 [(.t 132)]⟩,⟨some 134,none,.app 6 72 t1 (.t 127) (.t 133)⟩,⟨some 11,none,.mv (.t 134)⟩] false) (.seq (.seq (.ops [⟨some 135,none,.mv (.t 0)⟩,⟨some 136,none,.nilCheck (.t 135)⟩,⟨some 137,none,.faddr 1 (.t 136)⟩,⟨some 138,none,.load 1 false (.t 137)⟩,⟨some 139,none,.bin .geq (.t 138) (.c (.int .i64 0))⟩,⟨some 140,none,.mv (.t 139)⟩,⟨some 141,some (140,false),.mv (.t 0)⟩,⟨some 142,some (140,false),.mv (.t 6)⟩,⟨some 143,some (140,false),.call c1 [(.t 141),(.t 142),(.c (.str [125]))]⟩,⟨some 144,none,.pick (.t 140) (.c (.bool true)) (.t 143)⟩] false) (.cond (.t 144) (.exit 1) (.skip))) (.ops [⟨some 145,none,.mv (.t 0)⟩,⟨some 146,none,.mv (.t 6)⟩,⟨some 147,none,.call c3 [(.t 145),(.t 146),(.c (.str [44]))]⟩,⟨some 6,none,.mv (.t 147)⟩] false))))))))))) (.seq (.ops [⟨some 148,none,.mv (.t 0)⟩,⟨some 149,none,.mv (.t 6)⟩,⟨some 150,none,.call c3 [(.t 148),(.t 149),(.c (.str [125]))]⟩,⟨some 6,none,.mv (.t 150)⟩] false) (.seq (.ops [⟨some 151,none,.mv (.t 1)⟩,⟨some 152,none,.build [(.int .i64 0),(.int .i64 0),(.int .i64 0),(.str []),(.int .i64 0),(.sl true 6 [])] [(0,1,(.c (.int .i64 26))),(1,1,(.t 151))]⟩,⟨some 153,none,.mv (.t 6)⟩,⟨some 154,none,.mv (.t 11)⟩,⟨some 155,none,.call c4 [(.t 152),(.t 153),(.t 154)]⟩,⟨some 156,none,.mv (.t 6)⟩,⟨none,none,.store 6 (.t 4) (.t 155)⟩,⟨some 5,none,.mv (.t 156)⟩] false) (.ret)))))) (.skip))) (.seq (.ops [⟨some 157,none,.mv (.t 0)⟩,⟨some 158,none,.mv (.t 6)⟩,⟨some 159,none,.call c3 [(.t 157),(.t 158),(.c (.str [102,110]))]⟩,⟨some 6,none,.mv (.t 159)⟩] false) (.seq (.ops [⟨some 161,none,.mv (.t 0)⟩,⟨some 162,none,.mv (.t 6)⟩,⟨some 163,none,.call c6 [(.t 161),(.t 162)]⟩,⟨some 160,none,.mv (.t 163)⟩,⟨some 164,none,.ext (.t 160) 0⟩,⟨some 165,none,.ext (.t 160) 1⟩,⟨some 15,none,.mv (.t 164)⟩,⟨some 6,none,.mv (.t 165)⟩] false) (.seq (.ops [⟨some 166,none,.mv (.t 1)⟩,⟨some 167,none,.build [(.int .i64 0),(.int .i64 0),(.int .i64 0),(.str []),(.int .i64 0),(.sl true 6 [])] [(0,1,(.c (.int .i64 28))),(1,1,(.t 166))]⟩,⟨some 168,none,.mv (.t 6)⟩,⟨some 169,none,.mv (.t 15)⟩,⟨some 170,none,.call c4 [(.t 167),(.t 168),(.t 169)]⟩,⟨some 171,none,.mv (.t 6)⟩,⟨none,none,.store 6 (.t 4) (.t 170)⟩,⟨some 5,none,.mv (.t 171)⟩] false) (.ret)))))))))))))) }
def irR4Lex (c1 c2 c3 t1 : Nat) : IFn := { nt := 69, res := [.t 2,.t 3,.t 4], body := ( .seq (.ops [⟨some 2,none,.mv (.c (.sl true 4 []))⟩,⟨some 3,none,.mv (.c (.int .i64 0))⟩,⟨some 4,none,.mv (.c (.int .i64 0))⟩] false) (.seq (.seq (.ops [⟨some 14,none,.mv (.t 0)⟩,⟨some 15,none,.lenS (.t 14)⟩,⟨some 16,none,.bin .gtr (.t 15) (.c (.int .i64 16384))⟩] false) (.cond (.t 16) (.seq (.ops [⟨some 2,none,.mv (.c (.sl true 4 []))⟩,⟨some 3,none,.mv (.c (.int .i64 5))⟩,⟨some 4,none,.mv (.c (.int .i64 16384))⟩] false) (.ret)) (.skip))) (.seq (.ops [⟨some 17,none,.mv (.t 0)⟩,⟨some 18,none,.call c1 [(.t 17)]⟩,⟨some 5,none,.mv (.t 18)⟩] false) (.seq (.seq (.ops [⟨some 19,none,.mv (.t 5)⟩,⟨some 20,none,.bin .geq (.t 19) (.c (.int .i64 0))⟩] false) (.cond (.t 20) (.seq (.ops [⟨some 21,none,.mv (.t 5)⟩,⟨some 2,none,.mv (.c (.sl true 4 []))⟩,⟨some 3,none,.mv (.c (.int .i64 20))⟩,⟨some 4,none,.mv (.t 21)⟩] false) (.ret)) (.skip))) (.seq (.ops [⟨some 6,none,.nilT 4 t1⟩] false) (.seq (.ops [⟨some 7,none,.mv (.c (.int .i64 0))⟩] false) (.blk 0 (.loop (.blk 1 (.seq (.ops [⟨some 22,none,.mv (.t 7)⟩,⟨some 8,none,.mv (.t 22)⟩] false) (.seq (.ops [⟨some 23,none,.mv (.t 0)⟩,⟨some 24,none,.mv (.t 7)⟩,⟨some 25,none,.call c2 [(.t 23),(.t 24)]⟩,⟨some 7,none,.mv (.t 25)⟩] false) (.seq (.ops [⟨some 26,none,.mv (.t 7)⟩,⟨some 27,none,.mv (.t 0)⟩,⟨some 28,none,.mv (.t 8)⟩,⟨some 29,none,.mv (.t 7)⟩,⟨some 30,none,.sslice (.t 27) (some (.t 28)) (some (.t 29))⟩,⟨some 31,none,.build [(.int .i64 0),(.int .i64 0),(.str []),(.str [])] [(1,1,(.t 26)),(2,1,(.t 30))]⟩,⟨some 9,none,.alloc t1 [(.int .i64 0),(.int .i64 0),(.str []),(.str [])]⟩,⟨none,none,.store 4 (.t 9) (.t 31)⟩] false) (.seq (.ops [⟨some 32,none,.mv (.t 7)⟩,⟨some 10,none,.mv (.t 32)⟩] false) (.seq (.seq (.ops [⟨some 33,none,.mv (.t 7)⟩,⟨some 34,none,.mv (.t 0)⟩,⟨some 35,none,.lenS (.t 34)⟩,⟨some 36,none,.bin .lss (.t 33) (.t 35)⟩] false) (.cond (.t 36) (.seq (.ops [⟨some 38,none,.mv (.t 0)⟩,⟨some 39,none,.mv (.t 7)⟩,⟨some 40,none,.call c3 [(.t 38),(.t 39)]⟩,⟨some 37,none,.mv (.t 40)⟩,⟨some 41,none,.ext (.t 37) 0⟩,⟨some 42,none,.ext (.t 37) 1⟩,⟨some 43,none,.ext (.t 37) 2⟩,⟨some 11,none,.mv (.t 41)⟩,⟨some 12,none,.mv (.t 42)⟩,⟨some 13,none,.mv (.t 43)⟩] false) (.seq (.seq (.ops [⟨some 44,none,.mv (.t 13)⟩,⟨some 45,none,.bin .neq (.t 44) (.c (.int .i64 0))⟩] false) (.cond (.t 45) (.seq (.ops [⟨some 46,none,.mv (.t 13)⟩,⟨some 47,none,.mv (.t 7)⟩,⟨some 2,none,.mv (.c (.sl true 4 []))⟩,⟨some 3,none,.mv (.t 46)⟩,⟨some 4,none,.mv (.t 47)⟩] false) (.ret)) (.skip))) (.seq (.ops [⟨some 48,none,.mv (.t 11)⟩,⟨some 49,none,.faddr 0 (.t 9)⟩,⟨none,none,.store 1 (.t 49) (.t 48)⟩] false) (.ops [⟨some 50,none,.mv (.t 12)⟩,⟨some 10,none,.mv (.t 50)⟩] false)))) (.skip))) (.seq (.seq (.ops [⟨some 51,none,.mv (.t 6)⟩,⟨some 52,none,.lenL (.t 51)⟩,⟨some 53,none,.bin .geq (.t 52) (.c (.int .i64 4000))⟩] false) (.cond (.t 53) (.seq (.ops [⟨some 54,none,.mv (.t 7)⟩,⟨some 2,none,.mv (.c (.sl true 4 []))⟩,⟨some 3,none,.mv (.c (.int .i64 5))⟩,⟨some 4,none,.mv (.t 54)⟩] false) (.ret)) (.skip))) (.seq (.ops [⟨some 55,none,.mv (.t 0)⟩,⟨some 56,none,.mv (.t 7)⟩,⟨some 57,none,.mv (.t 10)⟩,⟨some 58,none,.sslice (.t 55) (some (.t 56)) (some (.t 57))⟩,⟨some 59,none,.faddr 3 (.t 9)⟩,⟨none,none,.store 1 (.t 59) (.t 58)⟩] false) (.seq (.ops [⟨some 60,none,.mv (.t 10)⟩,⟨some 7,none,.mv (.t 60)⟩] false) (.seq (.ops [⟨some 61,none,.mv (.t 6)⟩,⟨some 62,none,.load 4 true (.t 9)⟩,⟨some 63,none,.bslice 4 [(.t 62)]⟩,⟨some 64,none,.app 4 48 t1 (.t 61) (.t 63)⟩,⟨some 6,none,.mv (.t 64)⟩] false) (.seq (.ops [⟨some 65,none,.faddr 0 (.t 9)⟩,⟨some 66,none,.load 1 false (.t 65)⟩,⟨some 67,none,.bin .eql (.t 66) (.c (.int .i64 0))⟩] false) (.cond (.t 67) (.seq (.ops [⟨some 68,none,.mv (.t 6)⟩,⟨some 2,none,.mv (.t 68)⟩,⟨some 3,none,.mv (.c (.int .i64 0))⟩,⟨some 4,none,.mv (.c (.int .i64 0))⟩] false) (.ret)) (.skip))))))))))))))))))))) }
def irR4Lead : IFn := { nt := 51, res := [.t 4], body := ( .seq (.ops [⟨some 4,none,.mv (.c (.int .i64 0))⟩] false) (.seq (.blk 0 (.loop (.seq (.seq (.ops [⟨some 5,none,.mv (.t 1)⟩,⟨some 6,none,.mv (.t 0)⟩,⟨some 7,none,.lenS (.t 6)⟩,⟨some 8,none,.bin .lss (.t 5) (.t 7)⟩] false) (.cond (.t 8) (.skip) (.exit 0))) (.blk 1 (.seq (.seq (.ops [⟨some 9,none,.mv (.t 0)⟩,⟨some 10,none,.mv (.t 1)⟩,⟨some 11,none,.sidx (.t 9) (.t 10)⟩,⟨some 12,none,.bin .eql (.t 11) (.c (.int .u8 32))⟩,⟨some 13,none,.mv (.t 12)⟩,⟨some 14,some (13,false),.mv (.t 0)⟩,⟨some 15,some (13,false),.mv (.t 1)⟩,⟨some 16,some (13,false),.sidx (.t 14) (.t 15)⟩,⟨some 17,some (13,false),.bin .eql (.t 16) (.c (.int .u8 9))⟩,⟨some 18,none,.pick (.t 13) (.c (.bool true)) (.t 17)⟩,⟨some 19,none,.mv (.t 18)⟩,⟨some 20,some (19,false),.mv (.t 0)⟩,⟨some 21,some (19,false),.mv (.t 1)⟩,⟨some 22,some (19,false),.sidx (.t 20) (.t 21)⟩,⟨some 23,some (19,false),.bin .eql (.t 22) (.c (.int .u8 10))⟩,⟨some 24,none,.pick (.t 19) (.c (.bool true)) (.t 23)⟩,⟨some 25,none,.mv (.t 24)⟩,⟨some 26,some (25,false),.mv (.t 0)⟩,⟨some 27,some (25,false),.mv (.t 1)⟩,⟨some 28,some (25,false),.sidx (.t 26) (.t 27)⟩,⟨some 29,some (25,false),.bin .eql (.t 28) (.c (.int .u8 13))⟩,⟨some 30,none,.pick (.t 25) (.c (.bool true)) (.t 29)⟩] false) (.cond (.t 30) (.seq (.ops [⟨some 31,none,.mv (.t 1)⟩,⟨some 32,none,.bin .add (.t 31) (.c (.int .i64 1))⟩,⟨some 1,none,.mv (.t 32)⟩] false) (.exit 1)) (.skip))) (.seq (.seq (.ops [⟨some 33,none,.mv (.t 0)⟩,⟨some 34,none,.mv (.t 1)⟩,⟨some 35,none,.sidx (.t 33) (.t 34)⟩,⟨some 36,none,.bin .neq (.t 35) (.c (.int .u8 35))⟩] false) (.cond (.t 36) (.seq (.ops [⟨some 37,none,.mv (.t 1)⟩,⟨some 4,none,.mv (.t 37)⟩] false) (.ret)) (.skip))) (.blk 2 (.loop (.seq (.seq (.ops [⟨some 38,none,.mv (.t 1)⟩,⟨some 39,none,.mv (.t 0)⟩,⟨some 40,none,.lenS (.t 39)⟩,⟨some 41,none,.bin .lss (.t 38) (.t 40)⟩,⟨some 42,none,.mv (.t 41)⟩,⟨some 43,some (42,true),.mv (.t 0)⟩,⟨some 44,some (42,true),.mv (.t 1)⟩,⟨some 45,some (42,true),.sidx (.t 43) (.t 44)⟩,⟨some 46,some (42,true),.bin .neq (.t 45) (.c (.int .u8 10))⟩,⟨some 47,none,.pick (.t 42) (.t 46) (.c (.bool false))⟩] false) (.cond (.t 47) (.skip) (.exit 2))) (.blk 3 (.ops [⟨some 48,none,.mv (.t 1)⟩,⟨some 49,none,.bin .add (.t 48) (.c (.int .i64 1))⟩,⟨some 1,none,.mv (.t 49)⟩] false))))))))))) (.seq (.ops [⟨some 50,none,.mv (.t 1)⟩,⟨some 4,none,.mv (.t 50)⟩] false) (.ret)))) }
def irR4One (c1 c2 c3 c4 : Nat) : IFn := { nt := 170, res := [.t 4,.t 5,.t 6], body := ( .seq (.ops [⟨some 4,none,.mv (.c (.int .i64 0))⟩,⟨some 5,none,.mv (.c (.int .i64 0))⟩,⟨some 6,none,.mv (.c (.int .i64 0))⟩] false) (.seq (.ops [⟨some 16,none,.mv (.t 1)⟩,⟨some 17,none,.bin .add (.t 16) (.c (.int .i64 1))⟩,⟨some 7,none,.mv (.t 17)⟩] false) (.seq (.seq (.ops [⟨some 18,none,.mv (.t 0)⟩,⟨some 19,none,.mv (.t 1)⟩,⟨some 20,none,.sidx (.t 18) (.t 19)⟩,⟨some 21,none,.call c1 [(.t 20)]⟩,⟨some 22,none,.mv (.t 21)⟩,⟨some 23,some (22,false),.mv (.t 0)⟩,⟨some 24,some (22,false),.mv (.t 1)⟩,⟨some 25,some (22,false),.sidx (.t 23) (.t 24)⟩,⟨some 26,some (22,false),.call c2 [(.t 25)]⟩,⟨some 27,none,.pick (.t 22) (.c (.bool true)) (.t 26)⟩] false) (.cond (.t 27) (.seq (.blk 0 (.loop (.seq (.seq (.ops [⟨some 28,none,.mv (.t 7)⟩,⟨some 29,none,.mv (.t 0)⟩,⟨some 30,none,.lenS (.t 29)⟩,⟨some 31,none,.bin .lss (.t 28) (.t 30)⟩,⟨some 32,none,.mv (.t 31)⟩,⟨some 33,some (32,true),.mv (.t 0)⟩,⟨some 34,some (32,true),.mv (.t 7)⟩,⟨some 35,some (32,true),.sidx (.t 33) (.t 34)⟩,⟨some 36,some (32,true),.call c1 [(.t 35)]⟩,⟨some 37,some (32,true),.mv (.t 36)⟩,⟨some 38,some (37,false),.mv (.t 0)⟩,⟨some 39,some (37,false),.mv (.t 7)⟩,⟨some 40,some (37,false),.sidx (.t 38) (.t 39)⟩,⟨some 41,some (37,false),.call c2 [(.t 40)]⟩,⟨some 42,some (32,true),.pick (.t 37) (.c (.bool true)) (.t 41)⟩,⟨some 43,none,.pick (.t 32) (.t 42) (.c (.bool false))⟩] false) (.cond (.t 43) (.skip) (.exit 0))) (.blk 1 (.ops [⟨some 44,none,.mv (.t 7)⟩,⟨some 45,none,.bin .add (.t 44) (.c (.int .i64 1))⟩,⟨some 7,none,.mv (.t 45)⟩] false))))) (.seq (.ops [⟨some 46,none,.mv (.t 0)⟩,⟨some 47,none,.mv (.t 1)⟩,⟨some 48,none,.mv (.t 7)⟩,⟨some 49,none,.sslice (.t 46) (some (.t 47)) (some (.t 48))⟩,⟨some 8,none,.mv (.t 49)⟩] false) (.seq (.seq (.ops [⟨some 50,none,.mv (.t 8)⟩,⟨some 51,none,.call c3 [(.t 50)]⟩] false) (.cond (.t 51) (.seq (.ops [⟨some 52,none,.mv (.t 7)⟩,⟨some 4,none,.mv (.c (.int .i64 2))⟩,⟨some 5,none,.mv (.t 52)⟩,⟨some 6,none,.mv (.c (.int .i64 0))⟩] false) (.ret)) (.skip))) (.seq (.seq (.ops [⟨some 53,none,.mv (.t 0)⟩,⟨some 54,none,.mv (.t 1)⟩,⟨some 55,none,.sidx (.t 53) (.t 54)⟩,⟨some 56,none,.call c1 [(.t 55)]⟩] false) (.cond (.t 56) (.seq (.seq (.ops [⟨some 57,none,.mv (.t 8)⟩,⟨some 58,none,.lenS (.t 57)⟩,⟨some 59,none,.bin .gtr (.t 58) (.c (.int .i64 40))⟩] false) (.cond (.t 59) (.seq (.ops [⟨some 4,none,.mv (.c (.int .i64 0))⟩,⟨some 5,none,.mv (.c (.int .i64 0))⟩,⟨some 6,none,.mv (.c (.int .i64 26))⟩] false) (.ret)) (.skip))) (.seq (.ops [⟨some 60,none,.mv (.t 7)⟩,⟨some 4,none,.mv (.c (.int .i64 1))⟩,⟨some 5,none,.mv (.t 60)⟩,⟨some 6,none,.mv (.c (.int .i64 0))⟩] false) (.ret))) (.skip))) (.seq (.ops [⟨some 9,none,.mv (.c (.int .u64 0))⟩] false) (.seq (.seq (.ops [⟨some 10,none,.mv (.c (.int .i64 0))⟩] false) (.blk 2 (.loop (.seq (.seq (.ops [⟨some 61,none,.mv (.t 10)⟩,⟨some 62,none,.mv (.t 8)⟩,⟨some 63,none,.lenS (.t 62)⟩,⟨some 64,none,.bin .lss (.t 61) (.t 63)⟩] false) (.cond (.t 64) (.skip) (.exit 2))) (.seq (.blk 3 (.seq (.seq (.ops [⟨some 67,none,.mv (.t 8)⟩,⟨some 68,none,.mv (.t 10)⟩,⟨some 69,none,.sidx (.t 67) (.t 68)⟩,⟨some 70,none,.call c2 [(.t 69)]⟩,⟨some 71,none,.un .not (.t 70)⟩] false) (.cond (.t 71) (.seq (.ops [⟨some 4,none,.mv (.c (.int .i64 0))⟩,⟨some 5,none,.mv (.c (.int .i64 0))⟩,⟨some 6,none,.mv (.c (.int .i64 23))⟩] false) (.ret)) (.skip))) (.seq (.ops [⟨some 72,none,.mv (.t 8)⟩,⟨some 73,none,.mv (.t 10)⟩,⟨some 74,none,.sidx (.t 72) (.t 73)⟩,⟨some 75,none,.bin .sub (.t 74) (.c (.int .u8 48))⟩,⟨some 76,none,.cvt .u64 (.t 75)⟩,⟨some 11,none,.mv (.t 76)⟩] false) (.seq (.seq (.ops [⟨some 77,none,.mv (.t 9)⟩,⟨some 78,none,.mv (.t 11)⟩,⟨some 79,none,.bin .sub (.c (.int .u64 9223372036854775807)) (.t 78)⟩,⟨some 80,none,.bin .quo (.t 79) (.c (.int .u64 10))⟩,⟨some 81,none,.bin .gtr (.t 77) (.t 80)⟩] false) (.cond (.t 81) (.seq (.ops [⟨some 4,none,.mv (.c (.int .i64 0))⟩,⟨some 5,none,.mv (.c (.int .i64 0))⟩,⟨some 6,none,.mv (.c (.int .i64 23))⟩] false) (.ret)) (.skip))) (.ops [⟨some 82,none,.mv (.t 9)⟩,⟨some 83,none,.bin .mul (.t 82) (.c (.int .u64 10))⟩,⟨some 84,none,.mv (.t 11)⟩,⟨some 85,none,.bin .add (.t 83) (.t 84)⟩,⟨some 9,none,.mv (.t 85)⟩] false))))) (.ops [⟨some 65,none,.mv (.t 10)⟩,⟨some 66,none,.bin .add (.t 65) (.c (.int .i64 1))⟩,⟨some 10,none,.mv (.t 66)⟩] false)))))) (.seq (.ops [⟨some 86,none,.mv (.t 7)⟩,⟨some 4,none,.mv (.c (.int .i64 3))⟩,⟨some 5,none,.mv (.t 86)⟩,⟨some 6,none,.mv (.c (.int .i64 0))⟩] false) (.ret)))))))) (.skip))) (.seq (.seq (.ops [⟨some 87,none,.mv (.t 0)⟩,⟨some 88,none,.mv (.t 1)⟩,⟨some 89,none,.sidx (.t 87) (.t 88)⟩,⟨some 90,none,.bin .eql (.t 89) (.c (.int .u8 34))⟩] false) (.cond (.t 90) (.seq (.blk 4 (.loop (.seq (.seq (.ops [⟨some 91,none,.mv (.t 7)⟩,⟨some 92,none,.mv (.t 0)⟩,⟨some 93,none,.lenS (.t 92)⟩,⟨some 94,none,.bin .lss (.t 91) (.t 93)⟩,⟨some 95,none,.mv (.t 94)⟩,⟨some 96,some (95,true),.mv (.t 0)⟩,⟨some 97,some (95,true),.mv (.t 7)⟩,⟨some 98,some (95,true),.sidx (.t 96) (.t 97)⟩,⟨some 99,some (95,true),.bin .neq (.t 98) (.c (.int .u8 34))⟩,⟨some 100,none,.pick (.t 95) (.t 99) (.c (.bool false))⟩,⟨some 101,none,.mv (.t 100)⟩,⟨some 102,some (101,true),.mv (.t 0)⟩,⟨some 103,some (101,true),.mv (.t 7)⟩,⟨some 104,some (101,true),.sidx (.t 102) (.t 103)⟩,⟨some 105,some (101,true),.bin .neq (.t 104) (.c (.int .u8 10))⟩,⟨some 106,none,.pick (.t 101) (.t 105) (.c (.bool false))⟩] false) (.cond (.t 106) (.skip) (.exit 4))) (.blk 5 (.seq (.seq (.ops [⟨some 107,none,.mv (.t 0)⟩,⟨some 108,none,.mv (.t 7)⟩,⟨some 109,none,.sidx (.t 107) (.t 108)⟩,⟨some 110,none,.bin .eql (.t 109) (.c (.int .u8 92))⟩] false) (.cond (.t 110) (.ops [⟨some 111,none,.mv (.t 7)⟩,⟨some 112,none,.bin .add (.t 111) (.c (.int .i64 1))⟩,⟨some 7,none,.mv (.t 112)⟩] false) (.skip))) (.ops [⟨some 113,none,.mv (.t 7)⟩,⟨some 114,none,.bin .add (.t 113) (.c (.int .i64 1))⟩,⟨some 7,none,.mv (.t 114)⟩] false)))))) (.seq (.seq (.ops [⟨some 115,none,.mv (.t 7)⟩,⟨some 116,none,.mv (.t 0)⟩,⟨some 117,none,.lenS (.t 116)⟩,⟨some 118,none,.bin .geq (.t 115) (.t 117)⟩,⟨some 119,none,.mv (.t 118)⟩,⟨some 120,some (119,false),.mv (.t 0)⟩,⟨some 121,some (119,false),.mv (.t 7)⟩,⟨some 122,some (119,false),.sidx (.t 120) (.t 121)⟩,⟨some 123,some (119,false),.bin .eql (.t 122) (.c (.int .u8 10))⟩,⟨some 124,none,.pick (.t 119) (.c (.bool true)) (.t 123)⟩] false) (.cond (.t 124) (.seq (.ops [⟨some 4,none,.mv (.c (.int .i64 0))⟩,⟨some 5,none,.mv (.c (.int .i64 0))⟩,⟨some 6,none,.mv (.c (.int .i64 22))⟩] false) (.ret)) (.skip))) (.seq (.ops [⟨some 126,none,.mv (.t 0)⟩,⟨some 127,none,.mv (.t 1)⟩,⟨some 128,none,.mv (.t 7)⟩,⟨some 129,none,.bin .add (.t 128) (.c (.int .i64 1))⟩,⟨some 130,none,.sslice (.t 126) (some (.t 127)) (some (.t 129))⟩,⟨some 131,none,.call c4 [(.t 130)]⟩,⟨some 125,none,.mv (.t 131)⟩,⟨some 132,none,.ext (.t 125) 0⟩,⟨some 133,none,.ext (.t 125) 1⟩,⟨some 12,none,.mv (.t 132)⟩,⟨some 13,none,.mv (.t 133)⟩] false) (.seq (.seq (.ops [⟨some 134,none,.mv (.t 13)⟩,⟨some 135,none,.bin .neq (.t 134) (.c (.int .i64 0))⟩] false) (.cond (.t 135) (.seq (.ops [⟨some 4,none,.mv (.c (.int .i64 0))⟩,⟨some 5,none,.mv (.c (.int .i64 0))⟩,⟨some 6,none,.mv (.c (.int .i64 22))⟩] false) (.ret)) (.skip))) (.seq (.ops [⟨some 136,none,.mv (.t 7)⟩,⟨some 137,none,.bin .add (.t 136) (.c (.int .i64 1))⟩,⟨some 4,none,.mv (.c (.int .i64 4))⟩,⟨some 5,none,.mv (.t 137)⟩,⟨some 6,none,.mv (.c (.int .i64 0))⟩] false) (.ret)))))) (.skip))) (.seq (.seq (.ops [⟨some 138,none,.mv (.t 7)⟩,⟨some 139,none,.mv (.t 0)⟩,⟨some 140,none,.lenS (.t 139)⟩,⟨some 141,none,.bin .lss (.t 138) (.t 140)⟩,⟨some 142,none,.mv (.t 141)⟩,⟨some 143,some (142,true),.mv (.t 0)⟩,⟨some 144,some (142,true),.mv (.t 1)⟩,⟨some 145,some (142,true),.sidx (.t 143) (.t 144)⟩,⟨some 146,some (142,true),.bin .eql (.t 145) (.c (.int .u8 61))⟩,⟨some 147,none,.pick (.t 142) (.t 146) (.c (.bool false))⟩,⟨some 148,none,.mv (.t 147)⟩,⟨some 149,some (148,true),.mv (.t 0)⟩,⟨some 150,some (148,true),.mv (.t 7)⟩,⟨some 151,some (148,true),.sidx (.t 149) (.t 150)⟩,⟨some 152,some (148,true),.bin .eql (.t 151) (.c (.int .u8 61))⟩,⟨some 153,none,.pick (.t 148) (.t 152) (.c (.bool false))⟩] false) (.cond (.t 153) (.seq (.ops [⟨some 154,none,.mv (.t 7)⟩,⟨some 155,none,.bin .add (.t 154) (.c (.int .i64 1))⟩,⟨some 4,none,.mv (.c (.int .i64 5))⟩,⟨some 5,none,.mv (.t 155)⟩,⟨some 6,none,.mv (.c (.int .i64 0))⟩] false) (.ret)) (.skip))) (.seq (.ops [⟨some 14,none,.mv (.c (.str [40,41,123,125,44,59,58,46,61,43,45,42,60]))⟩] false) (.seq (.seq (.ops [⟨some 15,none,.mv (.c (.int .i64 0))⟩] false) (.blk 6 (.loop (.seq (.seq (.ops [⟨some 156,none,.mv (.t 15)⟩,⟨some 157,none,.mv (.t 14)⟩,⟨some 158,none,.lenS (.t 157)⟩,⟨some 159,none,.bin .lss (.t 156) (.t 158)⟩] false) (.cond (.t 159) (.skip) (.exit 6))) (.seq (.blk 7 (.seq (.ops [⟨some 162,none,.mv (.t 14)⟩,⟨some 163,none,.mv (.t 15)⟩,⟨some 164,none,.sidx (.t 162) (.t 163)⟩,⟨some 165,none,.mv (.t 0)⟩,⟨some 166,none,.mv (.t 1)⟩,⟨some 167,none,.sidx (.t 165) (.t 166)⟩,⟨some 168,none,.bin .eql (.t 164) (.t 167)⟩] true) (.cond (.t 168) (.seq (.ops [⟨some 169,none,.mv (.t 7)⟩,⟨some 4,none,.mv (.c (.int .i64 5))⟩,⟨some 5,none,.mv (.t 169)⟩,⟨some 6,none,.mv (.c (.int .i64 0))⟩] false) (.ret)) (.skip)))) (.ops [⟨some 160,none,.mv (.t 15)⟩,⟨some 161,none,.bin .add (.t 160) (.c (.int .i64 1))⟩,⟨some 15,none,.mv (.t 161)⟩] false)))))) (.seq (.ops [⟨some 4,none,.mv (.c (.int .i64 0))⟩,⟨some 5,none,.mv (.c (.int .i64 0))⟩,⟨some 6,none,.mv (.c (.int .i64 21))⟩] false) (.ret))))))))) }
def irR3Bad (c1 : Nat) : IFn := { nt := 24, res := [.t 2], body := ( .seq (.ops [⟨some 2,none,.mv (.c (.int .i64 0))⟩] false) (.seq (.seq (.ops [⟨some 3,none,.mv (.c (.int .i64 0))⟩] false) (.blk 0 (.loop (.seq (.seq (.ops [⟨some 7,none,.mv (.t 3)⟩,⟨some 8,none,.mv (.t 0)⟩,⟨some 9,none,.lenS (.t 8)⟩,⟨some 10,none,.bin .lss (.t 7) (.t 9)⟩] false) (.cond (.t 10) (.skip) (.exit 0))) (.blk 1 (.seq (.ops [⟨some 12,none,.mv (.t 0)⟩,⟨some 13,none,.mv (.t 3)⟩,⟨some 14,none,.call c1 [(.t 12),(.t 13)]⟩,⟨some 11,none,.mv (.t 14)⟩,⟨some 15,none,.ext (.t 11) 0⟩,⟨some 16,none,.ext (.t 11) 1⟩,⟨some 17,none,.ext (.t 11) 2⟩,⟨some 4,none,.mv (.t 15)⟩,⟨some 5,none,.mv (.t 16)⟩,⟨some 6,none,.mv (.t 17)⟩] false) (.seq (.seq (.ops [⟨some 18,none,.mv (.t 6)⟩,⟨some 19,none,.un .not (.t 18)⟩] false) (.cond (.t 19) (.seq (.ops [⟨some 20,none,.mv (.t 3)⟩,⟨some 2,none,.mv (.t 20)⟩] false) (.ret)) (.skip))) (.ops [⟨some 21,none,.mv (.t 3)⟩,⟨some 22,none,.mv (.t 5)⟩,⟨some 23,none,.bin .add (.t 21) (.t 22)⟩,⟨some 3,none,.mv (.t 23)⟩] false)))))))) (.seq (.ops [⟨some 2,none,.mv (.c (.int .i64 (-1)))⟩] false) (.ret)))) }
def irR3Next (c1 : Nat) : IFn := { nt := 92, res := [.t 4,.t 5,.t 6], body := ( .seq (.ops [⟨some 4,none,.mv (.c (.int .i64 0))⟩,⟨some 5,none,.mv (.c (.int .i64 0))⟩,⟨some 6,none,.mv (.c (.bool false))⟩] false) (.seq (.ops [⟨some 12,none,.mv (.t 0)⟩,⟨some 13,none,.mv (.t 1)⟩,⟨some 14,none,.sidx (.t 12) (.t 13)⟩,⟨some 15,none,.cvt .i64 (.t 14)⟩,⟨some 7,none,.mv (.t 15)⟩] false) (.seq (.seq (.ops [⟨some 16,none,.mv (.t 7)⟩,⟨some 17,none,.bin .lss (.t 16) (.c (.int .i64 128))⟩] false) (.cond (.t 17) (.seq (.ops [⟨some 18,none,.mv (.t 7)⟩,⟨some 4,none,.mv (.t 18)⟩,⟨some 5,none,.mv (.c (.int .i64 1))⟩,⟨some 6,none,.mv (.c (.bool true))⟩] false) (.ret)) (.skip))) (.seq (.ops [⟨some 8,none,.mv (.c (.int .i64 0))⟩,⟨some 9,none,.mv (.c (.int .i64 0))⟩,⟨some 10,none,.mv (.c (.int .i64 0))⟩] false) (.seq (.seq (.ops [⟨some 19,none,.mv (.t 7)⟩,⟨some 20,none,.bin .geq (.t 19) (.c (.int .i64 192))⟩,⟨some 21,none,.mv (.t 20)⟩,⟨some 22,some (21,true),.mv (.t 7)⟩,⟨some 23,some (21,true),.bin .lss (.t 22) (.c (.int .i64 224))⟩,⟨some 24,none,.pick (.t 21) (.t 23) (.c (.bool false))⟩] false) (.cond (.t 24) (.ops [⟨some 25,none,.mv (.t 7)⟩,⟨some 26,none,.bin .sub (.t 25) (.c (.int .i64 192))⟩,⟨some 8,none,.mv (.c (.int .i64 2))⟩,⟨some 9,none,.mv (.t 26)⟩,⟨some 10,none,.mv (.c (.int .i64 128))⟩] false) (.skip))) (.seq (.seq (.ops [⟨some 27,none,.mv (.t 7)⟩,⟨some 28,none,.bin .geq (.t 27) (.c (.int .i64 224))⟩,⟨some 29,none,.mv (.t 28)⟩,⟨some 30,some (29,true),.mv (.t 7)⟩,⟨some 31,some (29,true),.bin .lss (.t 30) (.c (.int .i64 240))⟩,⟨some 32,none,.pick (.t 29) (.t 31) (.c (.bool false))⟩] false) (.cond (.t 32) (.ops [⟨some 33,none,.mv (.t 7)⟩,⟨some 34,none,.bin .sub (.t 33) (.c (.int .i64 224))⟩,⟨some 8,none,.mv (.c (.int .i64 3))⟩,⟨some 9,none,.mv (.t 34)⟩,⟨some 10,none,.mv (.c (.int .i64 2048))⟩] false) (.skip))) (.seq (.seq (.ops [⟨some 35,none,.mv (.t 7)⟩,⟨some 36,none,.bin .geq (.t 35) (.c (.int .i64 240))⟩,⟨some 37,none,.mv (.t 36)⟩,⟨some 38,some (37,true),.mv (.t 7)⟩,⟨some 39,some (37,true),.bin .lss (.t 38) (.c (.int .i64 248))⟩,⟨some 40,none,.pick (.t 37) (.t 39) (.c (.bool false))⟩] false) (.cond (.t 40) (.ops [⟨some 41,none,.mv (.t 7)⟩,⟨some 42,none,.bin .sub (.t 41) (.c (.int .i64 240))⟩,⟨some 8,none,.mv (.c (.int .i64 4))⟩,⟨some 9,none,.mv (.t 42)⟩,⟨some 10,none,.mv (.c (.int .i64 65536))⟩] false) (.skip))) (.seq (.seq (.ops [⟨some 43,none,.mv (.t 8)⟩,⟨some 44,none,.bin .eql (.t 43) (.c (.int .i64 0))⟩,⟨some 45,none,.mv (.t 44)⟩,⟨some 46,some (45,false),.mv (.t 0)⟩,⟨some 47,some (45,false),.lenS (.t 46)⟩,⟨some 48,some (45,false),.mv (.t 1)⟩,⟨some 49,some (45,false),.bin .sub (.t 47) (.t 48)⟩,⟨some 50,some (45,false),.mv (.t 8)⟩,⟨some 51,some (45,false),.bin .lss (.t 49) (.t 50)⟩,⟨some 52,none,.pick (.t 45) (.c (.bool true)) (.t 51)⟩] false) (.cond (.t 52) (.seq (.ops [⟨some 4,none,.mv (.c (.int .i64 65533))⟩,⟨some 5,none,.mv (.c (.int .i64 1))⟩,⟨some 6,none,.mv (.c (.bool false))⟩] false) (.ret)) (.skip))) (.seq (.seq (.ops [⟨some 11,none,.mv (.c (.int .i64 1))⟩] false) (.blk 0 (.loop (.seq (.seq (.ops [⟨some 53,none,.mv (.t 11)⟩,⟨some 54,none,.mv (.t 8)⟩,⟨some 55,none,.bin .lss (.t 53) (.t 54)⟩] false) (.cond (.t 55) (.skip) (.exit 0))) (.seq (.blk 1 (.seq (.seq (.ops [⟨some 58,none,.mv (.t 0)⟩,⟨some 59,none,.mv (.t 1)⟩,⟨some 60,none,.mv (.t 11)⟩,⟨some 61,none,.bin .add (.t 59) (.t 60)⟩,⟨some 62,none,.sidx (.t 58) (.t 61)⟩,⟨some 63,none,.call c1 [(.t 62)]⟩,⟨some 64,none,.un .not (.t 63)⟩] false) (.cond (.t 64) (.seq (.ops [⟨some 4,none,.mv (.c (.int .i64 65533))⟩,⟨some 5,none,.mv (.c (.int .i64 1))⟩,⟨some 6,none,.mv (.c (.bool false))⟩] false) (.ret)) (.skip))) (.ops [⟨some 65,none,.mv (.t 9)⟩,⟨some 66,none,.bin .mul (.t 65) (.c (.int .i64 64))⟩,⟨some 67,none,.mv (.t 0)⟩,⟨some 68,none,.mv (.t 1)⟩,⟨some 69,none,.mv (.t 11)⟩,⟨some 70,none,.bin .add (.t 68) (.t 69)⟩,⟨some 71,none,.sidx (.t 67) (.t 70)⟩,⟨some 72,none,.cvt .i64 (.t 71)⟩,⟨some 73,none,.bin .add (.t 66) (.t 72)⟩,⟨some 74,none,.bin .sub (.t 73) (.c (.int .i64 128))⟩,⟨some 9,none,.mv (.t 74)⟩] false))) (.ops [⟨some 56,none,.mv (.t 11)⟩,⟨some 57,none,.bin .add (.t 56) (.c (.int .i64 1))⟩,⟨some 11,none,.mv (.t 57)⟩] false)))))) (.seq (.seq (.ops [⟨some 75,none,.mv (.t 9)⟩,⟨some 76,none,.mv (.t 10)⟩,⟨some 77,none,.bin .lss (.t 75) (.t 76)⟩,⟨some 78,none,.mv (.t 77)⟩,⟨some 79,some (78,false),.mv (.t 9)⟩,⟨some 80,some (78,false),.bin .gtr (.t 79) (.c (.int .i64 1114111))⟩,⟨some 81,none,.pick (.t 78) (.c (.bool true)) (.t 80)⟩,⟨some 82,none,.mv (.t 81)⟩,⟨some 83,some (82,false),.mv (.t 9)⟩,⟨some 84,some (82,false),.bin .geq (.t 83) (.c (.int .i64 55296))⟩,⟨some 85,some (82,false),.mv (.t 84)⟩,⟨some 86,some (85,true),.mv (.t 9)⟩,⟨some 87,some (85,true),.bin .lss (.t 86) (.c (.int .i64 57344))⟩,⟨some 88,some (82,false),.pick (.t 85) (.t 87) (.c (.bool false))⟩,⟨some 89,none,.pick (.t 82) (.c (.bool true)) (.t 88)⟩] false) (.cond (.t 89) (.seq (.ops [⟨some 4,none,.mv (.c (.int .i64 65533))⟩,⟨some 5,none,.mv (.c (.int .i64 1))⟩,⟨some 6,none,.mv (.c (.bool false))⟩] false) (.ret)) (.skip))) (.seq (.ops [⟨some 90,none,.mv (.t 9)⟩,⟨some 91,none,.mv (.t 8)⟩,⟨some 4,none,.mv (.t 90)⟩,⟨some 5,none,.mv (.t 91)⟩,⟨some 6,none,.mv (.c (.bool true))⟩] false) (.ret)))))))))))) }
def irR3More : IFn := { nt := 9, res := [.t 2], body := ( .seq (.ops [⟨some 2,none,.mv (.c (.bool false))⟩] false) (.seq (.ops [⟨some 3,none,.mv (.t 0)⟩,⟨some 4,none,.bin .geq (.t 3) (.c (.int .u8 128))⟩,⟨some 5,none,.mv (.t 4)⟩,⟨some 6,some (5,true),.mv (.t 0)⟩,⟨some 7,some (5,true),.bin .lss (.t 6) (.c (.int .u8 192))⟩,⟨some 8,none,.pick (.t 5) (.t 7) (.c (.bool false))⟩,⟨some 2,none,.mv (.t 8)⟩] false) (.ret))) }
def irR3Unquote : IFn := { nt := 71, res := [.t 2,.t 3], body := ( .seq (.ops [⟨some 2,none,.mv (.c (.str []))⟩,⟨some 3,none,.mv (.c (.int .i64 0))⟩] false) (.seq (.ops [⟨some 8,none,.mv (.t 0)⟩,⟨some 9,none,.lenS (.t 8)⟩,⟨some 4,none,.mv (.t 9)⟩] false) (.seq (.seq (.ops [⟨some 10,none,.mv (.t 4)⟩,⟨some 11,none,.bin .lss (.t 10) (.c (.int .i64 2))⟩,⟨some 12,none,.mv (.t 11)⟩,⟨some 13,some (12,false),.mv (.t 0)⟩,⟨some 14,some (12,false),.sidx (.t 13) (.c (.int .i64 0))⟩,⟨some 15,some (12,false),.bin .neq (.t 14) (.c (.int .u8 34))⟩,⟨some 16,none,.pick (.t 12) (.c (.bool true)) (.t 15)⟩,⟨some 17,none,.mv (.t 16)⟩,⟨some 18,some (17,false),.mv (.t 0)⟩,⟨some 19,some (17,false),.mv (.t 4)⟩,⟨some 20,some (17,false),.bin .sub (.t 19) (.c (.int .i64 1))⟩,⟨some 21,some (17,false),.sidx (.t 18) (.t 20)⟩,⟨some 22,some (17,false),.bin .neq (.t 21) (.c (.int .u8 34))⟩,⟨some 23,none,.pick (.t 17) (.c (.bool true)) (.t 22)⟩] false) (.cond (.t 23) (.seq (.ops [⟨some 2,none,.mv (.c (.str []))⟩,⟨some 3,none,.mv (.c (.int .i64 22))⟩] false) (.ret)) (.skip))) (.seq (.ops [⟨some 5,none,.mv (.c (.str []))⟩] false) (.seq (.ops [⟨some 24,none,.mv (.t 0)⟩,⟨some 25,none,.mv (.t 4)⟩,⟨some 26,none,.bin .sub (.t 25) (.c (.int .i64 1))⟩,⟨some 27,none,.sslice (.t 24) (some (.c (.int .i64 1))) (some (.t 26))⟩,⟨some 6,none,.mv (.t 27)⟩] false) (.seq (.blk 0 (.loop (.seq (.seq (.ops [⟨some 28,none,.mv (.t 6)⟩,⟨some 29,none,.lenS (.t 28)⟩,⟨some 30,none,.bin .gtr (.t 29) (.c (.int .i64 0))⟩] false) (.cond (.t 30) (.skip) (.exit 0))) (.blk 1 (.seq (.ops [⟨some 31,none,.mv (.t 6)⟩,⟨some 32,none,.sidx (.t 31) (.c (.int .i64 0))⟩,⟨some 7,none,.mv (.t 32)⟩] false) (.seq (.seq (.ops [⟨some 33,none,.mv (.t 7)⟩,⟨some 34,none,.bin .lss (.t 33) (.c (.int .u8 32))⟩,⟨some 35,none,.mv (.t 34)⟩,⟨some 36,some (35,false),.mv (.t 7)⟩,⟨some 37,some (35,false),.bin .eql (.t 36) (.c (.int .u8 34))⟩,⟨some 38,none,.pick (.t 35) (.c (.bool true)) (.t 37)⟩] false) (.cond (.t 38) (.seq (.ops [⟨some 2,none,.mv (.c (.str []))⟩,⟨some 3,none,.mv (.c (.int .i64 22))⟩] false) (.ret)) (.skip))) (.seq (.seq (.ops [⟨some 39,none,.mv (.t 7)⟩,⟨some 40,none,.bin .neq (.t 39) (.c (.int .u8 92))⟩] false) (.cond (.t 40) (.seq (.ops [⟨some 41,none,.mv (.t 5)⟩,⟨some 42,none,.mv (.t 6)⟩,⟨some 43,none,.sslice (.t 42) none (some (.c (.int .i64 1)))⟩,⟨some 44,none,.bin .add (.t 41) (.t 43)⟩,⟨some 5,none,.mv (.t 44)⟩] false) (.seq (.ops [⟨some 45,none,.mv (.t 6)⟩,⟨some 46,none,.sslice (.t 45) (some (.c (.int .i64 1))) none⟩,⟨some 6,none,.mv (.t 46)⟩] false) (.exit 1))) (.skip))) (.seq (.seq (.ops [⟨some 47,none,.mv (.t 6)⟩,⟨some 48,none,.lenS (.t 47)⟩,⟨some 49,none,.bin .lss (.t 48) (.c (.int .i64 2))⟩] false) (.cond (.t 49) (.seq (.ops [⟨some 2,none,.mv (.c (.str []))⟩,⟨some 3,none,.mv (.c (.int .i64 22))⟩] false) (.ret)) (.skip))) (.seq (.seq (.ops [⟨some 50,none,.mv (.t 6)⟩,⟨some 51,none,.sidx (.t 50) (.c (.int .i64 1))⟩] false) (.blk 2 (.seq (.ops [⟨some 53,none,.bin .eql (.t 51) (.c (.int .u8 110))⟩,⟨some 52,none,.mv (.t 53)⟩] false) (.cond (.t 52) (.ops [⟨some 54,none,.mv (.t 5)⟩,⟨some 55,none,.bin .add (.t 54) (.c (.str [10]))⟩,⟨some 5,none,.mv (.t 55)⟩] false) (.seq (.ops [⟨some 57,none,.bin .eql (.t 51) (.c (.int .u8 116))⟩,⟨some 56,none,.mv (.t 57)⟩] false) (.cond (.t 56) (.ops [⟨some 58,none,.mv (.t 5)⟩,⟨some 59,none,.bin .add (.t 58) (.c (.str [9]))⟩,⟨some 5,none,.mv (.t 59)⟩] false) (.seq (.ops [⟨some 61,none,.bin .eql (.t 51) (.c (.int .u8 34))⟩,⟨some 60,none,.mv (.t 61)⟩] false) (.cond (.t 60) (.ops [⟨some 62,none,.mv (.t 5)⟩,⟨some 63,none,.bin .add (.t 62) (.c (.str [34]))⟩,⟨some 5,none,.mv (.t 63)⟩] false) (.seq (.ops [⟨some 65,none,.bin .eql (.t 51) (.c (.int .u8 92))⟩,⟨some 64,none,.mv (.t 65)⟩] false) (.cond (.t 64) (.ops [⟨some 66,none,.mv (.t 5)⟩,⟨some 67,none,.bin .add (.t 66) (.c (.str [92]))⟩,⟨some 5,none,.mv (.t 67)⟩] false) (.seq (.ops [⟨some 2,none,.mv (.c (.str []))⟩,⟨some 3,none,.mv (.c (.int .i64 22))⟩] false) (.ret)))))))))))) (.ops [⟨some 68,none,.mv (.t 6)⟩,⟨some 69,none,.sslice (.t 68) (some (.c (.int .i64 2))) none⟩,⟨some 6,none,.mv (.t 69)⟩] false)))))))))) (.seq (.ops [⟨some 70,none,.mv (.t 5)⟩,⟨some 2,none,.mv (.t 70)⟩,⟨some 3,none,.mv (.c (.int .i64 0))⟩] false) (.ret)))))))) }
end Go.Zam
