/-
  Texts of one proof, one behind the other.
-/
import Derived.Test.YtffdeeooocookaaM4
set_option linter.all false
set_option maxRecDepth 100000
set_option maxHeartbeats 4000000
namespace Go.Zam
section
def contB (b:UInt8):Bool:=decide ((128:Int)≤b.toNat) && decide ((b.toNat:Int) < 192)
theorem byteAt_getD {s:Bs} {n k:Nat} (h:n+k < s.length):byteAt s ((n:Int)+k)=some ((s.drop n).getD k 0):=by
 have e:((n:Int)+k)=((n+k:Nat):Int):=by omega
 rw [e,byteAt_nat,List.getD_eq_getElem?_getD,List.getElem?_drop,List.getElem?_eq_getElem h]; rfl
theorem dec_0 {n b0 b1 b2 b3:Nat} (h:b0 < 128):Lib.decodeN n b0 b1 b2 b3=(b0,1):=by simp [Lib.decodeN,h]
theorem dec_none {n b0 b1 b2 b3:Nat} (h:¬ b0 < 128) (h2:¬ (192≤b0∧b0 < 248)):Lib.decodeN n b0 b1 b2 b3=(65533,1):=by
 unfold Lib.decodeN
 rw [if_neg h,if_neg (by omega),if_neg (by omega),if_neg (by omega)]
theorem dec_2 {n b0 b1 b2 b3:Nat} (h:192≤b0∧b0 < 224):Lib.decodeN n b0 b1 b2 b3=if 1 < n∧(128≤b1∧b1 < 192)∧128≤(b0 - 192) * 64+(b1 - 128) then ((b0 - 192) * 64+(b1 - 128),2) else (65533,1):=by
 unfold Lib.decodeN
 rw [if_neg (by omega)]
 by_cases h1:1 < n∧(128≤b1∧b1 < 192)
 · have e:b0 % 32 * 64+b1 % 64=(b0 - 192) * 64+(b1 - 128):=by omega
   rw [if_pos (by omega),e]
   by_cases h3:128≤(b0 - 192) * 64+(b1 - 128)
   · rw [if_pos h3,if_pos ⟨h1.1,h1.2,h3⟩]
   · rw [if_neg (by omega),if_neg (by omega)]
 · rw [if_neg (by omega),if_neg (by omega),if_neg (by omega),if_neg (fun q=>h1 ⟨q.1,q.2.1⟩)]
theorem dec_3 {n b0 b1 b2 b3:Nat} (h:224≤b0∧b0 < 240):Lib.decodeN n b0 b1 b2 b3=if 2 < n∧(128≤b1∧b1 < 192)∧(128≤b2∧b2 < 192)∧2048≤(b0 - 224) * 4096+(b1 - 128) * 64+(b2 - 128)∧¬ (55296≤(b0 - 224) * 4096+(b1 - 128) * 64+(b2 - 128)∧(b0 - 224) * 4096+(b1 - 128) * 64+(b2 - 128) < 57344) then ((b0 - 224) * 4096+(b1 - 128) * 64+(b2 - 128),3) else (65533,1):=by
 unfold Lib.decodeN
 rw [if_neg (by omega),if_neg (by omega)]
 by_cases h1:2 < n∧(128≤b1∧b1 < 192)∧(128≤b2∧b2 < 192)
 · have e:b0 % 16 * 4096+b1 % 64 * 64+b2 % 64=(b0 - 224) * 4096+(b1 - 128) * 64+(b2 - 128):=by omega
   rw [if_pos (by omega),e]
   generalize hV:(b0 - 224) * 4096+(b1 - 128) * 64+(b2 - 128)=V
   by_cases h3:2048≤V∧¬ (55296≤V∧V < 57344)
   · rw [if_pos (by omega),if_pos ⟨h1.1,h1.2.1,h1.2.2,h3⟩]
   · rw [if_neg (by omega),if_neg (fun q=>h3 q.2.2.2)]
 · rw [if_neg (by omega),if_neg (by omega),if_neg (fun q=>h1 ⟨q.1,q.2.1,q.2.2.1⟩)]
theorem dec_4 {n b0 b1 b2 b3:Nat} (h:240≤b0∧b0 < 248):Lib.decodeN n b0 b1 b2 b3=if 3 < n∧(128≤b1∧b1 < 192)∧(128≤b2∧b2 < 192)∧(128≤b3∧b3 < 192)∧65536≤(b0 - 240) * 262144+(b1 - 128) * 4096+(b2 - 128) * 64+(b3 - 128)∧(b0 - 240) * 262144+(b1 - 128) * 4096+(b2 - 128) * 64+(b3 - 128)≤1114111 then ((b0 - 240) * 262144+(b1 - 128) * 4096+(b2 - 128) * 64+(b3 - 128),4) else (65533,1):=by
 unfold Lib.decodeN
 rw [if_neg (by omega),if_neg (by omega),if_neg (by omega)]
 by_cases h1:3 < n∧(128≤b1∧b1 < 192)∧(128≤b2∧b2 < 192)∧(128≤b3∧b3 < 192)
 · have e:b0 % 8 * 262144+b1 % 64 * 4096+b2 % 64 * 64+b3 % 64=(b0 - 240) * 262144+(b1 - 128) * 4096+(b2 - 128) * 64+(b3 - 128):=by omega
   rw [if_pos (by omega),e]
   generalize hV:(b0 - 240) * 262144+(b1 - 128) * 4096+(b2 - 128) * 64+(b3 - 128)=V
   by_cases h3:65536≤V∧V≤1114111
   · rw [if_pos (by omega),if_pos ⟨h1.1,h1.2.1,h1.2.2.1,h1.2.2.2,h3⟩]
   · rw [if_neg (by omega),if_neg (fun q=>h3 q.2.2.2.2)]
 · rw [if_neg (by omega),if_neg (fun q=>h1 ⟨q.1,q.2.1,q.2.2.1,q.2.2.2.1⟩)]
def decOk (S:Bs):Bool := !(decide ((decU S).1=65533) && decide ((decU S).2=1))
def Next3Q (S:Bs) (H:Hp):A→Hp→Prop:=fun r H'=>∃ v:Int,r = .tup [.d (.int .i64 v),.d (.int .i64 ((decU S).2:Int)),.d (.bool (decOk S))]∧H'=H
section
variable {P:Program}
theorem Has.more3 {f} (h:Has P f irR3More):ByteOk P f contB:=fun b H=>by
 obtain ⟨fn,hf,hcf⟩:=h
 refine acall_fin hf hcf (by simp [irR3More]) fun hcl _ => ?_
 simp [irR3More]
 generalize ha:decide ((128:Int)≤b.toNat)=a
 generalize hb:decide ((b.toNat:Int) < 192)=c
 have hl:contB b=(a && c):=by simp only [contB,ha,hb]
 cases a<;>cases c<;>simp [ha,hb]<;>simp [RetK,cut_self hcl,hl]
theorem Has.next3 {f fm} (h:Has P f (irR3Next fm)) (hm:ByteOk P fm contB) (s:Bs) (n:Nat) (hn:n < s.length) (hl:s.length≤1048576) (H:Hp) :
 ACall P f [.d (.str s),.d (.int .i64 (n:Int))] H (Next3Q (s.drop n) H):=by
 obtain ⟨fn,hf,hcf⟩:=h
 refine acall_fin hf hcf (by simp [irR3Next]) fun hcl _ => ?_
 have hB:=fun k (hk:n+k < s.length)=>byteAt_getD (s:=s) (n:=n) (k:=k) hk
 have hne:s.drop n ≠ []:=fun e=>by have:=List.drop_eq_nil_iff.1 e; omega
 have hD:=decU_ne hne
 have hSl:(s.drop n).length=s.length - n:=by simp
 rw [hSl] at hD
 have hfin:∀ (v N:Int) (ok:Bool),N=((decU (s.drop n)).2:Int)→ok=decOk (s.drop n)→Next3Q (s.drop n) H (.tup [.d (.int .i64 v),.d (.int .i64 N),.d (.bool ok)]) H:=fun v N ok h1 h2=>⟨v,by rw [h1,h2],rfl⟩
 unfold decOk at hfin
 generalize Next3Q (s.drop n) H=Q at hfin ⊢
 generalize s.drop n=S at hB hD hfin
 generalize decU S=D at hD hfin
 have hb0:=hB 0 (by omega)
 simp only [Int.add_zero,Int.natCast_zero] at hb0
 have hb1:=hB 1
 have hb2:=hB 2
 have hb3:=hB 3
 clear hB
 have l0:=(S.getD 0 0).toNat_lt
 have l1:=(S.getD 1 0).toNat_lt
 have l2:=(S.getD 2 0).toNat_lt
 have l3:=(S.getD 3 0).toNat_lt
 generalize S.getD 0 0=b0 at hb0 hD l0
 generalize S.getD 1 0=b1 at hb1 hD l1
 generalize S.getD 2 0=b2 at hb2 hD l2
 generalize S.getD 3 0=b3 at hb3 hD l3
 have hwb:∀ b:UInt8,IntKind.i64.wrap (b.toNat:Int)=b.toNat:=fun b=>wrap_i64 (by have:=b.toNat_lt; omega) (by have:=b.toNat_lt; omega)
 simp [irR3Next,hb0,hwb]
 by_cases c0:b0.toNat < 128
 · have c0':(b0.toNat:Int) < 128:=by omega
   rw [dec_0 c0] at hD
   simp [c0']
   simp [RetK,cut_self hcl]
   exact hfin _ _ _ (by rw [hD]; rfl) (by rw [hD]; simp; omega)
 have c0':¬ (b0.toNat:Int) < 128:=by omega
 by_cases cN:192≤b0.toNat∧b0.toNat < 248
 case neg =>
  rw [dec_none c0 cN] at hD
  have x1:¬ ((192:Int)≤b0.toNat∧(b0.toNat:Int) < 248):=by omega
  have key:∀ F,F=Q→True:=fun _ _=>trivial
  by_cases x2:(192:Int)≤b0.toNat
  · have x3:¬ (b0.toNat:Int) < 224:=by omega
    have x4:(224:Int)≤b0.toNat:=by omega
    have x5:¬ (b0.toNat:Int) < 240:=by omega
    have x6:(240:Int)≤b0.toNat:=by omega
    have x7:¬ (b0.toNat:Int) < 248:=by omega
    simp [c0',x2,x3,x4,x5,x6,x7]
    simp [RetK,cut_self hcl]
    exact hfin _ _ _ (by rw [hD]; rfl) (by rw [hD]; rfl)
  · have x4:¬ (224:Int)≤b0.toNat:=by omega
    have x6:¬ (240:Int)≤b0.toNat:=by omega
    simp [c0',x2,x4,x6]
    simp [RetK,cut_self hcl]
    exact hfin _ _ _ (by rw [hD]; rfl) (by rw [hD]; rfl)
 have wsub:∀ k:Int,0≤k→k≤1000→IntKind.i64.wrap ((b0.toNat:Int) - k)=b0.toNat - k:=fun k _ _=>wrap_i64 (by omega) (by omega)
 have w2:=wsub 192 (by omega) (by omega)
 have w3:=wsub 224 (by omega) (by omega)
 have w4:=wsub 240 (by omega) (by omega)
 have wsn:IntKind.i64.wrap ((s.length:Int) - n)=s.length - n:=wrap_i64 (by omega) (by omega)
 have wi:∀ k:Int,0≤k→k≤1000→IntKind.i64.wrap ((n:Int)+k)=n+k:=fun k _ _=>wrap_i64 (by omega) (by omega)
 have w11:=wi 1 (by omega) (by omega)
 have w12:=wi 2 (by omega) (by omega)
 have w13:=wi 3 (by omega) (by omega)
 have wmul:∀ v:Int,0≤v→v≤1099511627776→IntKind.i64.wrap (v * 64)=v * 64:=fun v _ _=>wrap_i64 (by omega) (by omega)
 have wadd:∀ (v:Int) (b:UInt8),0≤v→v≤1099511627776→IntKind.i64.wrap (v * 64+b.toNat)=v * 64+b.toNat:=fun v b _ _=>by have:=b.toNat_lt; exact wrap_i64 (by omega) (by omega)
 have wsb:∀ (v:Int) (b:UInt8),0≤v→v≤1099511627776→IntKind.i64.wrap (v * 64+b.toNat - 128)=v * 64+b.toNat - 128:=fun v b _ _=>by have:=b.toNat_lt; exact wrap_i64 (by omega) (by omega)
 have hcont:∀ b:UInt8,contB b=true ↔ 128≤b.toNat∧b.toNat < 192:=fun b=>by simp [contB]; omega
 simp only [Int.natCast_one,Int.cast_ofNat_Int] at hb1 hb2 hb3
 by_cases c2:192≤b0.toNat∧b0.toNat < 224
 · have x0:(192:Int)≤b0.toNat:=by omega
   have x1:(b0.toNat:Int) < 224:=by omega
   have x2:¬ (224:Int)≤b0.toNat:=by omega
   have x3:¬ (240:Int)≤b0.toNat:=by omega
   rw [dec_2 c2] at hD
   simp [c0',x0,x1,x2,x3,w2]
   by_cases hL:s.length - n < 2
   · have hL':(s.length:Int) - n < 2:=by omega
     simp [wsn,hL']
     simp [RetK,cut_self hcl]
     exact hfin _ _ _ (by rw [hD,if_neg (by omega)]; rfl) (by rw [hD,if_neg (by omega)]; rfl)
   have hL':¬ (s.length:Int) - n < 2:=by omega
   have B1:=hb1 (by omega)
   simp [wsn,hL']
   refine LoopK_outR 0 (fun fr H'=>fr 8 = .d (.int .i64 2)∧fr 10 = .d (.int .i64 128)∧H'=H∧((128≤b1.toNat∧b1.toNat < 192))∧fr 9 = .d (.int .i64 (((b0.toNat:Int) - 192) * 64+(b1.toNat:Int) - 128))) (fun fr H'=>fr 4 = .d (.int .i64 65533)∧fr 5 = .d (.int .i64 1)∧fr 6 = .d (.bool false)∧H'=H∧¬ ((128≤b1.toNat∧b1.toNat < 192))) ?_ ?_ ?_
   · refine LoopM_of H.length (fun d fr H'=>∃ (k:Nat) (v:Int),d=5 - k∧fr 0 = .d (.str s)∧fr 1 = .d (.int .i64 (n:Int))∧fr 8 = .d (.int .i64 2)∧fr 10 = .d (.int .i64 128)∧fr 11 = .d (.int .i64 (k:Int))∧fr 9 = .d (.int .i64 v)∧H'=H∧((k=1∧v=((b0.toNat:Int) - 192))∨(k=2∧((128≤b1.toNat∧b1.toNat < 192))∧v=(((b0.toNat:Int) - 192) * 64+(b1.toNat:Int) - 128)))) 4 (by simp) ⟨1,((b0.toNat:Int) - 192),rfl,?_⟩ ?_
     · simp [cut_self hcl]
     rintro d fr H' ⟨k,v,rfl,f0,f1,f8,f10,f11,f9,rfl,hor⟩
     rcases hor with ⟨rfl,rfl⟩ | ⟨rfl,q,rfl⟩
     · have wm:=wmul ((b0.toNat:Int) - 192) (by omega) (by omega)
       have wa:=wadd ((b0.toNat:Int) - 192) b1 (by omega) (by omega)
       have ws:=wsb ((b0.toNat:Int) - 192) b1 (by omega) (by omega)
       simp [f0,f1,f8,f11,w11,B1]
       refine CallK_of' (hm b1 _) ?_
       have hc:=hcont b1
       cases hcb:contB b1 with
       | false =>
         rw [hcb] at hc
         have hc:¬ (128≤b1.toNat∧b1.toNat < 192):=by simpa using hc
         simp
         omega
       | true =>
         rw [hcb] at hc
         have hc:128≤b1.toNat∧b1.toNat < 192:=by simpa using hc
         simp [f0,f1,f8,f9,f11,w11,B1,hwb,wm,wa,ws]
         refine NextM_of H'.length 3 (Nat.le_refl _) (by simp) (by omega) ⟨2,(((b0.toNat:Int) - 192) * 64+(b1.toNat:Int) - 128),rfl,?_⟩
         simp [f0,f1,f8,f10,cut_self hcl,hc]; decide
     · simp [f8,f11]
       simp [f8,f9,f10,q]
   · rintro fr H' ⟨f4,f5,f6,rfl,hc⟩
     simp
     simp [RetK,cut_self hcl,f4,f5,f6]
     exact hfin _ _ _ (by rw [hD,if_neg (fun q=>hc (by omega))]; rfl) (by rw [hD,if_neg (fun q=>hc (by omega))]; rfl)
   · rintro fr H' ⟨f8,f10,rfl,hc,f9⟩
     generalize hV:(((b0.toNat:Int) - 192) * 64+(b1.toNat:Int) - 128)=V at f9
     by_cases r1:V < 128
     · simp [f8,f9,f10,r1]
       simp [RetK,cut_self hcl]
       exact hfin _ _ _ (by rw [hD,if_neg (by omega)]; rfl) (by rw [hD,if_neg (by omega)]; rfl)
     by_cases r2:1114111 < V
     · simp [f8,f9,f10,r1,r2]
       simp [RetK,cut_self hcl]
       exact hfin _ _ _ (by rw [hD,if_neg (by omega)]; rfl) (by rw [hD,if_neg (by omega)]; rfl)
     have good:∀ p:Prop,(1:Nat)=1:=fun _=>rfl
     by_cases r3:55296≤V
     · by_cases r4:V < 57344
       · simp [f8,f9,f10,r1,r2,r3,r4]
         simp [RetK,cut_self hcl]
         exact hfin _ _ _ (by rw [hD,if_neg (by omega)]; rfl) (by rw [hD,if_neg (by omega)]; rfl)
       · simp [f8,f9,f10,r1,r2,r3,r4]
         simp [RetK,cut_self hcl,f8,f9]
         exact hfin _ _ _ (by rw [hD,if_pos (by omega)]; rfl) (by rw [hD,if_pos (by omega)]; simp)
     · simp [f8,f9,f10,r1,r2,r3]
       simp [RetK,cut_self hcl,f8,f9]
       exact hfin _ _ _ (by rw [hD,if_pos (by omega)]; rfl) (by rw [hD,if_pos (by omega)]; simp)
 by_cases c3:224≤b0.toNat∧b0.toNat < 240
 · have x0:(192:Int)≤b0.toNat:=by omega
   have x1:¬ (b0.toNat:Int) < 224:=by omega
   have x2:(224:Int)≤b0.toNat:=by omega
   have x3:(b0.toNat:Int) < 240:=by omega
   have x4:¬ (240:Int)≤b0.toNat:=by omega
   rw [dec_3 c3] at hD
   simp [c0',x0,x1,x2,x3,x4,w3]
   by_cases hL:s.length - n < 3
   · have hL':(s.length:Int) - n < 3:=by omega
     simp [wsn,hL']
     simp [RetK,cut_self hcl]
     exact hfin _ _ _ (by rw [hD,if_neg (by omega)]; rfl) (by rw [hD,if_neg (by omega)]; rfl)
   have hL':¬ (s.length:Int) - n < 3:=by omega
   have B1:=hb1 (by omega)
   have B2:=hb2 (by omega)
   simp [wsn,hL']
   refine LoopK_outR 0 (fun fr H'=>fr 8 = .d (.int .i64 3)∧fr 10 = .d (.int .i64 2048)∧H'=H∧((128≤b1.toNat∧b1.toNat < 192)∧(128≤b2.toNat∧b2.toNat < 192))∧fr 9 = .d (.int .i64 ((((b0.toNat:Int) - 224) * 64+(b1.toNat:Int) - 128) * 64+(b2.toNat:Int) - 128))) (fun fr H'=>fr 4 = .d (.int .i64 65533)∧fr 5 = .d (.int .i64 1)∧fr 6 = .d (.bool false)∧H'=H∧¬ ((128≤b1.toNat∧b1.toNat < 192)∧(128≤b2.toNat∧b2.toNat < 192))) ?_ ?_ ?_
   · refine LoopM_of H.length (fun d fr H'=>∃ (k:Nat) (v:Int),d=5 - k∧fr 0 = .d (.str s)∧fr 1 = .d (.int .i64 (n:Int))∧fr 8 = .d (.int .i64 3)∧fr 10 = .d (.int .i64 2048)∧fr 11 = .d (.int .i64 (k:Int))∧fr 9 = .d (.int .i64 v)∧H'=H∧((k=1∧v=((b0.toNat:Int) - 224))∨(k=2∧((128≤b1.toNat∧b1.toNat < 192))∧v=(((b0.toNat:Int) - 224) * 64+(b1.toNat:Int) - 128))∨(k=3∧((128≤b1.toNat∧b1.toNat < 192)∧(128≤b2.toNat∧b2.toNat < 192))∧v=((((b0.toNat:Int) - 224) * 64+(b1.toNat:Int) - 128) * 64+(b2.toNat:Int) - 128)))) 4 (by simp) ⟨1,((b0.toNat:Int) - 224),rfl,?_⟩ ?_
     · simp [cut_self hcl]
     rintro d fr H' ⟨k,v,rfl,f0,f1,f8,f10,f11,f9,rfl,hor⟩
     rcases hor with ⟨rfl,rfl⟩ | ⟨rfl,q,rfl⟩ | ⟨rfl,q,rfl⟩
     · have wm:=wmul ((b0.toNat:Int) - 224) (by omega) (by omega)
       have wa:=wadd ((b0.toNat:Int) - 224) b1 (by omega) (by omega)
       have ws:=wsb ((b0.toNat:Int) - 224) b1 (by omega) (by omega)
       simp [f0,f1,f8,f11,w11,B1]
       refine CallK_of' (hm b1 _) ?_
       have hc:=hcont b1
       cases hcb:contB b1 with
       | false =>
         rw [hcb] at hc
         have hc:¬ (128≤b1.toNat∧b1.toNat < 192):=by simpa using hc
         simp
         omega
       | true =>
         rw [hcb] at hc
         have hc:128≤b1.toNat∧b1.toNat < 192:=by simpa using hc
         simp [f0,f1,f8,f9,f11,w11,B1,hwb,wm,wa,ws]
         refine NextM_of H'.length 3 (Nat.le_refl _) (by simp) (by omega) ⟨2,(((b0.toNat:Int) - 224) * 64+(b1.toNat:Int) - 128),rfl,?_⟩
         simp [f0,f1,f8,f10,cut_self hcl,hc]; decide
     · have wm:=wmul (((b0.toNat:Int) - 224) * 64+(b1.toNat:Int) - 128) (by omega) (by omega)
       have wa:=wadd (((b0.toNat:Int) - 224) * 64+(b1.toNat:Int) - 128) b2 (by omega) (by omega)
       have ws:=wsb (((b0.toNat:Int) - 224) * 64+(b1.toNat:Int) - 128) b2 (by omega) (by omega)
       simp [f0,f1,f8,f11,w12,B2]
       refine CallK_of' (hm b2 _) ?_
       have hc:=hcont b2
       cases hcb:contB b2 with
       | false =>
         rw [hcb] at hc
         have hc:¬ (128≤b2.toNat∧b2.toNat < 192):=by simpa using hc
         simp
         omega
       | true =>
         rw [hcb] at hc
         have hc:128≤b2.toNat∧b2.toNat < 192:=by simpa using hc
         simp [f0,f1,f8,f9,f11,w12,B2,hwb,wm,wa,ws]
         refine NextM_of H'.length 2 (Nat.le_refl _) (by simp) (by omega) ⟨3,((((b0.toNat:Int) - 224) * 64+(b1.toNat:Int) - 128) * 64+(b2.toNat:Int) - 128),rfl,?_⟩
         simp [f0,f1,f8,f10,cut_self hcl,hc,q]; decide
     · simp [f8,f11]
       simp [f8,f9,f10,q]
   · rintro fr H' ⟨f4,f5,f6,rfl,hc⟩
     simp
     simp [RetK,cut_self hcl,f4,f5,f6]
     exact hfin _ _ _ (by rw [hD,if_neg (fun q=>hc (by omega))]; rfl) (by rw [hD,if_neg (fun q=>hc (by omega))]; rfl)
   · rintro fr H' ⟨f8,f10,rfl,hc,f9⟩
     generalize hV:((((b0.toNat:Int) - 224) * 64+(b1.toNat:Int) - 128) * 64+(b2.toNat:Int) - 128)=V at f9
     by_cases r1:V < 2048
     · simp [f8,f9,f10,r1]
       simp [RetK,cut_self hcl]
       exact hfin _ _ _ (by rw [hD,if_neg (by omega)]; rfl) (by rw [hD,if_neg (by omega)]; rfl)
     by_cases r2:1114111 < V
     · simp [f8,f9,f10,r1,r2]
       simp [RetK,cut_self hcl]
       exact hfin _ _ _ (by rw [hD,if_neg (by omega)]; rfl) (by rw [hD,if_neg (by omega)]; rfl)
     have good:∀ p:Prop,(1:Nat)=1:=fun _=>rfl
     by_cases r3:55296≤V
     · by_cases r4:V < 57344
       · simp [f8,f9,f10,r1,r2,r3,r4]
         simp [RetK,cut_self hcl]
         exact hfin _ _ _ (by rw [hD,if_neg (by omega)]; rfl) (by rw [hD,if_neg (by omega)]; rfl)
       · simp [f8,f9,f10,r1,r2,r3,r4]
         simp [RetK,cut_self hcl,f8,f9]
         exact hfin _ _ _ (by rw [hD,if_pos (by omega)]; rfl) (by rw [hD,if_pos (by omega)]; simp)
     · simp [f8,f9,f10,r1,r2,r3]
       simp [RetK,cut_self hcl,f8,f9]
       exact hfin _ _ _ (by rw [hD,if_pos (by omega)]; rfl) (by rw [hD,if_pos (by omega)]; simp)
 have c4:240≤b0.toNat∧b0.toNat < 248:=by omega
 have x0:(192:Int)≤b0.toNat:=by omega
 have x1:¬ (b0.toNat:Int) < 224:=by omega
 have x2:(224:Int)≤b0.toNat:=by omega
 have x3:¬ (b0.toNat:Int) < 240:=by omega
 have x4:(240:Int)≤b0.toNat:=by omega
 have x5:(b0.toNat:Int) < 248:=by omega
 rw [dec_4 c4] at hD
 simp [c0',x0,x1,x2,x3,x4,x5,w4]
 by_cases hL:s.length - n < 4
 · have hL':(s.length:Int) - n < 4:=by omega
   simp [wsn,hL']
   simp [RetK,cut_self hcl]
   exact hfin _ _ _ (by rw [hD,if_neg (by omega)]; rfl) (by rw [hD,if_neg (by omega)]; rfl)
 have hL':¬ (s.length:Int) - n < 4:=by omega
 have B1:=hb1 (by omega)
 have B2:=hb2 (by omega)
 have B3:=hb3 (by omega)
 simp [wsn,hL']
 refine LoopK_outR 0 (fun fr H'=>fr 8 = .d (.int .i64 4)∧fr 10 = .d (.int .i64 65536)∧H'=H∧((128≤b1.toNat∧b1.toNat < 192)∧(128≤b2.toNat∧b2.toNat < 192)∧(128≤b3.toNat∧b3.toNat < 192))∧fr 9 = .d (.int .i64 (((((b0.toNat:Int) - 240) * 64+(b1.toNat:Int) - 128) * 64+(b2.toNat:Int) - 128) * 64+(b3.toNat:Int) - 128))) (fun fr H'=>fr 4 = .d (.int .i64 65533)∧fr 5 = .d (.int .i64 1)∧fr 6 = .d (.bool false)∧H'=H∧¬ ((128≤b1.toNat∧b1.toNat < 192)∧(128≤b2.toNat∧b2.toNat < 192)∧(128≤b3.toNat∧b3.toNat < 192))) ?_ ?_ ?_
 · refine LoopM_of H.length (fun d fr H'=>∃ (k:Nat) (v:Int),d=5 - k∧fr 0 = .d (.str s)∧fr 1 = .d (.int .i64 (n:Int))∧fr 8 = .d (.int .i64 4)∧fr 10 = .d (.int .i64 65536)∧fr 11 = .d (.int .i64 (k:Int))∧fr 9 = .d (.int .i64 v)∧H'=H∧((k=1∧v=((b0.toNat:Int) - 240))∨(k=2∧((128≤b1.toNat∧b1.toNat < 192))∧v=(((b0.toNat:Int) - 240) * 64+(b1.toNat:Int) - 128))∨(k=3∧((128≤b1.toNat∧b1.toNat < 192)∧(128≤b2.toNat∧b2.toNat < 192))∧v=((((b0.toNat:Int) - 240) * 64+(b1.toNat:Int) - 128) * 64+(b2.toNat:Int) - 128))∨(k=4∧((128≤b1.toNat∧b1.toNat < 192)∧(128≤b2.toNat∧b2.toNat < 192)∧(128≤b3.toNat∧b3.toNat < 192))∧v=(((((b0.toNat:Int) - 240) * 64+(b1.toNat:Int) - 128) * 64+(b2.toNat:Int) - 128) * 64+(b3.toNat:Int) - 128)))) 4 (by simp) ⟨1,((b0.toNat:Int) - 240),rfl,?_⟩ ?_
   · simp [cut_self hcl]
   rintro d fr H' ⟨k,v,rfl,f0,f1,f8,f10,f11,f9,rfl,hor⟩
   rcases hor with ⟨rfl,rfl⟩ | ⟨rfl,q,rfl⟩ | ⟨rfl,q,rfl⟩ | ⟨rfl,q,rfl⟩
   · have wm:=wmul ((b0.toNat:Int) - 240) (by omega) (by omega)
     have wa:=wadd ((b0.toNat:Int) - 240) b1 (by omega) (by omega)
     have ws:=wsb ((b0.toNat:Int) - 240) b1 (by omega) (by omega)
     simp [f0,f1,f8,f11,w11,B1]
     refine CallK_of' (hm b1 _) ?_
     have hc:=hcont b1
     cases hcb:contB b1 with
     | false =>
       rw [hcb] at hc
       have hc:¬ (128≤b1.toNat∧b1.toNat < 192):=by simpa using hc
       simp
       omega
     | true =>
       rw [hcb] at hc
       have hc:128≤b1.toNat∧b1.toNat < 192:=by simpa using hc
       simp [f0,f1,f8,f9,f11,w11,B1,hwb,wm,wa,ws]
       refine NextM_of H'.length 3 (Nat.le_refl _) (by simp) (by omega) ⟨2,(((b0.toNat:Int) - 240) * 64+(b1.toNat:Int) - 128),rfl,?_⟩
       simp [f0,f1,f8,f10,cut_self hcl,hc]; decide
   · have wm:=wmul (((b0.toNat:Int) - 240) * 64+(b1.toNat:Int) - 128) (by omega) (by omega)
     have wa:=wadd (((b0.toNat:Int) - 240) * 64+(b1.toNat:Int) - 128) b2 (by omega) (by omega)
     have ws:=wsb (((b0.toNat:Int) - 240) * 64+(b1.toNat:Int) - 128) b2 (by omega) (by omega)
     simp [f0,f1,f8,f11,w12,B2]
     refine CallK_of' (hm b2 _) ?_
     have hc:=hcont b2
     cases hcb:contB b2 with
     | false =>
       rw [hcb] at hc
       have hc:¬ (128≤b2.toNat∧b2.toNat < 192):=by simpa using hc
       simp
       omega
     | true =>
       rw [hcb] at hc
       have hc:128≤b2.toNat∧b2.toNat < 192:=by simpa using hc
       simp [f0,f1,f8,f9,f11,w12,B2,hwb,wm,wa,ws]
       refine NextM_of H'.length 2 (Nat.le_refl _) (by simp) (by omega) ⟨3,((((b0.toNat:Int) - 240) * 64+(b1.toNat:Int) - 128) * 64+(b2.toNat:Int) - 128),rfl,?_⟩
       simp [f0,f1,f8,f10,cut_self hcl,hc,q]; decide
   · have wm:=wmul ((((b0.toNat:Int) - 240) * 64+(b1.toNat:Int) - 128) * 64+(b2.toNat:Int) - 128) (by omega) (by omega)
     have wa:=wadd ((((b0.toNat:Int) - 240) * 64+(b1.toNat:Int) - 128) * 64+(b2.toNat:Int) - 128) b3 (by omega) (by omega)
     have ws:=wsb ((((b0.toNat:Int) - 240) * 64+(b1.toNat:Int) - 128) * 64+(b2.toNat:Int) - 128) b3 (by omega) (by omega)
     simp [f0,f1,f8,f11,w13,B3]
     refine CallK_of' (hm b3 _) ?_
     have hc:=hcont b3
     cases hcb:contB b3 with
     | false =>
       rw [hcb] at hc
       have hc:¬ (128≤b3.toNat∧b3.toNat < 192):=by simpa using hc
       simp
       omega
     | true =>
       rw [hcb] at hc
       have hc:128≤b3.toNat∧b3.toNat < 192:=by simpa using hc
       simp [f0,f1,f8,f9,f11,w13,B3,hwb,wm,wa,ws]
       refine NextM_of H'.length 1 (Nat.le_refl _) (by simp) (by omega) ⟨4,(((((b0.toNat:Int) - 240) * 64+(b1.toNat:Int) - 128) * 64+(b2.toNat:Int) - 128) * 64+(b3.toNat:Int) - 128),rfl,?_⟩
       simp [f0,f1,f8,f10,cut_self hcl,hc,q]; decide
   · simp [f8,f11]
     simp [f8,f9,f10,q]
 · rintro fr H' ⟨f4,f5,f6,rfl,hc⟩
   simp
   simp [RetK,cut_self hcl,f4,f5,f6]
   exact hfin _ _ _ (by rw [hD,if_neg (fun q=>hc (by omega))]; rfl) (by rw [hD,if_neg (fun q=>hc (by omega))]; rfl)
 · rintro fr H' ⟨f8,f10,rfl,hc,f9⟩
   generalize hV:(((((b0.toNat:Int) - 240) * 64+(b1.toNat:Int) - 128) * 64+(b2.toNat:Int) - 128) * 64+(b3.toNat:Int) - 128)=V at f9
   by_cases r1:V < 65536
   · simp [f8,f9,f10,r1]
     simp [RetK,cut_self hcl]
     exact hfin _ _ _ (by rw [hD,if_neg (by omega)]; rfl) (by rw [hD,if_neg (by omega)]; rfl)
   by_cases r2:1114111 < V
   · simp [f8,f9,f10,r1,r2]
     simp [RetK,cut_self hcl]
     exact hfin _ _ _ (by rw [hD,if_neg (by omega)]; rfl) (by rw [hD,if_neg (by omega)]; rfl)
   have good:∀ p:Prop,(1:Nat)=1:=fun _=>rfl
   by_cases r3:55296≤V
   · by_cases r4:V < 57344
     · simp [f8,f9,f10,r1,r2,r3,r4]
       simp [RetK,cut_self hcl]
       exact hfin _ _ _ (by rw [hD,if_neg (by omega)]; rfl) (by rw [hD,if_neg (by omega)]; rfl)
     · simp [f8,f9,f10,r1,r2,r3,r4]
       simp [RetK,cut_self hcl,f8,f9]
       exact hfin _ _ _ (by rw [hD,if_pos (by omega)]; rfl) (by rw [hD,if_pos (by omega)]; simp)
   · simp [f8,f9,f10,r1,r2,r3]
     simp [RetK,cut_self hcl,f8,f9]
     exact hfin _ _ _ (by rw [hD,if_pos (by omega)]; rfl) (by rw [hD,if_pos (by omega)]; simp)
theorem Has.bad3 {f fn} (h:Has P f (irR3Bad fn)) (hd:∀ (s:Bs) (n:Nat),n < s.length→s.length≤1048576→∀ H,ACall P fn [.d (.str s),.d (.int .i64 (n:Int))] H (Next3Q (s.drop n) H)) (s:Bs) (hl:s.length≤1048576) (H:Hp):ACall P f [.d (.str s)] H (fun r H'=>r = .d (.int .i64 (badS s))∧H'=H):=by
 obtain ⟨fn,hf,hcf⟩:=h
 refine acall_fin hf hcf (by simp [irR3Bad]) fun hcl _ => ?_
 simp [irR3Bad]
 refine LoopK_outR 0 (fun fr H'=>badS s = -1∧H'=H) (fun fr H'=>fr 2 = .d (.int .i64 (badS s))∧H'=H) ?_ ?_ ?_
 · refine LoopM_of H.length (fun d fr H'=>∃ n:Nat,d=s.length - n∧n≤s.length∧badS s=badF (s.length - n) (s.drop n) n∧fr 0 = .d (.str s)∧fr 3 = .d (.int .i64 (n:Int))∧H'=H) (s.length - 0) (by simp) ⟨0,rfl,by omega,rfl,?_⟩ ?_
   · simp [cut_self hcl]
   rintro d fr H' ⟨n,rfl,hn,hb,f0,f3,rfl⟩
   simp [f0,f3]
   refine BrK_split (fun hlt => ?_) (fun hlt => ?_)
   · have hlt:n < s.length:=by simpa using hlt
     have hne:s.drop n ≠ []:=fun e=>by have:=List.drop_eq_nil_iff.1 e; omega
     have hdl:=decU_len hne
     have hdr:∀ k,(s.drop n).drop k=s.drop (n+k):=fun k=>List.drop_drop ..
     have hfl:s.length - n=(s.length - n - 1)+1:=by omega
     rw [hfl,badF,if_neg hne] at hb
     simp only [List.length_drop] at hdl
     simp [f0,f3]
     refine CallK_of (hd s n hlt hl H') ?_
     rintro _ H1 ⟨v,rfl,hH⟩
     cases hH
     simp only [hdr] at hb
     unfold decOk
     generalize decU (s.drop n)=D at hb hdl
     obtain ⟨R,W⟩:=D
     simp only at hb hdl
     have hwr:IntKind.i64.wrap ((n:Int)+W)=((n+W:Nat):Int):=by rw [wrap_i64 (by omega) (by omega)]; omega
     by_cases hR:R=65533∧W=1
     · rw [if_pos (by rw [hR.1,hR.2])] at hb
       simp [hR.1,hR.2,f3,hb]
     · rw [if_neg (by simpa using hR)] at hb
       have hok:(!(decide (R=65533) && decide (W=1)))=true:=by simp; omega
       rw [hok]
       simp [f3,hwr]
       refine NextM_of _ (s.length - (n+W)) (Nat.le_refl _) (by simp) (by omega) ⟨n+W,rfl,by omega,?_,?_⟩
       · rw [hb]; exact badF_fuel _ _ _ _ (by simp; omega) (by simp)
       · simp [f0,cut_self hcl]
   · have hge : n = s.length := by have : ¬ (n < s.length) := by simpa using hlt
                                   omega
     have:badS s = -1:=by rw [hb,hge]; simp [badF]
     simp [this]
 · rintro fr H' ⟨f2,rfl⟩
   simp
   simp [RetK,cut_self hcl,f2]
 · rintro fr H' ⟨hb,rfl⟩
   simp
   simp [RetK,cut_self hcl,hb]
end
end
section
theorem strOp_add' {a b:Bs} (h:a.length+b.length≤9223372036854775807):strOp .add a b=some (.str (a++b)):=by simp only [strOp]; rw [if_pos h]
section
variable {bt:TypeId} {H X:Hp} {b t:Nat} {bs bs':Bs}
end
section
variable {P:Program}
end
end
section
theorem unqI_cons (b:UInt8) (r:Bs):unqI (b :: r)=if b=92 then (match r with | []=>none | c :: t=>(unesc c).bind fun x=>(unqI t).map (x :: ·)) else if b.toNat < 32∨b=34 then none else (unqI r).map (b :: ·):=by
 cases r with
 | nil=>simp only [unqI]; rfl
 | cons c t=>simp only [unqI]
section
variable {P:Program}
theorem Has.unquote3 {f} (h:Has P f irR3Unquote) (s:Bs) (hl:s.length≤1048576) (H:Hp):ACall P f [.d (.str s)] H (fun r H'=>r=unqR (unqV s)∧H'=H):=by
 obtain ⟨fn,hf,hcf⟩:=h
 refine acall_fin hf hcf (by simp [irR3Unquote]) fun hcl _ => ?_
 by_cases h1:s.length < 2
 case pos =>
  have h1':(s.length:Int) < 2:=by omega
  simp [irR3Unquote,h1']
  simp [RetK,cut_self hcl,unqV,unqR,h1]
 have h1':¬ (s.length:Int) < 2:=by omega
 obtain ⟨b0,hb0⟩:∃ b,byteAt s 0=some b:=⟨s[0],by simp [byteAt]⟩
 obtain ⟨b1,hb1⟩:∃ b,byteAt s ((s.length:Int) - 1)=some b:=by
  refine ⟨s[s.length - 1],?_⟩
  have e:((s.length:Int) - 1)=((s.length - 1:Nat):Int):=by omega
  rw [e,byteAt_nat,List.getElem?_eq_getElem]
 have hh:s.head?=some b0:=by
  cases s with
  | nil=>simp at h1
  | cons a r=>simpa [byteAt] using hb0
 have hg:s.getLast?=some b1:=by
  have e:((s.length:Int) - 1)=((s.length - 1:Nat):Int):=by omega
  rw [List.getLast?_eq_getElem?,← byteAt_nat,← e]
  exact hb1
 have hwm:IntKind.i64.wrap ((s.length:Int) - 1)=s.length - 1:=wrap_i64 (by omega) (by omega)
 have byte34:∀ b:UInt8,((b.toNat:Int)=34) ↔ b=34:=fun b=>byte_eq b 34
 by_cases h2:b0=34
 case neg =>
  have h2':¬ ((b0.toNat:Int)=34):=fun e=>h2 ((byte34 _).1 e)
  simp [irR3Unquote,h1',hb0,h2']
  simp [RetK,cut_self hcl,unqV,unqR,hh,h2]
 by_cases h3:b1=34
 case neg =>
  have h3':¬ ((b1.toNat:Int)=34):=fun e=>h3 ((byte34 _).1 e)
  simp [irR3Unquote,h1',hb0,h2,hwm,hb1,h3']
  simp [RetK,cut_self hcl,unqV,unqR,hg,h3]
 subst h2; subst h3
 have hU:unqV s=unqI ((s.drop 1).take (s.length - 2)):=by simp [unqV,h1,hh,hg]
 have hsub:subL s 1 ((s.length:Int) - 1)=some ((s.drop 1).take (s.length - 2)):=by
  have:=sub_ok (s:=s) (n:=1) (w:=s.length - 2) (by omega)
  rw [← this]; congr 1; omega
 have hIl:((s.drop 1).take (s.length - 2)).length≤1048576:=by simp; omega
 rw [hU]
 generalize (s.drop 1).take (s.length - 2)=I at hIl hsub ⊢
 simp [irR3Unquote,h1',hb0,hwm,hb1,hsub]
 clear hsub hU hb0 hb1 hh hg hwm
 refine LoopK_outR 0 (fun fr H'=>∃ x,unqI I=some x∧fr 5 = .d (.str x)∧H'=H) (fun fr H'=>fr 2 = .d (.str [])∧fr 3 = .d (.int .i64 22)∧unqI I=none∧H'=H) ?_ ?_ ?_
 · refine LoopM_of H.length (fun d fr H'=>∃ (x J:Bs),d=J.length∧x.length+J.length≤1048576∧unqI I=(unqI J).map (x ++ ·)∧fr 5 = .d (.str x)∧fr 6 = .d (.str J)∧H'=H) I.length (by simp) ⟨[],I,rfl,by simpa using hIl,by simp,?_⟩ ?_
   · simp [cut_self hcl]
   rintro d fr H' ⟨x,J,rfl,hJl,hq,f5,f6,rfl⟩
   cases J with
   | nil =>
     simp [f6]
     simp [f5,hq,unqI]
   | cons b r =>
     have hpos:(0:Int) < (r.length:Int)+1:=by omega
     have hb:byteAt (b :: r) 0=some b:=by simp [byteAt]
     rw [unqI_cons] at hq
     simp only [List.length_cons] at hJl
     simp [f6,hb,hpos]
     have s1:subL (b :: r) 0 1=some [b]:=by simp [subL]; omega
     have s2:subL (b :: r) 1 ((b :: r).length:Int)=some r:=by
      have:=sub_end (s:=b :: r) (n:=1) (by simp only [List.length_cons]; omega)
      simpa using this
     simp only [List.length_cons,Int.natCast_add,Int.natCast_one] at s2
     by_cases h92:b=92
     · subst h92
       rw [if_pos rfl] at hq
       cases r with
       | nil =>
         simp only at hq
         simp [f5,f6]
         simpa using hq
       | cons c t =>
         have hb1:byteAt (92 :: c :: t) 1=some c:=by simp [byteAt]
         have s3:subL (92 :: c :: t) 2 ((t.length:Int)+1+1)=some t:=by
          have:=sub_end (s:=92 :: c :: t) (n:=2) (by simp only [List.length_cons]; omega)
          simpa using this
         have hlen:¬ ((t.length:Int)+1+1 < 2):=by omega
         simp only [List.length_cons] at hJl
         simp only at hq
         have put:∀ y:UInt8,unesc c=some y→unqI I=(unqI t).map ((x++[y]) ++ ·):=fun y hy=>by
          rw [hq,hy]; simp [Function.comp_def]
         have add:∀ y:UInt8,strOp .add x [y]=some (.str (x++[y])):=fun y=>strOp_add' (by simp; omega)
         have hcb:∀ y:UInt8,((c.toNat:Int)=(y.toNat:Int)) ↔ c=y:=byte_eq c
         simp [f5,f6,hb1,hlen]
         by_cases c110:c=110
         · subst c110
           simp [f5,f6,s3,add,-strOp]
           refine NextM_of H'.length t.length (Nat.le_refl _) (by simp) (by omega) ⟨x++[10],t,rfl,by simp; omega,put 10 (by decide),?_⟩
           simp [cut_self hcl]
         have n110:¬ ((c.toNat:Int)=110):=fun e=>c110 ((hcb 110).1 e)
         by_cases c116:c=116
         · subst c116
           simp [f5,f6,s3,add,-strOp]
           refine NextM_of H'.length t.length (Nat.le_refl _) (by simp) (by omega) ⟨x++[9],t,rfl,by simp; omega,put 9 (by decide),?_⟩
           simp [cut_self hcl]
         have n116:¬ ((c.toNat:Int)=116):=fun e=>c116 ((hcb 116).1 e)
         by_cases c34:c=34
         · subst c34
           simp [f5,f6,s3,add,-strOp]
           refine NextM_of H'.length t.length (Nat.le_refl _) (by simp) (by omega) ⟨x++[34],t,rfl,by simp; omega,put 34 (by decide),?_⟩
           simp [cut_self hcl]
         have n34:¬ ((c.toNat:Int)=34):=fun e=>c34 ((hcb 34).1 e)
         by_cases c92:c=92
         · subst c92
           simp [f5,f6,s3,add,-strOp]
           refine NextM_of H'.length t.length (Nat.le_refl _) (by simp) (by omega) ⟨x++[92],t,rfl,by simp; omega,put 92 (by decide),?_⟩
           simp [cut_self hcl]
         have n92:¬ ((c.toNat:Int)=92):=fun e=>c92 ((hcb 92).1 e)
         have hnone:unesc c=none:=by simp [unesc,c110,c116,c34,c92]
         rw [hnone] at hq
         simp [n110,n116,n34,n92]
         simpa using hq
     · rw [if_neg h92] at hq
       have n92:¬ ((b.toNat:Int)=92):=fun e=>h92 ((byte_eq b 92).1 e)
       by_cases hlo:b.toNat < 32
       · have hlo':(b.toNat:Int) < 32:=by omega
         rw [if_pos (.inl hlo)] at hq
         simp [hlo']
         simpa using hq
       have hlo':¬ (b.toNat:Int) < 32:=by omega
       by_cases h34:b=34
       · subst h34
         rw [if_pos (.inr rfl)] at hq
         simp
         simpa using hq
       have n34:¬ ((b.toNat:Int)=34):=fun e=>h34 ((byte_eq b 34).1 e)
       rw [if_neg (by simp [hlo,h34])] at hq
       have add:strOp .add x [b]=some (.str (x++[b])):=strOp_add' (by simp; omega)
       simp [hlo',n34,n92,f5,f6,s1,s2,add,-strOp]
       refine NextM_of H'.length r.length (Nat.le_refl _) (by simp) (by simp) ⟨x++[b],r,rfl,by simp; omega,?_,?_⟩
       · rw [hq]; simp [Function.comp_def]
       · simp [cut_self hcl]
 · rintro fr H' ⟨f2,f3,hn,rfl⟩
   simp
   simp [RetK,cut_self hcl,f2,f3,hn,unqR]
 · rintro fr H' ⟨x,hx,f5,rfl⟩
   simp [f5]
   simp [RetK,cut_self hcl,hx,unqR]
theorem Has.lead4 {f} (h:Has P f irR4Lead) (s:Bs) (n:Nat) (hn:n≤s.length) (hl:s.length≤1048576) (H:Hp):ACall P f [.d (.str s),.d (.int .i64 (n:Int))] H (fun r H'=>r = .d (.int .i64 ((n+leadS false (s.drop n):Nat):Int))∧H'=H):=by
 obtain ⟨fn,hf,hcf⟩:=h
 refine acall_fin hf hcf (by simp [irR4Lead]) fun hcl _ => ?_
 have hL:=lead_le false (s.drop n)
 simp only [List.length_drop] at hL
 generalize hLL:leadS false (s.drop n)=L at hL ⊢
 simp [irR4Lead]
 refine LoopK_outR 0 (fun fr H'=>fr 1 = .d (.int .i64 ((n+L:Nat):Int))∧H'=H) (fun fr H'=>fr 4 = .d (.int .i64 ((n+L:Nat):Int))∧H'=H) ?_ ?_ ?_
 · refine LoopM_of H.length (fun d fr H'=>∃ p:Nat,d=s.length - p∧p≤s.length∧p+leadS false (s.drop p)=n+L∧fr 0 = .d (.str s)∧fr 1 = .d (.int .i64 (p:Int))∧H'=H) (s.length - n) (by simp) ⟨n,rfl,hn,by rw [hLL],?_⟩ ?_
   · simp [cut_self hcl]
   rintro d fr H' ⟨p,rfl,hp,hq,f0,f1,rfl⟩
   cases hd:s.drop p with
   | nil =>
     have hpl:p=s.length:=by have:=List.drop_eq_nil_iff.1 hd; omega
     rw [hd] at hq
     simp only [leadS,Nat.add_zero] at hq
     have hn':¬ ((p:Int) < s.length):=by omega
     simp [f0,f1,hn']
     omega
   | cons b r =>
     obtain ⟨hb,hlt⟩:=byteAt_drop hd
     have hdr:s.drop (p+1)=r:=by rw [← List.drop_drop,hd]; rfl
     have hlt':(p:Int) < s.length:=by omega
     have hw:IntKind.i64.wrap ((p:Int)+1)=((p+1:Nat):Int):=by rw [wrap_i64 (by omega) (by omega)]; omega
     simp [f0,f1,hlt',hb]
     cases hB:blankB b with
     | true =>
       have hq':leadS false (s.drop p)=leadS false r+1:=by rw [hd,leadS,if_pos hB]
       have hbl:=hB
       unfold blankB at hbl
       generalize ha:decide ((b.toNat:Int)=32)=a at hbl ⊢
       generalize hc:decide ((b.toNat:Int)=9)=c at hbl ⊢
       generalize he:decide ((b.toNat:Int)=10)=e at hbl ⊢
       generalize hg:decide ((b.toNat:Int)=13)=g at hbl ⊢
       cases a<;>cases c<;>cases e<;>cases g<;>simp at hbl<;>simp [f0,f1,hb,ha,hc,he,hg,hw] <;>
        (refine NextM_of H'.length (s.length - (p+1)) (Nat.le_refl _) (by simp) (by omega) ⟨p+1,rfl,by omega,by rw [hdr]; omega,?_⟩; simp [f0,cut_self hcl])
     | false =>
       have hbl:=hB
       unfold blankB at hbl
       simp only [Bool.or_eq_false_iff] at hbl
       obtain ⟨⟨⟨a1,a2⟩,a3⟩,a4⟩:=hbl
       simp [f0,f1,hb,a1,a2,a3,a4]
       by_cases h35:(b.toNat:Int)=35
       · have hhb:moreB hashB (s.drop p)=true:=by rw [hd]; simp [moreB,hashB,h35]
         obtain ⟨hc,hc1⟩:=lead_hash hhb
         have hstep:=runN_step noNlB (s.drop p)
         have hW:=runN_le noNlB (s.drop p)
         simp only [drop_add',List.length_drop] at hW hstep hc
         generalize runN noNlB (s.drop p)=wc at hc hc1 hstep hW
         simp [h35,f0,f1]
         refine LoopK_out 2 (fun fr H''=>fr 0 = .d (.str s)∧fr 1 = .d (.int .i64 ((p+wc:Nat):Int))∧H''=H') ?_ ?_
         · refine LoopM_of H'.length (fun d fr H''=>∃ q,d=wc - q∧q≤wc∧fr 0 = .d (.str s)∧fr 1 = .d (.int .i64 ((p+q:Nat):Int))∧H''=H') wc (by simp) ⟨0,?_⟩ ?_
           · simp [f0,f1,cut_self hcl]
           rintro d fr H'' ⟨q,rfl,hqq,f0,f1,rfl⟩
           have hm:=hstep q hqq
           have hwq:IntKind.i64.wrap ((p:Int)+q+1)=((p+(q+1):Nat):Int):=by rw [wrap_i64 (by omega) (by omega)]; omega
           simp only [Int.natCast_add] at f1
           cases hd2:s.drop (p+q) with
           | nil =>
             have h0:p+q=s.length:=by have:=List.drop_eq_nil_iff.1 hd2; omega
             have h0':¬ ((p:Int)+q < s.length):=by omega
             rw [hd2] at hm
             simp [moreB] at hm
             have:q=wc:=by omega
             subst this
             simp [f0,f1,h0']
           | cons c t =>
             obtain ⟨hb2,hlt2⟩:=byteAt_drop hd2
             have hlt2':(p:Int)+q < s.length:=by omega
             rw [hd2] at hm
             simp only [moreB,noNlB] at hm
             simp only [Int.natCast_add] at hb2
             by_cases h10:(c.toNat:Int)=10
             · have:q=wc:=by
                simp [h10] at hm
                omega
               subst this
               simp [f0,f1,hlt2',hb2,h10]
             · have hql:q < wc:=by simpa [h10] using hm
               simp [f0,f1,hlt2',hb2,h10,hwq]
               refine NextM_of H''.length (wc - (q+1)) (Nat.le_refl _) (by simp) (by omega) ⟨q+1,rfl,by omega,?_⟩
               simp [f0,cut_self hcl]
         rintro fr H'' ⟨f0,f1,rfl⟩
         simp
         refine NextM_of H''.length (s.length - (p+wc)) (Nat.le_refl _) (by simp) (by omega) ⟨p+wc,rfl,by omega,by omega,?_⟩
         simp [f0,f1,cut_self hcl]
       · have hhb:hashB b=false:=by simp [hashB,h35]
         have h0:leadS false (s.drop p)=0:=by rw [hd,leadS,hB,hhb]; rfl
         simp [h35,f1]
         omega
 · rintro fr H' ⟨f4,rfl⟩
   simp
   simp [RetK,cut_self hcl,f4]
 · rintro fr H' ⟨f1,rfl⟩
   simp [f1]
   simp [RetK,cut_self hcl]
end
end
theorem signV_two:∀ (s:Bs),signV s=match s with
 | []=>[]
 | [b]=>if b ∈ ([40,41,123,125,44,59,58,46,61,43,45,42,60]:List UInt8) then [b] else []
 | b :: c :: _=>if b=61∧c=61 then [61,61] else if b ∈ ([40,41,123,125,44,59,58,46,61,43,45,42,60]:List UInt8) then [b] else []:=by
 intro s
 match s with
 | []=>rfl
 | [b] =>
   simp only [signV,signsT,List.find?,List.isPrefixOf]
   by_cases h:b ∈ ([40,41,123,125,44,59,58,46,61,43,45,42,60]:List UInt8)
   · simp only [List.mem_cons,List.not_mem_nil,or_false] at h
     rcases h with rfl | rfl | rfl | rfl | rfl | rfl | rfl | rfl | rfl | rfl | rfl | rfl | rfl<;>rfl
   · simp only [List.mem_cons,List.not_mem_nil,or_false,not_or] at h
     obtain ⟨h1,h2,h3,h4,h5,h6,h7,h8,h9,h10,h11,h12,h13⟩:=h
     have g:∀ x:UInt8,b ≠ x→(x == b)=false:=fun x h=>by simpa using Ne.symm h
     simp [g _ h1,g _ h2,g _ h3,g _ h4,g _ h5,g _ h6,g _ h7,g _ h8,g _ h9,g _ h10,g _ h11,g _ h12,g _ h13,h1,h2,h3,h4,h5,h6,h7,h8,h9,h10,h11,h12,h13]
 | b :: c :: r =>
   simp only [signV,signsT,List.find?,List.isPrefixOf]
   by_cases h:b ∈ ([40,41,123,125,44,59,58,46,61,43,45,42,60]:List UInt8)
   · by_cases hc:c=61
     · subst hc
       simp only [List.mem_cons,List.not_mem_nil,or_false] at h
       rcases h with rfl | rfl | rfl | rfl | rfl | rfl | rfl | rfl | rfl | rfl | rfl | rfl | rfl<;>rfl
     · have gc:((61:UInt8) == c)=false:=by simpa using Ne.symm hc
       simp only [List.mem_cons,List.not_mem_nil,or_false] at h
       rcases h with rfl | rfl | rfl | rfl | rfl | rfl | rfl | rfl | rfl | rfl | rfl | rfl | rfl<;>simp [gc,hc]
   · simp only [List.mem_cons,List.not_mem_nil,or_false,not_or] at h
     obtain ⟨h1,h2,h3,h4,h5,h6,h7,h8,h9,h10,h11,h12,h13⟩:=h
     have g:∀ x:UInt8,b ≠ x→(x == b)=false:=fun x h=>by simpa using Ne.symm h
     simp [g _ h1,g _ h2,g _ h3,g _ h4,g _ h5,g _ h6,g _ h7,g _ h8,g _ h9,g _ h10,g _ h11,g _ h12,g _ h13,h1,h2,h3,h4,h5,h6,h7,h8,h9,h10,h11,h12,h13]
theorem signV_1 (b:UInt8):signV [b]=if b ∈ ([40,41,123,125,44,59,58,46,61,43,45,42,60]:List UInt8) then [b] else []:=signV_two [b]
theorem signV_cc (b c:UInt8) (r:Bs):signV (b :: c :: r)=if b=61∧c=61 then [61,61] else if b ∈ ([40,41,123,125,44,59,58,46,61,43,45,42,60]:List UInt8) then [b] else []:=signV_two (b :: c :: r)
theorem tokN_cons (b:UInt8) (r:Bs):tokN (b :: r)=if letterB b then
 if (b :: r).take (runN wordB (b :: r)) ∈ keysL then (0,2,runN wordB (b :: r)) else if 40 < runN wordB (b :: r) then (26,0,0) else (0,1,runN wordB (b :: r))
 else if digitB b then
  if numOk ((b :: r).take (runN wordB (b :: r))) then (0,3,runN wordB (b :: r)) else (23,0,0)
 else if b=34 then
  if (strV (b :: r)).2=0 then (0,4,(strV (b :: r)).1.length) else (22,0,0)
 else if signV (b :: r)=[] then (21,0,0) else (0,5,(signV (b :: r)).length):=rfl
section
def One4Q (S:Bs) (n:Nat) (H:Hp):A→Hp→Prop:=fun r H'=>∃ k m:Int,r = .tup [.d (.int .i64 k),.d (.int .i64 m),.d (.int .i64 (tokN S).1)]∧H'=H∧((tokN S).1=0→k=(tokN S).2.1∧m=((n+(tokN S).2.2:Nat):Int))
def numM (acc:Nat) (l:Bs):Bool:=match Lib.parseUintM 9223372036854775807 acc l with
 | .ok _=>true
 | _=>false
theorem numM_nil (acc:Nat):numM acc []=true:=rfl
theorem numM_cons (acc:Nat) (c:UInt8) (r:Bs):numM acc (c :: r)=if digitB c=true∧acc≤(9223372036854775807 - (c.toNat - 48)) / 10 then numM (acc * 10+(c.toNat - 48)) r else false:=by
 unfold numM
 rw [Lib.parseUintM]
 by_cases hd:48≤c.toNat∧c.toNat≤57
 · have hD:digitB c=true:=by simp [digitB]; omega
   rw [if_pos hd]
   by_cases h1:acc≤(9223372036854775807 - (c.toNat - 48)) / 10
   · rw [if_neg (by omega),if_neg (by omega),if_pos ⟨hD,h1⟩]
   · have hR:¬ (digitB c=true∧acc≤(9223372036854775807 - (c.toNat - 48)) / 10):=fun q=>h1 q.2
     rw [if_neg hR]
     by_cases h2:1844674407370955162≤acc
     · rw [if_pos h2]
     · rw [if_neg h2,if_pos (by omega)]
 · have hD:¬ digitB c=true:=by simp [digitB]; omega
   rw [if_neg hd,if_neg (fun q=>hD q.1)]
theorem numOk_ne {s:Bs} (h:s ≠ []):numOk s=numM 0 s:=by
 unfold numOk numM Lib.parseUintB
 rw [if_neg h]
 have e:(2 ^ 63 - 1:Nat)=9223372036854775807:=by decide
 rw [e]
 cases Lib.parseUintM 9223372036854775807 0 s<;>rfl
def headLB:Bs→Bool
 | []=>false
 | b :: _=>letterB b
theorem keys_letter:∀ k ∈ keysL,headLB k=true:=List.all_eq_true.1 (by decide)
theorem strS_cons (b:UInt8) (t:Bs):strS (b :: t)=if b=34 then some 1 else if b=92 then (strS (t.drop 1)).map (·+2) else if b=10 then none else (strS t).map (·+1):=by
 cases t with
 | nil =>
   simp only [strS,List.drop_nil,Option.map_none]
   by_cases h:b=34
   · rw [if_pos h,if_pos h]
   · rw [if_neg h,if_neg h]; simp
 | cons c r=>simp only [strS,List.drop_succ_cons,List.drop_zero]
section
variable {P:Program}
theorem Has.one4 {f fl fd fk fu} (h:Has P f (irR4One fl fd fk fu)) (hl:ByteOk P fl letterB) (hd:ByteOk P fd digitB) (hk:∀ s H,ACall P fk [.d (.str s)] H (fun r H'=>r = .d (.bool (decide (s ∈ keysL)))∧H'=H)) (hu:∀ (s:Bs) H,s.length≤1048576→ACall P fu [.d (.str s)] H (fun r H'=>r=unqR (unqV s)∧H'=H))
 (s:Bs) (n:Nat) (hn:n < s.length) (hsl:s.length≤1048576) (H:Hp):ACall P f [.d (.str s),.d (.int .i64 (n:Int))] H (One4Q (s.drop n) n H):=by
 obtain ⟨fn,hf,hcf⟩:=h
 refine acall_fin hf hcf (by simp [irR4One]) fun hcl _ => ?_
 have hfin:∀ (k m e:Int),e=(tokN (s.drop n)).1→(e=0→k=(tokN (s.drop n)).2.1∧m=((n+(tokN (s.drop n)).2.2:Nat):Int))→One4Q (s.drop n) n H (.tup [.d (.int .i64 k),.d (.int .i64 m),.d (.int .i64 e)]) H:=fun k m e h1 h2=>⟨k,m,by rw [h1],rfl,fun h=>h2 (by rw [h1,h])⟩
 generalize One4Q (s.drop n) n H=Q at hfin ⊢
 have hrl:=runN_le Zam.wordB (s.drop n)
 have hstep:=runN_step Zam.wordB (s.drop n)
 have hSl:(s.drop n).length=s.length - n:=by simp
 have hne:s.drop n ≠ []:=fun e=>by have:=List.drop_eq_nil_iff.1 e; omega
 simp only [drop_add'] at hstep
 have hsub:=fun w (hw:n+w≤s.length)=>sub_ok (s:=s) (n:=n) (w:=w) hw
 have hdrop:∀ j,s.drop (n+1+j)=((s.drop n).drop 1).drop j:=fun j=>by rw [List.drop_drop,List.drop_drop,Nat.add_assoc]
 cases hS:s.drop n with
 | nil=>exact absurd hS hne
 | cons b r =>
 rw [hS] at hfin hrl hstep hSl hsub hdrop
 obtain ⟨hb,-⟩:=byteAt_drop hS
 have hT:=tokN_cons b r
 generalize tokN (b :: r)=T at hT hfin
 have hw1:IntKind.i64.wrap ((n:Int)+1)=n+1:=wrap_i64 (by omega) (by omega)
 generalize hw:runN Zam.wordB (b :: r)=w at hT hrl hstep
 simp only [List.length_cons] at hSl hrl
 have hsw:=hsub w (by omega)
 have hWl:((b :: r).take w).length=w:=by simp only [List.length_take,List.length_cons]; omega
 have hWh:1≤w→∃ t,(b :: r).take w=b :: t:=fun h=>by
  obtain ⟨v,rfl⟩:∃ v,w=v+1:=⟨w - 1,by omega⟩
  exact ⟨_,rfl⟩
 have hwp:Zam.wordB b=true→1≤w:=fun h=>by
  have:=runN_pos (r:=r) h
  omega
 simp [irR4One,hw1,hb]
 refine CallK_of' (hl b _) ?_
 cases hlb:letterB b with
 | true =>
   have hw1':=hwp (by simp [Zam.wordB,hlb])
   rw [hlb,if_pos rfl] at hT
   simp
   refine LoopK_out 0 (fun fr H'=>fr 0 = .d (.str s)∧fr 1 = .d (.int .i64 (n:Int))∧fr 7 = .d (.int .i64 ((n:Int)+w))∧H'=H) ?_ ?_
   · refine LoopM_of H.length (fun d fr H'=>∃ j,d=w - j∧1≤j∧j≤w∧fr 0 = .d (.str s)∧fr 1 = .d (.int .i64 (n:Int))∧fr 7 = .d (.int .i64 ((n:Int)+j))∧H'=H) (w - 1) (by simp) ⟨1,rfl,Nat.le_refl _,hw1',?_⟩ ?_
     · simp [cut_self hcl]
     rintro d fr H' ⟨j,rfl,hj1,hj,f0,f1,f7,rfl⟩
     have hm:=hstep j hj
     have hwj:IntKind.i64.wrap ((n:Int)+j+1)=(n:Int)+((j:Int)+1):=by rw [wrap_i64 (by omega) (by omega)]; omega
     cases hd2:s.drop (n+j) with
     | nil =>
       have h0:n+j=s.length:=by have:=List.drop_eq_nil_iff.1 hd2; omega
       have h0':¬ ((n:Int)+j < s.length):=by omega
       rw [hd2] at hm
       have:j=w:=by simp [moreB] at hm; omega
       subst this
       simp [f0,f1,f7,h0']
     | cons c t =>
       obtain ⟨hb2,hlt2⟩:=byteAt_drop hd2
       have hlt2':(n:Int)+j < s.length:=by omega
       rw [hd2] at hm
       simp only [moreB,Zam.wordB] at hm
       simp only [Int.natCast_add] at hb2
       simp [f0,f1,f7,hlt2',hb2]
       refine CallK_of' (hl c _) ?_
       have nx:j < w→∀ fr':Fr,fr' 0 = .d (.str s)→fr' 1 = .d (.int .i64 (n:Int))→fr' 7 = .d (.int .i64 ((n:Int)+((j:Int)+1)))→True:=fun _ _ _ _ _=>trivial
       cases hlc:letterB c with
       | true =>
         have hql:j < w:=by simpa [hlc] using hm
         simp [f0,f1,f7,hwj]
         refine NextM_of H'.length (w - (j+1)) (Nat.le_refl _) (by simp) (by omega) ⟨j+1,rfl,by omega,by omega,?_⟩
         simp [f0,f1,cut_self hcl]
       | false =>
         simp [f0,f1,f7,hb2]
         refine CallK_of' (hd c _) ?_
         cases hdc:digitB c with
         | true =>
           have hql:j < w:=by simpa [hlc,hdc] using hm
           simp [f0,f1,f7,hwj]
           refine NextM_of H'.length (w - (j+1)) (Nat.le_refl _) (by simp) (by omega) ⟨j+1,rfl,by omega,by omega,?_⟩
           simp [f0,f1,cut_self hcl]
         | false =>
           have:j=w:=by simp [hlc,hdc] at hm; omega
           subst this
           simp [f0,f1,f7]
   rintro fr H' ⟨f0,f1,f7,rfl⟩
   obtain ⟨t,ht⟩:=hWh hw1'
   generalize (b :: r).take w=W at hT hsw hWl ht
   simp [f0,f1,f7,hsw]
   refine CallK_of' (hk W _) ?_
   by_cases hkW:W ∈ keysL
   · rw [if_pos hkW] at hT
     simp [hkW,f7]
     simp [RetK,cut_self hcl]
     exact hfin _ _ _ (by rw [hT]) (fun _=>by rw [hT]; simp)
   rw [if_neg hkW] at hT
   simp [hkW,f0,f1,hb]
   refine CallK_of' (hl b _) ?_
   by_cases h40:40 < w
   · rw [if_pos h40] at hT
     have h40':(40:Int) < w:=by omega
     simp [hlb,hWl,h40']
     simp [RetK,cut_self hcl]
     exact hfin _ _ _ (by rw [hT]) (fun h=>by cases h)
   · rw [if_neg h40] at hT
     have h40':¬ (40:Int) < w:=by omega
     simp [hlb,hWl,h40',f7]
     simp [RetK,cut_self hcl]
     exact hfin _ _ _ (by rw [hT]) (fun _=>by rw [hT]; simp)
 | false =>
   rw [hlb] at hT
   simp only [Bool.false_eq_true,if_false] at hT
   simp [hb]
   refine CallK_of' (hd b _) ?_
   cases hdb:digitB b with
   | true =>
     have hw1':=hwp (by simp [Zam.wordB,hdb])
     rw [hdb,if_pos rfl] at hT
     simp
     refine LoopK_out 0 (fun fr H'=>fr 0 = .d (.str s)∧fr 1 = .d (.int .i64 (n:Int))∧fr 7 = .d (.int .i64 ((n:Int)+w))∧H'=H) ?_ ?_
     · refine LoopM_of H.length (fun d fr H'=>∃ j,d=w - j∧1≤j∧j≤w∧fr 0 = .d (.str s)∧fr 1 = .d (.int .i64 (n:Int))∧fr 7 = .d (.int .i64 ((n:Int)+j))∧H'=H) (w - 1) (by simp) ⟨1,rfl,Nat.le_refl _,hw1',?_⟩ ?_
       · simp [cut_self hcl]
       rintro d fr H' ⟨j,rfl,hj1,hj,f0,f1,f7,rfl⟩
       have hm:=hstep j hj
       have hwj:IntKind.i64.wrap ((n:Int)+j+1)=(n:Int)+((j:Int)+1):=by rw [wrap_i64 (by omega) (by omega)]; omega
       cases hd2:s.drop (n+j) with
       | nil =>
         have h0:n+j=s.length:=by have:=List.drop_eq_nil_iff.1 hd2; omega
         have h0':¬ ((n:Int)+j < s.length):=by omega
         rw [hd2] at hm
         have:j=w:=by simp [moreB] at hm; omega
         subst this
         simp [f0,f1,f7,h0']
       | cons c t =>
         obtain ⟨hb2,hlt2⟩:=byteAt_drop hd2
         have hlt2':(n:Int)+j < s.length:=by omega
         rw [hd2] at hm
         simp only [moreB,Zam.wordB] at hm
         simp only [Int.natCast_add] at hb2
         simp [f0,f1,f7,hlt2',hb2]
         refine CallK_of' (hl c _) ?_
         have nx:j < w→∀ fr':Fr,fr' 0 = .d (.str s)→fr' 1 = .d (.int .i64 (n:Int))→fr' 7 = .d (.int .i64 ((n:Int)+((j:Int)+1)))→True:=fun _ _ _ _ _=>trivial
         cases hlc:letterB c with
         | true =>
           have hql:j < w:=by simpa [hlc] using hm
           simp [f0,f1,f7,hwj]
           refine NextM_of H'.length (w - (j+1)) (Nat.le_refl _) (by simp) (by omega) ⟨j+1,rfl,by omega,by omega,?_⟩
           simp [f0,f1,cut_self hcl]
         | false =>
           simp [f0,f1,f7,hb2]
           refine CallK_of' (hd c _) ?_
           cases hdc:digitB c with
           | true =>
             have hql:j < w:=by simpa [hlc,hdc] using hm
             simp [f0,f1,f7,hwj]
             refine NextM_of H'.length (w - (j+1)) (Nat.le_refl _) (by simp) (by omega) ⟨j+1,rfl,by omega,by omega,?_⟩
             simp [f0,f1,cut_self hcl]
           | false =>
             have:j=w:=by simp [hlc,hdc] at hm; omega
             subst this
             simp [f0,f1,f7]
     rintro fr H' ⟨f0,f1,f7,rfl⟩
     obtain ⟨t,ht⟩:=hWh hw1'
     generalize (b :: r).take w=W at hT hsw hWl ht
     simp [f0,f1,f7,hsw]
     refine CallK_of' (hk W _) ?_
     have hkW:¬ W ∈ keysL:=fun q=>by
      have:=keys_letter W q
      rw [ht,headLB,hlb] at this
      cases this
     rw [numOk_ne (by rw [ht]; simp)] at hT
     simp [hkW,f0,f1,hb]
     refine CallK_of' (hl b _) ?_
     simp [hlb]
     refine LoopK_outR 2 (fun fr H''=>fr 7 = .d (.int .i64 ((n:Int)+w))∧numM 0 W=true∧H''=H') (fun fr H''=>fr 4 = .d (.int .i64 0)∧fr 5 = .d (.int .i64 0)∧fr 6 = .d (.int .i64 23)∧numM 0 W=false∧H''=H') ?_ ?_ ?_
     · refine LoopM_of H'.length (fun d fr H''=>∃ (i acc:Nat),d=w - i∧i≤w∧acc≤9223372036854775807∧numM 0 W=numM acc (W.drop i)∧fr 7 = .d (.int .i64 ((n:Int)+w))∧fr 8 = .d (.str W)∧fr 9 = .d (.int .u64 (acc:Int))∧fr 10 = .d (.int .i64 (i:Int))∧H''=H') w (by simp) ⟨0,0,rfl,by omega,by omega,rfl,?_⟩ ?_
       · simp [f7,cut_self hcl]
       rintro d fr H'' ⟨i,acc,rfl,hi,hacc,hnm,f7,f8,f9,f10,rfl⟩
       rcases Nat.lt_or_ge i w with hlt | hge
       · have hlt':(i:Int) < w:=by omega
         have hdi:W.drop i=W[i]'(by omega) :: W.drop (i+1):=List.drop_eq_getElem_cons (by omega)
         obtain ⟨hbi,-⟩:=byteAt_drop hdi
         generalize W[i]'(by omega)=c at hdi hbi
         rw [hdi,numM_cons] at hnm
         have hwi:IntKind.i64.wrap ((i:Int)+1)=((i+1:Nat):Int):=by rw [wrap_i64 (by omega) (by omega)]; omega
         simp [f8,f10,hWl,hlt',hbi]
         refine CallK_of' (hd c _) ?_
         cases hdc:digitB c with
         | false =>
           rw [hdc] at hnm
           simp only [Bool.false_eq_true,false_and,if_false] at hnm
           simp [hnm]
         | true =>
           rw [hdc] at hnm
           simp only [true_and] at hnm
           have hc:48≤c.toNat∧c.toNat≤57:=by simp [digitB] at hdc; omega
           have e1:IntKind.u8.wrap ((c.toNat:Int) - 48)=((c.toNat - 48:Nat):Int):=by
            simp [IntKind.wrap,IntKind.bits,IntKind.signed]; omega
           have e2:∀ x:Nat,x≤9223372036854775807→IntKind.u64.wrap (x:Int)=x:=fun x hx=>by
            simp [IntKind.wrap,IntKind.bits,IntKind.signed]; omega
           generalize hdd:c.toNat - 48=dd at e1 hnm
           obtain ⟨m,hm⟩:∃ m,m=9223372036854775807 - dd:=⟨_,rfl⟩
           obtain ⟨q,hq⟩:∃ q,q=m / 10:=⟨_,rfl⟩
           rw [← hm,← hq] at hnm
           have hddl:dd≤9:=by omega
           have e3:IntKind.u64.wrap (9223372036854775807 - (dd:Int))=(m:Int):=by
            rw [← e2 m (by omega)]; congr 1; omega
           have e4:IntKind.u64.wrap (Int.tdiv (m:Int) 10)=(q:Int):=by
            have:=e2 q (by omega)
            rw [hq] at this ⊢
            exact this
           have e4':IntKind.u64.wrap ((m:Int) / 10)=(q:Int):=by
            have:=e2 q (by omega)
            rw [hq] at this ⊢
            exact this
           simp [f7,f8,f9,f10,hbi,e1,e2 dd (by omega),e3,e4,e4']
           refine BrK_split (fun hbr => ?_) (fun hbr => ?_)
           · have hq':q < acc:=by simpa using hbr
             rw [if_neg (by omega)] at hnm
             simp [hnm]
           · have hq':¬ (q < acc):=by simpa using hbr
             rw [if_pos (by omega)] at hnm
             obtain ⟨a10,ha⟩:∃ a10,a10=acc * 10:=⟨_,rfl⟩
             rw [← ha] at hnm
             have e5:IntKind.u64.wrap ((acc:Int) * 10)=(a10:Int):=by rw [← e2 a10 (by omega)]; congr 1; omega
             have e6:IntKind.u64.wrap ((a10:Int)+dd)=((a10+dd:Nat):Int):=by rw [← e2 (a10+dd) (by omega)]; congr 1
             simp only [Int.natCast_add] at e6
             simp [f7,f8,f9,f10,e5,e6,hwi]
             refine NextM_of H''.length (w - (i+1)) (Nat.le_refl _) (by simp) (by omega) ⟨i+1,a10+dd,rfl,by omega,by omega,hnm,?_⟩
             simp [f7,f8,cut_self hcl]
       · have:i=w:=by omega
         subst this
         have h0':¬ ((i:Int) < i):=by omega
         rw [List.drop_eq_nil_of_le (by omega),numM_nil] at hnm
         simp [f7,f8,f10,hWl,hnm]
     · rintro fr H'' ⟨f4,f5,f6,hnm,rfl⟩
       rw [hnm] at hT
       simp only [Bool.false_eq_true,if_false] at hT
       simp
       simp [RetK,cut_self hcl,f4,f5,f6]
       exact hfin _ _ _ (by rw [hT]) (fun h=>by cases h)
     · rintro fr H'' ⟨f7,hnm,rfl⟩
       rw [hnm,if_pos rfl] at hT
       simp [f7]
       simp [RetK,cut_self hcl]
       exact hfin _ _ _ (by rw [hT]) (fun _=>by rw [hT]; simp)
   | false =>
     rw [hdb] at hT
     simp only [Bool.false_eq_true,if_false] at hT
     by_cases h34:b=34
     · subst h34
       rw [if_pos rfl] at hT
       have hSV:strV (34 :: r)=match strS r with
        | none=>([],22)
        | some k=>((34 :: r).take (k+1),if (unqV ((34 :: r).take (k+1))).isSome then 0 else 22):=rfl
       simp [hb]
       refine LoopK_out 4 (fun fr H'=>fr 0 = .d (.str s)∧fr 1 = .d (.int .i64 (n:Int))∧H'=H∧∃ j:Nat,fr 7 = .d (.int .i64 ((n:Int)+1+j))∧j≤s.length∧((strS r=none∧s.length≤n+1+j)∨(strS r=none∧n+1+j < s.length∧byteAt s ((n:Int)+1+j)=some 10)∨(strS r=some (j+1)∧n+1+j < s.length∧byteAt s ((n:Int)+1+j)=some 34))) ?_ ?_
       · refine LoopM_of H.length (fun d fr H'=>∃ j,d=s.length+1 - (n+1+j)∧n+1+j≤s.length+1∧strS r=(strS (r.drop j)).map (·+j)∧fr 0 = .d (.str s)∧fr 1 = .d (.int .i64 (n:Int))∧fr 7 = .d (.int .i64 ((n:Int)+1+j))∧H'=H) (s.length+1 - (n+1+0)) (by simp) ⟨0,rfl,by omega,by simp,?_⟩ ?_
         · simp [cut_self hcl]
         rintro d fr H' ⟨j,rfl,hj,hq,f0,f1,f7,rfl⟩
         have hdj:=hdrop j
         simp only [List.drop_succ_cons,List.drop_zero] at hdj
         cases hd2:s.drop (n+1+j) with
         | nil =>
           have h0:=List.drop_eq_nil_iff.1 hd2
           have h0':¬ ((n:Int)+1+j < s.length):=by omega
           rw [← hdj,hd2] at hq
           have hq:strS r=none:=by rw [hq]; rfl
           simp [f0,f1,f7,h0',hq]
           exact ⟨j,rfl,by omega,by omega⟩
         | cons c t =>
           obtain ⟨hb2,hlt2⟩:=byteAt_drop hd2
           have hlt2':(n:Int)+1+j < s.length:=by omega
           simp only [Int.natCast_add,Int.natCast_one] at hb2
           rw [hd2] at hdj
           have hj1:r.drop (j+1)=t:=by rw [← List.drop_drop,← hdj]; rfl
           have hj2:r.drop (j+2)=t.drop 1:=by rw [← hj1,List.drop_drop]
           rw [← hdj,strS_cons] at hq
           have hwA:IntKind.i64.wrap ((n:Int)+1+j+1)=(n:Int)+1+((j:Int)+1):=by rw [wrap_i64 (by omega) (by omega)]; omega
           have hwB:IntKind.i64.wrap ((n:Int)+1+((j:Int)+1)+1)=(n:Int)+1+((j:Int)+2):=by rw [wrap_i64 (by omega) (by omega)]; omega
           by_cases c34:c=34
           · subst c34
             rw [if_pos rfl] at hq
             have hq:strS r=some (j+1):=by rw [hq]; simp; omega
             simp [f0,f1,f7,hlt2',hb2,hq]
             exact ⟨j,rfl,by omega,by omega,by omega,hb2⟩
           have n34:¬ ((c.toNat:Int)=34):=fun e=>c34 ((byte_eq c 34).1 e)
           rw [if_neg c34] at hq
           by_cases c10:c=10
           · subst c10
             have hq:strS r=none:=by rw [hq]; simp
             simp [f0,f1,f7,hlt2',hb2,hq]
             exact ⟨j,rfl,by omega,.inr ⟨by omega,hb2⟩⟩
           have n10:¬ ((c.toNat:Int)=10):=fun e=>c10 ((byte_eq c 10).1 e)
           by_cases c92:c=92
           · subst c92
             rw [if_pos rfl] at hq
             simp [f0,f1,f7,hlt2',hb2,hwA,hwB]
             refine NextM_of H'.length (s.length+1 - (n+1+(j+2))) (Nat.le_refl _) (by simp) (by omega) ⟨j+2,rfl,by omega,?_,?_⟩
             · rw [hq,hj2]; cases strS (t.drop 1)<;>simp; omega
             · simp [f0,f1,cut_self hcl]
           have n92:¬ ((c.toNat:Int)=92):=fun e=>c92 ((byte_eq c 92).1 e)
           rw [if_neg c92,if_neg c10] at hq
           simp [f0,f1,f7,hlt2',hb2,hwA,n34,n10,n92]
           refine NextM_of H'.length (s.length+1 - (n+1+(j+1))) (Nat.le_refl _) (by simp) (by omega) ⟨j+1,rfl,by omega,?_,?_⟩
           · rw [hq,hj1]; cases strS t<;>simp; omega
           · simp [f0,f1,cut_self hcl]
       rintro fr H' ⟨f0,f1,rfl,j,f7,hjl,hor⟩
       rcases hor with ⟨hq,hge⟩ | ⟨hq,hlt,hbj⟩ | ⟨hq,hlt,hbj⟩
       · rw [hq] at hSV
         rw [hSV] at hT
         have hge':(s.length:Int)≤(n:Int)+1+j:=by omega
         simp [f0,f1,f7,hge']
         simp [RetK,cut_self hcl]
         exact hfin _ _ _ (by rw [hT]; rfl) (fun h=>by cases h)
       · rw [hq] at hSV
         rw [hSV] at hT
         have hge':¬ (s.length:Int)≤(n:Int)+1+j:=by omega
         simp [f0,f1,f7,hge',hbj]
         simp [RetK,cut_self hcl]
         exact hfin _ _ _ (by rw [hT]; rfl) (fun h=>by cases h)
       · rw [hq] at hSV
         rw [hSV] at hT
         have hge':¬ (s.length:Int)≤(n:Int)+1+j:=by omega
         have hwA:IntKind.i64.wrap ((n:Int)+1+j+1)=(n:Int)+((j+2:Nat):Int):=by rw [wrap_i64 (by omega) (by omega)]; omega
         have hsj:=hsub (j+2) (by omega)
         have hul:((34 :: r:Bs).take (j+2)).length=j+2:=by simp only [List.length_take,List.length_cons]; omega
         simp only at hT
         generalize (34 :: r:Bs).take (j+1+1)=U at hT hsj hul
         have hrange:IntKind.i64.wrap ((n:Int)+1+j+1)=(n:Int)+((j+2:Nat):Int):=hwA
         generalize hJ:(n:Int)+((j+2:Nat):Int)=J at hwA hsj
         simp [f0,f1,f7,hge',hbj,hwA,hsj]
         refine CallK_of' (hu U _ (by omega)) ?_
         cases hv:unqV U with
         | none =>
           rw [hv] at hT
           simp [unqR]
           simp [RetK,cut_self hcl]
           exact hfin _ _ _ (by rw [hT]; rfl) (fun h=>by cases h)
         | some x =>
           rw [hv] at hT
           simp [unqR,f7,hwA]
           simp [RetK,cut_self hcl]
           exact hfin _ _ _ (by rw [hT]; rfl) (fun _=>by rw [hT]; simp; omega)
     have n34:¬ ((b.toNat:Int)=34):=fun e=>h34 ((byte_eq b 34).1 e)
     rw [if_neg h34] at hT
     obtain ⟨L,hL⟩:∃ L:Bs,L=[40,41,123,125,44,59,58,46,61,43,45,42,60]:=⟨_,rfl⟩
     have hLl:L.length=13:=by rw [hL]; rfl
     by_cases htwo:b=61∧∃ r',r=61 :: r'
     · obtain ⟨rfl,r',rfl⟩:=htwo
       have hb1:byteAt s ((n:Int)+1)=some 61:=by
        have:s.drop (n+1)=61 :: r':=by rw [← List.drop_drop,hS]; rfl
        simpa using (byteAt_drop this).1
       have hlt:(n:Int)+1 < s.length:=by simp only [List.length_cons] at hSl; omega
       have hG:signV (61 :: 61 :: r')=[61,61]:=by rw [signV_cc]; rfl
       rw [hG,if_neg (by simp)] at hT
       have hwA:IntKind.i64.wrap ((n:Int)+1+1)=(n:Int)+2:=by rw [wrap_i64 (by omega) (by omega)]; omega
       simp [hb,hb1,hlt,hwA]
       simp [RetK,cut_self hcl]
       exact hfin _ _ _ (by rw [hT]) (fun _=>by rw [hT]; simp)
     have hG:signV (b :: r)=if b ∈ L then [b] else []:=by
      cases r with
      | nil=>rw [hL]; exact signV_1 b
      | cons c r' =>
        rw [signV_cc,if_neg (fun q=>htwo ⟨q.1,r',by rw [q.2]⟩),hL]
     rw [hG] at hT
     obtain ⟨b1,hb1,hone⟩:∃ b1:Bool,(b1=true→(n:Int)+1 < s.length)∧b1=decide ((n:Int)+1 < s.length):=⟨_,fun h=>by simpa using h,rfl⟩
     have hcond:b=61→(n:Int)+1 < s.length→∃ c:UInt8,byteAt s ((n:Int)+1)=some c∧¬ ((c.toNat:Int)=61):=fun h61 hlt=>by
      cases r with
      | nil=>simp only [List.length_nil] at hSl; omega
      | cons c r' =>
        refine ⟨c,?_,fun e=>htwo ⟨h61,r',by rw [(byte_eq c 61).1 e]⟩⟩
        have:s.drop (n+1)=c :: r':=by rw [← List.drop_drop,hS]; rfl
        simpa using (byteAt_drop this).1
     clear hb1 hone b1
     have hloop:True:=trivial
     by_cases hlt:(n:Int)+1 < s.length
     · by_cases h61:b=61
       · obtain ⟨c,hc1,hc2⟩:=hcond h61 hlt
         have e61:(b.toNat:Int)=61:=by rw [h61]; rfl
         simp [hb,hlt,hc1,hc2,e61]
         refine LoopK_outR 6 (fun fr H'=>b ∉ L∧H'=H) (fun fr H'=>fr 4 = .d (.int .i64 5)∧fr 5 = .d (.int .i64 ((n:Int)+1))∧fr 6 = .d (.int .i64 0)∧b ∈ L∧H'=H) ?_ ?_ ?_
         · refine LoopM_of H.length (fun d fr H'=>∃ i:Nat,d=13 - i∧i≤13∧b ∉ L.take i∧fr 0 = .d (.str s)∧fr 1 = .d (.int .i64 (n:Int))∧fr 7 = .d (.int .i64 ((n:Int)+1))∧fr 14 = .d (.str L)∧fr 15 = .d (.int .i64 (i:Int))∧H'=H) 13 (by simp) ⟨0,rfl,by omega,by simp,?_⟩ ?_
           · simp [cut_self hcl,hL]
           rintro d fr H' ⟨i,rfl,hi,hni,f0,f1,f7,f14,f15,rfl⟩
           rcases Nat.lt_or_ge i 13 with hlt13 | hge13
           · have hlt':(i:Int) < 13:=by omega
             have hdi:L.drop i=L[i]'(by omega) :: L.drop (i+1):=List.drop_eq_getElem_cons (by omega)
             have htk:L.take (i+1)=L.take i++[L[i]'(by omega)]:=List.take_succ_eq_append_getElem (by omega)
             have hmem:L[i]'(by omega) ∈ L:=List.getElem_mem _
             obtain ⟨hbi,-⟩:=byteAt_drop hdi
             generalize L[i]'(by omega)=c at hdi hbi htk hmem
             have hwi:IntKind.i64.wrap ((i:Int)+1)=((i+1:Nat):Int):=by rw [wrap_i64 (by omega) (by omega)]; omega
             simp [f0,f1,f14,f15,hLl,hlt',hbi,hb]
             by_cases hcb:c=b
             · subst hcb
               simp [f7,hmem]
             · have hcb':¬ ((c.toNat:Int)=b.toNat):=fun e=>hcb ((byte_eq c b).1 e)
               have hcb2:¬ c.toNat=b.toNat:=fun e=>hcb' (by rw [e])
               simp [hcb,hcb',hcb2,f15,hwi]
               refine NextM_of H'.length (13 - (i+1)) (Nat.le_refl _) (by simp) (by omega) ⟨i+1,rfl,by omega,by rw [htk]; simp [hni]; exact Ne.symm hcb,?_⟩
               simp [f0,f1,f7,f14,cut_self hcl]
           · have:i=13:=by omega
             subst this
             rw [List.take_of_length_le (by omega)] at hni
             simp [f14,f15,hLl,hni]
         · rintro fr H' ⟨f4,f5,f6,hm,rfl⟩
           rw [if_pos hm,if_neg (by simp)] at hT
           simp
           simp [RetK,cut_self hcl,f4,f5,f6]
           exact hfin _ _ _ (by rw [hT]) (fun _=>by rw [hT]; simp)
         · rintro fr H' ⟨hm,rfl⟩
           rw [if_neg hm,if_pos rfl] at hT
           simp
           simp [RetK,cut_self hcl]
           exact hfin _ _ _ (by rw [hT]) (fun h=>by cases h)
       · have n61:¬ ((b.toNat:Int)=61):=fun e=>h61 ((byte_eq b 61).1 e)
         simp [hb,hlt,n34,n61]
         refine LoopK_outR 6 (fun fr H'=>b ∉ L∧H'=H) (fun fr H'=>fr 4 = .d (.int .i64 5)∧fr 5 = .d (.int .i64 ((n:Int)+1))∧fr 6 = .d (.int .i64 0)∧b ∈ L∧H'=H) ?_ ?_ ?_
         · refine LoopM_of H.length (fun d fr H'=>∃ i:Nat,d=13 - i∧i≤13∧b ∉ L.take i∧fr 0 = .d (.str s)∧fr 1 = .d (.int .i64 (n:Int))∧fr 7 = .d (.int .i64 ((n:Int)+1))∧fr 14 = .d (.str L)∧fr 15 = .d (.int .i64 (i:Int))∧H'=H) 13 (by simp) ⟨0,rfl,by omega,by simp,?_⟩ ?_
           · simp [cut_self hcl,hL]
           rintro d fr H' ⟨i,rfl,hi,hni,f0,f1,f7,f14,f15,rfl⟩
           rcases Nat.lt_or_ge i 13 with hlt13 | hge13
           · have hlt':(i:Int) < 13:=by omega
             have hdi:L.drop i=L[i]'(by omega) :: L.drop (i+1):=List.drop_eq_getElem_cons (by omega)
             have htk:L.take (i+1)=L.take i++[L[i]'(by omega)]:=List.take_succ_eq_append_getElem (by omega)
             have hmem:L[i]'(by omega) ∈ L:=List.getElem_mem _
             obtain ⟨hbi,-⟩:=byteAt_drop hdi
             generalize L[i]'(by omega)=c at hdi hbi htk hmem
             have hwi:IntKind.i64.wrap ((i:Int)+1)=((i+1:Nat):Int):=by rw [wrap_i64 (by omega) (by omega)]; omega
             simp [f0,f1,f14,f15,hLl,hlt',hbi,hb]
             by_cases hcb:c=b
             · subst hcb
               simp [f7,hmem]
             · have hcb':¬ ((c.toNat:Int)=b.toNat):=fun e=>hcb ((byte_eq c b).1 e)
               have hcb2:¬ c.toNat=b.toNat:=fun e=>hcb' (by rw [e])
               simp [hcb,hcb',hcb2,f15,hwi]
               refine NextM_of H'.length (13 - (i+1)) (Nat.le_refl _) (by simp) (by omega) ⟨i+1,rfl,by omega,by rw [htk]; simp [hni]; exact Ne.symm hcb,?_⟩
               simp [f0,f1,f7,f14,cut_self hcl]
           · have:i=13:=by omega
             subst this
             rw [List.take_of_length_le (by omega)] at hni
             simp [f14,f15,hLl,hni]
         · rintro fr H' ⟨f4,f5,f6,hm,rfl⟩
           rw [if_pos hm,if_neg (by simp)] at hT
           simp
           simp [RetK,cut_self hcl,f4,f5,f6]
           exact hfin _ _ _ (by rw [hT]) (fun _=>by rw [hT]; simp)
         · rintro fr H' ⟨hm,rfl⟩
           rw [if_neg hm,if_pos rfl] at hT
           simp
           simp [RetK,cut_self hcl]
           exact hfin _ _ _ (by rw [hT]) (fun h=>by cases h)
     · simp [hb,hlt,n34]
       refine LoopK_outR 6 (fun fr H'=>b ∉ L∧H'=H) (fun fr H'=>fr 4 = .d (.int .i64 5)∧fr 5 = .d (.int .i64 ((n:Int)+1))∧fr 6 = .d (.int .i64 0)∧b ∈ L∧H'=H) ?_ ?_ ?_
       · refine LoopM_of H.length (fun d fr H'=>∃ i:Nat,d=13 - i∧i≤13∧b ∉ L.take i∧fr 0 = .d (.str s)∧fr 1 = .d (.int .i64 (n:Int))∧fr 7 = .d (.int .i64 ((n:Int)+1))∧fr 14 = .d (.str L)∧fr 15 = .d (.int .i64 (i:Int))∧H'=H) 13 (by simp) ⟨0,rfl,by omega,by simp,?_⟩ ?_
         · simp [cut_self hcl,hL]
         rintro d fr H' ⟨i,rfl,hi,hni,f0,f1,f7,f14,f15,rfl⟩
         rcases Nat.lt_or_ge i 13 with hlt13 | hge13
         · have hlt':(i:Int) < 13:=by omega
           have hdi:L.drop i=L[i]'(by omega) :: L.drop (i+1):=List.drop_eq_getElem_cons (by omega)
           have htk:L.take (i+1)=L.take i++[L[i]'(by omega)]:=List.take_succ_eq_append_getElem (by omega)
           have hmem:L[i]'(by omega) ∈ L:=List.getElem_mem _
           obtain ⟨hbi,-⟩:=byteAt_drop hdi
           generalize L[i]'(by omega)=c at hdi hbi htk hmem
           have hwi:IntKind.i64.wrap ((i:Int)+1)=((i+1:Nat):Int):=by rw [wrap_i64 (by omega) (by omega)]; omega
           simp [f0,f1,f14,f15,hLl,hlt',hbi,hb]
           by_cases hcb:c=b
           · subst hcb
             simp [f7,hmem]
           · have hcb':¬ ((c.toNat:Int)=b.toNat):=fun e=>hcb ((byte_eq c b).1 e)
             have hcb2:¬ c.toNat=b.toNat:=fun e=>hcb' (by rw [e])
             simp [hcb,hcb',hcb2,f15,hwi]
             refine NextM_of H'.length (13 - (i+1)) (Nat.le_refl _) (by simp) (by omega) ⟨i+1,rfl,by omega,by rw [htk]; simp [hni]; exact Ne.symm hcb,?_⟩
             simp [f0,f1,f7,f14,cut_self hcl]
         · have:i=13:=by omega
           subst this
           rw [List.take_of_length_le (by omega)] at hni
           simp [f14,f15,hLl,hni]
       · rintro fr H' ⟨f4,f5,f6,hm,rfl⟩
         rw [if_pos hm,if_neg (by simp)] at hT
         simp
         simp [RetK,cut_self hcl,f4,f5,f6]
         exact hfin _ _ _ (by rw [hT]) (fun _=>by rw [hT]; simp)
       · rintro fr H' ⟨hm,rfl⟩
         rw [if_neg hm,if_pos rfl] at hT
         simp
         simp [RetK,cut_self hcl]
         exact hfin _ _ _ (by rw [hT]) (fun h=>by cases h)
end
end
section
section
variable {P:Program}
theorem HasT.lex4 {f fb fl fo tt} (h:HasT P [6] f (irR4Lex fb fl fo tt)) (hb:∀ (s:Bs) H,s.length≤1048576→ACall P fb [.d (.str s)] H (fun r H'=>r = .d (.int .i64 (badS s))∧H'=H))
 (hl:∀ (s:Bs) (n:Nat),n≤s.length→s.length≤1048576→∀ H,ACall P fl [.d (.str s),.d (.int .i64 (n:Int))] H (fun r H'=>r = .d (.int .i64 ((n+leadS false (s.drop n):Nat):Int))∧H'=H))
 (ho:∀ (s:Bs) (n:Nat),n < s.length→s.length≤1048576→∀ H,ACall P fo [.d (.str s),.d (.int .i64 (n:Int))] H (One4Q (s.drop n) n H))
 (s:Bs) (hs:s.length≤1048576) (H:Hp) :
 ACall P f [.d (.str s)] H (fun r H'=>r = .tup [.d (.sl true 4 ((lexS s).1.map encTk)),.d (.int .i64 (lexS s).2.1),.d (.int .i64 (lexS s).2.2)]∧H'=H):=by
 obtain ⟨fnn,hf,hcf⟩:=h
 refine acall_fin hf hcf (by simp [irR4Lex]) fun hcl _ => ?_
 by_cases h1:16384 < s.length
 case pos =>
  have h1':(16384:Int) < s.length:=by omega
  simp [irR4Lex,h1']
  simp [RetK,cut_self hcl,lexS,h1]
 have h1':¬ (16384:Int) < s.length:=by omega
 have hbs:=hb s H hs
 have hL:lexS s=if 0≤badS s then ([],20,badS s) else lexF (s.length+1) s 0 0:=by rw [lexS,if_neg h1]
 generalize lexS s=LS at hL
 generalize badS s=bs at hL hbs
 simp [irR4Lex,h1']
 refine CallK_of' hbs ?_
 simp
 refine BrK_split (fun h2 => ?_) (fun h2 => ?_)
 · have h2:0≤bs:=by simpa using h2
   rw [if_pos h2] at hL
   subst hL
   simp
   simp [RetK,cut_self hcl]
 have h2:¬ 0≤bs:=by simpa using h2
 rw [if_neg h2] at hL
 simp
 refine LoopM_of (H.length+1) (fun d fr H'=>∃ (p:Nat) (acc:List Tk),p≤s.length∧s.length - p < d∧LS=combL acc (lexF d (s.drop p) p acc.length)∧acc.length≤4000∧fr 0 = .d (.str s)∧fr 6 = .osl true 4 (acc.map encTk) H.length∧fr 7 = .d (.int .i64 (p:Int))∧H'=H++[.tok acc.length 4 tt]) (s.length+1) (by simp) ⟨0,[],by omega,by omega,?_,by simp,?_⟩ ?_
 · simp only [List.drop_zero,List.length_nil]
   rw [hL]
   exact (combL_nil _ _ _ _).symm
 · simp [cut_appk hcl]
 rintro d fr H' ⟨p,acc,hp,hd,hLS,hacc,f0,f6,f7,rfl⟩
 obtain ⟨d',rfl⟩:∃ d',d=d'+1:=⟨d - 1,by omega⟩
 have g1:=hl s p hp hs (H++[.tok acc.length 4 tt])
 simp [f0,f7]
 have hll:=lead_le false (s.drop p)
 simp only [List.length_drop] at hll
 rw [lexF] at hLS
 simp only [drop_add'] at hLS
 have htl:=tokN_len (s.drop (p+leadS false (s.drop p)))
 simp only [List.length_drop] at htl
 have hsb:=sub_ok (s:=s) (n:=p) (w:=leadS false (s.drop p)) (by omega)
 have g2:=fun H=>fun h=>ho s (p+leadS false (s.drop p)) h hs H
 unfold One4Q at g2
 generalize hn:leadS false (s.drop p)=n at hLS hll g1 g2 htl hsb
 have hnil:p+n=s.length→tokN (s.drop (p+n))=(0,0,0):=fun e=>by rw [List.drop_eq_nil_of_le (by omega)]; rfl
 generalize hTT:tokN (s.drop (p+n))=T at hLS g2 htl hnil
 obtain ⟨e,k,m⟩:=T
 simp only at hLS htl g2
 obtain ⟨t1,t2,t3,t4⟩:=htl
 refine CallK_of' g1 ?_
 simp [f0,f7,hsb]
 rcases Nat.lt_or_ge (p+n) s.length with hlt | hge
 · have hlt':(p:Int)+n < s.length:=by omega
   have hne:s.drop (p+n) ≠ []:=fun q=>by have:=List.drop_eq_nil_iff.1 q; omega
   simp [f0,hlt']
   have g3:=fun H=>g2 H hlt
   simp only [Int.natCast_add] at g3
   refine CallK_of (g3 _) ?_
   rintro _ _ ⟨k',m',rfl,rfl,hx⟩
   by_cases he:e=0
   case neg =>
    rw [if_pos he] at hLS
    have:LS=([],e,((p+n:Nat):Int)):=by rw [hLS]; simp [combL,he]
    simp [he]
    simp [RetK,cut_app hcl,this]
   obtain ⟨rfl,hm'⟩:=hx he
   subst hm'
   rw [if_neg (by simp [he])] at hLS
   subst he
   have hsm:=sub_ok (s:=s) (n:=p+n) (w:=m) (by omega)
   simp only [Int.natCast_add] at hsm
   simp [f0]
   by_cases h4:4000≤acc.length
   case pos =>
    have h4':(4000:Int)≤acc.length:=by omega
    rw [if_pos h4] at hLS
    have:LS=([],5,((p+n:Nat):Int)):=by rw [hLS]; simp [combL]
    simp [f6,f7,h4']
    simp [RetK,cut_app hcl,this]
   have h4':¬ (4000:Int)≤acc.length:=by omega
   rw [if_neg h4] at hLS
   obtain ⟨t,ht⟩:∃ t:Tk,t=⟨k',p+n,(s.drop p).take n,(s.drop (p+n)).take m⟩:=⟨_,rfl⟩
   have hbt:acc.map encTk++[[.int .i64 k',.int .i64 ((p:Int)+n),.str ((s.drop p).take n),.str ((s.drop (p+n)).take m)]]=(acc++[t]).map encTk:=by
    simp [encTk,ht]
   rw [← ht] at hLS
   have hap:(acc.map encTk).length=acc.length:=by simp
   simp [f0,f6,f7,h4',hsm,appA]
   rw [if_pos (by omega)]
   simp
   by_cases hk:k'=0
   · rw [if_pos hk] at hLS
     have hLS':LS=(acc++[t],0,0):=by rw [hLS]; simp [combL]
     subst hk
     simp [hbt]
     simp [RetK,cut_app hcl,hLS']
   · rw [if_neg hk,← combL_snoc] at hLS
     simp [hk,hbt]
     have hm1:=t3 rfl hne
     refine NextM_of (H.length+1) d' (Nat.le_refl _) (by simp) (by omega) ⟨p+n+m,acc++[t],by omega,by omega,?_,by simp; omega,?_⟩
     · simpa using hLS
     · simp [f0,cut_appk hcl]
 · have hlt':¬ (p:Int)+n < s.length:=by omega
   have hpn:p+n=s.length:=by omega
   obtain ⟨rfl,h2⟩:=Prod.mk.inj (hnil hpn)
   obtain ⟨rfl,rfl⟩:=Prod.mk.inj h2
   rw [if_neg (by simp)] at hLS
   have hsm:=sub_ok (s:=s) (n:=p+n) (w:=0) (by omega)
   simp only [Int.natCast_add,Int.natCast_zero,Int.add_zero] at hsm
   simp [f0,hlt']
   by_cases h4:4000≤acc.length
   case pos =>
    have h4':(4000:Int)≤acc.length:=by omega
    rw [if_pos h4] at hLS
    have:LS=([],5,((p+n:Nat):Int)):=by rw [hLS]; simp [combL]
    simp [f6,f7,h4']
    simp [RetK,cut_app hcl,this]
   have h4':¬ (4000:Int)≤acc.length:=by omega
   rw [if_neg h4] at hLS
   obtain ⟨t,ht⟩:∃ t:Tk,t=⟨0,p+n,(s.drop p).take n,(s.drop (p+n)).take 0⟩:=⟨_,rfl⟩
   have hbt:acc.map encTk++[[.int .i64 0,.int .i64 ((p:Int)+n),.str ((s.drop p).take n),.str ((s.drop (p+n)).take 0)]]=(acc++[t]).map encTk:=by
    simp [encTk,ht]
   rw [← ht] at hLS
   have hap:(acc.map encTk).length=acc.length:=by simp
   simp [f0,f6,f7,h4',hsm,appA]
   rw [if_pos (by omega)]
   simp
   rw [if_pos rfl] at hLS
   have hLS':LS=(acc++[t],0,0):=by rw [hLS]; simp [combL]
   simp [RetK,cut_app hcl,hLS',ht,encTk]
end
end
section
def AdvE (L:List Tk) (i:Nat) (s:Bool):PR→Prop
 | .ok _ j=>i≤j∧(s=true→i < j)∧(i < j→j < L.length)
 | _=>True
section
variable {L:List Tk}
theorem AdvE.ok {i j:Nat} {s:Bool} {m:N} (h1:i≤j) (h2:s=true→i < j) (h3:i < j→j < L.length):AdvE L i s (.ok m j):=⟨h1,h2,h3⟩
theorem AdvE.want (hE:EndsL L) {i k:Nat} {s:Bool} {x:Bs} {h:Nat→PR} (hh:k+1 < L.length→AdvE L i s (h (k+1))):AdvE L i s (wantR L k x h):=by
 unfold wantR
 split
 · rename_i e; exact hh (isT_ltE hE e)
 · trivial
theorem AdvE.word (hE:EndsL L) {i k:Nat} {s:Bool} {h:Bs→Nat→PR} (hh:k+1 < L.length→AdvE L i s (h (txT L k) (k+1))):AdvE L i s (wordR L k h):=by
 unfold wordR
 split
 · rename_i e; exact hh (kdT_ltE hE (by omega))
 · trivial
theorem AdvE.ifT (hE:EndsL L) {i k:Nat} {s:Bool} {x:Bs} {a b:PR} (ha:k+1 < L.length→AdvE L i s a) (hb:AdvE L i s b):AdvE L i s (if isT L k x then a else b):=by
 split
 · rename_i e; exact ha (isT_ltE hE e)
 · exact hb
theorem AdvE.ifK (hE:EndsL L) {i k:Nat} {s:Bool} {x:Int} {a b:PR} (hx:x ≠ 0) (ha:k+1 < L.length→AdvE L i s a) (hb:AdvE L i s b):AdvE L i s (if kdT L k=x then a else b):=by
 split
 · rename_i e; exact ha (kdT_ltE hE (by omega))
 · exact hb
theorem AdvE.if0 {i k:Nat} {s:Bool} {a b:PR} (ha:AdvE L i s a) (hb:AdvE L i s b):AdvE L i s (if kdT L k=0 then a else b):=by
 split
 · exact ha
 · exact hb
theorem AdvE.ifS (hE:EndsL L) {i k:Nat} {s:Bool} {x:Bs} {a b:PR} (ha:k+2 < L.length→AdvE L i s a) (hb:AdvE L i s b):AdvE L i s (if kdT L k=1∧isT L (k+1) x=true then a else b):=by
 split
 · rename_i e; exact ha (by have:=isT_ltE hE e.2; omega)
 · exact hb
theorem AdvE.last {n:Nat} (ih:∀ g i,AdvE L i g.strict (pp L n g i)) {g:G} {k i:Nat} {s:Bool} (h1:i≤k) (h2:i < k→k < L.length) (h3:s=true→g.strict=true∨i < k):AdvE L i s (pp L n g k):=by
 have:=ih g k
 generalize pp L n g k=r at this
 cases r with
 | out=>trivial
 | bad j=>trivial
 | ok m j =>
   obtain ⟨a1,a2,a3⟩:=this
   refine ⟨by omega,fun h => ?_,fun h=>by omega⟩
   rcases h3 h with h | h
   · have:=a2 h; omega
   · omega
theorem AdvE.thenG {n:Nat} (ih:∀ g i,AdvE L i g.strict (pp L n g i)) {g:G} {k i:Nat} {s:Bool} {h:N→Nat→PR} (hh:∀ m j,k≤j→(g.strict=true→k < j)→(k < j→j < L.length)→AdvE L i s (h m j)):AdvE L i s ((pp L n g k).then h):=by
 have:=ih g k
 generalize pp L n g k=r at this
 cases r with
 | out=>trivial
 | bad j=>trivial
 | ok m j=>exact hh m j this.1 this.2.1 this.2.2
theorem pp_advE (hE:EndsL L):∀ (n:Nat) (g:G) (i:Nat),AdvE L i g.strict (pp L n g i)
 | 0,g,i=>trivial
 | n + 1, g, i => by
   have ih:=pp_advE hE n
   cases g
   all_goals simp only [pp,G.strict]
   all_goals
    repeat' first
     | exact AdvE.bad
     | (refine AdvE.want hE fun _ => ?_)
     | (refine AdvE.word hE fun _ => ?_)
     | (refine AdvE.ifT hE (fun _ => ?_) ?_)
     | (refine AdvE.ifK hE (by decide) (fun _ => ?_) ?_)
     | (refine AdvE.ifS hE (fun _ => ?_) ?_)
     | (refine AdvE.if0 ?_ ?_)
     | (refine AdvE.thenG ih fun m j h1 h2 h3 => ?_; simp only [G.strict,Bool.false_eq_true,false_implies,true_implies] at h2)
     | (refine AdvE.ok ?_ ?_ ?_<;>(try simp only [Bool.false_eq_true,false_implies,true_implies])<;>omega)
     | (refine AdvE.last ih ?_ ?_ ?_<;>(try simp only [G.strict,Bool.false_eq_true,false_implies,true_implies,false_or,true_or])<;>omega)
end
def rst (tr:TypeId) (z:Bool) (L:List Tk) (st:Option Nat):Ob := .box tr [.d (.sl z 4 (L.map encTk)),.d (.int .i64 (match st with | none => -1 | some q=>(q:Int)))]
theorem rst_clr {tr:TypeId} {z:Bool} {L:List Tk} {s:Option Nat} {n:Nat}:(rst tr z L s).clr n=rst tr z L s:=by simp [rst]
structure RF where
 (kind file is word want ended use_ def_ lambda params typed block stmt expr sum term post atom:FuncId)
 (tn tt tr:TypeId)
def ag (k f t:Int) (w:Bs) (a:Int) (x:A):A := .agg [.d (.int .i64 k),.d (.int .i64 f),.d (.int .i64 t),.d (.str w),.d (.int .i64 a),x]
section
variable {P:Program} {R:RF} {z:Bool} {L:List Tk} {H:Hp} {i:Nat}
theorem Has.ris {f tt tr} (h:Has P f (irR7Is tt)) {st:Option Nat} (hi:H[i]?=some (rst tr z L st)) {p:Nat} (hp:p < L.length) (x:Bs):ACall P f [.ptr i 0,.d (.int .i64 (p:Int)),.d (.str x)] H (fun r H'=>r = .d (.bool (isT L p x))∧H'=H):=by
 obtain ⟨fn,hf,hcf⟩:=h
 refine acall_fin hf hcf (by simp [irR7Is]) fun hcl _ => ?_
 unfold rst at hi
 have hA:=get_app hi
 have hr:=rowAt_map encTk hp
 have hg:L[p]?=some L[p]:=List.getElem?_eq_getElem hp
 have hT:isT L p x=((decide (L[p].k=2) || decide (L[p].k=5)) && decide (L[p].x=x)):=by unfold isT; rw [hg]
 generalize L[p]=t at hr hT
 obtain ⟨k,a,l,y⟩:=t
 simp only [encTk] at hr hT
 by_cases h2:k=2
 · simp [irR7Is,hi,hA,hr,h2]
   simp [RetK,cut_app hcl,hT,h2]
 · by_cases h5:k=5
   · simp [irR7Is,hi,hA,hr,h2,h5]
     simp [RetK,cut_app hcl,hT,h2,h5]
   · simp [irR7Is,hi,hA,hr,h2,h5]
     simp [RetK,cut_app hcl,hT,h2,h5]
theorem Has.rwant {f fi tr} (h:Has P f (irR7Want fi)) (hs:∀ (H:Hp) (i:Nat) (st:Option Nat),H[i]?=some (rst tr z L st)→∀ (p:Nat),p < L.length→∀ x,ACall P fi [.ptr i 0,.d (.int .i64 (p:Int)),.d (.str x)] H (fun r H'=>r = .d (.bool (isT L p x))∧H'=H))
 {s:PSt} (hi:H[i]?=some (rst tr z L s.2)) (hp:s.2=none→s.1 < L.length) (hb:s.1≤1125899906842624) (x:Bs):ACall P f [.ptr i 0,.d (.int .i64 (s.1:Int)),.d (.str x)] H (fun r H'=>r = .d (.int .i64 ((wantS L x s).1:Int))∧H'=H.set i (rst tr z L (wantS L x s).2)):=by
 obtain ⟨fn,hf,hcf⟩:=h
 refine acall_fin hf hcf (by simp [irR7Want]) fun hcl _ => ?_
 obtain ⟨p,st⟩:=s
 have hil:=scan_len hi
 cases st with
 | some q =>
   rw [show wantS L x (p,some q)=(p,some q) from rfl,Hp.set_self hi]
   unfold rst at hi
   have hA:=get_app hi
   have hq:¬ (q:Int) < 0:=by omega
   simp [irR7Want,hi,hq]
   simp [RetK,cut_self hcl]
 | none =>
   have hp':=hp rfl
   have g:=hs H i none hi p hp' x
   simp only at hb
   have hw:IntKind.i64.wrap ((p:Int)+1)=((p+1:Nat):Int):=by rw [wrap_i64 (by omega) (by omega)]; omega
   have hi0:=hi
   unfold rst at hi
   have hA:=get_app hi
   rw [wantS_none]
   by_cases hT:isT L p x=true
   · rw [if_pos hT,Hp.set_self hi0]
     simp [irR7Want,hi]
     refine CallK_of' g ?_
     simp [hi,hT,hw]
     simp [RetK,cut_self hcl]
   · rw [if_neg hT]
     have hT':isT L p x=false:=by simpa using hT
     have hgs:=set_get hil (Ob.box tr [.d (.sl z 4 (L.map encTk)),.d (.int .i64 (p:Int))])
     have hc:Hp.cut H.length (H.set i (rst tr z L (some p)))=H.set i (rst tr z L (some p)):=cut_set' hcl rst_clr
     simp [irR7Want,hi]
     refine CallK_of' g ?_
     have hnq:¬ (p:Int) < 0:=by omega
     simp [hi,hT',hgs,hnq]
     simp [RetK,rst]
     simpa [rst] using hc
theorem Has.rended {f tn} (h:Has P f (irR7Ended tn)) (k f0 t:Int) (w:Bs) (a:Int) (z1:Bool) (rows:List (List D)) (to:Int) (z2:Bool) (rows2:List (List D)) (H:Hp) :
 ACall P f [ag k f0 t w a (.d (.sl z1 6 rows)),.d (.int .i64 to),.d (.sl z2 6 rows2)] H (fun r H'=>r=ag k f0 to w a (.d (.sl z2 6 rows2))∧H'=H):=by
 obtain ⟨fn,hf,hcf⟩:=h
 refine acall_fin hf hcf (by simp [irR7Ended]) fun hcl _ => ?_
 simp [irR7Ended,ag]
 simp [RetK,cut_app hcl]
theorem Has.rendedT {f tn} (h:Has P f (irR7Ended tn)) (k f0 t:Int) (w:Bs) (a:Int) (z1:Bool) (rows:List (List D)) (to:Int) (z2:Bool) (rows2:List (List D)) (H:Hp) (q:Nat) (hq:q < H.length) :
 ACall P f [ag k f0 t w a (.d (.sl z1 6 rows)),.d (.int .i64 to),.osl z2 6 rows2 q] H (fun r H'=>r=ag k f0 to w a (.osl z2 6 rows2 q)∧H'=H):=by
 obtain ⟨fn,hf,hcf⟩:=h
 refine acall_fin hf hcf (by simp [irR7Ended]) fun hcl _ => ?_
 simp [irR7Ended,ag,hq]
 simp [RetK,cut_app hcl,hq]
theorem Has.rword {f tn tr} (h:Has P f (irR7Word tn)) {s:PSt} (hi:H[i]?=some (rst tr z L s.2)) (hp:s.2=none→s.1 < L.length) (hb:s.1≤1125899906842624) (k f0 t:Int) (w:Bs) (a:Int) (z1:Bool) (rows:List (List D)) :
 ACall P f [.ptr i 0,ag k f0 t w a (.d (.sl z1 6 rows)),.d (.int .i64 (s.1:Int))] H (fun r H'=>r = .tup [ag k f0 t (if wordOkB L s then txT L s.1 else w) (if wordOkB L s then (s.1:Int) else a) (.d (.sl z1 6 rows)),.d (.int .i64 ((wordS L s).1:Int))]∧H'=H.set i (rst tr z L (wordS L s).2)):=by
 obtain ⟨fn,hf,hcf⟩:=h
 refine acall_fin hf hcf (by simp [irR7Word]) fun hcl _ => ?_
 obtain ⟨p,st⟩:=s
 have hil:=scan_len hi
 cases st with
 | some q =>
   rw [wordS_some,wordOkB_some]
   rw [Hp.set_self hi]
   unfold rst at hi
   have hA:=get_app hi
   have hq:¬ (q:Int) < 0:=by omega
   simp [irR7Word,hi,hA,hq,ag]
   simp [RetK,cut_app hcl]
 | none =>
   have hp':=hp rfl
   simp only at hb hp'
   have hw:IntKind.i64.wrap ((p:Int)+1)=((p+1:Nat):Int):=by rw [wrap_i64 (by omega) (by omega)]; omega
   have hi0:=hi
   unfold rst at hi
   have hA:=get_app hi
   have hr:=rowAt_map encTk hp'
   have hg:L[p]?=some L[p]:=List.getElem?_eq_getElem hp'
   have hkd:kdT L p=L[p].k:=by unfold kdT; rw [hg]
   have htx:txT L p=L[p].x:=by unfold txT; rw [hg]
   generalize L[p]=tk at hr hkd htx
   obtain ⟨kk,ta,tl,y⟩:=tk
   simp only [encTk] at hr hkd htx
   rw [wordS_none,wordOkB_none,hkd,htx]
   by_cases h1:kk=1
   · subst h1
     rw [if_pos rfl,Hp.set_self hi0]
     simp [irR7Word,hi,hA,hr,hw,ag]
     simp [RetK,cut_app hcl]
   · rw [if_neg h1]
     have hc:Hp.cut H.length (H.set i (rst tr z L (some p)))=H.set i (rst tr z L (some p)):=cut_set' hcl rst_clr
     have hu:∀ X o,(H++X).set i o=H.set i o++X:=fun X o=>List.set_append_left _ _ hil
     have hgs:∀ X o,(H.set i o++X)[i]?=some o:=fun X o=>upG hil
     have hcc:∀ X,Hp.cut H.length (H.set i (rst tr z L (some p))++X)=H.set i (rst tr z L (some p)):=fun X=>by rw [cut_appL (by simp),hc]
     unfold rst at hcc
     simp [irR7Word,hi,hA,hr,hw,ag,h1,hu,hgs]
     simp [RetK,hcc,rst]
end
end
section
structure RHas (P:Program) (R:RF):Prop where
 is:Has P R.is (irR7Is R.tt)
 word:Has P R.word (irR7Word R.tn)
 want:Has P R.want (irR7Want R.is)
 ended:Has P R.ended (irR7Ended R.tn)
 use_:Has P R.use_ (irR7Use R.word R.want R.ended R.tn)
 def_:Has P R.def_ (irR7Def R.want R.word R.lambda R.ended R.tn)
 lambda:Has P R.lambda (irR7Lambda R.params R.typed R.block R.tn)
 typed:Has P R.typed (irR7Typed R.is R.kind R.tn)
def PPreR (L:List Tk) (n:Nat) (g:G) (s:PSt):Prop:=PPre L n g s∧(s.2=none→s.1 < L.length)
def RQ (tr:TypeId) (z:Bool) (L:List Tk) (n:Nat) (g:G) (H:Hp) (i:Nat) (X:Hp) (s:PSt):A→Hp→Prop:=fun r H'=>∃ m s',r = .tup [N.v m,.d (.int .i64 (s'.1:Int))]∧H'=H.set i (rst tr z L s'.2)++X∧Rel L n g s m s'
def UR (P:Program) (tr:TypeId) (z:Bool) (L:List Tk) (n:Nat) (g:G) (f:FuncId):Prop:=∀ (H X:Hp) (i:Nat) (s:PSt),i < H.length→PPreR L n g s→ACall P f [.ptr i 0,.d (.int .i64 (s.1:Int))] (H.set i (rst tr z L s.2)++X) (RQ tr z L n g H i X s)
theorem UR_of {P:Program} {tr:TypeId} {z:Bool} {L:List Tk} {n:Nat} {g:G} {f:FuncId} (h:∀ (H:Hp) (i:Nat) (s:PSt),i < H.length→PPreR L n g s→ACall P f [.ptr i 0,.d (.int .i64 (s.1:Int))] (H.set i (rst tr z L s.2)) (RQ tr z L n g H i [] s)):UR P tr z L n g f:=by
 intro H X i s hi hp
 have:=h (H++X) i s (by simp; omega) hp
 rw [List.set_append_left _ _ hi] at this
 refine this.mono ?_
 rintro r H' ⟨m,s',rfl,rfl,hr⟩
 refine ⟨m,s',rfl,?_,hr⟩
 rw [List.append_nil,List.set_append_left _ _ hi]
def MoE (L:List Tk) (s s':PSt):Prop:=s'.2=none→s.2=none∧s.1≤s'.1∧(s.1 < L.length→s'.1 < L.length)
theorem MoE.refl {L:List Tk} (s:PSt):MoE L s s:=fun h=>⟨h,Nat.le_refl _,id⟩
theorem MoE.trans {L:List Tk} {s t u:PSt} (h:MoE L s t) (k:MoE L t u):MoE L s u:=fun e=>by
 obtain ⟨a1,a2,a3⟩:=k e
 obtain ⟨b1,b2,b3⟩:=h a1
 exact ⟨b1,by omega,fun q=>a3 (b3 q)⟩
theorem MoE.pre {L:List Tk} {n:Nat} {g g':G} {s s':PSt} (h:MoE L s s') (hp:PPreR L (n+1) g s) (hc:g'.c < g.c) (hb:s'.1+16 * g'.c≤281474976710656):PPreR L n g' s':=by
 obtain ⟨⟨p1,p2,p3⟩,p4⟩:=hp
 refine ⟨⟨hb,by omega,fun e => ?_⟩,fun e => ?_⟩
 · obtain ⟨a1,a2,a3⟩:=h e
   obtain ⟨b1,b2⟩:=p3 a1
   have:=a3 (p4 a1)
   exact ⟨by omega,by omega⟩
 · obtain ⟨a1,a2,a3⟩:=h e
   exact a3 (p4 a1)
section
variable {L:List Tk} {x:Bs} {p q:Nat}
theorem wantS_moE (hE:EndsL L) {s s':PSt} (h:wantS L x s=s'):MoE L s s':=by
 subst h
 obtain ⟨p,st⟩:=s
 cases st with
 | some q=>exact .refl _
 | none =>
   rw [wantS_none]
   split
   · rename_i e
     exact fun _=>⟨rfl,by simp,fun _=>isT_ltE hE e⟩
   · intro e; cases e
theorem wordS_moE (hE:EndsL L) {s s':PSt} (h:wordS L s=s'):MoE L s s':=by
 subst h
 obtain ⟨p,st⟩:=s
 cases st with
 | some q=>rw [wordS_some]; exact .refl _
 | none =>
   rw [wordS_none]
   split
   · rename_i e
     exact fun _=>⟨rfl,by simp,fun _=>kdT_ltE hE (by omega)⟩
   · intro e; cases e
theorem Rel.moE (hE:EndsL L) {n:Nat} {g:G} {m:N} {s s':PSt} (h:Rel L n g s m s'):MoE L s s':=by
 obtain ⟨p,st⟩:=s
 cases st with
 | some q =>
   obtain ⟨a,rfl,-⟩:=h.some'
   intro e; cases e
 | none =>
   rcases h.none' with ⟨q,a,-,rfl,-⟩ | ⟨k,e,rfl⟩
   · intro e; cases e
   · have ha:=pp_advE hE n g p
     rw [e] at ha
     obtain ⟨h1,-,h3⟩:=ha
     refine fun _=>⟨rfl,h1,fun hl => ?_⟩
     simp only at hl ⊢
     rcases Nat.lt_or_ge p k with h | h
     · exact h3 h
     · omega
end
section
variable {P:Program} {R:RF} {z:Bool} {L:List Tk} {H X:Hp} {i:Nat} {s:PSt}
theorem rcut {tr:TypeId} {st st':Option Nat} (hcl:Hp.Closed (H.set i (rst tr z L st))):Hp.cut H.length (H.set i (rst tr z L st')++X)=H.set i (rst tr z L st'):=by
 have e:H.set i (rst tr z L st')=(H.set i (rst tr z L st)).set i (rst tr z L st'):=by simp
 rw [cut_appL (by simp),e,Hp.cut_set]
 have:=cut_self hcl
 rw [List.length_set] at this
 rw [this,rst_clr]
theorem RHas.isA (hR:RHas P R) (hi:i < H.length) {st:Option Nat} {p:Nat} (hp:p < L.length) (x:Bs):ACall P R.is [.ptr i 0,.d (.int .i64 (p:Int)),.d (.str x)] (H.set i (rst R.tr z L st)++X) (fun r H'=>r = .d (.bool (isT L p x))∧H'=H.set i (rst R.tr z L st)++X):=hR.is.ris (upG hi) hp x
theorem RHas.wantA (hR:RHas P R) (hi:i < H.length) (hp:s.2=none→s.1 < L.length) (hb:s.1≤1125899906842624) (x:Bs):ACall P R.want [.ptr i 0,.d (.int .i64 (s.1:Int)),.d (.str x)] (H.set i (rst R.tr z L s.2)++X) (fun r H'=>r = .d (.int .i64 ((wantS L x s).1:Int))∧H'=H.set i (rst R.tr z L (wantS L x s).2)++X):=by
 have:=hR.want.rwant (s:=s) (tr:=R.tr) (z:=z) (fun H i st h p hp x=>hR.is.ris h hp x) (upG (X:=X) hi) hp hb x
 rwa [up hi] at this
theorem RHas.wordA (hR:RHas P R) (hi:i < H.length) (hp:s.2=none→s.1 < L.length) (hb:s.1≤1125899906842624) (k f0 t:Int) (w:Bs) (a:Int) (z1:Bool) (rows:List (List D)) :
 ACall P R.word [.ptr i 0,ag k f0 t w a (.d (.sl z1 6 rows)),.d (.int .i64 (s.1:Int))] (H.set i (rst R.tr z L s.2)++X) (fun r H'=>r = .tup [ag k f0 t (if wordOkB L s then txT L s.1 else w) (if wordOkB L s then (s.1:Int) else a) (.d (.sl z1 6 rows)),.d (.int .i64 ((wordS L s).1:Int))]∧H'=H.set i (rst R.tr z L (wordS L s).2)++X):=by
 have:=hR.word.rword (s:=s) (tr:=R.tr) (z:=z) (upG (X:=X) hi) hp hb k f0 t w a z1 rows
 rwa [up hi] at this
theorem MoE.lt {L:List Tk} {s s':PSt} (h:MoE L s s') (hs:s.2=none→s.1 < L.length):s'.2=none→s'.1 < L.length:=fun e=>by
 obtain ⟨a1,a2,a3⟩:=h e
 exact a3 (hs a1)
theorem RHas.use' (hR:RHas P R) (hE:EndsL L) (hL:L.length≤1048576) (n:Nat) (hi:i < H.length) (p:Nat) (hT:isT L p kUse=true) :
 ACall P R.use_ [.ptr i 0,.d (.int .i64 (p:Int))] (H.set i (rst R.tr z L none)) (RQ R.tr z L (n+1) .use H i [] (p,none)):=by
 obtain ⟨fn,hf,hcf⟩:=hR.use_
 refine acall_fin hf hcf (by simp [irR7Use]) fun hcl _ => ?_
 have hp:=isT_ltE hE hT
 have hw:IntKind.i64.wrap ((p:Int)+1)=((p+1:Nat):Int):=by rw [wrap_i64 (by omega) (by omega)]; omega
 have hp1:(((p+1:Nat),none):PSt).2=none→(((p+1:Nat),none):PSt).1 < L.length:=fun _=>hp
 have g1:=fun X=>hR.wordA (z:=z) (s:=(p+1,none)) (X:=X) hi hp1 (by simp only; omega) 23 (p+1:Nat) 0 [] 0 true []
 generalize h1:wordS L (p+1,none)=s1 at g1
 have b1:=wordS_le h1
 have m1:=wordS_moE hE h1
 have g2:=fun X=>hR.wantA (z:=z) (s:=s1) (X:=X) hi (m1.lt hp1) (by simp only at b1; omega) [46]
 generalize h2:wantS L [46] s1=s2 at g2
 have b2:=wantS_le h2
 have m2:=m1.trans (wantS_moE hE h2)
 have g3:=fun X=>hR.wordA (z:=z) (s:=s2) (X:=X) hi (m2.lt hp1) (by simp only at b1; omega) 2 p 0 [] 0 true []
 generalize h3:wordS L s2=s3 at g3
 have b3:=wordS_le h3
 have m3:=m2.trans (wordS_moE hE h3)
 have g4:=fun X=>hR.wantA (z:=z) (s:=s3) (X:=X) hi (m3.lt hp1) (by simp only at b1; omega) [59]
 generalize h4:wantS L [59] s3=s4 at g4
 simp only [ag] at g1 g3
 simp [irR7Use,hw]
 refine CallK_of' (g1 _) ?_
 simp
 refine CallK_of' (g2 _) ?_
 simp
 refine CallK_of' (g3 _) ?_
 simp
 refine CallK_of' (g4 _) ?_
 simp
 have g5:=hR.ended.rended 2 p 0 (if wordOkB L s2 then txT L s2.1 else []) (if wordOkB L s2 then (s2.1:Int) else 0) true [] (s4.1:Int) false [[.int .i64 23,.int .i64 (p+1:Nat),.int .i64 (s1.1:Int),.str (if wordOkB L (p+1,none) then txT L (p+1) else []),.int .i64 (if wordOkB L (p+1,none) then ((p+1:Nat):Int) else 0),.sl true 6 []]]
 simp only [ag] at g5
 simp at g5
 refine CallK_of' (g5 _) ?_
 simp
 simp [RetK,rcut hcl]
 refine ⟨N.new 2 p s4.1 (if wordOkB L s2 then txT L s2.1 else []) (if wordOkB L s2 then (s2.1:Int) else 0) [N.new 23 (p+1) s1.1 (if kdT L (p+1)=1 then txT L (p+1) else []) (if kdT L (p+1)=1 then (p:Int)+1 else 0) []],s4,?_,by simp,?_⟩
 · simp [N.new,N.v_mk,N.enc_mk]
 subst h1 h2 h3 h4
 clear b1 b2 b3 m1 m2 m3 g1 g2 g3 g4 g5
 simp only [Rel,pp,wantR,wordR,if_pos hT]
 by_cases c2:kdT L (p+1)=1
 case neg=>simp [c2]; omega
 have l2:=kdT_ltE hE (show kdT L (p+1) ≠ 0 by omega)
 simp only [wordS_none,c2,if_true]
 by_cases c3:isT L (p+1+1) [46]=true
 case neg=>simp [c3]; omega
 have l3:=isT_ltE hE c3
 simp only [wantS_none,c3,if_true]
 by_cases c4:kdT L (p+1+1+1)=1
 case neg=>simp [c4]; omega
 have l4:=kdT_ltE hE (show kdT L (p+1+1+1) ≠ 0 by omega)
 simp only [wordS_none,c4,if_true]
 by_cases c5:isT L (p+1+1+1+1) [59]=true
 case neg=>simp [c5]; omega
 simp [c2,c3,c4,c5]
 simp [Int.add_assoc,Nat.add_assoc]
def LamRel (L:List Tk) (n:Nat) (s:PSt) (p t b:N) (s':PSt):Prop:=∃ s1 s2,Rel L n .params s p s1∧Rel L n .typed s1 t s2∧Rel L n .block s2 b s'
theorem RHas.lambda' (hR:RHas P R) (hE:EndsL L) (hL:L.length≤1048576) (n:Nat) (hn:n≤1099511627776) (hPa:UR P R.tr z L n .params R.params) (hTy:UR P R.tr z L n .typed R.typed) (hBl:UR P R.tr z L n .block R.block) (hi:i < H.length) (hb:s.1≤1048576+1) (h5:5≤n) (hp:s.2=none→s.1 < L.length∧16 * (L.length - s.1)+5≤n) :
 ACall P R.lambda [.ptr i 0,.d (.int .i64 (s.1:Int))] (H.set i (rst R.tr z L s.2)++X) (fun r H'=>∃ p t b s',r = .tup [.d (.sl false 6 [p.enc,t.enc,b.enc]),.d (.int .i64 (s'.1:Int))]∧H'=H.set i (rst R.tr z L s'.2)++X∧LamRel L n s p t b s'):=by
 obtain ⟨fn,hf,hcf⟩:=hR.lambda
 refine acall_fin hf hcf (by simp [irR7Lambda]) fun hcl _ => ?_
 have pr:∀ {s1:PSt} {g:G},g.c≤5→MoE L s s1→s1.1+16 * g.c≤281474976710656→PPreR L n g s1:=fun {s1 g} hc hm hbb=>by
  refine ⟨⟨hbb,by omega,fun e => ?_⟩,fun e => ?_⟩
  · obtain ⟨a1,a2,a3⟩:=hm e
    obtain ⟨c1,c2⟩:=hp a1
    have:=a3 c1
    exact ⟨by omega,by omega⟩
  · obtain ⟨a1,a2,a3⟩:=hm e
    exact a3 (hp a1).1
 obtain ⟨Q,hQ⟩:∃ Q:A→Hp→Prop,Q=fun r H'=>∃ p t b s',r = .tup [.d (.sl false 6 [p.enc,t.enc,b.enc]),.d (.int .i64 (s'.1:Int))]∧H'=H.set i (rst R.tr z L s'.2)++X∧LamRel L n s p t b s':=⟨_,rfl⟩
 rw [← hQ]
 have hcc:∀ st Y,Hp.cut (H.length+X.length) (H.set i (rst R.tr z L st)++(X++Y))=H.set i (rst R.tr z L st)++X:=fun st Y=>by
  have hcl':Hp.Closed ((H++X).set i (rst R.tr z L s.2)):=by rw [List.set_append_left _ _ hi]; exact hcl
  have:=rcut (st':=st) (X:=Y) hcl'
  rw [List.set_append_left _ _ hi,List.length_append,List.append_assoc] at this
  exact this
 simp [irR7Lambda]
 refine CallK_of (hPa H X i s hi (pr (by decide) (.refl s) (by simp only [G.c]; omega))) ?_
 rintro _ _ ⟨t1,s1,rfl,rfl,r1⟩
 have m1:=r1.moE hE
 have b1:=r1.wt0 rfl
 obtain ⟨ka,fa,ta,wa,qa,za,ksa⟩:=t1
 rw [N.v_mk]
 simp
 refine CallK_of (hTy H _ i s1 hi (pr (by decide) m1 (by simp only [G.c]; omega))) ?_
 rintro _ _ ⟨t2,s2,rfl,rfl,r2⟩
 have m2:=m1.trans (r2.moE hE)
 have b2:=r2.wt0 rfl
 obtain ⟨kb,fb,tb,wb,qb,zb,ksb⟩:=t2
 rw [N.v_mk]
 simp
 refine CallK_of (hBl H _ i s2 hi (pr (by decide) m2 (by simp only [G.c]; omega))) ?_
 rintro _ _ ⟨t3,s3,rfl,rfl,r3⟩
 obtain ⟨kc,fc,tc,wc,qc,zc,ksc⟩:=t3
 rw [N.v_mk]
 simp
 simp [RetK,hcc]
 subst hQ
 refine ⟨_,_,_,s3,?_,rfl,s1,s2,r1,r2,r3⟩
 simp [N.enc_mk]
end
end
section
section
variable {P:Program} {R:RF} {z:Bool} {L:List Tk} {H X:Hp} {i:Nat} {s:PSt}
theorem RHas.def' (hR:RHas P R) (hE:EndsL L) (hL:L.length≤1048576) (n:Nat) (hn:n≤1099511627776) (hPa:UR P R.tr z L n .params R.params) (hTy:UR P R.tr z L n .typed R.typed) (hBl:UR P R.tr z L n .block R.block) (hi:i < H.length) (p:Nat) (hpp:PPreR L (n+1) .defn (p,none)) :
 ACall P R.def_ [.ptr i 0,.d (.int .i64 (p:Int))] (H.set i (rst R.tr z L none)) (RQ R.tr z L (n+1) .defn H i [] (p,none)):=by
 obtain ⟨fn,hf,hcf⟩:=hR.def_
 refine acall_fin hf hcf (by simp [irR7Def]) fun hcl _ => ?_
 have hp:p < L.length:=hpp.2 rfl
 obtain ⟨-,hp2⟩:=hpp.1.2.2 rfl
 simp only [G.c] at hp2
 have hp1:(((p:Nat),none):PSt).2=none→(((p:Nat),none):PSt).1 < L.length:=fun _=>hp
 have g1:=fun X=>hR.wantA (z:=z) (s:=(p,none)) (X:=X) hi hp1 (by simp only; omega) [100,101,102]
 generalize h1:wantS L [100,101,102] (p,none)=s1 at g1
 have b1:=wantS_le h1
 have m1:=wantS_moE hE h1
 have g2:=fun X=>hR.wordA (z:=z) (s:=s1) (X:=X) hi (m1.lt hp1) (by simp only at b1; omega) 3 p 0 [] 0 true []
 generalize h2:wordS L s1=s2 at g2
 have b2:=wordS_le h2
 have m2:=m1.trans (wordS_moE hE h2)
 simp only [ag] at g2
 simp [irR7Def]
 refine CallK_of' (g1 _) ?_
 simp
 refine CallK_of' (g2 _) ?_
 simp
 refine CallK_of (hR.lambda' (X:=_) hE hL n hn hPa hTy hBl hi (by simp only at b1; omega) (by omega) (fun e=>by
  obtain ⟨a1,a2,a3⟩:=m2 e
  have:=a3 hp
  simp only at a2 this
  exact ⟨this,by omega⟩)) ?_
 rintro _ _ ⟨t1,t2,t3,s3,rfl,rfl,u1,u2,r1,r2,r3⟩
 simp
 have g5:=hR.ended.rended 3 p 0 (if wordOkB L s1 then txT L s1.1 else []) (if wordOkB L s1 then (s1.1:Int) else 0) true [] (s3.1:Int) false [t1.enc,t2.enc,t3.enc]
 simp only [ag] at g5
 refine CallK_of' (g5 _) ?_
 simp
 simp [RetK,rcut hcl]
 refine ⟨N.new 3 p s3.1 (if wordOkB L s1 then txT L s1.1 else []) (if wordOkB L s1 then (s1.1:Int) else 0) [t1,t2,t3],s3,?_,by simp,?_⟩
 · simp [N.new,N.v_mk]
 clear b1 b2 m1 m2 g1 g2 g5
 subst h1 h2
 simp only [Rel,pp,wantR,wordR,kDef]
 by_cases c1:isT L p [100,101,102]=true
 case neg =>
  simp [c1] at r1
  obtain ⟨a,rfl,e3⟩:=r1.some'
  obtain ⟨b,rfl,e4⟩:=r2.some'
  obtain ⟨c,rfl,e5⟩:=r3.some'
  simp only [G.wt] at e3 e4 e5
  simp [c1]
  omega
 have l1:=isT_ltE hE c1
 simp only [wantS_none,c1,if_true] at r1 ⊢
 by_cases c2:kdT L (p+1)=1
 case neg =>
  simp [c2] at r1
  obtain ⟨a,rfl,e3⟩:=r1.some'
  obtain ⟨b,rfl,e4⟩:=r2.some'
  obtain ⟨c,rfl,e5⟩:=r3.some'
  simp only [G.wt] at e3 e4 e5
  simp [c1,c2]
  omega
 simp only [wordS_none,c2,if_true] at r1
 rcases r1.none' with ⟨q,a,e,rfl,e3⟩ | ⟨k,e,rfl⟩
 · obtain ⟨b,rfl,e4⟩:=r2.some'
   obtain ⟨c,rfl,e5⟩:=r3.some'
   simp only [G.wt] at e4 e5
   simp [c1,c2,e,PR.then]
   omega
 rcases r2.none' with ⟨q,a,e',rfl,e4⟩ | ⟨k',e',rfl⟩
 · obtain ⟨c,rfl,e5⟩:=r3.some'
   simp only [G.wt] at e5
   simp [c1,c2,e,e',PR.then]
   omega
 rcases r3.none' with ⟨q,a,e'',rfl,e5⟩ | ⟨k'',e'',rfl⟩
 · simp [c1,c2,e,e',e'',PR.then]
   omega
 simp [c1,c2,e,e',e'',PR.then]
theorem RHas.typed' (hR:RHas P R) (hE:EndsL L) (hL:L.length≤1048576) (n:Nat) (hn:n≤1099511627776) (hK:UR P R.tr z L n .kind R.kind):UR P R.tr z L (n+1) .typed R.typed:=by
 refine UR_of fun H i s hi hpp => ?_
 obtain ⟨fn,hf,hcf⟩:=hR.typed
 refine acall_fin hf hcf (by simp [irR7Typed]) fun hcl _ => ?_
 have hp0:=hpp.1.1
 simp only [G.c] at hp0
 obtain ⟨p,st⟩:=s
 have hget:∀ st X,(H.set i (rst R.tr z L st)++X)[i]?=some (rst R.tr z L st):=fun st X=>upG hi
 have hget0:∀ st,(H.set i (rst R.tr z L st))[i]?=some (rst R.tr z L st):=fun st=>set_get hi _
 have hcc:∀ st' X,Hp.cut H.length (H.set i (rst R.tr z L st')++X)=H.set i (rst R.tr z L st'):=fun st' X=>rcut hcl
 cases st with
 | some q =>
   have hq:¬ (q:Int) < 0:=by omega
   have hq':(0:Int)≤q:=by omega
   have hg1:=hget (some q)
   have hg2:=hget0 (some q)
   have hc:=hcc (some q)
   simp only [rst] at hg1 hg2 hc
   simp [irR7Typed,rst,hg1,hg2,hq,hq']
   simp [RetK,hc]
   refine ⟨N.none,(p,some q),by simp [N.none,N.new,N.v_mk],by simp [rst],?_⟩
   simp [Rel]
 | none =>
   have hp:p < L.length:=hpp.2 rfl
   obtain ⟨hp1,hp2⟩:=hpp.1.2.2 rfl
   simp only [G.c] at hp1 hp2
   have g:=fun X=>hR.isA (z:=z) (st:=none) (X:=X) hi hp [58]
   have hw:IntKind.i64.wrap ((p:Int)+1)=((p+1:Nat):Int):=by rw [wrap_i64 (by omega) (by omega)]; omega
   have hg1:=hget none
   have hg2:=hget0 none
   simp only [rst] at hg1 hg2
   cases hT:isT L p [58] with
   | false =>
     rw [hT] at g
     simp only [rst] at g
     simp [irR7Typed,rst,hg1,hg2]
     refine CallK_of' (g _) ?_
     simp
     have hc:=hcc none
     simp only [rst] at hc
     simp [RetK,hc]
     refine ⟨N.none,(p,none),by simp [N.none,N.new,N.v_mk],by simp [rst],?_⟩
     simp [Rel,pp,hT]
   | true =>
     have hl:=isT_ltE hE hT
     rw [hT] at g
     have gk:=fun X=>hK H X i (p+1,none) hi ⟨⟨by simp only [G.c]; omega,by simp only [G.c]; omega,fun _=>⟨by simp only; omega,by simp only [G.c]; omega⟩⟩,fun _=>hl⟩
     obtain ⟨Q,hQ⟩:∃ Q:A→Hp→Prop,Q=RQ R.tr z L (n+1) .typed H i [] (p,none):=⟨_,rfl⟩
     rw [← hQ]
     simp only [rst] at g gk
     simp [irR7Typed,rst,hg1,hg2,hw]
     refine CallK_of' (g _) ?_
     simp [hw]
     refine CallK_of (gk _) ?_
     rintro _ _ ⟨m,s',rfl,rfl,hr⟩
     obtain ⟨k,f,t,w,a,zz,ks⟩:=m
     rw [N.v_mk]
     simp
     simp [RetK,hcc]
     subst hQ
     refine ⟨_,s',by rw [N.v_mk],by simp,?_⟩
     simp only [Rel] at hr ⊢
     simp [pp,hT]
     split at hr
     · exact hr.elim
     · rename_i q e
       exact ⟨hr.1,by omega⟩
     · rename_i m' k' e
       exact hr
end
end
section
theorem isT_same {L:List Tk} {i:Nat} {x y:Bs} (h:isT L i x=true) (h':isT L i y=true):x=y:=by
 unfold isT at h h'
 cases hg:L[i]? with
 | none=>rw [hg] at h; cases h
 | some t =>
   rw [hg] at h h'
   simp at h h'
   rw [← h.2,← h'.2]
section
variable {P:Program} {R:RF} {z:Bool} {L:List Tk} {H X:Hp} {i:Nat} {s:PSt}
theorem RHas.expr' (hR:RHas P R) (hx:Has P R.expr (irR7Expr R.sum R.is R.ended R.tn)) (hE:EndsL L) (hL:L.length≤1048576) (n:Nat) (hn:n≤1099511627776) (hS:UR P R.tr z L n .sum R.sum):UR P R.tr z L (n+1) .expr R.expr:=by
 refine UR_of fun H i s hi hpp => ?_
 obtain ⟨fn,hf,hcf⟩:=hx
 refine acall_fin hf hcf (by simp [irR7Expr]) fun hcl _ => ?_
 have hp0:=hpp.1.1
 simp only [G.c] at hp0
 have hget:∀ st X,(H.set i (rst R.tr z L st)++X)[i]?=some (rst R.tr z L st):=fun st X=>upG hi
 have hcc:∀ st' X,Hp.cut H.length (H.set i (rst R.tr z L st')++X)=H.set i (rst R.tr z L st'):=fun st' X=>rcut hcl
 have gS:=fun X s hp=>hS H X i s hi hp
 obtain ⟨Q,hQ⟩:∃ Q:A→Hp→Prop,Q=RQ R.tr z L (n+1) .expr H i [] s:=⟨_,rfl⟩
 rw [← hQ]
 simp [irR7Expr]
 refine CallK_of (gS _ s ((MoE.refl s).pre hpp (by decide) (by simp only [G.c]; omega))) ?_
 rintro _ _ ⟨m,s1,rfl,rfl,r1⟩
 have m1:=r1.moE hE
 have hlt:=m1.lt hpp.2
 obtain ⟨k,f,t,w,a,zz,ks⟩:=m
 rw [N.v_mk]
 have ret:Rel L (n+1) .expr s (.mk k f t w a zz ks) s1→Q (.tup [.agg [.d (.int .i64 k),.d (.int .i64 f),.d (.int .i64 t),.d (.str w),.d (.int .i64 a),.d (.sl zz 6 (ks.map N.enc))],.d (.int .i64 (s1.1:Int))]) (H.set i (rst R.tr z L s1.2)):=fun h=>by
  subst hQ
  exact ⟨_,s1,by rw [N.v_mk],by simp,h⟩
 obtain ⟨p1,st1⟩:=s1
 cases st1 with
 | some q =>
   have hg1:=hget (some q)
   have hc:=hcc (some q)
   have hq:¬ (q:Int) < 0:=by omega
   have hq':(0:Int)≤q:=by omega
   simp only [rst] at hg1 hc ret
   simp [rst,hg1,hq,hq']
   simp [RetK,hc]
   refine ret ?_
   obtain ⟨p,st⟩:=s
   cases st with
   | some q' =>
     obtain ⟨b,e,e3⟩:=r1.some'
     simp only [Prod.mk.injEq,Option.some.injEq] at e
     obtain ⟨rfl,rfl⟩:=e
     simp only [G.wt] at e3
     simpa [Rel,G.wt] using e3
   | none =>
     rcases r1.none' with ⟨q',b,e,e2,e3⟩ | ⟨k',e,e2⟩
     · simp only [Prod.mk.injEq,Option.some.injEq] at e2
       obtain ⟨rfl,rfl⟩:=e2
       simp [Rel,pp,e,PR.then]
       omega
     · simp at e2
 | none =>
   have hl1:p1 < L.length:=hlt rfl
   have hg1:=hget none
   have hc:=hcc none
   obtain ⟨hs0,hle,-⟩:=m1 rfl
   obtain ⟨p,st⟩:=s
   simp only at hs0
   subst hs0
   simp only at hle
   obtain ⟨hp1,hp2⟩:=hpp.1.2.2 rfl
   simp only [G.c] at hp1 hp2
   have e1:pp L n .sum p = .ok (.mk k f t w a zz ks) p1:=by
    rcases r1.none' with ⟨q',b,e,e2,e3⟩ | ⟨k',e,e2⟩
    · simp at e2
    · simp only [Prod.mk.injEq] at e2
      rw [e,e2.1]
   have hw:IntKind.i64.wrap ((p1:Int)+1)=((p1+1:Nat):Int):=by rw [wrap_i64 (by omega) (by omega)]; omega
   have gi1:=fun X=>hR.isA (z:=z) (st:=none) (X:=X) hi hl1 [60]
   have gi2:=fun X=>hR.isA (z:=z) (st:=none) (X:=X) hi hl1 [61,61]
   have more:∀ (K:Int),isT L p1 [60]=true∧K=14∨isT L p1 [60]=false∧isT L p1 [61,61]=true∧K=15→∀ (m2:N) (s2:PSt),Rel L n .sum (p1+1,none) m2 s2→Q (.tup [.agg [.d (.int .i64 K),.d (.int .i64 f),.d (.int .i64 (s2.1:Int)),.d (.str []),.d (.int .i64 0),.d (.sl false 6 [[.int .i64 k,.int .i64 f,.int .i64 t,.str w,.int .i64 a,.sl zz 6 (ks.map N.enc)],m2.enc])],.d (.int .i64 (s2.1:Int))]) (H.set i (rst R.tr z L s2.2)):=by
    intro K hK m2 s2 r2
    subst hQ
    refine ⟨N.new K f s2.1 [] 0 [.mk k f t w a zz ks,m2],s2,by simp [N.new,N.v_mk,N.enc_mk],by simp,?_⟩
    simp only [Rel,pp,e1,PR.then]
    rcases hK with ⟨h1,rfl⟩ | ⟨h1,h2,rfl⟩
    · have:=isT_ltE hE h1
      rw [if_pos h1]
      rcases r2.none' with ⟨q',b,e,rfl,e3⟩ | ⟨k',e,rfl⟩
      · simp [e,PR.then]; omega
      · simp [e,PR.then,N.f]
    · have:=isT_ltE hE h2
      rw [if_neg (by simp [h1]),if_pos h2]
      rcases r2.none' with ⟨q',b,e,rfl,e3⟩ | ⟨k',e,rfl⟩
      · simp [e,PR.then]; omega
      · simp [e,PR.then,N.f]
   have pre2:p1+1 < L.length→PPreR L n .sum (p1+1,none):=fun h=>⟨⟨by simp only [G.c]; omega,by simp only [G.c]; omega,fun _=>⟨by simp only; omega,by simp only [G.c]; omega⟩⟩,fun _=>h⟩
   cases hT:isT L p1 [60] with
   | true =>
     have hT2:isT L p1 [61,61]=false:=by
      cases h:isT L p1 [61,61] with
      | false=>rfl
      | true=>exact absurd (isT_same hT h) (by decide)
     have g3:=fun X=>gS X _ (pre2 (isT_ltE hE hT))
     have more:=more 14 (.inl ⟨hT,rfl⟩)
     rw [hT] at gi1
     rw [hT2] at gi2
     simp only [rst] at hg1 gi1 gi2 g3
     simp [rst,hg1]
     refine CallK_of' (gi1 _) ?_
     simp
     refine CallK_of' (gi2 _) ?_
     simp [hw]
     refine CallK_of (g3 _) ?_
     rintro _ _ ⟨m2,s2,rfl,rfl,r2⟩
     have more:=more m2 s2 r2
     obtain ⟨k2,f2,t2,w2,a2,z2,ks2⟩:=m2
     rw [N.v_mk]
     rw [N.enc_mk] at more
     have g5:=hR.ended.rended 14 f 0 [] 0 true [] (s2.1:Int) false [[.int .i64 k,.int .i64 f,.int .i64 t,.str w,.int .i64 a,.sl zz 6 (ks.map N.enc)],[.int .i64 k2,.int .i64 f2,.int .i64 t2,.str w2,.int .i64 a2,.sl z2 6 (ks2.map N.enc)]]
     simp only [ag] at g5
     simp
     refine CallK_of' (g5 _) ?_
     simp
     simp [RetK,hcc]
     exact more
   | false =>
     cases hT2:isT L p1 [61,61] with
     | true =>
       have g3:=fun X=>gS X _ (pre2 (isT_ltE hE hT2))
       have more:=more 15 (.inr ⟨hT,hT2,rfl⟩)
       rw [hT] at gi1
       rw [hT2] at gi2
       simp only [rst] at hg1 gi1 gi2 g3
       simp [rst,hg1]
       refine CallK_of' (gi1 _) ?_
       simp
       refine CallK_of' (gi2 _) ?_
       simp
       refine CallK_of' (gi2 _) ?_
       simp [hw]
       refine CallK_of (g3 _) ?_
       rintro _ _ ⟨m2,s2,rfl,rfl,r2⟩
       have more:=more m2 s2 r2
       obtain ⟨k2,f2,t2,w2,a2,z2,ks2⟩:=m2
       rw [N.v_mk]
       rw [N.enc_mk] at more
       have g5:=hR.ended.rended 15 f 0 [] 0 true [] (s2.1:Int) false [[.int .i64 k,.int .i64 f,.int .i64 t,.str w,.int .i64 a,.sl zz 6 (ks.map N.enc)],[.int .i64 k2,.int .i64 f2,.int .i64 t2,.str w2,.int .i64 a2,.sl z2 6 (ks2.map N.enc)]]
       simp only [ag] at g5
       simp
       refine CallK_of' (g5 _) ?_
       simp
       simp [RetK,hcc]
       exact more
     | false =>
       rw [hT] at gi1
       rw [hT2] at gi2
       simp only [rst] at hg1 gi1 gi2 hc ret
       simp [rst,hg1]
       refine CallK_of' (gi1 _) ?_
       simp
       refine CallK_of' (gi2 _) ?_
       simp
       simp [RetK,hc]
       refine ret ?_
       simp [Rel,pp,e1,PR.then,hT,hT2]
end
end
section
def zbx (tn:TypeId):Ob := .box tn [.d (.int .i64 0),.d (.int .i64 0),.d (.int .i64 0),.d (.str []),.d (.int .i64 0),.d (.sl true 6 [])]
theorem rcutk {tr:TypeId} {z:Bool} {L:List Tk} {H:Hp} {i:Nat} {st:Option Nat} (hcl:Hp.Closed (H.set i (rst tr z L st))) (st':Option Nat) (k:Nat) (X:Hp):Hp.cut (H.length+k) (H.set i (rst tr z L st')++X)=H.set i (rst tr z L st')++(X.take k).map (Ob.clr (H.length+k)):=by
 have hc:Hp.Closed (H.set i (rst tr z L st')):=by
  have e:H.set i (rst tr z L st')=(H.set i (rst tr z L st)).set i (rst tr z L st'):=by simp
  intro n hn
  have h:=hcl n (by simpa using hn)
  rw [e,List.map_set,h,rst_clr]
 have:=cut_appk hc k X
 rwa [List.length_set] at this
section
variable {P:Program} {R:RF} {z:Bool} {L:List Tk}
theorem node_ho (tn:TypeId) (a:N):∃ (k f t:Int) (w:Bs) (q:Int) (za:Bool) (ks:List N),a.f=f∧a.enc=[.int .i64 k,.int .i64 f,.int .i64 t,.str w,.int .i64 q,.sl za 6 (ks.map N.enc)]∧a.v = .agg [.d (.int .i64 k),.d (.int .i64 f),.d (.int .i64 t),.d (.str w),.d (.int .i64 q),.d (.sl za 6 (ks.map N.enc))]∧abx tn a = .box tn [.d (.int .i64 k),.d (.int .i64 f),.d (.int .i64 t),.d (.str w),.d (.int .i64 q),.d (.sl za 6 (ks.map N.enc))]:=by
 obtain ⟨k,f,t,w,q,za,ks⟩:=a
 exact ⟨k,f,t,w,q,za,ks,rfl,by rw [N.enc_mk],by rw [N.v_mk],by rw [abx,N.enc_mk]; rfl⟩
theorem RHas.term' (hR:RHas P R) (hx:Has P R.term (irR7Term R.post R.is R.ended R.tn)) (hE:EndsL L) (hL:L.length≤1048576) (n:Nat) (hn:n≤1099511627776) (hT:∀ m,m < n+1→UR P R.tr z L m .post R.post):UR P R.tr z L (n+1) .term R.term:=by
 refine UR_of fun H i s hi hpp => ?_
 obtain ⟨fn,hf,hcf⟩:=hx
 refine acall_fin hf hcf (by simp [irR7Term]) fun hcl _ => ?_
 have hp1:=hpp.1.1
 simp only [G.c] at hp1
 simp [irR7Term]
 refine CallK_of (hT n (by omega) H _ i s hi ((MoE.refl s).pre hpp (by decide) (by simp only [G.c]; omega))) ?_
 rintro _ _ ⟨a0,s1,rfl,rfl,r1⟩
 have b1:=r1.le
 have m1:=r1.moE hE
 obtain ⟨XX,hXX⟩:∃ XX:N→Hp,XX=fun a=>[zbx R.tn,abx R.tn a]:=⟨_,rfl⟩
 have hXl:∀ a,(XX a).length=2:=fun a=>by rw [hXX]; rfl
 obtain ⟨E,hE0⟩:∃ E:Fr→Hp→Prop,E=fun fr H'=>∃ a s',(fr 0 = .ptr i 0∧fr 4 = .ptr H.length 0∧fr 6 = .ptr (H.length+1) 0∧fr 7 = .d (.int .i64 (s'.1:Int)))∧Rel L (n+1) .term s a s'∧∃ Y,H'=H.set i (rst R.tr z L s'.2)++(XX a++Y):=⟨_,rfl⟩
 have hE1:∀ fr a s',(fr 0 = .ptr i 0∧fr 4 = .ptr H.length 0∧fr 6 = .ptr (H.length+1) 0∧fr 7 = .d (.int .i64 (s'.1:Int)))→Rel L (n+1) .term s a s'→E fr (H.set i (rst R.tr z L s'.2)++XX a):=fun fr a s' h h'=>by subst hE0; exact ⟨a,s',h,h',[],by simp⟩
 obtain ⟨k,f,t,w,q,za,ks,hf0,he,hv,hb⟩:=node_ho R.tn a0
 rw [hv]
 simp
 rw [show H.set i (rst R.tr z L s1.2)++[Ob.box R.tn [.d (.int .i64 0),.d (.int .i64 0),.d (.int .i64 0),.d (.str []),.d (.int .i64 0),.d (.sl true 6 [])],.box R.tn [.d (.int .i64 k),.d (.int .i64 f),.d (.int .i64 t),.d (.str w),.d (.int .i64 q),.d (.sl za 6 (ks.map N.enc))]]=H.set i (rst R.tr z L s1.2)++XX a0 by rw [hXX,← hb]; rfl]
 refine LoopK_outR 0 E (fun _ _=>False) ?_ (fun _ _ h=>h.elim) ?_
 rotate_left
 · intro fr H' h
   subst hE0
   obtain ⟨a,s',⟨f0,f4,f6,f7⟩,hr,Y,rfl⟩:=h
   obtain ⟨k,f,t,w,q,za,ks,-,-,hv,hb⟩:=node_ho R.tn a
   subst hXX
   simp [f0,f4,f6,f7,hb,zbx]
   simp [RetK,rcut hcl]
   exact ⟨a,s',by rw [hv],by simp,hr⟩
 clear hE0
 have hcut:∀ a st' X,Hp.cut (H.length+2) (H.set i (rst R.tr z L st')++(XX a++X))=H.set i (rst R.tr z L st')++XX a:=fun a st' X=>by
  rw [rcutk hcl,hXX]
  change H.set i (rst R.tr z L st')++[(zbx R.tn).clr _,(abx R.tn a).clr _]=_
  rw [abx_clr]; rfl
 have hcut0:∀ a st',Hp.cut (H.length+2) (H.set i (rst R.tr z L st')++XX a)=H.set i (rst R.tr z L st')++XX a:=fun a st'=>by simpa using hcut a st' []
 have hg0:∀ st X,(H.set i (rst R.tr z L st)++X)[i]?=some (rst R.tr z L st):=fun st X=>upG hi
 have hset:∀ a a' X,(XX a++X).set 1 (abx R.tn a')=XX a'++X:=fun a a' X=>by rw [hXX]; simp
 have hgA:∀ a X,(XX a++X)[1]?=some (abx R.tn a):=fun a X=>by rw [hXX]; simp
 have hgB:∀ a b X,(XX a++b :: X)[2]?=some b:=fun a b X=>by rw [hXX]; simp
 refine LoopM_of (H.length+2) (fun d fr H'=>∃ a s',(fr 0 = .ptr i 0∧fr 4 = .ptr H.length 0∧fr 6 = .ptr (H.length+1) 0∧fr 7 = .d (.int .i64 (s'.1:Int)))∧H'=H.set i (rst R.tr z L s'.2)++XX a ∧
  ((d=0∧s'.2 ≠ none∧∀ m,Rel L (n+1) .term s m s')∨∃ p1,s'=(p1,none)∧s.2=none∧d≤n∧pp L (n+1) .term s.1=pp L d (.termL a) p1∧p1 < L.length∧16 * (L.length - p1)+1≤d)) (match s1.2 with | none=>n | some _=>0) (by simp [hXl]) ⟨a0,s1,?_⟩ ?_
 · have hil2:i < H.length+2:=by omega
   refine ⟨by simp [hil2],hcut0 _ _,?_⟩
   obtain ⟨p,st⟩:=s
   cases st with
   | some q =>
     obtain ⟨b,rfl,e⟩:=r1.some'
     simp only [G.wt] at e
     exact .inl ⟨rfl,by simp,fun m=>by simp [Rel,G.wt]; omega⟩
   | none =>
     obtain ⟨hp2,hp3⟩:=hpp.1.2.2 rfl
     simp only [G.c] at hp2 hp3
     have hpl:=hpp.2 rfl
     rcases r1.none' with ⟨q',b,hq,rfl,e3⟩ | ⟨j,hj,rfl⟩
     · exact .inl ⟨rfl,by simp,fun m=>by simp [Rel,pp,hq,PR.then]; omega⟩
     · have:=pp_advE hE n .post p
       rw [hj] at this
       obtain ⟨v1,v2,v3⟩:=this
       have v2:=v2 rfl
       have v3:=v3 v2
       exact .inr ⟨j,rfl,rfl,by simp,by simp [pp,hj,PR.then],v3,by (try simp only at hp3 ⊢); omega⟩
 · rintro d fr H' ⟨a,s',⟨f0,f4,f6,f7⟩,rfl,hd⟩
   have hil2:i < H.length+2:=by omega
   rcases hd with ⟨rfl,q1,q2⟩ | ⟨p1,rfl,hs2,hdn,hpe,hp1',hrk⟩
   · obtain ⟨p',st'⟩:=s'
     cases st' with
     | none=>simp at q1
     | some q =>
       have hg1:=hg0 (some q)
       have hq:¬ (q:Int) < 0:=by omega
       have hE2:=fun fr h=>hE1 fr a (p',some q) h (q2 _)
       simp only [rst] at hg1 hE2
       simp [f0,f7,rst,hg1,hq]
       exact hE2 _ (by simp [f0,f4,f6,f7])
   · obtain ⟨d',rfl⟩:∃ d',d=d'+1:=⟨d - 1,by omega⟩
     have hRel:∀ m s',(match pp L (d'+1) (.termL a) p1 with | .out=>False | .bad q=>s'.2=some q∧s'.1≤L.length+(n+1) | .ok m' k=>m=m'∧s'=(k,none))→Rel L (n+1) .term s m s':=fun m s' h=>by
      unfold Rel
      rw [hs2]
      simp only
      rw [hpe]; exact h
     have hg1:=hg0 none
     have gi:=fun X=>hR.isA (z:=z) (st:=none) (X:=X) hi hp1' [42]
     have hw:IntKind.i64.wrap ((p1:Int)+1)=((p1+1:Nat):Int):=by rw [wrap_i64 (by omega) (by omega)]; omega
     cases hjb:isT L p1 [42] with
     | false =>
       have hE2:=fun fr h=>hE1 fr a (p1,none) h (hRel _ _ (by simp [pp,hjb]))
       rw [hjb] at gi
       simp only [rst] at hg1 gi hE2
       simp [f0,f7,rst,hg1]
       refine CallK_of' (gi _) ?_
       simp
       exact hE2 _ (by simp [f0,f4,f6,f7])
     | true =>
       have l1:=isT_ltE hE hjb
       obtain ⟨k,f,t,w,q,za,ks,hf,he,hv,hb⟩:=node_ho R.tn a
       have gp:=fun X=>hT d' (by omega) H X i (p1+1,none) hi ⟨⟨by simp only [G.c]; omega,by simp only [G.c]; omega,fun _=>⟨by simp only; omega,by simp only [G.c]; omega⟩⟩,fun _=>l1⟩
       rw [hjb] at gi
       simp only [rst] at hg1 gi gp
       simp [f0,f7,rst,hg1]
       refine CallK_of' (gi _) ?_
       simp [f0,f7,hw]
       refine CallK_of (gp _) ?_
       rintro _ _ ⟨b,s2,rfl,rfl,r2⟩
       obtain ⟨kb,fb,tb,wb,qb,zb,ksb,hfb,heb,hvb,hbb⟩:=node_ho R.tn b
       rw [hvb]
       obtain ⟨bo,hbo⟩:∃ bo:Ob,bo = .box R.tn [.d (.int .i64 kb),.d (.int .i64 fb),.d (.int .i64 tb),.d (.str wb),.d (.int .i64 qb),.d (.sl zb 6 (ksb.map N.enc))]:=⟨_,rfl⟩
       have hA:=hgA a
       rw [hb] at hA
       have hB:=fun X=>hgB a bo X
       rw [hbo] at hB
       have g5:=hR.ended.rended 18 f 0 [] 0 true [] (s2.1:Int) false [a.enc,b.enc]
       rw [he,heb] at g5
       simp only [ag] at g5
       have hA1:∀ h,(XX a)[1]'h = .box R.tn [.d (.int .i64 k),.d (.int .i64 f),.d (.int .i64 t),.d (.str w),.d (.int .i64 q),.d (.sl za 6 (ks.map N.enc))]:=fun h=>by rw [← hb]; simp [hXX]
       simp [f6,hXl,hA,hB,hA1]
       refine CallK_of' (g5 _) ?_
       have hnew:abx R.tn (N.new 18 f s2.1 [] 0 [a,b]) = .box R.tn [.d (.int .i64 18),.d (.int .i64 f),.d (.int .i64 s2.1),.d (.str []),.d (.int .i64 0),.d (.sl false 6 [[.int .i64 k,.int .i64 f,.int .i64 t,.str w,.int .i64 q,.sl za 6 (ks.map N.enc)],[.int .i64 kb,.int .i64 fb,.int .i64 tb,.str wb,.int .i64 qb,.sl zb 6 (ksb.map N.enc)]])]:=by
        rw [abx,N.new,N.enc_mk]
        simp [he,heb]
       have hs1:=fun Y=>hset a (N.new 18 f s2.1 [] 0 [a,b]) Y
       rw [hnew] at hs1
       simp [f6,hXl,hA,hA1,hs1]
       rcases r2.none' with ⟨q',b',hq,rfl,e3⟩ | ⟨j,hj,rfl⟩
       · refine NextM_of (H.length+2) 0 (Nat.le_refl _) (by simp [hXl]) (by omega) ⟨_,(b',some q'),by simp [f0,f4,f6,hil2],hcut _ _ _,.inl ⟨rfl,by simp,fun m=>hRel _ _ ?_⟩⟩
         simp [pp,hjb,hq,PR.then]; omega
       · have:=pp_advE hE d' .post (p1+1)
         rw [hj] at this
         obtain ⟨v1,v2,v3⟩:=this
         have v2:=v2 rfl
         have v3:=v3 v2
         refine NextM_of (H.length+2) d' (Nat.le_refl _) (by simp [hXl]) (by omega) ⟨_,(j,none),by simp [f0,f4,f6,hil2],hcut _ _ _,.inr ⟨j,rfl,hs2,by omega,?_,v3,by omega⟩⟩
         rw [hpe]; simp [pp,hjb,hj,PR.then,hf]
end
end
section
section
variable {P:Program} {R:RF} {z:Bool} {L:List Tk}
theorem RHas.sum' (hR:RHas P R) (hx:Has P R.sum (irR7Sum R.term R.is R.ended R.tn)) (hE:EndsL L) (hL:L.length≤1048576) (n:Nat) (hn:n≤1099511627776) (hT:∀ m,m < n+1→UR P R.tr z L m .term R.term):UR P R.tr z L (n+1) .sum R.sum:=by
 refine UR_of fun H i s hi hpp => ?_
 obtain ⟨fn,hf,hcf⟩:=hx
 refine acall_fin hf hcf (by simp [irR7Sum]) fun hcl _ => ?_
 have hp1:=hpp.1.1
 simp only [G.c] at hp1
 simp [irR7Sum]
 refine CallK_of (hT n (by omega) H _ i s hi ((MoE.refl s).pre hpp (by decide) (by simp only [G.c]; omega))) ?_
 rintro _ _ ⟨a0,s1,rfl,rfl,r1⟩
 have b1:=r1.le
 have m1:=r1.moE hE
 obtain ⟨XX,hXX⟩:∃ XX:N→Hp,XX=fun a=>[zbx R.tn,abx R.tn a]:=⟨_,rfl⟩
 have hXl:∀ a,(XX a).length=2:=fun a=>by rw [hXX]; rfl
 obtain ⟨E,hE0⟩:∃ E:Fr→Hp→Prop,E=fun fr H'=>∃ a s',(fr 0 = .ptr i 0∧fr 4 = .ptr H.length 0∧fr 6 = .ptr (H.length+1) 0∧fr 7 = .d (.int .i64 (s'.1:Int)))∧Rel L (n+1) .sum s a s'∧∃ Y,H'=H.set i (rst R.tr z L s'.2)++(XX a++Y):=⟨_,rfl⟩
 have hE1:∀ fr a s',(fr 0 = .ptr i 0∧fr 4 = .ptr H.length 0∧fr 6 = .ptr (H.length+1) 0∧fr 7 = .d (.int .i64 (s'.1:Int)))→Rel L (n+1) .sum s a s'→E fr (H.set i (rst R.tr z L s'.2)++XX a):=fun fr a s' h h'=>by subst hE0; exact ⟨a,s',h,h',[],by simp⟩
 obtain ⟨k,f,t,w,q,za,ks,hf0,he,hv,hb⟩:=node_ho R.tn a0
 rw [hv]
 simp
 rw [show H.set i (rst R.tr z L s1.2)++[Ob.box R.tn [.d (.int .i64 0),.d (.int .i64 0),.d (.int .i64 0),.d (.str []),.d (.int .i64 0),.d (.sl true 6 [])],.box R.tn [.d (.int .i64 k),.d (.int .i64 f),.d (.int .i64 t),.d (.str w),.d (.int .i64 q),.d (.sl za 6 (ks.map N.enc))]]=H.set i (rst R.tr z L s1.2)++XX a0 by rw [hXX,← hb]; rfl]
 refine LoopK_outR 0 E (fun _ _=>False) ?_ (fun _ _ h=>h.elim) ?_
 rotate_left
 · intro fr H' h
   subst hE0
   obtain ⟨a,s',⟨f0,f4,f6,f7⟩,hr,Y,rfl⟩:=h
   obtain ⟨k,f,t,w,q,za,ks,-,-,hv,hb⟩:=node_ho R.tn a
   subst hXX
   simp [f0,f4,f6,f7,hb,zbx]
   simp [RetK,rcut hcl]
   exact ⟨a,s',by rw [hv],by simp,hr⟩
 clear hE0
 have hcut:∀ a st' X,Hp.cut (H.length+2) (H.set i (rst R.tr z L st')++(XX a++X))=H.set i (rst R.tr z L st')++XX a:=fun a st' X=>by
  rw [rcutk hcl,hXX]
  change H.set i (rst R.tr z L st')++[(zbx R.tn).clr _,(abx R.tn a).clr _]=_
  rw [abx_clr]; rfl
 have hcut0:∀ a st',Hp.cut (H.length+2) (H.set i (rst R.tr z L st')++XX a)=H.set i (rst R.tr z L st')++XX a:=fun a st'=>by simpa using hcut a st' []
 have hg0:∀ st X,(H.set i (rst R.tr z L st)++X)[i]?=some (rst R.tr z L st):=fun st X=>upG hi
 have hset:∀ a a' X,(XX a++X).set 1 (abx R.tn a')=XX a'++X:=fun a a' X=>by rw [hXX]; simp
 have hgA:∀ a X,(XX a++X)[1]?=some (abx R.tn a):=fun a X=>by rw [hXX]; simp
 have hgB:∀ a b X,(XX a++b :: X)[2]?=some b:=fun a b X=>by rw [hXX]; simp
 refine LoopM_of (H.length+2) (fun d fr H'=>∃ a s',(fr 0 = .ptr i 0∧fr 4 = .ptr H.length 0∧fr 6 = .ptr (H.length+1) 0∧fr 7 = .d (.int .i64 (s'.1:Int)))∧H'=H.set i (rst R.tr z L s'.2)++XX a ∧
  ((d=0∧s'.2 ≠ none∧∀ m,Rel L (n+1) .sum s m s')∨∃ p1,s'=(p1,none)∧s.2=none∧d≤n∧pp L (n+1) .sum s.1=pp L d (.sumL a) p1∧p1 < L.length∧16 * (L.length - p1)+1≤d)) (match s1.2 with | none=>n | some _=>0) (by simp [hXl]) ⟨a0,s1,?_⟩ ?_
 · have hil2:i < H.length+2:=by omega
   refine ⟨by simp [hil2],hcut0 _ _,?_⟩
   obtain ⟨p,st⟩:=s
   cases st with
   | some q =>
     obtain ⟨b,rfl,e⟩:=r1.some'
     simp only [G.wt] at e
     exact .inl ⟨rfl,by simp,fun m=>by simp [Rel,G.wt]; omega⟩
   | none =>
     obtain ⟨hp2,hp3⟩:=hpp.1.2.2 rfl
     simp only [G.c] at hp2 hp3
     have hpl:=hpp.2 rfl
     rcases r1.none' with ⟨q',b,hq,rfl,e3⟩ | ⟨j,hj,rfl⟩
     · exact .inl ⟨rfl,by simp,fun m=>by simp [Rel,pp,hq,PR.then]; omega⟩
     · have:=pp_advE hE n .term p
       rw [hj] at this
       obtain ⟨v1,v2,v3⟩:=this
       have v2:=v2 rfl
       have v3:=v3 v2
       exact .inr ⟨j,rfl,rfl,by simp,by simp [pp,hj,PR.then],v3,by (try simp only at hp3 ⊢); omega⟩
 · rintro d fr H' ⟨a,s',⟨f0,f4,f6,f7⟩,rfl,hd⟩
   have hil2:i < H.length+2:=by omega
   rcases hd with ⟨rfl,q1,q2⟩ | ⟨p1,rfl,hs2,hdn,hpe,hp1',hrk⟩
   · obtain ⟨p',st'⟩:=s'
     cases st' with
     | none=>simp at q1
     | some q =>
       have hg1:=hg0 (some q)
       have hq:¬ (q:Int) < 0:=by omega
       have hE2:=fun fr h=>hE1 fr a (p',some q) h (q2 _)
       simp only [rst] at hg1 hE2
       simp [f0,f7,rst,hg1,hq]
       exact hE2 _ (by simp [f0,f4,f6,f7])
   · obtain ⟨d',rfl⟩:∃ d',d=d'+1:=⟨d - 1,by omega⟩
     have hRel:∀ m s',(match pp L (d'+1) (.sumL a) p1 with | .out=>False | .bad q=>s'.2=some q∧s'.1≤L.length+(n+1) | .ok m' k=>m=m'∧s'=(k,none))→Rel L (n+1) .sum s m s':=fun m s' h=>by
      unfold Rel
      rw [hs2]
      simp only
      rw [hpe]; exact h
     have hg1:=hg0 none
     have gi:=fun X=>hR.isA (z:=z) (st:=none) (X:=X) hi hp1' [43]
     have gj:=fun X=>hR.isA (z:=z) (st:=none) (X:=X) hi hp1' [45]
     have hw:IntKind.i64.wrap ((p1:Int)+1)=((p1+1:Nat):Int):=by rw [wrap_i64 (by omega) (by omega)]; omega
     cases hjb:isT L p1 [43] with
     | true =>
       have l1:=isT_ltE hE hjb
       have hjc:isT L p1 [45]=false:=by
        cases h:isT L p1 [45] with
        | false=>rfl
        | true=>exact absurd (isT_same hjb h) (by decide)
       obtain ⟨k,f,t,w,q,za,ks,hf,he,hv,hb⟩:=node_ho R.tn a
       have gp:=fun X=>hT d' (by omega) H X i (p1+1,none) hi ⟨⟨by simp only [G.c]; omega,by simp only [G.c]; omega,fun _=>⟨by simp only; omega,by simp only [G.c]; omega⟩⟩,fun _=>l1⟩
       rw [hjb] at gi
       rw [hjc] at gj
       simp only [rst] at hg1 gi gj gp
       simp [f0,f7,rst,hg1]
       refine CallK_of' (gi _) ?_
       simp [f0,f7]
       refine CallK_of' (gj _) ?_
       simp [f0,f7,hw]
       refine CallK_of (gp _) ?_
       rintro _ _ ⟨b,s2,rfl,rfl,r2⟩
       obtain ⟨kb,fb,tb,wb,qb,zb,ksb,hfb,heb,hvb,hbb⟩:=node_ho R.tn b
       rw [hvb]
       obtain ⟨bo,hbo⟩:∃ bo:Ob,bo = .box R.tn [.d (.int .i64 kb),.d (.int .i64 fb),.d (.int .i64 tb),.d (.str wb),.d (.int .i64 qb),.d (.sl zb 6 (ksb.map N.enc))]:=⟨_,rfl⟩
       have hA:=hgA a
       rw [hb] at hA
       have hB:=fun X=>hgB a bo X
       rw [hbo] at hB
       have g5:=hR.ended.rended 16 f 0 [] 0 true [] (s2.1:Int) false [a.enc,b.enc]
       rw [he,heb] at g5
       simp only [ag] at g5
       have hA1:∀ h,(XX a)[1]'h = .box R.tn [.d (.int .i64 k),.d (.int .i64 f),.d (.int .i64 t),.d (.str w),.d (.int .i64 q),.d (.sl za 6 (ks.map N.enc))]:=fun h=>by rw [← hb]; simp [hXX]
       simp [f6,hXl,hA,hB,hA1]
       refine CallK_of' (g5 _) ?_
       have hnew:abx R.tn (N.new 16 f s2.1 [] 0 [a,b]) = .box R.tn [.d (.int .i64 16),.d (.int .i64 f),.d (.int .i64 s2.1),.d (.str []),.d (.int .i64 0),.d (.sl false 6 [[.int .i64 k,.int .i64 f,.int .i64 t,.str w,.int .i64 q,.sl za 6 (ks.map N.enc)],[.int .i64 kb,.int .i64 fb,.int .i64 tb,.str wb,.int .i64 qb,.sl zb 6 (ksb.map N.enc)]])]:=by
        rw [abx,N.new,N.enc_mk]
        simp [he,heb]
       have hs1:=fun Y=>hset a (N.new 16 f s2.1 [] 0 [a,b]) Y
       rw [hnew] at hs1
       simp [f6,hXl,hA,hA1,hs1]
       rcases r2.none' with ⟨q',b',hq,rfl,e3⟩ | ⟨j,hj,rfl⟩
       · refine NextM_of (H.length+2) 0 (Nat.le_refl _) (by simp [hXl]) (by omega) ⟨_,(b',some q'),by simp [f0,f4,f6,hil2],hcut _ _ _,.inl ⟨rfl,by simp,fun m=>hRel _ _ ?_⟩⟩
         simp [pp,hjb,hq,PR.then]; omega
       · have:=pp_advE hE d' .term (p1+1)
         rw [hj] at this
         obtain ⟨v1,v2,v3⟩:=this
         have v2:=v2 rfl
         have v3:=v3 v2
         refine NextM_of (H.length+2) d' (Nat.le_refl _) (by simp [hXl]) (by omega) ⟨_,(j,none),by simp [f0,f4,f6,hil2],hcut _ _ _,.inr ⟨j,rfl,hs2,by omega,?_,v3,by omega⟩⟩
         rw [hpe]; simp [pp,hjb,hj,PR.then,hf]
     | false =>
       cases hjc:isT L p1 [45] with
       | false =>
         have hE2:=fun fr h=>hE1 fr a (p1,none) h (hRel _ _ (by simp [pp,hjb,hjc]))
         rw [hjb] at gi
         rw [hjc] at gj
         simp only [rst] at hg1 gi gj hE2
         simp [f0,f7,rst,hg1]
         refine CallK_of' (gi _) ?_
         simp [f0,f7]
         refine CallK_of' (gj _) ?_
         simp
         exact hE2 _ (by simp [f0,f4,f6,f7])
       | true =>
         have l1:=isT_ltE hE hjc
         obtain ⟨k,f,t,w,q,za,ks,hf,he,hv,hb⟩:=node_ho R.tn a
         have gp:=fun X=>hT d' (by omega) H X i (p1+1,none) hi ⟨⟨by simp only [G.c]; omega,by simp only [G.c]; omega,fun _=>⟨by simp only; omega,by simp only [G.c]; omega⟩⟩,fun _=>l1⟩
         rw [hjb] at gi
         rw [hjc] at gj
         simp only [rst] at hg1 gi gj gp
         simp [f0,f7,rst,hg1]
         refine CallK_of' (gi _) ?_
         simp [f0,f7]
         refine CallK_of' (gj _) ?_
         simp [f0,f7]
         refine CallK_of' (gj _) ?_
         simp [f0,f7,hw]
         refine CallK_of (gp _) ?_
         rintro _ _ ⟨b,s2,rfl,rfl,r2⟩
         obtain ⟨kb,fb,tb,wb,qb,zb,ksb,hfb,heb,hvb,hbb⟩:=node_ho R.tn b
         rw [hvb]
         obtain ⟨bo,hbo⟩:∃ bo:Ob,bo = .box R.tn [.d (.int .i64 kb),.d (.int .i64 fb),.d (.int .i64 tb),.d (.str wb),.d (.int .i64 qb),.d (.sl zb 6 (ksb.map N.enc))]:=⟨_,rfl⟩
         have hA:=hgA a
         rw [hb] at hA
         have hB:=fun X=>hgB a bo X
         rw [hbo] at hB
         have g5:=hR.ended.rended 17 f 0 [] 0 true [] (s2.1:Int) false [a.enc,b.enc]
         rw [he,heb] at g5
         simp only [ag] at g5
         have hA1:∀ h,(XX a)[1]'h = .box R.tn [.d (.int .i64 k),.d (.int .i64 f),.d (.int .i64 t),.d (.str w),.d (.int .i64 q),.d (.sl za 6 (ks.map N.enc))]:=fun h=>by rw [← hb]; simp [hXX]
         simp [f6,hXl,hA,hB,hA1]
         refine CallK_of' (g5 _) ?_
         have hnew:abx R.tn (N.new 17 f s2.1 [] 0 [a,b]) = .box R.tn [.d (.int .i64 17),.d (.int .i64 f),.d (.int .i64 s2.1),.d (.str []),.d (.int .i64 0),.d (.sl false 6 [[.int .i64 k,.int .i64 f,.int .i64 t,.str w,.int .i64 q,.sl za 6 (ks.map N.enc)],[.int .i64 kb,.int .i64 fb,.int .i64 tb,.str wb,.int .i64 qb,.sl zb 6 (ksb.map N.enc)]])]:=by
          rw [abx,N.new,N.enc_mk]
          simp [he,heb]
         have hs1:=fun Y=>hset a (N.new 17 f s2.1 [] 0 [a,b]) Y
         rw [hnew] at hs1
         simp [f6,hXl,hA,hA1,hs1]
         rcases r2.none' with ⟨q',b',hq,rfl,e3⟩ | ⟨j,hj,rfl⟩
         · refine NextM_of (H.length+2) 0 (Nat.le_refl _) (by simp [hXl]) (by omega) ⟨_,(b',some q'),by simp [f0,f4,f6,hil2],hcut _ _ _,.inl ⟨rfl,by simp,fun m=>hRel _ _ ?_⟩⟩
           simp [pp,hjb,hjc,hq,PR.then]; omega
         · have:=pp_advE hE d' .term (p1+1)
           rw [hj] at this
           obtain ⟨v1,v2,v3⟩:=this
           have v2:=v2 rfl
           have v3:=v3 v2
           refine NextM_of (H.length+2) d' (Nat.le_refl _) (by simp [hXl]) (by omega) ⟨_,(j,none),by simp [f0,f4,f6,hil2],hcut _ _ _,.inr ⟨j,rfl,hs2,by omega,?_,v3,by omega⟩⟩
           rw [hpe]; simp [pp,hjb,hjc,hj,PR.then,hf]
end
end
section
theorem fin_nodeR {tr:TypeId} {z z':Bool} {L:List Tk} {n:Nat} {g:G} {H:Hp} {i:Nat} {s s':PSt} {k f t a:Int} {w:Bs} {rows:List (List D)} (ks:List N) (hrows:rows=ks.map N.enc) (hz:rows=[]→z'=true) (hr:Rel L n g s (N.new k f t w a ks) s') :
 ∃ r',Nrm (.tup [.agg [.d (.int .i64 k),.d (.int .i64 f),.d (.int .i64 t),.d (.str w),.d (.int .i64 a),.d (.sl z' 6 rows)],.d (.int .i64 (s'.1:Int))]) r'∧RQ tr z L n g H i [] s r' (H.set i (rst tr z L s'.2)):=by
 refine ⟨.tup [.agg [.d (.int .i64 k),.d (.int .i64 f),.d (.int .i64 t),.d (.str w),.d (.int .i64 a),.d (.sl rows.isEmpty 6 rows)],.d (.int .i64 (s'.1:Int))],?_,N.new k f t w a ks,s',?_,by simp,hr⟩
 · intro κ v h
   cases h with
   | tup vs _ hl hh =>
     refine .tup vs _ (by simpa using hl) fun j v a hv ha => ?_
     match j with
     | 0 =>
       simp at ha
       subst ha
       exact nrm_node hz κ v (hh 0 v _ hv rfl)
     | 1=>exact hh 1 v _ hv ha
     | j+2=>simp at ha
 · rw [N.v_new,hrows]
   cases ks<;>rfl
def US (P:Program) (tr:TypeId) (z:Bool) (L:List Tk) (n:Nat) (g:G) (f:FuncId):Prop:=∀ (H X:Hp) (i p:Nat),i < H.length→PPreR L n g (p,none)→ACall P f [.ptr i 0,.d (.int .i64 (p:Int))] (H.set i (rst tr z L none)++X) (RQ tr z L n g H i X (p,none))
theorem US_of {P:Program} {tr:TypeId} {z:Bool} {L:List Tk} {n:Nat} {g:G} {f:FuncId} (h:∀ (H:Hp) (i p:Nat),i < H.length→PPreR L n g (p,none)→ACall P f [.ptr i 0,.d (.int .i64 (p:Int))] (H.set i (rst tr z L none)) (RQ tr z L n g H i [] (p,none))):US P tr z L n g f:=by
 intro H X i p hi hp
 have:=h (H++X) i p (by simp; omega) hp
 rw [List.set_append_left _ _ hi] at this
 refine this.mono ?_
 rintro r H' ⟨m,s',rfl,rfl,hr⟩
 refine ⟨m,s',rfl,?_,hr⟩
 rw [List.append_nil,List.set_append_left _ _ hi]
section
variable {P:Program} {R:RF} {z:Bool} {L:List Tk}
theorem RHas.block' (hR:RHas P R) (hx:HasT P [7] R.block (irR7Block R.want R.is R.stmt R.ended R.tn)) (hE:EndsL L) (hL:L.length≤1048576) (n:Nat) (hn:n≤1099511627776) (hS:∀ m,m < n→US P R.tr z L m .stmt R.stmt):UR P R.tr z L (n+1) .block R.block:=by
 refine UR_of fun H i s hi hpp => ?_
 obtain ⟨fn,hf,hcf⟩:=hx
 refine acall_norm (acall_fin hf hcf (by simp [irR7Block]) fun hcl _ => ?_)
 have hp1:=hpp.1.1
 simp only [G.c] at hp1
 have g1:=fun X=>hR.wantA (z:=z) (s:=s) (X:=X) hi hpp.2 (by omega) [123]
 generalize h1:wantS L [123] s=s1 at g1
 have b1:=wantS_le h1
 simp [irR7Block]
 refine CallK_of' (g1 _) ?_
 simp
 obtain ⟨XX,hXX⟩:∃ XX:List N→Hp,XX=fun ks=>[zbx R.tn,.tok ks.length 6 R.tn]:=⟨_,rfl⟩
 have hXl:∀ a,(XX a).length=2:=fun a=>by rw [hXX]; rfl
 obtain ⟨E,hE0⟩:∃ E:Fr→Hp→Prop,E=fun fr H'=>∃ (ks:List N) (s':PSt),(fr 0 = .ptr i 0∧fr 1 = .d (.int .i64 (s.1:Int))∧fr 4 = .ptr H.length 0∧fr 6 = .d (.int .i64 (s'.1:Int))∧fr 7 = .osl true 6 (ks.map N.enc) (H.length+1))∧(s'.2=none→s'.1 < L.length)∧s'.1≤1125899906842624∧Rel L (n+1) .block s (N.new 6 s.1 (wantS L [125] s').1 [] 0 ks) (wantS L [125] s')∧H'=H.set i (rst R.tr z L s'.2)++XX ks:=⟨_,rfl⟩
 refine LoopK_outR 0 E (fun _ _=>False) ?_ (fun _ _ h=>h.elim) ?_
 rotate_left
 · intro fr H' h
   subst hE0
   obtain ⟨ks,s',⟨f0,f1,f4,f6,f7⟩,hlt,hb,hr,rfl⟩:=h
   have g2:=fun X=>hR.wantA (z:=z) (s:=s') (X:=X) hi hlt hb [125]
   generalize wantS L [125] s'=s2 at g2 hr
   simp [f0,f6]
   refine CallK_of' (g2 _) ?_
   have g5:=fun H0=>hR.ended.rendedT 6 (s.1:Int) 0 [] 0 true [] (s2.1:Int) true (ks.map N.enc) H0 (H.length+1)
   simp only [ag] at g5
   simp [f1,f7,hXl]
   refine CallK_of' (g5 _ (by simp [hXl])) ?_
   subst hXX
   simp [f4,zbx]
   simp [RetK,rcut hcl,nl]
   exact fin_nodeR (z':=true) ks rfl (fun _=>rfl) hr
 have hE1:∀ fr (ks:List N) (s':PSt),(fr 0 = .ptr i 0∧fr 1 = .d (.int .i64 (s.1:Int))∧fr 4 = .ptr H.length 0∧fr 6 = .d (.int .i64 (s'.1:Int))∧fr 7 = .osl true 6 (ks.map N.enc) (H.length+1))→(s'.2=none→s'.1 < L.length)→s'.1≤1125899906842624→Rel L (n+1) .block s (N.new 6 s.1 (wantS L [125] s').1 [] 0 ks) (wantS L [125] s')→E fr (H.set i (rst R.tr z L s'.2)++XX ks):=fun fr ks s' a b c d=>by subst hE0; exact ⟨ks,s',a,b,c,d,rfl⟩
 clear hE0
 have hcut:∀ ks st' X,Hp.cut (H.length+2) (H.set i (rst R.tr z L st')++(XX ks++X))=H.set i (rst R.tr z L st')++XX ks:=fun ks st' X=>by
  rw [rcutk hcl,hXX]; rfl
 have hcut0:∀ ks st',Hp.cut (H.length+2) (H.set i (rst R.tr z L st')++XX ks)=H.set i (rst R.tr z L st')++XX ks:=fun ks st'=>by simpa using hcut ks st' []
 have hg0:∀ st X,(H.set i (rst R.tr z L st)++X)[i]?=some (rst R.tr z L st):=fun st X=>upG hi
 have hgT:∀ (ks:List N) X,(XX ks++X)[1]?=some (.tok ks.length 6 R.tn):=fun ks X=>by rw [hXX]; simp
 have hgT1:∀ (ks:List N) h,(XX ks)[1]'h = .tok ks.length 6 R.tn:=fun ks h=>by simp [hXX]
 have hgB:∀ (ks:List N) b X,(XX ks++b :: X)[2]?=some b:=fun ks b X=>by rw [hXX]; simp
 have hsT:∀ (ks:List N) (m:N) X,(XX ks++X).set 1 (.tok (ks.length+1) 6 R.tn)=XX (ks++[m])++X:=fun ks m X=>by rw [hXX]; simp
 rw [show H.set i (rst R.tr z L s1.2)++[Ob.box R.tn [.d (.int .i64 0),.d (.int .i64 0),.d (.int .i64 0),.d (.str []),.d (.int .i64 0),.d (.sl true 6 [])],.tok 0 6 R.tn]=H.set i (rst R.tr z L s1.2)++XX [] by rw [hXX]; rfl]
 refine LoopM_of (H.length+2) (fun d fr H'=>∃ (ks:List N) (s':PSt),(fr 0 = .ptr i 0∧fr 1 = .d (.int .i64 (s.1:Int))∧fr 4 = .ptr H.length 0∧fr 6 = .d (.int .i64 (s'.1:Int))∧fr 7 = .osl true 6 (ks.map N.enc) (H.length+1))∧H'=H.set i (rst R.tr z L s'.2)++XX ks ∧
  ((d=0∧s'.2 ≠ none∧s'.1≤1125899906842624∧∀ m,Rel L (n+1) .block s m s')∨∃ p1,s'=(p1,none)∧s.2=none∧d≤n∧pp L (n+1) .block s.1=(pp L d (.stmts ks) p1).then (fun m j => .ok (N.new 6 s.1 j [] 0 m.ks) j)∧p1 < L.length∧16 * (L.length - p1)+7≤d∧ks.length≤p1)) (match s1.2 with | none=>n | some _=>0) (by simp [hXl]) ⟨[],s1,?_⟩ ?_
 · have hil2:i < H.length+2:=by omega
   refine ⟨by simp [hil2],hcut0 _ _,?_⟩
   subst h1
   obtain ⟨p,st⟩:=s
   cases st with
   | some q=>exact .inl ⟨rfl,by simp,by simp only [wantS_some]; simp only at hp1; omega,fun m=>by simp [Rel]⟩
   | none =>
     obtain ⟨hp2,hp3⟩:=hpp.1.2.2 rfl
     simp only [G.c] at hp2 hp3
     by_cases c1:isT L p [123]=true
     · have l1:=isT_ltE hE c1
       simp [c1]
       refine ⟨by simp [pp,wantR,c1],l1,by omega⟩
     · simp [c1]
       refine ⟨by omega,fun m => ?_⟩
       simp [Rel,pp,wantR,c1]
       omega
 · rintro d fr H' ⟨ks,s',⟨f0,f1,f4,f6,f7⟩,rfl,hd⟩
   have hil2:i < H.length+2:=by omega
   rcases hd with ⟨rfl,q1,qb,q2⟩ | ⟨p1,rfl,hs2,hdn,hpe,hp1',hrk,hks⟩
   · obtain ⟨p',st'⟩:=s'
     cases st' with
     | none=>simp at q1
     | some q =>
       have hg1:=hg0 (some q)
       have hq:¬ (q:Int) < 0:=by omega
       have hE2:=fun fr h=>hE1 fr ks (p',some q) h (fun e=>by cases e) qb (q2 _)
       simp only [rst] at hg1 hE2
       simp [f0,f6,rst,hg1,hq]
       exact hE2 _ (by simp [f0,f1,f4,f6,f7,hXl])
   · obtain ⟨d',rfl⟩:∃ d',d=d'+1:=⟨d - 1,by omega⟩
     have hRel:∀ m s',(match (pp L (d'+1) (.stmts ks) p1).then (fun m j => .ok (N.new 6 s.1 j [] 0 m.ks) j) with | .out=>False | .bad q=>s'.2=some q∧s'.1≤L.length+(n+1) | .ok m' k=>m=m'∧s'=(k,none))→Rel L (n+1) .block s m s':=fun m s' h=>by
      unfold Rel
      rw [hs2]
      simp only
      rw [hpe]; exact h
     have hg1:=hg0 none
     have gi:=fun X=>hR.isA (z:=z) (st:=none) (X:=X) hi hp1' [125]
     cases hjb:isT L p1 [125] with
     | true =>
       have hE2:=fun fr h=>hE1 fr ks (p1,none) h (fun _=>hp1') (by simp only; omega) (hRel _ _ (by simp [pp,PR.then,hjb,N.bag,N.new,N.ks]))
       rw [hjb] at gi
       simp only [rst] at hg1 gi hE2
       simp [f0,f6,rst,hg1]
       refine CallK_of' (gi _) ?_
       simp
       exact hE2 _ (by simp [f0,f1,f4,f6,f7,hXl])
     | false =>
       have gp:=fun X=>hS d' (by omega) H X i p1 hi ⟨⟨by simp only [G.c]; omega,by simp only [G.c]; omega,fun _=>⟨by simp only; omega,by simp only [G.c]; omega⟩⟩,fun _=>hp1'⟩
       rw [hjb] at gi
       simp only [rst] at hg1 gi gp
       simp [f0,f6,rst,hg1]
       refine CallK_of' (gi _) ?_
       simp [f0,f6]
       refine CallK_of (gp _) ?_
       rintro _ _ ⟨b,s2,rfl,rfl,r2⟩
       obtain ⟨kb,fb,tb,wb,qb,zb,ksb,hfb,heb,hvb,hbb⟩:=node_ho R.tn b
       rw [hvb]
       obtain ⟨bo,hbo⟩:∃ bo:Ob,bo = .box R.tn [.d (.int .i64 kb),.d (.int .i64 fb),.d (.int .i64 tb),.d (.str wb),.d (.int .i64 qb),.d (.sl zb 6 (ksb.map N.enc))]:=⟨_,rfl⟩
       have hB:=fun X=>hgB ks bo X
       rw [hbo] at hB
       have hT:=hgT ks
       have hT1:=hgT1 ks
       have hs1:=hsT ks b
       have hbd:(ks.length+1) * 72≤140737488355328:=by omega
       have hmap:ks.map N.enc++[[.int .i64 kb,.int .i64 fb,.int .i64 tb,.str wb,.int .i64 qb,.sl zb 6 (ksb.map N.enc)]]=(ks++[b]).map N.enc:=by simp [heb]
       simp [f7,hXl,hB,hT,hT1,appA,slOf,hbd,hs1,hmap]
       rcases r2.none' with ⟨q',b',hq,rfl,e3⟩ | ⟨j,hj,rfl⟩
       · refine NextM_of (H.length+2) 0 (Nat.le_refl _) (by simp [hXl]) (by omega) ⟨ks++[b],(b',some q'),by simp [f0,f1,f4,hil2],hcut _ _ _,.inl ⟨rfl,by simp,by simp only; omega,fun m=>hRel _ _ ?_⟩⟩
         simp [pp,hjb,hq,PR.then]; omega
       · have:=pp_advE hE d' .stmt p1
         rw [hj] at this
         obtain ⟨v1,v2,v3⟩:=this
         have v2:=v2 rfl
         refine NextM_of (H.length+2) d' (Nat.le_refl _) (by simp [hXl]) (by omega) ⟨ks++[b],(j,none),by simp [f0,f1,f4,hil2],hcut _ _ _,.inr ⟨j,rfl,hs2,by omega,?_,v3 v2,by have:=v3 v2; omega,by simp; omega⟩⟩
         rw [hpe]; simp [pp,hjb,hj,PR.then]
end
end
section
def LG (one:G) (e:Bs):List N→G
 | [] => .list one e
 | k :: ks => .listL one e (k :: ks)
theorem LG_step {L:List Tk} {d:Nat} {one:G} {e:Bs} {ks:List N} {p:Nat} (hd:2≤d) (h:ks=[]→isT L p e=false):∃ m,m < d∧d≤m+2∧pp L d (LG one e ks) p=(pp L m one p).then fun x j=>if isT L j e then .ok (N.bag (ks++[x])) (j+1) else wantR L j [44] fun j=>pp L m (.listL one e (ks++[x])) j:=by
 cases ks with
 | nil =>
   obtain ⟨m,rfl⟩:∃ m,d=m+2:=⟨d - 2,by omega⟩
   refine ⟨m,by omega,by omega,?_⟩
   simp only [LG,pp,h rfl]
   rfl
 | cons k ks =>
   obtain ⟨m,rfl⟩:∃ m,d=m+1:=⟨d - 1,by omega⟩
   refine ⟨m,by omega,by omega,?_⟩
   simp only [LG,pp]
theorem LG_snoc (one:G) (e:Bs) (ks:List N) (x:N):LG one e (ks++[x]) = .listL one e (ks++[x]):=by cases ks<;>rfl
theorem relParam {L:List Tk} (hE:EndsL L) {n p:Nat} {t:N} {s3:PSt} (h:Rel L n .typed (wordS L (p,none)) t s3) (hb:s3.1≤L.length+(n+1)):Rel L (n+1) .param (p,none) (N.new 5 p s3.1 (if wordOkB L (p,none) then txT L p else []) (if wordOkB L (p,none) then (p:Int) else 0) [t]) s3:=by
 by_cases c:kdT L p=1
 · simp only [wordS_none,c,if_true] at h
   simp only [Rel,pp,wordR,c,if_true]
   rcases h.none' with ⟨q,a,e,rfl,e3⟩ | ⟨k,e,rfl⟩
   · simp [e,PR.then]; omega
   · simp [e,PR.then,c]
 · simp only [wordS_none,c,if_false] at h
   obtain ⟨a,rfl,e3⟩:=h.some'
   simp only [Rel,pp,wordR,c,if_false]
   simp only [G.wt] at e3
   simp
   omega
section
variable {P:Program} {R:RF} {z:Bool} {L:List Tk}
theorem RHas.params' (hR:RHas P R) (hx:HasT P [7] R.params (irR7Params R.want R.is R.word R.typed R.ended R.tn)) (hE:EndsL L) (hL:L.length≤1048576) (n:Nat) (hn:n≤1099511627776) (hS:∀ m,m < n→UR P R.tr z L m .typed R.typed):UR P R.tr z L (n+1) .params R.params:=by
 refine UR_of fun H i s hi hpp => ?_
 obtain ⟨fn,hf,hcf⟩:=hx
 refine acall_norm (acall_fin hf hcf (by simp [irR7Params]) fun hcl _ => ?_)
 have hp1:=hpp.1.1
 simp only [G.c] at hp1
 have g1:=fun X=>hR.wantA (z:=z) (s:=s) (X:=X) hi hpp.2 (by omega) [40]
 generalize h1:wantS L [40] s=s1 at g1
 have b1:=wantS_le h1
 simp [irR7Params]
 refine CallK_of' (g1 _) ?_
 simp
 obtain ⟨XX,hXX⟩:∃ XX:List N→Hp,XX=fun ks=>[zbx R.tn,.tok ks.length 6 R.tn]:=⟨_,rfl⟩
 have hXl:∀ a,(XX a).length=2:=fun a=>by rw [hXX]; rfl
 obtain ⟨E,hE0⟩:∃ E:Fr→Hp→Prop,E=fun fr H'=>∃ (ks:List N) (s':PSt) (X:Hp),(fr 0 = .ptr i 0∧fr 1 = .d (.int .i64 (s.1:Int))∧fr 4 = .ptr H.length 0∧fr 6 = .d (.int .i64 (s'.1:Int))∧fr 7 = .osl true 6 (ks.map N.enc) (H.length+1))∧(s'.2=none→s'.1 < L.length)∧s'.1≤1125899906842624∧Rel L (n+1) .params s (N.new 4 s.1 (wantS L [41] s').1 [] 0 ks) (wantS L [41] s')∧H'=H.set i (rst R.tr z L s'.2)++(XX ks++X):=⟨_,rfl⟩
 refine LoopK_outR 0 E (fun _ _=>False) ?_ (fun _ _ h=>h.elim) ?_
 rotate_left
 · intro fr H' h
   subst hE0
   obtain ⟨ks,s',X,⟨f0,f1,f4,f6,f7⟩,hlt,hb,hr,rfl⟩:=h
   have g2:=fun X=>hR.wantA (z:=z) (s:=s') (X:=X) hi hlt hb [41]
   generalize wantS L [41] s'=s2 at g2 hr
   simp [f0,f6]
   refine CallK_of' (g2 _) ?_
   have g5:=fun H0=>hR.ended.rendedT 4 (s.1:Int) 0 [] 0 true [] (s2.1:Int) true (ks.map N.enc) H0 (H.length+1)
   simp only [ag] at g5
   simp [f1,f7,hXl]
   refine CallK_of' (g5 _ (by simp [hXl]; omega)) ?_
   subst hXX
   simp [f4,zbx]
   simp [RetK,rcut hcl,nl]
   exact fin_nodeR (z':=true) ks rfl (fun _=>rfl) hr
 have hE1:∀ fr (ks:List N) (s':PSt) (X:Hp),(fr 0 = .ptr i 0∧fr 1 = .d (.int .i64 (s.1:Int))∧fr 4 = .ptr H.length 0∧fr 6 = .d (.int .i64 (s'.1:Int))∧fr 7 = .osl true 6 (ks.map N.enc) (H.length+1))→(s'.2=none→s'.1 < L.length)→s'.1≤1125899906842624→Rel L (n+1) .params s (N.new 4 s.1 (wantS L [41] s').1 [] 0 ks) (wantS L [41] s')→E fr (H.set i (rst R.tr z L s'.2)++(XX ks++X)):=fun fr ks s' X a b c d=>by subst hE0; exact ⟨ks,s',X,a,b,c,d,rfl⟩
 clear hE0
 have hcut:∀ ks st' X,Hp.cut (H.length+2) (H.set i (rst R.tr z L st')++(XX ks++X))=H.set i (rst R.tr z L st')++XX ks:=fun ks st' X=>by
  rw [rcutk hcl,hXX]; rfl
 have hcut0:∀ ks st',Hp.cut (H.length+2) (H.set i (rst R.tr z L st')++XX ks)=H.set i (rst R.tr z L st')++XX ks:=fun ks st'=>by simpa using hcut ks st' []
 have hg0:∀ st X,(H.set i (rst R.tr z L st)++X)[i]?=some (rst R.tr z L st):=fun st X=>upG hi
 have hgT:∀ (ks:List N) X,(XX ks++X)[1]?=some (.tok ks.length 6 R.tn):=fun ks X=>by rw [hXX]; simp
 have hgT1:∀ (ks:List N) h,(XX ks)[1]'h = .tok ks.length 6 R.tn:=fun ks h=>by simp [hXX]
 have hgB:∀ (ks:List N) b X,(XX ks++b :: X)[2]?=some b:=fun ks b X=>by rw [hXX]; simp
 have hgC:∀ (ks:List N) b c X,(XX ks++b :: c :: X)[3]?=some c:=fun ks b c X=>by rw [hXX]; simp
 have hsT:∀ (ks:List N) (m:N) X,(XX ks++X).set 1 (.tok (ks.length+1) 6 R.tn)=XX (ks++[m])++X:=fun ks m X=>by rw [hXX]; simp
 rw [show H.set i (rst R.tr z L s1.2)++[Ob.box R.tn [.d (.int .i64 0),.d (.int .i64 0),.d (.int .i64 0),.d (.str []),.d (.int .i64 0),.d (.sl true 6 [])],.tok 0 6 R.tn]=H.set i (rst R.tr z L s1.2)++XX [] by rw [hXX]; rfl]
 refine LoopM_of (H.length+2) (fun d fr H'=>∃ (ks:List N) (s':PSt),(fr 0 = .ptr i 0∧fr 1 = .d (.int .i64 (s.1:Int))∧fr 4 = .ptr H.length 0∧fr 6 = .d (.int .i64 (s'.1:Int))∧fr 7 = .osl true 6 (ks.map N.enc) (H.length+1))∧H'=H.set i (rst R.tr z L s'.2)++XX ks ∧
  ((d=0∧s'.2 ≠ none∧s'.1≤1125899906842624∧∀ m,Rel L (n+1) .params s m s')∨∃ p1,s'=(p1,none)∧s.2=none∧d≤n∧pp L (n+1) .params s.1=(pp L d (LG .param [41] ks) p1).then (fun m j => .ok (N.new 4 s.1 j [] 0 m.ks) j)∧p1 < L.length∧16 * (L.length - p1)+9≤d∧ks.length≤p1)) (match s1.2 with | none=>n | some _=>0) (by simp [hXl]) ⟨[],s1,?_⟩ ?_
 · have hil2:i < H.length+2:=by omega
   refine ⟨by simp [hil2],hcut0 _ _,?_⟩
   subst h1
   obtain ⟨p,st⟩:=s
   cases st with
   | some q=>exact .inl ⟨rfl,by simp,by simp only [wantS_some]; simp only at hp1; omega,fun m=>by simp [Rel]⟩
   | none =>
     obtain ⟨hp2,hp3⟩:=hpp.1.2.2 rfl
     simp only [G.c] at hp2 hp3
     by_cases c1:isT L p [40]=true
     · have l1:=isT_ltE hE c1
       simp [c1]
       refine ⟨by simp [pp,wantR,c1,LG],l1,by omega⟩
     · simp [c1]
       refine ⟨by omega,fun m => ?_⟩
       simp [Rel,pp,wantR,c1]
       omega
 · rintro d fr H' ⟨ks,s',⟨f0,f1,f4,f6,f7⟩,rfl,hd⟩
   have hil2:i < H.length+2:=by omega
   have hE1':=fun fr ks s' a b c d=>by simpa using hE1 fr ks s' [] a b c d
   rcases hd with ⟨rfl,q1,qb,q2⟩ | ⟨p1,rfl,hs2,hdn,hpe,hp1',hrk,hks⟩
   · obtain ⟨p',st'⟩:=s'
     cases st' with
     | none=>simp at q1
     | some q =>
       have hg1:=hg0 (some q)
       have hq:¬ (q:Int) < 0:=by omega
       have hE2:=fun fr h=>hE1' fr ks (p',some q) h (fun e=>by cases e) qb (q2 _)
       simp only [rst] at hg1 hE2
       simp [f0,f6,rst,hg1,hq]
       exact hE2 _ (by simp [f0,f1,f4,f6,f7,hXl])
   · have hRel:∀ m s',(match (pp L d (LG .param [41] ks) p1).then (fun m j => .ok (N.new 4 s.1 j [] 0 m.ks) j) with | .out=>False | .bad q=>s'.2=some q∧s'.1≤L.length+(n+1) | .ok m' k=>m=m'∧s'=(k,none))→Rel L (n+1) .params s m s':=fun m s' h=>by
      unfold Rel
      rw [hs2]
      simp only
      rw [hpe]; exact h
     have hg1:=hg0 none
     have gi:=fun X=>hR.isA (z:=z) (st:=none) (X:=X) hi hp1' [41]
     by_cases hend:ks=[]∧isT L p1 [41]=true
     · obtain ⟨rfl,hjb⟩:=hend
       obtain ⟨d',rfl⟩:∃ d',d=d'+1:=⟨d - 1,by omega⟩
       have hE2:=fun fr h=>hE1' fr [] (p1,none) h (fun _=>hp1') (by simp only; omega) (hRel _ _ (by simp [LG,pp,PR.then,hjb,N.bag,N.new,N.ks]))
       rw [hjb] at gi
       simp only [rst] at hg1 gi hE2
       simp [f0,f6,f7,rst,hg1]
       refine CallK_of' (gi _) ?_
       simp
       exact hE2 _ (by simp [f0,f1,f4,f6,f7,hXl])
     · have hstep:=LG_step (L:=L) (d:=d) (one := .param) (e:=[41]) (ks:=ks) (p:=p1) (by omega) (fun e=>by
        cases h:isT L p1 [41] with
        | false=>rfl
        | true=>exact absurd ⟨e,h⟩ hend)
       obtain ⟨m,hm1,hm2,hpp2⟩:=hstep
       obtain ⟨m',rfl⟩:∃ m',m=m'+1:=⟨m - 1,by omega⟩
       have gw:=fun X=>hR.wordA (z:=z) (s:=(p1,none)) (X:=X) hi (fun _=>hp1') (by simp only; omega) 5 p1 0 [] 0 true []
       have hrp:=fun t s3=>relParam (L:=L) hE (n:=m') (p:=p1) (t:=t) (s3:=s3)
       generalize h2:wordS L (p1,none)=s2 at gw hrp
       have b2:=wordS_le h2
       have m2:=wordS_moE hE h2
       have hlt2:=m2.lt (fun _=>hp1')
       have gt:=fun X=>hS m' (by omega) H X i s2 hi ⟨⟨by simp only [G.c]; simp only at b2; omega,by simp only [G.c]; omega,fun e=>by
        obtain ⟨a1,a2,a3⟩:=m2 e
        have:=hlt2 e
        simp only at a2
        simp only [G.c]
        exact ⟨by omega,by omega⟩⟩,hlt2⟩
       simp only at gw b2
       generalize (if wordOkB L (p1,none)=true then txT L p1 else [])=W at gw hrp
       generalize (if wordOkB L (p1,none)=true then (p1:Int) else 0)=Q at gw hrp
       simp only [rst,ag] at hg1 gi gw gt
       rcases List.eq_nil_or_concat ks with hk0 | ⟨kk,kx,hk0⟩
       · have hjb:isT L p1 [41]=false:=by
          cases h:isT L p1 [41] with
          | false=>rfl
          | true=>exact absurd ⟨hk0,h⟩ hend
         rw [hjb] at gi
         simp [f0,f6,f7,rst,hg1,hk0]
         refine CallK_of' (gi _) ?_
         rw [← hk0]
         simp [f0,f6]
         refine CallK_of' (gw _) ?_
         simp [f0]
         refine CallK_of (gt _) ?_
         rintro _ _ ⟨t,s3,rfl,rfl,r3⟩
         obtain ⟨kt,ft,tt',wt',qt,zt,kst,hft,het,hvt,hbt⟩:=node_ho R.tn t
         rw [hvt]
         obtain ⟨bo,hbo⟩:∃ bo:Ob,bo = .box R.tn [.d (.int .i64 5),.d (.int .i64 (p1:Int)),.d (.int .i64 0),.d (.str W),.d (.int .i64 Q),.d (.sl true 6 [])]:=⟨_,rfl⟩
         obtain ⟨co,hco⟩:∃ co:Ob,co = .box R.tn [.d (.int .i64 kt),.d (.int .i64 ft),.d (.int .i64 tt'),.d (.str wt'),.d (.int .i64 qt),.d (.sl zt 6 (kst.map N.enc))]:=⟨_,rfl⟩
         have hB:=fun X=>hgB ks bo X
         have hC:=fun X=>hgC ks bo co X
         rw [hbo] at hB
         rw [hbo,hco] at hC
         have hT:=hgT ks
         have hT1:=hgT1 ks
         have g5:=fun H0=>hR.ended.rended 5 p1 0 W Q true [] (s3.1:Int) false [t.enc] H0
         rw [het] at g5
         simp only [ag] at g5
         simp [f0,f7,hXl,hB,hC]
         refine CallK_of' (g5 _) ?_
         have hsx:=r3.wt0 rfl
         have hs3b:s3.1≤L.length+(m'+1):=by omega
         obtain ⟨x,hx⟩:∃ x:N,x=N.new 5 p1 s3.1 W Q [t]:=⟨_,rfl⟩
         have hrx:Rel L (m'+1) .param (p1,none) x s3:=by rw [hx]; exact hrp t s3 r3 hs3b
         have hs1:=hsT ks x
         have hbd:(ks.length+1) * 72≤140737488355328:=by omega
         have hmap:ks.map N.enc++[[.int .i64 5,.int .i64 (p1:Int),.int .i64 (s3.1:Int),.str W,.int .i64 Q,.sl false 6 [[.int .i64 kt,.int .i64 ft,.int .i64 tt',.str wt',.int .i64 qt,.sl zt 6 (kst.map N.enc)]]]]=(ks++[x]).map N.enc:=by
          rw [List.map_append,hx]
          simp [N.new,N.enc_mk,het]
         clear hrp hx r3 g5 gt gw
         simp [f0,f7,hXl,hT,hT1,appA,slOf,hbd,hs1,hmap]
         obtain ⟨p3,st3⟩:=s3
         simp only at hs3b
         cases st3 with
         | some q =>
           have hg2:=hg0 (some q)
           have hq':(0:Int)≤q:=by omega
           have hbad:pp L (m'+1) .param p1 = .bad q:=by
            rcases hrx.none' with ⟨q',a,e,e2,e3⟩ | ⟨k,e,e2⟩
            · simp only [Prod.mk.injEq,Option.some.injEq] at e2
              rw [e,e2.2]
            · simp at e2
           have hE2:=fun fr X h=>hE1 fr (ks++[x]) (p3,some q) X h (fun e=>by cases e) (by simp only; omega) (hRel _ _ (by rw [hpp2,hbad]; simp [PR.then]; omega))
           simp only [rst] at hg2 hE2
           simp [f0,rst,hg2,hq']
           exact hE2 _ _ (by simp [f0,f1,f4,hXl])
         | none =>
           have hok:pp L (m'+1) .param p1 = .ok x p3:=by
            rcases hrx.none' with ⟨q',a,e,e2,e3⟩ | ⟨k,e,e2⟩
            · simp at e2
            · simp only [Prod.mk.injEq] at e2
              rw [e,e2.1]
           have hadv:=pp_advE hE (m'+1) .param p1
           rw [hok] at hadv
           obtain ⟨v1,v2,v3⟩:=hadv
           have v2:=v2 rfl
           have v3:=v3 v2
           have gi3:=fun X=>hR.isA (z:=z) (st:=none) (X:=X) hi v3 [41]
           have gw3:=fun X=>hR.wantA (z:=z) (s:=(p3,none)) (X:=X) hi (fun _=>v3) (by simp only; omega) [44]
           have hg2:=hg0 none
           cases hc:isT L p3 [41] with
           | true =>
             have hE2:=fun fr X h=>hE1 fr (ks++[x]) (p3,none) X h (fun _=>v3) (by simp only; omega) (hRel _ _ (by rw [hpp2,hok]; simp [PR.then,hc,N.bag,N.new,N.ks]))
             rw [hc] at gi3
             simp only [rst] at hg2 gi3 hE2
             simp [f0,rst,hg2]
             refine CallK_of' (gi3 _) ?_
             simp
             exact hE2 _ _ (by simp [f0,f1,f4,hXl])
           | false =>
             rw [hc] at gi3
             have hstp:=hpp2
             rw [hok] at hstp
             simp only [PR.then,hc,wantR] at hstp
             by_cases hcm:isT L p3 [44]=true
             · have hl4:=isT_ltE hE hcm
               simp only [wantS_none,hcm,if_true] at gw3
               simp only [rst] at hg2 gi3 gw3
               simp [f0,rst,hg2]
               refine CallK_of' (gi3 _) ?_
               simp [f0]
               refine CallK_of' (gw3 _) ?_
               simp
               refine NextM_of (H.length+2) (m'+1) (Nat.le_refl _) (by simp [hXl]) (by omega) ⟨ks++[x],(p3+1,none),by simp [f0,f1,f4,hil2],by simpa [rst] using hcut (ks++[x]) none _,.inr ⟨p3+1,rfl,hs2,by omega,?_,hl4,by omega,by simp; omega⟩⟩
               rw [hpe,hstp,hcm,LG_snoc]
               simp
             · have hcm':isT L p3 [44]=false:=by simpa using hcm
               simp only [wantS_none,hcm',Bool.false_eq_true,if_false] at gw3
               simp only [rst] at hg2 gi3 gw3
               simp [f0,rst,hg2]
               refine CallK_of' (gi3 _) ?_
               simp [f0]
               refine CallK_of' (gw3 _) ?_
               simp
               refine NextM_of (H.length+2) 0 (Nat.le_refl _) (by simp [hXl]) (by omega) ⟨ks++[x],(p3,some p3),by simp [f0,f1,f4,hil2],by simpa [rst] using hcut (ks++[x]) (some p3) _,.inl ⟨rfl,by simp,by simp only; omega,fun mm=>hRel _ _ ?_⟩⟩
               rw [hstp,hcm']
               simp [PR.then]
               omega
       · have hkn:¬ ks=[]:=fun e=>by rw [e] at hk0; simp at hk0
         simp [f0,f6,f7,rst,hg1,hkn]
         refine CallK_of' (gw _) ?_
         simp [f0]
         refine CallK_of (gt _) ?_
         rintro _ _ ⟨t,s3,rfl,rfl,r3⟩
         obtain ⟨kt,ft,tt',wt',qt,zt,kst,hft,het,hvt,hbt⟩:=node_ho R.tn t
         rw [hvt]
         obtain ⟨bo,hbo⟩:∃ bo:Ob,bo = .box R.tn [.d (.int .i64 5),.d (.int .i64 (p1:Int)),.d (.int .i64 0),.d (.str W),.d (.int .i64 Q),.d (.sl true 6 [])]:=⟨_,rfl⟩
         obtain ⟨co,hco⟩:∃ co:Ob,co = .box R.tn [.d (.int .i64 kt),.d (.int .i64 ft),.d (.int .i64 tt'),.d (.str wt'),.d (.int .i64 qt),.d (.sl zt 6 (kst.map N.enc))]:=⟨_,rfl⟩
         have hB:=fun X=>hgB ks bo X
         have hC:=fun X=>hgC ks bo co X
         rw [hbo] at hB
         rw [hbo,hco] at hC
         have hT:=hgT ks
         have hT1:=hgT1 ks
         have g5:=fun H0=>hR.ended.rended 5 p1 0 W Q true [] (s3.1:Int) false [t.enc] H0
         rw [het] at g5
         simp only [ag] at g5
         simp [f0,f7,hXl,hB,hC]
         refine CallK_of' (g5 _) ?_
         have hsx:=r3.wt0 rfl
         have hs3b:s3.1≤L.length+(m'+1):=by omega
         obtain ⟨x,hx⟩:∃ x:N,x=N.new 5 p1 s3.1 W Q [t]:=⟨_,rfl⟩
         have hrx:Rel L (m'+1) .param (p1,none) x s3:=by rw [hx]; exact hrp t s3 r3 hs3b
         have hs1:=hsT ks x
         have hbd:(ks.length+1) * 72≤140737488355328:=by omega
         have hmap:ks.map N.enc++[[.int .i64 5,.int .i64 (p1:Int),.int .i64 (s3.1:Int),.str W,.int .i64 Q,.sl false 6 [[.int .i64 kt,.int .i64 ft,.int .i64 tt',.str wt',.int .i64 qt,.sl zt 6 (kst.map N.enc)]]]]=(ks++[x]).map N.enc:=by
          rw [List.map_append,hx]
          simp [N.new,N.enc_mk,het]
         clear hrp hx r3 g5 gt gw
         simp [f0,f7,hXl,hT,hT1,appA,slOf,hbd,hs1,hmap]
         obtain ⟨p3,st3⟩:=s3
         simp only at hs3b
         cases st3 with
         | some q =>
           have hg2:=hg0 (some q)
           have hq':(0:Int)≤q:=by omega
           have hbad:pp L (m'+1) .param p1 = .bad q:=by
            rcases hrx.none' with ⟨q',a,e,e2,e3⟩ | ⟨k,e,e2⟩
            · simp only [Prod.mk.injEq,Option.some.injEq] at e2
              rw [e,e2.2]
            · simp at e2
           have hE2:=fun fr X h=>hE1 fr (ks++[x]) (p3,some q) X h (fun e=>by cases e) (by simp only; omega) (hRel _ _ (by rw [hpp2,hbad]; simp [PR.then]; omega))
           simp only [rst] at hg2 hE2
           simp [f0,rst,hg2,hq']
           exact hE2 _ _ (by simp [f0,f1,f4,hXl])
         | none =>
           have hok:pp L (m'+1) .param p1 = .ok x p3:=by
            rcases hrx.none' with ⟨q',a,e,e2,e3⟩ | ⟨k,e,e2⟩
            · simp at e2
            · simp only [Prod.mk.injEq] at e2
              rw [e,e2.1]
           have hadv:=pp_advE hE (m'+1) .param p1
           rw [hok] at hadv
           obtain ⟨v1,v2,v3⟩:=hadv
           have v2:=v2 rfl
           have v3:=v3 v2
           have gi3:=fun X=>hR.isA (z:=z) (st:=none) (X:=X) hi v3 [41]
           have gw3:=fun X=>hR.wantA (z:=z) (s:=(p3,none)) (X:=X) hi (fun _=>v3) (by simp only; omega) [44]
           have hg2:=hg0 none
           cases hc:isT L p3 [41] with
           | true =>
             have hE2:=fun fr X h=>hE1 fr (ks++[x]) (p3,none) X h (fun _=>v3) (by simp only; omega) (hRel _ _ (by rw [hpp2,hok]; simp [PR.then,hc,N.bag,N.new,N.ks]))
             rw [hc] at gi3
             simp only [rst] at hg2 gi3 hE2
             simp [f0,rst,hg2]
             refine CallK_of' (gi3 _) ?_
             simp
             exact hE2 _ _ (by simp [f0,f1,f4,hXl])
           | false =>
             rw [hc] at gi3
             have hstp:=hpp2
             rw [hok] at hstp
             simp only [PR.then,hc,wantR] at hstp
             by_cases hcm:isT L p3 [44]=true
             · have hl4:=isT_ltE hE hcm
               simp only [wantS_none,hcm,if_true] at gw3
               simp only [rst] at hg2 gi3 gw3
               simp [f0,rst,hg2]
               refine CallK_of' (gi3 _) ?_
               simp [f0]
               refine CallK_of' (gw3 _) ?_
               simp
               refine NextM_of (H.length+2) (m'+1) (Nat.le_refl _) (by simp [hXl]) (by omega) ⟨ks++[x],(p3+1,none),by simp [f0,f1,f4,hil2],by simpa [rst] using hcut (ks++[x]) none _,.inr ⟨p3+1,rfl,hs2,by omega,?_,hl4,by omega,by simp; omega⟩⟩
               rw [hpe,hstp,hcm,LG_snoc]
               simp
             · have hcm':isT L p3 [44]=false:=by simpa using hcm
               simp only [wantS_none,hcm',Bool.false_eq_true,if_false] at gw3
               simp only [rst] at hg2 gi3 gw3
               simp [f0,rst,hg2]
               refine CallK_of' (gi3 _) ?_
               simp [f0]
               refine CallK_of' (gw3 _) ?_
               simp
               refine NextM_of (H.length+2) 0 (Nat.le_refl _) (by simp [hXl]) (by omega) ⟨ks++[x],(p3,some p3),by simp [f0,f1,f4,hil2],by simpa [rst] using hcut (ks++[x]) (some p3) _,.inl ⟨rfl,by simp,by simp only; omega,fun mm=>hRel _ _ ?_⟩⟩
               rw [hstp,hcm']
               simp [PR.then]
               omega
end
end
theorem relTail {L:List Tk} (hE:EndsL L) {n p p0 K:Nat} {Q:Int} {W:Bs} {x:N} {s1:PSt} (hn:1≤n) (hpe:pp L (n+1) .stmt p=(pp L n .expr p0).then fun x j=>wantR L j [59] fun _ => .ok (N.new K p ((j+1:Nat):Int) W Q [x]) (j+1)) (r:Rel L n .expr (p0,none) x s1):Rel L (n+1) .stmt (p,none) (N.new K p (wantS L [59] s1).1 W Q [x]) (wantS L [59] s1):=by
 simp only [Rel,hpe]
 rcases r.none' with ⟨q,a,e,rfl,e3⟩ | ⟨k,e,rfl⟩
 · simp [e,PR.then]; omega
 · have ha:=pp_advE hE n .expr p0
   rw [e] at ha
   have hk:=ha.2.2 (ha.2.1 rfl)
   by_cases c:isT L k [59]=true
   · simp [e,PR.then,wantR,c]
   · simp [e,PR.then,wantR,c]; omega
theorem relIf {L:List Tk} (hE:EndsL L) {n p:Nat} {c b o:N} {s1 s2 s3:PSt} (hT:isT L p kIf=true) (hl:isT L p kLet=false) (r1:Rel L n .expr (p+1,none) c s1) (r2:Rel L n .block s1 b s2)
 (h3:s3=s2∧o=N.none∧(s2.2=none→isT L s2.1 kElse=false)∨s2.2=none∧isT L s2.1 kElse=true∧Rel L n .block (s2.1+1,none) o s3):Rel L (n+1) .stmt (p,none) (N.new 9 p s3.1 [] 0 [c,b,o]) s3:=by
 simp only [Rel,pp,hT,hl]
 rcases r1.none' with ⟨q,a,e,rfl,e3⟩ | ⟨k,e,rfl⟩
 · obtain ⟨a2,rfl,e4⟩:=r2.some'
   simp only [G.wt] at e4
   rcases h3 with ⟨rfl,rfl,h3⟩ | ⟨h3,-⟩
   · simp [e,PR.then]; omega
   · simp at h3
 rcases r2.none' with ⟨q,a,e',rfl,e4⟩ | ⟨k',e',rfl⟩
 · rcases h3 with ⟨rfl,rfl,h3⟩ | ⟨h3,-⟩
   · simp [e,e',PR.then]; omega
   · simp at h3
 rcases h3 with ⟨rfl,rfl,h3⟩ | ⟨-,h3,r3⟩
 · have:=h3 rfl
   simp only at this
   simp [e,e',PR.then,this]
 · simp only at h3 r3
   rcases r3.none' with ⟨q,a,e'',rfl,e5⟩ | ⟨k'',e'',rfl⟩
   · simp [e,e',e'',PR.then,h3]; omega
   · simp [e,e',e'',PR.then,h3]
theorem relWhile {L:List Tk} (hE:EndsL L) {n p:Nat} {c b:N} {s1 s2:PSt} (hT:isT L p kWhile=true) (hl:isT L p kLet=false) (hi:isT L p kIf=false) (r1:Rel L n .expr (p+1,none) c s1) (r2:Rel L n .block s1 b s2):Rel L (n+1) .stmt (p,none) (N.new 10 p s2.1 [] 0 [c,b]) s2:=by
 simp only [Rel,pp,hT,hl,hi]
 rcases r1.none' with ⟨q,a,e,rfl,e3⟩ | ⟨k,e,rfl⟩
 · obtain ⟨a2,rfl,e4⟩:=r2.some'
   simp only [G.wt] at e4
   simp [e,PR.then]; omega
 rcases r2.none' with ⟨q,a,e',rfl,e4⟩ | ⟨k',e',rfl⟩
 · simp [e,e',PR.then]; omega
 · simp [e,e',PR.then]
theorem relLet {L:List Tk} (hE:EndsL L) {n p:Nat} {t x:N} {s1 s2 s3 s4 s5:PSt} (hn:4≤n) (hl:isT L p kLet=true) (h1:wordS L (p+1,none)=s1) (r1:Rel L n .typed s1 t s2) (h3:wantS L [61] s2=s3) (r2:Rel L n .expr s3 x s4) (h5:wantS L [59] s4=s5) :
 Rel L (n+1) .stmt (p,none) (N.new 7 p s5.1 (if wordOkB L (p+1,none) then txT L (p+1) else []) (if wordOkB L (p+1,none) then ((p+1:Nat):Int) else 0) [t,x]) s5:=by
 have hpl:=isT_ltE hE hl
 subst h1
 simp only [Rel,pp,hl,wordR,if_true]
 by_cases c1:kdT L (p+1)=1
 case neg =>
  simp only [wordS_none,c1,if_false] at r1
  obtain ⟨a,rfl,e3⟩:=r1.some'
  subst h3
  simp only [wantS_some] at r2
  obtain ⟨b,rfl,e4⟩:=r2.some'
  subst h5
  simp only [G.wt] at e3 e4
  simp [c1]; omega
 simp only [wordS_none,c1,if_true] at r1
 have hpl2:=kdT_ltE hE (i:=p+1) (by omega)
 rcases r1.none' with ⟨q,a,e,rfl,e3⟩ | ⟨k,e,rfl⟩
 · subst h3
   simp only [wantS_some] at r2
   obtain ⟨b,rfl,e4⟩:=r2.some'
   subst h5
   simp only [G.wt] at e4
   simp [c1,e,PR.then]; omega
 have ha:=pp_advE hE n .typed (p+1+1)
 rw [e] at ha
 have hk:k < L.length:=by
  rcases Nat.lt_or_ge (p+1+1) k with h | h
  · exact ha.2.2 h
  · omega
 by_cases c2:isT L k [61]=true
 case neg =>
  simp only [wantS_none,c2] at h3
  subst h3
  simp only [Bool.false_eq_true,if_false] at r2
  obtain ⟨b,rfl,e4⟩:=r2.some'
  subst h5
  simp only [G.wt] at e4
  simp [c1,c2,e,PR.then,wantR]; omega
 simp only [wantS_none,c2,if_true] at h3
 subst h3
 rcases r2.none' with ⟨q,a,e',rfl,e3⟩ | ⟨k',e',rfl⟩
 · subst h5
   simp [c1,c2,e,e',PR.then,wantR]; omega
 have ha':=pp_advE hE n .expr (k+1)
 rw [e'] at ha'
 have hk':=ha'.2.2 (ha'.2.1 rfl)
 by_cases c3:isT L k' [59]=true
 · simp only [wantS_none,c3,if_true] at h5
   subst h5
   simp [c1,c2,c3,e,e',PR.then,wantR]
 · simp only [wantS_none,c3] at h5
   subst h5
   simp [c1,c2,c3,e,e',PR.then,wantR]; omega
section
theorem pre_at {L:List Tk} {n:Nat} {g:G} {q p:Nat} {s:PSt} (hL:L.length≤1048576) (hn:n≤1099511627776) (hp:p < L.length) (hgc:g.c≤6) (h:16 * (L.length - p)+6≤n+1) (hb:s.1≤L.length+n+5) (hm:MoE L (p+1,none) s) (hl:s.2=none→s.1 < L.length):PPreR L n g s:=by
 refine ⟨⟨by omega,by omega,fun e => ?_⟩,hl⟩
 obtain ⟨-,a2,-⟩:=hm e
 have:=hl e
 simp only at a2
 exact ⟨by omega,by omega⟩
theorem pre_at0 {L:List Tk} {n:Nat} {p:Nat} (h:PPreR L (n+1) .stmt (p,none)):PPreR L n .expr (p,none):=by
 obtain ⟨⟨h1,h2,h3⟩,h4⟩:=h
 obtain ⟨h5,h6⟩:=h3 rfl
 simp only [G.c] at *
 exact ⟨⟨by simp only [G.c] at *; omega,by simp only [G.c]; omega,fun _=>⟨h5,by simp only [G.c]; omega⟩⟩,fun _=>h4 trivial⟩
theorem Rel.bnd {L:List Tk} {n:Nat} {g:G} {m:N} {s s':PSt} (h:Rel L n g s m s') {B:Nat} (hb:s.1+1≤B) (hB:L.length+n≤B):s'.1≤B:=by
 rcases h.le with h | h | h | h<;>omega
section
variable {P:Program} {R:RF} {z:Bool} {L:List Tk}
theorem RHas.stmt' (hR:RHas P R) (hx:HasT P [8,47] R.stmt (irR7Stmt R.is R.expr R.block R.ended R.word R.typed R.want R.tn)) (hE:EndsL L) (hL:L.length≤1048576) (n:Nat) (hn:n≤1099511627776) (hEx:UR P R.tr z L n .expr R.expr) (hTy:UR P R.tr z L n .typed R.typed) (hBl:UR P R.tr z L n .block R.block):US P R.tr z L (n+1) .stmt R.stmt:=by
 refine US_of fun H i p hi hpp => ?_
 obtain ⟨fn,hf,hcf⟩:=hx
 refine acall_norm (acall_fin hf hcf (by simp [irR7Stmt]) fun hcl _ => ?_)
 have hp:p < L.length:=hpp.2 rfl
 obtain ⟨hp1,hp2⟩:=hpp.1.2.2 rfl
 simp only [G.c] at hp1 hp2
 have hw:IntKind.i64.wrap ((p:Int)+1)=((p+1:Nat):Int):=by rw [wrap_i64 (by omega) (by omega)]; omega
 have hget:∀ st X,(H.set i (rst R.tr z L st)++X)[i]?=some (rst R.tr z L st):=fun st X=>upG hi
 have hcc:∀ st' X,Hp.cut H.length (H.set i (rst R.tr z L st')++X)=H.set i (rst R.tr z L st'):=fun st' X=>rcut hcl
 have gi:=fun X x=>hR.isA (z:=z) (st:=none) (X:=X) hi hp x
 have no:∀ {x y:Bs},x ≠ y→isT L p x=true→isT L p y=false:=fun {x y} hxy h=>by
  cases h':isT L p y with
  | false=>rfl
  | true=>exact absurd (isT_same h h') hxy
 have hX1:∀ X q,(H.set i (rst R.tr z L q)++X).length=H.length+X.length:=fun X q=>by simp
 simp only [rst] at gi hget
 by_cases hIf:isT L p kIf=true
 · simp [irR7Stmt,rst]
   refine CallK_of' (gi _ kIf) ?_
   simp [hIf]
   have l1:=isT_ltE hE hIf
   have gE:=fun X=>hEx H X i (p+1,none) hi (pre_at (q:=0) hL hn hp (by decide) (by omega) (by simp only; omega) (.refl _) (fun _=>l1))
   simp only [rst] at gE
   refine CallK_of' (gi _ kIf) ?_
   simp [hIf,hw]
   refine CallK_of (gE _) ?_
   rintro _ _ ⟨c,s1,rfl,rfl,r1⟩
   have m1:=r1.moE hE
   have hs1:=m1.lt (fun _=>l1)
   have b1:=r1.bnd (B:=L.length+n+2) (by simp only; omega) (by omega)
   have gB:=fun X=>hBl H X i s1 hi (pre_at (q:=0) hL hn hp (by decide) (by omega) (by omega) m1 hs1)
   obtain ⟨kc,fc,tc,wc,qc,zc,ksc,hfc,hec,hvc,hbc⟩:=node_ho R.tn c
   rw [hvc]
   simp
   refine CallK_of (gB _) ?_
   rintro _ _ ⟨b,s2,rfl,rfl,r2⟩
   have m2:=m1.trans (r2.moE hE)
   have hs2:=m2.lt (fun _=>l1)
   have b2:=r2.bnd (B:=L.length+n+4) (by omega) (by omega)
   obtain ⟨kb,fb,tb,wb,qb,zb,ksb,hfb,heb,hvb,hbb⟩:=node_ho R.tn b
   rw [hvb]
   simp
   obtain ⟨p2,st2⟩:=s2
   simp only at hs2 b2
   have hno:([.int .i64 0,.int .i64 0,.int .i64 0,.str [],.int .i64 0,.sl true 6 []]:List D)=N.none.enc:=rfl
   cases st2 with
   | some q =>
     have hg1:=hget (some q)
     simp only at hg1
     have hq:¬ (q:Int) < 0:=by omega
     have heo:=hno
     simp [rst,hg1,hq]
     have g5:=fun H0=>hR.ended.rendedT 9 p 0 [] 0 true [] (((p2,some q):PSt).1:Int) false [[.int .i64 kc,.int .i64 fc,.int .i64 tc,.str wc,.int .i64 qc,.sl zc 6 (ksc.map N.enc)],[.int .i64 kb,.int .i64 fb,.int .i64 tb,.str wb,.int .i64 qb,.sl zb 6 (ksb.map N.enc)],[.int .i64 0,.int .i64 0,.int .i64 0,.str [],.int .i64 0,.sl true 6 []]] H0 (H.length+5)
     simp only [ag] at g5
     simp [appA,slOf]
     refine CallK_of' (g5 _ (by simp)) ?_
     simp
     have hc1:=fun X=>hcc ((p2,some q):PSt).2 X
     simp only [rst] at hc1
     simp [RetK,hc1,rst,nl]
     have hrel:=fin_nodeR (tr:=R.tr) (z:=z) (H:=H) (i:=i) (z':=false) (t:=(((p2,some q):PSt).1:Int)) [c,b,.none] (rows:=[[.int .i64 kc,.int .i64 fc,.int .i64 tc,.str wc,.int .i64 qc,.sl zc 6 (ksc.map N.enc)],[.int .i64 kb,.int .i64 fb,.int .i64 tb,.str wb,.int .i64 qb,.sl zb 6 (ksb.map N.enc)],[.int .i64 0,.int .i64 0,.int .i64 0,.str [],.int .i64 0,.sl true 6 []]]) (by simp [hec,heb,heo]) (by simp) (relIf hE hIf (no (by decide) hIf) r1 r2 (.inl ⟨rfl,rfl,by simp⟩))
     simpa [rst] using hrel
   | none =>
     have hg1:=hget none
     simp only at hg1
     have hp2l:=hs2 rfl
     have gi2:=fun X=>hR.isA (z:=z) (st:=none) (X:=X) hi hp2l kElse
     have hw2:IntKind.i64.wrap ((p2:Int)+1)=((p2+1:Nat):Int):=by rw [wrap_i64 (by omega) (by omega)]; omega
     simp only [rst] at gi2
     simp [rst,hg1]
     refine CallK_of' (gi2 _) ?_
     cases hel:isT L p2 kElse with
     | false =>
       have heo:=hno
       simp [hel]
       have g5:=fun H0=>hR.ended.rendedT 9 p 0 [] 0 true [] (((p2,none):PSt).1:Int) false [[.int .i64 kc,.int .i64 fc,.int .i64 tc,.str wc,.int .i64 qc,.sl zc 6 (ksc.map N.enc)],[.int .i64 kb,.int .i64 fb,.int .i64 tb,.str wb,.int .i64 qb,.sl zb 6 (ksb.map N.enc)],[.int .i64 0,.int .i64 0,.int .i64 0,.str [],.int .i64 0,.sl true 6 []]] H0 (H.length+5)
       simp only [ag] at g5
       simp [appA,slOf]
       refine CallK_of' (g5 _ (by simp)) ?_
       simp
       have hc1:=fun X=>hcc ((p2,none):PSt).2 X
       simp only [rst] at hc1
       simp [RetK,hc1,rst,nl]
       have hrel:=fin_nodeR (tr:=R.tr) (z:=z) (H:=H) (i:=i) (z':=false) (t:=(((p2,none):PSt).1:Int)) [c,b,.none] (rows:=[[.int .i64 kc,.int .i64 fc,.int .i64 tc,.str wc,.int .i64 qc,.sl zc 6 (ksc.map N.enc)],[.int .i64 kb,.int .i64 fb,.int .i64 tb,.str wb,.int .i64 qb,.sl zb 6 (ksb.map N.enc)],[.int .i64 0,.int .i64 0,.int .i64 0,.str [],.int .i64 0,.sl true 6 []]]) (by simp [hec,heb,heo]) (by simp) (relIf hE hIf (no (by decide) hIf) r1 r2 (.inl ⟨rfl,rfl,fun _=>hel⟩))
       simpa [rst] using hrel
     | true =>
       have l2:=isT_ltE hE hel
       have gB:=fun X=>hBl H X i (p2+1,none) hi (pre_at (q:=0) hL hn hp (by decide) (by omega) (by simp only; omega) (m2.trans (by intro e; exact ⟨rfl,by simp,fun _=>l2⟩)) (fun _=>l2))
       simp only [rst] at gB
       simp [hel,hw2]
       refine CallK_of (gB _) ?_
       rintro _ _ ⟨o,s3,rfl,rfl,r3⟩
       obtain ⟨ko,fo,to,wo,qo,zo,kso,hfo,heo,hvo,hbo⟩:=node_ho R.tn o
       rw [hvo]
       simp
       have g5:=fun H0=>hR.ended.rendedT 9 p 0 [] 0 true [] (s3.1:Int) false [[.int .i64 kc,.int .i64 fc,.int .i64 tc,.str wc,.int .i64 qc,.sl zc 6 (ksc.map N.enc)],[.int .i64 kb,.int .i64 fb,.int .i64 tb,.str wb,.int .i64 qb,.sl zb 6 (ksb.map N.enc)],[.int .i64 ko,.int .i64 fo,.int .i64 to,.str wo,.int .i64 qo,.sl zo 6 (kso.map N.enc)]] H0 (H.length+5)
       simp only [ag] at g5
       simp [appA,slOf]
       refine CallK_of' (g5 _ (by simp)) ?_
       simp
       have hc1:=fun X=>hcc s3.2 X
       simp only [rst] at hc1
       simp [RetK,hc1,rst,nl]
       have hrel:=fin_nodeR (tr:=R.tr) (z:=z) (H:=H) (i:=i) (z':=false) (t:=(s3.1:Int)) [c,b,o] (rows:=[[.int .i64 kc,.int .i64 fc,.int .i64 tc,.str wc,.int .i64 qc,.sl zc 6 (ksc.map N.enc)],[.int .i64 kb,.int .i64 fb,.int .i64 tb,.str wb,.int .i64 qb,.sl zb 6 (ksb.map N.enc)],[.int .i64 ko,.int .i64 fo,.int .i64 to,.str wo,.int .i64 qo,.sl zo 6 (kso.map N.enc)]]) (by simp [hec,heb,heo]) (by simp) (relIf hE hIf (no (by decide) hIf) r1 r2 (.inr ⟨rfl,hel,r3⟩))
       simpa [rst] using hrel
 have hIf:isT L p kIf=false:=by simpa using hIf
 by_cases hWh:isT L p kWhile=true
 · simp [irR7Stmt,rst]
   refine CallK_of' (gi _ kIf) ?_
   simp [hIf]
   refine CallK_of' (gi _ kWhile) ?_
   simp [hWh]
   have l1:=isT_ltE hE hWh
   have gE:=fun X=>hEx H X i (p+1,none) hi (pre_at (q:=0) hL hn hp (by decide) (by omega) (by simp only; omega) (.refl _) (fun _=>l1))
   simp only [rst] at gE
   refine CallK_of' (gi _ kIf) ?_
   simp [hIf,hw]
   refine CallK_of (gE _) ?_
   rintro _ _ ⟨c,s1,rfl,rfl,r1⟩
   have m1:=r1.moE hE
   have hs1:=m1.lt (fun _=>l1)
   have b1:=r1.bnd (B:=L.length+n+2) (by simp only; omega) (by omega)
   have gB:=fun X=>hBl H X i s1 hi (pre_at (q:=0) hL hn hp (by decide) (by omega) (by omega) m1 hs1)
   obtain ⟨kc,fc,tc,wc,qc,zc,ksc,hfc,hec,hvc,hbc⟩:=node_ho R.tn c
   rw [hvc]
   simp
   refine CallK_of (gB _) ?_
   rintro _ _ ⟨b,s2,rfl,rfl,r2⟩
   obtain ⟨kb,fb,tb,wb,qb,zb,ksb,hfb,heb,hvb,hbb⟩:=node_ho R.tn b
   rw [hvb]
   simp
   have g5:=fun H0=>hR.ended.rendedT 10 p 0 [] 0 true [] (s2.1:Int) false [[.int .i64 kc,.int .i64 fc,.int .i64 tc,.str wc,.int .i64 qc,.sl zc 6 (ksc.map N.enc)],[.int .i64 kb,.int .i64 fb,.int .i64 tb,.str wb,.int .i64 qb,.sl zb 6 (ksb.map N.enc)]] H0 (H.length+5)
   simp only [ag] at g5
   have hc1:=fun X=>hcc s2.2 X
   simp only [rst] at hc1
   refine CallK_of' (g5 _ (by simp)) ?_
   simp
   simp [RetK,hc1,rst,nl]
   have hrel:=fin_nodeR (tr:=R.tr) (z:=z) (H:=H) (i:=i) (z':=false) (t:=(s2.1:Int)) [c,b] (rows:=[[.int .i64 kc,.int .i64 fc,.int .i64 tc,.str wc,.int .i64 qc,.sl zc 6 (ksc.map N.enc)],[.int .i64 kb,.int .i64 fb,.int .i64 tb,.str wb,.int .i64 qb,.sl zb 6 (ksb.map N.enc)]]) (by simp [hec,heb]) (by simp) (relWhile hE hWh (no (by decide) hWh) hIf r1 r2)
   simpa [rst] using hrel
 have hWh:isT L p kWhile=false:=by simpa using hWh
 by_cases hLe:isT L p kLet=true
 · have l1:=isT_ltE hE hLe
   simp [irR7Stmt,rst]
   refine CallK_of' (gi _ kIf) ?_
   simp [hIf]
   refine CallK_of' (gi _ kWhile) ?_
   simp [hWh]
   refine CallK_of' (gi _ kLet) ?_
   simp [hLe,hw]
   have hp1w:(((p+1:Nat),none):PSt).2=none→(((p+1:Nat),none):PSt).1 < L.length:=fun _=>l1
   have gW:=fun X=>hR.wordA (z:=z) (s:=(p+1,none)) (X:=X) hi hp1w (by simp only; omega) 7 p 0 [] 0 true []
   simp only [rst,ag] at gW
   have hrel0:=fun t x s2 s3 s4 s5=>relLet hE (n:=n) (p:=p) (t:=t) (x:=x) (s1:=wordS L (p+1,none)) (s2:=s2) (s3:=s3) (s4:=s4) (s5:=s5) (by omega) hLe rfl
   have m1:=wordS_moE hE (rfl:wordS L (p+1,none)=_)
   have b1:=wordS_le (rfl:wordS L (p+1,none)=_)
   generalize wordS L (p+1,none)=s1 at gW hrel0 m1 b1
   generalize (if wordOkB L (p+1,none)=true then txT L (p+1) else [])=W at gW hrel0
   generalize (if wordOkB L (p+1,none)=true then ((p+1:Nat):Int) else 0)=Q at gW hrel0
   have hs1:=m1.lt (fun _=>l1)
   simp only at b1
   have gT:=fun X=>hTy H X i s1 hi (pre_at (q:=0) hL hn hp (by decide) (by omega) (by omega) m1 hs1)
   refine CallK_of' (gW _) ?_
   simp
   refine CallK_of (gT _) ?_
   rintro _ _ ⟨c,s2,rfl,rfl,r1⟩
   have m2:=m1.trans (r1.moE hE)
   have hs2:=m2.lt (fun _=>l1)
   have b2:=r1.bnd (B:=L.length+n+3) (by omega) (by omega)
   obtain ⟨kc,fc,tc,wc,qc,zc,ksc,hfc,hec,hvc,hbc⟩:=node_ho R.tn c
   rw [hvc]
   have gw:=fun X=>hR.wantA (z:=z) (s:=s2) (X:=X) hi hs2 (by omega) [61]
   have m3:=m2.trans (wantS_moE hE (rfl:wantS L [61] s2=_))
   have b3:=wantS_le (rfl:wantS L [61] s2=_)
   have hrel0:=fun x s4 s5=>hrel0 c x s2 (wantS L [61] s2) s4 s5 r1 rfl
   generalize wantS L [61] s2=s3 at gw hrel0 m3 b3
   have hs3:=m3.lt (fun _=>l1)
   have gE:=fun X=>hEx H X i s3 hi (pre_at (q:=0) hL hn hp (by decide) (by omega) (by omega) m3 hs3)
   simp [appA,slOf]
   refine CallK_of' (gw _) ?_
   simp
   refine CallK_of (gE _) ?_
   rintro _ _ ⟨b,s4,rfl,rfl,r2⟩
   have m4:=m3.trans (r2.moE hE)
   have hs4:=m4.lt (fun _=>l1)
   have b4:=r2.bnd (B:=L.length+n+5) (by omega) (by omega)
   obtain ⟨kb,fb,tb,wb,qb,zb,ksb,hfb,heb,hvb,hbb⟩:=node_ho R.tn b
   rw [hvb]
   have gw:=fun X=>hR.wantA (z:=z) (s:=s4) (X:=X) hi hs4 (by omega) [59]
   have hrel0:=fun s5=>hrel0 b s4 s5 r2
   generalize wantS L [59] s4=s5 at gw hrel0
   have hrel0:=hrel0 s5 rfl
   simp
   refine CallK_of' (gw _) ?_
   simp
   have g5:=fun H0=>hR.ended.rendedT 7 p 0 W Q true [] (s5.1:Int) true [[.int .i64 kc,.int .i64 fc,.int .i64 tc,.str wc,.int .i64 qc,.sl zc 6 (ksc.map N.enc)],[.int .i64 kb,.int .i64 fb,.int .i64 tb,.str wb,.int .i64 qb,.sl zb 6 (ksb.map N.enc)]] H0 (H.length+2)
   simp only [ag] at g5
   have hc1:=fun X=>hcc s5.2 X
   simp only [rst] at hc1
   simp [appA,slOf]
   refine CallD_of (g5 _ (by simp)) ?_
   simp
   simp [RetK,hc1,rst,nl]
   have hrel:=fin_nodeR (tr:=R.tr) (z:=z) (H:=H) (i:=i) (z':=true) (t:=(s5.1:Int)) [c,b] (rows:=[[.int .i64 kc,.int .i64 fc,.int .i64 tc,.str wc,.int .i64 qc,.sl zc 6 (ksc.map N.enc)],[.int .i64 kb,.int .i64 fb,.int .i64 tb,.str wb,.int .i64 qb,.sl zb 6 (ksb.map N.enc)]]) (by simp [hec,heb]) (by simp) (hrel0)
   simpa [rst] using hrel
 have hLe:isT L p kLet=false:=by simpa using hLe
 by_cases hPr:isT L p kPrint=true
 · have l1:=isT_ltE hE hPr
   simp [irR7Stmt,rst]
   refine CallK_of' (gi _ kIf) ?_
   simp [hIf]
   refine CallK_of' (gi _ kWhile) ?_
   simp [hWh]
   refine CallK_of' (gi _ kLet) ?_
   simp [hLe]
   refine CallK_of' (gi _ kPrint) ?_
   simp [hPr,hw]
   have gE:=fun X=>hEx H X i (p+1,none) hi (pre_at (q:=0) hL hn hp (by decide) (by omega) (by simp only; omega) (.refl _) (fun _=>l1))
   simp only [rst] at gE
   refine CallK_of (gE _) ?_
   rintro _ _ ⟨x,s1,rfl,rfl,r1⟩
   have m1:=r1.moE hE
   have hs1:=m1.lt (fun _=>l1)
   have b1:=r1.bnd (B:=L.length+n+2) (by simp only; omega) (by omega)
   obtain ⟨kx,fx,tx,wx,qx,zx,ksx,hfx,hex,hvx,hbx⟩:=node_ho R.tn x
   rw [hvx]
   have gw:=fun X=>hR.wantA (z:=z) (s:=s1) (X:=X) hi hs1 (by omega) [59]
   have hrel0:=relTail hE (n:=n) (p:=p) (p0:=p+1) (K:=11) (Q:=0) (W:=[]) (x:=x) (by omega) (by simp [pp,hIf,hWh,hLe,hPr]) r1
   generalize wantS L [59] s1=s2 at gw hrel0
   simp
   refine CallK_of' (gw _) ?_
   simp
   have g5:=fun H0=>hR.ended.rendedT 11 p 0 [] 0 true [] (s2.1:Int) true [[.int .i64 kx,.int .i64 fx,.int .i64 tx,.str wx,.int .i64 qx,.sl zx 6 (ksx.map N.enc)]] H0 (H.length+2)
   simp only [ag] at g5
   have hc1:=fun X=>hcc s2.2 X
   simp only [rst] at hc1
   simp [appA,slOf]
   refine CallD_of (g5 _ (by simp)) ?_
   simp
   simp [RetK,hc1,rst,nl]
   have hrel:=fin_nodeR (tr:=R.tr) (z:=z) (H:=H) (i:=i) (z':=true) (t:=(s2.1:Int)) [x] (rows:=[[.int .i64 kx,.int .i64 fx,.int .i64 tx,.str wx,.int .i64 qx,.sl zx 6 (ksx.map N.enc)]]) (by simp [hex]) (by simp) (hrel0)
   simpa [rst] using hrel
 have hPr:isT L p kPrint=false:=by simpa using hPr
 by_cases hRe:isT L p kReturn=true
 · have l1:=isT_ltE hE hRe
   simp [irR7Stmt,rst]
   refine CallK_of' (gi _ kIf) ?_
   simp [hIf]
   refine CallK_of' (gi _ kWhile) ?_
   simp [hWh]
   refine CallK_of' (gi _ kLet) ?_
   simp [hLe]
   refine CallK_of' (gi _ kPrint) ?_
   simp [hPr]
   refine CallK_of' (gi _ kReturn) ?_
   simp [hRe,hw]
   have gE:=fun X=>hEx H X i (p+1,none) hi (pre_at (q:=0) hL hn hp (by decide) (by omega) (by simp only; omega) (.refl _) (fun _=>l1))
   simp only [rst] at gE
   refine CallK_of (gE _) ?_
   rintro _ _ ⟨x,s1,rfl,rfl,r1⟩
   have m1:=r1.moE hE
   have hs1:=m1.lt (fun _=>l1)
   have b1:=r1.bnd (B:=L.length+n+2) (by simp only; omega) (by omega)
   obtain ⟨kx,fx,tx,wx,qx,zx,ksx,hfx,hex,hvx,hbx⟩:=node_ho R.tn x
   rw [hvx]
   have gw:=fun X=>hR.wantA (z:=z) (s:=s1) (X:=X) hi hs1 (by omega) [59]
   have hrel0:=relTail hE (n:=n) (p:=p) (p0:=p+1) (K:=12) (Q:=0) (W:=[]) (x:=x) (by omega) (by simp [pp,hIf,hWh,hLe,hPr,hRe]) r1
   generalize wantS L [59] s1=s2 at gw hrel0
   simp
   refine CallK_of' (gw _) ?_
   simp
   have g5:=fun H0=>hR.ended.rendedT 12 p 0 [] 0 true [] (s2.1:Int) true [[.int .i64 kx,.int .i64 fx,.int .i64 tx,.str wx,.int .i64 qx,.sl zx 6 (ksx.map N.enc)]] H0 (H.length+2)
   simp only [ag] at g5
   have hc1:=fun X=>hcc s2.2 X
   simp only [rst] at hc1
   simp [appA,slOf]
   refine CallD_of (g5 _ (by simp)) ?_
   simp
   simp [RetK,hc1,rst,nl]
   have hrel:=fin_nodeR (tr:=R.tr) (z:=z) (H:=H) (i:=i) (z':=true) (t:=(s2.1:Int)) [x] (rows:=[[.int .i64 kx,.int .i64 fx,.int .i64 tx,.str wx,.int .i64 qx,.sl zx 6 (ksx.map N.enc)]]) (by simp [hex]) (by simp) (hrel0)
   simpa [rst] using hrel
 have hRe:isT L p kReturn=false:=by simpa using hRe
 have hA:=get_app (set_get hi (rst R.tr z L none))
 have hr:=rowAt_map encTk hp
 have hg:L[p]?=some L[p]:=List.getElem?_eq_getElem hp
 have hkd:kdT L p=L[p].k:=by unfold kdT; rw [hg]
 generalize L[p]=tk at hr hkd
 obtain ⟨kk,ta,tl,y⟩:=tk
 simp only [encTk] at hr hkd
 have hget1:=fun X=>hget none X
 simp only at hget1
 by_cases h1:kk=1
 · subst h1
   have l1:=kdT_ltE hE (i:=p) (by omega)
   have gi1:=fun X=>hR.isA (z:=z) (st:=none) (X:=X) hi l1 [61]
   simp only [rst] at gi1
   by_cases hSe:isT L (p+1) [61]=true
   · have l2:=isT_ltE hE hSe
     have hw2:IntKind.i64.wrap ((p:Int)+1+1)=((p+2:Nat):Int):=by rw [wrap_i64 (by omega) (by omega)]; omega
     have hpw:(((p:Nat),none):PSt).2=none→(((p:Nat),none):PSt).1 < L.length:=fun _=>hp
     have gW:=fun X=>hR.wordA (z:=z) (s:=(p,none)) (X:=X) hi hpw (by simp only; omega) 8 p 0 [] 0 true []
     simp only [wordS_none,wordOkB_none,hkd,if_true,decide_true,rst,ag] at gW
     have gE:=fun X=>hEx H X i (p+2,none) hi (pre_at (q:=0) hL hn hp (by decide) (by omega) (by simp only; omega) (by intro e; exact ⟨rfl,by simp,fun _=>l2⟩) (fun _=>l2))
     simp only [rst] at gE
     simp [irR7Stmt,rst]
     refine CallK_of' (gi _ kIf) ?_
     simp [hIf]
     refine CallK_of' (gi _ kWhile) ?_
     simp [hWh]
     refine CallK_of' (gi _ kLet) ?_
     simp [hLe]
     refine CallK_of' (gi _ kPrint) ?_
     simp [hPr]
     refine CallK_of' (gi _ kReturn) ?_
     simp [hRe,hget1,hr,hw]
     refine CallK_of' (gi1 _) ?_
     simp [hSe]
     refine CallK_of' (gW _) ?_
     simp [hw2]
     refine CallK_of (gE _) ?_
     rintro _ _ ⟨x,s1,rfl,rfl,r1⟩
     have m1:=r1.moE hE
     have hs1:=m1.lt (fun _=>l2)
     have b1:=r1.bnd (B:=L.length+n+3) (by simp only; omega) (by omega)
     obtain ⟨kx,fx,tx,wx,qx,zx,ksx,hfx,hex,hvx,hbx⟩:=node_ho R.tn x
     rw [hvx]
     have gw:=fun X=>hR.wantA (z:=z) (s:=s1) (X:=X) hi hs1 (by omega) [59]
     have hrel0:=relTail hE (n:=n) (p:=p) (p0:=p+2) (K:=8) (Q:=(p:Int)) (W:=txT L p) (x:=x) (by omega) (by simp [pp,hIf,hWh,hLe,hPr,hRe,hkd,hSe]) r1
     generalize wantS L [59] s1=s2 at gw hrel0
     simp
     refine CallK_of' (gw _) ?_
     simp
     have g5:=fun H0=>hR.ended.rendedT 8 p 0 (txT L p) p true [] (s2.1:Int) true [[.int .i64 kx,.int .i64 fx,.int .i64 tx,.str wx,.int .i64 qx,.sl zx 6 (ksx.map N.enc)]] H0 (H.length+2)
     simp only [ag] at g5
     have hc1:=fun X=>hcc s2.2 X
     simp only [rst] at hc1
     simp [appA,slOf]
     refine CallD_of (g5 _ (by simp)) ?_
     simp
     simp [RetK,hc1,rst,nl]
     have hrel:=fin_nodeR (tr:=R.tr) (z:=z) (H:=H) (i:=i) (z':=true) (t:=(s2.1:Int)) [x] (rows:=[[.int .i64 kx,.int .i64 fx,.int .i64 tx,.str wx,.int .i64 qx,.sl zx 6 (ksx.map N.enc)]]) (by simp [hex]) (by simp) (hrel0)
     simpa [rst] using hrel
   · have hSe:isT L (p+1) [61]=false:=by simpa using hSe
     have gE:=fun X=>hEx H X i (p,none) hi (pre_at0 hpp)
     simp only [rst] at gE
     simp [irR7Stmt,rst]
     refine CallK_of' (gi _ kIf) ?_
     simp [hIf]
     refine CallK_of' (gi _ kWhile) ?_
     simp [hWh]
     refine CallK_of' (gi _ kLet) ?_
     simp [hLe]
     refine CallK_of' (gi _ kPrint) ?_
     simp [hPr]
     refine CallK_of' (gi _ kReturn) ?_
     simp [hRe,hget1,hr,hw]
     refine CallK_of' (gi1 _) ?_
     simp [hSe]
     refine CallK_of (gE _) ?_
     rintro _ _ ⟨x,s1,rfl,rfl,r1⟩
     have m1:=r1.moE hE
     have hs1:=m1.lt (fun _=>hp)
     have b1:=r1.bnd (B:=L.length+n+3) (by simp only; omega) (by omega)
     obtain ⟨kx,fx,tx,wx,qx,zx,ksx,hfx,hex,hvx,hbx⟩:=node_ho R.tn x
     rw [hvx]
     have gw:=fun X=>hR.wantA (z:=z) (s:=s1) (X:=X) hi hs1 (by omega) [59]
     have hrel0:=relTail hE (n:=n) (p:=p) (p0:=p) (K:=13) (Q:=0) (W:=[]) (x:=x) (by omega) (by simp [pp,hIf,hWh,hLe,hPr,hRe,hkd,hSe]) r1
     generalize wantS L [59] s1=s2 at gw hrel0
     simp
     refine CallK_of' (gw _) ?_
     simp
     have g5:=fun H0=>hR.ended.rendedT 13 p 0 [] 0 true [] (s2.1:Int) true [[.int .i64 kx,.int .i64 fx,.int .i64 tx,.str wx,.int .i64 qx,.sl zx 6 (ksx.map N.enc)]] H0 (H.length+2)
     simp only [ag] at g5
     have hc1:=fun X=>hcc s2.2 X
     simp only [rst] at hc1
     simp [appA,slOf]
     refine CallD_of (g5 _ (by simp)) ?_
     simp
     simp [RetK,hc1,rst,nl]
     have hrel:=fin_nodeR (tr:=R.tr) (z:=z) (H:=H) (i:=i) (z':=true) (t:=(s2.1:Int)) [x] (rows:=[[.int .i64 kx,.int .i64 fx,.int .i64 tx,.str wx,.int .i64 qx,.sl zx 6 (ksx.map N.enc)]]) (by simp [hex]) (by simp) (hrel0)
     simpa [rst] using hrel
 · have hk1:¬ kdT L p=1:=by rw [hkd]; exact h1
   have gE:=fun X=>hEx H X i (p,none) hi (pre_at0 hpp)
   simp only [rst] at gE
   simp [irR7Stmt,rst]
   refine CallK_of' (gi _ kIf) ?_
   simp [hIf]
   refine CallK_of' (gi _ kWhile) ?_
   simp [hWh]
   refine CallK_of' (gi _ kLet) ?_
   simp [hLe]
   refine CallK_of' (gi _ kPrint) ?_
   simp [hPr]
   refine CallK_of' (gi _ kReturn) ?_
   simp [hRe,hget1,hr,h1]
   refine CallK_of (gE _) ?_
   rintro _ _ ⟨x,s1,rfl,rfl,r1⟩
   have m1:=r1.moE hE
   have hs1:=m1.lt (fun _=>hp)
   have b1:=r1.bnd (B:=L.length+n+3) (by simp only; omega) (by omega)
   obtain ⟨kx,fx,tx,wx,qx,zx,ksx,hfx,hex,hvx,hbx⟩:=node_ho R.tn x
   rw [hvx]
   have gw:=fun X=>hR.wantA (z:=z) (s:=s1) (X:=X) hi hs1 (by omega) [59]
   have hrel0:=relTail hE (n:=n) (p:=p) (p0:=p) (K:=13) (Q:=0) (W:=[]) (x:=x) (by omega) (by simp [pp,hIf,hWh,hLe,hPr,hRe,hk1]) r1
   generalize wantS L [59] s1=s2 at gw hrel0
   simp
   refine CallK_of' (gw _) ?_
   simp
   have g5:=fun H0=>hR.ended.rendedT 13 p 0 [] 0 true [] (s2.1:Int) true [[.int .i64 kx,.int .i64 fx,.int .i64 tx,.str wx,.int .i64 qx,.sl zx 6 (ksx.map N.enc)]] H0 (H.length+2)
   simp only [ag] at g5
   have hc1:=fun X=>hcc s2.2 X
   simp only [rst] at hc1
   simp [appA,slOf]
   refine CallD_of (g5 _ (by simp)) ?_
   simp
   simp [RetK,hc1,rst,nl]
   have hrel:=fin_nodeR (tr:=R.tr) (z:=z) (H:=H) (i:=i) (z':=true) (t:=(s2.1:Int)) [x] (rows:=[[.int .i64 kx,.int .i64 fx,.int .i64 tx,.str wx,.int .i64 qx,.sl zx 6 (ksx.map N.enc)]]) (by simp [hex]) (by simp) (hrel0)
   simpa [rst] using hrel
end
end
def Ex.mid (M:Fr→Hp→Prop) (Q:Ex→Fr→Hp→Prop):Ex→Fr→Hp→Prop
 | .normal=>M
 | e=>Q e
@[simp ↓] theorem mid_normal {M:Fr→Hp→Prop} {Q:Ex→Fr→Hp→Prop} {fr:Fr} {H:Hp}:Ex.mid M Q .normal fr H=M fr H:=rfl
@[simp ↓] theorem mid_ret {M:Fr→Hp→Prop} {Q:Ex→Fr→Hp→Prop} {fr:Fr} {H:Hp}:Ex.mid M Q .ret fr H=Q .ret fr H:=rfl
@[simp ↓] theorem mid_exit {M:Fr→Hp→Prop} {Q:Ex→Fr→Hp→Prop} {j:Nat} {fr:Fr} {H:Hp}:Ex.mid M Q (.exit j) fr H=Q (.exit j) fr H:=rfl
theorem Seq_mid {P:Program} {n0:Nat} {Q:Ex→Fr→Hp→Prop} {fr:Fr} {H:Hp} {a b:C} (M:Fr→Hp→Prop) (h:AWp P n0 a (Ex.mid M Q) fr H) (hm:∀ fr H,M fr H→AWp P n0 b Q fr H):AWp P n0 (.seq a b) Q fr H :=
 AWp.mono a (fun e fr H h=>by
  cases e with
  | normal=>exact hm fr H h
  | ret=>exact h
  | exit j=>exact h) fr H h
theorem relPart {L:List Tk} (hE:EndsL L) {n p:Nat} {one sub:G} {K:Int} {t:N} {s3:PSt} (h0:1≤n) (hpe:pp L (n+1) one p=wordR L p fun w _=>wantR L (p+1) [58] fun _=>(pp L n sub (p+2)).then fun t j => .ok (N.new K p j w p [t]) j) (hp:p < L.length) (h:Rel L n sub (wantS L [58] (wordS L (p,none))) t s3) (hb:s3.1≤L.length+(n+1)):Rel L (n+1) one (p,none) (N.new K p s3.1 (if wordOkB L (p,none) then txT L p else []) (if wordOkB L (p,none) then (p:Int) else 0) [t]) s3:=by
 simp only [Rel,hpe,wordR]
 by_cases c:kdT L p=1
 · simp only [wordS_none,c,if_true] at h ⊢
   have l1:=kdT_ltE hE (i:=p) (by omega)
   by_cases c2:isT L (p+1) [58]=true
   · simp only [wantS_none,c2,if_true] at h
     rcases h.none' with ⟨q,a,e,rfl,e3⟩ | ⟨k,e,rfl⟩
     · simp [e,PR.then,wantR,c2]; omega
     · simp [e,PR.then,wantR,c2,c]
   · simp only [wantS_none,c2] at h
     obtain ⟨a,rfl,e3⟩:=h.some'
     simp [wantR,c2]; omega
 · simp only [wordS_none,c,if_false,wantS_some] at h
   obtain ⟨a,rfl,e3⟩:=h.some'
   simp only [c,if_false]
   simp; omega
theorem relTfield {L:List Tk} (hE:EndsL L) {n p:Nat} {t:N} {s3:PSt} (h0:1≤n) (hp:p < L.length) (h:Rel L n .kind (wantS L [58] (wordS L (p,none))) t s3) (hb:s3.1≤L.length+(n+1)):Rel L (n+1) .tfield (p,none) (N.new 33 p s3.1 (if wordOkB L (p,none) then txT L p else []) (if wordOkB L (p,none) then (p:Int) else 0) [t]) s3:=relPart hE h0 (by simp only [pp]) hp h hb
theorem relEntry {L:List Tk} (hE:EndsL L) {n p:Nat} {t:N} {s3:PSt} (h0:1≤n) (hp:p < L.length) (h:Rel L n .expr (wantS L [58] (wordS L (p,none))) t s3) (hb:s3.1≤L.length+(n+1)):Rel L (n+1) .entry (p,none) (N.new 27 p s3.1 (if wordOkB L (p,none) then txT L p else []) (if wordOkB L (p,none) then (p:Int) else 0) [t]) s3:=relPart hE h0 (by simp only [pp]) hp h hb
theorem relIn {L:List Tk} {n p:Nat} {g one:G} {e:Bs} {K:Int} {ks:List N} {s2:PSt} (hpe:pp L (n+1) g p=(pp L n (.list one e) (p+1)).then fun m j => .ok (N.new K p j [] 0 m.ks) j) (h:Rel L n (.list one e) (p+1,none) (N.bag ks) s2):Rel L (n+1) g (p,none) (N.new K p s2.1 [] 0 ks) s2:=by
 simp only [Rel,hpe]
 rcases h.none' with ⟨q,a,e,rfl,e3⟩ | ⟨k,e,rfl⟩
 · simp [e,PR.then]; omega
 · simp [e,PR.then,N.bag,N.new,N.ks]
theorem relKFn {L:List Tk} (hE:EndsL L) {n p:Nat} {ks:List N} {t:N} {s1 s2 s3 s4 s5:PSt} (hp:p < L.length) (i1:isT L p kInt=false) (i2:isT L p kStr=false) (i3:isT L p kDyn=false) (i4:isT L p [123]=false) (h1:wantS L kFn (p,none)=s1) (h2:wantS L [40] s1=s2) (h3:Rel L n (.list .kind [41]) s2 (N.bag ks) s3) (h4:wantS L [58] s3=s4) (h5:Rel L n .kind s4 t s5):Rel L (n+1) .kind (p,none) (N.new 34 p s5.1 [] 0 (ks++[t])) s5:=by
 simp only [Rel,pp,i1,i2,i3,i4,wantR,Bool.false_eq_true,if_false]
 by_cases c1:isT L p kFn=true
 case neg =>
  simp only [wantS_none,c1] at h1
  subst h1
  simp only [Bool.false_eq_true,if_false,wantS_some] at h2
  subst h2
  obtain ⟨a,rfl,e3⟩:=h3.some'
  simp only [wantS_some] at h4
  subst h4
  obtain ⟨b,rfl,e5⟩:=h5.some'
  simp only [G.wt] at e3 e5
  simp [c1]; omega
 have l1:=isT_ltE hE c1
 simp only [wantS_none,c1,if_true] at h1
 subst h1
 by_cases c2:isT L (p+1) [40]=true
 case neg =>
  simp only [wantS_none,c2] at h2
  subst h2
  simp only [Bool.false_eq_true,if_false] at h3
  obtain ⟨a,rfl,e3⟩:=h3.some'
  simp only [wantS_some] at h4
  subst h4
  obtain ⟨b,rfl,e5⟩:=h5.some'
  simp only [G.wt] at e3 e5
  simp [c1,c2]; omega
 have l2:=isT_ltE hE c2
 simp only [wantS_none,c2,if_true] at h2
 subst h2
 rcases h3.none' with ⟨q,a,e,rfl,e3⟩ | ⟨k,e,rfl⟩
 · simp only [wantS_some] at h4
   subst h4
   obtain ⟨b,rfl,e5⟩:=h5.some'
   simp only [G.wt] at e5
   simp [c1,c2,e,PR.then]; omega
 have ha:=pp_advE hE n (.list .kind [41]) (p+1+1)
 rw [e] at ha
 have hk:k < L.length:=by
  rcases Nat.lt_or_ge (p+1+1) k with h | h
  · exact ha.2.2 h
  · omega
 by_cases c3:isT L k [58]=true
 case neg =>
  simp only [wantS_none,c3] at h4
  subst h4
  simp only [Bool.false_eq_true,if_false] at h5
  obtain ⟨b,rfl,e5⟩:=h5.some'
  simp only [G.wt] at e5
  simp [c1,c2,c3,e,PR.then]; omega
 simp only [wantS_none,c3,if_true] at h4
 subst h4
 rcases h5.none' with ⟨q,a,e',rfl,e5⟩ | ⟨k',e',rfl⟩
 · simp [c1,c2,c3,e,e',PR.then]; omega
 · simp [c1,c2,c3,e,e',PR.then,N.bag,N.new,N.ks]
end Go.Zam
