import Derived.Test.YtppagloobdflbabGreatDoorW4
import Derived.Test.YtppagloobdflbabGreatDoorW3
import Derived.Lib.LaidU8
import Derived.Shelf.Strings.Builder1
import Derived.Shelf.Small.Bits
import Derived.Shelf.Small.Strs
import Derived.Shelf.Strings.BuilderF
import Derived.Shelf.Strings.BuilderK
import Derived.Shelf.Strconv.Itoa0
import Derived.Shelf.Strconv.Itoa1
import Derived.Shelf.LaysM
import Derived.Shelf.Strconv.Itoa2
import Derived.Shelf.Strconv.Itoa3
import Derived.Shelf.Strconv.Clone
import Derived.Shelf.Strconv.Lower
import Derived.Shelf.Strconv.ParseUint10
import Derived.Shelf.Strconv.ParseUint10Empty
import Derived.Shelf.Strconv.RangeError
import Derived.Shelf.Strconv.ParseUintEmpty
import Derived.Shelf.Strconv.ParseUint10b64
import Derived.Shelf.Strconv.ParseUint10b32
import Derived.Shelf.Strconv.ParseUint10b16
import Derived.Shelf.Strconv.ParseUint10b8
import Derived.Ground.MpProg
import Derived.Shelf.Pu.ParseUintPublic10
import Derived.Shelf.Pu.ErrVarParseUint
import Derived.Shelf.Strings.Search1
import Derived.Shelf.Sort.Plain
import Derived.Shelf.Strings.Prefix
import Derived.Shelf.Unicode.Decode
import Derived.Shelf.Unicode.DecodeSlow
import Derived.Shelf.Unicode.DecodeAny
import Derived.Shelf.Slices.Turned
import Derived.Ground.Names2Prog
import Derived.Shelf.Slices.SearchI
import Derived.Shelf.Slices.In.SortNone
import Derived.Test.YtppagloobdflbabGreatDoorProg
import Derived.Test.YtppagloobdflbabGreatDoorRows
import Derived.Test.YtppagloobdflbabGreatDoorCards
import Derived.Test.YtppagloobdflbabGreatDoorTie
import Derived.ProofKit
import Derived.OpenShut
import Derived.Deep.DeepHandedRow
import Derived.Lib.LaidTab
import Derived.Stop.LaidErr
import Derived.SevenTiedAt
import Derived.Test.YtppagloobdflbabGreatDoorW2
import Derived.Defers
set_option linter.all false
set_option maxRecDepth 100000
set_option maxHeartbeats 4000000
namespace Go.Zam
section
section
variable{P:Program}{F:PF}{z:Bool}{L:List Tk}
def Qwg(hEq:∀i,isT L i [61]=true->kdT L i=5)(i:Nat):Qlq L i=(decide (kdT L i=1)&&isT L (i+1) [61]):=by
 unfold Qlq;have h:=hEq (i+1);unfold isT kdT at*;cases hg:L[i+1]? with
 |none=>simp
 |some t=>
  rw[hg]at h;simp only at h⊢;by_cases h5:t.k=5
  .simp[h5]
  .by_cases h2:t.k=2
   .simp[h2]at h⊢;intro _;exact h
   .simp[h2,h5]
def PHas.stmt'(hF:PHas P F)(hL:L.length<=1048576)(hEq:∀i,isT L i [61]=true->kdT L i=5)(n:Nat)(hn:n<=1099511627776)(hX:UC P F.tp z L n .expr F.expr)(hT:UC P F.tp z L n .typed F.typed)(hB:UC P F.tp z L n .block F.block):UC P F.tp z L (n+1) .stmt F.stmt:=by
 refine Qes λH i s hi hp=>?_;refine Ye (Qe hF.stmt (by simp[Qie]) λO _=>?_);have hp1:=hp.1;simp only[G.c]at hp1;simp[Qie];refine Qa (hF.nodeA hi _) ?_;simp[nag];refine Qa (hF.tookA hi _ (by omega)) ?_;cases h1:Yy L [108,101,116] s with
 |true=>
  obtain⟨p,rfl,ch1⟩:=Vq h1;have l0:=Yi ch1;obtain⟨hp2,hp3⟩:=hp.2.2 rfl;simp only[G.c]at hp2 hp3;simp only[G.c]at hp1;simp[ch1];refine Qa (hF.wordA (j:=3) (q:=2) hi (by simp only;omega) rfl (by simp)) ?_;generalize g2:W7 L (p+1,none)=s2;have b2:=Vc g2;have m2:=Qc8 g2;simp only at b2;simp[nob];refine Qf (hT H _ i s2 hi ⟨by simp only[G.c];omega,by simp only[G.c];omega,λe=>⟨(m2 e).2.2 l0,by have:=(m2 e).2.1;simp only[G.c]at this⊢;omega⟩⟩) ?_;rintro _ _ ⟨t3,s3,rfl,rfl,rs3⟩;have bs3:=rs3.wt0 rfl;have m3:=m2.trans rs3.mo
  try simp only at bs3
  simp[-Yf];refine Qa (hF.putA (j:=3) (q:=2) (rows:=[]) rfl rfl (by simp)) ?_;simp[nob];refine Qa (hF.wantA hi _ (by omega)) ?_;generalize g4:Qr L _ s3=s4;have b4:=W8 g4;have m4:=m3.trans (Qbe g4);simp;refine Qf (hX H _ i s4 hi ⟨by simp only[G.c];omega,by simp only[G.c];omega,λe=>⟨(m4 e).2.2 l0,by have:=(m4 e).2.1;simp only[G.c]at this⊢;omega⟩⟩) ?_;rintro _ _ ⟨t5,s5,rfl,rfl,rs5⟩;have bs5:=rs5.le;have m5:=m4.trans rs5.mo
  try simp only at bs5
  simp[-Yf];refine Qa (hF.putA (j:=3) (q:=2) (rows:=[t3.enc]) rfl rfl (by simp)) ?_;simp[nob];refine Qa (hF.wantA hi _ (by omega)) ?_;generalize g6:Qr L _ s5=s6;simp;refine Qa (hF.doneA (q:=2) hi (by simp)) ?_;simp[nag];simp[RetK,cutP O,nl];refine Wm [t3,t5] (by simp) (by simp) ?_;clear m2 m3 m4 m5 b2 bs3 b4 bs5;subst g2 g4 g6;simp only[Rel,pp,Qv,Yn,kLet,ch1,if_true];by_cases c2:kdT L (p+1)=1
  case neg=>simp[c2]at rs3;obtain⟨a,rfl,e3⟩:=rs3.some';simp at rs5;obtain⟨b,rfl,e5⟩:=rs5.some';simp only[G.wt]at e3 e5;simp[c2];omega
  have l2:p+1<L.length:=Qc6 (by omega);simp only[Wu,c2,if_true]at rs3;rcases rs3.none' with⟨q,a,e,rfl,e3⟩|⟨k,e,rfl⟩
  .simp at rs5;obtain⟨b,rfl,e5⟩:=rs5.some';simp only[G.wt]at e5;simp[c2,e,PR.then];omega
  have v3:=Yg (L:=L) n .typed (p+1+1);rw[e]at v3;obtain⟨v1,-,v3⟩:=v3;by_cases c4:isT L k [61]=true
  case neg=>simp[c4]at rs5;obtain⟨b,rfl,e5⟩:=rs5.some';simp only[G.wt]at e5;simp[c2,e,c4,PR.then];omega
  have l4:=Yi c4;simp only[Qq,c4,if_true]at rs5;rcases rs5.none' with⟨q,a,e',rfl,e5⟩|⟨k',e',rfl⟩
  .simp[c2,e,c4,e',PR.then];omega
  have v5:=Yg (L:=L) n .expr (k+1);rw[e']at v5;obtain⟨w1,w2,w3⟩:=v5;have w2:=w2 rfl;have w3:=w3 w2;by_cases c6:isT L k' [59]=true
  .simp[c2,e,c4,e',c6,PR.then]
  .simp[c2,e,c4,e',c6,PR.then];omega
 |false=>
 rw[Vp h1];simp;refine Qa (hF.tookA hi _ (by omega)) ?_;cases h2:Yy L [105,102] s with
 |true=>
  obtain⟨p,rfl,ch2⟩:=Vq h2;have l0:=Yi ch2;obtain⟨hp2,hp3⟩:=hp.2.2 rfl;simp only[G.c]at hp2 hp3;simp only[G.c]at hp1;simp at h1;simp[ch2];refine Qf (hX H _ i (p+1,none) hi ⟨by simp only[G.c];omega,by simp only[G.c];omega,λ_=>⟨l0,by simp only[G.c];omega⟩⟩) ?_;rintro _ _ ⟨t3,s3,rfl,rfl,rs3⟩;have bs3:=rs3.le;have m3:=rs3.mo
  try simp only at bs3
  simp[-Yf];refine Qf (hB H _ i s3 hi ⟨by simp only[G.c];omega,by simp only[G.c];omega,λe=>⟨(m3 e).2.2 l0,by have:=(m3 e).2.1;simp only[G.c]at this⊢;omega⟩⟩) ?_;rintro _ _ ⟨t4,s4,rfl,rfl,rs4⟩;have bs4:=rs4.wt0 rfl;have m4:=m3.trans rs4.mo
  try simp only at bs4
  simp[-Yf];refine Qa (hF.putA (j:=3) (q:=2) (rows:=[]) rfl rfl (by simp)) ?_;simp[nob];refine Qa (hF.tookA hi _ (by omega)) ?_;cases h7:Yy L [101,108,115,101] s4 with
  |true=>
   obtain⟨p4,rfl,c7⟩:=Vq h7;have l7:=Yi c7;have mm:=(m4 rfl).2.1;simp only at mm;simp[c7];refine Qf (hB H _ i (p4+1,none) hi ⟨by simp only[G.c];omega,by simp only[G.c];omega,λ_=>⟨l7,by simp only[G.c];omega⟩⟩) ?_;rintro _ _ ⟨t5,s5,rfl,rfl,rs5⟩;simp[-Yf];refine Qa (hF.putA (j:=3) (q:=2) (rows:=[t3.enc,t4.enc]) rfl rfl (by simp)) ?_;simp[nob];refine Qa (hF.doneA (q:=2) hi (by simp)) ?_;simp[nag];simp[RetK,cutP O,nl];refine Wm [t3,t4,t5] (by simp) (by simp) ?_;rcases rs3.none' with⟨q,a,e,rfl,e3⟩|⟨k,e,rfl⟩
   .obtain⟨b,e',-⟩:=rs4.some';simp at e'
   rcases rs4.none' with⟨q,a,e',e4',e4⟩|⟨k',e',e4'⟩
   .simp at e4'
   obtain rfl:p4=k':=by simpa using e4'
   rcases rs5.none' with⟨q,a,e'',rfl,e5⟩|⟨k'',e'',rfl⟩
   .simp[Rel,pp,kLet,kIf,Qgs,h1,ch2,e,e',c7,e'',PR.then];omega
   .simp[Rel,pp,kLet,kIf,Qgs,h1,ch2,e,e',c7,e'',PR.then]
  |false=>
   rw[Vp h7];simp;refine Qa (hF.putA (j:=3) (q:=2) (rows:=[t3.enc,t4.enc]) (rows2:=[N.none.enc]) rfl rfl (by simp)) ?_;simp[nob];refine Qa (hF.doneA (q:=2) hi (by simp)) ?_;simp[nag];simp[RetK,cutP O,nl];refine Wm [t3,t4,N.none] (by simp) (by simp) ?_;clear m3 m4 bs3 bs4;rcases rs3.none' with⟨q,a,e,rfl,e3⟩|⟨k,e,rfl⟩
   .obtain⟨b,rfl,e4⟩:=rs4.some';simp only[G.wt]at e4;simp[Rel,pp,kLet,kIf,Qgs,h1,ch2,e,PR.then];omega
   rcases rs4.none' with⟨q,a,e',rfl,e4⟩|⟨k',e',rfl⟩
   .simp[Rel,pp,kLet,kIf,Qgs,h1,ch2,e,e',PR.then];omega
   simp at h7;simp[Rel,pp,kLet,kIf,Qgs,h1,ch2,e,e',h7,PR.then]
 |false=>
 rw[Vp h2];simp;refine Qa (hF.tookA hi _ (by omega)) ?_;cases h3:Yy L [119,104,105,108,101] s with
 |true=>
  obtain⟨p,rfl,ch3⟩:=Vq h3;have l0:=Yi ch3;obtain⟨hp2,hp3⟩:=hp.2.2 rfl;simp only[G.c]at hp2 hp3;simp only[G.c]at hp1;simp at h1 h2;simp[ch3];refine Qf (hX H _ i (p+1,none) hi ⟨by simp only[G.c];omega,by simp only[G.c];omega,λ_=>⟨l0,by simp only[G.c];omega⟩⟩) ?_;rintro _ _ ⟨t3,s3,rfl,rfl,rs3⟩;have bs3:=rs3.le;have m3:=rs3.mo
  try simp only at bs3
  simp[-Yf];refine Qf (hB H _ i s3 hi ⟨by simp only[G.c];omega,by simp only[G.c];omega,λe=>⟨(m3 e).2.2 l0,by have:=(m3 e).2.1;simp only[G.c]at this⊢;omega⟩⟩) ?_;rintro _ _ ⟨t4,s4,rfl,rfl,rs4⟩;have bs4:=rs4.wt0 rfl;have m4:=m3.trans rs4.mo
  try simp only at bs4
  simp[-Yf];refine Qa (hF.putA (j:=3) (q:=2) (rows:=[]) rfl rfl (by simp)) ?_;simp[nob];refine Qa (hF.doneA (q:=2) hi (by simp)) ?_;simp[nag];simp[RetK,cutP O,nl];refine Wm [t3,t4] (by simp) (by simp) ?_;clear m3 m4 bs3 bs4;rcases rs3.none' with⟨q,a,e,rfl,e3⟩|⟨k,e,rfl⟩
  .obtain⟨b,rfl,e4⟩:=rs4.some';simp only[G.wt]at e4;simp[Rel,pp,kLet,kIf,Y3,h1,h2,ch3,e,PR.then];omega
  rcases rs4.none' with⟨q,a,e',rfl,e4⟩|⟨k',e',rfl⟩
  .simp[Rel,pp,kLet,kIf,Y3,h1,h2,ch3,e,e',PR.then];omega
  simp[Rel,pp,kLet,kIf,Y3,h1,h2,ch3,e,e',PR.then]
 |false=>
 rw[Vp h3];simp;refine Qa (hF.tookA hi _ (by omega)) ?_;cases h4:Yy L [112,114,105,110,116] s with
 |true=>
  obtain⟨p,rfl,ch4⟩:=Vq h4;have l0:=Yi ch4;obtain⟨hp2,hp3⟩:=hp.2.2 rfl;simp only[G.c]at hp2 hp3;simp only[G.c]at hp1;simp at h1 h2 h3;simp[ch4];refine Qf (hX H _ i (p+1,none) hi ⟨by simp only[G.c];omega,by simp only[G.c];omega,λ_=>⟨l0,by simp only[G.c];omega⟩⟩) ?_;rintro _ _ ⟨t3,s3,rfl,rfl,rs3⟩;have bs3:=rs3.le;have m3:=rs3.mo
  try simp only at bs3
  simp[-Yf];refine Qa (hF.putA (j:=3) (q:=2) (rows:=[]) rfl rfl (by simp)) ?_;simp[nob];refine Qa (hF.wantA hi _ (by omega)) ?_;generalize g6:Qr L _ s3=s6;simp;refine Qa (hF.doneA (q:=2) hi (by simp)) ?_;simp[nag];simp[RetK,cutP O,nl];refine Wm [t3] (by simp) (by simp) ?_;clear m3 bs3;subst g6;rcases rs3.none' with⟨q,a,e,rfl,e3⟩|⟨k,e,rfl⟩
  .simp[Rel,pp,Qv,kLet,kIf,Y3,V4,h1,h2,h3,ch4,e,PR.then];omega
  have v5:=Yg (L:=L) n .expr (p+1);rw[e]at v5;obtain⟨w1,w2,w3⟩:=v5;have w2:=w2 rfl;have w3:=w3 w2;by_cases c6:isT L k [59]=true
  .simp[Rel,pp,Qv,kLet,kIf,Y3,V4,h1,h2,h3,ch4,e,c6,PR.then]
  .simp[Rel,pp,Qv,kLet,kIf,Y3,V4,h1,h2,h3,ch4,e,c6,PR.then];omega
 |false=>
 rw[Vp h4];simp;refine Qa (hF.tookA hi _ (by omega)) ?_;cases h5:Yy L [114,101,116,117,114,110] s with
 |true=>
  obtain⟨p,rfl,ch5⟩:=Vq h5;have l0:=Yi ch5;obtain⟨hp2,hp3⟩:=hp.2.2 rfl;simp only[G.c]at hp2 hp3;simp only[G.c]at hp1;simp at h1 h2 h3 h4;simp[ch5];refine Qf (hX H _ i (p+1,none) hi ⟨by simp only[G.c];omega,by simp only[G.c];omega,λ_=>⟨l0,by simp only[G.c];omega⟩⟩) ?_;rintro _ _ ⟨t3,s3,rfl,rfl,rs3⟩;have bs3:=rs3.le;have m3:=rs3.mo
  try simp only at bs3
  simp[-Yf];refine Qa (hF.putA (j:=3) (q:=2) (rows:=[]) rfl rfl (by simp)) ?_;simp[nob];refine Qa (hF.wantA hi _ (by omega)) ?_;generalize g6:Qr L _ s3=s6;simp;refine Qa (hF.doneA (q:=2) hi (by simp)) ?_;simp[nag];simp[RetK,cutP O,nl];refine Wm [t3] (by simp) (by simp) ?_;clear m3 bs3;subst g6;rcases rs3.none' with⟨q,a,e,rfl,e3⟩|⟨k,e,rfl⟩
  .simp[Rel,pp,Qv,kLet,kIf,Y3,V4,Vz,h1,h2,h3,h4,ch5,e,PR.then];omega
  have v5:=Yg (L:=L) n .expr (p+1);rw[e]at v5;obtain⟨w1,w2,w3⟩:=v5;have w2:=w2 rfl;have w3:=w3 w2;by_cases c6:isT L k [59]=true
  .simp[Rel,pp,Qv,kLet,kIf,Y3,V4,Vz,h1,h2,h3,h4,ch5,e,c6,PR.then]
  .simp[Rel,pp,Qv,kLet,kIf,Y3,V4,Vz,h1,h2,h3,h4,ch5,e,c6,PR.then];omega
 |false=>
 rw[Vp h5];simp;refine Qa (hF.sets' (upG hi) (by omega)) ?_;rw[Qwg hEq];by_cases h6:kdT L s.1=1/\isT L (s.1+1) [61]=true
 .simp[h6.1,h6.2];refine Qa (hF.wordA (j:=3) (q:=2) hi (by omega) rfl (by simp)) ?_;generalize g2:W7 L s=s2;have b2:=Vc g2;have m2:=Qc8 g2;simp[nob];refine Qa (hF.wantA hi _ (by omega)) ?_;generalize g4:Qr L _ s2=s4;have b4:=W8 g4;have m4:=m2.trans (Qbe g4);simp;refine Qf (hX H _ i s4 hi (m4.pre hp (by decide) (by simp only[G.c];omega))) ?_;rintro _ _ ⟨t5,s5,rfl,rfl,rs5⟩;have bs5:=rs5.le;simp[-Yf];refine Qa (hF.putA (j:=3) (q:=2) (rows:=[]) rfl rfl (by simp)) ?_;simp[nob];refine Qa (hF.wantA hi _ (by omega)) ?_;generalize g6:Qr L _ s5=s6;simp;refine Qa (hF.doneA (q:=2) hi (by simp)) ?_;simp[nag];simp[RetK,cutP O,nl];refine Wm [t5] (by simp) (by simp) ?_;clear m2 m4 b2 b4 bs5;subst g2 g4 g6;obtain⟨p,st⟩:=s;cases st with
  |some q=>simp only[Z7,Yo]at rs5;obtain⟨b,rfl,e⟩:=rs5.some';simp only[G.wt]at e;simp[Rel,G.wt];omega
  |none=>
   simp at h1 h2 h3 h4 h5 h6;obtain⟨hp2,hp3⟩:=hp.2.2 rfl;simp only[G.c]at hp2 hp3;have l6:=Yi h6.2;simp[h6.1,h6.2]at rs5;rcases rs5.none' with⟨q,a,e,rfl,e3⟩|⟨k,e,rfl⟩
   .simp[Rel,pp,Qv,kLet,kIf,Y3,V4,Vz,h1,h2,h3,h4,h5,h6.1,h6.2,e,PR.then];omega
   have v5:=Yg (L:=L) n .expr (p+2);rw[e]at v5;obtain⟨w1,w2,w3⟩:=v5;have w2:=w2 rfl;have w3:=w3 w2;by_cases c6:isT L k [59]=true
   .simp[Rel,pp,Qv,kLet,kIf,Y3,V4,Vz,h1,h2,h3,h4,h5,h6.1,h6.2,e,c6,PR.then]
   .simp[Rel,pp,Qv,kLet,kIf,Y3,V4,Vz,h1,h2,h3,h4,h5,h6.1,h6.2,e,c6,PR.then];omega
 have h6':(decide (kdT L s.1=1)&&isT L (s.1+1) [61])=false:=by
  rw[Q5f];by_cases hk:kdT L s.1=1
  .right
   cases hh:isT L (s.1+1) [61]with
   |false=>rfl
   |true=>exact absurd ⟨hk,hh⟩ h6
  .left;simpa using hk
 rw[h6'];simp;refine Qf (hX H _ i s hi ((Mo.refl s).pre hp (by decide) (by simp only[G.c];omega))) ?_;rintro _ _ ⟨t5,s5,rfl,rfl,rs5⟩;have bs5:=rs5.le;simp[-Yf];refine Qa (hF.putA (j:=3) (q:=2) (rows:=[]) rfl rfl (by simp)) ?_;simp[nob];refine Qa (hF.wantA hi _ (by omega)) ?_;generalize g6:Qr L _ s5=s6;simp;refine Qa (hF.doneA (q:=2) hi (by simp)) ?_;simp[nag];simp[RetK,cutP O,nl];refine Wm [t5] (by simp) (by simp) ?_;clear bs5;subst g6;obtain⟨p,st⟩:=s;cases st with
 |some q=>obtain⟨b,rfl,e⟩:=rs5.some';simp only[G.wt]at e;simp[Rel,G.wt];omega
 |none=>
  simp at h1 h2 h3 h4 h5;simp only at h6;obtain⟨hp2,hp3⟩:=hp.2.2 rfl;simp only[G.c]at hp2 hp3;rcases rs5.none' with⟨q,a,e,rfl,e3⟩|⟨k,e,rfl⟩
  .simp only[Rel,pp,Qv,kLet,kIf,Y3,V4,Vz,h1,h2,h3,h4,h5,if_neg h6,e,PR.then];simp;omega
  have v5:=Yg (L:=L) n .expr p;rw[e]at v5;obtain⟨w1,w2,w3⟩:=v5;have w2:=w2 rfl;have w3:=w3 w2;by_cases c6:isT L k [59]=true
  .simp only[Rel,pp,Qv,kLet,kIf,Y3,V4,Vz,h1,h2,h3,h4,h5,if_neg h6,e,c6,PR.then];simp[c6]
  .simp only[Rel,pp,Qv,kLet,kIf,Y3,V4,Vz,h1,h2,h3,h4,h5,if_neg h6,e,c6,PR.then];simp[c6];omega
end
end
section
section
variable{P:Program}{F:PF}{z:Bool}{L:List Tk}
def PHas.file0(hF:PHas P F)(hL:L.length<=1048576)(n:Nat)(hn:n<=1099511627776)(hr0:16*L.length+7<=n+1)(hU:∀m,m<n+1->UC P F.tp z L m .use F.use_)(hD:∀m,m<n+1->UC P F.tp z L m .defn F.def_){H:Hp}{i:Nat}(hi:i<H.length):
 Qc P F.file [.ptr i 0] (H.set i (pst F.tp z L (0,none))) (PQ F.tp z L (n+1) (.file []) H i [] (0,none)):=by
 refine Ye (Qe hF.file (by simp[Qik]) λO _=>?_);simp[Qik];refine Qa (hF.nodeA hi _) ?_;simp[nag];obtain⟨XX,hXX⟩:∃XX:List N->Hp,XX=λks=>[Ob.box F.tn [YI 0,YI 0,YI 0,YS [],YI 0,YL true 6 []],nob F.tn 1 0 0 [] 0 true [] (H.length+2),.tok ks.length 6 F.tn,nob F.tn 1 0 0 [] 0 true (ks.map N.enc) (H.length+2)]:=⟨_,rfl⟩;obtain⟨E,hE⟩:∃E:Fr->Hp->Prop,E=λfr H'=>∃ks s',(fr 0=.ptr i 0/\fr 2=.ptr H.length 0/\fr 3=.ptr (H.length+3) 0)/\Rel L (n+1) (.file []) (0,none) (N.new 1 0 s'.1 [] 0 ks) s'/\H'=H.set i (pst F.tp z L s')++XX ks:=⟨_,rfl⟩;have hE1:∀fr ks s',(fr 0=.ptr i 0/\fr 2=.ptr H.length 0/\fr 3=.ptr (H.length+3) 0)->Rel L (n+1) (.file []) (0,none) (N.new 1 0 s'.1 [] 0 ks) s'->E fr (H.set i (pst F.tp z L s')++XX ks):=λfr ks s' h h'=>by subst hE;exact⟨ks,s',h,h',rfl⟩
 refine Qm 0 E (λ_ _=>False) ?_ (λ_ _ h=>h.elim) ?_;rotate_left
 .intro fr H' h;subst hE;obtain⟨ks,s',⟨f0,f2,f3⟩,hr,rfl⟩:=h;subst hXX;simp[f0,f3,nob];refine Qa (hF.doneA (q:=2) hi (by simp)) ?_;simp[nag,f2];simp[RetK,cutP O,nl];exact Wm ks (by simp) (by simp) hr
 clear hE;have hcut:∀ks s',Hp.cut (H.length+4) (H.set i (pst F.tp z L s')++XX ks)=H.set i (pst F.tp z L s')++XX ks:=λks s'=>by rw[Qn5 O,hXX];simp[nob]
 have hil2:i<H.length+4:=by omega
 refine Q4 (H.length+4) (λd fr H'=>∃ks s',(fr 0=.ptr i 0/\fr 2=.ptr H.length 0/\fr 3=.ptr (H.length+3) 0)/\H'=H.set i (pst F.tp z L s')++XX ks/\
  ((d=0/\s'.2≠none/\∀m,Rel L (n+1) (.file []) (0,none) m s')\/∃p1,s'=(p1,none)/\d<=n+1/\pp L (n+1) (.file []) 0=pp L d (.file ks) p1/\p1<=L.length/\16*(L.length-p1)+7<=d/\ks.length<=p1)) (n+1) (by simp) ⟨[],(0,none),by simp[hil2],?_,.inr ⟨0,rfl,by omega,rfl,by omega,by omega,by simp⟩⟩ ?_
 .rw[<-hcut,hXX];simp[nob]
 .rintro d fr H' ⟨ks,s',⟨f0,f2,f3⟩,rfl,hd⟩;have hi':=pget (tp:=F.tp) (z:=z) (L:=L) (H:=H) hi s' (XX ks);rcases hd with⟨rfl,q1,q2⟩|⟨p1,rfl,hdn,hpp,hp1',hrk,hks⟩
  .obtain⟨p',st'⟩:=s';cases st' with
   |none=>simp at q1
   |some q=>simp[f0,hi'];exact hE1 _ ks _ (by simp[f0,f2,f3]) (q2 _)
  .obtain⟨d',rfl⟩:∃d',d=d'+1:=⟨d-1,by omega⟩;have hRel:∀m s',(match pp L (d'+1) (.file ks) p1 with|.out=>False|.bad q=>s'.2=some q/\s'.1<=L.length+(n+1)|.ok m' k=>m=m'/\s'=(k,none))->Rel L (n+1) (.file []) (0,none) m s':=λm s' h=>by unfold Rel;simp only;rw[hpp];exact h
   obtain⟨ta,tl,htk⟩:=Qv7 L p1;simp[f0,hi'];refine Qa (hF.nowA hi) ?_;rw[htk];by_cases hk0:kdT L p1=0
   .simp[hk0];refine hE1 _ ks _ (by simp[f0,f2,f3]) (hRel _ _ ?_);simp[pp,hk0]
   have l1:p1<L.length:=Qc6 hk0;simp[hk0,f0];refine Qa (hF.isA hi _) ?_;have hput:∀(t3:N),((XX ks).set 2 (.tok (ks.map N.enc++[t3.enc]).length 6 F.tn)).set 3 (nob F.tn 1 0 0 [] 0 true (ks.map N.enc++[t3.enc]) (H.length+2))=XX (ks++[t3]):=λt3=>by rw[hXX];simp
   cases hu:isT L p1 [117,115,101]with
   |true=>
    simp[f0,hu];refine Qf (hU d' (by omega) H _ i (p1,none) hi ⟨by simp only[G.c];omega,by simp only[G.c];omega,λ_=>⟨hp1',by simp only[G.c];omega⟩⟩) ?_;rintro _ _ ⟨t3,s3,rfl,rfl,r3⟩;simp[-Yf,f3];refine Qa (hF.putA (j:=3) (q:=2) (rows:=ks.map N.enc) (by rw[hXX];rfl) (by rw[hXX];simp) (by simp;omega)) ?_;rw[hput];simp;rcases r3.none' with⟨q,b,hq,rfl,e3⟩|⟨j,hj,rfl⟩
    .refine Qg (H.length+4) 0 (Q14 _) (by rw[hXX];simp) (by omega) ⟨ks++[t3],(b,some q),by simp[f0,f2,f3,hil2],hcut _ _,.inl ⟨rfl,by simp,λm=>hRel _ _ ?_⟩⟩;simp[pp,hk0,hu,kUse,hq,PR.then];omega
    .have:=Yg (L:=L) d' .use p1;rw[hj]at this;obtain⟨v1,v2,v3⟩:=this;have v2:=v2 rfl;refine Qg (H.length+4) d' (Q14 _) (by rw[hXX];simp) (by omega) ⟨ks++[t3],(j,none),by simp[f0,f2,f3,hil2],hcut _ _,.inr ⟨j,rfl,by omega,?_,v3 v2,by have:=v3 v2;omega,by simp;omega⟩⟩;rw[hpp];simp[pp,hk0,hu,kUse,hj,PR.then]
   |false=>
   simp[hu,f0];refine Qa (hF.isA hi _) ?_;cases hv:isT L p1 [100,101,102]with
   |true=>
    simp[f0,hv];refine Qf (hD d' (by omega) H _ i (p1,none) hi ⟨by simp only[G.c];omega,by simp only[G.c];omega,λ_=>⟨hp1',by simp only[G.c];omega⟩⟩) ?_;rintro _ _ ⟨t3,s3,rfl,rfl,r3⟩;simp[-Yf,f3];refine Qa (hF.putA (j:=3) (q:=2) (rows:=ks.map N.enc) (by rw[hXX];rfl) (by rw[hXX];simp) (by simp;omega)) ?_;rw[hput];simp;rcases r3.none' with⟨q,b,hq,rfl,e3⟩|⟨j,hj,rfl⟩
    .refine Qg (H.length+4) 0 (Q14 _) (by rw[hXX];simp) (by omega) ⟨ks++[t3],(b,some q),by simp[f0,f2,f3,hil2],hcut _ _,.inl ⟨rfl,by simp,λm=>hRel _ _ ?_⟩⟩;simp[pp,hk0,hu,kUse,hq,PR.then];omega
    .have:=Yg (L:=L) d' .defn p1;rw[hj]at this;obtain⟨v1,v2,v3⟩:=this;have v2:=v2 rfl;refine Qg (H.length+4) d' (Q14 _) (by rw[hXX];simp) (by omega) ⟨ks++[t3],(j,none),by simp[f0,f2,f3,hil2],hcut _ _,.inr ⟨j,rfl,by omega,?_,v3 v2,by have:=v3 v2;omega,by simp;omega⟩⟩;rw[hpp];simp[pp,hk0,hu,kUse,hj,PR.then]
   |false=>obtain⟨d2,rfl⟩:∃d2,d'=d2+1:=⟨d'-1,by omega⟩;simp[hv,f0];refine Qa (hF.failA hi) ?_;simp;refine Qg (H.length+4) 0 (Q14 _) (by rw[hXX];simp) (by omega) ⟨ks,(p1,some p1),by simp[f0,f2,f3,hil2],hcut _ _,.inl ⟨rfl,by simp,λm=>hRel _ _ ?_⟩⟩;simp[pp,hk0,hu,kUse,kDef,hv,Qv,PR.then];omega
structure PAll(P:Program)(F:PF)(z:Bool)(L:List Tk)(n:Nat):Prop where
 use_:UC P F.tp z L n .use F.use_
 def_:UC P F.tp z L n .defn F.def_
 params:UC P F.tp z L n .params F.params
 param:UCc P F.tp F.tb z L n .param F.param
 typed:UC P F.tp z L n .typed F.typed
 kind:UC P F.tp z L n .kind F.kind
 tfield:UCc P F.tp F.tb z L n .tfield F.tfield
 block:UC P F.tp z L n .block F.block
 stmt:UC P F.tp z L n .stmt F.stmt
 expr:UC P F.tp z L n .expr F.expr
 sum:UC P F.tp z L n .sum F.sum
 term:UC P F.tp z L n .term F.term
 post:UC P F.tp z L n .post F.post
 atom:UC P F.tp z L n .atom F.atom
 entry:UCc P F.tp F.tb z L n .entry F.entry
def Z6{tp:TypeId}{g:G}{f:FuncId}(hg:0<g.c):UC P tp z L 0 g f:=λH X i s hi hp=>absurd hp.2.1 (by omega)
def Qm5{tp tb:TypeId}{g:G}{f:FuncId}(hg:0<g.c):UCc P tp tb z L 0 g f:=λH X i q s hi hq hp=>absurd hp.2.1 (by omega)
def PHas.all(hF:PHas P F)(hL:L.length<=1048576)(hEq:∀i,isT L i [61]=true->kdT L i=5):∀n,n<=1099511627776->PAll P F z L n:=by
 intro n;induction n using Nat.strongRecOn with
 |ind n ih=>
 intro hn;cases n with
 |zero=>exact⟨Z6 (by decide),Z6 (by decide),Z6 (by decide),Qm5 (by decide),Z6 (by decide),Z6 (by decide),Qm5 (by decide),Z6 (by decide),Z6 (by decide),Z6 (by decide),Z6 (by decide),Z6 (by decide),Z6 (by decide),Z6 (by decide),Qm5 (by decide)⟩
 |succ n=>
  have a:∀m,m<n+1->PAll P F z L m:=λm hm=>ih m hm (by omega);have b:=a n (by omega);have hn':n<=1099511627776:=by omega
  exact⟨hF.use' hL n,hF.def' hL n hn' b.params b.typed b.block,hF.params' hL n hn' (λm hm=>(a m (by omega)).param),hF.param' hL n hn' b.typed,hF.typed' hL n hn' b.kind,
   hF.kind' hL n hn' (λm hm=>(a m (by omega)).tfield) (λm hm=>(a m hm).kind),hF.tfield' hL n hn' b.kind,hF.block' hL n hn' (λm hm=>(a m (by omega)).stmt),hF.stmt' hL hEq n hn' b.expr b.typed b.block,
   hF.expr' hL n hn' b.sum,hF.sum' hL n hn' (λm hm=>(a m hm).term),hF.term' hL n hn' (λm hm=>(a m hm).post),hF.post' hL n hn' b.atom (λm hm=>(a m (by omega)).expr),
   hF.atom' hL n hn' b.expr (λm hm=>(a m (by omega)).entry) b.params b.typed b.block,hF.entry' hL n hn' b.expr⟩
def PHas.fileA(hF:PHas P F)(hL:L.length<=1048576)(hEq:∀i,isT L i [61]=true->kdT L i=5){H X:Hp}{i:Nat}(hi:i<H.length):
 Qc P F.file [.ptr i 0] (H.set i (pst F.tp z L (0,none))++X) (PQ F.tp z L (16*L.length+8) (.file []) H i X (0,none)):=by
 have ha:∀m,m<16*L.length+7+1->PAll P F z L m:=λm hm=>hF.all hL hEq m (by omega);have:=hF.file0 hL (16*L.length+7) (by omega) (by omega) (λm hm=>(ha m hm).use_) (λm hm=>(ha m hm).def_) (z:=z) (H:=H++X) (i:=i) (by simp;omega);rw[Q18 _ _ hi]at this;refine this.mono ?_;rintro r H' ⟨m,s',rfl,rfl,hr⟩;refine⟨m,s',rfl,?_,hr⟩;rw[Q2k,Q18 _ _ hi]
end
end
section
mutual
def N.size:N->Nat
 |.mk _ _ _ _ _ _ ks=>1+N.sizes ks
def N.sizes:List N->Nat
 |[]=>0
 |p::r=>N.size p+N.sizes r
end
mutual
def N.depth:N->Nat
 |.mk _ _ _ _ _ _ ks=>1+N.depths ks
def N.depths:List N->Nat
 |[]=>0
 |p::r=>max (N.depth p) (N.depths r)
end
def N.size_mk(k f t:Int)(w:Bs)(a:Int)(z:Bool)(ks:List N):N.size (.mk k f t w a z ks)=1+N.sizes ks:=by rw[N.size]
def N.depth_mk(k f t:Int)(w:Bs)(a:Int)(z:Bool)(ks:List N):N.depth (.mk k f t w a z ks)=1+N.depths ks:=by rw[N.depth]
def N.size_new(k f t:Int)(w:Bs)(a:Int)(ks:List N):N.size (.new k f t w a ks)=1+N.sizes ks:=N.size_mk ..
def N.size_ks(m:N):N.size m=1+N.sizes m.ks:=by cases m;rw[N.size];rfl
def N.size_bag(ks:List N):N.size (.bag ks)=1+N.sizes ks:=N.size_mk ..
def N.size_none:N.size .none=1:=by rw[N.none,N.size_new];rfl
def N.sizes_nil:N.sizes []=0:=rfl
def N.sizes_cons(p:N)(r:List N):N.sizes (p::r)=N.size p+N.sizes r:=by rw[N.sizes]
def N.sizes_app:∀(l r:List N),N.sizes (l++r)=N.sizes l+N.sizes r
 |[],r=>by simp[N.sizes_nil]
 |p::l,r=>by rw[Q2m,N.sizes_cons,N.sizes_cons,N.sizes_app l r];omega
def N.sizes_mem{l:List N}{p:N}(h:p∈l):N.size p<=N.sizes l:=by
 induction l with
 |nil=>cases h
 |cons q l ih=>
  rw[N.sizes_cons];rcases Q2v.1 h with rfl|h
  .omega
  .have:=ih h;omega
def N.size_pos(p:N):1<=N.size p:=by cases p;rw[N.size];omega
def N.sizes_len(l:List N):l.length<=N.sizes l:=by
 induction l with
 |nil=>simp
 |cons q l ih=>rw[N.sizes_cons,Q2i];have:=N.size_pos q;omega
def N.depths_cons(p:N)(r:List N):N.depths (p::r)=max (N.depth p) (N.depths r):=by rw[N.depths]
def N.depths_le{b:Nat}(l:List N)(h:∀p∈l,N.depth p<=b):N.depths l<=b:=by
 induction l with
 |nil=>simp[N.depths]
 |cons q l ih=>rw[N.depths_cons];have h1:=h q (by simp);have h2:=ih λp hp=>h p (by simp[hp]);omega
def N.depth_size:∀n:N,N.depth n<=N.size n:=by refine N.ind λk f t w a z ks ih=>?_;rw[N.depth_mk,N.size_mk];have:N.depths ks<=N.sizes ks:=N.depths_le ks λp hp=>Q3d (ih p hp) (N.sizes_mem hp);omega
def N.depths_take_succ{l:List N}{i:Nat}(h:i<l.length):N.depths (l.take (i+1))=max (N.depths (l.take i)) (N.depth l[i]):=by
 have app:∀a b:List N,N.depths (a++b)=max (N.depths a) (N.depths b):=by
  intro a b;induction a with
  |nil=>simp[N.depths]
  |cons q a ih=>rw[Q2m,N.depths_cons,N.depths_cons,ih];omega
 rw[Q2e h,app,N.depths_cons];simp[N.depths]
def G.k1:G->Nat
 |.typed|.file _|.sumL _|.termL _|.postL _=>0
 |.listL ..|.stmts _=>4
 |_=>2
def G.sz:G->Nat
 |.typed=>1
 |.file ks|.listL _ _ ks|.stmts ks=>1+N.sizes ks
 |.sumL a|.termL a|.postL a=>N.size a
 |_=>0
def G.nice:G->Prop
 |.list o _|.listL o _ _=>o.k1=2/\o.sz=0/\o.strict=true/\o.nice
 |_=>True
def Sz(i A B:Nat):PR->Prop
 |.ok m j=>m.size+A<=B+4*(j-i)
 |_=>True
section
variable{L:List Tk}{i A B:Nat}
def Sz.want{k:Nat}{x:Bs}{h:Nat->PR}(hh:Sz i A B (h (k+1))):Sz i A B (Qv L k x h):=by
 unfold Qv;split
 .exact hh
 .trivial
def Sz.word{k:Nat}{h:Bs->Nat->PR}(hh:Sz i A B (h (txT L k) (k+1))):Sz i A B (Yn L k h):=by
 unfold Yn;split
 .exact hh
 .trivial
def Sz.ite{c:Prop}[Decidable c]{a b:PR}(ha:Sz i A B a)(hb:Sz i A B b):Sz i A B (if c then a else b):=by
 split
 .exact ha
 .exact hb
def Sz.last{n:Nat}(ih:∀g i,g.nice->Sz i g.k1 g.sz (pp L n g i)){g:G}{k:Nat}(hg:g.nice)(hh:∀x j,k<=j->(g.strict=true->k<j)->x+g.k1<=g.sz+4*(j-k)->x+A<=B+4*(j-i)):Sz i A B (pp L n g k):=by
 have h1:=ih g k hg;have h2:=Yg (L:=L) n g k;generalize pp L n g k=r at h1 h2;cases r with
 |out=>trivial
 |bad j=>trivial
 |ok m j=>exact hh _ j h2.1 h2.2.1 h1
def Sz.thenG{n:Nat}(ih:∀g i,g.nice->Sz i g.k1 g.sz (pp L n g i)){g:G}{k:Nat}{h:N->Nat->PR}(hg:g.nice)(hh:∀m j,k<=j->(g.strict=true->k<j)->m.size+g.k1<=g.sz+4*(j-k)->Sz i A B (h m j)):Sz i A B ((pp L n g k).then h):=by
 have h1:=ih g k hg;have h2:=Yg (L:=L) n g k;generalize pp L n g k=r at h1 h2;cases r with
 |out=>trivial
 |bad j=>trivial
 |ok m j=>exact hh m j h2.1 h2.2.1 h1
def Sz.ok{m:N}{j:Nat}(h:m.size+A<=B+4*(j-i)):Sz i A B (.ok m j):=h
def Qky:∀(n:Nat)(g:G)(i:Nat),g.nice->Sz i g.k1 g.sz (pp L n g i)
 |0,g,i,_=>trivial
 |n+1,g,i,hg=>by
  have ih:=Qky n;cases g;case listL one e ks=>
   obtain⟨g1,g2,g3,g4⟩:=hg;simp only[pp,G.k1,G.sz];refine Sz.thenG ih g4 λm j h1 h2 h3=>?_;have h2:=h2 g3;rw[g1,g2]at h3;refine Sz.ite ?_ (Sz.want ?_)
   .refine Sz.ok ?_;simp only[N.size_bag,N.sizes_nil,N.sizes_cons,N.sizes_app];omega
   .refine Sz.last ih ⟨g1,g2,g3,g4⟩ λx j h1 h2 h3=>?_;simp only[G.strict,G.k1,G.sz,true_implies,N.sizes_nil,N.sizes_cons,N.sizes_app]at h2 h3;omega
  case list one e=>
   simp only[pp,G.k1,G.sz];refine Sz.ite ?_ ?_
   .refine Sz.ok ?_;simp only[N.size_bag,N.sizes_nil];omega
   .refine Sz.last ih hg λx j h1 h2 h3=>?_;simp only[G.strict,G.k1,G.sz,true_implies,N.sizes_nil]at h2 h3;omega
  all_goals simp only[pp,G.k1,G.sz]
  all_goals
   repeat' first
    |exact Sz.bad
    |(refine Sz.want ?_)
    |(refine Sz.word ?_)
    |(refine Sz.ite ?_ ?_)
    |(refine Sz.thenG ih (by simp[G.nice,G.k1,G.sz,G.strict]) λm j h1 h2 h3=>?_;have h4:=N.size_ks m;simp only[G.strict,G.k1,G.sz,Q2c,false_implies,true_implies,N.sizes_nil,N.sizes_cons,N.sizes_app]at h2 h3)
    |(refine Sz.ok ?_;(try simp only[N.size_new,N.size_bag,N.size_none,N.sizes_nil,N.sizes_cons,N.sizes_app]);omega)
    |(refine Sz.last ih (by simp[G.nice]) λx j h1 h2 h3=>?_;simp only[G.strict,G.k1,G.sz,Q2c,false_implies,true_implies,N.size_new,N.size_bag,N.size_none,N.sizes_nil,N.sizes_cons,N.sizes_app]at h2 h3;omega)
end
end
section
section
variable{P:Program}
def Has.depth{f:FuncId}{tn:TypeId}(h:Has P f (Qdk f tn)):∀(n:N),n.size<=1125899906842624->∀H,Qc P f [n.v] H (λr H'=>r=YI n.depth/\H'=H):=by
 refine N.ind λk f' t w a z ks ih=>?_;intro hs H;refine Qe h (by simp[Qdk]) λO _=>?_;rw[N.size_mk]at hs;rw[N.v_mk,N.depth_mk];have hlen:=N.sizes_len ks;have hds:∀i,N.depths (ks.take i)<=1125899906842624:=λi=>by refine N.depths_le _ λp hp=>?_;have:=N.depth_size p;have:=N.sizes_mem (Q4q hp);omega
 simp[Qdk];refine Qz 0 (λfr H'=>fr 3=YI (N.depths ks:Int)/\∃X,H'=H++X) ?_ ?_
 .refine Q8 (H.length+1) ks.length (λi fr H'=>fr 3=YI (N.depths (ks.take i):Int)/\fr 7=YL z 6 (ks.map N.enc)/\∃o,H'=H++[o]) (by omega) (by decide) (by simp) (by simp) ?_ ?_ ?_
  .simp[N.depths,Qi O]
  .rintro i fr H' hi f9 f8 ⟨f3,f7,o,rfl⟩;have hr:=Qt N.enc hi;have hm:=Q20 hi;have ih':=ih _ hm (by have:=N.sizes_mem hm;omega);have hdt:=N.depths_take_succ hi;have hd1:=hds (i+1);generalize ks[i]=x at hr ih' hdt;obtain⟨k2,f2,t2,w2,a2,z2,ks2⟩:=x;rw[N.enc_mk]at hr;rw[N.v_mk]at ih';simp[f9,f7,hr,f3];refine Qa (ih' _) ?_;simp;refine Q3 (H.length+1) (Q14 _) (by simp[f9,f8]) ?_;simp[f7,hdt,Qi O];omega
  .rintro fr H' f9 f8 ⟨f3,f7,o,rfl⟩;rw[Q2f (Q14 _)]at f3;simp[f3]
 .rintro fr H' ⟨f3,X,rfl⟩;have:=hds ks.length;rw[Q2f (Q14 _)]at this;have hw:IntKind.i64.wrap ((N.depths ks:Int)+1)=(1:Int)+N.depths ks:=by rw[wi64 (by omega)];omega
  simp[f3,hw];simp[RetK,Qd O]
end
def Qaz(L:List Tk):PR:=pp L (16*L.length+8) (.file []) 0
def Q5(L:List Tk):N×Int×Int:=
 if L=[]\/kdT L (L.length-1)≠0\/4000<L.length then(N.none,1,0)else
 match Qaz L with
 |.ok n _=>if 60<n.depth then(N.none,25,0)else(n,0,0)
 |.bad q=>(N.none,24,(q:Int))
 |.out=>(N.none,24,0)
section
variable{P:Program}{F:PF}{z:Bool}{L:List Tk}
def Has.parse{f fd}(h:Has P f (Qbp F.file fd F.tn F.tp))(hF:PHas P F)(hd:Has P fd (Qdk fd F.tn))(hL:L.length<=1048576)(hEq:∀i,isT L i [61]=true->kdT L i=5)(H:Hp):
 Qc P f [YL z 4 (L.map Qp)] H (λr H'=>r=.tup [(Q5 L).1.v,YI (Q5 L).2.1,YI (Q5 L).2.2]/\H'=H):=by
 refine Qe h (by simp[Qbp]) λO _=>?_;obtain⟨Q,hQ⟩:∃Q:A->Hp->Prop,Q=λr H'=>r=.tup [(Q5 L).1.v,YI (Q5 L).2.1,YI (Q5 L).2.2]/\H'=H:=⟨_,rfl⟩;rw[<-hQ];have hnone:∀e b:Int,Q5 L=(N.none,e,b)->Q (.tup [.agg [YI 0,YI 0,YI 0,YS [],YI 0,YL true 6 []],YI e,YI b]) H:=λe b h=>by subst hQ;rw[h];exact⟨rfl,rfl⟩
 by_cases h0:L=[]
 .subst h0;simp[Qbp];simp[RetK,Qd O];exact hnone 1 0 (by simp[Q5])
 have hl0:0<L.length:=Q3g.2 h0;have h0':¬(L.length:Int)=0:=by omega
 have hw:IntKind.i64.wrap ((L.length:Int)-1)=((L.length-1:Nat):Int):=by rw[wi64 (by omega)];omega
 have hr:=Qt Qp (l:=L) (i:=L.length-1) (by omega);have hg:L[L.length-1]?=some (L[L.length-1]'(by omega)):=Q12 (by omega);have hkd:kdT L (L.length-1)=(L[L.length-1]'(by omega)).k:=by unfold kdT;rw[hg]
 generalize L[L.length-1]'(by omega)=tk at hr hkd;obtain⟨k,a,l,x⟩:=tk;simp only[Qp]at hr hkd;by_cases h1:k=0
 case neg=>simp[Qbp,h0,h0',hw,hr,h1];simp[RetK,Qd O];exact hnone 1 0 (by simp[Q5,hkd,h1])
 by_cases h2:4000<L.length
 case pos=>
  have h2':(4000:Int)<L.length:=by omega
  simp[Qbp,h0,h0',hw,hr,h1,h2'];simp[RetK,Qd O];exact hnone 1 0 (by simp[Q5,h2])
 have h2':¬(4000:Int)<L.length:=by omega
 have hpp:Q5 L=match Qaz L with
  |.ok n _=>if 60<n.depth then(N.none,25,0)else(n,0,0)
  |.bad q=>(N.none,24,(q:Int))
  |.out=>(N.none,24,0):=by
  unfold Q5;rw[if_neg];rw[hkd,h1];rintro(h|h|h)
  .exact h0 h
  .exact h rfl
  .exact h2 h
 simp[Qbp,h0,h0',hw,hr,h1,h2'];obtain⟨r0,hr0⟩:∃r0:Ob,r0=.box F.tn [YI 0,YI 0,YI 0,YS [],YI 0,YL true 6 []]:=⟨_,rfl⟩;have g:=hF.fileA (z:=z) hL hEq (H:=H++[r0,pst F.tp z L (0,none)]) (X:=[]) (i:=H.length+1) (by simp);have e1:∀s,(H++[r0,pst F.tp z L (0,none)]).set (H.length+1) (pst F.tp z L s)++[]=H++[r0,pst F.tp z L s]:=λs=>by simp
 rw[e1]at g;rw[hr0]at g;refine Qf g ?_;rintro _ _ ⟨m,s',rfl,rfl,hrel⟩;rw[<-hr0,e1];rw[hr0];rcases hrel.none' with⟨q,b,hq,rfl,e3⟩|⟨k',hk,rfl⟩
 .have hq':Qaz L=.bad q:=hq;rw[hq']at hpp;obtain⟨k2,f2,t2,w2,a2,z2,ks2⟩:=m;rw[N.v_mk];simp[pst]
  repeat' apply And.intro
  all_goals
   simp[RetK,Qd O]
   try exact hnone 24 q hpp
 .have hk':Qaz L=.ok m k':=hk;rw[hk']at hpp;have hsz:=Qky (L:=L) (16*L.length+8) (.file []) 0 trivial;rw[show pp L (16*L.length+8) (.file []) 0=.ok m k' from hk]at hsz;simp only[Sz,G.k1,G.sz,N.sizes_nil]at hsz;have hadv:=Yg (L:=L) (16*L.length+8) (.file []) 0;rw[show pp L (16*L.length+8) (.file []) 0=.ok m k' from hk]at hadv;obtain⟨v1,-,v3⟩:=hadv;have hdep:=N.depth_size m;have hd':=hd.depth m (by omega);obtain⟨k2,f2,t2,w2,a2,z2,ks2⟩:=m;rw[N.v_mk]at hd';rw[N.v_mk];simp[pst];refine Qa (hd' _) ?_;by_cases h60:60<N.depth (.mk k2 f2 t2 w2 a2 z2 ks2)
  .have h60':(60:Int)<N.depth (.mk k2 f2 t2 w2 a2 z2 ks2):=by omega
   simp[h60'];simp[RetK,Qd O];exact hnone 25 0 (by rw[hpp];simp[h60])
  .have h60':¬(60:Int)<N.depth (.mk k2 f2 t2 w2 a2 z2 ks2):=by omega
   simp[h60'];simp[RetK,Qd O];subst hQ;rw[hpp];simp[h60,N.v_mk]
end
end
section
def Qlg{a b:Bs}(h:a.length+b.length<=9223372036854775807):Qbg .add a b=some (.str (a++b)):=by simp only[Qbg];rw[if_pos h]
section
variable{bt:TypeId}{H X:Hp}{b t:Nat}{bs bs':Bs}
end
section
variable{P:Program}
end
end
section
open Go Go.Proofs Go.Lib
open Go.RowKit (Below)
open Go.ChangeShapes Go.RowKit
def Qs5{P:Program}{t:TypeId}(hu:P.underlying t=some .string):∀{n:Nat} {ds:List D} {a:A} (h:Typed P n t ds) (ha:Qd4 P t ds a),∃s:List UInt8,a=YS s/\s.length<=D.bulkC ds/\s.length+1<=D.bulkC ds:=by intro n ds a h ha;obtain⟨x,rfl⟩:=Qf4 hu h;exact⟨x,Qoa (by rw[hu];simp) ha,by simp only[D.bulkC,D.bulk];omega,by simp only[D.bulkC,D.bulk];omega⟩
end
end Go.Zam
namespace Go.Proofs
section
open Go.Shelf
def Tryz.lays137_ren:Go.Shelf.Ren:=⟨λ|137=>180|217=>199|266=>209|n=>n,λ|9=>9|5=>5|3=>3|n=>n,λ|n=>n⟩
def Tryz.lays137:Go.Proofs.Lays.n137 Tryz.prog Tryz.lays137_ren:={
 mixed:=by kernel_rfl
 f137:=Tryz.func180.trans (congrArg some (by kernel_rfl))
 f217:=Tryz.func199.trans (congrArg some (by kernel_rfl))
 f266:=Tryz.func209.trans (congrArg some (by kernel_rfl))
 t3:=Tryz.underlying3
 a3:=Tryz.isAgg3
 z3:=Tryz.sizeOf3
 v3:=Tryz.zeroValue3
 t5:=Tryz.underlying5
 a5:=Tryz.isAgg5
 z5:=Tryz.sizeOf5
 v5:=Tryz.zeroValue5
 t9:=Tryz.underlying9
 a9:=Tryz.isAgg9
 z9:=Tryz.sizeOf9
 v9:=Tryz.zeroValue9}
open Go.RowKit in
theorem Tryz.strings_IndexByte(s:ByteArray)(c:Int)(w:World):
 Calls Tryz.prog 180 #[.string s,.int .u8 c] w λe w'=>e=.returned (.int .i64 (Lib.indexByte s.data.toList c.toNat.toUInt8))/\w'=w:=Any.strings_IndexByte Tryz.lays137 s c w
def Tryz.laysPu14_ren:Go.Shelf.Ren:=⟨λ|14=>161|16=>178|17=>179|19=>193|20=>194|21=>195|22=>196|23=>197|24=>198|25=>206|27=>208|26=>207|28=>214|29=>217|30=>220|31=>221|32=>222|33=>223|35=>85|34=>226|36=>227|37=>228|38=>229|39=>232|40=>233|n=>n,λ|9=>9|3=>3|22=>164|24=>242|25=>243|4=>4|34=>268|5=>5|36=>121|37=>262|0=>0|39=>270|21=>21|44=>276|47=>273|50=>284|48=>282|2=>2|52=>286|55=>288|59=>291|60=>162|20=>20|61=>292|65=>293|66=>294|67=>168|n=>n,λ|0=>2|1=>3|2=>5|3=>6|4=>7|n=>n⟩
def Tryz.laysPu14:Go.Proofs.LaysPu.n14 Tryz.prog Tryz.laysPu14_ren:={
 mixed:=by kernel_rfl
 f14:=Tryz.func161.trans (congrArg some (by kernel_rfl))
 f16:=Tryz.func178.trans (congrArg some (by kernel_rfl))
 f17:=Tryz.func179.trans (congrArg some (by kernel_rfl))
 f19:=Tryz.func193.trans (congrArg some (by kernel_rfl))
 f20:=Tryz.func194.trans (congrArg some (by kernel_rfl))
 f21:=Tryz.func195.trans (congrArg some (by kernel_rfl))
 f22:=Tryz.func196.trans (congrArg some (by kernel_rfl))
 f23:=Tryz.func197.trans (congrArg some (by kernel_rfl))
 f24:=Tryz.func198.trans (congrArg some (by kernel_rfl))
 f25:=Tryz.func206.trans (congrArg some (by kernel_rfl))
 f26:=Tryz.func207.trans (congrArg some (by kernel_rfl))
 f27:=Tryz.func208.trans (congrArg some (by kernel_rfl))
 f28:=Tryz.func214.trans (congrArg some (by kernel_rfl))
 f29:=Tryz.func217.trans (congrArg some (by kernel_rfl))
 f30:=Tryz.func220.trans (congrArg some (by kernel_rfl))
 f31:=Tryz.func221.trans (congrArg some (by kernel_rfl))
 f32:=Tryz.func222.trans (congrArg some (by kernel_rfl))
 f33:=Tryz.func223.trans (congrArg some (by kernel_rfl))
 f34:=Tryz.func226.trans (congrArg some (by kernel_rfl))
 f35:=Tryz.func85.trans (congrArg some (by kernel_rfl))
 f36:=Tryz.func227.trans (congrArg some (by kernel_rfl))
 f37:=Tryz.func228.trans (congrArg some (by kernel_rfl))
 f38:=Tryz.func229.trans (congrArg some (by kernel_rfl))
 f39:=Tryz.func232.trans (congrArg some (by kernel_rfl))
 f40:=Tryz.func233.trans (congrArg some (by kernel_rfl))
 t0:=Tryz.underlying0
 a0:=Tryz.isAgg0
 z0:=Tryz.sizeOf0
 v0:=Tryz.zeroValue0
 i0:=by kernel_rfl
 t2:=Tryz.underlying2
 a2:=Tryz.isAgg2
 z2:=Tryz.sizeOf2
 v2:=Tryz.zeroValue2
 i2:=by kernel_rfl
 t3:=Tryz.underlying3
 a3:=Tryz.isAgg3
 z3:=Tryz.sizeOf3
 v3:=Tryz.zeroValue3
 i3:=by kernel_rfl
 t4:=Tryz.underlying4
 a4:=Tryz.isAgg4
 z4:=Tryz.sizeOf4
 v4:=Tryz.zeroValue4
 i4:=by kernel_rfl
 t5:=Tryz.underlying5
 a5:=Tryz.isAgg5
 z5:=Tryz.sizeOf5
 v5:=Tryz.zeroValue5
 i5:=by kernel_rfl
 t9:=Tryz.underlying9
 a9:=Tryz.isAgg9
 z9:=Tryz.sizeOf9
 v9:=Tryz.zeroValue9
 i9:=by kernel_rfl
 t20:=Tryz.underlying20
 a20:=Tryz.isAgg20
 z20:=Tryz.sizeOf20
 v20:=Tryz.zeroValue20
 i20:=by kernel_rfl
 t21:=Tryz.underlying21
 a21:=Tryz.isAgg21
 z21:=Tryz.sizeOf21
 v21:=Tryz.zeroValue21
 i21:=by kernel_rfl
 t22:=Tryz.underlying164
 a22:=Tryz.isAgg164
 z22:=Tryz.sizeOf164
 v22:=Tryz.zeroValue164
 i22:=by kernel_rfl
 t24:=Tryz.underlying242
 a24:=Tryz.isAgg242
 z24:=Tryz.sizeOf242
 v24:=Tryz.zeroValue242
 i24:=by kernel_rfl
 t25:=Tryz.underlying243
 a25:=Tryz.isAgg243
 z25:=Tryz.sizeOf243
 v25:=Tryz.zeroValue243
 i25:=by kernel_rfl
 t34:=Tryz.underlying268
 a34:=Tryz.isAgg268
 z34:=Tryz.sizeOf268
 v34:=Tryz.zeroValue268
 i34:=by kernel_rfl
 c34:=by kernel_rfl
 t36:=Tryz.underlying121
 a36:=Tryz.isAgg121
 z36:=Tryz.sizeOf121
 v36:=Tryz.zeroValue121
 i36:=by kernel_rfl
 t37:=Tryz.underlying262
 a37:=Tryz.isAgg262
 z37:=Tryz.sizeOf262
 v37:=Tryz.zeroValue262
 i37:=by kernel_rfl
 t39:=Tryz.underlying270
 a39:=Tryz.isAgg270
 z39:=Tryz.sizeOf270
 v39:=Tryz.zeroValue270
 i39:=by kernel_rfl
 t44:=Tryz.underlying276
 a44:=Tryz.isAgg276
 z44:=Tryz.sizeOf276
 v44:=Tryz.zeroValue276
 i44:=by kernel_rfl
 t47:=Tryz.underlying273
 a47:=Tryz.isAgg273
 z47:=Tryz.sizeOf273
 v47:=Tryz.zeroValue273
 i47:=by kernel_rfl
 t48:=Tryz.underlying282
 a48:=Tryz.isAgg282
 z48:=Tryz.sizeOf282
 v48:=Tryz.zeroValue282
 i48:=by kernel_rfl
 t50:=Tryz.underlying284
 a50:=Tryz.isAgg284
 z50:=Tryz.sizeOf284
 v50:=Tryz.zeroValue284
 i50:=by kernel_rfl
 t52:=Tryz.underlying286
 a52:=Tryz.isAgg286
 z52:=Tryz.sizeOf286
 v52:=Tryz.zeroValue286
 i52:=by kernel_rfl
 t55:=Tryz.underlying288
 a55:=Tryz.isAgg288
 z55:=Tryz.sizeOf288
 v55:=Tryz.zeroValue288
 i55:=by kernel_rfl
 t59:=Tryz.underlying291
 a59:=Tryz.isAgg291
 z59:=Tryz.sizeOf291
 v59:=Tryz.zeroValue291
 i59:=by kernel_rfl
 t60:=Tryz.underlying162
 a60:=Tryz.isAgg162
 z60:=Tryz.sizeOf162
 v60:=Tryz.zeroValue162
 i60:=by kernel_rfl
 t61:=Tryz.underlying292
 a61:=Tryz.isAgg292
 z61:=Tryz.sizeOf292
 t65:=Tryz.underlying293
 a65:=Tryz.isAgg293
 z65:=Tryz.sizeOf293
 v65:=Tryz.zeroValue293
 i65:=by kernel_rfl
 t66:=Tryz.underlying294
 a66:=Tryz.isAgg294
 z66:=Tryz.sizeOf294
 v66:=Tryz.zeroValue294
 i66:=by kernel_rfl
 t67:=Tryz.underlying168
 a67:=Tryz.isAgg168
 z67:=Tryz.sizeOf168
 v67:=Tryz.zeroValue168
 i67:=by kernel_rfl
 g0:=by kernel_rfl
 m0:=by kernel_rfl
 g1:=by kernel_rfl
 m1:=by kernel_rfl
 g2:=by kernel_rfl
 m2:=by kernel_rfl
 g3:=by kernel_rfl
 m3:=by kernel_rfl
 g4:=by kernel_rfl
 m4:=by kernel_rfl}
def Tryz.lays99_ren:Go.Shelf.Ren:=⟨λ|99=>164|206=>183|n=>n,λ|9=>9|4=>4|3=>3|n=>n,λ|n=>n⟩
def Tryz.lays99:Go.Proofs.Lays.n99 Tryz.prog Tryz.lays99_ren:={
 mixed:=by kernel_rfl
 f99:=Tryz.func164.trans (congrArg some (by kernel_rfl))
 f206:=Tryz.func183.trans (congrArg some (by kernel_rfl))
 t3:=Tryz.underlying3
 a3:=Tryz.isAgg3
 z3:=Tryz.sizeOf3
 v3:=Tryz.zeroValue3
 t4:=Tryz.underlying4
 a4:=Tryz.isAgg4
 z4:=Tryz.sizeOf4
 v4:=Tryz.zeroValue4
 t9:=Tryz.underlying9
 a9:=Tryz.isAgg9
 z9:=Tryz.sizeOf9
 v9:=Tryz.zeroValue9}
open Go.RowKit Go.Lib in
theorem Tryz.strings_HasPrefix(s p:ByteArray)(w:World):
 Calls Tryz.prog 164 #[.string s,.string p] w λe w'=>e=.returned (.bool (Lib.hasPrefix s.data.toList p.data.toList))/\w'=w:=Any.strings_HasPrefix Tryz.lays99 s p w
def Tryz.lays197_ren:Go.Shelf.Ren:=⟨λ|197=>122|260=>159|n=>n,λ|9=>9|21=>21|3=>3|4=>4|5=>5|105=>210|119=>256|0=>0|46=>121|139=>259|138=>258|n=>n,λ|3=>0|4=>1|n=>n⟩
def Tryz.lays197:Go.Proofs.Lays.n197 Tryz.prog Tryz.lays197_ren:={
 mixed:=by kernel_rfl
 f197:=Tryz.func122.trans (congrArg some (by kernel_rfl))
 f260:=Tryz.func159.trans (congrArg some (by kernel_rfl))
 t0:=Tryz.underlying0
 a0:=Tryz.isAgg0
 z0:=Tryz.sizeOf0
 v0:=Tryz.zeroValue0
 t3:=Tryz.underlying3
 a3:=Tryz.isAgg3
 z3:=Tryz.sizeOf3
 v3:=Tryz.zeroValue3
 t4:=Tryz.underlying4
 a4:=Tryz.isAgg4
 z4:=Tryz.sizeOf4
 v4:=Tryz.zeroValue4
 t5:=Tryz.underlying5
 a5:=Tryz.isAgg5
 z5:=Tryz.sizeOf5
 v5:=Tryz.zeroValue5
 t9:=Tryz.underlying9
 a9:=Tryz.isAgg9
 z9:=Tryz.sizeOf9
 v9:=Tryz.zeroValue9
 t21:=Tryz.underlying21
 a21:=Tryz.isAgg21
 z21:=Tryz.sizeOf21
 v21:=Tryz.zeroValue21
 t46:=Tryz.underlying121
 a46:=Tryz.isAgg121
 z46:=Tryz.sizeOf121
 v46:=Tryz.zeroValue121
 t105:=Tryz.underlying210
 a105:=Tryz.isAgg210
 z105:=Tryz.sizeOf210
 v105:=Tryz.zeroValue210
 t119:=Tryz.underlying256
 a119:=Tryz.isAgg256
 z119:=Tryz.sizeOf256
 t138:=Tryz.underlying258
 a138:=Tryz.isAgg258
 z138:=Tryz.sizeOf258
 v138:=Tryz.zeroValue258
 t139:=Tryz.underlying259
 a139:=Tryz.isAgg259
 z139:=Tryz.sizeOf259
 v139:=Tryz.zeroValue259
 g3:=by kernel_rfl
 g4:=by kernel_rfl}
def Tryz.lays260_ren:Go.Shelf.Ren:=⟨λ|260=>159|n=>n,λ|9=>9|21=>21|3=>3|4=>4|5=>5|119=>256|0=>0|46=>121|139=>259|138=>258|n=>n,λ|3=>0|4=>1|n=>n⟩
def Tryz.lays260:Go.Proofs.Lays.n260 Tryz.prog Tryz.lays260_ren:={
 mixed:=by kernel_rfl
 f260:=Tryz.func159.trans (congrArg some (by kernel_rfl))
 t0:=Tryz.underlying0
 a0:=Tryz.isAgg0
 z0:=Tryz.sizeOf0
 v0:=Tryz.zeroValue0
 t3:=Tryz.underlying3
 a3:=Tryz.isAgg3
 z3:=Tryz.sizeOf3
 v3:=Tryz.zeroValue3
 t4:=Tryz.underlying4
 a4:=Tryz.isAgg4
 z4:=Tryz.sizeOf4
 v4:=Tryz.zeroValue4
 t5:=Tryz.underlying5
 a5:=Tryz.isAgg5
 z5:=Tryz.sizeOf5
 v5:=Tryz.zeroValue5
 t9:=Tryz.underlying9
 a9:=Tryz.isAgg9
 z9:=Tryz.sizeOf9
 v9:=Tryz.zeroValue9
 t21:=Tryz.underlying21
 a21:=Tryz.isAgg21
 z21:=Tryz.sizeOf21
 v21:=Tryz.zeroValue21
 t46:=Tryz.underlying121
 a46:=Tryz.isAgg121
 z46:=Tryz.sizeOf121
 v46:=Tryz.zeroValue121
 t119:=Tryz.underlying256
 a119:=Tryz.isAgg256
 z119:=Tryz.sizeOf256
 t138:=Tryz.underlying258
 a138:=Tryz.isAgg258
 z138:=Tryz.sizeOf258
 v138:=Tryz.zeroValue258
 t139:=Tryz.underlying259
 a139:=Tryz.isAgg259
 z139:=Tryz.sizeOf259
 v139:=Tryz.zeroValue259
 g3:=by kernel_rfl
 g4:=by kernel_rfl}
open Go.RowKit Go.Lib in
theorem Tryz.utf8_DecodeRuneInString(s:ByteArray)(w:World)(hT:Lib.Utf8Tabs 0 1 w):
 Calls Tryz.prog 122 #[.string s] w λe w'=>e=.returned (.tuple #[.int .i32 (Lib.decodeGo s).1,.int .i64 (Lib.decodeGo s).2])/\Below w.heap.size w w':=Any.utf8_DecodeRuneInString Tryz.lays197 s w hT
end
end Go.Proofs
namespace Go.Proofs.YtppagloobdflbabGreatDoor
section
open Go Go.Zam
open Go.ChangeShapes Go.WideShapes Go.ChangeAt Go.RowKit
def isBulk(H:Type):IsBulk (X:=H) Rows.uptoBulk Rows.uptoBulkAll where
 str:=λb=>by simp[Rows.uptoBulk]
 bool:=λb=>by simp[Rows.uptoBulk]
 int:=λk n=>by simp[Rows.uptoBulk]
 nil:=by simp[Rows.uptoBulk]
 slice:=λe s=>by simp only[Rows.uptoBulk];omega
 agg:=λp=>by simp only[Rows.uptoBulk];omega
 cons:=λd r=>by simp only[Rows.uptoBulkAll];omega
def own:ownKnob Tryz.prog.godebug=none:=by kernel_rfl
def laidOut:laidOutB Tryz.prog=true:=by kernel_rfl
def Qts:DataW Unit->Value
 |.lit (.int k n)=>.int k n
 |.lit (.string s)=>.string ⟨s.toArray⟩
 |_=>.tuple #[]
def Qxg:DataW Unit->List Value
 |.agg l=>l.map Qts
 |x=>[Qts x]
def Qe2:DataW Unit->Array Value
 |.agg l=>(l.flatMap Qxg).toArray
 |_=>#[]
def put(g:Nat)(cs:Array Value)(h:Array Obj):Array Obj:=h.modify g λ
 |.cells _ t frozen=>.cells cs t frozen
 |o=>o
noncomputable def laidWorld(os:Os):World:=
 let w0:=World.holding Tryz.prog os ⟨#[.cells #[.string ⟨#[118,97,108,117,101,32,111,117,116,32,111,102,32,114,97,110,103,101]⟩] 284,.cells #[.string ⟨#[105,110,118,97,108,105,100,32,115,121,110,116,97,120]⟩] 284],#[],[]⟩;let N:=(World.settled Tryz.prog os).heap.size
 {w0 with heap:=put 3 #[.iface 282 (.pointer (some ⟨N,0,none⟩))] (put 2 #[.iface 282 (.pointer (some ⟨N+1,0,none⟩))] (put 0 (Qe2 Rows.laid_unicode_utf8_first) (put 1 (Qe2 Rows.laid_unicode_utf8_acceptRanges) (put 5 (Qe2 Rows.laid_internal_strconv_uint64pow10) (put 7 (Qe2 Rows.laid_math_bits_deBruijn64tab) (put 6 (Qe2 Rows.laid_math_bits_deBruijn32tab) w0.heap))))))}
def star: "*"++ "errors.errorString"= "*errors.errorString":=by decide
def Qwl(u:TypeId) (h:Tryz.prog.typeName? 3 u=some "*errors.errorString"):u=282:=typeName_ptr_named (nm:= "errors.errorString") (by rw[star];kernel_rfl) (by kernel_rfl) (by decide) u (by rw[star];exact h)
set_option maxRecDepth 100000 in
theorem laidOb{W:World}(h:laidMetH Tryz.prog Rows.indexWordsUptoRow.laid W):∃H0,Qpm W H0/\Qcm 0 1 2 3 H0:=by
 have h':laidMet Tryz.prog Rows.indexWordsUptoRow.laid W:=by rw[MakeChecks.laidMetH_plain _ _ _ (by kernel_rfl)]at h;exact h
 have e1:Rows.laid_unicode_utf8_first=Lib.firstData:=by kernel_rfl
 have e2:Rows.laid_unicode_utf8_acceptRanges=Lib.acceptData:=by kernel_rfl
 have hU:Lib.Utf8Tabs 0 1 W:=
  utf8Tabs_of_reads (ρ:=Tryz.lays260_ren) {Tryz.lays260 with} ⟨by kernel_rfl,by kernel_rfl,by kernel_rfl,by kernel_rfl,by kernel_rfl,by kernel_rfl,by kernel_rfl⟩
   (e1▸Lib.laidMet.reads h' (.tail _ (.tail _ (.tail _ (.tail _ (.tail _ (.tail _ (.head _)))))))) (e2▸Lib.laidMet.reads h' (.tail _ (.tail _ (.tail _ (.head _)))))
 obtain⟨a1,t1,hv1,-⟩:=laid_sentinel (g:=3) h'.tail.tail.tail.tail (by kernel_rfl) (by kernel_rfl) Tryz.underlying242 Qwl Tryz.underlying282 Tryz.underlying284 rfl rfl Tryz.underlying9 (by kernel_rfl) (by kernel_rfl);obtain⟨a0,t0,hv0,-⟩:=laid_sentinel (g:=2) h'.tail.tail.tail.tail.tail (by kernel_rfl) (by kernel_rfl) Tryz.underlying242 Qwl Tryz.underlying282 Tryz.underlying284 rfl rfl Tryz.underlying9 (by kernel_rfl) (by kernel_rfl);obtain⟨H1,hL1,hG1⟩:=Qvc hU ⟨_,_,by rw[World.var?_cell (show Tryz.prog.globalNamed "strconv.ErrSyntax"=some 2 by kernel_rfl) hv0 0];rfl⟩ ⟨_,_,by rw[World.var?_cell (show Tryz.prog.globalNamed "strconv.ErrRange"=some 3 by kernel_rfl) hv1 0];rfl⟩;exact⟨H1,hL1,hG1⟩
def met(os:Os)(args:Array Value):laidMet Tryz.prog Rows.indexWordsUptoRow.laid ((laidWorld os).forCall (λ_ _=>0) ⟨#[],args,[]⟩).memory:=laidMet_of_run' 8 (by kernel_rfl) (by kernel_rfl)
def arg_str:∀{n:Nat} {ds:List D} {a:A} (h:Typed Tryz.prog n 9 ds) (ha:Qd4 Tryz.prog 9 ds a),∃s:List UInt8,a=YS s/\s.length<=D.bulkC ds/\s.length+1<=D.bulkC ds:=@Qs5 Tryz.prog 9 Tryz.underlying9
end
end Go.Proofs.YtppagloobdflbabGreatDoor
namespace Go.Zam
variable{P:Program}
section
open Go.Proofs
def Qfn(read of_ tM tU:Nat):IFn:=by
 have h:=Ix.J [4] Tryz.f16 [(29,read),(30,of_)] [(66,tM),(76,tU)];conv at h=>arg 1;reduce
 exact h.p
def Qdq(rread risName tR:Nat):IFn:=by
 have h:=Ix.J [7,4] Tryz.f17 [(31,rread),(32,risName)] [(44,tR)];conv at h=>arg 1;reduce
 exact h.p
def Qfl(bins cmpUS tU:Nat):IFn:=by
 have h:=Ix.J [] Tryz.f20 [(36,bins),(37,cmpUS)] [(76,tU)];conv at h=>arg 1;reduce
 exact h.p
def Qk6(unit item tU tBd tIm:Nat):IFn:=by
 have h:=Ix.J [] Tryz.f54 [(20,unit),(74,item)] [(76,tU),(82,tBd),(118,tIm)];conv at h=>arg 1;reduce
 exact h.p
def Qmj(pof sof tM tU:Nat):IFn:=by
 have h:=Ix.J [] Tryz.f29 [(43,pof),(44,sof)] [(66,tM),(76,tU)];conv at h=>arg 1;reduce
 exact h.p
def Qjl(rof sofR tM tR:Nat):IFn:=by
 have h:=Ix.J [] Tryz.f29 [(43,rof),(44,sofR)] [(66,tM),(76,tR)];conv at h=>arg 1;reduce
 exact h.p
def Qfm(cloneU srtU isName cmpU tP tU:Nat):IFn:=by
 have h:=Ix.J [] Tryz.f30 [(45,cloneU),(46,srtU),(48,isName),(47,cmpU)] [(98,tP),(76,tU)];conv at h=>arg 1;reduce
 exact h.p
def Qgf(tU tS:Nat):IFn:=by
 have h:=Ix.J [3] Tryz.f26 [] [(76,tU),(9,tS)];conv at h=>arg 1;reduce
 exact h.p
def Qh9:IFn:=by
 have h:=Ix.J [] Tryz.f36 [] [];conv at h=>arg 1;reduce
 exact h.p
def Qdr(cmpS tU:Nat):IFn:=by
 have h:=Ix.J [] Tryz.f37 [(38,cmpS)] [(76,tU)];conv at h=>arg 1;reduce
 exact h.p
def Qjm:IFn:=by
 have h:=Ix.J [] Tryz.f7 [] [];conv at h=>arg 1;reduce
 exact h.p
def Qh8(cmpS tU:Nat):IFn:=by
 have h:=Ix.J [] Tryz.f47 [(38,cmpS)] [(76,tU)];conv at h=>arg 1;reduce
 exact h.p
end
def HR.vecArr{κ:K}{H:Hp}{w:World}(hr:HR κ H w){i k sz e:Nat}{rows:List (List D)}(hi:H[i]?=some (.vec sz e k rows))(hne:rows≠[]):
 ∃κs,κ.le κs/\HR κs (H.set i .dead++[.arr sz (rows.map (List.map .d))]) w/\(∀v,VR κ v (.vsl i k rows.length)->VR κs v (.msl H.length 0 rows.length))/\∀m,m≠i->m≠H.length->κs.β m=κ.β m:=by
 have hil:i<H.length:=(Q11.1 hi).1;rcases hr.ob i _ hi with⟨-,-,h0⟩|⟨b,c,cur,hβ,-,hheap,hle0,hsz,hcells⟩
 .exact absurd h0 hne
 have hpos:0<rows.length:=Q3g.2 hne;have hbx:=hr.ex i b (by rw[hβ];rfl);have hn:κ.β H.length=.none:=hr.dom _ (Q14 _);let κs:K:={κ with β:=upd (upd κ.β i .deadT) H.length (.arr b sz (some (e,cur.size)))};have hsβ:∀m,m≠i->m≠H.length->κs.β m=κ.β m:=λm h1 h2=>by show upd (upd κ.β i _) H.length _ m=_;rw[Qu _ _ h2,Qu _ _ h1]
 have hsi:κs.β i=.deadT:=by show upd (upd κ.β i _) H.length _ i=_;rw[Qu _ _ (by omega),Qk]
 have hsn:κs.β H.length=.arr b sz (some (e,cur.size)):=Qk _ _ _;have hks:κ.le κs:=⟨rfl,λ_ _ _ h=>h,λm=>by
  by_cases h1:m=i
  .subst h1;rw[hsi,hβ];exact .inr (.inl rfl)
  .by_cases h2:m=H.length
   .subst h2;rw[hn];trivial
   .rw[hsβ m h1 h2];exact Bind.le_refl _⟩
 have hblk:∀m b',(κs.β m).block=some b'->(m=H.length/\b'=b)\/(m≠H.length/\m≠i/\(κ.β m).block=some b'):=λm b' hm=>by
  by_cases h2:m=H.length
  .subst h2;rw[hsn]at hm;cases hm;exact .inl ⟨rfl,rfl⟩
  .by_cases h1:m=i
   .subst h1;rw[hsi]at hm;cases hm
   .rw[hsβ m h1 h2]at hm;exact .inr ⟨h2,h1,hm⟩
 refine⟨κs,hks,⟨hr.below,hr.st,λm x hx=>?_,λm hm=>?_,λm b' hb'=>?_,λm b' o ho=>?_,λm q b' h1 h2=>?_,λm x hx=>?_⟩,λv hv=>?_,hsβ⟩
 .by_cases h2:m=H.length
  .subst h2;rw[show H.length=(H.set i Ob.dead).length by simp,Vv]at hx;cases hx
   refine⟨b,_,hsn,λty n he=>by cases he;exact⟨cur,hheap,rfl⟩,λq r hq=>?_⟩;simp only[Q2d,Q13]at hq;obtain⟨r0,hr0,rfl⟩:=hq;refine⟨by simpa using(hcells q r0 hr0).1,λy a ha=>?_⟩;simp only[Q2d,Q13]at ha;obtain⟨x0,hx0,rfl⟩:=ha;obtain⟨u,u1,u2⟩:=(hcells q r0 hr0).2 y x0 hx0;exact⟨u,by rw[Zs hheap];exact u1,by simp[World.frozen?,hheap],.d u2⟩
  .have hm:m<(H.set i Ob.dead).length:=by have:=(Q11.1 hx).1;simp at this⊢;omega
   rw[Q19 hm]at hx;by_cases h1:i=m
   .subst h1;rw[Q17 hil]at hx;cases hx;trivial
   .rw[Q15 h1]at hx;exact(hr.ob m x hx).mono hks (hsβ m (Ne.symm h1) h2) λ_ _=>rfl
 .have:H.length+1<=m:=by simpa using hm
  rw[hsβ m (by omega) (by omega)];exact hr.dom m (by omega)
 .rcases hblk m b' hb' with⟨-,rfl⟩|⟨-,-,h3⟩
  .exact hbx
  .exact hr.ex m b' h3
 .rcases hblk m b' (Bind.block_of_owns ho)with⟨rfl,rfl⟩|⟨h1,h2,h3⟩
  .exact hr.exσ i b' o (by rw[hβ];rfl)
  .rw[hsβ m h2 h1]at ho;exact hr.exσ m b' o ho
 .rcases hblk m b' h1 with⟨rfl,rfl⟩|⟨a1,a2,a3⟩
  .rcases hblk q b' h2 with⟨rfl,-⟩|⟨c1,c2,c3⟩
   .rfl
   .exact absurd (hr.exd q i b' c3 (by rw[hβ];rfl)) c2
  .rcases hblk q b' h2 with⟨rfl,rfl⟩|⟨c1,c2,c3⟩
   .exact absurd (hr.exd m i b' a3 (by rw[hβ];rfl)) a2
   .exact hr.exd m q b' a3 c3
 .by_cases h2:m=H.length
  .subst h2;rw[show H.length=(H.set i Ob.dead).length by simp,Vv]at hx;cases hx
   simp[Ob.flat,A.flat]
  .have hm:m<(H.set i Ob.dead).length:=by have:=(Q11.1 hx).1;simp at this⊢;omega
   rw[Q19 hm]at hx;by_cases h1:i=m
   .subst h1;rw[Q17 hil]at hx;cases hx;rfl
   .rw[Q15 h1]at hx;exact hr.fl m x hx
 .cases hv with
  |vsl _ _ _ ad cap hlc hf=>
  rw[hβ]at hf;have:=(hf.2 rfl).2;cases this;exact .msl _ _ _ b sz 0 c (.inl ⟨_,hsn⟩) hlc (λ_=>by simp) (λh0=>by omega)
def HR.recell{κ:K}{H:Hp}{w:World}(h:HR κ H w){j:Nat}{ty:TypeId}{cs cs':List A}(hj:H[j]?=some (.box ty cs))(hl:cs'.length=cs.length)(hfl:cs'.all A.flat=true)(hv:∀(b q:Nat) (a':A) (v:Value),κ.β j=.blk b->cs'[q]?=some a'->w.cell? ⟨b,q,none⟩=some v->VR κ v a'):HR κ (H.set j (.box ty cs')) w:=by
 have hjl:j<H.length:=(Q11.1 hj).1;refine⟨h.below,h.st,λm x hx=>?_,λm hm=>h.dom m (by simpa using hm),h.ex,h.exσ,h.exd,λm x hx=>?_⟩
 .by_cases hm:j=m
  .subst hm;rw[Q17 hjl]at hx;cases hx
   obtain⟨b,h1,h2,h3⟩:=h.ob j _ hj;refine⟨b,h1,by rw[h2,hl],λq a ha=>?_⟩;have hq:q<cs.length:=by rw[<-hl];exact(Q11.1 ha).1
   obtain⟨v,v1,v2,-⟩:=h3 q cs[q] (Q12 hq);exact⟨v,v1,v2,hv b q a v h1 ha v1⟩
  .rw[Q15 hm]at hx;exact h.ob m x hx
 .by_cases hm:j=m
  .subst hm;rw[Q17 hjl]at hx;cases hx;exact hfl
  .rw[Q15 hm]at hx;exact h.fl m x hx
def Qc.vecArr{P:Program}{f:FuncId}{H:Hp}{i j q k sz e:Nat}{rows:List (List D)}{ty:TypeId}{cs args:List A}{Q:A->Hp->Prop}(hi:H[i]?=some (.vec sz e k rows))(hne:rows≠[])(hj:H[j]?=some (.box ty cs))(hq:cs[q]?=some (.vsl i k rows.length))(h:Qc P f (.msl H.length 0 rows.length::args) ((H.set i .dead).set j (.box ty (cs.set q (.msl H.length 0 rows.length)))++[.arr sz (rows.map (List.map .d))]) Q):Qc P f (.vsl i k rows.length::args) H Q:=by
 intro κ w vs hr hl hv;have hij:i≠j:=λe=>by subst e;rw[hi]at hj;cases hj
 have hjl:j<H.length:=(Q11.1 hj).1;obtain⟨κs,h1,h2,h3,h4⟩:=hr.vecArr hi hne;have hj2:(H.set i .dead++[.arr sz (rows.map (List.map .d))])[j]?=some (.box ty cs):=by rw[Q19 (by simpa using hjl),Q15 hij];exact hj
 have hr2:=h2.recell (cs':=cs.set q (.msl H.length 0 rows.length)) hj2 (by simp) (by
  have:=hr.fl j _ hj;simp only[Ob.flat,Q2n]at this⊢;intro x hx;rcases Q3z hx with h5|h5
  .exact this x h5
  .subst h5;rfl) (λb p a' v hb ha hc=>by
  obtain⟨b',b1,-,b2⟩:=hr.ob j _ hj;have hbb:b'=b:=by have:=h4 j (Ne.symm hij) (by omega);rw[this,b1]at hb;cases hb;rfl
  subst hbb;by_cases hpq:q=p
  .subst hpq;rw[Q17 (Q11.1 hq).1]at ha;cases ha
   obtain⟨u,u1,-,u2⟩:=b2 q _ hq;rw[hc]at u1;cases u1;exact h3 v u2
  .rw[Q15 hpq]at ha;obtain⟨u,u1,-,u2⟩:=b2 p _ ha;rw[hc]at u1;cases u1;exact u2.mono h1)
 rw[Q18 _ _ (by simpa using hjl)]at hr2;refine(h κs w vs hr2 (by simpa using hl) λm v a hm ha=>?_).mono ?_
 .cases m with
  |zero=>simp at ha;subst ha;exact h3 v (hv 0 v _ hm rfl)
  |succ m=>exact(hv (m+1) v a hm (by simpa using ha)).mono h1
 .rintro ev w' ⟨v,κ',x,H',e1,e2,e3,e4,e5⟩;exact⟨v,κ',x,H',e1,h1.trans e2,e3,e4,e5⟩
def HR.vecNil{κ:K}{H:Hp}{w:World}(hr:HR κ H w){i sz e:Nat}(hi:H[i]?=some (.vec sz e 0 [])){v:Value}(hv:VR κ v (.vsl i 0 0)):VR κ v (YL true sz []):=by
 rcases hr.ob i _ hi with⟨hβ,-,-⟩|⟨b,c,cur,hβ,hk,-⟩
 .cases hv with
  |vsl _ _ _ ad cap hlc hf=>
  rw[hβ]at hf;obtain⟨-,-,hf⟩:=hf;rw[hf];exact .d (.nilsl sz)
 .exact absurd rfl (hk rfl)
def Qc.vecNil{P:Program}{f:FuncId}{H:Hp}{i sz e:Nat}{args:List A}{Q:A->Hp->Prop}(hi:H[i]?=some (.vec sz e 0 []))(h:Qc P f (YL true sz []::args) H Q):Qc P f (.vsl i 0 0::args) H Q:=by
 intro κ w vs hr hl hv;refine h κ w vs hr (by simpa using hl) λm v a hm ha=>?_;cases m with
 |zero=>simp at ha;subst ha;exact hr.vecNil hi (hv 0 v _ hm rfl)
 |succ m=>exact hv (m+1) v a hm (by simpa using ha)
def Qkz{sz t:Nat}{rows:List (List D)}:Nrm (.osl true sz rows t) (YL rows.isEmpty sz rows):=λκ v h=>by
 cases h with
 |osl hd ht=>exact .d (hd.isE λ_=>rfl)
def vr3{κ:K}{v:Value}{x y z:A}(h:VR κ v (.agg [x,y,z])):∃a b c,v=.agg #[a,b,c]/\VR κ a x/\VR κ b y/\VR κ c z:=by
 cases h with
 |agg vs _ hl h=>
  match vs,hl with
  |[a,b,c],_=>exact⟨a,b,c,rfl,h 0 a x rfl rfl,h 1 b y rfl rfl,h 2 c z rfl rfl⟩
def Qv3{κ:K}{a b c:Value}{x y z:A}(h1:VR κ a x)(h2:VR κ b y)(h3:VR κ c z):VR κ (.agg #[a,b,c]) (.agg [x,y,z]):=by
 refine .agg [a,b,c] _ rfl λi v u hv hu=>?_;match i with
 |0=>simp at hv hu;subst hv;subst hu;exact h1
 |1=>simp at hv hu;subst hv;subst hu;exact h2
 |2=>simp at hv hu;subst hv;subst hu;exact h3
 |i+3=>simp at hv
def Qc.freeze3{P:Program}{f:FuncId}{args:List A}{H:Hp}{k sz:Nat}{rows:List (List D)}{x y:A}{x' y':D}(hx:Nrm x (.d x'))(hy:Nrm y (.d y'))(h:Qc P f args H (λr H'=>∃X:Hp,X[k]?=some (.arr sz (rows.map (List.map .d)))/\r=.agg [x,y,.msl (H.length+k) 0 rows.length]/\H'=H++X)):Qc P f args H (λr H'=>r=.agg [.d x',.d y',YL false sz rows]/\H'=H):=by intro κ w vs hr hl hv;refine(h κ w vs hr hl hv).mono ?_;rintro e w' ⟨v,κ',r,H',h1,h2,h3,h4,X,hX,rfl,rfl⟩;obtain⟨a,b,c,rfl,a1,a2,a3⟩:=vr3 h4;obtain⟨κ2,k1,k2,k3⟩:=h3.freezeArr (i:=H.length+k) (sz:=sz) (rows:=rows) (by rw[Qs];exact hX) a3;rw[Zd]at k2;exact⟨_,κ2.cut H.length,.agg [.d x',.d y',YL false sz rows],Hp.cut H.length (H++X.set k .dead),h1,K.le_cut (h2.trans k1) hr.dom,k2.cut _ (by simp),VR.clr H.length (Qv3 ((hx _ _ a1).mono k1) ((hy _ _ a2).mono k1) k3),rfl,Qd hr.closed _⟩
def Qc.freeze3n{P:Program}{f:FuncId}{args:List A}{H:Hp}{k sz e:Nat}{x y:A}{x' y':D}(hx:Nrm x (.d x'))(hy:Nrm y (.d y'))(h:Qc P f args H (λr H'=>∃X:Hp,X[k]?=some (.vec sz e 0 [])/\r=.agg [x,y,.vsl (H.length+k) 0 0]/\H'=H++X)):Qc P f args H (λr H'=>r=.agg [.d x',.d y',YL true sz []]/\H'=H):=by intro κ w vs hr hl hv;refine(h κ w vs hr hl hv).mono ?_;rintro ev w' ⟨v,κ',r,H',h1,h2,h3,h4,X,hX,rfl,rfl⟩;obtain⟨a,b,c,rfl,a1,a2,a3⟩:=vr3 h4;have k3:=h3.vecNil (i:=H.length+k) (by rw[Qs];exact hX) a3;exact⟨_,κ'.cut H.length,.agg [.d x',.d y',YL true sz []],Hp.cut H.length (H++X),h1,K.le_cut h2 hr.dom,h3.cut _ (by simp),VR.clr H.length (Qv3 (hx _ _ a1) (hy _ _ a2) k3),rfl,Qd hr.closed _⟩
def HR.vecArr2{κ:K}{H:Hp}{w:World}(hr:HR κ H w){i k sz e:Nat}{rows:List (List D)}(hi:H[i]?=some (.vec sz e k rows))(hne:rows≠[]):
 ∃κs,κ.le κs/\HR κs (H.set i .dead++[.arr sz (rows.map (List.map .d))]) w/\(∀v,VR κ v (.vsl i k rows.length)->VR κs v (.msl H.length 0 rows.length))/\(∀m,m≠i->m≠H.length->κs.β m=κ.β m)/\∃b c n,κ.β i=.vec b c rows.length k sz/\κs.β H.length=.arr b sz (some (e,n))/\(k=0->rows≠[])/\rows.length<=c/\c*sz<=n:=by
 have hil:i<H.length:=(Q11.1 hi).1;rcases hr.ob i _ hi with⟨-,-,h0⟩|⟨b,c,cur,hβ,hk0,hheap,hle0,hsz,hcells⟩
 .exact absurd h0 hne
 have hpos:0<rows.length:=Q3g.2 hne;have hbx:=hr.ex i b (by rw[hβ];rfl);have hn:κ.β H.length=.none:=hr.dom _ (Q14 _);let κs:K:={κ with β:=upd (upd κ.β i .deadT) H.length (.arr b sz (some (e,cur.size)))};have hsβ:∀m,m≠i->m≠H.length->κs.β m=κ.β m:=λm h1 h2=>by show upd (upd κ.β i _) H.length _ m=_;rw[Qu _ _ h2,Qu _ _ h1]
 have hsi:κs.β i=.deadT:=by show upd (upd κ.β i _) H.length _ i=_;rw[Qu _ _ (by omega),Qk]
 have hsn:κs.β H.length=.arr b sz (some (e,cur.size)):=Qk _ _ _;have hks:κ.le κs:=⟨rfl,λ_ _ _ h=>h,λm=>by
  by_cases h1:m=i
  .subst h1;rw[hsi,hβ];exact .inr (.inl rfl)
  .by_cases h2:m=H.length
   .subst h2;rw[hn];trivial
   .rw[hsβ m h1 h2];exact Bind.le_refl _⟩
 have hblk:∀m b',(κs.β m).block=some b'->(m=H.length/\b'=b)\/(m≠H.length/\m≠i/\(κ.β m).block=some b'):=λm b' hm=>by
  by_cases h2:m=H.length
  .subst h2;rw[hsn]at hm;cases hm;exact .inl ⟨rfl,rfl⟩
  .by_cases h1:m=i
   .subst h1;rw[hsi]at hm;cases hm
   .rw[hsβ m h1 h2]at hm;exact .inr ⟨h2,h1,hm⟩
 refine⟨κs,hks,⟨hr.below,hr.st,λm x hx=>?_,λm hm=>?_,λm b' hb'=>?_,λm b' o ho=>?_,λm q b' h1 h2=>?_,λm x hx=>?_⟩,λv hv=>?_,hsβ,b,c,cur.size,hβ,hsn,hk0,hle0,hsz⟩
 .by_cases h2:m=H.length
  .subst h2;rw[show H.length=(H.set i Ob.dead).length by simp,Vv]at hx;cases hx
   refine⟨b,_,hsn,λty n he=>by cases he;exact⟨cur,hheap,rfl⟩,λq r hq=>?_⟩;simp only[Q2d,Q13]at hq;obtain⟨r0,hr0,rfl⟩:=hq;refine⟨by simpa using(hcells q r0 hr0).1,λy a ha=>?_⟩;simp only[Q2d,Q13]at ha;obtain⟨x0,hx0,rfl⟩:=ha;obtain⟨u,u1,u2⟩:=(hcells q r0 hr0).2 y x0 hx0;exact⟨u,by rw[Zs hheap];exact u1,by simp[World.frozen?,hheap],.d u2⟩
  .have hm:m<(H.set i Ob.dead).length:=by have:=(Q11.1 hx).1;simp at this⊢;omega
   rw[Q19 hm]at hx;by_cases h1:i=m
   .subst h1;rw[Q17 hil]at hx;cases hx;trivial
   .rw[Q15 h1]at hx;exact(hr.ob m x hx).mono hks (hsβ m (Ne.symm h1) h2) λ_ _=>rfl
 .have:H.length+1<=m:=by simpa using hm
  rw[hsβ m (by omega) (by omega)];exact hr.dom m (by omega)
 .rcases hblk m b' hb' with⟨-,rfl⟩|⟨-,-,h3⟩
  .exact hbx
  .exact hr.ex m b' h3
 .rcases hblk m b' (Bind.block_of_owns ho)with⟨rfl,rfl⟩|⟨h1,h2,h3⟩
  .exact hr.exσ i b' o (by rw[hβ];rfl)
  .rw[hsβ m h2 h1]at ho;exact hr.exσ m b' o ho
 .rcases hblk m b' h1 with⟨rfl,rfl⟩|⟨a1,a2,a3⟩
  .rcases hblk q b' h2 with⟨rfl,-⟩|⟨c1,c2,c3⟩
   .rfl
   .exact absurd (hr.exd q i b' c3 (by rw[hβ];rfl)) c2
  .rcases hblk q b' h2 with⟨rfl,rfl⟩|⟨c1,c2,c3⟩
   .exact absurd (hr.exd m i b' a3 (by rw[hβ];rfl)) a2
   .exact hr.exd m q b' a3 c3
 .by_cases h2:m=H.length
  .subst h2;rw[show H.length=(H.set i Ob.dead).length by simp,Vv]at hx;cases hx
   simp[Ob.flat,A.flat]
  .have hm:m<(H.set i Ob.dead).length:=by have:=(Q11.1 hx).1;simp at this⊢;omega
   rw[Q19 hm]at hx;by_cases h1:i=m
   .subst h1;rw[Q17 hil]at hx;cases hx;rfl
   .rw[Q15 h1]at hx;exact hr.fl m x hx
 .cases hv with
  |vsl _ _ _ ad cap hlc hf=>
  rw[hβ]at hf;have:=(hf.2 rfl).2;cases this;exact .msl _ _ _ b sz 0 c (.inl ⟨_,hsn⟩) hlc (λ_=>by simp) (λh0=>by omega)
def Qc.vecCall{P:Program}{f:FuncId}{H1:Hp}{k sz e:Nat}{rows rows':List (List D)}{args:List A}(O:H1.Closed)(hne:rows≠[])(hl:rows'.length=rows.length)(h:Qc P f (.msl (H1.length+1) 0 rows.length::args) (H1++[.dead,.arr sz (rows.map (List.map .d))]) (λr H'=>r=.tup []/\H'=H1++[.dead,.arr sz (rows'.map (List.map .d))])):
 Qc P f (.vsl H1.length k rows.length::args) (H1++[.vec sz e k rows]) (λr H'=>r=.tup []/\H'=H1++[.vec sz e k rows']):=by
 intro κ w vs hr hlen hv;have hi:(H1++[Ob.vec sz e k rows])[H1.length]?=some (.vec sz e k rows):=by simp
 obtain⟨κs,h1,h2,h3,h4,b,c,n,p1,p2,p3,p4,p5⟩:=hr.vecArr2 hi hne;have hH:(H1++[Ob.vec sz e k rows]).set H1.length .dead++[.arr sz (rows.map (List.map .d))]=H1++[.dead,.arr sz (rows.map (List.map .d))]:=by rw[Q3j _ _ (Q14 _)];simp
 have hL:(H1++[Ob.vec sz e k rows]).length=H1.length+1:=by simp
 rw[hH]at h2;rw[hL]at h3 h4 p2;refine(h κs w vs h2 (by simpa using hlen) λm v a hm ha=>?_).mono ?_
 .cases m with
  |zero=>simp at ha;subst ha;exact h3 v (hv 0 v _ hm rfl)
  |succ m=>exact(hv (m+1) v a hm (by simpa using ha)).mono h1
 .rintro ev w' ⟨v,κ',r,H',q1,q2,q3,q4,rfl,rfl⟩;have a1:(H1++[Ob.dead,.arr sz (rows'.map (List.map A.d))])[H1.length+1]?=some (.arr sz (rows'.map (List.map .d))):=by rw[Qs];rfl
  obtain⟨b',s',b1,b2,b3⟩:=q3.ob _ _ a1;have hle:=q2.β (H1.length+1);rw[p2,b1]at hle;have hbs:b'=b/\s'=some (e,n):=by simp only[Bind.le]at hle;rcases hle with hle|hle<;>cases hle;exact⟨rfl,rfl⟩
  obtain⟨rfl,rfl⟩:=hbs;obtain⟨cur,c1,c2⟩:=b2 e n rfl;have hcut:=q3.cut H1.length (by simp);have hHc:Hp.cut H1.length (H1++[Ob.dead,.arr sz (rows'.map (List.map A.d))])=H1:=Qd O _;rw[hHc]at hcut;let κc:K:=κ'.cut H1.length;let κ2:K:={κc with β:=upd κc.β H1.length (.vec b' c rows'.length k sz)};have hcn:κc.β H1.length=.none:=hcut.dom _ (Q14 _);have hle2:κc.le κ2:=K.le_upd hcn _;have hκ2:κ.le κ2:=by
   refine⟨q2.w0.trans h1.w0,λb o v hb=>q2.σ _ _ _ (h1.σ _ _ _ hb),λm=>?_⟩;by_cases hm:m=H1.length
   .subst hm;show(κ.β H1.length).le (upd κc.β H1.length _ H1.length);rw[Qk,p1,hl];exact Bind.le_refl _
   .show(κ.β m).le (upd κc.β H1.length _ m);rw[Qu _ _ hm];by_cases hlt:m<H1.length
    .have:=Bind.le_trans (h1.β m) (q2.β m);show(κ.β m).le (if m<H1.length then κ'.β m else .none);rw[if_pos hlt];exact this
    .have hn:=hr.dom m (by simp;omega);rw[hn];trivial
  have hcne:∀m,(κc.β m).block≠some b':=λm hm=>by
   by_cases hlt:m<H1.length
   .have e1:κc.β m=κ'.β m:=if_pos hlt;rw[e1]at hm;have:=q3.exd m (H1.length+1) b' hm (by rw[b1];rfl);omega
   .have e1:κc.β m=.none:=if_neg hlt;rw[e1]at hm;cases hm
  refine⟨v,κ2,.tup [],_,q1,hκ2,⟨hcut.below,hcut.st,λm x hx=>?_,λm hm=>?_,λm b hb=>?_,λm b o ho=>?_,λm q b hm hq=>?_,λm x hx=>?_⟩,?_,rfl,rfl⟩
  .by_cases hlt:m<H1.length
   .rw[Q19 hlt]at hx;exact(hcut.ob m x hx).mono hle2 (Qu _ _ (by omega)) λ_ _=>rfl
   .have:m=H1.length:=by have:=(Q11.1 hx).1;simp at this;omega
    subst this;simp at hx;subst hx;refine .inr ⟨b',c,cur,Qk _ _ _,λh0 h00=>p3 h0 (by
     have:rows'.length=0:=by rw[h00];rfl
     exact Q2b (by omega)),c1,by omega,by omega,λj r hj=>?_⟩
    have hj':(rows'.map (List.map A.d))[j]?=some (r.map A.d):=by rw[Q2d,hj];rfl
    obtain⟨d1,d2⟩:=b3 j _ hj';refine⟨by simpa using d1,λq x hx=>?_⟩;obtain⟨u,u1,-,u2⟩:=d2 q (.d x) (by rw[Q2d,hx];rfl);rw[Zs c1]at u1;cases u2 with
    |d u2=>exact⟨u,u1,u2⟩
  .have h0:H1.length+1<=m:=by simpa using hm
   show upd κc.β H1.length _ m=_;rw[Qu _ _ (by omega)];exact hcut.dom m (by omega)
  .by_cases hm:m=H1.length
   .subst hm;have:some b'=some b:=by rw[<-hb];show _=(upd κc.β H1.length _ H1.length).block;rw[Qk];rfl
    cases this
    exact q3.ex (H1.length+1) b' (by rw[b1];rfl)
   .have hb':(κc.β m).block=some b:=by rw[<-hb];show _=(upd κc.β H1.length _ m).block;rw[Qu _ _ hm]
    exact hcut.ex m b hb'
  .by_cases hm:m=H1.length
   .subst hm;have ho':(Bind.vec b' c rows'.length k sz).owns b o:=by have:=ho;change(upd κc.β H1.length _ H1.length).owns b o at this;rwa[Qk]at this
    have hbb:=Bind.block_of_owns ho';cases hbb;exact q3.exσ (H1.length+1) b' o (by rw[b1];rfl)
   .have ho':(κc.β m).owns b o:=by have:=ho;change(upd κc.β H1.length _ m).owns b o at this;rwa[Qu _ _ hm]at this
    exact hcut.exσ m b o ho'
  .have hβ:∀m,m≠H1.length->κ2.β m=κc.β m:=λm hm=>Qu _ _ hm;have hβ0:κ2.β H1.length=.vec b' c rows'.length k sz:=Qk _ _ _;by_cases hm1:m=H1.length<;>by_cases hq1:q=H1.length
   .omega
   .subst hm1;rw[hβ0]at hm;cases hm;rw[hβ q hq1]at hq;exact absurd hq (hcne q)
   .subst hq1;rw[hβ0]at hq;cases hq;rw[hβ m hm1]at hm;exact absurd hm (hcne m)
   .rw[hβ m hm1]at hm;rw[hβ q hq1]at hq;exact hcut.exd m q b hm hq
  .by_cases hlt:m<H1.length
   .rw[Q19 hlt]at hx;exact hcut.fl m x hx
   .have:m=H1.length:=by have:=(Q11.1 hx).1;simp at this;omega
    subst this;simp at hx;subst hx;rfl
  .cases q4 with
   |tup us _ hl0 h0=>exact .tup us _ hl0 λm u a hu ha=>by simp at ha
def Qc.freezeVec{P:Program}{f:FuncId}{args:List A}{H:Hp}{j k sz e:Nat}{rows:List (List D)}(hne:rows≠[])(h:Qc P f args H (λr H'=>∃X:Hp,X[j]?=some (.vec sz e k rows)/\r=.vsl (H.length+j) k rows.length/\H'=H++X)):Qc P f args H (λr H'=>r=YL false sz rows/\H'=H):=by
 intro κ w vs hr hl hv;refine(h κ w vs hr hl hv).mono ?_;rintro ev w' ⟨v,κ',r,H',h1,h2,h3,h4,X,hX,rfl,rfl⟩;obtain⟨κs,k1,k2,k3,-⟩:=h3.vecArr2 (i:=H.length+j) (by rw[Qs];exact hX) hne;have a3:=k3 v h4;obtain⟨κ2,g1,g2,g3⟩:=k2.freezeArr (i:=(H++X).length) (sz:=sz) (rows:=rows) (by simp) a3;have hHX:∃Y,((H++X).set (H.length+j) Ob.dead++[Ob.arr sz (rows.map (List.map A.d))]).set (H++X).length Ob.dead=H++Y:=by rw[Zd,Q2g,Q2l,Zd];exact⟨_,rfl⟩
 obtain⟨Y,hY⟩:=hHX;rw[hY]at g2;exact⟨v,κ2.cut H.length,YL false sz rows,Hp.cut H.length (H++Y),h1,K.le_cut (h2.trans (k1.trans g1)) hr.dom,g2.cut _ (by simp),g3.clr H.length,rfl,Qd hr.closed _⟩
def HR.reval{κ:K}{H:Hp}{w:World}(h:HR κ H w){i ty:Nat}{cs cs':List A}(hi:H[i]?=some (.box ty cs))(hl:cs'.length=cs.length)(hfl:cs'.all A.flat=true)(hc:∀b,κ.β i=.blk b->∀(j:Nat) (a a':A) (v:Value),cs[j]?=some a->cs'[j]?=some a'->w.cell? ⟨b,j,none⟩=some v->VR κ v a->VR κ v a'):HR κ (H.set i (.box ty cs')) w:=by
 have hil:i<H.length:=(Q11.1 hi).1;refine⟨h.below,h.st,λm x hm=>?_,λm hm=>h.dom m (by simpa using hm),h.ex,h.exσ,h.exd,λm x hm=>?_⟩
 .by_cases hmi:i=m
  .subst hmi;rw[Q17 hil]at hm;cases hm
   obtain⟨b,b1,b2,b3⟩:=h.ob i _ hi;refine⟨b,b1,by rw[hl];exact b2,λj a' ha'=>?_⟩;have hj:j<cs.length:=by rw[<-hl];exact(Q11.1 ha').1
   obtain⟨v,v1,v2,v3⟩:=b3 j cs[j] (Q12 hj);exact⟨v,v1,v2,hc b b1 j _ a' v (Q12 hj) ha' v1 v3⟩
  .rw[Q15 hmi]at hm;exact h.ob m x hm
 .by_cases hmi:i=m
  .subst hmi;rw[Q17 hil]at hm;cases hm;exact hfl
  .rw[Q15 hmi]at hm;exact h.fl m x hm
def HR.boxSl{κ:K}{H:Hp}{w:World}(h:HR κ H w){i b sz ty:Nat}{rows:List (List D)}(hi:H[i]?=some (.arr sz (rows.map (List.map .d))))(hb:H[b]?=some (.box ty [.msl i 0 rows.length])):
 ∃κ',κ.le κ'/\HR κ' ((H.set i .dead).set b (.box ty [YL false sz rows])) w:=by
 obtain⟨bb,b1,b2,b3⟩:=h.ob b _ hb;obtain⟨v,v1,v2,v3⟩:=b3 0 _ rfl;obtain⟨κ',k1,k2,k3⟩:=h.freezeArr hi v3;have hne:i≠b:=λe=>by subst e;rw[hi]at hb;cases hb
 have hb':(H.set i .dead)[b]?=some (.box ty [.msl i 0 rows.length]):=by rw[Q15 hne];exact hb
 refine⟨κ',k1,k2.reval hb' rfl rfl λb' hb2 j a a' u ha ha' hu hv=>?_⟩;have hle:=k1.β b;rw[b1,hb2]at hle;have hbb:b'=bb:=by simp only[Bind.le]at hle;rcases hle with hle|hle<;>first|rfl|(cases hle;done)|(cases hle;rfl)
 subst hbb;cases j with
 |zero=>rw[v1]at hu;cases hu;cases ha';exact k3
 |succ j=>cases ha'
def HR.frzBox{κ:K}{H1 X:Hp}{w:World}(q3:HR κ (H1++X) w)(O:H1.Closed){j ty:Nat}{cs:List D}(hj:X[j]?=some (.box ty (cs.map .d))):
 ∃κ2,(∀κ0:K,κ0.le κ->(∀m,H1.length<=m->κ0.β m=.none)->κ0.le κ2)/\HR κ2 H1 w/\(∀v,VR κ v (.ptr (H1.length+j) 0)->VR κ2 v (.eptr cs))/\∀v x,VR κ v (.d x)->VR κ2 v (.d x):=by
 have a1:(H1++X)[H1.length+j]?=some (.box ty (cs.map .d)):=by rw[Qs];exact hj
 obtain⟨b,b1,b2,b3⟩:=q3.ob _ _ a1;have hcut:=q3.cut H1.length (by simp);rw[Qd O _]at hcut;have hσ:∀o,κ.σ b o=none:=λo=>q3.exσ (H1.length+j) b o (by rw[b1];rfl);let κ2:K:={κ.cut H1.length with σ:=Qas κ.σ b w cs.length};have hle2:(κ.cut H1.length).le κ2:=⟨rfl,λb2 o2 u hu=>by
  show Qas κ.σ b w _ b2 o2=some u;have hu':κ.σ b2 o2=some u:=hu;by_cases hbb:b2=b
  .subst hbb;rw[hσ]at hu';cases hu'
  .simp only[Qas,hbb,if_false];exact hu',λj=>Bind.le_refl _⟩
 have hcne:∀m,((κ.cut H1.length).β m).block≠some b:=λm hm=>by
  by_cases hlt:m<H1.length
  .have e1:(κ.cut H1.length).β m=κ.β m:=if_pos hlt;rw[e1]at hm;have:=q3.exd m (H1.length+j) b hm (by rw[b1];rfl);omega
  .have e1:(κ.cut H1.length).β m=.none:=if_neg hlt;rw[e1]at hm;cases hm
 have hcell:∀(q:Nat)(x:D),cs[q]?=some x->∃v,w.cell? ⟨b,q,none⟩=some v/\VR κ v (.d x):=λq x hq=>by obtain⟨v,v1,-,v3⟩:=b3 q (.d x) (by rw[Q2d,hq];rfl);exact⟨v,v1,v3⟩
 refine⟨κ2,λκ0 h0 hn=>(?_:κ0.le (κ.cut H1.length)).trans hle2,⟨hcut.below,λb2 o2 u hu=>?_,λm x hx=>(hcut.ob m x hx).mono hle2 rfl λ_ _=>rfl,hcut.dom,hcut.ex,λm b' o ho=>?_,hcut.exd,hcut.fl⟩,λv hv=>?_,λv x hv=>?_⟩
 .exact K.le_cut h0 hn
 .have hu':Qas κ.σ b w cs.length b2 o2=some u:=hu;simp only[Qas]at hu';split at hu'
  .rename_i e;subst e;split at hu'
   .exact hu'
   .cases hu'
  .exact q3.st b2 o2 u hu'
 .have hbb:b'≠b:=λe=>by subst e;exact hcne m (Bind.block_of_owns ho)
  show Qas κ.σ b w cs.length b' o=none;simp only[Qas,hbb,if_false];exact hcut.exσ m b' o ho
 .cases hv with
  |ptr _ _ b' hb=>
   rw[b1]at hb;cases hb;refine .eptr cs b 0 (λj=>(w.cell? ⟨b,j,none⟩).getD (.tuple #[])) (λq x hq=>?_) (λq x hq=>?_)
   .obtain⟨v,v1,v2⟩:=hcell q x hq;have hlt:=(Q11.1 hq).1;show Qas κ.σ b w cs.length b (0+q)=_;rw[Q3i];simp only[Qas,if_true,hlt,v1,Q4e]
   .obtain⟨v,v1,v2⟩:=hcell q x hq;simp only[v1,Q4e];exact v2.d_inv.mono hle2.σ
 .exact .d (hv.d_inv.mono hle2.σ)
def Qc.freezeBox{P:Program}{f:FuncId}{args:List A}{H:Hp}{i b sz ty:Nat}{rows:List (List D)}{x:D}{X:Hp}(hi:X[i]?=some (.arr sz (rows.map (List.map .d))))(hb:X[b]?=some (.box ty [.msl (H.length+i) 0 rows.length]))(h:Qc P f args H (λr H'=>r=.tup [.ptr (H.length+b) 0,.d x]/\H'=H++X)):Qc P f args H (λr H'=>r=.tup [.eptr [.sl false sz rows],.d x]/\H'=H):=by
 intro κ w vs hr hl hv;refine(h κ w vs hr hl hv).mono ?_;rintro ev w' ⟨v,κ',r,H',h1,h2,h3,h4,rfl,rfl⟩;obtain⟨κs,k1,k2⟩:=h3.boxSl (i:=H.length+i) (b:=H.length+b) (by rw[Qs];exact hi) (by rw[Qs];exact hb);have hbl:b<X.length:=(Q11.1 hb).1;rw[Zd,Zd]at k2;obtain⟨κ2,g1,g2,g3,g4⟩:=k2.frzBox hr.closed (j:=b) (ty:=ty) (cs:=[.sl false sz rows]) (by rw[Q17 (by simpa using hbl)];rfl);refine⟨v,κ2,_,H,h1,g1 κ (h2.trans k1) hr.dom,g2,?_,rfl,rfl⟩;have h4':=h4.mono k1;cases h4' with
 |tup us _ hl0 h0=>
  refine .tup us _ (by simpa using hl0) λm u a hu ha=>?_;match m with
  |0=>cases ha;exact g3 _ (h0 0 u _ hu rfl)
  |1=>cases ha;exact g4 _ _ (h0 1 u _ hu rfl)
  |m+2=>simp at ha
def Qc.freezeBoxD{P:Program}{f:FuncId}{args:List A}{H:Hp}{b ty:Nat}{cs:List D}{x:D}{X:Hp}(hb:X[b]?=some (.box ty (cs.map .d)))(h:Qc P f args H (λr H'=>r=.tup [.ptr (H.length+b) 0,.d x]/\H'=H++X)):Qc P f args H (λr H'=>r=.tup [.eptr cs,.d x]/\H'=H):=by
 intro κ w vs hr hl hv;refine(h κ w vs hr hl hv).mono ?_;rintro ev w' ⟨v,κ',r,H',h1,h2,h3,h4,rfl,rfl⟩;obtain⟨κ2,g1,g2,g3,g4⟩:=h3.frzBox hr.closed hb;refine⟨v,κ2,_,H,h1,g1 κ h2 hr.dom,g2,?_,rfl,rfl⟩;cases h4 with
 |tup us _ hl0 h0=>
  refine .tup us _ (by simpa using hl0) λm u a hu ha=>?_;match m with
  |0=>cases ha;exact g3 _ (h0 0 u _ hu rfl)
  |1=>cases ha;exact g4 _ _ (h0 1 u _ hu rfl)
  |m+2=>simp at ha
section
open Go.Proofs
def Qjt(tM:Nat):IFn:=by
 have h:=Ix.J [] Tryz.f15 [] [(66,tM)];conv at h=>arg 1;reduce
 exact h.p
end
section
open Go.Proofs
structure Mod where
 n:List UInt8
 t:List UInt8
def encM(m:Mod):List D:=[.str m.n,.str m.t]
def cM(a b:Mod):Int:=Q7 a.n b.n
def Qg1(most:Int):Int->List Mod->Bool
 |_,[]=>true
 |n,m::r=>if most<n+(m.n.length+m.t.length)then false else Qg1 most (n+(m.n.length+m.t.length)) r
def light(l:List Mod)(most:Int):Bool:=Qg1 most 0 l&&decide (l.length<=20)
def Qy5{fL tM:Nat}(hf:Has P fL (Qjt tM))(H:Hp)(z:Bool)(l:List Mod)(most:Int)(hm:0<=most/\most<=1048576)(hl:l.length<=1048576)(hs:∀m∈l,m.n.length<=1048576/\m.t.length<=1048576):
 Qc P fL [YL z 2 (l.map encM),YI most] H (λr H'=>r=YB (light l most)/\H'=H):=by
 refine Qy hf.choose_spec.1 hf.choose_spec.2 (by simp[Qjt]) λO _=>?_;simp[Qjt];refine Wy H.length (λfr H'=>∃pre rest,∃n:Int,l=pre++rest/\0<=n/\n<=most/\Qg1 most 0 l=Qg1 most n rest/\fr 0=YL z 2 (l.map encM)/\fr 1=YI most/\fr 5=YI n/\fr 8=YL z 2 (l.map encM)/\fr 9=YI l.length/\fr 10=YI pre.length/\H'=H)
  (λfr H'=>match fr 10 with|.d (.int _ k)=>(l.length-k).toNat|_=>0) (by simp) ?_ ?_
 .refine⟨[],l,0,?_⟩;simp[Qb O,hm]
 rintro fr H' ⟨pre,rest,n,hcs,hn0,hnm,hli,f0,f1,f5,f8,f9,f10,hH⟩;rw[hH];simp[f9,f10];refine Qh (λh=>?_) (λh=>?_)
 .obtain⟨c,rest,rfl⟩:∃e r,rest=e::r:=by
   cases rest with
   |nil=>rw[hcs]at h;simp at h
   |cons e r=>exact⟨e,r,rfl⟩
  have hpl:pre.length<l.length:=by rw[hcs];simp
  obtain⟨s1,s2⟩:=hs c (by rw[hcs];simp);have hw:IntKind.i64.wrap ((pre.length:Int)+1)=pre.length+1:=wi64 (by omega);have hw2:IntKind.i64.wrap ((c.n.length:Int)+c.t.length)=c.n.length+c.t.length:=wi64 (by omega);have hw3:IntKind.i64.wrap (n+((c.n.length:Int)+c.t.length))=n+(c.n.length+c.t.length):=wi64 (by omega);have hgr:Zam.rowAt (l.map encM) (pre.length:Int)=some (encM c):=by simp[Zam.rowAt,hcs]
  simp[f1,f5,f8,f10,hgr,encM,hw2,hw3];refine Qh (λh2=>?_) (λh2=>?_)
  .simp at h2;have:light l most=false:=by simp only[light,hli,Qg1,if_pos h2,Q62]
   simp;simp[RetK,Qd O,this]
  .simp at h2;simp[f10,hw];refine Wf (m:=H.length) (by simp) ⟨pre++[c],rest,n+(c.n.length+c.t.length),?_⟩ ?_
   .simp[f0,f1,f8,f9,Qd O,hcs];refine⟨by omega,by omega,?_⟩;rw[<-hcs,hli,Qg1,if_neg (by omega)]
   .simp;omega
 .obtain rfl:rest=[]:=by
   cases rest with
   |nil=>rfl
   |cons e r=>exfalso;rw[hcs]at h;simp at h
  have:light l most=decide (l.length<=20):=by simp only[light,hli,Qg1,Q69]
  simp[f0];simp[RetK,Qb O,this];omega
deriving instance DecidableEq for Mod
end
def Qj2(P:Program)(f:FuncId)(args:List A)(H:Hp)(Q:Hp->Prop):Prop:=
 ∀(κ:K)(w:World)(vs:List Value),HR κ H w->vs.length=args.length->(∀(i:Nat)(v:Value)(a:A),vs[i]?=some v->args[i]?=some a->VR κ v a)->
  CallsD P f vs.toArray .returning w λe u w'=>u=.returning/\∃v κ' H',e=.returned v/\κ.le κ'/\HR κ' H' w'/\Q H'
def Qth{κ:K}{n:Nat}{args:List A}{H:Hp}{w:World}{vs:List Value}(hn:args.length<=n)(hr:HR κ H w)(hl:vs.length=args.length)(hv:∀(i:Nat) (v:Value) (a:A),vs[i]?=some v->args[i]?=some a->VR κ v a):
 SR κ ⟨n,[]⟩ (Fr.init args) H {tmps:=vs.toArray++Array.replicate (n-vs.toArray.size) undef,defers:=[]} w:=by
 refine⟨by simp only[Q4k,Q3s,Array.size_replicate];omega,rfl,hr,λs=>?_⟩;simp only[Fr.init];by_cases hlt:s<args.length
 .have hlt':s<vs.length:=by omega
  rw[Q23,Q3o (by simpa using hlt')];simp only[Q7e,Q12 hlt',Q12 hlt,Q4e];exact hv s _ _ (Q12 hlt') (Q12 hlt)
 .rw[Q5d (by omega),Q23,Q6y (by simpa using(by omega:vs.length<=s))];have:((Array.replicate (n-vs.toArray.size) undef)[s-vs.toArray.size]?).getD undef=undef:=by
   by_cases h2:s-vs.toArray.size<n-vs.toArray.size
   .rw[Q44,if_pos h2];rfl
   .rw[Q44,if_neg h2];rfl
  rw[this];exact .tup [] [] rfl (by simp)
def Qoe(K:Hp->Prop):Ex->Fr->Hp->Prop
 |.exit _,_,H=>False
 |_,_,H=>K H
def Ql4{P:Program}{fn:Func}(h:fn.results=#[])(tmps:Array Value)(w:World):(results fn tmps).run P w=.ok (.tuple #[]) w:=by unfold results;rw[h];simp
def Qvx{P:Program}{f:FuncId}{fn:Func}{c:Code}{tok:List Nat}{args:List A}{H:Hp}{K:Hp->Prop}(hf:P.funcs[f]?=some fn)(hb:fn.body=some c)(hres:fn.results=#[])(hn:args.length<=fn.ntmps)(h:H.Closed->AWp P H.length (Z3 P fn.ntmps tok c) (Qoe K) (Fr.init args) H):Qj2 P f args H K:=by
 intro κ w vs hr hl hv;refine(callsD_of_wp (R:=λe w'=>∃v κ' H',e=.returned v/\κ.le κ'/\HR κ' H' w'/\K H') hf hb ?_);refine wp_mono (Qd2 (nt:=⟨fn.ntmps,[]⟩) hr.dom c _ κ _ H _ w (Zam.K.le_refl κ) (Qth hn hr hl hv) (h hr.closed)) ?_;rintro e a' w' ⟨κ',fr',H',e',he,h0',hs',hq⟩;have fin:K H'->a'.defers=[]/\∃v,(results fn a'.tmps).run P w'=.ok v w'/\∃v1 κ1 H1,Ending.returned v=.returned v1/\κ.le κ1/\HR κ1 H1 w'/\K H1:=λhk=>⟨hs'.defers,_,Ql4 hres _ _,_,κ',H',rfl,h0',hs'.hr,hk⟩;cases e<;>cases e'<;>simp only[ExR]at he
 .exact fin hq
 .exact hq.elim
 .exact fin hq
def Ql0{P:Program}{κ0:K}{nt:NT}{tok:List Nat}{ops:Array Oper}{K:Fr->Hp->Prop}{Q:Exit->Act->World->Prop}{tail:List Oper}(hK:∀κ fr H a w,κ0.le κ->SR κ nt fr H a w->K fr H->wpList P ops Q tail a w):
 ∀(l:List Oper)(κ:Zam.K)(fr:Fr)(H:Hp)(a:Act)(w:World),κ0.le κ->SR κ nt fr H a w->AOps P (l.map (V7 P nt tok ops)) K fr H->wpList P ops Q (l++tail) a w:=by
 intro l;induction l with
 |nil=>intro κ fr H a w h0 hs h;exact hK κ fr H a w h0 hs h
 |cons o l ih=>
  intro κ fr H a w h0 hs h;simp only[Q2w,AOps]at h;rcases Qeo (P:=P) (nt:=nt) (tok:=tok) (ops:=ops) (o:=o)with hb|⟨g,i,hg,hi,hd,hcomp⟩
  .rw[hb]at h;simp[Q9,runI,Arg.ev]at h
  .rw[hcomp]at h;simp only at h;have step:∀fr,SR κ nt fr H a w->runI P fr H i (λv H'=>AOps P (l.map (V7 P nt tok ops)) K (fr.put o.dst v) H')->o.wp P a w (wpList P ops Q (l++tail)) Q:=λfr hs h=>Ql1 hi hd h0 hs h (λκ' v H' u w' h0' hs' hk=>ih κ' _ _ _ _ h0' hs' hk)
   cases g with
   |none=>simp only at h;rw[Q2m];unfold wpList;rw[if_pos (Qbd hg _)];exact .inl (step fr hs h)
   |some sb=>
    obtain⟨s,b⟩:=sb;simp only at h;rw[Q2m];unfold wpList;rw[Qcn hg];rcases Qcx hs h with⟨h1,h2⟩|⟨h1,h2⟩
    .rw[h1];simp only[if_true];exact .inl (step fr hs h2)
    .rw[h1];simp only[Q2c,if_false];exact ih κ _ _ _ _ h0 (hs.put (Zam.K.le_refl κ) hs.hr hd (.tup [] [] rfl (by simp))) h2
def Qrs(K:Fr->Hp->Prop):Ex->Fr->Hp->Prop
 |.normal=>K
 |_=>λ_ _=>False
def Qpf{P:Program}{f:FuncId}{fn:Func}{tok:List Nat}{args:List A}{H:Hp}{K:A->Hp->Prop}{ca0 ca cb:Code}{id:Nat}{ops:Array Oper}{l:List Oper}{od:Oper}{c:Call}{s:Nat}(hf:P.funcs[f]?=some fn)(hb:fn.body=some (.seq ca0 (.seq ca (.seq (.region id ops false) cb))))(hops:ops.toList=l++[od])(hg:Qby ops od.guard=some none)(hd:od.dst=none)(hop:od.op=.defer c)(hcal:c.callee=.value (.tmp s))(hcar:c.args=#[])(hres:fn.results=#[])(hn:args.length<=fn.ntmps)(h:H.Closed->AWp P H.length (Z3 P fn.ntmps tok ca0) (Qrs λfr0 H0=>H.length<=H0.length/\(Hp.Closed H0->AWp P H0.length (Z3 P fn.ntmps tok ca) (Qrs λfr1 H1=>AOps P (l.map (V7 P fn.ntmps tok ops)) (λfr2 H2=>∃g cap,fr2 s=.fn (.func g) [] cap/\Wd P g=true/\
 (Hp.Closed H2->AWp P H2.length (Z3 P fn.ntmps tok cb) (Qoe λH3=>Qj2 P g cap H3 λH4=>∃m,H.length<=m/\m<=H4.length/\K (.tup []) (Hp.cut m H4)) fr2 H2)) fr1 H1) fr0 H0)) (Fr.init args) H):Qc P f args H K:=by
 intro κ w vs hr hl hv;refine calls_of_wp_defers hf hb ?_;refine wp_seq (wp_mono (Qd2 (nt:=⟨fn.ntmps,[]⟩) hr.dom ca0 _ κ _ H _ w (Zam.K.le_refl κ) (Qth hn hr hl hv) (h hr.closed)) ?_);rintro e a0 w0 ⟨κ0,fr0,H0,e',he,h00,hs0,h0⟩;cases e' with
 |exit i=>exact h0.elim
 |ret=>exact h0.elim
 |normal=>
 cases e<;>simp only[ExR]at he
 obtain⟨hlen0,h0⟩:=h0;show(Code.seq ca (.seq (.region id ops false) cb)).wp P _ a0 w0;refine wp_seq (wp_mono (Qd2 (nt:=⟨fn.ntmps,[]⟩) hs0.hr.dom ca _ κ0 fr0 H0 _ w0 (Zam.K.le_refl κ0) hs0 (h0 hs0.hr.closed)) ?_);rintro e a1 w1 ⟨κ1,fr1,H1,e',he,h01',hs1,h1⟩;have h01:=h00.trans h01';cases e' with
 |exit i=>exact h1.elim
 |ret=>exact h1.elim
 |normal=>
 cases e<;>simp only[ExR]at he
 show(Code.seq (.region id ops false) cb).wp P _ a1 w1;refine wp_seq (wp_region_list ?_);rw[hops];refine Ql0 (κ0:=κ) (nt:=⟨fn.ntmps,[]⟩) (tok:=tok) ?_ l κ1 fr1 H1 a1 w1 h01 hs1 h1;rintro κ2 fr2 H2 a2 w2 h02 hs2 ⟨g,cap,hfn,hok,h2⟩;have hvs:=hs2.vr s;rw[hfn]at hvs;obtain⟨capv,hev,O,hcv⟩:∃capv:List Value,a2.tmps.getD s undef=.func (.func g) #[] capv.toArray/\capv.length=cap.length/\∀(i:Nat)(v:Value)(a:A),capv[i]?=some v->cap[i]?=some a->VR κ2 v a:=by
  generalize hx:a2.tmps.getD s undef=x at hvs;cases hvs with
  |fn _ vs1 vs2 _ _ hl1 hl2 p1 p2=>have:vs1=[]:=Q2b (by simpa using hl1);subst this;exact⟨vs2,rfl,hl2,p2⟩
 unfold wpList;rw[if_pos (Qbd hg _)];refine .inl ?_;have hrun:(execOp a2.eval od).run P w2=.ok (.defer {target:=.fn (.func g) capv.toArray,args:=#[]}) w2:=by unfold execOp;rw[hop];simp only[resolve,hcal,hcar,Act.eval,hev,Deferred.ofValue,Q27,Q3u,Q2s];simp
 unfold Oper.wp;rw[hrun,Oper.upon_defer,hd];have hs3:SR κ2 ⟨fn.ntmps,[{target:=.fn (.func g) capv.toArray,args:=#[]}]⟩ fr2 H2 {a2 with defers:={target:=.fn (.func g) capv.toArray,args:=#[]}::a2.defers} w2:=⟨hs2.size,by simp only[hs2.defers],hs2.hr,hs2.vr⟩;show cb.wp P _ {a2 with defers:={target:=.fn (.func g) capv.toArray,args:=#[]}::a2.defers} w2;refine wp_mono (Qd2 hs2.hr.dom cb _ κ2 fr2 H2 _ w2 (Zam.K.le_refl κ2) hs3 (h2 hs2.hr.closed)) ?_;rintro e a4 w4 ⟨κ4,fr4,H4,e',he,h24,hs4,hcall⟩;have fin:(Qj2 P g cap H4 λH5=>∃m,H.length<=m/\m<=H5.length/\K (.tup []) (Hp.cut m H5))->Leaves P fn a4.tmps (λe w'=>∃v κ' x H',e=.returned v/\κ.le κ'/\HR κ' H' w'/\VR κ' v x/\K x H') a4.defers .returning w4:=by
  intro hc;rw[hs4.defers];refine leaves_cons (by simp) ?_ (CallsD.mono (hc κ4 w4 capv hs4.hr O λi v a hi ha=>(hcv i v a hi ha).mono h24) ?_)
  .simp only[invoke];rw[Qbr hok];simp
  .rintro e u w5 ⟨rfl,v,κ5,H5,rfl,h45,hr5,m,hm1,hm2,hk⟩;have hle:κ.le κ5:=(h02.trans h24).trans h45;exact⟨_,Ql4 hres _ _,_,κ5.cut m,.tup [],Hp.cut m H5,rfl,Zam.K.le_cut hle λi hi=>hr.dom i (by omega),hr5.cut m hm2,.tup [] [] rfl (by simp),hk⟩
 cases e<;>cases e'<;>simp only[ExR]at he
 .exact fin hcall
 .exact hcall.elim
 .exact fin hcall
section
open Go.Proofs
def Qjg(ed:Nat):IFn:=by
 have h:=Ix.J [2000021] Tryz.f91 [] [(139,ed)];conv at h=>arg 1;reduce
 exact h.p
def Qh0(wrong tn bd:Nat):IFn:=by
 have h:=Ix.J [] Tryz.f62 [(91,wrong)] [(37,tn),(82,bd)];conv at h=>arg 1;reduce
 exact h.p
def Qow:IFn:=by
 have h:=Ix.J [] Tryz.f139 [] [];conv at h=>arg 1;reduce
 exact h.p
def Qbm(within kids bind mention closed nodeC tp tn:Nat):IFn:=by
 have h:=Ix.J [6000028] Tryz.f94 [(92,within),(141,kids),(62,bind),(142,mention),(63,closed),(140,nodeC)] [(129,tp),(37,tn)];conv at h=>arg 1;reduce
 exact h.p
def Qjj(kids:Nat):IFn:=by
 have h:=Ix.J [] Tryz.f140 [(141,kids)] [];conv at h=>arg 1;reduce
 exact h.p
def Qmg(node tn:Nat):IFn:=by
 have h:=Ix.J [] Tryz.f141 [(94,node)] [(37,tn)];conv at h=>arg 1;reduce
 exact h.p
def Qbo(find wrong tn mn:Nat):IFn:=by
 have h:=Ix.J [] Tryz.f142 [(170,find),(91,wrong)] [(37,tn),(116,mn)];conv at h=>arg 1;reduce
 exact h.p
def Qmh:IFn:=by
 have h:=Ix.J [] Tryz.f170 [] [];conv at h=>arg 1;reduce
 exact h.p
def Qeg(within closedC tp ts:Nat):IFn:=by
 have h:=Ix.J [] Tryz.f63 [(92,within),(93,closedC)] [(129,tp),(35,ts)];conv at h=>arg 1;reduce
 exact h.p
def Qfj(bind node tn:Nat):IFn:=by
 have h:=Ix.J [6000022,6000028] Tryz.f93 [(62,bind),(94,node)] [(37,tn)];conv at h=>arg 1;reduce
 exact h.p
def Qmf(bind closed srt cmp tn tm tb bd mn ed:Nat):IFn:=by
 have h:=Ix.J [5000003,8200003,6000034,6000043] Tryz.f44 [(62,bind),(63,closed),(64,srt),(65,cmp)] [(37,tn),(74,tm),(134,tb),(82,bd),(116,mn),(139,ed)];conv at h=>arg 1;reduce
 exact h.p
def Qk2(cmpI ed:Nat):IFn:=by
 have h:=Ix.J [] Tryz.f65 [(42,cmpI)] [(139,ed)];conv at h=>arg 1;reduce
 exact h.p
def Qk1(rbind rclosed tn rtm red rbd rmn:Nat):IFn:=by
 have h:=Ix.J [10,11] Tryz.f50 [(72,rbind),(73,rclosed)] [(37,tn),(42,rtm),(151,red),(51,rbd),(254,rmn)];conv at h=>arg 1;reduce
 exact h.p
def Qji(tn rnm red rbd:Nat):IFn:=by
 have h:=Ix.J [12] Tryz.f72 [] [(37,tn),(192,rnm),(151,red),(51,rbd)];conv at h=>arg 1;reduce
 exact h.p
def Qcv(rbegin rbind rnode:Nat):IFn:=by
 have h:=Ix.J [] Tryz.f73 [(105,rbegin),(72,rbind),(106,rnode)] [];conv at h=>arg 1;reduce
 exact h.p
def Qg3(rnm:Nat):IFn:=by
 have h:=Ix.J [5] Tryz.f105 [] [(192,rnm)];conv at h=>arg 1;reduce
 exact h.p
def Qag(rmention rclosed rbegin rnode rbind tn:Nat):IFn:=by
 have h:=Ix.J [] Tryz.f106 [(153,rmention),(73,rclosed),(105,rbegin),(106,rnode),(72,rbind)] [(37,tn)];conv at h=>arg 1;reduce
 exact h.p
def Qef(tn rmn red:Nat):IFn:=by
 have h:=Ix.J [] Tryz.f153 [] [(37,tn),(254,rmn),(151,red)];conv at h=>arg 1;reduce
 exact h.p
end
inductive Utf:Bs->Prop
 |nil:Utf []
 |step {s:Bs} (h:s≠[]) (hd:decU s≠(65533,1)) (hr:Utf (s.drop (decU s).2)):Utf s
def Qt4:∀(f:Nat)(s:Bs)(n:Nat),badF f s n=-1\/0<=badF f s n
 |0,_,_=>.inl rfl
 |f+1,s,n=>by
  rw[badF];split
  .exact .inl rfl
  .split
   .exact .inr (by omega)
   .exact Qt4 f _ _
def Qrk:∀(f:Nat)(s:Bs)(n:Nat),s.length<=f->(badF f s n=-1↔Utf s)
 |0,s,n,h=>by have:s=[]:=Q2b (by omega);subst this;exact⟨λ_=>.nil,λ_=>rfl⟩
 |f+1,s,n,h=>by
  rw[badF];by_cases hs:s=[]
  .rw[if_pos hs];subst hs;exact⟨λ_=>.nil,λ_=>rfl⟩
  rw[if_neg hs];by_cases hd:decU s=(65533,1)
  .rw[if_pos hd];constructor
   .intro e;omega
   .intro hu;cases hu with
    |nil=>exact absurd rfl hs
    |step _ h2 _=>exact absurd hd h2
  .rw[if_neg hd];have hl:=Qiv hs;rw[Qrk f _ _ (by simp;omega)];constructor
   .exactλh=>.step hs hd h
   .intro hu;cases hu with
    |nil=>exact absurd rfl hs
    |step _ _ h3=>exact h3
def Qx0(s:Bs):¬0<=badS s↔Utf s:=by rw[<-Qrk s.length s 0 (Q14 _)];have:=Qt4 s.length s 0;unfold badS;omega
def Qzh{s:Bs}(h:s≠[]):decU s=Lib.decodeN s.length (s.getD 0 0).toNat (s.getD 1 0).toNat (s.getD 2 0).toNat (s.getD 3 0).toNat:=by unfold decU;rw[if_neg h]
inductive Toks:Bs->Nat->List Tk->Prop
 |fin {s:Bs} {n:Nat} (h:(tokN (s.drop (Qo false s))).1=0) (h0:s.drop (Qo false s)=[]):Toks s n [⟨0,n+Qo false s,s.take (Qo false s),[]⟩]
 |tok {s:Bs} {n:Nat} {l:List Tk} (h:(tokN (s.drop (Qo false s))).1=0) (h0:s.drop (Qo false s)≠[]) (hr:Toks ((s.drop (Qo false s)).drop (tokN (s.drop (Qo false s))).2.2) (n+Qo false s+(tokN (s.drop (Qo false s))).2.2) l):
 Toks s n (⟨(tokN (s.drop (Qo false s))).2.1,n+Qo false s,s.take (Qo false s),(s.drop (Qo false s)).take (tokN (s.drop (Qo false s))).2.2⟩::l)
def Qnv:∀(f:Nat)(s:Bs)(n c:Nat),s.length<f->((lexF f s n c).2.1=0↔∃l,Toks s n l/\c+l.length<=4000)/\((lexF f s n c).2.1=0->Toks s n (lexF f s n c).1/\c+(lexF f s n c).1.length<=4000)
 |0,s,n,c,h=>by omega
 |f+1,s,n,c,h=>by
  have htl:=Qey (s.drop (Qo false s));obtain⟨t1,t2,t3,t4⟩:=htl;rw[lexF];by_cases he:(tokN (s.drop (Qo false s))).1=0;case neg=>
   rw[if_pos he];refine⟨⟨λe=>absurd e he,?_⟩,λe=>absurd e he⟩;rintro⟨l,hl,-⟩;cases hl with
   |fin h1 h2=>exact absurd h1 he
   |tok h1 h2 h3=>exact absurd h1 he
  rw[if_neg (by simp[he])];by_cases hc:4000<=c;case pos=>
   rw[if_pos hc];refine⟨⟨λe=>absurd e (by simp),?_⟩,λe=>absurd e (by simp)⟩;rintro⟨l,hl,hlc⟩;cases hl with
   |fin h1 h2=>simp at hlc;omega
   |tok h1 h2 h3=>simp at hlc;omega
  rw[if_neg hc];by_cases hk:(tokN (s.drop (Qo false s))).2.1=0
  .rw[if_pos hk];have hnil:=t2 he hk;have hT:Toks s n [⟨(tokN (s.drop (Qo false s))).2.1,n+Qo false s,s.take (Qo false s),(s.drop (Qo false s)).take (tokN (s.drop (Qo false s))).2.2⟩]:=by have:=Toks.fin (n:=n) he hnil;rw[hk,hnil];simpa using this
   exact⟨⟨λ_=>⟨_,hT,by simp;omega⟩,λ_=>rfl⟩,λ_=>⟨hT,by simp;omega⟩⟩
  .rw[if_neg hk];have hne:s.drop (Qo false s)≠[]:=λe=>hk (t4 e);have hm:=t3 he hne;have hlen:((s.drop (Qo false s)).drop (tokN (s.drop (Qo false s))).2.2).length<f:=by
    simp only[Q26]at t1⊢;have:Qo false s<s.length:=by
     rcases Q4f (Qo false s) s.length with h'|h'
     .exact h'
     .exact absurd (Q22 h') hne
    omega
   obtain⟨i1,i2⟩:=Qnv f _ (n+Qo false s+(tokN (s.drop (Qo false s))).2.2) (c+1) hlen;generalize lexF f ((s.drop (Qo false s)).drop (tokN (s.drop (Qo false s))).2.2) (n+Qo false s+(tokN (s.drop (Qo false s))).2.2) (c+1)=R at i1 i2;by_cases hR:R.2.1=0
   .rw[if_pos hR];obtain⟨j1,j2⟩:=i2 hR;have hT:=Toks.tok (n:=n) he hne j1;exact⟨⟨λ_=>⟨_,hT,by simp;omega⟩,λ_=>rfl⟩,λ_=>⟨hT,by simp;omega⟩⟩
   .rw[if_neg hR];refine⟨⟨λe=>absurd e hR,?_⟩,λe=>absurd e hR⟩;rintro⟨l,hl,hlc⟩;exfalso
    cases hl with
    |fin h1 h2=>exact hne h2
    |tok h1 h2 h3=>exact hR (i1.2 ⟨_,h3,by simp at hlc;omega⟩)
def Qhv(s:Bs):((lexS s).2.1=0↔s.length<=16384/\Utf s/\∃l,Toks s 0 l/\l.length<=4000)/\((lexS s).2.1=0->Toks s 0 (lexS s).1/\(lexS s).1.length<=4000):=by
 have hu:=Qx0 s;unfold lexS;by_cases h1:16384<s.length
 .rw[if_pos h1];exact⟨⟨λe=>absurd e (by simp),λe=>by omega⟩,λe=>absurd e (by simp)⟩
 rw[if_neg h1];by_cases h2:0<=badS s
 .rw[if_pos h2];exact⟨⟨λe=>absurd e (by simp),λe=>absurd e.2.1 λq=>hu.2 q h2⟩,λe=>absurd e (by simp)⟩
 rw[if_neg h2];obtain⟨i1,i2⟩:=Qnv (s.length+1) s 0 0 (by omega);refine⟨?_,λe=>by simpa using i2 e⟩;rw[i1];simp only[Q3i];exact⟨λ⟨l,a,b⟩=>⟨by omega,hu.1 h2,l,a,b⟩,λ⟨_,_,q⟩=>q⟩
section
def Wz(L:List Tk):Prop:=∀i,i+1=L.length->kdT L i=0
def Z5{L:List Tk}{i:Nat}(hE:Wz L)(h:kdT L i≠0):i+1<L.length:=by
 have:=Qc6 h;rcases Q4f (i+1) L.length with h'|h'
 .exact h'
 .exact absurd (hE i (by omega)) h
def Q1i{L:List Tk}{i:Nat}{x:Bs}(h:isT L i x=true):kdT L i≠0:=by
 unfold isT at h;unfold kdT;cases hg:L[i]? with
 |none=>rw[hg]at h;cases h
 |some t=>rw[hg]at h;simp at h⊢;rcases h.1 with h|h<;>omega
def Q6{L:List Tk}{i:Nat}{x:Bs}(hE:Wz L)(h:isT L i x=true):i+1<L.length:=Z5 hE (Q1i h)
def Bd(L:List Tk):PR->Prop
 |.ok _ j|.bad j=>j<L.length
 |.out=>True
section
variable{L:List Tk}
def Bd.want(hE:Wz L){k:Nat}{x:Bs}{h:Nat->PR}(hk:k<L.length)(hh:k+1<L.length->Bd L (h (k+1))):Bd L (Qv L k x h):=by
 unfold Qv;split
 .rename_i e;exact hh (Q6 hE e)
 .exact hk
def Bd.word(hE:Wz L){k:Nat}{h:Bs->Nat->PR}(hk:k<L.length)(hh:k+1<L.length->Bd L (h (txT L k) (k+1))):Bd L (Yn L k h):=by
 unfold Yn;split
 .rename_i e;exact hh (Z5 hE (by omega))
 .exact hk
def Bd.ifT(hE:Wz L){k:Nat}{x:Bs}{a b:PR}(ha:k+1<L.length->Bd L a)(hb:Bd L b):Bd L (if isT L k x then a else b):=by
 split
 .rename_i e;exact ha (Q6 hE e)
 .exact hb
def Bd.ifK(hE:Wz L){k:Nat}{x:Int}{a b:PR}(hx:x≠0)(ha:k+1<L.length->Bd L a)(hb:Bd L b):Bd L (if kdT L k=x then a else b):=by
 split
 .rename_i e;exact ha (Z5 hE (by omega))
 .exact hb
def Bd.if0{k:Nat}{a b:PR}(ha:Bd L a)(hb:Bd L b):Bd L (if kdT L k=0 then a else b):=by
 split
 .exact ha
 .exact hb
def Bd.ifS(hE:Wz L){k:Nat}{x:Bs}{a b:PR}(ha:k+2<L.length->Bd L a)(hb:Bd L b):Bd L (if kdT L k=1/\isT L (k+1) x=true then a else b):=by
 split
 .rename_i e;exact ha (by have:=Q6 hE e.2;omega)
 .exact hb
def Bd.thenG{r:PR}{h:N->Nat->PR}(hr:Bd L r)(hh:∀m j,j<L.length->Bd L (h m j)):Bd L (r.then h):=by
 cases r with
 |out=>trivial
 |bad j=>exact hr
 |ok m j=>exact hh m j hr
def Qzy(hE:Wz L):∀(n:Nat)(g:G)(i:Nat),i<L.length->Bd L (pp L n g i)
 |0,g,i,_=>trivial
 |n+1,g,i,hi=>by
  have ih:=Qzy hE n;cases g;all_goals simp only[pp]
  all_goals
   repeat' first
    |(refine Bd.want hE (by omega) λ_=>?_)
    |(refine Bd.word hE (by omega) λ_=>?_)
    |(refine Bd.ifT hE (λ_=>?_) ?_)
    |(refine Bd.ifK hE (by decide) (λ_=>?_) ?_)
    |(refine Bd.ifS hE (λ_=>?_) ?_)
    |(refine Bd.if0 ?_ ?_)
    |(refine Bd.thenG (ih _ _ (by omega)) λm j h1=>?_)
    |(exact(by omega:_<L.length))
    |(exact ih _ _ (by omega))
def Qsc(hE:Wz L)(h0:0<L.length){q:Nat}(h:Qaz L=.bad q):q<L.length:=by have:=Qzy hE (16*L.length+8) (.file []) 0 h0;rw[show pp L (16*L.length+8) (.file []) 0=.bad q from h]at this;exact this
end
def Qv6(s:Bs):(tokN s).1=0->(tokN s).2.1=2->s.take (tokN s).2.2∈Yu:=by
 cases s with
 |nil=>intro _ h;cases h
 |cons b r=>
  rw[tokN]
  (repeat' split)<;>simp_all
def Toks.like{s:Bs}{n:Nat}{l:List Tk}(h:Toks s n l):l≠[]/\Wz l/\(∀i,i+1<l.length->kdT l i≠0)/\∀t∈l,t.k=2->t.x∈Yu:=by
 induction h with
 |fin h h0=>
  refine⟨by simp,λi hi=>?_,λi hi=>by simp at hi,?_⟩
  .have:i=0:=by simp at hi;omega
   subst this;rfl
  .intro t ht hk;simp at ht;subst ht;simp at hk
 |@tok s n l h h0 hr ih=>
  obtain⟨i1,i2,i3,i4⟩:=ih;have htl:=Qey (s.drop (Qo false s));obtain⟨t1,t2,t3,t4⟩:=htl;have hl:0<l.length:=Q3g.2 i1;refine⟨by simp,λi hi=>?_,λi hi=>?_,?_⟩
  .cases i with
   |zero=>exact absurd hi (by simp only[Q2i];omega)
   |succ i=>exact i2 i (by simpa using hi)
  .cases i with
   |zero=>show(tokN (s.drop (Qo false s))).2.1≠0;exactλe=>h0 (t2 h e)
   |succ i=>exact i3 i (by simpa using hi)
  .intro t ht hk;rcases Q2v.1 ht with rfl|ht
   .exact Qv6 _ h hk
   .exact i4 t ht hk
def Qy3{l:List Tk}(h:∀t∈l,t.k=2->t.x∈Yu)(i:Nat)(hi:isT l i [61]=true):kdT l i=5:=by
 unfold isT at hi;unfold kdT;cases hg:l[i]? with
 |none=>rw[hg]at hi;cases hi
 |some t=>
  rw[hg]at hi;simp at hi⊢;rcases hi.1 with e|e
  .have:=h t (Q2p hg) e;rw[hi.2]at this;exact absurd this (by decide)
  .exact e
def Qje{s:Bs}(h:(lexS s).2.1=0):(lexS s).1≠[]/\Wz (lexS s).1/\(∀i,i+1<(lexS s).1.length->kdT (lexS s).1 i≠0)/\(∀i,isT (lexS s).1 i [61]=true->kdT (lexS s).1 i=5)/\(lexS s).1.length<=4000:=by obtain⟨h1,h2⟩:=(Qhv s).2 h;obtain⟨a1,a2,a3,a4⟩:=h1.like;exact⟨a1,a2,a3,Qy3 a4,h2⟩
def Qx(s:Bs):List Tk×N×Int×Int:=
 if(lexS s).2.1≠0 then([],N.none,(lexS s).2.1,(lexS s).2.2)
 else if(Q5 (lexS s).1).2.1≠0 then([],N.none,(Q5 (lexS s).1).2.1,match(lexS s).1[(Q5 (lexS s).1).2.2.toNat]? with|some t=>(t.a:Int)|none=>0)
 else((lexS s).1,(Q5 (lexS s).1).1,0,0)
def Qnt{L:List Tk}(hE:Wz L)(h0:L≠[]):0<=(Q5 L).2.2/\(Q5 L).2.2.toNat<L.length:=by
 have hl:=Q3g.2 h0;unfold Q5;split
 .exact⟨by simp,by simpa using hl⟩
 .split
  .split<;>exact⟨by simp,by simpa using hl⟩
  .rename_i q hq;have:=Qsc hE hl hq;exact⟨by simp,by simpa using this⟩
  .exact⟨by simp,by simpa using hl⟩
def Has.of_{f fl fp tn}(h:Has P f (Qql fl fp tn)){H0:Hp}(hl:∀(s:Bs),s.length<=1048576->∀H,Pre0 H0 H->Qc P fl [YS s] H (λr H'=>r=.tup [YL true 4 ((lexS s).1.map Qp),YI (lexS s).2.1,YI (lexS s).2.2]/\H'=H))(hp:∀(z:Bool) (L:List Tk),L.length<=1048576->(∀i,isT L i [61]=true->kdT L i=5)->∀H,Qc P fp [YL z 4 (L.map Qp)] H (λr H'=>r=.tup [(Q5 L).1.v,YI (Q5 L).2.1,YI (Q5 L).2.2]/\H'=H))(s:Bs)(hs:s.length<=1048576)(H:Hp)(hH:Pre0 H0 H):
 Qc P f [YS s] H (λr H'=>r=.tup [YL true 4 ((Qx s).1.map Qp),(Qx s).2.1.v,YI (Qx s).2.2.1,YI (Qx s).2.2.2]/\H'=H):=by
 refine Qe h (by simp[Qql]) λO _=>?_;obtain⟨Q,hQ⟩:∃Q:A->Hp->Prop,Q=λr H'=>r=.tup [YL true 4 ((Qx s).1.map Qp),(Qx s).2.1.v,YI (Qx s).2.2.1,YI (Qx s).2.2.2]/\H'=H:=⟨_,rfl⟩;rw[<-hQ];have hnone:∀e b:Int,Qx s=([],N.none,e,b)->Q (.tup [YL true 4 [],.agg [YI 0,YI 0,YI 0,YS [],YI 0,YL true 6 []],YI e,YI b]) H:=λe b h=>by subst hQ;rw[h];exact⟨rfl,rfl⟩
 have hO:Qx s=if(lexS s).2.1≠0 then([],N.none,(lexS s).2.1,(lexS s).2.2)
  else if(Q5 (lexS s).1).2.1≠0 then([],N.none,(Q5 (lexS s).1).2.1,match(lexS s).1[(Q5 (lexS s).1).2.2.toNat]? with|some t=>(t.a:Int)|none=>0)
  else((lexS s).1,(Q5 (lexS s).1).1,0,0):=rfl
 have hlk:=Qje (s:=s);have g1:=hl s hs _ (hH.app [Ob.box tn [YI 0,YI 0,YI 0,YS [],YI 0,YL true 6 []]]);generalize lexS s=LS at hO hlk g1;obtain⟨L,e,b⟩:=LS;simp only at hO hlk g1;simp[Qql];refine Qa g1 ?_;by_cases he:e=0
 case neg=>rw[if_pos he]at hO;simp[he];simp[RetK,Qd O];exact hnone e b hO
 rw[if_neg (by simp[he])]at hO;obtain⟨l1,l2,l3,l4,l5⟩:=hlk he;have hat:=Qnt l2 l1;have g2:=hp true L (by omega) l4;generalize Q5 L=PS at hO hat g2;obtain⟨m,e2,b2⟩:=PS;simp only at hO hat g2;simp[he];refine Qa (g2 _) ?_;obtain⟨k,f',t,w,a,z,ks⟩:=m;rw[N.v_mk];obtain⟨hb0,hb1⟩:=hat;obtain⟨q,rfl⟩:∃q:Nat,b2=(q:Int):=⟨b2.toNat,by omega⟩;simp only[Q31]at hO hb1;have hr:=Qt Qp hb1;rw[Q12 hb1]at hO;generalize L[q]=tk at hr hO;obtain⟨tk,ta,tl,tx⟩:=tk;simp only[Qp]at hr;simp;by_cases he2:e2=0
 case neg=>
  rw[if_pos he2]at hO;simp[he2,hr]
  repeat' apply And.intro
  all_goals
   simp[RetK,Qd O]
   try exact hnone e2 ta hO
 rw[if_neg (by simp[he2])]at hO;simp[he2];simp[RetK,Qd O];subst hQ;rw[hO];exact⟨by rw[N.v_mk],rfl⟩
end
section
def ApR(P:N->Nat->Prop):PR->Prop
 |.ok m j=>P m j
 |_=>True
def G.one:G->Bool
 |.param|.tfield|.kind|.expr|.entry=>true
 |_=>false
def G.flat:G->Prop
 |.list o _|.listL o _ _=>o.one=true
 |_=>True
section
variable{L:List Tk}{P:N->Nat->Prop}
def ApR.want{k:Nat}{x:Bs}{h:Nat->PR}(hh:ApR P (h (k+1))):ApR P (Qv L k x h):=by
 unfold Qv;split
 .exact hh
 .trivial
def ApR.word{k:Nat}{h:Bs->Nat->PR}(hh:ApR P (h (txT L k) (k+1))):ApR P (Yn L k h):=by
 unfold Yn;split
 .exact hh
 .trivial
def ApR.ite{c:Prop}[Decidable c]{a b:PR}(ha:ApR P a)(hb:ApR P b):ApR P (if c then a else b):=by
 split
 .exact ha
 .exact hb
def ApR.ok{m:N}{j:Nat}(h:P m j):ApR P (.ok m j):=h
end
end
structure SBd where
 a:Int
 k:Int
 w:Bs
 i:Int
 deriving DecidableEq
instance:Inhabited SBd:=⟨⟨0,0,[],0⟩⟩
structure Mn where
 a:Int
 t:Int
 wr:Bool
 far:Int
 deriving DecidableEq
structure SM where
 bs:List SBd
 ms:List Mn
 bad:List (Int×Int)
def Qw(b:SBd):List D:=[.int .i64 b.a,.int .i64 b.k,.str b.w,.int .i64 b.i]
def Ya(m:Mn):List D:=[.int .i64 m.a,.int .i64 m.t,.bool m.wr,.int .i64 m.far]
def Q2(x:Int×Int):List D:=[.int .i64 x.1,.int .i64 x.2]
def SM.enc(S:SM):List D:=[.sl S.bs.isEmpty 4 (S.bs.map Qw),.sl S.ms.isEmpty 4 (S.ms.map Ya),.sl S.bad.isEmpty 2 (S.bad.map Q2)]
abbrev Nms:=List (Bs×Int)
def Zm(w:Bs):Nms->Option Int
 |[]=>none
 |e::r=>if w=e.1 then some e.2 else Zm w r
def Qdd(w:Bs)(v:Int):Nms->Nms
 |[]=>[(w,v)]
 |e::r=>if w=e.1 then(w,v)::r else e::Qdd w v r
def Qjb(w u:Bs)(v:Int):∀l:Nms,Zm u (Qdd w v l)=if u=w then some v else Zm u l
 |[]=>by simp[Qdd,Zm]
 |e::r=>by
  simp only[Qdd];by_cases h:w=e.1
  .rw[if_pos h];simp only[Zm,<-h];by_cases hu:u=w
   .simp[hu]
   .simp[hu]
  .rw[if_neg h];simp only[Zm,Qjb w u v r];by_cases hu:u=e.1
   .have:u≠w:=λe'=>h (e'▸hu);rw[if_pos hu,if_neg this,if_pos hu]
   .rw[if_neg hu,if_neg hu]
structure Frm where
 es:Nms
 lam:Bool
def SM.bind(S:SM)(kind item:Int)(n:N)(dup:Bool):SM:=⟨S.bs++[⟨n.at_,kind,n.w,item⟩],S.ms,if dup then S.bad++[(n.at_,31)]else S.bad⟩
def SM.men(S:SM)(n:N)(wr:Bool)(p:Int×Int):SM:=⟨S.bs,S.ms++[⟨n.at_,p.1,wr,p.2⟩],if p.1<0 then S.bad++[(n.at_,30)]else if wr/\(S.bs.getD p.1.toNat default).k<3 then S.bad++[(n.at_,35)]else S.bad⟩
def Yl(G:Nms)(w:Bs):List Frm->Int->Int×Int
 |[],_=>match Zm w G with
  |some i=>(i,0)
  |none=>(-1,0)
 |f::r,far=>match Zm w f.es with
  |some i=>(i,far)
  |none=>Yl G w r (if f.lam then far+1 else far)
def Ym(kind item:Int)(n:N)(fr:Nms)(S:SM):Nms×SM:=(Qdd n.w S.bs.length fr,S.bind kind item n (Zm n.w fr).isSome)
def We(item:Int):List N->Nms->SM->Nms×SM
 |[],fr,S=>(fr,S)
 |n::r,fr,S=>We item r (Ym 3 item n fr S).1 (Ym 3 item n fr S).2
mutual
def Z0(G:Nms)(item:Int):N->List Frm->Nms->Bool->SM->Nms×SM
 |.mk k f t w a z ks,E,fr,lam,S=>
 if k=6 then(fr,(Wa G item ks (⟨fr,lam⟩::E) [] false S).2)
 else if k=7 then Ym 4 item (.mk k f t w a z ks) (Wa G item ks E fr lam S).1 (Wa G item ks E fr lam S).2
 else if k=8 then Wa G item ks E fr lam (S.men (.mk k f t w a z ks) true (Yl G w (⟨fr,lam⟩::E) 0))
 else if k=23 then(fr,S.men (.mk k f t w a z ks) false (Yl G w (⟨fr,lam⟩::E) 0))
 else if k=28 then(fr,Yq G item ks (⟨fr,lam⟩::E) true S)
 else Wa G item ks E fr lam S
def Wa(G:Nms)(item:Int):List N->List Frm->Nms->Bool->SM->Nms×SM
 |[],E,fr,lam,S=>(fr,S)
 |n::r,E,fr,lam,S=>Wa G item r E (Z0 G item n E fr lam S).1 lam (Z0 G item n E fr lam S).2
def Yq(G:Nms)(item:Int):List N->List Frm->Bool->SM->SM
 |[],_,_,S=>S
 |[_],_,_,S=>S
 |[_,_],_,_,S=>S
 |[p,_,b],E,lam,S=>(Z0 G item b E (We item p.ks [] S).1 lam (We item p.ks [] S).2).2
 |_::_::_::_::_,_,_,S=>S
end
def Ql3(G:Nms)(item k f t:Int)(w:Bs)(a:Int)(z:Bool)(ks:List N)(E:List Frm)(fr:Nms)(lam:Bool)(S:SM):Z0 G item (.mk k f t w a z ks) E fr lam S=
 if k=6 then(fr,(Wa G item ks (⟨fr,lam⟩::E) [] false S).2)
 else if k=7 then Ym 4 item (.mk k f t w a z ks) (Wa G item ks E fr lam S).1 (Wa G item ks E fr lam S).2
 else if k=8 then Wa G item ks E fr lam (S.men (.mk k f t w a z ks) true (Yl G w (⟨fr,lam⟩::E) 0))
 else if k=23 then(fr,S.men (.mk k f t w a z ks) false (Yl G w (⟨fr,lam⟩::E) 0))
 else if k=28 then(fr,Yq G item ks (⟨fr,lam⟩::E) true S)
 else Wa G item ks E fr lam S:=by rw[Z0]
def Qdg(G:Nms)(item:Int)(E:List Frm)(fr:Nms)(lam:Bool)(S:SM):Wa G item [] E fr lam S=(fr,S):=by rw[Wa]
def Qcf(G:Nms)(item:Int)(n:N)(r:List N)(E:List Frm)(fr:Nms)(lam:Bool)(S:SM):Wa G item (n::r) E fr lam S=Wa G item r E (Z0 G item n E fr lam S).1 lam (Z0 G item n E fr lam S).2:=by rw[Wa]
def Qcd(G:Nms)(item:Int)(p q b:N)(E:List Frm)(lam:Bool)(S:SM):Yq G item [p,q,b] E lam S=(Z0 G item b E (We item p.ks [] S).1 lam (We item p.ks [] S).2).2:=by rw[Yq]
def Qfa(G:Nms)(item:Int){l:List N}(h:l.length≠3)(E:List Frm)(lam:Bool)(S:SM):Yq G item l E lam S=S:=by
 match l,h with
 |[],_=>rw[Yq]
 |[_],_=>rw[Yq]
 |[_,_],_=>rw[Yq]
 |[_,_,_],h=>exact absurd rfl h
 |_::_::_::_::_,_=>rw[Yq]
def W5:Int->List N->Nms->SM->Nms×SM
 |_,[],G,S=>(G,S)
 |i,n::r,G,S=>if n.k=2 then W5 (i+1) r (Ym 1 i n G S).1 (Ym 1 i n G S).2 else if n.k=3 then W5 (i+1) r (Ym 2 i n G S).1 (Ym 2 i n G S).2 else W5 (i+1) r G S
def Zr(G:Nms):Int->List N->SM->SM
 |_,[],S=>S
 |i,n::r,S=>Zr G (i+1) r (if n.k=3 then Yq G i n.ks [] false S else S)
def allP(n:N):SM:=Zr (W5 0 n.ks [] ⟨[],[],[]⟩).1 0 n.ks (W5 0 n.ks [] ⟨[],[],[]⟩).2
structure Nm where
 to:Int
 beg:Bool
 lam:Bool
def Qer(x:Nm):List D:=[.int .i64 x.to,.bool x.beg,.bool x.lam]
def Zk(bs:List SBd)(x:Nm):Bs:=(bs.getD x.to.toNat default).w
def dupR(bs:List SBd)(w:Bs):List Nm->Bool
 |[]=>false
 |x::r=>if x.beg then false else if Zk bs x=w then true else dupR bs w r
def Vy(bs:List SBd)(w:Bs):List Nm->Int->Option (Int×Int)
 |[],_=>none
 |x::r,far=>if x.beg then Vy bs w r (if x.lam then far+1 else far)else if Zk bs x=w then some (x.to,far)else Vy bs w r far
def Vh(bs:List SBd)(w:Bs)(L:List Nm):Int×Int:=match Vy bs w L 0 with
 |none=>(-1,0)
 |some (i,far)=>if(bs.getD i.toNat default).k<3 then(i,0)else(i,far)
def Wx(kind item:Int)(n:N)(L:List Nm)(S:SM):List Nm×SM:=(⟨S.bs.length,false,false⟩::L,S.bind kind item n (dupR S.bs n.w L))
def Yd(item:Int):List N->List Nm->SM->List Nm×SM
 |[],L,S=>(L,S)
 |n::r,L,S=>Yd item r (Wx 3 item n L S).1 (Wx 3 item n L S).2
mutual
def Qae(item:Int):N->List Nm->SM->List Nm×SM
 |.mk k f t w a z ks,L,S=>
 if k=6 then(L,(Wr item ks (⟨0,true,false⟩::L) S).2)
 else if k=7 then Wx 4 item (.mk k f t w a z ks) (Wr item ks L S).1 (Wr item ks L S).2
 else if k=8 then Wr item ks L (S.men (.mk k f t w a z ks) true (Vh S.bs w L))
 else if k=23 then(L,S.men (.mk k f t w a z ks) false (Vh S.bs w L))
 else if k=28 then(L,Yk item ks L true S)
 else Wr item ks L S
def Wr(item:Int):List N->List Nm->SM->List Nm×SM
 |[],L,S=>(L,S)
 |n::r,L,S=>Wr item r (Qae item n L S).1 (Qae item n L S).2
def Yk(item:Int):List N->List Nm->Bool->SM->SM
 |[],_,_,S=>S
 |[_],_,_,S=>S
 |[_,_],_,_,S=>S
 |[p,_,b],L,lam,S=>(Qae item b (Yd item p.ks (⟨0,true,lam⟩::L) S).1 (Yd item p.ks (⟨0,true,lam⟩::L) S).2).2
 |_::_::_::_::_,_,_,S=>S
end
def Qhs(item k f t:Int)(w:Bs)(a:Int)(z:Bool)(ks:List N)(L:List Nm)(S:SM):Qae item (.mk k f t w a z ks) L S=
 if k=6 then(L,(Wr item ks (⟨0,true,false⟩::L) S).2)
 else if k=7 then Wx 4 item (.mk k f t w a z ks) (Wr item ks L S).1 (Wr item ks L S).2
 else if k=8 then Wr item ks L (S.men (.mk k f t w a z ks) true (Vh S.bs w L))
 else if k=23 then(L,S.men (.mk k f t w a z ks) false (Vh S.bs w L))
 else if k=28 then(L,Yk item ks L true S)
 else Wr item ks L S:=by rw[Qae]
def Qb5(item:Int)(L:List Nm)(S:SM):Wr item [] L S=(L,S):=by rw[Wr]
def Qa0(item:Int)(n:N)(r:List N)(L:List Nm)(S:SM):Wr item (n::r) L S=Wr item r (Qae item n L S).1 (Qae item n L S).2:=by rw[Wr]
def Qaj(item:Int)(p q b:N)(L:List Nm)(lam:Bool)(S:SM):Yk item [p,q,b] L lam S=(Qae item b (Yd item p.ks (⟨0,true,lam⟩::L) S).1 (Yd item p.ks (⟨0,true,lam⟩::L) S).2).2:=by rw[Yk]
def Qe9(item:Int){l:List N}(h:l.length≠3)(L:List Nm)(lam:Bool)(S:SM):Yk item l L lam S=S:=by
 match l,h with
 |[],_=>rw[Yk]
 |[_],_=>rw[Yk]
 |[_,_],_=>rw[Yk]
 |[_,_,_],h=>exact absurd rfl h
 |_::_::_::_::_,_=>rw[Yk]
def Wv:Int->List N->List Nm->SM->List Nm×SM
 |_,[],L,S=>(L,S)
 |i,n::r,L,S=>if n.k=2 then Wv (i+1) r (Wx 1 i n L S).1 (Wx 1 i n L S).2 else if n.k=3 then Wv (i+1) r (Wx 2 i n L S).1 (Wx 2 i n L S).2 else Wv (i+1) r L S
def V6(L:List Nm):Int->List N->SM->SM
 |_,[],S=>S
 |i,n::r,S=>V6 L (i+1) r (if n.k=3 then Yk i n.ks L false S else S)
def allR(n:N):SM:=V6 (Wv 0 n.ks [] ⟨[],[],[]⟩).1 0 n.ks (Wv 0 n.ks [] ⟨[],[],[]⟩).2
structure Seg(bs:List SBd)(lo:Bool)(es:Nms)(l:List Nm):Prop where
 get:∀w,Zm w es=(l.find? λx=>decide (Zk bs x=w)).map Nm.to
 ok:∀x∈l,x.beg=false/\0<=x.to/\x.to<bs.length/\(decide ((bs.getD x.to.toNat default).k<3))=lo
inductive SRel(G:Nms)(bs:List SBd):List Frm->List Nm->Prop
 |top {l:List Nm} (h:Seg bs true G l):SRel G bs [] l
 |up {es:Nms} {lam:Bool} {l r:List Nm} {E:List Frm} (h:Seg bs false es l) (hr:SRel G bs E r):SRel G bs (⟨es,lam⟩::E) (l++⟨0,true,lam⟩::r)
def Qmp{bs:List SBd}{i:Int}(h0:0<=i)(h:i<bs.length)(l:List SBd):(bs++l).getD i.toNat default=bs.getD i.toNat default:=by simp only[Q3a];rw[Q19 (by omega)]
def Seg.app{bs:List SBd}{lo:Bool}{es:Nms}{l:List Nm}(h:Seg bs lo es l)(b:List SBd):Seg (bs++b) lo es l:=by
 refine⟨λw=>?_,λx hx=>?_⟩
 .rw[h.get]
  congr 1;have:∀l':List Nm,(∀x∈l',x∈l)->l'.find? (λx=>decide (Zk bs x=w))=l'.find? (λx=>decide (Zk (bs++b) x=w)):=by
   intro l';induction l' with
   |nil=>intro _;rfl
   |cons y r ih=>
    intro hh;obtain⟨-,h1,h2,-⟩:=h.ok y (hh y (by simp));have e:Zk (bs++b) y=Zk bs y:=by unfold Zk;rw[Qmp h1 h2]
    simp only[Q6f];rw[e,ih λx hx=>hh x (by simp[hx])]
  exact this l λ_ h=>h
 .obtain⟨h1,h2,h3,h4⟩:=h.ok x hx;refine⟨h1,h2,by simp;omega,?_⟩;rw[Qmp h2 h3];exact h4
def SRel.app{G:Nms}{bs:List SBd}{E:List Frm}{L:List Nm}(h:SRel G bs E L)(b:List SBd):SRel G (bs++b) E L:=by
 induction h with
 |top h=>exact .top (h.app b)
 |up h _ ih=>exact .up (h.app b) ih
def Qtz{bs:List SBd}{lo:Bool}{es:Nms}{l:List Nm}(h:Seg bs lo es l)(w:Bs)(r:List Nm)(hr:r=[]\/∃x r',r=x::r'/\x.beg=true):dupR bs w (l++r)=(Zm w es).isSome:=by
 rw[h.get];have hok:=h.ok;clear h;induction l with
 |nil=>
  rcases hr with rfl|⟨x,r',rfl,hx⟩
  .rfl
  .simp[dupR,hx]
 |cons y l ih=>
  have:=(hok y (by simp)).1;simp only[Q2m,dupR,this,Q6f];by_cases hw:Zk bs y=w
  .simp[hw]
  .simp[hw];have:=ih λx hx=>hok x (by simp[hx]);rw[this];simp
def Qqe{bs:List SBd}{lo:Bool}{es:Nms}{l:List Nm}(h:Seg bs lo es l)(w:Bs)(r:List Nm)(far:Int):Vy bs w (l++r) far=(match Zm w es with|some i=>some (i,far)|none=>Vy bs w r far):=by
 rw[h.get];have hok:=h.ok;clear h;induction l with
 |nil=>rfl
 |cons y l ih=>
  have:=(hok y (by simp)).1;simp only[Q2m,Vy,this,Q6f];by_cases hw:Zk bs y=w
  .simp[hw]
  .simp[hw];rw[ih λx hx=>hok x (by simp[hx])]
def Qti{bs:List SBd}{lo:Bool}{es:Nms}{l:List Nm}(h:Seg bs lo es l){w:Bs}{i:Int}(hi:Zm w es=some i):0<=i/\i<bs.length/\decide ((bs.getD i.toNat default).k<3)=lo:=by rw[h.get]at hi;simp only[Q13]at hi;obtain⟨x,hx,rfl⟩:=hi;exact(h.ok x (Q60 hx)).2
def Qxq{G:Nms}{bs:List SBd}{E:List Frm}{L:List Nm}(h:SRel G bs E L)(w:Bs):∀far:Int,Yl G w E far=(match Vy bs w L far with
 |none=>(-1,0)
 |some (i,far)=>if(bs.getD i.toNat default).k<3 then(i,0)else(i,far)):=by
 induction h with
 |@top l h=>
  intro far;have:=Qqe h w [] far;rw[Q2k]at this;rw[this];simp only[Yl];cases hg:Zm w G with
  |none=>simp[Vy]
  |some i=>have:=(Qti h hg).2.2;simp only[decide_eq_true_eq]at this;simp only[this,if_true]
 |@up es lam l r E h hr ih=>
  intro far;rw[Qqe h];simp only[Yl];cases hg:Zm w es with
  |none=>simp only[Vy];rw[ih];rfl
  |some i=>have:=(Qti h hg).2.2;simp only[decide_eq_false_iff_not]at this;simp only[this,if_false]
def Seg.put{bs:List SBd}{lo:Bool}{es:Nms}{l:List Nm}(h:Seg bs lo es l)(b:SBd)(hb:decide (b.k<3)=lo):Seg (bs++[b]) lo (Qdd b.w bs.length es) (⟨bs.length,false,false⟩::l):=by
 have h':=h.app [b];have hg:(bs++[b]).getD ((bs.length:Int)).toNat default=b:=by simp
 refine⟨λw=>?_,λx hx=>?_⟩
 .rw[Qjb,Q6f,h'.get];simp only[Zk,hg];by_cases hw:w=b.w
  .simp[hw]
  .have:¬b.w=w:=λe=>hw e.symm;simp[hw,this]
 .rcases Q2v.1 hx with rfl|hx
  .refine⟨rfl,by simp,by simp;omega,?_⟩;rw[hg];exact hb
  .exact h'.ok x hx
structure SRelN(G:Nms)(bs:List SBd)(E:List Frm)(fr:Nms)(lam:Bool)(L:List Nm):Prop where
 ex:∃l r,L=l++⟨0,true,lam⟩::r/\Seg bs false fr l/\SRel G bs E r
def SRelN.rel{G:Nms}{bs:List SBd}{E:List Frm}{fr:Nms}{lam:Bool}{L:List Nm}(h:SRelN G bs E fr lam L):SRel G bs (⟨fr,lam⟩::E) L:=by obtain⟨l,r,rfl,h1,h2⟩:=h.ex;exact .up h1 h2
def SRelN.app{G:Nms}{bs:List SBd}{E:List Frm}{fr:Nms}{lam:Bool}{L:List Nm}(h:SRelN G bs E fr lam L)(b:List SBd):SRelN G (bs++b) E fr lam L:=by obtain⟨l,r,rfl,h1,h2⟩:=h.ex;exact⟨l,r,rfl,h1.app b,h2.app b⟩
def SRel.new{G:Nms}{bs:List SBd}{E:List Frm}{L:List Nm}(h:SRel G bs E L)(lam:Bool):SRelN G bs E [] lam (⟨0,true,lam⟩::L):=⟨[],L,rfl,⟨λ_=>rfl,by simp⟩,h⟩
def SRelN.bind{G:Nms}{S:SM}{E:List Frm}{fr:Nms}{lam:Bool}{L:List Nm}(h:SRelN G S.bs E fr lam L){kind:Int}(hk:3<=kind)(item:Int)(n:N):
 (Ym kind item n fr S).2=(Wx kind item n L S).2/\SRelN G (Ym kind item n fr S).2.bs E (Ym kind item n fr S).1 lam (Wx kind item n L S).1/\∃b,(Ym kind item n fr S).2.bs=S.bs++b:=by
 obtain⟨l,r,rfl,h1,h2⟩:=h.ex;refine⟨?_,⟨_,r,rfl,h1.put ⟨n.at_,kind,n.w,item⟩ (by simp;omega),h2.app _⟩,_,rfl⟩;simp only[Ym,Wx];rw[Qtz h1 n.w _ (.inr ⟨_,_,rfl,rfl⟩)]
def SRelN.binds{G:Nms}{E:List Frm}{lam:Bool}(item:Int):∀(l:List N){S:SM}{fr:Nms}{L:List Nm},SRelN G S.bs E fr lam L->
 (We item l fr S).2=(Yd item l L S).2/\SRelN G (We item l fr S).2.bs E (We item l fr S).1 lam (Yd item l L S).1/\∃b,(We item l fr S).2.bs=S.bs++b
 |[],S,fr,L,h=>⟨rfl,h,[],by simp[We]⟩
 |n::r,S,fr,L,h=>by obtain⟨h1,h2,b,hb⟩:=h.bind (Q16 3) item n;obtain⟨k1,k2,c,hc⟩:=SRelN.binds item r h2;rw[We,Yd];rw[h1]at k1 k2 hc⊢;refine⟨k1,k2,b++c,?_⟩;rw[hc,<-h1,hb,Q2g]
def Qxc(S:SM)(n:N)(wr:Bool)(p:Int×Int):(S.men n wr p).bs=S.bs:=rfl
def Qye(n:N):Prop:=∀(G:Nms)(item:Int)(E:List Frm)(fr:Nms)(lam:Bool)(S:SM)(L:List Nm),SRelN G S.bs E fr lam L->
 (Z0 G item n E fr lam S).2=(Qae item n L S).2/\SRelN G (Z0 G item n E fr lam S).2.bs E (Z0 G item n E fr lam S).1 lam (Qae item n L S).1/\∃b,(Z0 G item n E fr lam S).2.bs=S.bs++b
def Qgl{ks:List N}(ih:∀p∈ks,Qye p):∀(G:Nms)(item:Int)(E:List Frm)(fr:Nms)(lam:Bool)(S:SM)(L:List Nm),SRelN G S.bs E fr lam L->
 (Wa G item ks E fr lam S).2=(Wr item ks L S).2/\SRelN G (Wa G item ks E fr lam S).2.bs E (Wa G item ks E fr lam S).1 lam (Wr item ks L S).1/\∃b,(Wa G item ks E fr lam S).2.bs=S.bs++b:=by
 induction ks with
 |nil=>intro G item E fr lam S L h;rw[Qdg,Qb5];exact⟨rfl,h,[],by simp⟩
 |cons n r ih2=>intro G item E fr lam S L h;obtain⟨h1,h2,b,hb⟩:=ih n (by simp) G item E fr lam S L h;obtain⟨k1,k2,c,hc⟩:=ih2 (λp hp=>ih p (by simp[hp])) G item E _ lam _ _ h2;rw[Qcf,Qa0];rw[h1]at k1 k2 hc⊢;exact⟨k1,k2,b++c,by rw[hc,<-h1,hb,Q2g]⟩
def Qkh{ks:List N}(ih:∀p∈ks,Qye p)(G:Nms)(item:Int)(E:List Frm)(lam:Bool)(S:SM)(L:List Nm)(h:SRel G S.bs E L):
 Yq G item ks E lam S=Yk item ks L lam S/\∃b,(Yq G item ks E lam S).bs=S.bs++b:=by
 by_cases hl:ks.length=3
 .match ks,hl with
  |[p,q,b],_=>rw[Qcd,Qaj];obtain⟨h1,h2,c,hc⟩:=SRelN.binds item p.ks (h.new lam);obtain⟨k1,k2,d,hd⟩:=ih b (by simp) G item E _ lam _ _ h2;rw[h1]at k1 k2 hd⊢;exact⟨k1,c++d,by rw[hd,<-h1,hc,Q2g]⟩
 .rw[Qfa _ _ hl,Qe9 _ hl];exact⟨rfl,[],by simp⟩
def both(n:N):Qye n:=by
 induction n using N.ind with
 |h k f t w a z ks ih=>
 intro G item E fr lam S L h;have hf:Yl G w (⟨fr,lam⟩::E) 0=Vh S.bs w L:=Qxq h.rel w 0;rw[Ql3,Qhs,hf];by_cases h6:k=6
 .rw[if_pos h6,if_pos h6];obtain⟨h1,h2,b,hb⟩:=Qgl ih G item _ [] false S _ (h.rel.new false);refine⟨h1,?_,b,hb⟩;simp only[hb];exact h.app b
 rw[if_neg h6,if_neg h6];by_cases h7:k=7
 .rw[if_pos h7,if_pos h7];obtain⟨h1,h2,b,hb⟩:=Qgl ih G item E fr lam S _ h;obtain⟨k1,k2,c,hc⟩:=h2.bind (by decide:(3:Int)<=4) item (.mk k f t w a z ks);rw[h1]at k1 k2 hc⊢;exact⟨k1,k2,b++c,by rw[hc,<-h1,hb,Q2g]⟩
 rw[if_neg h7,if_neg h7];by_cases h8:k=8
 .rw[if_pos h8,if_pos h8];exact Qgl ih G item E fr lam _ L h
 rw[if_neg h8,if_neg h8];by_cases h9:k=23
 .rw[if_pos h9,if_pos h9];exact⟨rfl,h,[],by simp[Qxc]⟩
 rw[if_neg h9,if_neg h9];by_cases h10:k=28
 .rw[if_pos h10,if_pos h10];obtain⟨h1,b,hb⟩:=Qkh ih G item _ true S L h.rel;refine⟨h1,?_,b,hb⟩;simp only[hb];exact h.app b
 rw[if_neg h10,if_neg h10];exact Qgl ih G item E fr lam S L h
def Qf5:∀(l:List N)(i:Int)(G:Nms)(L:List Nm)(S:SM),Seg S.bs true G L->
 (W5 i l G S).2=(Wv i l L S).2/\Seg (W5 i l G S).2.bs true (W5 i l G S).1 (Wv i l L S).1
 |[],i,G,L,S,h=>⟨rfl,h⟩
 |n::r,i,G,L,S,h=>by
  have step:∀kind:Int,kind<3->(Ym kind i n G S).2=(Wx kind i n L S).2/\Seg (Ym kind i n G S).2.bs true (Ym kind i n G S).1 (Wx kind i n L S).1:=λkind hk=>by have:=Qtz h n.w [] (.inl rfl);rw[Q2k]at this;exact⟨by simp only[Ym,Wx,this],h.put ⟨n.at_,kind,n.w,i⟩ (by simp;omega)⟩
  simp only[W5,Wv];split
  .obtain⟨h1,h2⟩:=step 1 (by decide);have:=Qf5 r (i+1) _ _ _ h2;rw[h1]at this⊢;exact this
  .split
   .obtain⟨h1,h2⟩:=step 2 (by decide);have:=Qf5 r (i+1) _ _ _ h2;rw[h1]at this⊢;exact this
   .exact Qf5 r (i+1) _ _ _ h
def Qjw{G:Nms}{L:List Nm}:∀(l:List N)(i:Int)(S:SM),SRel G S.bs [] L->Zr G i l S=V6 L i l S
 |[],_,_,_=>rfl
 |n::r,i,S,h=>by
  simp only[Zr,V6];obtain⟨h1,b,hb⟩:=Qkh (ks:=n.ks) (λp _=>both p) G i [] false S L h;by_cases hk:n.k=3
  .rw[if_pos hk,if_pos hk,<-h1];exact Qjw r (i+1) _ (by rw[hb];exact h.app b)
  .rw[if_neg hk,if_neg hk];exact Qjw r (i+1) _ h
def Qm3(n:N):allP n=allR n:=by obtain⟨h1,h2⟩:=Qf5 n.ks 0 [] [] ⟨[],[],[]⟩ ⟨λ_=>rfl,by simp⟩;unfold allP allR;rw[<-h1];exact Qjw _ _ _ (.top h2)
section
structure SF where
 (wrong bind within res node nodeC kids mention find closed closedC cmp srt cmpI:FuncId)
 (tn tp ts tfp tf tb tm bd mn ed:TypeId)
structure SC where
 (im tb tm tv ib g:Nat)
def Vw(l:Nms):List (D×A):=l.map λe=>(.str e.1,YI e.2)
def Qjc(w:Bs):∀l:Nms,Qam (.str w) (Vw l)=(Zm w l).map λi=>YI i
 |[]=>rfl
 |e::r=>by have ih:=Qjc w r;unfold Vw at ih⊢;simp only[Q2w,Qam,Qgr,Zm,decide_eq_true_eq,ih];split<;>rfl
def Qnu(w:Bs)(v:Int):∀l:Nms,Qaf (.str w) (YI v) (Vw l)=Vw (Qdd w v l)
 |[]=>rfl
 |e::r=>by have ih:=Qnu w v r;unfold Vw at ih⊢;simp only[Q2w,Qaf,Qgr,Qdd,decide_eq_true_eq,ih];split<;>simp_all
def Qqc(w:Bs)(l:Nms):mpOk (.str []) (.str w) (Vw l)=true:=by unfold mpOk Vw;simp[Qcg]
def mbox(F:SF)(c:SC)(S:SM):Ob:=.box F.tm [.osl true 4 (S.bs.map Qw) c.tb,.osl true 4 (S.ms.map Ya) c.tm,.vsl c.tv S.bad.length S.bad.length]
structure SInv(F:SF)(c:SC)(S:SM)(now:A)(item:Int)(G:Nms)(H:Hp):Prop where
 m:H[c.im]?=some (mbox F c S)
 b:H[c.tb]?=some (.tok S.bs.length 4 F.bd)
 e:H[c.tm]?=some (.tok S.ms.length 4 F.mn)
 v:H[c.tv]?=some (.vec 2 F.ed S.bad.length (S.bad.map Q2))
 i:H[c.ib]?=some (.box F.tb [.ptr c.im 0,now,.map c.g,YI item])
 g:H[c.g]?=some (.mp (Vw G))
 nd:(c.im≠c.tb/\c.im≠c.tm/\c.im≠c.tv/\c.im≠c.ib/\c.im≠c.g)/\(c.tb≠c.tm/\c.tb≠c.tv/\c.tb≠c.ib/\c.tb≠c.g)/\(c.tm≠c.tv/\c.tm≠c.ib/\c.tm≠c.g)/\(c.tv≠c.ib/\c.tv≠c.g)/\c.ib≠c.g
def SC.off(c:SC)(j:Nat):Prop:=j≠c.im/\j≠c.tb/\j≠c.tm/\j≠c.tv
def sput(F:SF)(c:SC)(S:SM)(H:Hp):Hp:=(((H.set c.tv (.vec 2 F.ed S.bad.length (S.bad.map Q2))).set c.tm (.tok S.ms.length 4 F.mn)).set c.tb (.tok S.bs.length 4 F.bd)).set c.im (mbox F c S)
section
variable{F:SF}{c:SC}{S S':SM}{now:A}{item:Int}{G:Nms}{H:Hp}
def Yp:(sput F c S H).length=H.length:=by simp[sput]
def V1{j:Nat}(h:c.off j):(sput F c S H)[j]?=H[j]?:=by obtain⟨h1,h2,h3,h4⟩:=h;simp[sput,Q15 (Ne.symm h1),Q15 (Ne.symm h2),Q15 (Ne.symm h3),Q15 (Ne.symm h4)]
def SInv.lt(h:SInv F c S now item G H):c.im<H.length/\c.tb<H.length/\c.tm<H.length/\c.tv<H.length/\c.ib<H.length/\c.g<H.length:=⟨Wl h.m,Wl h.b,Wl h.e,Wl h.v,Wl h.i,Wl h.g⟩
def SInv.offI(h:SInv F c S now item G H):c.off c.ib:=by obtain⟨a,b,d,e,f⟩:=h.nd;exact⟨a.2.2.2.1.symm,b.2.2.1.symm,d.2.1.symm,e.1.symm⟩
def SInv.offG(h:SInv F c S now item G H):c.off c.g:=by obtain⟨a,b,d,e,f⟩:=h.nd;exact⟨a.2.2.2.2.symm,b.2.2.2.symm,d.2.2.symm,e.2.symm⟩
def Qb9(h:SInv F c S now item G H)(X:Hp):sput F c S' (H++X)=sput F c S' H++X:=by obtain⟨a,b,d,e,-⟩:=h.lt;unfold sput;rw[Q18 _ _ e,Q18 _ _ (by simpa using d),Q18 _ _ (by simpa using b),Q18 _ _ (by simpa using a)]
def SInv.app(h:SInv F c S now item G H)(X:Hp):SInv F c S now item G (H++X):=⟨Wj h.m X,Wj h.b X,Wj h.e X,Wj h.v X,Wj h.i X,Wj h.g X,h.nd⟩
def SInv.put(h:SInv F c S now item G H)(S':SM):SInv F c S' now item G (sput F c S' H):=by
 obtain⟨p1,p2,p3,p4,p5,p6⟩:=h.lt;obtain⟨a,b,d,e,f⟩:=h.nd;refine⟨?_,?_,?_,?_,by rw[V1 h.offI];exact h.i,by rw[V1 h.offG];exact h.g,h.nd⟩
 .unfold sput;rw[Q17 (by simpa using p1)]
 .unfold sput;rw[Q15 a.1,Q17 (by simpa using p2)]
 .unfold sput;rw[Q15 a.2.1,Q15 b.1,Q17 (by simpa using p3)]
 .unfold sput;rw[Q15 a.2.2.1,Q15 b.2.1,Q15 d.1,Q17 (by simpa using p4)]
def Qf7(h:SInv F c S now item G H):sput F c S H=H:=by unfold sput;rw[Hp.set_self h.v,Hp.set_self h.e,Hp.set_self h.b,Hp.set_self h.m]
def Q1j{A B:Hp}(h:∀j:Nat,A[j]?=B[j]?):A=B:=Q3e h
def Qf6(S S':SM):sput F c S' (sput F c S H)=sput F c S' H:=by
 refine Q1j λj=>?_;unfold sput;simp only[List.getElem?_set,Q21];split
 .rfl
 .split
  .rfl
  .split
   .rfl
   .split
    .rfl
    .simp_all
def Qpu{j:Nat}(h:c.off j)(o:Ob):sput F c S (H.set j o)=(sput F c S H).set j o:=by obtain⟨h1,h2,h3,h4⟩:=h;unfold sput;rw[Q4j _ _ h4,Q4j _ _ h3,Q4j _ _ h2,Q4j _ _ h1]
def SInv.set(h:SInv F c S now item G H){j:Nat}(hj:c.off j)(h1:j≠c.ib)(h2:j≠c.g)(o:Ob):SInv F c S now item G (H.set j o):=by obtain⟨a1,a2,a3,a4⟩:=hj;exact⟨by rw[Q15 a1];exact h.m,by rw[Q15 a2];exact h.b,by rw[Q15 a3];exact h.e,by rw[Q15 a4];exact h.v,by rw[Q15 h1];exact h.i,by rw[Q15 h2];exact h.g,h.nd⟩
def Qqd{n:Nat}(h1:c.tb<n)(h2:c.tm<n)(h3:c.tv<n):(mbox F c S).clr n=mbox F c S:=by simp[mbox,h1,h2,h3]
def Qhl(h:SInv F c S now item G H)(hc:H.Closed):Hp.cut H.length (sput F c S' H)=sput F c S' H:=by obtain⟨p1,p2,p3,p4,p5,p6⟩:=h.lt;unfold sput;rw[Hp.cut_set,Hp.cut_set,Hp.cut_set,Hp.cut_set,Qb hc,Qqd p2 p3 p4];simp
def Qi7(h:SInv F c S now item G H)(hc:H.Closed)(X:Hp):Hp.cut H.length (sput F c S' H++X)=sput F c S' H:=by rw[Qaq (by rw[Yp]),Qhl h hc]
def Qhc(n:Nat)(l:Nms):(Ob.mp (Vw l)).clr n=.mp (Vw l):=by simp[Vw]
end
def Ve(F:SF)(H:Hp):A->List (Nat×Nat×Frm)->Prop
 |a,[]=>a=.d .nilp
 |a,(i,m,f)::r=>a=.ptr i 0/\(∀x∈r,x.1<i)/\∃up,H[i]?=some (.box F.tf [.map m,.d (.bool f.lam),up])/\H[m]?=some (.mp (Vw f.es))/\Ve F H up r
def Ve.keep{F:SF}{H H':Hp}:∀{l:List (Nat×Nat×Frm)} {a:A},Ve F H a l->(∀x∈l,H'[x.1]?=H[x.1]?/\H'[x.2.1]?=H[x.2.1]?)->Ve F H' a l
 |[],a,h,_=>h
 |(i,m,f)::r,a,⟨h1,h2,up,h3,h4,h5⟩,hk=>by obtain⟨k1,k2⟩:=hk (i,m,f) (by simp);exact⟨h1,h2,up,by rw[k1];exact h3,by rw[k2];exact h4,h5.keep λx hx=>hk x (by simp[hx])⟩
def Ve.lt{F:SF}{H:Hp}:∀{l:List (Nat×Nat×Frm)} {a:A},Ve F H a l->∀x∈l,x.1<H.length/\x.2.1<H.length
 |[],a,h,x,hx=>by simp at hx
 |(i,m,f)::r,a,⟨h1,h2,up,h3,h4,h5⟩,x,hx=>by
  rcases Q2v.1 hx with rfl|hx
  .exact⟨Wl h3,Wl h4⟩
  .exact h5.lt x hx
def Ve.app{F:SF}{H:Hp}{l:List (Nat×Nat×Frm)}{a:A}(h:Ve F H a l)(X:Hp):Ve F (H++X) a l:=h.keep λx hx=>⟨Q19 (h.lt x hx).1,Q19 (h.lt x hx).2⟩
def Ve.val{F:SF}{H:Hp}{l:List (Nat×Nat×Frm)}{a:A}(h:Ve F H a l):(a=.d .nilp/\l=[])\/∃i m f r,l=(i,m,f)::r/\a=.ptr i 0/\i<H.length:=by
 cases l with
 |nil=>exact .inl ⟨h,rfl⟩
 |cons x r=>exact .inr ⟨x.1,x.2.1,x.2.2,r,rfl,h.1,(h.lt x (by simp)).1⟩
structure NInv(F:SF)(c:SC)(S:SM)(item:Int)(G:Nms)(i m:Nat)(fr:Nms)(lam:Bool)(E:List (Nat×Nat×Frm))(H:Hp):Prop where
 s:SInv F c S (.ptr i 0) item G H
 ch:Ve F H (.ptr i 0) ((i,m,⟨fr,lam⟩)::E)
 off:∀x∈(i,m,(⟨fr,lam⟩:Frm))::E,(c.off x.1/\x.1≠c.ib/\x.1≠c.g)/\(c.off x.2.1/\x.2.1≠c.ib/\x.2.1≠c.g)
 nm:i≠m/\∀x∈E,m≠x.1/\m≠x.2.1
section
variable{F:SF}{c:SC}{S S':SM}{item:Int}{G:Nms}{H:Hp}{i m:Nat}{fr fr':Nms}{lam:Bool}{E:List (Nat×Nat×Frm)}
def NInv.app(h:NInv F c S item G i m fr lam E H)(X:Hp):NInv F c S item G i m fr lam E (H++X):=⟨h.s.app X,h.ch.app X,h.off,h.nm⟩
def NInv.offM(h:NInv F c S item G i m fr lam E H):c.off m/\m≠c.ib/\m≠c.g:=(h.off (i,m,⟨fr,lam⟩) (by simp)).2
def NInv.lt(h:NInv F c S item G i m fr lam E H):i<H.length/\m<H.length:=h.ch.lt (i,m,⟨fr,lam⟩) (by simp)
def NInv.mp(h:NInv F c S item G i m fr lam E H):H[m]?=some (.mp (Vw fr)):=by obtain⟨-,-,up,-,h4,-⟩:=h.ch;exact h4
def NInv.put(h:NInv F c S item G i m fr lam E H)(S':SM):NInv F c S' item G i m fr lam E (sput F c S' H):=by refine⟨h.s.put S',h.ch.keep λx hx=>?_,h.off,h.nm⟩;have:=h.off x hx;exact⟨V1 this.1.1,V1 this.2.1⟩
def NInv.setM(h:NInv F c S item G i m fr lam E H)(fr':Nms):NInv F c S item G i m fr' lam E (H.set m (.mp (Vw fr'))):=by
 obtain⟨o1,o2,o3⟩:=h.offM;refine⟨h.s.set o1 o2 o3 _,?_,λx hx=>?_,h.nm⟩
 .obtain⟨h1,h2,up,h3,h4,h5⟩:=h.ch;refine⟨h1,h2,up,by rw[Q15 h.nm.1.symm];exact h3,by rw[Q17 (Wl h4)],h5.keep λx hx=>?_⟩;have:=h.nm.2 x hx;exact⟨Q15 this.1,Q15 this.2⟩
 .rcases Q2v.1 hx with rfl|hx
  .exact h.off (i,m,⟨fr,lam⟩) (by simp)
  .exact h.off x (by simp[hx])
def nput(F:SF)(c:SC)(S:SM)(m:Nat)(fr:Nms)(H:Hp):Hp:=(sput F c S H).set m (.mp (Vw fr))
def NInv.nput(h:NInv F c S item G i m fr lam E H)(S':SM)(fr':Nms):NInv F c S' item G i m fr' lam E (nput F c S' m fr' H):=(h.put S').setM fr'
def Yw:(nput F c S m fr H).length=H.length:=by simp[nput,Yp]
def Qgb(h:c.off m)(S S':SM)(fr fr':Nms):nput F c S' m fr' (nput F c S m fr H)=nput F c S' m fr' H:=by unfold nput;rw[Qpu h,Qf6,Q32]
def Qal(h:NInv F c S item G i m fr lam E H)(X:Hp):nput F c S' m fr' (H++X)=nput F c S' m fr' H++X:=by unfold nput;rw[Qb9 h.s,Q18 _ _ (by rw[Yp];exact h.lt.2)]
def Qja(h:NInv F c S item G i m fr lam E H):nput F c S m fr H=H:=by unfold nput;rw[Qf7 h.s,Hp.set_self h.mp]
def Qga(h:NInv F c S item G i m fr lam E H)(S':SM):nput F c S' m fr H=sput F c S' H:=by unfold nput;rw[Hp.set_self (by rw[V1 h.offM.1];exact h.mp)]
def Qdc(h:NInv F c S item G i m fr lam E H)(hc:H.Closed)(X:Hp):Hp.cut H.length (nput F c S' m fr' H++X)=nput F c S' m fr' H:=by rw[Qaq (by rw[Yw])];unfold nput;rw[Hp.cut_set,Qhl h.s hc,Qhc]
def Qqb(h:NInv F c S item G i m fr lam E H)(hc:H.Closed):Hp.cut H.length (nput F c S' m fr' H)=nput F c S' m fr' H:=by have:=Qdc (S':=S') (fr':=fr') h hc [];rwa[Q2k]at this
end
def SM.sz(S:SM):Nat:=S.bs.length+S.ms.length+S.bad.length
def SM.bind_sz(S:SM)(k i:Int)(n:N)(d:Bool):(S.bind k i n d).sz<=S.sz+2:=by unfold SM.bind SM.sz;split<;>simp<;>omega
def SM.men_sz(S:SM)(n:N)(wr:Bool)(p:Int×Int):(S.men n wr p).sz<=S.sz+2:=by
 unfold SM.men SM.sz;simp only;split
 .simp;omega
 .split<;>simp<;>omega
end
def FOk(n:Nat)(es:Nms):Prop:=∀w i,Zm w es=some i->0<=i/\i<n
def FOk.nil(n:Nat):FOk n []:=λw i h=>by cases h
def FOk.mono{n m:Nat}{es:Nms}(h:FOk n es)(hm:n<=m):FOk m es:=λw i hi=>by have:=h w i hi;omega
def FOk.put{n:Nat}{es:Nms}(h:FOk n es)(w:Bs):FOk (n+1) (Qdd w n es):=λu i hi=>by
 rw[Qjb]at hi;split at hi
 .cases hi;omega
 .have:=h u i hi;omega
def Qqt{n:Nat}{G:Nms}(hG:FOk n G)(w:Bs):∀(E:List Frm)(far:Int),(∀f∈E,FOk n f.es)->0<=far->((Yl G w E far).1=-1\/0<=(Yl G w E far).1/\(Yl G w E far).1<n)/\0<=(Yl G w E far).2/\(Yl G w E far).2<=far+E.length
 |[],far,_,h0=>by
  simp only[Yl];cases hg:Zm w G with
  |none=>simp;omega
  |some i=>have:=hG w i hg;simp;omega
 |f::r,far,h,h0=>by
  simp only[Yl];cases hg:Zm w f.es with
  |none=>have:=Qqt hG w r (if f.lam then far+1 else far) (λx hx=>h x (by simp[hx])) (by split<;>omega);refine⟨this.1,this.2.1,?_⟩;have h3:=this.2.2;simp only[Q2i];split at h3<;>omega
  |some i=>have:=h f (by simp) w i hg;simp;omega
structure Grew(S S':SM)(k:Nat)(fr':Nms):Prop where
 bs:S.bs.length<=S'.bs.length
 sz:S'.sz<=S.sz+2*k
 ok:FOk S'.bs.length fr'
def Grew.bind{S:SM}{fr:Nms}(h:FOk S.bs.length fr)(kind item:Int)(n:N):Grew S (Ym kind item n fr S).2 1 (Ym kind item n fr S).1:=by
 refine⟨by simp[Ym,SM.bind],?_,?_⟩
 .exact SM.bind_sz S kind item n _
 .have:=h.put n.w;simpa[Ym,SM.bind]using this
def Grew.binds{item:Int}:∀(l:List N){S:SM}{fr:Nms},FOk S.bs.length fr->Grew S (We item l fr S).2 l.length (We item l fr S).1
 |[],S,fr,h=>⟨Q14 _,by simp[We],h⟩
 |n::r,S,fr,h=>by have h1:=Grew.bind h 3 item n;have h2:=Grew.binds (item:=item) r h1.ok;refine⟨Q3d h1.bs h2.bs,?_,h2.ok⟩;have:=h1.sz;have:=h2.sz;simp only[We,Q2i];omega
def Qyc(n:N):Prop:=∀(G:Nms)(item:Int)(E:List Frm)(fr:Nms)(lam:Bool)(S:SM),FOk S.bs.length fr->Grew S (Z0 G item n E fr lam S).2 n.size (Z0 G item n E fr lam S).1
def Qb7{ks:List N}(ih:∀p∈ks,Qyc p):∀(G:Nms)(item:Int)(E:List Frm)(fr:Nms)(lam:Bool)(S:SM),FOk S.bs.length fr->Grew S (Wa G item ks E fr lam S).2 (N.sizes ks) (Wa G item ks E fr lam S).1:=by
 induction ks with
 |nil=>intro G item E fr lam S h;rw[Qdg];exact⟨Q14 _,by simp,h⟩
 |cons n r ih2=>intro G item E fr lam S h;have h1:=ih n (by simp) G item E fr lam S h;have h2:=ih2 (λp hp=>ih p (by simp[hp])) G item E _ lam _ h1.ok;rw[Qcf,N.sizes_cons];refine⟨Q3d h1.bs h2.bs,?_,h2.ok⟩;have:=h1.sz;have:=h2.sz;omega
def Qkb{ks:List N}(ih:∀p∈ks,Qyc p)(G:Nms)(item:Int)(E:List Frm)(lam:Bool)(S:SM):S.bs.length<=(Yq G item ks E lam S).bs.length/\(Yq G item ks E lam S).sz<=S.sz+2*N.sizes ks:=by
 by_cases hl:ks.length=3
 .match ks,hl with
  |[p,q,b],_=>rw[Qcd];have h1:=Grew.binds (item:=item) p.ks (FOk.nil S.bs.length);have h2:=ih b (by simp) G item E _ lam _ h1.ok;have:=h1.sz;have:=h2.sz;have:=h1.bs;have:=h2.bs;have h3:=N.sizes_len p.ks;have h4:=N.size_ks p;simp only[N.sizes_cons,N.sizes_nil];omega
 .rw[Qfa _ _ hl];omega
def grew(n:N):Qyc n:=by
 induction n using N.ind with
 |h k f t w a z ks ih=>
 intro G item E fr lam S h;rw[Ql3,N.size_mk];by_cases h6:k=6
 .rw[if_pos h6];have h1:=Qb7 ih G item (⟨fr,lam⟩::E) [] false S (FOk.nil _);have:=h1.sz;exact⟨h1.bs,by simp only;omega,h.mono h1.bs⟩
 rw[if_neg h6];by_cases h7:k=7
 .rw[if_pos h7];have h1:=Qb7 ih G item E fr lam S h;have h2:=Grew.bind h1.ok 4 item (.mk k f t w a z ks);have:=h1.sz;have:=h2.sz;exact⟨Q3d h1.bs h2.bs,by omega,h2.ok⟩
 rw[if_neg h7];by_cases h8:k=8
 .rw[if_pos h8];have h1:=Qb7 ih G item E fr lam (S.men (.mk k f t w a z ks) true (Yl G w (⟨fr,lam⟩::E) 0)) h;have:=h1.sz;have:=SM.men_sz S (.mk k f t w a z ks) true (Yl G w (⟨fr,lam⟩::E) 0);exact⟨h1.bs,by omega,h1.ok⟩
 rw[if_neg h8];by_cases h9:k=23
 .rw[if_pos h9];have:=SM.men_sz S (.mk k f t w a z ks) false (Yl G w (⟨fr,lam⟩::E) 0);exact⟨Q14 _,by simp only;omega,h⟩
 rw[if_neg h9];by_cases h10:k=28
 .rw[if_pos h10];have h1:=Qkb ih G item (⟨fr,lam⟩::E) true S;exact⟨h1.1,by simp only;omega,h.mono h1.1⟩
 rw[if_neg h10];have h1:=Qb7 ih G item E fr lam S h;have:=h1.sz;exact⟨h1.bs,by omega,h1.ok⟩
section
structure RSF where
 (rbind rclosed rbegin rnode rmention:FuncId)
 (tn rtm rnm red rbd rmn:TypeId)
structure RSC where
 (im tb tm td:Nat)
def rbox(F:RSF)(c:RSC)(S:SM):Ob:=.box F.rtm [.osl true 4 (S.bs.map Qw) c.tb,.osl true 4 (S.ms.map Ya) c.tm,.osl true 2 (S.bad.map Q2) c.td]
structure RSInv(F:RSF)(c:RSC)(S:SM)(H:Hp):Prop where
 m:H[c.im]?=some (rbox F c S)
 b:H[c.tb]?=some (.tok S.bs.length 4 F.rbd)
 e:H[c.tm]?=some (.tok S.ms.length 4 F.rmn)
 d:H[c.td]?=some (.tok S.bad.length 2 F.red)
 nd:(c.im≠c.tb/\c.im≠c.tm/\c.im≠c.td)/\(c.tb≠c.tm/\c.tb≠c.td)/\c.tm≠c.td
def rsput(F:RSF)(c:RSC)(S:SM)(H:Hp):Hp:=(((H.set c.td (.tok S.bad.length 2 F.red)).set c.tm (.tok S.ms.length 4 F.rmn)).set c.tb (.tok S.bs.length 4 F.rbd)).set c.im (rbox F c S)
section
variable{F:RSF}{c:RSC}{S S':SM}{H:Hp}
def Wt:(rsput F c S H).length=H.length:=by simp[rsput]
def RSInv.lt(h:RSInv F c S H):c.im<H.length/\c.tb<H.length/\c.tm<H.length/\c.td<H.length:=⟨Wl h.m,Wl h.b,Wl h.e,Wl h.d⟩
def Qf9(h:RSInv F c S H)(X:Hp):rsput F c S' (H++X)=rsput F c S' H++X:=by obtain⟨a,b,d,e⟩:=h.lt;unfold rsput;rw[Q18 _ _ e,Q18 _ _ (by simpa using d),Q18 _ _ (by simpa using b),Q18 _ _ (by simpa using a)]
def RSInv.app(h:RSInv F c S H)(X:Hp):RSInv F c S (H++X):=⟨Wj h.m X,Wj h.b X,Wj h.e X,Wj h.d X,h.nd⟩
def RSInv.put(h:RSInv F c S H)(S':SM):RSInv F c S' (rsput F c S' H):=by
 obtain⟨p1,p2,p3,p4⟩:=h.lt;obtain⟨a,b,d⟩:=h.nd;refine⟨?_,?_,?_,?_,h.nd⟩
 .unfold rsput;rw[Q17 (by simpa using p1)]
 .unfold rsput;rw[Q15 a.1,Q17 (by simpa using p2)]
 .unfold rsput;rw[Q15 a.2.1,Q15 b.1,Q17 (by simpa using p3)]
 .unfold rsput;rw[Q15 a.2.2,Q15 b.2,Q15 d,Q17 (by simpa using p4)]
def Qay(h:RSInv F c S H):rsput F c S H=H:=by unfold rsput;rw[Hp.set_self h.d,Hp.set_self h.e,Hp.set_self h.b,Hp.set_self h.m]
def Qad(S S':SM):rsput F c S' (rsput F c S H)=rsput F c S' H:=by
 refine Q3e λj=>?_;unfold rsput;simp only[List.getElem?_set,Q21];split
 .rfl
 .split
  .rfl
  .split
   .rfl
   .split
    .rfl
    .simp_all
def Qp3{n:Nat}(h1:c.tb<n)(h2:c.tm<n)(h3:c.td<n):(rbox F c S).clr n=rbox F c S:=by simp[rbox,h1,h2,h3]
def Qce(h:RSInv F c S H)(hc:H.Closed)(X:Hp):Hp.cut H.length (rsput F c S' H++X)=rsput F c S' H:=by obtain⟨p1,p2,p3,p4⟩:=h.lt;rw[Qaq (by rw[Wt])];unfold rsput;rw[Hp.cut_set,Hp.cut_set,Hp.cut_set,Hp.cut_set,Qb hc,Qp3 p2 p3 p4];simp
def Qnp(h:RSInv F c S H)(l:List (Int×Int)):rsput F c ⟨S.bs,S.ms,l⟩ H=(H.set c.td (.tok l.length 2 F.red)).set c.im (rbox F c ⟨S.bs,S.ms,l⟩):=by obtain⟨a,b,d⟩:=h.nd;unfold rsput;rw[Hp.set_self (i:=c.tm) (by rw[Q15 d.symm];exact h.e),Hp.set_self (i:=c.tb) (by rw[Q15 b.2.symm];exact h.b)]
def Qwk(h:RSInv F c S H)(l:List SBd):rsput F c ⟨l,S.ms,S.bad⟩ H=(H.set c.tb (.tok l.length 4 F.rbd)).set c.im (rbox F c ⟨l,S.ms,S.bad⟩):=by unfold rsput;rw[Hp.set_self h.d,Hp.set_self h.e]
def Qwj(h:RSInv F c S H)(l:List Mn):rsput F c ⟨S.bs,l,S.bad⟩ H=(H.set c.tm (.tok l.length 4 F.rmn)).set c.im (rbox F c ⟨S.bs,l,S.bad⟩):=by obtain⟨a,b,d⟩:=h.nd;unfold rsput;rw[Hp.set_self h.d,Hp.set_self (i:=c.tb) (by rw[Q15 b.1.symm];exact h.b)]
end
def NmOk(n:Nat)(M:List Nm):Prop:=∀x∈M,x.beg=false->0<=x.to/\x.to<n
def NmOk.mono{n m:Nat}{M:List Nm}(h:NmOk n M)(hm:n<=m):NmOk m M:=λx hx hb=>by have:=h x hx hb;omega
def NmOk.new{n:Nat}{M:List Nm}(h:NmOk n M)(lam:Bool):NmOk n (⟨0,true,lam⟩::M):=λx hx hb=>by
 rcases Q2v.1 hx with rfl|hx
 .cases hb
 .exact h x hx hb
def Ql5{bs:List SBd}{w:Bs}:∀{M:List Nm} {far i f:Int},Vy bs w M far=some (i,f)->far<=f/\f<=far+M.length
 |[],far,i,f,h=>by cases h
 |x::r,far,i,f,h=>by
  simp only[Vy]at h;simp only[Q2i];split at h
  .have:=Ql5 h;split at this<;>omega
  .split at h
   .cases h;omega
   .have:=Ql5 h;omega
structure GrewR(S S':SM)(k:Nat)(M M':List Nm):Prop where
 bs:S.bs.length<=S'.bs.length
 sz:S'.sz<=S.sz+2*k
 len:M'.length<=M.length+k
 ok:NmOk S'.bs.length M'
def GrewR.bind{S:SM}{M:List Nm}(h:NmOk S.bs.length M)(kind item:Int)(n:N):GrewR S (Wx kind item n M S).2 1 M (Wx kind item n M S).1:=by
 refine⟨by simp[Wx,SM.bind],SM.bind_sz S kind item n _,by simp[Wx],λx hx hb=>?_⟩;simp only[Wx,SM.bind]at hx⊢;rcases Q2v.1 hx with rfl|hx
 .simp;omega
 .have:=h x hx hb;simp;omega
def GrewR.binds{item:Int}:∀(l:List N){S:SM}{M:List Nm},NmOk S.bs.length M->GrewR S (Yd item l M S).2 l.length M (Yd item l M S).1
 |[],S,M,h=>⟨Q14 _,by simp[Yd],by simp[Yd],h⟩
 |n::r,S,M,h=>by
  have h1:=GrewR.bind h 3 item n;have h2:=GrewR.binds (item:=item) r h1.ok;refine⟨Q3d h1.bs h2.bs,?_,?_,h2.ok⟩
  .have:=h1.sz;have:=h2.sz;simp only[Yd,Q2i];omega
  .have:=h1.len;have:=h2.len;simp only[Yd,Q2i];omega
def Qtd(n:N):Prop:=∀(item:Int)(M:List Nm)(S:SM),NmOk S.bs.length M->GrewR S (Qae item n M S).2 n.size M (Qae item n M S).1
def Qa3{ks:List N}(ih:∀p∈ks,Qtd p):∀(item:Int)(M:List Nm)(S:SM),NmOk S.bs.length M->GrewR S (Wr item ks M S).2 (N.sizes ks) M (Wr item ks M S).1:=by
 induction ks with
 |nil=>intro item M S h;rw[Qb5];exact⟨Q14 _,by simp,by simp,h⟩
 |cons n r ih2=>
  intro item M S h;have h1:=ih n (by simp) item M S h;have h2:=ih2 (λp hp=>ih p (by simp[hp])) item _ _ h1.ok;rw[Qa0,N.sizes_cons];refine⟨Q3d h1.bs h2.bs,?_,?_,h2.ok⟩
  .have:=h1.sz;have:=h2.sz;omega
  .have:=h1.len;have:=h2.len;omega
def Qis{ks:List N}(ih:∀p∈ks,Qtd p)(item:Int)(M:List Nm)(lam:Bool)(S:SM)(h:NmOk S.bs.length M):S.bs.length<=(Yk item ks M lam S).bs.length/\(Yk item ks M lam S).sz<=S.sz+2*N.sizes ks:=by
 by_cases hl:ks.length=3
 .match ks,hl with
  |[p,q,b],_=>rw[Qaj];have h1:=GrewR.binds (item:=item) p.ks (h.new lam);have h2:=ih b (by simp) item _ _ h1.ok;have:=h1.sz;have:=h2.sz;have:=h1.bs;have:=h2.bs;have h3:=N.sizes_len p.ks;have h4:=N.size_ks p;simp only[N.sizes_cons,N.sizes_nil];omega
 .rw[Qe9 _ hl];omega
def Qxp(n:N):Qtd n:=by
 induction n using N.ind with
 |h k f t w a z ks ih=>
 intro item M S h;rw[Qhs,N.size_mk];by_cases h6:k=6
 .rw[if_pos h6];have h1:=Qa3 ih item _ S (h.new false);have:=h1.sz;exact⟨h1.bs,by simp only;omega,by simp only;omega,h.mono h1.bs⟩
 rw[if_neg h6];by_cases h7:k=7
 .rw[if_pos h7];have h1:=Qa3 ih item M S h;have h2:=GrewR.bind h1.ok 4 item (.mk k f t w a z ks);have:=h1.sz;have:=h2.sz;have:=h1.len;have:=h2.len;exact⟨Q3d h1.bs h2.bs,by omega,by omega,h2.ok⟩
 rw[if_neg h7];by_cases h8:k=8
 .rw[if_pos h8];have h1:=Qa3 ih item M (S.men (.mk k f t w a z ks) true (Vh S.bs w M)) h;have:=h1.sz;have:=h1.len;have:=SM.men_sz S (.mk k f t w a z ks) true (Vh S.bs w M);exact⟨h1.bs,by omega,by omega,h1.ok⟩
 rw[if_neg h8];by_cases h9:k=23
 .rw[if_pos h9];have:=SM.men_sz S (.mk k f t w a z ks) false (Vh S.bs w M);exact⟨Q14 _,by simp only;omega,by simp only;omega,h⟩
 rw[if_neg h9];by_cases h10:k=28
 .rw[if_pos h10];have h1:=Qis ih item M true S h;exact⟨h1.1,by simp only;omega,by simp only;omega,h.mono h1.1⟩
 rw[if_neg h10];have h1:=Qa3 ih item M S h;have:=h1.sz;have:=h1.len;exact⟨h1.bs,by omega,by omega,h1.ok⟩
structure RSHas(P:Program)(F:RSF):Prop where
 rbind:HasT P [12] F.rbind (Qji F.tn F.rnm F.red F.rbd)
 rclosed:Has P F.rclosed (Qcv F.rbegin F.rbind F.rnode)
 rbegin:HasT P [5] F.rbegin (Qg3 F.rnm)
 rnode:Has P F.rnode (Qag F.rmention F.rclosed F.rbegin F.rnode F.rbind F.tn)
 rmention:Has P F.rmention (Qef F.tn F.rmn F.red)
def nms(M:List Nm):A:=YL true 3 (M.reverse.map Qer)
def Qxb{pre R:List Nm}{x:Nm}:Zam.rowAt ((pre++x::R).reverse.map Qer) (R.length:Int)=some (Qer x):=by
 have:(pre++x::R).reverse[R.length]?=some x:=by rw[List.reverse_append,List.reverse_cons,Q2g,Q2j (by simp)];simp
 exact Quw this
section
variable{P:Program}{F:RSF}{c:RSC}{S S':SM}{H:Hp}
def RSHas.begin'(hF:RSHas P F)(M:List Nm)(lam:Bool)(hb:M.length<=4398046511104)(H:Hp):Qc P F.rbegin [nms M,YB lam] H (λr H'=>r=nms (⟨0,true,lam⟩::M)/\H'=H):=by
 refine Qe hF.rbegin (by simp[Qg3]) λO _=>?_;have h1:M.length*16<=140737488355328:=by omega
 have h2:(M.length+1)*16<=140737488355328:=by omega
 simp[Qg3,nms,appA,h1,h2];simp[RetK,Qd O,Qer]
end
end
section
def muI:A->Nat
 |.d (.int _ k)=>(k+1).toNat
 |_=>0
section
variable{P:Program}{F:RSF}{c:RSC}{S S':SM}{H:Hp}
def RSHas.bind'(hF:RSHas P F)(h:RSInv F c S H)(M:List Nm)(hM:NmOk S.bs.length M)(n:N)(kind item:Int)(hb:S.sz<=2199023255552)(hl:M.length<=2199023255552):
 Qc P F.rbind [.ptr c.im 0,nms M,n.v,YI kind,YI item] H (λr H'=>r=nms (Wx kind item n M S).1/\H'=rsput F c (Wx kind item n M S).2 H):=by
 refine Qe hF.rbind (by simp[Qji]) λO _=>?_;obtain⟨k,f,t,w,a,z,ks⟩:=n;rw[N.v_mk];obtain⟨p1,p2,p3,p4⟩:=h.lt;obtain⟨na,nb,nd⟩:=h.nd;obtain⟨bx,hbx⟩:∃bx,bx=Ob.box F.tn [YI k,YI f,YI t,YS w,YI a,YL z 6 (ks.map N.enc)]:=⟨_,rfl⟩;have hbc:∀n,bx.clr n=bx:=λn=>by subst hbx;simp
 have hcut1:∀X,Hp.cut (H.length+1) (H++bx::X)=H++[bx]:=λX=>by rw[Qi O];simp[-Ob.clr,hbc]
 have hw1:IntKind.i64.wrap ((M.length:Int)-1)=M.length-1:=wi64 (by omega);have hfit1:(S.bad.length+1)*16<=140737488355328:=by unfold SM.sz at hb;omega
 have hfit2:(S.bs.length+1)*40<=140737488355328:=by unfold SM.sz at hb;omega
 have hfit3:M.length*16<=140737488355328:=by omega
 have hfit4:(M.length+1)*16<=140737488355328:=by omega
 have hm:=h.m;have hd:=h.d;have hA:=λX=>(h.app X).m;have hAd:=λX=>(h.app X).d;have hAm2:∀X o,((H++X).set c.td o)[c.im]?=some (rbox F c S):=λX o=>by rw[Q15 na.2.2.symm];exact hA X
 simp only[rbox]at hA hAm2;simp[Qji,nms,hw1,-List.map_reverse];rw[<-hbx];refine Qz 0 (λfr H'=>fr 0=.ptr c.im 0/\fr 1=YL true 3 (M.reverse.map Qer)/\fr 3=YI kind/\fr 4=YI item/\fr 7=.ptr H.length 0/\H'=rsput F c ⟨S.bs,S.ms,if dupR S.bs w M then S.bad++[(a,31)]else S.bad⟩ H++[bx]) ?_ ?_
 .refine Wy (H.length+1) (λfr H'=>fr 0=.ptr c.im 0/\fr 1=YL true 3 (M.reverse.map Qer)/\fr 3=YI kind/\fr 4=YI item/\fr 7=.ptr H.length 0/\H'=H++[bx]/\∃pre R,M=pre++R/\dupR S.bs w M=dupR S.bs w R/\fr 11=YI ((R.length:Int)-1)) (λfr _=>muI (fr 11)) (by simp) ?_ ?_
  .have:=hcut1 [];refine⟨by simp[p1];omega,by simp[-List.map_reverse],by simp,by simp,by simp,this,[],M,rfl,rfl,by simp⟩
  .rintro fr H' ⟨f0,f1,f3,f4,f7,rfl,pre,R,hMe,hdup,f11⟩;have hself:rsput F c ⟨S.bs,S.ms,S.bad⟩ H=H:=Qay h;cases R with
   |nil=>simp[f0,f1,f3,f4,f7,f11,-List.map_reverse];rw[hdup];simp[dupR,hself,f0,f1,f3,f4,f7]
   |cons x R=>
    have hrow:=Qxb (pre:=pre) (R:=R) (x:=x);rw[<-hMe]at hrow;have e11:(((x::R).length:Int)-1)=(R.length:Int):=by simp
    rw[e11]at f11;have hge:¬((R.length:Int)<0):=by omega
    obtain⟨xt,xb,xl⟩:=x;simp only[Qer]at hrow;cases xb with
    |true=>simp[f0,f1,f3,f4,f7,f11,hrow,-List.map_reverse];rw[hdup];simp[dupR,hself,f0,f1,f3,f4,f7]
    |false=>
     obtain⟨o1,o2⟩:=hM ⟨xt,false,xl⟩ (by rw[hMe];simp) rfl;simp only at o1 o2;obtain⟨i,rfl⟩:∃i:Nat,xt=(i:Int):=⟨xt.toNat,by omega⟩;have hil:i<S.bs.length:=by omega
     have hr:=Qt Qw hil;have hword:Zk S.bs ⟨(i:Int),false,xl⟩=S.bs[i].w:=by unfold Zk;simp[Q3a,hil]
     have hdup2:dupR S.bs w (⟨(i:Int),false,xl⟩::R)=if S.bs[i].w=w then true else dupR S.bs w R:=by simp only[dupR,hword];rfl
     rw[hdup2]at hdup;generalize S.bs[i]=b at hr hdup;obtain⟨ba,bk,bw,bi⟩:=b;simp only[Qw]at hr hdup;have hbxr:(H++[bx])[H.length]?=some bx:=by simp
     rw[hbx]at hbxr;by_cases hw:bw=w
     .rw[if_pos hw]at hdup;subst hw;have hsb:=Qnp h (S.bad++[(a,31)]);have hfin:((H++[bx]).set c.td (.tok (S.bad.length+1) 2 F.red)).set c.im (rbox F c ⟨S.bs,S.ms,S.bad++[(a,31)]⟩)=rsput F c ⟨S.bs,S.ms,S.bad++[(a,31)]⟩ H++[bx]:=by rw[hsb,Q18 _ _ p4,Q18 _ _ (by simpa using p1)];simp
      simp only[rbox]at hfin;simp[Q2]at hfin;rw[<-hbx]at hbxr;have hA1:=hA [bx];have hAd1:=hAd [bx];have hAm1:=hAm2 [bx];generalize H++[bx]=W at hA1 hAd1 hAm1 hbxr hfin⊢;rw[hbx]at hbxr;simp[f0,f1,f3,f4,f7,f11,hrow,hA1,hr,hbxr,hAd1,hAm1,hfit1,appA,-List.map_reverse];rw[hdup];simp[f0,f1,f3,f4,f7];rw[hfin]
     .rw[if_neg hw]at hdup;have hw2:IntKind.i64.wrap ((R.length:Int)-1)=R.length-1:=Qhh (by omega) (by rw[hMe]at hl;simp at hl;omega);have hA1:=hA [bx];have hc2:=hcut1 [];have hl2:(H++[bx]).length=H.length+1:=by simp
      rw[<-hbx]at hbxr;generalize H++[bx]=W at hA1 hbxr hc2 hl2⊢;rw[hbx]at hbxr;simp[f0,f1,f3,f4,f7,f11,hrow,hA1,hr,hbxr,hw,hw2,-List.map_reverse];refine Wf (by omega) ⟨by simp[f0];omega,by simp[f1],by simp[f3],by simp[f4],by simp[f7],hc2,pre++[⟨(i:Int),false,xl⟩],R,by simp[hMe],hdup,by simp⟩ ?_;show muI (YI ((R.length:Int)-1))<muI (YI R.length);simp only[muI];omega
 .rintro fr H' ⟨f0,f1,f3,f4,f7,rfl⟩;have hbnd:(Wx kind item (.mk k f t w a z ks) M S)=(⟨S.bs.length,false,false⟩::M,⟨S.bs++[⟨a,kind,w,item⟩],S.ms,if dupR S.bs w M then S.bad++[(a,31)]else S.bad⟩):=rfl;rw[hbnd];generalize(if dupR S.bs w M then S.bad++[(a,31)]else S.bad)=bad;have hs1:=h.put ⟨S.bs,S.ms,bad⟩;have hs2:=hs1.app [bx];have q1:(rsput F c ⟨S.bs,S.ms,bad⟩ H++[bx])[H.length]?=some bx:=by rw[show H.length=(rsput F c ⟨S.bs,S.ms,bad⟩ H).length from Wt.symm];simp
  have q2:=hs2.m;have q3:=hs2.b;have q4:∀o,((rsput F c ⟨S.bs,S.ms,bad⟩ H++[bx]).set c.tb o)[c.im]?=some (rbox F c ⟨S.bs,S.ms,bad⟩):=λo=>by rw[Q15 na.1.symm];exact q2
  have hsb:=Qwk hs1 (S.bs++[⟨a,kind,w,item⟩]);rw[Qad]at hsb;have hfin:((rsput F c ⟨S.bs,S.ms,bad⟩ H++[bx]).set c.tb (.tok (S.bs.length+1) 4 F.rbd)).set c.im (rbox F c ⟨S.bs++[⟨a,kind,w,item⟩],S.ms,bad⟩)=rsput F c ⟨S.bs++[⟨a,kind,w,item⟩],S.ms,bad⟩ H++[bx]:=by rw[hsb,Q18 _ _ (by rw[Wt];exact p2),Q18 _ _ (by rw[Q21,Wt];exact p1)];simp
  have q5:(rsput F c ⟨S.bs++[⟨a,kind,w,item⟩],S.ms,bad⟩ H++[bx])[c.im]?=some (rbox F c ⟨S.bs++[⟨a,kind,w,item⟩],S.ms,bad⟩):=((h.put _).app [bx]).m;have q6:(rsput F c ⟨S.bs++[⟨a,kind,w,item⟩],S.ms,bad⟩ H++[bx]).length=H.length+1:=by simp[Wt]
  have q8:(rsput F c ⟨S.bs,S.ms,bad⟩ H++[bx]).length=H.length+1:=by simp[Wt]
  have q7:∀X,Hp.cut H.length (rsput F c ⟨S.bs++[⟨a,kind,w,item⟩],S.ms,bad⟩ H++[bx]++X)=rsput F c ⟨S.bs++[⟨a,kind,w,item⟩],S.ms,bad⟩ H:=λX=>by rw[Q2g];exact Qce h O _
  have hw3:IntKind.i64.wrap ((S.bs.length:Int)+1-1)=S.bs.length:=by rw[wi64 (by omega)];omega
  simp only[rbox]at q2 q4 q5 hfin;simp[Qw]at hfin q5;generalize rsput F c ⟨S.bs,S.ms,bad⟩ H++[bx]=W at q1 q2 q3 q4 q8 hfin⊢;rw[hbx]at q1;generalize rsput F c ⟨S.bs++[⟨a,kind,w,item⟩],S.ms,bad⟩ H++[bx]=W2 at hfin q5 q6 q7;have q5:=Wj q5;have hwl:W.length=W2.length:=by rw[q8,q6]
  simp[f0,f1,f3,f4,f7,q1,q2,q3,q4,hfit2,appA];rw[hfin];simp[f0,f1,q5,hwl,hfit3,hfit4,appA,hw3];have hw4:IntKind.i64.wrap (S.bs.length:Int)=S.bs.length:=wi64 (by omega);have hn1:¬(H.length+1<H.length):=by omega
  have hn2:H.length<=H.length+1+1:=by omega
  simp[RetK,q6,q7,Qer,nms,hw4,hn1,hn2]
end
end
section
section
variable{P:Program}{F:RSF}{c:RSC}{S S':SM}{H:Hp}
def Qg0{bs:List SBd}{w:Bs}:∀{M:List Nm} {far i f:Int},Vy bs w M far=some (i,f)->∃x∈M,x.beg=false/\x.to=i/\Zk bs x=w
 |[],far,i,f,h=>by cases h
 |x::r,far,i,f,h=>by
  simp only[Vy]at h;split at h
  .obtain⟨y,h1,h2⟩:=Qg0 h;exact⟨y,by simp[h1],h2⟩
  .rename_i hb;split at h
   .rename_i hw;cases h
    exact⟨x,by simp,by simpa using hb,rfl,hw⟩
   .obtain⟨y,h1,h2⟩:=Qg0 h;exact⟨y,by simp[h1],h2⟩
def RSHas.mention'(hF:RSHas P F)(h:RSInv F c S H)(M:List Nm)(hM:NmOk S.bs.length M)(n:N)(wr:Bool)(hb:S.sz<=2199023255552)(hl:M.length<=2199023255552):
 Qc P F.rmention [.ptr c.im 0,nms M,n.v,YB wr] H (λr H'=>r=.tup []/\H'=rsput F c (S.men n wr (Vh S.bs n.w M)) H):=by
 refine Qe hF.rmention (by simp[Qef]) λO _=>?_;obtain⟨k,f,t,w,a,z,ks⟩:=n;rw[N.v_mk];obtain⟨p1,p2,p3,p4⟩:=h.lt;obtain⟨na,nb,nd⟩:=h.nd;obtain⟨bx,hbx⟩:∃bx,bx=Ob.box F.tn [YI k,YI f,YI t,YS w,YI a,YL z 6 (ks.map N.enc)]:=⟨_,rfl⟩;have hbc:∀n,bx.clr n=bx:=λn=>by subst hbx;simp
 obtain⟨mb,hmb⟩:∃mb:Int->Int->Ob,mb=λto far=>Ob.box F.rmn [YI a,YI to,YB wr,YI far]:=⟨_,rfl⟩;have hmc:∀n i j,(mb i j).clr n=mb i j:=λn i j=>by subst hmb;simp
 have hcut2:∀i j,Hp.cut (H.length+2) (H++[bx,mb i j])=H++[bx,mb i j]:=λi j=>by rw[Qi O];simp[-Ob.clr,hbc,hmc]
 have hw1:IntKind.i64.wrap ((M.length:Int)-1)=M.length-1:=wi64 (by omega);have hfit1:(S.bad.length+1)*16<=140737488355328:=by unfold SM.sz at hb;omega
 have hfit2:(S.ms.length+1)*32<=140737488355328:=by unfold SM.sz at hb;omega
 have hA:=λX=>(h.app X).m;have hAd:=λX=>(h.app X).d;simp only[rbox]at hA;simp[Qef,nms,hw1,-List.map_reverse];rw[<-hbx,show Ob.box F.rmn [YI a,YI (-1),YB wr,YI 0]=mb (-1) 0 by rw[hmb]];refine Qz 0 (λfr H'=>fr 0=.ptr c.im 0/\fr 3=YB wr/\fr 6=.ptr H.length 0/\fr 8=.ptr (H.length+1) 0/\∃to far,fr 9=YI far/\H'=H++[bx,mb to 0]/\((Vy S.bs w M 0=none/\to=-1)\/Vy S.bs w M 0=some (to,far))) ?_ ?_
 .refine Wy (H.length+2) (λfr H'=>fr 0=.ptr c.im 0/\fr 1=YL true 3 (M.reverse.map Qer)/\fr 3=YB wr/\fr 6=.ptr H.length 0/\fr 8=.ptr (H.length+1) 0/\H'=H++[bx,mb (-1) 0]/\∃pre R far,M=pre++R/\Vy S.bs w M 0=Vy S.bs w R far/\fr 9=YI far/\0<=far/\far+R.length<=M.length/\fr 10=YI ((R.length:Int)-1)) (λfr _=>muI (fr 10)) (by simp) ?_ ?_
  .exact⟨by simp[p1];omega,by simp[-List.map_reverse],by simp,by simp,by simp,hcut2 _ _,[],M,0,rfl,rfl,by simp,Q16 _,by omega,by simp⟩
  .rintro fr H' ⟨f0,f1,f3,f6,f8,rfl,pre,R,far,hMe,hlook,f9,hf0,hf1,f10⟩;cases R with
   |nil=>simp[f0,f1,f3,f6,f8,f9,f10,-List.map_reverse];exact⟨-1,rfl,.inl ⟨by rw[hlook];rfl,rfl⟩⟩
   |cons x R=>
    have hrow:=Qxb (pre:=pre) (R:=R) (x:=x);rw[<-hMe]at hrow;have e10:(((x::R).length:Int)-1)=(R.length:Int):=by simp
    rw[e10]at f10;simp only[Q2i]at hf1;have hMl:M.length<=2199023255552:=hl;have hge:¬((R.length:Int)<0):=by omega
    have hw2:IntKind.i64.wrap ((R.length:Int)-1)=R.length-1:=wi64 (by omega);have hw3:IntKind.i64.wrap (far+1)=far+1:=wi64 (by omega);obtain⟨xt,xb,xl⟩:=x;simp only[Qer]at hrow;have hA1:=hA [bx,mb (-1) 0];have hbr:(H++[bx,mb (-1) 0])[H.length]?=some bx:=by simp
    have hmr:(H++[bx,mb (-1) 0])[H.length+1]?=some (mb (-1) 0):=by simp
    have hms:∀to,(H++[bx,mb (-1) 0]).set (H.length+1) (mb to 0)=H++[bx,mb to 0]:=λto=>by simp
    have hc2:=hcut2 (-1) 0;have hl2:(H++[bx,mb (-1) 0]).length=H.length+2:=by simp
    cases xb with
    |true=>
     simp only[Vy,if_true]at hlook;have again:∀(fr2:Fr)(far2:Int),fr2 0=.ptr c.im 0->fr2 1=YL true 3 (M.reverse.map Qer)->fr2 3=YB wr->fr2 6=.ptr H.length 0->fr2 8=.ptr (H.length+1) 0->fr2 9=YI far2->fr2 10=YI ((R.length:Int)-1)->Vy S.bs w M 0=Vy S.bs w R far2->0<=far2->far2+R.length<=M.length->
      Qj1 (λfr H'=>fr 0=.ptr c.im 0/\fr 1=YL true 3 (M.reverse.map Qer)/\fr 3=YB wr/\fr 6=.ptr H.length 0/\fr 8=.ptr (H.length+1) 0/\H'=H++[bx,mb (-1) 0]/\∃pre R far,M=pre++R/\Vy S.bs w M 0=Vy S.bs w R far/\fr 9=YI far/\0<=far/\far+R.length<=M.length/\fr 10=YI ((R.length:Int)-1)) (λfr _=>muI (fr 10)) .mk (H.length+2) (muI (YI R.length)) fr2 (H++[bx,mb (-1) 0]):=λfr2 far2 u0 u1 u3 u6 u8 u9 u10 ul u5 u7=>by
      refine Wf (by simp) ⟨by simp[u0,p1];omega,by simp[u1,-List.map_reverse],by simp[u3],by simp[u6],by simp[u8],hc2,pre++[⟨xt,true,xl⟩],R,far2,by simp[hMe],ul,by simp[u9],u5,u7,by simp[u10]⟩ ?_;show muI (A.clr _ (fr2 10))<_;rw[u10];simp only[muI,Vm];omega
     cases xl with
     |true=>simp only[if_true]at hlook;simp[f0,f1,f3,f6,f8,f9,f10,hrow,hw2,hw3,-List.map_reverse];exact again _ (far+1) (by simp[f0]) (by simp[f1,-List.map_reverse]) (by simp[f3]) (by simp[f6]) (by simp[f8]) (by simp) (by simp) hlook (by omega) (by omega)
     |false=>simp only[Q2c,if_false]at hlook;simp[f0,f1,f3,f6,f8,f9,f10,hrow,hw2,-List.map_reverse];exact again _ far (by simp[f0]) (by simp[f1,-List.map_reverse]) (by simp[f3]) (by simp[f6]) (by simp[f8]) (by simp[f9]) (by simp) hlook (by omega) (by omega)
    |false=>
     obtain⟨o1,o2⟩:=hM ⟨xt,false,xl⟩ (by rw[hMe];simp) rfl;simp only at o1 o2;obtain⟨i,rfl⟩:∃i:Nat,xt=(i:Int):=⟨xt.toNat,by omega⟩;have hil:i<S.bs.length:=by omega
     have hr:=Qt Qw hil;have hword:Zk S.bs ⟨(i:Int),false,xl⟩=S.bs[i].w:=by unfold Zk;simp[Q3a,hil]
     have hlook2:Vy S.bs w (⟨(i:Int),false,xl⟩::R) far=if S.bs[i].w=w then some ((i:Int),far)else Vy S.bs w R far:=by simp only[Vy,hword];rfl
     rw[hlook2]at hlook;generalize S.bs[i]=b at hr hlook;obtain⟨ba,bk,bw,bi⟩:=b;simp only[Qw]at hr hlook;by_cases hw:bw=w
     .rw[if_pos hw]at hlook;subst hw;have hms1:=hms (i:Int);generalize H++[bx,mb (-1) 0]=W at hA1 hbr hmr hc2 hl2 hms1⊢;rw[hbx]at hbr;rw[hmb]at hmr;have hms2:=hms1;simp only[hmb]at hms1;simp[f0,f1,f3,f6,f8,f9,f10,hrow,hA1,hr,hbr,hmr,hms1,-List.map_reverse];exact⟨(i:Int),by rw[hmb],.inr hlook⟩
     .rw[if_neg hw]at hlook;generalize hWW:H++[bx,mb (-1) 0]=W at hA1 hbr hc2 hl2⊢;rw[hbx]at hbr;simp[f0,f1,f3,f6,f8,f9,f10,hrow,hA1,hr,hbr,hw,hw2,-List.map_reverse];refine Wf (by omega) ⟨by simp[f0,p1];omega,by simp[f1,-List.map_reverse],by simp[f3],by simp[f6],by simp[f8],hc2,pre++[⟨(i:Int),false,xl⟩],R,far,by simp[hMe],hlook,by simp[f9],hf0,by omega,by simp⟩ ?_;show muI (YI ((R.length:Int)-1))<muI (YI R.length);simp only[muI];omega
 .rintro fr H' ⟨f0,f3,f6,f8,to,far,f9,rfl,hlk⟩;have hmen:S.men (.mk k f t w a z ks) wr (Vh S.bs w M)=⟨S.bs,S.ms++[⟨a,(Vh S.bs w M).1,wr,(Vh S.bs w M).2⟩],if(Vh S.bs w M).1<0 then S.bad++[(a,30)]else if wr/\(S.bs.getD (Vh S.bs w M).1.toNat default).k<3 then S.bad++[(a,35)]else S.bad⟩:=rfl;rw[show N.w (.mk k f t w a z ks)=w from rfl,hmen];have key:∀(bad:List (Int×Int))(far2:Int),∀W,W=rsput F c ⟨S.bs,S.ms,bad⟩ H++[bx,mb to far2]->
   W[H.length+1]?=some (mb to far2)/\W[c.im]?=some (rbox F c ⟨S.bs,S.ms,bad⟩)/\W[c.tm]?=some (.tok S.ms.length 4 F.rmn)/\(∀o,(W.set c.tm o)[c.im]?=some (rbox F c ⟨S.bs,S.ms,bad⟩))/\W.length=H.length+2/\
   Hp.cut H.length ((W.set c.tm (.tok (S.ms.length+1) 4 F.rmn)).set c.im (rbox F c ⟨S.bs,S.ms++[⟨a,to,wr,far2⟩],bad⟩))=rsput F c ⟨S.bs,S.ms++[⟨a,to,wr,far2⟩],bad⟩ H:=by
   rintro bad far2 W rfl;have hs1:=h.put ⟨S.bs,S.ms,bad⟩;have hs2:=hs1.app [bx,mb to far2];have hlen:H.length=(rsput F c ⟨S.bs,S.ms,bad⟩ H).length:=Wt.symm;refine⟨by rw[hlen];simp,hs2.m,hs2.e,λo=>by rw[Q15 na.2.1.symm];exact hs2.m,by simp[Wt],?_⟩;have hsb:=Qwj hs1 (S.ms++[⟨a,to,wr,far2⟩]);rw[Qad]at hsb;have hX:((rsput F c ⟨S.bs,S.ms,bad⟩ H++[bx,mb to far2]).set c.tm (.tok (S.ms.length+1) 4 F.rmn)).set c.im (rbox F c ⟨S.bs,S.ms++[⟨a,to,wr,far2⟩],bad⟩)=rsput F c ⟨S.bs,S.ms++[⟨a,to,wr,far2⟩],bad⟩ H++[bx,mb to far2]:=by rw[hsb,Q18 _ _ (by rw[Wt];exact p3),Q18 _ _ (by rw[Q21,Wt];exact p1)];simp
   rw[hX];exact Qce h O _
  have told:∀(code:Int),(((H++[bx,mb to 0]).set c.td (.tok (S.bad.length+1) 2 F.red)).set c.im (rbox F c ⟨S.bs,S.ms,S.bad++[(a,code)]⟩))=rsput F c ⟨S.bs,S.ms,S.bad++[(a,code)]⟩ H++[bx,mb to 0]:=λcode=>by have hsb:=Qnp h (S.bad++[(a,code)]);rw[hsb,Q18 _ _ p4,Q18 _ _ (by simpa using p1)];simp
  have hA1:=hA [bx,mb to 0];have hAd1:=hAd [bx,mb to 0];have hAm1:∀o,((H++[bx,mb to 0]).set c.td o)[c.im]?=some (rbox F c S):=λo=>by rw[Q15 na.2.2.symm];exact(h.app _).m
  have hbr:(H++[bx,mb to 0])[H.length]?=some bx:=by simp
  have hmr:(H++[bx,mb to 0])[H.length+1]?=some (mb to 0):=by simp
  have hself:H++[bx,mb to 0]=rsput F c ⟨S.bs,S.ms,S.bad⟩ H++[bx,mb to 0]:=by rw[Qay h]
  simp only[rbox]at hAm1;rcases hlk with⟨hn,rfl⟩|hsome
  .
   have hf:Vh S.bs w M=(-1,0):=by unfold Vh;rw[hn]
   rw[hf];obtain⟨q1,q2,q3,q4,q5,q6⟩:=key (S.bad++[(a,30)]) 0 _ rfl;have ht:=told 30;simp only[rbox]at q2 q4 q6 ht;simp[Q2]at ht;generalize H++[bx,mb (-1) 0]=W0 at hA1 hAd1 hAm1 hbr hmr ht⊢;rw[hbx]at hbr;rw[hmb]at hmr;simp[f0,f3,f6,f8,hmr,hbr,hA1,hAd1,hAm1,hfit1,appA];rw[ht];generalize rsput F c ⟨S.bs,S.ms,S.bad++[(a,30)]⟩ H++[bx,mb (-1) 0]=W at q1 q2 q3 q4 q5 q6⊢;rw[hmb]at q1;simp[f0,f8,q1,q2,q3,q4,hfit2,appA];simp[RetK,q5];simp[Ya]at q6⊢;exact q6
  .obtain⟨x,hx,hxb,rfl,-⟩:=Qg0 hsome;obtain⟨o1,o2⟩:=hM x hx hxb;have hff:=Ql5 hsome;have hf:Vh S.bs w M=if(S.bs.getD x.to.toNat default).k<3 then(x.to,0)else(x.to,far):=by unfold Vh;rw[hsome]
   rw[hf];generalize x.to=xt at*;obtain⟨i,rfl⟩:∃i:Nat,xt=(i:Int):=⟨xt.toNat,by omega⟩;have hil:i<S.bs.length:=by omega
   have hr:=Qt Qw hil;have hgd:S.bs.getD ((i:Int)).toNat default=S.bs[i]:=by simp[Q3a,hil]
   have hneg:¬((i:Int)<0):=by omega
   rw[hgd];generalize S.bs[i]=b at hr hgd⊢;obtain⟨ba,bk,bw,bi⟩:=b;simp only[Qw]at hr;simp only at hgd⊢;by_cases hk:bk<3
   .rw[if_pos hk];simp only;rw[if_neg hneg,hgd];simp only;have hk':¬3<=bk:=by omega
    cases wr with
    |true=>rw[if_pos ⟨rfl,hk⟩];obtain⟨q1,q2,q3,q4,q5,q6⟩:=key (S.bad++[(a,35)]) 0 _ rfl;have ht:=told 35;simp only[rbox]at q2 q4 q6 ht;simp[Q2]at ht;generalize H++[bx,mb (i:Int) 0]=W0 at hA1 hAd1 hAm1 hbr hmr ht⊢;rw[hbx]at hbr;rw[hmb]at hmr;simp[f0,f3,f6,f8,hmr,hbr,hneg,hA1,hAd1,hAm1,hr,hk',hfit1,appA];rw[ht];generalize rsput F c ⟨S.bs,S.ms,S.bad++[(a,35)]⟩ H++[bx,mb (i:Int) 0]=W at q1 q2 q3 q4 q5 q6⊢;rw[hmb]at q1;simp[f0,f8,q1,q2,q3,q4,hfit2,appA];simp[RetK,q5];simp[Ya]at q6⊢;exact q6
    |false=>rw[if_neg (by simp)];obtain⟨q1,q2,q3,q4,q5,q6⟩:=key S.bad 0 _ hself;simp only[rbox]at q2 q4 q6;generalize H++[bx,mb (i:Int) 0]=W0 at hA1 hbr hmr q1 q2 q3 q4 q5 q6⊢;rw[hmb]at hmr q1;simp[f0,f3,f6,f8,hmr,hneg,hA1,hr,hk',q1,q2,q3,q4,hfit2,appA];simp[RetK,q5];simp[Ya]at q6⊢;exact q6
   .rw[if_neg hk];simp only;rw[if_neg hneg,hgd];simp only;rw[if_neg (λhh=>hk hh.2)];have hk':3<=bk:=by omega
    have hself2:H++[bx,mb (i:Int) far]=rsput F c ⟨S.bs,S.ms,S.bad⟩ H++[bx,mb (i:Int) far]:=by rw[Qay h]
    obtain⟨q1,q2,q3,q4,q5,q6⟩:=key S.bad far _ hself2;have hst:(H++[bx,mb (i:Int) 0]).set (H.length+1) (mb (i:Int) far)=H++[bx,mb (i:Int) far]:=by simp
    simp only[rbox]at q2 q4 q6;generalize H++[bx,mb (i:Int) far]=W at hst q1 q2 q3 q4 q5 q6;generalize H++[bx,mb (i:Int) 0]=W0 at hA1 hbr hmr hst⊢;rw[hmb]at hmr q1 hst;simp at hst;simp[f0,f3,f6,f8,f9,hmr,hneg,hA1,hr,hk',hst,q1,q2,q3,q4,hfit2,appA];simp[RetK,q5];simp[Ya]at q6⊢;exact q6
end
end
section
def Qsw(P:Program)(tok:List Nat)(fn:Func):Option (Nat×C×C×List IOp×Nat×C):=
 match fn.body with
 |some (.seq ca0 (.seq ca (.seq (.region _ ops false) cb)))=>
  match ops.toList.getLast? with
  |some od=>
   match Qby ops od.guard,od.dst,od.op with
   |some none,none,.defer c=>
    match c.callee with
    |.value (.tmp s)=>if c.args.size=0/\fn.results.size=0 then some (fn.ntmps,Z3 P fn.ntmps tok ca0,Z3 P fn.ntmps tok ca,ops.toList.dropLast.map (V7 P fn.ntmps tok ops),s,Z3 P fn.ntmps tok cb)else none
    |_=>none
   |_,_,_=>none
  |none=>none
 |_=>none
def Qpe{P:Program}{f:FuncId}{fn:Func}{tok:List Nat}{args:List A}{H:Hp}{K:A->Hp->Prop}{nt s:Nat}{c0 c1 cb:C}{l:List IOp}(hf:P.funcs[f]?=some fn)(hd:Qsw P tok fn=some (nt,c0,c1,l,s,cb))(hn:args.length<=nt)(h:H.Closed->AWp P H.length c0 (Qrs λfr0 H0=>H.length<=H0.length/\(Hp.Closed H0->AWp P H0.length c1 (Qrs λfr1 H1=>AOps P l (λfr2 H2=>∃g cap,fr2 s=.fn (.func g) [] cap/\Wd P g=true/\
 (Hp.Closed H2->AWp P H2.length cb (Qoe λH3=>Qj2 P g cap H3 λH4=>∃m,H.length<=m/\m<=H4.length/\K (.tup []) (Hp.cut m H4)) fr2 H2)) fr1 H1) fr0 H0)) (Fr.init args) H):Qc P f args H K:=by
 unfold Qsw at hd;split at hd
 .rename_i ca0 ca id ops cbb hb;split at hd
  .rename_i od hod;split at hd
   .rename_i c hg hdst hop;split at hd
    .rename_i s' hcal;split at hd
     .rename_i hsz;cases hd
      have hops:ops.toList=ops.toList.dropLast++[od]:=by
       have hne:ops.toList≠[]:=λe=>by rw[e]at hod;cases hod
       rw[List.getLast?_eq_some_getLast hne]at hod;cases hod;exact(List.dropLast_concat_getLast hne).symm
      exact Qpf hf hb hops hg hdst hop hcal (Q5g hsz.1) (Q5g hsz.2) hn h
     .cases hd
    .cases hd
   .cases hd
  .cases hd
 .cases hd
def Qvy{P:Program}{f:FuncId}{fn:Func}{tok:List Nat}{ifn:IFn}{args:List A}{H:Hp}{K:Hp->Prop}(hf:P.funcs[f]?=some fn)(hc:Qn P tok fn=some ifn)(hr:ifn.res=[])(hn:args.length<=ifn.nt)(h:H.Closed->AWp P H.length ifn.body (Qoe K) (Fr.init args) H):Qj2 P f args H K:=by
 unfold Qn at hc;split at hc
 .rename_i c rs hb hrs;cases hc
  simp only at hr hn h;subst hr;have:fn.results=#[]:=by
   cases hl:fn.results.toList with
   |nil=>exact Array.toList_eq_nil_iff.1 hl
   |cons x r=>rw[hl]at hrs;simp only[Q3k,Q2h,Q2a,Q2q]at hrs;obtain⟨_,_,_,_,h⟩:=hrs;cases h
  exact Qvx hf hb this hn h
 .cases hc
@[simp↓]theorem Qzq{K:Fr->Hp->Prop}{fr:Fr}{H:Hp}:Qrs K .normal fr H=K fr H:=propext Q3m
@[simp↓]theorem Qzr{K:Hp->Prop}{fr:Fr}{H:Hp}:Qoe K .normal fr H=K H:=propext Q3m
@[simp↓]theorem NoRes_ret{K:Hp->Prop}{fr:Fr}{H:Hp}:Qoe K .ret fr H=K H:=propext Q3m
structure SHas(P:Program)(F:SF):Prop where
 wrong:HasT P [2000021] F.wrong (Qjg F.ed)
 bind:Has P F.bind (Qh0 F.wrong F.tn F.bd)
 res:Has P F.res Qow
 kRes:Wd P F.res=true
 node:HasT P [6000028] F.node (Qbm F.within F.kids F.bind F.mention F.closed F.nodeC F.tp F.tn)
 nodeC:Has P F.nodeC (Qjj F.kids)
 kNodeC:Wd P F.nodeC=true
 kids:Has P F.kids (Qmg F.node F.tn)
 mention:Has P F.mention (Qbo F.find F.wrong F.tn F.mn)
 find:Has P F.find Qmh
 closed:Has P F.closed (Qeg F.within F.closedC F.tp F.ts)
 closedC:HasT P [6000022,6000028] F.closedC (Qfj F.bind F.node F.tn)
 kClosedC:Wd P F.closedC=true
section
variable{P:Program}{F:SF}{c:SC}{S S':SM}{now:A}{item:Int}{G:Nms}{H:Hp}
def Qwe(h:SInv F c S now item G H)(l:List (Int×Int)):sput F c ⟨S.bs,S.ms,l⟩ H=(H.set c.tv (.vec 2 F.ed l.length (l.map Q2))).set c.im (mbox F c ⟨S.bs,S.ms,l⟩):=by obtain⟨a,b,d,e,f⟩:=h.nd;unfold sput;rw[Hp.set_self (i:=c.tm) (by rw[Q15 d.1.symm];exact h.e),Hp.set_self (i:=c.tb) (by rw[Q15 b.2.1.symm];exact h.b)]
def Qyr(h:SInv F c S now item G H)(l:List SBd):sput F c ⟨l,S.ms,S.bad⟩ H=(H.set c.tb (.tok l.length 4 F.bd)).set c.im (mbox F c ⟨l,S.ms,S.bad⟩):=by unfold sput;rw[Hp.set_self h.v,Hp.set_self h.e]
def Qyq(h:SInv F c S now item G H)(l:List Mn):sput F c ⟨S.bs,l,S.bad⟩ H=(H.set c.tm (.tok l.length 4 F.mn)).set c.im (mbox F c ⟨S.bs,l,S.bad⟩):=by obtain⟨a,b,d,e,f⟩:=h.nd;unfold sput;rw[Hp.set_self h.v,Hp.set_self (i:=c.tb) (by rw[Q15 b.1.symm];exact h.b)]
def SHas.wrong'(hF:SHas P F)(h:SInv F c S now item G H)(at_ e:Int)(hb:S.sz<=4398046511104):
 Qc P F.wrong [.ptr c.ib 0,YI at_,YI e] H (λr H'=>r=.tup []/\H'=sput F c ⟨S.bs,S.ms,S.bad++[(at_,e)]⟩ H):=by
 refine Qe hF.wrong (by simp[Qjg]) λO _=>?_;have hi:=h.i;have hm:=h.m;have hv:=h.v;obtain⟨a,-,-,d4,-⟩:=h.nd;have hm2:∀o,(H.set c.tv o)[c.im]?=some (mbox F c S):=λo=>by rw[Q15 a.2.2.1.symm];exact hm
 have hfit:(S.bad.length+1)*16<=140737488355328:=by unfold SM.sz at hb;omega
 have hcut:=Qhl (S':=⟨S.bs,S.ms,S.bad++[(at_,e)]⟩) h O;rw[Qwe h]at hcut⊢;simp only[mbox]at hm hm2 hcut⊢;have htk:List.take S.bad.length (S.bad.map Q2)=S.bad.map Q2:=Q2f (by simp);simp[Qjg,hi,hm,hm2,hv,hfit,htk];simp[RetK];simp[Q2]at hcut⊢;exact hcut
def SHas.res'(hF:SHas P F){i j ib:Nat}{tb:TypeId}{im g now0 now1 it:A}{t1 t2:TypeId}(hi:H[i]?=some (.box t1 [now1]))(hj:H[j]?=some (.box t2 [.ptr ib 0]))(hb:H[ib]?=some (.box tb [im,now0,g,it]))(hn:now1=.d .nilp\/∃k,now1=.ptr k 0):
 Qj2 P F.res [.ptr i 0,.ptr j 0] H (λH'=>H'=H.set ib (.box tb [im,now1,g,it])):=by
 obtain⟨fn,hf,hcf⟩:=hF.res;refine Qvy hf hcf rfl (by simp[Qow]) λO=>?_;rcases hn with rfl|⟨k,rfl⟩<;>simp[Qow,hi,hj,hb]
def SHas.bind'(hF:SHas P F)(h:SInv F c S now item G H){m:Nat}{es:Nms}(hm:H[m]?=some (.mp (Vw es)))(hoff:c.off m/\m≠c.ib)(n:N)(kind:Int)(hb:S.sz<=2199023255552):
 Qc P F.bind [.ptr c.ib 0,.map m,n.v,YI kind] H (λr H'=>r=.tup []/\H'=nput F c (Ym kind item n es S).2 m (Ym kind item n es S).1 H):=by
 refine Qe hF.bind (by simp[Qh0]) λO _=>?_;obtain⟨k,f,t,w,a,z,ks⟩:=n;rw[N.v_mk];have hml:=Wl hm;obtain⟨p1,p2,p3,p4,p5,p6⟩:=h.lt;obtain⟨na,nb,nd,ne,nf⟩:=h.nd;obtain⟨bx,hbx⟩:∃bx,bx=Ob.box F.tn [YI k,YI f,YI t,YS w,YI a,YL z 6 (ks.map N.enc)]:=⟨_,rfl⟩;have hA:=Wj hm;have hg:=Qjc w es;have hok:=Qqc w es;have hput:=Qnu w S.bs.length es;have hfit:(S.bs.length+1)*40<=140737488355328:=by unfold SM.sz at hb;omega
 have key:∀(S1:SM)(W:Hp),W=sput F c S1 H++[bx]->S1.bs=S.bs->S1.ms=S.ms->(Ym kind item (.mk k f t w a z ks) es S).2=⟨S1.bs++[⟨a,kind,w,item⟩],S1.ms,S1.bad⟩->
  W[H.length]?=some bx/\W[m]?=some (.mp (Vw es))/\W[c.ib]?=some (.box F.tb [.ptr c.im 0,now,.map c.g,YI item])/\W[c.im]?=some (mbox F c S1)/\(∀o,(W.set m o)[H.length]?=some bx)/\(∀o,(W.set m o)[c.ib]?=some (.box F.tb [.ptr c.im 0,now,.map c.g,YI item]))/\(∀o,(W.set m o)[c.im]?=some (mbox F c S1))/\
  (∀o,(W.set m o)[c.tb]?=some (.tok S.bs.length 4 F.bd))/\(∀o o',((W.set m o).set c.tb o')[c.im]?=some (mbox F c S1))/\H.length<=W.length/\
  Hp.cut H.length (((W.set m (.mp (Vw (Qdd w S.bs.length es)))).set c.tb (.tok (S.bs.length+1) 4 F.bd)).set c.im (mbox F c ⟨S1.bs++[⟨a,kind,w,item⟩],S1.ms,S1.bad⟩))=nput F c (Ym kind item (.mk k f t w a z ks) es S).2 m (Ym kind item (.mk k f t w a z ks) es S).1 H:=by
  rintro S1 W rfl e1 e2 e3;have hs1:=h.put S1;have hs2:=hs1.app [bx];have hl:H.length=(sput F c S1 H).length:=Yp.symm;have g1:(sput F c S1 H++[bx])[H.length]?=some bx:=by rw[hl];simp
  have hmn:m≠H.length:=by omega
  have e4:(Ym kind item (.mk k f t w a z ks) es S).1=Qdd w S.bs.length es:=rfl;refine⟨g1,Wj (by rw[V1 hoff.1];exact hm) _,hs2.i,hs2.m,λo=>by rw[Q15 hmn];exact g1,λo=>by rw[Q15 hoff.2];exact hs2.i,λo=>by rw[Q15 hoff.1.1];exact hs2.m,
   λo=>by rw[Q15 hoff.1.2.1,<-e1];exact hs2.b,λo o'=>by rw[Q15 na.1.symm,Q15 hoff.1.1];exact hs2.m,by simp[Yp],?_⟩
  rw[e3,e4];have hsb:=Qyr hs1 (S1.bs++[⟨a,kind,w,item⟩]);rw[Qf6]at hsb;unfold nput;have hX:((((sput F c S1 H++[bx]).set m (.mp (Vw (Qdd w S.bs.length es)))).set c.tb (.tok (S.bs.length+1) 4 F.bd)).set c.im (mbox F c ⟨S1.bs++[⟨a,kind,w,item⟩],S1.ms,S1.bad⟩))=(sput F c ⟨S1.bs++[⟨a,kind,w,item⟩],S1.ms,S1.bad⟩ H).set m (.mp (Vw (Qdd w S.bs.length es)))++[bx]:=by rw[hsb,Q18 _ _ (by rw[Yp];exact hml),Q18 _ _ (by rw[Q21,Yp];exact p2),Q18 _ _ (by rw[Q21,Q21,Yp];exact p1)];congr 1;rw[Q4j _ _ hoff.1.2.1,Q4j _ _ hoff.1.1,e1];simp
  rw[hX,Qaq (by rw[Q21,Yp]),Hp.cut_set,Qhl h O,Qhc]
 cases hgg:Zm w es with
 |none=>have k0:=key S (H++[bx]) (by rw[Qf7 h]) rfl rfl (by simp[Ym,SM.bind,hgg,N.at_,N.w]);rw[hgg]at hg;obtain⟨q1,q2,q3,q4,q5,q6,q7,q8,q9,q10,q11⟩:=k0;simp only[mbox]at q4 q7 q9 q11;subst hbx;simp[Qh0,-mpOk,-Qam,-Qaf,q2,hg,hok];generalize H++_=W at q1 q2 q3 q4 q5 q6 q7 q8 q9 q10 q11⊢;simp[-mpOk,-Qam,-Qaf,q1,q2,hg,hok,q3,q4,q5,q6,q7,q8,q9,hput,hfit,appA];simp[RetK,q10];simp[Qw]at q11⊢;exact q11
 |some i=>have k0:=key ⟨S.bs,S.ms,S.bad++[(a,31)]⟩ _ rfl rfl rfl (by simp[Ym,SM.bind,hgg,N.at_,N.w]);rw[hgg]at hg;have gw:=hF.wrong' (h.app [bx]) a 31 (by omega);rw[Qb9 h]at gw;obtain⟨q1,q2,q3,q4,q5,q6,q7,q8,q9,q10,q11⟩:=k0;simp only[mbox]at q4 q7 q9 q11;have hA1:=hA [bx];subst hbx;simp[Qh0,-mpOk,-Qam,-Qaf,hA1,hg,hok];refine Qa gw ?_;generalize sput F c ⟨S.bs,S.ms,S.bad++[(a,31)]⟩ H++_=W at q1 q2 q3 q4 q5 q6 q7 q8 q9 q10 q11⊢;simp[-mpOk,-Qam,-Qaf,q1,q2,hg,hok,q3,q4,q5,q6,q7,q8,q9,hput,hfit,appA];simp[RetK,q10];simp[Qw]at q11⊢;exact q11
end
end
section
section
variable{P:Program}{F:SF}{c:SC}{S S':SM}{now:A}{item:Int}{G:Nms}{H:Hp}
def Ve.clr{l:List (Nat×Nat×Frm)}{a:A}(h:Ve F H a l):a.clr H.length=a:=by
 rcases h.val with⟨rfl,-⟩|⟨i,m,f,r,-,rfl,hi⟩
 .simp
 .simp[hi]
def muF:A->Nat
 |.ptr i _=>i+1
 |_=>0
def SHas.find'(hF:SHas P F)(h:SInv F c S now item G H){E:List (Nat×Nat×Frm)}(hc:Ve F H now E)(w:Bs)(hE:E.length<=1099511627776):
 Qc P F.find [.ptr c.ib 0,YS w] H (λr H'=>r=.tup [YI (Yl G w (E.map λx=>x.2.2) 0).1,YI (Yl G w (E.map λx=>x.2.2) 0).2]/\H'=H):=by
 refine Qe hF.find (by simp[Qmh]) λO _=>?_;have hi:=h.i;have hG:=h.g;have hil:=(h.lt).2.2.2.2.1;have hg:=Qjc w;have hok:=Qqc w;simp[Qmh,hi];refine Wy H.length (λfr H'=>H'=H/\fr 0=.ptr c.ib 0/\fr 1=YS w/\∃a E' far,fr 6=a/\Ve F H a E'/\fr 5=YI far/\0<=far/\far+E'.length<=1099511627776/\Yl G w (E'.map λx=>x.2.2) far=Yl G w (E.map λx=>x.2.2) 0) (λfr _=>muF (fr 6)) (by simp)
  ⟨Qb O,by simp[hil],by simp,now,E,0,by simpa using hc.clr,hc,by simp,Q16 _,by omega,rfl⟩ ?_
 rintro fr H' ⟨rfl,f0,f1,a,E',far,f6,hch,f5,h0,hle,hfe⟩;cases E' with
 |nil=>
  simp only[Ve]at hch;subst hch;rw[<-hfe];simp only[Q25,Yl];cases hgg:Zm w G with
  |none=>simp[f0,f1,f5,f6,hi,hG,-mpOk,-Qam,hok,hg,hgg,RetK,Qb O]
  |some q=>simp[f0,f1,f5,f6,hi,hG,-mpOk,-Qam,hok,hg,hgg,RetK,Qb O]
 |cons x r=>
  obtain⟨i,m,ff⟩:=x;obtain⟨rfl,hlt,up,h1,h2,h3⟩:=hch;have hu:up.clr H'.length=up:=h3.clr;rw[<-hfe];simp only[Q2w,Yl];simp only[Q2w,Yl]at hfe;cases hgg:Zm w ff.es with
  |some q=>simp[f0,f1,f5,f6,h1,h2,-mpOk,-Qam,hok,hg,hgg,RetK,Qb O]
  |none=>
   rw[hgg]at hfe;simp only at hfe;have hw:IntKind.i64.wrap (far+1)=far+1:=Qhh (by omega) (by simp only[Q2i]at hle;omega);have hm:muF (up.clr H'.length)<muF (.ptr i 0):=by
    rw[hu];rcases h3.val with⟨rfl,-⟩|⟨i',m',f',r',rfl,rfl,-⟩
    .simp[muF]
    .have:=hlt (i',m',f') (by simp);simp[muF]at this⊢;omega
   cases hlam:ff.lam with
   |true=>
    rw[hlam]at h1 hfe;simp[f0,f1,f5,f6,h1,h2,-mpOk,-Qam,hok,hg,hgg,hw];refine Wf (by simp) ⟨Qb O,by simp[f0,hil],by simp[f1],up,r,far+1,by simpa using hu,h3,by simp,by omega,by simp only[Q2i]at hle;omega,?_⟩ ?_
    .rfl
    .exact hm
   |false=>
    rw[hlam]at h1 hfe;simp[f0,f1,f5,f6,h1,h2,-mpOk,-Qam,hok,hg,hgg];refine Wf (by simp) ⟨Qb O,by simp[f0,hil],by simp[f1],up,r,far,by simpa using hu,h3,by simp[f5],by omega,by simp only[Q2i]at hle;omega,?_⟩ ?_
    .rfl
    .exact hm
def SHas.mention'(hF:SHas P F)(h:SInv F c S now item G H){E:List (Nat×Nat×Frm)}(hc:Ve F H now E)(n:N)(wr:Bool)(hE:E.length<=1099511627776)(hb:S.sz<=2199023255552)(hG:FOk S.bs.length G)(hO:∀x∈E,FOk S.bs.length x.2.2.es):
 Qc P F.mention [.ptr c.ib 0,n.v,YB wr] H (λr H'=>r=.tup []/\H'=sput F c (S.men n wr (Yl G n.w (E.map λx=>x.2.2) 0)) H):=by
 refine Qe hF.mention (by simp[Qbo]) λO _=>?_;obtain⟨k,f,t,w,a,z,ks⟩:=n;rw[N.v_mk];obtain⟨p1,p2,p3,p4,p5,p6⟩:=h.lt;obtain⟨na,nb,nd,ne,nf⟩:=h.nd;obtain⟨bx,hbx⟩:∃bx,bx=Ob.box F.tn [YI k,YI f,YI t,YS w,YI a,YL z 6 (ks.map N.enc)]:=⟨_,rfl⟩;have hfit:(S.ms.length+1)*32<=140737488355328:=by unfold SM.sz at hb;omega
 have gf:=hF.find' (h.app [bx]) (hc.app [bx]) w hE;have hok:=Qqt hG w (E.map λx=>x.2.2) 0 (λf hf=>by obtain⟨x,hx,rfl⟩:=Q3c.1 hf;exact hO x hx) (Q16 _);have hmen:S.men (.mk k f t w a z ks) wr (Yl G w (E.map λx=>x.2.2) 0)=⟨S.bs,S.ms++[⟨a,(Yl G w (E.map λx=>x.2.2) 0).1,wr,(Yl G w (E.map λx=>x.2.2) 0).2⟩],if(Yl G w (E.map λx=>x.2.2) 0).1<0 then S.bad++[(a,30)]else if wr/\(S.bs.getD (Yl G w (E.map λx=>x.2.2) 0).1.toNat default).k<3 then S.bad++[(a,35)]else S.bad⟩:=rfl;rw[show N.w (.mk k f t w a z ks)=w from rfl,hmen];generalize Yl G w (E.map λx=>x.2.2) 0=p at gf hok⊢;obtain⟨to,far⟩:=p;obtain⟨hto,hf0,hf1⟩:=hok;simp only at hto hf0 hf1⊢;have key:∀(bad:List (Int×Int))(W:Hp),W=sput F c ⟨S.bs,S.ms,bad⟩ H++[bx]->
  W[H.length]?=some bx/\W[c.ib]?=some (.box F.tb [.ptr c.im 0,now,.map c.g,YI item])/\W[c.im]?=some (mbox F c ⟨S.bs,S.ms,bad⟩)/\W[c.tm]?=some (.tok S.ms.length 4 F.mn)/\(∀o,(W.set c.tm o)[c.im]?=some (mbox F c ⟨S.bs,S.ms,bad⟩))/\H.length<=W.length/\
  Hp.cut H.length ((W.set c.tm (.tok (S.ms.length+1) 4 F.mn)).set c.im (mbox F c ⟨S.bs,S.ms++[⟨a,to,wr,far⟩],bad⟩))=sput F c ⟨S.bs,S.ms++[⟨a,to,wr,far⟩],bad⟩ H:=by
  rintro bad W rfl;have hs1:=h.put ⟨S.bs,S.ms,bad⟩;have hs2:=hs1.app [bx];have hl:H.length=(sput F c ⟨S.bs,S.ms,bad⟩ H).length:=Yp.symm;refine⟨by rw[hl];simp,hs2.i,hs2.m,hs2.e,λo=>by rw[Q15 na.2.1.symm];exact hs2.m,by simp[Yp],?_⟩;have hsb:=Qyq hs1 (S.ms++[⟨a,to,wr,far⟩]);rw[Qf6]at hsb;have hX:((sput F c ⟨S.bs,S.ms,bad⟩ H++[bx]).set c.tm (.tok (S.ms.length+1) 4 F.mn)).set c.im (mbox F c ⟨S.bs,S.ms++[⟨a,to,wr,far⟩],bad⟩)=sput F c ⟨S.bs,S.ms++[⟨a,to,wr,far⟩],bad⟩ H++[bx]:=by rw[hsb,Q18 _ _ (by rw[Yp];exact p3),Q18 _ _ (by rw[Q21,Yp];exact p1)];simp
  rw[hX];exact Qi7 h O [bx]
 have hh:=h.app [bx];have e1:=hh.i;have e2:=hh.m;have e3:(H++[bx])[H.length]?=some bx:=by simp
 have hW0:H++[bx]=sput F c ⟨S.bs,S.ms,S.bad⟩ H++[bx]:=by rw[Qf7 h]
 simp only[mbox]at e2;by_cases hneg:to<0
 .have gw:=hF.wrong' hh a 30 (by omega);rw[Qb9 h]at gw;obtain⟨q1,q2,q3,q4,q5,q6,q7⟩:=key (S.bad++[(a,30)]) _ rfl;simp only[mbox]at q3 q5 q7;have hbx':=hbx;subst hbx;simp[Qbo];refine Qa gf ?_;generalize H++_=W0 at gw e1 e2 e3⊢;simp[hneg,e3];refine Qa gw ?_;generalize sput F c ⟨S.bs,S.ms,S.bad++[(a,30)]⟩ H++_=W at q1 q2 q3 q4 q5 q6 q7⊢;simp[q1,q2,q3,q4,q5,hfit,appA];simp[RetK,q6];simp[Ya,hneg]at q7⊢;exact q7
 .obtain⟨i,rfl⟩:∃i:Nat,to=(i:Int):=⟨to.toNat,by omega⟩;have hil:i<S.bs.length:=by omega
  have hr:=Qt Qw hil;have hgd:S.bs.getD i default=S.bs[i]:=by simp[Q3a,hil]
  have hneg':¬((i:Int)<0):=hneg;rw[Q31,hgd];generalize S.bs[i]=b at hr⊢;obtain⟨ba,bk,bw,bi⟩:=b;simp only[Qw]at hr;simp only;rw[if_neg hneg'];by_cases hset:wr=true/\bk<3
  .rw[if_pos hset];have gw:=hF.wrong' hh a 35 (by omega);rw[Qb9 h]at gw;obtain⟨q1,q2,q3,q4,q5,q6,q7⟩:=key (S.bad++[(a,35)]) _ rfl;simp only[mbox]at q3 q5 q7;obtain⟨rfl,hk⟩:=hset;subst hbx;simp[Qbo];refine Qa gf ?_;generalize H++_=W0 at gw e1 e2 e3⊢;simp[hneg',e3,e1,e2,hr,hk];refine Qa gw ?_;generalize sput F c ⟨S.bs,S.ms,S.bad++[(a,35)]⟩ H++_=W at q1 q2 q3 q4 q5 q6 q7⊢;simp[q1,q2,q3,q4,q5,hfit,appA];simp[RetK,q6];simp[Ya]at q7⊢;exact q7
  .rw[if_neg hset];obtain⟨q1,q2,q3,q4,q5,q6,q7⟩:=key S.bad _ hW0;simp only[mbox]at q3 q5 q7;subst hbx;simp[Qbo];refine Qa gf ?_;generalize H++_=W at q1 q2 q3 q4 q5 q6 q7⊢;cases wr with
   |false=>simp[hneg',q1,q2,q3,q4,q5,hfit,appA];simp[RetK,q6];simp[Ya]at q7⊢;exact q7
   |true=>have hk:¬bk<3:=λhk=>hset ⟨rfl,hk⟩;simp[hneg',q1,q2,q3,q4,q5,hr,hk,hfit,appA];simp[RetK,q6];simp[Ya]at q7⊢;exact q7
end
end
end Go.Zam
