/-
  Texts of one proof, one behind the other.
-/
import Derived.Test.YtffdeeooocookaaM6
import Derived.Test.YtffdeeooocookaaM4
import Derived.Test.YtffdeeooocookaaM3
import Derived.Sort.Row
import Derived.Sort.Grow
import Derived.Sort.EncStr
import Derived.Test.YtffdeeooocookaaM5
import Derived.Test.YtffdeeooocookaaProg
import Derived.KernelRfl
import Derived.Shelf.Sort.Plain
import Derived.Shelf.Slices.In.SortNone
import Derived.Ground.NamesProg
set_option linter.all false
set_option maxRecDepth 100000
set_option maxHeartbeats 4000000
namespace Go.Zam
section
def scW0 (tp:TypeId):C := .ops [⟨(some 3),none,.box tp 1 (.t 0)⟩] false
def scW1 (tfp : TypeId) : C := .ops [
    ⟨(some 7),none,.load 1 false (.t 3)⟩,
    ⟨(some 8),none,.nilCheck (.t 7)⟩,
    ⟨(some 9),none,.faddr 1 (.t 8)⟩,
    ⟨(some 10),none,.load 1 false (.t 9)⟩,
    ⟨(some 6),none,.alloc tfp [.nilp]⟩,
    ⟨none,none,.store 1 (.t 6) (.t 10)⟩] false
def scWl (res:FuncId):List IOp:=[⟨(some 11),none,.mkfn (.func res) [] [(.t 6),(.t 3)]⟩]
def scW2 (tf : TypeId) : C := .seq (.ops [
    ⟨(some 12),none,.load 1 false (.t 3)⟩,
    ⟨(some 13),none,.mkMap⟩,
    ⟨(some 14),none,.mv (.t 1)⟩,
    ⟨(some 15),none,.load 1 false (.t 6)⟩,
    ⟨(some 16),none,.build [.nilm,(.bool false),.nilp] [(0,1,(.t 13)),(1,1,(.t 14)),(2,1,(.t 15))]⟩,
    ⟨(some 17),none,.box tf 3 (.t 16)⟩,
    ⟨(some 18),none,.nilCheck (.t 12)⟩,
    ⟨(some 19),none,.faddr 1 (.t 18)⟩,
    ⟨none,none,.store 1 (.t 19) (.t 17)⟩] false)
 (.ops [
  ⟨(some 20),none,.mv (.t 2)⟩,
  ⟨(some 21),none,.callv (.t 20) []⟩] false)
def HasW (P:Program) (F:SF):Prop:=∃ fn,P.funcs[F.within]?=some fn∧deferF P [] fn=some (22,scW0 F.tp,scW1 F.tfp,scWl F.res,11,scW2 F.tf)
structure OInv (F:SF) (c:SC) (S:SM) (now:A) (item:Int) (G:Nms) (E:List (Nat × Nat × Frm)) (H:Hp):Prop where
 s:SInv F c S now item G H
 ch:ChainAt F H now E
 off:∀ x ∈ E,(c.off x.1∧x.1 ≠ c.ib∧x.1 ≠ c.g)∧(c.off x.2.1∧x.2.1 ≠ c.ib∧x.2.1 ≠ c.g)
section
variable {P:Program} {F:SF} {c:SC} {S S':SM} {now:A} {item:Int} {G:Nms} {H:Hp} {E:List (Nat × Nat × Frm)}
theorem NInv.o {i m:Nat} {fr:Nms} {lam:Bool} (h:NInv F c S item G i m fr lam E H):OInv F c S (.ptr i 0) item G ((i,m,⟨fr,lam⟩) :: E) H:=⟨h.s,h.ch,h.off⟩
theorem OInv.app (h:OInv F c S now item G E H) (X:Hp):OInv F c S now item G E (H++X):=⟨h.s.app X,h.ch.app X,h.off⟩
theorem sput_appL (h:SInv F c S now item G H) {H':Hp} (hl:H'.length=H.length) (X:Hp):sput F c S' (H'++X)=sput F c S' H'++X:=by
 obtain ⟨a,b,d,e,-⟩:=h.lt
 unfold sput
 rw [List.set_append_left _ _ (by omega),List.set_append_left _ _ (by simp; omega),List.set_append_left _ _ (by simp; omega),List.set_append_left _ _ (by simp; omega)]
def inScope (F:SF) (c:SC) (now:A) (item:Int) (lam:Bool) (H:Hp):Hp :=
 (H.set c.ib (.box F.tb [.ptr c.im 0,.ptr (H.length+3) 0,.map c.g,.d (.int .i64 item)]))++[.box F.tp [.ptr c.ib 0],.box F.tfp [now],.mp [],.box F.tf [.map (H.length+2),.d (.bool lam),now]]
theorem inScope_get {j:Nat} {o:Ob} (hj:H[j]?=some o) (h:j ≠ c.ib) (item:Int) (lam:Bool):(inScope F c now item lam H)[j]?=some o:=by
 unfold inScope
 exact get_app (by rw [List.getElem?_set_ne (Ne.symm h)]; exact hj) _
theorem inScope_at {lam:Bool} (k:Nat):(inScope F c now item lam H)[H.length+k]?=([.box F.tp [.ptr c.ib 0],.box F.tfp [now],.mp [],.box F.tf [.map (H.length+2),.d (.bool lam),now]]:Hp)[k]?:=by
 unfold inScope
 rw [List.getElem?_append_right (by simp)]
 simp
theorem OInv.inner (h:OInv F c S now item G E H) (lam:Bool):NInv F c S item G (H.length+3) (H.length+2) [] lam E (inScope F c now item lam H):=by
 obtain ⟨p1,p2,p3,p4,p5,p6⟩:=h.s.lt
 obtain ⟨na,nb,nd,ne,nf⟩:=h.s.nd
 have hlt:=h.ch.lt
 refine ⟨⟨inScope_get h.s.m na.2.2.2.1 _ _,inScope_get h.s.b nb.2.2.1 _ _,inScope_get h.s.e nd.2.1 _ _,inScope_get h.s.v ne.1 _ _,?_,inScope_get h.s.g nf.symm _ _,h.s.nd⟩,?_,fun x hx => ?_,by omega,fun x hx => ?_⟩
 · unfold inScope
   exact get_app (by rw [List.getElem?_set_self p5]) _
 · refine ⟨rfl,fun x hx=>by have:=(hlt x hx).1; omega,now,inScope_at 3,inScope_at 2,h.ch.keep fun x hx => ?_⟩
   have h1:=h.off x hx
   have h2:=hlt x hx
   exact ⟨by rw [List.getElem?_eq_getElem h2.1]; exact inScope_get (List.getElem?_eq_getElem h2.1) h1.1.2.1 _ _,by rw [List.getElem?_eq_getElem h2.2]; exact inScope_get (List.getElem?_eq_getElem h2.2) h1.2.2.1 _ _⟩
 · rcases List.mem_cons.1 hx with rfl | hx
   · refine ⟨⟨⟨?_,?_,?_,?_⟩,?_,?_⟩,⟨⟨?_,?_,?_,?_⟩,?_,?_⟩⟩<;>simp only<;>omega
   · exact h.off x hx
 · have:=hlt x hx
   omega
theorem SHas.within' (hF:SHas P F) (hW:HasW P F) (h:OInv F c S now item G E H) (lam:Bool) {g:FuncId} {cap:List A} (hg:callOk P g=true) {es:Nms}
 (hdo:ACall P g cap (inScope F c now item lam H) (fun r H2=>r = .tup []∧H2=nput F c S' (H.length+2) es (inScope F c now item lam H))) :
 ACall P F.within [.ptr c.ib 0,.d (.bool lam),.fn (.func g) [] cap] H (fun r H'=>r = .tup []∧H'=sput F c S' H):=by
 obtain ⟨fn,hf,hd⟩:=hW
 refine acall_deferF hf hd (by simp) fun hcl => ?_
 have hi:=h.s.i
 have hA:=get_app hi
 obtain ⟨p1,p2,p3,p4,p5,p6⟩:=h.s.lt
 simp only [scW0,scW1,scWl,scW2]
 simp [hA]
 refine fun _ => ?_
 have hnow:(now = .d .nilp∧E=[])∨∃ i m f r,E=(i,m,f) :: r∧now = .ptr i 0∧i < H.length:=h.ch.val
 have hflat:now = .d .nilp∨∃ k,now = .ptr k 0:=by
  rcases hnow with ⟨h1,-⟩ | ⟨i,-,-,-,-,h1,-⟩
  · exact .inl h1
  · exact .inr ⟨i,h1⟩
 have step:∀ X:Hp,Hp.cut H.length ((nput F c S' (H.length+2) es (inScope F c now item lam H)).set c.ib (.box F.tb [.ptr c.im 0,now,.map c.g,.d (.int .i64 item)]))=sput F c S' H:=fun _=>by
  unfold nput inScope
  rw [sput_appL h.s (by simp),List.set_append_right _ _ (by rw [sput_len,List.length_set]; omega),List.set_append_left _ _ (by rw [sput_len,List.length_set]; exact p5),sput_set h.s.offI,List.set_set,Hp.set_self (by rw [sput_off h.s.offI]; exact hi)]
  exact sput_cutX h.s hcl _
 have hN:=(h.inner lam).nput S' es
 have q1:(nput F c S' (H.length+2) es (inScope F c now item lam H))[H.length+1]?=some (.box F.tfp [now]):=by
  unfold nput
  rw [List.getElem?_set_ne (by omega),sput_off ⟨by omega,by omega,by omega,by omega⟩]; exact inScope_at 1
 have q2:(nput F c S' (H.length+2) es (inScope F c now item lam H))[H.length]?=some (.box F.tp [.ptr c.ib 0]):=by
  unfold nput
  rw [List.getElem?_set_ne (by omega),sput_off ⟨by omega,by omega,by omega,by omega⟩]; exact inScope_at 0
 have q3:=hN.s.i
 have hres:=hF.res' q1 q2 q3 hflat
 have hlen:H.length≤(nput F c S' (H.length+2) es (inScope F c now item lam H)).length:=by rw [nput_len]; simp [inScope]
 have hst:=step []
 unfold inScope at hdo hres hst hlen
 have hB:∀ X,(H++X).set c.ib (.box F.tb [.ptr c.im 0,.ptr (H.length+3) 0,.map c.g,.d (.int .i64 item)])=H.set c.ib (.box F.tb [.ptr c.im 0,.ptr (H.length+3) 0,.map c.g,.d (.int .i64 item)])++X:=fun X=>List.set_append_left _ _ p5
 rcases hflat with rfl | ⟨k,rfl⟩
 all_goals
  simp
  refine ⟨_,_,⟨rfl,rfl⟩,hF.kRes,fun _ => ?_⟩
  simp [hA,hB]
  refine ⟨hg,CallK_of' hdo ?_⟩
  simp
  intro κ w vs hr hl hv
  refine (hres κ w vs hr hl hv).mono ?_
  rintro e u w' ⟨h1,v,κ',H',h2,h3,h4,rfl⟩
  exact ⟨h1,v,κ',_,h2,h3,h4,H.length,Nat.le_refl _,by simpa using hlen,hst⟩
theorem sput_appO (h:OInv F c S now item G E H) (X:Hp):sput F c S' (H++X)=sput F c S' H++X:=sput_app h.s X
def NodeOk (P:Program) (F:SF) (n:N):Prop:=∀ (c:SC) (S:SM) (item:Int) (G:Nms) (i m:Nat) (fr:Nms) (lam:Bool) (E:List (Nat × Nat × Frm)) (H:Hp),NInv F c S item G i m fr lam E H→FOk S.bs.length G→FOk S.bs.length fr→(∀ x ∈ E,FOk S.bs.length x.2.2.es) →
 S.sz+2 * n.size≤2199023255552→E.length+n.size≤1099511627775→ACall P F.node [.ptr c.ib 0,n.v] H (fun r H'=>r = .tup []∧H'=nput F c (nodeP G item n (E.map fun x=>x.2.2) fr lam S).2 m (nodeP G item n (E.map fun x=>x.2.2) fr lam S).1 H)
theorem kidsP_snoc (G:Nms) (item:Int) (x:N) (E:List Frm) (lam:Bool):∀ (l:List N) (fr:Nms) (S:SM),kidsP G item (l++[x]) E fr lam S=nodeP G item x E (kidsP G item l E fr lam S).1 lam (kidsP G item l E fr lam S).2
 | [],fr,S=>by rw [List.nil_append,kidsP_cons,kidsP_nil,kidsP_nil]
 | y :: r,fr,S=>by rw [List.cons_append,kidsP_cons,kidsP_snoc G item x E lam r,kidsP_cons]
theorem bindsP_snoc (item:Int) (x:N):∀ (l:List N) (fr:Nms) (S:SM),bindsP item (l++[x]) fr S=bindP 3 item x (bindsP item l fr S).1 (bindsP item l fr S).2
 | [],fr,S=>rfl
 | y :: r,fr,S=>by rw [List.cons_append,bindsP,bindsP_snoc item x r]; rfl
theorem SHas.kids' (hF:SHas P F) {k f t:Int} {w:Bs} {a:Int} {z:Bool} {ks:List N} (ih:∀ p ∈ ks,NodeOk P F p) {i m:Nat} {fr:Nms} {lam:Bool} (h:NInv F c S item G i m fr lam E H) (hG:FOk S.bs.length G) (hfr:FOk S.bs.length fr) (hE:∀ x ∈ E,FOk S.bs.length x.2.2.es)
 (hb:S.sz+2 * N.sizes ks≤2199023255552) (hl:E.length+N.sizes ks≤1099511627775) :
 ACall P F.kids [.ptr c.ib 0,N.v (.mk k f t w a z ks)] H (fun r H'=>r = .tup []∧H'=nput F c (kidsP G item ks (E.map fun x=>x.2.2) fr lam S).2 m (kidsP G item ks (E.map fun x=>x.2.2) fr lam S).1 H):=by
 obtain ⟨fn,hf,hcf⟩:=hF.kids
 refine acall_fin hf hcf (by simp [irScKids]) fun hcl _ => ?_
 rw [N.v_mk]
 have hib:=h.s.lt.2.2.2.2.1
 have hsl:=N.sizes_len ks
 obtain ⟨bx,hbx⟩:∃ bx,bx=Ob.box F.tn [.d (.int .i64 k),.d (.int .i64 f),.d (.int .i64 t),.d (.str w),.d (.int .i64 a),.d (.sl z 6 (ks.map N.enc))]:=⟨_,rfl⟩
 have hbc:bx.clr (H.length+1)=bx:=by subst hbx; simp
 have hcut1:∀ S' fr' X,Hp.cut (H.length+1) (nput F c S' m fr' H++bx :: X)=nput F c S' m fr' H++[bx]:=fun S' fr' X=>by
  have e:nput F c S' m fr' H++bx :: X=(nput F c S' m fr' (H++[bx]))++X:=by rw [nput_app h]; simp
  have hcl1:Hp.Closed (H++[bx]):=Closed.snoc hcl fun n hn=>by subst hbx; simp
  have:=nput_cutX (S':=S') (fr':=fr') (h.app [bx]) hcl1 X
  rw [List.length_append,List.length_singleton] at this
  rw [e,this,nput_app h]
 have hcut0:Hp.cut (H.length+1) (H++[bx])=H++[bx]:=by
  have:=hcut1 S fr []
  rw [nput_self h] at this
  exact this
 simp [irScKids]
 rw [← hbx]
 refine LoopK_out 0 (fun fr' H'=>H'=nput F c (kidsP G item ks (E.map fun x=>x.2.2) fr lam S).2 m (kidsP G item ks (E.map fun x=>x.2.2) fr lam S).1 H++[bx]) ?_ ?_
 · refine RangeK_of (H.length+1) ks.length (fun j fr' H'=>fr' 0 = .ptr c.ib 0∧fr' 7 = .d (.sl z 6 (ks.map N.enc))∧H'=nput F c (kidsP G item (ks.take j) (E.map fun x=>x.2.2) fr lam S).2 m (kidsP G item (ks.take j) (E.map fun x=>x.2.2) fr lam S).1 H++[bx]) (by omega) (by decide) (by simp) (by simp) ?_ ?_ ?_
   · rw [List.take_zero,kidsP_nil,nput_self h]
     simp [hcut0]; omega
   · rintro j fr' H' hj f9 f8 ⟨f0,f7,rfl⟩
     have hr:=rowAt_map N.enc hj
     have hm:=List.getElem_mem hj
     have hsz:N.sizes (ks.take j)+(ks[j]).size≤N.sizes ks:=by
      have:ks=ks.take j++ks[j] :: ks.drop (j+1):=by rw [List.getElem_cons_drop]; simp
      have e:N.sizes ks=N.sizes (ks.take j)+(ks[j].size+N.sizes (ks.drop (j+1))):=by conv=>lhs; rw [this,N.sizes_app,N.sizes_cons]
      omega
     have hgr:=grew_kids (fun p _=>grew p) (ks:=ks.take j) G item (E.map fun x=>x.2.2) fr lam S hfr
     have hn1:=h.nput (kidsP G item (ks.take j) (E.map fun x=>x.2.2) fr lam S).2 (kidsP G item (ks.take j) (E.map fun x=>x.2.2) fr lam S).1
     have hstep:kidsP G item (ks.take (j+1)) (E.map fun x=>x.2.2) fr lam S=nodeP G item ks[j] (E.map fun x=>x.2.2) (kidsP G item (ks.take j) (E.map fun x=>x.2.2) fr lam S).1 lam (kidsP G item (ks.take j) (E.map fun x=>x.2.2) fr lam S).2:=by
      rw [List.take_succ_eq_append_getElem hj,kidsP_snoc]
     have ihj:=ih _ hm
     generalize ks[j]=x at hr hsz ihj hstep
     obtain ⟨g1,g2,g3⟩:=hgr
     generalize kidsP G item (ks.take j) (E.map fun x=>x.2.2) fr lam S=KP at g1 g2 g3 hn1 hstep ⊢
     obtain ⟨fr1,S1⟩:=KP
     simp only at g1 g2 g3 hn1 hstep ⊢
     have hlen:H.length=(nput F c S1 m fr1 H).length:=nput_len.symm
     have ihc:=fun X=>ihj c S1 item G i m fr1 lam E _ (hn1.app (bx :: X)) (hG.mono g1) g3 (fun x hx=>(hE x hx).mono g1) (by omega) (by omega)
     obtain ⟨k2,f2,t2,w2,a2,z2,ks2⟩:=x
     rw [N.enc_mk] at hr
     rw [N.v_mk] at ihc
     have hk:∀ X Y,(nput F c S1 m fr1 H++bx :: X)++Y=nput F c S1 m fr1 H++bx :: (X++Y):=fun X Y=>by simp
     have hlb:(nput F c S1 m fr1 H++[bx]).length=H.length+1:=by simp [nput_len]
     simp [f9,f7,hr,f0]
     rw [show nput F c S1 m fr1 H++[bx,Ob.box F.tn [.d (.int .i64 k2),.d (.int .i64 f2),.d (.int .i64 t2),.d (.str w2),.d (.int .i64 a2),.d (.sl z2 6 (ks2.map N.enc))]]=nput F c S1 m fr1 H++bx :: [Ob.box F.tn [.d (.int .i64 k2),.d (.int .i64 f2),.d (.int .i64 t2),.d (.str w2),.d (.int .i64 a2),.d (.sl z2 6 (ks2.map N.enc))]] from rfl]
     refine CallK_of' (ihc _) ?_
     rw [nput_app hn1,nput_nput h.offM.1]
     simp
     refine NextK_of (H.length+1) (Nat.le_refl _) (by simp [f9,f8,nput_len]) ?_
     simp [f0,f7,hstep,hcut1]; omega
   · rintro fr' H' f9 f8 ⟨f0,f7,rfl⟩
     rw [List.take_of_length_le (Nat.le_refl _)]
     simp
 · rintro fr' H' rfl
   simp
   simp [RetK,nput_len,nput_cutX h hcl]
end
end
section
section
variable {P:Program} {F:SF} {c:SC} {S S':SM} {now:A} {item:Int} {G:Nms} {H:Hp} {E:List (Nat × Nat × Frm)}
theorem SHas.closedC' (hF:SHas P F) {p q b:N} {z:Bool} (ih:NodeOk P F b) {i m:Nat} {lam:Bool} (h:NInv F c S item G i m [] lam E H) (hG:FOk S.bs.length G) (hE:∀ x ∈ E,FOk S.bs.length x.2.2.es)
 (hb:S.sz+2 * N.sizes [p,q,b]≤2199023255552) (hl:E.length+N.sizes [p,q,b]≤1099511627775) {al ab:Nat} (h1:H[al]?=some (.box F.ts [.d (.sl z 6 ([p,q,b].map N.enc))])) (h2:H[ab]?=some (.box F.tp [.ptr c.ib 0])) (hoa:(c.off al∧al ≠ m)∧(c.off ab∧ab ≠ m)) :
 ACall P F.closedC [.ptr al 0,.ptr ab 0] H (fun r H'=>r = .tup []∧H'=nput F c (nodeP G item b (E.map fun x=>x.2.2) (bindsP item p.ks [] S).1 lam (bindsP item p.ks [] S).2).2 m (nodeP G item b (E.map fun x=>x.2.2) (bindsP item p.ks [] S).1 lam (bindsP item p.ks [] S).2).1 H):=by
 obtain ⟨fn,hf,hcf⟩:=hF.closedC
 refine acall_fin hf hcf (by simp [irScClosedC]) fun hcl _ => ?_
 have hal:=scan_len h1
 have hab:=scan_len h2
 have hps:p.ks.length+b.size+1≤N.sizes [p,q,b]:=by
  simp only [N.sizes_cons,N.sizes_nil]
  have:=N.sizes_len p.ks
  have:=N.size_ks p
  omega
 have hr0:Zam.rowAt ([p,q,b].map N.enc) 0=some p.enc:=rfl
 have hr2:Zam.rowAt ([p,q,b].map N.enc) 2=some b.enc:=rfl
 simp only [List.map_cons,List.map_nil] at h1 hr0 hr2
 have hbe:b.v = .agg (b.enc.map .d):=rfl
 have hgr0:=Grew.binds (item:=item) p.ks (FOk.nil S.bs.length)
 have hn0:=h.nput (bindsP item p.ks [] S).2 (bindsP item p.ks [] S).1
 have ihb:=ih c (bindsP item p.ks [] S).2 item G i m (bindsP item p.ks [] S).1 lam E _ hn0 (hG.mono hgr0.bs) hgr0.ok (fun x hx=>(hE x hx).mono hgr0.bs) (by have:=hgr0.sz; omega) (by omega)
 rw [nput_nput h.offM.1] at ihb
 have hat:∀ S' fr' X,(nput F c S' m fr' H++X)[al]?=some (.box F.ts [.d (.sl z 6 [p.enc,q.enc,b.enc])])∧(nput F c S' m fr' H++X)[ab]?=some (.box F.tp [.ptr c.ib 0]):=fun S' fr' X=>by
  refine ⟨get_app ?_ X,get_app ?_ X⟩
  · unfold nput; rw [List.getElem?_set_ne (Ne.symm hoa.1.2),sput_off hoa.1.1]; exact h1
  · unfold nput; rw [List.getElem?_set_ne (Ne.symm hoa.2.2),sput_off hoa.2.1]; exact h2
 have hat0:∀ S' fr',(nput F c S' m fr' H)[al]?=some (.box F.ts [.d (.sl z 6 [p.enc,q.enc,b.enc])])∧(nput F c S' m fr' H)[ab]?=some (.box F.tp [.ptr c.ib 0]):=fun S' fr'=>by
  have:=hat S' fr' []
  rwa [List.append_nil] at this
 have hbs:b.enc.length=6:=by cases b; rw [N.enc_mk]; rfl
 obtain ⟨pk,pf,pt,pw,pa,pz,pks⟩:=p
 rw [N.enc_mk] at h1 hr0 hr2
 simp only [N.enc_mk] at hat hat0
 simp only [N.ks] at hgr0 hn0 ihb hps ⊢
 generalize hres:nodeP G item b (E.map fun x=>x.2.2) (bindsP item pks [] S).1 lam (bindsP item pks [] S).2=R at ihb ⊢
 simp [irScClosedC,h1,hr0]
 refine LoopK_out 0 (fun fr' H'=>fr' 0 = .ptr al 0∧fr' 1 = .ptr ab 0∧H'=nput F c (bindsP item pks [] S).2 m (bindsP item pks [] S).1 H) ?_ ?_
 · refine RangeK_of H.length pks.length (fun j fr' H'=>fr' 0 = .ptr al 0∧fr' 1 = .ptr ab 0∧fr' 7 = .d (.sl pz 6 (pks.map N.enc))∧H'=nput F c (bindsP item (pks.take j) [] S).2 m (bindsP item (pks.take j) [] S).1 H) (by omega) (by decide) (by simp) (by simp) ?_ ?_ ?_
   · rw [List.take_zero,bindsP,nput_self h]
     simp [cut_self hcl,hal,hab]
   · rintro j fr' H' hj f9 f8 ⟨f0,f1,f7,rfl⟩
     have hr:=rowAt_map N.enc hj
     have hgr:=Grew.binds (item:=item) (pks.take j) (FOk.nil S.bs.length)
     have hn1:=h.nput (bindsP item (pks.take j) [] S).2 (bindsP item (pks.take j) [] S).1
     have hstep:bindsP item (pks.take (j+1)) [] S=bindP 3 item pks[j] (bindsP item (pks.take j) [] S).1 (bindsP item (pks.take j) [] S).2:=by
      rw [List.take_succ_eq_append_getElem hj,bindsP_snoc]
     have hll:(pks.take j).length≤pks.length:=by simp; omega
     obtain ⟨ga,gb⟩:=hat0 (bindsP item (pks.take j) [] S).2 (bindsP item (pks.take j) [] S).1
     have gA:=fun X=>(hat (bindsP item (pks.take j) [] S).2 (bindsP item (pks.take j) [] S).1 X).2
     generalize pks[j]=x at hr hstep
     obtain ⟨g1,g2,g3⟩:=hgr
     generalize bindsP item (pks.take j) [] S=KP at g1 g2 g3 hn1 hstep ga gb gA ⊢
     obtain ⟨fr1,S1⟩:=KP
     simp only at g1 g2 g3 hn1 hstep ga gb gA ⊢
     have gbind:=fun X=>hF.bind' (hn1.s.app X) (get_app hn1.mp X) ⟨h.offM.1,h.offM.2.1⟩ x 3 (by omega)
     have hi1:=fun X=>(hn1.s.app X).i
     obtain ⟨c1,c2,up,c3,c4,c5⟩:=hn1.ch
     have hc3:=get_app c3
     obtain ⟨k2,f2,t2,w2,a2,z2,ks2⟩:=x
     rw [N.enc_mk] at hr
     rw [N.v_mk] at gbind
     have hlen:H.length=(nput F c S1 m fr1 H).length:=nput_len.symm
     have hlast:∀ bx:Ob,(nput F c S1 m fr1 H++[bx])[H.length]?=some bx:=fun bx=>by rw [hlen]; simp
     have hpush:∀ bx:Ob,(nput F c S1 m fr1 H).length=H.length:=fun _=>nput_len
     simp [f9,f7,hr,f0,f1,nput_len]
     generalize hX:Ob.box F.tn [.d (.int .i64 k2),.d (.int .i64 f2),.d (.int .i64 t2),.d (.str w2),.d (.int .i64 a2),.d (.sl z2 6 (ks2.map N.enc))]=bx
     have hs0:(nput F c S1 m fr1 H++[Ob.box F.tn [.d (.int .i64 0),.d (.int .i64 0),.d (.int .i64 0),.d (.str []),.d (.int .i64 0),.d (.sl true 6 [])]]).set H.length bx=nput F c S1 m fr1 H++[bx]:=by rw [hlen,set_app0]; simp
     have gb1:=gbind [bx]
     rw [nput_app hn1,nput_nput h.offM.1] at gb1
     have w1:=gA [bx]
     have w2':=hi1 [bx]
     have w3:=hc3 [bx]
     have w4:=hlast bx
     have wl:(nput F c S1 m fr1 H++[bx]).length=H.length+1:=by simp [nput_len]
     generalize nput F c S1 m fr1 H++[bx]=W at gb1 w1 w2' w3 w4 wl ⊢
     subst hX
     simp [f1,w1,w2',w3,w4]
     refine CallE_of gb1 ?_
     simp
     refine NextK_of H.length (Nat.le_refl _) (by simp [f9,f8,nput_len]) ?_
     simp [f0,f1,f7,hal,hab,hstep,nput_cutX h hcl]
   · rintro fr' H' f9 f8 ⟨f0,f1,f7,rfl⟩
     rw [List.take_of_length_le (Nat.le_refl _)]
     simp [f0,f1]
 · rintro fr' H' ⟨f0,f1,rfl⟩
   obtain ⟨ga,gb⟩:=hat0 (bindsP item pks [] S).2 (bindsP item pks [] S).1
   generalize nput F c (bindsP item pks [] S).2 m (bindsP item pks [] S).1 H=W at ihb ga gb
   simp [f0,f1,ga,gb,hr2]
   have hbv:(A.agg (b.enc.map .d))=b.v:=rfl
   rw [← hbv] at ihb
   obtain ⟨bk,bf,bt,bw,ba,bz,bks⟩:=b
   simp only [N.enc_mk] at ihb ⊢
   simp at ihb ⊢
   refine CallE_of ihb ?_
   simp
   simp [RetK,nput_len,nput_cut h hcl]
theorem SHas.closed' (hF:SHas P F) (hW:HasW P F) {ks:List N} {z:Bool} (ih:∀ p ∈ ks,NodeOk P F p) (h:OInv F c S now item G E H) (lam:Bool) (hG:FOk S.bs.length G) (hE:∀ x ∈ E,FOk S.bs.length x.2.2.es)
 (hb:S.sz+2 * N.sizes ks≤2199023255552) (hl:E.length+N.sizes ks≤1099511627775) :
 ACall P F.closed [.ptr c.ib 0,.d (.sl z 6 (ks.map N.enc)),.d (.bool lam)] H (fun r H'=>r = .tup []∧H'=sput F c (sclosedP G item ks (E.map fun x=>x.2.2) lam S) H):=by
 obtain ⟨fn,hf,hcf⟩:=hF.closed
 refine acall_fin hf hcf (by simp [irScClosed]) fun hcl _ => ?_
 by_cases h3:ks.length=3
 · have hks:∃ p q b,ks=[p,q,b]:=by
    match ks,h3 with
    | [p,q,b],_=>exact ⟨p,q,b,rfl⟩
   obtain ⟨p,q,b,rfl⟩:=hks
   rw [sclosedP_three]
   obtain ⟨p1,p2,p3,p4,p5,p6⟩:=h.s.lt
   have hO:=h.app [.box F.tp [.ptr c.ib 0],.box F.ts [.d (.sl z 6 ([p,q,b].map N.enc))]]
   have hin:=hO.inner lam
   have hL:(H++[Ob.box F.tp [.ptr c.ib 0],.box F.ts [.d (.sl z 6 ([p,q,b].map N.enc))]]:Hp).length=H.length+2:=by simp
   have a1:(H++[Ob.box F.tp [.ptr c.ib 0],.box F.ts [.d (.sl z 6 ([p,q,b].map N.enc))]]:Hp)[H.length+1]?=some (.box F.ts [.d (.sl z 6 ([p,q,b].map N.enc))]):=by simp
   have a2:(H++[Ob.box F.tp [.ptr c.ib 0],.box F.ts [.d (.sl z 6 ([p,q,b].map N.enc))]]:Hp)[H.length]?=some (.box F.tp [.ptr c.ib 0]):=by simp
   have gd:=hF.closedC' (z:=z) (ih b (by simp)) hin hG hE hb hl (inScope_get a1 (by omega) _ _) (inScope_get a2 (by omega) _ _) (by rw [hL]; refine ⟨⟨⟨?_,?_,?_,?_⟩,?_⟩,⟨⟨?_,?_,?_,?_⟩,?_⟩⟩<;>omega)
   have gw:=hF.within' hW hO lam hF.kClosedC gd
   rw [sput_appO h] at gw
   simp only [List.map_cons,List.map_nil] at gw ⊢
   simp [irScClosed]
   refine CallK_of' gw ?_
   simp
   simp [RetK,sput_len,sput_cutX h.s hcl]
 · rw [sclosedP_ne _ _ h3,sput_self h.s]
   have h3':¬ ((ks.length:Int)=3):=by omega
   simp [irScClosed,h3']
   simp [RetK,cut_app hcl]
theorem SHas.node' (hF:SHas P F) (hW:HasW P F) (n:N):NodeOk P F n:=by
 induction n using N.ind with
 | h k f t w a z ks ih =>
 intro c S item G i m fr lam E H h hG hfr hE hb hl
 obtain ⟨fn,hf,hcf⟩:=hF.node
 refine acall_fin hf hcf (by simp [irScNode]) fun hcl _ => ?_
 rw [N.size_mk] at hb hl
 obtain ⟨p1,p2,p3,p4,p5,p6⟩:=h.s.lt
 obtain ⟨bb,hbb⟩:∃ bb,bb=Ob.box F.tp [.ptr c.ib 0]:=⟨_,rfl⟩
 obtain ⟨bx,hbx⟩:∃ bx,bx=Ob.box F.tn [.d (.int .i64 k),.d (.int .i64 f),.d (.int .i64 t),.d (.str w),.d (.int .i64 a),.d (.sl z 6 (ks.map N.enc))]:=⟨_,rfl⟩
 have hA:=h.app [bb,bx]
 have a1:(H++[bb,bx]:Hp)[H.length+1]?=some bx:=by simp
 have a2:(H++[bb,bx]:Hp)[H.length]?=some bb:=by simp
 have hE':∀ x ∈ (i,m,(⟨fr,lam⟩:Frm)) :: E,FOk S.bs.length x.2.2.es:=fun x hx=>by
  rcases List.mem_cons.1 hx with rfl | hx
  · exact hfr
  · exact hE x hx
 have hmap:((i,m,(⟨fr,lam⟩:Frm)) :: E).map (fun x=>x.2.2)=⟨fr,lam⟩ :: E.map fun x=>x.2.2:=rfl
 have hfin:∀ S' fr' X,Hp.cut H.length (nput F c S' m fr' H++X)=nput F c S' m fr' H:=fun S' fr' X=>nput_cutX h hcl X
 have hi:=hA.s.i
 rw [nodeP_mk]
 by_cases h6:k=6
 · rw [if_pos h6]
   subst h6
   have hO:=hA.o
   have hin:=hO.inner false
   have gk:=hF.kids' (k:=6) (f:=f) (t:=t) (w:=w) (a:=a) (z:=z) ih hin hG (FOk.nil _) hE' (by omega) (by simp only [List.length_cons]; omega)
   rw [hmap] at gk
   have gd:ACall P F.nodeC [.ptr H.length 0,.ptr (H.length+1) 0] (inScope F c (.ptr i 0) item false (H++[bb,bx])) (fun r H2=>r = .tup []∧H2=nput F c (kidsP G item ks (⟨fr,lam⟩ :: E.map fun x=>x.2.2) [] false S).2 ((H++[bb,bx]:Hp).length+2) (kidsP G item ks (⟨fr,lam⟩ :: E.map fun x=>x.2.2) [] false S).1 (inScope F c (.ptr i 0) item false (H++[bb,bx]))):=by
    obtain ⟨fn,hf,hcf⟩:=hF.nodeC
    refine acall_fin hf hcf (by simp [irScNodeC]) fun hcl2 _ => ?_
    have b1:=inScope_get (F:=F) (now := .ptr i 0) a1 (by omega:H.length+1 ≠ c.ib) item false
    have b2:=inScope_get (F:=F) (now := .ptr i 0) a2 (by omega:H.length ≠ c.ib) item false
    rw [hbx,hbb] at b1 b2
    rw [N.v_mk] at gk
    have hcut:=nput_cut (S':=(kidsP G item ks (⟨fr,lam⟩ :: E.map fun x=>x.2.2) [] false S).2) (fr':=(kidsP G item ks (⟨fr,lam⟩ :: E.map fun x=>x.2.2) [] false S).1) hin hcl2
    generalize kidsP G item ks (⟨fr,lam⟩ :: E.map fun x=>x.2.2) [] false S=R at gk hcut ⊢
    rw [hbx,hbb] at gk hcut ⊢
    generalize inScope F c (.ptr i 0) item false (H++[Ob.box F.tp [.ptr c.ib 0],Ob.box F.tn [.d (.int .i64 6),.d (.int .i64 f),.d (.int .i64 t),.d (.str w),.d (.int .i64 a),.d (.sl z 6 (ks.map N.enc))]])=W at b1 b2 gk hcut ⊢
    simp [irScNodeC,b1,b2]
    simp at gk
    refine CallK_of' gk ?_
    simp at hcut ⊢
    simp [RetK,nput_len,hcut]
   have gw:=hF.within' hW hO false hF.kNodeC gd
   rw [sput_appO h.o] at gw
   have hfin':=hfin (kidsP G item ks (⟨fr,lam⟩ :: E.map fun x=>x.2.2) [] false S).2 fr [bb,bx]
   rw [nput_sput h] at hfin'
   rw [nput_sput h]
   generalize kidsP G item ks (⟨fr,lam⟩ :: E.map fun x=>x.2.2) [] false S=R at gw hfin' ⊢
   subst hbb; subst hbx
   rw [N.v_mk]
   simp [irScNode]
   refine CallK_of' gw ?_
   simp
   simp [RetK,sput_len,hfin']
 rw [if_neg h6]
 have gk:=hF.kids' (k:=k) (f:=f) (t:=t) (w:=w) (a:=a) (z:=z) ih hA hG hfr hE (by omega) (by omega)
 by_cases h7:k=7
 · rw [if_pos h7]
   subst h7
   have hgr:=grew_kids (fun p _=>grew p) (ks:=ks) G item (E.map fun x=>x.2.2) fr lam S hfr
   have hN:=hA.nput (kidsP G item ks (E.map fun x=>x.2.2) fr lam S).2 (kidsP G item ks (E.map fun x=>x.2.2) fr lam S).1
   have gb:=hF.bind' hN.s hN.mp ⟨h.offM.1,h.offM.2.1⟩ (.mk 7 f t w a z ks) 4 (by have:=hgr.sz; omega)
   rw [nput_nput h.offM.1] at gb
   have b0:(nput F c (kidsP G item ks (E.map fun x=>x.2.2) fr lam S).2 m (kidsP G item ks (E.map fun x=>x.2.2) fr lam S).1 (H++[bb,bx]))[H.length]?=some bb:=by rw [nput_app h,← nput_len (F:=F) (c:=c) (S:=(kidsP G item ks (E.map fun x=>x.2.2) fr lam S).2) (m:=m) (fr:=(kidsP G item ks (E.map fun x=>x.2.2) fr lam S).1)]; simp
   have b1:(nput F c (kidsP G item ks (E.map fun x=>x.2.2) fr lam S).2 m (kidsP G item ks (E.map fun x=>x.2.2) fr lam S).1 (H++[bb,bx]))[H.length+1]?=some bx:=by rw [nput_app h,← nput_len (F:=F) (c:=c) (S:=(kidsP G item ks (E.map fun x=>x.2.2) fr lam S).2) (m:=m) (fr:=(kidsP G item ks (E.map fun x=>x.2.2) fr lam S).1)]; simp
   have b2:=hN.s.i
   obtain ⟨-,-,up,b3,-,-⟩:=hN.ch
   have hfin':=hfin (bindP 4 item (.mk 7 f t w a z ks) (kidsP G item ks (E.map fun x=>x.2.2) fr lam S).1 (kidsP G item ks (E.map fun x=>x.2.2) fr lam S).2).2 (bindP 4 item (.mk 7 f t w a z ks) (kidsP G item ks (E.map fun x=>x.2.2) fr lam S).1 (kidsP G item ks (E.map fun x=>x.2.2) fr lam S).2).1 [bb,bx]
   generalize kidsP G item ks (E.map fun x=>x.2.2) fr lam S=R at gk gb b0 b1 b2 b3 hfin' ⊢
   rw [N.v_mk] at gk gb ⊢
   generalize bindP 4 item (.mk 7 f t w a z ks) R.1 R.2=R2 at gb hfin' ⊢
   subst hbb; subst hbx
   simp [irScNode]
   refine CallK_of' gk ?_
   generalize nput F c R.2 m R.1 (H++_)=W at gb b0 b1 b2 b3 ⊢
   simp [b0,b1,b2,b3]
   refine CallE_of gb ?_
   rw [nput_app h]
   simp
   simp [RetK,nput_len,hfin']
 rw [if_neg h7]
 have hff:N.w (.mk k f t w a z ks)=w:=rfl
 by_cases h8:k=8
 · rw [if_pos h8]
   subst h8
   have gm:=hF.mention' hA.s hA.ch (.mk 8 f t w a z ks) true (by simp only [List.length_cons]; omega) (by omega) hG hE'
   rw [hmap,hff] at gm
   have hN:=hA.put (S.men (.mk 8 f t w a z ks) true (findP G w (⟨fr,lam⟩ :: E.map fun x=>x.2.2) 0))
   have hms:=SM.men_sz S (.mk 8 f t w a z ks) true (findP G w (⟨fr,lam⟩ :: E.map fun x=>x.2.2) 0)
   have gk2:=hF.kids' (k:=8) (f:=f) (t:=t) (w:=w) (a:=a) (z:=z) ih hN hG hfr hE (by omega) (by omega)
   have b0:(sput F c (S.men (.mk 8 f t w a z ks) true (findP G w (⟨fr,lam⟩ :: E.map fun x=>x.2.2) 0)) (H++[bb,bx]))[H.length]?=some bb:=by rw [sput_off ⟨by omega,by omega,by omega,by omega⟩]; exact a2
   have b1:(sput F c (S.men (.mk 8 f t w a z ks) true (findP G w (⟨fr,lam⟩ :: E.map fun x=>x.2.2) 0)) (H++[bb,bx]))[H.length+1]?=some bx:=by rw [sput_off ⟨by omega,by omega,by omega,by omega⟩]; exact a1
   generalize S.men (.mk 8 f t w a z ks) true (findP G w (⟨fr,lam⟩ :: E.map fun x=>x.2.2) 0)=S1 at gm gk2 b0 b1 ⊢
   have e1:∀ S' fr',nput F c S' m fr' (sput F c S1 (H++[bb,bx]))=nput F c S' m fr' H++[bb,bx]:=fun S' fr'=>by
    rw [← nput_app h]; unfold nput; rw [sput_sput]
   rw [e1] at gk2
   have hfin':=hfin (kidsP G item ks (E.map fun x=>x.2.2) fr lam S1).2 (kidsP G item ks (E.map fun x=>x.2.2) fr lam S1).1 [bb,bx]
   generalize kidsP G item ks (E.map fun x=>x.2.2) fr lam S1=R at gk2 hfin' ⊢
   rw [N.v_mk] at gm gk2 ⊢
   subst hbb; subst hbx
   simp [irScNode]
   refine CallK_of' gm ?_
   generalize sput F c S1 (H++_)=W at gk2 b0 b1 ⊢
   simp [b0,b1]
   refine CallK_of' gk2 ?_
   simp
   simp [RetK,nput_len,hfin']
 rw [if_neg h8]
 by_cases h9:k=23
 · rw [if_pos h9]
   subst h9
   have gm:=hF.mention' hA.s hA.ch (.mk 23 f t w a z ks) false (by simp only [List.length_cons]; omega) (by omega) hG hE'
   rw [hmap,hff,sput_app h.s] at gm
   have hfin':=hfin (S.men (.mk 23 f t w a z ks) false (findP G w (⟨fr,lam⟩ :: E.map fun x=>x.2.2) 0)) fr [bb,bx]
   rw [nput_sput h] at hfin' ⊢
   generalize S.men (.mk 23 f t w a z ks) false (findP G w (⟨fr,lam⟩ :: E.map fun x=>x.2.2) 0)=S1 at gm hfin' ⊢
   rw [N.v_mk] at gm ⊢
   subst hbb; subst hbx
   simp [irScNode]
   refine CallK_of' gm ?_
   simp
   simp [RetK,sput_len,hfin']
 rw [if_neg h9]
 by_cases h10:k=28
 · rw [if_pos h10]
   subst h10
   have gc:=hF.closed' hW (z:=z) ih hA.o true hG hE' (by omega) (by simp only [List.length_cons]; omega)
   rw [hmap,sput_app h.s] at gc
   have hfin':=hfin (sclosedP G item ks (⟨fr,lam⟩ :: E.map fun x=>x.2.2) true S) fr [bb,bx]
   rw [nput_sput h] at hfin' ⊢
   generalize sclosedP G item ks (⟨fr,lam⟩ :: E.map fun x=>x.2.2) true S=S1 at gc hfin' ⊢
   rw [N.v_mk]
   subst hbb; subst hbx
   simp [irScNode]
   refine CallK_of' gc ?_
   simp
   simp [RetK,sput_len,hfin']
 rw [if_neg h10]
 rw [nput_app h] at gk
 have hfin':=hfin (kidsP G item ks (E.map fun x=>x.2.2) fr lam S).2 (kidsP G item ks (E.map fun x=>x.2.2) fr lam S).1 [bb,bx]
 generalize kidsP G item ks (E.map fun x=>x.2.2) fr lam S=R at gk hfin' ⊢
 rw [N.v_mk] at gk ⊢
 subst hbb; subst hbx
 simp [irScNode,h6,h7,h8,h9,h10]
 refine CallK_of' gk ?_
 simp
 simp [RetK,nput_len,hfin']
end
end
theorem HR.vecArr {κ:K} {H:Hp} {w:World} (hr:HR κ H w) {i k sz e:Nat} {rows:List (List D)} (hi:H[i]?=some (.vec sz e k rows)) (hne:rows ≠ []) :
 ∃ κs,κ.le κs∧HR κs (H.set i .dead++[.arr sz (rows.map (List.map .d))]) w∧(∀ v,VR κ v (.vsl i k rows.length)→VR κs v (.msl H.length 0 rows.length))∧∀ m,m ≠ i→m ≠ H.length → κs.β m = κ.β m:=by
 have hil:i < H.length:=(List.getElem?_eq_some_iff.1 hi).1
 rcases hr.ob i _ hi with ⟨-,-,h0⟩ | ⟨b,c,cur,hβ,-,hheap,hle0,hsz,hcells⟩
 · exact absurd h0 hne
 have hpos:0 < rows.length:=List.length_pos_iff.2 hne
 have hbx:=hr.ex i b (by rw [hβ]; rfl)
 have hn : κ.β H.length = .none:=hr.dom _ (Nat.le_refl _)
 let κs:K := { κ with β:=upd (upd κ.β i .deadT) H.length (.arr b sz (some (e,cur.size))) }
 have hsβ:∀ m,m ≠ i→m ≠ H.length → κs.β m = κ.β m:=fun m h1 h2=>by
  show upd (upd κ.β i _) H.length _ m=_
  rw [upd_ne _ _ h2,upd_ne _ _ h1]
 have hsi : κs.β i = .deadT:=by
  show upd (upd κ.β i _) H.length _ i=_
  rw [upd_ne _ _ (by omega),upd_same]
 have hsn : κs.β H.length = .arr b sz (some (e,cur.size)):=upd_same _ _ _
 have hks : κ.le κs:=⟨rfl,fun _ _ _ h=>h,fun m=>by
  by_cases h1:m=i
  · subst h1; rw [hsi,hβ]; exact .inr (.inl rfl)
  · by_cases h2:m=H.length
    · subst h2; rw [hn]; trivial
    · rw [hsβ m h1 h2]; exact Bind.le_refl _⟩
 have hblk:∀ m b',(κs.β m).block=some b'→(m=H.length∧b'=b)∨(m ≠ H.length∧m ≠ i∧(κ.β m).block=some b'):=fun m b' hm=>by
  by_cases h2:m=H.length
  · subst h2; rw [hsn] at hm; cases hm; exact .inl ⟨rfl,rfl⟩
  · by_cases h1:m=i
    · subst h1; rw [hsi] at hm; cases hm
    · rw [hsβ m h1 h2] at hm; exact .inr ⟨h2,h1,hm⟩
 refine ⟨κs,hks,⟨hr.below,hr.st,fun m x hx => ?_,fun m hm => ?_,fun m b' hb' => ?_,fun m b' o ho => ?_,fun m q b' h1 h2 => ?_,fun m x hx => ?_⟩,fun v hv => ?_,hsβ⟩
 · by_cases h2:m=H.length
   · subst h2
     rw [show H.length=(H.set i Ob.dead).length by simp,getElem?_app0] at hx
     cases hx
     refine ⟨b,_,hsn,fun ty n he=>by cases he; exact ⟨cur,hheap,rfl⟩,fun q r hq => ?_⟩
     simp only [List.getElem?_map,Option.map_eq_some_iff] at hq
     obtain ⟨r0,hr0,rfl⟩:=hq
     refine ⟨by simpa using (hcells q r0 hr0).1,fun y a ha => ?_⟩
     simp only [List.getElem?_map,Option.map_eq_some_iff] at ha
     obtain ⟨x0,hx0,rfl⟩:=ha
     obtain ⟨u,u1,u2⟩:=(hcells q r0 hr0).2 y x0 hx0
     exact ⟨u,by rw [cell_cells hheap]; exact u1,by simp [World.frozen?,hheap],.d u2⟩
   · have hm:m < (H.set i Ob.dead).length:=by
      have:=(List.getElem?_eq_some_iff.1 hx).1
      simp at this ⊢; omega
     rw [List.getElem?_append_left hm] at hx
     by_cases h1:i=m
     · subst h1
       rw [List.getElem?_set_self hil] at hx
       cases hx; trivial
     · rw [List.getElem?_set_ne h1] at hx
       exact (hr.ob m x hx).mono hks (hsβ m (Ne.symm h1) h2) fun _ _=>rfl
 · have:H.length+1≤m:=by simpa using hm
   rw [hsβ m (by omega) (by omega)]; exact hr.dom m (by omega)
 · rcases hblk m b' hb' with ⟨-,rfl⟩ | ⟨-,-,h3⟩
   · exact hbx
   · exact hr.ex m b' h3
 · rcases hblk m b' (Bind.block_of_owns ho) with ⟨rfl,rfl⟩ | ⟨h1,h2,h3⟩
   · exact hr.exσ i b' o (by rw [hβ]; rfl)
   · rw [hsβ m h2 h1] at ho; exact hr.exσ m b' o ho
 · rcases hblk m b' h1 with ⟨rfl,rfl⟩ | ⟨a1,a2,a3⟩
   · rcases hblk q b' h2 with ⟨rfl,-⟩ | ⟨c1,c2,c3⟩
     · rfl
     · exact absurd (hr.exd q i b' c3 (by rw [hβ]; rfl)) c2
   · rcases hblk q b' h2 with ⟨rfl,rfl⟩ | ⟨c1,c2,c3⟩
     · exact absurd (hr.exd m i b' a3 (by rw [hβ]; rfl)) a2
     · exact hr.exd m q b' a3 c3
 · by_cases h2:m=H.length
   · subst h2
     rw [show H.length=(H.set i Ob.dead).length by simp,getElem?_app0] at hx
     cases hx
     simp [Ob.flat,A.flat]
   · have hm:m < (H.set i Ob.dead).length:=by
      have:=(List.getElem?_eq_some_iff.1 hx).1
      simp at this ⊢; omega
     rw [List.getElem?_append_left hm] at hx
     by_cases h1:i=m
     · subst h1
       rw [List.getElem?_set_self hil] at hx
       cases hx; rfl
     · rw [List.getElem?_set_ne h1] at hx
       exact hr.fl m x hx
 · cases hv with
   | vsl _ _ _ ad cap hlc hf =>
   rw [hβ] at hf
   have:=(hf.2 rfl).2
   cases this
   exact .msl _ _ _ b sz 0 c (.inl ⟨_,hsn⟩) hlc (fun _=>by simp) (fun h0=>by omega)
theorem HR.recell {κ:K} {H:Hp} {w:World} (h:HR κ H w) {j:Nat} {ty:TypeId} {cs cs':List A} (hj:H[j]?=some (.box ty cs)) (hl:cs'.length=cs.length) (hfl:cs'.all A.flat=true)
 (hv:∀ (b q:Nat) (a':A) (v:Value),κ.β j = .blk b→cs'[q]?=some a'→w.cell? ⟨b,q,none⟩=some v→VR κ v a'):HR κ (H.set j (.box ty cs')) w:=by
 have hjl:j < H.length:=(List.getElem?_eq_some_iff.1 hj).1
 refine ⟨h.below,h.st,fun m x hx => ?_,fun m hm=>h.dom m (by simpa using hm),h.ex,h.exσ,h.exd,fun m x hx => ?_⟩
 · by_cases hm:j=m
   · subst hm
     rw [List.getElem?_set_self hjl] at hx
     cases hx
     obtain ⟨b,h1,h2,h3⟩:=h.ob j _ hj
     refine ⟨b,h1,by rw [h2,hl],fun q a ha => ?_⟩
     have hq:q < cs.length:=by rw [← hl]; exact (List.getElem?_eq_some_iff.1 ha).1
     obtain ⟨v,v1,v2,-⟩:=h3 q cs[q] (List.getElem?_eq_getElem hq)
     exact ⟨v,v1,v2,hv b q a v h1 ha v1⟩
   · rw [List.getElem?_set_ne hm] at hx
     exact h.ob m x hx
 · by_cases hm:j=m
   · subst hm
     rw [List.getElem?_set_self hjl] at hx
     cases hx; exact hfl
   · rw [List.getElem?_set_ne hm] at hx
     exact h.fl m x hx
theorem ACall.vecArr {P:Program} {f:FuncId} {H:Hp} {i j q k sz e:Nat} {rows:List (List D)} {ty:TypeId} {cs args:List A} {Q:A→Hp→Prop} (hi:H[i]?=some (.vec sz e k rows)) (hne:rows ≠ []) (hj:H[j]?=some (.box ty cs)) (hq:cs[q]?=some (.vsl i k rows.length))
 (h:ACall P f (.msl H.length 0 rows.length :: args) ((H.set i .dead).set j (.box ty (cs.set q (.msl H.length 0 rows.length)))++[.arr sz (rows.map (List.map .d))]) Q):ACall P f (.vsl i k rows.length :: args) H Q:=by
 intro κ w vs hr hl hv
 have hij:i ≠ j:=fun e=>by subst e; rw [hi] at hj; cases hj
 have hjl:j < H.length:=(List.getElem?_eq_some_iff.1 hj).1
 obtain ⟨κs,h1,h2,h3,h4⟩:=hr.vecArr hi hne
 have hj2:(H.set i .dead++[.arr sz (rows.map (List.map .d))])[j]?=some (.box ty cs):=by
  rw [List.getElem?_append_left (by simpa using hjl),List.getElem?_set_ne hij]; exact hj
 have hr2:=h2.recell (cs':=cs.set q (.msl H.length 0 rows.length)) hj2 (by simp) (by
  have:=hr.fl j _ hj
  simp only [Ob.flat,List.all_eq_true] at this ⊢
  intro x hx
  rcases List.mem_or_eq_of_mem_set hx with h5 | h5
  · exact this x h5
  · subst h5; rfl) (fun b p a' v hb ha hc=>by
  obtain ⟨b',b1,-,b2⟩:=hr.ob j _ hj
  have hbb:b'=b:=by
   have:=h4 j (Ne.symm hij) (by omega)
   rw [this,b1] at hb
   cases hb; rfl
  subst hbb
  by_cases hpq:q=p
  · subst hpq
    rw [List.getElem?_set_self (List.getElem?_eq_some_iff.1 hq).1] at ha
    cases ha
    obtain ⟨u,u1,-,u2⟩:=b2 q _ hq
    rw [hc] at u1; cases u1
    exact h3 v u2
  · rw [List.getElem?_set_ne hpq] at ha
    obtain ⟨u,u1,-,u2⟩:=b2 p _ ha
    rw [hc] at u1; cases u1
    exact u2.mono h1)
 rw [List.set_append_left _ _ (by simpa using hjl)] at hr2
 refine (h κs w vs hr2 (by simpa using hl) fun m v a hm ha => ?_).mono ?_
 · cases m with
   | zero=>simp at ha; subst ha; exact h3 v (hv 0 v _ hm rfl)
   | succ m=>exact (hv (m+1) v a hm (by simpa using ha)).mono h1
 · rintro ev w' ⟨v,κ',x,H',e1,e2,e3,e4,e5⟩
   exact ⟨v,κ',x,H',e1,h1.trans e2,e3,e4,e5⟩
theorem HR.vecNil {κ:K} {H:Hp} {w:World} (hr:HR κ H w) {i sz e:Nat} (hi:H[i]?=some (.vec sz e 0 [])) {v:Value} (hv:VR κ v (.vsl i 0 0)):VR κ v (.d (.sl true sz [])):=by
 rcases hr.ob i _ hi with ⟨hβ,-,-⟩ | ⟨b,c,cur,hβ,hk,-⟩
 · cases hv with
   | vsl _ _ _ ad cap hlc hf =>
   rw [hβ] at hf
   obtain ⟨-,-,hf⟩:=hf
   rw [hf]
   exact .d (.nilsl sz)
 · exact absurd rfl (hk rfl)
theorem ACall.vecNil {P:Program} {f:FuncId} {H:Hp} {i sz e:Nat} {args:List A} {Q:A→Hp→Prop} (hi:H[i]?=some (.vec sz e 0 [])) (h:ACall P f (.d (.sl true sz []) :: args) H Q):ACall P f (.vsl i 0 0 :: args) H Q:=by
 intro κ w vs hr hl hv
 refine h κ w vs hr (by simpa using hl) fun m v a hm ha => ?_
 cases m with
 | zero=>simp at ha; subst ha; exact hr.vecNil hi (hv 0 v _ hm rfl)
 | succ m=>exact hv (m+1) v a hm (by simpa using ha)
theorem nrm_osl {sz t:Nat} {rows:List (List D)}:Nrm (.osl true sz rows t) (.d (.sl rows.isEmpty sz rows)):=fun κ v h=>by
 cases h with
 | osl hd ht=>exact .d (hd.isE fun _=>rfl)
theorem vr3 {κ:K} {v:Value} {x y z:A} (h:VR κ v (.agg [x,y,z])):∃ a b c,v = .agg #[a,b,c]∧VR κ a x∧VR κ b y∧VR κ c z:=by
 cases h with
 | agg vs _ hl h =>
   match vs,hl with
   | [a,b,c],_=>exact ⟨a,b,c,rfl,h 0 a x rfl rfl,h 1 b y rfl rfl,h 2 c z rfl rfl⟩
theorem vr3_of {κ:K} {a b c:Value} {x y z:A} (h1:VR κ a x) (h2:VR κ b y) (h3:VR κ c z):VR κ (.agg #[a,b,c]) (.agg [x,y,z]):=by
 refine .agg [a,b,c] _ rfl fun i v u hv hu => ?_
 match i with
 | 0=>simp at hv hu; subst hv; subst hu; exact h1
 | 1=>simp at hv hu; subst hv; subst hu; exact h2
 | 2=>simp at hv hu; subst hv; subst hu; exact h3
 | i+3=>simp at hv
theorem ACall.freeze3 {P:Program} {f:FuncId} {args:List A} {H:Hp} {k sz:Nat} {rows:List (List D)} {x y:A} {x' y':D} (hx:Nrm x (.d x')) (hy:Nrm y (.d y'))
 (h:ACall P f args H (fun r H'=>∃ X:Hp,X[k]?=some (.arr sz (rows.map (List.map .d)))∧r = .agg [x,y,.msl (H.length+k) 0 rows.length]∧H'=H++X)):ACall P f args H (fun r H'=>r = .agg [.d x',.d y',.d (.sl false sz rows)]∧H'=H):=by
 intro κ w vs hr hl hv
 refine (h κ w vs hr hl hv).mono ?_
 rintro e w' ⟨v,κ',r,H',h1,h2,h3,h4,X,hX,rfl,rfl⟩
 obtain ⟨a,b,c,rfl,a1,a2,a3⟩:=vr3 h4
 obtain ⟨κ2,k1,k2,k3⟩:=h3.freezeArr (i:=H.length+k) (sz:=sz) (rows:=rows) (by rw [getElem?_appk]; exact hX) a3
 rw [set_appk] at k2
 exact ⟨_,κ2.cut H.length,.agg [.d x',.d y',.d (.sl false sz rows)],Hp.cut H.length (H++X.set k .dead),h1,K.le_cut (h2.trans k1) hr.dom,k2.cut _ (by simp),VR.clr H.length (vr3_of ((hx _ _ a1).mono k1) ((hy _ _ a2).mono k1) k3),rfl,cut_app hr.closed _⟩
theorem ACall.freeze3n {P:Program} {f:FuncId} {args:List A} {H:Hp} {k sz e:Nat} {x y:A} {x' y':D} (hx:Nrm x (.d x')) (hy:Nrm y (.d y'))
 (h:ACall P f args H (fun r H'=>∃ X:Hp,X[k]?=some (.vec sz e 0 [])∧r = .agg [x,y,.vsl (H.length+k) 0 0]∧H'=H++X)):ACall P f args H (fun r H'=>r = .agg [.d x',.d y',.d (.sl true sz [])]∧H'=H):=by
 intro κ w vs hr hl hv
 refine (h κ w vs hr hl hv).mono ?_
 rintro ev w' ⟨v,κ',r,H',h1,h2,h3,h4,X,hX,rfl,rfl⟩
 obtain ⟨a,b,c,rfl,a1,a2,a3⟩:=vr3 h4
 have k3:=h3.vecNil (i:=H.length+k) (by rw [getElem?_appk]; exact hX) a3
 exact ⟨_,κ'.cut H.length,.agg [.d x',.d y',.d (.sl true sz [])],Hp.cut H.length (H++X),h1,K.le_cut h2 hr.dom,h3.cut _ (by simp),VR.clr H.length (vr3_of (hx _ _ a1) (hy _ _ a2) k3),rfl,cut_app hr.closed _⟩
section
theorem cmpInt_cmp:Cmp cmpInt where
 refl x:=by simp [cmpInt]
 anti x y:=by unfold cmpInt; constructor<;>intro h<;>(split at h<;>split<;>try split)<;>(try split at h)<;>(try omega)<;>simp_all<;>omega
 trans x y z h1 h2:=by
  unfold cmpInt at *
  (repeat' split at h1)<;>(repeat' split at h2)<;>(repeat' split)<;>omega
def cBad (a b:Int × Int):Int:=cmpInt a.1 b.1
theorem cBad_cmp:Cmp cBad:=Cmp.on (α:=Int × Int) cmpInt_cmp Prod.fst
def scopeM (n:N):SM:=⟨(allP n).bs,(allP n).ms,ssort cBad (allP n).bad⟩
theorem topsP_snoc (x:N):∀ (l:List N) (i:Int) (G:Nms) (S:SM),topsP i (l++[x]) G S=(if x.k=2 then bindP 1 (i+l.length) x (topsP i l G S).1 (topsP i l G S).2 else if x.k=3 then bindP 2 (i+l.length) x (topsP i l G S).1 (topsP i l G S).2 else topsP i l G S)
 | [],i,G,S=>by simp only [List.nil_append,topsP,List.length_nil,Int.natCast_zero,Int.add_zero]
 | y :: r, i, G, S => by
   have e:i+1+(r.length:Int)=i+((y :: r).length:Int):=by simp; omega
   simp only [List.cons_append,topsP]
   split
   · rw [topsP_snoc x r,e]
   · split
     · rw [topsP_snoc x r,e]
     · rw [topsP_snoc x r,e]
theorem defsP_snoc (G:Nms) (x:N):∀ (l:List N) (i:Int) (S:SM),defsP G i (l++[x]) S=(if x.k=3 then sclosedP G (i+l.length) x.ks [] false (defsP G i l S) else defsP G i l S)
 | [],i,S=>by simp only [List.nil_append,defsP,List.length_nil,Int.natCast_zero,Int.add_zero]
 | y :: r, i, S => by
   have e:i+1+(r.length:Int)=i+((y :: r).length:Int):=by simp; omega
   simp only [List.cons_append,defsP]
   rw [defsP_snoc G x r,e]
theorem tops_grew:∀ (l:List N) (i:Int) (G:Nms) (S:SM),FOk S.bs.length G→Grew S (topsP i l G S).2 l.length (topsP i l G S).1
 | [],i,G,S,h=>⟨Nat.le_refl _,by simp [topsP],h⟩
 | n :: r, i, G, S, h => by
   simp only [topsP,List.length_cons]
   have step:∀ k:Int,Grew S (topsP (i+1) r (bindP k i n G S).1 (bindP k i n G S).2).2 (r.length+1) (topsP (i+1) r (bindP k i n G S).1 (bindP k i n G S).2).1:=fun k=>by
    have h1:=Grew.bind h k i n
    have h2:=tops_grew r (i+1) _ _ h1.ok
    refine ⟨Nat.le_trans h1.bs h2.bs,?_,h2.ok⟩
    have:=h1.sz; have:=h2.sz
    omega
   split
   · exact step 1
   · split
     · exact step 2
     · have h2:=tops_grew r (i+1) G S h
       exact ⟨h2.bs,by have:=h2.sz; omega,h2.ok⟩
theorem defs_grew (G:Nms):∀ (l:List N) (i:Int) (S:SM),S.bs.length≤(defsP G i l S).bs.length∧(defsP G i l S).sz≤S.sz+2 * N.sizes l
 | [],i,S=>by simp [defsP]
 | n :: r, i, S => by
   simp only [defsP,N.sizes_cons]
   have h1:=grew_closed (ks:=n.ks) (fun p _=>grew p) G i [] false S
   have h3:=N.size_ks n
   split
   · have h2:=defs_grew G r (i+1) (sclosedP G i n.ks [] false S)
     omega
   · have h2:=defs_grew G r (i+1) S
     omega
def scC (L:Nat):SC:=⟨L+5,L+2,L+3,L+4,L+7,L+6⟩
def scY (F:SF) (L:Nat) (bx:Ob) (S:SM) (G:Nms) (it:Int):Hp:=[bx,.box F.tm [.d (.sl true 4 []),.d (.sl true 4 []),.d (.sl true 2 [])],.tok S.bs.length 4 F.bd,.tok S.ms.length 4 F.mn,.vec 2 F.ed S.bad.length (S.bad.map encBad),mbox F (scC L) S,.mp (encNms G),.box F.tb [.ptr (L+5) 0,.d .nilp,.map (L+6),.d (.int .i64 it)]]
section
variable {P:Program} {F:SF} {S S':SM} {G G':Nms} {H:Hp} {it:Int} {bx:Ob}
theorem scY_inv (X:Hp):SInv F (scC H.length) S (.d .nilp) it G (H++(scY F H.length bx S G it++X)):=by
 refine ⟨?_,?_,?_,?_,?_,?_,?_⟩
 · simp only [scC,scY,List.cons_append,List.nil_append,getElem?_appk]; rfl
 · simp only [scC,scY,List.cons_append,List.nil_append,getElem?_appk]; rfl
 · simp only [scC,scY,List.cons_append,List.nil_append,getElem?_appk]; rfl
 · simp only [scC,scY,List.cons_append,List.nil_append,getElem?_appk]; rfl
 · simp only [scC,scY,List.cons_append,List.nil_append,getElem?_appk]; rfl
 · simp only [scC,scY,List.cons_append,List.nil_append,getElem?_appk]; rfl
 · simp only [scC]; omega
theorem scY_nput (X:Hp):nput F (scC H.length) S' (H.length+6) G' (H++(scY F H.length bx S G it++X))=H++(scY F H.length bx S' G' it++X):=by
 simp only [nput,sput,scC,scY,List.cons_append,List.nil_append,set_appk]; rfl
theorem scY_sput (X:Hp):sput F (scC H.length) S' (H++(scY F H.length bx S G it++X))=H++(scY F H.length bx S' G it++X):=by
 simp only [sput,scC,scY,List.cons_append,List.nil_append,set_appk]; rfl
theorem scY_cut (hcl:H.Closed) (hbx:∀ n,bx.clr n=bx) (X:Hp):Hp.cut (H.length+8) (H++(scY F H.length bx S G it++X))=H++scY F H.length bx S G it:=by
 rw [cut_appk hcl]
 have:((scY F H.length bx S G it++X).take 8)=scY F H.length bx S G it:=by simp [scY]
 rw [this]
 simp only [scY,List.map_cons,List.map_nil,hbx,encNms_clr]
 rw [mbox_clr (by simp [scC]) (by simp [scC]) (by simp [scC])]
 simp
def scTail (srt cmp : FuncId) : C := .seq (.ops [
    ⟨(some 65),none,.faddr 2 (.t 3)⟩,
    ⟨(some 66),none,.load 1 false (.t 65)⟩,
    ⟨(some 67),none,.call srt [(.t 66),(.c (.fn cmp))]⟩] false)
 (.seq (.ops [
  ⟨(some 68),none,.load 3 true (.t 3)⟩,
  ⟨none,none,.store 3 (.t 2) (.t 68)⟩] false)
 (.ret))
theorem SHas.ofW (hF:SHas P F) (hW:HasW P F) {fof:FuncId} (hof:HasT P [5000003,8200003,6000034,6000043] fof (irScOf F.bind F.closed F.srt F.cmp F.tn F.tm F.tb F.bd F.mn F.ed))
 {k f t:Int} {w:Bs} {a:Int} {z:Bool} {ks:List N} (hn:N.sizes ks≤68719476736) (q:Nat) (K:A→Hp→Prop)
 (hq:H.Closed→∀ (it:Int) (fr:Fr),fr 3 = .ptr (H.length+5) 0→fr 2 = .ptr (H.length+1) 0→AWp P H.length (scTail F.srt F.cmp) (Fin [.cell 2 3 true] (H.length+q) K) fr
  (H++scY F H.length (.box F.tn [.d (.int .i64 k),.d (.int .i64 f),.d (.int .i64 t),.d (.str w),.d (.int .i64 a),.d (.sl z 6 (ks.map N.enc))]) (defsP (topsP 0 ks [] ⟨[],[],[]⟩).1 0 ks (topsP 0 ks [] ⟨[],[],[]⟩).2) (topsP 0 ks [] ⟨[],[],[]⟩).1 it)) :
 ACall P fof [N.v (.mk k f t w a z ks)] H K:=by
 obtain ⟨fn,hf,hcf⟩:=hof
 refine acall_fink q hf hcf (by simp [irScOf]) fun hcl _ => ?_
 have hq:=hq hcl
 rw [N.v_mk]
 have hsl:=N.sizes_len ks
 obtain ⟨bx,hbx⟩:∃ bx,bx=Ob.box F.tn [.d (.int .i64 k),.d (.int .i64 f),.d (.int .i64 t),.d (.str w),.d (.int .i64 a),.d (.sl z 6 (ks.map N.enc))]:=⟨_,rfl⟩
 have hbc:∀ n,bx.clr n=bx:=fun n=>by subst hbx; simp
 rw [← hbx] at hq
 simp [irScOf]
 rw [← hbx]
 have hstart:(H++[bx,.box F.tm [.d (.sl true 4 []),.d (.sl true 4 []),.d (.sl true 2 [])],.tok 0 4 F.bd,.tok 0 4 F.mn,.vec 2 F.ed 0 [],.box F.tm [.osl true 4 [] (H.length+2),.osl true 4 [] (H.length+3),.vsl (H.length+4) 0 0],.mp [],.box F.tb [.ptr (H.length+5) 0,.d .nilp,.map (H.length+6),.d (.int .i64 0)]]:Hp)=H++scY F H.length bx ⟨[],[],[]⟩ [] 0:=rfl
 rw [hstart]
 have hbx1:∀ S G it X,(H++(scY F H.length bx S G it++X))[H.length]?=some bx:=fun S G it X=>by simp only [scY,List.cons_append,getElem?_app0]; rfl
 refine LoopK_out 0 (fun fr' H'=>fr' 1 = .ptr H.length 0∧fr' 2 = .ptr (H.length+1) 0∧fr' 3 = .ptr (H.length+5) 0∧fr' 4 = .ptr (H.length+7) 0∧∃ it,H'=H++scY F H.length bx (topsP 0 ks [] ⟨[],[],[]⟩).2 (topsP 0 ks [] ⟨[],[],[]⟩).1 it) ?_ ?_
 · refine RangeK_of (H.length+8) ks.length (fun j fr' H'=>fr' 1 = .ptr H.length 0∧fr' 2 = .ptr (H.length+1) 0∧fr' 3 = .ptr (H.length+5) 0∧fr' 4 = .ptr (H.length+7) 0∧fr' 13 = .d (.sl z 6 (ks.map N.enc))∧∃ it,H'=H++scY F H.length bx (topsP 0 (ks.take j) [] ⟨[],[],[]⟩).2 (topsP 0 (ks.take j) [] ⟨[],[],[]⟩).1 it) (by omega) (by decide) (by simp [scY]) (by simp) ?_ ?_ ?_
   · have hc0:=scY_cut (F:=F) (S:=⟨[],[],[]⟩) (G:=[]) (it:=0) hcl hbc []
     rw [List.append_nil] at hc0
     rw [List.take_zero]
     refine ⟨by simp,by simp,by simp,by simp,by simp,0,?_⟩
     rw [hc0]; rfl
   · rintro j fr' H' hj f9 f8 ⟨f1,f2,f3,f4,f13,it,rfl⟩
     have hr:=rowAt_map N.enc hj
     have hll:(ks.take j).length=j:=by simp; omega
     have hgr:=tops_grew (ks.take j) 0 [] ⟨[],[],[]⟩ (FOk.nil _)
     have hstep:=topsP_snoc ks[j] (ks.take j) 0 [] ⟨[],[],[]⟩
     rw [← List.take_succ_eq_append_getElem hj,hll,Int.zero_add] at hstep
     generalize ks[j]=x at hr hstep
     obtain ⟨g1,g2,g3⟩:=hgr
     have hz:SM.sz ⟨[],[],[]⟩=0:=rfl
     rw [hll,hz] at g2
     generalize topsP 0 (ks.take j) [] ⟨[],[],[]⟩=TP at g1 g2 g3 hstep ⊢
     obtain ⟨G1,S1⟩:=TP
     simp only at g1 g2 g3 hstep ⊢
     obtain ⟨k2,f2',t2,w2,a2,z2,ks2⟩:=x
     have gb:=fun (X:Hp) (kind:Int)=>hF.bind' (scY_inv (F:=F) (bx:=bx) (S:=S1) (G:=G1) (it:=(j:Int)) (H:=H) X) (m:=H.length+6) (es:=G1) (by simp only [scY,List.cons_append,List.nil_append,getElem?_appk]; rfl) ⟨⟨by simp only [scC]; omega,by simp only [scC]; omega,by simp only [scC]; omega,by simp only [scC]; omega⟩,by simp only [scC]; omega⟩ (.mk k2 f2' t2 w2 a2 z2 ks2) kind (by omega)
     simp only [scY_nput] at gb
     have hcut:=fun (S':SM) (G':Nms) X=>scY_cut (F:=F) (S:=S') (G:=G') (it:=(j:Int)) hcl hbc X
     rw [N.enc_mk] at hr
     rw [N.v_mk] at gb
     have e7:∀ (S:SM) (G:Nms) (it:Int) X,(scY F H.length bx S G it++X)[7]?=some (.box F.tb [.ptr (H.length+5) 0,.d .nilp,.map (H.length+6),.d (.int .i64 it)]):=fun _ _ it X=>rfl
     have e8:∀ (S:SM) (G:Nms) (it:Int) (x:Ob),(scY F H.length bx S G it++[x])[8]?=some x:=fun _ _ it x=>rfl
     have s8:∀ (it:Int) (x y:Ob),(scY F H.length bx S1 G1 it++[x]).set 8 y=scY F H.length bx S1 G1 it++[y]:=fun it x y=>rfl
     have s7:∀ (it:Int) X,(scY F H.length bx S1 G1 it++X).set 7 (.box F.tb [.ptr (H.length+5) 0,.d .nilp,.map (H.length+6),.d (.int .i64 (j:Int))])=scY F H.length bx S1 G1 (j:Int)++X:=fun it X=>rfl
     have lY:∀ S G it,(scY F H.length bx S G it).length=8:=fun _ _ _=>rfl
     simp [f9,f13,hr,f4,lY,e7,e8,s8,s7,-getElem?_pos]
     have nxt:∀ (S':SM) (G':Nms) (fr2:Fr) (X:Hp),fr2 15 = .d (.int .i64 (j:Int))→fr2 14 = .d (.int .i64 (ks.length:Int))→fr2 1 = .ptr H.length 0→fr2 2 = .ptr (H.length+1) 0→fr2 3 = .ptr (H.length+5) 0→fr2 4 = .ptr (H.length+7) 0→fr2 13 = .d (.sl z 6 (ks.map N.enc))→topsP 0 (ks.take (j+1)) [] ⟨[],[],[]⟩=(G',S') →
      NextK (fun j fr' H'=>fr' 1 = .ptr H.length 0∧fr' 2 = .ptr (H.length+1) 0∧fr' 3 = .ptr (H.length+5) 0∧fr' 4 = .ptr (H.length+7) 0∧fr' 13 = .d (.sl z 6 (ks.map N.enc))∧∃ it,H'=H++scY F H.length bx (topsP 0 (ks.take j) [] ⟨[],[],[]⟩).2 (topsP 0 (ks.take j) [] ⟨[],[],[]⟩).1 it) .mk (H.length+8) ks.length 15 14 44 j fr2 (H++(scY F H.length bx S' G' (j:Int)++X)):=fun S' G' fr2 X u15 u14 u1 u2 u3 u4 u13 hst=>by
      refine NextK_of (H.length+8) (Nat.le_refl _) (by simp [lY,u15,u14]) ?_
      refine ⟨by simp [u1],by simp [u2],by simp [u3],by simp [u4],by simp [u13],j,?_⟩
      rw [hcut,hst]
     by_cases h2:k2=2
     · subst h2
       rw [if_pos (show (N.mk 2 f2' t2 w2 a2 z2 ks2).k=2 from rfl)] at hstep
       have gb1:=gb [Ob.box F.tn [.d (.int .i64 2),.d (.int .i64 f2'),.d (.int .i64 t2),.d (.str w2),.d (.int .i64 a2),.d (.sl z2 6 (ks2.map N.enc))]] 1
       simp [f4,e7,e8,-getElem?_pos]
       refine CallE_of gb1 ?_
       simp
       refine nxt _ _ _ _ (by simp [f9]) (by simp [f8]) (by simp [f1]) (by simp [f2]) (by simp [f3]) (by simp [f4]) (by simp [f13]) ?_
       rw [hstep]
     · by_cases h3:k2=3
       · subst h3
         rw [if_neg (show ¬ (N.mk 3 f2' t2 w2 a2 z2 ks2).k=2 from h2),if_pos (show (N.mk 3 f2' t2 w2 a2 z2 ks2).k=3 from rfl)] at hstep
         have gb1:=gb [Ob.box F.tn [.d (.int .i64 3),.d (.int .i64 f2'),.d (.int .i64 t2),.d (.str w2),.d (.int .i64 a2),.d (.sl z2 6 (ks2.map N.enc))]] 2
         simp [f4,e7,e8,-getElem?_pos]
         refine CallE_of gb1 ?_
         simp
         refine nxt _ _ _ _ (by simp [f9]) (by simp [f8]) (by simp [f1]) (by simp [f2]) (by simp [f3]) (by simp [f4]) (by simp [f13]) ?_
         rw [hstep]
       · rw [if_neg (show ¬ (N.mk k2 f2' t2 w2 a2 z2 ks2).k=2 from h2),if_neg (show ¬ (N.mk k2 f2' t2 w2 a2 z2 ks2).k=3 from h3)] at hstep
         simp [h2,h3,f4,e7,e8,-getElem?_pos]
         exact nxt _ _ _ _ (by simp [f9]) (by simp [f8]) (by simp [f1]) (by simp [f2]) (by simp [f3]) (by simp [f4]) (by simp [f13]) hstep
   · rintro fr' H' f9 f8 ⟨f1,f2,f3,f4,f13,it,rfl⟩
     rw [List.take_of_length_le (Nat.le_refl _)]
     simp [f1,f2,f3,f4]
     exact ⟨it,rfl⟩
 · rintro fr' H' ⟨f1,f2,f3,f4,it,rfl⟩
   have hgT:=tops_grew ks 0 [] ⟨[],[],[]⟩ (FOk.nil _)
   generalize topsP 0 ks [] ⟨[],[],[]⟩=TP at hq hgT ⊢
   obtain ⟨G,S0⟩:=TP
   obtain ⟨t1,t2,t3⟩:=hgT
   have hz:SM.sz ⟨[],[],[]⟩=0:=rfl
   rw [hz] at t2
   simp only at hq t1 t2 t3 ⊢
   have e0:∀ S (it:Int),(scY F H.length bx S G it)[0]?=some bx:=fun _ _=>rfl
   have e0':∀ S (it:Int) X,(scY F H.length bx S G it++X)[0]?=some bx:=fun _ _ _=>rfl
   have ebx:(H++scY F H.length bx S0 G it)[H.length]?=some bx:=by rw [getElem?_app0]; rfl
   rw [hbx] at ebx
   have lY:∀ S G it,(scY F H.length bx S G it).length=8:=fun _ _ _=>rfl
   have e7:∀ (S:SM) (it:Int) X,(scY F H.length bx S G it++X)[7]?=some (.box F.tb [.ptr (H.length+5) 0,.d .nilp,.map (H.length+6),.d (.int .i64 it)]):=fun _ it X=>rfl
   have e8:∀ (S:SM) (it:Int) (x:Ob),(scY F H.length bx S G it++[x])[8]?=some x:=fun _ it x=>rfl
   have s8:∀ (S:SM) (it:Int) (x y:Ob),(scY F H.length bx S G it++[x]).set 8 y=scY F H.length bx S G it++[y]:=fun _ it x y=>rfl
   have s7:∀ (S:SM) (it j:Int) X,(scY F H.length bx S G it++X).set 7 (.box F.tb [.ptr (H.length+5) 0,.d .nilp,.map (H.length+6),.d (.int .i64 j)])=scY F H.length bx S G j++X:=fun _ it j X=>rfl
   have e00:(scY F H.length bx S0 G it)[0]?=some (Ob.box F.tn [.d (.int .i64 k),.d (.int .i64 f),.d (.int .i64 t),.d (.str w),.d (.int .i64 a),.d (.sl z 6 (ks.map N.enc))]):=by rw [← hbx]; rfl
   simp [f1,e00,-getElem?_pos]
   refine LoopK_out 3 (fun fr' H'=>fr' 2 = .ptr (H.length+1) 0∧fr' 3 = .ptr (H.length+5) 0∧∃ it,H'=H++scY F H.length bx (defsP G 0 ks S0) G it) ?_ ?_
   · refine RangeK_of (H.length+8) ks.length (fun j fr' H'=>fr' 2 = .ptr (H.length+1) 0∧fr' 3 = .ptr (H.length+5) 0∧fr' 4 = .ptr (H.length+7) 0∧fr' 46 = .d (.sl z 6 (ks.map N.enc))∧∃ it,H'=H++scY F H.length bx (defsP G 0 (ks.take j) S0) G it) (by omega) (by decide) (by simp [scY]) (by simp) ?_ ?_ ?_
     · have hc0:=scY_cut (F:=F) (S:=S0) (G:=G) (it:=it) hcl hbc []
       rw [List.append_nil] at hc0
       rw [List.take_zero]
       refine ⟨by simp [f2],by simp [f3],by simp [f4],by simp,it,?_⟩
       rw [hc0]; rfl
     · rintro j fr' H' hj f9 f8 ⟨f2,f3,f4,f13,it,rfl⟩
       have hr:=rowAt_map N.enc hj
       have hll:(ks.take j).length=j:=by simp; omega
       have hgr:=defs_grew G (ks.take j) 0 S0
       have hstep:=defsP_snoc G ks[j] (ks.take j) 0 S0
       rw [← List.take_succ_eq_append_getElem hj,hll,Int.zero_add] at hstep
       have hsz:N.sizes (ks.take j)+(ks[j]).size≤N.sizes ks:=by
        have:ks=ks.take j++ks[j] :: ks.drop (j+1):=by rw [List.getElem_cons_drop]; simp
        have e:N.sizes ks=N.sizes (ks.take j)+(ks[j].size+N.sizes (ks.drop (j+1))):=by conv=>lhs; rw [this,N.sizes_app,N.sizes_cons]
        omega
       generalize ks[j]=x at hr hstep hsz
       generalize defsP G 0 (ks.take j) S0=S1 at hgr hstep ⊢
       obtain ⟨k2,f2',t2',w2,a2,z2,ks2⟩:=x
       rw [N.size_mk] at hsz
       have hcut:=fun (S':SM) X=>scY_cut (F:=F) (S:=S') (G:=G) (it:=(j:Int)) hcl hbc X
       have hO:∀ X,OInv F (scC H.length) S1 (.d .nilp) j G [] (H++(scY F H.length bx S1 G (j:Int)++X)):=fun X=>⟨scY_inv X,rfl,by simp⟩
       have gc:=fun X=>hF.closed' hW (z:=z2) (ks:=ks2) (fun p _=>hF.node' hW p) (hO X) false (t3.mono hgr.1) (by simp) (by omega) (by simp; omega)
       simp only [scY_sput,List.map_nil] at gc
       rw [N.enc_mk] at hr
       have nxt:∀ (S':SM) (fr2:Fr) (X:Hp),fr2 48 = .d (.int .i64 (j:Int))→fr2 47 = .d (.int .i64 (ks.length:Int))→fr2 2 = .ptr (H.length+1) 0→fr2 3 = .ptr (H.length+5) 0→fr2 4 = .ptr (H.length+7) 0→fr2 46 = .d (.sl z 6 (ks.map N.enc))→defsP G 0 (ks.take (j+1)) S0=S' →
        NextK (fun j fr' H'=>fr' 2 = .ptr (H.length+1) 0∧fr' 3 = .ptr (H.length+5) 0∧fr' 4 = .ptr (H.length+7) 0∧fr' 46 = .d (.sl z 6 (ks.map N.enc))∧∃ it,H'=H++scY F H.length bx (defsP G 0 (ks.take j) S0) G it) .mk (H.length+8) ks.length 48 47 64 j fr2 (H++(scY F H.length bx S' G (j:Int)++X)):=fun S' fr2 X u15 u14 u2 u3 u4 u13 hst=>by
        refine NextK_of (H.length+8) (Nat.le_refl _) (by simp [lY,u15,u14]) ?_
        refine ⟨by simp [u2],by simp [u3],by simp [u4],by simp [u13],j,?_⟩
        rw [hcut,hst]
       by_cases h3:k2=3
       · subst h3
         rw [if_pos (show (N.mk 3 f2' t2' w2 a2 z2 ks2).k=3 from rfl)] at hstep
         simp [f9,f13,hr,f4,lY,e7,e8,s8,s7,-getElem?_pos]
         refine CallK_of' (gc _) ?_
         simp
         exact nxt _ _ _ (by simp [f9]) (by simp [f8]) (by simp [f2]) (by simp [f3]) (by simp [f4]) (by simp [f13]) hstep
       · rw [if_neg (show ¬ (N.mk k2 f2' t2' w2 a2 z2 ks2).k=3 from h3)] at hstep
         simp [f9,f13,hr,f4,lY,e7,e8,s8,s7,h3,-getElem?_pos]
         exact nxt _ _ _ (by simp [f9]) (by simp [f8]) (by simp [f2]) (by simp [f3]) (by simp [f4]) (by simp [f13]) hstep
     · rintro fr' H' f9 f8 ⟨f2,f3,f4,f13,it,rfl⟩
       rw [List.take_of_length_le (Nat.le_refl _)]
       simp [f2,f3]
       exact ⟨it,rfl⟩
   · rintro fr' H' ⟨f2,f3,it,rfl⟩
     exact hq it fr' f3 f2
end
end
section
section
variable {P:Program} {F:SF} {H:Hp}
theorem SHas.of' (hF:SHas P F) (hW:HasW P F) {fof:FuncId} (hof:HasT P [5000003,8200003,6000034,6000043] fof (irScOf F.bind F.closed F.srt F.cmp F.tn F.tm F.tb F.bd F.mn F.ed))
 (hs:∀ (H:Hp) (i:Nat) (L:List (Int × Int)),H[i]?=some (arrE encBad 2 L)→L.length≤1099511627776→ACall P F.srt [.msl i 0 L.length,.d (.fn F.cmp)] H (fun r H'=>r = .tup []∧H'=H.set i (arrE encBad 2 (ssort cBad L))))
 (hs0:∀ (H:Hp),ACall P F.srt [.d (.sl true 2 []),.d (.fn F.cmp)] H (fun r H'=>r = .tup []∧H'=H)) (n:N) (hn:n.size≤68719476736) (H:Hp) :
 ACall P fof [n.v] H (fun r H'=>r = .agg ((scopeM n).enc.map .d)∧H'=H):=by
 obtain ⟨k,f,t,w,a,z,ks⟩:=n
 rw [N.size_mk] at hn
 have hsl:=N.sizes_len ks
 have hall:allP (.mk k f t w a z ks)=defsP (topsP 0 ks [] ⟨[],[],[]⟩).1 0 ks (topsP 0 ks [] ⟨[],[],[]⟩).2:=rfl
 have hall2:(defsP (topsP 0 ks [] ⟨[],[],[]⟩).1 0 ks (topsP 0 ks [] ⟨[],[],[]⟩).2).sz≤4 * N.sizes ks:=by
  have h1:=(tops_grew ks 0 [] ⟨[],[],[]⟩ (FOk.nil _)).sz
  have h2:=(defs_grew (topsP 0 ks [] ⟨[],[],[]⟩).1 ks 0 (topsP 0 ks [] ⟨[],[],[]⟩).2).2
  have h3:SM.sz ⟨[],[],[]⟩=0:=rfl
  omega
 have hw:=hF.ofW hW hof (H:=H) (k:=k) (f:=f) (t:=t) (w:=w) (a:=a) (z:=z) (ks:=ks) (by omega)
 unfold scopeM
 rw [hall]
 obtain ⟨bx,hbx⟩:∃ bx,bx=Ob.box F.tn [.d (.int .i64 k),.d (.int .i64 f),.d (.int .i64 t),.d (.str w),.d (.int .i64 a),.d (.sl z 6 (ks.map N.enc))]:=⟨_,rfl⟩
 have hbc:∀ n,bx.clr n=bx:=fun n=>by subst hbx; simp
 rw [← hbx] at hw
 generalize defsP (topsP 0 ks [] ⟨[],[],[]⟩).1 0 ks (topsP 0 ks [] ⟨[],[],[]⟩).2=S at hw hall2 ⊢
 generalize (topsP 0 ks [] ⟨[],[],[]⟩).1=G at hw
 have hbl:S.bad.length≤1099511627776:=by unfold SM.sz at hall2; omega
 obtain ⟨bs,ms,bad⟩:=S
 simp only at hbl
 by_cases hb:bad=[]
 · subst hb
   have hso:ssort cBad ([]:List (Int × Int))=[]:=rfl
   rw [hso]
   have hgoal:(SM.enc ⟨bs,ms,[]⟩).map A.d=[.d (.sl (bs.map encBd).isEmpty 4 (bs.map encBd)),.d (.sl (ms.map encMn).isEmpty 4 (ms.map encMn)),.d (.sl true 2 [])]:=by
    simp [SM.enc]
   rw [hgoal]
   refine ACall.freeze3n (k:=4) (e:=F.ed) (nrm_osl (t:=H.length+2)) (nrm_osl (t:=H.length+3)) ?_
   refine hw 5 _ fun hcl it fr f3 f2 => ?_
   have y5:(scY F H.length bx ⟨bs,ms,[]⟩ G it)[5]?=some (.box F.tm [.osl true 4 (bs.map encBd) (H.length+2),.osl true 4 (ms.map encMn) (H.length+3),.vsl (H.length+4) 0 0]):=rfl
   have y1:(scY F H.length bx ⟨bs,ms,[]⟩ G it)[1]?=some (.box F.tm [.d (.sl true 4 []),.d (.sl true 4 []),.d (.sl true 2 [])]):=rfl
   have y4:(H++scY F H.length bx ⟨bs,ms,[]⟩ G it)[H.length+4]?=some (.vec 2 F.ed 0 []):=by rw [getElem?_appk]; rfl
   simp [scTail,f3,y5,-getElem?_pos]
   refine CallK_of' (ACall.vecNil y4 (hs0 _)) ?_
   simp [f3,f2,y5,y1,-getElem?_pos]
   have lY:(scY F H.length bx ⟨bs,ms,[]⟩ G it).length=8:=rfl
   have y1':((scY F H.length bx ⟨bs,ms,[]⟩ G it).set 1 (.box F.tm [.osl true 4 (bs.map encBd) (H.length+2),.osl true 4 (ms.map encMn) (H.length+3),.vsl (H.length+4) 0 0]))[1]?=some (.box F.tm [.osl true 4 (bs.map encBd) (H.length+2),.osl true 4 (ms.map encMn) (H.length+3),.vsl (H.length+4) 0 0]):=rfl
   have hcut:∃ X:Hp,X[4]?=some (.vec 2 F.ed 0 [])∧Hp.cut (H.length+5) (H++(scY F H.length bx ⟨bs,ms,[]⟩ G it).set 1 (.box F.tm [.osl true 4 (bs.map encBd) (H.length+2),.osl true 4 (ms.map encMn) (H.length+3),.vsl (H.length+4) 0 0]))=H++X:=⟨_,rfl,cut_appk hcl _ _⟩
   simp [RetK,resA,f2,y1',lY,-getElem?_pos]
   exact hcut
 · have hne:bad.map encBad ≠ []:=by simpa using hb
   have hbz:bad.length=(ssort cBad bad).length:=(ssort_length cBad_cmp bad).symm
   have hbe:(ssort cBad bad).isEmpty=false:=by
    cases hq:ssort cBad bad with
    | nil=>rw [hq] at hbz; simp at hbz; exact absurd hbz hb
    | cons x r=>rfl
   have hgoal:(SM.enc ⟨bs,ms,ssort cBad bad⟩).map A.d=[.d (.sl (bs.map encBd).isEmpty 4 (bs.map encBd)),.d (.sl (ms.map encMn).isEmpty 4 (ms.map encMn)),.d (.sl false 2 ((ssort cBad bad).map encBad))]:=by
    simp [SM.enc,hbe]
   rw [hgoal]
   refine ACall.freeze3 (k:=8) (nrm_osl (t:=H.length+2)) (nrm_osl (t:=H.length+3)) ?_
   refine hw 9 _ fun hcl it fr f3 f2 => ?_
   have y5:(scY F H.length bx ⟨bs,ms,bad⟩ G it)[5]?=some (.box F.tm [.osl true 4 (bs.map encBd) (H.length+2),.osl true 4 (ms.map encMn) (H.length+3),.vsl (H.length+4) bad.length bad.length]):=rfl
   have y4:(H++scY F H.length bx ⟨bs,ms,bad⟩ G it)[H.length+4]?=some (.vec 2 F.ed bad.length (bad.map encBad)):=by rw [getElem?_appk]; rfl
   have y5':(H++scY F H.length bx ⟨bs,ms,bad⟩ G it)[H.length+5]?=some (.box F.tm [.osl true 4 (bs.map encBd) (H.length+2),.osl true 4 (ms.map encMn) (H.length+3),.vsl (H.length+4) bad.length bad.length]):=by rw [getElem?_appk]; rfl
   have hl8:(H++scY F H.length bx ⟨bs,ms,bad⟩ G it).length=H.length+8:=by simp [scY]
   have gs:=hs ((((H++scY F H.length bx ⟨bs,ms,bad⟩ G it).set (H.length+4) .dead).set (H.length+5) (.box F.tm [.osl true 4 (bs.map encBd) (H.length+2),.osl true 4 (ms.map encMn) (H.length+3),.msl (H.length+8) 0 bad.length]))++[arrE encBad 2 bad]) (H.length+8) bad
    (by rw [List.getElem?_append_right (by simp [scY]),show H.length+8 - _=0 by simp [scY]]; rfl) hbl
   have gv:=ACall.vecArr (P:=P) (f:=F.srt) (q:=2) (args:=[.d (.fn F.cmp)]) (Q:=fun r H'=>r = .tup []∧H'=((((H++scY F H.length bx ⟨bs,ms,bad⟩ G it).set (H.length+4) .dead).set (H.length+5) (.box F.tm [.osl true 4 (bs.map encBd) (H.length+2),.osl true 4 (ms.map encMn) (H.length+3),.msl (H.length+8) 0 bad.length]))++[arrE encBad 2 (ssort cBad bad)]))
    y4 hne y5' (by simp) (by
     rw [hl8,List.length_map,← arrE_map]
     refine gs.mono ?_
     rintro r H' ⟨rfl,rfl⟩
     refine ⟨rfl,?_⟩
     rw [List.set_append_right _ _ (by simp [scY]),show H.length+8 - _=0 by simp [scY]]; rfl)
   rw [List.length_map] at gv
   simp [scTail,f3,y5,-getElem?_pos]
   refine CallK_of' gv ?_
   rw [List.set_append_right _ _ (by omega),List.set_append_right _ _ (by simp)]
   simp only [Nat.add_sub_cancel_left]
   obtain ⟨Z,hZ⟩:∃ Z,Z=(((scY F H.length bx ⟨bs,ms,bad⟩ G it).set 4 .dead).set 5 (.box F.tm [.osl true 4 (bs.map encBd) (H.length+2),.osl true 4 (ms.map encMn) (H.length+3),.msl (H.length+8) 0 bad.length])++[arrE encBad 2 (ssort cBad bad)]):=⟨_,rfl⟩
   have z5:Z[5]?=some (.box F.tm [.osl true 4 (bs.map encBd) (H.length+2),.osl true 4 (ms.map encMn) (H.length+3),.msl (H.length+8) 0 bad.length]):=by subst hZ; rfl
   have z1:Z[1]?=some (.box F.tm [.d (.sl true 4 []),.d (.sl true 4 []),.d (.sl true 2 [])]):=by subst hZ; rfl
   have z1':(Z.set 1 (.box F.tm [.osl true 4 (bs.map encBd) (H.length+2),.osl true 4 (ms.map encMn) (H.length+3),.msl (H.length+8) 0 bad.length]))[1]?=some (.box F.tm [.osl true 4 (bs.map encBd) (H.length+2),.osl true 4 (ms.map encMn) (H.length+3),.msl (H.length+8) 0 bad.length]):=by subst hZ; rfl
   have lZ:Z.length=9:=by subst hZ; rfl
   have hcut:∃ X:Hp,X[8]?=some (.arr 2 (((ssort cBad bad).map encBad).map (List.map .d)))∧Hp.cut (H.length+9) (H++Z.set 1 (.box F.tm [.osl true 4 (bs.map encBd) (H.length+2),.osl true 4 (ms.map encMn) (H.length+3),.msl (H.length+8) 0 bad.length]))=H++X:=by
    refine ⟨_,?_,cut_appk hcl _ _⟩
    subst hZ
    have:(Ob.clr (H.length+9) (arrE encBad 2 (ssort cBad bad))) = .arr 2 (((ssort cBad bad).map encBad).map (List.map .d)):=by rw [← arrE_map]; exact arrE_clr ..
    rw [← this]; rfl
   rw [List.append_assoc,← hZ]
   simp [f3,f2,z5,z1,-getElem?_pos]
   simp [RetK,resA,f2,z1',lZ,hbz,-getElem?_pos]
   rw [hbz] at hcut
   simpa using hcut
end
end
section
structure RSF where
 (rbind rclosed rbegin rnode rmention:FuncId)
 (tn rtm rnm red rbd rmn:TypeId)
structure RSC where
 (im tb tm td:Nat)
section
variable {F:RSF} {c:RSC} {S S':SM} {H:Hp}
end
section
variable {P:Program} {F:RSF} {c:RSC} {S S':SM} {H:Hp}
end
end
section
section
variable {P:Program} {F:RSF} {c:RSC} {S S':SM} {H:Hp}
end
end
section
section
variable {P:Program} {F:RSF} {c:RSC} {S S':SM} {H:Hp}
end
end
section
section
variable {P:Program} {F:RSF} {c:RSC} {S S':SM} {H:Hp}
end
end
section
section
variable {P:Program} {F:RSF} {S S':SM} {H:Hp} {bx:Ob}
end
end
section
section
variable {P:Program}
end
end
theorem HR.vecArr2 {κ:K} {H:Hp} {w:World} (hr:HR κ H w) {i k sz e:Nat} {rows:List (List D)} (hi:H[i]?=some (.vec sz e k rows)) (hne:rows ≠ []) :
 ∃ κs,κ.le κs∧HR κs (H.set i .dead++[.arr sz (rows.map (List.map .d))]) w∧(∀ v,VR κ v (.vsl i k rows.length)→VR κs v (.msl H.length 0 rows.length))∧(∀ m,m ≠ i→m ≠ H.length → κs.β m = κ.β m)∧∃ b c n,κ.β i = .vec b c rows.length k sz ∧ κs.β H.length = .arr b sz (some (e,n))∧(k=0→rows ≠ [])∧rows.length≤c∧c * sz≤n:=by
 have hil:i < H.length:=(List.getElem?_eq_some_iff.1 hi).1
 rcases hr.ob i _ hi with ⟨-,-,h0⟩ | ⟨b,c,cur,hβ,hk0,hheap,hle0,hsz,hcells⟩
 · exact absurd h0 hne
 have hpos:0 < rows.length:=List.length_pos_iff.2 hne
 have hbx:=hr.ex i b (by rw [hβ]; rfl)
 have hn : κ.β H.length = .none:=hr.dom _ (Nat.le_refl _)
 let κs:K := { κ with β:=upd (upd κ.β i .deadT) H.length (.arr b sz (some (e,cur.size))) }
 have hsβ:∀ m,m ≠ i→m ≠ H.length → κs.β m = κ.β m:=fun m h1 h2=>by
  show upd (upd κ.β i _) H.length _ m=_
  rw [upd_ne _ _ h2,upd_ne _ _ h1]
 have hsi : κs.β i = .deadT:=by
  show upd (upd κ.β i _) H.length _ i=_
  rw [upd_ne _ _ (by omega),upd_same]
 have hsn : κs.β H.length = .arr b sz (some (e,cur.size)):=upd_same _ _ _
 have hks : κ.le κs:=⟨rfl,fun _ _ _ h=>h,fun m=>by
  by_cases h1:m=i
  · subst h1; rw [hsi,hβ]; exact .inr (.inl rfl)
  · by_cases h2:m=H.length
    · subst h2; rw [hn]; trivial
    · rw [hsβ m h1 h2]; exact Bind.le_refl _⟩
 have hblk:∀ m b',(κs.β m).block=some b'→(m=H.length∧b'=b)∨(m ≠ H.length∧m ≠ i∧(κ.β m).block=some b'):=fun m b' hm=>by
  by_cases h2:m=H.length
  · subst h2; rw [hsn] at hm; cases hm; exact .inl ⟨rfl,rfl⟩
  · by_cases h1:m=i
    · subst h1; rw [hsi] at hm; cases hm
    · rw [hsβ m h1 h2] at hm; exact .inr ⟨h2,h1,hm⟩
 refine ⟨κs,hks,⟨hr.below,hr.st,fun m x hx => ?_,fun m hm => ?_,fun m b' hb' => ?_,fun m b' o ho => ?_,fun m q b' h1 h2 => ?_,fun m x hx => ?_⟩,fun v hv => ?_,hsβ,b,c,cur.size,hβ,hsn,hk0,hle0,hsz⟩
 · by_cases h2:m=H.length
   · subst h2
     rw [show H.length=(H.set i Ob.dead).length by simp,getElem?_app0] at hx
     cases hx
     refine ⟨b,_,hsn,fun ty n he=>by cases he; exact ⟨cur,hheap,rfl⟩,fun q r hq => ?_⟩
     simp only [List.getElem?_map,Option.map_eq_some_iff] at hq
     obtain ⟨r0,hr0,rfl⟩:=hq
     refine ⟨by simpa using (hcells q r0 hr0).1,fun y a ha => ?_⟩
     simp only [List.getElem?_map,Option.map_eq_some_iff] at ha
     obtain ⟨x0,hx0,rfl⟩:=ha
     obtain ⟨u,u1,u2⟩:=(hcells q r0 hr0).2 y x0 hx0
     exact ⟨u,by rw [cell_cells hheap]; exact u1,by simp [World.frozen?,hheap],.d u2⟩
   · have hm:m < (H.set i Ob.dead).length:=by
      have:=(List.getElem?_eq_some_iff.1 hx).1
      simp at this ⊢; omega
     rw [List.getElem?_append_left hm] at hx
     by_cases h1:i=m
     · subst h1
       rw [List.getElem?_set_self hil] at hx
       cases hx; trivial
     · rw [List.getElem?_set_ne h1] at hx
       exact (hr.ob m x hx).mono hks (hsβ m (Ne.symm h1) h2) fun _ _=>rfl
 · have:H.length+1≤m:=by simpa using hm
   rw [hsβ m (by omega) (by omega)]; exact hr.dom m (by omega)
 · rcases hblk m b' hb' with ⟨-,rfl⟩ | ⟨-,-,h3⟩
   · exact hbx
   · exact hr.ex m b' h3
 · rcases hblk m b' (Bind.block_of_owns ho) with ⟨rfl,rfl⟩ | ⟨h1,h2,h3⟩
   · exact hr.exσ i b' o (by rw [hβ]; rfl)
   · rw [hsβ m h2 h1] at ho; exact hr.exσ m b' o ho
 · rcases hblk m b' h1 with ⟨rfl,rfl⟩ | ⟨a1,a2,a3⟩
   · rcases hblk q b' h2 with ⟨rfl,-⟩ | ⟨c1,c2,c3⟩
     · rfl
     · exact absurd (hr.exd q i b' c3 (by rw [hβ]; rfl)) c2
   · rcases hblk q b' h2 with ⟨rfl,rfl⟩ | ⟨c1,c2,c3⟩
     · exact absurd (hr.exd m i b' a3 (by rw [hβ]; rfl)) a2
     · exact hr.exd m q b' a3 c3
 · by_cases h2:m=H.length
   · subst h2
     rw [show H.length=(H.set i Ob.dead).length by simp,getElem?_app0] at hx
     cases hx
     simp [Ob.flat,A.flat]
   · have hm:m < (H.set i Ob.dead).length:=by
      have:=(List.getElem?_eq_some_iff.1 hx).1
      simp at this ⊢; omega
     rw [List.getElem?_append_left hm] at hx
     by_cases h1:i=m
     · subst h1
       rw [List.getElem?_set_self hil] at hx
       cases hx; rfl
     · rw [List.getElem?_set_ne h1] at hx
       exact hr.fl m x hx
 · cases hv with
   | vsl _ _ _ ad cap hlc hf =>
   rw [hβ] at hf
   have:=(hf.2 rfl).2
   cases this
   exact .msl _ _ _ b sz 0 c (.inl ⟨_,hsn⟩) hlc (fun _=>by simp) (fun h0=>by omega)
theorem ACall.vecCall {P:Program} {f:FuncId} {H1:Hp} {k sz e:Nat} {rows rows':List (List D)} {args:List A} (hcl:H1.Closed) (hne:rows ≠ []) (hl:rows'.length=rows.length)
 (h:ACall P f (.msl (H1.length+1) 0 rows.length :: args) (H1++[.dead,.arr sz (rows.map (List.map .d))]) (fun r H'=>r = .tup []∧H'=H1++[.dead,.arr sz (rows'.map (List.map .d))])) :
 ACall P f (.vsl H1.length k rows.length :: args) (H1++[.vec sz e k rows]) (fun r H'=>r = .tup []∧H'=H1++[.vec sz e k rows']):=by
 intro κ w vs hr hlen hv
 have hi:(H1++[Ob.vec sz e k rows])[H1.length]?=some (.vec sz e k rows):=by simp
 obtain ⟨κs,h1,h2,h3,h4,b,c,n,p1,p2,p3,p4,p5⟩:=hr.vecArr2 hi hne
 have hH:(H1++[Ob.vec sz e k rows]).set H1.length .dead++[.arr sz (rows.map (List.map .d))]=H1++[.dead,.arr sz (rows.map (List.map .d))]:=by
  rw [List.set_append_right _ _ (Nat.le_refl _)]; simp
 have hL:(H1++[Ob.vec sz e k rows]).length=H1.length+1:=by simp
 rw [hH] at h2
 rw [hL] at h3 h4 p2
 refine (h κs w vs h2 (by simpa using hlen) fun m v a hm ha => ?_).mono ?_
 · cases m with
   | zero=>simp at ha; subst ha; exact h3 v (hv 0 v _ hm rfl)
   | succ m=>exact (hv (m+1) v a hm (by simpa using ha)).mono h1
 · rintro ev w' ⟨v,κ',r,H',q1,q2,q3,q4,rfl,rfl⟩
   have a1:(H1++[Ob.dead,.arr sz (rows'.map (List.map A.d))])[H1.length+1]?=some (.arr sz (rows'.map (List.map .d))):=by
    rw [getElem?_appk]; rfl
   obtain ⟨b',s',b1,b2,b3⟩:=q3.ob _ _ a1
   have hle:=q2.β (H1.length+1)
   rw [p2,b1] at hle
   have hbs:b'=b∧s'=some (e,n):=by
    simp only [Bind.le] at hle
    rcases hle with hle | hle<;>cases hle
    exact ⟨rfl,rfl⟩
   obtain ⟨rfl,rfl⟩:=hbs
   obtain ⟨cur,c1,c2⟩:=b2 e n rfl
   have hcut:=q3.cut H1.length (by simp)
   have hHc:Hp.cut H1.length (H1++[Ob.dead,.arr sz (rows'.map (List.map A.d))])=H1:=cut_app hcl _
   rw [hHc] at hcut
   let κc:K := κ'.cut H1.length
   let κ2:K := { κc with β:=upd κc.β H1.length (.vec b' c rows'.length k sz) }
   have hcn : κc.β H1.length = .none:=hcut.dom _ (Nat.le_refl _)
   have hle2 : κc.le κ2:=K.le_upd hcn _
   have hκ2 : κ.le κ2:=by
    refine ⟨q2.w0.trans h1.w0,fun b o v hb=>q2.σ _ _ _ (h1.σ _ _ _ hb),fun m => ?_⟩
    by_cases hm:m=H1.length
    · subst hm
      show (κ.β H1.length).le (upd κc.β H1.length _ H1.length)
      rw [upd_same,p1,hl]; exact Bind.le_refl _
    · show (κ.β m).le (upd κc.β H1.length _ m)
      rw [upd_ne _ _ hm]
      by_cases hlt:m < H1.length
      · have:=Bind.le_trans (h1.β m) (q2.β m)
        show (κ.β m).le (if m < H1.length then κ'.β m else .none)
        rw [if_pos hlt]; exact this
      · have hn:=hr.dom m (by simp; omega)
        rw [hn]; trivial
   have hcne:∀ m,(κc.β m).block ≠ some b':=fun m hm=>by
    by_cases hlt:m < H1.length
    · have e1 : κc.β m = κ'.β m:=if_pos hlt
      rw [e1] at hm
      have:=q3.exd m (H1.length+1) b' hm (by rw [b1]; rfl)
      omega
    · have e1 : κc.β m = .none:=if_neg hlt
      rw [e1] at hm; cases hm
   refine ⟨v,κ2,.tup [],_,q1,hκ2,⟨hcut.below,hcut.st,fun m x hx => ?_,fun m hm => ?_,fun m b hb => ?_,fun m b o ho => ?_,fun m q b hm hq => ?_,fun m x hx => ?_⟩,?_,rfl,rfl⟩
   · by_cases hlt:m < H1.length
     · rw [List.getElem?_append_left hlt] at hx
       exact (hcut.ob m x hx).mono hle2 (upd_ne _ _ (by omega)) fun _ _=>rfl
     · have:m=H1.length:=by
        have:=(List.getElem?_eq_some_iff.1 hx).1
        simp at this; omega
       subst this
       simp at hx
       subst hx
       refine .inr ⟨b',c,cur,upd_same _ _ _,fun h0 h00=>p3 h0 (by
        have:rows'.length=0:=by rw [h00]; rfl
        exact List.eq_nil_of_length_eq_zero (by omega)),c1,by omega,by omega,fun j r hj => ?_⟩
       have hj':(rows'.map (List.map A.d))[j]?=some (r.map A.d):=by rw [List.getElem?_map,hj]; rfl
       obtain ⟨d1,d2⟩:=b3 j _ hj'
       refine ⟨by simpa using d1,fun q x hx => ?_⟩
       obtain ⟨u,u1,-,u2⟩:=d2 q (.d x) (by rw [List.getElem?_map,hx]; rfl)
       rw [cell_cells c1] at u1
       cases u2 with
       | d u2=>exact ⟨u,u1,u2⟩
   · have h0:H1.length+1≤m:=by simpa using hm
     show upd κc.β H1.length _ m=_
     rw [upd_ne _ _ (by omega)]; exact hcut.dom m (by omega)
   · by_cases hm:m=H1.length
     · subst hm
       have:some b'=some b:=by rw [← hb]; show _=(upd κc.β H1.length _ H1.length).block; rw [upd_same]; rfl
       cases this
       exact q3.ex (H1.length+1) b' (by rw [b1]; rfl)
     · have hb':(κc.β m).block=some b:=by rw [← hb]; show _=(upd κc.β H1.length _ m).block; rw [upd_ne _ _ hm]
       exact hcut.ex m b hb'
   · by_cases hm:m=H1.length
     · subst hm
       have ho':(Bind.vec b' c rows'.length k sz).owns b o:=by
        have:=ho
        change (upd κc.β H1.length _ H1.length).owns b o at this
        rwa [upd_same] at this
       have hbb:=Bind.block_of_owns ho'
       cases hbb
       exact q3.exσ (H1.length+1) b' o (by rw [b1]; rfl)
     · have ho':(κc.β m).owns b o:=by
        have:=ho
        change (upd κc.β H1.length _ m).owns b o at this
        rwa [upd_ne _ _ hm] at this
       exact hcut.exσ m b o ho'
   · have hβ:∀ m,m ≠ H1.length → κ2.β m = κc.β m:=fun m hm=>upd_ne _ _ hm
     have hβ0 : κ2.β H1.length = .vec b' c rows'.length k sz:=upd_same _ _ _
     by_cases hm1:m=H1.length<;>by_cases hq1:q=H1.length
     · omega
     · subst hm1
       rw [hβ0] at hm; cases hm
       rw [hβ q hq1] at hq
       exact absurd hq (hcne q)
     · subst hq1
       rw [hβ0] at hq; cases hq
       rw [hβ m hm1] at hm
       exact absurd hm (hcne m)
     · rw [hβ m hm1] at hm; rw [hβ q hq1] at hq
       exact hcut.exd m q b hm hq
   · by_cases hlt:m < H1.length
     · rw [List.getElem?_append_left hlt] at hx; exact hcut.fl m x hx
     · have:m=H1.length:=by
        have:=(List.getElem?_eq_some_iff.1 hx).1
        simp at this; omega
       subst this
       simp at hx
       subst hx; rfl
   · cases q4 with
     | tup us _ hl0 h0=>exact .tup us _ hl0 fun m u a hu ha=>by simp at ha
theorem ACall.freezeVec {P:Program} {f:FuncId} {args:List A} {H:Hp} {j k sz e:Nat} {rows:List (List D)} (hne:rows ≠ [])
 (h:ACall P f args H (fun r H'=>∃ X:Hp,X[j]?=some (.vec sz e k rows)∧r = .vsl (H.length+j) k rows.length∧H'=H++X)):ACall P f args H (fun r H'=>r = .d (.sl false sz rows)∧H'=H):=by
 intro κ w vs hr hl hv
 refine (h κ w vs hr hl hv).mono ?_
 rintro ev w' ⟨v,κ',r,H',h1,h2,h3,h4,X,hX,rfl,rfl⟩
 obtain ⟨κs,k1,k2,k3,-⟩:=h3.vecArr2 (i:=H.length+j) (by rw [getElem?_appk]; exact hX) hne
 have a3:=k3 v h4
 obtain ⟨κ2,g1,g2,g3⟩:=k2.freezeArr (i:=(H++X).length) (sz:=sz) (rows:=rows) (by simp) a3
 have hHX:∃ Y,((H++X).set (H.length+j) Ob.dead++[Ob.arr sz (rows.map (List.map A.d))]).set (H++X).length Ob.dead=H++Y:=by
  rw [set_appk,List.append_assoc,List.length_append,set_appk]; exact ⟨_,rfl⟩
 obtain ⟨Y,hY⟩:=hHX
 rw [hY] at g2
 exact ⟨v,κ2.cut H.length,.d (.sl false sz rows),Hp.cut H.length (H++Y),h1,K.le_cut (h2.trans (k1.trans g1)) hr.dom,g2.cut _ (by simp),g3.clr H.length,rfl,cut_app hr.closed _⟩
section
open Go.RowKit (Below)
open Go.Proofs Go.Sort
theorem below_ahead (w:World) (n:Nat):Below w.heap.size w (Go.Sort.ahead w n):=⟨rfl,rfl,rfl,Nat.le_refl _,fun _ _=>rfl⟩
theorem below_grow (w:World) (os:Array Obj):Below w.heap.size w (grow w os) :=
 ⟨rfl,rfl,rfl,by simp [grow],fun k hk=>by simp [grow,Array.getElem?_append_left hk]⟩
end
section
open Go.RowKit (Below)
open Go.Proofs Go.Sort
def intRows (L:List Int):List (List A):=L.map fun x=>[.d (.int .i64 x)]
theorem intRows_set (L:List Int) (k:Nat) (x:Int):intRows (L.set k x)=(intRows L).set k [.d (.int .i64 x)]:=by
 rw [intRows,List.map_set]; rfl
theorem HR.putInts {κ:K} {H:Hp} {w:World} (h:HR κ H w) {i b:Nat} {s:Option (TypeId × Nat)} {L0 d:List Int} (hi:H[i]?=some (.arr 1 (intRows L0))) (hβ : κ.β i = .arr b 1 s) (hd:d.length=L0.length)
 (h0:Holds (Value.int .i64) w b 0 L0.toArray):∀ k:Nat,k≤L0.length→HR κ (H.set i (.arr 1 (intRows (d.take k++L0.drop k)))) (putRow (Value.int .i64) w b 0 (d.take k++L0.drop k).toArray)
 | 0, _ => by
   have hH:H.set i (.arr 1 (intRows L0))=H:=by
    refine List.ext_getElem? fun j => ?_
    by_cases hj:i=j
    · subst hj; rw [List.getElem?_set_self (List.getElem?_eq_some_iff.1 hi).1,hi]
    · rw [List.getElem?_set_ne hj]
   rw [List.take_zero,List.drop_zero,List.nil_append,hH,putRow_self _ _ _ _ _ h0]
   exact h
 | k + 1, hk => by
   have ih:=HR.putInts h hi hβ hd h0 k (by omega)
   have hil:i < H.length:=(List.getElem?_eq_some_iff.1 hi).1
   have hx:d.take (k+1)++L0.drop (k+1)=(d.take k++L0.drop k).set k (d[k]'(by omega)):=by
    have e1:L0.drop k=L0[k]'(by omega) :: L0.drop (k+1):=List.drop_eq_getElem_cons (by omega)
    have e2:d.take (k+1)=d.take k++[d[k]'(by omega)]:=List.take_succ_eq_append_getElem (by omega)
    have hm:k - (d.take k).length=0:=by simp; omega
    rw [e2,List.set_append_right _ _ (by simp; omega),hm,e1,List.set_cons_zero,List.append_assoc]
    rfl
   have hlen:(d.take k++L0.drop k).length=L0.length:=by simp; omega
   generalize d.take k++L0.drop k=X at ih hx hlen
   rw [hx]
   have hXk:X[k]?=some (X[k]'(by omega)):=List.getElem?_eq_getElem (by omega)
   have hrow:(intRows X)[k]?=some [.d (.int .i64 (X[k]'(by omega)))]:=by rw [intRows,List.getElem?_map,hXk]; rfl
   have:=ih.setArr (i:=i) (k:=k) (j:=0) (by rw [List.getElem?_set_self hil]) hβ hrow (by simp) (v:=(Value.int .i64) (d[k]'(by omega))) (a := .d (.int .i64 (d[k]'(by omega)))) rfl (.d (DR.int _ _))
   rw [List.set_set] at this
   have e3:=putRow_set (Value.int .i64) w b 0 X.toArray k (d[k]'(by omega)) (by simp; omega)
   rw [Nat.zero_add] at e3
   rw [Nat.mul_one,Nat.add_zero,e3] at this
   rw [intRows_set]
   simpa using this
def SortInt (P:Program) (f:FuncId):Prop:=∀ (blk off cap:Nat) (ss:List Int) (w:World),Holds (Value.int .i64) w blk off ss.toArray→blk < w.heap.size→ss.length < 4611686018427387904 →
 Calls P f #[.slice (some ⟨blk,off,none⟩) ss.length cap] w fun e w'=>e = .returned (.tuple #[])∧∃ n os,w'=grow (putRow (Value.int .i64) (Go.Sort.ahead w n) blk off (ss.mergeSort fun x y=>decide (x≤y)).toArray) os
theorem sortInt_acall {P:Program} {f:FuncId} (hS:SortInt P f) {L:List Int} (hne:L ≠ []) (hl:L.length < 4611686018427387904) {H:Hp} {i:Nat} (hi:H[i]?=some (.arr 1 (intRows L))) :
 ACall P f [.msl i 0 L.length] H (fun r H'=>r = .tup []∧H'=H.set i (.arr 1 (intRows (L.mergeSort fun x y=>decide (x≤y))))):=by
 intro κ w vs hr hvl hv
 match vs,hvl with
 | [v],_ =>
 have hv0:=hv 0 v _ rfl rfl
 have hpos:0 < L.length:=List.length_pos_iff.2 hne
 cases hv0 with
 | msl _ _ _ b sz o cap hb hcl ho hz =>
 obtain ⟨b',s',hβ',hsh,hc⟩:=hr.ob i _ hi
 obtain ⟨rfl,rfl⟩:b=b'∧sz=1:=by
  rcases hb with ⟨s,hb⟩ | hb
  · rw [hβ'] at hb; cases hb; exact ⟨rfl,rfl⟩
  · rw [hβ'] at hb; cases hb
 have ho':o=0:=by have:=ho hpos; omega
 subst ho'
 have hH0:∀ n,Holds (Value.int .i64) (Go.Sort.ahead w n) b 0 L.toArray:=fun n j hj=>by
  have hj':j < L.length:=by simpa using hj
  have hrow:(intRows L)[j]?=some [.d (.int .i64 L[j])]:=by rw [intRows,List.getElem?_map,List.getElem?_eq_getElem hj']; rfl
  obtain ⟨-,h2⟩:=hc j _ hrow
  obtain ⟨u,u1,u2,u3⟩:=h2 0 _ rfl
  have:=u3.d_inv.int_inv
  subst this
  rw [Nat.mul_one,Nat.add_zero] at u1 u2
  rw [Nat.zero_add]
  refine ⟨?_,u2⟩
  rw [cell?_ahead,u1]
  simp [getElem!_pos,hj']
 have hblk:=(hr.ex i b (by rw [hβ']; rfl)).2
 refine (hS b 0 cap L w (hH0 0) hblk hl).mono ?_
 rintro e w' ⟨rfl,n,os,rfl⟩
 have h1:HR κ H (Go.Sort.ahead w n):=hr.later (below_ahead w n)
 have hml:(L.mergeSort fun x y=>decide (x≤y)).length=L.length:=List.length_mergeSort L
 have h2:=h1.putInts hi hβ' hml (hH0 n) L.length (Nat.le_refl _)
 rw [List.take_of_length_le (by omega),List.drop_of_length_le (Nat.le_refl _),List.append_nil] at h2
 have h3:=h2.later (below_grow _ os)
 exact ⟨_,κ,.tup [],_,rfl,K.le_refl κ,h3,.tup [] [] rfl (by simp),rfl,rfl⟩
end
section
def idxP {α:Type} (p : α→Bool) (l:List α):Int:=if l.any p then (l.findIdx p:Nat) else -1
theorem idxP_at {α:Type} {p : α→Bool} {l:List α} {j:Nat} (hj:j < l.length) (h0:∀ y ∈ l.take j,p y=false) (h1:p l[j]=true):idxP p l=(j:Int):=by
 unfold idxP
 have h2:l.any p=true:=List.any_eq_true.2 ⟨_,List.getElem_mem hj,h1⟩
 rw [if_pos h2]
 have:l.findIdx p=j:=by
  rw [List.findIdx_eq hj]
  refine ⟨h1,fun k hk => ?_⟩
  have:=h0 l[k] (by
   have:l[k]=(l.take j)[k]'(by simp; omega):=by simp
   rw [this]; exact List.getElem_mem _)
  simpa using this
 rw [this]
theorem idxP_no {α:Type} {p : α→Bool} {l:List α} (h0:∀ y ∈ l,p y=false):idxP p l = -1:=by
 unfold idxP
 rw [if_neg]
 intro h
 obtain ⟨x,hx,h1⟩:=List.any_eq_true.1 h
 rw [h0 x hx] at h1; cases h1
theorem idxP_pos {α:Type} {p : α→Bool} {l:List α}:decide (0≤idxP p l)=l.any p:=by
 unfold idxP
 split
 · rename_i h; rw [h]; simp
 · rename_i h; simp at h ⊢; exact h
section
variable {P:Program} {tn tm bd mn ed tint:Nat}
theorem Has.scCmp {f cmpI:FuncId} (hf:Has P f (irScCmp cmpI ed)) (hc:∀ (a b:Int) (H:Hp),ACall P cmpI [.d (.int .i64 a),.d (.int .i64 b)] H (fun r H'=>r = .d (.int .i64 (cmpInt a b))∧H'=H)) (x y:Int × Int) (H:Hp) :
 ACall P f [.agg (rowE encBad x),.agg (rowE encBad y)] H (fun r H'=>r = .d (.int .i64 (cBad x y))∧H'=H):=by
 obtain ⟨fn,hff,hcf⟩:=hf
 refine acall_fin hff hcf (by simp [irScCmp]) fun hcl _ => ?_
 obtain ⟨a1,c1⟩:=x
 obtain ⟨a2,c2⟩:=y
 simp [irScCmp,rowE,encBad]
 refine CallK_of' (hc _ _ _) ?_
 simp [RetK,resA,cut_app hcl,cBad]
theorem Has.scIdxF {f:FuncId} (hf:Has P f irScIdxF) {g:A} {H:Hp} {ms:List Mn} {z:Bool} {p:Mn→Bool} (hl:ms.length≤1099511627776) (hg:∀ m,H.length≤m→g.clr m=g)
 (hp:∀ (x:Mn) (Q:A→Hp→Prop) (t:Tag Q),Q (.d (.bool (p x))) H→ValK Q t P [.agg (rowE encMn x)] H g):ACall P f [.d (.sl z 4 (ms.map encMn)),g] H (fun r H'=>r = .d (.int .i64 (idxP p ms))∧H'=H):=by
 obtain ⟨fn,hff,hcf⟩:=hf
 refine acall_fin hff hcf (by simp [irScIdxF]) fun hcl _ => ?_
 simp [irScIdxF]
 refine LoopK_out 0 (fun fr H'=>(∀ y ∈ ms,p y=false)∧H'=H) ?_ ?_
 · refine RangeK_of H.length ms.length (fun j fr H'=>fr 0 = .d (.sl z 4 (ms.map encMn))∧fr 1=g∧(∀ y ∈ ms.take j,p y=false)∧H'=H) (by omega) (by decide) (by simp) (by simp) ?_ ?_ ?_
   · exact ⟨by simp,by simp [hg,-A.clr],by simp,cut_self hcl⟩
   · rintro j fr H' hj f8 f7 ⟨f0,f1,h0,rfl⟩
     have hr:=rowAt_map encMn hj
     have hat:=fun h1=>idxP_at (p:=p) hj h0 h1
     have hnx:ms.take (j+1)=ms.take j++[ms[j]]:=List.take_succ_eq_append_getElem hj
     generalize ms[j]=x at hr hat hnx
     have gp:=hp x
     obtain ⟨xa,xt,xw,xf⟩:=x
     simp only [rowE,encMn,List.map_cons,List.map_nil] at gp hr
     simp [f8,f0,f1,hr]
     refine gp _ _ ?_
     simp
     refine BrK_split (fun hd => ?_) (fun hd => ?_)
     · have h1:p ⟨xa,xt,xw,xf⟩=true:=by simpa using hd
       simp [f8,RetK,resA,cut_self hcl,hat h1]
     · have h1:p ⟨xa,xt,xw,xf⟩=false:=by simpa using hd
       simp
       refine NextK_of H'.length (Nat.le_refl _) (by simp [f8,f7]) ?_
       refine ⟨by simp [f0],by simp [f1,hg,-A.clr],?_,cut_self hcl⟩
       rw [hnx]
       intro y hy
       rcases List.mem_append.1 hy with hy | hy
       · exact h0 y hy
       · rw [List.mem_singleton.1 hy]; exact h1
   · rintro fr H' f8 f7 ⟨f0,f1,h0,rfl⟩
     rw [List.take_of_length_le (Nat.le_refl _)] at h0
     simp
     exact h0
 · rintro fr H' ⟨h0,rfl⟩
   simp [RetK,resA,cut_self hcl,idxP_no h0]
theorem Has.scContF {f idx:FuncId} (hf:Has P f (irScContF idx)) (hi:Has P idx irScIdxF) {g:A} {H:Hp} {ms:List Mn} {z:Bool} {p:Mn→Bool} (hl:ms.length≤1099511627776) (hg:∀ m,H.length≤m→g.clr m=g)
 (hp:∀ (x:Mn) (Q:A→Hp→Prop) (t:Tag Q),Q (.d (.bool (p x))) H→ValK Q t P [.agg (rowE encMn x)] H g):ACall P f [.d (.sl z 4 (ms.map encMn)),g] H (fun r H'=>r = .d (.bool (ms.any p))∧H'=H):=by
 have gi:=hi.scIdxF (z:=z) hl hg hp
 obtain ⟨fn,hff,hcf⟩:=hf
 refine acall_fin hff hcf (by simp [irScContF]) fun hcl _ => ?_
 simp [irScContF]
 refine CallK_of' gi ?_
 have:=idxP_pos (p:=p) (l:=ms)
 simp [RetK,resA,cut_self hcl,this]
def wrQ (i:Int) (x:Mn):Bool:=decide (x.t=i) && x.wr
theorem Has.scWrittenC {f:FuncId} (hf:Has P f (irScWrittenC mn)) (x:Mn) (i:Int) {H:Hp} {j:Nat} (hj:H[j]?=some (.box tint [.d (.int .i64 i)])) :
 ACall P f [.agg (rowE encMn x),.ptr j 0] H (fun r H'=>r = .d (.bool (wrQ i x))∧H'=H):=by
 have hjl:=scan_len hj
 obtain ⟨fn,hff,hcf⟩:=hf
 refine acall_fin hff hcf (by simp [irScWrittenC]) fun hcl _ => ?_
 obtain ⟨xa,xt,xw,xf⟩:=x
 have hj2:∀ X,(H++X)[j]?=some (.box tint [.d (.int .i64 i)]):=fun X=>get_app hj X
 simp [irScWrittenC,rowE,encMn,hj2,List.getElem?_cons_zero,-getElem?_pos]
 by_cases h:xt=i
 · subst h
   simp [hj2,List.getElem?_cons_zero,RetK,resA,cut_app hcl,wrQ,-getElem?_pos]
 · simp [h,hj2,List.getElem?_cons_zero,RetK,resA,cut_app hcl,wrQ,-getElem?_pos]
theorem Has.scWritten {f cf wc idx:FuncId} (hf:Has P f (irScWritten cf wc tm tint)) (hc:Has P cf (irScContF idx)) (hi:Has P idx irScIdxF) (hw:Has P wc (irScWrittenC mn)) (hok:callOk P wc=true) {bs bad:D} {z:Bool} {ms:List Mn} (hl:ms.length≤1099511627776) (i:Int) (H:Hp) :
 ACall P f [.agg [.d bs,.d (.sl z 4 (ms.map encMn)),.d bad],.d (.int .i64 i)] H (fun r H'=>r = .d (.bool (ms.any (wrQ i)))∧H'=H):=by
 obtain ⟨fn,hff,hcf⟩:=hf
 refine acall_fin hff hcf (by simp [irScWritten]) fun hcl _ => ?_
 simp [irScWritten,List.getElem?_cons_zero,-getElem?_pos]
 refine CallK_of' (hc.scContF hi (p:=wrQ i) hl (fun m hm=>by
  have h2:H.length+1 < m:=by simp at hm; omega
  simp [h2,A.lo]) (fun x Q t hQ => ?_)) ?_
 · simp only [ValK]
   refine ⟨hok,(hw.scWrittenC (tint:=tint) x i (j:=H.length+1) (by simp)).mono ?_⟩
   rintro r H' ⟨rfl,rfl⟩
   exact hQ
 · simp [RetK,resA,cut_app hcl]
end
end
section
def SWd (L:List Tk) (w:Bs) (a:Int):Prop:=0≤a∧w=txT L a.toNat∧kdT L a.toNat=1
theorem SWd.mk' {L:List Tk} {i:Nat} (h:kdT L i=1):SWd L (txT L i) (i:Int):=⟨by omega,by simp,by simpa using h⟩
theorem SWd.mk1 {L:List Tk} {i:Nat} (h:kdT L (i+1)=1):SWd L (txT L (i+1)) ((i:Int)+1):=by
 have:=SWd.mk' h
 simpa using this
theorem SWd.mk3 {L:List Tk} {i:Nat} (h:kdT L (i+3)=1):SWd L (txT L (i+3)) ((i:Int)+3):=by
 have:=SWd.mk' h
 simpa using this
def ScP (L:List Tk):List N→Int→Int→Prop
 | [],b,e=>b≤e
 | x :: r,b,e=>x.k=5∧b≤x.at_∧SWd L x.w x.at_∧ScP L r (x.at_+1) e
mutual
def Sc (L:List Tk):N→Int→Int→Prop
 | .mk k f t w a z ks, b, e =>
   if k=7∨k=8 then SWd L w a∧b≤a∧ScS L ks (a+1) e
   else if k=23 then SWd L w a∧b≤a∧a < e
   else if k=28 then ScC L ks b e
   else ScS L ks b e
def ScS (L:List Tk):List N→Int→Int→Prop
 | [],b,e=>b≤e
 | n :: r,b,e=>∃ m,Sc L n b m∧ScS L r m e
def ScC (L:List Tk):List N→Int→Int→Prop
 | [],_,_=>False
 | [_],_,_=>False
 | [_,_],_,_=>False
 | [p,_,c],b,e=>∃ m,ScP L p.ks b m∧Sc L c m e
 | _ :: _ :: _ :: _ :: _,_,_=>False
end
section
variable {L:List Tk}
theorem Sc_mk (k f t:Int) (w:Bs) (a:Int) (z:Bool) (ks:List N) (b e:Int):Sc L (.mk k f t w a z ks) b e =
 if k=7∨k=8 then SWd L w a∧b≤a∧ScS L ks (a+1) e
 else if k=23 then SWd L w a∧b≤a∧a < e
 else if k=28 then ScC L ks b e
 else ScS L ks b e:=by rw [Sc]
theorem ScS_nil (b e:Int):ScS L [] b e=(b≤e):=by rw [ScS]
theorem ScS_cons (n:N) (r:List N) (b e:Int):ScS L (n :: r) b e=∃ m,Sc L n b m∧ScS L r m e:=by rw [ScS]
theorem ScC_three (p q c:N) (b e:Int):ScC L [p,q,c] b e=∃ m,ScP L p.ks b m∧Sc L c m e:=by rw [ScC]
theorem ScC_inv {ks:List N} {b e:Int} (h:ScC L ks b e):∃ p q c m,ks=[p,q,c]∧ScP L p.ks b m∧Sc L c m e:=by
 match ks,h with
 | [],h=>rw [ScC] at h; exact h.elim
 | [_],h=>rw [ScC] at h; exact h.elim
 | [_,_],h=>rw [ScC] at h; exact h.elim
 | [p,q,c],h=>rw [ScC] at h; obtain ⟨m,h1,h2⟩:=h; exact ⟨p,q,c,m,rfl,h1,h2⟩
 | _ :: _ :: _ :: _ :: _,h=>rw [ScC] at h; exact h.elim
theorem ScP.le:∀ {l:List N} {b e:Int},ScP L l b e→b≤e
 | [],_,_,h=>h
 | x :: r,b,e,h=>by have:=ScP.le h.2.2.2; have:=h.2.1; omega
theorem ScP.mono:∀ {l:List N} {b e b' e':Int},ScP L l b e→b'≤b→e≤e'→ScP L l b' e'
 | [],b,e,b',e',h,h1,h2=>by simp only [ScP] at h ⊢; omega
 | x :: r,b,e,b',e',h,h1,h2=>⟨h.1,by have:=h.2.1; omega,h.2.2.1,ScP.mono h.2.2.2 (Int.le_refl _) h2⟩
theorem ScP.snoc:∀ {l:List N} {b e e':Int} {x:N},ScP L l b e→x.k=5→e≤x.at_→SWd L x.w x.at_→x.at_+1≤e'→ScP L (l++[x]) b e'
 | [],b,e,e',x,h,h0,h1,h2,h3=>⟨h0,by simp only [ScP] at h; omega,h2,h3⟩
 | y :: r,b,e,e',x,h,h0,h1,h2,h3=>⟨h.1,h.2.1,h.2.2.1,ScP.snoc h.2.2.2 h0 h1 h2 h3⟩
def ScOk (L:List Tk) (n:N):Prop:=∀ b e,Sc L n b e→b≤e∧∀ b' e',b'≤b→e≤e'→Sc L n b' e'
theorem scS_ok {ks:List N} (ih:∀ p ∈ ks,ScOk L p):∀ b e,ScS L ks b e→b≤e∧∀ b' e',b'≤b→e≤e'→ScS L ks b' e':=by
 induction ks with
 | nil=>intro b e h; rw [ScS_nil] at h; exact ⟨h,fun b' e' h1 h2=>by rw [ScS_nil]; omega⟩
 | cons n r ih2 =>
   intro b e h
   rw [ScS_cons] at h
   obtain ⟨m,h1,h2⟩:=h
   obtain ⟨a1,a2⟩:=ih n (by simp) _ _ h1
   obtain ⟨b1,b2⟩:=ih2 (fun p hp=>ih p (by simp [hp])) _ _ h2
   refine ⟨by omega,fun b' e' h3 h4 => ?_⟩
   rw [ScS_cons]
   exact ⟨m,a2 _ _ h3 (Int.le_refl _),b2 _ _ (Int.le_refl _) h4⟩
theorem sc_ok (n:N):ScOk L n:=by
 induction n using N.ind with
 | h k f t w a z ks ih =>
 intro b e h
 have hS:=scS_ok (L:=L) ih
 rw [Sc_mk] at h
 by_cases h1:k=7∨k=8
 · rw [if_pos h1] at h
   obtain ⟨p1,p2,p3⟩:=h
   obtain ⟨q1,q2⟩:=hS _ _ p3
   refine ⟨by omega,fun b' e' h3 h4 => ?_⟩
   rw [Sc_mk,if_pos h1]
   exact ⟨p1,by omega,q2 _ _ (Int.le_refl _) h4⟩
 rw [if_neg h1] at h
 by_cases h2:k=23
 · rw [if_pos h2] at h
   refine ⟨by omega,fun b' e' h3 h4 => ?_⟩
   rw [Sc_mk,if_neg h1,if_pos h2]
   exact ⟨h.1,by omega,by omega⟩
 rw [if_neg h2] at h
 by_cases h3:k=28
 · rw [if_pos h3] at h
   obtain ⟨p,q,c,m,rfl,p1,p2⟩:=ScC_inv h
   obtain ⟨q1,q2⟩:=ih c (by simp) _ _ p2
   have:=p1.le
   refine ⟨by omega,fun b' e' h5 h6 => ?_⟩
   rw [Sc_mk,if_neg h1,if_neg h2,if_pos h3,ScC_three]
   exact ⟨m,p1.mono h5 (Int.le_refl _),q2 _ _ (Int.le_refl _) h6⟩
 rw [if_neg h3] at h
 obtain ⟨q1,q2⟩:=hS _ _ h
 refine ⟨q1,fun b' e' h5 h6 => ?_⟩
 rw [Sc_mk,if_neg h1,if_neg h2,if_neg h3]
 exact q2 _ _ h5 h6
theorem Sc.le {n:N} {b e:Int} (h:Sc L n b e):b≤e:=(sc_ok n b e h).1
theorem Sc.mono {n:N} {b e b' e':Int} (h:Sc L n b e) (h1:b'≤b) (h2:e≤e'):Sc L n b' e':=(sc_ok n b e h).2 b' e' h1 h2
theorem ScS.le {ks:List N} {b e:Int} (h:ScS L ks b e):b≤e:=(scS_ok (fun p _=>sc_ok p) b e h).1
theorem ScS.mono {ks:List N} {b e b' e':Int} (h:ScS L ks b e) (h1:b'≤b) (h2:e≤e'):ScS L ks b' e':=(scS_ok (fun p _=>sc_ok p) b e h).2 b' e' h1 h2
theorem ScS.nil {b e:Int} (h:b≤e):ScS L [] b e:=by rw [ScS_nil]; exact h
theorem ScS.cons {n:N} {r:List N} {b m m' e:Int} (h:Sc L n b m) (hr:ScS L r m' e) (hm:m≤m'):ScS L (n :: r) b e:=by rw [ScS_cons]; exact ⟨m,h,hr.mono hm (Int.le_refl _)⟩
theorem ScS.app {r:List N} {e':Int}:∀ {ks:List N} {b e:Int},ScS L ks b e→ScS L r e e'→ScS L (ks++r) b e'
 | [],b,e,h,hr=>by rw [ScS_nil] at h; exact hr.mono h (Int.le_refl _)
 | p :: l, b, e, h, hr => by
   rw [ScS_cons] at h
   obtain ⟨m,h1,h2⟩:=h
   rw [List.cons_append,ScS_cons]
   exact ⟨m,h1,ScS.app h2 hr⟩
theorem ScS.snoc {ks:List N} {x:N} {b e i j e':Int} (h:ScS L ks b e) (hx:Sc L x i j) (h1:e≤i) (h2:j≤e'):ScS L (ks++[x]) b e':=h.app (ScS.cons (hx.mono h1 (Int.le_refl _)) (ScS.nil h2) (Int.le_refl _))
theorem Sc.new {k f t:Int} {w:Bs} {a:Int} {ks:List N} {b e:Int} (h:decide (k=7∨k=8∨k=23∨k=28)=false) (hs:ScS L ks b e):Sc L (N.new k f t w a ks) b e:=by
 simp only [decide_eq_false_iff_not,not_or] at h
 rw [N.new,Sc_mk,if_neg (by omega),if_neg (by omega),if_neg (by omega)]
 exact hs
theorem Sc.none {b e:Int} (h:b≤e):Sc L N.none b e:=Sc.new (by decide) (ScS.nil h)
theorem Sc.lam {f t:Int} {w:Bs} {a:Int} {p q c:N} {b m e:Int} (hp:ScP L p.ks b m) (hc:Sc L c m e):Sc L (N.new 28 f t w a [p,q,c]) b e:=by
 rw [N.new,Sc_mk,if_neg (by omega),if_neg (by omega),if_pos rfl,ScC_three]
 exact ⟨m,hp,hc⟩
theorem Sc.name {f t:Int} {w:Bs} {a:Int} {b e:Int} (hw:SWd L w a) (h1:b≤a) (h2:a < e):Sc L (N.new 23 f t w a []) b e:=by
 rw [N.new,Sc_mk,if_neg (by omega),if_pos rfl]
 exact ⟨hw,h1,h2⟩
theorem Sc.bound {k f t:Int} {w:Bs} {a:Int} {ks:List N} {b e:Int} (hk:k=7∨k=8) (hw:SWd L w a) (h1:b≤a) (h2:ScS L ks (a+1) e):Sc L (N.new k f t w a ks) b e:=by
 rw [N.new,Sc_mk,if_pos hk]
 exact ⟨hw,h1,h2⟩
structure It (L:List Tk) (x:N) (b e:Int):Prop where
 fr:b≤x.f
 lo:x.f≤x.at_
 hi:x.at_ < x.t
 to:x.t≤e
 wd:SWd L x.w x.at_
 is:(x.k=2∧∃ p,x.ks=[p]∧x.f≤p.at_∧p.at_ < x.t∧SWd L p.w p.at_)∨(x.k=3∧ScC L x.ks (x.at_+1) x.t)
def ItS (L:List Tk):List N→Int→Int→Prop
 | [],b,e=>b≤e
 | x :: r,b,e=>It L x b x.t∧ItS L r x.t e
theorem ItS.snoc:∀ {l:List N} {b i:Int} {x:N},ItS L l b i→It L x i x.t→ItS L (l++[x]) b x.t
 | [],b,i,x,h,hx=>⟨⟨by simp only [ItS] at h; have:=hx.fr; omega,hx.lo,hx.hi,hx.to,hx.wd,hx.is⟩,Int.le_refl _⟩
 | y :: r,b,i,x,h,hx=>⟨h.1,ItS.snoc h.2 hx⟩
def ScQ (L:List Tk) (i:Nat):G→N→Nat→Prop
 | .list .param _,m,j=>ScP L m.ks i j
 | .list _ _,m,j=>ScS L m.ks i j
 | .listL .param _ ks,m,j=>∀ b:Int,ScP L ks b i→ScP L m.ks b j
 | .listL _ _ ks,m,j=>∀ b:Int,ScS L ks b i→ScS L m.ks b j
 | .stmts ks,m,j=>∀ b:Int,ScS L ks b i→ScS L m.ks b j
 | .file ks,m,j=>ItS L ks 0 i→ItS L m.ks 0 j
 | .use,m,j | .defn,m,j=>It L m i j∧m.t=j
 | .params,m,j=>ScP L m.ks i j
 | .param,m,j=>m.k=5∧(i:Int)≤m.at_∧SWd L m.w m.at_∧m.at_+1≤j
 | .sumL a,m,j | .termL a,m,j | .postL a,m,j=>∀ b:Int,Sc L a b i→Sc L m b j
 | _,m,j=>Sc L m i j
theorem ApR.wordK {P:N→Nat→Prop} {k:Nat} {h:Bs→Nat→PR} (hh:kdT L k=1→ApR P (h (txT L k) (k+1))):ApR P (wordR L k h):=by
 unfold wordR
 split
 · rename_i e; exact hh e
 · trivial
theorem ApR.iteK {P:N→Nat→Prop} {c:Prop} [Decidable c] {a b:PR} (ha:c→ApR P a) (hb:ApR P b):ApR P (if c then a else b):=by
 split
 · rename_i e; exact ha e
 · exact hb
theorem ApR.lastS {P:N→Nat→Prop} {n:Nat} (ih:∀ g i,g.flat→ApR (ScQ L i g) (pp L n g i)) {g:G} {k:Nat} (hg:g.flat) (hh:∀ m j,k≤j→(g.strict=true→k < j)→ScQ L k g m j→P m j):ApR P (pp L n g k):=by
 have h1:=ih g k hg
 have h2:=pp_adv (L:=L) n g k
 generalize pp L n g k=r at h1 h2
 cases r with
 | out=>trivial
 | bad j=>trivial
 | ok m j=>exact hh _ j h2.1 h2.2.1 h1
theorem ApR.thenS {P:N→Nat→Prop} {n:Nat} (ih:∀ g i,g.flat→ApR (ScQ L i g) (pp L n g i)) {g:G} {k:Nat} {h:N→Nat→PR} (hg:g.flat) (hh:∀ m j,k≤j→(g.strict=true→k < j)→ScQ L k g m j→ApR P (h m j)):ApR P ((pp L n g k).then h):=by
 have h1:=ih g k hg
 have h2:=pp_adv (L:=L) n g k
 generalize pp L n g k=r at h1 h2
 cases r with
 | out=>trivial
 | bad j=>trivial
 | ok m j=>exact hh m j h2.1 h2.2.1 h1
theorem pp_scope:∀ (n:Nat) (g:G) (i:Nat),g.flat→ApR (ScQ L i g) (pp L n g i)
 | 0,g,i,_=>trivial
 | n + 1, g, i, hg => by
   have ih:=pp_scope n
   cases g
   case listL one e ks =>
    simp only [pp]
    cases one<;>simp only [G.flat,G.one,Bool.false_eq_true] at hg
    case param =>
     refine ApR.thenS ih trivial fun m j h1 h2 h3 => ?_
     obtain ⟨p0,p1,p2,p3⟩:=h3
     refine ApR.ite (ApR.ok fun b hb => ?_) (ApR.want (ApR.lastS ih rfl fun x j' h1' h2' h3' b hb=>h3' b (ScP.snoc hb p0 p1 p2 (by omega))))
     exact ScP.snoc hb p0 p1 p2 (by omega)
    all_goals
     refine ApR.thenS ih trivial fun m j h1 h2 h3 => ?_
     refine ApR.ite (ApR.ok fun b hb => ?_) (ApR.want (ApR.lastS ih rfl fun x j' h1' h2' h3' b hb=>h3' b (ScS.snoc hb h3 (Int.le_refl _) (by omega))))
     exact ScS.snoc hb h3 (Int.le_refl _) (by omega)
   case list one e =>
    simp only [pp]
    cases one<;>simp only [G.flat,G.one,Bool.false_eq_true] at hg
    case param =>
     refine ApR.ite (ApR.ok ?_) (ApR.lastS ih rfl fun x j h1 h2 h3=>h3 i (Int.le_refl _))
     show (i:Int)≤_
     omega
    all_goals
     refine ApR.ite (ApR.ok ?_) (ApR.lastS ih rfl fun x j h1 h2 h3=>h3 i (ScS.nil (Int.le_refl _)))
     exact (show ScS L [] _ _ from ScS.nil (by omega))
   case stmts ks =>
    simp only [pp]
    refine ApR.ite (ApR.ok fun b hb=>hb.mono (Int.le_refl _) (by omega)) (ApR.thenS ih trivial fun m j h1 h2 h3=>ApR.lastS ih trivial fun x j' h1' h2' h3' b hb=>h3' b (ScS.snoc hb h3 (Int.le_refl _) (Int.le_refl _)))
   case file ks =>
    simp only [pp]
    refine ApR.ite (ApR.ok fun hb=>hb) (ApR.ite ?_ ?_)
    all_goals exact ApR.thenS ih trivial fun m j h1 h2 h3=>ApR.lastS ih trivial fun x j' h1' h2' h3' hb=>h3' (h3.2 ▸ ItS.snoc hb ⟨h3.1.fr,h3.1.lo,h3.1.hi,Int.le_refl _,h3.1.wd,h3.1.is⟩)
   case use =>
    simp only [pp]
    refine ApR.want (ApR.wordK fun w1=>ApR.want (ApR.wordK fun w2=>ApR.want (ApR.ok ?_)))
    refine ⟨⟨Int.le_refl _,?_,?_,?_,SWd.mk3 w2,.inl ⟨rfl,_,rfl,?_,?_,SWd.mk1 w1⟩⟩,?_⟩<;>simp only [N.new,N.f,N.t,N.at_]<;>omega
   case defn =>
    simp only [pp]
    refine ApR.want (ApR.wordK fun w1=>ApR.thenS ih trivial fun p j h1 h2 h3=>ApR.thenS ih trivial fun t j' h1' h2' h3'=>ApR.thenS ih trivial fun b k h1'' h2'' h3''=>ApR.ok ?_)
    have h2:=h2 rfl
    refine ⟨⟨Int.le_refl _,?_,?_,?_,SWd.mk1 w1,.inr ⟨rfl,?_⟩⟩,rfl⟩
    · simp only [N.new,N.f,N.at_]; omega
    · simp only [N.new,N.t,N.at_]; omega
    · simp only [N.new,N.t]; omega
    · simp only [N.new,N.ks,N.at_,N.t]
      rw [ScC_three]
      have h3:ScP L p.ks _ _:=h3
      have h3'':Sc L b _ _:=h3''
      exact ⟨j',h3.mono (by omega) (by omega),h3''⟩
   case params =>
    simp only [pp]
    refine ApR.want (ApR.thenS ih rfl fun m j h1 h2 h3=>ApR.ok ?_)
    have h3:ScP L m.ks _ _:=h3
    exact h3.mono (by omega) (Int.le_refl _)
   case param =>
    simp only [pp]
    refine ApR.wordK fun w1=>ApR.thenS ih trivial fun t j h1 h2 h3=>ApR.ok ⟨rfl,Int.le_refl _,SWd.mk' w1,?_⟩
    simp only [N.new,N.at_]; omega
   case typed =>
    simp only [pp]
    refine ApR.ite (ApR.lastS ih trivial fun m j h1 h2 h3 => ?_) (ApR.ok (show Sc L _ _ _ from Sc.none (Int.le_refl _)))
    have h3:Sc L m _ _:=h3
    exact h3.mono (by omega) (Int.le_refl _)
   case sumL a =>
    simp only [pp]
    refine ApR.ite ?_ (ApR.ite ?_ (ApR.ok fun b hb=>hb))
    all_goals
     refine ApR.thenS ih trivial fun m j h1 h2 h3=>ApR.lastS ih trivial fun x j' h1' h2' h3' b hb=>h3' b ?_
     exact (show Sc L _ _ _ from Sc.new (by decide) (ScS.cons hb (ScS.cons h3 (ScS.nil (Int.le_refl _)) (Int.le_refl _)) (by omega)))
   case termL a =>
    simp only [pp]
    refine ApR.ite ?_ (ApR.ok fun b hb=>hb)
    refine ApR.thenS ih trivial fun m j h1 h2 h3=>ApR.lastS ih trivial fun x j' h1' h2' h3' b hb=>h3' b ?_
    exact (show Sc L _ _ _ from Sc.new (by decide) (ScS.cons hb (ScS.cons h3 (ScS.nil (Int.le_refl _)) (Int.le_refl _)) (by omega)))
   case postL a =>
    simp only [pp]
    refine ApR.ite (ApR.word ?_) (ApR.ite ?_ (ApR.ok fun b hb=>hb))
    · refine ApR.lastS ih trivial fun x j' h1' h2' h3' b hb=>h3' b ?_
      exact (show Sc L _ _ _ from Sc.new (by decide) (ScS.cons hb (ScS.nil (Int.le_refl _)) (by omega)))
    · refine ApR.thenS ih rfl fun m j h1 h2 h3=>ApR.lastS ih trivial fun x j' h1' h2' h3' b hb=>h3' b ?_
      have h3:ScS L m.ks _ _:=h3
      exact (show Sc L _ _ _ from Sc.new (by decide) (ScS.cons hb h3 (by omega)))
   case block =>
    simp only [pp]
    refine ApR.want (ApR.thenS ih trivial fun m j h1 h2 h3=>ApR.ok ?_)
    have h3:=h3 _ (ScS.nil (Int.le_refl _))
    exact (show Sc L _ _ _ from Sc.new (by decide) (h3.mono (by omega) (Int.le_refl _)))
   case expr =>
    simp only [pp]
    refine ApR.thenS ih trivial fun a j h1 h2 h3=>ApR.ite ?_ (ApR.ite ?_ (ApR.ok h3))
    all_goals
     refine ApR.thenS ih trivial fun m j' h1' h2' h3'=>ApR.ok ?_
     exact (show Sc L _ _ _ from Sc.new (by decide) (ScS.cons h3 (ScS.cons h3' (ScS.nil (Int.le_refl _)) (Int.le_refl _)) (by omega)))
   case sum =>
    simp only [pp]
    exact ApR.thenS ih trivial fun a j h1 h2 h3=>ApR.lastS ih trivial fun x j' h1' h2' h3'=>h3' _ h3
   case term =>
    simp only [pp]
    exact ApR.thenS ih trivial fun a j h1 h2 h3=>ApR.lastS ih trivial fun x j' h1' h2' h3'=>h3' _ h3
   case post =>
    simp only [pp]
    exact ApR.thenS ih trivial fun a j h1 h2 h3=>ApR.lastS ih trivial fun x j' h1' h2' h3'=>h3' _ h3
   case kind =>
    simp only [pp]
    refine ApR.ite (ApR.ok (show Sc L _ _ _ from Sc.new (by decide) (ScS.nil (by omega)))) (ApR.ite (ApR.ok (show Sc L _ _ _ from Sc.new (by decide) (ScS.nil (by omega)))) (ApR.ite (ApR.ok (show Sc L _ _ _ from Sc.new (by decide) (ScS.nil (by omega)))) (ApR.ite ?_ ?_)))
    · refine ApR.thenS ih rfl fun m j h1 h2 h3=>ApR.ok ?_
      have h3:ScS L m.ks _ _:=h3
      exact (show Sc L _ _ _ from Sc.new (by decide) (h3.mono (by omega) (Int.le_refl _)))
    · refine ApR.want (ApR.want (ApR.thenS ih rfl fun m j h1 h2 h3=>ApR.want (ApR.thenS ih trivial fun t j' h1' h2' h3'=>ApR.ok ?_)))
      have h3:ScS L m.ks _ _:=h3
      exact (show Sc L _ _ _ from Sc.new (by decide) ((h3.mono (by omega) (Int.le_refl _)).snoc h3' (by omega) (Int.le_refl _)))
   case tfield =>
    simp only [pp]
    refine ApR.word (ApR.want (ApR.thenS ih trivial fun m j h1 h2 h3=>ApR.ok ?_))
    exact (show Sc L _ _ _ from Sc.new (by decide) (ScS.cons (Sc.mono h3 (by omega) (Int.le_refl _)) (ScS.nil (Int.le_refl _)) (Int.le_refl _)))
   case stmt =>
    simp only [pp]
    refine ApR.ite (ApR.wordK fun w1=>ApR.thenS ih trivial fun t j h1 h2 h3=>ApR.want (ApR.thenS ih trivial fun x j' h1' h2' h3'=>ApR.want (ApR.ok ?_))) (ApR.ite ?_ (ApR.ite ?_ (ApR.ite ?_ (ApR.ite ?_ (ApR.iteK (fun w1 => ?_) ?_)))))
    · exact (show Sc L _ _ _ from Sc.bound (.inl rfl) (SWd.mk1 w1) (by omega) (ScS.cons (Sc.mono h3 (by omega) (Int.le_refl _)) (ScS.cons h3' (ScS.nil (Int.le_refl _)) (by omega)) (by omega)))
    · refine ApR.thenS ih trivial fun c j h1 h2 h3=>ApR.thenS ih trivial fun b j' h1' h2' h3'=>ApR.ite (ApR.thenS ih trivial fun o j'' h1'' h2'' h3''=>ApR.ok ?_) (ApR.ok ?_)
      · exact (show Sc L _ _ _ from Sc.new (by decide) (ScS.cons (Sc.mono h3 (by omega) (Int.le_refl _)) (ScS.cons h3' (ScS.cons h3'' (ScS.nil (Int.le_refl _)) (Int.le_refl _)) (by omega)) (Int.le_refl _)))
      · exact (show Sc L _ _ _ from Sc.new (by decide) (ScS.cons (Sc.mono h3 (by omega) (Int.le_refl _)) (ScS.cons h3' (ScS.cons (Sc.none (Int.le_refl _)) (ScS.nil (Int.le_refl _)) (Int.le_refl _)) (Int.le_refl _)) (Int.le_refl _)))
    · refine ApR.thenS ih trivial fun c j h1 h2 h3=>ApR.thenS ih trivial fun b j' h1' h2' h3'=>ApR.ok ?_
      exact (show Sc L _ _ _ from Sc.new (by decide) (ScS.cons (Sc.mono h3 (by omega) (Int.le_refl _)) (ScS.cons h3' (ScS.nil (Int.le_refl _)) (Int.le_refl _)) (Int.le_refl _)))
    · refine ApR.thenS ih trivial fun c j h1 h2 h3=>ApR.want (ApR.ok ?_)
      exact (show Sc L _ _ _ from Sc.new (by decide) (ScS.cons (Sc.mono h3 (by omega) (Int.le_refl _)) (ScS.nil (by omega)) (Int.le_refl _)))
    · refine ApR.thenS ih trivial fun c j h1 h2 h3=>ApR.want (ApR.ok ?_)
      exact (show Sc L _ _ _ from Sc.new (by decide) (ScS.cons (Sc.mono h3 (by omega) (Int.le_refl _)) (ScS.nil (by omega)) (Int.le_refl _)))
    · refine ApR.thenS ih trivial fun c j h1 h2 h3=>ApR.want (ApR.ok ?_)
      exact (show Sc L _ _ _ from Sc.bound (.inr rfl) (SWd.mk' w1.1) (Int.le_refl _) (ScS.cons (Sc.mono h3 (by omega) (Int.le_refl _)) (ScS.nil (by omega)) (Int.le_refl _)))
    · refine ApR.thenS ih trivial fun c j h1 h2 h3=>ApR.want (ApR.ok ?_)
      exact (show Sc L _ _ _ from Sc.new (by decide) (ScS.cons h3 (ScS.nil (by omega)) (Int.le_refl _)))
   case atom =>
    simp only [pp]
    refine ApR.ite (ApR.ok (show Sc L _ _ _ from Sc.new (by decide) (ScS.nil (by omega)))) (ApR.ite (ApR.ok (show Sc L _ _ _ from Sc.new (by decide) (ScS.nil (by omega)))) (ApR.iteK (fun w1=>ApR.ok (show Sc L _ _ _ from Sc.name (SWd.mk' w1) (Int.le_refl _) (by omega))) (ApR.ite (ApR.ok (show Sc L _ _ _ from Sc.new (by decide) (ScS.nil (by omega)))) (ApR.ite ?_ (ApR.ite ?_ ?_)))))
    · refine ApR.thenS ih trivial fun c j h1 h2 h3=>ApR.want (ApR.ok ?_)
      exact (show Sc L _ _ _ from Sc.new (by decide) (ScS.cons (Sc.mono h3 (by omega) (Int.le_refl _)) (ScS.nil (by omega)) (Int.le_refl _)))
    · refine ApR.thenS ih rfl fun m j h1 h2 h3=>ApR.ok ?_
      have h3:ScS L m.ks _ _:=h3
      exact (show Sc L _ _ _ from Sc.new (by decide) (h3.mono (by omega) (Int.le_refl _)))
    · refine ApR.want (ApR.thenS ih trivial fun p j h1 h2 h3=>ApR.thenS ih trivial fun t j' h1' h2' h3'=>ApR.thenS ih trivial fun b j'' h1'' h2'' h3''=>ApR.ok ?_)
      have h3:ScP L p.ks _ _:=h3
      have h3'':Sc L b _ _:=h3''
      exact (show Sc L _ _ _ from Sc.lam (h3.mono (by omega) (by omega)) h3'')
   case entry =>
    simp only [pp]
    refine ApR.word (ApR.want (ApR.thenS ih trivial fun m j h1 h2 h3=>ApR.ok ?_))
    exact (show Sc L _ _ _ from Sc.new (by decide) (ScS.cons (Sc.mono h3 (by omega) (Int.le_refl _)) (ScS.nil (Int.le_refl _)) (Int.le_refl _)))
end
end
section
def evB (bs:List SBd) (t:Int):Nat:=bs.countP fun b=>decide (b.a=t)
def evM (ms:List Mn) (t:Int):Nat:=ms.countP fun m=>decide (m.a=t)
def indS (b e t:Int):Nat:=if b≤t∧t < e then 1 else 0
theorem evB_app (a b:List SBd) (t:Int):evB (a++b) t=evB a t+evB b t:=List.countP_append
theorem evM_app (a b:List Mn) (t:Int):evM (a++b) t=evM a t+evM b t:=List.countP_append
theorem evB_nil (t:Int):evB [] t=0:=rfl
theorem evM_nil (t:Int):evM [] t=0:=rfl
theorem evB_one (b:SBd) (t:Int):evB [b] t=if b.a=t then 1 else 0:=by simp [evB,List.countP_cons]
theorem evM_one (b:Mn) (t:Int):evM [b] t=if b.a=t then 1 else 0:=by simp [evM,List.countP_cons]
theorem ind_add {b m m' e:Int} (h1:b≤m) (h:m≤m') (h2:m'≤e) (t:Int):indS b m t+indS m' e t≤indS b e t:=by
 unfold indS
 split<;>split<;>split<;>omega
theorem ind_mono {b e b' e':Int} (h1:b'≤b) (h2:e≤e') (t:Int):indS b e t≤indS b' e' t:=by
 unfold indS
 split<;>split<;>omega
theorem ind_one {a b e t:Int} (h1:b≤a) (h2:a < e):(if a=t then 1 else 0)≤indS b e t:=by
 unfold indS
 split<;>split<;>omega
theorem ind_pos {b e t:Int} (h:0 < indS b e t):b≤t∧t < e:=by
 unfold indS at h
 split at h
 · assumption
 · omega
def bAt (bs:List SBd) (i:Int):SBd:=bs.getD i.toNat default
def InSight (bs:List SBd) (lo b it:Int) (M:List Nm):Prop:=∀ x ∈ M,x.beg=false→0≤x.to∧x.to < bs.length∧((bAt bs x.to).k < 3∨(lo≤(bAt bs x.to).a∧(bAt bs x.to).a < b∧(bAt bs x.to).i=it))
def MGood (bs:List SBd) (lo it:Int) (m:Mn):Prop:=m.t = -1∨(0≤m.t∧m.t < bs.length∧((bAt bs m.t).k < 3∨(lo≤(bAt bs m.t).a∧(bAt bs m.t).a < m.a∧(bAt bs m.t).i=it)))
theorem bAt_app {bs:List SBd} {i:Int} (h0:0≤i) (h:i < bs.length) (l:List SBd):bAt (bs++l) i=bAt bs i:=getD_app h0 h l
theorem InSight.app {bs:List SBd} {lo b it:Int} {M:List Nm} (h:InSight bs lo b it M) (l:List SBd):InSight (bs++l) lo b it M:=fun x hx hb=>by
 obtain ⟨h1,h2,h3⟩:=h x hx hb
 rw [bAt_app h1 h2]
 exact ⟨h1,by simp; omega,h3⟩
theorem InSight.mono {bs:List SBd} {lo b b' it:Int} {M:List Nm} (h:InSight bs lo b it M) (hb:b≤b'):InSight bs lo b' it M:=fun x hx hb'=>by
 obtain ⟨h1,h2,h3⟩:=h x hx hb'
 exact ⟨h1,h2,h3.imp id fun ⟨a,b,c⟩=>⟨a,by omega,c⟩⟩
theorem InSight.beg {bs:List SBd} {lo b it:Int} {M:List Nm} (h:InSight bs lo b it M) (lam:Bool):InSight bs lo b it (⟨0,true,lam⟩ :: M):=fun x hx hb=>by
 rcases List.mem_cons.1 hx with rfl | hx
 · cases hb
 · exact h x hx hb
theorem MGood.app {bs:List SBd} {lo it:Int} {m:Mn} (h:MGood bs lo it m) (l:List SBd):MGood (bs++l) lo it m:=by
 rcases h with h | ⟨h1,h2,h3⟩
 · exact .inl h
 · refine .inr ?_
   rw [bAt_app h1 h2]
   exact ⟨h1,by simp; omega,h3⟩
structure Went (TL:List Tk) (lo it:Int) (c:Int→Nat) (S S':SM):Prop where
 ex:∃ nb nm nd,S'.bs=S.bs++nb∧S'.ms=S.ms++nm∧S'.bad=S.bad++nd∧(∀ t,evB nb t+evM nm t≤c t)∧(∀ x ∈ nb,3≤x.k∧x.k≤4∧x.i=it∧SWd TL x.w x.a)∧(∀ m ∈ nm,MGood S'.bs lo it m∧kdT TL m.a.toNat=1)∧∀ x ∈ nd,0 < c x.1
section
variable {TL:List Tk} {lo it:Int}
theorem Went.refl {c:Int→Nat} (S:SM):Went TL lo it c S S:=⟨[],[],[],by simp,by simp,by simp,by simp [evB,evM],by simp,by simp,by simp⟩
theorem Went.trans {c1 c2 c:Int→Nat} {S S1 S2:SM} (h1:Went TL lo it c1 S S1) (h2:Went TL lo it c2 S1 S2) (hc:∀ t,c1 t+c2 t≤c t):Went TL lo it c S S2:=by
 obtain ⟨nb,nm,nd,a1,a2,a3,a4,a5,a6,a7⟩:=h1.ex
 obtain ⟨nb',nm',nd',b1,b2,b3,b4,b5,b6,b7⟩:=h2.ex
 refine ⟨nb++nb',nm++nm',nd++nd',by rw [b1,a1,List.append_assoc],by rw [b2,a2,List.append_assoc],by rw [b3,a3,List.append_assoc],fun t => ?_,fun x hx => ?_,fun m hm => ?_,fun x hx => ?_⟩
 · rw [evB_app,evM_app]
   have:=a4 t; have:=b4 t; have:=hc t; omega
 · exact (List.mem_append.1 hx).elim (a5 x) (b5 x)
 · rcases List.mem_append.1 hm with hm | hm
   · rw [b1]; exact ⟨(a6 m hm).1.app _,(a6 m hm).2⟩
   · exact b6 m hm
 · rcases List.mem_append.1 hx with hx | hx
   · have:=a7 x hx; have:=hc x.1; omega
   · have:=b7 x hx; have:=hc x.1; omega
theorem Went.mono {c c':Int→Nat} {S S':SM} (h:Went TL lo it c S S') (hc:∀ t,c t≤c' t):Went TL lo it c' S S':=by
 obtain ⟨nb,nm,nd,a1,a2,a3,a4,a5,a6,a7⟩:=h.ex
 exact ⟨nb,nm,nd,a1,a2,a3,fun t=>Nat.le_trans (a4 t) (hc t),a5,a6,fun x hx=>Nat.lt_of_lt_of_le (a7 x hx) (hc _)⟩
theorem Went.bs {c:Int→Nat} {S S':SM} (h:Went TL lo it c S S'):∃ nb,S'.bs=S.bs++nb:=by
 obtain ⟨nb,nm,nd,a1,-⟩:=h.ex
 exact ⟨nb,a1⟩
theorem lookR_mem {bs:List SBd} {w:Bs}:∀ {M:List Nm} {far i f:Int},lookR bs w M far=some (i,f)→∃ x ∈ M,x.beg=false∧x.to=i∧swordR bs x=w
 | [],far,i,f,h=>by cases h
 | x :: r, far, i, f, h => by
   simp only [lookR] at h
   split at h
   · obtain ⟨y,h1,h2⟩:=lookR_mem h
     exact ⟨y,by simp [h1],h2⟩
   · rename_i hb
     split at h
     · rename_i hw
       cases h
       exact ⟨x,by simp,by simpa using hb,rfl,hw⟩
     · obtain ⟨y,h1,h2⟩:=lookR_mem h
       exact ⟨y,by simp [h1],h2⟩
theorem findR_good {bs:List SBd} {M:List Nm} {b:Int} (h:InSight bs lo b it M) (w:Bs) {a:Int} (ha:b≤a) (wr:Bool):MGood bs lo it ⟨a,(findR bs w M).1,wr,(findR bs w M).2⟩:=by
 unfold findR
 cases hl:lookR bs w M 0 with
 | none=>exact .inl rfl
 | some p =>
   obtain ⟨i,f⟩:=p
   obtain ⟨x,hx,hb,rfl,-⟩:=lookR_mem hl
   obtain ⟨h1,h2,h3⟩:=h x hx hb
   refine .inr ?_
   simp only
   split<;>exact ⟨h1,h2,h3.imp id fun ⟨p,q,r⟩=>⟨p,by simp only; omega,r⟩⟩
theorem Went.men {bs0:List SBd} {S:SM} {M:List Nm} {b:Int} (h:InSight S.bs lo b it M) (n:N) (hw:SWd TL n.w n.at_) (hb:b≤n.at_) (wr:Bool):Went TL lo it (indS n.at_ (n.at_+1)) S (S.men n wr (findR S.bs n.w M)):=by
 refine ⟨[],[⟨n.at_,(findR S.bs n.w M).1,wr,(findR S.bs n.w M).2⟩],if (findR S.bs n.w M).1 < 0 then [(n.at_,30)] else if wr∧(S.bs.getD (findR S.bs n.w M).1.toNat default).k < 3 then [(n.at_,35)] else [],by simp [SM.men],rfl,?_,fun t => ?_,by simp,fun m hm => ?_,fun x hx => ?_⟩
 · simp only [SM.men]
   split
   · rfl
   · split
     · rfl
     · simp
 · rw [evB_nil,evM_one,Nat.zero_add]; exact ind_one (Int.le_refl _) (by show n.at_ < n.at_+1; omega)
 · simp only [List.mem_singleton] at hm
   subst hm
   exact ⟨findR_good h n.w hb wr,hw.2.2⟩
 · have:x.1=n.at_:=by
    split at hx
    · simp at hx; rw [hx]
    · split at hx
      · simp at hx; rw [hx]
      · simp at hx
   rw [this]
   have:=ind_one (a:=n.at_) (b:=n.at_) (e:=n.at_+1) (t:=n.at_) (Int.le_refl _) (by omega)
   simp only [if_true] at this; omega
theorem Went.bind {S:SM} {M:List Nm} {b:Int} (h:InSight S.bs lo b it M) (n:N) (hl:lo≤n.at_) (hw:SWd TL n.w n.at_) {kind:Int} (hk:3≤kind∧kind≤4) {e:Int} (he:n.at_ < e) (hbe:b≤e) :
 Went TL lo it (indS n.at_ (n.at_+1)) S (bindR kind it n M S).2∧InSight (bindR kind it n M S).2.bs lo e it (bindR kind it n M S).1:=by
 refine ⟨⟨[⟨n.at_,kind,n.w,it⟩],[],if dupR S.bs n.w M then [(n.at_,31)] else [],rfl,by simp [bindR,SM.bind],?_,fun t => ?_,fun x hx => ?_,by simp,fun x hx => ?_⟩,fun x hx hb => ?_⟩
 · simp only [bindR,SM.bind]
   split
   · rfl
   · simp
 · rw [evM_nil,evB_one,Nat.add_zero]; exact ind_one (Int.le_refl _) (by show n.at_ < n.at_+1; omega)
 · simp only [List.mem_singleton] at hx
   subst hx
   exact ⟨hk.1,hk.2,rfl,hw⟩
 · have:x.1=n.at_:=by
    split at hx
    · simp at hx; rw [hx]
    · simp at hx
   rw [this]
   have:=ind_one (a:=n.at_) (b:=n.at_) (e:=n.at_+1) (t:=n.at_) (Int.le_refl _) (by omega)
   simp only [if_true] at this; omega
 · simp only [bindR] at hx
   rcases List.mem_cons.1 hx with rfl | hx
   · have hg:bAt (S.bs++[⟨n.at_,kind,n.w,it⟩]) (S.bs.length:Int)=⟨n.at_,kind,n.w,it⟩:=by simp [bAt]
     show _∧_∧_
     simp only [bindR,SM.bind,hg]
     exact ⟨by omega,by simp; omega,.inr ⟨hl,he,trivial⟩⟩
   · exact ((h.app [⟨n.at_,kind,n.w,it⟩]).mono hbe) x hx hb
theorem Went.binds:∀ (l:List N) {b e:Int} {S:SM} {M:List Nm},ScP TL l b e→lo≤b→InSight S.bs lo b it M→Went TL lo it (indS b e) S (bindsR it l M S).2∧InSight (bindsR it l M S).2.bs lo e it (bindsR it l M S).1
 | [],b,e,S,M,h,hl,hi=>⟨.refl _,hi.mono h⟩
 | n :: r, b, e, S, M, h, hl, hi => by
   obtain ⟨h0,h1,h2,h3⟩:=h
   obtain ⟨a1,a2⟩:=Went.bind hi n (by omega) h2 (kind:=3) (by decide) (e:=n.at_+1) (by omega) (by omega)
   obtain ⟨b1,b2⟩:=Went.binds r h3 (by omega) a2
   have:=h3.le
   exact ⟨a1.trans b1 fun t=>Nat.le_trans (ind_add (by omega) (Int.le_refl _) (by omega) t) (ind_mono h1 (Int.le_refl _) t),b2⟩
def WentN (TL:List Tk) (lo it:Int) (n:N):Prop:=∀ (b e:Int) (S:SM) (M:List Nm),Sc TL n b e→lo≤b→InSight S.bs lo b it M→Went TL lo it (indS b e) S (nodeR it n M S).2∧InSight (nodeR it n M S).2.bs lo e it (nodeR it n M S).1
theorem went_kids {ks:List N} (ih:∀ p ∈ ks,WentN TL lo it p):∀ (b e:Int) (S:SM) (M:List Nm),ScS TL ks b e→lo≤b→InSight S.bs lo b it M→Went TL lo it (indS b e) S (kidsR it ks M S).2∧InSight (kidsR it ks M S).2.bs lo e it (kidsR it ks M S).1:=by
 induction ks with
 | nil=>intro b e S M h hl hi; rw [kidsR_nil]; rw [ScS_nil] at h; exact ⟨.refl _,hi.mono h⟩
 | cons n r ih2 =>
   intro b e S M h hl hi
   rw [ScS_cons] at h
   obtain ⟨m,h1,h2⟩:=h
   obtain ⟨a1,a2⟩:=ih n (by simp) b m S M h1 hl hi
   have:=h1.le
   obtain ⟨b1,b2⟩:=ih2 (fun p hp=>ih p (by simp [hp])) m e _ _ h2 (by omega) a2
   have:=h2.le
   rw [kidsR_cons]
   exact ⟨a1.trans b1 fun t=>ind_add (by omega) (Int.le_refl _) (by omega) t,b2⟩
theorem went_closed {ks:List N} (ih:∀ p ∈ ks,WentN TL lo it p) {b e:Int} {S:SM} {M:List Nm} (h:ScC TL ks b e) (hl:lo≤b) (hi:InSight S.bs lo b it M) (lam:Bool):Went TL lo it (indS b e) S (sclosedR it ks M lam S):=by
 obtain ⟨p,q,c,m,rfl,h1,h2⟩:=ScC_inv h
 rw [sclosedR_three]
 obtain ⟨a1,a2⟩:=Went.binds p.ks h1 hl (hi.beg lam)
 have:=h1.le
 obtain ⟨b1,-⟩:=ih c (by simp) m e _ _ h2 (by omega) a2
 have:=h2.le
 exact a1.trans b1 fun t=>ind_add (by omega) (Int.le_refl _) (by omega) t
theorem went (n:N):WentN TL lo it n:=by
 induction n using N.ind with
 | h k f t w a z ks ih =>
 intro b e S M h hl hi
 rw [Sc_mk] at h
 rw [nodeR_mk]
 by_cases h78:k=7∨k=8
 · rw [if_pos h78] at h
   obtain ⟨h1,h2,h3⟩:=h
   have hle:=h3.le
   rcases h78 with rfl | rfl
   · rw [if_neg (by decide),if_pos rfl]
     obtain ⟨a1,a2⟩:=went_kids ih (a+1) e S M h3 (by omega) (hi.mono (by omega))
     obtain ⟨b1,b2⟩:=Went.bind a2 (.mk 7 f t w a z ks) (by show lo≤a; omega) h1 (kind:=4) (by decide) (e:=e) (by show a < e; omega) (Int.le_refl _)
     refine ⟨a1.trans b1 fun t => ?_,b2⟩
     have:=ind_add (b:=a) (m:=a+1) (m':=a+1) (e:=e) (by omega) (Int.le_refl _) (by omega) t
     have:=ind_mono (b:=a) (e:=e) (b':=b) (e':=e) h2 (Int.le_refl _) t
     simp only [N.at_]
     omega
   · rw [if_neg (by decide),if_neg (by decide),if_pos rfl]
     have a1:=Went.men (TL:=TL) (bs0:=[]) hi (.mk 8 f t w a z ks) h1 h2 true
     have hs':InSight (S.men (.mk 8 f t w a z ks) true (findR S.bs w M)).bs lo (a+1) it M:=InSight.mono (b:=b) hi (by omega)
     obtain ⟨b1,b2⟩:=went_kids ih (a+1) e _ M h3 (by omega) hs'
     refine ⟨a1.trans b1 fun t => ?_,b2⟩
     have:=ind_add (b:=a) (m:=a+1) (m':=a+1) (e:=e) (by omega) (Int.le_refl _) (by omega) t
     have:=ind_mono (b:=a) (e:=e) (b':=b) (e':=e) h2 (Int.le_refl _) t
     simp only [N.at_]
     omega
 rw [if_neg h78] at h
 by_cases h23:k=23
 · rw [if_pos h23] at h
   subst h23
   obtain ⟨h1,h2,h3⟩:=h
   rw [if_neg (by decide),if_neg (by decide),if_neg (by decide),if_pos rfl]
   have a1:=Went.men (TL:=TL) (bs0:=[]) hi (.mk 23 f t w a z ks) h1 h2 false
   exact ⟨a1.mono fun t=>ind_mono h2 (by simp only [N.at_]; omega) t,by rw [men_bs]; exact hi.mono (by omega)⟩
 rw [if_neg h23] at h
 by_cases h28:k=28
 · rw [if_pos h28] at h
   subst h28
   rw [if_neg (by decide),if_neg (by decide),if_neg (by decide),if_neg (by decide),if_pos rfl]
   have a1:=went_closed ih h hl hi true
   have hle:b≤e:=by
    obtain ⟨p,q,c,m,rfl,h1,h2⟩:=ScC_inv h
    have:=h1.le; have:=h2.le; omega
   obtain ⟨nb,hnb⟩:=a1.bs
   exact ⟨a1,by simp only [hnb]; exact (hi.app nb).mono hle⟩
 rw [if_neg h28] at h
 by_cases h6:k=6
 · subst h6
   rw [if_pos rfl]
   obtain ⟨a1,-⟩:=went_kids ih b e S _ h hl (hi.beg false)
   obtain ⟨nb,hnb⟩:=a1.bs
   exact ⟨a1,by simp only [hnb]; exact (hi.app nb).mono h.le⟩
 · rw [if_neg h6,if_neg (by omega),if_neg (by omega),if_neg h23,if_neg h28]
   exact went_kids ih b e S M h hl hi
end
def cTops:List N→Int→Nat
 | [],_=>0
 | x :: r,t=>indS x.at_ (x.at_+1) t+cTops r t
def cDefs:List N→Int→Nat
 | [],_=>0
 | x :: r,t=>indS (x.at_+1) x.t t+cDefs r t
theorem c_le {TL:List Tk}:∀ {l:List N} {b e:Int},ItS TL l b e→∀ t,cTops l t+cDefs l t≤indS b e t
 | [],_,_,_,t=>Nat.zero_le _
 | x :: r, b, e, h, t => by
   obtain ⟨h1,h2⟩:=h
   have hle:x.t≤e:=by
    clear h1
    induction r generalizing x with
    | nil=>exact h2
    | cons y r ih=>have:=h2.1; have:=ih y h2.2; have:=this; have h3:=h2.1.fr; have h4:=h2.1.lo; have h5:=h2.1.hi; omega
   have:=c_le h2 t
   have a1:=ind_add (b:=x.at_) (m:=x.at_+1) (m':=x.at_+1) (e:=x.t) (by omega) (Int.le_refl _) (by have:=h1.hi; omega) t
   have a2:=ind_mono (b:=x.at_) (e:=x.t) (b':=b) (e':=x.t) (by have:=h1.fr; have:=h1.lo; omega) (Int.le_refl _) t
   have a3:=ind_add (b:=b) (m:=x.t) (m':=x.t) (e:=e) (by have:=h1.fr; have:=h1.lo; have:=h1.hi; omega) (Int.le_refl _) hle t
   simp only [cTops,cDefs]
   omega
theorem ItS.le {TL:List Tk}:∀ {l:List N} {b e:Int},ItS TL l b e→b≤e
 | [],_,_,h=>h
 | x :: r,b,e,h=>by have:=ItS.le h.2; have h3:=h.1.fr; have h4:=h.1.lo; have h5:=h.1.hi; omega
theorem ItS.get {TL:List Tk}:∀ {l:List N} {b e:Int},ItS TL l b e→∀ (i:Nat) (x:N),l[i]?=some x→It TL x b x.t∧x.t≤e
 | [],_,_,_,i,x,h=>by simp at h
 | y :: r,b,e,h,0,x,hx=>by simp at hx; subst hx; exact ⟨h.1,ItS.le h.2⟩
 | y :: r, b, e, h, i + 1, x, hx => by
   obtain ⟨h1,h2⟩:=ItS.get h.2 i x (by simpa using hx)
   have h3:=h.1.fr; have h4:=h.1.lo; have h5:=h.1.hi
   exact ⟨⟨by have:=h1.fr; omega,h1.lo,h1.hi,h1.to,h1.wd,h1.is⟩,h2⟩
theorem tops_walk {TL:List Tk}:∀ (l:List N) {b e:Int} (i:Int) (S:SM) (M:List Nm),ItS TL l b e→0≤i→(∀ x ∈ M,x.beg=false∧0≤x.to∧x.to < S.bs.length∧(bAt S.bs x.to).k < 3) →
 ∃ nb nd, (topsR i l M S).2 = ⟨S.bs ++ nb, S.ms, S.bad ++ nd⟩ ∧ nb.length = l.length ∧ (∀ (j : Nat) (x : N), l[j]? = some x → nb[j]? = some ⟨x.at_, x.k - 1, x.w, i + j⟩) ∧ (∀ t, evB nb t ≤ cTops l t) ∧ (∀ x ∈ nd, 0 < cTops l x.1) ∧
   ∀ x ∈ (topsR i l M S).1,x.beg=false∧0≤x.to∧x.to < (S.bs++nb).length∧(bAt (S.bs++nb) x.to).k < 3
 | [],b,e,i,S,M,h,hi,hM=>⟨[],[],by simp [topsR],rfl,by simp,by simp [evB,cTops],by simp,by simpa [topsR] using hM⟩
 | n :: r, b, e, i, S, M, h, hi, hM => by
   have hk:n.k=2∨n.k=3:=by rcases h.1.is with ⟨h,-⟩ | ⟨h,-⟩<;>simp [h]
   have hstep:topsR i (n :: r) M S=topsR (i+1) r (bindR (n.k - 1) i n M S).1 (bindR (n.k - 1) i n M S).2:=by
    rcases hk with hk | hk
    · simp only [topsR,hk,if_true]; rfl
    · simp only [topsR,hk,if_true]; rfl
   have hM':∀ x ∈ (bindR (n.k - 1) i n M S).1,x.beg=false∧0≤x.to∧x.to < (bindR (n.k - 1) i n M S).2.bs.length∧(bAt (bindR (n.k - 1) i n M S).2.bs x.to).k < 3:=fun x hx=>by
    simp only [bindR] at hx ⊢
    rcases List.mem_cons.1 hx with rfl | hx
    · have hg:bAt (S.bs++[⟨n.at_,n.k - 1,n.w,i⟩]) (S.bs.length:Int)=⟨n.at_,n.k - 1,n.w,i⟩:=by simp [bAt]
      simp only [SM.bind,hg]
      exact ⟨trivial,by omega,by simp; omega,by omega⟩
    · obtain ⟨h1,h2,h3,h4⟩:=hM x hx
      simp only [SM.bind,bAt_app h2 h3]
      exact ⟨h1,h2,by simp; omega,h4⟩
   obtain ⟨nb,nd,a1,a2,a3,a4,a5,a6⟩:=tops_walk r (i+1) _ _ h.2 (by omega) hM'
   refine ⟨⟨n.at_,n.k - 1,n.w,i⟩ :: nb,(if dupR S.bs n.w M then [(n.at_,31)] else [])++nd,?_,by simp [a2],fun j x hx => ?_,fun t => ?_,fun x hx => ?_,?_⟩
   · rw [hstep,a1]
     simp only [bindR,SM.bind,List.append_assoc,List.singleton_append]
     congr 1
     split<;>simp
   · cases j with
     | zero=>simp at hx; subst hx; simp
     | succ j =>
       have:=a3 j x (by simpa using hx)
       rw [List.getElem?_cons_succ,this]
       congr 2
       omega
   · have e1:evB (⟨n.at_,n.k - 1,n.w,i⟩ :: nb) t=evB [⟨n.at_,n.k - 1,n.w,i⟩] t+evB nb t:=evB_app [_] nb t
     rw [e1,evB_one]
     have:=a4 t
     have h2:=ind_one (a:=n.at_) (b:=n.at_) (e:=n.at_+1) (t:=t) (Int.le_refl _) (by omega)
     simp only [cTops]
     omega
   · simp only [cTops]
     rcases List.mem_append.1 hx with hx | hx
     · split at hx
       · simp at hx
         have h2:=ind_one (a:=n.at_) (b:=n.at_) (e:=n.at_+1) (t:=n.at_) (Int.le_refl _) (by omega)
         simp only [if_true] at h2
         rw [hx]; simp only; omega
       · simp at hx
     · have:=a5 x hx; omega
   · rw [hstep]
     have e2:(bindR (n.k - 1) i n M S).2.bs++nb=S.bs++⟨n.at_,n.k - 1,n.w,i⟩ :: nb:=by simp [bindR,SM.bind]
     rw [e2] at a6
     exact a6
structure MOk (TL:List Tk) (ks:List N) (bs:List SBd) (m:Mn):Prop where
 kd:kdT TL m.a.toNat=1
 ex:∃ (j:Nat) (x:N),ks[j]?=some x∧x.k=3∧x.at_+1≤m.a∧m.a < x.t∧MGood bs (x.at_+1) j m
theorem MOk.app {TL:List Tk} {ks:List N} {bs:List SBd} {m:Mn} (h:MOk TL ks bs m) (l:List SBd):MOk TL ks (bs++l) m:=by
 obtain ⟨j,x,h1,h2,h3,h4,h5⟩:=h.ex
 exact ⟨h.kd,j,x,h1,h2,h3,h4,h5.app l⟩
structure BOk (TL:List Tk) (ks:List N) (b:SBd):Prop where
 ex:∃ (j:Nat) (x:N),ks[j]?=some x∧x.k=3∧x.at_+1≤b.a∧b.a < x.t∧b.i=j∧3≤b.k∧b.k≤4∧SWd TL b.w b.a
theorem defs_walk {TL:List Tk} {ks:List N} {M:List Nm}:∀ (l:List N) {b e:Int} (i:Nat) (S:SM),ItS TL l b e→(∀ (j:Nat) (x:N),l[j]?=some x→ks[i+j]?=some x)→(∀ x ∈ M,x.beg=false∧0≤x.to∧x.to < S.bs.length∧(bAt S.bs x.to).k < 3) →
 ∃ nb nm nd,defsR M i l S=⟨S.bs++nb,S.ms++nm,S.bad++nd⟩∧(∀ t,evB nb t+evM nm t≤cDefs l t)∧(∀ x ∈ nd,0 < cDefs l x.1)∧(∀ x ∈ nb,BOk TL ks x)∧∀ m ∈ nm,MOk TL ks (S.bs++nb) m
 | [],b,e,i,S,h,hk,hM=>⟨[],[],[],by simp [defsR],by simp [evB,evM,cDefs],by simp,by simp,by simp⟩
 | n :: r, b, e, i, S, h, hk, hM => by
   have hk':∀ (j:Nat) (x:N),r[j]?=some x→ks[i+1+j]?=some x:=fun j x hx=>by
    have:=hk (j+1) x (by simpa using hx)
    rw [← this]; congr 1; omega
   have hcast:((i+1:Nat):Int)=(i:Int)+1:=by omega
   rcases h.1.is with ⟨k2,-⟩ | ⟨k3,hc⟩
   · obtain ⟨nb,nm,nd,a1,a2,a3,a4,a5⟩:=defs_walk r (i+1) S h.2 hk' hM
     refine ⟨nb,nm,nd,?_,fun t => ?_,fun x hx => ?_,a4,a5⟩
     · simp only [defsR]
       rw [if_neg (by omega),← hcast]; exact a1
     · have:=a2 t; simp only [cDefs]; omega
     · have:=a3 x hx; simp only [cDefs]; omega
   · have hS:InSight S.bs (n.at_+1) (n.at_+1) i M:=fun x hx hb=>by
      obtain ⟨-,h2,h3,h4⟩:=hM x hx
      exact ⟨h2,h3,.inl h4⟩
     have hw:=went_closed (TL:=TL) (ks:=n.ks) (fun p _=>went p) hc (Int.le_refl _) hS false
     obtain ⟨nb1,nm1,nd1,b1,b2,b3,b4,b5,b6,b7⟩:=hw.ex
     have hM':∀ x ∈ M,x.beg=false∧0≤x.to∧x.to < (sclosedR i n.ks M false S).bs.length∧(bAt (sclosedR i n.ks M false S).bs x.to).k < 3:=fun x hx=>by
      obtain ⟨h1,h2,h3,h4⟩:=hM x hx
      rw [b1,bAt_app h2 h3]
      exact ⟨h1,h2,by simp; omega,h4⟩
     obtain ⟨nb,nm,nd,a1,a2,a3,a4,a5⟩:=defs_walk r (i+1) _ h.2 hk' hM'
     have hki:=hk 0 n rfl
     rw [Nat.add_zero] at hki
     refine ⟨nb1++nb,nm1++nm,nd1++nd,?_,fun t => ?_,fun x hx => ?_,fun x hx => ?_,fun m hm => ?_⟩
     · simp only [defsR]
       rw [if_pos k3,← hcast,a1,b1,b2,b3]
       simp only [List.append_assoc]
     · rw [evB_app,evM_app]
       have:=a2 t; have:=b4 t
       simp only [cDefs]; omega
     · simp only [cDefs]
       rcases List.mem_append.1 hx with hx | hx
       · have:=b7 x hx; omega
       · have:=a3 x hx; omega
     · rcases List.mem_append.1 hx with hx | hx
       · obtain ⟨c1,c2,c3,c4⟩:=b5 x hx
         have hpos:0 < evB nb1 x.a:=List.countP_pos_iff.2 ⟨x,hx,by simp⟩
         have:=b4 x.a
         obtain ⟨d1,d2⟩:=ind_pos (b:=n.at_+1) (e:=n.t) (t:=x.a) (by omega)
         exact ⟨i,n,hki,k3,d1,d2,c3,c1,c2,c4⟩
       · exact a4 x hx
     · rw [← List.append_assoc,← b1]
       rcases List.mem_append.1 hm with hm | hm
       · have hpos:0 < evM nm1 m.a:=List.countP_pos_iff.2 ⟨m,hm,by simp⟩
         have:=b4 m.a
         obtain ⟨d1,d2⟩:=ind_pos (b:=n.at_+1) (e:=n.t) (t:=m.a) (by omega)
         exact MOk.app ⟨(b6 m hm).2,i,n,hki,k3,d1,d2,(b6 m hm).1⟩ nb
       · exact a5 m hm
structure Named (TL:List Tk) (n:N) (e:Int) (S:SM):Prop where
 once:∀ t,evB S.bs t+evM S.ms t≤indS 0 e t
 tops:∀ (j:Nat) (x:N),n.ks[j]?=some x→S.bs[j]?=some ⟨x.at_,x.k - 1,x.w,j⟩
 locs:∀ (j:Nat) (b:SBd),S.bs[j]?=some b→n.ks.length≤j→BOk TL n.ks b
 ms:∀ m ∈ S.ms,MOk TL n.ks S.bs m
 bad:∀ x ∈ S.bad,0≤x.1∧x.1 < e
 len:n.ks.length≤S.bs.length
theorem named {TL:List Tk} {n:N} {e:Int} (h:ItS TL n.ks 0 e):Named TL n e (allR n):=by
 obtain ⟨nb,nd,a1,a2,a3,a4,a5,a6⟩:=tops_walk n.ks 0 ⟨[],[],[]⟩ [] h (Int.le_refl _) (by simp)
 simp only [List.nil_append] at a1 a6
 have hM:∀ x ∈ (topsR 0 n.ks [] ⟨[],[],[]⟩).1,x.beg=false∧0≤x.to∧x.to < (topsR 0 n.ks [] ⟨[],[],[]⟩).2.bs.length∧(bAt (topsR 0 n.ks [] ⟨[],[],[]⟩).2.bs x.to).k < 3:=by rw [a1]; exact a6
 obtain ⟨nb1,nm1,nd1,b1,b2,b3,b4,b5⟩:=defs_walk (ks:=n.ks) n.ks 0 _ h (fun j x hx=>by rw [Nat.zero_add]; exact hx) hM
 have b1':allR n=_:=b1
 simp only [a1] at b1' b5
 have hc:=fun t=>c_le h t
 refine ⟨fun t => ?_,fun j x hx => ?_,fun j b hb hj => ?_,?_,fun x hx => ?_,?_⟩
 · rw [b1']
   simp only [List.nil_append,evB_app]
   have:=a4 t; have:=b2 t; have:=hc t; omega
 · have:=a3 j x hx
   rw [b1']
   simp only
   have hj:j < nb.length:=(List.getElem?_eq_some_iff.1 this).1
   rw [List.getElem?_append_left hj,this]
   congr 2
   omega
 · rw [b1'] at hb
   simp only at hb
   rw [List.getElem?_append_right (by omega)] at hb
   exact b4 b (List.mem_of_getElem? hb)
 · rw [b1']
   simp only [List.nil_append]
   exact b5
 · rw [b1'] at hx
   simp only at hx
   rcases List.mem_append.1 hx with hx | hx
   · have:=a5 x hx; have:=hc x.1
     exact ind_pos (by omega)
   · have:=b3 x hx; have:=hc x.1
     exact ind_pos (by omega)
 · rw [b1']
   simp only [List.length_append]
   omega
end
end Go.Zam
namespace Go.Zam
def hasW (k:Int):Bool:=decide (k=2∨k=3∨k=5∨k=7∨k=8∨k=19∨k=21∨k=22∨k=23∨k=27∨k=33)
namespace N
mutual
def ren (L:List Tk):N→N
 | .mk k f t w a z ks => .mk k f t (if hasW k then txT L a.toNat else w) a z (rens L ks)
def rens (L:List Tk):List N→List N
 | []=>[]
 | n :: r=>ren L n :: rens L r
end
theorem rens_map (L:List Tk):∀ l:List N,rens L l=l.map (ren L)
 | []=>by rw [rens]; rfl
 | n :: r=>by rw [rens,rens_map L r]; rfl
theorem ren_mk (L:List Tk) (k f t:Int) (w:Bs) (a:Int) (z:Bool) (ks:List N):ren L (.mk k f t w a z ks) = .mk k f t (if hasW k then txT L a.toNat else w) a z (ks.map (ren L)):=by rw [ren,rens_map]
theorem ren_new (L:List Tk) (k f t:Int) (w:Bs) (a:Int) (ks:List N):ren L (new k f t w a ks)=new k f t (if hasW k then txT L a.toNat else w) a (ks.map (ren L)):=by
 rw [new,ren_mk,new]
 congr 1
 cases ks<;>rfl
theorem ren_k (L:List Tk) (n:N):(ren L n).k=n.k:=by cases n; rw [ren_mk]; rfl
theorem ren_f (L:List Tk) (n:N):(ren L n).f=n.f:=by cases n; rw [ren_mk]; rfl
theorem ren_at (L:List Tk) (n:N):(ren L n).at_=n.at_:=by cases n; rw [ren_mk]; rfl
theorem ren_ks (L:List Tk) (n:N):(ren L n).ks=n.ks.map (ren L):=by cases n; rw [ren_mk]; rfl
theorem ren_none (L:List Tk):ren L none=none:=by unfold none; rw [ren_new]; rfl
theorem ren_bag (L:List Tk) (ks:List N):ren L (bag ks)=bag (ks.map (ren L)):=by unfold bag; rw [ren_new]; rfl
end N
def PR.ren (L:List Tk):PR→PR
 | .ok m j => .ok (m.ren L) j
 | r=>r
def G.ren (L:List Tk):G→G
 | .file ks => .file (ks.map (N.ren L))
 | .stmts ks => .stmts (ks.map (N.ren L))
 | .sumL a => .sumL (a.ren L)
 | .termL a => .termL (a.ren L)
 | .postL a => .postL (a.ren L)
 | .listL o e ks => .listL o e (ks.map (N.ren L))
 | g=>g
section
variable {L L':List Tk}
theorem then_ren {r r':PR} {h h':N→Nat→PR} (hr:r'=r.ren L') (hh:∀ m j,h' (m.ren L') j=(h m j).ren L'):r'.then h'=(r.then h).ren L':=by
 subst hr
 cases r with
 | out=>rfl
 | bad i=>rfl
 | ok m j=>exact hh m j
theorem want_ren (hT:∀ i x,isT L' i x=isT L i x) {k:Nat} {x:Bs} {h h':Nat→PR} (hh:h' (k+1)=(h (k+1)).ren L'):wantR L' k x h'=(wantR L k x h).ren L':=by
 unfold wantR
 rw [hT]
 split
 · exact hh
 · rfl
theorem word_ren (hK:∀ i,kdT L' i=kdT L i) {k:Nat} {h h':Bs→Nat→PR} (hh:h' (txT L' k) (k+1)=(h (txT L k) (k+1)).ren L'):wordR L' k h'=(wordR L k h).ren L':=by
 unfold wordR
 rw [hK]
 split
 · exact hh
 · rfl
theorem ite_ren {c c':Prop} [Decidable c] [Decidable c'] (hc:c' ↔ c) {a b a' b':PR} (ha:a'=a.ren L') (hb:b'=b.ren L'):(if c' then a' else b')=(if c then a else b).ren L':=by
 by_cases h:c
 · rw [if_pos h,if_pos (hc.2 h),ha]
 · rw [if_neg h,if_neg (fun h'=>h (hc.1 h')),hb]
theorem iteT (hT:∀ i x,isT L' i x=isT L i x) (i:Nat) (x:Bs):(isT L' i x=true) ↔ (isT L i x=true):=by rw [hT]
theorem iteK (hK:∀ i,kdT L' i=kdT L i) (i:Nat) (x:Int):(kdT L' i=x) ↔ (kdT L i=x):=by rw [hK]
theorem ok_plain {k f t:Int} {a:Int} {ks ks':List N} {j:Nat} (hk0:hasW k=false) (hk:ks'=ks.map (N.ren L')):PR.ok (N.new k f t [] a ks') j=(PR.ok (N.new k f t [] a ks) j).ren L':=by
 subst hk
 simp only [PR.ren,N.ren_new,hk0,Bool.false_eq_true,if_false]
theorem ok_word {k f t:Int} {a:Int} {w:Bs} {i:Nat} {ks ks':List N} {j:Nat} (hk0:hasW k=true) (ha:a.toNat=i) (hk:ks'=ks.map (N.ren L')):PR.ok (N.new k f t (txT L' i) a ks') j=(PR.ok (N.new k f t w a ks) j).ren L':=by
 subst hk
 simp only [PR.ren,N.ren_new,hk0,if_true,ha]
theorem pp_ren (hT:∀ i x,isT L' i x=isT L i x) (hK:∀ i,kdT L' i=kdT L i):∀ (n:Nat) (g:G) (i:Nat),g.flat→pp L' n (g.ren L') i=(pp L n g i).ren L'
 | 0,g,i,_=>rfl
 | n + 1, g, i, hg => by
   have ih:=pp_ren hT hK n
   have one:∀ o:G,o.one=true→∀ i,pp L' n o i=(pp L n o i).ren L':=fun o ho i=>by
    have:=ih o i (G.one_flat ho).1
    cases o<;>simp [G.one] at ho<;>exact this
   have plain:∀ (o:G) (i:Nat),o.flat→o.ren L'=o→pp L' n o i=(pp L n o i).ren L':=fun o i ho hr=>by
    have:=ih o i ho
    rwa [hr] at this
   have app:∀ (ks:List N) (m:N),ks.map (N.ren L')++[m.ren L']=(ks++[m]).map (N.ren L'):=fun ks m=>by simp
   cases g
   case listL o e ks =>
    simp only [G.ren,pp]
    refine then_ren (one o hg i) fun m j=>ite_ren (iteT hT _ _) ?_ (want_ren hT ?_)
    · rw [app,PR.ren,N.ren_bag]
    · rw [app]; exact ih (.listL o e (ks++[m])) _ hg
   case list o e =>
    simp only [G.ren,pp]
    refine ite_ren (iteT hT _ _) ?_ (ih (.listL o e []) _ hg)
    rw [PR.ren,N.ren_bag]; rfl
   case stmts ks =>
    simp only [G.ren,pp]
    refine ite_ren (iteT hT _ _) ?_ (then_ren (plain .stmt i trivial rfl) fun m j => ?_)
    · rw [PR.ren,N.ren_bag]
    · rw [app]; exact ih (.stmts (ks++[m])) _ trivial
   case file ks =>
    simp only [G.ren,pp]
    refine ite_ren (iteK hK _ _) (ok_plain (by decide) rfl) (ite_ren (iteT hT _ _) (then_ren (plain .use i trivial rfl) fun m j => ?_) (then_ren (plain .defn i trivial rfl) fun m j => ?_))
    all_goals rw [app]; exact ih (.file (ks++[m])) _ trivial
   case sumL a =>
    simp only [G.ren,pp,N.ren_f]
    refine ite_ren (iteT hT _ _) (then_ren (plain .term _ trivial rfl) fun m j => ?_) (ite_ren (iteT hT _ _) (then_ren (plain .term _ trivial rfl) fun m j => ?_) rfl)
    · have:=ih (.sumL (N.new 16 a.f j [] 0 [a,m])) j trivial
      rw [G.ren,N.ren_new] at this; exact this
    · have:=ih (.sumL (N.new 17 a.f j [] 0 [a,m])) j trivial
      rw [G.ren,N.ren_new] at this; exact this
   case termL a =>
    simp only [G.ren,pp,N.ren_f]
    refine ite_ren (iteT hT _ _) (then_ren (plain .post _ trivial rfl) fun m j => ?_) rfl
    have:=ih (.termL (N.new 18 a.f j [] 0 [a,m])) j trivial
    rw [G.ren,N.ren_new] at this; exact this
   case postL a =>
    simp only [G.ren,pp,N.ren_f]
    refine ite_ren (iteT hT _ _) (word_ren hK ?_) (ite_ren (iteT hT _ _) (then_ren (plain (.list .expr [41]) _ rfl rfl) fun m j => ?_) rfl)
    · have:=ih (.postL (N.new 19 a.f (i+1+1:Nat) (txT L (i+1)) (i+1) [a])) (i+1+1) trivial
      rw [G.ren,N.ren_new] at this
      exact this
    · have:=ih (.postL (N.new 20 a.f j [] 0 (a :: m.ks))) j trivial
      rw [G.ren,N.ren_new] at this
      rw [N.ren_ks]; exact this
   case use =>
    simp only [G.ren,pp]
    refine want_ren hT (word_ren hK (want_ren hT (word_ren hK (want_ren hT ?_))))
    refine ok_word (by decide) (by omega) ?_
    rw [List.map_cons,List.map_nil]
    congr 1
   case defn =>
    simp only [G.ren,pp]
    refine want_ren hT (word_ren hK (then_ren (plain .params _ trivial rfl) fun p j=>then_ren (plain .typed _ trivial rfl) fun t j=>then_ren (plain .block _ trivial rfl) fun b j=>ok_word (by decide) (by omega) rfl))
   case params =>
    simp only [G.ren,pp]
    refine want_ren hT (then_ren (plain (.list .param [41]) _ rfl rfl) fun m j=>ok_plain (by decide) (N.ren_ks _ _))
   case param =>
    simp only [G.ren,pp]
    refine word_ren hK (then_ren (plain .typed _ trivial rfl) fun t j=>ok_word (by decide) (by omega) rfl)
   case typed =>
    simp only [G.ren,pp]
    refine ite_ren (iteT hT _ _) (plain .kind _ trivial rfl) ?_
    rw [PR.ren,N.ren_none]
   case kind =>
    simp only [G.ren,pp]
    refine ite_ren (iteT hT _ _) (ok_plain (ks:=[]) (by decide) rfl) (ite_ren (iteT hT _ _) (ok_plain (ks:=[]) (by decide) rfl) (ite_ren (iteT hT _ _) (ok_plain (ks:=[]) (by decide) rfl) (ite_ren (iteT hT _ _) ?_ ?_)))
    · exact then_ren (plain (.list .tfield [125]) _ rfl rfl) fun m j=>ok_plain (by decide) (N.ren_ks _ _)
    · refine want_ren hT (want_ren hT (then_ren (plain (.list .kind [41]) _ rfl rfl) fun m j=>want_ren hT (then_ren (plain .kind _ trivial rfl) fun t j=>ok_plain (by decide) ?_)))
      rw [N.ren_ks]; simp
   case tfield =>
    simp only [G.ren,pp]
    exact word_ren hK (want_ren hT (then_ren (plain .kind _ trivial rfl) fun t j=>ok_word (by decide) (by omega) rfl))
   case block =>
    simp only [G.ren,pp]
    refine want_ren hT (then_ren ?_ fun m j=>ok_plain (by decide) (N.ren_ks _ _))
    exact ih (.stmts []) _ trivial
   case stmt =>
    simp only [G.ren,pp]
    refine ite_ren (iteT hT _ _) ?_ (ite_ren (iteT hT _ _) ?_ (ite_ren (iteT hT _ _) ?_ (ite_ren (iteT hT _ _) ?_ (ite_ren (iteT hT _ _) ?_ (ite_ren (by rw [hK,hT]) ?_ ?_)))))
    · exact word_ren hK (then_ren (plain .typed _ trivial rfl) fun t j=>want_ren hT (then_ren (plain .expr _ trivial rfl) fun x j=>want_ren hT (ok_word (by decide) (by omega) rfl)))
    · refine then_ren (plain .expr _ trivial rfl) fun c j=>then_ren (plain .block _ trivial rfl) fun b j=>ite_ren (iteT hT _ _) (then_ren (plain .block _ trivial rfl) fun o j=>ok_plain (by decide) rfl) (ok_plain (by decide) ?_)
      simp [N.ren_none]
    · exact then_ren (plain .expr _ trivial rfl) fun c j=>then_ren (plain .block _ trivial rfl) fun b j=>ok_plain (by decide) rfl
    · exact then_ren (plain .expr _ trivial rfl) fun c j=>want_ren hT (ok_plain (by decide) rfl)
    · exact then_ren (plain .expr _ trivial rfl) fun c j=>want_ren hT (ok_plain (by decide) rfl)
    · exact then_ren (plain .expr _ trivial rfl) fun c j=>want_ren hT (ok_word (by decide) (by omega) rfl)
    · exact then_ren (plain .expr _ trivial rfl) fun c j=>want_ren hT (ok_plain (by decide) rfl)
   case expr =>
    simp only [G.ren,pp]
    refine then_ren (plain .sum _ trivial rfl) fun a j=>ite_ren (iteT hT _ _) ?_ (ite_ren (iteT hT _ _) ?_ rfl)
    all_goals rw [N.ren_f]; exact then_ren (plain .sum _ trivial rfl) fun b j=>ok_plain (by decide) rfl
   case sum =>
    simp only [G.ren,pp]
    exact then_ren (plain .term _ trivial rfl) fun a j=>ih (.sumL a) j trivial
   case term =>
    simp only [G.ren,pp]
    exact then_ren (plain .post _ trivial rfl) fun a j=>ih (.termL a) j trivial
   case post =>
    simp only [G.ren,pp]
    exact then_ren (plain .atom _ trivial rfl) fun a j=>ih (.postL a) j trivial
   case atom =>
    simp only [G.ren,pp]
    refine ite_ren (iteK hK _ _) (ok_word (ks:=[]) (by decide) (by omega) rfl) (ite_ren (iteK hK _ _) (ok_word (ks:=[]) (by decide) (by omega) rfl) (ite_ren (iteK hK _ _) (ok_word (ks:=[]) (by decide) (by omega) rfl) (ite_ren (iteT hT _ _) (ok_plain (ks:=[]) (by decide) rfl) (ite_ren (iteT hT _ _) ?_ (ite_ren (iteT hT _ _) ?_ ?_)))))
    · exact then_ren (plain .expr _ trivial rfl) fun c j=>want_ren hT (ok_plain (by decide) rfl)
    · exact then_ren (plain (.list .entry [125]) _ rfl rfl) fun m j=>ok_plain (by decide) (N.ren_ks _ _)
    · exact want_ren hT (then_ren (plain .params _ trivial rfl) fun p j=>then_ren (plain .typed _ trivial rfl) fun t j=>then_ren (plain .block _ trivial rfl) fun b j=>ok_plain (by decide) rfl)
   case entry =>
    simp only [G.ren,pp]
    exact word_ren hK (want_ren hT (then_ren (plain .expr _ trivial rfl) fun t j=>ok_word (by decide) (by omega) rfl))
end
theorem count_idx {α:Type} {p : α→Bool}:∀ {l:List α} {i j:Nat} {x y : α},l.countP p≤1→l[i]?=some x→l[j]?=some y→p x=true→p y=true→i=j
 | [],i,j,x,y,h,hi,_,_,_=>by simp at hi
 | z :: r, i, j, x, y, h, hi, hj, hx, hy => by
   rw [List.countP_cons] at h
   have pos:∀ (k:Nat) (u : α),r[k]?=some u→p u=true→0 < r.countP p:=fun k u hk hu=>List.countP_pos_iff.2 ⟨u,List.mem_of_getElem? hk,hu⟩
   cases i with
   | zero =>
     simp at hi; subst hi
     cases j with
     | zero=>rfl
     | succ j =>
       have:=pos j y (by simpa using hj) hy
       rw [hx,if_pos rfl] at h; omega
   | succ i =>
     cases j with
     | zero =>
       simp at hj; subst hj
       have:=pos i x (by simpa using hi) hx
       rw [hy,if_pos rfl] at h; omega
     | succ j =>
       have:=count_idx (l:=r) (i:=i) (j:=j) (by omega) (by simpa using hi) (by simpa using hj) hx hy
       omega
def Use_ (F:SM) (q:Nat) (t:Int):Prop:=(∃ b,F.bs[q]?=some b∧b.a=t)∨∃ m ∈ F.ms,m.a=t∧m.t=(q:Int)
def SBd.as (b:SBd) (q j:Nat) (name:Bs):SBd:=if j=q then { b with w:=name } else b
structure RS (q:Nat) (name:Bs) (S S2:SM):Prop where
 len:S2.bs.length=S.bs.length
 at_:∀ (j:Nat) (b:SBd),S.bs[j]?=some b→S2.bs[j]?=some (b.as q j name)
 ms:S2.ms=S.ms
 bad:S2.bad=[]
section
variable {TL L':List Tk} {q:Nat} {name:Bs} {F:SM} {lo it:Int}
structure Ren (TL L':List Tk) (q:Nat) (name:Bs) (F:SM):Prop where
 one:∀ t,evB F.bs t+evM F.ms t≤1
 tx:∀ t:Int,0≤t→(Use_ F q t→txT L' t.toNat=name)∧(¬ Use_ F q t→txT L' t.toNat=txT TL t.toNat)
 new:∀ b ∈ F.bs,b.w ≠ name
theorem Ren.men_use (h:Ren TL L' q name F) {m:Mn} (hm:m ∈ F.ms):Use_ F q m.a ↔ m.t=(q:Int):=by
 constructor
 · rintro (⟨b,hb,ha⟩ | ⟨m',hm',ha,ht⟩)
   · have h1:0 < evB F.bs m.a:=List.countP_pos_iff.2 ⟨b,List.mem_of_getElem? hb,by simpa using ha⟩
     have h2:0 < evM F.ms m.a:=List.countP_pos_iff.2 ⟨m,hm,by simp⟩
     have:=h.one m.a; omega
   · obtain ⟨i,hi⟩:=List.mem_iff_getElem?.1 hm
     obtain ⟨j,hj⟩:=List.mem_iff_getElem?.1 hm'
     have hle:F.ms.countP (fun x=>decide (x.a=m.a))≤1:=by have:=h.one m.a; unfold evM at this; omega
     have:=count_idx hle hi hj (by simp) (by simpa using ha)
     subst this
     rw [hi] at hj; cases hj; exact ht
 · intro ht
   exact .inr ⟨m,hm,rfl,ht⟩
theorem Ren.bind_use (h:Ren TL L' q name F) {k:Nat} {b:SBd} (hk:F.bs[k]?=some b):Use_ F q b.a ↔ k=q:=by
 constructor
 · rintro (⟨b',hb,ha⟩ | ⟨m',hm',ha,ht⟩)
   · have hle:F.bs.countP (fun x=>decide (x.a=b.a))≤1:=by have:=h.one b.a; unfold evB at this; omega
     exact count_idx hle hk hb (by simp) (by simpa using ha)
   · have h1:0 < evB F.bs b.a:=List.countP_pos_iff.2 ⟨b,List.mem_of_getElem? hk,by simp⟩
     have h2:0 < evM F.ms b.a:=List.countP_pos_iff.2 ⟨m',hm',by simpa using ha⟩
     have:=h.one b.a; omega
 · rintro rfl
   exact .inl ⟨b,hk,rfl⟩
theorem RS.word {S S2:SM} (h:RS q name S S2) {x:Nm} (h0:0≤x.to) (h1:x.to < S.bs.length):swordR S2.bs x=if x.to=(q:Int) then name else swordR S.bs x:=by
 have hl:x.to.toNat < S.bs.length:=by omega
 have:=h.at_ x.to.toNat _ (List.getElem?_eq_getElem hl)
 unfold swordR
 simp only [List.getD_eq_getElem?_getD,this,List.getElem?_eq_getElem hl,Option.getD_some,SBd.as]
 by_cases e:x.to=(q:Int)
 · rw [if_pos (by omega),if_pos e]
 · rw [if_neg (by omega),if_neg e]
theorem RS.kind {S S2:SM} (h:RS q name S S2) {i:Int} (h0:0≤i) (h1:i < S.bs.length):(S2.bs.getD i.toNat default).k=(S.bs.getD i.toNat default).k:=by
 have hl:i.toNat < S.bs.length:=by omega
 have:=h.at_ i.toNat _ (List.getElem?_eq_getElem hl)
 simp only [List.getD_eq_getElem?_getD,this,List.getElem?_eq_getElem hl,Option.getD_some,SBd.as]
 split<;>rfl
theorem look_ren {S S2:SM} (h:RS q name S S2) (hn:∀ b ∈ S.bs,b.w ≠ name) {w:Bs} (hw:w ≠ name):∀ {M:List Nm} {far i f:Int},(∀ x ∈ M,x.beg=false→0≤x.to∧x.to < S.bs.length)→lookR S.bs w M far=some (i,f) →
 lookR S2.bs (if i=(q:Int) then name else w) M far=some (i,f)
 | [],far,i,f,_,h=>by cases h
 | x :: r, far, i, f, hM, hl => by
   simp only [lookR] at hl ⊢
   split at hl
   · rename_i hb
     rw [if_pos hb]
     exact look_ren h hn hw (fun y hy=>hM y (by simp [hy])) hl
   · rename_i hb
     rw [if_neg hb]
     obtain ⟨x0,x1⟩:=hM x (by simp) (by simpa using hb)
     have hwx:=h.word x0 x1
     have hxn:swordR S.bs x ≠ name:=by
      have hl:x.to.toNat < S.bs.length:=by omega
      have:=hn _ (List.getElem_mem hl)
      unfold swordR
      simpa [List.getD_eq_getElem?_getD,List.getElem?_eq_getElem hl] using this
     split at hl
     · rename_i hwx'
       cases hl
       rw [hwx,hwx']
       simp
     · rename_i hwx'
       have ih:=look_ren h hn hw (fun y hy=>hM y (by simp [hy])) hl
       rw [hwx]
       by_cases hxq:x.to=(q:Int)
       · rw [if_pos hxq]
         by_cases hiq:i=(q:Int)
         · exfalso
           obtain ⟨y,hy,hyb,hyi,hyw⟩:=lookR_mem hl
           exact hwx' (by unfold swordR at hyw ⊢; rw [hxq,← hiq,← hyi]; exact hyw)
         · rw [if_neg hiq] at ih ⊢
           rw [if_neg (fun e=>hw e.symm)]
           exact ih
       · rw [if_neg hxq]
         by_cases hiq:i=(q:Int)
         · rw [if_pos hiq] at ih ⊢
           rw [if_neg hxn]; exact ih
         · rw [if_neg hiq] at ih ⊢
           rw [if_neg hwx']; exact ih
theorem dup_ren {S S2:SM} (h:RS q name S S2) (hn:∀ b ∈ S.bs,b.w ≠ name) {w w2:Bs} (hw:w ≠ name):∀ {M:List Nm},(∀ x ∈ M,x.beg=false→0≤x.to∧x.to < S.bs.length)→dupR S.bs w M=false→(w2=w∨(w2=name∧∀ x ∈ M,x.beg=false→x.to ≠ (q:Int)))→dupR S2.bs w2 M=false
 | [],_,_,_=>rfl
 | x :: r, hM, hd, h2 => by
   simp only [dupR] at hd ⊢
   split at hd
   · rename_i hb; rw [if_pos hb]
   · rename_i hb
     rw [if_neg hb]
     obtain ⟨x0,x1⟩:=hM x (by simp) (by simpa using hb)
     have hwx:=h.word x0 x1
     have hxn:swordR S.bs x ≠ name:=by
      have hl:x.to.toNat < S.bs.length:=by omega
      have:=hn _ (List.getElem_mem hl)
      unfold swordR
      simpa [List.getD_eq_getElem?_getD,List.getElem?_eq_getElem hl] using this
     split at hd
     · cases hd
     · rename_i hwx'
       have ih:=dup_ren (w2:=w2) h hn hw (fun y hy=>hM y (by simp [hy])) hd (h2.imp id fun ⟨a,b⟩=>⟨a,fun y hy=>b y (by simp [hy])⟩)
       rw [if_neg,ih]
       rw [hwx]
       rcases h2 with rfl | ⟨rfl,hq⟩
       · split
         · exact fun e=>hw e.symm
         · exact hwx'
       · rw [if_neg (hq x (by simp) (by simpa using hb))]
         exact hxn
theorem prefix_bad {S S':SM} (h:S'.bad=[]) {nd:List (Int × Int)} (e:S'.bad=S.bad++nd):S.bad=[]∧nd=[]:=by
 rw [h] at e
 have:=e.symm
 simpa using this
theorem ren_men (hR:Ren TL L' q name F) {S S2:SM} {M:List Nm} {b:Int} (hrs:RS q name S S2) (hs:InSight S.bs lo b it M) (n:N) (hw:SWd TL n.w n.at_) (hk:hasW n.k=true) (wr:Bool)
 (hb:(S.men n wr (findR S.bs n.w M)).bad=[]) (hbs:∃ r,F.bs=S.bs++r) (hms:∃ r,F.ms=(S.men n wr (findR S.bs n.w M)).ms++r) (hnw:n.w ≠ name) :
 RS q name (S.men n wr (findR S.bs n.w M)) (S2.men (n.ren L') wr (findR S2.bs (n.ren L').w M)):=by
 have hn:∀ b ∈ S.bs,b.w ≠ name:=fun b hb=>hR.new b (by obtain ⟨r,hr⟩:=hbs; rw [hr]; simp [hb])
 have hM:∀ x ∈ M,x.beg=false→0≤x.to∧x.to < S.bs.length:=fun x hx hbg=>⟨(hs x hx hbg).1,(hs x hx hbg).2.1⟩
 have hrw:(n.ren L').w=txT L' n.at_.toNat:=by
  cases n with
  | mk k f t w a z ks=>rw [N.ren_mk]; simp only [N.k] at hk; simp [N.w,N.at_,hk]
 cases hl:lookR S.bs n.w M 0 with
 | none =>
   exfalso
   have hf:findR S.bs n.w M=(-1,0):=by unfold findR; rw [hl]
   rw [hf] at hb
   simp [SM.men] at hb
 | some p =>
   obtain ⟨i,f⟩:=p
   obtain ⟨x,hx,hxb,rfl,-⟩:=lookR_mem hl
   obtain ⟨x0,x1⟩:=hM x hx hxb
   have hf:findR S.bs n.w M=(x.to,if (S.bs.getD x.to.toNat default).k < 3 then 0 else f):=by
    unfold findR; rw [hl]; simp only; split<;>rfl
   have hm:(⟨n.at_,x.to,wr,if (S.bs.getD x.to.toNat default).k < 3 then 0 else f⟩:Mn) ∈ F.ms:=by
    obtain ⟨r,hr⟩:=hms
    rw [hr,hf]
    simp [SM.men]
   have hu:=hR.men_use hm
   simp only at hu
   have hw2:(n.ren L').w=if x.to=(q:Int) then name else n.w:=by
    rw [hrw]
    by_cases e:x.to=(q:Int)
    · rw [if_pos e]; exact (hR.tx n.at_ hw.1).1 (hu.2 e)
    · rw [if_neg e,hw.2.1]; exact (hR.tx n.at_ hw.1).2 fun h=>e (hu.1 h)
   have hl2:=look_ren hrs hn hnw hM hl
   rw [← hw2] at hl2
   have hf2:findR S2.bs (n.ren L').w M=findR S.bs n.w M:=by
    rw [hf]
    unfold findR; rw [hl2]
    simp only [hrs.kind x0 x1]
    split<;>rfl
   refine ⟨hrs.len,hrs.at_,?_,?_⟩
   · rw [hf2]; simp only [SM.men,N.ren_at,hrs.ms]
   · rw [hf2]
     rw [hf] at hb ⊢
     simp only [SM.men,N.ren_at] at hb ⊢
     rw [if_neg (by omega)] at hb ⊢
     rw [hrs.kind x0 x1]
     split at hb
     · simp at hb
     · rename_i h1; rw [if_neg h1]; exact hrs.bad
theorem ren_bind (hR:Ren TL L' q name F) {S S2:SM} {M:List Nm} (hrs:RS q name S S2) (hM:∀ x ∈ M,x.beg=false→0≤x.to∧x.to < S.bs.length) (n:N) (hw:SWd TL n.w n.at_) (hk:hasW n.k=true) (kind item:Int)
 (hb:(bindR kind item n M S).2.bad=[]) (hbs:∃ r,F.bs=(bindR kind item n M S).2.bs++r) (hnw:n.w ≠ name) :
 RS q name (bindR kind item n M S).2 (bindR kind item (n.ren L') M S2).2∧(bindR kind item (n.ren L') M S2).1=(bindR kind item n M S).1:=by
 obtain ⟨r,hr⟩:=hbs
 simp only [bindR,SM.bind] at hr hb ⊢
 have hn:∀ b ∈ S.bs,b.w ≠ name:=fun b hb=>hR.new b (by rw [hr]; simp [hb])
 have hrw:(n.ren L').w=txT L' n.at_.toNat:=by
  cases n with
  | mk k f t w a z ks=>rw [N.ren_mk]; simp only [N.k] at hk; simp [N.w,N.at_,hk]
 have hF:F.bs[S.bs.length]?=some ⟨n.at_,kind,n.w,item⟩:=by rw [hr]; simp
 have hu:=hR.bind_use hF
 simp only at hu
 have hw2:(n.ren L').w=if S.bs.length=q then name else n.w:=by
  rw [hrw]
  by_cases e:S.bs.length=q
  · rw [if_pos e]; exact (hR.tx n.at_ hw.1).1 (hu.2 e)
  · rw [if_neg e,hw.2.1]; exact (hR.tx n.at_ hw.1).2 fun h=>e (hu.1 h)
 have hd:dupR S.bs n.w M=false:=by
  cases hdd:dupR S.bs n.w M with
  | false=>rfl
  | true=>rw [hdd] at hb; simp at hb
 have hd2:dupR S2.bs (n.ren L').w M=false:=by
  refine dup_ren hrs hn hnw hM hd ?_
  rw [hw2]
  by_cases e:S.bs.length=q
  · rw [if_pos e]; exact .inr ⟨rfl,fun x hx hxb=>by have:=(hM x hx hxb).2; omega⟩
  · rw [if_neg e]; exact .inl rfl
 refine ⟨⟨?_,fun j b hj => ?_,hrs.ms,?_⟩,by rw [hrs.len]⟩
 · simp [hrs.len]
 · simp only at hj ⊢
   by_cases hjl:j < S.bs.length
   · rw [List.getElem?_append_left hjl] at hj
     rw [List.getElem?_append_left (by rw [hrs.len]; exact hjl)]
     exact hrs.at_ j b hj
   · rw [List.getElem?_append_right (by omega)] at hj
     rw [List.getElem?_append_right (by rw [hrs.len]; omega),hrs.len]
     have hj0:j - S.bs.length=0:=by
      have:=(List.getElem?_eq_some_iff.1 hj).1
      simp at this; omega
     rw [hj0] at hj ⊢
     simp at hj ⊢
     subst hj
     have hjq:j=S.bs.length:=by omega
     simp only [SBd.as,N.ren_at,hw2,hjq]
     split<;>rfl
 · simp only [hd2]; exact hrs.bad
theorem ren_binds (hR:Ren TL L' q name F):∀ (l:List N) {b e:Int} {S S2:SM} {M:List Nm},ScP TL l b e→lo≤b→InSight S.bs lo b it M→RS q name S S2→(∀ i,txT TL i ≠ name) →
 (bindsR it l M S).2.bad=[]→(∃ r,F.bs=(bindsR it l M S).2.bs++r)→RS q name (bindsR it l M S).2 (bindsR it (l.map (N.ren L')) M S2).2∧(bindsR it (l.map (N.ren L')) M S2).1=(bindsR it l M S).1
 | [],b,e,S,S2,M,h,hl,hi,hrs,hne,hb,hbs=>⟨hrs,rfl⟩
 | n :: r, b, e, S, S2, M, h, hl, hi, hrs, hne, hb, hbs => by
   obtain ⟨h0,h1,h2,h3⟩:=h
   obtain ⟨a1,a2⟩:=Went.bind hi n (by omega) h2 (kind:=3) (by decide) (e:=n.at_+1) (by omega) (by omega)
   obtain ⟨b1,-⟩:=Went.binds r h3 (by omega) a2
   obtain ⟨nb,nm,nd,e1,e2,e3,-⟩:=b1.ex
   simp only [bindsR] at hb hbs ⊢
   obtain ⟨c1,c2⟩:=ren_bind hR hrs (fun x hx hxb=>⟨(hi x hx hxb).1,(hi x hx hxb).2.1⟩) n h2 (by rw [h0]; rfl) 3 it (prefix_bad hb e3).1 (by obtain ⟨r',hr'⟩:=hbs; exact ⟨nb++r',by rw [hr',e1,List.append_assoc]⟩) (by rw [h2.2.1]; exact hne _)
   have:=ren_binds hR r h3 (by omega) a2 c1 hne hb hbs
   simp only [List.map_cons,bindsR]
   rw [c2]; exact this
def RenN (TL L':List Tk) (q:Nat) (name:Bs) (F:SM) (lo it:Int) (n:N):Prop:=∀ (b e:Int) (S S2:SM) (M:List Nm),Sc TL n b e→lo≤b→InSight S.bs lo b it M→RS q name S S2→(nodeR it n M S).2.bad=[]→(∃ r,F.bs=(nodeR it n M S).2.bs++r)→(∃ r,F.ms=(nodeR it n M S).2.ms++r) →
 RS q name (nodeR it n M S).2 (nodeR it (n.ren L') M S2).2∧(nodeR it (n.ren L') M S2).1=(nodeR it n M S).1
theorem ren_kids {ks:List N} (ih:∀ p ∈ ks,RenN TL L' q name F lo it p):∀ (b e:Int) (S S2:SM) (M:List Nm),ScS TL ks b e→lo≤b→InSight S.bs lo b it M→RS q name S S2→(kidsR it ks M S).2.bad=[]→(∃ r,F.bs=(kidsR it ks M S).2.bs++r)→(∃ r,F.ms=(kidsR it ks M S).2.ms++r) →
 RS q name (kidsR it ks M S).2 (kidsR it (ks.map (N.ren L')) M S2).2∧(kidsR it (ks.map (N.ren L')) M S2).1=(kidsR it ks M S).1:=by
 induction ks with
 | nil=>intro b e S S2 M h hl hi hrs hb hbs hms; rw [List.map_nil,kidsR_nil,kidsR_nil]; exact ⟨hrs,rfl⟩
 | cons n r ih2 =>
   intro b e S S2 M h hl hi hrs hb hbs hms
   rw [ScS_cons] at h
   obtain ⟨m,h1,h2⟩:=h
   obtain ⟨a1,a2⟩:=went (TL:=TL) n b m S M h1 hl hi
   have:=h1.le
   obtain ⟨b1,-⟩:=went_kids (TL:=TL) (lo:=lo) (it:=it) (fun p _=>went p) m e _ _ h2 (by omega) a2
   obtain ⟨nb,nm,nd,e1,e2,e3,-⟩:=b1.ex
   rw [kidsR_cons] at hb hbs hms ⊢
   rw [List.map_cons,kidsR_cons]
   obtain ⟨c1,c2⟩:=ih n (by simp) b m S S2 M h1 hl hi hrs (prefix_bad hb e3).1 (by obtain ⟨r',hr'⟩:=hbs; exact ⟨nb++r',by rw [hr',e1,List.append_assoc]⟩) (by obtain ⟨r',hr'⟩:=hms; exact ⟨nm++r',by rw [hr',e2,List.append_assoc]⟩)
   rw [c2]
   exact ih2 (fun p hp=>ih p (by simp [hp])) m e _ _ _ h2 (by omega) a2 c1 hb hbs hms
theorem ren_closed {ks:List N} (ih:∀ p ∈ ks,RenN TL L' q name F lo it p) (hR:Ren TL L' q name F) (hne:∀ i,txT TL i ≠ name) {b e:Int} {S S2:SM} {M:List Nm} (h:ScC TL ks b e) (hl:lo≤b) (hi:InSight S.bs lo b it M) (lam:Bool) (hrs:RS q name S S2)
 (hb:(sclosedR it ks M lam S).bad=[]) (hbs:∃ r,F.bs=(sclosedR it ks M lam S).bs++r) (hms:∃ r,F.ms=(sclosedR it ks M lam S).ms++r):RS q name (sclosedR it ks M lam S) (sclosedR it (ks.map (N.ren L')) M lam S2):=by
 obtain ⟨p,q',c,m,rfl,h1,h2⟩:=ScC_inv h
 simp only [List.map_cons,List.map_nil]
 rw [sclosedR_three] at hb hbs hms ⊢
 rw [sclosedR_three,N.ren_ks]
 obtain ⟨a1,a2⟩:=Went.binds p.ks h1 hl (hi.beg lam)
 have:=h1.le
 obtain ⟨b1,-⟩:=went (TL:=TL) (lo:=lo) (it:=it) c m e _ _ h2 (by omega) a2
 obtain ⟨nb,nm,nd,e1,e2,e3,-⟩:=b1.ex
 obtain ⟨c1,c2⟩:=ren_binds hR p.ks h1 hl (hi.beg lam) hrs hne (prefix_bad hb e3).1 (by obtain ⟨r',hr'⟩:=hbs; exact ⟨nb++r',by rw [hr',e1,List.append_assoc]⟩)
 rw [c2]
 exact (ih c (by simp) m e _ _ _ h2 (by omega) a2 c1 hb hbs hms).1
theorem ren_node (hR:Ren TL L' q name F) (hne:∀ i,txT TL i ≠ name) (n:N):RenN TL L' q name F lo it n:=by
 induction n using N.ind with
 | h k f t w a z ks ih =>
 intro b e S S2 M h hl hi hrs hb hbs hms
 rw [Sc_mk] at h
 rw [N.ren_mk]
 rw [nodeR_mk] at hb hbs hms ⊢
 rw [nodeR_mk]
 by_cases h78:k=7∨k=8
 · rw [if_pos h78] at h
   obtain ⟨h1,h2,h3⟩:=h
   have hle:=h3.le
   rcases h78 with rfl | rfl
   · rw [if_neg (by decide),if_pos rfl] at hb hbs hms ⊢
     rw [if_neg (by decide),if_pos rfl]
     obtain ⟨a1,a2⟩:=went_kids (TL:=TL) (lo:=lo) (it:=it) (fun p _=>went p) (a+1) e S M h3 (by omega) (hi.mono (by omega))
     have hbad:(kidsR it ks M S).2.bad=[]:=by
      simp only [bindR,SM.bind] at hb
      split at hb
      · simp at hb
      · exact hb
     obtain ⟨c1,c2⟩:=ren_kids ih (a+1) e S S2 M h3 (by omega) (hi.mono (by omega)) hrs hbad (by obtain ⟨r',hr'⟩:=hbs; exact ⟨_,by rw [hr']; simp only [bindR,SM.bind,List.append_assoc]; rfl⟩) hms
     rw [c2]
     have:=ren_bind hR c1 (fun x hx hxb=>⟨(a2 x hx hxb).1,(a2 x hx hxb).2.1⟩) (.mk 7 f t w a z ks) h1 rfl 4 it hb hbs (by show w ≠ name; rw [h1.2.1]; exact hne _)
     rw [N.ren_mk] at this
     exact this
   · rw [if_neg (by decide),if_neg (by decide),if_pos rfl] at hb hbs hms ⊢
     rw [if_neg (by decide),if_neg (by decide),if_pos rfl]
     have hs':InSight (S.men (.mk 8 f t w a z ks) true (findR S.bs w M)).bs lo (a+1) it M:=InSight.mono (b:=b) (by rw [men_bs]; exact hi) (by omega)
     obtain ⟨b1,b2⟩:=went_kids (TL:=TL) (lo:=lo) (it:=it) (fun p _=>went p) (a+1) e _ M h3 (by omega) hs'
     obtain ⟨nb,nm,nd,e1,e2,e3,-⟩:=b1.ex
     have c1:=ren_men hR hrs hi (.mk 8 f t w a z ks) h1 rfl true (prefix_bad hb e3).1 (by obtain ⟨r',hr'⟩:=hbs; exact ⟨nb++r',by rw [hr',e1,men_bs,List.append_assoc]⟩) (by obtain ⟨r',hr'⟩:=hms; exact ⟨nm++r',by rw [hr',e2,List.append_assoc]; rfl⟩) (by show w ≠ name; rw [h1.2.1]; exact hne _)
     rw [N.ren_mk] at c1
     exact ren_kids ih (a+1) e _ _ M h3 (by omega) hs' c1 hb hbs hms
 rw [if_neg h78] at h
 by_cases h23:k=23
 · rw [if_pos h23] at h
   subst h23
   obtain ⟨h1,h2,h3⟩:=h
   rw [if_neg (by decide),if_neg (by decide),if_neg (by decide),if_pos rfl] at hb hbs hms ⊢
   rw [if_neg (by decide),if_neg (by decide),if_neg (by decide),if_pos rfl]
   have c1:=ren_men hR hrs hi (.mk 23 f t w a z ks) h1 rfl false hb hbs hms (by show w ≠ name; rw [h1.2.1]; exact hne _)
   rw [N.ren_mk] at c1
   exact ⟨c1,rfl⟩
 rw [if_neg h23] at h
 by_cases h28:k=28
 · rw [if_pos h28] at h
   subst h28
   rw [if_neg (by decide),if_neg (by decide),if_neg (by decide),if_neg (by decide),if_pos rfl] at hb hbs hms ⊢
   rw [if_neg (by decide),if_neg (by decide),if_neg (by decide),if_neg (by decide),if_pos rfl]
   exact ⟨ren_closed ih hR hne h hl hi true hrs hb hbs hms,rfl⟩
 rw [if_neg h28] at h
 by_cases h6:k=6
 · subst h6
   rw [if_pos rfl] at hb hbs hms ⊢
   rw [if_pos rfl]
   exact ⟨(ren_kids ih b e S S2 _ h hl (hi.beg false) hrs hb hbs hms).1,rfl⟩
 · rw [if_neg h6,if_neg (by omega),if_neg (by omega),if_neg h23,if_neg h28] at hb hbs hms ⊢
   rw [if_neg h6,if_neg (by omega),if_neg (by omega),if_neg h23,if_neg h28]
   exact ren_kids ih b e S S2 M h hl hi hrs hb hbs hms
theorem ren_tops (hR:Ren TL L' q name F) (hne:∀ i,txT TL i ≠ name):∀ (l:List N) {b e:Int} (i:Int) {S S2:SM} {M:List Nm},ItS TL l b e→0≤i→(∀ x ∈ M,x.beg=false∧0≤x.to∧x.to < S.bs.length∧(bAt S.bs x.to).k < 3)→RS q name S S2 →
 (topsR i l M S).2.bad=[]→(∃ r,F.bs=(topsR i l M S).2.bs++r)→RS q name (topsR i l M S).2 (topsR i (l.map (N.ren L')) M S2).2∧(topsR i (l.map (N.ren L')) M S2).1=(topsR i l M S).1
 | [],b,e,i,S,S2,M,h,hi,hM,hrs,hb,hbs=>⟨hrs,rfl⟩
 | n :: r, b, e, i, S, S2, M, h, hi, hM, hrs, hb, hbs => by
   have hk:n.k=2∨n.k=3:=by rcases h.1.is with ⟨h,-⟩ | ⟨h,-⟩<;>simp [h]
   have hstep:topsR i (n :: r) M S=topsR (i+1) r (bindR (n.k - 1) i n M S).1 (bindR (n.k - 1) i n M S).2:=by
    rcases hk with hk | hk
    · simp only [topsR,hk,if_true]; rfl
    · simp only [topsR,hk,if_true]; rfl
   have hstep2:topsR i ((n :: r).map (N.ren L')) M S2=topsR (i+1) (r.map (N.ren L')) (bindR (n.k - 1) i (n.ren L') M S2).1 (bindR (n.k - 1) i (n.ren L') M S2).2:=by
    rcases hk with hk | hk
    · simp only [List.map_cons,topsR,N.ren_k,hk,if_true]; rfl
    · simp only [List.map_cons,topsR,N.ren_k,hk,if_true]; rfl
   have hM':∀ x ∈ (bindR (n.k - 1) i n M S).1,x.beg=false∧0≤x.to∧x.to < (bindR (n.k - 1) i n M S).2.bs.length∧(bAt (bindR (n.k - 1) i n M S).2.bs x.to).k < 3:=fun x hx=>by
    simp only [bindR] at hx ⊢
    rcases List.mem_cons.1 hx with rfl | hx
    · have hg:bAt (S.bs++[⟨n.at_,n.k - 1,n.w,i⟩]) (S.bs.length:Int)=⟨n.at_,n.k - 1,n.w,i⟩:=by simp [bAt]
      simp only [SM.bind,hg]
      exact ⟨trivial,by omega,by simp; omega,by omega⟩
    · obtain ⟨h1,h2,h3,h4⟩:=hM x hx
      simp only [SM.bind,bAt_app h2 h3]
      exact ⟨h1,h2,by simp; omega,h4⟩
   rw [hstep] at hb hbs ⊢
   rw [hstep2]
   obtain ⟨nb,nd,a1,-⟩:=tops_walk r (i+1) _ _ h.2 (by omega) hM'
   have e1:(topsR (i+1) r (bindR (n.k - 1) i n M S).1 (bindR (n.k - 1) i n M S).2).2.bs=(bindR (n.k - 1) i n M S).2.bs++nb:=by rw [a1]
   have e3:(topsR (i+1) r (bindR (n.k - 1) i n M S).1 (bindR (n.k - 1) i n M S).2).2.bad=(bindR (n.k - 1) i n M S).2.bad++nd:=by rw [a1]
   obtain ⟨c1,c2⟩:=ren_bind hR hrs (fun x hx hxb=>⟨(hM x hx).2.1,(hM x hx).2.2.1⟩) n h.1.wd (by rcases hk with hk | hk<;>rw [hk]<;>rfl) (n.k - 1) i (prefix_bad hb e3).1 (by obtain ⟨r',hr'⟩:=hbs; exact ⟨nb++r',by rw [hr',e1,List.append_assoc]⟩) (by rw [h.1.wd.2.1]; exact hne _)
   rw [c2]
   exact ren_tops hR hne r (i+1) h.2 (by omega) hM' c1 hb hbs
theorem ren_defs (hR:Ren TL L' q name F) (hne:∀ i,txT TL i ≠ name) {M:List Nm}:∀ (l:List N) {b e:Int} (i:Nat) {S S2:SM},ItS TL l b e→(∀ x ∈ M,x.beg=false∧0≤x.to∧x.to < S.bs.length∧(bAt S.bs x.to).k < 3)→RS q name S S2 →
 (defsR M i l S).bad=[]→(∃ r,F.bs=(defsR M i l S).bs++r)→(∃ r,F.ms=(defsR M i l S).ms++r)→RS q name (defsR M i l S) (defsR M i (l.map (N.ren L')) S2)
 | [],b,e,i,S,S2,h,hM,hrs,hb,hbs,hms=>hrs
 | n :: r, b, e, i, S, S2, h, hM, hrs, hb, hbs, hms => by
   have hcast:((i+1:Nat):Int)=(i:Int)+1:=by omega
   simp only [List.map_cons,defsR,N.ren_k,N.ren_ks] at hb hbs hms ⊢
   rw [← hcast] at hb hbs hms ⊢
   rcases h.1.is with ⟨k2,-⟩ | ⟨k3,hc⟩
   · rw [if_neg (by omega)] at hb hbs hms ⊢
     rw [if_neg (by omega)]
     exact ren_defs hR hne r (i+1) h.2 hM hrs hb hbs hms
   · rw [if_pos k3] at hb hbs hms ⊢
     rw [if_pos k3]
     have hS:InSight S.bs (n.at_+1) (n.at_+1) i M:=fun x hx hb=>by
      obtain ⟨-,h2,h3,h4⟩:=hM x hx
      exact ⟨h2,h3,.inl h4⟩
     have hw:=went_closed (TL:=TL) (ks:=n.ks) (fun p _=>went p) hc (Int.le_refl _) hS false
     obtain ⟨nb1,nm1,nd1,b1,b2,b3,-⟩:=hw.ex
     have hM':∀ x ∈ M,x.beg=false∧0≤x.to∧x.to < (sclosedR i n.ks M false S).bs.length∧(bAt (sclosedR i n.ks M false S).bs x.to).k < 3:=fun x hx=>by
      obtain ⟨h1,h2,h3,h4⟩:=hM x hx
      rw [b1,bAt_app h2 h3]
      exact ⟨h1,h2,by simp; omega,h4⟩
     obtain ⟨nb,nm,nd,a1,-⟩:=defs_walk (TL:=TL) (ks:=List.replicate (i+1) n++r) r (i+1) _ h.2 (fun j x hx=>by rw [List.getElem?_append_right (by simp)]; simpa using hx) hM'
     have e1:(defsR M (i+1:Nat) r (sclosedR i n.ks M false S)).bs=(sclosedR i n.ks M false S).bs++nb:=by rw [a1]
     have e2:(defsR M (i+1:Nat) r (sclosedR i n.ks M false S)).ms=(sclosedR i n.ks M false S).ms++nm:=by rw [a1]
     have e3:(defsR M (i+1:Nat) r (sclosedR i n.ks M false S)).bad=(sclosedR i n.ks M false S).bad++nd:=by rw [a1]
     have c1:=ren_closed (fun p _=>ren_node hR hne p) hR hne hc (Int.le_refl _) hS false hrs (prefix_bad hb e3).1 (by obtain ⟨r',hr'⟩:=hbs; exact ⟨nb++r',by rw [hr',e1,List.append_assoc]⟩) (by obtain ⟨r',hr'⟩:=hms; exact ⟨nm++r',by rw [hr',e2,List.append_assoc]⟩)
     exact ren_defs hR hne r (i+1) h.2 hM' c1 hb hbs hms
theorem ren_all {n:N} {e:Int} (h:ItS TL n.ks 0 e) (hR:Ren TL L' q name (allR n)) (hne:∀ i,txT TL i ≠ name) (hb:(allR n).bad=[]):RS q name (allR n) (allR (n.ren L')):=by
 obtain ⟨nb,nd,a1,a2,a3,a4,a5,a6⟩:=tops_walk n.ks 0 ⟨[],[],[]⟩ [] h (Int.le_refl _) (by simp)
 simp only [List.nil_append] at a1 a6
 have hM:∀ x ∈ (topsR 0 n.ks [] ⟨[],[],[]⟩).1,x.beg=false∧0≤x.to∧x.to < (topsR 0 n.ks [] ⟨[],[],[]⟩).2.bs.length∧(bAt (topsR 0 n.ks [] ⟨[],[],[]⟩).2.bs x.to).k < 3:=by rw [a1]; exact a6
 obtain ⟨nb1,nm1,nd1,b1,-⟩:=defs_walk (ks:=n.ks) n.ks 0 _ h (fun j x hx=>by rw [Nat.zero_add]; exact hx) hM
 have b1':allR n=_:=b1
 have hb0:(topsR 0 n.ks [] ⟨[],[],[]⟩).2.bad=[]:=(prefix_bad (nd:=nd1) hb (by rw [b1'])).1
 have c:=ren_tops hR hne n.ks 0 (M:=[]) (S:=⟨[],[],[]⟩) (S2:=⟨[],[],[]⟩) h (Int.le_refl _) (by simp) ⟨rfl,by simp,rfl,rfl⟩ hb0 ⟨nb1,by rw [b1']⟩
 have d:=ren_defs hR hne (M:=(topsR 0 n.ks [] ⟨[],[],[]⟩).1) n.ks 0 h hM c.1 hb ⟨[],by simp [allR]⟩ ⟨[],by simp [allR]⟩
 have e:allR (n.ren L')=defsR (topsR 0 (n.ks.map (N.ren L')) [] ⟨[],[],[]⟩).1 0 (n.ks.map (N.ren L')) (topsR 0 (n.ks.map (N.ren L')) [] ⟨[],[],[]⟩).2:=by unfold allR; rw [N.ren_ks]
 rw [e,c.2]
 exact d
end
end Go.Zam
namespace Go.Zam
section
theorem parseO_file {s:Bs} (h:(parseO s).2.2.1=0):∃ (m:N) (j:Nat),(parseO s).1=(lexS s).1∧(parseO s).2.1=m∧parseF (lexS s).1 = .ok m j∧m.depth≤60∧(lexS s).2.1=0∧ItS (lexS s).1 m.ks 0 j∧j≤(lexS s).1.length∧parseP (lexS s).1=(m,0,0):=by
 unfold parseO at h ⊢
 by_cases h1:(lexS s).2.1=0
 · rw [if_neg (by simp [h1])] at h ⊢
   by_cases h2:(parseP (lexS s).1).2.1=0
   · rw [if_neg (by simp [h2])] at h ⊢
     have hp:parseP (lexS s).1=parseP (lexS s).1:=rfl
     conv at h2=>lhs; unfold parseP
     conv at hp=>rhs; unfold parseP
     split at h2
     · simp at h2
     · rename_i hc
       rw [if_neg hc] at hp
       cases hF:parseF (lexS s).1 with
       | out=>rw [hF] at h2; simp at h2
       | bad q=>rw [hF] at h2; simp at h2
       | ok m j =>
         rw [hF] at h2 hp
         simp only at h2 hp
         split at h2
         · simp at h2
         · rename_i hd
           rw [if_neg hd] at hp
           have hs:=pp_scope (L:=(lexS s).1) (16 * (lexS s).1.length+8) (.file []) 0 trivial
           have ha:=pp_adv (L:=(lexS s).1) (16 * (lexS s).1.length+8) (.file []) 0
           have hF2:=hF
           unfold parseF at hF2
           rw [hF2] at hs ha
           obtain ⟨-,-,a3⟩:=ha
           refine ⟨m,j,rfl,by rw [hp],rfl,by omega,h1,hs (Int.le_refl _),?_,hp⟩
           by_cases hj:0 < j
           · exact a3 hj
           · omega
   · rw [if_pos (by simpa using h2)] at h
     exact absurd h h2
 · rw [if_pos (by simpa using h1)] at h
   exact absurd h h1
def usesL (S:SM) (i:Nat):List Int:=(bAt S.bs i).a :: (S.ms.filter fun m=>decide (m.t=(i:Int))).map Mn.a
section
variable {TL:List Tk} {n:N} {e:Int} {S:SM}
theorem Named.item (h:Named TL n e S) (hI:ItS TL n.ks 0 e) {j:Nat} {b:SBd} (hb:S.bs[j]?=some b):∃ (i:Nat) (x:N),n.ks[i]?=some x∧b.i=i∧x.f≤b.a∧b.a < x.t∧SWd TL b.w b.a∧((b.k≤2∧i=j∧b.a=x.at_∧b.k=x.k - 1∧b.w=x.w)∨(3≤b.k∧b.k≤4∧x.k=3∧n.ks.length≤j)):=by
 by_cases hj:j < n.ks.length
 · have hx:=List.getElem?_eq_getElem hj
   have:=h.tops j _ hx
   rw [hb] at this
   cases this
   obtain ⟨g,-⟩:=hI.get j _ hx
   refine ⟨j,_,hx,rfl,g.lo,g.hi,g.wd,.inl ⟨?_,rfl,rfl,rfl,rfl⟩⟩
   rcases g.is with ⟨h,-⟩ | ⟨h,-⟩<;>simp only [h]<;>omega
 · obtain ⟨i,x,h1,h2,h3,h4,h5,h6,h7,h8⟩:=(h.locs j b hb (by omega)).ex
   obtain ⟨g,-⟩:=hI.get i _ h1
   have:=g.lo
   exact ⟨i,x,h1,h5,by omega,h4,h8,.inr ⟨h6,h7,h2,by omega⟩⟩
theorem Named.uses_in (h:Named TL n e S) (hI:ItS TL n.ks 0 e) {j:Nat} (hj:j < S.bs.length) {t:Int} (ht:t ∈ usesL S j):0≤t∧t < e∧0 < evB S.bs t+evM S.ms t:=by
 have hpos:0 < evB S.bs t+evM S.ms t:=by
  unfold usesL at ht
  rcases List.mem_cons.1 ht with rfl | ht
  · have:0 < evB S.bs (bAt S.bs j).a:=List.countP_pos_iff.2 ⟨bAt S.bs j,by unfold bAt; rw [Int.toNat_natCast,List.getD_eq_getElem?_getD,List.getElem?_eq_getElem hj]; exact List.getElem_mem hj,by simp⟩
    omega
  · obtain ⟨m,hm,rfl⟩:=List.mem_map.1 ht
    have:0 < evM S.ms m.a:=List.countP_pos_iff.2 ⟨m,(List.mem_filter.1 hm).1,by simp⟩
    omega
 have:=h.once t
 obtain ⟨a,b⟩:=ind_pos (b:=0) (e:=e) (t:=t) (by omega)
 exact ⟨a,b,hpos⟩
theorem Named.uses_kd (h:Named TL n e S) (hI:ItS TL n.ks 0 e) {j:Nat} (hj:j < S.bs.length) {t:Int} (ht:t ∈ usesL S j):kdT TL t.toNat=1:=by
 unfold usesL at ht
 rcases List.mem_cons.1 ht with rfl | ht
 · have hb:S.bs[j]?=some (bAt S.bs j):=by unfold bAt; rw [Int.toNat_natCast,List.getD_eq_getElem?_getD,List.getElem?_eq_getElem hj]; rfl
   obtain ⟨i,x,-,-,-,-,hw,-⟩:=h.item hI hb
   exact hw.2.2
 · obtain ⟨m,hm,rfl⟩:=List.mem_map.1 ht
   exact (h.ms m (List.mem_filter.1 hm).1).kd
theorem count_uses (S:SM) (k:Nat) (hk:k < S.bs.length) (t:Int):(usesL S k).count t=(if (bAt S.bs k).a=t then 1 else 0)+S.ms.countP fun m=>decide (m.t=(k:Int)) && decide (m.a=t):=by
 unfold usesL
 rw [List.count_cons,List.count,List.countP_map,List.countP_filter]
 rw [Nat.add_comm]
 congr 1
 · simp only [beq_iff_eq]
 · refine List.countP_congr fun m _ => ?_
   simp [and_comm]
def allUses (S:SM):Nat→List Int
 | 0=>[]
 | k+1=>allUses S k++usesL S k
theorem count_all (S:SM) (t:Int):∀ k,k≤S.bs.length→(allUses S k).count t≤(S.bs.take k).countP (fun b=>decide (b.a=t))+S.ms.countP fun m=>decide (0≤m.t∧m.t < (k:Int)) && decide (m.a=t)
 | 0,_=>by simp [allUses]
 | k + 1, hk => by
   have ih:=count_all S t k (by omega)
   rw [allUses,List.count_append,count_uses S k (by omega)]
   have h1:(S.bs.take (k+1)).countP (fun b=>decide (b.a=t))=(S.bs.take k).countP (fun b=>decide (b.a=t))+if (bAt S.bs k).a=t then 1 else 0:=by
    rw [List.take_succ_eq_append_getElem (by omega),List.countP_append,List.countP_singleton]
    congr 1
    have:bAt S.bs (k:Int)=S.bs[k]:=by unfold bAt; rw [Int.toNat_natCast,List.getD_eq_getElem?_getD,List.getElem?_eq_getElem (by omega)]; rfl
    rw [this]
    simp
   have h2:S.ms.countP (fun m=>decide (0≤m.t∧m.t < ((k+1:Nat):Int)) && decide (m.a=t))=S.ms.countP (fun m=>decide (0≤m.t∧m.t < (k:Int)) && decide (m.a=t))+S.ms.countP (fun m=>decide (m.t=(k:Int)) && decide (m.a=t)):=by
    generalize S.ms=ms
    induction ms with
    | nil=>rfl
    | cons m r ih =>
      simp only [List.countP_cons,ih]
      have:(if (decide (0≤m.t∧m.t < ((k+1:Nat):Int)) && decide (m.a=t))=true then 1 else 0)=(if (decide (0≤m.t∧m.t < (k:Int)) && decide (m.a=t))=true then 1 else 0)+(if (decide (m.t=(k:Int)) && decide (m.a=t))=true then 1 else 0):=by
       simp only [Bool.and_eq_true,decide_eq_true_eq]
       have hc:((k+1:Nat):Int)=(k:Int)+1:=by omega
       rw [hc]
       split<;>split<;>split<;>omega
      omega
   omega
theorem Named.apart (h:Named TL n e S):(allUses S S.bs.length).Nodup:=by
 rw [List.nodup_iff_count]
 intro t
 have h1:=count_all S t S.bs.length (Nat.le_refl _)
 rw [List.take_length] at h1
 have h2:S.ms.countP (fun m=>decide (0≤m.t∧m.t < (S.bs.length:Int)) && decide (m.a=t))≤evM S.ms t:=by
  unfold evM
  refine List.countP_mono_left fun m _ => ?_
  simp
 have h3:=h.once t
 have h4:indS 0 e t≤1:=by unfold indS; split<;>omega
 unfold evB at h3
 omega
end
def setX (L:List Tk) (i:Nat) (name:Bs):List Tk:=match L[i]? with
 | some t=>L.set i { t with x:=name }
 | none=>L
def renL (name:Bs):List Int→List Tk→List Tk
 | [],L=>L
 | t :: r,L=>renL name r (setX L t.toNat name)
theorem setX_len (L:List Tk) (i:Nat) (name:Bs):(setX L i name).length=L.length:=by unfold setX; split<;>simp
theorem setX_get (L:List Tk) (i:Nat) (name:Bs) (j:Nat):(setX L i name)[j]?=(L[j]?).map fun t=>if i=j then { t with x:=name } else t:=by
 unfold setX
 split
 · rename_i t ht
   rw [List.getElem?_set]
   have hl:=(List.getElem?_eq_some_iff.1 ht).1
   by_cases h:i=j
   · subst h
     rw [if_pos rfl,if_pos hl,ht]
     simp
   · rw [if_neg h]; simp [h]
 · rename_i hn
   by_cases h:i=j
   · subst h; rw [hn]; rfl
   · simp [h]
theorem renL_len (name:Bs):∀ (l:List Int) (L:List Tk),(renL name l L).length=L.length
 | [],L=>rfl
 | t :: r,L=>by rw [renL,renL_len name r,setX_len]
theorem renL_get (name:Bs):∀ (l:List Int) (L:List Tk),(∀ t ∈ l,0≤t)→∀ j:Nat,(renL name l L)[j]?=(L[j]?).map fun t=>if (j:Int) ∈ l then { t with x:=name } else t
 | [],L,_,j=>by simp [renL]
 | t :: r, L, h, j => by
   rw [renL,renL_get name r _ (fun x hx=>h x (by simp [hx])),setX_get,Option.map_map]
   congr 1
   funext u
   have h0:=h t (by simp)
   simp only [Function.comp]
   by_cases h1:t.toNat=j
   · have:(j:Int) ∈ t :: r:=by simp; left; omega
     rw [if_pos h1,if_pos this]
     split<;>rfl
   · have:(j:Int) ∈ t :: r ↔ (j:Int) ∈ r:=by simp; intro h2; omega
     rw [if_neg h1]
     by_cases h2:(j:Int) ∈ r
     · rw [if_pos h2,if_pos (this.2 h2)]
     · rw [if_neg h2,if_neg (fun h=>h2 (this.1 h))]
section
variable {L:List Tk} {n:N} {e:Int} {S:SM} {us:List Int} {name:Bs} {q:Nat}
theorem renL_kd (h0:∀ t ∈ us,0≤t) (i:Nat):kdT (renL name us L) i=kdT L i:=by
 unfold kdT
 rw [renL_get name us L h0]
 cases L[i]? with
 | none=>rfl
 | some t=>simp only [Option.map_some]; split<;>rfl
theorem renL_tx (h0:∀ t ∈ us,0≤t) (i:Nat):txT (renL name us L) i=if (i:Int) ∈ us∧i < L.length then name else txT L i:=by
 unfold txT
 rw [renL_get name us L h0]
 by_cases hi:i < L.length
 · rw [List.getElem?_eq_getElem hi]
   simp only [Option.map_some]
   by_cases h:(i:Int) ∈ us
   · rw [if_pos h,if_pos ⟨h,hi⟩]
   · rw [if_neg h,if_neg (fun x=>h x.1)]
 · rw [List.getElem?_eq_none (by omega),if_neg (fun x=>hi x.2)]; rfl
theorem renL_is (h0:∀ t ∈ us,0≤t∧kdT L t.toNat=1) (i:Nat) (x:Bs):isT (renL name us L) i x=isT L i x:=by
 unfold isT
 rw [renL_get name us L fun t ht=>(h0 t ht).1]
 cases hL:L[i]? with
 | none=>rfl
 | some t =>
   simp only [Option.map_some]
   split
   · rename_i h
     have:=(h0 _ h).2
     rw [Int.toNat_natCast] at this
     unfold kdT at this
     rw [hL] at this
     simp only at this
     simp [this]
   · rfl
mutual
theorem ren_depth (L:List Tk):∀ n:N,(n.ren L).depth=n.depth
 | .mk k f t w a z ks=>by rw [N.ren_mk,N.depth_mk,N.depth_mk,← N.rens_map,ren_depths L ks]
theorem ren_depths (L:List Tk):∀ l:List N,N.depths (N.rens L l)=N.depths l
 | []=>by rw [N.rens]
 | p :: r=>by rw [N.rens,N.depths_cons,N.depths_cons,ren_depth L p,ren_depths L r]
end
theorem parseP_ren (h0:∀ t ∈ us,0≤t∧kdT L t.toNat=1) (hp:parseP L=(n,0,0)):parseP (renL name us L)=(n.ren (renL name us L),0,0):=by
 have h0':∀ t ∈ us,0≤t:=fun t ht=>(h0 t ht).1
 have hF:parseF (renL name us L)=(parseF L).ren (renL name us L):=by
  unfold parseF
  rw [renL_len]
  exact pp_ren (renL_is h0) (renL_kd h0') _ (.file []) 0 trivial
 unfold parseP at hp ⊢
 rw [hF,renL_len,renL_kd h0']
 split at hp
 · simp at hp
 · rename_i hc
   rw [if_neg (by
    intro h
    refine hc ?_
    rcases h with h | h
    · left
      have:(renL name us L).length=0:=by rw [h]; rfl
      rw [renL_len] at this
      exact List.eq_nil_of_length_eq_zero this
    · exact .inr h)]
   cases hr:parseF L with
   | out=>rw [hr] at hp; simp at hp
   | bad i=>rw [hr] at hp; simp at hp
   | ok m j =>
     rw [hr] at hp
     simp only [PR.ren] at hp ⊢
     rw [ren_depth]
     split at hp
     · simp at hp
     · rename_i hd
       rw [if_neg hd]
       simp only [Prod.mk.injEq,and_true] at hp
       rw [hp]
theorem uses_iff (hS:S.bs.length > q) (t:Int):t ∈ usesL S q ↔ Use_ S q t:=by
 have hb:S.bs[q]?=some (bAt S.bs q):=by
  unfold bAt; rw [Int.toNat_natCast,List.getD_eq_getElem?_getD,List.getElem?_eq_getElem hS]; rfl
 unfold usesL Use_
 constructor
 · intro h
   rcases List.mem_cons.1 h with rfl | h
   · exact .inl ⟨_,hb,rfl⟩
   · obtain ⟨m,hm,rfl⟩:=List.mem_map.1 h
     obtain ⟨hm,ht⟩:=List.mem_filter.1 hm
     exact .inr ⟨m,hm,rfl,by simpa using ht⟩
 · rintro (⟨b,h1,rfl⟩ | ⟨m,hm,rfl,ht⟩)
   · rw [hb] at h1; cases h1; simp
   · exact List.mem_cons_of_mem _ (List.mem_map.2 ⟨m,List.mem_filter.2 ⟨hm,by simpa using ht⟩,rfl⟩)
theorem Named.renamed (hN:Named L n e (allR n)) (hI:ItS L n.ks 0 e) (he:e≤L.length) (hp:parseP L=(n,0,0)) (hq:q < (allR n).bs.length) (hbad:(allR n).bad=[]) (hus:∀ t,t ∈ us ↔ t ∈ usesL (allR n) q) (hname:name ≠ []∧∀ t ∈ L,t.x ≠ name):parseP (renL name us L)=(n.ren (renL name us L),0,0)∧RS q name (allR n) (allR (n.ren (renL name us L))):=by
 have h0:∀ t ∈ us,0≤t∧kdT L t.toNat=1:=fun t ht=>⟨(hN.uses_in hI hq ((hus t).1 ht)).1,hN.uses_kd hI hq ((hus t).1 ht)⟩
 have hlt:∀ t ∈ us,t < e:=fun t ht=>(hN.uses_in hI hq ((hus t).1 ht)).2.1
 have hne:∀ i,txT L i ≠ name:=fun i=>by
  unfold txT
  cases hL:L[i]? with
  | none=>exact fun h=>hname.1 h.symm
  | some t=>exact hname.2 t (List.mem_of_getElem? hL)
 refine ⟨parseP_ren h0 hp,ren_all hI ⟨fun t => ?_,fun t ht => ?_,fun b hb => ?_⟩ hne hbad⟩
 · have:=hN.once t
   have:indS 0 e t≤1:=by unfold indS; split<;>omega
   omega
 · rw [renL_tx fun t ht=>(h0 t ht).1]
   have hi:((t.toNat:Nat):Int)=t:=by omega
   rw [hi,← uses_iff hq,← hus]
   constructor
   · intro h
     have:=hlt t h
     rw [if_pos ⟨h,by omega⟩]
   · intro h
     rw [if_neg fun x=>h x.1]
 · obtain ⟨j,hj⟩:=List.mem_iff_getElem?.1 hb
   obtain ⟨i,x,-,-,-,-,hw,-⟩:=hN.item hI hj
   rw [hw.2.1]; exact hne _
end
end
def irScUsesV (srtI tm mn tint : Nat) : IFn := { nt := 44, res := [.t 4], body := ( .seq (.ops [⟨some 2,none,.box tm 3 (.t 0)⟩,⟨some 4,none,.mv (.c (.sl true 1 []))⟩] false) (.seq (.seq (.ops [⟨some 8,none,.mv (.t 1)⟩,⟨some 9,none,.bin .lss (.t 8) (.c (.int .i64 0))⟩,⟨some 10,none,.mv (.t 9)⟩,⟨some 11,some (10,false),.mv (.t 1)⟩,⟨some 12,some (10,false),.faddr 0 (.t 2)⟩,⟨some 13,some (10,false),.load 1 false (.t 12)⟩,⟨some 14,some (10,false),.lenL (.t 13)⟩,⟨some 15,some (10,false),.bin .geq (.t 11) (.t 14)⟩,⟨some 16,none,.pick (.t 10) (.c (.bool true)) (.t 15)⟩] false) (.cond (.t 16) (.seq (.ops [⟨some 4,none,.mv (.c (.sl true 1 []))⟩] false) (.ret)) (.skip))) (.seq (.ops [⟨some 17,none,.faddr 0 (.t 2)⟩,⟨some 18,none,.load 1 false (.t 17)⟩,⟨some 19,none,.mv (.t 1)⟩,⟨some 20,none,.iaddr 4 (.t 18) (.t 19)⟩,⟨some 21,none,.faddr 0 (.t 20)⟩,⟨some 22,none,.load 1 false (.t 21)⟩,⟨some 23,none,.bsliceV 1 tint [(.t 22)]⟩,⟨some 5,none,.mv (.t 23)⟩] false) (.seq (.seq (.ops [⟨some 24,none,.faddr 1 (.t 2)⟩,⟨some 25,none,.load 1 false (.t 24)⟩,⟨some 26,none,.lenL (.t 25)⟩,⟨some 27,none,.mv (.c (.int .i64 0))⟩] false) (.blk 0 (.loop (.seq (.ops [⟨some 28,none,.bin .lss (.t 27) (.t 26)⟩] false) (.seq (.cond (.t 28) (.skip) (.exit 0)) (.seq (.blk 1 (.seq (.ops [⟨some 29,none,.iaddr 4 (.t 25) (.t 27)⟩,⟨some 30,none,.load 4 true (.t 29)⟩,⟨some 7,none,.alloc mn [(.int .i64 0),(.int .i64 0),(.bool false),(.int .i64 0)]⟩,⟨none,none,.store 4 (.t 7) (.t 30)⟩] false) (.seq (.ops [⟨some 31,none,.faddr 1 (.t 7)⟩,⟨some 32,none,.load 1 false (.t 31)⟩,⟨some 33,none,.mv (.t 1)⟩,⟨some 34,none,.bin .eql (.t 32) (.t 33)⟩] false) (.cond (.t 34) (.ops [⟨some 35,none,.mv (.t 5)⟩,⟨some 36,none,.faddr 0 (.t 7)⟩,⟨some 37,none,.load 1 false (.t 36)⟩,⟨some 38,none,.bslice 1 [(.t 37)]⟩,⟨some 39,none,.appV 1 8 tint (.t 35) (.t 38)⟩,⟨some 5,none,.mv (.t 39)⟩] false) (.skip))))) (.ops [⟨some 40,none,.bin .add (.t 27) (.c (.int .i64 1))⟩,⟨some 27,none,.mv (.t 40)⟩] false))))))) (.seq (.ops [⟨some 41,none,.mv (.t 5)⟩,⟨some 42,none,.call srtI [(.t 41)]⟩] false) (.seq (.ops [⟨some 43,none,.mv (.t 5)⟩,⟨some 4,none,.mv (.t 43)⟩] false) (.ret))))))) }
section
def encI (t:Int):List D:=[.int .i64 t]
def isort (L:List Int):List Int:=L.mergeSort fun x y=>decide (x≤y)
theorem isort_len (L:List Int):(isort L).length=L.length:=List.length_mergeSort L
theorem isort_perm (L:List Int):(isort L).Perm L:=List.mergeSort_perm L _
theorem intRows_enc (L:List Int):intRows L=(L.map encI).map (List.map .d):=by simp [intRows,encI]
section
variable {P:Program} {tn tm bd mn ed tint:Nat}
theorem Has.scUses {f srt:FuncId} (hf:HasT P [2000039,9000023] f (irScUsesV srt tm mn tint)) (hS:SortInt P srt) {S:SM} {z1 z2:Bool} {bad:D} (hl:S.ms.length≤1099511627776) (i:Nat) (hi:i < S.bs.length) (H:Hp) :
 ACall P f [.agg [.d (.sl z1 4 (S.bs.map encBd)),.d (.sl z2 4 (S.ms.map encMn)),.d bad],.d (.int .i64 (i:Int))] H (fun r H'=>r = .d (.sl false 1 ((isort (usesL S i)).map encI))∧H'=H):=by
 have hne:(isort (usesL S i)).map encI ≠ []:=by
  intro h
  have h1:=congrArg List.length h
  rw [List.length_map,isort_len] at h1
  simp [usesL] at h1
 have hle:(usesL S i).length≤S.ms.length+1:=by
  unfold usesL
  have:=List.length_filter_le (fun m:Mn=>decide (m.t=(i:Int))) S.ms
  simp only [List.length_cons,List.length_map]; omega
 refine ACall.freezeVec (j:=1) (k:=(usesL S i).length) (e:=tint) hne ?_
 obtain ⟨fn,hff,hcf⟩:=hf
 refine acall_fink 2 hff hcf (by simp [irScUsesV]) fun hcl _ => ?_
 obtain ⟨bs,ms,bd'⟩:=S
 simp only at hl hi hle
 obtain ⟨bx,hbx⟩:∃ bx,bx=Ob.box tm [.d (.sl z1 4 (bs.map encBd)),.d (.sl z2 4 (ms.map encMn)),.d bad]:=⟨_,rfl⟩
 have hbc:∀ n,bx.clr n=bx:=fun n=>by subst hbx; simp
 have hi0:¬ (i:Int) < 0:=by omega
 have hi1:¬ (bs.length:Int)≤(i:Int):=by omega
 have hr:=rowAt_map encBd hi
 have hbi:bAt bs (i:Int)=bs[i]:=by unfold bAt; rw [Int.toNat_natCast,List.getD_eq_getElem?_getD,List.getElem?_eq_getElem hi]; rfl
 have hU:usesL ⟨bs,ms,bd'⟩ i=bs[i].a :: (ms.filter fun m=>decide (m.t=(i:Int))).map Mn.a:=by unfold usesL; simp only; rw [hbi]
 generalize bs[i]=b at hr hU
 obtain ⟨ba,bk,bw,bi⟩:=b
 simp only [encBd] at hr
 simp only at hU
 let U:Nat→List Int:=fun j=>ba :: ((ms.take j).filter fun m=>decide (m.t=(i:Int))).map Mn.a
 have hU0:U 0=[ba]:=rfl
 have hUn:U ms.length=usesL ⟨bs,ms,bd'⟩ i:=by rw [hU]; show _ :: _=_; rw [List.take_of_length_le (Nat.le_refl _)]
 have hUl:∀ j,(U j).length≤ms.length+1:=fun j=>by
  have h1:=List.length_filter_le (fun m:Mn=>decide (m.t=(i:Int))) (ms.take j)
  have h2:(ms.take j).length≤ms.length:=by simp; omega
  show (_ :: List.map _ _).length≤_
  simp only [List.length_cons,List.length_map]; omega
 let HY:Nat→Hp:=fun j=>[bx,.vec 1 tint (U j).length ((U j).map encI)]
 have hc:∀ j X,Hp.cut (H.length+2) (H++(HY j++X))=H++HY j:=fun j X=>by
  rw [cut_appk hcl]
  have hv:∀ n s e k r,(Ob.vec s e k r).clr n=Ob.vec s e k r:=fun _ _ _ _ _=>rfl
  simp [HY,hbc,hv,-Ob.clr]
 have hc0:∀ j,Hp.cut (H.length+2) (H++HY j)=H++HY j:=fun j=>by have:=hc j []; rwa [List.append_nil] at this
 have e0:∀ j X,(HY j++X)[0]?=some (Ob.box tm [.d (.sl z1 4 (bs.map encBd)),.d (.sl z2 4 (ms.map encMn)),.d bad]):=fun j X=>by rw [← hbx]; rfl
 have e1:∀ j X,(HY j++X)[1]?=some (.vec 1 tint (U j).length ((U j).map encI)):=fun j X=>rfl
 have e2:∀ j x X,(HY j++x :: X)[2]?=some x:=fun j x X=>rfl
 have s2:∀ j x y X,(HY j++x :: X).set 2 y=HY j++y :: X:=fun j x y X=>rfl
 have lY:∀ j,(HY j).length=2:=fun j=>rfl
 have hst:H++[bx,Ob.vec 1 tint 1 [[D.int .i64 ba]]]=H++HY 0:=rfl
 simp [irScUsesV,hi0,hi1,hr,List.getElem?_cons_zero,-getElem?_pos]
 rw [← hbx,hst]
 refine LoopK_out 0 (fun fr H'=>fr 5 = .vsl (H.length+1) (U ms.length).length (U ms.length).length∧H'=H++HY ms.length) ?_ ?_
 · refine RangeK_of (H.length+2) ms.length (fun j fr H'=>fr 1 = .d (.int .i64 (i:Int))∧fr 5 = .vsl (H.length+1) (U j).length (U j).length∧fr 25 = .d (.sl z2 4 (ms.map encMn))∧H'=H++HY j) (by omega) (by decide) (by simp [lY]) (by simp) ?_ ?_ ?_
   · exact ⟨by simp,by simp [hU0],by simp,hc0 0⟩
   · rintro j fr H' hj f27 f26 ⟨f1,f5,f25,rfl⟩
     have hr2:=rowAt_map encMn hj
     have hstep:U (j+1)=if ms[j].t=(i:Int) then U j++[ms[j].a] else U j:=by
      show _ :: _=_
      rw [List.take_succ_eq_append_getElem hj,List.filter_append,List.map_append]
      by_cases h:ms[j].t=(i:Int)
      · rw [if_pos h]; simp [h,U]
      · rw [if_neg h]; simp [h,U]
     generalize ms[j]=x at hr2 hstep
     obtain ⟨xa,xt,xw,xf⟩:=x
     simp only [encMn] at hr2
     simp only at hstep
     have hfit:((U j).length+1) * 8≤140737488355328:=by have:=hUl j; omega
     have htk:List.take (U j).length ((U j).map encI)=(U j).map encI:=List.take_of_length_le (by simp)
     have hlm:((U j).map encI).length=(U j).length:=List.length_map _
     have e1':=e1 j
     have e2':=e2 j
     have s2':=s2 j
     have lY':=lY j
     by_cases h:xt=(i:Int)
     · rw [if_pos h] at hstep
       have hs1:∀ X,(HY j++X).set 1 (.vec 1 tint ((U j).length+1) ((U j).map encI++[[D.int .i64 xa]]))=HY (j+1)++X:=fun X=>by
        show [bx,_]++X=[bx,_]++X
        rw [hstep]; simp [encI]
       have hlU:(U (j+1)).length=(U j).length+1:=by rw [hstep]; simp
       have hcj:=hc (j+1)
       have lY2:=lY (j+1)
       generalize hY2:HY (j+1)=Y2 at hs1 hcj lY2 ⊢
       generalize HY j=Y at e1' e2' s2' lY' hs1 ⊢
       simp [f27,f25,f1,f5,hr2,h,e2',s2',lY',appVA,e1',hfit,htk,hlm,hs1,-getElem?_pos]
       refine NextK_of (H.length+2) (Nat.le_refl _) (by simp [lY2,f27,f26]) ?_
       exact ⟨by simp [f1],by simp [hlU],by simp [f25],(hcj _).trans (by rw [hY2])⟩
     · rw [if_neg h] at hstep
       have hlU:(U (j+1)).length=(U j).length:=by rw [hstep]
       have hYY:HY (j+1)=HY j:=by show [bx,_]=[bx,_]; rw [hstep]
       have hcj:=hc j
       rw [← hYY] at e1' e2' s2' lY' hcj
       rw [← hYY]
       generalize hY2:HY (j+1)=Y at e1' e2' s2' lY' hcj ⊢
       simp [f27,f25,f1,hr2,h,e2',s2',lY',-getElem?_pos]
       refine NextK_of (H.length+2) (Nat.le_refl _) (by simp [lY',f27,f26]) ?_
       exact ⟨by simp [f1],by simp [f5,hlU],by simp [f25],(hcj _).trans (by rw [hY2])⟩
   · rintro fr H' f27 f26 ⟨f1,f5,f25,rfl⟩
     simp
     exact f5
 · rintro fr H' ⟨f5,rfl⟩
   rw [hUn] at f5
   have hHY:H++HY ms.length=(H++[bx])++[.vec 1 tint (usesL ⟨bs,ms,bd'⟩ i).length ((usesL ⟨bs,ms,bd'⟩ i).map encI)]:=by
    show H++[bx,_]=_
    rw [hUn]; simp
   rw [hHY]
   generalize usesL ⟨bs,ms,bd'⟩ i=L at f5 hne hle ⊢
   have hLne:L ≠ []:=fun h=>hne (by subst h; simp [isort])
   have hcl1:Hp.Closed (H++[bx]):=Closed.snoc hcl fun n _=>hbc n
   have hsrt:=sortInt_acall hS (L:=L) hLne (by omega) (H:=(H++[bx])++[.dead,.arr 1 ((L.map encI).map (List.map .d))]) (i:=(H++[bx]).length+1) (by rw [getElem?_appk,intRows_enc]; rfl)
   have hv:=ACall.vecCall (P:=P) (f:=srt) (k:=L.length) (e:=tint) (args:=[]) (rows:=L.map encI) (rows':=(isort L).map encI) hcl1 (by simpa using hLne) (by simp [isort_len]) (by
    rw [List.length_map]
    refine hsrt.mono ?_
    rintro r H' ⟨rfl,rfl⟩
    refine ⟨rfl,?_⟩
    rw [set_appk,← isort,intRows_enc]; rfl)
   rw [List.length_map,show (H++[bx]).length=H.length+1 by simp] at hv
   simp [f5,-List.append_assoc]
   refine CallK_of' hv ?_
   simp [f5,RetK,resA,-List.append_assoc]
   refine ⟨[bx,.vec 1 tint L.length ((isort L).map encI)],rfl,(isort_len L).symm,?_⟩
   have hv:∀ n s e k r,(Ob.vec s e k r).clr n=Ob.vec s e k r:=fun _ _ _ _ _=>rfl
   rw [List.append_assoc,cut_appk hcl]
   simp [hbc,hv,-Ob.clr]
end
end
end Go.Zam
namespace Go.Proofs.Zs
section
open Go Go.Zam Go.Proofs
theorem rcf7:compF Try.prog [] Try.f7=some (irR7Of 17 15 25):=by kernel_rfl
theorem rcf15:compF Try.prog [] Try.f15=some (irR7Parse 31 32 25 88):=by kernel_rfl
theorem rcf31:compF Try.prog [4] Try.f31=some (irR7File 49 50 51 52 25):=by kernel_rfl
theorem rcf32:compF Try.prog [] Try.f32=some (irR6Depth 32 25):=by kernel_rfl
theorem rcf49:compF Try.prog [] Try.f49=some (irR7Is 53):=by kernel_rfl
theorem rcf50:compF Try.prog [] Try.f50=some (irR7Use 75 76 52 25):=by kernel_rfl
theorem rcf51:compF Try.prog [] Try.f51=some (irR7Def 76 75 77 52 25):=by kernel_rfl
theorem rcf52:compF Try.prog [] Try.f52=some (irR7Ended 25):=by kernel_rfl
theorem rcf75:compF Try.prog [] Try.f75=some (irR7Word 25):=by kernel_rfl
theorem rcf76:compF Try.prog [] Try.f76=some (irR7Want 49):=by kernel_rfl
theorem rcf77:compF Try.prog [] Try.f77=some (irR7Lambda 86 87 88 25):=by kernel_rfl
theorem rcf86:compF Try.prog [7] Try.f86=some (irR7Params 76 49 75 87 52 25):=by kernel_rfl
theorem rcf87:compF Try.prog [] Try.f87=some (irR7Typed 49 91 25):=by kernel_rfl
theorem rcf88:compF Try.prog [7] Try.f88=some (irR7Block 76 49 92 52 25):=by kernel_rfl
theorem rcf91:compF Try.prog [9] Try.f91=some (irR7Kind 49 75 76 91 52 25):=by kernel_rfl
theorem rcf92:compF Try.prog [8,47] Try.f92=some (irR7Stmt 49 93 88 52 75 87 76 25):=by kernel_rfl
theorem rcf93:compF Try.prog [] Try.f93=some (irR7Expr 94 49 52 25):=by kernel_rfl
theorem rcf94:compF Try.prog [] Try.f94=some (irR7Sum 95 49 52 25):=by kernel_rfl
theorem rcf95:compF Try.prog [] Try.f95=some (irR7Term 96 49 52 25):=by kernel_rfl
theorem rcf96:compF Try.prog [10,56] Try.f96=some (irR7Post 97 49 75 52 93 76 25):=by kernel_rfl
theorem rcf97:compF Try.prog [11] Try.f97=some (irR7Atom 49 93 76 52 75 77 25 53):=by kernel_rfl
theorem rcf17:compF Try.prog [6] Try.f17=some (irR4Lex 34 35 36 53):=by kernel_rfl
theorem rcf35:compF Try.prog [] Try.f35=some (irR4Lead):=by kernel_rfl
theorem rcf36:compF Try.prog [] Try.f36=some (irR4One 29 28 27 55):=by kernel_rfl
theorem rcf34:compF Try.prog [] Try.f34=some (irR3Bad 54):=by kernel_rfl
theorem rcf54:compF Try.prog [] Try.f54=some (irR3Next 78):=by kernel_rfl
theorem rcf78:compF Try.prog [] Try.f78=some (irR3More):=by kernel_rfl
theorem rcf55:compF Try.prog [] Try.f55=some (irR3Unquote):=by kernel_rfl
theorem rcf27:compF Try.prog [] Try.f27=some (irIsKey):=by kernel_rfl
theorem rcf28:compF Try.prog [] Try.f28=some (irDigit):=by kernel_rfl
theorem rcf29:compF Try.prog [] Try.f29=some (irLetter):=by kernel_rfl
theorem rcf13:compF Try.prog [] Try.f13=some (irIsName 27 28 29):=by kernel_rfl
theorem rcf21:compF Try.prog [] Try.f21=some (irSortStable 43):=by kernel_rfl
theorem rcf43:compF Try.prog [] Try.f43=some (irStable 61 62):=by kernel_rfl
theorem rcf61:compF Try.prog [] Try.f61=some (irInsertion 2):=by kernel_rfl
theorem rcf62:compF Try.prog [] Try.f62=some (irSymMerge 2 80 62):=by kernel_rfl
theorem rcf80:compF Try.prog [] Try.f80=some (irRotate 89):=by kernel_rfl
theorem rcf89:compF Try.prog [] Try.f89=some (irSwapRange 2):=by kernel_rfl
theorem rcf23:compF Try.prog [] Try.f23=some (irCompare 44):=by kernel_rfl
theorem rcf44:compF Try.prog [] Try.f44=some (irIsNaN):=by kernel_rfl
theorem scf39:compF Try.prog [2000021] Try.f39=some (irScWrong 50):=by kernel_rfl
theorem scf19:compF Try.prog [] Try.f19=some (irScBind 39 25 45):=by kernel_rfl
theorem scf57:compF Try.prog [] Try.f57=some (irScRes):=by kernel_rfl
theorem scf42:compF Try.prog [6000028] Try.f42=some (irScNode 40 59 19 60 20 58 68 25):=by kernel_rfl
theorem scf58:compF Try.prog [] Try.f58=some (irScNodeC 59):=by kernel_rfl
theorem scf59:compF Try.prog [] Try.f59=some (irScKids 42 25):=by kernel_rfl
theorem scf60:compF Try.prog [] Try.f60=some (irScMention 79 39 25 47):=by kernel_rfl
theorem scf79:compF Try.prog [] Try.f79=some (irScFind):=by kernel_rfl
theorem scf20:compF Try.prog [] Try.f20=some (irScClosed 40 41 68 23):=by kernel_rfl
theorem scf41:compF Try.prog [6000022,6000028] Try.f41=some (irScClosedC 19 42 25):=by kernel_rfl
theorem scf10:compF Try.prog [5000003,8200003,6000034,6000043] Try.f10=some (irScOf 19 20 21 22 25 34 73 45 47 50):=by kernel_rfl
theorem scf22:compF Try.prog [] Try.f22=some (irScCmp 23 50):=by kernel_rfl
theorem scf18:compF Try.prog [] Try.f18=some (irScWritten 37 38 34 3):=by kernel_rfl
theorem scf38:compF Try.prog [] Try.f38=some (irScWrittenC 47):=by kernel_rfl
theorem scf37:compF Try.prog [] Try.f37=some (irScContF 56):=by kernel_rfl
theorem scf56:compF Try.prog [] Try.f56=some (irScIdxF):=by kernel_rfl
theorem scf14:compF Try.prog [2000039,9000023] Try.f14=some (irScUsesV 30 34 47 3):=by kernel_rfl
theorem rdigitOk:ByteOk Try.prog 28 digitB:=Has.digit ⟨_,Try.func28,rcf28⟩
theorem rletterOk:ByteOk Try.prog 29 letterB:=Has.letter ⟨_,Try.func29,rcf29⟩
theorem risKeyOk (s:Bs) (H:Hp):ACall Try.prog 27 [.d (.str s)] H (fun r H'=>r = .d (.bool (decide (s ∈ keysL)))∧H'=H):=isKey_acall Try.func27 rcf27 s H
theorem risNameOk (s:Bs) (H:Hp):ACall Try.prog 13 [.d (.str s)] H (fun r H'=>r = .d (.bool (isNameB s))∧H'=H):=isName_acall Try.func13 rcf13 risKeyOk rdigitOk rletterOk s H
theorem lex4Ok (s:Bs) (hs:s.length≤1048576) (H:Hp) :
 ACall Try.prog 17 [.d (.str s)] H (fun r H'=>r = .tup [.d (.sl true 4 ((lexS s).1.map encTk)),.d (.int .i64 (lexS s).2.1),.d (.int .i64 (lexS s).2.2)]∧H'=H) :=
 HasT.lex4 ⟨_,Try.func17,rcf17⟩
  (fun s H hs=>Has.bad3 ⟨_,Try.func34,rcf34⟩ (fun s n hn hl H=>Has.next3 ⟨_,Try.func54,rcf54⟩ (Has.more3 ⟨_,Try.func78,rcf78⟩) s n hn hl H) s hs H)
  (fun s n hn hl H=>Has.lead4 ⟨_,Try.func35,rcf35⟩ s n hn hl H)
  (fun s n hn hl H=>Has.one4 ⟨_,Try.func36,rcf36⟩ rletterOk rdigitOk risKeyOk (fun s H hs=>Has.unquote3 ⟨_,Try.func55,rcf55⟩ s hs H) s n hn hl H) s hs H
def Rf:RF := { kind:=91,file:=31,is:=49,word:=75,want:=76,ended:=52,use_:=50,def_:=51,lambda:=77,params:=86,typed:=87,block:=88,stmt:=92,expr:=93,sum:=94,term:=95,post:=96,atom:=97,tn:=25,tt:=53,tr:=88 }
theorem rHas:RHasA Try.prog Rf where
 is:=⟨_,Try.func49,rcf49⟩
 word:=⟨_,Try.func75,rcf75⟩
 want:=⟨_,Try.func76,rcf76⟩
 ended:=⟨_,Try.func52,rcf52⟩
 use_:=⟨_,Try.func50,rcf50⟩
 def_:=⟨_,Try.func51,rcf51⟩
 lambda:=⟨_,Try.func77,rcf77⟩
 typed:=⟨_,Try.func87,rcf87⟩
 params:=⟨_,Try.func86,rcf86⟩
 kind:=⟨_,Try.func91,rcf91⟩
 block:=⟨_,Try.func88,rcf88⟩
 stmt:=⟨_,Try.func92,rcf92⟩
 expr:=⟨_,Try.func93,rcf93⟩
 sum:=⟨_,Try.func94,rcf94⟩
 term:=⟨_,Try.func95,rcf95⟩
 post:=⟨_,Try.func96,rcf96⟩
 atom:=⟨_,Try.func97,rcf97⟩
 file:=⟨_,Try.func31,rcf31⟩
theorem refOfOk (s:Bs) (hs:s.length≤1048576) (H:Hp) :
 ACall Try.prog 7 [.d (.str s)] H (fun r H'=>r = .tup [.d (.sl true 4 ((parseO s).1.map encTk)),(parseO s).2.1.v,.d (.int .i64 (parseO s).2.2.1),.d (.int .i64 (parseO s).2.2.2)]∧H'=H) :=
 Has.of7 ⟨_,Try.func7,rcf7⟩ (fun s hs H=>lex4Ok s hs H) (fun z L hL H=>Has.parse7 (R:=Rf) ⟨_,Try.func15,rcf15⟩ rHas ⟨_,Try.func32,rcf32⟩ hL H) s hs H
end
section
open Go Go.Zam Go.Proofs
def ir8 : IFn := { nt := 39, res := [.t 0], body := ( .seq (.ops [⟨some 0,none,.mv (.c (.bool false))⟩] false) (.seq (.ops [⟨some 7,none,.call 7 [(.c (.str [100,101,102,32,102,40,97,41,32,123,32,108,101,116,32,98,32,61,32,97,59,32,98,32,61,32,98,32,43,32,97,59,32,125]))]⟩,⟨some 6,none,.mv (.t 7)⟩,⟨some 8,none,.ext (.t 6) 0⟩,⟨some 9,none,.ext (.t 6) 1⟩,⟨some 10,none,.ext (.t 6) 2⟩,⟨some 11,none,.ext (.t 6) 3⟩,⟨some 2,none,.alloc 25 [(.int .i64 0),(.int .i64 0),(.int .i64 0),(.str []),(.int .i64 0),(.sl true 6 [])]⟩,⟨some 1,none,.mv (.t 8)⟩,⟨none,none,.store 6 (.t 2) (.t 9)⟩,⟨some 3,none,.mv (.t 10)⟩,⟨some 4,none,.mv (.t 11)⟩] false) (.seq (.ops [⟨some 12,none,.load 6 true (.t 2)⟩,⟨some 13,none,.call 10 [(.t 12)]⟩,⟨some 5,none,.alloc 34 [(.sl true 4 []),(.sl true 4 []),(.sl true 2 [])]⟩,⟨none,none,.store 3 (.t 5) (.t 13)⟩] false) (.seq (.ops [⟨some 14,none,.faddr 0 (.t 5)⟩,⟨some 15,none,.load 1 false (.t 14)⟩,⟨some 16,none,.lenL (.t 15)⟩,⟨some 17,none,.bin .eql (.t 16) (.c (.int .i64 3))⟩,⟨some 18,none,.mv (.t 17)⟩,⟨some 19,some (18,true),.load 3 true (.t 5)⟩,⟨some 20,some (18,true),.call 14 [(.t 19),(.c (.int .i64 2))]⟩,⟨some 21,some (18,true),.lenL (.t 20)⟩,⟨some 22,some (18,true),.bin .eql (.t 21) (.c (.int .i64 3))⟩,⟨some 23,none,.pick (.t 18) (.t 22) (.c (.bool false))⟩,⟨some 24,none,.mv (.t 23)⟩,⟨some 25,some (24,true),.load 3 true (.t 5)⟩,⟨some 26,some (24,true),.call 18 [(.t 25),(.c (.int .i64 2))]⟩,⟨some 27,none,.pick (.t 24) (.t 26) (.c (.bool false))⟩,⟨some 28,none,.mv (.t 27)⟩,⟨some 29,some (28,true),.load 3 true (.t 5)⟩,⟨some 30,some (28,true),.call 18 [(.t 29),(.c (.int .i64 1))]⟩,⟨some 31,some (28,true),.un .not (.t 30)⟩,⟨some 32,none,.pick (.t 28) (.t 31) (.c (.bool false))⟩,⟨some 33,none,.mv (.t 32)⟩,⟨some 34,some (33,true),.faddr 2 (.t 5)⟩,⟨some 35,some (33,true),.load 1 false (.t 34)⟩,⟨some 36,some (33,true),.lenL (.t 35)⟩,⟨some 37,some (33,true),.bin .eql (.t 36) (.c (.int .i64 0))⟩,⟨some 38,none,.pick (.t 33) (.t 37) (.c (.bool false))⟩,⟨some 0,none,.mv (.t 38)⟩] false) (.ret))))) }
theorem cf8:compF Try.prog [] Try.f8=some ir8:=by kernel_rfl
end
end Go.Proofs.Zs
namespace Go.Proofs
section
open Go.Shelf
def Try.lays189_ren:Go.Shelf.Ren:=⟨fun | 189=>30 | 125=>48 | 257=>47 | 128=>73 | 129=>74 | 294=>64 | 295=>65 | 296=>66 | 297=>67 | 298=>68 | 299=>69 | 216=>70 | 300=>71 | 301=>72 | 328=>81 | 329=>82 | 330=>83 | 331=>84 | 332=>85 | 215=>44 | 343=>90 | n=>n,fun | 28=>55 | 3=>3 | 46=>112 | 0=>0 | 51=>137 | 53=>120 | 4=>4 | 183=>130 | 182=>129 | 131=>98 | 5=>5 | 9=>9 | 218=>145 | 222=>149 | 228=>151 | 229=>143 | n=>n,fun | n=>n⟩
theorem Try.lays189:Go.Proofs.Lays.n189 Try.prog Try.lays189_ren := {
 mixed:=by kernel_rfl
 f125:=Try.func48.trans (congrArg some (by kernel_rfl))
 f128:=Try.func73.trans (congrArg some (by kernel_rfl))
 f129:=Try.func74.trans (congrArg some (by kernel_rfl))
 f189:=Try.func30.trans (congrArg some (by kernel_rfl))
 f215:=Try.func44.trans (congrArg some (by kernel_rfl))
 f216:=Try.func70.trans (congrArg some (by kernel_rfl))
 f257:=Try.func47.trans (congrArg some (by kernel_rfl))
 f294:=Try.func64.trans (congrArg some (by kernel_rfl))
 f295:=Try.func65.trans (congrArg some (by kernel_rfl))
 f296:=Try.func66.trans (congrArg some (by kernel_rfl))
 f297:=Try.func67.trans (congrArg some (by kernel_rfl))
 f298:=Try.func68.trans (congrArg some (by kernel_rfl))
 f299:=Try.func69.trans (congrArg some (by kernel_rfl))
 f300:=Try.func71.trans (congrArg some (by kernel_rfl))
 f301:=Try.func72.trans (congrArg some (by kernel_rfl))
 f328:=Try.func81.trans (congrArg some (by kernel_rfl))
 f329:=Try.func82.trans (congrArg some (by kernel_rfl))
 f330:=Try.func83.trans (congrArg some (by kernel_rfl))
 f331:=Try.func84.trans (congrArg some (by kernel_rfl))
 f332:=Try.func85.trans (congrArg some (by kernel_rfl))
 f343:=Try.func90.trans (congrArg some (by kernel_rfl))
 t0:=Try.underlying0
 a0:=Try.isAgg0
 z0:=Try.sizeOf0
 v0:=Try.zeroValue0
 t3:=Try.underlying3
 a3:=Try.isAgg3
 z3:=Try.sizeOf3
 v3:=Try.zeroValue3
 t4:=Try.underlying4
 a4:=Try.isAgg4
 z4:=Try.sizeOf4
 v4:=Try.zeroValue4
 t5:=Try.underlying5
 a5:=Try.isAgg5
 z5:=Try.sizeOf5
 v5:=Try.zeroValue5
 t9:=Try.underlying9
 a9:=Try.isAgg9
 z9:=Try.sizeOf9
 v9:=Try.zeroValue9
 t28:=Try.underlying55
 a28:=Try.isAgg55
 z28:=Try.sizeOf55
 v28:=Try.zeroValue55
 t46:=Try.underlying112
 a46:=Try.isAgg112
 z46:=Try.sizeOf112
 v46:=Try.zeroValue112
 t51:=Try.underlying137
 a51:=Try.isAgg137
 z51:=Try.sizeOf137
 v51:=Try.zeroValue137
 t53:=Try.underlying120
 a53:=Try.isAgg120
 z53:=Try.sizeOf120
 v53:=Try.zeroValue120
 t131:=Try.underlying98
 a131:=Try.isAgg98
 z131:=Try.sizeOf98
 v131:=Try.zeroValue98
 t182:=Try.underlying129
 a182:=Try.isAgg129
 z182:=Try.sizeOf129
 v182:=Try.zeroValue129
 t183:=Try.underlying130
 a183:=Try.isAgg130
 z183:=Try.sizeOf130
 v183:=Try.zeroValue130
 t218:=Try.underlying145
 a218:=Try.isAgg145
 z218:=Try.sizeOf145
 v218:=Try.zeroValue145
 t222:=Try.underlying149
 a222:=Try.isAgg149
 z222:=Try.sizeOf149
 v222:=Try.zeroValue149
 t228:=Try.underlying151
 a228:=Try.isAgg151
 z228:=Try.sizeOf151
 v228:=Try.zeroValue151
 t229:=Try.underlying143
 a229:=Try.isAgg143
 z229:=Try.sizeOf143
 v229:=Try.zeroValue143 }
open Go Go.Zam in
theorem Zs.sortOk:SortInt Try.prog 30:=fun blk off cap ss w hH hblk hsz=>Any.slices_Sort_int Try.lays189 blk off cap ss w hH hblk hsz
end
end Go.Proofs
