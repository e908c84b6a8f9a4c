/-
  Texts of one proof, one behind the other.
-/
import Derived.Test.YtffdeeooocookaaM6
import Derived.Test.YtffdeeooocookaaM4
import Derived.Test.YtffdeeooocookaaM3
import Derived.Sort.Row
import Derived.Sort.Grow
import Derived.Sort.EncStr
import Derived.Test.YtffdeeooocookaaM5
import Derived.Test.YtffdeeooocookaaProg
import Derived.KernelRfl
import Derived.Shelf.Sort.Plain
import Derived.Shelf.Slices.In.SortNone
import Derived.Ground.NamesProg
import Derived.Lib.LaidU8
import Derived.Test.YtffdeeooocookaaRows
import Derived.ProofKit
import Derived.OpenShut
import Derived.JoinedCond
set_option linter.all false
set_option maxRecDepth 100000
set_option maxHeartbeats 4000000
namespace Go.Zam
section
section
variable {P : Program} {F : SF} {c : SC} {S S' : SM} {now : A} {item : Int} {G : Nms} {H : Hp} {E : List (Nat × Nat × Frm)}
theorem SHas.closedC' (hF : SHas P F) {p q b : N} {z : Bool} (ih : NodeOk P F b) {i m : Nat} {lam : Bool} (h : NInv F c S item G i m [] lam E H) (hG : FOk S.bs.length G) (hE : ∀ x ∈ E,FOk S.bs.length x.2.2.es)
 (hb : S.sz + 2 * N.sizes [p,q,b] ≤ 2199023255552) (hl : E.length + N.sizes [p,q,b] ≤ 1099511627775) {al ab : Nat} (h1 : H[al]? = some (.box F.ts [.d (.sl z 6 ([p,q,b].map N.enc))])) (h2 : H[ab]? = some (.box F.tp [.ptr c.ib 0])) (hoa : (c.off al ∧ al ≠ m) ∧ (c.off ab ∧ ab ≠ m)) :
 ACall P F.closedC [.ptr al 0,.ptr ab 0] H (fun r H' => r = .tup [] ∧ H' = nput F c (nodeP G item b (E.map fun x => x.2.2) (bindsP item p.ks [] S).1 lam (bindsP item p.ks [] S).2).2 m (nodeP G item b (E.map fun x => x.2.2) (bindsP item p.ks [] S).1 lam (bindsP item p.ks [] S).2).1 H) := by
 obtain ⟨fn,hf,hcf⟩ := hF.closedC
 refine acall_fin hf hcf (by simp [irScClosedC]) fun hcl _ => ?_
 have hal := scan_len h1
 have hab := scan_len h2
 have hps : p.ks.length + b.size + 1 ≤ N.sizes [p,q,b] := by
  simp only [N.sizes_cons,N.sizes_nil]
  have := N.sizes_len p.ks
  have := N.size_ks p
  omega
 have hr0 : Zam.rowAt ([p,q,b].map N.enc) 0 = some p.enc := rfl
 have hr2 : Zam.rowAt ([p,q,b].map N.enc) 2 = some b.enc := rfl
 simp only [List.map_cons,List.map_nil] at h1 hr0 hr2
 have hbe : b.v = .agg (b.enc.map .d) := rfl
 have hgr0 := Grew.binds (item := item) p.ks (FOk.nil S.bs.length)
 have hn0 := h.nput (bindsP item p.ks [] S).2 (bindsP item p.ks [] S).1
 have ihb := ih c (bindsP item p.ks [] S).2 item G i m (bindsP item p.ks [] S).1 lam E _ hn0 (hG.mono hgr0.bs) hgr0.ok (fun x hx => (hE x hx).mono hgr0.bs) (by have := hgr0.sz; omega) (by omega)
 rw [nput_nput h.offM.1] at ihb
 have hat : ∀ S' fr' X,(nput F c S' m fr' H ++ X)[al]? = some (.box F.ts [.d (.sl z 6 [p.enc,q.enc,b.enc])]) ∧ (nput F c S' m fr' H ++ X)[ab]? = some (.box F.tp [.ptr c.ib 0]) := fun S' fr' X => by
  refine ⟨get_app ?_ X,get_app ?_ X⟩
  · unfold nput; rw [List.getElem?_set_ne (Ne.symm hoa.1.2),sput_off hoa.1.1]; exact h1
  · unfold nput; rw [List.getElem?_set_ne (Ne.symm hoa.2.2),sput_off hoa.2.1]; exact h2
 have hat0 : ∀ S' fr',(nput F c S' m fr' H)[al]? = some (.box F.ts [.d (.sl z 6 [p.enc,q.enc,b.enc])]) ∧ (nput F c S' m fr' H)[ab]? = some (.box F.tp [.ptr c.ib 0]) := fun S' fr' => by
  have := hat S' fr' []
  rwa [List.append_nil] at this
 have hbs : b.enc.length = 6 := by cases b; rw [N.enc_mk]; rfl
 obtain ⟨pk,pf,pt,pw,pa,pz,pks⟩ := p
 rw [N.enc_mk] at h1 hr0 hr2
 simp only [N.enc_mk] at hat hat0
 simp only [N.ks] at hgr0 hn0 ihb hps ⊢
 generalize hres : nodeP G item b (E.map fun x => x.2.2) (bindsP item pks [] S).1 lam (bindsP item pks [] S).2 = R at ihb ⊢
 simp [irScClosedC,h1,hr0]
 refine LoopK_out 0 (fun fr' H' => fr' 0 = .ptr al 0 ∧ fr' 1 = .ptr ab 0 ∧ H' = nput F c (bindsP item pks [] S).2 m (bindsP item pks [] S).1 H) ?_ ?_
 · refine RangeK_of H.length pks.length (fun j fr' H' => fr' 0 = .ptr al 0 ∧ fr' 1 = .ptr ab 0 ∧ fr' 7 = .d (.sl pz 6 (pks.map N.enc)) ∧ H' = nput F c (bindsP item (pks.take j) [] S).2 m (bindsP item (pks.take j) [] S).1 H) (by omega) (by decide) (by simp) (by simp) ?_ ?_ ?_
   · rw [List.take_zero,bindsP,nput_self h]
     simp [cut_self hcl,hal,hab]
   · rintro j fr' H' hj f9 f8 ⟨f0,f1,f7,rfl⟩
     have hr := rowAt_map N.enc hj
     have hgr := Grew.binds (item := item) (pks.take j) (FOk.nil S.bs.length)
     have hn1 := h.nput (bindsP item (pks.take j) [] S).2 (bindsP item (pks.take j) [] S).1
     have hstep : bindsP item (pks.take (j + 1)) [] S = bindP 3 item pks[j] (bindsP item (pks.take j) [] S).1 (bindsP item (pks.take j) [] S).2 := by
      rw [List.take_succ_eq_append_getElem hj,bindsP_snoc]
     have hll : (pks.take j).length ≤ pks.length := by simp; omega
     obtain ⟨ga,gb⟩ := hat0 (bindsP item (pks.take j) [] S).2 (bindsP item (pks.take j) [] S).1
     have gA := fun X => (hat (bindsP item (pks.take j) [] S).2 (bindsP item (pks.take j) [] S).1 X).2
     generalize pks[j] = x at hr hstep
     obtain ⟨g1,g2,g3⟩ := hgr
     generalize bindsP item (pks.take j) [] S = KP at g1 g2 g3 hn1 hstep ga gb gA ⊢
     obtain ⟨fr1,S1⟩ := KP
     simp only at g1 g2 g3 hn1 hstep ga gb gA ⊢
     have gbind := fun X => hF.bind' (hn1.s.app X) (get_app hn1.mp X) ⟨h.offM.1,h.offM.2.1⟩ x 3 (by omega)
     have hi1 := fun X => (hn1.s.app X).i
     obtain ⟨c1,c2,up,c3,c4,c5⟩ := hn1.ch
     have hc3 := get_app c3
     obtain ⟨k2,f2,t2,w2,a2,z2,ks2⟩ := x
     rw [N.enc_mk] at hr
     rw [N.v_mk] at gbind
     have hlen : H.length = (nput F c S1 m fr1 H).length := nput_len.symm
     have hlast : ∀ bx : Ob,(nput F c S1 m fr1 H ++ [bx])[H.length]? = some bx := fun bx => by rw [hlen]; simp
     have hpush : ∀ bx : Ob,(nput F c S1 m fr1 H).length = H.length := fun _ => nput_len
     simp [f9,f7,hr,f0,f1,nput_len]
     generalize hX : Ob.box F.tn [.d (.int .i64 k2),.d (.int .i64 f2),.d (.int .i64 t2),.d (.str w2),.d (.int .i64 a2),.d (.sl z2 6 (ks2.map N.enc))] = bx
     have hs0 : (nput F c S1 m fr1 H ++ [Ob.box F.tn [.d (.int .i64 0),.d (.int .i64 0),.d (.int .i64 0),.d (.str []),.d (.int .i64 0),.d (.sl true 6 [])]]).set H.length bx = nput F c S1 m fr1 H ++ [bx] := by rw [hlen,set_app0]; simp
     have gb1 := gbind [bx]
     rw [nput_app hn1,nput_nput h.offM.1] at gb1
     have w1 := gA [bx]
     have w2' := hi1 [bx]
     have w3 := hc3 [bx]
     have w4 := hlast bx
     have wl : (nput F c S1 m fr1 H ++ [bx]).length = H.length + 1 := by simp [nput_len]
     generalize nput F c S1 m fr1 H ++ [bx] = W at gb1 w1 w2' w3 w4 wl ⊢
     subst hX
     simp [f1,w1,w2',w3,w4]
     refine CallE_of gb1 ?_
     simp
     refine NextK_of H.length (Nat.le_refl _) (by simp [f9,f8,nput_len]) ?_
     simp [f0,f1,f7,hal,hab,hstep,nput_cutX h hcl]
   · rintro fr' H' f9 f8 ⟨f0,f1,f7,rfl⟩
     rw [List.take_of_length_le (Nat.le_refl _)]
     simp [f0,f1]
 · rintro fr' H' ⟨f0,f1,rfl⟩
   obtain ⟨ga,gb⟩ := hat0 (bindsP item pks [] S).2 (bindsP item pks [] S).1
   generalize nput F c (bindsP item pks [] S).2 m (bindsP item pks [] S).1 H = W at ihb ga gb
   simp [f0,f1,ga,gb,hr2]
   have hbv : (A.agg (b.enc.map .d)) = b.v := rfl
   rw [← hbv] at ihb
   obtain ⟨bk,bf,bt,bw,ba,bz,bks⟩ := b
   simp only [N.enc_mk] at ihb ⊢
   simp at ihb ⊢
   refine CallE_of ihb ?_
   simp
   simp [RetK,nput_len,nput_cut h hcl]
theorem SHas.closed' (hF : SHas P F) (hW : HasW P F) {ks : List N} {z : Bool} (ih : ∀ p ∈ ks,NodeOk P F p) (h : OInv F c S now item G E H) (lam : Bool) (hG : FOk S.bs.length G) (hE : ∀ x ∈ E,FOk S.bs.length x.2.2.es)
 (hb : S.sz + 2 * N.sizes ks ≤ 2199023255552) (hl : E.length + N.sizes ks ≤ 1099511627775) :
 ACall P F.closed [.ptr c.ib 0,.d (.sl z 6 (ks.map N.enc)),.d (.bool lam)] H (fun r H' => r = .tup [] ∧ H' = sput F c (sclosedP G item ks (E.map fun x => x.2.2) lam S) H) := by
 obtain ⟨fn,hf,hcf⟩ := hF.closed
 refine acall_fin hf hcf (by simp [irScClosed]) fun hcl _ => ?_
 by_cases h3 : ks.length = 3
 · have hks : ∃ p q b,ks = [p,q,b] := by
    match ks,h3 with
    | [p,q,b],_ => exact ⟨p,q,b,rfl⟩
   obtain ⟨p,q,b,rfl⟩ := hks
   rw [sclosedP_three]
   obtain ⟨p1,p2,p3,p4,p5,p6⟩ := h.s.lt
   have hO := h.app [.box F.tp [.ptr c.ib 0],.box F.ts [.d (.sl z 6 ([p,q,b].map N.enc))]]
   have hin := hO.inner lam
   have hL : (H ++ [Ob.box F.tp [.ptr c.ib 0],.box F.ts [.d (.sl z 6 ([p,q,b].map N.enc))]] : Hp).length = H.length + 2 := by simp
   have a1 : (H ++ [Ob.box F.tp [.ptr c.ib 0],.box F.ts [.d (.sl z 6 ([p,q,b].map N.enc))]] : Hp)[H.length + 1]? = some (.box F.ts [.d (.sl z 6 ([p,q,b].map N.enc))]) := by simp
   have a2 : (H ++ [Ob.box F.tp [.ptr c.ib 0],.box F.ts [.d (.sl z 6 ([p,q,b].map N.enc))]] : Hp)[H.length]? = some (.box F.tp [.ptr c.ib 0]) := by simp
   have gd := hF.closedC' (z := z) (ih b (by simp)) hin hG hE hb hl (inScope_get a1 (by omega) _ _) (inScope_get a2 (by omega) _ _) (by rw [hL]; refine ⟨⟨⟨?_,?_,?_,?_⟩,?_⟩,⟨⟨?_,?_,?_,?_⟩,?_⟩⟩ <;> omega)
   have gw := hF.within' hW hO lam hF.kClosedC gd
   rw [sput_appO h] at gw
   simp only [List.map_cons,List.map_nil] at gw ⊢
   simp [irScClosed]
   refine CallK_of' gw ?_
   simp
   simp [RetK,sput_len,sput_cutX h.s hcl]
 · rw [sclosedP_ne _ _ h3,sput_self h.s]
   have h3' : ¬ ((ks.length : Int) = 3) := by omega
   simp [irScClosed,h3']
   simp [RetK,cut_app hcl]
theorem SHas.node' (hF : SHas P F) (hW : HasW P F) (n : N) : NodeOk P F n := by
 induction n using N.ind with
 | h k f t w a z ks ih =>
 intro c S item G i m fr lam E H h hG hfr hE hb hl
 obtain ⟨fn,hf,hcf⟩ := hF.node
 refine acall_fin hf hcf (by simp [irScNode]) fun hcl _ => ?_
 rw [N.size_mk] at hb hl
 obtain ⟨p1,p2,p3,p4,p5,p6⟩ := h.s.lt
 obtain ⟨bb,hbb⟩ : ∃ bb,bb = Ob.box F.tp [.ptr c.ib 0] := ⟨_,rfl⟩
 obtain ⟨bx,hbx⟩ : ∃ bx,bx = Ob.box F.tn [.d (.int .i64 k),.d (.int .i64 f),.d (.int .i64 t),.d (.str w),.d (.int .i64 a),.d (.sl z 6 (ks.map N.enc))] := ⟨_,rfl⟩
 have hA := h.app [bb,bx]
 have a1 : (H ++ [bb,bx] : Hp)[H.length + 1]? = some bx := by simp
 have a2 : (H ++ [bb,bx] : Hp)[H.length]? = some bb := by simp
 have hE' : ∀ x ∈ (i,m,(⟨fr,lam⟩ : Frm)) :: E,FOk S.bs.length x.2.2.es := fun x hx => by
  rcases List.mem_cons.1 hx with rfl | hx
  · exact hfr
  · exact hE x hx
 have hmap : ((i,m,(⟨fr,lam⟩ : Frm)) :: E).map (fun x => x.2.2) = ⟨fr,lam⟩ :: E.map fun x => x.2.2 := rfl
 have hfin : ∀ S' fr' X,Hp.cut H.length (nput F c S' m fr' H ++ X) = nput F c S' m fr' H := fun S' fr' X => nput_cutX h hcl X
 have hi := hA.s.i
 rw [nodeP_mk]
 by_cases h6 : k = 6
 · rw [if_pos h6]
   subst h6
   have hO := hA.o
   have hin := hO.inner false
   have gk := hF.kids' (k := 6) (f := f) (t := t) (w := w) (a := a) (z := z) ih hin hG (FOk.nil _) hE' (by omega) (by simp only [List.length_cons]; omega)
   rw [hmap] at gk
   have gd : ACall P F.nodeC [.ptr H.length 0,.ptr (H.length + 1) 0] (inScope F c (.ptr i 0) item false (H ++ [bb,bx])) (fun r H2 => r = .tup [] ∧ H2 = nput F c (kidsP G item ks (⟨fr,lam⟩ :: E.map fun x => x.2.2) [] false S).2 ((H ++ [bb,bx] : Hp).length + 2) (kidsP G item ks (⟨fr,lam⟩ :: E.map fun x => x.2.2) [] false S).1 (inScope F c (.ptr i 0) item false (H ++ [bb,bx]))) := by
    obtain ⟨fn,hf,hcf⟩ := hF.nodeC
    refine acall_fin hf hcf (by simp [irScNodeC]) fun hcl2 _ => ?_
    have b1 := inScope_get (F := F) (now := .ptr i 0) a1 (by omega : H.length + 1 ≠ c.ib) item false
    have b2 := inScope_get (F := F) (now := .ptr i 0) a2 (by omega : H.length ≠ c.ib) item false
    rw [hbx,hbb] at b1 b2
    rw [N.v_mk] at gk
    have hcut := nput_cut (S' := (kidsP G item ks (⟨fr,lam⟩ :: E.map fun x => x.2.2) [] false S).2) (fr' := (kidsP G item ks (⟨fr,lam⟩ :: E.map fun x => x.2.2) [] false S).1) hin hcl2
    generalize kidsP G item ks (⟨fr,lam⟩ :: E.map fun x => x.2.2) [] false S = R at gk hcut ⊢
    rw [hbx,hbb] at gk hcut ⊢
    generalize inScope F c (.ptr i 0) item false (H ++ [Ob.box F.tp [.ptr c.ib 0],Ob.box F.tn [.d (.int .i64 6),.d (.int .i64 f),.d (.int .i64 t),.d (.str w),.d (.int .i64 a),.d (.sl z 6 (ks.map N.enc))]]) = W at b1 b2 gk hcut ⊢
    simp [irScNodeC,b1,b2]
    simp at gk
    refine CallK_of' gk ?_
    simp at hcut ⊢
    simp [RetK,nput_len,hcut]
   have gw := hF.within' hW hO false hF.kNodeC gd
   rw [sput_appO h.o] at gw
   have hfin' := hfin (kidsP G item ks (⟨fr,lam⟩ :: E.map fun x => x.2.2) [] false S).2 fr [bb,bx]
   rw [nput_sput h] at hfin'
   rw [nput_sput h]
   generalize kidsP G item ks (⟨fr,lam⟩ :: E.map fun x => x.2.2) [] false S = R at gw hfin' ⊢
   subst hbb; subst hbx
   rw [N.v_mk]
   simp [irScNode]
   refine CallK_of' gw ?_
   simp
   simp [RetK,sput_len,hfin']
 rw [if_neg h6]
 have gk := hF.kids' (k := k) (f := f) (t := t) (w := w) (a := a) (z := z) ih hA hG hfr hE (by omega) (by omega)
 by_cases h7 : k = 7
 · rw [if_pos h7]
   subst h7
   have hgr := grew_kids (fun p _ => grew p) (ks := ks) G item (E.map fun x => x.2.2) fr lam S hfr
   have hN := hA.nput (kidsP G item ks (E.map fun x => x.2.2) fr lam S).2 (kidsP G item ks (E.map fun x => x.2.2) fr lam S).1
   have gb := hF.bind' hN.s hN.mp ⟨h.offM.1,h.offM.2.1⟩ (.mk 7 f t w a z ks) 4 (by have := hgr.sz; omega)
   rw [nput_nput h.offM.1] at gb
   have b0 : (nput F c (kidsP G item ks (E.map fun x => x.2.2) fr lam S).2 m (kidsP G item ks (E.map fun x => x.2.2) fr lam S).1 (H ++ [bb,bx]))[H.length]? = some bb := by rw [nput_app h,← nput_len (F := F) (c := c) (S := (kidsP G item ks (E.map fun x => x.2.2) fr lam S).2) (m := m) (fr := (kidsP G item ks (E.map fun x => x.2.2) fr lam S).1)]; simp
   have b1 : (nput F c (kidsP G item ks (E.map fun x => x.2.2) fr lam S).2 m (kidsP G item ks (E.map fun x => x.2.2) fr lam S).1 (H ++ [bb,bx]))[H.length + 1]? = some bx := by rw [nput_app h,← nput_len (F := F) (c := c) (S := (kidsP G item ks (E.map fun x => x.2.2) fr lam S).2) (m := m) (fr := (kidsP G item ks (E.map fun x => x.2.2) fr lam S).1)]; simp
   have b2 := hN.s.i
   obtain ⟨-,-,up,b3,-,-⟩ := hN.ch
   have hfin' := hfin (bindP 4 item (.mk 7 f t w a z ks) (kidsP G item ks (E.map fun x => x.2.2) fr lam S).1 (kidsP G item ks (E.map fun x => x.2.2) fr lam S).2).2 (bindP 4 item (.mk 7 f t w a z ks) (kidsP G item ks (E.map fun x => x.2.2) fr lam S).1 (kidsP G item ks (E.map fun x => x.2.2) fr lam S).2).1 [bb,bx]
   generalize kidsP G item ks (E.map fun x => x.2.2) fr lam S = R at gk gb b0 b1 b2 b3 hfin' ⊢
   rw [N.v_mk] at gk gb ⊢
   generalize bindP 4 item (.mk 7 f t w a z ks) R.1 R.2 = R2 at gb hfin' ⊢
   subst hbb; subst hbx
   simp [irScNode]
   refine CallK_of' gk ?_
   generalize nput F c R.2 m R.1 (H ++ _) = W at gb b0 b1 b2 b3 ⊢
   simp [b0,b1,b2,b3]
   refine CallE_of gb ?_
   rw [nput_app h]
   simp
   simp [RetK,nput_len,hfin']
 rw [if_neg h7]
 have hff : N.w (.mk k f t w a z ks) = w := rfl
 by_cases h8 : k = 8
 · rw [if_pos h8]
   subst h8
   have gm := hF.mention' hA.s hA.ch (.mk 8 f t w a z ks) true (by simp only [List.length_cons]; omega) (by omega) hG hE'
   rw [hmap,hff] at gm
   have hN := hA.put (S.men (.mk 8 f t w a z ks) true (findP G w (⟨fr,lam⟩ :: E.map fun x => x.2.2) 0))
   have hms := SM.men_sz S (.mk 8 f t w a z ks) true (findP G w (⟨fr,lam⟩ :: E.map fun x => x.2.2) 0)
   have gk2 := hF.kids' (k := 8) (f := f) (t := t) (w := w) (a := a) (z := z) ih hN hG hfr hE (by omega) (by omega)
   have b0 : (sput F c (S.men (.mk 8 f t w a z ks) true (findP G w (⟨fr,lam⟩ :: E.map fun x => x.2.2) 0)) (H ++ [bb,bx]))[H.length]? = some bb := by rw [sput_off ⟨by omega,by omega,by omega,by omega⟩]; exact a2
   have b1 : (sput F c (S.men (.mk 8 f t w a z ks) true (findP G w (⟨fr,lam⟩ :: E.map fun x => x.2.2) 0)) (H ++ [bb,bx]))[H.length + 1]? = some bx := by rw [sput_off ⟨by omega,by omega,by omega,by omega⟩]; exact a1
   generalize S.men (.mk 8 f t w a z ks) true (findP G w (⟨fr,lam⟩ :: E.map fun x => x.2.2) 0) = S1 at gm gk2 b0 b1 ⊢
   have e1 : ∀ S' fr',nput F c S' m fr' (sput F c S1 (H ++ [bb,bx])) = nput F c S' m fr' H ++ [bb,bx] := fun S' fr' => by
    rw [← nput_app h]; unfold nput; rw [sput_sput]
   rw [e1] at gk2
   have hfin' := hfin (kidsP G item ks (E.map fun x => x.2.2) fr lam S1).2 (kidsP G item ks (E.map fun x => x.2.2) fr lam S1).1 [bb,bx]
   generalize kidsP G item ks (E.map fun x => x.2.2) fr lam S1 = R at gk2 hfin' ⊢
   rw [N.v_mk] at gm gk2 ⊢
   subst hbb; subst hbx
   simp [irScNode]
   refine CallK_of' gm ?_
   generalize sput F c S1 (H ++ _) = W at gk2 b0 b1 ⊢
   simp [b0,b1]
   refine CallK_of' gk2 ?_
   simp
   simp [RetK,nput_len,hfin']
 rw [if_neg h8]
 by_cases h9 : k = 23
 · rw [if_pos h9]
   subst h9
   have gm := hF.mention' hA.s hA.ch (.mk 23 f t w a z ks) false (by simp only [List.length_cons]; omega) (by omega) hG hE'
   rw [hmap,hff,sput_app h.s] at gm
   have hfin' := hfin (S.men (.mk 23 f t w a z ks) false (findP G w (⟨fr,lam⟩ :: E.map fun x => x.2.2) 0)) fr [bb,bx]
   rw [nput_sput h] at hfin' ⊢
   generalize S.men (.mk 23 f t w a z ks) false (findP G w (⟨fr,lam⟩ :: E.map fun x => x.2.2) 0) = S1 at gm hfin' ⊢
   rw [N.v_mk] at gm ⊢
   subst hbb; subst hbx
   simp [irScNode]
   refine CallK_of' gm ?_
   simp
   simp [RetK,sput_len,hfin']
 rw [if_neg h9]
 by_cases h10 : k = 28
 · rw [if_pos h10]
   subst h10
   have gc := hF.closed' hW (z := z) ih hA.o true hG hE' (by omega) (by simp only [List.length_cons]; omega)
   rw [hmap,sput_app h.s] at gc
   have hfin' := hfin (sclosedP G item ks (⟨fr,lam⟩ :: E.map fun x => x.2.2) true S) fr [bb,bx]
   rw [nput_sput h] at hfin' ⊢
   generalize sclosedP G item ks (⟨fr,lam⟩ :: E.map fun x => x.2.2) true S = S1 at gc hfin' ⊢
   rw [N.v_mk]
   subst hbb; subst hbx
   simp [irScNode]
   refine CallK_of' gc ?_
   simp
   simp [RetK,sput_len,hfin']
 rw [if_neg h10]
 rw [nput_app h] at gk
 have hfin' := hfin (kidsP G item ks (E.map fun x => x.2.2) fr lam S).2 (kidsP G item ks (E.map fun x => x.2.2) fr lam S).1 [bb,bx]
 generalize kidsP G item ks (E.map fun x => x.2.2) fr lam S = R at gk hfin' ⊢
 rw [N.v_mk] at gk ⊢
 subst hbb; subst hbx
 simp [irScNode,h6,h7,h8,h9,h10]
 refine CallK_of' gk ?_
 simp
 simp [RetK,nput_len,hfin']
end
end
theorem HR.vecArr {κ : K} {H : Hp} {w : World} (hr : HR κ H w) {i k sz e : Nat} {rows : List (List D)} (hi : H[i]? = some (.vec sz e k rows)) (hne : rows ≠ []) :
 ∃ κs,κ.le κs ∧ HR κs (H.set i .dead ++ [.arr sz (rows.map (List.map .d))]) w ∧ (∀ v,VR κ v (.vsl i k rows.length) → VR κs v (.msl H.length 0 rows.length)) ∧ ∀ m,m ≠ i → m ≠ H.length → κs.β m = κ.β m := by
 have hil : i < H.length := (List.getElem?_eq_some_iff.1 hi).1
 rcases hr.ob i _ hi with ⟨-,-,h0⟩ | ⟨b,c,cur,hβ,-,hheap,hle0,hsz,hcells⟩
 · exact absurd h0 hne
 have hpos : 0 < rows.length := List.length_pos_iff.2 hne
 have hbx := hr.ex i b (by rw [hβ]; rfl)
 have hn : κ.β H.length = .none := hr.dom _ (Nat.le_refl _)
 let κs : K := { κ with β := upd (upd κ.β i .deadT) H.length (.arr b sz (some (e,cur.size))) }
 have hsβ : ∀ m,m ≠ i → m ≠ H.length → κs.β m = κ.β m := fun m h1 h2 => by
  show upd (upd κ.β i _) H.length _ m = _
  rw [upd_ne _ _ h2,upd_ne _ _ h1]
 have hsi : κs.β i = .deadT := by
  show upd (upd κ.β i _) H.length _ i = _
  rw [upd_ne _ _ (by omega),upd_same]
 have hsn : κs.β H.length = .arr b sz (some (e,cur.size)) := upd_same _ _ _
 have hks : κ.le κs := ⟨rfl,fun _ _ _ h => h,fun m => by
  by_cases h1 : m = i
  · subst h1; rw [hsi,hβ]; exact .inr (.inl rfl)
  · by_cases h2 : m = H.length
    · subst h2; rw [hn]; trivial
    · rw [hsβ m h1 h2]; exact Bind.le_refl _⟩
 have hblk : ∀ m b',(κs.β m).block = some b' → (m = H.length ∧ b' = b) ∨ (m ≠ H.length ∧ m ≠ i ∧ (κ.β m).block = some b') := fun m b' hm => by
  by_cases h2 : m = H.length
  · subst h2; rw [hsn] at hm; cases hm; exact .inl ⟨rfl,rfl⟩
  · by_cases h1 : m = i
    · subst h1; rw [hsi] at hm; cases hm
    · rw [hsβ m h1 h2] at hm; exact .inr ⟨h2,h1,hm⟩
 refine ⟨κs,hks,⟨hr.below,hr.st,fun m x hx => ?_,fun m hm => ?_,fun m b' hb' => ?_,fun m b' o ho => ?_,fun m q b' h1 h2 => ?_,fun m x hx => ?_⟩,fun v hv => ?_,hsβ⟩
 · by_cases h2 : m = H.length
   · subst h2
     rw [show H.length = (H.set i Ob.dead).length by simp,getElem?_app0] at hx
     cases hx
     refine ⟨b,_,hsn,fun ty n he => by cases he; exact ⟨cur,hheap,rfl⟩,fun q r hq => ?_⟩
     simp only [List.getElem?_map,Option.map_eq_some_iff] at hq
     obtain ⟨r0,hr0,rfl⟩ := hq
     refine ⟨by simpa using (hcells q r0 hr0).1,fun y a ha => ?_⟩
     simp only [List.getElem?_map,Option.map_eq_some_iff] at ha
     obtain ⟨x0,hx0,rfl⟩ := ha
     obtain ⟨u,u1,u2⟩ := (hcells q r0 hr0).2 y x0 hx0
     exact ⟨u,by rw [cell_cells hheap]; exact u1,by simp [World.frozen?,hheap],.d u2⟩
   · have hm : m < (H.set i Ob.dead).length := by
      have := (List.getElem?_eq_some_iff.1 hx).1
      simp at this ⊢; omega
     rw [List.getElem?_append_left hm] at hx
     by_cases h1 : i = m
     · subst h1
       rw [List.getElem?_set_self hil] at hx
       cases hx; trivial
     · rw [List.getElem?_set_ne h1] at hx
       exact (hr.ob m x hx).mono hks (hsβ m (Ne.symm h1) h2) fun _ _ => rfl
 · have : H.length + 1 ≤ m := by simpa using hm
   rw [hsβ m (by omega) (by omega)]; exact hr.dom m (by omega)
 · rcases hblk m b' hb' with ⟨-,rfl⟩ | ⟨-,-,h3⟩
   · exact hbx
   · exact hr.ex m b' h3
 · rcases hblk m b' (Bind.block_of_owns ho) with ⟨rfl,rfl⟩ | ⟨h1,h2,h3⟩
   · exact hr.exσ i b' o (by rw [hβ]; rfl)
   · rw [hsβ m h2 h1] at ho; exact hr.exσ m b' o ho
 · rcases hblk m b' h1 with ⟨rfl,rfl⟩ | ⟨a1,a2,a3⟩
   · rcases hblk q b' h2 with ⟨rfl,-⟩ | ⟨c1,c2,c3⟩
     · rfl
     · exact absurd (hr.exd q i b' c3 (by rw [hβ]; rfl)) c2
   · rcases hblk q b' h2 with ⟨rfl,rfl⟩ | ⟨c1,c2,c3⟩
     · exact absurd (hr.exd m i b' a3 (by rw [hβ]; rfl)) a2
     · exact hr.exd m q b' a3 c3
 · by_cases h2 : m = H.length
   · subst h2
     rw [show H.length = (H.set i Ob.dead).length by simp,getElem?_app0] at hx
     cases hx
     simp [Ob.flat,A.flat]
   · have hm : m < (H.set i Ob.dead).length := by
      have := (List.getElem?_eq_some_iff.1 hx).1
      simp at this ⊢; omega
     rw [List.getElem?_append_left hm] at hx
     by_cases h1 : i = m
     · subst h1
       rw [List.getElem?_set_self hil] at hx
       cases hx; rfl
     · rw [List.getElem?_set_ne h1] at hx
       exact hr.fl m x hx
 · cases hv with
   | vsl _ _ _ ad cap hlc hf =>
   rw [hβ] at hf
   have := (hf.2 rfl).2
   cases this
   exact .msl _ _ _ b sz 0 c (.inl ⟨_,hsn⟩) hlc (fun _ => by simp) (fun h0 => by omega)
theorem HR.recell {κ : K} {H : Hp} {w : World} (h : HR κ H w) {j : Nat} {ty : TypeId} {cs cs' : List A} (hj : H[j]? = some (.box ty cs)) (hl : cs'.length = cs.length) (hfl : cs'.all A.flat = true)
 (hv : ∀ (b q : Nat) (a' : A) (v : Value),κ.β j = .blk b → cs'[q]? = some a' → w.cell? ⟨b,q,none⟩ = some v → VR κ v a') : HR κ (H.set j (.box ty cs')) w := by
 have hjl : j < H.length := (List.getElem?_eq_some_iff.1 hj).1
 refine ⟨h.below,h.st,fun m x hx => ?_,fun m hm => h.dom m (by simpa using hm),h.ex,h.exσ,h.exd,fun m x hx => ?_⟩
 · by_cases hm : j = m
   · subst hm
     rw [List.getElem?_set_self hjl] at hx
     cases hx
     obtain ⟨b,h1,h2,h3⟩ := h.ob j _ hj
     refine ⟨b,h1,by rw [h2,hl],fun q a ha => ?_⟩
     have hq : q < cs.length := by rw [← hl]; exact (List.getElem?_eq_some_iff.1 ha).1
     obtain ⟨v,v1,v2,-⟩ := h3 q cs[q] (List.getElem?_eq_getElem hq)
     exact ⟨v,v1,v2,hv b q a v h1 ha v1⟩
   · rw [List.getElem?_set_ne hm] at hx
     exact h.ob m x hx
 · by_cases hm : j = m
   · subst hm
     rw [List.getElem?_set_self hjl] at hx
     cases hx; exact hfl
   · rw [List.getElem?_set_ne hm] at hx
     exact h.fl m x hx
theorem ACall.vecArr {P : Program} {f : FuncId} {H : Hp} {i j q k sz e : Nat} {rows : List (List D)} {ty : TypeId} {cs args : List A} {Q : A → Hp → Prop} (hi : H[i]? = some (.vec sz e k rows)) (hne : rows ≠ []) (hj : H[j]? = some (.box ty cs)) (hq : cs[q]? = some (.vsl i k rows.length))
 (h : ACall P f (.msl H.length 0 rows.length :: args) ((H.set i .dead).set j (.box ty (cs.set q (.msl H.length 0 rows.length))) ++ [.arr sz (rows.map (List.map .d))]) Q) : ACall P f (.vsl i k rows.length :: args) H Q := by
 intro κ w vs hr hl hv
 have hij : i ≠ j := fun e => by subst e; rw [hi] at hj; cases hj
 have hjl : j < H.length := (List.getElem?_eq_some_iff.1 hj).1
 obtain ⟨κs,h1,h2,h3,h4⟩ := hr.vecArr hi hne
 have hj2 : (H.set i .dead ++ [.arr sz (rows.map (List.map .d))])[j]? = some (.box ty cs) := by
  rw [List.getElem?_append_left (by simpa using hjl),List.getElem?_set_ne hij]; exact hj
 have hr2 := h2.recell (cs' := cs.set q (.msl H.length 0 rows.length)) hj2 (by simp) (by
  have := hr.fl j _ hj
  simp only [Ob.flat,List.all_eq_true] at this ⊢
  intro x hx
  rcases List.mem_or_eq_of_mem_set hx with h5 | h5
  · exact this x h5
  · subst h5; rfl) (fun b p a' v hb ha hc => by
  obtain ⟨b',b1,-,b2⟩ := hr.ob j _ hj
  have hbb : b' = b := by
   have := h4 j (Ne.symm hij) (by omega)
   rw [this,b1] at hb
   cases hb; rfl
  subst hbb
  by_cases hpq : q = p
  · subst hpq
    rw [List.getElem?_set_self (List.getElem?_eq_some_iff.1 hq).1] at ha
    cases ha
    obtain ⟨u,u1,-,u2⟩ := b2 q _ hq
    rw [hc] at u1; cases u1
    exact h3 v u2
  · rw [List.getElem?_set_ne hpq] at ha
    obtain ⟨u,u1,-,u2⟩ := b2 p _ ha
    rw [hc] at u1; cases u1
    exact u2.mono h1)
 rw [List.set_append_left _ _ (by simpa using hjl)] at hr2
 refine (h κs w vs hr2 (by simpa using hl) fun m v a hm ha => ?_).mono ?_
 · cases m with
   | zero => simp at ha; subst ha; exact h3 v (hv 0 v _ hm rfl)
   | succ m => exact (hv (m + 1) v a hm (by simpa using ha)).mono h1
 · rintro ev w' ⟨v,κ',x,H',e1,e2,e3,e4,e5⟩
   exact ⟨v,κ',x,H',e1,h1.trans e2,e3,e4,e5⟩
theorem HR.vecNil {κ : K} {H : Hp} {w : World} (hr : HR κ H w) {i sz e : Nat} (hi : H[i]? = some (.vec sz e 0 [])) {v : Value} (hv : VR κ v (.vsl i 0 0)) : VR κ v (.d (.sl true sz [])) := by
 rcases hr.ob i _ hi with ⟨hβ,-,-⟩ | ⟨b,c,cur,hβ,hk,-⟩
 · cases hv with
   | vsl _ _ _ ad cap hlc hf =>
   rw [hβ] at hf
   obtain ⟨-,-,hf⟩ := hf
   rw [hf]
   exact .d (.nilsl sz)
 · exact absurd rfl (hk rfl)
theorem ACall.vecNil {P : Program} {f : FuncId} {H : Hp} {i sz e : Nat} {args : List A} {Q : A → Hp → Prop} (hi : H[i]? = some (.vec sz e 0 [])) (h : ACall P f (.d (.sl true sz []) :: args) H Q) : ACall P f (.vsl i 0 0 :: args) H Q := by
 intro κ w vs hr hl hv
 refine h κ w vs hr (by simpa using hl) fun m v a hm ha => ?_
 cases m with
 | zero => simp at ha; subst ha; exact hr.vecNil hi (hv 0 v _ hm rfl)
 | succ m => exact hv (m + 1) v a hm (by simpa using ha)
theorem nrm_osl {sz t : Nat} {rows : List (List D)} : Nrm (.osl true sz rows t) (.d (.sl rows.isEmpty sz rows)) := fun κ v h => by
 cases h with
 | osl hd ht => exact .d (hd.isE fun _ => rfl)
theorem vr3 {κ : K} {v : Value} {x y z : A} (h : VR κ v (.agg [x,y,z])) : ∃ a b c,v = .agg #[a,b,c] ∧ VR κ a x ∧ VR κ b y ∧ VR κ c z := by
 cases h with
 | agg vs _ hl h =>
   match vs,hl with
   | [a,b,c],_ => exact ⟨a,b,c,rfl,h 0 a x rfl rfl,h 1 b y rfl rfl,h 2 c z rfl rfl⟩
theorem vr3_of {κ : K} {a b c : Value} {x y z : A} (h1 : VR κ a x) (h2 : VR κ b y) (h3 : VR κ c z) : VR κ (.agg #[a,b,c]) (.agg [x,y,z]) := by
 refine .agg [a,b,c] _ rfl fun i v u hv hu => ?_
 match i with
 | 0 => simp at hv hu; subst hv; subst hu; exact h1
 | 1 => simp at hv hu; subst hv; subst hu; exact h2
 | 2 => simp at hv hu; subst hv; subst hu; exact h3
 | i + 3 => simp at hv
theorem ACall.freeze3 {P : Program} {f : FuncId} {args : List A} {H : Hp} {k sz : Nat} {rows : List (List D)} {x y : A} {x' y' : D} (hx : Nrm x (.d x')) (hy : Nrm y (.d y'))
 (h : ACall P f args H (fun r H' => ∃ X : Hp,X[k]? = some (.arr sz (rows.map (List.map .d))) ∧ r = .agg [x,y,.msl (H.length + k) 0 rows.length] ∧ H' = H ++ X)) : ACall P f args H (fun r H' => r = .agg [.d x',.d y',.d (.sl false sz rows)] ∧ H' = H) := by
 intro κ w vs hr hl hv
 refine (h κ w vs hr hl hv).mono ?_
 rintro e w' ⟨v,κ',r,H',h1,h2,h3,h4,X,hX,rfl,rfl⟩
 obtain ⟨a,b,c,rfl,a1,a2,a3⟩ := vr3 h4
 obtain ⟨κ2,k1,k2,k3⟩ := h3.freezeArr (i := H.length + k) (sz := sz) (rows := rows) (by rw [getElem?_appk]; exact hX) a3
 rw [set_appk] at k2
 exact ⟨_,κ2.cut H.length,.agg [.d x',.d y',.d (.sl false sz rows)],Hp.cut H.length (H ++ X.set k .dead),h1,K.le_cut (h2.trans k1) hr.dom,k2.cut _ (by simp),VR.clr H.length (vr3_of ((hx _ _ a1).mono k1) ((hy _ _ a2).mono k1) k3),rfl,cut_app hr.closed _⟩
theorem ACall.freeze3n {P : Program} {f : FuncId} {args : List A} {H : Hp} {k sz e : Nat} {x y : A} {x' y' : D} (hx : Nrm x (.d x')) (hy : Nrm y (.d y'))
 (h : ACall P f args H (fun r H' => ∃ X : Hp,X[k]? = some (.vec sz e 0 []) ∧ r = .agg [x,y,.vsl (H.length + k) 0 0] ∧ H' = H ++ X)) : ACall P f args H (fun r H' => r = .agg [.d x',.d y',.d (.sl true sz [])] ∧ H' = H) := by
 intro κ w vs hr hl hv
 refine (h κ w vs hr hl hv).mono ?_
 rintro ev w' ⟨v,κ',r,H',h1,h2,h3,h4,X,hX,rfl,rfl⟩
 obtain ⟨a,b,c,rfl,a1,a2,a3⟩ := vr3 h4
 have k3 := h3.vecNil (i := H.length + k) (by rw [getElem?_appk]; exact hX) a3
 exact ⟨_,κ'.cut H.length,.agg [.d x',.d y',.d (.sl true sz [])],Hp.cut H.length (H ++ X),h1,K.le_cut h2 hr.dom,h3.cut _ (by simp),VR.clr H.length (vr3_of (hx _ _ a1) (hy _ _ a2) k3),rfl,cut_app hr.closed _⟩
section
theorem cmpInt_cmp : Cmp cmpInt where
 refl x := by simp [cmpInt]
 anti x y := by unfold cmpInt; constructor <;> intro h <;> (split at h <;> split <;> try split) <;> (try split at h) <;> (try omega) <;> simp_all <;> omega
 trans x y z h1 h2 := by
  unfold cmpInt at *
  (repeat' split at h1) <;> (repeat' split at h2) <;> (repeat' split) <;> omega
def cBad (a b : Int × Int) : Int := cmpInt a.1 b.1
theorem cBad_cmp : Cmp cBad := Cmp.on (α := Int × Int) cmpInt_cmp Prod.fst
def scopeM (n : N) : SM := ⟨(allP n).bs,(allP n).ms,ssort cBad (allP n).bad⟩
theorem topsP_snoc (x : N) : ∀ (l : List N) (i : Int) (G : Nms) (S : SM),topsP i (l ++ [x]) G S = (if x.k = 2 then bindP 1 (i + l.length) x (topsP i l G S).1 (topsP i l G S).2 else if x.k = 3 then bindP 2 (i + l.length) x (topsP i l G S).1 (topsP i l G S).2 else topsP i l G S)
 | [],i,G,S => by simp only [List.nil_append,topsP,List.length_nil,Int.natCast_zero,Int.add_zero]
 | y :: r, i, G, S => by
   have e : i + 1 + (r.length : Int) = i + ((y :: r).length : Int) := by simp; omega
   simp only [List.cons_append,topsP]
   split
   · rw [topsP_snoc x r,e]
   · split
     · rw [topsP_snoc x r,e]
     · rw [topsP_snoc x r,e]
theorem defsP_snoc (G : Nms) (x : N) : ∀ (l : List N) (i : Int) (S : SM),defsP G i (l ++ [x]) S = (if x.k = 3 then sclosedP G (i + l.length) x.ks [] false (defsP G i l S) else defsP G i l S)
 | [],i,S => by simp only [List.nil_append,defsP,List.length_nil,Int.natCast_zero,Int.add_zero]
 | y :: r, i, S => by
   have e : i + 1 + (r.length : Int) = i + ((y :: r).length : Int) := by simp; omega
   simp only [List.cons_append,defsP]
   rw [defsP_snoc G x r,e]
theorem tops_grew : ∀ (l : List N) (i : Int) (G : Nms) (S : SM),FOk S.bs.length G → Grew S (topsP i l G S).2 l.length (topsP i l G S).1
 | [],i,G,S,h => ⟨Nat.le_refl _,by simp [topsP],h⟩
 | n :: r, i, G, S, h => by
   simp only [topsP,List.length_cons]
   have step : ∀ k : Int,Grew S (topsP (i + 1) r (bindP k i n G S).1 (bindP k i n G S).2).2 (r.length + 1) (topsP (i + 1) r (bindP k i n G S).1 (bindP k i n G S).2).1 := fun k => by
    have h1 := Grew.bind h k i n
    have h2 := tops_grew r (i + 1) _ _ h1.ok
    refine ⟨Nat.le_trans h1.bs h2.bs,?_,h2.ok⟩
    have := h1.sz; have := h2.sz
    omega
   split
   · exact step 1
   · split
     · exact step 2
     · have h2 := tops_grew r (i + 1) G S h
       exact ⟨h2.bs,by have := h2.sz; omega,h2.ok⟩
theorem defs_grew (G : Nms) : ∀ (l : List N) (i : Int) (S : SM),S.bs.length ≤ (defsP G i l S).bs.length ∧ (defsP G i l S).sz ≤ S.sz + 2 * N.sizes l
 | [],i,S => by simp [defsP]
 | n :: r, i, S => by
   simp only [defsP,N.sizes_cons]
   have h1 := grew_closed (ks := n.ks) (fun p _ => grew p) G i [] false S
   have h3 := N.size_ks n
   split
   · have h2 := defs_grew G r (i + 1) (sclosedP G i n.ks [] false S)
     omega
   · have h2 := defs_grew G r (i + 1) S
     omega
def scC (L : Nat) : SC := ⟨L + 5,L + 2,L + 3,L + 4,L + 7,L + 6⟩
def scY (F : SF) (L : Nat) (bx : Ob) (S : SM) (G : Nms) (it : Int) : Hp := [bx,.box F.tm [.d (.sl true 4 []),.d (.sl true 4 []),.d (.sl true 2 [])],.tok S.bs.length 4 F.bd,.tok S.ms.length 4 F.mn,.vec 2 F.ed S.bad.length (S.bad.map encBad),mbox F (scC L) S,.mp (encNms G),.box F.tb [.ptr (L + 5) 0,.d .nilp,.map (L + 6),.d (.int .i64 it)]]
section
variable {P : Program} {F : SF} {S S' : SM} {G G' : Nms} {H : Hp} {it : Int} {bx : Ob}
theorem scY_inv (X : Hp) : SInv F (scC H.length) S (.d .nilp) it G (H ++ (scY F H.length bx S G it ++ X)) := by
 refine ⟨?_,?_,?_,?_,?_,?_,?_⟩
 · simp only [scC,scY,List.cons_append,List.nil_append,getElem?_appk]; rfl
 · simp only [scC,scY,List.cons_append,List.nil_append,getElem?_appk]; rfl
 · simp only [scC,scY,List.cons_append,List.nil_append,getElem?_appk]; rfl
 · simp only [scC,scY,List.cons_append,List.nil_append,getElem?_appk]; rfl
 · simp only [scC,scY,List.cons_append,List.nil_append,getElem?_appk]; rfl
 · simp only [scC,scY,List.cons_append,List.nil_append,getElem?_appk]; rfl
 · simp only [scC]; omega
theorem scY_nput (X : Hp) : nput F (scC H.length) S' (H.length + 6) G' (H ++ (scY F H.length bx S G it ++ X)) = H ++ (scY F H.length bx S' G' it ++ X) := by
 simp only [nput,sput,scC,scY,List.cons_append,List.nil_append,set_appk]; rfl
theorem scY_sput (X : Hp) : sput F (scC H.length) S' (H ++ (scY F H.length bx S G it ++ X)) = H ++ (scY F H.length bx S' G it ++ X) := by
 simp only [sput,scC,scY,List.cons_append,List.nil_append,set_appk]; rfl
theorem scY_cut (hcl : H.Closed) (hbx : ∀ n,bx.clr n = bx) (X : Hp) : Hp.cut (H.length + 8) (H ++ (scY F H.length bx S G it ++ X)) = H ++ scY F H.length bx S G it := by
 rw [cut_appk hcl]
 have : ((scY F H.length bx S G it ++ X).take 8) = scY F H.length bx S G it := by simp [scY]
 rw [this]
 simp only [scY,List.map_cons,List.map_nil,hbx,encNms_clr]
 rw [mbox_clr (by simp [scC]) (by simp [scC]) (by simp [scC])]
 simp
def scTail (srt cmp : FuncId) : C := .seq (.ops [
    ⟨(some 65),none,.faddr 2 (.t 3)⟩,
    ⟨(some 66),none,.load 1 false (.t 65)⟩,
    ⟨(some 67),none,.call srt [(.t 66),(.c (.fn cmp))]⟩] false)
 (.seq (.ops [
  ⟨(some 68),none,.load 3 true (.t 3)⟩,
  ⟨none,none,.store 3 (.t 2) (.t 68)⟩] false)
 (.ret))
theorem SHas.ofW (hF : SHas P F) (hW : HasW P F) {fof : FuncId} (hof : HasT P [5000003,8200003,6000034,6000043] fof (irScOf F.bind F.closed F.srt F.cmp F.tn F.tm F.tb F.bd F.mn F.ed))
 {k f t : Int} {w : Bs} {a : Int} {z : Bool} {ks : List N} (hn : N.sizes ks ≤ 68719476736) (q : Nat) (K : A → Hp → Prop)
 (hq : H.Closed → ∀ (it : Int) (fr : Fr),fr 3 = .ptr (H.length + 5) 0 → fr 2 = .ptr (H.length + 1) 0 → AWp P H.length (scTail F.srt F.cmp) (Fin [.cell 2 3 true] (H.length + q) K) fr
  (H ++ scY F H.length (.box F.tn [.d (.int .i64 k),.d (.int .i64 f),.d (.int .i64 t),.d (.str w),.d (.int .i64 a),.d (.sl z 6 (ks.map N.enc))]) (defsP (topsP 0 ks [] ⟨[],[],[]⟩).1 0 ks (topsP 0 ks [] ⟨[],[],[]⟩).2) (topsP 0 ks [] ⟨[],[],[]⟩).1 it)) :
 ACall P fof [N.v (.mk k f t w a z ks)] H K := by
 obtain ⟨fn,hf,hcf⟩ := hof
 refine acall_fink q hf hcf (by simp [irScOf]) fun hcl _ => ?_
 have hq := hq hcl
 rw [N.v_mk]
 have hsl := N.sizes_len ks
 obtain ⟨bx,hbx⟩ : ∃ bx,bx = Ob.box F.tn [.d (.int .i64 k),.d (.int .i64 f),.d (.int .i64 t),.d (.str w),.d (.int .i64 a),.d (.sl z 6 (ks.map N.enc))] := ⟨_,rfl⟩
 have hbc : ∀ n,bx.clr n = bx := fun n => by subst hbx; simp
 rw [← hbx] at hq
 simp [irScOf]
 rw [← hbx]
 have hstart : (H ++ [bx,.box F.tm [.d (.sl true 4 []),.d (.sl true 4 []),.d (.sl true 2 [])],.tok 0 4 F.bd,.tok 0 4 F.mn,.vec 2 F.ed 0 [],.box F.tm [.osl true 4 [] (H.length + 2),.osl true 4 [] (H.length + 3),.vsl (H.length + 4) 0 0],.mp [],.box F.tb [.ptr (H.length + 5) 0,.d .nilp,.map (H.length + 6),.d (.int .i64 0)]] : Hp) = H ++ scY F H.length bx ⟨[],[],[]⟩ [] 0 := rfl
 rw [hstart]
 have hbx1 : ∀ S G it X,(H ++ (scY F H.length bx S G it ++ X))[H.length]? = some bx := fun S G it X => by simp only [scY,List.cons_append,getElem?_app0]; rfl
 refine LoopK_out 0 (fun fr' H' => fr' 1 = .ptr H.length 0 ∧ fr' 2 = .ptr (H.length + 1) 0 ∧ fr' 3 = .ptr (H.length + 5) 0 ∧ fr' 4 = .ptr (H.length + 7) 0 ∧ ∃ it,H' = H ++ scY F H.length bx (topsP 0 ks [] ⟨[],[],[]⟩).2 (topsP 0 ks [] ⟨[],[],[]⟩).1 it) ?_ ?_
 · refine RangeK_of (H.length + 8) ks.length (fun j fr' H' => fr' 1 = .ptr H.length 0 ∧ fr' 2 = .ptr (H.length + 1) 0 ∧ fr' 3 = .ptr (H.length + 5) 0 ∧ fr' 4 = .ptr (H.length + 7) 0 ∧ fr' 13 = .d (.sl z 6 (ks.map N.enc)) ∧ ∃ it,H' = H ++ scY F H.length bx (topsP 0 (ks.take j) [] ⟨[],[],[]⟩).2 (topsP 0 (ks.take j) [] ⟨[],[],[]⟩).1 it) (by omega) (by decide) (by simp [scY]) (by simp) ?_ ?_ ?_
   · have hc0 := scY_cut (F := F) (S := ⟨[],[],[]⟩) (G := []) (it := 0) hcl hbc []
     rw [List.append_nil] at hc0
     rw [List.take_zero]
     refine ⟨by simp,by simp,by simp,by simp,by simp,0,?_⟩
     rw [hc0]; rfl
   · rintro j fr' H' hj f9 f8 ⟨f1,f2,f3,f4,f13,it,rfl⟩
     have hr := rowAt_map N.enc hj
     have hll : (ks.take j).length = j := by simp; omega
     have hgr := tops_grew (ks.take j) 0 [] ⟨[],[],[]⟩ (FOk.nil _)
     have hstep := topsP_snoc ks[j] (ks.take j) 0 [] ⟨[],[],[]⟩
     rw [← List.take_succ_eq_append_getElem hj,hll,Int.zero_add] at hstep
     generalize ks[j] = x at hr hstep
     obtain ⟨g1,g2,g3⟩ := hgr
     have hz : SM.sz ⟨[],[],[]⟩ = 0 := rfl
     rw [hll,hz] at g2
     generalize topsP 0 (ks.take j) [] ⟨[],[],[]⟩ = TP at g1 g2 g3 hstep ⊢
     obtain ⟨G1,S1⟩ := TP
     simp only at g1 g2 g3 hstep ⊢
     obtain ⟨k2,f2',t2,w2,a2,z2,ks2⟩ := x
     have gb := fun (X : Hp) (kind : Int) => hF.bind' (scY_inv (F := F) (bx := bx) (S := S1) (G := G1) (it := (j : Int)) (H := H) X) (m := H.length + 6) (es := G1) (by simp only [scY,List.cons_append,List.nil_append,getElem?_appk]; rfl) ⟨⟨by simp only [scC]; omega,by simp only [scC]; omega,by simp only [scC]; omega,by simp only [scC]; omega⟩,by simp only [scC]; omega⟩ (.mk k2 f2' t2 w2 a2 z2 ks2) kind (by omega)
     simp only [scY_nput] at gb
     have hcut := fun (S' : SM) (G' : Nms) X => scY_cut (F := F) (S := S') (G := G') (it := (j : Int)) hcl hbc X
     rw [N.enc_mk] at hr
     rw [N.v_mk] at gb
     have e7 : ∀ (S : SM) (G : Nms) (it : Int) X,(scY F H.length bx S G it ++ X)[7]? = some (.box F.tb [.ptr (H.length + 5) 0,.d .nilp,.map (H.length + 6),.d (.int .i64 it)]) := fun _ _ it X => rfl
     have e8 : ∀ (S : SM) (G : Nms) (it : Int) (x : Ob),(scY F H.length bx S G it ++ [x])[8]? = some x := fun _ _ it x => rfl
     have s8 : ∀ (it : Int) (x y : Ob),(scY F H.length bx S1 G1 it ++ [x]).set 8 y = scY F H.length bx S1 G1 it ++ [y] := fun it x y => rfl
     have s7 : ∀ (it : Int) X,(scY F H.length bx S1 G1 it ++ X).set 7 (.box F.tb [.ptr (H.length + 5) 0,.d .nilp,.map (H.length + 6),.d (.int .i64 (j : Int))]) = scY F H.length bx S1 G1 (j : Int) ++ X := fun it X => rfl
     have lY : ∀ S G it,(scY F H.length bx S G it).length = 8 := fun _ _ _ => rfl
     simp [f9,f13,hr,f4,lY,e7,e8,s8,s7,-getElem?_pos]
     have nxt : ∀ (S' : SM) (G' : Nms) (fr2 : Fr) (X : Hp),fr2 15 = .d (.int .i64 (j : Int)) → fr2 14 = .d (.int .i64 (ks.length : Int)) → fr2 1 = .ptr H.length 0 → fr2 2 = .ptr (H.length + 1) 0 → fr2 3 = .ptr (H.length + 5) 0 → fr2 4 = .ptr (H.length + 7) 0 → fr2 13 = .d (.sl z 6 (ks.map N.enc)) → topsP 0 (ks.take (j + 1)) [] ⟨[],[],[]⟩ = (G',S') →
      NextK (fun j fr' H' => fr' 1 = .ptr H.length 0 ∧ fr' 2 = .ptr (H.length + 1) 0 ∧ fr' 3 = .ptr (H.length + 5) 0 ∧ fr' 4 = .ptr (H.length + 7) 0 ∧ fr' 13 = .d (.sl z 6 (ks.map N.enc)) ∧ ∃ it,H' = H ++ scY F H.length bx (topsP 0 (ks.take j) [] ⟨[],[],[]⟩).2 (topsP 0 (ks.take j) [] ⟨[],[],[]⟩).1 it) .mk (H.length + 8) ks.length 15 14 44 j fr2 (H ++ (scY F H.length bx S' G' (j : Int) ++ X)) := fun S' G' fr2 X u15 u14 u1 u2 u3 u4 u13 hst => by
      refine NextK_of (H.length + 8) (Nat.le_refl _) (by simp [lY,u15,u14]) ?_
      refine ⟨by simp [u1],by simp [u2],by simp [u3],by simp [u4],by simp [u13],j,?_⟩
      rw [hcut,hst]
     by_cases h2 : k2 = 2
     · subst h2
       rw [if_pos (show (N.mk 2 f2' t2 w2 a2 z2 ks2).k = 2 from rfl)] at hstep
       have gb1 := gb [Ob.box F.tn [.d (.int .i64 2),.d (.int .i64 f2'),.d (.int .i64 t2),.d (.str w2),.d (.int .i64 a2),.d (.sl z2 6 (ks2.map N.enc))]] 1
       simp [f4,e7,e8,-getElem?_pos]
       refine CallE_of gb1 ?_
       simp
       refine nxt _ _ _ _ (by simp [f9]) (by simp [f8]) (by simp [f1]) (by simp [f2]) (by simp [f3]) (by simp [f4]) (by simp [f13]) ?_
       rw [hstep]
     · by_cases h3 : k2 = 3
       · subst h3
         rw [if_neg (show ¬ (N.mk 3 f2' t2 w2 a2 z2 ks2).k = 2 from h2),if_pos (show (N.mk 3 f2' t2 w2 a2 z2 ks2).k = 3 from rfl)] at hstep
         have gb1 := gb [Ob.box F.tn [.d (.int .i64 3),.d (.int .i64 f2'),.d (.int .i64 t2),.d (.str w2),.d (.int .i64 a2),.d (.sl z2 6 (ks2.map N.enc))]] 2
         simp [f4,e7,e8,-getElem?_pos]
         refine CallE_of gb1 ?_
         simp
         refine nxt _ _ _ _ (by simp [f9]) (by simp [f8]) (by simp [f1]) (by simp [f2]) (by simp [f3]) (by simp [f4]) (by simp [f13]) ?_
         rw [hstep]
       · rw [if_neg (show ¬ (N.mk k2 f2' t2 w2 a2 z2 ks2).k = 2 from h2),if_neg (show ¬ (N.mk k2 f2' t2 w2 a2 z2 ks2).k = 3 from h3)] at hstep
         simp [h2,h3,f4,e7,e8,-getElem?_pos]
         exact nxt _ _ _ _ (by simp [f9]) (by simp [f8]) (by simp [f1]) (by simp [f2]) (by simp [f3]) (by simp [f4]) (by simp [f13]) hstep
   · rintro fr' H' f9 f8 ⟨f1,f2,f3,f4,f13,it,rfl⟩
     rw [List.take_of_length_le (Nat.le_refl _)]
     simp [f1,f2,f3,f4]
     exact ⟨it,rfl⟩
 · rintro fr' H' ⟨f1,f2,f3,f4,it,rfl⟩
   have hgT := tops_grew ks 0 [] ⟨[],[],[]⟩ (FOk.nil _)
   generalize topsP 0 ks [] ⟨[],[],[]⟩ = TP at hq hgT ⊢
   obtain ⟨G,S0⟩ := TP
   obtain ⟨t1,t2,t3⟩ := hgT
   have hz : SM.sz ⟨[],[],[]⟩ = 0 := rfl
   rw [hz] at t2
   simp only at hq t1 t2 t3 ⊢
   have e0 : ∀ S (it : Int),(scY F H.length bx S G it)[0]? = some bx := fun _ _ => rfl
   have e0' : ∀ S (it : Int) X,(scY F H.length bx S G it ++ X)[0]? = some bx := fun _ _ _ => rfl
   have ebx : (H ++ scY F H.length bx S0 G it)[H.length]? = some bx := by rw [getElem?_app0]; rfl
   rw [hbx] at ebx
   have lY : ∀ S G it,(scY F H.length bx S G it).length = 8 := fun _ _ _ => rfl
   have e7 : ∀ (S : SM) (it : Int) X,(scY F H.length bx S G it ++ X)[7]? = some (.box F.tb [.ptr (H.length + 5) 0,.d .nilp,.map (H.length + 6),.d (.int .i64 it)]) := fun _ it X => rfl
   have e8 : ∀ (S : SM) (it : Int) (x : Ob),(scY F H.length bx S G it ++ [x])[8]? = some x := fun _ it x => rfl
   have s8 : ∀ (S : SM) (it : Int) (x y : Ob),(scY F H.length bx S G it ++ [x]).set 8 y = scY F H.length bx S G it ++ [y] := fun _ it x y => rfl
   have s7 : ∀ (S : SM) (it j : Int) X,(scY F H.length bx S G it ++ X).set 7 (.box F.tb [.ptr (H.length + 5) 0,.d .nilp,.map (H.length + 6),.d (.int .i64 j)]) = scY F H.length bx S G j ++ X := fun _ it j X => rfl
   have e00 : (scY F H.length bx S0 G it)[0]? = some (Ob.box F.tn [.d (.int .i64 k),.d (.int .i64 f),.d (.int .i64 t),.d (.str w),.d (.int .i64 a),.d (.sl z 6 (ks.map N.enc))]) := by rw [← hbx]; rfl
   simp [f1,e00,-getElem?_pos]
   refine LoopK_out 3 (fun fr' H' => fr' 2 = .ptr (H.length + 1) 0 ∧ fr' 3 = .ptr (H.length + 5) 0 ∧ ∃ it,H' = H ++ scY F H.length bx (defsP G 0 ks S0) G it) ?_ ?_
   · refine RangeK_of (H.length + 8) ks.length (fun j fr' H' => fr' 2 = .ptr (H.length + 1) 0 ∧ fr' 3 = .ptr (H.length + 5) 0 ∧ fr' 4 = .ptr (H.length + 7) 0 ∧ fr' 46 = .d (.sl z 6 (ks.map N.enc)) ∧ ∃ it,H' = H ++ scY F H.length bx (defsP G 0 (ks.take j) S0) G it) (by omega) (by decide) (by simp [scY]) (by simp) ?_ ?_ ?_
     · have hc0 := scY_cut (F := F) (S := S0) (G := G) (it := it) hcl hbc []
       rw [List.append_nil] at hc0
       rw [List.take_zero]
       refine ⟨by simp [f2],by simp [f3],by simp [f4],by simp,it,?_⟩
       rw [hc0]; rfl
     · rintro j fr' H' hj f9 f8 ⟨f2,f3,f4,f13,it,rfl⟩
       have hr := rowAt_map N.enc hj
       have hll : (ks.take j).length = j := by simp; omega
       have hgr := defs_grew G (ks.take j) 0 S0
       have hstep := defsP_snoc G ks[j] (ks.take j) 0 S0
       rw [← List.take_succ_eq_append_getElem hj,hll,Int.zero_add] at hstep
       have hsz : N.sizes (ks.take j) + (ks[j]).size ≤ N.sizes ks := by
        have : ks = ks.take j ++ ks[j] :: ks.drop (j + 1) := by rw [List.getElem_cons_drop]; simp
        have e : N.sizes ks = N.sizes (ks.take j) + (ks[j].size + N.sizes (ks.drop (j + 1))) := by conv => lhs; rw [this,N.sizes_app,N.sizes_cons]
        omega
       generalize ks[j] = x at hr hstep hsz
       generalize defsP G 0 (ks.take j) S0 = S1 at hgr hstep ⊢
       obtain ⟨k2,f2',t2',w2,a2,z2,ks2⟩ := x
       rw [N.size_mk] at hsz
       have hcut := fun (S' : SM) X => scY_cut (F := F) (S := S') (G := G) (it := (j : Int)) hcl hbc X
       have hO : ∀ X,OInv F (scC H.length) S1 (.d .nilp) j G [] (H ++ (scY F H.length bx S1 G (j : Int) ++ X)) := fun X => ⟨scY_inv X,rfl,by simp⟩
       have gc := fun X => hF.closed' hW (z := z2) (ks := ks2) (fun p _ => hF.node' hW p) (hO X) false (t3.mono hgr.1) (by simp) (by omega) (by simp; omega)
       simp only [scY_sput,List.map_nil] at gc
       rw [N.enc_mk] at hr
       have nxt : ∀ (S' : SM) (fr2 : Fr) (X : Hp),fr2 48 = .d (.int .i64 (j : Int)) → fr2 47 = .d (.int .i64 (ks.length : Int)) → fr2 2 = .ptr (H.length + 1) 0 → fr2 3 = .ptr (H.length + 5) 0 → fr2 4 = .ptr (H.length + 7) 0 → fr2 46 = .d (.sl z 6 (ks.map N.enc)) → defsP G 0 (ks.take (j + 1)) S0 = S' →
        NextK (fun j fr' H' => fr' 2 = .ptr (H.length + 1) 0 ∧ fr' 3 = .ptr (H.length + 5) 0 ∧ fr' 4 = .ptr (H.length + 7) 0 ∧ fr' 46 = .d (.sl z 6 (ks.map N.enc)) ∧ ∃ it,H' = H ++ scY F H.length bx (defsP G 0 (ks.take j) S0) G it) .mk (H.length + 8) ks.length 48 47 64 j fr2 (H ++ (scY F H.length bx S' G (j : Int) ++ X)) := fun S' fr2 X u15 u14 u2 u3 u4 u13 hst => by
        refine NextK_of (H.length + 8) (Nat.le_refl _) (by simp [lY,u15,u14]) ?_
        refine ⟨by simp [u2],by simp [u3],by simp [u4],by simp [u13],j,?_⟩
        rw [hcut,hst]
       by_cases h3 : k2 = 3
       · subst h3
         rw [if_pos (show (N.mk 3 f2' t2' w2 a2 z2 ks2).k = 3 from rfl)] at hstep
         simp [f9,f13,hr,f4,lY,e7,e8,s8,s7,-getElem?_pos]
         refine CallK_of' (gc _) ?_
         simp
         exact nxt _ _ _ (by simp [f9]) (by simp [f8]) (by simp [f2]) (by simp [f3]) (by simp [f4]) (by simp [f13]) hstep
       · rw [if_neg (show ¬ (N.mk k2 f2' t2' w2 a2 z2 ks2).k = 3 from h3)] at hstep
         simp [f9,f13,hr,f4,lY,e7,e8,s8,s7,h3,-getElem?_pos]
         exact nxt _ _ _ (by simp [f9]) (by simp [f8]) (by simp [f2]) (by simp [f3]) (by simp [f4]) (by simp [f13]) hstep
     · rintro fr' H' f9 f8 ⟨f2,f3,f4,f13,it,rfl⟩
       rw [List.take_of_length_le (Nat.le_refl _)]
       simp [f2,f3]
       exact ⟨it,rfl⟩
   · rintro fr' H' ⟨f2,f3,it,rfl⟩
     exact hq it fr' f3 f2
end
end
section
section
variable {P : Program} {F : SF} {H : Hp}
theorem SHas.of' (hF : SHas P F) (hW : HasW P F) {fof : FuncId} (hof : HasT P [5000003,8200003,6000034,6000043] fof (irScOf F.bind F.closed F.srt F.cmp F.tn F.tm F.tb F.bd F.mn F.ed))
 (hs : ∀ (H : Hp) (i : Nat) (L : List (Int × Int)),H[i]? = some (arrE encBad 2 L) → L.length ≤ 1099511627776 → ACall P F.srt [.msl i 0 L.length,.d (.fn F.cmp)] H (fun r H' => r = .tup [] ∧ H' = H.set i (arrE encBad 2 (ssort cBad L))))
 (hs0 : ∀ (H : Hp),ACall P F.srt [.d (.sl true 2 []),.d (.fn F.cmp)] H (fun r H' => r = .tup [] ∧ H' = H)) (n : N) (hn : n.size ≤ 68719476736) (H : Hp) :
 ACall P fof [n.v] H (fun r H' => r = .agg ((scopeM n).enc.map .d) ∧ H' = H) := by
 obtain ⟨k,f,t,w,a,z,ks⟩ := n
 rw [N.size_mk] at hn
 have hsl := N.sizes_len ks
 have hall : allP (.mk k f t w a z ks) = defsP (topsP 0 ks [] ⟨[],[],[]⟩).1 0 ks (topsP 0 ks [] ⟨[],[],[]⟩).2 := rfl
 have hall2 : (defsP (topsP 0 ks [] ⟨[],[],[]⟩).1 0 ks (topsP 0 ks [] ⟨[],[],[]⟩).2).sz ≤ 4 * N.sizes ks := by
  have h1 := (tops_grew ks 0 [] ⟨[],[],[]⟩ (FOk.nil _)).sz
  have h2 := (defs_grew (topsP 0 ks [] ⟨[],[],[]⟩).1 ks 0 (topsP 0 ks [] ⟨[],[],[]⟩).2).2
  have h3 : SM.sz ⟨[],[],[]⟩ = 0 := rfl
  omega
 have hw := hF.ofW hW hof (H := H) (k := k) (f := f) (t := t) (w := w) (a := a) (z := z) (ks := ks) (by omega)
 unfold scopeM
 rw [hall]
 obtain ⟨bx,hbx⟩ : ∃ bx,bx = Ob.box F.tn [.d (.int .i64 k),.d (.int .i64 f),.d (.int .i64 t),.d (.str w),.d (.int .i64 a),.d (.sl z 6 (ks.map N.enc))] := ⟨_,rfl⟩
 have hbc : ∀ n,bx.clr n = bx := fun n => by subst hbx; simp
 rw [← hbx] at hw
 generalize defsP (topsP 0 ks [] ⟨[],[],[]⟩).1 0 ks (topsP 0 ks [] ⟨[],[],[]⟩).2 = S at hw hall2 ⊢
 generalize (topsP 0 ks [] ⟨[],[],[]⟩).1 = G at hw
 have hbl : S.bad.length ≤ 1099511627776 := by unfold SM.sz at hall2; omega
 obtain ⟨bs,ms,bad⟩ := S
 simp only at hbl
 by_cases hb : bad = []
 · subst hb
   have hso : ssort cBad ([] : List (Int × Int)) = [] := rfl
   rw [hso]
   have hgoal : (SM.enc ⟨bs,ms,[]⟩).map A.d = [.d (.sl (bs.map encBd).isEmpty 4 (bs.map encBd)),.d (.sl (ms.map encMn).isEmpty 4 (ms.map encMn)),.d (.sl true 2 [])] := by
    simp [SM.enc]
   rw [hgoal]
   refine ACall.freeze3n (k := 4) (e := F.ed) (nrm_osl (t := H.length + 2)) (nrm_osl (t := H.length + 3)) ?_
   refine hw 5 _ fun hcl it fr f3 f2 => ?_
   have y5 : (scY F H.length bx ⟨bs,ms,[]⟩ G it)[5]? = some (.box F.tm [.osl true 4 (bs.map encBd) (H.length + 2),.osl true 4 (ms.map encMn) (H.length + 3),.vsl (H.length + 4) 0 0]) := rfl
   have y1 : (scY F H.length bx ⟨bs,ms,[]⟩ G it)[1]? = some (.box F.tm [.d (.sl true 4 []),.d (.sl true 4 []),.d (.sl true 2 [])]) := rfl
   have y4 : (H ++ scY F H.length bx ⟨bs,ms,[]⟩ G it)[H.length + 4]? = some (.vec 2 F.ed 0 []) := by rw [getElem?_appk]; rfl
   simp [scTail,f3,y5,-getElem?_pos]
   refine CallK_of' (ACall.vecNil y4 (hs0 _)) ?_
   simp [f3,f2,y5,y1,-getElem?_pos]
   have lY : (scY F H.length bx ⟨bs,ms,[]⟩ G it).length = 8 := rfl
   have y1' : ((scY F H.length bx ⟨bs,ms,[]⟩ G it).set 1 (.box F.tm [.osl true 4 (bs.map encBd) (H.length + 2),.osl true 4 (ms.map encMn) (H.length + 3),.vsl (H.length + 4) 0 0]))[1]? = some (.box F.tm [.osl true 4 (bs.map encBd) (H.length + 2),.osl true 4 (ms.map encMn) (H.length + 3),.vsl (H.length + 4) 0 0]) := rfl
   have hcut : ∃ X : Hp,X[4]? = some (.vec 2 F.ed 0 []) ∧ Hp.cut (H.length + 5) (H ++ (scY F H.length bx ⟨bs,ms,[]⟩ G it).set 1 (.box F.tm [.osl true 4 (bs.map encBd) (H.length + 2),.osl true 4 (ms.map encMn) (H.length + 3),.vsl (H.length + 4) 0 0])) = H ++ X := ⟨_,rfl,cut_appk hcl _ _⟩
   simp [RetK,resA,f2,y1',lY,-getElem?_pos]
   exact hcut
 · have hne : bad.map encBad ≠ [] := by simpa using hb
   have hbz : bad.length = (ssort cBad bad).length := (ssort_length cBad_cmp bad).symm
   have hbe : (ssort cBad bad).isEmpty = false := by
    cases hq : ssort cBad bad with
    | nil => rw [hq] at hbz; simp at hbz; exact absurd hbz hb
    | cons x r => rfl
   have hgoal : (SM.enc ⟨bs,ms,ssort cBad bad⟩).map A.d = [.d (.sl (bs.map encBd).isEmpty 4 (bs.map encBd)),.d (.sl (ms.map encMn).isEmpty 4 (ms.map encMn)),.d (.sl false 2 ((ssort cBad bad).map encBad))] := by
    simp [SM.enc,hbe]
   rw [hgoal]
   refine ACall.freeze3 (k := 8) (nrm_osl (t := H.length + 2)) (nrm_osl (t := H.length + 3)) ?_
   refine hw 9 _ fun hcl it fr f3 f2 => ?_
   have y5 : (scY F H.length bx ⟨bs,ms,bad⟩ G it)[5]? = some (.box F.tm [.osl true 4 (bs.map encBd) (H.length + 2),.osl true 4 (ms.map encMn) (H.length + 3),.vsl (H.length + 4) bad.length bad.length]) := rfl
   have y4 : (H ++ scY F H.length bx ⟨bs,ms,bad⟩ G it)[H.length + 4]? = some (.vec 2 F.ed bad.length (bad.map encBad)) := by rw [getElem?_appk]; rfl
   have y5' : (H ++ scY F H.length bx ⟨bs,ms,bad⟩ G it)[H.length + 5]? = some (.box F.tm [.osl true 4 (bs.map encBd) (H.length + 2),.osl true 4 (ms.map encMn) (H.length + 3),.vsl (H.length + 4) bad.length bad.length]) := by rw [getElem?_appk]; rfl
   have hl8 : (H ++ scY F H.length bx ⟨bs,ms,bad⟩ G it).length = H.length + 8 := by simp [scY]
   have gs := hs ((((H ++ scY F H.length bx ⟨bs,ms,bad⟩ G it).set (H.length + 4) .dead).set (H.length + 5) (.box F.tm [.osl true 4 (bs.map encBd) (H.length + 2),.osl true 4 (ms.map encMn) (H.length + 3),.msl (H.length + 8) 0 bad.length])) ++ [arrE encBad 2 bad]) (H.length + 8) bad
    (by rw [List.getElem?_append_right (by simp [scY]),show H.length + 8 - _ = 0 by simp [scY]]; rfl) hbl
   have gv := ACall.vecArr (P := P) (f := F.srt) (q := 2) (args := [.d (.fn F.cmp)]) (Q := fun r H' => r = .tup [] ∧ H' = ((((H ++ scY F H.length bx ⟨bs,ms,bad⟩ G it).set (H.length + 4) .dead).set (H.length + 5) (.box F.tm [.osl true 4 (bs.map encBd) (H.length + 2),.osl true 4 (ms.map encMn) (H.length + 3),.msl (H.length + 8) 0 bad.length])) ++ [arrE encBad 2 (ssort cBad bad)]))
    y4 hne y5' (by simp) (by
     rw [hl8,List.length_map,← arrE_map]
     refine gs.mono ?_
     rintro r H' ⟨rfl,rfl⟩
     refine ⟨rfl,?_⟩
     rw [List.set_append_right _ _ (by simp [scY]),show H.length + 8 - _ = 0 by simp [scY]]; rfl)
   rw [List.length_map] at gv
   simp [scTail,f3,y5,-getElem?_pos]
   refine CallK_of' gv ?_
   rw [List.set_append_right _ _ (by omega),List.set_append_right _ _ (by simp)]
   simp only [Nat.add_sub_cancel_left]
   obtain ⟨Z,hZ⟩ : ∃ Z,Z = (((scY F H.length bx ⟨bs,ms,bad⟩ G it).set 4 .dead).set 5 (.box F.tm [.osl true 4 (bs.map encBd) (H.length + 2),.osl true 4 (ms.map encMn) (H.length + 3),.msl (H.length + 8) 0 bad.length]) ++ [arrE encBad 2 (ssort cBad bad)]) := ⟨_,rfl⟩
   have z5 : Z[5]? = some (.box F.tm [.osl true 4 (bs.map encBd) (H.length + 2),.osl true 4 (ms.map encMn) (H.length + 3),.msl (H.length + 8) 0 bad.length]) := by subst hZ; rfl
   have z1 : Z[1]? = some (.box F.tm [.d (.sl true 4 []),.d (.sl true 4 []),.d (.sl true 2 [])]) := by subst hZ; rfl
   have z1' : (Z.set 1 (.box F.tm [.osl true 4 (bs.map encBd) (H.length + 2),.osl true 4 (ms.map encMn) (H.length + 3),.msl (H.length + 8) 0 bad.length]))[1]? = some (.box F.tm [.osl true 4 (bs.map encBd) (H.length + 2),.osl true 4 (ms.map encMn) (H.length + 3),.msl (H.length + 8) 0 bad.length]) := by subst hZ; rfl
   have lZ : Z.length = 9 := by subst hZ; rfl
   have hcut : ∃ X : Hp,X[8]? = some (.arr 2 (((ssort cBad bad).map encBad).map (List.map .d))) ∧ Hp.cut (H.length + 9) (H ++ Z.set 1 (.box F.tm [.osl true 4 (bs.map encBd) (H.length + 2),.osl true 4 (ms.map encMn) (H.length + 3),.msl (H.length + 8) 0 bad.length])) = H ++ X := by
    refine ⟨_,?_,cut_appk hcl _ _⟩
    subst hZ
    have : (Ob.clr (H.length + 9) (arrE encBad 2 (ssort cBad bad))) = .arr 2 (((ssort cBad bad).map encBad).map (List.map .d)) := by rw [← arrE_map]; exact arrE_clr ..
    rw [← this]; rfl
   rw [List.append_assoc,← hZ]
   simp [f3,f2,z5,z1,-getElem?_pos]
   simp [RetK,resA,f2,z1',lZ,hbz,-getElem?_pos]
   rw [hbz] at hcut
   simpa using hcut
end
end
section
structure RSF where
 (rbind rclosed rbegin rnode rmention : FuncId)
 (tn rtm rnm red rbd rmn : TypeId)
structure RSC where
 (im tb tm td : Nat)
section
variable {F : RSF} {c : RSC} {S S' : SM} {H : Hp}
end
section
variable {P : Program} {F : RSF} {c : RSC} {S S' : SM} {H : Hp}
end
end
section
section
variable {P : Program} {F : RSF} {c : RSC} {S S' : SM} {H : Hp}
end
end
section
section
variable {P : Program} {F : RSF} {c : RSC} {S S' : SM} {H : Hp}
end
end
section
section
variable {P : Program} {F : RSF} {c : RSC} {S S' : SM} {H : Hp}
end
end
section
section
variable {P : Program} {F : RSF} {S S' : SM} {H : Hp} {bx : Ob}
end
end
section
mutual
def szN (d : Nat) (m : Int) : N → Int
 | .mk _ _ _ _ _ _ ks => if d = 0 then m + 1 else szL d m 1 ks
def szL (d : Nat) (m c : Int) : List N → Int
 | [] => c
 | x :: r => if c ≤ m then szL d m (c + szN (d - 1) (m - c) x) r else c
end
mutual
theorem szN_bd : ∀ (n : N) (d : Nat) (m : Int),0 ≤ m → 1 ≤ szN d m n ∧ szN d m n ≤ m + 1
 | .mk k f t w a z ks, d, m, h => by
   rw [szN]
   split
   · omega
   · have := szL_bd ks d m 1 h (by omega) (by omega); omega
theorem szL_bd : ∀ (l : List N) (d : Nat) (m c : Int),0 ≤ m → 1 ≤ c → c ≤ m + 1 → c ≤ szL d m c l ∧ szL d m c l ≤ m + 1
 | [],d,m,c,_,_,h => by rw [szL]; omega
 | x :: r, d, m, c, h0, h1, h2 => by
   rw [szL]
   split
   · rename_i h
     have h3 := szN_bd x (d - 1) (m - c) (by omega)
     have h4 := szL_bd r d m (c + szN (d - 1) (m - c) x) h0 (by omega) (by omega)
     omega
   · omega
end
theorem szL_over {d : Nat} {m c : Int} (h : m < c) (l : List N) : szL d m c l = c := by
 cases l with
 | nil => rw [szL]
 | cons x r => rw [szL,if_neg (by omega)]
section
variable {P : Program}
theorem Has.scSize {f tn : Nat} (hf : Has P f (irScSize f tn)) (n : N) : ∀ (d : Nat) (m : Int) (H : Hp),0 ≤ m → m ≤ 1099511627776 → d ≤ 1099511627776 →
 ACall P f [n.v,.d (.int .i64 m),.d (.int .i64 (d : Int))] H (fun r H' => r = .d (.int .i64 (szN d m n)) ∧ H' = H) := by
 induction n using N.ind with
 | h k f' t w a z ks ih =>
 intro d m H hm0 hm hd
 obtain ⟨fn,hff,hcf⟩ := hf
 refine acall_fin hff hcf (by simp [irScSize]) fun hcl _ => ?_
 rw [N.v_mk]
 obtain ⟨bx,hbx⟩ : ∃ bx,bx = Ob.box tn [.d (.int .i64 k),.d (.int .i64 f'),.d (.int .i64 t),.d (.str w),.d (.int .i64 a),.d (.sl z 6 (ks.map N.enc))] := ⟨_,rfl⟩
 have hbc : ∀ n,bx.clr n = bx := fun n => by subst hbx; simp
 have hw1 : IntKind.i64.wrap (m + 1) = m + 1 := wrap_i64 (by omega) (by omega)
 rw [szN]
 by_cases hd0 : d = 0
 · subst hd0
   simp [irScSize,hw1]
   simp [RetK,resA,cut_app hcl]
 · have hd1 : ¬ (d : Int) = 0 := by omega
   rw [if_neg hd0]
   have hc1 : Hp.cut (H.length + 1) (H ++ [bx]) = H ++ [bx] := by rw [cut_appk hcl]; simp [hbc,-Ob.clr]
   have e0 : (H ++ [bx])[H.length]? = some (Ob.box tn [.d (.int .i64 k),.d (.int .i64 f'),.d (.int .i64 t),.d (.str w),.d (.int .i64 a),.d (.sl z 6 (ks.map N.enc))]) := by rw [← hbx]; simp
   simp [irScSize,hd0]
   rw [← hbx]
   have hR := szL_bd ks d m 1 hm0 (by omega) (by omega)
   generalize hRR : szL d m 1 ks = R at hR ⊢
   refine LoopK_out 0 (fun fr H' => fr 7 = .d (.int .i64 R) ∧ H' = H ++ [bx]) ?_ ?_
   · refine ForK_of (H.length + 1) (m.toNat + 2) (fun j fr H' => fr 1 = .d (.int .i64 m) ∧ fr 2 = .d (.int .i64 (d : Int)) ∧ fr 3 = .ptr H.length 0 ∧ H' = H ++ [bx] ∧ ∃ c : Int,fr 7 = .d (.int .i64 c) ∧ (j : Int) + 1 ≤ c ∧ c ≤ m + 1 ∧ szL d m c (ks.drop j) = R) (by omega) (by decide) (by simp) (by simp) ?_ ?_
     · exact ⟨by simp,by simp,by simp,hc1,1,by simp,by omega,by omega,by simpa using hRR⟩
     · rintro j fr H' hj f8 ⟨f1,f2,f3,rfl,c,f7,hc,hcm,hcR⟩
       by_cases hlt : j < ks.length
       · have hr := rowAt_map N.enc hlt
         have hlt' : (j : Int) < (ks.length : Int) := by omega
         by_cases hle : c ≤ m
         · have hdr : ks.drop j = ks[j] :: ks.drop (j + 1) := List.drop_eq_getElem_cons hlt
           rw [hdr,szL,if_pos hle] at hcR
           have gn := fun H => ih ks[j] (List.getElem_mem hlt) (d - 1) (m - c) H (by omega) (by omega) (by omega)
           have hbd := szN_bd ks[j] (d - 1) (m - c) (by omega)
           generalize ks[j] = x at hr gn hcR hbd
           obtain ⟨k2,f2',t2,w2,a2,z2,ks2⟩ := x
           rw [N.enc_mk] at hr
           rw [N.v_mk] at gn
           have hd' : ((d - 1 : Nat) : Int) = (d : Int) - 1 := by omega
           rw [hd'] at gn
           have hw2 : IntKind.i64.wrap (m - c) = m - c := wrap_i64 (by omega) (by omega)
           have hw3 : IntKind.i64.wrap ((d : Int) - 1) = (d : Int) - 1 := wrap_i64 (by omega) (by omega)
           generalize szN (d - 1) (m - c) (N.mk k2 f2' t2 w2 a2 z2 ks2) = y at gn hcR hbd
           have hw4 : IntKind.i64.wrap (c + y) = c + y := wrap_i64 (by omega) (by omega)
           simp [f8,f3,f1,f2,f7,e0,hlt',hle,hr,hw2,hw3,-getElem?_pos]
           refine CallK_of' (gn _) ?_
           simp [hw4]
           refine NextF_of (H.length + 1) (Nat.le_refl _) (by omega) (by simp [f8]) ?_
           exact ⟨by simp [f1],by simp [f2],by simp [f3],hc1,c + y,by simp,by omega,by omega,hcR⟩
         · rw [szL_over (by omega)] at hcR
           simp [f8,f3,f1,f2,f7,e0,hlt',hle,-getElem?_pos]
           exact hcR
       · have hlt' : ¬ (j : Int) < (ks.length : Int) := by omega
         rw [List.drop_of_length_le (by omega),szL] at hcR
         simp [f8,f3,f1,f2,f7,e0,hlt',-getElem?_pos]
         exact hcR
   · rintro fr H' ⟨f7,rfl⟩
     simp [f7,RetK,resA,cut_app hcl]
theorem Has.scSmall {f g tn : Nat} (hg : Has P g (irScSize g tn)) (hf : Has P f (irScSmall g tn)) (n : N) (d : Nat) (m : Int) (H : Hp) (hm0 : 0 ≤ m) (hm : m ≤ 1099511627776) (hd : d ≤ 1099511627776) :
 ACall P f [n.v,.d (.int .i64 m),.d (.int .i64 (d : Int))] H (fun r H' => r = .d (.bool (decide (szN d m n ≤ m))) ∧ H' = H) := by
 obtain ⟨fn,hff,hcf⟩ := hf
 refine acall_fin hff hcf (by simp [irScSmall]) fun hcl _ => ?_
 have gn := fun H => hg.scSize n d m H hm0 hm hd
 obtain ⟨k,f',t,w,a,z,ks⟩ := n
 rw [N.v_mk] at gn ⊢
 simp [irScSmall]
 refine CallK_of' (gn _) ?_
 simp [RetK,resA,cut_app hcl]
end
end
theorem HR.vecArr2 {κ : K} {H : Hp} {w : World} (hr : HR κ H w) {i k sz e : Nat} {rows : List (List D)} (hi : H[i]? = some (.vec sz e k rows)) (hne : rows ≠ []) :
 ∃ κs,κ.le κs ∧ HR κs (H.set i .dead ++ [.arr sz (rows.map (List.map .d))]) w ∧ (∀ v,VR κ v (.vsl i k rows.length) → VR κs v (.msl H.length 0 rows.length)) ∧ (∀ m,m ≠ i → m ≠ H.length → κs.β m = κ.β m) ∧ ∃ b c n,κ.β i = .vec b c rows.length k sz ∧ κs.β H.length = .arr b sz (some (e,n)) ∧ (k = 0 → rows ≠ []) ∧ rows.length ≤ c ∧ c * sz ≤ n := by
 have hil : i < H.length := (List.getElem?_eq_some_iff.1 hi).1
 rcases hr.ob i _ hi with ⟨-,-,h0⟩ | ⟨b,c,cur,hβ,hk0,hheap,hle0,hsz,hcells⟩
 · exact absurd h0 hne
 have hpos : 0 < rows.length := List.length_pos_iff.2 hne
 have hbx := hr.ex i b (by rw [hβ]; rfl)
 have hn : κ.β H.length = .none := hr.dom _ (Nat.le_refl _)
 let κs : K := { κ with β := upd (upd κ.β i .deadT) H.length (.arr b sz (some (e,cur.size))) }
 have hsβ : ∀ m,m ≠ i → m ≠ H.length → κs.β m = κ.β m := fun m h1 h2 => by
  show upd (upd κ.β i _) H.length _ m = _
  rw [upd_ne _ _ h2,upd_ne _ _ h1]
 have hsi : κs.β i = .deadT := by
  show upd (upd κ.β i _) H.length _ i = _
  rw [upd_ne _ _ (by omega),upd_same]
 have hsn : κs.β H.length = .arr b sz (some (e,cur.size)) := upd_same _ _ _
 have hks : κ.le κs := ⟨rfl,fun _ _ _ h => h,fun m => by
  by_cases h1 : m = i
  · subst h1; rw [hsi,hβ]; exact .inr (.inl rfl)
  · by_cases h2 : m = H.length
    · subst h2; rw [hn]; trivial
    · rw [hsβ m h1 h2]; exact Bind.le_refl _⟩
 have hblk : ∀ m b',(κs.β m).block = some b' → (m = H.length ∧ b' = b) ∨ (m ≠ H.length ∧ m ≠ i ∧ (κ.β m).block = some b') := fun m b' hm => by
  by_cases h2 : m = H.length
  · subst h2; rw [hsn] at hm; cases hm; exact .inl ⟨rfl,rfl⟩
  · by_cases h1 : m = i
    · subst h1; rw [hsi] at hm; cases hm
    · rw [hsβ m h1 h2] at hm; exact .inr ⟨h2,h1,hm⟩
 refine ⟨κs,hks,⟨hr.below,hr.st,fun m x hx => ?_,fun m hm => ?_,fun m b' hb' => ?_,fun m b' o ho => ?_,fun m q b' h1 h2 => ?_,fun m x hx => ?_⟩,fun v hv => ?_,hsβ,b,c,cur.size,hβ,hsn,hk0,hle0,hsz⟩
 · by_cases h2 : m = H.length
   · subst h2
     rw [show H.length = (H.set i Ob.dead).length by simp,getElem?_app0] at hx
     cases hx
     refine ⟨b,_,hsn,fun ty n he => by cases he; exact ⟨cur,hheap,rfl⟩,fun q r hq => ?_⟩
     simp only [List.getElem?_map,Option.map_eq_some_iff] at hq
     obtain ⟨r0,hr0,rfl⟩ := hq
     refine ⟨by simpa using (hcells q r0 hr0).1,fun y a ha => ?_⟩
     simp only [List.getElem?_map,Option.map_eq_some_iff] at ha
     obtain ⟨x0,hx0,rfl⟩ := ha
     obtain ⟨u,u1,u2⟩ := (hcells q r0 hr0).2 y x0 hx0
     exact ⟨u,by rw [cell_cells hheap]; exact u1,by simp [World.frozen?,hheap],.d u2⟩
   · have hm : m < (H.set i Ob.dead).length := by
      have := (List.getElem?_eq_some_iff.1 hx).1
      simp at this ⊢; omega
     rw [List.getElem?_append_left hm] at hx
     by_cases h1 : i = m
     · subst h1
       rw [List.getElem?_set_self hil] at hx
       cases hx; trivial
     · rw [List.getElem?_set_ne h1] at hx
       exact (hr.ob m x hx).mono hks (hsβ m (Ne.symm h1) h2) fun _ _ => rfl
 · have : H.length + 1 ≤ m := by simpa using hm
   rw [hsβ m (by omega) (by omega)]; exact hr.dom m (by omega)
 · rcases hblk m b' hb' with ⟨-,rfl⟩ | ⟨-,-,h3⟩
   · exact hbx
   · exact hr.ex m b' h3
 · rcases hblk m b' (Bind.block_of_owns ho) with ⟨rfl,rfl⟩ | ⟨h1,h2,h3⟩
   · exact hr.exσ i b' o (by rw [hβ]; rfl)
   · rw [hsβ m h2 h1] at ho; exact hr.exσ m b' o ho
 · rcases hblk m b' h1 with ⟨rfl,rfl⟩ | ⟨a1,a2,a3⟩
   · rcases hblk q b' h2 with ⟨rfl,-⟩ | ⟨c1,c2,c3⟩
     · rfl
     · exact absurd (hr.exd q i b' c3 (by rw [hβ]; rfl)) c2
   · rcases hblk q b' h2 with ⟨rfl,rfl⟩ | ⟨c1,c2,c3⟩
     · exact absurd (hr.exd m i b' a3 (by rw [hβ]; rfl)) a2
     · exact hr.exd m q b' a3 c3
 · by_cases h2 : m = H.length
   · subst h2
     rw [show H.length = (H.set i Ob.dead).length by simp,getElem?_app0] at hx
     cases hx
     simp [Ob.flat,A.flat]
   · have hm : m < (H.set i Ob.dead).length := by
      have := (List.getElem?_eq_some_iff.1 hx).1
      simp at this ⊢; omega
     rw [List.getElem?_append_left hm] at hx
     by_cases h1 : i = m
     · subst h1
       rw [List.getElem?_set_self hil] at hx
       cases hx; rfl
     · rw [List.getElem?_set_ne h1] at hx
       exact hr.fl m x hx
 · cases hv with
   | vsl _ _ _ ad cap hlc hf =>
   rw [hβ] at hf
   have := (hf.2 rfl).2
   cases this
   exact .msl _ _ _ b sz 0 c (.inl ⟨_,hsn⟩) hlc (fun _ => by simp) (fun h0 => by omega)
theorem ACall.vecCall {P : Program} {f : FuncId} {H1 : Hp} {k sz e : Nat} {rows rows' : List (List D)} {args : List A} (hcl : H1.Closed) (hne : rows ≠ []) (hl : rows'.length = rows.length)
 (h : ACall P f (.msl (H1.length + 1) 0 rows.length :: args) (H1 ++ [.dead,.arr sz (rows.map (List.map .d))]) (fun r H' => r = .tup [] ∧ H' = H1 ++ [.dead,.arr sz (rows'.map (List.map .d))])) :
 ACall P f (.vsl H1.length k rows.length :: args) (H1 ++ [.vec sz e k rows]) (fun r H' => r = .tup [] ∧ H' = H1 ++ [.vec sz e k rows']) := by
 intro κ w vs hr hlen hv
 have hi : (H1 ++ [Ob.vec sz e k rows])[H1.length]? = some (.vec sz e k rows) := by simp
 obtain ⟨κs,h1,h2,h3,h4,b,c,n,p1,p2,p3,p4,p5⟩ := hr.vecArr2 hi hne
 have hH : (H1 ++ [Ob.vec sz e k rows]).set H1.length .dead ++ [.arr sz (rows.map (List.map .d))] = H1 ++ [.dead,.arr sz (rows.map (List.map .d))] := by
  rw [List.set_append_right _ _ (Nat.le_refl _)]; simp
 have hL : (H1 ++ [Ob.vec sz e k rows]).length = H1.length + 1 := by simp
 rw [hH] at h2
 rw [hL] at h3 h4 p2
 refine (h κs w vs h2 (by simpa using hlen) fun m v a hm ha => ?_).mono ?_
 · cases m with
   | zero => simp at ha; subst ha; exact h3 v (hv 0 v _ hm rfl)
   | succ m => exact (hv (m + 1) v a hm (by simpa using ha)).mono h1
 · rintro ev w' ⟨v,κ',r,H',q1,q2,q3,q4,rfl,rfl⟩
   have a1 : (H1 ++ [Ob.dead,.arr sz (rows'.map (List.map A.d))])[H1.length + 1]? = some (.arr sz (rows'.map (List.map .d))) := by
    rw [getElem?_appk]; rfl
   obtain ⟨b',s',b1,b2,b3⟩ := q3.ob _ _ a1
   have hle := q2.β (H1.length + 1)
   rw [p2,b1] at hle
   have hbs : b' = b ∧ s' = some (e,n) := by
    simp only [Bind.le] at hle
    rcases hle with hle | hle <;> cases hle
    exact ⟨rfl,rfl⟩
   obtain ⟨rfl,rfl⟩ := hbs
   obtain ⟨cur,c1,c2⟩ := b2 e n rfl
   have hcut := q3.cut H1.length (by simp)
   have hHc : Hp.cut H1.length (H1 ++ [Ob.dead,.arr sz (rows'.map (List.map A.d))]) = H1 := cut_app hcl _
   rw [hHc] at hcut
   let κc : K := κ'.cut H1.length
   let κ2 : K := { κc with β := upd κc.β H1.length (.vec b' c rows'.length k sz) }
   have hcn : κc.β H1.length = .none := hcut.dom _ (Nat.le_refl _)
   have hle2 : κc.le κ2 := K.le_upd hcn _
   have hκ2 : κ.le κ2 := by
    refine ⟨q2.w0.trans h1.w0,fun b o v hb => q2.σ _ _ _ (h1.σ _ _ _ hb),fun m => ?_⟩
    by_cases hm : m = H1.length
    · subst hm
      show (κ.β H1.length).le (upd κc.β H1.length _ H1.length)
      rw [upd_same,p1,hl]; exact Bind.le_refl _
    · show (κ.β m).le (upd κc.β H1.length _ m)
      rw [upd_ne _ _ hm]
      by_cases hlt : m < H1.length
      · have := Bind.le_trans (h1.β m) (q2.β m)
        show (κ.β m).le (if m < H1.length then κ'.β m else .none)
        rw [if_pos hlt]; exact this
      · have hn := hr.dom m (by simp; omega)
        rw [hn]; trivial
   have hcne : ∀ m,(κc.β m).block ≠ some b' := fun m hm => by
    by_cases hlt : m < H1.length
    · have e1 : κc.β m = κ'.β m := if_pos hlt
      rw [e1] at hm
      have := q3.exd m (H1.length + 1) b' hm (by rw [b1]; rfl)
      omega
    · have e1 : κc.β m = .none := if_neg hlt
      rw [e1] at hm; cases hm
   refine ⟨v,κ2,.tup [],_,q1,hκ2,⟨hcut.below,hcut.st,fun m x hx => ?_,fun m hm => ?_,fun m b hb => ?_,fun m b o ho => ?_,fun m q b hm hq => ?_,fun m x hx => ?_⟩,?_,rfl,rfl⟩
   · by_cases hlt : m < H1.length
     · rw [List.getElem?_append_left hlt] at hx
       exact (hcut.ob m x hx).mono hle2 (upd_ne _ _ (by omega)) fun _ _ => rfl
     · have : m = H1.length := by
        have := (List.getElem?_eq_some_iff.1 hx).1
        simp at this; omega
       subst this
       simp at hx
       subst hx
       refine .inr ⟨b',c,cur,upd_same _ _ _,fun h0 h00 => p3 h0 (by
        have : rows'.length = 0 := by rw [h00]; rfl
        exact List.eq_nil_of_length_eq_zero (by omega)),c1,by omega,by omega,fun j r hj => ?_⟩
       have hj' : (rows'.map (List.map A.d))[j]? = some (r.map A.d) := by rw [List.getElem?_map,hj]; rfl
       obtain ⟨d1,d2⟩ := b3 j _ hj'
       refine ⟨by simpa using d1,fun q x hx => ?_⟩
       obtain ⟨u,u1,-,u2⟩ := d2 q (.d x) (by rw [List.getElem?_map,hx]; rfl)
       rw [cell_cells c1] at u1
       cases u2 with
       | d u2 => exact ⟨u,u1,u2⟩
   · have h0 : H1.length + 1 ≤ m := by simpa using hm
     show upd κc.β H1.length _ m = _
     rw [upd_ne _ _ (by omega)]; exact hcut.dom m (by omega)
   · by_cases hm : m = H1.length
     · subst hm
       have : some b' = some b := by rw [← hb]; show _ = (upd κc.β H1.length _ H1.length).block; rw [upd_same]; rfl
       cases this
       exact q3.ex (H1.length + 1) b' (by rw [b1]; rfl)
     · have hb' : (κc.β m).block = some b := by rw [← hb]; show _ = (upd κc.β H1.length _ m).block; rw [upd_ne _ _ hm]
       exact hcut.ex m b hb'
   · by_cases hm : m = H1.length
     · subst hm
       have ho' : (Bind.vec b' c rows'.length k sz).owns b o := by
        have := ho
        change (upd κc.β H1.length _ H1.length).owns b o at this
        rwa [upd_same] at this
       have hbb := Bind.block_of_owns ho'
       cases hbb
       exact q3.exσ (H1.length + 1) b' o (by rw [b1]; rfl)
     · have ho' : (κc.β m).owns b o := by
        have := ho
        change (upd κc.β H1.length _ m).owns b o at this
        rwa [upd_ne _ _ hm] at this
       exact hcut.exσ m b o ho'
   · have hβ : ∀ m,m ≠ H1.length → κ2.β m = κc.β m := fun m hm => upd_ne _ _ hm
     have hβ0 : κ2.β H1.length = .vec b' c rows'.length k sz := upd_same _ _ _
     by_cases hm1 : m = H1.length <;> by_cases hq1 : q = H1.length
     · omega
     · subst hm1
       rw [hβ0] at hm; cases hm
       rw [hβ q hq1] at hq
       exact absurd hq (hcne q)
     · subst hq1
       rw [hβ0] at hq; cases hq
       rw [hβ m hm1] at hm
       exact absurd hm (hcne m)
     · rw [hβ m hm1] at hm; rw [hβ q hq1] at hq
       exact hcut.exd m q b hm hq
   · by_cases hlt : m < H1.length
     · rw [List.getElem?_append_left hlt] at hx; exact hcut.fl m x hx
     · have : m = H1.length := by
        have := (List.getElem?_eq_some_iff.1 hx).1
        simp at this; omega
       subst this
       simp at hx
       subst hx; rfl
   · cases q4 with
     | tup us _ hl0 h0 => exact .tup us _ hl0 fun m u a hu ha => by simp at ha
theorem ACall.freezeVec {P : Program} {f : FuncId} {args : List A} {H : Hp} {j k sz e : Nat} {rows : List (List D)} (hne : rows ≠ [])
 (h : ACall P f args H (fun r H' => ∃ X : Hp,X[j]? = some (.vec sz e k rows) ∧ r = .vsl (H.length + j) k rows.length ∧ H' = H ++ X)) : ACall P f args H (fun r H' => r = .d (.sl false sz rows) ∧ H' = H) := by
 intro κ w vs hr hl hv
 refine (h κ w vs hr hl hv).mono ?_
 rintro ev w' ⟨v,κ',r,H',h1,h2,h3,h4,X,hX,rfl,rfl⟩
 obtain ⟨κs,k1,k2,k3,-⟩ := h3.vecArr2 (i := H.length + j) (by rw [getElem?_appk]; exact hX) hne
 have a3 := k3 v h4
 obtain ⟨κ2,g1,g2,g3⟩ := k2.freezeArr (i := (H ++ X).length) (sz := sz) (rows := rows) (by simp) a3
 have hHX : ∃ Y,((H ++ X).set (H.length + j) Ob.dead ++ [Ob.arr sz (rows.map (List.map A.d))]).set (H ++ X).length Ob.dead = H ++ Y := by
  rw [set_appk,List.append_assoc,List.length_append,set_appk]; exact ⟨_,rfl⟩
 obtain ⟨Y,hY⟩ := hHX
 rw [hY] at g2
 exact ⟨v,κ2.cut H.length,.d (.sl false sz rows),Hp.cut H.length (H ++ Y),h1,K.le_cut (h2.trans (k1.trans g1)) hr.dom,g2.cut _ (by simp),g3.clr H.length,rfl,cut_app hr.closed _⟩
section
open Go.RowKit (Below)
open Go.Proofs Go.Sort
theorem below_ahead (w : World) (n : Nat) : Below w.heap.size w (Go.Sort.ahead w n) := ⟨rfl,rfl,rfl,Nat.le_refl _,fun _ _ => rfl⟩
theorem below_grow (w : World) (os : Array Obj) : Below w.heap.size w (grow w os) :=
 ⟨rfl,rfl,rfl,by simp [grow],fun k hk => by simp [grow,Array.getElem?_append_left hk]⟩
end
section
open Go.RowKit (Below)
open Go.Proofs Go.Sort
def intRows (L : List Int) : List (List A) := L.map fun x => [.d (.int .i64 x)]
theorem intRows_set (L : List Int) (k : Nat) (x : Int) : intRows (L.set k x) = (intRows L).set k [.d (.int .i64 x)] := by
 rw [intRows,List.map_set]; rfl
theorem HR.putInts {κ : K} {H : Hp} {w : World} (h : HR κ H w) {i b : Nat} {s : Option (TypeId × Nat)} {L0 d : List Int} (hi : H[i]? = some (.arr 1 (intRows L0))) (hβ : κ.β i = .arr b 1 s) (hd : d.length = L0.length)
 (h0 : Holds (Value.int .i64) w b 0 L0.toArray) : ∀ k : Nat,k ≤ L0.length → HR κ (H.set i (.arr 1 (intRows (d.take k ++ L0.drop k)))) (putRow (Value.int .i64) w b 0 (d.take k ++ L0.drop k).toArray)
 | 0, _ => by
   have hH : H.set i (.arr 1 (intRows L0)) = H := by
    refine List.ext_getElem? fun j => ?_
    by_cases hj : i = j
    · subst hj; rw [List.getElem?_set_self (List.getElem?_eq_some_iff.1 hi).1,hi]
    · rw [List.getElem?_set_ne hj]
   rw [List.take_zero,List.drop_zero,List.nil_append,hH,putRow_self _ _ _ _ _ h0]
   exact h
 | k + 1, hk => by
   have ih := HR.putInts h hi hβ hd h0 k (by omega)
   have hil : i < H.length := (List.getElem?_eq_some_iff.1 hi).1
   have hx : d.take (k + 1) ++ L0.drop (k + 1) = (d.take k ++ L0.drop k).set k (d[k]'(by omega)) := by
    have e1 : L0.drop k = L0[k]'(by omega) :: L0.drop (k + 1) := List.drop_eq_getElem_cons (by omega)
    have e2 : d.take (k + 1) = d.take k ++ [d[k]'(by omega)] := List.take_succ_eq_append_getElem (by omega)
    have hm : k - (d.take k).length = 0 := by simp; omega
    rw [e2,List.set_append_right _ _ (by simp; omega),hm,e1,List.set_cons_zero,List.append_assoc]
    rfl
   have hlen : (d.take k ++ L0.drop k).length = L0.length := by simp; omega
   generalize d.take k ++ L0.drop k = X at ih hx hlen
   rw [hx]
   have hXk : X[k]? = some (X[k]'(by omega)) := List.getElem?_eq_getElem (by omega)
   have hrow : (intRows X)[k]? = some [.d (.int .i64 (X[k]'(by omega)))] := by rw [intRows,List.getElem?_map,hXk]; rfl
   have := ih.setArr (i := i) (k := k) (j := 0) (by rw [List.getElem?_set_self hil]) hβ hrow (by simp) (v := (Value.int .i64) (d[k]'(by omega))) (a := .d (.int .i64 (d[k]'(by omega)))) rfl (.d (DR.int _ _))
   rw [List.set_set] at this
   have e3 := putRow_set (Value.int .i64) w b 0 X.toArray k (d[k]'(by omega)) (by simp; omega)
   rw [Nat.zero_add] at e3
   rw [Nat.mul_one,Nat.add_zero,e3] at this
   rw [intRows_set]
   simpa using this
def SortInt (P : Program) (f : FuncId) : Prop := ∀ (blk off cap : Nat) (ss : List Int) (w : World),Holds (Value.int .i64) w blk off ss.toArray → blk < w.heap.size → ss.length < 4611686018427387904 →
 Calls P f #[.slice (some ⟨blk,off,none⟩) ss.length cap] w fun e w' => e = .returned (.tuple #[]) ∧ ∃ n os,w' = grow (putRow (Value.int .i64) (Go.Sort.ahead w n) blk off (ss.mergeSort fun x y => decide (x ≤ y)).toArray) os
theorem sortInt_acall {P : Program} {f : FuncId} (hS : SortInt P f) {L : List Int} (hne : L ≠ []) (hl : L.length < 4611686018427387904) {H : Hp} {i : Nat} (hi : H[i]? = some (.arr 1 (intRows L))) :
 ACall P f [.msl i 0 L.length] H (fun r H' => r = .tup [] ∧ H' = H.set i (.arr 1 (intRows (L.mergeSort fun x y => decide (x ≤ y))))) := by
 intro κ w vs hr hvl hv
 match vs,hvl with
 | [v],_ =>
 have hv0 := hv 0 v _ rfl rfl
 have hpos : 0 < L.length := List.length_pos_iff.2 hne
 cases hv0 with
 | msl _ _ _ b sz o cap hb hcl ho hz =>
 obtain ⟨b',s',hβ',hsh,hc⟩ := hr.ob i _ hi
 obtain ⟨rfl,rfl⟩ : b = b' ∧ sz = 1 := by
  rcases hb with ⟨s,hb⟩ | hb
  · rw [hβ'] at hb; cases hb; exact ⟨rfl,rfl⟩
  · rw [hβ'] at hb; cases hb
 have ho' : o = 0 := by have := ho hpos; omega
 subst ho'
 have hH0 : ∀ n,Holds (Value.int .i64) (Go.Sort.ahead w n) b 0 L.toArray := fun n j hj => by
  have hj' : j < L.length := by simpa using hj
  have hrow : (intRows L)[j]? = some [.d (.int .i64 L[j])] := by rw [intRows,List.getElem?_map,List.getElem?_eq_getElem hj']; rfl
  obtain ⟨-,h2⟩ := hc j _ hrow
  obtain ⟨u,u1,u2,u3⟩ := h2 0 _ rfl
  have := u3.d_inv.int_inv
  subst this
  rw [Nat.mul_one,Nat.add_zero] at u1 u2
  rw [Nat.zero_add]
  refine ⟨?_,u2⟩
  rw [cell?_ahead,u1]
  simp [getElem!_pos,hj']
 have hblk := (hr.ex i b (by rw [hβ']; rfl)).2
 refine (hS b 0 cap L w (hH0 0) hblk hl).mono ?_
 rintro e w' ⟨rfl,n,os,rfl⟩
 have h1 : HR κ H (Go.Sort.ahead w n) := hr.later (below_ahead w n)
 have hml : (L.mergeSort fun x y => decide (x ≤ y)).length = L.length := List.length_mergeSort L
 have h2 := h1.putInts hi hβ' hml (hH0 n) L.length (Nat.le_refl _)
 rw [List.take_of_length_le (by omega),List.drop_of_length_le (Nat.le_refl _),List.append_nil] at h2
 have h3 := h2.later (below_grow _ os)
 exact ⟨_,κ,.tup [],_,rfl,K.le_refl κ,h3,.tup [] [] rfl (by simp),rfl,rfl⟩
end
section
def idxP {α : Type} (p : α → Bool) (l : List α) : Int := if l.any p then (l.findIdx p : Nat) else -1
theorem idxP_at {α : Type} {p : α → Bool} {l : List α} {j : Nat} (hj : j < l.length) (h0 : ∀ y ∈ l.take j,p y = false) (h1 : p l[j] = true) : idxP p l = (j : Int) := by
 unfold idxP
 have h2 : l.any p = true := List.any_eq_true.2 ⟨_,List.getElem_mem hj,h1⟩
 rw [if_pos h2]
 have : l.findIdx p = j := by
  rw [List.findIdx_eq hj]
  refine ⟨h1,fun k hk => ?_⟩
  have := h0 l[k] (by
   have : l[k] = (l.take j)[k]'(by simp; omega) := by simp
   rw [this]; exact List.getElem_mem _)
  simpa using this
 rw [this]
theorem idxP_no {α : Type} {p : α → Bool} {l : List α} (h0 : ∀ y ∈ l,p y = false) : idxP p l = -1 := by
 unfold idxP
 rw [if_neg]
 intro h
 obtain ⟨x,hx,h1⟩ := List.any_eq_true.1 h
 rw [h0 x hx] at h1; cases h1
theorem idxP_pos {α : Type} {p : α → Bool} {l : List α} : decide (0 ≤ idxP p l) = l.any p := by
 unfold idxP
 split
 · rename_i h; rw [h]; simp
 · rename_i h; simp at h ⊢; exact h
section
variable {P : Program} {tn tm bd mn ed tint : Nat}
theorem Has.scCmp {f cmpI : FuncId} (hf : Has P f (irScCmp cmpI ed)) (hc : ∀ (a b : Int) (H : Hp),ACall P cmpI [.d (.int .i64 a),.d (.int .i64 b)] H (fun r H' => r = .d (.int .i64 (cmpInt a b)) ∧ H' = H)) (x y : Int × Int) (H : Hp) :
 ACall P f [.agg (rowE encBad x),.agg (rowE encBad y)] H (fun r H' => r = .d (.int .i64 (cBad x y)) ∧ H' = H) := by
 obtain ⟨fn,hff,hcf⟩ := hf
 refine acall_fin hff hcf (by simp [irScCmp]) fun hcl _ => ?_
 obtain ⟨a1,c1⟩ := x
 obtain ⟨a2,c2⟩ := y
 simp [irScCmp,rowE,encBad]
 refine CallK_of' (hc _ _ _) ?_
 simp [RetK,resA,cut_app hcl,cBad]
theorem Has.scIdxF {f : FuncId} (hf : Has P f irScIdxF) {g : A} {H : Hp} {ms : List Mn} {z : Bool} {p : Mn → Bool} (hl : ms.length ≤ 1099511627776) (hg : ∀ m,H.length ≤ m → g.clr m = g)
 (hp : ∀ (x : Mn) (Q : A → Hp → Prop) (t : Tag Q),Q (.d (.bool (p x))) H → ValK Q t P [.agg (rowE encMn x)] H g) : ACall P f [.d (.sl z 4 (ms.map encMn)),g] H (fun r H' => r = .d (.int .i64 (idxP p ms)) ∧ H' = H) := by
 obtain ⟨fn,hff,hcf⟩ := hf
 refine acall_fin hff hcf (by simp [irScIdxF]) fun hcl _ => ?_
 simp [irScIdxF]
 refine LoopK_out 0 (fun fr H' => (∀ y ∈ ms,p y = false) ∧ H' = H) ?_ ?_
 · refine RangeK_of H.length ms.length (fun j fr H' => fr 0 = .d (.sl z 4 (ms.map encMn)) ∧ fr 1 = g ∧ (∀ y ∈ ms.take j,p y = false) ∧ H' = H) (by omega) (by decide) (by simp) (by simp) ?_ ?_ ?_
   · exact ⟨by simp,by simp [hg,-A.clr],by simp,cut_self hcl⟩
   · rintro j fr H' hj f8 f7 ⟨f0,f1,h0,rfl⟩
     have hr := rowAt_map encMn hj
     have hat := fun h1 => idxP_at (p := p) hj h0 h1
     have hnx : ms.take (j + 1) = ms.take j ++ [ms[j]] := List.take_succ_eq_append_getElem hj
     generalize ms[j] = x at hr hat hnx
     have gp := hp x
     obtain ⟨xa,xt,xw,xf⟩ := x
     simp only [rowE,encMn,List.map_cons,List.map_nil] at gp hr
     simp [f8,f0,f1,hr]
     refine gp _ _ ?_
     simp
     refine BrK_split (fun hd => ?_) (fun hd => ?_)
     · have h1 : p ⟨xa,xt,xw,xf⟩ = true := by simpa using hd
       simp [f8,RetK,resA,cut_self hcl,hat h1]
     · have h1 : p ⟨xa,xt,xw,xf⟩ = false := by simpa using hd
       simp
       refine NextK_of H'.length (Nat.le_refl _) (by simp [f8,f7]) ?_
       refine ⟨by simp [f0],by simp [f1,hg,-A.clr],?_,cut_self hcl⟩
       rw [hnx]
       intro y hy
       rcases List.mem_append.1 hy with hy | hy
       · exact h0 y hy
       · rw [List.mem_singleton.1 hy]; exact h1
   · rintro fr H' f8 f7 ⟨f0,f1,h0,rfl⟩
     rw [List.take_of_length_le (Nat.le_refl _)] at h0
     simp
     exact h0
 · rintro fr H' ⟨h0,rfl⟩
   simp [RetK,resA,cut_self hcl,idxP_no h0]
theorem Has.scContF {f idx : FuncId} (hf : Has P f (irScContF idx)) (hi : Has P idx irScIdxF) {g : A} {H : Hp} {ms : List Mn} {z : Bool} {p : Mn → Bool} (hl : ms.length ≤ 1099511627776) (hg : ∀ m,H.length ≤ m → g.clr m = g)
 (hp : ∀ (x : Mn) (Q : A → Hp → Prop) (t : Tag Q),Q (.d (.bool (p x))) H → ValK Q t P [.agg (rowE encMn x)] H g) : ACall P f [.d (.sl z 4 (ms.map encMn)),g] H (fun r H' => r = .d (.bool (ms.any p)) ∧ H' = H) := by
 have gi := hi.scIdxF (z := z) hl hg hp
 obtain ⟨fn,hff,hcf⟩ := hf
 refine acall_fin hff hcf (by simp [irScContF]) fun hcl _ => ?_
 simp [irScContF]
 refine CallK_of' gi ?_
 have := idxP_pos (p := p) (l := ms)
 simp [RetK,resA,cut_self hcl,this]
def wrQ (i : Int) (x : Mn) : Bool := decide (x.t = i) && x.wr
theorem Has.scWrittenC {f : FuncId} (hf : Has P f (irScWrittenC mn)) (x : Mn) (i : Int) {H : Hp} {j : Nat} (hj : H[j]? = some (.box tint [.d (.int .i64 i)])) :
 ACall P f [.agg (rowE encMn x),.ptr j 0] H (fun r H' => r = .d (.bool (wrQ i x)) ∧ H' = H) := by
 have hjl := scan_len hj
 obtain ⟨fn,hff,hcf⟩ := hf
 refine acall_fin hff hcf (by simp [irScWrittenC]) fun hcl _ => ?_
 obtain ⟨xa,xt,xw,xf⟩ := x
 have hj2 : ∀ X,(H ++ X)[j]? = some (.box tint [.d (.int .i64 i)]) := fun X => get_app hj X
 simp [irScWrittenC,rowE,encMn,hj2,List.getElem?_cons_zero,-getElem?_pos]
 by_cases h : xt = i
 · subst h
   simp [hj2,List.getElem?_cons_zero,RetK,resA,cut_app hcl,wrQ,-getElem?_pos]
 · simp [h,hj2,List.getElem?_cons_zero,RetK,resA,cut_app hcl,wrQ,-getElem?_pos]
theorem Has.scWritten {f cf wc idx : FuncId} (hf : Has P f (irScWritten cf wc tm tint)) (hc : Has P cf (irScContF idx)) (hi : Has P idx irScIdxF) (hw : Has P wc (irScWrittenC mn)) (hok : callOk P wc = true) {bs bad : D} {z : Bool} {ms : List Mn} (hl : ms.length ≤ 1099511627776) (i : Int) (H : Hp) :
 ACall P f [.agg [.d bs,.d (.sl z 4 (ms.map encMn)),.d bad],.d (.int .i64 i)] H (fun r H' => r = .d (.bool (ms.any (wrQ i))) ∧ H' = H) := by
 obtain ⟨fn,hff,hcf⟩ := hf
 refine acall_fin hff hcf (by simp [irScWritten]) fun hcl _ => ?_
 simp [irScWritten,List.getElem?_cons_zero,-getElem?_pos]
 refine CallK_of' (hc.scContF hi (p := wrQ i) hl (fun m hm => by
  have h2 : H.length + 1 < m := by simp at hm; omega
  simp [h2,A.lo]) (fun x Q t hQ => ?_)) ?_
 · simp only [ValK]
   refine ⟨hok,(hw.scWrittenC (tint := tint) x i (j := H.length + 1) (by simp)).mono ?_⟩
   rintro r H' ⟨rfl,rfl⟩
   exact hQ
 · simp [RetK,resA,cut_app hcl]
end
end
section
section
variable {L : List Tk}
end
end
section
def bAt (bs : List SBd) (i : Int) : SBd := bs.getD i.toNat default
section
variable {TL : List Tk} {lo it : Int}
end
end
end Go.Zam
namespace Go.Zam
namespace N
end N
section
variable {L L' : List Tk}
end
section
variable {TL L' : List Tk} {q : Nat} {name : Bs} {F : SM} {lo it : Int}
end
end Go.Zam
namespace Go.Zam
section
def usesL (S : SM) (i : Nat) : List Int := (bAt S.bs i).a :: (S.ms.filter fun m => decide (m.t = (i : Int))).map Mn.a
section
variable {TL : List Tk} {n : N} {e : Int} {S : SM}
end
section
variable {L : List Tk} {n : N} {e : Int} {S : SM} {us : List Int} {name : Bs} {q : Nat}
end
end
def irScUsesV (srtI tm mn tint : Nat) : IFn := { nt := 44, res := [.t 4], body := ( .seq (.ops [ ⟨some 2,none,.box tm 3 (.t 0)⟩, ⟨some 4,none,.mv (.c (.sl true 1 []))⟩] false) (.seq (.seq (.ops [ ⟨some 8,none,.mv (.t 1)⟩, ⟨some 9,none,.bin .lss (.t 8) (.c (.int .i64 0))⟩, ⟨some 10,none,.mv (.t 9)⟩, ⟨some 11, some (10, false),.mv (.t 1)⟩, ⟨some 12, some (10, false),.faddr 0 (.t 2)⟩, ⟨some 13, some (10, false),.load 1 false (.t 12)⟩, ⟨some 14, some (10, false),.lenL (.t 13)⟩, ⟨some 15, some (10, false),.bin .geq (.t 11) (.t 14)⟩, ⟨some 16,none,.pick (.t 10) (.c (.bool true)) (.t 15)⟩] false) (.cond (.t 16) (.seq (.ops [ ⟨some 4,none,.mv (.c (.sl true 1 []))⟩] false) (.ret)) (.skip))) (.seq (.ops [ ⟨some 17,none,.faddr 0 (.t 2)⟩, ⟨some 18,none,.load 1 false (.t 17)⟩, ⟨some 19,none,.mv (.t 1)⟩, ⟨some 20,none,.iaddr 4 (.t 18) (.t 19)⟩, ⟨some 21,none,.faddr 0 (.t 20)⟩, ⟨some 22,none,.load 1 false (.t 21)⟩, ⟨some 23,none,.bsliceV 1 tint [(.t 22)]⟩, ⟨some 5,none,.mv (.t 23)⟩] false) (.seq (.seq (.ops [ ⟨some 24,none,.faddr 1 (.t 2)⟩, ⟨some 25,none,.load 1 false (.t 24)⟩, ⟨some 26,none,.lenL (.t 25)⟩, ⟨some 27,none,.mv (.c (.int .i64 0))⟩] false) (.blk 0 (.loop (.seq (.ops [ ⟨some 28,none,.bin .lss (.t 27) (.t 26)⟩] false) (.seq (.cond (.t 28) (.skip) (.exit 0)) (.seq (.blk 1 (.seq (.ops [ ⟨some 29,none,.iaddr 4 (.t 25) (.t 27)⟩, ⟨some 30,none,.load 4 true (.t 29)⟩, ⟨some 7,none,.alloc mn [(.int .i64 0),(.int .i64 0),(.bool false),(.int .i64 0)]⟩, ⟨none,none,.store 4 (.t 7) (.t 30)⟩] false) (.seq (.ops [ ⟨some 31,none,.faddr 1 (.t 7)⟩, ⟨some 32,none,.load 1 false (.t 31)⟩, ⟨some 33,none,.mv (.t 1)⟩, ⟨some 34,none,.bin .eql (.t 32) (.t 33)⟩] false) (.cond (.t 34) (.ops [ ⟨some 35,none,.mv (.t 5)⟩, ⟨some 36,none,.faddr 0 (.t 7)⟩, ⟨some 37,none,.load 1 false (.t 36)⟩, ⟨some 38,none,.bslice 1 [(.t 37)]⟩, ⟨some 39,none,.appV 1 8 tint (.t 35) (.t 38)⟩, ⟨some 5,none,.mv (.t 39)⟩] false) (.skip))))) (.ops [ ⟨some 40,none,.bin .add (.t 27) (.c (.int .i64 1))⟩, ⟨some 27,none,.mv (.t 40)⟩] false))))))) (.seq (.ops [ ⟨some 41,none,.mv (.t 5)⟩, ⟨some 42,none,.call srtI [(.t 41)]⟩] false) (.seq (.ops [ ⟨some 43,none,.mv (.t 5)⟩, ⟨some 4,none,.mv (.t 43)⟩] false) (.ret))))))) }
section
def encI (t : Int) : List D := [.int .i64 t]
def isort (L : List Int) : List Int := L.mergeSort fun x y => decide (x ≤ y)
theorem isort_len (L : List Int) : (isort L).length = L.length := List.length_mergeSort L
theorem intRows_enc (L : List Int) : intRows L = (L.map encI).map (List.map .d) := by simp [intRows,encI]
section
variable {P : Program} {tn tm bd mn ed tint : Nat}
theorem Has.scUses {f srt : FuncId} (hf : HasT P [2000039,9000023] f (irScUsesV srt tm mn tint)) (hS : SortInt P srt) {S : SM} {z1 z2 : Bool} {bad : D} (hl : S.ms.length ≤ 1099511627776) (i : Nat) (hi : i < S.bs.length) (H : Hp) :
 ACall P f [.agg [.d (.sl z1 4 (S.bs.map encBd)),.d (.sl z2 4 (S.ms.map encMn)),.d bad],.d (.int .i64 (i : Int))] H (fun r H' => r = .d (.sl false 1 ((isort (usesL S i)).map encI)) ∧ H' = H) := by
 have hne : (isort (usesL S i)).map encI ≠ [] := by
  intro h
  have h1 := congrArg List.length h
  rw [List.length_map,isort_len] at h1
  simp [usesL] at h1
 have hle : (usesL S i).length ≤ S.ms.length + 1 := by
  unfold usesL
  have := List.length_filter_le (fun m : Mn => decide (m.t = (i : Int))) S.ms
  simp only [List.length_cons,List.length_map]; omega
 refine ACall.freezeVec (j := 1) (k := (usesL S i).length) (e := tint) hne ?_
 obtain ⟨fn,hff,hcf⟩ := hf
 refine acall_fink 2 hff hcf (by simp [irScUsesV]) fun hcl _ => ?_
 obtain ⟨bs,ms,bd'⟩ := S
 simp only at hl hi hle
 obtain ⟨bx,hbx⟩ : ∃ bx,bx = Ob.box tm [.d (.sl z1 4 (bs.map encBd)),.d (.sl z2 4 (ms.map encMn)),.d bad] := ⟨_,rfl⟩
 have hbc : ∀ n,bx.clr n = bx := fun n => by subst hbx; simp
 have hi0 : ¬ (i : Int) < 0 := by omega
 have hi1 : ¬ (bs.length : Int) ≤ (i : Int) := by omega
 have hr := rowAt_map encBd hi
 have hbi : bAt bs (i : Int) = bs[i] := by unfold bAt; rw [Int.toNat_natCast,List.getD_eq_getElem?_getD,List.getElem?_eq_getElem hi]; rfl
 have hU : usesL ⟨bs,ms,bd'⟩ i = bs[i].a :: (ms.filter fun m => decide (m.t = (i : Int))).map Mn.a := by unfold usesL; simp only; rw [hbi]
 generalize bs[i] = b at hr hU
 obtain ⟨ba,bk,bw,bi⟩ := b
 simp only [encBd] at hr
 simp only at hU
 let U : Nat → List Int := fun j => ba :: ((ms.take j).filter fun m => decide (m.t = (i : Int))).map Mn.a
 have hU0 : U 0 = [ba] := rfl
 have hUn : U ms.length = usesL ⟨bs,ms,bd'⟩ i := by rw [hU]; show _ :: _ = _; rw [List.take_of_length_le (Nat.le_refl _)]
 have hUl : ∀ j,(U j).length ≤ ms.length + 1 := fun j => by
  have h1 := List.length_filter_le (fun m : Mn => decide (m.t = (i : Int))) (ms.take j)
  have h2 : (ms.take j).length ≤ ms.length := by simp; omega
  show (_ :: List.map _ _).length ≤ _
  simp only [List.length_cons,List.length_map]; omega
 let HY : Nat → Hp := fun j => [bx,.vec 1 tint (U j).length ((U j).map encI)]
 have hc : ∀ j X,Hp.cut (H.length + 2) (H ++ (HY j ++ X)) = H ++ HY j := fun j X => by
  rw [cut_appk hcl]
  have hv : ∀ n s e k r,(Ob.vec s e k r).clr n = Ob.vec s e k r := fun _ _ _ _ _ => rfl
  simp [HY,hbc,hv,-Ob.clr]
 have hc0 : ∀ j,Hp.cut (H.length + 2) (H ++ HY j) = H ++ HY j := fun j => by have := hc j []; rwa [List.append_nil] at this
 have e0 : ∀ j X,(HY j ++ X)[0]? = some (Ob.box tm [.d (.sl z1 4 (bs.map encBd)),.d (.sl z2 4 (ms.map encMn)),.d bad]) := fun j X => by rw [← hbx]; rfl
 have e1 : ∀ j X,(HY j ++ X)[1]? = some (.vec 1 tint (U j).length ((U j).map encI)) := fun j X => rfl
 have e2 : ∀ j x X,(HY j ++ x :: X)[2]? = some x := fun j x X => rfl
 have s2 : ∀ j x y X,(HY j ++ x :: X).set 2 y = HY j ++ y :: X := fun j x y X => rfl
 have lY : ∀ j,(HY j).length = 2 := fun j => rfl
 have hst : H ++ [bx,Ob.vec 1 tint 1 [[D.int .i64 ba]]] = H ++ HY 0 := rfl
 simp [irScUsesV,hi0,hi1,hr,List.getElem?_cons_zero,-getElem?_pos]
 rw [← hbx,hst]
 refine LoopK_out 0 (fun fr H' => fr 5 = .vsl (H.length + 1) (U ms.length).length (U ms.length).length ∧ H' = H ++ HY ms.length) ?_ ?_
 · refine RangeK_of (H.length + 2) ms.length (fun j fr H' => fr 1 = .d (.int .i64 (i : Int)) ∧ fr 5 = .vsl (H.length + 1) (U j).length (U j).length ∧ fr 25 = .d (.sl z2 4 (ms.map encMn)) ∧ H' = H ++ HY j) (by omega) (by decide) (by simp [lY]) (by simp) ?_ ?_ ?_
   · exact ⟨by simp,by simp [hU0],by simp,hc0 0⟩
   · rintro j fr H' hj f27 f26 ⟨f1,f5,f25,rfl⟩
     have hr2 := rowAt_map encMn hj
     have hstep : U (j + 1) = if ms[j].t = (i : Int) then U j ++ [ms[j].a] else U j := by
      show _ :: _ = _
      rw [List.take_succ_eq_append_getElem hj,List.filter_append,List.map_append]
      by_cases h : ms[j].t = (i : Int)
      · rw [if_pos h]; simp [h,U]
      · rw [if_neg h]; simp [h,U]
     generalize ms[j] = x at hr2 hstep
     obtain ⟨xa,xt,xw,xf⟩ := x
     simp only [encMn] at hr2
     simp only at hstep
     have hfit : ((U j).length + 1) * 8 ≤ 140737488355328 := by have := hUl j; omega
     have htk : List.take (U j).length ((U j).map encI) = (U j).map encI := List.take_of_length_le (by simp)
     have hlm : ((U j).map encI).length = (U j).length := List.length_map _
     have e1' := e1 j
     have e2' := e2 j
     have s2' := s2 j
     have lY' := lY j
     by_cases h : xt = (i : Int)
     · rw [if_pos h] at hstep
       have hs1 : ∀ X,(HY j ++ X).set 1 (.vec 1 tint ((U j).length + 1) ((U j).map encI ++ [[D.int .i64 xa]])) = HY (j + 1) ++ X := fun X => by
        show [bx,_] ++ X = [bx,_] ++ X
        rw [hstep]; simp [encI]
       have hlU : (U (j + 1)).length = (U j).length + 1 := by rw [hstep]; simp
       have hcj := hc (j + 1)
       have lY2 := lY (j + 1)
       generalize hY2 : HY (j + 1) = Y2 at hs1 hcj lY2 ⊢
       generalize HY j = Y at e1' e2' s2' lY' hs1 ⊢
       simp [f27,f25,f1,f5,hr2,h,e2',s2',lY',appVA,e1',hfit,htk,hlm,hs1,-getElem?_pos]
       refine NextK_of (H.length + 2) (Nat.le_refl _) (by simp [lY2,f27,f26]) ?_
       exact ⟨by simp [f1],by simp [hlU],by simp [f25],(hcj _).trans (by rw [hY2])⟩
     · rw [if_neg h] at hstep
       have hlU : (U (j + 1)).length = (U j).length := by rw [hstep]
       have hYY : HY (j + 1) = HY j := by show [bx,_] = [bx,_]; rw [hstep]
       have hcj := hc j
       rw [← hYY] at e1' e2' s2' lY' hcj
       rw [← hYY]
       generalize hY2 : HY (j + 1) = Y at e1' e2' s2' lY' hcj ⊢
       simp [f27,f25,f1,hr2,h,e2',s2',lY',-getElem?_pos]
       refine NextK_of (H.length + 2) (Nat.le_refl _) (by simp [lY',f27,f26]) ?_
       exact ⟨by simp [f1],by simp [f5,hlU],by simp [f25],(hcj _).trans (by rw [hY2])⟩
   · rintro fr H' f27 f26 ⟨f1,f5,f25,rfl⟩
     simp
     exact f5
 · rintro fr H' ⟨f5,rfl⟩
   rw [hUn] at f5
   have hHY : H ++ HY ms.length = (H ++ [bx]) ++ [.vec 1 tint (usesL ⟨bs,ms,bd'⟩ i).length ((usesL ⟨bs,ms,bd'⟩ i).map encI)] := by
    show H ++ [bx,_] = _
    rw [hUn]; simp
   rw [hHY]
   generalize usesL ⟨bs,ms,bd'⟩ i = L at f5 hne hle ⊢
   have hLne : L ≠ [] := fun h => hne (by subst h; simp [isort])
   have hcl1 : Hp.Closed (H ++ [bx]) := Closed.snoc hcl fun n _ => hbc n
   have hsrt := sortInt_acall hS (L := L) hLne (by omega) (H := (H ++ [bx]) ++ [.dead,.arr 1 ((L.map encI).map (List.map .d))]) (i := (H ++ [bx]).length + 1) (by rw [getElem?_appk,intRows_enc]; rfl)
   have hv := ACall.vecCall (P := P) (f := srt) (k := L.length) (e := tint) (args := []) (rows := L.map encI) (rows' := (isort L).map encI) hcl1 (by simpa using hLne) (by simp [isort_len]) (by
    rw [List.length_map]
    refine hsrt.mono ?_
    rintro r H' ⟨rfl,rfl⟩
    refine ⟨rfl,?_⟩
    rw [set_appk,← isort,intRows_enc]; rfl)
   rw [List.length_map,show (H ++ [bx]).length = H.length + 1 by simp] at hv
   simp [f5,-List.append_assoc]
   refine CallK_of' hv ?_
   simp [f5,RetK,resA,-List.append_assoc]
   refine ⟨[bx,.vec 1 tint L.length ((isort L).map encI)],rfl,(isort_len L).symm,?_⟩
   have hv : ∀ n s e k r,(Ob.vec s e k r).clr n = Ob.vec s e k r := fun _ _ _ _ _ => rfl
   rw [List.append_assoc,cut_appk hcl]
   simp [hbc,hv,-Ob.clr]
end
end
end Go.Zam
namespace Go.Proofs.Zs
section
open Go Go.Zam Go.Proofs
theorem rcf7 : compF Try.prog [] Try.f7 = some (irR7Of 17 15 25) := by kernel_rfl
theorem rcf15 : compF Try.prog [] Try.f15 = some (irR7Parse 31 32 25 88) := by kernel_rfl
theorem rcf31 : compF Try.prog [4] Try.f31 = some (irR7File 49 50 51 52 25) := by kernel_rfl
theorem rcf32 : compF Try.prog [] Try.f32 = some (irR6Depth 32 25) := by kernel_rfl
theorem rcf49 : compF Try.prog [] Try.f49 = some (irR7Is 53) := by kernel_rfl
theorem rcf50 : compF Try.prog [] Try.f50 = some (irR7Use 75 76 52 25) := by kernel_rfl
theorem rcf51 : compF Try.prog [] Try.f51 = some (irR7Def 76 75 77 52 25) := by kernel_rfl
theorem rcf52 : compF Try.prog [] Try.f52 = some (irR7Ended 25) := by kernel_rfl
theorem rcf75 : compF Try.prog [] Try.f75 = some (irR7Word 25) := by kernel_rfl
theorem rcf76 : compF Try.prog [] Try.f76 = some (irR7Want 49) := by kernel_rfl
theorem rcf77 : compF Try.prog [] Try.f77 = some (irR7Lambda 86 87 88 25) := by kernel_rfl
theorem rcf86 : compF Try.prog [7] Try.f86 = some (irR7Params 76 49 75 87 52 25) := by kernel_rfl
theorem rcf87 : compF Try.prog [] Try.f87 = some (irR7Typed 49 91 25) := by kernel_rfl
theorem rcf88 : compF Try.prog [7] Try.f88 = some (irR7Block 76 49 92 52 25) := by kernel_rfl
theorem rcf91 : compF Try.prog [9] Try.f91 = some (irR7Kind 49 75 76 91 52 25) := by kernel_rfl
theorem rcf92 : compF Try.prog [8,47] Try.f92 = some (irR7Stmt 49 93 88 52 75 87 76 25) := by kernel_rfl
theorem rcf93 : compF Try.prog [] Try.f93 = some (irR7Expr 94 49 52 25) := by kernel_rfl
theorem rcf94 : compF Try.prog [] Try.f94 = some (irR7Sum 95 49 52 25) := by kernel_rfl
theorem rcf95 : compF Try.prog [] Try.f95 = some (irR7Term 96 49 52 25) := by kernel_rfl
theorem rcf96 : compF Try.prog [10,56] Try.f96 = some (irR7Post 97 49 75 52 93 76 25) := by kernel_rfl
theorem rcf97 : compF Try.prog [11] Try.f97 = some (irR7Atom 49 93 76 52 75 77 25 53) := by kernel_rfl
theorem rcf17 : compF Try.prog [6] Try.f17 = some (irR4Lex 34 35 36 53) := by kernel_rfl
theorem rcf35 : compF Try.prog [] Try.f35 = some (irR4Lead) := by kernel_rfl
theorem rcf36 : compF Try.prog [] Try.f36 = some (irR4One 29 28 27 55) := by kernel_rfl
theorem rcf34 : compF Try.prog [] Try.f34 = some (irR3Bad 54) := by kernel_rfl
theorem rcf54 : compF Try.prog [] Try.f54 = some (irR3Next 78) := by kernel_rfl
theorem rcf78 : compF Try.prog [] Try.f78 = some (irR3More) := by kernel_rfl
theorem rcf55 : compF Try.prog [] Try.f55 = some (irR3Unquote) := by kernel_rfl
theorem rcf27 : compF Try.prog [] Try.f27 = some (irIsKey) := by kernel_rfl
theorem rcf28 : compF Try.prog [] Try.f28 = some (irDigit) := by kernel_rfl
theorem rcf29 : compF Try.prog [] Try.f29 = some (irLetter) := by kernel_rfl
theorem rcf21 : compF Try.prog [] Try.f21 = some (irSortStable 43) := by kernel_rfl
theorem rcf43 : compF Try.prog [] Try.f43 = some (irStable 61 62) := by kernel_rfl
theorem rcf61 : compF Try.prog [] Try.f61 = some (irInsertion 2) := by kernel_rfl
theorem rcf62 : compF Try.prog [] Try.f62 = some (irSymMerge 2 80 62) := by kernel_rfl
theorem rcf80 : compF Try.prog [] Try.f80 = some (irRotate 89) := by kernel_rfl
theorem rcf89 : compF Try.prog [] Try.f89 = some (irSwapRange 2) := by kernel_rfl
theorem rcf23 : compF Try.prog [] Try.f23 = some (irCompare 44) := by kernel_rfl
theorem rcf44 : compF Try.prog [] Try.f44 = some (irIsNaN) := by kernel_rfl
theorem scf39 : compF Try.prog [2000021] Try.f39 = some (irScWrong 50) := by kernel_rfl
theorem scf19 : compF Try.prog [] Try.f19 = some (irScBind 39 25 45) := by kernel_rfl
theorem scf57 : compF Try.prog [] Try.f57 = some (irScRes) := by kernel_rfl
theorem scf42 : compF Try.prog [6000028] Try.f42 = some (irScNode 40 59 19 60 20 58 68 25) := by kernel_rfl
theorem scf58 : compF Try.prog [] Try.f58 = some (irScNodeC 59) := by kernel_rfl
theorem scf59 : compF Try.prog [] Try.f59 = some (irScKids 42 25) := by kernel_rfl
theorem scf60 : compF Try.prog [] Try.f60 = some (irScMention 79 39 25 47) := by kernel_rfl
theorem scf79 : compF Try.prog [] Try.f79 = some (irScFind) := by kernel_rfl
theorem scf20 : compF Try.prog [] Try.f20 = some (irScClosed 40 41 68 23) := by kernel_rfl
theorem scf41 : compF Try.prog [6000022,6000028] Try.f41 = some (irScClosedC 19 42 25) := by kernel_rfl
theorem scf10 : compF Try.prog [5000003,8200003,6000034,6000043] Try.f10 = some (irScOf 19 20 21 22 25 34 73 45 47 50) := by kernel_rfl
theorem scf22 : compF Try.prog [] Try.f22 = some (irScCmp 23 50) := by kernel_rfl
theorem scf18 : compF Try.prog [] Try.f18 = some (irScWritten 37 38 34 3) := by kernel_rfl
theorem scf38 : compF Try.prog [] Try.f38 = some (irScWrittenC 47) := by kernel_rfl
theorem scf37 : compF Try.prog [] Try.f37 = some (irScContF 56) := by kernel_rfl
theorem scf56 : compF Try.prog [] Try.f56 = some (irScIdxF) := by kernel_rfl
theorem scf12 : compF Try.prog [] Try.f12 = some (irScSmall 26 25) := by kernel_rfl
theorem scf26 : compF Try.prog [] Try.f26 = some (irScSize 26 25) := by kernel_rfl
theorem scf14 : compF Try.prog [2000039,9000023] Try.f14 = some (irScUsesV 30 34 47 3) := by kernel_rfl
theorem rdigitOk : ByteOk Try.prog 28 digitB := Has.digit ⟨_,Try.func28,rcf28⟩
theorem rletterOk : ByteOk Try.prog 29 letterB := Has.letter ⟨_,Try.func29,rcf29⟩
theorem risKeyOk (s : Bs) (H : Hp) : ACall Try.prog 27 [.d (.str s)] H (fun r H' => r = .d (.bool (decide (s ∈ keysL))) ∧ H' = H) := isKey_acall Try.func27 rcf27 s H
theorem lex4Ok (s : Bs) (hs : s.length ≤ 1048576) (H : Hp) :
 ACall Try.prog 17 [.d (.str s)] H (fun r H' => r = .tup [.d (.sl true 4 ((lexS s).1.map encTk)),.d (.int .i64 (lexS s).2.1),.d (.int .i64 (lexS s).2.2)] ∧ H' = H) :=
 HasT.lex4 ⟨_,Try.func17,rcf17⟩
  (fun s H hs => Has.bad3 ⟨_,Try.func34,rcf34⟩ (fun s n hn hl H => Has.next3 ⟨_,Try.func54,rcf54⟩ (Has.more3 ⟨_,Try.func78,rcf78⟩) s n hn hl H) s hs H)
  (fun s n hn hl H => Has.lead4 ⟨_,Try.func35,rcf35⟩ s n hn hl H)
  (fun s n hn hl H => Has.one4 ⟨_,Try.func36,rcf36⟩ rletterOk rdigitOk risKeyOk (fun s H hs => Has.unquote3 ⟨_,Try.func55,rcf55⟩ s hs H) s n hn hl H) s hs H
def Rf : RF := { kind := 91,file := 31,is := 49,word := 75,want := 76,ended := 52,use_ := 50,def_ := 51,lambda := 77,params := 86,typed := 87,block := 88,stmt := 92,expr := 93,sum := 94,term := 95,post := 96,atom := 97,tn := 25,tt := 53,tr := 88 }
theorem rHas : RHasA Try.prog Rf where
 is := ⟨_,Try.func49,rcf49⟩
 word := ⟨_,Try.func75,rcf75⟩
 want := ⟨_,Try.func76,rcf76⟩
 ended := ⟨_,Try.func52,rcf52⟩
 use_ := ⟨_,Try.func50,rcf50⟩
 def_ := ⟨_,Try.func51,rcf51⟩
 lambda := ⟨_,Try.func77,rcf77⟩
 typed := ⟨_,Try.func87,rcf87⟩
 params := ⟨_,Try.func86,rcf86⟩
 kind := ⟨_,Try.func91,rcf91⟩
 block := ⟨_,Try.func88,rcf88⟩
 stmt := ⟨_,Try.func92,rcf92⟩
 expr := ⟨_,Try.func93,rcf93⟩
 sum := ⟨_,Try.func94,rcf94⟩
 term := ⟨_,Try.func95,rcf95⟩
 post := ⟨_,Try.func96,rcf96⟩
 atom := ⟨_,Try.func97,rcf97⟩
 file := ⟨_,Try.func31,rcf31⟩
theorem refOfOk (s : Bs) (hs : s.length ≤ 1048576) (H : Hp) :
 ACall Try.prog 7 [.d (.str s)] H (fun r H' => r = .tup [.d (.sl true 4 ((parseO s).1.map encTk)),(parseO s).2.1.v,.d (.int .i64 (parseO s).2.2.1),.d (.int .i64 (parseO s).2.2.2)] ∧ H' = H) :=
 Has.of7 ⟨_,Try.func7,rcf7⟩ (fun s hs H => lex4Ok s hs H) (fun z L hL H => Has.parse7 (R := Rf) ⟨_,Try.func15,rcf15⟩ rHas ⟨_,Try.func32,rcf32⟩ hL H) s hs H
end
section
open Go Go.Zam Go.Proofs
def ir8 : IFn := { nt := 39, res := [.t 0], body := ( .seq (.ops [ ⟨some 0,none,.mv (.c (.bool false))⟩] false) (.seq (.ops [ ⟨some 7,none,.call 7 [(.c (.str [100,101,102,32,102,40,97,41,32,123,32,108,101,116,32,98,32,61,32,97,59,32,98,32,61,32,98,32,43,32,97,59,32,125]))]⟩, ⟨some 6,none,.mv (.t 7)⟩, ⟨some 8,none,.ext (.t 6) 0⟩, ⟨some 9,none,.ext (.t 6) 1⟩, ⟨some 10,none,.ext (.t 6) 2⟩, ⟨some 11,none,.ext (.t 6) 3⟩, ⟨some 2,none,.alloc 25 [(.int .i64 0),(.int .i64 0),(.int .i64 0),(.str []),(.int .i64 0),(.sl true 6 [])]⟩, ⟨some 1,none,.mv (.t 8)⟩, ⟨none,none,.store 6 (.t 2) (.t 9)⟩, ⟨some 3,none,.mv (.t 10)⟩, ⟨some 4,none,.mv (.t 11)⟩] false) (.seq (.ops [ ⟨some 12,none,.load 6 true (.t 2)⟩, ⟨some 13,none,.call 10 [(.t 12)]⟩, ⟨some 5,none,.alloc 34 [(.sl true 4 []),(.sl true 4 []),(.sl true 2 [])]⟩, ⟨none,none,.store 3 (.t 5) (.t 13)⟩] false) (.seq (.ops [ ⟨some 14,none,.faddr 0 (.t 5)⟩, ⟨some 15,none,.load 1 false (.t 14)⟩, ⟨some 16,none,.lenL (.t 15)⟩, ⟨some 17,none,.bin .eql (.t 16) (.c (.int .i64 3))⟩, ⟨some 18,none,.mv (.t 17)⟩, ⟨some 19, some (18, true),.load 3 true (.t 5)⟩, ⟨some 20, some (18, true),.call 14 [(.t 19),(.c (.int .i64 2))]⟩, ⟨some 21, some (18, true),.lenL (.t 20)⟩, ⟨some 22, some (18, true),.bin .eql (.t 21) (.c (.int .i64 3))⟩, ⟨some 23,none,.pick (.t 18) (.t 22) (.c (.bool false))⟩, ⟨some 24,none,.mv (.t 23)⟩, ⟨some 25, some (24, true),.load 3 true (.t 5)⟩, ⟨some 26, some (24, true),.call 18 [(.t 25),(.c (.int .i64 2))]⟩, ⟨some 27,none,.pick (.t 24) (.t 26) (.c (.bool false))⟩, ⟨some 28,none,.mv (.t 27)⟩, ⟨some 29, some (28, true),.load 3 true (.t 5)⟩, ⟨some 30, some (28, true),.call 18 [(.t 29),(.c (.int .i64 1))]⟩, ⟨some 31, some (28, true),.un .not (.t 30)⟩, ⟨some 32,none,.pick (.t 28) (.t 31) (.c (.bool false))⟩, ⟨some 33,none,.mv (.t 32)⟩, ⟨some 34, some (33, true),.faddr 2 (.t 5)⟩, ⟨some 35, some (33, true),.load 1 false (.t 34)⟩, ⟨some 36, some (33, true),.lenL (.t 35)⟩, ⟨some 37, some (33, true),.bin .eql (.t 36) (.c (.int .i64 0))⟩, ⟨some 38,none,.pick (.t 33) (.t 37) (.c (.bool false))⟩, ⟨some 0,none,.mv (.t 38)⟩] false) (.ret))))) }
theorem cf8 : compF Try.prog [] Try.f8 = some ir8 := by kernel_rfl
end
end Go.Proofs.Zs
namespace Go.Proofs
section
open Go.Shelf
def Try.lays189_ren : Go.Shelf.Ren := ⟨fun | 189 => 30 | 125 => 48 | 257 => 47 | 128 => 73 | 129 => 74 | 294 => 64 | 295 => 65 | 296 => 66 | 297 => 67 | 298 => 68 | 299 => 69 | 216 => 70 | 300 => 71 | 301 => 72 | 328 => 81 | 329 => 82 | 330 => 83 | 331 => 84 | 332 => 85 | 215 => 44 | 343 => 90 | n => n,fun | 28 => 55 | 3 => 3 | 46 => 112 | 0 => 0 | 51 => 137 | 53 => 120 | 4 => 4 | 183 => 130 | 182 => 129 | 131 => 98 | 5 => 5 | 9 => 9 | 218 => 145 | 222 => 149 | 228 => 151 | 229 => 143 | n => n,fun | n => n⟩
theorem Try.lays189 : Go.Proofs.Lays.n189 Try.prog Try.lays189_ren := {
 mixed := by kernel_rfl
 f125 := Try.func48.trans (congrArg some (by kernel_rfl))
 f128 := Try.func73.trans (congrArg some (by kernel_rfl))
 f129 := Try.func74.trans (congrArg some (by kernel_rfl))
 f189 := Try.func30.trans (congrArg some (by kernel_rfl))
 f215 := Try.func44.trans (congrArg some (by kernel_rfl))
 f216 := Try.func70.trans (congrArg some (by kernel_rfl))
 f257 := Try.func47.trans (congrArg some (by kernel_rfl))
 f294 := Try.func64.trans (congrArg some (by kernel_rfl))
 f295 := Try.func65.trans (congrArg some (by kernel_rfl))
 f296 := Try.func66.trans (congrArg some (by kernel_rfl))
 f297 := Try.func67.trans (congrArg some (by kernel_rfl))
 f298 := Try.func68.trans (congrArg some (by kernel_rfl))
 f299 := Try.func69.trans (congrArg some (by kernel_rfl))
 f300 := Try.func71.trans (congrArg some (by kernel_rfl))
 f301 := Try.func72.trans (congrArg some (by kernel_rfl))
 f328 := Try.func81.trans (congrArg some (by kernel_rfl))
 f329 := Try.func82.trans (congrArg some (by kernel_rfl))
 f330 := Try.func83.trans (congrArg some (by kernel_rfl))
 f331 := Try.func84.trans (congrArg some (by kernel_rfl))
 f332 := Try.func85.trans (congrArg some (by kernel_rfl))
 f343 := Try.func90.trans (congrArg some (by kernel_rfl))
 t0 := Try.underlying0
 a0 := Try.isAgg0
 z0 := Try.sizeOf0
 v0 := Try.zeroValue0
 t3 := Try.underlying3
 a3 := Try.isAgg3
 z3 := Try.sizeOf3
 v3 := Try.zeroValue3
 t4 := Try.underlying4
 a4 := Try.isAgg4
 z4 := Try.sizeOf4
 v4 := Try.zeroValue4
 t5 := Try.underlying5
 a5 := Try.isAgg5
 z5 := Try.sizeOf5
 v5 := Try.zeroValue5
 t9 := Try.underlying9
 a9 := Try.isAgg9
 z9 := Try.sizeOf9
 v9 := Try.zeroValue9
 t28 := Try.underlying55
 a28 := Try.isAgg55
 z28 := Try.sizeOf55
 v28 := Try.zeroValue55
 t46 := Try.underlying112
 a46 := Try.isAgg112
 z46 := Try.sizeOf112
 v46 := Try.zeroValue112
 t51 := Try.underlying137
 a51 := Try.isAgg137
 z51 := Try.sizeOf137
 v51 := Try.zeroValue137
 t53 := Try.underlying120
 a53 := Try.isAgg120
 z53 := Try.sizeOf120
 v53 := Try.zeroValue120
 t131 := Try.underlying98
 a131 := Try.isAgg98
 z131 := Try.sizeOf98
 v131 := Try.zeroValue98
 t182 := Try.underlying129
 a182 := Try.isAgg129
 z182 := Try.sizeOf129
 v182 := Try.zeroValue129
 t183 := Try.underlying130
 a183 := Try.isAgg130
 z183 := Try.sizeOf130
 v183 := Try.zeroValue130
 t218 := Try.underlying145
 a218 := Try.isAgg145
 z218 := Try.sizeOf145
 v218 := Try.zeroValue145
 t222 := Try.underlying149
 a222 := Try.isAgg149
 z222 := Try.sizeOf149
 v222 := Try.zeroValue149
 t228 := Try.underlying151
 a228 := Try.isAgg151
 z228 := Try.sizeOf151
 v228 := Try.zeroValue151
 t229 := Try.underlying143
 a229 := Try.isAgg143
 z229 := Try.sizeOf143
 v229 := Try.zeroValue143 }
open Go Go.Zam in
theorem Zs.sortOk : SortInt Try.prog 30 := fun blk off cap ss w hH hblk hsz => Any.slices_Sort_int Try.lays189 blk off cap ss w hH hblk hsz
end
end Go.Proofs
namespace Go.Zam
section
section
variable {P : Program}
end
end
section
section
variable {L : List Tk}
end
section
variable {L L' : List Tk} {d b lo c : Nat}
end
end
section
section
variable {L L' : List Tk} {d b : Nat}
end
end
section
section
variable {L L' : List Tk} {d b : Nat}
end
end
theorem node_ex (a : N) : ∃ (k f t : Int) (w : Bs) (q : Int) (za : Bool) (ks : List N),a.ks = ks ∧ a.enc = [.int .i64 k,.int .i64 f,.int .i64 t,.str w,.int .i64 q,.sl za 6 (ks.map N.enc)] ∧ a.v = .agg [.d (.int .i64 k),.d (.int .i64 f),.d (.int .i64 t),.d (.str w),.d (.int .i64 q),.d (.sl za 6 (ks.map N.enc))] := by
 obtain ⟨k,f,t,w,q,za,ks⟩ := a
 exact ⟨k,f,t,w,q,za,ks,rfl,by rw [N.enc_mk],by rw [N.v_mk]⟩
end Go.Zam
namespace Go.Proofs.Zs
section
open Go Go.Zam Go.Proofs
def Sf : SF := { wrong := 39,bind := 19,within := 40,res := 57,node := 42,nodeC := 58,kids := 59,mention := 60,find := 79,closed := 20,closedC := 41,cmp := 22,srt := 21,cmpI := 23,tn := 25,tp := 68,ts := 23,tfp := 71,tf := 102,tb := 73,tm := 34,bd := 45,mn := 47,ed := 50 }
theorem sHas : SHas Try.prog Sf where
 wrong := ⟨_,Try.func39,scf39⟩
 bind := ⟨_,Try.func19,scf19⟩
 res := ⟨_,Try.func57,scf57⟩
 kRes := by kernel_rfl
 node := ⟨_,Try.func42,scf42⟩
 nodeC := ⟨_,Try.func58,scf58⟩
 kNodeC := by kernel_rfl
 kids := ⟨_,Try.func59,scf59⟩
 mention := ⟨_,Try.func60,scf60⟩
 find := ⟨_,Try.func79,scf79⟩
 closed := ⟨_,Try.func20,scf20⟩
 closedC := ⟨_,Try.func41,scf41⟩
 kClosedC := by kernel_rfl
theorem sHasW : HasW Try.prog Sf := ⟨_,Try.func40,by kernel_rfl⟩
theorem encBad_len : ∀ x,(encBad x).length = 2 := fun _ => rfl
theorem cmpB : CmpA Try.prog encBad cBad (.d (.fn 22)) := fun H x y Q t hq => by
 simp only [ValD_d]
 exact ⟨by kernel_rfl,CallD_of (Has.scCmp (ed := 50) (cmpI := 23) ⟨_,Try.func22,scf22⟩ (fun a b H => compareInt_acall Try.func23 rcf23 Try.func44 rcf44 a b) x y H) hq⟩
theorem srtOk (H : Hp) (i : Nat) (L : List (Int × Int)) (hi : H[i]? = some (arrE encBad 2 L)) (hl : L.length ≤ 1099511627776) : ACall Try.prog 21 [.msl i 0 L.length,.d (.fn 22)] H (fun r H' => r = .tup [] ∧ H' = H.set i (arrE encBad 2 (ssort cBad L))) :=
 sortStable_acall encBad_len cBad_cmp Try.func21 rcf21 Try.func43 rcf43 Try.func61 rcf61 Try.func62 rcf62 Try.func80 rcf80 Try.func89 rcf89 cmpB (fun m _ => by simp) hi hl
theorem srt0Ok (H : Hp) : ACall Try.prog 21 [.d (.sl true 2 []),.d (.fn 22)] H (fun r H' => r = .tup [] ∧ H' = H) :=
 sortStable0_acall (sz := 2) Try.func21 rcf21 Try.func43 rcf43 Try.func61 rcf61 (fun m _ => by simp)
theorem scopeOk (n : N) (hn : n.size ≤ 68719476736) (H : Hp) : ACall Try.prog 10 [n.v] H (fun r H' => r = .agg ((scopeM n).enc.map .d) ∧ H' = H) :=
 sHas.of' sHasW ⟨_,Try.func10,scf10⟩ srtOk srt0Ok n hn H
theorem writtenOk {bs bad : D} {z : Bool} {ms : List Mn} (hl : ms.length ≤ 1099511627776) (i : Int) (H : Hp) : ACall Try.prog 18 [.agg [.d bs,.d (.sl z 4 (ms.map encMn)),.d bad],.d (.int .i64 i)] H (fun r H' => r = .d (.bool (ms.any (wrQ i))) ∧ H' = H) :=
 Has.scWritten (tm := 34) (tint := 3) (mn := 47) ⟨_,Try.func18,scf18⟩ ⟨_,Try.func37,scf37⟩ ⟨_,Try.func56,scf56⟩ ⟨_,Try.func38,scf38⟩ (by kernel_rfl) hl i H
theorem usesOk {S : SM} {z1 z2 : Bool} {bad : D} (hl : S.ms.length ≤ 1099511627776) (i : Nat) (hi : i < S.bs.length) (H : Hp) :
 ACall Try.prog 14 [.agg [.d (.sl z1 4 (S.bs.map encBd)),.d (.sl z2 4 (S.ms.map encMn)),.d bad],.d (.int .i64 (i : Int))] H (fun r H' => r = .d (.sl false 1 ((isort (usesL S i)).map Go.Zam.encI)) ∧ H' = H) :=
 Has.scUses ⟨_,Try.func14,scf14⟩ sortOk hl i hi H
theorem smallOk (n : N) (H : Hp) : ACall Try.prog 12 [n.v,.d (.int .i64 300),.d (.int .i64 50)] H (fun r H' => r = .d (.bool (decide (szN 50 300 n ≤ 300))) ∧ H' = H) :=
 Has.scSmall (f := 12) (g := 26) (tn := 25) ⟨_,Try.func26,scf26⟩ ⟨_,Try.func12,scf12⟩ n 50 300 H (by decide) (by decide) (by decide)
def awkT : Bs := [100,101,102,32,102,40,97,41,32,123,32,108,101,116,32,98,32,61,32,97,59,32,98,32,61,32,98,32,43,32,97,59,32,125]
def awkM : SM := scopeM (parseO awkT).2.1
theorem awk_e : (parseO awkT).2.2.1 = 0 := by kernel_rfl
theorem awk_size : (parseO awkT).2.1.size ≤ 68719476736 := Nat.le_trans (of_decide_eq_true (p := (parseO awkT).2.1.size ≤ 100) (by kernel_rfl)) (by decide)
theorem awk_bs : awkM.bs.length = 3 := by kernel_rfl
theorem awk_bad : awkM.bad.length = 0 := by kernel_rfl
theorem awk_ms : awkM.ms.length = 4 := by kernel_rfl
theorem awk_u : (usesL awkM 2).length = 3 := by kernel_rfl
theorem awk_w2 : awkM.ms.any (wrQ 2) = true := by kernel_rfl
theorem awk_w1 : awkM.ms.any (wrQ 1) = false := by kernel_rfl
theorem awakeOk (H : Hp) : ACall Try.prog 8 [] H (fun r H' => r = .d (.bool true) ∧ H' = H) := by
 refine acall_fin Try.func8 cf8 (by simp [ir8]) fun hcl _ => ?_
 have g := refOfOk awkT (by decide) H
 have g1 := fun X => scopeOk (parseO awkT).2.1 awk_size (H ++ X)
 rw [awk_e] at g
 have hM : scopeM (parseO awkT).2.1 = awkM := rfl
 rw [hM] at g1
 have b1 := awk_bs; have b2 := awk_bad; have b3 := awk_ms; have b4 := awk_u; have b5 := awk_w2; have b6 := awk_w1
 generalize awkM = M at g1 b1 b2 b3 b4 b5 b6
 generalize (parseO awkT).1 = LA at g
 generalize (parseO awkT).2.2.2 = PA at g
 obtain ⟨k,f,t,w,q,za,ks,-,he,hv⟩ := node_ex (parseO awkT).2.1
 rw [hv] at g g1
 unfold awkT at g
 have gu := fun X => usesOk (S := M) (z1 := M.bs.isEmpty) (z2 := M.ms.isEmpty) (bad := .sl M.bad.isEmpty 2 (M.bad.map encBad)) (by omega) 2 (by omega) (H ++ X)
 have gw := fun X i => writtenOk (bs := .sl M.bs.isEmpty 4 (M.bs.map encBd)) (z := M.ms.isEmpty) (ms := M.ms) (bad := .sl M.bad.isEmpty 2 (M.bad.map encBad)) (by omega) i (H ++ X)
 have hlu : (isort (usesL M 2)).length = 3 := by rw [isort_len]; exact b4
 generalize isort (usesL M 2) = UL at gu hlu
 simp only [SM.enc,List.map_cons,List.map_nil] at g1
 have gw2 := fun X => gw X 2
 have gw1 := fun X => gw X 1
 rw [b5] at gw2
 rw [b6] at gw1
 simp [ir8]
 refine CallK_of' g ?_
 simp
 refine CallK_of' (g1 _) ?_
 simp [b1]
 refine CallK_of' (gu _) ?_
 simp [hlu]
 refine CallK_of' (gw2 _) ?_
 simp
 refine CallK_of' (gw1 _) ?_
 simp [b2]
 simp [RetK,cut_app hcl]
end
section
open Go Go.Zam Go.Proofs
theorem scopeM_sz (n : N) : (scopeM n).sz ≤ 4 * n.size := by
 obtain ⟨k,f,t,w,a,z,ks⟩ := n
 have hall : allP (.mk k f t w a z ks) = defsP (topsP 0 ks [] ⟨[],[],[]⟩).1 0 ks (topsP 0 ks [] ⟨[],[],[]⟩).2 := rfl
 have h1 := (tops_grew ks 0 [] ⟨[],[],[]⟩ (FOk.nil _)).sz
 have h2 := (defs_grew (topsP 0 ks [] ⟨[],[],[]⟩).1 ks 0 (topsP 0 ks [] ⟨[],[],[]⟩).2).2
 have h3 : SM.sz ⟨[],[],[]⟩ = 0 := rfl
 have hsl := N.sizes_len ks
 rw [N.size_mk]
 have : (scopeM (.mk k f t w a z ks)).sz = (allP (.mk k f t w a z ks)).sz := by
  unfold scopeM SM.sz
  simp only [ssort_length cBad_cmp]
 rw [this,hall]
 omega
end
section
open Go Go.Zam Go.Proofs
def ir4 : IFn := { nt := 96, res := [.t 2], body := ( .seq (.ops [ ⟨some 1,none,.box 25 6 (.t 0)⟩, ⟨some 2,none,.mv (.c (.bool false))⟩] false) (.seq (.seq (.ops [ ⟨some 8,none,.load 6 true (.t 1)⟩, ⟨some 9,none,.call 12 [(.t 8),(.c (.int .i64 300)),(.c (.int .i64 50))]⟩, ⟨some 10,none,.un .not (.t 9)⟩] false) (.cond (.t 10) (.seq (.ops [ ⟨some 11,none,.call 8 []⟩, ⟨some 2,none,.mv (.t 11)⟩] false) (.ret)) (.skip))) (.seq (.any [ ⟨some 12,none,.load 6 true (.t 1)⟩, ⟨some 13,none,.call 10 [(.t 12)]⟩, ⟨some 14,none,.load 6 true (.t 1)⟩, ⟨some 15,none,.call 10 [(.t 14)]⟩, ⟨some 3,none,.alloc 34 [(.sl true 4 []),(.sl true 4 []),(.sl true 2 [])]⟩, ⟨some 4,none,.alloc 34 [(.sl true 4 []),(.sl true 4 []),(.sl true 2 [])]⟩, ⟨none,none,.store 3 (.t 3) (.t 13)⟩, ⟨none,none,.store 3 (.t 4) (.t 15)⟩] [[],[0],[],[2,1],[],[],[4,1,3,0,1,4,5],[5,3,6,0,1,2,3,4,5,6]]) (.seq (.seq (.ops [ ⟨some 16,none,.faddr 0 (.t 3)⟩, ⟨some 17,none,.load 1 false (.t 16)⟩, ⟨some 18,none,.lenL (.t 17)⟩, ⟨some 19,none,.faddr 0 (.t 4)⟩, ⟨some 20,none,.load 1 false (.t 19)⟩, ⟨some 21,none,.lenL (.t 20)⟩, ⟨some 22,none,.bin .neq (.t 18) (.t 21)⟩, ⟨some 23,none,.mv (.t 22)⟩, ⟨some 24, some (23, false),.faddr 1 (.t 3)⟩, ⟨some 25, some (23, false),.load 1 false (.t 24)⟩, ⟨some 26, some (23, false),.lenL (.t 25)⟩, ⟨some 27, some (23, false),.faddr 1 (.t 4)⟩, ⟨some 28, some (23, false),.load 1 false (.t 27)⟩, ⟨some 29, some (23, false),.lenL (.t 28)⟩, ⟨some 30, some (23, false),.bin .neq (.t 26) (.t 29)⟩, ⟨some 31,none,.pick (.t 23) (.c (.bool true)) (.t 30)⟩, ⟨some 32,none,.mv (.t 31)⟩, ⟨some 33, some (32, false),.faddr 2 (.t 3)⟩, ⟨some 34, some (32, false),.load 1 false (.t 33)⟩, ⟨some 35, some (32, false),.lenL (.t 34)⟩, ⟨some 36, some (32, false),.faddr 2 (.t 4)⟩, ⟨some 37, some (32, false),.load 1 false (.t 36)⟩, ⟨some 38, some (32, false),.lenL (.t 37)⟩, ⟨some 39, some (32, false),.bin .neq (.t 35) (.t 38)⟩, ⟨some 40,none,.pick (.t 32) (.c (.bool true)) (.t 39)⟩] false) (.cond (.t 40) (.seq (.ops [ ⟨some 2,none,.mv (.c (.bool false))⟩] false) (.ret)) (.skip))) (.seq (.seq (.ops [ ⟨some 41,none,.faddr 0 (.t 3)⟩, ⟨some 42,none,.load 1 false (.t 41)⟩, ⟨some 43,none,.lenL (.t 42)⟩, ⟨some 44,none,.mv (.c (.int .i64 0))⟩] false) (.blk 0 (.loop (.seq (.ops [ ⟨some 45,none,.bin .lss (.t 44) (.t 43)⟩] false) (.seq (.cond (.t 45) (.skip) (.exit 0)) (.seq (.blk 1 (.seq (.ops [ ⟨some 46,none,.mv (.t 44)⟩, ⟨some 5,none,.mv (.t 46)⟩] false) (.seq (.ops [ ⟨some 47,none,.faddr 0 (.t 3)⟩, ⟨some 48,none,.load 1 false (.t 47)⟩, ⟨some 49,none,.mv (.t 5)⟩, ⟨some 50,none,.iaddr 4 (.t 48) (.t 49)⟩, ⟨some 51,none,.load 4 true (.t 50)⟩, ⟨some 52,none,.faddr 0 (.t 4)⟩, ⟨some 53,none,.load 1 false (.t 52)⟩, ⟨some 54,none,.mv (.t 5)⟩, ⟨some 55,none,.iaddr 4 (.t 53) (.t 54)⟩, ⟨some 56,none,.load 4 true (.t 55)⟩, ⟨some 57,none,.eqA true [(.int .i64 0),(.int .i64 0),(.str []),(.int .i64 0)] (.t 51) (.t 56)⟩] true) (.cond (.t 57) (.seq (.ops [ ⟨some 2,none,.mv (.c (.bool false))⟩] false) (.ret)) (.skip))))) (.ops [ ⟨some 58,none,.bin .add (.t 44) (.c (.int .i64 1))⟩, ⟨some 44,none,.mv (.t 58)⟩] false))))))) (.seq (.seq (.ops [ ⟨some 59,none,.faddr 1 (.t 3)⟩, ⟨some 60,none,.load 1 false (.t 59)⟩, ⟨some 61,none,.lenL (.t 60)⟩, ⟨some 62,none,.mv (.c (.int .i64 0))⟩] false) (.blk 2 (.loop (.seq (.ops [ ⟨some 63,none,.bin .lss (.t 62) (.t 61)⟩] false) (.seq (.cond (.t 63) (.skip) (.exit 2)) (.seq (.blk 3 (.seq (.ops [ ⟨some 64,none,.mv (.t 62)⟩, ⟨some 6,none,.mv (.t 64)⟩] false) (.seq (.ops [ ⟨some 65,none,.faddr 1 (.t 3)⟩, ⟨some 66,none,.load 1 false (.t 65)⟩, ⟨some 67,none,.mv (.t 6)⟩, ⟨some 68,none,.iaddr 4 (.t 66) (.t 67)⟩, ⟨some 69,none,.load 4 true (.t 68)⟩, ⟨some 70,none,.faddr 1 (.t 4)⟩, ⟨some 71,none,.load 1 false (.t 70)⟩, ⟨some 72,none,.mv (.t 6)⟩, ⟨some 73,none,.iaddr 4 (.t 71) (.t 72)⟩, ⟨some 74,none,.load 4 true (.t 73)⟩, ⟨some 75,none,.eqA true [(.int .i64 0),(.int .i64 0),(.bool false),(.int .i64 0)] (.t 69) (.t 74)⟩] true) (.cond (.t 75) (.seq (.ops [ ⟨some 2,none,.mv (.c (.bool false))⟩] false) (.ret)) (.skip))))) (.ops [ ⟨some 76,none,.bin .add (.t 62) (.c (.int .i64 1))⟩, ⟨some 62,none,.mv (.t 76)⟩] false))))))) (.seq (.seq (.ops [ ⟨some 77,none,.faddr 2 (.t 3)⟩, ⟨some 78,none,.load 1 false (.t 77)⟩, ⟨some 79,none,.lenL (.t 78)⟩, ⟨some 80,none,.mv (.c (.int .i64 0))⟩] false) (.blk 4 (.loop (.seq (.ops [ ⟨some 81,none,.bin .lss (.t 80) (.t 79)⟩] false) (.seq (.cond (.t 81) (.skip) (.exit 4)) (.seq (.blk 5 (.seq (.ops [ ⟨some 82,none,.mv (.t 80)⟩, ⟨some 7,none,.mv (.t 82)⟩] false) (.seq (.ops [ ⟨some 83,none,.faddr 2 (.t 3)⟩, ⟨some 84,none,.load 1 false (.t 83)⟩, ⟨some 85,none,.mv (.t 7)⟩, ⟨some 86,none,.iaddr 2 (.t 84) (.t 85)⟩, ⟨some 87,none,.load 2 true (.t 86)⟩, ⟨some 88,none,.faddr 2 (.t 4)⟩, ⟨some 89,none,.load 1 false (.t 88)⟩, ⟨some 90,none,.mv (.t 7)⟩, ⟨some 91,none,.iaddr 2 (.t 89) (.t 90)⟩, ⟨some 92,none,.load 2 true (.t 91)⟩, ⟨some 93,none,.eqA true [(.int .i64 0),(.int .i64 0)] (.t 87) (.t 92)⟩] true) (.cond (.t 93) (.seq (.ops [ ⟨some 2,none,.mv (.c (.bool false))⟩] false) (.ret)) (.skip))))) (.ops [ ⟨some 94,none,.bin .add (.t 80) (.c (.int .i64 1))⟩, ⟨some 80,none,.mv (.t 94)⟩] false))))))) (.seq (.ops [ ⟨some 95,none,.call 8 []⟩, ⟨some 2,none,.mv (.t 95)⟩] false) (.ret))))))))) }
theorem cf4 : compF Try.prog [10000003] Try.f4 = some ir4 := by kernel_rfl
end
section
open Go Go.Zam Go.Proofs
def tZ : List A := [.d (.sl true 4 []),.d (.sl true 4 []),.d (.sl true 2 [])]
def TInv (H : Hp) (N R : List A) : List Bool → Fr → Hp → Prop
 | [b0, b1, b2, b3, b4, b5, b6, b7], fr, H' =>
   fr 1 = .ptr H.length 0 ∧ (b0 = true → fr 12 = .agg N) ∧ (b1 = true → fr 13 = .agg R) ∧ (b2 = true → fr 14 = .agg N) ∧ (b3 = true → fr 15 = .agg R) ∧ (b6 = true → b4 = true ∧ b5 = true) ∧ (b7 = true → b4 = true ∧ b5 = true) ∧
   ((b4 = false ∧ b5 = false ∧ H' = H ++ [.box 25 N]) ∨
    (b4 = true ∧ b5 = false ∧ fr 3 = .ptr (H.length + 1) 0 ∧ H' = H ++ [.box 25 N,.box 34 tZ]) ∨
    (b4 = false ∧ b5 = true ∧ fr 4 = .ptr (H.length + 1) 0 ∧ H' = H ++ [.box 25 N,.box 34 tZ]) ∨
    (b4 = true ∧ b5 = true ∧ fr 3 = .ptr (H.length + 1) 0 ∧ fr 4 = .ptr (H.length + 2) 0 ∧ H' = H ++ [.box 25 N,.box 34 (bif b6 then R else tZ),.box 34 (bif b7 then R else tZ)]) ∨
    (b4 = true ∧ b5 = true ∧ fr 3 = .ptr (H.length + 2) 0 ∧ fr 4 = .ptr (H.length + 1) 0 ∧ H' = H ++ [.box 25 N,.box 34 (bif b7 then R else tZ),.box 34 (bif b6 then R else tZ)]))
 | _,_,_ => False
def tW : List (List Nat) := [[],[0],[],[2,1],[],[],[4,1,3,0,1,4,5],[5,3,6,0,1,2,3,4,5,6]]
theorem tW_all : ∀ b0 b1 b2 b3 b4 b5 b6 b7 : Bool,readyL tW [b0,b1,b2,b3,b4,b5,b6,b7] = [] → b4 = true ∧ b5 = true ∧ b6 = true ∧ b7 = true := by decide +kernel
theorem list8 {α : Type} : ∀ {l : List α},l.length = 8 → ∃ a b c d e f g h,l = [a,b,c,d,e,f,g,h]
 | [a,b,c,d,e,f,g,h],_ => ⟨a,b,c,d,e,f,g,h,rfl⟩
theorem ready8 {w : List (List Nat)} {S : List Bool} {i : Nat} (h : i ∈ readyL w S) : i < w.length ∧ S.getD i true = false ∧ ∀ j ∈ w.getD i [],S.getD j false = true := by
 simpa [readyL,List.mem_filter] using h
theorem treesA {H : Hp} {n0 : Nat} {Q : Ex → Fr → Hp → Prop} {fr : Fr} {N R : List A} {a0 a1 a2 a3 a4 a5 r0 r1 r2 : D} (lN : N = [.d a0,.d a1,.d a2,.d a3,.d a4,.d a5]) (lR : R = [.d r0,.d r1,.d r2]) (f1 : fr 1 = .ptr H.length 0)
 (g1 : ∀ X,ACall Try.prog 10 [.agg N] (H ++ X) (fun r H' => r = .agg R ∧ H' = H ++ X))
 (hQ : ∀ fr',(fr' 3 = .ptr (H.length + 1) 0 ∧ fr' 4 = .ptr (H.length + 2) 0 ∨ fr' 3 = .ptr (H.length + 2) 0 ∧ fr' 4 = .ptr (H.length + 1) 0) → Q .normal fr' (H ++ [.box 25 N,.box 34 R,.box 34 R])) :
 AWp Try.prog n0 (.any [⟨(some 12),none,.load 6 true (.t 1)⟩,⟨(some 13),none,.call 10 [(.t 12)]⟩,⟨(some 14),none,.load 6 true (.t 1)⟩,⟨(some 15),none,.call 10 [(.t 14)]⟩,
 ⟨(some 3),none,.alloc 34 [(.sl true 4 []),(.sl true 4 []),(.sl true 2 [])]⟩,⟨(some 4),none,.alloc 34 [(.sl true 4 []),(.sl true 4 []),(.sl true 2 [])]⟩,
 ⟨none,none,.store 3 (.t 3) (.t 13)⟩,⟨none,none,.store 3 (.t 4) (.t 15)⟩] [[],[0],[],[2,1],[],[],[4,1,3,0,1,4,5],[5,3,6,0,1,2,3,4,5,6]]) Q fr (H ++ [.box 25 N]) := by
 subst lN
 subst lR
 simp only [AWp_any_eq]
 refine AnyK_of (TInv H [.d a0,.d a1,.d a2,.d a3,.d a4,.d a5] [.d r0,.d r1,.d r2]) ?_ ?_
 · simp [TInv,f1]
 intro S fr H' hS hI
 obtain ⟨b0,b1,b2,b3,b4,b5,b6,b7,rfl⟩ := list8 hS
 obtain ⟨i1,i12,i13,i14,i15,i6,i7,hI⟩ := hI
 constructor
 · intro hr
   obtain ⟨rfl,rfl,rfl,rfl⟩ := tW_all _ _ _ _ _ _ _ _ hr
   rcases hI with ⟨h,-⟩ | ⟨-,h,-⟩ | ⟨h,-⟩ | ⟨-,-,a,b,rfl⟩ | ⟨-,-,a,b,rfl⟩
   · cases h
   · cases h
   · cases h
   · exact hQ _ (.inl ⟨a,b⟩)
   · exact hQ _ (.inr ⟨a,b⟩)
 · intro i hi
   obtain ⟨h1,h2,h3⟩ := ready8 hi
   simp at h1
   have : i = 0 ∨ i = 1 ∨ i = 2 ∨ i = 3 ∨ i = 4 ∨ i = 5 ∨ i = 6 ∨ i = 7 := by omega
   rcases this with rfl | rfl | rfl | rfl | rfl | rfl | rfl | rfl
   · simp at h2 h3
     subst h2
     rcases hI with ⟨rfl,rfl,rfl⟩ | ⟨rfl,rfl,p,rfl⟩ | ⟨rfl,rfl,p,rfl⟩ | ⟨rfl,rfl,p,q,rfl⟩ | ⟨rfl,rfl,p,q,rfl⟩ <;>
     · simp [i1]
       simp_all [TInv]
   · simp at h2 h3
     subst h2
     subst h3
     have j12 := i12 rfl
     rcases hI with ⟨rfl,rfl,rfl⟩ | ⟨rfl,rfl,p,rfl⟩ | ⟨rfl,rfl,p,rfl⟩ | ⟨rfl,rfl,p,q,rfl⟩ | ⟨rfl,rfl,p,q,rfl⟩ <;>
     · simp [j12]
       refine CallK_of' (g1 _) ?_
       simp_all [TInv]
   · simp at h2 h3
     subst h2
     rcases hI with ⟨rfl,rfl,rfl⟩ | ⟨rfl,rfl,p,rfl⟩ | ⟨rfl,rfl,p,rfl⟩ | ⟨rfl,rfl,p,q,rfl⟩ | ⟨rfl,rfl,p,q,rfl⟩ <;>
     · simp [i1]
       simp_all [TInv]
   · simp at h2 h3
     obtain ⟨h3,h4⟩ := h3
     subst h2
     subst h3
     have j14 := i14 rfl
     rcases hI with ⟨rfl,rfl,rfl⟩ | ⟨rfl,rfl,p,rfl⟩ | ⟨rfl,rfl,p,rfl⟩ | ⟨rfl,rfl,p,q,rfl⟩ | ⟨rfl,rfl,p,q,rfl⟩ <;>
     · simp [j14]
       refine CallK_of' (g1 _) ?_
       simp_all [TInv]
   · simp at h2 h3
     subst h2
     rcases hI with ⟨-,rfl,rfl⟩ | ⟨h,-⟩ | ⟨-,rfl,p,rfl⟩ | ⟨h,-⟩ | ⟨h,-⟩
     · simp
       simp_all [TInv,tZ]
     · cases h
     · simp
       simp_all [TInv,tZ]
     · cases h
     · cases h
   · simp at h2 h3
     subst h2
     rcases hI with ⟨rfl,-,rfl⟩ | ⟨rfl,-,p,rfl⟩ | ⟨-,h,-⟩ | ⟨-,h,-⟩ | ⟨-,h,-⟩
     · simp
       simp_all [TInv,tZ]
     · simp
       simp_all [TInv,tZ]
     · cases h
     · cases h
     · cases h
   · simp at h2 h3
     obtain ⟨rfl,rfl,rfl,rfl,-,-,rfl⟩ := h3
     subst h2
     have j13 := i13 rfl
     rcases hI with ⟨h,-⟩ | ⟨-,h,-⟩ | ⟨h,-⟩ | ⟨-,-,p,q,rfl⟩ | ⟨-,-,p,q,rfl⟩
     · cases h
     · cases h
     · cases h
     · simp [j13,p,tZ]
       simp_all [TInv,tZ]
     · simp [j13,p,tZ]
       simp_all [TInv,tZ]
   · simp at h2 h3
     obtain ⟨rfl,rfl,rfl,rfl,rfl,rfl,-,rfl,-,-⟩ := h3
     subst h2
     have j15 := i15 rfl
     rcases hI with ⟨h,-⟩ | ⟨-,h,-⟩ | ⟨h,-⟩ | ⟨-,-,p,q,rfl⟩ | ⟨-,-,p,q,rfl⟩
     · cases h
     · cases h
     · cases h
     · simp [j15,q,tZ]
       simp_all [TInv,tZ]
     · simp [j15,q,tZ]
       simp_all [TInv,tZ]
end
section
open Go Go.Zam Go.Proofs
theorem treesOk (n : N) (hn : n.size ≤ 1048576) (H : Hp) : ACall Try.prog 4 [n.v] H (fun r H' => r = .d (.bool true) ∧ H' = H) := by
 refine acall_fin Try.func4 cf4 (by simp [ir4]) fun hcl _ => ?_
 have haw := fun X => awakeOk (H ++ X)
 have gs := fun X => smallOk n (H ++ X)
 have g1 := fun X => scopeOk n (by omega) (H ++ X)
 have hsz := scopeM_sz n
 generalize scopeM n = M at g1 hsz
 generalize szN 50 300 n = small at gs
 obtain ⟨k,f,t,w,q,za,ks,-,he,hv⟩ := node_ex n
 rw [hv] at gs g1 ⊢
 by_cases h0 : small ≤ 300
 case neg =>
  simp [ir4]
  refine CallK_of' (gs _) ?_
  simp [h0]
  refine CallK_of' (haw _) ?_
  simp [RetK,cut_app hcl]
 obtain ⟨bs,ms,bad⟩ := M
 have h1 : bs.length ≤ 4611686018427387904 := by unfold SM.sz at hsz; simp only at hsz; omega
 have h2 : ms.length ≤ 4611686018427387904 := by unfold SM.sz at hsz; simp only at hsz; omega
 have h3 : bad.length ≤ 4611686018427387904 := by unfold SM.sz at hsz; simp only at hsz; omega
 simp only [SM.enc,List.map_cons,List.map_nil] at g1
 simp [ir4]
 refine CallK_of' (gs _) ?_
 simp [h0]
 refine treesA rfl rfl (by simp) g1 ?_
 intro fr hfr
 obtain ⟨Y,hY⟩ : ∃ Y : Hp,Y = [Ob.box 25 [.d (.int .i64 k),.d (.int .i64 f),.d (.int .i64 t),.d (.str w),.d (.int .i64 q),.d (.sl za 6 (ks.map N.enc))],Ob.box 34 [.d (.sl bs.isEmpty 4 (bs.map encBd)),.d (.sl ms.isEmpty 4 (ms.map encMn)),.d (.sl bad.isEmpty 2 (bad.map encBad))],Ob.box 34 [.d (.sl bs.isEmpty 4 (bs.map encBd)),.d (.sl ms.isEmpty 4 (ms.map encMn)),.d (.sl bad.isEmpty 2 (bad.map encBad))]] := ⟨_,rfl⟩
 have hc : ∀ X,Hp.cut (H.length + 3) (H ++ (Y ++ X)) = H ++ Y := fun X => by rw [cut_appk hcl]; subst hY; simp
 have hc0 : Hp.cut (H.length + 3) (H ++ Y) = H ++ Y := by have := hc []; rwa [List.append_nil] at this
 have lY : Y.length = 3 := by subst hY; rfl
 obtain ⟨i,j,f3,f4,e0,e1,hi3,hj3⟩ : ∃ i j : Nat,fr 3 = .ptr (H.length + i) 0 ∧ fr 4 = .ptr (H.length + j) 0 ∧ (∀ X,(Y ++ X)[i]? = some (Ob.box 34 [.d (.sl bs.isEmpty 4 (bs.map encBd)),.d (.sl ms.isEmpty 4 (ms.map encMn)),.d (.sl bad.isEmpty 2 (bad.map encBad))])) ∧
  (∀ X,(Y ++ X)[j]? = some (Ob.box 34 [.d (.sl bs.isEmpty 4 (bs.map encBd)),.d (.sl ms.isEmpty 4 (ms.map encMn)),.d (.sl bad.isEmpty 2 (bad.map encBad))])) ∧ i < 3 ∧ j < 3 := by
  subst hY
  rcases hfr with ⟨a,b⟩ | ⟨a,b⟩
  · exact ⟨1,2,a,b,fun X => rfl,fun X => rfl,by decide,by decide⟩
  · exact ⟨2,1,a,b,fun X => rfl,fun X => rfl,by decide,by decide⟩
 have e0' := e0 []
 have e1' := e1 []
 rw [List.append_nil] at e0' e1'
 rw [← hY]
 simp [f3,f4,e0',e1',-getElem?_pos]
 refine LoopK_out 0 (fun fr H' => fr 3 = .ptr (H.length + i) 0 ∧ fr 4 = .ptr (H.length + j) 0 ∧ H' = H ++ Y) ?_ ?_
 · refine RangeK_of (H.length + 3) bs.length (fun j' fr H' => fr 3 = .ptr (H.length + i) 0 ∧ fr 4 = .ptr (H.length + j) 0 ∧ H' = H ++ Y) h1 (by decide) (by simp [lY]) (by simp) ?_ ?_ ?_
   · exact ⟨by simp [f3,hi3],by simp [f4,hj3],hc0⟩
   · rintro l fr H' hl fi fn ⟨f3,f4,rfl⟩
     have hr := rowAt_map encBd hl
     generalize bs[l] = x at hr
     obtain ⟨xa,xk,xw,xi⟩ := x
     simp only [encBd] at hr
     simp [fi,f3,f4,hr,e0',e1',eqDs,eqD,-getElem?_pos]
     refine NextK_of (H.length + 3) (Nat.le_refl _) (by simp [lY,fi,fn]) ?_
     exact ⟨by simp [f3,hi3],by simp [f4,hj3],hc0⟩
   · rintro fr H' fi fn ⟨f3,f4,rfl⟩
     simp [f3,f4]
 · rintro fr H' ⟨f3,f4,rfl⟩
   simp [f3,f4,e0',e1',-getElem?_pos]
   refine LoopK_out 2 (fun fr H' => fr 3 = .ptr (H.length + i) 0 ∧ fr 4 = .ptr (H.length + j) 0 ∧ H' = H ++ Y) ?_ ?_
   · refine RangeK_of (H.length + 3) ms.length (fun j' fr H' => fr 3 = .ptr (H.length + i) 0 ∧ fr 4 = .ptr (H.length + j) 0 ∧ H' = H ++ Y) h2 (by decide) (by simp [lY]) (by simp) ?_ ?_ ?_
     · exact ⟨by simp [f3,hi3],by simp [f4,hj3],hc0⟩
     · rintro l fr H' hl fi fn ⟨f3,f4,rfl⟩
       have hr := rowAt_map encMn hl
       generalize ms[l] = x at hr
       obtain ⟨xa,xt,xw,xf⟩ := x
       simp only [encMn] at hr
       simp [fi,f3,f4,hr,e0',e1',eqDs,eqD,-getElem?_pos]
       refine NextK_of (H.length + 3) (Nat.le_refl _) (by simp [lY,fi,fn]) ?_
       exact ⟨by simp [f3,hi3],by simp [f4,hj3],hc0⟩
     · rintro fr H' fi fn ⟨f3,f4,rfl⟩
       simp [f3,f4]
   · rintro fr H' ⟨f3,f4,rfl⟩
     simp [f3,f4,e0',e1',-getElem?_pos]
     refine LoopK_out 4 (fun fr H' => H' = H ++ Y) ?_ ?_
     · refine RangeK_of (H.length + 3) bad.length (fun j' fr H' => fr 3 = .ptr (H.length + i) 0 ∧ fr 4 = .ptr (H.length + j) 0 ∧ H' = H ++ Y) h3 (by decide) (by simp [lY]) (by simp) ?_ ?_ ?_
       · exact ⟨by simp [f3,hi3],by simp [f4,hj3],hc0⟩
       · rintro l fr H' hl fi fn ⟨f3,f4,rfl⟩
         have hr := rowAt_map encBad hl
         generalize bad[l] = x at hr
         obtain ⟨xa,xe⟩ := x
         simp only [encBad] at hr
         simp [fi,f3,f4,hr,e0',e1',eqDs,eqD,-getElem?_pos]
         refine NextK_of (H.length + 3) (Nat.le_refl _) (by simp [lY,fi,fn]) ?_
         exact ⟨by simp [f3,hi3],by simp [f4,hj3],hc0⟩
       · rintro fr H' fi fn ⟨f3,f4,rfl⟩
         simp
     · rintro fr H' rfl
       simp
       refine CallK_of' (haw _) ?_
       simp [RetK,cut_app hcl]
end
end Go.Proofs.Zs
namespace Go.Zam

section
open Go Go.Proofs Go.Lib
open Go.RowKit (Below)
open Go.ChangeShapes Go.RowKit
end
end Go.Zam
namespace Go.Proofs.Ytffdeeooocookaa
section
open Go Go.Zam Go.Proofs.Zs
open Go.ChangeShapes Go.WideShapes Go.ChangeAt Go.RowKit
theorem isBulk (H : Type) : IsBulk (X := H) Rows.uptoBulk Rows.uptoBulkAll where
 str := fun b => by simp [Rows.uptoBulk]
 bool := fun b => by simp [Rows.uptoBulk]
 int := fun k n => by simp [Rows.uptoBulk]
 nil := by simp [Rows.uptoBulk]
 slice := fun e s => by simp only [Rows.uptoBulk]; omega
 agg := fun p => by simp only [Rows.uptoBulk]; omega
 cons := fun d r => by simp only [Rows.uptoBulkAll]; omega
theorem own : ownKnob Try.prog.godebug = none := by kernel_rfl
theorem laidOut : laidOutB Try.prog = true := by kernel_rfl
end
end Go.Proofs.Ytffdeeooocookaa
