/-
  Texts of one proof, one behind the other: ref11.Rec on the abstract machine: what it computes. The lengths are bounded. strings.Builder's copyCheck and String on the abstract machine, at this program. No condition. Contracts of the library's functions at this program, out of the kit's shelf. No condition. runes.Quote on the abstract machine, and the library's functions of texts. The lengths are bounded. Value.Text on the abstract machine: what it computes. How much a value holds is bounded. ValueMakes on the abstract machine: it answers true. The lengths are bounded. Values walked on the abstract machine: the part of a name, whether one is what a type says, whether one may be. The lengths are bounded. Values walked on the abstract machine: whether one may be. The lengths are bounded. ValueParts on the abstract machine: it answers true. The lengths are bounded. Values with another name for a name, in plain words: there and back again. No condition. Values walked on the abstract machine: another name for a name. The lengths are bounded. Values walked on the abstract machine: whether a name stands in one; whether one may be, as the program has it. The lengths are bounded. ValueNames on the abstract machine: it answers true. The lengths are bounded. An abstract machine over the model, forty-second part: what a name is, in the document's words: digit, Letter, IsKey, IsName, over any program that has them. No condition but on lengths. An abstract machine over the model, forty-third part: types of the language: how great one is, whether one may be, over any program that asks. The lengths are bounded. Values walked on the abstract machine, as the document has them: decimals, quotes, texts, what a type says. How much a value holds is bounded. Values walked on the abstract machine, as the document has them: texts, and what a type says. How much a value holds is bounded. What a type says of a value, as the document has it; types that may be; what comes in of a type. The lengths are bounded. Values that may be, whose names are names, have one text just if they are the same. No condition.
-/
import Derived.Test.YtdhanghnffkckaaDoorM5
import Derived.Test.YtdhanghnffkckaaDoorM4
import Derived.Test.YtdhanghnffkckaaDoorM3
import Derived.Test.YtdhanghnffkckaaDoorProg
import Derived.Shelf.Strings.Builder1
import Derived.Shelf.Strings.Builder2
import Derived.Shelf.Strings.OnBuilder
import Derived.Shelf.Small.Strs
import Derived.Shelf.Strconv.Itoa0
import Derived.Shelf.Strconv.Itoa1
import Derived.Shelf.LaysM
import Derived.Shelf.Strconv.Itoa2
import Derived.Shelf.Strconv.Itoa3
import Derived.Shelf.Strconv.Itoa4
import Derived.Shelf.Strings.Search1
namespace Go.Proofs.Zv
open Go Go.Zam Go.Proofs
set_option maxRecDepth 100000
set_option linter.all false
set_option maxHeartbeats 1000000

theorem cP_lt {a b : Pr} : cP a b < 0 ↔ Op.bytesLess a.1 b.1 = true := cmpStr_lt
theorem cP_zero {a b : Pr} : cP a b = 0 ↔ a.1 = b.1 := cmpStr_zero

theorem strict_of : ∀ {S : List Pr}, Sorted cP S → ¬ Dup S → (S.map Prod.fst).Nodup
  | [], _, _ => by simp
  | a :: r, hs, hd => by
    obtain ⟨h1, h2⟩ := Sorted.cons.1 hs
    have hd' : ¬ Dup r := fun ⟨j, x, y, hx, hy, e⟩ => hd ⟨j + 1, x, y, by simpa using hx, by simpa using hy, e⟩
    have ih := strict_of h2 hd'
    rw [List.map_cons, List.nodup_cons]
    refine ⟨fun hm => ?_, ih⟩
    obtain ⟨y, hy, e⟩ := List.mem_map.1 hm
    cases r with
    | nil => simp at hy
    | cons b r =>
      have hab : cP a b < 0 := by
        have h3 := h1 b (by simp)
        have h4 : cP a b ≠ 0 := fun h => hd ⟨0, a, b, rfl, rfl, cP_zero.1 h⟩
        omega
      have hay : cP a y < 0 := by
        rcases List.mem_cons.1 hy with rfl | hy'
        · exact hab
        · exact cP_cmp.lt_le hab ((Sorted.cons.1 h2).1 y hy')
      have := cP_zero.2 (show a.1 = y.1 from e.symm)
      omega

theorem dup_iff (L : List Pr) : Dup (ssort cP L) ↔ ¬ (L.map Prod.fst).Nodup := by
  have hp := (ssort_perm cP_cmp L).map Prod.fst
  constructor
  · rintro ⟨j, a, b, ha, hb, e⟩ hn
    have hn' := (hp.nodup_iff).1 hn
    have h1 : ((ssort cP L).map Prod.fst)[j]? = some a.1 := by simp [ha]
    have h2 : ((ssort cP L).map Prod.fst)[j + 1]? = some b.1 := by simp [hb]
    obtain ⟨l1, g1⟩ := List.getElem?_eq_some_iff.1 h1
    obtain ⟨l2, g2⟩ := List.getElem?_eq_some_iff.1 h2
    exact List.pairwise_iff_getElem.1 hn' j (j + 1) l1 l2 (by omega) (by rw [g1, g2, e])
  · intro hn
    refine Classical.byContradiction fun hd => hn ?_
    exact (hp.nodup_iff).2 (strict_of (ssort_spec cP_cmp L).1 hd)

/-- the place of a name among sorted ones -/
theorem insert_at {O : List Pr} (hs : Sorted cP O) {x : Pr} {at' : Nat} (hle : at' ≤ O.length) (ha : ∀ y ∈ O.take at', Op.bytesLess y.1 x.1 = true) (hb : ∀ y, O[at']? = some y → Op.bytesLess y.1 x.1 = false) (hx : ∀ y, O[at']? = some y → y.1 ≠ x.1) :
    ssort cP (O ++ [x]) = O.take at' ++ x :: O.drop at' ∧ x.1 ∉ O.map Prod.fst := by
  have hO : O.take at' ++ O.drop at' = O := List.take_append_drop _ _
  have hgt : ∀ y ∈ O.drop at', cP x y < 0 := by
    intro y hy
    cases hd : O.drop at' with
    | nil => rw [hd] at hy; simp at hy
    | cons b r =>
      have hb0 : O[at']? = some b := by
        have := congrArg (fun l => l[0]?) hd
        simpa using this
      have h1 : cP x b < 0 := by
        have g1 : ¬ cP b x < 0 := fun h => by rw [cP_lt] at h; rw [hb b hb0] at h; cases h
        have g2 : cP x b ≤ 0 := cP_cmp.not_lt.1 g1
        have g3 : cP x b ≠ 0 := fun h => hx b hb0 (cP_zero.1 h).symm
        omega
      rw [hd] at hy
      rw [← hO, hd] at hs
      rcases List.mem_cons.1 hy with rfl | hy'
      · exact h1
      · exact cP_cmp.lt_le h1 ((Sorted.cons.1 (Sorted.append.1 hs).2.1).1 y hy')
  refine ⟨?_, fun hm => ?_⟩
  · have := ssort_snoc cP_cmp (a := O.take at') (b := O.drop at') (x := x) (by rw [hO]; exact hs) (fun y hy => by have := cP_lt.2 (ha y hy); omega) hgt
    rw [hO] at this
    exact this
  · obtain ⟨y, hy, e⟩ := List.mem_map.1 hm
    rw [← hO] at hy
    rcases List.mem_append.1 hy with h | h
    · have := ha y h; rw [e, bl_irrefl] at this; cases this
    · have := hgt y h; rw [cP_zero.2 e.symm] at this; omega

theorem ssort_step (l : List Pr) (x : Pr) : ssort cP (l ++ [x]) = ssort cP (ssort cP l ++ [x]) :=
  (ssort_alk cP_cmp ((ssort_spec cP_cmp l).2.append (Alk.refl [x]))).symm

theorem rrecOk (z y : Bool) (ns : List Str) (ps : List V) (h1 : ns.length ≤ 1048576) (h2 : ps.length ≤ 1048576) (H : Hp) :
    ACall Tryd.prog 16 [.d (.sl z 1 (ns.map encS)), .d (.sl y 5 (ps.map V.enc))] H (fun r H' => r = .tup [(recV ns ps).1.a, .d (.int .i64 (recV ns ps).2)] ∧ H' = H) := by
  refine acall_fin Tryd.func16 cf16 (by simp [ir16]) fun hcl _ => ?_
  by_cases hl : ns.length = ps.length
  case neg =>
    have hl' : ¬ (ns.length : Int) = ps.length := by omega
    simp [ir16, hl, hl']
    simp [RetK, cut_app hcl, recV, hl, V.nil, V.a_mk]
  simp [ir16, hl]
  have hz : (ns.zip ps).length = ps.length := by simp [hl]
  have hfst : (ns.zip ps).map Prod.fst = ns := by rw [List.map_fst_zip]; omega
  generalize hL : ns.zip ps = L at hz hfst
  refine LoopK_outR 0 (fun fr H' => fr 4 = .ptr H.length 0 ∧ fr 6 = .ptr (H.length + 1) 0 ∧ (L.map Prod.fst).Nodup ∧ H' = H ++ [.box 25 (V.nil.enc.map .d),
      .box 25 [.d (.int .i64 3), .d (.int .i64 0), .d (.str []), .d (.sl true 1 ((ssort cP L).map (encS ∘ Prod.fst))), .d (.sl true 5 ((ssort cP L).map (V.enc ∘ Prod.snd)))]])
    (fun fr H' => ¬ (L.map Prod.fst).Nodup ∧ fr 4 = .ptr H.length 0 ∧ fr 5 = .d (.int .i64 40) ∧ ∃ X, H' = H ++ Ob.box 25 (V.nil.enc.map .d) :: X) ?_ ?_ ?_
  · refine ForK_of (H.length + 2) ps.length (fun i fr H' => fr 0 = .d (.sl z 1 (ns.map encS)) ∧ fr 1 = .d (.sl y 5 (ps.map V.enc)) ∧ fr 4 = .ptr H.length 0 ∧ fr 6 = .ptr (H.length + 1) 0 ∧ ((L.take i).map Prod.fst).Nodup ∧ H' = H ++ [.box 25 (V.nil.enc.map .d),
      .box 25 [.d (.int .i64 3), .d (.int .i64 0), .d (.str []), .d (.sl true 1 ((ssort cP (L.take i)).map (encS ∘ Prod.fst))), .d (.sl true 5 ((ssort cP (L.take i)).map (V.enc ∘ Prod.snd)))]]) (by omega) (by decide) (by simp) (by simp) ?_ ?_
    · simp [cut_appk hcl, V.enc_nil, ssort]
    rintro i fr H' hi f7 ⟨f0, f1, f4, f6, hnd, rfl⟩
    simp [f7, f0]
    refine BrK_split (fun h => ?_) (fun h => ?_)
    · have hlt : i < ps.length := by simp at h; omega
      have hlt' : i < ns.length := by omega
      have hltL : i < L.length := by omega
      have ra := rowAt_map encS hlt'
      have rb := rowAt_map V.enc hlt
      have hzi : L[i] = (ns[i], ps[i]) := by subst hL; simp
      have hstep := ssort_step (L.take i) L[i]
      rw [← List.take_succ_eq_append_getElem hltL] at hstep
      have hOl : (ssort cP (L.take i)).length = i := by rw [ssort_length cP_cmp]; simp; omega
      have hOs := (ssort_spec cP_cmp (L.take i)).1
      have hOp := (ssort_perm cP_cmp (L.take i)).map Prod.fst
      have hN1 : ns[i] ∉ (L.take i).map Prod.fst → ((L.take (i + 1)).map Prod.fst).Nodup := fun h => by
        rw [List.take_succ_eq_append_getElem hltL, List.map_append, hzi]
        exact List.nodup_append.2 ⟨hnd, by simp, fun a ha b hb => by simp at hb; subst hb; exact fun e => h (e ▸ ha)⟩
      have hN2 : ns[i] ∈ (L.take i).map Prod.fst → ¬ (L.map Prod.fst).Nodup := fun h hn => by
        have e : L.map Prod.fst = (L.take i).map Prod.fst ++ (ns[i] :: (L.drop (i + 1)).map Prod.fst) := by
          conv => lhs; rw [← List.take_append_drop i L, List.drop_eq_getElem_cons hltL]
          simp [hzi]
        rw [e] at hn
        exact (List.nodup_append.1 hn).2.2 _ h _ (by simp) rfl
      rw [hzi] at hstep
      generalize hO2 : ssort cP (L.take (i + 1)) = O2 at hstep
      generalize ssort cP (L.take i) = O at hOl hOs hOp hstep
      generalize ns[i] = nm at ra hN1 hN2 hstep
      generalize ps[i] = p at rb hstep
      have hmem : ∀ a, a ∈ O.map Prod.fst ↔ a ∈ (L.take i).map Prod.fst := fun a => hOp.symm.mem_iff
      cases p with | mk k' n' s' z' ns' y' ps' =>
      simp only [encS, V.enc_mk] at ra rb
      simp
      refine LoopK_outR 2 (fun fr H2 => fr 0 = .d (.sl z 1 (ns.map encS)) ∧ fr 1 = .d (.sl y 5 (ps.map V.enc)) ∧ fr 4 = .ptr H.length 0 ∧ fr 6 = .ptr (H.length + 1) 0 ∧ fr 7 = .d (.int .i64 (i : Int)) ∧ (∃ k : Nat, fr 8 = .d (.int .i64 (k : Int)) ∧ k ≤ i ∧ (∀ y ∈ O.take k, Op.bytesLess y.1 nm = true) ∧ (∀ y, O[k]? = some y → Op.bytesLess y.1 nm = false)) ∧ H2 = H ++ [.box 25 (V.nil.enc.map .d),
        .box 25 [.d (.int .i64 3), .d (.int .i64 0), .d (.str []), .d (.sl true 1 (O.map (encS ∘ Prod.fst))), .d (.sl true 5 (O.map (V.enc ∘ Prod.snd)))]]) (fun _ _ => False) ?_ (fun _ _ h => h.elim) ?_
      · refine LoopK_of (H.length + 2) (fun fr H2 => fr 0 = .d (.sl z 1 (ns.map encS)) ∧ fr 1 = .d (.sl y 5 (ps.map V.enc)) ∧ fr 4 = .ptr H.length 0 ∧ fr 6 = .ptr (H.length + 1) 0 ∧ fr 7 = .d (.int .i64 (i : Int)) ∧ (∃ k : Nat, fr 8 = .d (.int .i64 (k : Int)) ∧ k ≤ i ∧ (∀ y ∈ O.take k, Op.bytesLess y.1 nm = true)) ∧ H2 = H ++ [.box 25 (V.nil.enc.map .d),
          .box 25 [.d (.int .i64 3), .d (.int .i64 0), .d (.str []), .d (.sl true 1 (O.map (encS ∘ Prod.fst))), .d (.sl true 5 (O.map (V.enc ∘ Prod.snd)))]]) (fun fr _ => match fr 8 with | .d (.int _ k) => (i - k).toNat | _ => 0) (by simp) ?_ ?_
        · simp [f0, f1, f4, f6, f7, cut_appk hcl, V.enc_nil]
          exact ⟨0, rfl, by simp⟩
        rintro fr H2 ⟨f0, f1, f4, f6, f7, ⟨k, f8, hk, hlow⟩, rfl⟩
        simp [f8, f6, hOl]
        refine GdK_split (by simp) (fun h => ?_) (fun h => ?_)
        · have hki : k < i := by simpa using h
          have hOk : O[k]? = some O[k] := List.getElem?_eq_getElem (by omega)
          have hr : Zam.rowAt (O.map (encS ∘ Prod.fst)) (k : Int) = some [.str O[k].1] := by simp [Zam.rowAt, hOk, encS]
          have htk : O.take (k + 1) = O.take k ++ [O[k]] := List.take_succ_eq_append_getElem (by omega)
          generalize O[k] = q at hOk hr htk
          simp [f6, f8, hr, f0, f7, ra]
          refine BrK_split (fun h2 => ?_) (fun h2 => ?_)
          · have hw : IntKind.i64.wrap ((k : Int) + 1) = ((k + 1 : Nat) : Int) := by rw [wrap_i64 (by omega) (by omega)]; omega
            simp [f8, hw]
            refine AgainK_of (m := H.length + 2) (by simp) ?_ ?_
            · simp [f0, f1, f4, f6, f7, cut_appk hcl, V.enc_nil]
              refine ⟨k + 1, by omega, by omega, ?_⟩
              rw [htk]
              intro a b hab
              rcases List.mem_append.1 hab with h | h
              · exact hlow (a, b) h
              · simp at h; rw [← h] at h2; exact h2
            · simp; omega
          · simp [f0, f1, f4, f6, f7, f8]
            refine ⟨k, rfl, hk, fun a b hab => hlow (a, b) hab, fun a b hab => ?_⟩
            rw [hOk] at hab; cases hab; exact h2
        · have hki : k = i := by have : ¬ k < i := by simpa using h
                                 omega
          simp [f0, f1, f4, f6, f7, f8]
          refine ⟨k, rfl, hk, fun a b hab => hlow (a, b) hab, fun a b hab => ?_⟩
          have := (List.getElem?_eq_some_iff.1 hab).1
          omega
      rintro fr H2 ⟨f0, f1, f4, f6, f7, ⟨k, f8, hk, hlow, hhi⟩, rfl⟩
      have hkO : k ≤ O.length := by omega
      simp only [blk_exit, if_true, then_normal]
      refine Seq_out (fun fr H2 => fr 0 = .d (.sl z 1 (ns.map encS)) ∧ fr 1 = .d (.sl y 5 (ps.map V.enc)) ∧ fr 4 = .ptr H.length 0 ∧ fr 6 = .ptr (H.length + 1) 0 ∧ fr 7 = .d (.int .i64 (i : Int)) ∧ fr 8 = .d (.int .i64 (k : Int)) ∧ (∀ y, O[k]? = some y → y.1 ≠ nm) ∧ H2 = H ++ [.box 25 (V.nil.enc.map .d),
        .box 25 [.d (.int .i64 3), .d (.int .i64 0), .d (.str []), .d (.sl true 1 (O.map (encS ∘ Prod.fst))), .d (.sl true 5 (O.map (V.enc ∘ Prod.snd)))]])
        (fun fr H' => ¬ (L.map Prod.fst).Nodup ∧ fr 4 = .ptr H.length 0 ∧ fr 5 = .d (.int .i64 40) ∧ ∃ X, H' = H ++ Ob.box 25 (V.nil.enc.map .d) :: X) ?_ (fun _ _ h => h) ?_
      · simp [f8, f6, hOl]
        refine GdK_split (by simp) (fun h => ?_) (fun h => ?_)
        · have hki : k < i := by simpa using h
          have hOk : O[k]? = some O[k] := List.getElem?_eq_getElem (by omega)
          have hr : Zam.rowAt (O.map (encS ∘ Prod.fst)) (k : Int) = some [.str O[k].1] := by simp [Zam.rowAt, hOk, encS]
          generalize O[k] = q at hOk hr
          simp [f6, f8, hr, f0, f7, ra]
          refine BrK_split (fun h2 => ?_) (fun h2 => ?_)
          · have e2 : q.1 = nm := by simpa using h2
            have hno := hN2 ((hmem nm).1 (e2 ▸ List.mem_map_of_mem (f := Prod.fst) (List.mem_of_getElem? hOk)))
            simp [f4, V.enc_nil]
            exact hno
          · have e2 : q.1 ≠ nm := by simpa using h2
            simp [f0, f1, f4, f6, f7, f8, hOk]
            exact e2
        · have hki : k = i := by have : ¬ k < i := by simpa using h
                                 omega
          simp [f0, f1, f4, f6, f7, f8]
          intro a b e
          have := (List.getElem?_eq_some_iff.1 e).1
          omega
      rintro fr H2 ⟨f0, f1, f4, f6, f7, f8, hne, rfl⟩
      obtain ⟨g1, g2⟩ := insert_at hOs (x := (nm, V.mk k' n' s' z' ns' y' ps')) hkO hlow hhi hne
      have hnd2 := hN1 (fun h => g2 ((hmem nm).2 h))
      rw [g1] at hstep
      have hm : min k O.length = k := by omega
      have q1 : ∀ {α : Type} (l : List α), l.length = i → subL l 0 (k : Int) = some (l.take k) := fun l hl => by rw [subL_ok (by omega)]; simp
      have q2 : ∀ {α : Type} (l : List α), l.length = i → subL l (k : Int) (i : Int) = some (l.drop k) := fun l hl => by rw [subL_ok (by omega)]; simp only [Int.toNat_natCast]; rw [List.take_of_length_le (by simp; omega)]
      have a1 := q1 (O.map (encS ∘ Prod.fst)) (by simp [hOl])
      have a2 := q2 (O.map (encS ∘ Prod.fst)) (by simp [hOl])
      have a3 := q1 (O.map (V.enc ∘ Prod.snd)) (by simp [hOl])
      have a4 := q2 (O.map (V.enc ∘ Prod.snd)) (by simp [hOl])
      have hm : min k i = k := by omega
      have c1 : k * 16 ≤ 140737488355328 := by omega
      have c2 : (k + 1) * 16 ≤ 140737488355328 := by omega
      have c3 : (k + 1 + (i - k)) * 16 ≤ 140737488355328 := by omega
      have d1 : k * 80 ≤ 140737488355328 := by omega
      have d2 : (k + 1) * 80 ≤ 140737488355328 := by omega
      have d3 : (k + 1 + (i - k)) * 80 ≤ 140737488355328 := by omega
      simp [f0, f1, f4, f6, f7, f8, hOl, a1, a2, a3, a4, ra, rb, appA, hm, c1, c2, c3, d1, d2, d3]
      refine NextF_of (H.length + 2) (Nat.le_refl _) hlt (by simp [f7]) ?_
      simp [f0, f1, f4, f6, cut_appk hcl, V.enc_nil]
      rw [hO2, hstep]
      exact ⟨by simpa using hnd2, by simp [encS], by simp [V.enc_mk]⟩
    · have hii : i = ps.length := by simp at h; omega
      have e1 : L.take ps.length = L := List.take_of_length_le (by omega)
      rw [hii, e1] at hnd
      simp [f4, f6, hnd, hii, e1]
  · rintro fr H' ⟨hnd, f4, f5, X, rfl⟩
    have hD := (dup_iff L).2 hnd
    simp [V.enc_nil]
    simp [RetK, cut_app hcl, recV, hl, hL, hD, V.a_mk, f4, f5]
    simp [V.nil, V.a_mk]
  · rintro fr H' ⟨f4, f6, hnd, rfl⟩
    have hD : ¬ Dup (ssort cP L) := fun h => (dup_iff L).1 h hnd
    simp [f4, f6, V.enc_nil]
    simp [RetK, cut_app hcl, recV, hl, hL, hD, V.a_mk, f4]

end Go.Proofs.Zv

namespace Go.Proofs.Zv
open Go Go.Zam Go.Proofs Go.Shelf
set_option maxRecDepth 100000
def bldRen : Ren := ⟨fun n => match n with | 240 => 65 | 276 => 75 | 169 => 54 | n => n, fun t => match t with | 0 => 0 | 3 => 3 | 4 => 4 | 5 => 5 | 9 => 9 | 20 => 20 | 37 => 81 | 70 => 80 | 72 => 83 | 127 => 100 | 164 => 111 | n => n, fun g => g⟩

theorem lay240 : Lays.n240 Tryd.prog bldRen where
  mixed := by kernel_rfl
  f240 := Tryd.func65.trans (congrArg some (by kernel_rfl))
  f276 := Tryd.func75.trans (congrArg some (by kernel_rfl))
  t0 := by kernel_rfl
  a0 := Tryd.isAgg0
  z0 := fun _ => by kernel_rfl
  v0 := Tryd.zeroValue0
  t4 := by kernel_rfl
  a4 := Tryd.isAgg4
  z4 := fun _ => by kernel_rfl
  v4 := Tryd.zeroValue4
  t9 := by kernel_rfl
  a9 := Tryd.isAgg9
  z9 := fun _ => by kernel_rfl
  v9 := Tryd.zeroValue9
  t20 := by kernel_rfl
  a20 := Tryd.isAgg20
  z20 := fun _ => by kernel_rfl
  v20 := Tryd.zeroValue20
  t70 := by kernel_rfl
  a70 := Tryd.isAgg80
  z70 := fun _ => by kernel_rfl
  v70 := Tryd.zeroValue80
  t72 := by kernel_rfl
  a72 := Tryd.isAgg83
  z72 := fun _ => by kernel_rfl
  v72 := Tryd.zeroValue83
  t164 := by kernel_rfl
  a164 := Tryd.isAgg111
  z164 := fun _ => by kernel_rfl
  v164 := Tryd.zeroValue111
theorem lay169 : Lays.n169 Tryd.prog bldRen where
  mixed := by kernel_rfl
  f169 := Tryd.func54.trans (congrArg some (by kernel_rfl))
  t0 := by kernel_rfl
  a0 := Tryd.isAgg0
  z0 := fun _ => by kernel_rfl
  v0 := Tryd.zeroValue0
  t3 := by kernel_rfl
  a3 := Tryd.isAgg3
  z3 := fun _ => by kernel_rfl
  v3 := Tryd.zeroValue3
  t9 := by kernel_rfl
  a9 := Tryd.isAgg9
  z9 := fun _ => by kernel_rfl
  v9 := Tryd.zeroValue9
  t37 := by kernel_rfl
  a37 := Tryd.isAgg81
  z37 := fun _ => by kernel_rfl
  v37 := Tryd.zeroValue81
  t70 := by kernel_rfl
  a70 := Tryd.isAgg80
  z70 := fun _ => by kernel_rfl
  v70 := Tryd.zeroValue80
  t72 := by kernel_rfl
  a72 := Tryd.isAgg83
  z72 := fun _ => by kernel_rfl
  v72 := Tryd.zeroValue83
  t127 := by kernel_rfl
  a127 := Tryd.isAgg100
  z127 := fun _ => by kernel_rfl
  v127 := Tryd.zeroValue100
theorem bldExtra : Builder.Extra Tryd.prog bldRen where
  sizeBuilder := by kernel_rfl
  liesBuilder := by kernel_rfl
  t5 := by kernel_rfl
  a5 := Tryd.isAgg5
  z5 := fun _ => by kernel_rfl
  v5 := Tryd.zeroValue5
  infoByte := by kernel_rfl
  cellsByte := by kernel_rfl
  sizeByte := by kernel_rfl
  neB5 := by decide

theorem copyCheckOk {H : Hp} {i : Nat} {x a : A} (hi : H[i]? = some (.box 83 [a, x])) (ha : a = .d .nilp ∨ a = .ptr i 0) :
    ACall Tryd.prog 65 [.ptr i 0] H (fun r H' => r = .tup [] ∧ H' = H.set i (.box 83 [.ptr i 0, x])) := copyCheck_acall lay240 bldExtra.toX72 hi ha

theorem stringOk {H : Hp} {i t : Nat} {a : A} {s : List UInt8} (hi : H[i]? = some (.box 83 [a, .osl true 1 (byteRows s) t])) (ht : H[t]? = some (.tok s.length 1 5)) (hlen : s.length ≤ 4611686018427387904) :
    ACall Tryd.prog 54 [.ptr i 0] H (fun r H' => r = .d (.str s) ∧ H' = H) := string_acall lay169 bldExtra hi ht hlen
end Go.Proofs.Zv

namespace Go.Proofs
open Go.Shelf
set_option maxRecDepth 100000
def Tryd.lays156_ren : Go.Shelf.Ren := ⟨fun | 156 => 36 | 165 => 55 | 166 => 56 | 169 => 54 | 240 => 65 | 241 => 67 | 276 => 75 | 277 => 77 | n => n, fun | 31 => 22 | 9 => 9 | 3 => 3 | 4 => 4 | 0 => 0 | 20 => 20 | 72 => 83 | 76 => 89 | 70 => 80 | 37 => 81 | 75 => 85 | 127 => 100 | 164 => 111 | 5 => 5 | 80 => 32 | n => n, fun | n => n⟩
theorem Tryd.lays156 : Go.Proofs.Lays.n156 Tryd.prog Tryd.lays156_ren := {
  mixed := by kernel_rfl
  f156 := Tryd.func36.trans (congrArg some (by kernel_rfl))
  f165 := Tryd.func55.trans (congrArg some (by kernel_rfl))
  f166 := Tryd.func56.trans (congrArg some (by kernel_rfl))
  f169 := Tryd.func54.trans (congrArg some (by kernel_rfl))
  f240 := Tryd.func65.trans (congrArg some (by kernel_rfl))
  f241 := Tryd.func67.trans (congrArg some (by kernel_rfl))
  f276 := Tryd.func75.trans (congrArg some (by kernel_rfl))
  f277 := Tryd.func77.trans (congrArg some (by kernel_rfl))
  t0 := Tryd.underlying0
  a0 := Tryd.isAgg0
  z0 := Tryd.sizeOf0
  v0 := Tryd.zeroValue0
  t3 := Tryd.underlying3
  a3 := Tryd.isAgg3
  z3 := Tryd.sizeOf3
  v3 := Tryd.zeroValue3
  t4 := Tryd.underlying4
  a4 := Tryd.isAgg4
  z4 := Tryd.sizeOf4
  v4 := Tryd.zeroValue4
  t9 := Tryd.underlying9
  a9 := Tryd.isAgg9
  z9 := Tryd.sizeOf9
  v9 := Tryd.zeroValue9
  t20 := Tryd.underlying20
  a20 := Tryd.isAgg20
  z20 := Tryd.sizeOf20
  v20 := Tryd.zeroValue20
  t31 := Tryd.underlying22
  a31 := Tryd.isAgg22
  z31 := Tryd.sizeOf22
  v31 := Tryd.zeroValue22
  t37 := Tryd.underlying81
  a37 := Tryd.isAgg81
  z37 := Tryd.sizeOf81
  v37 := Tryd.zeroValue81
  t70 := Tryd.underlying80
  a70 := Tryd.isAgg80
  z70 := Tryd.sizeOf80
  v70 := Tryd.zeroValue80
  t72 := Tryd.underlying83
  a72 := Tryd.isAgg83
  z72 := Tryd.sizeOf83
  v72 := Tryd.zeroValue83
  t75 := Tryd.underlying85
  a75 := Tryd.isAgg85
  z75 := Tryd.sizeOf85
  v75 := Tryd.zeroValue85
  t76 := Tryd.underlying89
  a76 := Tryd.isAgg89
  z76 := Tryd.sizeOf89
  v76 := Tryd.zeroValue89
  t127 := Tryd.underlying100
  a127 := Tryd.isAgg100
  z127 := Tryd.sizeOf100
  v127 := Tryd.zeroValue100
  t164 := Tryd.underlying111
  a164 := Tryd.isAgg111
  z164 := Tryd.sizeOf111
  v164 := Tryd.zeroValue111 }
theorem Tryd.Builder_Extra_156 : Builder.Extra Tryd.prog Tryd.lays156_ren := {
  sizeBuilder := by kernel_rfl
  liesBuilder := by kernel_rfl
  t5 := Tryd.underlying5
  a5 := Tryd.isAgg5
  z5 := Tryd.sizeOf5
  v5 := Tryd.zeroValue5
  infoByte := by kernel_rfl
  cellsByte := by kernel_rfl
  sizeByte := by kernel_rfl
  neB5 := by decide }
open Go.RowKit in
theorem Tryd.strings_Join_none (a : Option Addr) (c : Nat) (sep : ByteArray) (w : World) :
    Calls Tryd.prog 36 #[.slice a 0 c, .string sep] w fun e w' => e = .returned (.string ⟨#[]⟩) ∧ w' = w := Any.strings_Join_none Tryd.lays156 Tryd.Builder_Extra_156 a c sep w
open Go.RowKit in
theorem Tryd.strings_Join (bk o c : Nat) (xs : List ByteArray) (sep : ByteArray) (w : World) (hcells : ∀ (j : Nat) x, xs[j]? = some x → w.cell? ⟨bk, o + j, none⟩ = some (.string x)) (hbk : bk < w.heap.size) (hN : xs.length ≤ 140737488355328) (hcap : xs.length ≤ c) (hlen : (Lib.join (xs.map (·.data.toList)) sep.data.toList).length ≤ 140737488355328) :
    Calls Tryd.prog 36 #[.slice (some ⟨bk, o, none⟩) xs.length c, .string sep] w fun e w' => e = .returned (.string ⟨(Lib.join (xs.map (·.data.toList)) sep.data.toList).toArray⟩) ∧ Below w.heap.size w w' := Any.strings_Join Tryd.lays156 Tryd.Builder_Extra_156 bk o c xs sep w hcells hbk hN hcap hlen
def Tryd.lays137_ren : Go.Shelf.Ren := ⟨fun | 137 => 53 | 217 => 66 | 266 => 76 | n => n, fun | 9 => 9 | 5 => 5 | 3 => 3 | n => n, fun | n => n⟩
theorem Tryd.lays137 : Go.Proofs.Lays.n137 Tryd.prog Tryd.lays137_ren := {
  mixed := by kernel_rfl
  f137 := Tryd.func53.trans (congrArg some (by kernel_rfl))
  f217 := Tryd.func66.trans (congrArg some (by kernel_rfl))
  f266 := Tryd.func76.trans (congrArg some (by kernel_rfl))
  t3 := Tryd.underlying3
  a3 := Tryd.isAgg3
  z3 := Tryd.sizeOf3
  v3 := Tryd.zeroValue3
  t5 := Tryd.underlying5
  a5 := Tryd.isAgg5
  z5 := Tryd.sizeOf5
  v5 := Tryd.zeroValue5
  t9 := Tryd.underlying9
  a9 := Tryd.isAgg9
  z9 := Tryd.sizeOf9
  v9 := Tryd.zeroValue9 }
open Go.RowKit in
theorem Tryd.strings_IndexByte (s : ByteArray) (c : Int) (w : World) :
    Calls Tryd.prog 53 #[.string s, .int .u8 c] w fun e w' => e = .returned (.int .i64 (Lib.indexByte s.data.toList c.toNat.toUInt8)) ∧ w' = w := Any.strings_IndexByte Tryd.lays137 s c w
def Tryd.laysM173_ren : Go.Shelf.Ren := ⟨fun | 173 => 34 | 246 => 51 | 283 => 61 | 284 => 62 | 285 => 63 | 286 => 64 | 129 => 71 | 317 => 70 | 318 => 72 | 319 => 73 | 320 => 74 | 337 => 79 | 338 => 80 | n => n, fun | 2 => 2 | 3 => 3 | 9 => 9 | 4 => 4 | 171 => 94 | 0 => 0 | 53 => 95 | 37 => 81 | 5 => 5 | 173 => 98 | 212 => 105 | 51 => 106 | 20 => 20 | 213 => 107 | 46 => 109 | 232 => 115 | 233 => 116 | n => n, fun | 17 => 0 | 18 => 2 | 19 => 3 | n => n⟩
theorem Tryd.laysM173 : Go.Proofs.LaysM.n173 Tryd.prog Tryd.laysM173_ren := {
  mixed := by kernel_rfl
  f129 := Tryd.func71.trans (congrArg some (by kernel_rfl))
  f173 := Tryd.func34.trans (congrArg some (by kernel_rfl))
  f246 := Tryd.func51.trans (congrArg some (by kernel_rfl))
  f283 := Tryd.func61.trans (congrArg some (by kernel_rfl))
  f284 := Tryd.func62.trans (congrArg some (by kernel_rfl))
  f285 := Tryd.func63.trans (congrArg some (by kernel_rfl))
  f286 := Tryd.func64.trans (congrArg some (by kernel_rfl))
  f317 := Tryd.func70.trans (congrArg some (by kernel_rfl))
  f318 := Tryd.func72.trans (congrArg some (by kernel_rfl))
  f319 := Tryd.func73.trans (congrArg some (by kernel_rfl))
  f320 := Tryd.func74.trans (congrArg some (by kernel_rfl))
  f337 := Tryd.func79.trans (congrArg some (by kernel_rfl))
  f338 := Tryd.func80.trans (congrArg some (by kernel_rfl))
  t0 := Tryd.underlying0
  a0 := Tryd.isAgg0
  z0 := Tryd.sizeOf0
  v0 := Tryd.zeroValue0
  t2 := Tryd.underlying2
  a2 := Tryd.isAgg2
  z2 := Tryd.sizeOf2
  v2 := Tryd.zeroValue2
  t3 := Tryd.underlying3
  a3 := Tryd.isAgg3
  z3 := Tryd.sizeOf3
  v3 := Tryd.zeroValue3
  t4 := Tryd.underlying4
  a4 := Tryd.isAgg4
  z4 := Tryd.sizeOf4
  v4 := Tryd.zeroValue4
  t5 := Tryd.underlying5
  a5 := Tryd.isAgg5
  z5 := Tryd.sizeOf5
  v5 := Tryd.zeroValue5
  t9 := Tryd.underlying9
  a9 := Tryd.isAgg9
  z9 := Tryd.sizeOf9
  v9 := Tryd.zeroValue9
  t20 := Tryd.underlying20
  a20 := Tryd.isAgg20
  z20 := Tryd.sizeOf20
  v20 := Tryd.zeroValue20
  t37 := Tryd.underlying81
  a37 := Tryd.isAgg81
  z37 := Tryd.sizeOf81
  v37 := Tryd.zeroValue81
  t46 := Tryd.underlying109
  a46 := Tryd.isAgg109
  z46 := Tryd.sizeOf109
  v46 := Tryd.zeroValue109
  t51 := Tryd.underlying106
  a51 := Tryd.isAgg106
  z51 := Tryd.sizeOf106
  v51 := Tryd.zeroValue106
  t53 := Tryd.underlying95
  a53 := Tryd.isAgg95
  z53 := Tryd.sizeOf95
  v53 := Tryd.zeroValue95
  t171 := Tryd.underlying94
  a171 := Tryd.isAgg94
  z171 := Tryd.sizeOf94
  v171 := Tryd.zeroValue94
  t173 := Tryd.underlying98
  a173 := Tryd.isAgg98
  z173 := Tryd.sizeOf98
  v173 := Tryd.zeroValue98
  t212 := Tryd.underlying105
  a212 := Tryd.isAgg105
  z212 := Tryd.sizeOf105
  v212 := Tryd.zeroValue105
  t213 := Tryd.underlying107
  a213 := Tryd.isAgg107
  z213 := Tryd.sizeOf107
  t232 := Tryd.underlying115
  a232 := Tryd.isAgg115
  z232 := Tryd.sizeOf115
  v232 := Tryd.zeroValue115
  t233 := Tryd.underlying116
  a233 := Tryd.isAgg116
  z233 := Tryd.sizeOf116
  v233 := Tryd.zeroValue116
  g17 := by kernel_rfl
  g18 := by kernel_rfl
  g19 := by kernel_rfl
  i0 := by kernel_rfl
  i2 := by kernel_rfl
  i3 := by kernel_rfl
  i4 := by kernel_rfl
  i5 := by kernel_rfl
  i9 := by kernel_rfl
  i20 := by kernel_rfl
  i37 := by kernel_rfl
  i46 := by kernel_rfl
  i51 := by kernel_rfl
  i53 := by kernel_rfl
  i171 := by kernel_rfl
  i173 := by kernel_rfl
  i212 := by kernel_rfl
  i232 := by kernel_rfl
  i233 := by kernel_rfl
  m17 := by kernel_rfl
  m18 := by kernel_rfl
  m19 := by kernel_rfl }
open Go.RowKit Go.Sort Go.Lib in
theorem Tryd.strconv_FormatInt_10 (n : Int) (h0 : -9223372036854775808 ≤ n) (h1 : n ≤ 9223372036854775807) (w : World) (htab : Lib.TabIs Tryd.prog w "internal/strconv.uint64pow10" .u64 Lib.pow10Tab) :
    Calls Tryd.prog 34 #[.int .i64 n, .int .i64 10] w fun e w' => e = .returned (.string ⟨(Lib.itoa n).toArray⟩) ∧ ∃ k os, w' = grow (w.drewN k) os := Any.strconv_FormatInt_10 Tryd.laysM173 n h0 h1 w htab
def Tryd.lays173_ren : Go.Shelf.Ren := ⟨fun | 173 => 34 | 246 => 51 | 283 => 61 | 284 => 62 | 285 => 63 | 286 => 64 | 129 => 71 | 317 => 70 | 318 => 72 | 319 => 73 | 320 => 74 | 337 => 79 | 338 => 80 | n => n, fun | 2 => 2 | 3 => 3 | 9 => 9 | 4 => 4 | 171 => 94 | 0 => 0 | 53 => 95 | 37 => 81 | 5 => 5 | 173 => 98 | 212 => 105 | 51 => 106 | 20 => 20 | 213 => 107 | 46 => 109 | 232 => 115 | 233 => 116 | n => n, fun | 17 => 0 | 18 => 2 | 19 => 3 | n => n⟩
theorem Tryd.lays173 : Go.Proofs.Lays.n173 Tryd.prog Tryd.lays173_ren := {
  mixed := by kernel_rfl
  f129 := Tryd.func71.trans (congrArg some (by kernel_rfl))
  f173 := Tryd.func34.trans (congrArg some (by kernel_rfl))
  f246 := Tryd.func51.trans (congrArg some (by kernel_rfl))
  f283 := Tryd.func61.trans (congrArg some (by kernel_rfl))
  f284 := Tryd.func62.trans (congrArg some (by kernel_rfl))
  f285 := Tryd.func63.trans (congrArg some (by kernel_rfl))
  f286 := Tryd.func64.trans (congrArg some (by kernel_rfl))
  f317 := Tryd.func70.trans (congrArg some (by kernel_rfl))
  f318 := Tryd.func72.trans (congrArg some (by kernel_rfl))
  f319 := Tryd.func73.trans (congrArg some (by kernel_rfl))
  f320 := Tryd.func74.trans (congrArg some (by kernel_rfl))
  f337 := Tryd.func79.trans (congrArg some (by kernel_rfl))
  f338 := Tryd.func80.trans (congrArg some (by kernel_rfl))
  t0 := Tryd.underlying0
  a0 := Tryd.isAgg0
  z0 := Tryd.sizeOf0
  v0 := Tryd.zeroValue0
  t2 := Tryd.underlying2
  a2 := Tryd.isAgg2
  z2 := Tryd.sizeOf2
  v2 := Tryd.zeroValue2
  t3 := Tryd.underlying3
  a3 := Tryd.isAgg3
  z3 := Tryd.sizeOf3
  v3 := Tryd.zeroValue3
  t4 := Tryd.underlying4
  a4 := Tryd.isAgg4
  z4 := Tryd.sizeOf4
  v4 := Tryd.zeroValue4
  t5 := Tryd.underlying5
  a5 := Tryd.isAgg5
  z5 := Tryd.sizeOf5
  v5 := Tryd.zeroValue5
  t9 := Tryd.underlying9
  a9 := Tryd.isAgg9
  z9 := Tryd.sizeOf9
  v9 := Tryd.zeroValue9
  t20 := Tryd.underlying20
  a20 := Tryd.isAgg20
  z20 := Tryd.sizeOf20
  v20 := Tryd.zeroValue20
  t37 := Tryd.underlying81
  a37 := Tryd.isAgg81
  z37 := Tryd.sizeOf81
  v37 := Tryd.zeroValue81
  t46 := Tryd.underlying109
  a46 := Tryd.isAgg109
  z46 := Tryd.sizeOf109
  v46 := Tryd.zeroValue109
  t51 := Tryd.underlying106
  a51 := Tryd.isAgg106
  z51 := Tryd.sizeOf106
  v51 := Tryd.zeroValue106
  t53 := Tryd.underlying95
  a53 := Tryd.isAgg95
  z53 := Tryd.sizeOf95
  v53 := Tryd.zeroValue95
  t171 := Tryd.underlying94
  a171 := Tryd.isAgg94
  z171 := Tryd.sizeOf94
  v171 := Tryd.zeroValue94
  t173 := Tryd.underlying98
  a173 := Tryd.isAgg98
  z173 := Tryd.sizeOf98
  v173 := Tryd.zeroValue98
  t212 := Tryd.underlying105
  a212 := Tryd.isAgg105
  z212 := Tryd.sizeOf105
  v212 := Tryd.zeroValue105
  t213 := Tryd.underlying107
  a213 := Tryd.isAgg107
  z213 := Tryd.sizeOf107
  t232 := Tryd.underlying115
  a232 := Tryd.isAgg115
  z232 := Tryd.sizeOf115
  v232 := Tryd.zeroValue115
  t233 := Tryd.underlying116
  a233 := Tryd.isAgg116
  z233 := Tryd.sizeOf116
  v233 := Tryd.zeroValue116
  g17 := by kernel_rfl
  g18 := by kernel_rfl
  g19 := by kernel_rfl }
open Go.RowKit Go.Sort Go.Lib in
theorem Tryd.strconv_FormatInt_10_small (i : Nat) (hi : i < 100) (w : World) :
    Calls Tryd.prog 34 #[.int .i64 i, .int .i64 10] w fun e w' => e = .returned (.string ⟨(Lib.decDigits i).toArray⟩) ∧ w' = w := Any.strconv_FormatInt_10_small Tryd.lays173 i hi w
end Go.Proofs

namespace Go.Proofs.Zv
open Go Go.Zam Go.Proofs
open Go.RowKit (Below)
set_option maxRecDepth 100000
set_option linter.all false
set_option maxHeartbeats 1000000

theorem copyOk : CopyOk Tryd.prog 65 83 := fun H i x a hi ha => copyCheckOk hi ha

def esc (b : UInt8) : Str := if b = 10 then [92, 110] else if b = 9 then [92, 116] else if b = 34 then [92, 34] else if b = 92 then [92, 92] else [b]
def quoteV (s : Str) : Str := 34 :: (s.flatMap esc ++ [34])

theorem esc_len (b : UInt8) : 1 ≤ (esc b).length ∧ (esc b).length ≤ 2 := by
  unfold esc; (repeat' split) <;> simp
theorem flatMap_len (s : Str) : (s.flatMap esc).length ≤ 2 * s.length := by
  induction s with
  | nil => simp
  | cons b r ih => have := esc_len b; simp only [List.flatMap_cons, List.length_append, List.length_cons]; omega

theorem indexByteOk (s : Str) (c : UInt8) (H : Hp) : ACall Tryd.prog 53 [.d (.str s), .d (.int .u8 c.toNat)] H (fun r H' => r = .d (.int .i64 (Lib.indexByte s c)) ∧ H' = H) := by
  refine leaf (args := [.str s, .int .u8 c.toNat]) (x := .int .i64 (Lib.indexByte s c)) (fun w σ vs _ hl hv => ?_) H
  match vs, hl with
  | [v0, v1], _ =>
  have e0 := (hv 0 v0 _ rfl rfl).str_inv
  have e1 := (hv 1 v1 _ rfl rfl).int_inv
  subst e0; subst e1
  refine (Tryd.strings_IndexByte ⟨s.toArray⟩ c.toNat w).mono ?_
  rintro e w' ⟨rfl, rfl⟩
  refine ⟨_, rfl, Below.refl _ _, fun σ => ?_⟩
  have : (Int.toNat (c.toNat : Int)).toUInt8 = c := by simp
  rw [this]
  exact .int _ _

theorem index_esc (b : UInt8) : (0 ≤ Lib.indexByte [10, 9, 34, 92] b → ∃ x : UInt8, byteAt [110, 116, 34, 92] (Lib.indexByte [10, 9, 34, 92] b) = some x ∧ esc b = [92, x]) ∧ (Lib.indexByte [10, 9, 34, 92] b < 0 → esc b = [b]) := by
  by_cases h1 : b = 10
  · subst h1; exact ⟨fun _ => ⟨110, by decide, by decide⟩, fun h => absurd h (by decide)⟩
  by_cases h2 : b = 9
  · subst h2; exact ⟨fun _ => ⟨116, by decide, by decide⟩, fun h => absurd h (by decide)⟩
  by_cases h3 : b = 34
  · subst h3; exact ⟨fun _ => ⟨34, by decide, by decide⟩, fun h => absurd h (by decide)⟩
  by_cases h4 : b = 92
  · subst h4; exact ⟨fun _ => ⟨92, by decide, by decide⟩, fun h => absurd h (by decide)⟩
  have e : Lib.indexByte [10, 9, 34, 92] b = -1 := by
    have g : ∀ x : UInt8, b ≠ x → (x == b) = false := fun x h => by simpa using Ne.symm h
    simp [Lib.indexByte, g _ h1, g _ h2, g _ h3, g _ h4]
  rw [e]
  exact ⟨fun h => absurd h (by decide), fun _ => by simp [esc, h1, h2, h3, h4]⟩

theorem quoteOk (s : Str) (hs : s.length ≤ 1048576) (H : Hp) : ACall Tryd.prog 35 [.d (.str s)] H (fun r H' => r = .d (.str (quoteV s)) ∧ H' = H) := by
  have wb : ∀ (H : Hp) (i t : Nat) (a : A) (bs : List UInt8) (c : UInt8), H[i]? = some (.box 83 [a, .osl true 1 (byteRows bs) t]) → (a = .d .nilp ∨ a = .ptr i 0) → H[t]? = some (.tok bs.length 1 5) → bs.length + 1 ≤ 140737488355328 →
      ACall Tryd.prog 52 [.ptr i 0, .d (.int .u8 c.toNat)] H (fun r H' => r = .d .nili ∧ H' = (H.set i (.box 83 [.ptr i 0, .osl true 1 (byteRows (bs ++ [c])) t])).set t (.tok (bs ++ [c]).length 1 5)) :=
    fun H i t a bs c => writeByte_acall Tryd.func52 cf52 copyOk H i t a bs c
  refine acall_fin Tryd.func35 cf35 (by simp [ir35]) fun hcl _ => ?_
  simp [ir35]
  have w1 := wb (H ++ [.tok 0 1 5, .box 83 [.d .nilp, .osl true 1 [] H.length]]) (H.length + 1) H.length (.d .nilp) [] 34 (by simp [byteRows]) (.inl rfl) (by simp) (by simp)
  simp at w1
  refine CallK_of' w1 ?_
  simp
  refine LoopK_outR 0 (fun fr H' => fr 3 = .ptr (H.length + 1) 0 ∧ H' = H ++ [.tok (34 :: s.flatMap esc).length 1 5, .box 83 [.ptr (H.length + 1) 0, .osl true 1 (byteRows (34 :: s.flatMap esc)) H.length]]) (fun _ _ => False) ?_ (fun _ _ h => h.elim) ?_
  · refine RangeK_of (H.length + 2) s.length (fun i fr H' => fr 0 = .d (.str s) ∧ fr 3 = .ptr (H.length + 1) 0 ∧ H' = H ++ [.tok (34 :: (s.take i).flatMap esc).length 1 5, .box 83 [.ptr (H.length + 1) 0, .osl true 1 (byteRows (34 :: (s.take i).flatMap esc)) H.length]]) (by omega) (by decide) (by simp) (by simp) ?_ ?_ ?_
    · simp [cut_appk hcl]
    · rintro i fr H' hi f9 f8 ⟨f0, f3, rfl⟩
      have hb : byteAt s (i : Int) = some s[i] := by simp [byteAt, hi]
      have ht : s.take (i + 1) = s.take i ++ [s[i]] := List.take_succ_eq_append_getElem hi
      have hlen : ((s.take i).flatMap esc).length ≤ 2097152 := by
        have := flatMap_len (s.take i)
        simp only [List.length_take] at this; omega
      generalize s[i] = b at hb ht
      have hes : (s.take (i + 1)).flatMap esc = (s.take i).flatMap esc ++ esc b := by rw [ht]; simp
      generalize (s.take i).flatMap esc = X at hlen hes
      simp [f9, f0, hb]
      refine CallK_of' (indexByteOk [10, 9, 34, 92] b _) ?_
      obtain ⟨g1, g2⟩ := index_esc b
      generalize Lib.indexByte [10, 9, 34, 92] b = q at g1 g2
      simp
      refine BrK_split (fun h => ?_) (fun h => ?_)
      · obtain ⟨x, hx1, hx2⟩ := g1 (by simpa using h)
        rw [hx2] at hes
        simp [f3]
        have w2 := wb (H ++ [.tok (34 :: X).length 1 5, .box 83 [.ptr (H.length + 1) 0, .osl true 1 (byteRows (34 :: X)) H.length]]) (H.length + 1) H.length (.ptr (H.length + 1) 0) (34 :: X) 92 (by simp) (.inr rfl) (by simp) (by simp; omega)
        simp at w2
        refine CallK_of' w2 ?_
        simp [hx1, f3]
        have w3 := wb (H ++ [.tok (34 :: (X ++ [92])).length 1 5, .box 83 [.ptr (H.length + 1) 0, .osl true 1 (byteRows (34 :: (X ++ [92]))) H.length]]) (H.length + 1) H.length (.ptr (H.length + 1) 0) (34 :: (X ++ [92])) x (by simp) (.inr rfl) (by simp) (by simp; omega)
        simp at w3
        refine CallK_of' w3 ?_
        simp
        refine NextK_of (H.length + 2) (by omega) (by simp [f9, f8]) ?_
        simp [f0, f3, cut_appk hcl, hes]
      · have hx2 := g2 (by simpa using h)
        rw [hx2] at hes
        simp [f3, f0, hb]
        have w2 := wb (H ++ [.tok (34 :: X).length 1 5, .box 83 [.ptr (H.length + 1) 0, .osl true 1 (byteRows (34 :: X)) H.length]]) (H.length + 1) H.length (.ptr (H.length + 1) 0) (34 :: X) b (by simp) (.inr rfl) (by simp) (by simp; omega)
        simp at w2
        refine CallK_of' w2 ?_
        simp
        refine NextK_of (H.length + 2) (by omega) (by simp [f9, f8]) ?_
        simp [f0, f3, cut_appk hcl, hes]
    · rintro fr H' f9 f8 ⟨f0, f3, rfl⟩
      simp [f3]
  rintro fr H' ⟨f3, rfl⟩
  have hlen := flatMap_len s
  simp [f3]
  have w2 := wb (H ++ [.tok (34 :: s.flatMap esc).length 1 5, .box 83 [.ptr (H.length + 1) 0, .osl true 1 (byteRows (34 :: s.flatMap esc)) H.length]]) (H.length + 1) H.length (.ptr (H.length + 1) 0) (34 :: s.flatMap esc) 34 (by simp) (.inr rfl) (by simp) (by simp [-List.length_flatMap]; omega)
  simp at w2
  refine CallK_of' w2 ?_
  simp [f3]
  have w3 := stringOk (H := H ++ [.tok (34 :: (s.flatMap esc ++ [34])).length 1 5, .box 83 [.ptr (H.length + 1) 0, .osl true 1 (byteRows (34 :: (s.flatMap esc ++ [34]))) H.length]]) (i := H.length + 1) (t := H.length) (a := .ptr (H.length + 1) 0) (s := 34 :: (s.flatMap esc ++ [34])) (by simp) (by simp) (by simp [-List.length_flatMap]; omega)
  simp at w3
  refine CallK_of' w3 ?_
  simp
  simp [RetK, cut_app hcl, quoteV]

/-- a heap that begins as another one -/
def Pre (H0 H : Hp) : Prop := ∃ X, H = H0 ++ X
theorem Pre.app {H0 H : Hp} (h : Pre H0 H) (X : Hp) : Pre H0 (H ++ X) := by obtain ⟨Y, rfl⟩ := h; exact ⟨Y ++ X, by simp⟩
theorem Pre.nil (H : Hp) : Pre [] H := ⟨H, rfl⟩
theorem Pre.self (H : Hp) : Pre H H := ⟨[], by simp⟩

/-- a number's text can be told -/
def FmtOk (H0 : Hp) (n : Int) : Prop := ∀ H, Pre H0 H → ACall Tryd.prog 34 [.d (.int .i64 n), .d (.int .i64 10)] H (fun r H' => r = .d (.str (Lib.itoa n)) ∧ H' = H)

theorem fmt_small (i : Nat) (hi : i < 100) : FmtOk [] (i : Int) := fun H _ => by
  refine leaf (args := [.int .i64 i, .int .i64 10]) (x := .str (Lib.itoa i)) (fun w σ vs _ hl hv => ?_) H
  match vs, hl with
  | [v0, v1], _ =>
  have e0 := (hv 0 v0 _ rfl rfl).int_inv
  have e1 := (hv 1 v1 _ rfl rfl).int_inv
  subst e0; subst e1
  refine (Tryd.strconv_FormatInt_10_small i hi w).mono ?_
  rintro e w' ⟨rfl, rfl⟩
  refine ⟨_, rfl, Below.refl _ _, fun σ => ?_⟩
  have : Lib.itoa i = Lib.decDigits i := by simp [Lib.itoa]
  rw [this]
  exact DR.strOf _

theorem joinOk (z : Bool) (xs : List Str) (sep : Str) (h1 : xs.length ≤ 1048576) (h2 : (Lib.join xs sep).length ≤ 140737488355328) (H : Hp) :
    ACall Tryd.prog 36 [.d (.sl z 1 (xs.map encS)), .d (.str sep)] H (fun r H' => r = .d (.str (Lib.join xs sep)) ∧ H' = H) := by
  refine leaf (args := [.sl z 1 (xs.map encS), .str sep]) (x := .str (Lib.join xs sep)) (fun w σ vs hst hl hv => ?_) H
  match vs, hl with
  | [v0, v1], _ =>
  have e1 := (hv 1 v1 _ rfl rfl).str_inv
  subst e1
  have h0 := hv 0 v0 _ rfl rfl
  have hsep : (⟨sep.toArray⟩ : ByteArray).data.toList = sep := by simp
  rcases h0.sl_inv with ⟨rfl, -, e⟩ | ⟨ad, cap, rfl, -, e⟩ | ⟨b, o, cap, f, rfl, hz, hcap, hrow, hc, hd⟩
  · have : xs = [] := by simpa using e
    subst this
    refine (Tryd.strings_Join_none none 0 ⟨sep.toArray⟩ w).mono ?_
    rintro e w' ⟨rfl, rfl⟩
    exact ⟨_, rfl, Below.refl _ _, fun σ => DR.strOf _⟩
  · have : xs = [] := by simpa using e
    subst this
    refine (Tryd.strings_Join_none (some ad) cap ⟨sep.toArray⟩ w).mono ?_
    rintro e w' ⟨rfl, rfl⟩
    exact ⟨_, rfl, Below.refl _ _, fun σ => DR.strOf _⟩
  · by_cases h0 : xs = []
    · subst h0
      refine (Tryd.strings_Join_none (some ⟨b, o, none⟩) cap ⟨sep.toArray⟩ w).mono ?_
      rintro e w' ⟨rfl, rfl⟩
      exact ⟨_, rfl, Below.refl _ _, fun σ => DR.strOf _⟩
    · have hcell : ∀ (j : Nat) (x : Str), xs[j]? = some x → w.cell? ⟨b, o + j, none⟩ = some (.string ⟨x.toArray⟩) := fun j x hx => by
        have hr : (xs.map encS)[j]? = some [.str x] := by simp [hx, encS]
        have g1 := hst _ _ _ (hc j 0 _ _ hr rfl)
        have g2 := (hd j 0 _ _ hr rfl).str_inv
        rw [g2] at g1
        simpa using g1
      have hmap : (xs.map fun x => (⟨x.toArray⟩ : ByteArray)).map (·.data.toList) = xs := by simp [List.map_map, Function.comp_def]
      have hb : b < w.heap.size := by
        cases xs with
        | nil => exact absurd rfl h0
        | cons x r => exact World.block_lt_of_cell? w ⟨b, o + 0, none⟩ (hcell 0 x rfl)
      have := Tryd.strings_Join b o cap (xs.map fun x => (⟨x.toArray⟩ : ByteArray)) ⟨sep.toArray⟩ w (fun j x hx => by
        simp only [List.getElem?_map, Option.map_eq_some_iff] at hx
        obtain ⟨y, hy, rfl⟩ := hx
        exact hcell j y hy) hb (by simp; omega) (by simpa using hcap) (by rw [hmap, hsep]; exact h2)
      rw [List.length_map] at this
      rw [hmap, hsep] at this
      rw [List.length_map]
      refine this.mono ?_
      rintro e w' ⟨rfl, hB⟩
      exact ⟨_, rfl, hB, fun σ => DR.strOf _⟩

end Go.Proofs.Zv

namespace Go.Proofs.Zv
open Go Go.Zam Go.Proofs
set_option maxRecDepth 100000
set_option linter.all false
set_option maxHeartbeats 1000000

def pairT (n t : Str) : Str := n ++ [58, 32] ++ t

mutual
def U.text : U → Str
  | .mk k n s ns ps => if k = 1 then Lib.itoa n else if k = 2 then quoteV s else if k = 4 then [102, 110, 47] ++ Lib.itoa n else if k = 3 then [123] ++ Lib.join (List.zipWith pairT ns (U.texts ps)) [44, 32] ++ [125] else [63]
def U.texts : List U → List Str
  | [] => []
  | p :: r => U.text p :: U.texts r
end
theorem U.texts_map : ∀ l : List U, U.texts l = l.map U.text
  | [] => rfl
  | p :: r => by rw [U.texts, U.texts_map r]; rfl

def V.text (v : V) : Str := v.strip.text
theorem V.text_mk (k n : Int) (s : Str) (z : Bool) (ns : List Str) (y : Bool) (ps : List V) : (V.mk k n s z ns y ps).text =
    if k = 1 then Lib.itoa n else if k = 2 then quoteV s else if k = 4 then [102, 110, 47] ++ Lib.itoa n else if k = 3 then [123] ++ Lib.join (List.zipWith pairT ns (ps.map V.text)) [44, 32] ++ [125] else [63] := by
  have : ps.map V.text = (ps.map V.strip).map U.text := by rw [List.map_map]; rfl
  rw [V.text, V.strip_mk, U.text, U.texts_map, this]

inductive V.Nums (Q : Int → Prop) : V → Prop
  | mk (k n : Int) (s : Str) (z : Bool) (ns : List Str) (y : Bool) (ps : List V) (h1 : k = 1 ∨ k = 4 → Q n) (h2 : ∀ p ∈ ps, V.Nums Q p) : V.Nums Q (.mk k n s z ns y ps)

theorem decDigits_len (b : Nat) : ∀ u : Nat, u < 10 ^ (b + 1) → (Lib.decDigits u).length ≤ b + 1 := by
  induction b with
  | zero => intro u h; rw [Lib.decDigits, dif_pos (by simpa using h)]; simp
  | succ b ih =>
    intro u h
    rw [Lib.decDigits]
    split
    · simp
    · have := ih (u / 10) (by rw [Nat.div_lt_iff_lt_mul (by omega)]; rw [Nat.pow_succ] at h; exact h)
      simp; omega

theorem itoa_len {n : Int} (h : -9223372036854775808 ≤ n ∧ n ≤ 9223372036854775807) : (Lib.itoa n).length ≤ 20 := by
  unfold Lib.itoa
  split
  · have := decDigits_len 18 n.natAbs (by omega)
    simp; omega
  · have := decDigits_len 18 n.toNat (by omega)
    omega

theorem join_len (sep : Str) (c : Nat) : ∀ l : List Str, (Lib.join l sep).length ≤ (l.map fun x => x.length + sep.length).sum
  | [] => by simp [Lib.join_nil]
  | x :: r => by
    rw [Lib.join_cons]
    have : ∀ r : List Str, (Lib.joinTail sep r).length = (r.map fun x => x.length + sep.length).sum := by
      intro r
      induction r with
      | nil => rfl
      | cons y r ih => simp only [Lib.joinTail, List.map_cons, List.flatten_cons, List.length_append, List.sum_cons] at ih ⊢; omega
    simp only [List.length_append, this, List.map_cons, List.sum_cons]; omega

theorem zip_len : ∀ (ns : List Str) (ts : List Str), ((List.zipWith pairT ns ts).map fun x => x.length + 2).sum ≤ (ns.map fun x => x.length + 1).sum * 4 + (ts.map List.length).sum
  | [], ts => by simp
  | n :: ns, [] => by simp
  | n :: ns, t :: ts => by
    have := zip_len ns ts
    simp only [List.zipWith_cons_cons, List.map_cons, List.sum_cons, pairT, List.length_append, List.length_cons, List.length_nil]
    omega

theorem bulkR_sum {α : Type} (enc : α → List D) (l : List α) : D.bulkR (l.map enc) = (l.map fun x => D.bulkC (enc x)).sum := by
  induction l with
  | nil => rfl
  | cons x l ih => simp only [List.map_cons, D.bulkR, ih, List.sum_cons]

/-- a text is no longer than so many times what the value holds -/
theorem text_len (v : V) : v.Fit 1048576 → v.text.length ≤ 24 * v.bulk := by
  induction v using V.ind with
  | h k n s z ns y ps ih =>
  rintro ⟨_, _, _, _, _, _, _, b1, b2, b3, bn, b4, b5⟩
  have hq : (quoteV s).length ≤ 2 * s.length + 2 := by have := flatMap_len s; simp only [quoteV, List.length_cons, List.length_append, List.length_nil]; omega
  have hi := itoa_len bn
  have hj : (Lib.join (List.zipWith pairT ns (ps.map V.text)) [44, 32]).length ≤ ((List.zipWith pairT ns (ps.map V.text)).map fun x => x.length + 2).sum := join_len [44, 32] 0 _
  have hz := zip_len ns (ps.map V.text)
  have hs : ((ps.map V.text).map List.length).sum ≤ 24 * (ps.map fun x => D.bulkC (V.enc x)).sum := by
    clear hj hz b3
    induction ps with
    | nil => simp
    | cons p r ih2 =>
      have h1 := ih p (by simp) (b5 p (by simp))
      have h2 := ih2 (fun q hq => ih q (by simp [hq])) (fun q hq => b5 q (by simp [hq]))
      simp only [V.bulk] at h1
      simp only [List.map_cons, List.sum_cons]; omega
  have hN : D.bulkR (ns.map encS) = (ns.map fun x => x.length + 1).sum := by rw [bulkR_sum]; simp [encS, D.bulkC, D.bulk]
  have hP := bulkR_sum V.enc ps
  rw [V.text_mk]
  simp only [V.bulk, V.enc_mk k, D.bulkC, D.bulk, hN, hP]
  (repeat' split) <;> (try simp only [List.length_append, List.length_cons, List.length_nil]) <;> omega

theorem textOk {H0 : Hp} (v : V) : v.Fit 1048576 → v.bulk ≤ 1048576 → v.Nums (FmtOk H0) → ∀ H, Pre H0 H → ACall Tryd.prog 13 [v.a] H (fun r H' => r = .d (.str v.text) ∧ H' = H) := by
  induction v using V.ind with
  | h k n s z ns y ps ih =>
  rintro hf hb hn H hp
  have hlen := text_len _ hf
  obtain ⟨_, _, _, _, _, _, _, b1, b2, b3, bn, b4, b5⟩ := hf
  obtain ⟨_, _, _, _, _, _, _, n1, n2⟩ := hn
  refine acall_fin Tryd.func13 cf13 (by simp [ir13]) fun hcl _ => ?_
  rw [V.a_mk]
  by_cases h1 : k = 1
  case pos =>
    simp [ir13, h1]
    refine CallK_of' (n1 (.inl h1) _ (hp.app _)) ?_
    simp
    simp [RetK, cut_app hcl, V.text_mk, h1]
  by_cases h2 : k = 2
  case pos =>
    simp [ir13, h1, h2]
    refine CallK_of' (quoteOk s b1 _) ?_
    simp
    simp [RetK, cut_app hcl, V.text_mk, h1, h2]
  by_cases h4 : k = 4
  case pos =>
    simp [ir13, h1, h2, h4]
    refine CallK_of' (n1 (.inr h4) _ (hp.app _)) ?_
    have hi := itoa_len bn
    have hle : 3 + (Lib.itoa n).length ≤ 9223372036854775807 := by omega
    simp [hle]
    simp [RetK, cut_app hcl, V.text_mk, h1, h2, h4]
  by_cases h3 : k = 3
  case neg =>
    simp [ir13, h1, h2, h3, h4]
    simp [RetK, cut_app hcl, V.text_mk, h1, h2, h3, h4]
  simp [ir13, h1, h2, h3, h4]
  subst h3
  generalize hZ : List.zipWith pairT ns (ps.map V.text) = Z
  have hZl : Z.length = min ns.length ps.length := by rw [← hZ]; simp
  have htx : (V.mk 3 n s z ns y ps).text = [123] ++ Lib.join Z [44, 32] ++ [125] := by rw [V.text_mk, hZ]; simp
  rw [htx] at hlen
  simp only [List.length_append, List.length_cons, List.length_nil] at hlen
  refine LoopK_outR 1 (fun fr H' => fr 3 = .osl true 1 (Z.map encS) (H.length + 1) ∧ ∃ q, H' = H ++ [q, .tok Z.length 1 9]) (fun _ _ => False) ?_ (fun _ _ h => h.elim) ?_
  · refine RangeK_of (H.length + 2) ns.length (fun i fr H' => fr 1 = .ptr H.length 0 ∧ fr 27 = .d (.sl z 1 (ns.map encS)) ∧ fr 3 = .osl true 1 ((Z.map encS).take i) (H.length + 1) ∧
      H' = H ++ [.box 30 [.d (.int .i64 3), .d (.int .i64 n), .d (.str s), .d (.sl z 1 (ns.map encS)), .d (.sl y 5 (ps.map V.enc))], .tok (min i Z.length) 1 9]) (by omega) (by decide) (by simp) (by simp) ?_ ?_ ?_
    · simp [cut_appk hcl]
    · rintro i fr H' hi f29 f28 ⟨f1, f27, f3, rfl⟩
      have ra := rowAt_map encS hi
      simp only [encS] at ra
      simp [f29, f27, f1, ra]
      refine BrK_split (fun h => ?_) (fun h => ?_)
      · have hip : i < ps.length := by simpa using h
        have hiZ : i < Z.length := by omega
        have ht := take_map_succ encS hiZ
        have hZi : Z[i] = pairT ns[i] ps[i].text := by subst hZ; simp
        have hr := rowAt_map V.enc hip
        have hbp : ps[i].bulk ≤ 1048576 := Nat.le_trans (V.bulk_part (List.getElem_mem hip)) hb
        have hx := ih ps[i] (List.getElem_mem hip) (b5 _ (List.getElem_mem hip)) hbp (n2 _ (List.getElem_mem hip))
        have hl1 := b4 ns[i] (List.getElem_mem hi)
        have hl2 := text_len ps[i] (b5 _ (List.getElem_mem hip))
        rw [hZi] at ht
        generalize ns[i] = nm at ra ht hl1
        generalize ps[i] = p at hr hbp hx ht hl2
        generalize p.text = tx at hx ht hl2
        cases p with | mk k' n' s' z' ns' y' ps' =>
        simp only [V.a_mk, V.enc_mk] at hr hx
        have c1 : nm.length + 2 ≤ 9223372036854775807 := by omega
        have c2 : nm.length + 2 + tx.length ≤ 9223372036854775807 := by omega
        have c3 : (i + 1) * 16 ≤ 140737488355328 := by omega
        have hm : min i Z.length = i := by omega
        have hm2 : min (i + 1) Z.length = i + 1 := by omega
        simp [f1, f3, hr, c1]
        refine CallK_of' (hx _ (hp.app _)) ?_
        simp [appA, c2, hm, c3, f3]
        refine NextK_of (H.length + 2) (Nat.le_refl _) (by simp [f29, f28]) ?_
        simp [f1, f27, cut_appk hcl, ht, hm2, encS, pairT]
      · have hip : ps.length ≤ i := by simpa using h
        have e1 : (Z.map encS).take (i + 1) = (Z.map encS).take i := by rw [List.take_of_length_le (by simp; omega), List.take_of_length_le (by simp; omega)]
        have hm : min (i + 1) Z.length = min i Z.length := by omega
        simp
        refine NextK_of (H.length + 2) (Nat.le_refl _) (by simp [f29, f28]) ?_
        simp [f1, f27, f3, cut_appk hcl, e1, hm]
    · rintro fr H' f29 f28 ⟨f1, f27, f3, rfl⟩
      have e1 : (Z.map encS).take ns.length = Z.map encS := by rw [List.take_of_length_le (by simp; omega)]
      have hm : min ns.length Z.length = Z.length := by omega
      simp [f3, e1, hm]
  rintro fr H' ⟨f3, q, rfl⟩
  simp [f3]
  have hj := joinOk true Z [44, 32] (by omega) (by omega) (H ++ [q, .tok Z.length 1 9])
  refine CallK_of' hj.osl1 ?_
  have hJ : (Lib.join Z [44, 32]).length ≤ 25165824 := by omega
  have c1 : 1 + (Lib.join Z [44, 32]).length ≤ 9223372036854775807 := by omega
  have c2 : (Lib.join Z [44, 32]).length ≤ 9223372036854775805 := by omega
  simp [c1, c2]
  simp [RetK, cut_app hcl, htx]

theorem awakeOk (H : Hp) : ACall Tryd.prog 11 [] H (fun r H' => r = .d (.bool true) ∧ H' = H) := by
  refine acall_fin Tryd.func11 cf11 (by simp [ir11]) fun hcl _ => ?_
  simp [ir11]
  refine CallK_of' (numOk 1 _) ?_
  simp
  refine CallK_of' (strOk [120] _) ?_
  simp [V.a_mk]
  have hr := recOk false false [[98], [97]] [.mk 1 1 [] true [] true [], .mk 2 0 [120] true [] true []] (by simp) (by simp)
  simp [encS, V.enc_mk] at hr
  refine CallK_of' (hr _) ?_
  have hS : ssort cP [(([98] : Str), V.mk 1 1 [] true [] true []), ([97], .mk 2 0 [120] true [] true [])] = [([97], .mk 2 0 [120] true [] true []), ([98], .mk 1 1 [] true [] true [])] := by
    rfl
  have hrec : recV [[98], [97]] [.mk 1 1 [] true [] true [], .mk 2 0 [120] true [] true []] = (.mk 3 0 [] true [[97], [98]] true [.mk 2 0 [120] true [] true [], .mk 1 1 [] true [] true []], 0) := by
    have hnd : ¬ Dup [(([97] : Str), V.mk 2 0 [120] true [] true []), ([98], .mk 1 1 [] true [] true [])] := by
      rintro ⟨j, a, b, ha, hb, e⟩
      match j with
      | 0 => simp at ha hb; subst ha; subst hb; simp at e
      | j + 1 => simp at hb
    simp [recV, hS, hnd]
  rw [hrec]
  simp [V.a_mk, encS, V.enc_mk]
  have ht := textOk (H0 := []) (.mk 3 0 [] true [[97], [98]] true [.mk 2 0 [120] true [] true [], .mk 1 1 [] true [] true []])
    (.mk _ _ _ _ _ _ _ (by simp) (by simp) (by simp) (by simp) (by simp) (fun p hp => by
      simp at hp
      rcases hp with rfl | rfl <;> exact .mk _ _ _ _ _ _ _ (by simp) (by simp) (by simp) (by simp) (by simp) (by simp)))
    (by simp [V.bulk, V.enc_mk, D.bulkC, D.bulk, D.bulkR, encS])
    (.mk _ _ _ _ _ _ _ (by simp) (fun p hp => by
      simp at hp
      rcases hp with rfl | rfl
      · exact .mk _ _ _ _ _ _ _ (by simp) (by simp)
      · exact .mk _ _ _ _ _ _ _ (fun _ => fmt_small 1 (by omega)) (by simp)))
  simp [V.a_mk, encS, V.enc_mk] at ht
  refine CallK_of' (ht _ (Pre.nil _)) ?_
  have htx : (V.mk 3 0 [] true [[97], [98]] true [.mk 2 0 [120] true [] true [], .mk 1 1 [] true [] true []]).text = [123, 97, 58, 32, 34, 120, 34, 44, 32, 98, 58, 32, 49, 125] := by
    have h1 : Lib.itoa 1 = [49] := by simp [Lib.itoa, Lib.decDigits]
    simp [V.text_mk, h1, quoteV, esc, pairT]
    rfl
  simp [htx]
  simp [RetK, cut_app hcl]

end Go.Proofs.Zv

namespace Go.Proofs.Zv
open Go Go.Zam Go.Proofs
set_option maxRecDepth 100000
set_option linter.all false
set_option maxHeartbeats 1000000

theorem insL_map {α β : Type} {c : α → α → Int} {d : β → β → Int} {g : α → β} (h : ∀ a b, d (g a) (g b) = c a b) (x : α) : ∀ l : List α, insL d (g x) (l.map g) = (insL c x l).map g
  | [] => rfl
  | y :: l => by
    have ih := insL_map h x l
    simp only [List.map_cons, insL, h]
    split
    · rfl
    · rw [ih]; rfl

theorem ssort_map {α β : Type} {c : α → α → Int} {d : β → β → Int} {g : α → β} (h : ∀ a b, d (g a) (g b) = c a b) : ∀ l : List α, ssort d (l.map g) = (ssort c l).map g
  | [] => rfl
  | x :: l => by
    have ih := ssort_map h l
    simp only [List.map_cons, ssort, ih]
    exact insL_map h x _

def onSnd (f : V → V) (p : Pr) : Pr := (p.1, f p.2)

theorem dup_map (f : V → V) (S : List Pr) : Dup (S.map (onSnd f)) ↔ Dup S := by
  constructor
  · rintro ⟨j, a, b, ha, hb, e⟩
    simp only [List.getElem?_map, Option.map_eq_some_iff] at ha hb
    obtain ⟨a', ha', rfl⟩ := ha
    obtain ⟨b', hb', rfl⟩ := hb
    exact ⟨j, a', b', ha', hb', e⟩
  · rintro ⟨j, a, b, ha, hb, e⟩
    exact ⟨j, onSnd f a, onSnd f b, by simp [ha], by simp [hb], e⟩

theorem zip_onSnd (f : V → V) (ns : List Str) (ps : List V) : ns.zip (ps.map f) = (ns.zip ps).map (onSnd f) := by
  induction ns generalizing ps with
  | nil => simp
  | cons n ns ih =>
    cases ps with
    | nil => simp
    | cons p ps => simp [ih, onSnd]

theorem recV_ne {ns : List Str} {ps : List V} (h : ns.length ≠ ps.length) : recV ns ps = (V.nil, 1) := by simp [recV, h]
theorem recV_dup {ns : List Str} {ps : List V} (h : ns.length = ps.length) (hd : Dup (ssort cP (ns.zip ps))) : recV ns ps = (V.nil, 40) := by simp [recV, h, hd]
theorem recV_ok {ns : List Str} {ps : List V} (h : ns.length = ps.length) (hd : ¬ Dup (ssort cP (ns.zip ps))) :
    recV ns ps = (.mk 3 0 [] true ((ssort cP (ns.zip ps)).map Prod.fst) true ((ssort cP (ns.zip ps)).map Prod.snd), 0) := by simp [recV, h, hd]

theorem recV_map (f : V → V) (hf : ∀ v, (f v).strip = v.strip) (ns : List Str) (ps : List V) : (recV ns (ps.map f)).2 = (recV ns ps).2 ∧ (recV ns (ps.map f)).1.strip = (recV ns ps).1.strip := by
  have hs := ssort_map (c := cP) (d := cP) (g := onSnd f) (fun _ _ => rfl) (ns.zip ps)
  rw [← zip_onSnd] at hs
  by_cases h : ns.length = ps.length
  · have h' : ns.length = (ps.map f).length := by simpa using h
    have hd := dup_map f (ssort cP (ns.zip ps))
    rw [← hs] at hd
    by_cases hD : Dup (ssort cP (ns.zip ps))
    · rw [recV_dup h hD, recV_dup h' (hd.2 hD)]; exact ⟨rfl, rfl⟩
    · rw [recV_ok h hD, recV_ok h' (fun x => hD (hd.1 x)), hs]
      refine ⟨rfl, ?_⟩
      simp only [V.strip_mk, List.map_map]
      congr 1
      exact List.map_congr_left fun p _ => hf p.2
  · rw [recV_ne h, recV_ne (by simpa using h)]; exact ⟨rfl, rfl⟩

theorem rsame_true {v w : V} (hv : v.Fit 1048576) (e : v.strip = w.strip) (H : Hp) : ACall Tryd.prog 14 [v.a, w.a] H (fun r H' => r = .d (.bool true) ∧ H' = H) := by
  have := rsameOk v hv w H
  rwa [@decide_eq_true _ (Classical.propDecidable _) e] at this

theorem fit_to {b : Nat} (v : V) : v.Fit b → v.to.Fit b := by
  induction v using V.ind with
  | h k n s z ns y ps ih =>
  rintro ⟨_, _, _, _, _, _, _, b1, b2, b3, bn, b4, b5⟩
  rw [V.to_mk]
  refine .mk _ _ _ _ _ _ _ b1 b2 (by simpa using b3) bn b4 fun p hp => ?_
  obtain ⟨q, hq, rfl⟩ := List.mem_map.1 hp
  exact ih q hq (b5 q hq)

theorem fit_nil (b : Nat) : V.nil.Fit b := .mk _ _ _ _ _ _ _ (by simp) (by simp) (by simp) (by simp) (by simp) (by simp)

theorem fit_rec {b : Nat} {ns : List Str} {ps : List V} (h1 : ns.length ≤ b) (h2 : ps.length ≤ b) (h3 : ∀ x ∈ ns, x.length ≤ b) (h4 : ∀ p ∈ ps, p.Fit b) : (recV ns ps).1.Fit b := by
  unfold recV
  have hl : (ssort cP (ns.zip ps)).length ≤ b := by rw [ssort_length cP_cmp]; simp; omega
  have hm : ∀ p ∈ ssort cP (ns.zip ps), p.1 ∈ ns ∧ p.2 ∈ ps := fun p hp => by
    have := ((ssort_perm cP_cmp (ns.zip ps)).mem_iff).2 hp
    exact ⟨(List.of_mem_zip this).1, (List.of_mem_zip this).2⟩
  split
  · split
    · exact fit_nil b
    · refine .mk _ _ _ _ _ _ _ (by simp) (by simpa using hl) (by simpa using hl) (by simp) (fun x hx => ?_) (fun p hp => ?_)
      · obtain ⟨q, hq, rfl⟩ := List.mem_map.1 hx
        exact h3 _ (hm q hq).1
      · obtain ⟨q, hq, rfl⟩ := List.mem_map.1 hp
        exact h4 _ (hm q hq).2
  · exact fit_nil b

theorem makesOk (z y : Bool) (ns : List Str) (ps : List V) (n k : Int) (s : Str) (H : Hp) (h1 : ns.length ≤ 1048576) (h2 : ps.length ≤ 1048576) (h3 : ∀ x ∈ ns, x.length ≤ 1048576) (h4 : ∀ p ∈ ps, p.Fit 1048576) (h5 : s.length ≤ 1048576)
    (hn : -9223372036854775808 ≤ n ∧ n ≤ 9223372036854775807) (hk : -9223372036854775808 ≤ k ∧ k ≤ 9223372036854775807) :
    ACall Tryd.prog 4 [.d (.sl z 1 (ns.map encS)), .d (.sl y 5 (ps.map V.enc)), .d (.int .i64 n), .d (.str s), .d (.int .i64 k)] H (fun r H' => r = .d (.bool true) ∧ H' = H) := by
  refine acall_fin Tryd.func4 cf4 (by simp [ir4]) fun hcl _ => ?_
  by_cases g1 : (30 : Int) < ns.length
  case pos =>
    simp [ir4, g1]
    refine CallK_of' (awakeOk _) ?_
    simp
    simp [RetK, cut_self hcl]
  by_cases g2 : (30 : Int) < ps.length
  case pos =>
    simp [ir4, g1, g2]
    refine CallK_of' (awakeOk _) ?_
    simp
    simp [RetK, cut_self hcl]
  by_cases g3 : (1000 : Int) < s.length
  case pos =>
    simp [ir4, g1, g2, g3]
    refine CallK_of' (awakeOk _) ?_
    simp
    simp [RetK, cut_self hcl]
  simp [ir4, g1, g2, g3]
  refine LoopK_outR 0 (fun fr H' => fr 0 = .d (.sl z 1 (ns.map encS)) ∧ fr 1 = .d (.sl y 5 (ps.map V.enc)) ∧ fr 2 = .d (.int .i64 n) ∧ fr 3 = .d (.str s) ∧ fr 4 = .d (.int .i64 k) ∧ fr 11 = .osl true 5 ((ps.map V.to).map V.enc) H.length ∧ H' = H ++ [.tok ps.length 5 30])
    (fun fr H' => fr 10 = .d (.bool true) ∧ ∃ X, H' = H ++ X) ?_ ?_ ?_
  · refine RangeK_of (H.length + 1) ps.length (fun i fr H' => fr 0 = .d (.sl z 1 (ns.map encS)) ∧ fr 1 = .d (.sl y 5 (ps.map V.enc)) ∧ fr 2 = .d (.int .i64 n) ∧ fr 3 = .d (.str s) ∧ fr 4 = .d (.int .i64 k) ∧ fr 32 = .d (.sl y 5 (ps.map V.enc)) ∧ fr 11 = .osl true 5 ((ps.map (V.enc ∘ V.to)).take i) H.length ∧ H' = H ++ [.tok i 5 30]) (by omega) (by decide) (by simp) (by simp) ?_ ?_ ?_
    · simp [cut_appk hcl]
    · rintro i fr H' hi f34 f33 ⟨f0, f1, f2, f3, f4, f32, f11, rfl⟩
      have hr := rowAt_map V.enc hi
      have hv := h4 ps[i] (List.getElem_mem hi)
      have hl := lightOk ps[i] hv
      have hx := toOk ps[i] hv
      have ht := take_map_succ (V.enc ∘ V.to) hi
      generalize ps[i] = p at hr hl hx ht
      cases p with | mk k' n' s' z' ns' y' ps' =>
      simp only [V.a_mk, V.enc_mk, V.to_mk, Function.comp_apply] at hr hl hx ht
      simp [f34, f32, hr]
      refine CallK_of (hl _) ?_
      rintro x H2 ⟨⟨c, rfl⟩, rfl⟩
      simp
      refine BrK_split (fun h => ?_) (fun h => ?_)
      · simp
        refine CallK_of' (awakeOk _) ?_
        simp
      · simp [f11]
        refine CallK_of' (hx _) ?_
        have hm : min i ps.length = i := by omega
        have hc : (i + 1) * 80 ≤ 140737488355328 := by omega
        simp [appA, hm, hc, f11]
        refine NextK_of (H.length + 1) (Nat.le_refl _) (by simp [f34, f33]) ?_
        simp [f0, f1, f2, f3, f4, f32, cut_appk hcl, ht]
    · rintro fr H' f34 f33 ⟨f0, f1, f2, f3, f4, f32, f11, rfl⟩
      have hfull : (ps.map (V.enc ∘ V.to)).take ps.length = ps.map (V.enc ∘ V.to) := by rw [List.take_of_length_le (by simp)]
      simp [f0, f1, f2, f3, f4, f11, hfull]
  · rintro fr H' ⟨f10, X, rfl⟩
    simp
    simp [RetK, cut_app hcl, f10]
  rintro fr H' ⟨f0, f1, f2, f3, f4, f11, rfl⟩
  have q1 := recOk z true ns (ps.map V.to) h1 (by simpa using h2)
  have q2 := rrecOk z y ns ps h1 h2
  obtain ⟨e1, e2⟩ := recV_map V.to V.to_strip ns ps
  rw [List.map_map] at q1
  have q3 := fit_rec (ps := ps.map V.to) h1 (by simpa using h2) h3 (fun p hp => by
    obtain ⟨q, hq, rfl⟩ := List.mem_map.1 hp
    exact fit_to q (h4 q hq))
  generalize hA : (recV ns (ps.map V.to)).1 = a at q1 q3 e2
  generalize hB : (recV ns ps).1 = b at q2 e2
  rw [e1] at q1
  generalize (recV ns ps).2 = c at q1 q2
  have q4 := fromOk a q3
  have q5 := rsame_true (w := b) (fit_to a q3) (by rw [V.to_strip, e2])
  have one : ∀ v : V, v.Fit 1048576 → (∀ H, ACall Tryd.prog 17 [v.a] H (fun r H' => r = v.to.a ∧ H' = H)) ∧ ∀ w : V, v.to.strip = w.strip → ∀ H, ACall Tryd.prog 14 [v.to.a, w.a] H (fun r H' => r = .d (.bool true) ∧ H' = H) := fun v hv => ⟨fromOk v hv, fun w e => rsame_true (fit_to v hv) e⟩
  obtain ⟨m1, m2⟩ := one (.mk 1 n [] true [] true []) (.mk _ _ _ _ _ _ _ (by simp) (by simp) (by simp) hn (by simp) (by simp))
  obtain ⟨u1, u2⟩ := one (.mk 2 0 s true [] true []) (.mk _ _ _ _ _ _ _ h5 (by simp) (by simp) (by simp) (by simp) (by simp))
  obtain ⟨x1, x2⟩ := one (.mk 4 k [] true [] true []) (.mk _ _ _ _ _ _ _ (by simp) (by simp) (by simp) hk (by simp) (by simp))
  have m3 := m2 (.mk 1 n [] true [] true []) (V.to_strip _)
  have u3 := u2 (.mk 2 0 s true [] true []) (V.to_strip _)
  have x3 := x2 (.mk 4 k [] true [] true []) (V.to_strip _)
  have m0 := numOk n
  have u0 := strOk s
  have x0 := funOk k
  simp only [V.a_mk, V.to_mk] at m0 m1 m3 u0 u1 u3 x0 x1 x3
  simp at m0 m1 m3 u0 u1 u3 x0 x1 x3
  simp [f0, f1, f11]
  refine CallK_of' (q1 _).osl2 ?_
  cases a with | mk ka na sa za nsa ya psa =>
  cases b with | mk kb nb sb zb nsb yb psb =>
  simp only [V.a_mk, V.to_mk] at q4 q5 q2
  simp [V.a_mk, f0, f1]
  refine CallK_of' (q2 _) ?_
  simp
  refine CallD_of (awakeOk _) ?_
  simp
  refine CallD_of (q4 _) ?_
  simp
  refine CallD_of (by simpa using q5 _) ?_
  simp [f2, f3, f4]
  refine CallD_of (m0 _) ?_
  simp
  refine CallD_of (m1 _) ?_
  simp [f2, f3, f4]
  refine CallD_of (m3 _) ?_
  simp [f2, f3, f4]
  refine CallD_of (u0 _) ?_
  simp
  refine CallD_of (u1 _) ?_
  simp [f2, f3, f4]
  refine CallD_of (u3 _) ?_
  simp [f2, f3, f4]
  refine CallD_of (x0 _) ?_
  simp
  refine CallD_of (x1 _) ?_
  simp [f2, f3, f4]
  refine CallD_of (x3 _) ?_
  simp [f2, f3, f4]
  simp [RetK, cut_app hcl]

end Go.Proofs.Zv

namespace Go.Proofs.Zv
open Go Go.Zam Go.Proofs
set_option maxRecDepth 100000
set_option linter.all false
set_option maxHeartbeats 1000000

def idxS : List Str → Str → Nat
  | [], _ => 0
  | y :: r, x => if y = x then 0 else idxS r x + 1

theorem idxS_at : ∀ {ns : List Str} {i : Nat} {x : Str}, ns[i]? = some x → (∀ y ∈ ns.take i, y ≠ x) → idxS ns x = i
  | [], i, x, h, _ => by simp at h
  | y :: r, 0, x, h, _ => by simp at h; simp [idxS, h]
  | y :: r, i + 1, x, h, hn => by
    have h1 := hn y (by simp)
    have := idxS_at (ns := r) (i := i) (x := x) (by simpa using h) (fun z hz => hn z (by simp [hz]))
    simp [idxS, h1, this]

theorem idxS_none : ∀ {ns : List Str} {x : Str}, (∀ y ∈ ns, y ≠ x) → idxS ns x = ns.length
  | [], x, _ => rfl
  | y :: r, x, h => by
    have h1 := h y (by simp)
    have := idxS_none (ns := r) (x := x) (fun z hz => h z (by simp [hz]))
    simp [idxS, h1, this]

theorem idxS_lt : ∀ {ns : List Str} {x : Str}, idxS ns x < ns.length ↔ x ∈ ns
  | [], x => by simp [idxS]
  | y :: r, x => by
    have ih := idxS_lt (ns := r) (x := x)
    by_cases h : y = x
    · simp [idxS, h]
    · have h' : ¬ x = y := fun e => h e.symm
      simp [idxS, h, h', ih]

theorem idxS_get : ∀ {ns : List Str} {x : Str}, x ∈ ns → ns[idxS ns x]? = some x
  | [], x, h => by simp at h
  | y :: r, x, h => by
    by_cases e : y = x
    · simp [idxS, e]
    · have h' : ¬ x = y := fun q => e q.symm
      have := idxS_get (ns := r) (x := x) (by simpa [h'] using h)
      simp [idxS, e, this]

def idxI (ns : List Str) (x : Str) : Int := if idxS ns x < ns.length then (idxS ns x : Int) else -1

theorem indexOk (z : Bool) (ns : List Str) (x : Str) (h1 : ns.length ≤ 1048576) (H : Hp) : ACall Tryd.prog 40 [.d (.sl z 1 (ns.map encS)), .d (.str x)] H (fun r H' => r = .d (.int .i64 (idxI ns x)) ∧ H' = H) := by
  refine acall_fin Tryd.func40 cf40 (by simp [ir40]) fun hcl _ => ?_
  simp [ir40]
  refine LoopK_outR 0 (fun fr H' => (∀ y ∈ ns, y ≠ x) ∧ H' = H) (fun fr H' => fr 4 = .d (.int .i64 (idxI ns x)) ∧ H' = H) ?_ ?_ ?_
  · refine RangeK_of H.length ns.length (fun i fr H' => fr 0 = .d (.sl z 1 (ns.map encS)) ∧ fr 1 = .d (.str x) ∧ (∀ y ∈ ns.take i, y ≠ x) ∧ H' = H) (by omega) (by decide) (by simp) (by simp) ?_ ?_ ?_
    · simp [cut_self hcl]
    · rintro i fr H' hi f8 f7 ⟨f0, f1, hn, rfl⟩
      have hr := rowAt_map encS hi
      have hg : ns[i]? = some ns[i] := List.getElem?_eq_getElem hi
      have ht : ns.take (i + 1) = ns.take i ++ [ns[i]] := List.take_succ_eq_append_getElem hi
      simp only [encS] at hr
      generalize ns[i] = n at hr hg ht
      simp [f8, f0, f1, hr]
      refine BrK_split (fun h => ?_) (fun h => ?_)
      · have e : x = n := by simpa using h
        subst e
        have := idxS_at hg hn
        simp [idxI, this, hi]
      · have e : x ≠ n := by simpa using h
        simp
        refine NextK_of H'.length (Nat.le_refl _) (by simp [f8, f7]) ?_
        simp [f0, f1, cut_self hcl, ht]
        intro y hy
        rcases hy with hy | rfl
        · exact hn y hy
        · exact fun q => e q.symm
    · rintro fr H' f8 f7 ⟨f0, f1, hn, rfl⟩
      rw [List.take_of_length_le (Nat.le_refl _)] at hn
      simp
      exact fun y hy => hn y hy
  · rintro fr H' ⟨f4, rfl⟩
    simp
    simp [RetK, cut_self hcl, f4]
  · rintro fr H' ⟨hn, rfl⟩
    have := idxS_none hn
    simp
    simp [RetK, cut_self hcl, idxI, this]

theorem containsOk (z : Bool) (ns : List Str) (x : Str) (h1 : ns.length ≤ 1048576) (H : Hp) : ACall Tryd.prog 43 [.d (.sl z 1 (ns.map encS)), .d (.str x)] H (fun r H' => r = .d (.bool (decide (x ∈ ns))) ∧ H' = H) := by
  refine acall_fin Tryd.func43 cf43 (by simp [ir43]) fun hcl _ => ?_
  simp [ir43]
  refine CallK_of' (indexOk z ns x h1 _) ?_
  have : decide ((0 : Int) ≤ idxI ns x) = decide (x ∈ ns) := by
    by_cases h : x ∈ ns
    · have := idxS_lt.2 h
      simp [idxI, this, h]
    · have : ¬ idxS ns x < ns.length := fun q => h (idxS_lt.1 q)
      simp [idxI, this, h]
  simp [this]
  simp [RetK, cut_self hcl]

/-- the part of a name -/
def fieldV : V → Str → V × Bool
  | .mk k _ _ _ ns _ ps, x => if k = 3 ∧ idxS ns x < ns.length then match ps[idxS ns x]? with
    | some p => (p, true)
    | none => (V.nil, false) else (V.nil, false)

theorem fieldOk (v : V) (x : Str) (hv : v.Fit 1048576) (H : Hp) : ACall Tryd.prog 25 [v.a, .d (.str x)] H (fun r H' => r = .tup [(fieldV v x).1.a, .d (.bool (fieldV v x).2)] ∧ H' = H) := by
  obtain ⟨k, n, s, z, ns, y, ps, b1, b2, b3, bn, b4, b5⟩ := hv
  refine acall_fin Tryd.func25 cf25 (by simp [ir25]) fun hcl _ => ?_
  rw [V.a_mk]
  have h0 : V.nil.a = .agg [.d (.int .i64 0), .d (.int .i64 0), .d (.str []), .d (.sl true 1 []), .d (.sl true 5 [])] := by simp [V.nil, V.a_mk]
  simp [ir25]
  refine CallK_of' (indexOk z ns x b2 _) ?_
  by_cases hk : k = 3
  case neg =>
    simp [hk]
    simp [RetK, cut_app hcl, fieldV, hk, h0]
  by_cases hi : idxS ns x < ns.length
  case neg =>
    simp [hk, idxI, hi]
    simp [RetK, cut_app hcl, fieldV, hk, hi, h0]
  by_cases hp : idxS ns x < ps.length
  case neg =>
    have hp' : ps.length ≤ idxS ns x := by omega
    have hnn : ¬ ((idxS ns x : Int) < 0) := by omega
    have hg : ps[idxS ns x]? = none := List.getElem?_eq_none hp'
    simp [hk, idxI, hi, hp', hnn]
    simp [RetK, cut_app hcl, fieldV, hk, hi, hg, h0]
  have hr := rowAt_map V.enc hp
  have hg : ps[idxS ns x]? = some ps[idxS ns x] := List.getElem?_eq_getElem hp
  generalize ps[idxS ns x] = p at hr hg
  have hfv : fieldV (.mk k n s z ns y ps) x = (p, true) := by simp [fieldV, hk, hi, hg]
  rw [hfv]
  cases p with | mk k' n' s' z' ns' y' ps' =>
  simp only [V.a_mk, V.enc_mk] at hr ⊢
  have hp' : ¬ ps.length ≤ idxS ns x := by omega
  have hnn : ¬ ((idxS ns x : Int) < 0) := by omega
  simp [hk, idxI, hi, hp, hp', hr, hnn]
  simp [RetK, cut_app hcl]

/-- whether a value is what a type says, as far as that looks -/
def FitsV : V → Int → List Str → Nat → Prop
  | .mk k n _ _ ns _ _, tk, tns, tl => tk = 0 ∨ (tk = 3 ∧ k = 3 ∧ ∀ x ∈ tns, x ∈ ns) ∨ (tk = 4 ∧ k = 4 ∧ n = (tl : Int) - 1) ∨ (tk ≠ 0 ∧ tk ≠ 3 ∧ tk ≠ 4 ∧ k = tk)

theorem fitsOk (v : V) (tk : Int) (tz ty : Bool) (tns : List Str) (trows : List (List D)) (hv : v.Fit 1048576) (ht : tns.length ≤ 1048576) (hr : trows.length ≤ 1048576) (H : Hp) :
    ACall Tryd.prog 27 [v.a, .agg [.d (.int .i64 tk), .d (.sl tz 1 (tns.map encS)), .d (.sl ty 3 trows)]] H (fun r H' => r = .d (.bool (@decide (FitsV v tk tns trows.length) (Classical.propDecidable _))) ∧ H' = H) := by
  obtain ⟨k, n, s, z, ns, y, ps, b1, b2, b3, bn, b4, b5⟩ := hv
  refine acall_fin Tryd.func27 cf27 (by simp [ir27]) fun hcl _ => ?_
  rw [V.a_mk]
  by_cases h0 : tk = 0
  case pos =>
    have hF : FitsV (.mk k n s z ns y ps) tk tns trows.length := .inl h0
    simp [ir27, h0]
    subst h0
    simp [RetK, cut_app hcl, hF]
  by_cases h4 : tk = 4
  case pos =>
    have hw : IntKind.i64.wrap ((trows.length : Int) - 1) = trows.length - 1 := wrap_i64 (by omega) (by omega)
    have hF : FitsV (.mk k n s z ns y ps) tk tns trows.length ↔ k = 4 ∧ n = (trows.length : Int) - 1 := by simp [FitsV, h4]
    by_cases hk : k = 4
    · simp [ir27, h4, hk, hw]
      subst h4; subst hk
      simp [RetK, cut_app hcl, hF]
    · have hF' : ¬ FitsV (.mk k n s z ns y ps) tk tns trows.length := fun h => hk (hF.1 h).1
      simp [ir27, h4, hk]
      subst h4
      simp [RetK, cut_app hcl, hF']
  by_cases h3 : tk = 3
  case neg =>
    have hF : FitsV (.mk k n s z ns y ps) tk tns trows.length ↔ k = tk := by simp [FitsV, h0, h3, h4]
    simp [ir27, h0, h3, h4]
    simp [RetK, cut_app hcl, hF]
  subst h3
  simp [ir27]
  refine LoopK_outR 1 (fun fr H' => fr 2 = .ptr H.length 0 ∧ fr 3 = .ptr (H.length + 1) 0 ∧ (∀ x ∈ tns, k = 3 ∧ x ∈ ns) ∧ H' = H ++ [.box 30 [.d (.int .i64 k), .d (.int .i64 n), .d (.str s), .d (.sl z 1 (ns.map encS)), .d (.sl y 5 (ps.map V.enc))], .box 55 [.d (.int .i64 3), .d (.sl tz 1 (tns.map encS)), .d (.sl ty 3 trows)]])
    (fun fr H' => fr 4 = .d (.bool false) ∧ (∃ x ∈ tns, ¬ (k = 3 ∧ x ∈ ns)) ∧ ∃ X, H' = H ++ X) ?_ ?_ ?_
  · refine RangeK_of (H.length + 2) tns.length (fun i fr H' => fr 2 = .ptr H.length 0 ∧ fr 3 = .ptr (H.length + 1) 0 ∧ fr 14 = .d (.sl tz 1 (tns.map encS)) ∧ (∀ x ∈ tns.take i, k = 3 ∧ x ∈ ns) ∧ H' = H ++ [.box 30 [.d (.int .i64 k), .d (.int .i64 n), .d (.str s), .d (.sl z 1 (ns.map encS)), .d (.sl y 5 (ps.map V.enc))], .box 55 [.d (.int .i64 3), .d (.sl tz 1 (tns.map encS)), .d (.sl ty 3 trows)]]) (by omega) (by decide) (by simp) (by simp) ?_ ?_ ?_
    · simp [cut_appk hcl]
    · rintro i fr H' hi f16 f15 ⟨f2, f3, f14, hn, rfl⟩
      have hr := rowAt_map encS hi
      have hmem : tns[i] ∈ tns := List.getElem_mem hi
      have ht : tns.take (i + 1) = tns.take i ++ [tns[i]] := List.take_succ_eq_append_getElem hi
      simp only [encS] at hr
      generalize tns[i] = x at hr hmem ht
      simp [f16, f14, f2, hr]
      by_cases hk : k = 3
      · simp [hk, f2]
        refine CallK_of' (containsOk z ns x b2 _) ?_
        by_cases hx : x ∈ ns
        · simp [hx]
          refine NextK_of (H.length + 2) (Nat.le_refl _) (by simp [f16, f15]) ?_
          simp [f2, f3, f14, cut_appk hcl, ht, hk]
          intro q hq
          rcases hq with hq | rfl
          · exact (hn q hq).2
          · exact hx
        · simp [hx]
          exact ⟨x, hmem, fun _ => hx⟩
      · simp [hk]
        exact ⟨x, hmem⟩
    · rintro fr H' f16 f15 ⟨f2, f3, f14, hn, rfl⟩
      rw [List.take_of_length_le (Nat.le_refl _)] at hn
      simp [f2, f3]
      exact hn
  · rintro fr H' ⟨f4, ⟨x, hx, hno⟩, X, rfl⟩
    have : ¬ FitsV (.mk k n s z ns y ps) 3 tns trows.length := by
      simp [FitsV]
      intro hk
      exact ⟨x, hx, fun q => hno ⟨hk, q⟩⟩
    simp
    simp [RetK, cut_app hcl, f4, this]
  · rintro fr H' ⟨f2, f3, hn, rfl⟩
    have hF : FitsV (.mk k n s z ns y ps) 3 tns trows.length ↔ k = 3 := by
      simp [FitsV]
      exact fun _ x hx => (hn x hx).2
    simp [f2, f3]
    simp [RetK, cut_app hcl, hF]

/-- the same for records, whatever stands in the parts -/
theorem fitsOkM (v : V) (tz : Bool) (tns : List Str) (tl mi mo ml : Nat) (hv : v.Fit 1048576) (ht : tns.length ≤ 1048576) (H : Hp) :
    ACall Tryd.prog 27 [v.a, .agg [.d (.int .i64 3), .d (.sl tz 1 (tns.map encS)), .msl mi mo ml]] H (fun r H' => r = .d (.bool (@decide (FitsV v 3 tns tl) (Classical.propDecidable _))) ∧ H' = H) := by
  obtain ⟨k, n, s, z, ns, y, ps, b1, b2, b3, bn, b4, b5⟩ := hv
  refine acall_fin Tryd.func27 cf27 (by simp [ir27]) fun hcl _ => ?_
  rw [V.a_mk]
  simp [ir27]
  refine LoopK_outR 1 (fun fr H' => fr 2 = .ptr H.length 0 ∧ fr 3 = .ptr (H.length + 1) 0 ∧ (∀ x ∈ tns, k = 3 ∧ x ∈ ns) ∧ ∃ q : A, H' = H ++ [.box 30 [.d (.int .i64 k), .d (.int .i64 n), .d (.str s), .d (.sl z 1 (ns.map encS)), .d (.sl y 5 (ps.map V.enc))], .box 55 [.d (.int .i64 3), .d (.sl tz 1 (tns.map encS)), q]])
    (fun fr H' => fr 4 = .d (.bool false) ∧ (∃ x ∈ tns, ¬ (k = 3 ∧ x ∈ ns)) ∧ ∃ X, H' = H ++ X) ?_ ?_ ?_
  · refine RangeK_of (H.length + 2) tns.length (fun i fr H' => fr 2 = .ptr H.length 0 ∧ fr 3 = .ptr (H.length + 1) 0 ∧ fr 14 = .d (.sl tz 1 (tns.map encS)) ∧ (∀ x ∈ tns.take i, k = 3 ∧ x ∈ ns) ∧ ∃ q : A, H' = H ++ [.box 30 [.d (.int .i64 k), .d (.int .i64 n), .d (.str s), .d (.sl z 1 (ns.map encS)), .d (.sl y 5 (ps.map V.enc))], .box 55 [.d (.int .i64 3), .d (.sl tz 1 (tns.map encS)), q]]) (by omega) (by decide) (by simp) (by simp) ?_ ?_ ?_
    · simp [cut_appk hcl]
    · rintro i fr H' hi f16 f15 ⟨f2, f3, f14, hn, q, rfl⟩
      have hr := rowAt_map encS hi
      have hmem : tns[i] ∈ tns := List.getElem_mem hi
      have ht : tns.take (i + 1) = tns.take i ++ [tns[i]] := List.take_succ_eq_append_getElem hi
      simp only [encS] at hr
      generalize tns[i] = x at hr hmem ht
      simp [f16, f14, f2, hr]
      by_cases hk : k = 3
      · simp [hk, f2]
        refine CallK_of' (containsOk z ns x b2 _) ?_
        by_cases hx : x ∈ ns
        · simp [hx]
          refine NextK_of (H.length + 2) (Nat.le_refl _) (by simp [f16, f15]) ?_
          simp [f2, f3, f14, cut_appk hcl, ht, hk]
          intro q hq
          rcases hq with hq | rfl
          · exact (hn q hq).2
          · exact hx
        · simp [hx]
          exact ⟨x, hmem, fun _ => hx⟩
      · simp [hk]
        exact ⟨x, hmem⟩
    · rintro fr H' f16 f15 ⟨f2, f3, f14, hn, q, rfl⟩
      rw [List.take_of_length_le (Nat.le_refl _)] at hn
      simp [f2, f3]
      exact hn
  · rintro fr H' ⟨f4, ⟨x, hx, hno⟩, X, rfl⟩
    have : ¬ FitsV (.mk k n s z ns y ps) 3 tns tl := by
      simp [FitsV]
      intro hk
      exact ⟨x, hx, fun q => hno ⟨hk, q⟩⟩
    simp
    simp [RetK, cut_app hcl, f4, this]
  · rintro fr H' ⟨f2, f3, hn, q, rfl⟩
    have hF : FitsV (.mk k n s z ns y ps) 3 tns tl ↔ k = 3 := by
      simp [FitsV]
      exact fun _ x hx => (hn x hx).2
    simp [f2, f3]
    simp [RetK, cut_app hcl, hF]

end Go.Proofs.Zv

namespace Go.Proofs.Zv
open Go Go.Zam Go.Proofs
set_option maxRecDepth 100000
set_option linter.all false
set_option maxHeartbeats 1000000

/-- names, each behind the one ahead -/
def Incr (ns : List Str) : Prop := ∀ (j : Nat) (a b : Str), ns[j]? = some a → ns[j + 1]? = some b → Op.bytesLess a b = true

mutual
def V.Right : V → Prop
  | .mk k n s _ ns _ ps => (k = 1 ∧ s = [] ∧ ns.length + ps.length = 0) ∨ (k = 2 ∧ n = 0 ∧ ns.length + ps.length = 0) ∨ (k = 4 ∧ 0 ≤ n ∧ s = [] ∧ ns.length + ps.length = 0) ∨
      (k = 3 ∧ n = 0 ∧ s = [] ∧ ns.length = ps.length ∧ Incr ns ∧ V.Rights ps)
def V.Rights : List V → Prop
  | [] => True
  | p :: r => V.Right p ∧ V.Rights r
end
theorem V.Rights_iff : ∀ l : List V, V.Rights l ↔ ∀ p ∈ l, p.Right
  | [] => by simp [V.Rights]
  | p :: r => by simp [V.Rights, V.Rights_iff r]

theorem right_mk (k n : Int) (s : Str) (z : Bool) (ns : List Str) (y : Bool) (ps : List V) : (V.mk k n s z ns y ps).Right ↔
    (k = 1 ∧ s = [] ∧ ns.length + ps.length = 0) ∨ (k = 2 ∧ n = 0 ∧ ns.length + ps.length = 0) ∨ (k = 4 ∧ 0 ≤ n ∧ s = [] ∧ ns.length + ps.length = 0) ∨ (k = 3 ∧ n = 0 ∧ s = [] ∧ ns.length = ps.length ∧ Incr ns ∧ ∀ p ∈ ps, p.Right) := by
  rw [V.Right, V.Rights_iff]

theorem to_right (v : V) : v.to.Right ↔ v.Right := by
  induction v using V.ind with
  | h k n s z ns y ps ih =>
  rw [V.to_mk, right_mk, right_mk]
  have : (∀ p ∈ ps.map V.to, p.Right) ↔ ∀ p ∈ ps, p.Right := by
    constructor
    · exact fun h p hp => (ih p hp).1 (h _ (List.mem_map_of_mem hp))
    · rintro h q hq
      obtain ⟨p, hp, rfl⟩ := List.mem_map.1 hq
      exact (ih p hp).2 (h p hp)
  rw [this, List.length_map]

theorem incr_step {ns : List Str} {i : Nat} (h : i < ns.length) (hi : Incr (ns.take i)) (hb : ∀ a, 0 < i → ns[i - 1]? = some a → Op.bytesLess a ns[i] = true) : Incr (ns.take (i + 1)) := by
  intro j a b ha hb'
  rw [List.getElem?_take] at ha hb'
  split at hb'
  · rename_i h1
    split at ha
    · by_cases e : j + 1 = i
      · have e2 : j = i - 1 := by omega
        subst e2
        have : b = ns[i] := by rw [e, List.getElem?_eq_getElem h] at hb'; cases hb'; rfl
        subst this
        exact hb a (by omega) ha
      · exact hi j a b (by rw [List.getElem?_take, if_pos (by omega)]; exact ha) (by rw [List.getElem?_take, if_pos (by omega)]; exact hb')
    · cases ha
  · cases hb'

/-- what is asked of a value that may be, but for its names and parts -/
def Good1 (k n : Int) (s : Str) : Prop := (1 ≤ k ∧ k ≤ 4) ∧ (k ≠ 2 → s = []) ∧ (k = 2 ∨ k = 3 → n = 0) ∧ (k = 4 → 0 ≤ n)
def Good2 (k : Int) (ns : List Str) (ps : List V) : Prop := (k ≠ 3 → ns.length + ps.length = 0) ∧ ns.length = ps.length

theorem right_iff (k n : Int) (s : Str) (z : Bool) (ns : List Str) (y : Bool) (ps : List V) : (V.mk k n s z ns y ps).Right ↔ Good1 k n s ∧ Good2 k ns ps ∧ Incr ns ∧ ∀ p ∈ ps, p.Right := by
  rw [right_mk]
  constructor
  · have emp : ns.length + ps.length = 0 → ns = [] ∧ ps = [] := fun h => ⟨List.eq_nil_of_length_eq_zero (by omega), List.eq_nil_of_length_eq_zero (by omega)⟩
    have inil : Incr ([] : List Str) := fun j a b h => by simp at h
    rintro (⟨rfl, rfl, h⟩ | ⟨rfl, rfl, h⟩ | ⟨rfl, h0, rfl, h⟩ | ⟨rfl, rfl, rfl, h1, h2, h3⟩)
    · obtain ⟨rfl, rfl⟩ := emp h; exact ⟨by simp [Good1], by simp [Good2], inil, by simp⟩
    · obtain ⟨rfl, rfl⟩ := emp h; exact ⟨by simp [Good1], by simp [Good2], inil, by simp⟩
    · obtain ⟨rfl, rfl⟩ := emp h; exact ⟨by simp [Good1, h0], by simp [Good2], inil, by simp⟩
    · exact ⟨by simp [Good1], by simp [Good2, h1], h2, h3⟩
  · rintro ⟨⟨⟨g1, g2⟩, g3, g4, g5⟩, ⟨g6, g7⟩, g8, g9⟩
    by_cases h1 : k = 1
    · exact .inl ⟨h1, g3 (by omega), g6 (by omega)⟩
    · by_cases h2 : k = 2
      · exact .inr (.inl ⟨h2, g4 (.inl h2), g6 (by omega)⟩)
      · by_cases h4 : k = 4
        · exact .inr (.inr (.inl ⟨h4, g5 h4, g3 (by omega), g6 (by omega)⟩))
        · have h3 : k = 3 := by omega
          exact .inr (.inr (.inr ⟨h3, g4 (.inr h3), g3 (by omega), g7, g8, g9⟩))

theorem rrightOk (v : V) : v.Fit 1048576 → ∀ H : Hp, ACall Tryd.prog 9 [v.a] H (fun r H' => r = .d (.bool (@decide v.Right (Classical.propDecidable _))) ∧ H' = H) := by
  induction v using V.ind with
  | h k n s z ns y ps ih =>
  rintro ⟨_, _, _, _, _, _, _, b1, b2, b3, bn, b4, b5⟩ H
  refine acall_fin Tryd.func9 cf9 (by simp [ir9]) fun hcl _ => ?_
  rw [V.a_mk]
  have hR := right_iff k n s z ns y ps
  generalize V.mk k n s z ns y ps = v at hR
  have hw : IntKind.i64.wrap ((ns.length : Int) + ps.length) = ns.length + ps.length := wrap_i64 (by omega) (by omega)
  have hs : ((0 : Int) < s.length) ↔ s ≠ [] := by cases s <;> simp
  generalize hB : H ++ [Ob.box 25 [A.d (D.int IntKind.i64 k), A.d (D.int IntKind.i64 n), A.d (D.str s), A.d (D.sl z 1 (List.map encS ns)), A.d (D.sl y 5 (List.map V.enc ps))]] = B
  have hB0 : B[H.length]? = some (Ob.box 25 [A.d (D.int IntKind.i64 k), A.d (D.int IntKind.i64 n), A.d (D.str s), A.d (D.sl z 1 (List.map encS ns)), A.d (D.sl y 5 (List.map V.enc ps))]) := by rw [← hB]; simp
  have hBl : B.length = H.length + 1 := by rw [← hB]; simp
  have hBc : Hp.cut (H.length + 1) B = B := by rw [← hB, cut_appk hcl]; simp
  have hBz : Hp.cut H.length B = H := by rw [← hB, cut_app hcl]
  simp only [ir9]
  refine Seq_out (fun fr H' => fr 1 = .ptr H.length 0 ∧ H' = B) (fun _ _ => False) (by simp [hB]) (fun _ _ h => h.elim) ?_
  rintro fr H' ⟨f1, rfl⟩
  refine Seq_out (fun fr H2 => fr 1 = .ptr H.length 0 ∧ Good1 k n s ∧ H2 = H') (fun fr H2 => fr 2 = .d (.bool false) ∧ ¬ Good1 k n s ∧ H2 = H') ?_ ?_ ?_
  · by_cases g1 : k < 1
    · simp [f1, hB0, g1]
      simp [Good1]; omega
    by_cases g2 : 4 < k
    · simp [f1, hB0, g1, g2]
      simp [Good1]; omega
    by_cases g3 : k = 2
    · subst g3
      by_cases gn : n = 0
      · simp [f1, hB0, gn]
        simp [Good1]
      · simp [f1, hB0, gn]
        simp [Good1, gn]
    by_cases gs : s = []
    case neg =>
      have gs' : (0 : Int) < s.length := hs.2 gs
      have gs2 : 0 < s.length := by omega
      simp [f1, hB0, g1, g2, g3, gs', gs2, gs]
      simp [Good1, gs, g3]
    by_cases g4 : k = 3
    · subst g4
      by_cases gn : n = 0
      · simp [f1, hB0, gs, gn]
        simp [Good1]
      · simp [f1, hB0, gs, gn]
        simp [Good1, gn]
    by_cases g5 : k = 4
    · subst g5
      by_cases gn : n < 0
      · simp [f1, hB0, gs, gn]
        simp [Good1]; omega
      · simp [f1, hB0, gs, gn]
        simp [Good1]; omega
    simp [f1, hB0, gs, g1, g2, g3, g4, g5]
    simp [Good1, g3, g4, g5]; omega
  · rintro fr H2 ⟨f2, hn, rfl⟩
    have : ¬ v.Right := fun h => hn (hR.1 h).1
    simp [RetK, hBz, hBl, f2, this]
  rintro fr H2 ⟨f1, hg1, rfl⟩
  refine Seq_out (fun fr H3 => fr 1 = .ptr H.length 0 ∧ Good2 k ns ps ∧ H3 = H2) (fun fr H3 => fr 2 = .d (.bool false) ∧ ¬ Good2 k ns ps ∧ H3 = H2) ?_ ?_ ?_
  · by_cases g3 : k = 3
    · by_cases gl : ns.length = ps.length
      · simp [f1, hB0, g3, gl]
        simp [Good2, gl]
      · have gl' : ¬ (ns.length : Int) = ps.length := by omega
        simp [f1, hB0, g3, gl, gl']
        simp [Good2, gl]
    · by_cases gs : ns.length + ps.length = 0
      · have gl : ns.length = ps.length := by omega
        have l1 : ns.length = 0 := by omega
        have l2 : ps.length = 0 := by omega
        have w0 : IntKind.i64.wrap 0 = 0 := rfl
        simp [f1, hB0, g3, l1, l2, w0]
        exact ⟨fun _ => gs, gl⟩
      · have gs' : (0 : Int) < ns.length + ps.length := by omega
        simp [f1, hB0, g3, hw, gs']
        exact fun h => gs (h.1 g3)
  · rintro fr H3 ⟨f2, hn, rfl⟩
    have : ¬ v.Right := fun h => hn (hR.1 h).2.1
    simp [RetK, hBz, hBl, f2, this]
  rintro fr H3 ⟨f1, hg2, rfl⟩
  have gl := hg2.2
  simp
  refine LoopK_outR 0 (fun fr H4 => (Incr ns ∧ ∀ p ∈ ps, p.Right) ∧ H4 = H3) (fun fr H4 => fr 2 = .d (.bool false) ∧ ¬ (Incr ns ∧ ∀ p ∈ ps, p.Right) ∧ ∃ X, H4 = H3 ++ X) ?_ ?_ ?_
  · refine ForK_of (H.length + 1) ns.length (fun i fr H4 => fr 1 = .ptr H.length 0 ∧ Incr (ns.take i) ∧ (∀ p ∈ ps.take i, p.Right) ∧ H4 = H3) (by omega) (by decide) (by simp [hBl]) (by simp) ?_ ?_
    · simp [hBc, f1]
      intro j a b h; simp at h
    rintro i fr H4 hi f3 ⟨f1, hI, hA, rfl⟩
    simp [f3, f1, hB0]
    refine BrK_split (fun h => ?_) (fun h => ?_)
    · have hlt : i < ns.length := by simpa using h
      have hlp : i < ps.length := by omega
      have ra := rowAt_map encS hlt
      have rb := rowAt_map V.enc hlp
      have hx := ih ps[i] (List.getElem_mem hlp) (b5 _ (List.getElem_mem hlp)) H4
      have tp : ps.take (i + 1) = ps.take i ++ [ps[i]] := List.take_succ_eq_append_getElem hlp
      have hstep := incr_step hlt hI
      have hmp : ps[i] ∈ ps := List.getElem_mem hlp
      have hnI : ∀ a, 0 < i → ns[i - 1]? = some a → Op.bytesLess a ns[i] = false → ¬ Incr ns := fun a h0 ha hb hc => by
        have := hc (i - 1) a ns[i] ha (by rw [show i - 1 + 1 = i by omega]; exact List.getElem?_eq_getElem hlt)
        rw [hb] at this; cases this
      generalize ns[i] = nm at ra hstep hnI
      generalize ps[i] = p at rb hx tp hmp
      -- what is asked of the part
      have part : ∀ fr' : Fr, fr' 1 = .ptr H.length 0 → fr' 3 = .d (.int .i64 (i : Int)) → True := fun _ _ _ => trivial
      simp only [encS] at ra
      simp [f3, f1, hB0]
      refine GdK_split (by simp) (fun h0 => ?_) (fun h0 => ?_)
      · have hpos : 0 < i := by simpa using h0
        have hwm : IntKind.i64.wrap ((i : Int) - 1) = ((i - 1 : Nat) : Int) := by rw [wrap_i64 (by omega) (by omega)]; omega
        have hj : i - 1 < ns.length := by omega
        have rj := rowAt_map encS hj
        have hg : ns[i - 1]? = some ns[i - 1] := List.getElem?_eq_getElem hj
        simp only [encS] at rj
        generalize ns[i - 1] = nj at rj hg
        simp [f3, f1, hB0, ra, hwm, rj]
        cases hb : Op.bytesLess nj nm with
        | false =>
          have hno := hnI nj hpos hg hb
          have hle : (Op.bytesLess nm nj || decide (nm = nj)) = true := by
            cases hb2 : Op.bytesLess nm nj with
            | true => rfl
            | false => simp [bl_total nm nj hb2 hb]
          simp [hle]
          exact fun h => absurd h hno
        | true =>
          have hle : (Op.bytesLess nm nj || decide (nm = nj)) = false := by
            have h1 := bl_asymm hb
            have h2 : nm ≠ nj := fun e => by rw [e, bl_irrefl] at hb; cases hb
            simp [h1, h2]
          have hI2 := hstep (fun a _ ha => by rw [hg] at ha; cases ha; exact hb)
          cases p with | mk k1 n1 s1 z1 ns1 y1 ps1 =>
          simp only [V.a_mk, V.enc_mk] at rb hx
          simp [hle, f1, hB0, rb, f3]
          refine CallD_of hx ?_
          by_cases hp : (V.mk k1 n1 s1 z1 ns1 y1 ps1).Right
          · simp [hp]
            refine NextF_of (H.length + 1) (Nat.le_refl _) hlt (by simp [hBl, f3]) ?_
            simp [f1, hBc, tp]
            refine ⟨hI2, fun q hq => ?_⟩
            rcases hq with hq | rfl
            · exact hA q hq
            · exact hp
          · simp [hp]
            exact fun _ => ⟨_, hmp, hp⟩
      · have h00 : i = 0 := by simpa using h0
        have hI2 := hstep (fun a h => by omega)
        cases p with | mk k1 n1 s1 z1 ns1 y1 ps1 =>
        simp only [V.a_mk, V.enc_mk] at rb hx
        simp [f1, hB0, rb, f3]
        refine CallD_of hx ?_
        by_cases hp : (V.mk k1 n1 s1 z1 ns1 y1 ps1).Right
        · simp [hp]
          refine NextF_of (H.length + 1) (Nat.le_refl _) hlt (by simp [hBl, f3]) ?_
          simp [f1, hBc, tp]
          refine ⟨hI2, fun q hq => ?_⟩
          rcases hq with hq | rfl
          · exact hA q hq
          · exact hp
        · simp [hp]
          exact fun _ => ⟨_, hmp, hp⟩
    · have hii : i = ns.length := by have : ¬ i < ns.length := by simpa using h
                                     omega
      rw [hii, List.take_of_length_le (Nat.le_refl _)] at hI
      rw [hii, gl, List.take_of_length_le (Nat.le_refl _)] at hA
      simp
      exact ⟨hI, hA⟩
  · rintro fr H4 ⟨f2, hn, X, rfl⟩
    have : ¬ v.Right := fun h => hn (hR.1 h).2.2
    subst hB
    simp
    simp [RetK, cut_app hcl, f2, this]
  · rintro fr H4 ⟨hy, rfl⟩
    have : v.Right := hR.2 ⟨hg1, hg2, hy⟩
    simp
    simp [RetK, hBz, hBl, this]

end Go.Proofs.Zv

namespace Go.Proofs.Zv
open Go Go.Zam Go.Proofs
set_option maxRecDepth 100000
set_option linter.all false
set_option maxHeartbeats 1000000

theorem rec_names {ns : List Str} {ps : List V} (hl : ns.length = ps.length) (x : Str) : x ∈ (ssort cP (ns.zip ps)).map Prod.fst ↔ x ∈ ns := by
  rw [← ((ssort_perm cP_cmp (ns.zip ps)).map Prod.fst).mem_iff, List.map_fst_zip (by omega)]

theorem field_rec {ns : List Str} {ps : List V} (hl : ns.length = ps.length) (hd : ¬ Dup (ssort cP (ns.zip ps))) {i : Nat} (hi : i < ns.length) (hp : i < ps.length) :
    fieldV (.mk 3 0 [] true ((ssort cP (ns.zip ps)).map Prod.fst) true ((ssort cP (ns.zip ps)).map Prod.snd)) ns[i] = (ps[i], true) := by
  have hn := strict_of (ssort_spec cP_cmp (ns.zip ps)).1 hd
  have hm : (ns[i], ps[i]) ∈ ssort cP (ns.zip ps) := by
    rw [← (ssort_perm cP_cmp (ns.zip ps)).mem_iff]
    have : (ns.zip ps)[i]? = some (ns[i], ps[i]) := by simp [List.getElem?_zip_eq_some, hi, hp]
    exact List.mem_of_getElem? this
  generalize ssort cP (ns.zip ps) = S at hn hm
  generalize ns[i] = nm at hm
  generalize ps[i] = p at hm
  obtain ⟨q, hq, hS⟩ := List.getElem_of_mem hm
  have hf : (S.map Prod.fst)[q]? = some nm := by simp [hq, hS]
  have hidx : idxS (S.map Prod.fst) nm = q := by
    have h1 := idxS_get (List.mem_of_getElem? hf)
    generalize idxS (S.map Prod.fst) nm = j at h1
    obtain ⟨l1, g1⟩ := List.getElem?_eq_some_iff.1 h1
    obtain ⟨l2, g2⟩ := List.getElem?_eq_some_iff.1 hf
    refine Classical.byContradiction fun hne => ?_
    rcases Nat.lt_or_gt_of_ne hne with h | h
    · exact List.pairwise_iff_getElem.1 hn j q l1 l2 h (by rw [g1, g2])
    · exact List.pairwise_iff_getElem.1 hn q j l2 l1 h (by rw [g1, g2])
  have hq2 : (S.map Prod.snd)[q]? = some p := by simp [hq, hS]
  have hlt : q < (S.map Prod.fst).length := by simpa using hq
  simp only [fieldV, hidx, hlt, and_self, if_true, hq2]

theorem same_true {v w : V} (hv : v.Fit 1048576) (e : v.strip = w.strip) (H : Hp) : ACall Tryd.prog 26 [v.a, w.a] H (fun r H' => r = .d (.bool true) ∧ H' = H) := by
  have := sameOk v hv w H
  rwa [@decide_eq_true _ (Classical.propDecidable _) e] at this

theorem partsOk (z y : Bool) (ns : List Str) (ps : List V) (x : Str) (H : Hp) (h1 : ns.length ≤ 1048576) (h2 : ps.length ≤ 1048576) (h3 : ∀ x ∈ ns, x.length ≤ 1048576) (h4 : ∀ p ∈ ps, p.Fit 1048576) :
    ACall Tryd.prog 6 [.d (.sl z 1 (ns.map encS)), .d (.sl y 5 (ps.map V.enc)), .d (.str x)] H (fun r H' => r = .d (.bool true) ∧ H' = H) := by
  refine acall_fin Tryd.func6 cf6 (by simp [ir6]) fun hcl _ => ?_
  by_cases g1 : (30 : Int) < ns.length
  case pos =>
    simp [ir6, g1]
    refine CallK_of' (awakeOk _) ?_
    simp
    simp [RetK, cut_self hcl]
  by_cases g2 : (30 : Int) < ps.length
  case pos =>
    simp [ir6, g1, g2]
    refine CallK_of' (awakeOk _) ?_
    simp
    simp [RetK, cut_self hcl]
  by_cases g3 : (100 : Int) < x.length
  case pos =>
    simp [ir6, g1, g2, g3]
    refine CallK_of' (awakeOk _) ?_
    simp
    simp [RetK, cut_self hcl]
  simp [ir6, g1, g2, g3]
  refine LoopK_outR 0 (fun fr H' => fr 0 = .d (.sl z 1 (ns.map encS)) ∧ fr 2 = .d (.str x) ∧ fr 7 = .osl true 5 (ps.map (V.enc ∘ V.to)) H.length ∧ H' = H ++ [.tok ps.length 5 30])
    (fun fr H' => fr 6 = .d (.bool true) ∧ ∃ X, H' = H ++ X) ?_ ?_ ?_
  · refine RangeK_of (H.length + 1) ps.length (fun i fr H' => fr 0 = .d (.sl z 1 (ns.map encS)) ∧ fr 2 = .d (.str x) ∧ fr 31 = .d (.sl y 5 (ps.map V.enc)) ∧ fr 7 = .osl true 5 ((ps.map (V.enc ∘ V.to)).take i) H.length ∧ H' = H ++ [.tok i 5 30]) (by omega) (by decide) (by simp) (by simp) ?_ ?_ ?_
    · simp [cut_appk hcl]
    · rintro i fr H' hi f33 f32 ⟨f0, f2, f31, f7, rfl⟩
      have hr := rowAt_map V.enc hi
      have hv := h4 ps[i] (List.getElem_mem hi)
      have hl := lightOk ps[i] hv
      have hri := rrightOk ps[i] hv
      have hx := toOk ps[i] hv
      have ht := take_map_succ (V.enc ∘ V.to) hi
      generalize ps[i] = p at hr hl hri hx ht
      cases p with | mk k' n' s' z' ns' y' ps' =>
      simp only [V.a_mk, V.enc_mk, V.to_mk, Function.comp_apply] at hr hl hri hx ht
      have go : ∀ fr' : Fr, True := fun _ => trivial
      simp [f33, f31, hr]
      refine CallK_of (hl _) ?_
      rintro w H2 ⟨⟨c, rfl⟩, rfl⟩
      cases c with
      | false =>
        simp
        refine CallK_of' (awakeOk _) ?_
        simp
      | true =>
        simp
        refine CallK_of' (hri _) ?_
        simp
        refine BrK_split (fun h => ?_) (fun h => ?_)
        · simp
          refine CallK_of' (awakeOk _) ?_
          simp
        · simp [f7]
          refine CallK_of' (hx _) ?_
          have hm : min i ps.length = i := by omega
          have hc : (i + 1) * 80 ≤ 140737488355328 := by omega
          simp [appA, hm, hc, f7]
          refine NextK_of (H.length + 1) (Nat.le_refl _) (by simp [f33, f32]) ?_
          simp [f0, f2, f31, cut_appk hcl, ht]
    · rintro fr H' f33 f32 ⟨f0, f2, f31, f7, rfl⟩
      have hfull : (ps.map (V.enc ∘ V.to)).take ps.length = ps.map (V.enc ∘ V.to) := by rw [List.take_of_length_le (by simp)]
      simp [f0, f2, f7, hfull]
  · rintro fr H' ⟨f6, X, rfl⟩
    simp
    simp [RetK, cut_app hcl, f6]
  rintro fr H' ⟨f0, f2, f7, rfl⟩
  have q1 := recOk z true ns (ps.map V.to) h1 (by simpa using h2)
  rw [List.map_map] at q1
  simp [f0, f7]
  refine CallK_of' (q1 _).osl2 ?_
  by_cases hl : ns.length = ps.length
  case neg =>
    rw [recV_ne (by simpa using hl)]
    simp [V.nil, V.a_mk]
    refine CallK_of' (awakeOk _) ?_
    simp
    simp [RetK, cut_app hcl]
  have hl' : ns.length = (ps.map V.to).length := by simpa using hl
  by_cases hD : Dup (ssort cP (ns.zip (ps.map V.to)))
  case pos =>
    rw [recV_dup hl' hD]
    simp [V.nil, V.a_mk]
    refine CallK_of' (awakeOk _) ?_
    simp
    simp [RetK, cut_app hcl]
  rw [recV_ok hl' hD]
  have hfit := fit_rec (b := 1048576) (ps := ps.map V.to) h1 (by simpa using h2) h3 (fun p hp => by
    obtain ⟨q, hq, rfl⟩ := List.mem_map.1 hp
    exact fit_to q (h4 q hq))
  rw [recV_ok hl' hD] at hfit
  have hmem := fun x => rec_names hl' x
  have hfld : ∀ i (h : i < ns.length) (h' : i < ps.length), fieldV (.mk 3 0 [] true ((ssort cP (ns.zip (ps.map V.to))).map Prod.fst) true ((ssort cP (ns.zip (ps.map V.to))).map Prod.snd)) ns[i] = (ps[i].to, true) := fun i h h' => by
    have := field_rec hl' hD h (by simpa using h')
    simpa using this
  generalize (ssort cP (ns.zip (ps.map V.to))).map Prod.fst = A1 at hfit hmem hfld
  generalize (ssort cP (ns.zip (ps.map V.to))).map Prod.snd = A2 at hfit hfld
  have w1 := fun x H => fieldOk _ x hfit H
  have w2 := fun tz tns mi mo ml ht H => fitsOkM _ tz tns 1 mi mo ml hfit ht H
  have w3 := fun tk tz ty tns trows ht hr H => fitsOk _ tk tz ty tns trows hfit ht hr H
  have eM : ∀ n, FitsV (.mk 3 0 [] true A1 true A2) 3 [n] 1 ↔ n ∈ ns := fun n => by simp [FitsV, hmem]
  have e0 : FitsV (.mk 3 0 [] true A1 true A2) 0 [] 0 := .inl rfl
  have e3 : FitsV (.mk 3 0 [] true A1 true A2) 3 [] 0 := .inr (.inl ⟨rfl, rfl, by simp⟩)
  have eI : ¬ FitsV (.mk 3 0 [] true A1 true A2) 1 [] 0 := by simp [FitsV]
  have w0 := w3 0 true true [] [] (by simp) (by simp)
  have w4 := w3 3 true true [] [] (by simp) (by simp)
  have w5 := w3 1 true true [] [] (by simp) (by simp)
  simp [e0, e3, eI] at w0 w4 w5
  simp only [V.a_mk] at w0 w1 w2 w4 w5
  simp [V.a_mk, f0]
  refine LoopK_outR 2 (fun fr H' => fr 2 = .d (.str x) ∧ fr 10 = .ptr (H.length + 1) 0 ∧ fr 12 = .d (.bool (decide (x ∈ ns))) ∧ H' = H ++ [.tok ps.length 5 30, .box 30 [.d (.int .i64 3), .d (.int .i64 0), .d (.str []), .d (.sl true 1 (A1.map encS)), .d (.sl true 5 (A2.map V.enc))]])
    (fun _ _ => False) ?_ (fun _ _ h => h.elim) ?_
  · refine RangeK_of (H.length + 2) ns.length (fun i fr H' => fr 2 = .d (.str x) ∧ fr 7 = .osl true 5 (ps.map (V.enc ∘ V.to)) H.length ∧ fr 10 = .ptr (H.length + 1) 0 ∧ fr 61 = .d (.sl z 1 (ns.map encS)) ∧ fr 12 = .d (.bool (decide (x ∈ ns.take i))) ∧ H' = H ++ [.tok ps.length 5 30, .box 30 [.d (.int .i64 3), .d (.int .i64 0), .d (.str []), .d (.sl true 1 (A1.map encS)), .d (.sl true 5 (A2.map V.enc))]]) (by omega) (by decide) (by simp) (by simp) ?_ ?_ ?_
    · simp [f0, f2, f7, cut_appk hcl]
    · rintro i fr H' hi f63 f62 ⟨f2, f7, f10, f61, f12, rfl⟩
      have hip : i < ps.length := by omega
      have ra := rowAt_map encS hi
      have rb := rowAt_map (V.enc ∘ V.to) hip
      have hF := hfld i hi hip
      have hin : FitsV (.mk 3 0 [] true A1 true A2) 3 [ns[i]] 1 := (eM _).2 (List.getElem_mem hi)
      have ht : ns.take (i + 1) = ns.take i ++ [ns[i]] := List.take_succ_eq_append_getElem hi
      have hfp := fit_to _ (h4 ps[i] (List.getElem_mem hip))
      generalize ns[i] = nm at ra hF hin ht
      simp only [Function.comp_apply] at rb
      generalize ps[i].to = p at rb hF hfp
      have c1 := w1 nm
      rw [hF] at c1
      have c2 := fun mi mo ml H => w2 false [nm] mi mo ml (by simp) H
      simp [hin, encS] at c2
      have c3 := same_true hfp rfl
      cases p with | mk k' n' s' z' ns' y' ps' =>
      simp only [V.a_mk, V.enc_mk, encS] at ra rb c1 c3
      simp [f63, f61, f10, ra]
      refine CallK_of' (c1 _) ?_
      simp [f7, rb]
      refine CallD_of (c3 _) ?_
      simp [f10]
      refine CallD_of (c2 _ _ _ _) ?_
      simp [f12]
      refine GdK_split (by simp) (fun h => ?_) (fun h => ?_)
      · have h' : x ∉ ns.take i := by simpa using h
        simp [f2]
        refine NextK_of (H.length + 2) (by omega) (by simp [f63, f62]) ?_
        simp [f2, f7, f10, f61, cut_appk hcl, ht, h', eq_comm]
      · have h' : x ∈ ns.take i := by simpa using h
        simp
        refine NextK_of (H.length + 2) (by omega) (by simp [f63, f62]) ?_
        simp [f2, f7, f10, f61, cut_appk hcl, ht, h']
    · rintro fr H' f63 f62 ⟨f2, f7, f10, f61, f12, rfl⟩
      rw [List.take_of_length_le (Nat.le_refl _)] at f12
      simp [f2, f10, f12]
  rintro fr H' ⟨f2, f10, f12, rfl⟩
  have c6 := fun mi mo ml H => w2 false [x] mi mo ml (by simp) H
  simp [eM, encS] at c6
  simp
  refine CallD_of (awakeOk _) ?_
  simp [f2, f10]
  refine CallD_of (c6 _ _ _ _) ?_
  simp [f12, f10]
  refine CallD_of (w0 _) ?_
  simp [f10]
  refine CallD_of (w4 _) ?_
  simp [f10]
  refine CallD_of (w5 _) ?_
  simp
  simp [RetK, cut_app hcl]

end Go.Proofs.Zv

namespace Go.Proofs.Zv
open Go Go.Zam Go.Proofs
set_option maxRecDepth 100000
set_option linter.all false

abbrev Pu := Str × U
def cU (a b : Pu) : Int := cmpStr a.1 b.1
theorem cU_cmp : Cmp cU := cmpStr_cmp.on Prod.fst
theorem cU_lt {a b : Pu} : cU a b < 0 ↔ Op.bytesLess a.1 b.1 = true := cmpStr_lt
theorem cU_zero {a b : Pu} : cU a b = 0 ↔ a.1 = b.1 := cmpStr_zero

mutual
def U.Right : U → Prop
  | .mk k n s ns ps => Good1 k n s ∧ ((k ≠ 3 → ns.length + ps.length = 0) ∧ ns.length = ps.length) ∧ Incr ns ∧ U.Rights ps
def U.Rights : List U → Prop
  | [] => True
  | p :: r => U.Right p ∧ U.Rights r
end
theorem U.Rights_iff : ∀ l : List U, U.Rights l ↔ ∀ p ∈ l, p.Right
  | [] => by simp [U.Rights]
  | p :: r => by simp [U.Rights, U.Rights_iff r]
theorem uright_mk (k n : Int) (s : Str) (ns : List Str) (ps : List U) : (U.mk k n s ns ps).Right ↔ Good1 k n s ∧ ((k ≠ 3 → ns.length + ps.length = 0) ∧ ns.length = ps.length) ∧ Incr ns ∧ ∀ p ∈ ps, p.Right := by
  rw [U.Right, U.Rights_iff]

theorem right_strip (v : V) : v.strip.Right ↔ v.Right := by
  induction v using V.ind with
  | h k n s z ns y ps ih =>
  rw [V.strip_mk, uright_mk, right_iff, List.length_map]
  have : (∀ p ∈ ps.map V.strip, p.Right) ↔ ∀ p ∈ ps, p.Right := by
    constructor
    · exact fun h p hp => (ih p hp).1 (h _ (List.mem_map_of_mem hp))
    · rintro h q hq
      obtain ⟨p, hp, rfl⟩ := List.mem_map.1 hq
      exact (ih p hp).2 (h p hp)
  rw [this]
  rfl

def ren (f t x : Str) : Str := if x = f then t else x

mutual
def U.has (t : Str) : U → Prop
  | .mk _ _ _ ns ps => t ∈ ns ∨ U.hass t ps
def U.hass (t : Str) : List U → Prop
  | [] => False
  | p :: r => U.has t p ∨ U.hass t r
end
theorem U.hass_iff (t : Str) : ∀ l : List U, U.hass t l ↔ ∃ p ∈ l, p.has t
  | [] => by simp [U.hass]
  | p :: r => by simp [U.hass, U.hass_iff t r]

mutual
def U.named (f t : Str) : U → Option U
  | .mk k n s ns ps => if k = 3 then
      match U.nameds f t ps with
      | some qs => if (ns.map (ren f t)).Nodup then some (.mk 3 0 [] ((ssort cU ((ns.map (ren f t)).zip qs)).map Prod.fst) ((ssort cU ((ns.map (ren f t)).zip qs)).map Prod.snd)) else none
      | none => none
    else some (.mk k n s ns ps)
def U.nameds (f t : Str) : List U → Option (List U)
  | [] => some []
  | p :: r => match U.named f t p, U.nameds f t r with
    | some q, some qs => some (q :: qs)
    | _, _ => none
end

theorem nameds_some (f t : Str) : ∀ {l qs : List U}, U.nameds f t l = some qs → qs.length = l.length ∧ ∀ (i : Nat) (p q : U), l[i]? = some p → qs[i]? = some q → U.named f t p = some q
  | [], qs, h => by simp [U.nameds] at h; subst h; simp
  | p :: r, qs, h => by
    simp only [U.nameds] at h
    split at h
    · rename_i q qs' h1 h2
      cases h
      obtain ⟨e1, e2⟩ := nameds_some f t h2
      refine ⟨by simp [e1], fun i p' q' hp hq => ?_⟩
      cases i with
      | zero => simp at hp hq; subst hp; subst hq; exact h1
      | succ i => exact e2 i p' q' (by simpa using hp) (by simpa using hq)
    · cases h

theorem nameds_of (f t : Str) (bk : U → U) : ∀ {l : List U}, (∀ p ∈ l, U.named f t p = some (bk p)) → U.nameds f t l = some (l.map bk)
  | [], _ => rfl
  | p :: r, h => by
    rw [U.nameds, h p (by simp), nameds_of f t bk fun q hq => h q (by simp [hq])]; rfl

theorem incr_pairwise : ∀ {ns : List Str}, Incr ns → ns.Pairwise fun a b => Op.bytesLess a b = true
  | [], _ => .nil
  | a :: r, h => by
    have h' : Incr r := fun j x y hx hy => h (j + 1) x y (by simpa using hx) (by simpa using hy)
    have ih := incr_pairwise h'
    refine List.pairwise_cons.2 ⟨fun y hy => ?_, ih⟩
    cases r with
    | nil => simp at hy
    | cons b r =>
      have hab : Op.bytesLess a b = true := h 0 a b rfl rfl
      rcases List.mem_cons.1 hy with rfl | hy'
      · exact hab
      · exact bl_trans a b y hab ((List.pairwise_cons.1 ih).1 y hy')

theorem incr_nodup {ns : List Str} (h : Incr ns) : ns.Nodup :=
  (incr_pairwise h).imp fun {a b} hab e => by rw [e, bl_irrefl] at hab; cases hab

theorem sorted_incr {S : List Pu} (hs : Sorted cU S) (hn : (S.map Prod.fst).Nodup) : Incr (S.map Prod.fst) := by
  intro j a b ha hb
  simp only [List.getElem?_map, Option.map_eq_some_iff] at ha hb
  obtain ⟨p, hp, rfl⟩ := ha
  obtain ⟨q, hq, rfl⟩ := hb
  obtain ⟨l1, g1⟩ := List.getElem?_eq_some_iff.1 hp
  obtain ⟨l2, g2⟩ := List.getElem?_eq_some_iff.1 hq
  have h1 : cU p q ≤ 0 := by have := List.pairwise_iff_getElem.1 hs j (j + 1) l1 l2 (by omega); rw [g1, g2] at this; exact this
  have h2 : cU p q ≠ 0 := fun e => by
    have := List.pairwise_iff_getElem.1 hn j (j + 1) (by simpa using l1) (by simpa using l2) (by omega)
    simp [g1, g2] at this
    exact this (cU_zero.1 e)
  exact cU_lt.1 (by omega)

/-- rows of the same pairs, no name twice, are sorted alike -/
theorem perm_alk {L L' : List Pu} (hp : L.Perm L') (hn : (L.map Prod.fst).Nodup) : Alk cU L L' := by
  intro x
  have h1 : (cls cU x L).Perm (cls cU x L') := hp.filter _
  have h2 : (cls cU x L).length ≤ 1 := by
    clear h1 hp
    induction L with
    | nil => simp [cls]
    | cons p r ih =>
      simp only [List.map_cons, List.nodup_cons] at hn
      have ih := ih hn.2
      simp only [cls, List.filter_cons]
      split
      · rename_i hx
        have hx' : x.1 = p.1 := cU_zero.1 (by simpa using hx)
        have : r.filter (fun y => decide (cU x y = 0)) = [] := by
          rw [List.filter_eq_nil_iff]
          intro y hy hc
          have : x.1 = y.1 := cU_zero.1 (by simpa using hc)
          exact hn.1 (by rw [← hx', this]; exact List.mem_map_of_mem hy)
        simp [this]
      · exact ih
  match hc : cls cU x L, h2 with
  | [], _ => rw [hc] at h1; exact (List.nil_perm.1 h1).symm
  | [a], _ => rw [hc] at h1; exact List.singleton_perm.1 h1

theorem zip_map_pair {α β γ δ : Type} (g : α → γ) (h : β → δ) (S : List (α × β)) : ((S.map Prod.fst).map g).zip ((S.map Prod.snd).map h) = S.map fun p => (g p.1, h p.2) := by
  induction S with
  | nil => rfl
  | cons p r ih => simp only [List.map_cons, List.zip_cons_cons, ih]

theorem zip_sorted {ns : List Str} {ps : List U} (h : Incr ns) : Sorted cU (ns.zip ps) := by
  have := incr_pairwise h
  clear h
  induction ns generalizing ps with
  | nil => simp [Sorted]
  | cons a r ih =>
    cases ps with
    | nil => simp [Sorted]
    | cons p ps =>
      obtain ⟨h1, h2⟩ := List.pairwise_cons.1 this
      refine Sorted.cons.2 ⟨fun y hy => ?_, ih h2⟩
      have := cU_lt (a := (a, p)) (b := y).2 (h1 y.1 (List.of_mem_zip hy).1)
      omega

/-- THERE AND BACK AGAIN -/
theorem named_back (f t : Str) (u : U) : ∀ a, u.Right → U.named f t u = some a → ¬ u.has t → a.Right ∧ U.named t f a = some u := by
  induction u using U.ind with
  | h k n s ns ps ih =>
  intro a hr ha hh
  by_cases hk : k = 3
  case neg =>
    rw [U.named, if_neg hk] at ha
    cases ha
    exact ⟨hr, by rw [U.named, if_neg hk]⟩
  subst hk
  rw [uright_mk] at hr
  obtain ⟨⟨g1, g2, g3, g4⟩, ⟨-, hl⟩, hI, hA⟩ := hr
  have hn0 : n = 0 := g3 (.inr rfl)
  have hs0 : s = [] := g2 (by omega)
  subst hn0; subst hs0
  rw [U.has, U.hass_iff] at hh
  rw [U.named, if_pos rfl] at ha
  split at ha
  · rename_i qs hq
    split at ha
    · rename_i hN
      cases ha
      obtain ⟨hql, hqa⟩ := nameds_some f t hq
      have hS := ssort_spec cU_cmp ((ns.map (ren f t)).zip qs)
      have hP := ssort_perm cU_cmp ((ns.map (ren f t)).zip qs)
      have hfst : ((ns.map (ren f t)).zip qs).map Prod.fst = ns.map (ren f t) := List.map_fst_zip (by simp; omega)
      have hSn : ((ssort cU ((ns.map (ren f t)).zip qs)).map Prod.fst).Nodup := by
        rw [← (hP.map Prod.fst).nodup_iff, hfst]; exact hN
      have hSl : (ssort cU ((ns.map (ren f t)).zip qs)).length = ns.length := by rw [ssort_length cU_cmp]; simp; omega
      -- each part, there and back
      have hback : ∀ q ∈ qs, q.Right ∧ ∃ p ∈ ps, U.named t f q = some p := fun q hq' => by
        obtain ⟨i, hi, rfl⟩ := List.getElem_of_mem hq'
        have hip : i < ps.length := by omega
        have := hqa i ps[i] qs[i] (List.getElem?_eq_getElem hip) (List.getElem?_eq_getElem hi)
        have hm := List.getElem_mem hip
        obtain ⟨r1, r2⟩ := ih ps[i] hm qs[i] (hA _ hm) this (fun h => hh (.inr ⟨_, hm, h⟩))
        exact ⟨r1, ps[i], hm, r2⟩
      let bk : U → U := fun q => (U.named t f q).getD q
      have hbk : ∀ q ∈ qs, U.named t f q = some (bk q) := fun q hq' => by
        obtain ⟨-, p, -, e⟩ := hback q hq'
        simp only [bk, e, Option.getD_some]
      have hbi : qs.map bk = ps := by
        refine List.ext_getElem (by simp [hql]) fun i h1 h2 => ?_
        have hi : i < qs.length := by simpa using h1
        have := hqa i ps[i] qs[i] (List.getElem?_eq_getElem h2) (List.getElem?_eq_getElem hi)
        have hm := List.getElem_mem h2
        have r2 := (ih ps[i] hm qs[i] (hA _ hm) this (fun h => hh (.inr ⟨_, hm, h⟩))).2
        simp only [List.getElem_map, bk, r2, Option.getD_some]
      have hrr : (ns.map (ren f t)).map (ren t f) = ns := by
        rw [List.map_map]
        conv => rhs; rw [← List.map_id ns]
        refine List.map_congr_left fun x hx => ?_
        have hxt : x ≠ t := fun e => hh (.inl (e ▸ hx))
        simp only [Function.comp_apply, ren, id_eq]
        by_cases e : x = f
        · simp [e]
        · simp [e, hxt]
      have hzip : ((ns.map (ren f t)).zip qs).map (fun p => (ren t f p.1, bk p.2)) = ns.zip ps := by
        have h1 : ((ns.map (ren f t)).zip qs).map Prod.snd = qs := List.map_snd_zip (by simp; omega)
        rw [← zip_map_pair (ren t f) bk, hfst, h1, hrr, hbi]
      have hmem : ∀ p ∈ ssort cU ((ns.map (ren f t)).zip qs), p.2 ∈ qs := fun p hp => (List.of_mem_zip (hP.mem_iff.2 hp)).2
      refine ⟨?_, ?_⟩
      · rw [uright_mk]
        refine ⟨⟨by omega, by simp, by simp, by simp⟩, ⟨by simp, by simp⟩, sorted_incr hS.1 hSn, fun p hp => ?_⟩
        obtain ⟨q, hq', rfl⟩ := List.mem_map.1 hp
        exact (hback _ (hmem q hq')).1
      · rw [U.named, if_pos rfl, nameds_of t f bk (fun p hp => by
          obtain ⟨q, hq', rfl⟩ := List.mem_map.1 hp
          exact hbk _ (hmem q hq'))]
        have hperm : ((ssort cU ((ns.map (ren f t)).zip qs)).map fun p => (ren t f p.1, bk p.2)).Perm (ns.zip ps) := by
          rw [← hzip]; exact (hP.map _).symm
        have hfz : (ns.zip ps).map Prod.fst = ns := List.map_fst_zip (by omega)
        have hnd : ((ns.zip ps).map Prod.fst).Nodup := by rw [hfz]; exact incr_nodup hI
        have hnd2 : (((ssort cU ((ns.map (ren f t)).zip qs)).map Prod.fst).map (ren t f)).Nodup := by
          have h1 := (hperm.map Prod.fst).nodup_iff.2 hnd
          simpa [List.map_map, Function.comp_def] using h1
        simp only [if_pos hnd2]
        rw [zip_map_pair (ren t f) bk]
        have hsort : ssort cU ((ssort cU ((ns.map (ren f t)).zip qs)).map fun p => (ren t f p.1, bk p.2)) = ns.zip ps := by
          rw [ssort_alk cU_cmp (perm_alk hperm.symm hnd), ssort_sorted cU_cmp (zip_sorted hI)]
        rw [hsort, hfz, List.map_snd_zip (by omega)]
    · cases ha
  · cases ha

end Go.Proofs.Zv

namespace Go.Proofs.Zv
open Go Go.Zam Go.Proofs
set_option maxRecDepth 100000
set_option linter.all false
set_option maxHeartbeats 1000000

/-- what Named yields, for what it should be -/
def NamedW : Option U → V → Prop
  | some u, w => w.strip = u
  | none, w => w = V.nil

theorem nameds_snoc (f t : Str) : ∀ {l qs : List U} {p q : U}, U.nameds f t l = some qs → U.named f t p = some q → U.nameds f t (l ++ [p]) = some (qs ++ [q])
  | [], qs, p, q, h, hp => by simp [U.nameds] at h; subst h; simp [U.nameds, hp]
  | x :: r, qs, p, q, h, hp => by
    simp only [U.nameds] at h
    split at h
    · rename_i q1 qs1 h1 h2
      cases h
      rw [List.cons_append, U.nameds, h1, nameds_snoc f t h2 hp]; rfl
    · cases h

theorem nameds_none (f t : Str) : ∀ {l : List U} {p : U}, p ∈ l → U.named f t p = none → U.nameds f t l = none
  | [], p, h, _ => by simp at h
  | x :: r, p, h, hp => by
    rw [U.nameds]
    rcases List.mem_cons.1 h with rfl | h
    · rw [hp]
    · rw [nameds_none f t h hp]
      split
      · rename_i h2; cases h2
      · rfl

def onU (p : Pr) : Pu := (p.1, p.2.strip)

theorem zip_onU (ns : List Str) (ws : List V) : ns.zip (ws.map V.strip) = (ns.zip ws).map onU := by
  induction ns generalizing ws with
  | nil => simp
  | cons n ns ih =>
    cases ws with
    | nil => simp
    | cons p ws => simp [ih, onU]

theorem named_rec {f t : Str} {n : Int} {s : Str} {ns : List Str} {ps : List U} {ws : List V} (hl : ns.length = ws.length) (h : U.nameds f t ps = some (ws.map V.strip)) :
    NamedW (U.named f t (.mk 3 n s ns ps)) (recV (ns.map (ren f t)) ws).1 ∧ decide ((recV (ns.map (ren f t)) ws).2 = 0) = (U.named f t (.mk 3 n s ns ps)).isSome := by
  have hl' : (ns.map (ren f t)).length = ws.length := by simpa using hl
  have hfst : ((ns.map (ren f t)).zip ws).map Prod.fst = ns.map (ren f t) := List.map_fst_zip (by omega)
  have hd := dup_iff ((ns.map (ren f t)).zip ws)
  rw [hfst] at hd
  rw [U.named, if_pos rfl, h]
  by_cases hn : (ns.map (ren f t)).Nodup
  · have hD : ¬ Dup (ssort cP ((ns.map (ren f t)).zip ws)) := fun h => hd.1 h hn
    rw [recV_ok hl' hD]
    simp only [hn, if_true]
    refine ⟨?_, by simp⟩
    have hs := ssort_map (c := cP) (d := cU) (g := onU) (fun _ _ => rfl) ((ns.map (ren f t)).zip ws)
    rw [zip_onU, hs]
    show V.strip _ = _
    rw [V.strip_mk, List.map_map, List.map_map, List.map_map]
    rfl
  · rw [recV_dup hl' (hd.2 hn)]
    simp only [hn, if_false]
    exact ⟨rfl, by simp⟩

theorem ren_len {f t x : Str} {b : Nat} (ht : t.length ≤ b) (hx : x.length ≤ b) : (ren f t x).length ≤ b := by
  unfold ren; split <;> assumption

theorem namedOk (f t : Str) (ht : t.length ≤ 1048576) (v : V) : v.Fit 1048576 → v.Right → ∀ H, ACall Tryd.prog 21 [v.a, .d (.str f), .d (.str t)] H (fun r H' => (∃ w : V, r = .tup [w.a, .d (.bool (U.named f t v.strip).isSome)] ∧ w.Fit 1048576 ∧ NamedW (U.named f t v.strip) w) ∧ H' = H) := by
  induction v using V.ind with
  | h k n s z ns y ps ih =>
  intro hf hR H
  have hf0 := hf
  obtain ⟨_, _, _, _, _, _, _, b1, b2, b3, bn, b4, b5⟩ := hf
  refine acall_fin Tryd.func21 cf21 (by simp [ir21]) fun hcl _ => ?_
  by_cases hk : k = 3
  case neg =>
    have hN : U.named f t (V.mk k n s z ns y ps).strip = some (V.mk k n s z ns y ps).strip := by rw [V.strip_mk, U.named, if_neg hk]
    rw [V.a_mk]
    simp [ir21, hk]
    simp [RetK, cut_app hcl]
    rw [hN]
    exact ⟨.mk k n s z ns y ps, ⟨(V.a_mk ..).symm, rfl⟩, hf0, rfl⟩
  subst hk
  obtain ⟨-, ⟨-, hl⟩, -, hA⟩ := (right_iff ..).1 hR
  rw [V.a_mk]
  simp [ir21]
  rw [V.strip_mk]
  refine LoopK_outR 0 (fun fr H' => fr 6 = .ptr (H.length + 1) 0 ∧ ∃ ws : List V, ws.length = ns.length ∧ (∀ w ∈ ws, w.Fit 1048576) ∧ U.nameds f t (ps.map V.strip) = some (ws.map V.strip) ∧ fr 8 = .osl true 1 ((ns.map (ren f t)).map encS) (H.length + 2) ∧ fr 9 = .osl true 5 (ws.map V.enc) (H.length + 3) ∧
      ∃ q a b, H' = H ++ [q, .box 30 (V.nil.enc.map .d), a, b])
    (fun fr H' => U.nameds f t (ps.map V.strip) = none ∧ fr 6 = .ptr (H.length + 1) 0 ∧ fr 7 = .d (.bool false) ∧ ∃ q X, H' = H ++ q :: Ob.box 30 (V.nil.enc.map .d) :: X) ?_ ?_ ?_
  · refine RangeK_of (H.length + 4) ns.length (fun i fr H' => fr 1 = .d (.str f) ∧ fr 2 = .d (.str t) ∧ fr 3 = .ptr H.length 0 ∧ fr 6 = .ptr (H.length + 1) 0 ∧ fr 21 = .d (.sl z 1 (ns.map encS)) ∧ fr 8 = .osl true 1 ((ns.map (encS ∘ ren f t)).take i) (H.length + 2) ∧
      ∃ ws : List V, ws.length = i ∧ (∀ w ∈ ws, w.Fit 1048576) ∧ U.nameds f t ((ps.map V.strip).take i) = some (ws.map V.strip) ∧ fr 9 = .osl true 5 (ws.map V.enc) (H.length + 3) ∧
      H' = H ++ [.box 30 [.d (.int .i64 3), .d (.int .i64 n), .d (.str s), .d (.sl z 1 (ns.map encS)), .d (.sl y 5 (ps.map V.enc))], .box 30 (V.nil.enc.map .d), .tok i 1 9, .tok i 5 30]) (by omega) (by decide) (by simp) (by simp) ?_ ?_ ?_
    · simp [cut_appk hcl, V.enc_nil]
      simp [U.nameds]
    · rintro i fr H' hi f23 f22 ⟨f1, f2, f3, f6, f21, f8, ws, hwl, hwf, hws, f9, rfl⟩
      have hip : i < ps.length := by omega
      have hip' : ¬ ps.length ≤ i := by omega
      have ra := rowAt_map encS hi
      have rb := rowAt_map V.enc hip
      have hm := List.getElem_mem hip
      have hx := ih ps[i] hm (b5 _ hm) (hA _ hm)
      have tn := take_map_succ (encS ∘ ren f t) hi
      have tp := take_map_succ V.strip hip
      have hmem : ps[i].strip ∈ ps.map V.strip := List.mem_map_of_mem hm
      generalize ns[i] = nm at ra tn
      generalize ps[i] = p at rb hx tp hmem
      cases p with | mk k' n' s' z' ns' y' ps' =>
      simp only [V.a_mk, V.enc_mk, encS, Function.comp_apply] at ra rb hx tn
      have c1 : (i + 1) * 16 ≤ 140737488355328 := by omega
      have c2 : (i + 1) * 80 ≤ 140737488355328 := by omega
      have hmn : min i ns.length = i := by omega
      have fin : ∀ (fr' : Fr) (nm2 : Str), nm2 = ren f t nm → True := fun _ _ _ => trivial
      simp [f23, f21, ra, f1]
      refine BrK_split (fun h => ?_) (fun h => ?_)
      · have e : nm = f := by simpa using h
        have er : ren f t nm = t := by simp [ren, e]
        rw [er] at tn
        simp [f2, f3, hip', rb, f1]
        refine CallK_of (hx _) ?_
        rintro x H2 ⟨⟨w, rfl, hwF, hwR⟩, rfl⟩
        cases w with | mk kw nw sw zw nsw yw psw =>
        simp [V.a_mk]
        cases hN : U.named f t (V.mk k' n' s' z' ns' y' ps').strip with
        | none =>
          simp [f6, V.enc_nil]
          exact nameds_none f t hmem hN
        | some u =>
          rw [hN] at hwR
          have hw : _ = u := hwR
          simp [f8, f9, appA, hmn, hwl, c1, c2]
          refine NextK_of (H.length + 4) (Nat.le_refl _) (by simp [f23, f22]) ?_
          simp [f1, f2, f3, f6, f21, cut_appk hcl, V.enc_nil, tn, tp]
          refine ⟨ws ++ [.mk kw nw sw zw nsw yw psw], by simp [hwl], ?_, ?_, by simp [V.enc_mk]⟩
          · intro q hq
            rcases List.mem_append.1 hq with h | h
            · exact hwf q h
            · simp at h; rw [h]; exact hwF
          · have := nameds_snoc f t hws (hN.trans (congrArg some hw.symm))
            simpa using this
      · have e : nm ≠ f := by simpa using h
        have er : ren f t nm = nm := by simp [ren, e]
        rw [er] at tn
        simp [f2, f3, hip', rb, f1]
        refine CallK_of (hx _) ?_
        rintro x H2 ⟨⟨w, rfl, hwF, hwR⟩, rfl⟩
        cases w with | mk kw nw sw zw nsw yw psw =>
        simp [V.a_mk]
        cases hN : U.named f t (V.mk k' n' s' z' ns' y' ps').strip with
        | none =>
          simp [f6, V.enc_nil]
          exact nameds_none f t hmem hN
        | some u =>
          rw [hN] at hwR
          have hw : _ = u := hwR
          simp [f8, f9, appA, hmn, hwl, c1, c2]
          refine NextK_of (H.length + 4) (Nat.le_refl _) (by simp [f23, f22]) ?_
          simp [f1, f2, f3, f6, f21, cut_appk hcl, V.enc_nil, tn, tp]
          refine ⟨ws ++ [.mk kw nw sw zw nsw yw psw], by simp [hwl], ?_, ?_, by simp [V.enc_mk]⟩
          · intro q hq
            rcases List.mem_append.1 hq with h | h
            · exact hwf q h
            · simp at h; rw [h]; exact hwF
          · have := nameds_snoc f t hws (hN.trans (congrArg some hw.symm))
            simpa using this
    · rintro fr H' f23 f22 ⟨f1, f2, f3, f6, f21, f8, ws, hwl, hwf, hws, f9, rfl⟩
      have e1 : (ns.map (encS ∘ ren f t)).take ns.length = ns.map (encS ∘ ren f t) := by rw [List.take_of_length_le (by simp)]
      rw [List.take_of_length_le (by simp; omega)] at hws
      simp [f6, f8, e1]
      exact ⟨ws, hwl, hwf, hws, f9⟩
  · rintro fr H' ⟨hN, f6, f7, q, X, rfl⟩
    simp
    simp [RetK, cut_app hcl, f6, f7]
    rw [U.named, if_pos rfl, hN]
    exact ⟨V.nil, by simp [V.nil, V.a_mk, V.enc_mk], fit_nil _, rfl⟩
  · rintro fr H' ⟨f6, ws, hwl, hwf, hws, f8, f9, q, a, b, rfl⟩
    have hr := recOk true true (ns.map (ren f t)) ws (by simpa using b2) (by omega)
    have hnr := named_rec (n := n) (s := s) (ns := ns) (by omega) hws
    have hfr := fit_rec (b := 1048576) (ns := ns.map (ren f t)) (ps := ws) (by simpa using b2) (by omega) (fun x hx => by
      obtain ⟨q, hq, rfl⟩ := List.mem_map.1 hx
      exact ren_len ht (b4 q hq)) hwf
    generalize recV (ns.map (ren f t)) ws = rv at hr hnr hfr
    obtain ⟨w, e⟩ := rv
    obtain ⟨hnr, hne⟩ := hnr
    cases w with | mk kw nw sw zw nsw yw psw =>
    simp only [V.a_mk, List.map_map] at hr
    simp [f8, f9, f6]
    refine CallK_of' ((hr _).osl1).osl2 ?_
    simp [f6, V.enc_nil]
    simp [RetK, cut_app hcl, f6]
    exact ⟨_, ⟨(V.a_mk ..).symm, hne⟩, hfr, hnr⟩

theorem rnamedOk (f t : Str) (ht : t.length ≤ 1048576) (v : V) : v.Fit 1048576 → v.Right → ∀ H, ACall Tryd.prog 22 [v.a, .d (.str f), .d (.str t)] H (fun r H' => (∃ w : V, r = .tup [w.a, .d (.bool (U.named f t v.strip).isSome)] ∧ w.Fit 1048576 ∧ NamedW (U.named f t v.strip) w) ∧ H' = H) := by
  induction v using V.ind with
  | h k n s z ns y ps ih =>
  intro hf hR H
  have hf0 := hf
  obtain ⟨_, _, _, _, _, _, _, b1, b2, b3, bn, b4, b5⟩ := hf
  refine acall_fin Tryd.func22 cf22 (by simp [ir22]) fun hcl _ => ?_
  by_cases hk : k = 3
  case neg =>
    have hN : U.named f t (V.mk k n s z ns y ps).strip = some (V.mk k n s z ns y ps).strip := by rw [V.strip_mk, U.named, if_neg hk]
    rw [V.a_mk]
    simp [ir22, hk]
    simp [RetK, cut_app hcl]
    rw [hN]
    exact ⟨.mk k n s z ns y ps, ⟨(V.a_mk ..).symm, rfl⟩, hf0, rfl⟩
  subst hk
  obtain ⟨-, ⟨-, hl⟩, -, hA⟩ := (right_iff ..).1 hR
  rw [V.a_mk]
  simp [ir22]
  rw [V.strip_mk]
  refine LoopK_outR 0 (fun fr H' => fr 6 = .ptr (H.length + 1) 0 ∧ ∃ ws : List V, ws.length = ns.length ∧ (∀ w ∈ ws, w.Fit 1048576) ∧ U.nameds f t (ps.map V.strip) = some (ws.map V.strip) ∧ fr 8 = .osl true 1 ((ns.map (ren f t)).map encS) (H.length + 2) ∧ fr 9 = .osl true 5 (ws.map V.enc) (H.length + 3) ∧
      ∃ q a b, H' = H ++ [q, .box 25 (V.nil.enc.map .d), a, b])
    (fun fr H' => U.nameds f t (ps.map V.strip) = none ∧ fr 6 = .ptr (H.length + 1) 0 ∧ fr 7 = .d (.bool false) ∧ ∃ q X, H' = H ++ q :: Ob.box 25 (V.nil.enc.map .d) :: X) ?_ ?_ ?_
  · refine ForK_of (H.length + 4) ns.length (fun i fr H' => fr 1 = .d (.str f) ∧ fr 2 = .d (.str t) ∧ fr 3 = .ptr H.length 0 ∧ fr 6 = .ptr (H.length + 1) 0 ∧ fr 8 = .osl true 1 ((ns.map (encS ∘ ren f t)).take i) (H.length + 2) ∧
      ∃ ws : List V, ws.length = i ∧ (∀ w ∈ ws, w.Fit 1048576) ∧ U.nameds f t ((ps.map V.strip).take i) = some (ws.map V.strip) ∧ fr 9 = .osl true 5 (ws.map V.enc) (H.length + 3) ∧
      H' = H ++ [.box 25 [.d (.int .i64 3), .d (.int .i64 n), .d (.str s), .d (.sl z 1 (ns.map encS)), .d (.sl y 5 (ps.map V.enc))], .box 25 (V.nil.enc.map .d), .tok i 1 9, .tok i 5 25]) (by omega) (by decide) (by simp) (by simp) ?_ ?_
    · simp [cut_appk hcl, V.enc_nil]
      simp [U.nameds]
    · rintro i fr H' hi0 f10 ⟨f1, f2, f3, f6, f8, ws, hwl, hwf, hws, f9, rfl⟩
      simp [f10, f3]
      refine BrK_split (fun h => ?_) (fun h => ?_)
      · have hi : i < ns.length := by simpa using h
        have hip : i < ps.length := by omega
        have hip' : ¬ ps.length ≤ i := by omega
        have ra := rowAt_map encS hi
        have rb := rowAt_map V.enc hip
        have hm := List.getElem_mem hip
        have hx := ih ps[i] hm (b5 _ hm) (hA _ hm)
        have tn := take_map_succ (encS ∘ ren f t) hi
        have tp := take_map_succ V.strip hip
        have hmem : ps[i].strip ∈ ps.map V.strip := List.mem_map_of_mem hm
        generalize ns[i] = nm at ra tn
        generalize ps[i] = p at rb hx tp hmem
        cases p with | mk k' n' s' z' ns' y' ps' =>
        simp only [V.a_mk, V.enc_mk, encS, Function.comp_apply] at ra rb hx tn
        have c1 : (i + 1) * 16 ≤ 140737488355328 := by omega
        have c2 : (i + 1) * 80 ≤ 140737488355328 := by omega
        have hmn : min i ns.length = i := by omega
        have fin : ∀ (fr' : Fr) (nm2 : Str), nm2 = ren f t nm → True := fun _ _ _ => trivial
        simp [f10, f3, ra, f1]
        refine BrK_split (fun h => ?_) (fun h => ?_)
        · have e : nm = f := by simpa using h
          have er : ren f t nm = t := by simp [ren, e]
          rw [er] at tn
          simp [f2, f3, f10, rb, f1]
          refine CallK_of (hx _) ?_
          rintro x H2 ⟨⟨w, rfl, hwF, hwR⟩, rfl⟩
          cases w with | mk kw nw sw zw nsw yw psw =>
          simp [V.a_mk]
          cases hN : U.named f t (V.mk k' n' s' z' ns' y' ps').strip with
          | none =>
            simp [f6, V.enc_nil]
            exact nameds_none f t hmem hN
          | some u =>
            rw [hN] at hwR
            have hw : _ = u := hwR
            simp [f8, f9, appA, hmn, hwl, c1, c2]
            refine NextF_of (H.length + 4) (Nat.le_refl _) hi (by simp [f10]) ?_
            simp [f1, f2, f3, f6, cut_appk hcl, V.enc_nil, tn, tp]
            refine ⟨ws ++ [.mk kw nw sw zw nsw yw psw], by simp [hwl], ?_, ?_, by simp [V.enc_mk]⟩
            · intro q hq
              rcases List.mem_append.1 hq with h | h
              · exact hwf q h
              · simp at h; rw [h]; exact hwF
            · have := nameds_snoc f t hws (hN.trans (congrArg some hw.symm))
              simpa using this
        · have e : nm ≠ f := by simpa using h
          have er : ren f t nm = nm := by simp [ren, e]
          rw [er] at tn
          simp [f2, f3, f10, rb, f1]
          refine CallK_of (hx _) ?_
          rintro x H2 ⟨⟨w, rfl, hwF, hwR⟩, rfl⟩
          cases w with | mk kw nw sw zw nsw yw psw =>
          simp [V.a_mk]
          cases hN : U.named f t (V.mk k' n' s' z' ns' y' ps').strip with
          | none =>
            simp [f6, V.enc_nil]
            exact nameds_none f t hmem hN
          | some u =>
            rw [hN] at hwR
            have hw : _ = u := hwR
            simp [f8, f9, appA, hmn, hwl, c1, c2]
            refine NextF_of (H.length + 4) (Nat.le_refl _) hi (by simp [f10]) ?_
            simp [f1, f2, f3, f6, cut_appk hcl, V.enc_nil, tn, tp]
            refine ⟨ws ++ [.mk kw nw sw zw nsw yw psw], by simp [hwl], ?_, ?_, by simp [V.enc_mk]⟩
            · intro q hq
              rcases List.mem_append.1 hq with h | h
              · exact hwf q h
              · simp at h; rw [h]; exact hwF
            · have := nameds_snoc f t hws (hN.trans (congrArg some hw.symm))
              simpa using this
      · have hii : i = ns.length := by have : ¬ i < ns.length := by simpa using h
                                       omega
        subst hii
        have e1 : (ns.map (encS ∘ ren f t)).take ns.length = ns.map (encS ∘ ren f t) := by rw [List.take_of_length_le (by simp)]
        rw [List.take_of_length_le (by simp; omega)] at hws
        simp [f6, f8, e1]
        exact ⟨ws, hwl, hwf, hws, f9⟩
  · rintro fr H' ⟨hN, f6, f7, q, X, rfl⟩
    simp
    simp [RetK, cut_app hcl, f6, f7]
    rw [U.named, if_pos rfl, hN]
    exact ⟨V.nil, by simp [V.nil, V.a_mk, V.enc_mk], fit_nil _, rfl⟩
  · rintro fr H' ⟨f6, ws, hwl, hwf, hws, f8, f9, q, a, b, rfl⟩
    have hr := rrecOk true true (ns.map (ren f t)) ws (by simpa using b2) (by omega)
    have hnr := named_rec (n := n) (s := s) (ns := ns) (by omega) hws
    have hfr := fit_rec (b := 1048576) (ns := ns.map (ren f t)) (ps := ws) (by simpa using b2) (by omega) (fun x hx => by
      obtain ⟨q, hq, rfl⟩ := List.mem_map.1 hx
      exact ren_len ht (b4 q hq)) hwf
    generalize recV (ns.map (ren f t)) ws = rv at hr hnr hfr
    obtain ⟨w, e⟩ := rv
    obtain ⟨hnr, hne⟩ := hnr
    cases w with | mk kw nw sw zw nsw yw psw =>
    simp only [V.a_mk, List.map_map] at hr
    simp [f8, f9, f6]
    refine CallK_of' ((hr _).osl1).osl2 ?_
    simp [f6, V.enc_nil]
    simp [RetK, cut_app hcl, f6]
    exact ⟨_, ⟨(V.a_mk ..).symm, hne⟩, hfr, hnr⟩

end Go.Proofs.Zv

namespace Go.Proofs.Zv
open Go Go.Zam Go.Proofs
set_option maxRecDepth 100000
set_option linter.all false
set_option maxHeartbeats 1000000

theorem hasOk (t : Str) (v : V) : v.Fit 1048576 → v.Right → ∀ H, ACall Tryd.prog 23 [v.a, .d (.str t)] H (fun r H' => r = .d (.bool (@decide (v.strip.has t) (Classical.propDecidable _))) ∧ H' = H) := by
  induction v using V.ind with
  | h k n s z ns y ps ih =>
  intro hf hR H
  obtain ⟨_, _, _, _, _, _, _, b1, b2, b3, bn, b4, b5⟩ := hf
  refine acall_fin Tryd.func23 cf23 (by simp [ir23]) fun hcl _ => ?_
  obtain ⟨-, ⟨-, hl⟩, -, hA⟩ := (right_iff ..).1 hR
  have hh : (V.mk k n s z ns y ps).strip.has t ↔ t ∈ ns ∨ ∃ p ∈ ps, p.strip.has t := by
    rw [V.strip_mk, U.has, U.hass_iff]
    refine or_congr Iff.rfl ⟨?_, ?_⟩
    · rintro ⟨q, hq, h⟩
      obtain ⟨p, hp, rfl⟩ := List.mem_map.1 hq
      exact ⟨p, hp, h⟩
    · rintro ⟨p, hp, h⟩
      exact ⟨_, List.mem_map_of_mem hp, h⟩
  rw [V.a_mk]
  generalize (V.mk k n s z ns y ps).strip.has t = HH at hh
  simp [ir23]
  refine LoopK_outR 0 (fun fr H' => ¬ HH ∧ ∃ X, H' = H ++ X) (fun fr H' => fr 4 = .d (.bool true) ∧ HH ∧ ∃ X, H' = H ++ X) ?_ ?_ ?_
  · refine RangeK_of (H.length + 1) ns.length (fun i fr H' => fr 1 = .d (.str t) ∧ fr 2 = .ptr H.length 0 ∧ fr 8 = .d (.sl z 1 (ns.map encS)) ∧ t ∉ ns.take i ∧ (∀ p ∈ ps.take i, ¬ p.strip.has t) ∧ H' = H ++ [.box 25 [.d (.int .i64 k), .d (.int .i64 n), .d (.str s), .d (.sl z 1 (ns.map encS)), .d (.sl y 5 (ps.map V.enc))]]) (by omega) (by decide) (by simp) (by simp) ?_ ?_ ?_
    · simp [cut_appk hcl]
    · rintro i fr H' hi f10 f9 ⟨f1, f2, f8, hn, hp, rfl⟩
      have hip : i < ps.length := by omega
      have ra := rowAt_map encS hi
      have rb := rowAt_map V.enc hip
      have hm := List.getElem_mem hip
      have hmn := List.getElem_mem hi
      have hx := ih ps[i] hm (b5 _ hm) (hA _ hm)
      have tn : ns.take (i + 1) = ns.take i ++ [ns[i]] := List.take_succ_eq_append_getElem hi
      have tp : ps.take (i + 1) = ps.take i ++ [ps[i]] := List.take_succ_eq_append_getElem hip
      generalize ns[i] = nm at ra tn hmn
      generalize ps[i] = p at rb hx tp hm
      have hbad : p.strip.has t → HH := fun h => hh.2 (.inr ⟨p, hm, h⟩)
      generalize hP : p.strip.has t = PP at hx hbad
      cases p with | mk k' n' s' z' ns' y' ps' =>
      simp only [V.a_mk, V.enc_mk, encS] at ra rb hx
      simp [f10, f8, ra, f1]
      by_cases e : nm = t
      · simp [e]
        exact hh.2 (.inl (e ▸ hmn))
      · simp [e, f2, rb, f1]
        refine CallK_of' (hx _) ?_
        by_cases hb : PP
        · simp [hb]
          exact hbad hb
        · simp [hb]
          refine NextK_of (H.length + 1) (Nat.le_refl _) (by simp [f10, f9]) ?_
          simp [f1, f2, f8, cut_appk hcl, tn, tp, hn, Ne.symm e]
          intro q hq
          rcases hq with hq | rfl
          · exact hp q hq
          · rw [hP]; exact hb
    · rintro fr H' f10 f9 ⟨f1, f2, f8, hn, hp, rfl⟩
      rw [List.take_of_length_le (Nat.le_refl _)] at hn
      rw [hl, List.take_of_length_le (Nat.le_refl _)] at hp
      simp
      intro h
      rcases hh.1 h with h1 | ⟨p, h1, h2⟩
      · exact hn h1
      · exact hp p h1 h2
  · rintro fr H' ⟨f4, hH, X, rfl⟩
    simp
    simp [RetK, cut_app hcl, f4, hH]
  · rintro fr H' ⟨hH, X, rfl⟩
    simp
    simp [RetK, cut_app hcl, hH]

theorem rightOk (v : V) : v.Fit 1048576 → ∀ H : Hp, ACall Tryd.prog 24 [v.a] H (fun r H' => r = .d (.bool (@decide v.Right (Classical.propDecidable _))) ∧ H' = H) := by
  induction v using V.ind with
  | h k n s z ns y ps ih =>
  rintro ⟨_, _, _, _, _, _, _, b1, b2, b3, bn, b4, b5⟩ H
  refine acall_fin Tryd.func24 cf24 (by simp [ir24]) fun hcl _ => ?_
  rw [V.a_mk]
  have hR := right_iff k n s z ns y ps
  generalize V.mk k n s z ns y ps = v at hR
  have w0 : IntKind.i64.wrap 0 = 0 := rfl
  have hsum : ns.length + ps.length ≠ 0 → IntKind.i64.wrap ((ns.length : Int) + ps.length) = 0 → False := fun h => by
    rw [wrap_i64 (by omega) (by omega)]; omega
  have emp : ns.length + ps.length = 0 → ns = [] ∧ ps = [] := fun h => ⟨List.eq_nil_of_length_eq_zero (by omega), List.eq_nil_of_length_eq_zero (by omega)⟩
  have inil : Incr ([] : List Str) := fun j a b h => by simp at h
  by_cases h1 : k = 1
  case pos =>
    subst h1
    by_cases hs : s = []
    case neg =>
      have : ¬ v.Right := fun h => hs ((hR.1 h).1.2.1 (by omega))
      simp [ir24, hs]
      simp [RetK, cut_app hcl, this]
    by_cases hz : ns.length + ps.length = 0
    case neg =>
      have : ¬ v.Right := fun h => hz ((hR.1 h).2.1.1 (by omega))
      have hz' := hsum hz
      simp [ir24, hs]
      simp [RetK, cut_app hcl, this]
      exact hz'
    obtain ⟨rfl, rfl⟩ := emp hz
    have : v.Right := hR.2 ⟨⟨by omega, fun _ => hs, by simp, by simp⟩, ⟨by simp, rfl⟩, inil, by simp⟩
    simp [ir24, hs, w0]
    simp [RetK, cut_app hcl, this]
  by_cases h2 : k = 2
  case pos =>
    subst h2
    by_cases hn : n = 0
    case neg =>
      have : ¬ v.Right := fun h => hn ((hR.1 h).1.2.2.1 (by simp))
      simp [ir24, hn]
      simp [RetK, cut_app hcl, this]
    by_cases hz : ns.length + ps.length = 0
    case neg =>
      have : ¬ v.Right := fun h => hz ((hR.1 h).2.1.1 (by omega))
      have hz' := hsum hz
      simp [ir24, hn]
      simp [RetK, cut_app hcl, this]
      exact hz'
    obtain ⟨rfl, rfl⟩ := emp hz
    have : v.Right := hR.2 ⟨⟨by omega, by simp, fun _ => hn, by simp⟩, ⟨by simp, rfl⟩, inil, by simp⟩
    simp [ir24, hn, w0]
    simp [RetK, cut_app hcl, this]
  by_cases h4 : k = 4
  case pos =>
    subst h4
    by_cases hn : 0 ≤ n
    case neg =>
      have : ¬ v.Right := fun h => hn ((hR.1 h).1.2.2.2 rfl)
      simp [ir24, hn]
      simp [RetK, cut_app hcl, this]
    by_cases hs : s = []
    case neg =>
      have : ¬ v.Right := fun h => hs ((hR.1 h).1.2.1 (by omega))
      simp [ir24, hn, hs]
      simp [RetK, cut_app hcl, this]
    by_cases hz : ns.length + ps.length = 0
    case neg =>
      have : ¬ v.Right := fun h => hz ((hR.1 h).2.1.1 (by omega))
      have hz' := hsum hz
      simp [ir24, hn, hs]
      simp [RetK, cut_app hcl, this]
      exact hz'
    obtain ⟨rfl, rfl⟩ := emp hz
    have : v.Right := hR.2 ⟨⟨by omega, fun _ => hs, by simp, fun _ => hn⟩, ⟨by simp, rfl⟩, inil, by simp⟩
    simp [ir24, hn, hs, w0]
    simp [RetK, cut_app hcl, this]
  by_cases h3 : k = 3
  case neg =>
    have : ¬ v.Right := fun h => by have := (hR.1 h).1.1; omega
    simp [ir24, h1, h2, h3, h4]
    simp [RetK, cut_app hcl, this]
  subst h3
  by_cases hn : n = 0
  case neg =>
    have : ¬ v.Right := fun h => hn ((hR.1 h).1.2.2.1 (by simp))
    simp [ir24, hn]
    simp [RetK, cut_app hcl, this]
  by_cases hs : s = []
  case neg =>
    have : ¬ v.Right := fun h => hs ((hR.1 h).1.2.1 (by omega))
    simp [ir24, hn, hs]
    simp [RetK, cut_app hcl, this]
  by_cases gl : ns.length = ps.length
  case neg =>
    have : ¬ v.Right := fun h => gl (hR.1 h).2.1.2
    have gl' : ¬ (ns.length : Int) = ps.length := by omega
    simp [ir24, hn, hs, gl, gl']
    simp [RetK, cut_app hcl, this]
  have hR2 : v.Right ↔ Incr ns ∧ ∀ p ∈ ps, p.Right := by
    rw [hR]
    exact ⟨fun h => h.2.2, fun h => ⟨⟨by omega, fun _ => hs, fun _ => hn, by simp⟩, ⟨by simp, gl⟩, h⟩⟩
  simp [ir24, hn, hs, gl]
  refine LoopK_outR 1 (fun fr H4 => (Incr ns ∧ ∀ p ∈ ps, p.Right) ∧ ∃ X, H4 = H ++ X) (fun fr H4 => fr 2 = .d (.bool false) ∧ ¬ (Incr ns ∧ ∀ p ∈ ps, p.Right) ∧ ∃ X, H4 = H ++ X) ?_ ?_ ?_
  · refine RangeK_of (H.length + 1) ps.length (fun i fr H4 => fr 1 = .ptr H.length 0 ∧ fr 77 = .d (.sl z 1 (ns.map encS)) ∧ Incr (ns.take i) ∧ (∀ p ∈ ps.take i, p.Right) ∧ H4 = H ++ [.box 30 [.d (.int .i64 3), .d (.int .i64 0), .d (.str []), .d (.sl z 1 (ns.map encS)), .d (.sl y 5 (ps.map V.enc))]]) (by omega) (by decide) (by simp) (by simp [gl]) ?_ ?_ ?_
    · simp [cut_appk hcl]
      intro j a b h; simp at h
    · rintro i fr H4 hlp f79 f78 ⟨f1, f77, hI, hA, rfl⟩
      have hlt : i < ns.length := by omega
      have ra := rowAt_map encS hlt
      have rb := rowAt_map V.enc hlp
      have hx := ih ps[i] (List.getElem_mem hlp) (b5 _ (List.getElem_mem hlp))
      have tp : ps.take (i + 1) = ps.take i ++ [ps[i]] := List.take_succ_eq_append_getElem hlp
      have hstep := incr_step hlt hI
      have hmp : ps[i] ∈ ps := List.getElem_mem hlp
      have hnI : ∀ a, 0 < i → ns[i - 1]? = some a → Op.bytesLess a ns[i] = false → ¬ Incr ns := fun a h0 ha hb hc => by
        have := hc (i - 1) a ns[i] ha (by rw [show i - 1 + 1 = i by omega]; exact List.getElem?_eq_getElem hlt)
        rw [hb] at this; cases this
      generalize ns[i] = nm at ra hstep hnI
      generalize ps[i] = p at rb hx tp hmp
      simp only [encS] at ra
      simp [f79, f77, ra]
      refine GdK_split (by simp) (fun h0 => ?_) (fun h0 => ?_)
      · have hpos : 0 < i := by simpa using h0
        have hwm : IntKind.i64.wrap ((i : Int) - 1) = ((i - 1 : Nat) : Int) := by rw [wrap_i64 (by omega) (by omega)]; omega
        have hj : i - 1 < ns.length := by omega
        have rj := rowAt_map encS hj
        have hg : ns[i - 1]? = some ns[i - 1] := List.getElem?_eq_getElem hj
        simp only [encS] at rj
        generalize ns[i - 1] = nj at rj hg
        simp [f1, hwm, rj]
        cases hb : Op.bytesLess nj nm with
        | false =>
          have hno := hnI nj hpos hg hb
          simp
          exact fun h => absurd h hno
        | true =>
          have hI2 := hstep (fun a _ ha => by rw [hg] at ha; cases ha; exact hb)
          cases p with | mk k1 n1 s1 z1 ns1 y1 ps1 =>
          simp only [V.a_mk, V.enc_mk] at rb hx
          simp [f1, rb]
          refine CallK_of' (hx _) ?_
          by_cases hp : (V.mk k1 n1 s1 z1 ns1 y1 ps1).Right
          · simp [hp]
            refine NextK_of (H.length + 1) (Nat.le_refl _) (by simp [f79, f78]) ?_
            simp [f1, f77, cut_appk hcl, tp]
            refine ⟨hI2, fun q hq => ?_⟩
            rcases hq with hq | rfl
            · exact hA q hq
            · exact hp
          · simp [hp]
            exact fun _ => ⟨_, hmp, hp⟩
      · have h00 : i = 0 := by simpa using h0
        have hI2 := hstep (fun a h => by omega)
        cases p with | mk k1 n1 s1 z1 ns1 y1 ps1 =>
        simp only [V.a_mk, V.enc_mk] at rb hx
        simp [f1, rb]
        refine CallK_of' (hx _) ?_
        by_cases hp : (V.mk k1 n1 s1 z1 ns1 y1 ps1).Right
        · simp [hp]
          refine NextK_of (H.length + 1) (Nat.le_refl _) (by simp [f79, f78]) ?_
          simp [f1, f77, cut_appk hcl, tp]
          refine ⟨hI2, fun q hq => ?_⟩
          rcases hq with hq | rfl
          · exact hA q hq
          · exact hp
        · simp [hp]
          exact fun _ => ⟨_, hmp, hp⟩
    · rintro fr H4 f79 f78 ⟨f1, f77, hI, hA, rfl⟩
      rw [← gl, List.take_of_length_le (Nat.le_refl _)] at hI
      rw [List.take_of_length_le (Nat.le_refl _)] at hA
      simp
      exact ⟨hI, hA⟩
  · rintro fr H4 ⟨f2, hno, X, rfl⟩
    have : ¬ v.Right := fun h => hno (hR2.1 h)
    simp
    simp [RetK, cut_app hcl, f2, this]
  · rintro fr H4 ⟨hy, X, rfl⟩
    have : v.Right := hR2.2 hy
    simp
    simp [RetK, cut_app hcl, this]

end Go.Proofs.Zv

namespace Go.Proofs.Zv
open Go Go.Zam Go.Proofs
set_option maxRecDepth 100000
set_option linter.all false
set_option maxHeartbeats 1000000

theorem namesOk (v : V) (f t : Str) (hv : v.Fit 1048576) (hf : f.length ≤ 1048576) (ht : t.length ≤ 1048576) (H : Hp) :
    ACall Tryd.prog 5 [v.a, .d (.str f), .d (.str t)] H (fun r H' => r = .d (.bool true) ∧ H' = H) := by
  refine acall_fin Tryd.func5 cf5 (by simp [ir5]) fun hcl _ => ?_
  have hw : IntKind.i64.wrap ((f.length : Int) + t.length) = f.length + t.length := wrap_i64 (by omega) (by omega)
  have q1 := lightOk v hv
  have q2 := rrightOk v hv
  have q3 := toOk v hv
  have q4 : v.Right → _ := fun hR => namedOk f t ht v.to (fit_to v hv) ((to_right v).2 hR)
  have q5 : v.Right → _ := fun hR => rnamedOk f t ht v hv hR
  have q6 : v.Right → _ := fun hR => hasOk t v hv hR
  have hts := V.to_strip v
  rw [hts] at q4
  have hback : ∀ a, v.Right → U.named f t v.strip = some a → ¬ v.strip.has t → a.Right ∧ U.named t f a = some v.strip := fun a h => named_back f t v.strip a ((right_strip v).2 h)
  have hsame : ∀ c : V, c.Fit 1048576 → c.strip = v.strip → ∀ H, ACall Tryd.prog 14 [c.to.a, v.a] H (fun r H' => r = .d (.bool true) ∧ H' = H) := fun c hc e => rsame_true (fit_to c hc) (by rw [V.to_strip, e])
  generalize hT : v.to = T at q3 q4
  generalize hS : v.strip = S at q4 q5 q6 hback hsame
  generalize hRv : v.Right = R at q2 q4 q5 q6 hback
  cases v with | mk k n s z ns y ps =>
  cases T with | mk kT nT sT zT nsT yT psT =>
  simp only [V.a_mk] at q1 q2 q3 q4 q5 q6 hsame
  rw [V.a_mk]
  simp [ir5]
  refine CallK_of (q1 _) ?_
  rintro x H2 ⟨⟨c, rfl⟩, rfl⟩
  cases c with
  | false =>
    simp
    refine CallK_of' (awakeOk _) ?_
    simp
    simp [RetK, cut_app hcl]
  | true =>
  simp
  refine CallK_of' (q2 _) ?_
  by_cases hR : R
  case neg =>
    simp [hR]
    refine CallK_of' (awakeOk _) ?_
    simp
    simp [RetK, cut_app hcl]
  by_cases hlen : (1000 : Int) < f.length + t.length
  case pos =>
    simp [hR, hw, hlen]
    refine CallK_of' (awakeOk _) ?_
    simp
    simp [RetK, cut_app hcl]
  simp [hR, hw, hlen]
  refine CallK_of' (q3 _) ?_
  simp
  refine CallK_of (q4 hR _) ?_
  rintro x H2 ⟨⟨a, rfl, haF, haW⟩, rfl⟩
  have m1 := fromOk a haF
  have m2 : ∀ b : V, a.strip = b.strip → ∀ H, ACall Tryd.prog 14 [a.to.a, b.a] H (fun r H' => r = .d (.bool true) ∧ H' = H) := fun b e => rsame_true (fit_to a haF) (by rw [V.to_strip, e])
  have m3 : a.Right → _ := fun h => namedOk t f hf a haF h
  have m4 := rightOk a haF
  have hsa := right_strip a
  generalize hA2 : a.to = a2 at m1 m2
  generalize hAs : a.strip = sa at m2 m3 hsa haW
  generalize hAr : a.Right = ra at m3 m4 hsa
  cases a with | mk ka na sa' za nsa ya psa =>
  cases a2 with | mk ka2 na2 sa2 za2 nsa2 ya2 psa2 =>
  have haW' : NamedW (U.named f t S) (V.mk ka na sa' za nsa ya psa) := haW
  simp only [V.a_mk] at m1 m2 m3 m4
  simp [V.a_mk]
  refine CallK_of (q5 hR _) ?_
  rintro x H2 ⟨⟨b, rfl, hbF, hbW⟩, rfl⟩
  have hab : sa = b.strip := by
    cases hN : U.named f t S with
    | none =>
      rw [hN] at haW' hbW
      have e1 : _ = V.nil := haW'
      have e2 : b = V.nil := hbW
      rw [← hAs, e1, e2]
    | some u =>
      rw [hN] at haW' hbW
      have e1 : _ = u := haW'
      have e2 : b.strip = u := hbW
      rw [← hAs, e1, e2]
  have m5 := m2 b hab
  cases b with | mk kb nb sb zb nsb yb psb =>
  simp only [V.a_mk] at m5
  simp [V.a_mk]
  refine CallD_of (m1 _) ?_
  simp
  refine CallD_of (m5 _) ?_
  simp
  cases hN : U.named f t S with
  | none =>
    simp
    refine CallK_of' (awakeOk _) ?_
    simp
    simp [RetK, cut_app hcl]
  | some u =>
  rw [hN] at haW'
  have hau : _ = u := haW'
  simp
  refine CallK_of' (q6 hR _) ?_
  by_cases hH : S.has t
  · simp [hH]
    refine CallK_of' (awakeOk _) ?_
    simp
    simp [RetK, cut_app hcl]
  simp [hH]
  obtain ⟨g1, g2⟩ := hback u hR hN hH
  have hsu : sa = u := by rw [← hAs]; exact hau
  have hra : ra := hsa.1 (by rw [hsu]; exact g1)
  have m6 := m3 hra
  rw [hsu, g2] at m6
  refine CallK_of (m6 _) ?_
  rintro x H2 ⟨⟨c, rfl, hcF, hcW⟩, rfl⟩
  have hcs : c.strip = S := hcW
  have m7 := fromOk c hcF
  have m8 := hsame c hcF hcs
  generalize c.to = c2 at m7 m8
  cases c with | mk kc nc sc zc nsc yc psc =>
  cases c2 with | mk kc2 nc2 sc2 zc2 nsc2 yc2 psc2 =>
  simp only [V.a_mk] at m7 m8
  simp [V.a_mk]
  refine CallD_of (awakeOk _) ?_
  simp
  refine CallD_of (m4 _) ?_
  simp [hra]
  refine CallD_of (m7 _) ?_
  simp
  refine CallD_of (m8 _) ?_
  simp
  simp [RetK, cut_app hcl]

end Go.Proofs.Zv

namespace Go.Zam
set_option linter.all false
set_option maxRecDepth 100000
set_option maxHeartbeats 1000000

def irDigit : IFn :=
 { nt := 9, res := [.t 2], body := (
  .seq (.ops [
    ⟨(some 2), none, .mv (.c (.bool false))⟩] false)
  (.seq (.ops [
    ⟨(some 3), none, .mv (.t 0)⟩,
    ⟨(some 4), none, .bin .geq (.t 3) (.c (.int .u8 48))⟩,
    ⟨(some 5), none, .mv (.t 4)⟩,
    ⟨(some 6), (some (5, true)), .mv (.t 0)⟩,
    ⟨(some 7), (some (5, true)), .bin .leq (.t 6) (.c (.int .u8 57))⟩,
    ⟨(some 8), none, .pick (.t 5) (.t 7) (.c (.bool false))⟩,
    ⟨(some 2), none, .mv (.t 8)⟩] false)
  (.ret))) }

def irLetter : IFn :=
 { nt := 21, res := [.t 2], body := (
  .seq (.ops [
    ⟨(some 2), none, .mv (.c (.bool false))⟩] false)
  (.seq (.ops [
    ⟨(some 3), none, .mv (.t 0)⟩,
    ⟨(some 4), none, .bin .geq (.t 3) (.c (.int .u8 97))⟩,
    ⟨(some 5), none, .mv (.t 4)⟩,
    ⟨(some 6), (some (5, true)), .mv (.t 0)⟩,
    ⟨(some 7), (some (5, true)), .bin .leq (.t 6) (.c (.int .u8 122))⟩,
    ⟨(some 8), none, .pick (.t 5) (.t 7) (.c (.bool false))⟩,
    ⟨(some 9), none, .mv (.t 8)⟩,
    ⟨(some 10), (some (9, false)), .mv (.t 0)⟩,
    ⟨(some 11), (some (9, false)), .bin .geq (.t 10) (.c (.int .u8 65))⟩,
    ⟨(some 12), (some (9, false)), .mv (.t 11)⟩,
    ⟨(some 13), (some (12, true)), .mv (.t 0)⟩,
    ⟨(some 14), (some (12, true)), .bin .leq (.t 13) (.c (.int .u8 90))⟩,
    ⟨(some 15), (some (9, false)), .pick (.t 12) (.t 14) (.c (.bool false))⟩,
    ⟨(some 16), none, .pick (.t 9) (.c (.bool true)) (.t 15)⟩,
    ⟨(some 17), none, .mv (.t 16)⟩,
    ⟨(some 18), (some (17, false)), .mv (.t 0)⟩,
    ⟨(some 19), (some (17, false)), .bin .eql (.t 18) (.c (.int .u8 95))⟩,
    ⟨(some 20), none, .pick (.t 17) (.c (.bool true)) (.t 19)⟩,
    ⟨(some 2), none, .mv (.t 20)⟩] false)
  (.ret))) }

def irIsKey : IFn :=
 { nt := 18, res := [.t 2], body := (
  .seq (.ops [
    ⟨(some 2), none, .mv (.c (.bool false))⟩] false)
  (.seq (.ops [
    ⟨(some 5), none, .bslice 1 [(.c (.str [117, 115, 101])), (.c (.str [100, 101, 102])), (.c (.str [108, 101, 116])), (.c (.str [105, 102])), (.c (.str [101, 108, 115, 101])), (.c (.str [119, 104, 105, 108, 101])), (.c (.str [112, 114, 105, 110, 116])), (.c (.str [114, 101, 116, 117, 114, 110])), (.c (.str [102, 110])), (.c (.str [105, 110, 112, 117, 116])), (.c (.str [105, 110, 116])), (.c (.str [115, 116, 114])), (.c (.str [100, 121, 110]))]⟩,
    ⟨(some 3), none, .mv (.t 5)⟩] false)
  (.seq (.seq (.ops [
     ⟨(some 4), none, .mv (.c (.int .i64 0))⟩] false)
   (.blk 0 (.loop (.seq (.seq (.ops [
        ⟨(some 6), none, .mv (.t 4)⟩,
        ⟨(some 7), none, .mv (.t 3)⟩,
        ⟨(some 8), none, .lenL (.t 7)⟩,
        ⟨(some 9), none, .bin .lss (.t 6) (.t 8)⟩] false)
      (.cond (.t 9) (.skip)
      (.exit 0)))
     (.seq (.blk 1 (.seq (.ops [
         ⟨(some 12), none, .mv (.t 3)⟩,
         ⟨(some 13), none, .mv (.t 4)⟩,
         ⟨(some 14), none, .iaddr 1 (.t 12) (.t 13)⟩,
         ⟨(some 15), none, .load 1 false (.t 14)⟩,
         ⟨(some 16), none, .mv (.t 0)⟩,
         ⟨(some 17), none, .bin .eql (.t 15) (.t 16)⟩] false)
       (.cond (.t 17) (.seq (.ops [
          ⟨(some 2), none, .mv (.c (.bool true))⟩] false)
        (.ret))
       (.skip))))
     (.ops [
      ⟨(some 10), none, .mv (.t 4)⟩,
      ⟨(some 11), none, .bin .add (.t 10) (.c (.int .i64 1))⟩,
      ⟨(some 4), none, .mv (.t 11)⟩] false))))))
  (.seq (.ops [
    ⟨(some 2), none, .mv (.c (.bool false))⟩] false)
  (.ret))))) }

def irIsName (fk fd fl : Nat) : IFn :=
 { nt := 39, res := [.t 2], body := (
  .seq (.ops [
    ⟨(some 2), none, .mv (.c (.bool false))⟩] false)
  (.seq (.seq (.ops [
     ⟨(some 4), none, .mv (.t 0)⟩,
     ⟨(some 5), none, .lenS (.t 4)⟩,
     ⟨(some 6), none, .bin .eql (.t 5) (.c (.int .i64 0))⟩,
     ⟨(some 7), none, .mv (.t 6)⟩,
     ⟨(some 8), (some (7, false)), .mv (.t 0)⟩,
     ⟨(some 9), (some (7, false)), .lenS (.t 8)⟩,
     ⟨(some 10), (some (7, false)), .bin .gtr (.t 9) (.c (.int .i64 40))⟩,
     ⟨(some 11), none, .pick (.t 7) (.c (.bool true)) (.t 10)⟩,
     ⟨(some 12), none, .mv (.t 11)⟩,
     ⟨(some 13), (some (12, false)), .mv (.t 0)⟩,
     ⟨(some 14), (some (12, false)), .call fk [(.t 13)]⟩,
     ⟨(some 15), none, .pick (.t 12) (.c (.bool true)) (.t 14)⟩,
     ⟨(some 16), none, .mv (.t 15)⟩,
     ⟨(some 17), (some (16, false)), .mv (.t 0)⟩,
     ⟨(some 18), (some (16, false)), .sidx (.t 17) (.c (.int .i64 0))⟩,
     ⟨(some 19), (some (16, false)), .call fd [(.t 18)]⟩,
     ⟨(some 20), none, .pick (.t 16) (.c (.bool true)) (.t 19)⟩] false)
   (.cond (.t 20) (.seq (.ops [
      ⟨(some 2), none, .mv (.c (.bool false))⟩] false)
    (.ret))
   (.skip)))
  (.seq (.seq (.ops [
     ⟨(some 3), none, .mv (.c (.int .i64 0))⟩] false)
   (.blk 0 (.loop (.seq (.seq (.ops [
        ⟨(some 21), none, .mv (.t 3)⟩,
        ⟨(some 22), none, .mv (.t 0)⟩,
        ⟨(some 23), none, .lenS (.t 22)⟩,
        ⟨(some 24), none, .bin .lss (.t 21) (.t 23)⟩] false)
      (.cond (.t 24) (.skip)
      (.exit 0)))
     (.seq (.blk 1 (.seq (.ops [
         ⟨(some 27), none, .mv (.t 0)⟩,
         ⟨(some 28), none, .mv (.t 3)⟩,
         ⟨(some 29), none, .sidx (.t 27) (.t 28)⟩,
         ⟨(some 30), none, .call fl [(.t 29)]⟩,
         ⟨(some 31), none, .un .not (.t 30)⟩,
         ⟨(some 32), none, .mv (.t 31)⟩,
         ⟨(some 33), (some (32, true)), .mv (.t 0)⟩,
         ⟨(some 34), (some (32, true)), .mv (.t 3)⟩,
         ⟨(some 35), (some (32, true)), .sidx (.t 33) (.t 34)⟩,
         ⟨(some 36), (some (32, true)), .call fd [(.t 35)]⟩,
         ⟨(some 37), (some (32, true)), .un .not (.t 36)⟩,
         ⟨(some 38), none, .pick (.t 32) (.t 37) (.c (.bool false))⟩] false)
       (.cond (.t 38) (.seq (.ops [
          ⟨(some 2), none, .mv (.c (.bool false))⟩] false)
        (.ret))
       (.skip))))
     (.ops [
      ⟨(some 25), none, .mv (.t 3)⟩,
      ⟨(some 26), none, .bin .add (.t 25) (.c (.int .i64 1))⟩,
      ⟨(some 3), none, .mv (.t 26)⟩] false))))))
  (.seq (.ops [
    ⟨(some 2), none, .mv (.c (.bool true))⟩] false)
  (.ret))))) }

def digitB (b : UInt8) : Bool := decide ((48 : Int) ≤ b.toNat) && decide ((b.toNat : Int) ≤ 57)
def letterB (b : UInt8) : Bool := (decide ((97 : Int) ≤ b.toNat) && decide ((b.toNat : Int) ≤ 122)) || (decide ((65 : Int) ≤ b.toNat) && decide ((b.toNat : Int) ≤ 90)) || decide ((b.toNat : Int) = 95)
def keysL : List (List UInt8) := [[117, 115, 101], [100, 101, 102], [108, 101, 116], [105, 102], [101, 108, 115, 101], [119, 104, 105, 108, 101], [112, 114, 105, 110, 116], [114, 101, 116, 117, 114, 110], [102, 110], [105, 110, 112, 117, 116], [105, 110, 116], [115, 116, 114], [100, 121, 110]]
def isNameB (s : List UInt8) : Bool := match s with
  | [] => false
  | b :: r => decide ((b :: r).length ≤ 40) && !decide ((b :: r) ∈ keysL) && !digitB b && (b :: r).all fun c => letterB c || digitB c

section
variable {P : Program}

theorem digit_acall {f : FuncId} {fn : Func} (hf : P.funcs[f]? = some fn) (hcf : compF P [] fn = some irDigit) (b : UInt8) (H : Hp) : ACall P f [.d (.int .u8 b.toNat)] H (fun r H' => r = .d (.bool (digitB b)) ∧ H' = H) := by
  refine acall_fin hf hcf (by simp [irDigit]) fun hcl _ => ?_
  simp [irDigit]
  refine GdK_split (by simp) (fun h => ?_) (fun h => ?_)
  · simp
    simp at h
    simp [RetK, cut_self hcl, digitB, h]
  · simp
    simp at h
    simp [RetK, cut_self hcl, digitB]
    omega

theorem letter_acall {f : FuncId} {fn : Func} (hf : P.funcs[f]? = some fn) (hcf : compF P [] fn = some irLetter) (b : UInt8) (H : Hp) : ACall P f [.d (.int .u8 b.toNat)] H (fun r H' => r = .d (.bool (letterB b)) ∧ H' = H) := by
  refine acall_fin hf hcf (by simp [irLetter]) fun hcl _ => ?_
  simp [irLetter]
  generalize ha : decide ((97 : Int) ≤ b.toNat) = a
  generalize hb : decide ((b.toNat : Int) ≤ 122) = c
  generalize hd : decide ((65 : Int) ≤ b.toNat) = d
  generalize he : decide ((b.toNat : Int) ≤ 90) = e
  have hl : letterB b = (a && c || d && e || decide ((b.toNat : Int) = 95)) := by simp only [letterB, ha, hb, hd, he]
  cases a <;> cases c <;> cases d <;> cases e <;> simp [ha, hb, hd, he] <;> simp [RetK, cut_self hcl, hl]

theorem isKey_acall {f : FuncId} {fn : Func} (hf : P.funcs[f]? = some fn) (hcf : compF P [] fn = some irIsKey) (s : List UInt8) (H : Hp) : ACall P f [.d (.str s)] H (fun r H' => r = .d (.bool (decide (s ∈ keysL))) ∧ H' = H) := by
  refine acall_fin hf hcf (by simp [irIsKey]) fun hcl _ => ?_
  simp [irIsKey]
  have hrows : [[D.str [117, 115, 101]], [D.str [100, 101, 102]], [D.str [108, 101, 116]], [D.str [105, 102]], [D.str [101, 108, 115, 101]], [D.str [119, 104, 105, 108, 101]], [D.str [112, 114, 105, 110, 116]], [D.str [114, 101, 116, 117, 114, 110]], [D.str [102, 110]], [D.str [105, 110, 112, 117, 116]], [D.str [105, 110, 116]], [D.str [115, 116, 114]], [D.str [100, 121, 110]]] = keysL.map fun x => [D.str x] := rfl
  rw [hrows]
  refine LoopK_outR 0 (fun fr H' => s ∉ keysL ∧ H' = H) (fun fr H' => fr 2 = .d (.bool true) ∧ s ∈ keysL ∧ H' = H) ?_ ?_ ?_
  · refine ForK_of H.length keysL.length (fun i fr H' => fr 0 = .d (.str s) ∧ fr 3 = .d (.sl false 1 (keysL.map fun x => [D.str x])) ∧ s ∉ keysL.take i ∧ H' = H) (by decide) (by decide) (by simp) (by simp) ?_ ?_
    · simp [cut_self hcl]
    · rintro i fr H' hi f4 ⟨f0, f3, hn, rfl⟩
      simp [f4, f3]
      refine BrK_split (fun h => ?_) (fun h => ?_)
      · have hlt : i < keysL.length := by simpa using h
        have hr := rowAt_map (fun x => [D.str x]) hlt
        have hm := List.getElem_mem hlt
        have ht : keysL.take (i + 1) = keysL.take i ++ [keysL[i]] := List.take_succ_eq_append_getElem hlt
        generalize keysL[i] = x at hr hm ht
        simp [f4, f3, hr, f0]
        refine BrK_split (fun h => ?_) (fun h => ?_)
        · have e : x = s := by simpa using h
          simp
          exact e ▸ hm
        · have e : x ≠ s := by simpa using h
          simp
          refine NextF_of H'.length (Nat.le_refl _) hlt (by simp [f4]) ?_
          simp [f0, f3, cut_self hcl, ht, hn]
          exact fun q => e q.symm
      · have hii : i = keysL.length := by have : ¬ i < keysL.length := by simpa using h
                                          omega
        rw [hii, List.take_of_length_le (Nat.le_refl _)] at hn
        simp [hn]
  · rintro fr H' ⟨f2, hm, rfl⟩
    simp
    simp [RetK, cut_self hcl, f2, hm]
  · rintro fr H' ⟨hm, rfl⟩
    simp
    simp [RetK, cut_self hcl, hm]

theorem isName_acall {f fk fd fl : FuncId} {fn : Func} (hf : P.funcs[f]? = some fn) (hcf : compF P [] fn = some (irIsName fk fd fl)) (hk : ∀ s H, ACall P fk [.d (.str s)] H (fun r H' => r = .d (.bool (decide (s ∈ keysL))) ∧ H' = H))
    (hd : ∀ (b : UInt8) H, ACall P fd [.d (.int .u8 b.toNat)] H (fun r H' => r = .d (.bool (digitB b)) ∧ H' = H)) (hl : ∀ (b : UInt8) H, ACall P fl [.d (.int .u8 b.toNat)] H (fun r H' => r = .d (.bool (letterB b)) ∧ H' = H)) (s : List UInt8) (H : Hp) :
    ACall P f [.d (.str s)] H (fun r H' => r = .d (.bool (isNameB s)) ∧ H' = H) := by
  refine acall_fin hf hcf (by simp [irIsName]) fun hcl _ => ?_
  cases s with
  | nil =>
    simp [irIsName]
    simp [RetK, cut_self hcl, isNameB]
  | cons b r =>
  have hne : ¬ (((b :: r).length : Int) = 0) := by simp; omega
  generalize hS : b :: r = S at hne
  have hb0 : byteAt S 0 = some b := by subst hS; rfl
  have hN : isNameB S = (decide (S.length ≤ 40) && !decide (S ∈ keysL) && !digitB b && S.all fun c => letterB c || digitB c) := by subst hS; rfl
  have hne' : ¬ S = [] := by subst hS; simp
  by_cases g1 : (40 : Int) < S.length
  case pos =>
    have : ¬ S.length ≤ 40 := by omega
    simp [irIsName, hne, hne', g1]
    simp [RetK, cut_self hcl, hN, this]
  have g1' : S.length ≤ 40 := by omega
  simp [irIsName, hne, hne', g1]
  refine CallK_of' (hk S _) ?_
  by_cases g2 : S ∈ keysL
  case pos =>
    simp [g2]
    simp [RetK, cut_self hcl, hN, g2]
  simp [g2, hb0]
  refine CallK_of' (hd b _) ?_
  cases g3 : digitB b with
  | true =>
    simp
    simp [RetK, cut_self hcl, hN, g3]
  | false =>
  simp
  refine LoopK_outR 0 (fun fr H' => (S.all fun c => letterB c || digitB c) = true ∧ H' = H) (fun fr H' => fr 2 = .d (.bool false) ∧ (S.all fun c => letterB c || digitB c) = false ∧ H' = H) ?_ ?_ ?_
  · refine ForK_of H.length S.length (fun i fr H' => fr 0 = .d (.str S) ∧ (∀ c ∈ S.take i, (letterB c || digitB c) = true) ∧ H' = H) (by omega) (by decide) (by simp) (by simp) ?_ ?_
    · simp [cut_self hcl]
    · rintro i fr H' hi f3 ⟨f0, hA, rfl⟩
      simp [f3, f0]
      refine BrK_split (fun h => ?_) (fun h => ?_)
      · have hlt : i < S.length := by simpa using h
        have hb : byteAt S (i : Int) = some S[i] := by simp [byteAt, hlt]
        have hm := List.getElem_mem hlt
        have ht : S.take (i + 1) = S.take i ++ [S[i]] := List.take_succ_eq_append_getElem hlt
        generalize S[i] = c at hb hm ht
        simp [f3, f0, hb]
        refine CallK_of' (hl c _) ?_
        cases e1 : letterB c with
        | true =>
          simp
          refine NextF_of H'.length (Nat.le_refl _) hlt (by simp [f3]) ?_
          simp [f0, cut_self hcl, ht]
          intro q hq
          rcases hq with hq | rfl
          · simpa using hA q hq
          · exact .inl e1
        | false =>
          simp [f3, f0, hb]
          refine CallK_of' (hd c _) ?_
          cases e2 : digitB c with
          | true =>
            simp
            refine NextF_of H'.length (Nat.le_refl _) hlt (by simp [f3]) ?_
            simp [f0, cut_self hcl, ht]
            intro q hq
            rcases hq with hq | rfl
            · simpa using hA q hq
            · exact .inr e2
          | false =>
            simp
            exact ⟨c, hm, e1, e2⟩
      · have hii : i = S.length := by have : ¬ i < S.length := by simpa using h
                                      omega
        rw [hii, List.take_of_length_le (Nat.le_refl _)] at hA
        simp
        simpa using hA
  · rintro fr H' ⟨f2, hm, rfl⟩
    simp
    simp [RetK, cut_self hcl, f2, hN, hm]
  · rintro fr H' ⟨hm, rfl⟩
    simp
    simp [RetK, cut_self hcl, hN, hm, g1', g2, g3]

end
end Go.Zam

namespace Go.Zam
set_option linter.all false
set_option maxRecDepth 100000
set_option maxHeartbeats 1000000

inductive T where
  | mk (k : Int) (z : Bool) (ns : List (List UInt8)) (y : Bool) (ps : List T)

def encStr (x : List UInt8) : List D := [.str x]

mutual
def T.enc : T → List D
  | .mk k z ns y ps => [.int .i64 k, .sl z 1 (ns.map encStr), .sl y 3 (T.encs ps)]
def T.encs : List T → List (List D)
  | [] => []
  | p :: r => T.enc p :: T.encs r
end
theorem T.encs_map : ∀ l : List T, T.encs l = l.map T.enc
  | [] => rfl
  | p :: r => by rw [T.encs, T.encs_map r]; rfl
theorem T.enc_mk (k : Int) (z : Bool) (ns : List (List UInt8)) (y : Bool) (ps : List T) : T.enc (.mk k z ns y ps) = [.int .i64 k, .sl z 1 (ns.map encStr), .sl y 3 (ps.map T.enc)] := by rw [T.enc, T.encs_map]

mutual
theorem T.ind {Q : T → Prop} (h : ∀ k z ns y ps, (∀ p ∈ ps, Q p) → Q (.mk k z ns y ps)) : ∀ v, Q v
  | .mk k z ns y ps => h k z ns y ps (T.inds h ps)
theorem T.inds {Q : T → Prop} (h : ∀ k z ns y ps, (∀ p ∈ ps, Q p) → Q (.mk k z ns y ps)) : ∀ l : List T, ∀ p ∈ l, Q p
  | [] => fun p hp => by simp at hp
  | x :: r => fun p hp => (List.mem_cons.1 hp).elim (fun e => e ▸ T.ind h x) (fun hp => T.inds h r p hp)
end

/-- no row in it is longer than a number -/
inductive T.Fit (b : Nat) : T → Prop
  | mk (k : Int) (z : Bool) (ns : List (List UInt8)) (y : Bool) (ps : List T) (h1 : ns.length ≤ b) (h2 : ps.length ≤ b) (h3 : ∀ x ∈ ns, x.length ≤ b) (h4 : ∀ p ∈ ps, T.Fit b p) : T.Fit b (.mk k z ns y ps)

def T.a (t : T) : A := .agg (t.enc.map .d)
theorem T.a_mk (k : Int) (z : Bool) (ns : List (List UInt8)) (y : Bool) (ps : List T) : T.a (.mk k z ns y ps) = .agg [.d (.int .i64 k), .d (.sl z 1 (ns.map encStr)), .d (.sl y 3 (ps.map T.enc))] := by rw [T.a, T.enc_mk]; rfl

def irTSize (bt fs : Nat) : IFn :=
 { nt := 46, res := [.t 6], body := (
  .seq (.ops [
    ⟨(some 3), none, .box bt 3 (.t 0)⟩,
    ⟨(some 6), none, .mv (.c (.int .i64 0))⟩] false)
  (.seq (.seq (.ops [
     ⟨(some 9), none, .mv (.t 2)⟩,
     ⟨(some 10), none, .bin .eql (.t 9) (.c (.int .i64 0))⟩,
     ⟨(some 11), none, .mv (.t 10)⟩,
     ⟨(some 12), (some (11, false)), .faddr 1 (.t 3)⟩,
     ⟨(some 13), (some (11, false)), .load 1 false (.t 12)⟩,
     ⟨(some 14), (some (11, false)), .lenL (.t 13)⟩,
     ⟨(some 15), (some (11, false)), .mv (.t 1)⟩,
     ⟨(some 16), (some (11, false)), .bin .gtr (.t 14) (.t 15)⟩,
     ⟨(some 17), none, .pick (.t 11) (.c (.bool true)) (.t 16)⟩] false)
   (.cond (.t 17) (.seq (.ops [
      ⟨(some 18), none, .mv (.t 1)⟩,
      ⟨(some 19), none, .bin .add (.t 18) (.c (.int .i64 1))⟩,
      ⟨(some 6), none, .mv (.t 19)⟩] false)
    (.ret))
   (.skip)))
  (.seq (.ops [
    ⟨(some 7), none, .mv (.c (.int .i64 1))⟩] false)
  (.seq (.seq (.ops [
     ⟨(some 8), none, .mv (.c (.int .i64 0))⟩] false)
   (.blk 0 (.loop (.seq (.seq (.ops [
        ⟨(some 20), none, .mv (.t 8)⟩,
        ⟨(some 21), none, .faddr 2 (.t 3)⟩,
        ⟨(some 22), none, .load 1 false (.t 21)⟩,
        ⟨(some 23), none, .lenL (.t 22)⟩,
        ⟨(some 24), none, .bin .lss (.t 20) (.t 23)⟩,
        ⟨(some 25), none, .mv (.t 24)⟩,
        ⟨(some 26), (some (25, true)), .mv (.t 7)⟩,
        ⟨(some 27), (some (25, true)), .mv (.t 1)⟩,
        ⟨(some 28), (some (25, true)), .bin .leq (.t 26) (.t 27)⟩,
        ⟨(some 29), none, .pick (.t 25) (.t 28) (.c (.bool false))⟩] false)
      (.cond (.t 29) (.skip)
      (.exit 0)))
     (.seq (.blk 1 (.ops [
        ⟨(some 32), none, .mv (.t 7)⟩,
        ⟨(some 33), none, .faddr 2 (.t 3)⟩,
        ⟨(some 34), none, .load 1 false (.t 33)⟩,
        ⟨(some 35), none, .mv (.t 8)⟩,
        ⟨(some 36), none, .iaddr 3 (.t 34) (.t 35)⟩,
        ⟨(some 37), none, .load 3 true (.t 36)⟩,
        ⟨(some 38), none, .mv (.t 1)⟩,
        ⟨(some 39), none, .mv (.t 7)⟩,
        ⟨(some 40), none, .bin .sub (.t 38) (.t 39)⟩,
        ⟨(some 41), none, .mv (.t 2)⟩,
        ⟨(some 42), none, .bin .sub (.t 41) (.c (.int .i64 1))⟩,
        ⟨(some 43), none, .call fs [(.t 37), (.t 40), (.t 42)]⟩,
        ⟨(some 44), none, .bin .add (.t 32) (.t 43)⟩,
        ⟨(some 7), none, .mv (.t 44)⟩] false))
     (.ops [
      ⟨(some 30), none, .mv (.t 8)⟩,
      ⟨(some 31), none, .bin .add (.t 30) (.c (.int .i64 1))⟩,
      ⟨(some 8), none, .mv (.t 31)⟩] false))))))
  (.seq (.ops [
    ⟨(some 45), none, .mv (.t 7)⟩,
    ⟨(some 6), none, .mv (.t 45)⟩] false)
  (.ret)))))) }

def irTSmall (bt fs : Nat) : IFn :=
 { nt := 13, res := [.t 6], body := (
  .seq (.ops [
    ⟨(some 3), none, .box bt 3 (.t 0)⟩,
    ⟨(some 6), none, .mv (.c (.bool false))⟩] false)
  (.seq (.ops [
    ⟨(some 7), none, .load 3 true (.t 3)⟩,
    ⟨(some 8), none, .mv (.t 1)⟩,
    ⟨(some 9), none, .mv (.t 2)⟩,
    ⟨(some 10), none, .call fs [(.t 7), (.t 8), (.t 9)]⟩,
    ⟨(some 11), none, .mv (.t 1)⟩,
    ⟨(some 12), none, .bin .leq (.t 10) (.t 11)⟩,
    ⟨(some 6), none, .mv (.t 12)⟩] false)
  (.ret))) }

def irTLight (bt fs : Nat) : IFn :=
 { nt := 5, res := [.t 2], body := (
  .seq (.ops [
    ⟨(some 1), none, .box bt 3 (.t 0)⟩,
    ⟨(some 2), none, .mv (.c (.bool false))⟩] false)
  (.seq (.ops [
    ⟨(some 3), none, .load 3 true (.t 1)⟩,
    ⟨(some 4), none, .call fs [(.t 3), (.c (.int .i64 200)), (.c (.int .i64 30))]⟩,
    ⟨(some 2), none, .mv (.t 4)⟩] false)
  (.ret))) }

def irTRight (bt fs fn : Nat) : IFn :=
 { nt := 103, res := [.t 2], body := (
  .seq (.ops [
    ⟨(some 1), none, .box bt 3 (.t 0)⟩,
    ⟨(some 2), none, .mv (.c (.bool false))⟩] false)
  (.seq (.seq (.ops [
     ⟨(some 5), none, .faddr 0 (.t 1)⟩,
     ⟨(some 6), none, .load 1 false (.t 5)⟩,
     ⟨(some 7), none, .bin .lss (.t 6) (.c (.int .i64 0))⟩,
     ⟨(some 8), none, .mv (.t 7)⟩,
     ⟨(some 9), (some (8, false)), .faddr 0 (.t 1)⟩,
     ⟨(some 10), (some (8, false)), .load 1 false (.t 9)⟩,
     ⟨(some 11), (some (8, false)), .bin .gtr (.t 10) (.c (.int .i64 4))⟩,
     ⟨(some 12), none, .pick (.t 8) (.c (.bool true)) (.t 11)⟩] false)
   (.cond (.t 12) (.seq (.ops [
      ⟨(some 2), none, .mv (.c (.bool false))⟩] false)
    (.ret))
   (.skip)))
  (.seq (.seq (.ops [
     ⟨(some 13), none, .faddr 0 (.t 1)⟩,
     ⟨(some 14), none, .load 1 false (.t 13)⟩,
     ⟨(some 15), none, .bin .leq (.t 14) (.c (.int .i64 2))⟩,
     ⟨(some 16), none, .mv (.t 15)⟩,
     ⟨(some 17), (some (16, true)), .faddr 1 (.t 1)⟩,
     ⟨(some 18), (some (16, true)), .load 1 false (.t 17)⟩,
     ⟨(some 19), (some (16, true)), .lenL (.t 18)⟩,
     ⟨(some 20), (some (16, true)), .bin .gtr (.t 19) (.c (.int .i64 0))⟩,
     ⟨(some 21), (some (16, true)), .mv (.t 20)⟩,
     ⟨(some 22), (some (21, false)), .faddr 2 (.t 1)⟩,
     ⟨(some 23), (some (21, false)), .load 1 false (.t 22)⟩,
     ⟨(some 24), (some (21, false)), .lenL (.t 23)⟩,
     ⟨(some 25), (some (21, false)), .bin .gtr (.t 24) (.c (.int .i64 0))⟩,
     ⟨(some 26), (some (16, true)), .pick (.t 21) (.c (.bool true)) (.t 25)⟩,
     ⟨(some 27), none, .pick (.t 16) (.t 26) (.c (.bool false))⟩] false)
   (.cond (.t 27) (.seq (.ops [
      ⟨(some 2), none, .mv (.c (.bool false))⟩] false)
    (.ret))
   (.skip)))
  (.seq (.seq (.ops [
     ⟨(some 28), none, .faddr 0 (.t 1)⟩,
     ⟨(some 29), none, .load 1 false (.t 28)⟩,
     ⟨(some 30), none, .bin .eql (.t 29) (.c (.int .i64 3))⟩,
     ⟨(some 31), none, .mv (.t 30)⟩,
     ⟨(some 32), (some (31, true)), .faddr 1 (.t 1)⟩,
     ⟨(some 33), (some (31, true)), .load 1 false (.t 32)⟩,
     ⟨(some 34), (some (31, true)), .lenL (.t 33)⟩,
     ⟨(some 35), (some (31, true)), .faddr 2 (.t 1)⟩,
     ⟨(some 36), (some (31, true)), .load 1 false (.t 35)⟩,
     ⟨(some 37), (some (31, true)), .lenL (.t 36)⟩,
     ⟨(some 38), (some (31, true)), .bin .neq (.t 34) (.t 37)⟩,
     ⟨(some 39), none, .pick (.t 31) (.t 38) (.c (.bool false))⟩,
     ⟨(some 40), none, .mv (.t 39)⟩,
     ⟨(some 41), (some (40, false)), .faddr 0 (.t 1)⟩,
     ⟨(some 42), (some (40, false)), .load 1 false (.t 41)⟩,
     ⟨(some 43), (some (40, false)), .bin .eql (.t 42) (.c (.int .i64 4))⟩,
     ⟨(some 44), (some (40, false)), .mv (.t 43)⟩,
     ⟨(some 45), (some (44, true)), .faddr 1 (.t 1)⟩,
     ⟨(some 46), (some (44, true)), .load 1 false (.t 45)⟩,
     ⟨(some 47), (some (44, true)), .lenL (.t 46)⟩,
     ⟨(some 48), (some (44, true)), .bin .gtr (.t 47) (.c (.int .i64 0))⟩,
     ⟨(some 49), (some (44, true)), .mv (.t 48)⟩,
     ⟨(some 50), (some (49, false)), .faddr 2 (.t 1)⟩,
     ⟨(some 51), (some (49, false)), .load 1 false (.t 50)⟩,
     ⟨(some 52), (some (49, false)), .lenL (.t 51)⟩,
     ⟨(some 53), (some (49, false)), .bin .eql (.t 52) (.c (.int .i64 0))⟩,
     ⟨(some 54), (some (44, true)), .pick (.t 49) (.c (.bool true)) (.t 53)⟩,
     ⟨(some 55), (some (40, false)), .pick (.t 44) (.t 54) (.c (.bool false))⟩,
     ⟨(some 56), none, .pick (.t 40) (.c (.bool true)) (.t 55)⟩] false)
   (.cond (.t 56) (.seq (.ops [
      ⟨(some 2), none, .mv (.c (.bool false))⟩] false)
    (.ret))
   (.skip)))
  (.seq (.seq (.ops [
     ⟨(some 3), none, .mv (.c (.int .i64 0))⟩] false)
   (.blk 0 (.loop (.seq (.seq (.ops [
        ⟨(some 57), none, .mv (.t 3)⟩,
        ⟨(some 58), none, .faddr 1 (.t 1)⟩,
        ⟨(some 59), none, .load 1 false (.t 58)⟩,
        ⟨(some 60), none, .lenL (.t 59)⟩,
        ⟨(some 61), none, .bin .lss (.t 57) (.t 60)⟩] false)
      (.cond (.t 61) (.skip)
      (.exit 0)))
     (.seq (.blk 1 (.seq (.ops [
         ⟨(some 64), none, .faddr 1 (.t 1)⟩,
         ⟨(some 65), none, .load 1 false (.t 64)⟩,
         ⟨(some 66), none, .mv (.t 3)⟩,
         ⟨(some 67), none, .iaddr 1 (.t 65) (.t 66)⟩,
         ⟨(some 68), none, .load 1 false (.t 67)⟩,
         ⟨(some 69), none, .call fn [(.t 68)]⟩,
         ⟨(some 70), none, .un .not (.t 69)⟩,
         ⟨(some 71), none, .mv (.t 70)⟩,
         ⟨(some 72), (some (71, false)), .mv (.t 3)⟩,
         ⟨(some 73), (some (71, false)), .bin .gtr (.t 72) (.c (.int .i64 0))⟩,
         ⟨(some 74), (some (71, false)), .mv (.t 73)⟩,
         ⟨(some 75), (some (74, true)), .faddr 1 (.t 1)⟩,
         ⟨(some 76), (some (74, true)), .load 1 false (.t 75)⟩,
         ⟨(some 77), (some (74, true)), .mv (.t 3)⟩,
         ⟨(some 78), (some (74, true)), .iaddr 1 (.t 76) (.t 77)⟩,
         ⟨(some 79), (some (74, true)), .load 1 false (.t 78)⟩,
         ⟨(some 80), (some (74, true)), .faddr 1 (.t 1)⟩,
         ⟨(some 81), (some (74, true)), .load 1 false (.t 80)⟩,
         ⟨(some 82), (some (74, true)), .mv (.t 3)⟩,
         ⟨(some 83), (some (74, true)), .bin .sub (.t 82) (.c (.int .i64 1))⟩,
         ⟨(some 84), (some (74, true)), .iaddr 1 (.t 81) (.t 83)⟩,
         ⟨(some 85), (some (74, true)), .load 1 false (.t 84)⟩,
         ⟨(some 86), (some (74, true)), .bin .leq (.t 79) (.t 85)⟩,
         ⟨(some 87), (some (71, false)), .pick (.t 74) (.t 86) (.c (.bool false))⟩,
         ⟨(some 88), none, .pick (.t 71) (.c (.bool true)) (.t 87)⟩] true)
       (.cond (.t 88) (.seq (.ops [
          ⟨(some 2), none, .mv (.c (.bool false))⟩] false)
        (.ret))
       (.skip))))
     (.ops [
      ⟨(some 62), none, .mv (.t 3)⟩,
      ⟨(some 63), none, .bin .add (.t 62) (.c (.int .i64 1))⟩,
      ⟨(some 3), none, .mv (.t 63)⟩] false))))))
  (.seq (.seq (.ops [
     ⟨(some 4), none, .mv (.c (.int .i64 0))⟩] false)
   (.blk 2 (.loop (.seq (.seq (.ops [
        ⟨(some 89), none, .mv (.t 4)⟩,
        ⟨(some 90), none, .faddr 2 (.t 1)⟩,
        ⟨(some 91), none, .load 1 false (.t 90)⟩,
        ⟨(some 92), none, .lenL (.t 91)⟩,
        ⟨(some 93), none, .bin .lss (.t 89) (.t 92)⟩] false)
      (.cond (.t 93) (.skip)
      (.exit 2)))
     (.seq (.blk 3 (.seq (.ops [
         ⟨(some 96), none, .faddr 2 (.t 1)⟩,
         ⟨(some 97), none, .load 1 false (.t 96)⟩,
         ⟨(some 98), none, .mv (.t 4)⟩,
         ⟨(some 99), none, .iaddr 3 (.t 97) (.t 98)⟩,
         ⟨(some 100), none, .load 3 true (.t 99)⟩,
         ⟨(some 101), none, .call fs [(.t 100)]⟩,
         ⟨(some 102), none, .un .not (.t 101)⟩] false)
       (.cond (.t 102) (.seq (.ops [
          ⟨(some 2), none, .mv (.c (.bool false))⟩] false)
        (.ret))
       (.skip))))
     (.ops [
      ⟨(some 94), none, .mv (.t 4)⟩,
      ⟨(some 95), none, .bin .add (.t 94) (.c (.int .i64 1))⟩,
      ⟨(some 4), none, .mv (.t 95)⟩] false))))))
  (.seq (.ops [
    ⟨(some 2), none, .mv (.c (.bool true))⟩] false)
  (.ret)))))))) }

section
variable {P : Program} {bt : Nat}

theorem tsize_acall {f : FuncId} {fn : Func} (hf : P.funcs[f]? = some fn) (hcf : compF P [] fn = some (irTSize bt f)) (v : T) : v.Fit 1048576 → ∀ (m d : Int) (H : Hp), ACall P f [v.a, .d (.int .i64 m), .d (.int .i64 d)] H (fun r H' => (∃ c : Int, r = .d (.int .i64 c)) ∧ H' = H) := by
  induction v using T.ind with
  | h k z ns y ps ih =>
  rintro (⟨_, _, _, _, _, b2, b3, b4, b5⟩) m d H
  refine acall_fin hf hcf (by simp [irTSize]) fun hcl _ => ?_
  rw [T.a_mk]
  by_cases h1 : d = 0
  case pos =>
    simp [irTSize, h1]
    simp [RetK, cut_app hcl]
  by_cases h2 : m < ns.length
  case pos =>
    simp [irTSize, h1, h2]
    simp [RetK, cut_app hcl]
  simp [irTSize, h1, h2]
  refine LoopK_outR 0 (fun fr H' => (∃ c : Int, fr 7 = .d (.int .i64 c)) ∧ ∃ X, H' = H ++ X) (fun _ _ => False) ?_ (fun _ _ h => h.elim) ?_
  · refine ForK_of (H.length + 1) ps.length (fun i fr H' => fr 1 = .d (.int .i64 m) ∧ fr 2 = .d (.int .i64 d) ∧ fr 3 = .ptr H.length 0 ∧ (∃ c : Int, fr 7 = .d (.int .i64 c)) ∧ H' = H ++ [.box bt [.d (.int .i64 k), .d (.sl z 1 (ns.map encStr)), .d (.sl y 3 (ps.map T.enc))]]) (by omega) (by decide) (by simp) (by simp) ?_ ?_
    · simp [cut_appk hcl]
    rintro i fr H' hi f8 ⟨f1, f2, f3, ⟨c, f7⟩, rfl⟩
    simp [f8, f3, f7, f1]
    refine GdK_split (by simp) (fun h => ?_) (fun h => ?_)
    · simp at h
      simp [f7, f1]
      refine BrK_split (fun h2 => ?_) (fun h2 => ?_)
      · have hr := rowAt_map T.enc h
        have hx := ih ps[i] (List.getElem_mem h) (b5 _ (List.getElem_mem h))
        generalize ps[i] = p at hr hx
        cases p with | mk k1 z1 ns1 y1 ps1 =>
        simp only [T.a_mk, T.enc_mk] at hr hx
        simp [f8, f3, f7, f2, f1, hr]
        refine CallK_of (hx _ _ _) ?_
        rintro x H2 ⟨⟨c2, rfl⟩, rfl⟩
        simp
        refine NextF_of (H.length + 1) (Nat.le_refl _) h (by simp [f8]) ?_
        simp [f1, f2, f3, cut_appk hcl]
      · simp [f7]
    · simp [f7]
  rintro fr H2 ⟨⟨c, f7⟩, X, rfl⟩
  simp [f7]
  simp [RetK, cut_app hcl]

theorem tsmall_acall {f fs : FuncId} {fn : Func} (hf : P.funcs[f]? = some fn) (hcf : compF P [] fn = some (irTSmall bt fs)) (hs : ∀ (v : T), v.Fit 1048576 → ∀ (m d : Int) (H : Hp), ACall P fs [v.a, .d (.int .i64 m), .d (.int .i64 d)] H (fun r H' => (∃ c : Int, r = .d (.int .i64 c)) ∧ H' = H))
    (v : T) (hv : v.Fit 1048576) (m d : Int) (H : Hp) : ACall P f [v.a, .d (.int .i64 m), .d (.int .i64 d)] H (fun r H' => (∃ c : Bool, r = .d (.bool c)) ∧ H' = H) := by
  refine acall_fin hf hcf (by simp [irTSmall]) fun hcl _ => ?_
  have hx := hs v hv m d
  cases v with | mk k1 z1 ns1 y1 ps1 =>
  simp only [T.a_mk] at hx ⊢
  simp [irTSmall]
  refine CallK_of (hx _) ?_
  rintro x H2 ⟨⟨c2, rfl⟩, rfl⟩
  simp
  simp [RetK, cut_app hcl]
  omega

theorem tlight_acall {f fs : FuncId} {fn : Func} (hf : P.funcs[f]? = some fn) (hcf : compF P [] fn = some (irTLight bt fs)) (hs : ∀ (v : T), v.Fit 1048576 → ∀ (m d : Int) (H : Hp), ACall P fs [v.a, .d (.int .i64 m), .d (.int .i64 d)] H (fun r H' => (∃ c : Bool, r = .d (.bool c)) ∧ H' = H))
    (v : T) (hv : v.Fit 1048576) (H : Hp) : ACall P f [v.a] H (fun r H' => (∃ c : Bool, r = .d (.bool c)) ∧ H' = H) := by
  refine acall_fin hf hcf (by simp [irTLight]) fun hcl _ => ?_
  have hx := hs v hv
  cases v with | mk k1 z1 ns1 y1 ps1 =>
  simp only [T.a_mk] at hx ⊢
  simp [irTLight]
  refine CallK_of (hx _ _ _) ?_
  rintro x H2 ⟨⟨c2, rfl⟩, rfl⟩
  simp
  simp [RetK, cut_app hcl]

theorem tright_acall {f fi : FuncId} {fn : Func} (hf : P.funcs[f]? = some fn) (hcf : compF P [] fn = some (irTRight bt f fi)) (hn : ∀ s H, ACall P fi [.d (.str s)] H (fun r H' => r = .d (.bool (isNameB s)) ∧ H' = H)) (v : T) :
    v.Fit 1048576 → ∀ (H : Hp), ACall P f [v.a] H (fun r H' => (∃ c : Bool, r = .d (.bool c)) ∧ H' = H) := by
  induction v using T.ind with
  | h k z ns y ps ih =>
  rintro (⟨_, _, _, _, _, b2, b3, b4, b5⟩) H
  refine acall_fin hf hcf (by simp [irTRight]) fun hcl _ => ?_
  rw [T.a_mk]
  generalize hB : H ++ [Ob.box bt [A.d (D.int IntKind.i64 k), A.d (D.sl z 1 (List.map encStr ns)), A.d (D.sl y 3 (List.map T.enc ps))]] = B
  have hB0 : B[H.length]? = some (Ob.box bt [A.d (D.int IntKind.i64 k), A.d (D.sl z 1 (List.map encStr ns)), A.d (D.sl y 3 (List.map T.enc ps))]) := by rw [← hB]; simp
  have hBl : B.length = H.length + 1 := by rw [← hB]; simp
  have hBc : Hp.cut (H.length + 1) B = B := by rw [← hB, cut_appk hcl]; simp
  have hBz : Hp.cut H.length B = H := by rw [← hB, cut_app hcl]
  have ret : ∀ fr H', ((∃ c : Bool, fr 2 = .d (.bool c)) ∧ H' = B) → Zam.Fin [Res.t 2] H.length (fun r H' => (∃ c : Bool, r = .d (.bool c)) ∧ H' = H) .ret fr H' := by
    rintro fr H' ⟨⟨c, f2⟩, rfl⟩
    simp [RetK, hBz, hBl, f2]
  simp only [irTRight]
  refine Seq_out (fun fr H' => fr 1 = .ptr H.length 0 ∧ H' = B) (fun _ _ => False) (by simp [hB]) (fun _ _ h => h.elim) ?_
  rintro fr H' ⟨f1, rfl⟩
  refine Seq_out (fun fr H2 => fr 1 = .ptr H.length 0 ∧ H2 = H') (fun fr H2 => (∃ c : Bool, fr 2 = .d (.bool c)) ∧ H2 = H') ?_ ret ?_
  · simp [f1, hB0]
    repeat' (first
      | (refine GdK_split (by simp) (fun h => ?_) (fun h => ?_) <;> simp [f1, hB0])
      | (refine BrK_split (fun h => ?_) (fun h => ?_) <;> simp [f1, hB0]))
  rintro fr H2 ⟨f1, rfl⟩
  refine Seq_out (fun fr H3 => fr 1 = .ptr H.length 0 ∧ H3 = H2) (fun fr H3 => (∃ c : Bool, fr 2 = .d (.bool c)) ∧ H3 = H2) ?_ ret ?_
  · simp [f1, hB0]
    repeat' (first
      | (refine GdK_split (by simp) (fun h => ?_) (fun h => ?_) <;> simp [f1, hB0])
      | (refine BrK_split (fun h => ?_) (fun h => ?_) <;> simp [f1, hB0]))
  rintro fr H3 ⟨f1, rfl⟩
  refine Seq_out (fun fr H4 => fr 1 = .ptr H.length 0 ∧ H4 = H3) (fun fr H4 => (∃ c : Bool, fr 2 = .d (.bool c)) ∧ H4 = H3) ?_ ret ?_
  · simp [f1, hB0]
    repeat' (first
      | (refine GdK_split (by simp) (fun h => ?_) (fun h => ?_) <;> simp [f1, hB0])
      | (refine BrK_split (fun h => ?_) (fun h => ?_) <;> simp [f1, hB0]))
  rintro fr H4 ⟨f1, rfl⟩
  refine Seq_out (fun fr H5 => fr 1 = .ptr H.length 0 ∧ H5 = H4) (fun fr H5 => (∃ c : Bool, fr 2 = .d (.bool c)) ∧ H5 = H4) ?_ ret ?_
  · simp
    refine LoopK_outR 0 (fun fr H5 => fr 1 = .ptr H.length 0 ∧ H5 = H4) (fun fr H5 => (∃ c : Bool, fr 2 = .d (.bool c)) ∧ H5 = H4) ?_ (fun fr H h => by simpa using h) (fun fr H h => by simpa using h)
    refine ForK_of (H.length + 1) ns.length (fun i fr H5 => fr 1 = .ptr H.length 0 ∧ H5 = H4) (by omega) (by decide) (by simp [hBl]) (by simp) ?_ ?_
    · simp [hBc, f1]
    rintro i fr H5 hi f3 ⟨f1, rfl⟩
    simp [f3, f1, hB0]
    refine BrK_split (fun h => ?_) (fun h => ?_)
    · have hlt : i < ns.length := by simpa using h
      have hr := rowAt_map encStr hlt
      simp only [encStr] at hr
      simp [f3, f1, hB0, encStr, hr]
      refine CallD_of (hn _ _) ?_
      cases isNameB ns[i] with
      | false => simp
      | true =>
        simp [f3]
        refine GdK_split (by simp) (fun h => ?_) (fun h => ?_)
        · have hpos : 0 < i := by simpa using h
          have hwm : IntKind.i64.wrap ((i : Int) - 1) = ((i - 1 : Nat) : Int) := by rw [wrap_i64 (by omega) (by omega)]; omega
          have hj : i - 1 < ns.length := by omega
          have rj := rowAt_map encStr hj
          simp only [encStr] at rj
          simp [f3, f1, hB0, encStr, hr, hwm, rj]
          refine BrK_split (fun h => ?_) (fun h => ?_)
          · simp
          · simp
            refine NextF_of (H.length + 1) (Nat.le_refl _) hlt (by simp [hBl, f3]) ?_
            simp [f1, hBc]
        · simp
          refine NextF_of (H.length + 1) (Nat.le_refl _) hlt (by simp [hBl, f3]) ?_
          simp [f1, hBc]
    · simp [f1]
  rintro fr H5 ⟨f1, rfl⟩
  simp
  refine LoopK_outR 2 (fun fr H6 => H6 = H5) (fun fr H6 => (∃ c : Bool, fr 2 = .d (.bool c)) ∧ H6 = H5) ?_ (fun fr H h => ret fr H h) ?_
  · refine ForK_of (H.length + 1) ps.length (fun i fr H6 => fr 1 = .ptr H.length 0 ∧ H6 = H5) (by omega) (by decide) (by simp [hBl]) (by simp) ?_ ?_
    · simp [hBc, f1]
    rintro i fr H6 hi f4 ⟨f1, rfl⟩
    simp [f4, f1, hB0]
    refine BrK_split (fun h => ?_) (fun h => ?_)
    · have hlt : i < ps.length := by simpa using h
      have hr := rowAt_map T.enc hlt
      have hx := ih ps[i] (List.getElem_mem hlt) (b5 _ (List.getElem_mem hlt))
      generalize ps[i] = p at hr hx
      cases p with | mk k1 z1 ns1 y1 ps1 =>
      simp only [T.a_mk, T.enc_mk] at hr hx
      simp [f4, f1, hB0, hr]
      refine CallK_of (hx _) ?_
      rintro x H7 ⟨⟨c, rfl⟩, rfl⟩
      cases c with
      | false => simp
      | true =>
        simp
        refine NextF_of (H.length + 1) (Nat.le_refl _) hlt (by simp [hBl, f4]) ?_
        simp [f1, hBc]
    · simp
  · rintro fr H6 rfl
    simp
    simp [RetK, hBz, hBl]

end
end Go.Zam

namespace Go.Proofs.Zv
open Go Go.Zam Go.Proofs
open Go.RowKit (Below)
set_option maxRecDepth 100000
set_option linter.all false
set_option maxHeartbeats 1000000

/-- a number's text, where the table of the powers of ten is as it is laid -/
theorem fmt_all {H0 : Hp} (h0 : H0[0]? = some (.glob 0 (Lib.pow10Tab.map fun z => Value.int .u64 z))) {n : Int} (hn : -9223372036854775808 ≤ n ∧ n ≤ 9223372036854775807) : FmtOk H0 n := by
  rintro H ⟨X, rfl⟩ κ w vs hr hl hv
  match vs, hl with
  | [v0, v1], _ =>
  have e0 := (hv 0 v0 _ rfl rfl).d_inv.int_inv
  have e1 := (hv 1 v1 _ rfl rfl).d_inv.int_inv
  subst e0; subst e1
  have hlt := (List.getElem?_eq_some_iff.1 h0).1
  have htab : Lib.TabIs Tryd.prog w "internal/strconv.uint64pow10" .u64 Lib.pow10Tab := glob_tab hr (by kernel_rfl) (by rw [List.getElem?_append_left hlt]; exact h0)
  refine (Tryd.strconv_FormatInt_10 n hn.1 hn.2 w htab).mono ?_
  rintro e w' ⟨rfl, k, os, rfl⟩
  have hb : Below w.heap.size w (Sort.grow (w.drewN k) os) := ⟨rfl, rfl, rfl, by simp [Sort.grow], fun i hi => by
    show (w.heap ++ os)[i]? = _
    rw [Array.getElem?_append_left hi]⟩
  exact ⟨_, κ, _, _, rfl, K.le_refl κ, hr.later hb, .d (DR.strOf _), rfl, rfl⟩

theorem digitOk (n : Nat) (hn : n < 10) (H : Hp) : ACall Tryd.prog 60 [.d (.int .i64 (n : Int))] H (fun r H' => r = .d (.str [UInt8.ofNat (48 + n)]) ∧ H' = H) := by
  refine acall_fin Tryd.func60 cf60 (by simp [ir60]) fun hcl _ => ?_
  have h1 : IntKind.i64.wrap (48 + (n : Int)) = 48 + (n : Int) := wrap_i64 (by omega) (by omega)
  have h2 : IntKind.u8.wrap (48 + (n : Int)) = 48 + (n : Int) := wrap_u8 (by omega) (by omega)
  have h3 : (48 + (n : Int)).toNat = 48 + n := by omega
  simp [ir60, h1, h2]
  simp [RetK, cut_self hcl, h3]

theorem decimalOk (N : Nat) : ∀ n : Int, n.natAbs ≤ N → (-9223372036854775808 ≤ n ∧ n ≤ 9223372036854775807) → ∀ H, ACall Tryd.prog 45 [.d (.int .i64 n)] H (fun r H' => r = .d (.str (Lib.itoa n)) ∧ H' = H) := by
  induction N using Nat.strongRecOn with
  | ind N ih =>
  intro n hN hn H
  refine acall_fin Tryd.func45 cf45 (by simp [ir45]) fun hcl _ => ?_
  by_cases h0 : n < 0
  · have hi : Lib.itoa n = 45 :: Lib.decDigits n.natAbs := by simp [Lib.itoa, h0]
    by_cases h9 : n.natAbs < 10
    · have hq : n.tdiv 10 = 0 := by
        have h := Int.natAbs_tdiv n 10
        have h2 : n.natAbs / (10 : Int).natAbs = 0 := Nat.div_eq_of_lt h9
        have h3 : (n.tdiv 10).natAbs = 0 := h.trans h2
        omega
      have hw0 : IntKind.i64.wrap 0 = 0 := rfl
      have hneg : IntKind.i64.wrap (0 - n) = (n.natAbs : Int) := by rw [wrap_i64 (by omega) (by omega)]; omega
      have hd := digitOk n.natAbs h9
      have hde : Lib.decDigits n.natAbs = [UInt8.ofNat (48 + n.natAbs)] := by rw [Lib.decDigits, dif_pos h9]
      simp only [Int.zero_sub] at hneg
      simp [ir45, h0, hq, hw0, hneg]
      refine CallK_of' (hd _) ?_
      simp
      simp [RetK, cut_self hcl, hi, hde]
    · have hqa : (n.tdiv 10).natAbs = n.natAbs / 10 := Int.natAbs_tdiv n 10
      have hqn : ¬ n.tdiv 10 = 0 := by omega
      have hqneg : n.tdiv 10 < 0 := by
        have : n.tdiv 10 ≤ 0 := by
          have h := Int.tdiv_nonneg (a := -n) (b := 10) (by omega) (by omega)
          rw [Int.neg_tdiv] at h; omega
        omega
      have hqr : -9223372036854775808 ≤ n.tdiv 10 ∧ n.tdiv 10 ≤ 9223372036854775807 := by omega
      have hw : IntKind.i64.wrap (n.tdiv 10) = n.tdiv 10 := wrap_i64 hqr.1 hqr.2
      have hm : n.tmod 10 = -((n.natAbs % 10 : Nat) : Int) := by
        have h1 := Int.mul_tdiv_add_tmod n 10
        omega
      have hwm : IntKind.i64.wrap (0 - n.tmod 10) = ((n.natAbs % 10 : Nat) : Int) := by rw [hm, wrap_i64 (by omega) (by omega)]; omega
      simp only [Int.zero_sub] at hwm
      have hx := ih (n.natAbs / 10) (by omega) (n.tdiv 10) (by omega) hqr
      have hiq : Lib.itoa (n.tdiv 10) = 45 :: Lib.decDigits (n.natAbs / 10) := by simp [Lib.itoa, hqneg, hqa]
      have hd := digitOk (n.natAbs % 10) (by omega)
      have hde : Lib.decDigits n.natAbs = Lib.decDigits (n.natAbs / 10) ++ [UInt8.ofNat (48 + n.natAbs % 10)] := by rw [Lib.decDigits, dif_neg h9]
      have hlen := itoa_len hqr
      rw [hiq] at hx hlen
      simp at hlen
      have hle : (Lib.decDigits (n.natAbs / 10)).length + 1 + 1 ≤ 9223372036854775807 := by omega
      have hle2 : (Lib.decDigits (n.natAbs / 10)).length ≤ 9223372036854775805 := by omega
      simp [ir45, h0, hqn, hw]
      refine CallK_of' (hx _) ?_
      simp [hwm, -Int.natCast_emod]
      refine CallK_of' (hd _) ?_
      simp [hle, hle2]
      simp [RetK, cut_self hcl, hi, hde]
  · have hi : Lib.itoa n = Lib.decDigits n.toNat := by simp [Lib.itoa, h0]
    obtain ⟨m, rfl⟩ : ∃ m : Nat, n = m := ⟨n.toNat, by omega⟩
    by_cases h9 : m < 10
    · have hd := digitOk m h9
      have hde : Lib.decDigits m = [UInt8.ofNat (48 + m)] := by rw [Lib.decDigits, dif_pos h9]
      have h9' : (m : Int) < 10 := by omega
      simp [ir45, h0, h9']
      refine CallK_of' (hd _) ?_
      simp
      simp [RetK, cut_self hcl, hi, hde]
    · have hq : ((m : Int)).tdiv 10 = ((m / 10 : Nat) : Int) := by rw [Int.tdiv_eq_ediv_of_nonneg (by omega)]; omega
      have hmm : ((m : Int)).tmod 10 = ((m % 10 : Nat) : Int) := by rw [Int.tmod_eq_emod_of_nonneg (by omega)]; omega
      have hw : IntKind.i64.wrap ((m / 10 : Nat) : Int) = ((m / 10 : Nat) : Int) := wrap_i64 (by omega) (by omega)
      have hx := ih (m / 10) (by simp at hN; omega) ((m / 10 : Nat) : Int) (by rw [Int.natAbs_natCast]; omega) (by omega)
      have hiq : Lib.itoa ((m / 10 : Nat) : Int) = Lib.decDigits (m / 10) := by
        have : ¬ ((m / 10 : Nat) : Int) < 0 := by omega
        simp only [Lib.itoa, this, if_false, Int.toNat_natCast]
      have hd := digitOk (m % 10) (by omega)
      have hde : Lib.decDigits m = Lib.decDigits (m / 10) ++ [UInt8.ofNat (48 + m % 10)] := by rw [Lib.decDigits, dif_neg h9]
      have hlen := itoa_len (n := ((m / 10 : Nat) : Int)) (by omega)
      rw [hiq] at hx hlen
      have h9' : ¬ (m : Int) < 10 := by omega
      have hle : (Lib.decDigits (m / 10)).length + 1 ≤ 9223372036854775807 := by omega
      have hle2 : (Lib.decDigits (m / 10)).length ≤ 9223372036854775806 := by omega
      simp [ir45, h0, h9', hq, hw, -Int.natCast_ediv]
      refine CallK_of' (hx _) ?_
      simp [hmm, -Int.natCast_emod]
      refine CallK_of' (hd _) ?_
      simp [hle, hle2]
      simp [RetK, cut_self hcl, hi, hde]

theorem byte_ne {b : UInt8} {k : Nat} (hk : k < 256) (h : b ≠ UInt8.ofNat k) : ¬ ((b.toNat : Int) = (k : Int)) := fun e => h (by
  have : b.toNat = k := by omega
  rw [← this]; simp)

theorem rquoteOk (s : Str) (hs : s.length ≤ 1048576) (H : Hp) : ACall Tryd.prog 46 [.d (.str s)] H (fun r H' => r = .d (.str (quoteV s)) ∧ H' = H) := by
  refine acall_fin Tryd.func46 cf46 (by simp [ir46]) fun hcl _ => ?_
  simp [ir46]
  refine LoopK_outR 0 (fun fr H' => fr 3 = .d (.str (34 :: s.flatMap esc)) ∧ H' = H) (fun _ _ => False) ?_ (fun _ _ h => h.elim) ?_
  · refine ForK_of H.length s.length (fun i fr H' => fr 0 = .d (.str s) ∧ fr 3 = .d (.str (34 :: (s.take i).flatMap esc)) ∧ H' = H) (by omega) (by decide) (by simp) (by simp) ?_ ?_
    · simp [cut_self hcl]
    rintro i fr H' hi f4 ⟨f0, f3, rfl⟩
    simp [f4, f0]
    refine BrK_split (fun h => ?_) (fun h => ?_)
    · have hlt : i < s.length := by simpa using h
      have hb : byteAt s (i : Int) = some s[i] := by simp [byteAt, hlt]
      have hsub : subL s (i : Int) ((i + 1 : Nat) : Int) = some [s[i]] := by
        rw [subL_ok (by omega)]
        have : ((i + 1 : Nat) : Int).toNat - (i : Int).toNat = 1 := by omega
        rw [this, Int.toNat_natCast, List.take_one]
        simp [hlt]
      have hw : IntKind.i64.wrap ((i : Int) + 1) = ((i + 1 : Nat) : Int) := by rw [wrap_i64 (by omega) (by omega)]; omega
      have ht : s.take (i + 1) = s.take i ++ [s[i]] := List.take_succ_eq_append_getElem hlt
      have hlen : ((s.take i).flatMap esc).length ≤ 2097152 := by
        have := flatMap_len (s.take i)
        simp only [List.length_take] at this; omega
      generalize s[i] = b at hb hsub ht
      have hes : (s.take (i + 1)).flatMap esc = (s.take i).flatMap esc ++ esc b := by rw [ht]; simp
      generalize (s.take i).flatMap esc = X at hlen hes f3
      have c1 : X.length + 1 + 1 ≤ 9223372036854775807 := by omega
      have c2 : X.length + 1 + 2 ≤ 9223372036854775807 := by omega
      have c3 : X.length ≤ 9223372036854775805 := by omega
      have c4 : X.length ≤ 9223372036854775804 := by omega
      by_cases h1 : b = 10
      · subst h1
        rw [show esc 10 = [92, 110] from rfl] at hes
        simp [f4, f0, hb, f3, c2, c4]
        refine NextF_of H'.length (Nat.le_refl _) hlt (by simp [f4]) ?_
        simp [f0, cut_self hcl, hes]
      by_cases h2 : b = 9
      · subst h2
        rw [show esc 9 = [92, 116] from rfl] at hes
        simp [f4, f0, hb, f3, c2, c4]
        refine NextF_of H'.length (Nat.le_refl _) hlt (by simp [f4]) ?_
        simp [f0, cut_self hcl, hes]
      by_cases h3 : b = 34
      · subst h3
        rw [show esc 34 = [92, 34] from rfl] at hes
        simp [f4, f0, hb, f3, c2, c4]
        refine NextF_of H'.length (Nat.le_refl _) hlt (by simp [f4]) ?_
        simp [f0, cut_self hcl, hes]
      by_cases h4 : b = 92
      · subst h4
        rw [show esc 92 = [92, 92] from rfl] at hes
        simp [f4, f0, hb, f3, c2, c4]
        refine NextF_of H'.length (Nat.le_refl _) hlt (by simp [f4]) ?_
        simp [f0, cut_self hcl, hes]
      rw [show esc b = [b] by simp [esc, h1, h2, h3, h4]] at hes
      have k1 : ¬ ((b.toNat : Int) = 10) := byte_ne (k := 10) (by omega) h1
      have k2 : ¬ ((b.toNat : Int) = 9) := byte_ne (k := 9) (by omega) h2
      have k3 : ¬ ((b.toNat : Int) = 34) := byte_ne (k := 34) (by omega) h3
      have k4 : ¬ ((b.toNat : Int) = 92) := byte_ne (k := 92) (by omega) h4
      have k1' : ¬ b.toNat = 10 := by omega
      have k2' : ¬ b.toNat = 9 := by omega
      have k3' : ¬ b.toNat = 34 := by omega
      have k4' : ¬ b.toNat = 92 := by omega
      rw [show ((i + 1 : Nat) : Int) = (i : Int) + 1 by omega] at hsub hw
      simp [f4, f0, hb, f3, c1, c3, k1, k2, k3, k4, k1', k2', k3', k4', hw, hsub]
      refine NextF_of H'.length (Nat.le_refl _) hlt (by simp [f4]) ?_
      simp [f0, cut_self hcl, hes]
    · have hii : i = s.length := by have : ¬ i < s.length := by simpa using h
                                    omega
      rw [hii, List.take_of_length_le (Nat.le_refl _)] at f3
      simp [f3]
  rintro fr H' ⟨f3, rfl⟩
  have hlen := flatMap_len s
  generalize hX : s.flatMap esc = X at f3 hlen
  have c1 : X.length + 1 + 1 ≤ 9223372036854775807 := by omega
  have c2 : X.length ≤ 9223372036854775805 := by omega
  simp [f3, c1, c2]
  simp [RetK, cut_self hcl, quoteV, hX]

end Go.Proofs.Zv

namespace Go.Proofs.Zv
open Go Go.Zam Go.Proofs
set_option maxRecDepth 100000
set_option linter.all false
set_option maxHeartbeats 1000000

theorem join_snoc (sep : Str) (l : List Str) (x : Str) : Lib.join (l ++ [x]) sep = Lib.join l sep ++ (if l = [] then [] else sep) ++ x := by
  cases l with
  | nil => simp [Lib.join_one, Lib.join_nil]
  | cons y r =>
    rw [List.cons_append, Lib.join_cons, Lib.join_cons]
    simp [Lib.joinTail]

theorem text_sum (k n : Int) (s : Str) (z : Bool) (ns : List Str) (y : Bool) (ps : List V) (hf : (V.mk k n s z ns y ps).Fit 1048576) : ((List.zipWith pairT ns (ps.map V.text)).map fun x => x.length + 2).sum + 2 ≤ 24 * (V.mk k n s z ns y ps).bulk := by
  obtain ⟨_, _, _, _, _, _, _, b1, b2, b3, bn, b4, b5⟩ := hf
  have hz := zip_len ns (ps.map V.text)
  have hs : ((ps.map V.text).map List.length).sum ≤ 24 * (ps.map fun x => D.bulkC (V.enc x)).sum := by
    clear hz b3
    induction ps with
    | nil => simp
    | cons p r ih2 =>
      have h1 := text_len p (b5 p (by simp))
      have h2 := ih2 (fun q hq => b5 q (by simp [hq]))
      simp only [V.bulk] at h1
      simp only [List.map_cons, List.sum_cons]; omega
  have hN : D.bulkR (ns.map encS) = (ns.map fun x => x.length + 1).sum := by rw [bulkR_sum]; simp [encS, D.bulkC, D.bulk]
  have hP := bulkR_sum V.enc ps
  simp only [V.bulk, V.enc_mk k, D.bulkC, D.bulk, hN, hP]
  omega

theorem sum_take : ∀ (l : List Nat) (i : Nat), (l.take i).sum ≤ l.sum
  | [], i => by simp
  | x :: l, 0 => by simp
  | x :: l, i + 1 => by have := sum_take l i; simp; omega

theorem rtextOk (v : V) : v.Fit 1048576 → v.bulk ≤ 1048576 → v.Right → ∀ H, ACall Tryd.prog 30 [v.a] H (fun r H' => r = .d (.str v.text) ∧ H' = H) := by
  induction v using V.ind with
  | h k n s z ns y ps ih =>
  rintro hf hb hR H
  have hsum := text_sum k n s z ns y ps hf
  obtain ⟨_, _, _, _, _, _, _, b1, b2, b3, bn, b4, b5⟩ := hf
  refine acall_fin Tryd.func30 cf30 (by simp [ir30]) fun hcl _ => ?_
  rw [V.a_mk]
  obtain ⟨⟨⟨g0, g0'⟩, -⟩, ⟨-, hl⟩, -, hA⟩ := (right_iff ..).1 hR
  by_cases h1 : k = 1
  case pos =>
    simp [ir30, h1]
    refine CallK_of' (decimalOk _ n (Nat.le_refl _) bn _) ?_
    simp
    simp [RetK, cut_app hcl, V.text_mk, h1]
  by_cases h2 : k = 2
  case pos =>
    simp [ir30, h1, h2]
    refine CallK_of' (rquoteOk s b1 _) ?_
    simp
    simp [RetK, cut_app hcl, V.text_mk, h1, h2]
  by_cases h4 : k = 4
  case pos =>
    simp [ir30, h1, h2, h4]
    refine CallK_of' (decimalOk _ n (Nat.le_refl _) bn _) ?_
    have hi := itoa_len bn
    have hle : 3 + (Lib.itoa n).length ≤ 9223372036854775807 := by omega
    simp [hle]
    simp [RetK, cut_app hcl, V.text_mk, h1, h2, h4]
  have h3 : k = 3 := by omega
  subst h3
  simp [ir30]
  have htx : (V.mk 3 n s z ns y ps).text = [123] ++ Lib.join (List.zipWith pairT ns (ps.map V.text)) [44, 32] ++ [125] := by rw [V.text_mk]; simp
  generalize hZ : List.zipWith pairT ns (ps.map V.text) = Z at hsum htx
  have hZl : Z.length = ns.length := by rw [← hZ]; simp; omega
  have hbd : ∀ i, (Lib.join (Z.take i) [44, 32]).length ≤ 25165824 := fun i => by
    have h1 : (Lib.join (Z.take i) [44, 32]).length ≤ ((Z.take i).map fun x => x.length + 2).sum := join_len [44, 32] 0 _
    have h2 := sum_take (Z.map fun x => x.length + 2) i
    rw [← List.map_take] at h2
    omega
  have add : ∀ a b c : Str, a ++ b = c → c.length ≤ 100000000 → strOp .add a b = some (.str c) := fun a b c e h => by
    subst e
    simp only [List.length_append] at h
    simp only [strOp]
    rw [if_pos (by omega)]
  refine LoopK_outR 1 (fun fr H' => fr 3 = .d (.str (123 :: Lib.join Z [44, 32])) ∧ ∃ X, H' = H ++ X) (fun _ _ => False) ?_ (fun _ _ h => h.elim) ?_
  · refine ForK_of (H.length + 1) ns.length (fun i fr H' => fr 1 = .ptr H.length 0 ∧ fr 3 = .d (.str (123 :: Lib.join (Z.take i) [44, 32])) ∧
      H' = H ++ [.box 25 [.d (.int .i64 3), .d (.int .i64 n), .d (.str s), .d (.sl z 1 (ns.map encS)), .d (.sl y 5 (ps.map V.enc))]]) (by omega) (by decide) (by simp) (by simp) ?_ ?_
    · simp [cut_appk hcl, Lib.join_nil]
    rintro i fr H' hi f4 ⟨f1, f3, rfl⟩
    simp [f4, f1]
    refine BrK_split (fun h => ?_) (fun h => ?_)
    · have hlt : i < ns.length := by simpa using h
      have hip : i < ps.length := by omega
      have hiZ : i < Z.length := by omega
      have ra := rowAt_map encS hlt
      have rb := rowAt_map V.enc hip
      have hm := List.getElem_mem hip
      have hx := ih ps[i] hm (b5 _ hm) (Nat.le_trans (V.bulk_part hm) hb) (hA _ hm)
      have hl1 := b4 ns[i] (List.getElem_mem hlt)
      have hl2 := text_len ps[i] (b5 _ hm)
      have hl3 := V.bulk_part (k := 3) (n := n) (s := s) (z := z) (ns := ns) (y := y) hm
      have hZi : Z[i] = pairT ns[i] ps[i].text := by subst hZ; simp
      have ht : Z.take (i + 1) = Z.take i ++ [Z[i]] := List.take_succ_eq_append_getElem hiZ
      have hjn := join_snoc [44, 32] (Z.take i) Z[i]
      rw [← ht, hZi] at hjn
      have hbi := hbd i
      have hemp : Z.take i = [] ↔ i = 0 := by
        constructor
        · intro e
          rcases List.take_eq_nil_iff.1 e with e | e
          · exact e
          · rw [e] at hiZ; simp at hiZ
        · intro e; simp [e]
      simp only [hemp] at hjn
      generalize ns[i] = nm at ra hl1 hjn
      generalize ps[i] = p at rb hx hl2 hl3 hjn
      generalize p.text = tx at hx hl2 hjn
      generalize Lib.join (Z.take i) [44, 32] = J at f3 hbi hjn
      have htl : tx.length ≤ 25165824 := by omega
      cases p with | mk k' n' s' z' ns' y' ps' =>
      simp only [V.a_mk, V.enc_mk, encS] at ra rb hx
      simp [f4]
      refine BrK_split (fun h => ?_) (fun h => ?_)
      · have h0 : ¬ i = 0 := by have : 0 < i := by simpa using h
                                omega
        rw [if_neg h0] at hjn
        have sa1 := add (123 :: J) [44, 32] (123 :: (J ++ [44, 32])) (by simp) (by simp; omega)
        have sa2 := add (123 :: (J ++ [44, 32])) nm (123 :: (J ++ 44 :: 32 :: nm)) (by simp) (by simp; omega)
        have sa3 := add (123 :: (J ++ 44 :: 32 :: nm)) [58, 32] (123 :: (J ++ 44 :: 32 :: (nm ++ [58, 32]))) (by simp) (by simp; omega)
        have sa4 := add (123 :: (J ++ 44 :: 32 :: (nm ++ [58, 32]))) tx (123 :: (J ++ 44 :: 32 :: (nm ++ 58 :: 32 :: tx))) (by simp) (by simp; omega)
        simp [f4, f3, f1, sa1, sa2, sa3, sa4, ra, rb, -strOp]
        refine CallD_of (hx _) ?_
        simp [sa4, -strOp]
        refine NextF_of (H.length + 1) (Nat.le_refl _) hlt (by simp [f4]) ?_
        simp [f1, cut_appk hcl, hjn, pairT]
      · have h0 : i = 0 := by have : ¬ 0 < i := by simpa using h
                              omega
        rw [if_pos h0] at hjn
        have sa2 := add (123 :: J) nm (123 :: (J ++ nm)) (by simp) (by simp; omega)
        have sa3 := add (123 :: (J ++ nm)) [58, 32] (123 :: (J ++ (nm ++ [58, 32]))) (by simp) (by simp; omega)
        have sa4 := add (123 :: (J ++ (nm ++ [58, 32]))) tx (123 :: (J ++ (nm ++ 58 :: 32 :: tx))) (by simp) (by simp; omega)
        simp [f4, f3, f1, sa2, sa3, sa4, ra, rb, -strOp]
        refine CallD_of (hx _) ?_
        simp [sa4, -strOp]
        refine NextF_of (H.length + 1) (Nat.le_refl _) hlt (by simp [f4]) ?_
        simp [f1, cut_appk hcl, hjn, pairT]
    · have hii : i = ns.length := by have : ¬ i < ns.length := by simpa using h
                                     omega
      rw [hii, ← hZl, List.take_of_length_le (Nat.le_refl _)] at f3
      simp [f3]
  rintro fr H' ⟨f3, X, rfl⟩
  have hbi := hbd Z.length
  rw [List.take_of_length_le (Nat.le_refl _)] at hbi
  have c1 : (Lib.join Z [44, 32]).length + 1 + 1 ≤ 9223372036854775807 := by omega
  have c2 : (Lib.join Z [44, 32]).length ≤ 9223372036854775805 := by omega
  simp [f3, c1, c2]
  simp [RetK, cut_app hcl, htx]

end Go.Proofs.Zv

namespace Go.Proofs.Zv
open Go Go.Zam Go.Proofs
set_option maxRecDepth 100000
set_option linter.all false
set_option maxHeartbeats 1000000

theorem rfitsOk (v : V) (tk : Int) (tz ty : Bool) (tns : List Str) (trows : List (List D)) (hv : v.Fit 1048576) (ht : tns.length ≤ 1048576) (hr : trows.length ≤ 1048576) (H : Hp) :
    ACall Tryd.prog 31 [v.a, .agg [.d (.int .i64 tk), .d (.sl tz 1 (tns.map encS)), .d (.sl ty 3 trows)]] H (fun r H' => r = .d (.bool (@decide (FitsV v tk tns trows.length) (Classical.propDecidable _))) ∧ H' = H) := by
  obtain ⟨k, n, s, z, ns, y, ps, b1, b2, b3, bn, b4, b5⟩ := hv
  refine acall_fin Tryd.func31 cf31 (by simp [ir31]) fun hcl _ => ?_
  rw [V.a_mk]
  by_cases h0 : tk = 0
  case pos =>
    have hF : FitsV (.mk k n s z ns y ps) tk tns trows.length := .inl h0
    simp [ir31, h0]
    subst h0
    simp [RetK, cut_app hcl, hF]
  by_cases hk : k = tk
  case neg =>
    have hF : ¬ FitsV (.mk k n s z ns y ps) tk tns trows.length := by
      simp only [FitsV]
      omega
    simp [ir31, h0, hk]
    simp [RetK, cut_app hcl, hF]
  subst hk
  by_cases h4 : k = 4
  case pos =>
    have hw : IntKind.i64.wrap ((trows.length : Int) - 1) = trows.length - 1 := wrap_i64 (by omega) (by omega)
    have hF : FitsV (.mk k n s z ns y ps) k tns trows.length ↔ n = (trows.length : Int) - 1 := by simp [FitsV, h4]
    simp [ir31, h4, hw]
    subst h4
    simp [RetK, cut_app hcl, hF]
  simp [ir31, h0, h4]
  have hF : FitsV (.mk k n s z ns y ps) k tns trows.length ↔ (k = 3 → ∀ x ∈ tns, x ∈ ns) := by
    simp only [FitsV]
    by_cases h3 : k = 3
    · simp [h3]
    · simp [h0, h3, h4]
  generalize FitsV (.mk k n s z ns y ps) k tns trows.length = F at hF
  generalize hB : H ++ [Ob.box 25 [.d (.int .i64 k), .d (.int .i64 n), .d (.str s), .d (.sl z 1 (ns.map encS)), .d (.sl y 5 (ps.map V.enc))], Ob.box 55 [.d (.int .i64 k), .d (.sl tz 1 (tns.map encS)), .d (.sl ty 3 trows)]] = B
  have hB0 : B[H.length]? = some (Ob.box 25 [.d (.int .i64 k), .d (.int .i64 n), .d (.str s), .d (.sl z 1 (ns.map encS)), .d (.sl y 5 (ps.map V.enc))]) := by rw [← hB]; simp
  have hB1 : B[H.length + 1]? = some (Ob.box 55 [.d (.int .i64 k), .d (.sl tz 1 (tns.map encS)), .d (.sl ty 3 trows)]) := by rw [← hB]; simp
  have hBl : B.length = H.length + 2 := by rw [← hB]; simp
  have hBc : Hp.cut (H.length + 2) B = B := by rw [← hB, cut_appk hcl]; simp
  have hBz : Hp.cut H.length B = H := by rw [← hB, cut_app hcl]
  refine LoopK_outR 0 (fun fr H' => (k = 3 → ∀ x ∈ tns, x ∈ ns) ∧ H' = B) (fun fr H' => fr 4 = .d (.bool false) ∧ ¬ (k = 3 → ∀ x ∈ tns, x ∈ ns) ∧ H' = B) ?_ ?_ ?_
  · refine ForK_of (H.length + 2) tns.length (fun i fr H' => fr 2 = .ptr H.length 0 ∧ fr 3 = .ptr (H.length + 1) 0 ∧ (k = 3 → ∀ x ∈ tns.take i, x ∈ ns) ∧ H' = B) (by omega) (by decide) (by simp [hBl]) (by simp) ?_ ?_
    · simp [hBc, hB]
    rintro i fr H' hi f5 ⟨f2, f3, hn, rfl⟩
    simp [f5, f3, hB1]
    refine GdK_split (by simp) (fun h => ?_) (fun h => ?_)
    · have hlt : i < tns.length := by simpa using h
      simp [f3, hB1]
      refine BrK_split (fun h3 => ?_) (fun h3 => ?_)
      · have h3' : k = 3 := by simpa using h3
        have hra := rowAt_map encS hlt
        have hmem : tns[i] ∈ tns := List.getElem_mem hlt
        have ht : tns.take (i + 1) = tns.take i ++ [tns[i]] := List.take_succ_eq_append_getElem hlt
        simp only [encS] at hra
        generalize tns[i] = x at hra hmem ht
        simp
        refine LoopK_out 2 (fun fr H2 => fr 2 = .ptr H.length 0 ∧ fr 3 = .ptr (H.length + 1) 0 ∧ fr 5 = .d (.int .i64 (i : Int)) ∧ fr 6 = .d (.bool (decide (x ∈ ns))) ∧ H2 = H') ?_ ?_
        · refine ForK_of (H.length + 2) ns.length (fun j fr H2 => fr 2 = .ptr H.length 0 ∧ fr 3 = .ptr (H.length + 1) 0 ∧ fr 5 = .d (.int .i64 (i : Int)) ∧ fr 6 = .d (.bool (decide (x ∈ ns.take j))) ∧ H2 = H') (by omega) (by decide) (by simp [hBl]) (by simp) ?_ ?_
          · simp [hBc, f2, f3, f5]
          rintro j fr2 H2 hj g7 ⟨g2, g3, g5, g6, rfl⟩
          simp [g7, g2, hB0]
          refine BrK_split (fun h => ?_) (fun h => ?_)
          · have hjl : j < ns.length := by simpa using h
            have hrb := rowAt_map encS hjl
            have htj : ns.take (j + 1) = ns.take j ++ [ns[j]] := List.take_succ_eq_append_getElem hjl
            simp only [encS] at hrb
            generalize ns[j] = w at hrb htj
            simp [g6]
            refine GdK_split (by simp) (fun hm => ?_) (fun hm => ?_)
            · have hm' : x ∉ ns.take j := by simpa using hm
              simp [g7, g2, g3, g5, hB0, hB1, encS, hrb, hra]
              refine NextF_of (H.length + 2) (Nat.le_refl _) hjl (by simp [hBl, g7]) ?_
              simp [g2, g3, g5, hBc, htj, hm', eq_comm]
            · have hm' : x ∈ ns.take j := by simpa using hm
              simp
              refine NextF_of (H.length + 2) (Nat.le_refl _) hjl (by simp [hBl, g7]) ?_
              simp [g2, g3, g5, hBc, htj, hm']
          · have hjj : j = ns.length := by have : ¬ j < ns.length := by simpa using h
                                           omega
            rw [hjj, List.take_of_length_le (Nat.le_refl _)] at g6
            simp [g2, g3, g5, g6]
        · rintro fr2 H2 ⟨g2, g3, g5, g6, rfl⟩
          simp [g6]
          by_cases hx : x ∈ ns
          · simp [hx]
            refine NextF_of (H.length + 2) (Nat.le_refl _) hlt (by simp [hBl, g5]) ?_
            simp [g2, g3, hBc, ht]
            intro _ q hq
            rcases hq with hq | rfl
            · exact hn h3' q hq
            · exact hx
          · simp [hx, h3']
            exact ⟨x, hmem, hx⟩
      · have h3' : ¬ k = 3 := by simpa using h3
        simp [h3']
    · have hii : i = tns.length := by have : ¬ i < tns.length := by simpa using h
                                      omega
      rw [hii, List.take_of_length_le (Nat.le_refl _)] at hn
      simp
      exact hn
  · rintro fr H' ⟨f4, hno, rfl⟩
    have hF' : ¬ F := fun q => hno (hF.1 q)
    simp
    simp [RetK, hBz, hBl, f4, hF']
  · rintro fr H' ⟨hy, rfl⟩
    have hF' : F := hF.2 hy
    simp
    simp [RetK, hBz, hBl, hF']

theorem isKeyOk (s : Str) (H : Hp) : ACall Tryd.prog 48 [.d (.str s)] H (fun r H' => r = .d (.bool (decide (s ∈ keysL))) ∧ H' = H) := isKey_acall Tryd.func48 cf48 s H
theorem rdigitOk (b : UInt8) (H : Hp) : ACall Tryd.prog 49 [.d (.int .u8 b.toNat)] H (fun r H' => r = .d (.bool (digitB b)) ∧ H' = H) := digit_acall Tryd.func49 cf49 b H
theorem letterOk (b : UInt8) (H : Hp) : ACall Tryd.prog 50 [.d (.int .u8 b.toNat)] H (fun r H' => r = .d (.bool (letterB b)) ∧ H' = H) := letter_acall Tryd.func50 cf50 b H
theorem isNameOk (s : Str) (H : Hp) : ACall Tryd.prog 33 [.d (.str s)] H (fun r H' => r = .d (.bool (isNameB s)) ∧ H' = H) := isName_acall Tryd.func33 cf33 isKeyOk rdigitOk letterOk s H
theorem tsizeOk (v : T) (hv : v.Fit 1048576) (m d : Int) (H : Hp) : ACall Tryd.prog 59 [v.a, .d (.int .i64 m), .d (.int .i64 d)] H (fun r H' => (∃ c : Int, r = .d (.int .i64 c)) ∧ H' = H) := tsize_acall (bt := 55) Tryd.func59 cf59 v hv m d H
theorem tsmallOk (v : T) (hv : v.Fit 1048576) (m d : Int) (H : Hp) : ACall Tryd.prog 44 [v.a, .d (.int .i64 m), .d (.int .i64 d)] H (fun r H' => (∃ c : Bool, r = .d (.bool c)) ∧ H' = H) := tsmall_acall (bt := 55) Tryd.func44 cf44 tsizeOk v hv m d H
theorem tlightOk (v : T) (hv : v.Fit 1048576) (H : Hp) : ACall Tryd.prog 28 [v.a] H (fun r H' => (∃ c : Bool, r = .d (.bool c)) ∧ H' = H) := tlight_acall (bt := 55) Tryd.func28 cf28 tsmallOk v hv H
theorem trightOk (v : T) (hv : v.Fit 1048576) (H : Hp) : ACall Tryd.prog 29 [v.a] H (fun r H' => (∃ c : Bool, r = .d (.bool c)) ∧ H' = H) := tright_acall (bt := 55) Tryd.func29 cf29 isNameOk v hv H

theorem tfit_of {b : Nat} (v : T) : D.bulkC v.enc ≤ b → v.Fit b := by
  induction v using T.ind with
  | h k z ns y ps ih =>
  intro hb
  simp only [T.enc_mk, D.bulkC, D.bulk] at hb
  have l1 := bulkR_len (enc := encStr) (fun m => by simp only [encStr, D.bulkC, D.bulk]; omega) ns
  have l2 := bulkR_len (enc := T.enc) (fun m => by cases m; simp only [T.enc_mk, D.bulkC, D.bulk]; omega) ps
  refine .mk _ _ _ _ _ (by omega) (by omega) (fun x hx => ?_) (fun p hp => ih p hp ?_)
  · have := bulkR_mem (List.mem_map_of_mem (f := encStr) hx)
    simp only [encStr, D.bulkC, D.bulk] at this
    omega
  · have := bulkR_mem (List.mem_map_of_mem (f := T.enc) hp)
    omega

theorem ty55 : ∀ n ds, Typed Tryd.prog n 55 ds → ∃ v : T, ds = v.enc ∧ True := by
  intro n
  induction n using Nat.strongRecOn with
  | ind n ih =>
  intro ds h
  obtain ⟨m, rfl, h⟩ := typed_structR Tryd.underlying55 h
  obtain ⟨a, r, rfl, ha, d, r, rfl, hd, e, r, rfl, he, rfl⟩ := h
  obtain ⟨k, rfl, -⟩ := typed_i64 Tryd.underlying3 ha
  obtain ⟨z, ns, rfl⟩ := typed_sl (sz := 1) (enc := encStr) Tryd.underlying22 (by kernel_rfl) (fun n ds h => by
    obtain ⟨x, rfl⟩ := typed_str Tryd.underlying9 h
    exact ⟨x, rfl⟩) hd
  obtain ⟨y, ps, rfl, hp⟩ := typed_slR (sz := 3) (enc := T.enc) (R := fun _ => True) Tryd.underlying53 (by kernel_rfl) (fun q hq ds h => ih q (by omega) ds h) he
  exact ⟨.mk k z ns y ps, by rw [T.enc_mk]; rfl, trivial⟩

theorem arg_typ {n : Nat} {ds : List D} {a : A} (h : Typed Tryd.prog n 55 ds) (ha : ArgOf Tryd.prog 55 ds a) : ∃ v : T, a = v.a ∧ D.bulkC v.enc = D.bulkC ds := by
  obtain ⟨v, rfl, -⟩ := ty55 n ds h
  refine ⟨v, ?_, rfl⟩
  unfold ArgOf at ha
  rw [Tryd.underlying55] at ha
  exact ha

end Go.Proofs.Zv

namespace Go.Proofs.Zv
open Go Go.Zam Go.Proofs
set_option maxRecDepth 100000
set_option linter.all false
set_option maxHeartbeats 1000000

def digitOf (b : UInt8) : Prop := 48 ≤ b.toNat ∧ b.toNat ≤ 57

theorem decDigits_digit : ∀ (u : Nat), (∀ c ∈ Lib.decDigits u, digitOf c) ∧ Lib.decDigits u ≠ [] := by
  intro u
  induction u using Nat.strongRecOn with
  | ind u ih =>
  rw [Lib.decDigits]
  by_cases h : u < 10
  · rw [dif_pos h]
    refine ⟨fun c hc => ?_, by simp⟩
    have e : c = UInt8.ofNat (48 + u) := by simpa using hc
    subst e
    simp only [digitOf, UInt8.toNat_ofNat']
    omega
  · rw [dif_neg h]
    obtain ⟨i1, i2⟩ := ih (u / 10) (by omega)
    refine ⟨fun c hc => ?_, by simp⟩
    rcases List.mem_append.1 hc with hc | hc
    · exact i1 c hc
    · have e : c = UInt8.ofNat (48 + u % 10) := by simpa using hc
      subst e
      simp only [digitOf, UInt8.toNat_ofNat']
      omega

theorem ofNat_inj8 {a b : Nat} (ha : a < 256) (hb : b < 256) (h : UInt8.ofNat a = UInt8.ofNat b) : a = b := by
  have := congrArg UInt8.toNat h
  simp only [UInt8.toNat_ofNat'] at this
  omega

theorem dec_ge {u : Nat} (h : ¬ u < 10) : Lib.decDigits u = Lib.decDigits (u / 10) ++ [UInt8.ofNat (48 + u % 10)] := by rw [Lib.decDigits, dif_neg h]

theorem decDigits_inj : ∀ (u w : Nat), Lib.decDigits u = Lib.decDigits w → u = w := by
  intro u
  induction u using Nat.strongRecOn with
  | ind u ih =>
  intro w h
  by_cases hu : u < 10
  · by_cases hw : w < 10
    · rw [Lib.decDigits_one hu, Lib.decDigits_one hw] at h
      have := ofNat_inj8 (by omega) (by omega) (List.cons.inj h).1
      omega
    · rw [Lib.decDigits_one hu, dec_ge hw] at h
      have hl := congrArg List.length h
      have := (decDigits_digit (w / 10)).2
      cases hq : Lib.decDigits (w / 10) with
      | nil => exact absurd hq this
      | cons a r => rw [hq] at hl; simp at hl
  · by_cases hw : w < 10
    · rw [dec_ge hu, Lib.decDigits_one hw] at h
      have hl := congrArg List.length h
      have := (decDigits_digit (u / 10)).2
      cases hq : Lib.decDigits (u / 10) with
      | nil => exact absurd hq this
      | cons a r => rw [hq] at hl; simp at hl
    · rw [dec_ge hu, dec_ge hw] at h
      obtain ⟨h1, h2⟩ := List.append_inj' h rfl
      have := ih (u / 10) (by omega) _ h1
      have := ofNat_inj8 (by omega) (by omega) (List.cons.inj h2).1
      omega

theorem itoa_chars (n : Int) : (∀ c ∈ Lib.itoa n, digitOf c ∨ c = 45) ∧ ∃ c r, Lib.itoa n = c :: r ∧ (digitOf c ∨ c = 45) := by
  unfold Lib.itoa
  split
  · exact ⟨fun c hc => (List.mem_cons.1 hc).elim .inr fun h => .inl ((decDigits_digit _).1 c h), _, _, rfl, .inr rfl⟩
  · obtain ⟨h1, h2⟩ := decDigits_digit n.toNat
    cases hq : Lib.decDigits n.toNat with
    | nil => exact absurd hq h2
    | cons a r => rw [hq] at h1; exact ⟨fun c hc => .inl (h1 c hc), a, r, rfl, .inl (h1 a (by simp))⟩

theorem itoa_inj {n m : Int} (h : Lib.itoa n = Lib.itoa m) : n = m := by
  unfold Lib.itoa at h
  have hd : ∀ (u w : Nat), ¬ (45 :: Lib.decDigits u = Lib.decDigits w) := fun u w e => by
    obtain ⟨h1, h2⟩ := decDigits_digit w
    rw [← e] at h1
    have := h1 45 (by simp)
    simp [digitOf] at this
  split at h <;> split at h
  · have := decDigits_inj _ _ (List.cons.inj h).2
    omega
  · exact absurd h (hd _ _)
  · exact absurd h.symm (hd _ _)
  · have := decDigits_inj _ _ h
    omega

/-- what may stand behind a value -/
def Ends (r : Str) : Prop := r = [] ∨ ∃ t, r = 44 :: t ∨ r = 125 :: t

theorem split_at {p : UInt8 → Prop} : ∀ {a b r r' : Str}, (∀ c ∈ a, p c) → (∀ c ∈ b, p c) → (r = [] ∨ ∃ c t, r = c :: t ∧ ¬ p c) → (r' = [] ∨ ∃ c t, r' = c :: t ∧ ¬ p c) → a ++ r = b ++ r' → a = b ∧ r = r'
  | [], [], r, r', _, _, _, _, h => ⟨rfl, by simpa using h⟩
  | [], y :: b, r, r', _, hb, hr, _, h => by
    rcases hr with rfl | ⟨c, t, rfl, hc⟩
    · simp at h
    · simp at h
      exact absurd (hb y (by simp)) (h.1 ▸ hc)
  | x :: a, [], r, r', ha, _, _, hr, h => by
    rcases hr with rfl | ⟨c, t, rfl, hc⟩
    · simp at h
    · simp at h
      exact absurd (ha x (by simp)) (h.1 ▸ hc)
  | x :: a, y :: b, r, r', ha, hb, h1, h2, h => by
    simp at h
    obtain ⟨e, h⟩ := h
    obtain ⟨e1, e2⟩ := split_at (fun c hc => ha c (by simp [hc])) (fun c hc => hb c (by simp [hc])) h1 h2 h
    exact ⟨by rw [e, e1], e2⟩

theorem itoa_split {n m : Int} {r r' : Str} (h1 : Ends r) (h2 : Ends r') (h : Lib.itoa n ++ r = Lib.itoa m ++ r') : n = m ∧ r = r' := by
  have he : ∀ r, Ends r → (r = [] ∨ ∃ c t, r = c :: t ∧ ¬ (digitOf c ∨ c = 45)) := by
    rintro r (rfl | ⟨t, rfl | rfl⟩)
    · exact .inl rfl
    · exact .inr ⟨44, t, rfl, by simp [digitOf]⟩
    · exact .inr ⟨125, t, rfl, by simp [digitOf]⟩
  obtain ⟨e1, e2⟩ := split_at (itoa_chars n).1 (itoa_chars m).1 (he r h1) (he r' h2) h
  exact ⟨itoa_inj e1, e2⟩

theorem esc_cases (b : UInt8) : (∃ x, esc b = [92, x] ∧ ((b = 10 ∧ x = 110) ∨ (b = 9 ∧ x = 116) ∨ (b = 34 ∧ x = 34) ∨ (b = 92 ∧ x = 92))) ∨ (esc b = [b] ∧ b ≠ 34 ∧ b ≠ 92) := by
  unfold esc
  by_cases h1 : b = 10
  · exact .inl ⟨110, by simp [h1]⟩
  by_cases h2 : b = 9
  · exact .inl ⟨116, by simp [h2]⟩
  by_cases h3 : b = 34
  · exact .inl ⟨34, by simp [h3]⟩
  by_cases h4 : b = 92
  · exact .inl ⟨92, by simp [h4]⟩
  exact .inr ⟨by simp [h1, h2, h3, h4], h3, h4⟩

theorem quote_split : ∀ {s t r r' : Str}, s.flatMap esc ++ 34 :: r = t.flatMap esc ++ 34 :: r' → s = t ∧ r = r'
  | [], [], r, r', h => ⟨rfl, by simpa using h⟩
  | [], y :: t, r, r', h => by
    rcases esc_cases y with ⟨x, e, -⟩ | ⟨e, e1, e2⟩
    · simp [e] at h
    · simp [e] at h
      exact absurd h.1.symm e1
  | x :: s, [], r, r', h => by
    rcases esc_cases x with ⟨x, e, -⟩ | ⟨e, e1, e2⟩
    · simp [e] at h
    · simp [e] at h
      exact absurd h.1 e1
  | x :: s, y :: t, r, r', h => by
    rcases esc_cases x with ⟨x', e, hx⟩ | ⟨e, e1, e2⟩ <;> rcases esc_cases y with ⟨y', f, hy⟩ | ⟨f, f1, f2⟩
    · simp [e, f] at h
      obtain ⟨g1, g2⟩ := h
      obtain ⟨i1, i2⟩ := quote_split g2
      have : x = y := by
        subst g1
        rcases hx with ⟨rfl, rfl⟩ | ⟨rfl, rfl⟩ | ⟨rfl, rfl⟩ | ⟨rfl, rfl⟩ <;> rcases hy with ⟨rfl, q⟩ | ⟨rfl, q⟩ | ⟨rfl, q⟩ | ⟨rfl, q⟩ <;> first | rfl | (exact absurd q (by decide))
      exact ⟨by rw [this, i1], i2⟩
    · simp [e, f] at h
      exact absurd h.1.symm f2
    · simp [e, f] at h
      exact absurd h.1 e2
    · simp [e, f] at h
      obtain ⟨i1, i2⟩ := quote_split h.2
      exact ⟨by rw [h.1, i1], i2⟩

/-- what a name is made of -/
def nameC (c : UInt8) : Prop := letterB c = true ∨ digitB c = true

theorem nameC_no (c : UInt8) (h : nameC c) : c ≠ 58 ∧ c ≠ 125 := by
  constructor <;> (rintro rfl; revert h; simp [nameC, letterB, digitB])

theorem name_chars {s : Str} (h : isNameB s = true) : (∀ c ∈ s, nameC c) ∧ s ≠ [] := by
  cases s with
  | nil => simp [isNameB] at h
  | cons b r =>
    refine ⟨fun c hc => ?_, by simp⟩
    have ha : ((b :: r).all fun c => letterB c || digitB c) = true := by
      have : isNameB (b :: r) = (decide ((b :: r).length ≤ 40) && !decide ((b :: r) ∈ keysL) && !digitB b && (b :: r).all fun c => letterB c || digitB c) := rfl
      rw [this] at h
      simp only [Bool.and_eq_true] at h
      exact h.2
    have := List.all_eq_true.1 ha c hc
    simpa [nameC] using this

theorem name_split {a b r r' : Str} (ha : isNameB a = true) (hb : isNameB b = true) (h : a ++ 58 :: r = b ++ 58 :: r') : a = b ∧ r = r' := by
  have e : ∀ t : Str, ((58 :: t : Str) = [] ∨ ∃ c u, (58 :: t : Str) = c :: u ∧ ¬ nameC c) := fun t => .inr ⟨58, t, rfl, fun q => (nameC_no _ q).1 rfl⟩
  obtain ⟨h1, h2⟩ := split_at (name_chars ha).1 (name_chars hb).1 (e r) (e r') h
  exact ⟨h1, (List.cons.inj h2).2⟩

mutual
def U.Nd : U → Prop
  | .mk _ _ _ ns ps => (∀ x ∈ ns, isNameB x = true) ∧ U.Nds ps
def U.Nds : List U → Prop
  | [] => True
  | p :: r => U.Nd p ∧ U.Nds r
end
theorem U.Nds_iff : ∀ l : List U, U.Nds l ↔ ∀ p ∈ l, p.Nd
  | [] => by simp [U.Nds]
  | p :: r => by simp [U.Nds, U.Nds_iff r]
theorem und_mk (k n : Int) (s : Str) (ns : List Str) (ps : List U) : (U.mk k n s ns ps).Nd ↔ (∀ x ∈ ns, isNameB x = true) ∧ ∀ p ∈ ps, p.Nd := by
  rw [U.Nd, U.Nds_iff]

/-- the parts of a record behind the first one, and its end -/
def tailT : List Pu → Str
  | [] => [125]
  | p :: r => 44 :: 32 :: (p.1 ++ 58 :: 32 :: (p.2.text ++ tailT r))
def headT : List Pu → Str
  | [] => [125]
  | p :: r => p.1 ++ 58 :: 32 :: (p.2.text ++ tailT r)

theorem join_tailT : ∀ (l : List Pu), Lib.joinTail [44, 32] (l.map fun p => pairT p.1 p.2.text) ++ [125] = tailT l
  | [] => by simp [Lib.joinTail, tailT]
  | p :: r => by
    rw [tailT, ← join_tailT r]
    simp [Lib.joinTail, pairT]

theorem zip_pairT : ∀ (ns : List Str) (ps : List U), List.zipWith pairT ns (ps.map U.text) = (ns.zip ps).map fun p => pairT p.1 p.2.text
  | [], _ => by simp
  | _ :: _, [] => by simp
  | n :: ns, p :: ps => by simp [zip_pairT ns ps]

theorem text_rec (ns : List Str) (ps : List U) : Lib.join (List.zipWith pairT ns (ps.map U.text)) [44, 32] ++ [125] = headT (ns.zip ps) := by
  rw [zip_pairT]
  cases ns.zip ps with
  | nil => simp [Lib.join_nil, headT]
  | cons p r =>
    rw [List.map_cons, Lib.join_cons, headT, ← join_tailT r]
    simp [pairT]

/-- a value's text tells where it ends, and what it is -/
def Told (u : U) : Prop := ∀ (w : U) (r r' : Str), w.Right → w.Nd → Ends r → Ends r' → u.text ++ r = w.text ++ r' → u = w ∧ r = r'

theorem tailT_ends (l : List Pu) (r : Str) : Ends (tailT l ++ r) := by
  cases l with
  | nil => exact .inr ⟨r, .inr (by simp [tailT])⟩
  | cons p l => exact .inr ⟨_, .inl (by rw [tailT]; rfl)⟩

theorem tail_split : ∀ {l l' : List Pu} {r r' : Str}, (∀ p ∈ l, isNameB p.1 = true ∧ Told p.2) → (∀ p ∈ l', isNameB p.1 = true ∧ p.2.Right ∧ p.2.Nd) → tailT l ++ r = tailT l' ++ r' → l = l' ∧ r = r'
  | [], [], r, r', _, _, h => ⟨rfl, by simpa [tailT] using h⟩
  | [], q :: l', r, r', _, _, h => by simp [tailT] at h
  | p :: l, [], r, r', _, _, h => by simp [tailT] at h
  | p :: l, q :: l', r, r', h1, h2, h => by
    simp only [tailT, List.cons_append, List.append_assoc, List.cons.injEq, true_and] at h
    obtain ⟨a1, a2⟩ := h1 p (by simp)
    obtain ⟨b1, b2, b3⟩ := h2 q (by simp)
    obtain ⟨e1, e2⟩ := name_split a1 b1 h
    have e2 := (List.cons.inj e2).2
    obtain ⟨e3, e4⟩ := a2 q.2 _ _ b2 b3 (tailT_ends l r) (tailT_ends l' r') e2
    obtain ⟨e5, e6⟩ := tail_split (fun x hx => h1 x (by simp [hx])) (fun x hx => h2 x (by simp [hx])) e4
    exact ⟨by rw [e5, show p = q from Prod.ext e1 e3], e6⟩

theorem head_split : ∀ {l l' : List Pu} {r r' : Str}, (∀ p ∈ l, isNameB p.1 = true ∧ Told p.2) → (∀ p ∈ l', isNameB p.1 = true ∧ p.2.Right ∧ p.2.Nd) → headT l ++ r = headT l' ++ r' → l = l' ∧ r = r'
  | [], [], r, r', _, _, h => ⟨rfl, by simpa [headT] using h⟩
  | [], q :: l', r, r', _, h2, h => by
    obtain ⟨c1, c2⟩ := name_chars (h2 q (by simp)).1
    simp only [headT] at h
    cases hq : q.1 with
    | nil => exact absurd hq c2
    | cons a t =>
      rw [hq] at h c1
      simp at h
      exact absurd h.1.symm (nameC_no _ (c1 a (by simp))).2
  | p :: l, [], r, r', h1, _, h => by
    obtain ⟨c1, c2⟩ := name_chars (h1 p (by simp)).1
    simp only [headT] at h
    cases hq : p.1 with
    | nil => exact absurd hq c2
    | cons a t =>
      rw [hq] at h c1
      simp at h
      exact absurd h.1 (nameC_no _ (c1 a (by simp))).2
  | p :: l, q :: l', r, r', h1, h2, h => by
    simp only [headT, List.cons_append, List.append_assoc] at h
    obtain ⟨a1, a2⟩ := h1 p (by simp)
    obtain ⟨b1, b2, b3⟩ := h2 q (by simp)
    obtain ⟨e1, e2⟩ := name_split a1 b1 h
    have e2 := (List.cons.inj e2).2
    obtain ⟨e3, e4⟩ := a2 q.2 _ _ b2 b3 (tailT_ends l r) (tailT_ends l' r') e2
    obtain ⟨e5, e6⟩ := tail_split (fun x hx => h1 x (by simp [hx])) (fun x hx => h2 x (by simp [hx])) e4
    exact ⟨by rw [e5, show p = q from Prod.ext e1 e3], e6⟩

theorem zip_eq : ∀ {ns ns' : List Str} {ps ps' : List U}, ns.length = ps.length → ns'.length = ps'.length → ns.zip ps = ns'.zip ps' → ns = ns' ∧ ps = ps'
  | ns, ns', ps, ps', h, h', e => by
    have e1 := congrArg (List.map Prod.fst) e
    have e2 := congrArg (List.map Prod.snd) e
    rw [List.map_fst_zip (by omega), List.map_fst_zip (by omega)] at e1
    rw [List.map_snd_zip (by omega), List.map_snd_zip (by omega)] at e2
    exact ⟨e1, e2⟩

theorem nil_of {ns : List Str} {ps : List U} (h : ns.length + ps.length = 0) : ns = [] ∧ ps = [] :=
  ⟨List.eq_nil_of_length_eq_zero (by omega), List.eq_nil_of_length_eq_zero (by omega)⟩

theorem told (u : U) : u.Right → u.Nd → Told u := by
  induction u using U.ind with
  | h k n s ns ps ih =>
  intro hR hN w r r' hR' hN' hr hr' h
  cases w with | mk k' n' s' ns' ps' =>
  obtain ⟨⟨⟨a1, a2⟩, a3, a4, a5⟩, ⟨a6, a7⟩, -, a8⟩ := (uright_mk ..).1 hR
  obtain ⟨⟨⟨b1, b2⟩, b3, b4, b5⟩, ⟨b6, b7⟩, -, b8⟩ := (uright_mk ..).1 hR'
  obtain ⟨c1, c2⟩ := (und_mk ..).1 hN
  obtain ⟨d1, d2⟩ := (und_mk ..).1 hN'
  have hfst : ∀ (k n : Int) (s : Str) (ns : List Str) (ps : List U), 1 ≤ k → k ≤ 4 → ∃ c t, (U.mk k n s ns ps).text = c :: t ∧ (k = 1 → digitOf c ∨ c = 45) ∧ (k = 2 → c = 34) ∧ (k = 3 → c = 123) ∧ (k = 4 → c = 102) := by
    intro k n s ns ps g1 g2
    rw [U.text]
    by_cases k1 : k = 1
    · obtain ⟨-, c, t, e, hc⟩ := itoa_chars n
      exact ⟨c, t, by simp [k1, e], by simp [k1, hc]⟩
    by_cases k2 : k = 2
    · exact ⟨34, _, by simp [k2, quoteV]; rfl, by simp [k2]⟩
    by_cases k4 : k = 4
    · exact ⟨102, _, by simp [k4]; rfl, by simp [k4]⟩
    have k3 : k = 3 := by omega
    exact ⟨123, _, by simp [k3]; rfl, by simp [k3]⟩
  have hkk : k = k' := by
    obtain ⟨x, t, e, f1, f2, f3, f4⟩ := hfst k n s ns ps a1 a2
    obtain ⟨x', t', e', g1, g2, g3, g4⟩ := hfst k' n' s' ns' ps' b1 b2
    rw [e, e'] at h
    have hx : x = x' := (List.cons.inj h).1
    subst hx
    have hd : ∀ q : UInt8, q = 34 ∨ q = 123 ∨ q = 102 → ¬ (digitOf x ∨ x = 45) ∨ x ≠ q := by
      intro q hq
      by_cases e : x = q
      · subst e
        rcases hq with rfl | rfl | rfl <;> simp [digitOf]
      · exact .inr e
    have hk : k = 1 ∨ k = 2 ∨ k = 3 ∨ k = 4 := by omega
    have hk' : k' = 1 ∨ k' = 2 ∨ k' = 3 ∨ k' = 4 := by omega
    rcases hk with rfl | rfl | rfl | rfl <;> rcases hk' with rfl | rfl | rfl | rfl <;> simp at f1 f2 f3 f4 g1 g2 g3 g4 <;> first
      | rfl
      | (subst f2; simp [digitOf] at g1)
      | (subst f3; simp [digitOf] at g1)
      | (subst f4; simp [digitOf] at g1)
      | (subst g2; simp [digitOf] at f1)
      | (subst g3; simp [digitOf] at f1)
      | (subst g4; simp [digitOf] at f1)
      | (subst f2; simp at g3)
      | (subst f2; simp at g4)
      | (subst f3; simp at g2)
      | (subst f3; simp at g4)
      | (subst f4; simp at g2)
      | (subst f4; simp at g3)
  subst hkk
  rw [U.text, U.text, U.texts_map, U.texts_map] at h
  by_cases k1 : k = 1
  · subst k1
    simp only [if_true] at h
    obtain ⟨e1, e2⟩ := itoa_split hr hr' h
    obtain ⟨rfl, rfl⟩ := nil_of (a6 (by decide))
    obtain ⟨rfl, rfl⟩ := nil_of (b6 (by decide))
    rw [a3 (by decide), b3 (by decide), e1]
    exact ⟨rfl, e2⟩
  by_cases k2 : k = 2
  · subst k2
    have h' : quoteV s ++ r = quoteV s' ++ r' := by simpa using h
    simp [quoteV] at h'
    obtain ⟨e1, e2⟩ := quote_split h'
    obtain ⟨rfl, rfl⟩ := nil_of (a6 (by decide))
    obtain ⟨rfl, rfl⟩ := nil_of (b6 (by decide))
    rw [a4 (.inl rfl), b4 (.inl rfl), e1]
    exact ⟨rfl, e2⟩
  by_cases k4 : k = 4
  · subst k4
    simp at h
    obtain ⟨e1, e2⟩ := itoa_split hr hr' h
    obtain ⟨rfl, rfl⟩ := nil_of (a6 (by decide))
    obtain ⟨rfl, rfl⟩ := nil_of (b6 (by decide))
    rw [a3 (by decide), b3 (by decide), e1]
    exact ⟨rfl, e2⟩
  have k3 : k = 3 := by omega
  subst k3
  rw [if_neg (by decide), if_neg (by decide), if_neg (by decide), if_pos rfl, if_neg (by decide), if_neg (by decide), if_neg (by decide), if_pos rfl] at h
  have hrec : ∀ (ns : List Str) (ps : List U), [123] ++ Lib.join (List.zipWith pairT ns (ps.map U.text)) [44, 32] ++ [125] = 123 :: headT (ns.zip ps) := fun ns ps => by
    rw [List.append_assoc, text_rec]; rfl
  rw [hrec, hrec] at h
  have h' : headT (ns.zip ps) ++ r = headT (ns'.zip ps') ++ r' := by simpa using h
  have m1 : ∀ p ∈ ns.zip ps, isNameB p.1 = true ∧ Told p.2 := fun p hp => by
    obtain ⟨q1, q2⟩ := List.of_mem_zip hp
    exact ⟨c1 _ q1, ih _ q2 (a8 _ q2) (c2 _ q2)⟩
  have m2 : ∀ p ∈ ns'.zip ps', isNameB p.1 = true ∧ p.2.Right ∧ p.2.Nd := fun p hp => by
    obtain ⟨q1, q2⟩ := List.of_mem_zip hp
    exact ⟨d1 _ q1, b8 _ q2, d2 _ q2⟩
  obtain ⟨e1, e2⟩ := head_split m1 m2 h'
  obtain ⟨e3, e4⟩ := zip_eq a7 b7 e1
  rw [e3, e4, a3 (by decide), b3 (by decide), a4 (.inr rfl), b4 (.inr rfl)]
  exact ⟨rfl, e2⟩

theorem text_same {u w : U} (h1 : u.Right) (h2 : u.Nd) (h3 : w.Right) (h4 : w.Nd) : u.text = w.text ↔ u = w :=
  ⟨fun h => (told u h1 h2 w [] [] h3 h4 (.inl rfl) (.inl rfl) (by rw [h])).1, fun h => by rw [h]⟩

end Go.Proofs.Zv
