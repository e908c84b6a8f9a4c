/-
  Texts of one proof, one behind the other: An abstract machine over the model, seventy-first part: the parser's fields and calls, over any program that has them. The lengths are bounded. An abstract machine over the model, seventy-second part: the parser's atoms, statements, files, over any program that has them. The lengths are bounded. An abstract machine over the model, seventy-third part: the parser's statements and files, over any program that has them. The lengths are bounded. An abstract machine over the model, seventy-fourth part: the parser's files, over any program that has them; all its functions together. The lengths are bounded. An abstract machine over the model, seventy-seventh part: how great trees are; what the parser answers, over any program that has it. The lengths are bounded. An abstract machine over the model, seventy-eighth part: how deep a tree is; the tree of a file's tokens, of a text, over any program that has the functions. The lengths are bounded. An abstract machine over the model, eightieth part: a tree as one line, over any program that has the functions. The lengths are bounded. The variable of the kinds' names, as a row lists it: a heap that holds it; what a row's cell tells of it. Contracts of the library's functions at this program, out of the kit's shelf. No condition. What the rows of these statements share: how much they hold, the world that the witness starts in, the variables as they are laid. A byte as an argument, at this program. An abstract machine over the model, seventy-fifth part: the form of the functions of the document's answers for the layers of runes, tokens, trees, over any program that has them. (Printed by gen.py.) An abstract machine over the model, fifty-fifth part: plain facts on texts that are UTF-8. No program in sight. No condition. An abstract machine over the model, fifty-sixth part: plain facts on a text's tokens. No program in sight. No condition. An abstract machine over the model, hundred and forty-ninth part: the document's Next and Bad (of characters), over any program that has them. The lengths are bounded. An abstract machine over the model, hundred and fiftieth part: the document's Unquote, and Lead, over any program that has them. The lengths are bounded. An abstract machine over the model, fifty-seventh part: plain facts on tokens of texts put together. No program in sight. No condition. An abstract machine over the model, fifty-eighth part: tokens up to one of them, tokens of one text behind another one. No program in sight. No condition. An abstract machine over the model, hundred and fifty-first part: the document's next token, over any program that has it. The lengths are bounded.
-/
import Derived.Test.YtnlfihdegglkfaaDoorM4
import Derived.Test.YtnlfihdegglkfaaDoorM3
import Derived.Lib.LaidU8
import Derived.Shelf.Strings.Builder1
import Derived.Shelf.Small.Strs
import Derived.Shelf.Strconv.Itoa0
import Derived.Shelf.Strconv.Itoa1
import Derived.Shelf.LaysM
import Derived.Shelf.Strconv.Itoa2
import Derived.Shelf.Strconv.Itoa3
import Derived.Ground.MpProg
import Derived.Shelf.Pu.ParseUintPublic10
import Derived.Shelf.Pu.ErrVarParseUint
import Derived.Shelf.Strings.Search1
import Derived.Shelf.Strings.Prefix
import Derived.Shelf.Unicode.Decode
import Derived.Shelf.Unicode.DecodeSlow
import Derived.Shelf.Unicode.DecodeAny
import Derived.Test.YtnlfihdegglkfaaDoorProg
import Derived.Test.YtnlfihdegglkfaaDoorRows
import Derived.Test.YtnlfihdegglkfaaDoorCards
import Derived.Test.YtnlfihdegglkfaaDoorTie
import Derived.ProofKit
import Derived.OpenShut
import Derived.Deep.DeepHandedRow
import Derived.Lib.LaidTab
import Derived.Stop.LaidErr
import Derived.SevenTiedAt
namespace Go.Zam
set_option linter.all false
set_option maxRecDepth 100000
set_option maxHeartbeats 1000000

section
variable {P : Program} {F : PF} {z : Bool} {L : List Tk}

theorem PHas.post' (hF : PHas P F) (hL : L.length ≤ 1048576) (n : Nat) (hn : n ≤ 1099511627776) (hT : UC P F.tp z L n .atom F.atom) (hX : ∀ m, m < n → UC P F.tp z L m .expr F.expr) : UC P F.tp z L (n + 1) .post F.post := by
  refine UC_of fun H i s hi hp => ?_
  obtain ⟨fn, hf, hcf⟩ := hF.post
  refine acall_fin hf hcf (by simp [irPPost]) fun hcl _ => ?_
  have hp1 := hp.1
  simp only [G.c] at hp1
  simp [irPPost]
  refine CallK_of (hT H _ i s hi ((Mo.refl s).pre hp (by decide) (by simp only [G.c]; omega))) ?_
  rintro _ _ ⟨a0, s1, rfl, rfl, r1⟩
  have b1 := r1.le
  have ho : ∀ a : N, ∃ (k f t : Int) (w : Bs) (q : Int) (za : Bool) (ks : List N), a.f = f ∧ a.enc = [.int .i64 k, .int .i64 f, .int .i64 t, .str w, .int .i64 q, .sl za 6 (ks.map N.enc)] ∧ a.v = .agg [.d (.int .i64 k), .d (.int .i64 f), .d (.int .i64 t), .d (.str w), .d (.int .i64 q), .d (.sl za 6 (ks.map N.enc))] ∧ abx F.tn a = .box F.tn [.d (.int .i64 k), .d (.int .i64 f), .d (.int .i64 t), .d (.str w), .d (.int .i64 q), .d (.sl za 6 (ks.map N.enc))] := fun a => by
    obtain ⟨k, f, t, w, q, za, ks⟩ := a
    exact ⟨k, f, t, w, q, za, ks, rfl, by rw [N.enc_mk], by rw [N.v_mk], by rw [abx, N.enc_mk]; rfl⟩
  obtain ⟨XX, hXX⟩ : ∃ XX : N → Hp, XX = fun a => [Ob.box F.tn [.d (.int .i64 0), .d (.int .i64 0), .d (.int .i64 0), .d (.str []), .d (.int .i64 0), .d (.sl true 6 [])], abx F.tn a] := ⟨_, rfl⟩
  have hst : ∀ (a0 : N) (o : Ob) (s1 : PSt), (H.set i (pst F.tp z L s1) ++ [Ob.box F.tn [.d (.int .i64 0), .d (.int .i64 0), .d (.int .i64 0), .d (.str []), .d (.int .i64 0), .d (.sl true 6 [])], o]).set (H.length + 1) (abx F.tn a0) = H.set i (pst F.tp z L s1) ++ XX a0 := fun a0 o s1 => by rw [hXX]; simp
  obtain ⟨E, hE⟩ : ∃ E : Fr → Hp → Prop, E = fun fr H' => ∃ a s', (fr 0 = .ptr i 0 ∧ fr 2 = .ptr H.length 0 ∧ fr 3 = .ptr (H.length + 1) 0) ∧ Rel L (n + 1) .post s a s' ∧ H' = H.set i (pst F.tp z L s') ++ XX a := ⟨_, rfl⟩
  have hE1 : ∀ fr a s', (fr 0 = .ptr i 0 ∧ fr 2 = .ptr H.length 0 ∧ fr 3 = .ptr (H.length + 1) 0) → Rel L (n + 1) .post s a s' → E fr (H.set i (pst F.tp z L s') ++ XX a) := fun fr a s' h h' => by subst hE; exact ⟨a, s', h, h', rfl⟩
  obtain ⟨k, f, t, w, q, za, ks, haf, hen, hv, hb⟩ := ho a0
  rw [hv]
  simp
  rw [show H.set i (pst F.tp z L s1) ++ [Ob.box F.tn [.d (.int .i64 0), .d (.int .i64 0), .d (.int .i64 0), .d (.str []), .d (.int .i64 0), .d (.sl true 6 [])], .box F.tn [.d (.int .i64 k), .d (.int .i64 f), .d (.int .i64 t), .d (.str w), .d (.int .i64 q), .d (.sl za 6 (ks.map N.enc))]] = H.set i (pst F.tp z L s1) ++ XX a0 by rw [hXX, ← hb]]
  obtain ⟨RR, hRR⟩ : ∃ RR : Fr → Hp → Prop, RR = fun fr H' => ∃ a s' Y, fr 2 = .ptr H.length 0 ∧ Rel L (n + 1) .post s a s' ∧ H' = H.set i (pst F.tp z L s') ++ (abx F.tn a :: Y) := ⟨_, rfl⟩
  have hR1 : ∀ fr a s' Y, fr 2 = .ptr H.length 0 → Rel L (n + 1) .post s a s' → RR fr (H.set i (pst F.tp z L s') ++ (abx F.tn a :: Y)) := fun fr a s' Y h h' => by subst hRR; exact ⟨a, s', Y, h, h', rfl⟩
  refine LoopK_outR 0 E RR ?_ ?_ ?_
  rotate_left
  · intro fr H' h
    subst hRR
    obtain ⟨a, s', Y, f2, hr, rfl⟩ := h
    obtain ⟨k, f, t, w, q, za, ks, haf, hen, hv, hb⟩ := ho a
    simp [f2, hb]
    simp [RetK, cutP hcl]
    exact ⟨a, s', hv.symm, by simp, hr⟩
  · intro fr H' h
    subst hE
    obtain ⟨a, s', ⟨f0, f2, f3⟩, hr, rfl⟩ := h
    obtain ⟨k, f, t, w, q, za, ks, haf, hen, hv, hb⟩ := ho a
    subst hXX
    simp [f0, f2, f3, hb]
    simp [RetK, cutP hcl]
    exact ⟨a, s', hv.symm, by simp, hr⟩
  clear hE hRR
  have hcut : ∀ a s' X, Hp.cut (H.length + 2) (H.set i (pst F.tp z L s') ++ (XX a ++ X)) = H.set i (pst F.tp z L s') ++ XX a := fun a s' X => by
    rw [cutPk hcl, hXX]
    change H.set i (pst F.tp z L s') ++ [_, (abx F.tn a).clr _] = _
    rw [abx_clr]; rfl
  have hcut0 : ∀ a s', Hp.cut (H.length + 2) (H.set i (pst F.tp z L s') ++ XX a) = H.set i (pst F.tp z L s') ++ XX a := fun a s' => by simpa using hcut a s' []
  refine LoopM_of (H.length + 2) (fun d fr H' => ∃ a s', (fr 0 = .ptr i 0 ∧ fr 2 = .ptr H.length 0 ∧ fr 3 = .ptr (H.length + 1) 0) ∧ H' = H.set i (pst F.tp z L s') ++ XX a ∧
      ((d = 0 ∧ s'.2 ≠ none ∧ ∀ m, Rel L (n + 1) .post s m s') ∨ ∃ p1, s' = (p1, none) ∧ s.2 = none ∧ d ≤ n ∧ pp L (n + 1) .post s.1 = pp L d (.postL a) p1 ∧ p1 ≤ L.length ∧ 16 * (L.length - p1) + 1 ≤ d)) (match s1.2 with | none => n | some _ => 0) (by rw [hXX]; simp) ⟨a0, s1, ?_⟩ ?_
  · have hil2 : i < H.length + 2 := by omega
    refine ⟨by simp [hil2], hcut0 _ _, ?_⟩
    obtain ⟨p, st⟩ := s
    cases st with
    | some q =>
      obtain ⟨b, rfl, e⟩ := r1.some'
      simp only [G.wt] at e
      exact .inl ⟨rfl, by simp, fun m => by simp [Rel, G.wt]; omega⟩
    | none =>
      obtain ⟨hp2, hp3⟩ := hp.2.2 rfl
      simp only [G.c] at hp2 hp3
      rcases r1.none' with ⟨q', b, hq, rfl, e3⟩ | ⟨j, hj, rfl⟩
      · exact .inl ⟨rfl, by simp, fun m => by simp [Rel, pp, hq, PR.then]; omega⟩
      · have := pp_adv (L := L) n .atom p
        rw [hj] at this
        obtain ⟨v1, v2, v3⟩ := this
        have v2 := v2 rfl
        have v3 := v3 v2
        exact .inr ⟨j, rfl, rfl, by simp, by simp [pp, hj, PR.then], v3, by simp only; omega⟩
  · rintro d fr H' ⟨a, s', ⟨f0, f2, f3⟩, rfl, hd⟩
    have hil2 : i < H.length + 2 := by omega
    have hi' := pget (tp := F.tp) (z := z) (L := L) (H := H) hi s'
    rcases hd with ⟨rfl, q1, q2⟩ | ⟨p1, rfl, hs2, hdn, hpp, hp1', hrk⟩
    · obtain ⟨p', st'⟩ := s'
      cases st' with
      | none => simp at q1
      | some q =>
        simp [f0, hi']
        exact hE1 _ a _ (by simp [f0, f2, f3]) (q2 _)
    · obtain ⟨d', rfl⟩ : ∃ d', d = d' + 1 := ⟨d - 1, by omega⟩
      have hRel : ∀ m s', (match pp L (d' + 1) (.postL a) p1 with | .out => False | .bad q => s'.2 = some q ∧ s'.1 ≤ L.length + (n + 1) | .ok m' k => m = m' ∧ s' = (k, none)) → Rel L (n + 1) .post s m s' := fun m s' h => by
        unfold Rel
        rw [hs2]
        simp only
        rw [hpp]; exact h
      obtain ⟨k, f, t, w, q, za, ks, haf, hen, hv, hb⟩ := ho a
      have hXa : ∀ s'', H.set i (pst F.tp z L s'') ++ XX a = H.set i (pst F.tp z L s'') ++ [Ob.box F.tn [.d (.int .i64 0), .d (.int .i64 0), .d (.int .i64 0), .d (.str []), .d (.int .i64 0), .d (.sl true 6 [])], .box F.tn [.d (.int .i64 k), .d (.int .i64 f), .d (.int .i64 t), .d (.str w), .d (.int .i64 q), .d (.sl za 6 (ks.map N.enc))]] := fun s'' => by rw [hXX, ← hb]
      rw [hXa]
      have hnext : ∀ (kk : Int) (s2 : PSt) (w' : Bs) (at' : Int) (l : List N) (Y : Hp), l ≠ [] → Hp.cut (H.length + 2) (H.set i (pst F.tp z L s2) ++ (Ob.box F.tn [.d (.int .i64 0), .d (.int .i64 0), .d (.int .i64 0), .d (.str []), .d (.int .i64 0), .d (.sl true 6 [])] :: nob F.tn kk f (s2.1 : Int) w' at' false (l.map N.enc) (H.length + 2) :: Y)) = H.set i (pst F.tp z L s2) ++ XX (N.new kk a.f s2.1 w' at' l) := fun kk s2 w' at' l Y hl => by
        have hle : l.isEmpty = false := by cases l with | nil => exact absurd rfl hl | cons x r => rfl
        rw [cutPk hcl, hXX]
        simp [nob, abx, N.new, N.enc_mk, haf, hle]
      simp [f0, hi', f3]
      refine CallK_of' (hF.tookA hi _ (by simp only; omega)) ?_
      cases hjb : isT L p1 [46] with
      | true =>
        have l1 := isT_lt hjb
        simp [hjb, f0]
        refine CallK_of' (hF.wordA (j := 3) (q := 2) hi (by simp only; omega) rfl (by simp)) ?_
        generalize h5 : wordS L (p1 + 1, none) = s5
        simp [nob, f0]
        refine CallK_of' (hF.doneA (q := 2) hi (by simp)) ?_
        simp [nag, f3]
        have hn5 := hnext 19 s5 (if kdT L (p1 + 1) = 1 then txT L (p1 + 1) else []) (if kdT L (p1 + 1) = 1 then (p1 : Int) + 1 else 0) [a]
        simp only [List.map_cons, List.map_nil, hen, nob] at hn5
        by_cases c5 : kdT L (p1 + 1) = 1
        · have l5 : p1 + 1 < L.length := kdT_lt (by omega)
          simp [c5] at h5 hn5
          subst h5
          simp [c5]
          refine NextM_of (H.length + 2) d' (Nat.le_refl _) (by simp) (by omega) ⟨_, _, by simp [f0, f2, f3, hil2], hn5 _, .inr ⟨p1 + 1 + 1, rfl, hs2, by omega, ?_, by omega, by omega⟩⟩
          rw [hpp]; simp [pp, hjb, wordR, c5]
        · simp [c5] at h5 hn5
          subst h5
          simp [c5]
          refine NextM_of (H.length + 2) 0 (Nat.le_refl _) (by simp) (by omega) ⟨_, _, by simp [f0, f2, f3, hil2], hn5 _, .inl ⟨rfl, by simp, fun m => hRel _ _ ?_⟩⟩
          simp [pp, hjb, wordR, c5]; omega
      | false =>
      simp [hjb, f0]
      refine CallK_of' (hF.tookA hi _ (by simp only; omega)) ?_
      cases hjc : isT L p1 [40] with
      | true =>
        have l1 := isT_lt hjc
        simp [hjc, f0]
        refine CallK_of (hF.list' hL d' (by omega) (g := .expr) (jn := 3) (jt := 2) (ks0 := [a]) (k := 20) (f := f) (t := 0) (w := []) (a := 0) (zz := false) hi hF.kExpr (by simp [A.lo]; omega) rfl (by simp) (by simp [nob, hen]) rfl (fun m hm ks s hps => by simpa using hX m (by omega) H _ i s hi hps) (p1 + 1, none) ⟨by simp only [G.c]; omega, by simp only [G.c]; omega, fun _ => ⟨l1, by simp only [G.c]; omega⟩⟩) ?_
        rintro _ _ ⟨kl, s2, rfl, rfl, r2, hkl⟩
        simp [XL, nob, f0]
        refine CallK_of' (hF.doneA (q := 2) hi (by simp)) ?_
        simp [nag, f3]
        have hn5 := hnext 20 s2 [] 0 (a :: kl)
        simp only [List.map_cons, nob] at hn5
        rcases r2.none' with ⟨q', b', hq, rfl, e3⟩ | ⟨j, hj, rfl⟩
        · refine NextM_of (H.length + 2) 0 (Nat.le_refl _) (by simp) (by omega) ⟨_, _, by simp [f0, f2, f3, hil2], hn5 _ (by simp), .inl ⟨rfl, by simp, fun m => hRel _ _ ?_⟩⟩
          simp [pp, hjb, hjc, hq, PR.then]; omega
        · have := pp_adv (L := L) d' (.list .expr [41]) (p1 + 1)
          rw [hj] at this
          obtain ⟨v1, v2, v3⟩ := this
          have v2 := v2 rfl
          have v3 := v3 v2
          refine NextM_of (H.length + 2) d' (Nat.le_refl _) (by simp) (by omega) ⟨_, _, by simp [f0, f2, f3, hil2], hn5 _ (by simp), .inr ⟨j, rfl, hs2, by omega, ?_, v3, by omega⟩⟩
          rw [hpp]; simp [pp, hjb, hjc, hj, PR.then, N.bag, N.new, N.ks]
      | false =>
        simp [hjc, f3, f2]
        rw [← hb]
        refine hR1 _ a _ _ (by simp [f2]) (hRel _ _ ?_)
        simp [pp, hjb, hjc]

end
end Go.Zam

namespace Go.Zam
set_option linter.all false
set_option maxRecDepth 100000
set_option maxHeartbeats 1000000

theorem tokA_k (L : List Tk) (i : Nat) : ∃ (a : Int) (l : Bs), tokA_ L i = .agg [.d (.int .i64 (kdT L i)), .d (.int .i64 a), .d (.str l), .d (.str (txT L i))] := by
  unfold tokA_ kdT txT
  cases L[i]? with
  | none => exact ⟨_, _, rfl⟩
  | some t => exact ⟨_, _, rfl⟩

theorem lamRel {L : List Tk} {n p : Nat} {s3 s4 s5 : PSt} {t3 t4 t5 : N} (h3 : ¬ kdT L p = 3) (h4 : ¬ kdT L p = 4) (h1 : ¬ kdT L p = 1) (h5 : isT L p [105, 110, 112, 117, 116] = false) (h6 : isT L p [40] = false) (h7 : isT L p [123] = false) (ch8 : isT L p [102, 110] = true)
    (hp2 : p ≤ L.length) (hp3 : 16 * (L.length - p) + 1 ≤ n + 1) (l0 : p < L.length) (r3 : Rel L n .params (p + 1, none) t3 s3) (r4 : Rel L n .typed s3 t4 s4) (r5 : Rel L n .block s4 t5 s5) : Rel L (n + 1) .atom (p, none) (N.new 28 p s5.1 [] 0 [t3, t4, t5]) s5 := by
  rcases r3.none' with ⟨q, a, e, rfl, e3⟩ | ⟨k, e, rfl⟩
  · obtain ⟨b, rfl, e4⟩ := r4.some'
    obtain ⟨c, rfl, e5⟩ := r5.some'
    simp only [G.wt] at e4 e5
    simp [Rel, pp, h3, h4, h1, kInput, kFn, wantR, h5, h6, h7, ch8, e, PR.then]
    omega
  rcases r4.none' with ⟨q, a, e', rfl, e4⟩ | ⟨k', e', rfl⟩
  · obtain ⟨c, rfl, e5⟩ := r5.some'
    simp only [G.wt] at e5
    simp [Rel, pp, h3, h4, h1, kInput, kFn, wantR, h5, h6, h7, ch8, e, e', PR.then]
    omega
  rcases r5.none' with ⟨q, a, e'', rfl, e5⟩ | ⟨k'', e'', rfl⟩
  · simp [Rel, pp, h3, h4, h1, kInput, kFn, wantR, h5, h6, h7, ch8, e, e', e'', PR.then]
    omega
  simp [Rel, pp, h3, h4, h1, kInput, kFn, wantR, h5, h6, h7, ch8, e, e', e'', PR.then]

section
variable {P : Program} {F : PF} {z : Bool} {L : List Tk}

theorem PHas.atom' (hF : PHas P F) (hL : L.length ≤ 1048576) (n : Nat) (hn : n ≤ 1099511627776) (hX : UC P F.tp z L n .expr F.expr) (hE : ∀ m, m < n → UCc P F.tp F.tb z L m .entry F.entry)
    (hP : UC P F.tp z L n .params F.params) (hT : UC P F.tp z L n .typed F.typed) (hB : UC P F.tp z L n .block F.block) : UC P F.tp z L (n + 1) .atom F.atom := by
  refine UC_of fun H i s hi hp => ?_
  obtain ⟨fn, hf, hcf⟩ := hF.atom
  refine acall_norm (acall_fin hf hcf (by simp [irPAtom]) fun hcl _ => ?_)
  have hp1 := hp.1
  simp only [G.c] at hp1
  simp [irPAtom]
  refine CallK_of' (hF.nodeA hi _) ?_
  simp [nag]
  refine CallK_of' (hF.nowA hi) ?_
  obtain ⟨ta, tl, htk⟩ := tokA_k L s.1
  rw [htk]
  have hi' := pget (tp := F.tp) (z := z) (L := L) (H := H) hi s
  have hps : Ob.box F.tp [A.d (D.sl z 4 (L.map encTk)), A.d (D.int .i64 ((s.1 : Int) + 1)), A.d (D.int .i64 (if s.2.isSome = true then 24 else 0)), A.d (D.int .i64 ((s.2.getD 0 : Nat) : Int))] = pst F.tp z L (s.1 + 1, s.2) := by simp [pst]
  have hw : IntKind.i64.wrap ((s.1 : Int) + 1) = ((s.1 + 1 : Nat) : Int) := by rw [wrap_i64 (by omega) (by omega)]; omega
  simp
  by_cases h3 : kdT L s.1 = 3
  · simp [h3, hi', hw, up hi]
    rw [hps]
    repeat' apply And.intro
    all_goals
      refine CallK_of' (hF.doneA (q := 3) hi (by simp)) ?_
      simp [nag]
      simp [RetK, cutP hcl, nl]
      refine fin_node [] (by simp) (by simp) ?_
      obtain ⟨p, st⟩ := s
      cases st with
      | some q => simp [Rel, G.wt]
      | none => simp only at h3; simp [Rel, pp, h3]
  by_cases h4 : kdT L s.1 = 4
  · simp [h3, h4, hi', hw, up hi]
    rw [hps]
    repeat' apply And.intro
    all_goals
      refine CallK_of' (hF.doneA (q := 3) hi (by simp)) ?_
      simp [nag]
      simp [RetK, cutP hcl, nl]
      refine fin_node [] (by simp) (by simp) ?_
      obtain ⟨p, st⟩ := s
      cases st with
      | some q => simp [Rel, G.wt]
      | none => simp only at h3 h4; simp [Rel, pp, h3, h4]
  by_cases h1 : kdT L s.1 = 1
  · simp [h3, h4, h1]
    refine CallK_of' (hF.wordA (j := 4) (q := 3) hi (by omega) rfl (by simp)) ?_
    generalize h5 : wordS L s = s5
    simp [nob]
    refine CallK_of' (hF.doneA (q := 3) hi (by simp)) ?_
    simp [nag]
    simp [RetK, cutP hcl, nl]
    refine fin_node [] (by simp) (by simp) ?_
    subst h5
    obtain ⟨p, st⟩ := s
    cases st with
    | some q => simp [Rel, G.wt]
    | none => simp only at h3 h4 h1; simp [Rel, pp, h3, h4, h1]
  simp [h3, h4, h1]
  refine CallK_of' (hF.tookA hi _ (by omega)) ?_
  cases h5 : tookB L [105, 110, 112, 117, 116] s with
  | true =>
    obtain ⟨p, rfl, ch5⟩ := tookB_t h5
    have l0 := isT_lt ch5
    obtain ⟨hp2, hp3⟩ := hp.2.2 rfl
    simp only [G.c] at hp2 hp3
    simp only at h3 h4 h1
    simp [ch5]
    refine CallK_of' (hF.doneA (q := 3) hi (by simp)) ?_
    simp [nag]
    simp [RetK, cutP hcl, nl]
    refine fin_node [] (by simp) (by simp) ?_
    simp [Rel, pp, h3, h4, h1, kInput, ch5]
  | false =>
  rw [tookS_f h5]
  simp
  refine CallK_of' (hF.tookA hi _ (by omega)) ?_
  cases h6 : tookB L [40] s with
  | true =>
    obtain ⟨p, rfl, ch6⟩ := tookB_t h6
    have l0 := isT_lt ch6
    obtain ⟨hp2, hp3⟩ := hp.2.2 rfl
    simp only [G.c] at hp2 hp3
    simp only at h3 h4 h1
    simp at h5
    simp [ch6]
    refine CallK_of (hX H _ i (p + 1, none) hi ⟨by simp only [G.c]; omega, by simp only [G.c]; omega, fun _ => ⟨l0, by simp only [G.c]; omega⟩⟩) ?_
    rintro _ _ ⟨x, s7, rfl, rfl, r7⟩
    have b7 := r7.le
    simp [-rowOf]
    refine CallK_of' (hF.putA (j := 4) (q := 3) (rows := []) rfl rfl (by simp)) ?_
    simp [nob]
    refine CallK_of' (hF.wantA hi _ (by simp only at b7; omega)) ?_
    generalize h8 : wantS L _ s7 = s8
    simp
    refine CallK_of' (hF.doneA (q := 3) hi (by simp)) ?_
    simp [nag]
    simp [RetK, cutP hcl, nl]
    refine fin_node [x] (by simp) (by simp) ?_
    subst h8
    rcases r7.none' with ⟨q', b', hq, rfl, e3⟩ | ⟨j, hj, rfl⟩
    · simp [Rel, pp, h3, h4, h1, kInput, h5, ch6, hq, PR.then]; omega
    · have := pp_adv (L := L) n .expr (p + 1)
      rw [hj] at this
      obtain ⟨v1, v2, v3⟩ := this
      have v3 := v3 (v2 rfl)
      by_cases c8 : isT L j [41] = true
      · simp [Rel, pp, h3, h4, h1, kInput, h5, ch6, hj, PR.then, wantR, c8]
      · simp [Rel, pp, h3, h4, h1, kInput, h5, ch6, hj, PR.then, wantR, c8]; omega
  | false =>
  rw [tookS_f h6]
  simp
  refine CallK_of' (hF.tookA hi _ (by omega)) ?_
  cases h7 : tookB L [123] s with
  | true =>
    obtain ⟨p, rfl, ch7⟩ := tookB_t h7
    have l0 := isT_lt ch7
    obtain ⟨hp2, hp3⟩ := hp.2.2 rfl
    simp only [G.c] at hp2 hp3
    simp only at h3 h4 h1
    simp at h5 h6
    simp [ch7]
    refine CallK_of (hF.list' hL n hn (g := .entry) (jn := 4) (jt := 3) (ks0 := []) hi hF.kEntry (by simp [A.lo]) rfl (by simp) rfl rfl (fun m hm ks s hps => hE m hm H _ i 0 s hi (by simp [XL]) hps) (p + 1, none) ⟨by simp only [G.c]; omega, by simp only [G.c]; omega, fun _ => ⟨l0, by simp only [G.c]; omega⟩⟩) ?_
    rintro _ _ ⟨ks, s2, rfl, rfl, r2, hkl⟩
    simp [XL, nob]
    refine CallK_of' (hF.doneA (q := 3) hi (by simp)) ?_
    simp [nag]
    simp [RetK, cutP hcl, nl]
    refine fin_node ks (by simp) (by simp) ?_
    rcases r2.none' with ⟨q, a, e', rfl, e4⟩ | ⟨k', e', rfl⟩
    · simp [Rel, pp, h3, h4, h1, kInput, h5, h6, ch7, e', PR.then]; omega
    · simp [Rel, pp, h3, h4, h1, kInput, h5, h6, ch7, e', PR.then, N.bag, N.new, N.ks]
  | false =>
  rw [tookS_f h7]
  simp
  refine CallK_of' (hF.tookA hi _ (by omega)) ?_
  cases h8 : tookB L [102, 110] s with
  | true =>
    obtain ⟨p, rfl, ch8⟩ := tookB_t h8
    have l0 := isT_lt ch8
    obtain ⟨hp2, hp3⟩ := hp.2.2 rfl
    simp only [G.c] at hp2 hp3
    simp only at h3 h4 h1
    simp at h5 h6 h7
    simp [ch8]
    repeat' apply And.intro
    all_goals
      refine CallK_of (hP H _ i (p + 1, none) hi ⟨by simp only [G.c]; omega, by simp only [G.c]; omega, fun _ => ⟨l0, by simp only [G.c]; omega⟩⟩) ?_
      rintro _ _ ⟨t3, s3, rfl, rfl, r3⟩
      have m3 := r3.mo
      have b3 := r3.wt0 rfl
      simp only at b3
      simp [-rowOf]
      repeat' apply And.intro
    all_goals
      refine CallK_of (hT H _ i s3 hi ⟨by simp only [G.c]; omega, by simp only [G.c]; omega, fun e => ⟨(m3 e).2.2 l0, by have := (m3 e).2.1; simp only [G.c] at this ⊢; omega⟩⟩) ?_
      rintro _ _ ⟨t4, s4, rfl, rfl, r4⟩
      have m4 := m3.trans r4.mo
      have b4 := r4.wt0 rfl
      simp [-rowOf]
      repeat' apply And.intro
    all_goals
      refine CallK_of (hB H _ i s4 hi ⟨by simp only [G.c]; omega, by simp only [G.c]; omega, fun e => ⟨(m4 e).2.2 l0, by have := (m4 e).2.1; simp only [G.c] at this ⊢; omega⟩⟩) ?_
      rintro _ _ ⟨t5, s5, rfl, rfl, r5⟩
      simp [-rowOf]
      refine CallK_of' (hF.putA (j := 4) (q := 3) (rows := []) rfl rfl (by simp)) ?_
      simp [nob]
      refine CallK_of' (hF.doneA (q := 3) hi (by simp)) ?_
      simp [nag]
      simp [RetK, cutP hcl, nl]
      refine fin_node [t3, t4, t5] (by simp) (by simp) ?_
      clear m3 m4 b3 b4
      exact lamRel h3 h4 h1 h5 h6 h7 ch8 hp2 hp3 l0 r3 r4 r5
  | false =>
  rw [tookS_f h8]
  simp
  refine CallK_of' (hF.failA hi) ?_
  simp
  refine CallK_of' (hF.doneA (q := 3) hi (by simp)) ?_
  simp [nag]
  simp [RetK, cutP hcl, nl]
  refine fin_node [] (by simp) (by simp) ?_
  obtain ⟨p, st⟩ := s
  cases st with
  | some q => simp [Rel, G.wt]
  | none =>
    simp at h3 h4 h1 h5 h6 h7 h8
    obtain ⟨hp2, hp3⟩ := hp.2.2 rfl
    simp only [G.c] at hp2 hp3
    simp [Rel, pp, kInput, kFn, wantR, h3, h4, h1, h5, h6, h7, h8]
    omega

end
end Go.Zam

namespace Go.Zam
set_option linter.all false
set_option maxRecDepth 100000
set_option maxHeartbeats 1000000

section
variable {P : Program} {F : PF} {z : Bool} {L : List Tk}

theorem setsB_eq (hEq : ∀ i, isT L i [61] = true → kdT L i = 5) (i : Nat) : setsB L i = (decide (kdT L i = 1) && isT L (i + 1) [61]) := by
  unfold setsB
  have h := hEq (i + 1)
  unfold isT kdT at *
  cases hg : L[i + 1]? with
  | none => simp
  | some t =>
    rw [hg] at h
    simp only at h ⊢
    by_cases h5 : t.k = 5
    · simp [h5]
    · by_cases h2 : t.k = 2
      · simp [h2] at h ⊢
        intro _; exact h
      · simp [h2, h5]

theorem PHas.stmt' (hF : PHas P F) (hL : L.length ≤ 1048576) (hEq : ∀ i, isT L i [61] = true → kdT L i = 5) (n : Nat) (hn : n ≤ 1099511627776) (hX : UC P F.tp z L n .expr F.expr) (hT : UC P F.tp z L n .typed F.typed) (hB : UC P F.tp z L n .block F.block) : UC P F.tp z L (n + 1) .stmt F.stmt := by
  refine UC_of fun H i s hi hp => ?_
  obtain ⟨fn, hf, hcf⟩ := hF.stmt
  refine acall_norm (acall_fin hf hcf (by simp [irPStmt]) fun hcl _ => ?_)
  have hp1 := hp.1
  simp only [G.c] at hp1
  simp [irPStmt]
  refine CallK_of' (hF.nodeA hi _) ?_
  simp [nag]
  refine CallK_of' (hF.tookA hi _ (by omega)) ?_
  cases h1 : tookB L [108, 101, 116] s with
  | true =>
    obtain ⟨p, rfl, ch1⟩ := tookB_t h1
    have l0 := isT_lt ch1
    obtain ⟨hp2, hp3⟩ := hp.2.2 rfl
    simp only [G.c] at hp2 hp3
    simp only [G.c] at hp1
    simp [ch1]
    refine CallK_of' (hF.wordA (j := 3) (q := 2) hi (by simp only; omega) rfl (by simp)) ?_
    generalize g2 : wordS L (p + 1, none) = s2
    have b2 := wordS_le g2
    have m2 := wordS_mo g2
    simp only at b2
    simp [nob]
    refine CallK_of (hT H _ i s2 hi ⟨by simp only [G.c]; omega, by simp only [G.c]; omega, fun e => ⟨(m2 e).2.2 l0, by have := (m2 e).2.1; simp only [G.c] at this ⊢; omega⟩⟩) ?_
    rintro _ _ ⟨t3, s3, rfl, rfl, rs3⟩
    have bs3 := rs3.wt0 rfl
    have m3 := m2.trans rs3.mo
    try simp only at bs3
    simp [-rowOf]
    refine CallK_of' (hF.putA (j := 3) (q := 2) (rows := []) rfl rfl (by simp)) ?_
    simp [nob]
    refine CallK_of' (hF.wantA hi _ (by omega)) ?_
    generalize g4 : wantS L _ s3 = s4
    have b4 := wantS_le g4
    have m4 := m3.trans (wantS_mo g4)
    simp
    refine CallK_of (hX H _ i s4 hi ⟨by simp only [G.c]; omega, by simp only [G.c]; omega, fun e => ⟨(m4 e).2.2 l0, by have := (m4 e).2.1; simp only [G.c] at this ⊢; omega⟩⟩) ?_
    rintro _ _ ⟨t5, s5, rfl, rfl, rs5⟩
    have bs5 := rs5.le
    have m5 := m4.trans rs5.mo
    try simp only at bs5
    simp [-rowOf]
    refine CallK_of' (hF.putA (j := 3) (q := 2) (rows := [t3.enc]) rfl rfl (by simp)) ?_
    simp [nob]
    refine CallK_of' (hF.wantA hi _ (by omega)) ?_
    generalize g6 : wantS L _ s5 = s6
    simp
    refine CallK_of' (hF.doneA (q := 2) hi (by simp)) ?_
    simp [nag]
    simp [RetK, cutP hcl, nl]
    refine fin_node [t3, t5] (by simp) (by simp) ?_
    clear m2 m3 m4 m5 b2 bs3 b4 bs5
    subst g2 g4 g6
    simp only [Rel, pp, wantR, wordR, kLet, ch1, if_true]
    by_cases c2 : kdT L (p + 1) = 1
    case neg =>
      simp [c2] at rs3
      obtain ⟨a, rfl, e3⟩ := rs3.some'
      simp at rs5
      obtain ⟨b, rfl, e5⟩ := rs5.some'
      simp only [G.wt] at e3 e5
      simp [c2]
      omega
    have l2 : p + 1 < L.length := kdT_lt (by omega)
    simp only [wordS_none, c2, if_true] at rs3
    rcases rs3.none' with ⟨q, a, e, rfl, e3⟩ | ⟨k, e, rfl⟩
    · simp at rs5
      obtain ⟨b, rfl, e5⟩ := rs5.some'
      simp only [G.wt] at e5
      simp [c2, e, PR.then]
      omega
    have v3 := pp_adv (L := L) n .typed (p + 1 + 1)
    rw [e] at v3
    obtain ⟨v1, -, v3⟩ := v3
    by_cases c4 : isT L k [61] = true
    case neg =>
      simp [c4] at rs5
      obtain ⟨b, rfl, e5⟩ := rs5.some'
      simp only [G.wt] at e5
      simp [c2, e, c4, PR.then]
      omega
    have l4 := isT_lt c4
    simp only [wantS_none, c4, if_true] at rs5
    rcases rs5.none' with ⟨q, a, e', rfl, e5⟩ | ⟨k', e', rfl⟩
    · simp [c2, e, c4, e', PR.then]
      omega
    have v5 := pp_adv (L := L) n .expr (k + 1)
    rw [e'] at v5
    obtain ⟨w1, w2, w3⟩ := v5
    have w2 := w2 rfl
    have w3 := w3 w2
    by_cases c6 : isT L k' [59] = true
    · simp [c2, e, c4, e', c6, PR.then]
    · simp [c2, e, c4, e', c6, PR.then]
      omega
  | false =>
  rw [tookS_f h1]
  simp
  refine CallK_of' (hF.tookA hi _ (by omega)) ?_
  cases h2 : tookB L [105, 102] s with
  | true =>
    obtain ⟨p, rfl, ch2⟩ := tookB_t h2
    have l0 := isT_lt ch2
    obtain ⟨hp2, hp3⟩ := hp.2.2 rfl
    simp only [G.c] at hp2 hp3
    simp only [G.c] at hp1
    simp at h1
    simp [ch2]
    refine CallK_of (hX H _ i (p + 1, none) hi ⟨by simp only [G.c]; omega, by simp only [G.c]; omega, fun _ => ⟨l0, by simp only [G.c]; omega⟩⟩) ?_
    rintro _ _ ⟨t3, s3, rfl, rfl, rs3⟩
    have bs3 := rs3.le
    have m3 := rs3.mo
    try simp only at bs3
    simp [-rowOf]
    refine CallK_of (hB H _ i s3 hi ⟨by simp only [G.c]; omega, by simp only [G.c]; omega, fun e => ⟨(m3 e).2.2 l0, by have := (m3 e).2.1; simp only [G.c] at this ⊢; omega⟩⟩) ?_
    rintro _ _ ⟨t4, s4, rfl, rfl, rs4⟩
    have bs4 := rs4.wt0 rfl
    have m4 := m3.trans rs4.mo
    try simp only at bs4
    simp [-rowOf]
    refine CallK_of' (hF.putA (j := 3) (q := 2) (rows := []) rfl rfl (by simp)) ?_
    simp [nob]
    refine CallK_of' (hF.tookA hi _ (by omega)) ?_
    cases h7 : tookB L [101, 108, 115, 101] s4 with
    | true =>
      obtain ⟨p4, rfl, c7⟩ := tookB_t h7
      have l7 := isT_lt c7
      have mm := (m4 rfl).2.1
      simp only at mm
      simp [c7]
      refine CallK_of (hB H _ i (p4 + 1, none) hi ⟨by simp only [G.c]; omega, by simp only [G.c]; omega, fun _ => ⟨l7, by simp only [G.c]; omega⟩⟩) ?_
      rintro _ _ ⟨t5, s5, rfl, rfl, rs5⟩
      simp [-rowOf]
      refine CallK_of' (hF.putA (j := 3) (q := 2) (rows := [t3.enc, t4.enc]) rfl rfl (by simp)) ?_
      simp [nob]
      refine CallK_of' (hF.doneA (q := 2) hi (by simp)) ?_
      simp [nag]
      simp [RetK, cutP hcl, nl]
      refine fin_node [t3, t4, t5] (by simp) (by simp) ?_
      rcases rs3.none' with ⟨q, a, e, rfl, e3⟩ | ⟨k, e, rfl⟩
      · obtain ⟨b, e', -⟩ := rs4.some'; simp at e'
      rcases rs4.none' with ⟨q, a, e', e4', e4⟩ | ⟨k', e', e4'⟩
      · simp at e4'
      obtain rfl : p4 = k' := by simpa using e4'
      rcases rs5.none' with ⟨q, a, e'', rfl, e5⟩ | ⟨k'', e'', rfl⟩
      · simp [Rel, pp, kLet, kIf, kElse, h1, ch2, e, e', c7, e'', PR.then]; omega
      · simp [Rel, pp, kLet, kIf, kElse, h1, ch2, e, e', c7, e'', PR.then]
    | false =>
      rw [tookS_f h7]
      simp
      refine CallK_of' (hF.putA (j := 3) (q := 2) (rows := [t3.enc, t4.enc]) (rows2 := [N.none.enc]) rfl rfl (by simp)) ?_
      simp [nob]
      refine CallK_of' (hF.doneA (q := 2) hi (by simp)) ?_
      simp [nag]
      simp [RetK, cutP hcl, nl]
      refine fin_node [t3, t4, N.none] (by simp) (by simp) ?_
      clear m3 m4 bs3 bs4
      rcases rs3.none' with ⟨q, a, e, rfl, e3⟩ | ⟨k, e, rfl⟩
      · obtain ⟨b, rfl, e4⟩ := rs4.some'
        simp only [G.wt] at e4
        simp [Rel, pp, kLet, kIf, kElse, h1, ch2, e, PR.then]; omega
      rcases rs4.none' with ⟨q, a, e', rfl, e4⟩ | ⟨k', e', rfl⟩
      · simp [Rel, pp, kLet, kIf, kElse, h1, ch2, e, e', PR.then]; omega
      simp at h7
      simp [Rel, pp, kLet, kIf, kElse, h1, ch2, e, e', h7, PR.then]
  | false =>
  rw [tookS_f h2]
  simp
  refine CallK_of' (hF.tookA hi _ (by omega)) ?_
  cases h3 : tookB L [119, 104, 105, 108, 101] s with
  | true =>
    obtain ⟨p, rfl, ch3⟩ := tookB_t h3
    have l0 := isT_lt ch3
    obtain ⟨hp2, hp3⟩ := hp.2.2 rfl
    simp only [G.c] at hp2 hp3
    simp only [G.c] at hp1
    simp at h1 h2
    simp [ch3]
    refine CallK_of (hX H _ i (p + 1, none) hi ⟨by simp only [G.c]; omega, by simp only [G.c]; omega, fun _ => ⟨l0, by simp only [G.c]; omega⟩⟩) ?_
    rintro _ _ ⟨t3, s3, rfl, rfl, rs3⟩
    have bs3 := rs3.le
    have m3 := rs3.mo
    try simp only at bs3
    simp [-rowOf]
    refine CallK_of (hB H _ i s3 hi ⟨by simp only [G.c]; omega, by simp only [G.c]; omega, fun e => ⟨(m3 e).2.2 l0, by have := (m3 e).2.1; simp only [G.c] at this ⊢; omega⟩⟩) ?_
    rintro _ _ ⟨t4, s4, rfl, rfl, rs4⟩
    have bs4 := rs4.wt0 rfl
    have m4 := m3.trans rs4.mo
    try simp only at bs4
    simp [-rowOf]
    refine CallK_of' (hF.putA (j := 3) (q := 2) (rows := []) rfl rfl (by simp)) ?_
    simp [nob]
    refine CallK_of' (hF.doneA (q := 2) hi (by simp)) ?_
    simp [nag]
    simp [RetK, cutP hcl, nl]
    refine fin_node [t3, t4] (by simp) (by simp) ?_
    clear m3 m4 bs3 bs4
    rcases rs3.none' with ⟨q, a, e, rfl, e3⟩ | ⟨k, e, rfl⟩
    · obtain ⟨b, rfl, e4⟩ := rs4.some'
      simp only [G.wt] at e4
      simp [Rel, pp, kLet, kIf, kWhile, h1, h2, ch3, e, PR.then]; omega
    rcases rs4.none' with ⟨q, a, e', rfl, e4⟩ | ⟨k', e', rfl⟩
    · simp [Rel, pp, kLet, kIf, kWhile, h1, h2, ch3, e, e', PR.then]; omega
    simp [Rel, pp, kLet, kIf, kWhile, h1, h2, ch3, e, e', PR.then]
  | false =>
  rw [tookS_f h3]
  simp
  refine CallK_of' (hF.tookA hi _ (by omega)) ?_
  cases h4 : tookB L [112, 114, 105, 110, 116] s with
  | true =>
    obtain ⟨p, rfl, ch4⟩ := tookB_t h4
    have l0 := isT_lt ch4
    obtain ⟨hp2, hp3⟩ := hp.2.2 rfl
    simp only [G.c] at hp2 hp3
    simp only [G.c] at hp1
    simp at h1 h2 h3
    simp [ch4]
    refine CallK_of (hX H _ i (p + 1, none) hi ⟨by simp only [G.c]; omega, by simp only [G.c]; omega, fun _ => ⟨l0, by simp only [G.c]; omega⟩⟩) ?_
    rintro _ _ ⟨t3, s3, rfl, rfl, rs3⟩
    have bs3 := rs3.le
    have m3 := rs3.mo
    try simp only at bs3
    simp [-rowOf]
    refine CallK_of' (hF.putA (j := 3) (q := 2) (rows := []) rfl rfl (by simp)) ?_
    simp [nob]
    refine CallK_of' (hF.wantA hi _ (by omega)) ?_
    generalize g6 : wantS L _ s3 = s6
    simp
    refine CallK_of' (hF.doneA (q := 2) hi (by simp)) ?_
    simp [nag]
    simp [RetK, cutP hcl, nl]
    refine fin_node [t3] (by simp) (by simp) ?_
    clear m3 bs3
    subst g6
    rcases rs3.none' with ⟨q, a, e, rfl, e3⟩ | ⟨k, e, rfl⟩
    · simp [Rel, pp, wantR, kLet, kIf, kWhile, kPrint, h1, h2, h3, ch4, e, PR.then]; omega
    have v5 := pp_adv (L := L) n .expr (p + 1)
    rw [e] at v5
    obtain ⟨w1, w2, w3⟩ := v5
    have w2 := w2 rfl
    have w3 := w3 w2
    by_cases c6 : isT L k [59] = true
    · simp [Rel, pp, wantR, kLet, kIf, kWhile, kPrint, h1, h2, h3, ch4, e, c6, PR.then]
    · simp [Rel, pp, wantR, kLet, kIf, kWhile, kPrint, h1, h2, h3, ch4, e, c6, PR.then]; omega
  | false =>
  rw [tookS_f h4]
  simp
  refine CallK_of' (hF.tookA hi _ (by omega)) ?_
  cases h5 : tookB L [114, 101, 116, 117, 114, 110] s with
  | true =>
    obtain ⟨p, rfl, ch5⟩ := tookB_t h5
    have l0 := isT_lt ch5
    obtain ⟨hp2, hp3⟩ := hp.2.2 rfl
    simp only [G.c] at hp2 hp3
    simp only [G.c] at hp1
    simp at h1 h2 h3 h4
    simp [ch5]
    refine CallK_of (hX H _ i (p + 1, none) hi ⟨by simp only [G.c]; omega, by simp only [G.c]; omega, fun _ => ⟨l0, by simp only [G.c]; omega⟩⟩) ?_
    rintro _ _ ⟨t3, s3, rfl, rfl, rs3⟩
    have bs3 := rs3.le
    have m3 := rs3.mo
    try simp only at bs3
    simp [-rowOf]
    refine CallK_of' (hF.putA (j := 3) (q := 2) (rows := []) rfl rfl (by simp)) ?_
    simp [nob]
    refine CallK_of' (hF.wantA hi _ (by omega)) ?_
    generalize g6 : wantS L _ s3 = s6
    simp
    refine CallK_of' (hF.doneA (q := 2) hi (by simp)) ?_
    simp [nag]
    simp [RetK, cutP hcl, nl]
    refine fin_node [t3] (by simp) (by simp) ?_
    clear m3 bs3
    subst g6
    rcases rs3.none' with ⟨q, a, e, rfl, e3⟩ | ⟨k, e, rfl⟩
    · simp [Rel, pp, wantR, kLet, kIf, kWhile, kPrint, kReturn, h1, h2, h3, h4, ch5, e, PR.then]; omega
    have v5 := pp_adv (L := L) n .expr (p + 1)
    rw [e] at v5
    obtain ⟨w1, w2, w3⟩ := v5
    have w2 := w2 rfl
    have w3 := w3 w2
    by_cases c6 : isT L k [59] = true
    · simp [Rel, pp, wantR, kLet, kIf, kWhile, kPrint, kReturn, h1, h2, h3, h4, ch5, e, c6, PR.then]
    · simp [Rel, pp, wantR, kLet, kIf, kWhile, kPrint, kReturn, h1, h2, h3, h4, ch5, e, c6, PR.then]; omega
  | false =>
  rw [tookS_f h5]
  simp
  refine CallK_of' (hF.sets' (upG hi) (by omega)) ?_
  rw [setsB_eq hEq]
  by_cases h6 : kdT L s.1 = 1 ∧ isT L (s.1 + 1) [61] = true
  · simp [h6.1, h6.2]
    refine CallK_of' (hF.wordA (j := 3) (q := 2) hi (by omega) rfl (by simp)) ?_
    generalize g2 : wordS L s = s2
    have b2 := wordS_le g2
    have m2 := wordS_mo g2
    simp [nob]
    refine CallK_of' (hF.wantA hi _ (by omega)) ?_
    generalize g4 : wantS L _ s2 = s4
    have b4 := wantS_le g4
    have m4 := m2.trans (wantS_mo g4)
    simp
    refine CallK_of (hX H _ i s4 hi (m4.pre hp (by decide) (by simp only [G.c]; omega))) ?_
    rintro _ _ ⟨t5, s5, rfl, rfl, rs5⟩
    have bs5 := rs5.le
    simp [-rowOf]
    refine CallK_of' (hF.putA (j := 3) (q := 2) (rows := []) rfl rfl (by simp)) ?_
    simp [nob]
    refine CallK_of' (hF.wantA hi _ (by omega)) ?_
    generalize g6 : wantS L _ s5 = s6
    simp
    refine CallK_of' (hF.doneA (q := 2) hi (by simp)) ?_
    simp [nag]
    simp [RetK, cutP hcl, nl]
    refine fin_node [t5] (by simp) (by simp) ?_
    clear m2 m4 b2 b4 bs5
    subst g2 g4 g6
    obtain ⟨p, st⟩ := s
    cases st with
    | some q =>
      simp only [wordS_some, wantS_some] at rs5
      obtain ⟨b, rfl, e⟩ := rs5.some'
      simp only [G.wt] at e
      simp [Rel, G.wt]; omega
    | none =>
      simp at h1 h2 h3 h4 h5 h6
      obtain ⟨hp2, hp3⟩ := hp.2.2 rfl
      simp only [G.c] at hp2 hp3
      have l6 := isT_lt h6.2
      simp [h6.1, h6.2] at rs5
      rcases rs5.none' with ⟨q, a, e, rfl, e3⟩ | ⟨k, e, rfl⟩
      · simp [Rel, pp, wantR, kLet, kIf, kWhile, kPrint, kReturn, h1, h2, h3, h4, h5, h6.1, h6.2, e, PR.then]; omega
      have v5 := pp_adv (L := L) n .expr (p + 2)
      rw [e] at v5
      obtain ⟨w1, w2, w3⟩ := v5
      have w2 := w2 rfl
      have w3 := w3 w2
      by_cases c6 : isT L k [59] = true
      · simp [Rel, pp, wantR, kLet, kIf, kWhile, kPrint, kReturn, h1, h2, h3, h4, h5, h6.1, h6.2, e, c6, PR.then]
      · simp [Rel, pp, wantR, kLet, kIf, kWhile, kPrint, kReturn, h1, h2, h3, h4, h5, h6.1, h6.2, e, c6, PR.then]; omega
  have h6' : (decide (kdT L s.1 = 1) && isT L (s.1 + 1) [61]) = false := by
    rw [Bool.and_eq_false_iff]
    by_cases hk : kdT L s.1 = 1
    · right
      cases hh : isT L (s.1 + 1) [61] with
      | false => rfl
      | true => exact absurd ⟨hk, hh⟩ h6
    · left; simpa using hk
  rw [h6']
  simp
  refine CallK_of (hX H _ i s hi ((Mo.refl s).pre hp (by decide) (by simp only [G.c]; omega))) ?_
  rintro _ _ ⟨t5, s5, rfl, rfl, rs5⟩
  have bs5 := rs5.le
  simp [-rowOf]
  refine CallK_of' (hF.putA (j := 3) (q := 2) (rows := []) rfl rfl (by simp)) ?_
  simp [nob]
  refine CallK_of' (hF.wantA hi _ (by omega)) ?_
  generalize g6 : wantS L _ s5 = s6
  simp
  refine CallK_of' (hF.doneA (q := 2) hi (by simp)) ?_
  simp [nag]
  simp [RetK, cutP hcl, nl]
  refine fin_node [t5] (by simp) (by simp) ?_
  clear bs5
  subst g6
  obtain ⟨p, st⟩ := s
  cases st with
  | some q =>
    obtain ⟨b, rfl, e⟩ := rs5.some'
    simp only [G.wt] at e
    simp [Rel, G.wt]; omega
  | none =>
    simp at h1 h2 h3 h4 h5
    simp only at h6
    obtain ⟨hp2, hp3⟩ := hp.2.2 rfl
    simp only [G.c] at hp2 hp3
    rcases rs5.none' with ⟨q, a, e, rfl, e3⟩ | ⟨k, e, rfl⟩
    · simp only [Rel, pp, wantR, kLet, kIf, kWhile, kPrint, kReturn, h1, h2, h3, h4, h5, if_neg h6, e, PR.then]; simp; omega
    have v5 := pp_adv (L := L) n .expr p
    rw [e] at v5
    obtain ⟨w1, w2, w3⟩ := v5
    have w2 := w2 rfl
    have w3 := w3 w2
    by_cases c6 : isT L k [59] = true
    · simp only [Rel, pp, wantR, kLet, kIf, kWhile, kPrint, kReturn, h1, h2, h3, h4, h5, if_neg h6, e, c6, PR.then]; simp [c6]
    · simp only [Rel, pp, wantR, kLet, kIf, kWhile, kPrint, kReturn, h1, h2, h3, h4, h5, if_neg h6, e, c6, PR.then]; simp [c6]; omega

end
end Go.Zam

namespace Go.Zam
set_option linter.all false
set_option maxRecDepth 100000
set_option maxHeartbeats 1000000

section
variable {P : Program} {F : PF} {z : Bool} {L : List Tk}

/-- all that calls itself -/
structure PAll (P : Program) (F : PF) (z : Bool) (L : List Tk) (n : Nat) : Prop where
  use_ : UC P F.tp z L n .use F.use_
  def_ : UC P F.tp z L n .defn F.def_
  params : UC P F.tp z L n .params F.params
  param : UCc P F.tp F.tb z L n .param F.param
  typed : UC P F.tp z L n .typed F.typed
  kind : UC P F.tp z L n .kind F.kind
  tfield : UCc P F.tp F.tb z L n .tfield F.tfield
  block : UC P F.tp z L n .block F.block
  stmt : UC P F.tp z L n .stmt F.stmt
  expr : UC P F.tp z L n .expr F.expr
  sum : UC P F.tp z L n .sum F.sum
  term : UC P F.tp z L n .term F.term
  post : UC P F.tp z L n .post F.post
  atom : UC P F.tp z L n .atom F.atom
  entry : UCc P F.tp F.tb z L n .entry F.entry

theorem UC_zero {tp : TypeId} {g : G} {f : FuncId} (hg : 0 < g.c) : UC P tp z L 0 g f := fun H X i s hi hp => absurd hp.2.1 (by omega)
theorem UCc_zero {tp tb : TypeId} {g : G} {f : FuncId} (hg : 0 < g.c) : UCc P tp tb z L 0 g f := fun H X i q s hi hq hp => absurd hp.2.1 (by omega)

theorem PHas.all (hF : PHas P F) (hL : L.length ≤ 1048576) (hEq : ∀ i, isT L i [61] = true → kdT L i = 5) : ∀ n, n ≤ 1099511627776 → PAll P F z L n := by
  intro n
  induction n using Nat.strongRecOn with
  | ind n ih =>
  intro hn
  cases n with
  | zero => exact ⟨UC_zero (by decide), UC_zero (by decide), UC_zero (by decide), UCc_zero (by decide), UC_zero (by decide), UC_zero (by decide), UCc_zero (by decide), UC_zero (by decide), UC_zero (by decide), UC_zero (by decide), UC_zero (by decide), UC_zero (by decide), UC_zero (by decide), UC_zero (by decide), UCc_zero (by decide)⟩
  | succ n =>
    have a : ∀ m, m < n + 1 → PAll P F z L m := fun m hm => ih m hm (by omega)
    have b := a n (by omega)
    have hn' : n ≤ 1099511627776 := by omega
    exact ⟨hF.use' hL n, hF.def' hL n hn' b.params b.typed b.block, hF.params' hL n hn' (fun m hm => (a m (by omega)).param), hF.param' hL n hn' b.typed, hF.typed' hL n hn' b.kind,
      hF.kind' hL n hn' (fun m hm => (a m (by omega)).tfield) (fun m hm => (a m hm).kind), hF.tfield' hL n hn' b.kind, hF.block' hL n hn' (fun m hm => (a m (by omega)).stmt), hF.stmt' hL hEq n hn' b.expr b.typed b.block,
      hF.expr' hL n hn' b.sum, hF.sum' hL n hn' (fun m hm => (a m hm).term), hF.term' hL n hn' (fun m hm => (a m hm).post), hF.post' hL n hn' b.atom (fun m hm => (a m (by omega)).expr),
      hF.atom' hL n hn' b.expr (fun m hm => (a m (by omega)).entry) b.params b.typed b.block, hF.entry' hL n hn' b.expr⟩

end
end Go.Zam

namespace Go.Zam
set_option linter.all false
set_option maxRecDepth 100000
set_option maxHeartbeats 1000000

mutual
def N.size : N → Nat
  | .mk _ _ _ _ _ _ ks => 1 + N.sizes ks
def N.sizes : List N → Nat
  | [] => 0
  | p :: r => N.size p + N.sizes r
end
mutual
def N.depth : N → Nat
  | .mk _ _ _ _ _ _ ks => 1 + N.depths ks
def N.depths : List N → Nat
  | [] => 0
  | p :: r => max (N.depth p) (N.depths r)
end
theorem N.size_mk (k f t : Int) (w : Bs) (a : Int) (z : Bool) (ks : List N) : N.size (.mk k f t w a z ks) = 1 + N.sizes ks := by rw [N.size]
theorem N.depth_mk (k f t : Int) (w : Bs) (a : Int) (z : Bool) (ks : List N) : N.depth (.mk k f t w a z ks) = 1 + N.depths ks := by rw [N.depth]
theorem N.sizes_cons (p : N) (r : List N) : N.sizes (p :: r) = N.size p + N.sizes r := by rw [N.sizes]
theorem N.sizes_mem {l : List N} {p : N} (h : p ∈ l) : N.size p ≤ N.sizes l := by
  induction l with
  | nil => cases h
  | cons q l ih =>
    rw [N.sizes_cons]
    rcases List.mem_cons.1 h with rfl | h
    · omega
    · have := ih h; omega
theorem N.size_pos (p : N) : 1 ≤ N.size p := by cases p; rw [N.size]; omega
theorem N.sizes_len (l : List N) : l.length ≤ N.sizes l := by
  induction l with
  | nil => simp
  | cons q l ih => rw [N.sizes_cons, List.length_cons]; have := N.size_pos q; omega
theorem N.depths_cons (p : N) (r : List N) : N.depths (p :: r) = max (N.depth p) (N.depths r) := by rw [N.depths]
theorem N.depths_le {b : Nat} (l : List N) (h : ∀ p ∈ l, N.depth p ≤ b) : N.depths l ≤ b := by
  induction l with
  | nil => simp [N.depths]
  | cons q l ih =>
    rw [N.depths_cons]
    have h1 := h q (by simp)
    have h2 := ih fun p hp => h p (by simp [hp])
    omega
theorem N.depth_size : ∀ n : N, N.depth n ≤ N.size n := by
  refine N.ind fun k f t w a z ks ih => ?_
  rw [N.depth_mk, N.size_mk]
  have : N.depths ks ≤ N.sizes ks := N.depths_le ks fun p hp => Nat.le_trans (ih p hp) (N.sizes_mem hp)
  omega
theorem N.depths_take_succ {l : List N} {i : Nat} (h : i < l.length) : N.depths (l.take (i + 1)) = max (N.depths (l.take i)) (N.depth l[i]) := by
  have app : ∀ a b : List N, N.depths (a ++ b) = max (N.depths a) (N.depths b) := by
    intro a b
    induction a with
    | nil => simp [N.depths]
    | cons q a ih => rw [List.cons_append, N.depths_cons, N.depths_cons, ih]; omega
  rw [List.take_succ_eq_append_getElem h, app, N.depths_cons]
  simp [N.depths]

/-! how great a tree out of tokens is -/

def G.k1 : G → Nat
  | .typed | .file _ | .sumL _ | .termL _ | .postL _ => 0
  | .listL .. | .stmts _ => 4
  | _ => 2
def G.sz : G → Nat
  | .typed => 1
  | .file ks | .listL _ _ ks | .stmts ks => 1 + N.sizes ks
  | .sumL a | .termL a | .postL a => N.size a
  | _ => 0
def G.nice : G → Prop
  | .list o _ | .listL o _ _ => o.k1 = 2 ∧ o.sz = 0 ∧ o.strict = true ∧ o.nice
  | _ => True
def Sz (i A B : Nat) : PR → Prop
  | .ok m j => m.size + A ≤ B + 4 * (j - i)
  | _ => True

section
variable {L : List Tk} {i A B : Nat}
theorem Sz.bad {j : Nat} : Sz i A B (.bad j) := trivial
theorem Sz.want {k : Nat} {x : Bs} {h : Nat → PR} (hh : Sz i A B (h (k + 1))) : Sz i A B (wantR L k x h) := by
  unfold wantR
  split
  · exact hh
  · trivial
theorem Sz.word {k : Nat} {h : Bs → Nat → PR} (hh : Sz i A B (h (txT L k) (k + 1))) : Sz i A B (wordR L k h) := by
  unfold wordR
  split
  · exact hh
  · trivial
theorem Sz.last {n : Nat} (ih : ∀ g i, g.nice → Sz i g.k1 g.sz (pp L n g i)) {g : G} {k : Nat} (hg : g.nice) (hh : ∀ x j, k ≤ j → (g.strict = true → k < j) → x + g.k1 ≤ g.sz + 4 * (j - k) → x + A ≤ B + 4 * (j - i)) : Sz i A B (pp L n g k) := by
  have h1 := ih g k hg
  have h2 := pp_adv (L := L) n g k
  generalize pp L n g k = r at h1 h2
  cases r with
  | out => trivial
  | bad j => trivial
  | ok m j => exact hh _ j h2.1 h2.2.1 h1
theorem Sz.thenG {n : Nat} (ih : ∀ g i, g.nice → Sz i g.k1 g.sz (pp L n g i)) {g : G} {k : Nat} {h : N → Nat → PR} (hg : g.nice) (hh : ∀ m j, k ≤ j → (g.strict = true → k < j) → m.size + g.k1 ≤ g.sz + 4 * (j - k) → Sz i A B (h m j)) : Sz i A B ((pp L n g k).then h) := by
  have h1 := ih g k hg
  have h2 := pp_adv (L := L) n g k
  generalize pp L n g k = r at h1 h2
  cases r with
  | out => trivial
  | bad j => trivial
  | ok m j => exact hh m j h2.1 h2.2.1 h1
theorem Sz.ok {m : N} {j : Nat} (h : m.size + A ≤ B + 4 * (j - i)) : Sz i A B (.ok m j) := h

end
end Go.Zam

namespace Go.Zam
set_option linter.all false
set_option maxRecDepth 100000
set_option maxHeartbeats 1000000

section
variable {P : Program}

theorem Has.depth {f : FuncId} {tn : TypeId} (h : Has P f (irTDepth f tn)) : ∀ (n : N), n.size ≤ 1125899906842624 → ∀ H, ACall P f [n.v] H (fun r H' => r = .d (.int .i64 (n.depth : Int)) ∧ H' = H) := by
  refine N.ind fun k f' t w a z ks ih => ?_
  intro hs H
  obtain ⟨fn, hf, hcf⟩ := h
  refine acall_fin hf hcf (by simp [irTDepth]) fun hcl _ => ?_
  rw [N.size_mk] at hs
  rw [N.v_mk, N.depth_mk]
  have hlen := N.sizes_len ks
  have hds : ∀ i, N.depths (ks.take i) ≤ 1125899906842624 := fun i => by
    refine N.depths_le _ fun p hp => ?_
    have := N.depth_size p
    have := N.sizes_mem (List.mem_of_mem_take hp)
    omega
  simp [irTDepth]
  refine LoopK_out 0 (fun fr H' => fr 3 = .d (.int .i64 (N.depths ks : Int)) ∧ ∃ X, H' = H ++ X) ?_ ?_
  · refine RangeK_of (H.length + 1) ks.length (fun i fr H' => fr 3 = .d (.int .i64 (N.depths (ks.take i) : Int)) ∧ fr 7 = .d (.sl z 6 (ks.map N.enc)) ∧ ∃ o, H' = H ++ [o]) (by omega) (by decide) (by simp) (by simp) ?_ ?_ ?_
    · simp [N.depths, cut_appk hcl]
    · rintro i fr H' hi f9 f8 ⟨f3, f7, o, rfl⟩
      have hr := rowAt_map N.enc hi
      have hm := List.getElem_mem hi
      have ih' := ih _ hm (by have := N.sizes_mem hm; omega)
      have hdt := N.depths_take_succ hi
      have hd1 := hds (i + 1)
      generalize ks[i] = x at hr ih' hdt
      obtain ⟨k2, f2, t2, w2, a2, z2, ks2⟩ := x
      rw [N.enc_mk] at hr
      rw [N.v_mk] at ih'
      simp [f9, f7, hr, f3]
      refine CallK_of' (ih' _) ?_
      simp
      refine NextK_of (H.length + 1) (Nat.le_refl _) (by simp [f9, f8]) ?_
      simp [f7, hdt, cut_appk hcl]
      omega
    · rintro fr H' f9 f8 ⟨f3, f7, o, rfl⟩
      rw [List.take_of_length_le (Nat.le_refl _)] at f3
      simp [f3]
  · rintro fr H' ⟨f3, X, rfl⟩
    have := hds ks.length
    rw [List.take_of_length_le (Nat.le_refl _)] at this
    have hw : IntKind.i64.wrap ((N.depths ks : Int) + 1) = (1 : Int) + N.depths ks := by rw [wrap_i64 (by omega) (by omega)]; omega
    simp [f3, hw]
    simp [RetK, cut_app hcl]

end

section
variable {P : Program} {F : PF} {z : Bool} {L : List Tk}

end
end Go.Zam

namespace Go.Zam
set_option linter.all false
set_option maxRecDepth 100000
set_option maxHeartbeats 1000000

/-- the kinds' names -/
def kindT : List Bs := [[110, 111, 110, 101], [102, 105, 108, 101], [117, 115, 101], [100, 101, 102], [112, 97, 114, 97, 109, 115], [112, 97, 114, 97, 109], [98, 108, 111, 99, 107], [108, 101, 116], [115, 101, 116], [105, 102], [119, 104, 105, 108, 101], [112, 114, 105, 110, 116], [114, 101, 116, 117, 114, 110], [100, 111], [108, 101, 115, 115], [101, 113, 117, 97, 108], [112, 108, 117, 115], [109, 105, 110, 117, 115], [116, 105, 109, 101, 115], [102, 105, 101, 108, 100], [99, 97, 108, 108], [110, 117, 109, 98, 101, 114], [116, 101, 120, 116], [110, 97, 109, 101], [105, 110, 112, 117, 116], [103, 114, 111, 117, 112], [114, 101, 99, 111, 114, 100], [101, 110, 116, 114, 121], [108, 97, 109, 98, 100, 97], [105, 110, 116], [115, 116, 114], [100, 121, 110], [114, 101, 99], [112, 97, 114, 116], [102, 110]]
def kindN (k : Int) : Bs := kindT.getD k.toNat []

mutual
def N.show : N → Bs
  | .mk k _ _ w _ _ ks => if k = 0 then [45] else [40] ++ kindN k ++ (if w = [] then [] else [32] ++ w) ++ N.shows ks ++ [41]
def N.shows : List N → Bs
  | [] => []
  | p :: r => [32] ++ N.show p ++ N.shows r
end
theorem strOp_add' {a b : Bs} (h : a.length + b.length ≤ 9223372036854775807) : strOp .add a b = some (.str (a ++ b)) := by simp only [strOp]; rw [if_pos h]
inductive N.Kd : N → Prop
  | mk {k f t : Int} {w : Bs} {a : Int} {z : Bool} {ks : List N} (h : 0 ≤ k ∧ k < 35) (h2 : ∀ p ∈ ks, N.Kd p) : N.Kd (.mk k f t w a z ks)

section
variable {bt : TypeId} {H X : Hp} {b t : Nat} {bs bs' : Bs}
end

section
variable {P : Program}

end
end Go.Zam

namespace Go.Zam
open Go Go.Proofs Go.Lib
open Go.RowKit (Below)
open Go.ChangeShapes Go.RowKit
set_option linter.all false
set_option maxRecDepth 100000

theorem arg_str_of {P : Program} {t : TypeId} (hu : P.underlying t = some .string) : ∀ {n : Nat} {ds : List D} {a : A} (h : Typed P n t ds) (ha : ArgOf P t ds a), ∃ s : List UInt8, a = .d (.str s) ∧ s.length ≤ D.bulkC ds ∧ s.length + 1 ≤ D.bulkC ds := by
  intro n ds a h ha
  obtain ⟨x, rfl⟩ := typed_str hu h
  exact ⟨x, argOf_one (by rw [hu]; simp) ha, by simp only [D.bulkC, D.bulk]; omega, by simp only [D.bulkC, D.bulk]; omega⟩

end Go.Zam

namespace Go.Proofs
open Go.Shelf
set_option maxRecDepth 100000
def Tryd.lays137_ren : Go.Shelf.Ren := ⟨fun | 137 => 71 | 217 => 80 | 266 => 84 | n => n, fun | 9 => 9 | 5 => 5 | 3 => 3 | n => n, fun | n => n⟩
theorem Tryd.lays137 : Go.Proofs.Lays.n137 Tryd.prog Tryd.lays137_ren := {
  mixed := by kernel_rfl
  f137 := Tryd.func71.trans (congrArg some (by kernel_rfl))
  f217 := Tryd.func80.trans (congrArg some (by kernel_rfl))
  f266 := Tryd.func84.trans (congrArg some (by kernel_rfl))
  t3 := Tryd.underlying3
  a3 := Tryd.isAgg3
  z3 := Tryd.sizeOf3
  v3 := Tryd.zeroValue3
  t5 := Tryd.underlying5
  a5 := Tryd.isAgg5
  z5 := Tryd.sizeOf5
  v5 := Tryd.zeroValue5
  t9 := Tryd.underlying9
  a9 := Tryd.isAgg9
  z9 := Tryd.sizeOf9
  v9 := Tryd.zeroValue9 }
open Go.RowKit in
theorem Tryd.strings_IndexByte (s : ByteArray) (c : Int) (w : World) :
    Calls Tryd.prog 71 #[.string s, .int .u8 c] w fun e w' => e = .returned (.int .i64 (Lib.indexByte s.data.toList c.toNat.toUInt8)) ∧ w' = w := Any.strings_IndexByte Tryd.lays137 s c w
def Tryd.laysPu14_ren : Go.Shelf.Ren := ⟨fun | 14 => 64 | 16 => 69 | 17 => 70 | 19 => 74 | 20 => 75 | 21 => 76 | 22 => 77 | 23 => 78 | 24 => 79 | 25 => 81 | 27 => 83 | 26 => 82 | 28 => 85 | 29 => 86 | 30 => 87 | 31 => 88 | 32 => 89 | 33 => 90 | 35 => 92 | 34 => 91 | 36 => 93 | 37 => 94 | 38 => 95 | 39 => 96 | 40 => 97 | n => n, fun | 9 => 9 | 3 => 3 | 22 => 85 | 24 => 79 | 25 => 105 | 4 => 4 | 34 => 117 | 5 => 5 | 36 => 109 | 37 => 75 | 0 => 0 | 39 => 119 | 21 => 21 | 44 => 124 | 47 => 95 | 50 => 129 | 48 => 127 | 2 => 2 | 52 => 131 | 55 => 134 | 59 => 137 | 60 => 138 | 20 => 20 | 61 => 139 | 65 => 143 | 66 => 144 | 67 => 82 | n => n, fun | 0 => 2 | 1 => 3 | 2 => 5 | 3 => 6 | 4 => 7 | n => n⟩
theorem Tryd.laysPu14 : Go.Proofs.LaysPu.n14 Tryd.prog Tryd.laysPu14_ren := {
  mixed := by kernel_rfl
  f14 := Tryd.func64.trans (congrArg some (by kernel_rfl))
  f16 := Tryd.func69.trans (congrArg some (by kernel_rfl))
  f17 := Tryd.func70.trans (congrArg some (by kernel_rfl))
  f19 := Tryd.func74.trans (congrArg some (by kernel_rfl))
  f20 := Tryd.func75.trans (congrArg some (by kernel_rfl))
  f21 := Tryd.func76.trans (congrArg some (by kernel_rfl))
  f22 := Tryd.func77.trans (congrArg some (by kernel_rfl))
  f23 := Tryd.func78.trans (congrArg some (by kernel_rfl))
  f24 := Tryd.func79.trans (congrArg some (by kernel_rfl))
  f25 := Tryd.func81.trans (congrArg some (by kernel_rfl))
  f26 := Tryd.func82.trans (congrArg some (by kernel_rfl))
  f27 := Tryd.func83.trans (congrArg some (by kernel_rfl))
  f28 := Tryd.func85.trans (congrArg some (by kernel_rfl))
  f29 := Tryd.func86.trans (congrArg some (by kernel_rfl))
  f30 := Tryd.func87.trans (congrArg some (by kernel_rfl))
  f31 := Tryd.func88.trans (congrArg some (by kernel_rfl))
  f32 := Tryd.func89.trans (congrArg some (by kernel_rfl))
  f33 := Tryd.func90.trans (congrArg some (by kernel_rfl))
  f34 := Tryd.func91.trans (congrArg some (by kernel_rfl))
  f35 := Tryd.func92.trans (congrArg some (by kernel_rfl))
  f36 := Tryd.func93.trans (congrArg some (by kernel_rfl))
  f37 := Tryd.func94.trans (congrArg some (by kernel_rfl))
  f38 := Tryd.func95.trans (congrArg some (by kernel_rfl))
  f39 := Tryd.func96.trans (congrArg some (by kernel_rfl))
  f40 := Tryd.func97.trans (congrArg some (by kernel_rfl))
  t0 := Tryd.underlying0
  a0 := Tryd.isAgg0
  z0 := Tryd.sizeOf0
  v0 := Tryd.zeroValue0
  i0 := by kernel_rfl
  t2 := Tryd.underlying2
  a2 := Tryd.isAgg2
  z2 := Tryd.sizeOf2
  v2 := Tryd.zeroValue2
  i2 := by kernel_rfl
  t3 := Tryd.underlying3
  a3 := Tryd.isAgg3
  z3 := Tryd.sizeOf3
  v3 := Tryd.zeroValue3
  i3 := by kernel_rfl
  t4 := Tryd.underlying4
  a4 := Tryd.isAgg4
  z4 := Tryd.sizeOf4
  v4 := Tryd.zeroValue4
  i4 := by kernel_rfl
  t5 := Tryd.underlying5
  a5 := Tryd.isAgg5
  z5 := Tryd.sizeOf5
  v5 := Tryd.zeroValue5
  i5 := by kernel_rfl
  t9 := Tryd.underlying9
  a9 := Tryd.isAgg9
  z9 := Tryd.sizeOf9
  v9 := Tryd.zeroValue9
  i9 := by kernel_rfl
  t20 := Tryd.underlying20
  a20 := Tryd.isAgg20
  z20 := Tryd.sizeOf20
  v20 := Tryd.zeroValue20
  i20 := by kernel_rfl
  t21 := Tryd.underlying21
  a21 := Tryd.isAgg21
  z21 := Tryd.sizeOf21
  v21 := Tryd.zeroValue21
  i21 := by kernel_rfl
  t22 := Tryd.underlying85
  a22 := Tryd.isAgg85
  z22 := Tryd.sizeOf85
  v22 := Tryd.zeroValue85
  i22 := by kernel_rfl
  t24 := Tryd.underlying79
  a24 := Tryd.isAgg79
  z24 := Tryd.sizeOf79
  v24 := Tryd.zeroValue79
  i24 := by kernel_rfl
  t25 := Tryd.underlying105
  a25 := Tryd.isAgg105
  z25 := Tryd.sizeOf105
  v25 := Tryd.zeroValue105
  i25 := by kernel_rfl
  t34 := Tryd.underlying117
  a34 := Tryd.isAgg117
  z34 := Tryd.sizeOf117
  v34 := Tryd.zeroValue117
  i34 := by kernel_rfl
  c34 := by kernel_rfl
  t36 := Tryd.underlying109
  a36 := Tryd.isAgg109
  z36 := Tryd.sizeOf109
  v36 := Tryd.zeroValue109
  i36 := by kernel_rfl
  t37 := Tryd.underlying75
  a37 := Tryd.isAgg75
  z37 := Tryd.sizeOf75
  v37 := Tryd.zeroValue75
  i37 := by kernel_rfl
  t39 := Tryd.underlying119
  a39 := Tryd.isAgg119
  z39 := Tryd.sizeOf119
  v39 := Tryd.zeroValue119
  i39 := by kernel_rfl
  t44 := Tryd.underlying124
  a44 := Tryd.isAgg124
  z44 := Tryd.sizeOf124
  v44 := Tryd.zeroValue124
  i44 := by kernel_rfl
  t47 := Tryd.underlying95
  a47 := Tryd.isAgg95
  z47 := Tryd.sizeOf95
  v47 := Tryd.zeroValue95
  i47 := by kernel_rfl
  t48 := Tryd.underlying127
  a48 := Tryd.isAgg127
  z48 := Tryd.sizeOf127
  v48 := Tryd.zeroValue127
  i48 := by kernel_rfl
  t50 := Tryd.underlying129
  a50 := Tryd.isAgg129
  z50 := Tryd.sizeOf129
  v50 := Tryd.zeroValue129
  i50 := by kernel_rfl
  t52 := Tryd.underlying131
  a52 := Tryd.isAgg131
  z52 := Tryd.sizeOf131
  v52 := Tryd.zeroValue131
  i52 := by kernel_rfl
  t55 := Tryd.underlying134
  a55 := Tryd.isAgg134
  z55 := Tryd.sizeOf134
  v55 := Tryd.zeroValue134
  i55 := by kernel_rfl
  t59 := Tryd.underlying137
  a59 := Tryd.isAgg137
  z59 := Tryd.sizeOf137
  v59 := Tryd.zeroValue137
  i59 := by kernel_rfl
  t60 := Tryd.underlying138
  a60 := Tryd.isAgg138
  z60 := Tryd.sizeOf138
  v60 := Tryd.zeroValue138
  i60 := by kernel_rfl
  t61 := Tryd.underlying139
  a61 := Tryd.isAgg139
  z61 := Tryd.sizeOf139
  t65 := Tryd.underlying143
  a65 := Tryd.isAgg143
  z65 := Tryd.sizeOf143
  v65 := Tryd.zeroValue143
  i65 := by kernel_rfl
  t66 := Tryd.underlying144
  a66 := Tryd.isAgg144
  z66 := Tryd.sizeOf144
  v66 := Tryd.zeroValue144
  i66 := by kernel_rfl
  t67 := Tryd.underlying82
  a67 := Tryd.isAgg82
  z67 := Tryd.sizeOf82
  v67 := Tryd.zeroValue82
  i67 := by kernel_rfl
  g0 := by kernel_rfl
  m0 := by kernel_rfl
  g1 := by kernel_rfl
  m1 := by kernel_rfl
  g2 := by kernel_rfl
  m2 := by kernel_rfl
  g3 := by kernel_rfl
  m3 := by kernel_rfl
  g4 := by kernel_rfl
  m4 := by kernel_rfl }
def Tryd.lays99_ren : Go.Shelf.Ren := ⟨fun | 99 => 67 | 206 => 73 | n => n, fun | 9 => 9 | 4 => 4 | 3 => 3 | n => n, fun | n => n⟩
theorem Tryd.lays99 : Go.Proofs.Lays.n99 Tryd.prog Tryd.lays99_ren := {
  mixed := by kernel_rfl
  f99 := Tryd.func67.trans (congrArg some (by kernel_rfl))
  f206 := Tryd.func73.trans (congrArg some (by kernel_rfl))
  t3 := Tryd.underlying3
  a3 := Tryd.isAgg3
  z3 := Tryd.sizeOf3
  v3 := Tryd.zeroValue3
  t4 := Tryd.underlying4
  a4 := Tryd.isAgg4
  z4 := Tryd.sizeOf4
  v4 := Tryd.zeroValue4
  t9 := Tryd.underlying9
  a9 := Tryd.isAgg9
  z9 := Tryd.sizeOf9
  v9 := Tryd.zeroValue9 }
open Go.RowKit Go.Lib in
theorem Tryd.strings_HasPrefix (s p : ByteArray) (w : World) :
    Calls Tryd.prog 67 #[.string s, .string p] w fun e w' => e = .returned (.bool (Lib.hasPrefix s.data.toList p.data.toList)) ∧ w' = w := Any.strings_HasPrefix Tryd.lays99 s p w
def Tryd.lays197_ren : Go.Shelf.Ren := ⟨fun | 197 => 47 | 260 => 60 | n => n, fun | 9 => 9 | 21 => 21 | 3 => 3 | 4 => 4 | 5 => 5 | 105 => 96 | 119 => 108 | 0 => 0 | 46 => 109 | 139 => 112 | 138 => 111 | n => n, fun | 3 => 0 | 4 => 1 | n => n⟩
theorem Tryd.lays197 : Go.Proofs.Lays.n197 Tryd.prog Tryd.lays197_ren := {
  mixed := by kernel_rfl
  f197 := Tryd.func47.trans (congrArg some (by kernel_rfl))
  f260 := Tryd.func60.trans (congrArg some (by kernel_rfl))
  t0 := Tryd.underlying0
  a0 := Tryd.isAgg0
  z0 := Tryd.sizeOf0
  v0 := Tryd.zeroValue0
  t3 := Tryd.underlying3
  a3 := Tryd.isAgg3
  z3 := Tryd.sizeOf3
  v3 := Tryd.zeroValue3
  t4 := Tryd.underlying4
  a4 := Tryd.isAgg4
  z4 := Tryd.sizeOf4
  v4 := Tryd.zeroValue4
  t5 := Tryd.underlying5
  a5 := Tryd.isAgg5
  z5 := Tryd.sizeOf5
  v5 := Tryd.zeroValue5
  t9 := Tryd.underlying9
  a9 := Tryd.isAgg9
  z9 := Tryd.sizeOf9
  v9 := Tryd.zeroValue9
  t21 := Tryd.underlying21
  a21 := Tryd.isAgg21
  z21 := Tryd.sizeOf21
  v21 := Tryd.zeroValue21
  t46 := Tryd.underlying109
  a46 := Tryd.isAgg109
  z46 := Tryd.sizeOf109
  v46 := Tryd.zeroValue109
  t105 := Tryd.underlying96
  a105 := Tryd.isAgg96
  z105 := Tryd.sizeOf96
  v105 := Tryd.zeroValue96
  t119 := Tryd.underlying108
  a119 := Tryd.isAgg108
  z119 := Tryd.sizeOf108
  t138 := Tryd.underlying111
  a138 := Tryd.isAgg111
  z138 := Tryd.sizeOf111
  v138 := Tryd.zeroValue111
  t139 := Tryd.underlying112
  a139 := Tryd.isAgg112
  z139 := Tryd.sizeOf112
  v139 := Tryd.zeroValue112
  g3 := by kernel_rfl
  g4 := by kernel_rfl }
def Tryd.lays260_ren : Go.Shelf.Ren := ⟨fun | 260 => 60 | n => n, fun | 9 => 9 | 21 => 21 | 3 => 3 | 4 => 4 | 5 => 5 | 119 => 108 | 0 => 0 | 46 => 109 | 139 => 112 | 138 => 111 | n => n, fun | 3 => 0 | 4 => 1 | n => n⟩
theorem Tryd.lays260 : Go.Proofs.Lays.n260 Tryd.prog Tryd.lays260_ren := {
  mixed := by kernel_rfl
  f260 := Tryd.func60.trans (congrArg some (by kernel_rfl))
  t0 := Tryd.underlying0
  a0 := Tryd.isAgg0
  z0 := Tryd.sizeOf0
  v0 := Tryd.zeroValue0
  t3 := Tryd.underlying3
  a3 := Tryd.isAgg3
  z3 := Tryd.sizeOf3
  v3 := Tryd.zeroValue3
  t4 := Tryd.underlying4
  a4 := Tryd.isAgg4
  z4 := Tryd.sizeOf4
  v4 := Tryd.zeroValue4
  t5 := Tryd.underlying5
  a5 := Tryd.isAgg5
  z5 := Tryd.sizeOf5
  v5 := Tryd.zeroValue5
  t9 := Tryd.underlying9
  a9 := Tryd.isAgg9
  z9 := Tryd.sizeOf9
  v9 := Tryd.zeroValue9
  t21 := Tryd.underlying21
  a21 := Tryd.isAgg21
  z21 := Tryd.sizeOf21
  v21 := Tryd.zeroValue21
  t46 := Tryd.underlying109
  a46 := Tryd.isAgg109
  z46 := Tryd.sizeOf109
  v46 := Tryd.zeroValue109
  t119 := Tryd.underlying108
  a119 := Tryd.isAgg108
  z119 := Tryd.sizeOf108
  t138 := Tryd.underlying111
  a138 := Tryd.isAgg111
  z138 := Tryd.sizeOf111
  v138 := Tryd.zeroValue111
  t139 := Tryd.underlying112
  a139 := Tryd.isAgg112
  z139 := Tryd.sizeOf112
  v139 := Tryd.zeroValue112
  g3 := by kernel_rfl
  g4 := by kernel_rfl }
open Go.RowKit Go.Lib in
theorem Tryd.utf8_DecodeRuneInString (s : ByteArray) (w : World) (hT : Lib.Utf8Tabs 0 1 w) :
    Calls Tryd.prog 47 #[.string s] w fun e w' => e = .returned (.tuple #[.int .i32 (Lib.decodeGo s).1, .int .i64 (Lib.decodeGo s).2]) ∧ Below w.heap.size w w' := Any.utf8_DecodeRuneInString Tryd.lays197 s w hT
end Go.Proofs

namespace Go.Proofs.YtnlfihdegglkfaaDoor
open Go Go.Zam
open Go.ChangeShapes Go.WideShapes Go.ChangeAt Go.RowKit
set_option linter.all false

theorem isBulk (H : Type) : IsBulk (X := H) Rows.uptoBulk Rows.uptoBulkAll where
  str := fun b => by simp [Rows.uptoBulk]
  bool := fun b => by simp [Rows.uptoBulk]
  int := fun k n => by simp [Rows.uptoBulk]
  nil := by simp [Rows.uptoBulk]
  slice := fun e s => by simp only [Rows.uptoBulk]; omega
  agg := fun p => by simp only [Rows.uptoBulk]; omega
  cons := fun d r => by simp only [Rows.uptoBulkAll]; omega

theorem own : ownKnob Tryd.prog.godebug = none := by kernel_rfl
theorem laidOut : laidOutB Tryd.prog = true := by kernel_rfl

/-- a datum's cells, where it is data -/
def litCell : DataW Unit → Value
  | .lit (.int k n) => .int k n
  | .lit (.string s) => .string ⟨s.toArray⟩
  | _ => .tuple #[]
def litCells : DataW Unit → List Value
  | .agg l => l.map litCell
  | x => [litCell x]
def tabCells : DataW Unit → Array Value
  | .agg l => (l.flatMap litCells).toArray
  | _ => #[]
def put (g : Nat) (cs : Array Value) (h : Array Obj) : Array Obj := h.modify g fun
  | .cells _ t frozen => .cells cs t frozen
  | o => o

/-- a world for the witness: the settled one, the variables as their initialisers lay them -/
noncomputable def laidWorld (os : Os) : World :=
  let w0 := World.holding Tryd.prog os ⟨#[.cells #[.string ⟨#[118, 97, 108, 117, 101, 32, 111, 117, 116, 32, 111, 102, 32, 114, 97, 110, 103, 101]⟩] 129, .cells #[.string ⟨#[105, 110, 118, 97, 108, 105, 100, 32, 115, 121, 110, 116, 97, 120]⟩] 129], #[], []⟩
  let N := (World.settled Tryd.prog os).heap.size
  { w0 with heap := put 3 #[.iface 127 (.pointer (some ⟨N, 0, none⟩))] (put 2 #[.iface 127 (.pointer (some ⟨N + 1, 0, none⟩))] (put 0 (tabCells Rows.laid_unicode_utf8_first) (put 1 (tabCells Rows.laid_unicode_utf8_acceptRanges) (put 5 (tabCells Rows.laid_internal_strconv_uint64pow10) (put 7 (tabCells Rows.laid_math_bits_deBruijn64tab) (put 6 (tabCells Rows.laid_math_bits_deBruijn32tab) w0.heap)))))) }

theorem star : "*" ++ "errors.errorString" = "*errors.errorString" := by decide
theorem rowErr (u : TypeId) (h : Tryd.prog.typeName? 3 u = some "*errors.errorString") : u = 127 :=
  typeName_ptr_named (nm := "errors.errorString") (by rw [star]; kernel_rfl) (by kernel_rfl) (by decide) u (by rw [star]; exact h)

set_option maxRecDepth 100000 in
theorem laidOb {W : World} (h : laidMetH Tryd.prog Rows.deltaMakesUptoRow.laid W) : ∃ H0, LaidOb W H0 ∧ TabsG 0 1 2 3 H0 := by
  have h' : laidMet Tryd.prog Rows.deltaMakesUptoRow.laid W := by
    rw [MakeChecks.laidMetH_plain _ _ _ (by kernel_rfl)] at h
    exact h
  have e1 : Rows.laid_unicode_utf8_first = Lib.firstData := by kernel_rfl
  have e2 : Rows.laid_unicode_utf8_acceptRanges = Lib.acceptData := by kernel_rfl
  have hU : Lib.Utf8Tabs 0 1 W :=
    utf8Tabs_of_reads (ρ := Tryd.lays260_ren) { Tryd.lays260 with } ⟨by kernel_rfl, by kernel_rfl, by kernel_rfl, by kernel_rfl, by kernel_rfl, by kernel_rfl, by kernel_rfl⟩
      (e1 ▸ Lib.laidMet.reads h' (.tail _ (.tail _ (.tail _ (.tail _ (.tail _ (.tail _ (.head _)))))))) (e2 ▸ Lib.laidMet.reads h' (.tail _ (.tail _ (.tail _ (.head _)))))
  obtain ⟨a1, t1, hv1, -⟩ := laid_sentinel (g := 3) h'.tail.tail.tail.tail (by kernel_rfl) (by kernel_rfl) Tryd.underlying79 rowErr Tryd.underlying127 Tryd.underlying129 rfl rfl Tryd.underlying9 (by kernel_rfl) (by kernel_rfl)
  obtain ⟨a0, t0, hv0, -⟩ := laid_sentinel (g := 2) h'.tail.tail.tail.tail.tail (by kernel_rfl) (by kernel_rfl) Tryd.underlying79 rowErr Tryd.underlying127 Tryd.underlying129 rfl rfl Tryd.underlying9 (by kernel_rfl) (by kernel_rfl)
  obtain ⟨H1, hL1, hG1⟩ := laid_heap hU ⟨_, _, by rw [World.var?_cell (show Tryd.prog.globalNamed "strconv.ErrSyntax" = some 2 by kernel_rfl) hv0 0]; rfl⟩ ⟨_, _, by rw [World.var?_cell (show Tryd.prog.globalNamed "strconv.ErrRange" = some 3 by kernel_rfl) hv1 0]; rfl⟩
  exact ⟨H1, hL1, hG1⟩

theorem met (os : Os) (args : Array Value) : laidMet Tryd.prog Rows.deltaMakesUptoRow.laid ((laidWorld os).forCall (fun _ _ => 0) ⟨#[], args, []⟩).memory := laidMet_of_run' 8 (by kernel_rfl) (by kernel_rfl)

theorem arg_str : ∀ {n : Nat} {ds : List D} {a : A} (h : Typed Tryd.prog n 9 ds) (ha : ArgOf Tryd.prog 9 ds a), ∃ s : List UInt8, a = .d (.str s) ∧ s.length ≤ D.bulkC ds ∧ s.length + 1 ≤ D.bulkC ds :=
  @arg_str_of Tryd.prog 9 Tryd.underlying9

end Go.Proofs.YtnlfihdegglkfaaDoor

namespace Go.Zam
set_option linter.all false
theorem arg_u8_of {P : Program} {t : TypeId} (hu : P.underlying t = some (.int .u8)) {n : Nat} {ds : List D} {a : A} (h : Typed P n t ds) (ha : ArgOf P t ds a) : ∃ k : Nat, a = .d (.int .u8 (k : Int)) ∧ k ≤ 255 := by
  cases n with
  | zero => exact h.elim
  | succ n =>
    simp only [Typed, hu] at h
    obtain ⟨x, rfl, hw⟩ := h
    simp only [Lit.wf, IntKind.min, IntKind.max, IntKind.bits, IntKind.signed] at hw
    simp at hw
    refine ⟨x.toNat, ?_, by omega⟩
    have e : ((x.toNat : Nat) : Int) = x := by omega
    rw [e]
    exact argOf_one (by rw [hu]; simp) ha
end Go.Zam
namespace Go.Proofs.YtnlfihdegglkfaaDoor
open Go Go.Zam
set_option linter.all false
theorem arg_u8 : ∀ {n : Nat} {ds : List D} {a : A} (h : Typed Tryd.prog n 5 ds) (ha : ArgOf Tryd.prog 5 ds a), ∃ k : Nat, a = .d (.int .u8 (k : Int)) ∧ k ≤ 255 := @arg_u8_of Tryd.prog 5 Tryd.underlying5
end Go.Proofs.YtnlfihdegglkfaaDoor

namespace Go.Zam
set_option linter.all false
set_option maxRecDepth 100000

def irR4Lex (c1 c2 c3 t1 : Nat) : IFn :=
 { nt := 69, res := [.t 2, .t 3, .t 4], body := (
  .seq (.ops [
    ⟨(some 2), none, .mv (.c (.sl true 4 []))⟩,
    ⟨(some 3), none, .mv (.c (.int .i64 0))⟩,
    ⟨(some 4), none, .mv (.c (.int .i64 0))⟩] false)
  (.seq (.seq (.ops [
     ⟨(some 14), none, .mv (.t 0)⟩,
     ⟨(some 15), none, .lenS (.t 14)⟩,
     ⟨(some 16), none, .bin .gtr (.t 15) (.c (.int .i64 16384))⟩] false)
   (.cond (.t 16) (.seq (.ops [
      ⟨(some 2), none, .mv (.c (.sl true 4 []))⟩,
      ⟨(some 3), none, .mv (.c (.int .i64 5))⟩,
      ⟨(some 4), none, .mv (.c (.int .i64 16384))⟩] false)
    (.ret))
   (.skip)))
  (.seq (.ops [
    ⟨(some 17), none, .mv (.t 0)⟩,
    ⟨(some 18), none, .call c1 [(.t 17)]⟩,
    ⟨(some 5), none, .mv (.t 18)⟩] false)
  (.seq (.seq (.ops [
     ⟨(some 19), none, .mv (.t 5)⟩,
     ⟨(some 20), none, .bin .geq (.t 19) (.c (.int .i64 0))⟩] false)
   (.cond (.t 20) (.seq (.ops [
      ⟨(some 21), none, .mv (.t 5)⟩,
      ⟨(some 2), none, .mv (.c (.sl true 4 []))⟩,
      ⟨(some 3), none, .mv (.c (.int .i64 20))⟩,
      ⟨(some 4), none, .mv (.t 21)⟩] false)
    (.ret))
   (.skip)))
  (.seq (.ops [
    ⟨(some 6), none, .nilT 4 t1⟩] false)
  (.seq (.ops [
    ⟨(some 7), none, .mv (.c (.int .i64 0))⟩] false)
  (.blk 0 (.loop (.blk 1 (.seq (.ops [
       ⟨(some 22), none, .mv (.t 7)⟩,
       ⟨(some 8), none, .mv (.t 22)⟩] false)
     (.seq (.ops [
       ⟨(some 23), none, .mv (.t 0)⟩,
       ⟨(some 24), none, .mv (.t 7)⟩,
       ⟨(some 25), none, .call c2 [(.t 23), (.t 24)]⟩,
       ⟨(some 7), none, .mv (.t 25)⟩] false)
     (.seq (.ops [
       ⟨(some 26), none, .mv (.t 7)⟩,
       ⟨(some 27), none, .mv (.t 0)⟩,
       ⟨(some 28), none, .mv (.t 8)⟩,
       ⟨(some 29), none, .mv (.t 7)⟩,
       ⟨(some 30), none, .sslice (.t 27) (some (.t 28)) (some (.t 29))⟩,
       ⟨(some 31), none, .build [(.int .i64 0), (.int .i64 0), (.str []), (.str [])] [(1, 1, (.t 26)), (2, 1, (.t 30))]⟩,
       ⟨(some 9), none, .alloc t1 [(.int .i64 0), (.int .i64 0), (.str []), (.str [])]⟩,
       ⟨none, none, .store 4 (.t 9) (.t 31)⟩] false)
     (.seq (.ops [
       ⟨(some 32), none, .mv (.t 7)⟩,
       ⟨(some 10), none, .mv (.t 32)⟩] false)
     (.seq (.seq (.ops [
        ⟨(some 33), none, .mv (.t 7)⟩,
        ⟨(some 34), none, .mv (.t 0)⟩,
        ⟨(some 35), none, .lenS (.t 34)⟩,
        ⟨(some 36), none, .bin .lss (.t 33) (.t 35)⟩] false)
      (.cond (.t 36) (.seq (.ops [
         ⟨(some 38), none, .mv (.t 0)⟩,
         ⟨(some 39), none, .mv (.t 7)⟩,
         ⟨(some 40), none, .call c3 [(.t 38), (.t 39)]⟩,
         ⟨(some 37), none, .mv (.t 40)⟩,
         ⟨(some 41), none, .ext (.t 37) 0⟩,
         ⟨(some 42), none, .ext (.t 37) 1⟩,
         ⟨(some 43), none, .ext (.t 37) 2⟩,
         ⟨(some 11), none, .mv (.t 41)⟩,
         ⟨(some 12), none, .mv (.t 42)⟩,
         ⟨(some 13), none, .mv (.t 43)⟩] false)
       (.seq (.seq (.ops [
          ⟨(some 44), none, .mv (.t 13)⟩,
          ⟨(some 45), none, .bin .neq (.t 44) (.c (.int .i64 0))⟩] false)
        (.cond (.t 45) (.seq (.ops [
           ⟨(some 46), none, .mv (.t 13)⟩,
           ⟨(some 47), none, .mv (.t 7)⟩,
           ⟨(some 2), none, .mv (.c (.sl true 4 []))⟩,
           ⟨(some 3), none, .mv (.t 46)⟩,
           ⟨(some 4), none, .mv (.t 47)⟩] false)
         (.ret))
        (.skip)))
       (.seq (.ops [
         ⟨(some 48), none, .mv (.t 11)⟩,
         ⟨(some 49), none, .faddr 0 (.t 9)⟩,
         ⟨none, none, .store 1 (.t 49) (.t 48)⟩] false)
       (.ops [
        ⟨(some 50), none, .mv (.t 12)⟩,
        ⟨(some 10), none, .mv (.t 50)⟩] false))))
      (.skip)))
     (.seq (.seq (.ops [
        ⟨(some 51), none, .mv (.t 6)⟩,
        ⟨(some 52), none, .lenL (.t 51)⟩,
        ⟨(some 53), none, .bin .geq (.t 52) (.c (.int .i64 4000))⟩] false)
      (.cond (.t 53) (.seq (.ops [
         ⟨(some 54), none, .mv (.t 7)⟩,
         ⟨(some 2), none, .mv (.c (.sl true 4 []))⟩,
         ⟨(some 3), none, .mv (.c (.int .i64 5))⟩,
         ⟨(some 4), none, .mv (.t 54)⟩] false)
       (.ret))
      (.skip)))
     (.seq (.ops [
       ⟨(some 55), none, .mv (.t 0)⟩,
       ⟨(some 56), none, .mv (.t 7)⟩,
       ⟨(some 57), none, .mv (.t 10)⟩,
       ⟨(some 58), none, .sslice (.t 55) (some (.t 56)) (some (.t 57))⟩,
       ⟨(some 59), none, .faddr 3 (.t 9)⟩,
       ⟨none, none, .store 1 (.t 59) (.t 58)⟩] false)
     (.seq (.ops [
       ⟨(some 60), none, .mv (.t 10)⟩,
       ⟨(some 7), none, .mv (.t 60)⟩] false)
     (.seq (.ops [
       ⟨(some 61), none, .mv (.t 6)⟩,
       ⟨(some 62), none, .load 4 true (.t 9)⟩,
       ⟨(some 63), none, .bslice 4 [(.t 62)]⟩,
       ⟨(some 64), none, .app 4 48 t1 (.t 61) (.t 63)⟩,
       ⟨(some 6), none, .mv (.t 64)⟩] false)
     (.seq (.ops [
       ⟨(some 65), none, .faddr 0 (.t 9)⟩,
       ⟨(some 66), none, .load 1 false (.t 65)⟩,
       ⟨(some 67), none, .bin .eql (.t 66) (.c (.int .i64 0))⟩] false)
     (.cond (.t 67) (.seq (.ops [
        ⟨(some 68), none, .mv (.t 6)⟩,
        ⟨(some 2), none, .mv (.t 68)⟩,
        ⟨(some 3), none, .mv (.c (.int .i64 0))⟩,
        ⟨(some 4), none, .mv (.c (.int .i64 0))⟩] false)
      (.ret))
     (.skip))))))))))))))))))))) }

def irR4Lead : IFn :=
 { nt := 51, res := [.t 4], body := (
  .seq (.ops [
    ⟨(some 4), none, .mv (.c (.int .i64 0))⟩] false)
  (.seq (.blk 0 (.loop (.seq (.seq (.ops [
        ⟨(some 5), none, .mv (.t 1)⟩,
        ⟨(some 6), none, .mv (.t 0)⟩,
        ⟨(some 7), none, .lenS (.t 6)⟩,
        ⟨(some 8), none, .bin .lss (.t 5) (.t 7)⟩] false)
      (.cond (.t 8) (.skip)
      (.exit 0)))
     (.blk 1 (.seq (.seq (.ops [
         ⟨(some 9), none, .mv (.t 0)⟩,
         ⟨(some 10), none, .mv (.t 1)⟩,
         ⟨(some 11), none, .sidx (.t 9) (.t 10)⟩,
         ⟨(some 12), none, .bin .eql (.t 11) (.c (.int .u8 32))⟩,
         ⟨(some 13), none, .mv (.t 12)⟩,
         ⟨(some 14), (some (13, false)), .mv (.t 0)⟩,
         ⟨(some 15), (some (13, false)), .mv (.t 1)⟩,
         ⟨(some 16), (some (13, false)), .sidx (.t 14) (.t 15)⟩,
         ⟨(some 17), (some (13, false)), .bin .eql (.t 16) (.c (.int .u8 9))⟩,
         ⟨(some 18), none, .pick (.t 13) (.c (.bool true)) (.t 17)⟩,
         ⟨(some 19), none, .mv (.t 18)⟩,
         ⟨(some 20), (some (19, false)), .mv (.t 0)⟩,
         ⟨(some 21), (some (19, false)), .mv (.t 1)⟩,
         ⟨(some 22), (some (19, false)), .sidx (.t 20) (.t 21)⟩,
         ⟨(some 23), (some (19, false)), .bin .eql (.t 22) (.c (.int .u8 10))⟩,
         ⟨(some 24), none, .pick (.t 19) (.c (.bool true)) (.t 23)⟩,
         ⟨(some 25), none, .mv (.t 24)⟩,
         ⟨(some 26), (some (25, false)), .mv (.t 0)⟩,
         ⟨(some 27), (some (25, false)), .mv (.t 1)⟩,
         ⟨(some 28), (some (25, false)), .sidx (.t 26) (.t 27)⟩,
         ⟨(some 29), (some (25, false)), .bin .eql (.t 28) (.c (.int .u8 13))⟩,
         ⟨(some 30), none, .pick (.t 25) (.c (.bool true)) (.t 29)⟩] false)
       (.cond (.t 30) (.seq (.ops [
          ⟨(some 31), none, .mv (.t 1)⟩,
          ⟨(some 32), none, .bin .add (.t 31) (.c (.int .i64 1))⟩,
          ⟨(some 1), none, .mv (.t 32)⟩] false)
        (.exit 1))
       (.skip)))
      (.seq (.seq (.ops [
         ⟨(some 33), none, .mv (.t 0)⟩,
         ⟨(some 34), none, .mv (.t 1)⟩,
         ⟨(some 35), none, .sidx (.t 33) (.t 34)⟩,
         ⟨(some 36), none, .bin .neq (.t 35) (.c (.int .u8 35))⟩] false)
       (.cond (.t 36) (.seq (.ops [
          ⟨(some 37), none, .mv (.t 1)⟩,
          ⟨(some 4), none, .mv (.t 37)⟩] false)
        (.ret))
       (.skip)))
      (.blk 2 (.loop (.seq (.seq (.ops [
           ⟨(some 38), none, .mv (.t 1)⟩,
           ⟨(some 39), none, .mv (.t 0)⟩,
           ⟨(some 40), none, .lenS (.t 39)⟩,
           ⟨(some 41), none, .bin .lss (.t 38) (.t 40)⟩,
           ⟨(some 42), none, .mv (.t 41)⟩,
           ⟨(some 43), (some (42, true)), .mv (.t 0)⟩,
           ⟨(some 44), (some (42, true)), .mv (.t 1)⟩,
           ⟨(some 45), (some (42, true)), .sidx (.t 43) (.t 44)⟩,
           ⟨(some 46), (some (42, true)), .bin .neq (.t 45) (.c (.int .u8 10))⟩,
           ⟨(some 47), none, .pick (.t 42) (.t 46) (.c (.bool false))⟩] false)
         (.cond (.t 47) (.skip)
         (.exit 2)))
        (.blk 3 (.ops [
          ⟨(some 48), none, .mv (.t 1)⟩,
          ⟨(some 49), none, .bin .add (.t 48) (.c (.int .i64 1))⟩,
          ⟨(some 1), none, .mv (.t 49)⟩] false)))))))))))
  (.seq (.ops [
    ⟨(some 50), none, .mv (.t 1)⟩,
    ⟨(some 4), none, .mv (.t 50)⟩] false)
  (.ret)))) }

def irR4One (c1 c2 c3 c4 : Nat) : IFn :=
 { nt := 170, res := [.t 4, .t 5, .t 6], body := (
  .seq (.ops [
    ⟨(some 4), none, .mv (.c (.int .i64 0))⟩,
    ⟨(some 5), none, .mv (.c (.int .i64 0))⟩,
    ⟨(some 6), none, .mv (.c (.int .i64 0))⟩] false)
  (.seq (.ops [
    ⟨(some 16), none, .mv (.t 1)⟩,
    ⟨(some 17), none, .bin .add (.t 16) (.c (.int .i64 1))⟩,
    ⟨(some 7), none, .mv (.t 17)⟩] false)
  (.seq (.seq (.ops [
     ⟨(some 18), none, .mv (.t 0)⟩,
     ⟨(some 19), none, .mv (.t 1)⟩,
     ⟨(some 20), none, .sidx (.t 18) (.t 19)⟩,
     ⟨(some 21), none, .call c1 [(.t 20)]⟩,
     ⟨(some 22), none, .mv (.t 21)⟩,
     ⟨(some 23), (some (22, false)), .mv (.t 0)⟩,
     ⟨(some 24), (some (22, false)), .mv (.t 1)⟩,
     ⟨(some 25), (some (22, false)), .sidx (.t 23) (.t 24)⟩,
     ⟨(some 26), (some (22, false)), .call c2 [(.t 25)]⟩,
     ⟨(some 27), none, .pick (.t 22) (.c (.bool true)) (.t 26)⟩] false)
   (.cond (.t 27) (.seq (.blk 0 (.loop (.seq (.seq (.ops [
          ⟨(some 28), none, .mv (.t 7)⟩,
          ⟨(some 29), none, .mv (.t 0)⟩,
          ⟨(some 30), none, .lenS (.t 29)⟩,
          ⟨(some 31), none, .bin .lss (.t 28) (.t 30)⟩,
          ⟨(some 32), none, .mv (.t 31)⟩,
          ⟨(some 33), (some (32, true)), .mv (.t 0)⟩,
          ⟨(some 34), (some (32, true)), .mv (.t 7)⟩,
          ⟨(some 35), (some (32, true)), .sidx (.t 33) (.t 34)⟩,
          ⟨(some 36), (some (32, true)), .call c1 [(.t 35)]⟩,
          ⟨(some 37), (some (32, true)), .mv (.t 36)⟩,
          ⟨(some 38), (some (37, false)), .mv (.t 0)⟩,
          ⟨(some 39), (some (37, false)), .mv (.t 7)⟩,
          ⟨(some 40), (some (37, false)), .sidx (.t 38) (.t 39)⟩,
          ⟨(some 41), (some (37, false)), .call c2 [(.t 40)]⟩,
          ⟨(some 42), (some (32, true)), .pick (.t 37) (.c (.bool true)) (.t 41)⟩,
          ⟨(some 43), none, .pick (.t 32) (.t 42) (.c (.bool false))⟩] false)
        (.cond (.t 43) (.skip)
        (.exit 0)))
       (.blk 1 (.ops [
         ⟨(some 44), none, .mv (.t 7)⟩,
         ⟨(some 45), none, .bin .add (.t 44) (.c (.int .i64 1))⟩,
         ⟨(some 7), none, .mv (.t 45)⟩] false)))))
    (.seq (.ops [
      ⟨(some 46), none, .mv (.t 0)⟩,
      ⟨(some 47), none, .mv (.t 1)⟩,
      ⟨(some 48), none, .mv (.t 7)⟩,
      ⟨(some 49), none, .sslice (.t 46) (some (.t 47)) (some (.t 48))⟩,
      ⟨(some 8), none, .mv (.t 49)⟩] false)
    (.seq (.seq (.ops [
       ⟨(some 50), none, .mv (.t 8)⟩,
       ⟨(some 51), none, .call c3 [(.t 50)]⟩] false)
     (.cond (.t 51) (.seq (.ops [
        ⟨(some 52), none, .mv (.t 7)⟩,
        ⟨(some 4), none, .mv (.c (.int .i64 2))⟩,
        ⟨(some 5), none, .mv (.t 52)⟩,
        ⟨(some 6), none, .mv (.c (.int .i64 0))⟩] false)
      (.ret))
     (.skip)))
    (.seq (.seq (.ops [
       ⟨(some 53), none, .mv (.t 0)⟩,
       ⟨(some 54), none, .mv (.t 1)⟩,
       ⟨(some 55), none, .sidx (.t 53) (.t 54)⟩,
       ⟨(some 56), none, .call c1 [(.t 55)]⟩] false)
     (.cond (.t 56) (.seq (.seq (.ops [
         ⟨(some 57), none, .mv (.t 8)⟩,
         ⟨(some 58), none, .lenS (.t 57)⟩,
         ⟨(some 59), none, .bin .gtr (.t 58) (.c (.int .i64 40))⟩] false)
       (.cond (.t 59) (.seq (.ops [
          ⟨(some 4), none, .mv (.c (.int .i64 0))⟩,
          ⟨(some 5), none, .mv (.c (.int .i64 0))⟩,
          ⟨(some 6), none, .mv (.c (.int .i64 26))⟩] false)
        (.ret))
       (.skip)))
      (.seq (.ops [
        ⟨(some 60), none, .mv (.t 7)⟩,
        ⟨(some 4), none, .mv (.c (.int .i64 1))⟩,
        ⟨(some 5), none, .mv (.t 60)⟩,
        ⟨(some 6), none, .mv (.c (.int .i64 0))⟩] false)
      (.ret)))
     (.skip)))
    (.seq (.ops [
      ⟨(some 9), none, .mv (.c (.int .u64 0))⟩] false)
    (.seq (.seq (.ops [
       ⟨(some 10), none, .mv (.c (.int .i64 0))⟩] false)
     (.blk 2 (.loop (.seq (.seq (.ops [
          ⟨(some 61), none, .mv (.t 10)⟩,
          ⟨(some 62), none, .mv (.t 8)⟩,
          ⟨(some 63), none, .lenS (.t 62)⟩,
          ⟨(some 64), none, .bin .lss (.t 61) (.t 63)⟩] false)
        (.cond (.t 64) (.skip)
        (.exit 2)))
       (.seq (.blk 3 (.seq (.seq (.ops [
            ⟨(some 67), none, .mv (.t 8)⟩,
            ⟨(some 68), none, .mv (.t 10)⟩,
            ⟨(some 69), none, .sidx (.t 67) (.t 68)⟩,
            ⟨(some 70), none, .call c2 [(.t 69)]⟩,
            ⟨(some 71), none, .un .not (.t 70)⟩] false)
          (.cond (.t 71) (.seq (.ops [
             ⟨(some 4), none, .mv (.c (.int .i64 0))⟩,
             ⟨(some 5), none, .mv (.c (.int .i64 0))⟩,
             ⟨(some 6), none, .mv (.c (.int .i64 23))⟩] false)
           (.ret))
          (.skip)))
         (.seq (.ops [
           ⟨(some 72), none, .mv (.t 8)⟩,
           ⟨(some 73), none, .mv (.t 10)⟩,
           ⟨(some 74), none, .sidx (.t 72) (.t 73)⟩,
           ⟨(some 75), none, .bin .sub (.t 74) (.c (.int .u8 48))⟩,
           ⟨(some 76), none, .cvt .u64 (.t 75)⟩,
           ⟨(some 11), none, .mv (.t 76)⟩] false)
         (.seq (.seq (.ops [
            ⟨(some 77), none, .mv (.t 9)⟩,
            ⟨(some 78), none, .mv (.t 11)⟩,
            ⟨(some 79), none, .bin .sub (.c (.int .u64 9223372036854775807)) (.t 78)⟩,
            ⟨(some 80), none, .bin .quo (.t 79) (.c (.int .u64 10))⟩,
            ⟨(some 81), none, .bin .gtr (.t 77) (.t 80)⟩] false)
          (.cond (.t 81) (.seq (.ops [
             ⟨(some 4), none, .mv (.c (.int .i64 0))⟩,
             ⟨(some 5), none, .mv (.c (.int .i64 0))⟩,
             ⟨(some 6), none, .mv (.c (.int .i64 23))⟩] false)
           (.ret))
          (.skip)))
         (.ops [
          ⟨(some 82), none, .mv (.t 9)⟩,
          ⟨(some 83), none, .bin .mul (.t 82) (.c (.int .u64 10))⟩,
          ⟨(some 84), none, .mv (.t 11)⟩,
          ⟨(some 85), none, .bin .add (.t 83) (.t 84)⟩,
          ⟨(some 9), none, .mv (.t 85)⟩] false)))))
       (.ops [
        ⟨(some 65), none, .mv (.t 10)⟩,
        ⟨(some 66), none, .bin .add (.t 65) (.c (.int .i64 1))⟩,
        ⟨(some 10), none, .mv (.t 66)⟩] false))))))
    (.seq (.ops [
      ⟨(some 86), none, .mv (.t 7)⟩,
      ⟨(some 4), none, .mv (.c (.int .i64 3))⟩,
      ⟨(some 5), none, .mv (.t 86)⟩,
      ⟨(some 6), none, .mv (.c (.int .i64 0))⟩] false)
    (.ret))))))))
   (.skip)))
  (.seq (.seq (.ops [
     ⟨(some 87), none, .mv (.t 0)⟩,
     ⟨(some 88), none, .mv (.t 1)⟩,
     ⟨(some 89), none, .sidx (.t 87) (.t 88)⟩,
     ⟨(some 90), none, .bin .eql (.t 89) (.c (.int .u8 34))⟩] false)
   (.cond (.t 90) (.seq (.blk 4 (.loop (.seq (.seq (.ops [
          ⟨(some 91), none, .mv (.t 7)⟩,
          ⟨(some 92), none, .mv (.t 0)⟩,
          ⟨(some 93), none, .lenS (.t 92)⟩,
          ⟨(some 94), none, .bin .lss (.t 91) (.t 93)⟩,
          ⟨(some 95), none, .mv (.t 94)⟩,
          ⟨(some 96), (some (95, true)), .mv (.t 0)⟩,
          ⟨(some 97), (some (95, true)), .mv (.t 7)⟩,
          ⟨(some 98), (some (95, true)), .sidx (.t 96) (.t 97)⟩,
          ⟨(some 99), (some (95, true)), .bin .neq (.t 98) (.c (.int .u8 34))⟩,
          ⟨(some 100), none, .pick (.t 95) (.t 99) (.c (.bool false))⟩,
          ⟨(some 101), none, .mv (.t 100)⟩,
          ⟨(some 102), (some (101, true)), .mv (.t 0)⟩,
          ⟨(some 103), (some (101, true)), .mv (.t 7)⟩,
          ⟨(some 104), (some (101, true)), .sidx (.t 102) (.t 103)⟩,
          ⟨(some 105), (some (101, true)), .bin .neq (.t 104) (.c (.int .u8 10))⟩,
          ⟨(some 106), none, .pick (.t 101) (.t 105) (.c (.bool false))⟩] false)
        (.cond (.t 106) (.skip)
        (.exit 4)))
       (.blk 5 (.seq (.seq (.ops [
           ⟨(some 107), none, .mv (.t 0)⟩,
           ⟨(some 108), none, .mv (.t 7)⟩,
           ⟨(some 109), none, .sidx (.t 107) (.t 108)⟩,
           ⟨(some 110), none, .bin .eql (.t 109) (.c (.int .u8 92))⟩] false)
         (.cond (.t 110) (.ops [
           ⟨(some 111), none, .mv (.t 7)⟩,
           ⟨(some 112), none, .bin .add (.t 111) (.c (.int .i64 1))⟩,
           ⟨(some 7), none, .mv (.t 112)⟩] false)
         (.skip)))
        (.ops [
         ⟨(some 113), none, .mv (.t 7)⟩,
         ⟨(some 114), none, .bin .add (.t 113) (.c (.int .i64 1))⟩,
         ⟨(some 7), none, .mv (.t 114)⟩] false))))))
    (.seq (.seq (.ops [
       ⟨(some 115), none, .mv (.t 7)⟩,
       ⟨(some 116), none, .mv (.t 0)⟩,
       ⟨(some 117), none, .lenS (.t 116)⟩,
       ⟨(some 118), none, .bin .geq (.t 115) (.t 117)⟩,
       ⟨(some 119), none, .mv (.t 118)⟩,
       ⟨(some 120), (some (119, false)), .mv (.t 0)⟩,
       ⟨(some 121), (some (119, false)), .mv (.t 7)⟩,
       ⟨(some 122), (some (119, false)), .sidx (.t 120) (.t 121)⟩,
       ⟨(some 123), (some (119, false)), .bin .eql (.t 122) (.c (.int .u8 10))⟩,
       ⟨(some 124), none, .pick (.t 119) (.c (.bool true)) (.t 123)⟩] false)
     (.cond (.t 124) (.seq (.ops [
        ⟨(some 4), none, .mv (.c (.int .i64 0))⟩,
        ⟨(some 5), none, .mv (.c (.int .i64 0))⟩,
        ⟨(some 6), none, .mv (.c (.int .i64 22))⟩] false)
      (.ret))
     (.skip)))
    (.seq (.ops [
      ⟨(some 126), none, .mv (.t 0)⟩,
      ⟨(some 127), none, .mv (.t 1)⟩,
      ⟨(some 128), none, .mv (.t 7)⟩,
      ⟨(some 129), none, .bin .add (.t 128) (.c (.int .i64 1))⟩,
      ⟨(some 130), none, .sslice (.t 126) (some (.t 127)) (some (.t 129))⟩,
      ⟨(some 131), none, .call c4 [(.t 130)]⟩,
      ⟨(some 125), none, .mv (.t 131)⟩,
      ⟨(some 132), none, .ext (.t 125) 0⟩,
      ⟨(some 133), none, .ext (.t 125) 1⟩,
      ⟨(some 12), none, .mv (.t 132)⟩,
      ⟨(some 13), none, .mv (.t 133)⟩] false)
    (.seq (.seq (.ops [
       ⟨(some 134), none, .mv (.t 13)⟩,
       ⟨(some 135), none, .bin .neq (.t 134) (.c (.int .i64 0))⟩] false)
     (.cond (.t 135) (.seq (.ops [
        ⟨(some 4), none, .mv (.c (.int .i64 0))⟩,
        ⟨(some 5), none, .mv (.c (.int .i64 0))⟩,
        ⟨(some 6), none, .mv (.c (.int .i64 22))⟩] false)
      (.ret))
     (.skip)))
    (.seq (.ops [
      ⟨(some 136), none, .mv (.t 7)⟩,
      ⟨(some 137), none, .bin .add (.t 136) (.c (.int .i64 1))⟩,
      ⟨(some 4), none, .mv (.c (.int .i64 4))⟩,
      ⟨(some 5), none, .mv (.t 137)⟩,
      ⟨(some 6), none, .mv (.c (.int .i64 0))⟩] false)
    (.ret))))))
   (.skip)))
  (.seq (.seq (.ops [
     ⟨(some 138), none, .mv (.t 7)⟩,
     ⟨(some 139), none, .mv (.t 0)⟩,
     ⟨(some 140), none, .lenS (.t 139)⟩,
     ⟨(some 141), none, .bin .lss (.t 138) (.t 140)⟩,
     ⟨(some 142), none, .mv (.t 141)⟩,
     ⟨(some 143), (some (142, true)), .mv (.t 0)⟩,
     ⟨(some 144), (some (142, true)), .mv (.t 1)⟩,
     ⟨(some 145), (some (142, true)), .sidx (.t 143) (.t 144)⟩,
     ⟨(some 146), (some (142, true)), .bin .eql (.t 145) (.c (.int .u8 61))⟩,
     ⟨(some 147), none, .pick (.t 142) (.t 146) (.c (.bool false))⟩,
     ⟨(some 148), none, .mv (.t 147)⟩,
     ⟨(some 149), (some (148, true)), .mv (.t 0)⟩,
     ⟨(some 150), (some (148, true)), .mv (.t 7)⟩,
     ⟨(some 151), (some (148, true)), .sidx (.t 149) (.t 150)⟩,
     ⟨(some 152), (some (148, true)), .bin .eql (.t 151) (.c (.int .u8 61))⟩,
     ⟨(some 153), none, .pick (.t 148) (.t 152) (.c (.bool false))⟩] false)
   (.cond (.t 153) (.seq (.ops [
      ⟨(some 154), none, .mv (.t 7)⟩,
      ⟨(some 155), none, .bin .add (.t 154) (.c (.int .i64 1))⟩,
      ⟨(some 4), none, .mv (.c (.int .i64 5))⟩,
      ⟨(some 5), none, .mv (.t 155)⟩,
      ⟨(some 6), none, .mv (.c (.int .i64 0))⟩] false)
    (.ret))
   (.skip)))
  (.seq (.ops [
    ⟨(some 14), none, .mv (.c (.str [40, 41, 123, 125, 44, 59, 58, 46, 61, 43, 45, 42, 60]))⟩] false)
  (.seq (.seq (.ops [
     ⟨(some 15), none, .mv (.c (.int .i64 0))⟩] false)
   (.blk 6 (.loop (.seq (.seq (.ops [
        ⟨(some 156), none, .mv (.t 15)⟩,
        ⟨(some 157), none, .mv (.t 14)⟩,
        ⟨(some 158), none, .lenS (.t 157)⟩,
        ⟨(some 159), none, .bin .lss (.t 156) (.t 158)⟩] false)
      (.cond (.t 159) (.skip)
      (.exit 6)))
     (.seq (.blk 7 (.seq (.ops [
         ⟨(some 162), none, .mv (.t 14)⟩,
         ⟨(some 163), none, .mv (.t 15)⟩,
         ⟨(some 164), none, .sidx (.t 162) (.t 163)⟩,
         ⟨(some 165), none, .mv (.t 0)⟩,
         ⟨(some 166), none, .mv (.t 1)⟩,
         ⟨(some 167), none, .sidx (.t 165) (.t 166)⟩,
         ⟨(some 168), none, .bin .eql (.t 164) (.t 167)⟩] true)
       (.cond (.t 168) (.seq (.ops [
          ⟨(some 169), none, .mv (.t 7)⟩,
          ⟨(some 4), none, .mv (.c (.int .i64 5))⟩,
          ⟨(some 5), none, .mv (.t 169)⟩,
          ⟨(some 6), none, .mv (.c (.int .i64 0))⟩] false)
        (.ret))
       (.skip))))
     (.ops [
      ⟨(some 160), none, .mv (.t 15)⟩,
      ⟨(some 161), none, .bin .add (.t 160) (.c (.int .i64 1))⟩,
      ⟨(some 15), none, .mv (.t 161)⟩] false))))))
  (.seq (.ops [
    ⟨(some 4), none, .mv (.c (.int .i64 0))⟩,
    ⟨(some 5), none, .mv (.c (.int .i64 0))⟩,
    ⟨(some 6), none, .mv (.c (.int .i64 21))⟩] false)
  (.ret))))))))) }

def irR3Bad (c1 : Nat) : IFn :=
 { nt := 24, res := [.t 2], body := (
  .seq (.ops [
    ⟨(some 2), none, .mv (.c (.int .i64 0))⟩] false)
  (.seq (.seq (.ops [
     ⟨(some 3), none, .mv (.c (.int .i64 0))⟩] false)
   (.blk 0 (.loop (.seq (.seq (.ops [
        ⟨(some 7), none, .mv (.t 3)⟩,
        ⟨(some 8), none, .mv (.t 0)⟩,
        ⟨(some 9), none, .lenS (.t 8)⟩,
        ⟨(some 10), none, .bin .lss (.t 7) (.t 9)⟩] false)
      (.cond (.t 10) (.skip)
      (.exit 0)))
     (.blk 1 (.seq (.ops [
        ⟨(some 12), none, .mv (.t 0)⟩,
        ⟨(some 13), none, .mv (.t 3)⟩,
        ⟨(some 14), none, .call c1 [(.t 12), (.t 13)]⟩,
        ⟨(some 11), none, .mv (.t 14)⟩,
        ⟨(some 15), none, .ext (.t 11) 0⟩,
        ⟨(some 16), none, .ext (.t 11) 1⟩,
        ⟨(some 17), none, .ext (.t 11) 2⟩,
        ⟨(some 4), none, .mv (.t 15)⟩,
        ⟨(some 5), none, .mv (.t 16)⟩,
        ⟨(some 6), none, .mv (.t 17)⟩] false)
      (.seq (.seq (.ops [
         ⟨(some 18), none, .mv (.t 6)⟩,
         ⟨(some 19), none, .un .not (.t 18)⟩] false)
       (.cond (.t 19) (.seq (.ops [
          ⟨(some 20), none, .mv (.t 3)⟩,
          ⟨(some 2), none, .mv (.t 20)⟩] false)
        (.ret))
       (.skip)))
      (.ops [
       ⟨(some 21), none, .mv (.t 3)⟩,
       ⟨(some 22), none, .mv (.t 5)⟩,
       ⟨(some 23), none, .bin .add (.t 21) (.t 22)⟩,
       ⟨(some 3), none, .mv (.t 23)⟩] false))))))))
  (.seq (.ops [
    ⟨(some 2), none, .mv (.c (.int .i64 (-1)))⟩] false)
  (.ret)))) }

def irR3Next (c1 : Nat) : IFn :=
 { nt := 92, res := [.t 4, .t 5, .t 6], body := (
  .seq (.ops [
    ⟨(some 4), none, .mv (.c (.int .i64 0))⟩,
    ⟨(some 5), none, .mv (.c (.int .i64 0))⟩,
    ⟨(some 6), none, .mv (.c (.bool false))⟩] false)
  (.seq (.ops [
    ⟨(some 12), none, .mv (.t 0)⟩,
    ⟨(some 13), none, .mv (.t 1)⟩,
    ⟨(some 14), none, .sidx (.t 12) (.t 13)⟩,
    ⟨(some 15), none, .cvt .i64 (.t 14)⟩,
    ⟨(some 7), none, .mv (.t 15)⟩] false)
  (.seq (.seq (.ops [
     ⟨(some 16), none, .mv (.t 7)⟩,
     ⟨(some 17), none, .bin .lss (.t 16) (.c (.int .i64 128))⟩] false)
   (.cond (.t 17) (.seq (.ops [
      ⟨(some 18), none, .mv (.t 7)⟩,
      ⟨(some 4), none, .mv (.t 18)⟩,
      ⟨(some 5), none, .mv (.c (.int .i64 1))⟩,
      ⟨(some 6), none, .mv (.c (.bool true))⟩] false)
    (.ret))
   (.skip)))
  (.seq (.ops [
    ⟨(some 8), none, .mv (.c (.int .i64 0))⟩,
    ⟨(some 9), none, .mv (.c (.int .i64 0))⟩,
    ⟨(some 10), none, .mv (.c (.int .i64 0))⟩] false)
  (.seq (.seq (.ops [
     ⟨(some 19), none, .mv (.t 7)⟩,
     ⟨(some 20), none, .bin .geq (.t 19) (.c (.int .i64 192))⟩,
     ⟨(some 21), none, .mv (.t 20)⟩,
     ⟨(some 22), (some (21, true)), .mv (.t 7)⟩,
     ⟨(some 23), (some (21, true)), .bin .lss (.t 22) (.c (.int .i64 224))⟩,
     ⟨(some 24), none, .pick (.t 21) (.t 23) (.c (.bool false))⟩] false)
   (.cond (.t 24) (.ops [
     ⟨(some 25), none, .mv (.t 7)⟩,
     ⟨(some 26), none, .bin .sub (.t 25) (.c (.int .i64 192))⟩,
     ⟨(some 8), none, .mv (.c (.int .i64 2))⟩,
     ⟨(some 9), none, .mv (.t 26)⟩,
     ⟨(some 10), none, .mv (.c (.int .i64 128))⟩] false)
   (.skip)))
  (.seq (.seq (.ops [
     ⟨(some 27), none, .mv (.t 7)⟩,
     ⟨(some 28), none, .bin .geq (.t 27) (.c (.int .i64 224))⟩,
     ⟨(some 29), none, .mv (.t 28)⟩,
     ⟨(some 30), (some (29, true)), .mv (.t 7)⟩,
     ⟨(some 31), (some (29, true)), .bin .lss (.t 30) (.c (.int .i64 240))⟩,
     ⟨(some 32), none, .pick (.t 29) (.t 31) (.c (.bool false))⟩] false)
   (.cond (.t 32) (.ops [
     ⟨(some 33), none, .mv (.t 7)⟩,
     ⟨(some 34), none, .bin .sub (.t 33) (.c (.int .i64 224))⟩,
     ⟨(some 8), none, .mv (.c (.int .i64 3))⟩,
     ⟨(some 9), none, .mv (.t 34)⟩,
     ⟨(some 10), none, .mv (.c (.int .i64 2048))⟩] false)
   (.skip)))
  (.seq (.seq (.ops [
     ⟨(some 35), none, .mv (.t 7)⟩,
     ⟨(some 36), none, .bin .geq (.t 35) (.c (.int .i64 240))⟩,
     ⟨(some 37), none, .mv (.t 36)⟩,
     ⟨(some 38), (some (37, true)), .mv (.t 7)⟩,
     ⟨(some 39), (some (37, true)), .bin .lss (.t 38) (.c (.int .i64 248))⟩,
     ⟨(some 40), none, .pick (.t 37) (.t 39) (.c (.bool false))⟩] false)
   (.cond (.t 40) (.ops [
     ⟨(some 41), none, .mv (.t 7)⟩,
     ⟨(some 42), none, .bin .sub (.t 41) (.c (.int .i64 240))⟩,
     ⟨(some 8), none, .mv (.c (.int .i64 4))⟩,
     ⟨(some 9), none, .mv (.t 42)⟩,
     ⟨(some 10), none, .mv (.c (.int .i64 65536))⟩] false)
   (.skip)))
  (.seq (.seq (.ops [
     ⟨(some 43), none, .mv (.t 8)⟩,
     ⟨(some 44), none, .bin .eql (.t 43) (.c (.int .i64 0))⟩,
     ⟨(some 45), none, .mv (.t 44)⟩,
     ⟨(some 46), (some (45, false)), .mv (.t 0)⟩,
     ⟨(some 47), (some (45, false)), .lenS (.t 46)⟩,
     ⟨(some 48), (some (45, false)), .mv (.t 1)⟩,
     ⟨(some 49), (some (45, false)), .bin .sub (.t 47) (.t 48)⟩,
     ⟨(some 50), (some (45, false)), .mv (.t 8)⟩,
     ⟨(some 51), (some (45, false)), .bin .lss (.t 49) (.t 50)⟩,
     ⟨(some 52), none, .pick (.t 45) (.c (.bool true)) (.t 51)⟩] false)
   (.cond (.t 52) (.seq (.ops [
      ⟨(some 4), none, .mv (.c (.int .i64 65533))⟩,
      ⟨(some 5), none, .mv (.c (.int .i64 1))⟩,
      ⟨(some 6), none, .mv (.c (.bool false))⟩] false)
    (.ret))
   (.skip)))
  (.seq (.seq (.ops [
     ⟨(some 11), none, .mv (.c (.int .i64 1))⟩] false)
   (.blk 0 (.loop (.seq (.seq (.ops [
        ⟨(some 53), none, .mv (.t 11)⟩,
        ⟨(some 54), none, .mv (.t 8)⟩,
        ⟨(some 55), none, .bin .lss (.t 53) (.t 54)⟩] false)
      (.cond (.t 55) (.skip)
      (.exit 0)))
     (.seq (.blk 1 (.seq (.seq (.ops [
          ⟨(some 58), none, .mv (.t 0)⟩,
          ⟨(some 59), none, .mv (.t 1)⟩,
          ⟨(some 60), none, .mv (.t 11)⟩,
          ⟨(some 61), none, .bin .add (.t 59) (.t 60)⟩,
          ⟨(some 62), none, .sidx (.t 58) (.t 61)⟩,
          ⟨(some 63), none, .call c1 [(.t 62)]⟩,
          ⟨(some 64), none, .un .not (.t 63)⟩] false)
        (.cond (.t 64) (.seq (.ops [
           ⟨(some 4), none, .mv (.c (.int .i64 65533))⟩,
           ⟨(some 5), none, .mv (.c (.int .i64 1))⟩,
           ⟨(some 6), none, .mv (.c (.bool false))⟩] false)
         (.ret))
        (.skip)))
       (.ops [
        ⟨(some 65), none, .mv (.t 9)⟩,
        ⟨(some 66), none, .bin .mul (.t 65) (.c (.int .i64 64))⟩,
        ⟨(some 67), none, .mv (.t 0)⟩,
        ⟨(some 68), none, .mv (.t 1)⟩,
        ⟨(some 69), none, .mv (.t 11)⟩,
        ⟨(some 70), none, .bin .add (.t 68) (.t 69)⟩,
        ⟨(some 71), none, .sidx (.t 67) (.t 70)⟩,
        ⟨(some 72), none, .cvt .i64 (.t 71)⟩,
        ⟨(some 73), none, .bin .add (.t 66) (.t 72)⟩,
        ⟨(some 74), none, .bin .sub (.t 73) (.c (.int .i64 128))⟩,
        ⟨(some 9), none, .mv (.t 74)⟩] false)))
     (.ops [
      ⟨(some 56), none, .mv (.t 11)⟩,
      ⟨(some 57), none, .bin .add (.t 56) (.c (.int .i64 1))⟩,
      ⟨(some 11), none, .mv (.t 57)⟩] false))))))
  (.seq (.seq (.ops [
     ⟨(some 75), none, .mv (.t 9)⟩,
     ⟨(some 76), none, .mv (.t 10)⟩,
     ⟨(some 77), none, .bin .lss (.t 75) (.t 76)⟩,
     ⟨(some 78), none, .mv (.t 77)⟩,
     ⟨(some 79), (some (78, false)), .mv (.t 9)⟩,
     ⟨(some 80), (some (78, false)), .bin .gtr (.t 79) (.c (.int .i64 1114111))⟩,
     ⟨(some 81), none, .pick (.t 78) (.c (.bool true)) (.t 80)⟩,
     ⟨(some 82), none, .mv (.t 81)⟩,
     ⟨(some 83), (some (82, false)), .mv (.t 9)⟩,
     ⟨(some 84), (some (82, false)), .bin .geq (.t 83) (.c (.int .i64 55296))⟩,
     ⟨(some 85), (some (82, false)), .mv (.t 84)⟩,
     ⟨(some 86), (some (85, true)), .mv (.t 9)⟩,
     ⟨(some 87), (some (85, true)), .bin .lss (.t 86) (.c (.int .i64 57344))⟩,
     ⟨(some 88), (some (82, false)), .pick (.t 85) (.t 87) (.c (.bool false))⟩,
     ⟨(some 89), none, .pick (.t 82) (.c (.bool true)) (.t 88)⟩] false)
   (.cond (.t 89) (.seq (.ops [
      ⟨(some 4), none, .mv (.c (.int .i64 65533))⟩,
      ⟨(some 5), none, .mv (.c (.int .i64 1))⟩,
      ⟨(some 6), none, .mv (.c (.bool false))⟩] false)
    (.ret))
   (.skip)))
  (.seq (.ops [
    ⟨(some 90), none, .mv (.t 9)⟩,
    ⟨(some 91), none, .mv (.t 8)⟩,
    ⟨(some 4), none, .mv (.t 90)⟩,
    ⟨(some 5), none, .mv (.t 91)⟩,
    ⟨(some 6), none, .mv (.c (.bool true))⟩] false)
  (.ret)))))))))))) }

def irR3More : IFn :=
 { nt := 9, res := [.t 2], body := (
  .seq (.ops [
    ⟨(some 2), none, .mv (.c (.bool false))⟩] false)
  (.seq (.ops [
    ⟨(some 3), none, .mv (.t 0)⟩,
    ⟨(some 4), none, .bin .geq (.t 3) (.c (.int .u8 128))⟩,
    ⟨(some 5), none, .mv (.t 4)⟩,
    ⟨(some 6), (some (5, true)), .mv (.t 0)⟩,
    ⟨(some 7), (some (5, true)), .bin .lss (.t 6) (.c (.int .u8 192))⟩,
    ⟨(some 8), none, .pick (.t 5) (.t 7) (.c (.bool false))⟩,
    ⟨(some 2), none, .mv (.t 8)⟩] false)
  (.ret))) }

def irR3Unquote : IFn :=
 { nt := 71, res := [.t 2, .t 3], body := (
  .seq (.ops [
    ⟨(some 2), none, .mv (.c (.str []))⟩,
    ⟨(some 3), none, .mv (.c (.int .i64 0))⟩] false)
  (.seq (.ops [
    ⟨(some 8), none, .mv (.t 0)⟩,
    ⟨(some 9), none, .lenS (.t 8)⟩,
    ⟨(some 4), none, .mv (.t 9)⟩] false)
  (.seq (.seq (.ops [
     ⟨(some 10), none, .mv (.t 4)⟩,
     ⟨(some 11), none, .bin .lss (.t 10) (.c (.int .i64 2))⟩,
     ⟨(some 12), none, .mv (.t 11)⟩,
     ⟨(some 13), (some (12, false)), .mv (.t 0)⟩,
     ⟨(some 14), (some (12, false)), .sidx (.t 13) (.c (.int .i64 0))⟩,
     ⟨(some 15), (some (12, false)), .bin .neq (.t 14) (.c (.int .u8 34))⟩,
     ⟨(some 16), none, .pick (.t 12) (.c (.bool true)) (.t 15)⟩,
     ⟨(some 17), none, .mv (.t 16)⟩,
     ⟨(some 18), (some (17, false)), .mv (.t 0)⟩,
     ⟨(some 19), (some (17, false)), .mv (.t 4)⟩,
     ⟨(some 20), (some (17, false)), .bin .sub (.t 19) (.c (.int .i64 1))⟩,
     ⟨(some 21), (some (17, false)), .sidx (.t 18) (.t 20)⟩,
     ⟨(some 22), (some (17, false)), .bin .neq (.t 21) (.c (.int .u8 34))⟩,
     ⟨(some 23), none, .pick (.t 17) (.c (.bool true)) (.t 22)⟩] false)
   (.cond (.t 23) (.seq (.ops [
      ⟨(some 2), none, .mv (.c (.str []))⟩,
      ⟨(some 3), none, .mv (.c (.int .i64 22))⟩] false)
    (.ret))
   (.skip)))
  (.seq (.ops [
    ⟨(some 5), none, .mv (.c (.str []))⟩] false)
  (.seq (.ops [
    ⟨(some 24), none, .mv (.t 0)⟩,
    ⟨(some 25), none, .mv (.t 4)⟩,
    ⟨(some 26), none, .bin .sub (.t 25) (.c (.int .i64 1))⟩,
    ⟨(some 27), none, .sslice (.t 24) (some (.c (.int .i64 1))) (some (.t 26))⟩,
    ⟨(some 6), none, .mv (.t 27)⟩] false)
  (.seq (.blk 0 (.loop (.seq (.seq (.ops [
        ⟨(some 28), none, .mv (.t 6)⟩,
        ⟨(some 29), none, .lenS (.t 28)⟩,
        ⟨(some 30), none, .bin .gtr (.t 29) (.c (.int .i64 0))⟩] false)
      (.cond (.t 30) (.skip)
      (.exit 0)))
     (.blk 1 (.seq (.ops [
        ⟨(some 31), none, .mv (.t 6)⟩,
        ⟨(some 32), none, .sidx (.t 31) (.c (.int .i64 0))⟩,
        ⟨(some 7), none, .mv (.t 32)⟩] false)
      (.seq (.seq (.ops [
         ⟨(some 33), none, .mv (.t 7)⟩,
         ⟨(some 34), none, .bin .lss (.t 33) (.c (.int .u8 32))⟩,
         ⟨(some 35), none, .mv (.t 34)⟩,
         ⟨(some 36), (some (35, false)), .mv (.t 7)⟩,
         ⟨(some 37), (some (35, false)), .bin .eql (.t 36) (.c (.int .u8 34))⟩,
         ⟨(some 38), none, .pick (.t 35) (.c (.bool true)) (.t 37)⟩] false)
       (.cond (.t 38) (.seq (.ops [
          ⟨(some 2), none, .mv (.c (.str []))⟩,
          ⟨(some 3), none, .mv (.c (.int .i64 22))⟩] false)
        (.ret))
       (.skip)))
      (.seq (.seq (.ops [
         ⟨(some 39), none, .mv (.t 7)⟩,
         ⟨(some 40), none, .bin .neq (.t 39) (.c (.int .u8 92))⟩] false)
       (.cond (.t 40) (.seq (.ops [
          ⟨(some 41), none, .mv (.t 5)⟩,
          ⟨(some 42), none, .mv (.t 6)⟩,
          ⟨(some 43), none, .sslice (.t 42) none (some (.c (.int .i64 1)))⟩,
          ⟨(some 44), none, .bin .add (.t 41) (.t 43)⟩,
          ⟨(some 5), none, .mv (.t 44)⟩] false)
        (.seq (.ops [
          ⟨(some 45), none, .mv (.t 6)⟩,
          ⟨(some 46), none, .sslice (.t 45) (some (.c (.int .i64 1))) none⟩,
          ⟨(some 6), none, .mv (.t 46)⟩] false)
        (.exit 1)))
       (.skip)))
      (.seq (.seq (.ops [
         ⟨(some 47), none, .mv (.t 6)⟩,
         ⟨(some 48), none, .lenS (.t 47)⟩,
         ⟨(some 49), none, .bin .lss (.t 48) (.c (.int .i64 2))⟩] false)
       (.cond (.t 49) (.seq (.ops [
          ⟨(some 2), none, .mv (.c (.str []))⟩,
          ⟨(some 3), none, .mv (.c (.int .i64 22))⟩] false)
        (.ret))
       (.skip)))
      (.seq (.seq (.ops [
         ⟨(some 50), none, .mv (.t 6)⟩,
         ⟨(some 51), none, .sidx (.t 50) (.c (.int .i64 1))⟩] false)
       (.blk 2 (.seq (.ops [
          ⟨(some 53), none, .bin .eql (.t 51) (.c (.int .u8 110))⟩,
          ⟨(some 52), none, .mv (.t 53)⟩] false)
        (.cond (.t 52) (.ops [
          ⟨(some 54), none, .mv (.t 5)⟩,
          ⟨(some 55), none, .bin .add (.t 54) (.c (.str [10]))⟩,
          ⟨(some 5), none, .mv (.t 55)⟩] false)
        (.seq (.ops [
           ⟨(some 57), none, .bin .eql (.t 51) (.c (.int .u8 116))⟩,
           ⟨(some 56), none, .mv (.t 57)⟩] false)
         (.cond (.t 56) (.ops [
           ⟨(some 58), none, .mv (.t 5)⟩,
           ⟨(some 59), none, .bin .add (.t 58) (.c (.str [9]))⟩,
           ⟨(some 5), none, .mv (.t 59)⟩] false)
         (.seq (.ops [
            ⟨(some 61), none, .bin .eql (.t 51) (.c (.int .u8 34))⟩,
            ⟨(some 60), none, .mv (.t 61)⟩] false)
          (.cond (.t 60) (.ops [
            ⟨(some 62), none, .mv (.t 5)⟩,
            ⟨(some 63), none, .bin .add (.t 62) (.c (.str [34]))⟩,
            ⟨(some 5), none, .mv (.t 63)⟩] false)
          (.seq (.ops [
             ⟨(some 65), none, .bin .eql (.t 51) (.c (.int .u8 92))⟩,
             ⟨(some 64), none, .mv (.t 65)⟩] false)
           (.cond (.t 64) (.ops [
             ⟨(some 66), none, .mv (.t 5)⟩,
             ⟨(some 67), none, .bin .add (.t 66) (.c (.str [92]))⟩,
             ⟨(some 5), none, .mv (.t 67)⟩] false)
           (.seq (.ops [
              ⟨(some 2), none, .mv (.c (.str []))⟩,
              ⟨(some 3), none, .mv (.c (.int .i64 22))⟩] false)
            (.ret))))))))))))
      (.ops [
       ⟨(some 68), none, .mv (.t 6)⟩,
       ⟨(some 69), none, .sslice (.t 68) (some (.c (.int .i64 2))) none⟩,
       ⟨(some 6), none, .mv (.t 69)⟩] false))))))))))
  (.seq (.ops [
    ⟨(some 70), none, .mv (.t 5)⟩,
    ⟨(some 2), none, .mv (.t 70)⟩,
    ⟨(some 3), none, .mv (.c (.int .i64 0))⟩] false)
  (.ret)))))))) }

end Go.Zam

namespace Go.Zam
set_option linter.all false
set_option maxRecDepth 100000
set_option maxHeartbeats 2000000

inductive Utf : Bs → Prop
  | nil : Utf []
  | step {s : Bs} (h : s ≠ []) (hd : decU s ≠ (65533, 1)) (hr : Utf (s.drop (decU s).2)) : Utf s

theorem badF_ge : ∀ (f : Nat) (s : Bs) (n : Nat), badF f s n = -1 ∨ 0 ≤ badF f s n
  | 0, _, _ => .inl rfl
  | f + 1, s, n => by
    rw [badF]
    split
    · exact .inl rfl
    · split
      · exact .inr (by omega)
      · exact badF_ge f _ _

theorem badF_utf : ∀ (f : Nat) (s : Bs) (n : Nat), s.length ≤ f → (badF f s n = -1 ↔ Utf s)
  | 0, s, n, h => by
    have : s = [] := List.eq_nil_of_length_eq_zero (by omega)
    subst this
    exact ⟨fun _ => .nil, fun _ => rfl⟩
  | f + 1, s, n, h => by
    rw [badF]
    by_cases hs : s = []
    · rw [if_pos hs]; subst hs; exact ⟨fun _ => .nil, fun _ => rfl⟩
    rw [if_neg hs]
    by_cases hd : decU s = (65533, 1)
    · rw [if_pos hd]
      constructor
      · intro e; omega
      · intro hu
        cases hu with
        | nil => exact absurd rfl hs
        | step _ h2 _ => exact absurd hd h2
    · rw [if_neg hd]
      have hl := decU_len hs
      rw [badF_utf f _ _ (by simp; omega)]
      constructor
      · exact fun h => .step hs hd h
      · intro hu
        cases hu with
        | nil => exact absurd rfl hs
        | step _ _ h3 => exact h3

theorem badS_utf (s : Bs) : ¬ 0 ≤ badS s ↔ Utf s := by
  rw [← badF_utf s.length s 0 (Nat.le_refl _)]
  have := badF_ge s.length s 0
  unfold badS
  omega

theorem decodeN_w (n b0 b1 b2 b3 : Nat) (hn : 1 ≤ n) : Lib.decodeN n b0 b1 b2 b3 = (65533, 1) ∨ ((Lib.decodeN n b0 b1 b2 b3).2 = 1 ∧ b0 < 128) ∨ ((Lib.decodeN n b0 b1 b2 b3).2 = 2 ∧ 2 ≤ n ∧ 128 ≤ b0 ∧ 128 ≤ b1) ∨ ((Lib.decodeN n b0 b1 b2 b3).2 = 3 ∧ 3 ≤ n ∧ 128 ≤ b0 ∧ 128 ≤ b1 ∧ 128 ≤ b2) ∨ ((Lib.decodeN n b0 b1 b2 b3).2 = 4 ∧ 4 ≤ n ∧ 128 ≤ b0 ∧ 128 ≤ b1 ∧ 128 ≤ b2 ∧ 128 ≤ b3) := by
  unfold Lib.decodeN
  (repeat' split) <;> simp <;> omega

theorem decodeN_1 (n n' b0 b1 b2 b3 c1 c2 c3 : Nat) (h : b0 < 128) : Lib.decodeN n' b0 c1 c2 c3 = Lib.decodeN n b0 b1 b2 b3 := by simp [Lib.decodeN, h]
theorem decodeN_2 (n n' b0 b1 b2 b3 c2 c3 : Nat) (hn : 2 ≤ n) (hn' : 2 ≤ n') (h : (Lib.decodeN n b0 b1 b2 b3).2 = 2) : Lib.decodeN n' b0 b1 c2 c3 = Lib.decodeN n b0 b1 b2 b3 := by
  unfold Lib.decodeN at *
  (repeat' split at h) <;> simp only at h <;> try omega
  all_goals (repeat' split) <;> first | rfl | (exfalso; omega)
theorem decodeN_3 (n n' b0 b1 b2 b3 c3 : Nat) (hn : 3 ≤ n) (hn' : 3 ≤ n') (h : (Lib.decodeN n b0 b1 b2 b3).2 = 3) : Lib.decodeN n' b0 b1 b2 c3 = Lib.decodeN n b0 b1 b2 b3 := by
  unfold Lib.decodeN at *
  (repeat' split at h) <;> simp only at h <;> try omega
  all_goals (repeat' split) <;> first | rfl | (exfalso; omega)
theorem decodeN_4 (n n' b0 b1 b2 b3 : Nat) (hn : 4 ≤ n) (hn' : 4 ≤ n') (h : (Lib.decodeN n b0 b1 b2 b3).2 = 4) : Lib.decodeN n' b0 b1 b2 b3 = Lib.decodeN n b0 b1 b2 b3 := by
  unfold Lib.decodeN at *
  (repeat' split at h) <;> simp only at h <;> try omega
  all_goals (repeat' split) <;> first | rfl | (exfalso; omega)

theorem getD_take_app (s r : Bs) (w i : Nat) (h : i < w) (hw : w ≤ s.length) : (s.take w ++ r).getD i 0 = s.getD i 0 := by
  have h1 : i < s.length := by omega
  simp [List.getD, List.getElem?_append, h, h1, Nat.min_eq_left hw]

theorem decU_ne {s : Bs} (h : s ≠ []) : decU s = Lib.decodeN s.length (s.getD 0 0).toNat (s.getD 1 0).toNat (s.getD 2 0).toNat (s.getD 3 0).toNat := by unfold decU; rw [if_neg h]

theorem Utf.inv {s : Bs} (hu : Utf s) (h : s ≠ []) : decU s ≠ (65533, 1) ∧ Utf (s.drop (decU s).2) := by
  cases hu with
  | nil => exact absurd rfl h
  | step h1 h2 h3 => exact ⟨h2, h3⟩

/-- a character stays what it is, whatever follows -/
theorem decU_loc {s : Bs} (hs : s ≠ []) (hd : decU s ≠ (65533, 1)) (r : Bs) : decU (s.take (decU s).2 ++ r) = decU s ∧ (2 ≤ (decU s).2 → ∀ i, i < (decU s).2 → 128 ≤ (s.getD i 0).toNat) := by
  have hl := decU_len hs
  have hn : 1 ≤ s.length := by omega
  have hE : decU s = Lib.decodeN s.length (s.getD 0 0).toNat (s.getD 1 0).toNat (s.getD 2 0).toNat (s.getD 3 0).toNat := decU_ne hs
  have hne : s.take (decU s).2 ++ r ≠ [] := fun e => by
    have := congrArg List.length e
    simp only [List.length_append, List.length_take, List.length_nil] at this
    omega
  have hlen : (s.take (decU s).2 ++ r).length = (decU s).2 + r.length := by simp only [List.length_append, List.length_take]; omega
  have hF : decU (s.take (decU s).2 ++ r) = Lib.decodeN ((decU s).2 + r.length) ((s.take (decU s).2 ++ r).getD 0 0).toNat ((s.take (decU s).2 ++ r).getD 1 0).toNat ((s.take (decU s).2 ++ r).getD 2 0).toNat ((s.take (decU s).2 ++ r).getD 3 0).toNat := by
    rw [← hlen]; exact decU_ne hne
  have hg := fun i h => getD_take_app s r (decU s).2 i h hl.2
  rw [hF]
  rw [hE] at hd
  rcases decodeN_w s.length (s.getD 0 0).toNat (s.getD 1 0).toNat (s.getD 2 0).toNat (s.getD 3 0).toNat hn with h | ⟨h1, h2⟩ | ⟨h1, h2, h3, h4⟩ | ⟨h1, h2, h3, h4, h5⟩ | ⟨h1, h2, h3, h4, h5, h6⟩
  · exact absurd h hd
  · rw [← hE] at h1
    refine ⟨?_, fun h => by omega⟩
    rw [hg 0 (by omega), hE]
    exact decodeN_1 _ _ _ _ _ _ _ _ _ h2
  · have h1' := h1
    rw [← hE] at h1
    refine ⟨?_, fun _ i hi => ?_⟩
    · rw [hg 0 (by omega), hg 1 (by omega), hE]
      rw [hE] at h1 
      exact decodeN_2 _ _ _ _ _ _ _ _ h2 (by omega) h1'
    · match i, (show i < 2 by omega) with
      | 0, _ => exact h3
      | 1, _ => exact h4
  · have h1' := h1
    rw [← hE] at h1
    refine ⟨?_, fun _ i hi => ?_⟩
    · rw [hg 0 (by omega), hg 1 (by omega), hg 2 (by omega), hE]
      rw [hE] at h1 
      exact decodeN_3 _ _ _ _ _ _ _ h2 (by omega) h1'
    · match i, (show i < 3 by omega) with
      | 0, _ => exact h3
      | 1, _ => exact h4
      | 2, _ => exact h5
  · have h1' := h1
    rw [← hE] at h1
    refine ⟨?_, fun _ i hi => ?_⟩
    · rw [hg 0 (by omega), hg 1 (by omega), hg 2 (by omega), hg 3 (by omega), hE]
      rw [hE] at h1 
      exact decodeN_4 _ _ _ _ _ _ h2 (by omega) h1'
    · match i, (show i < 4 by omega) with
      | 0, _ => exact h3
      | 1, _ => exact h4
      | 2, _ => exact h5
      | 3, _ => exact h6

theorem Utf.app {s t : Bs} (hs : Utf s) (ht : Utf t) : Utf (s ++ t) := by
  induction hs with
  | nil => exact ht
  | @step s h hd hr ih =>
    have hl := decU_len h
    have hloc := (decU_loc h hd (s.drop (decU s).2 ++ t)).1
    rw [← List.append_assoc, List.take_append_drop] at hloc
    refine .step (by simp [h]) (by rw [hloc]; exact hd) ?_
    rw [hloc, List.drop_append_of_le_length hl.2]
    exact ih

theorem Utf.ahead : ∀ (m : Nat) {a b : Bs}, a.length ≤ m → Utf (a ++ b) → (∀ x, a.getLast? = some x → x.toNat < 128) → Utf a
  | m, [], b, _, _, _ => .nil
  | 0, x :: a, b, h, _, _ => by simp at h
  | m + 1, x :: a, b, h, hu, hlast => by
    generalize hA : x :: a = A at *
    have hne : A ≠ [] := by rw [← hA]; simp
    have h1 : A ++ b ≠ [] := by simp [hne]
    obtain ⟨hd, hr⟩ := hu.inv h1
    · have hl := decU_len h1
      have hloc := decU_loc h1 hd
      rcases Nat.lt_or_ge A.length (decU (A ++ b)).2 with hw | hw
      · exfalso
        have hA1 : 1 ≤ A.length := by rw [← hA]; simp
        have := (hloc []).2 (by omega) (A.length - 1) (by omega)
        have hg : A.getLast? = some (A[A.length - 1]'(by omega)) := by rw [List.getLast?_eq_getElem?, List.getElem?_eq_getElem]
        have h2 := hlast _ hg
        have h3 : (A ++ b).getD (A.length - 1) 0 = A[A.length - 1]'(by omega) := by
          simp [List.getD, List.getElem?_append, show A.length - 1 < A.length by omega]
        rw [h3] at this
        omega
      · have e1 : (A ++ b).take (decU (A ++ b)).2 = A.take (decU (A ++ b)).2 := List.take_append_of_le_length hw
        have h3 := (hloc (A.drop (decU (A ++ b)).2)).1
        rw [e1, List.take_append_drop] at h3
        have hA1 := decU_len hne
        refine .step hne (by rw [h3]; exact hd) ?_
        rw [h3]
        rw [List.drop_append_of_le_length hw] at hr
        refine Utf.ahead m (by simp; omega) hr fun y hy => hlast y ?_
        rw [List.getLast?_drop] at hy
        split at hy
        · cases hy
        · exact hy

end Go.Zam

namespace Go.Zam
set_option linter.all false
set_option maxRecDepth 100000
set_option maxHeartbeats 2000000

/-- the tokens of a text that begins at a place -/
inductive Toks : Bs → Nat → List Tk → Prop
  | fin {s : Bs} {n : Nat} (h : (tokN (s.drop (leadS false s))).1 = 0) (h0 : s.drop (leadS false s) = []) : Toks s n [⟨0, n + leadS false s, s.take (leadS false s), []⟩]
  | tok {s : Bs} {n : Nat} {l : List Tk} (h : (tokN (s.drop (leadS false s))).1 = 0) (h0 : s.drop (leadS false s) ≠ []) (hr : Toks ((s.drop (leadS false s)).drop (tokN (s.drop (leadS false s))).2.2) (n + leadS false s + (tokN (s.drop (leadS false s))).2.2) l) :
      Toks s n (⟨(tokN (s.drop (leadS false s))).2.1, n + leadS false s, s.take (leadS false s), (s.drop (leadS false s)).take (tokN (s.drop (leadS false s))).2.2⟩ :: l)

theorem lexF_toks : ∀ (f : Nat) (s : Bs) (n c : Nat), s.length < f → ((lexF f s n c).2.1 = 0 ↔ ∃ l, Toks s n l ∧ c + l.length ≤ 4000) ∧ ((lexF f s n c).2.1 = 0 → Toks s n (lexF f s n c).1 ∧ c + (lexF f s n c).1.length ≤ 4000)
  | 0, s, n, c, h => by omega
  | f + 1, s, n, c, h => by
    have htl := tokN_len (s.drop (leadS false s))
    obtain ⟨t1, t2, t3, t4⟩ := htl
    rw [lexF]
    by_cases he : (tokN (s.drop (leadS false s))).1 = 0
    case neg =>
      rw [if_pos he]
      refine ⟨⟨fun e => absurd e he, ?_⟩, fun e => absurd e he⟩
      rintro ⟨l, hl, -⟩
      cases hl with
      | fin h1 h2 => exact absurd h1 he
      | tok h1 h2 h3 => exact absurd h1 he
    rw [if_neg (by simp [he])]
    by_cases hc : 4000 ≤ c
    case pos =>
      rw [if_pos hc]
      refine ⟨⟨fun e => absurd e (by simp), ?_⟩, fun e => absurd e (by simp)⟩
      rintro ⟨l, hl, hlc⟩
      cases hl with
      | fin h1 h2 => simp at hlc; omega
      | tok h1 h2 h3 => simp at hlc; omega
    rw [if_neg hc]
    by_cases hk : (tokN (s.drop (leadS false s))).2.1 = 0
    · rw [if_pos hk]
      have hnil := t2 he hk
      have hT : Toks s n [⟨(tokN (s.drop (leadS false s))).2.1, n + leadS false s, s.take (leadS false s), (s.drop (leadS false s)).take (tokN (s.drop (leadS false s))).2.2⟩] := by
        have := Toks.fin (n := n) he hnil
        rw [hk, hnil]
        simpa using this
      exact ⟨⟨fun _ => ⟨_, hT, by simp; omega⟩, fun _ => rfl⟩, fun _ => ⟨hT, by simp; omega⟩⟩
    · rw [if_neg hk]
      have hne : s.drop (leadS false s) ≠ [] := fun e => hk (t4 e)
      have hm := t3 he hne
      have hlen : ((s.drop (leadS false s)).drop (tokN (s.drop (leadS false s))).2.2).length < f := by
        simp only [List.length_drop] at t1 ⊢
        have : leadS false s < s.length := by
          rcases Nat.lt_or_ge (leadS false s) s.length with h' | h'
          · exact h'
          · exact absurd (List.drop_eq_nil_of_le h') hne
        omega
      obtain ⟨i1, i2⟩ := lexF_toks f _ (n + leadS false s + (tokN (s.drop (leadS false s))).2.2) (c + 1) hlen
      generalize lexF f ((s.drop (leadS false s)).drop (tokN (s.drop (leadS false s))).2.2) (n + leadS false s + (tokN (s.drop (leadS false s))).2.2) (c + 1) = R at i1 i2
      by_cases hR : R.2.1 = 0
      · rw [if_pos hR]
        obtain ⟨j1, j2⟩ := i2 hR
        have hT := Toks.tok (n := n) he hne j1
        exact ⟨⟨fun _ => ⟨_, hT, by simp; omega⟩, fun _ => rfl⟩, fun _ => ⟨hT, by simp; omega⟩⟩
      · rw [if_neg hR]
        refine ⟨⟨fun e => absurd e hR, ?_⟩, fun e => absurd e hR⟩
        rintro ⟨l, hl, hlc⟩
        exfalso
        cases hl with
        | fin h1 h2 => exact hne h2
        | tok h1 h2 h3 => exact hR (i1.2 ⟨_, h3, by simp at hlc; omega⟩)

theorem Toks.uniq : ∀ {s : Bs} {n : Nat} {l l' : List Tk}, Toks s n l → Toks s n l' → l = l' := by
  intro s n l l' h
  induction h generalizing l' with
  | fin h1 h2 =>
    intro h'
    cases h' with
    | fin h3 h4 => rfl
    | tok h3 h4 h5 => exact absurd h2 h4
  | tok h1 h2 h3 ih =>
    intro h'
    cases h' with
    | fin h4 h5 => exact absurd h5 h2
    | tok h4 h5 h6 => rw [ih h6]

/-- what token.Lex answers, where nothing is wrong -/
theorem lexS_ok (s : Bs) : ((lexS s).2.1 = 0 ↔ s.length ≤ 16384 ∧ Utf s ∧ ∃ l, Toks s 0 l ∧ l.length ≤ 4000) ∧ ((lexS s).2.1 = 0 → Toks s 0 (lexS s).1 ∧ (lexS s).1.length ≤ 4000) := by
  have hu := badS_utf s
  unfold lexS
  by_cases h1 : 16384 < s.length
  · rw [if_pos h1]
    exact ⟨⟨fun e => absurd e (by simp), fun e => by omega⟩, fun e => absurd e (by simp)⟩
  rw [if_neg h1]
  by_cases h2 : 0 ≤ badS s
  · rw [if_pos h2]
    exact ⟨⟨fun e => absurd e (by simp), fun e => absurd e.2.1 fun q => hu.2 q h2⟩, fun e => absurd e (by simp)⟩
  rw [if_neg h2]
  obtain ⟨i1, i2⟩ := lexF_toks (s.length + 1) s 0 0 (by omega)
  refine ⟨?_, fun e => by simpa using i2 e⟩
  rw [i1]
  simp only [Nat.zero_add]
  exact ⟨fun ⟨l, a, b⟩ => ⟨by omega, hu.1 h2, l, a, b⟩, fun ⟨_, _, q⟩ => q⟩

/-- what one token is -/
def TkAt (p : Nat) (last : Prop) (t : Tk) : Prop := t.a = p + t.l.length ∧ (t.k = 0 ↔ last) ∧ (t.x = [] ↔ t.k = 0)

theorem Toks.join {s : Bs} {n : Nat} {l : List Tk} (h : Toks s n l) : joinS l = s ∧ (∃ t, l.getLast? = some t ∧ t.k = 0) ∧ ∀ (i : Nat) (t : Tk), l[i]? = some t → TkAt (n + (joinS (l.take i)).length) (i + 1 = l.length) t := by
  induction h with
  | @fin s n h1 h2 =>
    refine ⟨?_, ⟨_, rfl, rfl⟩, fun i t hi => ?_⟩
    · simp only [joinS, List.flatMap_cons, List.flatMap_nil, List.append_nil]
      have := List.take_append_drop (leadS false s) s
      rw [h2, List.append_nil] at this
      exact this
    · cases i with
      | zero =>
        simp at hi; subst hi
        have := lead_le false s
        refine ⟨by simp [joinS]; omega, by simp, by simp⟩
      | succ i => simp at hi
  | @tok s n l h1 h2 h3 ih =>
    obtain ⟨j1, ⟨t0, j2, j3⟩, j4⟩ := ih
    have hl := lead_le false s
    obtain ⟨m1, m2, m3, m4⟩ := tokN_len (s.drop (leadS false s))
    have hne : l ≠ [] := fun e => by subst e; simp at j2
    have hm := m3 h1 h2
    have hx : (s.drop (leadS false s)).take (tokN (s.drop (leadS false s))).2.2 ≠ [] := fun e => by
      have := congrArg List.length e
      simp only [List.length_take, List.length_nil] at this
      omega
    have hk : ¬ (tokN (s.drop (leadS false s))).2.1 = 0 := fun e => h2 (m2 h1 e)
    have hlx : ((s.drop (leadS false s)).take (tokN (s.drop (leadS false s))).2.2).length = (tokN (s.drop (leadS false s))).2.2 := by simp only [List.length_take]; omega
    refine ⟨?_, ⟨t0, ?_, j3⟩, fun i t hi => ?_⟩
    · have e : joinS (⟨(tokN (s.drop (leadS false s))).2.1, n + leadS false s, s.take (leadS false s), (s.drop (leadS false s)).take (tokN (s.drop (leadS false s))).2.2⟩ :: l) = (s.take (leadS false s) ++ (s.drop (leadS false s)).take (tokN (s.drop (leadS false s))).2.2) ++ joinS l := rfl
      rw [e, j1, List.append_assoc, List.take_append_drop, List.take_append_drop]
    · rw [List.getLast?_cons, j2]; rfl
    · cases i with
      | zero =>
        simp at hi; subst hi
        refine ⟨by simp [joinS]; omega, ?_, ?_⟩
        · simp [hk]; exact hne
        · simp only; exact ⟨fun e => absurd e hx, fun e => absurd e hk⟩
      | succ i =>
        simp at hi
        obtain ⟨q1, q2, q3⟩ := j4 i t hi
        refine ⟨?_, ?_, q3⟩
        · rw [q1, List.take_succ_cons]
          have e : joinS (⟨(tokN (s.drop (leadS false s))).2.1, n + leadS false s, s.take (leadS false s), (s.drop (leadS false s)).take (tokN (s.drop (leadS false s))).2.2⟩ :: l.take i) = (s.take (leadS false s) ++ (s.drop (leadS false s)).take (tokN (s.drop (leadS false s))).2.2) ++ joinS (l.take i) := rfl
          rw [e]
          simp only [List.length_append, hlx, List.length_take]
          omega
        · rw [q2]; simp

end Go.Zam

namespace Go.Zam
set_option linter.all false
set_option maxRecDepth 100000
set_option maxHeartbeats 1000000

/-- is a byte one of 80 to bf? -/
def contB (b : UInt8) : Bool := decide ((128 : Int) ≤ b.toNat) && decide ((b.toNat : Int) < 192)

theorem byteAt_getD {s : Bs} {n k : Nat} (h : n + k < s.length) : byteAt s ((n : Int) + k) = some ((s.drop n).getD k 0) := by
  have e : ((n : Int) + k) = ((n + k : Nat) : Int) := by omega
  rw [e, byteAt_nat, List.getD_eq_getElem?_getD, List.getElem?_drop, List.getElem?_eq_getElem h]; rfl

theorem dec_0 {n b0 b1 b2 b3 : Nat} (h : b0 < 128) : Lib.decodeN n b0 b1 b2 b3 = (b0, 1) := by simp [Lib.decodeN, h]
theorem dec_none {n b0 b1 b2 b3 : Nat} (h : ¬ b0 < 128) (h2 : ¬ (192 ≤ b0 ∧ b0 < 248)) : Lib.decodeN n b0 b1 b2 b3 = (65533, 1) := by
  unfold Lib.decodeN
  rw [if_neg h, if_neg (by omega), if_neg (by omega), if_neg (by omega)]
theorem dec_2 {n b0 b1 b2 b3 : Nat} (h : 192 ≤ b0 ∧ b0 < 224) : Lib.decodeN n b0 b1 b2 b3 = if 1 < n ∧ (128 ≤ b1 ∧ b1 < 192) ∧ 128 ≤ (b0 - 192) * 64 + (b1 - 128) then ((b0 - 192) * 64 + (b1 - 128), 2) else (65533, 1) := by
  unfold Lib.decodeN
  rw [if_neg (by omega)]
  by_cases h1 : 1 < n ∧ (128 ≤ b1 ∧ b1 < 192)
  · have e : b0 % 32 * 64 + b1 % 64 = (b0 - 192) * 64 + (b1 - 128) := by omega
    rw [if_pos (by omega), e]
    by_cases h3 : 128 ≤ (b0 - 192) * 64 + (b1 - 128)
    · rw [if_pos h3, if_pos ⟨h1.1, h1.2, h3⟩]
    · rw [if_neg (by omega), if_neg (by omega)]
  · rw [if_neg (by omega), if_neg (by omega), if_neg (by omega), if_neg (fun q => h1 ⟨q.1, q.2.1⟩)]
theorem dec_3 {n b0 b1 b2 b3 : Nat} (h : 224 ≤ b0 ∧ b0 < 240) : Lib.decodeN n b0 b1 b2 b3 = if 2 < n ∧ (128 ≤ b1 ∧ b1 < 192) ∧ (128 ≤ b2 ∧ b2 < 192) ∧ 2048 ≤ (b0 - 224) * 4096 + (b1 - 128) * 64 + (b2 - 128) ∧ ¬ (55296 ≤ (b0 - 224) * 4096 + (b1 - 128) * 64 + (b2 - 128) ∧ (b0 - 224) * 4096 + (b1 - 128) * 64 + (b2 - 128) < 57344) then ((b0 - 224) * 4096 + (b1 - 128) * 64 + (b2 - 128), 3) else (65533, 1) := by
  unfold Lib.decodeN
  rw [if_neg (by omega), if_neg (by omega)]
  by_cases h1 : 2 < n ∧ (128 ≤ b1 ∧ b1 < 192) ∧ (128 ≤ b2 ∧ b2 < 192)
  · have e : b0 % 16 * 4096 + b1 % 64 * 64 + b2 % 64 = (b0 - 224) * 4096 + (b1 - 128) * 64 + (b2 - 128) := by omega
    rw [if_pos (by omega), e]
    generalize hV : (b0 - 224) * 4096 + (b1 - 128) * 64 + (b2 - 128) = V
    by_cases h3 : 2048 ≤ V ∧ ¬ (55296 ≤ V ∧ V < 57344)
    · rw [if_pos (by omega), if_pos ⟨h1.1, h1.2.1, h1.2.2, h3⟩]
    · rw [if_neg (by omega), if_neg (fun q => h3 q.2.2.2)]
  · rw [if_neg (by omega), if_neg (by omega), if_neg (fun q => h1 ⟨q.1, q.2.1, q.2.2.1⟩)]
theorem dec_4 {n b0 b1 b2 b3 : Nat} (h : 240 ≤ b0 ∧ b0 < 248) : Lib.decodeN n b0 b1 b2 b3 = if 3 < n ∧ (128 ≤ b1 ∧ b1 < 192) ∧ (128 ≤ b2 ∧ b2 < 192) ∧ (128 ≤ b3 ∧ b3 < 192) ∧ 65536 ≤ (b0 - 240) * 262144 + (b1 - 128) * 4096 + (b2 - 128) * 64 + (b3 - 128) ∧ (b0 - 240) * 262144 + (b1 - 128) * 4096 + (b2 - 128) * 64 + (b3 - 128) ≤ 1114111 then ((b0 - 240) * 262144 + (b1 - 128) * 4096 + (b2 - 128) * 64 + (b3 - 128), 4) else (65533, 1) := by
  unfold Lib.decodeN
  rw [if_neg (by omega), if_neg (by omega), if_neg (by omega)]
  by_cases h1 : 3 < n ∧ (128 ≤ b1 ∧ b1 < 192) ∧ (128 ≤ b2 ∧ b2 < 192) ∧ (128 ≤ b3 ∧ b3 < 192)
  · have e : b0 % 8 * 262144 + b1 % 64 * 4096 + b2 % 64 * 64 + b3 % 64 = (b0 - 240) * 262144 + (b1 - 128) * 4096 + (b2 - 128) * 64 + (b3 - 128) := by omega
    rw [if_pos (by omega), e]
    generalize hV : (b0 - 240) * 262144 + (b1 - 128) * 4096 + (b2 - 128) * 64 + (b3 - 128) = V
    by_cases h3 : 65536 ≤ V ∧ V ≤ 1114111
    · rw [if_pos (by omega), if_pos ⟨h1.1, h1.2.1, h1.2.2.1, h1.2.2.2, h3⟩]
    · rw [if_neg (by omega), if_neg (fun q => h3 q.2.2.2.2)]
  · rw [if_neg (by omega), if_neg (fun q => h1 ⟨q.1, q.2.1, q.2.2.1, q.2.2.2.1⟩)]

/-- does a text begin with a character? -/
def decOk (S : Bs) : Bool := !(decide ((decU S).1 = 65533) && decide ((decU S).2 = 1))

/-- what the document's Next comes to -/
def Next3Q (S : Bs) (H : Hp) : A → Hp → Prop := fun r H' => ∃ v : Int, r = .tup [.d (.int .i64 v), .d (.int .i64 ((decU S).2 : Int)), .d (.bool (decOk S))] ∧ H' = H

section
variable {P : Program}

theorem Has.more3 {f} (h : Has P f irR3More) : ByteOk P f contB := fun b H => by
  obtain ⟨fn, hf, hcf⟩ := h
  refine acall_fin hf hcf (by simp [irR3More]) fun hcl _ => ?_
  simp [irR3More]
  generalize ha : decide ((128 : Int) ≤ b.toNat) = a
  generalize hb : decide ((b.toNat : Int) < 192) = c
  have hl : contB b = (a && c) := by simp only [contB, ha, hb]
  cases a <;> cases c <;> simp [ha, hb] <;> simp [RetK, cut_self hcl, hl]

theorem Has.next3 {f fm} (h : Has P f (irR3Next fm)) (hm : ByteOk P fm contB) (s : Bs) (n : Nat) (hn : n < s.length) (hl : s.length ≤ 1048576) (H : Hp) :
    ACall P f [.d (.str s), .d (.int .i64 (n : Int))] H (Next3Q (s.drop n) H) := by
  obtain ⟨fn, hf, hcf⟩ := h
  refine acall_fin hf hcf (by simp [irR3Next]) fun hcl _ => ?_
  have hB := fun k (hk : n + k < s.length) => byteAt_getD (s := s) (n := n) (k := k) hk
  have hne : s.drop n ≠ [] := fun e => by have := List.drop_eq_nil_iff.1 e; omega
  have hD := decU_ne hne
  have hSl : (s.drop n).length = s.length - n := by simp
  rw [hSl] at hD
  have hfin : ∀ (v N : Int) (ok : Bool), N = ((decU (s.drop n)).2 : Int) → ok = decOk (s.drop n) → Next3Q (s.drop n) H (.tup [.d (.int .i64 v), .d (.int .i64 N), .d (.bool ok)]) H := fun v N ok h1 h2 => ⟨v, by rw [h1, h2], rfl⟩
  unfold decOk at hfin
  generalize Next3Q (s.drop n) H = Q at hfin ⊢
  generalize s.drop n = S at hB hD hfin
  generalize decU S = D at hD hfin
  have hb0 := hB 0 (by omega)
  simp only [Int.add_zero, Int.natCast_zero] at hb0
  have hb1 := hB 1
  have hb2 := hB 2
  have hb3 := hB 3
  clear hB
  have l0 := (S.getD 0 0).toNat_lt
  have l1 := (S.getD 1 0).toNat_lt
  have l2 := (S.getD 2 0).toNat_lt
  have l3 := (S.getD 3 0).toNat_lt
  generalize S.getD 0 0 = b0 at hb0 hD l0
  generalize S.getD 1 0 = b1 at hb1 hD l1
  generalize S.getD 2 0 = b2 at hb2 hD l2
  generalize S.getD 3 0 = b3 at hb3 hD l3
  have hwb : ∀ b : UInt8, IntKind.i64.wrap (b.toNat : Int) = b.toNat := fun b => wrap_i64 (by have := b.toNat_lt; omega) (by have := b.toNat_lt; omega)
  simp [irR3Next, hb0, hwb]
  by_cases c0 : b0.toNat < 128
  · have c0' : (b0.toNat : Int) < 128 := by omega
    rw [dec_0 c0] at hD
    simp [c0']
    simp [RetK, cut_self hcl]
    exact hfin _ _ _ (by rw [hD]; rfl) (by rw [hD]; simp; omega)
  have c0' : ¬ (b0.toNat : Int) < 128 := by omega
  by_cases cN : 192 ≤ b0.toNat ∧ b0.toNat < 248
  case neg =>
    rw [dec_none c0 cN] at hD
    have x1 : ¬ ((192 : Int) ≤ b0.toNat ∧ (b0.toNat : Int) < 248) := by omega
    have key : ∀ F, F = Q → True := fun _ _ => trivial
    by_cases x2 : (192 : Int) ≤ b0.toNat
    · have x3 : ¬ (b0.toNat : Int) < 224 := by omega
      have x4 : (224 : Int) ≤ b0.toNat := by omega
      have x5 : ¬ (b0.toNat : Int) < 240 := by omega
      have x6 : (240 : Int) ≤ b0.toNat := by omega
      have x7 : ¬ (b0.toNat : Int) < 248 := by omega
      simp [c0', x2, x3, x4, x5, x6, x7]
      simp [RetK, cut_self hcl]
      exact hfin _ _ _ (by rw [hD]; rfl) (by rw [hD]; rfl)
    · have x4 : ¬ (224 : Int) ≤ b0.toNat := by omega
      have x6 : ¬ (240 : Int) ≤ b0.toNat := by omega
      simp [c0', x2, x4, x6]
      simp [RetK, cut_self hcl]
      exact hfin _ _ _ (by rw [hD]; rfl) (by rw [hD]; rfl)
  have wsub : ∀ k : Int, 0 ≤ k → k ≤ 1000 → IntKind.i64.wrap ((b0.toNat : Int) - k) = b0.toNat - k := fun k _ _ => wrap_i64 (by omega) (by omega)
  have w2 := wsub 192 (by omega) (by omega)
  have w3 := wsub 224 (by omega) (by omega)
  have w4 := wsub 240 (by omega) (by omega)
  have wsn : IntKind.i64.wrap ((s.length : Int) - n) = s.length - n := wrap_i64 (by omega) (by omega)
  have wi : ∀ k : Int, 0 ≤ k → k ≤ 1000 → IntKind.i64.wrap ((n : Int) + k) = n + k := fun k _ _ => wrap_i64 (by omega) (by omega)
  have w11 := wi 1 (by omega) (by omega)
  have w12 := wi 2 (by omega) (by omega)
  have w13 := wi 3 (by omega) (by omega)
  have wmul : ∀ v : Int, 0 ≤ v → v ≤ 1099511627776 → IntKind.i64.wrap (v * 64) = v * 64 := fun v _ _ => wrap_i64 (by omega) (by omega)
  have wadd : ∀ (v : Int) (b : UInt8), 0 ≤ v → v ≤ 1099511627776 → IntKind.i64.wrap (v * 64 + b.toNat) = v * 64 + b.toNat := fun v b _ _ => by have := b.toNat_lt; exact wrap_i64 (by omega) (by omega)
  have wsb : ∀ (v : Int) (b : UInt8), 0 ≤ v → v ≤ 1099511627776 → IntKind.i64.wrap (v * 64 + b.toNat - 128) = v * 64 + b.toNat - 128 := fun v b _ _ => by have := b.toNat_lt; exact wrap_i64 (by omega) (by omega)
  have hcont : ∀ b : UInt8, contB b = true ↔ 128 ≤ b.toNat ∧ b.toNat < 192 := fun b => by simp [contB]; omega
  simp only [Int.natCast_one, Int.cast_ofNat_Int] at hb1 hb2 hb3
  by_cases c2 : 192 ≤ b0.toNat ∧ b0.toNat < 224
  · have x0 : (192 : Int) ≤ b0.toNat := by omega
    have x1 : (b0.toNat : Int) < 224 := by omega
    have x2 : ¬ (224 : Int) ≤ b0.toNat := by omega
    have x3 : ¬ (240 : Int) ≤ b0.toNat := by omega
    rw [dec_2 c2] at hD
    simp [c0', x0, x1, x2, x3, w2]
    by_cases hL : s.length - n < 2
    · have hL' : (s.length : Int) - n < 2 := by omega
      simp [wsn, hL']
      simp [RetK, cut_self hcl]
      exact hfin _ _ _ (by rw [hD, if_neg (by omega)]; rfl) (by rw [hD, if_neg (by omega)]; rfl)
    have hL' : ¬ (s.length : Int) - n < 2 := by omega
    have B1 := hb1 (by omega)
    simp [wsn, hL']
    refine LoopK_outR 0 (fun fr H' => fr 8 = .d (.int .i64 2) ∧ fr 10 = .d (.int .i64 128) ∧ H' = H ∧ ((128 ≤ b1.toNat ∧ b1.toNat < 192)) ∧ fr 9 = .d (.int .i64 (((b0.toNat : Int) - 192) * 64 + (b1.toNat : Int) - 128))) (fun fr H' => fr 4 = .d (.int .i64 65533) ∧ fr 5 = .d (.int .i64 1) ∧ fr 6 = .d (.bool false) ∧ H' = H ∧ ¬ ((128 ≤ b1.toNat ∧ b1.toNat < 192))) ?_ ?_ ?_
    · refine LoopM_of H.length (fun d fr H' => ∃ (k : Nat) (v : Int), d = 5 - k ∧ fr 0 = .d (.str s) ∧ fr 1 = .d (.int .i64 (n : Int)) ∧ fr 8 = .d (.int .i64 2) ∧ fr 10 = .d (.int .i64 128) ∧ fr 11 = .d (.int .i64 (k : Int)) ∧ fr 9 = .d (.int .i64 v) ∧ H' = H ∧ ((k = 1 ∧ v = ((b0.toNat : Int) - 192)) ∨ (k = 2 ∧ ((128 ≤ b1.toNat ∧ b1.toNat < 192)) ∧ v = (((b0.toNat : Int) - 192) * 64 + (b1.toNat : Int) - 128)))) 4 (by simp) ⟨1, ((b0.toNat : Int) - 192), rfl, ?_⟩ ?_
      · simp [cut_self hcl]
      rintro d fr H' ⟨k, v, rfl, f0, f1, f8, f10, f11, f9, rfl, hor⟩
      rcases hor with ⟨rfl, rfl⟩ | ⟨rfl, q, rfl⟩
      · have wm := wmul ((b0.toNat : Int) - 192) (by omega) (by omega)
        have wa := wadd ((b0.toNat : Int) - 192) b1 (by omega) (by omega)
        have ws := wsb ((b0.toNat : Int) - 192) b1 (by omega) (by omega)
        simp [f0, f1, f8, f11, w11, B1]
        refine CallK_of' (hm b1 _) ?_
        have hc := hcont b1
        cases hcb : contB b1 with
        | false =>
          rw [hcb] at hc
          have hc : ¬ (128 ≤ b1.toNat ∧ b1.toNat < 192) := by simpa using hc
          simp
          omega
        | true =>
          rw [hcb] at hc
          have hc : 128 ≤ b1.toNat ∧ b1.toNat < 192 := by simpa using hc
          simp [f0, f1, f8, f9, f11, w11, B1, hwb, wm, wa, ws]
          refine NextM_of H'.length 3 (Nat.le_refl _) (by simp) (by omega) ⟨2, (((b0.toNat : Int) - 192) * 64 + (b1.toNat : Int) - 128), rfl, ?_⟩
          simp [f0, f1, f8, f10, cut_self hcl, hc]; decide
      · simp [f8, f11]
        simp [f8, f9, f10, q]
    · rintro fr H' ⟨f4, f5, f6, rfl, hc⟩
      simp
      simp [RetK, cut_self hcl, f4, f5, f6]
      exact hfin _ _ _ (by rw [hD, if_neg (fun q => hc (by omega))]; rfl) (by rw [hD, if_neg (fun q => hc (by omega))]; rfl)
    · rintro fr H' ⟨f8, f10, rfl, hc, f9⟩
      generalize hV : (((b0.toNat : Int) - 192) * 64 + (b1.toNat : Int) - 128) = V at f9
      by_cases r1 : V < 128
      · simp [f8, f9, f10, r1]
        simp [RetK, cut_self hcl]
        exact hfin _ _ _ (by rw [hD, if_neg (by omega)]; rfl) (by rw [hD, if_neg (by omega)]; rfl)
      by_cases r2 : 1114111 < V
      · simp [f8, f9, f10, r1, r2]
        simp [RetK, cut_self hcl]
        exact hfin _ _ _ (by rw [hD, if_neg (by omega)]; rfl) (by rw [hD, if_neg (by omega)]; rfl)
      have good : ∀ p : Prop, (1 : Nat) = 1 := fun _ => rfl
      by_cases r3 : 55296 ≤ V
      · by_cases r4 : V < 57344
        · simp [f8, f9, f10, r1, r2, r3, r4]
          simp [RetK, cut_self hcl]
          exact hfin _ _ _ (by rw [hD, if_neg (by omega)]; rfl) (by rw [hD, if_neg (by omega)]; rfl)
        · simp [f8, f9, f10, r1, r2, r3, r4]
          simp [RetK, cut_self hcl, f8, f9]
          exact hfin _ _ _ (by rw [hD, if_pos (by omega)]; rfl) (by rw [hD, if_pos (by omega)]; simp)
      · simp [f8, f9, f10, r1, r2, r3]
        simp [RetK, cut_self hcl, f8, f9]
        exact hfin _ _ _ (by rw [hD, if_pos (by omega)]; rfl) (by rw [hD, if_pos (by omega)]; simp)
  by_cases c3 : 224 ≤ b0.toNat ∧ b0.toNat < 240
  · have x0 : (192 : Int) ≤ b0.toNat := by omega
    have x1 : ¬ (b0.toNat : Int) < 224 := by omega
    have x2 : (224 : Int) ≤ b0.toNat := by omega
    have x3 : (b0.toNat : Int) < 240 := by omega
    have x4 : ¬ (240 : Int) ≤ b0.toNat := by omega
    rw [dec_3 c3] at hD
    simp [c0', x0, x1, x2, x3, x4, w3]
    by_cases hL : s.length - n < 3
    · have hL' : (s.length : Int) - n < 3 := by omega
      simp [wsn, hL']
      simp [RetK, cut_self hcl]
      exact hfin _ _ _ (by rw [hD, if_neg (by omega)]; rfl) (by rw [hD, if_neg (by omega)]; rfl)
    have hL' : ¬ (s.length : Int) - n < 3 := by omega
    have B1 := hb1 (by omega)
    have B2 := hb2 (by omega)
    simp [wsn, hL']
    refine LoopK_outR 0 (fun fr H' => fr 8 = .d (.int .i64 3) ∧ fr 10 = .d (.int .i64 2048) ∧ H' = H ∧ ((128 ≤ b1.toNat ∧ b1.toNat < 192) ∧ (128 ≤ b2.toNat ∧ b2.toNat < 192)) ∧ fr 9 = .d (.int .i64 ((((b0.toNat : Int) - 224) * 64 + (b1.toNat : Int) - 128) * 64 + (b2.toNat : Int) - 128))) (fun fr H' => fr 4 = .d (.int .i64 65533) ∧ fr 5 = .d (.int .i64 1) ∧ fr 6 = .d (.bool false) ∧ H' = H ∧ ¬ ((128 ≤ b1.toNat ∧ b1.toNat < 192) ∧ (128 ≤ b2.toNat ∧ b2.toNat < 192))) ?_ ?_ ?_
    · refine LoopM_of H.length (fun d fr H' => ∃ (k : Nat) (v : Int), d = 5 - k ∧ fr 0 = .d (.str s) ∧ fr 1 = .d (.int .i64 (n : Int)) ∧ fr 8 = .d (.int .i64 3) ∧ fr 10 = .d (.int .i64 2048) ∧ fr 11 = .d (.int .i64 (k : Int)) ∧ fr 9 = .d (.int .i64 v) ∧ H' = H ∧ ((k = 1 ∧ v = ((b0.toNat : Int) - 224)) ∨ (k = 2 ∧ ((128 ≤ b1.toNat ∧ b1.toNat < 192)) ∧ v = (((b0.toNat : Int) - 224) * 64 + (b1.toNat : Int) - 128)) ∨ (k = 3 ∧ ((128 ≤ b1.toNat ∧ b1.toNat < 192) ∧ (128 ≤ b2.toNat ∧ b2.toNat < 192)) ∧ v = ((((b0.toNat : Int) - 224) * 64 + (b1.toNat : Int) - 128) * 64 + (b2.toNat : Int) - 128)))) 4 (by simp) ⟨1, ((b0.toNat : Int) - 224), rfl, ?_⟩ ?_
      · simp [cut_self hcl]
      rintro d fr H' ⟨k, v, rfl, f0, f1, f8, f10, f11, f9, rfl, hor⟩
      rcases hor with ⟨rfl, rfl⟩ | ⟨rfl, q, rfl⟩ | ⟨rfl, q, rfl⟩
      · have wm := wmul ((b0.toNat : Int) - 224) (by omega) (by omega)
        have wa := wadd ((b0.toNat : Int) - 224) b1 (by omega) (by omega)
        have ws := wsb ((b0.toNat : Int) - 224) b1 (by omega) (by omega)
        simp [f0, f1, f8, f11, w11, B1]
        refine CallK_of' (hm b1 _) ?_
        have hc := hcont b1
        cases hcb : contB b1 with
        | false =>
          rw [hcb] at hc
          have hc : ¬ (128 ≤ b1.toNat ∧ b1.toNat < 192) := by simpa using hc
          simp
          omega
        | true =>
          rw [hcb] at hc
          have hc : 128 ≤ b1.toNat ∧ b1.toNat < 192 := by simpa using hc
          simp [f0, f1, f8, f9, f11, w11, B1, hwb, wm, wa, ws]
          refine NextM_of H'.length 3 (Nat.le_refl _) (by simp) (by omega) ⟨2, (((b0.toNat : Int) - 224) * 64 + (b1.toNat : Int) - 128), rfl, ?_⟩
          simp [f0, f1, f8, f10, cut_self hcl, hc]; decide
      · have wm := wmul (((b0.toNat : Int) - 224) * 64 + (b1.toNat : Int) - 128) (by omega) (by omega)
        have wa := wadd (((b0.toNat : Int) - 224) * 64 + (b1.toNat : Int) - 128) b2 (by omega) (by omega)
        have ws := wsb (((b0.toNat : Int) - 224) * 64 + (b1.toNat : Int) - 128) b2 (by omega) (by omega)
        simp [f0, f1, f8, f11, w12, B2]
        refine CallK_of' (hm b2 _) ?_
        have hc := hcont b2
        cases hcb : contB b2 with
        | false =>
          rw [hcb] at hc
          have hc : ¬ (128 ≤ b2.toNat ∧ b2.toNat < 192) := by simpa using hc
          simp
          omega
        | true =>
          rw [hcb] at hc
          have hc : 128 ≤ b2.toNat ∧ b2.toNat < 192 := by simpa using hc
          simp [f0, f1, f8, f9, f11, w12, B2, hwb, wm, wa, ws]
          refine NextM_of H'.length 2 (Nat.le_refl _) (by simp) (by omega) ⟨3, ((((b0.toNat : Int) - 224) * 64 + (b1.toNat : Int) - 128) * 64 + (b2.toNat : Int) - 128), rfl, ?_⟩
          simp [f0, f1, f8, f10, cut_self hcl, hc, q]; decide
      · simp [f8, f11]
        simp [f8, f9, f10, q]
    · rintro fr H' ⟨f4, f5, f6, rfl, hc⟩
      simp
      simp [RetK, cut_self hcl, f4, f5, f6]
      exact hfin _ _ _ (by rw [hD, if_neg (fun q => hc (by omega))]; rfl) (by rw [hD, if_neg (fun q => hc (by omega))]; rfl)
    · rintro fr H' ⟨f8, f10, rfl, hc, f9⟩
      generalize hV : ((((b0.toNat : Int) - 224) * 64 + (b1.toNat : Int) - 128) * 64 + (b2.toNat : Int) - 128) = V at f9
      by_cases r1 : V < 2048
      · simp [f8, f9, f10, r1]
        simp [RetK, cut_self hcl]
        exact hfin _ _ _ (by rw [hD, if_neg (by omega)]; rfl) (by rw [hD, if_neg (by omega)]; rfl)
      by_cases r2 : 1114111 < V
      · simp [f8, f9, f10, r1, r2]
        simp [RetK, cut_self hcl]
        exact hfin _ _ _ (by rw [hD, if_neg (by omega)]; rfl) (by rw [hD, if_neg (by omega)]; rfl)
      have good : ∀ p : Prop, (1 : Nat) = 1 := fun _ => rfl
      by_cases r3 : 55296 ≤ V
      · by_cases r4 : V < 57344
        · simp [f8, f9, f10, r1, r2, r3, r4]
          simp [RetK, cut_self hcl]
          exact hfin _ _ _ (by rw [hD, if_neg (by omega)]; rfl) (by rw [hD, if_neg (by omega)]; rfl)
        · simp [f8, f9, f10, r1, r2, r3, r4]
          simp [RetK, cut_self hcl, f8, f9]
          exact hfin _ _ _ (by rw [hD, if_pos (by omega)]; rfl) (by rw [hD, if_pos (by omega)]; simp)
      · simp [f8, f9, f10, r1, r2, r3]
        simp [RetK, cut_self hcl, f8, f9]
        exact hfin _ _ _ (by rw [hD, if_pos (by omega)]; rfl) (by rw [hD, if_pos (by omega)]; simp)
  have c4 : 240 ≤ b0.toNat ∧ b0.toNat < 248 := by omega
  have x0 : (192 : Int) ≤ b0.toNat := by omega
  have x1 : ¬ (b0.toNat : Int) < 224 := by omega
  have x2 : (224 : Int) ≤ b0.toNat := by omega
  have x3 : ¬ (b0.toNat : Int) < 240 := by omega
  have x4 : (240 : Int) ≤ b0.toNat := by omega
  have x5 : (b0.toNat : Int) < 248 := by omega
  rw [dec_4 c4] at hD
  simp [c0', x0, x1, x2, x3, x4, x5, w4]
  by_cases hL : s.length - n < 4
  · have hL' : (s.length : Int) - n < 4 := by omega
    simp [wsn, hL']
    simp [RetK, cut_self hcl]
    exact hfin _ _ _ (by rw [hD, if_neg (by omega)]; rfl) (by rw [hD, if_neg (by omega)]; rfl)
  have hL' : ¬ (s.length : Int) - n < 4 := by omega
  have B1 := hb1 (by omega)
  have B2 := hb2 (by omega)
  have B3 := hb3 (by omega)
  simp [wsn, hL']
  refine LoopK_outR 0 (fun fr H' => fr 8 = .d (.int .i64 4) ∧ fr 10 = .d (.int .i64 65536) ∧ H' = H ∧ ((128 ≤ b1.toNat ∧ b1.toNat < 192) ∧ (128 ≤ b2.toNat ∧ b2.toNat < 192) ∧ (128 ≤ b3.toNat ∧ b3.toNat < 192)) ∧ fr 9 = .d (.int .i64 (((((b0.toNat : Int) - 240) * 64 + (b1.toNat : Int) - 128) * 64 + (b2.toNat : Int) - 128) * 64 + (b3.toNat : Int) - 128))) (fun fr H' => fr 4 = .d (.int .i64 65533) ∧ fr 5 = .d (.int .i64 1) ∧ fr 6 = .d (.bool false) ∧ H' = H ∧ ¬ ((128 ≤ b1.toNat ∧ b1.toNat < 192) ∧ (128 ≤ b2.toNat ∧ b2.toNat < 192) ∧ (128 ≤ b3.toNat ∧ b3.toNat < 192))) ?_ ?_ ?_
  · refine LoopM_of H.length (fun d fr H' => ∃ (k : Nat) (v : Int), d = 5 - k ∧ fr 0 = .d (.str s) ∧ fr 1 = .d (.int .i64 (n : Int)) ∧ fr 8 = .d (.int .i64 4) ∧ fr 10 = .d (.int .i64 65536) ∧ fr 11 = .d (.int .i64 (k : Int)) ∧ fr 9 = .d (.int .i64 v) ∧ H' = H ∧ ((k = 1 ∧ v = ((b0.toNat : Int) - 240)) ∨ (k = 2 ∧ ((128 ≤ b1.toNat ∧ b1.toNat < 192)) ∧ v = (((b0.toNat : Int) - 240) * 64 + (b1.toNat : Int) - 128)) ∨ (k = 3 ∧ ((128 ≤ b1.toNat ∧ b1.toNat < 192) ∧ (128 ≤ b2.toNat ∧ b2.toNat < 192)) ∧ v = ((((b0.toNat : Int) - 240) * 64 + (b1.toNat : Int) - 128) * 64 + (b2.toNat : Int) - 128)) ∨ (k = 4 ∧ ((128 ≤ b1.toNat ∧ b1.toNat < 192) ∧ (128 ≤ b2.toNat ∧ b2.toNat < 192) ∧ (128 ≤ b3.toNat ∧ b3.toNat < 192)) ∧ v = (((((b0.toNat : Int) - 240) * 64 + (b1.toNat : Int) - 128) * 64 + (b2.toNat : Int) - 128) * 64 + (b3.toNat : Int) - 128)))) 4 (by simp) ⟨1, ((b0.toNat : Int) - 240), rfl, ?_⟩ ?_
    · simp [cut_self hcl]
    rintro d fr H' ⟨k, v, rfl, f0, f1, f8, f10, f11, f9, rfl, hor⟩
    rcases hor with ⟨rfl, rfl⟩ | ⟨rfl, q, rfl⟩ | ⟨rfl, q, rfl⟩ | ⟨rfl, q, rfl⟩
    · have wm := wmul ((b0.toNat : Int) - 240) (by omega) (by omega)
      have wa := wadd ((b0.toNat : Int) - 240) b1 (by omega) (by omega)
      have ws := wsb ((b0.toNat : Int) - 240) b1 (by omega) (by omega)
      simp [f0, f1, f8, f11, w11, B1]
      refine CallK_of' (hm b1 _) ?_
      have hc := hcont b1
      cases hcb : contB b1 with
      | false =>
        rw [hcb] at hc
        have hc : ¬ (128 ≤ b1.toNat ∧ b1.toNat < 192) := by simpa using hc
        simp
        omega
      | true =>
        rw [hcb] at hc
        have hc : 128 ≤ b1.toNat ∧ b1.toNat < 192 := by simpa using hc
        simp [f0, f1, f8, f9, f11, w11, B1, hwb, wm, wa, ws]
        refine NextM_of H'.length 3 (Nat.le_refl _) (by simp) (by omega) ⟨2, (((b0.toNat : Int) - 240) * 64 + (b1.toNat : Int) - 128), rfl, ?_⟩
        simp [f0, f1, f8, f10, cut_self hcl, hc]; decide
    · have wm := wmul (((b0.toNat : Int) - 240) * 64 + (b1.toNat : Int) - 128) (by omega) (by omega)
      have wa := wadd (((b0.toNat : Int) - 240) * 64 + (b1.toNat : Int) - 128) b2 (by omega) (by omega)
      have ws := wsb (((b0.toNat : Int) - 240) * 64 + (b1.toNat : Int) - 128) b2 (by omega) (by omega)
      simp [f0, f1, f8, f11, w12, B2]
      refine CallK_of' (hm b2 _) ?_
      have hc := hcont b2
      cases hcb : contB b2 with
      | false =>
        rw [hcb] at hc
        have hc : ¬ (128 ≤ b2.toNat ∧ b2.toNat < 192) := by simpa using hc
        simp
        omega
      | true =>
        rw [hcb] at hc
        have hc : 128 ≤ b2.toNat ∧ b2.toNat < 192 := by simpa using hc
        simp [f0, f1, f8, f9, f11, w12, B2, hwb, wm, wa, ws]
        refine NextM_of H'.length 2 (Nat.le_refl _) (by simp) (by omega) ⟨3, ((((b0.toNat : Int) - 240) * 64 + (b1.toNat : Int) - 128) * 64 + (b2.toNat : Int) - 128), rfl, ?_⟩
        simp [f0, f1, f8, f10, cut_self hcl, hc, q]; decide
    · have wm := wmul ((((b0.toNat : Int) - 240) * 64 + (b1.toNat : Int) - 128) * 64 + (b2.toNat : Int) - 128) (by omega) (by omega)
      have wa := wadd ((((b0.toNat : Int) - 240) * 64 + (b1.toNat : Int) - 128) * 64 + (b2.toNat : Int) - 128) b3 (by omega) (by omega)
      have ws := wsb ((((b0.toNat : Int) - 240) * 64 + (b1.toNat : Int) - 128) * 64 + (b2.toNat : Int) - 128) b3 (by omega) (by omega)
      simp [f0, f1, f8, f11, w13, B3]
      refine CallK_of' (hm b3 _) ?_
      have hc := hcont b3
      cases hcb : contB b3 with
      | false =>
        rw [hcb] at hc
        have hc : ¬ (128 ≤ b3.toNat ∧ b3.toNat < 192) := by simpa using hc
        simp
        omega
      | true =>
        rw [hcb] at hc
        have hc : 128 ≤ b3.toNat ∧ b3.toNat < 192 := by simpa using hc
        simp [f0, f1, f8, f9, f11, w13, B3, hwb, wm, wa, ws]
        refine NextM_of H'.length 1 (Nat.le_refl _) (by simp) (by omega) ⟨4, (((((b0.toNat : Int) - 240) * 64 + (b1.toNat : Int) - 128) * 64 + (b2.toNat : Int) - 128) * 64 + (b3.toNat : Int) - 128), rfl, ?_⟩
        simp [f0, f1, f8, f10, cut_self hcl, hc, q]; decide
    · simp [f8, f11]
      simp [f8, f9, f10, q]
  · rintro fr H' ⟨f4, f5, f6, rfl, hc⟩
    simp
    simp [RetK, cut_self hcl, f4, f5, f6]
    exact hfin _ _ _ (by rw [hD, if_neg (fun q => hc (by omega))]; rfl) (by rw [hD, if_neg (fun q => hc (by omega))]; rfl)
  · rintro fr H' ⟨f8, f10, rfl, hc, f9⟩
    generalize hV : (((((b0.toNat : Int) - 240) * 64 + (b1.toNat : Int) - 128) * 64 + (b2.toNat : Int) - 128) * 64 + (b3.toNat : Int) - 128) = V at f9
    by_cases r1 : V < 65536
    · simp [f8, f9, f10, r1]
      simp [RetK, cut_self hcl]
      exact hfin _ _ _ (by rw [hD, if_neg (by omega)]; rfl) (by rw [hD, if_neg (by omega)]; rfl)
    by_cases r2 : 1114111 < V
    · simp [f8, f9, f10, r1, r2]
      simp [RetK, cut_self hcl]
      exact hfin _ _ _ (by rw [hD, if_neg (by omega)]; rfl) (by rw [hD, if_neg (by omega)]; rfl)
    have good : ∀ p : Prop, (1 : Nat) = 1 := fun _ => rfl
    by_cases r3 : 55296 ≤ V
    · by_cases r4 : V < 57344
      · simp [f8, f9, f10, r1, r2, r3, r4]
        simp [RetK, cut_self hcl]
        exact hfin _ _ _ (by rw [hD, if_neg (by omega)]; rfl) (by rw [hD, if_neg (by omega)]; rfl)
      · simp [f8, f9, f10, r1, r2, r3, r4]
        simp [RetK, cut_self hcl, f8, f9]
        exact hfin _ _ _ (by rw [hD, if_pos (by omega)]; rfl) (by rw [hD, if_pos (by omega)]; simp)
    · simp [f8, f9, f10, r1, r2, r3]
      simp [RetK, cut_self hcl, f8, f9]
      exact hfin _ _ _ (by rw [hD, if_pos (by omega)]; rfl) (by rw [hD, if_pos (by omega)]; simp)

theorem Has.bad3 {f fn} (h : Has P f (irR3Bad fn)) (hd : ∀ (s : Bs) (n : Nat), n < s.length → s.length ≤ 1048576 → ∀ H, ACall P fn [.d (.str s), .d (.int .i64 (n : Int))] H (Next3Q (s.drop n) H)) (s : Bs) (hl : s.length ≤ 1048576) (H : Hp) : ACall P f [.d (.str s)] H (fun r H' => r = .d (.int .i64 (badS s)) ∧ H' = H) := by
  obtain ⟨fn, hf, hcf⟩ := h
  refine acall_fin hf hcf (by simp [irR3Bad]) fun hcl _ => ?_
  simp [irR3Bad]
  refine LoopK_outR 0 (fun fr H' => badS s = -1 ∧ H' = H) (fun fr H' => fr 2 = .d (.int .i64 (badS s)) ∧ H' = H) ?_ ?_ ?_
  · refine LoopM_of H.length (fun d fr H' => ∃ n : Nat, d = s.length - n ∧ n ≤ s.length ∧ badS s = badF (s.length - n) (s.drop n) n ∧ fr 0 = .d (.str s) ∧ fr 3 = .d (.int .i64 (n : Int)) ∧ H' = H) (s.length - 0) (by simp) ⟨0, rfl, by omega, rfl, ?_⟩ ?_
    · simp [cut_self hcl]
    rintro d fr H' ⟨n, rfl, hn, hb, f0, f3, rfl⟩
    simp [f0, f3]
    refine BrK_split (fun hlt => ?_) (fun hlt => ?_)
    · have hlt : n < s.length := by simpa using hlt
      have hne : s.drop n ≠ [] := fun e => by have := List.drop_eq_nil_iff.1 e; omega
      have hdl := decU_len hne
      have hdr : ∀ k, (s.drop n).drop k = s.drop (n + k) := fun k => List.drop_drop ..
      have hfl : s.length - n = (s.length - n - 1) + 1 := by omega
      rw [hfl, badF, if_neg hne] at hb
      simp only [List.length_drop] at hdl
      simp [f0, f3]
      refine CallK_of (hd s n hlt hl H') ?_
      rintro _ H1 ⟨v, rfl, hH⟩
      cases hH
      simp only [hdr] at hb
      unfold decOk
      generalize decU (s.drop n) = D at hb hdl
      obtain ⟨R, W⟩ := D
      simp only at hb hdl
      have hwr : IntKind.i64.wrap ((n : Int) + W) = ((n + W : Nat) : Int) := by rw [wrap_i64 (by omega) (by omega)]; omega
      by_cases hR : R = 65533 ∧ W = 1
      · rw [if_pos (by rw [hR.1, hR.2])] at hb
        simp [hR.1, hR.2, f3, hb]
      · rw [if_neg (by simpa using hR)] at hb
        have hok : (!(decide (R = 65533) && decide (W = 1))) = true := by simp; omega
        rw [hok]
        simp [f3, hwr]
        refine NextM_of _ (s.length - (n + W)) (Nat.le_refl _) (by simp) (by omega) ⟨n + W, rfl, by omega, ?_, ?_⟩
        · rw [hb]; exact badF_fuel _ _ _ _ (by simp; omega) (by simp)
        · simp [f0, cut_self hcl]
    · have hge : n = s.length := by have : ¬ (n < s.length) := by simpa using hlt
                                    omega
      have : badS s = -1 := by rw [hb, hge]; simp [badF]
      simp [this]
  · rintro fr H' ⟨f2, rfl⟩
    simp
    simp [RetK, cut_self hcl, f2]
  · rintro fr H' ⟨hb, rfl⟩
    simp
    simp [RetK, cut_self hcl, hb]

end
end Go.Zam

namespace Go.Zam
set_option linter.all false
set_option maxRecDepth 100000
set_option maxHeartbeats 1000000

theorem unqI_cons (b : UInt8) (r : Bs) : unqI (b :: r) = if b = 92 then (match r with | [] => none | c :: t => (unesc c).bind fun x => (unqI t).map (x :: ·)) else if b.toNat < 32 ∨ b = 34 then none else (unqI r).map (b :: ·) := by
  cases r with
  | nil => simp only [unqI]; rfl
  | cons c t => simp only [unqI]

section
variable {P : Program}

theorem Has.unquote3 {f} (h : Has P f irR3Unquote) (s : Bs) (hl : s.length ≤ 1048576) (H : Hp) : ACall P f [.d (.str s)] H (fun r H' => r = unqR (unqV s) ∧ H' = H) := by
  obtain ⟨fn, hf, hcf⟩ := h
  refine acall_fin hf hcf (by simp [irR3Unquote]) fun hcl _ => ?_
  by_cases h1 : s.length < 2
  case pos =>
    have h1' : (s.length : Int) < 2 := by omega
    simp [irR3Unquote, h1']
    simp [RetK, cut_self hcl, unqV, unqR, h1]
  have h1' : ¬ (s.length : Int) < 2 := by omega
  obtain ⟨b0, hb0⟩ : ∃ b, byteAt s 0 = some b := ⟨s[0], by simp [byteAt]⟩
  obtain ⟨b1, hb1⟩ : ∃ b, byteAt s ((s.length : Int) - 1) = some b := by
    refine ⟨s[s.length - 1], ?_⟩
    have e : ((s.length : Int) - 1) = ((s.length - 1 : Nat) : Int) := by omega
    rw [e, byteAt_nat, List.getElem?_eq_getElem]
  have hh : s.head? = some b0 := by
    cases s with
    | nil => simp at h1
    | cons a r => simpa [byteAt] using hb0
  have hg : s.getLast? = some b1 := by
    have e : ((s.length : Int) - 1) = ((s.length - 1 : Nat) : Int) := by omega
    rw [List.getLast?_eq_getElem?, ← byteAt_nat, ← e]
    exact hb1
  have hwm : IntKind.i64.wrap ((s.length : Int) - 1) = s.length - 1 := wrap_i64 (by omega) (by omega)
  have byte34 : ∀ b : UInt8, ((b.toNat : Int) = 34) ↔ b = 34 := fun b => byte_eq b 34
  by_cases h2 : b0 = 34
  case neg =>
    have h2' : ¬ ((b0.toNat : Int) = 34) := fun e => h2 ((byte34 _).1 e)
    simp [irR3Unquote, h1', hb0, h2']
    simp [RetK, cut_self hcl, unqV, unqR, hh, h2]
  by_cases h3 : b1 = 34
  case neg =>
    have h3' : ¬ ((b1.toNat : Int) = 34) := fun e => h3 ((byte34 _).1 e)
    simp [irR3Unquote, h1', hb0, h2, hwm, hb1, h3']
    simp [RetK, cut_self hcl, unqV, unqR, hg, h3]
  subst h2; subst h3
  have hU : unqV s = unqI ((s.drop 1).take (s.length - 2)) := by simp [unqV, h1, hh, hg]
  have hsub : subL s 1 ((s.length : Int) - 1) = some ((s.drop 1).take (s.length - 2)) := by
    have := sub_ok (s := s) (n := 1) (w := s.length - 2) (by omega)
    rw [← this]; congr 1; omega
  have hIl : ((s.drop 1).take (s.length - 2)).length ≤ 1048576 := by simp; omega
  rw [hU]
  generalize (s.drop 1).take (s.length - 2) = I at hIl hsub ⊢
  simp [irR3Unquote, h1', hb0, hwm, hb1, hsub]
  clear hsub hU hb0 hb1 hh hg hwm
  refine LoopK_outR 0 (fun fr H' => ∃ x, unqI I = some x ∧ fr 5 = .d (.str x) ∧ H' = H) (fun fr H' => fr 2 = .d (.str []) ∧ fr 3 = .d (.int .i64 22) ∧ unqI I = none ∧ H' = H) ?_ ?_ ?_
  · refine LoopM_of H.length (fun d fr H' => ∃ (x J : Bs), d = J.length ∧ x.length + J.length ≤ 1048576 ∧ unqI I = (unqI J).map (x ++ ·) ∧ fr 5 = .d (.str x) ∧ fr 6 = .d (.str J) ∧ H' = H) I.length (by simp) ⟨[], I, rfl, by simpa using hIl, by simp, ?_⟩ ?_
    · simp [cut_self hcl]
    rintro d fr H' ⟨x, J, rfl, hJl, hq, f5, f6, rfl⟩
    cases J with
    | nil =>
      simp [f6]
      simp [f5, hq, unqI]
    | cons b r =>
      have hpos : (0 : Int) < (r.length : Int) + 1 := by omega
      have hb : byteAt (b :: r) 0 = some b := by simp [byteAt]
      rw [unqI_cons] at hq
      simp only [List.length_cons] at hJl
      simp [f6, hb, hpos]
      have s1 : subL (b :: r) 0 1 = some [b] := by simp [subL]; omega
      have s2 : subL (b :: r) 1 ((b :: r).length : Int) = some r := by
        have := sub_end (s := b :: r) (n := 1) (by simp only [List.length_cons]; omega)
        simpa using this
      simp only [List.length_cons, Int.natCast_add, Int.natCast_one] at s2
      by_cases h92 : b = 92
      · subst h92
        rw [if_pos rfl] at hq
        cases r with
        | nil =>
          simp only at hq
          simp [f5, f6]
          simpa using hq
        | cons c t =>
          have hb1 : byteAt (92 :: c :: t) 1 = some c := by simp [byteAt]
          have s3 : subL (92 :: c :: t) 2 ((t.length : Int) + 1 + 1) = some t := by
            have := sub_end (s := 92 :: c :: t) (n := 2) (by simp only [List.length_cons]; omega)
            simpa using this
          have hlen : ¬ ((t.length : Int) + 1 + 1 < 2) := by omega
          simp only [List.length_cons] at hJl
          simp only at hq
          have put : ∀ y : UInt8, unesc c = some y → unqI I = (unqI t).map ((x ++ [y]) ++ ·) := fun y hy => by
            rw [hq, hy]; simp [Function.comp_def]
          have add : ∀ y : UInt8, strOp .add x [y] = some (.str (x ++ [y])) := fun y => strOp_add' (by simp; omega)
          have hcb : ∀ y : UInt8, ((c.toNat : Int) = (y.toNat : Int)) ↔ c = y := byte_eq c
          simp [f5, f6, hb1, hlen]
          by_cases c110 : c = 110
          · subst c110
            simp [f5, f6, s3, add, -strOp]
            refine NextM_of H'.length t.length (Nat.le_refl _) (by simp) (by omega) ⟨x ++ [10], t, rfl, by simp; omega, put 10 (by decide), ?_⟩
            simp [cut_self hcl]
          have n110 : ¬ ((c.toNat : Int) = 110) := fun e => c110 ((hcb 110).1 e)
          by_cases c116 : c = 116
          · subst c116
            simp [f5, f6, s3, add, -strOp]
            refine NextM_of H'.length t.length (Nat.le_refl _) (by simp) (by omega) ⟨x ++ [9], t, rfl, by simp; omega, put 9 (by decide), ?_⟩
            simp [cut_self hcl]
          have n116 : ¬ ((c.toNat : Int) = 116) := fun e => c116 ((hcb 116).1 e)
          by_cases c34 : c = 34
          · subst c34
            simp [f5, f6, s3, add, -strOp]
            refine NextM_of H'.length t.length (Nat.le_refl _) (by simp) (by omega) ⟨x ++ [34], t, rfl, by simp; omega, put 34 (by decide), ?_⟩
            simp [cut_self hcl]
          have n34 : ¬ ((c.toNat : Int) = 34) := fun e => c34 ((hcb 34).1 e)
          by_cases c92 : c = 92
          · subst c92
            simp [f5, f6, s3, add, -strOp]
            refine NextM_of H'.length t.length (Nat.le_refl _) (by simp) (by omega) ⟨x ++ [92], t, rfl, by simp; omega, put 92 (by decide), ?_⟩
            simp [cut_self hcl]
          have n92 : ¬ ((c.toNat : Int) = 92) := fun e => c92 ((hcb 92).1 e)
          have hnone : unesc c = none := by simp [unesc, c110, c116, c34, c92]
          rw [hnone] at hq
          simp [n110, n116, n34, n92]
          simpa using hq
      · rw [if_neg h92] at hq
        have n92 : ¬ ((b.toNat : Int) = 92) := fun e => h92 ((byte_eq b 92).1 e)
        by_cases hlo : b.toNat < 32
        · have hlo' : (b.toNat : Int) < 32 := by omega
          rw [if_pos (.inl hlo)] at hq
          simp [hlo']
          simpa using hq
        have hlo' : ¬ (b.toNat : Int) < 32 := by omega
        by_cases h34 : b = 34
        · subst h34
          rw [if_pos (.inr rfl)] at hq
          simp
          simpa using hq
        have n34 : ¬ ((b.toNat : Int) = 34) := fun e => h34 ((byte_eq b 34).1 e)
        rw [if_neg (by simp [hlo, h34])] at hq
        have add : strOp .add x [b] = some (.str (x ++ [b])) := strOp_add' (by simp; omega)
        simp [hlo', n34, n92, f5, f6, s1, s2, add, -strOp]
        refine NextM_of H'.length r.length (Nat.le_refl _) (by simp) (by simp) ⟨x ++ [b], r, rfl, by simp; omega, ?_, ?_⟩
        · rw [hq]; simp [Function.comp_def]
        · simp [cut_self hcl]
  · rintro fr H' ⟨f2, f3, hn, rfl⟩
    simp
    simp [RetK, cut_self hcl, f2, f3, hn, unqR]
  · rintro fr H' ⟨x, hx, f5, rfl⟩
    simp [f5]
    simp [RetK, cut_self hcl, hx, unqR]

theorem Has.lead4 {f} (h : Has P f irR4Lead) (s : Bs) (n : Nat) (hn : n ≤ s.length) (hl : s.length ≤ 1048576) (H : Hp) : ACall P f [.d (.str s), .d (.int .i64 (n : Int))] H (fun r H' => r = .d (.int .i64 ((n + leadS false (s.drop n) : Nat) : Int)) ∧ H' = H) := by
  obtain ⟨fn, hf, hcf⟩ := h
  refine acall_fin hf hcf (by simp [irR4Lead]) fun hcl _ => ?_
  have hL := lead_le false (s.drop n)
  simp only [List.length_drop] at hL
  generalize hLL : leadS false (s.drop n) = L at hL ⊢
  simp [irR4Lead]
  refine LoopK_outR 0 (fun fr H' => fr 1 = .d (.int .i64 ((n + L : Nat) : Int)) ∧ H' = H) (fun fr H' => fr 4 = .d (.int .i64 ((n + L : Nat) : Int)) ∧ H' = H) ?_ ?_ ?_
  · refine LoopM_of H.length (fun d fr H' => ∃ p : Nat, d = s.length - p ∧ p ≤ s.length ∧ p + leadS false (s.drop p) = n + L ∧ fr 0 = .d (.str s) ∧ fr 1 = .d (.int .i64 (p : Int)) ∧ H' = H) (s.length - n) (by simp) ⟨n, rfl, hn, by rw [hLL], ?_⟩ ?_
    · simp [cut_self hcl]
    rintro d fr H' ⟨p, rfl, hp, hq, f0, f1, rfl⟩
    cases hd : s.drop p with
    | nil =>
      have hpl : p = s.length := by have := List.drop_eq_nil_iff.1 hd; omega
      rw [hd] at hq
      simp only [leadS, Nat.add_zero] at hq
      have hn' : ¬ ((p : Int) < s.length) := by omega
      simp [f0, f1, hn']
      omega
    | cons b r =>
      obtain ⟨hb, hlt⟩ := byteAt_drop hd
      have hdr : s.drop (p + 1) = r := by rw [← List.drop_drop, hd]; rfl
      have hlt' : (p : Int) < s.length := by omega
      have hw : IntKind.i64.wrap ((p : Int) + 1) = ((p + 1 : Nat) : Int) := by rw [wrap_i64 (by omega) (by omega)]; omega
      simp [f0, f1, hlt', hb]
      cases hB : blankB b with
      | true =>
        have hq' : leadS false (s.drop p) = leadS false r + 1 := by rw [hd, leadS, if_pos hB]
        have hbl := hB
        unfold blankB at hbl
        generalize ha : decide ((b.toNat : Int) = 32) = a at hbl ⊢
        generalize hc : decide ((b.toNat : Int) = 9) = c at hbl ⊢
        generalize he : decide ((b.toNat : Int) = 10) = e at hbl ⊢
        generalize hg : decide ((b.toNat : Int) = 13) = g at hbl ⊢
        cases a <;> cases c <;> cases e <;> cases g <;> simp at hbl <;> simp [f0, f1, hb, ha, hc, he, hg, hw] <;>
          (refine NextM_of H'.length (s.length - (p + 1)) (Nat.le_refl _) (by simp) (by omega) ⟨p + 1, rfl, by omega, by rw [hdr]; omega, ?_⟩; simp [f0, cut_self hcl])
      | false =>
        have hbl := hB
        unfold blankB at hbl
        simp only [Bool.or_eq_false_iff] at hbl
        obtain ⟨⟨⟨a1, a2⟩, a3⟩, a4⟩ := hbl
        simp [f0, f1, hb, a1, a2, a3, a4]
        by_cases h35 : (b.toNat : Int) = 35
        · have hhb : moreB hashB (s.drop p) = true := by rw [hd]; simp [moreB, hashB, h35]
          obtain ⟨hc, hc1⟩ := lead_hash hhb
          have hstep := runN_step noNlB (s.drop p)
          have hW := runN_le noNlB (s.drop p)
          simp only [drop_add', List.length_drop] at hW hstep hc
          generalize runN noNlB (s.drop p) = wc at hc hc1 hstep hW
          simp [h35, f0, f1]
          refine LoopK_out 2 (fun fr H'' => fr 0 = .d (.str s) ∧ fr 1 = .d (.int .i64 ((p + wc : Nat) : Int)) ∧ H'' = H') ?_ ?_
          · refine LoopM_of H'.length (fun d fr H'' => ∃ q, d = wc - q ∧ q ≤ wc ∧ fr 0 = .d (.str s) ∧ fr 1 = .d (.int .i64 ((p + q : Nat) : Int)) ∧ H'' = H') wc (by simp) ⟨0, ?_⟩ ?_
            · simp [f0, f1, cut_self hcl]
            rintro d fr H'' ⟨q, rfl, hqq, f0, f1, rfl⟩
            have hm := hstep q hqq
            have hwq : IntKind.i64.wrap ((p : Int) + q + 1) = ((p + (q + 1) : Nat) : Int) := by rw [wrap_i64 (by omega) (by omega)]; omega
            simp only [Int.natCast_add] at f1
            cases hd2 : s.drop (p + q) with
            | nil =>
              have h0 : p + q = s.length := by have := List.drop_eq_nil_iff.1 hd2; omega
              have h0' : ¬ ((p : Int) + q < s.length) := by omega
              rw [hd2] at hm
              simp [moreB] at hm
              have : q = wc := by omega
              subst this
              simp [f0, f1, h0']
            | cons c t =>
              obtain ⟨hb2, hlt2⟩ := byteAt_drop hd2
              have hlt2' : (p : Int) + q < s.length := by omega
              rw [hd2] at hm
              simp only [moreB, noNlB] at hm
              simp only [Int.natCast_add] at hb2
              by_cases h10 : (c.toNat : Int) = 10
              · have : q = wc := by
                  simp [h10] at hm
                  omega
                subst this
                simp [f0, f1, hlt2', hb2, h10]
              · have hql : q < wc := by simpa [h10] using hm
                simp [f0, f1, hlt2', hb2, h10, hwq]
                refine NextM_of H''.length (wc - (q + 1)) (Nat.le_refl _) (by simp) (by omega) ⟨q + 1, rfl, by omega, ?_⟩
                simp [f0, cut_self hcl]
          rintro fr H'' ⟨f0, f1, rfl⟩
          simp
          refine NextM_of H''.length (s.length - (p + wc)) (Nat.le_refl _) (by simp) (by omega) ⟨p + wc, rfl, by omega, by omega, ?_⟩
          simp [f0, f1, cut_self hcl]
        · have hhb : hashB b = false := by simp [hashB, h35]
          have h0 : leadS false (s.drop p) = 0 := by rw [hd, leadS, hB, hhb]; rfl
          simp [h35, f1]
          omega
  · rintro fr H' ⟨f4, rfl⟩
    simp
    simp [RetK, cut_self hcl, f4]
  · rintro fr H' ⟨f1, rfl⟩
    simp [f1]
    simp [RetK, cut_self hcl]

end
end Go.Zam

namespace Go.Zam
set_option linter.all false
set_option maxRecDepth 100000
set_option maxHeartbeats 2000000

theorem letter_ne {b : UInt8} (h : letterB b = true) : blankB b = false ∧ hashB b = false ∧ digitB b = false ∧ b.toNat < 128 := by
  simp only [letterB, Bool.or_eq_true, Bool.and_eq_true, decide_eq_true_eq] at h
  refine ⟨?_, ?_, ?_, ?_⟩
  · simp only [blankB, Bool.or_eq_false_iff, decide_eq_false_iff_not]; omega
  · simp only [hashB, decide_eq_false_iff_not]; omega
  · simp only [digitB, Bool.and_eq_false_iff, decide_eq_false_iff_not]; omega
  · omega
theorem digit_ne {b : UInt8} (h : digitB b = true) : blankB b = false ∧ hashB b = false ∧ letterB b = false ∧ b.toNat < 128 := by
  simp only [digitB, Bool.and_eq_true, decide_eq_true_eq] at h
  refine ⟨?_, ?_, ?_, ?_⟩
  · simp only [blankB, Bool.or_eq_false_iff, decide_eq_false_iff_not]; omega
  · simp only [hashB, decide_eq_false_iff_not]; omega
  · simp only [letterB, Bool.or_eq_false_iff, Bool.and_eq_false_iff, decide_eq_false_iff_not]; omega
  · omega
theorem word_ascii {b : UInt8} (h : wordB b = true) : b.toNat < 128 := by
  simp only [wordB, Bool.or_eq_true] at h
  rcases h with h | h
  · exact (letter_ne h).2.2.2
  · exact (digit_ne h).2.2.2

/-- what may come behind a token: nothing, what came, or what ends all tokens -/
def Sep (rest r' : Bs) : Prop := r' = [] ∨ ∃ b t, r' = b :: t ∧ ((∃ u, rest = b :: u) ∨ (wordB b = false ∧ b ≠ 61))

theorem runN_split (p : UInt8 → Bool) (s r' : Bs) (h : r' = [] ∨ ∃ b t, r' = b :: t ∧ p b = false) : runN p (s.take (runN p s) ++ r') = runN p s := by
  have hr : ∀ r' : Bs, (r' = [] ∨ ∃ b t, r' = b :: t ∧ p b = false) → runN p r' = 0 := by
    rintro r' (rfl | ⟨b, t, rfl, hb⟩)
    · rfl
    · simp [runN, hb]
  induction s with
  | nil => exact hr r' h
  | cons b s ih =>
    cases hb : p b with
    | false =>
      have e : runN p (b :: s) = 0 := by simp [runN, hb]
      rw [e]
      simpa using hr r' h
    | true =>
      have e : runN p (b :: s) = runN p s + 1 := by simp [runN, hb]
      rw [e, List.take_succ_cons, List.cons_append]
      have e2 : runN p (b :: (s.take (runN p s) ++ r')) = runN p (s.take (runN p s) ++ r') + 1 := by simp [runN, hb]
      rw [e2, ih]

theorem runN_rest (p : UInt8 → Bool) : ∀ (s : Bs), s.drop (runN p s) = [] ∨ ∃ b t, s.drop (runN p s) = b :: t ∧ p b = false
  | [] => .inl (by simp [runN])
  | b :: s => by
    cases hb : p b with
    | false => exact .inr ⟨b, s, by simp [runN, hb], hb⟩
    | true =>
      have e : runN p (b :: s) = runN p s + 1 := by simp [runN, hb]
      rw [e, List.drop_succ_cons]
      exact runN_rest p s

theorem strS_app : ∀ {s : Bs} {k : Nat}, strS s = some k → ∀ r', strS (s.take k ++ r') = some k
  | [], k, h, r' => by simp [strS] at h
  | [b], k, h, r' => by
    simp only [strS] at h
    split at h
    · rename_i hb
      cases h
      subst hb
      cases r' <;> simp [strS]
    · cases h
  | b :: c :: r, k, h, r' => by
    simp only [strS] at h
    split at h
    · rename_i hb
      cases h
      subst hb
      cases r' <;> simp [strS]
    rename_i hb
    split at h
    · rename_i h92
      cases e : strS r with
      | none => simp [e] at h
      | some q =>
        have i := strS_app e r'
        simp [e] at h
        subst h
        have : (b :: c :: r).take (q + 2) ++ r' = b :: c :: (r.take q ++ r') := rfl
        rw [this, strS, if_neg hb, if_pos h92, i]; rfl
    rename_i h92
    split at h
    · cases h
    · rename_i h10
      cases e : strS (c :: r) with
      | none => simp [e] at h
      | some q =>
        have i := strS_app e r'
        have hq := strS_le e
        simp [e] at h
        subst h
        obtain ⟨q', rfl⟩ : ∃ q', q = q' + 1 := ⟨q - 1, by omega⟩
        have e2 : (b :: c :: r).take (q' + 1 + 1) ++ r' = b :: c :: (r.take q' ++ r') := rfl
        have e3 : (c :: r).take (q' + 1) ++ r' = c :: (r.take q' ++ r') := rfl
        rw [e3] at i
        rw [e2, strS, if_neg hb, if_neg h92, if_neg h10, i]; rfl

theorem strV_app {s : Bs} (hs : s ≠ []) (h : (strV s).2 = 0) (r' : Bs) : strV (s.take (strV s).1.length ++ r') = strV s := by
  cases s with
  | nil => exact absurd rfl hs
  | cons b s =>
  unfold strV at h ⊢
  simp only [List.drop_succ_cons, List.drop_zero] at h ⊢
  cases e : strS s with
  | none => rw [e] at h; simp at h
  | some k =>
    have hk := strS_le e
    rw [e] at h
    simp only at h ⊢
    have hlen : ((b :: s).take (k + 1)).length = k + 1 := by simp; omega
    rw [hlen, List.take_succ_cons, List.cons_append, List.drop_succ_cons, List.drop_zero, strS_app e r']
    simp only
    have e2 : (b :: (s.take k ++ r')).take (k + 1) = b :: s.take k := by
      rw [List.take_succ_cons, List.take_append_of_le_length (by simp; omega), List.take_take, Nat.min_self]
    rw [e2]

/-- the sign that a text begins with, by its first two bytes -/
theorem signV_two : ∀ (s : Bs), signV s = match s with
    | [] => []
    | [b] => if b ∈ ([40, 41, 123, 125, 44, 59, 58, 46, 61, 43, 45, 42, 60] : List UInt8) then [b] else []
    | b :: c :: _ => if b = 61 ∧ c = 61 then [61, 61] else if b ∈ ([40, 41, 123, 125, 44, 59, 58, 46, 61, 43, 45, 42, 60] : List UInt8) then [b] else [] := by
  intro s
  match s with
  | [] => rfl
  | [b] =>
    simp only [signV, signsT, List.find?, List.isPrefixOf]
    by_cases h : b ∈ ([40, 41, 123, 125, 44, 59, 58, 46, 61, 43, 45, 42, 60] : List UInt8)
    · simp only [List.mem_cons, List.not_mem_nil, or_false] at h
      rcases h with rfl | rfl | rfl | rfl | rfl | rfl | rfl | rfl | rfl | rfl | rfl | rfl | rfl <;> rfl
    · simp only [List.mem_cons, List.not_mem_nil, or_false, not_or] at h
      obtain ⟨h1, h2, h3, h4, h5, h6, h7, h8, h9, h10, h11, h12, h13⟩ := h
      have g : ∀ x : UInt8, b ≠ x → (x == b) = false := fun x h => by simpa using Ne.symm h
      simp [g _ h1, g _ h2, g _ h3, g _ h4, g _ h5, g _ h6, g _ h7, g _ h8, g _ h9, g _ h10, g _ h11, g _ h12, g _ h13, h1, h2, h3, h4, h5, h6, h7, h8, h9, h10, h11, h12, h13]
  | b :: c :: r =>
    simp only [signV, signsT, List.find?, List.isPrefixOf]
    by_cases h : b ∈ ([40, 41, 123, 125, 44, 59, 58, 46, 61, 43, 45, 42, 60] : List UInt8)
    · by_cases hc : c = 61
      · subst hc
        simp only [List.mem_cons, List.not_mem_nil, or_false] at h
        rcases h with rfl | rfl | rfl | rfl | rfl | rfl | rfl | rfl | rfl | rfl | rfl | rfl | rfl <;> rfl
      · have gc : ((61 : UInt8) == c) = false := by simpa using Ne.symm hc
        simp only [List.mem_cons, List.not_mem_nil, or_false] at h
        rcases h with rfl | rfl | rfl | rfl | rfl | rfl | rfl | rfl | rfl | rfl | rfl | rfl | rfl <;> simp [gc, hc]
    · simp only [List.mem_cons, List.not_mem_nil, or_false, not_or] at h
      obtain ⟨h1, h2, h3, h4, h5, h6, h7, h8, h9, h10, h11, h12, h13⟩ := h
      have g : ∀ x : UInt8, b ≠ x → (x == b) = false := fun x h => by simpa using Ne.symm h
      simp [g _ h1, g _ h2, g _ h3, g _ h4, g _ h5, g _ h6, g _ h7, g _ h8, g _ h9, g _ h10, g _ h11, g _ h12, g _ h13, h1, h2, h3, h4, h5, h6, h7, h8, h9, h10, h11, h12, h13]

theorem signV_1 (b : UInt8) : signV [b] = if b ∈ ([40, 41, 123, 125, 44, 59, 58, 46, 61, 43, 45, 42, 60] : List UInt8) then [b] else [] := signV_two [b]
theorem signV_cc (b c : UInt8) (r : Bs) : signV (b :: c :: r) = if b = 61 ∧ c = 61 then [61, 61] else if b ∈ ([40, 41, 123, 125, 44, 59, 58, 46, 61, 43, 45, 42, 60] : List UInt8) then [b] else [] := signV_two (b :: c :: r)

theorem signV_app {s : Bs} (h : signV s ≠ []) {r' : Bs} (hr : Sep (s.drop (signV s).length) r') : signV (s.take (signV s).length ++ r') = signV s := by
  match s with
  | [] => exact absurd rfl h
  | [b] =>
    rw [signV_1] at h hr ⊢
    by_cases hb : b ∈ ([40, 41, 123, 125, 44, 59, 58, 46, 61, 43, 45, 42, 60] : List UInt8)
    · rw [if_pos hb] at hr ⊢
      simp only [List.length_cons, List.length_nil, List.take_succ_cons, List.take_zero, List.cons_append, List.nil_append, List.drop_succ_cons, List.drop_zero, Nat.zero_add] at hr ⊢
      rcases hr with rfl | ⟨d, t, rfl, ⟨u, hu⟩ | ⟨h1, h2⟩⟩
      · rw [signV_1, if_pos hb]
      · cases hu
      · rw [signV_cc, if_neg (fun q => h2 q.2), if_pos hb]
    · rw [if_neg hb] at h; exact absurd rfl h
  | b :: c :: r =>
    rw [signV_cc] at h hr ⊢
    by_cases h2 : b = 61 ∧ c = 61
    · obtain ⟨rfl, rfl⟩ := h2
      rw [if_pos ⟨rfl, rfl⟩]
      show signV (61 :: 61 :: ([] ++ r')) = _
      rw [signV_cc]; rfl
    · rw [if_neg h2] at h hr ⊢
      by_cases hb : b ∈ ([40, 41, 123, 125, 44, 59, 58, 46, 61, 43, 45, 42, 60] : List UInt8)
      · rw [if_pos hb] at hr ⊢
        simp only [List.length_cons, List.length_nil, List.take_succ_cons, List.take_zero, List.cons_append, List.nil_append, List.drop_succ_cons, List.drop_zero, Nat.zero_add] at hr ⊢
        rcases hr with rfl | ⟨d, t, rfl, ⟨u, hu⟩ | ⟨h3, h4⟩⟩
        · rw [signV_1, if_pos hb]
        · cases hu
          rw [signV_cc, if_neg h2, if_pos hb]
        · rw [signV_cc, if_neg (fun q => h4 q.2), if_pos hb]
      · rw [if_neg hb] at h; exact absurd rfl h

end Go.Zam

namespace Go.Zam
set_option linter.all false
set_option maxRecDepth 100000
set_option maxHeartbeats 2000000

theorem tokN_cons (b : UInt8) (r : Bs) : tokN (b :: r) = if letterB b then
      if (b :: r).take (runN wordB (b :: r)) ∈ keysL then (0, 2, runN wordB (b :: r)) else if 40 < runN wordB (b :: r) then (26, 0, 0) else (0, 1, runN wordB (b :: r))
    else if digitB b then
      if numOk ((b :: r).take (runN wordB (b :: r))) then (0, 3, runN wordB (b :: r)) else (23, 0, 0)
    else if b = 34 then
      if (strV (b :: r)).2 = 0 then (0, 4, (strV (b :: r)).1.length) else (22, 0, 0)
    else if signV (b :: r) = [] then (21, 0, 0) else (0, 5, (signV (b :: r)).length) := rfl

theorem take_app_take (s r' : Bs) (m : Nat) (h : m ≤ s.length) : (s.take m ++ r').take m = s.take m := by
  rw [List.take_append_of_le_length (by simp; omega), List.take_take, Nat.min_self]

/-- a token stays what it is -/
theorem tok_loc {s : Bs} (hs : s ≠ []) (h0 : (tokN s).1 = 0) {r' : Bs} (hr : Sep (s.drop (tokN s).2.2) r') : tokN (s.take (tokN s).2.2 ++ r') = tokN s := by
  cases s with
  | nil => exact absurd rfl hs
  | cons b r =>
  have hm := (tokN_len (b :: r)).2.2.1 h0 hs
  have hml := (tokN_len (b :: r)).1
  have hS : ∀ m, 1 ≤ m → ∃ t, (b :: r).take m ++ r' = b :: t := fun m hm => by
    obtain ⟨m', rfl⟩ : ∃ m', m = m' + 1 := ⟨m - 1, by omega⟩
    exact ⟨r.take m' ++ r', rfl⟩
  have hword : runN wordB (b :: r) = (tokN (b :: r)).2.2 → runN wordB ((b :: r).take (tokN (b :: r)).2.2 ++ r') = (tokN (b :: r)).2.2 := fun e => by
    rw [← e] at hr ⊢
    refine runN_split wordB (b :: r) r' ?_
    rcases hr with rfl | ⟨d, t, rfl, ⟨u, hu⟩ | ⟨h1, h2⟩⟩
    · exact .inl rfl
    · rcases runN_rest wordB (b :: r) with h | ⟨d', t', h, hd⟩
      · rw [h] at hu; cases hu
      · rw [h] at hu; cases hu
        exact .inr ⟨_, t, rfl, hd⟩
    · exact .inr ⟨d, t, rfl, h1⟩
  have hT := tokN_cons b r
  obtain ⟨t, ht⟩ := hS _ hm
  have hT' := tokN_cons b t
  rw [← ht] at hT'
  have htk := take_app_take (b :: r) r' _ hml
  by_cases c1 : letterB b = true
  · rw [if_pos c1] at hT hT'
    have e : runN wordB (b :: r) = (tokN (b :: r)).2.2 := by
      rw [hT] at h0 ⊢
      split at h0
      · rename_i h; rw [if_pos h]
      · rename_i h; rw [if_neg h]; split at h0
        · cases h0
        · rename_i h'; rw [if_neg h']
    have hw := hword e
    rw [hT', hw, htk]
    rw [e] at hT
    exact hT.symm
  rw [if_neg c1] at hT hT'
  by_cases c2 : digitB b = true
  · rw [if_pos c2] at hT hT'
    have e : runN wordB (b :: r) = (tokN (b :: r)).2.2 := by
      rw [hT] at h0 ⊢
      split at h0
      · rename_i h; rw [if_pos h]
      · cases h0
    have hw := hword e
    rw [hT', hw, htk]
    rw [e] at hT
    exact hT.symm
  rw [if_neg c2] at hT hT'
  by_cases c3 : b = 34
  · rw [if_pos c3] at hT hT'
    by_cases c4 : (strV (b :: r)).2 = 0
    · rw [if_pos c4] at hT
      have e : (tokN (b :: r)).2.2 = (strV (b :: r)).1.length := by rw [hT]
      have := strV_app (by simp) c4 r'
      rw [← e] at this
      rw [hT', this, if_pos c4, hT]
    · rw [if_neg c4] at hT
      rw [hT] at h0; cases h0
  rw [if_neg c3] at hT hT'
  by_cases c4 : signV (b :: r) = []
  · rw [if_pos c4] at hT
    rw [hT] at h0; cases h0
  · rw [if_neg c4] at hT
    have e : (tokN (b :: r)).2.2 = (signV (b :: r)).length := by rw [hT]
    have := signV_app c4 (r' := r') (by rw [← e]; exact hr)
    rw [← e] at this
    rw [hT', this, if_neg c4, hT]

theorem lead_app : ∀ (c : Bool) (s : Bs) {b : UInt8} {u : Bs}, s.drop (leadS c s) = b :: u → blankB b = false ∧ hashB b = false ∧ ∀ r' : Bs, moreB blankB r' = false → moreB hashB r' = false → leadS c (s.take (leadS c s) ++ r') = leadS c s
  | c, [], b, u, h => by cases c <;> simp at h
  | false, x :: s, b, u, h => by
    rw [leadS] at h ⊢
    by_cases h1 : blankB x = true
    · rw [if_pos h1] at h ⊢
      rw [List.drop_succ_cons] at h
      obtain ⟨i1, i2, i3⟩ := lead_app false s h
      refine ⟨i1, i2, fun r' q1 q2 => ?_⟩
      rw [List.take_succ_cons, List.cons_append, leadS, if_pos h1, i3 r' q1 q2]
    rw [if_neg h1] at h ⊢
    by_cases h2 : hashB x = true
    · rw [if_pos h2] at h ⊢
      rw [List.drop_succ_cons] at h
      obtain ⟨i1, i2, i3⟩ := lead_app true s h
      refine ⟨i1, i2, fun r' q1 q2 => ?_⟩
      rw [List.take_succ_cons, List.cons_append, leadS, if_neg h1, if_pos h2, i3 r' q1 q2]
    rw [if_neg h2] at h ⊢
    cases h
    exact ⟨by simpa using h1, by simpa using h2, fun r' q1 q2 => lead_none q1 q2⟩
  | true, x :: s, b, u, h => by
    rw [leadS] at h ⊢
    by_cases h1 : noNlB x = true
    · rw [if_pos h1] at h ⊢
      rw [List.drop_succ_cons] at h
      obtain ⟨i1, i2, i3⟩ := lead_app true s h
      refine ⟨i1, i2, fun r' q1 q2 => ?_⟩
      rw [List.take_succ_cons, List.cons_append, leadS, if_pos h1, i3 r' q1 q2]
    · rw [if_neg h1] at h ⊢
      rw [List.drop_succ_cons] at h
      obtain ⟨i1, i2, i3⟩ := lead_app false s h
      refine ⟨i1, i2, fun r' q1 q2 => ?_⟩
      rw [List.take_succ_cons, List.cons_append, leadS, if_neg h1, i3 r' q1 q2]

theorem lead_end (t : Bs) : ∀ (c : Bool) (s : Bs), s.drop (leadS c s) = [] → leadS c (s ++ 10 :: t) = s.length + 1 + leadS false t
  | false, [], _ => by
    have : blankB 10 = true := by decide
    simp [leadS, this]; omega
  | true, [], _ => by
    have : noNlB 10 = false := by decide
    simp [leadS, this]; omega
  | false, x :: s, h => by
    rw [leadS] at h
    by_cases h1 : blankB x = true
    · rw [if_pos h1, List.drop_succ_cons] at h
      rw [List.cons_append, leadS, if_pos h1, lead_end t false s h]; simp; omega
    rw [if_neg h1] at h
    by_cases h2 : hashB x = true
    · rw [if_pos h2, List.drop_succ_cons] at h
      rw [List.cons_append, leadS, if_neg h1, if_pos h2, lead_end t true s h]; simp; omega
    rw [if_neg h2] at h
    cases h
  | true, x :: s, h => by
    rw [leadS] at h
    by_cases h1 : noNlB x = true
    · rw [if_pos h1, List.drop_succ_cons] at h
      rw [List.cons_append, leadS, if_pos h1, lead_end t true s h]; simp; omega
    · rw [if_neg h1, List.drop_succ_cons] at h
      rw [List.cons_append, leadS, if_neg h1, lead_end t false s h]; simp; omega

/-- one token more, whatever follows -/
theorem Toks.more {s : Bs} {n : Nat} {r' : Bs} {l : List Tk} (h : (tokN (s.drop (leadS false s))).1 = 0) (h0 : s.drop (leadS false s) ≠ []) (hr : Sep ((s.drop (leadS false s)).drop (tokN (s.drop (leadS false s))).2.2) r')
    (hl : Toks r' (n + leadS false s + (tokN (s.drop (leadS false s))).2.2) l) :
    Toks (s.take (leadS false s) ++ ((s.drop (leadS false s)).take (tokN (s.drop (leadS false s))).2.2 ++ r')) n (⟨(tokN (s.drop (leadS false s))).2.1, n + leadS false s, s.take (leadS false s), (s.drop (leadS false s)).take (tokN (s.drop (leadS false s))).2.2⟩ :: l) := by
  have hloc := tok_loc h0 h hr
  obtain ⟨m1, m2, m3, m4⟩ := tokN_len (s.drop (leadS false s))
  have hm := m3 h h0
  have hll := lead_le false s
  obtain ⟨b, u, hbu⟩ : ∃ b u, s.drop (leadS false s) = b :: u := by
    cases e : s.drop (leadS false s) with
    | nil => exact absurd e h0
    | cons b u => exact ⟨b, u, rfl⟩
  obtain ⟨g1, g2, g3⟩ := lead_app false s hbu
  have hlen : (s.take (leadS false s)).length = leadS false s := by simp; omega
  have hxl : ((s.drop (leadS false s)).take (tokN (s.drop (leadS false s))).2.2).length = (tokN (s.drop (leadS false s))).2.2 := by simp only [List.length_take]; omega
  have hL := g3 ((s.drop (leadS false s)).take (tokN (s.drop (leadS false s))).2.2 ++ r') (by
      rw [hbu] at hm ⊢
      obtain ⟨m', e⟩ : ∃ m', (tokN (b :: u)).2.2 = m' + 1 := ⟨(tokN (b :: u)).2.2 - 1, by omega⟩
      rw [e]; exact g1) (by
      rw [hbu] at hm ⊢
      obtain ⟨m', e⟩ : ∃ m', (tokN (b :: u)).2.2 = m' + 1 := ⟨(tokN (b :: u)).2.2 - 1, by omega⟩
      rw [e]; exact g2)
  generalize hX : (s.drop (leadS false s)).take (tokN (s.drop (leadS false s))).2.2 = X at *
  generalize hD : s.take (leadS false s) = D at *
  generalize leadS false s = L at *
  have e1 : (D ++ (X ++ r')).drop L = X ++ r' := by rw [← hlen, List.drop_left]
  have e2 : (D ++ (X ++ r')).take L = D := by rw [← hlen, List.take_left]
  generalize hTT : tokN (s.drop L) = T at *
  have e3 : (X ++ r').drop T.2.2 = r' := by rw [← hxl, List.drop_left]
  have e4 : (X ++ r').take T.2.2 = X := by rw [← hxl, List.take_left]
  have := Toks.tok (s := D ++ (X ++ r')) (n := n) (l := l) (by rw [hL, e1, hloc]; exact h) (by
      rw [hL, e1]; intro e; rw [List.append_eq_nil_iff] at e
      rw [e.1] at hxl; simp at hxl; omega) (by rw [hL, e1, hloc, e3]; exact hl)
  rw [hL, e1, hloc, e2, e4] at this
  exact this

theorem Toks.ahead {s : Bs} {n : Nat} {l : List Tk} (h : Toks s n l) : ∀ k, k < l.length → Toks (joinS (l.take k)) n (l.take k ++ [⟨0, n + (joinS (l.take k)).length, [], []⟩]) := by
  have hz : ∀ n, Toks [] n [⟨0, n, [], []⟩] := fun n => by
    have := Toks.fin (s := []) (n := n) rfl rfl
    simpa [leadS] using this
  induction h with
  | @fin s n h1 h2 =>
    intro k hk
    have : k = 0 := by simp at hk; omega
    subst this
    exact hz n
  | @tok s n l h1 h2 h3 ih =>
    intro k hk
    cases k with
    | zero => exact hz n
    | succ k =>
      have hk' : k < l.length := by simpa using hk
      have i := ih k hk'
      have hj := h3.join.1
      have hsep : Sep ((s.drop (leadS false s)).drop (tokN (s.drop (leadS false s))).2.2) (joinS (l.take k)) := by
        rw [← hj]
        have e : joinS l = joinS (l.take k) ++ joinS (l.drop k) := by rw [← joinS_app, List.take_append_drop]
        rw [e]
        cases joinS (l.take k) with
        | nil => exact .inl rfl
        | cons b t => exact .inr ⟨b, t, rfl, .inl ⟨t ++ joinS (l.drop k), rfl⟩⟩
      have := Toks.more h1 h2 hsep i
      have e1 : joinS (⟨(tokN (s.drop (leadS false s))).2.1, n + leadS false s, s.take (leadS false s), (s.drop (leadS false s)).take (tokN (s.drop (leadS false s))).2.2⟩ :: l.take k) = s.take (leadS false s) ++ ((s.drop (leadS false s)).take (tokN (s.drop (leadS false s))).2.2 ++ joinS (l.take k)) := by
        simp [joinS]
      have hl := lead_le false s
      obtain ⟨m1, m2, m3, m4⟩ := tokN_len (s.drop (leadS false s))
      rw [List.take_succ_cons, e1, List.cons_append]
      have e2 : n + (s.take (leadS false s) ++ ((s.drop (leadS false s)).take (tokN (s.drop (leadS false s))).2.2 ++ joinS (l.take k))).length = n + leadS false s + (tokN (s.drop (leadS false s))).2.2 + (joinS (l.take k)).length := by
        simp only [List.length_append, List.length_take]; omega
      rw [e2]
      exact this

def kx (t : Tk) : Int × Bs := (t.k, t.x)

theorem Toks.shift {s : Bs} {n : Nat} {l : List Tk} (h : Toks s n l) : ∀ n', ∃ l', Toks s n' l' ∧ l'.map kx = l.map kx := by
  induction h with
  | fin h1 h2 => exact fun n' => ⟨_, .fin h1 h2, rfl⟩
  | tok h1 h2 h3 ih =>
    intro n'
    obtain ⟨l', i1, i2⟩ := ih _
    exact ⟨_, .tok h1 h2 i1, by simp only [List.map_cons, i2]; rfl⟩

theorem Toks.again {s : Bs} {n : Nat} {a : List Tk} (h : Toks s n a) {t : Bs} {p : Nat} {b : List Tk} (hb : Toks t p b) : ∃ c, Toks (s ++ 10 :: t) n c ∧ c.map kx = (a.map kx).dropLast ++ b.map kx := by
  induction h with
  | @fin s n h1 h2 =>
    have hL := lead_end t false s h2
    have hdr : (s ++ 10 :: t).drop (leadS false (s ++ 10 :: t)) = t.drop (leadS false t) := by
      rw [hL]
      have : s ++ 10 :: t = (s ++ [10]) ++ t := by simp
      rw [this, Nat.add_comm, ← List.drop_drop]
      have e : ((s ++ [10]) ++ t).drop (leadS false t + (s.length + 1)) = t.drop (leadS false t) := by
        rw [Nat.add_comm, ← List.drop_drop, show s.length + 1 = (s ++ [10]).length by simp, List.drop_left]
      rw [List.drop_drop, Nat.add_comm]
      rw [Nat.add_comm] at e
      first | exact e | (rw [Nat.add_comm]; exact e)
    cases hb with
    | fin g1 g2 =>
      exact ⟨_, .fin (by rw [hdr]; exact g1) (by rw [hdr]; exact g2), rfl⟩
    | tok g1 g2 g3 =>
      obtain ⟨l', i1, i2⟩ := g3.shift (n + leadS false (s ++ 10 :: t) + (tokN ((s ++ 10 :: t).drop (leadS false (s ++ 10 :: t)))).2.2)
      refine ⟨_, .tok (by rw [hdr]; exact g1) (by rw [hdr]; exact g2) (by rw [hdr] at i1 ⊢; exact i1), ?_⟩
      simp only [List.map_cons, i2, List.map_nil, List.dropLast_singleton, List.nil_append, kx, hdr]
  | @tok s n l h1 h2 h3 ih =>
    obtain ⟨c, i1, i2⟩ := ih
    have hsep : Sep ((s.drop (leadS false s)).drop (tokN (s.drop (leadS false s))).2.2) ((s.drop (leadS false s)).drop (tokN (s.drop (leadS false s))).2.2 ++ 10 :: t) := by
      cases (s.drop (leadS false s)).drop (tokN (s.drop (leadS false s))).2.2 with
      | nil => exact .inr ⟨10, t, rfl, .inr ⟨by decide, by decide⟩⟩
      | cons d u => exact .inr ⟨d, u ++ 10 :: t, rfl, .inl ⟨u, rfl⟩⟩
    have := Toks.more h1 h2 hsep i1
    rw [← List.append_assoc ((s.drop (leadS false s)).take _), List.take_append_drop, ← List.append_assoc, List.take_append_drop] at this
    refine ⟨_, this, ?_⟩
    have hne : l.map kx ≠ [] := fun e => by
      obtain ⟨t0, j, -⟩ := h3.join.2.1
      have : l = [] := List.map_eq_nil_iff.1 e
      rw [this] at j; simp at j
    rw [List.map_cons, List.map_cons, i2, List.dropLast_cons_of_ne_nil hne]
    rfl

theorem strS_last : ∀ {s : Bs} {k : Nat}, strS s = some k → s[k - 1]? = some 34
  | [], k, h => by simp [strS] at h
  | [b], k, h => by
    simp only [strS] at h
    split at h
    · rename_i hb; cases h; subst hb; rfl
    · cases h
  | b :: c :: r, k, h => by
    simp only [strS] at h
    split at h
    · rename_i hb; cases h; subst hb; rfl
    split at h
    · cases e : strS r with
      | none => simp [e] at h
      | some q =>
        have i := strS_last e
        have hq := strS_le e
        simp [e] at h
        subst h
        obtain ⟨q', rfl⟩ : ∃ q', q = q' + 1 := ⟨q - 1, by omega⟩
        simpa using i
    split at h
    · cases h
    · cases e : strS (c :: r) with
      | none => simp [e] at h
      | some q =>
        have i := strS_last e
        have hq := strS_le e
        simp [e] at h
        subst h
        obtain ⟨q', rfl⟩ : ∃ q', q = q' + 1 := ⟨q - 1, by omega⟩
        simpa using i

theorem takeWhile_all (p : UInt8 → Bool) (s : Bs) : ∀ c ∈ s.take (runN p s), p c = true := by
  induction s with
  | nil => simp
  | cons b s ih =>
    cases hb : p b with
    | false => simp [runN, hb]
    | true =>
      have e : runN p (b :: s) = runN p s + 1 := by simp [runN, hb]
      rw [e, List.take_succ_cons]
      intro c hc
      rcases List.mem_cons.1 hc with rfl | hc
      · exact hb
      · exact ih c hc

/-- a token ends with a byte of its own -/
theorem tok_last {s : Bs} (hs : s ≠ []) (h0 : (tokN s).1 = 0) {b : UInt8} (hb : (s.take (tokN s).2.2).getLast? = some b) : b.toNat < 128 := by
  cases s with
  | nil => exact absurd rfl hs
  | cons x r =>
  have hT := tokN_cons x r
  have hmem := List.mem_of_getLast? hb
  by_cases c1 : letterB x = true
  · rw [if_pos c1] at hT
    have e : runN wordB (x :: r) = (tokN (x :: r)).2.2 := by
      rw [hT] at h0 ⊢
      split at h0
      · rename_i h; rw [if_pos h]
      · rename_i h; rw [if_neg h]; split at h0
        · cases h0
        · rename_i h'; rw [if_neg h']
    rw [← e] at hmem
    exact word_ascii (takeWhile_all wordB _ b hmem)
  rw [if_neg c1] at hT
  by_cases c2 : digitB x = true
  · rw [if_pos c2] at hT
    have e : runN wordB (x :: r) = (tokN (x :: r)).2.2 := by
      rw [hT] at h0 ⊢
      split at h0
      · rename_i h; rw [if_pos h]
      · cases h0
    rw [← e] at hmem
    exact word_ascii (takeWhile_all wordB _ b hmem)
  rw [if_neg c2] at hT
  by_cases c3 : x = 34
  · rw [if_pos c3] at hT
    by_cases c4 : (strV (x :: r)).2 = 0
    · rw [if_pos c4] at hT
      have e : (tokN (x :: r)).2.2 = (strV (x :: r)).1.length := by rw [hT]
      rw [e, strV_take _ c4] at hb
      unfold strV at hb c4
      simp only [List.drop_succ_cons, List.drop_zero] at hb c4
      cases hk : strS r with
      | none => rw [hk] at hb; simp at hb
      | some k =>
        rw [hk] at hb
        have hl := strS_last hk
        have hle := strS_le hk
        simp only at hb
        rw [List.getLast?_eq_getElem?, List.length_take, List.getElem?_take] at hb
        have e1 : min (k + 1) (x :: r).length - 1 = k := by simp; omega
        rw [e1, if_pos (by omega)] at hb
        obtain ⟨k', rfl⟩ : ∃ k', k = k' + 1 := ⟨k - 1, by omega⟩
        simp at hb hl
        rw [hl] at hb
        cases hb
        decide
    · rw [if_neg c4] at hT
      rw [hT] at h0; cases h0
  rw [if_neg c3] at hT
  by_cases c4 : signV (x :: r) = []
  · rw [if_pos c4] at hT
    rw [hT] at h0; cases h0
  · rw [if_neg c4] at hT
    have e : (tokN (x :: r)).2.2 = (signV (x :: r)).length := by rw [hT]
    rw [e, signV_take] at hmem
    have hall : ∀ y ∈ signsT, ∀ c ∈ y, c.toNat < 128 := by decide
    unfold signV at hmem
    cases hf : signsT.find? (fun y => y.isPrefixOf (x :: r)) with
    | none => rw [hf] at hmem; simp at hmem
    | some y =>
      rw [hf] at hmem
      exact hall y (List.mem_of_find?_eq_some hf) b hmem

theorem Toks.last {s : Bs} {n : Nat} {l : List Tk} (h : Toks s n l) : ∀ (k : Nat) (b : UInt8), k < l.length → (joinS (l.take k)).getLast? = some b → b.toNat < 128 := by
  induction h with
  | @fin s n h1 h2 =>
    intro k b hk hb
    have : k = 0 := by simp at hk; omega
    subst this
    simp [joinS] at hb
  | @tok s n l h1 h2 h3 ih =>
    intro k b hk hb
    cases k with
    | zero => simp [joinS] at hb
    | succ k =>
      have e1 : joinS (⟨(tokN (s.drop (leadS false s))).2.1, n + leadS false s, s.take (leadS false s), (s.drop (leadS false s)).take (tokN (s.drop (leadS false s))).2.2⟩ :: l.take k) = s.take (leadS false s) ++ ((s.drop (leadS false s)).take (tokN (s.drop (leadS false s))).2.2 ++ joinS (l.take k)) := by
        simp [joinS]
      rw [List.take_succ_cons, e1, List.getLast?_append, List.getLast?_append] at hb
      cases hJ : (joinS (l.take k)).getLast? with
      | some c =>
        rw [hJ] at hb
        simp at hb
        subst hb
        exact ih k c (by simpa using hk) hJ
      | none =>
        rw [hJ] at hb
        have hm := (tokN_len (s.drop (leadS false s))).2.2.1 h1 h2
        cases hx : ((s.drop (leadS false s)).take (tokN (s.drop (leadS false s))).2.2).getLast? with
        | none =>
          have := List.getLast?_eq_none_iff.1 hx
          have hl := congrArg List.length this
          have := (tokN_len (s.drop (leadS false s))).1
          simp only [List.length_take, List.length_nil] at hl
          omega
        | some c =>
          rw [hx] at hb
          simp at hb
          subst hb
          exact tok_last h2 h1 hx

end Go.Zam

namespace Go.Zam
set_option linter.all false
set_option maxRecDepth 100000
set_option maxHeartbeats 1000000

/-- what the document's next token comes to -/
def One4Q (S : Bs) (n : Nat) (H : Hp) : A → Hp → Prop := fun r H' => ∃ k m : Int, r = .tup [.d (.int .i64 k), .d (.int .i64 m), .d (.int .i64 (tokN S).1)] ∧ H' = H ∧ ((tokN S).1 = 0 → k = (tokN S).2.1 ∧ m = ((n + (tokN S).2.2 : Nat) : Int))

def numM (acc : Nat) (l : Bs) : Bool := match Lib.parseUintM 9223372036854775807 acc l with
  | .ok _ => true
  | _ => false
theorem numM_nil (acc : Nat) : numM acc [] = true := rfl
theorem numM_cons (acc : Nat) (c : UInt8) (r : Bs) : numM acc (c :: r) = if digitB c = true ∧ acc ≤ (9223372036854775807 - (c.toNat - 48)) / 10 then numM (acc * 10 + (c.toNat - 48)) r else false := by
  unfold numM
  rw [Lib.parseUintM]
  by_cases hd : 48 ≤ c.toNat ∧ c.toNat ≤ 57
  · have hD : digitB c = true := by simp [digitB]; omega
    rw [if_pos hd]
    by_cases h1 : acc ≤ (9223372036854775807 - (c.toNat - 48)) / 10
    · rw [if_neg (by omega), if_neg (by omega), if_pos ⟨hD, h1⟩]
    · have hR : ¬ (digitB c = true ∧ acc ≤ (9223372036854775807 - (c.toNat - 48)) / 10) := fun q => h1 q.2
      rw [if_neg hR]
      by_cases h2 : 1844674407370955162 ≤ acc
      · rw [if_pos h2]
      · rw [if_neg h2, if_pos (by omega)]
  · have hD : ¬ digitB c = true := by simp [digitB]; omega
    rw [if_neg hd, if_neg (fun q => hD q.1)]
theorem numOk_ne {s : Bs} (h : s ≠ []) : numOk s = numM 0 s := by
  unfold numOk numM Lib.parseUintB
  rw [if_neg h]
  have e : (2 ^ 63 - 1 : Nat) = 9223372036854775807 := by decide
  rw [e]
  cases Lib.parseUintM 9223372036854775807 0 s <;> rfl

def headLB : Bs → Bool
  | [] => false
  | b :: _ => letterB b
theorem keys_letter : ∀ k ∈ keysL, headLB k = true := List.all_eq_true.1 (by decide)

theorem strS_cons (b : UInt8) (t : Bs) : strS (b :: t) = if b = 34 then some 1 else if b = 92 then (strS (t.drop 1)).map (· + 2) else if b = 10 then none else (strS t).map (· + 1) := by
  cases t with
  | nil =>
    simp only [strS, List.drop_nil, Option.map_none]
    by_cases h : b = 34
    · rw [if_pos h, if_pos h]
    · rw [if_neg h, if_neg h]; simp
  | cons c r => simp only [strS, List.drop_succ_cons, List.drop_zero]

section
variable {P : Program}

theorem Has.one4 {f fl fd fk fu} (h : Has P f (irR4One fl fd fk fu)) (hl : ByteOk P fl letterB) (hd : ByteOk P fd digitB) (hk : ∀ s H, ACall P fk [.d (.str s)] H (fun r H' => r = .d (.bool (decide (s ∈ keysL))) ∧ H' = H)) (hu : ∀ (s : Bs) H, s.length ≤ 1048576 → ACall P fu [.d (.str s)] H (fun r H' => r = unqR (unqV s) ∧ H' = H))
    (s : Bs) (n : Nat) (hn : n < s.length) (hsl : s.length ≤ 1048576) (H : Hp) : ACall P f [.d (.str s), .d (.int .i64 (n : Int))] H (One4Q (s.drop n) n H) := by
  obtain ⟨fn, hf, hcf⟩ := h
  refine acall_fin hf hcf (by simp [irR4One]) fun hcl _ => ?_
  have hfin : ∀ (k m e : Int), e = (tokN (s.drop n)).1 → (e = 0 → k = (tokN (s.drop n)).2.1 ∧ m = ((n + (tokN (s.drop n)).2.2 : Nat) : Int)) → One4Q (s.drop n) n H (.tup [.d (.int .i64 k), .d (.int .i64 m), .d (.int .i64 e)]) H := fun k m e h1 h2 => ⟨k, m, by rw [h1], rfl, fun h => h2 (by rw [h1, h])⟩
  generalize One4Q (s.drop n) n H = Q at hfin ⊢
  have hrl := runN_le Zam.wordB (s.drop n)
  have hstep := runN_step Zam.wordB (s.drop n)
  have hSl : (s.drop n).length = s.length - n := by simp
  have hne : s.drop n ≠ [] := fun e => by have := List.drop_eq_nil_iff.1 e; omega
  simp only [drop_add'] at hstep
  have hsub := fun w (hw : n + w ≤ s.length) => sub_ok (s := s) (n := n) (w := w) hw
  have hdrop : ∀ j, s.drop (n + 1 + j) = ((s.drop n).drop 1).drop j := fun j => by rw [List.drop_drop, List.drop_drop, Nat.add_assoc]
  cases hS : s.drop n with
  | nil => exact absurd hS hne
  | cons b r =>
  rw [hS] at hfin hrl hstep hSl hsub hdrop
  obtain ⟨hb, -⟩ := byteAt_drop hS
  have hT := tokN_cons b r
  generalize tokN (b :: r) = T at hT hfin
  have hw1 : IntKind.i64.wrap ((n : Int) + 1) = n + 1 := wrap_i64 (by omega) (by omega)
  generalize hw : runN Zam.wordB (b :: r) = w at hT hrl hstep
  simp only [List.length_cons] at hSl hrl
  have hsw := hsub w (by omega)
  have hWl : ((b :: r).take w).length = w := by simp only [List.length_take, List.length_cons]; omega
  have hWh : 1 ≤ w → ∃ t, (b :: r).take w = b :: t := fun h => by
    obtain ⟨v, rfl⟩ : ∃ v, w = v + 1 := ⟨w - 1, by omega⟩
    exact ⟨_, rfl⟩
  have hwp : Zam.wordB b = true → 1 ≤ w := fun h => by
    have := runN_pos (r := r) h
    omega
  simp [irR4One, hw1, hb]
  refine CallK_of' (hl b _) ?_
  cases hlb : letterB b with
  | true =>
    have hw1' := hwp (by simp [Zam.wordB, hlb])
    rw [hlb, if_pos rfl] at hT
    simp
    refine LoopK_out 0 (fun fr H' => fr 0 = .d (.str s) ∧ fr 1 = .d (.int .i64 (n : Int)) ∧ fr 7 = .d (.int .i64 ((n : Int) + w)) ∧ H' = H) ?_ ?_
    · refine LoopM_of H.length (fun d fr H' => ∃ j, d = w - j ∧ 1 ≤ j ∧ j ≤ w ∧ fr 0 = .d (.str s) ∧ fr 1 = .d (.int .i64 (n : Int)) ∧ fr 7 = .d (.int .i64 ((n : Int) + j)) ∧ H' = H) (w - 1) (by simp) ⟨1, rfl, Nat.le_refl _, hw1', ?_⟩ ?_
      · simp [cut_self hcl]
      rintro d fr H' ⟨j, rfl, hj1, hj, f0, f1, f7, rfl⟩
      have hm := hstep j hj
      have hwj : IntKind.i64.wrap ((n : Int) + j + 1) = (n : Int) + ((j : Int) + 1) := by rw [wrap_i64 (by omega) (by omega)]; omega
      cases hd2 : s.drop (n + j) with
      | nil =>
        have h0 : n + j = s.length := by have := List.drop_eq_nil_iff.1 hd2; omega
        have h0' : ¬ ((n : Int) + j < s.length) := by omega
        rw [hd2] at hm
        have : j = w := by simp [moreB] at hm; omega
        subst this
        simp [f0, f1, f7, h0']
      | cons c t =>
        obtain ⟨hb2, hlt2⟩ := byteAt_drop hd2
        have hlt2' : (n : Int) + j < s.length := by omega
        rw [hd2] at hm
        simp only [moreB, Zam.wordB] at hm
        simp only [Int.natCast_add] at hb2
        simp [f0, f1, f7, hlt2', hb2]
        refine CallK_of' (hl c _) ?_
        have nx : j < w → ∀ fr' : Fr, fr' 0 = .d (.str s) → fr' 1 = .d (.int .i64 (n : Int)) → fr' 7 = .d (.int .i64 ((n : Int) + ((j : Int) + 1))) → True := fun _ _ _ _ _ => trivial
        cases hlc : letterB c with
        | true =>
          have hql : j < w := by simpa [hlc] using hm
          simp [f0, f1, f7, hwj]
          refine NextM_of H'.length (w - (j + 1)) (Nat.le_refl _) (by simp) (by omega) ⟨j + 1, rfl, by omega, by omega, ?_⟩
          simp [f0, f1, cut_self hcl]
        | false =>
          simp [f0, f1, f7, hb2]
          refine CallK_of' (hd c _) ?_
          cases hdc : digitB c with
          | true =>
            have hql : j < w := by simpa [hlc, hdc] using hm
            simp [f0, f1, f7, hwj]
            refine NextM_of H'.length (w - (j + 1)) (Nat.le_refl _) (by simp) (by omega) ⟨j + 1, rfl, by omega, by omega, ?_⟩
            simp [f0, f1, cut_self hcl]
          | false =>
            have : j = w := by simp [hlc, hdc] at hm; omega
            subst this
            simp [f0, f1, f7]
    rintro fr H' ⟨f0, f1, f7, rfl⟩
    obtain ⟨t, ht⟩ := hWh hw1'
    generalize (b :: r).take w = W at hT hsw hWl ht
    simp [f0, f1, f7, hsw]
    refine CallK_of' (hk W _) ?_
    by_cases hkW : W ∈ keysL
    · rw [if_pos hkW] at hT
      simp [hkW, f7]
      simp [RetK, cut_self hcl]
      exact hfin _ _ _ (by rw [hT]) (fun _ => by rw [hT]; simp)
    rw [if_neg hkW] at hT
    simp [hkW, f0, f1, hb]
    refine CallK_of' (hl b _) ?_
    by_cases h40 : 40 < w
    · rw [if_pos h40] at hT
      have h40' : (40 : Int) < w := by omega
      simp [hlb, hWl, h40']
      simp [RetK, cut_self hcl]
      exact hfin _ _ _ (by rw [hT]) (fun h => by cases h)
    · rw [if_neg h40] at hT
      have h40' : ¬ (40 : Int) < w := by omega
      simp [hlb, hWl, h40', f7]
      simp [RetK, cut_self hcl]
      exact hfin _ _ _ (by rw [hT]) (fun _ => by rw [hT]; simp)
  | false =>
    rw [hlb] at hT
    simp only [Bool.false_eq_true, if_false] at hT
    simp [hb]
    refine CallK_of' (hd b _) ?_
    cases hdb : digitB b with
    | true =>
      have hw1' := hwp (by simp [Zam.wordB, hdb])
      rw [hdb, if_pos rfl] at hT
      simp
      refine LoopK_out 0 (fun fr H' => fr 0 = .d (.str s) ∧ fr 1 = .d (.int .i64 (n : Int)) ∧ fr 7 = .d (.int .i64 ((n : Int) + w)) ∧ H' = H) ?_ ?_
      · refine LoopM_of H.length (fun d fr H' => ∃ j, d = w - j ∧ 1 ≤ j ∧ j ≤ w ∧ fr 0 = .d (.str s) ∧ fr 1 = .d (.int .i64 (n : Int)) ∧ fr 7 = .d (.int .i64 ((n : Int) + j)) ∧ H' = H) (w - 1) (by simp) ⟨1, rfl, Nat.le_refl _, hw1', ?_⟩ ?_
        · simp [cut_self hcl]
        rintro d fr H' ⟨j, rfl, hj1, hj, f0, f1, f7, rfl⟩
        have hm := hstep j hj
        have hwj : IntKind.i64.wrap ((n : Int) + j + 1) = (n : Int) + ((j : Int) + 1) := by rw [wrap_i64 (by omega) (by omega)]; omega
        cases hd2 : s.drop (n + j) with
        | nil =>
          have h0 : n + j = s.length := by have := List.drop_eq_nil_iff.1 hd2; omega
          have h0' : ¬ ((n : Int) + j < s.length) := by omega
          rw [hd2] at hm
          have : j = w := by simp [moreB] at hm; omega
          subst this
          simp [f0, f1, f7, h0']
        | cons c t =>
          obtain ⟨hb2, hlt2⟩ := byteAt_drop hd2
          have hlt2' : (n : Int) + j < s.length := by omega
          rw [hd2] at hm
          simp only [moreB, Zam.wordB] at hm
          simp only [Int.natCast_add] at hb2
          simp [f0, f1, f7, hlt2', hb2]
          refine CallK_of' (hl c _) ?_
          have nx : j < w → ∀ fr' : Fr, fr' 0 = .d (.str s) → fr' 1 = .d (.int .i64 (n : Int)) → fr' 7 = .d (.int .i64 ((n : Int) + ((j : Int) + 1))) → True := fun _ _ _ _ _ => trivial
          cases hlc : letterB c with
          | true =>
            have hql : j < w := by simpa [hlc] using hm
            simp [f0, f1, f7, hwj]
            refine NextM_of H'.length (w - (j + 1)) (Nat.le_refl _) (by simp) (by omega) ⟨j + 1, rfl, by omega, by omega, ?_⟩
            simp [f0, f1, cut_self hcl]
          | false =>
            simp [f0, f1, f7, hb2]
            refine CallK_of' (hd c _) ?_
            cases hdc : digitB c with
            | true =>
              have hql : j < w := by simpa [hlc, hdc] using hm
              simp [f0, f1, f7, hwj]
              refine NextM_of H'.length (w - (j + 1)) (Nat.le_refl _) (by simp) (by omega) ⟨j + 1, rfl, by omega, by omega, ?_⟩
              simp [f0, f1, cut_self hcl]
            | false =>
              have : j = w := by simp [hlc, hdc] at hm; omega
              subst this
              simp [f0, f1, f7]
      rintro fr H' ⟨f0, f1, f7, rfl⟩
      obtain ⟨t, ht⟩ := hWh hw1'
      generalize (b :: r).take w = W at hT hsw hWl ht
      simp [f0, f1, f7, hsw]
      refine CallK_of' (hk W _) ?_
      have hkW : ¬ W ∈ keysL := fun q => by
        have := keys_letter W q
        rw [ht, headLB, hlb] at this
        cases this
      rw [numOk_ne (by rw [ht]; simp)] at hT
      simp [hkW, f0, f1, hb]
      refine CallK_of' (hl b _) ?_
      simp [hlb]
      refine LoopK_outR 2 (fun fr H'' => fr 7 = .d (.int .i64 ((n : Int) + w)) ∧ numM 0 W = true ∧ H'' = H') (fun fr H'' => fr 4 = .d (.int .i64 0) ∧ fr 5 = .d (.int .i64 0) ∧ fr 6 = .d (.int .i64 23) ∧ numM 0 W = false ∧ H'' = H') ?_ ?_ ?_
      · refine LoopM_of H'.length (fun d fr H'' => ∃ (i acc : Nat), d = w - i ∧ i ≤ w ∧ acc ≤ 9223372036854775807 ∧ numM 0 W = numM acc (W.drop i) ∧ fr 7 = .d (.int .i64 ((n : Int) + w)) ∧ fr 8 = .d (.str W) ∧ fr 9 = .d (.int .u64 (acc : Int)) ∧ fr 10 = .d (.int .i64 (i : Int)) ∧ H'' = H') w (by simp) ⟨0, 0, rfl, by omega, by omega, rfl, ?_⟩ ?_
        · simp [f7, cut_self hcl]
        rintro d fr H'' ⟨i, acc, rfl, hi, hacc, hnm, f7, f8, f9, f10, rfl⟩
        rcases Nat.lt_or_ge i w with hlt | hge
        · have hlt' : (i : Int) < w := by omega
          have hdi : W.drop i = W[i]'(by omega) :: W.drop (i + 1) := List.drop_eq_getElem_cons (by omega)
          obtain ⟨hbi, -⟩ := byteAt_drop hdi
          generalize W[i]'(by omega) = c at hdi hbi
          rw [hdi, numM_cons] at hnm
          have hwi : IntKind.i64.wrap ((i : Int) + 1) = ((i + 1 : Nat) : Int) := by rw [wrap_i64 (by omega) (by omega)]; omega
          simp [f8, f10, hWl, hlt', hbi]
          refine CallK_of' (hd c _) ?_
          cases hdc : digitB c with
          | false =>
            rw [hdc] at hnm
            simp only [Bool.false_eq_true, false_and, if_false] at hnm
            simp [hnm]
          | true =>
            rw [hdc] at hnm
            simp only [true_and] at hnm
            have hc : 48 ≤ c.toNat ∧ c.toNat ≤ 57 := by simp [digitB] at hdc; omega
            have e1 : IntKind.u8.wrap ((c.toNat : Int) - 48) = ((c.toNat - 48 : Nat) : Int) := by
              simp [IntKind.wrap, IntKind.bits, IntKind.signed]; omega
            have e2 : ∀ x : Nat, x ≤ 9223372036854775807 → IntKind.u64.wrap (x : Int) = x := fun x hx => by
              simp [IntKind.wrap, IntKind.bits, IntKind.signed]; omega
            generalize hdd : c.toNat - 48 = dd at e1 hnm
            obtain ⟨m, hm⟩ : ∃ m, m = 9223372036854775807 - dd := ⟨_, rfl⟩
            obtain ⟨q, hq⟩ : ∃ q, q = m / 10 := ⟨_, rfl⟩
            rw [← hm, ← hq] at hnm
            have hddl : dd ≤ 9 := by omega
            have e3 : IntKind.u64.wrap (9223372036854775807 - (dd : Int)) = (m : Int) := by
              rw [← e2 m (by omega)]; congr 1; omega
            have e4 : IntKind.u64.wrap (Int.tdiv (m : Int) 10) = (q : Int) := by
              have := e2 q (by omega)
              rw [hq] at this ⊢
              exact this
            have e4' : IntKind.u64.wrap ((m : Int) / 10) = (q : Int) := by
              have := e2 q (by omega)
              rw [hq] at this ⊢
              exact this
            simp [f7, f8, f9, f10, hbi, e1, e2 dd (by omega), e3, e4, e4']
            refine BrK_split (fun hbr => ?_) (fun hbr => ?_)
            · have hq' : q < acc := by simpa using hbr
              rw [if_neg (by omega)] at hnm
              simp [hnm]
            · have hq' : ¬ (q < acc) := by simpa using hbr
              rw [if_pos (by omega)] at hnm
              obtain ⟨a10, ha⟩ : ∃ a10, a10 = acc * 10 := ⟨_, rfl⟩
              rw [← ha] at hnm
              have e5 : IntKind.u64.wrap ((acc : Int) * 10) = (a10 : Int) := by rw [← e2 a10 (by omega)]; congr 1; omega
              have e6 : IntKind.u64.wrap ((a10 : Int) + dd) = ((a10 + dd : Nat) : Int) := by rw [← e2 (a10 + dd) (by omega)]; congr 1
              simp only [Int.natCast_add] at e6
              simp [f7, f8, f9, f10, e5, e6, hwi]
              refine NextM_of H''.length (w - (i + 1)) (Nat.le_refl _) (by simp) (by omega) ⟨i + 1, a10 + dd, rfl, by omega, by omega, hnm, ?_⟩
              simp [f7, f8, cut_self hcl]
        · have : i = w := by omega
          subst this
          have h0' : ¬ ((i : Int) < i) := by omega
          rw [List.drop_eq_nil_of_le (by omega), numM_nil] at hnm
          simp [f7, f8, f10, hWl, hnm]
      · rintro fr H'' ⟨f4, f5, f6, hnm, rfl⟩
        rw [hnm] at hT
        simp only [Bool.false_eq_true, if_false] at hT
        simp
        simp [RetK, cut_self hcl, f4, f5, f6]
        exact hfin _ _ _ (by rw [hT]) (fun h => by cases h)
      · rintro fr H'' ⟨f7, hnm, rfl⟩
        rw [hnm, if_pos rfl] at hT
        simp [f7]
        simp [RetK, cut_self hcl]
        exact hfin _ _ _ (by rw [hT]) (fun _ => by rw [hT]; simp)
    | false =>
      rw [hdb] at hT
      simp only [Bool.false_eq_true, if_false] at hT
      by_cases h34 : b = 34
      · subst h34
        rw [if_pos rfl] at hT
        have hSV : strV (34 :: r) = match strS r with
            | none => ([], 22)
            | some k => ((34 :: r).take (k + 1), if (unqV ((34 :: r).take (k + 1))).isSome then 0 else 22) := rfl
        simp [hb]
        refine LoopK_out 4 (fun fr H' => fr 0 = .d (.str s) ∧ fr 1 = .d (.int .i64 (n : Int)) ∧ H' = H ∧ ∃ j : Nat, fr 7 = .d (.int .i64 ((n : Int) + 1 + j)) ∧ j ≤ s.length ∧ ((strS r = none ∧ s.length ≤ n + 1 + j) ∨ (strS r = none ∧ n + 1 + j < s.length ∧ byteAt s ((n : Int) + 1 + j) = some 10) ∨ (strS r = some (j + 1) ∧ n + 1 + j < s.length ∧ byteAt s ((n : Int) + 1 + j) = some 34))) ?_ ?_
        · refine LoopM_of H.length (fun d fr H' => ∃ j, d = s.length + 1 - (n + 1 + j) ∧ n + 1 + j ≤ s.length + 1 ∧ strS r = (strS (r.drop j)).map (· + j) ∧ fr 0 = .d (.str s) ∧ fr 1 = .d (.int .i64 (n : Int)) ∧ fr 7 = .d (.int .i64 ((n : Int) + 1 + j)) ∧ H' = H) (s.length + 1 - (n + 1 + 0)) (by simp) ⟨0, rfl, by omega, by simp, ?_⟩ ?_
          · simp [cut_self hcl]
          rintro d fr H' ⟨j, rfl, hj, hq, f0, f1, f7, rfl⟩
          have hdj := hdrop j
          simp only [List.drop_succ_cons, List.drop_zero] at hdj
          cases hd2 : s.drop (n + 1 + j) with
          | nil =>
            have h0 := List.drop_eq_nil_iff.1 hd2
            have h0' : ¬ ((n : Int) + 1 + j < s.length) := by omega
            rw [← hdj, hd2] at hq
            have hq : strS r = none := by rw [hq]; rfl
            simp [f0, f1, f7, h0', hq]
            exact ⟨j, rfl, by omega, by omega⟩
          | cons c t =>
            obtain ⟨hb2, hlt2⟩ := byteAt_drop hd2
            have hlt2' : (n : Int) + 1 + j < s.length := by omega
            simp only [Int.natCast_add, Int.natCast_one] at hb2
            rw [hd2] at hdj
            have hj1 : r.drop (j + 1) = t := by rw [← List.drop_drop, ← hdj]; rfl
            have hj2 : r.drop (j + 2) = t.drop 1 := by rw [← hj1, List.drop_drop]
            rw [← hdj, strS_cons] at hq
            have hwA : IntKind.i64.wrap ((n : Int) + 1 + j + 1) = (n : Int) + 1 + ((j : Int) + 1) := by rw [wrap_i64 (by omega) (by omega)]; omega
            have hwB : IntKind.i64.wrap ((n : Int) + 1 + ((j : Int) + 1) + 1) = (n : Int) + 1 + ((j : Int) + 2) := by rw [wrap_i64 (by omega) (by omega)]; omega
            by_cases c34 : c = 34
            · subst c34
              rw [if_pos rfl] at hq
              have hq : strS r = some (j + 1) := by rw [hq]; simp; omega
              simp [f0, f1, f7, hlt2', hb2, hq]
              exact ⟨j, rfl, by omega, by omega, by omega, hb2⟩
            have n34 : ¬ ((c.toNat : Int) = 34) := fun e => c34 ((byte_eq c 34).1 e)
            rw [if_neg c34] at hq
            by_cases c10 : c = 10
            · subst c10
              have hq : strS r = none := by rw [hq]; simp
              simp [f0, f1, f7, hlt2', hb2, hq]
              exact ⟨j, rfl, by omega, .inr ⟨by omega, hb2⟩⟩
            have n10 : ¬ ((c.toNat : Int) = 10) := fun e => c10 ((byte_eq c 10).1 e)
            by_cases c92 : c = 92
            · subst c92
              rw [if_pos rfl] at hq
              simp [f0, f1, f7, hlt2', hb2, hwA, hwB]
              refine NextM_of H'.length (s.length + 1 - (n + 1 + (j + 2))) (Nat.le_refl _) (by simp) (by omega) ⟨j + 2, rfl, by omega, ?_, ?_⟩
              · rw [hq, hj2]; cases strS (t.drop 1) <;> simp; omega
              · simp [f0, f1, cut_self hcl]
            have n92 : ¬ ((c.toNat : Int) = 92) := fun e => c92 ((byte_eq c 92).1 e)
            rw [if_neg c92, if_neg c10] at hq
            simp [f0, f1, f7, hlt2', hb2, hwA, n34, n10, n92]
            refine NextM_of H'.length (s.length + 1 - (n + 1 + (j + 1))) (Nat.le_refl _) (by simp) (by omega) ⟨j + 1, rfl, by omega, ?_, ?_⟩
            · rw [hq, hj1]; cases strS t <;> simp; omega
            · simp [f0, f1, cut_self hcl]
        rintro fr H' ⟨f0, f1, rfl, j, f7, hjl, hor⟩
        rcases hor with ⟨hq, hge⟩ | ⟨hq, hlt, hbj⟩ | ⟨hq, hlt, hbj⟩
        · rw [hq] at hSV
          rw [hSV] at hT
          have hge' : (s.length : Int) ≤ (n : Int) + 1 + j := by omega
          simp [f0, f1, f7, hge']
          simp [RetK, cut_self hcl]
          exact hfin _ _ _ (by rw [hT]; rfl) (fun h => by cases h)
        · rw [hq] at hSV
          rw [hSV] at hT
          have hge' : ¬ (s.length : Int) ≤ (n : Int) + 1 + j := by omega
          simp [f0, f1, f7, hge', hbj]
          simp [RetK, cut_self hcl]
          exact hfin _ _ _ (by rw [hT]; rfl) (fun h => by cases h)
        · rw [hq] at hSV
          rw [hSV] at hT
          have hge' : ¬ (s.length : Int) ≤ (n : Int) + 1 + j := by omega
          have hwA : IntKind.i64.wrap ((n : Int) + 1 + j + 1) = (n : Int) + ((j + 2 : Nat) : Int) := by rw [wrap_i64 (by omega) (by omega)]; omega
          have hsj := hsub (j + 2) (by omega)
          have hul : ((34 :: r : Bs).take (j + 2)).length = j + 2 := by simp only [List.length_take, List.length_cons]; omega
          simp only at hT
          generalize (34 :: r : Bs).take (j + 1 + 1) = U at hT hsj hul
          have hrange : IntKind.i64.wrap ((n : Int) + 1 + j + 1) = (n : Int) + ((j + 2 : Nat) : Int) := hwA
          generalize hJ : (n : Int) + ((j + 2 : Nat) : Int) = J at hwA hsj
          simp [f0, f1, f7, hge', hbj, hwA, hsj]
          refine CallK_of' (hu U _ (by omega)) ?_
          cases hv : unqV U with
          | none =>
            rw [hv] at hT
            simp [unqR]
            simp [RetK, cut_self hcl]
            exact hfin _ _ _ (by rw [hT]; rfl) (fun h => by cases h)
          | some x =>
            rw [hv] at hT
            simp [unqR, f7, hwA]
            simp [RetK, cut_self hcl]
            exact hfin _ _ _ (by rw [hT]; rfl) (fun _ => by rw [hT]; simp; omega)
      have n34 : ¬ ((b.toNat : Int) = 34) := fun e => h34 ((byte_eq b 34).1 e)
      rw [if_neg h34] at hT
      obtain ⟨L, hL⟩ : ∃ L : Bs, L = [40, 41, 123, 125, 44, 59, 58, 46, 61, 43, 45, 42, 60] := ⟨_, rfl⟩
      have hLl : L.length = 13 := by rw [hL]; rfl
      by_cases htwo : b = 61 ∧ ∃ r', r = 61 :: r'
      · obtain ⟨rfl, r', rfl⟩ := htwo
        have hb1 : byteAt s ((n : Int) + 1) = some 61 := by
          have : s.drop (n + 1) = 61 :: r' := by rw [← List.drop_drop, hS]; rfl
          simpa using (byteAt_drop this).1
        have hlt : (n : Int) + 1 < s.length := by simp only [List.length_cons] at hSl; omega
        have hG : signV (61 :: 61 :: r') = [61, 61] := by rw [signV_cc]; rfl
        rw [hG, if_neg (by simp)] at hT
        have hwA : IntKind.i64.wrap ((n : Int) + 1 + 1) = (n : Int) + 2 := by rw [wrap_i64 (by omega) (by omega)]; omega
        simp [hb, hb1, hlt, hwA]
        simp [RetK, cut_self hcl]
        exact hfin _ _ _ (by rw [hT]) (fun _ => by rw [hT]; simp)
      have hG : signV (b :: r) = if b ∈ L then [b] else [] := by
        cases r with
        | nil => rw [hL]; exact signV_1 b
        | cons c r' =>
          rw [signV_cc, if_neg (fun q => htwo ⟨q.1, r', by rw [q.2]⟩), hL]
      rw [hG] at hT
      obtain ⟨b1, hb1, hone⟩ : ∃ b1 : Bool, (b1 = true → (n : Int) + 1 < s.length) ∧ b1 = decide ((n : Int) + 1 < s.length) := ⟨_, fun h => by simpa using h, rfl⟩
      have hcond : b = 61 → (n : Int) + 1 < s.length → ∃ c : UInt8, byteAt s ((n : Int) + 1) = some c ∧ ¬ ((c.toNat : Int) = 61) := fun h61 hlt => by
        cases r with
        | nil => simp only [List.length_nil] at hSl; omega
        | cons c r' =>
          refine ⟨c, ?_, fun e => htwo ⟨h61, r', by rw [(byte_eq c 61).1 e]⟩⟩
          have : s.drop (n + 1) = c :: r' := by rw [← List.drop_drop, hS]; rfl
          simpa using (byteAt_drop this).1
      clear hb1 hone b1
      have hloop : True := trivial
      by_cases hlt : (n : Int) + 1 < s.length
      · by_cases h61 : b = 61
        · obtain ⟨c, hc1, hc2⟩ := hcond h61 hlt
          have e61 : (b.toNat : Int) = 61 := by rw [h61]; rfl
          simp [hb, hlt, hc1, hc2, e61]
          refine LoopK_outR 6 (fun fr H' => b ∉ L ∧ H' = H) (fun fr H' => fr 4 = .d (.int .i64 5) ∧ fr 5 = .d (.int .i64 ((n : Int) + 1)) ∧ fr 6 = .d (.int .i64 0) ∧ b ∈ L ∧ H' = H) ?_ ?_ ?_
          · refine LoopM_of H.length (fun d fr H' => ∃ i : Nat, d = 13 - i ∧ i ≤ 13 ∧ b ∉ L.take i ∧ fr 0 = .d (.str s) ∧ fr 1 = .d (.int .i64 (n : Int)) ∧ fr 7 = .d (.int .i64 ((n : Int) + 1)) ∧ fr 14 = .d (.str L) ∧ fr 15 = .d (.int .i64 (i : Int)) ∧ H' = H) 13 (by simp) ⟨0, rfl, by omega, by simp, ?_⟩ ?_
            · simp [cut_self hcl, hL]
            rintro d fr H' ⟨i, rfl, hi, hni, f0, f1, f7, f14, f15, rfl⟩
            rcases Nat.lt_or_ge i 13 with hlt13 | hge13
            · have hlt' : (i : Int) < 13 := by omega
              have hdi : L.drop i = L[i]'(by omega) :: L.drop (i + 1) := List.drop_eq_getElem_cons (by omega)
              have htk : L.take (i + 1) = L.take i ++ [L[i]'(by omega)] := List.take_succ_eq_append_getElem (by omega)
              have hmem : L[i]'(by omega) ∈ L := List.getElem_mem _
              obtain ⟨hbi, -⟩ := byteAt_drop hdi
              generalize L[i]'(by omega) = c at hdi hbi htk hmem
              have hwi : IntKind.i64.wrap ((i : Int) + 1) = ((i + 1 : Nat) : Int) := by rw [wrap_i64 (by omega) (by omega)]; omega
              simp [f0, f1, f14, f15, hLl, hlt', hbi, hb]
              by_cases hcb : c = b
              · subst hcb
                simp [f7, hmem]
              · have hcb' : ¬ ((c.toNat : Int) = b.toNat) := fun e => hcb ((byte_eq c b).1 e)
                have hcb2 : ¬ c.toNat = b.toNat := fun e => hcb' (by rw [e])
                simp [hcb, hcb', hcb2, f15, hwi]
                refine NextM_of H'.length (13 - (i + 1)) (Nat.le_refl _) (by simp) (by omega) ⟨i + 1, rfl, by omega, by rw [htk]; simp [hni]; exact Ne.symm hcb, ?_⟩
                simp [f0, f1, f7, f14, cut_self hcl]
            · have : i = 13 := by omega
              subst this
              rw [List.take_of_length_le (by omega)] at hni
              simp [f14, f15, hLl, hni]
          · rintro fr H' ⟨f4, f5, f6, hm, rfl⟩
            rw [if_pos hm, if_neg (by simp)] at hT
            simp
            simp [RetK, cut_self hcl, f4, f5, f6]
            exact hfin _ _ _ (by rw [hT]) (fun _ => by rw [hT]; simp)
          · rintro fr H' ⟨hm, rfl⟩
            rw [if_neg hm, if_pos rfl] at hT
            simp
            simp [RetK, cut_self hcl]
            exact hfin _ _ _ (by rw [hT]) (fun h => by cases h)
        · have n61 : ¬ ((b.toNat : Int) = 61) := fun e => h61 ((byte_eq b 61).1 e)
          simp [hb, hlt, n34, n61]
          refine LoopK_outR 6 (fun fr H' => b ∉ L ∧ H' = H) (fun fr H' => fr 4 = .d (.int .i64 5) ∧ fr 5 = .d (.int .i64 ((n : Int) + 1)) ∧ fr 6 = .d (.int .i64 0) ∧ b ∈ L ∧ H' = H) ?_ ?_ ?_
          · refine LoopM_of H.length (fun d fr H' => ∃ i : Nat, d = 13 - i ∧ i ≤ 13 ∧ b ∉ L.take i ∧ fr 0 = .d (.str s) ∧ fr 1 = .d (.int .i64 (n : Int)) ∧ fr 7 = .d (.int .i64 ((n : Int) + 1)) ∧ fr 14 = .d (.str L) ∧ fr 15 = .d (.int .i64 (i : Int)) ∧ H' = H) 13 (by simp) ⟨0, rfl, by omega, by simp, ?_⟩ ?_
            · simp [cut_self hcl, hL]
            rintro d fr H' ⟨i, rfl, hi, hni, f0, f1, f7, f14, f15, rfl⟩
            rcases Nat.lt_or_ge i 13 with hlt13 | hge13
            · have hlt' : (i : Int) < 13 := by omega
              have hdi : L.drop i = L[i]'(by omega) :: L.drop (i + 1) := List.drop_eq_getElem_cons (by omega)
              have htk : L.take (i + 1) = L.take i ++ [L[i]'(by omega)] := List.take_succ_eq_append_getElem (by omega)
              have hmem : L[i]'(by omega) ∈ L := List.getElem_mem _
              obtain ⟨hbi, -⟩ := byteAt_drop hdi
              generalize L[i]'(by omega) = c at hdi hbi htk hmem
              have hwi : IntKind.i64.wrap ((i : Int) + 1) = ((i + 1 : Nat) : Int) := by rw [wrap_i64 (by omega) (by omega)]; omega
              simp [f0, f1, f14, f15, hLl, hlt', hbi, hb]
              by_cases hcb : c = b
              · subst hcb
                simp [f7, hmem]
              · have hcb' : ¬ ((c.toNat : Int) = b.toNat) := fun e => hcb ((byte_eq c b).1 e)
                have hcb2 : ¬ c.toNat = b.toNat := fun e => hcb' (by rw [e])
                simp [hcb, hcb', hcb2, f15, hwi]
                refine NextM_of H'.length (13 - (i + 1)) (Nat.le_refl _) (by simp) (by omega) ⟨i + 1, rfl, by omega, by rw [htk]; simp [hni]; exact Ne.symm hcb, ?_⟩
                simp [f0, f1, f7, f14, cut_self hcl]
            · have : i = 13 := by omega
              subst this
              rw [List.take_of_length_le (by omega)] at hni
              simp [f14, f15, hLl, hni]
          · rintro fr H' ⟨f4, f5, f6, hm, rfl⟩
            rw [if_pos hm, if_neg (by simp)] at hT
            simp
            simp [RetK, cut_self hcl, f4, f5, f6]
            exact hfin _ _ _ (by rw [hT]) (fun _ => by rw [hT]; simp)
          · rintro fr H' ⟨hm, rfl⟩
            rw [if_neg hm, if_pos rfl] at hT
            simp
            simp [RetK, cut_self hcl]
            exact hfin _ _ _ (by rw [hT]) (fun h => by cases h)
      · simp [hb, hlt, n34]
        refine LoopK_outR 6 (fun fr H' => b ∉ L ∧ H' = H) (fun fr H' => fr 4 = .d (.int .i64 5) ∧ fr 5 = .d (.int .i64 ((n : Int) + 1)) ∧ fr 6 = .d (.int .i64 0) ∧ b ∈ L ∧ H' = H) ?_ ?_ ?_
        · refine LoopM_of H.length (fun d fr H' => ∃ i : Nat, d = 13 - i ∧ i ≤ 13 ∧ b ∉ L.take i ∧ fr 0 = .d (.str s) ∧ fr 1 = .d (.int .i64 (n : Int)) ∧ fr 7 = .d (.int .i64 ((n : Int) + 1)) ∧ fr 14 = .d (.str L) ∧ fr 15 = .d (.int .i64 (i : Int)) ∧ H' = H) 13 (by simp) ⟨0, rfl, by omega, by simp, ?_⟩ ?_
          · simp [cut_self hcl, hL]
          rintro d fr H' ⟨i, rfl, hi, hni, f0, f1, f7, f14, f15, rfl⟩
          rcases Nat.lt_or_ge i 13 with hlt13 | hge13
          · have hlt' : (i : Int) < 13 := by omega
            have hdi : L.drop i = L[i]'(by omega) :: L.drop (i + 1) := List.drop_eq_getElem_cons (by omega)
            have htk : L.take (i + 1) = L.take i ++ [L[i]'(by omega)] := List.take_succ_eq_append_getElem (by omega)
            have hmem : L[i]'(by omega) ∈ L := List.getElem_mem _
            obtain ⟨hbi, -⟩ := byteAt_drop hdi
            generalize L[i]'(by omega) = c at hdi hbi htk hmem
            have hwi : IntKind.i64.wrap ((i : Int) + 1) = ((i + 1 : Nat) : Int) := by rw [wrap_i64 (by omega) (by omega)]; omega
            simp [f0, f1, f14, f15, hLl, hlt', hbi, hb]
            by_cases hcb : c = b
            · subst hcb
              simp [f7, hmem]
            · have hcb' : ¬ ((c.toNat : Int) = b.toNat) := fun e => hcb ((byte_eq c b).1 e)
              have hcb2 : ¬ c.toNat = b.toNat := fun e => hcb' (by rw [e])
              simp [hcb, hcb', hcb2, f15, hwi]
              refine NextM_of H'.length (13 - (i + 1)) (Nat.le_refl _) (by simp) (by omega) ⟨i + 1, rfl, by omega, by rw [htk]; simp [hni]; exact Ne.symm hcb, ?_⟩
              simp [f0, f1, f7, f14, cut_self hcl]
          · have : i = 13 := by omega
            subst this
            rw [List.take_of_length_le (by omega)] at hni
            simp [f14, f15, hLl, hni]
        · rintro fr H' ⟨f4, f5, f6, hm, rfl⟩
          rw [if_pos hm, if_neg (by simp)] at hT
          simp
          simp [RetK, cut_self hcl, f4, f5, f6]
          exact hfin _ _ _ (by rw [hT]) (fun _ => by rw [hT]; simp)
        · rintro fr H' ⟨hm, rfl⟩
          rw [if_neg hm, if_pos rfl] at hT
          simp
          simp [RetK, cut_self hcl]
          exact hfin _ _ _ (by rw [hT]) (fun h => by cases h)

end
end Go.Zam
