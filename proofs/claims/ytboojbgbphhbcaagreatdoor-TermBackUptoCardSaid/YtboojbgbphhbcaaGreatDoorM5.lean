/-
  Texts of one proof, one behind the other: An abstract machine over the model, sixty-ninth part: the parser's parameters, types, blocks, over any program that has them. The lengths are bounded. An abstract machine over the model, seventieth part: the parser's sums and products, over any program that has them. The lengths are bounded. An abstract machine over the model, seventy-first part: the parser's fields and calls, over any program that has them. The lengths are bounded. An abstract machine over the model, seventy-second part: the parser's atoms, statements, files, over any program that has them. The lengths are bounded. An abstract machine over the model, seventy-third part: the parser's statements and files, over any program that has them. The lengths are bounded. An abstract machine over the model, seventy-fourth part: the parser's files, over any program that has them; all its functions together. The lengths are bounded. An abstract machine over the model, seventy-seventh part: how great trees are; what the parser answers, over any program that has it. The lengths are bounded. An abstract machine over the model, seventy-eighth part: how deep a tree is; the tree of a file's tokens, of a text, over any program that has the functions. The lengths are bounded. An abstract machine over the model, eightieth part: a tree as one line, over any program that has the functions. The lengths are bounded. The variable of the kinds' names, as a row lists it: a heap that holds it; what a row's cell tells of it. Contracts of the library's functions at this program, out of the kit's shelf. No condition. What the rows of these statements share: how much they hold, the world that the witness starts in, the variables as they are laid. An abstract machine over the model, hundred and second part: a row of texts sorted in place by the library. No program in sight. The lengths are bounded. An abstract machine over the model, hundred and third part: a row that a function of the library made, as a row that is written. No program in sight. The lengths are bounded. An abstract machine over the model, hundred and fourth part: the layer of types, and that of relations, printed by IrPrint and gen.py; their functions' numbers, and those of types, are parameters. No program in sight. No condition. An abstract machine over the model, eighty-eighth part: types of the language, their order, what two have in common. No program in sight. An abstract machine over the model, eighty-ninth part: what two types of the language have in common. No program in sight. An abstract machine over the model, ninetieth part: what two types have in common is told the same, whichever comes first; types as they lie in memory. No program in sight. An abstract machine over the model, ninety-eighth part: when a type goes where another one is wanted, told by its parts. No program in sight. An abstract machine over the model, hundred and fifth part: whether types are the same, over any program that asks. The lengths are bounded. An abstract machine over the model, hundredth part: labels with their types, sorted. No program in sight. No condition. An abstract machine over the model, hundred and sixth part: a label looked for among sorted ones, over any program that asks. The lengths are bounded. An abstract machine over the model, hundred and eleventh part: texts sorted into a new row; rows of texts without equal neighbours, over any program that asks. The lengths are bounded. An abstract machine over the model, hundred and twelfth part: the record of labels with their types, sorted: plain facts. No program in sight. No condition. An abstract machine over the model, hundred and thirteenth part: term.Record, over any program that has its functions. The lengths are bounded. An abstract machine over the model, hundred and first part: the type that a tree tells. No program in sight. No condition.
-/
import Derived.Test.YtboojbgbphhbcaaGreatDoorM4
import Derived.Test.YtboojbgbphhbcaaGreatDoorM3
import Derived.Lib.LaidU8
import Derived.Shelf.Strings.Builder1
import Derived.Shelf.Small.Strs
import Derived.Shelf.Strconv.Itoa0
import Derived.Shelf.Strconv.Itoa1
import Derived.Shelf.LaysM
import Derived.Shelf.Strconv.Itoa2
import Derived.Shelf.Strconv.Itoa3
import Derived.Ground.MpProg
import Derived.Shelf.Pu.ParseUintPublic10
import Derived.Shelf.Pu.ErrVarParseUint
import Derived.Shelf.Strings.Search1
import Derived.Shelf.Strings.Prefix
import Derived.Shelf.Unicode.Decode
import Derived.Shelf.Unicode.DecodeSlow
import Derived.Shelf.Unicode.DecodeAny
import Derived.Ground.SlgnProg
import Derived.Shelf.SlicesG.CompactS
import Derived.Ground.SlgmProg
import Derived.Shelf.SortM.Plain
import Derived.Shelf.SortM.SortNone
import Derived.Test.YtboojbgbphhbcaaGreatDoorProg
import Derived.Test.YtboojbgbphhbcaaGreatDoorRows
import Derived.Test.YtboojbgbphhbcaaGreatDoorCards
import Derived.Test.YtboojbgbphhbcaaGreatDoorTie
import Derived.ProofKit
import Derived.OpenShut
import Derived.Deep.DeepHandedRow
import Derived.Lib.LaidTab
import Derived.Stop.LaidErr
import Derived.SevenTiedAt
import Derived.Sort.Row
import Derived.Sort.Grow
import Derived.Sort.EncStr
import Derived.Laws.AppendOwn
import Derived.Lib.SlicesCompact
import Derived.Sort.Walk0
namespace Go.Zam
set_option linter.all false
set_option maxRecDepth 100000
set_option maxHeartbeats 1000000

theorem tookB_t {L : List Tk} {x : Bs} {s : PSt} (h : tookB L x s = true) : ∃ p, s = (p, none) ∧ isT L p x = true := by
  obtain ⟨p, st⟩ := s
  cases st with
  | some q => simp at h
  | none => exact ⟨p, rfl, by simpa using h⟩
theorem tookS_f {L : List Tk} {x : Bs} {s : PSt} (h : tookB L x s = false) : tookS L x s = s := by simp [tookS, h]

theorem closedP {tp : TypeId} {z : Bool} {L : List Tk} {H : Hp} {i : Nat} {s : PSt} (hcl : Hp.Closed (H.set i (pst tp z L s))) (s' : PSt) : Hp.Closed (H.set i (pst tp z L s')) := by
  intro n hn
  have h := hcl n (by simpa using hn)
  have e : H.set i (pst tp z L s') = (H.set i (pst tp z L s)).set i (pst tp z L s') := by simp
  rw [e, List.map_set, h, pst_clr]
theorem cutPk {tp : TypeId} {z : Bool} {L : List Tk} {H : Hp} {i : Nat} {s : PSt} (hcl : Hp.Closed (H.set i (pst tp z L s))) (s' : PSt) (k : Nat) (X : Hp) : Hp.cut (H.length + k) (H.set i (pst tp z L s') ++ X) = H.set i (pst tp z L s') ++ (X.take k).map (Ob.clr (H.length + k)) := by
  have := cut_appk (closedP hcl s') k X
  rwa [List.length_set] at this

section
variable {P : Program} {F : PF} {z : Bool} {L : List Tk}

theorem PHas.params' (hF : PHas P F) (hL : L.length ≤ 1048576) (n : Nat) (hn : n ≤ 1099511627776) (hQ : ∀ m, m < n → UCc P F.tp F.tb z L m .param F.param) : UC P F.tp z L (n + 1) .params F.params := by
  refine UC_of fun H i s hi hp => ?_
  obtain ⟨fn, hf, hcf⟩ := hF.params
  refine acall_norm (acall_fin hf hcf (by simp [irPParams]) fun hcl _ => ?_)
  have hp1 := hp.1
  simp only [G.c] at hp1
  simp [irPParams]
  refine CallK_of' (hF.nodeA hi _) ?_
  simp [nag]
  refine CallK_of' (hF.wantA hi _ (by omega)) ?_
  generalize h1 : wantS L _ s = s1
  have b1 := wantS_le h1
  have m1 := wantS_mo h1
  simp
  refine CallK_of (hF.list' hL n hn (g := .param) (jn := 4) (jt := 3) (ks0 := []) hi hF.kParam (by simp [A.lo]) rfl (by simp) rfl rfl (fun m hm ks s hps => hQ m hm H _ i 0 s hi (by simp [XL]) hps) s1 (m1.pre hp (by decide) (by simp only [G.c]; omega))) ?_
  rintro _ _ ⟨ks, s2, rfl, rfl, r2, hkl⟩
  have b2 := r2.wt0 rfl
  simp [XL, nob]
  refine CallK_of' (hF.doneA (q := 3) hi (by simp)) ?_
  simp [nag]
  simp [RetK, cutP hcl, nl]
  refine fin_node ks (by simp) (by simp) ?_
  clear b1 b2 m1
  subst h1
  obtain ⟨p, st⟩ := s
  cases st with
  | some q =>
    simp only [wantS_some] at r2
    obtain ⟨b, rfl, e4⟩ := r2.some'
    simp only [G.wt] at e4
    simp [Rel, G.wt]
    omega
  | none =>
    obtain ⟨hp2, hp3⟩ := hp.2.2 rfl
    simp only [G.c] at hp2 hp3
    simp only [Rel, pp, wantR, wordR]
    by_cases c2 : isT L p [40] = true
    case neg =>
      simp [c2] at r2
      obtain ⟨b, rfl, e4⟩ := r2.some'
      simp only [G.wt] at e4
      simp [c2]
      omega
    simp only [wantS_none, c2, if_true] at r2
    rcases r2.none' with ⟨q, a, e', rfl, e4⟩ | ⟨k', e', rfl⟩
    · simp [c2, e', PR.then]
      omega
    simp [c2, e', PR.then, N.bag, N.new, N.ks]

theorem KHas.kind' (hF : KHas P F) (hL : L.length ≤ 1048576) (n : Nat) (hn : n ≤ 1099511627776) (hQ : ∀ m, m < n → UCc P F.tp F.tb z L m .tfield F.tfield) (hK : ∀ m, m < n + 1 → UC P F.tp z L m .kind F.kind) : UC P F.tp z L (n + 1) .kind F.kind := by
  refine UC_of fun H i s hi hp => ?_
  obtain ⟨fn, hf, hcf⟩ := hF.kind
  refine acall_norm (acall_fin hf hcf (by simp [irPKind]) fun hcl _ => ?_)
  have hp1 := hp.1
  simp only [G.c] at hp1
  simp [irPKind]
  refine CallK_of' (hF.nodeA hi _) ?_
  simp [nag]
  refine CallK_of' (hF.tookA hi _ (by omega)) ?_
  cases h1 : tookB L [105, 110, 116] s with
  | true =>
    obtain ⟨p, rfl, c1⟩ := tookB_t h1
    simp [c1]
    refine CallK_of' (hF.doneA (q := 3) hi (by simp)) ?_
    simp [nag]
    simp [RetK, cutP hcl, nl]
    refine fin_node [] (by simp) (by simp) ?_
    simp [Rel, pp, kInt, c1]
  | false =>
  rw [tookS_f h1]
  simp
  refine CallK_of' (hF.tookA hi _ (by omega)) ?_
  cases h2 : tookB L [115, 116, 114] s with
  | true =>
    obtain ⟨p, rfl, c2⟩ := tookB_t h2
    simp at h1
    simp [c2]
    refine CallK_of' (hF.doneA (q := 3) hi (by simp)) ?_
    simp [nag]
    simp [RetK, cutP hcl, nl]
    refine fin_node [] (by simp) (by simp) ?_
    simp [Rel, pp, kInt, kStr, h1, c2]
  | false =>
  rw [tookS_f h2]
  simp
  refine CallK_of' (hF.tookA hi _ (by omega)) ?_
  cases h3 : tookB L [100, 121, 110] s with
  | true =>
    obtain ⟨p, rfl, c3⟩ := tookB_t h3
    simp at h1 h2
    simp [c3]
    refine CallK_of' (hF.doneA (q := 3) hi (by simp)) ?_
    simp [nag]
    simp [RetK, cutP hcl, nl]
    refine fin_node [] (by simp) (by simp) ?_
    simp [Rel, pp, kInt, kStr, kDyn, h1, h2, c3]
  | false =>
  rw [tookS_f h3]
  simp
  refine CallK_of' (hF.tookA hi _ (by omega)) ?_
  cases h4 : tookB L [123] s with
  | true =>
    obtain ⟨p, rfl, c4⟩ := tookB_t h4
    simp at h1 h2 h3
    obtain ⟨hp2, hp3⟩ := hp.2.2 rfl
    simp only [G.c] at hp2 hp3
    have l4 := isT_lt c4
    simp [c4]
    refine CallK_of (hF.list' hL n hn (g := .tfield) (jn := 4) (jt := 3) (ks0 := []) hi hF.kTField (by simp [A.lo]) rfl (by simp) rfl rfl (fun m hm ks s hps => hQ m hm H _ i 0 s hi (by simp [XL]) hps) (p + 1, none) ⟨by simp only [G.c]; omega, by simp only [G.c]; omega, fun _ => ⟨l4, by simp only [G.c]; omega⟩⟩) ?_
    rintro _ _ ⟨ks, s2, rfl, rfl, r2, hkl⟩
    simp [XL, nob]
    refine CallK_of' (hF.doneA (q := 3) hi (by simp)) ?_
    simp [nag]
    simp [RetK, cutP hcl, nl]
    refine fin_node ks (by simp) (by simp) ?_
    rcases r2.none' with ⟨q, a, e', rfl, e4⟩ | ⟨k', e', rfl⟩
    · simp [Rel, pp, kInt, kStr, kDyn, h1, h2, h3, c4, e', PR.then]
      omega
    · simp [Rel, pp, kInt, kStr, kDyn, h1, h2, h3, c4, e', PR.then, N.bag, N.new, N.ks]
  | false =>
  rw [tookS_f h4]
  simp
  refine CallK_of' (hF.tookA hi _ (by omega)) ?_
  cases h5 : tookB L [102, 110] s with
  | true =>
    obtain ⟨p, rfl, c5⟩ := tookB_t h5
    simp at h1 h2 h3 h4
    obtain ⟨hp2, hp3⟩ := hp.2.2 rfl
    simp only [G.c] at hp2 hp3
    have l5 := isT_lt c5
    simp [c5]
    refine CallK_of' (hF.wantA hi _ (by simp only; omega)) ?_
    generalize h6 : wantS L _ (p + 1, none) = s6
    have b6 := wantS_le h6
    have m6 := wantS_mo h6
    simp
    refine CallK_of (hF.list' hL n hn (g := .kind) (jn := 4) (jt := 3) (ks0 := []) hi hF.kKind (by simp [A.lo]; omega) rfl (by simp) rfl rfl (fun m hm ks s hps => by simpa using hK m (by omega) H _ i s hi hps) s6 ⟨by simp only [G.c] at b6 ⊢; omega, by simp only [G.c]; omega, fun e => ⟨(m6 e).2.2 l5, by have := (m6 e).2.1; simp only [G.c] at this ⊢; omega⟩⟩) ?_
    rintro _ _ ⟨ks, s7, rfl, rfl, r7, hkl⟩
    have b7 := r7.wt0 rfl
    have m7 := m6.trans r7.mo
    simp [XL, nob]
    simp only at b6
    refine CallK_of' (hF.wantA hi _ (by omega)) ?_
    generalize h8 : wantS L _ s7 = s8
    have b8 := wantS_le h8
    have m8 := m7.trans (wantS_mo h8)
    simp
    refine CallK_of (hK n (by omega) H _ i s8 hi ⟨by simp only [G.c]; omega, by simp only [G.c]; omega, fun e => ⟨(m8 e).2.2 l5, by have := (m8 e).2.1; simp only [G.c] at this ⊢; omega⟩⟩) ?_
    rintro _ _ ⟨t9, s9, rfl, rfl, r9⟩
    simp [-rowOf]
    refine CallK_of' (hF.putA (j := 4) (q := 3) (rows := ks.map N.enc) rfl (by simp) (by simp; omega)) ?_
    simp [nob]
    refine CallK_of' (hF.doneA (q := 3) hi (by simp)) ?_
    simp [nag]
    simp [RetK, cutP hcl, nl]
    refine fin_node (ks ++ [t9]) (by simp) (by simp) ?_
    clear b7 b8 m6 m7 m8
    subst h6 h8
    simp only [Rel, pp, wantR, wordR, kInt, kStr, kDyn, kFn, h1, h2, h3, h4, c5, if_true]
    by_cases c6 : isT L (p + 1) [40] = true
    case neg =>
      simp [c6] at r7
      obtain ⟨b, rfl, e7⟩ := r7.some'
      simp at r9
      obtain ⟨c, rfl, e9⟩ := r9.some'
      simp only [G.wt] at e7 e9
      simp [c6]
      omega
    have l6 := isT_lt c6
    simp only [wantS_none, c6, if_true] at r7
    rcases r7.none' with ⟨q, a, e', rfl, e7⟩ | ⟨k', e', rfl⟩
    · simp at r9
      obtain ⟨c, rfl, e9⟩ := r9.some'
      simp only [G.wt] at e9
      simp [c6, e', PR.then]
      omega
    by_cases c8 : isT L k' [58] = true
    case neg =>
      simp [c8] at r9
      obtain ⟨c, rfl, e9⟩ := r9.some'
      simp only [G.wt] at e9
      have := pp_adv (L := L) n (.list .kind [41]) (p + 1 + 1)
      rw [e'] at this
      have := this.2.2
      simp [c6, c8, e', PR.then]
      omega
    simp only [wantS_none, c8, if_true] at r9
    rcases r9.none' with ⟨q, a, e'', rfl, e9⟩ | ⟨k'', e'', rfl⟩
    · simp [c6, c8, e', e'', PR.then]
      omega
    simp [c6, c8, e', e'', PR.then, N.bag, N.new, N.ks]
  | false =>
  rw [tookS_f h5]
  simp
  refine CallK_of' (hF.failA hi) ?_
  simp
  refine CallK_of' (hF.doneA (q := 3) hi (by simp)) ?_
  simp [nag]
  simp [RetK, cutP hcl, nl]
  refine fin_node [] (by simp) (by simp) ?_
  obtain ⟨p, st⟩ := s
  cases st with
  | some q => simp [Rel, G.wt]
  | none =>
    simp at h1 h2 h3 h4 h5
    obtain ⟨hp2, hp3⟩ := hp.2.2 rfl
    simp only [G.c] at hp2 hp3
    simp [Rel, pp, kInt, kStr, kDyn, kFn, wantR, h1, h2, h3, h4, h5]
    omega

theorem PHas.block' (hF : PHas P F) (hL : L.length ≤ 1048576) (n : Nat) (hn : n ≤ 1099511627776) (hS : ∀ m, m < n → UC P F.tp z L m .stmt F.stmt) : UC P F.tp z L (n + 1) .block F.block := by
  refine UC_of fun H i s hi hp => ?_
  obtain ⟨fn, hf, hcf⟩ := hF.block
  refine acall_norm (acall_fin hf hcf (by simp [irPBlock]) fun hcl _ => ?_)
  have hp1 := hp.1
  simp only [G.c] at hp1
  simp [irPBlock]
  refine CallK_of' (hF.nodeA hi _) ?_
  simp [nag]
  refine CallK_of' (hF.wantA hi _ (by omega)) ?_
  generalize h1 : wantS L _ s = s1
  have b1 := wantS_le h1
  simp
  obtain ⟨XX, hXX⟩ : ∃ XX : List N → Hp, XX = fun ks => [Ob.box F.tn [.d (.int .i64 0), .d (.int .i64 0), .d (.int .i64 0), .d (.str []), .d (.int .i64 0), .d (.sl true 6 [])], nob F.tn 6 s.1 0 [] 0 true [] (H.length + 2), .tok ks.length 6 F.tn, nob F.tn 6 s.1 0 [] 0 true (ks.map N.enc) (H.length + 2)] := ⟨_, rfl⟩
  obtain ⟨E, hE⟩ : ∃ E : Fr → Hp → Prop, E = fun fr H' => ∃ ks s', (fr 0 = .ptr i 0 ∧ fr 2 = .ptr H.length 0 ∧ fr 3 = .ptr (H.length + 3) 0) ∧ Rel L (n + 1) .block s (N.new 6 s.1 s'.1 [] 0 ks) s' ∧ H' = H.set i (pst F.tp z L s') ++ XX ks := ⟨_, rfl⟩
  have hE1 : ∀ fr ks s', (fr 0 = .ptr i 0 ∧ fr 2 = .ptr H.length 0 ∧ fr 3 = .ptr (H.length + 3) 0) → Rel L (n + 1) .block s (N.new 6 s.1 s'.1 [] 0 ks) s' → E fr (H.set i (pst F.tp z L s') ++ XX ks) := fun fr ks s' h h' => by subst hE; exact ⟨ks, s', h, h', rfl⟩
  refine LoopK_outR 0 E (fun _ _ => False) ?_ (fun _ _ h => h.elim) ?_
  rotate_left
  · intro fr H' h
    subst hE
    obtain ⟨ks, s', ⟨f0, f2, f3⟩, hr, rfl⟩ := h
    subst hXX
    simp [f0, f3, nob]
    refine CallK_of' (hF.doneA (q := 2) hi (by simp)) ?_
    simp [nag, f2]
    simp [RetK, cutP hcl, nl]
    exact fin_node ks (by simp) (by simp) hr
  clear hE
  have hcut : ∀ ks s', Hp.cut (H.length + 4) (H.set i (pst F.tp z L s') ++ XX ks) = H.set i (pst F.tp z L s') ++ XX ks := fun ks s' => by
    rw [cutPk hcl, hXX]; simp [nob]
  refine LoopM_of (H.length + 4) (fun d fr H' => ∃ ks s', (fr 0 = .ptr i 0 ∧ fr 2 = .ptr H.length 0 ∧ fr 3 = .ptr (H.length + 3) 0) ∧ H' = H.set i (pst F.tp z L s') ++ XX ks ∧
      ((d = 0 ∧ s'.2 ≠ none ∧ ∀ m, Rel L (n + 1) .block s m s') ∨ ∃ p1, s' = (p1, none) ∧ s.2 = none ∧ d ≤ n ∧ pp L (n + 1) .block s.1 = (pp L d (.stmts ks) p1).then (fun m j => .ok (N.new 6 s.1 j [] 0 m.ks) j) ∧ p1 ≤ L.length ∧ 16 * (L.length - p1) + 7 ≤ d ∧ ks.length ≤ p1)) (match s1.2 with | none => n | some _ => 0) (by simp) ⟨[], s1, ?_⟩ ?_
  · have hil2 : i < H.length + 4 := by omega
    refine ⟨by simp [hil2], ?_, ?_⟩
    · rw [← hcut, hXX]; simp [nob]
    subst h1
    obtain ⟨p, st⟩ := s
    cases st with
    | some q => exact .inl ⟨rfl, by simp, fun m => by simp [Rel]⟩
    | none =>
      obtain ⟨hp2, hp3⟩ := hp.2.2 rfl
      simp only [G.c] at hp2 hp3
      by_cases c1 : isT L p [123] = true
      · have l1 := isT_lt c1
        simp [c1]
        refine ⟨by simp [pp, wantR, c1], l1, by omega⟩
      · simp [c1]
        intro m
        simp [Rel, pp, wantR, c1]
        omega
  · rintro d fr H' ⟨ks, s', ⟨f0, f2, f3⟩, rfl, hd⟩
    have hi' := pget (tp := F.tp) (z := z) (L := L) (H := H) hi s' (XX ks)
    have hil2 : i < H.length + 4 := by omega
    rcases hd with ⟨rfl, q1, q2⟩ | ⟨p1, rfl, hs2, hdn, hpp, hp1', hrk, hks⟩
    · obtain ⟨p', st'⟩ := s'
      cases st' with
      | none => simp at q1
      | some q =>
        simp [f0, hi']
        exact hE1 _ ks _ (by simp [f0, f2, f3]) (q2 _)
    · obtain ⟨d', rfl⟩ : ∃ d', d = d' + 1 := ⟨d - 1, by omega⟩
      have hRel : ∀ m s', (match (pp L (d' + 1) (.stmts ks) p1).then (fun m j => .ok (N.new 6 s.1 j [] 0 m.ks) j) with | .out => False | .bad q => s'.2 = some q ∧ s'.1 ≤ L.length + (n + 1) | .ok m' k => m = m' ∧ s' = (k, none)) → Rel L (n + 1) .block s m s' := fun m s' h => by
        unfold Rel
        rw [hs2]
        simp only
        rw [hpp]; exact h
      simp [f0, hi']
      refine CallK_of' (hF.tookA hi _ (by simp only; omega)) ?_
      cases hjb : isT L p1 [125] with
      | true =>
        simp [hjb]
        refine hE1 _ ks _ (by simp [f0, f2, f3]) (hRel _ _ ?_)
        simp [pp, PR.then, hjb, N.bag, N.new, N.ks]
      | false =>
        simp [hjb, f0]
        refine CallK_of (hS d' (by omega) H _ i (p1, none) hi ⟨by simp only [G.c]; omega, by simp only [G.c]; omega, fun _ => ⟨hp1', by simp only [G.c]; omega⟩⟩) ?_
        rintro _ _ ⟨t3, s3, rfl, rfl, r3⟩
        simp [-rowOf, f3]
        refine CallK_of' (hF.putA (j := 3) (q := 2) (rows := ks.map N.enc) (by rw [hXX]; rfl) (by rw [hXX]; simp) (by simp; omega)) ?_
        have x3 : ((XX ks).set 2 (.tok (ks.map N.enc ++ [t3.enc]).length 6 F.tn)).set 3 (nob F.tn 6 s.1 0 [] 0 true (ks.map N.enc ++ [t3.enc]) (H.length + 2)) = XX (ks ++ [t3]) := by
          rw [hXX]; simp
        rw [x3]
        simp
        rcases r3.none' with ⟨q, b, hq, rfl, e3⟩ | ⟨j, hj, rfl⟩
        · refine NextM_of (H.length + 4) 0 (Nat.le_refl _) (by rw [hXX]; simp) (by omega) ⟨ks ++ [t3], (b, some q), by simp [f0, f2, f3, hil2], hcut _ _, .inl ⟨rfl, by simp, fun m => hRel _ _ ?_⟩⟩
          simp [pp, hjb, hq, PR.then]; omega
        · have := pp_adv (L := L) d' .stmt p1
          rw [hj] at this
          obtain ⟨v1, v2, v3⟩ := this
          have v2 := v2 rfl
          refine NextM_of (H.length + 4) d' (Nat.le_refl _) (by rw [hXX]; simp) (by omega) ⟨ks ++ [t3], (j, none), by simp [f0, f2, f3, hil2], hcut _ _, .inr ⟨j, rfl, hs2, by omega, ?_, v3 v2, by have := v3 v2; omega, by simp; omega⟩⟩
          rw [hpp]; simp [pp, hjb, hj, PR.then]

end
end Go.Zam

namespace Go.Zam
set_option linter.all false
set_option maxRecDepth 100000
set_option maxHeartbeats 1000000

def abx (tn : TypeId) (a : N) : Ob := .box tn (a.enc.map .d)

theorem abx_clr (tn : TypeId) (a : N) (n : Nat) : (abx tn a).clr n = abx tn a := by
  obtain ⟨k, f, t, w, q, za, ks⟩ := a
  rw [abx, N.enc_mk]; rfl

section
variable {P : Program} {F : PF} {z : Bool} {L : List Tk}

theorem PHas.with0 (hF : PHas P F) {m : Nat} {g : G} {fo : FuncId} (hk : callOk P fo = true) (hU : UC P F.tp z L m g fo) (kk : Int) (a : N) {H : Hp} {i : Nat} {s : PSt} (hi : i < H.length) (hp : PPre L m g s) :
    ACall P F.with_ [.ptr i 0, .d (.int .i64 kk), a.v, .fn (.func fo) [.ptr i 0] []] (H.set i (pst F.tp z L s)) (fun r H' => ∃ b s', r = N.v (N.new kk a.f s'.1 [] 0 [a, b]) ∧ H' = H.set i (pst F.tp z L s') ∧ Rel L m g s b s') := by
  obtain ⟨fn, hf, hcf⟩ := hF.with_
  refine acall_fin hf hcf (by simp [irPWith]) fun hcl _ => ?_
  obtain ⟨Q, hQ⟩ : ∃ Q : A → Hp → Prop, Q = fun r H' => ∃ b s', r = N.v (N.new kk a.f s'.1 [] 0 [a, b]) ∧ H' = H.set i (pst F.tp z L s') ∧ Rel L m g s b s' := ⟨_, rfl⟩
  rw [← hQ]
  obtain ⟨k, f, t, w, a, za, ks⟩ := a
  rw [N.v_mk]
  simp [irPWith]
  refine ⟨hk, ?_⟩
  refine CallK_of (hU H _ i s hi hp) ?_
  rintro _ _ ⟨b, s', rfl, rfl, r⟩
  have hi' := pget (tp := F.tp) (z := z) (L := L) (H := H) hi s'
  obtain ⟨k', f', t', w', a', z', ks'⟩ := b
  rw [N.v_mk]
  simp [hi']
  simp [RetK, cutP hcl]
  subst hQ
  exact ⟨.mk k' f' t' w' a' z' ks', s', by rw [N.v_new]; simp [N.enc_mk, N.f], rfl, r⟩

theorem PHas.with' (hF : PHas P F) {m : Nat} {g : G} {fo : FuncId} (hk : callOk P fo = true) (hU : UC P F.tp z L m g fo) (kk : Int) (a : N) {H X : Hp} {i : Nat} {s : PSt} (hi : i < H.length) (hp : PPre L m g s) :
    ACall P F.with_ [.ptr i 0, .d (.int .i64 kk), a.v, .fn (.func fo) [.ptr i 0] []] (H.set i (pst F.tp z L s) ++ X) (fun r H' => ∃ b s', r = N.v (N.new kk a.f s'.1 [] 0 [a, b]) ∧ H' = H.set i (pst F.tp z L s') ++ X ∧ Rel L m g s b s') := by
  have := hF.with0 hk hU kk a (H := H ++ X) (i := i) (s := s) (by simp; omega) hp
  rw [List.set_append_left _ _ hi] at this
  refine this.mono ?_
  rintro r H' ⟨b, s', rfl, rfl, hr⟩
  exact ⟨b, s', rfl, by rw [List.set_append_left _ _ hi], hr⟩

theorem PHas.expr' (hF : PHas P F) (hL : L.length ≤ 1048576) (n : Nat) (hn : n ≤ 1099511627776) (hS : UC P F.tp z L n .sum F.sum) : UC P F.tp z L (n + 1) .expr F.expr := by
  refine UC_of fun H i s hi hp => ?_
  obtain ⟨fn, hf, hcf⟩ := hF.expr
  refine acall_fin hf hcf (by simp [irPExpr]) fun hcl _ => ?_
  have hp1 := hp.1
  simp only [G.c] at hp1
  simp [irPExpr]
  refine CallK_of (hS H _ i s hi ((Mo.refl s).pre hp (by decide) (by simp only [G.c]; omega))) ?_
  rintro _ _ ⟨a, s1, rfl, rfl, r1⟩
  have b1 := r1.le
  have m1 := r1.mo
  have ha : ∃ k f t w q za ks, a = .mk k f t w q za ks := by cases a; exact ⟨_, _, _, _, _, _, _, rfl⟩
  have hav : a.v = a.v := rfl
  obtain ⟨k, f, t, w, q, za, ks, hae⟩ := ha
  have hve : a.v = .agg [.d (.int .i64 k), .d (.int .i64 f), .d (.int .i64 t), .d (.str w), .d (.int .i64 q), .d (.sl za 6 (ks.map N.enc))] := by rw [hae, N.v_mk]
  rw [hve]
  simp
  refine CallK_of' (hF.tookA hi _ (by omega)) ?_
  cases h2 : tookB L [60] s1 with
  | true =>
    obtain ⟨p, rfl, c2⟩ := tookB_t h2
    have l2 := isT_lt c2
    obtain ⟨p0, rfl⟩ : ∃ p0, s = (p0, none) := ⟨s.1, by rw [← (m1 rfl).1]⟩
    obtain ⟨hp2, hp3⟩ := hp.2.2 rfl
    simp only [G.c] at hp2 hp3
    rcases r1.none' with ⟨q', b, hq, e, e3⟩ | ⟨j, hj, e⟩
    · simp at e
    obtain ⟨rfl, -⟩ : p = j ∧ True := by simpa using e
    have mm := (m1 rfl).2.1
    simp only at mm
    simp [c2]
    rw [← hve]
    refine CallK_of (hF.with' hF.kSum hS 14 a hi ⟨by simp only [G.c]; omega, by simp only [G.c]; omega, fun _ => ⟨l2, by simp only [G.c]; omega⟩⟩) ?_
    rintro _ _ ⟨b, s2, rfl, rfl, r2⟩
    rw [N.v_new]
    simp
    simp [RetK, cutP hcl]
    refine ⟨N.new 14 a.f s2.1 [] 0 [a, b], s2, by rw [N.v_new]; simp, by simp, ?_⟩
    rcases r2.none' with ⟨q', b', hq, rfl, e3⟩ | ⟨j', hj', rfl⟩
    · simp [Rel, pp, hj, PR.then, c2, hq]; omega
    · simp [Rel, pp, hj, PR.then, c2, hj']
  | false =>
  rw [tookS_f h2]
  simp
  refine CallK_of' (hF.tookA hi _ (by omega)) ?_
  cases h3 : tookB L [61, 61] s1 with
  | true =>
    obtain ⟨p, rfl, c3⟩ := tookB_t h3
    simp at h2
    have l3 := isT_lt c3
    obtain ⟨p0, rfl⟩ : ∃ p0, s = (p0, none) := ⟨s.1, by rw [← (m1 rfl).1]⟩
    obtain ⟨hp2, hp3⟩ := hp.2.2 rfl
    simp only [G.c] at hp2 hp3
    rcases r1.none' with ⟨q', b, hq, e, e3⟩ | ⟨j, hj, e⟩
    · simp at e
    obtain ⟨rfl, -⟩ : p = j ∧ True := by simpa using e
    have mm := (m1 rfl).2.1
    simp only at mm
    simp [c3]
    rw [← hve]
    refine CallK_of (hF.with' hF.kSum hS 15 a hi ⟨by simp only [G.c]; omega, by simp only [G.c]; omega, fun _ => ⟨l3, by simp only [G.c]; omega⟩⟩) ?_
    rintro _ _ ⟨b, s2, rfl, rfl, r2⟩
    rw [N.v_new]
    simp
    simp [RetK, cutP hcl]
    refine ⟨N.new 15 a.f s2.1 [] 0 [a, b], s2, by rw [N.v_new]; simp, by simp, ?_⟩
    rcases r2.none' with ⟨q', b', hq, rfl, e3⟩ | ⟨j', hj', rfl⟩
    · simp [Rel, pp, hj, PR.then, h2, c3, hq]; omega
    · simp [Rel, pp, hj, PR.then, h2, c3, hj']
  | false =>
  rw [tookS_f h3]
  simp
  simp [RetK, cutP hcl]
  refine ⟨a, s1, hve.symm, by simp, ?_⟩
  obtain ⟨p, st⟩ := s
  cases st with
  | some q =>
    obtain ⟨b, rfl, e⟩ := r1.some'
    simp only [G.wt] at e
    simp [Rel, G.wt]; omega
  | none =>
    rcases r1.none' with ⟨q', b, hq, rfl, e3⟩ | ⟨j, hj, rfl⟩
    · simp [Rel, pp, hq, PR.then]; omega
    · simp at h2 h3
      simp [Rel, pp, hj, PR.then, h2, h3]

theorem PHas.term' (hF : PHas P F) (hL : L.length ≤ 1048576) (n : Nat) (hn : n ≤ 1099511627776) (hT : ∀ m, m < n + 1 → UC P F.tp z L m .post F.post) : UC P F.tp z L (n + 1) .term F.term := by
  refine UC_of fun H i s hi hp => ?_
  obtain ⟨fn, hf, hcf⟩ := hF.term
  refine acall_fin hf hcf (by simp [irPTerm]) fun hcl _ => ?_
  have hp1 := hp.1
  simp only [G.c] at hp1
  simp [irPTerm]
  refine CallK_of (hT n (by omega) H _ i s hi ((Mo.refl s).pre hp (by decide) (by simp only [G.c]; omega))) ?_
  rintro _ _ ⟨a0, s1, rfl, rfl, r1⟩
  have b1 := r1.le
  have ho : ∀ a : N, ∃ (k f t : Int) (w : Bs) (q : Int) (za : Bool) (ks : List N), a.v = .agg [.d (.int .i64 k), .d (.int .i64 f), .d (.int .i64 t), .d (.str w), .d (.int .i64 q), .d (.sl za 6 (ks.map N.enc))] ∧ abx F.tn a = .box F.tn [.d (.int .i64 k), .d (.int .i64 f), .d (.int .i64 t), .d (.str w), .d (.int .i64 q), .d (.sl za 6 (ks.map N.enc))] := fun a => by
    obtain ⟨k, f, t, w, q, za, ks⟩ := a
    exact ⟨k, f, t, w, q, za, ks, by rw [N.v_mk], by rw [abx, N.enc_mk]; rfl⟩
  obtain ⟨XX, hXX⟩ : ∃ XX : N → Hp, XX = fun a => [Ob.box F.tn [.d (.int .i64 0), .d (.int .i64 0), .d (.int .i64 0), .d (.str []), .d (.int .i64 0), .d (.sl true 6 [])], abx F.tn a] := ⟨_, rfl⟩
  have hst : ∀ (a0 : N) (o : Ob) (s1 : PSt), (H.set i (pst F.tp z L s1) ++ [Ob.box F.tn [.d (.int .i64 0), .d (.int .i64 0), .d (.int .i64 0), .d (.str []), .d (.int .i64 0), .d (.sl true 6 [])], o]).set (H.length + 1) (abx F.tn a0) = H.set i (pst F.tp z L s1) ++ XX a0 := fun a0 o s1 => by rw [hXX]; simp
  obtain ⟨E, hE⟩ : ∃ E : Fr → Hp → Prop, E = fun fr H' => ∃ a s', (fr 0 = .ptr i 0 ∧ fr 2 = .ptr H.length 0 ∧ fr 3 = .ptr (H.length + 1) 0) ∧ Rel L (n + 1) .term s a s' ∧ H' = H.set i (pst F.tp z L s') ++ XX a := ⟨_, rfl⟩
  have hE1 : ∀ fr a s', (fr 0 = .ptr i 0 ∧ fr 2 = .ptr H.length 0 ∧ fr 3 = .ptr (H.length + 1) 0) → Rel L (n + 1) .term s a s' → E fr (H.set i (pst F.tp z L s') ++ XX a) := fun fr a s' h h' => by subst hE; exact ⟨a, s', h, h', rfl⟩
  obtain ⟨k, f, t, w, q, za, ks, hv, hb⟩ := ho a0
  rw [hv]
  simp
  rw [show H.set i (pst F.tp z L s1) ++ [Ob.box F.tn [.d (.int .i64 0), .d (.int .i64 0), .d (.int .i64 0), .d (.str []), .d (.int .i64 0), .d (.sl true 6 [])], .box F.tn [.d (.int .i64 k), .d (.int .i64 f), .d (.int .i64 t), .d (.str w), .d (.int .i64 q), .d (.sl za 6 (ks.map N.enc))]] = H.set i (pst F.tp z L s1) ++ XX a0 by rw [hXX, ← hb]]
  refine LoopK_outR 0 E (fun _ _ => False) ?_ (fun _ _ h => h.elim) ?_
  rotate_left
  · intro fr H' h
    subst hE
    obtain ⟨a, s', ⟨f0, f2, f3⟩, hr, rfl⟩ := h
    obtain ⟨k, f, t, w, q, za, ks, hv, hb⟩ := ho a
    subst hXX
    simp [f0, f2, f3, hb]
    simp [RetK, cutP hcl]
    exact ⟨a, s', hv.symm, by simp, hr⟩
  clear hE
  have hcut : ∀ a s' X, Hp.cut (H.length + 2) (H.set i (pst F.tp z L s') ++ (XX a ++ X)) = H.set i (pst F.tp z L s') ++ XX a := fun a s' X => by
    rw [cutPk hcl, hXX]
    change H.set i (pst F.tp z L s') ++ [_, (abx F.tn a).clr _] = _
    rw [abx_clr]; rfl
  have hcut0 : ∀ a s', Hp.cut (H.length + 2) (H.set i (pst F.tp z L s') ++ XX a) = H.set i (pst F.tp z L s') ++ XX a := fun a s' => by simpa using hcut a s' []
  refine LoopM_of (H.length + 2) (fun d fr H' => ∃ a s', (fr 0 = .ptr i 0 ∧ fr 2 = .ptr H.length 0 ∧ fr 3 = .ptr (H.length + 1) 0) ∧ H' = H.set i (pst F.tp z L s') ++ XX a ∧
      ((d = 0 ∧ s'.2 ≠ none ∧ ∀ m, Rel L (n + 1) .term s m s') ∨ ∃ p1, s' = (p1, none) ∧ s.2 = none ∧ d ≤ n ∧ pp L (n + 1) .term s.1 = pp L d (.termL a) p1 ∧ p1 ≤ L.length ∧ 16 * (L.length - p1) + 1 ≤ d)) (match s1.2 with | none => n | some _ => 0) (by rw [hXX]; simp) ⟨a0, s1, ?_⟩ ?_
  · have hil2 : i < H.length + 2 := by omega
    refine ⟨by simp [hil2], hcut0 _ _, ?_⟩
    obtain ⟨p, st⟩ := s
    cases st with
    | some q =>
      obtain ⟨b, rfl, e⟩ := r1.some'
      simp only [G.wt] at e
      exact .inl ⟨rfl, by simp, fun m => by simp [Rel, G.wt]; omega⟩
    | none =>
      obtain ⟨hp2, hp3⟩ := hp.2.2 rfl
      simp only [G.c] at hp2 hp3
      rcases r1.none' with ⟨q', b, hq, rfl, e3⟩ | ⟨j, hj, rfl⟩
      · exact .inl ⟨rfl, by simp, fun m => by simp [Rel, pp, hq, PR.then]; omega⟩
      · have := pp_adv (L := L) n .post p
        rw [hj] at this
        obtain ⟨v1, v2, v3⟩ := this
        have v2 := v2 rfl
        have v3 := v3 v2
        exact .inr ⟨j, rfl, rfl, by simp, by simp [pp, hj, PR.then], v3, by simp only; omega⟩
  · rintro d fr H' ⟨a, s', ⟨f0, f2, f3⟩, rfl, hd⟩
    have hil2 : i < H.length + 2 := by omega
    have hs'b : s'.1 ≤ 1125899906842624 := by
      rcases hd with ⟨rfl, q1, q2⟩ | ⟨p1, rfl, hs2, hdn, hpp, hp1', hrk⟩
      · have := (q2 a).le; omega
      · simp only; omega
    simp [f0]
    refine CallK_of' (hF.tookA hi _ hs'b) ?_
    rcases hd with ⟨rfl, q1, q2⟩ | ⟨p1, rfl, hs2, hdn, hpp, hp1', hrk⟩
    · obtain ⟨p', st'⟩ := s'
      cases st' with
      | none => simp at q1
      | some q =>
        simp
        exact hE1 _ a _ (by simp [f0, f2, f3]) (q2 _)
    · obtain ⟨d', rfl⟩ : ∃ d', d = d' + 1 := ⟨d - 1, by omega⟩
      have hRel : ∀ m s', (match pp L (d' + 1) (.termL a) p1 with | .out => False | .bad q => s'.2 = some q ∧ s'.1 ≤ L.length + (n + 1) | .ok m' k => m = m' ∧ s' = (k, none)) → Rel L (n + 1) .term s m s' := fun m s' h => by
        unfold Rel
        rw [hs2]
        simp only
        rw [hpp]; exact h
      cases hjb : isT L p1 [42] with
      | false =>
        simp [hjb]
        refine hE1 _ a _ (by simp [f0, f2, f3]) (hRel _ _ ?_)
        simp [pp, hjb]
      | true =>
        have l1 := isT_lt hjb
        obtain ⟨k, f, t, w, q, za, ks, hv, hb⟩ := ho a
        have hld : ∀ s'', (H.set i (pst F.tp z L s'') ++ XX a)[H.length + 1]? = some (.box F.tn [.d (.int .i64 k), .d (.int .i64 f), .d (.int .i64 t), .d (.str w), .d (.int .i64 q), .d (.sl za 6 (ks.map N.enc))]) := fun s'' => by rw [hXX]; simp [hb]
        simp [hjb, f0, f3, hld]
        rw [← hv]
        refine CallK_of (hF.with' hF.kPost (hT d' (by omega)) 18 a hi ⟨by simp only [G.c]; omega, by simp only [G.c]; omega, fun _ => ⟨l1, by simp only [G.c]; omega⟩⟩) ?_
        rintro _ _ ⟨b, s2, rfl, rfl, r2⟩
        have hst2 := hst (N.new 18 a.f s2.1 [] 0 [a, b]) (abx F.tn a) s2
        obtain ⟨k2, f2', t2, w2, q2, za2, ks2, hv2, hb2⟩ := ho (N.new 18 a.f s2.1 [] 0 [a, b])
        rw [hv2]
        have hXa : H.set i (pst F.tp z L s2) ++ XX a = H.set i (pst F.tp z L s2) ++ [Ob.box F.tn [.d (.int .i64 0), .d (.int .i64 0), .d (.int .i64 0), .d (.str []), .d (.int .i64 0), .d (.sl true 6 [])], abx F.tn a] := by rw [hXX]
        rw [hXa]
        simp [f3, hb]
        rw [show H.set i (pst F.tp z L s2) ++ [Ob.box F.tn [.d (.int .i64 0), .d (.int .i64 0), .d (.int .i64 0), .d (.str []), .d (.int .i64 0), .d (.sl true 6 [])], .box F.tn [.d (.int .i64 k2), .d (.int .i64 f2'), .d (.int .i64 t2), .d (.str w2), .d (.int .i64 q2), .d (.sl za2 6 (ks2.map N.enc))]] = H.set i (pst F.tp z L s2) ++ XX (N.new 18 a.f s2.1 [] 0 [a, b]) by rw [hXX, ← hb2]]
        rcases r2.none' with ⟨q', b', hq, rfl, e3⟩ | ⟨j, hj, rfl⟩
        · refine NextM_of (H.length + 2) 0 (Nat.le_refl _) (by rw [hXX]; simp) (by omega) ⟨_, (b', some q'), by simp [f0, f2, f3, hil2], hcut0 _ _, .inl ⟨rfl, by simp, fun m => hRel _ _ ?_⟩⟩
          simp [pp, hjb, hq, PR.then]; omega
        · have := pp_adv (L := L) d' .post (p1 + 1)
          rw [hj] at this
          obtain ⟨v1, v2, v3⟩ := this
          have v2 := v2 rfl
          have v3 := v3 v2
          refine NextM_of (H.length + 2) d' (Nat.le_refl _) (by rw [hXX]; simp) (by omega) ⟨_, (j, none), by simp [f0, f2, f3, hil2], hcut0 _ _, .inr ⟨j, rfl, hs2, by omega, ?_, v3, by omega⟩⟩
          rw [hpp]; simp [pp, hjb, hj, PR.then]

theorem PHas.sum' (hF : PHas P F) (hL : L.length ≤ 1048576) (n : Nat) (hn : n ≤ 1099511627776) (hT : ∀ m, m < n + 1 → UC P F.tp z L m .term F.term) : UC P F.tp z L (n + 1) .sum F.sum := by
  refine UC_of fun H i s hi hp => ?_
  obtain ⟨fn, hf, hcf⟩ := hF.sum
  refine acall_fin hf hcf (by simp [irPSum]) fun hcl _ => ?_
  have hp1 := hp.1
  simp only [G.c] at hp1
  simp [irPSum]
  refine CallK_of (hT n (by omega) H _ i s hi ((Mo.refl s).pre hp (by decide) (by simp only [G.c]; omega))) ?_
  rintro _ _ ⟨a0, s1, rfl, rfl, r1⟩
  have b1 := r1.le
  have ho : ∀ a : N, ∃ (k f t : Int) (w : Bs) (q : Int) (za : Bool) (ks : List N), a.v = .agg [.d (.int .i64 k), .d (.int .i64 f), .d (.int .i64 t), .d (.str w), .d (.int .i64 q), .d (.sl za 6 (ks.map N.enc))] ∧ abx F.tn a = .box F.tn [.d (.int .i64 k), .d (.int .i64 f), .d (.int .i64 t), .d (.str w), .d (.int .i64 q), .d (.sl za 6 (ks.map N.enc))] := fun a => by
    obtain ⟨k, f, t, w, q, za, ks⟩ := a
    exact ⟨k, f, t, w, q, za, ks, by rw [N.v_mk], by rw [abx, N.enc_mk]; rfl⟩
  obtain ⟨XX, hXX⟩ : ∃ XX : N → Hp, XX = fun a => [Ob.box F.tn [.d (.int .i64 0), .d (.int .i64 0), .d (.int .i64 0), .d (.str []), .d (.int .i64 0), .d (.sl true 6 [])], abx F.tn a] := ⟨_, rfl⟩
  have hst : ∀ (a0 : N) (o : Ob) (s1 : PSt), (H.set i (pst F.tp z L s1) ++ [Ob.box F.tn [.d (.int .i64 0), .d (.int .i64 0), .d (.int .i64 0), .d (.str []), .d (.int .i64 0), .d (.sl true 6 [])], o]).set (H.length + 1) (abx F.tn a0) = H.set i (pst F.tp z L s1) ++ XX a0 := fun a0 o s1 => by rw [hXX]; simp
  obtain ⟨E, hE⟩ : ∃ E : Fr → Hp → Prop, E = fun fr H' => ∃ a s', (fr 0 = .ptr i 0 ∧ fr 2 = .ptr H.length 0 ∧ fr 3 = .ptr (H.length + 1) 0) ∧ Rel L (n + 1) .sum s a s' ∧ H' = H.set i (pst F.tp z L s') ++ XX a := ⟨_, rfl⟩
  have hE1 : ∀ fr a s', (fr 0 = .ptr i 0 ∧ fr 2 = .ptr H.length 0 ∧ fr 3 = .ptr (H.length + 1) 0) → Rel L (n + 1) .sum s a s' → E fr (H.set i (pst F.tp z L s') ++ XX a) := fun fr a s' h h' => by subst hE; exact ⟨a, s', h, h', rfl⟩
  obtain ⟨k, f, t, w, q, za, ks, hv, hb⟩ := ho a0
  rw [hv]
  simp
  rw [show H.set i (pst F.tp z L s1) ++ [Ob.box F.tn [.d (.int .i64 0), .d (.int .i64 0), .d (.int .i64 0), .d (.str []), .d (.int .i64 0), .d (.sl true 6 [])], .box F.tn [.d (.int .i64 k), .d (.int .i64 f), .d (.int .i64 t), .d (.str w), .d (.int .i64 q), .d (.sl za 6 (ks.map N.enc))]] = H.set i (pst F.tp z L s1) ++ XX a0 by rw [hXX, ← hb]]
  obtain ⟨RR, hRR⟩ : ∃ RR : Fr → Hp → Prop, RR = fun fr H' => ∃ a s', fr 2 = .ptr H.length 0 ∧ Rel L (n + 1) .sum s a s' ∧ H' = H.set i (pst F.tp z L s') ++ [abx F.tn a, abx F.tn a] := ⟨_, rfl⟩
  have hR1 : ∀ fr a s', fr 2 = .ptr H.length 0 → Rel L (n + 1) .sum s a s' → RR fr (H.set i (pst F.tp z L s') ++ [abx F.tn a, abx F.tn a]) := fun fr a s' h h' => by subst hRR; exact ⟨a, s', h, h', rfl⟩
  refine LoopK_outR 0 E RR ?_ ?_ ?_
  rotate_left
  · intro fr H' h
    subst hRR
    obtain ⟨a, s', f2, hr, rfl⟩ := h
    obtain ⟨k, f, t, w, q, za, ks, hv, hb⟩ := ho a
    simp [f2, hb]
    simp [RetK, cutP hcl]
    exact ⟨a, s', hv.symm, by simp, hr⟩
  · intro fr H' h
    subst hE
    obtain ⟨a, s', ⟨f0, f2, f3⟩, hr, rfl⟩ := h
    obtain ⟨k, f, t, w, q, za, ks, hv, hb⟩ := ho a
    subst hXX
    simp [f0, f2, f3, hb]
    simp [RetK, cutP hcl]
    exact ⟨a, s', hv.symm, by simp, hr⟩
  clear hE hRR
  have hcut : ∀ a s' X, Hp.cut (H.length + 2) (H.set i (pst F.tp z L s') ++ (XX a ++ X)) = H.set i (pst F.tp z L s') ++ XX a := fun a s' X => by
    rw [cutPk hcl, hXX]
    change H.set i (pst F.tp z L s') ++ [_, (abx F.tn a).clr _] = _
    rw [abx_clr]; rfl
  have hcut0 : ∀ a s', Hp.cut (H.length + 2) (H.set i (pst F.tp z L s') ++ XX a) = H.set i (pst F.tp z L s') ++ XX a := fun a s' => by simpa using hcut a s' []
  refine LoopM_of (H.length + 2) (fun d fr H' => ∃ a s', (fr 0 = .ptr i 0 ∧ fr 2 = .ptr H.length 0 ∧ fr 3 = .ptr (H.length + 1) 0) ∧ H' = H.set i (pst F.tp z L s') ++ XX a ∧
      ((d = 0 ∧ s'.2 ≠ none ∧ ∀ m, Rel L (n + 1) .sum s m s') ∨ ∃ p1, s' = (p1, none) ∧ s.2 = none ∧ d ≤ n ∧ pp L (n + 1) .sum s.1 = pp L d (.sumL a) p1 ∧ p1 ≤ L.length ∧ 16 * (L.length - p1) + 1 ≤ d)) (match s1.2 with | none => n | some _ => 0) (by rw [hXX]; simp) ⟨a0, s1, ?_⟩ ?_
  · have hil2 : i < H.length + 2 := by omega
    refine ⟨by simp [hil2], hcut0 _ _, ?_⟩
    obtain ⟨p, st⟩ := s
    cases st with
    | some q =>
      obtain ⟨b, rfl, e⟩ := r1.some'
      simp only [G.wt] at e
      exact .inl ⟨rfl, by simp, fun m => by simp [Rel, G.wt]; omega⟩
    | none =>
      obtain ⟨hp2, hp3⟩ := hp.2.2 rfl
      simp only [G.c] at hp2 hp3
      rcases r1.none' with ⟨q', b, hq, rfl, e3⟩ | ⟨j, hj, rfl⟩
      · exact .inl ⟨rfl, by simp, fun m => by simp [Rel, pp, hq, PR.then]; omega⟩
      · have := pp_adv (L := L) n .term p
        rw [hj] at this
        obtain ⟨v1, v2, v3⟩ := this
        have v2 := v2 rfl
        have v3 := v3 v2
        exact .inr ⟨j, rfl, rfl, by simp, by simp [pp, hj, PR.then], v3, by simp only; omega⟩
  · rintro d fr H' ⟨a, s', ⟨f0, f2, f3⟩, rfl, hd⟩
    have hil2 : i < H.length + 2 := by omega
    have hi' := pget (tp := F.tp) (z := z) (L := L) (H := H) hi s' (XX a)
    rcases hd with ⟨rfl, q1, q2⟩ | ⟨p1, rfl, hs2, hdn, hpp, hp1', hrk⟩
    · obtain ⟨p', st'⟩ := s'
      cases st' with
      | none => simp at q1
      | some q =>
        simp [f0, hi']
        exact hE1 _ a _ (by simp [f0, f2, f3]) (q2 _)
    · obtain ⟨d', rfl⟩ : ∃ d', d = d' + 1 := ⟨d - 1, by omega⟩
      have hRel : ∀ m s', (match pp L (d' + 1) (.sumL a) p1 with | .out => False | .bad q => s'.2 = some q ∧ s'.1 ≤ L.length + (n + 1) | .ok m' k => m = m' ∧ s' = (k, none)) → Rel L (n + 1) .sum s m s' := fun m s' h => by
        unfold Rel
        rw [hs2]
        simp only
        rw [hpp]; exact h
      obtain ⟨k, f, t, w, q, za, ks, hv, hb⟩ := ho a
      have hld : ∀ s'', (H.set i (pst F.tp z L s'') ++ XX a)[H.length + 1]? = some (.box F.tn [.d (.int .i64 k), .d (.int .i64 f), .d (.int .i64 t), .d (.str w), .d (.int .i64 q), .d (.sl za 6 (ks.map N.enc))]) := fun s'' => by rw [hXX]; simp [hb]
      simp [f0, hi']
      refine CallK_of' (hF.tookA hi _ (by simp only; omega)) ?_
      cases hjb : isT L p1 [43] with
      | true =>
        have l1 := isT_lt hjb
        simp [hjb, f0, f3, hld]
        rw [← hv]
        refine CallK_of (hF.with' hF.kTerm (hT d' (by omega)) 16 a hi ⟨by simp only [G.c]; omega, by simp only [G.c]; omega, fun _ => ⟨l1, by simp only [G.c]; omega⟩⟩) ?_
        rintro _ _ ⟨b, s2, rfl, rfl, r2⟩
        obtain ⟨k2, f2', t2, w2, q2, za2, ks2, hv2, hb2⟩ := ho (N.new 16 a.f s2.1 [] 0 [a, b])
        rw [hv2]
        have hXa : H.set i (pst F.tp z L s2) ++ XX a = H.set i (pst F.tp z L s2) ++ [Ob.box F.tn [.d (.int .i64 0), .d (.int .i64 0), .d (.int .i64 0), .d (.str []), .d (.int .i64 0), .d (.sl true 6 [])], abx F.tn a] := by rw [hXX]
        rw [hXa]
        simp [f3, hb]
        rw [show H.set i (pst F.tp z L s2) ++ [Ob.box F.tn [.d (.int .i64 0), .d (.int .i64 0), .d (.int .i64 0), .d (.str []), .d (.int .i64 0), .d (.sl true 6 [])], .box F.tn [.d (.int .i64 k2), .d (.int .i64 f2'), .d (.int .i64 t2), .d (.str w2), .d (.int .i64 q2), .d (.sl za2 6 (ks2.map N.enc))]] = H.set i (pst F.tp z L s2) ++ XX (N.new 16 a.f s2.1 [] 0 [a, b]) by rw [hXX, ← hb2]]
        rcases r2.none' with ⟨q', b', hq, rfl, e3⟩ | ⟨j, hj, rfl⟩
        · refine NextM_of (H.length + 2) 0 (Nat.le_refl _) (by rw [hXX]; simp) (by omega) ⟨_, (b', some q'), by simp [f0, f2, f3, hil2], hcut0 _ _, .inl ⟨rfl, by simp, fun m => hRel _ _ ?_⟩⟩
          simp [pp, hjb, hq, PR.then]; omega
        · have := pp_adv (L := L) d' .term (p1 + 1)
          rw [hj] at this
          obtain ⟨v1, v2, v3⟩ := this
          have v2 := v2 rfl
          have v3 := v3 v2
          refine NextM_of (H.length + 2) d' (Nat.le_refl _) (by rw [hXX]; simp) (by omega) ⟨_, (j, none), by simp [f0, f2, f3, hil2], hcut0 _ _, .inr ⟨j, rfl, hs2, by omega, ?_, v3, by omega⟩⟩
          rw [hpp]; simp [pp, hjb, hj, PR.then]
      | false =>
      simp [hjb, f0]
      refine CallK_of' (hF.tookA hi _ (by simp only; omega)) ?_
      cases hjc : isT L p1 [45] with
      | true =>
        have l1 := isT_lt hjc
        simp [hjc, f0, f3, hld]
        rw [← hv]
        refine CallK_of (hF.with' hF.kTerm (hT d' (by omega)) 17 a hi ⟨by simp only [G.c]; omega, by simp only [G.c]; omega, fun _ => ⟨l1, by simp only [G.c]; omega⟩⟩) ?_
        rintro _ _ ⟨b, s2, rfl, rfl, r2⟩
        obtain ⟨k2, f2', t2, w2, q2, za2, ks2, hv2, hb2⟩ := ho (N.new 17 a.f s2.1 [] 0 [a, b])
        rw [hv2]
        have hXa : H.set i (pst F.tp z L s2) ++ XX a = H.set i (pst F.tp z L s2) ++ [Ob.box F.tn [.d (.int .i64 0), .d (.int .i64 0), .d (.int .i64 0), .d (.str []), .d (.int .i64 0), .d (.sl true 6 [])], abx F.tn a] := by rw [hXX]
        rw [hXa]
        simp [f3, hb]
        rw [show H.set i (pst F.tp z L s2) ++ [Ob.box F.tn [.d (.int .i64 0), .d (.int .i64 0), .d (.int .i64 0), .d (.str []), .d (.int .i64 0), .d (.sl true 6 [])], .box F.tn [.d (.int .i64 k2), .d (.int .i64 f2'), .d (.int .i64 t2), .d (.str w2), .d (.int .i64 q2), .d (.sl za2 6 (ks2.map N.enc))]] = H.set i (pst F.tp z L s2) ++ XX (N.new 17 a.f s2.1 [] 0 [a, b]) by rw [hXX, ← hb2]]
        rcases r2.none' with ⟨q', b', hq, rfl, e3⟩ | ⟨j, hj, rfl⟩
        · refine NextM_of (H.length + 2) 0 (Nat.le_refl _) (by rw [hXX]; simp) (by omega) ⟨_, (b', some q'), by simp [f0, f2, f3, hil2], hcut0 _ _, .inl ⟨rfl, by simp, fun m => hRel _ _ ?_⟩⟩
          simp [pp, hjb, hjc, hq, PR.then]; omega
        · have := pp_adv (L := L) d' .term (p1 + 1)
          rw [hj] at this
          obtain ⟨v1, v2, v3⟩ := this
          have v2 := v2 rfl
          have v3 := v3 v2
          refine NextM_of (H.length + 2) d' (Nat.le_refl _) (by rw [hXX]; simp) (by omega) ⟨_, (j, none), by simp [f0, f2, f3, hil2], hcut0 _ _, .inr ⟨j, rfl, hs2, by omega, ?_, v3, by omega⟩⟩
          rw [hpp]; simp [pp, hjb, hjc, hj, PR.then]
      | false =>
        have hx0 : (XX a)[0]? = some (.box F.tn [.d (.int .i64 0), .d (.int .i64 0), .d (.int .i64 0), .d (.str []), .d (.int .i64 0), .d (.sl true 6 [])]) := by rw [hXX]; rfl
        have hx1 : ∀ o, (XX a).set 0 o = [o, abx F.tn a] := fun o => by rw [hXX]; rfl
        simp [hjc, f3, hld, f2, hx0, hx1]
        rw [← hb]
        refine hR1 _ a _ (by simp [f2]) (hRel _ _ ?_)
        simp [pp, hjb, hjc]

end
end Go.Zam

namespace Go.Zam
set_option linter.all false
set_option maxRecDepth 100000
set_option maxHeartbeats 1000000

section
variable {P : Program} {F : PF} {z : Bool} {L : List Tk}

theorem PHas.post' (hF : PHas P F) (hL : L.length ≤ 1048576) (n : Nat) (hn : n ≤ 1099511627776) (hT : UC P F.tp z L n .atom F.atom) (hX : ∀ m, m < n → UC P F.tp z L m .expr F.expr) : UC P F.tp z L (n + 1) .post F.post := by
  refine UC_of fun H i s hi hp => ?_
  obtain ⟨fn, hf, hcf⟩ := hF.post
  refine acall_fin hf hcf (by simp [irPPost]) fun hcl _ => ?_
  have hp1 := hp.1
  simp only [G.c] at hp1
  simp [irPPost]
  refine CallK_of (hT H _ i s hi ((Mo.refl s).pre hp (by decide) (by simp only [G.c]; omega))) ?_
  rintro _ _ ⟨a0, s1, rfl, rfl, r1⟩
  have b1 := r1.le
  have ho : ∀ a : N, ∃ (k f t : Int) (w : Bs) (q : Int) (za : Bool) (ks : List N), a.f = f ∧ a.enc = [.int .i64 k, .int .i64 f, .int .i64 t, .str w, .int .i64 q, .sl za 6 (ks.map N.enc)] ∧ a.v = .agg [.d (.int .i64 k), .d (.int .i64 f), .d (.int .i64 t), .d (.str w), .d (.int .i64 q), .d (.sl za 6 (ks.map N.enc))] ∧ abx F.tn a = .box F.tn [.d (.int .i64 k), .d (.int .i64 f), .d (.int .i64 t), .d (.str w), .d (.int .i64 q), .d (.sl za 6 (ks.map N.enc))] := fun a => by
    obtain ⟨k, f, t, w, q, za, ks⟩ := a
    exact ⟨k, f, t, w, q, za, ks, rfl, by rw [N.enc_mk], by rw [N.v_mk], by rw [abx, N.enc_mk]; rfl⟩
  obtain ⟨XX, hXX⟩ : ∃ XX : N → Hp, XX = fun a => [Ob.box F.tn [.d (.int .i64 0), .d (.int .i64 0), .d (.int .i64 0), .d (.str []), .d (.int .i64 0), .d (.sl true 6 [])], abx F.tn a] := ⟨_, rfl⟩
  have hst : ∀ (a0 : N) (o : Ob) (s1 : PSt), (H.set i (pst F.tp z L s1) ++ [Ob.box F.tn [.d (.int .i64 0), .d (.int .i64 0), .d (.int .i64 0), .d (.str []), .d (.int .i64 0), .d (.sl true 6 [])], o]).set (H.length + 1) (abx F.tn a0) = H.set i (pst F.tp z L s1) ++ XX a0 := fun a0 o s1 => by rw [hXX]; simp
  obtain ⟨E, hE⟩ : ∃ E : Fr → Hp → Prop, E = fun fr H' => ∃ a s', (fr 0 = .ptr i 0 ∧ fr 2 = .ptr H.length 0 ∧ fr 3 = .ptr (H.length + 1) 0) ∧ Rel L (n + 1) .post s a s' ∧ H' = H.set i (pst F.tp z L s') ++ XX a := ⟨_, rfl⟩
  have hE1 : ∀ fr a s', (fr 0 = .ptr i 0 ∧ fr 2 = .ptr H.length 0 ∧ fr 3 = .ptr (H.length + 1) 0) → Rel L (n + 1) .post s a s' → E fr (H.set i (pst F.tp z L s') ++ XX a) := fun fr a s' h h' => by subst hE; exact ⟨a, s', h, h', rfl⟩
  obtain ⟨k, f, t, w, q, za, ks, haf, hen, hv, hb⟩ := ho a0
  rw [hv]
  simp
  rw [show H.set i (pst F.tp z L s1) ++ [Ob.box F.tn [.d (.int .i64 0), .d (.int .i64 0), .d (.int .i64 0), .d (.str []), .d (.int .i64 0), .d (.sl true 6 [])], .box F.tn [.d (.int .i64 k), .d (.int .i64 f), .d (.int .i64 t), .d (.str w), .d (.int .i64 q), .d (.sl za 6 (ks.map N.enc))]] = H.set i (pst F.tp z L s1) ++ XX a0 by rw [hXX, ← hb]]
  obtain ⟨RR, hRR⟩ : ∃ RR : Fr → Hp → Prop, RR = fun fr H' => ∃ a s' Y, fr 2 = .ptr H.length 0 ∧ Rel L (n + 1) .post s a s' ∧ H' = H.set i (pst F.tp z L s') ++ (abx F.tn a :: Y) := ⟨_, rfl⟩
  have hR1 : ∀ fr a s' Y, fr 2 = .ptr H.length 0 → Rel L (n + 1) .post s a s' → RR fr (H.set i (pst F.tp z L s') ++ (abx F.tn a :: Y)) := fun fr a s' Y h h' => by subst hRR; exact ⟨a, s', Y, h, h', rfl⟩
  refine LoopK_outR 0 E RR ?_ ?_ ?_
  rotate_left
  · intro fr H' h
    subst hRR
    obtain ⟨a, s', Y, f2, hr, rfl⟩ := h
    obtain ⟨k, f, t, w, q, za, ks, haf, hen, hv, hb⟩ := ho a
    simp [f2, hb]
    simp [RetK, cutP hcl]
    exact ⟨a, s', hv.symm, by simp, hr⟩
  · intro fr H' h
    subst hE
    obtain ⟨a, s', ⟨f0, f2, f3⟩, hr, rfl⟩ := h
    obtain ⟨k, f, t, w, q, za, ks, haf, hen, hv, hb⟩ := ho a
    subst hXX
    simp [f0, f2, f3, hb]
    simp [RetK, cutP hcl]
    exact ⟨a, s', hv.symm, by simp, hr⟩
  clear hE hRR
  have hcut : ∀ a s' X, Hp.cut (H.length + 2) (H.set i (pst F.tp z L s') ++ (XX a ++ X)) = H.set i (pst F.tp z L s') ++ XX a := fun a s' X => by
    rw [cutPk hcl, hXX]
    change H.set i (pst F.tp z L s') ++ [_, (abx F.tn a).clr _] = _
    rw [abx_clr]; rfl
  have hcut0 : ∀ a s', Hp.cut (H.length + 2) (H.set i (pst F.tp z L s') ++ XX a) = H.set i (pst F.tp z L s') ++ XX a := fun a s' => by simpa using hcut a s' []
  refine LoopM_of (H.length + 2) (fun d fr H' => ∃ a s', (fr 0 = .ptr i 0 ∧ fr 2 = .ptr H.length 0 ∧ fr 3 = .ptr (H.length + 1) 0) ∧ H' = H.set i (pst F.tp z L s') ++ XX a ∧
      ((d = 0 ∧ s'.2 ≠ none ∧ ∀ m, Rel L (n + 1) .post s m s') ∨ ∃ p1, s' = (p1, none) ∧ s.2 = none ∧ d ≤ n ∧ pp L (n + 1) .post s.1 = pp L d (.postL a) p1 ∧ p1 ≤ L.length ∧ 16 * (L.length - p1) + 1 ≤ d)) (match s1.2 with | none => n | some _ => 0) (by rw [hXX]; simp) ⟨a0, s1, ?_⟩ ?_
  · have hil2 : i < H.length + 2 := by omega
    refine ⟨by simp [hil2], hcut0 _ _, ?_⟩
    obtain ⟨p, st⟩ := s
    cases st with
    | some q =>
      obtain ⟨b, rfl, e⟩ := r1.some'
      simp only [G.wt] at e
      exact .inl ⟨rfl, by simp, fun m => by simp [Rel, G.wt]; omega⟩
    | none =>
      obtain ⟨hp2, hp3⟩ := hp.2.2 rfl
      simp only [G.c] at hp2 hp3
      rcases r1.none' with ⟨q', b, hq, rfl, e3⟩ | ⟨j, hj, rfl⟩
      · exact .inl ⟨rfl, by simp, fun m => by simp [Rel, pp, hq, PR.then]; omega⟩
      · have := pp_adv (L := L) n .atom p
        rw [hj] at this
        obtain ⟨v1, v2, v3⟩ := this
        have v2 := v2 rfl
        have v3 := v3 v2
        exact .inr ⟨j, rfl, rfl, by simp, by simp [pp, hj, PR.then], v3, by simp only; omega⟩
  · rintro d fr H' ⟨a, s', ⟨f0, f2, f3⟩, rfl, hd⟩
    have hil2 : i < H.length + 2 := by omega
    have hi' := pget (tp := F.tp) (z := z) (L := L) (H := H) hi s'
    rcases hd with ⟨rfl, q1, q2⟩ | ⟨p1, rfl, hs2, hdn, hpp, hp1', hrk⟩
    · obtain ⟨p', st'⟩ := s'
      cases st' with
      | none => simp at q1
      | some q =>
        simp [f0, hi']
        exact hE1 _ a _ (by simp [f0, f2, f3]) (q2 _)
    · obtain ⟨d', rfl⟩ : ∃ d', d = d' + 1 := ⟨d - 1, by omega⟩
      have hRel : ∀ m s', (match pp L (d' + 1) (.postL a) p1 with | .out => False | .bad q => s'.2 = some q ∧ s'.1 ≤ L.length + (n + 1) | .ok m' k => m = m' ∧ s' = (k, none)) → Rel L (n + 1) .post s m s' := fun m s' h => by
        unfold Rel
        rw [hs2]
        simp only
        rw [hpp]; exact h
      obtain ⟨k, f, t, w, q, za, ks, haf, hen, hv, hb⟩ := ho a
      have hXa : ∀ s'', H.set i (pst F.tp z L s'') ++ XX a = H.set i (pst F.tp z L s'') ++ [Ob.box F.tn [.d (.int .i64 0), .d (.int .i64 0), .d (.int .i64 0), .d (.str []), .d (.int .i64 0), .d (.sl true 6 [])], .box F.tn [.d (.int .i64 k), .d (.int .i64 f), .d (.int .i64 t), .d (.str w), .d (.int .i64 q), .d (.sl za 6 (ks.map N.enc))]] := fun s'' => by rw [hXX, ← hb]
      rw [hXa]
      have hnext : ∀ (kk : Int) (s2 : PSt) (w' : Bs) (at' : Int) (l : List N) (Y : Hp), l ≠ [] → Hp.cut (H.length + 2) (H.set i (pst F.tp z L s2) ++ (Ob.box F.tn [.d (.int .i64 0), .d (.int .i64 0), .d (.int .i64 0), .d (.str []), .d (.int .i64 0), .d (.sl true 6 [])] :: nob F.tn kk f (s2.1 : Int) w' at' false (l.map N.enc) (H.length + 2) :: Y)) = H.set i (pst F.tp z L s2) ++ XX (N.new kk a.f s2.1 w' at' l) := fun kk s2 w' at' l Y hl => by
        have hle : l.isEmpty = false := by cases l with | nil => exact absurd rfl hl | cons x r => rfl
        rw [cutPk hcl, hXX]
        simp [nob, abx, N.new, N.enc_mk, haf, hle]
      simp [f0, hi', f3]
      refine CallK_of' (hF.tookA hi _ (by simp only; omega)) ?_
      cases hjb : isT L p1 [46] with
      | true =>
        have l1 := isT_lt hjb
        simp [hjb, f0]
        refine CallK_of' (hF.wordA (j := 3) (q := 2) hi (by simp only; omega) rfl (by simp)) ?_
        generalize h5 : wordS L (p1 + 1, none) = s5
        simp [nob, f0]
        refine CallK_of' (hF.doneA (q := 2) hi (by simp)) ?_
        simp [nag, f3]
        have hn5 := hnext 19 s5 (if kdT L (p1 + 1) = 1 then txT L (p1 + 1) else []) (if kdT L (p1 + 1) = 1 then (p1 : Int) + 1 else 0) [a]
        simp only [List.map_cons, List.map_nil, hen, nob] at hn5
        by_cases c5 : kdT L (p1 + 1) = 1
        · have l5 : p1 + 1 < L.length := kdT_lt (by omega)
          simp [c5] at h5 hn5
          subst h5
          simp [c5]
          refine NextM_of (H.length + 2) d' (Nat.le_refl _) (by simp) (by omega) ⟨_, _, by simp [f0, f2, f3, hil2], hn5 _, .inr ⟨p1 + 1 + 1, rfl, hs2, by omega, ?_, by omega, by omega⟩⟩
          rw [hpp]; simp [pp, hjb, wordR, c5]
        · simp [c5] at h5 hn5
          subst h5
          simp [c5]
          refine NextM_of (H.length + 2) 0 (Nat.le_refl _) (by simp) (by omega) ⟨_, _, by simp [f0, f2, f3, hil2], hn5 _, .inl ⟨rfl, by simp, fun m => hRel _ _ ?_⟩⟩
          simp [pp, hjb, wordR, c5]; omega
      | false =>
      simp [hjb, f0]
      refine CallK_of' (hF.tookA hi _ (by simp only; omega)) ?_
      cases hjc : isT L p1 [40] with
      | true =>
        have l1 := isT_lt hjc
        simp [hjc, f0]
        refine CallK_of (hF.list' hL d' (by omega) (g := .expr) (jn := 3) (jt := 2) (ks0 := [a]) (k := 20) (f := f) (t := 0) (w := []) (a := 0) (zz := false) hi hF.kExpr (by simp [A.lo]; omega) rfl (by simp) (by simp [nob, hen]) rfl (fun m hm ks s hps => by simpa using hX m (by omega) H _ i s hi hps) (p1 + 1, none) ⟨by simp only [G.c]; omega, by simp only [G.c]; omega, fun _ => ⟨l1, by simp only [G.c]; omega⟩⟩) ?_
        rintro _ _ ⟨kl, s2, rfl, rfl, r2, hkl⟩
        simp [XL, nob, f0]
        refine CallK_of' (hF.doneA (q := 2) hi (by simp)) ?_
        simp [nag, f3]
        have hn5 := hnext 20 s2 [] 0 (a :: kl)
        simp only [List.map_cons, nob] at hn5
        rcases r2.none' with ⟨q', b', hq, rfl, e3⟩ | ⟨j, hj, rfl⟩
        · refine NextM_of (H.length + 2) 0 (Nat.le_refl _) (by simp) (by omega) ⟨_, _, by simp [f0, f2, f3, hil2], hn5 _ (by simp), .inl ⟨rfl, by simp, fun m => hRel _ _ ?_⟩⟩
          simp [pp, hjb, hjc, hq, PR.then]; omega
        · have := pp_adv (L := L) d' (.list .expr [41]) (p1 + 1)
          rw [hj] at this
          obtain ⟨v1, v2, v3⟩ := this
          have v2 := v2 rfl
          have v3 := v3 v2
          refine NextM_of (H.length + 2) d' (Nat.le_refl _) (by simp) (by omega) ⟨_, _, by simp [f0, f2, f3, hil2], hn5 _ (by simp), .inr ⟨j, rfl, hs2, by omega, ?_, v3, by omega⟩⟩
          rw [hpp]; simp [pp, hjb, hjc, hj, PR.then, N.bag, N.new, N.ks]
      | false =>
        simp [hjc, f3, f2]
        rw [← hb]
        refine hR1 _ a _ _ (by simp [f2]) (hRel _ _ ?_)
        simp [pp, hjb, hjc]

end
end Go.Zam

namespace Go.Zam
set_option linter.all false
set_option maxRecDepth 100000
set_option maxHeartbeats 1000000

theorem tokA_k (L : List Tk) (i : Nat) : ∃ (a : Int) (l : Bs), tokA_ L i = .agg [.d (.int .i64 (kdT L i)), .d (.int .i64 a), .d (.str l), .d (.str (txT L i))] := by
  unfold tokA_ kdT txT
  cases L[i]? with
  | none => exact ⟨_, _, rfl⟩
  | some t => exact ⟨_, _, rfl⟩

theorem lamRel {L : List Tk} {n p : Nat} {s3 s4 s5 : PSt} {t3 t4 t5 : N} (h3 : ¬ kdT L p = 3) (h4 : ¬ kdT L p = 4) (h1 : ¬ kdT L p = 1) (h5 : isT L p [105, 110, 112, 117, 116] = false) (h6 : isT L p [40] = false) (h7 : isT L p [123] = false) (ch8 : isT L p [102, 110] = true)
    (hp2 : p ≤ L.length) (hp3 : 16 * (L.length - p) + 1 ≤ n + 1) (l0 : p < L.length) (r3 : Rel L n .params (p + 1, none) t3 s3) (r4 : Rel L n .typed s3 t4 s4) (r5 : Rel L n .block s4 t5 s5) : Rel L (n + 1) .atom (p, none) (N.new 28 p s5.1 [] 0 [t3, t4, t5]) s5 := by
  rcases r3.none' with ⟨q, a, e, rfl, e3⟩ | ⟨k, e, rfl⟩
  · obtain ⟨b, rfl, e4⟩ := r4.some'
    obtain ⟨c, rfl, e5⟩ := r5.some'
    simp only [G.wt] at e4 e5
    simp [Rel, pp, h3, h4, h1, kInput, kFn, wantR, h5, h6, h7, ch8, e, PR.then]
    omega
  rcases r4.none' with ⟨q, a, e', rfl, e4⟩ | ⟨k', e', rfl⟩
  · obtain ⟨c, rfl, e5⟩ := r5.some'
    simp only [G.wt] at e5
    simp [Rel, pp, h3, h4, h1, kInput, kFn, wantR, h5, h6, h7, ch8, e, e', PR.then]
    omega
  rcases r5.none' with ⟨q, a, e'', rfl, e5⟩ | ⟨k'', e'', rfl⟩
  · simp [Rel, pp, h3, h4, h1, kInput, kFn, wantR, h5, h6, h7, ch8, e, e', e'', PR.then]
    omega
  simp [Rel, pp, h3, h4, h1, kInput, kFn, wantR, h5, h6, h7, ch8, e, e', e'', PR.then]

section
variable {P : Program} {F : PF} {z : Bool} {L : List Tk}

theorem PHas.atom' (hF : PHas P F) (hL : L.length ≤ 1048576) (n : Nat) (hn : n ≤ 1099511627776) (hX : UC P F.tp z L n .expr F.expr) (hE : ∀ m, m < n → UCc P F.tp F.tb z L m .entry F.entry)
    (hP : UC P F.tp z L n .params F.params) (hT : UC P F.tp z L n .typed F.typed) (hB : UC P F.tp z L n .block F.block) : UC P F.tp z L (n + 1) .atom F.atom := by
  refine UC_of fun H i s hi hp => ?_
  obtain ⟨fn, hf, hcf⟩ := hF.atom
  refine acall_norm (acall_fin hf hcf (by simp [irPAtom]) fun hcl _ => ?_)
  have hp1 := hp.1
  simp only [G.c] at hp1
  simp [irPAtom]
  refine CallK_of' (hF.nodeA hi _) ?_
  simp [nag]
  refine CallK_of' (hF.nowA hi) ?_
  obtain ⟨ta, tl, htk⟩ := tokA_k L s.1
  rw [htk]
  have hi' := pget (tp := F.tp) (z := z) (L := L) (H := H) hi s
  have hps : Ob.box F.tp [A.d (D.sl z 4 (L.map encTk)), A.d (D.int .i64 ((s.1 : Int) + 1)), A.d (D.int .i64 (if s.2.isSome = true then 24 else 0)), A.d (D.int .i64 ((s.2.getD 0 : Nat) : Int))] = pst F.tp z L (s.1 + 1, s.2) := by simp [pst]
  have hw : IntKind.i64.wrap ((s.1 : Int) + 1) = ((s.1 + 1 : Nat) : Int) := by rw [wrap_i64 (by omega) (by omega)]; omega
  simp
  by_cases h3 : kdT L s.1 = 3
  · simp [h3, hi', hw, up hi]
    rw [hps]
    repeat' apply And.intro
    all_goals
      refine CallK_of' (hF.doneA (q := 3) hi (by simp)) ?_
      simp [nag]
      simp [RetK, cutP hcl, nl]
      refine fin_node [] (by simp) (by simp) ?_
      obtain ⟨p, st⟩ := s
      cases st with
      | some q => simp [Rel, G.wt]
      | none => simp only at h3; simp [Rel, pp, h3]
  by_cases h4 : kdT L s.1 = 4
  · simp [h3, h4, hi', hw, up hi]
    rw [hps]
    repeat' apply And.intro
    all_goals
      refine CallK_of' (hF.doneA (q := 3) hi (by simp)) ?_
      simp [nag]
      simp [RetK, cutP hcl, nl]
      refine fin_node [] (by simp) (by simp) ?_
      obtain ⟨p, st⟩ := s
      cases st with
      | some q => simp [Rel, G.wt]
      | none => simp only at h3 h4; simp [Rel, pp, h3, h4]
  by_cases h1 : kdT L s.1 = 1
  · simp [h3, h4, h1]
    refine CallK_of' (hF.wordA (j := 4) (q := 3) hi (by omega) rfl (by simp)) ?_
    generalize h5 : wordS L s = s5
    simp [nob]
    refine CallK_of' (hF.doneA (q := 3) hi (by simp)) ?_
    simp [nag]
    simp [RetK, cutP hcl, nl]
    refine fin_node [] (by simp) (by simp) ?_
    subst h5
    obtain ⟨p, st⟩ := s
    cases st with
    | some q => simp [Rel, G.wt]
    | none => simp only at h3 h4 h1; simp [Rel, pp, h3, h4, h1]
  simp [h3, h4, h1]
  refine CallK_of' (hF.tookA hi _ (by omega)) ?_
  cases h5 : tookB L [105, 110, 112, 117, 116] s with
  | true =>
    obtain ⟨p, rfl, ch5⟩ := tookB_t h5
    have l0 := isT_lt ch5
    obtain ⟨hp2, hp3⟩ := hp.2.2 rfl
    simp only [G.c] at hp2 hp3
    simp only at h3 h4 h1
    simp [ch5]
    refine CallK_of' (hF.doneA (q := 3) hi (by simp)) ?_
    simp [nag]
    simp [RetK, cutP hcl, nl]
    refine fin_node [] (by simp) (by simp) ?_
    simp [Rel, pp, h3, h4, h1, kInput, ch5]
  | false =>
  rw [tookS_f h5]
  simp
  refine CallK_of' (hF.tookA hi _ (by omega)) ?_
  cases h6 : tookB L [40] s with
  | true =>
    obtain ⟨p, rfl, ch6⟩ := tookB_t h6
    have l0 := isT_lt ch6
    obtain ⟨hp2, hp3⟩ := hp.2.2 rfl
    simp only [G.c] at hp2 hp3
    simp only at h3 h4 h1
    simp at h5
    simp [ch6]
    refine CallK_of (hX H _ i (p + 1, none) hi ⟨by simp only [G.c]; omega, by simp only [G.c]; omega, fun _ => ⟨l0, by simp only [G.c]; omega⟩⟩) ?_
    rintro _ _ ⟨x, s7, rfl, rfl, r7⟩
    have b7 := r7.le
    simp [-rowOf]
    refine CallK_of' (hF.putA (j := 4) (q := 3) (rows := []) rfl rfl (by simp)) ?_
    simp [nob]
    refine CallK_of' (hF.wantA hi _ (by simp only at b7; omega)) ?_
    generalize h8 : wantS L _ s7 = s8
    simp
    refine CallK_of' (hF.doneA (q := 3) hi (by simp)) ?_
    simp [nag]
    simp [RetK, cutP hcl, nl]
    refine fin_node [x] (by simp) (by simp) ?_
    subst h8
    rcases r7.none' with ⟨q', b', hq, rfl, e3⟩ | ⟨j, hj, rfl⟩
    · simp [Rel, pp, h3, h4, h1, kInput, h5, ch6, hq, PR.then]; omega
    · have := pp_adv (L := L) n .expr (p + 1)
      rw [hj] at this
      obtain ⟨v1, v2, v3⟩ := this
      have v3 := v3 (v2 rfl)
      by_cases c8 : isT L j [41] = true
      · simp [Rel, pp, h3, h4, h1, kInput, h5, ch6, hj, PR.then, wantR, c8]
      · simp [Rel, pp, h3, h4, h1, kInput, h5, ch6, hj, PR.then, wantR, c8]; omega
  | false =>
  rw [tookS_f h6]
  simp
  refine CallK_of' (hF.tookA hi _ (by omega)) ?_
  cases h7 : tookB L [123] s with
  | true =>
    obtain ⟨p, rfl, ch7⟩ := tookB_t h7
    have l0 := isT_lt ch7
    obtain ⟨hp2, hp3⟩ := hp.2.2 rfl
    simp only [G.c] at hp2 hp3
    simp only at h3 h4 h1
    simp at h5 h6
    simp [ch7]
    refine CallK_of (hF.list' hL n hn (g := .entry) (jn := 4) (jt := 3) (ks0 := []) hi hF.kEntry (by simp [A.lo]) rfl (by simp) rfl rfl (fun m hm ks s hps => hE m hm H _ i 0 s hi (by simp [XL]) hps) (p + 1, none) ⟨by simp only [G.c]; omega, by simp only [G.c]; omega, fun _ => ⟨l0, by simp only [G.c]; omega⟩⟩) ?_
    rintro _ _ ⟨ks, s2, rfl, rfl, r2, hkl⟩
    simp [XL, nob]
    refine CallK_of' (hF.doneA (q := 3) hi (by simp)) ?_
    simp [nag]
    simp [RetK, cutP hcl, nl]
    refine fin_node ks (by simp) (by simp) ?_
    rcases r2.none' with ⟨q, a, e', rfl, e4⟩ | ⟨k', e', rfl⟩
    · simp [Rel, pp, h3, h4, h1, kInput, h5, h6, ch7, e', PR.then]; omega
    · simp [Rel, pp, h3, h4, h1, kInput, h5, h6, ch7, e', PR.then, N.bag, N.new, N.ks]
  | false =>
  rw [tookS_f h7]
  simp
  refine CallK_of' (hF.tookA hi _ (by omega)) ?_
  cases h8 : tookB L [102, 110] s with
  | true =>
    obtain ⟨p, rfl, ch8⟩ := tookB_t h8
    have l0 := isT_lt ch8
    obtain ⟨hp2, hp3⟩ := hp.2.2 rfl
    simp only [G.c] at hp2 hp3
    simp only at h3 h4 h1
    simp at h5 h6 h7
    simp [ch8]
    repeat' apply And.intro
    all_goals
      refine CallK_of (hP H _ i (p + 1, none) hi ⟨by simp only [G.c]; omega, by simp only [G.c]; omega, fun _ => ⟨l0, by simp only [G.c]; omega⟩⟩) ?_
      rintro _ _ ⟨t3, s3, rfl, rfl, r3⟩
      have m3 := r3.mo
      have b3 := r3.wt0 rfl
      simp only at b3
      simp [-rowOf]
      repeat' apply And.intro
    all_goals
      refine CallK_of (hT H _ i s3 hi ⟨by simp only [G.c]; omega, by simp only [G.c]; omega, fun e => ⟨(m3 e).2.2 l0, by have := (m3 e).2.1; simp only [G.c] at this ⊢; omega⟩⟩) ?_
      rintro _ _ ⟨t4, s4, rfl, rfl, r4⟩
      have m4 := m3.trans r4.mo
      have b4 := r4.wt0 rfl
      simp [-rowOf]
      repeat' apply And.intro
    all_goals
      refine CallK_of (hB H _ i s4 hi ⟨by simp only [G.c]; omega, by simp only [G.c]; omega, fun e => ⟨(m4 e).2.2 l0, by have := (m4 e).2.1; simp only [G.c] at this ⊢; omega⟩⟩) ?_
      rintro _ _ ⟨t5, s5, rfl, rfl, r5⟩
      simp [-rowOf]
      refine CallK_of' (hF.putA (j := 4) (q := 3) (rows := []) rfl rfl (by simp)) ?_
      simp [nob]
      refine CallK_of' (hF.doneA (q := 3) hi (by simp)) ?_
      simp [nag]
      simp [RetK, cutP hcl, nl]
      refine fin_node [t3, t4, t5] (by simp) (by simp) ?_
      clear m3 m4 b3 b4
      exact lamRel h3 h4 h1 h5 h6 h7 ch8 hp2 hp3 l0 r3 r4 r5
  | false =>
  rw [tookS_f h8]
  simp
  refine CallK_of' (hF.failA hi) ?_
  simp
  refine CallK_of' (hF.doneA (q := 3) hi (by simp)) ?_
  simp [nag]
  simp [RetK, cutP hcl, nl]
  refine fin_node [] (by simp) (by simp) ?_
  obtain ⟨p, st⟩ := s
  cases st with
  | some q => simp [Rel, G.wt]
  | none =>
    simp at h3 h4 h1 h5 h6 h7 h8
    obtain ⟨hp2, hp3⟩ := hp.2.2 rfl
    simp only [G.c] at hp2 hp3
    simp [Rel, pp, kInput, kFn, wantR, h3, h4, h1, h5, h6, h7, h8]
    omega

end
end Go.Zam

namespace Go.Zam
set_option linter.all false
set_option maxRecDepth 100000
set_option maxHeartbeats 1000000

section
variable {P : Program} {F : PF} {z : Bool} {L : List Tk}

theorem setsB_eq (hEq : ∀ i, isT L i [61] = true → kdT L i = 5) (i : Nat) : setsB L i = (decide (kdT L i = 1) && isT L (i + 1) [61]) := by
  unfold setsB
  have h := hEq (i + 1)
  unfold isT kdT at *
  cases hg : L[i + 1]? with
  | none => simp
  | some t =>
    rw [hg] at h
    simp only at h ⊢
    by_cases h5 : t.k = 5
    · simp [h5]
    · by_cases h2 : t.k = 2
      · simp [h2] at h ⊢
        intro _; exact h
      · simp [h2, h5]

theorem PHas.stmt' (hF : PHas P F) (hL : L.length ≤ 1048576) (hEq : ∀ i, isT L i [61] = true → kdT L i = 5) (n : Nat) (hn : n ≤ 1099511627776) (hX : UC P F.tp z L n .expr F.expr) (hT : UC P F.tp z L n .typed F.typed) (hB : UC P F.tp z L n .block F.block) : UC P F.tp z L (n + 1) .stmt F.stmt := by
  refine UC_of fun H i s hi hp => ?_
  obtain ⟨fn, hf, hcf⟩ := hF.stmt
  refine acall_norm (acall_fin hf hcf (by simp [irPStmt]) fun hcl _ => ?_)
  have hp1 := hp.1
  simp only [G.c] at hp1
  simp [irPStmt]
  refine CallK_of' (hF.nodeA hi _) ?_
  simp [nag]
  refine CallK_of' (hF.tookA hi _ (by omega)) ?_
  cases h1 : tookB L [108, 101, 116] s with
  | true =>
    obtain ⟨p, rfl, ch1⟩ := tookB_t h1
    have l0 := isT_lt ch1
    obtain ⟨hp2, hp3⟩ := hp.2.2 rfl
    simp only [G.c] at hp2 hp3
    simp only [G.c] at hp1
    simp [ch1]
    refine CallK_of' (hF.wordA (j := 3) (q := 2) hi (by simp only; omega) rfl (by simp)) ?_
    generalize g2 : wordS L (p + 1, none) = s2
    have b2 := wordS_le g2
    have m2 := wordS_mo g2
    simp only at b2
    simp [nob]
    refine CallK_of (hT H _ i s2 hi ⟨by simp only [G.c]; omega, by simp only [G.c]; omega, fun e => ⟨(m2 e).2.2 l0, by have := (m2 e).2.1; simp only [G.c] at this ⊢; omega⟩⟩) ?_
    rintro _ _ ⟨t3, s3, rfl, rfl, rs3⟩
    have bs3 := rs3.wt0 rfl
    have m3 := m2.trans rs3.mo
    try simp only at bs3
    simp [-rowOf]
    refine CallK_of' (hF.putA (j := 3) (q := 2) (rows := []) rfl rfl (by simp)) ?_
    simp [nob]
    refine CallK_of' (hF.wantA hi _ (by omega)) ?_
    generalize g4 : wantS L _ s3 = s4
    have b4 := wantS_le g4
    have m4 := m3.trans (wantS_mo g4)
    simp
    refine CallK_of (hX H _ i s4 hi ⟨by simp only [G.c]; omega, by simp only [G.c]; omega, fun e => ⟨(m4 e).2.2 l0, by have := (m4 e).2.1; simp only [G.c] at this ⊢; omega⟩⟩) ?_
    rintro _ _ ⟨t5, s5, rfl, rfl, rs5⟩
    have bs5 := rs5.le
    have m5 := m4.trans rs5.mo
    try simp only at bs5
    simp [-rowOf]
    refine CallK_of' (hF.putA (j := 3) (q := 2) (rows := [t3.enc]) rfl rfl (by simp)) ?_
    simp [nob]
    refine CallK_of' (hF.wantA hi _ (by omega)) ?_
    generalize g6 : wantS L _ s5 = s6
    simp
    refine CallK_of' (hF.doneA (q := 2) hi (by simp)) ?_
    simp [nag]
    simp [RetK, cutP hcl, nl]
    refine fin_node [t3, t5] (by simp) (by simp) ?_
    clear m2 m3 m4 m5 b2 bs3 b4 bs5
    subst g2 g4 g6
    simp only [Rel, pp, wantR, wordR, kLet, ch1, if_true]
    by_cases c2 : kdT L (p + 1) = 1
    case neg =>
      simp [c2] at rs3
      obtain ⟨a, rfl, e3⟩ := rs3.some'
      simp at rs5
      obtain ⟨b, rfl, e5⟩ := rs5.some'
      simp only [G.wt] at e3 e5
      simp [c2]
      omega
    have l2 : p + 1 < L.length := kdT_lt (by omega)
    simp only [wordS_none, c2, if_true] at rs3
    rcases rs3.none' with ⟨q, a, e, rfl, e3⟩ | ⟨k, e, rfl⟩
    · simp at rs5
      obtain ⟨b, rfl, e5⟩ := rs5.some'
      simp only [G.wt] at e5
      simp [c2, e, PR.then]
      omega
    have v3 := pp_adv (L := L) n .typed (p + 1 + 1)
    rw [e] at v3
    obtain ⟨v1, -, v3⟩ := v3
    by_cases c4 : isT L k [61] = true
    case neg =>
      simp [c4] at rs5
      obtain ⟨b, rfl, e5⟩ := rs5.some'
      simp only [G.wt] at e5
      simp [c2, e, c4, PR.then]
      omega
    have l4 := isT_lt c4
    simp only [wantS_none, c4, if_true] at rs5
    rcases rs5.none' with ⟨q, a, e', rfl, e5⟩ | ⟨k', e', rfl⟩
    · simp [c2, e, c4, e', PR.then]
      omega
    have v5 := pp_adv (L := L) n .expr (k + 1)
    rw [e'] at v5
    obtain ⟨w1, w2, w3⟩ := v5
    have w2 := w2 rfl
    have w3 := w3 w2
    by_cases c6 : isT L k' [59] = true
    · simp [c2, e, c4, e', c6, PR.then]
    · simp [c2, e, c4, e', c6, PR.then]
      omega
  | false =>
  rw [tookS_f h1]
  simp
  refine CallK_of' (hF.tookA hi _ (by omega)) ?_
  cases h2 : tookB L [105, 102] s with
  | true =>
    obtain ⟨p, rfl, ch2⟩ := tookB_t h2
    have l0 := isT_lt ch2
    obtain ⟨hp2, hp3⟩ := hp.2.2 rfl
    simp only [G.c] at hp2 hp3
    simp only [G.c] at hp1
    simp at h1
    simp [ch2]
    refine CallK_of (hX H _ i (p + 1, none) hi ⟨by simp only [G.c]; omega, by simp only [G.c]; omega, fun _ => ⟨l0, by simp only [G.c]; omega⟩⟩) ?_
    rintro _ _ ⟨t3, s3, rfl, rfl, rs3⟩
    have bs3 := rs3.le
    have m3 := rs3.mo
    try simp only at bs3
    simp [-rowOf]
    refine CallK_of (hB H _ i s3 hi ⟨by simp only [G.c]; omega, by simp only [G.c]; omega, fun e => ⟨(m3 e).2.2 l0, by have := (m3 e).2.1; simp only [G.c] at this ⊢; omega⟩⟩) ?_
    rintro _ _ ⟨t4, s4, rfl, rfl, rs4⟩
    have bs4 := rs4.wt0 rfl
    have m4 := m3.trans rs4.mo
    try simp only at bs4
    simp [-rowOf]
    refine CallK_of' (hF.putA (j := 3) (q := 2) (rows := []) rfl rfl (by simp)) ?_
    simp [nob]
    refine CallK_of' (hF.tookA hi _ (by omega)) ?_
    cases h7 : tookB L [101, 108, 115, 101] s4 with
    | true =>
      obtain ⟨p4, rfl, c7⟩ := tookB_t h7
      have l7 := isT_lt c7
      have mm := (m4 rfl).2.1
      simp only at mm
      simp [c7]
      refine CallK_of (hB H _ i (p4 + 1, none) hi ⟨by simp only [G.c]; omega, by simp only [G.c]; omega, fun _ => ⟨l7, by simp only [G.c]; omega⟩⟩) ?_
      rintro _ _ ⟨t5, s5, rfl, rfl, rs5⟩
      simp [-rowOf]
      refine CallK_of' (hF.putA (j := 3) (q := 2) (rows := [t3.enc, t4.enc]) rfl rfl (by simp)) ?_
      simp [nob]
      refine CallK_of' (hF.doneA (q := 2) hi (by simp)) ?_
      simp [nag]
      simp [RetK, cutP hcl, nl]
      refine fin_node [t3, t4, t5] (by simp) (by simp) ?_
      rcases rs3.none' with ⟨q, a, e, rfl, e3⟩ | ⟨k, e, rfl⟩
      · obtain ⟨b, e', -⟩ := rs4.some'; simp at e'
      rcases rs4.none' with ⟨q, a, e', e4', e4⟩ | ⟨k', e', e4'⟩
      · simp at e4'
      obtain rfl : p4 = k' := by simpa using e4'
      rcases rs5.none' with ⟨q, a, e'', rfl, e5⟩ | ⟨k'', e'', rfl⟩
      · simp [Rel, pp, kLet, kIf, kElse, h1, ch2, e, e', c7, e'', PR.then]; omega
      · simp [Rel, pp, kLet, kIf, kElse, h1, ch2, e, e', c7, e'', PR.then]
    | false =>
      rw [tookS_f h7]
      simp
      refine CallK_of' (hF.putA (j := 3) (q := 2) (rows := [t3.enc, t4.enc]) (rows2 := [N.none.enc]) rfl rfl (by simp)) ?_
      simp [nob]
      refine CallK_of' (hF.doneA (q := 2) hi (by simp)) ?_
      simp [nag]
      simp [RetK, cutP hcl, nl]
      refine fin_node [t3, t4, N.none] (by simp) (by simp) ?_
      clear m3 m4 bs3 bs4
      rcases rs3.none' with ⟨q, a, e, rfl, e3⟩ | ⟨k, e, rfl⟩
      · obtain ⟨b, rfl, e4⟩ := rs4.some'
        simp only [G.wt] at e4
        simp [Rel, pp, kLet, kIf, kElse, h1, ch2, e, PR.then]; omega
      rcases rs4.none' with ⟨q, a, e', rfl, e4⟩ | ⟨k', e', rfl⟩
      · simp [Rel, pp, kLet, kIf, kElse, h1, ch2, e, e', PR.then]; omega
      simp at h7
      simp [Rel, pp, kLet, kIf, kElse, h1, ch2, e, e', h7, PR.then]
  | false =>
  rw [tookS_f h2]
  simp
  refine CallK_of' (hF.tookA hi _ (by omega)) ?_
  cases h3 : tookB L [119, 104, 105, 108, 101] s with
  | true =>
    obtain ⟨p, rfl, ch3⟩ := tookB_t h3
    have l0 := isT_lt ch3
    obtain ⟨hp2, hp3⟩ := hp.2.2 rfl
    simp only [G.c] at hp2 hp3
    simp only [G.c] at hp1
    simp at h1 h2
    simp [ch3]
    refine CallK_of (hX H _ i (p + 1, none) hi ⟨by simp only [G.c]; omega, by simp only [G.c]; omega, fun _ => ⟨l0, by simp only [G.c]; omega⟩⟩) ?_
    rintro _ _ ⟨t3, s3, rfl, rfl, rs3⟩
    have bs3 := rs3.le
    have m3 := rs3.mo
    try simp only at bs3
    simp [-rowOf]
    refine CallK_of (hB H _ i s3 hi ⟨by simp only [G.c]; omega, by simp only [G.c]; omega, fun e => ⟨(m3 e).2.2 l0, by have := (m3 e).2.1; simp only [G.c] at this ⊢; omega⟩⟩) ?_
    rintro _ _ ⟨t4, s4, rfl, rfl, rs4⟩
    have bs4 := rs4.wt0 rfl
    have m4 := m3.trans rs4.mo
    try simp only at bs4
    simp [-rowOf]
    refine CallK_of' (hF.putA (j := 3) (q := 2) (rows := []) rfl rfl (by simp)) ?_
    simp [nob]
    refine CallK_of' (hF.doneA (q := 2) hi (by simp)) ?_
    simp [nag]
    simp [RetK, cutP hcl, nl]
    refine fin_node [t3, t4] (by simp) (by simp) ?_
    clear m3 m4 bs3 bs4
    rcases rs3.none' with ⟨q, a, e, rfl, e3⟩ | ⟨k, e, rfl⟩
    · obtain ⟨b, rfl, e4⟩ := rs4.some'
      simp only [G.wt] at e4
      simp [Rel, pp, kLet, kIf, kWhile, h1, h2, ch3, e, PR.then]; omega
    rcases rs4.none' with ⟨q, a, e', rfl, e4⟩ | ⟨k', e', rfl⟩
    · simp [Rel, pp, kLet, kIf, kWhile, h1, h2, ch3, e, e', PR.then]; omega
    simp [Rel, pp, kLet, kIf, kWhile, h1, h2, ch3, e, e', PR.then]
  | false =>
  rw [tookS_f h3]
  simp
  refine CallK_of' (hF.tookA hi _ (by omega)) ?_
  cases h4 : tookB L [112, 114, 105, 110, 116] s with
  | true =>
    obtain ⟨p, rfl, ch4⟩ := tookB_t h4
    have l0 := isT_lt ch4
    obtain ⟨hp2, hp3⟩ := hp.2.2 rfl
    simp only [G.c] at hp2 hp3
    simp only [G.c] at hp1
    simp at h1 h2 h3
    simp [ch4]
    refine CallK_of (hX H _ i (p + 1, none) hi ⟨by simp only [G.c]; omega, by simp only [G.c]; omega, fun _ => ⟨l0, by simp only [G.c]; omega⟩⟩) ?_
    rintro _ _ ⟨t3, s3, rfl, rfl, rs3⟩
    have bs3 := rs3.le
    have m3 := rs3.mo
    try simp only at bs3
    simp [-rowOf]
    refine CallK_of' (hF.putA (j := 3) (q := 2) (rows := []) rfl rfl (by simp)) ?_
    simp [nob]
    refine CallK_of' (hF.wantA hi _ (by omega)) ?_
    generalize g6 : wantS L _ s3 = s6
    simp
    refine CallK_of' (hF.doneA (q := 2) hi (by simp)) ?_
    simp [nag]
    simp [RetK, cutP hcl, nl]
    refine fin_node [t3] (by simp) (by simp) ?_
    clear m3 bs3
    subst g6
    rcases rs3.none' with ⟨q, a, e, rfl, e3⟩ | ⟨k, e, rfl⟩
    · simp [Rel, pp, wantR, kLet, kIf, kWhile, kPrint, h1, h2, h3, ch4, e, PR.then]; omega
    have v5 := pp_adv (L := L) n .expr (p + 1)
    rw [e] at v5
    obtain ⟨w1, w2, w3⟩ := v5
    have w2 := w2 rfl
    have w3 := w3 w2
    by_cases c6 : isT L k [59] = true
    · simp [Rel, pp, wantR, kLet, kIf, kWhile, kPrint, h1, h2, h3, ch4, e, c6, PR.then]
    · simp [Rel, pp, wantR, kLet, kIf, kWhile, kPrint, h1, h2, h3, ch4, e, c6, PR.then]; omega
  | false =>
  rw [tookS_f h4]
  simp
  refine CallK_of' (hF.tookA hi _ (by omega)) ?_
  cases h5 : tookB L [114, 101, 116, 117, 114, 110] s with
  | true =>
    obtain ⟨p, rfl, ch5⟩ := tookB_t h5
    have l0 := isT_lt ch5
    obtain ⟨hp2, hp3⟩ := hp.2.2 rfl
    simp only [G.c] at hp2 hp3
    simp only [G.c] at hp1
    simp at h1 h2 h3 h4
    simp [ch5]
    refine CallK_of (hX H _ i (p + 1, none) hi ⟨by simp only [G.c]; omega, by simp only [G.c]; omega, fun _ => ⟨l0, by simp only [G.c]; omega⟩⟩) ?_
    rintro _ _ ⟨t3, s3, rfl, rfl, rs3⟩
    have bs3 := rs3.le
    have m3 := rs3.mo
    try simp only at bs3
    simp [-rowOf]
    refine CallK_of' (hF.putA (j := 3) (q := 2) (rows := []) rfl rfl (by simp)) ?_
    simp [nob]
    refine CallK_of' (hF.wantA hi _ (by omega)) ?_
    generalize g6 : wantS L _ s3 = s6
    simp
    refine CallK_of' (hF.doneA (q := 2) hi (by simp)) ?_
    simp [nag]
    simp [RetK, cutP hcl, nl]
    refine fin_node [t3] (by simp) (by simp) ?_
    clear m3 bs3
    subst g6
    rcases rs3.none' with ⟨q, a, e, rfl, e3⟩ | ⟨k, e, rfl⟩
    · simp [Rel, pp, wantR, kLet, kIf, kWhile, kPrint, kReturn, h1, h2, h3, h4, ch5, e, PR.then]; omega
    have v5 := pp_adv (L := L) n .expr (p + 1)
    rw [e] at v5
    obtain ⟨w1, w2, w3⟩ := v5
    have w2 := w2 rfl
    have w3 := w3 w2
    by_cases c6 : isT L k [59] = true
    · simp [Rel, pp, wantR, kLet, kIf, kWhile, kPrint, kReturn, h1, h2, h3, h4, ch5, e, c6, PR.then]
    · simp [Rel, pp, wantR, kLet, kIf, kWhile, kPrint, kReturn, h1, h2, h3, h4, ch5, e, c6, PR.then]; omega
  | false =>
  rw [tookS_f h5]
  simp
  refine CallK_of' (hF.sets' (upG hi) (by omega)) ?_
  rw [setsB_eq hEq]
  by_cases h6 : kdT L s.1 = 1 ∧ isT L (s.1 + 1) [61] = true
  · simp [h6.1, h6.2]
    refine CallK_of' (hF.wordA (j := 3) (q := 2) hi (by omega) rfl (by simp)) ?_
    generalize g2 : wordS L s = s2
    have b2 := wordS_le g2
    have m2 := wordS_mo g2
    simp [nob]
    refine CallK_of' (hF.wantA hi _ (by omega)) ?_
    generalize g4 : wantS L _ s2 = s4
    have b4 := wantS_le g4
    have m4 := m2.trans (wantS_mo g4)
    simp
    refine CallK_of (hX H _ i s4 hi (m4.pre hp (by decide) (by simp only [G.c]; omega))) ?_
    rintro _ _ ⟨t5, s5, rfl, rfl, rs5⟩
    have bs5 := rs5.le
    simp [-rowOf]
    refine CallK_of' (hF.putA (j := 3) (q := 2) (rows := []) rfl rfl (by simp)) ?_
    simp [nob]
    refine CallK_of' (hF.wantA hi _ (by omega)) ?_
    generalize g6 : wantS L _ s5 = s6
    simp
    refine CallK_of' (hF.doneA (q := 2) hi (by simp)) ?_
    simp [nag]
    simp [RetK, cutP hcl, nl]
    refine fin_node [t5] (by simp) (by simp) ?_
    clear m2 m4 b2 b4 bs5
    subst g2 g4 g6
    obtain ⟨p, st⟩ := s
    cases st with
    | some q =>
      simp only [wordS_some, wantS_some] at rs5
      obtain ⟨b, rfl, e⟩ := rs5.some'
      simp only [G.wt] at e
      simp [Rel, G.wt]; omega
    | none =>
      simp at h1 h2 h3 h4 h5 h6
      obtain ⟨hp2, hp3⟩ := hp.2.2 rfl
      simp only [G.c] at hp2 hp3
      have l6 := isT_lt h6.2
      simp [h6.1, h6.2] at rs5
      rcases rs5.none' with ⟨q, a, e, rfl, e3⟩ | ⟨k, e, rfl⟩
      · simp [Rel, pp, wantR, kLet, kIf, kWhile, kPrint, kReturn, h1, h2, h3, h4, h5, h6.1, h6.2, e, PR.then]; omega
      have v5 := pp_adv (L := L) n .expr (p + 2)
      rw [e] at v5
      obtain ⟨w1, w2, w3⟩ := v5
      have w2 := w2 rfl
      have w3 := w3 w2
      by_cases c6 : isT L k [59] = true
      · simp [Rel, pp, wantR, kLet, kIf, kWhile, kPrint, kReturn, h1, h2, h3, h4, h5, h6.1, h6.2, e, c6, PR.then]
      · simp [Rel, pp, wantR, kLet, kIf, kWhile, kPrint, kReturn, h1, h2, h3, h4, h5, h6.1, h6.2, e, c6, PR.then]; omega
  have h6' : (decide (kdT L s.1 = 1) && isT L (s.1 + 1) [61]) = false := by
    rw [Bool.and_eq_false_iff]
    by_cases hk : kdT L s.1 = 1
    · right
      cases hh : isT L (s.1 + 1) [61] with
      | false => rfl
      | true => exact absurd ⟨hk, hh⟩ h6
    · left; simpa using hk
  rw [h6']
  simp
  refine CallK_of (hX H _ i s hi ((Mo.refl s).pre hp (by decide) (by simp only [G.c]; omega))) ?_
  rintro _ _ ⟨t5, s5, rfl, rfl, rs5⟩
  have bs5 := rs5.le
  simp [-rowOf]
  refine CallK_of' (hF.putA (j := 3) (q := 2) (rows := []) rfl rfl (by simp)) ?_
  simp [nob]
  refine CallK_of' (hF.wantA hi _ (by omega)) ?_
  generalize g6 : wantS L _ s5 = s6
  simp
  refine CallK_of' (hF.doneA (q := 2) hi (by simp)) ?_
  simp [nag]
  simp [RetK, cutP hcl, nl]
  refine fin_node [t5] (by simp) (by simp) ?_
  clear bs5
  subst g6
  obtain ⟨p, st⟩ := s
  cases st with
  | some q =>
    obtain ⟨b, rfl, e⟩ := rs5.some'
    simp only [G.wt] at e
    simp [Rel, G.wt]; omega
  | none =>
    simp at h1 h2 h3 h4 h5
    simp only at h6
    obtain ⟨hp2, hp3⟩ := hp.2.2 rfl
    simp only [G.c] at hp2 hp3
    rcases rs5.none' with ⟨q, a, e, rfl, e3⟩ | ⟨k, e, rfl⟩
    · simp only [Rel, pp, wantR, kLet, kIf, kWhile, kPrint, kReturn, h1, h2, h3, h4, h5, if_neg h6, e, PR.then]; simp; omega
    have v5 := pp_adv (L := L) n .expr p
    rw [e] at v5
    obtain ⟨w1, w2, w3⟩ := v5
    have w2 := w2 rfl
    have w3 := w3 w2
    by_cases c6 : isT L k [59] = true
    · simp only [Rel, pp, wantR, kLet, kIf, kWhile, kPrint, kReturn, h1, h2, h3, h4, h5, if_neg h6, e, c6, PR.then]; simp [c6]
    · simp only [Rel, pp, wantR, kLet, kIf, kWhile, kPrint, kReturn, h1, h2, h3, h4, h5, if_neg h6, e, c6, PR.then]; simp [c6]; omega

end
end Go.Zam

namespace Go.Zam
set_option linter.all false
set_option maxRecDepth 100000
set_option maxHeartbeats 1000000

section
variable {P : Program} {F : PF} {z : Bool} {L : List Tk}

/-- all that calls itself -/
structure PAll (P : Program) (F : PF) (z : Bool) (L : List Tk) (n : Nat) : Prop where
  use_ : UC P F.tp z L n .use F.use_
  def_ : UC P F.tp z L n .defn F.def_
  params : UC P F.tp z L n .params F.params
  param : UCc P F.tp F.tb z L n .param F.param
  typed : UC P F.tp z L n .typed F.typed
  kind : UC P F.tp z L n .kind F.kind
  tfield : UCc P F.tp F.tb z L n .tfield F.tfield
  block : UC P F.tp z L n .block F.block
  stmt : UC P F.tp z L n .stmt F.stmt
  expr : UC P F.tp z L n .expr F.expr
  sum : UC P F.tp z L n .sum F.sum
  term : UC P F.tp z L n .term F.term
  post : UC P F.tp z L n .post F.post
  atom : UC P F.tp z L n .atom F.atom
  entry : UCc P F.tp F.tb z L n .entry F.entry

theorem UC_zero {tp : TypeId} {g : G} {f : FuncId} (hg : 0 < g.c) : UC P tp z L 0 g f := fun H X i s hi hp => absurd hp.2.1 (by omega)
theorem UCc_zero {tp tb : TypeId} {g : G} {f : FuncId} (hg : 0 < g.c) : UCc P tp tb z L 0 g f := fun H X i q s hi hq hp => absurd hp.2.1 (by omega)

theorem PHas.all (hF : PHas P F) (hL : L.length ≤ 1048576) (hEq : ∀ i, isT L i [61] = true → kdT L i = 5) : ∀ n, n ≤ 1099511627776 → PAll P F z L n := by
  intro n
  induction n using Nat.strongRecOn with
  | ind n ih =>
  intro hn
  cases n with
  | zero => exact ⟨UC_zero (by decide), UC_zero (by decide), UC_zero (by decide), UCc_zero (by decide), UC_zero (by decide), UC_zero (by decide), UCc_zero (by decide), UC_zero (by decide), UC_zero (by decide), UC_zero (by decide), UC_zero (by decide), UC_zero (by decide), UC_zero (by decide), UC_zero (by decide), UCc_zero (by decide)⟩
  | succ n =>
    have a : ∀ m, m < n + 1 → PAll P F z L m := fun m hm => ih m hm (by omega)
    have b := a n (by omega)
    have hn' : n ≤ 1099511627776 := by omega
    exact ⟨hF.use' hL n, hF.def' hL n hn' b.params b.typed b.block, hF.params' hL n hn' (fun m hm => (a m (by omega)).param), hF.param' hL n hn' b.typed, hF.typed' hL n hn' b.kind,
      hF.kind' hL n hn' (fun m hm => (a m (by omega)).tfield) (fun m hm => (a m hm).kind), hF.tfield' hL n hn' b.kind, hF.block' hL n hn' (fun m hm => (a m (by omega)).stmt), hF.stmt' hL hEq n hn' b.expr b.typed b.block,
      hF.expr' hL n hn' b.sum, hF.sum' hL n hn' (fun m hm => (a m hm).term), hF.term' hL n hn' (fun m hm => (a m hm).post), hF.post' hL n hn' b.atom (fun m hm => (a m (by omega)).expr),
      hF.atom' hL n hn' b.expr (fun m hm => (a m (by omega)).entry) b.params b.typed b.block, hF.entry' hL n hn' b.expr⟩

end
end Go.Zam

namespace Go.Zam
set_option linter.all false
set_option maxRecDepth 100000
set_option maxHeartbeats 1000000

mutual
def N.size : N → Nat
  | .mk _ _ _ _ _ _ ks => 1 + N.sizes ks
def N.sizes : List N → Nat
  | [] => 0
  | p :: r => N.size p + N.sizes r
end
mutual
def N.depth : N → Nat
  | .mk _ _ _ _ _ _ ks => 1 + N.depths ks
def N.depths : List N → Nat
  | [] => 0
  | p :: r => max (N.depth p) (N.depths r)
end
theorem N.size_mk (k f t : Int) (w : Bs) (a : Int) (z : Bool) (ks : List N) : N.size (.mk k f t w a z ks) = 1 + N.sizes ks := by rw [N.size]
theorem N.depth_mk (k f t : Int) (w : Bs) (a : Int) (z : Bool) (ks : List N) : N.depth (.mk k f t w a z ks) = 1 + N.depths ks := by rw [N.depth]
theorem N.size_new (k f t : Int) (w : Bs) (a : Int) (ks : List N) : N.size (.new k f t w a ks) = 1 + N.sizes ks := N.size_mk ..
theorem N.size_ks (m : N) : N.size m = 1 + N.sizes m.ks := by cases m; rw [N.size]; rfl
theorem N.size_bag (ks : List N) : N.size (.bag ks) = 1 + N.sizes ks := N.size_mk ..
theorem N.size_none : N.size .none = 1 := by rw [N.none, N.size_new]; rfl
theorem N.sizes_nil : N.sizes [] = 0 := rfl
theorem N.sizes_cons (p : N) (r : List N) : N.sizes (p :: r) = N.size p + N.sizes r := by rw [N.sizes]
theorem N.sizes_app : ∀ (l r : List N), N.sizes (l ++ r) = N.sizes l + N.sizes r
  | [], r => by simp [N.sizes_nil]
  | p :: l, r => by rw [List.cons_append, N.sizes_cons, N.sizes_cons, N.sizes_app l r]; omega
theorem N.sizes_mem {l : List N} {p : N} (h : p ∈ l) : N.size p ≤ N.sizes l := by
  induction l with
  | nil => cases h
  | cons q l ih =>
    rw [N.sizes_cons]
    rcases List.mem_cons.1 h with rfl | h
    · omega
    · have := ih h; omega
theorem N.size_pos (p : N) : 1 ≤ N.size p := by cases p; rw [N.size]; omega
theorem N.sizes_len (l : List N) : l.length ≤ N.sizes l := by
  induction l with
  | nil => simp
  | cons q l ih => rw [N.sizes_cons, List.length_cons]; have := N.size_pos q; omega
theorem N.depths_cons (p : N) (r : List N) : N.depths (p :: r) = max (N.depth p) (N.depths r) := by rw [N.depths]
theorem N.depths_le {b : Nat} (l : List N) (h : ∀ p ∈ l, N.depth p ≤ b) : N.depths l ≤ b := by
  induction l with
  | nil => simp [N.depths]
  | cons q l ih =>
    rw [N.depths_cons]
    have h1 := h q (by simp)
    have h2 := ih fun p hp => h p (by simp [hp])
    omega
theorem N.depth_size : ∀ n : N, N.depth n ≤ N.size n := by
  refine N.ind fun k f t w a z ks ih => ?_
  rw [N.depth_mk, N.size_mk]
  have : N.depths ks ≤ N.sizes ks := N.depths_le ks fun p hp => Nat.le_trans (ih p hp) (N.sizes_mem hp)
  omega
theorem N.depths_take_succ {l : List N} {i : Nat} (h : i < l.length) : N.depths (l.take (i + 1)) = max (N.depths (l.take i)) (N.depth l[i]) := by
  have app : ∀ a b : List N, N.depths (a ++ b) = max (N.depths a) (N.depths b) := by
    intro a b
    induction a with
    | nil => simp [N.depths]
    | cons q a ih => rw [List.cons_append, N.depths_cons, N.depths_cons, ih]; omega
  rw [List.take_succ_eq_append_getElem h, app, N.depths_cons]
  simp [N.depths]

/-! how great a tree out of tokens is -/

def G.k1 : G → Nat
  | .typed | .file _ | .sumL _ | .termL _ | .postL _ => 0
  | .listL .. | .stmts _ => 4
  | _ => 2
def G.sz : G → Nat
  | .typed => 1
  | .file ks | .listL _ _ ks | .stmts ks => 1 + N.sizes ks
  | .sumL a | .termL a | .postL a => N.size a
  | _ => 0
def G.nice : G → Prop
  | .list o _ | .listL o _ _ => o.k1 = 2 ∧ o.sz = 0 ∧ o.strict = true ∧ o.nice
  | _ => True
def Sz (i A B : Nat) : PR → Prop
  | .ok m j => m.size + A ≤ B + 4 * (j - i)
  | _ => True

section
variable {L : List Tk} {i A B : Nat}
theorem Sz.bad {j : Nat} : Sz i A B (.bad j) := trivial
theorem Sz.want {k : Nat} {x : Bs} {h : Nat → PR} (hh : Sz i A B (h (k + 1))) : Sz i A B (wantR L k x h) := by
  unfold wantR
  split
  · exact hh
  · trivial
theorem Sz.word {k : Nat} {h : Bs → Nat → PR} (hh : Sz i A B (h (txT L k) (k + 1))) : Sz i A B (wordR L k h) := by
  unfold wordR
  split
  · exact hh
  · trivial
theorem Sz.ite {c : Prop} [Decidable c] {a b : PR} (ha : Sz i A B a) (hb : Sz i A B b) : Sz i A B (if c then a else b) := by
  split
  · exact ha
  · exact hb
theorem Sz.last {n : Nat} (ih : ∀ g i, g.nice → Sz i g.k1 g.sz (pp L n g i)) {g : G} {k : Nat} (hg : g.nice) (hh : ∀ x j, k ≤ j → (g.strict = true → k < j) → x + g.k1 ≤ g.sz + 4 * (j - k) → x + A ≤ B + 4 * (j - i)) : Sz i A B (pp L n g k) := by
  have h1 := ih g k hg
  have h2 := pp_adv (L := L) n g k
  generalize pp L n g k = r at h1 h2
  cases r with
  | out => trivial
  | bad j => trivial
  | ok m j => exact hh _ j h2.1 h2.2.1 h1
theorem Sz.thenG {n : Nat} (ih : ∀ g i, g.nice → Sz i g.k1 g.sz (pp L n g i)) {g : G} {k : Nat} {h : N → Nat → PR} (hg : g.nice) (hh : ∀ m j, k ≤ j → (g.strict = true → k < j) → m.size + g.k1 ≤ g.sz + 4 * (j - k) → Sz i A B (h m j)) : Sz i A B ((pp L n g k).then h) := by
  have h1 := ih g k hg
  have h2 := pp_adv (L := L) n g k
  generalize pp L n g k = r at h1 h2
  cases r with
  | out => trivial
  | bad j => trivial
  | ok m j => exact hh m j h2.1 h2.2.1 h1
theorem Sz.ok {m : N} {j : Nat} (h : m.size + A ≤ B + 4 * (j - i)) : Sz i A B (.ok m j) := h

theorem pp_size : ∀ (n : Nat) (g : G) (i : Nat), g.nice → Sz i g.k1 g.sz (pp L n g i)
  | 0, g, i, _ => trivial
  | n + 1, g, i, hg => by
    have ih := pp_size n
    cases g
    case listL one e ks =>
      obtain ⟨g1, g2, g3, g4⟩ := hg
      simp only [pp, G.k1, G.sz]
      refine Sz.thenG ih g4 fun m j h1 h2 h3 => ?_
      have h2 := h2 g3
      rw [g1, g2] at h3
      refine Sz.ite ?_ (Sz.want ?_)
      · refine Sz.ok ?_
        simp only [N.size_bag, N.sizes_nil, N.sizes_cons, N.sizes_app]; omega
      · refine Sz.last ih ⟨g1, g2, g3, g4⟩ fun x j h1 h2 h3 => ?_
        simp only [G.strict, G.k1, G.sz, true_implies, N.sizes_nil, N.sizes_cons, N.sizes_app] at h2 h3
        omega
    case list one e =>
      simp only [pp, G.k1, G.sz]
      refine Sz.ite ?_ ?_
      · refine Sz.ok ?_
        simp only [N.size_bag, N.sizes_nil]; omega
      · refine Sz.last ih hg fun x j h1 h2 h3 => ?_
        simp only [G.strict, G.k1, G.sz, true_implies, N.sizes_nil] at h2 h3
        omega
    all_goals simp only [pp, G.k1, G.sz]
    all_goals
      repeat' first
        | exact Sz.bad
        | (refine Sz.want ?_)
        | (refine Sz.word ?_)
        | (refine Sz.ite ?_ ?_)
        | (refine Sz.thenG ih (by simp [G.nice, G.k1, G.sz, G.strict]) fun m j h1 h2 h3 => ?_; have h4 := N.size_ks m; simp only [G.strict, G.k1, G.sz, Bool.false_eq_true, false_implies, true_implies, N.sizes_nil, N.sizes_cons, N.sizes_app] at h2 h3)
        | (refine Sz.ok ?_; (try simp only [N.size_new, N.size_bag, N.size_none, N.sizes_nil, N.sizes_cons, N.sizes_app]); omega)
        | (refine Sz.last ih (by simp [G.nice]) fun x j h1 h2 h3 => ?_; simp only [G.strict, G.k1, G.sz, Bool.false_eq_true, false_implies, true_implies, N.size_new, N.size_bag, N.size_none, N.sizes_nil, N.sizes_cons, N.sizes_app] at h2 h3; omega)
end
end Go.Zam

namespace Go.Zam
set_option linter.all false
set_option maxRecDepth 100000
set_option maxHeartbeats 1000000

section
variable {P : Program}

theorem Has.depth {f : FuncId} {tn : TypeId} (h : Has P f (irTDepth f tn)) : ∀ (n : N), n.size ≤ 1125899906842624 → ∀ H, ACall P f [n.v] H (fun r H' => r = .d (.int .i64 (n.depth : Int)) ∧ H' = H) := by
  refine N.ind fun k f' t w a z ks ih => ?_
  intro hs H
  obtain ⟨fn, hf, hcf⟩ := h
  refine acall_fin hf hcf (by simp [irTDepth]) fun hcl _ => ?_
  rw [N.size_mk] at hs
  rw [N.v_mk, N.depth_mk]
  have hlen := N.sizes_len ks
  have hds : ∀ i, N.depths (ks.take i) ≤ 1125899906842624 := fun i => by
    refine N.depths_le _ fun p hp => ?_
    have := N.depth_size p
    have := N.sizes_mem (List.mem_of_mem_take hp)
    omega
  simp [irTDepth]
  refine LoopK_out 0 (fun fr H' => fr 3 = .d (.int .i64 (N.depths ks : Int)) ∧ ∃ X, H' = H ++ X) ?_ ?_
  · refine RangeK_of (H.length + 1) ks.length (fun i fr H' => fr 3 = .d (.int .i64 (N.depths (ks.take i) : Int)) ∧ fr 7 = .d (.sl z 6 (ks.map N.enc)) ∧ ∃ o, H' = H ++ [o]) (by omega) (by decide) (by simp) (by simp) ?_ ?_ ?_
    · simp [N.depths, cut_appk hcl]
    · rintro i fr H' hi f9 f8 ⟨f3, f7, o, rfl⟩
      have hr := rowAt_map N.enc hi
      have hm := List.getElem_mem hi
      have ih' := ih _ hm (by have := N.sizes_mem hm; omega)
      have hdt := N.depths_take_succ hi
      have hd1 := hds (i + 1)
      generalize ks[i] = x at hr ih' hdt
      obtain ⟨k2, f2, t2, w2, a2, z2, ks2⟩ := x
      rw [N.enc_mk] at hr
      rw [N.v_mk] at ih'
      simp [f9, f7, hr, f3]
      refine CallK_of' (ih' _) ?_
      simp
      refine NextK_of (H.length + 1) (Nat.le_refl _) (by simp [f9, f8]) ?_
      simp [f7, hdt, cut_appk hcl]
      omega
    · rintro fr H' f9 f8 ⟨f3, f7, o, rfl⟩
      rw [List.take_of_length_le (Nat.le_refl _)] at f3
      simp [f3]
  · rintro fr H' ⟨f3, X, rfl⟩
    have := hds ks.length
    rw [List.take_of_length_le (Nat.le_refl _)] at this
    have hw : IntKind.i64.wrap ((N.depths ks : Int) + 1) = (1 : Int) + N.depths ks := by rw [wrap_i64 (by omega) (by omega)]; omega
    simp [f3, hw]
    simp [RetK, cut_app hcl]

end

section
variable {P : Program} {F : PF} {z : Bool} {L : List Tk}

end
end Go.Zam

namespace Go.Zam
set_option linter.all false
set_option maxRecDepth 100000
set_option maxHeartbeats 1000000

/-- the kinds' names -/
def kindT : List Bs := [[110, 111, 110, 101], [102, 105, 108, 101], [117, 115, 101], [100, 101, 102], [112, 97, 114, 97, 109, 115], [112, 97, 114, 97, 109], [98, 108, 111, 99, 107], [108, 101, 116], [115, 101, 116], [105, 102], [119, 104, 105, 108, 101], [112, 114, 105, 110, 116], [114, 101, 116, 117, 114, 110], [100, 111], [108, 101, 115, 115], [101, 113, 117, 97, 108], [112, 108, 117, 115], [109, 105, 110, 117, 115], [116, 105, 109, 101, 115], [102, 105, 101, 108, 100], [99, 97, 108, 108], [110, 117, 109, 98, 101, 114], [116, 101, 120, 116], [110, 97, 109, 101], [105, 110, 112, 117, 116], [103, 114, 111, 117, 112], [114, 101, 99, 111, 114, 100], [101, 110, 116, 114, 121], [108, 97, 109, 98, 100, 97], [105, 110, 116], [115, 116, 114], [100, 121, 110], [114, 101, 99], [112, 97, 114, 116], [102, 110]]
def kindN (k : Int) : Bs := kindT.getD k.toNat []

mutual
def N.show : N → Bs
  | .mk k _ _ w _ _ ks => if k = 0 then [45] else [40] ++ kindN k ++ (if w = [] then [] else [32] ++ w) ++ N.shows ks ++ [41]
def N.shows : List N → Bs
  | [] => []
  | p :: r => [32] ++ N.show p ++ N.shows r
end
theorem strOp_add' {a b : Bs} (h : a.length + b.length ≤ 9223372036854775807) : strOp .add a b = some (.str (a ++ b)) := by simp only [strOp]; rw [if_pos h]
inductive N.Kd : N → Prop
  | mk {k f t : Int} {w : Bs} {a : Int} {z : Bool} {ks : List N} (h : 0 ≤ k ∧ k < 35) (h2 : ∀ p ∈ ks, N.Kd p) : N.Kd (.mk k f t w a z ks)

section
variable {bt : TypeId} {H X : Hp} {b t : Nat} {bs bs' : Bs}
end

section
variable {P : Program}

end
end Go.Zam

namespace Go.Zam
open Go Go.Proofs Go.Lib
open Go.RowKit (Below)
open Go.ChangeShapes Go.RowKit
set_option linter.all false
set_option maxRecDepth 100000

theorem arg_str_of {P : Program} {t : TypeId} (hu : P.underlying t = some .string) : ∀ {n : Nat} {ds : List D} {a : A} (h : Typed P n t ds) (ha : ArgOf P t ds a), ∃ s : List UInt8, a = .d (.str s) ∧ s.length ≤ D.bulkC ds ∧ s.length + 1 ≤ D.bulkC ds := by
  intro n ds a h ha
  obtain ⟨x, rfl⟩ := typed_str hu h
  exact ⟨x, argOf_one (by rw [hu]; simp) ha, by simp only [D.bulkC, D.bulk]; omega, by simp only [D.bulkC, D.bulk]; omega⟩

end Go.Zam

namespace Go.Proofs
open Go.Shelf
set_option maxRecDepth 100000
def Tryz.lays137_ren : Go.Shelf.Ren := ⟨fun | 137 => 135 | 217 => 144 | 266 => 148 | n => n, fun | 9 => 9 | 5 => 5 | 3 => 3 | n => n, fun | n => n⟩
theorem Tryz.lays137 : Go.Proofs.Lays.n137 Tryz.prog Tryz.lays137_ren := {
  mixed := by kernel_rfl
  f137 := Tryz.func135.trans (congrArg some (by kernel_rfl))
  f217 := Tryz.func144.trans (congrArg some (by kernel_rfl))
  f266 := Tryz.func148.trans (congrArg some (by kernel_rfl))
  t3 := Tryz.underlying3
  a3 := Tryz.isAgg3
  z3 := Tryz.sizeOf3
  v3 := Tryz.zeroValue3
  t5 := Tryz.underlying5
  a5 := Tryz.isAgg5
  z5 := Tryz.sizeOf5
  v5 := Tryz.zeroValue5
  t9 := Tryz.underlying9
  a9 := Tryz.isAgg9
  z9 := Tryz.sizeOf9
  v9 := Tryz.zeroValue9 }
open Go.RowKit in
theorem Tryz.strings_IndexByte (s : ByteArray) (c : Int) (w : World) :
    Calls Tryz.prog 135 #[.string s, .int .u8 c] w fun e w' => e = .returned (.int .i64 (Lib.indexByte s.data.toList c.toNat.toUInt8)) ∧ w' = w := Any.strings_IndexByte Tryz.lays137 s c w
def Tryz.laysPu14_ren : Go.Shelf.Ren := ⟨fun | 14 => 128 | 16 => 133 | 17 => 134 | 19 => 138 | 20 => 139 | 21 => 140 | 22 => 141 | 23 => 142 | 24 => 143 | 25 => 145 | 27 => 147 | 26 => 146 | 28 => 149 | 29 => 150 | 30 => 151 | 31 => 152 | 32 => 153 | 33 => 154 | 35 => 108 | 34 => 155 | 36 => 156 | 37 => 157 | 38 => 158 | 39 => 159 | 40 => 160 | n => n, fun | 9 => 9 | 3 => 3 | 22 => 129 | 24 => 83 | 25 => 145 | 4 => 4 | 34 => 158 | 5 => 5 | 36 => 75 | 37 => 78 | 0 => 0 | 39 => 160 | 21 => 21 | 44 => 165 | 47 => 105 | 50 => 170 | 48 => 168 | 2 => 2 | 52 => 172 | 55 => 174 | 59 => 178 | 60 => 127 | 20 => 20 | 61 => 179 | 65 => 181 | 66 => 182 | 67 => 86 | n => n, fun | 0 => 3 | 1 => 4 | 2 => 5 | 3 => 6 | 4 => 7 | n => n⟩
theorem Tryz.laysPu14 : Go.Proofs.LaysPu.n14 Tryz.prog Tryz.laysPu14_ren := {
  mixed := by kernel_rfl
  f14 := Tryz.func128.trans (congrArg some (by kernel_rfl))
  f16 := Tryz.func133.trans (congrArg some (by kernel_rfl))
  f17 := Tryz.func134.trans (congrArg some (by kernel_rfl))
  f19 := Tryz.func138.trans (congrArg some (by kernel_rfl))
  f20 := Tryz.func139.trans (congrArg some (by kernel_rfl))
  f21 := Tryz.func140.trans (congrArg some (by kernel_rfl))
  f22 := Tryz.func141.trans (congrArg some (by kernel_rfl))
  f23 := Tryz.func142.trans (congrArg some (by kernel_rfl))
  f24 := Tryz.func143.trans (congrArg some (by kernel_rfl))
  f25 := Tryz.func145.trans (congrArg some (by kernel_rfl))
  f26 := Tryz.func146.trans (congrArg some (by kernel_rfl))
  f27 := Tryz.func147.trans (congrArg some (by kernel_rfl))
  f28 := Tryz.func149.trans (congrArg some (by kernel_rfl))
  f29 := Tryz.func150.trans (congrArg some (by kernel_rfl))
  f30 := Tryz.func151.trans (congrArg some (by kernel_rfl))
  f31 := Tryz.func152.trans (congrArg some (by kernel_rfl))
  f32 := Tryz.func153.trans (congrArg some (by kernel_rfl))
  f33 := Tryz.func154.trans (congrArg some (by kernel_rfl))
  f34 := Tryz.func155.trans (congrArg some (by kernel_rfl))
  f35 := Tryz.func108.trans (congrArg some (by kernel_rfl))
  f36 := Tryz.func156.trans (congrArg some (by kernel_rfl))
  f37 := Tryz.func157.trans (congrArg some (by kernel_rfl))
  f38 := Tryz.func158.trans (congrArg some (by kernel_rfl))
  f39 := Tryz.func159.trans (congrArg some (by kernel_rfl))
  f40 := Tryz.func160.trans (congrArg some (by kernel_rfl))
  t0 := Tryz.underlying0
  a0 := Tryz.isAgg0
  z0 := Tryz.sizeOf0
  v0 := Tryz.zeroValue0
  i0 := by kernel_rfl
  t2 := Tryz.underlying2
  a2 := Tryz.isAgg2
  z2 := Tryz.sizeOf2
  v2 := Tryz.zeroValue2
  i2 := by kernel_rfl
  t3 := Tryz.underlying3
  a3 := Tryz.isAgg3
  z3 := Tryz.sizeOf3
  v3 := Tryz.zeroValue3
  i3 := by kernel_rfl
  t4 := Tryz.underlying4
  a4 := Tryz.isAgg4
  z4 := Tryz.sizeOf4
  v4 := Tryz.zeroValue4
  i4 := by kernel_rfl
  t5 := Tryz.underlying5
  a5 := Tryz.isAgg5
  z5 := Tryz.sizeOf5
  v5 := Tryz.zeroValue5
  i5 := by kernel_rfl
  t9 := Tryz.underlying9
  a9 := Tryz.isAgg9
  z9 := Tryz.sizeOf9
  v9 := Tryz.zeroValue9
  i9 := by kernel_rfl
  t20 := Tryz.underlying20
  a20 := Tryz.isAgg20
  z20 := Tryz.sizeOf20
  v20 := Tryz.zeroValue20
  i20 := by kernel_rfl
  t21 := Tryz.underlying21
  a21 := Tryz.isAgg21
  z21 := Tryz.sizeOf21
  v21 := Tryz.zeroValue21
  i21 := by kernel_rfl
  t22 := Tryz.underlying129
  a22 := Tryz.isAgg129
  z22 := Tryz.sizeOf129
  v22 := Tryz.zeroValue129
  i22 := by kernel_rfl
  t24 := Tryz.underlying83
  a24 := Tryz.isAgg83
  z24 := Tryz.sizeOf83
  v24 := Tryz.zeroValue83
  i24 := by kernel_rfl
  t25 := Tryz.underlying145
  a25 := Tryz.isAgg145
  z25 := Tryz.sizeOf145
  v25 := Tryz.zeroValue145
  i25 := by kernel_rfl
  t34 := Tryz.underlying158
  a34 := Tryz.isAgg158
  z34 := Tryz.sizeOf158
  v34 := Tryz.zeroValue158
  i34 := by kernel_rfl
  c34 := by kernel_rfl
  t36 := Tryz.underlying75
  a36 := Tryz.isAgg75
  z36 := Tryz.sizeOf75
  v36 := Tryz.zeroValue75
  i36 := by kernel_rfl
  t37 := Tryz.underlying78
  a37 := Tryz.isAgg78
  z37 := Tryz.sizeOf78
  v37 := Tryz.zeroValue78
  i37 := by kernel_rfl
  t39 := Tryz.underlying160
  a39 := Tryz.isAgg160
  z39 := Tryz.sizeOf160
  v39 := Tryz.zeroValue160
  i39 := by kernel_rfl
  t44 := Tryz.underlying165
  a44 := Tryz.isAgg165
  z44 := Tryz.sizeOf165
  v44 := Tryz.zeroValue165
  i44 := by kernel_rfl
  t47 := Tryz.underlying105
  a47 := Tryz.isAgg105
  z47 := Tryz.sizeOf105
  v47 := Tryz.zeroValue105
  i47 := by kernel_rfl
  t48 := Tryz.underlying168
  a48 := Tryz.isAgg168
  z48 := Tryz.sizeOf168
  v48 := Tryz.zeroValue168
  i48 := by kernel_rfl
  t50 := Tryz.underlying170
  a50 := Tryz.isAgg170
  z50 := Tryz.sizeOf170
  v50 := Tryz.zeroValue170
  i50 := by kernel_rfl
  t52 := Tryz.underlying172
  a52 := Tryz.isAgg172
  z52 := Tryz.sizeOf172
  v52 := Tryz.zeroValue172
  i52 := by kernel_rfl
  t55 := Tryz.underlying174
  a55 := Tryz.isAgg174
  z55 := Tryz.sizeOf174
  v55 := Tryz.zeroValue174
  i55 := by kernel_rfl
  t59 := Tryz.underlying178
  a59 := Tryz.isAgg178
  z59 := Tryz.sizeOf178
  v59 := Tryz.zeroValue178
  i59 := by kernel_rfl
  t60 := Tryz.underlying127
  a60 := Tryz.isAgg127
  z60 := Tryz.sizeOf127
  v60 := Tryz.zeroValue127
  i60 := by kernel_rfl
  t61 := Tryz.underlying179
  a61 := Tryz.isAgg179
  z61 := Tryz.sizeOf179
  t65 := Tryz.underlying181
  a65 := Tryz.isAgg181
  z65 := Tryz.sizeOf181
  v65 := Tryz.zeroValue181
  i65 := by kernel_rfl
  t66 := Tryz.underlying182
  a66 := Tryz.isAgg182
  z66 := Tryz.sizeOf182
  v66 := Tryz.zeroValue182
  i66 := by kernel_rfl
  t67 := Tryz.underlying86
  a67 := Tryz.isAgg86
  z67 := Tryz.sizeOf86
  v67 := Tryz.zeroValue86
  i67 := by kernel_rfl
  g0 := by kernel_rfl
  m0 := by kernel_rfl
  g1 := by kernel_rfl
  m1 := by kernel_rfl
  g2 := by kernel_rfl
  m2 := by kernel_rfl
  g3 := by kernel_rfl
  m3 := by kernel_rfl
  g4 := by kernel_rfl
  m4 := by kernel_rfl }
def Tryz.lays99_ren : Go.Shelf.Ren := ⟨fun | 99 => 131 | 206 => 137 | n => n, fun | 9 => 9 | 4 => 4 | 3 => 3 | n => n, fun | n => n⟩
theorem Tryz.lays99 : Go.Proofs.Lays.n99 Tryz.prog Tryz.lays99_ren := {
  mixed := by kernel_rfl
  f99 := Tryz.func131.trans (congrArg some (by kernel_rfl))
  f206 := Tryz.func137.trans (congrArg some (by kernel_rfl))
  t3 := Tryz.underlying3
  a3 := Tryz.isAgg3
  z3 := Tryz.sizeOf3
  v3 := Tryz.zeroValue3
  t4 := Tryz.underlying4
  a4 := Tryz.isAgg4
  z4 := Tryz.sizeOf4
  v4 := Tryz.zeroValue4
  t9 := Tryz.underlying9
  a9 := Tryz.isAgg9
  z9 := Tryz.sizeOf9
  v9 := Tryz.zeroValue9 }
open Go.RowKit Go.Lib in
theorem Tryz.strings_HasPrefix (s p : ByteArray) (w : World) :
    Calls Tryz.prog 131 #[.string s, .string p] w fun e w' => e = .returned (.bool (Lib.hasPrefix s.data.toList p.data.toList)) ∧ w' = w := Any.strings_HasPrefix Tryz.lays99 s p w
def Tryz.lays197_ren : Go.Shelf.Ren := ⟨fun | 197 => 111 | 260 => 126 | n => n, fun | 9 => 9 | 21 => 21 | 3 => 3 | 4 => 4 | 5 => 5 | 105 => 133 | 119 => 151 | 0 => 0 | 46 => 75 | 139 => 154 | 138 => 153 | n => n, fun | 3 => 1 | 4 => 2 | n => n⟩
theorem Tryz.lays197 : Go.Proofs.Lays.n197 Tryz.prog Tryz.lays197_ren := {
  mixed := by kernel_rfl
  f197 := Tryz.func111.trans (congrArg some (by kernel_rfl))
  f260 := Tryz.func126.trans (congrArg some (by kernel_rfl))
  t0 := Tryz.underlying0
  a0 := Tryz.isAgg0
  z0 := Tryz.sizeOf0
  v0 := Tryz.zeroValue0
  t3 := Tryz.underlying3
  a3 := Tryz.isAgg3
  z3 := Tryz.sizeOf3
  v3 := Tryz.zeroValue3
  t4 := Tryz.underlying4
  a4 := Tryz.isAgg4
  z4 := Tryz.sizeOf4
  v4 := Tryz.zeroValue4
  t5 := Tryz.underlying5
  a5 := Tryz.isAgg5
  z5 := Tryz.sizeOf5
  v5 := Tryz.zeroValue5
  t9 := Tryz.underlying9
  a9 := Tryz.isAgg9
  z9 := Tryz.sizeOf9
  v9 := Tryz.zeroValue9
  t21 := Tryz.underlying21
  a21 := Tryz.isAgg21
  z21 := Tryz.sizeOf21
  v21 := Tryz.zeroValue21
  t46 := Tryz.underlying75
  a46 := Tryz.isAgg75
  z46 := Tryz.sizeOf75
  v46 := Tryz.zeroValue75
  t105 := Tryz.underlying133
  a105 := Tryz.isAgg133
  z105 := Tryz.sizeOf133
  v105 := Tryz.zeroValue133
  t119 := Tryz.underlying151
  a119 := Tryz.isAgg151
  z119 := Tryz.sizeOf151
  t138 := Tryz.underlying153
  a138 := Tryz.isAgg153
  z138 := Tryz.sizeOf153
  v138 := Tryz.zeroValue153
  t139 := Tryz.underlying154
  a139 := Tryz.isAgg154
  z139 := Tryz.sizeOf154
  v139 := Tryz.zeroValue154
  g3 := by kernel_rfl
  g4 := by kernel_rfl }
def Tryz.lays260_ren : Go.Shelf.Ren := ⟨fun | 260 => 126 | n => n, fun | 9 => 9 | 21 => 21 | 3 => 3 | 4 => 4 | 5 => 5 | 119 => 151 | 0 => 0 | 46 => 75 | 139 => 154 | 138 => 153 | n => n, fun | 3 => 1 | 4 => 2 | n => n⟩
theorem Tryz.lays260 : Go.Proofs.Lays.n260 Tryz.prog Tryz.lays260_ren := {
  mixed := by kernel_rfl
  f260 := Tryz.func126.trans (congrArg some (by kernel_rfl))
  t0 := Tryz.underlying0
  a0 := Tryz.isAgg0
  z0 := Tryz.sizeOf0
  v0 := Tryz.zeroValue0
  t3 := Tryz.underlying3
  a3 := Tryz.isAgg3
  z3 := Tryz.sizeOf3
  v3 := Tryz.zeroValue3
  t4 := Tryz.underlying4
  a4 := Tryz.isAgg4
  z4 := Tryz.sizeOf4
  v4 := Tryz.zeroValue4
  t5 := Tryz.underlying5
  a5 := Tryz.isAgg5
  z5 := Tryz.sizeOf5
  v5 := Tryz.zeroValue5
  t9 := Tryz.underlying9
  a9 := Tryz.isAgg9
  z9 := Tryz.sizeOf9
  v9 := Tryz.zeroValue9
  t21 := Tryz.underlying21
  a21 := Tryz.isAgg21
  z21 := Tryz.sizeOf21
  v21 := Tryz.zeroValue21
  t46 := Tryz.underlying75
  a46 := Tryz.isAgg75
  z46 := Tryz.sizeOf75
  v46 := Tryz.zeroValue75
  t119 := Tryz.underlying151
  a119 := Tryz.isAgg151
  z119 := Tryz.sizeOf151
  t138 := Tryz.underlying153
  a138 := Tryz.isAgg153
  z138 := Tryz.sizeOf153
  v138 := Tryz.zeroValue153
  t139 := Tryz.underlying154
  a139 := Tryz.isAgg154
  z139 := Tryz.sizeOf154
  v139 := Tryz.zeroValue154
  g3 := by kernel_rfl
  g4 := by kernel_rfl }
open Go.RowKit Go.Lib in
theorem Tryz.utf8_DecodeRuneInString (s : ByteArray) (w : World) (hT : Lib.Utf8Tabs 1 2 w) :
    Calls Tryz.prog 111 #[.string s] w fun e w' => e = .returned (.tuple #[.int .i32 (Lib.decodeGo s).1, .int .i64 (Lib.decodeGo s).2]) ∧ Below w.heap.size w w' := Any.utf8_DecodeRuneInString Tryz.lays197 s w hT
end Go.Proofs

namespace Go.Proofs.YtboojbgbphhbcaaGreatDoor
open Go Go.Zam
open Go.ChangeShapes Go.WideShapes Go.ChangeAt Go.RowKit
set_option linter.all false

theorem isBulk (H : Type) : IsBulk (X := H) Rows.uptoBulk Rows.uptoBulkAll where
  str := fun b => by simp [Rows.uptoBulk]
  bool := fun b => by simp [Rows.uptoBulk]
  int := fun k n => by simp [Rows.uptoBulk]
  nil := by simp [Rows.uptoBulk]
  slice := fun e s => by simp only [Rows.uptoBulk]; omega
  agg := fun p => by simp only [Rows.uptoBulk]; omega
  cons := fun d r => by simp only [Rows.uptoBulkAll]; omega

theorem own : ownKnob Tryz.prog.godebug = none := by kernel_rfl
theorem laidOut : laidOutB Tryz.prog = true := by kernel_rfl

/-- a datum's cells, where it is data -/
def litCell : DataW Unit → Value
  | .lit (.int k n) => .int k n
  | .lit (.string s) => .string ⟨s.toArray⟩
  | _ => .tuple #[]
def litCells : DataW Unit → List Value
  | .agg l => l.map litCell
  | x => [litCell x]
def tabCells : DataW Unit → Array Value
  | .agg l => (l.flatMap litCells).toArray
  | _ => #[]
def put (g : Nat) (cs : Array Value) (h : Array Obj) : Array Obj := h.modify g fun
  | .cells _ t frozen => .cells cs t frozen
  | o => o

/-- a world for the witness: the settled one, the variables as their initialisers lay them -/
noncomputable def laidWorld (os : Os) : World :=
  let w0 := World.holding Tryz.prog os ⟨#[.cells #[.string ⟨#[118, 97, 108, 117, 101, 32, 111, 117, 116, 32, 111, 102, 32, 114, 97, 110, 103, 101]⟩] 170, .cells #[.string ⟨#[105, 110, 118, 97, 108, 105, 100, 32, 115, 121, 110, 116, 97, 120]⟩] 170], #[], []⟩
  let N := (World.settled Tryz.prog os).heap.size
  { w0 with heap := put 4 #[.iface 168 (.pointer (some ⟨N, 0, none⟩))] (put 3 #[.iface 168 (.pointer (some ⟨N + 1, 0, none⟩))] (put 1 (tabCells Rows.laid_unicode_utf8_first) (put 2 (tabCells Rows.laid_unicode_utf8_acceptRanges) (put 5 (tabCells Rows.laid_internal_strconv_uint64pow10) (put 7 (tabCells Rows.laid_math_bits_deBruijn64tab) (put 6 (tabCells Rows.laid_math_bits_deBruijn32tab) w0.heap)))))) }

theorem star : "*" ++ "errors.errorString" = "*errors.errorString" := by decide
theorem rowErr (u : TypeId) (h : Tryz.prog.typeName? 3 u = some "*errors.errorString") : u = 168 :=
  typeName_ptr_named (nm := "errors.errorString") (by rw [star]; kernel_rfl) (by kernel_rfl) (by decide) u (by rw [star]; exact h)

set_option maxRecDepth 100000 in
theorem laidOb {W : World} (h : laidMetH Tryz.prog Rows.relateFlowsUptoRow.laid W) : ∃ H0, LaidOb W H0 ∧ TabsG 1 2 3 4 H0 := by
  have h' : laidMet Tryz.prog Rows.relateFlowsUptoRow.laid W := by
    rw [MakeChecks.laidMetH_plain _ _ _ (by kernel_rfl)] at h
    exact h
  have e1 : Rows.laid_unicode_utf8_first = Lib.firstData := by kernel_rfl
  have e2 : Rows.laid_unicode_utf8_acceptRanges = Lib.acceptData := by kernel_rfl
  have hU : Lib.Utf8Tabs 1 2 W :=
    utf8Tabs_of_reads (ρ := Tryz.lays260_ren) { Tryz.lays260 with } ⟨by kernel_rfl, by kernel_rfl, by kernel_rfl, by kernel_rfl, by kernel_rfl, by kernel_rfl, by kernel_rfl⟩
      (e1 ▸ Lib.laidMet.reads h' (.tail _ (.tail _ (.tail _ (.tail _ (.tail _ (.tail _ (.head _)))))))) (e2 ▸ Lib.laidMet.reads h' (.tail _ (.tail _ (.tail _ (.head _)))))
  obtain ⟨a1, t1, hv1, -⟩ := laid_sentinel (g := 4) h'.tail.tail.tail.tail (by kernel_rfl) (by kernel_rfl) Tryz.underlying83 rowErr Tryz.underlying168 Tryz.underlying170 rfl rfl Tryz.underlying9 (by kernel_rfl) (by kernel_rfl)
  obtain ⟨a0, t0, hv0, -⟩ := laid_sentinel (g := 3) h'.tail.tail.tail.tail.tail (by kernel_rfl) (by kernel_rfl) Tryz.underlying83 rowErr Tryz.underlying168 Tryz.underlying170 rfl rfl Tryz.underlying9 (by kernel_rfl) (by kernel_rfl)
  obtain ⟨H1, hL1, hG1⟩ := laid_heap hU ⟨_, _, by rw [World.var?_cell (show Tryz.prog.globalNamed "strconv.ErrSyntax" = some 3 by kernel_rfl) hv0 0]; rfl⟩ ⟨_, _, by rw [World.var?_cell (show Tryz.prog.globalNamed "strconv.ErrRange" = some 4 by kernel_rfl) hv1 0]; rfl⟩
  exact ⟨H1, hL1, hG1⟩

theorem met (os : Os) (args : Array Value) : laidMet Tryz.prog Rows.relateFlowsUptoRow.laid ((laidWorld os).forCall (fun _ _ => 0) ⟨#[], args, []⟩).memory := laidMet_of_run' 8 (by kernel_rfl) (by kernel_rfl)

theorem arg_str : ∀ {n : Nat} {ds : List D} {a : A} (h : Typed Tryz.prog n 9 ds) (ha : ArgOf Tryz.prog 9 ds a), ∃ s : List UInt8, a = .d (.str s) ∧ s.length ≤ D.bulkC ds ∧ s.length + 1 ≤ D.bulkC ds :=
  @arg_str_of Tryz.prog 9 Tryz.underlying9

end Go.Proofs.YtboojbgbphhbcaaGreatDoor

namespace Go.Zam
open Go.RowKit (Below)
open Go.Proofs Go.Sort
set_option linter.all false
set_option maxRecDepth 100000
set_option maxHeartbeats 1000000

/-- rows of texts, as cells -/
def strRows (L : List (List UInt8)) : List (List A) := L.map fun x => [.d (.str x)]

theorem strRows_set (L : List (List UInt8)) (k : Nat) (x : List UInt8) : strRows (L.set k x) = (strRows L).set k [.d (.str x)] := by
  rw [strRows, List.map_set]; rfl

theorem below_ahead (w : World) (n : Nat) : Below w.heap.size w (Go.Sort.ahead w n) := ⟨rfl, rfl, rfl, Nat.le_refl _, fun _ _ => rfl⟩
theorem below_grow (w : World) (os : Array Obj) : Below w.heap.size w (grow w os) :=
  ⟨rfl, rfl, rfl, by simp [grow], fun k hk => by simp [grow, Array.getElem?_append_left hk]⟩

theorem HR.putRows {κ : K} {H : Hp} {w : World} (h : HR κ H w) {i b : Nat} {s : Option (TypeId × Nat)} {L0 d : List (List UInt8)} (hi : H[i]? = some (.arr 1 (strRows L0))) (hβ : κ.β i = .arr b 1 s) (hd : d.length = L0.length)
    (h0 : Holds Go.Proofs.encStr w b 0 L0.toArray) : ∀ k : Nat, k ≤ L0.length → HR κ (H.set i (.arr 1 (strRows (d.take k ++ L0.drop k)))) (putRow Go.Proofs.encStr w b 0 (d.take k ++ L0.drop k).toArray)
  | 0, _ => by
    have hH : H.set i (.arr 1 (strRows L0)) = H := by
      refine List.ext_getElem? fun j => ?_
      by_cases hj : i = j
      · subst hj; rw [List.getElem?_set_self (List.getElem?_eq_some_iff.1 hi).1, hi]
      · rw [List.getElem?_set_ne hj]
    rw [List.take_zero, List.drop_zero, List.nil_append, hH, putRow_self _ _ _ _ _ h0]
    exact h
  | k + 1, hk => by
    have ih := HR.putRows h hi hβ hd h0 k (by omega)
    have hil : i < H.length := (List.getElem?_eq_some_iff.1 hi).1
    have hx : d.take (k + 1) ++ L0.drop (k + 1) = (d.take k ++ L0.drop k).set k (d[k]'(by omega)) := by
      have e1 : L0.drop k = L0[k]'(by omega) :: L0.drop (k + 1) := List.drop_eq_getElem_cons (by omega)
      have e2 : d.take (k + 1) = d.take k ++ [d[k]'(by omega)] := List.take_succ_eq_append_getElem (by omega)
      have hm : k - (d.take k).length = 0 := by simp; omega
      rw [e2, List.set_append_right _ _ (by simp; omega), hm, e1, List.set_cons_zero, List.append_assoc]
      rfl
    have hlen : (d.take k ++ L0.drop k).length = L0.length := by simp; omega
    generalize d.take k ++ L0.drop k = X at ih hx hlen
    rw [hx]
    have hXk : X[k]? = some (X[k]'(by omega)) := List.getElem?_eq_getElem (by omega)
    have hrow : (strRows X)[k]? = some [.d (.str (X[k]'(by omega)))] := by rw [strRows, List.getElem?_map, hXk]; rfl
    have := ih.setArr (i := i) (k := k) (j := 0) (by rw [List.getElem?_set_self hil]) hβ hrow (by simp) (v := Go.Proofs.encStr (d[k]'(by omega))) (a := .d (.str (d[k]'(by omega)))) rfl (.d (DR.strOf _))
    rw [List.set_set] at this
    have e3 := putRow_set Go.Proofs.encStr w b 0 X.toArray k (d[k]'(by omega)) (by simp; omega)
    rw [Nat.zero_add] at e3
    rw [Nat.mul_one, Nat.add_zero, e3] at this
    rw [strRows_set]
    simpa using this

/-- what the library's contract says -/
def SortStr (P : Program) (f : FuncId) : Prop := ∀ (blk off cap : Nat) (ss : List (List UInt8)) (w : World), Holds Go.Proofs.encStr w blk off ss.toArray → blk < w.heap.size → ss.length < 4611686018427387904 →
  Calls P f #[.slice (some ⟨blk, off, none⟩) ss.length cap] w fun e w' => e = .returned (.tuple #[]) ∧ ∃ n os, w' = grow (putRow Go.Proofs.encStr (Go.Sort.ahead w n) blk off (ss.mergeSort fun x y => decide (x ≤ y)).toArray) os

theorem sortStr_acall {P : Program} {f : FuncId} (hS : SortStr P f) {L : List (List UInt8)} (hne : L ≠ []) (hl : L.length < 4611686018427387904) {H : Hp} {i : Nat} (hi : H[i]? = some (.arr 1 (strRows L))) :
    ACall P f [.msl i 0 L.length] H (fun r H' => r = .tup [] ∧ H' = H.set i (.arr 1 (strRows (L.mergeSort fun x y => decide (x ≤ y))))) := by
  intro κ w vs hr hvl hv
  match vs, hvl with
  | [v], _ =>
  have hv0 := hv 0 v _ rfl rfl
  have hpos : 0 < L.length := List.length_pos_iff.2 hne
  cases hv0 with
  | msl _ _ _ b sz o cap hb hcl ho hz =>
  obtain ⟨b', s', hβ', hsh, hc⟩ := hr.ob i _ hi
  obtain ⟨rfl, rfl⟩ : b = b' ∧ sz = 1 := by
    rcases hb with ⟨s, hb⟩ | hb
    · rw [hβ'] at hb; cases hb; exact ⟨rfl, rfl⟩
    · rw [hβ'] at hb; cases hb
  have ho' : o = 0 := by have := ho hpos; omega
  subst ho'
  have hH0 : ∀ n, Holds Go.Proofs.encStr (Go.Sort.ahead w n) b 0 L.toArray := fun n j hj => by
    have hj' : j < L.length := by simpa using hj
    have hrow : (strRows L)[j]? = some [.d (.str L[j])] := by rw [strRows, List.getElem?_map, List.getElem?_eq_getElem hj']; rfl
    obtain ⟨-, h2⟩ := hc j _ hrow
    obtain ⟨u, u1, u2, u3⟩ := h2 0 _ rfl
    have := u3.d_inv.str_inv
    subst this
    rw [Nat.mul_one, Nat.add_zero] at u1 u2
    rw [Nat.zero_add]
    refine ⟨?_, u2⟩
    rw [cell?_ahead, u1]
    simp [Go.Proofs.encStr, getElem!_pos, hj']
  have hblk := (hr.ex i b (by rw [hβ']; rfl)).2
  refine (hS b 0 cap L w (hH0 0) hblk hl).mono ?_
  rintro e w' ⟨rfl, n, os, rfl⟩
  have h1 : HR κ H (Go.Sort.ahead w n) := hr.later (below_ahead w n)
  have hml : (L.mergeSort fun x y => decide (x ≤ y)).length = L.length := List.length_mergeSort L
  have h2 := h1.putRows hi hβ' hml (hH0 n) L.length (Nat.le_refl _)
  rw [List.take_of_length_le (by omega), List.drop_of_length_le (Nat.le_refl _), List.append_nil] at h2
  have h3 := h2.later (below_grow _ os)
  exact ⟨_, κ, .tup [], _, rfl, K.le_refl κ, h3, .tup [] [] rfl (by simp), rfl, rfl⟩

end Go.Zam

namespace Go.Zam
open Go.RowKit (Below)
open Go.Proofs Go.Sort
set_option linter.all false
set_option maxRecDepth 100000
set_option maxHeartbeats 1000000

/-- a block that a call made, bound to a new object -/
theorem HR.adopt {κ : K} {H : Hp} {w w' : World} (h0 : HR κ H w) (hb : Below w.heap.size w w') {g : Nat} (hg : w.heap.size ≤ g ∧ g < w'.heap.size) (x : Bind) (y : Ob) (hx : x.block = some g) (hfl : y.flat = true)
    (hy : OR { κ with β := upd κ.β H.length x } w' H.length y) :
    κ.le { κ with β := upd κ.β H.length x } ∧ HR { κ with β := upd κ.β H.length x } (H ++ [y]) w' := by
  have h : HR κ H w' := h0.later hb
  have hn : κ.β H.length = .none := h.dom _ (Nat.le_refl _)
  have hle : κ.le { κ with β := upd κ.β H.length x } := K.le_upd hn x
  have hst : ∀ b p v, κ.σ b p = some v → b < w.heap.size := fun b p v hv => World.block_lt_of_cell? w ⟨b, p, none⟩ (h0.st b p v hv)
  refine ⟨hle, ?_⟩
  have hw0 : κ.w0.heap.size ≤ w.heap.size := h0.below.size
  refine ⟨h.below, fun b p v hv => h.st b p v hv, fun i z hz => ?_, fun i hi => ?_, fun i b hb' => ?_, fun i b p hp => ?_, fun i j b hi hj => ?_, fun i z hz => ?_⟩
  · by_cases hi : i < H.length
    · rw [List.getElem?_append_left hi] at hz
      have hbi : upd κ.β H.length x i = κ.β i := upd_ne _ _ (by omega)
      exact (h.ob i z hz).mono hle hbi fun b _ => rfl
    · have : i = H.length := by
        have := (List.getElem?_eq_some_iff.1 hz).1
        simp at this; omega
      subst this
      simp at hz
      subst hz
      exact hy
  · have h1 : H.length + 1 ≤ i := by simpa using hi
    show upd κ.β H.length x i = _
    rw [upd_ne _ _ (by omega)]; exact h.dom i (by omega)
  · by_cases hi : i = H.length
    · subst hi
      simp only [upd_same, hx, Option.some.injEq] at hb'
      subst hb'
      exact ⟨by show κ.w0.heap.size ≤ g; omega, hg.2⟩
    · simp only [upd_ne _ _ hi] at hb'
      exact h.ex i b hb'
  · by_cases hi : i = H.length
    · subst hi
      have hb' := Bind.block_of_owns hp
      simp only [upd_same, hx, Option.some.injEq] at hb'
      show κ.σ b p = none
      cases hs : κ.σ b p with
      | none => rfl
      | some v => have := hst b p v hs; omega
    · simp only [upd_ne _ _ hi] at hp
      exact h.exσ i b p hp
  · have hold : ∀ k, k ≠ H.length → ∀ c, (κ.β k).block = some c → c < w.heap.size := fun k _ c hc => (h0.ex k c hc).2
    by_cases h1 : i = H.length <;> by_cases h2 : j = H.length
    · omega
    · subst h1
      simp only [upd_same, hx, Option.some.injEq, upd_ne _ _ h2] at hi hj
      have := hold j h2 b hj; omega
    · subst h2
      simp only [upd_same, hx, Option.some.injEq, upd_ne _ _ h1] at hi hj
      have := hold i h1 b hi; omega
    · simp only [upd_ne _ _ h1, upd_ne _ _ h2] at hi hj
      exact h.exd i j b hi hj
  · by_cases hi : i < H.length
    · rw [List.getElem?_append_left hi] at hz; exact h.fl i z hz
    · have : i = H.length := by
        have := (List.getElem?_eq_some_iff.1 hz).1
        simp at this; omega
      subst this
      simp at hz
      subst hz
      exact hfl

/-- a row of texts that a call made -/
theorem HR.adoptStrs {κ : K} {H : Hp} {w w' : World} (h : HR κ H w) (hb : Below w.heap.size w w') {e : TypeId} {v : Value} {L : List (List UInt8)} (hne : L ≠ []) (hr : w'.ownsRow w.heap.size e 1 v L.length (L.map Go.Proofs.encStr)) :
    ∃ κ', κ.le κ' ∧ HR κ' (H ++ [.arr 1 (strRows L)]) w' ∧ VR κ' v (.msl H.length 0 L.length) := by
  have hpos : 0 < L.length := List.length_pos_iff.2 hne
  rcases hr.2 with ⟨-, h0⟩ | ⟨g, cap, cur, rfl, hbase, hgb, r1, r2, r3, r4⟩
  · omega
  have hlt : g < w'.heap.size := (Array.getElem?_eq_some_iff.1 hgb).1
  have hcell : ∀ k, k < L.length → cur[k]? = some (Go.Proofs.encStr (L[k]!)) := fun k hk => by
    have h1 : (cur.toList.take (L.length * 1))[k]? = (L.map Go.Proofs.encStr)[k]? := by rw [r4]
    rw [List.getElem?_take_of_lt (by omega), List.getElem?_map, List.getElem?_eq_getElem hk] at h1
    simpa [hk, getElem!_pos] using h1
  have := h.adopt hb ⟨hbase, hlt⟩ (.arr g 1 none) (.arr 1 (strRows L)) rfl (by simp [Ob.flat, strRows, A.flat]) (by
    refine ⟨g, none, upd_same _ _ _, fun _ _ e => (by cases e), fun k r hk => ?_⟩
    have hkl : k < L.length := by have := (List.getElem?_eq_some_iff.1 hk).1; simpa [strRows] using this
    rw [strRows, List.getElem?_map, List.getElem?_eq_getElem hkl] at hk
    cases hk
    refine ⟨rfl, fun j a ha => ?_⟩
    cases j with
    | succ j => simp at ha
    | zero =>
      simp at ha
      subst ha
      have hc := hcell k hkl
      refine ⟨Go.Proofs.encStr L[k], ?_, ?_, .d (DR.strOf _)⟩
      · rw [Nat.mul_one, Nat.add_zero]
        simp [World.cell?, hgb]
        simpa [hkl, getElem!_pos] using hc
      · simp [World.frozen?, hgb])
  exact ⟨_, this.1, this.2, (.msl _ _ _ _ _ _ _ (.inl ⟨_, upd_same _ _ _⟩) r1 (fun _ => by simp) (fun h0 => by omega))⟩

/-- what the library's AppendSeq yields at nil and an iterator over a row of texts: what is asked of the world -/
def CollectStr (P : Program) (f g : FuncId) : Prop := ∀ (w : World) (Bs : Nat) (sv : Value) (L : List (List UInt8)), w.cell? ⟨Bs, 0, none⟩ = some sv → L.length ≤ 1048576 →
  ((sv = .slice none 0 0 ∧ L = []) ∨ ∃ ad cap, sv = .slice (some ad) L.length cap ∧ (L ≠ [] → ad.spot = none ∧ ∀ (j : Nat) (x : List UInt8), L[j]? = some x → w.cell? ⟨ad.block, ad.off + j, none⟩ = some (Go.Proofs.encStr x))) →
  Calls P f #[.slice none 0 0, .func (.func g) #[] #[.pointer (some ⟨Bs, 0, none⟩)]] w fun e w' => ∃ (v : Value) (t : TypeId), e = .returned v ∧ w'.ownsRow w.heap.size t 1 v L.length (L.map Go.Proofs.encStr) ∧ (v = .slice none 0 0 ↔ L = []) ∧ Below w.heap.size w w'

theorem collect_acall {P : Program} {f g : FuncId} (hC : CollectStr P f g) {L : List (List UInt8)} (hl : L.length ≤ 1048576) {H : Hp} {i bt : Nat} {z : Bool} (hi : H[i]? = some (.box bt [.d (.sl z 1 (L.map fun x => [.str x]))])) :
    ACall P f [.d (.sl true 1 []), .fn (.func g) [] [.ptr i 0]] H (fun r H' => (L = [] ∧ r = .d (.sl true 1 []) ∧ H' = H) ∨ (L ≠ [] ∧ r = .msl H.length 0 L.length ∧ H' = H ++ [.arr 1 (strRows L)])) := by
  intro κ w vs hr hvl hv
  match vs, hvl with
  | [v1, v], _ =>
  have hv1 := (hv 0 v1 _ rfl rfl).d_inv
  have hn1 : v1 = .slice none 0 0 := by
    rcases hv1.sl_inv with ⟨h1, -⟩ | ⟨_, _, _, h1, -⟩ | ⟨_, _, _, _, _, h1, -⟩
    · exact h1
    · cases h1
    · exact absurd rfl (h1 rfl)
  subst hn1
  have hv0 := hv 1 v _ rfl rfl
  cases hv0 with
  | fn _ vs1 vs2 _ _ hl1 hl2 h1 h2 =>
  match vs1, hl1, vs2, hl2 with
  | [], _, [u], _ =>
  have hu := h2 0 u _ rfl rfl
  cases hu with
  | ptr _ _ b hb =>
  obtain ⟨b', hb', hsh, hc⟩ := hr.ob i _ hi
  have hbb : b' = b := by rw [hb] at hb'; cases hb'; rfl
  subst hbb
  obtain ⟨sv, s1, s2, s3⟩ := hc 0 _ rfl
  have hd := s3.d_inv
  refine (hC w b' sv L s1 hl ?_).mono ?_
  · rcases hd.sl_inv with ⟨h0, -, e⟩ | ⟨a, c, h0, -, e⟩ | ⟨b2, o, cap, fv, h0, hz, hcap, hrow, hcs, hds⟩
    · exact .inl ⟨h0, by simpa using e⟩
    · have hLe : L = [] := by simpa using e
      subst hLe
      exact .inr ⟨a, c, h0, fun h => absurd rfl h⟩
    · refine .inr ⟨⟨b2, o, none⟩, cap, by simpa using h0, fun _ => ⟨rfl, fun j x hx => ?_⟩⟩
      have hrw : (L.map fun x => [D.str x])[j]? = some [.str x] := by simp [hx]
      have e1 := hr.st _ _ _ (hcs j 0 _ _ hrw rfl)
      have e2 := (hds j 0 _ _ hrw rfl).str_inv
      rw [e2] at e1
      simpa using e1
  rintro e w' ⟨v, t, rfl, hrow, hnil, hB⟩
  by_cases hLe : L = []
  · have hvn := hnil.2 hLe
    subst hvn
    exact ⟨_, κ, _, H, rfl, K.le_refl κ, hr.later hB, .d (.nilsl 1), .inl ⟨hLe, rfl, rfl⟩⟩
  · obtain ⟨κ', k1, k2, k3⟩ := hr.adoptStrs hB hLe hrow
    exact ⟨_, κ', _, _, rfl, k1, k2, k3, .inr ⟨hLe, rfl, rfl⟩⟩

end Go.Zam

namespace Go.Zam
set_option linter.all false

def irTyRecord (c1 c2 c3 c4 c5 t1 : Nat) : IFn :=
 { nt := 48, res := [.cell 4 3 true, .t 5], body := (
  .seq (.ops [
    ⟨(some 4), none, .alloc t1 [(.int .i64 0), (.sl true 1 []), (.sl true 3 [])]⟩,
    ⟨(some 5), none, .mv (.c (.int .i64 0))⟩] false)
  (.seq (.seq (.ops [
     ⟨(some 10), none, .mv (.t 0)⟩,
     ⟨(some 11), none, .lenL (.t 10)⟩,
     ⟨(some 12), none, .mv (.t 1)⟩,
     ⟨(some 13), none, .lenL (.t 12)⟩,
     ⟨(some 14), none, .bin .neq (.t 11) (.t 13)⟩] false)
   (.cond (.t 14) (.seq (.ops [
      ⟨(some 15), none, .build [(.int .i64 0), (.sl true 1 []), (.sl true 3 [])] []⟩,
      ⟨none, none, .store 3 (.t 4) (.t 15)⟩,
      ⟨(some 5), none, .mv (.c (.int .i64 1))⟩] false)
    (.ret))
   (.skip)))
  (.seq (.ops [
    ⟨(some 16), none, .mv (.t 0)⟩,
    ⟨(some 17), none, .call c1 [(.t 16)]⟩,
    ⟨(some 18), none, .call c2 [(.t 17)]⟩,
    ⟨(some 6), none, .mv (.t 18)⟩] false)
  (.seq (.seq (.ops [
     ⟨(some 19), none, .mv (.t 6)⟩,
     ⟨(some 20), none, .call c3 [(.t 19)]⟩,
     ⟨(some 21), none, .call c4 [(.t 20)]⟩,
     ⟨(some 22), none, .lenL (.t 21)⟩,
     ⟨(some 23), none, .mv (.t 0)⟩,
     ⟨(some 24), none, .lenL (.t 23)⟩,
     ⟨(some 25), none, .bin .neq (.t 22) (.t 24)⟩] false)
   (.cond (.t 25) (.seq (.ops [
      ⟨(some 26), none, .build [(.int .i64 0), (.sl true 1 []), (.sl true 3 [])] []⟩,
      ⟨none, none, .store 3 (.t 4) (.t 26)⟩,
      ⟨(some 5), none, .mv (.c (.int .i64 40))⟩] false)
    (.ret))
   (.skip)))
  (.seq (.ops [
    ⟨(some 27), none, .mv (.t 6)⟩,
    ⟨(some 28), none, .buildT [(2, 3, t1)] [(.int .i64 0), (.sl true 1 []), (.sl true 3 [])] [(0, 1, (.c (.int .i64 3))), (1, 1, (.t 27))]⟩,
    ⟨(some 7), none, .alloc t1 [(.int .i64 0), (.sl true 1 []), (.sl true 3 [])]⟩,
    ⟨none, none, .store 3 (.t 7) (.t 28)⟩] false)
  (.seq (.seq (.ops [
     ⟨(some 29), none, .mv (.t 6)⟩,
     ⟨(some 30), none, .lenL (.t 29)⟩,
     ⟨(some 31), none, .mv (.c (.int .i64 0))⟩] false)
   (.blk 0 (.loop (.seq (.ops [
       ⟨(some 32), none, .bin .lss (.t 31) (.t 30)⟩] false)
     (.seq (.cond (.t 32) (.skip)
      (.exit 0))
     (.seq (.blk 1 (.seq (.ops [
         ⟨(some 33), none, .iaddr 1 (.t 29) (.t 31)⟩,
         ⟨(some 34), none, .load 1 false (.t 33)⟩,
         ⟨(some 9), none, .mv (.t 34)⟩] false)
       (.ops [
        ⟨(some 35), none, .faddr 2 (.t 7)⟩,
        ⟨(some 36), none, .load 1 false (.t 35)⟩,
        ⟨(some 37), none, .mv (.t 1)⟩,
        ⟨(some 38), none, .mv (.t 0)⟩,
        ⟨(some 39), none, .mv (.t 9)⟩,
        ⟨(some 40), none, .call c5 [(.t 38), (.t 39)]⟩,
        ⟨(some 41), none, .iaddr 3 (.t 37) (.t 40)⟩,
        ⟨(some 42), none, .load 3 true (.t 41)⟩,
        ⟨(some 43), none, .bslice 3 [(.t 42)]⟩,
        ⟨(some 44), none, .app 3 56 t1 (.t 36) (.t 43)⟩,
        ⟨(some 45), none, .faddr 2 (.t 7)⟩,
        ⟨none, none, .store 1 (.t 45) (.t 44)⟩] true)))
     (.ops [
      ⟨(some 46), none, .bin .add (.t 31) (.c (.int .i64 1))⟩,
      ⟨(some 31), none, .mv (.t 46)⟩] false)))))))
  (.seq (.ops [
    ⟨(some 47), none, .load 3 true (.t 7)⟩,
    ⟨none, none, .store 3 (.t 4) (.t 47)⟩,
    ⟨(some 5), none, .mv (.c (.int .i64 0))⟩] false)
  (.ret)))))))) }

def irTyDepth (c1 t1 : Nat) : IFn :=
 { nt := 20, res := [.t 2], body := (
  .seq (.ops [
    ⟨(some 1), none, .box t1 3 (.t 0)⟩,
    ⟨(some 2), none, .mv (.c (.int .i64 0))⟩] false)
  (.seq (.ops [
    ⟨(some 3), none, .mv (.c (.int .i64 0))⟩] false)
  (.seq (.seq (.ops [
     ⟨(some 6), none, .faddr 2 (.t 1)⟩,
     ⟨(some 7), none, .load 1 false (.t 6)⟩,
     ⟨(some 8), none, .lenL (.t 7)⟩,
     ⟨(some 9), none, .mv (.c (.int .i64 0))⟩] false)
   (.blk 0 (.loop (.seq (.ops [
       ⟨(some 10), none, .bin .lss (.t 9) (.t 8)⟩] false)
     (.seq (.cond (.t 10) (.skip)
      (.exit 0))
     (.seq (.blk 1 (.seq (.ops [
         ⟨(some 11), none, .iaddr 3 (.t 7) (.t 9)⟩,
         ⟨(some 12), none, .load 3 true (.t 11)⟩,
         ⟨(some 5), none, .alloc t1 [(.int .i64 0), (.sl true 1 []), (.sl true 3 [])]⟩,
         ⟨none, none, .store 3 (.t 5) (.t 12)⟩] false)
       (.ops [
        ⟨(some 13), none, .mv (.t 3)⟩,
        ⟨(some 14), none, .load 3 true (.t 5)⟩,
        ⟨(some 15), none, .call c1 [(.t 14)]⟩,
        ⟨(some 16), none, .mm true (.t 13) (.t 15)⟩,
        ⟨(some 3), none, .mv (.t 16)⟩] false)))
     (.ops [
      ⟨(some 17), none, .bin .add (.t 9) (.c (.int .i64 1))⟩,
      ⟨(some 9), none, .mv (.t 17)⟩] false)))))))
  (.seq (.ops [
    ⟨(some 18), none, .mv (.t 3)⟩,
    ⟨(some 19), none, .bin .add (.t 18) (.c (.int .i64 1))⟩,
    ⟨(some 2), none, .mv (.t 19)⟩] false)
  (.ret))))) }

def irTyTwin (c1 c2 t1 : Nat) : IFn :=
 { nt := 28, res := [.cell 2 3 true], body := (
  .seq (.ops [
    ⟨(some 1), none, .box t1 3 (.t 0)⟩,
    ⟨(some 2), none, .alloc t1 [(.int .i64 0), (.sl true 1 []), (.sl true 3 [])]⟩] false)
  (.seq (.seq (.ops [
     ⟨(some 6), none, .faddr 0 (.t 1)⟩] false)
   (.seq (.ops [
     ⟨(some 8), none, .faddr 1 (.t 1)⟩] false)
   (.both (.seq (.ops [
      ⟨(some 7), none, .load 1 false (.t 6)⟩] false)
    (.both (.seq (.ops [
       ⟨(some 9), none, .load 1 false (.t 8)⟩] false)
     (.both (.seq (.ops [
        ⟨(some 10), none, .call c1 [(.t 9)]⟩] false)
      (.both (.seq (.ops [
         ⟨(some 11), none, .buildT [(2, 3, t1)] [(.int .i64 0), (.sl true 1 []), (.sl true 3 [])] [(0, 1, (.t 7)), (1, 1, (.t 10))]⟩] false)
       (.seq (.ops [
         ⟨(some 3), none, .alloc t1 [(.int .i64 0), (.sl true 1 []), (.sl true 3 [])]⟩] false)
       (.seq (.ops [
         ⟨none, none, .store 3 (.t 3) (.t 11)⟩] false)
       (.skip))))
      (.seq (.ops [
        ⟨(some 3), none, .alloc t1 [(.int .i64 0), (.sl true 1 []), (.sl true 3 [])]⟩] false)
      (.seq (.ops [
        ⟨(some 11), none, .buildT [(2, 3, t1)] [(.int .i64 0), (.sl true 1 []), (.sl true 3 [])] [(0, 1, (.t 7)), (1, 1, (.t 10))]⟩] false)
      (.seq (.ops [
        ⟨none, none, .store 3 (.t 3) (.t 11)⟩] false)
      (.skip))))))
     (.seq (.ops [
       ⟨(some 3), none, .alloc t1 [(.int .i64 0), (.sl true 1 []), (.sl true 3 [])]⟩] false)
     (.seq (.ops [
       ⟨(some 10), none, .call c1 [(.t 9)]⟩] false)
     (.seq (.ops [
       ⟨(some 11), none, .buildT [(2, 3, t1)] [(.int .i64 0), (.sl true 1 []), (.sl true 3 [])] [(0, 1, (.t 7)), (1, 1, (.t 10))]⟩] false)
     (.seq (.ops [
       ⟨none, none, .store 3 (.t 3) (.t 11)⟩] false)
     (.skip)))))))
    (.seq (.ops [
      ⟨(some 3), none, .alloc t1 [(.int .i64 0), (.sl true 1 []), (.sl true 3 [])]⟩] false)
    (.seq (.ops [
      ⟨(some 9), none, .load 1 false (.t 8)⟩] false)
    (.seq (.ops [
      ⟨(some 10), none, .call c1 [(.t 9)]⟩] false)
    (.seq (.ops [
      ⟨(some 11), none, .buildT [(2, 3, t1)] [(.int .i64 0), (.sl true 1 []), (.sl true 3 [])] [(0, 1, (.t 7)), (1, 1, (.t 10))]⟩] false)
    (.seq (.ops [
      ⟨none, none, .store 3 (.t 3) (.t 11)⟩] false)
    (.skip))))))))
   (.both (.seq (.ops [
      ⟨(some 9), none, .load 1 false (.t 8)⟩] false)
    (.both (.seq (.ops [
       ⟨(some 7), none, .load 1 false (.t 6)⟩] false)
     (.both (.seq (.ops [
        ⟨(some 10), none, .call c1 [(.t 9)]⟩] false)
      (.both (.seq (.ops [
         ⟨(some 11), none, .buildT [(2, 3, t1)] [(.int .i64 0), (.sl true 1 []), (.sl true 3 [])] [(0, 1, (.t 7)), (1, 1, (.t 10))]⟩] false)
       (.seq (.ops [
         ⟨(some 3), none, .alloc t1 [(.int .i64 0), (.sl true 1 []), (.sl true 3 [])]⟩] false)
       (.seq (.ops [
         ⟨none, none, .store 3 (.t 3) (.t 11)⟩] false)
       (.skip))))
      (.seq (.ops [
        ⟨(some 3), none, .alloc t1 [(.int .i64 0), (.sl true 1 []), (.sl true 3 [])]⟩] false)
      (.seq (.ops [
        ⟨(some 11), none, .buildT [(2, 3, t1)] [(.int .i64 0), (.sl true 1 []), (.sl true 3 [])] [(0, 1, (.t 7)), (1, 1, (.t 10))]⟩] false)
      (.seq (.ops [
        ⟨none, none, .store 3 (.t 3) (.t 11)⟩] false)
      (.skip))))))
     (.seq (.ops [
       ⟨(some 3), none, .alloc t1 [(.int .i64 0), (.sl true 1 []), (.sl true 3 [])]⟩] false)
     (.seq (.ops [
       ⟨(some 10), none, .call c1 [(.t 9)]⟩] false)
     (.seq (.ops [
       ⟨(some 11), none, .buildT [(2, 3, t1)] [(.int .i64 0), (.sl true 1 []), (.sl true 3 [])] [(0, 1, (.t 7)), (1, 1, (.t 10))]⟩] false)
     (.seq (.ops [
       ⟨none, none, .store 3 (.t 3) (.t 11)⟩] false)
     (.skip)))))))
    (.both (.seq (.ops [
       ⟨(some 10), none, .call c1 [(.t 9)]⟩] false)
     (.both (.seq (.ops [
        ⟨(some 7), none, .load 1 false (.t 6)⟩] false)
      (.both (.seq (.ops [
         ⟨(some 11), none, .buildT [(2, 3, t1)] [(.int .i64 0), (.sl true 1 []), (.sl true 3 [])] [(0, 1, (.t 7)), (1, 1, (.t 10))]⟩] false)
       (.seq (.ops [
         ⟨(some 3), none, .alloc t1 [(.int .i64 0), (.sl true 1 []), (.sl true 3 [])]⟩] false)
       (.seq (.ops [
         ⟨none, none, .store 3 (.t 3) (.t 11)⟩] false)
       (.skip))))
      (.seq (.ops [
        ⟨(some 3), none, .alloc t1 [(.int .i64 0), (.sl true 1 []), (.sl true 3 [])]⟩] false)
      (.seq (.ops [
        ⟨(some 11), none, .buildT [(2, 3, t1)] [(.int .i64 0), (.sl true 1 []), (.sl true 3 [])] [(0, 1, (.t 7)), (1, 1, (.t 10))]⟩] false)
      (.seq (.ops [
        ⟨none, none, .store 3 (.t 3) (.t 11)⟩] false)
      (.skip))))))
     (.seq (.ops [
       ⟨(some 3), none, .alloc t1 [(.int .i64 0), (.sl true 1 []), (.sl true 3 [])]⟩] false)
     (.seq (.ops [
       ⟨(some 7), none, .load 1 false (.t 6)⟩] false)
     (.seq (.ops [
       ⟨(some 11), none, .buildT [(2, 3, t1)] [(.int .i64 0), (.sl true 1 []), (.sl true 3 [])] [(0, 1, (.t 7)), (1, 1, (.t 10))]⟩] false)
     (.seq (.ops [
       ⟨none, none, .store 3 (.t 3) (.t 11)⟩] false)
     (.skip)))))))
    (.seq (.ops [
      ⟨(some 3), none, .alloc t1 [(.int .i64 0), (.sl true 1 []), (.sl true 3 [])]⟩] false)
    (.both (.seq (.ops [
       ⟨(some 7), none, .load 1 false (.t 6)⟩] false)
     (.seq (.ops [
       ⟨(some 10), none, .call c1 [(.t 9)]⟩] false)
     (.seq (.ops [
       ⟨(some 11), none, .buildT [(2, 3, t1)] [(.int .i64 0), (.sl true 1 []), (.sl true 3 [])] [(0, 1, (.t 7)), (1, 1, (.t 10))]⟩] false)
     (.seq (.ops [
       ⟨none, none, .store 3 (.t 3) (.t 11)⟩] false)
     (.skip)))))
    (.seq (.ops [
      ⟨(some 10), none, .call c1 [(.t 9)]⟩] false)
    (.seq (.ops [
      ⟨(some 7), none, .load 1 false (.t 6)⟩] false)
    (.seq (.ops [
      ⟨(some 11), none, .buildT [(2, 3, t1)] [(.int .i64 0), (.sl true 1 []), (.sl true 3 [])] [(0, 1, (.t 7)), (1, 1, (.t 10))]⟩] false)
    (.seq (.ops [
      ⟨none, none, .store 3 (.t 3) (.t 11)⟩] false)
    (.skip))))))))))
   (.seq (.ops [
     ⟨(some 3), none, .alloc t1 [(.int .i64 0), (.sl true 1 []), (.sl true 3 [])]⟩] false)
   (.both (.seq (.ops [
      ⟨(some 7), none, .load 1 false (.t 6)⟩] false)
    (.seq (.ops [
      ⟨(some 9), none, .load 1 false (.t 8)⟩] false)
    (.seq (.ops [
      ⟨(some 10), none, .call c1 [(.t 9)]⟩] false)
    (.seq (.ops [
      ⟨(some 11), none, .buildT [(2, 3, t1)] [(.int .i64 0), (.sl true 1 []), (.sl true 3 [])] [(0, 1, (.t 7)), (1, 1, (.t 10))]⟩] false)
    (.seq (.ops [
      ⟨none, none, .store 3 (.t 3) (.t 11)⟩] false)
    (.skip))))))
   (.seq (.ops [
     ⟨(some 9), none, .load 1 false (.t 8)⟩] false)
   (.both (.seq (.ops [
      ⟨(some 7), none, .load 1 false (.t 6)⟩] false)
    (.seq (.ops [
      ⟨(some 10), none, .call c1 [(.t 9)]⟩] false)
    (.seq (.ops [
      ⟨(some 11), none, .buildT [(2, 3, t1)] [(.int .i64 0), (.sl true 1 []), (.sl true 3 [])] [(0, 1, (.t 7)), (1, 1, (.t 10))]⟩] false)
    (.seq (.ops [
      ⟨none, none, .store 3 (.t 3) (.t 11)⟩] false)
    (.skip)))))
   (.seq (.ops [
     ⟨(some 10), none, .call c1 [(.t 9)]⟩] false)
   (.seq (.ops [
     ⟨(some 7), none, .load 1 false (.t 6)⟩] false)
   (.seq (.ops [
     ⟨(some 11), none, .buildT [(2, 3, t1)] [(.int .i64 0), (.sl true 1 []), (.sl true 3 [])] [(0, 1, (.t 7)), (1, 1, (.t 10))]⟩] false)
   (.seq (.ops [
     ⟨none, none, .store 3 (.t 3) (.t 11)⟩] false)
   (.skip)))))))))))))
  (.seq (.seq (.ops [
     ⟨(some 12), none, .faddr 2 (.t 1)⟩,
     ⟨(some 13), none, .load 1 false (.t 12)⟩,
     ⟨(some 14), none, .lenL (.t 13)⟩,
     ⟨(some 15), none, .mv (.c (.int .i64 0))⟩] false)
   (.blk 0 (.loop (.seq (.ops [
       ⟨(some 16), none, .bin .lss (.t 15) (.t 14)⟩] false)
     (.seq (.cond (.t 16) (.skip)
      (.exit 0))
     (.seq (.blk 1 (.seq (.ops [
         ⟨(some 17), none, .iaddr 3 (.t 13) (.t 15)⟩,
         ⟨(some 18), none, .load 3 true (.t 17)⟩,
         ⟨(some 5), none, .alloc t1 [(.int .i64 0), (.sl true 1 []), (.sl true 3 [])]⟩,
         ⟨none, none, .store 3 (.t 5) (.t 18)⟩] false)
       (.ops [
        ⟨(some 19), none, .faddr 2 (.t 3)⟩,
        ⟨(some 20), none, .load 1 false (.t 19)⟩,
        ⟨(some 21), none, .load 3 true (.t 5)⟩,
        ⟨(some 22), none, .call c2 [(.t 21)]⟩,
        ⟨(some 23), none, .bslice 3 [(.t 22)]⟩,
        ⟨(some 24), none, .app 3 56 t1 (.t 20) (.t 23)⟩,
        ⟨(some 25), none, .faddr 2 (.t 3)⟩,
        ⟨none, none, .store 1 (.t 25) (.t 24)⟩] true)))
     (.ops [
      ⟨(some 26), none, .bin .add (.t 15) (.c (.int .i64 1))⟩,
      ⟨(some 15), none, .mv (.t 26)⟩] false)))))))
  (.seq (.ops [
    ⟨(some 27), none, .load 3 true (.t 3)⟩,
    ⟨none, none, .store 3 (.t 2) (.t 27)⟩] false)
  (.ret))))) }

def irTyRight (c1 c2 t1 : Nat) : IFn :=
 { nt := 81, res := [.t 2], body := (
  .seq (.ops [
    ⟨(some 1), none, .box t1 3 (.t 0)⟩,
    ⟨(some 2), none, .mv (.c (.bool false))⟩] false)
  (.seq (.seq (.ops [
     ⟨(some 7), none, .faddr 0 (.t 1)⟩,
     ⟨(some 8), none, .load 1 false (.t 7)⟩] false)
   (.blk 0 (.seq (.seq (.ops [
       ⟨(some 10), none, .bin .eql (.t 8) (.c (.int .i64 0))⟩,
       ⟨(some 9), none, .mv (.t 10)⟩] false)
     (.cond (.t 9) (.skip)
     (.seq (.ops [
        ⟨(some 11), none, .bin .eql (.t 8) (.c (.int .i64 1))⟩,
        ⟨(some 9), none, .mv (.t 11)⟩] false)
      (.cond (.t 9) (.skip)
      (.ops [
        ⟨(some 12), none, .bin .eql (.t 8) (.c (.int .i64 2))⟩,
        ⟨(some 9), none, .mv (.t 12)⟩] false)))))
    (.cond (.t 9) (.seq (.ops [
       ⟨(some 13), none, .faddr 1 (.t 1)⟩,
       ⟨(some 14), none, .load 1 false (.t 13)⟩,
       ⟨(some 15), none, .lenL (.t 14)⟩,
       ⟨(some 16), none, .bin .eql (.t 15) (.c (.int .i64 0))⟩,
       ⟨(some 17), none, .mv (.t 16)⟩,
       ⟨(some 18), (some (17, true)), .faddr 2 (.t 1)⟩,
       ⟨(some 19), (some (17, true)), .load 1 false (.t 18)⟩,
       ⟨(some 20), (some (17, true)), .lenL (.t 19)⟩,
       ⟨(some 21), (some (17, true)), .bin .eql (.t 20) (.c (.int .i64 0))⟩,
       ⟨(some 22), none, .pick (.t 17) (.t 21) (.c (.bool false))⟩,
       ⟨(some 2), none, .mv (.t 22)⟩] false)
     (.ret))
    (.seq (.ops [
       ⟨(some 24), none, .bin .eql (.t 8) (.c (.int .i64 3))⟩,
       ⟨(some 23), none, .mv (.t 24)⟩] false)
     (.cond (.t 23) (.seq (.seq (.ops [
         ⟨(some 25), none, .faddr 1 (.t 1)⟩,
         ⟨(some 26), none, .load 1 false (.t 25)⟩,
         ⟨(some 27), none, .lenL (.t 26)⟩,
         ⟨(some 28), none, .faddr 2 (.t 1)⟩,
         ⟨(some 29), none, .load 1 false (.t 28)⟩,
         ⟨(some 30), none, .lenL (.t 29)⟩,
         ⟨(some 31), none, .bin .neq (.t 27) (.t 30)⟩] false)
       (.cond (.t 31) (.seq (.ops [
          ⟨(some 2), none, .mv (.c (.bool false))⟩] false)
        (.ret))
       (.skip)))
      (.seq (.ops [
        ⟨(some 32), none, .faddr 1 (.t 1)⟩,
        ⟨(some 33), none, .load 1 false (.t 32)⟩,
        ⟨(some 34), none, .lenL (.t 33)⟩,
        ⟨(some 35), none, .mv (.c (.int .i64 0))⟩] false)
      (.blk 1 (.loop (.seq (.ops [
          ⟨(some 36), none, .bin .lss (.t 35) (.t 34)⟩] false)
        (.seq (.cond (.t 36) (.skip)
         (.exit 1))
        (.seq (.blk 2 (.seq (.ops [
            ⟨(some 37), none, .mv (.t 35)⟩,
            ⟨(some 38), none, .iaddr 1 (.t 33) (.t 35)⟩,
            ⟨(some 39), none, .load 1 false (.t 38)⟩,
            ⟨(some 3), none, .mv (.t 37)⟩,
            ⟨(some 4), none, .mv (.t 39)⟩] false)
          (.seq (.ops [
            ⟨(some 40), none, .mv (.t 4)⟩,
            ⟨(some 41), none, .call c1 [(.t 40)]⟩,
            ⟨(some 42), none, .un .not (.t 41)⟩,
            ⟨(some 43), none, .mv (.t 42)⟩,
            ⟨(some 44), (some (43, false)), .mv (.t 3)⟩,
            ⟨(some 45), (some (43, false)), .bin .gtr (.t 44) (.c (.int .i64 0))⟩,
            ⟨(some 46), (some (43, false)), .mv (.t 45)⟩,
            ⟨(some 47), (some (46, true)), .faddr 1 (.t 1)⟩,
            ⟨(some 48), (some (46, true)), .load 1 false (.t 47)⟩,
            ⟨(some 49), (some (46, true)), .mv (.t 3)⟩,
            ⟨(some 50), (some (46, true)), .bin .sub (.t 49) (.c (.int .i64 1))⟩,
            ⟨(some 51), (some (46, true)), .iaddr 1 (.t 48) (.t 50)⟩,
            ⟨(some 52), (some (46, true)), .load 1 false (.t 51)⟩,
            ⟨(some 53), (some (46, true)), .mv (.t 4)⟩,
            ⟨(some 54), (some (46, true)), .bin .geq (.t 52) (.t 53)⟩,
            ⟨(some 55), (some (43, false)), .pick (.t 46) (.t 54) (.c (.bool false))⟩,
            ⟨(some 56), none, .pick (.t 43) (.c (.bool true)) (.t 55)⟩] false)
          (.cond (.t 56) (.seq (.ops [
             ⟨(some 2), none, .mv (.c (.bool false))⟩] false)
           (.ret))
          (.skip)))))
        (.ops [
         ⟨(some 57), none, .bin .add (.t 35) (.c (.int .i64 1))⟩,
         ⟨(some 35), none, .mv (.t 57)⟩] false))))))))
     (.seq (.ops [
        ⟨(some 59), none, .bin .eql (.t 8) (.c (.int .i64 4))⟩,
        ⟨(some 58), none, .mv (.t 59)⟩] false)
      (.cond (.t 58) (.seq (.ops [
         ⟨(some 60), none, .faddr 1 (.t 1)⟩,
         ⟨(some 61), none, .load 1 false (.t 60)⟩,
         ⟨(some 62), none, .lenL (.t 61)⟩,
         ⟨(some 63), none, .bin .neq (.t 62) (.c (.int .i64 0))⟩,
         ⟨(some 64), none, .mv (.t 63)⟩,
         ⟨(some 65), (some (64, false)), .faddr 2 (.t 1)⟩,
         ⟨(some 66), (some (64, false)), .load 1 false (.t 65)⟩,
         ⟨(some 67), (some (64, false)), .lenL (.t 66)⟩,
         ⟨(some 68), (some (64, false)), .bin .eql (.t 67) (.c (.int .i64 0))⟩,
         ⟨(some 69), none, .pick (.t 64) (.c (.bool true)) (.t 68)⟩] false)
       (.cond (.t 69) (.seq (.ops [
          ⟨(some 2), none, .mv (.c (.bool false))⟩] false)
        (.ret))
       (.skip)))
      (.seq (.ops [
         ⟨(some 2), none, .mv (.c (.bool false))⟩] false)
       (.ret))))))))))
  (.seq (.seq (.ops [
     ⟨(some 70), none, .faddr 2 (.t 1)⟩,
     ⟨(some 71), none, .load 1 false (.t 70)⟩,
     ⟨(some 72), none, .lenL (.t 71)⟩,
     ⟨(some 73), none, .mv (.c (.int .i64 0))⟩] false)
   (.blk 3 (.loop (.seq (.ops [
       ⟨(some 74), none, .bin .lss (.t 73) (.t 72)⟩] false)
     (.seq (.cond (.t 74) (.skip)
      (.exit 3))
     (.seq (.blk 4 (.seq (.ops [
         ⟨(some 75), none, .iaddr 3 (.t 71) (.t 73)⟩,
         ⟨(some 76), none, .load 3 true (.t 75)⟩,
         ⟨(some 6), none, .alloc t1 [(.int .i64 0), (.sl true 1 []), (.sl true 3 [])]⟩,
         ⟨none, none, .store 3 (.t 6) (.t 76)⟩] false)
       (.seq (.ops [
         ⟨(some 77), none, .load 3 true (.t 6)⟩,
         ⟨(some 78), none, .call c2 [(.t 77)]⟩,
         ⟨(some 79), none, .un .not (.t 78)⟩] false)
       (.cond (.t 79) (.seq (.ops [
          ⟨(some 2), none, .mv (.c (.bool false))⟩] false)
        (.ret))
       (.skip)))))
     (.ops [
      ⟨(some 80), none, .bin .add (.t 73) (.c (.int .i64 1))⟩,
      ⟨(some 73), none, .mv (.t 80)⟩] false)))))))
  (.seq (.ops [
    ⟨(some 2), none, .mv (.c (.bool true))⟩] false)
  (.ret))))) }

def irTyText (c1 c2 t1 t2 : Nat) : IFn :=
 { nt := 80, res := [.t 2], body := (
  .seq (.ops [
    ⟨(some 1), none, .box t1 3 (.t 0)⟩,
    ⟨(some 2), none, .mv (.c (.str []))⟩] false)
  (.seq (.seq (.ops [
     ⟨(some 10), none, .faddr 0 (.t 1)⟩,
     ⟨(some 11), none, .load 1 false (.t 10)⟩] false)
   (.blk 0 (.seq (.ops [
      ⟨(some 13), none, .bin .eql (.t 11) (.c (.int .i64 1))⟩,
      ⟨(some 12), none, .mv (.t 13)⟩] false)
    (.cond (.t 12) (.seq (.ops [
       ⟨(some 2), none, .mv (.c (.str [105, 110, 116]))⟩] false)
     (.ret))
    (.seq (.ops [
       ⟨(some 15), none, .bin .eql (.t 11) (.c (.int .i64 2))⟩,
       ⟨(some 14), none, .mv (.t 15)⟩] false)
     (.cond (.t 14) (.seq (.ops [
        ⟨(some 2), none, .mv (.c (.str [115, 116, 114]))⟩] false)
      (.ret))
     (.seq (.ops [
        ⟨(some 17), none, .bin .eql (.t 11) (.c (.int .i64 3))⟩,
        ⟨(some 16), none, .mv (.t 17)⟩] false)
      (.cond (.t 16) (.seq (.ops [
         ⟨(some 3), none, .nilT 1 t2⟩] false)
       (.seq (.seq (.ops [
          ⟨(some 18), none, .faddr 1 (.t 1)⟩,
          ⟨(some 19), none, .load 1 false (.t 18)⟩,
          ⟨(some 20), none, .lenL (.t 19)⟩,
          ⟨(some 21), none, .mv (.c (.int .i64 0))⟩] false)
        (.blk 1 (.loop (.seq (.ops [
            ⟨(some 22), none, .bin .lss (.t 21) (.t 20)⟩] false)
          (.seq (.cond (.t 22) (.skip)
           (.exit 1))
          (.seq (.blk 2 (.seq (.ops [
              ⟨(some 23), none, .mv (.t 21)⟩,
              ⟨(some 24), none, .iaddr 1 (.t 19) (.t 21)⟩,
              ⟨(some 25), none, .load 1 false (.t 24)⟩,
              ⟨(some 4), none, .mv (.t 23)⟩,
              ⟨(some 5), none, .mv (.t 25)⟩] false)
            (.seq (.ops [
              ⟨(some 26), none, .mv (.t 4)⟩,
              ⟨(some 27), none, .faddr 2 (.t 1)⟩,
              ⟨(some 28), none, .load 1 false (.t 27)⟩,
              ⟨(some 29), none, .lenL (.t 28)⟩,
              ⟨(some 30), none, .bin .lss (.t 26) (.t 29)⟩] false)
            (.cond (.t 30) (.ops [
              ⟨(some 31), none, .mv (.t 3)⟩,
              ⟨(some 32), none, .mv (.t 5)⟩,
              ⟨(some 33), none, .bin .add (.t 32) (.c (.str [58, 32]))⟩,
              ⟨(some 34), none, .faddr 2 (.t 1)⟩,
              ⟨(some 35), none, .load 1 false (.t 34)⟩,
              ⟨(some 36), none, .mv (.t 4)⟩,
              ⟨(some 37), none, .iaddr 3 (.t 35) (.t 36)⟩,
              ⟨(some 38), none, .load 3 true (.t 37)⟩,
              ⟨(some 39), none, .call c1 [(.t 38)]⟩,
              ⟨(some 40), none, .bin .add (.t 33) (.t 39)⟩,
              ⟨(some 41), none, .bslice 1 [(.t 40)]⟩,
              ⟨(some 42), none, .app 1 16 t2 (.t 31) (.t 41)⟩,
              ⟨(some 3), none, .mv (.t 42)⟩] false)
            (.skip)))))
          (.ops [
           ⟨(some 43), none, .bin .add (.t 21) (.c (.int .i64 1))⟩,
           ⟨(some 21), none, .mv (.t 43)⟩] false)))))))
       (.seq (.ops [
         ⟨(some 44), none, .mv (.t 3)⟩,
         ⟨(some 45), none, .call c2 [(.t 44), (.c (.str [44, 32]))]⟩,
         ⟨(some 46), none, .bin .add (.c (.str [123])) (.t 45)⟩,
         ⟨(some 47), none, .bin .add (.t 46) (.c (.str [125]))⟩,
         ⟨(some 2), none, .mv (.t 47)⟩] false)
       (.ret))))
      (.seq (.ops [
         ⟨(some 49), none, .bin .eql (.t 11) (.c (.int .i64 4))⟩,
         ⟨(some 48), none, .mv (.t 49)⟩] false)
       (.cond (.t 48) (.seq (.ops [
          ⟨(some 6), none, .nilT 1 t2⟩] false)
        (.seq (.seq (.ops [
           ⟨(some 50), none, .faddr 2 (.t 1)⟩,
           ⟨(some 51), none, .load 1 false (.t 50)⟩,
           ⟨(some 52), none, .lenL (.t 51)⟩,
           ⟨(some 53), none, .mv (.c (.int .i64 0))⟩] false)
         (.blk 3 (.loop (.seq (.ops [
             ⟨(some 54), none, .bin .lss (.t 53) (.t 52)⟩] false)
           (.seq (.cond (.t 54) (.skip)
            (.exit 3))
           (.seq (.blk 4 (.seq (.ops [
               ⟨(some 55), none, .iaddr 3 (.t 51) (.t 53)⟩,
               ⟨(some 56), none, .load 3 true (.t 55)⟩,
               ⟨(some 8), none, .alloc t1 [(.int .i64 0), (.sl true 1 []), (.sl true 3 [])]⟩,
               ⟨none, none, .store 3 (.t 8) (.t 56)⟩] false)
             (.ops [
              ⟨(some 57), none, .mv (.t 6)⟩,
              ⟨(some 58), none, .load 3 true (.t 8)⟩,
              ⟨(some 59), none, .call c1 [(.t 58)]⟩,
              ⟨(some 60), none, .bslice 1 [(.t 59)]⟩,
              ⟨(some 61), none, .app 1 16 t2 (.t 57) (.t 60)⟩,
              ⟨(some 6), none, .mv (.t 61)⟩] false)))
           (.ops [
            ⟨(some 62), none, .bin .add (.t 53) (.c (.int .i64 1))⟩,
            ⟨(some 53), none, .mv (.t 62)⟩] false)))))))
        (.seq (.seq (.ops [
           ⟨(some 63), none, .mv (.t 6)⟩,
           ⟨(some 64), none, .lenL (.t 63)⟩,
           ⟨(some 65), none, .bin .eql (.t 64) (.c (.int .i64 0))⟩] false)
         (.cond (.t 65) (.seq (.ops [
            ⟨(some 2), none, .mv (.c (.str [100, 121, 110]))⟩] false)
          (.ret))
         (.skip)))
        (.seq (.ops [
          ⟨(some 66), none, .mv (.t 6)⟩,
          ⟨(some 67), none, .lenL (.t 66)⟩,
          ⟨(some 68), none, .bin .sub (.t 67) (.c (.int .i64 1))⟩,
          ⟨(some 9), none, .mv (.t 68)⟩] false)
        (.seq (.ops [
          ⟨(some 69), none, .mv (.t 6)⟩,
          ⟨(some 70), none, .mv (.t 9)⟩,
          ⟨(some 71), none, .slice 1 (.t 69) none (some (.t 70)) none⟩,
          ⟨(some 72), none, .call c2 [(.t 71), (.c (.str [44, 32]))]⟩,
          ⟨(some 73), none, .bin .add (.c (.str [102, 110, 40])) (.t 72)⟩,
          ⟨(some 74), none, .bin .add (.t 73) (.c (.str [41, 58, 32]))⟩,
          ⟨(some 75), none, .mv (.t 6)⟩,
          ⟨(some 76), none, .mv (.t 9)⟩,
          ⟨(some 77), none, .iaddr 1 (.t 75) (.t 76)⟩,
          ⟨(some 78), none, .load 1 false (.t 77)⟩,
          ⟨(some 79), none, .bin .add (.t 74) (.t 78)⟩,
          ⟨(some 2), none, .mv (.t 79)⟩] true)
        (.ret))))))
       (.skip)))))))))))
  (.seq (.ops [
    ⟨(some 2), none, .mv (.c (.str [100, 121, 110]))⟩] false)
  (.ret)))) }

def irTyParse (c1 c2 t1 t2 : Nat) : IFn :=
 { nt := 19, res := [.cell 2 3 true, .t 3], body := (
  .seq (.ops [
    ⟨(some 2), none, .alloc t1 [(.int .i64 0), (.sl true 1 []), (.sl true 3 [])]⟩,
    ⟨(some 3), none, .mv (.c (.int .i64 0))⟩] false)
  (.seq (.ops [
    ⟨(some 7), none, .mv (.t 0)⟩,
    ⟨(some 8), none, .call c1 [(.t 7)]⟩,
    ⟨(some 6), none, .mv (.t 8)⟩,
    ⟨(some 9), none, .ext (.t 6) 0⟩,
    ⟨(some 10), none, .ext (.t 6) 1⟩,
    ⟨(some 4), none, .alloc t2 [(.int .i64 0), (.int .i64 0), (.int .i64 0), (.str []), (.int .i64 0), (.sl true 6 [])]⟩,
    ⟨none, none, .store 6 (.t 4) (.t 9)⟩,
    ⟨(some 5), none, .mv (.t 10)⟩] false)
  (.seq (.seq (.ops [
     ⟨(some 11), none, .mv (.t 5)⟩,
     ⟨(some 12), none, .bin .neq (.t 11) (.c (.int .i64 0))⟩] false)
   (.cond (.t 12) (.seq (.ops [
      ⟨(some 13), none, .build [(.int .i64 0), (.sl true 1 []), (.sl true 3 [])] []⟩,
      ⟨(some 14), none, .mv (.t 5)⟩,
      ⟨none, none, .store 3 (.t 2) (.t 13)⟩,
      ⟨(some 3), none, .mv (.t 14)⟩] false)
    (.ret))
   (.skip)))
  (.seq (.ops [
    ⟨(some 15), none, .load 6 true (.t 4)⟩,
    ⟨(some 16), none, .call c2 [(.t 15)]⟩,
    ⟨(some 17), none, .ext (.t 16) 0⟩,
    ⟨(some 18), none, .ext (.t 16) 1⟩,
    ⟨none, none, .store 3 (.t 2) (.t 17)⟩,
    ⟨(some 3), none, .mv (.t 18)⟩] false)
  (.ret))))) }

def irTySame (c1 c2 c3 t1 : Nat) : IFn :=
 { nt := 24, res := [.t 4], body := (
  .seq (.ops [
    ⟨(some 2), none, .box t1 3 (.t 0)⟩,
    ⟨(some 3), none, .box t1 3 (.t 1)⟩,
    ⟨(some 4), none, .mv (.c (.bool false))⟩] false)
  (.seq (.ops [
    ⟨(some 5), none, .faddr 0 (.t 2)⟩,
    ⟨(some 6), none, .load 1 false (.t 5)⟩,
    ⟨(some 7), none, .faddr 0 (.t 3)⟩,
    ⟨(some 8), none, .load 1 false (.t 7)⟩,
    ⟨(some 9), none, .bin .eql (.t 6) (.t 8)⟩,
    ⟨(some 10), none, .mv (.t 9)⟩,
    ⟨(some 11), (some (10, true)), .faddr 1 (.t 2)⟩,
    ⟨(some 12), (some (10, true)), .load 1 false (.t 11)⟩,
    ⟨(some 13), (some (10, true)), .faddr 1 (.t 3)⟩,
    ⟨(some 14), (some (10, true)), .load 1 false (.t 13)⟩,
    ⟨(some 15), (some (10, true)), .call c1 [(.t 12), (.t 14)]⟩,
    ⟨(some 16), none, .pick (.t 10) (.t 15) (.c (.bool false))⟩,
    ⟨(some 17), none, .mv (.t 16)⟩,
    ⟨(some 18), (some (17, true)), .faddr 2 (.t 2)⟩,
    ⟨(some 19), (some (17, true)), .load 1 false (.t 18)⟩,
    ⟨(some 20), (some (17, true)), .faddr 2 (.t 3)⟩,
    ⟨(some 21), (some (17, true)), .load 1 false (.t 20)⟩,
    ⟨(some 22), (some (17, true)), .call c2 [(.t 19), (.t 21), (.c (.fn c3))]⟩,
    ⟨(some 23), none, .pick (.t 17) (.t 22) (.c (.bool false))⟩,
    ⟨(some 4), none, .mv (.t 23)⟩] false)
  (.ret))) }

def irSlSorted (c1 c2 : Nat) : IFn :=
 { nt := 9, res := [.t 2], body := (
  .seq (.ops [
    ⟨(some 2), none, .mv (.c (.sl true 1 []))⟩] false)
  (.seq (.ops [
    ⟨(some 4), none, .mv (.t 0)⟩,
    ⟨(some 5), none, .call c1 [(.t 4)]⟩,
    ⟨(some 3), none, .mv (.t 5)⟩] false)
  (.seq (.ops [
    ⟨(some 6), none, .mv (.t 3)⟩,
    ⟨(some 7), none, .call c2 [(.t 6)]⟩] false)
  (.seq (.ops [
    ⟨(some 8), none, .mv (.t 3)⟩,
    ⟨(some 2), none, .mv (.t 8)⟩] false)
  (.ret))))) }

def irSlValues (c1 t1 : Nat) : IFn :=
 { nt := 4, res := [.t 2], body := (
  .seq (.ops [
    ⟨(some 1), none, .box t1 1 (.t 0)⟩,
    ⟨(some 2), none, .mv (.c .nilf)⟩] false)
  (.seq (.ops [
    ⟨(some 3), none, .mkfn (.func c1) [] [(.t 1)]⟩,
    ⟨(some 2), none, .mv (.t 3)⟩] false)
  (.ret))) }

def irTyEqF (t1 : Nat) : IFn :=
 { nt := 32, res := [.t 6], body := (
  .seq (.ops [
    ⟨(some 6), none, .mv (.c (.bool false))⟩] false)
  (.seq (.seq (.ops [
     ⟨(some 10), none, .mv (.t 0)⟩,
     ⟨(some 11), none, .lenL (.t 10)⟩,
     ⟨(some 12), none, .mv (.t 1)⟩,
     ⟨(some 13), none, .lenL (.t 12)⟩,
     ⟨(some 14), none, .bin .neq (.t 11) (.t 13)⟩] false)
   (.cond (.t 14) (.seq (.ops [
      ⟨(some 6), none, .mv (.c (.bool false))⟩] false)
    (.ret))
   (.skip)))
  (.seq (.seq (.ops [
     ⟨(some 15), none, .mv (.t 0)⟩,
     ⟨(some 16), none, .lenL (.t 15)⟩,
     ⟨(some 17), none, .mv (.c (.int .i64 0))⟩] false)
   (.blk 0 (.loop (.seq (.ops [
       ⟨(some 18), none, .bin .lss (.t 17) (.t 16)⟩] false)
     (.seq (.cond (.t 18) (.skip)
      (.exit 0))
     (.seq (.blk 1 (.seq (.ops [
         ⟨(some 19), none, .mv (.t 17)⟩,
         ⟨(some 20), none, .iaddr 3 (.t 15) (.t 17)⟩,
         ⟨(some 21), none, .load 3 true (.t 20)⟩,
         ⟨(some 8), none, .alloc t1 [(.int .i64 0), (.sl true 1 []), (.sl true 3 [])]⟩,
         ⟨(some 7), none, .mv (.t 19)⟩,
         ⟨none, none, .store 3 (.t 8) (.t 21)⟩] false)
       (.seq (.ops [
         ⟨(some 22), none, .mv (.t 1)⟩,
         ⟨(some 23), none, .mv (.t 7)⟩,
         ⟨(some 24), none, .iaddr 3 (.t 22) (.t 23)⟩,
         ⟨(some 25), none, .load 3 true (.t 24)⟩,
         ⟨(some 9), none, .alloc t1 [(.int .i64 0), (.sl true 1 []), (.sl true 3 [])]⟩,
         ⟨none, none, .store 3 (.t 9) (.t 25)⟩] false)
       (.seq (.ops [
         ⟨(some 26), none, .mv (.t 2)⟩,
         ⟨(some 27), none, .load 3 true (.t 8)⟩,
         ⟨(some 28), none, .load 3 true (.t 9)⟩,
         ⟨(some 29), none, .callv (.t 26) [(.t 27), (.t 28)]⟩,
         ⟨(some 30), none, .un .not (.t 29)⟩] false)
       (.cond (.t 30) (.seq (.ops [
          ⟨(some 6), none, .mv (.c (.bool false))⟩] false)
        (.ret))
       (.skip))))))
     (.ops [
      ⟨(some 31), none, .bin .add (.t 17) (.c (.int .i64 1))⟩,
      ⟨(some 17), none, .mv (.t 31)⟩] false)))))))
  (.seq (.ops [
    ⟨(some 6), none, .mv (.c (.bool true))⟩] false)
  (.ret))))) }

def irTyOf (c1 c2 t1 t2 : Nat) : IFn :=
 { nt := 22, res := [.cell 2 3 true, .t 3], body := (
  .seq (.ops [
    ⟨(some 1), none, .box t1 6 (.t 0)⟩,
    ⟨(some 2), none, .alloc t2 [(.int .i64 0), (.sl true 1 []), (.sl true 3 [])]⟩,
    ⟨(some 3), none, .mv (.c (.int .i64 0))⟩] false)
  (.seq (.ops [
    ⟨(some 7), none, .load 6 true (.t 1)⟩,
    ⟨(some 8), none, .call c1 [(.t 7)]⟩,
    ⟨(some 6), none, .mv (.t 8)⟩,
    ⟨(some 9), none, .ext (.t 6) 0⟩,
    ⟨(some 10), none, .ext (.t 6) 1⟩,
    ⟨(some 4), none, .alloc t2 [(.int .i64 0), (.sl true 1 []), (.sl true 3 [])]⟩,
    ⟨none, none, .store 3 (.t 4) (.t 9)⟩,
    ⟨(some 5), none, .mv (.t 10)⟩] false)
  (.seq (.blk 0 (.seq (.ops [
      ⟨(some 12), none, .mv (.t 5)⟩,
      ⟨(some 13), none, .bin .neq (.t 12) (.c (.int .i64 0))⟩,
      ⟨(some 11), none, .mv (.t 13)⟩] false)
    (.cond (.t 11) (.seq (.ops [
       ⟨(some 14), none, .build [(.int .i64 0), (.sl true 1 []), (.sl true 3 [])] []⟩,
       ⟨(some 15), none, .mv (.t 5)⟩,
       ⟨none, none, .store 3 (.t 2) (.t 14)⟩,
       ⟨(some 3), none, .mv (.t 15)⟩] false)
     (.ret))
    (.seq (.ops [
       ⟨(some 17), none, .load 3 true (.t 4)⟩,
       ⟨(some 18), none, .call c2 [(.t 17)]⟩,
       ⟨(some 19), none, .bin .gtr (.t 18) (.c (.int .i64 12))⟩,
       ⟨(some 16), none, .mv (.t 19)⟩] false)
     (.cond (.t 16) (.seq (.ops [
        ⟨(some 20), none, .build [(.int .i64 0), (.sl true 1 []), (.sl true 3 [])] []⟩,
        ⟨none, none, .store 3 (.t 2) (.t 20)⟩,
        ⟨(some 3), none, .mv (.c (.int .i64 25))⟩] false)
      (.ret))
     (.skip))))))
  (.seq (.ops [
    ⟨(some 21), none, .load 3 true (.t 4)⟩,
    ⟨none, none, .store 3 (.t 2) (.t 21)⟩,
    ⟨(some 3), none, .mv (.c (.int .i64 0))⟩] false)
  (.ret))))) }

def irSlEqS : IFn :=
 { nt := 26, res := [.t 4], body := (
  .seq (.ops [
    ⟨(some 4), none, .mv (.c (.bool false))⟩] false)
  (.seq (.seq (.ops [
     ⟨(some 6), none, .mv (.t 0)⟩,
     ⟨(some 7), none, .lenL (.t 6)⟩,
     ⟨(some 8), none, .mv (.t 1)⟩,
     ⟨(some 9), none, .lenL (.t 8)⟩,
     ⟨(some 10), none, .bin .neq (.t 7) (.t 9)⟩] false)
   (.cond (.t 10) (.seq (.ops [
      ⟨(some 4), none, .mv (.c (.bool false))⟩] false)
    (.ret))
   (.skip)))
  (.seq (.seq (.ops [
     ⟨(some 11), none, .mv (.t 0)⟩,
     ⟨(some 12), none, .lenL (.t 11)⟩,
     ⟨(some 13), none, .mv (.c (.int .i64 0))⟩] false)
   (.blk 0 (.loop (.seq (.ops [
       ⟨(some 14), none, .bin .lss (.t 13) (.t 12)⟩] false)
     (.seq (.cond (.t 14) (.skip)
      (.exit 0))
     (.seq (.blk 1 (.seq (.ops [
         ⟨(some 15), none, .mv (.t 13)⟩,
         ⟨(some 5), none, .mv (.t 15)⟩] false)
       (.seq (.ops [
         ⟨(some 16), none, .mv (.t 0)⟩,
         ⟨(some 17), none, .mv (.t 5)⟩,
         ⟨(some 18), none, .iaddr 1 (.t 16) (.t 17)⟩,
         ⟨(some 19), none, .load 1 false (.t 18)⟩,
         ⟨(some 20), none, .mv (.t 1)⟩,
         ⟨(some 21), none, .mv (.t 5)⟩,
         ⟨(some 22), none, .iaddr 1 (.t 20) (.t 21)⟩,
         ⟨(some 23), none, .load 1 false (.t 22)⟩,
         ⟨(some 24), none, .bin .neq (.t 19) (.t 23)⟩] true)
       (.cond (.t 24) (.seq (.ops [
          ⟨(some 4), none, .mv (.c (.bool false))⟩] false)
        (.ret))
       (.skip)))))
     (.ops [
      ⟨(some 25), none, .bin .add (.t 13) (.c (.int .i64 1))⟩,
      ⟨(some 13), none, .mv (.t 25)⟩] false)))))))
  (.seq (.ops [
    ⟨(some 4), none, .mv (.c (.bool true))⟩] false)
  (.ret))))) }

def irTyOfN (c1 c2 t1 t2 t3 : Nat) : IFn :=
 { nt := 60, res := [.cell 2 3 true, .t 3], body := (
  .seq (.ops [
    ⟨(some 1), none, .box t1 6 (.t 0)⟩,
    ⟨(some 2), none, .alloc t2 [(.int .i64 0), (.sl true 1 []), (.sl true 3 [])]⟩,
    ⟨(some 3), none, .mv (.c (.int .i64 0))⟩] false)
  (.seq (.seq (.ops [
     ⟨(some 9), none, .faddr 0 (.t 1)⟩,
     ⟨(some 10), none, .load 1 false (.t 9)⟩] false)
   (.blk 0 (.seq (.seq (.ops [
       ⟨(some 12), none, .bin .eql (.t 10) (.c (.int .i64 0))⟩,
       ⟨(some 11), none, .mv (.t 12)⟩] false)
     (.cond (.t 11) (.skip)
     (.ops [
       ⟨(some 13), none, .bin .eql (.t 10) (.c (.int .i64 31))⟩,
       ⟨(some 11), none, .mv (.t 13)⟩] false)))
    (.cond (.t 11) (.seq (.ops [
       ⟨(some 14), none, .build [(.int .i64 0), (.sl true 1 []), (.sl true 3 [])] []⟩,
       ⟨none, none, .store 3 (.t 2) (.t 14)⟩,
       ⟨(some 3), none, .mv (.c (.int .i64 0))⟩] false)
     (.ret))
    (.seq (.ops [
       ⟨(some 16), none, .bin .eql (.t 10) (.c (.int .i64 29))⟩,
       ⟨(some 15), none, .mv (.t 16)⟩] false)
     (.cond (.t 15) (.seq (.ops [
        ⟨(some 17), none, .build [(.int .i64 0), (.sl true 1 []), (.sl true 3 [])] [(0, 1, (.c (.int .i64 1)))]⟩,
        ⟨none, none, .store 3 (.t 2) (.t 17)⟩,
        ⟨(some 3), none, .mv (.c (.int .i64 0))⟩] false)
      (.ret))
     (.seq (.ops [
        ⟨(some 19), none, .bin .eql (.t 10) (.c (.int .i64 30))⟩,
        ⟨(some 18), none, .mv (.t 19)⟩] false)
      (.cond (.t 18) (.seq (.ops [
         ⟨(some 20), none, .build [(.int .i64 0), (.sl true 1 []), (.sl true 3 [])] [(0, 1, (.c (.int .i64 2)))]⟩,
         ⟨none, none, .store 3 (.t 2) (.t 20)⟩,
         ⟨(some 3), none, .mv (.c (.int .i64 0))⟩] false)
       (.ret))
      (.seq (.ops [
         ⟨(some 22), none, .bin .eql (.t 10) (.c (.int .i64 32))⟩,
         ⟨(some 21), none, .mv (.t 22)⟩] false)
       (.cond (.t 21) (.seq (.ops [
          ⟨(some 23), none, .load 6 true (.t 1)⟩,
          ⟨(some 24), none, .call c1 [(.t 23)]⟩,
          ⟨(some 25), none, .ext (.t 24) 0⟩,
          ⟨(some 26), none, .ext (.t 24) 1⟩,
          ⟨none, none, .store 3 (.t 2) (.t 25)⟩,
          ⟨(some 3), none, .mv (.t 26)⟩] false)
        (.ret))
       (.seq (.ops [
          ⟨(some 28), none, .bin .eql (.t 10) (.c (.int .i64 34))⟩,
          ⟨(some 27), none, .mv (.t 28)⟩] false)
        (.cond (.t 27) (.seq (.ops [
           ⟨(some 29), none, .buildT [(1, 1, t3), (2, 3, t2)] [(.int .i64 0), (.sl true 1 []), (.sl true 3 [])] [(0, 1, (.c (.int .i64 4)))]⟩,
           ⟨(some 4), none, .alloc t2 [(.int .i64 0), (.sl true 1 []), (.sl true 3 [])]⟩,
           ⟨none, none, .store 3 (.t 4) (.t 29)⟩] false)
         (.seq (.seq (.ops [
            ⟨(some 30), none, .faddr 5 (.t 1)⟩,
            ⟨(some 31), none, .load 1 false (.t 30)⟩,
            ⟨(some 32), none, .lenL (.t 31)⟩,
            ⟨(some 33), none, .mv (.c (.int .i64 0))⟩] false)
          (.blk 1 (.loop (.seq (.ops [
              ⟨(some 34), none, .bin .lss (.t 33) (.t 32)⟩] false)
            (.seq (.cond (.t 34) (.skip)
             (.exit 1))
            (.seq (.blk 2 (.seq (.ops [
                ⟨(some 35), none, .iaddr 6 (.t 31) (.t 33)⟩,
                ⟨(some 36), none, .load 6 true (.t 35)⟩,
                ⟨(some 6), none, .alloc t1 [(.int .i64 0), (.int .i64 0), (.int .i64 0), (.str []), (.int .i64 0), (.sl true 6 [])]⟩,
                ⟨none, none, .store 6 (.t 6) (.t 36)⟩] false)
              (.seq (.ops [
                ⟨(some 38), none, .load 6 true (.t 6)⟩,
                ⟨(some 39), none, .call c2 [(.t 38)]⟩,
                ⟨(some 37), none, .mv (.t 39)⟩,
                ⟨(some 40), none, .ext (.t 37) 0⟩,
                ⟨(some 41), none, .ext (.t 37) 1⟩,
                ⟨(some 7), none, .alloc t2 [(.int .i64 0), (.sl true 1 []), (.sl true 3 [])]⟩,
                ⟨none, none, .store 3 (.t 7) (.t 40)⟩,
                ⟨(some 8), none, .mv (.t 41)⟩] false)
              (.seq (.seq (.ops [
                 ⟨(some 42), none, .mv (.t 8)⟩,
                 ⟨(some 43), none, .bin .neq (.t 42) (.c (.int .i64 0))⟩] false)
               (.cond (.t 43) (.seq (.ops [
                  ⟨(some 44), none, .build [(.int .i64 0), (.sl true 1 []), (.sl true 3 [])] []⟩,
                  ⟨(some 45), none, .mv (.t 8)⟩,
                  ⟨none, none, .store 3 (.t 2) (.t 44)⟩,
                  ⟨(some 3), none, .mv (.t 45)⟩] false)
                (.ret))
               (.skip)))
              (.ops [
               ⟨(some 46), none, .faddr 2 (.t 4)⟩,
               ⟨(some 47), none, .load 1 false (.t 46)⟩,
               ⟨(some 48), none, .load 3 true (.t 7)⟩,
               ⟨(some 49), none, .bslice 3 [(.t 48)]⟩,
               ⟨(some 50), none, .app 3 56 t2 (.t 47) (.t 49)⟩,
               ⟨(some 51), none, .faddr 2 (.t 4)⟩,
               ⟨none, none, .store 1 (.t 51) (.t 50)⟩] false)))))
            (.ops [
             ⟨(some 52), none, .bin .add (.t 33) (.c (.int .i64 1))⟩,
             ⟨(some 33), none, .mv (.t 52)⟩] false)))))))
         (.seq (.seq (.ops [
            ⟨(some 53), none, .faddr 2 (.t 4)⟩,
            ⟨(some 54), none, .load 1 false (.t 53)⟩,
            ⟨(some 55), none, .lenL (.t 54)⟩,
            ⟨(some 56), none, .bin .eql (.t 55) (.c (.int .i64 0))⟩] false)
          (.cond (.t 56) (.seq (.ops [
             ⟨(some 57), none, .build [(.int .i64 0), (.sl true 1 []), (.sl true 3 [])] []⟩,
             ⟨none, none, .store 3 (.t 2) (.t 57)⟩,
             ⟨(some 3), none, .mv (.c (.int .i64 8))⟩] false)
           (.ret))
          (.skip)))
         (.seq (.ops [
           ⟨(some 58), none, .load 3 true (.t 4)⟩,
           ⟨none, none, .store 3 (.t 2) (.t 58)⟩,
           ⟨(some 3), none, .mv (.c (.int .i64 0))⟩] false)
         (.ret)))))
        (.skip)))))))))))))
  (.seq (.ops [
    ⟨(some 59), none, .build [(.int .i64 0), (.sl true 1 []), (.sl true 3 [])] []⟩,
    ⟨none, none, .store 3 (.t 2) (.t 59)⟩,
    ⟨(some 3), none, .mv (.c (.int .i64 8))⟩] false)
  (.ret)))) }

def irTyRecN (c1 c2 t1 t2 t3 : Nat) : IFn :=
 { nt := 54, res := [.cell 2 3 true, .t 3], body := (
  .seq (.ops [
    ⟨(some 1), none, .box t1 6 (.t 0)⟩,
    ⟨(some 2), none, .alloc t2 [(.int .i64 0), (.sl true 1 []), (.sl true 3 [])]⟩,
    ⟨(some 3), none, .mv (.c (.int .i64 0))⟩] false)
  (.seq (.ops [
    ⟨(some 4), none, .nilT 1 t3⟩] false)
  (.seq (.ops [
    ⟨(some 5), none, .nilT 3 t2⟩] false)
  (.seq (.seq (.ops [
     ⟨(some 10), none, .faddr 5 (.t 1)⟩,
     ⟨(some 11), none, .load 1 false (.t 10)⟩,
     ⟨(some 12), none, .lenL (.t 11)⟩,
     ⟨(some 13), none, .mv (.c (.int .i64 0))⟩] false)
   (.blk 0 (.loop (.seq (.ops [
       ⟨(some 14), none, .bin .lss (.t 13) (.t 12)⟩] false)
     (.seq (.cond (.t 14) (.skip)
      (.exit 0))
     (.seq (.blk 1 (.seq (.ops [
         ⟨(some 15), none, .iaddr 6 (.t 11) (.t 13)⟩,
         ⟨(some 16), none, .load 6 true (.t 15)⟩,
         ⟨(some 7), none, .alloc t1 [(.int .i64 0), (.int .i64 0), (.int .i64 0), (.str []), (.int .i64 0), (.sl true 6 [])]⟩,
         ⟨none, none, .store 6 (.t 7) (.t 16)⟩] false)
       (.seq (.seq (.ops [
          ⟨(some 17), none, .faddr 0 (.t 7)⟩,
          ⟨(some 18), none, .load 1 false (.t 17)⟩,
          ⟨(some 19), none, .bin .neq (.t 18) (.c (.int .i64 33))⟩,
          ⟨(some 20), none, .mv (.t 19)⟩,
          ⟨(some 21), (some (20, false)), .faddr 5 (.t 7)⟩,
          ⟨(some 22), (some (20, false)), .load 1 false (.t 21)⟩,
          ⟨(some 23), (some (20, false)), .lenL (.t 22)⟩,
          ⟨(some 24), (some (20, false)), .bin .neq (.t 23) (.c (.int .i64 1))⟩,
          ⟨(some 25), none, .pick (.t 20) (.c (.bool true)) (.t 24)⟩] false)
        (.cond (.t 25) (.seq (.ops [
           ⟨(some 26), none, .build [(.int .i64 0), (.sl true 1 []), (.sl true 3 [])] []⟩,
           ⟨none, none, .store 3 (.t 2) (.t 26)⟩,
           ⟨(some 3), none, .mv (.c (.int .i64 8))⟩] false)
         (.ret))
        (.skip)))
       (.seq (.ops [
         ⟨(some 28), none, .faddr 5 (.t 7)⟩,
         ⟨(some 29), none, .load 1 false (.t 28)⟩,
         ⟨(some 30), none, .iaddr 6 (.t 29) (.c (.int .i64 0))⟩,
         ⟨(some 31), none, .load 6 true (.t 30)⟩,
         ⟨(some 32), none, .call c1 [(.t 31)]⟩,
         ⟨(some 27), none, .mv (.t 32)⟩,
         ⟨(some 33), none, .ext (.t 27) 0⟩,
         ⟨(some 34), none, .ext (.t 27) 1⟩,
         ⟨(some 8), none, .alloc t2 [(.int .i64 0), (.sl true 1 []), (.sl true 3 [])]⟩,
         ⟨none, none, .store 3 (.t 8) (.t 33)⟩,
         ⟨(some 9), none, .mv (.t 34)⟩] false)
       (.seq (.seq (.ops [
          ⟨(some 35), none, .mv (.t 9)⟩,
          ⟨(some 36), none, .bin .neq (.t 35) (.c (.int .i64 0))⟩] false)
        (.cond (.t 36) (.seq (.ops [
           ⟨(some 37), none, .build [(.int .i64 0), (.sl true 1 []), (.sl true 3 [])] []⟩,
           ⟨(some 38), none, .mv (.t 9)⟩,
           ⟨none, none, .store 3 (.t 2) (.t 37)⟩,
           ⟨(some 3), none, .mv (.t 38)⟩] false)
         (.ret))
        (.skip)))
       (.ops [
        ⟨(some 39), none, .mv (.t 4)⟩,
        ⟨(some 40), none, .faddr 3 (.t 7)⟩,
        ⟨(some 41), none, .load 1 false (.t 40)⟩,
        ⟨(some 42), none, .bslice 1 [(.t 41)]⟩,
        ⟨(some 43), none, .app 1 16 t3 (.t 39) (.t 42)⟩,
        ⟨(some 44), none, .mv (.t 5)⟩,
        ⟨(some 45), none, .load 3 true (.t 8)⟩,
        ⟨(some 46), none, .bslice 3 [(.t 45)]⟩,
        ⟨(some 47), none, .app 3 56 t2 (.t 44) (.t 46)⟩,
        ⟨(some 4), none, .mv (.t 43)⟩,
        ⟨(some 5), none, .mv (.t 47)⟩] true))))))
     (.ops [
      ⟨(some 48), none, .bin .add (.t 13) (.c (.int .i64 1))⟩,
      ⟨(some 13), none, .mv (.t 48)⟩] false)))))))
  (.seq (.ops [
    ⟨(some 49), none, .mv (.t 4)⟩,
    ⟨(some 50), none, .mv (.t 5)⟩,
    ⟨(some 51), none, .call c2 [(.t 49), (.t 50)]⟩,
    ⟨(some 52), none, .ext (.t 51) 0⟩,
    ⟨(some 53), none, .ext (.t 51) 1⟩,
    ⟨none, none, .store 3 (.t 2) (.t 52)⟩,
    ⟨(some 3), none, .mv (.t 53)⟩] false)
  (.ret)))))) }

end Go.Zam

namespace Go.Zam
set_option linter.all false
set_option maxRecDepth 100000
set_option maxHeartbeats 1000000

abbrev Str' := List UInt8
/-- a type: its kind, its labels, its parts -/
inductive Ty where
  | mk (k : Int) (ns : List Str') (ps : List Ty)

namespace Ty
def k : Ty → Int | .mk k _ _ => k
def ns : Ty → List Str' | .mk _ ns _ => ns
def ps : Ty → List Ty | .mk _ _ ps => ps
mutual
theorem ind {Q : Ty → Prop} (h : ∀ k ns ps, (∀ p ∈ ps, Q p) → Q (.mk k ns ps)) : ∀ v, Q v
  | .mk k ns ps => h k ns ps (inds h ps)
theorem inds {Q : Ty → Prop} (h : ∀ k ns ps, (∀ p ∈ ps, Q p) → Q (.mk k ns ps)) : ∀ l : List Ty, ∀ p ∈ l, Q p
  | [] => fun p hp => by simp at hp
  | x :: r => fun p hp => (List.mem_cons.1 hp).elim (fun e => e ▸ ind h x) (fun hp => inds h r p hp)
end
mutual
def size : Ty → Nat
  | .mk _ _ ps => 1 + sizes ps
def sizes : List Ty → Nat
  | [] => 0
  | p :: r => size p + sizes r
end
theorem size_mk (k : Int) (ns : List Str') (ps : List Ty) : size (.mk k ns ps) = 1 + sizes ps := by rw [size]
theorem sizes_mem {l : List Ty} {p : Ty} (h : p ∈ l) : size p ≤ sizes l := by
  induction l with
  | nil => cases h
  | cons q l ih =>
    rw [sizes]
    rcases List.mem_cons.1 h with rfl | h
    · omega
    · have := ih h; omega
theorem size_get {k : Int} {ns : List Str'} {ps : List Ty} {i : Nat} {p : Ty} (h : ps[i]? = some p) : p.size < (Ty.mk k ns ps).size := by
  have := sizes_mem (List.mem_of_getElem? h)
  rw [size_mk]; omega

/-- it may be -/
inductive Rt : Ty → Prop
  | mk {k : Int} {ns : List Str'} {ps : List Ty} (hk : 0 ≤ k ∧ k ≤ 4) (h2 : k ≤ 2 → ns = [] ∧ ps = []) (h3 : k = 3 → ns.length = ps.length) (h4 : k = 4 → ns = [] ∧ ps ≠ []) (hn : ∀ x ∈ ns, isNameB x = true)
      (hs : ∀ (i : Nat) (x y : Str'), ns[i]? = some x → ns[i + 1]? = some y → Op.bytesLess x y = true) (hp : ∀ p ∈ ps, Rt p) : Rt (.mk k ns ps)

/-- nothing in it is any -/
inductive St : Ty → Prop
  | mk {k : Int} {ns : List Str'} {ps : List Ty} (hk : k ≠ 0) (hp : ∀ p ∈ ps, St p) : St (.mk k ns ps)

/-- it goes where the other is wanted -/
inductive Fl : Ty → Ty → Prop
  | dynL {a b : Ty} (h : a.k = 0) : Fl a b
  | dynR {a b : Ty} (h : b.k = 0) : Fl a b
  | same {a b : Ty} (h : a.k = b.k) (h3 : a.k ≠ 3) (h4 : a.k ≠ 4) : Fl a b
  | rcd {a b : Ty} (ha : a.k = 3) (hb : b.k = 3) (g : Nat → Nat) (h1 : ∀ (j : Nat) (x : Str'), b.ns[j]? = some x → a.ns[g j]? = some x) (h2 : ∀ (j : Nat) (p q : Ty), a.ps[g j]? = some p → b.ps[j]? = some q → Fl p q) : Fl a b
  | fn {a b : Ty} (ha : a.k = 4) (hb : b.k = 4) (hl : a.ps.length = b.ps.length) (h1 : ∀ (i : Nat) (p q : Ty), i + 1 < a.ps.length → a.ps[i]? = some p → b.ps[i]? = some q → Fl q p)
      (h2 : ∀ (i : Nat) (p q : Ty), i + 1 = a.ps.length → a.ps[i]? = some p → b.ps[i]? = some q → Fl p q) : Fl a b

theorem Fl.refl {a : Ty} : a.Rt → Fl a a := by
  refine ind (Q := fun a => a.Rt → Fl a a) (fun k ns ps ih => ?_) a
  intro hr
  cases hr with
  | mk hk h2 h3 h4 hn hs hp =>
  by_cases e3 : k = 3
  · exact .rcd e3 e3 id (fun j x h => h) fun j p q h1 h2 => by
      have : p = q := Option.some.inj (h1.symm.trans h2)
      subst this
      have hm := List.mem_of_getElem? h2
      exact ih p hm (hp p hm)
  by_cases e4 : k = 4
  · refine .fn e4 e4 rfl (fun i p q _ h1 h2 => ?_) (fun i p q _ h1 h2 => ?_)
    all_goals
      have : p = q := Option.some.inj (h1.symm.trans h2)
      subst this
      have hm := List.mem_of_getElem? h2
      exact ih p hm (hp p hm)
  exact .same rfl e3 e4

/-- what its going is, one step -/
theorem Fl.step {a b : Ty} (h : Fl a b) (ha : a.k ≠ 0) (hb : b.k ≠ 0) : a.k = b.k ∧ (a.k = 3 → ∃ g : Nat → Nat, (∀ (j : Nat) (x : Str'), b.ns[j]? = some x → a.ns[g j]? = some x) ∧ ∀ (j : Nat) (p q : Ty), a.ps[g j]? = some p → b.ps[j]? = some q → Fl p q) ∧
    (a.k = 4 → a.ps.length = b.ps.length ∧ (∀ (i : Nat) (p q : Ty), i + 1 < a.ps.length → a.ps[i]? = some p → b.ps[i]? = some q → Fl q p) ∧ ∀ (i : Nat) (p q : Ty), i + 1 = a.ps.length → a.ps[i]? = some p → b.ps[i]? = some q → Fl p q) := by
  cases h with
  | dynL h => exact absurd h ha
  | dynR h => exact absurd h hb
  | same h h3 h4 => exact ⟨h, fun e => absurd e h3, fun e => absurd e h4⟩
  | rcd e3 f3 g h1 h2 => exact ⟨by rw [e3, f3], fun _ => ⟨g, h1, h2⟩, (fun e => by rw [e3] at e; exact absurd e (by decide))⟩
  | fn e4 f4 hl h1 h2 => exact ⟨by rw [e4, f4], (fun e => by rw [e4] at e; exact absurd e (by decide)), fun _ => ⟨hl, h1, h2⟩⟩

theorem Rt.len {k : Int} {ns : List Str'} {ps : List Ty} (h : Rt (.mk k ns ps)) (h3 : k = 3) : ns.length = ps.length := by cases h with | mk _ _ a _ _ _ _ => exact a h3
theorem Rt.part {k : Int} {ns : List Str'} {ps : List Ty} (h : Rt (.mk k ns ps)) {i : Nat} {p : Ty} (hi : ps[i]? = some p) : p.Rt := by cases h with | mk _ _ _ _ _ _ a => exact a p (List.mem_of_getElem? hi)
theorem St.part {k : Int} {ns : List Str'} {ps : List Ty} (h : St (.mk k ns ps)) {i : Nat} {p : Ty} (hi : ps[i]? = some p) : p.St := by cases h with | mk _ a => exact a p (List.mem_of_getElem? hi)
theorem St.k0 {a : Ty} (h : a.St) : a.k ≠ 0 := by cases h with | mk a _ => exact a

theorem get_of_len {α β : Type} {a : List α} {b : List β} (h : a.length = b.length) {i : Nat} {x : α} (hi : a[i]? = some x) : ∃ y, b[i]? = some y :=
  ⟨b[i]'(by have := (List.getElem?_eq_some_iff.1 hi).1; omega), List.getElem?_eq_getElem _⟩
theorem get_of_len' {α β : Type} {a : List α} {b : List β} (h : a.length = b.length) {i : Nat} {y : β} (hi : b[i]? = some y) : ∃ x, a[i]? = some x := get_of_len h.symm hi

/-- among types without any going is passed on -/
theorem Fl.trans : ∀ (n : Nat) (a b c : Ty), a.size + b.size + c.size ≤ n → a.Rt → b.Rt → c.Rt → a.St → b.St → c.St → Fl a b → Fl b c → Fl a c
  | 0, a, b, c, hn, _, _, _, _, _, _, _, _ => by cases a; rw [size_mk] at hn; omega
  | n + 1, .mk k ns ps, .mk k' ns' ps', .mk k'' ns'' ps'', hn, ra, rb, rc, sa, sb, sc, h1, h2 => by
    obtain ⟨e1, r1, f1⟩ := h1.step sa.k0 sb.k0
    obtain ⟨e2, r2, f2⟩ := h2.step sb.k0 sc.k0
    simp only [Ty.k, Ty.ns, Ty.ps] at e1 r1 f1 e2 r2 f2
    by_cases e3 : k = 3
    · obtain ⟨g, g1, g2⟩ := r1 e3
      obtain ⟨g', g1', g2'⟩ := r2 (by omega)
      refine .rcd (by simpa [Ty.k] using e3) (by simp only [Ty.k]; omega) (fun j => g (g' j)) (fun j x hx => g1 _ _ (g1' _ _ hx)) fun j p q hp hq => ?_
      simp only [Ty.ps] at hp hq
      obtain ⟨x, hx⟩ := get_of_len' (rc.len (by omega)) hq
      have hy := g1' _ _ hx
      obtain ⟨m, hm⟩ := get_of_len (rb.len (by omega)) hy
      have z1 := size_get (k := k) (ns := ns) hp
      have z2 := size_get (k := k') (ns := ns') hm
      have z3 := size_get (k := k'') (ns := ns'') hq
      exact Fl.trans n p m q (by omega) (ra.part hp) (rb.part hm) (rc.part hq) (sa.part hp) (sb.part hm) (sc.part hq) (g2 _ _ _ hp hm) (g2' _ _ _ hm hq)
    by_cases e4 : k = 4
    · obtain ⟨l1, p1, q1⟩ := f1 e4
      obtain ⟨l2, p2, q2⟩ := f2 (by omega)
      refine .fn (by simpa [Ty.k] using e4) (by simp only [Ty.k]; omega) (by simp only [Ty.ps]; omega) (fun i p q hi hp hq => ?_) (fun i p q hi hp hq => ?_)
      all_goals
        simp only [Ty.ps] at hi hp hq
        obtain ⟨m, hm⟩ := get_of_len l1 hp
        have z1 := size_get (k := k) (ns := ns) hp
        have z2 := size_get (k := k') (ns := ns') hm
        have z3 := size_get (k := k'') (ns := ns'') hq
      · exact Fl.trans n q m p (by omega) (rc.part hq) (rb.part hm) (ra.part hp) (sc.part hq) (sb.part hm) (sa.part hp) (p2 _ _ _ (by omega) hm hq) (p1 _ _ _ (by omega) hp hm)
      · exact Fl.trans n p m q (by omega) (ra.part hp) (rb.part hm) (rc.part hq) (sa.part hp) (sb.part hm) (sc.part hq) (q1 _ _ _ (by omega) hp hm) (q2 _ _ _ (by omega) hm hq)
    exact .same (by simp only [Ty.k]; omega) (by simpa [Ty.k] using e3) (by simpa [Ty.k] using e4)

/-! labels rise -/

def Inc (l : List Str') : Prop := ∀ (i : Nat) (x y : Str'), l[i]? = some x → l[i + 1]? = some y → Op.bytesLess x y = true
theorem Rt.inc {k : Int} {ns : List Str'} {ps : List Ty} (h : Rt (.mk k ns ps)) : Inc ns := by cases h with | mk _ _ _ _ _ a _ => exact a
theorem Inc.tail {x : Str'} {l : List Str'} (h : Inc (x :: l)) : Inc l := fun i a b ha hb => h (i + 1) a b ha hb
theorem Inc.lt {l : List Str'} : ∀ {x : Str'}, Inc (x :: l) → ∀ y ∈ l, Op.bytesLess x y = true := by
  induction l with
  | nil => intro x _ y hy; cases hy
  | cons z l ih =>
    intro x h y hy
    have hxz := h 0 x z rfl rfl
    rcases List.mem_cons.1 hy with rfl | hy
    · exact hxz
    · exact bl_trans _ _ _ hxz (ih h.tail y hy)
theorem Inc.notMem {x : Str'} {l : List Str'} (h : Inc (x :: l)) : x ∉ l := fun hm => by
  have := h.lt x hm
  rw [bl_irrefl] at this
  cases this
theorem Inc.inj {l : List Str'} (h : Inc l) {i j : Nat} {x : Str'} (hi : l[i]? = some x) (hj : l[j]? = some x) : i = j := by
  induction l generalizing i j with
  | nil => simp at hi
  | cons z l ih =>
    cases i with
    | zero =>
      cases j with
      | zero => rfl
      | succ j =>
        simp at hi hj
        subst hi
        exact absurd (List.mem_of_getElem? hj) h.notMem
    | succ i =>
      cases j with
      | zero =>
        simp at hi hj
        subst hj
        exact absurd (List.mem_of_getElem? hi) h.notMem
      | succ j => exact congrArg (· + 1) (ih h.tail (by simpa using hi) (by simpa using hj))
theorem Inc.ext : ∀ {l m : List Str'}, Inc l → Inc m → (∀ x, x ∈ l ↔ x ∈ m) → l = m
  | [], [], _, _, _ => rfl
  | [], y :: m, _, _, h => by have := (h y).2 (by simp); cases this
  | x :: l, [], _, _, h => by have := (h x).1 (by simp); cases this
  | x :: l, y :: m, hl, hm, h => by
    have e : x = y := by
      rcases List.mem_cons.1 ((h x).1 (by simp)) with e | e
      · exact e
      · rcases List.mem_cons.1 ((h y).2 (by simp)) with e' | e'
        · exact e'.symm
        · have a1 := hm.lt x e
          have a2 := hl.lt y e'
          have := bl_asymm a1
          rw [a2] at this
          cases this
    subst e
    refine congrArg (x :: ·) (Inc.ext hl.tail hm.tail fun z => ?_)
    have := h z
    simp only [List.mem_cons] at this
    constructor
    · intro hz
      rcases this.1 (.inr hz) with rfl | h'
      · exact absurd hz hl.notMem
      · exact h'
    · intro hz
      rcases this.2 (.inr hz) with rfl | h'
      · exact absurd hz hm.notMem
      · exact h'

theorem mem_get {α : Type} {l : List α} {x : α} (h : x ∈ l) : ∃ i : Nat, l[i]? = some x := List.getElem?_of_mem h

/-- types without any that go both ways are the same -/
theorem Fl.anti : ∀ (n : Nat) (a b : Ty), a.size + b.size ≤ n → a.Rt → b.Rt → a.St → b.St → Fl a b → Fl b a → a = b
  | 0, a, b, hn, _, _, _, _, _, _ => by cases a; rw [size_mk] at hn; omega
  | n + 1, .mk k ns ps, .mk k' ns' ps', hn, ra, rb, sa, sb, h1, h2 => by
    obtain ⟨e1, r1, f1⟩ := h1.step sa.k0 sb.k0
    obtain ⟨e2, r2, f2⟩ := h2.step sb.k0 sa.k0
    simp only [Ty.k, Ty.ns, Ty.ps] at e1 r1 f1 e2 r2 f2
    subst e1
    by_cases e3 : k = 3
    · obtain ⟨g, g1, g2⟩ := r1 e3
      obtain ⟨g', g1', g2'⟩ := r2 e3
      have hns : ns = ns' := Inc.ext ra.inc rb.inc fun x => ⟨fun hx => by
        obtain ⟨i, hi⟩ := mem_get hx
        exact List.mem_of_getElem? (g1' _ _ hi), fun hx => by
        obtain ⟨i, hi⟩ := mem_get hx
        exact List.mem_of_getElem? (g1 _ _ hi)⟩
      subst hns
      have hl := ra.len e3
      have hl' := rb.len e3
      have hps : ps = ps' := by
        refine List.ext_getElem? fun i => ?_
        by_cases hi : i < ps.length
        · have hp : ps[i]? = some ps[i] := List.getElem?_eq_getElem hi
          have hq : ps'[i]? = some (ps'[i]'(by omega)) := List.getElem?_eq_getElem (by omega)
          have hx : ns[i]? = some (ns[i]'(by omega)) := List.getElem?_eq_getElem (by omega)
          have j1 := ra.inc.inj (g1 _ _ hx) hx
          have j2 := ra.inc.inj (g1' _ _ hx) hx
          rw [hp, hq]
          have z1 := size_get (k := k) (ns := ns) hp
          have z2 := size_get (k := k) (ns := ns) hq
          rw [Fl.anti n _ _ (by omega) (ra.part hp) (rb.part hq) (sa.part hp) (sb.part hq) (g2 i _ _ (by rw [j1]; exact hp) hq) (g2' i _ _ (by rw [j2]; exact hq) hp)]
        · rw [List.getElem?_eq_none (by omega), List.getElem?_eq_none (by omega)]
      rw [hps]
    have hns : ns = ns' := by
      by_cases e4 : k = 4
      · cases ra with | mk _ _ _ a _ _ _ => cases rb with | mk _ _ _ b _ _ _ => rw [(a e4).1, (b e4).1]
      · cases ra with | mk k1 a _ _ _ _ _ => cases rb with | mk k2 b _ _ _ _ _ => rw [(a (by omega)).1, (b (by omega)).1]
    subst hns
    by_cases e4 : k = 4
    · obtain ⟨l1, p1, q1⟩ := f1 e4
      obtain ⟨l2, p2, q2⟩ := f2 e4
      have hps : ps = ps' := by
        refine List.ext_getElem? fun i => ?_
        by_cases hi : i < ps.length
        · have hp : ps[i]? = some ps[i] := List.getElem?_eq_getElem hi
          have hq : ps'[i]? = some (ps'[i]'(by omega)) := List.getElem?_eq_getElem (by omega)
          rw [hp, hq]
          have z1 := size_get (k := k) (ns := ns) hp
          have z2 := size_get (k := k) (ns := ns) hq
          by_cases hlast : i + 1 = ps.length
          · rw [Fl.anti n _ _ (by omega) (ra.part hp) (rb.part hq) (sa.part hp) (sb.part hq) (q1 i _ _ hlast hp hq) (q2 i _ _ (by omega) hq hp)]
          · rw [Fl.anti n _ _ (by omega) (ra.part hp) (rb.part hq) (sa.part hp) (sb.part hq) (p2 i _ _ (by omega) hq hp) (p1 i _ _ (by omega) hp hq)]
        · rw [List.getElem?_eq_none (by omega), List.getElem?_eq_none (by omega)]
      rw [hps]
    · cases ra with | mk k1 a _ _ _ _ _ => cases rb with | mk k2 b _ _ _ _ _ => rw [(a (by omega)).2, (b (by omega)).2]
end Ty
end Go.Zam

namespace Go.Zam
set_option linter.all false
set_option maxRecDepth 100000
set_option maxHeartbeats 1000000
open Classical

namespace Ty
/-- the part of a label -/
def look (x : Str') : List Str' → List Ty → Option Ty
  | y :: ns, p :: ps => if y = x then some p else look x ns ps
  | _, _ => none

def any : Ty := .mk 0 [] []

mutual
/-- what two types have in common -/
noncomputable def join : Ty → Ty → Ty
  | .mk k ns ps, b => if Ty.mk k ns ps = b then b else if k = 3 ∧ b.k = 3 then .mk 3 (ns.filter fun x => (look x b.ns b.ps).isSome) (joinR ns ps b)
      else if k = 4 ∧ b.k = 4 ∧ ps.length = b.ps.length ∧ ps.dropLast = b.ps.dropLast then .mk 4 [] (joinL ps b.ps) else any
noncomputable def joinR : List Str' → List Ty → Ty → List Ty
  | x :: ns, p :: ps, b => match look x b.ns b.ps with
    | some q => join p q :: joinR ns ps b
    | none => joinR ns ps b
  | _, _, _ => []
noncomputable def joinL : List Ty → List Ty → List Ty
  | p :: ps, q :: qs => if ps = [] then [join p q] else p :: joinL ps qs
  | _, _ => []
end

/-! a record's parts -/
theorem Inc.of_lt : ∀ {l : List Str'}, List.Pairwise (fun x y => Op.bytesLess x y = true) l → Inc l
  | [], _, i, x, y, h, _ => by simp at h
  | [a], _, i, x, y, h, h' => by simp at h'
  | a :: b :: l, h, 0, x, y, h1, h2 => by
    simp at h1 h2; subst h1; subst h2
    exact (List.pairwise_cons.1 h).1 b (by simp)
  | a :: b :: l, h, i + 1, x, y, h1, h2 => Inc.of_lt (List.pairwise_cons.1 h).2 i x y (by simpa using h1) (by simpa using h2)
theorem Inc.pw : ∀ {l : List Str'}, Inc l → List.Pairwise (fun x y => Op.bytesLess x y = true) l
  | [], _ => .nil
  | a :: l, h => .cons (fun y hy => h.lt y hy) (Inc.pw h.tail)
theorem Inc.filter {l : List Str'} (h : Inc l) (p : Str' → Bool) : Inc (l.filter p) := Inc.of_lt (h.pw.filter p)

end Ty
end Go.Zam

namespace Go.Zam
set_option linter.all false
set_option maxRecDepth 100000
set_option maxHeartbeats 1000000
open Classical

namespace Ty
/-- what goes to a record goes to each smaller one -/
theorem Fl.less {a : Ty} {x : Str'} {ns : List Str'} {p : Ty} {ps : List Ty} (h : Fl a (.mk 3 (x :: ns) (p :: ps))) : Fl a (.mk 3 ns ps) := by
  by_cases h0 : a.k = 0
  · exact .dynL h0
  obtain ⟨e, h, -⟩ := h.step h0 (by simp [Ty.k])
  obtain ⟨g, h1, h2⟩ := h e
  exact .rcd e rfl (fun j => g (j + 1)) (fun j y hy => h1 (j + 1) y (by simpa [Ty.ns] using hy)) fun j p q hp hq => h2 (j + 1) p q hp (by simpa [Ty.ps] using hq)
end Ty

/-! types in memory -/
mutual
def T.st : T → Ty
  | .mk k _ ns _ ps => .mk k ns (T.sts ps)
def T.sts : List T → List Ty
  | [] => []
  | p :: r => T.st p :: T.sts r
end
theorem T.sts_map : ∀ l : List T, T.sts l = l.map T.st
  | [] => rfl
  | p :: r => by rw [T.sts, T.sts_map r]; rfl
theorem T.st_mk (k : Int) (z : Bool) (ns : List (List UInt8)) (y : Bool) (ps : List T) : T.st (.mk k z ns y ps) = .mk k ns (ps.map T.st) := by rw [T.st, T.sts_map]
/-- a type as it is made -/
def T.new (k : Int) (ns : List (List UInt8)) (ps : List T) : T := .mk k true ns true ps
theorem T.st_new (k : Int) (ns : List (List UInt8)) (ps : List T) : (T.new k ns ps).st = .mk k ns (ps.map T.st) := T.st_mk ..

end Go.Zam

namespace Go.Zam
set_option linter.all false
set_option maxRecDepth 100000
set_option maxHeartbeats 1000000
open Classical

namespace Ty
/-- it may be: told by its parts -/
theorem rt_iff {k : Int} {ns : List Str'} {ps : List Ty} : Rt (.mk k ns ps) ↔ (0 ≤ k ∧ k ≤ 4) ∧ (k ≤ 2 → ns = [] ∧ ps = []) ∧ (k = 3 → ns.length = ps.length) ∧ (k = 4 → ns = [] ∧ ps ≠ []) ∧ (∀ x ∈ ns, isNameB x = true) ∧ Inc ns ∧ ∀ p ∈ ps, Rt p :=
  ⟨fun h => by cases h with | mk a b c d e f g => exact ⟨a, b, c, d, e, f, g⟩, fun ⟨a, b, c, d, e, f, g⟩ => .mk a b c d e f g⟩
/-- how deep it is -/
def depth : Ty → Nat
  | .mk _ _ ps => deps ps + 1
 where deps : List Ty → Nat
  | [] => 0
  | p :: r => max (depth p) (deps r)
end Ty

theorem T.Fit.mono {b b' : Nat} (h : b ≤ b') {t : T} : t.Fit b → t.Fit b' := by
  induction t using T.ind with
  | h k z ns y ps ih =>
    intro hf
    cases hf with
    | mk _ _ _ _ _ h1 h2 h3 h4 => exact .mk k z ns y ps (Nat.le_trans h1 h) (Nat.le_trans h2 h) (fun x hx => Nat.le_trans (h3 x hx) h) fun p hp => ih p hp (h4 p hp)

end Go.Zam

namespace Go.Zam
set_option linter.all false
set_option maxRecDepth 100000
set_option maxHeartbeats 1000000
open Classical

theorem T.st_eq (k k' : Int) (z z' : Bool) (ns ns' : List (List UInt8)) (y y' : Bool) (ps ps' : List T) :
    (T.mk k z ns y ps).st = (T.mk k' z' ns' y' ps').st ↔ k = k' ∧ ns = ns' ∧ ps.map T.st = ps'.map T.st := by
  rw [T.st_mk, T.st_mk]; simp

section
variable {P : Program}

theorem Has.slEqS {f : FuncId} (h : Has P f irSlEqS) (H : Hp) (z y : Bool) (a b : List (List UInt8)) (ha : a.length ≤ 1048576) : ACall P f [.d (.sl z 1 (a.map encStr)), .d (.sl y 1 (b.map encStr))] H (fun r H' => r = .d (.bool (decide (a = b))) ∧ H' = H) := by
  obtain ⟨fn, hf, hcf⟩ := h
  refine acall_fin hf hcf (by simp [irSlEqS]) fun hcl _ => ?_
  simp [irSlEqS]
  refine BrK_split (fun h => ?_) (fun h => ?_)
  · have hne : a ≠ b := fun e => by subst e; simp at h
    simp [RetK, cut_self hcl, hne]
  have hl : a.length = b.length := by simp at h; omega
  simp
  refine RangeK_of H.length a.length (fun i fr H' => fr 0 = .d (.sl z 1 (a.map encStr)) ∧ fr 1 = .d (.sl y 1 (b.map encStr)) ∧ a.take i = b.take i ∧ H' = H) (by omega) (by decide) (by simp) (by simp) ?_ ?_ ?_
  · simp [cut_self hcl]
  · rintro i fr H' hi f13 f12 ⟨f0, f1, he, rfl⟩
    have hib : i < b.length := by omega
    have ra := rowAt_map encStr hi
    have rb := rowAt_map encStr hib
    have ta : a.take (i + 1) = a.take i ++ [a[i]] := List.take_succ_eq_append_getElem hi
    have tb : b.take (i + 1) = b.take i ++ [b[i]] := List.take_succ_eq_append_getElem hib
    simp only [encStr] at ra rb
    simp [f13, f0, f1, ra, rb]
    refine BrK_split (fun h => ?_) (fun h => ?_)
    · have hne : a ≠ b := fun e => by subst e; simp at h
      simp
      simp [RetK, cut_self hcl, hne]
    · simp at h
      have tt : a.take (i + 1) = b.take (i + 1) := by rw [ta, tb, he, h]
      simp
      refine NextK_of H'.length (Nat.le_refl _) (by simp [f13, f12]) ?_
      simp [f0, f1, cut_self hcl, tt]
  · rintro fr H' f13 f12 ⟨f0, f1, he, rfl⟩
    have : a = b := by rw [List.take_of_length_le (Nat.le_refl _), hl, List.take_of_length_le (Nat.le_refl _)] at he; exact he
    simp
    simp [RetK, cut_self hcl, this]

/-- what is asked of a function that says whether two types are the same -/
def SameT (P : Program) (f : FuncId) (v : T) : Prop := ∀ (w : T) (H : Hp), ACall P f [v.a, w.a] H (fun r H' => r = .d (.bool (decide (v.st = w.st))) ∧ H' = H)

/-- slices.EqualFunc at types, where what is called is known of the parts -/
theorem Has.tyEqF {f g : FuncId} {t : TypeId} (h : Has P f (irTyEqF t)) (hk : callOk P g = true) (H : Hp) (z y : Bool) (a b : List T) (ha : a.length ≤ 1048576) (hs : ∀ v ∈ a, SameT P g v) :
    ACall P f [.d (.sl z 3 (a.map T.enc)), .d (.sl y 3 (b.map T.enc)), .d (.fn g)] H (fun r H' => r = .d (.bool (decide (a.map T.st = b.map T.st))) ∧ H' = H) := by
  obtain ⟨fn, hf, hcf⟩ := h
  refine acall_fin hf hcf (by simp [irTyEqF]) fun hcl _ => ?_
  simp [irTyEqF]
  refine BrK_split (fun h => ?_) (fun h => ?_)
  · have hne : a.map T.st ≠ b.map T.st := fun e => by have := congrArg List.length e; simp at this h; omega
    simp [RetK, cut_self hcl, hne]
  have hl : a.length = b.length := by simp at h; omega
  simp
  refine RangeK_of H.length a.length (fun i fr H' => fr 0 = .d (.sl z 3 (a.map T.enc)) ∧ fr 1 = .d (.sl y 3 (b.map T.enc)) ∧ fr 2 = .d (.fn g) ∧ fr 15 = .d (.sl z 3 (a.map T.enc)) ∧ (a.map T.st).take i = (b.map T.st).take i ∧ H' = H) (by omega) (by decide) (by simp) (by simp) ?_ ?_ ?_
  · simp [cut_self hcl]
  · rintro i fr H' hi f17 f16 ⟨f0, f1, f2, f15, he, rfl⟩
    have hib : i < b.length := by omega
    have ra := rowAt_map T.enc hi
    have rb := rowAt_map T.enc hib
    have ta := take_map_succ T.st hi
    have tb := take_map_succ T.st hib
    have hx := hs a[i] (List.getElem_mem hi) b[i]
    have hne : a[i].st ≠ b[i].st → a.map T.st ≠ b.map T.st := fun h e => h (by
      have := congrArg (fun l => l[i]?) e
      simpa [hi, hib] using this)
    generalize a[i] = p at ra ta hx hne
    generalize b[i] = q at rb tb hx hne
    cases p with | mk k1 z1 ns1 y1 ps1 =>
    cases q with | mk k2 z2 ns2 y2 ps2 =>
    simp only [T.a_mk, T.enc_mk] at ra rb hx
    simp [f17, f15, f0, f1, f2, ra, rb]
    refine ⟨hk, CallK_of' (hx _) ?_⟩
    simp
    refine BrK_split (fun h => ?_) (fun h => ?_)
    · simp at h
      simp [RetK, cut_app hcl, hne h]
    · simp at h
      have tt : (a.map T.st).take (i + 1) = (b.map T.st).take (i + 1) := by rw [ta, tb, he, h]
      simp
      refine NextK_of H'.length (Nat.le_refl _) (by simp [f17, f16]) ?_
      simp [f0, f1, f2, f15, cut_app hcl]
      simpa using tt
  · rintro fr H' f17 f16 ⟨f0, f1, f2, f15, he, rfl⟩
    have : a.map T.st = b.map T.st := by
      have e1 : (a.map T.st).take a.length = a.map T.st := by rw [List.take_of_length_le (by simp)]
      have e2 : (b.map T.st).take a.length = b.map T.st := by rw [List.take_of_length_le (by simp [hl])]
      rw [e1, e2] at he; exact he
    simp
    simp [RetK, cut_self hcl, this]

theorem Has.tySame {f fs ff : FuncId} {t : TypeId} (h : Has P f (irTySame fs ff f t)) (hs : Has P fs irSlEqS) (he : Has P ff (irTyEqF t)) (hk : callOk P f = true) (v : T) : v.Fit 1048576 → SameT P f v := by
  induction v using T.ind with
  | h k z ns y ps ih =>
  rintro (⟨_, _, _, _, _, b2, b3, b4, b5⟩) w H
  cases w with | mk k' z' ns' y' ps' =>
  have h0 := h
  obtain ⟨fn, hf, hcf⟩ := h
  refine acall_fin hf hcf (by simp [irTySame]) fun hcl _ => ?_
  rw [T.a_mk, T.a_mk]
  by_cases hk' : k = k'
  · simp [irTySame, hk']
    refine CallK_of' (hs.slEqS _ z z' ns ns' b2) ?_
    by_cases hns : ns = ns'
    · simp [hns]
      refine CallK_of' (he.tyEqF hk _ y y' ps ps' b3 (fun v hv => ih v hv (b5 v hv))) ?_
      simp
      simp [RetK, cut_app hcl, T.st_eq, hk', hns]
    · simp [hns]
      simp [RetK, cut_app hcl, T.st_eq, hk', hns]
  · simp [irTySame, hk']
    simp [RetK, cut_app hcl, T.st_eq, hk']

end
end Go.Zam

namespace Go.Zam
set_option linter.all false
set_option maxRecDepth 100000
set_option maxHeartbeats 1000000

def T.nil : T := .mk 0 true [] true []
/-- a label with its type -/
abbrev Lt := Str' × T
def cP (a b : Lt) : Int := cmpStr a.1 b.1
theorem cP_cmp : Cmp cP := cmpStr_cmp.on Prod.fst
/-- two neighbours of one name -/
def Dup (S : List Lt) : Prop := ∃ (j : Nat) (a b : Lt), S[j]? = some a ∧ S[j + 1]? = some b ∧ a.1 = b.1

theorem cP_lt {a b : Lt} : cP a b < 0 ↔ Op.bytesLess a.1 b.1 = true := cmpStr_lt
theorem cP_zero {a b : Lt} : cP a b = 0 ↔ a.1 = b.1 := cmpStr_zero

theorem strict_of : ∀ {S : List Lt}, Sorted cP S → ¬ Dup S → (S.map Prod.fst).Nodup
  | [], _, _ => by simp
  | a :: r, hs, hd => by
    obtain ⟨h1, h2⟩ := Sorted.cons.1 hs
    have hd' : ¬ Dup r := fun ⟨j, x, y, hx, hy, e⟩ => hd ⟨j + 1, x, y, by simpa using hx, by simpa using hy, e⟩
    have ih := strict_of h2 hd'
    rw [List.map_cons, List.nodup_cons]
    refine ⟨fun hm => ?_, ih⟩
    obtain ⟨y, hy, e⟩ := List.mem_map.1 hm
    cases r with
    | nil => simp at hy
    | cons b r =>
      have hab : cP a b < 0 := by
        have h3 := h1 b (by simp)
        have h4 : cP a b ≠ 0 := fun h => hd ⟨0, a, b, rfl, rfl, cP_zero.1 h⟩
        omega
      have hay : cP a y < 0 := by
        rcases List.mem_cons.1 hy with rfl | hy'
        · exact hab
        · exact cP_cmp.lt_le hab ((Sorted.cons.1 h2).1 y hy')
      have := cP_zero.2 (show a.1 = y.1 from e.symm)
      omega

theorem dup_iff (L : List Lt) : Dup (ssort cP L) ↔ ¬ (L.map Prod.fst).Nodup := by
  have hp := (ssort_perm cP_cmp L).map Prod.fst
  constructor
  · rintro ⟨j, a, b, ha, hb, e⟩ hn
    have hn' := (hp.nodup_iff).1 hn
    have h1 : ((ssort cP L).map Prod.fst)[j]? = some a.1 := by simp [ha]
    have h2 : ((ssort cP L).map Prod.fst)[j + 1]? = some b.1 := by simp [hb]
    obtain ⟨l1, g1⟩ := List.getElem?_eq_some_iff.1 h1
    obtain ⟨l2, g2⟩ := List.getElem?_eq_some_iff.1 h2
    exact List.pairwise_iff_getElem.1 hn' j (j + 1) l1 l2 (by omega) (by rw [g1, g2, e])
  · intro hn
    refine Classical.byContradiction fun hd => hn ?_
    exact (hp.nodup_iff).2 (strict_of (ssort_spec cP_cmp L).1 hd)

open Classical in
/-- what Record yields -/
noncomputable def recT (ns : List Str') (ps : List T) : T × Int :=
  if ns.length = ps.length then
    if Dup (ssort cP (ns.zip ps)) then (T.nil, 40) else (.new 3 ((ssort cP (ns.zip ps)).map Prod.fst) ((ssort cP (ns.zip ps)).map Prod.snd), 0)
  else (T.nil, 1)

end Go.Zam

namespace Go.Zam
set_option linter.all false
set_option maxRecDepth 100000
set_option maxHeartbeats 1000000
open Classical

section
variable {P : Program}

end

/-- the part of a label -/
def lookT (x : Str') : List Str' → List T → Option T
  | y :: ns, p :: ps => if y = x then some p else lookT x ns ps
  | _, _ => none

/-- the part of a record's label, if it is one, and has it -/
def T.fld (x : Str') : T → Option T
  | .mk k _ ns _ ps => if k = 3 then lookT x ns ps else none

theorem T.a_nil : T.nil.a = .agg [.d (.int .i64 0), .d (.sl true 1 []), .d (.sl true 3 [])] := rfl

section
variable {P : Program}

end
end Go.Zam

namespace Go.Zam
open Go.RowKit (Below)
open Go.Proofs Go.Sort
set_option linter.all false
set_option maxRecDepth 100000
set_option maxHeartbeats 1000000

/-- what the library's contract of Compact says -/
def CompactStr (P : Program) (f : FuncId) : Prop :=
  (∀ (blk off cap : Nat) (ss : List (List UInt8)) (w : World), Holds Go.Proofs.encStr w blk off ss.toArray → ss.length ≤ 9223372036854775807 → ss.length ≤ cap →
    Calls P f #[.slice (some ⟨blk, off, none⟩) ss.length cap] w fun e w' => e = .returned (.slice (some ⟨blk, off, none⟩) (Lib.compact ss).length cap) ∧ ∃ q, w' = putRow Go.Proofs.encStr (Go.Sort.ahead w q) blk off (Lib.compact ss ++ List.replicate (ss.length - (Lib.compact ss).length) []).toArray) ∧
  ∀ (a : Option Addr) (cap : Nat) (w : World), Calls P f #[.slice a 0 cap] w fun e w' => e = .returned (.slice a 0 cap) ∧ w' = w

theorem compact_len_le (L : List (List UInt8)) : (Lib.compact L).length ≤ L.length := by
  unfold Lib.compact Lib.compactUpTo
  rw [List.length_map]
  exact Nat.le_trans (List.length_filter_le _ _) (by simp)
theorem compact_pos {L : List (List UInt8)} (h : L ≠ []) : 0 < (Lib.compact L).length := by
  have hpos := List.length_pos_iff.2 h
  unfold Lib.compact Lib.compactUpTo
  rw [List.length_map, List.length_pos_iff]
  intro e
  have : (0 : Nat) ∈ (List.range L.length).filter (Lib.keeps L.toArray) := List.mem_filter.2 ⟨List.mem_range.2 hpos, by simp [Lib.keeps]⟩
  rw [e] at this; cases this

theorem compact_acall {P : Program} {f : FuncId} (hC : CompactStr P f) {L : List (List UInt8)} (hne : L ≠ []) (hl : L.length ≤ 1048576) {H : Hp} {i : Nat} (hi : H[i]? = some (.arr 1 (strRows L))) :
    ACall P f [.msl i 0 L.length] H (fun r H' => r = .msl i 0 (Lib.compact L).length ∧ ∃ rows, H' = H.set i (.arr 1 rows)) := by
  intro κ w vs hr hvl hv
  match vs, hvl with
  | [v], _ =>
  have hv0 := hv 0 v _ rfl rfl
  have hpos : 0 < L.length := List.length_pos_iff.2 hne
  cases hv0 with
  | msl _ _ _ b sz o cap hb hcl ho hz =>
  obtain ⟨b', s', hβ', hsh, hc⟩ := hr.ob i _ hi
  obtain ⟨rfl, rfl⟩ : b = b' ∧ sz = 1 := by
    rcases hb with ⟨s, hb⟩ | hb
    · rw [hβ'] at hb; cases hb; exact ⟨rfl, rfl⟩
    · rw [hβ'] at hb; cases hb
  have ho' : o = 0 := by have := ho hpos; omega
  subst ho'
  have hH0 : ∀ n, Holds Go.Proofs.encStr (Go.Sort.ahead w n) b 0 L.toArray := fun n j hj => by
    have hj' : j < L.length := by simpa using hj
    have hrow : (strRows L)[j]? = some [.d (.str L[j])] := by rw [strRows, List.getElem?_map, List.getElem?_eq_getElem hj']; rfl
    obtain ⟨-, h2⟩ := hc j _ hrow
    obtain ⟨u, u1, u2, u3⟩ := h2 0 _ rfl
    have := u3.d_inv.str_inv
    subst this
    rw [Nat.mul_one, Nat.add_zero] at u1 u2
    rw [Nat.zero_add]
    refine ⟨?_, u2⟩
    rw [cell?_ahead, u1]
    simp [Go.Proofs.encStr, getElem!_pos, hj']
  refine (hC.1 b 0 cap L w (hH0 0) (by omega) hcl).mono ?_
  rintro e w' ⟨rfl, n, rfl⟩
  have h1 : HR κ H (Go.Sort.ahead w n) := hr.later (below_ahead w n)
  have hle := compact_len_le L
  have hml : (Lib.compact L ++ List.replicate (L.length - (Lib.compact L).length) ([] : List UInt8)).length = L.length := by simp; omega
  have h2 := h1.putRows hi hβ' hml (hH0 n) L.length (Nat.le_refl _)
  rw [List.take_of_length_le (by omega), List.drop_of_length_le (Nat.le_refl _), List.append_nil] at h2
  have hp := compact_pos hne
  exact ⟨_, κ, _, _, rfl, K.le_refl κ, h2, .msl _ _ _ b 1 0 cap (.inl ⟨_, hβ'⟩) (by omega) (fun _ => by omega) (fun h0 => by omega), rfl, _, rfl⟩

theorem compact0_acall {P : Program} {f : FuncId} (hC : CompactStr P f) {H : Hp} : ACall P f [.d (.sl true 1 [])] H (fun r H' => r = .d (.sl true 1 []) ∧ H' = H) := by
  intro κ w vs hr hvl hv
  match vs, hvl with
  | [v], _ =>
  have hd := (hv 0 v _ rfl rfl).d_inv
  have hn1 : v = .slice none 0 0 := by
    rcases hd.sl_inv with ⟨h1, -⟩ | ⟨_, _, _, h1, -⟩ | ⟨_, _, _, _, _, h1, -⟩
    · exact h1
    · cases h1
    · exact absurd rfl (h1 rfl)
  subst hn1
  refine (hC.2 none 0 w).mono ?_
  rintro e w' ⟨rfl, rfl⟩
  exact ⟨_, κ, _, _, rfl, K.le_refl κ, hr, .d (.nilsl 1), rfl, rfl⟩

theorem sort0_acall {P : Program} {f : FuncId} (hC : ∀ (a : Option Addr) (cap : Nat) (w : World), Calls P f #[.slice a 0 cap] w fun e w' => e = .returned (.tuple #[]) ∧ w' = w) {H : Hp} : ACall P f [.d (.sl true 1 [])] H (fun r H' => r = .tup [] ∧ H' = H) := by
  intro κ w vs hr hvl hv
  match vs, hvl with
  | [v], _ =>
  have hd := (hv 0 v _ rfl rfl).d_inv
  have hn1 : v = .slice none 0 0 := by
    rcases hd.sl_inv with ⟨h1, -⟩ | ⟨_, _, _, h1, -⟩ | ⟨_, _, _, _, _, h1, -⟩
    · exact h1
    · cases h1
    · exact absurd rfl (h1 rfl)
  subst hn1
  refine (hC none 0 w).mono ?_
  rintro e w' ⟨rfl, rfl⟩
  exact ⟨_, κ, _, _, rfl, K.le_refl κ, hr, .tup [] [] rfl (by simp), rfl, rfl⟩

/-- texts, sorted -/
def msort (L : List Str') : List Str' := L.mergeSort fun x y => decide (x ≤ y)

section
variable {P : Program}

def irSlCollect (c1 : Nat) : IFn :=
 { nt := 5, res := [.t 2], body := (
  .seq (.ops [
    ⟨(some 2), none, .mv (.c (.sl true 1 []))⟩] false)
  (.seq (.ops [
    ⟨(some 3), none, .mv (.t 0)⟩,
    ⟨(some 4), none, .call c1 [(.c (.sl true 1 [])), (.t 3)]⟩,
    ⟨(some 2), none, .mv (.t 4)⟩] false)
  (.ret))) }

theorem Has.slValues {f g : FuncId} {t : TypeId} (h : Has P f (irSlValues g t)) (z : Bool) (L : List Str') (H : Hp) :
    ACall P f [.d (.sl z 1 (L.map encStr))] H (fun r H' => r = .fn (.func g) [] [.ptr H.length 0] ∧ H' = H ++ [.box t [.d (.sl z 1 (L.map encStr))]]) := by
  obtain ⟨fn, hf, hcf⟩ := h
  refine acall_fink 1 hf hcf (by simp [irSlValues]) fun hcl _ => ?_
  simp [irSlValues]
  simp [RetK, cut_appk hcl, A.lo]

theorem Has.slCollect {f fa g : FuncId} (h : Has P f (irSlCollect fa)) (hC : CollectStr P fa g) {L : List Str'} (hl : L.length ≤ 1048576) {H : Hp} {i bt : Nat} {z : Bool} (hi : H[i]? = some (.box bt [.d (.sl z 1 (L.map encStr))])) :
    ACall P f [.fn (.func g) [] [.ptr i 0]] H (fun r H' => (L = [] ∧ r = .d (.sl true 1 []) ∧ H' = H) ∨ (L ≠ [] ∧ r = .msl H.length 0 L.length ∧ H' = H ++ [.arr 1 (strRows L)])) := by
  obtain ⟨fn, hf, hcf⟩ := h
  by_cases hL : L = []
  · refine acall_fin hf hcf (by simp [irSlCollect]) fun hcl _ => ?_
    simp [irSlCollect]
    refine CallK_of (collect_acall hC hl hi) ?_
    rintro x H' (⟨-, rfl, rfl⟩ | ⟨hne, -⟩)
    · simp
      simp [RetK, cut_self hcl, hL]
    · exact absurd hL hne
  · refine acall_fink 1 hf hcf (by simp [irSlCollect]) fun hcl _ => ?_
    simp [irSlCollect]
    refine CallK_of (collect_acall hC hl hi) ?_
    rintro x H' (⟨h0, -⟩ | ⟨hne, rfl, rfl⟩)
    · exact absurd h0 hL
    · simp
      simp [RetK, cut_appk hcl, hL, strRows]

theorem Has.slSorted {f fc fs fa g : FuncId} (h : Has P f (irSlSorted fc fs)) (hc : Has P fc (irSlCollect fa)) (hC : CollectStr P fa g) (hS : SortStr P fs)
    (hS0 : ∀ (a : Option Addr) (cap : Nat) (w : World), Calls P fs #[.slice a 0 cap] w fun e w' => e = .returned (.tuple #[]) ∧ w' = w) {L : List Str'} (hl : L.length ≤ 1048576) {H : Hp} {i bt : Nat} {z : Bool} (hi : H[i]? = some (.box bt [.d (.sl z 1 (L.map encStr))])) :
    ACall P f [.fn (.func g) [] [.ptr i 0]] H (fun r H' => r = .d (.sl L.isEmpty 1 ((msort L).map encStr)) ∧ H' = H) := by
  obtain ⟨fn, hf, hcf⟩ := h
  by_cases hL : L = []
  · refine acall_fin hf hcf (by simp [irSlSorted]) fun hcl _ => ?_
    simp [irSlSorted]
    refine CallK_of (hc.slCollect hC hl hi) ?_
    rintro x H' (⟨-, rfl, rfl⟩ | ⟨hne, -⟩)
    · simp
      refine CallK_of' (sort0_acall hS0) ?_
      simp
      simp [RetK, cut_self hcl, hL, msort]
    · exact absurd hL hne
  · have hlen : (msort L).length = L.length := List.length_mergeSort L
    have he : L.isEmpty = false := by simpa using hL
    rw [he]
    refine ACall.freeze (k := 0) (X := [.arr 1 (strRows (msort L))]) (by simp [strRows, encStr]) ?_
    refine acall_fink 1 hf hcf (by simp [irSlSorted]) fun hcl _ => ?_
    simp [irSlSorted]
    refine CallK_of (hc.slCollect hC hl hi) ?_
    rintro x H' (⟨h0, -⟩ | ⟨hne, rfl, rfl⟩)
    · exact absurd h0 hL
    · simp
      refine CallK_of' (sortStr_acall hS hL (by omega) (H := H ++ [.arr 1 (strRows L)]) (i := H.length) (by simp)) ?_
      simp
      simp [RetK, cut_appk hcl, strRows, hlen, msort]

theorem Has.idxAt {f : FuncId} (h : Has P f irSlIdx) (z : Bool) (ns : List Str') (x : Str') (hx : x ∈ ns) (hn : ns.length ≤ 1048576) (H : Hp) : ACall P f [.d (.sl z 1 (ns.map encStr)), .d (.str x)] H (fun r H' => r = .d (.int .i64 (ns.idxOf x : Nat)) ∧ H' = H) := by
  obtain ⟨fn, hf, hcf⟩ := h
  refine acall_fin hf hcf (by simp [irSlIdx]) fun hcl _ => ?_
  simp [irSlIdx]
  refine RangeK_of H.length ns.length (fun i fr H' => fr 0 = .d (.sl z 1 (ns.map encStr)) ∧ fr 1 = .d (.str x) ∧ x ∉ ns.take i ∧ H' = H) (by omega) (by decide) (by simp) (by simp) ?_ ?_ ?_
  · simp [cut_self hcl]
  · rintro i fr H' hi f8 f7 ⟨f0, f1, hni, rfl⟩
    have hr := rowAt_map encStr hi
    have hd : ns.drop i = ns[i] :: ns.drop (i + 1) := List.drop_eq_getElem_cons hi
    have ht : ns.take (i + 1) = ns.take i ++ [ns[i]] := List.take_succ_eq_append_getElem hi
    have hsplit : ns = ns.take i ++ ns[i] :: ns.drop (i + 1) := by rw [← hd, List.take_append_drop]
    generalize ns[i] = y at hr hd ht hsplit
    simp only [encStr] at hr
    by_cases hxy : x = y
    · subst hxy
      have hix : ns.idxOf x = i := by
        have e1 : (ns.take i ++ x :: ns.drop (i + 1)).idxOf x = i := by
          rw [List.idxOf_append, if_neg hni]
          simp; omega
        rw [← hsplit] at e1; exact e1
      simp [f8, f0, f1, encStr, hr]
      simp [RetK, cut_self hcl, hix]
    · simp [f8, f0, f1, encStr, hr, hxy]
      refine NextK_of H'.length (Nat.le_refl _) (by simp [f8, f7]) ?_
      have : x ∉ ns.take (i + 1) := by rw [ht]; simp [hni, hxy]
      simp [f0, f1, cut_self hcl, this]
  · rintro fr H' f8 f7 ⟨f0, f1, hni, rfl⟩
    rw [List.take_of_length_le (Nat.le_refl _)] at hni
    exact absurd hx hni

end
end Go.Zam

namespace Go.Zam
open Go.Proofs
set_option linter.all false
set_option maxRecDepth 100000
set_option maxHeartbeats 1000000

theorem le_iff {x y : Str'} : x ≤ y ↔ Op.bytesLess y x = false := by
  rw [bytesLess_eq, decide_eq_false_iff_not]
  exact Iff.rfl
theorem le_cmp {x y : Str'} : x ≤ y ↔ cmpStr x y ≤ 0 := by
  rw [le_iff]
  constructor
  · intro h
    refine Classical.byContradiction fun hn => ?_
    have := cmpStr_gt.1 (show 0 < cmpStr x y by omega)
    rw [h] at this; cases this
  · intro h
    refine Bool.eq_false_iff.2 fun hn => ?_
    have := cmpStr_gt.2 hn
    omega

theorem msort_sorted (L : List Str') : (msort L).Pairwise fun x y => cmpStr x y ≤ 0 := by
  have := List.pairwise_mergeSort (le := fun x y : Str' => decide (x ≤ y)) (fun a b c h1 h2 => by
      simp only [decide_eq_true_eq] at h1 h2 ⊢
      rw [le_cmp] at h1 h2 ⊢
      exact cmpStr_cmp.trans _ _ _ h1 h2) (fun a b => by
      rw [Bool.or_eq_true, decide_eq_true_eq, decide_eq_true_eq, le_cmp, le_cmp]
      exact cmpStr_cmp.le_total a b) L
  exact this.imp fun h => le_cmp.1 (of_decide_eq_true h)
theorem msort_perm (L : List Str') : (msort L).Perm L := List.mergeSort_perm L _
theorem msort_len (L : List Str') : (msort L).length = L.length := List.length_mergeSort L

theorem sorted_eq {l l' : List Str'} (h : l.Pairwise fun x y => cmpStr x y ≤ 0) (h' : l'.Pairwise fun x y => cmpStr x y ≤ 0) (hp : l.Perm l') : l = l' :=
  List.Perm.eq_of_pairwise (fun a b _ _ h1 h2 => cmpStr_zero.1 (cmpStr_cmp.le_antisymm h1 h2)) h h' hp

theorem msort_zip {ns : List Str'} {ps : List T} (h : ns.length = ps.length) : msort ns = (ssort cP (ns.zip ps)).map Prod.fst := by
  refine sorted_eq (msort_sorted ns) ?_ ?_
  · exact List.pairwise_map.2 (ssort_spec cP_cmp (ns.zip ps)).1
  · have h1 : ((ns.zip ps).map Prod.fst).Perm ((ssort cP (ns.zip ps)).map Prod.fst) := (ssort_perm cP_cmp (ns.zip ps)).map _
    rw [List.map_fst_zip (by omega)] at h1
    exact (msort_perm ns).trans h1

theorem filter_len {α : Type} {p : α → Bool} : ∀ {l : List α}, (l.filter p).length = l.length ↔ ∀ x ∈ l, p x = true
  | [] => by simp
  | a :: l => by
    rw [List.filter_cons]
    split
    · rename_i h
      rw [List.length_cons, List.length_cons, Nat.add_right_cancel_iff, filter_len (l := l)]
      simp [h]
    · rename_i h
      constructor
      · intro e
        have := List.length_filter_le p l
        simp only [List.length_cons] at e
        omega
      · intro hh; exact absurd (hh a (by simp)) h

theorem compact_dup (S : List Lt) : (Lib.compact (S.map Prod.fst)).length = S.length ↔ ¬ Dup S := by
  have h1 : (Lib.compact (S.map Prod.fst)).length = ((List.range (S.map Prod.fst).length).filter (Lib.keeps (S.map Prod.fst).toArray)).length := by
    unfold Lib.compact Lib.compactUpTo
    rw [List.length_map]
  rw [h1]
  have h2 : S.length = (List.range (S.map Prod.fst).length).length := by simp
  rw [h2, filter_len]
  have hget : ∀ (j : Nat) (a : Lt), S[j]? = some a → (S.map Prod.fst).toArray[j]! = a.1 := fun j a ha => by
    obtain ⟨hj, e⟩ := List.getElem?_eq_some_iff.1 ha
    rw [getElem!_pos _ j (by simpa using hj)]
    simp [e]
  constructor
  · rintro h ⟨j, a, b, ha, hb, e⟩
    have hj : j + 1 < S.length := (List.getElem?_eq_some_iff.1 hb).1
    have := h (j + 1) (List.mem_range.2 (by simpa using hj))
    simp only [Lib.keeps, decide_eq_true_eq] at this
    rcases this with h0 | h0
    · omega
    · rw [hget _ _ hb, Nat.add_sub_cancel, hget _ _ ha] at h0
      exact h0 e.symm
  · intro h j hj
    have hj' : j < S.length := by simpa using List.mem_range.1 hj
    simp only [Lib.keeps, decide_eq_true_eq]
    by_cases h0 : j = 0
    · exact .inl h0
    · refine .inr fun e => h ⟨j - 1, S[j - 1]'(by omega), S[j], List.getElem?_eq_getElem _, ?_, ?_⟩
      · rw [show j - 1 + 1 = j by omega]; exact List.getElem?_eq_getElem _
      · rw [hget _ _ (List.getElem?_eq_getElem hj'), hget _ _ (List.getElem?_eq_getElem (by omega))] at e
        exact e.symm

/-- the part of a label that stands once -/
theorem idx_part {ns : List Str'} {ps : List T} (hl : ns.length = ps.length) (hd : ¬ Dup (ssort cP (ns.zip ps))) {j : Nat} {x : Lt} (hx : (ssort cP (ns.zip ps))[j]? = some x) : x.1 ∈ ns ∧ ps[ns.idxOf x.1]? = some x.2 := by
  have hm : x ∈ ns.zip ps := (ssort_perm cP_cmp (ns.zip ps)).mem_iff.2 (List.mem_of_getElem? hx)
  have hnd : ((ns.zip ps).map Prod.fst).Nodup := Classical.byContradiction fun h => hd ((dup_iff _).2 h)
  rw [List.map_fst_zip (by omega)] at hnd
  obtain ⟨i, hi⟩ := List.getElem?_of_mem hm
  have hi' := List.getElem?_zip_eq_some.1 hi
  obtain ⟨h1, h2⟩ := hi'
  have hmem := List.mem_of_getElem? h1
  have hlt := List.idxOf_lt_length_iff.2 hmem
  have hget : ns[ns.idxOf x.1]? = some x.1 := by rw [List.getElem?_eq_getElem hlt]; simp
  have : ns.idxOf x.1 = i := by
    obtain ⟨a1, b1⟩ := List.getElem?_eq_some_iff.1 hget
    obtain ⟨a2, b2⟩ := List.getElem?_eq_some_iff.1 h1
    rcases Nat.lt_trichotomy (ns.idxOf x.1) i with h | h | h
    · exact absurd (b1.trans b2.symm) (List.pairwise_iff_getElem.1 hnd _ _ a1 a2 h)
    · exact h
    · exact absurd (b2.trans b1.symm) (List.pairwise_iff_getElem.1 hnd _ _ a2 a1 h)
  rw [this]
  exact ⟨hmem, h2⟩

/-! flags that don't matter -/
theorem DR.flag {σ : St} {v : Value} {z z' : Bool} {sz : Nat} {rows : List (List D)} (h : DR σ v (.sl z sz rows)) (hz : rows = [] → z = z') : DR σ v (.sl z' sz rows) := by
  by_cases hr : rows = []
  · rw [← hz hr]; exact h
  · rcases h.sl_inv with ⟨-, -, e⟩ | ⟨_, _, -, -, e⟩ | ⟨b, o, cap, f, rfl, -, hcap, hrow, hc, hd⟩
    · exact absurd e hr
    · exact absurd e hr
    · exact .sl z' sz rows b o cap f (fun _ => hr) hcap hrow hc hd

theorem nrm_T {k : Int} {z z' : Bool} {ns : List Str'} {y y' : Bool} {ps : List T} (hz : ns = [] → z = z') (hy : ps = [] → y = y') : Nrm (T.mk k z ns y ps).a (T.mk k z' ns y' ps).a := by
  intro κ v h
  rw [T.a_mk] at h ⊢
  cases h with
  | agg vs _ hl hh =>
    refine .agg vs _ (by simpa using hl) fun i v a hv ha => ?_
    match i with
    | 0 => exact hh 0 v _ hv ha
    | 1 =>
      simp at ha
      subst ha
      have := hh 1 v _ hv rfl
      exact .d (this.d_inv.flag fun e => hz (by simpa using e))
    | 2 =>
      simp at ha
      subst ha
      have := hh 2 v _ hv rfl
      exact .d (this.d_inv.flag fun e => hy (by simpa using e))
    | i + 3 => simp at ha

theorem nrm_tup {a a' b : A} (h : Nrm a a') : Nrm (.tup [a, b]) (.tup [a', b]) := by
  intro κ v hv
  cases hv with
  | tup vs _ hl hh =>
    refine .tup vs _ (by simpa using hl) fun i v c hv hc => ?_
    match i with
    | 0 =>
      simp at hc
      subst hc
      exact h κ v (hh 0 v _ hv rfl)
    | 1 => exact hh 1 v _ hv hc
    | i + 2 => simp at hc

end Go.Zam

namespace Go.Zam
set_option linter.all false
set_option maxRecDepth 100000
set_option maxHeartbeats 2000000
open Classical

/-- what is asked of a function that makes records -/
def RecT (P : Program) (f : FuncId) : Prop := ∀ (z y : Bool) (ns : List Str') (ps : List T), ns.length ≤ 1048576 → ps.length ≤ 1048576 → ∀ H,
  ACall P f [.d (.sl z 1 (ns.map encStr)), .d (.sl y 3 (ps.map T.enc))] H (fun r H' => r = .tup [(recT ns ps).1.a, .d (.int .i64 (recT ns ps).2)] ∧ H' = H)

section
variable {P : Program}

theorem Has.tyRecord {f fv fs fc fk fi fa fo fso g : FuncId} {t bt : TypeId} (h : HasT P [28] f (irTyRecord fv fs fc fk fi bt)) (hv : Has P fv (irSlValues g t))
    (hs : ∀ {L : List Str'}, L.length ≤ 1048576 → ∀ {H : Hp} {i bt : Nat} {z : Bool}, H[i]? = some (.box bt [.d (.sl z 1 (L.map encStr))]) → ACall P fs [.fn (.func g) [] [.ptr i 0]] H (fun r H' => r = .d (.sl L.isEmpty 1 ((msort L).map encStr)) ∧ H' = H))
    (hc : HasT P [1000005] fc (irCloneM 1 16 fo)) (hk : CompactStr P fk) (hi : Has P fi irSlIdx) : RecT P f := by
  intro z y ns ps h1 h2 H
  obtain ⟨fn, hf, hcf⟩ := h
  obtain ⟨fnc, hcf1, hcf2⟩ := hc
  by_cases hl : ns.length = ps.length
  case neg =>
    have hl' : ¬ (ns.length : Int) = ps.length := by omega
    refine acall_fin hf hcf (by simp [irTyRecord]) fun hcl _ => ?_
    simp [irTyRecord, hl, hl']
    simp [RetK, cut_app hcl, recT, hl, T.nil, T.a_mk]
  by_cases hn : ns = []
  · subst hn
    have hp : ps = [] := List.eq_nil_of_length_eq_zero (by simpa using hl.symm)
    subst hp
    have hnd : ¬ Dup ([] : List Lt) := by rintro ⟨j, a, b, h, -⟩; simp at h
    refine acall_fin hf hcf (by simp [irTyRecord]) fun hcl _ => ?_
    simp [irTyRecord]
    refine CallK_of' (hv.slValues z [] _) ?_
    simp
    refine CallK_of' (hs (L := []) (by simp) (bt := t) (z := z) (by simp)) ?_
    simp [msort]
    refine CallK_of' (clone0_acall hcf1 hcf2) ?_
    simp
    refine CallK_of' (compact0_acall hk) ?_
    simp
    refine RangeK_of (H.length + 4) 0 (fun i fr H' => fr 4 = .ptr H.length 0 ∧ fr 7 = .ptr (H.length + 3) 0 ∧ H' = H ++ [.box bt [.d (.int .i64 0), .d (.sl true 1 []), .d (.sl true 3 [])], .box t [.d (.sl z 1 [])], .tok 0 3 bt, .box bt [.d (.int .i64 3), .d (.sl true 1 []), .osl true 3 [] (H.length + 2)]]) (by omega) (by decide) (by simp) (by simp) ?_ ?_ ?_
    · simp [cut_appk hcl]
    · rintro i fr H' hi; omega
    · rintro fr H' f31 f30 ⟨f4, f7, rfl⟩
      simp [f4, f7]
      simp [RetK, cut_app hcl, recT, ssort, hnd, T.new, T.a_mk, f4]
  -- some labels
  have hpos := List.length_pos_iff.2 hn
  have he : ns.isEmpty = false := by simpa using hn
  have hS := msort_zip hl
  have hSl : (ssort cP (ns.zip ps)).length = ns.length := by rw [ssort_length cP_cmp]; simp; omega
  have hcd := compact_dup (ssort cP (ns.zip ps))
  have hix := fun (hd : ¬ Dup (ssort cP (ns.zip ps))) (j : Nat) (x : Lt) (hx : (ssort cP (ns.zip ps))[j]? = some x) => idx_part hl hd hx
  have hrec : recT ns ps = if Dup (ssort cP (ns.zip ps)) then (T.nil, 40) else (.new 3 ((ssort cP (ns.zip ps)).map Prod.fst) ((ssort cP (ns.zip ps)).map Prod.snd), 0) := by rw [recT, if_pos hl]
  generalize ssort cP (ns.zip ps) = S at hS hSl hcd hix hrec
  rw [hSl] at hcd
  rw [hrec]
  have hml : (msort ns).length = ns.length := msort_len ns
  have hmne : msort ns ≠ [] := fun e => by rw [e] at hml; simp at hml; omega
  refine acall_norm ?_
  refine acall_fin hf hcf (by simp [irTyRecord]) fun hcl _ => ?_
  simp [irTyRecord, hl]
  refine CallK_of' (hv.slValues z ns _) ?_
  simp
  refine CallK_of' (hs (L := ns) h1 (bt := t) (z := z) (by simp)) ?_
  have hc' := fun H' => cloneM_acall (H := H') (z := false) hcf1 hcf2 (rows := (msort ns).map encStr) (by simpa using hmne) (by simp; omega)
  simp only [List.length_map] at hc'
  simp [he]
  refine CallK_of' (hc' _) ?_
  have hk' := compact_acall hk hmne (by omega) (H := H ++ [.box bt [.d (.int .i64 0), .d (.sl true 1 []), .d (.sl true 3 [])], .box t [.d (.sl z 1 (ns.map encStr))], .arr 1 [], .arr 1 (strRows (msort ns))]) (i := H.length + 3) (by simp)
  have hrr : ((msort ns).map encStr).map (List.map A.d) = strRows (msort ns) := by simp [strRows, encStr]
  simp at hrr hk'
  simp [hrr]
  refine CallK_of hk' ?_
  rintro r H' ⟨rfl, rows, rfl⟩
  rw [hS] at hml ⊢
  by_cases hd : Dup S
  · have hne : ¬ (Lib.compact (S.map Prod.fst)).length = ns.length := fun e => hcd.1 e hd
    have hne2 : ¬ ((Lib.compact (S.map Prod.fst)).length : Int) = ns.length := by omega
    simp [hne, hne2]
    simp [RetK, cut_app hcl, hd]
    rw [T.a_nil]
    exact fun _ _ h => h
  have heq : (Lib.compact (S.map Prod.fst)).length = ns.length := hcd.2 hd
  simp [heq]
  refine RangeK_of (H.length + 6) ns.length (fun i fr H' => fr 0 = .d (.sl z 1 (ns.map encStr)) ∧ fr 1 = .d (.sl y 3 (ps.map T.enc)) ∧ fr 4 = .ptr H.length 0 ∧ fr 7 = .ptr (H.length + 5) 0 ∧ fr 29 = .d (.sl false 1 ((S.map Prod.fst).map encStr)) ∧
    ∃ X, X.length = 3 ∧ H' = H ++ (.box bt [.d (.int .i64 0), .d (.sl true 1 []), .d (.sl true 3 [])] :: (X ++ [.tok i 3 bt, .box bt [.d (.int .i64 3), .d (.sl false 1 ((S.map Prod.fst).map encStr)), .osl true 3 ((S.map (T.enc ∘ Prod.snd)).take i) (H.length + 4)]]))) (by omega) (by decide) (by simp) (by simp [hSl]) ?_ ?_ ?_
  · simp [cut_appk hcl, hml]
    exact ⟨[_, _, _], rfl, rfl⟩
  · rintro i fr H' hilt f31 f30 ⟨f0, f1, f4, f7, f29, X, hXl, rfl⟩
    match X, hXl with
    | [x1, x2, x3], _ =>
    have hiS : i < S.length := by omega
    have hgS : S[i]? = some S[i] := List.getElem?_eq_getElem hiS
    have ta := take_map_succ (T.enc ∘ Prod.snd) hiS
    obtain ⟨hm1, hm2⟩ := hix hd i _ hgS
    have ra : Zam.rowAt ((S.map Prod.fst).map encStr) (i : Int) = some [.str S[i].1] := by simp [Zam.rowAt, hiS, encStr]
    have rb : Zam.rowAt (ps.map T.enc) ((ns.idxOf S[i].1 : Nat) : Int) = some S[i].2.enc := rowAt_get hm2
    generalize S[i] = q at ta hgS hm1 hm2 ra rb
    obtain ⟨x, v⟩ := q
    obtain ⟨k', z', ns', y', ps'⟩ := v
    simp only [T.enc_mk, Function.comp_apply] at ra rb ta
    have hm : min i S.length = i := by omega
    have hcap : (i + 1) * 56 ≤ 140737488355328 := by omega
    simp only [List.map_map] at ra f29
    simp [f31, f29, ra, f7, f0, f1]
    refine CallD_of (hi.idxAt z ns x hm1 h1 _) ?_
    simp [rb, f7, appA, hm, hcap, f31]
    refine NextK_of (H.length + 6) (Nat.le_refl _) (by simp [f31, f30]) ?_
    simp [f0, f1, f4, f7, f29, cut_appk hcl, ta]
    exact ⟨[_, _, _], rfl, rfl⟩
  · rintro fr H' f31 f30 ⟨f0, f1, f4, f7, f29, X, hXl, rfl⟩
    match X, hXl with
    | [x1, x2, x3], _ =>
    have hfull : (S.map (T.enc ∘ Prod.snd)).take ns.length = S.map (T.enc ∘ Prod.snd) := List.take_of_length_le (by simp [hSl])
    simp [f4, f7, hfull]
    have hnl : ¬ H.length + 4 < H.length := by omega
    have hne : S.map Prod.fst ≠ [] := by rw [← hS]; exact hmne
    have := nrm_tup (b := .d (.int .i64 0)) (nrm_T (k := 3) (z := false) (z' := true) (ns := S.map Prod.fst) (y := true) (y' := true) (ps := S.map Prod.snd) (fun e => absurd e hne) (fun _ => rfl))
    rw [T.a_mk, List.map_map, List.map_map] at this
    simp [RetK, cut_app hcl, hd, hnl]
    exact this

end
end Go.Zam

namespace Go.Zam
set_option linter.all false
set_option maxRecDepth 100000
set_option maxHeartbeats 1000000

/-- the first that is wrong -/
def badE : List (T × Int) → Int
  | [] => 0
  | p :: r => if p.2 ≠ 0 then p.2 else badE r
theorem badE_zero : ∀ {l : List (T × Int)}, badE l = 0 ↔ ∀ p ∈ l, p.2 = 0
  | [] => by simp [badE]
  | p :: r => by
    rw [badE]
    split
    · rename_i h
      exact ⟨fun e => absurd e h, fun e => absurd (e p (by simp)) h⟩
    · rename_i h
      rw [badE_zero (l := r)]
      exact ⟨fun e q hq => (List.mem_cons.1 hq).elim (fun g => by subst g; exact Classical.not_not.1 h) (e q), fun e q hq => e q (by simp [hq])⟩
theorem badE_at : ∀ {l : List (T × Int)} {i : Nat} {p : T × Int}, (∀ q ∈ l.take i, q.2 = 0) → l[i]? = some p → p.2 ≠ 0 → badE l = p.2
  | [], i, p, _, h, _ => by simp at h
  | q :: r, 0, p, _, h, hp => by
    simp at h
    subst h
    rw [badE, if_pos hp]
  | q :: r, i + 1, p, h0, h, hp => by
    have hq : q.2 = 0 := h0 q (by simp)
    rw [badE, if_neg (by simp [hq])]
    exact badE_at (i := i) (fun x hx => h0 x (by simp [hx])) (by simpa using h) hp

def N.one : N → Bool
  | .mk k _ _ _ _ _ [_] => decide (k = 33)
  | _ => false

mutual
/-- the type that a tree tells, or why there is none -/
noncomputable def N.ty : N → T × Int
  | .mk k _ _ _ _ _ ks =>
    if k = 0 ∨ k = 31 then (T.nil, 0)
    else if k = 29 then (T.new 1 [] [], 0)
    else if k = 30 then (T.new 2 [] [], 0)
    else if k = 32 then if badE (N.ftys ks) ≠ 0 then (T.nil, badE (N.ftys ks)) else recT (ks.map N.w) ((N.ftys ks).map Prod.fst)
    else if k = 34 then if badE (N.tys ks) ≠ 0 then (T.nil, badE (N.tys ks)) else if ks = [] then (T.nil, 8) else (T.new 4 [] ((N.tys ks).map Prod.fst), 0)
    else (T.nil, 8)
/-- the type of a record's label -/
noncomputable def N.fty : N → T × Int
  | .mk k _ _ _ _ _ ks => if k = 33 ∧ ks.length = 1 then (N.tys ks).headD (T.nil, 8) else (T.nil, 8)
noncomputable def N.tys : List N → List (T × Int)
  | [] => []
  | n :: r => N.ty n :: N.tys r
noncomputable def N.ftys : List N → List (T × Int)
  | [] => []
  | n :: r => N.fty n :: N.ftys r
end
theorem N.tys_map : ∀ l : List N, N.tys l = l.map N.ty
  | [] => by rw [N.tys]; rfl
  | p :: r => by rw [N.tys, N.tys_map r]; rfl
theorem N.ftys_map : ∀ l : List N, N.ftys l = l.map N.fty
  | [] => by rw [N.ftys]; rfl
  | p :: r => by rw [N.ftys, N.ftys_map r]; rfl
theorem N.ty_mk (k f t : Int) (w : Bs) (a : Int) (z : Bool) (ks : List N) : N.ty (.mk k f t w a z ks) =
    if k = 0 ∨ k = 31 then (T.nil, 0)
    else if k = 29 then (T.new 1 [] [], 0)
    else if k = 30 then (T.new 2 [] [], 0)
    else if k = 32 then if badE (ks.map N.fty) ≠ 0 then (T.nil, badE (ks.map N.fty)) else recT (ks.map N.w) ((ks.map N.fty).map Prod.fst)
    else if k = 34 then if badE (ks.map N.ty) ≠ 0 then (T.nil, badE (ks.map N.ty)) else if ks = [] then (T.nil, 8) else (T.new 4 [] ((ks.map N.ty).map Prod.fst), 0)
    else (T.nil, 8) := by rw [N.ty, N.tys_map, N.ftys_map]
theorem N.fty_one {k f t : Int} {w : Bs} {a : Int} {z : Bool} {n : N} (h : k = 33) : N.fty (.mk k f t w a z [n]) = N.ty n := by rw [N.fty, N.tys_map]; simp [h]
theorem N.fty_not {k f t : Int} {w : Bs} {a : Int} {z : Bool} {ks : List N} (h : ¬ (k = 33 ∧ ks.length = 1)) : N.fty (.mk k f t w a z ks) = (T.nil, 8) := by rw [N.fty, if_neg h]

/-! how deep a type is -/
mutual
def T.dep : T → Nat
  | .mk _ _ _ _ ps => T.deps ps + 1
def T.deps : List T → Nat
  | [] => 0
  | p :: r => max (T.dep p) (T.deps r)
end
theorem T.dep_mk (k : Int) (z : Bool) (ns : List Str') (y : Bool) (ps : List T) : T.dep (.mk k z ns y ps) = T.deps ps + 1 := by rw [T.dep]
theorem T.deps_le : ∀ {l : List T} {n : Nat}, T.deps l ≤ n ↔ ∀ p ∈ l, p.dep ≤ n
  | [], n => by simp [T.deps]
  | p :: r, n => by rw [T.deps, Nat.max_le, T.deps_le (l := r)]; simp
theorem T.deps_snoc : ∀ {l : List T} {p : T}, T.deps (l ++ [p]) = max (T.deps l) p.dep
  | [], p => by simp [T.deps]
  | q :: r, p => by rw [List.cons_append, T.deps, T.deps, T.deps_snoc]; omega

/-- term.Of -/
noncomputable def N.typ (n : N) : T × Int := if n.ty.2 ≠ 0 then (T.nil, n.ty.2) else if 12 < n.ty.1.dep then (T.nil, 25) else n.ty

end Go.Zam
