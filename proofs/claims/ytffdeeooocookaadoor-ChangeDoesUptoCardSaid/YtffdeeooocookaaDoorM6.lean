/-
  Texts of one proof, one behind the other: An abstract machine over the model, two hundred and seventh part: the document's answer of chapter 17 (Find, Sort), over any program. No condition but bounds. An abstract machine over the model, two hundred and eighth part: the document's answer of chapter 17 (Sort), over any program. No condition but bounds. An abstract machine over the model, two hundred and ninth part: the document's answer of chapter 17 (Apply), over any program. No condition but bounds. strconv.ParseUint(s, 10, 63), over any program that has it: turned from the kit's worked proofs at 32 and 64 bits. No condition but on lengths. The functions of the layers of runes and tokens at this program. (Printed by mktok.py.) strings.Builder's copyCheck and String on the abstract machine, at this program. No condition. The layers of runes and tokens at this program: the library's functions, one by one, and what token.Lex answers. (Printed by mktok.py.) The lengths are bounded.  Chapter 17's functions at this program: what they answer. The lengths are bounded. Chapter 17's statement on the abstract machine: the example, and what is asked. How much comes in is bounded. What comes into chapter 17's statement: modules, changes, a text. No condition.
-/
import Derived.Test.YtffdeeooocookaaDoorM5
import Derived.BigCall
import Derived.BigGuard
import Derived.Laws.Closers25
import Derived.Laws.Closers25b
import Derived.Laws.Strings3
import Derived.Lib.AtoiErrMem
import Derived.Lib.ConvBytes
import Derived.Lib.Hide
import Derived.Lib.ParseIntBMem
import Derived.Lib.Strings
import Derived.Lib.Walk
import Derived.Shelf.Pu.Lays
import Derived.Shelf.Pu.Lower
import Derived.Shelf.Pu.ParseUint10
import Derived.Shelf.Pu.ParseUint10At
import Derived.Shelf.Pu.ParseUint10b16
import Derived.Shelf.Pu.ParseUint10b32
import Derived.Shelf.Pu.ParseUint10b64
import Derived.Shelf.Pu.ParseUint10b8
import Derived.Shelf.Pu.ParseUintEmpty
import Derived.Shelf.Pu.ToError
import Derived.Shelf.Pu.ToErrorRange
import Derived.WalkKit
import Derived.Test.YtffdeeooocookaaDoorM4
import Derived.Test.YtffdeeooocookaaDoorProg
import Derived.KernelRfl
import Derived.Test.YtffdeeooocookaaDoorM3
namespace Go.Zam
open Go.Proofs
set_option maxRecDepth 100000
set_option linter.all false
set_option maxHeartbeats 1000000

theorem findM_at {pre rest : List Mod} {m : Mod} {s : Bs} (h : ∀ x ∈ pre, x.n ≠ s) (hm : m.n = s) : findM (pre ++ m :: rest) s = pre.length := by
  have : indexP (fun m : Mod => decide (m.n = s)) (pre ++ m :: rest) = some pre.length := by
    induction pre with
    | nil => simp [indexP, hm]
    | cons x pre ih =>
      have h1 := h x (by simp)
      simp only [List.cons_append, indexP, decide_eq_true_eq, if_neg h1]
      rw [ih fun y hy => h y (by simp [hy])]
      rfl
  simp [findM, indexI, this]

theorem findM_none {l : List Mod} {s : Bs} (h : ∀ x ∈ l, x.n ≠ s) : findM l s = -1 := by
  have : indexP (fun m : Mod => decide (m.n = s)) l = none := by
    induction l with
    | nil => rfl
    | cons x l ih =>
      have h1 := h x (by simp)
      simp only [indexP, decide_eq_true_eq, if_neg h1]
      rw [ih fun y hy => h y (by simp [hy])]
      rfl
  simp [findM, indexI, this]

theorem findM_take {l : List Mod} {s : Bs} {i : Nat} (hi : i < l.length) (h : ∀ x ∈ l.take i, x.n ≠ s) (hm : l[i].n = s) : findM l s = i := by
  have e : l = l.take i ++ l[i] :: l.drop (i + 1) := by
    rw [← List.drop_eq_getElem_cons hi, List.take_append_drop]
  rw [e, findM_at h hm]
  simp; omega

section
variable {P : Program}

theorem Has.rcFind {f} (h : Has P f irRcFind) (z : Bool) (l : List Mod) (s : Bs) (hl : l.length ≤ 1099511627776) (H : Hp) :
    ACall P f [.d (.sl z 2 (l.map encM)), .d (.str s)] H (fun r H' => r = .d (.int .i64 (findM l s)) ∧ H' = H) := by
  obtain ⟨fn, hf, hcf⟩ := h
  refine acall_fin hf hcf (by simp [irRcFind]) fun hcl _ => ?_
  simp [irRcFind]
  refine LoopK_outR 0 (fun fr H' => findM l s = -1 ∧ H' = H) (fun fr H' => fr 4 = .d (.int .i64 (findM l s)) ∧ H' = H) ?_ ?_ ?_
  · refine ForK_of H.length l.length (fun i fr H' => fr 0 = .d (.sl z 2 (l.map encM)) ∧ fr 1 = .d (.str s) ∧ (∀ x ∈ l.take i, x.n ≠ s) ∧ H' = H) (by omega) (by decide) (by simp) (by simp) ?_ ?_
    · simp [cut_self hcl]
    rintro i fr H' hi f5 ⟨f0, f1, hno, rfl⟩
    simp [f5, f0]
    refine BrK_split (fun h => ?_) (fun h => ?_)
    · have hia : i < l.length := by simpa using h
      have hr := rowAt_map encM hia
      simp only [encM] at hr
      simp [f0, f1, f5, hr]
      refine BrK_split (fun h2 => ?_) (fun h2 => ?_)
      · have h2 : l[i].n = s := by simpa using h2
        simp [f5, findM_take hia hno h2]
      · have h2 : ¬ l[i].n = s := by simpa using h2
        simp
        refine NextF_of H'.length (Nat.le_refl _) hia (by simp [f5]) ?_
        simp only [List.take_succ_eq_append_getElem hia, List.mem_append, List.mem_singleton]
        refine ⟨by simp [f0], by simp [f1], ?_, cut_self hcl⟩
        rintro x (hx | rfl)
        · exact hno x hx
        · exact h2
    · have hia : l.length ≤ i := by simpa using h
      rw [List.take_of_length_le hia] at hno
      simp [findM_none hno]
  · rintro fr H' ⟨f4, rfl⟩
    simp [RetK, f4, cut_self hcl]
  · rintro fr H' ⟨hn, rfl⟩
    simp [RetK, hn, cut_self hcl]

theorem HasT.rcFindV {f} (h : HasT P [3000014, 3000016] f irRcFindV) {H : Hp} {i0 k e : Nat} (l : List Mod) (s : Bs) (hl : l.length ≤ 1099511627776) (hi0 : H[i0]? = some (.vec 2 e k (l.map encM))) :
    ACall P f [.vsl i0 k l.length, .d (.str s)] H (fun r H' => r = .d (.int .i64 (findM l s)) ∧ H' = H) := by
  obtain ⟨fn, hf, hcf⟩ := h
  have hil : i0 < H.length := (List.getElem?_eq_some_iff.1 hi0).1
  refine acall_fin hf hcf (by simp [irRcFindV]) fun hcl _ => ?_
  simp [irRcFindV]
  refine LoopK_outR 0 (fun fr H' => findM l s = -1 ∧ H' = H) (fun fr H' => fr 4 = .d (.int .i64 (findM l s)) ∧ H' = H) ?_ ?_ ?_
  · refine ForK_of H.length l.length (fun i fr H' => fr 0 = .vsl i0 k l.length ∧ fr 1 = .d (.str s) ∧ (∀ x ∈ l.take i, x.n ≠ s) ∧ H' = H) (by omega) (by decide) (by simp) (by simp) ?_ ?_
    · simp [cut_self hcl, hil]
    rintro i fr H' hi f5 ⟨f0, f1, hno, rfl⟩
    simp [f5, f0]
    refine BrK_split (fun h => ?_) (fun h => ?_)
    · have hia : i < l.length := by simpa using h
      have hr : (l.map encM)[i]? = some (encM l[i]) := by simp [hia]
      simp only [encM] at hr
      simp [f0, f1, f5, hr, hi0, hia, encM]
      refine BrK_split (fun h2 => ?_) (fun h2 => ?_)
      · have h2 : l[i].n = s := by simpa using h2
        simp [f5, findM_take hia hno h2]
      · have h2 : ¬ l[i].n = s := by simpa using h2
        simp
        refine NextF_of H'.length (Nat.le_refl _) hia (by simp [f5]) ?_
        simp only [List.take_succ_eq_append_getElem hia, List.mem_append, List.mem_singleton]
        refine ⟨by simp [f0, hil], by simp [f1], ?_, cut_self hcl⟩
        rintro x (hx | rfl)
        · exact hno x hx
        · exact h2
    · have hia : l.length ≤ i := by simpa using h
      rw [List.take_of_length_le hia] at hno
      simp [findM_none hno]
  · rintro fr H' ⟨f4, rfl⟩
    simp [RetK, f4, cut_self hcl]
  · rintro fr H' ⟨hn, rfl⟩
    simp [RetK, hn, cut_self hcl]
end
end Go.Zam

namespace Go.Zam
open Go.Proofs
set_option maxRecDepth 100000
set_option linter.all false
set_option maxHeartbeats 1000000

theorem gtS (x y : Mod) : strOp .gtr y.n x.n = some (.bool (decide (cM x y < 0))) := by
  have e : (!(Op.bytesLess y.n x.n || decide (y.n = x.n))) = decide (cM x y < 0) := by
    unfold cM
    by_cases h : cmpStr x.n y.n < 0
    · have h1 := cmpStr_lt.1 h
      have h2 := bl_asymm h1
      have h3 : y.n ≠ x.n := fun e => by rw [e, bl_irrefl] at h1; cases h1
      simp [h, h2, h3]
    · have h1 : Op.bytesLess x.n y.n = false := by
        cases hb : Op.bytesLess x.n y.n with
        | false => rfl
        | true => exact absurd (cmpStr_lt.2 hb) h
      by_cases h3 : y.n = x.n
      · have := cmpStr_cmp.refl x.n
        simp [h3, this]
      · have h2 : Op.bytesLess y.n x.n = true := by
          cases hb : Op.bytesLess y.n x.n with
          | true => rfl
          | false => exact absurd (bl_total _ _ hb h1) h3
        simp [h, h2]
  simp only [strOp, e]

section
variable {P : Program}

theorem HasT.rcSort {f tM} (h : HasT P [6, 3] f (irRcSort tM)) (z : Bool) (l : List Mod) (hl : l.length ≤ 1048576) (H : Hp) :
    ACall P f [.d (.sl z 2 (l.map encM))] H (fun r H' => r = .d (.sl true 2 ((ssort cM l).map encM)) ∧ H' = H) := by
  obtain ⟨fn, hf, hcf⟩ := h
  refine acall_fin hf hcf (by simp [irRcSort]) fun hcl _ => ?_
  simp [irRcSort]
  refine LoopK_out 0 (fun fr H' => fr 3 = .d (.sl true 2 ((ssort cM l).map encM)) ∧ ∃ X, H' = H ++ X) ?_ ?_
  · refine ForK_of H.length l.length (fun i fr H' => fr 0 = .d (.sl z 2 (l.map encM)) ∧ fr 3 = .d (.sl true 2 ((ssort cM (l.take i)).map encM)) ∧ H' = H) (by omega) (by decide) (by simp) (by simp) ?_ ?_
    · simp [cut_app hcl, ssort]
    rintro i fr H' hi f4 ⟨f0, f3, rfl⟩
    simp [f4, f0]
    refine BrK_split (fun h => ?_) (fun h => ?_)
    · have hia : i < l.length := by simpa using h
      have hr := rowAt_map encM hia
      have ht : l.take (i + 1) = l.take i ++ [l[i]] := List.take_succ_eq_append_getElem hia
      have hsl := ssort_length cM_cmp (l.take i)
      have hso := (ssort_spec cM_cmp (l.take i)).1
      have hsn : ∀ a b, ssort cM (l.take i) = a ++ b → (∀ y ∈ a, cM y l[i] ≤ 0) → (∀ y ∈ b, cM l[i] y < 0) → ssort cM (l.take (i + 1)) = a ++ l[i] :: b := fun a b e ha hb => by
        rw [ht, ← ssort_snoc cM_cmp (by rw [← e]; exact hso) ha hb]
        refine ssort_alk cM_cmp ?_
        refine Alk.append ?_ (Alk.refl _)
        rw [← e]
        exact ((ssort_spec cM_cmp (l.take i)).2).symm
      have hlt : (l.take i).length = i := by simp; omega
      rw [hlt] at hsl
      generalize ssort cM (l.take i) = S at f3 hsl hso hsn
      generalize l[i] = x at hr hsn
      have hg := gtS x
      simp only [encM] at hr
      simp [f3]
      refine LoopK_out 2 (fun fr H2 => ∃ a : Nat, a ≤ S.length ∧ (∀ y ∈ S.drop a, cM x y < 0) ∧ (∀ y ∈ S.take a, cM y x ≤ 0) ∧ fr 0 = .d (.sl z 2 (l.map encM)) ∧ fr 3 = .d (.sl true 2 (S.map encM)) ∧ fr 4 = .d (.int .i64 (i : Int)) ∧ fr 5 = .d (.int .i64 (a : Int)) ∧ H2 = H') ?_ ?_
      · refine LoopM_of H'.length (fun d fr H2 => ∃ a : Nat, a < d ∧ a ≤ S.length ∧ (∀ y ∈ S.drop a, cM x y < 0) ∧ fr 0 = .d (.sl z 2 (l.map encM)) ∧ fr 3 = .d (.sl true 2 (S.map encM)) ∧ fr 4 = .d (.int .i64 (i : Int)) ∧ fr 5 = .d (.int .i64 (a : Int)) ∧ H2 = H') (S.length + 1) (by simp) ⟨S.length, by omega, Nat.le_refl _, by simp, ?_⟩ ?_
        · simp [f0, f3, f4, cut_self hcl, hsl]
        rintro d fr H2 ⟨a, hd, ha, hb, f0, f3, f4, f5, rfl⟩
        simp [f5]
        rcases Nat.eq_zero_or_pos a with rfl | hpos
        · simp [f5]
          exact ⟨0, by omega, by simpa using hb, by simp, by simp [f0], by simp [f3], by simp [f4], by simp [f5]⟩
        · obtain ⟨b, rfl⟩ : ∃ b, a = b + 1 := ⟨a - 1, by omega⟩
          have hbs : b < S.length := by omega
          have hrb := rowAt_map encM hbs
          have hw : IntKind.i64.wrap ((b : Int) + 1 - 1) = b := by rw [wrap_i64 (by omega) (by omega)]; omega
          have hw' : IntKind.i64.wrap (b : Int) = b := wrap_i64 (by omega) (by omega)
          have hp : (0 : Int) < (b : Int) + 1 := by omega
          have hgb := hg S[b]
          have hsp : ∀ y ∈ S.take b, cM y S[b] ≤ 0 := by
            have h1 := hso
            rw [← List.take_append_drop b S, List.drop_eq_getElem_cons hbs] at h1
            have := (Sorted.append (c := cM)).1 h1
            exact fun y hy => this.2.2 y hy _ (List.mem_cons_self ..)
          have hdr : S.drop b = S[b] :: S.drop (b + 1) := List.drop_eq_getElem_cons hbs
          have htk : S.take (b + 1) = S.take b ++ [S[b]] := List.take_succ_eq_append_getElem hbs
          generalize S[b] = y at hrb hgb hsp hdr htk
          simp only [encM] at hrb
          simp [f0, f3, f4, f5, hp, hw, hw', hr, hrb, hgb, -strOp]
          refine BrK_split (fun h2 => ?_) (fun h2 => ?_)
          · have h2 : cM x y < 0 := by simpa using h2
            simp [f5, hw, hw']
            obtain ⟨d', rfl⟩ : ∃ d', d = d' + 1 := ⟨d - 1, by omega⟩
            refine NextM_of H2.length d' (Nat.le_refl _) (by simp) (by omega) ⟨b, by omega, by omega, ?_, ?_⟩
            · rw [hdr]
              intro v hv
              rcases List.mem_cons.1 hv with rfl | hv
              · exact h2
              · exact hb v hv
            · simp [f0, f3, f4, cut_self hcl]
          · have h2 : ¬ cM x y < 0 := by simpa using h2
            simp
            refine ⟨b + 1, ha, hb, ?_, by simp [f0], by simp [f3], by simp [f4], by simp [f5]⟩
            rw [htk]
            have hyx := (cM_cmp.not_lt).1 h2
            intro v hv
            rcases List.mem_append.1 hv with hv | hv
            · exact cM_cmp.trans _ _ _ (hsp v hv) hyx
            · rw [List.mem_singleton.1 hv]; exact hyx
      · rintro fr H2 ⟨a, ha, hb, htk, f0, f3, f4, f5, rfl⟩
        have hS' := hsn (S.take a) (S.drop a) (List.take_append_drop a S).symm htk hb
        have s1 : subL (S.map encM) 0 (a : Int) = some ((S.take a).map encM) := by
          simp [subL, ha, List.map_take]
        have s2 : subL (S.map encM) (a : Int) (S.length : Int) = some ((S.drop a).map encM) := by
          have : (S.length - a) = (S.drop a).length := by simp
          simp [subL, ha, List.map_drop]
          rw [List.take_of_length_le (by simp)]
        have la : (S.take a).length = a := by simp; omega
        have lb : (S.drop a).length = S.length - a := by simp
        simp [f0, f3, f4, f5, s1, s2, hr, appA]
        rw [if_pos (by omega)]
        simp [f0, f3, f4, f5, s1, s2, hr, appA]
        rw [if_pos (by omega)]
        simp [f0, f3, f4, f5, s1, s2, hr, appA]
        rw [if_pos (by omega)]
        simp
        refine NextF_of H2.length (Nat.le_refl _) hia (by simp [f4]) ?_
        rw [hS']
        refine ⟨by simp [f0], ?_, cut_app hcl _⟩
        simp [encM, List.map_take, List.map_drop]
    · have hia : l.length ≤ i := by simpa using h
      rw [List.take_of_length_le hia] at f3
      simp [f3]
  · rintro fr H' ⟨f3, X, rfl⟩
    simp [RetK, f3, cut_app hcl]
end
end Go.Zam

namespace Go.Zam
open Go.Proofs
set_option maxRecDepth 100000
set_option linter.all false
set_option maxHeartbeats 1000000

/-- a row that was appended to is given back beside something, as a plain slice -/
theorem ACall.freezeVec2 {P : Program} {f : FuncId} {args : List A} {H : Hp} {j k sz e : Nat} {rows : List (List D)} {y : D} (hne : rows ≠ [])
    (h : ACall P f args H (fun r H' => ∃ X : Hp, X[j]? = some (.vec sz e k rows) ∧ r = .tup [.vsl (H.length + j) k rows.length, .d y] ∧ H' = H ++ X)) : ACall P f args H (fun r H' => r = .tup [.d (.sl false sz rows), .d y] ∧ H' = H) := by
  intro κ w vs hr hl hv
  refine (h κ w vs hr hl hv).mono ?_
  rintro ev w' ⟨v, κ', r, H', h1, h2, h3, h4, X, hX, rfl, rfl⟩
  cases h4 with
  | tup us _ hul hu =>
  match us, hul with
  | [u0, u1], _ =>
  have v0 := hu 0 u0 _ rfl rfl
  have v1 := hu 1 u1 _ rfl rfl
  obtain ⟨κs, k1, k2, k3, -⟩ := h3.vecArr2 (i := H.length + j) (by rw [getElem?_appk]; exact hX) hne
  have a3 := k3 u0 v0
  obtain ⟨κ2, g1, g2, g3⟩ := k2.freezeArr (i := (H ++ X).length) (sz := sz) (rows := rows) (by simp) a3
  have hHX : ∃ Y, ((H ++ X).set (H.length + j) Ob.dead ++ [Ob.arr sz (rows.map (List.map A.d))]).set (H ++ X).length Ob.dead = H ++ Y := by
    rw [set_appk, List.append_assoc, List.length_append, set_appk]; exact ⟨_, rfl⟩
  obtain ⟨Y, hY⟩ := hHX
  rw [hY] at g2
  refine ⟨_, κ2.cut H.length, .tup [.d (.sl false sz rows), .d y], Hp.cut H.length (H ++ Y), h1, K.le_cut (h2.trans (k1.trans g1)) hr.dom, g2.cut _ (by simp), ?_, rfl, cut_app hr.closed _⟩
  refine .tup [u0, u1] _ rfl fun i v a hv ha => ?_
  match i with
  | 0 => simp at hv ha; subst hv; subst ha; exact VR.clr H.length g3
  | 1 => simp at hv ha; subst hv; subst ha; exact VR.clr H.length (v1.mono (k1.trans g1))
  | i + 2 => simp at hv

def ApplyE (P : Program) (f : Nat) : Prop := ∀ (H : Hp) (z : Bool) (s : List UInt8) (l : List Ed), s.length + total l ≤ 70368744177664 →
  ACall P f [.d (.str s), .d (.sl z 3 (l.map encE))] H (fun r H' => r = .tup [.d (.str (applyS s l)), .d (.int .i64 (sound l s.length))] ∧ H' = H)

def rErr (e : Int) (H : Hp) (fr : Fr) (H' : Hp) : Prop := e ≠ 0 ∧ fr 4 = .d (.sl true 2 []) ∧ fr 5 = .d (.int .i64 e) ∧ ∃ X, H' = H ++ X
def rDup (n : Bs) (ns : List Bs) (B : Hp) (fr : Fr) (H' : Hp) : Prop := n ∈ ns ∧ fr 4 = .d (.sl true 2 []) ∧ fr 5 = .d (.int .i64 4) ∧ H' = B

section
variable {P : Program}

theorem rapp_walk {f rf ra tM} (h : HasT P [2000014, 3000049, 3000051, 3000066] f (irRcApply rf ra tM)) (hF : HasT P [3000014, 3000016] rf irRcFindV) (hA : ApplyE P ra)
    {H : Hp} {z zc : Bool} {l : List Mod} {cs : List Chg} (hl : l ≠ []) (hb : l.length ≤ 1048576) (hc : cs.length ≤ 1048576) (hf : fitM l cs) (k : Nat) (K : A → Hp → Prop)
    (hok : (applyC l [] cs).1 = 0 → RetK K .mk (H.length + k) (some (.tup [.vsl H.length 0 l.length, .d (.int .i64 0)])) (H ++ [.vec 2 tM 0 ((applyC l [] cs).2.map encM)]))
    (herr : ∀ e X, (applyC l [] cs).1 = e → e ≠ 0 → RetK K .mk (H.length + k) (some (.tup [.d (.sl true 2 []), .d (.int .i64 e)])) (H ++ X)) :
    ACall P f [.d (.sl z 2 (l.map encM)), .d (.sl zc 2 (cs.map encC))] H K := by
  obtain ⟨fn, hfn, hcf⟩ := h
  refine acall_fink k hfn hcf (by simp [irRcApply]) fun hcl _ => ?_
  obtain ⟨m0, l0, rfl⟩ : ∃ m0 l0, l = m0 :: l0 := by
    cases l with
    | nil => exact absurd rfl hl
    | cons a b => exact ⟨a, b, rfl⟩
  have hbd : (l0.length + 1) * 32 ≤ 140737488355328 := by simp at hb; omega
  simp [irRcApply, hbd]
  refine LoopK_outR 0 (fun fr H' => (applyC (m0 :: l0) [] cs).1 = 0 ∧ fr 6 = .vsl H.length 0 (l0.length + 1) ∧ H' = H ++ [.vec 2 tM 0 ((applyC (m0 :: l0) [] cs).2.map encM)])
    (rErr (applyC (m0 :: l0) [] cs).1 H) ?_ ?_ ?_
  · refine ForK_of (H.length + 1) cs.length (fun i fr H' => ∃ l' : List Mod, fitM l' (cs.drop i) ∧ l'.length = l0.length + 1 ∧ applyC (m0 :: l0) [] cs = applyC l' ((cs.take i).map Chg.n) (cs.drop i) ∧
      fr 1 = .d (.sl zc 2 (cs.map encC)) ∧ fr 6 = .vsl H.length 0 (l0.length + 1) ∧ H' = H ++ [.vec 2 tM 0 (l'.map encM)]) (by omega) (by decide) (by simp) (by simp) ?_ ?_
    · exact ⟨m0 :: l0, by simpa using hf, by simp, by simp, by simp, by simp, by simp [cut_appk hcl]⟩
    rintro i fr H' hi f7 ⟨l', hf', hl', happ, f1, f6, rfl⟩
    simp [f7, f1]
    refine BrK_split (fun h => ?_) (fun h => ?_)
    · have hia : i < cs.length := by simpa using h
      have hr := rowAt_map encC hia
      have hdr : cs.drop i = cs[i] :: cs.drop (i + 1) := List.drop_eq_getElem_cons hia
      have htk : (cs.take (i + 1)).map Chg.n = (cs.take i).map Chg.n ++ [cs[i].n] := by rw [List.take_succ_eq_append_getElem hia, List.map_append]; rfl
      rw [hdr] at happ hf'
      have hin : ∀ j (hj : j < cs.length), rowAt (cs.map encC) (j : Int) = some (encC cs[j]) := fun j hj => rowAt_map encC hj
      generalize hC : cs[i] = c at hr happ hf' htk
      have hfind := hF.rcFindV (H := H ++ [.vec 2 tM 0 (l'.map encM)]) (i0 := H.length) (k := 0) (e := tM) l' c.n (by simp at hb; omega) (by simp)
      rw [hl'] at hfind
      simp only [encC] at hr
      simp [f7, f1, f6, hr]
      refine CallK_of' hfind ?_
      simp
      refine BrK_split (fun h1 => ?_) (fun h1 => ?_)
      · simp at h1
        simp
        have e1 : (applyC (m0 :: l0) [] cs).1 = 32 := by rw [happ]; simp [applyC, h1]
        rw [e1]
        exact ⟨by decide, by simp, by simp, _, rfl⟩
      simp at h1
      obtain ⟨kk, m, hk, hm, hmn⟩ := findM_some h1
      rw [hk]
      have hap : ¬ findM l' c.n < 0 := by omega
      have hkl : kk < l0.length + 1 := by rw [← hl']; exact (List.getElem?_eq_some_iff.1 hm).1
      simp
      refine LoopK_outR 2 (fun fr H' => c.n ∉ (cs.take i).map Chg.n ∧ fr 1 = .d (.sl zc 2 (cs.map encC)) ∧ fr 6 = .vsl H.length 0 (l0.length + 1) ∧ fr 7 = .d (.int .i64 (i : Int)) ∧ fr 8 = .d (.int .i64 (kk : Int)) ∧ H' = H ++ [.vec 2 tM 0 (l'.map encM)])
        (rDup c.n ((cs.take i).map Chg.n) (H ++ [.vec 2 tM 0 (l'.map encM)])) ?_ ?_ ?_
      · refine ForK_of (H.length + 1) i (fun j fr H' => c.n ∉ (cs.take j).map Chg.n ∧ fr 1 = .d (.sl zc 2 (cs.map encC)) ∧ fr 6 = .vsl H.length 0 (l0.length + 1) ∧ fr 7 = .d (.int .i64 (i : Int)) ∧ fr 8 = .d (.int .i64 (kk : Int)) ∧ H' = H ++ [.vec 2 tM 0 (l'.map encM)]) (by omega) (by decide) (by simp) (by simp) ?_ ?_
        · simp [f1, f6, f7, cut_appk hcl]
        rintro j fr H' hj f9 ⟨hno, f1, f6, f7, f8, rfl⟩
        simp [f9, f7]
        refine BrK_split (fun h2 => ?_) (fun h2 => ?_)
        · have hji : j < i := by simpa using h2
          have hrj := hin j (by omega)
          have htj : (cs.take (j + 1)).map Chg.n = (cs.take j).map Chg.n ++ [(cs[j]'(by omega)).n] := by rw [List.take_succ_eq_append_getElem (by omega), List.map_append]; rfl
          have hmem : (cs[j]'(by omega)).n ∈ (cs.take i).map Chg.n := by
            refine List.mem_map_of_mem (f := Chg.n) ?_
            rw [List.mem_take_iff_getElem]
            exact ⟨j, by omega, rfl⟩
          generalize (cs[j]'(by omega)) = cj at hrj htj hmem
          simp only [encC] at hrj
          simp [f9, f7, f1, hrj, hr]
          refine BrK_split (fun h3 => ?_) (fun h3 => ?_)
          · have h3 : cj.n = c.n := by simpa using h3
            rw [h3] at hmem
            simp [-List.mem_map, -List.map_take]
            exact ⟨hmem, by simp, by simp, rfl⟩
          · have h3 : ¬ cj.n = c.n := by simpa using h3
            simp
            refine NextF_of (H.length + 1) (Nat.le_refl _) hji (by simp [f9]) ?_
            rw [htj]
            refine ⟨?_, by simp [f1], by simp [f6], by simp [f7], by simp [f8], by simp [cut_appk hcl]⟩
            simp only [List.mem_append, List.mem_singleton, not_or]
            exact ⟨hno, fun e => h3 e.symm⟩
        · have hji : j = i := by simp at h2; omega
          subst hji
          simp [-List.mem_map, -List.map_take]
          exact ⟨hno, f1, f6, f7, f8⟩
      · rintro fr H' ⟨hin', f4, f5, rfl⟩
        simp
        have e1 : (applyC (m0 :: l0) [] cs).1 = 4 := by rw [happ]; simp only [applyC, if_neg hap, if_pos hin']
        rw [e1]
        exact ⟨by decide, f4, f5, _, rfl⟩
      · rintro fr H' ⟨hno, f1, f6, f7, f8, rfl⟩
        have hrow : (l'.map encM)[kk]? = some (encM m) := by simp [hm]
        have hfit : m.t.length + total c.l ≤ 70368744177664 := by
          have := hf' m (List.mem_of_getElem? hm)
          simp only [totC] at this; omega
        have hset : ∀ t, (l'.map encM).set kk [.str m.n, .str t] = (l'.set kk ⟨m.n, t⟩).map encM := fun t => by
          rw [List.map_set]; rfl
        simp only [encM] at hrow
        have hkl' : (kk : Int) < (l0.length : Int) + 1 := by omega
        simp [f1, f6, f7, f8, hr, hrow, hkl', encM]
        refine CallD_of (hA _ c.z m.t c.l hfit) ?_
        simp
        refine BrK_split (fun h3 => ?_) (fun h3 => ?_)
        · simp at h3
          simp
          have e1 : (applyC (m0 :: l0) [] cs).1 = sound c.l m.t.length := by rw [happ, applyC_step hk hm hno, if_neg h3]
          rw [e1]
          exact ⟨h3, by simp, by simp, _, rfl⟩
        simp at h3
        simp [f1, f6, f7, f8, hrow, hkl', hset]
        refine NextF_of (H.length + 1) (Nat.le_refl _) hia (by simp [f7]) ?_
        refine ⟨l'.set kk ⟨m.n, applyS m.t c.l⟩, fitM_next hf' hm, by simp [hl'], ?_, by simp [f1], by simp [f6], by simp [cut_appk hcl]⟩
        rw [htk, happ, applyC_step hk hm hno, if_pos h3]
    · have hia : cs.length ≤ i := by simpa using h
      rw [List.drop_of_length_le hia] at happ
      have h0 : applyC (m0 :: l0) [] cs = (0, l') := by rw [happ]; rfl
      simp [h0, f6]
  · rintro fr H' ⟨h2, f4, f5, X, rfl⟩
    simp [f4, f5]
    exact herr _ X rfl h2
  · rintro fr H' ⟨h0, f6, rfl⟩
    simp [f6]
    have := hok h0
    simpa using this

theorem rapp0 {f rf ra tM} (h : HasT P [6] f (irRcApply0 rf ra tM)) (hF : Has P rf irRcFind) {H : Hp} {z zc : Bool} {cs : List Chg} (hc : cs.length ≤ 1048576) :
    ACall P f [.d (.sl z 2 []), .d (.sl zc 2 (cs.map encC))] H (fun r H' => r = .tup [.d (.sl true 2 []), .d (.int .i64 (applyC [] [] cs).1)] ∧ H' = H) := by
  have hz0 : (applyC [] [] cs).1 = if cs = [] then 0 else 32 := by
    cases cs with
    | nil => rfl
    | cons c r => simp [applyC, findM, indexI, indexP]
  rw [hz0]
  obtain ⟨fn, hfn, hcf⟩ := h
  refine acall_fin hfn hcf (by simp [irRcApply0]) fun hcl _ => ?_
  simp [irRcApply0, appA]
  refine LoopK_of (H.length + 1) (fun fr H' => fr 1 = .d (.sl zc 2 (cs.map encC)) ∧ fr 6 = .osl true 2 [] H.length ∧ fr 7 = .d (.int .i64 0) ∧ H' = H ++ [.tok 0 2 tM]) (fun _ _ => 0) (by simp) (by simp [cut_appk hcl]) ?_
  rintro fr H' ⟨f1, f6, f7, rfl⟩
  simp [f1, f7]
  cases cs with
  | nil =>
    simp [f6, RetK, cut_app hcl]
  | cons c r =>
    have hfind := fun X => hF.rcFind true [] c.n (by simp) (H ++ X)
    have hm1 : findM [] c.n = -1 := rfl
    rw [hm1] at hfind
    simp [f1, f6, f7, Zam.rowAt, encC]
    refine CallK_of' (ACall.osl1 (hfind _)) ?_
    simp [RetK, cut_app hcl]

/-- what the document's Apply answers -/
def outR (l : List Mod) (cs : List Chg) : A := .tup [.d (.sl (applyC l [] cs).2.isEmpty 2 ((applyC l [] cs).2.map encM)), .d (.int .i64 (applyC l [] cs).1)]

theorem rappOk {f rf ra tM} (h : HasT P [2000014, 3000049, 3000051, 3000066] f (irRcApply rf ra tM)) (h0 : HasT P [6] f (irRcApply0 rf ra tM)) (hF : HasT P [3000014, 3000016] rf irRcFindV) (hF0 : Has P rf irRcFind) (hA : ApplyE P ra)
    (H : Hp) (z zc : Bool) (l : List Mod) (cs : List Chg) (hb : l.length ≤ 1048576) (hc : cs.length ≤ 1048576) (hf : fitM l cs) :
    ACall P f [.d (.sl z 2 (l.map encM)), .d (.sl zc 2 (cs.map encC))] H (fun r H' => r = outR l cs ∧ H' = H) := by
  intro κ w vs hr
  have hcl : H.Closed := hr.closed
  revert κ w vs hr
  show ACall P f [.d (.sl z 2 (l.map encM)), .d (.sl zc 2 (cs.map encC))] H (fun r H' => r = outR l cs ∧ H' = H)
  by_cases hl : l = []
  · subst hl
    have : (applyC [] [] cs).2 = [] := by
      cases cs with
      | nil => rfl
      | cons c r => simp [applyC, findM, indexI, indexP]
    rw [outR, this]
    exact rapp0 h0 hF0 hc
  · by_cases he : (applyC l [] cs).1 = 0
    · have hlen := applyC_len he
      have hne : (applyC l [] cs).2 ≠ [] := fun e => hl (by rw [e] at hlen; exact List.eq_nil_of_length_eq_zero hlen.symm)
      have hie : (applyC l [] cs).2.isEmpty = false := by
        generalize (applyC l [] cs).2 = X at hne
        cases X <;> simp_all
      rw [outR, hie, he]
      refine ACall.freezeVec2 (j := 0) (k := 0) (e := tM) (by simpa using hne) ?_
      refine rapp_walk h hF hA hl hb hc hf 1 _ (fun _ => ?_) (fun e X h1 h2 => absurd (h1.symm.trans he) h2)
      simp [RetK, cut_appk hcl, hlen]
    · have h2 := applyC_err he
      rw [outR, h2]
      refine rapp_walk h hF hA hl hb hc hf 0 _ (fun h => absurd h he) (fun e X h1 h2 => ?_)
      simp [RetK, h1, cut_app hcl]
end
end Go.Zam

set_option linter.all false
namespace Go.Proofs
open Go.Shelf Go.RowKit
variable {P : Program} {ρ : Ren}

set_option maxHeartbeats 32000000 in
set_option maxRecDepth 100000 in
theorem AnyPu.internal_strconv_ParseUint_10_b63 (L : LaysPu.n16 P ρ) (t : ByteArray) (hne : t.size ≠ 0) (hmax : t.size ≤ 9223372036854775806) (w : World) :
    Calls P (ρ.f 16) #[.string t, .int .i64 10, .int .i64 63] w fun e w' => e = .returned (Lib.uintTupleM (ρ.t 34) 9223372036854775807 (Lib.parseUintM 9223372036854775807 0 t.data.toList)) ∧ w' = Lib.bytesWorld w (ρ.t 5) t := by
  have mixed := L.mixed
  have t9 := L.t9; have a9 := L.a9; have z9 := L.z9; have v9 := L.v9
  have t3 := L.t3; have a3 := L.a3; have z3 := L.z3; have v3 := L.v3
  have t22 := L.t22; have a22 := L.a22; have z22 := L.z22; have v22 := L.v22
  have t24 := L.t24; have a24 := L.a24; have z24 := L.z24; have v24 := L.v24
  have t4 := L.t4; have a4 := L.a4; have z4 := L.z4; have v4 := L.v4
  have t34 := L.t34; have a34 := L.a34; have z34 := L.z34; have v34 := L.v34
  have t5 := L.t5; have a5 := L.a5; have z5 := L.z5; have v5 := L.v5
  have t36 := L.t36; have a36 := L.a36; have z36 := L.z36; have v36 := L.v36
  have t37 := L.t37; have a37 := L.a37; have z37 := L.z37; have v37 := L.v37
  have t0 := L.t0; have a0 := L.a0; have z0 := L.z0; have v0 := L.v0
  have e19 : ∀ args w, (callFunc (ρ.f 19) args).run P w = .ok (.enter (ρ.f 19) args) w := enters_of L.f19 (by kernel_rfl) rfl
  have hemp : t.toList.isEmpty = false := by
    rw [← decide_eq_emptyBytes]
    exact decide_eq_false (fun h => hne (by rw [h]; rfl))
  have hcv := Lib.run_convert_string_bytes (P := P) w (ρ.t 9) (ρ.t 37) (ρ.t 5) t (u := .string) L.t9 L.t37 L.t5
  have hB : ∀ j, j < t.size → (Lib.bytesWorld w (ρ.t 5) t).cell? ⟨w.heap.size, j, none⟩ = some (.int .u8 (t.data.toList.getD j 0).toNat) := fun j hj => Lib.bytesWorld_cell w (ρ.t 5) t j hj
  obtain ⟨W1, hW1⟩ : ∃ W1, W1 = Lib.bytesWorld w (ρ.t 5) t := ⟨_, rfl⟩
  rw [← hW1] at hcv hB ⊢
  clear hW1
  obtain ⟨bs, hL⟩ : ∃ bs, bs = t.data.toList := ⟨_, rfl⟩
  have hLn : bs.length = t.size := by rw [hL, Lib.size_eq]
  rw [← hL] at hB ⊢
  clear hL
  -- 'maxVal := uint64(1)<<uint(bitSize) - 1': its value, for the walk to take
  have hmv : IntKind.u64.wrap (IntKind.u64.wrap 9223372036854775808 - 1) = 9223372036854775807 := by
    rw [IntKind.wrap_u64, IntKind.wrap_u64]
    decide
  go_enter L.f16, BodyPu.n16_ntmps ρ
  go_wp2
  go_loop [12, 13, 101] (fun vu vn vi => ∃ (k acc : Nat) (a : Int), vu = .bool false ∧ vn = .int .u64 a ∧ vi = .int .i64 k ∧ k ≤ t.size ∧ Hid (a = (acc : Int) ∧ acc ≤ 9223372036854775807 ∧ Lib.parseUintM 9223372036854775807 0 bs = Lib.parseUintM 9223372036854775807 acc (bs.drop k)))
    (fun _ _ vi => t.size - (intOf vi).toNat)
  case atStart => exact ⟨0, 0, 0, rfl, rfl, rfl, by omega, rfl, by omega, rfl⟩
  case round =>
    obtain ⟨k, acc, a, rfl, rfl, rfl, hk, hh⟩ := hrel
    obtain ⟨ha, hacc, hdec⟩ := hh.out
    clear hh
    have a0 : 0 ≤ a := by omega
    have a1 : a ≤ 9223372036854775807 := by omega
    by_cases hkn : k < t.size
    · have hc := hB k hkn
      have hdrop : bs.drop k = bs[k]'(by omega) :: bs.drop (k + 1) := List.drop_eq_getElem_cons (by omega)
      have hget : bs.getD k 0 = bs[k]'(by omega) := by simp [List.getD, List.getElem?_eq_getElem (show k < bs.length by omega)]
      rw [hdrop] at hdec
      rw [hget] at hc
      generalize bs[k]'(by omega) = c at hc hdec
      have hc256 : c.toNat < 256 := c.toNat_lt
      clear hB hdrop hget
      by_cases hdig : 48 ≤ c.toNat ∧ c.toNat ≤ 57
      · obtain ⟨hd0, hd1⟩ := hdig
        by_cases hcut : 1844674407370955162 ≤ acc
        · have hF : Lib.parseUintM 9223372036854775807 acc (c :: bs.drop (k + 1)) = .range := by simp [Lib.parseUintM, hd0, hd1, hcut]
          rw [hF] at hdec
          have icut : 1844674407370955162 ≤ a := by omega
          clear hcut hacc hF ha
          go_wp2
          go_ret2
          exact ⟨rfl, rfl⟩
        by_cases hov2 : 18446744073709551616 ≤ acc * 10 + (c.toNat - 48)
        · have hov : 9223372036854775807 < acc * 10 + (c.toNat - 48) := by omega
          have hF : Lib.parseUintM 9223372036854775807 acc (c :: bs.drop (k + 1)) = .range := by simp [Lib.parseUintM, hd0, hd1, hcut, hov]
          rw [hF] at hdec
          have icut : a < 1844674407370955162 := by omega
          have iov : 18446744073709551616 ≤ a * 10 + ((c.toNat : Int) - 48) := by omega
          have hwr : IntKind.u64.wrap (a * 10 + ((c.toNat : Int) - 48)) = a * 10 + ((c.toNat : Int) - 48) - 18446744073709551616 := by
            rw [IntKind.wrap_u64]
            omega
          clear hcut hacc hF hov hov2 ha
          go_wp2
          go_ret2
          exact ⟨rfl, rfl⟩
        by_cases hov : 9223372036854775807 < acc * 10 + (c.toNat - 48)
        · -- OVER THE SIZE
          have hF : Lib.parseUintM 9223372036854775807 acc (c :: bs.drop (k + 1)) = .range := by simp [Lib.parseUintM, hd0, hd1, hcut, hov]
          rw [hF] at hdec
          have iov : 9223372036854775807 < a * 10 + ((c.toNat : Int) - 48) := by omega
          have iov2 : a * 10 + ((c.toNat : Int) - 48) < 18446744073709551616 := by omega
          have icut : a < 1844674407370955162 := by omega
          clear hcut hacc hF hov hov2 ha
          go_wp2
          go_ret2
          exact ⟨rfl, rfl⟩
        · have hF : Lib.parseUintM 9223372036854775807 acc (c :: bs.drop (k + 1)) = Lib.parseUintM 9223372036854775807 (acc * 10 + (c.toNat - 48)) (bs.drop (k + 1)) := by simp [Lib.parseUintM, hd0, hd1, hcut, hov]
          have HN : Hid (a * 10 + ((c.toNat : Int) - 48) = ((acc * 10 + (c.toNat - 48) : Nat) : Int) ∧ acc * 10 + (c.toNat - 48) ≤ 9223372036854775807 ∧ Lib.parseUintM 9223372036854775807 0 bs = Lib.parseUintM 9223372036854775807 (acc * 10 + (c.toNat - 48)) (bs.drop (k + 1))) := Lib.hid ⟨by omega, by omega, hdec.trans hF⟩
          have iov : a * 10 + ((c.toNat : Int) - 48) ≤ 9223372036854775807 := by omega
          have icut : a < 1844674407370955162 := by omega
          clear hcut hacc hF hov hov2 hdec ha
          go_wp2
          refine ⟨⟨k + 1, acc * 10 + (c.toNat - 48), a * 10 + ((c.toNat : Int) - 48), rfl, (by first | rfl | (congr 1; omega)), (by first | rfl | (congr 1; omega)), by omega, HN⟩, by simp [intOf]; omega⟩
      · -- NO DIGIT: whatever way the text goes: (0, ErrSyntax)
        have hF : Lib.parseUintM 9223372036854775807 acc (c :: bs.drop (k + 1)) = Lib.NumEnd.syntax := by simp [Lib.parseUintM, hdig]
        rw [hF] at hdec
        clear hacc hF ha
        have hv0 := bits_lo_u8 .or (c.toNat : Int) 32
        have hv1 := bits_hi_u8 .or (c.toNat : Int) 32
        have hu0 := bits_lo_u8 .or 95 32       -- at '_' the walk writes the byte out
        have hu1 := bits_hi_u8 .or 95 32
        go_wp2_with (go_at_fn (ρ.f 19); refine (AnyPu.internal_strconv_lower { L with } _ _).mono ?_; rintro e w' ⟨rfl, rfl⟩)
        all_goals go_ret2
        all_goals first | exact ⟨rfl, rfl⟩ | exact ⟨by rw [hdec]; rfl, rfl⟩
    · -- THE BYTES ARE AT AN END
      have hkk : k = t.size := by omega
      subst hkk
      have hF : Lib.parseUintM 9223372036854775807 acc (bs.drop t.size) = .ok acc := by rw [List.drop_eq_nil_of_le (by omega)]; rfl
      rw [hF] at hdec
      subst ha
      clear hacc hF a0 a1
      go_wp2
      go_ret2
      exact ⟨rfl, rfl⟩



theorem AnyPu.internal_strconv_ParseUint_10_at63 (L : LaysPu.n16 P ρ) (t : ByteArray) (hmax : t.size ≤ 9223372036854775806) (w : World) :
    Calls P (ρ.f 16) #[.string t, .int .i64 10, .int .i64 63] w fun e w' => e = .returned (Lib.uintTupleM (ρ.t 34) 9223372036854775807 (Lib.parseUintB 63 t.data.toList)) ∧ (w' = w ∨ w' = Lib.bytesWorld w (ρ.t 5) t) := by
  have eM : (2 : Nat) ^ 63 - 1 = 9223372036854775807 := by decide
  by_cases h0 : t.size = 0
  · have ht : t = ⟨#[]⟩ := by
      apply ByteArray.ext
      exact Array.eq_empty_of_size_eq_zero h0
    subst ht
    exact (AnyPu.internal_strconv_ParseUint_empty { L with } 10 63 w).mono fun e w' ⟨he, hw⟩ => ⟨he, Or.inl hw⟩
  · have hne : t.data.toList ≠ [] := fun h => h0 (by rw [Lib.size_eq, h]; rfl)
    refine (AnyPu.internal_strconv_ParseUint_10_b63 { L with } t h0 hmax w).mono fun e w' ⟨he, hw⟩ => ⟨?_, Or.inr hw⟩
    rw [he, Lib.parseUintB, if_neg hne, eM]


set_option maxHeartbeats 4000000 in
set_option maxRecDepth 100000 in
theorem Any.strconv_ParseUint_10_at63_ok (L : LaysPu.n14 P ρ) (s : ByteArray) (hmax : s.size ≤ 9223372036854775806) (u : Nat) (h : Lib.parseUintB 63 s.data.toList = .ok u) (w : World) :
    Calls P (ρ.f 14) #[.string s, .int .i64 10, .int .i64 63] w fun e w' => e = .returned (.tuple #[.int .u64 u, .nilIface]) ∧ (w' = w ∨ w' = Lib.bytesWorld w (ρ.t 5) s) := by
  have mixed := L.mixed
  have t9 := L.t9; have a9 := L.a9; have z9 := L.z9; have v9 := L.v9
  have t3 := L.t3; have a3 := L.a3; have z3 := L.z3; have v3 := L.v3
  have t22 := L.t22; have a22 := L.a22; have z22 := L.z22; have v22 := L.v22
  have t24 := L.t24; have a24 := L.a24; have z24 := L.z24; have v24 := L.v24
  have t25 := L.t25; have a25 := L.a25; have z25 := L.z25; have v25 := L.v25
  have t4 := L.t4; have a4 := L.a4; have z4 := L.z4; have v4 := L.v4
  have e16 : ∀ args w, (callFunc (ρ.f 16) args).run P w = .ok (.enter (ρ.f 16) args) w := enters_of L.f16 (by kernel_rfl) rfl
  have hI := AnyPu.internal_strconv_ParseUint_10_at63 { L with } s hmax w
  rw [h] at hI
  have hI : Calls P (ρ.f 16) #[.string s, .int .i64 10, .int .i64 63] w fun e w' => e = .returned (.tuple #[.int .u64 u, .nilIface]) ∧ (w' = w ∨ w' = Lib.bytesWorld w (ρ.t 5) s) := hI
  clear h
  go_enter L.f14, BodyPu.n14_ntmps ρ
  go_wp2_with (go_at_fn (ρ.f 16); refine hI.mono ?_; rintro e W1 ⟨rfl, hW⟩)
  go_wp2
  go_ret2
  exact ⟨rfl, hW⟩

set_option maxHeartbeats 4000000 in
set_option maxRecDepth 100000 in
theorem Any.strconv_ParseUint_10_at63_syntax (L : LaysPu.n14 P ρ) (s : ByteArray) (hlim : s.size ≤ 281474976710656) (h : Lib.parseUintB 63 s.data.toList = Lib.NumEnd.syntax) (ev : Value) (w : World) (hv : w.cell? ⟨(ρ.g 0), 0, none⟩ = some ev) (hev : ev = .nilIface ∨ ∃ te pe, ev = .iface te pe) :
    Calls P (ρ.f 14) #[.string s, .int .i64 10, .int .i64 63] w fun e w' => ∃ N, e = .returned (.tuple #[.int .u64 0, .iface (ρ.t 39) (.pointer (some ⟨N, 0, none⟩))]) ∧ w.heap.size ≤ N ∧ w'.heap[N]? = some (.cells #[.string ⟨#[80, 97, 114, 115, 101, 85, 105, 110, 116]⟩, .string s, ev] (ρ.t 44) (0, 0)) ∧ Below w.heap.size w w' := by
  have mixed := L.mixed
  have t9 := L.t9; have a9 := L.a9; have z9 := L.z9; have v9 := L.v9
  have t3 := L.t3; have a3 := L.a3; have z3 := L.z3; have v3 := L.v3
  have t22 := L.t22; have a22 := L.a22; have z22 := L.z22; have v22 := L.v22
  have t24 := L.t24; have a24 := L.a24; have z24 := L.z24; have v24 := L.v24
  have t25 := L.t25; have a25 := L.a25; have z25 := L.z25; have v25 := L.v25
  have t4 := L.t4; have a4 := L.a4; have z4 := L.z4; have v4 := L.v4
  have e16 : ∀ args w, (callFunc (ρ.f 16) args).run P w = .ok (.enter (ρ.f 16) args) w := enters_of L.f16 (by kernel_rfl) rfl
  have e17 : ∀ args w, (callFunc (ρ.f 17) args).run P w = .ok (.enter (ρ.f 17) args) w := enters_of L.f17 (by kernel_rfl) rfl
  have hG : (ρ.g 0) < w.heap.size := Lib.lt_of_cell hv
  have hI := AnyPu.internal_strconv_ParseUint_10_at63 { L with } s (by omega) w
  rw [h] at hI
  have hI : Calls P (ρ.f 16) #[.string s, .int .i64 10, .int .i64 63] w fun e w' => e = .returned (.tuple #[.int .u64 0, .iface (ρ.t 34) (.int .i64 2)]) ∧ (w' = w ∨ w' = Lib.bytesWorld w (ρ.t 5) s) := hI
  clear h
  go_enter L.f14, BodyPu.n14_ntmps ρ
  go_wp2_with (go_at_fn (ρ.f 16); refine hI.mono ?_)
  rintro e W1 ⟨rfl, hW⟩
  have hb1 : Below w.heap.size w W1 := by
    rcases hW with rfl | rfl
    · exact Below.refl _ _
    · exact Lib.bytesWorld_below _ _ _
  have hv1 : W1.cell? ⟨(ρ.g 0), 0, none⟩ = some ev := (hb1.cell (show (⟨(ρ.g 0), 0, none⟩ : Addr).block < w.heap.size from hG)).trans hv
  clear hW
  go_wp2_with (go_at_fn (ρ.f 17); refine (AnyPu.strconv_toError_syntax { L with } ⟨#[80, 97, 114, 115, 101, 85, 105, 110, 116]⟩ s 10 63 ev _ hlim ?_ hev).mono ?_)
  · exact hv1
  rintro e W2 ⟨N, rfl, h1, h2, h3⟩
  go_wp2
  go_ret2
  exact ⟨N, rfl, Nat.le_trans hb1.size h1, h2, hb1.trans (h3.mono hb1.size)⟩

set_option maxHeartbeats 4000000 in
set_option maxRecDepth 100000 in
theorem Any.strconv_ParseUint_10_at63_range (L : LaysPu.n14 P ρ) (s : ByteArray) (hlim : s.size ≤ 281474976710656) (h : Lib.parseUintB 63 s.data.toList = .range) (ev : Value) (w : World) (hv : w.cell? ⟨(ρ.g 1), 0, none⟩ = some ev) (hev : ev = .nilIface ∨ ∃ te pe, ev = .iface te pe) :
    Calls P (ρ.f 14) #[.string s, .int .i64 10, .int .i64 63] w fun e w' => ∃ N, e = .returned (.tuple #[.int .u64 9223372036854775807, .iface (ρ.t 39) (.pointer (some ⟨N, 0, none⟩))]) ∧ w.heap.size ≤ N ∧ w'.heap[N]? = some (.cells #[.string ⟨#[80, 97, 114, 115, 101, 85, 105, 110, 116]⟩, .string s, ev] (ρ.t 44) (0, 0)) ∧ Below w.heap.size w w' := by
  have mixed := L.mixed
  have t9 := L.t9; have a9 := L.a9; have z9 := L.z9; have v9 := L.v9
  have t3 := L.t3; have a3 := L.a3; have z3 := L.z3; have v3 := L.v3
  have t22 := L.t22; have a22 := L.a22; have z22 := L.z22; have v22 := L.v22
  have t24 := L.t24; have a24 := L.a24; have z24 := L.z24; have v24 := L.v24
  have t25 := L.t25; have a25 := L.a25; have z25 := L.z25; have v25 := L.v25
  have t4 := L.t4; have a4 := L.a4; have z4 := L.z4; have v4 := L.v4
  have e16 : ∀ args w, (callFunc (ρ.f 16) args).run P w = .ok (.enter (ρ.f 16) args) w := enters_of L.f16 (by kernel_rfl) rfl
  have e17 : ∀ args w, (callFunc (ρ.f 17) args).run P w = .ok (.enter (ρ.f 17) args) w := enters_of L.f17 (by kernel_rfl) rfl
  have hG : (ρ.g 1) < w.heap.size := Lib.lt_of_cell hv
  have hI := AnyPu.internal_strconv_ParseUint_10_at63 { L with } s (by omega) w
  rw [h] at hI
  have hI : Calls P (ρ.f 16) #[.string s, .int .i64 10, .int .i64 63] w fun e w' => e = .returned (.tuple #[.int .u64 9223372036854775807, .iface (ρ.t 34) (.int .i64 1)]) ∧ (w' = w ∨ w' = Lib.bytesWorld w (ρ.t 5) s) := hI
  clear h
  go_enter L.f14, BodyPu.n14_ntmps ρ
  go_wp2_with (go_at_fn (ρ.f 16); refine hI.mono ?_)
  rintro e W1 ⟨rfl, hW⟩
  have hb1 : Below w.heap.size w W1 := by
    rcases hW with rfl | rfl
    · exact Below.refl _ _
    · exact Lib.bytesWorld_below _ _ _
  have hv1 : W1.cell? ⟨(ρ.g 1), 0, none⟩ = some ev := (hb1.cell (show (⟨(ρ.g 1), 0, none⟩ : Addr).block < w.heap.size from hG)).trans hv
  clear hW
  go_wp2_with (go_at_fn (ρ.f 17); refine (AnyPu.strconv_toError_range { L with } ⟨#[80, 97, 114, 115, 101, 85, 105, 110, 116]⟩ s 10 63 ev _ hlim ?_ hev).mono ?_)
  · exact hv1
  rintro e W2 ⟨N, rfl, h1, h2, h3⟩
  go_wp2
  go_ret2
  exact ⟨N, rfl, Nat.le_trans hb1.size h1, h2, hb1.trans (h3.mono hb1.size)⟩


end Go.Proofs

namespace Go.Proofs.Zg
open Go Go.Zam Go.Proofs
set_option maxRecDepth 100000
theorem tcf22 : compF Tryd.prog [7] Tryd.f22 = some (irTkLex 31 32 33 75 77) := by kernel_rfl
theorem h22 : HasT Tryd.prog [7] 22 (irTkLex 31 32 33 75 77) := ⟨_, Tryd.func22, tcf22⟩
theorem tcf50 : compF Tryd.prog [] Tryd.f50 = some (irTkIsKey 63 62) := by kernel_rfl
theorem h50 : Has Tryd.prog 50 (irTkIsKey 63 62) := ⟨_, Tryd.func50, tcf50⟩
theorem tcf31 : compF Tryd.prog [] Tryd.f31 = some (irRnBad 43) := by kernel_rfl
theorem h31 : Has Tryd.prog 31 (irRnBad 43) := ⟨_, Tryd.func31, tcf31⟩
theorem tcf32 : compF Tryd.prog [] Tryd.f32 = some (irScLead 44 45 46 47) := by kernel_rfl
theorem h32 : Has Tryd.prog 32 (irScLead 44 45 46 47) := ⟨_, Tryd.func32, tcf32⟩
theorem tcf33 : compF Tryd.prog [] Tryd.f33 = some (irScNext 44 48 49 50 51 52 53 54 77) := by kernel_rfl
theorem h33 : Has Tryd.prog 33 (irScNext 44 48 49 50 51 52 53 54 77) := ⟨_, Tryd.func33, tcf33⟩
theorem tcf62 : compF Tryd.prog [] Tryd.f62 = some (irSlHas 69) := by kernel_rfl
theorem h62 : Has Tryd.prog 62 (irSlHas 69) := ⟨_, Tryd.func62, tcf62⟩
theorem tcf69 : compF Tryd.prog [] Tryd.f69 = some (irSlIdx) := by kernel_rfl
theorem h69 : Has Tryd.prog 69 (irSlIdx) := ⟨_, Tryd.func69, tcf69⟩
theorem tcf63 : compF Tryd.prog [] Tryd.f63 = some (irTkKeys) := by kernel_rfl
theorem h63 : Has Tryd.prog 63 (irTkKeys) := ⟨_, Tryd.func63, tcf63⟩
theorem tcf48 : compF Tryd.prog [] Tryd.f48 = some (irLetter) := by kernel_rfl
theorem h48 : Has Tryd.prog 48 (irLetter) := ⟨_, Tryd.func48, tcf48⟩
theorem tcf51 : compF Tryd.prog [] Tryd.f51 = some (irDigit) := by kernel_rfl
theorem h51 : Has Tryd.prog 51 (irDigit) := ⟨_, Tryd.func51, tcf51⟩
theorem tcf44 : compF Tryd.prog [] Tryd.f44 = some (irScMore) := by kernel_rfl
theorem h44 : Has Tryd.prog 44 (irScMore) := ⟨_, Tryd.func44, tcf44⟩
theorem tcf45 : compF Tryd.prog [] Tryd.f45 = some (irTkBlank) := by kernel_rfl
theorem h45 : Has Tryd.prog 45 (irTkBlank) := ⟨_, Tryd.func45, tcf45⟩
theorem tcf46 : compF Tryd.prog [] Tryd.f46 = some (irScHash) := by kernel_rfl
theorem h46 : Has Tryd.prog 46 (irScHash) := ⟨_, Tryd.func46, tcf46⟩
theorem tcf47 : compF Tryd.prog [] Tryd.f47 = some (irScNoNl) := by kernel_rfl
theorem h47 : Has Tryd.prog 47 (irScNoNl) := ⟨_, Tryd.func47, tcf47⟩
theorem tcf49 : compF Tryd.prog [] Tryd.f49 = some (irScWord 44 61) := by kernel_rfl
theorem h49 : Has Tryd.prog 49 (irScWord 44 61) := ⟨_, Tryd.func49, tcf49⟩
theorem tcf61 : compF Tryd.prog [] Tryd.f61 = some (irScWordB 48 51) := by kernel_rfl
theorem h61 : Has Tryd.prog 61 (irScWordB 48 51) := ⟨_, Tryd.func61, tcf61⟩
theorem tcf53 : compF Tryd.prog [] Tryd.f53 = some (irScStr 65) := by kernel_rfl
theorem h53 : Has Tryd.prog 53 (irScStr 65) := ⟨_, Tryd.func53, tcf53⟩
theorem tcf54 : compF Tryd.prog [] Tryd.f54 = some (irScSign 66 67) := by kernel_rfl
theorem h54 : Has Tryd.prog 54 (irScSign 66 67) := ⟨_, Tryd.func54, tcf54⟩
theorem tcf65 : compF Tryd.prog [4] Tryd.f65 = some (irRnUnquote 72 73 27 63 5) := by kernel_rfl
theorem h65 : HasT Tryd.prog [4] 65 (irRnUnquote 72 73 27 63 5) := ⟨_, Tryd.func65, tcf65⟩
theorem tcf66 : compF Tryd.prog [] Tryd.f66 = some (irTkSigns) := by kernel_rfl
theorem h66 : Has Tryd.prog 66 (irTkSigns) := ⟨_, Tryd.func66, tcf66⟩
end Go.Proofs.Zg

namespace Go.Proofs.Zg
open Go Go.Zam Go.Proofs Go.Shelf
set_option maxRecDepth 100000
def bldRen : Ren := ⟨fun n => match n with | 240 => 40 | 276 => 58 | 169 => 27 | n => n, fun t => match t with | 0 => 0 | 3 => 3 | 4 => 4 | 5 => 5 | 9 => 9 | 20 => 20 | 37 => 61 | 70 => 60 | 72 => 63 | 127 => 92 | 164 => 107 | n => n, fun g => g⟩

theorem lay240 : Lays.n240 Tryd.prog bldRen where
  mixed := by kernel_rfl
  f240 := Tryd.func40.trans (congrArg some (by kernel_rfl))
  f276 := Tryd.func58.trans (congrArg some (by kernel_rfl))
  t0 := by kernel_rfl
  a0 := Tryd.isAgg0
  z0 := fun _ => by kernel_rfl
  v0 := Tryd.zeroValue0
  t4 := by kernel_rfl
  a4 := Tryd.isAgg4
  z4 := fun _ => by kernel_rfl
  v4 := Tryd.zeroValue4
  t9 := by kernel_rfl
  a9 := Tryd.isAgg9
  z9 := fun _ => by kernel_rfl
  v9 := Tryd.zeroValue9
  t20 := by kernel_rfl
  a20 := Tryd.isAgg20
  z20 := fun _ => by kernel_rfl
  v20 := Tryd.zeroValue20
  t70 := by kernel_rfl
  a70 := Tryd.isAgg60
  z70 := fun _ => by kernel_rfl
  v70 := Tryd.zeroValue60
  t72 := by kernel_rfl
  a72 := Tryd.isAgg63
  z72 := fun _ => by kernel_rfl
  v72 := Tryd.zeroValue63
  t164 := by kernel_rfl
  a164 := Tryd.isAgg107
  z164 := fun _ => by kernel_rfl
  v164 := Tryd.zeroValue107
theorem lay169 : Lays.n169 Tryd.prog bldRen where
  mixed := by kernel_rfl
  f169 := Tryd.func27.trans (congrArg some (by kernel_rfl))
  t0 := by kernel_rfl
  a0 := Tryd.isAgg0
  z0 := fun _ => by kernel_rfl
  v0 := Tryd.zeroValue0
  t3 := by kernel_rfl
  a3 := Tryd.isAgg3
  z3 := fun _ => by kernel_rfl
  v3 := Tryd.zeroValue3
  t9 := by kernel_rfl
  a9 := Tryd.isAgg9
  z9 := fun _ => by kernel_rfl
  v9 := Tryd.zeroValue9
  t37 := by kernel_rfl
  a37 := Tryd.isAgg61
  z37 := fun _ => by kernel_rfl
  v37 := Tryd.zeroValue61
  t70 := by kernel_rfl
  a70 := Tryd.isAgg60
  z70 := fun _ => by kernel_rfl
  v70 := Tryd.zeroValue60
  t72 := by kernel_rfl
  a72 := Tryd.isAgg63
  z72 := fun _ => by kernel_rfl
  v72 := Tryd.zeroValue63
  t127 := by kernel_rfl
  a127 := Tryd.isAgg92
  z127 := fun _ => by kernel_rfl
  v127 := Tryd.zeroValue92
theorem bldExtra : Builder.Extra Tryd.prog bldRen where
  sizeBuilder := by kernel_rfl
  liesBuilder := by kernel_rfl
  t5 := by kernel_rfl
  a5 := Tryd.isAgg5
  z5 := fun _ => by kernel_rfl
  v5 := Tryd.zeroValue5
  infoByte := by kernel_rfl
  cellsByte := by kernel_rfl
  sizeByte := by kernel_rfl
  neB5 := by decide

theorem copyCheckOk {H : Hp} {i : Nat} {x a : A} (hi : H[i]? = some (.box 63 [a, x])) (ha : a = .d .nilp ∨ a = .ptr i 0) :
    ACall Tryd.prog 40 [.ptr i 0] H (fun r H' => r = .tup [] ∧ H' = H.set i (.box 63 [.ptr i 0, x])) := copyCheck_acall lay240 bldExtra.toX72 hi ha

theorem stringOk {H : Hp} {i t : Nat} {a : A} {s : List UInt8} (hi : H[i]? = some (.box 63 [a, .osl true 1 (byteRows s) t])) (ht : H[t]? = some (.tok s.length 1 5)) (hlen : s.length ≤ 4611686018427387904) :
    ACall Tryd.prog 27 [.ptr i 0] H (fun r H' => r = .d (.str s) ∧ H' = H) := string_acall lay169 bldExtra hi ht hlen
end Go.Proofs.Zg

namespace Go.Proofs.Zg
open Go Go.Zam Go.Proofs
open Go.RowKit (Below)
set_option maxRecDepth 100000
set_option linter.all false
set_option maxHeartbeats 1000000

theorem indexOk : IndexOk Tryd.prog 72 := fun s c H => by
  refine leaf (args := [.str s, .int .u8 c.toNat]) (x := .int .i64 (Lib.indexByte s c)) (fun w σ vs _ hl hv => ?_) H
  match vs, hl with
  | [v0, v1], _ =>
  have e0 := (hv 0 v0 _ rfl rfl).str_inv
  have e1 := (hv 1 v1 _ rfl rfl).int_inv
  subst e0; subst e1
  refine (Tryd.strings_IndexByte ⟨s.toArray⟩ c.toNat w).mono ?_
  rintro e w' ⟨rfl, rfl⟩
  refine ⟨_, rfl, Below.refl _ _, fun σ => ?_⟩
  have : (Int.toNat (c.toNat : Int)).toUInt8 = c := by simp
  rw [this]
  exact .int _ _

theorem prefixOk : PrefixOk Tryd.prog 67 := fun s p H => by
  refine leaf (args := [.str s, .str p]) (x := .bool (p.isPrefixOf s)) (fun w σ vs _ hl hv => ?_) H
  match vs, hl with
  | [v0, v1], _ =>
  have e0 := (hv 0 v0 _ rfl rfl).str_inv
  have e1 := (hv 1 v1 _ rfl rfl).str_inv
  subst e0; subst e1
  refine (Tryd.strings_HasPrefix ⟨s.toArray⟩ ⟨p.toArray⟩ w).mono ?_
  rintro e w' ⟨rfl, rfl⟩
  exact ⟨_, rfl, Below.refl _ _, fun σ => .bool _⟩

theorem decodeOk {H0 : Hp} (hG : TabsG 0 1 2 3 H0) : DecodeOk Tryd.prog H0 43 := fun s H hp => by
  refine leafG (args := [.str s]) hG (fun w σ vs hT hl hv => ?_) H hp
  match vs, hl with
  | [v0], _ =>
  have e0 := (hv 0 v0 _ rfl rfl).str_inv
  subst e0
  refine (Tryd.utf8_DecodeRuneInString ⟨s.toArray⟩ w hT.1).mono ?_
  rintro e w' ⟨rfl, hb⟩
  refine ⟨_, rfl, hb, fun κ => ?_⟩
  rw [decodeGo_eq]
  refine VR.tup [_, _] [_, _] rfl fun i v a hi ha => ?_
  match i with
  | 0 => cases hi; cases ha; exact .d (.int _ _)
  | 1 => cases hi; cases ha; exact .d (.int _ _)
  | i + 2 => cases hi

theorem numberCalls (s : ByteArray) (hlim : s.size ≤ 1048576) (w : World) (h0 : ∃ te pe, w.cell? ⟨2, 0, none⟩ = some (.iface te pe)) (h1 : ∃ te pe, w.cell? ⟨3, 0, none⟩ = some (.iface te pe)) :
    Calls Tryd.prog 52 #[.string s] w fun e w' => e = .returned (.int .i64 (if numOk s.data.toList then 0 else 23)) ∧ Below w.heap.size w w' := by
  obtain ⟨t0, p0, h0⟩ := h0
  obtain ⟨t1, p1, h1⟩ := h1
  rcases h : Lib.parseUintB 63 s.data.toList with u | _ | _
  · have hr : numOk s.data.toList = true := by simp only [numOk, h]
    rw [hr]
    go_enter Tryd.func52, Tryd.ntmps52
    go_wp2_with (go_at_call 64; refine (Any.strconv_ParseUint_10_at63_ok Tryd.laysPu14 s (by omega) u h _).mono ?_; rintro e w' ⟨rfl, hw⟩)
    go_wp2
    go_ret
    refine ⟨by first | rfl | (congr 2; omega), ?_⟩
    rcases hw with rfl | rfl
    · exact Below.refl _ _
    · exact Lib.bytesWorld_below _ _ _
  · have hr : numOk s.data.toList = false := by simp only [numOk, h]
    rw [hr]
    go_enter Tryd.func52, Tryd.ntmps52
    go_wp2_with (go_at_call 64; refine (Any.strconv_ParseUint_10_at63_syntax Tryd.laysPu14 s (by omega) h (.iface t0 p0) _ ?_ (.inr ⟨_, _, rfl⟩)).mono ?_)
    · exact h0
    rintro e W1 ⟨N, rfl, -, -, hb⟩
    go_wp2
    go_ret
    exact ⟨rfl, hb⟩
  · have hr : numOk s.data.toList = false := by simp only [numOk, h]
    rw [hr]
    go_enter Tryd.func52, Tryd.ntmps52
    go_wp2_with (go_at_call 64; refine (Any.strconv_ParseUint_10_at63_range Tryd.laysPu14 s (by omega) h (.iface t1 p1) _ ?_ (.inr ⟨_, _, rfl⟩)).mono ?_)
    · exact h1
    rintro e W1 ⟨N, rfl, -, -, hb⟩
    go_wp2
    go_ret
    exact ⟨rfl, hb⟩

theorem numberOk {H0 : Hp} (hG : TabsG 0 1 2 3 H0) : NumOk Tryd.prog H0 52 := fun s H hp hl => by
  refine leafG (args := [.str s]) (x := .d _) hG (fun w σ vs hT hl' hv => ?_) H hp
  match vs, hl' with
  | [v0], _ =>
  have e0 := (hv 0 v0 _ rfl rfl).str_inv
  subst e0
  refine (numberCalls ⟨s.toArray⟩ (by simpa [ByteArray.size] using hl) w hT.2.1 hT.2.2).mono ?_
  rintro e w' ⟨rfl, hb⟩
  exact ⟨_, rfl, hb, fun κ => .d (.int _ _)⟩

theorem cfWB : compF Tryd.prog [] Tryd.f73 = some (irWriteByte 40 5) := by kernel_rfl
theorem copyOk : CopyOk Tryd.prog 40 63 := fun H i x a hi ha => copyCheckOk hi ha
theorem writeBOk : WriteBOk Tryd.prog 73 63 := fun H i t a bs c => writeByte_acall Tryd.func73 cfWB copyOk H i t a bs c
theorem stringOk' : StringOk Tryd.prog 27 63 := fun H i t a s hi ht hl => stringOk hi ht (by omega)
theorem unquoteOk (s : Bs) (H : Hp) (hs : s.length ≤ 1048576) : ACall Tryd.prog 65 [.d (.str s)] H (fun r H' => r = unqR (unqV s) ∧ H' = H) := h65.unquote indexOk writeBOk stringOk' s hs H

theorem letterOk : ByteOk Tryd.prog 48 letterB := h48.letter
theorem digitOk : ByteOk Tryd.prog 51 digitB := h51.digit
theorem isKeyOk (s : Bs) (H : Hp) : ACall Tryd.prog 50 [.d (.str s)] H (fun r H' => r = .d (.bool (decide (s ∈ keysL))) ∧ H' = H) := h50.isKey h63 h62 h69 s H
theorem wordOk {H : Hp} {i : Nat} {ts : TypeId} {text : Bs} {n : Nat} (hi : H[i]? = some (scan ts text n)) (hn : n ≤ text.length) (hl : text.length ≤ 1048576) :
    ACall Tryd.prog 49 [.ptr i 0] H (fun r H' => r = .d (.str ((text.drop n).take (Zam.runN Zam.wordB (text.drop n)))) ∧ H' = H.set i (scan ts text (n + Zam.runN Zam.wordB (text.drop n)))) :=
  h49.word h44 (by kernel_rfl) (h61.wordB letterOk digitOk) hi hn (by omega)
theorem leadOk {H : Hp} {i : Nat} {text : Bs} {n : Nat} (hi : H[i]? = some (scan 75 text n)) (hn : n ≤ text.length) (hl : text.length ≤ 1048576) :
    ACall Tryd.prog 32 [.ptr i 0] H (fun r H' => r = .d (.str ((text.drop n).take (leadS false (text.drop n)))) ∧ H' = H.set i (scan 75 text (n + leadS false (text.drop n)))) :=
  h32.lead h44 (by kernel_rfl) h45.blank (by kernel_rfl) h46.hash (by kernel_rfl) h47.noNl hi hn (by omega)
theorem nextOk {H0 : Hp} (hG : TabsG 0 1 2 3 H0) {H : Hp} {i : Nat} {text : Bs} {n : Nat} (hH : Pre0 H0 H) (h0i : H0.length ≤ i) (hi : H[i]? = some (scan 75 text n)) (hn : n ≤ text.length) (hl : text.length ≤ 1048576) :
    ACall Tryd.prog 33 [.ptr i 0] H (NextQ H i 75 text n (text.drop n) (tokN (text.drop n))) :=
  h33.next h44 (by kernel_rfl) letterOk (by kernel_rfl) digitOk wordOk isKeyOk (numberOk hG) (fun hi hn hl => h53.str unquoteOk hi hn hl) (fun hi hn hl => h54.sign h66 prefixOk hi hn (by omega)) hH h0i hi hn hl
theorem badOk {H0 : Hp} (hG : TabsG 0 1 2 3 H0) (s : Bs) (H : Hp) (hs : s.length ≤ 1048576) (hH : Pre0 H0 H) : ACall Tryd.prog 31 [.d (.str s)] H (fun r H' => r = .d (.int .i64 (badS s)) ∧ H' = H) := h31.bad (decodeOk hG) s hs H hH
theorem lexOk {H0 : Hp} (hG : TabsG 0 1 2 3 H0) (s : Bs) (hs : s.length ≤ 1048576) (H : Hp) (hH : Pre0 H0 H) :
    ACall Tryd.prog 22 [.d (.str s)] H (fun r H' => r = .tup [.d (.sl true 4 ((lexS s).1.map encTk)), .d (.int .i64 (lexS s).2.1), .d (.int .i64 (lexS s).2.2)] ∧ H' = H) :=
  h22.lex (badOk hG) leadOk (nextOk hG) s hs H hH
end Go.Proofs.Zg

namespace Go.Proofs.Zg
open Go Go.Zam Go.Proofs
set_option maxRecDepth 100000
/- whetstone/whetstonelaw17.ChangeDoes -/
def ir3 : IFn :=
 { nt := 102, res := [.t 6], body := (
  .seq (.ops [
    ⟨(some 6), none, .mv (.c (.bool false))⟩] false)
  (.seq (.seq (.ops [
     ⟨(some 17), none, .mv (.t 0)⟩,
     ⟨(some 18), none, .call 4 [(.t 17), (.c (.int .i64 3000))]⟩,
     ⟨(some 19), none, .un .not (.t 18)⟩,
     ⟨(some 20), none, .mv (.t 19)⟩,
     ⟨(some 21), (some (20, false)), .mv (.t 1)⟩,
     ⟨(some 22), (some (20, false)), .lenL (.t 21)⟩,
     ⟨(some 23), (some (20, false)), .bin .gtr (.t 22) (.c (.int .i64 20))⟩,
     ⟨(some 24), none, .pick (.t 20) (.c (.bool true)) (.t 23)⟩] false)
   (.cond (.t 24) (.seq (.ops [
      ⟨(some 25), none, .call 5 []⟩,
      ⟨(some 6), none, .mv (.t 25)⟩] false)
    (.ret))
   (.skip)))
  (.seq (.seq (.ops [
     ⟨(some 26), none, .mv (.t 1)⟩,
     ⟨(some 27), none, .lenL (.t 26)⟩,
     ⟨(some 28), none, .mv (.c (.int .i64 0))⟩] false)
   (.blk 0 (.loop (.seq (.ops [
       ⟨(some 29), none, .bin .lss (.t 28) (.t 27)⟩] false)
     (.seq (.cond (.t 29) (.skip)
      (.exit 0))
     (.seq (.blk 1 (.seq (.ops [
         ⟨(some 30), none, .iaddr 2 (.t 26) (.t 28)⟩,
         ⟨(some 31), none, .load 2 true (.t 30)⟩,
         ⟨(some 8), none, .alloc 28 [(.str []), (.sl true 3 [])]⟩,
         ⟨none, none, .store 2 (.t 8) (.t 31)⟩] false)
       (.seq (.ops [
         ⟨(some 9), none, .mv (.c (.int .i64 0))⟩] false)
       (.seq (.ops [
         ⟨(some 32), none, .faddr 1 (.t 8)⟩,
         ⟨(some 33), none, .load 1 false (.t 32)⟩,
         ⟨(some 34), none, .lenL (.t 33)⟩,
         ⟨(some 35), none, .mv (.c (.int .i64 0))⟩] false)
       (.blk 2 (.loop (.seq (.ops [
           ⟨(some 36), none, .bin .lss (.t 35) (.t 34)⟩] false)
         (.seq (.cond (.t 36) (.skip)
          (.exit 2))
         (.seq (.blk 3 (.seq (.ops [
             ⟨(some 37), none, .iaddr 3 (.t 33) (.t 35)⟩,
             ⟨(some 38), none, .load 3 true (.t 37)⟩,
             ⟨(some 11), none, .alloc 30 [(.int .i64 0), (.int .i64 0), (.str [])]⟩,
             ⟨none, none, .store 3 (.t 11) (.t 38)⟩] false)
           (.seq (.ops [
             ⟨(some 39), none, .mv (.t 9)⟩,
             ⟨(some 40), none, .faddr 2 (.t 11)⟩,
             ⟨(some 41), none, .load 1 false (.t 40)⟩,
             ⟨(some 42), none, .lenS (.t 41)⟩,
             ⟨(some 43), none, .bin .add (.t 39) (.t 42)⟩,
             ⟨(some 9), none, .mv (.t 43)⟩] false)
           (.seq (.ops [
             ⟨(some 44), none, .mv (.t 9)⟩,
             ⟨(some 45), none, .bin .gtr (.t 44) (.c (.int .i64 3000))⟩,
             ⟨(some 46), none, .mv (.t 45)⟩,
             ⟨(some 47), (some (46, false)), .faddr 1 (.t 8)⟩,
             ⟨(some 48), (some (46, false)), .load 1 false (.t 47)⟩,
             ⟨(some 49), (some (46, false)), .lenL (.t 48)⟩,
             ⟨(some 50), (some (46, false)), .bin .gtr (.t 49) (.c (.int .i64 600))⟩,
             ⟨(some 51), none, .pick (.t 46) (.c (.bool true)) (.t 50)⟩] false)
           (.cond (.t 51) (.seq (.ops [
              ⟨(some 52), none, .call 5 []⟩,
              ⟨(some 6), none, .mv (.t 52)⟩] false)
            (.ret))
           (.skip))))))
         (.ops [
          ⟨(some 53), none, .bin .add (.t 35) (.c (.int .i64 1))⟩,
          ⟨(some 35), none, .mv (.t 53)⟩] false))))))))))
     (.ops [
      ⟨(some 54), none, .bin .add (.t 28) (.c (.int .i64 1))⟩,
      ⟨(some 28), none, .mv (.t 54)⟩] false)))))))
  (.seq (.ops [
    ⟨(some 55), none, .bsliceT 2 41 []⟩,
    ⟨(some 56), none, .mv (.t 0)⟩,
    ⟨(some 57), none, .app 2 32 41 (.t 55) (.t 56)⟩,
    ⟨(some 12), none, .mv (.t 57)⟩] false)
  (.seq (.ops [
    ⟨(some 59), none, .mv (.t 0)⟩,
    ⟨(some 60), none, .mv (.t 1)⟩,
    ⟨(some 61), none, .call 6 [(.t 59), (.t 60)]⟩,
    ⟨(some 58), none, .mv (.t 61)⟩,
    ⟨(some 62), none, .ext (.t 58) 0⟩,
    ⟨(some 63), none, .ext (.t 58) 1⟩,
    ⟨(some 13), none, .mv (.t 62)⟩,
    ⟨(some 14), none, .mv (.t 63)⟩] false)
  (.seq (.ops [
    ⟨(some 65), none, .mv (.t 0)⟩,
    ⟨(some 66), none, .mv (.t 1)⟩,
    ⟨(some 67), none, .call 7 [(.t 65), (.t 66)]⟩,
    ⟨(some 64), none, .mv (.t 67)⟩,
    ⟨(some 68), none, .ext (.t 64) 0⟩,
    ⟨(some 69), none, .ext (.t 64) 1⟩,
    ⟨(some 15), none, .mv (.t 68)⟩,
    ⟨(some 16), none, .mv (.t 69)⟩] false)
  (.seq (.ops [
    ⟨(some 70), none, .call 5 []⟩,
    ⟨(some 71), none, .mv (.t 70)⟩,
    ⟨(some 72), (some (71, true)), .mv (.t 14)⟩,
    ⟨(some 73), (some (71, true)), .mv (.t 16)⟩,
    ⟨(some 74), (some (71, true)), .bin .eql (.t 72) (.t 73)⟩,
    ⟨(some 75), none, .pick (.t 71) (.t 74) (.c (.bool false))⟩,
    ⟨(some 76), none, .mv (.t 75)⟩,
    ⟨(some 77), (some (76, true)), .mv (.t 13)⟩,
    ⟨(some 78), (some (76, true)), .mv (.t 15)⟩,
    ⟨(some 79), (some (76, true)), .call 8 [(.t 77), (.t 78)]⟩,
    ⟨(some 80), none, .pick (.t 76) (.t 79) (.c (.bool false))⟩,
    ⟨(some 81), none, .mv (.t 80)⟩,
    ⟨(some 82), (some (81, true)), .mv (.t 0)⟩,
    ⟨(some 83), (some (81, true)), .mv (.t 12)⟩,
    ⟨(some 84), (some (81, true)), .call 8 [(.t 82), (.t 83)]⟩,
    ⟨(some 85), none, .pick (.t 81) (.t 84) (.c (.bool false))⟩,
    ⟨(some 86), none, .mv (.t 85)⟩,
    ⟨(some 87), (some (86, true)), .mv (.t 0)⟩,
    ⟨(some 88), (some (86, true)), .call 9 [(.t 87)]⟩,
    ⟨(some 89), (some (86, true)), .mv (.t 0)⟩,
    ⟨(some 90), (some (86, true)), .call 10 [(.t 89)]⟩,
    ⟨(some 91), (some (86, true)), .call 8 [(.t 88), (.t 90)]⟩,
    ⟨(some 92), none, .pick (.t 86) (.t 91) (.c (.bool false))⟩,
    ⟨(some 93), none, .mv (.t 92)⟩,
    ⟨(some 94), (some (93, true)), .mv (.t 0)⟩,
    ⟨(some 95), (some (93, true)), .mv (.t 2)⟩,
    ⟨(some 96), (some (93, true)), .call 11 [(.t 94), (.t 95)]⟩,
    ⟨(some 97), (some (93, true)), .mv (.t 0)⟩,
    ⟨(some 98), (some (93, true)), .mv (.t 2)⟩,
    ⟨(some 99), (some (93, true)), .call 12 [(.t 97), (.t 98)]⟩,
    ⟨(some 100), (some (93, true)), .bin .eql (.t 96) (.t 99)⟩,
    ⟨(some 101), none, .pick (.t 93) (.t 100) (.c (.bool false))⟩,
    ⟨(some 6), none, .mv (.t 101)⟩] false)
  (.ret)))))))) }
theorem cf3 : compF Tryd.prog [12, 55] Tryd.f3 = some ir3 := by kernel_rfl
/- whetstone/whetstonelaw17.awake -/
def ir5 : IFn :=
 { nt := 33, res := [.t 0], body := (
  .seq (.ops [
    ⟨(some 0), none, .mv (.c (.bool false))⟩] false)
  (.seq (.ops [
    ⟨(some 4), none, .build [(.str []), (.str [])] [(0, 1, (.c (.str [109, 97, 105, 110]))), (1, 1, (.c (.str [97, 32, 98])))]⟩,
    ⟨(some 5), none, .bslice 2 [(.t 4)]⟩,
    ⟨(some 6), none, .build [(.str []), (.str [])] [(0, 1, (.c (.str [109, 97, 105, 110]))), (1, 1, (.c (.str [97, 32, 99])))]⟩,
    ⟨(some 7), none, .bslice 2 [(.t 6)]⟩,
    ⟨(some 8), none, .call 13 [(.t 5), (.t 7)]⟩,
    ⟨(some 3), none, .mv (.t 8)⟩,
    ⟨(some 9), none, .ext (.t 3) 0⟩,
    ⟨(some 10), none, .ext (.t 3) 1⟩,
    ⟨(some 1), none, .mv (.t 9)⟩,
    ⟨(some 2), none, .mv (.t 10)⟩] false)
  (.seq (.ops [
    ⟨(some 11), none, .mv (.t 2)⟩,
    ⟨(some 12), none, .bin .eql (.t 11) (.c (.int .i64 0))⟩,
    ⟨(some 13), none, .mv (.t 12)⟩,
    ⟨(some 14), (some (13, true)), .mv (.t 1)⟩,
    ⟨(some 15), (some (13, true)), .lenL (.t 14)⟩,
    ⟨(some 16), (some (13, true)), .bin .eql (.t 15) (.c (.int .i64 1))⟩,
    ⟨(some 17), none, .pick (.t 13) (.t 16) (.c (.bool false))⟩,
    ⟨(some 18), none, .mv (.t 17)⟩,
    ⟨(some 19), (some (18, true)), .mv (.t 1)⟩,
    ⟨(some 20), (some (18, true)), .iaddr 2 (.t 19) (.c (.int .i64 0))⟩,
    ⟨(some 21), (some (18, true)), .faddr 0 (.t 20)⟩,
    ⟨(some 22), (some (18, true)), .load 1 false (.t 21)⟩,
    ⟨(some 23), (some (18, true)), .bin .eql (.t 22) (.c (.str [109, 97, 105, 110]))⟩,
    ⟨(some 24), none, .pick (.t 18) (.t 23) (.c (.bool false))⟩,
    ⟨(some 25), none, .mv (.t 24)⟩,
    ⟨(some 26), (some (25, true)), .mv (.t 1)⟩,
    ⟨(some 27), (some (25, true)), .iaddr 2 (.t 26) (.c (.int .i64 0))⟩,
    ⟨(some 28), (some (25, true)), .faddr 1 (.t 27)⟩,
    ⟨(some 29), (some (25, true)), .load 1 false (.t 28)⟩,
    ⟨(some 30), (some (25, true)), .lenL (.t 29)⟩,
    ⟨(some 31), (some (25, true)), .bin .eql (.t 30) (.c (.int .i64 1))⟩,
    ⟨(some 32), none, .pick (.t 25) (.t 31) (.c (.bool false))⟩,
    ⟨(some 0), none, .mv (.t 32)⟩] false)
  (.ret)))) }
theorem cf5 : compF Tryd.prog [] Tryd.f5 = some ir5 := by kernel_rfl
/- whetstone/change.Between -/
def ir13 : IFn :=
 { nt := 78, res := [.t 4, .t 5], body := (
  .seq (.ops [
    ⟨(some 4), none, .mv (.c (.sl true 2 []))⟩,
    ⟨(some 5), none, .mv (.c (.int .i64 0))⟩] false)
  (.seq (.seq (.ops [
     ⟨(some 17), none, .mv (.t 0)⟩,
     ⟨(some 18), none, .lenL (.t 17)⟩,
     ⟨(some 19), none, .mv (.t 1)⟩,
     ⟨(some 20), none, .lenL (.t 19)⟩,
     ⟨(some 21), none, .bin .neq (.t 18) (.t 20)⟩] false)
   (.cond (.t 21) (.seq (.ops [
      ⟨(some 4), none, .mv (.c (.sl true 2 []))⟩,
      ⟨(some 5), none, .mv (.c (.int .i64 1))⟩] false)
    (.ret))
   (.skip)))
  (.seq (.ops [
    ⟨(some 6), none, .nilT 2 28⟩] false)
  (.seq (.seq (.ops [
     ⟨(some 22), none, .mv (.t 0)⟩,
     ⟨(some 23), none, .call 9 [(.t 22)]⟩,
     ⟨(some 24), none, .lenL (.t 23)⟩,
     ⟨(some 25), none, .mv (.c (.int .i64 0))⟩] false)
   (.blk 0 (.loop (.seq (.ops [
       ⟨(some 26), none, .bin .lss (.t 25) (.t 24)⟩] false)
     (.seq (.cond (.t 26) (.skip)
      (.exit 0))
     (.seq (.blk 1 (.seq (.ops [
         ⟨(some 27), none, .iaddr 2 (.t 23) (.t 25)⟩,
         ⟨(some 28), none, .load 2 true (.t 27)⟩,
         ⟨(some 8), none, .alloc 41 [(.str []), (.str [])]⟩,
         ⟨none, none, .store 2 (.t 8) (.t 28)⟩] false)
       (.seq (.ops [
         ⟨(some 29), none, .mv (.t 1)⟩,
         ⟨(some 30), none, .faddr 0 (.t 8)⟩,
         ⟨(some 31), none, .load 1 false (.t 30)⟩,
         ⟨(some 32), none, .call 11 [(.t 29), (.t 31)]⟩,
         ⟨(some 9), none, .mv (.t 32)⟩] false)
       (.seq (.seq (.ops [
          ⟨(some 33), none, .mv (.t 9)⟩,
          ⟨(some 34), none, .bin .lss (.t 33) (.c (.int .i64 0))⟩] false)
        (.cond (.t 34) (.seq (.ops [
           ⟨(some 4), none, .mv (.c (.sl true 2 []))⟩,
           ⟨(some 5), none, .mv (.c (.int .i64 32))⟩] false)
         (.ret))
        (.skip)))
       (.seq (.seq (.ops [
          ⟨(some 35), none, .mv (.t 1)⟩,
          ⟨(some 36), none, .mv (.t 9)⟩,
          ⟨(some 37), none, .iaddr 2 (.t 35) (.t 36)⟩,
          ⟨(some 38), none, .faddr 1 (.t 37)⟩,
          ⟨(some 39), none, .load 1 false (.t 38)⟩,
          ⟨(some 40), none, .faddr 1 (.t 8)⟩,
          ⟨(some 41), none, .load 1 false (.t 40)⟩,
          ⟨(some 42), none, .bin .eql (.t 39) (.t 41)⟩] true)
        (.cond (.t 42) (.exit 1)
        (.skip)))
       (.seq (.ops [
         ⟨(some 44), none, .faddr 1 (.t 8)⟩,
         ⟨(some 45), none, .load 1 false (.t 44)⟩,
         ⟨(some 46), none, .call 22 [(.t 45)]⟩,
         ⟨(some 43), none, .mv (.t 46)⟩,
         ⟨(some 47), none, .ext (.t 43) 0⟩,
         ⟨(some 48), none, .ext (.t 43) 1⟩,
         ⟨(some 49), none, .ext (.t 43) 2⟩,
         ⟨(some 10), none, .mv (.t 47)⟩,
         ⟨(some 11), none, .mv (.t 48)⟩,
         ⟨(some 12), none, .mv (.t 49)⟩] false)
       (.seq (.ops [
         ⟨(some 51), none, .mv (.t 1)⟩,
         ⟨(some 52), none, .mv (.t 9)⟩,
         ⟨(some 53), none, .iaddr 2 (.t 51) (.t 52)⟩,
         ⟨(some 54), none, .faddr 1 (.t 53)⟩,
         ⟨(some 55), none, .load 1 false (.t 54)⟩,
         ⟨(some 56), none, .call 22 [(.t 55)]⟩,
         ⟨(some 50), none, .mv (.t 56)⟩,
         ⟨(some 57), none, .ext (.t 50) 0⟩,
         ⟨(some 58), none, .ext (.t 50) 1⟩,
         ⟨(some 59), none, .ext (.t 50) 2⟩,
         ⟨(some 13), none, .mv (.t 57)⟩,
         ⟨(some 14), none, .mv (.t 58)⟩,
         ⟨(some 15), none, .mv (.t 59)⟩] false)
       (.seq (.seq (.ops [
          ⟨(some 60), none, .mv (.t 11)⟩,
          ⟨(some 61), none, .mv (.t 14)⟩,
          ⟨(some 62), none, .bslice 1 [(.t 60), (.t 61)]⟩,
          ⟨(some 63), none, .call 23 [(.t 62)]⟩,
          ⟨(some 16), none, .mv (.t 63)⟩] false)
        (.seq (.ops [
          ⟨(some 64), none, .mv (.t 16)⟩,
          ⟨(some 65), none, .bin .neq (.t 64) (.c (.int .i64 0))⟩] false)
        (.cond (.t 65) (.seq (.ops [
           ⟨(some 66), none, .mv (.t 16)⟩,
           ⟨(some 4), none, .mv (.c (.sl true 2 []))⟩,
           ⟨(some 5), none, .mv (.t 66)⟩] false)
         (.ret))
        (.skip))))
       (.ops [
        ⟨(some 67), none, .mv (.t 6)⟩,
        ⟨(some 68), none, .faddr 0 (.t 8)⟩,
        ⟨(some 69), none, .load 1 false (.t 68)⟩,
        ⟨(some 70), none, .mv (.t 10)⟩,
        ⟨(some 71), none, .mv (.t 13)⟩,
        ⟨(some 72), none, .call 24 [(.t 70), (.t 71)]⟩,
        ⟨(some 73), none, .build [(.str []), (.sl true 3 [])] [(0, 1, (.t 69)), (1, 1, (.t 72))]⟩,
        ⟨(some 74), none, .bslice 2 [(.t 73)]⟩,
        ⟨(some 75), none, .app 2 40 28 (.t 67) (.t 74)⟩,
        ⟨(some 6), none, .mv (.t 75)⟩] true)))))))))
     (.ops [
      ⟨(some 76), none, .bin .add (.t 25) (.c (.int .i64 1))⟩,
      ⟨(some 25), none, .mv (.t 76)⟩] false)))))))
  (.seq (.ops [
    ⟨(some 77), none, .mv (.t 6)⟩,
    ⟨(some 4), none, .mv (.t 77)⟩,
    ⟨(some 5), none, .mv (.c (.int .i64 0))⟩] false)
  (.ret)))))) }
theorem cf13 : compF Tryd.prog [6] Tryd.f13 = some ir13 := by kernel_rfl
end Go.Proofs.Zg

namespace Go.Proofs.Zg
open Go Go.Zam Go.Proofs
set_option maxRecDepth 100000
set_option linter.all false
set_option maxHeartbeats 1000000

theorem gcf24 : compF Tryd.prog [] Tryd.f24 = some (irDBetween 34 35 36 37 39 38) := by kernel_rfl
theorem gcf34 : compF Tryd.prog [3] Tryd.f34 = some (irDUnits 86 77) := by kernel_rfl
theorem gcf35 : compF Tryd.prog [] Tryd.f35 = some (irDAlike) := by kernel_rfl
theorem gcf36 : compF Tryd.prog [] Tryd.f36 = some (irDTail) := by kernel_rfl
theorem gcf37 : compF Tryd.prog [] Tryd.f37 = some (irDEnd 86) := by kernel_rfl
theorem gcf38 : compF Tryd.prog [9] Tryd.f38 = some (irDEdits 55 56 81 3 30 91) := by kernel_rfl
theorem gcf39 : compF Tryd.prog [6] Tryd.f39 = some (irDRuns 57 91) := by kernel_rfl
theorem gcf57 : compF Tryd.prog [] Tryd.f57 = some (irDTable) := by kernel_rfl
theorem gcf55 : compF Tryd.prog [] Tryd.f55 = some (irDPlace) := by kernel_rfl
theorem gcf56 : compF Tryd.prog [3] Tryd.f56 = some (irDText 26 27 63 5 86) := by kernel_rfl
theorem gcf25 : compF Tryd.prog [] Tryd.f25 = some (irSound 30) := by kernel_rfl
theorem gcf26 : compF Tryd.prog [] Tryd.f26 = some (irWrite 40) := by kernel_rfl
theorem gcf15 : compF Tryd.prog [7] Tryd.f15 = some (irApply 30 63 25 26 27) := by kernel_rfl
theorem gcf23 : compF Tryd.prog [] Tryd.f23 = some irOrInt := by kernel_rfl

theorem writeSOk : WriteSOk Tryd.prog 26 63 := fun H i t a bs s => write_acall Tryd.func26 gcf26 copyOk H i t a bs s
theorem tableH : Has Tryd.prog 57 irDTable := ⟨_, Tryd.func57, gcf57⟩
theorem dHas : DHas Tryd.prog 34 35 36 37 39 38 57 where
  units := fun z l h1 h2 H => HasT.units ⟨_, Tryd.func34, gcf34⟩ z l h1 h2 H
  alike := ⟨_, Tryd.func35, gcf35⟩
  tail := ⟨_, Tryd.func36, gcf36⟩
  end_ := fun z p A h1 h2 H => Has.endU ⟨_, Tryd.func37, gcf37⟩ z p A h1 h2 H
  runs := fun z y p q A B h1 h2 H => HasT.runs ⟨_, Tryd.func39, gcf39⟩ tableH z y p q A B h1 h2 H
  edits := fun z za zb p q A B rs h1 h2 h3 h4 h5 H => HasT.edits ⟨_, Tryd.func38, gcf38⟩ ⟨_, Tryd.func55, gcf55⟩ (by kernel_rfl) (fun z p A h1 h2 H => HasT.textU ⟨_, Tryd.func56, gcf56⟩ writeSOk stringOk' z p A h1 h2 H) z za zb p q A B rs h1 h2 h3 h4 h5 H
  table := tableH

theorem betweenOk (z y : Bool) (a b : List Tk) (ha : a.length ≤ 262144) (hb : b.length ≤ 262144) (hja : (joinS a).length ≤ 1048576) (hjb : (joinS b).length ≤ 1048576) (H : Hp) :
    ACall Tryd.prog 24 [.d (.sl z 4 (a.map encTk)), .d (.sl y 4 (b.map encTk))] H (fun r H' => r = .d (.sl true 3 ((betweenL (txU a) (txU b)).map encE)) ∧ H' = H) :=
  dHas.between ⟨_, Tryd.func24, gcf24⟩ z y a b ha hb hja hjb H

def Cg : CF := { clone := 14, srt := 17, stb := 29, ins := 41, sym := 42, rot := 59, swp := 68, cmpM := 18, cmpS := 19, nan := 30, idxF := 20, find1 := 21, find := 11, sort := 9, apply := 6, applyE := 15, tM := 41, tC := 28, ts := 9 }
theorem cHas : ChHas Tryd.prog Cg where
  clone := ⟨_, Tryd.func14, by kernel_rfl⟩
  srt := ⟨_, Tryd.func17, by kernel_rfl⟩
  stb := ⟨_, Tryd.func29, by kernel_rfl⟩
  ins := ⟨_, Tryd.func41, by kernel_rfl⟩
  sym := ⟨_, Tryd.func42, by kernel_rfl⟩
  rot := ⟨_, Tryd.func59, by kernel_rfl⟩
  swp := ⟨_, Tryd.func68, by kernel_rfl⟩
  cmpM := ⟨_, Tryd.func18, by kernel_rfl⟩
  kCmpM := by kernel_rfl
  cmpS := ⟨_, Tryd.func19, by kernel_rfl⟩
  nan := ⟨_, Tryd.func30, by kernel_rfl⟩
  idxF := ⟨_, Tryd.func20, by kernel_rfl⟩
  find1 := ⟨_, Tryd.func21, by kernel_rfl⟩
  kFind1 := by kernel_rfl
  find := ⟨_, Tryd.func11, by kernel_rfl⟩
  sort := ⟨_, Tryd.func9, by kernel_rfl⟩
  apply := ⟨_, Tryd.func6, by kernel_rfl⟩
  applyE := fun H z s l hb => apply_acall Tryd.func15 gcf15 Tryd.func25 gcf25 Tryd.func26 gcf26 copyOk stringOk' H z s l hb

theorem rapplyEOk : ApplyE Tryd.prog 16 := fun H z s l hb => R2.refApplyOk (fs := 28) (et := 30) ⟨_, Tryd.func28, by kernel_rfl⟩ ⟨_, Tryd.func16, by kernel_rfl⟩ H z s l hb
theorem lightOk4 (H : Hp) (z : Bool) (l : List Mod) (most : Int) (hm : 0 ≤ most ∧ most ≤ 1048576) (hl : l.length ≤ 1048576) (hs : ∀ m ∈ l, m.n.length ≤ 1048576 ∧ m.t.length ≤ 1048576) :
    ACall Tryd.prog 4 [.d (.sl z 2 (l.map encM)), .d (.int .i64 most)] H (fun r H' => r = .d (.bool (light l most)) ∧ H' = H) :=
  lightOk (tM := 41) ⟨_, Tryd.func4, by kernel_rfl⟩ H z l most hm hl hs
theorem sameOk8 (H : Hp) (z z' : Bool) (a b : List Mod) (ha : a.length ≤ 1048576) :
    ACall Tryd.prog 8 [.d (.sl z 2 (a.map encM)), .d (.sl z' 2 (b.map encM))] H (fun r H' => r = .d (.bool (decide (a = b))) ∧ H' = H) :=
  sameMOk ⟨_, Tryd.func8, by kernel_rfl⟩ H z z' a b ha
theorem rsortOk (z : Bool) (l : List Mod) (hl : l.length ≤ 1048576) (H : Hp) : ACall Tryd.prog 10 [.d (.sl z 2 (l.map encM))] H (fun r H' => r = .d (.sl true 2 ((ssort cM l).map encM)) ∧ H' = H) :=
  HasT.rcSort (tM := 41) ⟨_, Tryd.func10, by kernel_rfl⟩ z l hl H
theorem rfindOk (z : Bool) (l : List Mod) (s : Bs) (hl : l.length ≤ 1099511627776) (H : Hp) : ACall Tryd.prog 12 [.d (.sl z 2 (l.map encM)), .d (.str s)] H (fun r H' => r = .d (.int .i64 (findM l s)) ∧ H' = H) :=
  Has.rcFind ⟨_, Tryd.func12, by kernel_rfl⟩ z l s hl H
theorem rapplyOk (H : Hp) (z zc : Bool) (l : List Mod) (cs : List Chg) (hb : l.length ≤ 1048576) (hc : cs.length ≤ 1048576) (hf : fitM l cs) :
    ACall Tryd.prog 7 [.d (.sl z 2 (l.map encM)), .d (.sl zc 2 (cs.map encC))] H (fun r H' => r = outR l cs ∧ H' = H) :=
  rappOk (rf := 12) (ra := 16) (tM := 41) ⟨_, Tryd.func7, by kernel_rfl⟩ ⟨_, Tryd.func7, by kernel_rfl⟩ ⟨_, Tryd.func12, by kernel_rfl⟩ ⟨_, Tryd.func12, by kernel_rfl⟩ rapplyEOk H z zc l cs hb hc hf
end Go.Proofs.Zg

namespace Go.Proofs.Zg
open Go Go.Zam Go.Proofs
set_option maxRecDepth 100000
set_option linter.all false
set_option maxHeartbeats 2000000

def exN : Bs := [109, 97, 105, 110]
def exA : Bs := [97, 32, 98]
def exB : Bs := [97, 32, 99]
def exE : List Ed := betweenL (txU (lexS exA).1) (txU (lexS exB).1)
theorem exA1 : (lexS exA).2.1 = 0 := by kernel_rfl
theorem exB1 : (lexS exB).2.1 = 0 := by kernel_rfl
theorem exA2 : (lexS exA).1.length ≤ 262144 := of_decide_eq_true (by kernel_rfl)
theorem exB2 : (lexS exB).1.length ≤ 262144 := of_decide_eq_true (by kernel_rfl)
theorem exA3 : (joinS (lexS exA).1).length ≤ 1048576 := of_decide_eq_true (by kernel_rfl)
theorem exB3 : (joinS (lexS exB).1).length ≤ 1048576 := of_decide_eq_true (by kernel_rfl)
theorem exE1 : exE.length = 1 := by kernel_rfl

theorem betweenEx {H0 : Hp} (hG : TabsG 0 1 2 3 H0) (H : Hp) (hH : Pre0 H0 H) :
    ACall Tryd.prog 13 [.d (.sl false 2 [[.str exN, .str exA]]), .d (.sl false 2 [[.str exN, .str exB]])] H (fun r H' => r = .tup [.d (.sl true 2 [[.str exN, .sl true 3 (exE.map encE)]]), .d (.int .i64 0)] ∧ H' = H) := by
  refine acall_fin Tryd.func13 cf13 (by simp [ir13]) fun hcl _ => ?_
  have g1 := fun X => sortMOk cHas (H ++ X) false [⟨exN, exA⟩] (by decide)
  have hss : ssort cM [⟨exN, exA⟩] = [⟨exN, exA⟩] := rfl
  rw [hss] at g1
  have g2 := fun X => findDOk cHas (H ++ X) false [⟨exN, exB⟩] exN (by decide)
  have hfm : findM [⟨exN, exB⟩] exN = 0 := rfl
  rw [hfm] at g2
  have g3 := fun X => lexOk hG exA (by decide) (H ++ X) (hH.app X)
  have g4 := fun X => lexOk hG exB (by decide) (H ++ X) (hH.app X)
  have g5 := fun X => betweenOk true true (lexS exA).1 (lexS exB).1 exA2 exB2 exA3 exB3 (H ++ X)
  have g6 := fun X => orInt_acall (P := Tryd.prog) Tryd.func23 gcf23 (H := H ++ X) (z := false) [0, 0] (by decide)
  have ho : orL [0, 0] = 0 := rfl
  rw [ho] at g6
  have hxe : (betweenL (txU (lexS exA).1) (txU (lexS exB).1)) = exE := rfl
  rw [hxe] at g5
  rw [exA1] at g3
  rw [exB1] at g4
  generalize (lexS exA).1 = LA at g3 g5
  generalize (lexS exB).1 = LB at g4 g5
  generalize (lexS exA).2.2 = PA at g3
  generalize (lexS exB).2.2 = PB at g4
  generalize exE = E at g5 ⊢
  have hne : ¬ exB = exA := by decide
  have hln : exN.length = 4 := rfl
  simp only [List.map_cons, List.map_nil, encM, Cg] at g1 g2 g6
  generalize exN = n at g1 g2 ⊢
  generalize exA = a at g1 g3 hne ⊢
  generalize exB = b at g2 g4 hne ⊢
  simp [ir13]
  refine CallK_of' (g1 _) ?_
  simp
  refine LoopK_out 0 (fun fr H' => fr 6 = .osl true 2 [[.str n, .sl true 3 (E.map encE)]] H.length ∧ H' = H ++ [.tok 1 2 28]) ?_ ?_
  · refine RangeK_of (H.length + 1) 1 (fun j fr H' => fr 1 = .d (.sl false 2 [[.str n, .str b]]) ∧ fr 23 = .d (.sl false 2 [[.str n, .str a]]) ∧ fr 6 = .osl true 2 (if j = 0 then [] else [[.str n, .sl true 3 (E.map encE)]]) H.length ∧ H' = H ++ [.tok j 2 28]) (by decide) (by decide) (by simp) (by simp) ?_ ?_ ?_
    · simp [cut_appk hcl]
    · rintro j fr H' hj fi fn ⟨f1, f23, f6, rfl⟩
      obtain rfl : j = 0 := by omega
      have fi : fr 25 = .d (.int .i64 0) := fi
      have f6 : fr 6 = .osl true 2 [] H.length := f6
      simp [fi, f23, f1, Zam.rowAt]
      refine CallK_of' (g2 _) ?_
      simp [f1, Zam.rowAt]
      refine BrK_split (fun h => ?_) (fun h => ?_)
      · exact absurd (by simpa using h) hne
      simp
      refine CallK_of' (g3 _) ?_
      simp [f1, Zam.rowAt]
      refine CallK_of' (g4 _) ?_
      simp
      refine CallK_of' (g6 _) ?_
      simp [f6]
      refine CallD_of (g5 _) ?_
      simp [appA]
      refine NextK_of (H.length + 1) (Nat.le_refl _) (by simp [fi, fn]) ?_
      simp [f1, f23, cut_appk hcl]
    · rintro fr H' fi fn ⟨f1, f23, f6, rfl⟩
      simpa using f6
  · rintro fr H' ⟨f6, rfl⟩
    simp [f6]
    simp [RetK, cut_app hcl]

theorem awakeOk {H0 : Hp} (hG : TabsG 0 1 2 3 H0) (H : Hp) (hH : Pre0 H0 H) : ACall Tryd.prog 5 [] H (fun r H' => r = .d (.bool true) ∧ H' = H) := by
  refine acall_fin Tryd.func5 cf5 (by simp [ir5]) fun hcl _ => ?_
  have g := betweenEx hG H hH
  have h1 := exE1
  generalize exE = E at g h1
  unfold exN exA exB at g
  simp [ir5]
  refine CallK_of' g ?_
  simp [Zam.rowAt, h1]
  simp [RetK, cut_self hcl]

theorem lDoesOk {H0 : Hp} (hG : TabsG 0 1 2 3 H0) (z zc : Bool) (l : List Mod) (cs : List Chg) (name : Bs) (hl : l.length ≤ 1048576) (hc : cs.length ≤ 1048576) (hls : ∀ m ∈ l, m.n.length ≤ 1048576 ∧ m.t.length ≤ 1048576)
    (hcs : ∀ c ∈ cs, c.l.length ≤ 1048576 ∧ ∀ e ∈ c.l, e.s.length ≤ 1048576) (hf : fitM l cs) (H : Hp) (hH : Pre0 H0 H) :
    ACall Tryd.prog 3 [.d (.sl z 2 (l.map encM)), .d (.sl zc 2 (cs.map encC)), .d (.str name)] H (fun r H' => r = .d (.bool true) ∧ H' = H) := by
  refine acall_fin Tryd.func3 cf3 (by simp [ir3]) fun hcl _ => ?_
  have haw := fun X => awakeOk hG (H ++ X) (hH.app X)
  have g4 := lightOk4 H z l 3000 (by decide) hl hls
  generalize light l 3000 = lt at g4
  have g6 := fun X => applyCOk cHas (H ++ X) z zc l cs hl hc hf
  have g7 := fun X => rapplyOk (H ++ X) z zc l cs hl hc hf
  have hlen := fun h => applyC_len (l := l) (done := []) (cs := cs) h
  have herr := fun h => applyC_err (l := l) (done := []) (cs := cs) h
  unfold outC at g6
  unfold outR at g7
  generalize hA : applyC l [] cs = R at g6 g7 hlen herr
  obtain ⟨e, R⟩ := R
  simp only at g6 g7 hlen herr
  have hRl : R.length ≤ 1048576 := by
    by_cases he : e = 0
    · rw [hlen he]; exact hl
    · rw [herr he]; simp
  have g8 := fun X z z' => sameOk8 (H ++ X) z z' R R hRl
  have g8' := fun X => sameOk8 (H ++ X) z false l l hl
  have g9 := fun X => sortMOk cHas (H ++ X) z l hl
  have g10 := fun X => rsortOk z l hl (H ++ X)
  have hsl : (ssort cM l).length ≤ 1048576 := by rw [ssort_length cM_cmp]; exact hl
  have g8'' := fun X z z' => sameOk8 (H ++ X) z z' (ssort cM l) (ssort cM l) hsl
  have g11 := fun X => findDOk cHas (H ++ X) z l name (by omega)
  have g12 := fun X => rfindOk z l name (by omega) (H ++ X)
  simp only [Cg] at g6 g9 g11
  generalize (if e = 0 then z && l.isEmpty else true) = z1 at g6
  generalize R.isEmpty = z2 at g7
  generalize (z && l.isEmpty) = z3 at g9
  generalize ssort cM l = S at g9 g10 g8''
  generalize findM l name = F at g11 g12
  have hb : l.length * 32 ≤ 140737488355328 := by omega
  have fin : ∀ X, RetK (fun r H' => r = A.d (.bool true) ∧ H' = H) .mk H.length (some (.d (.bool true))) (H ++ X) := fun X => by simp [RetK, cut_app hcl]
  by_cases hlt : lt = true ∧ cs.length ≤ 20
  case neg =>
    simp [ir3]
    refine CallK_of' g4 ?_
    cases lt with
    | false =>
      simp
      refine CallK_of' (by simpa using haw []) ?_
      simp [RetK, cut_self hcl]
    | true =>
      have h20 : (20 : Int) < cs.length := by simp at hlt; omega
      simp [h20]
      refine CallK_of' (by simpa using haw []) ?_
      simp [RetK, cut_self hcl]
  obtain ⟨rfl, h20'⟩ := hlt
  have h20 : ¬ (20 : Int) < cs.length := by omega
  simp [ir3]
  refine CallK_of' g4 ?_
  simp [h20]
  refine LoopK_outR 0 (fun fr H' => fr 0 = .d (.sl z 2 (l.map encM)) ∧ fr 1 = .d (.sl zc 2 (cs.map encC)) ∧ fr 2 = .d (.str name) ∧ H' = H) (fun fr H' => fr 6 = .d (.bool true) ∧ ∃ X, H' = H ++ X) ?_ ?_ ?_
  · refine RangeK_of H.length cs.length (fun j fr H' => fr 0 = .d (.sl z 2 (l.map encM)) ∧ fr 1 = .d (.sl zc 2 (cs.map encC)) ∧ fr 2 = .d (.str name) ∧ fr 26 = .d (.sl zc 2 (cs.map encC)) ∧ H' = H) (by omega) (by decide) (by simp) (by simp) ?_ ?_ ?_
    · simp [cut_self hcl]
    · rintro j fr H' hj fi fn ⟨f0, f1, f2, f26, rfl⟩
      have hr := rowAt_map encC hj
      have hcj := hcs cs[j] (List.getElem_mem _)
      generalize cs[j] = c at hr hcj
      obtain ⟨cn, cz, cl⟩ := c
      obtain ⟨hcl1, hce⟩ := hcj
      simp only at hcl1 hce
      simp only [encC] at hr
      simp [fi, f26, hr]
      refine LoopK_outR 2 (fun fr H2 => fr 0 = .d (.sl z 2 (l.map encM)) ∧ fr 1 = .d (.sl zc 2 (cs.map encC)) ∧ fr 2 = .d (.str name) ∧ fr 26 = .d (.sl zc 2 (cs.map encC)) ∧ fr 27 = .d (.int .i64 (cs.length : Int)) ∧ fr 28 = .d (.int .i64 (j : Int)) ∧ ∃ X, H2 = H' ++ X)
        (fun fr H2 => fr 6 = .d (.bool true) ∧ ∃ X, H2 = H' ++ X) ?_ ?_ ?_
      · refine RangeK_of (H'.length + 1) cl.length (fun k fr H2 => fr 0 = .d (.sl z 2 (l.map encM)) ∧ fr 1 = .d (.sl zc 2 (cs.map encC)) ∧ fr 2 = .d (.str name) ∧ fr 26 = .d (.sl zc 2 (cs.map encC)) ∧ fr 27 = .d (.int .i64 (cs.length : Int)) ∧ fr 28 = .d (.int .i64 (j : Int)) ∧
            fr 8 = .ptr H'.length 0 ∧ (∃ m : Int, fr 9 = .d (.int .i64 m) ∧ 0 ≤ m ∧ m ≤ 3000) ∧ fr 33 = .d (.sl cz 3 (cl.map encE)) ∧ H2 = H' ++ [.box 28 [.d (.str cn), .d (.sl cz 3 (cl.map encE))]]) (by omega) (by decide) (by simp) (by simp) ?_ ?_ ?_
        · refine ⟨by simp [f0], by simp [f1], by simp [f2], by simp [f26], by simp [fn], by simp [fi], by simp, ⟨0, by simp, by decide, by decide⟩, by simp, by simp [cut_appk hcl]⟩
        · rintro k fr H2 hk gi gn ⟨f0, f1, f2, f26, f27, f28, f8, ⟨m, f9, hm0, hm1⟩, f33, rfl⟩
          have hrk := rowAt_map encE hk
          have hek := hce cl[k] (List.getElem_mem _)
          generalize cl[k] = e1 at hrk hek
          obtain ⟨ef, et, es⟩ := e1
          simp only at hek
          simp only [encE] at hrk
          have hw : IntKind.i64.wrap (m + (es.length : Int)) = m + es.length := wrap_i64 (by omega) (by omega)
          simp [gi, f33, hrk, f9, hw]
          by_cases h1 : 3000 < m + (es.length : Int)
          · simp [h1]
            refine CallK_of' (haw _) ?_
            simp
          · by_cases h2 : (600 : Int) < cl.length
            · simp [h1, h2, f8]
              refine CallK_of' (haw _) ?_
              simp
            · simp [h1, h2, f8]
              refine NextK_of (H'.length + 1) (Nat.le_refl _) (by simp [gi, gn]) ?_
              refine ⟨by simp [f0], by simp [f1], by simp [f2], by simp [f26], by simp [f27], by simp [f28], by simp [f8], ⟨m + es.length, by simp, by omega, by omega⟩, by simp [f33], by simp [cut_appk hcl]⟩
        · rintro fr H2 gi gn ⟨f0, f1, f2, f26, f27, f28, f8, -, f33, rfl⟩
          simp
          exact ⟨f0, f1, f2, f26, f27, f28⟩
      · rintro fr H2 ⟨f6, X, rfl⟩
        simp [f6]
      · rintro fr H2 ⟨f0, f1, f2, f26, f27, f28, X, rfl⟩
        simp
        refine NextK_of H'.length (Nat.le_refl _) (by simp [f27, f28]) ?_
        exact ⟨by simp [f0], by simp [f1], by simp [f2], by simp [f26], cut_app hcl _⟩
    · rintro fr H' fi fn ⟨f0, f1, f2, f26, rfl⟩
      simp
      exact ⟨f0, f1, f2⟩
  · rintro fr H' ⟨f6, X, rfl⟩
    simp [f6]
    exact fin X
  · rintro fr H' ⟨f0, f1, f2, rfl⟩
    simp [f0, f1, f2, appA]
    rw [if_pos (by omega)]
    simp [f0, f1, f2]
    refine CallK_of' (g6 _) ?_
    simp [f0, f1]
    refine CallK_of' (g7 _) ?_
    simp
    refine CallK_of' (haw _) ?_
    simp
    refine CallK_of' (g8 _ _ _) ?_
    simp [f0]
    refine CallK_of' (ACall.osl2 (g8' _)) ?_
    simp [f0]
    refine CallK_of' (g9 _) ?_
    simp [f0]
    refine CallK_of' (g10 _) ?_
    simp
    refine CallK_of' (g8'' _ _ _) ?_
    simp [f0, f2]
    refine CallK_of' (g11 _) ?_
    simp [f0, f2]
    refine CallK_of' (g12 _) ?_
    simp
    exact fin _
end Go.Proofs.Zg

namespace Go.Proofs.Zg
open Go Go.Zam Go.Proofs
set_option maxRecDepth 100000
set_option linter.all false
set_option maxHeartbeats 1000000

theorem ty30 (n : Nat) (ds : List D) (h : Typed Tryd.prog n 30 ds) : ∃ e : Ed, ds = encE e := by
  obtain ⟨m, h⟩ := typed_struct Tryd.underlying30 h
  obtain ⟨a, r, rfl, ha, b, r, rfl, hb, c, r, rfl, hc, rfl⟩ := h
  obtain ⟨x, rfl⟩ := typed_int Tryd.underlying3 ha
  obtain ⟨y, rfl⟩ := typed_int Tryd.underlying3 hb
  obtain ⟨s, rfl⟩ := typed_str Tryd.underlying9 hc
  exact ⟨⟨x, y, s⟩, rfl⟩

theorem ty28 (n : Nat) (ds : List D) (h : Typed Tryd.prog n 28 ds) : ∃ c : Chg, ds = encC c := by
  obtain ⟨m, h⟩ := typed_struct Tryd.underlying28 h
  obtain ⟨a, r, rfl, ha, b, r, rfl, hb, rfl⟩ := h
  obtain ⟨s, rfl⟩ := typed_str Tryd.underlying9 ha
  obtain ⟨z, l, rfl⟩ := typed_sl (sz := 3) Tryd.underlying26 (by kernel_rfl) ty30 hb
  exact ⟨⟨s, z, l⟩, rfl⟩

theorem ty41 (n : Nat) (ds : List D) (h : Typed Tryd.prog n 41 ds) : ∃ m : Mod, ds = encM m := by
  obtain ⟨m, h⟩ := typed_struct Tryd.underlying41 h
  obtain ⟨a, r, rfl, ha, b, r, rfl, hb, rfl⟩ := h
  obtain ⟨s, rfl⟩ := typed_str Tryd.underlying9 ha
  obtain ⟨t, rfl⟩ := typed_str Tryd.underlying9 hb
  exact ⟨⟨s, t⟩, rfl⟩

theorem total_bulk : ∀ l : List Ed, total l ≤ D.bulkR (l.map encE)
  | [] => by simp [total]
  | e :: l => by
    have := total_bulk l
    simp only [total, List.map_cons, D.bulkR, encE, D.bulkC, D.bulk]; omega

theorem totC_bulk : ∀ l : List Chg, totC l ≤ D.bulkR (l.map encC)
  | [] => by simp [totC]
  | c :: l => by
    have := totC_bulk l
    have := total_bulk c.l
    simp only [totC, List.map_cons, D.bulkR, encC, D.bulkC, D.bulk]; omega

theorem arg_mods {n : Nat} {ds : List D} {a : A} (h : Typed Tryd.prog n 22 ds) (ha : ArgOf Tryd.prog 22 ds a) : ∃ z, ∃ l : List Mod, a = .d (.sl z 2 (l.map encM)) ∧ (l.length ≤ D.bulkC ds ∧ ∀ m ∈ l, m.n.length ≤ D.bulkC ds ∧ m.t.length ≤ D.bulkC ds) := by
  obtain ⟨z, l, rfl⟩ := typed_sl (sz := 2) Tryd.underlying22 (by kernel_rfl) ty41 h
  refine ⟨z, l, argOf_one (by rw [Tryd.underlying22]; simp) ha, ?_⟩
  have h1 := bulkR_len (enc := encM) (fun m => by simp only [encM, D.bulkC, D.bulk]; omega) l
  simp only [D.bulkC, D.bulk]
  refine ⟨by omega, fun m hm => ?_⟩
  have h2 := bulkR_mem (List.mem_map_of_mem (f := encM) hm)
  simp only [encM, D.bulkC, D.bulk] at h2
  omega

theorem arg_chgs {n : Nat} {ds : List D} {a : A} (h : Typed Tryd.prog n 23 ds) (ha : ArgOf Tryd.prog 23 ds a) : ∃ z, ∃ l : List Chg, a = .d (.sl z 2 (l.map encC)) ∧
    (l.length ≤ D.bulkC ds ∧ totC l ≤ D.bulkC ds ∧ ∀ c ∈ l, c.l.length ≤ D.bulkC ds ∧ ∀ e ∈ c.l, e.s.length ≤ D.bulkC ds) := by
  obtain ⟨z, l, rfl⟩ := typed_sl (sz := 2) Tryd.underlying23 (by kernel_rfl) ty28 h
  refine ⟨z, l, argOf_one (by rw [Tryd.underlying23]; simp) ha, ?_⟩
  have h1 := bulkR_len (enc := encC) (fun m => by simp only [encC, D.bulkC, D.bulk]; omega) l
  have h0 := totC_bulk l
  simp only [D.bulkC, D.bulk]
  refine ⟨by omega, by omega, fun c hc => ?_⟩
  have h4 := bulkR_mem (List.mem_map_of_mem (f := encC) hc)
  simp only [encC, D.bulkC, D.bulk] at h4
  have h5 := bulkR_len (enc := encE) (fun m => by simp only [encE, D.bulkC, D.bulk]; omega) c.l
  refine ⟨by omega, fun e he => ?_⟩
  have h6 := bulkR_mem (List.mem_map_of_mem (f := encE) he)
  simp only [encE, D.bulkC, D.bulk] at h6
  omega
end Go.Proofs.Zg
