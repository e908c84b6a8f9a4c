/-
  Texts of one proof, one behind the other: ValueAsks on the abstract machine: it answers true. How much comes in is bounded; the table of the powers of ten stands at the beginning. ValueTexts on the abstract machine: it answers true. How much comes in is bounded; the table of the powers of ten stands at the beginning.
-/
import Derived.Test.YtdhanghnffkckaaDoorM6
namespace Go.Proofs.Zv
open Go Go.Zam Go.Proofs
set_option maxRecDepth 100000
set_option linter.all false
set_option maxHeartbeats 1000000

theorem to_bulk (v : V) : v.to.bulk = v.bulk := by
  induction v using V.ind with
  | h k n s z ns y ps ih =>
  rw [V.to_mk]
  simp only [V.bulk] at ih
  simp only [V.bulk, V.enc_mk k, D.bulkC, D.bulk, bulkR_sum, List.map_map]
  simp only [Function.comp_apply]
  rw [List.map_congr_left ih]

theorem nums_of {Q : Int → Prop} (hQ : ∀ n : Int, -9223372036854775808 ≤ n ∧ n ≤ 9223372036854775807 → Q n) {b : Nat} (v : V) : v.Fit b → v.Nums Q := by
  induction v using V.ind with
  | h k n s z ns y ps ih =>
  rintro ⟨_, _, _, _, _, _, _, b1, b2, b3, bn, b4, b5⟩
  exact .mk _ _ _ _ _ _ _ (fun _ => hQ _ bn) (fun p hp => ih p hp (b5 p hp))

theorem fits_to (v : V) (tk : Int) (tns : List Str) (tl : Nat) : FitsV v.to tk tns tl = FitsV v tk tns tl := by
  cases v with | mk k n s z ns y ps => rw [V.to_mk]; rfl

/-- the part of a name, or none, once so many names were looked at -/
def wantV (ns : List Str) (ps : List V) (x : Str) (i : Nat) : V := if idxS ns x < i then ps.getD (idxS ns x) V.nil else V.nil

theorem want_self {ns : List Str} {ps : List V} {x : Str} {i : Nat} (hi : i < ns.length) (hp : i < ps.length) (hn : ns.Nodup) : (ns[i] = x → wantV ns ps x (i + 1) = ps[i] ∧ idxS ns x = i) ∧ (ns[i] ≠ x → wantV ns ps x (i + 1) = wantV ns ps x i ∧ (idxS ns x < i + 1 ↔ idxS ns x < i)) := by
  refine ⟨fun e => ?_, fun e => ?_⟩
  · have hx : idxS ns x = i := idxS_at (by rw [List.getElem?_eq_getElem hi, e]) (fun y hy q => by
      obtain ⟨j, hj, ej⟩ := List.getElem_of_mem hy
      rw [List.getElem_take] at ej
      have hji : j < i := by simp at hj; omega
      exact absurd (List.pairwise_iff_getElem.1 hn j i (by omega) hi hji) (by rw [ej, q, e]; simp))
    refine ⟨?_, hx⟩
    simp [wantV, hx, hp]
  · have hne : idxS ns x ≠ i := fun q => e (by
      have hm : x ∈ ns := idxS_lt.1 (by omega)
      have := idxS_get hm
      rw [q, List.getElem?_eq_getElem hi] at this
      exact Option.some.inj this)
    have h2 : idxS ns x < i + 1 ↔ idxS ns x < i := by omega
    exact ⟨by simp only [wantV, h2], h2⟩

theorem field_want (v : V) (k n : Int) (s : Str) (z : Bool) (ns : List Str) (y : Bool) (ps : List V) (e : v = .mk k n s z ns y ps) (hf : v.Fit 1048576) (hR : v.Right) (x : Str) : ∃ p : V, fieldV v.to x = (p, decide (idxS ns x < ns.length)) ∧ p.Fit 1048576 ∧ p.strip = (wantV ns ps x ns.length).strip := by
  subst e
  obtain ⟨g1, ⟨g2, g3⟩, g4, g5⟩ := (right_iff ..).1 hR
  obtain ⟨_, _, _, _, _, _, _, b1, b2, b3, bn, b4, b5⟩ := hf
  rw [V.to_mk]
  by_cases hk : k = 3
  case neg =>
    have h0 := g2 hk
    have : ns = [] := by cases ns with
      | nil => rfl
      | cons a r => simp at h0
    subst this
    exact ⟨V.nil, by simp [fieldV, hk], fit_nil _, by simp [wantV]⟩
  by_cases hi : idxS ns x < ns.length
  · have hp : idxS ns x < ps.length := by omega
    refine ⟨(ps[idxS ns x]).to, ?_, fit_to _ (b5 _ (List.getElem_mem hp)), ?_⟩
    · simp [fieldV, hk, hi, hp]
    · rw [V.to_strip]; simp [wantV, hi, hp]
  · exact ⟨V.nil, by simp [fieldV, hk, hi], fit_nil _, by simp [wantV, hi]⟩


theorem asksOk {H0 : Hp} (h0 : H0[0]? = some (.glob 0 (Lib.pow10Tab.map fun z => Value.int .u64 z))) (v w : V) (t : T) (x : Str) (hv : v.Fit 1048576) (hw : w.Fit 1048576) (ht : t.Fit 1048576) (hx : x.length ≤ 1048576) (hb : v.bulk ≤ 1048576) (H : Hp) (hH : Pre H0 H) :
    ACall Tryd.prog 7 [v.a, w.a, t.a, .d (.str x)] H (fun r H' => r = .d (.bool true) ∧ H' = H) := by
  refine acall_fin Tryd.func7 cf7 (by simp [ir7]) fun hcl _ => ?_
  have q1 := lightOk v hv
  have q2 := lightOk w hw
  have q3 := tlightOk t ht
  have q4 := trightOk t ht
  have q5 := toOk v hv
  have q6 := toOk w hw
  have q7 := rightOk v.to (fit_to v hv)
  have q8 := rrightOk v hv
  have q9 := sameOk v.to (fit_to v hv) w.to
  have q10 := rsameOk v hv w
  have q11 := fieldOk v.to x (fit_to v hv)
  have q12 := textOk (H0 := H0) v.to (fit_to v hv) (by rw [to_bulk]; exact hb) (nums_of (fun n hn => fmt_all h0 hn) _ (fit_to v hv))
  have q13 := fun hR => rtextOk v hv hb hR
  have htx : v.to.text = v.text := by simp only [V.text, V.to_strip]
  rw [htx] at q12
  cases t with | mk tk tz tns ty tps =>
  have q14 := fun h1 h2 => fitsOk v.to tk tz ty tns (tps.map T.enc) (fit_to v hv) h1 h2
  have q15 := fun h1 h2 => rfitsOk v tk tz ty tns (tps.map T.enc) hv h1 h2
  obtain ⟨_, _, _, _, _, t1, t2, t3, t4⟩ := ht
  have q14 := q14 t1 (by simpa using t2)
  have q15 := q15 t1 (by simpa using t2)
  rw [fits_to] at q14
  generalize @decide (FitsV v tk tns (tps.map T.enc).length) (Classical.propDecidable _) = fit at q14 q15
  rw [V.to_strip, V.to_strip] at q9
  generalize @decide (v.strip = w.strip) (Classical.propDecidable _) = eqs at q9 q10
  have hto : v.to.Right = v.Right := propext (to_right v)
  rw [hto] at q7
  have q16 := fun k n s z ns y ps e hR => field_want v k n s z ns y ps e hv hR x
  have hRn : v.Right → ∀ k n s z ns y ps, v = .mk k n s z ns y ps → ns.Nodup ∧ ns.length = ps.length ∧ ns.length ≤ 1048576 ∧ ∀ p ∈ ps, p.Fit 1048576 := fun hR k n s z ns y ps e => by
    subst e
    obtain ⟨g1, ⟨g2, g3⟩, g4, g5⟩ := (right_iff ..).1 hR
    obtain ⟨_, _, _, _, _, _, _, b1, b2, b3, bn, b4, b5⟩ := hv
    exact ⟨incr_nodup g4, g3, b2, b5⟩
  generalize hRv : v.Right = R at q7 q8 q13 q16 hRn
  generalize v.text = tx at q12 q13
  generalize v.to = vt at q5 q7 q9 q11 q12 q14 q16
  generalize w.to = wt at q6 q9
  cases v with | mk k n s z ns y ps =>
  cases w with | mk kw nw sw zw nsw yw psw =>
  cases vt with | mk kT nT sT zT nsT yT psT =>
  cases wt with | mk kU nU sU zU nsU yU psU =>
  simp only [V.a_mk, T.a_mk] at q1 q2 q3 q4 q5 q6 q7 q8 q9 q10 q11 q12 q13 q14 q15
  rw [V.a_mk, V.a_mk, T.a_mk]
  simp [ir7]
  refine CallK_of (q1 _) ?_
  rintro x1 H1 ⟨⟨c1, rfl⟩, rfl⟩
  cases c1 with
  | false =>
    simp
    refine CallK_of' (awakeOk _) ?_
    simp
    simp [RetK, cut_app hcl]
  | true =>
  simp
  refine CallK_of (q2 _) ?_
  rintro x1 H1 ⟨⟨c1, rfl⟩, rfl⟩
  cases c1 with
  | false =>
    simp
    refine CallK_of' (awakeOk _) ?_
    simp
    simp [RetK, cut_app hcl]
  | true =>
  simp
  refine CallK_of (q3 _) ?_
  rintro x1 H1 ⟨⟨c1, rfl⟩, rfl⟩
  cases c1 with
  | false =>
    simp
    refine CallK_of' (awakeOk _) ?_
    simp
    simp [RetK, cut_app hcl]
  | true =>
  simp
  refine CallK_of (q4 _) ?_
  rintro x1 H1 ⟨⟨c1, rfl⟩, rfl⟩
  cases c1 with
  | false =>
    simp
    refine CallK_of' (awakeOk _) ?_
    simp
    simp [RetK, cut_app hcl]
  | true =>
  by_cases hlen : (1000 : Int) < x.length
  case pos =>
    simp [hlen]
    refine CallK_of' (awakeOk _) ?_
    simp
    simp [RetK, cut_app hcl]
  simp [hlen]
  refine CallK_of' (q5 _) ?_
  simp
  refine CallD_of (q7 _) ?_
  simp
  refine CallD_of (q8 _) ?_
  simp
  refine CallD_of (q6 _) ?_
  simp
  refine CallD_of (q9 _) ?_
  simp
  refine CallD_of (q10 _) ?_
  simp
  refine CallK_of' (q8 _) ?_
  by_cases hR : R
  case neg =>
    simp [hR]
    refine CallK_of' (awakeOk _) ?_
    simp
    simp [RetK, cut_app hcl]
  simp [hR]
  obtain ⟨hnd, hnl, hn2, hpf⟩ := hRn hR _ _ _ _ _ _ _ rfl
  obtain ⟨p, hp, hpF, hps⟩ := q16 _ _ _ _ _ _ _ rfl hR
  rw [hp] at q11
  have q17 := fromOk p hpF
  have q18 : ∀ u : V, u.strip = p.strip → ∀ H, ACall Tryd.prog 14 [p.to.a, u.a] H (fun r H' => r = .d (.bool true) ∧ H' = H) := fun u e => rsame_true (fit_to p hpF) (by rw [V.to_strip, e])
  generalize p.to = pt at q17 q18
  generalize p.strip = pst at hps q18
  cases p with | mk kp np sp zp nsp yp psp =>
  cases pt with | mk kp' np' sp' zp' nsp' yp' psp' =>
  simp only [V.a_mk] at q11 q17
  refine CallK_of' (q11 _) ?_
  simp
  refine LoopK_outR 0 (fun fr H' => fr 3 = .d (.str x) ∧ fr 4 = .ptr H.length 0 ∧ fr 6 = .ptr (H.length + 2) 0 ∧ fr 9 = .ptr (H.length + 3) 0 ∧ fr 10 = .ptr (H.length + 4) 0 ∧ fr 11 = .d (.bool (decide (idxS ns x < ns.length))) ∧ fr 12 = .ptr (H.length + 5) 0 ∧ fr 13 = .d (.bool (decide (idxS ns x < ns.length))) ∧ ∃ u : V, u = wantV ns ps x ns.length ∧ H' = H ++ [Ob.box 25 [.d (.int .i64 k), .d (.int .i64 n), .d (.str s), .d (.sl z 1 (ns.map encS)), .d (.sl y 5 (ps.map V.enc))],
        Ob.box 25 [.d (.int .i64 kw), .d (.int .i64 nw), .d (.str sw), .d (.sl zw 1 (nsw.map encS)), .d (.sl yw 5 (psw.map V.enc))],
        Ob.box 55 [.d (.int .i64 tk), .d (.sl tz 1 (tns.map encStr)), .d (.sl ty 3 (tps.map T.enc))],
        Ob.box 30 [.d (.int .i64 kT), .d (.int .i64 nT), .d (.str sT), .d (.sl zT 1 (nsT.map encS)), .d (.sl yT 5 (psT.map V.enc))],
        Ob.box 30 [.d (.int .i64 kp), .d (.int .i64 np), .d (.str sp), .d (.sl zp 1 (nsp.map encS)), .d (.sl yp 5 (psp.map V.enc))],
        Ob.box 25 (u.enc.map .d)])
    (fun _ _ => False) ?_ (fun _ _ h => h.elim) ?_
  · refine RangeK_of (H.length + 6) ns.length (fun i fr H' => fr 3 = .d (.str x) ∧ fr 4 = .ptr H.length 0 ∧ fr 6 = .ptr (H.length + 2) 0 ∧ fr 9 = .ptr (H.length + 3) 0 ∧ fr 10 = .ptr (H.length + 4) 0 ∧ fr 11 = .d (.bool (decide (idxS ns x < ns.length))) ∧ fr 12 = .ptr (H.length + 5) 0 ∧ fr 13 = .d (.bool (decide (idxS ns x < i))) ∧ fr 69 = .d (.sl z 1 (ns.map encS)) ∧ ∃ u : V, u = wantV ns ps x i ∧ H' = H ++ [Ob.box 25 [.d (.int .i64 k), .d (.int .i64 n), .d (.str s), .d (.sl z 1 (ns.map encS)), .d (.sl y 5 (ps.map V.enc))],
        Ob.box 25 [.d (.int .i64 kw), .d (.int .i64 nw), .d (.str sw), .d (.sl zw 1 (nsw.map encS)), .d (.sl yw 5 (psw.map V.enc))],
        Ob.box 55 [.d (.int .i64 tk), .d (.sl tz 1 (tns.map encStr)), .d (.sl ty 3 (tps.map T.enc))],
        Ob.box 30 [.d (.int .i64 kT), .d (.int .i64 nT), .d (.str sT), .d (.sl zT 1 (nsT.map encS)), .d (.sl yT 5 (psT.map V.enc))],
        Ob.box 30 [.d (.int .i64 kp), .d (.int .i64 np), .d (.str sp), .d (.sl zp 1 (nsp.map encS)), .d (.sl yp 5 (psp.map V.enc))],
        Ob.box 25 (u.enc.map .d)]) (by omega) (by decide) (by simp) (by simp) ?_ ?_ ?_
    · simp [cut_appk hcl]
      simp [wantV, V.enc_nil]
    · rintro i fr H' hi f71 f70 ⟨f3, f4, f6, f9, f10, f11, f12, f13, f69, u, hu, rfl⟩
      have hip : i < ps.length := by omega
      have ra := rowAt_map encS hi
      have rb := rowAt_map V.enc hip
      obtain ⟨w1, w2⟩ := want_self (x := x) hi hip hnd
      generalize ns[i] = nm at ra w1 w2
      generalize ps[i] = pm at rb w1
      cases pm with | mk km nm' sm zm nsm ym psm =>
      cases u with | mk ku nu su zu nsu yu psu =>
      simp only [V.enc_mk, encS] at ra rb
      simp [f71, f69, f3, f4, ra, V.enc_mk]
      refine BrK_split (fun h => ?_) (fun h => ?_)
      · have e : nm = x := by simpa using h
        obtain ⟨e1, e2⟩ := w1 e
        simp [f4, f12, rb]
        refine NextK_of (H.length + 6) (by omega) (by simp [f71, f70]) ?_
        simp [f3, f4, f6, f9, f10, f11, f12, f69, cut_appk hcl, e1, e2, V.enc_mk]
      · have e : nm ≠ x := by simpa using h
        obtain ⟨e1, e2⟩ := w2 e
        simp
        refine NextK_of (H.length + 6) (by omega) (by simp [f71, f70]) ?_
        simp [f3, f4, f6, f9, f10, f11, f12, f13, f69, cut_appk hcl, e1, e2]
        simp [← hu, V.enc_mk]
    · rintro fr H' f71 f70 ⟨f3, f4, f6, f9, f10, f11, f12, f13, f69, u, hu, rfl⟩
      simp [f3, f4, f6, f9, f10, f11, f12, f13, hu]
  rintro fr H' ⟨f3, f4, f6, f9, f10, f11, f12, f13, u, hu, rfl⟩
  have q19 := q18 u (by rw [hu, hps])
  cases u with | mk ku nu su zu nsu yu psu =>
  simp only [V.a_mk] at q19
  simp
  refine CallD_of (awakeOk _) ?_
  simp [f9, V.enc_mk]
  refine CallD_of (q12 _ (hH.app _)) ?_
  simp [f4, f9]
  refine CallD_of (q13 hR _) ?_
  simp [f9, f6]
  refine CallD_of (q14 _) ?_
  simp [f4, f6]
  refine CallD_of (q15 _) ?_
  simp [f11, f13, f10]
  refine CallD_of (q17 _) ?_
  simp [f12]
  refine CallD_of (q19 _) ?_
  simp
  simp [RetK, cut_app hcl]

end Go.Proofs.Zv

namespace Go.Proofs.Zv
open Go Go.Zam Go.Proofs
set_option maxRecDepth 100000
set_option linter.all false
set_option maxHeartbeats 1000000

theorem namedOk' (v : V) : v.Fit 1048576 → v.Right → ∀ H, ACall Tryd.prog 10 [v.a] H (fun r H' => r = .d (.bool (@decide v.strip.Nd (Classical.propDecidable _))) ∧ H' = H) := by
  induction v using V.ind with
  | h k n s z ns y ps ih =>
  intro hf hR H
  obtain ⟨_, _, _, _, _, _, _, b1, b2, b3, bn, b4, b5⟩ := hf
  refine acall_fin Tryd.func10 cf10 (by simp [ir10]) fun hcl _ => ?_
  obtain ⟨-, ⟨-, hl⟩, -, hA⟩ := (right_iff ..).1 hR
  have hh : (V.mk k n s z ns y ps).strip.Nd ↔ (∀ x ∈ ns, isNameB x = true) ∧ ∀ p ∈ ps, p.strip.Nd := by
    rw [V.strip_mk, und_mk]
    refine and_congr Iff.rfl ⟨fun h p hp => h _ (List.mem_map_of_mem hp), ?_⟩
    rintro h q hq
    obtain ⟨p, hp, rfl⟩ := List.mem_map.1 hq
    exact h p hp
  rw [V.a_mk]
  generalize (V.mk k n s z ns y ps).strip.Nd = HH at hh
  simp [ir10]
  refine LoopK_outR 0 (fun fr H' => HH ∧ ∃ X, H' = H ++ X) (fun fr H' => fr 2 = .d (.bool false) ∧ ¬ HH ∧ ∃ X, H' = H ++ X) ?_ ?_ ?_
  · refine RangeK_of (H.length + 1) ns.length (fun i fr H' => fr 1 = .ptr H.length 0 ∧ fr 6 = .d (.sl z 1 (ns.map encS)) ∧ (∀ x ∈ ns.take i, isNameB x = true) ∧ (∀ p ∈ ps.take i, p.strip.Nd) ∧ H' = H ++ [.box 25 [.d (.int .i64 k), .d (.int .i64 n), .d (.str s), .d (.sl z 1 (ns.map encS)), .d (.sl y 5 (ps.map V.enc))]]) (by omega) (by decide) (by simp) (by simp) ?_ ?_ ?_
    · simp [cut_appk hcl]
    · rintro i fr H' hi f8 f7 ⟨f1, f6, hn, hp, rfl⟩
      have hip : i < ps.length := by omega
      have ra := rowAt_map encS hi
      have rb := rowAt_map V.enc hip
      have hm := List.getElem_mem hip
      have hmn := List.getElem_mem hi
      have hx := ih ps[i] hm (b5 _ hm) (hA _ hm)
      have tn : ns.take (i + 1) = ns.take i ++ [ns[i]] := List.take_succ_eq_append_getElem hi
      have tp : ps.take (i + 1) = ps.take i ++ [ps[i]] := List.take_succ_eq_append_getElem hip
      generalize ns[i] = nm at ra tn hmn
      generalize ps[i] = p at rb hx tp hm
      have hbad : ¬ p.strip.Nd → ¬ HH := fun h q => h ((hh.1 q).2 p hm)
      have hbad2 : ¬ isNameB nm = true → ¬ HH := fun h q => h ((hh.1 q).1 nm hmn)
      generalize hP : p.strip.Nd = PP at hx hbad
      cases p with | mk k' n' s' z' ns' y' ps' =>
      simp only [V.a_mk, V.enc_mk, encS] at ra rb hx
      simp [f8, f6, ra, f1]
      refine CallK_of' (isNameOk _ _) ?_
      cases e : isNameB nm with
      | false =>
        simp
        exact hbad2 (by simp [e])
      | true =>
        simp [f1, rb]
        refine CallK_of' (hx _) ?_
        by_cases hb : PP
        · simp [hb]
          refine NextK_of (H.length + 1) (Nat.le_refl _) (by simp [f8, f7]) ?_
          simp [f1, f6, cut_appk hcl, tn, tp]
          refine ⟨fun q hq => ?_, fun q hq => ?_⟩
          · rcases hq with hq | rfl
            · exact hn q hq
            · exact e
          · rcases hq with hq | rfl
            · exact hp q hq
            · rw [hP]; exact hb
        · simp [hb]
          exact hbad hb
    · rintro fr H' f8 f7 ⟨f1, f6, hn, hp, rfl⟩
      rw [List.take_of_length_le (Nat.le_refl _)] at hn
      rw [hl, List.take_of_length_le (Nat.le_refl _)] at hp
      simp
      exact hh.2 ⟨hn, hp⟩
  · rintro fr H' ⟨f4, hH, X, rfl⟩
    simp
    simp [RetK, cut_app hcl, f4, hH]
  · rintro fr H' ⟨hH, X, rfl⟩
    simp
    simp [RetK, cut_app hcl, hH]

theorem textsOk {H0 : Hp} (h0 : H0[0]? = some (.glob 0 (Lib.pow10Tab.map fun z => Value.int .u64 z))) (v w : V) (hv : v.Fit 1048576) (hw : w.Fit 1048576) (hb : v.bulk ≤ 1048576) (hbw : w.bulk ≤ 1048576) (H : Hp) (hH : Pre H0 H) :
    ACall Tryd.prog 3 [v.a, w.a] H (fun r H' => r = .d (.bool true) ∧ H' = H) := by
  refine acall_fin Tryd.func3 cf3 (by simp [ir3]) fun hcl _ => ?_
  have q1 := lightOk v hv
  have q2 := lightOk w hw
  have q3 := rrightOk v hv
  have q4 := rrightOk w hw
  have q5 := toOk v hv
  have q6 := toOk w hw
  have q7 := fun hR => namedOk' v hv hR
  have q8 := fun hR => namedOk' w hw hR
  have q9 := rsameOk v hv w
  have q10 := textOk (H0 := H0) v.to (fit_to v hv) (by rw [to_bulk]; exact hb) (nums_of (fun n hn => fmt_all h0 hn) _ (fit_to v hv))
  have q11 := textOk (H0 := H0) w.to (fit_to w hw) (by rw [to_bulk]; exact hbw) (nums_of (fun n hn => fmt_all h0 hn) _ (fit_to w hw))
  have htv : v.to.text = v.text := by simp only [V.text, V.to_strip]
  have htw : w.to.text = w.text := by simp only [V.text, V.to_strip]
  rw [htv] at q10
  rw [htw] at q11
  have hts : v.Right → w.Right → v.strip.Nd → w.strip.Nd → (v.text = w.text ↔ v.strip = w.strip) := fun a b c d => text_same ((right_strip v).2 a) c ((right_strip w).2 b) d
  generalize v.text = tv at q10 hts
  generalize w.text = tw at q11 hts
  generalize v.Right = R1 at q3 q7 hts
  generalize w.Right = R2 at q4 q8 hts
  generalize v.strip.Nd = N1 at q7 hts
  generalize w.strip.Nd = N2 at q8 hts
  generalize hSS : (v.strip = w.strip) = SS at q9 hts
  generalize v.to = vt at q5 q10
  generalize w.to = wt at q6 q11
  cases v with | mk k n s z ns y ps =>
  cases w with | mk kw nw sw zw nsw yw psw =>
  cases vt with | mk kT nT sT zT nsT yT psT =>
  cases wt with | mk kU nU sU zU nsU yU psU =>
  simp only [V.a_mk] at q1 q2 q3 q4 q5 q6 q7 q8 q9 q10 q11
  rw [V.a_mk, V.a_mk]
  simp [ir3]
  refine CallK_of (q1 _) ?_
  rintro x1 H1 ⟨⟨c1, rfl⟩, rfl⟩
  cases c1 with
  | false =>
    simp
    refine CallK_of' (awakeOk _) ?_
    simp
    simp [RetK, cut_app hcl]
  | true =>
  simp
  refine CallK_of (q2 _) ?_
  rintro x1 H1 ⟨⟨c1, rfl⟩, rfl⟩
  cases c1 with
  | false =>
    simp
    refine CallK_of' (awakeOk _) ?_
    simp
    simp [RetK, cut_app hcl]
  | true =>
  simp
  refine CallK_of' (q3 _) ?_
  by_cases hR1 : R1
  case neg =>
    simp [hR1]
    refine CallK_of' (awakeOk _) ?_
    simp
    simp [RetK, cut_app hcl]
  simp [hR1]
  refine CallK_of' (q4 _) ?_
  by_cases hR2 : R2
  case neg =>
    simp [hR2]
    refine CallK_of' (awakeOk _) ?_
    simp
    simp [RetK, cut_app hcl]
  simp [hR2]
  refine CallK_of' (q7 hR1 _) ?_
  by_cases hN1 : N1
  case neg =>
    simp [hN1]
    refine CallK_of' (awakeOk _) ?_
    simp
    simp [RetK, cut_app hcl]
  simp [hN1]
  refine CallK_of' (q8 hR2 _) ?_
  by_cases hN2 : N2
  case neg =>
    simp [hN2]
    refine CallK_of' (awakeOk _) ?_
    simp
    simp [RetK, cut_app hcl]
  simp [hN2]
  have hts := hts hR1 hR2 hN1 hN2
  refine CallD_of (awakeOk _) ?_
  simp
  refine CallD_of (q5 _) ?_
  simp
  refine CallD_of (q10 _ (hH.app _)) ?_
  simp
  refine CallD_of (q6 _) ?_
  simp
  refine CallD_of (q11 _ (hH.app _)) ?_
  simp
  refine CallD_of (q9 _) ?_
  by_cases hSS : SS
  · have e : tv = tw := hts.2 hSS
    simp [hSS, e]
    simp [RetK, cut_app hcl]
  · have e : ¬ tv = tw := fun q => hSS (hts.1 q)
    simp [hSS, e]
    simp [RetK, cut_app hcl]

end Go.Proofs.Zv
