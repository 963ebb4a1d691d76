/- Lemmas and contracts for the proof of a statement of this seat. -/
import Derived.Test.YtebnpnkcoibooaaGreatDoorZCQ
import Derived.Test.YtebnpnkcoibooaaGreatDoorZA6
set_option linter.unusedVariables false
set_option linter.unusedSimpArgs false
/- Contracts: package inspect: the kinds of findings, and the plan of a circuit. -/
namespace Go.Am
open Go Go.Proofs Go.Pn

@[simp] theorem isFuncRule : isFuncT Go.Proofs.Tryz.prog 161 = true := by kernel_rfl

/-- The rule of a kind, as the program keeps it. -/
def ruleN (k : Nat) : Nat := if k ≤ 2 then 208 else if k = 3 then 152 else if k = 4 then 154 else if k = 5 then 155 else if k = 6 then 156 else 157
def ruleCap (k : Nat) : List AV := if k = 1 then [.iptr 1 [[.int .i64 3]] 0 0] else if k = 2 then [.iptr 1 [[.int .i64 4]] 0 0] else []
def kindCell (k : Nat) : List AV := [.p (.str (wordAt k)), if k = 0 then .p .nilf else .fn (.func (ruleN k)) (ruleCap k)]
def kindsA : List AV := (List.range 8).flatMap kindCell
theorem kinds_at {k : Nat} (h : k < 8) : (kindsA.drop (k * 2)).take 2 = kindCell k ∧ k * 2 + 2 ≤ kindsA.length := by
  obtain rfl | rfl | rfl | rfl | rfl | rfl | rfl | rfl : k = 0 ∨ k = 1 ∨ k = 2 ∨ k = 3 ∨ k = 4 ∨ k = 5 ∨ k = 6 ∨ k = 7 := by omega
  all_goals exact ⟨rfl, by decide⟩
theorem ruleCap_pure {k : Nat} : pureL (ruleCap k) = true := by
  unfold ruleCap
  split
  · rfl
  · split <;> rfl
theorem rule_ok {c : Circuit} {k : Nat} {l : List Port} {p : Port} (h : 1 ≤ k ∧ k ≤ 7) (hk : kindsOk c) (hl : l.length < 100000) (hp : p ∈ allP c) (ha : ∀ q ∈ l, q ∈ allP c) (hm : p ∈ l) :
    Pure Go.Proofs.Tryz.prog GL (ruleN k) ([c.av, .p (.lst 2 (l.map Port.enc)), p.av] ++ ruleCap k) (.p (.bool (ruleB c k l p))) := by
  obtain ⟨h1, h7⟩ := h
  obtain rfl | rfl | rfl | rfl | rfl | rfl | rfl : k = 1 ∨ k = 2 ∨ k = 3 ∨ k = 4 ∨ k = 5 ∨ k = 6 ∨ k = 7 := by omega
  · exact c_inspect_lonely_1 c l p 3 hk hl hp
  · exact c_inspect_lonely_1 c l p 4 hk hl hp
  · exact c_inspect_kinds_1 c l p hk hl hp ha
  · exact c_inspect_kinds_2 c l p hk hl hp ha hm
  · exact c_inspect_kinds_3 c l p hk hl hp ha
  · exact c_inspect_kinds_4 c l p hk hl hp
  · exact c_inspect_kinds_5 c l p hk hl hp

@[simp] theorem toV_iptr {s : Store} {k i j : Nat} {rows : List (List PV)} : toV s (.iptr k rows i j) (.iptr k rows i j) = True := eq_true (toV_refl _ rfl)

set_option maxRecDepth 20000 in
theorem c_inspect_kinds (_ : Unit) : Pure Go.Proofs.Tryz.prog GL 96 [] (.agg kindsA) := by
  refine Pure.of_walk (N := 12) Go.Proofs.Tryz.func96 rfl rfl rfl (by simp) (by first | (simp; done) | simp [*]) ?_
  have h1 := c_inspect_lonely 3
  have h2 := c_inspect_lonely 4
  simp
  refine xcall_pure h1 ?_
  simp
  refine xcall_pure h2 ?_
  simp [XEndT, kindsA, kindCell, ruleN, ruleCap, wordAt, wordsL, List.range, List.range.loop]

/- ## the plan -/
theorem around_rt {c : Circuit} {p : Port} : around c p = (allP c).filter fun q => decide (rt c q = rt c p) := by
  unfold around
  apply List.filter_congr
  intro q _
  rw [decide_eq_decide, closure_iff, ← rt_iff]
  exact eq_comm
theorem net_around {c : Circuit} (h : checkP c = 0) {g : List Port} (hg : g ∈ nets c) {p : Port} (hp : p ∈ g) : g = around c p := by
  rw [nets_rt h] at hg
  obtain ⟨r, _, rfl⟩ := List.mem_map.1 hg
  have : rt c p = r := by simpa using (List.mem_filter.1 hp).2
  rw [around_rt, this]

def netNo (c : Circuit) (n : Nat) : List Port := (nets c)[n]?.getD []
def netsA (c : Circuit) (es : List (Port × Nat)) : List (AV × AV) := es.map fun e => (e.1.av, .p (.lst 2 ((netNo c e.2).map Port.enc)))
def planKs (c : Circuit) : List AV := (pairs c).map fun e => e.1.av
def planVs (c : Circuit) : List AV := (pairs c).map fun e => .p (.lst 2 ((netNo c e.2).map Port.enc))
def planAV (c : Circuit) : AV := .agg [.p (.lst 3 (c.parts.map Part.enc)), .p (.lst 4 (c.pipes.map Pipe.enc)), .p (.lst 2 ((allP c).map Port.enc)), .pmap (planKs c) (planVs c)]
theorem plan_zip {c : Circuit} : (planKs c).zip (planVs c) = netsA c (pairs c) := by
  unfold planKs planVs netsA
  rw [List.zip_map']
theorem netsA_pure {c : Circuit} {ρ : List Nat} {es : List (Port × Nat)} : renE ρ (netsA c es) = some (netsA c es) := by
  unfold netsA
  induction es with
  | nil => rfl
  | cons e es ih => simp only [List.map_cons, renE, ih]; rfl
theorem assoc_netsA {c : Circuit} {es : List (Port × Nat)} {p : Port} : assocA (netsA c es) p.av = (findP es p).map fun (n : Nat) => AV.p (.lst 2 ((netNo c n).map Port.enc)) := by
  induction es with
  | nil => simp [netsA, assocA, findP]
  | cons e es ih =>
    obtain ⟨a, b⟩ := e
    simp only [netsA, List.map_cons, findP] at ih ⊢
    by_cases h : a = p
    · subst h
      simp [assocA]
    · have hne : a.av ≠ p.av := fun h2 => h (portAv_inj h2)
      rw [if_neg h, ← ih]
      unfold assocA
      rw [List.find?_cons_of_neg (by simpa using hne)]
theorem set_netsA {c : Circuit} {es : List (Port × Nat)} {p : Port} {n : Nat} (h : findP es p = none) : setA (netsA c es) (.agg [.p (.int .i64 p.part), .p (.str p.name)]) (.p (.lst 2 ((netNo c n).map Port.enc))) = netsA c (es ++ [(p, n)]) := by
  rw [setA_none]
  · simp [netsA]
  · intro e he
    obtain ⟨q, hq, rfl⟩ := List.mem_map.1 he
    intro h2
    have : q.1 = p := portAv_inj h2
    exact findP_none (n := q.2) (by rw [← this]; exact hq) h
@[simp] theorem keys_netsA {c : Circuit} {es : List (Port × Nat)} {i : Int} {s : Txt} : KeysIn Go.Proofs.Tryz.prog 28 (netsA c es) (.agg [.p (.int .i64 i), .p (.str s)]) = True := eq_true (keysIn_map (f := Prod.fst) (p := ⟨i, s⟩))
@[simp] theorem keys_plan {c : Circuit} {i : Int} {s : Txt} : KeysIn Go.Proofs.Tryz.prog 28 ((planKs c).zip (planVs c)) (.agg [.p (.int .i64 i), .p (.str s)]) = True := by rw [plan_zip, keys_netsA]
@[simp] theorem zsPorts : zeroShape Go.Proofs.Tryz.prog 47 = some false := by kernel_rfl
theorem look_plan {c : Circuit} (h : checkP c = 0) {i : Int} {s : Txt} (hp : (⟨i, s⟩ : Port) ∈ allP c) : assocA ((planKs c).zip (planVs c)) (.agg [.p (.int .i64 i), .p (.str s)]) = some (.p (.lst 2 ((around c ⟨i, s⟩).map Port.enc))) := by
  rw [plan_zip]
  have := assoc_netsA (c := c) (es := pairs c) (p := ⟨i, s⟩)
  rw [find_pairs h hp] at this
  have hn : netNo c (netN c i s) = around c ⟨i, s⟩ := by
    obtain ⟨g, e, hg⟩ := net_has h hp
    unfold netNo
    rw [e]
    exact net_around h (List.mem_of_getElem? e) hg
  simp only [Option.map_some] at this
  rw [hn] at this
  exact this
theorem pairs_keys {c : Circuit} (h : checkP c = 0) : ∀ k, ((pairsUp c k).map Prod.fst).Nodup
  | 0 => by simp [pairsUp]
  | k + 1 => by
    simp only [pairsUp, List.map_append, List.nodup_append]
    refine ⟨pairs_keys h k, ?_, ?_⟩
    · split
      · rename_i g e
        rw [List.map_map]
        have : (g.map (Prod.fst ∘ fun x => (x, k))) = g := by
          have e2 : (Prod.fst ∘ fun x : Port => (x, k)) = id := rfl
          rw [e2, List.map_id]
        rw [this]
        exact nets_nodup h (List.mem_of_getElem? e)
      · simp
    · intro a ha b hb hab
      subst hab
      obtain ⟨⟨a', n⟩, hm, rfl⟩ := List.mem_map.1 ha
      obtain ⟨hn, g, eg, hg⟩ := pairsUp_mem.1 hm
      split at hb
      · rename_i g' e'
        rw [List.map_map] at hb
        obtain ⟨b', hb', e2⟩ := List.mem_map.1 hb
        simp only [Function.comp] at e2
        subst e2
        have h1 := (netP_of h eg hg).1
        have h2 := (netP_of h e' hb').1
        omega
      · cases hb
theorem plan_nodup {c : Circuit} (h : checkP c = 0) : (planKs c).Nodup := by
  have := pairs_keys h (nets c).length
  unfold planKs
  have e : (pairs c).map (fun e => e.1.av) = ((pairs c).map Prod.fst).map Port.av := by rw [List.map_map]; rfl
  rw [e]
  exact List.Pairwise.map _ (fun a b hab hh => hab (portAv_inj hh)) this
theorem plan_pure {c : Circuit} : pureE (netsA c (pairs c)) = true := by
  rw [pureE_iff]
  intro e he
  obtain ⟨q, _, rfl⟩ := List.mem_map.1 he
  exact ⟨rfl, rfl⟩

/-- What 'planned' gives. -/
def planR (c : Circuit) : AV := if checkP c = 0 then planAV c else .agg [.p (.lst 3 []), .p (.lst 4 []), .p (.lst 2 []), .nilm]

set_option maxRecDepth 20000 in
theorem c_inspect_planned (c : Circuit) (hs : Sized c) : Pure Go.Proofs.Tryz.prog GL 93 [c.av] (.tup [planR c, .p (.int .i64 (checkP c))]) := by
  refine Pure.of_walk (N := 52) Go.Proofs.Tryz.func93 rfl rfl rfl (by simp) (by first | (simp; done) | simp [*]) ?_
  have hPo := c_circuit_Ports c hs
  have hNe := c_circuit_Nets c hs
  simp
  by_cases h : checkP c = 0
  · have h2 := check_parts h
    have hal := allP_len h2.1 (by omega)
    have hnl := netsL h
    rw [if_neg (by simpa using h), h] at hPo hNe
    have hR : planR c = planAV c := if_pos h
    rw [hR, h]
    refine xcall_pure hPo ?_
    simp
    refine xcall_pure hNe ?_
    simp
    refine XLoop.go [1, 2, 4, 7, 31, 32] [0, 1] 0 [] (fun _ => []) (fun _ (k : Nat) => [(33, .p (.int .i64 k))]) (fun _ k => [(2, some (.map (netsA c (pairsUp c k))))]) (fun k => k ≤ (nets c).length) (fun k => (nets c).length - k) 0 (by omega) ?_ ?_
    · simp [pairsUp, netsA]
      try decide
    · intro k hk
      simp
      refine xif_split (fun h3 => ?_) (fun h3 => ?_)
      · simp at h3
        obtain ⟨g, eg⟩ := get_lt h3
        have hgl := hnl.2 g (List.mem_of_getElem? eg)
        have hall := pairsIn_all eg
        have hgn : netNo c k = g := by unfold netNo; rw [eg]; rfl
        simp [h3, eg, Ports.enc, -getElem?_pos, List.getElem?_cons_zero, List.getElem?_cons_succ]
        refine XLoop.go [1, 2, 4, 7, 9, 31, 32, 33, 37, 38] [0, 1] 0 [] (fun _ => []) (fun _ (j : Nat) => [(39, .p (.int .i64 j))]) (fun _ j => [(2, some (.map (netsA c (pairsIn c k g j))))]) (fun j => j ≤ g.length) (fun j => g.length - j) 0 (by omega) ?_ ?_
        · simp [pairsIn_zero, netsA_pure]
          try decide
        · intro j hj
          simp
          refine xif_split (fun h4 => ?_) (fun h4 => ?_)
          · simp at h4
            obtain ⟨p, ep⟩ := get_lt h4
            have hfr := pairs_fresh h eg ep
            have hsn := pairsIn_snoc (c := c) (k := k) ep
            have hset := set_netsA (c := c) (n := k) hfr
            rw [hgn] at hset
            simp [h4, ep, -getElem?_pos, List.getElem?_cons_zero, List.getElem?_cons_succ]
            refine ⟨wrap_i64 (by omega) (by omega), j + 1, by omega, by omega, ?_⟩
            simp [hset, hsn, netsA_pure]
            try decide
          · simp at h4
            have hjl : j = g.length := by omega
            subst hjl
            simp
            refine ⟨wrap_i64 (by omega) (by omega), k + 1, by omega, by omega, ?_⟩
            simp [hall, netsA_pure]
            try decide
      · simp at h3
        have hkl : k = (nets c).length := by omega
        subst hkl
        have hpe : pairsUp c (nets c).length = pairs c := rfl
        rw [hpe]
        simp [XEndT, planAV]
        exact ⟨plan_pure, by simp [planKs, planVs], plan_nodup h, by rw [plan_zip]⟩
  · rw [if_pos h] at hPo
    have hR : planR c = .agg [.p (.lst 3 []), .p (.lst 4 []), .p (.lst 2 []), .nilm] := if_neg h
    rw [hR]
    refine xcall_pure hPo ?_
    simp [h]
    simp [XEndT]

end Go.Am
/- Contracts: package inspect: Findings, Text, Givers, Takers. -/
namespace Go.Am
open Go Go.Proofs Go.Pn


/-- The findings of the first kinds, as the program finds them: the kind 0 first, without a rule. -/
def allG (c : Circuit) : Nat → List Fnd
  | 0 => headF c
  | k + 1 => if k = 0 then headF c else allG c k ++ findsT c k (allP c)
theorem allG_allF {c : Circuit} : ∀ k, allG c (k + 1) = allF c k
  | 0 => rfl
  | k + 1 => by
    rw [allG, if_neg (by omega), allG_allF k, allF]
theorem allG_len {c : Circuit} {k : Nat} : (allG c k).length ≤ 1 + k * (allP c).length := by
  cases k with
  | zero => unfold allG headF; split <;> simp
  | succ k =>
    rw [allG_allF]
    have := @allF_len c k
    have : k * (allP c).length ≤ (k + 1) * (allP c).length := Nat.mul_le_mul_right _ (by omega)
    omega

theorem c_ConF_Part (xs : List Part) (q : Part → Bool) (m : Nat) (cap : List AV) (hcap : pureL cap = true) (hl : xs.length < 4611686018427387904) (hq : ∀ x ∈ xs, Pure Go.Proofs.Tryz.prog GL m ((Part.av x) :: cap) (.p (.bool (q x)))) : Pure Go.Proofs.Tryz.prog GL 94 [.p (.lst 3 (xs.map Part.enc)), .fn (.func m) cap] (.p (.bool (xs.any q))) := by
  refine Pure.of_walk (N := 9) Go.Proofs.Tryz.func94 rfl rfl rfl (by simp) (by first | (simp; done) | simp [*]) ?_
  simp
  refine xcall_pure (c_IdxF_Part xs q m cap hcap hl hq) ?_
  simp [XEndT]
  rw [Bool.eq_iff_iff]
  simp [idxI_nonneg]


theorem c_inspect_Findings_1 (q : Part) : Pure Go.Proofs.Tryz.prog GL 95 [q.av] (.p (.bool (decide (q.kind = 0)))) := by
  refine Pure.of_walk (N := 6) Go.Proofs.Tryz.func95 rfl rfl rfl (by simp) (by first | (simp; done) | simp [*]) ?_
  simp [XEndT]

@[simp] theorem kindsA_ren {ρ : List Nat} : renL ρ kindsA = some kindsA := renA_pure.2 _ (by decide)
@[simp] theorem ruleCap_ren {ρ : List Nat} {k : Nat} : renL ρ (ruleCap k) = some (ruleCap k) := renA_pure.2 _ ruleCap_pure


set_option maxRecDepth 20000 in
theorem c_inspect_Findings (c : Circuit) (hs : Sized c) : Pure Go.Proofs.Tryz.prog GL 41 [c.av] (.tup [.p (.lst 3 ((if checkP c = 0 then findingsL c else []).map Fnd.enc)), .p (.int .i64 (checkP c))]) := by
  refine Pure.of_walk (N := 68) Go.Proofs.Tryz.func41 rfl rfl rfl (by simp) (by first | (simp; done) | simp [*]) ?_
  have hPl := c_inspect_planned c hs
  simp
  refine xcall_pure hPl ?_
  by_cases h : checkP c = 0
  · have h2 := check_parts h
    have hR : planR c = planAV c := if_pos h
    have hal := allP_len h2.1 (by omega)
    have hch := h
    have hkk := h2.1
    have hhead : headF c = if supB c then [] else [⟨0, ⟨0, []⟩⟩] := rfl
    have hcf := c_ConF_Part c.parts (fun q => decide (q.kind = 0)) 95 [] rfl (by omega) (fun q _ => c_inspect_Findings_1 q)
    rw [hR, h, if_pos rfl]
    by_cases hn0 : c.parts.length = 0
    · have hsup : supB c = true := by unfold supB; simp [hn0]
      rw [hsup, if_pos rfl] at hhead
      simp [planAV, hn0]
      refine xcall_pure (c_inspect_kinds ()) ?_
      simp
      refine XLoop.go [1, 4, 33] [0, 1] 1 [2] (nms [6]) (fun nx (k : Nat) => [(6, .acc nx 3 (allG c k).length), (34, .p (.int .i64 k))]) (fun nx k => [(nx, accB 3 ((allG c k).map Fnd.row))]) (fun k => k ≤ 8) (fun k => 8 - k) 0 (by omega) ?_ ?_
      · simp [allG, hhead]
        try decide
      · intro k hk8
        have hlen := @allG_len c k
        have hb8 : k * (allP c).length ≤ 8 * 1200 := Nat.mul_le_mul hk8 hal
        have hend : k = 8 → allG c k = findingsL c := fun e => by rw [e, allG_allF]; rfl
        have hsucc : allG c (k + 1) = if k = 0 then headF c else allG c k ++ findsT c k (allP c) := rfl
        have hz : k = 0 → allG c k = headF c := fun e => by rw [e]; rfl
        generalize allG c k = A at hlen hsucc hend hz
        simp
        refine xif_split (fun h => ?_) (fun h => ?_)
        · simp at h
          obtain ⟨hki, hkl⟩ := kinds_at (k := k) (by omega)
          by_cases hk0 : k = 0
          · have hkc : kindCell k = [.p (.str (wordAt k)), .p .nilf] := by unfold kindCell; rw [if_pos hk0]
            have hs2 : allG c (k + 1) = A := by rw [hsucc, if_pos hk0, hz hk0]
            rw [hkc] at hki
            simp [hki]
            refine ⟨by omega, by omega, ?_⟩
            refine XLoop.gor [1, 4, 7, 8, 33, 34, 39, 40] [0, 1, 3] [0, 1, 2, 3] (fun st => [0, 1, nameOf (slot st.t 6), 3]) (fun (i : Nat) => [(6, .acc 2 3 A.length), (41, .p (.int .i64 i))]) (fun i => [(2, accB 3 (A.map Fnd.row))]) (fun i => i ≤ (allP c).length) (fun i => (allP c).length - i) 0 (by omega) ?_ ?_
            · simp
              try decide
            · intro i hi
              simp
              refine xif_split (fun h2 => ?_) (fun h2 => ?_)
              · simp at h2
                obtain ⟨p, ep⟩ := get_lt h2
                simp [h2, ep, -getElem?_pos, List.getElem?_cons_zero, List.getElem?_cons_succ]
                refine XDraw.intro (by kernel_rfl) ?_
                simp
                refine ⟨.of (by kernel_rfl), ?_⟩
                refine ⟨wrap_i64 (by omega) (by omega), i + 1, by omega, by omega, ?_⟩
                simp
                try decide
              · simp
                refine ⟨wrap_i64 (by omega) (by omega), k + 1, by omega, by omega, ?_⟩
                simp [hs2]
                try decide
          · have hkc : kindCell k = [.p (.str (wordAt k)), .fn (.func (ruleN k)) (ruleCap k)] := by unfold kindCell; rw [if_neg hk0]
            have hs2 : allG c (k + 1) = A ++ findsT c k (allP c) := by rw [hsucc, if_neg hk0]
            have hlen2 : A.length ≤ 9601 := by omega
            rw [hkc] at hki
            simp [hki]
            refine ⟨by omega, by omega, ?_⟩
            refine XLoop.gor [1, 4, 7, 8, 33, 34, 39, 40] [0, 1, 3] [0, 1, 2, 3] (fun st => [0, 1, nameOf (slot st.t 6), 3]) (fun (i : Nat) => [(6, .acc 2 3 (A ++ findsT c k ((allP c).take i)).length), (41, .p (.int .i64 i))]) (fun i => [(2, accB 3 ((A ++ findsT c k ((allP c).take i)).map Fnd.row))]) (fun i => i ≤ (allP c).length) (fun i => (allP c).length - i) 0 (by omega) ?_ ?_
            · simp [findsT_nil]
              try decide
            · intro i hi
              have hl2 := @findsT_len c k ((allP c).take i)
              have hl3 := List.length_take_le i (allP c)
              have hsn := @findsT_snoc c k (allP c) i
              have hfin : i = (allP c).length → findsT c k ((allP c).take i) = findsT c k (allP c) := fun e => by rw [e, List.take_length]
              generalize findsT c k ((allP c).take i) = T at hl2 hsn hfin
              simp
              refine xif_split (fun h2 => ?_) (fun h2 => ?_)
              · simp at h2
                obtain ⟨p, ep⟩ := get_lt h2
                have hp := List.mem_of_getElem? ep
                have hsn2 := hsn ep
                have har := @around_len c p
                have hrule := rule_ok (c := c) (k := k) (l := around c p) (p := p) (by omega) hkk (by omega) hp (fun q hq => (List.mem_filter.1 hq).1) (around_self hp)
                have hlk := look_plan hch (i := p.part) (s := p.name) hp
                have hfb : foundB c k p = ruleB c k (around c p) p := rfl
                rw [← hfb] at hrule
                simp [h2, ep, -getElem?_pos, List.getElem?_cons_zero, List.getElem?_cons_succ]
                refine XDraw.intro (by kernel_rfl) ?_
                simp [hlk, hit]
                refine xcall_pure hrule ?_
                simp
                refine ⟨.of (by kernel_rfl), ?_⟩
                cases hb : foundB c k p with
                | true =>
                  rw [hb, if_pos rfl] at hsn2
                  simp [h2, ep, -getElem?_pos, List.getElem?_cons_zero, List.getElem?_cons_succ]
                  refine ⟨by omega, wrap_i64 (by omega) (by omega), i + 1, by omega, by omega, ?_⟩
                  simp [hsn2]
                  try (first | omega | decide | (refine ⟨by omega, ?_⟩; decide))
                | false =>
                  rw [hb, if_neg (by simp)] at hsn2
                  simp
                  refine ⟨wrap_i64 (by omega) (by omega), i + 1, by omega, by omega, ?_⟩
                  simp [hsn2]
                  try decide
              · simp at h2
                have hT := hfin (by omega)
                subst hT
                simp
                refine ⟨wrap_i64 (by omega) (by omega), k + 1, by omega, by omega, ?_⟩
                simp [hs2]
                try decide
        · simp at h
          have hA := hend (by omega)
          subst hA
          simp [XEndT]
    · have hpos : 0 < c.parts.length := by omega
      simp [planAV, hpos]
      refine xcall_pure hcf ?_
      have hsup : supB c = c.parts.any fun q => decide (q.kind = 0) := by unfold supB; simp [hn0]
      rw [← hsup]
      cases hsu : supB c with
      | true =>
        rw [hsu, if_pos rfl] at hhead
        simp
        refine xcall_pure (c_inspect_kinds ()) ?_
        simp
        refine XLoop.go [1, 4, 33] [0, 1] 1 [2] (nms [6]) (fun nx (k : Nat) => [(6, .acc nx 3 (allG c k).length), (34, .p (.int .i64 k))]) (fun nx k => [(nx, accB 3 ((allG c k).map Fnd.row))]) (fun k => k ≤ 8) (fun k => 8 - k) 0 (by omega) ?_ ?_
        · simp [allG, hhead]
          try decide
        · intro k hk8
          have hlen := @allG_len c k
          have hb8 : k * (allP c).length ≤ 8 * 1200 := Nat.mul_le_mul hk8 hal
          have hend : k = 8 → allG c k = findingsL c := fun e => by rw [e, allG_allF]; rfl
          have hsucc : allG c (k + 1) = if k = 0 then headF c else allG c k ++ findsT c k (allP c) := rfl
          have hz : k = 0 → allG c k = headF c := fun e => by rw [e]; rfl
          generalize allG c k = A at hlen hsucc hend hz
          simp
          refine xif_split (fun h => ?_) (fun h => ?_)
          · simp at h
            obtain ⟨hki, hkl⟩ := kinds_at (k := k) (by omega)
            by_cases hk0 : k = 0
            · have hkc : kindCell k = [.p (.str (wordAt k)), .p .nilf] := by unfold kindCell; rw [if_pos hk0]
              have hs2 : allG c (k + 1) = A := by rw [hsucc, if_pos hk0, hz hk0]
              rw [hkc] at hki
              simp [hki]
              refine ⟨by omega, by omega, ?_⟩
              refine XLoop.gor [1, 4, 7, 8, 33, 34, 39, 40] [0, 1, 3] [0, 1, 2, 3] (fun st => [0, 1, nameOf (slot st.t 6), 3]) (fun (i : Nat) => [(6, .acc 2 3 A.length), (41, .p (.int .i64 i))]) (fun i => [(2, accB 3 (A.map Fnd.row))]) (fun i => i ≤ (allP c).length) (fun i => (allP c).length - i) 0 (by omega) ?_ ?_
              · simp
                try decide
              · intro i hi
                simp
                refine xif_split (fun h2 => ?_) (fun h2 => ?_)
                · simp at h2
                  obtain ⟨p, ep⟩ := get_lt h2
                  simp [h2, ep, -getElem?_pos, List.getElem?_cons_zero, List.getElem?_cons_succ]
                  refine XDraw.intro (by kernel_rfl) ?_
                  simp
                  refine ⟨.of (by kernel_rfl), ?_⟩
                  refine ⟨wrap_i64 (by omega) (by omega), i + 1, by omega, by omega, ?_⟩
                  simp
                  try decide
                · simp
                  refine ⟨wrap_i64 (by omega) (by omega), k + 1, by omega, by omega, ?_⟩
                  simp [hs2]
                  try decide
            · have hkc : kindCell k = [.p (.str (wordAt k)), .fn (.func (ruleN k)) (ruleCap k)] := by unfold kindCell; rw [if_neg hk0]
              have hs2 : allG c (k + 1) = A ++ findsT c k (allP c) := by rw [hsucc, if_neg hk0]
              have hlen2 : A.length ≤ 9601 := by omega
              rw [hkc] at hki
              simp [hki]
              refine ⟨by omega, by omega, ?_⟩
              refine XLoop.gor [1, 4, 7, 8, 33, 34, 39, 40] [0, 1, 3] [0, 1, 2, 3] (fun st => [0, 1, nameOf (slot st.t 6), 3]) (fun (i : Nat) => [(6, .acc 2 3 (A ++ findsT c k ((allP c).take i)).length), (41, .p (.int .i64 i))]) (fun i => [(2, accB 3 ((A ++ findsT c k ((allP c).take i)).map Fnd.row))]) (fun i => i ≤ (allP c).length) (fun i => (allP c).length - i) 0 (by omega) ?_ ?_
              · simp [findsT_nil]
                try decide
              · intro i hi
                have hl2 := @findsT_len c k ((allP c).take i)
                have hl3 := List.length_take_le i (allP c)
                have hsn := @findsT_snoc c k (allP c) i
                have hfin : i = (allP c).length → findsT c k ((allP c).take i) = findsT c k (allP c) := fun e => by rw [e, List.take_length]
                generalize findsT c k ((allP c).take i) = T at hl2 hsn hfin
                simp
                refine xif_split (fun h2 => ?_) (fun h2 => ?_)
                · simp at h2
                  obtain ⟨p, ep⟩ := get_lt h2
                  have hp := List.mem_of_getElem? ep
                  have hsn2 := hsn ep
                  have har := @around_len c p
                  have hrule := rule_ok (c := c) (k := k) (l := around c p) (p := p) (by omega) hkk (by omega) hp (fun q hq => (List.mem_filter.1 hq).1) (around_self hp)
                  have hlk := look_plan hch (i := p.part) (s := p.name) hp
                  have hfb : foundB c k p = ruleB c k (around c p) p := rfl
                  rw [← hfb] at hrule
                  simp [h2, ep, -getElem?_pos, List.getElem?_cons_zero, List.getElem?_cons_succ]
                  refine XDraw.intro (by kernel_rfl) ?_
                  simp [hlk, hit]
                  refine xcall_pure hrule ?_
                  simp
                  refine ⟨.of (by kernel_rfl), ?_⟩
                  cases hb : foundB c k p with
                  | true =>
                    rw [hb, if_pos rfl] at hsn2
                    simp [h2, ep, -getElem?_pos, List.getElem?_cons_zero, List.getElem?_cons_succ]
                    refine ⟨by omega, wrap_i64 (by omega) (by omega), i + 1, by omega, by omega, ?_⟩
                    simp [hsn2]
                    try (first | omega | decide | (refine ⟨by omega, ?_⟩; decide))
                  | false =>
                    rw [hb, if_neg (by simp)] at hsn2
                    simp
                    refine ⟨wrap_i64 (by omega) (by omega), i + 1, by omega, by omega, ?_⟩
                    simp [hsn2]
                    try decide
                · simp at h2
                  have hT := hfin (by omega)
                  subst hT
                  simp
                  refine ⟨wrap_i64 (by omega) (by omega), k + 1, by omega, by omega, ?_⟩
                  simp [hs2]
                  try decide
          · simp at h
            have hA := hend (by omega)
            subst hA
            simp [XEndT]
      | false =>
        rw [hsu, if_neg (by simp)] at hhead
        simp
        refine xcall_pure (c_inspect_kinds ()) ?_
        simp
        refine XLoop.gor [1, 4, 33] [0, 1] [0, 1, 3] (fun st => [0, 1, nameOf (slot st.t 6)]) (fun (k : Nat) => [(6, .acc 2 3 (allG c k).length), (34, .p (.int .i64 k))]) (fun k => [(2, accB 3 ((allG c k).map Fnd.row))]) (fun k => k ≤ 8) (fun k => 8 - k) 0 (by omega) ?_ ?_
        · simp [allG, hhead]
          try decide
        · intro k hk8
          have hlen := @allG_len c k
          have hb8 : k * (allP c).length ≤ 8 * 1200 := Nat.mul_le_mul hk8 hal
          have hend : k = 8 → allG c k = findingsL c := fun e => by rw [e, allG_allF]; rfl
          have hsucc : allG c (k + 1) = if k = 0 then headF c else allG c k ++ findsT c k (allP c) := rfl
          have hz : k = 0 → allG c k = headF c := fun e => by rw [e]; rfl
          generalize allG c k = A at hlen hsucc hend hz
          simp
          refine xif_split (fun h => ?_) (fun h => ?_)
          · simp at h
            obtain ⟨hki, hkl⟩ := kinds_at (k := k) (by omega)
            by_cases hk0 : k = 0
            · have hkc : kindCell k = [.p (.str (wordAt k)), .p .nilf] := by unfold kindCell; rw [if_pos hk0]
              have hs2 : allG c (k + 1) = A := by rw [hsucc, if_pos hk0, hz hk0]
              rw [hkc] at hki
              simp [hki]
              refine ⟨by omega, by omega, ?_⟩
              refine XLoop.gor [1, 4, 7, 8, 33, 34, 39, 40] [0, 1, 4] [0, 1, 2, 3, 4] (fun st => [0, 1, nameOf (slot st.t 6), 3, 4]) (fun (i : Nat) => [(6, .acc 2 3 A.length), (41, .p (.int .i64 i))]) (fun i => [(2, accB 3 (A.map Fnd.row))]) (fun i => i ≤ (allP c).length) (fun i => (allP c).length - i) 0 (by omega) ?_ ?_
              · simp
                try decide
              · intro i hi
                simp
                refine xif_split (fun h2 => ?_) (fun h2 => ?_)
                · simp at h2
                  obtain ⟨p, ep⟩ := get_lt h2
                  simp [h2, ep, -getElem?_pos, List.getElem?_cons_zero, List.getElem?_cons_succ]
                  refine XDraw.intro (by kernel_rfl) ?_
                  simp
                  refine ⟨.of (by kernel_rfl), ?_⟩
                  refine ⟨wrap_i64 (by omega) (by omega), i + 1, by omega, by omega, ?_⟩
                  simp
                  try decide
                · simp
                  refine ⟨wrap_i64 (by omega) (by omega), k + 1, by omega, by omega, ?_⟩
                  simp [hs2]
                  try decide
            · have hkc : kindCell k = [.p (.str (wordAt k)), .fn (.func (ruleN k)) (ruleCap k)] := by unfold kindCell; rw [if_neg hk0]
              have hs2 : allG c (k + 1) = A ++ findsT c k (allP c) := by rw [hsucc, if_neg hk0]
              have hlen2 : A.length ≤ 9601 := by omega
              rw [hkc] at hki
              simp [hki]
              refine ⟨by omega, by omega, ?_⟩
              refine XLoop.gor [1, 4, 7, 8, 33, 34, 39, 40] [0, 1, 4] [0, 1, 2, 3, 4] (fun st => [0, 1, nameOf (slot st.t 6), 3, 4]) (fun (i : Nat) => [(6, .acc 2 3 (A ++ findsT c k ((allP c).take i)).length), (41, .p (.int .i64 i))]) (fun i => [(2, accB 3 ((A ++ findsT c k ((allP c).take i)).map Fnd.row))]) (fun i => i ≤ (allP c).length) (fun i => (allP c).length - i) 0 (by omega) ?_ ?_
              · simp [findsT_nil]
                try decide
              · intro i hi
                have hl2 := @findsT_len c k ((allP c).take i)
                have hl3 := List.length_take_le i (allP c)
                have hsn := @findsT_snoc c k (allP c) i
                have hfin : i = (allP c).length → findsT c k ((allP c).take i) = findsT c k (allP c) := fun e => by rw [e, List.take_length]
                generalize findsT c k ((allP c).take i) = T at hl2 hsn hfin
                simp
                refine xif_split (fun h2 => ?_) (fun h2 => ?_)
                · simp at h2
                  obtain ⟨p, ep⟩ := get_lt h2
                  have hp := List.mem_of_getElem? ep
                  have hsn2 := hsn ep
                  have har := @around_len c p
                  have hrule := rule_ok (c := c) (k := k) (l := around c p) (p := p) (by omega) hkk (by omega) hp (fun q hq => (List.mem_filter.1 hq).1) (around_self hp)
                  have hlk := look_plan hch (i := p.part) (s := p.name) hp
                  have hfb : foundB c k p = ruleB c k (around c p) p := rfl
                  rw [← hfb] at hrule
                  simp [h2, ep, -getElem?_pos, List.getElem?_cons_zero, List.getElem?_cons_succ]
                  refine XDraw.intro (by kernel_rfl) ?_
                  simp [hlk, hit]
                  refine xcall_pure hrule ?_
                  simp
                  refine ⟨.of (by kernel_rfl), ?_⟩
                  cases hb : foundB c k p with
                  | true =>
                    rw [hb, if_pos rfl] at hsn2
                    simp [h2, ep, -getElem?_pos, List.getElem?_cons_zero, List.getElem?_cons_succ]
                    refine ⟨by omega, wrap_i64 (by omega) (by omega), i + 1, by omega, by omega, ?_⟩
                    simp [hsn2]
                    try (first | omega | decide | (refine ⟨by omega, ?_⟩; decide))
                  | false =>
                    rw [hb, if_neg (by simp)] at hsn2
                    simp
                    refine ⟨wrap_i64 (by omega) (by omega), i + 1, by omega, by omega, ?_⟩
                    simp [hsn2]
                    try decide
                · simp at h2
                  have hT := hfin (by omega)
                  subst hT
                  simp
                  refine ⟨wrap_i64 (by omega) (by omega), k + 1, by omega, by omega, ?_⟩
                  simp [hs2]
                  try decide
          · simp at h
            have hA := hend (by omega)
            subst hA
            simp [XEndT]
  · have hR : planR c = .agg [.p (.lst 3 []), .p (.lst 4 []), .p (.lst 2 []), .nilm] := if_neg h
    rw [hR]
    simp [h]
    simp [XEndT]

end Go.Am
/- Contracts: package inspect: Text, Givers, Takers. -/
namespace Go.Am
open Go Go.Proofs Go.Pn

set_option maxRecDepth 20000 in
theorem c_inspect_Text (c : Circuit) (f : Fnd) (hs : Sized c) (hf : f.at_.name.length < 4611686018427387900) : Pure Go.Proofs.Tryz.prog GL 43 [c.av, f.av] (.tup [.p (.str (textP c f)), .p (.int .i64 (textErr c f))]) := by
  refine Pure.of_walk (N := 62) Go.Proofs.Tryz.func43 rfl rfl rfl (by simp) (by first | (simp; done) | simp [*]) ?_
  have hCh := c_circuit_Check c hs
  have hNet := c_circuit_Net c f.at_ hs
  simp
  refine xcall_pure hCh ?_
  by_cases h : checkP c = 0
  · have h2 := check_parts h
    have hno : ¬ checkP c ≠ 0 := by simpa using h
    rw [if_neg hno, if_neg hno] at hNet
    by_cases hr : f.kind < 0 ∨ 7 < f.kind
    · have hte : textErr c f = 1 := by unfold textErr; rw [if_neg (by simpa using h), if_pos hr]
      have htp : textP c f = [] := by unfold textP; rw [hte, if_pos (by simp)]
      rw [hte, htp]
      by_cases h1 : f.kind < 0
      · simp [h, h1, XEndT]
      · have h3 : 8 ≤ f.kind := by omega
        simp [h, h1, h3, XEndT]
    · obtain ⟨k, hk⟩ : ∃ k : Nat, f.kind = k := ⟨f.kind.toNat, by omega⟩
      obtain ⟨hki, hkl⟩ := kinds_at (k := k) (by omega)
      have h1 : ¬ ((k : Int) < 0) := by omega
      have h3 : ¬ (8 ≤ (k : Int)) := by omega
      have hkc : (kindCell k)[0]? = some (.p (.str (wordAt k))) := rfl
      have hkn : 2 ≤ (kindCell k).length := by unfold kindCell; simp
      have hK := c_inspect_kinds ()
      simp [h, hk, h1, h3]
      refine XDraw.intro (by kernel_rfl) ?_
      simp [hk]
      refine xcall_pure hK ?_
      simp [hk, hki, hkl, hkc]
      refine ⟨by omega, .of (by kernel_rfl), ?_⟩
      by_cases h0 : k = 0
      · subst h0
        have hte : textErr c f = if f = ⟨0, ⟨0, []⟩⟩ then 0 else 3 := by unfold textErr; rw [if_neg (by simpa using h), if_neg hr, if_pos (by omega)]
        by_cases hz : f = ⟨0, ⟨0, []⟩⟩
        · rw [if_pos hz] at hte
          have htp : textP c f = wordAt 0 := by unfold textP; rw [hte, if_neg (by simp), if_pos (by omega)]
          rw [hte, htp, hz]
          simp [XEndT]
        · rw [if_neg hz] at hte
          have htp : textP c f = [] := by unfold textP; rw [hte, if_pos (by simp)]
          rw [hte, htp]
          obtain ⟨k, p, s⟩ := f
          simp at hz hk
          have hz2 : (!decide (p = 0) || !decide (s = [])) = true := by
            by_cases hp0 : p = 0
            · simp [hp0, hz hk hp0]
            · simp [hp0]
          simp [hz2, XEndT]
      · have hk0 : f.kind ≠ 0 := by omega
        have hte : textErr c f = givenErr c f.at_ := by unfold textErr; rw [if_neg (by simpa using h), if_neg hr, if_neg hk0]
        have hk1 : ¬ ((k : Int) = 0) := by omega
        simp [h0, hk1]
        refine xcall_pure hNet ?_
        by_cases hg : givenErr c f.at_ = 0
        · have htp : textP c f = (((wordAt f.kind ++ [58, 32]) ++ nameAt c f.at_.part) ++ [46]) ++ f.at_.name := by unfold textP; rw [hte, if_neg (by simpa using hg), if_neg hk0]
          obtain ⟨q, g1, g2, g3⟩ := given_mem.1 hg
          have hi := (List.getElem?_eq_some_iff.1 g1).1
          have hnm : nameAt c f.at_.part = q.name := by unfold nameAt; rw [g1]
          have hwl := wordAt_len (k := f.kind) (by omega) (by omega)
          have hql := hs.names q (List.mem_of_getElem? g1)
          have hkq := h2.1 q (List.mem_of_getElem? g1)
          have hsl : f.at_.name.length ≤ 3 := (by decide +kernel : ∀ k, k < 14 → ∀ s ∈ kindPorts k, s.length ≤ 3) q.kind.toNat (by omega) _ g3
          rw [hte, htp, hg, hnm]
          rw [hk] at hwl ⊢
          generalize wordAt (k : Int) = W at *
          simp [hg]
          refine XDraw.intro (by kernel_rfl) ?_
          simp [g1, hi, g2, Part.enc, -getElem?_pos, List.getElem?_cons_zero, List.getElem?_cons_succ]
          refine ⟨by omega, by omega, by omega, by omega, by omega, .of (by kernel_rfl), ?_⟩
          simp [XEndT]
        · have htp : textP c f = [] := by unfold textP; rw [hte, if_pos hg]
          rw [hte, htp]
          simp [hg, XEndT]
  · have hte : textErr c f = checkP c := by unfold textErr; rw [if_pos h]
    have htp : textP c f = [] := by unfold textP; rw [hte, if_pos h]
    rw [hte, htp]
    simp [h, XEndT]

theorem c_inspect_side (c : Circuit) (p : Port) (q : Port → Bool) (m : Nat) (hs : Sized c) (hq : checkP c = 0 → ∀ x ∈ allP c, Pure Go.Proofs.Tryz.prog GL m [c.av, x.av] (.p (.bool (q x)))) : Pure Go.Proofs.Tryz.prog GL 104 [c.av, p.av, .fn (.func m) []] (.tup [.p (.lst 2 ((if sideErr c p ≠ 0 then [] else (around c p).filter q).map Port.enc)), .p (.int .i64 (sideErr c p))]) := by
  refine Pure.of_walk (N := 36) Go.Proofs.Tryz.func104 rfl rfl rfl (by simp) (by first | (simp; done) | simp [*]) ?_
  have hPl := c_inspect_planned c hs
  have hNet := c_circuit_Net c p hs
  simp
  refine xcall_pure hPl ?_
  by_cases h : checkP c = 0
  · have h2 := check_parts h
    have hal := allP_len h2.1 (by omega)
    have har := @around_len c p
    have hR : planR c = planAV c := if_pos h
    have hse : sideErr c p = givenErr c p := by unfold sideErr; rw [if_neg (by simpa using h)]
    have hno : ¬ checkP c ≠ 0 := by simpa using h
    rw [if_neg hno, if_neg hno] at hNet
    rw [hR, hse, h]
    simp [planAV]
    refine xcall_pure hNet ?_
    by_cases hg : givenErr c p = 0
    · have hp : p ∈ allP c := allP_mem.2 hg
      have hlk := look_plan h (i := p.part) (s := p.name) hp
      have hfi := c_inspect_filtered c (around c p) q m (by omega) (fun x hx => hq h x (List.mem_filter.1 hx).1)
      simp [hg]
      refine XDraw.intro (by kernel_rfl) ?_
      simp [hlk, hit]
      refine xcall_pure hfi ?_
      simp
      refine ⟨.of (by kernel_rfl), ?_⟩
      simp [XEndT, hg]
    · simp [hg, XEndT]
  · have hR : planR c = .agg [.p (.lst 3 []), .p (.lst 4 []), .p (.lst 2 []), .nilm] := if_neg h
    have hse : sideErr c p = checkP c := by unfold sideErr; rw [if_pos h]
    rw [hR, hse]
    simp [h]
    simp [XEndT]

theorem c_inspect_Givers (c : Circuit) (p : Port) (hs : Sized c) : Pure Go.Proofs.Tryz.prog GL 50 [c.av, p.av] (.tup [.p (.lst 2 ((sideL c p true).map Port.enc)), .p (.int .i64 (sideErr c p))]) := by
  refine Pure.of_walk (N := 11) Go.Proofs.Tryz.func50 rfl rfl rfl (by simp) (by first | (simp; done) | simp [*]) ?_
  have hsd := c_inspect_side c p (givesB c) 102 hs (fun h x hx => c_inspect_gives c x (check_parts h).1 hx)
  have he : (if sideErr c p ≠ 0 then [] else (around c p).filter (givesB c)) = sideL c p true := rfl
  rw [he] at hsd
  simp
  refine xcall_pure hsd ?_
  simp [XEndT]

theorem c_inspect_Takers (c : Circuit) (p : Port) (hs : Sized c) : Pure Go.Proofs.Tryz.prog GL 54 [c.av, p.av] (.tup [.p (.lst 2 ((sideL c p false).map Port.enc)), .p (.int .i64 (sideErr c p))]) := by
  refine Pure.of_walk (N := 11) Go.Proofs.Tryz.func54 rfl rfl rfl (by simp) (by first | (simp; done) | simp [*]) ?_
  have hsd := c_inspect_side c p (takesB c) 108 hs (fun h x hx => c_inspect_takes c x (check_parts h).1 hx)
  have he : (if sideErr c p ≠ 0 then [] else (around c p).filter (takesB c)) = sideL c p false := rfl
  rw [he] at hsd
  simp
  refine xcall_pure hsd ?_
  simp [XEndT]

end Go.Am
