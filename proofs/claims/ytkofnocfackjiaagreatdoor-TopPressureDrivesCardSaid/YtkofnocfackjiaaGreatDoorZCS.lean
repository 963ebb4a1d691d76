/- Lemmas and contracts for the proof of a statement of this seat. -/
import Derived.Test.YtkofnocfackjiaaGreatDoorZCQ
import Derived.Test.YtkofnocfackjiaaGreatDoorZA6
set_option linter.unusedVariables false
set_option linter.unusedSimpArgs false
/- Contracts: package inspect: the kinds of findings, and the plan of a circuit. -/
namespace Go.Am
open Go Go.Proofs Go.Pn

theorem around_rt {c : Circuit} {p : Port} : around c p = (allP c).filter fun q => decide (rt c q = rt c p) := by
  unfold around
  apply List.filter_congr
  intro q _
  rw [decide_eq_decide, closure_iff, ← rt_iff]
  exact eq_comm
theorem net_around {c : Circuit} (h : checkP c = 0) {g : List Port} (hg : g ∈ nets c) {p : Port} (hp : p ∈ g) : g = around c p := by
  rw [nets_rt h] at hg
  obtain ⟨r, _, rfl⟩ := List.mem_map.1 hg
  have : rt c p = r := by simpa using (List.mem_filter.1 hp).2
  rw [around_rt, this]

def netNo (c : Circuit) (n : Nat) : List Port := (nets c)[n]?.getD []
def netsA (c : Circuit) (es : List (Port × Nat)) : List (AV × AV) := es.map fun e => (e.1.av, .p (.lst 2 ((netNo c e.2).map Port.enc)))
def planKs (c : Circuit) : List AV := (pairs c).map fun e => e.1.av
def planVs (c : Circuit) : List AV := (pairs c).map fun e => .p (.lst 2 ((netNo c e.2).map Port.enc))
def planAV (c : Circuit) : AV := .agg [.p (.lst 3 (c.parts.map Part.enc)), .p (.lst 4 (c.pipes.map Pipe.enc)), .p (.lst 2 ((allP c).map Port.enc)), .pmap (planKs c) (planVs c)]
theorem plan_zip {c : Circuit} : (planKs c).zip (planVs c) = netsA c (pairs c) := by
  unfold planKs planVs netsA
  rw [List.zip_map']
theorem netsA_pure {c : Circuit} {ρ : List Nat} {es : List (Port × Nat)} : renE ρ (netsA c es) = some (netsA c es) := by
  unfold netsA
  induction es with
  | nil => rfl
  | cons e es ih => simp only [List.map_cons, renE, ih]; rfl
theorem assoc_netsA {c : Circuit} {es : List (Port × Nat)} {p : Port} : assocA (netsA c es) p.av = (findP es p).map fun (n : Nat) => AV.p (.lst 2 ((netNo c n).map Port.enc)) := by
  induction es with
  | nil => simp [netsA, assocA, findP]
  | cons e es ih =>
    obtain ⟨a, b⟩ := e
    simp only [netsA, List.map_cons, findP] at ih ⊢
    by_cases h : a = p
    · subst h
      simp [assocA]
    · have hne : a.av ≠ p.av := fun h2 => h (portAv_inj h2)
      rw [if_neg h, ← ih]
      unfold assocA
      rw [List.find?_cons_of_neg (by simpa using hne)]
theorem set_netsA {c : Circuit} {es : List (Port × Nat)} {p : Port} {n : Nat} (h : findP es p = none) : setA (netsA c es) (.agg [.p (.int .i64 p.part), .p (.str p.name)]) (.p (.lst 2 ((netNo c n).map Port.enc))) = netsA c (es ++ [(p, n)]) := by
  rw [setA_none]
  · simp [netsA]
  · intro e he
    obtain ⟨q, hq, rfl⟩ := List.mem_map.1 he
    intro h2
    have : q.1 = p := portAv_inj h2
    exact findP_none (n := q.2) (by rw [← this]; exact hq) h
@[simp] theorem keys_netsA {c : Circuit} {es : List (Port × Nat)} {i : Int} {s : Txt} : KeysIn Tryz.prog 82 (netsA c es) (.agg [.p (.int .i64 i), .p (.str s)]) = True := eq_true (keysIn_map (f := Prod.fst) (p := ⟨i, s⟩))
@[simp] theorem keys_plan {c : Circuit} {i : Int} {s : Txt} : KeysIn Tryz.prog 82 ((planKs c).zip (planVs c)) (.agg [.p (.int .i64 i), .p (.str s)]) = True := by rw [plan_zip, keys_netsA]
@[simp] theorem zsPorts : zeroShape Tryz.prog 123 = some false := by kernel_rfl
theorem look_plan {c : Circuit} (h : checkP c = 0) {i : Int} {s : Txt} (hp : (⟨i, s⟩ : Port) ∈ allP c) : assocA ((planKs c).zip (planVs c)) (.agg [.p (.int .i64 i), .p (.str s)]) = some (.p (.lst 2 ((around c ⟨i, s⟩).map Port.enc))) := by
  rw [plan_zip]
  have := assoc_netsA (c := c) (es := pairs c) (p := ⟨i, s⟩)
  rw [find_pairs h hp] at this
  have hn : netNo c (netN c i s) = around c ⟨i, s⟩ := by
    obtain ⟨g, e, hg⟩ := net_has h hp
    unfold netNo
    rw [e]
    exact net_around h (List.mem_of_getElem? e) hg
  simp only [Option.map_some] at this
  rw [hn] at this
  exact this
theorem pairs_keys {c : Circuit} (h : checkP c = 0) : ∀ k, ((pairsUp c k).map Prod.fst).Nodup
  | 0 => by simp [pairsUp]
  | k + 1 => by
    simp only [pairsUp, List.map_append, List.nodup_append]
    refine ⟨pairs_keys h k, ?_, ?_⟩
    · split
      · rename_i g e
        rw [List.map_map]
        have : (g.map (Prod.fst ∘ fun x => (x, k))) = g := by
          have e2 : (Prod.fst ∘ fun x : Port => (x, k)) = id := rfl
          rw [e2, List.map_id]
        rw [this]
        exact nets_nodup h (List.mem_of_getElem? e)
      · simp
    · intro a ha b hb hab
      subst hab
      obtain ⟨⟨a', n⟩, hm, rfl⟩ := List.mem_map.1 ha
      obtain ⟨hn, g, eg, hg⟩ := pairsUp_mem.1 hm
      split at hb
      · rename_i g' e'
        rw [List.map_map] at hb
        obtain ⟨b', hb', e2⟩ := List.mem_map.1 hb
        simp only [Function.comp] at e2
        subst e2
        have h1 := (netP_of h eg hg).1
        have h2 := (netP_of h e' hb').1
        omega
      · cases hb
theorem plan_nodup {c : Circuit} (h : checkP c = 0) : (planKs c).Nodup := by
  have := pairs_keys h (nets c).length
  unfold planKs
  have e : (pairs c).map (fun e => e.1.av) = ((pairs c).map Prod.fst).map Port.av := by rw [List.map_map]; rfl
  rw [e]
  exact List.Pairwise.map _ (fun a b hab hh => hab (portAv_inj hh)) this
theorem plan_pure {c : Circuit} : pureE (netsA c (pairs c)) = true := by
  rw [pureE_iff]
  intro e he
  obtain ⟨q, _, rfl⟩ := List.mem_map.1 he
  exact ⟨rfl, rfl⟩

def planR (c : Circuit) : AV := if checkP c = 0 then planAV c else .agg [.p (.lst 3 []), .p (.lst 4 []), .p (.lst 2 []), .nilm]

set_option maxRecDepth 20000 in
theorem c_inspect_planned (c : Circuit) (hs : Sized c) : Pure Tryz.prog GL 66 [c.av] (.tup [planR c, .p (.int .i64 (checkP c))]) := by
  refine Pure.of_walk (N := 52) Tryz.func66 rfl rfl rfl (by simp) (by first | (simp; done) | simp [*]) ?_
  have hPo := c_circuit_Ports c hs
  have hNe := c_circuit_Nets c hs
  simp
  by_cases h : checkP c = 0
  · have h2 := check_parts h
    have hal := allP_len h2.1 (by omega)
    have hnl := netsL h
    rw [if_neg (by simpa using h), h] at hPo hNe
    have hR : planR c = planAV c := if_pos h
    rw [hR, h]
    refine xcall_pure hPo ?_
    simp
    refine xcall_pure hNe ?_
    simp
    refine XLoop.go [1, 2, 4, 7, 31, 32] [0, 1] 0 [] (fun _ => []) (fun _ (k : Nat) => [(33, .p (.int .i64 k))]) (fun _ k => [(2, some (.map (netsA c (pairsUp c k))))]) (fun k => k ≤ (nets c).length) (fun k => (nets c).length - k) 0 (by omega) ?_ ?_
    · simp [pairsUp, netsA]
      try decide
    · intro k hk
      simp
      refine xif_split (fun h3 => ?_) (fun h3 => ?_)
      · simp at h3
        obtain ⟨g, eg⟩ := get_lt h3
        have hgl := hnl.2 g (List.mem_of_getElem? eg)
        have hall := pairsIn_all eg
        have hgn : netNo c k = g := by unfold netNo; rw [eg]; rfl
        simp [h3, eg, Ports.enc, -getElem?_pos, List.getElem?_cons_zero, List.getElem?_cons_succ]
        refine XLoop.go [1, 2, 4, 7, 9, 31, 32, 33, 37, 38] [0, 1] 0 [] (fun _ => []) (fun _ (j : Nat) => [(39, .p (.int .i64 j))]) (fun _ j => [(2, some (.map (netsA c (pairsIn c k g j))))]) (fun j => j ≤ g.length) (fun j => g.length - j) 0 (by omega) ?_ ?_
        · simp [pairsIn_zero, netsA_pure]
          try decide
        · intro j hj
          simp
          refine xif_split (fun h4 => ?_) (fun h4 => ?_)
          · simp at h4
            obtain ⟨p, ep⟩ := get_lt h4
            have hfr := pairs_fresh h eg ep
            have hsn := pairsIn_snoc (c := c) (k := k) ep
            have hset := set_netsA (c := c) (n := k) hfr
            rw [hgn] at hset
            simp [h4, ep, -getElem?_pos, List.getElem?_cons_zero, List.getElem?_cons_succ]
            refine ⟨wrap_i64 (by omega) (by omega), j + 1, by omega, by omega, ?_⟩
            simp [hset, hsn, netsA_pure]
            try decide
          · simp at h4
            have hjl : j = g.length := by omega
            subst hjl
            simp
            refine ⟨wrap_i64 (by omega) (by omega), k + 1, by omega, by omega, ?_⟩
            simp [hall, netsA_pure]
            try decide
      · simp at h3
        have hkl : k = (nets c).length := by omega
        subst hkl
        have hpe : pairsUp c (nets c).length = pairs c := rfl
        rw [hpe]
        simp [XEndT, planAV]
        exact ⟨plan_pure, by simp [planKs, planVs], plan_nodup h, by rw [plan_zip]⟩
  · rw [if_pos h] at hPo
    have hR : planR c = .agg [.p (.lst 3 []), .p (.lst 4 []), .p (.lst 2 []), .nilm] := if_neg h
    rw [hR]
    refine xcall_pure hPo ?_
    simp [h]
    simp [XEndT]

end Go.Am
/- Contracts: package inspect: Findings, Text, Givers, Takers. -/
namespace Go.Am
open Go Go.Proofs Go.Pn


end Go.Am
/- Contracts: package inspect: Text, Givers, Takers. -/
namespace Go.Am
open Go Go.Proofs Go.Pn

theorem c_inspect_side (c : Circuit) (p : Port) (q : Port → Bool) (m : Nat) (hs : Sized c) (hq : checkP c = 0 → ∀ x ∈ allP c, Pure Tryz.prog GL m [c.av, x.av] (.p (.bool (q x)))) : Pure Tryz.prog GL 138 [c.av, p.av, .fn (.func m) []] (.tup [.p (.lst 2 ((if sideErr c p ≠ 0 then [] else (around c p).filter q).map Port.enc)), .p (.int .i64 (sideErr c p))]) := by
  refine Pure.of_walk (N := 36) Tryz.func138 rfl rfl rfl (by simp) (by first | (simp; done) | simp [*]) ?_
  have hPl := c_inspect_planned c hs
  have hNet := c_circuit_Net c p hs
  simp
  refine xcall_pure hPl ?_
  by_cases h : checkP c = 0
  · have h2 := check_parts h
    have hal := allP_len h2.1 (by omega)
    have har := @around_len c p
    have hR : planR c = planAV c := if_pos h
    have hse : sideErr c p = givenErr c p := by unfold sideErr; rw [if_neg (by simpa using h)]
    have hno : ¬ checkP c ≠ 0 := by simpa using h
    rw [if_neg hno, if_neg hno] at hNet
    rw [hR, hse, h]
    simp [planAV]
    refine xcall_pure hNet ?_
    by_cases hg : givenErr c p = 0
    · have hp : p ∈ allP c := allP_mem.2 hg
      have hlk := look_plan h (i := p.part) (s := p.name) hp
      have hfi := c_inspect_filtered c (around c p) q m (by omega) (fun x hx => hq h x (List.mem_filter.1 hx).1)
      simp [hg]
      refine XDraw.intro (by kernel_rfl) ?_
      simp [hlk, hit]
      refine xcall_pure hfi ?_
      simp
      refine ⟨.of (by kernel_rfl), ?_⟩
      simp [XEndT, hg]
    · simp [hg, XEndT]
  · have hR : planR c = .agg [.p (.lst 3 []), .p (.lst 4 []), .p (.lst 2 []), .nilm] := if_neg h
    have hse : sideErr c p = checkP c := by unfold sideErr; rw [if_pos h]
    rw [hR, hse]
    simp [h]
    simp [XEndT]

theorem c_inspect_Takers (c : Circuit) (p : Port) (hs : Sized c) : Pure Tryz.prog GL 91 [c.av, p.av] (.tup [.p (.lst 2 ((sideL c p false).map Port.enc)), .p (.int .i64 (sideErr c p))]) := by
  refine Pure.of_walk (N := 11) Tryz.func91 rfl rfl rfl (by simp) (by first | (simp; done) | simp [*]) ?_
  have hsd := c_inspect_side c p (takesB c) 139 hs (fun h x hx => c_inspect_takes c x (check_parts h).1 hx)
  have he : (if sideErr c p ≠ 0 then [] else (around c p).filter (takesB c)) = sideL c p false := rfl
  rw [he] at hsd
  simp
  refine xcall_pure hsd ?_
  simp [XEndT]

end Go.Am
