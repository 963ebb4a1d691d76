/- Lemmas and contracts for the proof of a statement of this seat. -/
import Derived.Test.YtmgemgdljjblmaaGreatDoorZCP
import Derived.Test.YtmgemgdljjblmaaGreatDoorZC9
set_option linter.unusedVariables false
set_option linter.unusedSimpArgs false
/- Contracts: package circuit: Join. -/
namespace Go.Am
open Go Go.Proofs Go.Pn




theorem c_circuit_Join (c : Circuit) (a b : Port) (hs : Sized c) : Pure Go.Proofs.Tryz.prog GL 41 [c.av, a.av, b.av] (.tup [(joinP c a b).av, .p (.int .i64 (joinErr c a b))]) := by
  refine Pure.of_walk (N := 90) Go.Proofs.Tryz.func41 rfl rfl rfl (by simp) (by first | (simp; done) | simp [*]) ?_
  simp
  refine xcall_pure (c_circuit_Check c hs) ?_
  by_cases hc : checkP c = 0
  · have h2 := check_parts hc
    simp [hc]
    refine XLoop.go [3, 4, 5, 6, 24] [0, 1, 2, 3] 0 [] (fun _ => []) (fun _ (k : Nat) => [(25, .p (.int .i64 k))]) (fun _ _ => []) (fun k => k ≤ 2 ∧ (1 ≤ k → givenErr c a = 0) ∧ (2 ≤ k → givenErr c b = 0)) (fun k => 2 - k) 0 ⟨by omega, by omega, by omega⟩ ?_ ?_
    · simp
      try decide
    · rintro k ⟨hk, ha, hb⟩
      obtain rfl | rfl | rfl : k = 0 ∨ k = 1 ∨ k = 2 := by omega
      · skip
        simp
        refine xcall_lent ?_
        simp
        refine ⟨_, c_circuit_indexed c [a] hs (by simp), rfl, ?_⟩
        rw [range_one]
        by_cases hr : rangeErr c a = 0
        · simp [hr]
          refine xcall_lent ?_
          simp
          refine ⟨_, c_circuit_exists c [a] hs (by simp) h2.1 (range_ok hr), rfl, ?_⟩
          rw [name_one]
          have hg : givenErr c a = nameErr c a := by simp [givenErr, hr]
          by_cases hn : nameErr c a = 0
          · simp [hn]
            refine ⟨1, ⟨by omega, by simp_all, by simp_all⟩, by omega, ?_⟩
            simp
            try decide
          · simp [hn]
            simp_all [XEndT, joinErr, joinP]
        · have hg : givenErr c a = rangeErr c a := by simp [givenErr, hr]
          simp [hr]
          simp_all [XEndT, joinErr, joinP]
      · skip
        simp
        refine xcall_lent ?_
        simp
        refine ⟨_, c_circuit_indexed c [b] hs (by simp), rfl, ?_⟩
        rw [range_one]
        by_cases hr : rangeErr c b = 0
        · simp [hr]
          refine xcall_lent ?_
          simp
          refine ⟨_, c_circuit_exists c [b] hs (by simp) h2.1 (range_ok hr), rfl, ?_⟩
          rw [name_one]
          have hg : givenErr c b = nameErr c b := by simp [givenErr, hr]
          by_cases hn : nameErr c b = 0
          · simp [hn]
            refine ⟨2, ⟨by omega, by simp_all, by simp_all⟩, by omega, ?_⟩
            simp
            try decide
          · simp [hn]
            simp_all [XEndT, joinErr, joinP]
        · have hg : givenErr c b = rangeErr c b := by simp [givenErr, hr]
          simp [hr]
          simp_all [XEndT, joinErr, joinP]
      · have ha := ha (by omega)
        have hb := hb (by omega)
        simp
        refine xcall_pure (c_circuit_compare a b) ?_
        have hcmp := @cmpPort_gt a b
        by_cases hlt : portLt b a = true
        · have hpo : pipeOf a b = ⟨b, a⟩ := by rw [pipeOf, if_pos hlt]
          have hc2 := hcmp.2 hlt
          simp [hc2]
          by_cases hab : a = b
          · subst hab
            have hj : joinErr c a a = 7 := by simp [joinErr, hc, ha]
            simp
            simp [XEndT, joinP, hj]
          · simp [hab]
            refine xcall_pure (c_Con_Pipe c.pipes (⟨b, a⟩ : Pipe) (by omega)) ?_
            by_cases hm : (⟨b, a⟩ : Pipe) ∈ c.pipes
            · have hj : joinErr c a b = 7 := by simp [joinErr, hc, ha, hb, hpo, hm]
              simp [hm]
              simp [XEndT, joinP, hj]
            · simp [hm]
              by_cases h5 : c.pipes.length = 256
              · have hj : joinErr c a b = 5 := by simp [joinErr, hc, ha, hb, hpo, hm, hab, h5]
                simp [h5]
                simp [XEndT, joinP, hj]
              · have hj : joinErr c a b = 0 := by simp [joinErr, hc, ha, hb, hpo, hm, hab, h5]
                have h6 : ¬ ((256 : Int) ≤ c.pipes.length) := by omega
                have hasc := (checkP_zero.1 hc).2.2.2
                have hO := pipedL_at c.pipes (⟨b, a⟩ : Pipe)
                simp [h6]
                refine xcall_pure (c_Bin_Pipe c.pipes (⟨b, a⟩ : Pipe) (fun y => cmpPipe y (⟨b, a⟩ : Pipe)) (pipeIx c.pipes (⟨b, a⟩ : Pipe)) 102 (by omega) (fun y _ => c_circuit_pipes y (⟨b, a⟩ : Pipe)) pipeIx_le (fun j y hj e => cmpPipe_lt.2 (pipeIx_lo hm j y hj e)) (fun j y hj e h => by
                  have := pipeLt_asymm (pipeIx_hi hasc j y hj e)
                  rw [cmpPipe_lt.1 h] at this
                  cases this)) ?_
                simp
                refine XDraw.intro (by kernel_rfl) ?_
                simp
                refine xcall_gives (g_ClonePart c.parts _ _ (by omega)) ?_
                simp
                refine xcall_gives (g_ClonePipe c.pipes _ _ (by omega)) ?_
                simp
                refine xcall_gives (g_InsPipe c.pipes (pipeIx c.pipes (⟨b, a⟩ : Pipe)) (⟨b, a⟩ : Pipe) 6 7 (some 1) _ _ (by omega) (by omega) (by decide) pipeIx_le (by omega) (by simp [get]) (by simp [get])) ?_
                rw [hO]
                simp
                refine ⟨.of (by kernel_rfl), ?_⟩
                simp [XEndT, joinP, hj, hpo]
        · have hpo : pipeOf a b = ⟨a, b⟩ := by rw [pipeOf, if_neg hlt]
          have hc2 : ¬ 0 < cmpPort a b := fun h => hlt (hcmp.1 h)
          simp [hc2]
          by_cases hab : a = b
          · subst hab
            have hj : joinErr c a a = 7 := by simp [joinErr, hc, ha]
            simp
            simp [XEndT, joinP, hj]
          · simp [hab]
            refine xcall_pure (c_Con_Pipe c.pipes (⟨a, b⟩ : Pipe) (by omega)) ?_
            by_cases hm : (⟨a, b⟩ : Pipe) ∈ c.pipes
            · have hj : joinErr c a b = 7 := by simp [joinErr, hc, ha, hb, hpo, hm]
              simp [hm]
              simp [XEndT, joinP, hj]
            · simp [hm]
              by_cases h5 : c.pipes.length = 256
              · have hj : joinErr c a b = 5 := by simp [joinErr, hc, ha, hb, hpo, hm, hab, h5]
                simp [h5]
                simp [XEndT, joinP, hj]
              · have hj : joinErr c a b = 0 := by simp [joinErr, hc, ha, hb, hpo, hm, hab, h5]
                have h6 : ¬ ((256 : Int) ≤ c.pipes.length) := by omega
                have hasc := (checkP_zero.1 hc).2.2.2
                have hO := pipedL_at c.pipes (⟨a, b⟩ : Pipe)
                simp [h6]
                refine xcall_pure (c_Bin_Pipe c.pipes (⟨a, b⟩ : Pipe) (fun y => cmpPipe y (⟨a, b⟩ : Pipe)) (pipeIx c.pipes (⟨a, b⟩ : Pipe)) 102 (by omega) (fun y _ => c_circuit_pipes y (⟨a, b⟩ : Pipe)) pipeIx_le (fun j y hj e => cmpPipe_lt.2 (pipeIx_lo hm j y hj e)) (fun j y hj e h => by
                  have := pipeLt_asymm (pipeIx_hi hasc j y hj e)
                  rw [cmpPipe_lt.1 h] at this
                  cases this)) ?_
                simp
                refine XDraw.intro (by kernel_rfl) ?_
                simp
                refine xcall_gives (g_ClonePart c.parts _ _ (by omega)) ?_
                simp
                refine xcall_gives (g_ClonePipe c.pipes _ _ (by omega)) ?_
                simp
                refine xcall_gives (g_InsPipe c.pipes (pipeIx c.pipes (⟨a, b⟩ : Pipe)) (⟨a, b⟩ : Pipe) 6 7 (some 1) _ _ (by omega) (by omega) (by decide) pipeIx_le (by omega) (by simp [get]) (by simp [get])) ?_
                rw [hO]
                simp
                refine ⟨.of (by kernel_rfl), ?_⟩
                simp [XEndT, joinP, hj, hpo]
  · simp [hc, XEndT, joinErr, joinP]

end Go.Am
/- Contracts: slices.Concat of ports; the laws CircuitJoins and CircuitParts. -/
namespace Go.Am
open Go Go.Proofs Go.Pn


theorem g_GrowP (n : Nat) (s : Store) (nx : Nat) (h0 : 0 < n) (hn : n < 1000000) :
    Gives Go.Proofs.Tryz.prog GL 111 [.nils, .p (.int .i64 n)] s nx (.ref nx 2 0 0 none) [] [(nx, some (.cells 2 (List.replicate n [.p (.int .i64 0), .p (.str [])])))] (nx + 1) := by
  refine Gives.mk_walkK (N := 27) (args := [.nils, .p (.int .i64 n)]) [] [] [] [(0, some (.cells 2 (List.replicate n [.p (.int .i64 0), .p (.str [])])))] 0 1 (.ref 0 2 0 0 none) (nms [4]) (up1 := [(nx, some (.cells 2 (List.replicate n [.p (.int .i64 0), .p (.str [])])))]) Go.Proofs.Tryz.func111 rfl rfl rfl (by simp) rfl (by simp) (by simp) (by simp) (by simp) (by simp) rfl ?_
  have h1 : ¬ ((n : Int) < 0) := by omega
  have h2 : (0 : Int) < n := by omega
  simp [h1, h2]
  refine ⟨wrap_i64 (by omega) (by omega), ?_⟩
  simp [h0, hn]
  omega
theorem g_GrowP0 (s : Store) (nx : Nat) : Gives Go.Proofs.Tryz.prog GL 111 [.nils, .p (.int .i64 0)] s nx .nils [] [] nx := by
  refine Gives.mk_walkK (N := 27) (args := [.nils, .p (.int .i64 0)]) [] [] [] [] 0 0 .nils (fun _ => []) (up1 := []) Go.Proofs.Tryz.func111 rfl rfl rfl (by simp) rfl (by simp) (by simp) (by simp) (by simp) (by simp) rfl ?_
  simp

def catP (ls : List (List Port)) : List Port := ls.flatten
theorem catP_nil : catP [] = [] := rfl
theorem catP_snoc {ls : List (List Port)} {k : Nat} {x : List Port} (e : ls[k]? = some x) : catP (ls.take (k + 1)) = catP (ls.take k) ++ x := by simp only [catP]; rw [take_snoc e]; simp
theorem catP_le {ls : List (List Port)} {k : Nat} : (catP (ls.take k)).length ≤ (catP ls).length := by
  have : catP ls = catP (ls.take k) ++ catP (ls.drop k) := by simp only [catP]; rw [← List.flatten_append, List.take_append_drop]
  rw [this]; simp
theorem catP_empty {ls : List (List Port)} (h : catP ls = []) {k : Nat} {x : List Port} (e : ls[k]? = some x) : x = [] := List.flatten_eq_nil_iff.1 h x (List.mem_of_getElem? e)

theorem c_ConcatP (ls : List (List Port)) (hn : (catP ls).length < 100000) (hl : ls.length < 100000) : Pure Go.Proofs.Tryz.prog GL 38 [.p (.lst 1 (ls.map Ports.enc))] (.p (.lst 2 ((catP ls).map Port.enc))) := by
  refine Pure.of_walk (N := 36) Go.Proofs.Tryz.func38 rfl rfl rfl (by simp) (by first | (simp; done) | simp [*]) ?_
  simp
  refine XLoop.go [0, 9, 10] [] 0 [] (fun _ => []) (fun _ (k : Nat) => [(3, .p (.int .i64 (catP (ls.take k)).length)), (11, .p (.int .i64 k))]) (fun _ _ => []) (fun k => k ≤ ls.length) (fun k => ls.length - k) 0 (by omega) ?_ ?_
  · simp [catP_nil]
  · intro k hk
    simp
    refine xif_split (fun h => ?_) (fun h => ?_)
    · simp at h
      obtain ⟨x, e⟩ := get_lt h
      have hf := catP_snoc e
      have hle := catP_le (ls := ls) (k := k + 1)
      rw [hf, List.length_append] at hle
      simp [h, e, Ports.enc, -getElem?_pos, List.getElem?_cons_zero, List.getElem?_cons_succ]
      refine ⟨wrap_i64 (by omega) (by omega), ?_⟩
      have h1 : ¬ (((catP (ls.take k)).length : Int) + x.length < 0) := by omega
      simp [h1]
      refine ⟨wrap_i64 (by omega) (by omega), k + 1, by omega, by omega, ?_⟩
      simp [hf]
    · simp at h
      have hk2 : k = ls.length := by omega
      subst hk2
      by_cases h0 : catP ls = []
      · simp [h0]
        refine xcall_gives (g_GrowP0 _ _) ?_
        simp
        refine XLoop.go [25, 26] [] 0 [] (fun _ => []) (fun _ (k : Nat) => [(6, .nils), (27, .p (.int .i64 k))]) (fun _ _ => []) (fun k => k ≤ ls.length) (fun k => ls.length - k) 0 (by omega) ?_ ?_
        · simp
        · intro k hk
          simp
          refine xif_split (fun h => ?_) (fun h => ?_)
          · simp at h
            obtain ⟨x, e⟩ := get_lt h
            have hx := catP_empty h0 e
            subst hx
            simp [h, e, Ports.enc, -getElem?_pos, List.getElem?_cons_zero, List.getElem?_cons_succ]
            refine ⟨wrap_i64 (by omega) (by omega), k + 1, by omega, by omega, ?_⟩
            simp
          · simp [XEndT, h0]
      · simp
        refine xcall_gives (g_GrowP (catP ls).length _ _ (List.length_pos_iff.2 h0) (by omega)) ?_
        simp
        refine XLoop.gor [25, 26] [] [0] (nms [6]) (fun (k : Nat) => [(6, .ref 0 2 0 (catP (ls.take k)).length none), (27, .p (.int .i64 k))]) (fun k => [(0, some (.cells 2 (if k = 0 then List.replicate (catP ls).length [.p (.int .i64 0), .p (.str [])] else (catP (ls.take k)).map Port.row)))]) (fun k => k ≤ ls.length) (fun k => ls.length - k) 0 (by omega) ?_ ?_
        · simp [catP_nil]
        · intro k hk
          simp
          refine xif_split (fun h => ?_) (fun h => ?_)
          · simp at h
            obtain ⟨x, e⟩ := get_lt h
            have hf := catP_snoc e
            have hle := catP_le (ls := ls) (k := k + 1)
            rw [hf, List.length_append] at hle
            have hR : ∃ R : List (List AV), (if k = 0 then List.replicate (catP ls).length [AV.p (.int .i64 0), AV.p (.str [])] else (catP (ls.take k)).map Port.row) = R ∧ R.take (catP (ls.take k)).length = (catP (ls.take k)).map Port.row ∧ (∀ r ∈ R, r.length = 2) ∧ (catP (ls.take k)).length ≤ R.length := by
              refine ⟨_, rfl, ?_⟩
              by_cases h0 : k = 0
              · subst h0; simp [catP_nil]
              · simp only [h0, if_false]
                exact ⟨List.take_of_length_le (by simp), by simp, by simp⟩
            obtain ⟨R, hR1, hR2, hR3, hR4⟩ := hR
            simp [h, e, hR1, Ports.enc, -getElem?_pos, List.getElem?_cons_zero, List.getElem?_cons_succ]
            have hrow : (fun x => List.map AV.p x) ∘ Port.enc = Port.row := rfl
            refine ⟨by omega, hR4, hR3, wrap_i64 (by omega) (by omega), k + 1, by omega, by omega, ?_⟩
            simp [hf, hR2, hrow]
          · simp at h
            have hk2 : k = ls.length := by omega
            subst hk2
            have hk3 : ¬ ls.length = 0 := fun h => h0 (by rw [List.length_eq_zero_iff.1 h]; rfl)
            have hrow : (fun x => List.map AV.p x) ∘ Port.enc = Port.row := rfl
            simp [XEndT, hk3, hrow]

set_option maxRecDepth 20000 in
theorem c_pneumaticlaw21_CircuitJoins (c : Circuit) (a b : Port) (hs : Sized c) (ha : a.name.length < 4611686018427387900) (hb : b.name.length < 4611686018427387900) : Pure Go.Proofs.Tryz.prog GL 8 [c.av, a.av, b.av] (.p (.bool true)) := by
  refine Pure.of_walk (N := 54) Go.Proofs.Tryz.func8 rfl rfl rfl (by simp) (by first | (simp; done) | simp [*]) ?_
  have haw := c_pneumaticlaw21_awake
  simp
  refine xcall_given ?_
  simp
  refine ⟨_, c_pneumaticlaw21_few c [a.name, b.name] hs (by simp) (by simp; omega), ?_⟩
  simp
  refine xif_split (fun h => ?_) (fun h => ?_)
  · simp
    refine xcall_pure haw ?_
    simp [XEndT]
  · simp at h
    simp
    refine xcall_pure (c_circuit_Join c a b hs) ?_
    simp
    refine xcall_pure (c_pneumaticref21_Join c a b hs) ?_
    simp
    have hj := @joinP_sized c a b hs
    generalize joinP c a b = J at hj ⊢
    refine XDraw.intro (by kernel_rfl) ?_
    simp
    refine xcall_pure haw ?_
    simp
    refine xcall_pure (c_pneumaticref21_Same J J hj hj) ?_
    simp
    refine xcall_pure (c_circuit_Same c J hs) ?_
    simp
    refine xcall_pure (c_pneumaticref21_Same c J hs hj) ?_
    simp
    exact ⟨.of (by kernel_rfl), by simp [XEndT]⟩

end Go.Am
/- Contracts: the law CircuitParts. -/
namespace Go.Am
open Go Go.Proofs Go.Pn


theorem Pure.nils_second {P : Program} {G : Globs} {f k : Nat} {a : AV} {rest : List AV} {r : AV} (h : Pure P G f (a :: .p (.lst k []) :: rest) r) : Pure P G f (a :: .nils :: rest) r := by
  have hp := h.pure
  refine ⟨by simpa [pureL, pureA] using hp, fun own w vs x y hl hv => h.run own w vs x y hl fun i x v hx hv' => ?_⟩
  match i with
  | 0 => exact hv 0 x v (by simpa using hx) hv'
  | 1 => simp at hx; subst hx; exact (hv 1 _ v rfl hv').nils_lst
  | i + 2 => exact hv (i + 2) x v (by simpa using hx) hv'

theorem c_pneumaticlaw21_right (c : Circuit) (hs : Sized c) : Pure Go.Proofs.Tryz.prog GL 37 [c.av] (.p (.bool (fewP c && decide (checkP c = 0)))) := by
  refine Pure.of_walk (N := 10) Go.Proofs.Tryz.func37 rfl rfl rfl (by simp) (by first | (simp; done) | simp [*]) ?_
  simp
  refine xcall_pure (c_pneumaticlaw21_few c [] hs (by simp) (by simp)).nils_second ?_
  by_cases h : fewP c = true
  · simp [h, manyNames]
    refine xcall_pure (c_pneumaticref21_Check c hs) ?_
    simp [XEndT, h]
  · simp [h]
    simp [XEndT]

theorem netP_at2 {c : Circuit} (h : checkP c = 0) {p : Port} (hp : p ∈ allP c) : givenErr c p = 0 ∧ ∃ (i : Nat) (g : List Port), netP c p = i ∧ i < (nets c).length ∧ (nets c)[i]? = some g ∧ p ∈ g ∧ g.length < 100000 := by
  refine ⟨allP_mem.1 hp, ?_⟩
  obtain ⟨i, g, h1, h2, h3⟩ := netP_at h hp
  exact ⟨i, g, h1, (List.getElem?_eq_some_iff.1 h2).1, h2, h3, by have := (netsL h).2 g (List.mem_of_getElem? h2); omega⟩

set_option maxRecDepth 20000 in
theorem c_pneumaticlaw21_CircuitParts (c : Circuit) (hs : Sized c) : Pure Go.Proofs.Tryz.prog GL 6 [c.av] (.p (.bool true)) := by
  refine Pure.of_walk (N := 120) Go.Proofs.Tryz.func6 rfl rfl rfl (by simp) (by first | (simp; done) | simp [*]) ?_
  have haw := c_pneumaticlaw21_awake
  simp
  refine xcall_pure (c_pneumaticlaw21_right c hs) ?_
  by_cases hr : (fewP c && decide (checkP c = 0)) = true
  · have hc : checkP c = 0 := by simp at hr; exact hr.2
    have hal := allP_le (check_parts hc).1 (check_parts hc).2.1
    have hnl := netsL hc
    have hpl := (check_parts hc).2.2
    have hfl : (catP (nets c)).length = (allP c).length := nets_flat hc
    have hmn := nets_many hc
    simp [hr]
    refine xcall_pure (c_circuit_Ports c hs) ?_
    simp [hc]
    refine xcall_pure (c_circuit_Nets c hs) ?_
    simp [hc]
    refine xcall_pure (c_ConcatP (nets c) (by rw [hfl]; omega) (by omega)) ?_
    simp [hfl]
    refine XLoop.go [1, 3, 5, 43, 44] [0] 0 [] (fun _ => []) (fun _ (k : Nat) => [(45, .p (.int .i64 k))]) (fun _ _ => []) (fun k => k ≤ (allP c).length) (fun k => (allP c).length - k) 0 (by omega) ?_ ?_
    · simp
      try decide
    · rintro k hk
      simp
      refine xif_split (fun h => ?_) (fun h => ?_)
      · simp at h
        obtain ⟨p, e⟩ := get_lt h
        obtain ⟨hg, i, g, h1, h2, h3, h4, h5⟩ := netP_at2 hc (List.mem_of_getElem? e)
        have h6 : ¬ ((nets c).length : Int) ≤ (i : Int) := by omega
        have h60 : ¬ (i : Int) < 0 := by omega
        simp [h, e, -getElem?_pos, List.getElem?_cons_zero, List.getElem?_cons_succ]
        refine xcall_pure (c_circuit_Net c p hs) ?_
        simp [hc, hg, h1]
        refine XDraw.intro (by kernel_rfl) ?_
        simp [h6, h60, h2, h3, Ports.enc, -getElem?_pos, List.getElem?_cons_zero, List.getElem?_cons_succ]
        refine xcall_pure (c_Con_Port g p (by omega)) ?_
        simp [h4]
        refine ⟨.of (by kernel_rfl), wrap_i64 (by omega) (by omega), k + 1, by omega, by omega, ?_⟩
        simp
        try decide
      · simp
        refine XLoop.go [1, 3, 5, 78, 79] [0] 0 [] (fun _ => []) (fun _ (k : Nat) => [(80, .p (.int .i64 k))]) (fun _ _ => []) (fun k => k ≤ c.pipes.length) (fun k => c.pipes.length - k) 0 (by omega) ?_ ?_
        · simp
          try decide
        · rintro k hk
          simp
          refine xif_split (fun h => ?_) (fun h => ?_)
          · simp at h
            obtain ⟨x, e⟩ := get_lt h
            have hx := List.mem_of_getElem? e
            obtain ⟨m1, m2⟩ := ends_mem hc hx
            have hsame := (netP_same hc m1 m2).2 (.fwd _ x (.refl _) hx)
            have hg1 := allP_mem.1 m1
            have hg2 := allP_mem.1 m2
            simp [h, e, -getElem?_pos, List.getElem?_cons_zero, List.getElem?_cons_succ]
            refine xcall_pure (c_circuit_Net c x.fr hs) ?_
            simp [hc, hg1]
            refine xcall_pure (c_circuit_Net c x.to hs) ?_
            simp [hc, hg2, hsame]
            refine ⟨wrap_i64 (by omega) (by omega), k + 1, by omega, by omega, ?_⟩
            simp
            try decide
          · simp
            refine ⟨wrap_i64 (by omega) (by omega), ?_⟩
            have h7 : ((allP c).length : Int) ≤ (nets c).length + c.pipes.length := by omega
            rw [decide_eq_true h7]
            simp
            refine xcall_pure haw ?_
            simp [XEndT]
  · simp [hr]
    refine xcall_pure haw ?_
    simp [XEndT]

end Go.Am
/- Contracts: the law CircuitReturns. -/
namespace Go.Am
open Go Go.Proofs Go.Pn

theorem added_facts {c : Circuit} {p : Part} (h : addErr c p = 0) : ∃ (i : Nat), partI (addP c p) p.name = i ∧ checkP (addP c p) = 0 ∧ remErr (addP c p) p.name = 0 ∧ remP (addP c p) p.name = c ∧
    (0 ≤ p.kind ∧ p.kind < 14) ∧ (nets (addP c p)).length = (nets c).length + (portsOf p).length ∧
    ∀ s ∈ portsOf p, givenErr (addP c p) ⟨i, s⟩ = 0 ∧ ∃ (j : Nat) (g : List Port), netP (addP c p) ⟨i, s⟩ = j ∧ j < (nets (addP c p)).length ∧ (nets (addP c p))[j]? = some g ∧ g.length = 1 := by
  obtain ⟨h1, h2, h3, h4⟩ := addErr_zero h
  obtain ⟨k1, k2, k3⟩ := added_back h
  rw [h4]
  have hp : 0 ≤ p.kind ∧ p.kind < 14 := (check_parts h3).1 p (List.mem_of_getElem? (show (addOut c p).parts[addAt c.parts p.name]? = some p by rw [addOut_at]; simp))
  refine ⟨_, k1, h3, k2, k3, hp, nets_added h hp, fun s hs => ?_⟩
  have hq : (⟨addAt c.parts p.name, s⟩ : Port) ∈ ownP (addAt c.parts p.name) p := List.mem_map.2 ⟨s, hs, rfl⟩
  obtain ⟨j, g, e1, e2, e3⟩ := own_net h hq
  exact ⟨allP_mem.1 (added_mem.2 (List.mem_append.2 (.inr hq))), j, g, e1, (List.getElem?_eq_some_iff.1 e2).1, e2, e3⟩

set_option maxRecDepth 20000 in
theorem c_pneumaticlaw21_CircuitReturns (c : Circuit) (p : Part) (hs : Sized c) (hp : p.name.length < 4611686018427387900) : Pure Go.Proofs.Tryz.prog GL 7 [c.av, p.av] (.p (.bool true)) := by
  refine Pure.of_walk (N := 131) Go.Proofs.Tryz.func7 rfl rfl rfl (by simp) (by first | (simp; done) | simp [*]) ?_
  have haw := c_pneumaticlaw21_awake
  simp
  refine xcall_pure (c_pneumaticlaw21_right c hs) ?_
  by_cases hr : (fewP c && decide (checkP c = 0)) = true
  · have hc : checkP c = 0 := by simp at hr; exact hr.2
    have hnl := netsL hc
    simp [hr]
    refine xif_split (fun h => ?_) (fun h => ?_)
    · simp
      refine xcall_pure haw ?_
      simp [XEndT]
    · simp
      refine xcall_pure (c_circuit_Add c p hs hp) ?_
      simp
      by_cases he : addErr c p = 0
      · obtain ⟨i, f1, f2, f3, f4, f5, f6, f7⟩ := added_facts he
        have hA := addP_sized hs hp
        generalize addP c p = A at *
        have hnA := netsL f2
        have hke : kindErr p.kind = 0 := kindErr_ok.2 f5
        have hi0 : ¬ (i : Int) < 0 := by omega
        simp [he]
        refine xcall_pure (c_circuit_Remove A p.name hA hp) ?_
        simp [f3, f4]
        refine xcall_pure (c_circuit_Nets c hs) ?_
        simp [hc]
        refine xcall_pure (c_circuit_Nets A hA) ?_
        simp [f2]
        refine xcall_pure (c_part_Ports p.kind) ?_
        simp [hke]
        refine xcall_pure (c_circuit_Find A p.name hA) ?_
        rw [← partI, f1]
        simp [f2, hi0]
        refine xcall_pure (c_pneumaticref21_Same c c hs hs) ?_
        have hpl : (kindPorts p.kind.toNat).length < 1000 := by
          have := (kindPorts_sorted (k := p.kind.toNat) (by omega)).2.2
          omega
        have hpo : portsOf p = kindPorts p.kind.toNat := rfl
        rw [hpo] at f6 f7
        generalize kindPorts p.kind.toNat = own at f6 f7 hpl
        have f8 : ((nets A).length : Int) = (nets c).length + own.length := by omega
        simp
        refine ⟨wrap_i64 (by omega) (by omega), ?_⟩
        simp [f8]
        refine XLoop.go [5, 10, 14, 95, 96] [2] 0 [] (fun _ => []) (fun _ (k : Nat) => [(97, .p (.int .i64 k))]) (fun _ _ => []) (fun k => k ≤ own.length) (fun k => own.length - k) 0 (by omega) ?_ ?_
        · simp
          try decide
        · rintro k hk
          simp
          refine xif_split (fun h => ?_) (fun h => ?_)
          · simp at h
            obtain ⟨s, e⟩ := get_lt h
            obtain ⟨hg, j, g, h1, h2, h3, h4⟩ := f7 s (List.mem_of_getElem? e)
            have h6 : ¬ ((nets A).length : Int) ≤ (j : Int) := by omega
            have h60 : ¬ (j : Int) < 0 := by omega
            simp [h, e, -getElem?_pos, List.getElem?_cons_zero, List.getElem?_cons_succ]
            refine xcall_pure (c_circuit_Net A ⟨i, s⟩ hA) ?_
            simp [f2, hg, h1, h6, h60, h2, h3, Ports.enc, h4, -getElem?_pos, List.getElem?_cons_zero, List.getElem?_cons_succ]
            refine ⟨wrap_i64 (by omega) (by omega), k + 1, by omega, by omega, ?_⟩
            simp
            try decide
          · simp
            refine xcall_pure haw ?_
            simp [XEndT]
      · simp [he]
        refine xcall_pure haw ?_
        simp [XEndT]
  · simp [hr]
    refine xcall_pure haw ?_
    simp [XEndT]

end Go.Am
/- Contracts: the law CircuitMerges. -/
namespace Go.Am
open Go Go.Proofs Go.Pn

theorem joined_nets {c : Circuit} {a b : Port} (h : joinErr c a b = 0) : (nets c).length = (nets (joinP c a b)).length + (if netP c a = netP c b then 0 else 1) := by
  obtain ⟨h1, h2, h3, _⟩ := joinErr_zero.1 h
  have hA := joinP_check h
  have hm : ∀ y, y ∈ (joinP c a b).pipes ↔ y ∈ c.pipes ∨ y = pipeOf a b := by
    intro y
    rw [joinP_is h]
    exact pipedL_mem
  have ha := allP_mem.2 h2
  have hb := allP_mem.2 h3
  rcases @pipeOf_ends a b with ⟨e1, e2⟩ | ⟨e1, e2⟩
  · have := nets_join (x := pipeOf a b) h1 hA (by rw [joinP_is h]) hm (by rw [e1]; exact ha) (by rw [e2]; exact hb)
    rw [e1, e2] at this
    exact this
  · have := nets_join (x := pipeOf a b) h1 hA (by rw [joinP_is h]) hm (by rw [e1]; exact hb) (by rw [e2]; exact ha)
    rw [e1, e2] at this
    simp only [eq_comm (a := netP c b)] at this
    exact this

theorem joins_err {c : Circuit} {a b u v : Port} (h : joinErr c a b = 0) (hn : joinErr (joinP c a b) u v ≠ 0 ∨ joinErr c u v ≠ 0) :
    joinErr (joinP c a b) u v = joinErr c u v ∨ joinErr (joinP c a b) u v = 7 ∨ joinErr (joinP c a b) u v = 5 := by
  obtain ⟨h1, h2, h3, h4, h5, h6⟩ := joinErr_zero.1 h
  have hA := joinP_check h
  have hl := (check_parts h1).2.2
  rw [joinP_is h] at hA hn ⊢
  have g1 : givenErr ⟨c.parts, pipedL c.pipes (pipeOf a b)⟩ u = givenErr c u := rfl
  have g2 : givenErr ⟨c.parts, pipedL c.pipes (pipeOf a b)⟩ v = givenErr c v := rfl
  by_cases k1 : givenErr c u = 0
  · by_cases k2 : givenErr c v = 0
    · by_cases e : joinErr ⟨c.parts, pipedL c.pipes (pipeOf a b)⟩ u v = 0
      · obtain ⟨_, _, _, q4, q5, q6⟩ := joinErr_zero.1 e
        have : joinErr c u v = 0 := joinErr_zero.2 ⟨h1, k1, k2, fun hm => q4 (pipedL_mem.2 (.inl hm)), q5, by omega⟩
        rcases hn with hn | hn
        · exact (hn e).elim
        · exact (hn this).elim
      · right
        unfold joinErr at e ⊢
        rw [hA, g1, g2, k1, k2] at e ⊢
        simp only [ne_eq, not_true_eq_false, if_false] at e ⊢
        split
        · exact .inl rfl
        · rename_i e1
          rw [if_neg e1] at e
          split
          · exact .inl rfl
          · rename_i e2
            rw [if_neg e2] at e
            split
            · exact .inr rfl
            · rename_i e3; rw [if_neg e3] at e; exact (e rfl).elim
    · left
      unfold joinErr
      rw [hA, h1, g1, g2, k1]
      simp [k2]
  · left
    unfold joinErr
    rw [hA, h1, g1]
    simp [k1]

theorem joins_swap {c : Circuit} {a b u v : Port} (h : joinErr c a b = 0) (h2 : joinErr (joinP c a b) u v = 0) (h3 : joinErr c u v = 0) :
    joinErr (joinP c u v) b a = 0 ∧ joinP (joinP c u v) b a = joinP (joinP c a b) u v := by
  obtain ⟨a1, a2, a3, a4, a5, a6⟩ := joinErr_zero.1 h
  have hD := joinP_check h3
  have hB := joinP_check h2
  obtain ⟨_, _, _, b4, b5, b6⟩ := joinErr_zero.1 h2
  have e1 := joinP_is h
  have e3 := joinP_is h3
  have hX : pipeOf b a = pipeOf a b := pipeOf_comm
  rw [e1] at b4 b6
  have hz : joinErr (joinP c u v) b a = 0 := by
    rw [e3] at hD ⊢
    refine joinErr_zero.2 ⟨hD, a3, a2, fun hm => ?_, fun e => a5 e.symm, ?_⟩
    · rw [hX] at hm
      rcases pipedL_mem.1 hm with hm | hm
      · exact a4 hm
      · exact b4 (pipedL_mem.2 (.inr hm.symm))
    · have p1 : (pipedL c.pipes (pipeOf a b)).length ≠ 256 := b6
      show (pipedL c.pipes (pipeOf u v)).length ≠ 256
      rw [pipedL_length] at p1 ⊢
      exact p1
  refine ⟨hz, ?_⟩
  have hZ := joinP_check hz
  have f1 := joinP_is hz
  have f2 := joinP_is h2
  rw [f1, e3, hX] at hZ ⊢
  rw [f2, e1] at hB ⊢
  have s1 := (checkP_zero.1 hZ).2.2.2
  have s2 := (checkP_zero.1 hB).2.2.2
  congr 1
  refine asc_unique s1 s2 fun y => ?_
  show y ∈ pipedL (pipedL c.pipes (pipeOf u v)) (pipeOf a b) ↔ y ∈ pipedL (pipedL c.pipes (pipeOf a b)) (pipeOf u v)
  rw [pipedL_mem, pipedL_mem, pipedL_mem, pipedL_mem]
  grind


set_option maxRecDepth 20000 in
theorem c_pneumaticlaw21_CircuitMerges (c : Circuit) (x y : Pipe) (hs : Sized c) (hx : x.fr.name.length < 4611686018427387900 ∧ x.to.name.length < 4611686018427387900) (hy : y.fr.name.length < 4611686018427387900 ∧ y.to.name.length < 4611686018427387900) : Pure Go.Proofs.Tryz.prog GL 9 [c.av, x.av, y.av] (.p (.bool true)) := by
  refine Pure.of_walk (N := 158) Go.Proofs.Tryz.func9 rfl rfl rfl (by simp) (by first | (simp; done) | simp [*]) ?_
  have haw := c_pneumaticlaw21_awake
  simp
  refine xcall_pure (c_pneumaticlaw21_right c hs) ?_
  by_cases hr : (fewP c && decide (checkP c = 0)) = true
  · have hc : checkP c = 0 := by simp at hr; exact hr.2
    have hnl := netsL hc
    simp [hr]
    refine xcall_given ?_
    simp
    refine ⟨_, c_pneumaticlaw21_few c [x.fr.name, x.to.name, y.fr.name, y.to.name] hs (by simp) (by simp; omega), ?_⟩
    simp
    refine xif_split (fun h => ?_) (fun h => ?_)
    · simp
      refine xcall_pure haw ?_
      simp [XEndT]
    · simp
      refine xcall_pure (c_circuit_Join c x.fr x.to hs) ?_
      by_cases he : joinErr c x.fr x.to = 0
      · obtain ⟨_, g1, g2, _⟩ := joinErr_zero.1 he
        have hn := joined_nets he
        have hA := @joinP_sized c x.fr x.to hs
        have hAc := joinP_check he
        have hnA := netsL hAc
        have hje := @joins_err c x.fr x.to y.fr y.to he
        have hjs := @joins_swap c x.fr x.to y.fr y.to he
        generalize joinP c x.fr x.to = A at *
        simp [he]
        refine xcall_pure (c_circuit_Net c x.fr hs) ?_
        simp [hc, g1]
        refine xcall_pure (c_circuit_Net c x.to hs) ?_
        simp [hc, g2]
        refine xcall_pure (c_circuit_Nets c hs) ?_
        simp [hc]
        refine xcall_pure (c_circuit_Nets A hA) ?_
        simp [hAc]
        by_cases hnp : netP c x.fr = netP c x.to
        · rw [if_pos hnp] at hn
          have hn2 : ((nets A).length : Int) = (nets c).length - 0 := by omega
          simp [hnp]
          refine ⟨wrap_i64 (by omega) (by omega), ?_⟩
          simp [hn2]
          refine xcall_pure (c_circuit_Join A y.fr y.to hA) ?_
          have hB := @joinP_sized A y.fr y.to hA
          have hD := @joinP_sized c y.fr y.to hs
          by_cases q1 : joinErr A y.fr y.to = 0
          · by_cases q2 : joinErr c y.fr y.to = 0
            · obtain ⟨z1, z2⟩ := hjs q1 q2
              simp [q1]
              refine xcall_pure (c_circuit_Join c y.fr y.to hs) ?_
              simp [q2]
              generalize joinP A y.fr y.to = B at *
              generalize joinP c y.fr y.to = D at *
              refine xcall_pure (c_circuit_Join D x.to x.fr hD) ?_
              simp [z1, z2]
              refine xcall_pure (c_circuit_Same B B hB) ?_
              simp
              refine xcall_pure (c_pneumaticref21_Same B B hB hB) ?_
              simp
              refine xcall_pure haw ?_
              simp [XEndT]
            · have z := hje (.inr q2)
              simp [q1]
              refine xcall_pure (c_circuit_Join c y.fr y.to hs) ?_
              simp [q2]
              rw [q1] at z
              exact (by rcases z with z | z | z <;> omega : False).elim
          · have z := hje (.inl q1)
            simp
            refine xcall_pure (c_circuit_Join c y.fr y.to hs) ?_
            simp [q1]
            generalize joinErr A y.fr y.to = e1 at *
            generalize joinErr c y.fr y.to = e2 at *
            by_cases z1 : e1 = e2
            · simp [z1]
              refine xcall_pure haw ?_
              simp [XEndT]
            · by_cases z2 : e1 = 7
              · subst z2
                simp [z1]
                refine xcall_pure haw ?_
                simp [XEndT]
              · have z3 : e1 = 5 := by rcases z with z | z | z <;> omega
                subst z3
                simp [z1]
                refine xcall_pure haw ?_
                simp [XEndT]
        · rw [if_neg hnp] at hn
          have hn2 : ((nets A).length : Int) = (nets c).length - 1 := by omega
          simp [hnp]
          refine ⟨wrap_i64 (by omega) (by omega), ?_⟩
          simp [hn2]
          refine xcall_pure (c_circuit_Join A y.fr y.to hA) ?_
          have hB := @joinP_sized A y.fr y.to hA
          have hD := @joinP_sized c y.fr y.to hs
          by_cases q1 : joinErr A y.fr y.to = 0
          · by_cases q2 : joinErr c y.fr y.to = 0
            · obtain ⟨z1, z2⟩ := hjs q1 q2
              simp [q1]
              refine xcall_pure (c_circuit_Join c y.fr y.to hs) ?_
              simp [q2]
              generalize joinP A y.fr y.to = B at *
              generalize joinP c y.fr y.to = D at *
              refine xcall_pure (c_circuit_Join D x.to x.fr hD) ?_
              simp [z1, z2]
              refine xcall_pure (c_circuit_Same B B hB) ?_
              simp
              refine xcall_pure (c_pneumaticref21_Same B B hB hB) ?_
              simp
              refine xcall_pure haw ?_
              simp [XEndT]
            · have z := hje (.inr q2)
              simp [q1]
              refine xcall_pure (c_circuit_Join c y.fr y.to hs) ?_
              simp [q2]
              rw [q1] at z
              exact (by rcases z with z | z | z <;> omega : False).elim
          · have z := hje (.inl q1)
            simp
            refine xcall_pure (c_circuit_Join c y.fr y.to hs) ?_
            simp [q1]
            generalize joinErr A y.fr y.to = e1 at *
            generalize joinErr c y.fr y.to = e2 at *
            by_cases z1 : e1 = e2
            · simp [z1]
              refine xcall_pure haw ?_
              simp [XEndT]
            · by_cases z2 : e1 = 7
              · subst z2
                simp [z1]
                refine xcall_pure haw ?_
                simp [XEndT]
              · have z3 : e1 = 5 := by rcases z with z | z | z <;> omega
                subst z3
                simp [z1]
                refine xcall_pure haw ?_
                simp [XEndT]
      · simp [he]
        refine xcall_pure haw ?_
        simp [XEndT]
  · simp [hr]
    refine xcall_pure haw ?_
    simp [XEndT]

end Go.Am
