/- Lemmas and contracts for the proof of a statement of this seat. -/
import Derived.Test.YtebnpnkcoibooaaGreatDoorZCT
import Derived.Test.YtebnpnkcoibooaaGreatDoorZCK
set_option linter.unusedVariables false
set_option linter.unusedSimpArgs false
/- Contracts: the awake examples of chapter 22, and what is small there. -/
namespace Go.Am
open Go Go.Proofs Go.Pn


def fourE : Circuit := ⟨fourC.parts, fourC.pipes.take 3 ++ ⟨⟨1, [50]⟩, ⟨3, [49, 52]⟩⟩ :: fourC.pipes.drop 3⟩
def f22a : Fnd := ⟨1, ⟨3, [49, 52]⟩⟩
def f22b : Fnd := ⟨5, ⟨1, [50]⟩⟩
theorem k22_c : checkP fourC = 0 ∧ checkP fourE = 0 := by decide +kernel
theorem k22_f : findingsL fourC = [f22a, f22b] ∧ findingsL fourE = [] := by decide +kernel
theorem k22_t : textErr fourC f22a = 0 ∧ textP fourC f22a = [111, 112, 101, 110, 32, 112, 105, 108, 111, 116, 58, 32, 86, 46, 49, 52] := by decide +kernel
theorem k22_u : textErr fourC f22b = 0 ∧ textP fourC f22b = [100, 101, 97, 100, 32, 101, 110, 100, 58, 32, 65, 48, 46, 50] := by decide +kernel
theorem k22_d : drvErr fourC [65] = 0 ∧ drvRes fourC [65] = (3, true) := by decide +kernel
theorem k22_b : behErr fourC [83] = 0 ∧ behL fourC [83] = [0, 1, 3] ∧ behErr fourC [65] = 0 ∧ behL fourC [65] = [1] := by decide +kernel
theorem k22_e : behErr fourE [65] = 0 ∧ behL fourE [65] = [0, 1, 3] := by decide +kernel
theorem k22_i : idleL fourC = [1] := by decide +kernel
theorem k22_s : Sized fourE := ⟨by decide +kernel, by decide +kernel, by decide +kernel⟩
theorem k22_l : fourC.pipes.length = 4 := by decide +kernel

set_option maxRecDepth 40000 in
theorem c_pneumaticlaw22_awake (_ : Unit) : Pure Go.Proofs.Tryz.prog GL 40 [] (.p (.bool true)) := by
  refine Pure.of_walk (N := 146) Go.Proofs.Tryz.func40 rfl rfl rfl (by simp) (by first | (simp; done) | simp [*]) ?_
  obtain ⟨hs, _⟩ := four_sized
  have hse := k22_s
  have hpl := k22_l
  have hFi := c_inspect_Findings fourC hs
  have hFe := c_inspect_Findings fourE hse
  have hTa := c_inspect_Text fourC f22a hs (by decide)
  have hTb := c_inspect_Text fourC f22b hs (by decide)
  have hDr := c_inspect_Driver fourC [65] hs
  have hBs := c_inspect_Behind fourC [83] hs
  have hBa := c_inspect_Behind fourC [65] hs
  have hId := c_inspect_Idle fourC hs
  have hBe := c_inspect_Behind fourE [65] hse
  rw [k22_c.1, if_pos rfl, k22_f.1] at hFi
  rw [k22_c.2, if_pos rfl, k22_f.2] at hFe
  rw [k22_t.1, k22_t.2] at hTa
  rw [k22_u.1, k22_u.2] at hTb
  rw [k22_d.1, k22_d.2] at hDr
  rw [k22_b.1, k22_b.2.1] at hBs
  rw [k22_b.2.2.1, k22_b.2.2.2] at hBa
  rw [k22_i, k22_c.1] at hId
  rw [k22_e.1, k22_e.2] at hBe
  simp
  refine xcall_pure (c_pneumaticlaw21_Four) ?_
  simp
  refine xcall_pure hFi ?_
  simp
  refine XDraw.intro (by kernel_rfl) ?_
  simp
  refine xcall_pure hTa ?_
  simp
  refine ⟨.of (by kernel_rfl), ?_⟩
  refine XDraw.intro (by kernel_rfl) ?_
  simp
  refine xcall_pure hTb ?_
  simp
  refine ⟨.of (by kernel_rfl), ?_⟩
  refine xcall_pure hDr ?_
  simp
  refine xcall_pure hBs ?_
  simp
  refine xcall_pure hBa ?_
  simp
  refine xcall_pure hId ?_
  simp
  refine xcall_gives (g_ClonePipe fourC.pipes _ _ (by decide)) ?_
  simp
  have hIn := fun s nx h1 h2 h3 h4 => g_InsPipe fourC.pipes 3 ⟨⟨1, [50]⟩, ⟨3, [49, 52]⟩⟩ 2 3 (some 1) s nx h1 h2 (by decide) (by rw [hpl]; decide) (by rw [hpl]; decide) h3 h4
  have hO : fourC.pipes.take 3 ++ ⟨⟨1, [50]⟩, ⟨3, [49, 52]⟩⟩ :: fourC.pipes.drop 3 = fourE.pipes := rfl
  have hP : fourC.parts = fourE.parts := rfl
  rw [hO] at hIn
  refine xcall_gives (hIn _ _ (by decide) (by decide) (by simp [get]) (by simp [get])) ?_
  rw [hP]
  simp
  refine xcall_pure hFe ?_
  simp
  refine xcall_pure hBe ?_
  simp
  refine xcall_lent ?_
  simp
  refine ⟨_, c_Eq_Int [0, 1, 3] [0, 1, 3] (by decide), rfl, ?_⟩
  simp
  refine xcall_lent ?_
  simp
  refine ⟨_, c_Eq_Int [1] [1] (by decide), rfl, ?_⟩
  simp
  refine xcall_lent ?_
  simp
  refine ⟨_, c_Eq_Int [1] [1] (by decide), rfl, ?_⟩
  simp
  refine xcall_lent ?_
  simp
  refine ⟨_, c_Eq_Int [0, 1, 3] [0, 1, 3] (by decide), rfl, ?_⟩
  simp [XEndT]

theorem c_pneumaticlaw22_few_1 (s : Txt) (hs : s.length < 4611686018427387904) : Pure Go.Proofs.Tryz.prog GL 90 [.p (.str s)] (.p (.bool (decide (60 < s.length)))) := by
  refine Pure.of_walk (N := 6) Go.Proofs.Tryz.func90 rfl rfl rfl (by simp) (by first | (simp; done) | simp [*]) ?_
  simp
  simp [XEndT]
  omega

theorem c_pneumaticlaw22_few (c : Circuit) (l : List Txt) (hs : Sized c) (hl : l.length < 100) (hn : ∀ s ∈ l, s.length < 4611686018427387900) : Pure Go.Proofs.Tryz.prog GL 39 [c.av, .p (.lst 1 (l.map Txt.enc))] (.p (.bool (fewP c && !manyNames l))) := by
  refine Pure.of_walk (N := 12) Go.Proofs.Tryz.func39 rfl rfl rfl (by simp) (by first | (simp; done) | simp [*]) ?_
  simp
  refine xcall_pure (c_pneumaticref21_Few c hs) ?_
  cases hf : fewP c with
  | false =>
    simp [XEndT]
  | true =>
    simp
    refine xcall_pure (c_ConF_Txt l (fun s => decide (60 < s.length)) 90 [] rfl (by omega) (fun s hs => c_pneumaticlaw22_few_1 s (by have := hn s hs; omega))) ?_
    simp [XEndT, manyNames]

def takeF (l : List Fnd) (k : Nat) : List Fnd := l.take k
theorem c_pneumaticlaw22_own (l : List Fnd) (hl : l.length < 100000) : Pure Go.Proofs.Tryz.prog GL 46 [.p (.lst 3 (l.map Fnd.enc))] (.p (.lst 3 (l.map Fnd.enc))) := by
  refine Pure.of_walk (N := 18) Go.Proofs.Tryz.func46 rfl rfl rfl (by simp) (by first | (simp; done) | simp [*]) ?_
  simp
  refine XLoop.go [6, 7] [] 1 [0] (nms [3]) (fun nx (k : Nat) => [(3, .acc nx 3 (takeF l k).length), (8, .p (.int .i64 k))]) (fun nx k => [(nx, accB 3 ((takeF l k).map Fnd.row))]) (fun k => k ≤ l.length) (fun k => l.length - k) 0 (by omega) ?_ ?_
  · simp [takeF]
  · intro k hk
    have hsn := fun {x} (e : l[k]? = some x) => show takeF l (k + 1) = takeF l k ++ [x] from take_snoc e
    have hend : k = l.length → takeF l k = l := fun e => by rw [e, takeF, List.take_length]
    have hlen : (takeF l k).length ≤ k := List.length_take_le ..
    generalize takeF l k = A at hsn hend hlen
    simp
    refine xif_split (fun h => ?_) (fun h => ?_)
    · simp at h
      obtain ⟨x, e⟩ := get_lt h
      have hsn2 := hsn e
      simp [h, e, Fnd.enc, -getElem?_pos, List.getElem?_cons_zero, List.getElem?_cons_succ]
      refine ⟨by omega, wrap_i64 (by omega) (by omega), k + 1, by omega, by omega, ?_⟩
      simp [hsn2]
    · simp at h
      have hA := hend (by omega)
      subst hA
      simp [XEndT]

theorem findings_len {c : Circuit} (h : checkP c = 0) : (findingsL c).length ≤ 9000 := by
  have h2 := check_parts h
  have hal := allP_len h2.1 (by omega)
  have := @allF_len c 7
  have h7 : 7 * (allP c).length ≤ 7 * 1200 := Nat.mul_le_mul (by omega) hal
  have e : allF c 7 = findingsL c := rfl
  rw [e] at this
  omega

set_option maxRecDepth 20000 in
theorem c_pneumaticlaw22_InspectFinds (c : Circuit) (f : Fnd) (hs : Sized c) (hf : f.at_.name.length < 4611686018427387900) : Pure Go.Proofs.Tryz.prog GL 7 [c.av, f.av] (.p (.bool true)) := by
  refine Pure.of_walk (N := 65) Go.Proofs.Tryz.func7 rfl rfl rfl (by simp) (by first | (simp; done) | simp [*]) ?_
  have haw := c_pneumaticlaw22_awake ()
  have hFe := c_pneumaticlaw22_few c [f.at_.name] hs (by simp) (by simpa using hf)
  have hA := c_inspect_Findings c hs
  have hB := c_pneumaticref22_Findings c hs
  have hC := c_inspect_Text c f hs hf
  have hD := c_pneumaticref22_Text c f hs hf
  have hlen : (if checkP c = 0 then findingsL c else []).length < 100000 := by
    split
    · rename_i h
      have := findings_len h
      omega
    · simp
  have hO := c_pneumaticlaw22_own (if checkP c = 0 then findingsL c else []) hlen
  have hS := c_pneumaticref22_Same (if checkP c = 0 then findingsL c else []) (if checkP c = 0 then findingsL c else []) (by omega)
  generalize (if checkP c = 0 then findingsL c else []) = L at *
  simp
  refine xcall_given ?_
  simp
  refine ⟨_, hFe, ?_⟩
  simp
  refine xif_split (fun h => ?_) (fun h => ?_)
  · simp
    refine xcall_pure haw ?_
    simp [XEndT]
  · simp
    refine xcall_pure hA ?_
    simp
    refine xcall_pure hB ?_
    simp
    refine xcall_pure hC ?_
    simp
    refine xcall_pure hD ?_
    simp
    refine xcall_pure haw ?_
    simp
    refine xcall_pure hO ?_
    simp
    refine xcall_pure hS ?_
    simp [XEndT]

end Go.Am
/- Contracts: the law InspectSides. -/
namespace Go.Am
open Go Go.Proofs Go.Pn


theorem side_len {c : Circuit} {p : Port} {b : Bool} : (sideL c p b).length < 100000 := by
  unfold sideL
  split
  · simp
  · rename_i h
    simp only [ne_eq, Decidable.not_not] at h
    have hc : checkP c = 0 := by
      unfold sideErr at h
      by_cases h1 : checkP c ≠ 0
      · rw [if_pos h1] at h; exact h
      · simpa using h1
    have h2 := check_parts hc
    have hal := allP_len h2.1 (by omega)
    have h3 := @around_len c p
    have h4 : (onlyL c (around c p) b).length ≤ (around c p).length := List.length_filter_le ..
    omega

set_option maxRecDepth 20000 in
theorem c_pneumaticlaw22_InspectSides (c : Circuit) (p : Port) (hs : Sized c) (hp : p.name.length < 4611686018427387900) : Pure Go.Proofs.Tryz.prog GL 9 [c.av, p.av] (.p (.bool true)) := by
  refine Pure.of_walk (N := 65) Go.Proofs.Tryz.func9 rfl rfl rfl (by simp) (by first | (simp; done) | simp [*]) ?_
  have haw := c_pneumaticlaw22_awake ()
  have hFe := c_pneumaticlaw22_few c [p.name] hs (by simp) (by simpa using hp)
  have hA := c_inspect_Givers c p hs
  have hB := c_pneumaticref22_Side c p true hs
  have hC := c_inspect_Takers c p hs
  have hD := c_pneumaticref22_Side c p false hs
  have hl1 := @side_len c p true
  have hl2 := @side_len c p false
  generalize sideL c p true = L at *
  generalize sideL c p false = M at *
  simp
  refine xcall_given ?_
  simp
  refine ⟨_, hFe, ?_⟩
  simp
  refine xif_split (fun h => ?_) (fun h => ?_)
  · simp
    refine xcall_pure haw ?_
    simp [XEndT]
  · simp
    refine xcall_pure hA ?_
    simp
    refine xcall_pure hB ?_
    simp
    refine xcall_pure hC ?_
    simp
    refine xcall_pure hD ?_
    simp
    refine xcall_pure haw ?_
    simp
    refine xcall_pure (c_Eq_Port L L (by omega)) ?_
    simp
    refine xcall_pure (c_Eq_Port M M (by omega)) ?_
    simp [XEndT]

end Go.Am
