/- The bridge of the expressions. -/
import Derived.Test.YthkjeoagelhocaaGreatZX6
import Derived.Test.YthkjeoagelhocaaGreatZEv9
import Derived.Test.YthkjeoagelhocaaGreatZA7
import Derived.Handed
import Derived.SizedLaws
set_option linter.unusedVariables false
set_option linter.unusedSimpArgs false
namespace Go.Am
open Go Go.Proofs Go.Pn

theorem addE_twice (a : Addr) (m n : Nat) : (a.add m).add n = a.add (m + n) := by
  by_cases hn : n = 0
  · subst hn; simp [Addr.add]
  · by_cases hm : m = 0
    · subst hm; simp [Addr.add, hn]
    · simp [Addr.add, hn, hm, Nat.add_assoc]
section
variable {H : Type} {enc : TypeId × Value → H} {W : World} {own : Nat → Prop}
def RowE (own : Nat → Prop) (w : World) (row : List PV) (cs : List Value) : Prop := cs.length = row.length ∧ ∀ (j : Nat) x v, row[j]? = some x → cs[j]? = some v → VRp own w x v
theorem read_sliceE {T : Type} {row : T → List PV} {Good : T → DataW H → Prop} {t e k fuel : Nat} {cs : List Value} {x : DataW H × List MemPlace} (hk : (Tryz.prog).cellsOf e = k) (hk0 : 0 < k) (ht : (Tryz.prog).underlying t = some (.slice e)) (hown : ∀ β, ¬ own β)
    (hR : ∀ n, n < fuel → ∀ cs x, DataW.trod enc Tryz.prog W 0 (fun _ => true) true n e cs = some x → ∃ a : T, RowE own W (row a) cs ∧ Good a x.1) (hrow : ∀ a, (row a).length = k)
    (h : DataW.trod enc Tryz.prog W 0 (fun _ => true) true fuel t cs = some x) :
    ∃ (l : List T) (v : Value), cs = [v] ∧ VRp own W (.lst k (l.map row)) v ∧ ((l = [] ∧ x.1 = .nil) ∨ ∃ elems rest, x.1 = .slice elems rest ∧ elems.length = l.length ∧ ∀ (i : Nat) a, l[i]? = some a → ∃ d, elems[i]? = some d ∧ Good a d) := by
  rcases DataW.trod_slice ht h with ⟨rfl, rfl⟩ | ⟨a, len, cap, elems, rest, n, hfu, rfl, rfl, _, hlc, _, hel, hi, _, _⟩
  · exact ⟨[], _, rfl, .lst0 .., .inl ⟨rfl, rfl⟩⟩
  · rw [hk] at hi
    have hall : ∀ i : Fin len, ∃ (q : T) (cs : List Value), ((W.cells? 0 (a.add (i.1 * k)) k) = some cs) ∧ RowE own W (row q) cs ∧ ∃ y, elems[i.1]? = some y ∧ Good q y.1 := by
      intro i
      have hlt : i.1 < elems.length := by rw [hel]; exact i.2
      have h1 := hi i.1 i.2
      rw [List.getElem?_eq_getElem hlt] at h1
      obtain ⟨cs, h2, h3⟩ := Option.bind_eq_some_iff.1 h1
      obtain ⟨q, h4, h5⟩ := hR n (by omega) _ _ h3
      exact ⟨q, cs, h2, h4, _, List.getElem?_eq_getElem hlt, h5⟩
    refine ⟨List.ofFn fun i => (hall i).choose, .slice (some a) len cap, rfl, ?_, .inr ⟨_, _, rfl, by simp [hel], ?_⟩⟩
    · have hcell : ∀ (i : Nat) (hi : i < len) (j : Nat) y, (row (hall ⟨i, hi⟩).choose)[j]? = some y → ∃ v, W.cell? (a.add (i * k + j)) = some v ∧ VRp own W y v := by
        intro i hi j y hy
        obtain ⟨cs, h1, h2, _⟩ := (hall ⟨i, hi⟩).choose_spec
        have hj : j < k := by
          have := (List.getElem?_eq_some_iff.1 hy).1
          rwa [hrow] at this
        simp only [World.cells?, Nat.zero_le, if_true] at h1
        have h3 := mapM_some_get h1 j j (by simp [hj])
        have hjl : j < cs.length := by rw [h2.1, hrow]; exact hj
        rw [List.getElem?_eq_getElem hjl] at h3
        refine ⟨cs[j], ?_, h2.2 j y _ hy (List.getElem?_eq_getElem hjl)⟩
        rw [← h3, addE_twice]
      rcases Nat.eq_zero_or_pos len with h0 | h0
      · subst h0
        simp
        exact .lst0 ..
      · obtain ⟨y, hy⟩ : ∃ y, (row (hall ⟨0, h0⟩).choose)[0]? = some y := ⟨_, List.getElem?_eq_getElem (by rw [hrow]; exact hk0)⟩
        obtain ⟨v, hv, _⟩ := hcell 0 h0 0 y hy
        rw [show a.add (0 * k + 0) = a by simp [Addr.add]] at hv
        have hβ : a.block < W.heap.size := World.block_lt_of_cell? W _ hv
        have hspot : a.spot = none := by
          cases hs : a.spot with
          | none => rfl
          | some z =>
            exfalso
            simp only [World.cell?] at hv
            split at hv
            · simp [hs] at hv
            · cases hv
        obtain ⟨β, o, sp⟩ := a
        simp at hspot hβ
        subst hspot
        have hl : ((List.ofFn fun i => (hall i).choose).map row).length = len := by simp
        have := VRp.lst_of (own := own) (w := W) (k := k) (rows := (List.ofFn fun i => (hall i).choose).map row) (β := β) (o := o) (c := cap) (by rw [hl]; exact hlc) hβ (hown β) (fun i j r y hr hy => by
          rw [List.getElem?_map, Option.map_eq_some_iff] at hr
          obtain ⟨q, hq, rfl⟩ := hr
          have hi : i < len := by
            have := (List.getElem?_eq_some_iff.1 hq).1
            simpa using this
          have hqe : q = (hall ⟨i, hi⟩).choose := by
            rw [List.getElem?_ofFn, dif_pos hi] at hq
            exact (Option.some.inj hq).symm
          subst hqe
          obtain ⟨v, h1, h2⟩ := hcell i hi j y hy
          refine ⟨v, ?_, h2⟩
          rw [addr_add] at h1
          simpa [Nat.add_assoc] using h1)
        rw [hl] at this
        exact this
    · intro i q hq
      have hi : i < len := by
        have := (List.getElem?_eq_some_iff.1 hq).1
        simpa using this
      have hqe : q = (hall ⟨i, hi⟩).choose := by
        rw [List.getElem?_ofFn, dif_pos hi] at hq
        exact (Option.some.inj hq).symm
      subst hqe
      obtain ⟨cs, _, _, y, h1, h2⟩ := (hall ⟨i, hi⟩).choose_spec
      exact ⟨y.1, by rw [List.getElem?_map, h1]; rfl, h2⟩

theorem weightsAll_mem {P : Program} {e : TypeId} : ∀ {l : List (DataW H)} {i : Nat} {d : DataW H} {n : Nat}, l[i]? = some d → n ∈ d.weights P e → n ∈ DataW.weightsAll P e l
  | x :: l, 0, d, n, h, hn => by simp at h; subst h; simp [DataW.weightsAll, hn]
  | x :: l, i + 1, d, n, h, hn => by
    have := weightsAll_mem (l := l) (i := i) (by simpa using h) hn
    simp [DataW.weightsAll, this]

theorem okL_of : ∀ {l : List Ex}, (∀ x ∈ l, okX x) → okL l
  | [], _ => trivial
  | x :: xs, h => ⟨h x List.mem_cons_self, okL_of fun y hy => h y (List.mem_cons_of_mem _ hy)⟩
theorem cells24 : (Tryz.prog).cellsOf 24 = 3 := by kernel_rfl
theorem cells22 : (Tryz.prog).cellsOf 22 = 1 := by kernel_rfl
theorem list3E_of {α : Type} {l : List α} (h : l.length = 3) : ∃ a b c, l = [a, b, c] := by
  match l, h with
  | [a, b, c], _ => exact ⟨a, b, c, rfl⟩
set_option maxRecDepth 100000 in
theorem read_expr (hown : ∀ β, ¬ own β) : ∀ (fuel : Nat) (cs : List Value) (x : DataW H × List MemPlace), DataW.trod enc Tryz.prog W 0 (fun _ => true) true fuel 24 cs = some x →
    ∃ e : Ex, RowE own W e.enc cs ∧ ((∀ n ∈ x.1.weights Tryz.prog 24, n ≤ reachBytes) → okX e) := by
  intro fuel
  induction fuel using Nat.strongRecOn with
  | ind fuel ih =>
    intro cs x h
    obtain ⟨xs, m, hfu, hx, hl, hn, hf⟩ := DataW.trod_struct Tryz.underlying24 h
    rw [cells24] at hl
    obtain ⟨a, b, c, rfl⟩ := list3E_of hl
    obtain ⟨x0, x1, x2, rfl⟩ := list3E_of (l := xs) (by rw [hn]; rfl)
    have h0 : DataW.trod enc Tryz.prog W 0 (fun _ => true) true m 3 [a] = some x0 := by simpa [cells3] using hf 0 ⟨ "Op", 3, 0, false, "", "", 0⟩ rfl
    have h1 : DataW.trod enc Tryz.prog W 0 (fun _ => true) true m 3 [b] = some x1 := by simpa [cells3] using hf 1 ⟨ "Index", 3, 1, false, "", "", 8⟩ rfl
    have h2 : DataW.trod enc Tryz.prog W 0 (fun _ => true) true m 22 [c] = some x2 := by simpa [cells22] using hf 2 ⟨ "Args", 22, 2, false, "", "", 16⟩ rfl
    obtain ⟨k, e0, _, _⟩ := DataW.trod_int Tryz.underlying3 h0
    obtain ⟨j, e1, _, _⟩ := DataW.trod_int Tryz.underlying3 h1
    obtain ⟨l, v, e2, r2, g2⟩ := read_sliceE (row := Ex.enc) (Good := fun e d => (∀ n ∈ d.weights Tryz.prog 24, n ≤ reachBytes) → okX e) cells24 (by omega) Tryz.underlying22 hown
      (fun n hnm cs x hx => ih n (by omega) cs x hx) (fun a => by rw [enc_eq]; rfl) h2
    simp at e0 e1 e2
    subst e0; subst e1; subst e2
    refine ⟨.mk k j l, ⟨by rw [enc_eq]; rfl, fun i y u hy hu => ?_⟩, fun hw => ?_⟩
    · rw [enc_eq] at hy
      match i with
      | 0 => simp at hy hu; subst hy; subst hu; exact .int ..
      | 1 => simp at hy hu; subst hy; subst hu; exact .int ..
      | 2 => simp only [List.getElem?_cons_succ, List.getElem?_cons_zero, Option.some.injEq] at hy hu; subst hy; subst hu; exact r2
      | i + 3 => simp at hy
    · have bE : (Tryz.prog).bytesOf 24 = 40 := by kernel_rfl
      have hreach : reachBytes = 140737488351232 := rfl
      rw [hx] at hw
      have hw2 : ∀ n ∈ x2.1.weights Tryz.prog 22, n ≤ reachBytes := fun n hn => hw n (by
        simp [DataW.weights, Tryz.underlying24, DataW.weightsEach, hn])
      rw [okX]
      rcases g2 with ⟨rfl, _⟩ | ⟨elems, rest, hx0, hle, hg⟩
      · exact ⟨by simp, trivial⟩
      · rw [hx0] at hw2
        have h3 := hw2 ((elems.length + rest.length) * 40) (by simp [DataW.weights, Tryz.underlying22, bE])
        refine ⟨by omega, okL_of fun y hy => ?_⟩
        obtain ⟨i, hi, e⟩ := List.getElem_of_mem hy
        obtain ⟨d, hd, hok⟩ := hg i y (by rw [List.getElem?_eq_getElem hi, e])
        exact hok fun n hn => hw2 n (by simp [DataW.weights, Tryz.underlying22, weightsAll_mem hd hn])
set_option maxRecDepth 100000 in
theorem read_exprArg (hown : ∀ β, ¬ own β) {base : Nat} {v : Value} {d : DataW H} {ps : List MemPlace} (hval : Value.okWide Tryz.prog W .any base 24 v) (h : DataW.Trod enc Tryz.prog W 0 (fun _ => true) true 24 v d ps) :
    ∃ e : Ex, VR (fun _ => none) own W e.av v ∧ ((∀ n ∈ d.weights Tryz.prog 24, n ≤ reachBytes) → okX e) := by
  unfold Value.okWide at hval
  rw [Tryz.underlying24] at hval
  obtain ⟨cs, rfl, _, _⟩ := hval
  obtain ⟨fuel, h⟩ := h
  obtain ⟨cs⟩ := cs
  obtain ⟨e, ⟨hl, hr⟩, hg⟩ := read_expr hown fuel _ _ h
  simp only [Value.cells] at hl hr
  refine ⟨e, .agg _ _ (by rw [hl, enc_eq]; rfl) (fun i c v hc hv => ?_), hg⟩
  have key : ∀ y, e.enc[i]? = some y → c = .p y → VR (fun _ => none) own W c v := fun y hy hcy => by
    subst hcy
    exact .p _ _ (hr i y v hy hv)
  rw [enc_eq] at key
  match i with
  | 0 => exact key _ rfl (Option.some.inj hc).symm
  | 1 => exact key _ rfl (Option.some.inj hc).symm
  | 2 => exact key _ rfl (Option.some.inj hc).symm
  | i + 3 => simp at hc
set_option maxRecDepth 100000 in
theorem read_intE {base : Nat} {v : Value} {d : DataW H} {ps : List MemPlace} (hval : Value.okWide Tryz.prog W .any base 3 v) (h : DataW.Trod enc Tryz.prog W 0 (fun _ => true) true 3 v d ps) :
    ∃ n : Int, VR (fun _ => none) own W (.p (.int .i64 n)) v := by
  obtain ⟨n, rfl, _, _, _⟩ := Go.ChangeShapes.open_int Tryz.underlying3 hval h
  exact ⟨n, .p _ _ (.int ..)⟩
end
theorem returnsHanded_sized {H : Type} {enc : TypeId × Value → H} {a : Assume} {C : Checked} {os : Os} {f : FuncId} {fn : Func} {s : ChangeSpec} {conds : List PathCond} {apart fresh handsOn again : Bool}
    (own : ownKnob C.prog.godebug = none) (started : os.Started) (noInit : C.prog.inits.idxOf? f = none) (hfn : C.prog.funcs[f]? = some fn)
    (witness : ∃ (w : World) (tape : Tape) (i : Input), w.os = os ∧ (w.forCall tape i).Shaped C.prog ∧ i.vars = [] ∧ Input.okWide C.prog (w.forCall tape i) .any w.heap.size f i ∧
      s.pre6 enc C.prog fn conds apart (w.forCall tape i).memory i.args ∧ a.holds C.prog (lone (Frame.enter C.prog f i.args .normal) [] (w.forCall tape i)))
    (contract : ∀ (W : World) (base : Nat) (args : Array Value) (ds gs : List (DataW H)) (before : List MemPlace),
      (∀ (j : Nat) t v, fn.params[j]? = some t → args[j]? = some v → Value.okWide C.prog W .any base t v) →
      DataW.Whole enc C.prog fn.params.toList s.vars apart W args.toList ds gs before →
      (DataW.weightsEach C.prog (fn.params.toList ++ s.plain.varTypes C.prog) (ds ++ gs)).all (· ≤ reachBytes) = true →
      Calls C.prog f args W fun e W' => ∃ v, e = .returned v ∧ s.post enc C.prog fn apart fresh handsOn again W args v W') :
    ReturnsInHanded a C os f .any (s.pre6 enc C.prog fn conds apart) (s.post enc C.prog fn apart fresh handsOn again) := by
  have e : s.pre6 enc C.prog fn conds apart = fun w args => (s.pre enc C.prog fn conds apart w args ∧ True) ∧ sizedMet enc C.prog fn (OpenSpec.ofChange s) apart w args := by
    funext w args
    show (s.pre enc C.prog fn conds apart w args ∧ sizedMet enc C.prog fn (OpenSpec.ofChange s) apart w args) = _
    rw [and_true]
  rw [e] at witness ⊢
  exact returnsInHanded_of_change_and (X := fun _ _ => True) (fun _ _ _ _ _ => trivial) own started noInit hfn witness fun W base args ds gs before h1 h2 _ h4 _ _ => contract W base args ds gs before h1 h2 h4
end Go.Am
