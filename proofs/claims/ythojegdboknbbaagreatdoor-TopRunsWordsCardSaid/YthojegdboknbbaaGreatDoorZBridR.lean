/- The bridge of round 7: controls and events. -/
import Derived.Test.YthojegdboknbbaaGreatDoorZYC
import Derived.Test.YthojegdboknbbaaGreatDoorZA7
import Derived.Handed
import Derived.SizedLaws
import Derived.OpenShut
import Derived.ProofKit
import Derived.Carry
import Derived.ChangeShapes
set_option linter.unusedVariables false
set_option linter.unusedSimpArgs false
namespace Go.Am
open Go Go.Proofs Go.Pn
theorem cells3 : (Tryz.prog).cellsOf 3 = 1 := by kernel_rfl
theorem cells4 : (Tryz.prog).cellsOf 4 = 1 := by kernel_rfl
theorem cells9 : (Tryz.prog).cellsOf 9 = 1 := by kernel_rfl
theorem Ka1 (a : Addr) (m n : Nat) : (a.add m).add n = a.add (m + n) := by
 by_cases hn : n = 0
 . subst hn; simp [Addr.add]
 . by_cases hm : m = 0
   . subst hm; simp [Addr.add, hn]
   . simp [Addr.add, hn, hm, Nat.add_assoc]
section
variable {H : Type} {enc : TypeId × Value -> H} {W : World} {own : Nat -> Prop}
def RowE (own : Nat -> Prop) (w : World) (row : List PV) (cs : List Value) : Prop := cs.length = row.length /\ ∀ (j : Nat) x v, row[j]? = some x -> cs[j]? = some v -> VRp own w x v
theorem Kbv {T : Type} {row : T -> List PV} {Good : T -> DataW H -> Prop} {t e k fuel : Nat} {cs : List Value} {x : DataW H × List MemPlace} (hk : (Tryz.prog).cellsOf e = k) (hk0 : 0 < k) (ht : (Tryz.prog).underlying t = some (.slice e)) (hown : ∀ β, ¬ own β)
   (hR : ∀ n, n < fuel -> ∀ cs x, DataW.trod enc Tryz.prog W 0 (fun _ => true) true n e cs = some x -> ∃ a : T, RowE own W (row a) cs /\ Good a x.1) (hrow : ∀ a, (row a).length = k)
   (h : DataW.trod enc Tryz.prog W 0 (fun _ => true) true fuel t cs = some x) :
   ∃ (l : List T) (v : Value), cs = [v] /\ VRp own W (.lst k (l.map row)) v /\ ((l = [] /\ x.1 = .nil) \/ ∃ elems rest, x.1 = .slice elems rest /\ elems.length = l.length /\ ∀ (i : Nat) a, l[i]? = some a -> ∃ d, elems[i]? = some d /\ Good a d) := by
 rcases DataW.trod_slice ht h with ⟨rfl, rfl⟩ | ⟨a, len, cap, elems, rest, n, hfu, rfl, rfl, _, hlc, _, hel, hi, _, _⟩
 . exact ⟨[], _, rfl, .lst0 .., .inl ⟨rfl, rfl⟩⟩
 . rw [hk] at hi
   have hall : ∀ i : Fin len, ∃ (q : T) (cs : List Value), ((W.cells? 0 (a.add (i.1 * k)) k) = some cs) /\ RowE own W (row q) cs /\ ∃ y, elems[i.1]? = some y /\ Good q y.1 := by
     intro i
     have hlt : i.1 < elems.length := by rw [hel]; exact i.2
     have h1 := hi i.1 i.2
     rw [List.getElem?_eq_getElem hlt] at h1
     obtain ⟨cs, h2, h3⟩ := Option.bind_eq_some_iff.1 h1
     obtain ⟨q, h4, h5⟩ := hR n (by omega) _ _ h3
     exact ⟨q, cs, h2, h4, _, List.getElem?_eq_getElem hlt, h5⟩
   refine ⟨List.ofFn fun i => (hall i).choose, .slice (some a) len cap, rfl, ?_, .inr ⟨_, _, rfl, by simp [hel], ?_⟩⟩
   . have hcell : ∀ (i : Nat) (hi : i < len) (j : Nat) y, (row (hall ⟨i, hi⟩).choose)[j]? = some y -> ∃ v, W.cell? (a.add (i * k + j)) = some v /\ VRp own W y v := by
       intro i hi j y hy
       obtain ⟨cs, h1, h2, _⟩ := (hall ⟨i, hi⟩).choose_spec
       have hj : j < k := by
         have := (gsI.1 hy).1
         rwa [hrow] at this
       simp only [World.cells?, Nat.zero_le, if_true] at h1
       have h3 := mapM_some_get h1 j j (by simp [hj])
       have hjl : j < cs.length := by rw [h2.1, hrow]; exact hj
       rw [List.getElem?_eq_getElem hjl] at h3
       refine ⟨cs[j], ?_, h2.2 j y _ hy (List.getElem?_eq_getElem hjl)⟩
       rw [<- h3, Ka1]
     rcases Nat.eq_zero_or_pos len with h0 | h0
     . subst h0
       simp
       exact .lst0 ..
     . obtain ⟨y, hy⟩ : ∃ y, (row (hall ⟨0, h0⟩).choose)[0]? = some y := ⟨_, List.getElem?_eq_getElem (by rw [hrow]; exact hk0)⟩
       obtain ⟨v, hv, _⟩ := hcell 0 h0 0 y hy
       rw [show a.add (0 * k + 0) = a by simp [Addr.add]] at hv
       have hβ : a.block < W.heap.size := World.block_lt_of_cell? W _ hv
       have hspot : a.spot = none := by
         cases hs : a.spot with
         | none => rfl
         | some z =>
           exfalso
           simp only [World.cell?] at hv
           split at hv
           . simp [hs] at hv
           . cases hv
       obtain ⟨β, o, sp⟩ := a
       simp at hspot hβ
       subst hspot
       have hl : ((List.ofFn fun i => (hall i).choose).map row).length = len := by simp
       have := VRp.lst_of (own := own) (w := W) (k := k) (rows := (List.ofFn fun i => (hall i).choose).map row) (β := β) (o := o) (c := cap) (by rw [hl]; exact hlc) hβ (hown β) (fun i j r y hr hy => by
         rw [List.getElem?_map, Option.map_eq_some_iff] at hr
         obtain ⟨q, hq, rfl⟩ := hr
         have hi : i < len := by
           have := (gsI.1 hq).1
           simpa using this
         have hqe : q = (hall ⟨i, hi⟩).choose := by
           rw [List.getElem?_ofFn, dif_pos hi] at hq
           exact (Option.some.inj hq).symm
         subst hqe
         obtain ⟨v, h1, h2⟩ := hcell i hi j y hy
         refine ⟨v, ?_, h2⟩
         rw [addr_add] at h1
         simpa [Nat.add_assoc] using h1)
       rw [hl] at this
       exact this
   . intro i q hq
     have hi : i < len := by
       have := (gsI.1 hq).1
       simpa using this
     have hqe : q = (hall ⟨i, hi⟩).choose := by
       rw [List.getElem?_ofFn, dif_pos hi] at hq
       exact (Option.some.inj hq).symm
     subst hqe
     obtain ⟨cs, _, _, y, h1, h2⟩ := (hall ⟨i, hi⟩).choose_spec
     exact ⟨y.1, by rw [List.getElem?_map, h1]; rfl, h2⟩
theorem weightsAll_mem {P : Program} {e : TypeId} : ∀ {l : List (DataW H)} {i : Nat} {d : DataW H} {n : Nat}, l[i]? = some d -> n ∈ d.weights P e -> n ∈ DataW.weightsAll P e l
 | x :: l, 0, d, n, h, hn => by simp at h; subst h; simp [DataW.weightsAll, hn]
 | x :: l, i + 1, d, n, h, hn => by
   have := weightsAll_mem (l := l) (i := i) (by simpa using h) hn
   simp [DataW.weightsAll, this]
theorem Kbp : ∀ {l : List Ex}, (∀ x ∈ l, okX x) -> okL l
 | [], _ => trivial
 | x :: xs, h => ⟨h x List.mem_cons_self, Kbp fun y hy => h y (List.mem_cons_of_mem _ hy)⟩
theorem cells53 : (Tryz.prog).cellsOf 53 = 3 := by kernel_rfl
theorem cells51 : (Tryz.prog).cellsOf 51 = 1 := by kernel_rfl
theorem Kbi {α : Type} {l : List α} (h : l.length = 3) : ∃ a b c, l = [a, b, c] := by
 match l, h with
 | [a, b, c], _ => exact ⟨a, b, c, rfl⟩
set_option maxRecDepth 100000 in
theorem Kbt (hown : ∀ β, ¬ own β) : ∀ (fuel : Nat) (cs : List Value) (x : DataW H × List MemPlace), DataW.trod enc Tryz.prog W 0 (fun _ => true) true fuel 53 cs = some x ->
   ∃ e : Ex, RowE own W e.enc cs /\ ((∀ n ∈ x.1.weights Tryz.prog 53, n <= reachBytes) -> okX e) := by
 intro fuel
 induction fuel using Nat.strongRecOn with
 | ind fuel ih =>
   intro cs x h
   obtain ⟨xs, m, hfu, hx, hl, hn, hf⟩ := DataW.trod_struct Tryz.underlying53 h
   rw [cells53] at hl
   obtain ⟨a, b, c, rfl⟩ := Kbi hl
   obtain ⟨x0, x1, x2, rfl⟩ := Kbi (l := xs) (by rw [hn]; rfl)
   have h0 : DataW.trod enc Tryz.prog W 0 (fun _ => true) true m 3 [a] = some x0 := by simpa [cells3] using hf 0 ⟨ "Op", 3, 0, false, "", "", 0⟩ rfl
   have h1 : DataW.trod enc Tryz.prog W 0 (fun _ => true) true m 3 [b] = some x1 := by simpa [cells3] using hf 1 ⟨ "Index", 3, 1, false, "", "", 8⟩ rfl
   have h2 : DataW.trod enc Tryz.prog W 0 (fun _ => true) true m 51 [c] = some x2 := by simpa [cells51] using hf 2 ⟨ "Args", 51, 2, false, "", "", 16⟩ rfl
   obtain ⟨k, e0, _, _⟩ := DataW.trod_int Tryz.underlying3 h0
   obtain ⟨j, e1, _, _⟩ := DataW.trod_int Tryz.underlying3 h1
   obtain ⟨l, v, e2, r2, g2⟩ := Kbv (row := Ex.enc) (Good := fun e d => (∀ n ∈ d.weights Tryz.prog 53, n <= reachBytes) -> okX e) cells53 (by omega) Tryz.underlying51 hown
     (fun n hnm cs x hx => ih n (by omega) cs x hx) (fun a => by rw [J4d]; rfl) h2
   simp at e0 e1 e2
   subst e0; subst e1; subst e2
   refine ⟨.mk k j l, ⟨by rw [J4d]; rfl, fun i y u hy hu => ?_⟩, fun hw => ?_⟩
   . rw [J4d] at hy
     match i with
     | 0 => simp at hy hu; subst hy; subst hu; exact .int ..
     | 1 => simp at hy hu; subst hy; subst hu; exact .int ..
     | 2 => simp only [List.getElem?_cons_succ, List.getElem?_cons_zero, Option.some.injEq] at hy hu; subst hy; subst hu; exact r2
     | i + 3 => simp at hy
   . have bE : (Tryz.prog).bytesOf 53 = 40 := by kernel_rfl
     have hreach : reachBytes = 140737488351232 := rfl
     rw [hx] at hw
     have hw2 : ∀ n ∈ x2.1.weights Tryz.prog 51, n <= reachBytes := fun n hn => hw n (by
       simp [DataW.weights, Tryz.underlying53, DataW.weightsEach, hn])
     rw [okX]
     rcases g2 with ⟨rfl, _⟩ | ⟨elems, rest, hx0, hle, hg⟩
     . exact ⟨by simp, trivial⟩
     . rw [hx0] at hw2
       have h3 := hw2 ((elems.length + rest.length) * 40) (by simp [DataW.weights, Tryz.underlying51, bE])
       refine ⟨by omega, Kbp fun y hy => ?_⟩
       obtain ⟨i, hi, e⟩ := List.getElem_of_mem hy
       obtain ⟨d, hd, hok⟩ := hg i y (by rw [List.getElem?_eq_getElem hi, e])
       exact hok fun n hn => hw2 n (by simp [DataW.weights, Tryz.underlying51, weightsAll_mem hd hn])
theorem Ka7 : (Tryz.prog).cellsOf 55 = 10 := by kernel_rfl
theorem Ka3 : (Tryz.prog).cellsOf 76 = 3 := by kernel_rfl
theorem Ka2 : (Tryz.prog).cellsOf 26 = 5 := by kernel_rfl
theorem Ka6 : (Tryz.prog).cellsOf 22 = 1 := by kernel_rfl
theorem Ka4 : (Tryz.prog).cellsOf 23 = 1 := by kernel_rfl
theorem Ka5 : (Tryz.prog).cellsOf 24 = 1 := by kernel_rfl
theorem Kbj {α : Type} {l : List α} (h : l.length = 5) : ∃ a b c d e, l = [a, b, c, d, e] := by
 match l, h with
 | [a, b, c, d, e], _ => exact ⟨a, b, c, d, e, rfl⟩
theorem Kbk {α : Type} {l : List α} (h : l.length = 6) : ∃ a b c d e f, l = [a, b, c, d, e, f] := by
 match l, h with
 | [a, b, c, d, e, f], _ => exact ⟨a, b, c, d, e, f, rfl⟩
theorem Kbh {α : Type} {l : List α} (h : l.length = 10) : ∃ a b c d e f g i j k, l = [a, b, c, d, e, f, g, i, j, k] := by
 match l, h with
 | [a, b, c, d, e, f, g, i, j, k], _ => exact ⟨a, b, c, d, e, f, g, i, j, k, rfl⟩
theorem Ka9 {P : Program} : ∀ {ts : List TypeId} {ds : List (DataW H)} {i : Nat} {t : TypeId} {d : DataW H} {n : Nat}, ts[i]? = some t -> ds[i]? = some d -> n ∈ d.weights P t -> n ∈ DataW.weightsEach P ts ds
 | t :: ts, d :: ds, 0, _, _, n, h1, h2, h => by
   simp at h1 h2; subst h1; subst h2
   rw [DataW.weightsEach]
   exact List.mem_append_left _ h
 | t :: ts, d :: ds, i + 1, _, _, n, h1, h2, h => by
   rw [DataW.weightsEach]
   exact List.mem_append_right _ (Ka9 (by simpa using h1) (by simpa using h2) h)
 | [], _, _, _, _, _, h1, _, _ => by simp at h1
 | _ :: _, [], _, _, _, _, _, h2, _ => by simp at h2
theorem Kba {P : Program} {t : TypeId} {fs : Array Field} {ds : List (DataW H)} {i : Nat} {f : Field} {d : DataW H} {n : Nat} (hu : P.underlying t = some (.struct fs)) (h1 : fs[i]? = some f) (h2 : ds[i]? = some d) (h : n ∈ d.weights P f.type) : n ∈ (DataW.agg ds).weights P t := by
 rw [DataW.weights, hu]
 exact Ka9 (i := i) (t := f.type) (by rw [List.getElem?_map, Array.getElem?_toList, h1]; rfl) h2 h
theorem row3 {own : Nat -> Prop} {w : World} {r : List PV} {cs : List Value} (h : RowE own w r cs) {i : Nat} {x : PV} {v : Value} (hx : r[i]? = some x) (hv : cs[i]? = some v) : VRp own w x v := h.2 i x v hx hv
set_option maxRecDepth 100000 in
theorem Kbu (hown : ∀ β, ¬ own β) {fuel : Nat} {cs : List Value} {x : DataW H × List MemPlace} (h : DataW.trod enc Tryz.prog W 0 (fun _ => true) true fuel 55 cs = some x) :
   ∃ g : Sig, RowE own W g.enc cs /\ ((∀ n ∈ x.1.weights Tryz.prog 55, n <= reachBytes) -> g.name.length < 2305843009213693952 /\ okX g.on /\ okX g.off) := by
 obtain ⟨xs, m, hfu, hx, hl, hn, hf⟩ := DataW.trod_struct Tryz.underlying55 h
 rw [Ka7] at hl
 obtain ⟨a0, a1, a2, a3, a4, a5, a6, a7, a8, a9, rfl⟩ := Kbh hl
 obtain ⟨x0, x1, x2, x3, x4, x5, rfl⟩ := Kbk (l := xs) (by rw [hn]; rfl)
 have h0 : DataW.trod enc Tryz.prog W 0 (fun _ => true) true m 9 [a0] = some x0 := by simpa [cells9] using hf 0 ⟨ "Name", 9, 0, false, "", "", 0⟩ rfl
 have h1 : DataW.trod enc Tryz.prog W 0 (fun _ => true) true m 3 [a1] = some x1 := by simpa [cells3] using hf 1 ⟨ "Kind", 3, 1, false, "", "", 16⟩ rfl
 have h2 : DataW.trod enc Tryz.prog W 0 (fun _ => true) true m 53 [a2, a3, a4] = some x2 := by simpa [cells53] using hf 2 ⟨ "On", 53, 2, false, "", "", 24⟩ rfl
 have h3 : DataW.trod enc Tryz.prog W 0 (fun _ => true) true m 53 [a5, a6, a7] = some x3 := by simpa [cells53] using hf 3 ⟨ "Off", 53, 5, false, "", "", 64⟩ rfl
 have h4 : DataW.trod enc Tryz.prog W 0 (fun _ => true) true m 3 [a8] = some x4 := by simpa [cells3] using hf 4 ⟨ "Delay", 3, 8, false, "", "", 104⟩ rfl
 have h5 : DataW.trod enc Tryz.prog W 0 (fun _ => true) true m 4 [a9] = some x5 := by simpa [cells4] using hf 5 ⟨ "Init", 4, 9, false, "", "", 112⟩ rfl
 obtain ⟨s, e0, hs0, hs⟩ := DataW.trod_string Tryz.underlying9 h0
 obtain ⟨k, e1, _, _⟩ := DataW.trod_int Tryz.underlying3 h1
 obtain ⟨on, r2, g2⟩ := Kbt hown _ _ _ h2
 obtain ⟨off, r3, g3⟩ := Kbt hown _ _ _ h3
 obtain ⟨dl, e4, _, _⟩ := DataW.trod_int Tryz.underlying3 h4
 obtain ⟨ini, e5, _⟩ := DataW.trod_bool Tryz.underlying4 h5
 simp at e0 e1 e4 e5
 subst e0; subst e1; subst e4; subst e5
 refine ⟨⟨s.data.toList, k, on, off, dl, ini⟩, ⟨by simp, fun i y u hy hu => ?_⟩, fun hw => ?_⟩
 . simp only [Sig.enc] at hy
   rw [J4d] at r2 r3
   match i with
   | 0 => simp at hy hu; subst hy; subst hu; exact .str _
   | 1 => simp at hy hu; subst hy; subst hu; exact .int ..
   | 2 => exact row3 r2 (i := 0) (by simpa using hy) (by simpa using hu)
   | 3 => exact row3 r2 (i := 1) (by simpa using hy) (by simpa using hu)
   | 4 => exact row3 r2 (i := 2) (by simpa using hy) (by simpa using hu)
   | 5 => exact row3 r3 (i := 0) (by simpa using hy) (by simpa using hu)
   | 6 => exact row3 r3 (i := 1) (by simpa using hy) (by simpa using hu)
   | 7 => exact row3 r3 (i := 2) (by simpa using hy) (by simpa using hu)
   | 8 => simp at hy hu; subst hy; subst hu; exact .int ..
   | 9 => simp at hy hu; subst hy; subst hu; exact .bool ..
   | i + 10 => simp at hy
 . rw [hx] at hw
   have hreach : reachBytes = 140737488351232 := rfl
   have h6 : s.data.toList.length <= reachBytes := hw _ (Kba (i := 0) Tryz.underlying55 rfl rfl (by rw [hs0, DataW.weights]; exact List.mem_singleton.2 rfl))
   exact ⟨by show s.data.toList.length < _; omega, g2 fun n hn => hw n (Kba (i := 2) Tryz.underlying55 rfl rfl hn), g3 fun n hn => hw n (Kba (i := 3) Tryz.underlying55 rfl rfl hn)⟩
theorem one_row {own : Nat -> Prop} {w : World} {x : PV} {v : Value} (h : VRp own w x v) : RowE own w [x] [v] := ⟨rfl, fun j y u hy hu => by
 match j with
 | 0 => simp at hy hu; subst hy; subst hu; exact h
 | j + 1 => simp at hy⟩
theorem Kbx {α : Type} {t e : TypeId} {B : Nat} {d : DataW H} {l : List α} {elems rest : List (DataW H)} (hu : (Tryz.prog).underlying t = some (.slice e)) (hb : (Tryz.prog).bytesOf e = B) (hB : 8 <= B) (hd : d = .slice elems rest) (hl : elems.length = l.length) (hw : ∀ n ∈ d.weights Tryz.prog t, n <= reachBytes) : l.length < 2305843009213693952 := by
 have hreach : reachBytes = 140737488351232 := rfl
 subst hd
 have := hw ((elems.length + rest.length) * B) (by simp [DataW.weights, hu, hb])
 have h2 : (elems.length + rest.length) * 8 <= (elems.length + rest.length) * B := Nat.mul_le_mul_left _ hB
 omega
set_option maxRecDepth 100000 in
theorem Kbr (hown : ∀ β, ¬ own β) {base : Nat} {v : Value} {d : DataW H} {ps : List MemPlace} (hval : Value.okWide Tryz.prog W .any base 26 v) (h : DataW.Trod enc Tryz.prog W 0 (fun _ => true) true 26 v d ps) :
   ∃ c : Ctl, VR (fun _ => none) own W c.av v /\ ((∀ n ∈ d.weights Tryz.prog 26, n <= reachBytes) -> Lg c) := by
 unfold Value.okWide at hval
 rw [Tryz.underlying26] at hval
 obtain ⟨cs, rfl, _, _⟩ := hval
 obtain ⟨fuel, h⟩ := h
 obtain ⟨cs⟩ := cs
 obtain ⟨xs, m, _, hx, hl, hn, hf⟩ := DataW.trod_struct Tryz.underlying26 h
 rw [Ka2] at hl
 simp only [Value.cells] at hl hf
 obtain ⟨a0, a1, a2, a3, a4, rfl⟩ := Kbj hl
 obtain ⟨x0, x1, x2, x3, x4, rfl⟩ := Kbj (l := xs) (by rw [hn]; rfl)
 have h0 : DataW.trod enc Tryz.prog W 0 (fun _ => true) true m 3 [a0] = some x0 := by simpa [cells3] using hf 0 ⟨ "Actuators", 3, 0, false, "", "", 0⟩ rfl
 have h1 : DataW.trod enc Tryz.prog W 0 (fun _ => true) true m 22 [a1] = some x1 := by simpa [Ka6] using hf 1 ⟨ "Inputs", 22, 1, false, "", "", 8⟩ rfl
 have h2 : DataW.trod enc Tryz.prog W 0 (fun _ => true) true m 23 [a2] = some x2 := by simpa [Ka4] using hf 2 ⟨ "Signals", 23, 2, false, "", "", 32⟩ rfl
 have h3 : DataW.trod enc Tryz.prog W 0 (fun _ => true) true m 24 [a3] = some x3 := by simpa [Ka5] using hf 3 ⟨ "Plus", 24, 3, false, "", "", 56⟩ rfl
 have h4 : DataW.trod enc Tryz.prog W 0 (fun _ => true) true m 24 [a4] = some x4 := by simpa [Ka5] using hf 4 ⟨ "Minus", 24, 4, false, "", "", 80⟩ rfl
 obtain ⟨k, e0, _, _⟩ := DataW.trod_int Tryz.underlying3 h0
 have hints : ∀ {n : Nat} {cs : List Value} {x : DataW H × List MemPlace}, DataW.trod enc Tryz.prog W 0 (fun _ => true) true n 3 cs = some x -> ∃ q : Int, RowE own W (Int.enc q) cs /\ True := fun hx => by
   obtain ⟨q, e, _, _⟩ := DataW.trod_int Tryz.underlying3 hx
   subst e
   exact ⟨q, one_row (.int ..), trivial⟩
 obtain ⟨inp, v1, e1, r1, g1⟩ := Kbv (row := Txt.enc) (Good := fun (s : Txt) (d : DataW H) => (∀ n ∈ d.weights Tryz.prog 9, n <= reachBytes) -> s.length < 2305843009213693952) cells9 (by omega) Tryz.underlying22 hown
   (fun n _ cs x hx => by
     obtain ⟨s, e, hs0, _⟩ := DataW.trod_string Tryz.underlying9 hx
     subst e
     refine ⟨s.data.toList, one_row (.str _), fun hw => ?_⟩
     have hreach : reachBytes = 140737488351232 := rfl
     have := hw s.data.toList.length (by rw [hs0, DataW.weights]; exact List.mem_singleton.2 rfl)
     omega) (fun _ => rfl) h1
 obtain ⟨sgs, v2, e2, r2, g2⟩ := Kbv (row := Sig.enc) (Good := fun (g : Sig) (d : DataW H) => (∀ n ∈ d.weights Tryz.prog 55, n <= reachBytes) -> g.name.length < 2305843009213693952 /\ okX g.on /\ okX g.off) Ka7 (by omega) Tryz.underlying23 hown
   (fun n _ cs x hx => Kbu hown hx) (fun _ => rfl) h2
 obtain ⟨pl, v3, e3, r3, g3⟩ := Kbv (row := Int.enc) (Good := fun _ _ => True) cells3 (by omega) Tryz.underlying24 hown (fun n _ cs x hx => hints hx) (fun _ => rfl) h3
 obtain ⟨mi, v4, e4, r4, g4⟩ := Kbv (row := Int.enc) (Good := fun _ _ => True) cells3 (by omega) Tryz.underlying24 hown (fun n _ cs x hx => hints hx) (fun _ => rfl) h4
 simp at e0 e1 e2 e3 e4
 subst e0; subst e1; subst e2; subst e3; subst e4
 refine ⟨⟨k, inp, sgs, pl, mi⟩, .agg _ _ rfl (fun i c v hc hv => ?_), fun hw => ?_⟩
 . match i with
   | 0 => simp at hc hv; subst hc; subst hv; exact .p _ _ (.int ..)
   | 1 => simp at hc hv; subst hc; subst hv; exact .p _ _ r1
   | 2 => simp at hc hv; subst hc; subst hv; exact .p _ _ r2
   | 3 => simp at hc hv; subst hc; subst hv; exact .p _ _ r3
   | 4 => simp at hc hv; subst hc; subst hv; exact .p _ _ r4
   | i + 5 => simp at hc
 . have hx' : d = .agg [x0.1, x1.1, x2.1, x3.1, x4.1] := by simpa using congrArg Prod.fst hx
   subst hx'
   have w1 : ∀ n ∈ x1.1.weights Tryz.prog 22, n <= reachBytes := fun n hn => hw n (Kba (i := 1) Tryz.underlying26 rfl rfl hn)
   have w2 : ∀ n ∈ x2.1.weights Tryz.prog 23, n <= reachBytes := fun n hn => hw n (Kba (i := 2) Tryz.underlying26 rfl rfl hn)
   have w3 : ∀ n ∈ x3.1.weights Tryz.prog 24, n <= reachBytes := fun n hn => hw n (Kba (i := 3) Tryz.underlying26 rfl rfl hn)
   have w4 : ∀ n ∈ x4.1.weights Tryz.prog 24, n <= reachBytes := fun n hn => hw n (Kba (i := 4) Tryz.underlying26 rfl rfl hn)
   have b3 : (Tryz.prog).bytesOf 3 = 8 := by kernel_rfl
   have b9 : (Tryz.prog).bytesOf 9 = 16 := by kernel_rfl
   have bS : (Tryz.prog).bytesOf 55 = 120 := by kernel_rfl
   refine ⟨?_, ?_, ?_, ?_, ?_, ?_, ?_⟩
   . rcases g1 with ⟨rfl, _⟩ | ⟨elems, rest, q, hle, _⟩
     . simp
     . exact Kbx Tryz.underlying22 b9 (by decide) q hle w1
   . rcases g2 with ⟨rfl, _⟩ | ⟨elems, rest, q, hle, _⟩
     . simp
     . exact Kbx Tryz.underlying23 bS (by decide) q hle w2
   . rcases g3 with ⟨rfl, _⟩ | ⟨elems, rest, q, hle, _⟩
     . simp
     . exact Kbx Tryz.underlying24 b3 (by decide) q hle w3
   . rcases g4 with ⟨rfl, _⟩ | ⟨elems, rest, q, hle, _⟩
     . simp
     . exact Kbx Tryz.underlying24 b3 (by decide) q hle w4
   . intro s hs
     rcases g1 with ⟨rfl, _⟩ | ⟨elems, rest, q, hle, hg⟩
     . cases hs
     . obtain ⟨i, hi, e⟩ := List.getElem_of_mem hs
       obtain ⟨dd, hd, hok⟩ := hg i s (by rw [List.getElem?_eq_getElem hi, e])
       exact hok fun n hn => w1 n (by rw [q]; simp [DataW.weights, Tryz.underlying22, weightsAll_mem hd hn])
   . intro s hs
     rcases g2 with ⟨rfl, _⟩ | ⟨elems, rest, q, hle, hg⟩
     . cases hs
     . obtain ⟨i, hi, e⟩ := List.getElem_of_mem hs
       obtain ⟨dd, hd, hok⟩ := hg i s (by rw [List.getElem?_eq_getElem hi, e])
       exact (hok fun n hn => w2 n (by rw [q]; simp [DataW.weights, Tryz.underlying23, weightsAll_mem hd hn])).1
   . intro s hs
     rcases g2 with ⟨rfl, _⟩ | ⟨elems, rest, q, hle, hg⟩
     . cases hs
     . obtain ⟨i, hi, e⟩ := List.getElem_of_mem hs
       obtain ⟨dd, hd, hok⟩ := hg i s (by rw [List.getElem?_eq_getElem hi, e])
       exact (hok fun n hn => w2 n (by rw [q]; simp [DataW.weights, Tryz.underlying23, weightsAll_mem hd hn])).2
set_option maxRecDepth 100000 in
theorem Kbs (hown : ∀ β, ¬ own β) {base : Nat} {v : Value} {d : DataW H} {ps : List MemPlace} (hval : Value.okWide Tryz.prog W .any base 27 v) (h : DataW.Trod enc Tryz.prog W 0 (fun _ => true) true 27 v d ps) :
   ∃ l : List Evt, VR (fun _ => none) own W (.p (.lst 3 (l.map Evt.enc))) v := by
 obtain ⟨fuel, h⟩ := h
 obtain ⟨l0, v0, e0, r0, g0⟩ := Kbv (row := Evt.enc) (Good := fun _ _ => True) Ka3 (by omega) Tryz.underlying27 hown (fun n _ cs x hx => by
   obtain ⟨xs, m, _, _, hl, hn, hf⟩ := DataW.trod_struct Tryz.underlying76 hx
   rw [Ka3] at hl
   obtain ⟨a, b, c, rfl⟩ := Kbi hl
   obtain ⟨x0, x1, x2, rfl⟩ := Kbi (l := xs) (by rw [hn]; rfl)
   have h0 : DataW.trod enc Tryz.prog W 0 (fun _ => true) true m 3 [a] = some x0 := by simpa [cells3] using hf 0 ⟨ "Kind", 3, 0, false, "", "", 0⟩ rfl
   have h1 : DataW.trod enc Tryz.prog W 0 (fun _ => true) true m 3 [b] = some x1 := by simpa [cells3] using hf 1 ⟨ "Index", 3, 1, false, "", "", 8⟩ rfl
   have h2 : DataW.trod enc Tryz.prog W 0 (fun _ => true) true m 4 [c] = some x2 := by simpa [cells4] using hf 2 ⟨ "Value", 4, 2, false, "", "", 16⟩ rfl
   obtain ⟨k, e0, _, _⟩ := DataW.trod_int Tryz.underlying3 h0
   obtain ⟨j, e1, _, _⟩ := DataW.trod_int Tryz.underlying3 h1
   obtain ⟨q, e2, _⟩ := DataW.trod_bool Tryz.underlying4 h2
   simp at e0 e1 e2
   subst e0; subst e1; subst e2
   exact ⟨⟨k, j, q⟩, ⟨rfl, fun i y u hy hu => by
     match i with
     | 0 => simp at hy hu; subst hy; subst hu; exact .int ..
     | 1 => simp at hy hu; subst hy; subst hu; exact .int ..
     | 2 => simp at hy hu; subst hy; subst hu; exact .bool ..
     | i + 3 => simp at hy⟩, trivial⟩) (fun _ => rfl) h
 unfold Value.okWide at hval
 rw [Tryz.underlying27] at hval
 have hv : v = v0 := by
   cases v
   case agg cs =>
     exfalso
     simp [Cell.okWide, Cell.ok, Tryz.underlying27] at hval
   all_goals simpa [Value.cells] using e0
 subst hv
 exact ⟨l0, .p _ _ r0⟩
end
end Go.Am
