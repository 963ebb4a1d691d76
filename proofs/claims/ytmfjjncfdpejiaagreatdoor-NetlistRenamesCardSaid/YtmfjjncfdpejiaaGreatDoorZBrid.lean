/- The bridge: what the rows read is what the contracts are about. -/
import Derived.Test.YtmfjjncfdpejiaaGreatDoorZC7
import Derived.Test.YtmfjjncfdpejiaaGreatDoorCards
import Derived.Test.YtmfjjncfdpejiaaGreatDoorTie
import Derived.ProofKit
import Derived.LaidMore
import Derived.OpenShut
import Derived.Carry
import Derived.SizedLaws
import Derived.ChangeMaps5
set_option linter.unusedVariables false
set_option linter.unusedSimpArgs false
namespace Go.Am
open Go Go.Proofs Go.Pn
section
variable {H : Type} {enc : TypeId × Value -> H} {W : World} {own : Nat -> Prop}
def Keh (own : Nat -> Prop) (w : World) (row : List PV) (cs : List Value) : Prop := cs.length = row.length /\ ∀ (j : Nat) x v, row[j]? = some x -> cs[j]? = some v -> VRp own w x v
theorem Kfb {n : Nat} {cs : List Value} {x : DataW H × List MemPlace} (h : DataW.trod enc Tryz.prog W 0 (fun _ => true) true n 3 cs = some x) : ∃ m, cs = [.int .i64 m] := by
 obtain ⟨m, h1, _⟩ := DataW.trod_int Tryz.underlying3 h
 exact ⟨m, h1⟩
theorem Kfg {n : Nat} {cs : List Value} {x : DataW H × List MemPlace} (h : DataW.trod enc Tryz.prog W 0 (fun _ => true) true n 9 cs = some x) : ∃ s : Txt, cs = [.string ⟨⟨s⟩⟩] /\ x.1 = .lit (.string s) := by
 obtain ⟨s, h1, h2, _⟩ := DataW.trod_string Tryz.underlying9 h
 exact ⟨s.data.toList, h1, by rw [h2]⟩
theorem Ke0 {α : Type} {l : List α} (h : l.length = 2) : ∃ a b, l = [a, b] := by
 match l, h with
 | [a, b], _ => exact ⟨a, b, rfl⟩
theorem Ke1 {α : Type} {l : List α} (h : l.length = 3) : ∃ a b c, l = [a, b, c] := by
 match l, h with
 | [a, b, c], _ => exact ⟨a, b, c, rfl⟩
theorem Ke2 {α : Type} {l : List α} (h : l.length = 4) : ∃ a b c d, l = [a, b, c, d] := by
 match l, h with
 | [a, b, c, d], _ => exact ⟨a, b, c, d, rfl⟩
theorem Kei (a : Addr) (m n : Nat) : (a.add m).add n = a.add (m + n) := by
 by_cases hn : n = 0
 . subst hn; simp [Addr.add]
 . by_cases hm : m = 0
   . subst hm; simp [Addr.add, hn]
   . simp [Addr.add, hn, hm, Nat.add_assoc]
theorem Ken : (Tryz.prog).cellsOf 72 = 3 := by kernel_rfl
theorem Kem : (Tryz.prog).cellsOf 67 = 4 := by kernel_rfl
theorem cells55 : (Tryz.prog).cellsOf 55 = 2 := by kernel_rfl
theorem cells27 : (Tryz.prog).cellsOf 27 = 2 := by kernel_rfl
theorem cells24 : (Tryz.prog).cellsOf 24 = 1 := by kernel_rfl
theorem cells25 : (Tryz.prog).cellsOf 25 = 1 := by kernel_rfl
theorem cells3 : (Tryz.prog).cellsOf 3 = 1 := by kernel_rfl
theorem cells9 : (Tryz.prog).cellsOf 9 = 1 := by kernel_rfl
theorem Kfc {n : Nat} {cs : List Value} {x : DataW H × List MemPlace} (h : DataW.trod enc Tryz.prog W 0 (fun _ => true) true n 72 cs = some x) :
   ∃ p : Part, Keh own W p.enc cs /\ p.name.length ∈ x.1.weights Tryz.prog 72 := by
 obtain ⟨xs, m, _, hx, hl, hn, hf⟩ := DataW.trod_struct Tryz.underlying72 h
 rw [Ken] at hl
 obtain ⟨a, b, c, rfl⟩ := Ke1 hl
 obtain ⟨x0, x1, x2, rfl⟩ := Ke1 (l := xs) (by rw [hn]; rfl)
 have h0 : DataW.trod enc Tryz.prog W 0 (fun _ => true) true m 3 [a] = some x0 := by simpa [cells3] using hf 0 ⟨ "Kind", 3, 0, false, "", "", 0⟩ rfl
 have h1 : DataW.trod enc Tryz.prog W 0 (fun _ => true) true m 9 [b] = some x1 := by simpa [cells9] using hf 1 ⟨ "Name", 9, 1, false, "", "", 8⟩ rfl
 have h2 : DataW.trod enc Tryz.prog W 0 (fun _ => true) true m 3 [c] = some x2 := by simpa [cells3] using hf 2 ⟨ "Delay", 3, 2, false, "", "", 24⟩ rfl
 obtain ⟨k, e0⟩ := Kfb (x := x0) h0
 obtain ⟨s, e1, e4⟩ := Kfg (x := x1) h1
 obtain ⟨d, e2⟩ := Kfb (x := x2) h2
 simp at e0 e1 e2
 subst e0; subst e1; subst e2
 refine ⟨⟨k, s, d⟩, ⟨rfl, fun j y v hy hv => ?_⟩, ?_⟩
 . match j with
   | 0 => simp at hy hv; subst hy; subst hv; exact .int ..
   | 1 => simp at hy hv; subst hy; subst hv; exact .str ..
   | 2 => simp at hy hv; subst hy; subst hv; exact .int ..
   | j + 3 => simp at hy
 . rw [hx]
   simp [DataW.weights, Tryz.underlying72, DataW.weightsEach, e4]
theorem Kfe {n : Nat} {cs : List Value} {x : DataW H × List MemPlace} (h : DataW.trod enc Tryz.prog W 0 (fun _ => true) true n 55 cs = some x) :
   ∃ p : Port, cs = [.int .i64 p.part, .string ⟨⟨p.name⟩⟩] /\ p.name.length ∈ x.1.weights Tryz.prog 55 := by
 obtain ⟨xs, m, _, hx, hl, hn, hf⟩ := DataW.trod_struct Tryz.underlying55 h
 rw [cells55] at hl
 obtain ⟨a, b, rfl⟩ := Ke0 hl
 obtain ⟨x0, x1, rfl⟩ := Ke0 (l := xs) (by rw [hn]; rfl)
 have h0 : DataW.trod enc Tryz.prog W 0 (fun _ => true) true m 3 [a] = some x0 := by simpa [cells3] using hf 0 ⟨ "Part", 3, 0, false, "", "", 0⟩ rfl
 have h1 : DataW.trod enc Tryz.prog W 0 (fun _ => true) true m 9 [b] = some x1 := by simpa [cells9] using hf 1 ⟨ "Name", 9, 1, false, "", "", 8⟩ rfl
 obtain ⟨k, e0⟩ := Kfb (x := x0) h0
 obtain ⟨s, e1, e4⟩ := Kfg (x := x1) h1
 simp at e0 e1
 subst e0; subst e1
 refine ⟨⟨k, s⟩, rfl, ?_⟩
 rw [hx]
 simp [DataW.weights, Tryz.underlying55, DataW.weightsEach, e4]
theorem Kfd {n : Nat} {cs : List Value} {x : DataW H × List MemPlace} (h : DataW.trod enc Tryz.prog W 0 (fun _ => true) true n 67 cs = some x) :
   ∃ p : Pipe, Keh own W p.enc cs /\ p.fr.name.length ∈ x.1.weights Tryz.prog 67 /\ p.to.name.length ∈ x.1.weights Tryz.prog 67 := by
 obtain ⟨xs, m, _, hx, hl, hn, hf⟩ := DataW.trod_struct Tryz.underlying67 h
 rw [Kem] at hl
 obtain ⟨a, b, c, d, rfl⟩ := Ke2 hl
 obtain ⟨x0, x1, rfl⟩ := Ke0 (l := xs) (by rw [hn]; rfl)
 have h0 : DataW.trod enc Tryz.prog W 0 (fun _ => true) true m 55 [a, b] = some x0 := by simpa [cells55] using hf 0 ⟨ "From", 55, 0, false, "", "", 0⟩ rfl
 have h1 : DataW.trod enc Tryz.prog W 0 (fun _ => true) true m 55 [c, d] = some x1 := by simpa [cells55] using hf 1 ⟨ "To", 55, 2, false, "", "", 24⟩ rfl
 obtain ⟨p, e0, w0⟩ := Kfe (x := x0) h0
 obtain ⟨q, e1, w1⟩ := Kfe (x := x1) h1
 simp at e0 e1
 obtain ⟨rfl, rfl⟩ := e0
 obtain ⟨rfl, rfl⟩ := e1
 refine ⟨⟨p, q⟩, ⟨rfl, fun j y v hy hv => ?_⟩, ?_, ?_⟩
 . match j with
   | 0 => simp at hy hv; subst hy; subst hv; exact .int ..
   | 1 => simp at hy hv; subst hy; subst hv; exact .str ..
   | 2 => simp at hy hv; subst hy; subst hv; exact .int ..
   | 3 => simp at hy hv; subst hy; subst hv; exact .str ..
   | j + 4 => simp at hy
 . rw [hx]
   simp [DataW.weights, Tryz.underlying67, DataW.weightsEach, w0]
 . rw [hx]
   simp [DataW.weights, Tryz.underlying67, DataW.weightsEach, w1]
theorem Kff {T : Type} {row : T -> List PV} {Good : T -> DataW H -> Prop} {t e k fuel : Nat} {cs : List Value} {x : DataW H × List MemPlace} (hk : (Tryz.prog).cellsOf e = k) (hk0 : 0 < k) (ht : (Tryz.prog).underlying t = some (.slice e)) (hown : ∀ β, ¬ own β)
   (hR : ∀ n cs x, DataW.trod enc Tryz.prog W 0 (fun _ => true) true n e cs = some x -> ∃ a : T, Keh own W (row a) cs /\ Good a x.1) (hrow : ∀ a, (row a).length = k)
   (h : DataW.trod enc Tryz.prog W 0 (fun _ => true) true fuel t cs = some x) :
   ∃ (l : List T) (v : Value), cs = [v] /\ VRp own W (.lst k (l.map row)) v /\ ((l = [] /\ x.1 = .nil) \/ ∃ elems rest, x.1 = .slice elems rest /\ elems.length = l.length /\ ∀ (i : Nat) a, l[i]? = some a -> ∃ d, elems[i]? = some d /\ Good a d) := by
 rcases DataW.trod_slice ht h with ⟨rfl, rfl⟩ | ⟨a, len, cap, elems, rest, n, _, rfl, rfl, _, hlc, _, hel, hi, _, _⟩
 . exact ⟨[], _, rfl, .lst0 .., .inl ⟨rfl, rfl⟩⟩
 . rw [hk] at hi
   have hall : ∀ i : Fin len, ∃ (q : T) (cs : List Value), ((W.cells? 0 (a.add (i.1 * k)) k) = some cs) /\ Keh own W (row q) cs /\ ∃ y, elems[i.1]? = some y /\ Good q y.1 := by
     intro i
     have hlt : i.1 < elems.length := by rw [hel]; exact i.2
     have h1 := hi i.1 i.2
     rw [List.getElem?_eq_getElem hlt] at h1
     obtain ⟨cs, h2, h3⟩ := Option.bind_eq_some_iff.1 h1
     obtain ⟨q, h4, h5⟩ := hR _ _ _ h3
     exact ⟨q, cs, h2, h4, _, List.getElem?_eq_getElem hlt, h5⟩
   refine ⟨List.ofFn fun i => (hall i).choose, .slice (some a) len cap, rfl, ?_, .inr ⟨_, _, rfl, by simp [hel], ?_⟩⟩
   . have hcell : ∀ (i : Nat) (hi : i < len) (j : Nat) y, (row (hall ⟨i, hi⟩).choose)[j]? = some y -> ∃ v, W.cell? (a.add (i * k + j)) = some v /\ VRp own W y v := by
       intro i hi j y hy
       obtain ⟨cs, h1, h2, _⟩ := (hall ⟨i, hi⟩).choose_spec
       have hj : j < k := by
         have := (gsI.1 hy).1
         rwa [hrow] at this
       simp only [World.cells?, Nat.zero_le, if_true] at h1
       have h3 := mapM_some_get h1 j j (by simp [hj])
       have hjl : j < cs.length := by rw [h2.1, hrow]; exact hj
       rw [List.getElem?_eq_getElem hjl] at h3
       refine ⟨cs[j], ?_, h2.2 j y _ hy (List.getElem?_eq_getElem hjl)⟩
       rw [<- h3, Kei]
     rcases Nat.eq_zero_or_pos len with h0 | h0
     . subst h0
       simp
       exact .lst0 ..
     . obtain ⟨y, hy⟩ : ∃ y, (row (hall ⟨0, h0⟩).choose)[0]? = some y := ⟨_, List.getElem?_eq_getElem (by rw [hrow]; exact hk0)⟩
       obtain ⟨v, hv, _⟩ := hcell 0 h0 0 y hy
       rw [show a.add (0 * k + 0) = a by simp [Addr.add]] at hv
       have hβ : a.block < W.heap.size := World.block_lt_of_cell? W _ hv
       have hspot : a.spot = none := by
         cases hs : a.spot with
         | none => rfl
         | some z =>
           exfalso
           simp only [World.cell?] at hv
           split at hv
           . simp [hs] at hv
           . cases hv
       obtain ⟨β, o, sp⟩ := a
       simp at hspot hβ
       subst hspot
       have hl : ((List.ofFn fun i => (hall i).choose).map row).length = len := by simp
       have := VRp.lst_of (own := own) (w := W) (k := k) (rows := (List.ofFn fun i => (hall i).choose).map row) (β := β) (o := o) (c := cap) (by rw [hl]; exact hlc) hβ (hown β) (fun i j r y hr hy => by
         rw [List.getElem?_map, Option.map_eq_some_iff] at hr
         obtain ⟨q, hq, rfl⟩ := hr
         have hi : i < len := by
           have := (gsI.1 hq).1
           simpa using this
         have hqe : q = (hall ⟨i, hi⟩).choose := by
           rw [List.getElem?_ofFn, dif_pos hi] at hq
           exact (Option.some.inj hq).symm
         subst hqe
         obtain ⟨v, h1, h2⟩ := hcell i hi j y hy
         refine ⟨v, ?_, h2⟩
         rw [addr_add] at h1
         simpa [Nat.add_assoc] using h1)
       rw [hl] at this
       exact this
   . intro i q hq
     have hi : i < len := by
       have := (gsI.1 hq).1
       simpa using this
     have hqe : q = (hall ⟨i, hi⟩).choose := by
       rw [List.getElem?_ofFn, dif_pos hi] at hq
       exact (Option.some.inj hq).symm
     subst hqe
     obtain ⟨cs, _, _, y, h1, h2⟩ := (hall ⟨i, hi⟩).choose_spec
     exact ⟨y.1, by rw [List.getElem?_map, h1]; rfl, h2⟩
theorem weightsAll_mem {P : Program} {e : TypeId} : ∀ {l : List (DataW H)} {i : Nat} {d : DataW H} {n : Nat}, l[i]? = some d -> n ∈ d.weights P e -> n ∈ DataW.weightsAll P e l
 | x :: l, 0, d, n, h, hn => by simp at h; subst h; simp [DataW.weightsAll, hn]
 | x :: l, i + 1, d, n, h, hn => by
   have := weightsAll_mem (l := l) (i := i) (by simpa using h) hn
   simp [DataW.weightsAll, this]
set_option maxRecDepth 100000 in
theorem Kfa {base : Nat} {v : Value} {d : DataW H} {ps : List MemPlace} (hown : ∀ β, ¬ own β) (hval : Value.okWide Tryz.prog W .any base 27 v) (h : DataW.Trod enc Tryz.prog W 0 (fun _ => true) true 27 v d ps) :
   ∃ c : Circuit, VR (fun _ => none) own W c.av v /\ ((∀ n ∈ d.weights Tryz.prog 27, n <= reachBytes) -> Sized c) := by
 unfold Value.okWide at hval
 rw [Tryz.underlying27] at hval
 obtain ⟨cs, rfl, _, _⟩ := hval
 obtain ⟨fuel, h⟩ := h
 obtain ⟨xs, m, _, hx, hl, hn, hf⟩ := DataW.trod_struct Tryz.underlying27 h
 rw [cells27] at hl
 obtain ⟨cs⟩ := cs
 simp only [Value.cells] at hl hf
 obtain ⟨a, b, rfl⟩ := Ke0 hl
 obtain ⟨x0, x1, rfl⟩ := Ke0 (l := xs) (by rw [hn]; rfl)
 have h0 : DataW.trod enc Tryz.prog W 0 (fun _ => true) true m 24 [a] = some x0 := by simpa [cells24] using hf 0 ⟨ "Parts", 24, 0, false, "", "", 0⟩ rfl
 have h1 : DataW.trod enc Tryz.prog W 0 (fun _ => true) true m 25 [b] = some x1 := by simpa [cells25] using hf 1 ⟨ "Pipes", 25, 1, false, "", "", 24⟩ rfl
 obtain ⟨l0, v0, e0, r0, g0⟩ := Kff (row := Part.enc) (Good := fun p d => p.name.length ∈ d.weights Tryz.prog 72) Ken (by omega) Tryz.underlying24 hown (fun n cs x hx => Kfc hx) (fun _ => rfl) h0
 obtain ⟨l1, v1, e1, r1, g1⟩ := Kff (row := Pipe.enc) (Good := fun _ _ => True) Kem (by omega) Tryz.underlying25 hown (fun n cs x hx => by obtain ⟨p, hp, _⟩ := Kfd hx; exact ⟨p, hp, trivial⟩) (fun _ => rfl) h1
 simp at e0 e1
 subst e0; subst e1
 refine ⟨⟨l0, l1⟩, .agg _ _ rfl (fun i c v hc hv => ?_), fun hw => ?_⟩
 . match i with
   | 0 => simp at hc hv; subst hc; subst hv; exact .p _ _ r0
   | 1 => simp at hc hv; subst hc; subst hv; exact .p _ _ r1
   | i + 2 => simp at hc
 . have hd : d = .agg [x0.1, x1.1] := by
     have := congrArg Prod.fst hx
     simpa using this
   subst hd
   have w0 : ∀ n ∈ x0.1.weights Tryz.prog 24, n <= reachBytes := fun n hn => hw n (by simp [DataW.weights, Tryz.underlying27, DataW.weightsEach, hn])
   have w1 : ∀ n ∈ x1.1.weights Tryz.prog 25, n <= reachBytes := fun n hn => hw n (by simp [DataW.weights, Tryz.underlying27, DataW.weightsEach, hn])
   have b27 : (Tryz.prog).bytesOf 72 = 32 := by kernel_rfl
   have b71 : (Tryz.prog).bytesOf 67 = 48 := by kernel_rfl
   have hreach : reachBytes = 140737488351232 := rfl
   refine ⟨?_, ?_, ?_⟩
   . show l0.length < _
     rcases g0 with ⟨rfl, _⟩ | ⟨elems, rest, hx0, hle, _⟩
     . simp
     . rw [hx0] at w0
       have := w0 ((elems.length + rest.length) * 32) (by simp [DataW.weights, Tryz.underlying24, b27])
       omega
   . show l1.length < _
     rcases g1 with ⟨rfl, _⟩ | ⟨elems, rest, hx1, hle, _⟩
     . simp
     . rw [hx1] at w1
       have := w1 ((elems.length + rest.length) * 48) (by simp [DataW.weights, Tryz.underlying25, b71])
       omega
   . intro p hp
     rcases g0 with ⟨rfl, _⟩ | ⟨elems, rest, hx0, hle, hg⟩
     . simp at hp
     . obtain ⟨i, hi, e⟩ := List.getElem_of_mem hp
       obtain ⟨y, hy, hgy⟩ := hg i p (by rw [List.getElem?_eq_getElem hi]; exact congrArg some e)
       rw [hx0] at w0
       have := w0 p.name.length (by
         have := weightsAll_mem (P := Tryz.prog) (e := 72) hy hgy
         simp [DataW.weights, Tryz.underlying24, this])
       omega
set_option maxRecDepth 100000 in
theorem Kfh {base : Nat} {v : Value} {d : DataW H} {ps : List MemPlace} (hval : Value.okWide Tryz.prog W .any base 9 v) (h : DataW.Trod enc Tryz.prog W 0 (fun _ => true) true 9 v d ps) :
   ∃ s : Txt, VR (fun _ => none) own W (.p (.str s)) v /\ ((∀ n ∈ d.weights Tryz.prog 9, n <= reachBytes) -> s.length < 4611686018427387900) := by
 obtain ⟨b, rfl, rfl, _, _⟩ := Go.ChangeMaps.open_string Tryz.underlying9 hval h
 obtain ⟨s, hs⟩ : ∃ s : Txt, s = b.data.toList := ⟨_, rfl⟩
 obtain rfl : b = ⟨⟨s⟩⟩ := by rw [hs]
 refine ⟨s, .p _ _ (.str _), fun hw => ?_⟩
 have hreach : reachBytes = 140737488351232 := rfl
 have := hw s.length (by simp [DataW.weights])
 omega
theorem Kek : (Tryz.prog).cellsOf 392 = 3 := by kernel_rfl
theorem Kel : (Tryz.prog).cellsOf 393 = 18 := by kernel_rfl
theorem cells5 : (Tryz.prog).cellsOf 5 = 1 := by kernel_rfl
theorem Kfj {n : Nat} {cs : List Value} {a : Int} {ps : List MemPlace} (h : DataW.trod (fun _ => ()) Tryz.prog W 0 (fun _ => true) false n 5 cs = some (.lit (.int .u8 a), ps)) : cs = [.int .u8 a] := by
 obtain ⟨m, h1, h2, _⟩ := DataW.trod_int Tryz.underlying5 h
 simp at h2
 rw [h1, h2.1]
theorem Kfi {n : Nat} {cs : List Value} {a b c : Int} {ps : List MemPlace} (h : DataW.trod (fun _ => ()) Tryz.prog W 0 (fun _ => true) false n 392 cs = some (.agg [.lit (.int .u8 a), .lit (.int .u8 b), .lit (.int .u8 c)], ps)) :
   cs = [.int .u8 a, .int .u8 b, .int .u8 c] := by
 obtain ⟨xs, m, _, hx, hl, hn, hf⟩ := DataW.trod_array Tryz.underlying392 h
 rw [Kek] at hl
 obtain ⟨u, v, w, rfl⟩ := Ke1 hl
 obtain ⟨x0, x1, x2, rfl⟩ := Ke1 hn
 simp at hx
 obtain ⟨⟨e0, e1, e2⟩, _⟩ := hx
 have h0 : DataW.trod (fun _ => ()) Tryz.prog W 0 (fun _ => true) false m 5 [u] = some x0 := by simpa [cells5] using hf 0 (by omega)
 have h1 : DataW.trod (fun _ => ()) Tryz.prog W 0 (fun _ => true) false m 5 [v] = some x1 := by simpa [cells5] using hf 1 (by omega)
 have h2 : DataW.trod (fun _ => ()) Tryz.prog W 0 (fun _ => true) false m 5 [w] = some x2 := by simpa [cells5] using hf 2 (by omega)
 obtain ⟨d0, q0⟩ := x0
 obtain ⟨d1, q1⟩ := x1
 obtain ⟨d2, q2⟩ := x2
 simp only at e0 e1 e2
 subst e0; subst e1; subst e2
 have k0 := Kfj h0
 have k1 := Kfj h1
 have k2 := Kfj h2
 simp at k0 k1 k2
 rw [k0, k1, k2]
theorem Kex {P : Program} {n : String} {d : DataW Unit} : ∀ {l : List (String × DataW Unit)} {ps : List MemPlace}, DataW.LaidVars P W l ps -> (n, d) ∈ l ->
   ∃ g t cs fuel p, P.globalNamed n = some g /\ (P.globals[g]?).map (·.type) = some t /\ W.var? P n = some cs /\ DataW.trod (fun _ => ()) P W 0 (fun _ => true) false fuel t cs.toList = some (d, p)
 | [], _, _, h => by cases h
 | (m, e) :: l, ps, hl, h => by
   obtain ⟨g, t, cs, fuel, p, q, h1, h2, h3, h4, h5, _⟩ := hl
   rcases List.mem_cons.1 h with h | h
   . cases h; exact ⟨g, t, cs, fuel, p, h1, h2, h3, h4⟩
   . exact Kex h5 h
theorem Kfm {P : Program} {w : World} {n : String} {g : Nat} {cs : Array Value} (hg : P.globalNamed n = some g) (hv : w.var? P n = some cs) : ∃ T fz, w.heap[g]? = some (.cells cs T fz) := by
 unfold World.var? at hv
 rw [hg] at hv
 simp only [Option.bind_some] at hv
 split at hv
 . rename_i cs' T fz e
   cases hv
   exact ⟨T, fz, e⟩
 . cases hv
set_option maxRecDepth 100000 in
theorem Ket {laid : List (String × DataW Unit)} (hpl : (laid.all fun x => x.2.handleName?.isNone) = true) (hm : ("pneumatic/lexer.ranges", Go.Proofs.YtmfjjncfdpejiaaGreatDoor.Rows.laid_pneumatic_lexer_ranges) ∈ laid) (h : laidMetH Tryz.prog laid W) : Jev GL (fun _ => False) W := by
 rw [MakeChecks.laidMetH_plain _ _ _ hpl] at h
 obtain ⟨ps, hps, _, _⟩ := h
 obtain ⟨g, t, cs, fuel, p, hg, ht, hv, hd⟩ := Kex hps hm
 have gR : (Tryz.prog).globalNamed "pneumatic/lexer.ranges" = some 3 := by kernel_rfl
 have tR : ((Tryz.prog).globals[3]?).map (·.type) = some 393 := by kernel_rfl
 obtain rfl := Option.some.inj (gR.symm.trans hg)
 obtain rfl := Option.some.inj (tR.symm.trans ht)
 obtain ⟨xs, m, _, hx, hl, hn, hf⟩ := DataW.trod_array Tryz.underlying393 hd
 rw [Kel] at hl
 obtain ⟨L⟩ := cs
 simp only at hl hf hv
 obtain ⟨c0, c1, c2, c3, c4, c5, c6, c7, c8, c9, c10, c11, c12, c13, c14, c15, c16, c17, rfl⟩ : ∃ c0 c1 c2 c3 c4 c5 c6 c7 c8 c9 c10 c11 c12 c13 c14 c15 c16 c17, L = [c0, c1, c2, c3, c4, c5, c6, c7, c8, c9, c10, c11, c12, c13, c14, c15, c16, c17] := by
   match L, hl with
   | [c0, c1, c2, c3, c4, c5, c6, c7, c8, c9, c10, c11, c12, c13, c14, c15, c16, c17], _ => exact ⟨c0, c1, c2, c3, c4, c5, c6, c7, c8, c9, c10, c11, c12, c13, c14, c15, c16, c17, rfl⟩
 obtain ⟨x0, x1, x2, x3, x4, x5, rfl⟩ : ∃ x0 x1 x2 x3 x4 x5, xs = [x0, x1, x2, x3, x4, x5] := by
   match xs, hn with
   | [x0, x1, x2, x3, x4, x5], _ => exact ⟨x0, x1, x2, x3, x4, x5, rfl⟩
 simp [Go.Proofs.YtmfjjncfdpejiaaGreatDoor.Rows.laid_pneumatic_lexer_ranges] at hx
 obtain ⟨⟨e0, e1, e2, e3, e4, e5⟩, _⟩ := hx
 have h0 : DataW.trod (fun _ => ()) Tryz.prog W 0 (fun _ => true) false m 392 [c0, c1, c2] = some x0 := by simpa [Kek] using hf 0 (by omega)
 have h1 : DataW.trod (fun _ => ()) Tryz.prog W 0 (fun _ => true) false m 392 [c3, c4, c5] = some x1 := by simpa [Kek] using hf 1 (by omega)
 have h2 : DataW.trod (fun _ => ()) Tryz.prog W 0 (fun _ => true) false m 392 [c6, c7, c8] = some x2 := by simpa [Kek] using hf 2 (by omega)
 have h3 : DataW.trod (fun _ => ()) Tryz.prog W 0 (fun _ => true) false m 392 [c9, c10, c11] = some x3 := by simpa [Kek] using hf 3 (by omega)
 have h4 : DataW.trod (fun _ => ()) Tryz.prog W 0 (fun _ => true) false m 392 [c12, c13, c14] = some x4 := by simpa [Kek] using hf 4 (by omega)
 have h5 : DataW.trod (fun _ => ()) Tryz.prog W 0 (fun _ => true) false m 392 [c15, c16, c17] = some x5 := by simpa [Kek] using hf 5 (by omega)
 obtain ⟨d0, q0⟩ := x0
 obtain ⟨d1, q1⟩ := x1
 obtain ⟨d2, q2⟩ := x2
 obtain ⟨d3, q3⟩ := x3
 obtain ⟨d4, q4⟩ := x4
 obtain ⟨d5, q5⟩ := x5
 simp only at e0 e1 e2 e3 e4 e5
 subst e0; subst e1; subst e2; subst e3; subst e4; subst e5
 have k0 := Kfi h0
 have k1 := Kfi h1
 have k2 := Kfi h2
 have k3 := Kfi h3
 have k4 := Kfi h4
 have k5 := Kfi h5
 simp only [List.cons.injEq, and_true] at k0 k1 k2 k3 k4 k5
 obtain ⟨rfl, rfl, rfl⟩ := k0
 obtain ⟨rfl, rfl, rfl⟩ := k1
 obtain ⟨rfl, rfl, rfl⟩ := k2
 obtain ⟨rfl, rfl, rfl⟩ := k3
 obtain ⟨rfl, rfl, rfl⟩ := k4
 obtain ⟨rfl, rfl, rfl⟩ := k5
 have hcell := fun off => World.var?_cell hg hv off
 intro g k rows hmem
 simp only [GL, List.mem_singleton, Prod.mk.injEq] at hmem
 obtain ⟨rfl, rfl, rfl⟩ := hmem
 refine ⟨World.block_lt_of_cell? W ⟨3, 0, none⟩ ((hcell 0).trans rfl), fun h => h, ⟨fun i j row x hrow hx => ?_, ?_⟩⟩
 . match i with
   | 0 =>
     simp only [List.getElem?_cons_zero, Option.some.injEq] at hrow
     subst hrow
     have hx2 : (([65, 90, 1, 97, 122, 1, 48, 57, 2, 95, 95, 3, 32, 32, 5, 10, 10, 5] : List Int).map (PV.int .u8))[j]? = some x := hx
     rw [List.getElem?_map, Option.map_eq_some_iff] at hx2
     obtain ⟨n, hn, rfl⟩ := hx2
     refine ⟨.int .u8 n, ?_, .int ..⟩
     rw [Nat.zero_mul, Nat.zero_add, hcell j]
     have h9 : (([65, 90, 1, 97, 122, 1, 48, 57, 2, 95, 95, 3, 32, 32, 5, 10, 10, 5] : List Int).map (Value.int .u8))[j]? = some (.int .u8 n) := by rw [List.getElem?_map, hn]; rfl
     rw [<- h9]
     exact List.getElem?_toArray
   | i + 1 => simp at hrow
 . obtain ⟨T, fz, e⟩ := Kfm hg hv
   exact ⟨_, T, fz, e, rfl⟩
end
end Go.Am
