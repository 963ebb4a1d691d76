/- Lemmas and contracts for the proof of a statement of this seat. -/
import Derived.Test.YthojegdboknbbaaGreatDoorZY3
import Derived.Test.YthojegdboknbbaaGreatDoorZY0
import Derived.WalkKit
import Derived.BigCall
set_option linter.unusedVariables false
set_option linter.unusedSimpArgs false
namespace Go.Am
open Go Go.Proofs Go.Shelf Go.RowKit Go.Lib Go.Sort Go.Pn
theorem Jgy {B : Nat} {w w' : World} (h : Below B w w') {a : Addr} {v : Value} (ha : a.block < B) (hc : w.cell? a = some v) : w'.cell? a = some v :=
 (cell_of_block (h.block _ ha)).trans hc
theorem Jef {w : World} {k : Nat} {arr : Array Value} {T : TypeId} {fz : Nat × Nat} (h : w.heap[k]? = some (.cells arr T fz)) (i : Nat) {v : Value} (e : arr[i]? = some v) : w.cell? ⟨k, i, none⟩ = some v := by
 rw [cell_of_heap h]; exact e
theorem Jde {T e : TypeId} {B b : Nat} {bs : List Value} {w w' : World} (h : IsBuilderF T e B b bs w) (hk : Below w.heap.size w w') : IsBuilderF T e B b bs w' := by
 have key : ∀ p, BuilderAtF T e B b p bs w -> BuilderAtF T e B b p bs w' := fun p ⟨h1, v, h2, h3, h4⟩ => by
   refine ⟨h1, v, ?_, ⟨h3.1, ?_⟩, h4⟩
   . rw [hk.block b (Array.getElem?_eq_some_iff.1 h2).1]; exact h2
   . rcases h3.2 with hn | ⟨g, cap, cur, fz, hv, hb, hg, rest⟩
     . exact .inl hn
     . exact .inr ⟨g, cap, cur, fz, hv, hb, by rw [hk.block g (Array.getElem?_eq_some_iff.1 hg).1]; exact hg, rest⟩
 exact h.imp (key _) (key _)
theorem Jec {b : Nat} {l : List UInt8} {s : ByteArray} {W : World} (h : BuilderAtF 123 5 b b (.pointer (some ⟨b, 0, none⟩)) (byteCells l ++ strCells s) W) {r : List UInt8} (e : l ++ s.data.toList = r) : IsBuilderF 123 5 b b (byteCells r) W :=
 .inr (by rw [<- e, Lib.byteCells_append]; exact h)
theorem Jn6 {b : Nat} {l : List UInt8} {W : World} (h : BuilderAtF 123 5 b b (.pointer (some ⟨b, 0, none⟩)) (byteCells l ++ [.int .u8 32]) W) : IsBuilderF 123 5 b b (byteCells (l ++ [32])) W :=
 .inr (by rw [Lib.byteCells_append]; exact h)
theorem Jqn {own : Nat -> Prop} {w : World} {k : Nat} {rows : List (List PV)} {v : Value} (h : VR (fun _ => none) own w (.p (.lst k rows)) v) : ∃ a cap, v = .slice a rows.length cap /\ rows.length <= cap /\
   ∀ (i : Nat) row, rows[i]? = some row -> ∃ β o, a = some ⟨β, o, none⟩ /\ β < w.heap.size /\ ∀ (j : Nat) x, row[j]? = some x -> ∃ u, w.cell? ⟨β, o + i * k + j, none⟩ = some u /\ VRp own w x u := by
 rcases h.p_inv.lst_inv with ⟨hn, a, cap, rfl⟩ | ⟨β, o, cap, rfl, hcap, hβ, hown, hr⟩
 . subst hn
   exact ⟨a, cap, rfl, Nat.zero_le _, fun i row h => by simp at h⟩
 . exact ⟨_, cap, rfl, hcap, fun i row hrow => ⟨β, o, rfl, hβ, fun j x hx => hr i j row x hrow hx⟩⟩
def Jhu (w : World) (l : List Nat) (v : Value) : Prop := ∃ a cap, v = .slice a l.length cap /\ l.length <= cap /\ ∀ (i n : Nat), l[i]? = some n -> ∃ β o, a = some ⟨β, o, none⟩ /\ β < w.heap.size /\ w.cell? ⟨β, o + i, none⟩ = some (.int .i64 n)
def Jgr (w : World) (l : List Bool) (v : Value) : Prop := ∃ a cap, v = .slice a l.length cap /\ l.length <= cap /\ ∀ (i : Nat) (x : Bool), l[i]? = some x -> ∃ β o, a = some ⟨β, o, none⟩ /\ β < w.heap.size /\ w.cell? ⟨β, o + i, none⟩ = some (.bool x)
theorem Jhu.of {own : Nat -> Prop} {w : World} {l : List Nat} {v : Value} (h : VR (fun _ => none) own w (.p (.lst 1 (l.map nenc))) v) : Jhu w l v := by
 obtain ⟨a, cap, h1, h2, h3⟩ := Jqn h
 rw [List.length_map] at h1 h2
 refine ⟨a, cap, h1, h2, fun i n hn => ?_⟩
 obtain ⟨β, o, e1, e2, e3⟩ := h3 i (nenc n) (by rw [List.getElem?_map, hn]; rfl)
 obtain ⟨u, c, d⟩ := e3 0 _ rfl
 cases d
 exact ⟨β, o, e1, e2, by rw [Nat.mul_one] at c; exact c⟩
theorem Jgr.of {own : Nat -> Prop} {w : World} {l : List Bool} {v : Value} (h : VR (fun _ => none) own w (.p (.lst 1 (l.map Bool.enc))) v) : Jgr w l v := by
 obtain ⟨a, cap, h1, h2, h3⟩ := Jqn h
 rw [List.length_map] at h1 h2
 refine ⟨a, cap, h1, h2, fun i n hn => ?_⟩
 obtain ⟨β, o, e1, e2, e3⟩ := h3 i (Bool.enc n) (by rw [List.getElem?_map, hn]; rfl)
 obtain ⟨u, c, d⟩ := e3 0 _ rfl
 cases d
 exact ⟨β, o, e1, e2, by rw [Nat.mul_one] at c; exact c⟩
theorem Jqd {own : Nat -> Prop} {w : World} (hg : Jcu GL own w) (hs : ∀ β, own β -> β < w.heap.size) (n : Nat) (hn : n < 10) : Calls Tryz.prog 71 #[.int .i64 n] w fun e w' => e = .returned (.string ⟨⟨digT n⟩⟩) /\ Below w.heap.size w w' := by
 refine Calls.mono ((Jv1 n hn).kitR Tryz.func71 rfl rfl (vs := [.int .i64 n]) hg hs rfl fun i x v hx hv => ?_) ?_
 . match i with
   | 0 => cases hx; cases hv; exact .p _ _ (.int ..)
   | i + 1 => cases hx
 . rintro e w' ⟨u, rfl, h1, h2⟩
   rw [h1.str_inv]; exact ⟨rfl, h2⟩
theorem Jlm {own : Nat -> Prop} {w : World} (hg : Jcu GL own w) (hs : ∀ β, own β -> β < w.heap.size) (b : Bool) : Calls Tryz.prog 73 #[.bool b] w fun e w' => e = .returned (.string ⟨⟨boolT b⟩⟩) /\ Below w.heap.size w w' := by
 refine Calls.mono ((Jv0 b).kitR Tryz.func73 rfl rfl (vs := [.bool b]) hg hs rfl fun i x v hx hv => ?_) ?_
 . match i with
   | 0 => cases hx; cases hv; exact .p _ _ (.bool ..)
   | i + 1 => cases hx
 . rintro e w' ⟨u, rfl, h1, h2⟩
   rw [h1.str_inv]; exact ⟨rfl, h2⟩
structure SEnv (own : Nat -> Prop) (s : Sta) (a b c d e : Value) (w : World) : Prop where
 glob : Jcu GL own w
 size : ∀ β, own β -> β < w.heap.size
 ends : Jhu w s.ends a
 valves : Jgr w s.valves b
 inputs : Jgr w s.inputs c
 values : Jgr w s.values d
 timers : Jhu w s.timers e
theorem Jes {B : Nat} {w x : World} (o : Obj) (h : Below B w x) (hB : B <= x.heap.size) : Below B w (x.alloc o) := h.alloc hB o
theorem Jc1 (x : World) (o : Obj) : (x.alloc o).heap.size = x.heap.size + 1 := Array.size_push _
def outN (ls : List (List Nat)) : Txt := ls.flatten.flatMap numT
def outF (ls : List (List Bool)) : Txt := ls.flatten.map Ja9
theorem Jq4 {n : Nat} : numT n = digT n ++ [32] := rfl
set_option maxHeartbeats 4000000 in
set_option maxRecDepth 100000 in
theorem Jys (s : Sta) (hn : ∀ n ∈ s.ends ++ s.timers, n < 10) (h1 : s.ends.length <= 1000) (h2 : s.timers.length <= 1000) (h3 : s.valves.length <= 1000) (h4 : s.inputs.length <= 1000) (h5 : s.values.length <= 1000) (own : Nat -> Prop) (w : World) (a b c d e : Value) (E : SEnv own s a b c d e w) :
   Calls Tryz.prog 45 #[.agg #[a, b, c, d, e]] w fun x w' => x = .returned (.string ⟨⟨staT s⟩⟩) /\ Below w.heap.size w w' := by
 obtain ⟨hg, hsz, ⟨pa, ca, rfl, hca, hPa⟩, ⟨pb, cb, rfl, hcb, hPb⟩, ⟨pc, cc, rfl, hcc, hPc⟩, ⟨pd, cd, rfl, hcd, hPd⟩, ⟨pe, ce, rfl, hce, hPe⟩⟩ := E
 go_enter Tryz.func45, Tryz.ntmps45
 have hbl : IsBuilderF 123 5 (w.heap.size + 1) (w.heap.size + 1) (byteCells []) (((w.alloc (Obj.cells #[.slice pa s.ends.length ca, .slice pb s.valves.length cb, .slice pc s.inputs.length cc, .slice pd s.values.length cd, .slice pe s.timers.length ce] 33)).alloc (Obj.cells #[Value.pointer none, Value.slice none 0 0] 123)).alloc (Obj.cells #[.slice pa s.ends.length ca, .slice pe s.timers.length ce] 24)) := by
   have h0 := IsBuilderF.of (fresh_isBuilder 123 5 (w.alloc (Obj.cells #[.slice pa s.ends.length ca, .slice pb s.valves.length cb, .slice pc s.inputs.length cc, .slice pd s.values.length cd, .slice pe s.timers.length ce] 33)))
   rw [Jc1] at h0
   exact Jde h0 (Jes _ (Below.refl _ _) (Nat.le_refl _))
 have hq : (((w.alloc (Obj.cells #[.slice pa s.ends.length ca, .slice pb s.valves.length cb, .slice pc s.inputs.length cc, .slice pd s.values.length cd, .slice pe s.timers.length ce] 33)).alloc (Obj.cells #[Value.pointer none, Value.slice none 0 0] 123)).alloc (Obj.cells #[.slice pa s.ends.length ca, .slice pe s.timers.length ce] 24)).heap[w.heap.size + 1 + 1]? = some (Obj.cells #[.slice pa s.ends.length ca, .slice pe s.timers.length ce] 24) := by
   rw [<- Jc1 w (Obj.cells #[.slice pa s.ends.length ca, .slice pb s.valves.length cb, .slice pc s.inputs.length cc, .slice pd s.values.length cd, .slice pe s.timers.length ce] 33), <- Jc1 _ (Obj.cells #[Value.pointer none, Value.slice none 0 0] 123)]
   exact Array.getElem?_push_size
 have hbW : Below w.heap.size w (((w.alloc (Obj.cells #[.slice pa s.ends.length ca, .slice pb s.valves.length cb, .slice pc s.inputs.length cc, .slice pd s.values.length cd, .slice pe s.timers.length ce] 33)).alloc (Obj.cells #[Value.pointer none, Value.slice none 0 0] 123)).alloc (Obj.cells #[.slice pa s.ends.length ca, .slice pe s.timers.length ce] 24)) :=
   Jes _ (Jes _ (Jes _ (Below.refl _ _) (by omega)) (by rw [Jc1]; omega)) (by rw [Jc1, Jc1]; omega)
 have hsW : (((w.alloc (Obj.cells #[.slice pa s.ends.length ca, .slice pb s.valves.length cb, .slice pc s.inputs.length cc, .slice pd s.values.length cd, .slice pe s.timers.length ce] 33)).alloc (Obj.cells #[Value.pointer none, Value.slice none 0 0] 123)).alloc (Obj.cells #[.slice pa s.ends.length ca, .slice pe s.timers.length ce] 24)).heap.size = w.heap.size + 3 := by rw [Jc1, Jc1, Jc1]
 have hx : (((w.alloc (Obj.cells #[.slice pa s.ends.length ca, .slice pb s.valves.length cb, .slice pc s.inputs.length cc, .slice pd s.values.length cd, .slice pe s.timers.length ce] 33)).alloc (Obj.cells #[Value.pointer none, Value.slice none 0 0] 123)).alloc (Obj.cells #[.slice pa s.ends.length ca, .slice pe s.timers.length ce] 24)).heap[w.heap.size]? = some (Obj.cells #[.slice pa s.ends.length ca, .slice pb s.valves.length cb, .slice pc s.inputs.length cc, .slice pd s.values.length cd, .slice pe s.timers.length ce] 33) := by
   rw [(Jes (Obj.cells #[.slice pa s.ends.length ca, .slice pe s.timers.length ce] 24) (Jes (Obj.cells #[Value.pointer none, Value.slice none 0 0] 123) (Below.refl (w.heap.size + 1) (w.alloc (Obj.cells #[.slice pa s.ends.length ca, .slice pb s.valves.length cb, .slice pc s.inputs.length cc, .slice pd s.values.length cd, .slice pe s.timers.length ce] 33))) (by rw [Jc1]; omega)) (by rw [Jc1, Jc1]; omega)).block _ (by omega)]
   exact Array.getElem?_push_size
 go_wp2
 generalize (((w.alloc (Obj.cells #[.slice pa s.ends.length ca, .slice pb s.valves.length cb, .slice pc s.inputs.length cc, .slice pd s.values.length cd, .slice pe s.timers.length ce] 33)).alloc (Obj.cells #[Value.pointer none, Value.slice none 0 0] 123)).alloc (Obj.cells #[.slice pa s.ends.length ca, .slice pe s.timers.length ce] 24)) = W at *
 obtain ⟨n0, hn0⟩ : ∃ n0, w.heap.size = n0 := ⟨_, rfl⟩
 rw [hn0] at hbl hq hbW hsW hx ⊢
 go_loopg [18] 2 (fun g v18 wx => ∃ i : Nat, i + g = 2 /\ v18 = .int .i64 i /\ IsBuilderF 123 5 (n0 + 1) (n0 + 1) (byteCells (outN ([s.ends, s.timers].take i))) wx /\ wx.heap[n0 + 1 + 1]? = some (Obj.cells #[.slice pa s.ends.length ca, .slice pe s.timers.length ce] 24) /\ Below (n0 + 1) W wx)
 case atStart => exact ⟨0, by omega, rfl, hbl, hq, Below.refl _ _⟩
 case round =>
   obtain ⟨i, hi, rfl, hI, hqr, hB⟩ := hrel
   obtain ⟨G, hG⟩ : ∃ G, gk = G := ⟨_, rfl⟩
   have z0 := Jef hqr 0 rfl
   have z1 := Jef hqr 1 rfl
   have hszr := hB.size
   rcases (by omega : i = 0 \/ i = 1 \/ i = 2) with rfl | rfl | rfl
   . skip
     go_wp2
     go_loopg [24] s.ends.length (fun g v24 wx => ∃ j : Nat, j + g = s.ends.length /\ v24 = .int .i64 j /\ IsBuilderF 123 5 (n0 + 1) (n0 + 1) (byteCells (outN [] ++ (s.ends.take j).flatMap numT)) wx /\ wx.heap[n0 + 1 + 1]? = some (Obj.cells #[.slice pa s.ends.length ca, .slice pe s.timers.length ce] 24) /\ Below (n0 + 1) W wx)
     case atStart => exact ⟨0, by omega, rfl, by simpa [outN] using hI, hqr, hB⟩
     case round =>
       clear hI hqr z0 z1
       obtain ⟨j, hj, rfl, hJ, hqj, hBj⟩ := hrel
       have hsj := hBj.size
       have hbj : Below n0 w wr := hbW.trans (hBj.mono (by omega))
       by_cases hlt : j < s.ends.length
       . obtain ⟨n, e⟩ := Jae hlt
         obtain ⟨β, o, rfl, hβ, c0⟩ := hPa j n e
         have d0 := Jgy hbj (by show β < n0; omega) c0
         clear c0
         have hlt' : (j : Int) < (s.ends.length : Int) := by omega
         have hn10 : n < 10 := hn n (by simp [List.mem_of_getElem? e])
         have hito := Jqd (w := wr) (Jfp hg (by rw [hn0]; exact hbj)) (fun β hβ => Nat.lt_of_lt_of_le (hsz β hβ) (by have := hbj.size; omega)) n hn10
         have hst : outN [] ++ (s.ends.take (j + 1)).flatMap numT = (outN [] ++ (s.ends.take j).flatMap numT ++ digT n) ++ [32] := by
           rw [take_snoc e, List.flatMap_append]
           simp [Jq4]
         have hlen : (outN [] ++ (s.ends.take j).flatMap numT).length <= 100000 := by
           have : ∀ l : List Nat, (l.flatMap numT).length = 2 * l.length := fun l => by induction l with | nil => rfl | cons a l ih => rw [List.flatMap_cons, List.length_append, ih]; simp [numT]; omega
           have ht := this (s.ends.take j)
           have hT : (outN []).length <= 20000 := by
             have h2 := this s.ends
             simp [outN, h2]
             try omega
           rw [List.length_append, ht, List.length_take]
           omega
         generalize outN [] ++ (s.ends.take j).flatMap numT = R at *
         go_wp2_with (go_at_call 71; refine hito.mono ?_)
         rintro e1 W1 ⟨rfl, hW1⟩
         have hI1 := Jde hJ hW1
         have hs1 := hW1.size
         have hq1 := (hW1.block _ (Array.getElem?_eq_some_iff.1 hqj).1).trans hqj
         go_wp2_with (go_at_call 70; refine (Any.Builder_WriteString_k bws7 Jc5 (n0 + 1) (n0 + 1) _ _ _ hI1 ?hl ?hz).mono ?_)
         case hl => rw [Lib.byteCells_length]; change _ + (digT n).length <= _; simp [digT]; omega
         case hz => omega
         rintro e2 W2 ⟨rfl, hI2, hB2, hK2⟩
         have hs2 := hB2.size
         have hq2 := hK2 _ _ hq1 (by simp) (by intro c fz h; cases h)
         have hI3 := Jec hI2 (r := R ++ digT n) rfl
         go_wp2_with (go_at_call 72; refine (Any.Builder_WriteByte_k bwb7 Jc5 (n0 + 1) (n0 + 1) _ 32 _ hI3 ?hl ?hz).mono ?_)
         case hl => rw [Lib.byteCells_length, List.length_append]; simp [digT]; omega
         case hz => omega
         rintro e3 W3 ⟨rfl, hI4, hB4, hK4⟩
         have hq4 := hK4 _ _ hq2 (by simp) (by intro c fz h; cases h)
         go_wp2
         go_roundg (gk - 1)
         case measure => omega
         case rel =>
           refine ⟨j + 1, by omega, by simp, ?_, hq4, ((hBj.trans (hW1.mono (by omega))).trans hB2).trans hB4⟩
           rw [hst]
           exact Jn6 hI4
       . have hlt' : ¬ (j : Int) < (s.ends.length : Int) := by omega
         have hjn : j = s.ends.length := by omega
         subst hjn
         rw [List.take_length] at hJ
         go_wp2
         go_roundg (G - 1)
         case measure => omega
         case rel => exact ⟨0 + 1, by omega, by simp, by simpa [outN] using hJ, hqj, hBj⟩
   . skip
     go_wp2
     go_loopg [24] s.timers.length (fun g v24 wx => ∃ j : Nat, j + g = s.timers.length /\ v24 = .int .i64 j /\ IsBuilderF 123 5 (n0 + 1) (n0 + 1) (byteCells (outN [s.ends] ++ (s.timers.take j).flatMap numT)) wx /\ wx.heap[n0 + 1 + 1]? = some (Obj.cells #[.slice pa s.ends.length ca, .slice pe s.timers.length ce] 24) /\ Below (n0 + 1) W wx)
     case atStart => exact ⟨0, by omega, rfl, by simpa [outN] using hI, hqr, hB⟩
     case round =>
       clear hI hqr z0 z1
       obtain ⟨j, hj, rfl, hJ, hqj, hBj⟩ := hrel
       have hsj := hBj.size
       have hbj : Below n0 w wr := hbW.trans (hBj.mono (by omega))
       by_cases hlt : j < s.timers.length
       . obtain ⟨n, e⟩ := Jae hlt
         obtain ⟨β, o, rfl, hβ, c0⟩ := hPe j n e
         have d0 := Jgy hbj (by show β < n0; omega) c0
         clear c0
         have hlt' : (j : Int) < (s.timers.length : Int) := by omega
         have hn10 : n < 10 := hn n (by simp [List.mem_of_getElem? e])
         have hito := Jqd (w := wr) (Jfp hg (by rw [hn0]; exact hbj)) (fun β hβ => Nat.lt_of_lt_of_le (hsz β hβ) (by have := hbj.size; omega)) n hn10
         have hst : outN [s.ends] ++ (s.timers.take (j + 1)).flatMap numT = (outN [s.ends] ++ (s.timers.take j).flatMap numT ++ digT n) ++ [32] := by
           rw [take_snoc e, List.flatMap_append]
           simp [Jq4]
         have hlen : (outN [s.ends] ++ (s.timers.take j).flatMap numT).length <= 100000 := by
           have : ∀ l : List Nat, (l.flatMap numT).length = 2 * l.length := fun l => by induction l with | nil => rfl | cons a l ih => rw [List.flatMap_cons, List.length_append, ih]; simp [numT]; omega
           have ht := this (s.timers.take j)
           have hT : (outN [s.ends]).length <= 20000 := by
             have h2 := this s.ends
             simp [outN, h2]
             try omega
           rw [List.length_append, ht, List.length_take]
           omega
         generalize outN [s.ends] ++ (s.timers.take j).flatMap numT = R at *
         go_wp2_with (go_at_call 71; refine hito.mono ?_)
         rintro e1 W1 ⟨rfl, hW1⟩
         have hI1 := Jde hJ hW1
         have hs1 := hW1.size
         have hq1 := (hW1.block _ (Array.getElem?_eq_some_iff.1 hqj).1).trans hqj
         go_wp2_with (go_at_call 70; refine (Any.Builder_WriteString_k bws7 Jc5 (n0 + 1) (n0 + 1) _ _ _ hI1 ?hl ?hz).mono ?_)
         case hl => rw [Lib.byteCells_length]; change _ + (digT n).length <= _; simp [digT]; omega
         case hz => omega
         rintro e2 W2 ⟨rfl, hI2, hB2, hK2⟩
         have hs2 := hB2.size
         have hq2 := hK2 _ _ hq1 (by simp) (by intro c fz h; cases h)
         have hI3 := Jec hI2 (r := R ++ digT n) rfl
         go_wp2_with (go_at_call 72; refine (Any.Builder_WriteByte_k bwb7 Jc5 (n0 + 1) (n0 + 1) _ 32 _ hI3 ?hl ?hz).mono ?_)
         case hl => rw [Lib.byteCells_length, List.length_append]; simp [digT]; omega
         case hz => omega
         rintro e3 W3 ⟨rfl, hI4, hB4, hK4⟩
         have hq4 := hK4 _ _ hq2 (by simp) (by intro c fz h; cases h)
         go_wp2
         go_roundg (gk - 1)
         case measure => omega
         case rel =>
           refine ⟨j + 1, by omega, by simp, ?_, hq4, ((hBj.trans (hW1.mono (by omega))).trans hB2).trans hB4⟩
           rw [hst]
           exact Jn6 hI4
       . have hlt' : ¬ (j : Int) < (s.timers.length : Int) := by omega
         have hjn : j = s.timers.length := by omega
         subst hjn
         rw [List.take_length] at hJ
         go_wp2
         go_roundg (G - 1)
         case measure => omega
         case rel => exact ⟨1 + 1, by omega, by simp, by simpa [outN] using hJ, hqj, hBj⟩
   . rw [show [s.ends, s.timers].take 2 = [s.ends, s.timers] from rfl] at hI
     have hxr := (hB.block n0 (by omega)).trans hx
     have x1 := Jef hxr 1 rfl
     have x2 := Jef hxr 2 rfl
     have x3 := Jef hxr 3 rfl
     have hA : Below wr.heap.size wr (wr.alloc (Obj.cells #[.slice pb s.valves.length cb, .slice pc s.inputs.length cc, .slice pd s.values.length cd] 31)) := Jes _ (Below.refl _ _) (Nat.le_refl _)
     have hI2 := Jde hI hA
     have hq2 : (wr.alloc (Obj.cells #[.slice pb s.valves.length cb, .slice pc s.inputs.length cc, .slice pd s.values.length cd] 31)).heap[wr.heap.size]? = some (Obj.cells #[.slice pb s.valves.length cb, .slice pc s.inputs.length cc, .slice pd s.values.length cd] 31) := Array.getElem?_push_size
     have hB2 : Below (n0 + 1) W (wr.alloc (Obj.cells #[.slice pb s.valves.length cb, .slice pc s.inputs.length cc, .slice pd s.values.length cd] 31)) := hB.trans (hA.mono (by omega))
     go_wp2
     clear hI hB hqr z0 z1 x1 x2 x3 hxr hA
     generalize wr.alloc (Obj.cells #[.slice pb s.valves.length cb, .slice pc s.inputs.length cc, .slice pd s.values.length cd] 31) = V at *
     obtain ⟨m, hm⟩ : ∃ m, wr.heap.size = m := ⟨_, rfl⟩
     rw [hm] at hq2 hszr ⊢
     go_loopg [42] 3 (fun g v42 wx => ∃ i : Nat, i + g = 3 /\ v42 = .int .i64 i /\ IsBuilderF 123 5 (n0 + 1) (n0 + 1) (byteCells (outN [s.ends, s.timers] ++ outF ([s.valves, s.inputs, s.values].take i))) wx /\ wx.heap[m]? = some (Obj.cells #[.slice pb s.valves.length cb, .slice pc s.inputs.length cc, .slice pd s.values.length cd] 31) /\ Below (n0 + 1) W wx)
     case atStart => exact ⟨0, by omega, rfl, by simpa [outF] using hI2, hq2, hB2⟩
     case round =>
       clear hI2 hq2 hB2
       obtain ⟨i, hi, rfl, hI, hqr, hB⟩ := hrel
       obtain ⟨G, hG⟩ : ∃ G, gk = G := ⟨_, rfl⟩
       have z0 := Jef hqr 0 rfl
       have z1 := Jef hqr 1 rfl
       have z2 := Jef hqr 2 rfl
       rcases (by omega : i = 0 \/ i = 1 \/ i = 2 \/ i = 3) with rfl | rfl | rfl | rfl
       . skip
         go_wp2
         go_loopg [48] s.valves.length (fun g v48 wx => ∃ j : Nat, j + g = s.valves.length /\ v48 = .int .i64 j /\ IsBuilderF 123 5 (n0 + 1) (n0 + 1) (byteCells (outN [s.ends, s.timers] ++ outF [] ++ (s.valves.take j).map Ja9)) wx /\ wx.heap[m]? = some (Obj.cells #[.slice pb s.valves.length cb, .slice pc s.inputs.length cc, .slice pd s.values.length cd] 31) /\ Below (n0 + 1) W wx)
         case atStart => exact ⟨0, by omega, rfl, by simpa [outF] using hI, hqr, hB⟩
         case round =>
           clear hI hqr z0 z1 z2
           obtain ⟨j, hj, rfl, hJ, hqj, hBj⟩ := hrel
           have hsj := hBj.size
           have hbj : Below n0 w wr := hbW.trans (hBj.mono (by omega))
           by_cases hlt : j < s.valves.length
           . obtain ⟨x, e⟩ := Jae hlt
             obtain ⟨β, o, rfl, hβ, c0⟩ := hPb j x e
             have d0 := Jgy hbj (by show β < n0; omega) c0
             clear c0
             have hlt' : (j : Int) < (s.valves.length : Int) := by omega
             have hfb := Jlm (w := wr) (Jfp hg (by rw [hn0]; exact hbj)) (fun β hβ => Nat.lt_of_lt_of_le (hsz β hβ) (by have := hbj.size; omega)) x
             have hst : outN [s.ends, s.timers] ++ outF [] ++ (s.valves.take (j + 1)).map Ja9 = (outN [s.ends, s.timers] ++ outF [] ++ (s.valves.take j).map Ja9) ++ [Ja9 x] := by
               rw [take_snoc e, List.map_append]
               simp
             have hlen : (outN [s.ends, s.timers] ++ outF [] ++ (s.valves.take j).map Ja9).length <= 100000 := by
               have : ∀ l : List Nat, (l.flatMap numT).length = 2 * l.length := fun l => by induction l with | nil => rfl | cons a l ih => rw [List.flatMap_cons, List.length_append, ih]; simp [numT]; omega
               have h8 := this s.ends
               have h9 := this s.timers
               simp [outN, outF, h8, h9]
               omega
             generalize outN [s.ends, s.timers] ++ outF [] ++ (s.valves.take j).map Ja9 = R at *
             cases x
             . skip
               skip
               simp only [boolT, if_true, if_false, Bool.false_eq_true] at hfb
               go_wp2_with (go_at_call 73; refine hfb.mono ?_)
               rintro e1 W1 ⟨rfl, hW1⟩
               have hI1 := Jde hJ hW1
               have hs1 := hW1.size
               have hq1 := (hW1.block _ (Array.getElem?_eq_some_iff.1 hqj).1).trans hqj
               go_wp2_with (go_at_call 70; refine (Any.Builder_WriteString_k bws7 Jc5 (n0 + 1) (n0 + 1) _ _ _ hI1 ?hl ?hz).mono ?_)
               case hl => rw [Lib.byteCells_length]; simp [ByteArray.size_extract]; omega
               case hz => omega
               rintro e2 W2 ⟨rfl, hI2, hB2, hK2⟩
               have hs2 := hB2.size
               have hq2 := hK2 _ _ hq1 (by simp; omega) (by intro c fz h; cases h)
               have hI3 := Jec hI2 (r := R ++ [Ja9 false]) rfl
               go_wp2
               go_roundg (gk - 1)
               case measure => omega
               case rel =>
                 refine ⟨j + 1, by omega, by simp, ?_, hq2, (hBj.trans (hW1.mono (by omega))).trans hB2⟩
                 rw [hst]
                 exact hI3
             . skip
               skip
               simp only [boolT, if_true, if_false, Bool.false_eq_true] at hfb
               go_wp2_with (go_at_call 73; refine hfb.mono ?_)
               rintro e1 W1 ⟨rfl, hW1⟩
               have hI1 := Jde hJ hW1
               have hs1 := hW1.size
               have hq1 := (hW1.block _ (Array.getElem?_eq_some_iff.1 hqj).1).trans hqj
               go_wp2_with (go_at_call 70; refine (Any.Builder_WriteString_k bws7 Jc5 (n0 + 1) (n0 + 1) _ _ _ hI1 ?hl ?hz).mono ?_)
               case hl => rw [Lib.byteCells_length]; simp [ByteArray.size_extract]; omega
               case hz => omega
               rintro e2 W2 ⟨rfl, hI2, hB2, hK2⟩
               have hs2 := hB2.size
               have hq2 := hK2 _ _ hq1 (by simp; omega) (by intro c fz h; cases h)
               have hI3 := Jec hI2 (r := R ++ [Ja9 true]) rfl
               go_wp2
               go_roundg (gk - 1)
               case measure => omega
               case rel =>
                 refine ⟨j + 1, by omega, by simp, ?_, hq2, (hBj.trans (hW1.mono (by omega))).trans hB2⟩
                 rw [hst]
                 exact hI3
           . have hlt' : ¬ (j : Int) < (s.valves.length : Int) := by omega
             have hjn : j = s.valves.length := by omega
             subst hjn
             rw [List.take_length] at hJ
             go_wp2
             go_roundg (G - 1)
             case measure => omega
             case rel => exact ⟨0 + 1, by omega, by simp, by simpa [outF] using hJ, hqj, hBj⟩
       . skip
         go_wp2
         go_loopg [48] s.inputs.length (fun g v48 wx => ∃ j : Nat, j + g = s.inputs.length /\ v48 = .int .i64 j /\ IsBuilderF 123 5 (n0 + 1) (n0 + 1) (byteCells (outN [s.ends, s.timers] ++ outF [s.valves] ++ (s.inputs.take j).map Ja9)) wx /\ wx.heap[m]? = some (Obj.cells #[.slice pb s.valves.length cb, .slice pc s.inputs.length cc, .slice pd s.values.length cd] 31) /\ Below (n0 + 1) W wx)
         case atStart => exact ⟨0, by omega, rfl, by simpa [outF] using hI, hqr, hB⟩
         case round =>
           clear hI hqr z0 z1 z2
           obtain ⟨j, hj, rfl, hJ, hqj, hBj⟩ := hrel
           have hsj := hBj.size
           have hbj : Below n0 w wr := hbW.trans (hBj.mono (by omega))
           by_cases hlt : j < s.inputs.length
           . obtain ⟨x, e⟩ := Jae hlt
             obtain ⟨β, o, rfl, hβ, c0⟩ := hPc j x e
             have d0 := Jgy hbj (by show β < n0; omega) c0
             clear c0
             have hlt' : (j : Int) < (s.inputs.length : Int) := by omega
             have hfb := Jlm (w := wr) (Jfp hg (by rw [hn0]; exact hbj)) (fun β hβ => Nat.lt_of_lt_of_le (hsz β hβ) (by have := hbj.size; omega)) x
             have hst : outN [s.ends, s.timers] ++ outF [s.valves] ++ (s.inputs.take (j + 1)).map Ja9 = (outN [s.ends, s.timers] ++ outF [s.valves] ++ (s.inputs.take j).map Ja9) ++ [Ja9 x] := by
               rw [take_snoc e, List.map_append]
               simp
             have hlen : (outN [s.ends, s.timers] ++ outF [s.valves] ++ (s.inputs.take j).map Ja9).length <= 100000 := by
               have : ∀ l : List Nat, (l.flatMap numT).length = 2 * l.length := fun l => by induction l with | nil => rfl | cons a l ih => rw [List.flatMap_cons, List.length_append, ih]; simp [numT]; omega
               have h8 := this s.ends
               have h9 := this s.timers
               simp [outN, outF, h8, h9]
               omega
             generalize outN [s.ends, s.timers] ++ outF [s.valves] ++ (s.inputs.take j).map Ja9 = R at *
             cases x
             . skip
               skip
               simp only [boolT, if_true, if_false, Bool.false_eq_true] at hfb
               go_wp2_with (go_at_call 73; refine hfb.mono ?_)
               rintro e1 W1 ⟨rfl, hW1⟩
               have hI1 := Jde hJ hW1
               have hs1 := hW1.size
               have hq1 := (hW1.block _ (Array.getElem?_eq_some_iff.1 hqj).1).trans hqj
               go_wp2_with (go_at_call 70; refine (Any.Builder_WriteString_k bws7 Jc5 (n0 + 1) (n0 + 1) _ _ _ hI1 ?hl ?hz).mono ?_)
               case hl => rw [Lib.byteCells_length]; simp [ByteArray.size_extract]; omega
               case hz => omega
               rintro e2 W2 ⟨rfl, hI2, hB2, hK2⟩
               have hs2 := hB2.size
               have hq2 := hK2 _ _ hq1 (by simp; omega) (by intro c fz h; cases h)
               have hI3 := Jec hI2 (r := R ++ [Ja9 false]) rfl
               go_wp2
               go_roundg (gk - 1)
               case measure => omega
               case rel =>
                 refine ⟨j + 1, by omega, by simp, ?_, hq2, (hBj.trans (hW1.mono (by omega))).trans hB2⟩
                 rw [hst]
                 exact hI3
             . skip
               skip
               simp only [boolT, if_true, if_false, Bool.false_eq_true] at hfb
               go_wp2_with (go_at_call 73; refine hfb.mono ?_)
               rintro e1 W1 ⟨rfl, hW1⟩
               have hI1 := Jde hJ hW1
               have hs1 := hW1.size
               have hq1 := (hW1.block _ (Array.getElem?_eq_some_iff.1 hqj).1).trans hqj
               go_wp2_with (go_at_call 70; refine (Any.Builder_WriteString_k bws7 Jc5 (n0 + 1) (n0 + 1) _ _ _ hI1 ?hl ?hz).mono ?_)
               case hl => rw [Lib.byteCells_length]; simp [ByteArray.size_extract]; omega
               case hz => omega
               rintro e2 W2 ⟨rfl, hI2, hB2, hK2⟩
               have hs2 := hB2.size
               have hq2 := hK2 _ _ hq1 (by simp; omega) (by intro c fz h; cases h)
               have hI3 := Jec hI2 (r := R ++ [Ja9 true]) rfl
               go_wp2
               go_roundg (gk - 1)
               case measure => omega
               case rel =>
                 refine ⟨j + 1, by omega, by simp, ?_, hq2, (hBj.trans (hW1.mono (by omega))).trans hB2⟩
                 rw [hst]
                 exact hI3
           . have hlt' : ¬ (j : Int) < (s.inputs.length : Int) := by omega
             have hjn : j = s.inputs.length := by omega
             subst hjn
             rw [List.take_length] at hJ
             go_wp2
             go_roundg (G - 1)
             case measure => omega
             case rel => exact ⟨1 + 1, by omega, by simp, by simpa [outF] using hJ, hqj, hBj⟩
       . skip
         go_wp2
         go_loopg [48] s.values.length (fun g v48 wx => ∃ j : Nat, j + g = s.values.length /\ v48 = .int .i64 j /\ IsBuilderF 123 5 (n0 + 1) (n0 + 1) (byteCells (outN [s.ends, s.timers] ++ outF [s.valves, s.inputs] ++ (s.values.take j).map Ja9)) wx /\ wx.heap[m]? = some (Obj.cells #[.slice pb s.valves.length cb, .slice pc s.inputs.length cc, .slice pd s.values.length cd] 31) /\ Below (n0 + 1) W wx)
         case atStart => exact ⟨0, by omega, rfl, by simpa [outF] using hI, hqr, hB⟩
         case round =>
           clear hI hqr z0 z1 z2
           obtain ⟨j, hj, rfl, hJ, hqj, hBj⟩ := hrel
           have hsj := hBj.size
           have hbj : Below n0 w wr := hbW.trans (hBj.mono (by omega))
           by_cases hlt : j < s.values.length
           . obtain ⟨x, e⟩ := Jae hlt
             obtain ⟨β, o, rfl, hβ, c0⟩ := hPd j x e
             have d0 := Jgy hbj (by show β < n0; omega) c0
             clear c0
             have hlt' : (j : Int) < (s.values.length : Int) := by omega
             have hfb := Jlm (w := wr) (Jfp hg (by rw [hn0]; exact hbj)) (fun β hβ => Nat.lt_of_lt_of_le (hsz β hβ) (by have := hbj.size; omega)) x
             have hst : outN [s.ends, s.timers] ++ outF [s.valves, s.inputs] ++ (s.values.take (j + 1)).map Ja9 = (outN [s.ends, s.timers] ++ outF [s.valves, s.inputs] ++ (s.values.take j).map Ja9) ++ [Ja9 x] := by
               rw [take_snoc e, List.map_append]
               simp
             have hlen : (outN [s.ends, s.timers] ++ outF [s.valves, s.inputs] ++ (s.values.take j).map Ja9).length <= 100000 := by
               have : ∀ l : List Nat, (l.flatMap numT).length = 2 * l.length := fun l => by induction l with | nil => rfl | cons a l ih => rw [List.flatMap_cons, List.length_append, ih]; simp [numT]; omega
               have h8 := this s.ends
               have h9 := this s.timers
               simp [outN, outF, h8, h9]
               omega
             generalize outN [s.ends, s.timers] ++ outF [s.valves, s.inputs] ++ (s.values.take j).map Ja9 = R at *
             cases x
             . skip
               skip
               simp only [boolT, if_true, if_false, Bool.false_eq_true] at hfb
               go_wp2_with (go_at_call 73; refine hfb.mono ?_)
               rintro e1 W1 ⟨rfl, hW1⟩
               have hI1 := Jde hJ hW1
               have hs1 := hW1.size
               have hq1 := (hW1.block _ (Array.getElem?_eq_some_iff.1 hqj).1).trans hqj
               go_wp2_with (go_at_call 70; refine (Any.Builder_WriteString_k bws7 Jc5 (n0 + 1) (n0 + 1) _ _ _ hI1 ?hl ?hz).mono ?_)
               case hl => rw [Lib.byteCells_length]; simp [ByteArray.size_extract]; omega
               case hz => omega
               rintro e2 W2 ⟨rfl, hI2, hB2, hK2⟩
               have hs2 := hB2.size
               have hq2 := hK2 _ _ hq1 (by simp; omega) (by intro c fz h; cases h)
               have hI3 := Jec hI2 (r := R ++ [Ja9 false]) rfl
               go_wp2
               go_roundg (gk - 1)
               case measure => omega
               case rel =>
                 refine ⟨j + 1, by omega, by simp, ?_, hq2, (hBj.trans (hW1.mono (by omega))).trans hB2⟩
                 rw [hst]
                 exact hI3
             . skip
               skip
               simp only [boolT, if_true, if_false, Bool.false_eq_true] at hfb
               go_wp2_with (go_at_call 73; refine hfb.mono ?_)
               rintro e1 W1 ⟨rfl, hW1⟩
               have hI1 := Jde hJ hW1
               have hs1 := hW1.size
               have hq1 := (hW1.block _ (Array.getElem?_eq_some_iff.1 hqj).1).trans hqj
               go_wp2_with (go_at_call 70; refine (Any.Builder_WriteString_k bws7 Jc5 (n0 + 1) (n0 + 1) _ _ _ hI1 ?hl ?hz).mono ?_)
               case hl => rw [Lib.byteCells_length]; simp [ByteArray.size_extract]; omega
               case hz => omega
               rintro e2 W2 ⟨rfl, hI2, hB2, hK2⟩
               have hs2 := hB2.size
               have hq2 := hK2 _ _ hq1 (by simp; omega) (by intro c fz h; cases h)
               have hI3 := Jec hI2 (r := R ++ [Ja9 true]) rfl
               go_wp2
               go_roundg (gk - 1)
               case measure => omega
               case rel =>
                 refine ⟨j + 1, by omega, by simp, ?_, hq2, (hBj.trans (hW1.mono (by omega))).trans hB2⟩
                 rw [hst]
                 exact hI3
           . have hlt' : ¬ (j : Int) < (s.values.length : Int) := by omega
             have hjn : j = s.values.length := by omega
             subst hjn
             rw [List.take_length] at hJ
             go_wp2
             go_roundg (G - 1)
             case measure => omega
             case rel => exact ⟨2 + 1, by omega, by simp, by simpa [outF] using hJ, hqj, hBj⟩
       . have hfin : outN [s.ends, s.timers] ++ outF ([s.valves, s.inputs, s.values].take 3) = staT s := by
           simp [outN, outF, staT]
         rw [hfin] at hI
         have hsr := hB.size
         go_wp2_with (go_at_call 74; refine (Any.Builder_String_any_k bst7 Jc5 (n0 + 1) (n0 + 1) _ _ hI ?hz).mono ?_)
         case hz => omega
         rintro e5 W5 ⟨rfl, hI5, hB5, hK5⟩
         go_wp2
         go_ret
         exact ⟨rfl, by rw [hn0]; exact (hbW.trans (hB.mono (by omega))).trans (hB5.mono (by omega))⟩
theorem Jos (s : Sta) (hn : ∀ n ∈ s.ends ++ s.timers, n < 10) (h1 : s.ends.length <= 1000) (h2 : s.timers.length <= 1000) (h3 : s.valves.length <= 1000) (h4 : s.inputs.length <= 1000) (h5 : s.values.length <= 1000) : Pure Tryz.prog GL 45 [s.av] (.p (.str (staT s))) := by
 refine Pure.of_below Tryz.func45 (by kernel_rfl) rfl rfl fun own w vs hg hsz hlen hv => ?_
 match vs, hlen with
 | [u], _ =>
   obtain ⟨us, rfl, e1, e2⟩ := (hv 0 _ u rfl rfl).agg_inv
   match us, e1 with
   | [a, b, c, d, e], _ =>
     refine Calls.mono (Jys s hn h1 h2 h3 h4 h5 own w a b c d e ⟨hg, hsz, .of (e2 0 _ a rfl rfl), .of (e2 1 _ b rfl rfl), .of (e2 2 _ c rfl rfl), .of (e2 3 _ d rfl rfl), .of (e2 4 _ e rfl rfl)⟩) ?_
     rintro e w' ⟨rfl, hb⟩
     exact ⟨_, rfl, .p _ _ (.str _), hb⟩
end Go.Am
namespace Go.Am
open Go Go.Proofs Go.Pn
theorem Jqe : KeyOk Tryz.prog 9 IsS := keyS (by kernel_rfl) (fun w em n => by kernel_rfl)
def nmsE (p : Txt × Nat) : AV × AV := (.p (.str p.1), .p (.int .i64 p.2))
def nmsM (l : List Txt) : List (AV × AV) := l.zipIdx.map nmsE
theorem Jqy {s : Txt} : ∀ {l : List Txt} {i : Nat}, s ∉ l -> Jbb ((l.zipIdx i).map nmsE) (.p (.str s)) = none
 | [], _, _ => rfl
 | a :: l, i, h => by
   rw [List.zipIdx_cons, List.map_cons, Jfh, if_neg (fun e => h (by cases e; exact List.mem_cons_self)), Jqy fun hm => h (List.mem_cons_of_mem _ hm)]
theorem Jq0 {s : Txt} : ∀ {l : List Txt} {i : Nat}, s ∉ l -> setA ((l.zipIdx i).map nmsE) (.p (.str s)) (.p (.int .i64 ((i + l.length : Nat) : Int))) = ((l ++ [s]).zipIdx i).map nmsE
 | [], _, _ => rfl
 | a :: l, i, h => by
   rw [List.zipIdx_cons, List.map_cons, List.cons_append, List.zipIdx_cons, List.map_cons, setA, if_neg (fun e => h (by cases e; exact List.mem_cons_self)), <- Jq0 fun hm => h (List.mem_cons_of_mem _ hm), List.length_cons, show i + (l.length + 1) = i + 1 + l.length by omega]
theorem Jqz {s : Txt} {l : List Txt} (h : s ∉ l) : Jbb (nmsM l) (.p (.str s)) = none := Jqy h
theorem Jlw {s : Txt} {l : List Txt} (h : s ∉ l) : setA (nmsM l) (.p (.str s)) (.p (.int .i64 (l.length : Int))) = nmsM (l ++ [s]) := by
 have := Jq0 (i := 0) h
 rw [Nat.zero_add] at this; exact this
theorem Jl9 {ρ : List Nat} : ∀ {es : List (AV × AV)}, (∀ e ∈ es, Jas e.1 = true /\ Jas e.2 = true) -> renE ρ es = some es
 | [], _ => rfl
 | e :: es, h => by
   obtain ⟨h1, h2⟩ := h e List.mem_cons_self
   rw [renE, Jf7.1 _ h1, Jf7.1 _ h2, Jl9 fun e he => h e (List.mem_cons_of_mem _ he)]
   rfl
@[simp] theorem J4k {l : List Txt} {s : Txt} : Jdo Tryz.prog 9 (nmsM l) (.p (.str s)) = True :=
 eq_true ⟨_, Jqe, ⟨_, rfl⟩, fun e he => by obtain ⟨p, _, rfl⟩ := List.mem_map.1 he; exact ⟨_, rfl⟩⟩
@[simp] theorem J4m {l : List Txt} {ρ : List Nat} : renE ρ (nmsM l) = some (nmsM l) :=
 Jl9 fun e he => by obtain ⟨p, _, rfl⟩ := List.mem_map.1 he; exact ⟨rfl, rfl⟩
@[simp] theorem J4l {l : List Txt} : (nmsM l).length = l.length := by unfold nmsM; rw [List.length_map, List.length_zipIdx]
def chkB (c : Ctl) (b m : Nat) : ABlk := .cells 9 [[.p (.int .i64 c.act), .p (.lst 1 (c.inputs.map Txt.enc)), .p (.lst 10 (c.sigs.map Sig.enc)), .p (.lst 1 (c.plus.map Int.enc)), .p (.lst 1 (c.minus.map Int.enc)), .map m,
 .fn (.via 0 #[] 85 true) [.ptr b 9 0 0], .fn (.via 0 #[] 86 true) [.ptr b 9 0 0], .fn (.via 0 #[] 87 true) [.ptr b 9 0 0]]]
theorem Jcx {c : Ctl} {b m b' m' : Nat} {ρ : List Nat} (h1 : ρ[b]? = some b') (h2 : ρ[m]? = some m') : renB ρ (chkB c b m) = some (chkB c b' m') := by
 simp [chkB, h1, h2]
theorem J3n {s : Txt} (h : Jck s = true) : ∃ a r, s = a :: r /\ 97 <= a.toNat /\ a.toNat <= 122 /\ s.all Jcn = true := by
 match s, h with
 | a :: r, h =>
   unfold Jck at h
   simp only [Bool.and_eq_true] at h
   have hs : Jd2 a = true := h.1
   have hs2 := hs
   unfold Jd2 at hs2
   simp only [Bool.and_eq_true, decide_eq_true_eq] at hs2
   refine ⟨a, r, rfl, hs2.1, hs2.2, ?_⟩
   rw [List.all_cons, h.2, Bool.and_true]
   unfold Jcn
   rw [hs]; rfl
set_option maxHeartbeats 1000000 in
set_option maxRecDepth 20000 in
theorem Jpp (c : Ctl) (l : List Txt) (s : Txt) (hw : Jck s = true) (hl : s.length <= 24) (hn : s ∉ l) (st : Store) (nx b m : Nat) (hnd : [b, m].Nodup) (hlt : ∀ x ∈ [b, m], x < nx)
   (g0 : get st b = some (chkB c b m)) (g1 : get st m = some (.map (nmsM l))) :
   Gives Tryz.prog GL 89 [.ptr b 9 0 0, .p (.str s)] st nx (.p (.int .i64 0)) [b, m] [(m, some (.map (nmsM (l ++ [s]))))] nx := by
 obtain ⟨a, r, rfl, ha1, ha2, hall⟩ := J3n hw
 have hC := Jv2 _ hall
 have hlk := Jqz hn
 have hpt := Jlw hn
 have r0 : renB [b, m] (chkB c 0 1) = some (chkB c b m) := Jcx rfl rfl
 have r1 : renB [0, 1] (chkB c 0 1) = some (chkB c 0 1) := Jcx rfl rfl
 have r2 : renB (List.range 2) (chkB c 0 1) = some (chkB c 0 1) := Jcx rfl rfl
 refine Gives.mk_walkK (N := 46) (args := [.ptr 0 9 0 0, .p (.str (a :: r))]) [b, m] [] [(0, some (chkB c 0 1)), (1, some (.map (nmsM l)))]
   [(1, some (.map (nmsM (l ++ [a :: r]))))] 2 0 (.p (.int .i64 0)) (fun _ => []) (up1 := [(m, some (.map (nmsM (l ++ [a :: r]))))]) Tryz.func89 rfl rfl rfl (by simp) rfl ?_ (by simp) rfl (by simp) (by simp) rfl ?_
 . refine ⟨?_, rfl, hnd, hlt, rfl⟩
   simp [-renB, g0, g1, r0]
   simp
 have h97 : ¬ ((a.toNat : Int) < 97) := by omega
 have h122 : ¬ ((122 : Int) < (a.toNat : Int)) := by omega
 have h24 : ¬ ((24 : Int) < (r.length : Int) + 1) := by rw [List.length_cons] at hl; omega
 simp [-renB, h97, h122]
 refine Jab hC ?_
 simp [-renB, h24, hlk, chkB]
 refine Jaf.intro (by kernel_rfl) ?_
 simp [-renB, hpt]
 refine ⟨.of (by kernel_rfl), by simp, ?_⟩
 rw [r2]
 simp [chkB]
end Go.Am
