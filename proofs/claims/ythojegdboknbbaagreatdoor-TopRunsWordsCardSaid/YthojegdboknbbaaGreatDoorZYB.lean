/- Lemmas and contracts for the proof of a statement of this seat. -/
import Derived.Test.YthojegdboknbbaaGreatDoorZYA
import Derived.Test.YthojegdboknbbaaGreatDoorZA7
set_option linter.unusedVariables false
set_option linter.unusedSimpArgs false
namespace Go.Am
open Go Go.Proofs Go.Pn
theorem Jtt {α : Type} {ρ : List Nat} {k : Nat} {L : List α} {f : α -> List AV} (hf : ∀ x, Ja5 (f x) = true) : (match accB k (L.map f) with
   | some y => Jaj (renB ρ y) fun y' => ABlk.cells k (L.map f) = y'
   | none => True) := by
 by_cases hl : L = []
 . subst hl; exact trivial
 . rw [Jat hl]
   show Jaj ((renR _ _).map _) _
   rw [Jao hf]
   rfl
@[simp] def J2e (s : Sta) : List AV := [.p (.lst 1 (s.ends.map nenc)), .p (.lst 1 (s.valves.map Bool.enc)), .p (.lst 1 (s.inputs.map Bool.enc)), .p (.lst 1 (s.values.map Bool.enc)), .p (.lst 1 (s.timers.map nenc))]
def Jha (j : Nat) (st : St) : Nat := match get st.s 0 with
 | some (.cells _ [row]) => nameOf (row.getD j .any)
 | _ => 0
noncomputable def expG (c : Ctl) (most : Nat) (g : SG) (i : Nat) (s : Sta) : EG := Jdu c most s i (evsF s) ⟨g.nodes, g.begun, [], 0⟩
def outG (g : SG) (y : EG) : SG := ⟨y.nodes, if y.err = 0 then g.bh ++ [y.bhd] else g.bh, y.begun, g.err⟩
def srcU (c : Ctl) (pr : Bool) (most : Int) (g : SG) (x n p b k : Nat) : Store := [(x, some (srcB c pr most g n p b k)), (n, accB 9 (g.nodes.map Nod.row)), (p, some (.map (nmsM g.txts))), (b, accB 1 (g.bh.map rowJ)), (k, some (.map (begM g.begun)))]
theorem J2b (c : Ctl) (pr : Bool) (most : Int) (g : SG) (x n p b k nx : Nat) : renS (Jaq [x, n, p, b, k] nx 2) (srcU c pr most g 0 5 2 6 4) = some (srcU c pr most g x nx p (nx + 1) k) := by
 refine Ja6 ?_ (Ja6 (Jay rfl (Jao fun _ => rfl)) (Ja6 ?_ (Ja6 (Jay rfl (Jao fun _ => rfl)) ?_)))
 . rfl
 . simp [renS, Jaq]
 . simp [renS, Jaq]
structure ExG where
 y : EG
 k : Nat
set_option maxHeartbeats 4000000 in
set_option maxRecDepth 20000 in
theorem Jxm (c : Ctl) (hc : RC c) (hL : Lg c) (most : Nat) (hmost : most <= 1000) (g : SG) (i : Nat) (n0 : Nod) (hi : g.nodes[i]? = some n0) (hI : EI c most ⟨g.nodes, g.begun, [], 0⟩) (hbh : g.bh.length <= 1000) (st : Store) (nx x n p b k : Nat) (hM : SrcAt c true most g st nx x n p b k) :
   Gives Tryz.prog GL 47 [.ptr x 12 0 0, .p (.int .i64 i)] st nx (.p (.int .i64 (expG c most g i n0.st).err)) [x, n, p, b, k]
     (srcU c true most (outG g (expG c most g i n0.st)) x nx p (nx + 1) k ++ [(n, none), (b, none)]) (nx + 2) := by
 have hn0 := hI.right n0 (List.mem_of_getElem? hi)
 obtain ⟨hr0, hq0⟩ := hn0
 have hil := (gsI.1 hi).1
 obtain ⟨s, hs⟩ : ∃ s, n0.st = s := ⟨_, rfl⟩
 rw [hs] at hr0 hq0 ⊢
 have hE := fun (st : Store) (nx : Nat) (x n p b k : Nat) => Jxl c most g s hr0 hc hL hq0 st nx x n p b k
 have hne : g.nodes ≠ [] := fun h => by rw [h] at hi; cases hi
 have hup := J2b c true most (outG g (expG c most g i s)) x n p b k nx
 refine Gives.mk_walkAL (N := 139) (args := [.ptr 0 12 0 0, .p (.int .i64 i)]) [x, n, p, b, k] [1, 3] (srcS c true most g)
   _ 5 2 (.p (.int .i64 (expG c most g i s).err)) (fun st => [Jha 7 st, Jha 9 st]) Tryz.func47 rfl rfl rfl (by simp) rfl (Jsf hM rfl) (by simp) rfl hup rfl rfl ?_
 simp [srcS, srcB]
 simp [hil, hne, hi, hs, -getElem?_pos, List.getElem?_cons_zero, List.getElem?_cons_succ]
 refine Jag (hE _ _ 0 1 2 3 4 ⟨by decide, by decide, rfl, rfl, rfl, rfl, rfl⟩) ?_
 simp
 obtain ⟨Z, hZ⟩ : ∃ Z, expG c most g i s = Z := ⟨_, rfl⟩
 rw [hZ] at hup ⊢
 have hx0 : Jdu c most s i ((evsF s).drop 0) ⟨g.nodes, g.begun, [], 0⟩ = Z := hZ
 have hlen : (evsF s).length <= 100000 := by rw [<- Jpd]; exact Jpe (hr0.small hc)
 have hin := fun (e : Evt) (k : Nat) (h : (evsF s)[k]? = some e) => List.mem_of_getElem? h
 generalize hL0 : evsF s = L at *
 refine Jai.goL (fun (x : ExG) => ⟨[(38, .p (.int .i64 x.k)), (8, .acc 9 1 x.y.bhd.length), (0, .ptr 0 12 0 0), (1, .p (.int .i64 i)), (5, .ptr 5 5 0 0), (36, .p (.lst 3 (L.map Evt.enc))), (37, .p (.int .i64 L.length))],
     [(0, some (srcB c true most ⟨x.y.nodes, g.bh, x.y.begun, g.err⟩ 7 2 8 4)), (7, accB 9 (x.y.nodes.map Nod.row)), (2, some (.map (nmsM (SG.txts ⟨x.y.nodes, g.bh, x.y.begun, g.err⟩)))), (8, accB 1 (g.bh.map rowJ)), (4, some (.map (begM x.y.begun))), (9, accB 1 (x.y.bhd.map Int.row)), (5, some (.cells 5 [J2e s]))], 10⟩)
   (fun x => x.k <= L.length /\ x.y.err = 0 /\ EI c most x.y /\ x.y.bhd.length = x.k /\ Jdu c most s i (L.drop x.k) x.y = Z) (fun x => L.length - x.k) ⟨⟨g.nodes, g.begun, [], 0⟩, 0⟩ ⟨by simp, rfl, hI, rfl, hx0⟩ ?_ ?_
 . refine Leads.trans (Freeze.of (B := [6]) [(36, .p (.lst 3 (L.map Evt.enc)))] [(6, none)] ?_ (by simp) (by simp [keys])).leads ?_
   . intro q hq
     simp only [List.mem_singleton] at hq
     subst hq
     exact FrzK.grown (rows := L.map Evt.row) (by simp) (by simp [get]) (by rw [List.map_map]; rfl) (by simp)
   . refine Leads.subD [0, 1, 2, 3, 4, 5, 6, 1, 3, 9] [1, 3, 6] ?_ ?_ (by simp) (by decide) (by simp) rfl
     . simp
     . simp [srcB, Jee, Jed, SG.txts]
 rintro ⟨y, k⟩ ⟨hk, hy0, hEI, hbl, hy⟩
 simp only at hk hy0 hEI hbl hy
 simp [srcB]
 refine Jan (fun h3 => ?_) (fun h3 => ?_)
 . simp at h3
   obtain ⟨e, he⟩ := Jae h3
   have hN := Jva c s e hr0 hc hL hq0
   rw [RunI.cons he, Jk5] at hy
   simp [h3, he, -getElem?_pos, List.getElem?_cons_zero, List.getElem?_cons_succ]
   refine Jaf.intro (by kernel_rfl) ?_
   simp
   cases hn : Jbm c s e with
   | none =>
     rw [Jns hn] at hN
     have herr := @Jk1 s e
     have hZ2 : Z = ⟨y.nodes, y.begun, y.bhd, errN s e⟩ := by
       rw [<- hy, Jk6] <;> (unfold Jcy; rw [if_neg (by simp [hy0])]; simp only [hn]; try exact herr)
     subst hZ2
     generalize errN s e = er at *
     simp at hN
     refine Jab hN ?_
     simp [herr]
     refine ⟨.of (by kernel_rfl), Jgt.of ?_⟩
     simp [outG, herr, Jha, srcS, srcU, srcB, SG.txts]
     exact ⟨⟨Jcf fun _ => rfl, Jcf fun _ => rfl⟩, by decide⟩
   | some u =>
     have hru := hr0.next hc.kinds hn
     have hsa := hr0.act
     have hua := hru.1.act
     have hca := hc.act
     have hB := Ju9 s u (by omega) (by omega) hr0.ends4 hru.1.ends4
     have husm := hru.1.small hc
     have hT := Jos u (fun n hn => by
       rcases List.mem_append.1 hn with h | h
       . have := hru.1.ends4 n h; omega
       . have := hru.1.tim3 n h; omega) (by omega) (by have := hru.1.timers; have := hc.sigs; omega) (by have := hru.1.valves; omega) (by have := hru.1.inputs; have := hc.inputs; omega) (by have := hru.1.values; have := hc.sigs; omega)
     have hone : Jcy c most s i y e = if u ∈ stsN y.nodes then ⟨y.nodes, insA y.begun (Jb2 s u), y.bhd ++ [((stsN y.nodes).idxOf u : Int)], 0⟩
         else ⟨y.nodes ++ [⟨u, i, e⟩], insA y.begun (Jb2 s u), y.bhd ++ [(y.nodes.length : Int)], if most < y.nodes.length + 1 then 12 else 0⟩ := by
       unfold Jcy
       rw [if_neg (by simp [hy0])]
       simp only [hn]
     rw [Jnt hn] at hN
     generalize midL c s e = M at *
     obtain ⟨B, hBe⟩ : ∃ B, Jb2 s u = B := ⟨_, rfl⟩
     rw [hBe] at hB hone
     have hBl : B.length <= 6 := by
       rw [<- hBe, <- Jj6]
       exact Nat.le_trans Jj7 (by omega)
     simp at hN hB hT
     refine Jab hN ?_
     simp
     refine ⟨.of (by kernel_rfl), ?_⟩
     refine Jab hB ?_
     simp
     refine Jai.go [0, 1, 5, 8, 10, 11, 36, 37, 38, 65, 66] [0, 2, 5, 7, 8, 9, 10, 11] 0 [] (fun _ => []) (fun _ (j : Nat) => [(67, .p (.int .i64 j))]) (fun _ j => [(4, some (.map (begM (insA y.begun (B.take j)))))]) (fun j => j <= B.length) (fun j => B.length - j) 0 (by omega) ?_ ?_
     . simp [Jee, Jed, Jar, insA]
       try decide
     intro j hj
     simp
     refine Jan (fun h4 => ?_) (fun h4 => ?_)
     . simp at h4
       obtain ⟨sk, hsk⟩ := Jae h4
       simp [h4, hsk, -getElem?_pos, List.getElem?_cons_zero, List.getElem?_cons_succ]
       refine Jaf.intro (by kernel_rfl) ?_
       simp
       have hput : setA (begM (insA y.begun (B.take j))) (.agg [.p (.int .i64 sk.act), .p (.bool sk.out)]) (.p (.bool true)) = begM (insA y.begun (B.take (j + 1))) := by
         have h5 := @Jn1 sk (insA y.begun (B.take j))
         have h6 : insA y.begun (B.take (j + 1)) = insK (insA y.begun (B.take j)) sk := by
           rw [take_snoc hsk]
           unfold insA
           rw [List.foldl_append]; rfl
         rw [h6]; exact h5
       refine ⟨.of (by kernel_rfl), wrap_i64 (by omega) (by omega), j + 1, by omega, by omega, by simp, hput, ?_⟩
       decide
     . simp at h4
       have hjb : j = B.length := by omega
       subst hjb
       rw [List.take_length]
       simp
       refine Jaf.intro (by kernel_rfl) ?_
       simp
       refine Jab hT ?_
       simp
       have hnd := hEI.txts
       have hIn := (hEI.one hc hr0 (s := s) (i := i) e)
       rw [hone] at hIn
       rw [hone] at hy
       have hnl : y.nodes.length <= 1000 := by have := hEI.few hy0; omega
       have hbl2 : y.bhd.length <= 100000 := by omega
       have hfew := hEI.few hy0
       rw [show SG.txts ⟨y.nodes, g.bh, y.begun, g.err⟩ = (stsN y.nodes).map staT from rfl]
       by_cases hu : u ∈ stsN y.nodes
       . rw [if_pos hu] at hy hIn
         have hat : ((stsN y.nodes).map staT)[(stsN y.nodes).idxOf u]? = some (staT u) := by
           rw [List.getElem?_map, Jp3 hu]; rfl
         rw [Jzp hnd hat]
         generalize (stsN y.nodes).idxOf u = J at *
         simp
         refine ⟨.of (by kernel_rfl), by omega, ?_⟩
         have hm : ¬ most < y.nodes.length := by omega
         refine Jaf.intro (by kernel_rfl) ?_
         simp [hm]
         have em : y.bhd.map Int.row ++ [[AV.p (.int .i64 (J : Int))]] = (y.bhd ++ [(J : Int)]).map Int.row := by rw [List.map_append]; rfl
         have hHl : (y.bhd ++ [(J : Int)]).length = y.bhd.length + 1 := by simp
         refine ⟨.of (by kernel_rfl), wrap_i64 (by omega) (by omega), ⟨⟨y.nodes, insA y.begun B, y.bhd ++ [(J : Int)], 0⟩, k + 1⟩, ⟨by simp only; omega, rfl, hIn, by simp only; omega, hy⟩, by simp only; omega, Leads.subx (ρ := [0, 1, 2, 3, 4, 5, 6, 7, 8, 13]) ?_⟩
         rw [em]
         generalize y.bhd ++ [(J : Int)] = H at *
         simp [srcB, hHl, Jee, Jed, Jar, SG.txts]
         decide
       . rw [if_neg hu] at hy hIn
         have hna : staT u ∉ (stsN y.nodes).map staT := fun h => by
           obtain ⟨v, hv, hvt⟩ := List.mem_map.1 h
           obtain ⟨m, hm, rfl⟩ := List.mem_map.1 hv
           exact hu (by rw [<- Jsh (hEI.right m hm).1 hru.1 hvt]; exact hv)
         rw [Jqz hna]
         simp
         have hput2 := Jlw hna
         rw [List.length_map, show (stsN y.nodes).length = y.nodes.length by simp [stsN]] at hput2
         refine ⟨.of (by kernel_rfl), ?_⟩
         refine Jaf.intro (by kernel_rfl) ?_
         simp
         refine Jab hT ?_
         simp
         rw [hput2]
         refine ⟨.of (by kernel_rfl), ?_⟩
         refine Jaf.intro (by kernel_rfl) ?_
         simp
         refine ⟨by omega, .of (by kernel_rfl), by omega, ?_⟩
         have em : y.bhd.map Int.row ++ [[AV.p (.int .i64 (y.nodes.length : Int))]] = (y.bhd ++ [(y.nodes.length : Int)]).map Int.row := by rw [List.map_append]; rfl
         have hHl : (y.bhd ++ [(y.nodes.length : Int)]).length = y.bhd.length + 1 := by simp
         have en : y.nodes.map Nod.row ++ [Nod.row (⟨u, i, e⟩ : Nod)] = (y.nodes ++ [(⟨u, i, e⟩ : Nod)]).map Nod.row := by rw [List.map_append]; rfl
         have hNl : (y.nodes ++ [(⟨u, i, e⟩ : Nod)]).length = y.nodes.length + 1 := by simp
         have hst : (stsN y.nodes).map staT ++ [staT u] = (stsN (y.nodes ++ [(⟨u, i, e⟩ : Nod)])).map staT := by simp [stsN]
         simp only [Nod.row] at en
         rw [em, en, hst]
         generalize y.bhd ++ [(y.nodes.length : Int)] = H at *
         generalize y.nodes ++ [(⟨u, i, e⟩ : Nod)] = N at *
         by_cases hm : most < y.nodes.length + 1
         . rw [if_pos hm, Jk6 (show (12 : Int) ≠ 0 by decide)] at hy
           subst hy
           refine Jaf.intro (by kernel_rfl) ?_
           have hm2 : (most : Int) < (y.nodes.length : Int) + 1 := by omega
           simp [hm2]
           refine ⟨.of (by kernel_rfl), Jgt.of ?_⟩
           simp [outG, Jha, srcS, srcU, srcB, SG.txts, hNl]
           exact ⟨⟨Jcf fun _ => rfl, Jcf fun _ => rfl⟩, by decide⟩
         . rw [if_neg hm] at hy hIn
           refine Jaf.intro (by kernel_rfl) ?_
           have hm2 : ¬ (most : Int) < (y.nodes.length : Int) + 1 := by omega
           simp [hm2]
           refine ⟨.of (by kernel_rfl), wrap_i64 (by omega) (by omega), ⟨⟨N, insA y.begun B, H, 0⟩, k + 1⟩, ⟨by simp only; omega, rfl, hIn, by simp only; omega, hy⟩, by simp only; omega, Leads.subx (ρ := [0, 1, 2, 3, 4, 5, 6, 13, 8, 15]) ?_⟩
           simp [srcB, hHl, hNl, Jee, Jed, Jar, SG.txts]
           decide
 . simp at h3
   have hkl : k = L.length := by omega
   rw [hkl, List.drop_length] at hy
   change y = Z at hy
   subst hy
   simp
   have hac : accB 1 (g.bh.map rowJ ++ [[AV.acc 9 1 y.bhd.length]]) = some (.cells 1 (g.bh.map rowJ ++ [[AV.acc 9 1 y.bhd.length]])) := by simp [accB]
   obtain ⟨T, hT⟩ : ∃ T, g.bh ++ [y.bhd] = T := ⟨_, rfl⟩
   have hTm : T.map rowJ = g.bh.map rowJ ++ [rowJ y.bhd] := by rw [<- hT, List.map_append]; rfl
   have hTl : T.length = g.bh.length + 1 := by rw [<- hT]; simp
   refine ⟨by omega, _, (Freeze.of (B := [9]) [] [(9, none), (11, some (.cells 1 (T.map rowJ)))] (by simp) ?_ (by simp [keys])).leads, ?_⟩
   . intro q hq v hv
     simp only [List.mem_cons, List.not_mem_nil, or_false] at hq
     rcases hq with rfl | rfl
     . cases hv
     . simp only [Option.some.injEq] at hv
       subst hv
       rw [hTm]
       refine ⟨by simp, _, by simp only [get]; exact hac, FrzB.lastRow ?_⟩
       simp only [rowJ, rowK, and_true]
       refine FrzK.grown (b := 9) (k := 1) (n := y.bhd.length) (rows := y.bhd.map Int.row) (r := y.bhd.map Int.enc) ?_ ?_ ?_ ?_
       . simp
       . simp [get]
       . rw [List.map_map]; rfl
       . simp
   . simp [outG, hy0, Jha, srcS, srcU, srcB, SG.txts, hT, hTl]
     exact ⟨⟨Jcf fun _ => rfl, Jtt fun _ => rfl⟩, by decide⟩
end Go.Am
namespace Go.Am
open Go Go.Proofs Go.Pn
noncomputable def rndG (c : Ctl) (most : Nat) (g : SG) (i : Nat) : SG := match g.nodes[i]? with
 | none => g
 | some n => if g.err ≠ 0 then g else { outG g (expG c most g i n.st) with err := (expG c most g i n.st).err }
noncomputable def itG (c : Ctl) (most : Nat) (g : SG) : Nat -> SG
 | 0 => g
 | i + 1 => rndG c most (itG c most g i) i
structure GI (c : Ctl) (most : Nat) (g : SG) : Prop where
 right : ∀ n ∈ g.nodes, RS c n.st /\ Jb8 c n.st
 nodup : (stsN g.nodes).Nodup
 few : g.err = 0 -> g.nodes.length <= most
 big : g.nodes.length <= most + 1
theorem GI.ei {c : Ctl} {most : Nat} {g : SG} (h : GI c most g) (h0 : g.err = 0) : EI c most ⟨g.nodes, g.begun, [], 0⟩ := ⟨h.right, h.nodup, fun _ => h.few h0, h.big⟩
theorem GI.rnd {c : Ctl} (hc : RC c) {most : Nat} {g : SG} (h : GI c most g) (i : Nat) : GI c most (rndG c most g i) := by
 unfold rndG
 split
 . exact h
 . rename_i n hn
   split
   . exact h
   . rename_i h0
     have h0 : g.err = 0 := Classical.byContradiction h0
     have hE := EI.all hc (h.right n (List.mem_of_getElem? hn)).1 (i := (i : Int)) (l := evsF n.st) (h.ei h0)
     exact ⟨hE.right, hE.nodup, hE.few, hE.big⟩
theorem GI.it {c : Ctl} (hc : RC c) {most : Nat} {g : SG} (h : GI c most g) : ∀ i, GI c most (itG c most g i)
 | 0 => h
 | i + 1 => (GI.it hc h i).rnd hc i
theorem Jn4 {c : Ctl} {most : Nat} {g : SG} : ∀ i, (itG c most g i).bh.length <= g.bh.length + i
 | 0 => Nat.le_refl _
 | i + 1 => by
   have ih := @Jn4 c most g i
   show (rndG c most (itG c most g i) i).bh.length <= _
   unfold rndG
   split
   . omega
   . split
     . omega
     . show (outG _ _).bh.length <= _
       unfold outG
       simp only
       split
       . rw [List.length_append, List.length_singleton]; omega
       . omega
theorem J1w {c : Ctl} {most : Nat} {g : SG} {i : Nat} (h : g.nodes.length <= i \/ g.err ≠ 0) : rndG c most g i = g := by
 unfold rndG
 split
 . rfl
 . rename_i n hn
   have := (gsI.1 hn).1
   rcases h with h | h
   . omega
   . rw [if_pos h]
theorem Jp8 {c : Ctl} {most : Nat} {g : SG} {i : Nat} (h : (itG c most g i).nodes.length <= i \/ (itG c most g i).err ≠ 0) : ∀ j, itG c most g (i + j) = itG c most g i
 | 0 => rfl
 | j + 1 => by
   show rndG c most (itG c most g (i + j)) (i + j) = _
   rw [Jp8 h j]
   exact J1w (h.imp (fun h => by omega) id)
structure SimG (g : SG) (y : Sr Sta Stk) : Prop where
 nodes : y.nodes = stsN g.nodes
 begun : ∀ k, k ∈ g.begun ↔ k ∈ y.begun
 err : g.err = (y.err : Int)
theorem SimG.rnd {c : Ctl} {most : Nat} {g : SG} {y : Sr Sta Stk} (h : SimG g y) (i : Nat) : SimG (rndG c most g i) (rndS (Jbi c) most y i) := by
 have hat : y.nodes[i]? = (g.nodes[i]?).map (·.st) := by rw [h.nodes]; simp [stsN]
 unfold rndG rndS
 cases hn : g.nodes[i]? with
 | none =>
   rw [hn] at hat
   rw [hat]; exact h
 | some n =>
   rw [hn] at hat
   rw [hat]
   simp only [Option.map_some]
   by_cases h0 : y.err = 0
   . have h0' : g.err = 0 := by rw [h.err, h0]; rfl
     rw [if_neg (show ¬ g.err ≠ 0 from fun h => h h0'), if_neg (show ¬ y.err ≠ 0 from fun h => h h0)]
     have hs : SimE ⟨g.nodes, g.begun, [], 0⟩ y := ⟨h.nodes, h.begun, by rw [h0]; rfl⟩
     have := SimE.all (c := c) (most := most) (i := (i : Int)) hs (l := evsF n.st) (s := n.st) fun e he => he
     exact ⟨this.nodes, this.begun, this.err⟩
   . rw [if_pos (show g.err ≠ 0 by rw [h.err]; omega), if_pos h0]
     exact h
theorem SimG.it {c : Ctl} {most : Nat} {s : Sta} {g : SG} (h : SimG g ⟨[s], [], 0⟩) : ∀ i, SimG (itG c most g i) (itrS (Jbi c) most s i)
 | 0 => h
 | i + 1 => (SimG.it h i).rnd i
def srcT (a : Nat) : Jap := [(12, .ptr a 1 0 0)]
@[simp] theorem J44 {ρ : List Nat} {a : Nat} : renT ρ (srcT a) = (ρ[a]?).map srcT := by
 unfold srcT
 cases h : ρ[a]? <;> simp [renT, h]
def recN (a j : Nat) (st : St) : Nat := match get st.s a with
 | some (.cells _ [row]) => nameOf (row.getD j .any)
 | _ => 0
def Jtq (c : Ctl) (most : Nat) (i : LoopI) : Prop :=
 ∀ (g : SG) (q : Nat) (s : Store) (nx a x n p b k lam : Nat), GI c most g -> q < g.nodes.length -> g.err = 0 -> g.bh.length <= 1000 -> [lam, a, x, n, p, b, k].Nodup -> (∀ y ∈ [lam, a, x, n, p, b, k], y < nx) ->
   get s a = some (.cells 1 [[.ptr x 12 0 0]]) -> get s x = some (srcB c true most g n p b k) -> get s n = accB 9 (g.nodes.map Nod.row) -> get s p = some (.map (nmsM g.txts)) -> get s b = accB 1 (g.bh.map rowJ) -> get s k = some (.map (begM g.begun)) -> get s lam = some (.loop i (srcT a) none) ->
   GivesY Tryz.prog GL i.l [.p (.int .i64 q)] s nx (.p (.bool true)) [lam, a, x, n, p, b, k] ((lam, some (.loop i (srcT a) none)) :: (srcU c true most (rndG c most g q) x nx p (nx + 1) k ++ [(n, none), (b, none)])) (nx + 2)
def queS (c : Ctl) (most : Nat) (g : SG) (i : LoopI) : Store := [(0, some (.cells 1 [[.ptr 2 12 0 0]])), (1, some (.cells 1 [[.ptr 2 12 0 0]])), (2, some (srcB c true most g 3 4 5 6)), (3, accB 9 (g.nodes.map Nod.row)), (4, some (.map (nmsM g.txts))), (5, accB 1 (g.bh.map rowJ)), (6, some (.map (begM g.begun))), (7, some (.loop i (srcT 1) none))]
theorem J1l {c : Ctl} {most : Nat} {g : SG} {i : LoopI} {st : Store} {nx q a x n p b k lam : Nat} {args args' : List AV} (hnd : [q, a, x, n, p, b, k, lam].Nodup) (hlt : ∀ y ∈ [q, a, x, n, p, b, k, lam], y < nx) (gq : get st q = some (.cells 1 [[.ptr x 12 0 0]])) (ga : get st a = some (.cells 1 [[.ptr x 12 0 0]]))
   (gx : get st x = some (srcB c true most g n p b k)) (gn : get st n = accB 9 (g.nodes.map Nod.row)) (gp : get st p = some (.map (nmsM g.txts))) (gb : get st b = accB 1 (g.bh.map rowJ)) (gk : get st k = some (.map (begM g.begun))) (gl : get st lam = some (.loop i (srcT a) none)) (ha : renL [q, a, x, n, p, b, k, lam] args = some args') :
   Jcq [q, a, x, n, p, b, k, lam] nx (queS c most g i) st args args' := by
 have r0 : renB [q, a, x, n, p, b, k, lam] (srcB c true most g 3 4 5 6) = some (srcB c true most g n p b k) := rfl
 have r1 : renB [q, a, x, n, p, b, k, lam] (.loop i (srcT 1) none) = some (.loop i (srcT a) none) := rfl
 have r2 : renB [q, a, x, n, p, b, k, lam] (.cells 1 [[.ptr 2 12 0 0]]) = some (.cells 1 [[.ptr x 12 0 0]]) := rfl
 refine ⟨?_, fun j j' hk hg => ?_, hnd, hlt, ha⟩
 . simp [-renB, queS, Jc0, gx, gl, r0, r1, r2, gq, ga]
   simp [gp, gk]
   exact ⟨Jfv (fun _ => rfl) gn, Jfv (fun _ => rfl) gb⟩
 . match j, hk with
   | 0, _ => exact ⟨_, rfl⟩
   | 1, _ => exact ⟨_, rfl⟩
   | 2, _ => exact ⟨_, rfl⟩
   | 3, hk => simp at hk; subst hk; rw [gn] at hg; exact Option.ne_none_iff_exists'.1 hg
   | 4, _ => exact ⟨_, rfl⟩
   | 5, hk => simp at hk; subst hk; rw [gb] at hg; exact Option.ne_none_iff_exists'.1 hg
   | 6, _ => exact ⟨_, rfl⟩
   | 7, _ => exact ⟨_, rfl⟩
theorem J1m (c : Ctl) (pr : Bool) (most : Int) (g : SG) (q a x n p b k lam nx : Nat) : renS (Jaq [q, a, x, n, p, b, k, lam] nx 2) (srcU c pr most g 2 8 4 9 6) = some (srcU c pr most g x nx p (nx + 1) k) := by
 refine Ja6 ?_ (Ja6 (Jay rfl (Jao fun _ => rfl)) (Ja6 ?_ (Ja6 (Jay rfl (Jao fun _ => rfl)) ?_)))
 . rfl
 . simp [renS, Jaq]
 . simp [renS, Jaq]
set_option maxHeartbeats 4000000 in
set_option maxRecDepth 20000 in
theorem Jxw (c : Ctl) (hc : RC c) (most : Nat) (hmost : most <= 900) {i : LoopI} (hY : Jtq c most i) (g : SG) (hg : GI c most g) (hbh : g.bh = []) (st : Store) (nx q a x n p b k lam : Nat) (hnd : [q, a, x, n, p, b, k, lam].Nodup) (hlt : ∀ y ∈ [q, a, x, n, p, b, k, lam], y < nx) (gq : get st q = some (.cells 1 [[.ptr x 12 0 0]])) (ga : get st a = some (.cells 1 [[.ptr x 12 0 0]]))
   (gx : get st x = some (srcB c true most g n p b k)) (gn : get st n = accB 9 (g.nodes.map Nod.row)) (gp : get st p = some (.map (nmsM g.txts))) (gb : get st b = accB 1 (g.bh.map rowJ)) (gk : get st k = some (.map (begM g.begun))) (gl : get st lam = some (.loop i (srcT a) none)) :
   Gives Tryz.prog GL 75 [.fn (.yield i.l) [], .ptr q 1 0 0] st nx (.tup []) [q, a, x, n, p, b, k, lam] (srcU c true most (itG c most g (most + 1)) x nx p (nx + 1) k ++ [(n, none), (b, none)]) (nx + 2) := by
 have hup := J1m c true most (itG c most g (most + 1)) q a x n p b k lam nx
 refine Gives.mk_walkA (N := 24) (args := [.fn (.yield i.l) [], .ptr 0 1 0 0]) [q, a, x, n, p, b, k, lam] [3, 5] (queS c most g i) _ 8 2 (.tup []) (fun st => [recN 2 7 st, recN 2 9 st]) Tryz.func75 rfl rfl rfl (by simp) rfl (J1l hnd hlt gq ga gx gn gp gb gk gl rfl) (by simp) rfl hup (by simp) rfl ?_
 simp [queS, srcB]
 refine Jai.goL (fun (j : Nat) => ⟨[(3, .p (.int .i64 j)), (0, .fn (.yield i.l) []), (1, .ptr 0 1 0 0)],
     [(0, some (.cells 1 [[.ptr 2 12 0 0]])), (1, some (.cells 1 [[.ptr 2 12 0 0]])), (2, some (srcB c true most (itG c most g j) 8 4 9 6)), (8, accB 9 ((itG c most g j).nodes.map Nod.row)), (4, some (.map (nmsM (itG c most g j).txts))), (9, accB 1 ((itG c most g j).bh.map rowJ)), (6, some (.map (begM (itG c most g j).begun))), (7, some (.loop i (srcT 1) none))], 10⟩)
   (fun j => j <= most + 1) (fun j => most + 1 - j) 0 (by omega) ?_ ?_
 . refine Leads.subD [0, 1, 2, 3, 4, 5, 6, 7, 3, 5] [3, 5] ?_ ?_ (by simp) (by decide) (by simp) rfl
   . simp
   . simp [srcB, Jee, Jed, SG.txts, itG]
 intro j hj
 have hGj := hg.it hc j
 have hbj := @Jn4 c most g j
 rw [hbh, List.length_nil] at hbj
 have hbig := hGj.big
 have hst := @Jp8 c most g j
 obtain ⟨G, hG⟩ : ∃ G, itG c most g j = G := ⟨_, rfl⟩
 have hnx : itG c most g (j + 1) = rndG c most G j := by rw [<- hG]; rfl
 rw [hG] at hGj hbj hbig hst ⊢
 have hfin : (G.nodes.length <= j \/ G.err ≠ 0) -> itG c most g (most + 1) = G := fun h => by
   have := hst h (most + 1 - j)
   rwa [show j + (most + 1 - j) = most + 1 by omega] at this
 simp [srcB]
 refine Jan (fun h3 => ?_) (fun h3 => ?_)
 . simp at h3
   simp [h3]
   refine Jan (fun h4 => ?_) (fun h4 => ?_)
   . simp at h4
     simp
     refine Jfe (hY G j _ 10 1 2 8 4 9 6 7 hGj h3 h4 (by omega) (by decide) (by simp) ?_ ?_ ?_ ?_ ?_ ?_ ?_) ?_
     iterate 7 rfl
     simp [srcU, srcB]
     refine ⟨wrap_i64 (by omega) (by omega), j + 1, by omega, by omega, Leads.subx (ρ := [0, 1, 2, 3, 4, 5, 6, 7, 10, 11]) ?_⟩
     rw [hnx]
     generalize rndG c most G j = G2 at *
     simp [Jee, Jed, SG.txts]
     try decide
   . simp at h4
     rw [hfin (.inr h4)]
     simp [recN, srcU, srcB, queS, SG.txts]
     exact ⟨⟨Jcf fun _ => rfl, Jcf fun _ => rfl⟩, by decide⟩
 . simp at h3
   rw [hfin (.inl h3)]
   have h3' : ¬ j < G.nodes.length := by omega
   simp [h3']
   simp [recN, srcU, srcB, queS, SG.txts]
   exact ⟨⟨Jcf fun _ => rfl, Jcf fun _ => rfl⟩, by decide⟩
end Go.Am
namespace Go.Am
open Go Go.Proofs Go.Pn
def fstG (s : Sta) : SG := ⟨[⟨s, -1, ⟨0, 0, false⟩⟩], [], [], 0⟩
def newB (c : Ctl) (pr : Bool) (most : Int) (n p k : Nat) : ABlk := .cells 12 [[.p (.int .i64 c.act), .p (.lst 1 (c.inputs.map Txt.enc)), .p (.lst 10 (c.sigs.map Sig.enc)), .p (.lst 1 (c.plus.map Int.enc)), .p (.lst 1 (c.minus.map Int.enc)),
 .p (.bool pr), .p (.int .i64 most), .ref n 9 0 1 (some 1), .map p, .nils, .map k, .p (.int .i64 0)]]
def newS (c : Ctl) (pr : Bool) (most : Int) (s : Sta) (x n p k : Nat) : Store := [(x, some (newB c pr most n p k)), (n, some (.cells 9 [Nod.row ⟨s, -1, ⟨0, 0, false⟩⟩])), (p, some (.map (nmsM [staT s]))), (k, some (.map []))]
theorem Jxv (c : Ctl) (pr : Bool) (most : Int) (s : Sta) (st : Store) (nx x n p k : Nat) (hnd : [x, n, p, k].Nodup) (hlt : ∀ y ∈ [x, n, p, k], y < nx)
   (gx : get st x = some (newB c pr most n p k)) (gn : get st n = some (.cells 9 [Nod.row ⟨s, -1, ⟨0, 0, false⟩⟩])) (gp : get st p = some (.map (nmsM [staT s]))) (gk : get st k = some (.map [])) :
   Gives Tryz.prog GL 46 [.ptr x 12 0 0] st nx (.fn (.func 75) [.ptr nx 1 0 0]) [x, n, p, k] [(nx, some (.cells 1 [[.ptr x 12 0 0]]))] (nx + 1) := by
 have r0 : renB [x, n, p, k] (newB c pr most 1 2 3) = some (newB c pr most n p k) := rfl
 have r1 : renB [x, n, p, k] (.cells 9 [Nod.row ⟨s, -1, ⟨0, 0, false⟩⟩]) = some (.cells 9 [Nod.row ⟨s, -1, ⟨0, 0, false⟩⟩]) := rfl
 refine Gives.mk_walkK (N := 4) (args := [.ptr 0 12 0 0]) [x, n, p, k] [] (newS c pr most s 0 1 2 3) [(4, some (.cells 1 [[.ptr 0 12 0 0]]))] 4 1 (.fn (.func 75) [.ptr 4 1 0 0]) (fun st => [4]) (up1 := [(nx, some (.cells 1 [[.ptr x 12 0 0]]))]) Tryz.func46 rfl rfl rfl (by simp) rfl ?_ (by simp) rfl (by simp [renS, Jaq]) (by simp) rfl ?_
 . refine ⟨?_, rfl, hnd, hlt, rfl⟩
   simp [-renB, newS, r0, r1, gx, gn, gp, gk]
   simp [renE]
 simp [newS, newB]
 decide
def recX (st : St) : List Nat := [nameOf (slot st.t 8), recN (nameOf (slot st.t 8)) 7 st, recN (nameOf (slot st.t 8)) 8 st, recN (nameOf (slot st.t 8)) 9 st, recN (nameOf (slot st.t 8)) 10 st]
theorem J2c (c : Ctl) (pr : Bool) (most : Int) (g : SG) (nx : Nat) : renS (Jaq [] nx 5) (srcU c pr most g 0 1 2 3 4) = some (srcU c pr most g nx (nx + 1) (nx + 2) (nx + 3) (nx + 4)) := by
 refine Ja6 ?_ (Ja6 (Jay rfl (Jao fun _ => rfl)) (Ja6 ?_ (Ja6 (Jay rfl (Jao fun _ => rfl)) ?_)))
 . rfl
 . simp [renS, Jaq]
 . simp [renS, Jaq]
theorem Jw6 {c : Ctl} {most : Nat} {s : Sta} (h : RS c s) (hq : Jb8 c s) (hm : 1 <= most) : GI c most (fstG s) := by
 refine ⟨fun n hn => ?_, ?_, fun _ => hm, by show 1 <= most + 1; omega⟩
 . rw [List.mem_singleton.1 hn]; exact ⟨h, hq⟩
 . show [s].Nodup
   simp
def Jhd (c : Ctl) (most : Nat) (g : SG) : Store := [(0, some (.cells 1 [[.ptr 1 12 0 0]])), (1, some (srcB c true most g 2 3 4 5)), (2, accB 9 (g.nodes.map Nod.row)), (3, some (.map (nmsM g.txts))), (4, accB 1 (g.bh.map rowJ)), (5, some (.map (begM g.begun)))]
theorem J1v {c : Ctl} {most : Nat} {g : SG} {st : Store} {nx a x n p b k : Nat} {args args' : List AV} (hnd : [a, x, n, p, b, k].Nodup) (hlt : ∀ y ∈ [a, x, n, p, b, k], y < nx) (ga : get st a = some (.cells 1 [[.ptr x 12 0 0]]))
   (gx : get st x = some (srcB c true most g n p b k)) (gn : get st n = accB 9 (g.nodes.map Nod.row)) (gp : get st p = some (.map (nmsM g.txts))) (gb : get st b = accB 1 (g.bh.map rowJ)) (gk : get st k = some (.map (begM g.begun))) (ha : renL [a, x, n, p, b, k] args = some args') :
   Jcq [a, x, n, p, b, k] nx (Jhd c most g) st args args' := by
 have r0 : renB [a, x, n, p, b, k] (srcB c true most g 2 3 4 5) = some (srcB c true most g n p b k) := rfl
 have r2 : renB [a, x, n, p, b, k] (.cells 1 [[.ptr 1 12 0 0]]) = some (.cells 1 [[.ptr x 12 0 0]]) := rfl
 refine ⟨?_, fun j j' hk hg => ?_, hnd, hlt, ha⟩
 . simp [-renB, Jhd, Jc0, gx, r0, r2, ga]
   simp [gp, gk]
   exact ⟨Jfv (fun _ => rfl) gn, Jfv (fun _ => rfl) gb⟩
 . match j, hk with
   | 0, _ => exact ⟨_, rfl⟩
   | 1, _ => exact ⟨_, rfl⟩
   | 2, hk => simp at hk; subst hk; rw [gn] at hg; exact Option.ne_none_iff_exists'.1 hg
   | 3, _ => exact ⟨_, rfl⟩
   | 4, hk => simp at hk; subst hk; rw [gb] at hg; exact Option.ne_none_iff_exists'.1 hg
   | 5, _ => exact ⟨_, rfl⟩
theorem J1x (c : Ctl) (pr : Bool) (most : Int) (g : SG) (a x n p b k nx : Nat) : renS (Jaq [a, x, n, p, b, k] nx 2) (srcU c pr most g 1 6 3 7 5) = some (srcU c pr most g x nx p (nx + 1) k) := by
 refine Ja6 ?_ (Ja6 (Jay rfl (Jao fun _ => rfl)) (Ja6 ?_ (Ja6 (Jay rfl (Jao fun _ => rfl)) ?_)))
 . rfl
 . simp [renS, Jaq]
 . simp [renS, Jaq]
theorem J1t {c : Ctl} {most : Nat} {g : SG} {i : Nat} {n : Nod} (h : g.nodes[i]? = some n) (h0 : g.err = 0) : rndG c most g i = { outG g (expG c most g i n.st) with err := (expG c most g i n.st).err } := by
 unfold rndG
 rw [h]
 simp only
 rw [if_neg (show ¬ g.err ≠ 0 from fun h => h h0)]
set_option maxHeartbeats 4000000 in
set_option maxRecDepth 20000 in
theorem Jxx (c : Ctl) (hc : RC c) (hL : Lg c) (most : Nat) (hm1 : 1 <= most) (hmost : most <= 900) (s : Sta) (h : RS c s) (hq : Jb8 c s) (st : Store) (nx : Nat) :
   Gives Tryz.prog GL 22 [c.av, s.av, .p (.bool true), .p (.int .i64 most)] st nx (.tup [.ptr nx 12 0 0, .p (.int .i64 (itG c most (fstG s) (most + 1)).err)]) [] (srcU c true most (itG c most (fstG s) (most + 1)) nx (nx + 1) (nx + 2) (nx + 3) (nx + 4)) (nx + 5) := by
 have hE := Jlh c s h hc hL hq
 have hsa := h.act
 have hca := hc.act
 have hT := Jos s (fun n hn => by
   rcases List.mem_append.1 hn with h' | h'
   . have := h.ends4 n h'; omega
   . have := h.tim3 n h'; omega) (by omega) (by have := h.timers; have := hc.sigs; omega) (by have := h.valves; omega) (by have := h.inputs; have := hc.inputs; omega) (by have := h.values; have := hc.sigs; omega)
 have hQ := fun (st : Store) (nx x n p k : Nat) => Jxv c true most s st nx x n p k
 have c1 : ¬ (most : Int) < 1 := by omega
 have c2 : ¬ (16384 : Int) < (most : Int) := by omega
 refine Gives.mk_walkK (N := 57) (args := [c.av, s.av, .p (.bool true), .p (.int .i64 most)]) [] [] [] (srcU c true most (itG c most (fstG s) (most + 1)) 0 1 2 3 4) 0 5 (.tup [.ptr 0 12 0 0, .p (.int .i64 (itG c most (fstG s) (most + 1)).err)]) recX (up1 := srcU c true most (itG c most (fstG s) (most + 1)) nx (nx + 1) (nx + 2) (nx + 3) (nx + 4)) Tryz.func22 rfl rfl rfl (by simp) rfl (by simp) (by simp) (by simp) (J2c ..) (by simp) rfl ?_
 simp
 refine Jag (hE _ _) ?_
 simp [c1, c2]
 refine Jaf.intro (by kernel_rfl) ?_
 simp
 refine Jab hT ?_
 simp
 refine ⟨⟨_, Jqe, ⟨_, rfl⟩, by simp⟩, .of (by kernel_rfl), ?_⟩
 rw [show setA [] (AV.p (.str (staT s))) (AV.p (.int .i64 0)) = nmsM [staT s] from rfl]
 refine Jag (hQ _ 8 6 3 4 5 (by decide) (by simp) ?_ ?_ ?_ ?_) ?_
 iterate 4 rfl
 simp
 have hGI := Jw6 (most := most) h hq hm1
 refine Jcw.leads (st2 := ⟨[(44, .fn (.func 75) [.ptr 8 1 0 0]), (12, .ptr 7 1 0 0)], [(7, some (.cells 1 [[.ptr 6 12 0 0]])), (8, some (.cells 1 [[.ptr 6 12 0 0]])), (6, some (srcB c true most (fstG s) 3 4 9 5)), (3, accB 9 ((fstG s).nodes.map Nod.row)), (4, some (.map (nmsM (fstG s).txts))), (9, accB 1 ((fstG s).bh.map rowJ)), (5, some (.map (begM (fstG s).begun)))], 10⟩) ?_ ?_ ?_
 . refine Leads.subx (ρ := [0, 1, 2, 3, 4, 5, 6, 7, 8, 9]) ?_
   simp [srcB, fstG, SG.txts, stsN, accB, begM]
   try trace_state
   try decide
 . rfl
 refine Jcw.intro [12] Tryz.func75 rfl rfl fun l0 fn => ?_
 refine ⟨_, _, _, _, none, Jxw c hc most hmost (i := ⟨l0, 57, fn, #[45], _, _⟩) ?_ (fstG s) hGI rfl _ 11 8 7 6 3 4 9 5 10 (by decide) (by simp) rfl rfl rfl rfl rfl rfl rfl rfl, rfl, ?_⟩
 . intro g q st' nx' a x n p b k lam hGI' hql h0 hbh hnd hlt ga gx gn gp gb gk gl
   have hnd2 : [a, x, n, p, b, k].Nodup := (List.nodup_cons.1 hnd).2
   have hlt2 : ∀ y ∈ [a, x, n, p, b, k], y < nx' := fun b hb => hlt b (List.mem_cons_of_mem _ hb)
   obtain ⟨n0, hn0⟩ := Jae hql
   have hX := fun (st : Store) (nx x n p b k : Nat) => Jxm c hc hL most (by omega) g q n0 hn0 (hGI'.ei h0) hbh st nx x n p b k
   have hY := J1x c true most (rndG c most g q) a x n p b k nx'
   have hRn := J1t (c := c) (most := most) hn0 h0
   generalize rndG c most g q = R at *
   refine GivesY.of_walkA (σ := [a, x, n, p, b, k]) (t0 := srcT 0) (args := [.p (.int .i64 q)]) (free := [2, 4]) (m := 6) (x := 2) (j := none) (s0 := Jhd c most g) (s1 := srcU c true most R 1 6 3 7 5)
     (fun st => [recN 1 7 st, recN 1 9 st]) rfl (J1v hnd2 hlt2 ga gx gn gp gb gk rfl) gl (List.nodup_cons.1 hnd).1 (hlt lam (by simp)) rfl rfl (by simp) (by simp) hY ?_
   simp [Jda, srcT, Jhd, srcB]
   refine Jaf.intro (by kernel_rfl) ?_
   simp
   refine Jag (hX _ 6 1 2 3 4 5 ⟨by decide, by simp, ?_, ?_, ?_, ?_, ?_⟩) ?_
   iterate 5 rfl
   generalize expG c most g q n0.st = Y at *
   obtain ⟨O, hO⟩ : ∃ O, outG g Y = O := ⟨_, rfl⟩
   rw [hO] at hRn ⊢
   subst hRn
   simp [srcU, srcB]
   refine ⟨.of (by kernel_rfl), Jdr.of ⟨rfl, ?_⟩⟩
   simp [recN, Jhd, srcB, SG.txts]
   exact ⟨⟨Jcf fun _ => rfl, Jcf fun _ => rfl⟩, by decide⟩
 . generalize itG c most (fstG s) (most + 1) = G at *
   simp [Jea, srcU, srcB]
   refine Jaf.intro (by kernel_rfl) ?_
   simp [recX, recN, nameOf, srcU, srcB, SG.txts]
   exact ⟨.of (by kernel_rfl), Jcf fun _ => rfl, Jcf fun _ => rfl⟩
end Go.Am
namespace Go.Am
open Go Go.Proofs Go.Pn
def nevT (B : List Stk) (a : Nat) : List Stk := (List.range a).flatMap fun (i : Nat) => [⟨(i : Int), false⟩, ⟨(i : Int), true⟩].filter fun k => !decide (k ∈ B)
theorem Jzi {B C : List Stk} (h : ∀ k, k ∈ B ↔ k ∈ C) (a : Nat) : nevT B a = nevT C a := by
 unfold nevT
 have e : (fun k : Stk => !decide (k ∈ B)) = fun k => !decide (k ∈ C) := funext fun k => by simp [h k]
 rw [e]
theorem Jlr {B : List Stk} {a : Nat} {k : Stk} : k ∈ nevT B a ↔ (∃ i : Nat, i < a /\ k.act = i) /\ k ∉ B := by
 unfold nevT
 rw [List.mem_flatMap]
 constructor
 . rintro ⟨i, hi, hk⟩
   obtain ⟨h1, h2⟩ := List.mem_filter.1 hk
   refine ⟨⟨i, List.mem_range.1 hi, ?_⟩, by simpa using h2⟩
   rcases List.mem_cons.1 h1 with rfl | h1
   . rfl
   . rw [List.mem_singleton.1 h1]
 . rintro ⟨⟨i, hi, hk⟩, hB⟩
   refine ⟨i, List.mem_range.2 hi, List.mem_filter.2 ⟨?_, by simpa using hB⟩⟩
   obtain ⟨a, o⟩ := k
   simp only at hk
   subst hk
   cases o <;> simp
def vis2 (i : Nat) (j : Nat) : List Stk := [(⟨(i : Int), false⟩ : Stk), ⟨(i : Int), true⟩].take j
def nevU (B : List Stk) (i j : Nat) : List Stk := nevT B i ++ (vis2 i j).filter fun k => !decide (k ∈ B)
theorem Jzm {B : List Stk} {i : Nat} : nevU B i 0 = nevT B i := by simp [nevU, vis2]
theorem Jqu {B : List Stk} {i : Nat} : nevU B i 2 = nevT B (i + 1) := by
 unfold nevU nevT vis2
 rw [List.range_succ, List.flatMap_append]
 simp
theorem Jzl {B : List Stk} {i j : Nat} {v : Bool} (hv : [false, true][j]? = some v) (h : (⟨(i : Int), v⟩ : Stk) ∈ B) : nevU B i (j + 1) = nevU B i j := by
 match j, hv with
 | 0, hv => simp at hv; subst hv; simp [nevU, vis2, h]
 | 1, hv => simp at hv; subst hv; simp [nevU, vis2, List.filter_cons, h]
theorem Jzk {B : List Stk} {i j : Nat} {v : Bool} (hv : [false, true][j]? = some v) (h : (⟨(i : Int), v⟩ : Stk) ∉ B) : nevU B i (j + 1) = nevU B i j ++ [⟨(i : Int), v⟩] := by
 match j, hv with
 | 0, hv => simp at hv; subst hv; simp [nevU, vis2, h]
 | 1, hv => simp at hv; subst hv; simp [nevU, vis2, List.filter_cons, h]; split <;> rfl
theorem Jlq {B : List Stk} {a : Nat} : (nevT B a).length <= 2 * a := by
 induction a with
 | zero => simp [nevT]
 | succ a ih =>
   rw [<- Jqu]
   unfold nevU
   rw [List.length_append]
   have h1 := List.length_filter_le (fun k => !decide (k ∈ B)) (vis2 a 2)
   have h2 : (vis2 a 2).length = 2 := rfl
   omega
theorem Jzj {B : List Stk} {i j : Nat} : (nevU B i j).length <= 2 * i + 2 := by
 unfold nevU
 rw [List.length_append]
 have h1 := List.length_filter_le (fun k => !decide (k ∈ B)) (vis2 i j)
 have h2 : (vis2 i j).length <= 2 := by unfold vis2; rw [List.length_take]; simp; omega
 have h3 := @Jlq B i
 omega
noncomputable def nevR (c : Ctl) (s : Sta) : AV := if (Jbt c s).err = 0 then .tup [.p (.lst 2 ((nevT (Jbt c s).begun (actN c)).map Stk.enc)), .p (.int .i64 0)] else .tup [.p (.lst 2 []), .p (.int .i64 ((Jbt c s).err : Int))]
theorem Jw7 {s : Sta} : SimG (fstG s) ⟨[s], [], 0⟩ := ⟨rfl, fun k => Iff.rfl, rfl⟩
theorem Jhx {ρ : List Nat} {s' : Store} {b k : Nat} {L : List Stk} (h : (ρ[b]?).bind (get s') = accB k (L.map Stk.row)) : Jcr ρ s' b (accB k (L.map Stk.row)) = True := Jds h (Jao fun _ => rfl)
set_option maxHeartbeats 4000000 in
set_option maxRecDepth 20000 in
theorem Jor (c : Ctl) (s : Sta) (h : RS c s) (hc : RC c) (hL : Lg c) (hq : Jb8 c s) : Pure Tryz.prog GL 8 [c.av, s.av, .p (.int .i64 60)] (nevR c s) := by
 refine Pure.of_walk (N := 53) Tryz.func8 rfl rfl rfl (by simp) (by first | (simp; done) | simp [*]) ?_
 have hS := fun st nx => Jxx c hc hL 60 (by decide) (by decide) s h hq st nx
 have hsim : SimG (itG c 60 (fstG s) 61) (Jbt c s) := SimG.it Jw7 61
 have hca := hc.act
 rw [show nevR c s = if (itG c 60 (fstG s) 61).err = 0 then .tup [.p (.lst 2 ((nevT (itG c 60 (fstG s) 61).begun (actN c)).map Stk.enc)), .p (.int .i64 0)] else .tup [.p (.lst 2 []), .p (.int .i64 (itG c 60 (fstG s) 61).err)] by
   unfold nevR
   rw [Jzi hsim.begun, hsim.err]
   by_cases h0 : (Jbt c s).err = 0
   . rw [if_pos h0, if_pos (by omega)]
   . rw [if_neg h0, if_neg (by omega)]]
 change ∀ st nx, Gives _ _ _ _ st nx (.tup [.ptr nx 12 0 0, .p (.int .i64 (itG c 60 (fstG s) 61).err)]) [] (srcU c true 60 (itG c 60 (fstG s) 61) nx (nx + 1) (nx + 2) (nx + 3) (nx + 4)) (nx + 5) at hS
 generalize itG c 60 (fstG s) 61 = G at *
 simp
 refine Jag (hS _ _) ?_
 by_cases h0 : G.err = 0
 . simp [h0, srcU, srcB]
   refine Jai.goe [8, 26] [2, 6] 1 (fun nx (k : Nat) => [(10, .acc nx 2 (nevT G.begun k).length), (27, .p (.int .i64 k))]) (fun nx k => [(nx, accB 2 ((nevT G.begun k).map Stk.row))]) (fun k => k <= actN c) (fun k => actN c - k) 0 (by omega) ⟨[0, 1, 2, 3, 4, 5, 6, 7], ?_⟩ ?_
   . simp [nevT]
   intro k hk
   simp
   refine Jan (fun h3 => ?_) (fun h3 => ?_)
   . simp at h3
     simp [h3]
     refine Jai.goe [8, 11, 26, 27, 30, 31] [2, 6, 8] 1 (fun nx (j : Nat) => [(10, .acc nx 2 (nevU G.begun k j).length), (32, .p (.int .i64 j))]) (fun nx j => [(nx, accB 2 ((nevU G.begun k j).map Stk.row))]) (fun j => j <= 2) (fun j => 2 - j) 0 (by omega) ⟨[0, 1, 2, 3, 4, 5, 6, 9, 8, 7], ?_⟩ ?_
     . rw [Jzm]
       simp [Jhx]
       try decide
     intro j hj
     simp
     refine Jan (fun h4 => ?_) (fun h4 => ?_)
     . simp at h4
       have hln := @Jzj G.begun k j
       have hvs : ∃ v, [false, true][j]? = some v := Jae (xs := [false, true]) (k := j) (by simp; omega)
       obtain ⟨v, hv⟩ := hvs
       have hrow : [[AV.p (.bool false)], [AV.p (.bool true)]][j]? = some [AV.p (.bool v)] := by
         match j, hv with
         | 0, hv => simp at hv; subst hv; rfl
         | 1, hv => simp at hv; subst hv; rfl
       simp [h4, hrow, -getElem?_pos, List.getElem?_cons_zero, List.getElem?_cons_succ]
       refine Jaf.intro (by kernel_rfl) ?_
       simp
       have hlk := @Jn0 ⟨(k : Int), v⟩ G.begun
       simp only [Stk.av] at hlk
       have hkey := @Jt9 G.begun ⟨(k : Int), v⟩
       refine ⟨of_eq_true hkey, by kernel_rfl, ?_⟩
       by_cases hb : (⟨(k : Int), v⟩ : Stk) ∈ G.begun
       . rw [if_pos hb] at hlk
         have hs := Jzl hv hb
         simp [hlk, hit]
         refine ⟨.of (by kernel_rfl), wrap_i64 (by omega) (by omega), j + 1, by omega, by omega, [0, 1, 2, 3, 4, 5, 6, 7, 8, 9], ?_⟩
         rw [hs]
         simp [Jhx]
         try decide
       . rw [if_neg hb] at hlk
         have hs := Jzk hv hb
         simp [hlk, hit]
         have em : (nevU G.begun k j).map Stk.row ++ [[AV.p (.int .i64 (k : Int)), AV.p (.bool v)]] = (nevU G.begun k (j + 1)).map Stk.row := by rw [hs, List.map_append]; rfl
         have hl2 : (nevU G.begun k (j + 1)).length = (nevU G.begun k j).length + 1 := by rw [hs]; simp
         rw [em]
         refine ⟨.of (by kernel_rfl), by omega, wrap_i64 (by omega) (by omega), j + 1, by omega, by omega, [0, 1, 2, 3, 4, 5, 6, 7, 8, 12], ?_⟩
         generalize nevU G.begun k (j + 1) = T at *
         simp [Jhx, hl2]
         try decide
     . simp at h4
       have hj2 : j = 2 := by omega
       subst hj2
       rw [Jqu]
       simp
       refine ⟨wrap_i64 (by omega) (by omega), k + 1, by omega, by omega, [0, 1, 2, 3, 4, 5, 6, 9], ?_⟩
       generalize nevT G.begun (k + 1) = T at *
       simp [Jhx]
       try decide
   . simp at h3
     have hka : k = actN c := by omega
     subst hka
     simp [h3, h0, Jaa]
 . simp [h0, Jaa]
end Go.Am
