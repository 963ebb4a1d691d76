/- Lemmas and contracts for the proof of a statement of this seat. -/
import Derived.Test.YtmfjjncfdpejiaaGreatDoorZCQ
import Derived.Test.YtmfjjncfdpejiaaGreatDoorZA6
set_option linter.unusedVariables false
set_option linter.unusedSimpArgs false
namespace Go.Am
open Go Go.Proofs Go.Pn
theorem J3t {c : Circuit} {p : Port} : around c p = (allP c).filter fun q => decide (rt c q = rt c p) := by
 unfold around
 apply List.filter_congr
 intro q _
 rw [decide_eq_decide, Jwd, <- Jsw]
 exact eq_comm
theorem Kb4 {c : Circuit} (h : Jad c = 0) {g : List Port} (hg : g ∈ nets c) {p : Port} (hp : p ∈ g) : g = around c p := by
 rw [Jlh h] at hg
 obtain ⟨r, _, rfl⟩ := List.mem_map.1 hg
 have : rt c p = r := by simpa using (List.mem_filter.1 hp).2
 rw [J3t, this]
def Jhl (c : Circuit) (n : Nat) : List Port := (nets c)[n]?.getD []
def Jdh (c : Circuit) (es : List (Port × Nat)) : List (AV × AV) := es.map fun e => (e.1.av, .p (.lst 2 ((Jhl c e.2).map Port.enc)))
def Jhp (c : Circuit) : List AV := (pairs c).map fun e => e.1.av
def Jjx (c : Circuit) : List AV := (pairs c).map fun e => .p (.lst 2 ((Jhl c e.2).map Port.enc))
def Jlm (c : Circuit) : AV := .agg [.p (.lst 3 (c.parts.map Part.enc)), .p (.lst 4 (c.pipes.map Pipe.enc)), .p (.lst 2 ((allP c).map Port.enc)), .pmap (Jhp c) (Jjx c)]
theorem Jr6 {c : Circuit} : (Jhp c).zip (Jjx c) = Jdh c (pairs c) := by
 unfold Jhp Jjx Jdh
 rw [List.zip_map']
theorem Jrt {c : Circuit} {ρ : List Nat} {es : List (Port × Nat)} : renE ρ (Jdh c es) = some (Jdh c es) := by
 unfold Jdh
 induction es with
 | nil => rfl
 | cons e es ih => simp only [List.map_cons, renE, ih]; rfl
theorem J3x {c : Circuit} {es : List (Port × Nat)} {p : Port} : Jak (Jdh c es) p.av = (Jcx es p).map fun (n : Nat) => AV.p (.lst 2 ((Jhl c n).map Port.enc)) := by
 induction es with
 | nil => simp [Jdh, Jak, Jcx]
 | cons e es ih =>
   obtain ⟨a, b⟩ := e
   simp only [Jdh, List.map_cons, Jcx] at ih ⊢
   by_cases h : a = p
   . subst h
     simp [Jak]
   . have hne : a.av ≠ p.av := fun h2 => h (Jgz h2)
     rw [if_neg h, <- ih]
     unfold Jak
     rw [List.find?_cons_of_neg (by simpa using hne)]
theorem Kfy {c : Circuit} {es : List (Port × Nat)} {p : Port} {n : Nat} (h : Jcx es p = none) : setA (Jdh c es) (.agg [.p (.int .i64 p.part), .p (.str p.name)]) (.p (.lst 2 ((Jhl c n).map Port.enc))) = Jdh c (es ++ [(p, n)]) := by
 rw [Jka]
 . simp [Jdh]
 . intro e he
   obtain ⟨q, hq, rfl⟩ := List.mem_map.1 he
   intro h2
   have : q.1 = p := Jgz h2
   exact Jnj (n := q.2) (by rw [<- this]; exact hq) h
@[simp] theorem Kaf {c : Circuit} {es : List (Port × Nat)} {i : Int} {s : Txt} : Jb0 Tryz.prog 55 (Jdh c es) (.agg [.p (.int .i64 i), .p (.str s)]) = True := eq_true (Jrh (f := Prod.fst) (p := ⟨i, s⟩))
@[simp] theorem Ki7 {c : Circuit} {i : Int} {s : Txt} : Jb0 Tryz.prog 55 ((Jhp c).zip (Jjx c)) (.agg [.p (.int .i64 i), .p (.str s)]) = True := by rw [Jr6, Kaf]
@[simp] theorem Kq3 : Jdy Tryz.prog 68 = some false := by kernel_rfl
theorem Ka5 {c : Circuit} (h : Jad c = 0) {i : Int} {s : Txt} (hp : (⟨i, s⟩ : Port) ∈ allP c) : Jak ((Jhp c).zip (Jjx c)) (.agg [.p (.int .i64 i), .p (.str s)]) = some (.p (.lst 2 ((around c ⟨i, s⟩).map Port.enc))) := by
 rw [Jr6]
 have := J3x (c := c) (es := pairs c) (p := ⟨i, s⟩)
 rw [Jw1 h hp] at this
 have hn : Jhl c (netN c i s) = around c ⟨i, s⟩ := by
   obtain ⟨g, e, hg⟩ := Jy9 h hp
   unfold Jhl
   rw [e]
   exact Kb4 h (List.mem_of_getElem? e) hg
 simp only [Option.map_some] at this
 rw [hn] at this
 exact this
theorem Jz4 {c : Circuit} (h : Jad c = 0) : ∀ k, ((Jc2 c k).map Prod.fst).Nodup
 | 0 => by simp [Jc2]
 | k + 1 => by
   simp only [Jc2, List.map_append, List.nodup_append]
   refine ⟨Jz4 h k, ?_, ?_⟩
   . split
     . rename_i g e
       rw [List.map_map]
       have : (g.map (Prod.fst ∘ fun x => (x, k))) = g := by
         have e2 : (Prod.fst ∘ fun x : Port => (x, k)) = id := rfl
         rw [e2, List.map_id]
       rw [this]
       exact Jzc h (List.mem_of_getElem? e)
     . simp
   . intro a ha b hb hab
     subst hab
     obtain ⟨⟨a', n⟩, hm, rfl⟩ := List.mem_map.1 ha
     obtain ⟨hn, g, eg, hg⟩ := Jlk.1 hm
     split at hb
     . rename_i g' e'
       rw [List.map_map] at hb
       obtain ⟨b', hb', e2⟩ := List.mem_map.1 hb
       simp only [Function.comp] at e2
       subst e2
       have h1 := (Jlg h eg hg).1
       have h2 := (Jlg h e' hb').1
       omega
     . cases hb
theorem Ken {c : Circuit} (h : Jad c = 0) : (Jhp c).Nodup := by
 have := Jz4 h (nets c).length
 unfold Jhp
 have e : (pairs c).map (fun e => e.1.av) = ((pairs c).map Prod.fst).map Port.av := by rw [List.map_map]; rfl
 rw [e]
 exact List.Pairwise.map _ (fun a b hab hh => hab (Jgz hh)) this
theorem Keo {c : Circuit} : Jjz (Jdh c (pairs c)) = true := by
 rw [Jsd]
 intro e he
 obtain ⟨q, _, rfl⟩ := List.mem_map.1 he
 exact ⟨rfl, rfl⟩
def Jln (c : Circuit) : AV := if Jad c = 0 then Jlm c else .agg [.p (.lst 3 []), .p (.lst 4 []), .p (.lst 2 []), .nilm]
set_option maxRecDepth 20000 in
theorem J4r (c : Circuit) (hs : Sized c) : Pure Tryz.prog GL 126 [c.av] (.tup [Jln c, .p (.int .i64 (Jad c))]) := by
 refine Pure.of_walk (N := 52) Tryz.func126 rfl rfl rfl (by simp) (by first | (simp; done) | simp [*]) ?_
 have hPo := Jvf c hs
 have hNe := Jve c hs
 simp
 by_cases h : Jad c = 0
 . have h2 := Jbg h
   have hal := Ji4 h2.1 (by omega)
   have hnl := Jjn h
   rw [if_neg (by simpa using h), h] at hPo hNe
   have hR : Jln c = Jlm c := if_pos h
   rw [hR, h]
   refine Jab hPo ?_
   simp
   refine Jab hNe ?_
   simp
   refine Jag.go [1, 2, 4, 7, 31, 32] [0, 1] 0 [] (fun _ => []) (fun _ (k : Nat) => [(33, .p (.int .i64 k))]) (fun _ k => [(2, some (.map (Jdh c (Jc2 c k))))]) (fun k => k <= (nets c).length) (fun k => (nets c).length - k) 0 (by omega) ?_ ?_
   . simp [Jc2, Jdh]
     try decide
   . intro k hk
     simp
     refine Jac (fun h3 => ?_) (fun h3 => ?_)
     . simp at h3
       obtain ⟨g, eg⟩ := Jae h3
       have hgl := hnl.2 g (List.mem_of_getElem? eg)
       have hall := Jz0 eg
       have hgn : Jhl c k = g := by unfold Jhl; rw [eg]; rfl
       simp [h3, eg, Ports.enc, -getElem?_pos, List.getElem?_cons_zero, List.getElem?_cons_succ]
       refine Jag.go [1, 2, 4, 7, 9, 31, 32, 33, 37, 38] [0, 1] 0 [] (fun _ => []) (fun _ (j : Nat) => [(39, .p (.int .i64 j))]) (fun _ j => [(2, some (.map (Jdh c (Je4 c k g j))))]) (fun j => j <= g.length) (fun j => g.length - j) 0 (by omega) ?_ ?_
       . simp [Jz2, Jrt]
         try decide
       . intro j hj
         simp
         refine Jac (fun h4 => ?_) (fun h4 => ?_)
         . simp at h4
           obtain ⟨p, ep⟩ := Jae h4
           have hfr := Jz3 h eg ep
           have hsn := Jz1 (c := c) (k := k) ep
           have hset := Kfy (c := c) (n := k) hfr
           rw [hgn] at hset
           simp [h4, ep, -getElem?_pos, List.getElem?_cons_zero, List.getElem?_cons_succ]
           refine ⟨wrap_i64 (by omega) (by omega), j + 1, by omega, by omega, ?_⟩
           simp [hset, hsn, Jrt]
           try decide
         . simp at h4
           have hjl : j = g.length := by omega
           subst hjl
           simp
           refine ⟨wrap_i64 (by omega) (by omega), k + 1, by omega, by omega, ?_⟩
           simp [hall, Jrt]
           try decide
     . simp at h3
       have hkl : k = (nets c).length := by omega
       subst hkl
       have hpe : Jc2 c (nets c).length = pairs c := rfl
       rw [hpe]
       simp [Jaa, Jlm]
       exact ⟨Keo, by simp [Jhp, Jjx], Ken h, by rw [Jr6]⟩
 . rw [if_pos h] at hPo
   have hR : Jln c = .agg [.p (.lst 3 []), .p (.lst 4 []), .p (.lst 2 []), .nilm] := if_neg h
   rw [hR]
   refine Jab hPo ?_
   simp [h]
   simp [Jaa]
end Go.Am
namespace Go.Am
open Go Go.Proofs Go.Pn
end Go.Am
namespace Go.Am
open Go Go.Proofs Go.Pn
theorem J4t (c : Circuit) (p : Port) (q : Port -> Bool) (m : Nat) (hs : Sized c) (hq : Jad c = 0 -> ∀ x ∈ allP c, Pure Tryz.prog GL m [c.av, x.av] (.p (.bool (q x)))) : Pure Tryz.prog GL 374 [c.av, p.av, .fn (.func m) []] (.tup [.p (.lst 2 ((if Jfq c p ≠ 0 then [] else (around c p).filter q).map Port.enc)), .p (.int .i64 (Jfq c p))]) := by
 refine Pure.of_walk (N := 36) Tryz.func374 rfl rfl rfl (by simp) (by first | (simp; done) | simp [*]) ?_
 have hPl := J4r c hs
 have hNet := Jvd c p hs
 simp
 refine Jab hPl ?_
 by_cases h : Jad c = 0
 . have h2 := Jbg h
   have hal := Ji4 h2.1 (by omega)
   have har := @Jus c p
   have hR : Jln c = Jlm c := if_pos h
   have hse : Jfq c p = Jbh c p := by unfold Jfq; rw [if_neg (by simpa using h)]
   have hno : ¬ Jad c ≠ 0 := by simpa using h
   rw [if_neg hno, if_neg hno] at hNet
   rw [hR, hse, h]
   simp [Jlm]
   refine Jab hNet ?_
   by_cases hg : Jbh c p = 0
   . have hp : p ∈ allP c := Jdl.2 hg
     have hlk := Ka5 h (i := p.part) (s := p.name) hp
     have hfi := J4q c (around c p) q m (by omega) (fun x hx => hq h x (List.mem_filter.1 hx).1)
     simp [hg]
     refine Jaj.intro (by kernel_rfl) ?_
     simp [hlk, hit]
     refine Jab hfi ?_
     simp
     refine ⟨.of (by kernel_rfl), ?_⟩
     simp [Jaa, hg]
   . simp [hg, Jaa]
 . have hR : Jln c = .agg [.p (.lst 3 []), .p (.lst 4 []), .p (.lst 2 []), .nilm] := if_neg h
   have hse : Jfq c p = Jad c := by unfold Jfq; rw [if_pos h]
   rw [hR, hse]
   simp [h]
   simp [Jaa]
theorem J4p (c : Circuit) (p : Port) (hs : Sized c) : Pure Tryz.prog GL 362 [c.av, p.av] (.tup [.p (.lst 2 ((Jo6 c p false).map Port.enc)), .p (.int .i64 (Jfq c p))]) := by
 refine Pure.of_walk (N := 11) Tryz.func362 rfl rfl rfl (by simp) (by first | (simp; done) | simp [*]) ?_
 have hsd := J4t c p (Jl3 c) 217 hs (fun h x hx => J4u c x (Jbg h).1 hx)
 have he : (if Jfq c p ≠ 0 then [] else (around c p).filter (Jl3 c)) = Jo6 c p false := rfl
 rw [he] at hsd
 simp
 refine Jab hsd ?_
 simp [Jaa]
end Go.Am
