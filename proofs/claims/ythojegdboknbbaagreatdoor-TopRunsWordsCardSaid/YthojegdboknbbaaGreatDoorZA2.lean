/- Lemmas and contracts for the proof of a statement of this seat. -/
import Derived.Test.YthojegdboknbbaaGreatDoorZA1
import Derived.MapKept
import Derived.Laws.IdiomRangeMap
import Derived.Laws.AppendOwn
import Derived.Laws.StructEq
import Derived.ChangeKeysEq
import Derived.Laws.Cover3
import Derived.Laws.MakeOwn
set_option linter.unusedVariables false
set_option linter.unusedSimpArgs false
namespace Go.Am
open Go
theorem VR.map_inv {φ own w b v} (h : VR φ own w (.map b) v) : ∃ r δ, φ b = some (r, δ) /\ v = .map (some r) := by
 cases h with
 | map b r δ hφ => exact ⟨r, δ, hφ, rfl⟩
theorem Jrl {α β : Type _} {f : α -> β} {z : List α} {l : List β} (h : (z.map f).Perm l) : ∃ z' : List α, z'.Perm z /\ z'.map f = l := by
 generalize e : z.map f = m at h
 induction h generalizing z with
 | nil => exact ⟨z, .refl _, e⟩
 | cons x h ih =>
   cases z with
   | nil => cases e
   | cons y z =>
     simp only [List.map_cons, List.cons.injEq] at e
     obtain ⟨z', h1, h2⟩ := ih e.2
     exact ⟨y :: z', h1.cons y, by simp [h2, e.1]⟩
 | swap x y l =>
   match z, e with
   | a :: b :: z, e =>
     simp only [List.map_cons, List.cons.injEq] at e
     exact ⟨b :: a :: z, .swap _ _ _, by simp [e]⟩
 | trans h1 h2 ih1 ih2 =>
   obtain ⟨z1, k1, k2⟩ := ih1 e
   obtain ⟨z2, k3, k4⟩ := ih2 k2
   exact ⟨z2, k3.trans k1, k4⟩
theorem VR.pmap_inv {φ own w ks vs v} (h : VR φ own w (.pmap ks vs) v) : ∃ r mes clock ps, v = .map (some r) /\ PMapAt own w ks vs r mes clock ps := by
 cases h with
 | pmap ks vs r mes clock ps h => exact ⟨r, mes, clock, ps, rfl, h⟩
theorem VQ.vr {φ own w x v} (h : VQ own w x v) : VR φ own w x v := by
 induction h with
 | p x v h => exact .p x v h
 | agg cs vs hl h ih => exact .agg cs vs hl ih
theorem PMapAt.entries {φ own w ks vs r mes clock ps} (h : PMapAt own w ks vs r mes clock ps) : ∃ es, es.Perm (ks.zip vs) /\ Jcl φ own w es mes.toList := by
 have hkv : ks.length = vs.length := h.kl.trans h.vl.symm
 have hzl : (ks.zip vs).length = ps.length := by simp [h.kl, h.vl]
 obtain ⟨z, h1, h2⟩ := Jrl (f := Prod.snd) (z := (ks.zip vs).zip ps) (l := mes.toList) (by rw [List.map_snd_zip (by omega)]; exact h.perm)
 refine ⟨z.map (·.1), ?_, ?_, fun i e m he hm => ?_⟩
 . have := h1.map (fun p : (AV × AV) × MapEntry => p.1)
   have e : ((ks.zip vs).zip ps).map (fun p : (AV × AV) × MapEntry => p.1) = ks.zip vs := List.map_fst_zip (by omega)
   rw [e] at this
   exact this
 . rw [<- h2]; simp
 . rw [<- h2, List.getElem?_map, Option.map_eq_some_iff] at hm
   obtain ⟨p, hp, rfl⟩ := hm
   rw [List.getElem?_map, hp] at he
   simp only [Option.map_some, Option.some.injEq] at he
   subst he
   obtain ⟨j, hj⟩ := List.mem_iff_getElem?.1 (h1.mem_iff.1 (List.mem_of_getElem? hp))
   obtain ⟨k1, k2⟩ := List.getElem?_zip_eq_some.1 hj
   obtain ⟨k3, k4⟩ := List.getElem?_zip_eq_some.1 k1
   exact ⟨(h.key j _ _ k3 k2).vr, (h.val j _ _ k4 k2).vr⟩
theorem Jfh {e : AV × AV} {es : List (AV × AV)} {x : AV} : Jbb (e :: es) x = (open Classical in if e.1 = x then some e.2 else Jbb es x) := by
 simp only [Jbb, List.find?_cons]
 by_cases h : e.1 = x
 . simp [h]
 . simp [h]
theorem Jj3 : ∀ {es : List (AV × AV)} {x v : AV}, (es.map (·.1)).Nodup -> (x, v) ∈ es -> Jbb es x = some v
 | e :: es, x, v, hn, hm => by
   simp only [List.map_cons, List.nodup_cons] at hn
   rw [Jfh]
   rcases List.mem_cons.1 hm with rfl | hm
   . rw [if_pos rfl]
   . rw [if_neg (fun h : e.1 = x => hn.1 (by rw [h]; exact List.mem_map_of_mem (f := (·.1)) hm)), Jj3 hn.2 hm]
theorem Jny {es : List (AV × AV)} {x : AV} (h : x ∉ es.map (·.1)) : Jbb es x = none := by
 induction es with
 | nil => rfl
 | cons e es ih =>
   simp only [List.map_cons, List.mem_cons, not_or] at h
   rw [Jfh, if_neg (Ne.symm h.1), ih h.2]
theorem Jt5 {es es' : List (AV × AV)} (hp : es'.Perm es) (hn : (es.map (·.1)).Nodup) (x : AV) : Jbb es' x = Jbb es x := by
 have hn' : (es'.map (·.1)).Nodup := ((hp.map (·.1)).nodup_iff).2 hn
 by_cases h : x ∈ es.map (·.1)
 . obtain ⟨e, he, rfl⟩ := List.mem_map.1 h
   rw [Jj3 (v := e.2) hn he, Jj3 (v := e.2) hn' (hp.mem_iff.2 he)]
 . rw [Jny h, Jny (fun h' => h ((hp.map (·.1)).mem_iff.1 h'))]
theorem Jcb.push {ms : List MapEntry} {cl : Nat} (h : Jcb ms cl) (m : MapEntry) (hm : m.born = cl) : Jcb (ms ++ [m]) (cl + 1) := by
 refine ⟨?_, by rw [h.2]; simp⟩
 rw [List.map_append, h.1, List.length_append, List.length_singleton, List.range_succ]
 simp [hm, h.2]
theorem Jcb.modify {ms : List MapEntry} {cl j : Nat} (h : Jcb ms cl) (f : MapEntry -> MapEntry) (hf : ∀ m, (f m).born = m.born) : Jcb (ms.modify j f) cl := by
 have e : (ms.modify j f).map (·.born) = ms.map (·.born) := by
   apply List.ext_getElem?
   intro i
   rw [List.getElem?_map, List.getElem?_map, List.getElem?_modify]
   by_cases hij : j = i <;> cases ms[i]? <;> simp [hij, hf]
 exact ⟨by rw [e, h.1, List.length_modify], by rw [h.2, List.length_modify]⟩
theorem Jcb.at_ {ms : List MapEntry} {cl j : Nat} {m : MapEntry} (h : Jcb ms cl) (e : ms[j]? = some m) : m.born = j := by
 have h1 : (ms.map (·.born))[j]? = some m.born := by rw [List.getElem?_map, e]; rfl
 rw [h.1] at h1
 have hj := (gsI.1 e).1
 rw [List.getElem?_range hj] at h1
 exact (Option.some.inj h1).symm
theorem Jcb.find {ms : List MapEntry} {cl j : Nat} (h : Jcb ms cl) (hj : j < ms.length) : ms.findIdx? (fun e => ((e.born : Int) == (j : Int))) = some j := by
 rw [List.findIdx?_eq_some_iff_getElem]
 refine ⟨hj, ?_, fun i hi => ?_⟩
 . have := h.at_ (List.getElem?_eq_getElem hj)
   simp [this]
 . have := h.at_ (List.getElem?_eq_getElem (show i < ms.length by omega))
   simp [this]
   omega
theorem Jj4 {es : List (AV × AV)} {x : AV} (h : ∀ e ∈ es, e.1 ≠ x) : Jbb es x = none := by
 unfold Jbb
 rw [Option.map_eq_none_iff, List.find?_eq_none]
 intro e he
 simpa using h e he
theorem Jnz : ∀ {es : List (AV × AV)} {x : AV} {j : Nat} {e : AV × AV}, es[j]? = some e -> e.1 = x -> (∀ (i : Nat) e', i < j -> es[i]? = some e' -> e'.1 ≠ x) -> Jbb es x = some e.2
 | [], _, _, _, h, _, _ => by simp at h
 | a :: es, x, 0, e, h, he, _ => by
   simp at h; subst h
   simp [Jbb, he]
 | a :: es, x, j + 1, e, h, he, hb => by
   have h0 := hb 0 a (by omega) rfl
   have ih := Jnz (es := es) (by simpa using h) he fun i e' hi hi' => hb (i + 1) e' (by omega) (by simpa using hi')
   simp only [Jbb] at ih ⊢
   rw [List.find?_cons_of_neg (by simpa using h0)]
   exact ih
theorem Jr8 : ∀ {es : List (AV × AV)} {x v : AV}, (∀ e ∈ es, e.1 ≠ x) -> setA es x v = es ++ [(x, v)]
 | [], _, _, _ => rfl
 | (k, u) :: es, x, v, h => by
   have h0 : k ≠ x := h (k, u) (by simp)
   simp only [setA, if_neg h0, List.cons_append]
   rw [Jr8 fun e he => h e (by simp [he])]
theorem Jr9 : ∀ {es : List (AV × AV)} {x v : AV} {j : Nat} {e : AV × AV}, es[j]? = some e -> e.1 = x -> (∀ (i : Nat) e', i < j -> es[i]? = some e' -> e'.1 ≠ x) -> setA es x v = es.set j (x, v)
 | [], _, _, _, _, h, _, _ => by simp at h
 | (k, u) :: es, x, v, 0, e, h, he, _ => by
   simp at h; subst h
   simp only at he
   simp [setA, he]
 | (k, u) :: es, x, v, j + 1, e, h, he, hb => by
   have h0 : k ≠ x := hb 0 (k, u) (by omega) rfl
   have ih := Jr9 (es := es) (v := v) (by simpa using h) he fun i e' hi hi' => hb (i + 1) e' (by omega) (by simpa using hi')
   simp only [setA, if_neg h0, List.set_cons_succ, ih]
section
variable {P : Program} {G : Jac} {o : Oper} {ρ : Operand -> AV} {s : Store} {nx : Nat}
theorem Jrc {t k e : Nat} {m x : Operand} {ok : Bool} {y ye : TyI} {es : List (AV × AV)} {rd : List Nat} (ho : o.op = .lookup t m x ok) (hy : tyOf P t = some y) (htd : y.td = .map k e) (hye : tyOf P e = some ye)
   (hkeys : Jdo P k es (ρ x)) (hz : Jd9 P e = some ye.agg)
   (hm : ∀ F φ s1 w v, Jb1 s s1 rd -> SR G F φ s1 w -> VR φ (ownF F φ s1) w (ρ m) v -> ∃ r mes cl es', v = .map (some r) /\ w.heap[r]? = some (Obj.map mes cl) /\ es'.Perm es /\ Jbb es' (ρ x) = Jbb es (ρ x) /\ Jcl φ (ownF F φ s1) w es' mes.toList) :
   OpOK P G o ρ s nx (hit ok (zeroV ye) (Jbb es (ρ x))) rd [] nx := by
   obtain ⟨Kp, hKp, hx, hes⟩ := hkeys
   obtain ⟨_, d, z, hs⟩ := Jav hy
   rw [hs.td] at htd
   obtain rfl := Jgh htd
   refine OpOK.same fun F φ s1 w ρ' hag hsr hρ => ?_
   have hvm := hρ m (by simp [ho, Op.operands])
   have hvx := hρ x (by simp [ho, Op.operands])
   obtain ⟨r, mes, cl, es', hvm, e2, hpm, has, e3⟩ := hm F φ s1 w _ hag hsr hvm
   rw [<- has]
   replace hes : ∀ e ∈ es', Kp e.1 := fun e he => hes e (hpm.mem_iff.1 he)
   obtain ⟨_, de, ze, hse⟩ := Jav hye
   have hzero : ∃ zv, (zeroValue e).run P w = .ok zv w /\ VR φ (ownF F φ s1) w (zeroV ye) zv := by
     refine ⟨ze, hse.zeroValue w, ?_⟩
     obtain ⟨i2, d2, z2, hs2, hzc⟩ := Jeq (P := P) (φ := φ) (own := ownF F φ s1) (w := w) hye
     have hzz : z2 = ze := by
       have h1 := hse.info; rw [hs2.info] at h1; cases h1
       have h2 := hse.zero; rw [hs2.zero] at h2; exact Option.some.inj h2
     subst hzz
     unfold Jd9 at hz
     rw [hs2.info] at hz
     simp only [Option.bind_some, hs2.zero, Option.map_some, Option.some.injEq] at hz
     unfold zeroV
     cases z2 with
     | agg cs =>
       simp only at hz
       rw [<- hz, if_pos rfl]
       exact .agg _ cs.toList hzc.1 hzc.2
     | _ =>
       simp only at hz
       rw [<- hz, if_neg (by simp)]
       have h1 := hzc.1
       obtain ⟨c0, hc0⟩ : ∃ c0, ye.zero = [c0] := by
         match hzl : ye.zero, h1 with
         | [c], _ => exact ⟨c, rfl⟩
         | [], h1 => simp [hzl, Value.cells] at h1
         | _ :: _ :: _, h1 => simp [hzl, Value.cells] at h1
       rw [hc0] at hzc ⊢
       exact hzc.2 0 c0 _ rfl (by simp [Value.cells])
   obtain ⟨zv, hz1, hz2⟩ := hzero
   rcases hKp.find φ (ownF F φ s1) w (ρ x) (ρ' x) es' mes.toList hx hvx hes e3 with ⟨h1, h2⟩ | ⟨j, en, mn, h1, h2, h3, h4, h5⟩
   . rw [Jj4 h2]
     refine ⟨if ok then .tuple #[zv, .bool false] else zv, ?_, ?_⟩
     . simp [execOp, ho, hvm, Instr.lookup, run_underlying hs.under, MapKept.run_getObj_map e2, hKp.check φ _ w _ _ _ hx hvx, h1, hz1]
     . cases ok with
       | false => exact hz2
       | true =>
         refine .tup _ [zv, .bool false] rfl fun i c v hc hv => ?_
         match i with
         | 0 => simp at hc hv; subst hc; subst hv; exact hz2
         | 1 => simp at hc hv; subst hc; subst hv; exact .p _ _ (.bool _)
         | i + 2 => simp at hc
   . rw [Jnz h2 h4 h5]
     have hval := (e3.2 j en mn h2 h3).2
     refine ⟨if ok then .tuple #[mn.val, .bool true] else mn.val, ?_, ?_⟩
     . simp [execOp, ho, hvm, Instr.lookup, run_underlying hs.under, MapKept.run_getObj_map e2, hKp.check φ _ w _ _ _ hx hvx, h1]
     . cases ok with
       | false => exact hval
       | true =>
         refine .tup _ [mn.val, .bool true] rfl fun i c v hc hv => ?_
         match i with
         | 0 => simp at hc hv; subst hc; subst hv; exact hval
         | 1 => simp at hc hv; subst hc; subst hv; exact .p _ _ (.bool _)
         | i + 2 => simp at hc
theorem J0q {t : Nat} {m x : Operand} {ok : Bool} {y : TyI} {K : KT} (ho : o.op = .lookup t m x ok) (hy : tyOf P t = some y) (h : Jjn P y.td (ρ m) (ρ x) ok s nx K) :
   ∃ v rd up nx', K v rd up nx' /\ OpOK P G o ρ s nx v rd up nx' := by
 unfold Jjn at h
 split at h
 . rename_i k e b htd hm
   obtain ⟨ye, hye, h⟩ := Ja4.1 h
   obtain ⟨es, hg, hk, hz, hK⟩ := Jfb.1 h
   refine ⟨_, _, _, _, hK, Jrc ho hy htd hye hk hz fun F φ s1 w v hag hsr hv => ?_⟩
   rw [hm] at hv
   obtain ⟨r, δ, hφ, rfl⟩ := hv.map_inv
   obtain ⟨r', mes, cl, e1, e2, e3, _⟩ := hsr.blk b _ ((hag b (by simp)).trans hg)
   rw [hφ] at e1; cases e1
   exact ⟨r, mes, cl, es, rfl, e2, .refl _, rfl, e3⟩
 . rename_i k e ks vs htd hm
   obtain ⟨ye, hye, hk, hz, hK⟩ := Ja4.1 h
   refine ⟨_, _, _, _, hK, Jrc ho hy htd hye hk hz fun F φ s1 w v hag hsr hv => ?_⟩
   rw [hm] at hv
   obtain ⟨r, mes, cl, ps, rfl, hp⟩ := hv.pmap_inv
   obtain ⟨es', h1, h2⟩ := hp.entries (φ := φ)
   have hkv : ks.length <= vs.length := by rw [hp.kl, hp.vl]; exact Nat.le_refl _
   exact ⟨r, mes, cl, es', rfl, hp.at_, h1, Jt5 h1 (by rw [List.map_fst_zip hkv]; exact hp.nd) _, h2⟩
 . exact h.elim
def turnM (w : World) (β : Nat) (es : Array MapEntry) (cl : Nat) : World := { w with heap := w.heap.setIfInBounds β (Obj.map es cl) }
theorem Jmx {w : World} {β : Nat} {es : Array MapEntry} {cl : Nat} (h : β < w.heap.size) : (turnM w β es cl).heap[β]? = some (Obj.map es cl) := by
 simp [turnM, h]
theorem Jmw {w : World} {β c : Nat} {es : Array MapEntry} {cl : Nat} (h : c ≠ β) : (turnM w β es cl).heap[c]? = w.heap[c]? := by
 simp [turnM, Ne.symm h]
theorem SR.turnM {G F} {φ : Places} {s : Store} {w : World} (h : SR G F φ s w) {b : Nat} {x0 x : ABlk} {β δ : Nat} {es es0 : Array MapEntry} {cl cl0 : Nat}
   (hg : get s b = some x0) (hφ : φ b = some (β, δ)) (h0 : w.heap[β]? = some (Obj.map es0 cl0))
   (hx : Step (ownF F φ s) (ownF F φ ((b, some x) :: s)) w (turnM w β es cl) -> BR φ (ownF F φ ((b, some x) :: s)) (turnM w β es cl) b x) :
   SR G F φ ((b, some x) :: s) (Am.turnM w β es cl) /\ ∀ F' : Nat -> Prop, Step (ownF F' φ s) (ownF F' φ ((b, some x) :: s)) w (Am.turnM w β es cl) := by
 have ho : ∀ F' : Nat -> Prop, ownF F' φ s β := fun F' => .inr ⟨b, x0, _, hg, hφ, rfl⟩
 have stF : ∀ F' : Nat -> Prop, Step (ownF F' φ s) (ownF F' φ ((b, some x) :: s)) w (Am.turnM w β es cl) := fun F' => {
   keep := fun c _ hn => ⟨Jmw (fun e => hn (e ▸ ho F')), by
     rintro (hF | ⟨d, y, p, h1, h2, rfl⟩)
     . exact hn (.inl hF)
     . by_cases e : d = b
       . subst e
         rw [hφ] at h2; cases h2
         exact hn (ho F')
       . rw [Jbg (Ne.symm e)] at h1
         exact hn (.inr ⟨d, y, p, h1, h2, rfl⟩)⟩
   size := by simp [Am.turnM]
   shape := fun c a U hc => by
     by_cases e : c = β
     . subst e; rw [h0] at hc; cases hc
     . exact ⟨a, by rw [Jmw e]; exact hc, rfl⟩
   os := rfl
   tape := rfl
   output := rfl }
 have st := stF F
 refine ⟨h.change (fun _ _ h => h) st ?_ ?_ ?_, stF⟩
 . intro c y hc
   by_cases e : c = b
   . subst e
     rw [Jev] at hc
     cases hc
     exact .inr (hx st)
   . rw [Jbg (Ne.symm e)] at hc
     refine .inl ⟨hc, fun p hp => Jmw fun hp1 => e ?_⟩
     exact h.inj c b y x0 p (β, δ) hc hg hp hφ hp1
 . intro c c' y y' p p' h1 h2 h3 h4 h5
   have k1 : ∃ z, get s c = some z := by
     by_cases e : c = b
     . exact ⟨x0, e ▸ hg⟩
     . exact ⟨y, by rw [Jbg (Ne.symm e)] at h1; exact h1⟩
   have k2 : ∃ z, get s c' = some z := by
     by_cases e : c' = b
     . exact ⟨x0, e ▸ hg⟩
     . exact ⟨y', by rw [Jbg (Ne.symm e)] at h2; exact h2⟩
   obtain ⟨z, k1⟩ := k1
   obtain ⟨z', k2⟩ := k2
   exact h.inj c c' z z' p p' k1 k2 h3 h4 h5
 . intro c y p h1 h2
   by_cases e : c = b
   . subst e
     exact h.disj c x0 p hg h2
   . rw [Jbg (Ne.symm e)] at h1
     exact h.disj c y p h1 h2
theorem Jrd {t : Nat} {m x v : Operand} {y : TyI} {K : KT} (ho : o.op = .mapUpdate t m x v \/ o.op = .insert t m x v) (hy : tyOf P t = some y) (h : Jhm P y.td (ρ m) (ρ x) (ρ v) s nx K) :
   ∃ v rd up nx', K v rd up nx' /\ OpOK P G o ρ s nx v rd up nx' := by
 unfold Jhm at h
 split at h
 . rename_i k e b htd hm
   obtain ⟨es, hg, ⟨Kp, hKp, hx, hes⟩, hK⟩ := Jfb.1 h
   obtain ⟨_, d, z, hs⟩ := Jav hy
   rw [hs.td] at htd
   obtain rfl := Jgh htd
   refine ⟨_, _, _, _, hK, Nat.le_refl _, fun F φ s1 w ρ' hag hsr _ hρ => ?_⟩
   have hvm := hρ m (by rcases ho with ho | ho <;> simp [ho, Op.operands])
   have hvx := hρ x (by rcases ho with ho | ho <;> simp [ho, Op.operands])
   have hvv := hρ v (by rcases ho with ho | ho <;> simp [ho, Op.operands])
   rw [hm] at hvm
   obtain ⟨r, δ, hφ, hvm⟩ := hvm.map_inv
   have hg1 := (hag b (by simp)).trans hg
   obtain ⟨r', mes, cl, e1, e2, e3, eB⟩ := hsr.blk b _ hg1
   rw [hφ] at e1; cases e1
   have hr := (Array.getElem?_eq_some_iff.1 e2).1
   have fin : ∀ (mes' : Array MapEntry) (cl' : Nat), (execOp ρ' o).run P w = .ok .skip (turnM w r mes' cl') ->
       (∀ own w', (∀ x v, VR φ (ownF F φ s1) w x v -> VR φ own w' x v) -> Jcl φ own w' (setA es (ρ x) (ρ v)) mes'.toList) -> Jcb mes'.toList cl' ->
       Jbe P (Post G F φ s1 w .any [(b, some (.map (setA es (ρ x) (ρ v))))] nx nx) ((execOp ρ' o).run P w) := fun mes' cl' hrun hent hB' => by
     rw [hrun]
     have := hsr.turnM (x := .map (setA es (ρ x) (ρ v))) (es := mes') (cl := cl') hg1 hφ e2 (fun st => ⟨r, mes', cl', hφ, Jmx hr, hent _ _ fun x v hxv => hxv.mono (fun _ _ h => h) st, hB'⟩)
     exact ⟨φ, fun _ _ h => h, fun _ _ => rfl, this.1, .any _, this.2⟩
   rcases hKp.find φ (ownF F φ s1) w (ρ x) (ρ' x) es mes.toList hx hvx hes e3 with ⟨h1, h2⟩ | ⟨j, en, mn, h1, h2, h3, h4, h5⟩
   . refine fin (mes.push { key := ρ' x, val := ρ' v, born := cl }) (cl + 1) ?_ (fun own w' hmono => ?_) (by rw [Array.toList_push]; exact eB.push _ rfl)
     . rcases ho with ho | ho <;> simp [execOp, ho, hvm, Instr.mapUpdate, run_underlying hs.under, MapKept.run_getObj_map e2, MapKept.run_setObj_map _ e2, hKp.check φ _ w _ _ _ hx hvx, h1, turnM]
     . rw [Jr8 h2]
       refine ⟨by simp [e3.1], fun i en' mn' hi hi' => ?_⟩
       by_cases hil : i < es.length
       . rw [List.getElem?_append_left hil] at hi
         rw [Array.toList_push, List.getElem?_append_left (by rw [e3.1]; exact hil)] at hi'
         have := e3.2 i en' mn' hi hi'
         exact ⟨hmono _ _ this.1, hmono _ _ this.2⟩
       . rw [List.getElem?_append_right (by omega)] at hi
         rw [Array.toList_push, List.getElem?_append_right (by rw [e3.1]; omega)] at hi'
         rw [e3.1] at hi'
         have h0 : i - es.length = 0 := by
           have := (gsI.1 hi).1
           simp at this; omega
         rw [h0] at hi hi'
         simp at hi hi'
         subst hi; subst hi'
         exact ⟨hmono _ _ hvx, hmono _ _ hvv⟩
   . have hkey := (e3.2 j en mn h2 h3).1
     rw [h4] at hkey
     have h3' : mes[j]? = some mn := by simpa using h3
     have hst := hKp.stays φ (ownF F φ s1) w (ρ x) mn.key (ρ' x) hx hkey hvx
     refine fin (mes.modify j fun e => { e with key := ρ' x, val := ρ' v }) cl ?_ (fun own w' hmono => ?_) (by rw [Array.toList_modify]; exact eB.modify _ fun _ => rfl)
     . rcases ho with ho | ho <;> simp [execOp, ho, hvm, Instr.mapUpdate, run_underlying hs.under, MapKept.run_getObj_map e2, MapKept.run_setObj_map _ e2, hKp.check φ _ w _ _ _ hx hvx, h1, h3', hst, turnM]
     . rw [Jr9 h2 h4 h5]
       refine ⟨by simp [e3.1], fun i en' mn' hi hi' => ?_⟩
       rw [Array.toList_modify] at hi'
       rw [List.getElem?_set] at hi
       rw [List.getElem?_modify] at hi'
       by_cases hij : j = i
       . subst hij
         rw [if_pos rfl] at hi
         split at hi
         . cases hi
           simp [h3] at hi'
           subst hi'
           exact ⟨hmono _ _ hvx, hmono _ _ hvv⟩
         . cases hi
       . rw [if_neg hij] at hi
         simp only [if_neg hij] at hi'
         have hi' : mes.toList[i]? = some mn' := by simpa using hi'
         have := e3.2 i en' mn' hi hi'
         exact ⟨hmono _ _ this.1, hmono _ _ this.2⟩
 . exact h.elim
theorem J3w {e : Nat} {ye : TyI} {φ : Places} {own : Nat -> Prop} {w : World} (hye : tyOf P e = some ye) (hz : Jd9 P e = some ye.agg) : ∃ zv, (zeroValue e).run P w = .ok zv w /\ VR φ own w (zeroV ye) zv := by
 obtain ⟨_, de, ze, hse⟩ := Jav hye
 refine ⟨ze, hse.zeroValue w, ?_⟩
 obtain ⟨i2, d2, z2, hs2, hzc⟩ := Jeq (P := P) (φ := φ) (own := own) (w := w) hye
 have hzz : z2 = ze := by
   have h1 := hse.info; rw [hs2.info] at h1; cases h1
   have h2 := hse.zero; rw [hs2.zero] at h2; exact Option.some.inj h2
 subst hzz
 unfold Jd9 at hz
 rw [hs2.info] at hz
 simp only [Option.bind_some, hs2.zero, Option.map_some, Option.some.injEq] at hz
 unfold zeroV
 cases z2 with
 | agg cs =>
   simp only at hz
   rw [<- hz, if_pos rfl]
   exact .agg _ cs.toList hzc.1 hzc.2
 | _ =>
   simp only at hz
   rw [<- hz, if_neg (by simp)]
   have h1 := hzc.1
   obtain ⟨c0, hc0⟩ : ∃ c0, ye.zero = [c0] := by
     match hzl : ye.zero, h1 with
     | [c], _ => exact ⟨c, rfl⟩
     | [], h1 => simp [hzl, Value.cells] at h1
     | _ :: _ :: _, h1 => simp [hzl, Value.cells] at h1
   rw [hc0] at hzc ⊢
   exact hzc.2 0 c0 _ rfl (by simp [Value.cells])
theorem Jpy : ∀ {es : List (AV × AV)} {x : AV}, (∀ e ∈ es, e.1 ≠ x) -> idxA es x = es.length
 | [], _, _ => rfl
 | (k, u) :: es, x, h => by
   have h0 : k ≠ x := h (k, u) (by simp)
   rw [idxA, if_neg h0, Jpy fun e he => h e (List.mem_cons_of_mem _ he)]
   rfl
theorem Jpz : ∀ {es : List (AV × AV)} {x : AV} {j : Nat} {e : AV × AV}, es[j]? = some e -> e.1 = x -> (∀ (i : Nat) e', i < j -> es[i]? = some e' -> e'.1 ≠ x) -> idxA es x = j
 | [], _, _, _, h, _, _ => by simp at h
 | (k, u) :: es, x, 0, e, h, he, _ => by
   simp at h; subst h
   rw [idxA, if_pos he]
 | (k, u) :: es, x, j + 1, e, h, he, hn => by
   have h0 : k ≠ x := hn 0 (k, u) (by omega) rfl
   rw [idxA, if_neg h0, Jpz (by simpa using h) he fun i e' hi h' => hn (i + 1) e' (by omega) (by simpa using h')]
theorem Jnx {es : List (AV × AV)} {x : AV} {j : Nat} {e : AV × AV} (h1 : es[j]? = some e) (h2 : e.1 = x) (h3 : ∀ (i : Nat) e', i < j -> es[i]? = some e' -> e'.1 ≠ x) : Jbb es x = some e.2 := by
 induction es generalizing j with
 | nil => simp at h1
 | cons a es ih =>
   rw [Jfh]
   cases j with
   | zero => simp at h1; subst h1; rw [if_pos h2]
   | succ j =>
     rw [if_neg (h3 0 a (by omega) rfl)]
     exact ih (by simpa using h1) fun i e' hi h' => h3 (i + 1) e' (by omega) (by simpa using h')
theorem Jwp {es : List (AV × AV)} {x z : AV} (h : ∀ e ∈ es, e.1 ≠ x) : entA es x z = es ++ [(x, z)] := by
 unfold entA; rw [Jj4 h]
theorem J0v {t : Nat} {m x : Operand} {y : TyI} {K : KT} (ho : o.op = .mapEntry t m x) (hy : tyOf P t = some y) (h : Jm6 P y.td (ρ m) (ρ x) s nx K) :
   ∃ v rd up nx', K v rd up nx' /\ OpOK P G o ρ s nx v rd up nx' := by
 unfold Jm6 at h
 split at h
 . rename_i k e b htd hm
   obtain ⟨ye, hye, h⟩ := Ja4.1 h
   obtain ⟨es, hg, ⟨Kp, hKp, hx, hes⟩, hz, hK⟩ := Jfb.1 h
   obtain ⟨_, d, z, hs⟩ := Jav hy
   rw [hs.td] at htd
   obtain rfl := Jgh htd
   refine ⟨_, _, _, _, hK, Nat.le_refl _, fun F φ s1 w ρ' hag hsr _ hρ => ?_⟩
   have hvm := hρ m (by simp [ho, Op.operands])
   have hvx := hρ x (by simp [ho, Op.operands])
   rw [hm] at hvm
   obtain ⟨r, δ, hφ, hvm⟩ := hvm.map_inv
   have hg1 := (hag b (by simp)).trans hg
   obtain ⟨r', mes, cl, e1, e2, e3, eB⟩ := hsr.blk b _ hg1
   rw [hφ] at e1; cases e1
   have hr := (Array.getElem?_eq_some_iff.1 e2).1
   obtain ⟨zv, hz1, hz2⟩ := J3w (φ := φ) (own := ownF F φ s1) (w := w) hye hz
   have fin : ∀ (mes' : Array MapEntry) (cl' : Nat) (u : Value) (n : Nat), idxA es (ρ x) = n -> VR φ (ownF F φ s1) w ((Jbb es (ρ x)).getD (zeroV ye)) u -> (execOp ρ' o).run P w = .ok (.value (.tuple #[u, .int .i64 n])) (turnM w r mes' cl') ->
       (∀ own w', (∀ x v, VR φ (ownF F φ s1) w x v -> VR φ own w' x v) -> Jcl φ own w' (entA es (ρ x) (zeroV ye)) mes'.toList) -> Jcb mes'.toList cl' ->
       Jbe P (Post G F φ s1 w (.tup [(Jbb es (ρ x)).getD (zeroV ye), .p (.int .i64 (idxA es (ρ x) : Nat))]) [(b, some (.map (entA es (ρ x) (zeroV ye))))] nx nx) ((execOp ρ' o).run P w) := fun mes' cl' u n hn hu hrun hent hB' => by
     rw [hrun]
     have := hsr.turnM (x := .map (entA es (ρ x) (zeroV ye))) (es := mes') (cl := cl') hg1 hφ e2 (fun st => ⟨r, mes', cl', hφ, Jmx hr, hent _ _ fun x v hxv => hxv.mono (fun _ _ h => h) st, hB'⟩)
     refine ⟨φ, fun _ _ h => h, fun _ _ => rfl, this.1, .tup _ [u, .int .i64 n] rfl (fun i c v hc hv => ?_), this.2⟩
     match i with
     | 0 => simp at hc hv; subst hc; subst hv; exact hu.mono (fun _ _ h => h) (this.2 F)
     | 1 => simp at hc hv; subst hc; subst hv; rw [hn]; exact .p _ _ (.int ..)
     | i + 2 => simp at hc
   rcases hKp.find φ (ownF F φ s1) w (ρ x) (ρ' x) es mes.toList hx hvx hes e3 with ⟨h1, h2⟩ | ⟨j, en, mn, h1, h2, h3, h4, h5⟩
   . have hcl : cl = es.length := by rw [eB.2, e3.1]
     refine fin (mes.push { key := ρ' x, val := zv, born := cl }) (cl + 1) zv cl (by rw [Jpy h2, hcl]) (by rw [Jj4 h2]; exact hz2) ?_ (fun own w' hmono => ?_) (by rw [Array.toList_push]; exact eB.push _ rfl)
     . simp [execOp, ho, hvm, Instr.mapEntry, run_underlying hs.under, MapKept.run_getObj_map e2, MapKept.run_setObj_map _ e2, hKp.check φ _ w _ _ _ hx hvx, h1, hz1, turnM, goInt]
     . rw [Jwp h2]
       refine ⟨by simp [e3.1], fun i en' mn' hi hi' => ?_⟩
       by_cases hil : i < es.length
       . rw [List.getElem?_append_left hil] at hi
         rw [Array.toList_push, List.getElem?_append_left (by rw [e3.1]; exact hil)] at hi'
         have := e3.2 i en' mn' hi hi'
         exact ⟨hmono _ _ this.1, hmono _ _ this.2⟩
       . rw [List.getElem?_append_right (by omega)] at hi
         rw [Array.toList_push, List.getElem?_append_right (by rw [e3.1]; omega)] at hi'
         rw [e3.1] at hi'
         have h0 : i - es.length = 0 := by
           have := (gsI.1 hi).1
           simp at this; omega
         rw [h0] at hi hi'
         simp at hi hi'
         subst hi; subst hi'
         exact ⟨hmono _ _ hvx, hmono _ _ hz2⟩
   . have hkey := (e3.2 j en mn h2 h3).1
     have hval := (e3.2 j en mn h2 h3).2
     rw [h4] at hkey
     have h3' : mes[j]? = some mn := by simpa using h3
     have hst := hKp.stays φ (ownF F φ s1) w (ρ x) mn.key (ρ' x) hx hkey hvx
     have hborn := eB.at_ h3
     have hent0 : entA es (ρ x) (zeroV ye) = es := by unfold entA; rw [Jnx h2 h4 h5]
     refine fin (mes.modify j fun e => { e with key := ρ' x }) cl mn.val j (Jpz h2 h4 h5) (by rw [Jnx h2 h4 h5]; exact hval) ?_ (fun own w' hmono => ?_) (by rw [Array.toList_modify]; exact eB.modify _ fun _ => rfl)
     . simp [execOp, ho, hvm, Instr.mapEntry, run_underlying hs.under, MapKept.run_getObj_map e2, MapKept.run_setObj_map _ e2, hKp.check φ _ w _ _ _ hx hvx, h1, h3', hst, turnM, goInt, hborn]
     . rw [hent0]
       refine ⟨by simp [e3.1], fun i en' mn' hi hi' => ?_⟩
       rw [Array.toList_modify] at hi'
       rw [List.getElem?_modify] at hi'
       by_cases hij : j = i
       . subst hij
         rw [h2] at hi; cases hi
         simp [h3] at hi'
         subst hi'
         exact ⟨by rw [h4]; exact hmono _ _ hvx, hmono _ _ hval⟩
       . simp only [if_neg hij] at hi'
         have hi' : mes.toList[i]? = some mn' := by simpa using hi'
         have := e3.2 i en' mn' hi hi'
         exact ⟨hmono _ _ this.1, hmono _ _ this.2⟩
 . exact h.elim
theorem J0j {t : Nat} {m st v : Operand} {K : KT} (ho : o.op = .entryStore t m st v) (h : Jm4 (ρ m) (ρ st) (ρ v) s nx K) :
   ∃ v rd up nx', K v rd up nx' /\ OpOK P G o ρ s nx v rd up nx' := by
 unfold Jm4 at h
 split at h
 . rename_i b n hm hst
   obtain ⟨es, hg, ⟨hn0, hn1⟩, hK⟩ := Jfb.1 h
   refine ⟨_, _, _, _, hK, Nat.le_refl _, fun F φ s1 w ρ' hag hsr _ hρ => ?_⟩
   have hvm := hρ m (by simp [ho, Op.operands])
   have hvs := hρ st (by simp [ho, Op.operands])
   have hvv := hρ v (by simp [ho, Op.operands])
   rw [hm] at hvm
   rw [hst] at hvs
   have hvs := hvs.int_inv
   obtain ⟨r, δ, hφ, hvm⟩ := hvm.map_inv
   have hg1 := (hag b (by simp)).trans hg
   obtain ⟨r', mes, cl, e1, e2, e3, eB⟩ := hsr.blk b _ hg1
   rw [hφ] at e1; cases e1
   have hr := (Array.getElem?_eq_some_iff.1 e2).1
   obtain ⟨j, rfl⟩ : ∃ j : Nat, n = j := ⟨n.toNat, by omega⟩
   have hj : j < mes.toList.length := by rw [e3.1]; omega
   have hfind : mes.findIdx? (fun e => ((e.born : Int) == (j : Int))) = some j := by
     have e : mes = mes.toList.toArray := by simp
     rw [e, List.findIdx?_toArray]
     exact eB.find hj
   have hrun : (execOp ρ' o).run P w = .ok .skip (turnM w r (mes.modify j fun e => { e with val := ρ' v }) cl) := by
     simp [execOp, ho, hvm, hvs, Instr.entryStore, asInt, asIntOf, MapKept.run_getObj_map e2, MapKept.run_setObj_map _ e2, hfind, turnM]
   rw [hrun]
   have hent : ∀ own w', (∀ x v, VR φ (ownF F φ s1) w x v -> VR φ own w' x v) -> Jcl φ own w' (putE es j (ρ v)) (mes.modify j fun e => { e with val := ρ' v }).toList := fun own w' hmono => by
     refine ⟨by simp [putE, e3.1], fun i en' mn' hi hi' => ?_⟩
     rw [Array.toList_modify] at hi'
     unfold putE at hi
     rw [List.getElem?_modify] at hi hi'
     by_cases hij : j = i
     . subst hij
       cases h1 : es[j]? with
       | none => rw [h1] at hi; simp at hi
       | some en =>
         cases h2 : mes.toList[j]? with
         | none => rw [h2] at hi'; simp at hi'
         | some mn =>
           rw [h1] at hi
           rw [h2] at hi'
           simp at hi hi'
           subst hi; subst hi'
           exact ⟨hmono _ _ (e3.2 j en mn h1 h2).1, hmono _ _ hvv⟩
     . simp only [if_neg hij] at hi hi'
       have hi : es[i]? = some en' := by simpa using hi
       have hi' : mes.toList[i]? = some mn' := by simpa using hi'
       have := e3.2 i en' mn' hi hi'
       exact ⟨hmono _ _ this.1, hmono _ _ this.2⟩
   have := hsr.turnM (x := .map (putE es j (ρ v))) (es := mes.modify j fun e => { e with val := ρ' v }) (cl := cl) hg1 hφ e2 (fun st => ⟨r, _, cl, hφ, Jmx hr, hent _ _ fun x v hxv => hxv.mono (fun _ _ h => h) st, by rw [Array.toList_modify]; exact eB.modify _ fun _ => rfl⟩)
   rw [Int.toNat_natCast]
   exact ⟨φ, fun _ _ h => h, fun _ _ => rfl, this.1, .any _, this.2⟩
 . exact h.elim
end
end Go.Am
namespace Go.Am
open Go
theorem Jzu {l : List Nat} (h : l.Nodup) {i j : Nat} (hi : i < l.length) (hj : j < l.length) (e : l[i] = l[j]) : i = j := by
 have hp := List.pairwise_iff_getElem.1 h
 rcases Nat.lt_trichotomy i j with h1 | h1 | h1
 . exact absurd e (hp i j hi hj h1)
 . exact h1
 . exact absurd e.symm (hp j i hj hi h1)
section
variable {P : Program} {G : Jac} {o : Oper} {ρ : Operand -> AV} {s : Store} {nx : Nat}
theorem J03 {t : Nat} {x : Operand} {y : TyI} {K : KT} (ho : o.op = .range t x) (hy : tyOf P t = some y) (h : Jm8 y.td (ρ x) nx K) :
   ∃ v rd up nx', K v rd up nx' /\ OpOK P G o ρ s nx v rd up nx' := by
 unfold Jm8 at h
 split at h
 . rename_i k e ks vs htd hx
   obtain ⟨_, d, z, hs⟩ := Jav hy
   rw [hs.td] at htd
   obtain rfl := Jgh htd
   refine ⟨_, _, _, _, h, Nat.le_succ _, fun F φ s1 w ρ' _ hsr hf hρ => ?_⟩
   have hv := hρ x (by simp [ho, Op.operands])
   rw [hx] at hv
   obtain ⟨r, mes, cl, ps, hv, hp⟩ := hv.pmap_inv
   have hrun : (execOp ρ' o).run P w = .ok (.value (.pointer (some ⟨w.heap.size, 0, none⟩))) (w.alloc (.mapIter (some r) cl #[] cl)) := by
     have := run_range_map (P := P) w t k e r mes cl hs.under hp.at_
     simp [execOp, ho, hv, this]
   rw [hrun]
   have hfx := hf nx (Nat.le_refl _) (Nat.lt_succ_self _)
   refine Jg8 hsr hfx _ (.iter ks vs []) ?_ (.ptr nx 0 0 0 w.heap.size 0 Jbp)
   exact ⟨w.heap.size, r, mes, cl, #[], ps, Jbp, heap_alloc_new, hp.mono (Je6 _ _), by simp, rfl⟩
 . exact h.elim
theorem Jyo {mes : Array MapEntry} {i : Nat} {m : MapEntry} (hn : (mes.toList.map (·.born)).Nodup) {ps : List MapEntry} (hp : ps.Perm mes.toList) (hm : ps[i]? = some m) : mes.find? (·.born == m.born) = some m := by
 rw [<- Array.find?_toList]
 exact find_born m mes.toList hn (hp.mem_iff.1 (List.mem_of_getElem? hm))
theorem J0i {x : Operand} {K : KT} (ho : o.op = .entry x) (h : Jm3 (ρ x) s nx K) : ∃ v rd up nx', K v rd up nx' /\ OpOK P G o ρ s nx v rd up nx' := by
 unfold Jm3 at h
 split at h
 . rename_i b hx
   obtain ⟨ks, vs, seen, hg, h⟩ := Js3.1 h
   obtain ⟨i, hi, h⟩ := Jaz.1 h
   obtain ⟨k, hk, h⟩ := Jaz.1 h
   obtain ⟨v, hv, h⟩ := Jaz.1 h
   refine ⟨_, _, _, _, h, OpOK.same fun F φ s1 w ρ' hag hsr hρ => ?_⟩
   have hvx := hρ x (by simp [ho, Op.operands])
   rw [hx] at hvx
   obtain ⟨β, δ, hφ, hvx⟩ := hvx.ptr_inv
   obtain ⟨r, mi, mes, cl, sn, ps, e1, e2, hp, hlt, hsn⟩ := hsr.blk b _ ((hag b (by simp)).trans hg)
   rw [hφ] at e1; cases e1
   obtain ⟨pre, rfl⟩ := List.getLast?_eq_some_iff.1 hi
   have hil := hlt i (by simp)
   obtain ⟨m, hm⟩ : ∃ m, ps[i]? = some m := ⟨_, List.getElem?_eq_getElem hil⟩
   have hback : sn.back? = some m.born := by
     rw [<- Array.getLast?_toList, hsn]
     simp only [List.map_append, List.map_cons, List.map_nil, hm, Option.map_some, Option.getD_some, List.getLast?_append, List.getLast?_singleton, Option.some_or]
   have hrun : (execOp ρ' o).run P w = .ok (.value (.tuple #[m.key, m.val])) w := by
     have hf := Jyo hp.born.1 hp.perm hm
     have h1 : (getObj β).run P w = .ok (.mapIter (some mi) cl sn cl) w := by simp only [getObj, Sem.run, e2]
     have h2 : (getObj mi).run P w = .ok (.map mes cl) w := MapKept.run_getObj_map hp.at_
     simp [execOp, ho, hvx, Instr.entry, h1, h2, hback, hf]
   refine ⟨_, hrun, ?_⟩
   refine .tup [k, v] [_, _] rfl fun j c u hc hu => ?_
   match j with
   | 0 => simp at hc hu; subst hc; subst hu; exact (hp.key i _ _ hk hm).vr
   | 1 => simp at hc hu; subst hc; subst hu; exact (hp.val i _ _ hv hm).vr
   | j + 2 => simp at hc
 . exact h.elim
theorem SR.turnO {F} {φ : Places} {s : Store} {w w' : World} (h : SR G F φ s w) {b : Nat} {x0 x : ABlk} {β δ : Nat} {o o0 : Obj}
   (hg : get s b = some x0) (hφ : φ b = some (β, δ)) (h0 : w.heap[β]? = some o0) (hno : ∀ a T, o0 ≠ Obj.cells a T (0, 0)) (hw : w'.heap = w.heap.setIfInBounds β o) (hos : w'.os = w.os) (htp : w'.tape = w.tape) (hou : w'.output = w.output)
   (hx : Step (ownF F φ s) (ownF F φ ((b, some x) :: s)) w w' -> BR φ (ownF F φ ((b, some x) :: s)) w' b x) :
   SR G F φ ((b, some x) :: s) w' /\ ∀ F' : Nat -> Prop, Step (ownF F' φ s) (ownF F' φ ((b, some x) :: s)) w w' := by
 have hne : ∀ {c : Nat}, c ≠ β -> w'.heap[c]? = w.heap[c]? := fun hc => by simp [hw, Ne.symm hc]
 have ho : ∀ F' : Nat -> Prop, ownF F' φ s β := fun F' => .inr ⟨b, x0, _, hg, hφ, rfl⟩
 have stF : ∀ F' : Nat -> Prop, Step (ownF F' φ s) (ownF F' φ ((b, some x) :: s)) w w' := fun F' => {
   keep := fun c _ hn => ⟨hne (fun e => hn (e ▸ ho F')), by
     rintro (hF | ⟨d, y, p, h1, h2, rfl⟩)
     . exact hn (.inl hF)
     . by_cases e : d = b
       . subst e
         rw [hφ] at h2; cases h2
         exact hn (ho F')
       . rw [Jbg (Ne.symm e)] at h1
         exact hn (.inr ⟨d, y, p, h1, h2, rfl⟩)⟩
   size := by simp [hw]
   shape := fun c a U hc => by
     by_cases e : c = β
     . subst e; rw [h0] at hc; cases hc; exact (hno _ _ rfl).elim
     . exact ⟨a, by rw [hne e]; exact hc, rfl⟩
   os := hos
   tape := htp
   output := hou }
 have st := stF F
 refine ⟨h.change (fun _ _ h => h) st ?_ ?_ ?_, stF⟩
 . intro c y hc
   by_cases e : c = b
   . subst e
     rw [Jev] at hc
     cases hc
     exact .inr (hx st)
   . rw [Jbg (Ne.symm e)] at hc
     refine .inl ⟨hc, fun p hp => hne fun hp1 => e ?_⟩
     exact h.inj c b y x0 p (β, δ) hc hg hp hφ hp1
 . intro c c' y y' p p' h1 h2 h3 h4 h5
   have k1 : ∃ z, get s c = some z := by
     by_cases e : c = b
     . exact ⟨x0, e ▸ hg⟩
     . exact ⟨y, by rw [Jbg (Ne.symm e)] at h1; exact h1⟩
   have k2 : ∃ z, get s c' = some z := by
     by_cases e : c' = b
     . exact ⟨x0, e ▸ hg⟩
     . exact ⟨y', by rw [Jbg (Ne.symm e)] at h2; exact h2⟩
   obtain ⟨z, k1⟩ := k1
   obtain ⟨z', k2⟩ := k2
   exact h.inj c c' z z' p p' k1 k2 h3 h4 h5
 . intro c y p h1 h2
   by_cases e : c = b
   . subst e
     exact h.disj c x0 p hg h2
   . rw [Jbg (Ne.symm e)] at h1
     exact h.disj c y p h1 h2
theorem run_next_any (w : World) (ty : TypeId) (r bm cl : Nat) (seen : Array Nat) (es : Array MapEntry) (hi : w.heap[r]? = some (.mapIter (some bm) cl seen cl)) (hb : w.heap[bm]? = some (.map es cl)) (hold : ∀ x ∈ es.toList, x.born < cl) :
   ((leftOf es seen).size = 0 /\ (Instr.next (.pointer (some ⟨r, 0, none⟩)) false ty).run P w = .ok (.tuple #[.bool false]) w) \/
   ∃ e ∈ (leftOf es seen).toList, ∃ w1 : World, w1.heap = w.heap.setIfInBounds r (.mapIter (some bm) cl (seen.push e.born) cl) /\ w1.os = w.os /\ w1.tape = w.tape /\ w1.output = w.output /\
     (Instr.next (.pointer (some ⟨r, 0, none⟩)) false ty).run P w = .ok (.tuple #[.bool true, e.key, e.val]) w1 := by
 have hrl := (Array.getElem?_eq_some_iff.1 hi).1
 simp only [Instr.next, getObj, Sem.run_bind, Sem.run, hi, hb, Result.andThen, next_test_false seen es cl cl hold (Nat.le_refl _), Bool.false_eq_true, if_false]
 unfold leftOf
 have hmem : ∀ x ∈ (Array.filter (fun e => !seen.contains e.born) es).toList, x.born < cl := fun x hx => hold x (by simp at hx ⊢; exact hx.1)
 generalize Array.filter (fun e => !seen.contains e.born) es = L at hmem ⊢
 have e1 : L.filter (fun x => decide (x.born < cl)) = L := Array.filter_eq_self.2 (fun x hx => by simpa using hmem x (by simpa using hx))
 have e2 : L.filter (fun x => decide (x.born ≥ cl)) = #[] := by
   rw [Array.filter_eq_empty_iff]
   intro x hx
   have := hmem x (by simpa using hx)
   simp
   omega
 simp only [e1, e2, Array.append_empty]
 by_cases h0 : L.size = 0
 . left
   have : L = #[] := Array.eq_empty_of_size_eq_zero h0
   subst this
   refine ⟨rfl, ?_⟩
   simp [choose, Sem.run, Question.forced]
 . right
   have hne : L.isEmpty = false := by simp [Array.isEmpty, h0]
   simp only [hne, Bool.false_eq_true, if_false, Array.empty_append, Array.size_map]
   have hch : ∃ (j : Nat) (w1 : World), j < L.size /\ w1.heap = w.heap /\ w1.os = w.os /\ w1.tape = w.tape /\ w1.output = w.output /\ (choose (Question.mapNext L.size)).run P w = .ok j w1 := by
     by_cases hf : L.size <= 1
     . exact ⟨0, w, by omega, rfl, rfl, rfl, rfl, by simp [choose, Sem.run, Question.forced, hf]⟩
     . exact ⟨_, w.drew, Nat.mod_lt _ (by omega), rfl, rfl, rfl, rfl, by
         simp only [choose, Sem.run, Question.forced, decide_eq_true_eq, hf, if_false, Question.cut]
         rfl⟩
   obtain ⟨j, w1, hj, hh, hos, htp, hou, hrun⟩ := hch
   have hset : ∀ (o' : Obj), (setObj r o').run P w1 = .ok () { w1 with heap := w1.heap.setIfInBounds r o' } := fun o' => by
     simp only [setObj, Sem.run, hh, hi]
   refine ⟨L[j], by simp, { w1 with heap := w1.heap.setIfInBounds r (.mapIter (some bm) cl (seen.push (L[j]).born) cl) }, by simp [hh], hos, htp, hou, ?_⟩
   simp only [hrun, Array.getElem?_map, Array.getElem?_eq_getElem hj, Option.map_some, Sem.run_bind, hset, Result.andThen]
   rfl
theorem J0y {x : Operand} {K : KT} (ho : o.op = .next x false) (h : Jm7 (ρ x) s nx K) (F : Nat -> Prop) (φ : Places) (s1 : Store) (w : World) (ρ' : Operand -> Value) (hag : ∀ b, get s1 b = get s b) (hsr : SR G F φ s1 w) (hρ : EvalOk φ (ownF F φ s1) w ρ ρ' o) :
   Jbe P (fun v' w' => ∃ v rd up nx', K v rd up nx' /\ nx <= nx' /\ Post G F φ s1 w v up nx nx' v' w') ((execOp ρ' o).run P w) := by
 unfold Jm7 at h
 split at h
 . rename_i b hx
   obtain ⟨ks, vs, seen, hg, h1, h2⟩ := Js3.1 h
   have hvx := hρ x (by simp [ho, Op.operands])
   rw [hx] at hvx
   obtain ⟨β, δ, hφ, hvx⟩ := hvx.ptr_inv
   have hg1 := (hag b).trans hg
   obtain ⟨r, mi, mes, cl, sn, ps, e1, e2, hp, hlt, hsn⟩ := hsr.blk b _ hg1
   rw [hφ] at e1; cases e1
   have hpn : (ps.map (·.born)).Nodup := ((hp.perm.map (·.born)).nodup_iff).2 hp.born.1
   have hsnc : ∀ (i : Nat) (m : MapEntry), ps[i]? = some m -> (sn.contains m.born = true ↔ i ∈ seen) := fun i m hm => by
     rw [Array.contains_iff_mem, <- Array.mem_toList_iff, hsn, List.mem_map]
     constructor
     . rintro ⟨j, hj, hb⟩
       have hjl := hlt j hj
       rw [List.getElem?_eq_getElem hjl] at hb
       simp only [Option.map_some, Option.getD_some] at hb
       obtain ⟨hil, rfl⟩ := gsI.1 hm
       have := Jzu hpn (i := j) (j := i) (by simpa using hjl) (by simpa using hil) (by simpa using hb)
       rw [<- this]; exact hj
     . intro hi
       exact ⟨i, hi, by rw [hm]; rfl⟩
   have hrn := run_next_any (P := P) w o.type β mi cl sn mes e2 hp.at_ hp.born.2
   have hex : ∀ {v' : Value} {w' : World}, (Instr.next (.pointer (some ⟨β, 0, none⟩)) false o.type).run P w = .ok v' w' -> (execOp ρ' o).run P w = .ok (.value v') w' := fun hr => by
     have hvx2 : ρ' x = .pointer (some ⟨β, 0, none⟩) := by simpa using hvx
     simp [execOp, ho, hvx2, hr]
   rcases hrn with ⟨hz, hrun⟩ | ⟨e, he, w1, hw, hos, htp, hou, hrun⟩
   . rw [hex hrun]
     refine ⟨_, _, _, _, h2 fun i hi => ?_, Nat.le_refl _, Jl2 hsr (.tup _ [.bool false] rfl fun j c v hc hv => ?_)⟩
     . have hil : i < ps.length := by rw [<- hp.kl]; exact hi
       have hm : ps[i]? = some ps[i] := List.getElem?_eq_getElem hil
       exact (hsnc i _ hm).1 (all_seen mes sn hz _ (hp.perm.mem_iff.1 (List.getElem_mem hil)))
     . match j with
       | 0 => simp at hc hv; subst hc; subst hv; exact .p _ _ (.bool _)
       | j + 1 => simp at hc
   . rw [hex hrun]
     obtain ⟨hem, hes⟩ := mem_left he
     obtain ⟨i, hm⟩ := List.mem_iff_getElem?.1 (hp.perm.mem_iff.2 hem)
     have hil := (gsI.1 hm).1
     have hin : i ∉ seen := fun hi => by
       rw [(hsnc i _ hm).2 hi] at hes; cases hes
     have hk : ks[i]? = some (ks[i]'(by rw [hp.kl]; exact hil)) := List.getElem?_eq_getElem _
     have hv : vs[i]? = some (vs[i]'(by rw [hp.vl]; exact hil)) := List.getElem?_eq_getElem _
     have hrl := (Array.getElem?_eq_some_iff.1 e2).1
     have htn := hsr.turnO (x := .iter ks vs (seen ++ [i])) hg1 hφ e2 (fun _ _ h => by cases h) hw hos htp hou fun st => by
       refine ⟨β, mi, mes, cl, sn.push e.born, ps, hφ, by rw [hw]; simp [hrl], hp.mono st, fun j hj => ?_, ?_⟩
       . rcases List.mem_append.1 hj with hj | hj
         . exact hlt j hj
         . simp at hj; subst hj; exact hil
       . rw [Array.toList_push, hsn, List.map_append]
         simp only [List.map_cons, List.map_nil, hm, Option.map_some, Option.getD_some]
     refine ⟨_, _, _, _, h1 i _ _ hin hk hv, Nat.le_refl _, φ, fun _ _ h => h, fun _ _ => rfl, htn.1, .tup _ [.bool true, _, _] rfl fun j c v hc hu => ?_, htn.2⟩
     match j with
     | 0 => simp at hc hu; subst hc; subst hu; exact .p _ _ (.bool _)
     | 1 => simp at hc hu; subst hc; subst hu; exact ((hp.key i _ _ hk hm).mono (htn.2 F)).vr
     | 2 => simp at hc hu; subst hc; subst hu; exact ((hp.val i _ _ hv hm).mono (htn.2 F)).vr
     | j + 3 => simp at hc
 . exact h.elim
end
end Go.Am
namespace Go.Am
open Go
section
variable {P : Program} {G : Jac} {o : Oper} {ρ : Operand -> AV} {s : Store} {nx : Nat}
theorem Jfw {φ own w} {a : Addr} {k : Nat} {rows : List (List AV)} (hr : ∀ r ∈ rows, r.length = k)
   (h : ∀ (i j : Nat) row x, rows[i]? = some row -> row[j]? = some x -> ∃ v, w.cell? (a.add (i * k + j)) = some v /\ VR φ own w x v) :
   ∃ new : Array Value, (loadCells a (rows.length * k)).run P w = .ok new w /\ Jau φ own w k rows new 0 /\ new.size = rows.length * k := by
 have key : ∀ m, m < rows.length * k -> w.cell? (a.add m) = some ((w.cell? (a.add m)).getD undef) := by
   intro m hm
   have hk : 0 < k := by
     rcases Nat.eq_zero_or_pos k with h0 | h0
     . rw [h0] at hm; simp at hm
     . exact h0
   have hi : m / k < rows.length := Nat.div_lt_of_lt_mul (by rw [Nat.mul_comm]; exact hm)
   have hj : m % k < rows[m / k].length := by rw [hr _ (List.getElem_mem hi)]; exact Nat.mod_lt _ hk
   obtain ⟨v, h1, _⟩ := h (m / k) (m % k) rows[m / k] rows[m / k][m % k] (List.getElem?_eq_getElem hi) (List.getElem?_eq_getElem hj)
   rw [show m / k * k + m % k = m from by rw [Nat.mul_comm]; exact Nat.div_add_mod m k] at h1
   rw [h1]; rfl
 have hrun := run_loadCells (P := P) w a (rows.length * k) (fun m => (w.cell? (a.add m)).getD undef) key
 refine ⟨_, hrun, ?_, by simp⟩
 intro i j row x hri hx
 have hi := (gsI.1 hri).1
 have hj : j < k := by
   rw [<- hr row (List.mem_of_getElem? hri)]
   exact (gsI.1 hx).1
 refine ⟨hj, ?_⟩
 obtain ⟨v, h1, h2⟩ := h i j row x hri hx
 refine ⟨v, ?_, h2⟩
 have hlt : i * k + j < rows.length * k := by
   have : (i + 1) * k <= rows.length * k := Nat.mul_le_mul_right k hi
   rw [Nat.succ_mul] at this; omega
 simp [hlt, h1]
theorem Jmq {F : Nat -> Prop} {φ : Places} {s1 : Store} {w : World} {x : AV} {v : Value} {src : List (List AV) × List Nat} {k : Nat} (hs : SR G F φ s1 w) (hv : VR φ (ownF F φ s1) w x v)
   (ha : ∀ b ∈ src.2, get s1 b = get s b) (hx : ∀ b k n, x ≠ .acc b k n) (h : Jca s x = some src) (hk : srcK x k = k) (hr : ∀ r ∈ src.1, r.length = k) :
   ∃ new : Array Value, (Builtin.lenOf v).run P w = .ok src.1.length w /\ (Builtin.firstCells k src.1.length v).run P w = .ok new w /\ Jau φ (ownF F φ s1) w k src.1 new 0 /\ new.size = src.1.length * k := by
 unfold Jca at h
 split at h
 . exact absurd rfl (hx _ _ _)
 . cases h
   cases hv with
   | nils a => exact ⟨#[], rfl, by cases a <;> simp [Builtin.firstCells, loadCells, loadCellsFrom], fun i j row x h => by simp at h, by simp⟩
 . rename_i k' rows
   cases h
   simp only [srcK] at hk
   subst hk
   rcases hv.p_inv.lst_inv with ⟨hnil, a, c, rfl⟩ | ⟨β, c, cap, rfl, hcap, hβ, hown, hrows⟩
   . subst hnil
     refine ⟨#[], rfl, ?_, fun i j row x h => by simp at h, by simp⟩
     cases a with
     | none => rfl
     | some a => simp [Builtin.firstCells, loadCells, loadCellsFrom]
   . obtain ⟨new, h1, h2, h3⟩ := Jfw (P := P) (φ := φ) (own := ownF F φ s1) (w := w) (a := ⟨β, c, none⟩) (k := k') (rows := rows.map (·.map AV.p)) hr (by
       intro i j row x h1 h2
       simp only [List.getElem?_map, Option.map_eq_some_iff] at h1
       obtain ⟨r, h1, rfl⟩ := h1
       simp only [List.getElem?_map, Option.map_eq_some_iff] at h2
       obtain ⟨z, h2, rfl⟩ := h2
       obtain ⟨v, h3, h4⟩ := hrows i j r z h1 h2
       exact ⟨v, by rw [addr_add, <- Nat.add_assoc]; exact h3, .p _ _ h4⟩)
     refine ⟨new, ?_, ?_, h2, h3⟩
     . simp [Builtin.lenOf]
     . simpa [Builtin.firstCells] using h1
 . rename_i t
   cases h
   have hv := hv.p_inv
   cases hv
   have hk1 : t = [] \/ k = 1 := by
     cases t with
     | nil => exact .inl rfl
     | cons b t => exact .inr (hr [.p (.int .u8 b.toNat)] (by simp)).symm
   refine ⟨(t.map fun b => Value.int .u8 b.toNat).toArray, ?_, ?_, ?_, ?_⟩
   . simp [Builtin.lenOf, ByteArray.size]
   . simp [Builtin.firstCells]
   . intro i j row x h1 h2
     rcases hk1 with rfl | rfl
     . simp at h1
     . simp only [List.getElem?_map, Option.map_eq_some_iff] at h1
       obtain ⟨b, h1, rfl⟩ := h1
       cases j with
       | zero =>
         simp at h2; subst h2
         exact ⟨Nat.one_pos, _, by simp [h1], .p _ _ (.int ..)⟩
       | succ j => simp at h2
   . rcases hk1 with rfl | rfl <;> simp
 . rename_i b k' i n c
   split at h
   . rename_i k2 rows hg
     split at h
     . rename_i hin
       obtain ⟨hkk, hin, _⟩ := hin
       cases h
       simp only [srcK] at hk
       subst hk
       obtain ⟨β, δ, cap, hφ, hc, hn, room, rfl⟩ := hv.ref_inv
       have hg1 := (ha b (by simp)).trans hg
       obtain ⟨β', δ', arr, T, e1, e2, e3⟩ := hs.blk b _ hg1
       rw [hφ] at e1; cases e1
       have hlen : ((rows.drop i).take n).length = n := by simp; omega
       -- the rows lie k2 apart
       have hk2 : ∀ (p j : Nat) row x, ((rows.drop i).take n)[p]? = some row -> row[j]? = some x -> k2 = k' -> ∃ v, w.cell? ((⟨β, δ + i * k', none⟩ : Addr).add (p * k' + j)) = some v /\ VR φ (ownF F φ s1) w x v := by
         intro p j row x h1 h2 hkk
         subst hkk
         have hp : p < n := by
           have := (gsI.1 h1).1
           simp at this; omega
         rw [List.getElem?_take_of_lt hp, List.getElem?_drop] at h1
         obtain ⟨_, v, h3, h4⟩ := e3 (i + p) j row x h1 h2
         refine ⟨v, ?_, h4⟩
         rw [addr_add, Jet e2, <- h3, Nat.add_mul]
         congr 1
         omega
       obtain ⟨new, h1, h2, h3⟩ := Jfw (P := P) (φ := φ) (own := ownF F φ s1) (w := w) (a := ⟨β, δ + i * k', none⟩) (k := k') (rows := (rows.drop i).take n) hr
         (fun p j row x h1 h2 => hk2 p j row x h1 h2 hkk)
       rw [hlen] at h1 h3
       refine ⟨new, ?_, ?_, h2, by rw [hlen]; exact h3⟩
       . simp only [Builtin.lenOf, Sem.run_pure, hlen]
       . simpa [Builtin.firstCells, hlen] using h1
     . cases h
   . cases h
 . cases h
theorem VR.acc_refS {φ : Places} {own : Nat -> Prop} {w : World} {b k n : Nat} {v : Value} (h : VR φ own w (.acc b k n) v) (h0 : 0 < n) : VR φ own w (.ref b k 0 n none) v := by
 cases h with
 | acc0 => omega
 | acc b k n β δ cap hφ h0 hn room =>
   have := VR.ref (own := own) (w := w) b k 0 n none β δ cap hφ (by simp) hn (by simpa using room)
   simpa using this
theorem VR.acc_nilS {φ : Places} {own : Nat -> Prop} {w : World} {b k : Nat} {v : Value} (h : VR φ own w (.acc b k 0) v) : VR φ own w .nils v := by
 cases h with
 | acc0 => exact .nils _
 | acc b k n β δ cap hφ h0 => omega
theorem Jmp {o : Option ABlk} {b k n : Nat} {src : List (List AV) × List Nat} (h : Je5 o b k n = some src) : src.2 = [b] /\ ((o = none /\ n = 0 /\ src.1 = []) \/ (o = some (.cells k src.1) /\ 0 < n /\ src.1.length = n /\ (src.1.all fun r => r.all AV.oneCell) = true)) := by
 unfold Je5 at h
 split at h
 . split at h
   . rename_i hc
     obtain ⟨rfl, h1, h2, h3⟩ := hc
     cases h
     exact ⟨rfl, .inr ⟨rfl, by rw [<- h2]; exact List.length_pos_iff.2 h1, h2, h3⟩⟩
   . cases h
 . split at h
   . cases h; exact ⟨rfl, .inl ⟨rfl, by assumption, rfl⟩⟩
   . cases h
 . cases h
theorem src_ok {F : Nat -> Prop} {φ : Places} {s1 : Store} {w : World} {x : AV} {v : Value} {src : List (List AV) × List Nat} {k : Nat} (hs : SR G F φ s1 w) (hv : VR φ (ownF F φ s1) w x v)
   (ha : ∀ b ∈ src.2, get s1 b = get s b) (h : Jca s x = some src) (hk : srcK x k = k) (hr : ∀ r ∈ src.1, r.length = k) :
   ∃ new : Array Value, (Builtin.lenOf v).run P w = .ok src.1.length w /\ (Builtin.firstCells k src.1.length v).run P w = .ok new w /\ Jau φ (ownF F φ s1) w k src.1 new 0 /\ new.size = src.1.length * k := by
 by_cases hx : ∃ b k n, x = .acc b k n
 . obtain ⟨b, k', n, rfl⟩ := hx
   have h' : Je5 (get s b) b k' n = some src := h
   obtain ⟨h2, ⟨ho, rfl, h1⟩ | ⟨ho, h0, hl, hone⟩⟩ := Jmp h'
   . obtain ⟨A, B⟩ := src
     simp only at h1 h2
     subst h1
     exact Jmq (s := s) (src := ([], [])) hs hv.acc_nilS (fun b hb => by cases hb) (fun _ _ _ e => by cases e) rfl rfl hr
   . obtain ⟨A, B⟩ := src
     simp only at h2 ho hl hone
     subst h2
     refine Jmq (x := .ref b k' 0 n none) hs (hv.acc_refS h0) ha (fun _ _ _ e => by cases e) ?_ hk hr
     show (match get s b with
       | some (.cells k2 rows) => if k2 = k' /\ 0 + n <= rows.length /\ (((rows.drop 0).take n).all fun r => r.all AV.oneCell) = true then some ((rows.drop 0).take n, [b]) else none
       | _ => none) = some (A, [b])
     rw [ho]
     have ht : (A.drop 0).take n = A := by rw [List.drop_zero, List.take_of_length_le (by omega)]
     simp only [ht]
     rw [if_pos ⟨trivial, by omega, hone⟩]
 . exact Jmq hs hv ha (fun b k n e => hx ⟨b, k, n, e⟩) h hk hr
theorem Jmr {s : Store} {x : AV} {src : List (List AV) × List Nat} (h : Jca s x = some src) : ∀ r ∈ src.1, ∀ c ∈ r, c.oneCell = true := by
 unfold Jca at h
 split at h
 . obtain ⟨_, ⟨_, _, h1⟩ | ⟨_, _, _, h1⟩⟩ := Jmp h
   . rw [h1]; intro r hr; cases hr
   . exact fun r hr c hc => List.all_eq_true.1 (List.all_eq_true.1 h1 r hr) c hc
 . cases h; intro r hr; cases hr
 . cases h
   intro r hr c hc
   obtain ⟨r', _, rfl⟩ := List.mem_map.1 hr
   obtain ⟨z, _, rfl⟩ := List.mem_map.1 hc
   rfl
 . cases h
   intro r hr c hc
   obtain ⟨b, _, rfl⟩ := List.mem_map.1 hr
   rw [List.mem_singleton.1 hc]; rfl
 . split at h
   . split at h
     . rename_i hin
       cases h
       intro r hr c hc
       exact List.all_eq_true.1 (List.all_eq_true.1 hin.2.2 r hr) c hc
     . cases h
   . cases h
 . cases h
theorem cells_one {φ own w} {k : Nat} {rows : List (List AV)} {new : Array Value} (hr : ∀ r ∈ rows, r.length = k) (h1 : ∀ r ∈ rows, ∀ c ∈ r, c.oneCell = true) (h : Jau φ own w k rows new 0) (hsz : new.size = rows.length * k) :
   ∀ v ∈ new.toList, v.oneCell' = true := by
 intro v hv
 obtain ⟨m, hm, rfl⟩ := List.getElem_of_mem hv
 have hm' : m < rows.length * k := by rw [<- hsz]; simpa using hm
 have hk : 0 < k := by
   rcases Nat.eq_zero_or_pos k with h0 | h0
   . rw [h0] at hm'; simp at hm'
   . exact h0
 have hi : m / k < rows.length := Nat.div_lt_of_lt_mul (by rw [Nat.mul_comm]; exact hm')
 have hj : m % k < rows[m / k].length := by rw [hr _ (List.getElem_mem hi)]; exact Nat.mod_lt _ hk
 obtain ⟨_, v, e1, e2⟩ := h (m / k) (m % k) rows[m / k] rows[m / k][m % k] (List.getElem?_eq_getElem hi) (List.getElem?_eq_getElem hj)
 rw [Nat.zero_add, show m / k * k + m % k = m from by rw [Nat.mul_comm]; exact Nat.div_add_mod m k] at e1
 have e3 : new.toList[m] = v := by
   have : new.toList[m]? = some v := by simpa using e1
   rw [List.getElem?_eq_getElem hm] at this
   exact Option.some.inj this
 rw [e3]
 exact (e2.one (h1 _ (List.getElem_mem hi) _ (List.getElem_mem hj))).2
theorem Jja {w w' : World} {t u e sLen sCap m : Nat} {ty : TypeId} {ye yu y : TyI} {base : Option Addr} {x : Value} {new : Array Value} (hy : tyOf P t = some y) (htd : y.td = .slice e) (hye : tyOf P e = some ye)
   (hu : tyOf P u = some yu) (hud : (∃ e', yu.td = .slice e') \/ yu.td = .str) (hx : (Builtin.lenOf x).run P w = .ok m w) (hf : (Builtin.firstCells ye.size m x).run P w = .ok new w) (hroom : sLen + m <= sCap)
   (hst : ∀ a, base = some a -> (storeCells (a.add (sLen * ye.size)) new.toList).run P w = .ok () w') (hno : base = none -> w' = w) :
   (Builtin.append_ #[t, u] ty #[.slice base sLen sCap, x]).run P w = .ok (.slice base (sLen + m) sCap) w' := by
 obtain ⟨_, d, z, hs⟩ := Jav hy
 rw [hs.td] at htd
 obtain rfl := Jbo htd
 obtain ⟨ie, de, ze, hse⟩ := Jav hye
 obtain ⟨iu, du, zu, hsu⟩ := Jav hu
 rw [hsu.td] at hud
 rcases hud with ⟨e', hud⟩ | hud
 . obtain rfl := Jbo hud
   have hf' : (Builtin.firstCells ie.size m x).run P w = .ok new w := by rw [<- hse.size]; exact hf
   cases base with
   | none =>
     obtain rfl := hno rfl
     simp [Builtin.append_, run_underlying hs.under, run_underlying hsu.under, sizeOf, typeInfo, hse.info, hx, hroom, hf']
   | some a =>
     have h := hst a rfl
     rw [hse.size] at h
     simp [Builtin.append_, run_underlying hs.under, run_underlying hsu.under, sizeOf, typeInfo, hse.info, hx, hroom, hf', h]
 . obtain rfl := Jgi hud
   have hf' : (Builtin.firstCells ie.size m x).run P w = .ok new w := by rw [<- hse.size]; exact hf
   cases base with
   | none =>
     obtain rfl := hno rfl
     simp [Builtin.append_, run_underlying hs.under, run_underlying hsu.under, sizeOf, typeInfo, hse.info, hx, hroom, hf']
   | some a =>
     have h := hst a rfl
     rw [hse.size] at h
     simp [Builtin.append_, run_underlying hs.under, run_underlying hsu.under, sizeOf, typeInfo, hse.info, hx, hroom, hf', h]
theorem Jjb {w : World} {t u e sLen sCap m : Nat} {ty : TypeId} {ye yu y : TyI} {base : Option Addr} {x : Value} {old new : Array Value} (hy : tyOf P t = some y) (htd : y.td = .slice e) (hye : tyOf P e = some ye)
   (hu : tyOf P u = some yu) (hud : (∃ e', yu.td = .slice e') \/ yu.td = .str) (hx : (Builtin.lenOf x).run P w = .ok m w) (hf : (Builtin.firstCells ye.size m x).run P w.drew = .ok new w.drew)
   (hfo : (Builtin.firstCells ye.size sLen (.slice base sLen sCap)).run P w.drew = .ok old w.drew) (hroom : sCap < sLen + m)
   (hb : (sLen + m) * ye.bytes <= 35184372088832) (h0 : 0 < ye.bytes) :
   ∃ (cap : Nat) (cells : Array Value), sLen + m <= cap /\ cells.size = (cap - (sLen + m)) * ye.zero.length /\
     (Builtin.append_ #[t, u] ty #[.slice base sLen sCap, x]).run P w = .ok (.slice (some ⟨w.heap.size, 0, none⟩) (sLen + m) cap) (w.drew.alloc (.cells (old ++ new ++ cells) e)) := by
 obtain ⟨_, d, z, hs⟩ := Jav hy
 rw [hs.td] at htd
 obtain rfl := Jbo htd
 obtain ⟨ie, de, ze, hse⟩ := Jav hye
 obtain ⟨iu, du, zu, hsu⟩ := Jav hu
 rw [hsu.td] at hud
 rcases hud with ⟨e', hud⟩ | hud
 . obtain rfl := Jbo hud
   rw [hse.bytes] at hb h0
   have hf' : (Builtin.firstCells ie.size m x).run P w.drew = .ok new w.drew := by rw [<- hse.size]; exact hf
   have hfo' : (Builtin.firstCells ie.size sLen (.slice base sLen sCap)).run P w.drew = .ok old w.drew := by rw [<- hse.size]; exact hfo
   have hn : ¬ (sLen + m <= sCap) := by omega
   have hfit := growslice_fits (bytes := ie.bytes) hroom (by omega)
   have h48' : ¬ (281474976710656 < Builtin.nextslicecap (sLen + m) sCap * ie.bytes) := by omega
   have hb0 : ie.bytes ≠ 0 := by omega
   refine ⟨grownCap w (sLen + m) sCap e, Builtin.zeroCells ze.cells (grownCap w (sLen + m) sCap e - (sLen + m)), grownCap_ge _ _ _ _, ?_, ?_⟩
   . rw [size_zeroCells, hse.zeros]
     simp
   . simp [Builtin.append_, run_underlying hs.under, run_underlying hsu.under, sizeOf, typeInfo, zeroValue, hse.info, hse.zero, hx, hn, h48', hb0, Question.forced, hf', hfo', newRow, grownCap]
 . obtain rfl := Jgi hud
   rw [hse.bytes] at hb h0
   have hf' : (Builtin.firstCells ie.size m x).run P w.drew = .ok new w.drew := by rw [<- hse.size]; exact hf
   have hfo' : (Builtin.firstCells ie.size sLen (.slice base sLen sCap)).run P w.drew = .ok old w.drew := by rw [<- hse.size]; exact hfo
   have hn : ¬ (sLen + m <= sCap) := by omega
   have hfit := growslice_fits (bytes := ie.bytes) hroom (by omega)
   have h48' : ¬ (281474976710656 < Builtin.nextslicecap (sLen + m) sCap * ie.bytes) := by omega
   have hb0 : ie.bytes ≠ 0 := by omega
   refine ⟨grownCap w (sLen + m) sCap e, Builtin.zeroCells ze.cells (grownCap w (sLen + m) sCap e - (sLen + m)), grownCap_ge _ _ _ _, ?_, ?_⟩
   . rw [size_zeroCells, hse.zeros]
     simp
   . simp [Builtin.append_, run_underlying hs.under, run_underlying hsu.under, sizeOf, typeInfo, zeroValue, hse.info, hse.zero, hx, hn, h48', hb0, Question.forced, hf', hfo', newRow, grownCap]
end
end Go.Am
namespace Go.Am
open Go
section
variable {P : Program} {G : Jac} {o : Oper} {ρ : Operand -> AV} {s : Store} {nx : Nat}
theorem Jau.append {φ own w} {k : Nat} {r1 r2 : List (List AV)} {a1 a2 a3 : Array Value} (h1 : Jau φ own w k r1 a1 0) (e1 : a1.size = r1.length * k) (h2 : Jau φ own w k r2 a2 0) (e2 : a2.size = r2.length * k) :
   Jau φ own w k (r1 ++ r2) (a1 ++ a2 ++ a3) 0 := by
 intro i j row x hr hx
 by_cases hi : i < r1.length
 . rw [List.getElem?_append_left hi] at hr
   obtain ⟨hj, v, h3, h4⟩ := h1 i j row x hr hx
   refine ⟨hj, v, ?_, h4⟩
   have := (Array.getElem?_eq_some_iff.1 h3).1
   rw [Array.append_assoc, Array.getElem?_append_left (by omega)]
   exact h3
 . rw [List.getElem?_append_right (by omega)] at hr
   obtain ⟨hj, v, h3, h4⟩ := h2 (i - r1.length) j row x hr hx
   refine ⟨hj, v, ?_, h4⟩
   have h5 := (Array.getElem?_eq_some_iff.1 h3).1
   have hmul : i * k = r1.length * k + (i - r1.length) * k := by rw [<- Nat.add_mul]; congr 1; omega
   rw [Array.append_assoc, Array.getElem?_append_right (by omega), Array.getElem?_append_left (by omega), <- h3]
   congr 1
   omega
theorem Jme {F : Nat -> Prop} {φ : Places} {s1 : Store} {w : World} {b k i n β δ cap : Nat} {rows : List (List AV)} (hs : SR G F φ s1 w) (hg : get s1 b = some (.cells k rows)) (hφ : φ b = some (β, δ))
   (hin : i + n <= rows.length) (hr : ∀ r ∈ rows, r.length = k) :
   ∃ old : Array Value, (Builtin.firstCells k n (.slice (some ⟨β, δ + i * k, none⟩) n cap)).run P w = .ok old w /\ Jau φ (ownF F φ s1) w k ((rows.drop i).take n) old 0 /\ old.size = n * k := by
 obtain ⟨β', δ', arr, T, e1, e2, e3⟩ := hs.blk b _ hg
 rw [hφ] at e1; cases e1
 have hlen : ((rows.drop i).take n).length = n := by simp; omega
 obtain ⟨new, h1, h2, h3⟩ := Jfw (P := P) (φ := φ) (own := ownF F φ s1) (w := w) (a := ⟨β, δ + i * k, none⟩) (k := k) (rows := (rows.drop i).take n)
   (fun r h => hr r (List.mem_of_mem_drop (List.mem_of_mem_take h))) (by
     intro p j row x h1 h2
     have hp : p < n := by
       have := (gsI.1 h1).1
       simp at this; omega
     rw [List.getElem?_take_of_lt hp, List.getElem?_drop] at h1
     obtain ⟨_, v, h3, h4⟩ := e3 (i + p) j row x h1 h2
     refine ⟨v, ?_, h4⟩
     rw [addr_add, Jet e2, <- h3, Nat.add_mul]
     congr 1
     omega)
 rw [hlen] at h1 h3
 exact ⟨new, by simpa [Builtin.firstCells] using h1, h2, h3⟩
theorem Jau.of_drew {φ own w k rows arr δ} (h : Jau φ own w k rows arr δ) : Jau φ own w.drew k rows arr δ := h.mono (fun _ _ h => h) Jge
theorem Jf4 {F : Nat -> Prop} {φ : Places} {s1 : Store} {w : World} {k n cap : Nat} {rows : List (List AV)} {cells : Array Value} {T : TypeId} (hs : SR G F φ s1 w) (hf : φ nx = none)
   (hc : Jau φ (ownF F φ s1) w k rows cells 0) (hn : n <= cap) (hcap : cap * k <= cells.size) :
   Post G F φ s1 w (.ref nx k 0 n none) [(nx, some (.cells k rows))] nx (nx + 1) (.slice (some ⟨w.heap.size, 0, none⟩) n cap) (w.drew.alloc (.cells cells T)) := by
 have hs' := hs.drew
 have hp := Jg8 (v := .ref nx k 0 n none) (v' := .slice (some ⟨w.heap.size, 0, none⟩) n cap) hs' hf (.cells cells T) (.cells k rows)
   ⟨w.heap.size, 0, cells, T, Jbp, heap_alloc_new, hc.of_drew.mono (Jc9 hf) (Je6 _ _)⟩
   (by
     have := VR.ref (φ := putP φ nx (w.heap.size, 0)) (own := ownF F (putP φ nx (w.heap.size, 0)) ((nx, some (.cells k rows)) :: s1)) (w := w.drew.alloc (.cells cells T)) nx k 0 n none w.heap.size 0 cap Jbp (by simp) hn
       ⟨cells, T, heap_alloc_new, by simpa using hcap⟩
     simpa using this)
 obtain ⟨φ', h1, h2, h3, h4, h5⟩ := hp
 exact ⟨φ', h1, h2, h3, h4, fun F' => Step.trans Jge (h5 F')⟩
theorem SR.moveTurn {F : Nat -> Prop} {φ : Places} {s1 : Store} {w : World} (h : SR G F φ s1 w) {b : Nat} {x0 x : ABlk} {β δ δ' : Nat} {arr arr0 : Array Value} {T : TypeId}
   (hg : get s1 b = some x0) (hφ : φ b = some (β, δ)) (hf : φ nx = none) (h0 : w.heap[β]? = some (Obj.cells arr0 T (0, 0))) (hsz : arr.size = arr0.size)
   (hx : φ.le (putP φ nx (β, δ')) -> Step (ownF F φ s1) (ownF F (putP φ nx (β, δ')) ((nx, some x) :: (b, none) :: s1)) w (Ja7 w β arr T) ->
     BR (putP φ nx (β, δ')) (ownF F (putP φ nx (β, δ')) ((nx, some x) :: (b, none) :: s1)) (Ja7 w β arr T) nx x) :
   SR G F (putP φ nx (β, δ')) ((nx, some x) :: (b, none) :: s1) (Ja7 w β arr T) /\ ∀ F' : Nat -> Prop, Step (ownF F' φ s1) (ownF F' (putP φ nx (β, δ')) ((nx, some x) :: (b, none) :: s1)) w (Ja7 w β arr T) := by
 have hne : b ≠ nx := by rintro rfl; rw [hf] at hφ; cases hφ
 have ho : ∀ F' : Nat -> Prop, ownF F' φ s1 β := fun F' => .inr ⟨b, x0, _, hg, hφ, rfl⟩
 have split : ∀ c y, get ((nx, some x) :: (b, none) :: s1) c = some y -> (c = nx /\ y = x) \/ (c ≠ nx /\ c ≠ b /\ get s1 c = some y) := by
   intro c y hc
   by_cases e : c = nx
   . subst e
     rw [Jev] at hc
     exact .inl ⟨rfl, (Option.some.inj hc).symm⟩
   . rw [Jbg (Ne.symm e)] at hc
     obtain ⟨h1, h2⟩ := Jfo hc
     exact .inr ⟨e, h1, h2⟩
 have stF : ∀ F' : Nat -> Prop, Step (ownF F' φ s1) (ownF F' (putP φ nx (β, δ')) ((nx, some x) :: (b, none) :: s1)) w (Ja7 w β arr T) := fun F' => Jsn (ho F') h0 hsz (by
   rintro c hc hn (hF | ⟨d, y, p, h1, h2, rfl⟩)
   . exact hn (.inl hF)
   . rcases split d y h1 with ⟨rfl, _⟩ | ⟨e1, e2, h3⟩
     . rw [Jbp] at h2; cases h2
       exact hn (ho F')
     . rw [Jb4 e1] at h2
       exact hn (.inr ⟨d, y, p, h3, h2, rfl⟩))
 have st := stF F
 refine ⟨h.change (Jc9 hf) st ?_ ?_ ?_, stF⟩
 . intro c y hc
   rcases split c y hc with ⟨rfl, rfl⟩ | ⟨e1, e2, h3⟩
   . exact .inr (hx (Jc9 hf) st)
   . refine .inl ⟨h3, fun p hp => Jjk fun hp1 => e2 ?_⟩
     exact h.inj c b y x0 p (β, δ) h3 hg hp hφ hp1
 . intro c c' y y' p p' h1 h2 h3 h4 h5
   rcases split c y h1 with ⟨rfl, rfl⟩ | ⟨e1, e2, k1⟩
   . rcases split c' y' h2 with ⟨rfl, rfl⟩ | ⟨e1', e2', k2⟩
     . rfl
     . rw [Jbp] at h3; cases h3
       rw [Jb4 e1'] at h4
       exact absurd (h.inj b c' x0 y' (β, δ) p' hg k2 hφ h4 h5).symm e2'
   . rcases split c' y' h2 with ⟨rfl, rfl⟩ | ⟨e1', e2', k2⟩
     . rw [Jbp] at h4; cases h4
       rw [Jb4 e1] at h3
       exact absurd (h.inj c b y x0 p (β, δ) k1 hg h3 hφ h5) e2
     . rw [Jb4 e1] at h3
       rw [Jb4 e1'] at h4
       exact h.inj c c' y y' p p' k1 k2 h3 h4 h5
 . intro c y p h1 h2
   rcases split c y h1 with ⟨rfl, rfl⟩ | ⟨e1, e2, k1⟩
   . rw [Jbp] at h2; cases h2
     exact h.disj b x0 (β, δ) hg hφ
   . rw [Jb4 e1] at h2
     exact h.disj c y p k1 h2
theorem SR.lay {F : Nat -> Prop} {φ : Places} {s1 : Store} {w : World} {b k i β δ : Nat} {rows new : List (List AV)} {arr cells : Array Value} {T : TypeId} (hs : SR G F φ s1 w) (hg : get s1 b = some (.cells k rows)) (hφ : φ b = some (β, δ))
   (h0 : w.heap[β]? = some (Obj.cells arr T (0, 0))) (hc : Jau φ (ownF F φ s1) w k new cells 0) (hsz : cells.size = new.length * k) (hi : i + new.length <= rows.length) (hoff : δ + i * k + cells.toList.length <= arr.size) :
   SR G F φ ((b, some (.cells k (Jc7 rows i new))) :: s1) (Ja7 w β (splice arr (δ + i * k) cells.toList) T) /\
     ∀ F' : Nat -> Prop, Step (ownF F' φ s1) (ownF F' φ ((b, some (.cells k (Jc7 rows i new))) :: s1)) w (Ja7 w β (splice arr (δ + i * k) cells.toList) T) := by
 obtain ⟨β', δ', arr', T', e1, e2, e3⟩ := hs.blk b _ hg
 rw [hφ] at e1; cases e1
 rw [h0] at e2; cases e2
 refine hs.turn (x := .cells k (Jc7 rows i new)) hg hφ h0 (Jgc hoff) fun st => ?_
 refine ⟨β, δ, _, T, hφ, Je8 (Array.getElem?_eq_some_iff.1 h0).1, ?_⟩
 intro p j row z hp hz
 have hlen : cells.toList.length = new.length * k := by simpa using hsz
 unfold Jc7 at hp
 have old : ∀ row', rows[p]? = some row' -> row' = row -> (p < i \/ i + new.length <= p) -> j < k /\ ∃ v, (splice arr (δ + i * k) cells.toList)[δ + p * k + j]? = some v /\ VR φ (ownF F φ ((b, some (.cells k (Jc7 rows i new))) :: s1)) (Ja7 w β (splice arr (δ + i * k) cells.toList) T) z v := by
   rintro row' h1 rfl h2
   obtain ⟨hj, v, q1, q2⟩ := e3 p j row' z h1 hz
   refine ⟨hj, v, ?_, q2.mono (fun _ _ h => h) st⟩
   rw [Jgb hoff, if_neg, q1]
   rw [hlen]
   rintro ⟨h3, h4⟩
   rcases h2 with h2 | h2
   . have : p * k + k <= i * k := by rw [<- Nat.succ_mul]; exact Nat.mul_le_mul_right _ h2
     omega
   . have : (i + new.length) * k <= p * k := Nat.mul_le_mul_right _ h2
     rw [Nat.add_mul] at this
     omega
 by_cases h1 : p < i
 . rw [List.getElem?_append_left (by simp; omega), List.getElem?_take_of_lt h1] at hp
   exact old row hp rfl (.inl h1)
 . rw [List.getElem?_append_right (by simp; omega)] at hp
   have hti : (rows.take i).length = i := by simp; omega
   rw [hti] at hp
   by_cases h2 : p - i < new.length
   . rw [List.getElem?_append_left h2] at hp
     obtain ⟨hj, v, q1, q2⟩ := hc (p - i) j row z hp hz
     refine ⟨hj, v, ?_, q2.mono (fun _ _ h => h) st⟩
     have hpk : p * k = i * k + (p - i) * k := by rw [<- Nat.add_mul]; congr 1; omega
     have hlt := (Array.getElem?_eq_some_iff.1 q1).1
     rw [Jgb hoff, if_pos (by simp; omega)]
     have q1' : cells.toList[0 + (p - i) * k + j]? = some v := by simpa using q1
     rw [<- q1']
     congr 1
     omega
   . rw [List.getElem?_append_right (by omega), List.getElem?_drop] at hp
     exact old row (by rw [<- hp]; congr 1; omega) rfl (.inr (by omega))
end
end Go.Am
namespace Go.Am
open Go
section
variable {P : Program} {G : Jac} {o : Oper} {ρ : Operand -> AV} {s : Store} {nx : Nat}
theorem VR.nils_inv {φ own w v} (h : VR φ own w .nils v) : ∃ a, v = .slice a 0 0 := by cases h; exact ⟨_, rfl⟩
theorem VRp.full_inv {own : Nat -> Prop} {w : World} {k rows v} (h : VRp own w (.full k rows) v) :
   ∃ β o, v = .slice (some ⟨β, o, none⟩) rows.length rows.length /\ β < w.heap.size /\ ¬ own β /\ Jbq own w k rows β o := by
 cases h with
 | full k rows β o n cell hn hβ hown hc hv =>
   subst hn
   exact ⟨β, o, rfl, hβ, hown, fun i j row x hr hx => ⟨_, hc i j row x hr hx, hv i j row x hr hx⟩⟩
theorem Jq7 {c : Call} {x z : Operand} {t u e : Nat} {y ye yu : TyI} {K : KT} (ho : o.op = .call c) (hc : c.callee = .builtin .append) (ha : c.args.toList = [x, z]) (hat : c.argTypes.toList = [t, u])
   (hy : tyOf P t = some y) (htd : y.td = .slice e) (hye : tyOf P e = some ye) (hu : tyOf P u = some yu) (hud : (∃ e', yu.td = .slice e') \/ yu.td = .str) (h : Jhk ye (ρ x) (ρ z) s nx K) :
   ∃ v rd up nx', K v rd up nx' /\ OpOK P G o ρ s nx v rd up nx' := by
 have harg : c.args = #[x, z] := by apply Array.ext'; simpa using ha
 have hargT : c.argTypes = #[t, u] := by apply Array.ext'; simpa using hat
 have hmem : ∀ q, (q = x \/ q = z) -> q ∈ o.op.operands.toList := by
   intro q hq
   rw [ho]
   simp only [Op.operands, Call.operands, hc, harg]
   simpa using hq
 have hexec : ∀ ρ' : Operand -> Value, execOp ρ' o = (do pure (.value (<- Builtin.append_ #[t, u] o.type #[ρ' x, ρ' z])) : Sem Next) := by
   intro ρ'
   simp [execOp, ho, resolve, hc, harg, hargT, invoke, builtin]
 unfold Jhk at h
 simp only [Jaz, Jcj, vdec] at h
 obtain ⟨src, hsrc, hk, hr, h0, hby, hzl, h⟩ := h
 have hone := Jmr hsrc
 -- what the appended elements give
 have hnew : ∀ (F : Nat -> Prop) (φ : Places) (s1 : Store) (w : World) (ρ' : Operand -> Value), (∀ b ∈ src.2, get s1 b = get s b) -> SR G F φ s1 w ->
     (∀ q ∈ o.op.operands.toList, VR φ (ownF F φ s1) w (ρ q) (ρ' q)) ->
     ∃ new : Array Value, (Builtin.lenOf (ρ' z)).run P w = .ok src.1.length w /\ (Builtin.firstCells ye.size src.1.length (ρ' z)).run P w = .ok new w /\
       (Builtin.firstCells ye.size src.1.length (ρ' z)).run P w.drew = .ok new w.drew /\ Jau φ (ownF F φ s1) w ye.size src.1 new 0 /\ new.size = src.1.length * ye.size := by
   intro F φ s1 w ρ' hag hs hρ
   have hz := hρ z (hmem z (.inr rfl))
   obtain ⟨new, h1, h2, h3, h4⟩ := src_ok (P := P) (s := s) hs hz hag hsrc hk hr
   obtain ⟨new', h1', h2', h3', h4'⟩ := src_ok (P := P) (s := s) hs.drew (hz.mono (fun _ _ h => h) Jge) hag hsrc hk hr
   have : new' = new := by
     -- both are read off the same cells
     apply Array.ext_getElem?
     intro m
     have e1 := h2
     have e2 := h2'
     clear h1 h1' h3 h3'
     have key : ∀ (v : Value) (n : Nat) (a b : Array Value), (Builtin.firstCells ye.size n v).run P w = .ok a w -> (Builtin.firstCells ye.size n v).run P w.drew = .ok b w.drew -> a = b := by
       intro v n a b ha hb
       cases v with
       | slice ad l cp =>
         cases ad with
         | none =>
           simp [Builtin.firstCells] at ha hb
           first | exact ha.symm.trans hb | exact ha.trans hb.symm
         | some ad =>
           simp only [Builtin.firstCells] at ha hb
           have gen : ∀ (m i : Nat) (acc : Array Value) (a b : Array Value), (loadCellsFrom ad i m acc).run P w = .ok a w -> (loadCellsFrom ad i m acc).run P w.drew = .ok b w.drew -> a = b := by
             intro m
             induction m with
             | zero =>
               intro i acc a b ha hb
               simp [loadCellsFrom] at ha hb
               first | exact ha.symm.trans hb | exact ha.trans hb.symm
             | succ m ih =>
               intro i acc a b ha hb
               simp only [loadCellsFrom, Sem.run_bind, run_load] at ha hb
               have hcd : w.drew.cell? (ad.add i) = w.cell? (ad.add i) := rfl
               rw [hcd] at hb
               cases hcell : w.cell? (ad.add i) with
               | some v =>
                 rw [hcell] at ha hb
                 exact ih _ _ _ _ ha hb
               | none =>
                 rw [hcell] at ha hb
                 have hfd : w.drew.farLoad P (ad.add i) (Mode.plain == Mode.atomic) = w.farLoad P (ad.add i) (Mode.plain == Mode.atomic) := rfl
                 simp only at ha hb
                 rw [hfd] at hb
                 cases hfar : w.farLoad P (ad.add i) (Mode.plain == Mode.atomic) with
                 | ok r =>
                   rw [hfar] at ha hb
                   exact ih _ _ _ _ ha hb
                 | error er =>
                   rw [hfar] at ha
                   cases ha
           exact gen _ _ _ _ _ ha hb
       | string st =>
         simp [Builtin.firstCells] at ha hb
         first | exact ha.symm.trans hb | exact ha.trans hb.symm
       | _ => simp [Builtin.firstCells] at ha
     rw [key _ _ _ _ e1 e2]
   subst this
   exact ⟨new', h1, h2, h2', h3, h4⟩
 split at h
 . -- nil
   rename_i hx
   obtain ⟨hb, hnil, hne⟩ := h
   by_cases hem : src.1 = []
   . refine ⟨_, _, _, _, hnil hem, OpOK.same fun F φ s1 w ρ' hag hs hρ => ?_⟩
     have hv := hρ x (hmem x (.inl rfl))
     rw [hx] at hv
     obtain ⟨new, h1, h2, _, _, h4⟩ := hnew F φ s1 w ρ' hag hs hρ
     obtain ⟨a0, hv0⟩ := hv.nils_inv
     refine ⟨.slice a0 0 0, ?_, .nils _⟩
     rw [hexec, hv0]
     have hnil : new = #[] := Array.eq_empty_of_size_eq_zero (by rw [h4, hem]; simp)
     have := Jja (w' := w) (ty := o.type) hy htd hye hu hud h1 h2 (sLen := 0) (sCap := 0) (base := a0) (by rw [hem]; exact Nat.le_refl _) (fun a _ => by rw [hnil]; rfl) (fun _ => rfl)
     rw [hem] at this
     simp only [Sem.run_bind, this, Result.andThen_ok]
     rfl
   . refine ⟨_, _, _, _, hne hem, Nat.le_succ _, fun F φ s1 w ρ' hag hs hf hρ => ?_⟩
     have hfx := hf nx (Nat.le_refl _) (Nat.lt_succ_self _)
     have hv := hρ x (hmem x (.inl rfl))
     rw [hx] at hv
     obtain ⟨new, h1, _, h2, h3, h4⟩ := hnew F φ s1 w ρ' hag hs hρ
     have hpos : 0 < src.1.length := List.length_pos_iff.2 hem
     obtain ⟨a0, hv0⟩ := hv.nils_inv
     obtain ⟨cap, cells, e1, e2, e3⟩ := Jjb (ty := o.type) hy htd hye hu hud h1 h2 (sLen := 0) (sCap := 0) (base := a0) (old := #[]) (by cases a0 <;> simp [Builtin.firstCells, loadCells, loadCellsFrom]) (by omega) (by rw [Nat.zero_add]; exact hb) hby
     rw [hexec, hv0]
     simp only [Sem.run_bind, e3, Result.andThen_ok]
     rw [Nat.zero_add] at e1 e2 ⊢
     have hcells : Jau φ (ownF F φ s1) w ye.size src.1 (#[] ++ new ++ cells) 0 := by
       have := Jau.append (a3 := cells) (φ := φ) (own := ownF F φ s1) (w := w) (k := ye.size) (r1 := []) (a1 := #[]) (fun i j row x h => by simp at h) (by simp) h3 h4
       simpa using this
     refine Jf4 hs hfx hcells e1 ?_
     rw [Array.empty_append, Array.size_append, h4, e2, hzl, <- Nat.add_mul]
     exact Nat.le_of_eq (by congr 1; omega)
 . -- owned, the capacity not known
   rename_i b k i n hx
   obtain ⟨rfl, hbs, hb, rows, hg, hin, hrl, hK⟩ := h
   refine ⟨_, _, _, _, hK, Nat.le_succ _, fun F φ s1 w ρ' hag hs hf hρ => ?_⟩
   have hfx := hf nx (Nat.le_refl _) (Nat.lt_succ_self _)
   have hv := hρ x (hmem x (.inl rfl))
   rw [hx] at hv
   have hg1 : get s1 b = some (.cells ye.size rows) := (hag b (by simp)).trans hg
   obtain ⟨new, h1, h2, h2d, h3, h4⟩ := hnew F φ s1 w ρ' (fun c hc => hag c (by simp [hc])) hs hρ
   obtain ⟨β, δ, cap, hφ, _, hn, room, hv⟩ := hv.ref_inv
   obtain ⟨β', δ', arr, T, e1, e2, e3⟩ := hs.blk b _ hg1
   rw [hφ] at e1; cases e1
   obtain ⟨arr2, T2, r1, r2⟩ := room
   rw [e2] at r1; cases r1
   rw [hexec, hv]
   by_cases hroom : n + src.1.length <= cap
   . -- in place
     have hoff : δ + i * ye.size + n * ye.size + new.toList.length <= arr.size := by
       have : (i + (n + src.1.length)) * ye.size <= (i + cap) * ye.size := Nat.mul_le_mul_right _ (by omega)
       have h5 : new.toList.length = src.1.length * ye.size := by simpa using h4
       rw [h5]
       have : (i + (n + src.1.length)) * ye.size = i * ye.size + n * ye.size + src.1.length * ye.size := by rw [Nat.add_mul, Nat.add_mul]; omega
       omega
     have hst := Jhe (P := P) e2 new.toList hoff (cells_one hr hone h3 h4)
     have happ := Jja (w' := Ja7 w β (splice arr (δ + i * ye.size + n * ye.size) new.toList) T) (ty := o.type) hy htd hye hu hud h1 h2 (sLen := n) (sCap := cap) (base := some ⟨β, δ + i * ye.size, none⟩) hroom
       (fun a ha => by cases ha; rw [addr_add]; exact hst) (fun h => by cases h)
     simp only [Sem.run_bind, happ, Result.andThen_ok]
     have hm := hs.moveTurn (nx := nx) (x := .cells ye.size ((rows.drop i).take n ++ src.1)) (δ' := δ + i * ye.size) hg1 hφ hfx e2 (Jgc hoff) (fun hle st => by
       refine ⟨β, δ + i * ye.size, _, T, Jbp, Je8 (Array.getElem?_eq_some_iff.1 e2).1, ?_⟩
       intro p j row z hp hz
       by_cases hpn : p < n
       . rw [List.getElem?_append_left (by simp; omega), List.getElem?_take_of_lt hpn, List.getElem?_drop] at hp
         obtain ⟨hj, v, q1, q2⟩ := e3 (i + p) j row z hp hz
         refine ⟨hj, v, ?_, q2.mono hle st⟩
         have hpk : p * ye.size + ye.size <= n * ye.size := by rw [<- Nat.succ_mul]; exact Nat.mul_le_mul_right _ hpn
         rw [Jgb hoff, if_neg (by omega), <- q1, Nat.add_mul]
         congr 1
         omega
       . rw [List.getElem?_append_right (by simp; omega)] at hp
         have hsub : p - ((rows.drop i).take n).length = p - n := by simp; omega
         rw [hsub] at hp
         obtain ⟨hj, v, q1, q2⟩ := h3 (p - n) j row z hp hz
         refine ⟨hj, v, ?_, q2.mono hle st⟩
         have hpk : p * ye.size = n * ye.size + (p - n) * ye.size := by rw [<- Nat.add_mul]; congr 1; omega
         have hlt := (Array.getElem?_eq_some_iff.1 q1).1
         rw [Jgb hoff, if_pos (by simp; omega)]
         have q1' : new.toList[0 + (p - n) * ye.size + j]? = some v := by simpa using q1
         rw [<- q1']
         congr 1
         omega)
     refine ⟨putP φ nx (β, δ + i * ye.size), Jc9 hfx, fun c hc => Jb4 (by omega), hm.1, ?_, hm.2⟩
     have := VR.ref (φ := putP φ nx (β, δ + i * ye.size)) (own := ownF F (putP φ nx (β, δ + i * ye.size)) ((nx, some (.cells ye.size ((rows.drop i).take n ++ src.1))) :: (b, none) :: s1)) (w := Ja7 w β (splice arr (δ + i * ye.size + n * ye.size) new.toList) T)
       nx ye.size 0 (n + src.1.length) none β (δ + i * ye.size) cap Jbp (by simp) hroom ⟨_, T, Je8 (Array.getElem?_eq_some_iff.1 e2).1, by rw [Jgc hoff]; rw [Nat.add_mul] at r2; simp; omega⟩
     simpa using this
   . -- a new row
     obtain ⟨old, o1, o2, o3⟩ := Jme (P := P) (cap := cap) hs.drew hg1 hφ (i := i) (n := n) (by omega) hrl
     obtain ⟨cap', cells, c1, c2, c3⟩ := Jjb (ty := o.type) hy htd hye hu hud h1 h2d o1 (by omega) hb hby
     simp only [Sem.run_bind, c3, Result.andThen_ok]
     have hd := hs.drop b
     have hcells : Jau φ (ownF F φ s1) w.drew ye.size ((rows.drop i).take n ++ src.1) (old ++ new ++ cells) 0 :=
       Jau.append o2 (by rw [o3]; congr 1; simp; omega) h3.of_drew h4
     have hcells' : Jau φ (ownF F φ ((b, none) :: s1)) w ye.size ((rows.drop i).take n ++ src.1) (old ++ new ++ cells) 0 := by
       have st : Step (ownF F φ s1) (ownF F φ ((b, none) :: s1)) w.drew w := ⟨fun _ _ h => ⟨rfl, fun h' => h (Ji1 h')⟩, Nat.le_refl _, fun _ arr _ h => ⟨arr, h, rfl⟩, rfl, rfl, rfl⟩
       exact hcells.mono (fun _ _ h => h) st
     have hp := Jf4 (T := e) hd hfx hcells' c1 (by
       rw [Array.size_append, Array.size_append, o3, h4, c2, hzl, <- Nat.add_mul, <- Nat.add_mul]
       exact Nat.le_of_eq (by congr 1; omega))
     obtain ⟨φ', p1, p2, p3, p4, p5⟩ := hp
     exact ⟨φ', p1, p2, p3, p4, fun F' => Step.trans Jsl (p5 F')⟩
 . -- owned, the capacity known
   rename_i b k i n c hx
   obtain ⟨rfl, hb, rows, hg, hin, hrl, hK1, hK2⟩ := h
   by_cases hlt : c < n + src.1.length
   . refine ⟨_, _, _, _, hK1 hlt, Nat.le_succ _, fun F φ s1 w ρ' hag hs hf hρ => ?_⟩
     have hfx := hf nx (Nat.le_refl _) (Nat.lt_succ_self _)
     have hv := hρ x (hmem x (.inl rfl))
     rw [hx] at hv
     have hg1 : get s1 b = some (.cells ye.size rows) := (hag b (by simp)).trans hg
     obtain ⟨new, h1, h2, h2d, h3, h4⟩ := hnew F φ s1 w ρ' (fun c hc => hag c (by simp [hc])) hs hρ
     obtain ⟨β, δ, cap, hφ, hcc, hn, room, hv⟩ := hv.ref_inv
     have hcap := hcc c rfl
     rw [hexec, hv]
     obtain ⟨old, o1, o2, o3⟩ := Jme (P := P) (cap := cap) hs.drew hg1 hφ hin hrl
     obtain ⟨cap', cells, c1, c2, c3⟩ := Jjb (ty := o.type) hy htd hye hu hud h1 h2d o1 (by omega) hb hby
     simp only [Sem.run_bind, c3, Result.andThen_ok]
     have hcells : Jau φ (ownF F φ s1) w ye.size ((rows.drop i).take n ++ src.1) (old ++ new ++ cells) 0 := by
       have st : Step (ownF F φ s1) (ownF F φ s1) w.drew w := ⟨fun _ _ h => ⟨rfl, h⟩, Nat.le_refl _, fun _ arr _ h => ⟨arr, h, rfl⟩, rfl, rfl, rfl⟩
       exact (Jau.append o2 (by rw [o3]; congr 1; simp; omega) h3.of_drew h4).mono (fun _ _ h => h) st
     exact Jf4 (T := e) hs hfx hcells c1 (by
       rw [Array.size_append, Array.size_append, o3, h4, c2, hzl, <- Nat.add_mul, <- Nat.add_mul]
       exact Nat.le_of_eq (by congr 1; omega))
   . by_cases hem : src.1 = []
     case neg =>
       obtain ⟨hroom, hK3⟩ := (hK2 hlt).2 hem
       refine ⟨_, _, _, _, hK3, Nat.le_refl _, fun F φ s1 w ρ' hag hs hf hρ => ?_⟩
       have hv := hρ x (hmem x (.inl rfl))
       rw [hx] at hv
       have hg1 : get s1 b = some (.cells ye.size rows) := (hag b (by simp)).trans hg
       obtain ⟨new, h1, h2, h2d, h3, h4⟩ := hnew F φ s1 w ρ' (fun c hc => hag c (by simp [hc])) hs hρ
       obtain ⟨β, δ, cap, hφ, hcc, hn, room, hvv⟩ := hv.ref_inv
       obtain rfl := hcc c rfl
       obtain ⟨β', δ', arr, T, e1, e2, e3⟩ := hs.blk b _ hg1
       rw [hφ] at e1; cases e1
       obtain ⟨arr2, T2, r1, r2⟩ := room
       rw [e2] at r1; cases r1
       rw [hexec, hvv]
       have hoff : δ + (i + n) * ye.size + new.toList.length <= arr.size := by
         have : (i + (n + src.1.length)) * ye.size <= (i + cap) * ye.size := Nat.mul_le_mul_right _ (by omega)
         have h5 : new.toList.length = src.1.length * ye.size := by simpa using h4
         rw [h5]
         have : (i + (n + src.1.length)) * ye.size = (i + n) * ye.size + src.1.length * ye.size := by rw [<- Nat.add_mul, Nat.add_assoc]
         omega
       have hst := Jhe (P := P) e2 new.toList hoff (cells_one hr hone h3 h4)
       have happ := Jja (w' := Ja7 w β (splice arr (δ + (i + n) * ye.size) new.toList) T) (ty := o.type) hy htd hye hu hud h1 h2 (sLen := n) (sCap := cap) (base := some ⟨β, δ + i * ye.size, none⟩) (by omega)
         (fun a ha => by cases ha; rw [addr_add, show δ + i * ye.size + n * ye.size = δ + (i + n) * ye.size by rw [Nat.add_mul]; omega]; exact hst) (fun h => by cases h)
       simp only [Sem.run_bind, happ, Result.andThen_ok]
       obtain ⟨m1, m2⟩ := hs.lay hg1 hφ e2 h3 h4 hroom hoff
       refine ⟨φ, fun _ _ h => h, fun _ _ => rfl, m1, ?_, m2⟩
       exact .ref b ye.size i (n + src.1.length) _ β δ cap hφ (fun c' hc' => Option.some.inj hc') (by omega) ⟨_, T, Je8 (Array.getElem?_eq_some_iff.1 e2).1, by rw [Jgc hoff]; exact r2⟩
     have hK2 := (hK2 hlt).1 hem
     refine ⟨_, _, _, _, hK2, OpOK.same fun F φ s1 w ρ' hag hs hρ => ?_⟩
     have hv0 := hρ x (hmem x (.inl rfl))
     rw [hx] at hv0
     obtain ⟨new, h1, h2, _, _, h4⟩ := hnew F φ s1 w ρ' (fun c hc => hag c (by simp [hc])) hs hρ
     obtain ⟨β, δ, cap, hφ, hcc, hn, room, hv⟩ := hv0.ref_inv
     have hnil : new = #[] := Array.eq_empty_of_size_eq_zero (by rw [h4, hem]; simp)
     have happ := Jja (w' := w) (ty := o.type) hy htd hye hu hud h1 h2 (sLen := n) (sCap := cap) (base := some ⟨β, δ + i * ye.size, none⟩) (by rw [hem]; simpa using hn)
       (fun a _ => by rw [hnil]; rfl) (fun h => by cases h)
     refine ⟨ρ' x, ?_, hv0⟩
     rw [hexec, hv]
     simp only [Sem.run_bind, happ, Result.andThen_ok]
     rw [hem]
     rfl
 . -- pure, the capacity full
   rename_i k rows hx
   obtain ⟨rfl, hem, hrl, hb, hK⟩ := h
   refine ⟨_, _, _, _, hK, Nat.le_succ _, fun F φ s1 w ρ' hag hs hf hρ => ?_⟩
   have hfx := hf nx (Nat.le_refl _) (Nat.lt_succ_self _)
   have hv := hρ x (hmem x (.inl rfl))
   rw [hx] at hv
   obtain ⟨new, h1, _, h2d, h3, h4⟩ := hnew F φ s1 w ρ' hag hs hρ
   obtain ⟨β, δ, hv, hβ, hown, hrows⟩ := hv.p_inv.full_inv
   have hpos : 0 < src.1.length := List.length_pos_iff.2 hem
   have hrl2 : ∀ r ∈ rows.map (·.map AV.p), r.length = ye.size := fun r hr => by
     obtain ⟨q, hq, rfl⟩ := List.mem_map.1 hr
     rw [List.length_map]; exact hrl q hq
   obtain ⟨old, o1, o2, o3⟩ := Jfw (P := P) (φ := φ) (own := ownF F φ s1) (w := w.drew) (a := ⟨β, δ, none⟩) (k := ye.size) (rows := rows.map (·.map AV.p)) hrl2 (by
     intro i j row x h1 h2
     simp only [List.getElem?_map, Option.map_eq_some_iff] at h1
     obtain ⟨r, h1, rfl⟩ := h1
     simp only [List.getElem?_map, Option.map_eq_some_iff] at h2
     obtain ⟨z, h2, rfl⟩ := h2
     obtain ⟨v, h3, h4⟩ := hrows i j r z h1 h2
     refine ⟨v, ?_, (VR.p (φ := φ) _ _ h4).mono (fun _ _ h => h) Jge⟩
     rw [addr_add, <- Nat.add_assoc]; exact h3)
   rw [List.length_map] at o1 o3
   obtain ⟨cap', cells, c1, c2, c3⟩ := Jjb (ty := o.type) hy htd hye hu hud h1 h2d (sLen := rows.length) (sCap := rows.length) (base := some ⟨β, δ, none⟩) (old := old) (by simpa [Builtin.firstCells] using o1) (by omega) hb hby
   rw [hexec, hv]
   simp only [Sem.run_bind, c3, Result.andThen_ok]
   have hcells : Jau φ (ownF F φ s1) w ye.size (rows.map (·.map AV.p) ++ src.1) (old ++ new ++ cells) 0 := by
     have st : Step (ownF F φ s1) (ownF F φ s1) w.drew w := ⟨fun _ _ h => ⟨rfl, h⟩, Nat.le_refl _, fun _ arr _ h => ⟨arr, h, rfl⟩, rfl, rfl, rfl⟩
     exact (Jau.append o2 (by rw [o3, List.length_map]) h3.of_drew h4).mono (fun _ _ h => h) st
   exact Jf4 (T := e) hs hfx hcells c1 (by
     rw [Array.size_append, Array.size_append, o3, h4, c2, hzl, <- Nat.add_mul, <- Nat.add_mul]
     exact Nat.le_of_eq (by congr 1; omega))
 . exact h.elim
end
end Go.Am
namespace Go.Am
open Go
section
variable {P : Program} {G : Jac} {o : Oper} {ρ : Operand -> AV} {s : Store} {nx : Nat}
theorem Jl0 {F : Nat -> Prop} {φ : Places} {s s' : Store} (h : ∀ b, get s b = get s' b) : ownF F φ s = ownF F φ s' := by
 funext β
 simp only [ownF, ownS, h]
theorem SR.congr {G F φ s s' w} (h : ∀ b, get s b = get s' b) (hs : SR G F φ s w) : SR G F φ s' w := by
 have e := Jl0 (F := F) (φ := φ) h
 change (fun β => F β \/ ownS φ s β) = fun β => F β \/ ownS φ s' β at e
 refine ⟨?_, ?_, ?_, hs.fsize, ?_⟩
 . rw [<- e]; intro b x hb; exact hs.blk b x ((h b).trans hb)
 . intro b b' x x' p p' h1 h2; exact hs.inj b b' x x' p p' ((h b).trans h1) ((h b').trans h2)
 . intro b x p h1; exact hs.disj b x p ((h b).trans h1)
 . intro g k rows hg
   have := hs.glob g k rows hg
   rw [<- e]
   exact ⟨this.1, fun h2 => this.2.1 ((congrFun e g).symm ▸ h2), this.2.2⟩
theorem Jbe.mono' {R R' : Value -> World -> Prop} {r : Result Next} (h : Jbe P R r) (hm : ∀ v w, R v w -> R' v w) : Jbe P R' r := by
 cases r with
 | ok n w' =>
   cases n <;> simp only [Jbe] at h ⊢
   case value => exact hm _ _ h
   case skip => exact hm _ _ h
   case enter => exact h.mono fun e w'' ⟨v, e1, e2⟩ => ⟨v, e1, hm _ _ e2⟩
   case round => exact h.mono fun e w'' ⟨v, e1, e2⟩ => ⟨v, e1, hm _ _ e2⟩
 | halt e w' => simp only [Jbe] at h
theorem Jna {o : Option ABlk} {k : Nat} {f : List (List AV) -> Prop} : Jeo o k f ↔ ∃ rows, o = accB k rows /\ f rows := by
 unfold Jeo accB
 constructor
 . intro h
   split at h
   . obtain ⟨rfl, h1, h2⟩ := h
     rename_i rows
     exact ⟨rows, by rw [if_neg h1], h2⟩
   . exact ⟨[], by simp, h⟩
   . exact h.elim
 . rintro ⟨rows, rfl, h⟩
   by_cases e : rows = []
   . subst e; simpa using h
   . rw [if_neg e]; exact ⟨rfl, e, h⟩
theorem VR.acc_of {φ own w b k n v} (h0 : 0 < n) (h : VR φ own w (.ref b k 0 n none) v) : VR φ own w (.acc b k n) v := by
 cases h with
 | ref b k i n c β δ cap hφ hc hn room =>
   rw [Nat.zero_mul, Nat.add_zero]
   exact .acc b k n β δ cap hφ h0 hn (by simpa using room)
theorem VR.acc_ref {φ own w b k n v} (h0 : 0 < n) (h : VR φ own w (.acc b k n) v) : VR φ own w (.ref b k 0 n none) v := by
 obtain ⟨β, δ, cap, hφ, ⟨hn, room⟩, rfl⟩ := h.acc_inv h0
 have := VR.ref (own := own) (w := w) b k 0 n none β δ cap hφ (by simp) hn (by simpa using room)
 simpa using this
theorem VR.acc_nil {φ own w b k v} (h : VR φ own w (.acc b k 0) v) : VR φ own w .nils v := by
 cases h with
 | acc0 => exact .nils _
 | acc b k n β δ cap hφ h0 => omega
theorem SR.unplaced {F φ s w b} (hs : SR G F φ s w) (h : φ b = none) : get s b = none := by
 cases hg : get s b with
 | none => rfl
 | some x =>
   obtain ⟨p, h1, _⟩ := (hs.blk b x hg).place
   rw [h] at h1; cases h1
theorem post_congr {F φ s1 w v v1 up up1 nx nx1 nx' v' w'} (h : Post G F φ s1 w v up nx nx1 v' w') (hg : ∀ b, get (up ++ s1) b = get (up1 ++ s1) b) (hn : nx1 <= nx')
   (hv : ∀ φ' own, VR φ' own w' v v' -> VR φ' own w' v1 v') : Post G F φ s1 w v1 up1 nx nx' v' w' := by
 obtain ⟨φ', h1, h2, h3, h4, h5⟩ := h
 have e : ∀ F' : Nat -> Prop, ownF F' φ' (up1 ++ s1) = ownF F' φ' (up ++ s1) := fun F' => Jl0 fun b => (hg b).symm
 refine ⟨φ', h1, fun b hb => h2 b (by omega), h3.congr hg, ?_, fun F' => ?_⟩
 . rw [e]; exact hv _ _ h4
 . rw [e]; exact h5 F'
theorem Jrh {c : Call} {x z : Operand} {t u e : Nat} {y ye yu : TyI} {K : KT} (ho : o.op = .call c) (hc : c.callee = .builtin .append) (ha : c.args.toList = [x, z]) (hat : c.argTypes.toList = [t, u])
   (hy : tyOf P t = some y) (htd : y.td = .slice e) (hye : tyOf P e = some ye) (hu : tyOf P u = some yu) (hud : (∃ e', yu.td = .slice e') \/ yu.td = .str) (h : vapp ye (ρ x) (ρ z) s nx K) :
   ∃ v rd up nx', K v rd up nx' /\ OpOK P G o ρ s nx v rd up nx' := by
 unfold vapp at h
 split at h
 . rename_i b k n hx
   unfold Js1 at h
   obtain ⟨src, hsrc, hk, hr, h0, hby, hzl, rfl, hbx, hbs, hb, h⟩ := Jaz.1 h
   obtain ⟨rows, hg, rfl, hrl, hK⟩ := Jna.1 h
   have hzx : z ≠ x := by
     intro ezx
     subst ezx
     rw [hx] at hsrc
     change Je5 (get s b) b _ _ = some src at hsrc
     rw [(Jmp hsrc).1] at hbs
     exact hbs (List.mem_singleton.2 rfl)
   let a : AV := if rows = [] then .nils else .ref b ye.size 0 rows.length none
   let ρ2 : Operand -> AV := open Classical in fun q => if q = x then a else ρ q
   have e1 : ρ2 x = a := by simp [ρ2]
   have e2 : ρ2 z = ρ z := by simp [ρ2, hzx]
   let K2 : KT := fun v rd up nx' => (rows = [] /\ src.1 = [] /\ v = .nils /\ rd = src.2 /\ up = [] /\ nx' = nx) \/
     (rows = [] /\ src.1 ≠ [] /\ v = .ref nx ye.size 0 src.1.length none /\ rd = src.2 /\ up = [(nx, some (.cells ye.size src.1))] /\ nx' = nx + 1) \/
     (rows ≠ [] /\ v = .ref nx ye.size 0 (rows.length + src.1.length) none /\ rd = b :: src.2 /\ up = [(nx, some (.cells ye.size (rows ++ src.1))), (b, none)] /\ nx' = nx + 1)
   have hv2 : Jhk ye (ρ2 x) (ρ2 z) s nx K2 := by
     rw [e1, e2]
     unfold Jhk
     refine Jaz.2 ⟨src, hsrc, hk, hr, h0, hby, hzl, ?_⟩
     by_cases he : rows = []
     . have ea : a = .nils := if_pos he
       rw [ea]
       subst he
       exact ⟨by simpa using hb, fun h => .inl ⟨rfl, h, rfl, rfl, rfl, rfl⟩, fun h => .inr (.inl ⟨rfl, h, rfl, rfl, rfl, rfl⟩)⟩
     . have ea : a = .ref b ye.size 0 rows.length none := if_neg he
       rw [ea]
       refine ⟨rfl, hbs, hb, Jcj.2 ⟨rows, by rw [hg, accB, if_neg he], by omega, hrl, .inr (.inr ⟨he, rfl, rfl, ?_, rfl⟩)⟩⟩
       simp
   obtain ⟨v, rd, up, nx', hK2, hok⟩ := Jq7 (G := G) (ρ := ρ2) ho hc ha hat hy htd hye hu hud hv2
   refine ⟨_, _, _, _, hK, Nat.le_succ _, fun F φ s1 w ρ' hag hs hf hρ => ?_⟩
   have hfx := hf nx (Nat.le_refl _) (Nat.lt_succ_self _)
   have hgx : get s1 nx = none := hs.unplaced hfx
   have hgb : get s1 b = accB ye.size rows := (hag b (by simp)).trans hg
   have hmem : x ∈ o.op.operands.toList := by
     have harg : c.args = #[x, z] := by apply Array.ext'; simpa using ha
     rw [ho]
     simp only [Op.operands, Call.operands, hc, harg]
     simp
   have hρ2 : ∀ q ∈ o.op.operands.toList, VR φ (ownF F φ s1) w (ρ2 q) (ρ' q) := by
     intro q hq
     by_cases eq : q = x
     . subst eq
       rw [e1]
       have hv := hρ q hq
       rw [hx] at hv
       by_cases he : rows = []
       . have ea : a = .nils := if_pos he
         rw [ea]
         subst he
         exact hv.acc_nil
       . have ea : a = .ref b ye.size 0 rows.length none := if_neg he
         rw [ea]
         exact hv.acc_ref (List.length_pos_iff.2 he)
     . have : ρ2 q = ρ q := by simp [ρ2, eq]
       rw [this]
       exact hρ q hq
   have hrd : Jb1 s s1 rd := fun c hc => hag c (by
     rcases hK2 with ⟨_, _, _, e, _⟩ | ⟨_, _, _, e, _⟩ | ⟨_, _, e, _⟩ <;> rw [e] at hc
     . exact List.mem_cons_of_mem _ hc
     . exact List.mem_cons_of_mem _ hc
     . exact hc)
   have hrun := hok.runs F φ s1 w ρ' hrd hs (fun c h1 h2 => hf c h1 (by
     rcases hK2 with ⟨_, _, _, _, _, e⟩ | ⟨_, _, _, _, _, e⟩ | ⟨_, _, _, _, e⟩ <;> omega)) ⟨hρ2, hρ.const⟩
   refine Jbe.mono' hrun fun u w' hp => ?_
   clear hrun hok
   rcases hK2 with ⟨rfl, h1, rfl, rfl, rfl, e6⟩ | ⟨rfl, h1, rfl, rfl, rfl, e6⟩ | ⟨he, rfl, rfl, rfl, e6⟩ <;> rw [e6] at hp
   . refine post_congr hp (fun c => ?_) (Nat.le_succ _) fun φ' own hv => ?_
     . simp only [h1, List.append_nil, accB, if_true, List.nil_append, List.cons_append, get]
       by_cases c1 : nx = c
       . subst c1; simp [hgx]
       . by_cases c2 : b = c
         . subst c2; simp [c1, hgb, accB]
         . simp [c1, c2]
     . obtain ⟨a0, rfl⟩ := hv.nils_inv
       rw [h1]
       exact .acc0 ..
   . refine post_congr hp (fun c => ?_) (Nat.le_refl _) fun φ' own hv => ?_
     . simp only [accB, List.nil_append, if_neg h1, List.cons_append, get]
       by_cases c1 : nx = c
       . subst c1; simp
       . by_cases c2 : b = c
         . subst c2; simp [c1, hgb, accB]
         . simp [c1, c2]
     . have := hv.acc_of (List.length_pos_iff.2 h1)
       simpa using this
   . have hne : rows ++ src.1 ≠ [] := by simp [he]
     refine post_congr hp (fun c => ?_) (Nat.le_refl _) fun φ' own hv => ?_
     . simp only [accB, if_neg hne]
     . exact hv.acc_of (by have := List.length_pos_iff.2 he; omega)
 . exact Jq7 ho hc ha hat hy htd hye hu hud h
end
end Go.Am
namespace Go.Am
open Go
section
variable {P : Program} {G : Jac} {o : Oper} {ρ : Operand -> AV} {s : Store} {nx : Nat}
theorem J0d {c : Call} {x : Operand} {t e : Nat} {y : TyI} {K : KT} (ho : o.op = .call c) (hc : c.callee = .builtin .cap) (ha : c.args.toList = [x]) (hat : c.argTypes.toList = [t]) (hy : tyOf P t = some y) (htd : y.td = .slice e)
   (h : vcap (ρ x) nx K) : ∃ v rd up nx', K v rd up nx' /\ OpOK P G o ρ s nx v rd up nx' := by
 have harg : c.args = #[x] := by apply Array.ext'; simpa using ha
 have hargT : c.argTypes = #[t] := by apply Array.ext'; simpa using hat
 obtain ⟨_, d, _, hsp⟩ := Jav hy
 rw [hsp.td] at htd
 obtain rfl := Jbo htd
 have fin : ∀ n : Nat, (∀ φ own w v, VR φ own w (ρ x) v -> ∃ a l, v = .slice a l n) -> OpOK P G o ρ s nx (.p (.int .i64 n)) [] [] nx := fun n hn => OpOK.same fun F φ s1 w ρ' _ _ hρ => by
   obtain ⟨a, l, hv⟩ := hn _ _ _ _ (hρ x (by rw [ho]; simp [Op.operands, Call.operands, hc, harg]))
   refine ⟨.int .i64 n, ?_, .p _ _ (.int ..)⟩
   simp [execOp, ho, resolve, hc, harg, hargT, invoke, builtin, Builtin.cap_, run_underlying hsp.under, hv, goInt]
 unfold vcap at h
 split at h
 . rename_i b k i n c' hx
   refine ⟨_, _, _, _, h, fin c' fun φ own w v hv => ?_⟩
   rw [hx] at hv
   obtain ⟨β, δ, cap, _, h1, _, _, rfl⟩ := hv.ref_inv
   have := h1 c' rfl
   subst this
   exact ⟨_, _, rfl⟩
 . rename_i hx
   refine ⟨_, _, _, _, h, fin 0 fun φ own w v hv => ?_⟩
   rw [hx] at hv
   obtain ⟨a, rfl⟩ := hv.nils_inv
   exact ⟨_, _, rfl⟩
 . exact h.elim
theorem J0e {c : Call} {x : Operand} {t e : Nat} {y ye : TyI} {K : KT} (ho : o.op = .call c) (hc : c.callee = .builtin .clear) (ha : c.args.toList = [x]) (hat : c.argTypes.toList = [t]) (hy : tyOf P t = some y) (htd : y.td = .slice e)
   (hye : tyOf P e = some ye) (h : Jhl ye (ρ x) s nx K) : ∃ v rd up nx', K v rd up nx' /\ OpOK P G o ρ s nx v rd up nx' := by
 have harg : c.args = #[x] := by apply Array.ext'; simpa using ha
 have hargT : c.argTypes = #[t] := by apply Array.ext'; simpa using hat
 obtain ⟨_, d, _, hsp⟩ := Jav hy
 rw [hsp.td] at htd
 obtain rfl := Jbo htd
 unfold Jhl at h
 split at h
 . rename_i b k i n c' hx
   obtain ⟨rfl, hzl, hz1, hn0, h⟩ := h
   obtain ⟨rows, hg, hin, hrl, hK⟩ := Jcj.1 h
   refine ⟨_, _, _, _, hK, Nat.le_refl _, fun F φ s1 w ρ' hag hs _ hρ => ?_⟩
   have hv := hρ x (by rw [ho]; simp [Op.operands, Call.operands, hc, harg])
   rw [hx] at hv
   obtain ⟨β, δ, cap, hφ, _, hn, room, hv⟩ := hv.ref_inv
   obtain ⟨arr, T, r1, r2⟩ := room
   have hg1 := (hag b (by simp)).trans hg
   obtain ⟨ie, de, ze, hse, hzc⟩ := Jeq (P := P) (φ := φ) (own := ownF F φ s1) (w := w) hye
   have hzsize : ze.cells.size = ye.size := by have := hzc.1; simp at this; omega
   have hcells : Jau φ (ownF F φ s1) w ye.size (List.replicate n ye.zero) (Builtin.zeroCells ze.cells n) 0 := by
     intro p j row z hp hz
     have hpn : p < n := by have := (gsI.1 hp).1; simpa using this
     rw [List.getElem?_replicate_of_lt hpn] at hp; cases hp
     have hj : j < ye.size := by rw [<- hzl]; exact (gsI.1 hz).1
     refine ⟨hj, ?_⟩
     obtain ⟨v, h1, h2⟩ := hzc.at hz
     refine ⟨v, ?_, h2⟩
     have hlt : p * ye.size + j < n * ye.size := by
       have : (p + 1) * ye.size <= n * ye.size := Nat.mul_le_mul_right _ hpn
       rw [Nat.succ_mul] at this; omega
     have hmod : (p * ye.size + j) % ye.size = j := by rw [Nat.add_comm, Nat.add_mul_mod_self_right, Nat.mod_eq_of_lt hj]
     have h1' : ze.cells[j]? = some v := by simpa using h1
     simp only [Builtin.zeroCells, Nat.zero_add, hzsize, Array.getElem?_map]
     rw [Array.getElem?_range, if_pos hlt]
     simp only [Option.map_some, hmod]
     rw [getElem!_def, h1']
   have hsize : (Builtin.zeroCells ze.cells n).size = (List.replicate n ye.zero).length * ye.size := by simp [Builtin.zeroCells, hzsize]
   have hoff : δ + i * ye.size + (Builtin.zeroCells ze.cells n).toList.length <= arr.size := by
     have : (i + n) * ye.size <= (i + cap) * ye.size := Nat.mul_le_mul_right _ (by omega)
     have h5 : (Builtin.zeroCells ze.cells n).toList.length = n * ye.size := by simpa using hsize
     rw [h5]; rw [Nat.add_mul] at this; omega
   have hlay := hs.lay (new := List.replicate n ye.zero) hg1 hφ r1 hcells hsize (by simpa using hin) hoff
   have hone : ∀ v ∈ (Builtin.zeroCells ze.cells n).toList, v.oneCell' = true :=
     cells_one (fun r hr => by rw [(List.mem_replicate.1 hr).2]; exact hzl) (fun r hr c hc => by rw [(List.mem_replicate.1 hr).2] at hc; exact List.all_eq_true.1 hz1 c hc) hcells hsize
   have hst := Jhe (P := P) r1 _ hoff hone
   have hrun : (execOp ρ' o).run P w = .ok (.value (.tuple #[])) (Ja7 w β (splice arr (δ + i * ye.size) (Builtin.zeroCells ze.cells n).toList) T) := by
     have hzv : (zeroValue e).run P w = .ok ze w := hse.zeroValue w
     obtain ⟨n', rfl⟩ : ∃ n', n = n' + 1 := ⟨n - 1, by omega⟩
     simp [execOp, ho, resolve, hc, harg, hargT, invoke, builtin, Builtin.clear_, run_underlying hsp.under, hv, hzv, hst]
   rw [hrun]
   exact ⟨φ, fun _ _ h => h, fun _ _ => rfl, hlay.1, .any _, hlay.2⟩
 . rename_i hx
   refine ⟨_, _, _, _, h, OpOK.same fun F φ s1 w ρ' _ _ hρ => ?_⟩
   have hv := hρ x (by rw [ho]; simp [Op.operands, Call.operands, hc, harg])
   rw [hx] at hv
   obtain ⟨a, hv⟩ := hv.nils_inv
   refine ⟨.tuple #[], ?_, .any _⟩
   cases a <;> simp [execOp, ho, resolve, hc, harg, hargT, invoke, builtin, Builtin.clear_, run_underlying hsp.under, hv]
 . exact h.elim
end
end Go.Am
namespace Go.Am
open Go
section
variable {P : Program} {G : Jac} {o : Oper} {ρ : Operand -> AV} {s : Store} {nx : Nat}
theorem Jsg {F : Nat -> Prop} {φ : Places} {s1 : Store} {w : World} {x : AV} {v : Value} {src : List (List AV) × List Nat} {k m : Nat} (hs : SR G F φ s1 w) (hv : VR φ (ownF F φ s1) w x v)
   (ha : ∀ b ∈ src.2, get s1 b = get s b) (hx : ∀ b k n, x ≠ .acc b k n) (h : Jca s x = some src) (hk : srcK x k = k) (hr : ∀ r ∈ src.1, r.length = k) (hm : m <= src.1.length) :
   ∃ new : Array Value, (Builtin.lenOf v).run P w = .ok src.1.length w /\ (Builtin.firstCells k m v).run P w = .ok new w /\ Jau φ (ownF F φ s1) w k (src.1.take m) new 0 /\ new.size = m * k := by
 unfold Jca at h
 split at h
 . exact absurd rfl (hx _ _ _)
 . cases h
   have hm0 : m = 0 := by simpa using hm
   subst hm0
   cases hv with
   | nils a => exact ⟨#[], rfl, by cases a <;> simp [Builtin.firstCells, loadCells, loadCellsFrom], fun i j row x h => by simp at h, by simp⟩
 . rename_i k' rows
   cases h
   simp only [srcK] at hk
   subst hk
   have hml : (rows.map (·.map AV.p) |>.take m).length = m := by simp at hm ⊢; omega
   rcases hv.p_inv.lst_inv with ⟨hnil, a, c, rfl⟩ | ⟨β, c, cap, rfl, hcap, hβ, hown, hrows⟩
   . subst hnil
     have hm0 : m = 0 := by simpa using hm
     subst hm0
     refine ⟨#[], rfl, ?_, fun i j row x h => by simp at h, by simp⟩
     cases a with
     | none => rfl
     | some a => simp [Builtin.firstCells, loadCells, loadCellsFrom]
   . obtain ⟨new, h1, h2, h3⟩ := Jfw (P := P) (φ := φ) (own := ownF F φ s1) (w := w) (a := ⟨β, c, none⟩) (k := k') (rows := (rows.map (·.map AV.p)).take m) (fun r h => hr r (List.mem_of_mem_take h)) (by
       intro i j row x h1 h2
       have hi : i < m := by have := (gsI.1 h1).1; omega
       rw [List.getElem?_take_of_lt hi] at h1
       simp only [List.getElem?_map, Option.map_eq_some_iff] at h1
       obtain ⟨r, h1, rfl⟩ := h1
       simp only [List.getElem?_map, Option.map_eq_some_iff] at h2
       obtain ⟨z, h2, rfl⟩ := h2
       obtain ⟨v, h3, h4⟩ := hrows i j r z h1 h2
       exact ⟨v, by rw [addr_add, <- Nat.add_assoc]; exact h3, .p _ _ h4⟩)
     rw [hml] at h1 h3
     refine ⟨new, ?_, ?_, h2, h3⟩
     . simp [Builtin.lenOf]
     . simpa [Builtin.firstCells] using h1
 . rename_i t
   cases h
   have hv := hv.p_inv
   cases hv
   have hk1 : t = [] \/ k = 1 := by
     cases t with
     | nil => exact .inl rfl
     | cons b t => exact .inr (hr [.p (.int .u8 b.toNat)] (by simp)).symm
   have hm' : m <= t.length := by simpa using hm
   refine ⟨((t.take m).map fun b => Value.int .u8 b.toNat).toArray, ?_, ?_, ?_, ?_⟩
   . simp [Builtin.lenOf, ByteArray.size]
   . simp [Builtin.firstCells]
   . intro i j row x h1 h2
     rcases hk1 with rfl | rfl
     . simp at h1
     . rw [<- List.map_take] at h1
       simp only [List.getElem?_map, Option.map_eq_some_iff] at h1
       obtain ⟨b, h1, rfl⟩ := h1
       cases j with
       | zero =>
         simp at h2; subst h2
         exact ⟨Nat.one_pos, _, by simp [<- List.map_take, h1], .p _ _ (.int ..)⟩
       | succ j => simp at h2
   . rcases hk1 with rfl | rfl
     . have : m = 0 := by simpa using hm'
       subst this; simp
     . simp; omega
 . rename_i b k' i n c
   split at h
   . rename_i k2 rows hg
     split at h
     . rename_i hin
       obtain ⟨hkk, hin, _⟩ := hin
       cases h
       simp only [srcK] at hk
       subst hk
       obtain ⟨β, δ, cap, hφ, hc, hn, room, rfl⟩ := hv.ref_inv
       have hg1 := (ha b (by simp)).trans hg
       obtain ⟨β', δ', arr, T, e1, e2, e3⟩ := hs.blk b _ hg1
       rw [hφ] at e1; cases e1
       have hlen : ((rows.drop i).take n).length = n := by simp; omega
       have hml : (((rows.drop i).take n).take m).length = m := by rw [List.length_take, hlen]; rw [hlen] at hm; omega
       have hk2 : ∀ (p j : Nat) row x, (((rows.drop i).take n).take m)[p]? = some row -> row[j]? = some x -> k2 = k' -> ∃ v, w.cell? ((⟨β, δ + i * k', none⟩ : Addr).add (p * k' + j)) = some v /\ VR φ (ownF F φ s1) w x v := by
         intro p j row x h1 h2 hkk
         subst hkk
         have hp : p < m := by
           have := (gsI.1 h1).1; omega
         have hpn : p < n := by rw [hlen] at hm; omega
         rw [List.getElem?_take_of_lt hp, List.getElem?_take_of_lt hpn, List.getElem?_drop] at h1
         obtain ⟨_, v, h3, h4⟩ := e3 (i + p) j row x h1 h2
         refine ⟨v, ?_, h4⟩
         rw [addr_add, Jet e2, <- h3, Nat.add_mul]
         congr 1
         omega
       obtain ⟨new, h1, h2, h3⟩ := Jfw (P := P) (φ := φ) (own := ownF F φ s1) (w := w) (a := ⟨β, δ + i * k', none⟩) (k := k') (rows := ((rows.drop i).take n).take m) (fun r h => hr r (List.mem_of_mem_take h))
         (fun p j row x h1 h2 => hk2 p j row x h1 h2 hkk)
       rw [hml] at h1 h3
       refine ⟨new, ?_, ?_, h2, h3⟩
       . simp only [Builtin.lenOf, Sem.run_pure, hlen]
       . simpa [Builtin.firstCells] using h1
     . cases h
   . cases h
 . cases h
theorem Jse {F : Nat -> Prop} {φ : Places} {s1 : Store} {w : World} {x : AV} {v : Value} {src : List (List AV) × List Nat} {k m : Nat} (hs : SR G F φ s1 w) (hv : VR φ (ownF F φ s1) w x v)
   (ha : ∀ b ∈ src.2, get s1 b = get s b) (h : Jje m s x = some src) (hk : srcK x k = k) (hr : ∀ r ∈ src.1, r.length = k) :
   ∃ (L : Nat) (new : Array Value), (Builtin.lenOf v).run P w = .ok L w /\ Nat.min L m = Nat.min src.1.length m /\ (Builtin.firstCells k (Nat.min src.1.length m) v).run P w = .ok new w /\ Jau φ (ownF F φ s1) w k (src.1.take m) new 0 /\ new.size = Nat.min src.1.length m * k /\
     ∀ r ∈ src.1, ∀ c ∈ r, c.oneCell = true := by
 have htake : src.1.take (Nat.min src.1.length m) = src.1.take m := by
   rcases Nat.le_total src.1.length m with h | h
   . rw [show Nat.min src.1.length m = src.1.length from Nat.min_eq_left h, List.take_of_length_le (Nat.le_refl _), List.take_of_length_le h]
   . rw [show Nat.min src.1.length m = m from Nat.min_eq_right h]
 have plain : (∀ b k n, x ≠ .acc b k n) -> Jca s x = some src -> ∃ (L : Nat) (new : Array Value), (Builtin.lenOf v).run P w = .ok L w /\ Nat.min L m = Nat.min src.1.length m /\ (Builtin.firstCells k (Nat.min src.1.length m) v).run P w = .ok new w /\ Jau φ (ownF F φ s1) w k (src.1.take m) new 0 /\ new.size = Nat.min src.1.length m * k /\
     ∀ r ∈ src.1, ∀ c ∈ r, c.oneCell = true := fun hx h => by
   obtain ⟨new, h1, h2, h3, h4⟩ := Jsg (P := P) (m := Nat.min src.1.length m) hs hv ha hx h hk hr (Nat.min_le_left _ _)
   rw [htake] at h3
   exact ⟨_, new, h1, rfl, h2, h3, h4, Jmr h⟩
 unfold Jje at h
 split at h
 . rename_i b k' i n c
   split at h
   . rename_i k2 rows hg
     split at h
     . rename_i hin
       obtain ⟨hkk, hin, hone⟩ := hin
       obtain ⟨β, δ, cap, hφ, hc, hn, room, rfl⟩ := hv.ref_inv
       have hlen : ((rows.drop i).take (min n m)).length = min n m := by simp; omega
       have hv2 : VR φ (ownF F φ s1) w (.ref b k' i (min n m) c) (.slice (some ⟨β, δ + i * k', none⟩) (min n m) cap) := .ref b k' i (min n m) c β δ cap hφ hc (by omega) room
       have hsrc2 : Jca s (.ref b k' i (min n m) c) = some src := by
         simp only [Jca, hg]
         rw [if_pos ⟨hkk, by omega, hone⟩]
         exact h
       have hlen2 : src.1.length = min n m := by cases h; exact hlen
       obtain ⟨new, h1, h2, h3, h4⟩ := Jsg (P := P) (m := Nat.min src.1.length m) hs hv2 ha (fun _ _ _ e => by cases e) hsrc2 hk hr (Nat.min_le_left _ _)
       rw [htake] at h3
       refine ⟨n, new, rfl, ?_, ?_, h3, h4, Jmr hsrc2⟩
       . rw [hlen2]
         show min n m = min (min n m) m
         omega
       . simpa [Builtin.firstCells] using h2
     . cases h
   . cases h
 . exact plain (fun _ _ _ e => by cases e) h
 . exact plain (fun _ _ _ e => by cases e) h
 . cases h
theorem J0h {c : Call} {x z : Operand} {t e u : Nat} {y ye : TyI} {K : KT} (ho : o.op = .call c) (hc : c.callee = .builtin .copy) (ha : c.args.toList = [x, z]) (hat : c.argTypes.toList = [t, u]) (hy : tyOf P t = some y) (htd : y.td = .slice e)
   (hye : tyOf P e = some ye) (h : Jm2 ye.size (ρ x) (ρ z) s nx K) : ∃ v rd up nx', K v rd up nx' /\ OpOK P G o ρ s nx v rd up nx' := by
 have harg : c.args = #[x, z] := by apply Array.ext'; simpa using ha
 have hargT : c.argTypes = #[t, u] := by apply Array.ext'; simpa using hat
 obtain ⟨_, d, _, hsp⟩ := Jav hy
 rw [hsp.td] at htd
 obtain rfl := Jbo htd
 unfold Jm2 at h
 obtain ⟨src, hsrc, hk, hr, h0, h⟩ := Jaz.1 h
 have hmem : ∀ q, (q = x \/ q = z) -> q ∈ o.op.operands.toList := by
   intro q hq
   rw [ho]
   simp only [Op.operands, Call.operands, hc, harg]
   simpa using hq
 split at h
 . rename_i b k i n c' hx
   obtain ⟨rfl, h⟩ := h
   obtain ⟨rows, hg, hin, hrl, hK⟩ := Jcj.1 h
   refine ⟨_, _, _, _, hK, Nat.le_refl _, fun F φ s1 w ρ' hag hs _ hρ => ?_⟩
   have hv := hρ x (hmem x (.inl rfl))
   have hz := hρ z (hmem z (.inr rfl))
   rw [hx] at hv
   obtain ⟨β, δ, cap, hφ, _, hn, room, hv⟩ := hv.ref_inv
   obtain ⟨arr, T, r1, r2⟩ := room
   have hg1 := (hag b (by simp)).trans hg
   rw [hx] at hsrc
   obtain ⟨L, new, h1, hL, h2, h3, h4, hone⟩ := Jse (P := P) (s := s) (m := n) hs hz (fun c hc => hag c (by simp [hc])) hsrc hk hr
   have hmn : Nat.min src.1.length n <= n := Nat.min_le_right _ _
   have htl : (src.1.take n).length = Nat.min src.1.length n := by rw [List.length_take]; exact Nat.min_comm _ _
   have hsize : new.size = (src.1.take n).length * ye.size := by rw [h4, htl]
   have hoff : δ + i * ye.size + new.toList.length <= arr.size := by
     have h5 : new.toList.length = Nat.min src.1.length n * ye.size := by simpa using h4
     have h6 : (i + Nat.min src.1.length n) * ye.size <= (i + cap) * ye.size := Nat.mul_le_mul_right _ (by omega)
     rw [h5]; rw [Nat.add_mul] at h6; omega
   have hlay := hs.lay (new := src.1.take n) hg1 hφ r1 h3 hsize (by omega) hoff
   have hst := Jhe (P := P) r1 _ hoff (cells_one (fun r hr' => hr r (List.mem_of_mem_take hr')) (fun r hr' => hone r (List.mem_of_mem_take hr')) h3 hsize)
   have hrun : (execOp ρ' o).run P w = .ok (.value (.int .i64 (Nat.min src.1.length n))) (Ja7 w β (splice arr (δ + i * ye.size) new.toList) T) := by
     simp [execOp, ho, resolve, hc, harg, hargT, invoke, builtin, Builtin.copy_, run_underlying hsp.under, hv, h1, hL, Jco hye, h2, hst, goInt]
   rw [hrun]
   exact ⟨φ, fun _ _ h => h, fun _ _ => rfl, hlay.1, .p _ _ (.int ..), hlay.2⟩
 . rename_i hx
   refine ⟨_, _, _, _, h, OpOK.same fun F φ s1 w ρ' hag hs hρ => ?_⟩
   have hv := hρ x (hmem x (.inl rfl))
   have hz := hρ z (hmem z (.inr rfl))
   rw [hx] at hv
   obtain ⟨a, hv⟩ := hv.nils_inv
   rw [hx] at hsrc
   obtain ⟨L, new, h1, hL, h2, h3, h4, _⟩ := Jse (P := P) (s := s) (m := 0) hs hz (fun c hc => hag c hc) hsrc hk hr
   have hm0 : Nat.min src.1.length 0 = 0 := Nat.min_eq_right (Nat.zero_le _)
   rw [hm0] at h2 h4
   have hnil : new = #[] := Array.eq_empty_of_size_eq_zero (by rw [h4, Nat.zero_mul])
   subst hnil
   refine ⟨.int .i64 0, ?_, .p _ _ (.int ..)⟩
   have hmin : Nat.min L 0 = 0 := Nat.min_eq_right (Nat.zero_le _)
   cases a <;> simp [execOp, ho, resolve, hc, harg, hargT, invoke, builtin, Builtin.copy_, run_underlying hsp.under, hv, h1, hmin, Jco hye, h2, goInt, storeCells]
 . exact h.elim
end
end Go.Am
namespace Go.Am
open Go
theorem J3s (n : Int) : IntKind.i64.wrap n = if n % 18446744073709551616 ≥ 9223372036854775808 then n % 18446744073709551616 - 18446744073709551616 else n % 18446744073709551616 := by
 simp [IntKind.wrap, IntKind.bits, IntKind.signed]
section
variable {P : Program} {G : Jac} {o : Oper} {ρ : Operand -> AV} {s : Store} {nx : Nat}
theorem Jr4 {w : World} {t u e sLen sCap m : Nat} {ty : TypeId} {ye yu y : TyI} {q : IntKind} {base : Option Addr} {old : Array Value} (hy : tyOf P t = some y) (htd : y.td = .slice e) (hye : tyOf P e = some ye)
   (hu : tyOf P u = some yu) (hud : yu.td = .int q)
   (hfo : (Builtin.firstCells ye.size sLen (.slice base sLen sCap)).run P w.drew = .ok old w.drew) (hroom : sCap < sLen + m)
   (hb : (sLen + m) * ye.bytes <= 35184372088832) (h0 : 0 < ye.bytes) (hz : ye.zero.length = ye.size) :
   ∃ (cap : Nat) (cells : Array Value) (ze : Value), (∃ i d, TySpec P e ye i d ze) /\ sLen + m <= cap /\ cells.size = (cap - (sLen + m)) * ye.zero.length /\
     (Builtin.append_ #[t, u] ty #[.slice base sLen sCap, .int .i64 m]).run P w = .ok (.slice (some ⟨w.heap.size, 0, none⟩) (sLen + m) cap) (w.drew.alloc (.cells (old ++ Builtin.zeroCells ze.cells m ++ cells) e)) := by
 obtain ⟨_, d, z, hs⟩ := Jav hy
 rw [hs.td] at htd
 obtain rfl := Jbo htd
 obtain ⟨ie, de, ze, hse⟩ := Jav hye
 obtain ⟨iu, du, zu, hsu⟩ := Jav hu
 rw [hsu.td] at hud
 obtain rfl := Jsu hud
 have hzl : ze.cells.size = ie.size := by have := hse.zeros; have h2 := congrArg List.length this; simp at h2; rw [<- hse.size]; omega
 rw [hse.bytes] at hb h0
 have hfo' : (Builtin.firstCells ie.size sLen (.slice base sLen sCap)).run P w.drew = .ok old w.drew := by rw [<- hse.size]; exact hfo
 have hn : ¬ (sLen + m <= sCap) := by omega
 have hfit := growslice_fits (bytes := ie.bytes) hroom (by omega)
 have h48' : ¬ (281474976710656 < Builtin.nextslicecap (sLen + m) sCap * ie.bytes) := by omega
 have hb0 : ie.bytes ≠ 0 := by omega
 have hle1 : sLen + m <= (sLen + m) * ie.bytes := Nat.le_mul_of_pos_right _ h0
 have hw : IntKind.i64.wrap (m : Int) = m := by
   rw [J3s]
   split <;> omega
 have hmul : (m : Int) * ie.bytes = ((m * ie.bytes : Nat) : Int) := (Int.natCast_mul m ie.bytes).symm
 have hmle : m * ie.bytes <= (sLen + m) * ie.bytes := Nat.mul_le_mul_right _ (by omega)
 have hmb : ¬ (281474976710656 < (m : Int) * ie.bytes) := by rw [hmul]; omega
 have hm0 : ¬ ((m : Int) < 0) := by omega
 have hneed : ¬ ((9223372036854775807 : Int) < (sLen : Int) + m) := by omega
 refine ⟨grownCap w (sLen + m) sCap e, Builtin.zeroCells ze.cells (grownCap w (sLen + m) sCap e - (sLen + m)), ze, ⟨_, _, hse⟩, grownCap_ge _ _ _ _, ?_, ?_⟩
 . rw [size_zeroCells, hse.zeros]
   simp
 . have hzc : (if m * ie.size = 0 then (#[] : Array Value) else Builtin.zeroCells ze.cells m) = Builtin.zeroCells ze.cells m := by
     split
     . rename_i h
       rw [<- hzl] at h
       exact (Array.eq_empty_of_size_eq_zero (by rw [size_zeroCells]; exact h)).symm
     . rfl
   have hzc' : ¬ (m * ie.size = 0) \/ Builtin.zeroCells ze.cells m = #[] := by
     by_cases h : m * ie.size = 0
     . rw [if_pos h] at hzc; exact .inr hzc.symm
     . exact .inl h
   rcases hzc' with hzc' | hzc' <;> simp [Builtin.append_, run_underlying hs.under, run_underlying hsu.under, sizeOf, typeInfo, zeroValue, hse.info, hse.zero, asInt, hn, h48', hb0, Question.forced, hfo', newRow, grownCap, asIntOf, hw, hmb, hm0, hneed, hzc']
theorem Jtm {φ : Places} {own : Nat -> Prop} {w : World} {e n : Nat} {ye : TyI} {ie : TypeInfo} {de : TypeDesc} {ze : Value} (hye : tyOf P e = some ye) (hse : TySpec P e ye ie de ze) (hzl : ye.zero.length = ye.size) :
   Jau φ own w ye.size (List.replicate n ye.zero) (Builtin.zeroCells ze.cells n) 0 /\ (Builtin.zeroCells ze.cells n).size = (List.replicate n ye.zero).length * ye.size := by
 obtain ⟨i2, d2, z2, hs2, hzc⟩ := Jeq (P := P) (φ := φ) (own := own) (w := w) hye
 have hzz : z2 = ze := by
   have h1 := hse.info; rw [hs2.info] at h1; cases h1
   have h2 := hse.zero; rw [hs2.zero] at h2; exact Option.some.inj h2
 subst hzz
 have hzsize : z2.cells.size = ye.size := by have := hzc.1; simp at this; omega
 refine ⟨?_, by simp [Builtin.zeroCells, hzsize]⟩
 intro p j row z hp hz
 have hpn : p < n := by have := (gsI.1 hp).1; simpa using this
 rw [List.getElem?_replicate_of_lt hpn] at hp; cases hp
 have hj : j < ye.size := by rw [<- hzl]; exact (gsI.1 hz).1
 refine ⟨hj, ?_⟩
 obtain ⟨v, h1, h2⟩ := hzc.at hz
 refine ⟨v, ?_, h2⟩
 have hlt : p * ye.size + j < n * ye.size := by
   have : (p + 1) * ye.size <= n * ye.size := Nat.mul_le_mul_right _ hpn
   rw [Nat.succ_mul] at this; omega
 have hmod : (p * ye.size + j) % ye.size = j := by rw [Nat.add_comm, Nat.add_mul_mod_self_right, Nat.mod_eq_of_lt hj]
 have h1' : z2.cells[j]? = some v := by simpa using h1
 simp only [Builtin.zeroCells, Nat.zero_add, hzsize, Array.getElem?_map]
 rw [Array.getElem?_range, if_pos hlt]
 simp only [Option.map_some, hmod]
 rw [getElem!_def, h1']
theorem Jzy {c : Call} {x z : Operand} {t u e : Nat} {y ye yu : TyI} {q : IntKind} {K : KT} (ho : o.op = .call c) (hc : c.callee = .builtin .append) (ha : c.args.toList = [x, z]) (hat : c.argTypes.toList = [t, u])
   (hy : tyOf P t = some y) (htd : y.td = .slice e) (hye : tyOf P e = some ye) (hu : tyOf P u = some yu) (hud : yu.td = .int q) (h : Jgk ye (ρ x) (ρ z) s nx K) :
   ∃ v rd up nx', K v rd up nx' /\ OpOK P G o ρ s nx v rd up nx' := by
 have harg : c.args = #[x, z] := by apply Array.ext'; simpa using ha
 have hargT : c.argTypes = #[t, u] := by apply Array.ext'; simpa using hat
 have hmem : ∀ q, (q = x \/ q = z) -> q ∈ o.op.operands.toList := by
   intro q hq
   rw [ho]
   simp only [Op.operands, Call.operands, hc, harg]
   simpa using hq
 have hexec : ∀ ρ' : Operand -> Value, execOp ρ' o = (do pure (.value (<- Builtin.append_ #[t, u] o.type #[ρ' x, ρ' z])) : Sem Next) := by
   intro ρ'
   simp [execOp, ho, resolve, hc, harg, hargT, invoke, builtin]
 unfold Jgk at h
 split at h
 . rename_i m hzv
   obtain ⟨hm, hk0, hby, hzl, h⟩ := h
   obtain ⟨m, rfl⟩ := Int.eq_ofNat_of_zero_le hm
   rw [Int.toNat_natCast] at h
   split at h
   . rename_i hx
     obtain ⟨hm0, hb, hK⟩ := h
     refine ⟨_, _, _, _, hK, Nat.le_succ _, fun F φ s1 w ρ' hag hs hf hρ => ?_⟩
     have hfx := hf nx (Nat.le_refl _) (Nat.lt_succ_self _)
     have hv := hρ x (hmem x (.inl rfl))
     have hz := hρ z (hmem z (.inr rfl))
     rw [hx] at hv
     rw [hzv] at hz
     obtain ⟨a0, hv0⟩ := hv.nils_inv
     obtain ⟨cap, cells, ze, ⟨ie, de, hse⟩, e1, e2, e3⟩ := Jr4 (ty := o.type) (w := w) (m := m) hy htd hye hu hud (sLen := 0) (sCap := 0) (base := a0) (old := #[]) (by cases a0 <;> simp [Builtin.firstCells, loadCells, loadCellsFrom]) (by omega) (by rw [Nat.zero_add]; exact hb) hby hzl
     rw [hexec, hv0, hz.int_inv]
     simp only [Sem.run_bind, e3, Result.andThen_ok]
     rw [Nat.zero_add] at e1 e2 ⊢
     obtain ⟨z1, z2⟩ := Jtm (P := P) (φ := φ) (own := ownF F φ s1) (w := w) (n := m) hye hse hzl
     have hcells : Jau φ (ownF F φ s1) w ye.size (List.replicate m ye.zero) (#[] ++ Builtin.zeroCells ze.cells m ++ cells) 0 := by
       have := Jau.append (a3 := cells) (φ := φ) (own := ownF F φ s1) (w := w) (k := ye.size) (r1 := []) (a1 := #[]) (fun i j row x h => by simp at h) (by simp) z1 z2
       simpa using this
     refine Jf4 hs hfx hcells e1 ?_
     rw [Array.empty_append, Array.size_append, z2, e2, hzl, List.length_replicate, <- Nat.add_mul]
     exact Nat.le_of_eq (by congr 1; omega)
   . rename_i b k i n c' hx
     obtain ⟨rfl, hlt, hb, h⟩ := h
     obtain ⟨rows, hg, hin, hrl, hK⟩ := Jcj.1 h
     refine ⟨_, _, _, _, hK, Nat.le_succ _, fun F φ s1 w ρ' hag hs hf hρ => ?_⟩
     have hfx := hf nx (Nat.le_refl _) (Nat.lt_succ_self _)
     have hv := hρ x (hmem x (.inl rfl))
     have hz := hρ z (hmem z (.inr rfl))
     rw [hx] at hv
     rw [hzv] at hz
     have hg1 : get s1 b = some (.cells ye.size rows) := (hag b (by simp)).trans hg
     obtain ⟨β, δ, cap, hφ, hcc, hn, room, hv⟩ := hv.ref_inv
     have hcap := hcc c' rfl
     obtain ⟨old, o1, o2, o3⟩ := Jme (P := P) (cap := cap) hs.drew hg1 hφ hin hrl
     obtain ⟨cap', cells, ze, ⟨ie, de, hse⟩, c1, c2, c3⟩ := Jr4 (ty := o.type) (w := w) (m := m) hy htd hye hu hud o1 (by omega) hb hby hzl
     rw [hexec, hv, hz.int_inv]
     simp only [Sem.run_bind, c3, Result.andThen_ok]
     obtain ⟨z1, z2⟩ := Jtm (P := P) (φ := φ) (own := ownF F φ s1) (w := w.drew) (n := m) hye hse hzl
     have hcells : Jau φ (ownF F φ s1) w ye.size ((rows.drop i).take n ++ List.replicate m ye.zero) (old ++ Builtin.zeroCells ze.cells m ++ cells) 0 := by
       have st : Step (ownF F φ s1) (ownF F φ s1) w.drew w := ⟨fun _ _ h => ⟨rfl, h⟩, Nat.le_refl _, fun _ arr _ h => ⟨arr, h, rfl⟩, rfl, rfl, rfl⟩
       exact (Jau.append o2 (by rw [o3]; congr 1; simp; omega) z1 z2).mono (fun _ _ h => h) st
     exact Jf4 (T := e) hs hfx hcells c1 (by
       rw [Array.size_append, Array.size_append, o3, z2, c2, hzl, List.length_replicate, <- Nat.add_mul, <- Nat.add_mul]
       exact Nat.le_of_eq (by congr 1; omega))
   . exact h.elim
 . exact h.elim
end
end Go.Am
namespace Go.Am
open Go
section
variable {P : Program} {G : Jac} {o : Oper} {ρ : Operand -> AV} {s : Store} {nx : Nat}
theorem J0a {t e n : Nat} {y ye : TyI} {parts : Array (Nat × Operand)} {cs : List AV} (ho : o.op = .build t parts) (hy : tyOf P t = some y) (htd : y.td = .array n e) (hye : tyOf P e = some ye)
   (h : Jcg (Jeb ye.size) y.zero (parts.toList.map fun (i, x) => (i, ρ x)) = some cs) : OpOK P G o ρ s nx (.agg cs) [] [] nx :=
 OpOK.same fun F φ s1 w ρ' _ _ hρ => by
   obtain ⟨i, d, z, hs, hz⟩ := Jeq (P := P) (φ := φ) (own := ownF F φ s1) (w := w) hy
   rw [hs.td] at htd
   obtain rfl := Jgg htd
   obtain ⟨cells', e1, e2⟩ := Jk8 (φ := φ) (own := ownF F φ s1) (w := w) _ _ ((parts.map fun (i, x) => (i, ρ' x)).toList) _ _ z.cells h hz (by simp)
     (Jl1 parts (fun x hx => hρ x (by simpa [ho, Op.operands] using hx)))
   refine ⟨.agg cells', ?_, .agg cs cells'.toList e2.1 e2.2⟩
   have e3 : Instr.fill (fun i => some (i * ye.size, ye.size)) z.cells (parts.map fun x => (x.1, ρ' x.2)).toList = some cells' := e1
   simp only [execOp, ho, Instr.build, Sem.run_bind, hs.zeroValue, Result.andThen_ok, hs.underlying, Jco hye, e3]
   rfl
theorem J12 {t : Nat} {agg : Bool} {size : Nat} {cs : List AV} {off : Nat} {K : KT} (hA : ∀ w, (isAgg t).run P w = .ok agg w) (hS : ∀ w, (sizeOf t).run P w = .ok size w) (h : Jbw agg size cs off nx K) :
   ∃ v, K v [] [] nx /\ ∀ φ own w vs, Jbd φ own w cs vs -> ∃ v', (part t ⟨vs⟩ off).run P w = .ok v' w /\ VR φ own w v v' := by
 have h0 := h
 unfold Jbw at h
 simp only [Jaz] at h
 split at h
 . rename_i ha
   refine ⟨_, h.2, fun φ own w vs hc => ?_⟩
   obtain ⟨v0, e1, e2⟩ := Jf8 (P := P) (φ := φ) (own := own) (w := w) (vs := vs) (K := fun v _ _ _ => v = .agg ((cs.drop off).take size)) (nx := nx) hA hS (by unfold Jbw; rw [if_pos ha]; exact ⟨h.1, rfl⟩)
   subst e1
   exact e2 hc
 . rename_i ha
   obtain ⟨x, hx, hK⟩ := h
   refine ⟨_, hK, fun φ own w vs hc => ?_⟩
   obtain ⟨v0, e1, e2⟩ := Jf8 (P := P) (φ := φ) (own := own) (w := w) (vs := vs) (K := fun v _ _ _ => v = x) (nx := nx) hA hS (by unfold Jbw; rw [if_neg ha]; exact Jaz.2 ⟨x, hx, rfl⟩)
   subst e1
   exact e2 hc
theorem Js0 {t : Nat} {y : TyI} (h : tyOf P t = some y) (w : World) : (isAgg t).run P w = .ok y.agg w := by
 obtain ⟨i, d, z, hs⟩ := Jav h
 exact hs.isAgg w
theorem J0n {t e n : Nat} {x ix : Operand} {y ye : TyI} {cs : List AV} {k : IntKind} {i : Int} {K : KT} (ho : o.op = .index t x ix) (hy : tyOf P t = some y) (htd : y.td = .array n e) (hye : tyOf P e = some ye)
   (hx : ρ x = .agg cs) (hi : ρ ix = .p (.int k i)) (h1 : 0 <= i) (h2 : i < n) (h : Jbw ye.agg ye.size cs (i.toNat * ye.size) nx K) : ∃ v rd up nx', K v rd up nx' /\ OpOK P G o ρ s nx v rd up nx' := by
 obtain ⟨_, d, z, hs⟩ := Jav hy
 rw [hs.td] at htd
 obtain rfl := Jgg htd
 obtain ⟨v, hK, hv⟩ := J12 (P := P) (Js0 hye) (Jco hye) h
 refine ⟨_, _, _, _, hK, OpOK.same fun F φ s1 w ρ' _ _ hρ => ?_⟩
 have ha := hρ x (by simp [ho, Op.operands])
 have hb := hρ ix (by simp [ho, Op.operands])
 rw [hx] at ha
 rw [hi] at hb
 obtain ⟨vs, e1, hc⟩ := ha.agg_inv
 obtain ⟨v', e2, e3⟩ := hv φ _ w vs hc
 refine ⟨v', ?_, e3⟩
 simp only [execOp, ho, Instr.index, e1, hb.int_inv, asIntOf, Sem.run_bind, Sem.run_pure, Result.andThen_ok, hs.underlying]
 simp [h1, h2, Jco hye, e2]
theorem J0o {t : Nat} {x ix : Operand} {y : TyI} {cs : List UInt8} {k : IntKind} {i : Int} {c : UInt8} (ho : o.op = .index t x ix) (hy : tyOf P t = some y) (htd : y.td = .str)
   (hx : ρ x = .p (.str cs)) (hi : ρ ix = .p (.int k i)) (h1 : 0 <= i) (hc : cs[i.toNat]? = some c) : OpOK P G o ρ s nx (.p (.int .u8 c.toNat)) [] [] nx :=
 OpOK.same fun F φ s1 w ρ' _ _ hρ => by
   obtain ⟨_, d, z, hs⟩ := Jav hy
   rw [hs.td] at htd
   obtain rfl := Jgi htd
   have ha := hρ x (by simp [ho, Op.operands])
   have hb := hρ ix (by simp [ho, Op.operands])
   rw [hx] at ha
   rw [hi] at hb
   refine ⟨.int .u8 c.toNat, ?_, .p _ _ (.int ..)⟩
   have hlt := (gsI.1 hc).1
   have : (⟨⟨cs⟩⟩ : ByteArray)[i.toNat]? = some c := by
     rw [getElem?_pos (⟨⟨cs⟩⟩ : ByteArray) i.toNat hlt]
     rw [List.getElem?_eq_getElem hlt] at hc
     exact hc
   simp [execOp, ho, Instr.index, ha.str_inv, hb.int_inv, asIntOf, hs.underlying, h1, this]
theorem Jel {c : Call} {x : Operand} {t : Nat} {y : TyI} {v : AV} (ho : o.op = .call c) (hc : c.callee = .builtin .len) (ha : c.args.toList = [x]) (hat : c.argTypes.toList = [t]) (hy : tyOf P t = some y) {rd : List Nat}
   (h : ∀ (F : Nat -> Prop) (φ : Places) (s1 : Store) (w : World) (a : Value) (d : TypeDesc), Jb1 s s1 rd -> SR G F φ s1 w -> P.underlying t = some d -> y.td = tdOf P d -> VR φ (ownF F φ s1) w (ρ x) a ->
     ∃ v', (Builtin.len_ #[t] o.type #[a]).run P w = .ok v' w /\ VR φ (ownF F φ s1) w v v') : OpOK P G o ρ s nx v rd [] nx := by
 have harg : c.args = #[x] := by apply Array.ext'; simpa using ha
 have hargT : c.argTypes = #[t] := by apply Array.ext'; simpa using hat
 refine OpOK.same fun F φ s1 w ρ' hag hs hρ => ?_
 obtain ⟨_, d, _, hsp⟩ := Jav hy
 obtain ⟨v', h1, h2⟩ := h F φ s1 w (ρ' x) d hag hs hsp.under hsp.td (hρ x (by rw [ho]; simp [Op.operands, Call.operands, hc, harg]))
 refine ⟨v', ?_, h2⟩
 simp [execOp, ho, resolve, hc, harg, hargT, invoke, builtin, h1]
theorem Jfu {w : World} {t : Nat} {ty : TypeId} {e n c : Nat} {a : Option Addr} (h : P.underlying t = some (.slice e)) : (Builtin.len_ #[t] ty #[.slice a n c]).run P w = .ok (goInt n) w := by
 simp [Builtin.len_, run_underlying h]
theorem Jbe.mono {R R' : Value -> World -> Prop} {r : Result Next} (h : Jbe P R r) (hm : ∀ v w, R v w -> R' v w) : Jbe P R' r := by
 cases r with
 | ok n w' =>
   cases n <;> simp only [Jbe] at h ⊢
   case value => exact hm _ _ h
   case skip => exact hm _ _ h
   case enter => exact h.mono fun e w'' ⟨v, e1, e2⟩ => ⟨v, e1, hm _ _ e2⟩
   case round => exact h.mono fun e w'' ⟨v, e1, e2⟩ => ⟨v, e1, hm _ _ e2⟩
 | halt e w' => simp only [Jbe] at h
theorem J0c {c : Call} {f : Operand} {n : Nat} {cap : List AV} {v : AV} {rd : List Nat} {up : Store} {nx' : Nat} (ho : o.op = .call c) (hc : c.callee = .value f) (hf : ρ f = .fn (.func n) cap)
   (h : Gives P G n (c.args.toList.map ρ ++ cap) s nx v rd up nx') : OpOK P G o ρ s nx v rd up nx' := by
 refine ⟨h.le, fun F φ s1 w ρ' hag hs hfr hρ => ?_⟩
 have hv := hρ f (by rw [ho]; simp [Op.operands, Call.operands, hc])
 rw [hf] at hv
 obtain ⟨vs, e1, e2⟩ := hv.fn_inv
 have hrun : (execOp ρ' o).run P w = (callFunc n (c.args.map ρ' ++ ⟨vs⟩)).run P w := by
   have hres : resolve ρ' c o.type = pure { target := .fn (.func n) ⟨vs⟩, args := c.args.map ρ' } := by
     unfold resolve
     rw [hc]
     simp only [e1]
     simp [Deferred.ofValue]
   simp only [execOp, ho, hres, Sem.run_bind, Sem.run_pure, Result.andThen_ok]
   rfl
 rw [hrun]
 have hargs : (c.args.map ρ' ++ ⟨vs⟩ : Array Value) = ⟨c.args.toList.map ρ' ++ vs⟩ := by apply Array.ext'; simp
 rw [hargs]
 refine h.calls F φ s1 w (c.args.toList.map ρ' ++ vs) hag hs hfr (by simp [e2.1]) ?_
 intro i x v' hx hv'
 by_cases hi : i < c.args.toList.length
 . rw [List.getElem?_append_left (by simpa using hi)] at hx hv'
   simp only [List.getElem?_map, Option.map_eq_some_iff] at hx hv'
   obtain ⟨a, ha, rfl⟩ := hx
   obtain ⟨b, hb, rfl⟩ := hv'
   rw [ha] at hb
   obtain rfl := Option.some.inj hb
   exact hρ a (by rw [ho]; have := List.mem_of_getElem? ha; simp [Op.operands, Call.operands, hc]; exact .inr (by simpa using this))
 . rw [List.getElem?_append_right (by simpa using hi)] at hx hv'
   simp only [List.length_map] at hx hv'
   exact e2.2 _ _ _ hx hv'
theorem Jz3 {c : Call} {f : Operand} {t n : Nat} {p : Array FieldStep} {b : Bool} {fs : List AV} {v : AV} {rd : List Nat} {up : Store} {nx' : Nat} (ho : o.op = .call c) (hc : c.callee = .value f) (hf : ρ f = .fn (.via t p n b) fs)
   (h : Gives P G n (fs ++ c.args.toList.map ρ) s nx v rd up nx') : OpOK P G o ρ s nx v rd up nx' := by
 refine ⟨h.le, fun F φ s1 w ρ' hag hs hfr hρ => ?_⟩
 have hv := hρ f (by rw [ho]; simp [Op.operands, Call.operands, hc])
 rw [hf] at hv
 obtain ⟨vs, e1, e2⟩ := hv.bfn_inv
 have hrun : (execOp ρ' o).run P w = (callFunc n (⟨vs⟩ ++ c.args.map ρ')).run P w := by
   have hres : resolve ρ' c o.type = pure { target := .fn (.func n) #[], args := ⟨vs⟩ ++ c.args.map ρ' } := by
     unfold resolve
     rw [hc]
     simp only [e1]
     simp [Deferred.ofValue]
   simp only [execOp, ho, hres, Sem.run_bind, Sem.run_pure, Result.andThen_ok]
   simp [invoke]
 rw [hrun]
 have hargs : (⟨vs⟩ ++ c.args.map ρ' : Array Value) = ⟨vs ++ c.args.toList.map ρ'⟩ := by apply Array.ext'; simp
 rw [hargs]
 refine h.calls F φ s1 w (vs ++ c.args.toList.map ρ') hag hs hfr (by simp [e2.1]) ?_
 intro i x v' hx hv'
 by_cases hi : i < fs.length
 . rw [List.getElem?_append_left hi] at hx
   rw [List.getElem?_append_left (by rw [e2.1]; exact hi)] at hv'
   exact e2.2 _ _ _ hx hv'
 . rw [List.getElem?_append_right (by omega)] at hx
   rw [List.getElem?_append_right (by rw [e2.1]; omega), e2.1] at hv'
   simp only [List.getElem?_map, Option.map_eq_some_iff] at hx hv'
   obtain ⟨a, ha, rfl⟩ := hx
   obtain ⟨b, hb, rfl⟩ := hv'
   rw [ha] at hb
   obtain rfl := Option.some.inj hb
   exact hρ a (by rw [ho]; have := List.mem_of_getElem? ha; simp [Op.operands, Call.operands, hc]; exact .inr (by simpa using this))
theorem J09 {c : Call} {f : Operand} {l : Nat} {v : AV} {rd : List Nat} {up : Store} {nx' : Nat} (ho : o.op = .call c) (hc : c.callee = .value f) (hf : ρ f = .fn (.yield l) [])
   (h : GivesY P G l (c.args.toList.map ρ) s nx v rd up nx') : OpOK P G o ρ s nx v rd up nx' := by
 refine ⟨h.le, fun F φ s1 w ρ' hag hs hfr hρ => ?_⟩
 have hv := hρ f (by rw [ho]; simp [Op.operands, Call.operands, hc])
 rw [hf] at hv
 obtain ⟨vs, e1, e2⟩ := hv.fn_inv
 have hvs : vs = [] := List.length_eq_zero_iff.1 (by simpa using e2.1)
 subst hvs
 have hrun : (execOp ρ' o).run P w = (Instr.yield l (c.args.map ρ')).run P w := by
   have hres : resolve ρ' c o.type = pure { target := .fn (.yield l) ⟨[]⟩, args := c.args.map ρ' } := by
     unfold resolve
     rw [hc]
     simp only [e1]
     simp [Deferred.ofValue]
   simp only [execOp, ho, hres, Sem.run_bind, Sem.run_pure, Result.andThen_ok]
   simp [invoke]
 rw [hrun]
 have hargs : (c.args.map ρ' : Array Value) = ⟨c.args.toList.map ρ'⟩ := by apply Array.ext'; simp
 rw [hargs]
 refine h.calls F φ s1 w (c.args.toList.map ρ') hag hs hfr (by simp) ?_
 intro i x v' hx hv'
 simp only [List.getElem?_map, Option.map_eq_some_iff] at hx hv'
 obtain ⟨a, ha, rfl⟩ := hx
 obtain ⟨b, hb, rfl⟩ := hv'
 rw [ha] at hb
 obtain rfl := Option.some.inj hb
 exact hρ a (by rw [ho]; have := List.mem_of_getElem? ha; simp [Op.operands, Call.operands, hc]; exact .inr (by simpa using this))
theorem enters {f : Nat} {fn : Func} {c : Code} {args : Array Value} {w : World} {R : Value -> World -> Prop} (hf : P.funcs[f]? = some fn) (hb : fn.body = some c) (hn : (fn.name == "runtime.NumGoroutine") = false)
   (h : Calls P f args w fun e w' => ∃ v, e = .returned v /\ R v w') : Jbe P R ((callFunc f args).run P w) := by
 have hnone : fn.body.isNone = false := by rw [hb]; rfl
 have : (callFunc f args).run P w = .ok (.enter f args) w := by
   simp only [callFunc, Sem.run_bind, run_program, Result.andThen_ok, hf, hn, hnone, Bool.false_eq_true, if_false, Sem.run_pure]
 rw [this]
 exact h
end
end Go.Am
namespace Go.Am
open Go
section
variable {P : Program}
theorem Ji3 {t : Nat} {y : TyI} {φ own w} {cs : List AV} {vs : List Value} {off : Nat} {a : AV} (hy : tyOf P t = some y) (h : Jf2 y.agg y.size cs off = some a) (hc : Jbd φ own w cs vs) :
   ∃ v, (part t ⟨vs⟩ off).run P w = .ok v w /\ VR φ own w a v := by
 have hv : Jbw y.agg y.size cs off 0 fun v _ _ _ => v = a := by
   unfold Jf2 at h
   unfold Jbw
   split
   . rename_i ha
     rw [if_pos ha] at h
     split at h
     . exact ⟨by assumption, Option.some.inj h⟩
     . cases h
   . rename_i ha
     rw [if_neg ha] at h
     exact Jaz.2 ⟨a, h, rfl⟩
 obtain ⟨v0, e1, e2⟩ := Jf8 (P := P) (φ := φ) (own := own) (w := w) (vs := vs) (Js0 hy) (Jco hy) hv
 subst e1
 exact e2 hc
theorem Jk0 {φ own w} {d : Nat} {eq : Nat -> AV -> AV -> Option Bool} {xs ys : List AV} {us vs : List Value} (hx : Jbd φ own w xs us) (hy : Jbd φ own w ys vs)
   (heq : ∀ (t : Nat) a b c u v, eq t a b = some c -> VR φ own w a u -> VR φ own w b v -> (Op.equalIn d t u v).run P w = .ok c w) :
   ∀ (fs : List Field) (c : Bool), eqF P eq xs ys fs = some c -> (Op.eqFields d ⟨us⟩ ⟨vs⟩ fs).run P w = .ok c w
 | [], c, h => by
   simp [eqF] at h; subst h; rfl
 | f :: fs, c, h => by
   simp only [eqF] at h
   by_cases hn : f.name = "_"
   . rw [if_pos hn] at h
     have := Jk0 hx hy heq fs c h
     simp only [Op.eqFields, hn, ne_eq, not_true_eq_false, if_false]
     exact this
   . rw [if_neg hn] at h
     simp only [Option.bind_eq_some_iff, Option.map_eq_some_iff] at h
     obtain ⟨y, hty, a, ha, b, hb, c0, hc0, c1, hc1, rfl⟩ := h
     obtain ⟨u, e1, e2⟩ := Ji3 hty ha hx
     obtain ⟨v, e3, e4⟩ := Ji3 hty hb hy
     have e5 := heq f.type a b c0 u v hc0 e2 e4
     have e6 := Jk0 hx hy heq fs c1 hc1
     simp only [Op.eqFields, ne_eq, hn, not_false_eq_true, if_true, Sem.run_bind, e1, e3, e5, Result.andThen_ok]
     cases c0 with
     | true => simpa using e6
     | false => simp
theorem Jo7 {φ own w} {d e : Nat} {y : TyI} {eq : AV -> AV -> Option Bool} {xs ys : List AV} {us vs : List Value} (hty : tyOf P e = some y) (hsz : P.cellsOf e = y.size) (hx : Jbd φ own w xs us) (hy : Jbd φ own w ys vs)
   (heq : ∀ a b c u v, eq a b = some c -> VR φ own w a u -> VR φ own w b v -> (Op.equalIn d e u v).run P w = .ok c w) :
   ∀ (is : List Nat) (c : Bool), eqI eq y xs ys is = some c -> (Op.eqItems d e (P.cellsOf e) ⟨us⟩ ⟨vs⟩ is).run P w = .ok c w
 | [], c, h => by
   simp [eqI] at h; subst h; rfl
 | i :: is, c, h => by
   simp only [eqI, Option.bind_eq_some_iff, Option.map_eq_some_iff] at h
   obtain ⟨a, ha, b, hb, c0, hc0, c1, hc1, rfl⟩ := h
   obtain ⟨u, e1, e2⟩ := Ji3 hty ha hx
   obtain ⟨v, e3, e4⟩ := Ji3 hty hb hy
   have e5 := heq a b c0 u v hc0 e2 e4
   have e6 := Jo7 hty hsz hx hy heq is c1 hc1
   rw [hsz] at e6 ⊢
   simp only [Op.eqItems, Sem.run_bind, e1, e3, e5, Result.andThen_ok]
   cases c0 with
   | true => simpa using e6
   | false => simp
theorem Jia {φ own w} : ∀ (d e t : Nat) (x y : AV) (c : Bool) (u v : Value), eqA P d t x y = some c -> d <= e -> VR φ own w x u -> VR φ own w y v -> (Op.equalIn e t u v).run P w = .ok c w
 | 0, _, _, _, _, _, _, _, h, _, _, _ => by simp [eqA] at h
 | d + 1, 0, _, _, _, _, _, _, _, hd, _, _ => by omega
 | d + 1, e + 1, t, x, y, c, u, v, h, hd, hx, hy => by
   simp only [eqA] at h
   split at h
   . rename_i k0 k a k' b ht
     split at h
     . rename_i hk
       subst hk
       cases h
       rw [hx.int_inv, hy.int_inv, run_equalIn_int w e t k k0 a b ht]
       rfl
     . cases h
   . rename_i a b ht
     cases h
     rw [hx.bool_inv, hy.bool_inv]
     exact run_equalIn_bool' w e t a b ht
   . rename_i a b ht
     cases h
     rw [hx.str_inv, hy.str_inv, run_equalIn_string w e t _ _ ht]
     congr 1
     simp [ByteArray.toList_eq, Bool.beq_eq_decide_eq]
   . rename_i fs xs ys ht
     split at h
     . cases h
     . rename_i hst
       obtain ⟨us, rfl, hus⟩ := hx.agg_inv
       obtain ⟨vs, rfl, hvs⟩ := hy.agg_inv
       have hf : P.fieldsOf t = fs := by simp [Program.fieldsOf, ht]
       rw [run_equalIn_struct w e t ⟨us⟩ ⟨vs⟩ (by rw [hf]; exact ht) (by simpa using hst), hf]
       exact Jk0 hus hvs (fun t a b c u v h1 h2 h3 => Jia d e t a b c u v h1 (by omega) h2 h3) fs.toList c h
   . rename_i n el xs ys ht
     obtain ⟨ty, hty, h⟩ := Option.bind_eq_some_iff.1 h
     obtain ⟨i, dd, z, hs⟩ := Jav hty
     obtain ⟨us, rfl, hus⟩ := hx.agg_inv
     obtain ⟨vs, rfl, hvs⟩ := hy.agg_inv
     have hsz : P.cellsOf el = ty.size := by simp [Program.cellsOf, hs.info, hs.size]
     rw [run_equalIn_array w e ⟨us⟩ ⟨vs⟩ ht hs.info]
     exact Jo7 hty hsz hus hvs (fun a b c u v h1 h2 h3 => Jia d e el a b c u v h1 (by omega) h2 h3) (List.range n) c h
   . cases h
theorem Jwr {t : Nat} {cs ds : List AV} {c : Bool} (hg : P.eqGuardType P.depth t = false) (h : eqA P 8 t (.agg cs) (.agg ds) = some c) : Jnk P t cs ds c := by
 intro φ own w v v' hv hv' x y op hop
 have e := Jia 8 10000 t _ _ c v v' h (by omega) hv hv'
 obtain ⟨us, rfl, _⟩ := hv.agg_inv
 obtain ⟨vs, rfl, _⟩ := hv'.agg_inv
 simp only [Sem.run_bind, run_eqGuard_agg w op t x y ⟨us⟩ ⟨vs⟩ hg, Result.andThen_ok]
 exact e
end
end Go.Am
namespace Go.Am
open Go
theorem Jmy : ∀ {xs : List AV} {ys : List PV}, unpL xs = some ys -> xs = ys.map AV.p
 | [], ys, h => by simp [unpL] at h; subst h; rfl
 | x :: xs, ys, h => by
   simp only [unpL, Option.bind_eq_some_iff, Option.map_eq_some_iff] at h
   obtain ⟨y, h1, zs, h2, rfl⟩ := h
   cases x <;> simp [unpC] at h1
   subst h1
   simp [Jmy h2]
theorem Jhj : ∀ {xs : List (List AV)} {ys : List (List PV)}, unpR xs = some ys -> xs = ys.map (·.map AV.p)
 | [], ys, h => by simp [unpR] at h; subst h; rfl
 | x :: xs, ys, h => by
   simp only [unpR, Option.bind_eq_some_iff, Option.map_eq_some_iff] at h
   obtain ⟨y, h1, zs, h2, rfl⟩ := h
   simp [Jhj h2, Jmy h1]
section
variable {P : Program} {G : Jac} {o : Oper} {ρ : Operand -> AV} {s : Store} {nx : Nat}
theorem J06 {t u : Nat} {x y : Operand} {k k' : IntKind} {a b : Int} (ho : o.op = .binOp .shr t x y u) (hx : ρ x = .p (.int k a)) (hy : ρ y = .p (.int k' b)) (h0 : 0 <= b) (h1 : b <= k.bits) :
   OpOK P G o ρ s nx (.p (.int k (a.fdiv (2 ^ b.toNat)))) [] [] nx := by
 refine Jek ho fun φ own w a' b' ha hb => ?_
 rw [hx] at ha
 rw [hy] at hb
 rw [ha.int_inv, hb.int_inv]
 refine ⟨.int k (a.fdiv (2 ^ b.toNat)), ?_, .p _ _ (.int ..)⟩
 have hn : ¬ b < 0 := by omega
 have hm : min b.toNat k.bits = b.toNat := by omega
 simp [binOp, Op.shift, eqGuard, hn, hm]
theorem J04 {t u : Nat} {x y : Operand} {k k' : IntKind} {a b : Int} (ho : o.op = .binOp .shl t x y u) (hx : ρ x = .p (.int k a)) (hy : ρ y = .p (.int k' b)) (h : 0 <= a /\ 0 <= b /\ b <= k.bits /\ k.wrap (shlN a.toNat b.toNat : Nat) = (shlN a.toNat b.toNat : Nat)) :
   OpOK P G o ρ s nx (.p (.int k (shlN a.toNat b.toNat : Nat))) [] [] nx := by
 refine Jek ho fun φ own w a' b' ha hb => ?_
 rw [hx] at ha
 rw [hy] at hb
 rw [ha.int_inv, hb.int_inv]
 obtain ⟨h0, h1, h2, h3⟩ := h
 refine ⟨.int k (shlN a.toNat b.toNat : Nat), ?_, .p _ _ (.int ..)⟩
 have hn : ¬ b < 0 := by omega
 have hm : min b.toNat k.bits = b.toNat := by omega
 have he : a * 2 ^ b.toNat = ((shlN a.toNat b.toNat : Nat) : Int) := by
   unfold shlN
   rw [Int.natCast_mul, Int.toNat_of_nonneg h0]
   simp
 simp only [binOp, Op.shift, eqGuard, if_neg hn, hm, he, h3]
 simp
theorem J05 {op : BinOp} {t u : Nat} {x y : Operand} {K : KT} (ho : o.op = .binOp op t x y u) (hw : Jio op y = true) (h : Jjp (ρ x) (ρ y) nx K) : ∃ v rd up nx', K v rd up nx' /\ OpOK P G o ρ s nx v rd up nx' := by
 have hop : op = .shl := by
   unfold Jio at hw
   split at hw
   . rfl
   . cases hw
 subst hop
 unfold Jjp at h
 split at h
 . rename_i a k' b hx hy
   obtain ⟨⟨h0, rfl⟩, hK⟩ := h
   refine ⟨_, _, _, _, hK, Jek ho fun φ own w a' b' ha hb => ?_⟩
   rw [hx] at ha
   rw [hy] at hb
   rw [ha.int_inv, hb.int_inv]
   refine ⟨.int .u64 (m64 (shlN a.toNat 32) : Nat), ?_, .p _ _ (.int ..)⟩
   have he : a * 2 ^ 32 = ((shlN a.toNat 32 : Nat) : Int) := by
     unfold shlN
     rw [Int.natCast_mul, Int.toNat_of_nonneg h0]
     simp
   have hwr : IntKind.u64.wrap ((shlN a.toNat 32 : Nat) : Int) = ((m64 (shlN a.toNat 32) : Nat) : Int) := by
     simp [m64, IntKind.wrap, IntKind.bits, IntKind.signed]
   have hm : min 32 IntKind.u64.bits = 32 := rfl
   simp only [binOp, Op.shift, eqGuard, if_neg (show ¬ (32 : Int) < 0 by decide), show (32 : Int).toNat = 32 from rfl, hm, he, hwr]
   simp
 . exact h.elim
theorem J00 {op : BinOp} {t u e : Nat} {x y : Operand} {ty : TyI} {K : KT} (ho : o.op = .binOp op t x y u) (hy : Jim y = true) (ht : tyOf P t = some ty) (htd : ty.td = .slice e) (h : vnil op (ρ x) nx K) :
   ∃ v rd up nx', K v rd up nx' /\ OpOK P G o ρ s nx v rd up nx' := by
 obtain ⟨i, d, z, hs⟩ := Jav ht
 rw [hs.td] at htd
 obtain rfl := Jbo htd
 have hyc : y = .const (.slice none 0 0) := by
   unfold Jim at hy
   split at hy
   . rfl
   . cases hy
 subst hyc
 have run : ∀ (op : BinOp) (w : World) (a : Option Addr) (l c : Nat), op = .eql \/ op = .neq -> (do eqGuard op t x (.const (.slice none 0 0)) (.slice a l c) (.slice none 0 0); binOp op t (.slice a l c) (.slice none 0 0) : Sem Value).run P w = .ok (.bool (if op = .eql then a.isNone else !a.isNone)) w := by
   intro op w a l c hop
   have h1 := run_equal_slice_nil (P := P) w t e a l c hs.under
   rcases hop with rfl | rfl
   . simp [eqGuard, binOp, h1]
   . simp [eqGuard, binOp, h1]
 have any : ∀ (op : BinOp), op = .eql \/ op = .neq -> ∀ (w : World) (v : Value), (∃ a l c, v = .slice a l c) -> ∃ b, (do eqGuard op t x (.const (.slice none 0 0)) v (.slice none 0 0); binOp op t v (.slice none 0 0) : Sem Value).run P w = .ok (.bool b) w := by
   rintro op hop w _ ⟨a, l, c, rfl⟩
   exact ⟨_, run op w a l c hop⟩
 have exec : ∀ (ρ' : Operand -> Value), execOp ρ' o = (do eqGuard op t x (.const (.slice none 0 0)) (ρ' x) (ρ' (.const (.slice none 0 0))); pure (.value (<- binOp op t (ρ' x) (ρ' (.const (.slice none 0 0))))) : Sem Next) := by
   intro ρ'
   simp [execOp, ho]
 have fin : ∀ (c : Bool), (op = .eql \/ op = .neq) -> (∀ (φ : Places) (own : Nat -> Prop) (w : World) (v : Value), VR φ own w (ρ x) v -> ∃ a l cp, v = .slice a l cp /\ (if op = .eql then a.isNone else !a.isNone) = c) ->
     OpOK P G o ρ s nx (.p (.bool c)) [] [] nx := fun c hop hc => OpOK.same fun F φ s1 w ρ' _ _ hρ => by
   obtain ⟨a, l, cp, e1, e2⟩ := hc φ _ w _ (hρ x (by simp [ho, Op.operands]))
   refine ⟨.bool c, ?_, .p _ _ (.bool ..)⟩
   have := run op w a l cp hop
   rw [exec, hρ.const, e1]
   simp only [Sem.run_bind] at this ⊢
   rw [e2] at this
   revert this
   cases (eqGuard op t x (Operand.const (Value.slice none 0 0)) (Value.slice a l cp) (Value.slice none 0 0)).run P w with
   | ok u w1 =>
     simp only [Result.andThen_ok]
     intro this
     rw [this]
     rfl
   | halt e w1 => intro this; cases this
 have fin2 : (op = .eql \/ op = .neq) -> (∀ (φ : Places) (own : Nat -> Prop) (w : World) (v : Value), VR φ own w (ρ x) v -> ∃ a l cp, v = .slice a l cp) ->
     OpOK P G o ρ s nx .ubool [] [] nx := fun hop hc => OpOK.same fun F φ s1 w ρ' _ _ hρ => by
   obtain ⟨a, l, cp, e1⟩ := hc φ _ w _ (hρ x (by simp [ho, Op.operands]))
   refine ⟨.bool (if op = .eql then a.isNone else !a.isNone), ?_, .ubool _⟩
   have := run op w a l cp hop
   rw [exec, hρ.const, e1]
   simp only [Sem.run_bind] at this ⊢
   revert this
   cases (eqGuard op t x (Operand.const (Value.slice none 0 0)) (Value.slice a l cp) (Value.slice none 0 0)).run P w with
   | ok u w1 =>
     simp only [Result.andThen_ok]
     intro this
     rw [this]
     rfl
   | halt e w1 => intro this; cases this
 have bo : ∀ (hop : op = .eql \/ op = .neq) (hc : ∀ (φ : Places) (own : Nat -> Prop) (w : World) (v : Value), VR φ own w (ρ x) v -> ∃ a l cp, v = .slice (some a) l cp), Jbu op false nx K -> ∃ v rd up nx', K v rd up nx' /\ OpOK P G o ρ s nx v rd up nx' := by
   intro hop hc h
   rcases hop with rfl | rfl
   . exact ⟨_, _, _, _, h, fin false (.inl rfl) fun φ own w v hv => by obtain ⟨a, l, cp, e⟩ := hc φ own w v hv; exact ⟨some a, l, cp, e, rfl⟩⟩
   . exact ⟨_, _, _, _, h, fin true (.inr rfl) fun φ own w v hv => by obtain ⟨a, l, cp, e⟩ := hc φ own w v hv; exact ⟨some a, l, cp, e, rfl⟩⟩
 have opOf : ∀ {c}, Jbu op c nx K -> op = .eql \/ op = .neq := by
   intro c h; unfold Jbu at h; cases op <;> simp at h ⊢
 have opOf2 : vunk op nx K -> (op = .eql \/ op = .neq) /\ K .ubool [] [] nx := by
   intro h; unfold vunk at h; cases op <;> simp at h ⊢ <;> exact h
 unfold vnil at h
 split at h
 . rename_i k rows hx
   by_cases hr : rows = []
   . obtain ⟨hop, hK⟩ := opOf2 (h.1 hr)
     refine ⟨_, _, _, _, hK, fin2 hop fun φ own w v hv => ?_⟩
     rw [hx] at hv
     rcases hv.p_inv.lst_inv with ⟨_, a, c, rfl⟩ | ⟨β, c, cap, rfl, _⟩ <;> exact ⟨_, _, _, rfl⟩
   . have h := h.2 hr
     refine bo (opOf h) (fun φ own w v hv => ?_) h
     rw [hx] at hv
     obtain ⟨β, c, cap, rfl, _⟩ := hv.lst_addr hr
     exact ⟨_, _, _, rfl⟩
 . rename_i b k i n c hx
   refine bo (opOf h) (fun φ own w v hv => ?_) h
   rw [hx] at hv
   obtain ⟨β, δ, cap, _, _, _, _, rfl⟩ := hv.ref_inv
   exact ⟨_, _, _, rfl⟩
 . rename_i b k n hx
   by_cases hr : n = 0
   . obtain ⟨hop, hK⟩ := opOf2 (h.1 hr)
     refine ⟨_, _, _, _, hK, fin2 hop fun φ own w v hv => ?_⟩
     rw [hx] at hv
     cases hv <;> exact ⟨_, _, _, rfl⟩
   . have h := h.2 hr
     refine bo (opOf h) (fun φ own w v hv => ?_) h
     rw [hx] at hv
     obtain ⟨β, δ, cap, _, _, rfl⟩ := hv.acc_inv (by omega)
     exact ⟨_, _, _, rfl⟩
 . rename_i hx
   obtain ⟨hop, hK⟩ := opOf2 h
   refine ⟨_, _, _, _, hK, fin2 hop fun φ own w v hv => ?_⟩
   rw [hx] at hv
   obtain ⟨a, rfl⟩ := hv.nils_inv
   exact ⟨_, _, _, rfl⟩
 . exact h.elim
theorem Jv7 {own w β c k n} {rows : List (List PV)} {i j kk : Nat} {row : List PV} (h : Jbq own w kk rows β c) (hr : rows[i]? = some row) (hl : j + n * k <= row.length) :
   Jbq own w k (chunks k n (row.drop j)) β (c + i * kk + j) := by
 intro p q r x hp hq
 simp only [chunks, List.getElem?_map, Option.map_eq_some_iff] at hp
 obtain ⟨m, hm, rfl⟩ := hp
 obtain ⟨hm1, rfl⟩ : p < n /\ p = m := by
   obtain ⟨h1, h2⟩ := gsI.1 hm
   simp at h1 h2
   exact ⟨h1, h2⟩
 have hq1 : q < k := by
   have := (gsI.1 hq).1
   simp at this; omega
 rw [List.getElem?_take_of_lt hq1, List.getElem?_drop, List.getElem?_drop] at hq
 obtain ⟨v, h1, h2⟩ := h i (j + (p * k + q)) row x hr hq
 refine ⟨v, ?_, h2⟩
 rw [<- h1]
 congr 2
 omega
theorem Jzv {F φ s1 w b x p} (hs : SR G F φ s1 w) (hg : get s1 b = some x) (hφ : φ b = some p) : ¬ ownF F φ ((b, none) :: s1) p.1 := by
 rintro (h | ⟨c, y, q, k1, k2, k3⟩)
 . exact hs.disj b x p hg hφ h
 . by_cases e : b = c
   . subst e; simp [get] at k1
   . simp only [get, if_neg e] at k1
     exact e (hs.inj c b y x q p k1 hg k2 hφ k3).symm
theorem Jz1 {t n kk b i j k : Nat} {x : Operand} {rows : List (List AV)} {row : List AV} {K : KT} (ho : o.op = .slice t x none none none) (hx : ρ x = .ptr b kk i j) (hg : get s b = some (.cells kk rows)) (hr : rows[i]? = some row)
   (h : 0 < k /\ 0 < n /\ i = 0 /\ j = 0 /\ rows.length = 1 /\ row.length = n * k /\ K (.ref b k 0 n (some n)) [b] [(b, some (.cells k (Jh7 k n row)))] nx)
   (run : ∀ (ρ' : Operand -> Value) (w : World) (β off : Nat), 0 < n -> ρ' x = .pointer (some ⟨β, off, none⟩) -> (execOp ρ' o).run P w = .ok (.value (.slice (some ⟨β, off, none⟩) n n)) w) :
   ∃ v rd up nx', K v rd up nx' /\ OpOK P G o ρ s nx v rd up nx' := by
 obtain ⟨hk, hn, rfl, rfl, hl1, hl, hK⟩ := h
 refine ⟨_, _, _, _, hK, Nat.le_refl _, fun F φ s1 w ρ' hag hsr _ hρ => ?_⟩
 have hv := hρ x (by simp [ho, Op.operands])
 rw [hx] at hv
 obtain ⟨β, δ, hφ, hv⟩ := hv.ptr_inv
 rw [run ρ' w _ _ hn hv]
 have hg1 : get s1 b = some (.cells kk rows) := (hag b (by simp)).trans hg
 obtain ⟨β', δ', arr, T, e1, e2, e3⟩ := hsr.blk b _ hg1
 rw [hφ] at e1; cases e1
 let X : ABlk := .cells k (Jh7 k n row)
 have hsub : ∀ F' : Nat -> Prop, ∀ β, ownF F' φ ((b, some X) :: s1) β -> ownF F' φ s1 β := by
   rintro F' β2 (hF | ⟨c2, y2, p2, k1, k2, k3⟩)
   . exact .inl hF
   . by_cases e : b = c2
     . subst e; exact .inr ⟨b, _, p2, hg1, k2, k3⟩
     . simp only [get, if_neg e] at k1
       exact .inr ⟨c2, y2, p2, k1, k2, k3⟩
 have st : ∀ F' : Nat -> Prop, Step (ownF F' φ s1) (ownF F' φ ((b, some X) :: s1)) w w := fun F' => ⟨fun _ _ h => ⟨rfl, fun h' => h (hsub F' _ h')⟩, Nat.le_refl _, fun _ arr _ h => ⟨arr, h, rfl⟩, rfl, rfl, rfl⟩
 have hbr : BR φ (ownF F φ ((b, some X) :: s1)) w b X := by
   refine ⟨β, δ, arr, T, hφ, e2, fun p q r z hp1 hq1 => ?_⟩
   simp only [Jh7, List.getElem?_map, Option.map_eq_some_iff] at hp1
   obtain ⟨m, hm, rfl⟩ := hp1
   obtain ⟨hm1, rfl⟩ : p < n /\ p = m := by
     obtain ⟨h1, h2⟩ := gsI.1 hm
     simp at h1 h2
     exact ⟨h1, h2⟩
   have hq2 : q < k := by
     have := (gsI.1 hq1).1
     simp at this; omega
   rw [List.getElem?_take_of_lt hq2, List.getElem?_drop] at hq1
   obtain ⟨_, v, h3, h4⟩ := e3 0 _ row _ hr hq1
   refine ⟨hq2, v, ?_, h4.mono (fun _ _ h => h) (st F)⟩
   rw [<- h3]
   congr 1
   omega
 have hsz : δ + (0 + n) * k <= arr.size := by
   have hlt : n * k - 1 < row.length := by have := Nat.mul_pos hn hk; omega
   obtain ⟨_, v, h3, _⟩ := e3 0 _ row _ hr (List.getElem?_eq_getElem hlt)
   have := (Array.getElem?_eq_some_iff.1 h3).1
   have := Nat.mul_pos hn hk
   rw [Nat.zero_add]
   omega
 have getX : ∀ b' x', get ((b, some X) :: s1) b' = some x' -> (b' = b /\ x' = X) \/ get s1 b' = some x' := by
   intro b' x' hb'
   by_cases e : b = b'
   . subst e; simp [get] at hb'; exact .inl ⟨rfl, hb'.symm⟩
   . simp only [get, if_neg e] at hb'; exact .inr hb'
 have get1 : ∀ b' x', get ((b, some X) :: s1) b' = some x' -> ∃ x2, get s1 b' = some x2 := by
   intro b' x' hb'
   rcases getX b' x' hb' with ⟨rfl, _⟩ | h1
   . exact ⟨_, hg1⟩
   . exact ⟨_, h1⟩
 refine ⟨φ, fun _ _ h => h, fun _ _ => rfl, ?_, ?_, st⟩
 . refine hsr.change (fun _ _ h => h) (st F) (fun b' x' hb' => ?_) (fun b1 b2 x1 x2 p1 p2 q1 q2 => ?_) (fun b1 x1 p1 q1 => ?_)
   . rcases getX b' x' hb' with ⟨rfl, rfl⟩ | h1
     . exact .inr hbr
     . exact .inl ⟨h1, fun _ _ => rfl⟩
   . obtain ⟨_, q1'⟩ := get1 b1 x1 q1
     obtain ⟨_, q2'⟩ := get1 b2 x2 q2
     exact hsr.inj b1 b2 _ _ p1 p2 q1' q2'
   . obtain ⟨_, q1'⟩ := get1 b1 x1 q1
     exact hsr.disj b1 _ p1 q1'
 . have := VR.ref (own := ownF F φ ((b, some X) :: s1)) (w := w) b k 0 n (some n) β δ n hφ (fun c' hc' => Option.some.inj hc') (Nat.le_refl _) ⟨arr, _, e2, hsz⟩
   simpa using this
theorem Jq8 {t n e : Nat} {x : Operand} {ye : TyI} {K : KT} (ho : o.op = .slice t x none none none) (hye : tyOf P e = some ye) (h : varr n ye.size (ρ x) s nx K)
   (run : ∀ (ρ' : Operand -> Value) (w : World) (β off : Nat), 0 < n -> ρ' x = .pointer (some ⟨β, off, none⟩) -> (execOp ρ' o).run P w = .ok (.value (.slice (some ⟨β, off, none⟩) n n)) w) :
   ∃ v rd up nx', K v rd up nx' /\ OpOK P G o ρ s nx v rd up nx' := by
 unfold varr at h
 split at h
 . rename_i kk rows i j hx
   obtain ⟨row, hr, hk, hn, hl, hK⟩ := Jaz.1 h
   refine ⟨_, _, _, _, hK, OpOK.same fun F φ s1 w ρ' _ _ hρ => ?_⟩
   have hv := hρ x (by simp [ho, Op.operands])
   rw [hx] at hv
   obtain ⟨β, c, hβ, hown, hrows, hv⟩ := hv.iptr_inv
   refine ⟨_, run ρ' w _ _ hn hv, ?_⟩
   have h1 := Jv7 (k := ye.size) (n := n) hrows hr hl
   have hlen : (chunks ye.size n (row.drop j)).length = n := by simp [chunks]
   have := VRp.lst_of (c := n) (by rw [hlen]; exact Nat.le_refl _) hβ hown h1
   rw [hlen] at this
   exact .p _ _ this
 . rename_i b kk i j hx
   obtain ⟨rows, hg, h⟩ := Jcj.1 h
   obtain ⟨row, hr, h⟩ := Jaz.1 h
   cases hp : unpL ((row.drop j).take (n * ye.size)) with
   | none =>
     rw [hp] at h
     exact Jz1 ho hx hg hr h run
   | some pcs =>
   rw [hp] at h
   obtain ⟨hk, hn, hl, hK⟩ := h
   refine ⟨_, _, _, _, hK, Nat.le_refl _, fun F φ s1 w ρ' hag hs _ hρ => ?_⟩
   have hv := hρ x (by simp [ho, Op.operands])
   rw [hx] at hv
   obtain ⟨β, δ, hφ, hv⟩ := hv.ptr_inv
   rw [run ρ' w _ _ hn hv]
   have hg1 : get s1 b = some (.cells kk rows) := (hag b (by simp)).trans hg
   obtain ⟨β', δ', arr, T, e1, e2, e3⟩ := hs.blk b _ hg1
   rw [hφ] at e1; cases e1
   have st : ∀ F' : Nat -> Prop, Step (ownF F' φ s1) (ownF F' φ ((b, none) :: s1)) w w := fun F' => ⟨fun _ _ h => ⟨rfl, fun h' => h (Ji1 h')⟩, Nat.le_refl _, fun _ arr _ h => ⟨arr, h, rfl⟩, rfl, rfl, rfl⟩
   refine ⟨φ, fun _ _ h => h, fun _ _ => rfl, hs.drop b, ?_, st⟩
   have hpe := Jmy hp
   have h1 : Jbq (ownF F φ ((b, none) :: s1)) w ye.size (chunks ye.size n pcs) β (δ + i * kk + j) := by
     intro p q r z hp1 hq1
     simp only [chunks, List.getElem?_map, Option.map_eq_some_iff] at hp1
     obtain ⟨m, hm, rfl⟩ := hp1
     obtain ⟨hm1, rfl⟩ : p < n /\ p = m := by
       obtain ⟨h1, h2⟩ := gsI.1 hm
       simp at h1 h2
       exact ⟨h1, h2⟩
     have hq2 : q < ye.size := by
       have := (gsI.1 hq1).1
       simp at this; omega
     rw [List.getElem?_take_of_lt hq2, List.getElem?_drop] at hq1
     have hlt : p * ye.size + q < n * ye.size := by
       have : (p + 1) * ye.size <= n * ye.size := Nat.mul_le_mul_right _ hm1
       rw [Nat.succ_mul] at this; omega
     have hz : row[j + (p * ye.size + q)]? = some (.p z) := by
       have h2 : ((row.drop j).take (n * ye.size))[p * ye.size + q]? = some (.p z) := by rw [hpe, List.getElem?_map, hq1]; rfl
       rwa [List.getElem?_take_of_lt hlt, List.getElem?_drop] at h2
     obtain ⟨_, v, h3, h4⟩ := e3 i _ row _ hr hz
     refine ⟨v, ?_, h4.p_inv.mono (st F)⟩
     rw [Jet e2, <- h3]
     congr 1
     omega
   have hlen : (chunks ye.size n pcs).length = n := by simp [chunks]
   have := VRp.lst_of (c := n) (by rw [hlen]; exact Nat.le_refl _) (Array.getElem?_eq_some_iff.1 e2).1 (Jzv hs hg1 hφ) h1
   rw [hlen] at this
   exact .p _ _ this
 . exact h.elim
theorem Jz0 {t n e : Nat} {x : Operand} {y ye : TyI} {K : KT} (ho : o.op = .slice t x none none none) (hy : tyOf P t = some y) (htd : y.td = .arrp n e) (hye : tyOf P e = some ye) (h : varr n ye.size (ρ x) s nx K) :
   ∃ v rd up nx', K v rd up nx' /\ OpOK P G o ρ s nx v rd up nx' := by
 obtain ⟨i, d, z, hs⟩ := Jav hy
 rw [hs.td] at htd
 obtain ⟨a0, rfl, ha0⟩ := J2p htd
 have hse := fun w => Jco hye w
 refine Jq8 ho hye h fun ρ' w β off hn hv => ?_
 have hn' : ¬ n = 0 := by omega
 simp [execOp, ho, Instr.sliceAt, hs.underlying, Instr.slice, hv, hse, asAddr, run_underlying ha0, Instr.sliceBounds, hn', addr_add]
theorem Jzz {t n e : Nat} {x : Operand} {y ye : TyI} {K : KT} (ho : o.op = .slice t x none none none) (hy : tyOf P t = some y) (htd : y.td = .array n e) (hye : tyOf P e = some ye) (h : varr n ye.size (ρ x) s nx K) :
   ∃ v rd up nx', K v rd up nx' /\ OpOK P G o ρ s nx v rd up nx' := by
 obtain ⟨i, d, z, hs⟩ := Jav hy
 rw [hs.td] at htd
 obtain rfl := Jgg htd
 have hse := fun w => Jco hye w
 refine Jq8 ho hye h fun ρ' w β off hn hv => ?_
 have hn' : ¬ n = 0 := by omega
 simp [execOp, ho, Instr.sliceAt, hs.underlying, hv, hse, Instr.sureAddr, Instr.sliceBounds, hn', addr_add]
theorem Jra {t e : Nat} {x hi : Operand} {lo : Option Operand} {l : Int} {y ye : TyI} {b k i n c : Nat} {ik : IntKind} {h : Int} {K : KT} (ho : o.op = .slice t x lo (some hi) none) (hy : tyOf P t = some y) (htd : y.td = .slice e) (hye : tyOf P e = some ye)
   (hx : ρ x = .ref b k i n (some c)) (hh : ρ hi = .p (.int ik h)) (hk : k = ye.size) (hlo : (lo = none /\ l = 0) \/ ∃ lo' ik', lo = some lo' /\ ρ lo' = .p (.int ik' l)) (hlt : (n : Int) < h) (hvg : Jm5 (b, k, i, n, c, h, l) s nx K) : ∃ v rd up nx', K v rd up nx' /\ OpOK P G o ρ s nx v rd up nx' := by
 obtain ⟨ii, d, z, hs⟩ := Jav hy
 rw [hs.td] at htd
 obtain rfl := Jbo htd
 have hse := fun w => Jco hye w
 obtain ⟨rows, hg, hc, hk0, hlen, hl0, hlh, hK⟩ := Jcj.1 hvg
 refine ⟨_, _, _, _, hK, Nat.le_refl _, fun F φ s1 w ρ' hag hsr _ hρ => ?_⟩
 have hvx := hρ x (by simp [ho, Op.operands])
 rw [hx] at hvx
 have hv2 := hρ hi (by simp [ho, Op.operands])
 rw [hh] at hv2
 have hv3 := hv2.int_inv
 obtain ⟨β, δ, cap, hφ, hcc, hn, room, hv⟩ := hvx.ref_inv
 have hcap := hcc c rfl
 subst hcap
 have hg1 : get s1 b = some (.cells k rows) := (hag b (by simp)).trans hg
 obtain ⟨β', δ', arr, T, e1, e2, e3⟩ := hsr.blk b _ hg1
 rw [hφ] at e1; cases e1
 obtain ⟨arr2, T2, r1, r2⟩ := room
 rw [e2] at r1; cases r1
 have h0 : 0 <= h /\ h <= cap := by omega
 have hc0 : ¬ cap = 0 := by omega
 have hl1 : l.toNat < h.toNat := by omega
 have hrun : (execOp ρ' o).run P w = .ok (.value (.slice (some ⟨β, δ + (i + l.toNat) * k, none⟩) (h.toNat - l.toNat) (cap - l.toNat))) w := by
   rcases hlo with ⟨rfl, rfl⟩ | ⟨lo', ik', rfl, hlo⟩
   . simp [execOp, ho, Instr.sliceAt, hs.underlying, Instr.slice, hv, hse, hv3, Instr.sliceBounds, Instr.sliceBound, asIntOf, h0, hc0, addr_add]
   . have hv4 := hρ lo' (by simp [ho, Op.operands])
     rw [hlo] at hv4
     have hv5 := hv4.int_inv
     have hcl : ¬ cap = l.toNat := by omega
     have hlh2 : l <= h := by omega
     simp [execOp, ho, Instr.sliceAt, hs.underlying, Instr.slice, hv, hse, hv3, hv5, Instr.sliceBounds, Instr.sliceBound, asIntOf, h0, hl0, hlh2, hcl, addr_add, Nat.add_mul, Nat.add_assoc]
     rw [if_pos (by omega), hk]
 rw [hrun]
 let X : ABlk := .cells k (rows ++ List.replicate (i + h.toNat - rows.length) (List.replicate k .any))
 have hsub : ∀ F' : Nat -> Prop, ∀ β, ownF F' φ ((b, some X) :: s1) β -> ownF F' φ s1 β := by
   rintro F' β2 (hF | ⟨c2, y2, p2, k1, k2, k3⟩)
   . exact .inl hF
   . by_cases e : b = c2
     . subst e; exact .inr ⟨b, _, p2, hg1, k2, k3⟩
     . simp only [get, if_neg e] at k1
       exact .inr ⟨c2, y2, p2, k1, k2, k3⟩
 have st : ∀ F' : Nat -> Prop, Step (ownF F' φ s1) (ownF F' φ ((b, some X) :: s1)) w w := fun F' => ⟨fun _ _ h => ⟨rfl, fun h' => h (hsub F' _ h')⟩, Nat.le_refl _, fun _ arr _ h => ⟨arr, h, rfl⟩, rfl, rfl, rfl⟩
 have hbr : BR φ (ownF F φ ((b, some X) :: s1)) w b X := by
   refine ⟨β, δ, arr, T, hφ, e2, fun p j row x hr hxx => ?_⟩
   by_cases hp : p < rows.length
   . rw [List.getElem?_append_left hp] at hr
     obtain ⟨hj, v, q1, q2⟩ := e3 p j row x hr hxx
     exact ⟨hj, v, q1, q2.mono (fun _ _ h => h) (st F)⟩
   . rw [List.getElem?_append_right (by omega), List.getElem?_replicate] at hr
     split at hr
     . rename_i hlt2
       cases hr
       rw [List.getElem?_replicate] at hxx
       split at hxx
       . rename_i hj
         cases hxx
         have hlt3 : δ + p * k + j < arr.size := by
           have : (p + 1) * k <= (i + cap) * k := Nat.mul_le_mul_right _ (by omega)
           rw [Nat.succ_mul] at this
           omega
         exact ⟨hj, arr[δ + p * k + j], Array.getElem?_eq_getElem hlt3, .any _⟩
       . cases hxx
     . cases hr
 have getX : ∀ b' x', get ((b, some X) :: s1) b' = some x' -> (b' = b /\ x' = X) \/ get s1 b' = some x' := by
   intro b' x' hb'
   by_cases e : b = b'
   . subst e; simp [get] at hb'; exact .inl ⟨rfl, hb'.symm⟩
   . simp only [get, if_neg e] at hb'; exact .inr hb'
 have get1 : ∀ b' x', get ((b, some X) :: s1) b' = some x' -> ∃ x2, get s1 b' = some x2 := by
   intro b' x' hb'
   rcases getX b' x' hb' with ⟨rfl, _⟩ | h1
   . exact ⟨_, hg1⟩
   . exact ⟨_, h1⟩
 refine ⟨φ, fun _ _ h => h, fun _ _ => rfl, ?_, ?_, st⟩
 . refine hsr.change (fun _ _ h => h) (st F) (fun b' x' hb' => ?_) (fun b1 b2 x1 x2 p1 p2 q1 q2 => ?_) (fun b1 x1 p1 q1 => ?_)
   . rcases getX b' x' hb' with ⟨rfl, rfl⟩ | h1
     . exact .inr hbr
     . exact .inl ⟨h1, fun _ _ => rfl⟩
   . obtain ⟨_, q1'⟩ := get1 b1 x1 q1
     obtain ⟨_, q2'⟩ := get1 b2 x2 q2
     exact hsr.inj b1 b2 _ _ p1 p2 q1' q2'
   . obtain ⟨_, q1'⟩ := get1 b1 x1 q1
     exact hsr.disj b1 _ p1 q1'
 . refine .ref b k (i + l.toNat) (h.toNat - l.toNat) _ β δ (cap - l.toNat) hφ (fun c' hc' => Option.some.inj hc') (by omega) ⟨arr, _, e2, Nat.le_trans ?_ r2⟩
   have : (i + l.toNat + (cap - l.toNat)) * k <= (i + cap) * k := Nat.mul_le_mul_right _ (by omega)
   omega
theorem J08 {t : Nat} {x : Operand} {lo hi mx : Option Operand} {y : TyI} {K : KT} (ho : o.op = .slice t x lo hi mx) (hy : tyOf P t = some y) (h : vsl P y.td (ρ x) (lo.map ρ) (hi.map ρ) (mx.map ρ) s nx K) :
   ∃ v rd up nx', K v rd up nx' /\ OpOK P G o ρ s nx v rd up nx' := by
 unfold vsl at h
 split at h
 . rename_i n e htd
   obtain ⟨h1, h2, h3, h⟩ := h
   obtain ⟨ye, hye, h⟩ := Ja4.1 h
   have e1 : lo = none := by cases lo <;> simp at h1 ⊢
   have e2 : hi = none := by cases hi <;> simp at h2 ⊢
   have e3 : mx = none := by cases mx <;> simp at h3 ⊢
   subst e1; subst e2; subst e3
   exact Jz0 ho hy htd hye h
 . rename_i n e htd
   obtain ⟨h1, h2, h3, h⟩ := h
   obtain ⟨ye, hye, h⟩ := Ja4.1 h
   have e1 : lo = none := by cases lo <;> simp at h1 ⊢
   have e2 : hi = none := by cases hi <;> simp at h2 ⊢
   have e3 : mx = none := by cases mx <;> simp at h3 ⊢
   subst e1; subst e2; subst e3
   exact Jzz ho hy htd hye h
 . obtain ⟨hsz, h⟩ := h
   have hsz' : ∀ e, y.td = .slice e -> ∃ ye, tyOf P e = some ye /\ match ρ x with | .p (.lst k _) => k = ye.size | .ref _ k _ _ _ => k = ye.size | _ => True := by
     intro e he
     rw [he] at hsz
     exact Ja4.1 hsz
   split at h
   . rename_i q hq
     by_cases hlt : (q.2.2.2.1 : Int) < q.2.2.2.2.2.1
     . obtain ⟨h1, h2⟩ := h.1 hlt
       split at h1
       . rename_i e htd
         unfold Jfq at hq
         split at hq
         . rename_i b k i n c ik hh hx hl hi' hm
           cases hq
           have e1 : lo = none := by cases lo <;> simp at hl ⊢
           have e3 : mx = none := by cases mx <;> simp at hm ⊢
           subst e1; subst e3
           obtain ⟨hi0, rfl, hhi⟩ := Option.map_eq_some_iff.1 hi'
           obtain ⟨ye, hye, hk⟩ := hsz' e htd
           simp only [hx] at hk
           exact Jra ho hy htd hye hx hhi hk (.inl ⟨rfl, rfl⟩) hlt h2
         . rename_i b k i n c ik' ll ik hh hx hl hi' hm
           cases hq
           have e3 : mx = none := by cases mx <;> simp at hm ⊢
           subst e3
           obtain ⟨hi0, rfl, hhi⟩ := Option.map_eq_some_iff.1 hi'
           obtain ⟨lo0, rfl, hlo⟩ := Option.map_eq_some_iff.1 hl
           obtain ⟨ye, hye, hk⟩ := hsz' e htd
           simp only [hx] at hk
           exact Jra ho hy htd hye hx hhi hk (.inr ⟨lo0, _, rfl, hlo⟩) hlt h2
         . cases hq
       . exact h1.elim
     . exact ok_slice ho hy hsz' (h.2 hlt)
   . exact ok_slice ho hy hsz' h
end
end Go.Am
namespace Go.Am
open Go
section
variable {P : Program} {G : Jac} {o : Oper} {ρ : Operand -> AV} {s : Store} {nx : Nat}
theorem J0u {t e : Nat} {y ye : TyI} {x z : Operand} {k1 k2 : IntKind} {l c : Int} (ho : o.op = .makeSlice t x z) (hx : ρ x = .p (.int k1 l)) (hz : ρ z = .p (.int k2 c)) (hy : tyOf P t = some y) (htd : y.td = .slice e)
   (hye : tyOf P e = some ye) (hzl : ye.zero.length = ye.size) (h0 : 0 <= l) (hlc : l <= c) (hb : (ye.bytes : Int) * c <= 281474976710656) (h63 : c <= 9223372036854775807) :
   OpOK P G o ρ s nx (.ref nx ye.size 0 l.toNat (some c.toNat)) [] [(nx, some (.cells ye.size (List.replicate c.toNat ye.zero)))] (nx + 1) :=
 Jre (T := e) fun F φ s1 w ρ' hs hρ => by
   obtain ⟨i, d, zz, hsp⟩ := Jav hy
   rw [hsp.td] at htd
   obtain rfl := Jbo htd
   obtain ⟨ie, de, ze, hse, hzc⟩ := Jeq (P := P) (φ := φ) (own := ownF F φ s1) (w := w) hye
   have hvx := hρ x (by simp [ho, Op.operands])
   have hvz := hρ z (by simp [ho, Op.operands])
   rw [hx] at hvx
   rw [hz] at hvz
   have e1 := hvx.int_inv
   have e2 := hvz.int_inv
   have hrun := run_make w t e ie ze hsp.under hse.info hse.zero k1 k2 l c h0 hlc (by rw [<- hse.bytes]; exact hb) h63
   refine ⟨madeCells ze.cells (c.toNat * ie.size), c.toNat, ?_, ?_, by omega, ?_, fun c' hc' => Option.some.inj hc'⟩
   . simp only [execOp, ho]
     rw [e1, e2, Sem.run_bind, hrun]
     rfl
   . rw [<- hse.size]
     exact Jtn hzc hzl
   . rw [size_madeCells, hse.size]
     exact Nat.le_refl _
end
end Go.Am
namespace Go.Am
open Go
section
variable {P : Program} {G : Jac} {o : Oper} {ρ : Operand -> AV} {s : Store} {nx : Nat}
theorem J3f {c : Call} {K : KT} (ho : o.op = .call c) (h : Jm1 P G c ρ s nx K) : ∃ v rd up nx', K v rd up nx' /\ OpOK P G o ρ s nx v rd up nx' := by
 unfold Jm1 at h
 simp only [Jad] at h
 split at h
 . rename_i f hc
   split at h
   . rename_i n cap hf
     obtain ⟨v, rd, up, nx', hg, hK⟩ := h
     exact ⟨v, rd, up, nx', hK, J0c ho hc hf hg⟩
   . rename_i t p n b fs hf
     obtain ⟨v, rd, up, nx', hg, hK⟩ := h
     exact ⟨v, rd, up, nx', hK, Jz3 ho hc hf hg⟩
   . rename_i l hf
     obtain ⟨v, rd, up, nx', hg, hK⟩ := h
     exact ⟨v, rd, up, nx', hK, J09 ho hc hf hg⟩
   . exact h.elim
 . rename_i hc
   split at h
   . rename_i x t ha hat
     cases hy : tyOf P t with
     | none => rw [hy] at h; exact h.elim
     | some y =>
       rw [hy] at h
       simp only at h
       split at h
       . rename_i n e htd
         refine ⟨_, _, _, _, h, Jel ho hc ha hat hy fun F φ s1 w a d _ _ hd hyd _ => ?_⟩
         rw [htd] at hyd
         obtain rfl := Jgg hyd.symm
         exact ⟨.int .i64 n, by simp [Builtin.len_, run_underlying hd, goInt], .p _ _ (.int ..)⟩
       . rename_i e k rows htd hx
         refine ⟨_, _, _, _, h, Jel ho hc ha hat hy fun F φ s1 w a d _ _ hd hyd hv => ?_⟩
         rw [htd] at hyd
         obtain rfl := Jbo hyd.symm
         rw [hx] at hv
         rcases hv.p_inv.lst_inv with ⟨rfl, a', c', rfl⟩ | ⟨β, c', cap, rfl, _⟩
         . exact ⟨_, Jfu hd, .p _ _ (.int ..)⟩
         . exact ⟨_, Jfu hd, .p _ _ (.int ..)⟩
       . rename_i e b k i n c' htd hx
         refine ⟨_, _, _, _, h, Jel ho hc ha hat hy fun F φ s1 w a d _ _ hd hyd hv => ?_⟩
         rw [htd] at hyd
         obtain rfl := Jbo hyd.symm
         rw [hx] at hv
         obtain ⟨β, δ, cap, _, _, _, _, rfl⟩ := hv.ref_inv
         exact ⟨_, Jfu hd, .p _ _ (.int ..)⟩
       . rename_i e htd hx
         refine ⟨_, _, _, _, h, Jel ho hc ha hat hy fun F φ s1 w a d _ _ hd hyd hv => ?_⟩
         rw [htd] at hyd
         obtain rfl := Jbo hyd.symm
         rw [hx] at hv
         obtain ⟨a0, rfl⟩ := hv.nils_inv
         exact ⟨_, Jfu hd, .p _ _ (.int ..)⟩
       . rename_i e b k n htd hx
         refine ⟨_, _, _, _, h, Jel ho hc ha hat hy fun F φ s1 w a d _ _ hd hyd hv => ?_⟩
         rw [htd] at hyd
         obtain rfl := Jbo hyd.symm
         rw [hx] at hv
         cases hv with
         | acc0 => exact ⟨_, Jfu hd, .p _ _ (.int ..)⟩
         | acc b k n β δ cap hφ h0 hn room => exact ⟨_, Jfu hd, .p _ _ (.int ..)⟩
       . rename_i st htd hx
         refine ⟨_, _, _, _, h, Jel ho hc ha hat hy fun F φ s1 w a d _ _ hd hyd hv => ?_⟩
         rw [htd] at hyd
         obtain rfl := Jgi hyd.symm
         rw [hx] at hv
         obtain rfl := hv.str_inv
         exact ⟨.int .i64 st.length, by simp [Builtin.len_, run_underlying hd, goInt, Jj5], .p _ _ (.int ..)⟩
       . rename_i k e b htd hx
         obtain ⟨es, hg, hK⟩ := Jfb.1 h
         refine ⟨_, _, _, _, hK, Jel ho hc ha hat hy fun F φ s1 w a d hag hs hd hyd hv => ?_⟩
         rw [htd] at hyd
         obtain rfl := Jgh hyd.symm
         rw [hx] at hv
         cases hv with
         | map b r δ hφ =>
           obtain ⟨r', mes, cl, e1, e2, e3, _⟩ := hs.blk b _ ((hag b (by simp)).trans hg)
           rw [hφ] at e1; cases e1
           refine ⟨.int .i64 es.length, ?_, .p _ _ (.int ..)⟩
           have hlen : mes.size = es.length := by have := e3.1; simpa using this
           simp [Builtin.len_, run_underlying hd, getObj, Sem.run, e2, goInt, hlen]
       . rename_i k e htd hx
         refine ⟨_, _, _, _, h, Jel ho hc ha hat hy fun F φ s1 w a d _ _ hd hyd hv => ?_⟩
         rw [htd] at hyd
         obtain rfl := Jgh hyd.symm
         rw [hx] at hv
         cases hv
         exact ⟨.int .i64 0, by simp [Builtin.len_, run_underlying hd, goInt], .p _ _ (.int ..)⟩
       . exact h.elim
   . exact h.elim
 . rename_i hc
   split at h
   . rename_i x t ha hat
     cases hy : tyOf P t with
     | none => rw [hy] at h; exact h.elim
     | some y =>
       rw [hy] at h
       simp only at h
       split at h
       . rename_i e htd
         exact J0d ho hc ha hat hy htd h
       . exact h.elim
   . exact h.elim
 . rename_i hc
   split at h
   . rename_i x z t u ha hat
     cases hy : tyOf P t with
     | none => rw [hy] at h; exact h.elim
     | some y =>
       rw [hy] at h
       simp only at h
       split at h
       . rename_i e htd
         cases hye : tyOf P e with
         | none => rw [hye] at h; exact h.elim
         | some ye =>
           rw [hye] at h
           exact J0h ho hc ha hat hy htd hye h
       . exact h.elim
   . exact h.elim
 . rename_i hc
   split at h
   . rename_i x t ha hat
     cases hy : tyOf P t with
     | none => rw [hy] at h; exact h.elim
     | some y =>
       rw [hy] at h
       simp only at h
       split at h
       . rename_i e htd
         cases hye : tyOf P e with
         | none => rw [hye] at h; exact h.elim
         | some ye =>
           rw [hye] at h
           exact J0e ho hc ha hat hy htd hye h
       . exact h.elim
   . exact h.elim
 . rename_i hc
   split at h
   . rename_i x z t u ha hat
     cases hy : tyOf P t with
     | none => rw [hy] at h; exact h.elim
     | some y =>
       rw [hy] at h
       simp only at h
       split at h
       . rename_i e htd
         cases hye : tyOf P e with
         | none => rw [hye] at h; exact h.elim
         | some ye =>
           cases hu : tyOf P u with
           | none => rw [hye, hu] at h; exact h.elim
           | some yu =>
             rw [hye, hu] at h
             simp only at h
             split at h
             . rename_i e' he
               exact Jrh ho hc ha hat hy htd hye hu (.inl ⟨e', he⟩) h
             . rename_i he
               exact Jrh ho hc ha hat hy htd hye hu (.inr he) h
             . rename_i q he
               exact Jzy ho hc ha hat hy htd hye hu he h
             . exact h.elim
       . exact h.elim
   . exact h.elim
 . rename_i hc
   split at h
   . rename_i x z ha
     unfold vmax at h
     split at h
     . rename_i k a k' b hx hz
       have harg : c.args = #[x, z] := by apply Array.ext'; simpa using ha
       refine ⟨_, _, _, _, h, OpOK.same fun F φ s1 w ρ' _ _ hρ => ?_⟩
       have h1 := hρ x (by rw [ho]; simp [Op.operands, Call.operands, hc, harg])
       have h2 := hρ z (by rw [ho]; simp [Op.operands, Call.operands, hc, harg])
       rw [hx] at h1; rw [hz] at h2
       refine ⟨.int k (max a b), ?_, .p _ _ (.int ..)⟩
       have e : (if b > a then b else a) = max a b := by omega
       simp [execOp, ho, resolve, hc, harg, invoke, builtin, Builtin.max_, Builtin.max2, h1.int_inv, h2.int_inv, e]
     . exact h.elim
   . exact h.elim
 . rename_i hc
   split at h
   . rename_i x z ha
     unfold vmin at h
     split at h
     . rename_i k a k' b hx hz
       have harg : c.args = #[x, z] := by apply Array.ext'; simpa using ha
       refine ⟨_, _, _, _, h, OpOK.same fun F φ s1 w ρ' _ _ hρ => ?_⟩
       have h1 := hρ x (by rw [ho]; simp [Op.operands, Call.operands, hc, harg])
       have h2 := hρ z (by rw [ho]; simp [Op.operands, Call.operands, hc, harg])
       rw [hx] at h1; rw [hz] at h2
       refine ⟨.int k (min a b), ?_, .p _ _ (.int ..)⟩
       have e : (if b < a then b else a) = min a b := by omega
       simp [execOp, ho, resolve, hc, harg, invoke, builtin, Builtin.min_, Builtin.min2, h1.int_inv, h2.int_inv, e]
     . exact h.elim
   . exact h.elim
 . exact h.elim
theorem Js2 {K : KT} (h : vop P G o.op ρ s nx K) : ∃ v rd up nx', K v rd up nx' /\ OpOK P G o ρ s nx v rd up nx' := by
 generalize hop : o.op = op at h
 unfold vop at h
 split at h
 . exact ⟨_, _, _, _, h, J0w hop⟩
 . exact ⟨_, _, _, _, h, Jz2 hop⟩
 . split at h
   . rename_i c a b t hc
     have := J02 (P := P) (G := G) (o := o) (s := s) (nx := nx) hop hc
     cases t with
     | true => exact ⟨_, _, _, _, h.1 rfl, this⟩
     | false => exact ⟨_, _, _, _, h.2 rfl, this⟩
   . exact h.elim
 . obtain ⟨y, hy, hl, hK⟩ := Ja4.1 h
   exact ⟨_, _, _, _, hK, Jzx hop hy hl⟩
 . obtain ⟨y, hy, hl, h1, hK⟩ := Ja4.1 h
   exact ⟨_, _, _, _, hK, Jz8 hop hl h1⟩
 . obtain ⟨y, hy, h⟩ := Ja4.1 h
   exact J0p hop hy h
 . obtain ⟨y, hy, h⟩ := Ja4.1 h
   exact J07 hop hy h
 . obtain ⟨y, hy, h⟩ := Ja4.1 h
   exact J0m hop hy h
 . obtain ⟨y, hy, h⟩ := Ja4.1 h
   split at h
   . rename_i fs cs htd hx
     obtain ⟨p, hp, h0, h⟩ := Jaz.1 h
     exact J0l hop hy htd hx hp h0 h
   . exact h.elim
 . obtain ⟨y, hy, h⟩ := Ja4.1 h
   split at h
   . rename_i e htd
     obtain ⟨ye, hye, h⟩ := Ja4.1 h
     exact Jrb hop hy hye htd (.inl rfl) h
   . rename_i n e htd
     obtain ⟨ye, hye, h⟩ := Ja4.1 h
     exact Jrb hop hy hye htd (.inr ⟨_, rfl⟩) h
   . exact h.elim
 . obtain ⟨y, hy, h⟩ := Ja4.1 h
   split at h
   . rename_i n e cs k i htd hx hi
     obtain ⟨ye, hye, h1, h2, h⟩ := Ja4.1 h
     exact J0n hop hy htd hye hx hi h1 h2 h
   . rename_i cs k i htd hx hi
     obtain ⟨h1, h⟩ := h
     obtain ⟨c, hc, hK⟩ := Jaz.1 h
     exact ⟨_, _, _, _, hK, J0o hop hy htd hx hi h1 hc⟩
   . exact h.elim
 . obtain ⟨y, hy, h⟩ := Ja4.1 h
   obtain ⟨cs, h, hK⟩ := Jaz.1 h
   split at h
   . rename_i fs htd
     split at h
     . rename_i hall
       exact ⟨_, _, _, _, hK, J0b hop hy htd hall h⟩
     . cases h
   . rename_i n e htd
     cases hye : tyOf P e with
     | none => rw [hye] at h; cases h
     | some ye =>
       rw [hye] at h
       exact ⟨_, _, _, _, hK, J0a hop hy htd hye h⟩
   . cases h
 . obtain ⟨y, hy, h⟩ := Ja4.1 h
   split at h
   . rename_i e htd
     obtain ⟨ye, hye, hz, h0, hm, h⟩ := Ja4.1 h
     obtain ⟨rows, hr, hK⟩ := Jaz.1 h
     exact ⟨_, _, _, _, hK, Jz9 hop hy htd hye hz h0 hm hr⟩
   . exact h.elim
 . obtain ⟨y, hy, h⟩ := Ja4.1 h
   split at h
   . rename_i e k1 l k2 c htd hx hz
     obtain ⟨ye, hye, hzl, h0, hlc, hb, h63, hK⟩ := Ja4.1 h
     exact ⟨_, _, _, _, hK, J0u hop hx hz hy htd hye hzl h0 hlc hb h63⟩
   . exact h.elim
 . rename_i bop t x y u
   split at h
   . rename_i hc
     obtain ⟨ty, ht, h1, h⟩ := Ja4.1 h
     split at h1
     . rename_i e htd
       exact J00 hop hc ht htd h
     . exact h1.elim
   split at h
   . rename_i hc
     exact J0z hop hc h.1 h.2
   split at h
   . rename_i hc
     exact J05 hop hc h
   unfold vbin at h
   split at h
   . rename_i k a k' b hx hy
     split at h
     . exact ⟨_, _, _, _, h.2.2, J06 hop hx hy h.1 h.2.1⟩
     . exact ⟨_, _, _, _, h.2, J04 hop hx hy h.1⟩
     . obtain ⟨rfl, h⟩ := h
       exact Jz6 hop hx hy h
   . rename_i a b hx hy
     exact Jz7 hop hx hy h
   . rename_i a b hx hy
     obtain ⟨yt, ht, h1, h2⟩ := Ja4.1 h
     split at h1
     . rename_i htd
       exact Jz5 hop hx hy ht htd h2
     . exact h1.elim
   . rename_i cs ds hx hy
     obtain ⟨hg, h⟩ := h
     obtain ⟨c, he, h⟩ := Jaz.1 h
     exact Jz4 hop hx hy (Jwr hg he) h
   . rename_i f cap hx hy
     exact Jq9 hop (.inl ⟨rfl, f, cap, hx⟩) hy h.1 h.2
   . rename_i hx hy
     exact Jq9 hop (.inr ⟨rfl, hx⟩) hy h.1 h.2
   . exact h.elim
 . split at h
   . rename_i b hx
     exact ⟨_, _, _, _, h, J01 hop hx⟩
   . rename_i k n hx
     exact ⟨_, _, _, _, h.2, J0x hop hx h.1⟩
   . exact h.elim
 . obtain ⟨y, hy, h⟩ := Ja4.1 h
   obtain ⟨z, hz, h⟩ := Ja4.1 h
   split at h
   . rename_i k k' n htd hx
     exact ⟨_, _, _, _, h.2, J0f hop hy hz htd hx h.1⟩
   . rename_i k' n htd hx
     exact ⟨_, _, _, _, h.2.2, J0g hop hy hz htd hx h.1 h.2.1⟩
   . exact h.elim
 . rename_i f first cap
   have h : vmkF f first cap ρ nx K := h
   unfold vmkF at h
   split at h
   . exact ⟨_, _, _, _, h.2, J0r h.1 hop⟩
   . obtain ⟨rfl, hK⟩ := h
     exact ⟨_, _, _, _, hK, J0s hop⟩
   . exact h.elim
 . exact ⟨_, _, _, _, h, J0t hop⟩
 . obtain ⟨y, hy, h⟩ := Ja4.1 h
   exact J08 hop hy h
 . split at h
   . rename_i vs hx
     obtain ⟨v, hv, hK⟩ := Jaz.1 h
     exact ⟨_, _, _, _, hK, J0k hop hx hv⟩
   . exact h.elim
 . rename_i x
   split at h
   . rename_i b k i j hx
     have := Jrg (P := P) (G := G) (o := o) (s := s) (nx := nx) hop (.inl ⟨b, k, i, j, hx⟩)
     rw [hx] at this
     exact ⟨_, _, _, _, h, this⟩
   . rename_i k rows i j hx
     have := Jrg (P := P) (G := G) (o := o) (s := s) (nx := nx) hop (.inr ⟨k, rows, i, j, hx⟩)
     rw [hx] at this
     exact ⟨_, _, _, _, h, this⟩
   . exact h.elim
 . obtain ⟨y, hy, h⟩ := Ja4.1 h
   exact J0q hop hy h
 . obtain ⟨y, hy, h⟩ := Ja4.1 h
   exact Jrd (.inl hop) hy h
 . obtain ⟨y, hy, h⟩ := Ja4.1 h
   exact Jrd (.inr hop) hy h
 . obtain ⟨y, hy, h⟩ := Ja4.1 h
   exact J03 hop hy h
 . exact J0i hop h
 . obtain ⟨y, hy, h⟩ := Ja4.1 h
   exact J0v hop hy h
 . exact J0j hop h
 . exact J3f hop h
 . exact h.elim
theorem J3j {K : KT} (h : Jc2 P G o.op ρ s nx K) (F : Nat -> Prop) (φ : Places) (s1 : Store) (w : World) (ρ' : Operand -> Value) (hag : ∀ b, get s1 b = get s b) (hs : SR G F φ s1 w) (hf : ∀ b, nx <= b -> φ b = none) (hρ : EvalOk φ (ownF F φ s1) w ρ ρ' o) :
   Jbe P (fun v' w' => ∃ v rd up nx', K v rd up nx' /\ nx <= nx' /\ Post G F φ s1 w v up nx nx' v' w') ((execOp ρ' o).run P w) := by
 unfold Jc2 at h
 split at h
 . rename_i x hop
   exact J0y hop h F φ s1 w ρ' hag hs hρ
 . obtain ⟨v, rd, up, nx', hk, hok⟩ := Js2 h
   exact (hok.runs F φ s1 w ρ' (fun b _ => hag b) hs (fun b hb _ => hf b hb) hρ).mono fun v' w' hp => ⟨v, rd, up, nx', hk, hok.le, hp⟩
end
end Go.Am
