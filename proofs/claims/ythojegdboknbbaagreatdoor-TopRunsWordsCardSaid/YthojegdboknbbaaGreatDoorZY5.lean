/- Lemmas and contracts for the proof of a statement of this seat. -/
import Derived.Test.YthojegdboknbbaaGreatDoorZY4
import Derived.Test.YthojegdboknbbaaGreatDoorZY2
import Derived.Test.YthojegdboknbbaaGreatDoorZA9
set_option linter.unusedVariables false
set_option linter.unusedSimpArgs false
namespace Go.Am
open Go Go.Proofs Go.Pn
theorem Jqv {c : Ctl} {i : Nat} (h : nmE c i = 0) : Jck (nmF c i) = true /\ (nmF c i).length <= 24 /\ ∀ k < i, nmF c k ≠ nmF c i := by
 unfold nmE at h
 by_cases h1 : Jck (nmF c i) = false
 . rw [if_pos h1] at h; cases h
 rw [if_neg h1] at h
 by_cases h2 : 24 < (nmF c i).length
 . rw [if_pos h2] at h; cases h
 rw [if_neg h2] at h
 by_cases h3 : ((List.range i).any fun k => nmF c k == nmF c i) = true
 . rw [if_pos h3] at h; cases h
 refine ⟨by simpa using h1, by omega, fun k hk e => h3 (List.any_eq_true.2 ⟨k, List.mem_range.2 hk, by rw [e]; exact beq_self_eq_true _⟩)⟩
def Jdq (c : Ctl) (i : Nat) (x : Ex) : Prop := ∀ (k : Nat) y, i <= k -> c.sigs[k]? = some y -> y.kind = 0 -> occX ((fstN c + k : Nat) : Int) x = false
theorem Jyx {c : Ctl} {i : Nat} {x : Ex} (h : Jcz c i x = false) : Jdq c i x := fun k y hk hy h0 => by
 unfold Jcz at h
 rw [List.any_eq_false] at h
 have := h k (List.mem_range.2 (gsI.1 hy).1)
 rw [decide_eq_true hk, hy] at this
 simp only [Option.map_some, Option.getD_some, decide_eq_true h0, Bool.true_and] at this
 simpa using this
theorem Jdq.arg {c : Ctl} {i : Nat} {x y : Ex} (h : Jdq c i x) (h1 : ¬ x.op = 1) (hy : y ∈ x.args) : Jdq c i y := fun k z hk hz h0 => by
 have := h k z hk hz h0
 rw [Jlz, if_neg h1, List.any_eq_false] at this
 simpa using this y hy
theorem Jdq.var {c : Ctl} {i v : Nat} {x : Ex} (h : Jdq c i x) (h1 : x.op = 1) (hv : x.idx = v) : ∀ (k : Nat) y, i <= k -> c.sigs[k]? = some y -> y.kind = 0 -> v ≠ fstN c + k := fun k y hk hy h0 e => by
 have := h k y hk hy h0
 rw [Jlz, if_pos h1, decide_eq_false_iff_not] at this
 exact this (by rw [hv, e])
def Jdx (c : Ctl) (i : Nat) (l : List Txt) : Store := [(0, some (.cells 1 [[.ptr 3 9 0 0]])), (1, some (.cells 1 [[.p (.bool false)]])), (2, some (.cells 1 [[.p (.int .i64 i)]])), (3, some (chkB c 3 4)), (4, some (.map (nmsM l)))]
theorem Jpu {c : Ctl} {i : Nat} {l : List Txt} {st : Store} {nx q lt ic b m : Nat} {args args' : List AV} (hnd : [q, lt, ic, b, m].Nodup) (hlt : ∀ x ∈ [q, lt, ic, b, m], x < nx)
   (g0 : get st q = some (.cells 1 [[.ptr b 9 0 0]])) (g1 : get st lt = some (.cells 1 [[.p (.bool false)]])) (g2 : get st ic = some (.cells 1 [[.p (.int .i64 i)]])) (g3 : get st b = some (chkB c b m)) (g4 : get st m = some (.map (nmsM l))) (ha : renL [q, lt, ic, b, m] args = some args') :
   Jce [q, lt, ic, b, m] nx (Jdx c i l) st args args' := by
 have r0 : renB [q, lt, ic, b, m] (chkB c 3 4) = some (chkB c b m) := Jcx rfl rfl
 have e0 : renB [q, lt, ic, b, m] (.cells 1 [[.ptr 3 9 0 0]]) = some (.cells 1 [[.ptr b 9 0 0]]) := rfl
 have e1 : ∀ x : PV, renB [q, lt, ic, b, m] (.cells 1 [[.p x]]) = some (.cells 1 [[.p x]]) := fun _ => rfl
 refine ⟨?_, rfl, hnd, hlt, ha⟩
 simp [-renB, Jdx, g0, g1, g2, g3, g4, r0, e0, e1]
 simp
set_option maxHeartbeats 1000000 in
set_option maxRecDepth 20000 in
theorem Jxo (c : Ctl) (hc : Sm c) (i v : Nat) (hv : v < cntN c) (hno : ∀ (k : Nat) y, i <= k -> c.sigs[k]? = some y -> y.kind = 0 -> v ≠ fstN c + k) (l : List Txt) (st : Store) (nx q lt ic b m : Nat) (hnd : [q, lt, ic, b, m].Nodup) (hlt : ∀ x ∈ [q, lt, ic, b, m], x < nx)
   (g0 : get st q = some (.cells 1 [[.ptr b 9 0 0]])) (g1 : get st lt = some (.cells 1 [[.p (.bool false)]])) (g2 : get st ic = some (.cells 1 [[.p (.int .i64 i)]])) (g3 : get st b = some (chkB c b m)) (g4 : get st m = some (.map (nmsM l))) :
   Gives Tryz.prog GL 115 [.p (.int .i64 v), .ptr q 1 0 0, .ptr lt 1 0 0, .ptr ic 1 0 0] st nx (.tup []) [q, lt, ic, b, m] [] nx := by
 have hF := Jh1 c hc
 obtain ⟨h1, h2, h3, h4, _, _⟩ := hc
 have hcn : cntN c = fstN c + c.sigs.length := rfl
 have hfn : fstN c <= 100 := by unfold fstN; omega
 simp only [Ctl.av] at hF
 have r2 : renB (List.range 5) (chkB c 3 4) = some (chkB c 3 4) := Jcx rfl rfl
 refine Gives.mk_walkK (N := 31) (args := [.p (.int .i64 v), .ptr 0 1 0 0, .ptr 1 1 0 0, .ptr 2 1 0 0]) [q, lt, ic, b, m] [] (Jdx c i l)
   [] 5 0 (.tup []) (fun _ => []) (up1 := []) Tryz.func115 rfl rfl rfl (by simp) rfl (Jpu hnd hlt g0 g1 g2 g3 g4 rfl) (by simp) rfl rfl (by simp) rfl ?_
 simp [-renB, Jdx, chkB]
 refine Jab hF ?_
 simp [-renB]
 refine ⟨wrap_i64 (by omega) (by omega), ?_⟩
 by_cases hk : (i : Int) <= (v : Int) - (fstN c : Int)
 . obtain ⟨y, hy⟩ := Jae (xs := c.sigs) (k := v - fstN c) (by omega)
   have h0 : ¬ y.kind = 0 := fun e => hno (v - fstN c) y (by omega) hy e (by omega)
   simp [-renB, hk]
   refine ⟨by omega, by omega, ?_⟩
   rw [hy]
   simp [-renB, h0]
   refine ⟨?_, by decide⟩
   simp [Jdx, chkB]
 . simp [-renB, hk]
   refine ⟨?_, by decide⟩
   simp [Jdx, chkB]
end Go.Am
namespace Go.Am
open Go Go.Proofs Go.Pn
def Jeg (q lt ic : Nat) : ABlk := .cells 1 [[.fn (.func 115) [.ptr q 1 0 0, .ptr lt 1 0 0, .ptr ic 1 0 0]]]
def Jen (a v : Nat) : ABlk := .cells 1 [[.fn (.func 136) [.ptr a 1 0 0, .ptr v 1 0 0]]]
def Jfk (c : Ctl) (i : Nat) (l : List Txt) : Store := [(0, some (Jeg 2 3 4)), (1, some (Jen 0 1)), (2, some (.cells 1 [[.ptr 5 9 0 0]])), (3, some (.cells 1 [[.p (.bool false)]])), (4, some (.cells 1 [[.p (.int .i64 i)]])), (5, some (chkB c 5 6)), (6, some (.map (nmsM l)))]
theorem Jwm {c : Ctl} {i : Nat} {l : List Txt} {st : Store} {nx a v q lt ic b m : Nat} {args args' : List AV} (hnd : [a, v, q, lt, ic, b, m].Nodup) (hlt : ∀ x ∈ [a, v, q, lt, ic, b, m], x < nx)
   (ga : get st a = some (Jeg q lt ic)) (gv : get st v = some (Jen a v)) (g0 : get st q = some (.cells 1 [[.ptr b 9 0 0]])) (g1 : get st lt = some (.cells 1 [[.p (.bool false)]])) (g2 : get st ic = some (.cells 1 [[.p (.int .i64 i)]])) (g3 : get st b = some (chkB c b m)) (g4 : get st m = some (.map (nmsM l))) (ha : renL [a, v, q, lt, ic, b, m] args = some args') :
   Jce [a, v, q, lt, ic, b, m] nx (Jfk c i l) st args args' := by
 have r0 : renB [a, v, q, lt, ic, b, m] (chkB c 5 6) = some (chkB c b m) := Jcx rfl rfl
 have e0 : renB [a, v, q, lt, ic, b, m] (.cells 1 [[.ptr 5 9 0 0]]) = some (.cells 1 [[.ptr b 9 0 0]]) := rfl
 have ea : renB [a, v, q, lt, ic, b, m] (Jeg 2 3 4) = some (Jeg q lt ic) := rfl
 have ev : renB [a, v, q, lt, ic, b, m] (Jen 0 1) = some (Jen a v) := rfl
 have e1 : ∀ x : PV, renB [a, v, q, lt, ic, b, m] (.cells 1 [[.p x]]) = some (.cells 1 [[.p x]]) := fun _ => rfl
 refine ⟨?_, rfl, hnd, hlt, ha⟩
 simp [-renB, Jfk, ga, gv, g0, g1, g2, g3, g4, r0, e0, e1, ea, ev]
 try simp
set_option maxHeartbeats 1000000 in
set_option maxRecDepth 20000 in
theorem Jxj (c : Ctl) (hc : Sm c) (i : Nat) (l : List Txt) : ∀ x : Ex, okX x -> Jbj (cntN c) x = 0 -> Jdq c i x -> ∀ (st : Store) (nx a v q lt ic b m : Nat), [a, v, q, lt, ic, b, m].Nodup -> (∀ x ∈ [a, v, q, lt, ic, b, m], x < nx) ->
   get st a = some (Jeg q lt ic) -> get st v = some (Jen a v) -> get st q = some (.cells 1 [[.ptr b 9 0 0]]) -> get st lt = some (.cells 1 [[.p (.bool false)]]) -> get st ic = some (.cells 1 [[.p (.int .i64 i)]]) -> get st b = some (chkB c b m) -> get st m = some (.map (nmsM l)) ->
   Gives Tryz.prog GL 136 [x.av, .ptr a 1 0 0, .ptr v 1 0 0] st nx (.tup []) [a, v, q, lt, ic, b, m] [] nx := Ex.ind' (fun x ih hok hr hno st nx a v q lt ic b m hnd hlt ga gv g0 g1 g2 g3 g4 => by
 obtain ⟨hl, ho⟩ := Jc8 hok
 obtain ⟨hr0, hra⟩ := Jiz hr
 obtain ⟨_, hi0, hi1, _, ha1, _, _, _⟩ := Jlx hr0
 have r2 : renB (List.range 7) (chkB c 5 6) = some (chkB c 5 6) := Jcx rfl rfl
 have r3 : ∀ x : Nat, renB [0, 1, 2, 3, 4, 5, 6, x] (chkB c 5 6) = some (chkB c 5 6) := fun x => Jcx rfl rfl
 have r4 : renB [0, 1, 2, 3, 4, 5, 6] (chkB c 5 6) = some (chkB c 5 6) := Jcx rfl rfl
 refine Gives.mk_walkK (N := 24) (args := [x.av, .ptr 0 1 0 0, .ptr 1 1 0 0]) [a, v, q, lt, ic, b, m] [] (Jfk c i l)
   [] 7 0 (.tup []) (fun _ => []) (up1 := []) Tryz.func136 rfl rfl rfl (by simp) rfl (Jwm hnd hlt ga gv g0 g1 g2 g3 g4 rfl) (by simp) rfl rfl (by simp) rfl ?_
 simp [-renB, Jfk, Jeg, Jen]
 by_cases h1 : x.op = 1
 . obtain ⟨k, hk⟩ : ∃ k : Nat, x.idx = k := ⟨x.idx.toNat, by omega⟩
   have hkl : k < cntN c := by have := hi1 h1; omega
   have hargs : x.args = [] := ha1 (by omega)
   simp [-renB, h1, hk]
   refine Jag (Jxo c hc i k hkl (hno.var h1 hk) l _ _ 2 3 4 5 6 (by simp) (by simp) rfl rfl rfl rfl rfl) ?_
   simp [-renB, hargs]
   refine Jai.go [2, 14, 15] [0, 1, 2, 3, 4, 5, 6] 0 [] (fun _ => []) (fun _ (j : Nat) => [(16, .p (.int .i64 j))]) (fun _ _ => []) (fun j => j = 0) (fun j => j) 0 rfl ?_ ?_
   . simp [chkB]
     try decide
   rintro j rfl
   simp [-renB]
   refine ⟨?_, by decide⟩
   simp [Jfk, Jeg, Jen, chkB]
 . simp [-renB, h1]
   refine Jai.go [2, 14, 15] [0, 1, 2, 3, 4, 5, 6] 0 [] (fun _ => []) (fun _ (j : Nat) => [(16, .p (.int .i64 j))]) (fun _ _ => []) (fun j => j <= x.args.length) (fun j => x.args.length - j) 0 (by omega) ?_ ?_
   . simp [chkB]
     try decide
   intro j hj
   simp [-renB]
   refine Jan (fun h => ?_) (fun h => ?_)
   . simp at h
     obtain ⟨y, e⟩ := Jae h
     have hy := List.mem_of_getElem? e
     simp [-renB, h, e, -getElem?_pos, List.getElem?_cons_zero, List.getElem?_cons_succ]
     refine Jag (ih y hy (ho y hy) (hra y hy) (hno.arg h1 hy) _ _ 0 1 2 3 4 5 6 (by simp) (by simp) rfl rfl rfl rfl rfl rfl rfl) ?_
     simp [chkB]
     refine ⟨wrap_i64 (by omega) (by omega), j + 1, by omega, by omega, by omega, by decide⟩
   . simp at h
     simp [-renB]
     refine ⟨?_, by decide⟩
     simp [Jfk, Jeg, Jen, chkB])
end Go.Am
namespace Go.Am
open Go Go.Proofs Go.Pn
set_option maxHeartbeats 1000000 in
set_option maxRecDepth 20000 in
theorem Jxi (c : Ctl) (hc : Sm c) (i : Nat) (l : List Txt) (x : Ex) (hok : okX x) (hr : Jbj (cntN c) x = 0) (hno : Jdq c i x) (st : Store) (nx q lt ic b m : Nat) (hnd : [q, lt, ic, b, m].Nodup) (hlt : ∀ x ∈ [q, lt, ic, b, m], x < nx)
   (g0 : get st q = some (.cells 1 [[.ptr b 9 0 0]])) (g1 : get st lt = some (.cells 1 [[.p (.bool false)]])) (g2 : get st ic = some (.cells 1 [[.p (.int .i64 i)]])) (g3 : get st b = some (chkB c b m)) (g4 : get st m = some (.map (nmsM l))) :
   Gives Tryz.prog GL 114 [x.av, .fn (.func 115) [.ptr q 1 0 0, .ptr lt 1 0 0, .ptr ic 1 0 0]] st nx (.tup []) [q, lt, ic, b, m] [] nx := by
 have r2 : renB (List.range 5) (chkB c 3 4) = some (chkB c 3 4) := Jcx rfl rfl
 refine Gives.mk_walkK (N := 9) (args := [x.av, .fn (.func 115) [.ptr 0 1 0 0, .ptr 1 1 0 0, .ptr 2 1 0 0]]) [q, lt, ic, b, m] [] (Jdx c i l)
   [] 5 0 (.tup []) (fun _ => []) (up1 := []) Tryz.func114 rfl rfl rfl (by simp) rfl (Jpu hnd hlt g0 g1 g2 g3 g4 rfl) (by simp) rfl rfl (by simp) rfl ?_
 simp [-renB, Jdx]
 refine Jag (Jxj c hc i l x hok hr hno _ _ 6 7 0 1 2 3 4 (by simp) (by simp) rfl rfl rfl rfl rfl rfl rfl) ?_
 simp [-renB]
 refine ⟨?_, by decide⟩
 simp [Jdx, chkB]
def chkS (c : Ctl) (l : List Txt) : Store := [(0, some (chkB c 0 1)), (1, some (.map (nmsM l)))]
theorem Jh6 {c : Ctl} {l : List Txt} {st : Store} {nx b m : Nat} {args args' : List AV} (hnd : [b, m].Nodup) (hlt : ∀ x ∈ [b, m], x < nx) (g3 : get st b = some (chkB c b m)) (g4 : get st m = some (.map (nmsM l))) (ha : renL [b, m] args = some args') :
   Jce [b, m] nx (chkS c l) st args args' := by
 have r0 : renB [b, m] (chkB c 0 1) = some (chkB c b m) := Jcx rfl rfl
 refine ⟨?_, rfl, hnd, hlt, ha⟩
 simp [-renB, chkS, g3, g4, r0]
 try simp
structure SigOk (c : Ctl) (i : Nat) (x : Sig) : Prop where
 kind : x.kind = 0 \/ x.kind = 1 \/ x.kind = 2
 on : RtX (cntN c) x.on
 off : x.kind = 1 -> RtX (cntN c) x.off
 late : x.kind = 0 -> Jdq c i x.on
 del : x.kind = 2 -> 1 <= x.delay /\ x.delay <= 1000000
 zero : x.kind ≠ 1 -> Jdb x.off = true /\ x.init = false
 dz : x.kind ≠ 2 -> x.delay = 0
theorem RC.sigOk {c : Ctl} (h : RC c) (hL : Sm c) {i : Nat} {x : Sig} (hx : c.sigs[i]? = some x) : SigOk c i x := by
 obtain ⟨_, h2, h3, h4, h5, h6, h7, h8⟩ := Jmm (h.sig i x hx)
 obtain ⟨o1, o2⟩ := hL.oks x (List.mem_of_getElem? hx)
 exact ⟨h2, Jox o1 h3, fun e => Jox o2 (h4 e), fun e => Jyx (h5 e), h6, h7, h8⟩
set_option maxHeartbeats 1000000 in
set_option maxRecDepth 20000 in
theorem Jxn (c : Ctl) (hc : Sm c) (i : Nat) (x : Sig) (hx : c.sigs[i]? = some x) (hs : SigOk c i x) (h0 : x.kind = 0) (l : List Txt) (st : Store) (nx b m : Nat) (hnd : [b, m].Nodup) (hlt : ∀ x ∈ [b, m], x < nx) (g3 : get st b = some (chkB c b m)) (g4 : get st m = some (.map (nmsM l))) :
   Gives Tryz.prog GL 85 [.ptr b 9 0 0, .p (.int .i64 i)] st nx (.p (.int .i64 0)) [b, m] [] nx := by
 have r2 : renB (List.range 2) (chkB c 0 1) = some (chkB c 0 1) := Jcx rfl rfl
 have hZ := Joi x.off
 have hil : i < c.sigs.length := (gsI.1 hx).1
 obtain ⟨hz1, hz2⟩ := hs.zero (by omega)
 have hd := hs.dz (by omega)
 rw [hz1] at hZ
 refine Gives.mk_walkK (N := 35) (args := [.ptr 0 9 0 0, .p (.int .i64 i)]) [b, m] [] (chkS c l)
   [] 2 0 (.p (.int .i64 0)) (fun _ => []) (up1 := []) Tryz.func85 rfl rfl rfl (by simp) rfl (Jh6 hnd hlt g3 g4 rfl) (by simp) rfl rfl (by simp) rfl ?_
 simp [-renB, chkS, chkB, hil, hx, -getElem?_pos, List.getElem?_cons_zero, List.getElem?_cons_succ]
 refine Jaf.intro (by kernel_rfl) ?_
 simp [-renB, hil, hx, -getElem?_pos, List.getElem?_cons_zero, List.getElem?_cons_succ]
 refine ⟨.of (by kernel_rfl), ?_⟩
 refine Jag (Jxi c hc i l x.on hs.on.ok hs.on.nods (hs.late h0) _ _ 2 5 3 0 1 (by simp) (by simp) rfl rfl rfl rfl rfl) ?_
 simp [-renB]
 refine Jab hZ ?_
 simp [-renB, hz2, hd]
 simp [chkS, chkB]
set_option maxHeartbeats 1000000 in
set_option maxRecDepth 20000 in
theorem Jxr (c : Ctl) (hc : Sm c) (i : Nat) (x : Sig) (hx : c.sigs[i]? = some x) (hs : SigOk c i x) (h1 : x.kind = 1) (l : List Txt) (st : Store) (nx b m : Nat) (hnd : [b, m].Nodup) (hlt : ∀ x ∈ [b, m], x < nx) (g3 : get st b = some (chkB c b m)) (g4 : get st m = some (.map (nmsM l))) :
   Gives Tryz.prog GL 86 [.ptr b 9 0 0, .p (.int .i64 i)] st nx (.p (.int .i64 0)) [b, m] [] nx := by
 have hN := Jke c hc
 have hO := hs.off h1
 have hcn : cntN c <= 256 := by have := hc.act6; have := hc.inp; have := hc.sg; unfold cntN fstN; omega
 have hB := Jkc x.off (cntN c) hcn hO.ok hO.deep hO.size hO.nods
 have hil : i < c.sigs.length := (gsI.1 hx).1
 have hd := hs.dz (by omega)
 simp only [Ctl.av] at hN
 refine Gives.mk_walkK (N := 34) (args := [.ptr 0 9 0 0, .p (.int .i64 i)]) [b, m] [] (chkS c l)
   [] 2 0 (.p (.int .i64 0)) (fun _ => []) (up1 := []) Tryz.func86 rfl rfl rfl (by simp) rfl (Jh6 hnd hlt g3 g4 rfl) (by simp) rfl rfl (by simp) rfl ?_
 simp [-renB, chkS, chkB, hil, hx, -getElem?_pos, List.getElem?_cons_zero, List.getElem?_cons_succ]
 refine Jaf.intro (by kernel_rfl) ?_
 simp [-renB, hil, hx, -getElem?_pos, List.getElem?_cons_zero, List.getElem?_cons_succ]
 refine Jab hN ?_
 simp [-renB]
 refine Jab hB ?_
 simp [-renB, hil, hx, hd, -getElem?_pos, List.getElem?_cons_zero, List.getElem?_cons_succ]
 refine ⟨.of (by kernel_rfl), ?_⟩
 simp [chkS, chkB]
set_option maxHeartbeats 1000000 in
set_option maxRecDepth 20000 in
theorem Jx5 (c : Ctl) (i : Nat) (x : Sig) (hx : c.sigs[i]? = some x) (hs : SigOk c i x) (h2 : x.kind = 2) (l : List Txt) (st : Store) (nx b m : Nat) (hnd : [b, m].Nodup) (hlt : ∀ x ∈ [b, m], x < nx) (g3 : get st b = some (chkB c b m)) (g4 : get st m = some (.map (nmsM l))) :
   Gives Tryz.prog GL 87 [.ptr b 9 0 0, .p (.int .i64 i)] st nx (.p (.int .i64 0)) [b, m] [] nx := by
 have hZ := Joi x.off
 have hil : i < c.sigs.length := (gsI.1 hx).1
 obtain ⟨hz1, hz2⟩ := hs.zero (by omega)
 obtain ⟨hd1, hd2⟩ := hs.del h2
 have hd3 : ¬ x.delay < 1 := by omega
 have hd4 : ¬ 1000000 < x.delay := by omega
 rw [hz1] at hZ
 refine Gives.mk_walkK (N := 32) (args := [.ptr 0 9 0 0, .p (.int .i64 i)]) [b, m] [] (chkS c l)
   [] 2 0 (.p (.int .i64 0)) (fun _ => []) (up1 := []) Tryz.func87 rfl rfl rfl (by simp) rfl (Jh6 hnd hlt g3 g4 rfl) (by simp) rfl rfl (by simp) rfl ?_
 simp [-renB, chkS, chkB, hil, hx, hd3, hd4, -getElem?_pos, List.getElem?_cons_zero, List.getElem?_cons_succ]
 refine Jab hZ ?_
 simp [-renB, hz2]
 simp [chkS, chkB]
def nmL (c : Ctl) (k : Nat) : List Txt := (List.range k).map (nmF c)
theorem Jlt {c : Ctl} {k : Nat} : nmL c (k + 1) = nmL c k ++ [nmF c k] := by unfold nmL; rw [List.range_succ, List.map_append]; rfl
theorem Jzn {c : Ctl} {k : Nat} : (nmL c k).length = k := by unfold nmL; rw [List.length_map, List.length_range]
theorem Jls {c : Ctl} {k : Nat} (h : ∀ j < k, nmF c j ≠ nmF c k) : nmF c k ∉ nmL c k := fun hm => by
 obtain ⟨j, hj, e⟩ := List.mem_map.1 hm
 exact h j (List.mem_range.1 hj) e
set_option maxHeartbeats 1000000 in
set_option maxRecDepth 20000 in
theorem Jx2 (c : Ctl) (hc : Sm c) (i : Nat) (x : Sig) (hx : c.sigs[i]? = some x) (hs : SigOk c i x) (hn : nmE c (fstN c + i) = 0) (st : Store) (nx b m : Nat) (hnd : [b, m].Nodup) (hlt : ∀ x ∈ [b, m], x < nx) (g3 : get st b = some (chkB c b m)) (g4 : get st m = some (.map (nmsM (nmL c (fstN c + i))))) :
   Gives Tryz.prog GL 90 [.ptr b 9 0 0, .p (.int .i64 i)] st nx (.p (.int .i64 0)) [b, m] [(m, some (.map (nmsM (nmL c (fstN c + i + 1)))))] nx := by
 have hN := Jke c hc
 have hcn : cntN c <= 256 := by have := hc.act6; have := hc.inp; have := hc.sg; unfold cntN fstN; omega
 have hB := Jkc x.on (cntN c) hcn hs.on.ok hs.on.deep hs.on.size hs.on.nods
 have hil : i < c.sigs.length := (gsI.1 hx).1
 obtain ⟨n1, n2, n3⟩ := Jqv hn
 have hnm : nmF c (fstN c + i) = x.name := Jlv (by omega) (by rw [show fstN c + i - fstN c = i by omega]; exact hx)
 have hnew := Jls n3
 rw [hnm] at n1 n2 hnew
 have hsn : nmL c (fstN c + i + 1) = nmL c (fstN c + i) ++ [x.name] := by rw [Jlt, hnm]
 simp only [Ctl.av] at hN
 rw [hsn]
 refine Gives.mk_walkK (N := 51) (args := [.ptr 0 9 0 0, .p (.int .i64 i)]) [b, m] [] (chkS c (nmL c (fstN c + i)))
   [(1, some (.map (nmsM (nmL c (fstN c + i) ++ [x.name]))))] 2 0 (.p (.int .i64 0)) (fun _ => []) (up1 := [(m, some (.map (nmsM (nmL c (fstN c + i) ++ [x.name]))))]) Tryz.func90 rfl rfl rfl (by simp) rfl (Jh6 hnd hlt g3 g4 rfl) (by simp) rfl (by simp) (by simp) rfl ?_
 simp [-renB, chkS, chkB, hil, hx, -getElem?_pos, List.getElem?_cons_zero, List.getElem?_cons_succ]
 refine Jag (Jpp c (nmL c (fstN c + i)) x.name n1 n2 hnew _ _ 0 1 (by simp) (by simp) rfl rfl) ?_
 have k1 : ¬ x.kind < 0 := by have := hs.kind; omega
 have k2 : ¬ 3 <= x.kind := by have := hs.kind; omega
 simp [-renB, k1, k2]
 refine Jaf.intro (by kernel_rfl) ?_
 simp [-renB]
 refine Jab hN ?_
 simp [-renB]
 refine Jab hB ?_
 simp [-renB]
 refine ⟨.of (by kernel_rfl), ?_⟩
 refine Jaf.intro (by kernel_rfl) ?_
 rcases hs.kind with k | k | k
 . simp [-renB, k]
   refine Jag (Jxn c hc i x hx hs k (nmL c (fstN c + i) ++ [x.name]) _ _ 0 1 (by simp) (by simp) rfl rfl) ?_
   simp [-renB]
   refine ⟨.of (by kernel_rfl), ?_⟩
   simp [chkS, chkB]
 . simp [-renB, k]
   refine Jag (Jxr c hc i x hx hs k (nmL c (fstN c + i) ++ [x.name]) _ _ 0 1 (by simp) (by simp) rfl rfl) ?_
   simp [-renB]
   refine ⟨.of (by kernel_rfl), ?_⟩
   simp [chkS, chkB]
 . simp [-renB, k]
   refine Jag (Jx5 c i x hx hs k (nmL c (fstN c + i) ++ [x.name]) _ _ 0 1 (by simp) (by simp) rfl rfl) ?_
   simp [-renB]
   refine ⟨.of (by kernel_rfl), ?_⟩
   simp [chkS, chkB]
end Go.Am
namespace Go.Am
open Go Go.Proofs Go.Pn
@[simp] theorem J5v (l : List Nat) : unpR (l.map nrow) = some (l.map nenc) := by rw [Jjl (f := nrow) (g := nenc) (fun _ => rfl)]
theorem Jak {ρ : List Nat} {s' : Store} {b k : Nat} {L : List Bool} (h : (ρ[b]?).bind (get s') = accB k (L.map Bool.row)) : Jcr ρ s' b (accB k (L.map Bool.row)) = True := Jds h (Jao fun _ => rfl)
theorem Jal {ρ : List Nat} {s' : Store} {b k : Nat} {L : List Nat} (h : (ρ[b]?).bind (get s') = accB k (L.map nrow)) : Jcr ρ s' b (accB k (L.map nrow)) = True := Jds h (Jao fun _ => rfl)
theorem Jat {α : Type} {k : Nat} {L : List α} {f : α -> List AV} (h : L ≠ []) : accB k (L.map f) = some (.cells k (L.map f)) := by simp [accB, h]
theorem Jx8 (s : Sta) (h : SmS s) (st : Store) (nx : Nat) : Gives Tryz.prog GL 62 [s.av] st nx (.acc nx 1 (Jax s).length) [] [(nx, accB 1 ((Jax s).map Bool.row))] (nx + 1) := by
 obtain ⟨h1, h2, h3, h4, h5⟩ := h
 refine Gives.mk_walkK (N := 28) (args := [s.av]) [] [] [] [(0, accB 1 ((Jax s).map Bool.row))] 0 1 (.acc 0 1 (Jax s).length) (nms [2]) (up1 := [(nx, accB 1 ((Jax s).map Bool.row))]) Tryz.func62 rfl rfl rfl (by simp) rfl (by simp) (by simp) (by simp) (Jay rfl (Jao fun _ => rfl)) (by simp) rfl ?_
 rw [Jqm]
 simp
 refine Jai.go [1, 7, 8] [0] 1 [1] (nms [3]) (fun nx (k : Nat) => [(3, .acc nx 1 (endB s k).length), (9, .p (.int .i64 k))]) (fun nx k => [(nx, accB 1 ((endB s k).map Bool.row))]) (fun k => k <= s.ends.length) (fun k => s.ends.length - k) 0 (by omega) ?_ ?_
 . simp [Jo6]
   try decide
 intro k hk
 have hle := @Jo4 s k
 simp
 refine Jan (fun h => ?_) (fun h => ?_)
 . simp at h
   obtain ⟨e, he⟩ := Jae h
   have hsn := Jo5 he
   simp [h, he, -getElem?_pos, List.getElem?_cons_zero, List.getElem?_cons_succ]
   have hd : decide ((e : Int) = 2) = decide (e = 2) := decide_eq_decide.2 (by omega)
   have em : (endB s k).map Bool.row ++ [[AV.p (PV.bool (decide (e = 0)))], [AV.p (PV.bool (decide ((e : Int) = 2)))]] = (endB s (k + 1)).map Bool.row := by rw [hsn, hd, List.map_append]; rfl
   rw [em]
   refine ⟨by omega, wrap_i64 (by omega) (by omega), k + 1, by omega, by omega, ⟨by rw [hsn, List.length_append]; rfl, by omega⟩, Jhv (fun _ => rfl) (by simp)⟩
 . simp at h
   have hkl : k = s.ends.length := by omega
   subst hkl
   generalize endB s s.ends.length = L at *
   simp
   refine Jaf.intro (by kernel_rfl) ?_
   simp
   have hrow : (fun x => List.map AV.p x) ∘ Bool.enc = Bool.row := rfl
   rw [hrow]
   have em : L.map Bool.row ++ (s.inputs.map Bool.row ++ s.values.map Bool.row) = (L ++ (s.inputs ++ s.values)).map Bool.row := by rw [List.map_append, List.map_append]
   have el : L.length + s.inputs.length + s.values.length = (L ++ (s.inputs ++ s.values)).length := by rw [List.length_append, List.length_append, Nat.add_assoc]
   rw [em, el]
   refine ⟨by omega, by rw [<- el]; omega, .of (by kernel_rfl), ?_⟩
   have el2 : (L ++ (s.inputs ++ s.values)).length = L.length + (s.inputs.length + s.values.length) := by simp
   generalize L ++ (s.inputs ++ s.values) = Z at *
   exact ⟨el2, Jam⟩
theorem Jy7 {t : Sta} {j : Nat} {v : Bool} : Jax { t with values := t.values.set j v } = (Jax t).set (2 * t.ends.length + t.inputs.length + j) v := by
 show (t.ends.flatMap twoB ++ t.inputs ++ t.values.set j v) = (t.ends.flatMap twoB ++ t.inputs ++ t.values).set _ v
 rw [List.set_append_right _ _ (by rw [List.length_append, Jd3]; omega), List.length_append, Jd3]
 rw [show 2 * t.ends.length + t.inputs.length + j - (2 * t.ends.length + t.inputs.length) = j by omega]
theorem Jg6 {t : Sta} : (Jax t).length = 2 * t.ends.length + t.inputs.length + t.values.length := by
 show (t.ends.flatMap twoB ++ t.inputs ++ t.values).length = _
 rw [List.length_append, List.length_append, Jd3]
end Go.Am
namespace Go.Am
open Go Go.Proofs Go.Pn
theorem Jxd (n : Nat) (s : Store) (nx : Nat) (h0 : 0 < n) (hn : n < 1000000000) :
   Gives Tryz.prog GL 79 [.nils, .p (.int .i64 n)] s nx (.ref nx 1 0 0 none) [] [(nx, some (.cells 1 (List.replicate n [.p (.int .i64 0)])))] (nx + 1) := by
 refine Gives.mk_walkK (N := 27) (args := [.nils, .p (.int .i64 n)]) [] [] [] [(0, some (.cells 1 (List.replicate n [.p (.int .i64 0)])))] 0 1 (.ref 0 1 0 0 none) (nms [4]) (up1 := [(nx, some (.cells 1 (List.replicate n [.p (.int .i64 0)])))]) Tryz.func79 rfl rfl rfl (by simp) rfl (by simp) (by simp) (by simp) (by simp) (by simp) rfl ?_
 have h1 : ¬ ((n : Int) < 0) := by omega
 have h2 : (0 : Int) < n := by omega
 simp [h1, h2]
 refine ⟨wrap_i64 (by omega) (by omega), ?_⟩
 simp [h0, hn]
 omega
theorem Jxe (s : Store) (nx : Nat) : Gives Tryz.prog GL 79 [.nils, .p (.int .i64 0)] s nx .nils [] [] nx := by
 refine Gives.mk_walkK (N := 27) (args := [.nils, .p (.int .i64 0)]) [] [] [] [] 0 0 .nils (fun _ => []) (up1 := []) Tryz.func79 rfl rfl rfl (by simp) rfl (by simp) (by simp) (by simp) (by simp) (by simp) rfl ?_
 simp
theorem Jxc (n : Nat) (s : Store) (nx : Nat) (h0 : 0 < n) (hn : n < 1000000000) :
   Gives Tryz.prog GL 164 [.nils, .p (.int .i64 n)] s nx (.ref nx 1 0 0 none) [] [(nx, some (.cells 1 (List.replicate n [.p (.bool false)])))] (nx + 1) := by
 refine Gives.mk_walkK (N := 27) (args := [.nils, .p (.int .i64 n)]) [] [] [] [(0, some (.cells 1 (List.replicate n [.p (.bool false)])))] 0 1 (.ref 0 1 0 0 none) (nms [4]) (up1 := [(nx, some (.cells 1 (List.replicate n [.p (.bool false)])))]) Tryz.func164 rfl rfl rfl (by simp) rfl (by simp) (by simp) (by simp) (by simp) (by simp) rfl ?_
 have h1 : ¬ ((n : Int) < 0) := by omega
 have h2 : (0 : Int) < n := by omega
 simp [h1, h2]
 refine ⟨wrap_i64 (by omega) (by omega), ?_⟩
 simp [h0, hn]
 omega
@[simp] def lstI (l : List Int) : List PV := [.lst 1 (l.map Int.enc)]
def catI (ls : List (List Int)) : List Int := ls.flatten
theorem Jkn : catI [] = [] := rfl
theorem Jow {ls : List (List Int)} {k : Nat} {x : List Int} (e : ls[k]? = some x) : catI (ls.take (k + 1)) = catI (ls.take k) ++ x := by simp only [catI]; rw [take_snoc e]; simp
theorem Jov {ls : List (List Int)} {k : Nat} : (catI (ls.take k)).length <= (catI ls).length := by
 have : catI ls = catI (ls.take k) ++ catI (ls.drop k) := by simp only [catI]; rw [<- List.flatten_append, List.take_append_drop]
 rw [this]; simp
theorem Jv4 {ls : List (List Int)} (h : catI ls = []) {k : Nat} {x : List Int} (e : ls[k]? = some x) : x = [] := List.flatten_eq_nil_iff.1 h x (List.mem_of_getElem? e)
set_option maxHeartbeats 1000000 in
theorem Jlg (ls : List (List Int)) (hn : (catI ls).length < 100000000) (hl : ls.length < 100000) (st : Store) (nx : Nat) :
   Gives Tryz.prog GL 54 [.p (.lst 1 (ls.map lstI))] st nx (.acc nx 1 (catI ls).length) [] [(nx, accB 1 ((catI ls).map Int.row))] (nx + 1) := by
 refine Gives.mk_walkK (N := 36) (args := [.p (.lst 1 (ls.map lstI))]) [] [] [] [(0, accB 1 ((catI ls).map Int.row))] 0 1 (.acc 0 1 (catI ls).length) (nms [2]) (up1 := [(nx, accB 1 ((catI ls).map Int.row))]) Tryz.func54 rfl rfl rfl (by simp) rfl (by simp) (by simp) (by simp) (Jay rfl (Jao fun _ => rfl)) (by simp) rfl ?_
 simp
 refine Jai.go [0, 9, 10] [] 0 [] (fun _ => []) (fun _ (k : Nat) => [(3, .p (.int .i64 (catI (ls.take k)).length)), (11, .p (.int .i64 k))]) (fun _ _ => []) (fun k => k <= ls.length) (fun k => ls.length - k) 0 (by omega) ?_ ?_
 . simp [Jkn]
 . intro k hk
   simp
   refine Jan (fun h => ?_) (fun h => ?_)
   . simp at h
     obtain ⟨x, e⟩ := Jae h
     have hf := Jow e
     have hle := Jov (ls := ls) (k := k + 1)
     rw [hf, List.length_append] at hle
     simp [h, e, -getElem?_pos, List.getElem?_cons_zero, List.getElem?_cons_succ]
     refine ⟨wrap_i64 (by omega) (by omega), ?_⟩
     have h1 : ¬ (((catI (ls.take k)).length : Int) + x.length < 0) := by omega
     simp [h1]
     refine ⟨wrap_i64 (by omega) (by omega), k + 1, by omega, by omega, ?_⟩
     simp [hf]
   . simp at h
     have hk2 : k = ls.length := by omega
     subst hk2
     by_cases h0 : catI ls = []
     . simp [h0]
       refine Jag (Jxe _ _) ?_
       simp
       refine Jai.go [25, 26] [] 0 [] (fun _ => []) (fun _ (k : Nat) => [(6, .nils), (27, .p (.int .i64 k))]) (fun _ _ => []) (fun k => k <= ls.length) (fun k => ls.length - k) 0 (by omega) ?_ ?_
       . simp
       . intro k hk
         simp
         refine Jan (fun h => ?_) (fun h => ?_)
         . simp at h
           obtain ⟨x, e⟩ := Jae h
           have hx := Jv4 h0 e
           subst hx
           simp [h, e, -getElem?_pos, List.getElem?_cons_zero, List.getElem?_cons_succ]
           refine ⟨wrap_i64 (by omega) (by omega), k + 1, by omega, by omega, ?_⟩
           simp
         . simp [h0]
     . simp
       refine Jag (Jxd (catI ls).length _ _ (List.length_pos_iff.2 h0) (by omega)) ?_
       simp
       refine Jai.gor [25, 26] [] [0] (nms [6]) (fun (k : Nat) => [(6, .ref 0 1 0 (catI (ls.take k)).length none), (27, .p (.int .i64 k))]) (fun k => [(0, some (.cells 1 (if k = 0 then List.replicate (catI ls).length [.p (.int .i64 0)] else (catI (ls.take k)).map Int.row)))]) (fun k => k <= ls.length) (fun k => ls.length - k) 0 (by omega) ?_ ?_
       . simp [Jkn]
       . intro k hk
         simp
         refine Jan (fun h => ?_) (fun h => ?_)
         . simp at h
           obtain ⟨x, e⟩ := Jae h
           have hf := Jow e
           have hle := Jov (ls := ls) (k := k + 1)
           rw [hf, List.length_append] at hle
           have hR : ∃ R : List (List AV), (if k = 0 then List.replicate (catI ls).length [AV.p (.int .i64 0)] else (catI (ls.take k)).map Int.row) = R /\ R.take (catI (ls.take k)).length = (catI (ls.take k)).map Int.row /\ (∀ r ∈ R, r.length = 1) /\ (catI (ls.take k)).length <= R.length := by
             refine ⟨_, rfl, ?_⟩
             by_cases h0 : k = 0
             . subst h0; simp [Jkn]
             . simp only [h0, if_false]
               exact ⟨List.take_of_length_le (by simp), by simp, by simp⟩
           obtain ⟨R, hR1, hR2, hR3, hR4⟩ := hR
           simp [h, e, hR1, -getElem?_pos, List.getElem?_cons_zero, List.getElem?_cons_succ]
           have hrow : (fun x => List.map AV.p x) ∘ Int.enc = Int.row := rfl
           refine ⟨by omega, hR4, hR3, wrap_i64 (by omega) (by omega), k + 1, by omega, by omega, ?_⟩
           simp [hf, hR2, hrow]
         . simp at h
           have hk2 : k = ls.length := by omega
           subst hk2
           have hk3 : ¬ ls.length = 0 := fun h => h0 (by rw [List.length_eq_zero_iff.1 h]; rfl)
           have h4 : accB 1 ((catI ls).map Int.row) = some (.cells 1 ((catI ls).map Int.row)) := by simp [accB, h0]
           simp [hk3, h4]
           exact List.length_pos_iff.2 h0
theorem Jh3 {a b : List Int} : catI [a, b] = a ++ b := by simp [catI]
def mrgI (a b : List Int) : List Int := Jby (Jci (a ++ b))
theorem Jks {l : List Int} : (Jby l).length <= l.length := Jwi
theorem Jiw {a b : List Int} : (mrgI a b).length <= a.length + b.length := by
 have h := @Jks (Jci (a ++ b))
 rw [Jga, List.length_append] at h
 exact h
theorem Jkg (a b : List Int) (h : a.length + b.length < 10000000) : Pure Tryz.prog GL 27 [.p (.lst 1 (a.map Int.enc)), .p (.lst 1 (b.map Int.enc))] (.p (.lst 1 ((mrgI a b).map Int.enc))) := by
 refine Pure.of_walk (N := 14) Tryz.func27 rfl rfl rfl (by simp) (by first | (simp; done) | simp [*]) ?_
 unfold mrgI
 simp
 refine Jhr ?_
 simp
 refine ⟨_, _, _, Jlg [a, b] (by rw [Jh3, List.length_append]; omega) (by simp) [] _, rfl, Jcv.acc .nil fun _ => rfl, ?_⟩
 rw [Jh3]
 simp
 by_cases hC : a ++ b = []
 . obtain ⟨rfl, rfl⟩ := List.append_eq_nil_iff.1 hC
   have hfin : Jby (Jci ([] ++ [] : List Int)) = [] := by simp [Jby, Jci, ddT]
   rw [hfin]
   simp
   refine Jag (Gives.of_acc (rest := []) (fun _ => Jpn _ _) (fun h => absurd h (by simp))) ?_
   simp
   refine Jag (Gives.of_acc (rest := []) (fun _ => Jpl _ _) (fun h => absurd h (by simp))) ?_
   simp [Jaa]
 . have hl : (a ++ b).length < 10000000 := by rw [List.length_append]; omega
   have hlen : a.length + b.length = (a ++ b).length := by rw [List.length_append]
   have hmp : a.map Int.row ++ b.map Int.row = (a ++ b).map Int.row := by rw [List.map_append]
   simp only [hlen, hmp]
   generalize a ++ b = C at *
   have hacC : accB 1 (C.map Int.row) = some (.cells 1 (C.map Int.row)) := by simp [accB, hC]
   have hCl : 0 < C.length := List.length_pos_iff.2 hC
   rw [hacC]
   have hsl := @Jga C
   have hsne : Jci C ≠ [] := fun e => by rw [e] at hsl; simp at hsl; omega
   refine Jag (Gives.of_acc (rest := []) (fun h => absurd h (by omega)) (fun _ => Jpm C _ _ 1 none (by simp) (by omega))) ?_
   simp
   have hgc := fun s nx => Jpk (Jci C) s nx 1
   rw [hsl] at hgc
   refine Jag (Gives.of_acc (rest := []) (fun h => absurd h (by omega)) (fun _ => hgc _ _ (by simp) (by simp) (by omega) hsne)) ?_
   simp [Jaa]
end Go.Am
namespace Go.Am
open Go Go.Proofs Go.Pn
theorem Jwo {i j : Nat} (hi : i < 12) (hj : j < i) : endT j ≠ endT i := by
 have key : ∀ i : Fin 12, ∀ j : Fin 12, j.val < i.val -> endT j.val ≠ endT i.val := by decide
 exact key ⟨i, hi⟩ ⟨j, by omega⟩ hj
theorem Jqw {c : Ctl} {i : Nat} (h : i < 2 * actN c) : nmF c i = endT i := if_pos h
theorem Jus (c : Ctl) (h : Sm c) (v : Int) : Pure Tryz.prog GL 92 [.p (.int .i64 v), .iptr 5 [[.int .i64 c.act, .lst 1 (c.inputs.map Txt.enc), .lst 10 (c.sigs.map Sig.enc), .lst 1 (c.plus.map Int.enc), .lst 1 (c.minus.map Int.enc)]] 0 0] (.p (.bool (decide (v < 0) || decide ((cntN c : Int) <= v)))) := by
 refine Pure.of_walk (N := 12) Tryz.func92 rfl rfl rfl (by simp) (by first | (simp; done) | simp [*]) ?_
 have hN := Jke c h
 simp only [Ctl.av] at hN
 by_cases h1 : v < 0
 . simp [h1, Jaa]
 . simp [h1]
   refine Jab hN ?_
   simp [Jaa]
   omega
set_option maxHeartbeats 2000000 in
set_option maxRecDepth 20000 in
theorem Jxh (c : Ctl) (hc : RC c) (hL : Lg c) (st : Store) (nx : Nat) :
   Gives Tryz.prog GL 61 [c.av] st nx (.tup [.map nx, .p (.int .i64 0)]) [] [(nx, some (.map (nmsM (nmL c (cntN c)))))] (nx + 1) := by
 have hS := hc.sm hL
 have hsg := fun i x hx => hc.sigOk (i := i) (x := x) hS hx
 obtain ⟨a1, a2, a3⟩ := hc.act
 have hi16 := hc.inputs
 have hs64 := hc.sigs
 have hpl := hc.plus
 have hml := hc.minus
 have hli := hc.lines
 have hnm := hc.names
 have hcn : cntN c = fstN c + c.sigs.length := rfl
 have hfn : fstN c = 2 * actN c + c.inputs.length := rfl
 refine Gives.mk_walkK (N := 111) (args := [c.av]) [] [] [] [(0, some (.map (nmsM (nmL c (cntN c)))))] 0 1 (.tup [.map 0, .p (.int .i64 0)]) (fun st => [1]) (up1 := [(nx, some (.map (nmsM (nmL c (cntN c)))))]) Tryz.func61 rfl rfl rfl (by simp) rfl (by simp) (by simp) (by simp) (by simp) (by simp) rfl ?_
 have b1 : ¬ c.act < 1 := by omega
 have b2 : ¬ 6 < c.act := by omega
 have b3 : ¬ (16 : Int) < (c.inputs.length : Int) := by omega
 have b4 : ¬ (64 : Int) < (c.sigs.length : Int) := by omega
 simp [b1, b2, b3, b4]
 have hw : IntKind.i64.wrap (2 * c.act) = 2 * c.act := wrap_i64 (by omega) (by omega)
 refine ⟨hw, ?_⟩
 refine Jai.go [1, 4, 45] [0, 2] 0 [] (fun _ => []) (fun _ (k : Nat) => [(46, .p (.int .i64 k))]) (fun _ k => [(1, some (.map (nmsM (nmL c k))))]) (fun k => k <= 2 * actN c) (fun k => 2 * actN c - k) 0 (by omega) ?_ ?_
 . simp [nmL, nmsM]
   try decide
 intro k hk
 simp
 refine Jan (fun h => ?_) (fun h => ?_)
 . simp at h
   have hk2 : k < 2 * actN c := by omega
   have hnew : nmF c k ∉ nmL c k := Jls fun j hj => by
     rw [Jqw hk2, Jqw (by omega)]
     exact Jwo (by omega) hj
   have hpt := Jlw hnew
   rw [Jzn, <- Jlt] at hpt
   have hNm := Jux c k hS (by omega)
   simp only [Ctl.av] at hNm
   simp
   refine Jaf.intro (by kernel_rfl) ?_
   simp
   refine Jab hNm ?_
   simp [hpt]
   exact ⟨.of (by kernel_rfl), wrap_i64 (by omega) (by omega), k + 1, by omega, by omega, by omega, rfl⟩
 . simp at h
   have hk2 : k = 2 * actN c := by omega
   subst hk2
   simp
   refine Jai.go [1, 4, 59, 60] [0, 2] 0 [] (fun _ => []) (fun _ (k : Nat) => [(61, .p (.int .i64 k))]) (fun _ k => [(1, some (.map (nmsM (nmL c (2 * actN c + k)))))]) (fun k => k <= c.inputs.length) (fun k => c.inputs.length - k) 0 (by omega) ?_ ?_
   . simp
     try decide
   intro k hk
   simp
   refine Jan (fun h2 => ?_) (fun h2 => ?_)
   . simp at h2
     obtain ⟨s, e⟩ := Jae h2
     obtain ⟨n1, n2, n3⟩ := Jqv (hnm (2 * actN c + k) (by omega) (by omega))
     have hnf : nmF c (2 * actN c + k) = s := Jlu (by omega) (by omega) (by rw [show 2 * actN c + k - 2 * actN c = k by omega]; exact e)
     have hnew := Jls n3
     have hsn := @Jlt c (2 * actN c + k)
     rw [hnf] at n1 n2 hnew hsn
     simp [h2, e, -getElem?_pos, List.getElem?_cons_zero, List.getElem?_cons_succ]
     refine Jag (Jpp c (nmL c (2 * actN c + k)) s n1 n2 hnew _ _ 2 1 (by simp) (by simp) rfl rfl) ?_
     rw [<- hsn]
     simp
     exact ⟨wrap_i64 (by omega) (by omega), k + 1, by omega, by omega, by omega, rfl⟩
   . simp at h2
     have hk2 : k = c.inputs.length := by omega
     subst hk2
     rw [<- hfn]
     simp
     refine Jai.go [1, 4, 74] [0, 2] 0 [] (fun _ => []) (fun _ (k : Nat) => [(75, .p (.int .i64 k))]) (fun _ k => [(1, some (.map (nmsM (nmL c (fstN c + k)))))]) (fun k => k <= c.sigs.length) (fun k => c.sigs.length - k) 0 (by omega) ?_ ?_
     . simp
       try decide
     intro k hk
     simp
     refine Jan (fun h3 => ?_) (fun h3 => ?_)
     . simp at h3
       obtain ⟨x, e⟩ := Jae h3
       simp
       refine Jag (Jx2 c hS k x e (hsg k x e) (hnm (fstN c + k) (by omega) (by omega)) _ _ 2 1 (by simp) (by simp) rfl rfl) ?_
       simp
       exact ⟨wrap_i64 (by omega) (by omega), k + 1, by omega, by omega, by omega, rfl⟩
     . simp at h3
       have hk2 : k = c.sigs.length := by omega
       subst hk2
       rw [<- hcn]
       have p1 : (c.plus.length : Int) = c.act := by omega
       have p2 : (c.minus.length : Int) = c.act := by omega
       simp [p1, p2]
       refine Jhr ?_
       simp
       refine ⟨_, _, _, Jlg [c.plus, c.minus] (by rw [Jh3, List.length_append]; omega) (by simp) [] _, rfl, Jcv.acc .nil fun _ => rfl, ?_⟩
       rw [Jh3]
       have hC := Jka (c.plus ++ c.minus) (fun v => decide (v < 0) || decide ((cntN c : Int) <= v)) 92 [.iptr 5 [[.int .i64 c.act, .lst 1 (c.inputs.map Txt.enc), .lst 10 (c.sigs.map Sig.enc), .lst 1 (c.plus.map Int.enc), .lst 1 (c.minus.map Int.enc)]] 0 0] rfl (by rw [List.length_append]; omega) (fun v _ => Jus c hS v)
       have hany : ((c.plus ++ c.minus).any fun v => decide (v < 0) || decide ((cntN c : Int) <= v)) = false := by
         rw [List.any_eq_false]
         intro v hv
         have := hli v hv
         simp
         omega
       rw [hany] at hC
       generalize c.plus ++ c.minus = D at *
       simp
       refine Jc4 ?_
       simp
       refine ⟨_, hC, rfl, ?_⟩
       simp
theorem Jog (c : Ctl) (hc : RC c) (hL : Lg c) : Pure Tryz.prog GL 40 [c.av] (.p (.int .i64 0)) := by
 have hg := fun st nx => Jxh c hc hL st nx
 refine Pure.of_walk (N := 11) Tryz.func40 rfl rfl rfl (by simp) rfl ?_
 simp
 refine Jag (hg _ _) ?_
 simp [Jaa]
theorem Jhz (c : Ctl) (s : Sta) (h : RS c s) (hc : RC c) (hL : Lg c) : Pure Tryz.prog GL 42 [c.av, s.av] (.p (.int .i64 0)) := by
 refine Pure.of_walk (N := 14) Tryz.func42 rfl rfl rfl (by simp) (by first | (simp; done) | simp [*]) ?_
 have h1 := Jog c hc hL
 have h2 := Juu c s h hc
 simp
 refine Jab h1 ?_
 simp
 refine Jab h2 ?_
 simp [Jaa]
end Go.Am
